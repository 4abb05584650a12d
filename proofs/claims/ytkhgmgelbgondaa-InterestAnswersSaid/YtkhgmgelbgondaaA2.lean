/-
  What functions of the program compute, stated as contracts over plain data; the conditions of each stand in its own statement.
-/
import Derived.Test.YtkhgmgelbgondaaA1
import Derived.Test.YtkhgmgelbgondaaA0
set_option linter.unusedSimpArgs false
set_option maxRecDepth 100000
set_option maxHeartbeats 1000000
namespace Go.Proofs
open Go Go.Tr

theorem put_c (l : List Int) (hl : l.length ≤ 1000000) (n : Int) : Contract Try.prog 12 [.d (ints l), .d (.int .i64 n)] [] (.d (ints (insI l n))) [] [] := by
  refine contract_of Try.func12 rfl (fun E0 => ?_)
  refine awp.sound (g := .mk) (ow := [35]) (kp := (fun k => k == 0 || k == 1 || k == 4 || k == 5 || k == 6 || k == 18 || k == 32)) ?_
  rw [Try.ntmps12]
  simp -dsimp [ints]
  refine ALoop.of [] (fun k => k == 0 || k == 1 || k == 4 || k == 5 || k == 6 || k == 18 || k == 32) (ι := { p : Nat // p ≤ l.length ∧ insPos n l = p + insPos n (l.drop p) }) (fun z => [(Pl.s 0, It.v (.d (ints l))), (Pl.s 1, It.v (.d (.int .i64 n))), (Pl.s 4, It.v (TV.c (Value.slice none 0 0))), (Pl.s 5, It.v (TV.d (D.int IntKind.i64 z.1)))]) (fun z => l.length - z.1) ⟨0, by omega, by simp⟩ ?_ ?_
  · exact GS.to (by simp [ints])
  · rintro ⟨p, p1, p2⟩
    by_cases hp : p < l.length
    · have hd : l.drop p = l[p] :: l.drop (p + 1) := List.drop_eq_getElem_cons _
      by_cases h : l[p] < n
      · simp -dsimp [ints, hp, h, wrap_i64 (n := (p : Int) + 1) (by omega) (by omega)]
        try refine ⟨?_, ⟨by kernel_rfl⟩⟩
        exact ⟨⟨p + 1, by omega, by rw [p2, hd, insPos, if_pos h]; omega⟩, GS.to (by simp [ints]), by simp; omega⟩
      · have hq : insPos n l = p := by rw [p2, hd, insPos, if_neg h]; omega
        by_cases he : l[p] = n
        · simp -dsimp [ints, hp, h, he]
          try refine ⟨?_, ⟨by kernel_rfl⟩⟩
          refine Fin.of ?_
          have hI : insI l n = l := by rw [insI, if_pos (by rw [hq, List.getElem?_eq_getElem hp, he])]
          simp [hI]
        · simp -dsimp [ints, hp, h, he]
          have dl : dLen 1 (l.map fun x => [D.int .i64 x]) := dLen_map 1 _ _ fun _ => rfl
          and_intros
          all_goals try first | omega | exact ⟨by kernel_rfl⟩ | exact dLen_take dl | exact dLen_drop (dLen_take dl) | (simp; omega)
          refine Fin.view 4 ?_
          simp -dsimp
          and_intros
          all_goals try first | omega | exact ⟨by kernel_rfl⟩ | (simp; omega)
          refine Fin.of ?_
          have hI : insI l n = l.take p ++ [n] ++ l.drop p := by rw [insI, hq, if_neg (by rw [List.getElem?_eq_getElem hp]; simpa using he)]
          simp [hI, ints, List.take_of_length_le]
    · have hq : insPos n l = p := by rw [p2, List.drop_eq_nil_of_le (by omega), insPos]; omega
      simp -dsimp [ints, hp]
      have dl : dLen 1 (l.map fun x => [D.int .i64 x]) := dLen_map 1 _ _ fun _ => rfl
      and_intros
      all_goals try first | omega | exact ⟨by kernel_rfl⟩ | exact dLen_take dl | exact dLen_drop (dLen_take dl) | (simp; omega)
      refine Fin.view 4 ?_
      simp -dsimp
      and_intros
      all_goals try first | omega | exact ⟨by kernel_rfl⟩ | (simp; omega)
      refine Fin.of ?_
      have hI : insI l n = l.take p ++ [n] ++ l.drop p := by rw [insI, hq, if_neg (by rw [List.getElem?_eq_none (by omega)]; simp)]
      simp [hI, ints, List.take_of_length_le]

def gSrcL : Nat → Tp → List Int → List Int × Tp
  | 0, T, l => (l, T)
  | i + 1, T, l =>
    let a := gRange T 1 6
    let b := gRange a.2 1 20
    let c := gRange b.2 1 99
    let p := gPick c.2 [a.1, b.1, c.1]
    gSrcL i p.2 (insI l p.1)
def gSrc (T : Tp) (n : Int) : List Int × Tp := gSrcL (gNext T (n + 1)).1.toNat (gNext T (n + 1)).2 []
theorem insI_len (l : List Int) (n : Int) : (insI l n).length ≤ l.length + 1 := by
  unfold insI
  split
  · omega
  · have := insPos_le n l
    simp
    omega
theorem sources_c (T : Tp) (hT : TapeOK T) (n : Int) (hn : 0 ≤ n ∧ n ≤ 1000) : Contract Try.prog 53 [.ptr (.x 0) 0, .d (.int .i64 n)] [tapeI T] (.d (ints (gSrc T n).1)) [tapeI (gSrc T n).2] [] := by
  have b1 := gNext_nonneg T (n + 1)
  have b2 := gNext_lt T (n := n + 1) (by omega)
  refine contract_of Try.func53 rfl (fun E0 => ?_)
  refine awp.sound (g := .mk) (ow := []) (kp := (fun k => k == 0 || k == 1 || k == 4 || k == 5 || k == 6 || k == 12)) ?_
  rw [Try.ntmps53]
  simp -dsimp [wrap_i64 (n := n + 1) (by omega) (by omega)]
  refine ACall.of (next_c T hT (n + 1) ⟨by omega, by omega⟩) [.x 0] 0 ?_
  simp -dsimp
  generalize hR : gNext T (n + 1) = R at b1 b2 ⊢
  have kR : TapeOK R.2 := by rw [← hR]; simpa using hT
  refine ALoop.of [] (fun k => k == 0 || k == 1 || k == 4 || k == 5 || k == 6 || k == 12) (ι := { z : Nat × Tp × List Int // (z.1 : Int) ≤ R.1 ∧ TapeOK z.2.1 ∧ (z.2.2.length : Int) + z.1 ≤ R.1 ∧ gSrcL R.1.toNat R.2 [] = gSrcL z.1 z.2.1 z.2.2 })
    (fun z => [(Pl.s 0, It.v (TV.ptr (Pl.x 0) 0)), (Pl.s 1, It.v (TV.d (D.int IntKind.i64 n))), (Pl.x 0, tapeI z.1.2.1),
      (Pl.s 4, It.v (TV.c (Value.slice none 0 0))), (Pl.s 5, It.v (TV.d (ints z.1.2.2))), (Pl.s 6, It.v (TV.d (D.int IntKind.i64 z.1.1)))])
    (fun z => z.1.1) ⟨(R.1.toNat, R.2, []), by simp; omega, kR, by simp; omega, rfl⟩ ?_ ?_
  · refine GS.viewS 5 ?_
    simp [ints]
    omega
  · rintro ⟨⟨i, T', l⟩, i1, i2, i3, i4⟩
    simp only at i1 i2 i3 i4
    simp -dsimp
    refine AIf.dec (fun h => ?_) (fun h => ?_)
    · obtain ⟨i, rfl⟩ : ∃ j, i = j + 1 := ⟨i - 1, by omega⟩
      simp -dsimp
      refine ACall.of (range_c T' i2 1 6 ⟨by omega, by omega⟩ ⟨by omega, by omega⟩ ⟨by omega, by omega⟩ ⟨by have := gRange_lo T' 1 6; omega, by have := gRange_hi T' (a := 1) (b := 6) (by omega); omega⟩) [.x 0] 0 ?_
      simp -dsimp
      generalize ha : gRange T' 1 6 = a
      have ka : TapeOK a.2 := by rw [← ha]; simpa using i2
      refine ACall.of (range_c a.2 ka 1 20 ⟨by omega, by omega⟩ ⟨by omega, by omega⟩ ⟨by omega, by omega⟩ ⟨by have := gRange_lo a.2 1 20; omega, by have := gRange_hi a.2 (a := 1) (b := 20) (by omega); omega⟩) [.x 0] 0 ?_
      simp -dsimp
      generalize hb : gRange a.2 1 20 = b
      have kb : TapeOK b.2 := by rw [← hb]; simpa using ka
      refine ACall.of (range_c b.2 kb 1 99 ⟨by omega, by omega⟩ ⟨by omega, by omega⟩ ⟨by omega, by omega⟩ ⟨by have := gRange_lo b.2 1 99; omega, by have := gRange_hi b.2 (a := 1) (b := 99) (by omega); omega⟩) [.x 0] 0 ?_
      simp -dsimp
      generalize hc : gRange b.2 1 99 = c
      have kc : TapeOK c.2 := by rw [← hc]; simpa using kb
      refine ACall.of (pick_c c.2 kc [a.1, b.1, c.1] (by simp) (by simp)) [.x 0] 0 ?_
      simp -dsimp [ints]
      generalize hp : gPick c.2 [a.1, b.1, c.1] = p
      have kp : TapeOK p.2 := by rw [← hp]; simpa using kc
      refine ACall.of (put_c l (by omega) p.1) [] 0 ?_
      simp -dsimp [ints, wrap_i64 (n := (i : Int)) (by omega) (by omega)]
      have hl := insI_len l p.1
      exact ⟨⟨(i, p.2, insI l p.1), by dsimp only; omega, kp, by dsimp only; omega, by dsimp only; rw [i4, gSrcL]; simp only [ha, hb, hc, hp]⟩, GS.to (by simp [ints]), by simp⟩
    · obtain rfl : i = 0 := by omega
      simp -dsimp
      refine Fin.of ?_
      simp [gSrc, hR, i4, gSrcL, ints]
theorem gSrcL_ok : ∀ (n : Nat) (T : Tp) (l : List Int), TapeOK (gSrcL n T l).2 = TapeOK T
  | 0, T, l => rfl
  | n + 1, T, l => by simp [gSrcL, gSrcL_ok n]
@[simp] theorem gSrc_ok (T : Tp) (n : Int) : TapeOK (gSrc T n).2 = TapeOK T := by simp [gSrc, gSrcL_ok]
def fltT (f : Flt) : TV := .agg [.d (.int .i64 f.m), .d (ints f.s)]
def fpicks : List Int := [0, 2, 4, 4, 16, 99]
def gFlt (T : Tp) : Flt × Tp :=
  let n := gPick T fpicks
  let m := gRange n.2 1 2
  let s := gSrc m.2 n.1
  (⟨m.1, s.1⟩, s.2)
@[simp] theorem gFlt_ok (T : Tp) : TapeOK (gFlt T).2 = TapeOK T := by simp [gFlt]
theorem fpicks_r (T : Tp) : 0 ≤ (gPick T fpicks).1 ∧ (gPick T fpicks).1 ≤ 1000 := by
  unfold gPick
  rw [List.getD_eq_getElem?_getD]
  cases hl : fpicks[(gNext T fpicks.length).1.toNat]? with
  | none => simp
  | some x =>
    have := List.mem_of_getElem? hl
    simp [fpicks] at this
    simp; omega
theorem filter_c (T : Tp) (hT : TapeOK T) : Contract Try.prog 19 [.ptr (.x 0) 0] [tapeI T] (fltT (gFlt T).1) [tapeI (gFlt T).2] [] := by
  refine contract_of Try.func19 rfl (fun E0 => ?_)
  refine awp.sound (g := .mk) (ow := []) (kp := (fun k => k == 0 || k == 2 || k == 3)) ?_
  rw [Try.ntmps19]
  simp -dsimp
  refine ACall.of (pick_c T hT fpicks (by simp [fpicks]) (by simp [fpicks])) [.x 0] 0 ?_
  have hr := fpicks_r T
  simp -dsimp [ints, fpicks]
  rw [show [0, 2, 4, 4, 16, 99] = fpicks from rfl]
  generalize hn : gPick T fpicks = n at hr ⊢
  have kn : TapeOK n.2 := by rw [← hn]; simpa using hT
  have b1 := gRange_lo n.2 1 2
  have b2 := gRange_hi n.2 (a := 1) (b := 2) (by omega)
  refine ACall.of (range_c n.2 kn 1 2 ⟨by omega, by omega⟩ ⟨by omega, by omega⟩ ⟨by omega, by omega⟩ ⟨by omega, by omega⟩) [.x 0] 0 ?_
  simp -dsimp
  generalize hm : gRange n.2 1 2 = m
  have km : TapeOK m.2 := by rw [← hm]; simpa using kn
  refine ACall.of (sources_c m.2 km n.1 hr) [.x 0] 0 ?_
  simp -dsimp
  refine Fin.of ?_
  simp [gFlt, hn, hm, fltT]
end Go.Proofs

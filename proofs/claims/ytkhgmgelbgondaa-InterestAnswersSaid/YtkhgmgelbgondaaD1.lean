/-
  What functions of the program compute, stated as contracts over plain data; the conditions of each stand in its own statement.
-/
import Derived.Test.YtkhgmgelbgondaaA3
import Derived.Test.YtkhgmgelbgondaaTF
import Derived.Test.YtkhgmgelbgondaaD0
set_option linter.unusedSimpArgs false
set_option maxRecDepth 100000
set_option maxHeartbeats 8000000
namespace Go.Proofs
open Go Go.Tr

@[simp] theorem tape_ren (a b : Nat) (T : Tp) : renI a b (tapeI T) = tapeI T := by simp [tapeI]
def memC (x : Mem) : List D := [.int .i64 x.h, .int .i64 x.g, .int .i64 x.f.m, ints x.f.s, .int .i64 x.u]
def mems (l : List Mem) : D := .sl (l.map memC)
def mbsT (m : Mbs) : TV := .agg [.d (.int .i64 m.now), .d (mems m.l)]
def wntC (x : Wnt) : List D := [.int .i64 x.g, .int .i64 x.f.m, ints x.f.s]
def wntD (l : List Wnt) : D := .sl (l.map wntC)
def fixF (f : Flt) : Flt := if f.non = true then ⟨2, f.s⟩ else f
def upicks : List Int := [0, 1, 30, 1000]
def npicks : List Int := [0, 10, 500, 998000]
def gMem (T : Tp) (now : Int) : Mem × Tp :=
  let a := gRange T 1 8
  let b := gRange a.2 1 4
  let f := gFlt b.2
  let u := gPick f.2 upicks
  (⟨a.1, b.1, fixF f.1, now + u.1⟩, u.2)
def gMemL : Nat → Tp → Int → List Mem → List Mem × Tp
  | 0, T, _, l => (l, T)
  | i + 1, T, now, l => gMemL i (gMem T now).2 now (putM (gMem T now).1 l)
def gMbs (T : Tp) (n : Int) : Mbs × Tp :=
  let w := gPick T npicks
  let k := gNext w.2 (n + 1)
  (⟨w.1, (gMemL k.1.toNat k.2 w.1 []).1⟩, (gMemL k.1.toNat k.2 w.1 []).2)
@[simp] theorem gMem_ok (T : Tp) (n : Int) : TapeOK (gMem T n).2 = TapeOK T := by simp [gMem]
theorem upicks_r (T : Tp) : 0 ≤ (gPick T upicks).1 ∧ (gPick T upicks).1 ≤ 1000 := by
  unfold gPick
  rw [List.getD_eq_getElem?_getD]
  cases hl : upicks[(gNext T upicks.length).1.toNat]? with
  | none => simp
  | some x =>
    have := List.mem_of_getElem? hl
    simp [upicks] at this
    simp; omega
theorem npicks_r (T : Tp) : 0 ≤ (gPick T npicks).1 ∧ (gPick T npicks).1 ≤ 998000 := by
  unfold gPick
  rw [List.getD_eq_getElem?_getD]
  cases hl : npicks[(gNext T npicks.length).1.toNat]? with
  | none => simp
  | some x =>
    have := List.mem_of_getElem? hl
    simp [npicks] at this
    simp; omega
theorem members_c (T : Tp) (hT : TapeOK T) (n : Int) (hn : 0 ≤ n ∧ n ≤ 100) : Contract Try.prog 8 [.ptr (.x 0) 0, .d (.int .i64 n)] [tapeI T] (mbsT (gMbs T n).1) [tapeI (gMbs T n).2] [] := by
  refine contract_of Try.func8 rfl (fun E0 => ?_)
  refine awp.sound (g := .mk) (ow := [121]) (kp := (fun k => k == 0 || k == 1 || k == 4 || k == 5 || k == 6 || k == 7 || k == 8 || k == 9 || k == 19 || k == 45 || k == 85 || k == 114)) ?_
  rw [Try.ntmps8]
  simp -dsimp
  refine ACall.of (pick_c T hT npicks (by simp [npicks]) (by simp [npicks])) [.x 0] 0 ?_
  have w0 := npicks_r T
  simp -dsimp [ints, npicks]
  rw [show [0, 10, 500, 998000] = npicks from rfl]
  generalize hw : gPick T npicks = w at w0 ⊢
  have kw : TapeOK w.2 := by rw [← hw]; simpa using hT
  have b1 := gNext_nonneg w.2 (n + 1)
  have b2 := gNext_lt w.2 (n := n + 1) (by omega)
  simp -dsimp [wrap_i64 (n := n + 1) (by omega) (by omega)]
  refine ACall.of (next_c w.2 kw (n + 1) ⟨by omega, by omega⟩) [.x 0] 0 ?_
  simp -dsimp
  generalize hk : gNext w.2 (n + 1) = k at b1 b2 ⊢
  have kk : TapeOK k.2 := by rw [← hk]; simpa using kw
  refine ALoop.of [121] (fun k => k == 0 || k == 1 || k == 4 || k == 5 || k == 6 || k == 7 || k == 8 || k == 9 || k == 19 || k == 45 || k == 85 || k == 114) (ι := { z : Nat × Tp × List Mem // (z.1 : Int) ≤ k.1 ∧ TapeOK z.2.1 ∧ (z.2.2.length : Int) + z.1 ≤ k.1 ∧ gMemL k.1.toNat k.2 w.1 [] = gMemL z.1 z.2.1 w.1 z.2.2 })
    (fun z => [(Pl.s 0, It.v (TV.ptr (Pl.x 0) 0)), (Pl.s 1, It.v (TV.d (D.int IntKind.i64 n))), (Pl.x 0, tapeI z.1.2.1),
      (Pl.o 4, It.box [TV.d (D.int IntKind.i64 0), TV.c (Value.slice none 0 0)]), (Pl.s 4, It.v (TV.ptr (Pl.o 4) 0)),
      (Pl.o 5, It.box [TV.d (D.int IntKind.i64 w.1), TV.oref 50 z.1.2.2.length]), (Pl.s 5, It.v (TV.ptr (Pl.o 5) 0)),
      (Pl.o 50, It.row 39 5 (dd (z.1.2.2.map memC)) false),
      (Pl.s 6, It.v (TV.d (D.int IntKind.i64 z.1.1)))])
    (fun z => z.1.1) ⟨(k.1.toNat, k.2, []), by simp; omega, kk, by simp; omega, rfl⟩ ?_ ?_
  · exact GS.ownB' (.o 5) 1 50 (cs := [TV.d (D.int IntKind.i64 w.1), TV.c (Value.slice none 0 0)]) 39 5 (by simp) (by simp) (by simp) (by simp) (by simp; omega)
  · rintro ⟨⟨i, T', l⟩, i1, i2, i3, i4⟩
    simp only at i1 i2 i3 i4
    simp -dsimp
    refine AIf.dec (fun h => ?_) (fun h => ?_)
    · obtain ⟨i, rfl⟩ : ∃ j, i = j + 1 := ⟨i - 1, by omega⟩
      simp -dsimp
      refine ACall.of (range_c T' i2 1 8 ⟨by omega, by omega⟩ ⟨by omega, by omega⟩ ⟨by omega, by omega⟩ ⟨by have := gRange_lo T' 1 8; omega, by have := gRange_hi T' (a := 1) (b := 8) (by omega); omega⟩) [.x 0] 0 ?_
      simp -dsimp
      generalize ha : gRange T' 1 8 = a
      have ka : TapeOK a.2 := by rw [← ha]; simpa using i2
      refine ACall.of (range_c a.2 ka 1 4 ⟨by omega, by omega⟩ ⟨by omega, by omega⟩ ⟨by omega, by omega⟩ ⟨by have := gRange_lo a.2 1 4; omega, by have := gRange_hi a.2 (a := 1) (b := 4) (by omega); omega⟩) [.x 0] 0 ?_
      simp -dsimp
      generalize hb : gRange a.2 1 4 = b
      have kb : TapeOK b.2 := by rw [← hb]; simpa using ka
      refine ACall.of (filter_c b.2 kb) [.x 0] 0 ?_
      simp -dsimp
      generalize hf : gFlt b.2 = f
      have kf : TapeOK f.2 := by rw [← hf]; simpa using kb
      refine ACall.of (pick_c f.2 kf upicks (by simp [upicks]) (by simp [upicks])) [.x 0] 0 ?_
      have u0 := upicks_r f.2
      simp -dsimp [ints, upicks, fltT]
      rw [show [0, 1, 30, 1000] = upicks from rfl]
      generalize hu : gPick f.2 upicks = u at u0 ⊢
      have ku : TapeOK u.2 := by rw [← hu]; simpa using kf
      have wu0 := wrap_i64 (n := w.1 + u.1) (by omega) (by omega)
      obtain ⟨x, hx⟩ : ∃ x : Mem, x = ⟨a.1, b.1, fixF f.1, w.1 + u.1⟩ := ⟨_, rfl⟩
      have hM : gMem T' w.1 = (x, u.2) := by simp [gMem, ha, hb, hf, hu, hx]
      have hnon : ∀ b, f.1.non = b → (b = false → fixF f.1 = f.1) ∧ (b = true → fixF f.1 = ⟨2, f.1.s⟩) := fun b hb => ⟨fun e => by simp [fixF, hb, e], fun e => by simp [fixF, hb, e]⟩
      have h3 : ((f.1.m = 1) = True ∧ (f.1.s.length = 0) = True ∧ ((f.1.s.length : Int) = 0) = True ∧ fixF f.1 = ⟨2, f.1.s⟩) ∨ ((f.1.m = 1) = True ∧ (f.1.s.length = 0) = False ∧ ((f.1.s.length : Int) = 0) = False ∧ fixF f.1 = f.1) ∨ ((f.1.m = 1) = False ∧ (f.1.m = 1) = False ∧ (f.1.m = 1) = False ∧ fixF f.1 = f.1) := by
        by_cases c1 : f.1.m = 1
        · by_cases c2 : f.1.s.length = 0
          · have c2z : (f.1.s.length : Int) = 0 := by omega
            exact .inl ⟨eq_true c1, eq_true c2, eq_true c2z, (hnon true (by simp [Flt.non, c1, c2])).2 rfl⟩
          · have c2z : ¬ (f.1.s.length : Int) = 0 := by omega
            exact .inr (.inl ⟨eq_true c1, eq_false c2, eq_false c2z, (hnon false (by simp [Flt.non, c2])).1 rfl⟩)
        · exact .inr (.inr ⟨eq_false c1, eq_false c1, eq_false c1, (hnon false (by simp [Flt.non, c1])).1 rfl⟩)
      have dl : dLen 5 (l.map memC) := dLen_map 5 _ _ fun _ => rfl
      rcases h3 with ⟨c1, c2, c3, hF⟩ | ⟨c1, c2, c3, hF⟩ | ⟨c1, c2, c3, hF⟩
      all_goals
        simp -dsimp only [decide_true, decide_false, c1]
        simp -dsimp [wu0, c1, c2, c3]
        refine ⟨?_, ⟨by kernel_rfl⟩⟩
        have hl5 : (l.map memC).length = l.length := by simp
        cases hp : hitM x l with
        | true =>
          refine ALoop.of [] (fun k => k == 0 || k == 1 || k == 4 || k == 5 || k == 6 || k == 7 || k == 8 || k == 9 || k == 19 || k == 45 || k == 85 || k == 114) (ι := { q : Nat // q ≤ l.length ∧ ∀ a, a < q → ∀ y, l[a]? = some y → befM y x = true })
            (fun q => [(Pl.s 0, It.v (TV.ptr (Pl.x 0) 0)), (Pl.s 1, It.v (TV.d (D.int IntKind.i64 n))), (Pl.x 0, tapeI u.2),
              (Pl.o 4, It.box [TV.d (D.int IntKind.i64 0), TV.c (Value.slice none 0 0)]), (Pl.s 4, It.v (TV.ptr (Pl.o 4) 0)),
              (Pl.o 5, It.box [TV.d (D.int IntKind.i64 w.1), TV.oref 50 l.length]), (Pl.s 5, It.v (TV.ptr (Pl.o 5) 0)),
              (Pl.o 50, It.row 39 5 (dd (l.map memC)) false), (Pl.s 6, It.v (TV.d (D.int IntKind.i64 ((i : Int) + 1)))),
              (Pl.o 7, It.box [TV.d (D.int IntKind.i64 x.h), TV.d (D.int IntKind.i64 x.g), TV.d (D.int IntKind.i64 x.f.m), TV.d (ints x.f.s), TV.d (D.int IntKind.i64 x.u)]), (Pl.s 7, It.v (TV.ptr (Pl.o 7) 0)),
              (Pl.s 8, It.v (TV.d (D.int IntKind.i64 q.1)))])
            (fun q => l.length - q.1) ⟨0, by omega, fun a h => by omega⟩ ?_ ?_
          · exact GS.to (by simp [hx, hF, ints])
          · rintro ⟨q, q1, q2⟩
            have ql : q ≤ 100 := by omega
            by_cases hq : q < l.length
            · have hqz : (q : Int) < l.length := by omega
              have hg : l[q]? = some l[q] := List.getElem?_eq_getElem hq
              generalize l[q] = y at hg
              have hgd : (dd (l.map memC))[q]? = some [.d (.int .i64 y.h), .d (.int .i64 y.g), .d (.int .i64 y.f.m), .d (ints y.f.s), .d (.int .i64 y.u)] := by simp [dd, hg, memC]
              have hgm : (l.map memC)[q]? = some (memC y) := by simp [hg]
              have nx : befM y x = true → ∀ a, a < q + 1 → ∀ z, l[a]? = some z → befM z x = true := fun hb a ha z hz => by
                by_cases e : a = q
                · subst e; rw [hg] at hz; simp only [Option.some.injEq] at hz; subst hz; exact hb
                · exact q2 a (by omega) z hz
              by_cases b1 : y.g < x.g
              · simp -dsimp [hgd, hgm, memC, mems, hqz, eq_true b1, wrap_i64 (n := (q : Int) + 1) (by omega) (by omega)]
                and_intros
                all_goals try first | rfl | omega | exact ⟨by kernel_rfl⟩
                exact ⟨⟨q + 1, by omega, nx (befM_iff.2 (.inl b1))⟩, GS.to (by simp [mems]), by simp; omega⟩
              by_cases b2 : y.g = x.g
              · by_cases b3 : y.h < x.h
                · simp -dsimp [hgd, hgm, memC, mems, hqz, b1, eq_true b2, eq_true b3, wrap_i64 (n := (q : Int) + 1) (by omega) (by omega)]
                  and_intros
                  all_goals try first | rfl | omega | exact ⟨by kernel_rfl⟩
                  exact ⟨⟨q + 1, by omega, nx (befM_iff.2 (.inr ⟨b2, b3⟩))⟩, GS.to (by simp [mems]), by simp; omega⟩
                · have nb : befM y x = false := befM_no.2 (by omega)
                  have hput := put_hit (x := x) q1 q2 (fun z hz => by rw [hg] at hz; simp only [Option.some.injEq] at hz; subst hz; exact nb)
                  obtain ⟨hput, z, hz, hs⟩ := hput.1 hp
                  rw [hg] at hz; simp only [Option.some.injEq] at hz; subst hz
                  have b4 : y.h = x.h := by simp [samM] at hs; exact hs.2
                  simp -dsimp [hgd, hgm, memC, mems, hqz, b1, eq_true b2, b3, eq_true b4, wrap_i64 (n := (i : Int)) (by omega) (by omega)]
                  and_intros
                  all_goals try first | rfl | omega | exact ⟨by kernel_rfl⟩ | exact @dr
                  have hz1 : (dd (l.map memC)).set q [TV.d (D.int IntKind.i64 x.h), TV.d (D.int IntKind.i64 x.g), TV.d (D.int IntKind.i64 x.f.m), TV.d (ints x.f.s), TV.d (D.int IntKind.i64 x.u)] = dd ((l.set q x).map memC) := by simp [dd, memC, List.map_set]
                  exact ⟨⟨(i, u.2, l.set q x), by dsimp only; omega, ku, by simp; omega, by dsimp only; rw [i4, gMemL, hM, hput]⟩, GS.to (by simp [hz1]), by simp⟩
              · have nb : befM y x = false := befM_no.2 (by omega)
                have hput := put_hit (x := x) q1 q2 (fun z hz => by rw [hg] at hz; simp only [Option.some.injEq] at hz; subst hz; exact nb)
                obtain ⟨hput, z, hz, hs⟩ := hput.1 hp
                rw [hg] at hz; simp only [Option.some.injEq] at hz; subst hz
                simp [samM, b2] at hs
            · have hqz : ¬ (q : Int) < l.length := by omega
              have hput := put_hit (x := x) q1 q2 (fun z hz => by rw [List.getElem?_eq_none (by omega)] at hz; simp at hz)
              obtain ⟨hput, z, hz, hs⟩ := hput.1 hp
              rw [List.getElem?_eq_none (by omega)] at hz; simp at hz
        | false =>
          refine ALoop.of [] (fun k => k == 0 || k == 1 || k == 4 || k == 5 || k == 6 || k == 7 || k == 8 || k == 9 || k == 19 || k == 45 || k == 85 || k == 114) (ι := { q : Nat // q ≤ l.length ∧ ∀ a, a < q → ∀ y, l[a]? = some y → befM y x = true })
            (fun q => [(Pl.s 0, It.v (TV.ptr (Pl.x 0) 0)), (Pl.s 1, It.v (TV.d (D.int IntKind.i64 n))), (Pl.x 0, tapeI u.2),
              (Pl.o 4, It.box [TV.d (D.int IntKind.i64 0), TV.c (Value.slice none 0 0)]), (Pl.s 4, It.v (TV.ptr (Pl.o 4) 0)),
              (Pl.o 5, It.box [TV.d (D.int IntKind.i64 w.1), TV.d (mems l)]), (Pl.s 5, It.v (TV.ptr (Pl.o 5) 0)),
              (Pl.s 6, It.v (TV.d (D.int IntKind.i64 ((i : Int) + 1)))),
              (Pl.o 7, It.box [TV.d (D.int IntKind.i64 x.h), TV.d (D.int IntKind.i64 x.g), TV.d (D.int IntKind.i64 x.f.m), TV.d (ints x.f.s), TV.d (D.int IntKind.i64 x.u)]), (Pl.s 7, It.v (TV.ptr (Pl.o 7) 0)),
              (Pl.s 8, It.v (TV.d (D.int IntKind.i64 q.1)))])
            (fun q => l.length - q.1) ⟨0, by omega, fun a h => by omega⟩ ?_ ?_
          · exact GS.seeB' (.o 5) 1 50 (n := l.length) (e := 39) (k := 5) (es := dd (l.map memC)) (sh := false) (cs := [TV.d (D.int IntKind.i64 w.1), TV.oref 50 l.length]) (by simp) (by simp) (by simp) (by simp) (by simp) (toDss_dd _) (by simp [hx, hF, ints, mems])
          · rintro ⟨q, q1, q2⟩
            have ql : q ≤ 100 := by omega
            by_cases hq : q < l.length
            · have hqz : (q : Int) < l.length := by omega
              have hg : l[q]? = some l[q] := List.getElem?_eq_getElem hq
              generalize l[q] = y at hg
              have hgd : (dd (l.map memC))[q]? = some [.d (.int .i64 y.h), .d (.int .i64 y.g), .d (.int .i64 y.f.m), .d (ints y.f.s), .d (.int .i64 y.u)] := by simp [dd, hg, memC]
              have hgm : (l.map memC)[q]? = some (memC y) := by simp [hg]
              have nx : befM y x = true → ∀ a, a < q + 1 → ∀ z, l[a]? = some z → befM z x = true := fun hb a ha z hz => by
                by_cases e : a = q
                · subst e; rw [hg] at hz; simp only [Option.some.injEq] at hz; subst hz; exact hb
                · exact q2 a (by omega) z hz
              by_cases b1 : y.g < x.g
              · simp -dsimp [hgd, hgm, memC, mems, hqz, eq_true b1, wrap_i64 (n := (q : Int) + 1) (by omega) (by omega)]
                and_intros
                all_goals try first | rfl | omega | exact ⟨by kernel_rfl⟩
                exact ⟨⟨q + 1, by omega, nx (befM_iff.2 (.inl b1))⟩, GS.to (by simp [mems]), by simp; omega⟩
              by_cases b2 : y.g = x.g
              · by_cases b3 : y.h < x.h
                · simp -dsimp [hgd, hgm, memC, mems, hqz, b1, eq_true b2, eq_true b3, wrap_i64 (n := (q : Int) + 1) (by omega) (by omega)]
                  and_intros
                  all_goals try first | rfl | omega | exact ⟨by kernel_rfl⟩
                  exact ⟨⟨q + 1, by omega, nx (befM_iff.2 (.inr ⟨b2, b3⟩))⟩, GS.to (by simp [mems]), by simp; omega⟩
                · have nb : befM y x = false := befM_no.2 (by omega)
                  have hput := put_hit (x := x) q1 q2 (fun z hz => by rw [hg] at hz; simp only [Option.some.injEq] at hz; subst hz; exact nb)
                  obtain ⟨hput, hs⟩ := hput.2 hp
                  have b4 : ¬ y.h = x.h := fun e => by have := hs y hg; simp [samM, b2, e] at this
                  simp -dsimp [hgd, hgm, memC, mems, hqz, b1, eq_true b2, b3, b4, wrap_i64 (n := (i : Int)) (by omega) (by omega)]
                  and_intros
                  all_goals try first | rfl | omega | exact ⟨by kernel_rfl⟩ | exact dl | exact dLen_take dl | exact dLen_drop (dLen_take dl) | (simp; omega)
                  have hz2 : dd (List.take q (l.map memC)) ++ [TV.d (D.int IntKind.i64 x.h), TV.d (D.int IntKind.i64 x.g), TV.d (D.int IntKind.i64 x.f.m), TV.d (ints x.f.s), TV.d (D.int IntKind.i64 x.u)] :: dd (List.drop q (List.take l.length (l.map memC))) = dd ((putM x l).map memC) := by rw [hput]; simp [dd, memC, List.take_of_length_le]
                  have hz3 : min q l.length + (l.length - q + 1) = (putM x l).length := by rw [hput]; simp <;> omega
                  exact ⟨⟨(i, u.2, putM x l), by dsimp only; omega, ku, by have := putM_len x l; dsimp only; omega, by dsimp only; rw [i4, gMemL, hM]⟩, GS.ren' 133 50 (by decide) (by simp) (by simp [hz2, hz3]), by simp⟩
              · have nb : befM y x = false := befM_no.2 (by omega)
                have hput := put_hit (x := x) q1 q2 (fun z hz => by rw [hg] at hz; simp only [Option.some.injEq] at hz; subst hz; exact nb)
                obtain ⟨hput, hs⟩ := hput.2 hp
                simp -dsimp [hgd, hgm, memC, mems, hqz, b1, b2, wrap_i64 (n := (i : Int)) (by omega) (by omega)]
                and_intros
                all_goals try first | rfl | omega | exact ⟨by kernel_rfl⟩ | exact dl | exact dLen_take dl | exact dLen_drop (dLen_take dl) | (simp; omega)
                have hz2 : dd (List.take q (l.map memC)) ++ [TV.d (D.int IntKind.i64 x.h), TV.d (D.int IntKind.i64 x.g), TV.d (D.int IntKind.i64 x.f.m), TV.d (ints x.f.s), TV.d (D.int IntKind.i64 x.u)] :: dd (List.drop q (List.take l.length (l.map memC))) = dd ((putM x l).map memC) := by rw [hput]; simp [dd, memC, List.take_of_length_le]
                have hz3 : min q l.length + (l.length - q + 1) = (putM x l).length := by rw [hput]; simp <;> omega
                exact ⟨⟨(i, u.2, putM x l), by dsimp only; omega, ku, by have := putM_len x l; dsimp only; omega, by dsimp only; rw [i4, gMemL, hM]⟩, GS.ren' 133 50 (by decide) (by simp) (by simp [hz2, hz3]), by simp⟩
            · have hqz : ¬ (q : Int) < l.length := by omega
              have hput := put_hit (x := x) q1 q2 (fun z hz => by rw [List.getElem?_eq_none (by omega)] at hz; simp at hz)
              obtain ⟨hput, hs⟩ := hput.2 hp
              simp -dsimp [memC, mems, hqz, wrap_i64 (n := (i : Int)) (by omega) (by omega)]
              and_intros
              all_goals try first | rfl | omega | exact ⟨by kernel_rfl⟩ | exact dl | exact dLen_take dl | exact dLen_drop (dLen_take dl) | (simp; omega)
              have hz2 : dd (List.take q (l.map memC)) ++ [TV.d (D.int IntKind.i64 x.h), TV.d (D.int IntKind.i64 x.g), TV.d (D.int IntKind.i64 x.f.m), TV.d (ints x.f.s), TV.d (D.int IntKind.i64 x.u)] :: dd (List.drop q (List.take l.length (l.map memC))) = dd ((putM x l).map memC) := by rw [hput]; simp [dd, memC, List.take_of_length_le]
              have hz3 : min q l.length + (l.length - q + 1) = (putM x l).length := by rw [hput]; simp <;> omega
              exact ⟨⟨(i, u.2, putM x l), by dsimp only; omega, ku, by have := putM_len x l; dsimp only; omega, by dsimp only; rw [i4, gMemL, hM]⟩, GS.ren' 133 50 (by decide) (by simp) (by simp [hz2, hz3]), by simp⟩
    · obtain rfl : i = 0 := by omega
      simp -dsimp
      refine Fin.gs (GS.seeB' (.o 4) 1 50 (n := l.length) (e := 39) (k := 5) (es := dd (l.map memC)) (sh := false) (cs := [TV.d (D.int IntKind.i64 w.1), TV.oref 50 l.length]) (by simp) (by simp) (by simp) (by simp) (by simp) (toDss_dd _) (l' := [(Pl.s 4, It.v (TV.ptr (Pl.o 4) 0)), (Pl.o 4, It.box [TV.d (D.int IntKind.i64 w.1), TV.d (mems l)]), (Pl.x 0, tapeI T')]) (by simp [mems])) ?_
      refine Fin.of ?_
      simp [gMbs, hw, hk, i4, gMemL, mbsT, mems]
end Go.Proofs

/-
  What functions of the program compute, stated as contracts over plain data; the conditions of each stand in its own statement.
-/
import Derived.Test.YteenclepbpajdaaG7
set_option linter.unusedSimpArgs false
set_option maxRecDepth 100000
set_option maxHeartbeats 2000000
namespace Go.Proofs
open Go Go.Tr

structure Ed where
  r : Int
  id : Int
def Ed.cs (x : Ed) : List D := [.int .i64 x.r, .int .i64 x.id]
def eds (l : List Ed) : List (List D) := l.map Ed.cs
structure Pn where
  subd : Int
  len : Int
  es : List Ed
def planT (p : Pn) : TV := .agg [.d (.int .i64 p.subd), .d (.int .i64 p.len), .d (.sl (eds p.es))]
@[simp] theorem eds_len (l : List Ed) : (eds l).length = l.length := by simp [eds]
theorem eds_get {l : List Ed} {i : Nat} {x : Ed} (h : l[i]? = some x) : (eds l)[i]? = some x.cs := by simp [eds, h]
theorem eds_get' {l : List Ed} {i : Nat} {x : Ed} (h : l[i]? = some x) (hi : i < (eds l).length) : (eds l)[i] = x.cs := by
  have := eds_get h
  rw [List.getElem?_eq_getElem hi] at this
  simpa using this
theorem dLen_eds (l : List Ed) : dLen 2 (eds l) := dLen_map 2 _ _ fun _ => rfl
theorem rts_get {l : List Rt} {i : Nat} {x : Rt} (h : l[i]? = some x) : (rts l)[i]? = some x.cs := by simp [rts, h]
theorem rts_get' {l : List Rt} {i : Nat} {x : Rt} (h : l[i]? = some x) (hi : i < (rts l).length) : (rts l)[i] = x.cs := by
  have := rts_get h
  rw [List.getElem?_eq_getElem hi] at this
  simpa using this

def gPlanS (rs : List Rt) (len : Int) (x : Int) (T : Tp) (id : Int) (l : List Ed) : List Ed × Int × Tp :=
  let c := gNext T 4
  if c.1 = 0 then (l, id, c.2) else
    let p := gPick c.2 [1, 1, 1, 2, len - 1]
    (if id + p.1 ≤ 256 then l ++ [⟨(rs.getD x.toNat ⟨0, false⟩).id, id + p.1⟩] else l, id + p.1, p.2)
def gPlanL (rs : List Rt) (len : Int) : List Int → Tp → Int → List Ed → List Ed × Int × Tp
  | [], T, id, l => (l, id, T)
  | x :: o, T, id, l => gPlanL rs len o (gPlanS rs len x T id l).2.2 (gPlanS rs len x T id l).2.1 (gPlanS rs len x T id l).1
def gPlan0 (T : Tp) (rs : List Rt) : Pn × Int × Tp :=
  let s := gNext T 3
  let L := gPick s.2 [8, 8, 16, 32, 64]
  let o := gOrder L.2 rs.length
  let X := gPlanL rs L.1 o.1 o.2 0 []
  (⟨s.1, L.1, X.1⟩, X.2)
def gSpoilN (T : Tp) (p : Pn) (id : Int) : Pn × Tp :=
  let s := gNext T 5
  if s.1 = 0 then (⟨(gWild s.2).1, p.len, p.es⟩, (gWild s.2).2)
  else if s.1 = 1 then (⟨p.subd, (gPick s.2 [0, 8, 24, 64, 128]).1, p.es⟩, (gPick s.2 [0, 8, 24, 64, 128]).2)
  else if s.1 = 2 then
    let a := gPick s.2 [0, 1, 99, 100]
    let b := gPick a.2 [0, 1, 256, 257]
    (⟨p.subd, p.len, p.es ++ [⟨a.1, b.1⟩]⟩, b.2)
  else if s.1 = 3 then (match p.es with
    | [] => (p, s.2)
    | e :: l => (⟨p.subd, p.len, ⟨e.r, (gWild s.2).1⟩ :: l⟩, (gWild s.2).2))
  else (⟨p.subd, p.len, p.es ++ [⟨50, id + 1⟩]⟩, s.2)
def gPlan (T : Tp) (rs : List Rt) (n : Int) : Pn × Tp :=
  let X := gPlan0 T rs
  if 0 < n then
    if (gOne X.2.2 n).1 then gSpoilN (gOne X.2.2 n).2 X.1 X.2.1 else (X.1, (gOne X.2.2 n).2)
  else (X.1, X.2.2)

theorem gOrderL_ok : ∀ (n i : Nat) (T : Tp) (l : List Int), TapeOK (gOrderL n i T l).2 = TapeOK T
  | 0, _, _, _ => rfl
  | n + 1, i, T, l => by rw [gOrderL, gOrderL_ok]; simp
@[simp] theorem gOrder_ok (T : Tp) (n : Int) : TapeOK (gOrder T n).2 = TapeOK T := gOrderL_ok _ _ _ _
theorem gOrderL_mem : ∀ (n i : Nat) (T : Tp) (l : List Int), (∀ x ∈ l, 0 ≤ x ∧ x < (i : Int)) → ∀ x ∈ (gOrderL n i T l).1, 0 ≤ x ∧ x < ((i + n : Nat) : Int)
  | 0, _, _, _, h => h
  | n + 1, i, T, l, h => fun x hx => by
    have := gOrderL_mem n (i + 1) _ _ (fun y hy => ?_) x hx
    · omega
    · simp only [List.mem_append, List.mem_singleton] at hy
      rcases hy with (hy | hy) | hy
      · have := h y (List.mem_of_mem_take hy); omega
      · omega
      · have := h y (List.mem_of_mem_drop hy); omega
theorem gOrderL_len : ∀ (n i : Nat) (T : Tp) (l : List Int), (gOrderL n i T l).1.length = l.length + n
  | 0, _, _, _ => rfl
  | n + 1, i, T, l => by
    rw [gOrderL, gOrderL_len n]
    simp
    omega
theorem gOrder_mem (T : Tp) (n : Nat) : ∀ x ∈ (gOrder T n).1, 0 ≤ x ∧ x < (n : Int) := fun x hx => by
  have := gOrderL_mem n 0 T [] (by simp) x (by simpa [gOrder] using hx)
  omega
theorem gOrder_len (T : Tp) (n : Nat) : (gOrder T n).1.length = n := by simp [gOrder, gOrderL_len]

theorem plan_c (T : Tp) (hT : TapeOK T) (rs : List Rt) (ls : List Lk) (hr : rs.length ≤ 500) (n : Int) (hn : 0 ≤ n ∧ n ≤ 1000) : Contract Try.prog 15 [.ptr (.x 0) 0, .agg [.d (.sl (rts rs)), .d (.sl (lks ls))], .d (.int .i64 n)] [tapeI T] (planT (gPlan T rs n).1) [tapeI (gPlan T rs n).2] [] := by
  refine contract_of Try.func15 rfl (fun E0 => ?_)
  refine awp.sound (g := .mk) (ow := []) (kp := (fun k => k == 0 || k == 1 || k == 2 || k == 4 || k == 6 || k == 7 || k == 8 || k == 9 || k == 10 || k == 24 || k == 29 || k == 39 || k == 62 || k == 64 || k == 73 || k == 78 || k == 84 || k == 98 || k == 103)) ?_
  rw [Try.ntmps15]
  simp -dsimp
  refine ACall.of (next_c T hT 3 ⟨by omega, by omega⟩) [.x 0] 0 ?_
  simp -dsimp
  generalize hs : gNext T 3 = s
  have ks : TapeOK s.2 := by rw [← hs]; simpa using hT
  refine ACall.of (length_c s.2 ks) [.x 0] 0 ?_
  simp -dsimp
  generalize hL : gPick s.2 [8, 8, 16, 32, 64] = L
  have kL : TapeOK L.2 := by rw [← hL]; simpa using ks
  have bL : 8 ≤ L.1 ∧ L.1 ≤ 64 := by rw [← hL]; exact gPick_all (p := fun x => 8 ≤ x ∧ x ≤ 64) (by simp) (by simp)
  refine ACall.of (order_c L.2 kL rs.length (by omega)) [.x 0] 0 ?_
  simp -dsimp
  generalize ho : gOrder L.2 rs.length = o
  have ko : TapeOK o.2 := by rw [← ho]; simpa using kL
  have mo := gOrder_mem L.2 rs.length
  rw [ho] at mo
  have lo := gOrder_len L.2 rs.length
  rw [ho] at lo
  refine ALoop.of [] (fun k => k == 0 || k == 1 || k == 2 || k == 4 || k == 6 || k == 7 || k == 8 || k == 9 || k == 10 || k == 24 || k == 29 || k == 39 || k == 62 || k == 64 || k == 73 || k == 78 || k == 84 || k == 98 || k == 103) (ι := { z : Nat × Tp × Int × List Ed // z.1 ≤ o.1.length ∧ TapeOK z.2.1 ∧ 0 ≤ z.2.2.1 ∧ z.2.2.1 ≤ 100 * z.1 ∧ z.2.2.2.length ≤ z.1 ∧ gPlanL rs L.1 o.1 o.2 0 [] = gPlanL rs L.1 (o.1.drop z.1) z.2.1 z.2.2.1 z.2.2.2 })
    (fun z => [(Pl.s 0, It.v (TV.ptr (Pl.x 0) 0)), (Pl.s 1, It.v (TV.agg [TV.d (D.sl (rts rs)), TV.d (D.sl (lks ls))])), (Pl.s 2, It.v (TV.d (D.int IntKind.i64 n))), (Pl.x 0, tapeI z.1.2.1),
      (Pl.o 4, It.box [TV.d (D.sl (rts rs)), TV.d (D.sl (lks ls))]), (Pl.s 4, It.v (TV.ptr (Pl.o 4) 0)),
      (Pl.o 6, It.box [TV.d (D.int IntKind.i64 0), TV.d (D.int IntKind.i64 0), TV.c (Value.slice none 0 0)]), (Pl.s 6, It.v (TV.ptr (Pl.o 6) 0)),
      (Pl.o 7, It.box [TV.d (D.int IntKind.i64 s.1), TV.d (D.int IntKind.i64 L.1), TV.oref 1000 z.1.2.2.2.length]), (Pl.s 7, It.v (TV.ptr (Pl.o 7) 0)), (Pl.s 8, It.v (TV.d (D.int IntKind.i64 z.1.2.2.1))), (Pl.s 9, It.v (TV.d (ints o.1))),
      (Pl.o 1000, .row 59 2 (dd (eds z.1.2.2.2)) false), (Pl.s 10, It.v (TV.d (D.int IntKind.i64 z.1.1)))]) (fun z => o.1.length - z.1.1) ⟨(0, o.2, 0, []), by simp, ko, by simp, by simp, by simp, rfl⟩ ?_ ?_
  · exact GS.ownB' (.o 7) 2 1000 (cs := [TV.d (D.int IntKind.i64 s.1), TV.d (D.int IntKind.i64 L.1), TV.c (Value.slice none 0 0)]) 59 2 (by simp) (by simp) (by simp) (by simp) (by simp [eds])
  · rintro ⟨⟨i, T', id, l⟩, i1, i2, i3, i4, i5, i6⟩
    simp only at i1 i2 i3 i4 i5 i6
    by_cases hi : i < o.1.length
    · obtain ⟨x, hx⟩ : ∃ x, o.1[i]? = some x := ⟨o.1[i], List.getElem?_eq_getElem hi⟩
      have hx' : o.1[i] = x := by rw [List.getElem?_eq_getElem hi] at hx; simpa using hx
      have hd : o.1.drop i = x :: o.1.drop (i + 1) := by rw [← hx']; exact List.drop_eq_getElem_cons _
      have bx := mo x (List.mem_of_getElem? hx)
      have hxr : x.toNat < rs.length := by omega
      obtain ⟨r, hr1⟩ : ∃ r, rs[x.toNat]? = some r := ⟨rs[x.toNat], List.getElem?_eq_getElem hxr⟩
      have hr2 := rts_get' hr1
      have hr3 : rs.getD x.toNat ⟨0, false⟩ = r := by simp [List.getD, hr1]
      simp -dsimp [ints, hi]
      refine ACall.of (next_c T' i2 4 ⟨by omega, by omega⟩) [.x 0] 0 ?_
      simp -dsimp
      generalize hc : gNext T' 4 = c
      have kc : TapeOK c.2 := by rw [← hc]; simpa using i2
      refine AIf.dec (fun h0 => ?_) (fun h0 => ?_)
      · simp -dsimp [wrap_i64 (n := (i : Int) + 1) (by omega) (by omega)]
        have e : gPlanS rs L.1 x T' id l = (l, id, c.2) := by simp [gPlanS, hc, h0]
        exact ⟨⟨(i + 1, c.2, id, l), by dsimp only; omega, kc, by dsimp only; omega, by dsimp only; omega, by dsimp only; omega, by dsimp only; rw [i6, hd, gPlanL, e]⟩, GS.to (by simp [ints]), by simp; omega⟩
      · simp -dsimp [wrap_i64 (n := L.1 - 1) (by omega) (by omega)]
        refine ACall.of (pick_c c.2 kc [1, 1, 1, 2, L.1 - 1] (by simp) (by simp)) [.x 0] 0 ?_
        have bp : 1 ≤ (gPick c.2 [1, 1, 1, 2, L.1 - 1]).1 ∧ (gPick c.2 [1, 1, 1, 2, L.1 - 1]).1 ≤ 63 := gPick_all (p := fun x => 1 ≤ x ∧ x ≤ 63) (by simp) (by simp; omega)
        simp -dsimp [ints]
        generalize hp : gPick c.2 [1, 1, 1, 2, L.1 - 1] = p at bp ⊢
        have kp : TapeOK p.2 := by rw [← hp]; simpa using kc
        simp -dsimp [wrap_i64 (n := id + p.1) (by omega) (by omega)]
        refine AIf.dec (fun h1 => ?_) (fun h1 => ?_)
        · simp -dsimp [ints, hi, hx', rts_get hr1, Rt.cs, wrap_i64 (n := id + p.1) (by omega) (by omega), wrap_i64 (n := (i : Int) + 1) (by omega) (by omega)]
          and_intros
          all_goals try first | omega | exact ⟨by kernel_rfl⟩
          have e : gPlanS rs L.1 x T' id l = (l ++ [⟨r.id, id + p.1⟩], id + p.1, p.2) := by simp only [gPlanS, hc, h0, hp, h1, hr3, if_true, if_false]
          exact ⟨⟨(i + 1, p.2, id + p.1, l ++ [⟨r.id, id + p.1⟩]), by dsimp only; omega, kp, by dsimp only; omega, by dsimp only; omega, by simp; omega, by dsimp only; rw [i6, hd, gPlanL, e]⟩, GS.to (by simp [ints, eds, Ed.cs]), by simp; omega⟩
        · simp -dsimp [wrap_i64 (n := id + p.1) (by omega) (by omega), wrap_i64 (n := (i : Int) + 1) (by omega) (by omega)]
          have e : gPlanS rs L.1 x T' id l = (l, id + p.1, p.2) := by simp [gPlanS, hc, h0, hp, h1]
          exact ⟨⟨(i + 1, p.2, id + p.1, l), by dsimp only; omega, kp, by dsimp only; omega, by dsimp only; omega, by dsimp only; omega, by dsimp only; rw [i6, hd, gPlanL, e]⟩, GS.to (by simp [ints]), by simp; omega⟩
    · have hX : gPlanL rs L.1 o.1 o.2 0 [] = (l, id, T') := by rw [i6, List.drop_eq_nil_of_le (by omega)]; rfl
      have h0 : gPlan0 T rs = (⟨s.1, L.1, l⟩, id, T') := by simp [gPlan0, hs, hL, ho, hX]
      by_cases hn0 : 0 < n
      · simp -dsimp [ints, hi, hn0]
        refine ACall.of (one_c T' i2 n ⟨by omega, by omega⟩ ⟨by omega, by omega⟩) [.x 0] 0 ?_
        simp -dsimp
        generalize hq : gOne T' n = q
        have kq : TapeOK q.2 := by rw [← hq]; simpa using i2
        rcases (Bool.eq_false_or_eq_true q.1).symm with hq1 | hq1
        · simp -dsimp [hq1]
          refine Fin.box (.o 6) rfl ?_
          simp -dsimp
          refine Fin.of ?_
          simp [gPlan, h0, hn0, planT, hq, hq1]
        · simp -dsimp [hq1]
          refine ACall.of (next_c q.2 kq 5 ⟨by omega, by omega⟩) [.x 0] 0 ?_
          simp -dsimp
          generalize hz : gNext q.2 5 = z
          have kz : TapeOK z.2 := by rw [← hz]; simpa using kq
          have hg : gPlan T rs n = gSpoilN q.2 ⟨s.1, L.1, l⟩ id := by simp [gPlan, h0, hn0, hq, hq1]
          rw [hg]
          refine AIf.dec (fun c0 => ?_) (fun c0 => ?_)
          · simp -dsimp
            refine ACall.of (wild_c z.2 kz) [.x 0] 0 ?_
            simp -dsimp
            refine Fin.box (.o 6) rfl ?_
            simp -dsimp
            refine Fin.of ?_
            simp [gSpoilN, hz, c0, planT]
          · simp -dsimp [c0]
            refine AIf.dec (fun c1 => ?_) (fun c1 => ?_)
            · simp -dsimp
              refine ACall.of (pick_c z.2 kz [0, 8, 24, 64, 128] (by simp) (by simp)) [.x 0] 0 ?_
              simp -dsimp [ints]
              refine Fin.box (.o 6) rfl ?_
              simp -dsimp
              refine Fin.of ?_
              simp [gSpoilN, hz, c0, c1, planT]
            · simp -dsimp [c1]
              refine AIf.dec (fun c2 => ?_) (fun c2 => ?_)
              · simp -dsimp
                refine ACall.of (pick_c z.2 kz [0, 1, 99, 100] (by simp) (by simp)) [.x 0] 0 ?_
                simp -dsimp [ints]
                generalize hv : gPick z.2 [0, 1, 99, 100] = v
                have kv : TapeOK v.2 := by rw [← hv]; simpa using kz
                refine ACall.of (pick_c v.2 kv [0, 1, 256, 257] (by simp) (by simp)) [.x 0] 0 ?_
                simp -dsimp [ints]
                and_intros
                all_goals try first | omega | exact ⟨by kernel_rfl⟩
                refine Fin.box (.o 6) rfl ?_
                simp -dsimp
                refine Fin.of ?_
                simp [gSpoilN, hz, c0, c1, c2, planT, eds, Ed.cs, hv]
              · simp -dsimp [c2]
                refine AIf.dec (fun c3 => ?_) (fun c3 => ?_)
                · rcases l with _ | ⟨ed, l'⟩
                  · simp -dsimp
                    refine Fin.box (.o 6) rfl ?_
                    simp -dsimp
                    refine Fin.of ?_
                    simp [gSpoilN, hz, c0, c1, c2, c3, planT, eds]
                  · simp -dsimp
                    refine ACall.of (wild_c z.2 kz) [.x 0] 0 ?_
                    simp -dsimp [eds, Ed.cs]
                    refine ⟨?_, ⟨by kernel_rfl⟩⟩
                    refine Fin.box (.o 6) rfl ?_
                    simp -dsimp
                    refine Fin.of ?_
                    simp [gSpoilN, hz, c0, c1, c2, c3, planT, eds, Ed.cs]
                · simp -dsimp [c3, wrap_i64 (n := id + 1) (by omega) (by omega)]
                  and_intros
                  all_goals try first | omega | exact ⟨by kernel_rfl⟩
                  refine Fin.box (.o 6) rfl ?_
                  simp -dsimp
                  refine Fin.of ?_
                  simp [gSpoilN, hz, c0, c1, c2, c3, planT, eds, Ed.cs]
      · simp -dsimp [ints, hi, hn0]
        refine Fin.box (.o 6) rfl ?_
        simp -dsimp
        refine Fin.of ?_
        simp [gPlan, h0, hn0, planT]
end Go.Proofs

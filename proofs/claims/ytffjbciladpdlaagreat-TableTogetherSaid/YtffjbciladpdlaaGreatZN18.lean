/-
  What functions of the program compute, stated as contracts over plain data; the conditions of each stand in its own statement.
-/
import Derived.Test.YtffjbciladpdlaaGreatZN17
set_option linter.unusedSimpArgs false
set_option maxRecDepth 100000
set_option maxHeartbeats 2000000
namespace Go.Proofs
open Go Go.Tr
structure Ed where
 r : Int
 id : Int
def Ed.cs (x : Ed) : List D := [.int .i64 x.r, .int .i64 x.id]
def eds (l : List Ed) : List (List D) := l.map Ed.cs
structure Pn where
 subd : Int
 len : Int
 es : List Ed
def planT (p : Pn) : TV := .agg [.d (.int .i64 p.subd), .d (.int .i64 p.len), .d (.sl (eds p.es))]
@[simp] theorem eds_len (l : List Ed) : (eds l).length = l.length := by simp [eds]
theorem eds_get {l : List Ed} {i : Nat} {x : Ed} (h : l[i]? = some x) : (eds l)[i]? = some x.cs := by simp [eds, h]
theorem eds_get' {l : List Ed} {i : Nat} {x : Ed} (h : l[i]? = some x) (hi : i < (eds l).length) : (eds l)[i] = x.cs := by
 have := eds_get h
 rw [List.getElem?_eq_getElem hi] at this
 simpa using this
theorem rts_get {l : List Rt} {i : Nat} {x : Rt} (h : l[i]? = some x) : (rts l)[i]? = some x.cs := by simp [rts, h]
theorem rts_get' {l : List Rt} {i : Nat} {x : Rt} (h : l[i]? = some x) (hi : i < (rts l).length) : (rts l)[i] = x.cs := by
 have := rts_get h
 rw [List.getElem?_eq_getElem hi] at this
 simpa using this
def gPlanS (rs : List Rt) (len : Int) (x : Int) (T : Tp) (id : Int) (l : List Ed) : List Ed × Int × Tp :=
 let c := gNext T 4
 if c.1 = 0 then (l, id, c.2) else
  let p := gPick c.2 [1, 1, 1, 2, len - 1]
  (if id + p.1 ≤ 256 then l ++ [⟨(rs.getD x.toNat ⟨0, false⟩).id, id + p.1⟩] else l, id + p.1, p.2)
def gPlanL (rs : List Rt) (len : Int) : List Int → Tp → Int → List Ed → List Ed × Int × Tp
 | [], T, id, l => (l, id, T)
 | x :: o, T, id, l => gPlanL rs len o (gPlanS rs len x T id l).2.2 (gPlanS rs len x T id l).2.1 (gPlanS rs len x T id l).1
def gPlan0 (T : Tp) (rs : List Rt) : Pn × Int × Tp :=
 let s := gNext T 3
 let L := gPick s.2 [8, 8, 16, 32, 64]
 let o := gOrder L.2 rs.length
 let X := gPlanL rs L.1 o.1 o.2 0 []
 (⟨s.1, L.1, X.1⟩, X.2)
def gSpoilN (T : Tp) (p : Pn) (id : Int) : Pn × Tp :=
 let s := gNext T 5
 if s.1 = 0 then (⟨(gWild s.2).1, p.len, p.es⟩, (gWild s.2).2)
 else if s.1 = 1 then (⟨p.subd, (gPick s.2 [0, 8, 24, 64, 128]).1, p.es⟩, (gPick s.2 [0, 8, 24, 64, 128]).2)
 else if s.1 = 2 then
  let a := gPick s.2 [0, 1, 99, 100]
  let b := gPick a.2 [0, 1, 256, 257]
  (⟨p.subd, p.len, p.es ++ [⟨a.1, b.1⟩]⟩, b.2)
 else if s.1 = 3 then (match p.es with
  | [] => (p, s.2)
  | e :: l => (⟨p.subd, p.len, ⟨e.r, (gWild s.2).1⟩ :: l⟩, (gWild s.2).2))
 else (⟨p.subd, p.len, p.es ++ [⟨50, id + 1⟩]⟩, s.2)
def gPlan (T : Tp) (rs : List Rt) (n : Int) : Pn × Tp :=
 let X := gPlan0 T rs
 if 0 < n then
  if (gOne X.2.2 n).1 then gSpoilN (gOne X.2.2 n).2 X.1 X.2.1 else (X.1, (gOne X.2.2 n).2)
 else (X.1, X.2.2)
theorem gOrderL_ok : ∀ (n i : Nat) (T : Tp) (l : List Int), TapeOK (gOrderL n i T l).2 = TapeOK T
 | 0, _, _, _ => rfl
 | n + 1, i, T, l => by rw [gOrderL, gOrderL_ok]; simp
@[simp] theorem gOrder_ok (T : Tp) (n : Int) : TapeOK (gOrder T n).2 = TapeOK T := gOrderL_ok _ _ _ _
theorem gOrderL_mem : ∀ (n i : Nat) (T : Tp) (l : List Int), (∀ x ∈ l, 0 ≤ x ∧ x < (i : Int)) → ∀ x ∈ (gOrderL n i T l).1, 0 ≤ x ∧ x < ((i + n : Nat) : Int)
 | 0, _, _, _, h => h
 | n + 1, i, T, l, h => fun x hx => by
   have := gOrderL_mem n (i + 1) _ _ (fun y hy => ?_) x hx
   ·omega
   ·simp only [List.mem_append, List.mem_singleton] at hy
    rcases hy with (hy | hy) | hy
    ·have := h y (List.mem_of_mem_take hy); omega
    ·omega
    ·have := h y (List.mem_of_mem_drop hy); omega
theorem gOrderL_len : ∀ (n i : Nat) (T : Tp) (l : List Int), (gOrderL n i T l).1.length = l.length + n
 | 0, _, _, _ => rfl
 | n + 1, i, T, l => by
   rw [gOrderL, gOrderL_len n]
   simp
   omega
theorem gOrder_mem (T : Tp) (n : Nat) : ∀ x ∈ (gOrder T n).1, 0 ≤ x ∧ x < (n : Int) := fun x hx => by
 have := gOrderL_mem n 0 T [] (by simp) x (by simpa [gOrder] using hx)
 omega
theorem gOrder_len (T : Tp) (n : Nat) : (gOrder T n).1.length = n := by simp [gOrder, gOrderL_len]
theorem plan_c (T : Tp) (hT : TapeOK T) (rs : List Rt) (ls : List Lk) (hr : rs.length ≤ 500) (n : Int) (hn : 0 ≤ n ∧ n ≤ 1000) : Contract Tryz.prog 14 [.ptr (.x 0) 0, .agg [.d (.sl (rts rs)), .d (.sl (lks ls))], .d (.int .i64 n)] [tapeI T] (planT (gPlan T rs n).1) [tapeI (gPlan T rs n).2] [] := by
 refine contract_of Tryz.func14 rfl (fun E0 => ?_)
 refine awp.sound (g := .mk) (ow := []) (kp := (fun k => k==0||k==1||k==2||k==4||k==6||k==7||k==8||k==9||k==10||k==24||k==29||k==39||k==62||k==64||k==73||k==78||k==84||k==98||k==103)) ?_
 rw [Tryz.ntmps14]
 simp -dsimp
 refine ACall.of (next_c T hT 3 ⟨by omega, by omega⟩) [.x 0] 0 ?_
 simp -dsimp
 generalize hs : gNext T 3 = s
 have ks : TapeOK s.2 := by rw [← hs]; simpa using hT
 refine ACall.of (length_c s.2 ks) [.x 0] 0 ?_
 simp -dsimp
 generalize hL : gPick s.2 [8, 8, 16, 32, 64] = L
 have kL : TapeOK L.2 := by rw [← hL]; simpa using ks
 have bL : 8 ≤ L.1 ∧ L.1 ≤ 64 := by rw [← hL]; exact gPick_all (p := fun x => 8 ≤ x ∧ x ≤ 64) (by simp) (by simp)
 refine ACall.of (order_c L.2 kL rs.length (by omega)) [.x 0] 0 ?_
 simp -dsimp
 generalize ho : gOrder L.2 rs.length = o
 have ko : TapeOK o.2 := by rw [← ho]; simpa using kL
 have mo := gOrder_mem L.2 rs.length
 rw [ho] at mo
 have lo := gOrder_len L.2 rs.length
 rw [ho] at lo
 refine ALoop.of [] (fun k => k==0||k==1||k==2||k==4||k==6||k==7||k==8||k==9||k==10||k==24||k==29||k==39||k==62||k==64||k==73||k==78||k==84||k==98||k==103) (ι := { z : Nat × Tp × Int × List Ed // z.1 ≤ o.1.length ∧ TapeOK z.2.1 ∧ 0 ≤ z.2.2.1 ∧ z.2.2.1 ≤ 100 * z.1 ∧ z.2.2.2.length ≤ z.1 ∧ gPlanL rs L.1 o.1 o.2 0 [] = gPlanL rs L.1 (o.1.drop z.1) z.2.1 z.2.2.1 z.2.2.2 })
  (fun z => [(Pl.s 0, It.v (.ptr (Pl.x 0) 0)), (Pl.s 1, It.v (.agg [TV.d (.sl (rts rs)), TV.d (.sl (lks ls))])), (Pl.s 2, It.v (.d (.int .i64 n))), (Pl.x 0, tapeI z.1.2.1),
   (Pl.o 4, It.box [TV.d (.sl (rts rs)), TV.d (.sl (lks ls))]), (Pl.s 4, It.v (.ptr (Pl.o 4) 0)),
   (Pl.o 6, It.box [TV.d (.int .i64 0), TV.d (.int .i64 0), TV.c (Value.slice none 0 0)]), (Pl.s 6, It.v (.ptr (Pl.o 6) 0)),
   (Pl.o 7, It.box [TV.d (.int .i64 s.1), TV.d (.int .i64 L.1), TV.oref 1000 z.1.2.2.2.length]), (Pl.s 7, It.v (.ptr (Pl.o 7) 0)), (Pl.s 8, It.v (.d (.int .i64 z.1.2.2.1))), (Pl.s 9, It.v (.d (ints o.1))),
   (Pl.o 1000, .row 50 2 (dd (eds z.1.2.2.2)) false), (Pl.s 10, It.v (.d (.int .i64 z.1.1)))]) (fun z => o.1.length - z.1.1) ⟨(0, o.2, 0, []), by simp, ko, by simp, by simp, by simp, rfl⟩ ?_ ?_
 ·exact GS.ownB' (.o 7) 2 1000 (cs := [TV.d (.int .i64 s.1), TV.d (.int .i64 L.1), TV.c (Value.slice none 0 0)]) 50 2 (by simp) (by simp) (by simp) (by simp) (by simp [eds])
 ·rintro ⟨⟨i, T', id, l⟩, i1, i2, i3, i4, i5, i6⟩
  simp only at i1 i2 i3 i4 i5 i6
  by_cases hi : i < o.1.length
  ·obtain ⟨x, hx⟩ : ∃ x, o.1[i]? = some x := ⟨o.1[i], List.getElem?_eq_getElem hi⟩
   have hx' : o.1[i] = x := by rw [List.getElem?_eq_getElem hi] at hx; simpa using hx
   have hd : o.1.drop i = x :: o.1.drop (i + 1) := by rw [← hx']; exact List.drop_eq_getElem_cons _
   have bx := mo x (List.mem_of_getElem? hx)
   have hxr : x.toNat < rs.length := by omega
   obtain ⟨r, hr1⟩ : ∃ r, rs[x.toNat]? = some r := ⟨rs[x.toNat], List.getElem?_eq_getElem hxr⟩
   have hr2 := rts_get' hr1
   have hr3 : rs.getD x.toNat ⟨0, false⟩ = r := by simp [List.getD, hr1]
   simp -dsimp [ints, hi]
   refine ACall.of (next_c T' i2 4 ⟨by omega, by omega⟩) [.x 0] 0 ?_
   simp -dsimp
   generalize hc : gNext T' 4 = c
   have kc : TapeOK c.2 := by rw [← hc]; simpa using i2
   refine AIf.dec (fun h0 => ?_) (fun h0 => ?_)
   ·simp -dsimp [wrap_i64 (n := (i : Int) + 1) (by omega) (by omega)]
    have e : gPlanS rs L.1 x T' id l = (l, id, c.2) := by simp [gPlanS, hc, h0]
    exact ⟨⟨(i + 1, c.2, id, l), by dsimp only; omega, kc, by dsimp only; omega, by dsimp only; omega, by dsimp only; omega, by dsimp only; rw [i6, hd, gPlanL, e]⟩, GS.to (by simp [ints]), by simp; omega⟩
   ·simp -dsimp [wrap_i64 (n := L.1 - 1) (by omega) (by omega)]
    refine ACall.of (pick_c c.2 kc [1, 1, 1, 2, L.1 - 1] (by simp) (by simp)) [.x 0] 0 ?_
    have bp : 1 ≤ (gPick c.2 [1, 1, 1, 2, L.1 - 1]).1 ∧ (gPick c.2 [1, 1, 1, 2, L.1 - 1]).1 ≤ 63 := gPick_all (p := fun x => 1 ≤ x ∧ x ≤ 63) (by simp) (by simp; omega)
    simp -dsimp [ints]
    generalize hp : gPick c.2 [1, 1, 1, 2, L.1 - 1] = p at bp ⊢
    have kp : TapeOK p.2 := by rw [← hp]; simpa using kc
    simp -dsimp [wrap_i64 (n := id + p.1) (by omega) (by omega)]
    refine AIf.dec (fun h1 => ?_) (fun h1 => ?_)
    ·simp -dsimp [ints, hi, hx', rts_get hr1, Rt.cs, wrap_i64 (n := id + p.1) (by omega) (by omega), wrap_i64 (n := (i : Int) + 1) (by omega) (by omega)]
     and_intros
     all_goals try first | omega | exact ⟨by kernel_rfl⟩
     have e : gPlanS rs L.1 x T' id l = (l ++ [⟨r.id, id + p.1⟩], id + p.1, p.2) := by simp only [gPlanS, hc, h0, hp, h1, hr3, if_true, if_false]
     exact ⟨⟨(i + 1, p.2, id + p.1, l ++ [⟨r.id, id + p.1⟩]), by dsimp only; omega, kp, by dsimp only; omega, by dsimp only; omega, by simp; omega, by dsimp only; rw [i6, hd, gPlanL, e]⟩, GS.to (by simp [ints, eds, Ed.cs]), by simp; omega⟩
    ·simp -dsimp [wrap_i64 (n := id + p.1) (by omega) (by omega), wrap_i64 (n := (i : Int) + 1) (by omega) (by omega)]
     have e : gPlanS rs L.1 x T' id l = (l, id + p.1, p.2) := by simp [gPlanS, hc, h0, hp, h1]
     exact ⟨⟨(i + 1, p.2, id + p.1, l), by dsimp only; omega, kp, by dsimp only; omega, by dsimp only; omega, by dsimp only; omega, by dsimp only; rw [i6, hd, gPlanL, e]⟩, GS.to (by simp [ints]), by simp; omega⟩
  ·have hX : gPlanL rs L.1 o.1 o.2 0 [] = (l, id, T') := by rw [i6, List.drop_eq_nil_of_le (by omega)]; rfl
   have h0 : gPlan0 T rs = (⟨s.1, L.1, l⟩, id, T') := by simp [gPlan0, hs, hL, ho, hX]
   by_cases hn0 : 0 < n
   ·simp -dsimp [ints, hi, hn0]
    refine ACall.of (one_c T' i2 n ⟨by omega, by omega⟩ ⟨by omega, by omega⟩) [.x 0] 0 ?_
    simp -dsimp
    generalize hq : gOne T' n = q
    have kq : TapeOK q.2 := by rw [← hq]; simpa using i2
    rcases (Bool.eq_false_or_eq_true q.1).symm with hq1 | hq1
    ·simp -dsimp [hq1]
     refine Fin.box (.o 6) rfl ?_
     simp -dsimp
     refine Fin.of ?_
     simp [gPlan, h0, hn0, planT, hq, hq1]
    ·simp -dsimp [hq1]
     refine ACall.of (next_c q.2 kq 5 ⟨by omega, by omega⟩) [.x 0] 0 ?_
     simp -dsimp
     generalize hz : gNext q.2 5 = z
     have kz : TapeOK z.2 := by rw [← hz]; simpa using kq
     have hg : gPlan T rs n = gSpoilN q.2 ⟨s.1, L.1, l⟩ id := by simp [gPlan, h0, hn0, hq, hq1]
     rw [hg]
     refine AIf.dec (fun c0 => ?_) (fun c0 => ?_)
     ·simp -dsimp
      refine ACall.of (wild_c z.2 kz) [.x 0] 0 ?_
      simp -dsimp
      refine Fin.box (.o 6) rfl ?_
      simp -dsimp
      refine Fin.of ?_
      simp [gSpoilN, hz, c0, planT]
     ·simp -dsimp [c0]
      refine AIf.dec (fun c1 => ?_) (fun c1 => ?_)
      ·simp -dsimp
       refine ACall.of (pick_c z.2 kz [0, 8, 24, 64, 128] (by simp) (by simp)) [.x 0] 0 ?_
       simp -dsimp [ints]
       refine Fin.box (.o 6) rfl ?_
       simp -dsimp
       refine Fin.of ?_
       simp [gSpoilN, hz, c0, c1, planT]
      ·simp -dsimp [c1]
       refine AIf.dec (fun c2 => ?_) (fun c2 => ?_)
       ·simp -dsimp
        refine ACall.of (pick_c z.2 kz [0, 1, 99, 100] (by simp) (by simp)) [.x 0] 0 ?_
        simp -dsimp [ints]
        generalize hv : gPick z.2 [0, 1, 99, 100] = v
        have kv : TapeOK v.2 := by rw [← hv]; simpa using kz
        refine ACall.of (pick_c v.2 kv [0, 1, 256, 257] (by simp) (by simp)) [.x 0] 0 ?_
        simp -dsimp [ints]
        and_intros
        all_goals try first | omega | exact ⟨by kernel_rfl⟩
        refine Fin.box (.o 6) rfl ?_
        simp -dsimp
        refine Fin.of ?_
        simp [gSpoilN, hz, c0, c1, c2, planT, eds, Ed.cs, hv]
       ·simp -dsimp [c2]
        refine AIf.dec (fun c3 => ?_) (fun c3 => ?_)
        ·rcases l with _ | ⟨ed, l'⟩
         ·simp -dsimp
          refine Fin.box (.o 6) rfl ?_
          simp -dsimp
          refine Fin.of ?_
          simp [gSpoilN, hz, c0, c1, c2, c3, planT, eds]
         ·simp -dsimp
          refine ACall.of (wild_c z.2 kz) [.x 0] 0 ?_
          simp -dsimp [eds, Ed.cs]
          refine ⟨?_, ⟨by kernel_rfl⟩⟩
          refine Fin.box (.o 6) rfl ?_
          simp -dsimp
          refine Fin.of ?_
          simp [gSpoilN, hz, c0, c1, c2, c3, planT, eds, Ed.cs]
        ·simp -dsimp [c3, wrap_i64 (n := id + 1) (by omega) (by omega)]
         and_intros
         all_goals try first | omega | exact ⟨by kernel_rfl⟩
         refine Fin.box (.o 6) rfl ?_
         simp -dsimp
         refine Fin.of ?_
         simp [gSpoilN, hz, c0, c1, c2, c3, planT, eds, Ed.cs]
   ·simp -dsimp [ints, hi, hn0]
    refine Fin.box (.o 6) rfl ?_
    simp -dsimp
    refine Fin.of ?_
    simp [gPlan, h0, hn0, planT]
def inB (n lo hi : Int) : Bool := decide (lo ≤ n) && decide (n ≤ hi)
theorem inside10_c (n lo hi : Int) : Contract Tryz.prog 110 [.d (.int .i64 n), .d (.int .i64 lo), .d (.int .i64 hi)] [] (.d (.bool (inB n lo hi))) [] [] := by
 refine contract_of Tryz.func110 rfl (fun E0 => ?_)
 refine awp.sound (g := .mk) (ow := []) (kp := (fun k => k==0||k==1||k==2||k==6)) ?_
 rw [Tryz.ntmps110]
 by_cases h : lo ≤ n
 ·simp -dsimp [h]
  refine Fin.of ?_
  simp [inB, h]
 ·simp -dsimp [h]
  refine Fin.of ?_
  simp [inB, h]
theorem in10_c (n lo hi : Int) : Contract Tryz.prog 103 [.d (.int .i64 n), .d (.int .i64 lo), .d (.int .i64 hi)] [] (.d (.bool (inB n lo hi))) [] [] := by
 refine contract_of Tryz.func103 rfl (fun E0 => ?_)
 refine awp.sound (g := .mk) (ow := []) (kp := (fun k => k==0||k==1||k==2||k==6)) ?_
 rw [Tryz.ntmps103]
 by_cases h : lo ≤ n
 ·simp -dsimp [h]
  refine Fin.of ?_
  simp [inB, h]
 ·simp -dsimp [h]
  refine Fin.of ?_
  simp [inB, h]
open Classical in
noncomputable def repB (l : List Int) : Bool := decide (∃ i j, j < i ∧ i < l.length ∧ l.getD i 0 = l.getD j 0)
theorem repB_true {l : List Int} {i j : Nat} (h1 : j < i) (h2 : i < l.length) (h3 : l.getD i 0 = l.getD j 0) : repB l = true := by
 simp only [repB, decide_eq_true_eq]
 exact ⟨i, j, h1, h2, h3⟩
theorem repB_false {l : List Int} (h : ∀ i j, j < i → i < l.length → l.getD i 0 ≠ l.getD j 0) : repB l = false := by
 simp only [repB, decide_eq_false_iff_not]
 rintro ⟨i, j, h1, h2, h3⟩
 exact h i j h1 h2 h3
theorem repeats_c (l : List Int) (hl : l.length ≤ 100000) : Contract Tryz.prog 111 [.d (ints l)] [] (.d (.bool (repB l))) [] [] := by
 refine contract_of Tryz.func111 rfl (fun E0 => ?_)
 refine awp.sound (g := .mk) (ow := []) (kp := (fun k => k==0||k==2||k==3||k==4||k==8||k==13||k==24)) ?_
 rw [Tryz.ntmps111]
 simp -dsimp
 refine ALoop.of [] (fun k => k==0||k==2||k==3||k==4||k==8||k==13||k==24) (ι := { i : Nat // i ≤ l.length ∧ ∀ a b, b < a → a < i → l.getD a 0 ≠ l.getD b 0 }) (fun z => [(Pl.s 0, It.v (.d (ints l))), (Pl.s 3, It.v (.d (.int .i64 z.1)))]) (fun z => l.length - z.1) ⟨0, by omega, fun a b _ h => by omega⟩ ?_ ?_
 ·exact GS.to (by simp)
 ·rintro ⟨i, i1, i2⟩
  by_cases hi : i < l.length
  ·simp -dsimp [ints, hi]
   refine ALoop.of [] (fun k => k==0||k==2||k==3||k==4||k==8||k==13||k==24) (ι := { j : Nat // j ≤ i ∧ ∀ b, b < j → l.getD i 0 ≠ l.getD b 0 }) (fun z => [(Pl.s 0, It.v (.d (ints l))), (Pl.s 3, It.v (.d (.int .i64 i))), (Pl.s 4, It.v (.d (.int .i64 z.1)))]) (fun z => i - z.1) ⟨0, by omega, fun b h => by omega⟩ ?_ ?_
   ·exact GS.to (by simp [ints])
   ·rintro ⟨j, j1, j2⟩
    by_cases hj : j < i
    ·have hj2 : j < l.length := by omega
     have gi : l.getD i 0 = l[i] := by simp [List.getD, hi]
     have gj : l.getD j 0 = l[j] := by simp [List.getD, hj2]
     simp -dsimp [ints, hi, hj, hj2]
     refine ⟨AIf.dec (fun h => ?_) (fun h => ?_), ⟨by kernel_rfl⟩⟩
     ·simp -dsimp
      refine Fin.of ?_
      simp
      exact repB_true hj hi (by rw [gi, gj, h])
     ·simp -dsimp [wrap_i64 (n := (j : Int) + 1) (by omega) (by omega)]
      exact ⟨⟨j + 1, by omega, fun b hb => by
       by_cases e : b = j
       ·subst e; rw [gi, gj]; exact h
       ·exact j2 b (by omega)⟩, GS.to (by simp [ints]), by simp; omega⟩
    ·simp -dsimp [ints, hi, hj, wrap_i64 (n := (i : Int) + 1) (by omega) (by omega)]
     exact ⟨⟨i + 1, by omega, fun a b h1 h2 => by
      by_cases e : a = i
      ·subst e; exact j2 b (by omega)
      ·exact i2 a b h1 (by omega)⟩, GS.to (by simp [ints]), by simp; omega⟩
  ·simp -dsimp [ints, hi]
   refine Fin.of ?_
   simp
   exact repB_false fun a b h1 h2 => i2 a b h1 (by omega)
def gid (es : List Ed) (i : Nat) : Int := (es.getD i ⟨0, 0⟩).id
def grt (es : List Ed) (i : Nat) : Int := (es.getD i ⟨0, 0⟩).r
def baseB (p : Pn) : Bool := inB p.subd 0 7 && ((validLen p.len || (decide (p.len = 0) && decide (p.es.length = 0))) && decide (p.es.length ≤ 24))
def edB (es : List Ed) (i : Nat) : Bool := inB (gid es i) 1 256 && (inB (grt es i) 1 99 && (decide (i = 0) || decide (gid es (i - 1) < gid es i)))
open Classical in
noncomputable def planB (p : Pn) : Bool := decide (baseB p = true ∧ (∀ i, i < p.es.length → edB p.es i = true) ∧ ∀ i j, j < i → i < p.es.length → grt p.es i ≠ grt p.es j)
theorem planB_base {p : Pn} (h : baseB p = false) : planB p = false := by
 simp only [planB, decide_eq_false_iff_not]
 rintro ⟨h1, _⟩; rw [h] at h1; simp at h1
theorem planB_ed {p : Pn} {i : Nat} (hi : i < p.es.length) (h : edB p.es i = false) : planB p = false := by
 simp only [planB, decide_eq_false_iff_not]
 rintro ⟨_, h1, _⟩; have := h1 i hi; rw [h] at this; simp at this
theorem planB_rt {p : Pn} {i j : Nat} (hj : j < i) (hi : i < p.es.length) (h : grt p.es i = grt p.es j) : planB p = false := by
 simp only [planB, decide_eq_false_iff_not]
 rintro ⟨_, _, h1⟩; exact h1 i j hj hi h
theorem planB_ok {p : Pn} (h : baseB p = true) (h1 : ∀ i, i < p.es.length → edB p.es i = true) (h2 : ∀ i j, j < i → i < p.es.length → grt p.es i ≠ grt p.es j) : planB p = true := by
 simp only [planB, decide_eq_true_eq]
 exact ⟨h, h1, h2⟩
theorem planB_rep {p : Pn} (h : baseB p = true) (h1 : ∀ i, i < p.es.length → edB p.es i = true) : planB p = !(repB (p.es.map (·.r))) := by
 have hg : ∀ i, i < p.es.length → (p.es.map (·.r)).getD i 0 = grt p.es i := fun i hi => by simp [grt, List.getD, hi]
 by_cases h2 : ∀ i j, j < i → i < p.es.length → grt p.es i ≠ grt p.es j
 ·rw [planB_ok h h1 h2, repB_false fun i j hj hi => by simp at hi; rw [hg i hi, hg j (by omega)]; exact h2 i j hj hi]; rfl
 ·have : ∃ i j, j < i ∧ i < p.es.length ∧ grt p.es i = grt p.es j := Classical.byContradiction fun hc => h2 fun i j hj hi he => hc ⟨i, j, hj, hi, he⟩
  obtain ⟨i, j, hj, hi, he⟩ := this
  rw [planB_rt hj hi he, repB_true (l := p.es.map (·.r)) hj (by simpa using hi) (by rw [hg i hi, hg j (by omega)]; exact he)]; rfl
theorem validPlan10_c (p : Pn) (hp : p.es.length ≤ 1000) : Contract Tryz.prog 56 [planT p] [] (.d (.bool (planB p))) [] [] := by
 refine contract_of Tryz.func56 rfl (fun E0 => ?_)
 refine awp.sound (g := .mk) (ow := []) (kp := (fun k => k==0||k==1||k==2||k==3||k==4||k==5||k==32||k==37||k==70)) ?_
 rw [Tryz.ntmps56]
 simp -dsimp [planT]
 refine ACall.of (inside10_c p.subd 0 7) [] 0 ?_
 rcases (Bool.eq_false_or_eq_true (inB p.subd 0 7)).symm with a1 | a1
 ·simp -dsimp [a1]
  refine Fin.of ?_
  simp
  exact planB_base (by simp [baseB, a1])
 ·simp -dsimp [a1]
  refine ACall.of (validLength_c p.len) [] 0 ?_
  rcases (Bool.eq_false_or_eq_true (validLen p.len)).symm with a2 | a2
  ·by_cases a3 : p.len = 0
   ·by_cases a4 : p.es.length = 0
    ·have hb : baseB p = true := by simp [baseB, a1, a2, a3, a4, show validLen 0 = false from rfl]
     simp -dsimp [a1, a2, a3, a4, show validLen 0 = false from rfl]
     refine ALoop.of [] (fun k => k==0||k==1||k==2||k==3||k==4||k==5||k==32||k==37||k==70) (ι := { i : Nat // i ≤ p.es.length ∧ ∀ a, a < i → edB p.es a = true })
      (fun z => [(Pl.s 0, It.v (.agg [TV.d (.int .i64 p.subd), TV.d (.int .i64 p.len), TV.d (.sl (eds p.es))])), (Pl.o 1, It.box [TV.d (.int .i64 p.subd), TV.d (.int .i64 p.len), TV.d (.sl (eds p.es))]),
       (Pl.s 1, It.v (.ptr (Pl.o 1) 0)), (Pl.s 2, It.v (.d (.bool false))), (Pl.s 3, It.v (.oref 3 z.1)), (Pl.o 3, .row 3 1 (dd ((p.es.take z.1).map fun e => [.int .i64 e.r])) false), (Pl.s 4, It.v (.d (.int .i64 z.1)))])
      (fun z => p.es.length - z.1) ⟨0, by omega, fun a h => by omega⟩ ?_ ?_
     ·exact GS.own' (k := 3) 3 1 (by simp) (by simp) (by simp [a1, a2, a3, a4, show validLen 0 = false from rfl])
     ·rintro ⟨i, i1, i2⟩
      have hi : ¬ i < p.es.length := by omega
      obtain rfl : i = p.es.length := by omega
      simp -dsimp [hi]
      refine ACall.of (repeats_c (p.es.map (·.r)) (by simp; omega)) [] 0 ?_
      simp -dsimp [ints, List.map_map, Function.comp_def]
      refine Fin.of ?_
      simp [planB_rep hb i2]
    ·have a5 : 0 < p.es.length := by omega
     simp -dsimp [a1, a2, a3, a4, a5, show validLen 0 = false from rfl]
     refine Fin.of ?_
     simp
     exact planB_base (by simp [baseB, a1, a2, a3, a4, show validLen 0 = false from rfl])
   ·simp -dsimp [a1, a2, a3]
    refine Fin.of ?_
    simp
    exact planB_base (by simp [baseB, a1, a2, a3])
  ·by_cases a6 : p.es.length ≤ 24
   ·have a7 : ¬ (24 : Int) < p.es.length := by omega
    have hb : baseB p = true := by simp [baseB, a1, a2, a6]
    simp -dsimp [a1, a2, a7]
    refine ALoop.of [] (fun k => k==0||k==1||k==2||k==3||k==4||k==5||k==32||k==37||k==70) (ι := { i : Nat // i ≤ p.es.length ∧ ∀ a, a < i → edB p.es a = true })
     (fun z => [(Pl.s 0, It.v (.agg [TV.d (.int .i64 p.subd), TV.d (.int .i64 p.len), TV.d (.sl (eds p.es))])), (Pl.o 1, It.box [TV.d (.int .i64 p.subd), TV.d (.int .i64 p.len), TV.d (.sl (eds p.es))]),
      (Pl.s 1, It.v (.ptr (Pl.o 1) 0)), (Pl.s 2, It.v (.d (.bool false))), (Pl.s 3, It.v (.oref 3 z.1)), (Pl.o 3, .row 3 1 (dd ((p.es.take z.1).map fun e => [.int .i64 e.r])) false), (Pl.s 4, It.v (.d (.int .i64 z.1)))])
     (fun z => p.es.length - z.1) ⟨0, by omega, fun a h => by omega⟩ ?_ ?_
    ·exact GS.own' (k := 3) 3 1 (by simp) (by simp) (by simp [a1, a2])
    ·rintro ⟨i, i1, i2⟩
     by_cases hi : i < p.es.length
     ·obtain ⟨x, hx⟩ : ∃ x, p.es[i]? = some x := ⟨p.es[i], List.getElem?_eq_getElem hi⟩
      have gx : gid p.es i = x.id ∧ grt p.es i = x.r := by simp [gid, grt, List.getD, hx]
      simp -dsimp [hi, eds_get' hx, Ed.cs]
      refine ACall.of (inside10_c x.id 1 256) [] 0 ?_
      rcases (Bool.eq_false_or_eq_true (inB x.id 1 256)).symm with b1 | b1
      ·simp -dsimp [b1]
       refine ⟨?_, ⟨by kernel_rfl⟩⟩
       refine Fin.of ?_
       simp
       exact planB_ed hi (by simp [edB, gx, b1])
      ·simp -dsimp [b1]
       refine ACall.of (inside10_c x.r 1 99) [] 0 ?_
       rcases (Bool.eq_false_or_eq_true (inB x.r 1 99)).symm with b2 | b2
       ·simp -dsimp [b1, b2]
        refine ⟨?_, ⟨by kernel_rfl⟩⟩
        refine Fin.of ?_
        simp
        exact planB_ed hi (by simp [edB, gx, b1, b2])
       ·by_cases b3 : 0 < i
        ·obtain ⟨y, hy⟩ : ∃ y, p.es[i - 1]? = some y := ⟨p.es[i - 1], List.getElem?_eq_getElem (by omega)⟩
         have gy : gid p.es (i - 1) = y.id := by simp [gid, List.getD, hy]
         have b5 : (1 : Int) ≤ i := by omega
         have b6 : (i : Int) - 1 < p.es.length := by omega
         have b7 : i ≠ 0 := by omega
         by_cases b4 : x.id ≤ y.id
         ·simp -dsimp [b1, b2, b3, b4, b5, b6, eds_get hy, Ed.cs, wrap_i64 (n := (i : Int) - 1) (by omega) (by omega)]
          refine ⟨?_, ⟨by kernel_rfl⟩⟩
          refine Fin.of ?_
          simp
          exact planB_ed hi (by simp [edB, gx, gy, b1, b2, b7] <;> omega)
         ·simp -dsimp [b1, b2, b3, b4, b5, b6, eds_get hy, Ed.cs, wrap_i64 (n := (i : Int) - 1) (by omega) (by omega), wrap_i64 (n := (i : Int) + 1) (by omega) (by omega)]
          and_intros
          all_goals try first | omega | exact ⟨by kernel_rfl⟩
          exact ⟨⟨i + 1, by omega, fun a ha => by
           by_cases e : a = i
           ·subst e; simp [edB, gx, gy, b1, b2] <;> omega
           ·exact i2 a (by omega)⟩, GS.to (by simp [List.take_add_one, hx]), by simp; omega⟩
        ·obtain rfl : i = 0 := by omega
         simp -dsimp [b1, b2, wrap_i64 (n := 1) (by omega) (by omega)]
         and_intros
         all_goals try first | omega | exact ⟨by kernel_rfl⟩
         exact ⟨⟨1, by omega, fun a ha => by
          obtain rfl : a = 0 := by omega
          simp [edB, gx, b1, b2]⟩, GS.to (by simp [List.take_add_one, hx]), by simp; omega⟩
     ·obtain rfl : i = p.es.length := by omega
      simp -dsimp [hi]
      refine ACall.of (repeats_c (p.es.map (·.r)) (by simp; omega)) [] 0 ?_
      simp -dsimp [ints, List.map_map, Function.comp_def]
      refine Fin.of ?_
      simp [planB_rep hb i2]
   ·have a7 : (24 : Int) < p.es.length := by omega
    simp -dsimp [a1, a2, a7]
    refine Fin.of ?_
    simp
    exact planB_base (by simp [baseB, a1, a2, a6])
structure Sb where
 set : Int
 bits : BitVec 64
def Sb.cs (x : Sb) : List D := [.int .i64 x.set, bv x.bits]
def intRows (l : List Int) : List (List D) := l.map fun n => [.int .i64 n]
@[simp] theorem intRows_len (l : List Int) : (intRows l).length = l.length := by simp [intRows]
def idxR {α : Type} (q : α → Bool) (l : List α) : Int := match l.findIdx? q with | some i => i | none => -1
theorem idx_any {α : Type} (q : α → Bool) (l : List α) : decide (0 ≤ idxR q l) = l.any q := by
 unfold idxR
 cases h : l.findIdx? q with
 | none =>
   have := List.findIdx?_eq_none_iff.1 h
   simp
   intro x hx
   exact this x hx
 | some i =>
   have := List.findIdx?_eq_some_iff_getElem.1 h
   obtain ⟨hi, h1, _⟩ := this
   simp
   exact ⟨_, List.getElem_mem hi, h1⟩
theorem idx_at {α : Type} {q : α → Bool} {l : List α} {i : Nat} {x : α} (hx : l[i]? = some x) (hq : q x = true) (h : ∀ a, a < i → ∀ y, l[a]? = some y → q y = false) : idxR q l = i := by
 unfold idxR
 obtain ⟨hi, rfl⟩ := List.getElem?_eq_some_iff.1 hx
 have : l.findIdx? q = some i := by
  rw [List.findIdx?_eq_some_iff_getElem]
  exact ⟨hi, hq, fun j hj => by have := h j hj _ (List.getElem?_eq_getElem (by omega)); simp [this]⟩
 rw [this]
theorem idx_no {α : Type} {q : α → Bool} {l : List α} (h : ∀ a, a < l.length → ∀ y, l[a]? = some y → q y = false) : idxR q l = -1 := by
 unfold idxR
 have : l.findIdx? q = none := by
  rw [List.findIdx?_eq_none_iff]
  intro x hx
  obtain ⟨i, hi⟩ := List.getElem?_of_mem hx
  exact h i (List.getElem?_eq_some_iff.1 hi).1 x hi
 rw [this]
theorem eds_take (l : List Ed) (i : Nat) : (eds l).take i = eds (l.take i) := by simp [eds]
def Pk.with (q : Pk) (p : Pn) (s : Sb) : Pk := ⟨q.mode, p.subd, s.set, p.len, q.ttl, q.ent, q.ing, q.proto, s.bits, q.pay⟩
def e0 : ByteArray := ⟨#[]⟩
theorem gPlanL_len (rs : List Rt) (len : Int) : ∀ (o : List Int) (T : Tp) (id : Int) (l : List Ed), (gPlanL rs len o T id l).1.length ≤ l.length + o.length
 | [], _, _, _ => by simp [gPlanL]
 | x :: o, T, id, l => by
   have h1 := gPlanL_len rs len o (gPlanS rs len x T id l).2.2 (gPlanS rs len x T id l).2.1 (gPlanS rs len x T id l).1
   have h2 : (gPlanS rs len x T id l).1.length ≤ l.length + 1 := by
    unfold gPlanS
    simp only
    split
    ·simp
    ·simp only
     split <;> simp
   simp only [gPlanL, List.length_cons]
   omega
theorem gPlan0_len (T : Tp) (rs : List Rt) : (gPlan0 T rs).1.es.length ≤ rs.length := by
 have := gPlanL_len rs (gPick (gNext T 3).2 [8, 8, 16, 32, 64]).1 (gOrder (gPick (gNext T 3).2 [8, 8, 16, 32, 64]).2 rs.length).1 (gOrder (gPick (gNext T 3).2 [8, 8, 16, 32, 64]).2 rs.length).2 0 []
 rw [gOrder_len] at this
 simpa [gPlan0] using this
theorem gPlan_len (T : Tp) (rs : List Rt) (n : Int) : (gPlan T rs n).1.es.length ≤ rs.length + 1 := by
 have := gPlan0_len T rs
 unfold gPlan
 simp only
 split
 ·split
  ·unfold gSpoilN
   simp only
   split
   ·simp; omega
   ·split
    ·simp; omega
    ·split
     ·simp; omega
     ·split
      ·split
       ·dsimp only; omega
       ·rename_i h; simp [h] at this ⊢; omega
      ·simp; omega
  ·simp; omega
 ·simp; omega
theorem gTopA_ok (cost tree : Int) (skip : Bool) (b : Int) : ∀ (n : Nat) (a : Int) (T : Tp) (l : List Lk), TapeOK (gTopA cost tree skip b n a T l).2 = TapeOK T
 | 0, _, _, _ => rfl
 | n + 1, a, T, l => by rw [gTopA, gTopA_ok cost tree skip b n, gTopS_ok]
theorem gTopB_ok (cost : Int) : ∀ (n : Nat) (b : Int) (T : Tp) (l : List Lk), TapeOK (gTopB cost n b T l).2 = TapeOK T
 | 0, _, _, _ => rfl
 | n + 1, b, T, l => by
   rw [gTopB, gTopB_ok cost n]
   simp only [gTopR]
   rw [gTopA_ok]; simp
@[simp] theorem gTop_ok (T : Tp) (most : Int) : TapeOK (gTop T most).2 = TapeOK T := by
 simp only [gTop]; rw [gTopB_ok]; simp
theorem gPlanL_ok (rs : List Rt) (len : Int) : ∀ (o : List Int) (T : Tp) (id : Int) (l : List Ed), TapeOK (gPlanL rs len o T id l).2.2 = TapeOK T
 | [], _, _, _ => rfl
 | x :: o, T, id, l => by
   rw [gPlanL, gPlanL_ok rs len o]
   unfold gPlanS
   simp only
   split <;> simp
@[simp] theorem gWild_ok (T : Tp) : TapeOK (gWild T).2 = TapeOK T := by simp [gWild]
@[simp] theorem gPlan_ok (T : Tp) (rs : List Rt) (n : Int) : TapeOK (gPlan T rs n).2 = TapeOK T := by
 have h0 : TapeOK (gPlan0 T rs).2.2 = TapeOK T := by simp [gPlan0, gPlanL_ok]
 unfold gPlan
 simp only
 split
 ·split
  ·unfold gSpoilN
   simp only
   split
   ·simp [h0]
   ·split
    ·simp [h0]
    ·split
     ·simp [h0]
     ·split
      ·split <;> simp [h0]
      ·simp [h0]
  ·simp [h0]
 ·exact h0
@[simp] theorem gPk0_ok (T : Tp) : TapeOK (gPk0 T).2 = TapeOK T := by simp [gPk0]
theorem inside11_c (n lo hi : Int) : Contract Tryz.prog 85 [.d (.int .i64 n), .d (.int .i64 lo), .d (.int .i64 hi)] [] (.d (.bool (inB n lo hi))) [] [] := by
 refine contract_of Tryz.func85 rfl (fun E0 => ?_)
 refine awp.sound (g := .mk) (ow := []) (kp := (fun k => k==0||k==1||k==2||k==6)) ?_
 rw [Tryz.ntmps85]
 by_cases h : lo ≤ n
 ·simp -dsimp [h]
  refine Fin.of ?_
  simp [inB, h]
 ·simp -dsimp [h]
  refine Fin.of ?_
  simp [inB, h]
theorem in11_c (n lo hi : Int) : Contract Tryz.prog 77 [.d (.int .i64 n), .d (.int .i64 lo), .d (.int .i64 hi)] [] (.d (.bool (inB n lo hi))) [] [] := by
 refine contract_of Tryz.func77 rfl (fun E0 => ?_)
 refine awp.sound (g := .mk) (ow := []) (kp := (fun k => k==0||k==1||k==2||k==6)) ?_
 rw [Tryz.ntmps77]
 by_cases h : lo ≤ n
 ·simp -dsimp [h]
  refine Fin.of ?_
  simp [inB, h]
 ·simp -dsimp [h]
  refine Fin.of ?_
  simp [inB, h]
def hasI (l : List Int) (n : Int) : Bool := decide (n ∈ l)
theorem has04_cL (l : List Int) (hl : l.length ≤ 9223372036854775807) (n : Int) : Contract Tryz.prog 64 [.d (ints l), .d (.int .i64 n)] [] (.d (.bool (hasI l n))) [] [] := by
 refine contract_of Tryz.func64 rfl (fun E0 => ?_)
 refine awp.sound (g := .mk) (ow := []) (kp := (fun k => k==0||k==1||k==4||k==5||k==9||k==17)) ?_
 rw [Tryz.ntmps64]
 simp -dsimp [ints]
 refine ALoop.of [] (fun k => k==0||k==1||k==4||k==5||k==9||k==17) (ι := { i : Nat // i ≤ l.length ∧ ∀ a, a < i → ∀ x, l[a]? = some x → x ≠ n }) (fun z => [(Pl.s 0, It.v (.d (ints l))), (Pl.s 1, It.v (.d (.int .i64 n))), (Pl.s 4, It.v (.d (.bool false))), (Pl.s 5, It.v (.d (.int .i64 z.1)))]) (fun z => l.length - z.1) ⟨0, by omega, fun a h => by omega⟩ ?_ ?_
 ·exact GS.to (by simp [ints])
 ·rintro ⟨i, i1, i2⟩
  by_cases hi : i < l.length
  ·by_cases h : l[i] = n
   ·simp -dsimp [ints, hi, h]
    try refine ⟨?_, ⟨by kernel_rfl⟩⟩
    refine Fin.of ?_
    have : hasI l n = true := by simp only [hasI, decide_eq_true_eq]; rw [← h]; exact List.getElem_mem hi
    simp [this]
   ·simp -dsimp [ints, hi, h, wrap_i64 (n := (i : Int) + 1) (by omega) (by omega)]
    try refine ⟨?_, ⟨by kernel_rfl⟩⟩
    exact ⟨⟨i + 1, by omega, fun a ha x hx => by
     by_cases e : a = i
     ·subst e; rw [List.getElem?_eq_getElem hi] at hx; simp only [Option.some.injEq] at hx; rw [← hx]; exact h
     ·exact i2 a (by omega) x hx⟩, GS.to (by simp [ints]), by simp; omega⟩
  ·simp -dsimp [ints, hi]
   refine Fin.of ?_
   have : hasI l n = false := by
    simp only [hasI, decide_eq_false_iff_not]
    intro hm
    obtain ⟨a, ha⟩ := List.getElem?_of_mem hm
    exact i2 a (by have := (List.getElem?_eq_some_iff.1 ha).1; omega) n ha rfl
   simp [this]
theorem has04_c (l : List Int) (hl : l.length ≤ 1000000) (n : Int) : Contract Tryz.prog 64 [.d (ints l), .d (.int .i64 n)] [] (.d (.bool (hasI l n))) [] [] := has04_cL l (Nat.le_trans hl (by decide)) n
theorem ints04_c (a b : List Int) (hl : a.length ≤ 1000000) : Contract Tryz.prog 20 [.d (ints a), .d (ints b)] [] (.d (.bool (decide (a = b)))) [] [] := by
 refine contract_of Tryz.func20 rfl (fun E0 => ?_)
 refine awp.sound (g := .mk) (ow := []) (kp := (fun k => k==0||k==1||k==4||k==5||k==10||k==14||k==25)) ?_
 rw [Tryz.ntmps20]
 by_cases hlen : a.length = b.length
 ·simp -dsimp [ints, hlen]
  refine ALoop.of [] (fun k => k==0||k==1||k==4||k==5||k==10||k==14||k==25) (ι := { i : Nat // i ≤ a.length ∧ ∀ j, j < i → a[j]? = b[j]? }) (fun z => [(Pl.s 0, It.v (.d (ints a))), (Pl.s 1, It.v (.d (ints b))), (Pl.s 4, It.v (.d (.bool false))), (Pl.s 5, It.v (.d (.int .i64 z.1)))]) (fun z => a.length - z.1) ⟨0, by omega, fun j h => by omega⟩ ?_ ?_
  ·exact GS.to (by simp [ints])
  ·rintro ⟨i, i1, i2⟩
   by_cases hi : i < a.length
   ·have hi' : i < b.length := by omega
    by_cases h : a[i] = b[i]
    ·simp -dsimp [ints, hi, hi', h, wrap_i64 (n := (i : Int) + 1) (by omega) (by omega)]
     try refine ⟨?_, ⟨by kernel_rfl⟩⟩
     exact ⟨⟨i + 1, by omega, fun j hj => by
      by_cases e : j = i
      ·subst e; rw [List.getElem?_eq_getElem hi, List.getElem?_eq_getElem hi', h]
      ·exact i2 j (by omega)⟩, GS.to (by simp [ints]), by simp; omega⟩
    ·simp -dsimp [ints, hi, hi', h]
     try refine ⟨?_, ⟨by kernel_rfl⟩⟩
     refine Fin.of ?_
     have : a ≠ b := fun e => by subst e; exact h rfl
     simp [this]
   ·simp -dsimp [ints, hi]
    refine Fin.of ?_
    have : a = b := List.ext_getElem? fun j => by
     by_cases hj : j < i
     ·exact i2 j hj
     ·rw [List.getElem?_eq_none (by omega), List.getElem?_eq_none (by omega)]
    simp [this]
 ·have hlen' : ¬ (a.length : Int) = b.length := by omega
  simp -dsimp [ints, hlen, hlen']
  refine Fin.of ?_
  have : a ≠ b := fun e => hlen (by rw [e])
  simp [this]
theorem insert04_c (l : List Int) (hl : l.length ≤ 1000000) (n : Int) : Contract Tryz.prog 63 [.d (ints l), .d (.int .i64 n)] [] (.d (ints (insI l n))) [] [] := by
 refine contract_of Tryz.func63 rfl (fun E0 => ?_)
 refine awp.sound (g := .mk) (ow := []) (kp := (fun k => k==0||k==1||k==4||k==5||k==6||k==18||k==32)) ?_
 rw [Tryz.ntmps63]
 simp -dsimp [ints]
 refine ALoop.of [] (fun k => k==0||k==1||k==4||k==5||k==6||k==18||k==32) (ι := { p : Nat // p ≤ l.length ∧ insPos n l = p + insPos n (l.drop p) }) (fun z => [(Pl.s 0, It.v (.d (ints l))), (Pl.s 1, It.v (.d (.int .i64 n))), (Pl.s 4, It.v (.c (Value.slice none 0 0))), (Pl.s 5, It.v (.d (.int .i64 z.1)))]) (fun z => l.length - z.1) ⟨0, by omega, by simp⟩ ?_ ?_
 ·exact GS.to (by simp [ints])
 ·rintro ⟨p, p1, p2⟩
  by_cases hp : p < l.length
  ·have hd : l.drop p = l[p] :: l.drop (p + 1) := List.drop_eq_getElem_cons _
   by_cases h : l[p] < n
   ·simp -dsimp [ints, hp, h, wrap_i64 (n := (p : Int) + 1) (by omega) (by omega)]
    try refine ⟨?_, ⟨by kernel_rfl⟩⟩
    exact ⟨⟨p + 1, by omega, by rw [p2, hd, insPos, if_pos h]; omega⟩, GS.to (by simp [ints]), by simp; omega⟩
   ·have hq : insPos n l = p := by rw [p2, hd, insPos, if_neg h]; omega
    by_cases he : l[p] = n
    ·simp -dsimp [ints, hp, h, he]
     try refine ⟨?_, ⟨by kernel_rfl⟩⟩
     refine Fin.of ?_
     have hI : insI l n = l := by rw [insI, if_pos (by rw [hq, List.getElem?_eq_getElem hp, he])]
     simp [hI]
    ·simp -dsimp [ints, hp, h, he]
     have dl : dLen 1 (l.map fun x => [D.int .i64 x]) := dLen_map 1 _ _ fun _ => rfl
     and_intros
     all_goals try first | omega | exact ⟨by kernel_rfl⟩ | exact dLen_take dl | exact dLen_drop (dLen_take dl) | (simp; omega)
     refine Fin.view 4 ?_
     simp -dsimp
     and_intros
     all_goals try first | omega | exact ⟨by kernel_rfl⟩ | (simp; omega)
     refine Fin.of ?_
     have hI : insI l n = l.take p ++ [n] ++ l.drop p := by rw [insI, hq, if_neg (by rw [List.getElem?_eq_getElem hp]; simpa using he)]
     simp [hI, ints, List.take_of_length_le]
  ·have hq : insPos n l = p := by rw [p2, List.drop_eq_nil_of_le (by omega), insPos]; omega
   simp -dsimp [ints, hp]
   have dl : dLen 1 (l.map fun x => [D.int .i64 x]) := dLen_map 1 _ _ fun _ => rfl
   and_intros
   all_goals try first | omega | exact ⟨by kernel_rfl⟩ | exact dLen_take dl | exact dLen_drop (dLen_take dl) | (simp; omega)
   refine Fin.view 4 ?_
   simp -dsimp
   and_intros
   all_goals try first | omega | exact ⟨by kernel_rfl⟩ | (simp; omega)
   refine Fin.of ?_
   have hI : insI l n = l.take p ++ [n] ++ l.drop p := by rw [insI, hq, if_neg (by rw [List.getElem?_eq_none (by omega)]; simp)]
   simp [hI, ints, List.take_of_length_le]
def idxV (v : Int) (l : List Int) : Int := match l.findIdx? (fun x => decide (x = v)) with | some i => i | none => -1
theorem idxV_at {v : Int} {l : List Int} {i : Nat} (hx : l[i]? = some v) (h : ∀ a, a < i → ∀ y, l[a]? = some y → y ≠ v) : idxV v l = i := by
 unfold idxV
 obtain ⟨hi, hv⟩ := List.getElem?_eq_some_iff.1 hx
 have : l.findIdx? (fun x => decide (x = v)) = some i := by
  rw [List.findIdx?_eq_some_iff_getElem]
  exact ⟨hi, by simp [hv], fun j hj => by have := h j hj _ (List.getElem?_eq_getElem (by omega)); simpa using this⟩
 rw [this]
theorem idxV_no {v : Int} {l : List Int} (h : ∀ a, a < l.length → ∀ y, l[a]? = some y → y ≠ v) : idxV v l = -1 := by
 unfold idxV
 have : l.findIdx? (fun x => decide (x = v)) = none := by
  rw [List.findIdx?_eq_none_iff]
  intro x hx
  obtain ⟨i, hi⟩ := List.getElem?_of_mem hx
  simpa using h i (List.getElem?_eq_some_iff.1 hi).1 x hi
 rw [this]
theorem idxV_has (v : Int) (l : List Int) : decide (0 ≤ idxV v l) = hasI l v := by
 unfold idxV hasI
 cases h : l.findIdx? (fun x => decide (x = v)) with
 | none =>
   have := List.findIdx?_eq_none_iff.1 h
   simp
   intro hm
   simpa using this v hm
 | some i =>
   obtain ⟨hi, h1, _⟩ := List.findIdx?_eq_some_iff_getElem.1 h
   simp at h1
   simp
   rw [← h1]; exact List.getElem_mem hi
theorem index_cL (l : List Int) (hl : l.length ≤ 9223372036854775807) (v : Int) : Contract Tryz.prog 124 [.d (ints l), .d (.int .i64 v)] [] (.d (.int .i64 (idxV v l))) [] [] := by
 refine contract_of Tryz.func124 rfl (fun E0 => ?_)
 refine awp.sound (g := .mk) (ow := []) (kp := (fun k => k==0||k==1||k==4||k==5||k==7||k==8||k==9||k==16)) ?_
 rw [Tryz.ntmps124]
 simp -dsimp [ints]
 refine ALoop.of [] (fun k => k==0||k==1||k==4||k==5||k==7||k==8||k==9||k==16) (ι := { i : Nat // i ≤ l.length ∧ ∀ a, a < i → ∀ x, l[a]? = some x → x ≠ v }) (fun z => [(Pl.s 0, It.v (.d (ints l))), (Pl.s 1, It.v (.d (.int .i64 v))), (Pl.s 4, It.v (.d (.int .i64 0))), (Pl.s 7, It.v (.d (.int .i64 l.length))), (Pl.s 8, It.v (.d (.int .i64 z.1)))]) (fun z => l.length - z.1) ⟨0, by omega, fun a h => by omega⟩ ?_ ?_
 ·exact GS.to (by simp [ints])
 ·rintro ⟨i, i1, i2⟩
  by_cases hi : i < l.length
  ·by_cases h : l[i] = v
   ·have h' : v = l[i] := h.symm
    simp -dsimp [ints, hi, h, wrap_i64 (n := (i : Int) + 1) (by omega) (by omega)]
    try refine ⟨?_, ⟨by kernel_rfl⟩⟩
    refine Fin.of ?_
    simp [idxV_at (v := v) (l := l) (i := i) (by rw [List.getElem?_eq_getElem hi, h]) i2]
   ·have h' : ¬ v = l[i] := fun e => h e.symm
    simp -dsimp [ints, hi, h, h', wrap_i64 (n := (i : Int) + 1) (by omega) (by omega)]
    try refine ⟨?_, ⟨by kernel_rfl⟩⟩
    exact ⟨⟨i + 1, by omega, fun a ha x hx => by
     by_cases e : a = i
     ·subst e; rw [List.getElem?_eq_getElem hi] at hx; simp only [Option.some.injEq] at hx; rw [← hx]; exact h
     ·exact i2 a (by omega) x hx⟩, GS.to (by simp [ints]), by simp; omega⟩
  ·simp -dsimp [ints, hi]
   refine Fin.of ?_
   simp [idxV_no (v := v) (l := l) fun a ha => i2 a (by omega)]
theorem contains_cL (l : List Int) (hl : l.length ≤ 9223372036854775807) (v : Int) : Contract Tryz.prog 84 [.d (ints l), .d (.int .i64 v)] [] (.d (.bool (hasI l v))) [] [] := by
 refine contract_of Tryz.func84 rfl (fun E0 => ?_)
 refine awp.sound (g := .mk) (ow := []) (kp := (fun k => k==0||k==1||k==4)) ?_
 rw [Tryz.ntmps84]
 simp -dsimp
 refine ACall.of (index_cL l hl v) [] 0 ?_
 simp -dsimp
 refine Fin.of ?_
 simp [idxV_has]
end Go.Proofs

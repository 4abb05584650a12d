/-
  What functions of the program compute, stated as contracts over plain data; the conditions of each stand in its own statement.
-/
import Derived.Test.YteenclepbpajdaaGreatDoorM16
set_option linter.unusedSimpArgs false
set_option maxRecDepth 100000
set_option maxHeartbeats 2000000
namespace Go.Proofs
open Go Go.Tr
def gid (es : List Ed) (i : Nat) : Int := (es.getD i ⟨0, 0⟩).id
def grt (es : List Ed) (i : Nat) : Int := (es.getD i ⟨0, 0⟩).r
def baseB (p : Pn) : Bool := inB p.subd 0 7 && ((validLen p.len || (decide (p.len = 0) && decide (p.es.length = 0))) && decide (p.es.length ≤ 24))
def edB (es : List Ed) (i : Nat) : Bool := inB (gid es i) 1 256 && (inB (grt es i) 1 99 && (decide (i = 0) || decide (gid es (i - 1) < gid es i)))
open Classical in
noncomputable def planB (p : Pn) : Bool := decide (baseB p = true ∧ (∀ i, i < p.es.length → edB p.es i = true) ∧ ∀ i j, j < i → i < p.es.length → grt p.es i ≠ grt p.es j)
theorem planB_base {p : Pn} (h : baseB p = false) : planB p = false := by
 simp only [planB, decide_eq_false_iff_not]
 rintro ⟨h1, _⟩; rw [h] at h1; simp at h1
theorem planB_ed {p : Pn} {i : Nat} (hi : i < p.es.length) (h : edB p.es i = false) : planB p = false := by
 simp only [planB, decide_eq_false_iff_not]
 rintro ⟨_, h1, _⟩; have := h1 i hi; rw [h] at this; simp at this
theorem planB_rt {p : Pn} {i j : Nat} (hj : j < i) (hi : i < p.es.length) (h : grt p.es i = grt p.es j) : planB p = false := by
 simp only [planB, decide_eq_false_iff_not]
 rintro ⟨_, _, h1⟩; exact h1 i j hj hi h
theorem planB_ok {p : Pn} (h : baseB p = true) (h1 : ∀ i, i < p.es.length → edB p.es i = true) (h2 : ∀ i j, j < i → i < p.es.length → grt p.es i ≠ grt p.es j) : planB p = true := by
 simp only [planB, decide_eq_true_eq]
 exact ⟨h, h1, h2⟩
theorem planB_rep {p : Pn} (h : baseB p = true) (h1 : ∀ i, i < p.es.length → edB p.es i = true) : planB p = !(repB (p.es.map (·.r))) := by
 have hg : ∀ i, i < p.es.length → (p.es.map (·.r)).getD i 0 = grt p.es i := fun i hi => by simp [grt, List.getD, hi]
 by_cases h2 : ∀ i j, j < i → i < p.es.length → grt p.es i ≠ grt p.es j
 ·rw [planB_ok h h1 h2, repB_false fun i j hj hi => by simp at hi; rw [hg i hi, hg j (by omega)]; exact h2 i j hj hi]; rfl
 ·have : ∃ i j, j < i ∧ i < p.es.length ∧ grt p.es i = grt p.es j := Classical.byContradiction fun hc => h2 fun i j hj hi he => hc ⟨i, j, hj, hi, he⟩
  obtain ⟨i, j, hj, hi, he⟩ := this
  rw [planB_rt hj hi he, repB_true (l := p.es.map (·.r)) hj (by simpa using hi) (by rw [hg i hi, hg j (by omega)]; exact he)]; rfl
theorem validPlan10_c (p : Pn) (hp : p.es.length ≤ 1000) : Contract Tryz.prog 86 [planT p] [] (.d (.bool (planB p))) [] [] := by
 refine contract_of Tryz.func86 rfl (fun E0 => ?_)
 refine awp.sound (g := .mk) (ow := []) (kp := (fun k => k==0||k==1||k==2||k==3||k==4||k==5||k==32||k==37||k==70)) ?_
 rw [Tryz.ntmps86]
 simp -dsimp [planT]
 refine ACall.of (inside10_c p.subd 0 7) [] 0 ?_
 rcases (Bool.eq_false_or_eq_true (inB p.subd 0 7)).symm with a1 | a1
 ·simp -dsimp [a1]
  refine Fin.of ?_
  simp
  exact planB_base (by simp [baseB, a1])
 ·simp -dsimp [a1]
  refine ACall.of (validLength_c p.len) [] 0 ?_
  rcases (Bool.eq_false_or_eq_true (validLen p.len)).symm with a2 | a2
  ·by_cases a3 : p.len = 0
   ·by_cases a4 : p.es.length = 0
    ·have hb : baseB p = true := by simp [baseB, a1, a2, a3, a4, show validLen 0 = false from rfl]
     simp -dsimp [a1, a2, a3, a4, show validLen 0 = false from rfl]
     refine ALoop.of [] (fun k => k==0||k==1||k==2||k==3||k==4||k==5||k==32||k==37||k==70) (ι := { i : Nat // i ≤ p.es.length ∧ ∀ a, a < i → edB p.es a = true })
      (fun z => [(Pl.s 0, It.v (TV.agg [TV.d (D.int IntKind.i64 p.subd), TV.d (D.int IntKind.i64 p.len), TV.d (D.sl (eds p.es))])), (Pl.o 1, It.box [TV.d (D.int IntKind.i64 p.subd), TV.d (D.int IntKind.i64 p.len), TV.d (D.sl (eds p.es))]),
       (Pl.s 1, It.v (TV.ptr (Pl.o 1) 0)), (Pl.s 2, It.v (TV.d (D.bool false))), (Pl.s 3, It.v (TV.oref 3 z.1)), (Pl.o 3, .row 3 1 (dd ((p.es.take z.1).map fun e => [.int .i64 e.r])) false), (Pl.s 4, It.v (TV.d (D.int IntKind.i64 z.1)))])
      (fun z => p.es.length - z.1) ⟨0, by omega, fun a h => by omega⟩ ?_ ?_
     ·exact GS.own' (k := 3) 3 1 (by simp) (by simp) (by simp [a1, a2, a3, a4, show validLen 0 = false from rfl])
     ·rintro ⟨i, i1, i2⟩
      have hi : ¬ i < p.es.length := by omega
      obtain rfl : i = p.es.length := by omega
      simp -dsimp [hi]
      refine ACall.of (repeats_c (p.es.map (·.r)) (by simp; omega)) [] 0 ?_
      simp -dsimp [ints, List.map_map, Function.comp_def]
      refine Fin.of ?_
      simp [planB_rep hb i2]
    ·have a5 : 0 < p.es.length := by omega
     simp -dsimp [a1, a2, a3, a4, a5, show validLen 0 = false from rfl]
     refine Fin.of ?_
     simp
     exact planB_base (by simp [baseB, a1, a2, a3, a4, show validLen 0 = false from rfl])
   ·simp -dsimp [a1, a2, a3]
    refine Fin.of ?_
    simp
    exact planB_base (by simp [baseB, a1, a2, a3])
  ·by_cases a6 : p.es.length ≤ 24
   ·have a7 : ¬ (24 : Int) < p.es.length := by omega
    have hb : baseB p = true := by simp [baseB, a1, a2, a6]
    simp -dsimp [a1, a2, a7]
    refine ALoop.of [] (fun k => k==0||k==1||k==2||k==3||k==4||k==5||k==32||k==37||k==70) (ι := { i : Nat // i ≤ p.es.length ∧ ∀ a, a < i → edB p.es a = true })
     (fun z => [(Pl.s 0, It.v (TV.agg [TV.d (D.int IntKind.i64 p.subd), TV.d (D.int IntKind.i64 p.len), TV.d (D.sl (eds p.es))])), (Pl.o 1, It.box [TV.d (D.int IntKind.i64 p.subd), TV.d (D.int IntKind.i64 p.len), TV.d (D.sl (eds p.es))]),
      (Pl.s 1, It.v (TV.ptr (Pl.o 1) 0)), (Pl.s 2, It.v (TV.d (D.bool false))), (Pl.s 3, It.v (TV.oref 3 z.1)), (Pl.o 3, .row 3 1 (dd ((p.es.take z.1).map fun e => [.int .i64 e.r])) false), (Pl.s 4, It.v (TV.d (D.int IntKind.i64 z.1)))])
     (fun z => p.es.length - z.1) ⟨0, by omega, fun a h => by omega⟩ ?_ ?_
    ·exact GS.own' (k := 3) 3 1 (by simp) (by simp) (by simp [a1, a2])
    ·rintro ⟨i, i1, i2⟩
     by_cases hi : i < p.es.length
     ·obtain ⟨x, hx⟩ : ∃ x, p.es[i]? = some x := ⟨p.es[i], List.getElem?_eq_getElem hi⟩
      have gx : gid p.es i = x.id ∧ grt p.es i = x.r := by simp [gid, grt, List.getD, hx]
      simp -dsimp [hi, eds_get' hx, Ed.cs]
      refine ACall.of (inside10_c x.id 1 256) [] 0 ?_
      rcases (Bool.eq_false_or_eq_true (inB x.id 1 256)).symm with b1 | b1
      ·simp -dsimp [b1]
       refine ⟨?_, ⟨by kernel_rfl⟩⟩
       refine Fin.of ?_
       simp
       exact planB_ed hi (by simp [edB, gx, b1])
      ·simp -dsimp [b1]
       refine ACall.of (inside10_c x.r 1 99) [] 0 ?_
       rcases (Bool.eq_false_or_eq_true (inB x.r 1 99)).symm with b2 | b2
       ·simp -dsimp [b1, b2]
        refine ⟨?_, ⟨by kernel_rfl⟩⟩
        refine Fin.of ?_
        simp
        exact planB_ed hi (by simp [edB, gx, b1, b2])
       ·by_cases b3 : 0 < i
        ·obtain ⟨y, hy⟩ : ∃ y, p.es[i - 1]? = some y := ⟨p.es[i - 1], List.getElem?_eq_getElem (by omega)⟩
         have gy : gid p.es (i - 1) = y.id := by simp [gid, List.getD, hy]
         have b5 : (1 : Int) ≤ i := by omega
         have b6 : (i : Int) - 1 < p.es.length := by omega
         have b7 : i ≠ 0 := by omega
         by_cases b4 : x.id ≤ y.id
         ·simp -dsimp [b1, b2, b3, b4, b5, b6, eds_get hy, Ed.cs, wrap_i64 (n := (i : Int) - 1) (by omega) (by omega)]
          refine ⟨?_, ⟨by kernel_rfl⟩⟩
          refine Fin.of ?_
          simp
          exact planB_ed hi (by simp [edB, gx, gy, b1, b2, b7] <;> omega)
         ·simp -dsimp [b1, b2, b3, b4, b5, b6, eds_get hy, Ed.cs, wrap_i64 (n := (i : Int) - 1) (by omega) (by omega), wrap_i64 (n := (i : Int) + 1) (by omega) (by omega)]
          and_intros
          all_goals try first | omega | exact ⟨by kernel_rfl⟩
          exact ⟨⟨i + 1, by omega, fun a ha => by
           by_cases e : a = i
           ·subst e; simp [edB, gx, gy, b1, b2] <;> omega
           ·exact i2 a (by omega)⟩, GS.to (by simp [List.take_add_one, hx]), by simp; omega⟩
        ·obtain rfl : i = 0 := by omega
         simp -dsimp [b1, b2, wrap_i64 (n := 1) (by omega) (by omega)]
         and_intros
         all_goals try first | omega | exact ⟨by kernel_rfl⟩
         exact ⟨⟨1, by omega, fun a ha => by
          obtain rfl : a = 0 := by omega
          simp [edB, gx, b1, b2]⟩, GS.to (by simp [List.take_add_one, hx]), by simp; omega⟩
     ·obtain rfl : i = p.es.length := by omega
      simp -dsimp [hi]
      refine ACall.of (repeats_c (p.es.map (·.r)) (by simp; omega)) [] 0 ?_
      simp -dsimp [ints, List.map_map, Function.comp_def]
      refine Fin.of ?_
      simp [planB_rep hb i2]
   ·have a7 : (24 : Int) < p.es.length := by omega
    simp -dsimp [a1, a2, a7]
    refine Fin.of ?_
    simp
    exact planB_base (by simp [baseB, a1, a2, a6])
def plSet (id len : Int) : Int := if validLen len && inB id 1 256 then (id - 1) / len else 0
def plBit (id len : Int) : Int := if validLen len && inB id 1 256 then (id - 1) % len else 0
theorem plB (id len : Int) : 0 ≤ plSet id len ∧ plSet id len ≤ 255 ∧ 0 ≤ plBit id len ∧ plBit id len < 64 := by
 unfold plSet plBit
 split
 ·rename_i h
  simp [validLen, inB] at h
  obtain ⟨((h | h) | h) | h, h1, h2⟩ := h <;> subst h <;> omega
 ·omega
def placeT (id len : Int) : TV := .tup [.d (.int .i64 (plSet id len)), .d (.int .i64 (plBit id len)), .d (.bool (validLen len && inB id 1 256))]
theorem place10_c (id len : Int) : Contract Tryz.prog 62 [.d (.int .i64 id), .d (.int .i64 len)] [] (placeT id len) [] [] := by
 refine contract_of Tryz.func62 rfl (fun E0 => ?_)
 refine awp.sound (g := .mk) (ow := []) (kp := (fun k => k==0||k==1||k==4||k==5||k==6||k==14)) ?_
 rw [Tryz.ntmps62]
 simp -dsimp
 refine ACall.of (validLength_c len) [] 0 ?_
 rcases (Bool.eq_false_or_eq_true (validLen len)).symm with a1 | a1
 ·simp -dsimp [a1]
  refine Fin.of ?_
  simp [placeT, plSet, plBit, a1]
 ·have hl : len = 8 ∨ len = 16 ∨ len = 32 ∨ len = 64 := by simp [validLen] at a1; omega
  simp -dsimp [a1]
  refine ACall.of (inside10_c id 1 256) [] 0 ?_
  rcases (Bool.eq_false_or_eq_true (inB id 1 256)).symm with a2 | a2
  ·simp -dsimp [a1, a2]
   refine Fin.of ?_
   simp [placeT, plSet, plBit, a1, a2]
  ·have hi : 1 ≤ id ∧ id ≤ 256 := by simpa [inB] using a2
   have e1 : (id - 1).tdiv len = (id - 1) / len := Int.tdiv_eq_ediv_of_nonneg (by omega)
   have e2 : (id - 1).tmod len = (id - 1) % len := Int.tmod_eq_emod_of_nonneg (by omega)
   have d1 : 0 ≤ (id - 1) / len ∧ (id - 1) / len ≤ 255 := by rcases hl with rfl | rfl | rfl | rfl <;> omega
   simp -dsimp [a1, a2, e1, e2, wrap_i64 (n := id - 1) (by omega) (by omega), wrap_i64 (n := (id - 1) / len) (by omega) (by omega)]
   refine ⟨by omega, ?_, ⟨by kernel_rfl⟩⟩
   refine Fin.of ?_
   simp [placeT, plSet, plBit, a1, a2]
theorem place10_c2 (id len : Int) : Contract Tryz.prog 146 [.d (.int .i64 id), .d (.int .i64 len)] [] (placeT id len) [] [] := by
 refine contract_of Tryz.func146 rfl (fun E0 => ?_)
 refine awp.sound (g := .mk) (ow := []) (kp := (fun k => k==0||k==1||k==4||k==5||k==6||k==14)) ?_
 rw [Tryz.ntmps146]
 simp -dsimp
 refine ACall.of (validLength_c2 len) [] 0 ?_
 rcases (Bool.eq_false_or_eq_true (validLen len)).symm with a1 | a1
 ·simp -dsimp [a1]
  refine Fin.of ?_
  simp [placeT, plSet, plBit, a1]
 ·have hl : len = 8 ∨ len = 16 ∨ len = 32 ∨ len = 64 := by simp [validLen] at a1; omega
  simp -dsimp [a1]
  refine ACall.of (in10_c id 1 256) [] 0 ?_
  rcases (Bool.eq_false_or_eq_true (inB id 1 256)).symm with a2 | a2
  ·simp -dsimp [a1, a2]
   refine Fin.of ?_
   simp [placeT, plSet, plBit, a1, a2]
  ·have hi : 1 ≤ id ∧ id ≤ 256 := by simpa [inB] using a2
   have e1 : (id - 1).tdiv len = (id - 1) / len := Int.tdiv_eq_ediv_of_nonneg (by omega)
   have e2 : (id - 1).tmod len = (id - 1) % len := Int.tmod_eq_emod_of_nonneg (by omega)
   have d1 : 0 ≤ (id - 1) / len ∧ (id - 1) / len ≤ 255 := by rcases hl with rfl | rfl | rfl | rfl <;> omega
   simp -dsimp [a1, a2, e1, e2, wrap_i64 (n := id - 1) (by omega) (by omega), wrap_i64 (n := (id - 1) / len) (by omega) (by omega)]
   refine ⟨by omega, ?_, ⟨by kernel_rfl⟩⟩
   refine Fin.of ?_
   simp [placeT, plSet, plBit, a1, a2]
end Go.Proofs

set_option linter.unusedSimpArgs false
set_option maxRecDepth 100000
set_option maxHeartbeats 2000000
namespace Go.Proofs
open Go Go.Tr
def edgeT (p : Pn) (id : Int) : TV := .tup (match p.es.find? (fun e => decide (e.id = id)) with | some e => [.agg (e.cs.map .d), .d (.bool true)] | none => [.agg [.d (.int .i64 0), .d (.int .i64 0)], .d (.bool false)])
theorem find_at {es : List Ed} {id : Int} {i : Nat} {x : Ed} (hx : es[i]? = some x) (hid : x.id = id) (h : ∀ a, a < i → gid es a ≠ id) : es.find? (fun e => decide (e.id = id)) = some x := by
 induction es generalizing i with
 | nil => simp at hx
 | cons e es ih =>
   cases i with
   | zero =>
     simp at hx; subst hx
     simp [hid]
   | succ i =>
     have h0 := h 0 (by omega)
     simp [gid] at h0
     rw [List.find?_cons_of_neg (by simpa using h0)]
     exact ih (by simpa using hx) fun a ha => by
      have := h (a + 1) (by omega)
      simpa [gid] using this
theorem find_no {es : List Ed} {id : Int} (h : ∀ a, a < es.length → gid es a ≠ id) : es.find? (fun e => decide (e.id = id)) = none := by
 rw [List.find?_eq_none]
 intro e he
 obtain ⟨i, hi⟩ := List.getElem?_of_mem he
 have := h i (List.getElem?_eq_some_iff.1 hi).1
 simpa [gid, List.getD, hi] using this
theorem edge10_c (p : Pn) (hp : p.es.length ≤ 1000) (id : Int) : Contract Tryz.prog 43 [planT p, .d (.int .i64 id)] [] (edgeT p id) [] [] := by
 refine contract_of Tryz.func43 rfl (fun E0 => ?_)
 refine awp.sound (g := .mk) (ow := []) (kp := (fun k => k==0||k==1||k==2||k==4||k==5||k==6||k==11||k==21)) ?_
 rw [Tryz.ntmps43]
 simp -dsimp [planT]
 refine ALoop.of [] (fun k => k==0||k==1||k==2||k==4||k==5||k==6||k==11||k==21) (ι := { i : Nat // i ≤ p.es.length ∧ ∀ a, a < i → gid p.es a ≠ id })
  (fun z => [(Pl.s 0, It.v (TV.agg [TV.d (D.int IntKind.i64 p.subd), TV.d (D.int IntKind.i64 p.len), TV.d (D.sl (eds p.es))])), (Pl.s 1, It.v (TV.d (D.int IntKind.i64 id))),
   (Pl.o 2, It.box [TV.d (D.int IntKind.i64 p.subd), TV.d (D.int IntKind.i64 p.len), TV.d (D.sl (eds p.es))]),
   (Pl.s 2, It.v (TV.ptr (Pl.o 2) 0)), (Pl.o 4, It.box [TV.d (D.int IntKind.i64 0), TV.d (D.int IntKind.i64 0)]),
   (Pl.s 4, It.v (TV.ptr (Pl.o 4) 0)), (Pl.s 5, It.v (TV.d (D.bool false))), (Pl.s 6, It.v (TV.d (D.int IntKind.i64 z.1)))])
  (fun z => p.es.length - z.1) ⟨0, by omega, fun a h => by omega⟩ ?_ ?_
 ·exact GS.to (by simp)
 ·rintro ⟨i, i1, i2⟩
  by_cases hi : i < p.es.length
  ·obtain ⟨x, hx⟩ : ∃ x, p.es[i]? = some x := ⟨p.es[i], List.getElem?_eq_getElem hi⟩
   have gx : gid p.es i = x.id := by simp [gid, List.getD, hx]
   by_cases h : x.id = id
   ·simp -dsimp [hi, eds_get' hx, Ed.cs, h]
    try refine ⟨?_, ⟨by kernel_rfl⟩⟩
    refine Fin.of ?_
    simp [edgeT, find_at hx h i2, Ed.cs, h]
   ·simp -dsimp [hi, eds_get' hx, Ed.cs, h, wrap_i64 (n := (i : Int) + 1) (by omega) (by omega)]
    try refine ⟨?_, ⟨by kernel_rfl⟩⟩
    exact ⟨⟨i + 1, by omega, fun a ha => by
     by_cases e : a = i
     ·subst e; rw [gx]; exact h
     ·exact i2 a (by omega)⟩, GS.to (by simp), by simp; omega⟩
  ·simp -dsimp [hi]
   refine Fin.of ?_
   have hn := find_no (es := p.es) (id := id) fun a ha => i2 a (by omega)
   simp [edgeT, hn]
structure Sb where
 set : Int
 bits : BitVec 64
def Sb.cs (x : Sb) : List D := [.int .i64 x.set, bv x.bits]
def sbs (l : List Sb) : List (List D) := l.map Sb.cs
@[simp] theorem sbs_len (l : List Sb) : (sbs l).length = l.length := by simp [sbs]
theorem sbs_get {l : List Sb} {i : Nat} {x : Sb} (h : l[i]? = some x) : (sbs l)[i]? = some x.cs := by simp [sbs, h]
theorem sbs_get' {l : List Sb} {i : Nat} {x : Sb} (h : l[i]? = some x) (hi : i < (sbs l).length) : (sbs l)[i] = x.cs := by
 have := sbs_get h
 rw [List.getElem?_eq_getElem hi] at this
 simpa using this
def sbPut (l : List Sb) (s : Int) (b : BitVec 64) : List Sb :=
 match l.getLast? with
 | none => [⟨s, b⟩]
 | some x => if x.set = s then l.dropLast ++ [⟨x.set, x.bits ||| b⟩] else l ++ [⟨s, b⟩]
theorem sbPut_nil (s : Int) (b : BitVec 64) : sbPut [] s b = [⟨s, b⟩] := rfl
theorem sbPut_same (pre : List Sb) (y : Sb) (b : BitVec 64) : sbPut (pre ++ [y]) y.set b = pre ++ [⟨y.set, y.bits ||| b⟩] := by simp [sbPut]
theorem sbPut_new (pre : List Sb) (y : Sb) {s : Int} (h : y.set ≠ s) (b : BitVec 64) : sbPut (pre ++ [y]) s b = pre ++ [y] ++ [⟨s, b⟩] := by simp [sbPut, h]
theorem sbPut_len (l : List Sb) (s : Int) (b : BitVec 64) : (sbPut l s b).length ≤ l.length + 1 := by
 rcases List.eq_nil_or_concat l with rfl | ⟨pre, y, rfl⟩
 ·simp [sbPut_nil]
 ·rw [List.concat_eq_append]
  by_cases h : y.set = s
  ·subst h; rw [sbPut_same]; simp
  ·rw [sbPut_new _ _ h]; simp
def sbAll (len : Int) : List Int → List Sb → List Sb
 | [], l => l
 | id :: ids, l => sbAll len ids (sbPut l (plSet id len) (bitB (plBit id len)))
open Classical in
noncomputable def ascB (l : List Int) : Bool := decide (∀ i, 0 < i → i < l.length → l.getD (i - 1) 0 < l.getD i 0)
def knownB (p : Pn) (id : Int) : Bool := (p.es.find? (fun e => decide (e.id = id))).isSome
noncomputable def setsR (p : Pn) (ids : List Int) : List Sb × Int :=
 if planB p = true then
  if ascB ids = true then
   if ids.all (knownB p) = true then (sbAll p.len ids [], 0) else ([], 4)
  else ([], 25)
 else ([], 1)
def setsT (r : List Sb × Int) : TV := .tup [.d (.sl (sbs r.1)), .d (.int .i64 r.2)]
theorem sets10_c (p : Pn) (hp : p.es.length ≤ 1000) (ids : List Int) (hi : ids.length ≤ 100000) : Contract Tryz.prog 108 [planT p, .d (ints ids)] [] (setsT (setsR p ids)) [] [] := by
 refine contract_of Tryz.func108 rfl (fun E0 => ?_)
 refine awp.sound (g := .mk) (ow := []) (kp := (fun k => k==0||k==1||k==2||k==4||k==5||k==6||k==7||k==9||k==10||k==11||k==12||k==13||k==17||k==21||k==33||k==37||k==50||k==54||k==81)) ?_
 rw [Tryz.ntmps108]
 simp -dsimp [planT]
 refine ACall.of (validPlan10_c p hp) [] 0 ?_
 rcases (Bool.eq_false_or_eq_true (planB p)).symm with a1 | a1
 ·simp -dsimp [a1, planT]
  refine Fin.view 4 ?_
  simp -dsimp
  refine Fin.of ?_
  simp [setsT, setsR, a1, sbs]
 ·simp -dsimp [a1, planT]
  refine ALoop.of [] (fun k => k==0||k==1||k==2||k==4||k==5||k==6||k==7||k==9||k==10||k==11||k==12||k==13||k==17||k==21||k==33||k==37||k==50||k==54||k==81) (ι := { i : Nat // 1 ≤ i ∧ i ≤ max 1 ids.length ∧ ∀ a, 0 < a → a < i → ids.getD (a - 1) 0 < ids.getD a 0 })
   (fun z => [(Pl.s 0, It.v (TV.agg [TV.d (D.int IntKind.i64 p.subd), TV.d (D.int IntKind.i64 p.len), TV.d (D.sl (eds p.es))])), (Pl.s 1, It.v (TV.d (ints ids))),
    (Pl.o 2, It.box [TV.d (D.int IntKind.i64 p.subd), TV.d (D.int IntKind.i64 p.len), TV.d (D.sl (eds p.es))]),
    (Pl.s 2, It.v (TV.ptr (Pl.o 2) 0)), (Pl.s 4, It.v (TV.c (Value.slice none 0 0))), (Pl.s 5, It.v (TV.d (D.int IntKind.i64 0))), (Pl.s 6, It.v (TV.d (D.int IntKind.i64 z.1)))])
   (fun z => ids.length - z.1) ⟨1, by omega, by omega, fun a h => by omega⟩ ?_ ?_
  ·exact GS.to (by simp)
  ·rintro ⟨i, i0, i1, i2⟩
   by_cases hi : i < ids.length
   ·have hi1 : i - 1 < ids.length := by omega
    have g1 : ids.getD i 0 = ids[i] := by simp [List.getD, hi]
    have g2 : ids.getD (i - 1) 0 = ids[i - 1] := by simp [List.getD, hi1]
    have b5 : (1 : Int) ≤ i := by omega
    have b6 : (i : Int) - 1 < ids.length := by omega
    have b7 : i - 1 < ids.length := by omega
    by_cases h : ids[i] ≤ ids[i - 1]
    ·simp -dsimp [ints, hi, hi1, b5, b6, b7, h, wrap_i64 (n := (i : Int) - 1) (by omega) (by omega)]
     refine ⟨?_, ⟨by kernel_rfl⟩⟩
     refine Fin.view 4 ?_
     simp -dsimp
     refine Fin.of ?_
     have hasc : ascB ids = false := by
      simp only [ascB, decide_eq_false_iff_not]
      exact fun hc => by have := hc i (by omega) hi; rw [g1, g2] at this; omega
     simp [setsT, setsR, a1, hasc, sbs]
    ·simp -dsimp [ints, hi, hi1, b5, b6, b7, h, wrap_i64 (n := (i : Int) - 1) (by omega) (by omega), wrap_i64 (n := (i : Int) + 1) (by omega) (by omega)]
     refine ⟨?_, ⟨by kernel_rfl⟩⟩
     exact ⟨⟨i + 1, by omega, by omega, fun a h0 ha => by
      by_cases e : a = i
      ·subst e; rw [g1, g2]; omega
      ·exact i2 a h0 (by omega)⟩, GS.to (by simp [ints]), by simp; omega⟩
   ·have hasc : ascB ids = true := by
     simp only [ascB, decide_eq_true_eq]
     exact fun a h0 ha => i2 a h0 (by omega)
    simp -dsimp [ints, hi]
    refine ALoop.of [] (fun k => k==0||k==1||k==2||k==4||k==5||k==6||k==7||k==9||k==10||k==11||k==12||k==13||k==17||k==21||k==33||k==37||k==50||k==54||k==81) (ι := { k : Nat // k ≤ ids.length ∧ ∀ a, a < k → knownB p (ids.getD a 0) = true })
     (fun z => [(Pl.s 0, It.v (TV.agg [TV.d (D.int IntKind.i64 p.subd), TV.d (D.int IntKind.i64 p.len), TV.d (D.sl (eds p.es))])), (Pl.s 1, It.v (TV.d (ints ids))),
      (Pl.o 2, It.box [TV.d (D.int IntKind.i64 p.subd), TV.d (D.int IntKind.i64 p.len), TV.d (D.sl (eds p.es))]),
      (Pl.s 2, It.v (TV.ptr (Pl.o 2) 0)), (Pl.s 4, It.v (TV.c (Value.slice none 0 0))), (Pl.s 5, It.v (TV.d (D.int IntKind.i64 0))), (Pl.s 7, It.v (TV.d (D.int IntKind.i64 z.1)))])
     (fun z => ids.length - z.1) ⟨0, by omega, fun a h => by omega⟩ ?_ ?_
    ·exact GS.to (by simp [ints])
    ·rintro ⟨k, k1, k2⟩
     by_cases hk : k < ids.length
     ·have gk : ids.getD k 0 = ids[k] := by simp [List.getD, hk]
      simp -dsimp [ints, hk]
      refine ACall.of (edge10_c p hp ids[k]) [] 0 ?_
      cases hf : p.es.find? (fun e => decide (e.id = ids[k])) with
      | none =>
        simp -dsimp [edgeT, hf, planT]
        refine ⟨?_, ⟨by kernel_rfl⟩⟩
        refine Fin.view 4 ?_
        simp -dsimp
        refine Fin.of ?_
        have hkn : ids.all (knownB p) = false := by
         rw [List.all_eq_false]
         exact ⟨ids[k], List.getElem_mem hk, by simp [knownB, hf]⟩
        simp [setsT, setsR, a1, hasc, hkn, sbs]
      | some x =>
        simp -dsimp [edgeT, hf, planT, Ed.cs, wrap_i64 (n := (k : Int) + 1) (by omega) (by omega)]
        try refine ⟨?_, ⟨by kernel_rfl⟩⟩
        exact ⟨⟨k + 1, by omega, fun a ha => by
         by_cases e : a = k
         ·subst e; rw [gk]; simp [knownB, hf]
         ·exact k2 a (by omega)⟩, GS.to (by simp [ints]), by simp; omega⟩
     ·have hkn : ids.all (knownB p) = true := by
       rw [List.all_eq_true]
       intro x hx
       obtain ⟨a, ha⟩ := List.getElem?_of_mem hx
       have := k2 a (by have := (List.getElem?_eq_some_iff.1 ha).1; omega)
       simpa [List.getD, ha] using this
      simp -dsimp [ints, hk]
      refine ALoop.of [] (fun k => k==0||k==1||k==2||k==4||k==5||k==6||k==7||k==9||k==10||k==11||k==12||k==13||k==17||k==21||k==33||k==37||k==50||k==54||k==81) (ι := { z : Nat × List Sb // z.1 ≤ ids.length ∧ z.2.length ≤ z.1 ∧ sbAll p.len ids [] = sbAll p.len (ids.drop z.1) z.2 })
       (fun z => [(Pl.s 0, It.v (TV.agg [TV.d (D.int IntKind.i64 p.subd), TV.d (D.int IntKind.i64 p.len), TV.d (D.sl (eds p.es))])), (Pl.s 1, It.v (TV.d (ints ids))),
      (Pl.o 2, It.box [TV.d (D.int IntKind.i64 p.subd), TV.d (D.int IntKind.i64 p.len), TV.d (D.sl (eds p.es))]),
      (Pl.s 2, It.v (TV.ptr (Pl.o 2) 0)), (Pl.s 4, It.v (TV.c (Value.slice none 0 0))), (Pl.s 5, It.v (TV.d (D.int IntKind.i64 0))), (Pl.s 10, It.v (TV.oref 10 z.1.2.length)), (Pl.o 10, .row 160 2 (dd (sbs z.1.2)) false), (Pl.s 11, It.v (TV.d (D.int IntKind.i64 z.1.1)))])
       (fun z => ids.length - z.1.1) ⟨(0, []), by simp, by simp, rfl⟩ ?_ ?_
      ·exact GS.own' (k := 10) 160 2 (by simp) (by simp) (by simp [ints, sbs])
      ·rintro ⟨⟨i, l⟩, q1, q2, q3⟩
       simp only at q1 q2 q3
       by_cases hq : i < ids.length
       ·have hd : ids.drop i = ids[i] :: ids.drop (i + 1) := List.drop_eq_getElem_cons _
        have hB := plB ids[i] p.len
        simp -dsimp [ints, hq]
        refine ACall.of (place10_c ids[i] p.len) [] 0 ?_
        rcases List.eq_nil_or_concat l with rfl | ⟨pre, y, rfl⟩
        ·simp -dsimp [placeT, planT, sbs, wrap_i64 (n := 0) (by omega) (by omega), wrap_i64 (n := (i : Int) + 1) (by omega) (by omega)]
         refine ⟨?_, ⟨by kernel_rfl⟩⟩
         refine ACall.of (bit_c (plBit ids[i] p.len)) [] 0 ?_
         simp -dsimp [bv, wrap_i64 (n := 0) (by omega) (by omega), wrap_i64 (n := (i : Int) + 1) (by omega) (by omega)]
         refine ⟨?_, ⟨by kernel_rfl⟩⟩
         exact ⟨⟨(i + 1, [⟨plSet ids[i] p.len, bitB (plBit ids[i] p.len)⟩]), by dsimp only; omega, by simp, by dsimp only; rw [q3, hd, sbAll, sbPut_nil]⟩, GS.to (by simp [ints, sbs, Sb.cs, bv]), by simp; omega⟩
        ·rw [List.concat_eq_append] at *
         have hlen : pre.length + 1 ≤ i := by simpa using q2
         have d1 : ∀ x, (dd (List.map Sb.cs pre) ++ [x])[pre.length]? = some x := fun x => by simp [dd]
         have d2 : ∀ x y, (dd (List.map Sb.cs pre) ++ [x]).set pre.length y = dd (List.map Sb.cs pre) ++ [y] := fun x y => by simp [dd, List.set_append_right]
         have d3 : ∀ x y, (dd (List.map Sb.cs pre) ++ [x, y])[pre.length + 1]? = some y := fun x y => by simp [dd, List.getElem?_append_right]
         have d4 : ∀ x y z, (dd (List.map Sb.cs pre) ++ [x, y]).set (pre.length + 1) z = dd (List.map Sb.cs pre) ++ [x, z] := fun x y z => by simp [dd, List.set_append_right]
         have n0 : ¬ (pre.length : Int) + 1 = 0 := by omega
         by_cases hs : y.set = plSet ids[i] p.len
         ·simp -dsimp [placeT, hs, sbs, Sb.cs, n0, d1, d2, d3, d4, wrap_i64 (n := (pre.length : Int)) (by omega) (by omega), wrap_i64 (n := (pre.length : Int) + 1) (by omega) (by omega)]
          and_intros
          all_goals try first | omega | exact ⟨by kernel_rfl⟩
          refine ACall.of (bit_c (plBit ids[i] p.len)) [] 0 ?_
          simp -dsimp [bv, d1, d2, d3, d4, wrap_i64 (n := (pre.length : Int)) (by omega) (by omega), wrap_i64 (n := (pre.length : Int) + 1) (by omega) (by omega), wrap_i64 (n := (i : Int) + 1) (by omega) (by omega)]
          and_intros
          all_goals try first | omega | exact ⟨by kernel_rfl⟩
          exact ⟨⟨(i + 1, pre ++ [⟨y.set, y.bits ||| bitB (plBit ids[i] p.len)⟩]), by dsimp only; omega, by simp; omega, by dsimp only; rw [q3, hd, sbAll, ← hs, sbPut_same]⟩, GS.to (by simp [ints, sbs, Sb.cs, bv, hs]), by simp; omega⟩
         ·simp -dsimp [placeT, hs, sbs, Sb.cs, n0, d1, d2, d3, d4, wrap_i64 (n := (pre.length : Int)) (by omega) (by omega), wrap_i64 (n := (pre.length : Int) + 1) (by omega) (by omega)]
          and_intros
          all_goals try first | omega | exact ⟨by kernel_rfl⟩
          refine ACall.of (bit_c (plBit ids[i] p.len)) [] 0 ?_
          simp -dsimp [bv, d1, d2, d3, d4, wrap_i64 (n := (pre.length : Int)) (by omega) (by omega), wrap_i64 (n := (pre.length : Int) + 1) (by omega) (by omega), wrap_i64 (n := (i : Int) + 1) (by omega) (by omega)]
          and_intros
          all_goals try first | omega | exact ⟨by kernel_rfl⟩
          exact ⟨⟨(i + 1, pre ++ [y] ++ [⟨plSet ids[i] p.len, bitB (plBit ids[i] p.len)⟩]), by dsimp only; omega, by simp; omega, by dsimp only; rw [q3, hd, sbAll, sbPut_new _ _ hs]⟩, GS.to (by simp [ints, sbs, Sb.cs, bv]), by simp; omega⟩
       ·simp -dsimp [ints, hq]
        refine Fin.view 4 ?_
        simp -dsimp
        refine Fin.of ?_
        have hX : sbAll p.len ids [] = l := by rw [q3, List.drop_eq_nil_of_le (by omega)]; rfl
        simp [setsT, setsR, a1, hasc, hkn, hX]
end Go.Proofs

set_option linter.unusedSimpArgs false
set_option maxRecDepth 100000
set_option maxHeartbeats 2000000
namespace Go.Proofs
open Go Go.Tr
def intRows (l : List Int) : List (List D) := l.map fun n => [.int .i64 n]
@[simp] theorem intRows_len (l : List Int) : (intRows l).length = l.length := by simp [intRows]
theorem intRows_get {l : List Int} {i : Nat} {x : Int} (h : l[i]? = some x) : (intRows l)[i]? = some [.int .i64 x] := by simp [intRows, h]
theorem intRows_get' {l : List Int} {i : Nat} {x : Int} (h : l[i]? = some x) (hi : i < (intRows l).length) : (intRows l)[i] = [.int .i64 x] := by
 have := intRows_get h
 rw [List.getElem?_eq_getElem hi] at this
 simpa using this
def idxR {α : Type} (q : α → Bool) (l : List α) : Int := match l.findIdx? q with | some i => i | none => -1
theorem idx_any {α : Type} (q : α → Bool) (l : List α) : decide (0 ≤ idxR q l) = l.any q := by
 unfold idxR
 cases h : l.findIdx? q with
 | none =>
   have := List.findIdx?_eq_none_iff.1 h
   simp
   intro x hx
   exact this x hx
 | some i =>
   have := List.findIdx?_eq_some_iff_getElem.1 h
   obtain ⟨hi, h1, _⟩ := this
   simp
   exact ⟨_, List.getElem_mem hi, h1⟩
theorem idx_at {α : Type} {q : α → Bool} {l : List α} {i : Nat} {x : α} (hx : l[i]? = some x) (hq : q x = true) (h : ∀ a, a < i → ∀ y, l[a]? = some y → q y = false) : idxR q l = i := by
 unfold idxR
 obtain ⟨hi, rfl⟩ := List.getElem?_eq_some_iff.1 hx
 have : l.findIdx? q = some i := by
  rw [List.findIdx?_eq_some_iff_getElem]
  exact ⟨hi, hq, fun j hj => by have := h j hj _ (List.getElem?_eq_getElem (by omega)); simp [this]⟩
 rw [this]
theorem idx_no {α : Type} {q : α → Bool} {l : List α} (h : ∀ a, a < l.length → ∀ y, l[a]? = some y → q y = false) : idxR q l = -1 := by
 unfold idxR
 have : l.findIdx? q = none := by
  rw [List.findIdx?_eq_none_iff]
  intro x hx
  obtain ⟨i, hi⟩ := List.getElem?_of_mem hx
  exact h i (List.getElem?_eq_some_iff.1 hi).1 x hi
 rw [this]
theorem index_i_c (l : List Int) (hl : l.length ≤ 1000000) (f : FuncId) (ds : List D) (q : Int → Bool) (hf : ∀ x, Contract Tryz.prog f [.d (.int .i64 x), .ptr (.x 0) 0] [.box (ds.map .d)] (.d (.bool (q x))) [.box (ds.map .d)] []) (hok : fnOK Tryz.prog f = true) :
  Contract Tryz.prog 168 [.d (.sl (intRows l)), .clo f [.ptr (.x 0) 0]] [.box (ds.map .d)] (.d (.int .i64 (idxR q l))) [.box (ds.map .d)] [] := by
 refine contract_of Tryz.func168 rfl (fun E0 => ?_)
 refine awp.sound (g := .mk) (ow := []) (kp := (fun k => k==0||k==1||k==4||k==5||k==7||k==8||k==9||k==16)) ?_
 rw [Tryz.ntmps168]
 simp -dsimp
 refine ALoop.of [] (fun k => k==0||k==1||k==4||k==5||k==7||k==8||k==9||k==16) (ι := { i : Nat // i ≤ l.length ∧ ∀ a, a < i → ∀ x, l[a]? = some x → q x = false })
  (fun z => [(Pl.s 0, It.v (TV.d (D.sl (intRows l)))), (Pl.s 1, It.v (TV.clo f [TV.ptr (Pl.x 0) 0])), (Pl.x 0, It.box (List.map TV.d ds)), (Pl.s 4, It.v (TV.d (D.int IntKind.i64 0))), (Pl.s 7, It.v (TV.d (D.int IntKind.i64 l.length))), (Pl.s 8, It.v (TV.d (D.int IntKind.i64 z.1)))]) (fun z => l.length - z.1) ⟨0, by omega, fun a h => by omega⟩ ?_ ?_
 ·exact GS.to (by simp)
 ·rintro ⟨i, i1, i2⟩
  by_cases hi : i < l.length
  ·obtain ⟨x, hx⟩ : ∃ x, l[i]? = some x := ⟨l[i], List.getElem?_eq_getElem hi⟩
   simp -dsimp [hi, intRows_get' hx, wrap_i64 (n := (i : Int) + 1) (by omega) (by omega)]
   refine ACall.of (hf x) [.x 0] 0 ?_
   rcases (Bool.eq_false_or_eq_true (q x)).symm with h | h
   ·simp -dsimp [h, hok, wrap_i64 (n := (i : Int) + 1) (by omega) (by omega)]
    exact ⟨⟨i + 1, by omega, fun a ha y hy => by
     by_cases e : a = i
     ·subst e; rw [hx] at hy; simp only [Option.some.injEq] at hy; subst hy; exact h
     ·exact i2 a (by omega) y hy⟩, GS.to (by simp), by simp; omega⟩
   ·simp -dsimp [h, hok]
    refine Fin.of ?_
    simp [idx_at hx h i2]
  ·simp -dsimp [hi]
   refine Fin.of ?_
   simp
   exact (idx_no fun a ha => i2 a (by omega)).symm
theorem contains_i_c (l : List Int) (hl : l.length ≤ 1000000) (f : FuncId) (ds : List D) (q : Int → Bool) (hf : ∀ x, Contract Tryz.prog f [.d (.int .i64 x), .ptr (.x 0) 0] [.box (ds.map .d)] (.d (.bool (q x))) [.box (ds.map .d)] []) (hok : fnOK Tryz.prog f = true) :
  Contract Tryz.prog 143 [.d (.sl (intRows l)), .clo f [.ptr (.x 0) 0]] [.box (ds.map .d)] (.d (.bool (l.any q))) [.box (ds.map .d)] [] := by
 refine contract_of Tryz.func143 rfl (fun E0 => ?_)
 refine awp.sound (g := .mk) (ow := []) (kp := (fun k => k==0||k==1||k==4)) ?_
 rw [Tryz.ntmps143]
 simp -dsimp
 refine ACall.of (index_i_c l hl f ds q hf hok) [.x 0] 0 ?_
 simp -dsimp
 refine Fin.of ?_
 simp [idx_any]
theorem index_e_c (l : List Ed) (hl : l.length ≤ 1000000) (f : FuncId) (ds : List D) (q : Ed → Bool) (hf : ∀ x, Contract Tryz.prog f [.agg (x.cs.map .d), .ptr (.x 0) 0] [.box (ds.map .d)] (.d (.bool (q x))) [.box (ds.map .d)] []) (hok : fnOK Tryz.prog f = true) :
  Contract Tryz.prog 170 [.d (.sl (eds l)), .clo f [.ptr (.x 0) 0]] [.box (ds.map .d)] (.d (.int .i64 (idxR q l))) [.box (ds.map .d)] [] := by
 refine contract_of Tryz.func170 rfl (fun E0 => ?_)
 refine awp.sound (g := .mk) (ow := []) (kp := (fun k => k==0||k==1||k==4||k==5||k==7||k==8||k==9||k==16)) ?_
 rw [Tryz.ntmps170]
 simp -dsimp
 refine ALoop.of [] (fun k => k==0||k==1||k==4||k==5||k==7||k==8||k==9||k==16) (ι := { i : Nat // i ≤ l.length ∧ ∀ a, a < i → ∀ x, l[a]? = some x → q x = false })
  (fun z => [(Pl.s 0, It.v (TV.d (D.sl (eds l)))), (Pl.s 1, It.v (TV.clo f [TV.ptr (Pl.x 0) 0])), (Pl.x 0, It.box (List.map TV.d ds)), (Pl.s 4, It.v (TV.d (D.int IntKind.i64 0))), (Pl.s 7, It.v (TV.d (D.int IntKind.i64 l.length))), (Pl.s 8, It.v (TV.d (D.int IntKind.i64 z.1)))]) (fun z => l.length - z.1) ⟨0, by omega, fun a h => by omega⟩ ?_ ?_
 ·exact GS.to (by simp)
 ·rintro ⟨i, i1, i2⟩
  by_cases hi : i < l.length
  ·obtain ⟨x, hx⟩ : ∃ x, l[i]? = some x := ⟨l[i], List.getElem?_eq_getElem hi⟩
   simp -dsimp [hi, eds_get' hx, Ed.cs, wrap_i64 (n := (i : Int) + 1) (by omega) (by omega)]
   refine ACall.of (hf x) [.x 0] 0 ?_
   rcases (Bool.eq_false_or_eq_true (q x)).symm with h | h
   ·simp -dsimp [h, hok, Ed.cs, wrap_i64 (n := (i : Int) + 1) (by omega) (by omega)]
    exact ⟨⟨i + 1, by omega, fun a ha y hy => by
     by_cases e : a = i
     ·subst e; rw [hx] at hy; simp only [Option.some.injEq] at hy; subst hy; exact h
     ·exact i2 a (by omega) y hy⟩, GS.to (by simp), by simp; omega⟩
   ·simp -dsimp [h, hok, Ed.cs]
    refine Fin.of ?_
    simp [idx_at hx h i2]
  ·simp -dsimp [hi]
   refine Fin.of ?_
   simp
   exact (idx_no fun a ha => i2 a (by omega)).symm
theorem contains_e_c (l : List Ed) (hl : l.length ≤ 1000000) (f : FuncId) (ds : List D) (q : Ed → Bool) (hf : ∀ x, Contract Tryz.prog f [.agg (x.cs.map .d), .ptr (.x 0) 0] [.box (ds.map .d)] (.d (.bool (q x))) [.box (ds.map .d)] []) (hok : fnOK Tryz.prog f = true) :
  Contract Tryz.prog 149 [.d (.sl (eds l)), .clo f [.ptr (.x 0) 0]] [.box (ds.map .d)] (.d (.bool (l.any q))) [.box (ds.map .d)] [] := by
 refine contract_of Tryz.func149 rfl (fun E0 => ?_)
 refine awp.sound (g := .mk) (ow := []) (kp := (fun k => k==0||k==1||k==4)) ?_
 rw [Tryz.ntmps149]
 simp -dsimp
 refine ACall.of (index_e_c l hl f ds q hf hok) [.x 0] 0 ?_
 simp -dsimp
 refine Fin.of ?_
 simp [idx_any]
theorem vp1_c (x y : Ed) : Contract Tryz.prog 150 [.agg (y.cs.map .d), .ptr (.x 0) 0] [.box (x.cs.map .d)] (.d (.bool (decide (y.r = x.r)))) [.box (x.cs.map .d)] [] := by
 refine contract_of Tryz.func150 rfl (fun E0 => ?_)
 refine awp.sound (g := .mk) (ow := []) (kp := (fun k => k==0||k==1||k==2||k==3)) ?_
 rw [Tryz.ntmps150]
 simp -dsimp [Ed.cs]
 refine Fin.of ?_
 simp
theorem has1_c (id : Int) (y : Ed) : Contract Tryz.prog 169 [.agg (y.cs.map .d), .ptr (.x 0) 0] [.box ([D.int .i64 id].map .d)] (.d (.bool (decide (y.id = id)))) [.box ([D.int .i64 id].map .d)] [] := by
 refine contract_of Tryz.func169 rfl (fun E0 => ?_)
 refine awp.sound (g := .mk) (ow := []) (kp := (fun k => k==0||k==1||k==2||k==3)) ?_
 rw [Tryz.ntmps169]
 simp -dsimp [Ed.cs]
 refine Fin.of ?_
 simp
theorem has_c (p : Pn) (hp : p.es.length ≤ 1000) (id : Int) : Contract Tryz.prog 145 [planT p, .d (.int .i64 id)] [] (.d (.bool (p.es.any fun y => decide (y.id = id)))) [] [] := by
 refine contract_of Tryz.func145 rfl (fun E0 => ?_)
 refine awp.sound (g := .mk) (ow := []) (kp := (fun k => k==0||k==1||k==2||k==3||k==4)) ?_
 rw [Tryz.ntmps145]
 simp -dsimp [planT]
 refine ACall.of (contains_e_c p.es (by omega) 169 [.int .i64 id] (fun y => decide (y.id = id)) (has1_c id) (by simp)) [.o 3] 0 ?_
 simp -dsimp
 refine Fin.of ?_
 simp
theorem sets1_c (p : Pn) (hp : p.es.length ≤ 1000) (id : Int) : Contract Tryz.prog 144 [.d (.int .i64 id), .ptr (.x 0) 0] [.box ([D.int .i64 p.subd, .int .i64 p.len, .sl (eds p.es)].map .d)] (.d (.bool (!(p.es.any fun y => decide (y.id = id))))) [.box ([D.int .i64 p.subd, .int .i64 p.len, .sl (eds p.es)].map .d)] [] := by
 refine contract_of Tryz.func144 rfl (fun E0 => ?_)
 refine awp.sound (g := .mk) (ow := []) (kp := (fun k => k==0||k==1||k==3)) ?_
 rw [Tryz.ntmps144]
 simp -dsimp
 refine ACall.of (has_c p hp id) [] 0 ?_
 simp -dsimp [planT]
 refine Fin.of ?_
 simp
end Go.Proofs

set_option linter.unusedSimpArgs false
set_option maxRecDepth 100000
set_option maxHeartbeats 2000000
namespace Go.Proofs
open Go Go.Tr
theorem eds_take (l : List Ed) (i : Nat) : (eds l).take i = eds (l.take i) := by simp [eds]
theorem validPlan_c (p : Pn) (hp : p.es.length ≤ 1000) : Contract Tryz.prog 101 [planT p] [] (.d (.bool (planB p))) [] [] := by
 refine contract_of Tryz.func101 rfl (fun E0 => ?_)
 refine awp.sound (g := .mk) (ow := []) (kp := (fun k => k==0||k==1||k==2||k==3||k==4||k==5||k==32||k==34||k==35||k==36||k==37||k==75)) ?_
 rw [Tryz.ntmps101]
 simp -dsimp [planT]
 refine ACall.of (in10_c p.subd 0 7) [] 0 ?_
 rcases (Bool.eq_false_or_eq_true (inB p.subd 0 7)).symm with a1 | a1
 ·simp -dsimp [a1]
  refine Fin.of ?_
  simp
  exact planB_base (by simp [baseB, a1])
 ·simp -dsimp [a1]
  refine ACall.of (validLength_c2 p.len) [] 0 ?_
  rcases (Bool.eq_false_or_eq_true (validLen p.len)).symm with a2 | a2
  ·by_cases a3 : p.len = 0
   ·by_cases a4 : p.es.length = 0
    ·have hb : baseB p = true := by simp [baseB, a1, a2, a3, a4, show validLen 0 = false from rfl]
     simp -dsimp [a1, a2, a3, a4, show validLen 0 = false from rfl]
     refine ALoop.of [] (fun k => k==0||k==1||k==2||k==3||k==4||k==5||k==32||k==34||k==35||k==36||k==37||k==75) (ι := Unit)
      (fun z => [(Pl.s 0, It.v (TV.agg [TV.d (D.int IntKind.i64 p.subd), TV.d (D.int IntKind.i64 p.len), TV.d (D.sl (eds p.es))])), (Pl.o 1, It.box [TV.d (D.int IntKind.i64 p.subd), TV.d (D.int IntKind.i64 p.len), TV.d (D.sl (eds p.es))]),
       (Pl.s 1, It.v (TV.ptr (Pl.o 1) 0)), (Pl.s 2, It.v (TV.d (D.bool false))), (Pl.s 34, It.v (TV.d (D.sl (eds p.es)))), (Pl.s 35, It.v (TV.d (D.int IntKind.i64 0))), (Pl.s 36, It.v (TV.d (D.int IntKind.i64 0)))])
      (fun z => 0) () ?_ ?_
     ·exact GS.to (by simp [a3, a4])
     ·rintro ⟨⟩
      simp -dsimp [a4]
      refine Fin.of ?_
      simp
      exact planB_ok hb (fun i hi => by omega) (fun i j hj hi => by omega)
    ·have a5 : 0 < p.es.length := by omega
     simp -dsimp [a1, a2, a3, a4, a5, show validLen 0 = false from rfl]
     refine Fin.of ?_
     simp
     exact planB_base (by simp [baseB, a1, a2, a3, a4, show validLen 0 = false from rfl])
   ·simp -dsimp [a1, a2, a3]
    refine Fin.of ?_
    simp
    exact planB_base (by simp [baseB, a1, a2, a3])
  ·by_cases a6 : p.es.length ≤ 24
   ·have a7 : ¬ (24 : Int) < p.es.length := by omega
    have hb : baseB p = true := by simp [baseB, a1, a2, a6]
    simp -dsimp [a1, a2, a7]
    refine ALoop.of [] (fun k => k==0||k==1||k==2||k==3||k==4||k==5||k==32||k==34||k==35||k==36||k==37||k==75) (ι := { i : Nat // i ≤ p.es.length ∧ (∀ a, a < i → edB p.es a = true) ∧ ∀ a b, b < a → a < i → grt p.es a ≠ grt p.es b })
     (fun z => [(Pl.s 0, It.v (TV.agg [TV.d (D.int IntKind.i64 p.subd), TV.d (D.int IntKind.i64 p.len), TV.d (D.sl (eds p.es))])), (Pl.o 1, It.box [TV.d (D.int IntKind.i64 p.subd), TV.d (D.int IntKind.i64 p.len), TV.d (D.sl (eds p.es))]),
      (Pl.s 1, It.v (TV.ptr (Pl.o 1) 0)), (Pl.s 2, It.v (TV.d (D.bool false))), (Pl.s 34, It.v (TV.d (D.sl (eds p.es)))), (Pl.s 35, It.v (TV.d (D.int IntKind.i64 p.es.length))), (Pl.s 36, It.v (TV.d (D.int IntKind.i64 z.1)))])
     (fun z => p.es.length - z.1) ⟨0, by omega, fun a h => by omega, fun a b _ h => by omega⟩ ?_ ?_
    ·exact GS.to (by simp)
    ·rintro ⟨i, i1, i2, i3⟩
     by_cases hi : i < p.es.length
     ·obtain ⟨x, hx⟩ : ∃ x, p.es[i]? = some x := ⟨p.es[i], List.getElem?_eq_getElem hi⟩
      have gx : gid p.es i = x.id ∧ grt p.es i = x.r := by simp [gid, grt, List.getD, hx]
      simp -dsimp [hi, eds_get' hx, Ed.cs, eds_take, wrap_i64 (n := (i : Int) + 1) (by omega) (by omega)]
      refine ⟨i1, ?_, ?_⟩
      ·intro e he
       obtain ⟨w, _, rfl⟩ := List.mem_map.1 he
       rfl
      refine ACall.of (contains_e_c (p.es.take i) (by simp; omega) 150 x.cs (fun y => decide (y.r = x.r)) (vp1_c x) (by simp)) [.o 4] 0 ?_
      simp -dsimp [Ed.cs]
      refine ACall.of (in10_c x.id 1 256) [] 0 ?_
      rcases (Bool.eq_false_or_eq_true (inB x.id 1 256)).symm with b1 | b1
      ·simp -dsimp [b1]
       try refine ⟨?_, ⟨by kernel_rfl⟩⟩
       refine Fin.of ?_
       simp
       exact planB_ed hi (by simp [edB, gx, b1])
      ·simp -dsimp [b1]
       refine ACall.of (in10_c x.r 1 99) [] 0 ?_
       rcases (Bool.eq_false_or_eq_true (inB x.r 1 99)).symm with b2 | b2
       ·simp -dsimp [b1, b2]
        try refine ⟨?_, ⟨by kernel_rfl⟩⟩
        refine Fin.of ?_
        simp
        exact planB_ed hi (by simp [edB, gx, b1, b2])
       ·rcases (Bool.eq_false_or_eq_true ((p.es.take i).any fun y => decide (y.r = x.r))).symm with b8 | b8
        ·have hne : ∀ b, b < i → grt p.es i ≠ grt p.es b := fun b hb => by
          rw [List.any_eq_false] at b8
          obtain ⟨y, hy⟩ : ∃ y, p.es[b]? = some y := ⟨p.es[b], List.getElem?_eq_getElem (by omega)⟩
          have := b8 y (by
           refine List.mem_of_getElem? (i := b) ?_
           rw [List.getElem?_take, if_pos hb]; exact hy)
          have gb : grt p.es b = y.r := by simp [grt, List.getD, hy]
          rw [gx.2, gb]
          intro h; rw [h] at this; simp at this
         by_cases b3 : 0 < i
         ·obtain ⟨y, hy⟩ : ∃ y, p.es[i - 1]? = some y := ⟨p.es[i - 1], List.getElem?_eq_getElem (by omega)⟩
          have gy : gid p.es (i - 1) = y.id := by simp [gid, List.getD, hy]
          have b5 : (1 : Int) ≤ i := by omega
          have b6 : (i : Int) - 1 < p.es.length := by omega
          have b7 : i ≠ 0 := by omega
          by_cases b4 : x.id ≤ y.id
          ·simp -dsimp [b1, b2, b8, b3, b4, b5, b6, eds_get hy, Ed.cs, wrap_i64 (n := (i : Int) - 1) (by omega) (by omega)]
           refine ⟨?_, ⟨by kernel_rfl⟩⟩
           refine Fin.of ?_
           simp
           exact planB_ed hi (by simp [edB, gx, gy, b1, b2, b7] <;> omega)
          ·simp -dsimp [b1, b2, b8, b3, b4, b5, b6, eds_get hy, Ed.cs, wrap_i64 (n := (i : Int) - 1) (by omega) (by omega), wrap_i64 (n := (i : Int) + 1) (by omega) (by omega)]
           try refine ⟨?_, ⟨by kernel_rfl⟩⟩
           exact ⟨⟨i + 1, by omega, fun a ha => by
            by_cases e : a = i
            ·subst e; simp [edB, gx, gy, b1, b2] <;> omega
            ·exact i2 a (by omega), fun a b h1 h2 => by
            by_cases e : a = i
            ·subst e; exact hne b h1
            ·exact i3 a b h1 (by omega)⟩, GS.to (by simp), by simp; omega⟩
         ·obtain rfl : i = 0 := by omega
          simp -dsimp [b1, b2, b8, wrap_i64 (n := 1) (by omega) (by omega)]
          try refine ⟨?_, ⟨by kernel_rfl⟩⟩
          exact ⟨⟨1, by omega, fun a ha => by
           obtain rfl : a = 0 := by omega
           simp [edB, gx, b1, b2], fun a b h1 h2 => by omega⟩, GS.to (by simp), by simp; omega⟩
        ·simp -dsimp [b1, b2, b8]
         try refine ⟨?_, ⟨by kernel_rfl⟩⟩
         refine Fin.of ?_
         simp
         rw [List.any_eq_true] at b8
         obtain ⟨y, hy, he⟩ := b8
         obtain ⟨b, hb⟩ := List.getElem?_of_mem hy
         have hbi : b < i := by have := (List.getElem?_eq_some_iff.1 hb).1; simp at this; omega
         rw [List.getElem?_take, if_pos hbi] at hb
         have gb : grt p.es b = y.r := by simp [grt, List.getD, hb]
         exact planB_rt hbi hi (by rw [gx.2, gb]; simp at he; exact he.symm)
     ·simp -dsimp [hi]
      refine Fin.of ?_
      simp
      exact planB_ok hb (fun a ha => i2 a (by omega)) (fun a b h1 h2 => i3 a b h1 (by omega))
   ·have a7 : (24 : Int) < p.es.length := by omega
    simp -dsimp [a1, a2, a7]
    refine Fin.of ?_
    simp
    exact planB_base (by simp [baseB, a1, a2, a6])
end Go.Proofs

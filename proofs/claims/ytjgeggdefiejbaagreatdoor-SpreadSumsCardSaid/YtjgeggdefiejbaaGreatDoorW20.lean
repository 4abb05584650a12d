/-
  What functions of the program compute, stated as contracts over plain data; the conditions of each stand in its own statement.
-/
import Derived.Test.YtjgeggdefiejbaaGreatDoorW19
set_option linter.unusedSimpArgs false
set_option maxRecDepth 100000
set_option maxHeartbeats 2000000
namespace Go.Proofs
open Go Go.Tr
def gid (es : List Ed) (i : Nat) : Int := (es.getD i ⟨0, 0⟩).id
def grt (es : List Ed) (i : Nat) : Int := (es.getD i ⟨0, 0⟩).r
def baseB (p : Pn) : Bool := inB p.subd 0 7 && ((validLen p.len || (decide (p.len = 0) && decide (p.es.length = 0))) && decide (p.es.length ≤ 24))
def edB (es : List Ed) (i : Nat) : Bool := inB (gid es i) 1 256 && (inB (grt es i) 1 99 && (decide (i = 0) || decide (gid es (i - 1) < gid es i)))
open Classical in
noncomputable def planB (p : Pn) : Bool := decide (baseB p = true ∧ (∀ i, i < p.es.length → edB p.es i = true) ∧ ∀ i j, j < i → i < p.es.length → grt p.es i ≠ grt p.es j)
theorem planB_base {p : Pn} (h : baseB p = false) : planB p = false := by
 simp only [planB, decide_eq_false_iff_not]
 rintro ⟨h1, _⟩; rw [h] at h1; simp at h1
theorem planB_ed {p : Pn} {i : Nat} (hi : i < p.es.length) (h : edB p.es i = false) : planB p = false := by
 simp only [planB, decide_eq_false_iff_not]
 rintro ⟨_, h1, _⟩; have := h1 i hi; rw [h] at this; simp at this
theorem planB_rt {p : Pn} {i j : Nat} (hj : j < i) (hi : i < p.es.length) (h : grt p.es i = grt p.es j) : planB p = false := by
 simp only [planB, decide_eq_false_iff_not]
 rintro ⟨_, _, h1⟩; exact h1 i j hj hi h
theorem planB_ok {p : Pn} (h : baseB p = true) (h1 : ∀ i, i < p.es.length → edB p.es i = true) (h2 : ∀ i j, j < i → i < p.es.length → grt p.es i ≠ grt p.es j) : planB p = true := by
 simp only [planB, decide_eq_true_eq]
 exact ⟨h, h1, h2⟩
theorem planB_rep {p : Pn} (h : baseB p = true) (h1 : ∀ i, i < p.es.length → edB p.es i = true) : planB p = !(repB (p.es.map (·.r))) := by
 have hg : ∀ i, i < p.es.length → (p.es.map (·.r)).getD i 0 = grt p.es i := fun i hi => by simp [grt, List.getD, hi]
 by_cases h2 : ∀ i j, j < i → i < p.es.length → grt p.es i ≠ grt p.es j
 ·rw [planB_ok h h1 h2, repB_false fun i j hj hi => by simp at hi; rw [hg i hi, hg j (by omega)]; exact h2 i j hj hi]; rfl
 ·have : ∃ i j, j < i ∧ i < p.es.length ∧ grt p.es i = grt p.es j := Classical.byContradiction fun hc => h2 fun i j hj hi he => hc ⟨i, j, hj, hi, he⟩
  obtain ⟨i, j, hj, hi, he⟩ := this
  rw [planB_rt hj hi he, repB_true (l := p.es.map (·.r)) hj (by simpa using hi) (by rw [hg i hi, hg j (by omega)]; exact he)]; rfl
theorem validPlan10_c (p : Pn) (hp : p.es.length ≤ 1000) : Contract Tryz.prog 72 [planT p] [] (.d (.bool (planB p))) [] [] := by
 refine contract_of Tryz.func72 rfl (fun E0 => ?_)
 refine awp.sound (g := .mk) (ow := []) (kp := (fun k => k==0||k==1||k==2||k==3||k==4||k==5||k==32||k==37||k==70)) ?_
 rw [Tryz.ntmps72]
 simp -dsimp [planT]
 refine ACall.of (inside10_c p.subd 0 7) [] 0 ?_
 rcases (Bool.eq_false_or_eq_true (inB p.subd 0 7)).symm with a1 | a1
 ·simp -dsimp [a1]
  refine Fin.of ?_
  simp
  exact planB_base (by simp [baseB, a1])
 ·simp -dsimp [a1]
  refine ACall.of (validLength_c p.len) [] 0 ?_
  rcases (Bool.eq_false_or_eq_true (validLen p.len)).symm with a2 | a2
  ·by_cases a3 : p.len = 0
   ·by_cases a4 : p.es.length = 0
    ·have hb : baseB p = true := by simp [baseB, a1, a2, a3, a4, show validLen 0 = false from rfl]
     simp -dsimp [a1, a2, a3, a4, show validLen 0 = false from rfl]
     refine ALoop.of [] (fun k => k==0||k==1||k==2||k==3||k==4||k==5||k==32||k==37||k==70) (ι := { i : Nat // i ≤ p.es.length ∧ ∀ a, a < i → edB p.es a = true })
      (fun z => [(Pl.s 0, It.v (.agg [TV.d (.int .i64 p.subd), TV.d (.int .i64 p.len), TV.d (.sl (eds p.es))])), (Pl.o 1, It.box [TV.d (.int .i64 p.subd), TV.d (.int .i64 p.len), TV.d (.sl (eds p.es))]),
       (Pl.s 1, It.v (.ptr (Pl.o 1) 0)), (Pl.s 2, It.v (.d (.bool false))), (Pl.s 3, It.v (.oref 3 z.1)), (Pl.o 3, .row 3 1 (dd ((p.es.take z.1).map fun e => [.int .i64 e.r])) false), (Pl.s 4, It.v (.d (.int .i64 z.1)))])
      (fun z => p.es.length - z.1) ⟨0, by omega, fun a h => by omega⟩ ?_ ?_
     ·exact GS.own' (k := 3) 3 1 (by simp) (by simp) (by simp [a1, a2, a3, a4, show validLen 0 = false from rfl])
     ·rintro ⟨i, i1, i2⟩
      have hi : ¬ i < p.es.length := by omega
      obtain rfl : i = p.es.length := by omega
      simp -dsimp [hi]
      refine ACall.of (repeats_c (p.es.map (·.r)) (by simp; omega)) [] 0 ?_
      simp -dsimp [ints, List.map_map, Function.comp_def]
      refine Fin.of ?_
      simp [planB_rep hb i2]
    ·have a5 : 0 < p.es.length := by omega
     simp -dsimp [a1, a2, a3, a4, a5, show validLen 0 = false from rfl]
     refine Fin.of ?_
     simp
     exact planB_base (by simp [baseB, a1, a2, a3, a4, show validLen 0 = false from rfl])
   ·simp -dsimp [a1, a2, a3]
    refine Fin.of ?_
    simp
    exact planB_base (by simp [baseB, a1, a2, a3])
  ·by_cases a6 : p.es.length ≤ 24
   ·have a7 : ¬ (24 : Int) < p.es.length := by omega
    have hb : baseB p = true := by simp [baseB, a1, a2, a6]
    simp -dsimp [a1, a2, a7]
    refine ALoop.of [] (fun k => k==0||k==1||k==2||k==3||k==4||k==5||k==32||k==37||k==70) (ι := { i : Nat // i ≤ p.es.length ∧ ∀ a, a < i → edB p.es a = true })
     (fun z => [(Pl.s 0, It.v (.agg [TV.d (.int .i64 p.subd), TV.d (.int .i64 p.len), TV.d (.sl (eds p.es))])), (Pl.o 1, It.box [TV.d (.int .i64 p.subd), TV.d (.int .i64 p.len), TV.d (.sl (eds p.es))]),
      (Pl.s 1, It.v (.ptr (Pl.o 1) 0)), (Pl.s 2, It.v (.d (.bool false))), (Pl.s 3, It.v (.oref 3 z.1)), (Pl.o 3, .row 3 1 (dd ((p.es.take z.1).map fun e => [.int .i64 e.r])) false), (Pl.s 4, It.v (.d (.int .i64 z.1)))])
     (fun z => p.es.length - z.1) ⟨0, by omega, fun a h => by omega⟩ ?_ ?_
    ·exact GS.own' (k := 3) 3 1 (by simp) (by simp) (by simp [a1, a2])
    ·rintro ⟨i, i1, i2⟩
     by_cases hi : i < p.es.length
     ·obtain ⟨x, hx⟩ : ∃ x, p.es[i]? = some x := ⟨p.es[i], List.getElem?_eq_getElem hi⟩
      have gx : gid p.es i = x.id ∧ grt p.es i = x.r := by simp [gid, grt, List.getD, hx]
      simp -dsimp [hi, eds_get' hx, Ed.cs]
      refine ACall.of (inside10_c x.id 1 256) [] 0 ?_
      rcases (Bool.eq_false_or_eq_true (inB x.id 1 256)).symm with b1 | b1
      ·simp -dsimp [b1]
       refine ⟨?_, ⟨by kernel_rfl⟩⟩
       refine Fin.of ?_
       simp
       exact planB_ed hi (by simp [edB, gx, b1])
      ·simp -dsimp [b1]
       refine ACall.of (inside10_c x.r 1 99) [] 0 ?_
       rcases (Bool.eq_false_or_eq_true (inB x.r 1 99)).symm with b2 | b2
       ·simp -dsimp [b1, b2]
        refine ⟨?_, ⟨by kernel_rfl⟩⟩
        refine Fin.of ?_
        simp
        exact planB_ed hi (by simp [edB, gx, b1, b2])
       ·by_cases b3 : 0 < i
        ·obtain ⟨y, hy⟩ : ∃ y, p.es[i - 1]? = some y := ⟨p.es[i - 1], List.getElem?_eq_getElem (by omega)⟩
         have gy : gid p.es (i - 1) = y.id := by simp [gid, List.getD, hy]
         have b5 : (1 : Int) ≤ i := by omega
         have b6 : (i : Int) - 1 < p.es.length := by omega
         have b7 : i ≠ 0 := by omega
         by_cases b4 : x.id ≤ y.id
         ·simp -dsimp [b1, b2, b3, b4, b5, b6, eds_get hy, Ed.cs, wrap_i64 (n := (i : Int) - 1) (by omega) (by omega)]
          refine ⟨?_, ⟨by kernel_rfl⟩⟩
          refine Fin.of ?_
          simp
          exact planB_ed hi (by simp [edB, gx, gy, b1, b2, b7] <;> omega)
         ·simp -dsimp [b1, b2, b3, b4, b5, b6, eds_get hy, Ed.cs, wrap_i64 (n := (i : Int) - 1) (by omega) (by omega), wrap_i64 (n := (i : Int) + 1) (by omega) (by omega)]
          and_intros
          all_goals try first | omega | exact ⟨by kernel_rfl⟩
          exact ⟨⟨i + 1, by omega, fun a ha => by
           by_cases e : a = i
           ·subst e; simp [edB, gx, gy, b1, b2] <;> omega
           ·exact i2 a (by omega)⟩, GS.to (by simp [List.take_add_one, hx]), by simp; omega⟩
        ·obtain rfl : i = 0 := by omega
         simp -dsimp [b1, b2, wrap_i64 (n := 1) (by omega) (by omega)]
         and_intros
         all_goals try first | omega | exact ⟨by kernel_rfl⟩
         exact ⟨⟨1, by omega, fun a ha => by
          obtain rfl : a = 0 := by omega
          simp [edB, gx, b1, b2]⟩, GS.to (by simp [List.take_add_one, hx]), by simp; omega⟩
     ·obtain rfl : i = p.es.length := by omega
      simp -dsimp [hi]
      refine ACall.of (repeats_c (p.es.map (·.r)) (by simp; omega)) [] 0 ?_
      simp -dsimp [ints, List.map_map, Function.comp_def]
      refine Fin.of ?_
      simp [planB_rep hb i2]
   ·have a7 : (24 : Int) < p.es.length := by omega
    simp -dsimp [a1, a2, a7]
    refine Fin.of ?_
    simp
    exact planB_base (by simp [baseB, a1, a2, a6])
def plSet (id len : Int) : Int := if validLen len && inB id 1 256 then (id - 1) / len else 0
def plBit (id len : Int) : Int := if validLen len && inB id 1 256 then (id - 1) % len else 0
theorem plB (id len : Int) : 0 ≤ plSet id len ∧ plSet id len ≤ 255 ∧ 0 ≤ plBit id len ∧ plBit id len < 64 := by
 unfold plSet plBit
 split
 ·rename_i h
  simp [validLen, inB] at h
  obtain ⟨((h | h) | h) | h, h1, h2⟩ := h <;> subst h <;> omega
 ·omega
def placeT (id len : Int) : TV := .tup [.d (.int .i64 (plSet id len)), .d (.int .i64 (plBit id len)), .d (.bool (validLen len && inB id 1 256))]
theorem place10_c (id len : Int) : Contract Tryz.prog 23 [.d (.int .i64 id), .d (.int .i64 len)] [] (placeT id len) [] [] := by
 refine contract_of Tryz.func23 rfl (fun E0 => ?_)
 refine awp.sound (g := .mk) (ow := []) (kp := (fun k => k==0||k==1||k==4||k==5||k==6||k==14)) ?_
 rw [Tryz.ntmps23]
 simp -dsimp
 refine ACall.of (validLength_c len) [] 0 ?_
 rcases (Bool.eq_false_or_eq_true (validLen len)).symm with a1 | a1
 ·simp -dsimp [a1]
  refine Fin.of ?_
  simp [placeT, plSet, plBit, a1]
 ·have hl : len = 8 ∨ len = 16 ∨ len = 32 ∨ len = 64 := by simp [validLen] at a1; omega
  simp -dsimp [a1]
  refine ACall.of (inside10_c id 1 256) [] 0 ?_
  rcases (Bool.eq_false_or_eq_true (inB id 1 256)).symm with a2 | a2
  ·simp -dsimp [a1, a2]
   refine Fin.of ?_
   simp [placeT, plSet, plBit, a1, a2]
  ·have hi : 1 ≤ id ∧ id ≤ 256 := by simpa [inB] using a2
   have e1 : (id - 1).tdiv len = (id - 1) / len := Int.tdiv_eq_ediv_of_nonneg (by omega)
   have e2 : (id - 1).tmod len = (id - 1) % len := Int.tmod_eq_emod_of_nonneg (by omega)
   have d1 : 0 ≤ (id - 1) / len ∧ (id - 1) / len ≤ 255 := by rcases hl with rfl | rfl | rfl | rfl <;> omega
   simp -dsimp [a1, a2, e1, e2, wrap_i64 (n := id - 1) (by omega) (by omega), wrap_i64 (n := (id - 1) / len) (by omega) (by omega)]
   refine ⟨by omega, ?_, ⟨by kernel_rfl⟩⟩
   refine Fin.of ?_
   simp [placeT, plSet, plBit, a1, a2]
theorem place10_c2 (id len : Int) : Contract Tryz.prog 78 [.d (.int .i64 id), .d (.int .i64 len)] [] (placeT id len) [] [] := by
 refine contract_of Tryz.func78 rfl (fun E0 => ?_)
 refine awp.sound (g := .mk) (ow := []) (kp := (fun k => k==0||k==1||k==4||k==5||k==6||k==14)) ?_
 rw [Tryz.ntmps78]
 simp -dsimp
 refine ACall.of (validLength_c2 len) [] 0 ?_
 rcases (Bool.eq_false_or_eq_true (validLen len)).symm with a1 | a1
 ·simp -dsimp [a1]
  refine Fin.of ?_
  simp [placeT, plSet, plBit, a1]
 ·have hl : len = 8 ∨ len = 16 ∨ len = 32 ∨ len = 64 := by simp [validLen] at a1; omega
  simp -dsimp [a1]
  refine ACall.of (in10_c id 1 256) [] 0 ?_
  rcases (Bool.eq_false_or_eq_true (inB id 1 256)).symm with a2 | a2
  ·simp -dsimp [a1, a2]
   refine Fin.of ?_
   simp [placeT, plSet, plBit, a1, a2]
  ·have hi : 1 ≤ id ∧ id ≤ 256 := by simpa [inB] using a2
   have e1 : (id - 1).tdiv len = (id - 1) / len := Int.tdiv_eq_ediv_of_nonneg (by omega)
   have e2 : (id - 1).tmod len = (id - 1) % len := Int.tmod_eq_emod_of_nonneg (by omega)
   have d1 : 0 ≤ (id - 1) / len ∧ (id - 1) / len ≤ 255 := by rcases hl with rfl | rfl | rfl | rfl <;> omega
   simp -dsimp [a1, a2, e1, e2, wrap_i64 (n := id - 1) (by omega) (by omega), wrap_i64 (n := (id - 1) / len) (by omega) (by omega)]
   refine ⟨by omega, ?_, ⟨by kernel_rfl⟩⟩
   refine Fin.of ?_
   simp [placeT, plSet, plBit, a1, a2]
structure Sb where
 set : Int
 bits : BitVec 64
def Sb.cs (x : Sb) : List D := [.int .i64 x.set, bv x.bits]
def intRows (l : List Int) : List (List D) := l.map fun n => [.int .i64 n]
@[simp] theorem intRows_len (l : List Int) : (intRows l).length = l.length := by simp [intRows]
def idxR {α : Type} (q : α → Bool) (l : List α) : Int := match l.findIdx? q with | some i => i | none => -1
theorem idx_any {α : Type} (q : α → Bool) (l : List α) : decide (0 ≤ idxR q l) = l.any q := by
 unfold idxR
 cases h : l.findIdx? q with
 | none =>
   have := List.findIdx?_eq_none_iff.1 h
   simp
   intro x hx
   exact this x hx
 | some i =>
   have := List.findIdx?_eq_some_iff_getElem.1 h
   obtain ⟨hi, h1, _⟩ := this
   simp
   exact ⟨_, List.getElem_mem hi, h1⟩
theorem idx_at {α : Type} {q : α → Bool} {l : List α} {i : Nat} {x : α} (hx : l[i]? = some x) (hq : q x = true) (h : ∀ a, a < i → ∀ y, l[a]? = some y → q y = false) : idxR q l = i := by
 unfold idxR
 obtain ⟨hi, rfl⟩ := List.getElem?_eq_some_iff.1 hx
 have : l.findIdx? q = some i := by
  rw [List.findIdx?_eq_some_iff_getElem]
  exact ⟨hi, hq, fun j hj => by have := h j hj _ (List.getElem?_eq_getElem (by omega)); simp [this]⟩
 rw [this]
theorem idx_no {α : Type} {q : α → Bool} {l : List α} (h : ∀ a, a < l.length → ∀ y, l[a]? = some y → q y = false) : idxR q l = -1 := by
 unfold idxR
 have : l.findIdx? q = none := by
  rw [List.findIdx?_eq_none_iff]
  intro x hx
  obtain ⟨i, hi⟩ := List.getElem?_of_mem hx
  exact h i (List.getElem?_eq_some_iff.1 hi).1 x hi
 rw [this]
theorem shl_bit {k : Int} (h : 0 ≤ k ∧ k < 64) : (1#64 <<< k.toNat) = bitB k := by
 rw [bitB, if_neg (by omega)]
 have : IntKind.u64.wrap k = k := by rw [wrap_emod]; omega
 rw [this]
def Pk.with (q : Pk) (p : Pn) (s : Sb) : Pk := ⟨q.mode, p.subd, s.set, p.len, q.ttl, q.ent, q.ing, q.proto, s.bits, q.pay⟩
def e0 : ByteArray := ⟨#[]⟩
theorem gPlanL_len (rs : List Rt) (len : Int) : ∀ (o : List Int) (T : Tp) (id : Int) (l : List Ed), (gPlanL rs len o T id l).1.length ≤ l.length + o.length
 | [], _, _, _ => by simp [gPlanL]
 | x :: o, T, id, l => by
   have h1 := gPlanL_len rs len o (gPlanS rs len x T id l).2.2 (gPlanS rs len x T id l).2.1 (gPlanS rs len x T id l).1
   have h2 : (gPlanS rs len x T id l).1.length ≤ l.length + 1 := by
    unfold gPlanS
    simp only
    split
    ·simp
    ·simp only
     split <;> simp
   simp only [gPlanL, List.length_cons]
   omega
theorem gPlan0_len (T : Tp) (rs : List Rt) : (gPlan0 T rs).1.es.length ≤ rs.length := by
 have := gPlanL_len rs (gPick (gNext T 3).2 [8, 8, 16, 32, 64]).1 (gOrder (gPick (gNext T 3).2 [8, 8, 16, 32, 64]).2 rs.length).1 (gOrder (gPick (gNext T 3).2 [8, 8, 16, 32, 64]).2 rs.length).2 0 []
 rw [gOrder_len] at this
 simpa [gPlan0] using this
theorem gTopA_ok (cost tree : Int) (skip : Bool) (b : Int) : ∀ (n : Nat) (a : Int) (T : Tp) (l : List Lk), TapeOK (gTopA cost tree skip b n a T l).2 = TapeOK T
 | 0, _, _, _ => rfl
 | n + 1, a, T, l => by rw [gTopA, gTopA_ok cost tree skip b n, gTopS_ok]
theorem gTopB_ok (cost : Int) : ∀ (n : Nat) (b : Int) (T : Tp) (l : List Lk), TapeOK (gTopB cost n b T l).2 = TapeOK T
 | 0, _, _, _ => rfl
 | n + 1, b, T, l => by
   rw [gTopB, gTopB_ok cost n]
   simp only [gTopR]
   rw [gTopA_ok]; simp
@[simp] theorem gTop_ok (T : Tp) (most : Int) : TapeOK (gTop T most).2 = TapeOK T := by
 simp only [gTop]; rw [gTopB_ok]; simp
@[simp] theorem gWild_ok (T : Tp) : TapeOK (gWild T).2 = TapeOK T := by simp [gWild]
@[simp] theorem gPk0_ok (T : Tp) : TapeOK (gPk0 T).2 = TapeOK T := by simp [gPk0]
@[simp] theorem gPacket_ok (T : Tp) (n : Int) : TapeOK (gPacket T n).2 = TapeOK T := by
 unfold gPacket
 split
 ·split
  ·unfold gSpoilP
   simp only
   repeat' split
   all_goals simp
  ·simp
 ·simp
theorem inside11_c (n lo hi : Int) : Contract Tryz.prog 134 [.d (.int .i64 n), .d (.int .i64 lo), .d (.int .i64 hi)] [] (.d (.bool (inB n lo hi))) [] [] := by
 refine contract_of Tryz.func134 rfl (fun E0 => ?_)
 refine awp.sound (g := .mk) (ow := []) (kp := (fun k => k==0||k==1||k==2||k==6)) ?_
 rw [Tryz.ntmps134]
 by_cases h : lo ≤ n
 ·simp -dsimp [h]
  refine Fin.of ?_
  simp [inB, h]
 ·simp -dsimp [h]
  refine Fin.of ?_
  simp [inB, h]
theorem in11_c (n lo hi : Int) : Contract Tryz.prog 152 [.d (.int .i64 n), .d (.int .i64 lo), .d (.int .i64 hi)] [] (.d (.bool (inB n lo hi))) [] [] := by
 refine contract_of Tryz.func152 rfl (fun E0 => ?_)
 refine awp.sound (g := .mk) (ow := []) (kp := (fun k => k==0||k==1||k==2||k==6)) ?_
 rw [Tryz.ntmps152]
 by_cases h : lo ≤ n
 ·simp -dsimp [h]
  refine Fin.of ?_
  simp [inB, h]
 ·simp -dsimp [h]
  refine Fin.of ?_
  simp [inB, h]
def atB (set bit len : Int) : Bool := validLen len && (inB bit 0 (len - 1) && (inB set 0 31 && decide (set * len + bit + 1 ≤ 256)))
def atT (set bit len : Int) : TV := .tup [.d (.int .i64 (if atB set bit len then set * len + bit + 1 else 0)), .d (.bool (atB set bit len))]
theorem at10_c (set bit len : Int) : Contract Tryz.prog 87 [.d (.int .i64 set), .d (.int .i64 bit), .d (.int .i64 len)] [] (atT set bit len) [] [] := by
 refine contract_of Tryz.func87 rfl (fun E0 => ?_)
 refine awp.sound (g := .mk) (ow := []) (kp := (fun k => k==0||k==1||k==2||k==6||k==7||k==8||k==23||k==31)) ?_
 rw [Tryz.ntmps87]
 simp -dsimp
 refine ACall.of (validLength_c len) [] 0 ?_
 rcases (Bool.eq_false_or_eq_true (validLen len)).symm with a1 | a1
 ·simp -dsimp [a1]
  try refine ⟨?_, ⟨by kernel_rfl⟩⟩
  refine Fin.of ?_
  simp [atT, atB, a1]
 ·have hl : len = 8 ∨ len = 16 ∨ len = 32 ∨ len = 64 := by simp [validLen] at a1; omega
  simp -dsimp [a1, wrap_i64 (n := len - 1) (by omega) (by omega)]
  refine ACall.of (inside10_c bit 0 (len - 1)) [] 0 ?_
  rcases (Bool.eq_false_or_eq_true (inB bit 0 (len - 1))).symm with a2 | a2
  ·simp -dsimp [a1, a2]
   try refine ⟨?_, ⟨by kernel_rfl⟩⟩
   refine Fin.of ?_
   simp [atT, atB, a1, a2]
  ·simp -dsimp [a1, a2]
   refine ACall.of (inside10_c set 0 31) [] 0 ?_
   rcases (Bool.eq_false_or_eq_true (inB set 0 31)).symm with a3 | a3
   ·simp -dsimp [a1, a2, a3]
    try refine ⟨?_, ⟨by kernel_rfl⟩⟩
    refine Fin.of ?_
    simp [atT, atB, a1, a2, a3]
   ·have b2 : 0 ≤ bit ∧ bit ≤ len - 1 := by simpa [inB] using a2
    have b3 : 0 ≤ set ∧ set ≤ 31 := by simpa [inB] using a3
    have b4 : 0 ≤ set * len ∧ set * len ≤ 1984 := by rcases hl with rfl | rfl | rfl | rfl <;> omega
    by_cases a4 : set * len + bit + 1 ≤ 256
    ·have a5 : ¬ 256 < set * len + bit + 1 := by omega
     simp -dsimp [a1, a2, a3, a4, a5, wrap_i64 (n := set * len) (by omega) (by omega), wrap_i64 (n := set * len + bit) (by omega) (by omega), wrap_i64 (n := set * len + bit + 1) (by omega) (by omega)]
     try refine ⟨?_, ⟨by kernel_rfl⟩⟩
     refine Fin.of ?_
     simp [atT, atB, a1, a2, a3, a4]
    ·have a5 : 256 < set * len + bit + 1 := by omega
     simp -dsimp [a1, a2, a3, a4, a5, wrap_i64 (n := set * len) (by omega) (by omega), wrap_i64 (n := set * len + bit) (by omega) (by omega), wrap_i64 (n := set * len + bit + 1) (by omega) (by omega)]
     try refine ⟨?_, ⟨by kernel_rfl⟩⟩
     refine Fin.of ?_
     simp [atT, atB, a1, a2, a3, a4]
def hasI (l : List Int) (n : Int) : Bool := decide (n ∈ l)
theorem has04_cL (l : List Int) (hl : l.length ≤ 9223372036854775807) (n : Int) : Contract Tryz.prog 69 [.d (ints l), .d (.int .i64 n)] [] (.d (.bool (hasI l n))) [] [] := by
 refine contract_of Tryz.func69 rfl (fun E0 => ?_)
 refine awp.sound (g := .mk) (ow := []) (kp := (fun k => k==0||k==1||k==4||k==5||k==9||k==17)) ?_
 rw [Tryz.ntmps69]
 simp -dsimp [ints]
 refine ALoop.of [] (fun k => k==0||k==1||k==4||k==5||k==9||k==17) (ι := { i : Nat // i ≤ l.length ∧ ∀ a, a < i → ∀ x, l[a]? = some x → x ≠ n }) (fun z => [(Pl.s 0, It.v (.d (ints l))), (Pl.s 1, It.v (.d (.int .i64 n))), (Pl.s 4, It.v (.d (.bool false))), (Pl.s 5, It.v (.d (.int .i64 z.1)))]) (fun z => l.length - z.1) ⟨0, by omega, fun a h => by omega⟩ ?_ ?_
 ·exact GS.to (by simp [ints])
 ·rintro ⟨i, i1, i2⟩
  by_cases hi : i < l.length
  ·by_cases h : l[i] = n
   ·simp -dsimp [ints, hi, h]
    try refine ⟨?_, ⟨by kernel_rfl⟩⟩
    refine Fin.of ?_
    have : hasI l n = true := by simp only [hasI, decide_eq_true_eq]; rw [← h]; exact List.getElem_mem hi
    simp [this]
   ·simp -dsimp [ints, hi, h, wrap_i64 (n := (i : Int) + 1) (by omega) (by omega)]
    try refine ⟨?_, ⟨by kernel_rfl⟩⟩
    exact ⟨⟨i + 1, by omega, fun a ha x hx => by
     by_cases e : a = i
     ·subst e; rw [List.getElem?_eq_getElem hi] at hx; simp only [Option.some.injEq] at hx; rw [← hx]; exact h
     ·exact i2 a (by omega) x hx⟩, GS.to (by simp [ints]), by simp; omega⟩
  ·simp -dsimp [ints, hi]
   refine Fin.of ?_
   have : hasI l n = false := by
    simp only [hasI, decide_eq_false_iff_not]
    intro hm
    obtain ⟨a, ha⟩ := List.getElem?_of_mem hm
    exact i2 a (by have := (List.getElem?_eq_some_iff.1 ha).1; omega) n ha rfl
   simp [this]
theorem has04_c (l : List Int) (hl : l.length ≤ 1000000) (n : Int) : Contract Tryz.prog 69 [.d (ints l), .d (.int .i64 n)] [] (.d (.bool (hasI l n))) [] [] := has04_cL l (Nat.le_trans hl (by decide)) n
theorem ints04_c (a b : List Int) (hl : a.length ≤ 1000000) : Contract Tryz.prog 45 [.d (ints a), .d (ints b)] [] (.d (.bool (decide (a = b)))) [] [] := by
 refine contract_of Tryz.func45 rfl (fun E0 => ?_)
 refine awp.sound (g := .mk) (ow := []) (kp := (fun k => k==0||k==1||k==4||k==5||k==10||k==14||k==25)) ?_
 rw [Tryz.ntmps45]
 by_cases hlen : a.length = b.length
 ·simp -dsimp [ints, hlen]
  refine ALoop.of [] (fun k => k==0||k==1||k==4||k==5||k==10||k==14||k==25) (ι := { i : Nat // i ≤ a.length ∧ ∀ j, j < i → a[j]? = b[j]? }) (fun z => [(Pl.s 0, It.v (.d (ints a))), (Pl.s 1, It.v (.d (ints b))), (Pl.s 4, It.v (.d (.bool false))), (Pl.s 5, It.v (.d (.int .i64 z.1)))]) (fun z => a.length - z.1) ⟨0, by omega, fun j h => by omega⟩ ?_ ?_
  ·exact GS.to (by simp [ints])
  ·rintro ⟨i, i1, i2⟩
   by_cases hi : i < a.length
   ·have hi' : i < b.length := by omega
    by_cases h : a[i] = b[i]
    ·simp -dsimp [ints, hi, hi', h, wrap_i64 (n := (i : Int) + 1) (by omega) (by omega)]
     try refine ⟨?_, ⟨by kernel_rfl⟩⟩
     exact ⟨⟨i + 1, by omega, fun j hj => by
      by_cases e : j = i
      ·subst e; rw [List.getElem?_eq_getElem hi, List.getElem?_eq_getElem hi', h]
      ·exact i2 j (by omega)⟩, GS.to (by simp [ints]), by simp; omega⟩
    ·simp -dsimp [ints, hi, hi', h]
     try refine ⟨?_, ⟨by kernel_rfl⟩⟩
     refine Fin.of ?_
     have : a ≠ b := fun e => by subst e; exact h rfl
     simp [this]
   ·simp -dsimp [ints, hi]
    refine Fin.of ?_
    have : a = b := List.ext_getElem? fun j => by
     by_cases hj : j < i
     ·exact i2 j hj
     ·rw [List.getElem?_eq_none (by omega), List.getElem?_eq_none (by omega)]
    simp [this]
 ·have hlen' : ¬ (a.length : Int) = b.length := by omega
  simp -dsimp [ints, hlen, hlen']
  refine Fin.of ?_
  have : a ≠ b := fun e => hlen (by rw [e])
  simp [this]
theorem insert04_c (l : List Int) (hl : l.length ≤ 1000000) (n : Int) : Contract Tryz.prog 53 [.d (ints l), .d (.int .i64 n)] [] (.d (ints (insI l n))) [] [] := by
 refine contract_of Tryz.func53 rfl (fun E0 => ?_)
 refine awp.sound (g := .mk) (ow := []) (kp := (fun k => k==0||k==1||k==4||k==5||k==6||k==18||k==32)) ?_
 rw [Tryz.ntmps53]
 simp -dsimp [ints]
 refine ALoop.of [] (fun k => k==0||k==1||k==4||k==5||k==6||k==18||k==32) (ι := { p : Nat // p ≤ l.length ∧ insPos n l = p + insPos n (l.drop p) }) (fun z => [(Pl.s 0, It.v (.d (ints l))), (Pl.s 1, It.v (.d (.int .i64 n))), (Pl.s 4, It.v (.c (Value.slice none 0 0))), (Pl.s 5, It.v (.d (.int .i64 z.1)))]) (fun z => l.length - z.1) ⟨0, by omega, by simp⟩ ?_ ?_
 ·exact GS.to (by simp [ints])
 ·rintro ⟨p, p1, p2⟩
  by_cases hp : p < l.length
  ·have hd : l.drop p = l[p] :: l.drop (p + 1) := List.drop_eq_getElem_cons _
   by_cases h : l[p] < n
   ·simp -dsimp [ints, hp, h, wrap_i64 (n := (p : Int) + 1) (by omega) (by omega)]
    try refine ⟨?_, ⟨by kernel_rfl⟩⟩
    exact ⟨⟨p + 1, by omega, by rw [p2, hd, insPos, if_pos h]; omega⟩, GS.to (by simp [ints]), by simp; omega⟩
   ·have hq : insPos n l = p := by rw [p2, hd, insPos, if_neg h]; omega
    by_cases he : l[p] = n
    ·simp -dsimp [ints, hp, h, he]
     try refine ⟨?_, ⟨by kernel_rfl⟩⟩
     refine Fin.of ?_
     have hI : insI l n = l := by rw [insI, if_pos (by rw [hq, List.getElem?_eq_getElem hp, he])]
     simp [hI]
    ·simp -dsimp [ints, hp, h, he]
     have dl : dLen 1 (l.map fun x => [D.int .i64 x]) := dLen_map 1 _ _ fun _ => rfl
     and_intros
     all_goals try first | omega | exact ⟨by kernel_rfl⟩ | exact dLen_take dl | exact dLen_drop (dLen_take dl) | (simp; omega)
     refine Fin.view 4 ?_
     simp -dsimp
     and_intros
     all_goals try first | omega | exact ⟨by kernel_rfl⟩ | (simp; omega)
     refine Fin.of ?_
     have hI : insI l n = l.take p ++ [n] ++ l.drop p := by rw [insI, hq, if_neg (by rw [List.getElem?_eq_getElem hp]; simpa using he)]
     simp [hI, ints, List.take_of_length_le]
  ·have hq : insPos n l = p := by rw [p2, List.drop_eq_nil_of_le (by omega), insPos]; omega
   simp -dsimp [ints, hp]
   have dl : dLen 1 (l.map fun x => [D.int .i64 x]) := dLen_map 1 _ _ fun _ => rfl
   and_intros
   all_goals try first | omega | exact ⟨by kernel_rfl⟩ | exact dLen_take dl | exact dLen_drop (dLen_take dl) | (simp; omega)
   refine Fin.view 4 ?_
   simp -dsimp
   and_intros
   all_goals try first | omega | exact ⟨by kernel_rfl⟩ | (simp; omega)
   refine Fin.of ?_
   have hI : insI l n = l.take p ++ [n] ++ l.drop p := by rw [insI, hq, if_neg (by rw [List.getElem?_eq_none (by omega)]; simp)]
   simp [hI, ints, List.take_of_length_le]
def idxV (v : Int) (l : List Int) : Int := match l.findIdx? (fun x => decide (x = v)) with | some i => i | none => -1
theorem idxV_at {v : Int} {l : List Int} {i : Nat} (hx : l[i]? = some v) (h : ∀ a, a < i → ∀ y, l[a]? = some y → y ≠ v) : idxV v l = i := by
 unfold idxV
 obtain ⟨hi, hv⟩ := List.getElem?_eq_some_iff.1 hx
 have : l.findIdx? (fun x => decide (x = v)) = some i := by
  rw [List.findIdx?_eq_some_iff_getElem]
  exact ⟨hi, by simp [hv], fun j hj => by have := h j hj _ (List.getElem?_eq_getElem (by omega)); simpa using this⟩
 rw [this]
theorem idxV_no {v : Int} {l : List Int} (h : ∀ a, a < l.length → ∀ y, l[a]? = some y → y ≠ v) : idxV v l = -1 := by
 unfold idxV
 have : l.findIdx? (fun x => decide (x = v)) = none := by
  rw [List.findIdx?_eq_none_iff]
  intro x hx
  obtain ⟨i, hi⟩ := List.getElem?_of_mem hx
  simpa using h i (List.getElem?_eq_some_iff.1 hi).1 x hi
 rw [this]
theorem idxV_has (v : Int) (l : List Int) : decide (0 ≤ idxV v l) = hasI l v := by
 unfold idxV hasI
 cases h : l.findIdx? (fun x => decide (x = v)) with
 | none =>
   have := List.findIdx?_eq_none_iff.1 h
   simp
   intro hm
   simpa using this v hm
 | some i =>
   obtain ⟨hi, h1, _⟩ := List.findIdx?_eq_some_iff_getElem.1 h
   simp at h1
   simp
   rw [← h1]; exact List.getElem_mem hi
theorem index_cL (l : List Int) (hl : l.length ≤ 9223372036854775807) (v : Int) : Contract Tryz.prog 197 [.d (ints l), .d (.int .i64 v)] [] (.d (.int .i64 (idxV v l))) [] [] := by
 refine contract_of Tryz.func197 rfl (fun E0 => ?_)
 refine awp.sound (g := .mk) (ow := []) (kp := (fun k => k==0||k==1||k==4||k==5||k==7||k==8||k==9||k==16)) ?_
 rw [Tryz.ntmps197]
 simp -dsimp [ints]
 refine ALoop.of [] (fun k => k==0||k==1||k==4||k==5||k==7||k==8||k==9||k==16) (ι := { i : Nat // i ≤ l.length ∧ ∀ a, a < i → ∀ x, l[a]? = some x → x ≠ v }) (fun z => [(Pl.s 0, It.v (.d (ints l))), (Pl.s 1, It.v (.d (.int .i64 v))), (Pl.s 4, It.v (.d (.int .i64 0))), (Pl.s 7, It.v (.d (.int .i64 l.length))), (Pl.s 8, It.v (.d (.int .i64 z.1)))]) (fun z => l.length - z.1) ⟨0, by omega, fun a h => by omega⟩ ?_ ?_
 ·exact GS.to (by simp [ints])
 ·rintro ⟨i, i1, i2⟩
  by_cases hi : i < l.length
  ·by_cases h : l[i] = v
   ·have h' : v = l[i] := h.symm
    simp -dsimp [ints, hi, h, wrap_i64 (n := (i : Int) + 1) (by omega) (by omega)]
    try refine ⟨?_, ⟨by kernel_rfl⟩⟩
    refine Fin.of ?_
    simp [idxV_at (v := v) (l := l) (i := i) (by rw [List.getElem?_eq_getElem hi, h]) i2]
   ·have h' : ¬ v = l[i] := fun e => h e.symm
    simp -dsimp [ints, hi, h, h', wrap_i64 (n := (i : Int) + 1) (by omega) (by omega)]
    try refine ⟨?_, ⟨by kernel_rfl⟩⟩
    exact ⟨⟨i + 1, by omega, fun a ha x hx => by
     by_cases e : a = i
     ·subst e; rw [List.getElem?_eq_getElem hi] at hx; simp only [Option.some.injEq] at hx; rw [← hx]; exact h
     ·exact i2 a (by omega) x hx⟩, GS.to (by simp [ints]), by simp; omega⟩
  ·simp -dsimp [ints, hi]
   refine Fin.of ?_
   simp [idxV_no (v := v) (l := l) fun a ha => i2 a (by omega)]
theorem index_c (l : List Int) (hl : l.length ≤ 1000000) (v : Int) : Contract Tryz.prog 197 [.d (ints l), .d (.int .i64 v)] [] (.d (.int .i64 (idxV v l))) [] [] := index_cL l (Nat.le_trans hl (by decide)) v
theorem contains_cL (l : List Int) (hl : l.length ≤ 9223372036854775807) (v : Int) : Contract Tryz.prog 158 [.d (ints l), .d (.int .i64 v)] [] (.d (.bool (hasI l v))) [] [] := by
 refine contract_of Tryz.func158 rfl (fun E0 => ?_)
 refine awp.sound (g := .mk) (ow := []) (kp := (fun k => k==0||k==1||k==4)) ?_
 rw [Tryz.ntmps158]
 simp -dsimp
 refine ACall.of (index_cL l hl v) [] 0 ?_
 simp -dsimp
 refine Fin.of ?_
 simp [idxV_has]
theorem contains_c (l : List Int) (hl : l.length ≤ 1000000) (v : Int) : Contract Tryz.prog 158 [.d (ints l), .d (.int .i64 v)] [] (.d (.bool (hasI l v))) [] [] := contains_cL l (Nat.le_trans hl (by decide)) v
end Go.Proofs

/-
  What functions of the program compute, stated as contracts over plain data; the conditions of each stand in its own statement.
-/
import Derived.Test.YteenclepbpajdaaGreatDoorM45
import Derived.Test.YteenclepbpajdaaGreatDoorP16
import Derived.Test.YteenclepbpajdaaGreatDoorP17
set_option linter.unusedSimpArgs false
set_option maxRecDepth 100000
set_option maxHeartbeats 4000000
namespace Go.Proofs
open Go Go.Tr
def hasB (B : BitVec 64) (k : Nat) : Bool := decide (B >>> k &&& 1#64 = 1#64)
def listN (B : BitVec 64) : Nat → List Int
 | 0 => []
 | n + 1 => listN B n ++ (if hasB B n = true then [(n : Int)] else [])
theorem listN_len (B : BitVec 64) : ∀ n, (listN B n).length ≤ n
 | 0 => by simp [listN]
 | n + 1 => by
   have := listN_len B n
   simp only [listN, List.length_append]
   split <;> simp <;> omega
theorem hasB_lsb (B : BitVec 64) (k : Nat) : hasB B k = B.getLsbD k := by
 rw [Bool.eq_iff_iff]
 simp only [hasB, decide_eq_true_eq]
 constructor
 ·intro h
  have := congrArg (fun x => BitVec.getLsbD x 0) h
  simpa using this
 ·intro h
  apply BitVec.eq_of_getLsbD_eq
  intro i hi
  by_cases h0 : i = 0
  ·subst h0; simp [h]
  ·simp [h0]
theorem hasB_or (B : BitVec 64) {k : Int} (hk : 0 ≤ k ∧ k < 64) (j : Nat) (hj : j < 64) : hasB (B ||| bitB k) j = (hasB B j || decide ((j : Int) = k)) := by
 have e : IntKind.u64.wrap k = k := by rw [wrap_emod]; omega
 rw [hasB_lsb, hasB_lsb, BitVec.getLsbD_or, bitB, if_neg (by omega), e]
 have : (1#64 <<< k.toNat).getLsbD j = decide ((j : Int) = k) := by
  rw [Bool.eq_iff_iff]
  simp [hj]
  omega
 rw [this]
theorem hasB_bit {k : Int} (hk : 0 ≤ k ∧ k < 64) (j : Nat) (hj : j < 64) : hasB (bitB k) j = decide ((j : Int) = k) := by
 have := hasB_or 0#64 hk j hj
 rw [BitVec.zero_or] at this
 rw [this, hasB_lsb]
 simp
theorem cnt_more {B C : BitVec 64} {k : Nat} (hk : hasB B k = false) (h : ∀ j, j < 64 → hasB C j = (hasB B j || decide (j = k))) : ∀ n, n ≤ 64 → (listN C n).length = (listN B n).length + if k < n then 1 else 0
 | 0, _ => by simp [listN]
 | n + 1, hn => by
   have ih := cnt_more hk h n (by omega)
   have hc := h n (by omega)
   simp only [listN, List.length_append, ih]
   by_cases e : n = k
   ·subst e
    simp [hc, hk]
   ·rw [hc, show decide (n = k) = false by simpa using e, Bool.or_false]
    have : (k < n + 1) = (k < n) := by simp only [eq_iff_iff]; omega
    simp only [this]
    omega
theorem listN_mem {B : BitVec 64} {x : Int} : ∀ {n : Nat}, x ∈ listN B n → ∃ k, k < n ∧ x = k ∧ hasB B k = true
 | 0, h => by simp [listN] at h
 | n + 1, h => by
   simp only [listN, List.mem_append] at h
   rcases h with h | h
   ·obtain ⟨k, h1, h2, h3⟩ := listN_mem h
    exact ⟨k, by omega, h2, h3⟩
   ·split at h
    ·rename_i hb
     simp at h
     exact ⟨n, by omega, h, hb⟩
    ·simp at h
theorem listN_zero : ∀ n, (listN 0#64 n).length = 0
 | 0 => rfl
 | n + 1 => by
   have : hasB 0#64 n = false := by rw [hasB_lsb]; simp
   simp [listN, this]
   simpa using listN_zero n
def sumC (l : List Sb) : Nat := (l.map fun s => (listN s.bits 64).length).sum
theorem sumC_app (a b : List Sb) : sumC (a ++ b) = sumC a + sumC b := by simp [sumC]
structure SbI (len : Int) (done : List Int) (l : List Sb) : Prop where
 asc : l.Pairwise fun a b => a.set < b.set
 bit : ∀ s ∈ l, ∀ k, k < 64 → (hasB s.bits k = true ↔ ∃ id ∈ done, plSet id len = s.set ∧ plBit id len = k)
 set : ∀ s ∈ l, ∃ id ∈ done, plSet id len = s.set
 sum : sumC l = done.length
 all : ∀ id ∈ done, ∃ s ∈ l, s.set = plSet id len
theorem pl_id {len id : Int} (hl : validLen len = true) (hi : 1 ≤ id ∧ id ≤ 256) : plSet id len = (id - 1) / len ∧ plBit id len = (id - 1) % len ∧ plSet id len * len + plBit id len + 1 = id ∧ plBit id len < len := by
 have hL : len = 8 ∨ len = 16 ∨ len = 32 ∨ len = 64 := by simp [validLen] at hl; omega
 have h1 : inB id 1 256 = true := by simp [inB, hi]
 have e1 : plSet id len = (id - 1) / len := by simp [plSet, hl, h1]
 have e2 : plBit id len = (id - 1) % len := by simp [plBit, hl, h1]
 rw [e1, e2]
 refine ⟨rfl, rfl, ?_, ?_⟩
 ·rcases hL with rfl | rfl | rfl | rfl <;> omega
 ·rcases hL with rfl | rfl | rfl | rfl <;> omega
theorem pl_mono {len a b : Int} (hl : validLen len = true) (ha : 1 ≤ a ∧ a ≤ 256) (hb : 1 ≤ b ∧ b ≤ 256) (h : a < b) : plSet a len ≤ plSet b len := by
 rw [(pl_id hl ha).1, (pl_id hl hb).1]
 have hL : len = 8 ∨ len = 16 ∨ len = 32 ∨ len = 64 := by simp [validLen] at hl; omega
 rcases hL with rfl | rfl | rfl | rfl <;> omega
theorem sb_step {len : Int} (hl : validLen len = true) {done : List Int} {l : List Sb} {x : Int} (h : SbI len done l) (hr : ∀ y ∈ done, 1 ≤ y ∧ y ≤ 256) (hx : 1 ≤ x ∧ x ≤ 256) (hlt : ∀ y ∈ done, y < x) : SbI len (done ++ [x]) (sbPut l (plSet x len) (bitB (plBit x len))) := by
 have hB := plB x len
 have hnew : ∀ k, k < 64 → (hasB (bitB (plBit x len)) k = true ↔ ∃ id ∈ [x], plSet id len = plSet x len ∧ plBit id len = k) := fun k hk => by
  rw [hasB_bit ⟨hB.2.2.1, hB.2.2.2⟩ k hk]
  simp
  omega
 have hcount : (listN (bitB (plBit x len)) 64).length = 1 := by
  obtain ⟨kn, hkn⟩ : ∃ kn : Nat, plBit x len = kn := ⟨(plBit x len).toNat, by omega⟩
  have := cnt_more (B := 0#64) (C := bitB (plBit x len)) (k := kn) (by rw [hasB_lsb]; simp) (fun j hj => by
   rw [hasB_bit ⟨hB.2.2.1, hB.2.2.2⟩ j hj, hkn, hasB_lsb]
   simp
   omega) 64 (by omega)
  rw [this, listN_zero]
  rw [if_pos (by omega)]
 rcases List.eq_nil_or_concat l with rfl | ⟨pre, y, rfl⟩
 ·have hd : done = [] := by
   have := h.sum
   simp [sumC] at this
   exact List.length_eq_zero_iff.1 this.symm
  subst hd
  rw [sbPut_nil]
  refine ⟨by simp, fun s hs k hk => ?_, fun s hs => ?_, ?_, fun id hid => ?_⟩
  ·simp at hs; subst hs
   simpa using hnew k hk
  ·simp at hs; subst hs
   exact ⟨x, by simp, rfl⟩
  ·simp [sumC, hcount]
  ·simp at hid; subst hid
   exact ⟨_, List.mem_singleton.2 rfl, rfl⟩
 ·rw [List.concat_eq_append] at *
  obtain ⟨z, hz, hzs⟩ := h.set y (by simp)
  have hle : y.set ≤ plSet x len := by rw [← hzs]; exact pl_mono hl (hr z hz) hx (hlt z hz)
  have hpw := List.pairwise_append.1 h.asc
  have hpre : ∀ s ∈ pre, s.set < y.set := fun s hs => hpw.2.2 s hs y (by simp)
  by_cases hs : y.set = plSet x len
  ·rw [← hs, sbPut_same]
   obtain ⟨kn, hkn⟩ : ∃ kn : Nat, plBit x len = kn := ⟨(plBit x len).toNat, by omega⟩
   have hno : hasB y.bits kn = false := by
    rw [Bool.eq_false_iff]
    intro hb
    obtain ⟨id, hid, e1, e2⟩ := (h.bit y (by simp) kn (by omega)).1 hb
    have p1 := (pl_id hl (hr id hid)).2.2.1
    have p2 := (pl_id hl hx).2.2.1
    rw [e1, hs, e2, ← hkn, p2] at p1
    have := hlt id hid
    omega
   refine ⟨?_, fun s hm k hk => ?_, fun s hm => ?_, ?_, fun id hid => ?_⟩
   ·rw [List.pairwise_append]
    exact ⟨hpw.1, by simp, fun a ha b hb => by simp at hb; subst hb; exact hpre a ha⟩
   ·simp only [List.mem_append, List.mem_singleton] at hm
    rcases hm with hm | rfl
    ·rw [h.bit s (by simp [hm]) k hk]
     constructor
     ·rintro ⟨id, h1, h2⟩; exact ⟨id, by simp [h1], h2⟩
     ·rintro ⟨id, h1, h2, h3⟩
      simp only [List.mem_append, List.mem_singleton] at h1
      rcases h1 with h1 | rfl
      ·exact ⟨id, h1, h2, h3⟩
      ·have := hpre s hm; omega
    ·rw [hasB_or _ ⟨hB.2.2.1, hB.2.2.2⟩ k hk, Bool.or_eq_true, h.bit y (by simp) k hk]
     simp only [decide_eq_true_eq]
     constructor
     ·rintro (⟨id, h1, h2⟩ | h1)
      ·exact ⟨id, by simp [h1], h2⟩
      ·exact ⟨x, by simp, hs.symm, h1.symm⟩
     ·rintro ⟨id, h1, h2, h3⟩
      simp only [List.mem_append, List.mem_singleton] at h1
      rcases h1 with h1 | rfl
      ·exact .inl ⟨id, h1, h2, h3⟩
      ·exact .inr h3.symm
   ·simp only [List.mem_append, List.mem_singleton] at hm
    rcases hm with hm | rfl
    ·obtain ⟨id, h1, h2⟩ := h.set s (by simp [hm])
     exact ⟨id, by simp [h1], h2⟩
    ·exact ⟨x, by simp, hs.symm⟩
   ·have hsum := h.sum
    rw [sumC_app] at hsum ⊢
    have hc := cnt_more (B := y.bits) (C := y.bits ||| bitB (plBit x len)) (k := kn) hno (fun j hj => by
     rw [hasB_or _ ⟨hB.2.2.1, hB.2.2.2⟩ j hj, hkn]
     rw [show decide ((j : Int) = (kn : Int)) = decide (j = kn) by rw [decide_eq_decide]; omega]) 64 (by omega)
    rw [if_pos (by omega)] at hc
    simp only [sumC, List.map_cons, List.map_nil, List.sum_cons, List.sum_nil, List.length_append, List.length_singleton] at hsum ⊢
    omega
   ·simp only [List.mem_append, List.mem_singleton] at hid
    rcases hid with hid | rfl
    ·obtain ⟨s, h1, h2⟩ := h.all id hid
     simp only [List.mem_append, List.mem_singleton] at h1
     rcases h1 with h1 | rfl
     ·exact ⟨s, by simp [h1], h2⟩
     ·exact ⟨⟨s.set, s.bits ||| bitB (plBit x len)⟩, by simp, h2⟩
    ·exact ⟨⟨y.set, y.bits ||| bitB (plBit id len)⟩, by simp, hs⟩
  ·rw [sbPut_new _ _ hs]
   refine ⟨?_, fun s hm k hk => ?_, fun s hm => ?_, ?_, fun id hid => ?_⟩
   ·rw [List.pairwise_append]
    refine ⟨h.asc, by simp, fun a ha b hb => ?_⟩
    simp at hb; subst hb
    simp only [List.mem_append, List.mem_singleton] at ha
    rcases ha with ha | rfl
    ·have := hpre a ha; show a.set < plSet x len; omega
    ·show a.set < plSet x len; omega
   ·simp only [List.mem_append, List.mem_singleton] at hm
    have hold : ∀ s, s ∈ pre ++ [y] → s.set ≤ y.set := fun s hs => by
     simp only [List.mem_append, List.mem_singleton] at hs
     rcases hs with hs | rfl
     ·have := hpre s hs; omega
     ·omega
    rcases hm with hm | rfl
    ·have hm' : s ∈ pre ++ [y] := by simpa using hm
     rw [h.bit s hm' k hk]
     constructor
     ·rintro ⟨id, h1, h2⟩; exact ⟨id, by simp [h1], h2⟩
     ·rintro ⟨id, h1, h2, h3⟩
      simp only [List.mem_append, List.mem_singleton] at h1
      rcases h1 with h1 | rfl
      ·exact ⟨id, h1, h2, h3⟩
      ·have := hold s hm'; omega
    ·rw [hnew k hk]
     constructor
     ·rintro ⟨id, h1, h2⟩; exact ⟨id, by simp at h1; simp [h1], h2⟩
     ·rintro ⟨id, h1, h2, h3⟩
      simp only [List.mem_append, List.mem_singleton] at h1
      rcases h1 with h1 | rfl
      ·exfalso
       have h4 : id < x := hlt id h1
       obtain ⟨s, hs1, hs2⟩ := h.all id h1
       have h2' : plSet id len = plSet x len := h2
       have := hold s hs1
       omega
      ·exact ⟨id, by simp, h2, h3⟩
   ·simp only [List.mem_append, List.mem_singleton] at hm
    rcases hm with hm | rfl
    ·obtain ⟨id, h1, h2⟩ := h.set s (by simpa using hm)
     exact ⟨id, by simp [h1], h2⟩
    ·exact ⟨x, by simp, rfl⟩
   ·have hsum := h.sum
    rw [sumC_app, hsum]
    simp [sumC, hcount]
   ·simp only [List.mem_append, List.mem_singleton] at hid
    rcases hid with hid | rfl
    ·obtain ⟨s, h1, h2⟩ := h.all id hid
     exact ⟨s, List.mem_append.2 (.inl h1), h2⟩
    ·exact ⟨⟨plSet id len, bitB (plBit id len)⟩, by simp, rfl⟩
theorem sb_all {len : Int} (hl : validLen len = true) : ∀ (ids done : List Int) (l : List Sb), SbI len done l → (∀ y ∈ done ++ ids, 1 ≤ y ∧ y ≤ 256) → (done ++ ids).Pairwise (fun a b => a < b) → SbI len (done ++ ids) (sbAll len ids l)
 | [], done, l, h, _, _ => by simpa [sbAll] using h
 | x :: ids, done, l, h, hr, hp => by
   rw [sbAll]
   have h1 := sb_step hl h (fun y hy => hr y (by simp [hy])) (hr x (by simp)) (fun y hy => (List.pairwise_append.1 hp).2.2 y hy x (by simp))
   have := sb_all hl ids (done ++ [x]) _ h1 (fun y hy => hr y (by simpa using hy)) (by simpa using hp)
   simpa using this
structure TemplV (q : Pk) : Prop where
 mode : 1 ≤ q.mode ∧ q.mode ≤ 3
 ttl : q.ttl = 63
 ent : 0 ≤ q.ent ∧ q.ent ≤ 1023
 ing : 0 ≤ q.ing ∧ q.ing ≤ 256
 proto : 0 ≤ q.proto ∧ q.proto ≤ 7
 pay : q.pay.size ≤ 64
theorem gNext_le (T : Tp) (n m : Int) (h : 0 < n) (hm : n = m + 1) : 0 ≤ (gNext T n).1 ∧ (gNext T n).1 ≤ m := by
 have := gNext_nonneg T n
 have := gNext_lt T h
 omega
theorem gPick_r (T : Tp) (l : List Int) (lo hi : Int) (h0 : 0 < l.length) (h : ∀ x ∈ l, lo ≤ x ∧ x ≤ hi) : lo ≤ (gPick T l).1 ∧ (gPick T l).1 ≤ hi := gPick_all (p := fun x => lo ≤ x ∧ x ≤ hi) h0 h
theorem gPk0_ent (T : Tp) : ∃ W, (gPk0 T).1.ent = (gNext W 1024).1 := by unfold gPk0; dsimp only; exact ⟨_, rfl⟩
theorem gPk0_ing (T : Tp) : ∃ W, (gPk0 T).1.ing = (gPick W [0, 1, 8, 255, 256]).1 := by unfold gPk0; dsimp only; exact ⟨_, rfl⟩
theorem gPk0_proto (T : Tp) : ∃ W, (gPk0 T).1.proto = (gNext W 8).1 := by unfold gPk0; dsimp only; exact ⟨_, rfl⟩
theorem gPk0_pay (T : Tp) : ∃ W, (gPk0 T).1.pay = strOf (gText W 6).1 := by unfold gPk0; dsimp only; exact ⟨_, rfl⟩
theorem gTempl_valid (T : Tp) : TemplV (gTempl T).1 := by
 have h0 : gPacket T 0 = gPk0 T := by simp [gPacket]
 obtain ⟨W1, e1⟩ := gPk0_ent T
 obtain ⟨W2, e2⟩ := gPk0_ing T
 obtain ⟨W3, e3⟩ := gPk0_proto T
 obtain ⟨W4, e4⟩ := gPk0_pay T
 unfold gTempl
 rw [h0]
 generalize gPk0 T = R at e1 e2 e3 e4 ⊢
 have h4 := gText_size W4 (k := 6) (by omega)
 dsimp only
 refine ⟨?_, rfl, ?_, ?_, ?_, ?_⟩
 ·exact gPick_r R.2 [1, 3] 1 3 (by simp) (by simp)
 ·rw [e1]; exact gNext_le W1 1024 1023 (by omega) (by omega)
 ·rw [e2]; exact gPick_r W2 [0, 1, 8, 255, 256] 0 256 (by simp) (by simp)
 ·rw [e3]; exact gNext_le W3 8 7 (by omega) (by omega)
 ·rw [e4]; exact Nat.le_trans h4 (by omega)
theorem pkAll_ok (q : Pk) (p : Pn) : ∀ (l : List Sb) (out : List Pk), (∀ s ∈ l, (q.with p s).ok = true) → pkAll q p l out = (out ++ l.map (q.with p), 0)
 | [], out, _ => by simp [pkAll]
 | s :: l, out, h => by
   rw [pkAll, if_pos (h s (by simp)), pkAll_ok q p l _ fun s hs => h s (by simp [hs])]
   simp
end Go.Proofs

set_option linter.unusedSimpArgs false
set_option maxRecDepth 100000
set_option maxHeartbeats 4000000
namespace Go.Proofs
open Go Go.Tr
theorem strict_eq : ∀ {a b : List Int}, a.Pairwise (fun x y => x < y) → b.Pairwise (fun x y => x < y) → (∀ x, x ∈ a ↔ x ∈ b) → a = b
 | [], [], _, _, _ => rfl
 | [], y :: b, _, _, h => by have := (h y).2 (by simp); simp at this
 | x :: a, [], _, _, h => by have := (h x).1 (by simp); simp at this
 | x :: a, y :: b, ha, hb, h => by
   rw [List.pairwise_cons] at ha hb
   have e : x = y := by
    rcases List.mem_cons.1 ((h x).1 (by simp)) with e | e
    ·exact e
    ·rcases List.mem_cons.1 ((h y).2 (by simp)) with e2 | e2
     ·exact e2.symm
     ·have := hb.1 x e; have := ha.1 y e2; omega
   subst e
   rw [strict_eq ha.2 hb.2 fun z => ?_]
   constructor
   ·intro hz
    rcases List.mem_cons.1 ((h z).1 (by simp [hz])) with e | e
    ·have := ha.1 z hz; omega
    ·exact e
   ·intro hz
    rcases List.mem_cons.1 ((h z).2 (by simp [hz])) with e | e
    ·have := hb.1 z hz; omega
    ·exact e
def sbIds (len : Int) (s : Sb) : List Int := (bitsL s.bits).map fun k : Nat => s.set * len + (k : Int) + 1
structure SetU (p : Pn) (ids : List Int) (l : List Sb) : Prop where
 eq : setsR p ids = (l, 0)
 rng : ∀ s ∈ l, (0 ≤ s.set ∧ s.set ≤ 31) ∧ validB s.bits p.len = true
 bit : ∀ s ∈ l, ∀ k ∈ bitsL s.bits, atB s.set k p.len = true
 flat : l.flatMap (sbIds p.len) = ids
 len : l.length ≤ ids.length
theorem bitsL_asc (B : BitVec 64) : (bitsL B).Pairwise fun a b => a < b := List.Pairwise.sublist List.filter_sublist List.pairwise_lt_range
theorem sets_of {p : Pn} (hp : planB p = true) (hl : validLen p.len = true) {ids : List Int} (hs : ids.Sublist (p.es.map (·.id))) : SetU p ids (sbAll p.len ids []) := by
 have hpw : ids.Pairwise fun a b => a < b := by
  refine List.Pairwise.sublist hs ?_
  rw [List.pairwise_map]
  exact plan_asc hp
 have hr : ∀ y ∈ ids, 1 ≤ y ∧ y ≤ 256 := fun y hy => by
  obtain ⟨e, he, rfl⟩ := List.mem_map.1 (hs.subset hy)
  exact plan_ids hp he
 have hk : ∀ y ∈ ids, knownB p y = true := fun y hy => by
  obtain ⟨e, he, rfl⟩ := List.mem_map.1 (hs.subset hy)
  simp only [knownB, List.find?_isSome]
  exact ⟨e, he, by simp⟩
 have hI := sb_all hl ids [] [] ⟨by simp, by simp, by simp, by simp [sumC], by simp⟩ (by simpa using hr) (by simpa using hpw)
 rw [List.nil_append] at hI
 have hL := validLen_cases hl
 have hset : ∀ s ∈ sbAll p.len ids [], 0 ≤ s.set ∧ s.set ≤ 31 := fun s hs' => by
  obtain ⟨id, h1, h2⟩ := hI.set s hs'
  have hid := hr id h1
  have hp := pl_id hl hid
  rw [← h2, hp.1]
  rcases hL with hL | hL | hL | hL <;> rw [hL] <;> omega
 have hbit : ∀ s ∈ sbAll p.len ids [], ∀ k ∈ bitsL s.bits, (k : Int) < p.len ∧ s.set * p.len + (k : Int) + 1 ∈ ids ∧ s.set * p.len + (k : Int) + 1 ≤ 256 := fun s hs' k hk' => by
  obtain ⟨h1, h2⟩ := mem_bitsL.1 hk'
  obtain ⟨id, h3, h4, h5⟩ := (hI.bit s hs' k h1).1 (by rw [hasB_lsb]; exact h2)
  have hid := hr id h3
  have hp := pl_id hl hid
  rw [h4, h5] at hp
  exact ⟨hp.2.2.2, by rw [hp.2.2.1]; exact h3, by rw [hp.2.2.1]; exact hid.2⟩
 refine ⟨?_, fun s hs' => ⟨hset s hs', validB_of hl fun k hk' hb => (hbit s hs' k (mem_bitsL.2 ⟨hk', hb⟩)).1⟩, fun s hs' k hk' => ?_, ?_, ?_⟩
 ·have hasc : ascB ids = true := by
   simp only [ascB, decide_eq_true_eq]
   intro i h0 hi
   have := List.pairwise_iff_getElem.1 hpw (i - 1) i (by omega) hi (by omega)
   simpa [List.getD, hi, show i - 1 < ids.length by omega] using this
  have hall : ids.all (knownB p) = true := by rw [List.all_eq_true]; exact hk
  simp [setsR, hp, hasc, hall]
 ·have h1 := hset s hs'
  have h2 := hbit s hs' k hk'
  simp only [atB, hl, inB, Bool.true_and, Bool.and_eq_true, decide_eq_true_eq]
  omega
 ·refine strict_eq ?_ hpw fun x => ?_
  ·rw [List.pairwise_flatMap]
   refine ⟨fun s hs' => ?_, hI.asc.imp_of_mem fun {a b} ha hb hab x hx y hy => ?_⟩
   ·unfold sbIds
    rw [List.pairwise_map]
    exact (bitsL_asc s.bits).imp fun h => by omega
   ·simp only [sbIds, List.mem_map] at hx hy
    obtain ⟨k, hk1, rfl⟩ := hx
    obtain ⟨m, hm1, rfl⟩ := hy
    have := (hbit a ha k hk1).1
    have h8 : 0 ≤ p.len := by omega
    have : (a.set + 1) * p.len ≤ b.set * p.len := Int.mul_le_mul_of_nonneg_right (by omega) h8
    rw [Int.add_mul, Int.one_mul] at this
    omega
  ·simp only [List.mem_flatMap, sbIds, List.mem_map]
   constructor
   ·rintro ⟨s, hs', k, hk', rfl⟩
    exact (hbit s hs' k hk').2.1
   ·intro hx
    obtain ⟨s, h1, h2⟩ := hI.all x hx
    have hB := plB x p.len
    have hid := hr x hx
    have hp := pl_id hl hid
    obtain ⟨k, hk'⟩ : ∃ k : Nat, plBit x p.len = k := ⟨(plBit x p.len).toNat, by omega⟩
    refine ⟨s, h1, k, mem_bitsL.2 ⟨by omega, ?_⟩, by rw [h2, ← hk']; exact hp.2.2.1⟩
    have := (hI.bit s h1 k (by omega)).2 ⟨x, hx, h2.symm, hk'⟩
    rwa [hasB_lsb] at this
 ·have := sbAll_len p.len ids []
  simpa using this
theorem with_okU {q : Pk} {p : Pn} {s : Sb} {ids : List Int} {l : List Sb} (hq : TemplV q) (hd : 0 ≤ p.subd ∧ p.subd ≤ 7) (h : SetU p ids l) (hs : s ∈ l) : (q.with p s).ok = true := by
 have h1 := (h.rng s hs).1
 have h2 := (h.rng s hs).2
 have a1 := hq.mode
 have a2 := hq.ttl
 have a3 := hq.ent
 have a4 := hq.ing
 have a5 := hq.proto
 have a6 := hq.pay
 rw [ok_iff]
 refine ⟨a1, hd, h1, h2, ?_, a3, a4, a5, a6⟩
 show 0 ≤ q.ttl ∧ q.ttl ≤ 63
 omega
theorem packR_ok {q : Pk} {p : Pn} {ids : List Int} {l : List Sb} (hq : TemplV q) (hd : 0 ≤ p.subd ∧ p.subd ≤ 7) (h : SetU p ids l) : packR p ids q = (l.map (q.with p), 0) := by
 unfold packR
 rw [h.eq, if_pos rfl, pkAll_ok q p l [] fun s hs => with_okU hq hd h hs]
 simp
theorem sendL_ok {X : List Tb} {r : Int} : ∀ (ps : List Pk) (out : List Trc), (∀ x ∈ ps, (runR X x r).2 = 0) → sendL X r ps out = (out ++ ps.map fun x => (runR X x r).1, 0)
 | [], out, _ => by simp [sendL]
 | x :: ps, out, h => by
   rw [sendL, if_pos (h x (by simp)), sendL_ok ps _ fun y hy => h y (by simp [hy])]
   simp
theorem with_fit {q : Pk} {p : Pn} {s : Sb} {ids : List Int} {l : List Sb} {rs : List Int} {X : List Tb} (hX : TabV p rs X) (hq : TemplV q) (hm : q.mode ≠ 2) (hd : 0 ≤ p.subd ∧ p.subd ≤ 7) (h : SetU p ids l) (hs : s ∈ l) : FitL X (q.with p s) :=
 have ho := with_okU hq hd h hs
 ⟨ho, fun b hb => ⟨hX.ck b hb, (hX.sd b hb).1, (hX.sd b hb).2, ho, hm⟩⟩
theorem fit_run {X : List Tb} {p : Pn} {rs : List Int} (hX : TabV p rs X) {q : Pk} (hF : FitL X q) {r : Int} (hr : r ∈ rs) : runR X q r = (runG X (wt q) [(r, q)] tr0, 0) ∧ (findT X r).isSome := by
 have hf := (hX.rs r).2 hr
 obtain ⟨b, hb⟩ := Option.isSome_iff_exists.1 hf
 have hm := (findT_mem hb).1
 have hFb := hF.all b hm
 refine ⟨?_, hf⟩
 unfold runR
 rw [if_neg (by rw [hX.all, hF.ok]; simp), hb]
 simp only
 rw [if_neg hFb.mode, if_neg (by rw [hFb.sd, hFb.len]; simp)]
theorem fit_lack {X : List Tb} {p : Pn} {rs : List Int} (hX : TabV p rs X) {q : Pk} (hF : FitL X q) {r : Int} (hr : r ∉ rs) : runR X q r = (tr0, 4) := by
 have hf : findT X r = none := by
  cases h : findT X r with
  | none => rfl
  | some b => exact absurd ((hX.rs r).1 (by rw [h]; rfl)) hr
 unfold runR
 rw [if_neg (by rw [hX.all, hF.ok]; simp), hf]
theorem gTempl_mode (T : Tp) : (gTempl T).1.mode ≠ 2 := by
 have : (gTempl T).1.mode = 1 ∨ (gTempl T).1.mode = 3 := by
  unfold gTempl
  generalize gPacket T 0 = R
  dsimp only
  exact gPick_all (p := fun x => x = 1 ∨ x = 3) (by simp) (by simp)
 omega
noncomputable def plen (X : List Tb) (r pl id : Int) : Nat := (pathV X r id pl).1.length
theorem uniF_ok {X : List Tb} {r pl : Int} : ∀ (ids : List Int) (n : Int), (∀ x ∈ ids, (pathV X r x pl).2 = 0) → uniF X r pl ids n = (n + ((ids.map (plen X r pl)).sum : Nat), 0)
 | [], n, _ => by simp [uniF]
 | x :: ids, n, h => by
   rw [uniF, if_pos (h x (by simp)), uniF_ok ids _ fun y hy => h y (by simp [hy])]
   simp only [List.map_cons, List.sum_cons, plen]
   congr 1
   omega
theorem uniF_bad {X : List Tb} {r pl e : Int} (he : e ≠ 0) : ∀ (ids : List Int) (n : Int), (∀ x ∈ ids, (pathV X r x pl).2 = 0 ∨ (pathV X r x pl).2 = e) → (∀ x ∈ ids, (pathV X r x pl).2 = 0) ∨ uniF X r pl ids n = (0, e)
 | [], n, _ => .inl (by simp)
 | x :: ids, n, h => by
   rcases h x (by simp) with hx | hx
   ·rcases uniF_bad he ids (n + (pathV X r x pl).1.length) fun y hy => h y (by simp [hy]) with h1 | h1
    ·exact .inl fun y hy => by
      rcases List.mem_cons.1 hy with rfl | hy
      ·exact hx
      ·exact h1 y hy
    ·exact .inr (by rw [uniF, if_pos hx, h1])
   ·exact .inr (by rw [uniF, if_neg (by rw [hx]; exact he), hx])
theorem path_right {g : Topo} (hg : chkT g = 0) {p : Pn} (hp : planB p = true) {e : Ed} (he : e ∈ p.es) {r pl : Int} (hr : capR g.rs r = true) (hpl : 0 ≤ pl ∧ pl ≤ 7) :
  (∃ ws, Dl (tabs g p g.rs) e.id pl r ws ∧ pathV (tabs g p g.rs) r e.id pl = (ws, 0)) ∨ pathV (tabs g p g.rs) r e.id pl = ([], 9) := by
 have hO := chkT_zero hg
 have hrh := cap_has hO hr
 have hid := hO.id hrh
 unfold inR at hid
 rcases build_hop hg hp he hrh pl with ⟨h1, h2⟩ | ⟨h1, h2, h3, h4⟩ | ⟨h1, h2, h3⟩
 ·refine .inl ⟨[], ?_⟩
  have hD : Dl (tabs g p g.rs) e.id pl r [] := .here (by rw [tabs_find hO, if_pos hr]) h2 (by omega)
  exact ⟨hD, path_of_dl (tabs_all hg hp) hpl hD⟩
 ·obtain ⟨ws, hw, _⟩ := dl_right hg hp he h2 pl _ (Nat.le_refl _) hr h3
  exact .inl ⟨ws, hw, path_of_dl (tabs_all hg hp) hpl hw⟩
 ·refine .inr ?_
  unfold pathV
  rw [if_neg (by rw [tabs_all hg hp]; simp), if_neg (by simpa using hpl)]
  rw [pathG, if_neg (by simp), tabs_find hO, if_pos hr]
  simp only
  rw [if_pos h3]
theorem gPk0_val (T : Tp) : (0 ≤ (gPk0 T).1.subd ∧ (gPk0 T).1.subd ≤ 7) ∧ (0 ≤ (gPk0 T).1.set ∧ (gPk0 T).1.set ≤ 31) ∧ validB (gPk0 T).1.bits (gPk0 T).1.len = true := by
 have e1 : ∃ W, (gPk0 T).1.subd = (gRange W 0 7).1 := by unfold gPk0; dsimp only; exact ⟨_, rfl⟩
 have e2 : ∃ W, (gPk0 T).1.set = (gPick W [0, 0, 1, 2, 31]).1 := by unfold gPk0; dsimp only; exact ⟨_, rfl⟩
 have e3 : ∃ W, (gPk0 T).1.bits = (gBits W (gPk0 T).1.len).1 := by unfold gPk0; dsimp only; exact ⟨_, rfl⟩
 have e4 : (gPk0 T).1.len = (gPick T [8, 8, 16, 32, 64]).1 := by unfold gPk0; dsimp only
 obtain ⟨W1, e1⟩ := e1
 obtain ⟨W2, e2⟩ := e2
 obtain ⟨W3, e3⟩ := e3
 have hl : validLen (gPk0 T).1.len = true := by rw [e4]; exact gPick_all (p := fun x => validLen x = true) (by simp) (by simp [validLen])
 refine ⟨by rw [e1]; exact ⟨gRange_lo _ _ _, gRange_hi _ (by omega)⟩, by rw [e2]; exact gPick_r _ _ 0 31 (by simp) (by simp), validB_of hl fun k hk hb => ?_⟩
 rw [e3] at hb
 exact gBits_full _ hl k hk hb
theorem gTempl_pok (T : Tp) : (gTempl T).1.ok = true := by
 have hv := gTempl_valid T
 have a1 := hv.mode
 have a2 := hv.ttl
 have a3 := hv.ent
 have a4 := hv.ing
 have a5 := hv.proto
 have a6 := hv.pay
 have hP := gPk0_val T
 have h0 : gPacket T 0 = gPk0 T := by simp [gPacket]
 have e1 : (gTempl T).1.subd = (gPk0 T).1.subd := by unfold gTempl; rw [h0]
 have e2 : (gTempl T).1.set = (gPk0 T).1.set := by unfold gTempl; rw [h0]
 have e3 : (gTempl T).1.bits = (gPk0 T).1.bits := by unfold gTempl; rw [h0]
 have e4 : (gTempl T).1.len = (gPk0 T).1.len := by unfold gTempl; rw [h0]
 rw [ok_iff, e1, e2, e3, e4]
 exact ⟨a1, hP.1, hP.2.1, hP.2.2, by omega, a3, a4, a5, a6⟩
theorem with_pln {q : Pk} {p : Pn} {s : Sb} (h1 : q.ok = true) (h2 : (q.with p s).ok = true) : plnP (q.with p s) = plnP q := by
 unfold plnP
 rw [if_pos h1, if_pos h2]; rfl
theorem with_id {q : Pk} {p : Pn} {s : Sb} {ids : List Int} {l : List Sb} (h : SetU p ids l) (hs : s ∈ l) {k : Nat} (hk : k ∈ bitsL s.bits) : idAt (q.with p s) k = s.set * p.len + (k : Int) + 1 := by
 have := h.bit s hs k hk
 unfold idAt
 rw [if_pos (show atB (q.with p s).set k (q.with p s).len = true from this)]; rfl
theorem id_mem {p : Pn} {s : Sb} {ids : List Int} {l : List Sb} (h : SetU p ids l) (hs : s ∈ l) {k : Nat} (hk : k ∈ bitsL s.bits) : s.set * p.len + (k : Int) + 1 ∈ ids := by
 rw [← h.flat, List.mem_flatMap]
 exact ⟨s, hs, List.mem_map.2 ⟨k, hk, rfl⟩⟩
theorem sum_le {f g : Nat → Nat} : ∀ (ks : List Nat), (∀ k ∈ ks, f k ≤ g k) → (ks.map f).sum ≤ (ks.map g).sum
 | [], _ => by simp
 | k :: ks, h => by
   have := sum_le ks fun j hj => h j (by simp [hj])
   have := h k (by simp)
   simp only [List.map_cons, List.sum_cons]; omega
theorem sum_filter (f : Nat → Nat) (q : Nat → Bool) : ∀ ks : List Nat, (ks.map fun k => if q k = true then f k else 0).sum = ((ks.filter q).map f).sum
 | [] => rfl
 | k :: ks => by
   have ih := sum_filter f q ks
   by_cases h : q k = true
   ·simp [h, ih]
   ·simp [h, ih]
theorem flat_sum (f : Int → Nat) (g : Sb → List Int) : ∀ l : List Sb, ((l.flatMap g).map f).sum = (l.map fun s => ((g s).map f).sum).sum
 | [] => rfl
 | s :: l => by simp [flat_sum f g l]
theorem sumI_le {α : Type} {f : α → Int} {g : α → Nat} : ∀ (l : List α), (∀ x ∈ l, f x ≤ (g x : Int)) → (l.map f).sum ≤ ((l.map g).sum : Nat)
 | [], _ => by simp
 | x :: l, h => by
   have := sumI_le l fun y hy => h y (by simp [hy])
   have := h x (by simp)
   simp only [List.map_cons, List.sum_cons]; omega
theorem saves_one {g : Topo} (hg : chkT g = 0) {p : Pn} (hp : planB p = true) (hd : 0 ≤ p.subd ∧ p.subd ≤ 7) {ids : List Int} (hs : ids.Sublist (p.es.map (·.id))) {l : List Sb} (hU : SetU p ids l) {q : Pk} (hq : TemplV q) (hm : q.mode ≠ 2) (hok : q.ok = true) (hn : g.rs.length ≤ 63) {r : Int} (hr : capR g.rs r = true)
  (hall : ∀ x ∈ ids, (pathV (tabs g p g.rs) r x (plnP q)).2 = 0) {s : Sb} (hsl : s ∈ l) :
  (runG (tabs g p g.rs) (wt (q.with p s)) [(r, q.with p s)] tr0).cr.length ≤ ((sbIds p.len s).map (plen (tabs g p g.rs) r (plnP q))).sum := by
 have hO := chkT_zero hg
 have hF := with_fit (tabs_v hg hp) hq hm hd hU hsl
 have hrun := fit_run (tabs_v hg hp) hF ((tabs_rs hO p r).2 hr)
 refine Nat.le_trans (len_sum (fun c : Int × Int × BitVec 64 => c.2.2) _ (run_all hF hrun.2).cr) ?_
 have hpl : 0 ≤ plnP q ∧ plnP q ≤ 7 := by
  unfold plnP; rw [if_pos hok]; have := hq.ent; omega
 have key : ∀ k ∈ List.range 64, ((runG (tabs g p g.rs) (wt (q.with p s)) [(r, q.with p s)] tr0).cr.filter fun c => c.2.2.getLsbD k).length ≤ if s.bits.getLsbD k = true then plen (tabs g p g.rs) r (plnP q) (s.set * p.len + (k : Int) + 1) else 0 := fun k hk => by
  have hk64 : k < 64 := by simpa using hk
  by_cases hb : s.bits.getLsbD k = true
  ·rw [if_pos hb]
   have hkb := mem_bitsL.2 ⟨hk64, hb⟩
   have hmem := id_mem hU hsl hkb
   obtain ⟨e, he, hid⟩ := List.mem_map.1 (hs.subset hmem)
   try simp only at hid
   rcases path_right hg hp he hr hpl with ⟨ws, h1, h2⟩ | h2
   ·rw [hid] at h1 h2
    have h3 := run_cr_at hF hk64 (show (q.with p s).bits.getLsbD k = true from hb) (r := r) (ws := ws) (by rw [with_id hU hsl hkb, with_pln hok hF.ok]; exact h1) (by
     have l2 := h1.len
     have l3 := tabs_len g p
     show (ws.length : Int) ≤ q.ttl
     rw [hq.ttl]; omega)
    have h4 := congrArg List.length h3
    rw [List.length_map, edges_len] at h4
    rw [h4, plen, h2]
    exact Nat.le_refl _
   ·have := hall _ hmem
    rw [← hid, h2] at this
    simp at this
  ·rw [if_neg hb]
   have := (run_bit hF r hk64).2
   rw [if_neg (show ¬ (q.with p s).bits.getLsbD k = true from hb)] at this
   exact this
 refine Nat.le_trans (sum_le _ key) ?_
 rw [sum_filter (fun k => plen (tabs g p g.rs) r (plnP q) (s.set * p.len + (k : Int) + 1)) (fun k => s.bits.getLsbD k) (List.range 64)]
 unfold sbIds
 rw [List.map_map]
 exact Nat.le_refl _
theorem saves_all {g : Topo} (hg : chkT g = 0) {p : Pn} (hp : planB p = true) (hd : 0 ≤ p.subd ∧ p.subd ≤ 7) {ids : List Int} (hs : ids.Sublist (p.es.map (·.id))) {l : List Sb} (hU : SetU p ids l) {q : Pk} (hq : TemplV q) (hm : q.mode ≠ 2) (hok : q.ok = true) (hn : g.rs.length ≤ 63) {r : Int} (hr : capR g.rs r = true) :
  ∃ ts, sendR (tabs g p g.rs) p r ids q = (ts, 0) ∧ 0 ≤ crSum ts ∧ ((uniF (tabs g p g.rs) r (plnP q) ids 0 = (0, 9)) ∨ ∃ n : Nat, uniF (tabs g p g.rs) r (plnP q) ids 0 = ((n : Int), 0) ∧ crSum ts ≤ n) := by
 have hO := chkT_zero hg
 have hT := tabs_v hg hp
 have hrun : ∀ s ∈ l, runR (tabs g p g.rs) (q.with p s) r = (runG (tabs g p g.rs) (wt (q.with p s)) [(r, q.with p s)] tr0, 0) := fun s h => (fit_run hT (with_fit hT hq hm hd hU h) ((tabs_rs hO p r).2 hr)).1
 have hpk := packR_ok hq hd hU
 refine ⟨(l.map (q.with p)).map fun x => (runR (tabs g p g.rs) x r).1, ?_, ?_, ?_⟩
 ·unfold sendR
  rw [hpk, if_pos rfl, sendL_ok _ [] fun x hx => ?_, List.nil_append]
  obtain ⟨s, h1, rfl⟩ := List.mem_map.1 hx
  rw [hrun s h1]
 ·unfold crSum
  rw [List.map_map]
  generalize (l.map (q.with p)) = ps
  induction ps with
  | nil => simp
  | cons x ps ih => rw [List.map_cons, List.sum_cons]; have h0 : (0 : Int) ≤ ((fun t : Trc => (t.cr.length : Int)) ∘ fun x => (runR (tabs g p g.rs) x r).1) x := Int.natCast_nonneg _; omega
 ·have hpl : 0 ≤ plnP q ∧ plnP q ≤ 7 := by
   unfold plnP; rw [if_pos hok]; have := hq.ent; omega
  have hcase : ∀ x ∈ ids, (pathV (tabs g p g.rs) r x (plnP q)).2 = 0 ∨ (pathV (tabs g p g.rs) r x (plnP q)).2 = 9 := fun x hx => by
   obtain ⟨e, he, hid⟩ := List.mem_map.1 (hs.subset hx)
   try simp only at hid
   rw [← hid]
   rcases path_right hg hp he hr hpl with ⟨ws, h1, h2⟩ | h2
   ·exact .inl (by rw [h2])
   ·exact .inr (by rw [h2])
  rcases uniF_bad (e := 9) (by omega) ids 0 hcase with h | h
  ·refine .inr ⟨_, by rw [uniF_ok ids 0 h, Int.zero_add], ?_⟩
   have hfl := congrArg (fun L => (L.map (plen (tabs g p g.rs) r (plnP q))).sum) hU.flat
   rw [← hfl, flat_sum]
   unfold crSum
   rw [List.map_map, List.map_map]
   refine sumI_le l fun s hsl => ?_
   have := saves_one hg hp hd hs hU hq hm hok hn hr h hsl
   simp only [Function.comp]
   rw [hrun s hsl]
   simp only
   omega
  ·exact .inl h
end Go.Proofs

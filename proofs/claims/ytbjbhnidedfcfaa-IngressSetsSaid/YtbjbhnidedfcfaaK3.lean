/-
  What functions of the program compute, stated as contracts over plain data; the conditions of each stand in its own statement.
-/
import Derived.Test.YtbjbhnidedfcfaaK2
set_option linter.unusedSimpArgs false
set_option maxRecDepth 100000
set_option maxHeartbeats 400000
namespace Go.Proofs
open Go Go.Tr

theorem hasB_lsb (B : BitVec 64) (k : Nat) : hasB B k = B.getLsbD k := by
  rw [Bool.eq_iff_iff]
  simp only [hasB, decide_eq_true_eq]
  constructor
  · intro h
    have := congrArg (fun x => BitVec.getLsbD x 0) h
    simpa using this
  · intro h
    apply BitVec.eq_of_getLsbD_eq
    intro i hi
    by_cases h0 : i = 0
    · subst h0; simp [h]
    · simp [h0]
theorem hasB_or (B : BitVec 64) {k : Int} (hk : 0 ≤ k ∧ k < 64) (j : Nat) (hj : j < 64) : hasB (B ||| bitB k) j = (hasB B j || decide ((j : Int) = k)) := by
  have e : IntKind.u64.wrap k = k := by rw [wrap_emod]; omega
  rw [hasB_lsb, hasB_lsb, BitVec.getLsbD_or, bitB, if_neg (by omega), e]
  have : (1#64 <<< k.toNat).getLsbD j = decide ((j : Int) = k) := by
    rw [Bool.eq_iff_iff]
    simp [hj]
    omega
  rw [this]
theorem hasB_bit {k : Int} (hk : 0 ≤ k ∧ k < 64) (j : Nat) (hj : j < 64) : hasB (bitB k) j = decide ((j : Int) = k) := by
  have := hasB_or 0#64 hk j hj
  rw [BitVec.zero_or] at this
  rw [this, hasB_lsb]
  simp
theorem cnt_more {B C : BitVec 64} {k : Nat} (hk : hasB B k = false) (h : ∀ j, j < 64 → hasB C j = (hasB B j || decide (j = k))) : ∀ n, n ≤ 64 → (listN C n).length = (listN B n).length + if k < n then 1 else 0
  | 0, _ => by simp [listN]
  | n + 1, hn => by
    have ih := cnt_more hk h n (by omega)
    have hc := h n (by omega)
    simp only [listN, List.length_append, ih]
    by_cases e : n = k
    · subst e
      simp [hc, hk]
    · rw [hc, show decide (n = k) = false by simpa using e, Bool.or_false]
      have : (k < n + 1) = (k < n) := by simp only [eq_iff_iff]; omega
      simp only [this]
      omega
theorem listN_mem {B : BitVec 64} {x : Int} : ∀ {n : Nat}, x ∈ listN B n → ∃ k, k < n ∧ x = k ∧ hasB B k = true
  | 0, h => by simp [listN] at h
  | n + 1, h => by
    simp only [listN, List.mem_append] at h
    rcases h with h | h
    · obtain ⟨k, h1, h2, h3⟩ := listN_mem h
      exact ⟨k, by omega, h2, h3⟩
    · split at h
      · rename_i hb
        simp at h
        exact ⟨n, by omega, h, hb⟩
      · simp at h
theorem listN_zero : ∀ n, (listN 0#64 n).length = 0
  | 0 => rfl
  | n + 1 => by
    have : hasB 0#64 n = false := by rw [hasB_lsb]; simp
    simp [listN, this]
    simpa using listN_zero n

def sumC (l : List Sb) : Nat := (l.map fun s => (listN s.bits 64).length).sum
theorem sumC_app (a b : List Sb) : sumC (a ++ b) = sumC a + sumC b := by simp [sumC]

/-- what has been reckoned after some IDs -/
structure SbI (len : Int) (done : List Int) (l : List Sb) : Prop where
  asc : l.Pairwise fun a b => a.set < b.set
  bit : ∀ s ∈ l, ∀ k, k < 64 → (hasB s.bits k = true ↔ ∃ id ∈ done, plSet id len = s.set ∧ plBit id len = k)
  set : ∀ s ∈ l, ∃ id ∈ done, plSet id len = s.set
  sum : sumC l = done.length
  all : ∀ id ∈ done, ∃ s ∈ l, s.set = plSet id len

theorem pl_id {len id : Int} (hl : validLen len = true) (hi : 1 ≤ id ∧ id ≤ 256) : plSet id len = (id - 1) / len ∧ plBit id len = (id - 1) % len ∧ plSet id len * len + plBit id len + 1 = id ∧ plBit id len < len := by
  have hL : len = 8 ∨ len = 16 ∨ len = 32 ∨ len = 64 := by simp [validLen] at hl; omega
  have h1 : inB id 1 256 = true := by simp [inB, hi]
  have e1 : plSet id len = (id - 1) / len := by simp [plSet, hl, h1]
  have e2 : plBit id len = (id - 1) % len := by simp [plBit, hl, h1]
  rw [e1, e2]
  refine ⟨rfl, rfl, ?_, ?_⟩
  · rcases hL with rfl | rfl | rfl | rfl <;> omega
  · rcases hL with rfl | rfl | rfl | rfl <;> omega
theorem pl_mono {len a b : Int} (hl : validLen len = true) (ha : 1 ≤ a ∧ a ≤ 256) (hb : 1 ≤ b ∧ b ≤ 256) (h : a < b) : plSet a len ≤ plSet b len := by
  rw [(pl_id hl ha).1, (pl_id hl hb).1]
  have hL : len = 8 ∨ len = 16 ∨ len = 32 ∨ len = 64 := by simp [validLen] at hl; omega
  rcases hL with rfl | rfl | rfl | rfl <;> omega

theorem sb_step {len : Int} (hl : validLen len = true) {done : List Int} {l : List Sb} {x : Int} (h : SbI len done l) (hr : ∀ y ∈ done, 1 ≤ y ∧ y ≤ 256) (hx : 1 ≤ x ∧ x ≤ 256) (hlt : ∀ y ∈ done, y < x) : SbI len (done ++ [x]) (sbPut l (plSet x len) (bitB (plBit x len))) := by
  have hB := plB x len
  have hnew : ∀ k, k < 64 → (hasB (bitB (plBit x len)) k = true ↔ ∃ id ∈ [x], plSet id len = plSet x len ∧ plBit id len = k) := fun k hk => by
    rw [hasB_bit ⟨hB.2.2.1, hB.2.2.2⟩ k hk]
    simp
    omega
  have hcount : (listN (bitB (plBit x len)) 64).length = 1 := by
    obtain ⟨kn, hkn⟩ : ∃ kn : Nat, plBit x len = kn := ⟨(plBit x len).toNat, by omega⟩
    have := cnt_more (B := 0#64) (C := bitB (plBit x len)) (k := kn) (by rw [hasB_lsb]; simp) (fun j hj => by
      rw [hasB_bit ⟨hB.2.2.1, hB.2.2.2⟩ j hj, hkn, hasB_lsb]
      simp
      omega) 64 (by omega)
    rw [this, listN_zero]
    rw [if_pos (by omega)]
  rcases List.eq_nil_or_concat l with rfl | ⟨pre, y, rfl⟩
  · have hd : done = [] := by
      have := h.sum
      simp [sumC] at this
      exact List.length_eq_zero_iff.1 this.symm
    subst hd
    rw [sbPut_nil]
    refine ⟨by simp, fun s hs k hk => ?_, fun s hs => ?_, ?_, fun id hid => ?_⟩
    · simp at hs; subst hs
      simpa using hnew k hk
    · simp at hs; subst hs
      exact ⟨x, by simp, rfl⟩
    · simp [sumC, hcount]
    · simp at hid; subst hid
      exact ⟨_, List.mem_singleton.2 rfl, rfl⟩
  · rw [List.concat_eq_append] at *
    obtain ⟨z, hz, hzs⟩ := h.set y (by simp)
    have hle : y.set ≤ plSet x len := by rw [← hzs]; exact pl_mono hl (hr z hz) hx (hlt z hz)
    have hpw := List.pairwise_append.1 h.asc
    have hpre : ∀ s ∈ pre, s.set < y.set := fun s hs => hpw.2.2 s hs y (by simp)
    by_cases hs : y.set = plSet x len
    · rw [← hs, sbPut_same]
      obtain ⟨kn, hkn⟩ : ∃ kn : Nat, plBit x len = kn := ⟨(plBit x len).toNat, by omega⟩
      have hno : hasB y.bits kn = false := by
        rw [Bool.eq_false_iff]
        intro hb
        obtain ⟨id, hid, e1, e2⟩ := (h.bit y (by simp) kn (by omega)).1 hb
        have p1 := (pl_id hl (hr id hid)).2.2.1
        have p2 := (pl_id hl hx).2.2.1
        rw [e1, hs, e2, ← hkn, p2] at p1
        have := hlt id hid
        omega
      refine ⟨?_, fun s hm k hk => ?_, fun s hm => ?_, ?_, fun id hid => ?_⟩
      · rw [List.pairwise_append]
        exact ⟨hpw.1, by simp, fun a ha b hb => by simp at hb; subst hb; exact hpre a ha⟩
      · simp only [List.mem_append, List.mem_singleton] at hm
        rcases hm with hm | rfl
        · rw [h.bit s (by simp [hm]) k hk]
          constructor
          · rintro ⟨id, h1, h2⟩; exact ⟨id, by simp [h1], h2⟩
          · rintro ⟨id, h1, h2, h3⟩
            simp only [List.mem_append, List.mem_singleton] at h1
            rcases h1 with h1 | rfl
            · exact ⟨id, h1, h2, h3⟩
            · have := hpre s hm; omega
        · rw [hasB_or _ ⟨hB.2.2.1, hB.2.2.2⟩ k hk, Bool.or_eq_true, h.bit y (by simp) k hk]
          simp only [decide_eq_true_eq]
          constructor
          · rintro (⟨id, h1, h2⟩ | h1)
            · exact ⟨id, by simp [h1], h2⟩
            · exact ⟨x, by simp, hs.symm, h1.symm⟩
          · rintro ⟨id, h1, h2, h3⟩
            simp only [List.mem_append, List.mem_singleton] at h1
            rcases h1 with h1 | rfl
            · exact .inl ⟨id, h1, h2, h3⟩
            · exact .inr h3.symm
      · simp only [List.mem_append, List.mem_singleton] at hm
        rcases hm with hm | rfl
        · obtain ⟨id, h1, h2⟩ := h.set s (by simp [hm])
          exact ⟨id, by simp [h1], h2⟩
        · exact ⟨x, by simp, hs.symm⟩
      · have hsum := h.sum
        rw [sumC_app] at hsum ⊢
        have hc := cnt_more (B := y.bits) (C := y.bits ||| bitB (plBit x len)) (k := kn) hno (fun j hj => by
          rw [hasB_or _ ⟨hB.2.2.1, hB.2.2.2⟩ j hj, hkn]
          rw [show decide ((j : Int) = (kn : Int)) = decide (j = kn) by rw [decide_eq_decide]; omega]) 64 (by omega)
        rw [if_pos (by omega)] at hc
        simp only [sumC, List.map_cons, List.map_nil, List.sum_cons, List.sum_nil, List.length_append, List.length_singleton] at hsum ⊢
        omega
      · simp only [List.mem_append, List.mem_singleton] at hid
        rcases hid with hid | rfl
        · obtain ⟨s, h1, h2⟩ := h.all id hid
          simp only [List.mem_append, List.mem_singleton] at h1
          rcases h1 with h1 | rfl
          · exact ⟨s, by simp [h1], h2⟩
          · exact ⟨⟨s.set, s.bits ||| bitB (plBit x len)⟩, by simp, h2⟩
        · exact ⟨⟨y.set, y.bits ||| bitB (plBit id len)⟩, by simp, hs⟩
    · rw [sbPut_new _ _ hs]
      refine ⟨?_, fun s hm k hk => ?_, fun s hm => ?_, ?_, fun id hid => ?_⟩
      · rw [List.pairwise_append]
        refine ⟨h.asc, by simp, fun a ha b hb => ?_⟩
        simp at hb; subst hb
        simp only [List.mem_append, List.mem_singleton] at ha
        rcases ha with ha | rfl
        · have := hpre a ha; show a.set < plSet x len; omega
        · show a.set < plSet x len; omega
      · simp only [List.mem_append, List.mem_singleton] at hm
        have hold : ∀ s, s ∈ pre ++ [y] → s.set ≤ y.set := fun s hs => by
          simp only [List.mem_append, List.mem_singleton] at hs
          rcases hs with hs | rfl
          · have := hpre s hs; omega
          · omega
        rcases hm with hm | rfl
        · have hm' : s ∈ pre ++ [y] := by simpa using hm
          rw [h.bit s hm' k hk]
          constructor
          · rintro ⟨id, h1, h2⟩; exact ⟨id, by simp [h1], h2⟩
          · rintro ⟨id, h1, h2, h3⟩
            simp only [List.mem_append, List.mem_singleton] at h1
            rcases h1 with h1 | rfl
            · exact ⟨id, h1, h2, h3⟩
            · have := hold s hm'; omega
        · rw [hnew k hk]
          constructor
          · rintro ⟨id, h1, h2⟩; exact ⟨id, by simp at h1; simp [h1], h2⟩
          · rintro ⟨id, h1, h2, h3⟩
            simp only [List.mem_append, List.mem_singleton] at h1
            rcases h1 with h1 | rfl
            · exfalso
              -- an ID of the new set, though it lies before
              have h4 : id < x := hlt id h1
              obtain ⟨s, hs1, hs2⟩ := h.all id h1
              have h2' : plSet id len = plSet x len := h2
              have := hold s hs1
              omega
            · exact ⟨id, by simp, h2, h3⟩
      · simp only [List.mem_append, List.mem_singleton] at hm
        rcases hm with hm | rfl
        · obtain ⟨id, h1, h2⟩ := h.set s (by simpa using hm)
          exact ⟨id, by simp [h1], h2⟩
        · exact ⟨x, by simp, rfl⟩
      · have hsum := h.sum
        rw [sumC_app, hsum]
        simp [sumC, hcount]
      · simp only [List.mem_append, List.mem_singleton] at hid
        rcases hid with hid | rfl
        · obtain ⟨s, h1, h2⟩ := h.all id hid
          exact ⟨s, List.mem_append.2 (.inl h1), h2⟩
        · exact ⟨⟨plSet id len, bitB (plBit id len)⟩, by simp, rfl⟩

theorem sb_all {len : Int} (hl : validLen len = true) : ∀ (ids done : List Int) (l : List Sb), SbI len done l → (∀ y ∈ done ++ ids, 1 ≤ y ∧ y ≤ 256) → (done ++ ids).Pairwise (fun a b => a < b) → SbI len (done ++ ids) (sbAll len ids l)
  | [], done, l, h, _, _ => by simpa [sbAll] using h
  | x :: ids, done, l, h, hr, hp => by
    rw [sbAll]
    have h1 := sb_step hl h (fun y hy => hr y (by simp [hy])) (hr x (by simp)) (fun y hy => (List.pairwise_append.1 hp).2.2 y hy x (by simp))
    have := sb_all hl ids (done ++ [x]) _ h1 (fun y hy => hr y (by simpa using hy)) (by simpa using hp)
    simpa using this

theorem fullB_bit {len : Int} (hl : validLen len = true) {i : Nat} (hi : i < 64) (h : (i : Int) < len) : (fullB len).getLsbD i = true := by
  have h8 : ∀ i, i < 8 → (fullB 8).getLsbD i = true := by decide
  have h16 : ∀ i, i < 16 → (fullB 16).getLsbD i = true := by decide
  have h32 : ∀ i, i < 32 → (fullB 32).getLsbD i = true := by decide
  have h64 : ∀ i, i < 64 → (fullB 64).getLsbD i = true := by decide
  have hL : len = 8 ∨ len = 16 ∨ len = 32 ∨ len = 64 := by simp [validLen] at hl; omega
  rcases hL with rfl | rfl | rfl | rfl
  · exact h8 i (by omega)
  · exact h16 i (by omega)
  · exact h32 i (by omega)
  · exact h64 i (by omega)
theorem valid_low {B : BitVec 64} {len : Int} (hl : validLen len = true) (h : ∀ k, k < 64 → hasB B k = true → (k : Int) < len) : validB B len = true := by
  simp only [validB, hl, Bool.true_and, decide_eq_true_eq]
  apply BitVec.eq_of_getLsbD_eq
  intro i hi
  rw [BitVec.getLsbD_and, BitVec.getLsbD_not]
  cases hb : B.getLsbD i with
  | false => simp
  | true =>
    have := fullB_bit hl hi (h i hi (by rw [hasB_lsb]; exact hb))
    simp [this]

/-- a list of sets, as the law asks for it -/
structure SetsV (p : Pn) (n : Nat) (l : List Sb) : Prop where
  asc : l.Pairwise fun a b => a.set < b.set
  nm : ∀ s ∈ l, ∃ out, namesR p s = (out, 0) ∧ out.length = (listN s.bits 64).length
  ne : ∀ s ∈ l, 0 < (listN s.bits 64).length
  set : ∀ s ∈ l, 0 ≤ s.set ∧ s.set ≤ 31
  val : ∀ s ∈ l, validB s.bits p.len = true
  sum : sumC l = n

theorem nmAll_ok (p : Pn) (s : Int) : ∀ (L out : List Int), (∀ k ∈ L, atB s k p.len = true ∧ knownB p (s * p.len + k + 1) = true) → ∃ r, nmAll p s L out = (r, 0) ∧ r.length = out.length + L.length
  | [], out, _ => ⟨out, rfl, by simp⟩
  | k :: L, out, h => by
    obtain ⟨h1, h2⟩ := h k (by simp)
    rw [nmAll, if_pos (by simp [h1, h2])]
    obtain ⟨r, h3, h4⟩ := nmAll_ok p s L (out ++ [s * p.len + k + 1]) fun k hk => h k (by simp [hk])
    exact ⟨r, h3, by simp at h4 ⊢; omega⟩

theorem listN_ne {B : BitVec 64} {k : Nat} (hb : hasB B k = true) : ∀ {n : Nat}, k < n → 0 < (listN B n).length
  | 0, h => by omega
  | n + 1, h => by
    simp only [listN, List.length_append]
    by_cases e : k = n
    · subst e; simp [hb]
    · have := listN_ne hb (n := n) (by omega); omega

theorem setsV_of {rs : List Rt} {p : Pn} (hv : PlanV rs p) {ids : List Int} (hs : ids.Sublist (p.es.map (·.id))) : setsR p ids = (sbAll p.len ids [], 0) ∧ SetsV p ids.length (sbAll p.len ids []) := by
  have hpw : ids.Pairwise fun a b => a < b := by
    refine List.Pairwise.sublist hs ?_
    rw [List.pairwise_map]
    exact hv.asc
  have hr : ∀ y ∈ ids, 1 ≤ y ∧ y ≤ 256 := fun y hy => by
    obtain ⟨e, he, rfl⟩ := List.mem_map.1 (hs.subset hy)
    exact hv.ids e he
  have hk : ∀ y ∈ ids, knownB p y = true := fun y hy => by
    obtain ⟨e, he, rfl⟩ := List.mem_map.1 (hs.subset hy)
    simp only [knownB, List.find?_isSome]
    exact ⟨e, he, by simp⟩
  have hI := sb_all hv.len ids [] [] ⟨by simp, by simp, by simp, by simp [sumC], by simp⟩ (by simpa using hr) (by simpa using hpw)
  rw [List.nil_append] at hI
  refine ⟨?_, hI.asc, fun s hs' => ?_, fun s hs' => ?_, fun s hs' => ?_, fun s hs' => ?_, hI.sum⟩
  · have hasc : ascB ids = true := by
      simp only [ascB, decide_eq_true_eq]
      intro i h0 hi
      have := List.pairwise_iff_getElem.1 hpw (i - 1) i (by omega) hi (by omega)
      simpa [List.getD, hi, show i - 1 < ids.length by omega] using this
    have hall : ids.all (knownB p) = true := by rw [List.all_eq_true]; exact hk
    simp [setsR, planB_of hv, hasc, hall]
  · have hbit : ∀ k ∈ listN s.bits 64, atB s.set k p.len = true ∧ knownB p (s.set * p.len + k + 1) = true := fun k hk' => by
      obtain ⟨j, hj, rfl, hb⟩ := listN_mem hk'
      obtain ⟨id, h1, h2, h3⟩ := (hI.bit s hs' j hj).1 hb
      have hid := hr id h1
      have hp := pl_id hv.len hid
      have hB := plB id p.len
      rw [h2, h3] at hp
      have hset : s.set ≤ 31 := by
        rw [hp.1]
        have hL : p.len = 8 ∨ p.len = 16 ∨ p.len = 32 ∨ p.len = 64 := by have := hv.len; simp [validLen] at this; omega
        rcases hL with hL | hL | hL | hL <;> rw [hL] <;> omega
      rw [h2, h3] at hB
      refine ⟨?_, by rw [hp.2.2.1]; exact hk id h1⟩
      have h4 : s.set * p.len + (j : Int) + 1 ≤ 256 := by rw [hp.2.2.1]; exact hid.2
      simp only [atB, hv.len, inB, Bool.true_and, Bool.and_eq_true, decide_eq_true_eq]
      refine ⟨⟨by omega, by omega⟩, ⟨by omega, hset⟩, h4⟩
    obtain ⟨r, h1, h2⟩ := nmAll_ok p s.set (listN s.bits 64) [] hbit
    exact ⟨r, by simp [namesR, planB_of hv, h1], by simpa using h2⟩
  · obtain ⟨id, h1, h2⟩ := hI.set s hs'
    have hB := plB id p.len
    obtain ⟨k, hk'⟩ : ∃ k : Nat, plBit id p.len = k := ⟨(plBit id p.len).toNat, by omega⟩
    exact listN_ne ((hI.bit s hs' k (by omega)).2 ⟨id, h1, h2, hk'⟩) (by omega)
  · obtain ⟨id, h1, h2⟩ := hI.set s hs'
    have hid := hr id h1
    have hp := pl_id hv.len hid
    rw [← h2, hp.1]
    have hL : p.len = 8 ∨ p.len = 16 ∨ p.len = 32 ∨ p.len = 64 := by have := hv.len; simp [validLen] at this; omega
    rcases hL with hL | hL | hL | hL <;> rw [hL] <;> omega
  · refine valid_low hv.len fun k hk' hb => ?_
    obtain ⟨id, h1, h2, h3⟩ := (hI.bit s hs' k hk').1 hb
    have hp := pl_id hv.len (hr id h1)
    omega
end Go.Proofs

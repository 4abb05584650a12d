/-
  What functions of the program compute, stated as contracts over plain data; the conditions of each stand in its own statement.
-/
import Derived.Test.YtkhneohilohhiaaC13
set_option linter.unusedSimpArgs false
namespace Go.Proofs
open Go Go.Tr

theorem bget_put (m : Mk) (k n : Int) (d : BitVec 64) : bget (bput m k d) n = if n = k then d else bget m n := by
  induction m with
  | nil =>
    by_cases e : n = k <;> simp [bput, bget, e]
  | cons a m ih =>
    obtain ⟨k', d'⟩ := a
    simp only [bput]
    by_cases e : k = k'
    · subst e
      rw [if_pos rfl]
      by_cases e2 : n = k <;> simp [bget, e2]
    · rw [if_neg e]
      by_cases e2 : n = k'
      · have e3 : ¬ n = k := fun h => e (by rw [← h, e2])
        simp only [bget, List.find?_cons, decide_eq_true e2, if_neg e3]
      · simp only [bget, List.find?_cons, decide_eq_false e2] at ih ⊢
        exact ih
theorem bit_one {j k : Nat} (hj : j < 64) (hk : k < 64) : (1#64 <<< j).getLsbD k = decide (k = j) := by
  rw [BitVec.getLsbD_shiftLeft]
  by_cases e : k = j
  · subst e; simp [hk]
  · simp [hk, e]
    omega
theorem coll_bit (b : Tb) (p s n : Int) {k : Nat} (hk : k < 64) : ∀ (l : List Rw) (m : Mk), (bget (l.foldl (colStep b p s) m) n).getLsbD k = true ↔ (bget m n).getLsbD k = true ∨ ∃ x ∈ l, plSet x.id b.len = s ∧ plBit x.id b.len = k ∧ hopR x p = n ∧ n ≠ 0
  | [], m => by simp
  | x :: l, m => by
    rw [List.foldl_cons, coll_bit b p s n hk l]
    have hpl := plB x.id b.len
    have hs : (bget (colStep b p s m x) n).getLsbD k = true ↔ (bget m n).getLsbD k = true ∨ (plSet x.id b.len = s ∧ plBit x.id b.len = k ∧ hopR x p = n ∧ n ≠ 0) := by
      unfold colStep
      split
      · rename_i hc
        rw [bget_put]
        by_cases e : n = hopR x p
        · rw [if_pos e, BitVec.getLsbD_or, bit_one (by omega) hk, Bool.or_eq_true, decide_eq_true_eq, ← e]
          constructor
          · rintro (h | h)
            · exact .inl h
            · exact .inr ⟨hc.1, by omega, rfl, by rw [e]; exact hc.2⟩
          · rintro (h | h)
            · exact .inl h
            · exact .inr (by omega)
        · rw [if_neg e]
          constructor
          · exact .inl
          · rintro (h | h)
            · exact h
            · exact absurd h.2.2.1.symm e
      · rename_i hc
        constructor
        · exact .inl
        · rintro (h | h)
          · exact h
          · exact absurd ⟨h.1, by rw [h.2.2.1]; exact h.2.2.2⟩ hc
    rw [hs]
    simp only [List.mem_cons, exists_eq_or_imp, or_assoc]
theorem bitB_bit {k j : Nat} (hk : k < 64) (hj : j < 64) : (bitB k).getLsbD j = decide (j = k) := by
  unfold bitB
  rw [if_neg (by omega), wrap_emod]
  have : ((k : Int) % 18446744073709551616).toNat = k := by omega
  rw [this, bit_one hk hj]
theorem bitsR_bit (b : Tb) (p s n : Int) {j : Nat} (hj : j < 64) : ∀ K : Nat, K ≤ 64 → ((bitsR b p s n K).getLsbD j = true ↔ j < K ∧ atB s j b.len = true ∧ 0 < n ∧ hopB b (s * b.len + j + 1) p = n)
  | 0, _ => by simp [bitsR]
  | K + 1, hK => by
    have ih := bitsR_bit b p s n hj K (by omega)
    rw [bitsR]
    split
    · rename_i hc
      rw [BitVec.getLsbD_or, bitB_bit (by omega) hj, Bool.or_eq_true, decide_eq_true_eq, ih]
      constructor
      · rintro (h | h)
        · exact ⟨by omega, h.2⟩
        · subst h; exact ⟨by omega, hc⟩
      · rintro ⟨h1, h2⟩
        by_cases e : j = K
        · exact .inr e
        · exact .inl ⟨by omega, h2⟩
    · rename_i hc
      rw [ih]
      constructor
      · rintro ⟨h1, h2⟩; exact ⟨by omega, h2⟩
      · rintro ⟨h1, h2⟩
        by_cases e : j = K
        · subst e; exact absurd h2 hc
        · exact ⟨by omega, h2⟩
theorem chk_asc {b : Tb} (h : chk b = 0) : b.asc := Classical.byContradiction fun g => by
  unfold chk at h
  split at h
  · simp at h
  split at h
  · simp at h
  split at h
  · simp at h
  split at h
  · simp at h
  simp at h
theorem rowOf_mem {b : Tb} (h : chk b = 0) {x : Rw} (hx : x ∈ b.rows) : rowOf b x.id = some x := by
  have hasc := (chk_asc h).1
  unfold rowOf
  have : ∀ l : List Rw, (l.map (·.id)).Pairwise (· < ·) → x ∈ l → l.find? (fun y => decide (y.id = x.id)) = some x := by
    intro l
    induction l with
    | nil => intro _ h; simp at h
    | cons y l ih =>
      intro hp hm
      rw [List.map_cons, List.pairwise_cons] at hp
      by_cases e : y.id = x.id
      · rcases List.mem_cons.1 hm with rfl | hm
        · simp
        · have := hp.1 x.id (List.mem_map_of_mem hm)
          omega
      · rw [List.find?_cons, decide_eq_false e]
        rcases List.mem_cons.1 hm with rfl | hm
        · exact absurd rfl e
        · exact ih hp.2 hm
  exact this b.rows hasc hx
theorem maskP_eq (b : Tb) (p s n : Int) : maskP b p s n = maskR b p s n := by
  unfold maskP maskR
  by_cases hv : valB b p s = true
  · obtain ⟨hc, hp, hs⟩ := valB_iff.1 hv
    have hl := chk_len2 hc
    rw [if_pos hv]
    apply BitVec.eq_of_getLsbD_eq
    intro k hk
    rw [Bool.eq_iff_iff, show coll b p s = b.rows.foldl (colStep b p s) [] from rfl, coll_bit b p s n hk]
    have h0 : ¬ (bget [] n).getLsbD k = true := by simp [bget]
    by_cases hn : 1 ≤ n ∧ n ≤ 99
    · rw [if_pos ⟨hv, hn⟩, bitsR_bit b p s n hk _ (by omega)]
      constructor
      · rintro (h | ⟨x, hx, h1, h2, h3, h4⟩)
        · exact absurd h h0
        · have hid := (chk_next hc x hx).1
          have hvl : validLen b.len = true := by
            rcases chk_len hc with g | g
            · exact g
            · rw [List.length_eq_zero_iff.1 g.2] at hx; simp at hx
          have hin : inB x.id 1 256 = true := by simp [inB, hid]
          have hlp : 0 < b.len := by simp [validLen] at hvl; omega
          simp only [plSet, plBit, hvl, hin, Bool.and_self, if_true] at h1 h2
          have hde := Int.mul_ediv_add_emod (x.id - 1) b.len
          have hmul : b.len * ((x.id - 1) / b.len) = s * b.len := by rw [h1, Int.mul_comm]
          have hml := Int.emod_lt_of_pos (x.id - 1) hlp
          have he : s * b.len + k + 1 = x.id := by omega
          refine ⟨by omega, ?_, by omega, ?_⟩
          · simp only [atB, hvl, inB, Bool.true_and, Bool.and_eq_true, decide_eq_true_eq]
            exact ⟨by omega, by omega, by omega⟩
          · rw [he, hopB, rowOf_mem hc hx]; exact h3
      · rintro ⟨h1, h2, h3, h4⟩
        refine .inr ?_
        simp only [atB, Bool.and_eq_true, decide_eq_true_eq, inB] at h2
        obtain ⟨hvl, ⟨h5, h6⟩, _, h8⟩ := h2
        unfold hopB at h4
        cases hr : rowOf b (s * b.len + k + 1) with
        | none => rw [hr] at h4; simp [hopR] at h4; omega
        | some x =>
          rw [hr] at h4
          have hx : x ∈ b.rows := List.mem_of_find?_eq_some hr
          have hid : x.id = s * b.len + k + 1 := by simpa using List.find?_some hr
          have hlp : 0 < b.len := by simp [validLen] at hvl; omega
          have hi0 : x.id - 1 = k + s * b.len := by omega
          have hin : inB x.id 1 256 = true := by have := (chk_next hc x hx).1; simp [inB, this]
          refine ⟨x, hx, ?_, ?_, h4, by omega⟩
          · simp only [plSet, hvl, hin, Bool.and_self, if_true]
            rw [hi0, Int.add_mul_ediv_right _ _ (by omega), Int.ediv_eq_zero_of_lt (by omega) (by omega)]
            omega
          · simp only [plBit, hvl, hin, Bool.and_self, if_true]
            rw [hi0, Int.add_mul_emod_self_right]
            exact Int.emod_eq_of_lt (by omega) (by omega)
    · rw [if_neg fun h => hn h.2]
      constructor
      · rintro (h | ⟨x, hx, h1, h2, h3, h4⟩)
        · exact absurd h h0
        · have hm := hopR_mem (x := x) (p := p) (by rw [h3]; exact h4)
          rw [h3] at hm
          exact absurd ((chk_next hc x hx).2 n hm) hn
      · intro h; simp at h
  · rw [if_neg hv, if_neg fun h => hv h.1]
theorem bput_nodup {m : Mk} (k : Int) (d : BitVec 64) (h : (m.map (·.1)).Nodup) : ((bput m k d).map (·.1)).Nodup ∧ ∀ n, n ∈ (bput m k d).map (·.1) ↔ n ∈ m.map (·.1) ∨ n = k := by
  induction m with
  | nil => simp [bput]
  | cons a m ih =>
    obtain ⟨k', d'⟩ := a
    simp only [List.map_cons, List.nodup_cons] at h
    obtain ⟨h1, h2⟩ := ih h.2
    simp only [bput]
    split
    · rename_i e
      subst e
      refine ⟨by simpa using h, fun n => ?_⟩
      simp only [List.map_cons, List.mem_cons]
      constructor
      · exact .inl
      · rintro (g | g)
        · exact g
        · exact .inl g
    · rename_i e
      refine ⟨?_, fun n => ?_⟩
      · simp only [List.map_cons, List.nodup_cons]
        refine ⟨fun hm => ?_, h1⟩
        rcases (h2 k').1 hm with g | g
        · exact h.1 g
        · exact e g.symm
      · simp only [List.map_cons, List.mem_cons, h2, or_assoc]
theorem coll_nodup (b : Tb) (p s : Int) : ∀ (l : List Rw) (m : Mk), (m.map (·.1)).Nodup → (∀ n ∈ m.map (·.1), bget m n ≠ 0#64) → ((l.foldl (colStep b p s) m).map (·.1)).Nodup ∧ ∀ n ∈ (l.foldl (colStep b p s) m).map (·.1), bget (l.foldl (colStep b p s) m) n ≠ 0#64
  | [], m, h, g => ⟨h, g⟩
  | x :: l, m, h, g => by
    have hpl := plB x.id b.len
    refine coll_nodup b p s l (colStep b p s m x) ?_ ?_
    · unfold colStep
      split
      · exact (bput_nodup _ _ h).1
      · exact h
    · intro n hn
      unfold colStep at hn ⊢
      split at hn
      · rename_i hc
        rw [if_pos hc, bget_put]
        split
        · intro e0
          have := congrArg (fun B => BitVec.getLsbD B (plBit x.id b.len).toNat) e0
          simp only [BitVec.getLsbD_or, bit_one (j := (plBit x.id b.len).toNat) (by omega) (show (plBit x.id b.len).toNat < 64 by omega)] at this
          simp at this
        · rename_i e
          rcases ((bput_nodup _ _ h).2 n).1 hn with h1 | h1
          · exact g n h1
          · exact absurd h1 e
      · rename_i hc
        rw [if_neg hc]
        exact g n hn
theorem bget_mem {m : Mk} {n : Int} (h : bget m n ≠ 0#64) : n ∈ m.map (·.1) := by
  unfold bget at h
  cases hf : m.find? (fun e => decide (n = e.1)) with
  | none => rw [hf] at h; simp at h
  | some e =>
    have h1 := List.mem_of_find?_eq_some hf
    have h2 := List.find?_some hf
    simp only [decide_eq_true_eq] at h2
    rw [h2]
    exact List.mem_map_of_mem h1
theorem keys_eq {b : Tb} {p s : Int} (hv : valB b p s = true) : mkeys (mk (coll b p s)) = ((List.range 99).map fun (i : Nat) => (i : Int) + 1).filter fun n => decide (maskR b p s n ≠ 0#64) := by
  obtain ⟨hc, hp, hs⟩ := valB_iff.1 hv
  obtain ⟨hnd, hnz⟩ := coll_nodup b p s b.rows [] (by simp) (by simp)
  have hkm : (mk (coll b p s)).map (·.1) = (coll b p s).map (·.1) := by simp [mk, List.map_map, Function.comp_def]
  have hperm := List.mergeSort_perm ((coll b p s).map (·.1)) (fun x y => decide (x ≤ y))
  have hmp : ∀ n, maskR b p s n = bget (coll b p s) n := fun n => by rw [← maskP_eq, maskP, if_pos hv]
  refine asc_ext ?_ ?_ fun n => ?_
  · unfold mkeys
    rw [hkm]
    have h1 := sort_sorted ((coll b p s).map (·.1))
    have h2 : (((coll b p s).map (·.1)).mergeSort fun x y => decide (x ≤ y)).Nodup := hperm.nodup_iff.2 hnd
    exact List.Pairwise.imp (fun h => by omega) (h1.and h2)
  · refine List.Pairwise.filter _ ?_
    rw [List.pairwise_map]
    exact List.pairwise_lt_range.imp fun h => by omega
  · unfold mkeys
    rw [hkm, hperm.mem_iff, List.mem_filter, decide_eq_true_eq, hmp]
    constructor
    · intro h
      obtain ⟨e, he, rfl⟩ := List.mem_map.1 h
      have := coll_keys hc e he
      exact ⟨List.mem_map.2 ⟨(e.1 - 1).toNat, List.mem_range.2 (by omega), by omega⟩, hnz _ h⟩
    · intro h; exact bget_mem h.2
theorem allP_eq (b : Tb) (p s : Int) : allP b p s = allR b p s 99 := by
  unfold allP allR
  by_cases hv : valB b p s = true
  · rw [if_pos hv, keys_eq hv]
    have hmp : ∀ n, bget (coll b p s) n = maskR b p s n := fun n => by rw [← maskP_eq, maskP, if_pos hv]
    simp only [hmp, List.filter_map, List.map_map]
    rfl
  · rw [if_neg hv]
    have : ∀ n, maskR b p s n = 0#64 := fun n => if_neg fun h => hv h.1
    symm
    rw [List.filter_eq_nil_iff]
    intro e he
    obtain ⟨i, _, rfl⟩ := List.mem_map.1 he
    simp [this]
theorem fullN_bit {j : Nat} (hj : j < 64) : ∀ K : Nat, K ≤ 64 → ((fullN K).getLsbD j = decide (j < K))
  | 0, _ => by simp [fullN]
  | K + 1, hK => by
    rw [fullN, BitVec.getLsbD_or, fullN_bit hj K (by omega), bitB_bit (by omega) hj, Bool.eq_iff_iff]
    simp
    omega
theorem orAll_bit (k : Nat) : ∀ (m : Mk) (o : BitVec 64), (m.foldl (fun o e => o ||| e.2) o).getLsbD k = true ↔ o.getLsbD k = true ∨ ∃ e ∈ m, e.2.getLsbD k = true
  | [], o => by simp
  | e :: m, o => by
    rw [List.foldl_cons, orAll_bit k m, BitVec.getLsbD_or, Bool.or_eq_true]
    simp only [List.mem_cons, exists_eq_or_imp, or_assoc]
theorem reach_eq (b : Tb) (s : Int) : orAll (allP b 0 s) &&& fullB b.len = orAll (allR b 0 s 99) := by
  rw [allP_eq]
  apply BitVec.eq_of_getLsbD_eq
  intro k hk
  rw [BitVec.getLsbD_and]
  cases h : (orAll (allR b 0 s 99)).getLsbD k
  · rfl
  · rw [Bool.true_and]
    rcases (orAll_bit k _ _).1 h with h1 | ⟨e, he, h1⟩
    · simp at h1
    · unfold allR at he
      rw [List.mem_filter] at he
      obtain ⟨i, _, rfl⟩ := List.mem_map.1 he.1
      simp only at h1
      unfold maskR at h1
      split at h1
      · rename_i hc
        have hl := chk_len2 (valB_iff.1 hc.1).1
        have := (bitsR_bit b 0 s _ hk _ (by omega)).1 h1
        have hvl : validLen b.len = true := by
          have h2 := this.2.1
          simp only [atB, Bool.and_eq_true] at h2
          exact h2.1
        rw [fullB, if_pos hvl, fullN_bit hk _ (by omega)]
        simpa using this.1
      · simp at h1
end Go.Proofs

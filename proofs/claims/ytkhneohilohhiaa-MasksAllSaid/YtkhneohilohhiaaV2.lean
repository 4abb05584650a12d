/-
  What functions of the program compute, stated as contracts over plain data; the conditions of each stand in its own statement.
-/
import Derived.Test.YtkhneohilohhiaaC16
import Derived.Test.YtkhneohilohhiaaV1
set_option linter.unusedSimpArgs false
set_option maxRecDepth 100000
set_option maxHeartbeats 2000000
namespace Go.Proofs
open Go Go.Tr

/-! ### the masks of a valid table -/
theorem chk_parts {b : Tb} (h : chk b = 0) : b.head ∧ b.rows.length ≤ 256 ∧ (∀ x ∈ b.rows, x.nx.length ≤ 24) ∧ ∀ x ∈ b.rows, ¬ (1 < x.nx.length ∧ b.r ∈ x.nx) := by
  unfold chk at h
  split at h
  · simp at h
  rename_i h1
  split at h
  · simp at h
  split at h
  · simp at h
  rename_i h2
  split at h
  · simp at h
  rename_i h3
  split at h
  · simp at h
  split at h
  · simp at h
  rename_i h4
  exact ⟨Classical.byContradiction fun g => h1 g, by omega, fun x hx => Nat.le_of_not_lt fun g => h3 ⟨x, hx, g⟩, fun x hx g => h4 ⟨x, hx, g⟩⟩
theorem chk_sm {b : Tb} (h : chk b = 0) : b.Sm := ⟨by have := (chk_parts h).2.1; omega, fun x hx => by have := (chk_parts h).2.2.1 x hx; omega⟩
theorem rows_len {b : Tb} (h : chk b = 0) {x : Rw} (hx : x ∈ b.rows) : validLen b.len = true ∧ inB x.id 1 256 = true := by
  refine ⟨?_, by have := (chk_next h x hx).1; simp [inB, this]⟩
  rcases chk_len h with g | g
  · exact g
  · rw [List.length_eq_zero_iff.1 g.2] at hx; simp at hx
theorem place_of {b : Tb} (h : chk b = 0) {x : Rw} (hx : x ∈ b.rows) : plSet x.id b.len = (x.id - 1) / b.len ∧ plBit x.id b.len = (x.id - 1) % b.len ∧ 8 ≤ b.len ∧ plSet x.id b.len ≤ 31 := by
  obtain ⟨h1, h2⟩ := rows_len h hx
  simp only [plSet, plBit, h1, h2, Bool.and_self, if_true, true_and]
  have := (chk_next h x hx).1
  simp [validLen] at h1
  rcases h1 with ((h1 | h1) | h1) | h1 <;> rw [h1] <;> omega
theorem place_inj {b : Tb} (h : chk b = 0) {x y : Rw} (hx : x ∈ b.rows) (hy : y ∈ b.rows) (h1 : plSet x.id b.len = plSet y.id b.len) (h2 : plBit x.id b.len = plBit y.id b.len) : x = y := by
  obtain ⟨a1, a2, a3, _⟩ := place_of h hx
  obtain ⟨b1, b2, _, _⟩ := place_of h hy
  rw [a1, b1] at h1
  rw [a2, b2] at h2
  have e1 := Int.mul_ediv_add_emod (x.id - 1) b.len
  have e2 := Int.mul_ediv_add_emod (y.id - 1) b.len
  rw [h1, h2] at e1
  have he : x.id = y.id := by omega
  have r1 := rowOf_mem h hx
  have r2 := rowOf_mem h hy
  rw [he, r2] at r1
  exact (Option.some.inj r1).symm
theorem hopR_nil {x : Rw} (p : Int) (h : x.nx = []) : hopR x p = 0 := by simp [hopR, h]
theorem hopR_in {x : Rw} (p : Int) (h : x.nx ≠ []) : hopR x p ∈ x.nx := by
  unfold hopR
  have hl : 0 < x.nx.length := List.length_pos_iff.2 h
  rw [if_neg (by omega)]
  have m1 := Int.emod_nonneg p (b := (x.nx.length : Int)) (by omega)
  have m2 := Int.emod_lt_of_pos p (b := (x.nx.length : Int)) (by omega)
  have hlt : (p % x.nx.length).toNat < x.nx.length := by omega
  rw [List.getD_eq_getElem?_getD, List.getElem?_eq_getElem hlt]
  exact List.getElem_mem hlt
theorem hopR_ne {b : Tb} (h : chk b = 0) {x : Rw} (hx : x ∈ b.rows) (p : Int) : hopR x p ≠ 0 ↔ x.nx ≠ [] := by
  constructor
  · intro g e; exact g (hopR_nil p e)
  · intro g
    have := (chk_next h x hx).2 _ (hopR_in p g)
    omega
theorem hopR_self {b : Tb} (h : chk b = 0) {x : Rw} (hx : x ∈ b.rows) {p q : Int} (g : hopR x p = b.r) : hopR x q = b.r := by
  have h1 := (chk_parts h).1.1
  have hne : x.nx ≠ [] := (hopR_ne h hx p).1 (by rw [g]; have := h1.1; omega)
  have hm : b.r ∈ x.nx := g ▸ hopR_in p hne
  have hl : ¬ 1 < x.nx.length := fun k => (chk_parts h).2.2.2 x hx ⟨k, hm⟩
  have hq := hopR_in q hne
  match hx' : x.nx, hne, hl, hm, hq with
  | [a], _, _, hm, hq => simp at hm hq; rw [hq, hm]
  | a :: c :: l, _, hl, _, _ => simp at hl
theorem maskP_bit {b : Tb} {p s : Int} (hv : valB b p s = true) (n : Int) {k : Nat} (hk : k < 64) : (maskP b p s n).getLsbD k = true ↔ ∃ x ∈ b.rows, plSet x.id b.len = s ∧ plBit x.id b.len = k ∧ hopR x p = n ∧ n ≠ 0 := by
  unfold maskP
  rw [if_pos hv, show coll b p s = b.rows.foldl (colStep b p s) [] from rfl, coll_bit b p s n hk]
  have h0 : ¬ (bget [] n).getLsbD k = true := by simp [bget]
  exact ⟨fun h => h.elim (fun h => absurd h h0) id, .inr⟩
theorem allP_mem {b : Tb} {p s : Int} {e : Int × BitVec 64} : e ∈ allP b p s ↔ (1 ≤ e.1 ∧ e.1 ≤ 99) ∧ e.2 = maskP b p s e.1 ∧ e.2 ≠ 0#64 := by
  rw [allP_eq, allR, List.mem_filter, decide_eq_true_eq]
  constructor
  · rintro ⟨h1, h2⟩
    obtain ⟨i, hi, rfl⟩ := List.mem_map.1 h1
    have := List.mem_range.1 hi
    exact ⟨by simp only; omega, (maskP_eq ..).symm, h2⟩
  · rintro ⟨h1, h2, h3⟩
    refine ⟨List.mem_map.2 ⟨(e.1 - 1).toNat, List.mem_range.2 (by omega), ?_⟩, h3⟩
    have : (((e.1 - 1).toNat : Nat) : Int) + 1 = e.1 := by omega
    rw [this, ← maskP_eq, ← h2]
theorem allP_asc (b : Tb) (p s : Int) : (allP b p s).Pairwise fun a c => a.1 < c.1 := by
  rw [allP_eq, allR]
  refine List.Pairwise.filter _ ?_
  rw [List.pairwise_map]
  exact List.pairwise_lt_range.imp fun h => by simp only; omega
/-- one row's bit, if it has a next hop -/
def wantS (b : Tb) (s : Int) (o : BitVec 64) (x : Rw) : BitVec 64 := if plSet x.id b.len = s ∧ 0 < x.nx.length then o ||| bitB (plBit x.id b.len) else o
def want (b : Tb) (s : Int) : BitVec 64 := b.rows.foldl (wantS b s) 0#64
theorem want_bit (b : Tb) (s : Int) {k : Nat} (hk : k < 64) : ∀ (l : List Rw) (o : BitVec 64), (l.foldl (wantS b s) o).getLsbD k = true ↔ o.getLsbD k = true ∨ ∃ x ∈ l, plSet x.id b.len = s ∧ 0 < x.nx.length ∧ plBit x.id b.len = k
  | [], o => by simp
  | x :: l, o => by
    rw [List.foldl_cons, want_bit b s hk l]
    have hpl := plB x.id b.len
    have hs : (wantS b s o x).getLsbD k = true ↔ o.getLsbD k = true ∨ (plSet x.id b.len = s ∧ 0 < x.nx.length ∧ plBit x.id b.len = k) := by
      unfold wantS
      split
      · rename_i hc
        obtain ⟨j, hj⟩ : ∃ j : Nat, plBit x.id b.len = j := ⟨(plBit x.id b.len).toNat, by omega⟩
        rw [hj, BitVec.getLsbD_or, bitB_bit (by omega) hk, Bool.or_eq_true, decide_eq_true_eq]
        constructor
        · exact fun h => h.imp (fun h => h) fun h => ⟨hc.1, hc.2, by omega⟩
        · exact fun h => h.imp (fun h => h) fun h => by omega
      · rename_i hc
        constructor
        · exact .inl
        · rintro (h | h)
          · exact h
          · exact absurd ⟨h.1, h.2.1⟩ hc
    rw [hs]
    simp only [List.mem_cons, exists_eq_or_imp, or_assoc]
theorem orAll_want {b : Tb} {p s : Int} (hv : valB b p s = true) : orAll (allP b p s) = want b s := by
  obtain ⟨hc, hp, hs⟩ := valB_iff.1 hv
  apply BitVec.eq_of_getLsbD_eq
  intro k hk
  rw [Bool.eq_iff_iff, orAll, orAll_bit, want, want_bit b s hk]
  have h0 : ¬ (0#64 : BitVec 64).getLsbD k = true := by simp
  constructor
  · rintro (h | ⟨e, he, h⟩)
    · exact absurd h h0
    · obtain ⟨_, h2, _⟩ := allP_mem.1 he
      rw [h2] at h
      obtain ⟨x, hx, g1, g2, g3, g4⟩ := (maskP_bit hv _ hk).1 h
      refine .inr ⟨x, hx, g1, ?_, g2⟩
      exact List.length_pos_iff.2 ((hopR_ne hc hx p).1 (by rw [g3]; exact g4))
  · rintro (h | ⟨x, hx, g1, g2, g3⟩)
    · exact absurd h h0
    · have hne := List.length_pos_iff.1 g2
      have hm := (chk_next hc x hx).2 _ (hopR_in p hne)
      have hb : (maskP b p s (hopR x p)).getLsbD k = true := (maskP_bit hv _ hk).2 ⟨x, hx, g1, g3, rfl, by omega⟩
      refine .inr ⟨(hopR x p, maskP b p s (hopR x p)), allP_mem.2 ⟨hm, rfl, fun e => ?_⟩, hb⟩
      simp only at e; rw [e] at hb; simp at hb
theorem orAll_reach {b : Tb} {s : Int} (hv : valB b 0 s = true) : orAll (allP b 0 s) &&& fullB b.len = want b s := by
  rw [reach_eq, ← allP_eq, orAll_want hv]
theorem mask_self {b : Tb} {p s : Int} (hv : valB b p s = true) : maskP b p s b.r = maskP b 0 s b.r := by
  obtain ⟨hc, hp, hs⟩ := valB_iff.1 hv
  have hv0 : valB b 0 s = true := valB_iff.2 ⟨hc, by omega, hs⟩
  apply BitVec.eq_of_getLsbD_eq
  intro k hk
  rw [Bool.eq_iff_iff, maskP_bit hv _ hk, maskP_bit hv0 _ hk]
  constructor
  · rintro ⟨x, hx, g1, g2, g3, g4⟩; exact ⟨x, hx, g1, g2, hopR_self hc hx g3, g4⟩
  · rintro ⟨x, hx, g1, g2, g3, g4⟩; exact ⟨x, hx, g1, g2, hopR_self hc hx g3, g4⟩
theorem mask_disj {b : Tb} {p s : Int} (hv : valB b p s = true) {m n : Int} (h : m ≠ n) : maskP b p s m &&& maskP b p s n = 0#64 := by
  have hc := (valB_iff.1 hv).1
  apply BitVec.eq_of_getLsbD_eq
  intro k hk
  rw [BitVec.getLsbD_and]
  cases h1 : (maskP b p s m).getLsbD k
  · simp
  · cases h2 : (maskP b p s n).getLsbD k
    · simp
    · obtain ⟨x, hx, g1, g2, g3, _⟩ := (maskP_bit hv _ hk).1 h1
      obtain ⟨y, hy, k1, k2, k3, _⟩ := (maskP_bit hv _ hk).1 h2
      have := place_inj hc hx hy (by rw [g1, k1]) (by rw [g2, k2])
      subst this
      exact absurd (g3.symm.trans k3) h
/-- what the law looks at in a plane -/
theorem divide_at {b : Tb} {p s : Int} (hv : valB b p s = true) {i : Nat} {e : Int × BitVec 64} (he : (allP b p s)[i]? = some e) :
    orAll ((allP b p s).take i) &&& e.2 = 0#64 ∧ e.2 ≠ 0#64 ∧ maskP b p s e.1 = e.2 ∧ (∀ f, 0 < i → (allP b p s)[i - 1]? = some f → f.1 < e.1) ∧ orAll ((allP b p s).take (i + 1)) = orAll ((allP b p s).take i) ||| e.2 := by
  obtain ⟨hi, h1⟩ := List.getElem?_eq_some_iff.1 he
  obtain ⟨m1, m2, m3⟩ := allP_mem.1 (List.mem_of_getElem? he)
  have hasc := allP_asc b p s
  refine ⟨?_, m3, m2.symm, fun f h0 hf => ?_, ?_⟩
  · apply BitVec.eq_of_getLsbD_eq
    intro k hk
    rw [BitVec.getLsbD_and]
    cases h2 : (orAll ((allP b p s).take i)).getLsbD k
    · simp
    · rcases (orAll_bit k _ _).1 h2 with h3 | ⟨f, hf, h3⟩
      · simp at h3
      · obtain ⟨_, n2, _⟩ := allP_mem.1 (List.mem_of_mem_take hf)
        obtain ⟨j, hj⟩ := List.getElem?_of_mem hf
        obtain ⟨hj1, hj2⟩ := List.getElem?_eq_some_iff.1 hj
        rw [List.getElem_take] at hj2
        have hjl : j < i := by simp at hj1; omega
        have hlt := List.pairwise_iff_getElem.1 hasc j i (by omega) hi hjl
        rw [hj2, h1] at hlt
        have hd := mask_disj hv (m := f.1) (n := e.1) (by omega)
        have hd := congrArg (fun B => BitVec.getLsbD B k) hd
        simp only [BitVec.getLsbD_and, ← m2, ← n2, h3, Bool.true_and] at hd
        rw [hd]; simp
  · obtain ⟨hj, h2⟩ := List.getElem?_eq_some_iff.1 hf
    have hlt := List.pairwise_iff_getElem.1 hasc (i - 1) i hj hi (by omega)
    rw [h1, h2] at hlt
    exact hlt
  · rw [List.take_add_one, he, orAll, List.foldl_append]; rfl
/-- what the law looks at for a row -/
theorem member_at {b : Tb} (hc : chk b = 0) {p : Int} (hp : 0 ≤ p ∧ p ≤ 7) {x : Rw} (hx : x ∈ b.rows) {n : Int} : (maskP b p (plSet x.id b.len) n).getLsbD (plBit x.id b.len).toNat = decide (nextV b x.id p = n ∧ n ≠ 0) := by
  have hpl := plB x.id b.len
  obtain ⟨_, _, _, hs⟩ := place_of hc hx
  have hv : valB b p (plSet x.id b.len) = true := valB_iff.2 ⟨hc, hp, by omega⟩
  have hv0 : valB b p 0 = true := valB_iff.2 ⟨hc, hp, by omega⟩
  have hn : nextV b x.id p = hopR x p := by rw [nextV, if_pos hv0, hopB, rowOf_mem hc hx]; rfl
  rw [hn, Bool.eq_iff_iff, maskP_bit hv _ (by omega), decide_eq_true_eq]
  constructor
  · rintro ⟨y, hy, g1, g2, g3, g4⟩
    have := place_inj hc hy hx g1 (by omega)
    subst this
    exact ⟨g3, g4⟩
  · rintro ⟨g3, g4⟩
    exact ⟨x, hx, rfl, by omega, g3, g4⟩
theorem nextV_of {b : Tb} (hc : chk b = 0) {p : Int} (hp : 0 ≤ p ∧ p ≤ 7) {x : Rw} (hx : x ∈ b.rows) : nextV b x.id p = hopR x p := by
  have hv0 : valB b p 0 = true := valB_iff.2 ⟨hc, hp, by omega⟩
  rw [nextV, if_pos hv0, hopB, rowOf_mem hc hx]; rfl
/-- how often a next hop is the next hop of a plane -/
theorem used_at {b : Tb} (hc : chk b = 0) {x : Rw} (hx : x ∈ b.rows) {k : Nat} {v : Int} (hk : x.nx[k]? = some v) {p : Nat} (hp : p ≤ 7) : decide (nextV b x.id p = v) = decide (p % x.nx.length = k) := by
  obtain ⟨hkl, hv⟩ := List.getElem?_eq_some_iff.1 hk
  have hne : ¬ x.nx.length = 0 := by omega
  have hm : p % x.nx.length < x.nx.length := Nat.mod_lt _ (by omega)
  have hpm : ((p : Int) % (x.nx.length : Int)).toNat = p % x.nx.length := by omega
  rw [nextV_of hc (by omega) hx, hopR, if_neg hne, hpm, List.getD_eq_getElem?_getD, List.getElem?_eq_getElem hm, Option.getD_some, Bool.eq_iff_iff, decide_eq_true_eq, decide_eq_true_eq]
  have hasc := (chk_asc hc).2 x hx
  constructor
  · intro h
    rw [← hv] at h
    rcases Nat.lt_trichotomy (p % x.nx.length) k with g | g | g
    · have := List.pairwise_iff_getElem.1 hasc _ _ hm hkl g; omega
    · exact g
    · have := List.pairwise_iff_getElem.1 hasc _ _ hkl hm g; omega
  · intro h; subst h; exact hv
end Go.Proofs

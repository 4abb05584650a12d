/-
  What functions of the program compute, stated as contracts over plain data; the conditions of each stand in its own statement.
-/
import Derived.Test.YtbjbhnidedfcfaaK1
set_option linter.unusedSimpArgs false
set_option maxRecDepth 100000
set_option maxHeartbeats 2000000
namespace Go.Proofs
open Go Go.Tr

/-! ### the generated plan is valid -/
structure PlanV (rs : List Rt) (p : Pn) : Prop where
  subd : 0 ≤ p.subd ∧ p.subd ≤ 7
  len : validLen p.len = true
  n : p.es.length ≤ 24
  rt : ∀ e ∈ p.es, 1 ≤ e.r ∧ e.r ≤ 99
  ids : ∀ e ∈ p.es, 1 ≤ e.id ∧ e.id ≤ 256
  asc : p.es.Pairwise fun a b => a.id < b.id
  nod : (p.es.map (·.r)).Nodup

theorem planB_of {rs : List Rt} {p : Pn} (h : PlanV rs p) : planB p = true := by
  have gi : ∀ i (hi : i < p.es.length), gid p.es i = p.es[i].id ∧ grt p.es i = p.es[i].r := fun i hi => by simp [gid, grt, List.getD, hi]
  refine planB_ok (by simp [baseB, inB, h.subd, h.len, h.n]) (fun i hi => ?_) (fun i j hj hi => ?_)
  · have h1 := h.ids p.es[i] (List.getElem_mem hi)
    have h2 := h.rt p.es[i] (List.getElem_mem hi)
    have h3 := gi i hi
    by_cases h0 : i = 0
    · simp [edB, inB, h3, h1, h2, h0]
      subst h0
      simp [h3, h1, h2]
    · have h4 := gi (i - 1) (by omega)
      have h5 := List.pairwise_iff_getElem.1 h.asc (i - 1) i (by omega) hi (by omega)
      simp [edB, inB, h3, h1, h2, h0, h4, h5]
  · rw [(gi i hi).2, (gi j (by omega)).2]
    have := List.pairwise_iff_getElem.1 h.nod j i (by simp; omega) (by simpa using hi) hj
    simp only [List.getElem_map] at this
    exact fun e => this e.symm

/-! the order is one of all numbers, each once -/
theorem gOrderL_nodup : ∀ (n i : Nat) (T : Tp) (l : List Int), l.Nodup → (∀ x ∈ l, x < (i : Int)) → (gOrderL n i T l).1.Nodup
  | 0, _, _, _, h, _ => h
  | n + 1, i, T, l, h, hb => by
    rw [gOrderL]
    generalize (gNext T (i + 1)).1.toNat = k
    have hs : (l.take k ++ l.drop k).Nodup := by rw [List.take_append_drop]; exact h
    have hi : (i : Int) ∉ l := fun hm => by have := hb _ hm; omega
    refine gOrderL_nodup n (i + 1) _ _ ?_ fun x hx => ?_
    · rw [List.nodup_append] at hs ⊢
      obtain ⟨h1, h2, h3⟩ := hs
      refine ⟨?_, h2, fun a ha b hb' => ?_⟩
      · rw [List.nodup_append]
        refine ⟨h1, by simp, fun a ha b hb' => ?_⟩
        simp at hb'; subst hb'
        intro e; subst e
        exact hi (List.mem_of_mem_take ha)
      · rcases List.mem_append.1 ha with ha | ha
        · exact h3 a ha b hb'
        · simp at ha; subst ha
          intro e; subst e
          exact hi (List.mem_of_mem_drop hb')
    · simp only [List.mem_append, List.mem_singleton] at hx
      rcases hx with (hx | hx) | hx
      · have := hb x (List.mem_of_mem_take hx); omega
      · omega
      · have := hb x (List.mem_of_mem_drop hx); omega

theorem gRts_get (k : Nat) {i : Nat} (h : i < k) (d : Rt) : ((gRts k).getD i d).id = (i : Int) + 1 := by
  simp [gRts, List.getD, h]

/-- what the loop over the order keeps -/
structure PlI (k : Nat) (o : List Int) (id : Int) (l : List Ed) : Prop where
  pos : 0 ≤ id
  rt : ∀ e ∈ l, 1 ≤ e.r ∧ e.r ≤ k ∧ e.r - 1 ∉ o
  ids : ∀ e ∈ l, 1 ≤ e.id ∧ e.id ≤ 256 ∧ e.id ≤ id
  asc : l.Pairwise fun a b => a.id < b.id
  nod : (l.map (·.r)).Nodup

theorem plI_loop (k : Nat) (len : Int) (hl : 8 ≤ len) : ∀ (o : List Int) (T : Tp) (id : Int) (l : List Ed), o.Nodup → (∀ x ∈ o, 0 ≤ x ∧ x < (k : Int)) → PlI k o id l →
    PlI k [] (gPlanL (gRts k) len o T id l).2.1 (gPlanL (gRts k) len o T id l).1
  | [], T, id, l, _, _, h => h
  | x :: o, T, id, l, hn, hb, h => by
    rw [List.nodup_cons] at hn
    rw [gPlanL]
    have hbx := hb x (by simp)
    refine plI_loop k len hl o _ _ _ hn.2 (fun y hy => hb y (by simp [hy])) ?_
    unfold gPlanS
    simp only
    have h0 : PlI k o id l := ⟨h.pos, fun e he => by have := h.rt e he; simp at this; exact ⟨this.1, this.2.1, this.2.2.2⟩, h.ids, h.asc, h.nod⟩
    split
    · exact h0
    · have bp : 1 ≤ (gPick (gNext T 4).2 [1, 1, 1, 2, len - 1]).1 := gPick_all (p := fun x => 1 ≤ x) (by simp) (by simp; omega)
      simp only
      generalize gPick (gNext T 4).2 [1, 1, 1, 2, len - 1] = p at bp ⊢
      split
      · rename_i hid
        have hr : ((gRts k).getD x.toNat ⟨0, false⟩).id = x + 1 := by rw [gRts_get k (by omega)]; omega
        rw [hr]
        refine ⟨by have := h.pos; first | omega | (simp only; omega), fun e he => ?_, fun e he => ?_, ?_, ?_⟩
        · simp only [List.mem_append, List.mem_singleton] at he
          rcases he with he | rfl
          · exact h0.rt e he
          · refine ⟨by first | omega | (simp only; omega), by first | omega | (simp only; omega), ?_⟩
            rw [show (x + 1 - 1 : Int) = x by omega]
            exact hn.1
        · simp only [List.mem_append, List.mem_singleton] at he
          rcases he with he | rfl
          · have := h.ids e he; first | omega | (simp only; omega)
          · have := h.pos; first | omega | (simp only; omega)
        · rw [List.pairwise_append]
          refine ⟨h.asc, by simp, fun a ha b hb' => ?_⟩
          simp at hb'; subst hb'
          have := h.ids a ha
          first | omega | (simp only; omega)
        · rw [List.map_append, List.nodup_append]
          refine ⟨h.nod, by simp, fun a ha b hb' => ?_⟩
          simp at hb'; subst hb'
          obtain ⟨e, he, rfl⟩ := List.mem_map.1 ha
          have := (h.rt e he).2.2
          intro e1
          apply this
          rw [e1]
          simp
      · exact ⟨by have := h.pos; first | omega | (simp only; omega), h0.rt, fun e he => by have := h.ids e he; first | omega | (simp only; omega), h.asc, h.nod⟩

theorem gPlan0_valid (T : Tp) {k : Nat} (hk : k ≤ 24) : PlanV (gRts k) (gPlan0 T (gRts k)).1 := by
  have hl : ((8 : Int) ≤ (gPick (gNext T 3).2 [8, 8, 16, 32, 64]).1) ∧ validLen (gPick (gNext T 3).2 [8, 8, 16, 32, 64]).1 = true := gPick_all (p := fun x => (8 : Int) ≤ x ∧ validLen x = true) (by simp) (by simp; decide)
  have h1 := gNext_nonneg T 3
  have h2 := gNext_lt T (n := 3) (by omega)
  have hln := gPlan0_len T (gRts k)
  rw [gRts_len] at hln
  have hord := gOrder_mem (gPick (gNext T 3).2 [8, 8, 16, 32, 64]).2 k
  have hnd : (gOrder (gPick (gNext T 3).2 [8, 8, 16, 32, 64]).2 k).1.Nodup := gOrderL_nodup _ _ _ _ (by simp) (by simp)
  have hI := plI_loop k _ hl.1 _ (gOrder (gPick (gNext T 3).2 [8, 8, 16, 32, 64]).2 k).2 0 [] hnd hord ⟨by omega, by simp, by simp, by simp, by simp⟩
  refine ⟨by simp only [gPlan0]; omega, hl.2, by omega, fun e he => ?_, fun e he => ?_, ?_, ?_⟩
  · have he' : e ∈ (gPlanL (gRts k) (gPick (gNext T 3).2 [8, 8, 16, 32, 64]).1 (gOrder (gPick (gNext T 3).2 [8, 8, 16, 32, 64]).2 k).1 (gOrder (gPick (gNext T 3).2 [8, 8, 16, 32, 64]).2 k).2 0 []).1 := by simpa [gPlan0] using he
    have := hI.rt e he'
    omega
  · have he' : e ∈ (gPlanL (gRts k) (gPick (gNext T 3).2 [8, 8, 16, 32, 64]).1 (gOrder (gPick (gNext T 3).2 [8, 8, 16, 32, 64]).2 k).1 (gOrder (gPick (gNext T 3).2 [8, 8, 16, 32, 64]).2 k).2 0 []).1 := by simpa [gPlan0] using he
    have := hI.ids e he'
    omega
  · simpa [gPlan0] using hI.asc
  · simpa [gPlan0] using hI.nod

/-! ### the chosen ones -/
theorem gChL_sub : ∀ (es : List Ed) (T : Tp) (l : List Int), ∃ s, (gChL es T l).1 = l ++ s ∧ s.Sublist (es.map (·.id))
  | [], _, l => ⟨[], by simp [gChL], by simp⟩
  | e :: es, T, l => by
    rw [gChL]
    split
    · obtain ⟨s, h1, h2⟩ := gChL_sub es (gNext T 3).2 (l ++ [e.id])
      exact ⟨e.id :: s, by simp [h1], by simpa using h2⟩
    · obtain ⟨s, h1, h2⟩ := gChL_sub es (gNext T 3).2 l
      exact ⟨s, h1, by simpa using h2.cons _⟩
theorem gCh0_sub (T : Tp) (p : Pn) : ((gCh T p 0).1).Sublist (p.es.map (·.id)) := by
  obtain ⟨s, h1, h2⟩ := gChL_sub p.es T []
  simp only [gCh]
  simp at h1
  simpa [h1] using h2
end Go.Proofs

/-
  What functions of the program compute, stated as contracts over plain data; the conditions of each stand in its own statement.
-/
import Derived.Test.YteenclepbpajdaaE8
set_option linter.unusedSimpArgs false
set_option maxRecDepth 100000
set_option maxHeartbeats 2000000
namespace Go.Proofs
open Go Go.Tr

/-! ### the tables of a valid topology and a valid plan are valid -/
theorem price_pos {g : Topo} (hg : g.Ok) {f t c : Int} (h : price g.ls f t = some c) : 1 ≤ c := by
  have : ∀ l : List Lk, (∀ x ∈ l, x ∈ g.ls) → price l f t = some c → 1 ≤ c := by
    intro l
    induction l with
    | nil => intro _ h; simp [price] at h
    | cons x l ih =>
      intro hm h
      have hc := hg.c (hm x (by simp))
      rw [price] at h
      split at h
      · simp at h; omega
      · split at h
        · simp at h; omega
        · exact ih (fun y hy => hm y (by simp [hy])) h
  exact this g.ls (fun _ h => h) h
theorem steps_lt {g : Topo} (hg : g.Ok) {d : List Int} {f x : Int} (h : x ∈ steps g d f) : atR g d x < atR g d f := by
  unfold steps at h
  split at h
  · simp at h
  · obtain ⟨h1, h2⟩ := List.mem_filter.1 h
    simp only [near, List.mem_map, List.mem_filter] at h1
    obtain ⟨y, ⟨_, hy⟩, rfl⟩ := h1
    obtain ⟨c, hc⟩ := Option.isSome_iff_exists.1 hy
    have := price_pos hg hc
    simp only [stepOK, hc, Option.getD_some, Bool.and_eq_true, decide_eq_true_eq] at h2
    omega
/-- what holds of what has been found -/
structure HopI (g : Topo) (d : List Int) (a : Int) (s : List Int × List Int) : Prop where
  seen : ∀ x ∈ s.1, atR g d x ≤ a
  asc : s.2.Pairwise (· < ·)
  out : ∀ x ∈ s.2, atR g d x < a ∧ hasR g.rs x = true ∧ capR g.rs x = true
theorem HopI.step {g : Topo} {d : List Int} {a n : Int} {s : List Int × List Int} (h : HopI g d a s) (h1 : atR g d n < a) (h2 : hasR g.rs n = true) : HopI g d a (hopIn g s n) := by
  unfold hopIn
  split
  · rename_i hc
    obtain ⟨h3, h4⟩ := insI_asc n h.asc
    refine ⟨h.seen, h3, fun x hx => ?_⟩
    rcases (h4 x).1 hx with hx | rfl
    · exact h.out x hx
    · exact ⟨h1, h2, hc⟩
  · split
    · exact h
    · refine ⟨fun x hx => ?_, h.asc, h.out⟩
      rcases List.mem_append.1 hx with hx | hx
      · exact h.seen x hx
      · simp at hx; subst hx; omega
theorem HopI.steps {g : Topo} {d : List Int} {a : Int} : ∀ (l : List Int) (s : List Int × List Int), (∀ x ∈ l, atR g d x < a ∧ hasR g.rs x = true) → HopI g d a s → HopI g d a (l.foldl (hopIn g) s)
  | [], _, _, h => h
  | n :: l, s, hl, h => by
    rw [List.foldl_cons]
    exact HopI.steps l _ (fun x hx => hl x (by simp [hx])) (h.step (hl n (by simp)).1 (hl n (by simp)).2)
theorem HopI.all {g : Topo} (hg : g.Ok) {d : List Int} {a : Int} : ∀ (k i : Nat) (s : List Int × List Int), HopI g d a s → HopI g d a (hopsL g d k i s)
  | 0, _, _, h => h
  | k + 1, i, s, h => by
    rw [hopsL]
    split
    · rename_i hi
      refine HopI.all hg k (i + 1) _ (HopI.steps _ _ (fun x hx => ?_) h)
      have h1 := steps_lt hg hx
      have h2 := h.seen (s.1.getD i 0) (by rw [List.getD_eq_getElem?_getD, List.getElem?_eq_getElem hi]; exact List.getElem_mem hi)
      exact ⟨by omega, steps_has hx⟩
    · exact h
theorem hops_ok (g : Topo) (f t : Int) : (hops g f t).Pairwise (· < ·) ∧ ∀ x ∈ hops g f t, hasR g.rs x = true ∧ capR g.rs x = true ∧ x ≠ f := by
  unfold hops
  split
  · rename_i h
    have := HopI.all (chkT_zero h.1) (d := dist g t) (a := atR g (dist g t) f) (g.rs.length + 1) 0 ([f], []) ⟨by simp, by simp, by simp⟩
    exact ⟨this.asc, fun x hx => ⟨(this.out x hx).2.1, (this.out x hx).2.2, fun e => by have := (this.out x hx).1; subst e; omega⟩⟩
  · simp
theorem Topo.Ok.id {g : Topo} (h : g.Ok) {r : Int} (hr : hasR g.rs r = true) : inR r 1 99 := by
  obtain ⟨x, hx, rfl⟩ := List.mem_map.1 (hasR_mem.1 hr)
  have := List.any_eq_false.1 h.ids x hx
  simp [inB] at this
  exact this
theorem buildT_ok {g : Topo} (hg : chkT g = 0) {p : Pn} (hp : planB p = true) {r : Int} (hr : hasR g.rs r = true) : chk (buildT g p r) = 0 := by
  have hO := chkT_zero hg
  have hri := hO.id hr
  simp only [planB, decide_eq_true_eq] at hp
  obtain ⟨hb, he, _⟩ := hp
  simp only [baseB, inB, Bool.and_eq_true, Bool.or_eq_true, decide_eq_true_eq] at hb
  obtain ⟨b1, b2, b3⟩ := hb
  have hed : ∀ {i : Nat} {e : Ed}, p.es[i]? = some e → inR e.id 1 256 ∧ (i = 0 ∨ ∃ e', p.es[i - 1]? = some e' ∧ e'.id < e.id) := fun {i e} hi => by
    obtain ⟨h1, h2⟩ := List.getElem?_eq_some_iff.1 hi
    have h3 := he i h1
    have g1 : p.es.getD i ⟨0, 0⟩ = e := by rw [List.getD_eq_getElem?_getD, hi]; rfl
    simp only [edB, gid, grt, g1, inB, Bool.and_eq_true, Bool.or_eq_true, decide_eq_true_eq] at h3
    refine ⟨h3.1, h3.2.2.imp id fun h => ?_⟩
    have h4 : i - 1 < p.es.length := by omega
    rw [List.getD_eq_getElem?_getD, List.getElem?_eq_getElem h4] at h
    exact ⟨_, List.getElem?_eq_getElem h4, h⟩
  have hnx : ∀ e : Ed, (∀ n ∈ (bRow g r e).nx, inR n 1 99) ∧ (bRow g r e).nx.Pairwise (· < ·) ∧ (bRow g r e).nx.length ≤ 24 ∧ ¬ (1 < (bRow g r e).nx.length ∧ r ∈ (bRow g r e).nx) := fun e => by
    unfold bRow
    simp only
    split
    · exact ⟨by simpa using hri, by simp, by simp, by simp⟩
    · split
      · obtain ⟨h1, h2⟩ := hops_ok g r e.r
        refine ⟨fun n hn => hO.id (h2 n hn).1, h1, ?_, fun h => (h2 r h.2).2.2 rfl⟩
        exact Nat.le_trans (seen_le (h1.imp fun h => by omega) fun x hx => (h2 x hx).1) hO.nr
      · simp
  have hmem : ∀ {x : Rw}, x ∈ (buildT g p r).rows → ∃ (i : Nat) (e : Ed), p.es[i]? = some e ∧ x = bRow g r e := fun {x} hx => by
    obtain ⟨e, he, rfl⟩ := List.mem_map.1 hx
    obtain ⟨i, hi⟩ := List.getElem?_of_mem he
    exact ⟨i, e, hi, rfl⟩
  refine chk_ok ⟨hri, b1, b2.imp id fun h => ⟨h.1, by simp [buildT, h.2]⟩⟩ ?_ (by simp [buildT]; omega) ?_ (asc_of (fun a x y hx hy => ?_) fun x hx => ?_) ?_
  · rintro ⟨x, hx, ho⟩
    obtain ⟨i, e, hi, rfl⟩ := hmem hx
    rcases ho with ho | ⟨n, hn, ho⟩
    · exact ho (hed hi).1
    · exact ho ((hnx e).1 n hn)
  · rintro ⟨x, hx, ho⟩
    obtain ⟨i, e, hi, rfl⟩ := hmem hx
    have := (hnx e).2.2.1
    omega
  · simp only [buildT, List.getElem?_map, Option.map_eq_some_iff] at hx hy
    obtain ⟨e, h1, rfl⟩ := hx
    obtain ⟨e', h2, rfl⟩ := hy
    rcases (hed h2).2 with h | ⟨e2, h3, h4⟩
    · simp at h
    · simp only [Nat.add_sub_cancel] at h3
      rw [h1] at h3
      simp only [Option.some.injEq] at h3
      subst h3
      exact h4
  · obtain ⟨i, e, hi, rfl⟩ := hmem hx
    exact (hnx e).2.1
  · rintro ⟨x, hx, h1, h2⟩
    obtain ⟨i, e, hi, rfl⟩ := hmem hx
    exact (hnx e).2.2.2 ⟨h1, h2⟩
theorem all11_ok (g : Topo) (p : Pn) : ∀ b ∈ (all11 g p).1, chk b = 0 := fun b hb => by
  unfold all11 at hb
  split at hb
  · rename_i h
    simp only [tabs, List.mem_map, List.mem_filter] at hb
    obtain ⟨x, ⟨hx, _⟩, rfl⟩ := hb
    exact buildT_ok h.1 h.2 (hasR_mem.2 (List.mem_map_of_mem hx))
  · simp at hb
theorem all11_len (g : Topo) (p : Pn) : (all11 g p).1.length ≤ 24 := by
  unfold all11
  split
  · rename_i h
    simp only [tabs, List.length_map]
    exact Nat.le_trans (List.length_filter_le _ _) (chkT_zero h.1).nr
  · simp
end Go.Proofs

/-
  What functions of the program compute, stated as contracts over plain data; the conditions of each stand in its own statement.
-/
import Derived.Test.YtkhgmgelbgondaaD5
import Derived.Test.YtkhgmgelbgondaaT26
set_option linter.unusedSimpArgs false
namespace Go.Proofs
open Go Go.Tr

theorem map_of {α : Type} (g : α → List D) (P : α → Prop) : ∀ {xs : List (List D)}, (∀ x ∈ xs, ∃ a, x = g a ∧ P a) → ∃ l : List α, xs = l.map g ∧ ∀ a ∈ l, P a
  | [], _ => ⟨[], rfl, by simp⟩
  | x :: xs, h => by
    obtain ⟨a, rfl, ha⟩ := h x (by simp)
    obtain ⟨l, e, hl⟩ := map_of g P (xs := xs) fun y hy => h y (List.mem_cons_of_mem _ hy)
    subst e
    exact ⟨a :: l, rfl, fun b hb => (List.mem_cons.1 hb).elim (fun e => e ▸ ha) (hl b)⟩
def tyF : Ty := .st [.int .i64, .sl (.int .i64)]
theorem has_fltW {ds : List D} (h : tyF.has ds) : ∃ f : Flt, ds = [.int .i64 f.m, ints f.s] ∧ f.s.length ≤ maxLen := by
  simp only [tyF, Ty.has, Ty.hass] at h
  obtain ⟨_, _, rfl, ⟨m, rfl, _⟩, d2, _, rfl, h2, rfl⟩ := h
  have h3 : (Ty.sl (.int .i64)).has d2 := by
    simp only [Ty.has]
    exact h2
  obtain ⟨l, hl, h4, _⟩ := has_ints h3
  subst hl
  exact ⟨⟨m, l⟩, by simp [ints], h4⟩
theorem has_wnt {ds : List D} (h : (Ty.st [.int .i64, tyF]).has ds) : ∃ x : Wnt, ds = wntC x ∧ x.f.s.length ≤ maxLen := by
  simp only [Ty.has, Ty.hass] at h
  obtain ⟨_, _, rfl, ⟨g, rfl, _⟩, d2, _, rfl, h2, rfl⟩ := h
  obtain ⟨f, rfl, hf⟩ := has_fltW h2
  exact ⟨⟨g, f⟩, by simp [wntC], hf⟩
theorem has_wnts {ds : List D} (h : (Ty.sl (.st [.int .i64, tyF])).has ds) : ∃ l : List Wnt, ds = [wntD l] ∧ l.length ≤ maxLen ∧ ∀ x ∈ l, x.f.s.length ≤ maxLen := by
  simp only [Ty.has] at h
  obtain ⟨xs, rfl, h1, h2⟩ := h
  obtain ⟨l, rfl, hl⟩ := map_of wntC (fun x => x.f.s.length ≤ maxLen) fun x hx => has_wnt (by simp only [Ty.has]; exact h2 x hx)
  exact ⟨l, rfl, by simpa using h1, hl⟩
theorem has_mem {ds : List D} (h : (Ty.st [.int .i64, .int .i64, tyF, .int .i64]).has ds) : ∃ x : Mem, ds = memC x ∧ x.f.s.length ≤ maxLen := by
  simp only [Ty.has, Ty.hass] at h
  obtain ⟨_, _, rfl, ⟨hh, rfl, _⟩, _, _, rfl, ⟨g, rfl, _⟩, d2, _, rfl, h2, _, _, rfl, ⟨u, rfl, _⟩, rfl⟩ := h
  obtain ⟨f, rfl, hf⟩ := has_fltW h2
  exact ⟨⟨hh, g, f, u⟩, by simp [memC], hf⟩
theorem has_mbs {ds : List D} (h : (Ty.st [.int .i64, .sl (.st [.int .i64, .int .i64, tyF, .int .i64])]).has ds) : ∃ m : Mbs, ds = [.int .i64 m.now, mems m.l] ∧ m.l.length ≤ maxLen ∧ ∀ x ∈ m.l, x.f.s.length ≤ maxLen := by
  simp only [Ty.has, Ty.hass] at h
  obtain ⟨_, _, rfl, ⟨n, rfl, _⟩, _, _, rfl, ⟨xs, rfl, h1, h2⟩, rfl⟩ := h
  obtain ⟨l, rfl, hl⟩ := map_of memC (fun x => x.f.s.length ≤ maxLen) fun x hx => has_mem (by simp only [Ty.has]; exact h2 x hx)
  exact ⟨⟨n, l⟩, by simp [mems], by simpa using h1, hl⟩
theorem has_flw {ds : List D} (h : (Ty.st [.int .i64, .int .i64]).has ds) : ∃ f : Flw, ds = [.int .i64 f.s, .int .i64 f.g] := by
  simp only [Ty.has, Ty.hass] at h
  obtain ⟨_, _, rfl, ⟨s, rfl, _⟩, _, _, rfl, ⟨g, rfl, _⟩, rfl⟩ := h
  exact ⟨⟨s, g⟩, by simp⟩
end Go.Proofs

/-
  Laws of the layer between the model and plain data (states, operations, calls, loops); none has a condition beyond those that stand in its own statement.
-/
import Derived.Test.YtkhgmgelbgondaaT25
set_option linter.unusedSimpArgs false
namespace Go.Tr
open Go

/-- a law that returns true, as the row's step asks for it -/
theorem Contract.true {P : Program} {f : FuncId} {args : List TV} {ro : List (Nat × It)} (c : Contract P f args [] (.d (.bool true)) [] ro) {w : World} (hg : GlobW w) {us : List Value} (h : RelVs (inE w) args us) :
    Calls P f us.toArray w fun e w' => e = .returned (.bool true) ∧ RowKit.Below w.heap.size w w' :=
  (c.law hg h).mono fun e w' ⟨u, E', he, hr, hb⟩ => by
    simp only [RelV, Rep] at hr
    subst hr
    exact ⟨he, hb⟩

theorem has_ints {k : IntKind} {ds : List D} (h : (Ty.sl (.int k)).has ds) : ∃ l : List Int, ds = [.sl (l.map fun n => [.int k n])] ∧ l.length ≤ maxLen ∧ ∀ n ∈ l, (Lit.int k n).wf = true := by
  simp only [Ty.has] at h
  obtain ⟨xs, rfl, h1, h2⟩ := h
  have : ∀ (xs : List (List D)), (∀ x ∈ xs, ∃ n, x = [D.int k n] ∧ (Lit.int k n).wf = true) → ∃ l : List Int, xs = l.map (fun n => [D.int k n]) ∧ ∀ n ∈ l, (Lit.int k n).wf = true := by
    intro xs
    induction xs with
    | nil => exact fun _ => ⟨[], rfl, by simp⟩
    | cons x xs ih =>
      intro h
      obtain ⟨n, rfl, hn⟩ := h x (by simp)
      obtain ⟨l, rfl, hl⟩ := ih fun y hy => h y (by simp [hy])
      exact ⟨n :: l, rfl, by simpa using ⟨hn, hl⟩⟩
  obtain ⟨l, rfl, hl⟩ := this xs h2
  exact ⟨l, rfl, by simpa using h1, hl⟩
theorem wf_i64 {n : Int} (h : (Lit.int .i64 n).wf = true) : I64 n := by
  simp only [Lit.wf, Bool.and_eq_true, decide_eq_true_eq] at h
  have m1 : IntKind.i64.min = -9223372036854775808 := by decide
  have m2 : IntKind.i64.max = 9223372036854775807 := by decide
  exact ⟨by omega, by omega⟩
theorem wf_u64 {n : Int} (h : (Lit.int .u64 n).wf = true) : ∃ B : BitVec 64, n = tn B := by
  simp only [Lit.wf, Bool.and_eq_true, decide_eq_true_eq] at h
  have m1 : IntKind.u64.min = 0 := by decide
  have m2 : IntKind.u64.max = 18446744073709551615 := by decide
  refine ⟨BitVec.ofNat 64 n.toNat, ?_⟩
  simp only [tn, BitVec.toNat_ofNat]
  omega
end Go.Tr

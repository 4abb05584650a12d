/-
  Every call of InterestAnswers returns true, whatever the arguments are, and changes nothing that was there before.
  No condition: the statement is the given one, Rows.InterestAnswersSaid.
-/
import Derived.Test.YtkhgmgelbgondaaRows
import Derived.Test.YtkhgmgelbgondaaD26
import Derived.Test.YtkhgmgelbgondaaD27
import Derived.Test.YtkhgmgelbgondaaT26
import Derived.WalkKit
import Derived.ProofKit
import Derived.OpenShut
import Derived.ShutString
import Derived.ChangeOld
import Derived.Below
set_option linter.unusedVariables false
namespace Go.Proofs.Ytkhgmgelbgondaa.interestAnswers
open Go.ChangeShapes Go.WideShapes Go.ChangeAt Go.RowKit Go.Tr
open Go.ChangeMaps (open_string shut_string)

theorem own : ownKnob Try.prog.godebug = none := by kernel_rfl
theorem laidOut : laidOutB Try.prog = true := by kernel_rfl

def ty0 : Ty := .sl (.int .i64)
def ty1 : Ty := .sl (.st [.int .i64, .st [.int .i64, .sl (.int .i64)]])
def ty2 : Ty := .sl (.st [.int .i64, .st [.int .i64, .sl (.int .i64)]])
def ty3 : Ty := .st [.int .i64, .sl (.st [.int .i64, .int .i64, .st [.int .i64, .sl (.int .i64)], .int .i64])]
def ty4 : Ty := .st [.int .i64, .int .i64]
theorem walk {ds0 : List D} {v0 : Value} {ds1 : List D} {v1 : Value} {ds2 : List D} {v2 : Value} {ds3 : List D} {v3 : Value} {ds4 : List D} {v4 : Value} {w : World} (h0 : ty0.has ds0) (h1 : ty1.has ds1) (h2 : ty2.has ds2) (h3 : ty3.has ds3) (h4 : ty4.has ds4) (r0 : RelV (inE w) (ty0.tv ds0) v0) (r1 : RelV (inE w) (ty1.tv ds1) v1) (r2 : RelV (inE w) (ty2.tv ds2) v2) (r3 : RelV (inE w) (ty3.tv ds3) v3) (r4 : RelV (inE w) (ty4.tv ds4) v4) :
    Calls Try.prog 6 #[v0, v1, v2, v3, v4] w fun e w' => e = .returned (.bool true) ∧ Below w.heap.size w w' := by
  obtain ⟨t, rfl, _, ht⟩ := has_ints h0
  obtain ⟨raw, rfl, hr, hrf⟩ := has_wnts h1
  obtain ⟨other, rfl, ho, hof⟩ := has_wnts h2
  obtain ⟨m, rfl, hm, hmf⟩ := has_mbs h3
  obtain ⟨f, rfl⟩ := has_flw h4
  simp only [maxLen] at hr hrf ho hof hm hmf
  exact (answers_law t (fun n hn => wf_i64 (ht n hn)) raw other m f (by omega) (fun x hx => by have := hrf x hx; omega) (by omega) (fun x hx => by have := hof x hx; omega) (by omega) (fun x hx => by have := hmf x hx; omega)).true (fun _ h => by simp [globs] at h) (us := [v0, v1, v2, v3, v4]) ⟨_, _, rfl, r0, _, _, rfl, r1, _, _, rfl, r2, _, _, rfl, r3, _, _, rfl, r4, rfl⟩


set_option maxRecDepth 100000 in
theorem lifted (os : Os) (started : os.Started) (H : Type) (enc : TypeId × Value → H) :
    ReturnsInHanded {} Try.checked os 6 .any (Rows.interestAnswersSpec.pre6 enc Try.prog Try.f6 Rows.interestAnswersRow.domain false) (Rows.interestAnswersSpec.post enc Try.prog Try.f6 false true false false) := by
  refine returnsInHanded_of_change (C := Try.checked) own started (by kernel_rfl) Try.func6
    (ChangeSpec.witness6 (enc := enc) (C := Try.checked) false ⟨#[], #[.slice none 0 0, .slice none 0 0, .slice none 0 0, .agg #[.int .i64 0, .slice none 0 0], .agg #[.int .i64 0, .int .i64 0]], []⟩ 8 (by kernel_rfl) (by kernel_rfl) (by kernel_rfl) (by kernel_rfl)) ?_
  intro W base args ds gs before hval0 hW hcnd _
  have hval : ∀ (j : Nat) t v, Try.f6.params[j]? = some t → args[j]? = some v → Value.okWide Try.prog W .any base t v := hval0
  have hW' := hW
  obtain ⟨p, q, hA0, hV, rfl, hfz, hnd⟩ := hW
  have hA : DataW.TrodAll enc Try.prog W 0 (fun _ => true) true Try.f6.params.toList args.toList ds p := hA0
  rw [Try.params6] at hA hval
  obtain ⟨v0, vs0, d0, ds0, p0, q0, hargs, rfl, rfl, h0, r0⟩ := trodAll_cons hA
  obtain ⟨v1, vs1, d1, ds1, p1, q1, rfl, rfl, rfl, h1, r1⟩ := trodAll_cons r0
  obtain ⟨v2, vs2, d2, ds2, p2, q2, rfl, rfl, rfl, h2, r2⟩ := trodAll_cons r1
  obtain ⟨v3, vs3, d3, ds3, p3, q3, rfl, rfl, rfl, h3, r3⟩ := trodAll_cons r2
  obtain ⟨v4, vs4, d4, ds4, p4, q4, rfl, rfl, rfl, h4, r4⟩ := trodAll_cons r3
  obtain ⟨rfl, rfl, rfl⟩ := trodAll_nil r4
  obtain rfl : args = #[v0, v1, v2, v3, v4] := by cases args; simp_all
  obtain ⟨rfl, rfl⟩ := trodVars_none hV
  have lt0 : ∀ x ∈ p0, x.block < W.heap.size := by obtain ⟨m, hm⟩ := h0; exact DataW.trod_lt m _ _ _ hm
  obtain ⟨b0, t0, e0⟩ := arg_rel ty0 (by kernel_rfl) (hval 0 22 v0 rfl rfl) h0
  have lt1 : ∀ x ∈ p1, x.block < W.heap.size := by obtain ⟨m, hm⟩ := h1; exact DataW.trod_lt m _ _ _ hm
  obtain ⟨b1, t1, e1⟩ := arg_rel ty1 (by kernel_rfl) (hval 1 29 v1 rfl rfl) h1
  have lt2 : ∀ x ∈ p2, x.block < W.heap.size := by obtain ⟨m, hm⟩ := h2; exact DataW.trod_lt m _ _ _ hm
  obtain ⟨b2, t2, e2⟩ := arg_rel ty2 (by kernel_rfl) (hval 2 29 v2 rfl rfl) h2
  have lt3 : ∀ x ∈ p3, x.block < W.heap.size := by obtain ⟨m, hm⟩ := h3; exact DataW.trod_lt m _ _ _ hm
  obtain ⟨b3, t3, e3⟩ := arg_rel ty3 (by kernel_rfl) (hval 3 27 v3 rfl rfl) h3
  have lt4 : ∀ x ∈ p4, x.block < W.heap.size := by obtain ⟨m, hm⟩ := h4; exact DataW.trod_lt m _ _ _ hm
  obtain ⟨b4, t4, e4⟩ := arg_rel ty4 (by kernel_rfl) (hval 4 35 v4 rfl rfl) h4
  clear hA0 hval0
  refine (walk t0 t1 t2 t3 t4 e0 e1 e2 e3 e4).mono fun e W' ⟨he, bel⟩ => ?_
  subst he
  exact ⟨_, rfl, _, _, _, [], _, [], hW', trodAll_mk1 (shut_bool Try.underlying4 _), (trodAll_cons_mk (Below.trod laidOut (by kernel_rfl) (of_decide_eq_true (by kernel_rfl)) h0 bel lt0) (trodAll_cons_mk (Below.trod laidOut (by kernel_rfl) (of_decide_eq_true (by kernel_rfl)) h1 bel lt1) (trodAll_cons_mk (Below.trod laidOut (by kernel_rfl) (of_decide_eq_true (by kernel_rfl)) h2 bel lt2) (trodAll_cons_mk (Below.trod laidOut (by kernel_rfl) (of_decide_eq_true (by kernel_rfl)) h3 bel lt3) (trodAll_cons_mk (Below.trod laidOut (by kernel_rfl) (of_decide_eq_true (by kernel_rfl)) h4 bel lt4) trodAll_mk0))))), rfl, bel.frame _, fun h => by cases h⟩

theorem over : Rows.interestAnswersRow.holds Try.pinned (OpenSpec.ofChange Rows.interestAnswersSpec) :=
  OpenClaim.holds_of_wide 6 Try.f6 rfl rfl rfl rfl rfl rfl rfl ⟨rfl, rfl, rfl, rfl, rfl⟩ rfl rfl rfl rfl rfl (by kernel_rfl) Try.func6 (by kernel_rfl)
    (of_decide_eq_true (by kernel_rfl)) (by unfold Func.isWrapper; first | (rw [if_pos (by decide +kernel)]; kernel_rfl) | (rw [if_neg (by decide +kernel)]; exact ⟨rfl, rfl⟩))
    (fun os started H enc _ => lifted os started H enc)

theorem proved : Rows.InterestAnswersSaid := over
#print axioms proved
end Go.Proofs.Ytkhgmgelbgondaa.interestAnswers

/-
  What functions of the program compute, stated as contracts over plain data; the conditions of each stand in its own statement.
-/
import Derived.Test.YtffjbciladpdlaaGreatRows
import Derived.Test.YtffjbciladpdlaaGreatZN44
import Derived.Test.YtffjbciladpdlaaGreatZN13
import Derived.WalkKit
import Derived.ProofKit
import Derived.OpenShut
import Derived.ShutString
import Derived.ChangeOld
import Derived.Below
set_option linter.unusedVariables false
namespace Go.Proofs.YtffjbciladpdlaaGreat.tableTogether
open Go.ChangeShapes Go.WideShapes Go.ChangeAt Go.RowKit Go.Tr
open Go.ChangeMaps (open_string shut_string)
theorem own : ownKnob Tryz.prog.godebug = none := by kernel_rfl
theorem laidOut : laidOutB Tryz.prog = true := by kernel_rfl
def ty0 : Ty := .sl (.int .i64)
def ty1 : Ty := .sl (.st [.int .i64, .int .i64, .int .i64, .sl (.st [.int .i64, .sl (.int .i64)])])
def ty2 : Ty := .int .i64
theorem walk {ds0 : List D} {v0 : Value} {ds1 : List D} {v1 : Value} {ds2 : List D} {v2 : Value} {w : World} (h0 : ty0.has ds0) (h1 : ty1.has ds1) (h2 : ty2.has ds2) (r0 : RelV (inE w) (ty0.tv ds0) v0) (r1 : RelV (inE w) (ty1.tv ds1) v1) (r2 : RelV (inE w) (ty2.tv ds2) v2) :
  Calls Tryz.prog 8 #[v0, v1, v2] w fun e w' => e = .returned (.bool true) ∧ Below w.heap.size w w' := by
 obtain ⟨t, rfl, _, ht⟩ := has_ints h0
 obtain ⟨raw, rfl, k1, m1⟩ := has_tbls h1
 obtain ⟨r, rfl⟩ := has_int h2
 simp only [maxLen] at k1 m1
 exact (together_law t (fun n hn => wf_i64 (ht n hn)) raw (by omega) (fun x hx => ⟨by have := (m1 x hx).1; omega, fun y hy => by have := (m1 x hx).2 y hy; omega⟩) r).true (fun _ h => by simp [globs] at h) (us := [v0, v1, v2]) ⟨_, _, rfl, r0, _, _, rfl, r1, _, _, rfl, r2, rfl⟩
set_option maxRecDepth 100000 in
theorem lifted (os : Os) (started : os.Started) (H : Type) (enc : TypeId × Value → H) :
  ReturnsInHanded {} Tryz.checked os 8 .any (Rows.tableTogetherSpec.pre6 enc Tryz.prog Tryz.f8 Rows.tableTogetherRow.domain false) (Rows.tableTogetherSpec.post enc Tryz.prog Tryz.f8 false true false false) := by
 refine returnsInHanded_of_change (C := Tryz.checked) own started (by kernel_rfl) Tryz.func8
  (ChangeSpec.witness6 (enc := enc) (C := Tryz.checked) false ⟨#[], #[.slice none 0 0, .slice none 0 0, .int .i64 0], []⟩ 8 (by kernel_rfl) (by kernel_rfl) (by kernel_rfl) (by kernel_rfl)) ?_
 intro W base args ds gs before hval0 hW hcnd _
 have hval : ∀ (j : Nat) t v, Tryz.f8.params[j]? = some t → args[j]? = some v → Value.okWide Tryz.prog W .any base t v := hval0
 have hW' := hW
 obtain ⟨p, q, hA0, hV, rfl, hfz, hnd⟩ := hW
 have hA : DataW.TrodAll enc Tryz.prog W 0 (fun _ => true) true Tryz.f8.params.toList args.toList ds p := hA0
 rw [Tryz.params8] at hA hval
 obtain ⟨v0, vs0, d0, ds0, p0, q0, hargs, rfl, rfl, h0, r0⟩ := trodAll_cons hA
 obtain ⟨v1, vs1, d1, ds1, p1, q1, rfl, rfl, rfl, h1, r1⟩ := trodAll_cons r0
 obtain ⟨v2, vs2, d2, ds2, p2, q2, rfl, rfl, rfl, h2, r2⟩ := trodAll_cons r1
 obtain ⟨rfl, rfl, rfl⟩ := trodAll_nil r2
 obtain rfl : args = #[v0, v1, v2] := by cases args; simp_all
 obtain ⟨rfl, rfl⟩ := trodVars_none hV
 have lt0 : ∀ x ∈ p0, x.block < W.heap.size := by obtain ⟨m, hm⟩ := h0; exact DataW.trod_lt m _ _ _ hm
 obtain ⟨b0, t0, e0⟩ := arg_rel ty0 (by kernel_rfl) (hval 0 22 v0 rfl rfl) h0
 have lt1 : ∀ x ∈ p1, x.block < W.heap.size := by obtain ⟨m, hm⟩ := h1; exact DataW.trod_lt m _ _ _ hm
 obtain ⟨b1, t1, e1⟩ := arg_rel ty1 (by kernel_rfl) (hval 1 55 v1 rfl rfl) h1
 have lt2 : ∀ x ∈ p2, x.block < W.heap.size := by obtain ⟨m, hm⟩ := h2; exact DataW.trod_lt m _ _ _ hm
 obtain ⟨b2, t2, e2⟩ := arg_rel ty2 (by kernel_rfl) (hval 2 3 v2 rfl rfl) h2
 clear hA0 hval0
 refine (walk t0 t1 t2 e0 e1 e2).mono fun e W' ⟨he, bel⟩ => ?_
 subst he
 exact ⟨_, rfl, _, _, _, [], _, [], hW', trodAll_mk1 (shut_bool Tryz.underlying4 _), (trodAll_cons_mk (Below.trod laidOut (by kernel_rfl) (of_decide_eq_true (by kernel_rfl)) h0 bel lt0) (trodAll_cons_mk (Below.trod laidOut (by kernel_rfl) (of_decide_eq_true (by kernel_rfl)) h1 bel lt1) (trodAll_cons_mk (Below.trod laidOut (by kernel_rfl) (of_decide_eq_true (by kernel_rfl)) h2 bel lt2) trodAll_mk0))), rfl, bel.frame _, fun h => by cases h⟩
theorem over : Rows.tableTogetherRow.holds Tryz.pinned (OpenSpec.ofChange Rows.tableTogetherSpec) :=
 OpenClaim.holds_of_wide 8 Tryz.f8 rfl rfl rfl rfl rfl rfl rfl ⟨rfl, rfl, rfl, rfl, rfl⟩ rfl rfl rfl rfl rfl (by kernel_rfl) Tryz.func8 (by kernel_rfl)
  (of_decide_eq_true (by kernel_rfl)) (by unfold Func.isWrapper; first | (rw [if_pos (by decide +kernel)]; kernel_rfl) | (rw [if_neg (by decide +kernel)]; exact ⟨rfl, rfl⟩))
  (fun os started H enc _ => lifted os started H enc)
theorem proved : Rows.TableTogetherSaid := over
#print axioms proved
end Go.Proofs.YtffjbciladpdlaaGreat.tableTogether

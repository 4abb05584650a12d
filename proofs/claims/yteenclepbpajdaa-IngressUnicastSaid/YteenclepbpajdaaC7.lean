/-
  What functions of the program compute, stated as contracts over plain data; the conditions of each stand in its own statement.
-/
import Derived.Test.YteenclepbpajdaaC6
set_option linter.unusedSimpArgs false
set_option maxRecDepth 100000
set_option maxHeartbeats 4000000
namespace Go.Proofs
open Go Go.Tr

structure Tb.Sm (b : Tb) : Prop where
  rows : b.rows.length ≤ 1000000
  nx : ∀ x ∈ b.rows, x.nx.length ≤ 1000000
def hopB (b : Tb) (id p : Int) : Int := hopR ((rowOf b id).getD ⟨0, []⟩) p
theorem rowOf_len {b : Tb} (hb : b.Sm) (id : Int) : ((rowOf b id).getD ⟨0, []⟩).nx.length ≤ 1000000 := by
  unfold rowOf
  cases h : b.rows.find? (fun x => decide (x.id = id)) with
  | none => simp
  | some x => exact hb.nx x (List.mem_of_find?_eq_some h)
def valB (b : Tb) (p s : Int) : Bool := decide (chk b = 0) && (inB p 0 7 && inB s 0 31)
theorem mvalid_c (b : Tb) (hb : b.Sm) (p s : Int) : Contract Try.prog 53 [tblT b, .d (.int .i64 p), .d (.int .i64 s)] [] (.d (.bool (valB b p s))) [] [] := by
  refine contract_of Try.func53 rfl (fun E0 => ?_)
  refine awp.sound (g := .mk) (ow := []) (kp := (fun k => k == 0 || k == 1 || k == 2 || k == 3 || k == 6)) ?_
  rw [Try.ntmps53]
  simp -dsimp [tblT]
  refine ACall.of (tcheck_c b hb.rows hb.nx) [] 0 ?_
  by_cases h0 : chk b = 0
  · by_cases h1 : 0 ≤ p
    · by_cases h2 : p < 8
      · by_cases h3 : 0 ≤ s
        · simp -dsimp [tblT, h0, h1, h2, h3]
          and_intros
          all_goals try first | rfl | omega | exact ⟨by kernel_rfl⟩
          refine Fin.of ?_
          simp [valB, inB, h0, h1, h3]
          omega
        · simp -dsimp [tblT, h0, h1, h2, h3]
          and_intros
          all_goals try first | rfl | omega | exact ⟨by kernel_rfl⟩
          refine Fin.of ?_
          simp [valB, inB, h0, h1, h3]
      · simp -dsimp [tblT, h0, h1, h2]
        and_intros
        all_goals try first | rfl | omega | exact ⟨by kernel_rfl⟩
        refine Fin.of ?_
        have h2' : ¬ p ≤ 7 := by omega
        simp [valB, inB, h0, h1, h2']
    · simp -dsimp [tblT, h0, h1]
      and_intros
      all_goals try first | rfl | omega | exact ⟨by kernel_rfl⟩
      refine Fin.of ?_
      simp [valB, inB, h0, h1]
  · simp -dsimp [tblT, h0]
    and_intros
    all_goals try first | rfl | omega | exact ⟨by kernel_rfl⟩
    refine Fin.of ?_
    simp [valB, h0]
theorem valB_iff {b : Tb} {p s : Int} : valB b p s = true ↔ chk b = 0 ∧ (0 ≤ p ∧ p ≤ 7) ∧ 0 ≤ s ∧ s ≤ 31 := by simp [valB, inB]
def nextV (b : Tb) (id p : Int) : Int := if valB b p 0 = true then hopB b id p else 0
theorem mnext_c (b : Tb) (hb : b.Sm) (id p : Int) : Contract Try.prog 34 [tblT b, .d (.int .i64 id), .d (.int .i64 p)] [] (.d (.int .i64 (nextV b id p))) [] [] := by
  refine contract_of Try.func34 rfl (fun E0 => ?_)
  refine awp.sound (g := .mk) (ow := []) (kp := (fun k => k == 0 || k == 1 || k == 2 || k == 3 || k == 6 || k == 7 || k == 12)) ?_
  rw [Try.ntmps34]
  simp -dsimp [tblT]
  refine ACall.of (mvalid_c b hb p 0) [] 0 ?_
  rcases (Bool.eq_false_or_eq_true (valB b p 0)).symm with h | h
  · simp -dsimp [tblT, h]
    and_intros
    all_goals try first | rfl | omega | exact ⟨by kernel_rfl⟩
    refine Fin.of ?_
    simp [nextV, h]
  · simp -dsimp [tblT, h]
    and_intros
    all_goals try first | rfl | omega | exact ⟨by kernel_rfl⟩
    refine ACall.of (trow_c b hb.rows hb.nx id) [] 0 ?_
    simp -dsimp [tblT, rowT, rwT]
    and_intros
    all_goals try first | rfl | omega | exact ⟨by kernel_rfl⟩
    refine ACall.of (next_c2 ((rowOf b id).getD ⟨0, []⟩) p (valB_iff.1 h).2.1 (rowOf_len hb id)) [] 0 ?_
    simp -dsimp [rwT]
    and_intros
    all_goals try first | rfl | omega | exact ⟨by kernel_rfl⟩
    refine Fin.of ?_
    simp [nextV, h, hopB]
theorem hop12_c (b : Tb) (hb : b.Sm) (id p : Int) (hp : 0 ≤ p ∧ p ≤ 7) : Contract Try.prog 37 [tblT b, .d (.int .i64 id), .d (.int .i64 p)] [] (.d (.int .i64 (hopB b id p))) [] [] := by
  refine contract_of Try.func37 rfl (fun E0 => ?_)
  refine awp.sound (g := .mk) (ow := []) (kp := (fun k => k == 0 || k == 1 || k == 2 || k == 3 || k == 6 || k == 7 || k == 8 || k == 22)) ?_
  rw [Try.ntmps37]
  simp -dsimp [tblT]
  refine ACall.of (row11_c b hb.rows hb.nx id) [] 0 ?_
  have hl := rowOf_len hb id
  unfold hopB
  cases hr : rowOf b id with
  | none =>
    simp -dsimp [tblT, rowT, rwT, hr]
    and_intros
    all_goals try first | rfl | omega | exact ⟨by kernel_rfl⟩
    refine Fin.of ?_
    simp [hopR]
  | some x =>
    rw [hr] at hl
    simp only [Option.getD_some] at hl ⊢
    by_cases h0 : x.nx.length = 0
    · have h0z : (x.nx.length : Int) = 0 := by omega
      simp -dsimp [tblT, rowT, rwT, hr, ints, h0, h0z]
      and_intros
      all_goals try first | rfl | omega | exact ⟨by kernel_rfl⟩
      refine Fin.of ?_
      simp [hopR, h0]
    · have h0z : ¬ (x.nx.length : Int) = 0 := by omega
      have e : p.tmod x.nx.length = p % x.nx.length := Int.tmod_eq_emod_of_nonneg hp.1
      have m1 := Int.emod_nonneg p (b := (x.nx.length : Int)) (by omega)
      have m2 := Int.emod_lt_of_pos p (b := (x.nx.length : Int)) (by omega)
      have hlt : (p % x.nx.length).toNat < x.nx.length := by omega
      have hg : x.nx[(p % x.nx.length).toNat]? = some x.nx[(p % x.nx.length).toNat] := List.getElem?_eq_getElem hlt
      simp -dsimp [tblT, rowT, rwT, hr, ints, h0, h0z, e, hg]
      and_intros
      all_goals try first | rfl | omega | exact ⟨by kernel_rfl⟩
      refine Fin.of ?_
      simp [hopR, h0, hg]
/-- how many planes lead to each next hop -/
def plnN (n k : Nat) : List Int := (List.range n).map fun i => (((List.range k).filter fun p => decide (p % n = i)).length : Int)
end Go.Proofs

/-
  What functions of the program compute, stated as contracts over plain data; the conditions of each stand in its own statement.
-/
import Derived.Test.YteenclepbpajdaaH7
set_option linter.unusedSimpArgs false
set_option maxRecDepth 100000
set_option maxHeartbeats 2000000
namespace Go.Proofs
open Go Go.Tr

def e0 : ByteArray := ⟨#[]⟩
def awP : Pn := ⟨0, 8, [⟨1, 1⟩, ⟨2, 8⟩, ⟨3, 9⟩]⟩
def awQ : Pk := ⟨1, 0, 0, 0, 5, 0, 0, 0, 0#64, e0⟩
theorem aw_sets : setsR awP [1, 8, 9] = ([⟨0, 129#64⟩, ⟨1, 1#64⟩], 0) := by
  have h1 : planB awP = true := planB_ok (by decide) (fun i hi => by
    simp [awP] at hi
    obtain rfl | rfl | rfl : i = 0 ∨ i = 1 ∨ i = 2 := by omega
    all_goals decide) (fun i j hj hi => by
    simp [awP] at hi
    obtain ⟨rfl, rfl⟩ | ⟨rfl, rfl⟩ | ⟨rfl, rfl⟩ : (i = 1 ∧ j = 0) ∨ (i = 2 ∧ j = 0) ∨ (i = 2 ∧ j = 1) := by omega
    all_goals decide)
  have h2 : ascB [1, 8, 9] = true := by
    simp only [ascB, decide_eq_true_eq]
    intro i h0 hi
    simp at hi
    obtain rfl | rfl : i = 1 ∨ i = 2 := by omega
    all_goals decide
  have h3 : ([1, 8, 9] : List Int).all (knownB awP) = true := by decide
  have h4 : sbAll awP.len [1, 8, 9] [] = [⟨0, 129#64⟩, ⟨1, 1#64⟩] := by
    have a1 : plSet 1 8 = 0 ∧ plBit 1 8 = 0 ∧ plSet 8 8 = 0 ∧ plBit 8 8 = 7 ∧ plSet 9 8 = 1 ∧ plBit 9 8 = 0 := by decide
    have a2 : bitB 0 = 1#64 ∧ bitB 7 = 128#64 := by decide
    simp [awP, sbAll, a1, a2, sbPut]
  simp [setsR, h1, h2, h3, h4]
theorem aw_val : packR awP [1, 8, 9] awQ = ([⟨1, 0, 0, 8, 5, 0, 0, 0, 129#64, e0⟩, ⟨1, 0, 1, 8, 5, 0, 0, 0, 1#64, e0⟩], 0) := by
  have v1 : validB 129#64 8 = true := by decide
  have v2 : validB 1#64 8 = true := by decide
  have v3 : e0.size = 0 := rfl
  unfold packR
  rw [aw_sets]
  simp [pkAll, Pk.ok, Pk.with, awP, awQ, insB, v1, v2, v3]
theorem awake_c : Contract Try.prog 13 [] [] (.d (.bool true)) [] [] := by
  have hc := packets_c awP (by decide) [1, 8, 9] (by decide) awQ
  rw [aw_val] at hc
  refine contract_of Try.func13 rfl (fun E0 => ?_)
  refine awp.sound (g := .mk) (ow := []) (kp := (fun k => k == 0 || k == 1 || k == 2 || k == 3)) ?_
  rw [Try.ntmps13]
  simp -dsimp
  refine ACall.of hc [] 0 ?_
  simp -dsimp [planT, awP, eds, Ed.cs, ints, pkT, Pk.cs, awQ, bv, e0, packT, pks, show tn 129#64 = 129 from rfl]
  try refine ⟨?_, ⟨by kernel_rfl⟩⟩
  refine Fin.of ?_
  simp
theorem pksEq_refl : ∀ l : List Pk, pksEq l l = true
  | [] => rfl
  | x :: l => by simp [pksEq, pkEq, pksEq_refl l]
theorem gPlanL_len (rs : List Rt) (len : Int) : ∀ (o : List Int) (T : Tp) (id : Int) (l : List Ed), (gPlanL rs len o T id l).1.length ≤ l.length + o.length
  | [], _, _, _ => by simp [gPlanL]
  | x :: o, T, id, l => by
    have h1 := gPlanL_len rs len o (gPlanS rs len x T id l).2.2 (gPlanS rs len x T id l).2.1 (gPlanS rs len x T id l).1
    have h2 : (gPlanS rs len x T id l).1.length ≤ l.length + 1 := by
      unfold gPlanS
      simp only
      split
      · simp
      · simp only
        split <;> simp
    simp only [gPlanL, List.length_cons]
    omega
theorem gPlan0_len (T : Tp) (rs : List Rt) : (gPlan0 T rs).1.es.length ≤ rs.length := by
  have := gPlanL_len rs (gPick (gNext T 3).2 [8, 8, 16, 32, 64]).1 (gOrder (gPick (gNext T 3).2 [8, 8, 16, 32, 64]).2 rs.length).1 (gOrder (gPick (gNext T 3).2 [8, 8, 16, 32, 64]).2 rs.length).2 0 []
  rw [gOrder_len] at this
  simpa [gPlan0] using this
theorem gPlan_len (T : Tp) (rs : List Rt) (n : Int) : (gPlan T rs n).1.es.length ≤ rs.length + 1 := by
  have := gPlan0_len T rs
  unfold gPlan
  simp only
  split
  · split
    · unfold gSpoilN
      simp only
      split
      · simp; omega
      · split
        · simp; omega
        · split
          · simp; omega
          · split
            · split
              · dsimp only; omega
              · rename_i h; simp [h] at this ⊢; omega
            · simp; omega
    · simp; omega
  · simp; omega
theorem gChL_len : ∀ (es : List Ed) (T : Tp) (l : List Int), (gChL es T l).1.length ≤ l.length + es.length
  | [], _, _ => by simp [gChL]
  | e :: es, T, l => by
    have h := gChL_len es (gNext T 3).2 (if 0 < (gNext T 3).1 then l ++ [e.id] else l)
    have h2 : (if 0 < (gNext T 3).1 then l ++ [e.id] else l).length ≤ l.length + 1 := by split <;> simp
    simp only [gChL, List.length_cons]
    omega
theorem gCh_len (T : Tp) (p : Pn) (n : Int) : (gCh T p n).1.length ≤ p.es.length + 1 := by
  have := gChL_len p.es T []
  unfold gCh
  simp only
  split
  · split
    · simp at this ⊢; omega
    · simp at this ⊢; omega
  · simp at this ⊢; omega
theorem gTopA_ok (cost tree : Int) (skip : Bool) (b : Int) : ∀ (n : Nat) (a : Int) (T : Tp) (l : List Lk), TapeOK (gTopA cost tree skip b n a T l).2 = TapeOK T
  | 0, _, _, _ => rfl
  | n + 1, a, T, l => by rw [gTopA, gTopA_ok cost tree skip b n, gTopS_ok]
theorem gTopB_ok (cost : Int) : ∀ (n : Nat) (b : Int) (T : Tp) (l : List Lk), TapeOK (gTopB cost n b T l).2 = TapeOK T
  | 0, _, _, _ => rfl
  | n + 1, b, T, l => by
    rw [gTopB, gTopB_ok cost n]
    simp only [gTopR]
    rw [gTopA_ok]; simp
@[simp] theorem gTop_ok (T : Tp) (most : Int) : TapeOK (gTop T most).2 = TapeOK T := by
  simp only [gTop]; rw [gTopB_ok]; simp
theorem gPlanL_ok (rs : List Rt) (len : Int) : ∀ (o : List Int) (T : Tp) (id : Int) (l : List Ed), TapeOK (gPlanL rs len o T id l).2.2 = TapeOK T
  | [], _, _, _ => rfl
  | x :: o, T, id, l => by
    rw [gPlanL, gPlanL_ok rs len o]
    unfold gPlanS
    simp only
    split <;> simp
@[simp] theorem gWild_ok (T : Tp) : TapeOK (gWild T).2 = TapeOK T := by simp [gWild]
@[simp] theorem gPlan_ok (T : Tp) (rs : List Rt) (n : Int) : TapeOK (gPlan T rs n).2 = TapeOK T := by
  have h0 : TapeOK (gPlan0 T rs).2.2 = TapeOK T := by simp [gPlan0, gPlanL_ok]
  unfold gPlan
  simp only
  split
  · split
    · unfold gSpoilN
      simp only
      split
      · simp [h0]
      · split
        · simp [h0]
        · split
          · simp [h0]
          · split
            · split <;> simp [h0]
            · simp [h0]
    · simp [h0]
  · exact h0
@[simp] theorem gPk0_ok (T : Tp) : TapeOK (gPk0 T).2 = TapeOK T := by simp [gPk0]
@[simp] theorem gPacket_ok (T : Tp) (n : Int) : TapeOK (gPacket T n).2 = TapeOK T := by
  unfold gPacket
  split
  · split
    · unfold gSpoilP
      simp only
      repeat' split
      all_goals simp
    · simp
  · simp
end Go.Proofs

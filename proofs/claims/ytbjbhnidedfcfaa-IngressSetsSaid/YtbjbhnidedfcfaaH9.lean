/-
  What functions of the program compute, stated as contracts over plain data; the conditions of each stand in its own statement.
-/
import Derived.Test.YtbjbhnidedfcfaaH8
import Derived.Test.YtbjbhnidedfcfaaT26
set_option linter.unusedSimpArgs false
set_option maxRecDepth 100000
set_option maxHeartbeats 2000000
namespace Go.Proofs
open Go Go.Tr

@[simp] theorem tape_obj (T : Tp) : isObj (tapeI T) = true := rfl
theorem gTop_rs (T : Tp) {most : Int} (h : 1 ≤ most) : ((gTop T most).1.rs.length : Int) ≤ most := by
  have := gRange_hi T (a := 1) (b := most) h
  have := gRange_lo T 1 most
  simp [gTop]
  omega
theorem pkAll_len (q : Pk) (p : Pn) : ∀ (l : List Sb) (out : List Pk), (pkAll q p l out).1.length ≤ out.length + l.length
  | [], out => by simp [pkAll]
  | s :: l, out => by
    have h := pkAll_len q p l (out ++ [q.with p s])
    simp only [pkAll]
    split
    · simp at h ⊢; omega
    · simp
theorem packR_len (p : Pn) (ids : List Int) (q : Pk) : (packR p ids q).1.length ≤ ids.length := by
  have h1 := setsR_len p ids
  have h2 := pkAll_len q p (setsR p ids).1 []
  unfold packR
  split
  · simp at h2; omega
  · simp
theorem packets_law (t raw : List Int) (ht : ∀ x ∈ t, I64 x) (hr : raw.length ≤ 9223372036854775807) (q : Pk) : Contract Try.prog 4 [.d (ints t), .d (ints raw), pkT q] [] (.d (.bool true)) [] [] := by
  refine contract_of Try.func4 rfl (fun E0 => ?_)
  refine awp.sound (g := .mk) (ow := []) (kp := (fun k => k == 0 || k == 1 || k == 2 || k == 5 || k == 6 || k == 7 || k == 8 || k == 9 || k == 10 || k == 11 || k == 12 || k == 13 || k == 14 || k == 48 || k == 51)) ?_
  rw [Try.ntmps4]
  simp -dsimp [pkT, Pk.cs]
  refine ACall.of (new_c t) [] 0 ?_
  simp -dsimp
  have k0 : TapeOK (t.take 600, 0) := ⟨by simp; omega, fun x hx => ht x (List.mem_of_mem_take hx)⟩
  generalize (t.take 600, 0) = T0 at k0 ⊢
  refine ACall.of (topo_c T0 k0 8 ⟨by omega, by omega⟩) [.o 10] 0 ?_
  simp -dsimp [topT]
  have k1 : TapeOK (gTop T0 8).2 := by simpa using k0
  have l1 := gTop_rs T0 (most := 8) (by omega)
  generalize gTop T0 8 = R1 at k1 l1 ⊢
  refine ACall.of (plan_c R1.2 k1 R1.1.rs R1.1.ls (by omega) 6 ⟨by omega, by omega⟩) [.o 10] 0 ?_
  simp -dsimp [planT]
  have k2 : TapeOK (gPlan R1.2 R1.1.rs 6).2 := by simpa using k1
  have l2 := gPlan_len R1.2 R1.1.rs 6
  generalize gPlan R1.2 R1.1.rs 6 = R2 at k2 l2 ⊢
  refine ACall.of (packet_c R2.2 k2 4 ⟨by omega, by omega⟩) [.o 10] 0 ?_
  simp -dsimp [pkT, Pk.cs]
  have k3 : TapeOK (gPacket R2.2 4).2 := by simpa using k2
  generalize gPacket R2.2 4 = R3 at k3 ⊢
  refine ACall.of (choose_c R3.2 k3 R2.1 (by omega) 4 ⟨by omega, by omega⟩) [.o 10] 0 ?_
  simp -dsimp [planT]
  have l4 := gCh_len R3.2 R2.1 4
  generalize gCh R3.2 R2.1 4 = R4 at l4 ⊢
  refine ACall.of (packets_c R2.1 (by omega) R4.1 (by omega) R3.1) [] 0 ?_
  simp -dsimp [planT, pkT, Pk.cs, packT]
  refine ACall.of (packets17_c R2.1 (by omega) R4.1 (by omega) R3.1) [] 0 ?_
  simp -dsimp [planT, pkT, Pk.cs, packT]
  have lA := packR_len R2.1 R4.1 R3.1
  generalize packR R2.1 R4.1 R3.1 = A at lA ⊢
  have e1 := pksEq_refl A.1
  refine ACall.of (same_c A.1 A.1 (by omega)) [] 0 ?_
  simp -dsimp [e1, ints]
  refine AIf.dec (fun h => ?_) (fun h => ?_)
  · simp -dsimp
    refine ACall.of awake_c [] 0 ?_
    simp -dsimp
    refine Fin.of ?_
    simp
  · simp -dsimp
    refine ACall.of (packets_c R2.1 (by omega) raw (by omega) q) [] 0 ?_
    simp -dsimp [planT, pkT, Pk.cs, packT, ints]
    refine ACall.of (packets17_c R2.1 (by omega) raw (by omega) q) [] 0 ?_
    simp -dsimp [planT, pkT, Pk.cs, packT, ints]
    have lB := packR_len R2.1 raw q
    generalize packR R2.1 raw q = B at lB ⊢
    have e2 := pksEq_refl B.1
    refine ACall.of (same_c B.1 B.1 (by omega)) [] 0 ?_
    simp -dsimp [e2]
    refine ACall.of awake_c [] 0 ?_
    simp -dsimp
    refine Fin.of ?_
    simp
theorem has_pk {ds : List D} (h : (Ty.st [.int .i64, .int .i64, .int .i64, .int .i64, .int .i64, .int .i64, .int .i64, .int .i64, .int .u64, .str]).has ds) : ∃ q : Pk, ds = q.cs := by
  simp only [Ty.has, Ty.hass] at h
  obtain ⟨_, _, rfl, ⟨a0, rfl, _⟩, _, _, rfl, ⟨a1, rfl, _⟩, _, _, rfl, ⟨a2, rfl, _⟩, _, _, rfl, ⟨a3, rfl, _⟩, _, _, rfl, ⟨a4, rfl, _⟩, _, _, rfl, ⟨a5, rfl, _⟩, _, _, rfl, ⟨a6, rfl, _⟩, _, _, rfl, ⟨a7, rfl, _⟩, _, _, rfl, ⟨a8, rfl, hw⟩, _, _, rfl, ⟨a9, rfl, _⟩, rfl⟩ := h
  obtain ⟨B, rfl⟩ := wf_u64 hw
  exact ⟨⟨a0, a1, a2, a3, a4, a5, a6, a7, B, a9⟩, rfl⟩
end Go.Proofs

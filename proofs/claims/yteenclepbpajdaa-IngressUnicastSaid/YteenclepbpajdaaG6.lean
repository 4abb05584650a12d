/-
  What functions of the program compute, stated as contracts over plain data; the conditions of each stand in its own statement.
-/
import Derived.Test.YteenclepbpajdaaG5
set_option linter.unusedSimpArgs false
set_option maxRecDepth 100000
set_option maxHeartbeats 2000000
namespace Go.Proofs
open Go Go.Tr

def insB (n m : Int) : Bool := decide (0 ≤ n) && decide (n ≤ m)
theorem in_c (n m : Int) : Contract Try.prog 63 [.d (.int .i64 n), .d (.int .i64 m)] [] (.d (.bool (insB n m))) [] [] := by
  refine contract_of Try.func63 rfl (fun E0 => ?_)
  refine awp.sound (g := .mk) (ow := []) (kp := (fun k => k == 0 || k == 1 || k == 4)) ?_
  rw [Try.ntmps63]
  by_cases h : 0 ≤ n
  · simp -dsimp [h]
    refine Fin.of ?_
    simp [insB, h]
  · simp -dsimp [h]
    refine Fin.of ?_
    simp [insB, h]
def validB (b : BitVec 64) (n : Int) : Bool := validLen n && decide (b &&& ~~~ fullB n = 0#64)
theorem full_c2 (n : Int) : Contract Try.prog 84 [.d (.int .i64 n)] [] (.d (bv (fullB n))) [] [] := by
  refine contract_of Try.func84 rfl (fun E0 => ?_)
  refine awp.sound (g := .mk) (ow := []) (kp := (fun k => k == 0 || k == 2 || k == 5)) ?_
  rw [Try.ntmps84]
  simp -dsimp [bv]
  refine ACall.of (validLength_c2 n) [] 0 ?_
  cases h : validLen n
  · simp -dsimp [h, bv]
    refine Fin.of ?_
    simp [fullB, h]
  · have hk : n = 8 ∨ n = 16 ∨ n = 32 ∨ n = 64 := by simp [validLen] at h; omega
    simp -dsimp [h, bv, wrap_i64 (n := 64 - n) (by omega) (by omega)]
    refine ⟨by omega, ?_⟩
    refine Fin.of ?_
    simp [fullB, h]
    rcases hk with rfl | rfl | rfl | rfl <;> decide
theorem validB_c2 (b : BitVec 64) (n : Int) : Contract Try.prog 64 [.d (bv b), .d (.int .i64 n)] [] (.d (.bool (validB b n))) [] [] := by
  refine contract_of Try.func64 rfl (fun E0 => ?_)
  refine awp.sound (g := .mk) (ow := []) (kp := (fun k => k == 0 || k == 1 || k == 4)) ?_
  rw [Try.ntmps64]
  simp -dsimp [bv]
  refine ACall.of (validLength_c2 n) [] 0 ?_
  cases h : validLen n
  · simp -dsimp [h, bv]
    refine Fin.of ?_
    simp [validB, h]
  · simp -dsimp [h, bv]
    refine ACall.of (full_c2 n) [] 0 ?_
    simp -dsimp [h, bv]
    refine Fin.of ?_
    simp [validB, h]
def Pk.ok (p : Pk) : Bool := decide (1 ≤ p.mode) && (decide (p.mode ≤ 3) && (insB p.subd 7 && (insB p.set 31 && (validB p.bits p.len && (insB p.ttl 63 && (insB p.ent 1023 && (insB p.ing 256 && (insB p.proto 7 && decide (p.pay.size ≤ 64)))))))))
theorem valid_c2 (p : Pk) : Contract Try.prog 40 [pkT p] [] (.d (.bool p.ok)) [] [] := by
  refine contract_of Try.func40 rfl (fun E0 => ?_)
  refine awp.sound (g := .mk) (ow := []) (kp := (fun k => k == 0 || k == 1 || k == 2)) ?_
  rw [Try.ntmps40]
  by_cases c1 : 1 ≤ p.mode
  rotate_left
  · simp -dsimp [pkT, Pk.cs, c1]
    try refine ⟨?_, ⟨by kernel_rfl⟩⟩
    refine Fin.of ?_
    simp [Pk.ok, c1]
  by_cases c2 : p.mode ≤ 3
  rotate_left
  · simp -dsimp [pkT, Pk.cs, c1, c2]
    try refine ⟨?_, ⟨by kernel_rfl⟩⟩
    refine Fin.of ?_
    simp [Pk.ok, c1, c2]
  simp -dsimp [pkT, Pk.cs, c1, c2]
  refine ACall.of (in_c p.subd 7) [] 0 ?_
  cases d0 : insB p.subd 7
  · simp -dsimp [pkT, Pk.cs, c1, c2, d0]
    try refine ⟨?_, ⟨by kernel_rfl⟩⟩
    refine Fin.of ?_
    simp [Pk.ok, c1, c2, d0]
  simp -dsimp [pkT, Pk.cs, c1, c2, d0]
  refine ACall.of (in_c p.set 31) [] 0 ?_
  cases d1 : insB p.set 31
  · simp -dsimp [pkT, Pk.cs, c1, c2, d0, d1]
    try refine ⟨?_, ⟨by kernel_rfl⟩⟩
    refine Fin.of ?_
    simp [Pk.ok, c1, c2, d0, d1]
  simp -dsimp [pkT, Pk.cs, c1, c2, d0, d1]
  refine ACall.of (validB_c2 p.bits p.len) [] 0 ?_
  cases d2 : validB p.bits p.len
  · simp -dsimp [pkT, Pk.cs, c1, c2, d0, d1, d2]
    try refine ⟨?_, ⟨by kernel_rfl⟩⟩
    refine Fin.of ?_
    simp [Pk.ok, c1, c2, d0, d1, d2]
  simp -dsimp [pkT, Pk.cs, c1, c2, d0, d1, d2]
  refine ACall.of (in_c p.ttl 63) [] 0 ?_
  cases d3 : insB p.ttl 63
  · simp -dsimp [pkT, Pk.cs, c1, c2, d0, d1, d2, d3]
    try refine ⟨?_, ⟨by kernel_rfl⟩⟩
    refine Fin.of ?_
    simp [Pk.ok, c1, c2, d0, d1, d2, d3]
  simp -dsimp [pkT, Pk.cs, c1, c2, d0, d1, d2, d3]
  refine ACall.of (in_c p.ent 1023) [] 0 ?_
  cases d4 : insB p.ent 1023
  · simp -dsimp [pkT, Pk.cs, c1, c2, d0, d1, d2, d3, d4]
    try refine ⟨?_, ⟨by kernel_rfl⟩⟩
    refine Fin.of ?_
    simp [Pk.ok, c1, c2, d0, d1, d2, d3, d4]
  simp -dsimp [pkT, Pk.cs, c1, c2, d0, d1, d2, d3, d4]
  refine ACall.of (in_c p.ing 256) [] 0 ?_
  cases d5 : insB p.ing 256
  · simp -dsimp [pkT, Pk.cs, c1, c2, d0, d1, d2, d3, d4, d5]
    try refine ⟨?_, ⟨by kernel_rfl⟩⟩
    refine Fin.of ?_
    simp [Pk.ok, c1, c2, d0, d1, d2, d3, d4, d5]
  simp -dsimp [pkT, Pk.cs, c1, c2, d0, d1, d2, d3, d4, d5]
  refine ACall.of (in_c p.proto 7) [] 0 ?_
  cases d6 : insB p.proto 7
  · simp -dsimp [pkT, Pk.cs, c1, c2, d0, d1, d2, d3, d4, d5, d6]
    try refine ⟨?_, ⟨by kernel_rfl⟩⟩
    refine Fin.of ?_
    simp [Pk.ok, c1, c2, d0, d1, d2, d3, d4, d5, d6]
  simp -dsimp [pkT, Pk.cs, c1, c2, d0, d1, d2, d3, d4, d5, d6]
  try refine ⟨?_, ⟨by kernel_rfl⟩⟩
  refine Fin.of ?_
  simp [Pk.ok, c1, c2, d0, d1, d2, d3, d4, d5, d6]
  omega
end Go.Proofs

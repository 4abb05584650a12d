/-
  What functions of the program compute, stated as contracts over plain data; the conditions of each stand in its own statement.
-/
import Derived.Test.YtkhneohilohhiaaC1
import Derived.Test.YtkhneohilohhiaaJ0
import Derived.Test.YtkhneohilohhiaaT27
set_option linter.unusedSimpArgs false
set_option maxRecDepth 100000
set_option maxHeartbeats 2000000
namespace Go.Proofs
open Go Go.Tr

def bv (B : BitVec 64) : D := .int .u64 (tn B)
def validLen (n : Int) : Bool := n == 8 || n == 16 || n == 32 || n == 64
def bitB (k : Int) : BitVec 64 := if k < 0 ∨ k > 63 then 0#64 else 1#64 <<< (IntKind.u64.wrap k).toNat

theorem validLength_c (n : Int) : Contract Try.prog 45 [.d (.int .i64 n)] [] (.d (.bool (validLen n))) [] [] := by
  refine contract_of Try.func45 rfl (fun E0 => ?_)
  refine awp.sound (g := .mk) (ow := []) (kp := (fun k => k == 0 || k == 2)) ?_
  rw [Try.ntmps45]
  by_cases h1 : n = 8 <;> by_cases h2 : n = 16 <;> by_cases h3 : n = 32 <;> first
    | omega
    | (simp -dsimp [h1, h2, h3]
       refine Fin.of ?_
       simp [validLen, h1, h2, h3])
theorem validLength_c2 (n : Int) : Contract Try.prog 67 [.d (.int .i64 n)] [] (.d (.bool (validLen n))) [] [] := by
  refine contract_of Try.func67 rfl (fun E0 => ?_)
  refine awp.sound (g := .mk) (ow := []) (kp := (fun k => k == 0 || k == 2)) ?_
  rw [Try.ntmps67]
  by_cases h1 : n = 8 <;> by_cases h2 : n = 16 <;> by_cases h3 : n = 32 <;> first
    | omega
    | (simp -dsimp [h1, h2, h3]
       refine Fin.of ?_
       simp [validLen, h1, h2, h3])
theorem bit_c (k : Int) : Contract Try.prog 23 [.d (.int .i64 k)] [] (.d (bv (bitB k))) [] [] := by
  refine contract_of Try.func23 rfl (fun E0 => ?_)
  refine awp.sound (g := .mk) (ow := []) (kp := (fun k => k == 0 || k == 2 || k == 8)) ?_
  rw [Try.ntmps23]
  by_cases h : k < 0
  · simp -dsimp [h]
    refine Fin.of ?_
    simp [bitB, h, bv]
  · simp -dsimp [h]
    refine AIf.dec (fun g => ?_) (fun g => ?_)
    · simp -dsimp
      refine Fin.of ?_
      simp [bitB, g, bv]
    · have h0 : 0 ≤ IntKind.u64.wrap k := by rw [wrap_emod]; omega
      simp -dsimp [h0]
      refine Fin.of ?_
      simp [bitB, g, h, bv]
/-- the bits below n -/
def fullN : Nat → BitVec 64
  | 0 => 0#64
  | n + 1 => fullN n ||| bitB n
def fullB (n : Int) : BitVec 64 := if validLen n = true then fullN n.toNat else 0#64
theorem full_c2 (n : Int) : Contract Try.prog 43 [.d (.int .i64 n)] [] (.d (bv (fullB n))) [] [] := by
  refine contract_of Try.func43 rfl (fun E0 => ?_)
  refine awp.sound (g := .mk) (ow := []) (kp := (fun k => k == 0 || k == 2 || k == 5)) ?_
  rw [Try.ntmps43]
  simp -dsimp [bv]
  refine ACall.of (validLength_c2 n) [] 0 ?_
  cases h : validLen n
  · simp -dsimp [h, bv]
    refine Fin.of ?_
    simp [fullB, h]
  · have hk : n = 8 ∨ n = 16 ∨ n = 32 ∨ n = 64 := by simp [validLen] at h; omega
    simp -dsimp [h, bv, wrap_i64 (n := 64 - n) (by omega) (by omega)]
    refine ⟨by omega, ?_⟩
    refine Fin.of ?_
    simp [fullB, h]
    rcases hk with rfl | rfl | rfl | rfl <;> decide
def inB (n lo hi : Int) : Bool := decide (lo ≤ n) && decide (n ≤ hi)
theorem inside10_c (n lo hi : Int) : Contract Try.prog 46 [.d (.int .i64 n), .d (.int .i64 lo), .d (.int .i64 hi)] [] (.d (.bool (inB n lo hi))) [] [] := by
  refine contract_of Try.func46 rfl (fun E0 => ?_)
  refine awp.sound (g := .mk) (ow := []) (kp := (fun k => k == 0 || k == 1 || k == 2 || k == 6)) ?_
  rw [Try.ntmps46]
  by_cases h : lo ≤ n
  · simp -dsimp [h]
    refine Fin.of ?_
    simp [inB, h]
  · simp -dsimp [h]
    refine Fin.of ?_
    simp [inB, h]
theorem in10_c (n lo hi : Int) : Contract Try.prog 84 [.d (.int .i64 n), .d (.int .i64 lo), .d (.int .i64 hi)] [] (.d (.bool (inB n lo hi))) [] [] := by
  refine contract_of Try.func84 rfl (fun E0 => ?_)
  refine awp.sound (g := .mk) (ow := []) (kp := (fun k => k == 0 || k == 1 || k == 2 || k == 6)) ?_
  rw [Try.ntmps84]
  by_cases h : lo ≤ n
  · simp -dsimp [h]
    refine Fin.of ?_
    simp [inB, h]
  · simp -dsimp [h]
    refine Fin.of ?_
    simp [inB, h]
theorem inside11_c (n lo hi : Int) : Contract Try.prog 44 [.d (.int .i64 n), .d (.int .i64 lo), .d (.int .i64 hi)] [] (.d (.bool (inB n lo hi))) [] [] := by
  refine contract_of Try.func44 rfl (fun E0 => ?_)
  refine awp.sound (g := .mk) (ow := []) (kp := (fun k => k == 0 || k == 1 || k == 2 || k == 6)) ?_
  rw [Try.ntmps44]
  by_cases h : lo ≤ n
  · simp -dsimp [h]
    refine Fin.of ?_
    simp [inB, h]
  · simp -dsimp [h]
    refine Fin.of ?_
    simp [inB, h]
theorem in11_c (n lo hi : Int) : Contract Try.prog 77 [.d (.int .i64 n), .d (.int .i64 lo), .d (.int .i64 hi)] [] (.d (.bool (inB n lo hi))) [] [] := by
  refine contract_of Try.func77 rfl (fun E0 => ?_)
  refine awp.sound (g := .mk) (ow := []) (kp := (fun k => k == 0 || k == 1 || k == 2 || k == 6)) ?_
  rw [Try.ntmps77]
  by_cases h : lo ≤ n
  · simp -dsimp [h]
    refine Fin.of ?_
    simp [inB, h]
  · simp -dsimp [h]
    refine Fin.of ?_
    simp [inB, h]
def plSet (id len : Int) : Int := if validLen len && inB id 1 256 then (id - 1) / len else 0
def plBit (id len : Int) : Int := if validLen len && inB id 1 256 then (id - 1) % len else 0
theorem plB (id len : Int) : 0 ≤ plSet id len ∧ plSet id len ≤ 255 ∧ 0 ≤ plBit id len ∧ plBit id len < 64 := by
  unfold plSet plBit
  split
  · rename_i h
    simp [validLen, inB] at h
    obtain ⟨((h | h) | h) | h, h1, h2⟩ := h <;> subst h <;> omega
  · omega
def placeT (id len : Int) : TV := .tup [.d (.int .i64 (plSet id len)), .d (.int .i64 (plBit id len)), .d (.bool (validLen len && inB id 1 256))]
theorem place10_c (id len : Int) : Contract Try.prog 22 [.d (.int .i64 id), .d (.int .i64 len)] [] (placeT id len) [] [] := by
  refine contract_of Try.func22 rfl (fun E0 => ?_)
  refine awp.sound (g := .mk) (ow := []) (kp := (fun k => k == 0 || k == 1 || k == 4 || k == 5 || k == 6 || k == 14)) ?_
  rw [Try.ntmps22]
  simp -dsimp
  refine ACall.of (validLength_c len) [] 0 ?_
  rcases (Bool.eq_false_or_eq_true (validLen len)).symm with a1 | a1
  · simp -dsimp [a1]
    refine Fin.of ?_
    simp [placeT, plSet, plBit, a1]
  · have hl : len = 8 ∨ len = 16 ∨ len = 32 ∨ len = 64 := by simp [validLen] at a1; omega
    simp -dsimp [a1]
    refine ACall.of (inside10_c id 1 256) [] 0 ?_
    rcases (Bool.eq_false_or_eq_true (inB id 1 256)).symm with a2 | a2
    · simp -dsimp [a1, a2]
      refine Fin.of ?_
      simp [placeT, plSet, plBit, a1, a2]
    · have hi : 1 ≤ id ∧ id ≤ 256 := by simpa [inB] using a2
      have e1 : (id - 1).tdiv len = (id - 1) / len := Int.tdiv_eq_ediv_of_nonneg (by omega)
      have e2 : (id - 1).tmod len = (id - 1) % len := Int.tmod_eq_emod_of_nonneg (by omega)
      have d1 : 0 ≤ (id - 1) / len ∧ (id - 1) / len ≤ 255 := by rcases hl with rfl | rfl | rfl | rfl <;> omega
      simp -dsimp [a1, a2, e1, e2, wrap_i64 (n := id - 1) (by omega) (by omega), wrap_i64 (n := (id - 1) / len) (by omega) (by omega)]
      refine ⟨by omega, ?_, ⟨by kernel_rfl⟩⟩
      refine Fin.of ?_
      simp [placeT, plSet, plBit, a1, a2]
theorem place10_c2 (id len : Int) : Contract Try.prog 63 [.d (.int .i64 id), .d (.int .i64 len)] [] (placeT id len) [] [] := by
  refine contract_of Try.func63 rfl (fun E0 => ?_)
  refine awp.sound (g := .mk) (ow := []) (kp := (fun k => k == 0 || k == 1 || k == 4 || k == 5 || k == 6 || k == 14)) ?_
  rw [Try.ntmps63]
  simp -dsimp
  refine ACall.of (validLength_c2 len) [] 0 ?_
  rcases (Bool.eq_false_or_eq_true (validLen len)).symm with a1 | a1
  · simp -dsimp [a1]
    refine Fin.of ?_
    simp [placeT, plSet, plBit, a1]
  · have hl : len = 8 ∨ len = 16 ∨ len = 32 ∨ len = 64 := by simp [validLen] at a1; omega
    simp -dsimp [a1]
    refine ACall.of (in10_c id 1 256) [] 0 ?_
    rcases (Bool.eq_false_or_eq_true (inB id 1 256)).symm with a2 | a2
    · simp -dsimp [a1, a2]
      refine Fin.of ?_
      simp [placeT, plSet, plBit, a1, a2]
    · have hi : 1 ≤ id ∧ id ≤ 256 := by simpa [inB] using a2
      have e1 : (id - 1).tdiv len = (id - 1) / len := Int.tdiv_eq_ediv_of_nonneg (by omega)
      have e2 : (id - 1).tmod len = (id - 1) % len := Int.tmod_eq_emod_of_nonneg (by omega)
      have d1 : 0 ≤ (id - 1) / len ∧ (id - 1) / len ≤ 255 := by rcases hl with rfl | rfl | rfl | rfl <;> omega
      simp -dsimp [a1, a2, e1, e2, wrap_i64 (n := id - 1) (by omega) (by omega), wrap_i64 (n := (id - 1) / len) (by omega) (by omega)]
      refine ⟨by omega, ?_, ⟨by kernel_rfl⟩⟩
      refine Fin.of ?_
      simp [placeT, plSet, plBit, a1, a2]
def atB (set bit len : Int) : Bool := validLen len && (inB bit 0 (len - 1) && (inB set 0 31 && decide (set * len + bit + 1 ≤ 256)))
def atT (set bit len : Int) : TV := .tup [.d (.int .i64 (if atB set bit len then set * len + bit + 1 else 0)), .d (.bool (atB set bit len))]
theorem at10_c (set bit len : Int) : Contract Try.prog 70 [.d (.int .i64 set), .d (.int .i64 bit), .d (.int .i64 len)] [] (atT set bit len) [] [] := by
  refine contract_of Try.func70 rfl (fun E0 => ?_)
  refine awp.sound (g := .mk) (ow := []) (kp := (fun k => k == 0 || k == 1 || k == 2 || k == 6 || k == 7 || k == 8 || k == 23 || k == 31)) ?_
  rw [Try.ntmps70]
  simp -dsimp
  refine ACall.of (validLength_c len) [] 0 ?_
  rcases (Bool.eq_false_or_eq_true (validLen len)).symm with a1 | a1
  · simp -dsimp [a1]
    try refine ⟨?_, ⟨by kernel_rfl⟩⟩
    refine Fin.of ?_
    simp [atT, atB, a1]
  · have hl : len = 8 ∨ len = 16 ∨ len = 32 ∨ len = 64 := by simp [validLen] at a1; omega
    simp -dsimp [a1, wrap_i64 (n := len - 1) (by omega) (by omega)]
    refine ACall.of (inside10_c bit 0 (len - 1)) [] 0 ?_
    rcases (Bool.eq_false_or_eq_true (inB bit 0 (len - 1))).symm with a2 | a2
    · simp -dsimp [a1, a2]
      try refine ⟨?_, ⟨by kernel_rfl⟩⟩
      refine Fin.of ?_
      simp [atT, atB, a1, a2]
    · simp -dsimp [a1, a2]
      refine ACall.of (inside10_c set 0 31) [] 0 ?_
      rcases (Bool.eq_false_or_eq_true (inB set 0 31)).symm with a3 | a3
      · simp -dsimp [a1, a2, a3]
        try refine ⟨?_, ⟨by kernel_rfl⟩⟩
        refine Fin.of ?_
        simp [atT, atB, a1, a2, a3]
      · have b2 : 0 ≤ bit ∧ bit ≤ len - 1 := by simpa [inB] using a2
        have b3 : 0 ≤ set ∧ set ≤ 31 := by simpa [inB] using a3
        have b4 : 0 ≤ set * len ∧ set * len ≤ 1984 := by rcases hl with rfl | rfl | rfl | rfl <;> omega
        by_cases a4 : set * len + bit + 1 ≤ 256
        · have a5 : ¬ 256 < set * len + bit + 1 := by omega
          simp -dsimp [a1, a2, a3, a4, a5, wrap_i64 (n := set * len) (by omega) (by omega), wrap_i64 (n := set * len + bit) (by omega) (by omega), wrap_i64 (n := set * len + bit + 1) (by omega) (by omega)]
          try refine ⟨?_, ⟨by kernel_rfl⟩⟩
          refine Fin.of ?_
          simp [atT, atB, a1, a2, a3, a4]
        · have a5 : 256 < set * len + bit + 1 := by omega
          simp -dsimp [a1, a2, a3, a4, a5, wrap_i64 (n := set * len) (by omega) (by omega), wrap_i64 (n := set * len + bit) (by omega) (by omega), wrap_i64 (n := set * len + bit + 1) (by omega) (by omega)]
          try refine ⟨?_, ⟨by kernel_rfl⟩⟩
          refine Fin.of ?_
          simp [atT, atB, a1, a2, a3, a4]
theorem plane_c (p : Int) : Contract Try.prog 49 [.d (.int .i64 p)] [] (.d (.bool (inB p 0 7))) [] [] := by
  refine contract_of Try.func49 rfl (fun E0 => ?_)
  refine awp.sound (g := .mk) (ow := []) (kp := (fun k => k == 0 || k == 2)) ?_
  rw [Try.ntmps49]
  by_cases h : 0 ≤ p
  · simp -dsimp [h]
    refine Fin.of ?_
    simp [inB, h]
    omega
  · simp -dsimp [h]
    refine Fin.of ?_
    simp [inB, h]
end Go.Proofs

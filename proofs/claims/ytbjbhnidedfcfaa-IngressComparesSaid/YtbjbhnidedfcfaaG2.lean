/-
  What functions of the program compute, stated as contracts over plain data; the conditions of each stand in its own statement.
-/
import Derived.Test.YtbjbhnidedfcfaaG1
set_option linter.unusedSimpArgs false
namespace Go.Proofs
open Go Go.Tr

def bv (B : BitVec 64) : D := .int .u64 (tn B)
def validLen (n : Int) : Bool := n == 8 || n == 16 || n == 32 || n == 64
def bitB (k : Int) : BitVec 64 := if k < 0 ∨ k > 63 then 0#64 else 1#64 <<< (IntKind.u64.wrap k).toNat

theorem validLength_c (n : Int) : Contract Try.prog 73 [.d (.int .i64 n)] [] (.d (.bool (validLen n))) [] [] := by
  refine contract_of Try.func73 rfl (fun E0 => ?_)
  refine awp.sound (g := .mk) (ow := []) (kp := (fun k => k == 0 || k == 2)) ?_
  rw [Try.ntmps73]
  by_cases h1 : n = 8 <;> by_cases h2 : n = 16 <;> by_cases h3 : n = 32 <;> first
    | omega
    | (simp -dsimp [h1, h2, h3]
       refine Fin.of ?_
       simp [validLen, h1, h2, h3])
theorem validLength_c2 (n : Int) : Contract Try.prog 88 [.d (.int .i64 n)] [] (.d (.bool (validLen n))) [] [] := by
  refine contract_of Try.func88 rfl (fun E0 => ?_)
  refine awp.sound (g := .mk) (ow := []) (kp := (fun k => k == 0 || k == 2)) ?_
  rw [Try.ntmps88]
  by_cases h1 : n = 8 <;> by_cases h2 : n = 16 <;> by_cases h3 : n = 32 <;> first
    | omega
    | (simp -dsimp [h1, h2, h3]
       refine Fin.of ?_
       simp [validLen, h1, h2, h3])
theorem bit_c (k : Int) : Contract Try.prog 63 [.d (.int .i64 k)] [] (.d (bv (bitB k))) [] [] := by
  refine contract_of Try.func63 rfl (fun E0 => ?_)
  refine awp.sound (g := .mk) (ow := []) (kp := (fun k => k == 0 || k == 2 || k == 8)) ?_
  rw [Try.ntmps63]
  by_cases h : k < 0
  · simp -dsimp [h]
    refine Fin.of ?_
    simp [bitB, h, bv]
  · simp -dsimp [h]
    refine AIf.dec (fun g => ?_) (fun g => ?_)
    · simp -dsimp
      refine Fin.of ?_
      simp [bitB, g, bv]
    · have h0 : 0 ≤ IntKind.u64.wrap k := by rw [wrap_emod]; omega
      simp -dsimp [h0]
      refine Fin.of ?_
      simp [bitB, g, h, bv]
/-- the bits below n -/
def fullN : Nat → BitVec 64
  | 0 => 0#64
  | n + 1 => fullN n ||| bitB n
def fullB (n : Int) : BitVec 64 := if validLen n = true then fullN n.toNat else 0#64
theorem full_c (k : Int) : Contract Try.prog 64 [.d (.int .i64 k)] [] (.d (bv (fullB k))) [] [] := by
  refine contract_of Try.func64 rfl (fun E0 => ?_)
  refine awp.sound (g := .mk) (ow := []) (kp := (fun k => k == 0 || k == 2 || k == 3 || k == 4 || k == 7 || k == 10)) ?_
  rw [Try.ntmps64]
  simp -dsimp
  refine ACall.of (validLength_c k) [] 0 ?_
  cases hv : validLen k
  · simp -dsimp [hv]
    refine Fin.of ?_
    simp [fullB, hv, bv]
  · have hk : 0 ≤ k ∧ k ≤ 64 := by simp [validLen] at hv; omega
    simp -dsimp [hv]
    refine ALoop.of [] (fun k => k == 0 || k == 2 || k == 3 || k == 4 || k == 7 || k == 10) (ι := { i : Nat // (i : Int) ≤ k }) (fun i => [(Pl.s 0, It.v (TV.d (D.int IntKind.i64 k))), (Pl.s 2, It.v (TV.d (D.int IntKind.u64 0))),
        (Pl.s 3, It.v (TV.d (bv (fullN i.1)))), (Pl.s 4, It.v (TV.d (D.int IntKind.i64 i.1)))]) (fun i => k.toNat - i.1) ⟨0, hk.1⟩ ?_ ?_
    · exact GS.to (by simp [fullN, bv])
    · rintro ⟨i, hi⟩
      simp -dsimp [bv]
      refine AIf.dec (fun h => ?_) (fun h => ?_)
      · simp -dsimp [bv]
        refine ACall.of (bit_c i) [] 0 ?_
        simp -dsimp [bv, wrap_i64 (n := (i : Int) + 1) (by omega) (by omega)]
        refine ⟨⟨i + 1, by omega⟩, GS.to (by simp [fullN, bv]), by simp; omega⟩
      · simp -dsimp [bv]
        refine Fin.of ?_
        have : k.toNat = i := by omega
        simp [fullB, hv, bv, this]
def gTextL : Nat → Tp → List Int × Tp
  | 0, T => ([], T)
  | n + 1, T => ((gNext T 256).1 :: (gTextL n (gNext T 256).2).1, (gTextL n (gNext T 256).2).2)
def gText (T : Tp) (most : Int) : List Int × Tp := gTextL (gRange T 0 most).1.toNat (gRange T 0 most).2
theorem text_c (T : Tp) (hT : TapeOK T) (k : Int) (hk : 0 ≤ k ∧ k ≤ 100) : Contract Try.prog 45 [.ptr (.x 0) 0, .d (.int .i64 k)] [tapeI T] (.d (.str (strOf (gText T k).1))) [tapeI (gText T k).2] [] := by
  have hr := gRange_lo T 0 k
  have hr' := gRange_hi T (a := 0) (b := k) (by omega)
  refine contract_of Try.func45 rfl (fun E0 => ?_)
  refine awp.sound (g := .mk) (ow := []) (kp := (fun k => k == 0 || k == 1 || k == 4 || k == 5 || k == 6 || k == 11)) ?_
  rw [Try.ntmps45]
  simp -dsimp
  refine ACall.of (range_c T hT 0 k ⟨by omega, by omega⟩ ⟨by omega, by omega⟩ ⟨by omega, by omega⟩ ⟨by omega, by omega⟩) [.x 0] 0 ?_
  simp -dsimp
  refine ALoop.of [5] (fun k => k == 0 || k == 1 || k == 4 || k == 5 || k == 6 || k == 11) (ι := { i : Nat × Tp × List Int // TapeOK i.2.1 ∧ i.1 ≤ 100 ∧ i.2.2.length + i.1 ≤ 100 ∧ (gText T k) = (i.2.2 ++ (gTextL i.1 i.2.1).1, (gTextL i.1 i.2.1).2) }) (fun i => [(Pl.s 0, It.v (TV.ptr (Pl.x 0) 0)), (Pl.s 1, It.v (TV.d (D.int IntKind.i64 k))),
        (Pl.x 0, tapeI i.1.2.1), (Pl.s 4, It.v (TV.d (D.str ⟨#[]⟩))),
        (Pl.s 5, It.v (.oref 5 i.1.2.2.length)), (Pl.s 6, It.v (TV.d (D.int IntKind.i64 i.1.1))), (.o 5, .row 5 1 (dd (i.1.2.2.map fun n => [.int .u8 n])) false)]) (fun i => i.1.1) ⟨((gRange T 0 k).1.toNat, (gRange T 0 k).2, []), by simpa using hT, by simp; omega, by simp; omega, by simp [gText]⟩ ?_ ?_
  · refine GS.own' (k := 5) 5 1 (by simp) (by simp) ?_
    simp
    omega
  · rintro ⟨⟨i, T', l⟩, h1, h2, h3, h4⟩
    simp only at h1 h2 h3 h4
    simp -dsimp
    refine AIf.dec (fun h => ?_) (fun h => ?_)
    · obtain ⟨i, rfl⟩ : ∃ j, i = j + 1 := ⟨i - 1, by omega⟩
      simp -dsimp
      refine ACall.of (next_c T' h1 256 ⟨by omega, by omega⟩) [.x 0] 0 ?_
      have g1 := gNext_nonneg T' 256
      have g2 := gNext_lt T' (n := 256) (by omega)
      simp -dsimp [wrap_u8 g1 (show (gNext T' 256).1 ≤ 255 by omega), wrap_i64 (n := (i : Int)) (by omega) (by omega)]
      and_intros
      all_goals try first | omega | (simp; omega)
      refine ⟨⟨(i, (gNext T' 256).2, l ++ [(gNext T' 256).1]), by simpa using h1, by omega, by simp; omega, by simp [h4, gTextL]⟩, GS.to (by simp), by simp⟩
    · obtain rfl : i = 0 := by omega
      simp -dsimp
      refine Fin.of ?_
      simp [h4, gTextL]
end Go.Proofs

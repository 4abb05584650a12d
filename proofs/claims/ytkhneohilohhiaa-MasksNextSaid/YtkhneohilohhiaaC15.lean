/-
  What functions of the program compute, stated as contracts over plain data; the conditions of each stand in its own statement.
-/
import Derived.Test.YtkhneohilohhiaaC14
set_option linter.unusedSimpArgs false
set_option maxRecDepth 100000
set_option maxHeartbeats 4000000
namespace Go.Proofs
open Go Go.Tr

def awT : Tb := ⟨1, 0, 8, [⟨1, [2, 3]⟩, ⟨2, [3]⟩]⟩
theorem awT_sm : awT.Sm := ⟨by simp [awT], by simp [awT]⟩
theorem aw0 : allR awT 0 0 99 = [(2, 1#64), (3, 2#64)] := by decide +kernel
theorem aw1 : allR awT 1 0 99 = [(3, 3#64)] := by decide +kernel
theorem tn2 : tn 2#64 = 2 := by decide
theorem tn3 : tn 3#64 = 3 := by decide
theorem awake_c : Contract Try.prog 10 [] [] (.d (.bool true)) [] [] := by
  have h0 := all_c awT awT_sm 0 0
  have h1 := all_c awT awT_sm 1 0
  rw [allP_eq, aw0] at h0
  rw [allP_eq, aw1] at h1
  refine contract_of Try.func10 rfl (fun E0 => ?_)
  refine awp.sound (g := .mk) (ow := []) (kp := (fun k => k == 0 || k == 1 || k == 2 || k == 3)) ?_
  rw [Try.ntmps10]
  simp -dsimp
  refine ACall.of h0 [] 0 ?_
  simp -dsimp [tblT, awT, rwsD, Rw.cs, ints, mskD, bv, tn2, tn3]
  refine ACall.of h1 [] 0 ?_
  simp -dsimp [tblT, awT, rwsD, Rw.cs, ints, mskD, bv, tn2, tn3]
  and_intros
  all_goals try first | rfl | omega | exact ⟨by kernel_rfl⟩
  refine Fin.of ?_
  simp
def plOK (n : Nat) : Bool := (plnN n 8).all (fun c => decide (0 ≤ c ∧ c ≤ 8 ∧ c - (plnN n 8).headD 0 ≤ 1 ∧ (plnN n 8).headD 0 - c ≤ 1)) && (n == 0 || decide ((plnN n 8).sum = 8))
theorem plOK_all : ∀ n, n < 41 → plOK n = true := by decide +kernel
theorem sum_bd (L : List Int) (h : ∀ c ∈ L, 0 ≤ c ∧ c ≤ 8) : 0 ≤ L.sum ∧ L.sum ≤ 8 * L.length := by
  induction L with
  | nil => simp
  | cons c L ih =>
    have h1 := h c (by simp)
    have h2 := ih fun d hd => h d (by simp [hd])
    simp only [List.sum_cons, List.length_cons]
    omega
theorem share_law (raw : List Int) (hr : raw.length ≤ 9223372036854775807) : Contract Try.prog 3 [.d (ints raw)] [] (.d (.bool true)) [] [] := by
  refine contract_of Try.func3 rfl (fun E0 => ?_)
  refine awp.sound (g := .mk) (ow := []) (kp := (fun k => k == 0 || k == 2 || k == 3 || k == 4 || k == 5 || k == 8 || k == 17 || k == 21 || k == 56)) ?_
  rw [Try.ntmps3]
  by_cases hb : raw.length ≤ 40
  · have hz : ¬ (40 : Int) < raw.length := by omega
    simp -dsimp [ints, hz]
    have hP := planes_c ⟨1, raw⟩ (by simp; omega)
    have hL := plnN_len raw.length 8
    have hok := plOK_all raw.length (by omega)
    simp only [plOK, Bool.and_eq_true, List.all_eq_true, decide_eq_true_eq] at hok
    obtain ⟨hall, hsum⟩ := hok
    generalize plnN raw.length 8 = L at hP hL hall hsum
    refine ACall.of hP [] 0 ?_
    have hLz : (L.length : Int) = raw.length := by omega
    simp -dsimp [rwT, ints, hL]
    and_intros
    all_goals try first | rfl | omega | exact ⟨by kernel_rfl⟩
    refine ALoop.of [] (fun k => k == 0 || k == 2 || k == 3 || k == 4 || k == 5 || k == 8 || k == 17 || k == 21 || k == 56) (ι := { i : Nat // i ≤ L.length })
      (fun z => [(Pl.s 0, It.v (TV.d (ints raw))), (Pl.s 2, It.v (TV.d (D.bool false))), (Pl.s 3, It.v (TV.d (ints L))), (Pl.s 4, It.v (TV.d (D.int IntKind.i64 (L.take z.1).sum))), (Pl.s 5, It.v (TV.d (D.int IntKind.i64 z.1)))]) (fun z => L.length - z.1) ⟨0, by omega⟩ ?_ ?_
    · exact GS.to (by simp [ints])
    · rintro ⟨i, i1⟩
      by_cases hi : i < L.length
      · have hiz : (i : Int) < L.length := by omega
        have hg : L[i]? = some L[i] := List.getElem?_eq_getElem hi
        have h0 : L[0]? = some (L.headD 0) := by cases L <;> simp at hi ⊢
        have hc := hall L[i] (List.getElem_mem hi)
        have hs : (L.take (i + 1)).sum = (L.take i).sum + L[i] := by rw [List.take_add_one, hg, List.sum_append]; simp
        have hbd := sum_bd (L.take i) fun c hc => by have := hall c (List.mem_of_mem_take hc); omega
        have htl : (L.take i).length ≤ 40 := by simp; omega
        have h00 := hall (L.headD 0) (List.mem_of_getElem? h0)
        generalize L[i] = c at hg hc hs
        generalize L.headD 0 = d at h0 hc h00
        generalize (L.take i).sum = S at hs hbd ⊢
        have e1 : ¬ 1 < c - d := by omega
        have e2 : ¬ 1 < d - c := by omega
        have e3 : ¬ c < 0 := by omega
        have hpos : (0 : Int) < L.length := by omega
        simp -dsimp [ints, hiz, hg, h0, e1, e2, e3, hpos, wrap_i64 (n := S + c) (by omega) (by omega), wrap_i64 (n := c - d) (by omega) (by omega), wrap_i64 (n := d - c) (by omega) (by omega), wrap_i64 (n := (i : Int) + 1) (by omega) (by omega)]
        and_intros
        all_goals try first | rfl | omega | exact ⟨by kernel_rfl⟩
        exact ⟨⟨i + 1, by omega⟩, GS.to (by simp [ints, hs]), by simp; omega⟩
      · obtain rfl : i = L.length := by omega
        have hts : L.take L.length = L := List.take_length
        by_cases h0 : raw.length = 0
        · have h0z : (raw.length : Int) = 0 := by omega
          simp -dsimp [ints, hts, h0, h0z]
          and_intros
          all_goals try first | rfl | omega | exact ⟨by kernel_rfl⟩
          refine ACall.of awake_c [] 0 ?_
          simp -dsimp
          and_intros
          all_goals try first | rfl | omega | exact ⟨by kernel_rfl⟩
          refine Fin.of ?_
          simp
        · have h0z : ¬ (raw.length : Int) = 0 := by omega
          have h8 : L.sum = 8 := by
            rw [Bool.or_eq_true, beq_iff_eq, decide_eq_true_eq] at hsum
            exact hsum.resolve_left h0
          simp -dsimp [ints, hts, h0, h0z, h8]
          and_intros
          all_goals try first | rfl | omega | exact ⟨by kernel_rfl⟩
          refine ACall.of awake_c [] 0 ?_
          simp -dsimp
          and_intros
          all_goals try first | rfl | omega | exact ⟨by kernel_rfl⟩
          refine Fin.of ?_
          simp
  · have hz : (40 : Int) < raw.length := by omega
    simp -dsimp [ints, hz]
    refine ACall.of awake_c [] 0 ?_
    simp -dsimp
    and_intros
    all_goals try first | rfl | omega | exact ⟨by kernel_rfl⟩
    refine Fin.of ?_
    simp
end Go.Proofs

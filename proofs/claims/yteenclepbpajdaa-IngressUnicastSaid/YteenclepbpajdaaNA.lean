/-
  What functions of the program compute, stated as contracts over plain data; the conditions of each stand in its own statement.
-/
import Derived.Test.YteenclepbpajdaaN4
import Derived.Test.YteenclepbpajdaaT26
set_option linter.unusedSimpArgs false
set_option maxRecDepth 100000
set_option maxHeartbeats 2000000
namespace Go.Proofs
open Go Go.Tr
theorem chk_parts {b : Tb} (h : chk b = 0) : b.head ∧ b.rows.length ≤ 256 ∧ (∀ x ∈ b.rows, x.nx.length ≤ 24) ∧ ∀ x ∈ b.rows, ¬ (1 < x.nx.length ∧ b.r ∈ x.nx) := by
  unfold chk at h
  split at h
  · simp at h
  rename_i h1
  split at h
  · simp at h
  split at h
  · simp at h
  rename_i h2
  split at h
  · simp at h
  rename_i h3
  split at h
  · simp at h
  split at h
  · simp at h
  rename_i h4
  exact ⟨Classical.byContradiction fun g => h1 g, by omega, fun x hx => Nat.le_of_not_lt fun g => h3 ⟨x, hx, g⟩, fun x hx g => h4 ⟨x, hx, g⟩⟩
theorem chk_sm {b : Tb} (h : chk b = 0) : b.Sm := ⟨by have := (chk_parts h).2.1; omega, fun x hx => by have := (chk_parts h).2.2.1 x hx; omega⟩

@[simp] theorem isObj_tape (T : Tp) : isObj (tapeI T) = true := rfl
theorem tape_new (L : List Int) (h : ∀ x ∈ L, I64 x) : TapeOK (L.take 600, 0) := ⟨by simp; omega, fun x hx => h x (List.mem_of_mem_take hx)⟩
theorem gDom_ok (T : Tp) {most : Int} (hm : 1 ≤ most ∧ most ≤ 24) : (gDom T most).2.2.1.length ≤ 24 ∧ (∀ b ∈ (gDom T most).2.2.1, chk b = 0) ∧ TapeOK (gDom T most).2.2.2 = TapeOK T ∧ (gDom T most).2.1.es.length ≤ 24 ∧ 1 ≤ (gDom T most).1.rs.length ∧ (gDom T most).1.rs.length ≤ 24 := by
  have hs := gTop_small T hm
  obtain ⟨h1, h2⟩ := gPlan_zero (gTop T most).2 (gTop T most).1.rs
  refine ⟨all11_len _ _, all11_ok _ _, h1.trans (by simp), Nat.le_trans h2 hs.1, ?_, hs.1⟩
  have b1 := gRange_lo T 1 most
  simp [gDom, gTop, gRts]
  omega
theorem gChL_tape : ∀ (es : List Ed) (T : Tp) (l : List Int), TapeOK (gChL es T l).2 = TapeOK T
  | [], _, _ => rfl
  | e :: es, T, l => by rw [gChL, gChL_tape es]; simp
theorem gCh_tape (T : Tp) (p : Pn) (n : Int) : TapeOK (gCh T p n).2 = TapeOK T := by
  unfold gCh
  simp only
  split
  · split <;> simp [gChL_tape]
  · simp [gChL_tape]
theorem rangeS_c (T : Tp) (hT : TapeOK T) (a b : Int) (h : -1000 ≤ a ∧ a ≤ b ∧ b ≤ 1000) : Contract Try.prog 9 [.ptr (.x 0) 0, .d (.int .i64 a), .d (.int .i64 b)] [tapeI T] (.d (.int .i64 (gRange T a b).1)) [tapeI (gRange T a b).2] [] := by
  have h1 := gRange_lo T a b
  have h2 := gRange_hi T (a := a) (b := b) (by omega)
  exact range_c T hT a b ⟨by omega, by omega⟩ ⟨by omega, by omega⟩ ⟨by omega, by omega⟩ ⟨by omega, by omega⟩
theorem unicast_law (L raw : List Int) (hL : ∀ x ∈ L, I64 x) (hr : raw.length ≤ 9223372036854775807) (r plane : Int) : Contract Try.prog 3 [.d (ints L), .d (ints raw), .d (.int .i64 r), .d (.int .i64 plane)] [] (.d (.bool true)) [] [] := by
  refine contract_of Try.func3 rfl (fun E0 => ?_)
  refine awp.sound (g := .mk) (ow := []) (kp := (fun k => k == 0 || k == 1 || k == 2 || k == 3 || k == 8 || k == 9 || k == 10 || k == 11 || k == 12 || k == 13 || k == 14 || k == 15 || k == 16 || k == 17 || k == 18 || k == 19 || k == 29 || k == 72)) ?_
  rw [Try.ntmps3]
  simp -dsimp [ints]
  refine ACall.of (new_c L) [] 3000 ?_
  simp -dsimp [ints]
  have kT : TapeOK (L.take 600, 0) := tape_new L hL
  generalize (L.take 600, 0) = T0 at kT ⊢
  refine ACall.of (domain_c T0 kT 6 (by omega)) [.o 3010] 0 ?_
  obtain ⟨d1, d2, d3, d4, d5, d6⟩ := gDom_ok T0 (most := 6) (by omega)
  have kD : TapeOK (gDom T0 6).2.2.2 := d3.symm ▸ kT
  clear d3
  generalize gDom T0 6 = D0 at d1 d2 d4 d5 d6 kD ⊢
  simp -dsimp [topT, planT]
  refine ACall.of (one_c D0.2.2.2 kD 3 ⟨by omega, by omega⟩ ⟨by omega, by omega⟩) [.o 3010] 0 ?_
  have hsX : SmL D0.2.2.1 := ⟨by omega, fun b hb => chk_sm (d2 b hb)⟩
  have hrw : ∀ b ∈ D0.2.2.1, b.rows.length ≤ 256 ∧ ∀ x ∈ b.rows, x.nx.length ≤ 24 := fun b hb => ⟨(chk_parts (d2 b hb)).2.1, (chk_parts (d2 b hb)).2.2.1⟩
  have kO : TapeOK (gOne D0.2.2.2 3).2 := by simpa using kD
  generalize gOne D0.2.2.2 3 = o at kO ⊢
  rcases (Bool.eq_false_or_eq_true o.1).symm with ho | ho
  · obtain ⟨T2, hT2⟩ : ∃ T2, o.2 = T2 := ⟨_, rfl⟩
    rw [hT2] at kO ⊢
    have kT2 := kO
    generalize D0.2.2.1 = X at hsX ⊢
    simp -dsimp [ho, topT, planT]
    refine ACall.of (choose_c T2 kT2 D0.2.1 (by omega) 4 ⟨by omega, by omega⟩) [.o 3010] 0 ?_
    have k3 : TapeOK (gCh T2 D0.2.1 4).2 := by rw [gCh_tape]; exact kT2
    have l3 := gCh_len T2 D0.2.1 4
    generalize gCh T2 D0.2.1 4 = C at k3 l3 ⊢
    simp -dsimp [planT, ints]
    refine ACall.of (rangeS_c C.2 k3 (-1) 8 (by omega)) [.o 3010] 0 ?_
    have k4 : TapeOK (gRange C.2 (-1) 8).2 := by simpa using k3
    generalize gRange C.2 (-1) 8 = R at k4 ⊢
    simp -dsimp
    refine ACall.of (router_c R.2 k4 D0.1.rs D0.1.ls ⟨d5, by omega⟩ 5 (by omega)) [.o 3010] 0 ?_
    generalize gRouter R.2 D0.1.rs 5 = A
    simp -dsimp [topT]
    and_intros
    all_goals try first | rfl | omega | exact ⟨by kernel_rfl⟩
    have hu := uni_c X hsX A.1 C.1 (by omega) R.1
    have hv := uni17_c X hsX A.1 C.1 (by omega) R.1
    generalize uniF X A.1 R.1 C.1 0 = U at hu hv
    simp only [ints, uniT] at hu hv
    refine ACall.of hu [] 0 ?_
    simp -dsimp
    refine ACall.of hv [] 0 ?_
    by_cases h2 : 200 < raw.length
    · have h2z : (200 : Int) < raw.length := by omega
      simp -dsimp [h2z]
      and_intros
      all_goals try first | rfl | omega | exact ⟨by kernel_rfl⟩
      refine ACall.of awake_c [] 0 ?_
      simp -dsimp
      and_intros
      all_goals try first | rfl | omega | exact ⟨by kernel_rfl⟩
      refine Fin.of ?_
      simp
    have h2z : ¬ (200 : Int) < raw.length := by omega
    simp -dsimp [h2z]
    and_intros
    all_goals try first | rfl | omega | exact ⟨by kernel_rfl⟩
    have hu := uni_c X hsX r raw (by omega) plane
    have hv := uni17_c X hsX r raw (by omega) plane
    generalize uniF X r plane raw 0 = V at hu hv
    simp only [ints, uniT] at hu hv
    refine ACall.of hu [] 0 ?_
    simp -dsimp
    refine ACall.of hv [] 0 ?_
    simp -dsimp
    and_intros
    all_goals try first | rfl | omega | exact ⟨by kernel_rfl⟩
    refine ACall.of awake_c [] 0 ?_
    simp -dsimp
    and_intros
    all_goals try first | rfl | omega | exact ⟨by kernel_rfl⟩
    refine Fin.of ?_
    simp
  · simp -dsimp [ho, topT, planT]
    refine ACall.of (wrong_c o.2 kO D0.2.2.1 hsX D0.1.rs.length ⟨by omega, by omega⟩) [.o 3010] 0 ?_
    have kT2 : TapeOK (wrT D0.1.rs.length D0.2.2.1 o.2).2 := by rw [wrT_tape]; exact kO
    have hsX : SmL (wrT D0.1.rs.length D0.2.2.1 o.2).1 := ⟨by rw [wrT_len]; omega, wrT_sm _ _ _ hrw⟩
    generalize (wrT D0.1.rs.length D0.2.2.1 o.2).1 = X at hsX ⊢
    generalize (wrT D0.1.rs.length D0.2.2.1 o.2).2 = T2 at kT2 ⊢
    simp -dsimp [ho, topT, planT]
    refine ACall.of (choose_c T2 kT2 D0.2.1 (by omega) 4 ⟨by omega, by omega⟩) [.o 3010] 0 ?_
    have k3 : TapeOK (gCh T2 D0.2.1 4).2 := by rw [gCh_tape]; exact kT2
    have l3 := gCh_len T2 D0.2.1 4
    generalize gCh T2 D0.2.1 4 = C at k3 l3 ⊢
    simp -dsimp [planT, ints]
    refine ACall.of (rangeS_c C.2 k3 (-1) 8 (by omega)) [.o 3010] 0 ?_
    have k4 : TapeOK (gRange C.2 (-1) 8).2 := by simpa using k3
    generalize gRange C.2 (-1) 8 = R at k4 ⊢
    simp -dsimp
    refine ACall.of (router_c R.2 k4 D0.1.rs D0.1.ls ⟨d5, by omega⟩ 5 (by omega)) [.o 3010] 0 ?_
    generalize gRouter R.2 D0.1.rs 5 = A
    simp -dsimp [topT]
    and_intros
    all_goals try first | rfl | omega | exact ⟨by kernel_rfl⟩
    have hu := uni_c X hsX A.1 C.1 (by omega) R.1
    have hv := uni17_c X hsX A.1 C.1 (by omega) R.1
    generalize uniF X A.1 R.1 C.1 0 = U at hu hv
    simp only [ints, uniT] at hu hv
    refine ACall.of hu [] 0 ?_
    simp -dsimp
    refine ACall.of hv [] 0 ?_
    by_cases h2 : 200 < raw.length
    · have h2z : (200 : Int) < raw.length := by omega
      simp -dsimp [h2z]
      and_intros
      all_goals try first | rfl | omega | exact ⟨by kernel_rfl⟩
      refine ACall.of awake_c [] 0 ?_
      simp -dsimp
      and_intros
      all_goals try first | rfl | omega | exact ⟨by kernel_rfl⟩
      refine Fin.of ?_
      simp
    have h2z : ¬ (200 : Int) < raw.length := by omega
    simp -dsimp [h2z]
    and_intros
    all_goals try first | rfl | omega | exact ⟨by kernel_rfl⟩
    have hu := uni_c X hsX r raw (by omega) plane
    have hv := uni17_c X hsX r raw (by omega) plane
    generalize uniF X r plane raw 0 = V at hu hv
    simp only [ints, uniT] at hu hv
    refine ACall.of hu [] 0 ?_
    simp -dsimp
    refine ACall.of hv [] 0 ?_
    simp -dsimp
    and_intros
    all_goals try first | rfl | omega | exact ⟨by kernel_rfl⟩
    refine ACall.of awake_c [] 0 ?_
    simp -dsimp
    and_intros
    all_goals try first | rfl | omega | exact ⟨by kernel_rfl⟩
    refine Fin.of ?_
    simp
end Go.Proofs

namespace Go.Proofs
open Go Go.Tr
theorem has_int {ds : List D} (h : (Ty.int .i64).has ds) : ∃ n, ds = [.int .i64 n] := by
  simp only [Ty.has] at h
  obtain ⟨n, rfl, _⟩ := h
  exact ⟨n, rfl⟩
end Go.Proofs

/-
  What functions of the program compute, stated as contracts over plain data; the conditions of each stand in its own statement.
-/
import Derived.Test.YtkhgmgelbgondaaD18
set_option linter.unusedSimpArgs false
set_option maxRecDepth 100000
set_option maxHeartbeats 8000000
namespace Go.Proofs
open Go Go.Tr

theorem app_mem {a b : List Wnt} (ha : AscW a) (hb : AscW b) {w : Wnt} (hw : w ∈ mrgV valA a b) : w ∈ a ∨ w ∈ b := by
  have h := ((app_all ha hb).2 w).1 hw
  cases hob : opt b w.g with
  | none =>
    rw [hob] at h
    cases hoa : opt a w.g with
    | none => rw [hoa] at h; simp [valA] at h
    | some f =>
      rw [hoa] at h; simp only [valA, Option.some.injEq] at h
      exact .inl ((opt_iff ha w).2 (by rw [hoa, h]))
  | some f =>
    rw [hob] at h
    have e : valA (opt a w.g) (some f) = if f.non = true then none else some f := by cases opt a w.g <;> rfl
    rw [e] at h
    split at h
    · simp at h
    · simp only [Option.some.injEq] at h
      exact .inr ((opt_iff hb w).2 (by rw [hob, h]))
theorem changes_law (t : List Int) (ht : ∀ x ∈ t, I64 x) (which : Int) : Contract Try.prog 5 [.d (ints t), .d (.int .i64 which)] [] (.d (.bool true)) [] [] := by
  refine contract_of Try.func5 rfl (fun E0 => ?_)
  refine awp.sound (g := .mk) (ow := [70]) (kp := (fun k => k == 0 || k == 1 || k == 4 || k == 5 || k == 6 || k == 7 || k == 8 || k == 9 || k == 10 || k == 11 || k == 12 || k == 13 || k == 14 || k == 15 || k == 16 || k == 17 || k == 62 || k == 65 || k == 92)) ?_
  rw [Try.ntmps5]
  simp -dsimp
  refine ACall.of (new_c t) [] 2000 ?_
  simp -dsimp
  have k0 : TapeOK (t.take 2000, 0) := ⟨by simp; omega, fun x hx => ht x (List.mem_of_mem_take hx)⟩
  generalize (t.take 2000, 0) = T0 at k0 ⊢
  refine ACall.of (wants_c T0 k0) [.o 2009] 0 ?_
  obtain ⟨va, la⟩ := gWants_vld T0
  have ka : TapeOK (gWants T0).2 := by simpa using k0
  generalize gWants T0 = R0 at va la ka ⊢
  obtain ⟨a, T1⟩ := R0
  simp only at va la ka ⊢
  simp -dsimp
  refine ACall.of (wants_c T1 ka) [.o 2009] 0 ?_
  obtain ⟨vb, lb⟩ := gWants_vld T1
  generalize gWants T1 = R1 at vb lb ⊢
  obtain ⟨b, T2⟩ := R1
  simp only at vb lb ⊢
  obtain ⟨a1, a2, a3, a4, a5⟩ := vldW_zero va
  obtain ⟨b1, b2, b3, b4, b5⟩ := vldW_zero vb
  have fa : ∀ x ∈ a, x.f.s.length ≤ 1000000 := fun x hx => by have := ok_len (a3 x hx); omega
  have fb : ∀ x ∈ b, x.f.s.length ≤ 1000000 := fun x hx => by have := ok_len (b3 x hx); omega
  have hC := ichanges_c a b (by omega) (by omega) fa fb
  have vc := chg_vld va vb (by omega)
  have ec : chgR a b = (mrgV valC a b, 0) := by
    have := vldW_len vc
    simp only [chgR, va, vb, mrg_chg, limW]
    simp; omega
  rw [ec] at hC
  have hN := ichanges_c b b (by omega) (by omega) fb fb
  have eN : chgR b b = ([], 0) := by simp [chgR, vb, mrg_chg, limW, chg_self b5]
  rw [eN] at hN
  have hD := app_chg a5 b5 (b4 rfl)
  have hL := fun k => app_less a5 b5 (k := k)
  have hcl := mrgV_len valC _ a b (Nat.le_refl _)
  generalize mrgV valC a b = c at hC vc hD hL hcl
  obtain ⟨c1, c2, c3, c4, c5⟩ := vldW_zero vc
  have fc : ∀ x ∈ c, x.f.s.length ≤ 1000000 := fun x hx => by have := ok_len (c3 x hx); omega
  have hA := iapply_c a c (by omega) (by omega) fa fc
  have eA : appR a c = (b, 0) := by
    simp only [appR, va, vc, mrg_app, limW, hD]
    simp; omega
  rw [eA] at hA
  have hS := r24same_c b b (by omega) fb
  simp only [decide_true] at hS
  simp -dsimp
  refine ACall.of hC [] 0 ?_
  simp -dsimp
  refine ACall.of hA [] 0 ?_
  simp -dsimp
  refine ACall.of hN [] 0 ?_
  simp -dsimp
  refine ACall.of hS [] 0 ?_
  simp -dsimp [wntD]
  by_cases hc0 : 0 < c.length
  · have q1 := gCut_nonneg which c.length
    have q2 := gCut_lt which (n := (c.length : Int)) (by omega)
    simp -dsimp [hc0]
    refine ACall.of (cut_c which c.length ⟨by omega, by omega⟩) [] 0 ?_
    obtain ⟨k, hk⟩ : ∃ k : Nat, gCut which c.length = k := ⟨(gCut which c.length).toNat, by omega⟩
    rw [hk] at q1 q2 ⊢
    have hk1 : k < c.length := by omega
    have ln := hL k hk1
    have vl := less_vld vc k
    obtain ⟨e1, e2, e3, e4, e5⟩ := vldW_zero vl
    have el : List.take k (List.map wntC c) ++ List.drop (k + 1) (List.take c.length (List.map wntC c)) = (c.take k ++ c.drop (k + 1)).map wntC := by
      rw [List.take_of_length_le (show (c.map wntC).length ≤ c.length by simp)]
      simp
    have lel : (c.take k ++ c.drop (k + 1)).length ≤ 12 := by simp; omega
    have fl : ∀ x ∈ c.take k ++ c.drop (k + 1), x.f.s.length ≤ 1000000 := fun x hx => by have := ok_len (e3 x hx); omega
    have hA2 := iapply_c a (c.take k ++ c.drop (k + 1)) (by omega) (by omega) fa fl
    have hm := fun w => app_mem a5 e5 (w := w)
    have hml := mrgV_len valA _ a (c.take k ++ c.drop (k + 1)) (Nat.le_refl _)
    have eA2 : appR a (c.take k ++ c.drop (k + 1)) = (mrgV valA a (c.take k ++ c.drop (k + 1)), 0) := by
      simp only [appR, va, vl, mrg_app, limW]
      simp; simp at hml; omega
    rw [eA2] at hA2
    generalize mrgV valA a (c.take k ++ c.drop (k + 1)) = x at ln hA2 hm hml
    have fx : ∀ w ∈ x, w.f.s.length ≤ 1000000 := fun w hw => (hm w hw).elim (fa w) (fl w)
    have hS2 := r24same_c x b (by omega) fx
    rw [decide_eq_false ln] at hS2
    simp only [wntD, ← el] at hA2 hS2
    have wl : ∀ x ∈ c, (wntC x).length = 3 := fun _ _ => rfl
    simp -dsimp [List.map_take, List.map_drop, wrap_i64 (n := (k : Int) + 1) (by omega) (by omega)]
    and_intros
    all_goals try first | omega | exact wl | exact fun x _ => rfl | exact ⟨by kernel_rfl⟩
    · exact fun x hx => by obtain ⟨y, _, rfl⟩ := List.mem_map.1 (List.mem_of_mem_take hx); rfl
    · exact fun x hx => by obtain ⟨y, _, rfl⟩ := List.mem_map.1 (List.mem_of_mem_take (List.mem_of_mem_drop hx)); rfl
    refine ACall.of hA2 [] 0 ?_
    simp -dsimp
    refine ACall.of hS2 [] 0 ?_
    simp -dsimp
    refine ACall.of awake_c [] 0 ?_
    simp -dsimp
    and_intros
    all_goals try first | rfl | omega | exact ⟨by kernel_rfl⟩
    refine Fin.of ?_
    simp
  · simp -dsimp [hc0]
    refine ACall.of awake_c [] 0 ?_
    simp -dsimp
    and_intros
    all_goals try first | rfl | omega | exact ⟨by kernel_rfl⟩
    refine Fin.of ?_
    simp
end Go.Proofs

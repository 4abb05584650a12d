/-
  What functions of the program compute, stated as contracts over plain data; the conditions of each stand in its own statement.
-/
import Derived.Test.YtkhneohilohhiaaEA
set_option linter.unusedSimpArgs false
set_option maxRecDepth 100000
set_option maxHeartbeats 2000000
namespace Go.Proofs
open Go Go.Tr
/-- the table that the tape yields, in one of n cases with a mistake -/
noncomputable def gTab (T : Tp) (n : Int) : Tb × Tp :=
  let g := gMix T 6
  let p := gPlan g.2 g.1.rs 0
  let l := (all11 g.1 p.1).1
  if l.length = 0 then (⟨1, 0, 8, []⟩, p.2)
  else
    let i := gNext p.2 l.length
    let o := gOne i.2 n
    if o.1 = true then gBend o.2 (l.getD i.1.toNat ⟨1, 0, 8, []⟩) else (l.getD i.1.toNat ⟨1, 0, 8, []⟩, o.2)
@[simp] theorem passI2_tape (ν : List Pl) (rs : List (Nat × Nat)) (T : Tp) : passI2 ν rs (tapeI T) = some (tapeI T) := by simp [tapeI, ints, passI2_box]
@[simp] theorem backs_mix (ν : List Pl) (c : Nat) (l : List Rw) (k : Nat) (y : Rw) (id : Nat) : (mixR l k y id).map (TV.backs ν c) = mixR l k y (c + id) := by simp [mixR]
theorem passEs_mix (ν : List Pl) (rs : List (Nat × Nat)) (l : List Rw) (k : Nat) (y : Rw) (id j : Nat) (h : rsOf rs id = some j) : passEs ν rs (mixR l k y id) = some (mixR l k y j) := by simp [mixR, h]
theorem bendAt_lt {T : Tp} {b : Tb} {k : Nat} (h : bendAt T b = some k) : k < b.rows.length := by
  unfold bendAt at h
  simp only at h
  split at h
  · simp at h
  · split at h
    · simp at h
    · rename_i ce
      split at h
      · simp only [Option.some.injEq] at h
        have hl := List.length_pos_iff.2 ce
        have k1 := gNext_nonneg (gNext T 8).2 b.rows.length
        have k2 := gNext_lt (gNext T 8).2 (n := b.rows.length) (by omega)
        omega
      · simp at h
theorem table_c (T : Tp) (hT : TapeOK T) (n : Int) (hn : 1 ≤ n ∧ n ≤ 1000) : Contract Try.prog 13 [.ptr (.x 0) 0, .d (.int .i64 n)] [tapeI T] (tblT (gTab T n).1) [tapeI (gTab T n).2] [] := by
  have hn0 : 0 < n := by omega
  refine contract_of Try.func13 rfl (fun E0 => ?_)
  refine awp.sound (g := .mk) (ow := [1000038]) (kp := (fun k => k == 0 || k == 1 || k == 4 || k == 5 || k == 6 || k == 7 || k == 9 || k == 23 || k == 39)) ?_
  rw [Try.ntmps13]
  simp -dsimp
  refine ACall.of (mixed_c T hT 6 (by omega)) [.x 0] 0 ?_
  have kG : TapeOK (gMix T 6).2 := by simpa using hT
  have hsm := gMix_small T (most := 6) (by omega)
  have e0 : gTab T n = gTab T n := rfl
  conv at e0 => rhs; unfold gTab
  simp only at e0
  generalize hG : gMix T 6 = G at kG hsm e0 ⊢
  simp -dsimp [topT]
  refine ACall.of (plan_c G.2 kG G.1.rs G.1.ls (by omega) 0 (by omega)) [.x 0] 0 ?_
  obtain ⟨kP, lP⟩ := gPlan_zero G.2 G.1.rs
  have kG : TapeOK (gPlan G.2 G.1.rs 0).2 := kP.symm ▸ kG
  clear kP
  generalize hP : gPlan G.2 G.1.rs 0 = p at kG lP e0 ⊢
  simp -dsimp [topT, planT]
  refine ACall.of (all11_c G.1 ⟨by omega, by omega⟩ p.1 (by omega)) [] 0 ?_
  have hlen := all11_len G.1 p.1
  have hok := all11_ok G.1 p.1
  generalize (all11 G.1 p.1).1 = l at hlen hok e0 ⊢
  generalize (all11 G.1 p.1).2 = er
  simp -dsimp [topT, planT, allT_eq]
  by_cases hl : l = []
  · simp -dsimp [eq_true hl]
    refine Fin.box (.o 4) rfl ?_
    simp -dsimp
    refine Fin.of ?_
    rw [if_pos (by simp [hl])] at e0
    simp [e0, tblT, rwsD]
  have hlz : 0 < l.length := List.length_pos_iff.2 hl
  rw [if_neg (by omega)] at e0
  simp -dsimp [eq_false hl]
  refine ACall.of (next_c p.2 kG l.length ⟨by omega, by omega⟩) [.x 0] 0 ?_
  have m1 := gNext_nonneg p.2 l.length
  have m2 := gNext_lt p.2 (n := l.length) (by omega)
  have kN : TapeOK (gNext p.2 l.length).2 := by simpa using kG
  generalize gNext p.2 l.length = q at m1 m2 kN e0 ⊢
  obtain ⟨i, hi⟩ : ∃ i : Nat, q.1 = i := ⟨q.1.toNat, by omega⟩
  have hil : i < l.length := by omega
  have hx : l[i]? = some l[i] := List.getElem?_eq_getElem hil
  have hxo := hok l[i] (List.getElem_mem hil)
  have hxs := chk_sm hxo
  obtain ⟨_, hx1, hx2, _⟩ := chk_parts hxo
  rw [hi, Int.toNat_natCast, List.getD_eq_getElem?_getD, hx] at e0
  simp only [Option.getD_some] at e0
  generalize l[i] = b at hx hxo hxs hx1 hx2 e0
  have hx' := tbs_get hx
  rw [hi]
  have kO : TapeOK (gOne q.2 n).2 := by simpa using kN
  have hone := one_c q.2 kN n ⟨by omega, by omega⟩ ⟨by omega, by omega⟩
  generalize gOne q.2 n = o at kO hone e0
  have key : o.1 = true → (bendAt o.2 b = none ∨ ∃ k y, bendAt o.2 b = some k ∧ b.rows[k]? = some y) := fun _ => by
    cases h : bendAt o.2 b with
    | none => exact .inl rfl
    | some k => exact .inr ⟨k, _, rfl, List.getElem?_eq_getElem (bendAt_lt h)⟩
  rcases (Bool.eq_false_or_eq_true o.1).symm with ho | ho
  · rw [if_neg (by simp [ho])] at e0
    simp -dsimp [eq_false hl, hx']
    and_intros
    all_goals try first | rfl | omega | exact ⟨by kernel_rfl⟩
    refine ACall.of (copied_c b hxs.rows hxs.nx) [] 2000 ?_
    simp -dsimp [eq_false hl, hx', tblT, rwsD_eq, hn0]
    refine ACall.of hone [.x 0] 0 ?_
    simp -dsimp [ho]
    refine Fin.box (.o 4) rfl ?_
    simp -dsimp
    refine Fin.of ?_
    simp [e0, tblT, rwsD_eq]
  rw [if_pos ho] at e0
  rcases key ho with hb | ⟨k, y, hb, hy⟩
  · simp -dsimp [eq_false hl, hx']
    and_intros
    all_goals try first | rfl | omega | exact ⟨by kernel_rfl⟩
    refine ACall.of (copied_c b hxs.rows hxs.nx) [] 2000 ?_
    simp -dsimp [eq_false hl, hx', tblT, rwsD_eq, hn0]
    refine ACall.of hone [.x 0] 0 ?_
    simp -dsimp [ho]
    refine ACall.of2 (bendP_c o.2 kO b (by omega) hb) [.x 0] [(900, 2003)] 0 ?_
    rw [← e0]
    generalize gTab T n = X
    simp -dsimp [tblT, rwsD_eq]
    refine Fin.box (.o 4) rfl ?_
    simp -dsimp
    refine Fin.of ?_
    simp
  · simp -dsimp [eq_false hl, hx']
    and_intros
    all_goals try first | rfl | omega | exact ⟨by kernel_rfl⟩
    refine ACall.of (copiedI_c b hxs.rows hxs.nx k y hy) [] 2000 ?_
    simp -dsimp [eq_false hl, hx', tblT, rwsD_eq, hn0]
    refine ACall.of hone [.x 0] 0 ?_
    simp -dsimp [ho]
    refine ACall.of2 (bendI_c o.2 kO b (by omega) k hb y hy (by have := hx2 y (List.mem_of_getElem? hy); omega)) [.x 0] [(900, 2003), (901, 3001)] 0 ?_
    rw [← e0]
    generalize gTab T n = X
    have hpm := passEs_mix [.x 0] [(900, 2003), (901, 3001)] b.rows k y 3001 901 rfl
    simp -dsimp [hpm, tblT, rwsD_eq]
    refine Fin.box (.o 4) rfl ?_
    simp -dsimp
    refine Fin.of ?_
    simp
theorem rowW_sm {b : Tb} {k : Nat} {f : List Int → List Int} (h1 : b.rows.length ≤ 256) (h2 : ∀ x ∈ b.rows, x.nx.length ≤ 24) (hf : ∀ l : List Int, (f l).length ≤ l.length + 1) : (rowW b k f).rows.length ≤ 256 ∧ ∀ x ∈ (rowW b k f).rows, x.nx.length ≤ 25 := by
  refine ⟨by simpa [rowW] using h1, fun x hx => ?_⟩
  simp only [rowW] at hx
  rcases List.mem_or_eq_of_mem_set hx with hx | rfl
  · have := h2 x hx; omega
  · have h3 := hf (b.rows.getD k ⟨0, []⟩).nx
    have : (b.rows.getD k ⟨0, []⟩).nx.length ≤ 24 := by
      rw [List.getD_eq_getElem?_getD]
      cases hg : b.rows[k]? with
      | none => simp
      | some y => exact h2 y (List.mem_of_getElem? hg)
    simp only
    omega
theorem gBend_sm (T : Tp) {b : Tb} (h1 : b.rows.length ≤ 256) (h2 : ∀ x ∈ b.rows, x.nx.length ≤ 24) : (gBend T b).1.rows.length ≤ 257 ∧ ∀ x ∈ (gBend T b).1.rows, x.nx.length ≤ 25 := by
  have h0 : b.rows.length ≤ 257 ∧ ∀ x ∈ b.rows, x.nx.length ≤ 25 := ⟨by omega, fun x hx => by have := h2 x hx; omega⟩
  have hw : ∀ (k : Nat) (f : List Int → List Int), (∀ l : List Int, (f l).length ≤ l.length + 1) → (rowW b k f).rows.length ≤ 257 ∧ ∀ x ∈ (rowW b k f).rows, x.nx.length ≤ 25 := fun k f hf => ⟨by have := (rowW_sm (k := k) h1 h2 hf).1; omega, (rowW_sm h1 h2 hf).2⟩
  unfold gBend
  simp only
  split
  · exact h0
  split
  · exact h0
  split
  · exact h0
  split
  · refine ⟨by simp; omega, fun x hx => ?_⟩
    rcases List.mem_append.1 hx with hx | hx
    · exact h0.2 x hx
    · simp at hx; subst hx; simp
  split
  · exact h0
  split
  · exact hw _ _ fun l => by simp
  split
  · exact hw _ _ fun l => by simp
  split
  · exact hw _ _ fun l => by simp
  · exact hw _ _ fun l => by simp
theorem gTab_sm (T : Tp) (n : Int) : (gTab T n).1.Sm := by
  have key : ∀ b : Tb, chk b = 0 → b.Sm ∧ ∀ T', (gBend T' b).1.Sm := fun b hb => by
    obtain ⟨_, h1, h2, _⟩ := chk_parts hb
    refine ⟨chk_sm hb, fun T' => ?_⟩
    obtain ⟨g1, g2⟩ := gBend_sm T' h1 h2
    exact ⟨by omega, fun x hx => by have := g2 x hx; omega⟩
  unfold gTab
  simp only
  split
  · exact (key _ dflt_ok).1
  · rename_i h
    generalize hP : gPlan (gMix T 6).2 (gMix T 6).1.rs 0 = p at h ⊢
    have m1 := gNext_nonneg p.2 (all11 (gMix T 6).1 p.1).1.length
    have m2 := gNext_lt p.2 (n := (all11 (gMix T 6).1 p.1).1.length) (by omega)
    have hk : chk ((all11 (gMix T 6).1 p.1).1.getD (gNext p.2 (all11 (gMix T 6).1 p.1).1.length).1.toNat ⟨1, 0, 8, []⟩) = 0 := by
      rw [List.getD_eq_getElem?_getD, List.getElem?_eq_getElem (by omega)]
      exact all11_ok _ _ _ (List.getElem_mem _)
    obtain ⟨g1, g2⟩ := key _ hk
    split
    · exact g2 _
    · exact g1
theorem gBend_tape (T : Tp) (b : Tb) : TapeOK (gBend T b).2 = TapeOK T := by
  unfold gBend
  simp only
  split
  · simp
  split
  · simp [gWild]
  split
  · simp
  split
  · simp
  split
  · simp
  split
  · simp
  split
  · simp
  split <;> simp
theorem gTab_tape (T : Tp) (n : Int) : TapeOK (gTab T n).2 = TapeOK T := by
  unfold gTab
  simp only
  split
  · exact (gPlan_zero _ _).1.trans (by simp)
  · split
    · rw [gBend_tape]
      simp only [gOne_ok, gNext_ok]
      exact (gPlan_zero _ _).1.trans (by simp)
    · simp only [gOne_ok, gNext_ok]
      exact (gPlan_zero _ _).1.trans (by simp)
end Go.Proofs

/-
  What functions of the program compute, stated as contracts over plain data; the conditions of each stand in its own statement.
-/
import Derived.Test.YtkhgmgelbgondaaD25
set_option linter.unusedSimpArgs false
set_option maxRecDepth 100000
set_option maxHeartbeats 16000000
namespace Go.Proofs
open Go Go.Tr

/-- few enough to be looked at -/
def Few (l : List Wnt) : Prop := l.length ≤ 1000000 ∧ ∀ x ∈ l, x.f.s.length ≤ 9223372036854775807
theorem few_raw {l : List Wnt} (h : smlG l l.length = true) (hf : ∀ x ∈ l, x.f.s.length ≤ 9223372036854775807) : Few l := ⟨by have := smlG_len h; omega, hf⟩
theorem gBent_len (T : Tp) (f : Flt) : (gBent T f).1.s.length ≤ f.s.length + 1 := by
  unfold gBent
  simp only
  split
  · simp
  · split
    · simp
    · split
      · simp; omega
      · split
        · simp
        · simp
@[simp] theorem gBent_ok (T : Tp) (f : Flt) : TapeOK (gBent T f).2 = TapeOK T := by
  unfold gBent
  simp only
  split
  · simp
  · split
    · simp
    · split
      · simp
      · split <;> simp
@[simp] theorem gBentW_ok (T : Tp) (l : List Wnt) : TapeOK (gBentW T l).2 = TapeOK T := by
  unfold gBentW
  simp only
  split
  · simp
  · split
    · simp
    · split
      · simp
      · split
        · simp
        · split <;> simp
theorem fillW_len : ∀ k, (fillW k).length = k
  | 0 => rfl
  | k + 1 => by simp [fillW, fillW_len k]
theorem fillW_s : ∀ k, ∀ x ∈ fillW k, x.f.s = []
  | 0, x, h => by simp [fillW] at h
  | k + 1, x, h => by
    simp only [fillW, List.mem_append, List.mem_singleton] at h
    rcases h with h | rfl
    · exact fillW_s k x h
    · rfl
theorem gBentW_few (T : Tp) {l : List Wnt} (h1 : l.length ≤ 30) (h2 : ∀ x ∈ l, x.f.s.length ≤ 1000) : Few (gBentW T l).1 := by
  have hget : (l.getD (gNext T l.length).1.toNat ⟨0, nF⟩).f.s.length ≤ 1000 := by
    rw [List.getD_eq_getElem?_getD]
    cases hz : l[(gNext T l.length).1.toNat]? with
    | none => simp [nF]
    | some x => exact h2 x (List.mem_of_getElem? hz)
  have hset : ∀ (i : Nat) (y : Wnt), y.f.s.length ≤ 1000000 → Few (l.set i y) := fun i y hy => ⟨by simp; omega, fun x hx => by
    rcases List.mem_or_eq_of_mem_set hx with hx | rfl
    · have := h2 x hx; omega
    · omega⟩
  unfold gBentW
  simp only
  split
  · have h3 := gBent_len (gFlt (gRange T 0 2).2).2 (gFlt (gRange T 0 2).2).1
    have h4 := ok_len (gFlt_flt (gRange T 0 2).2)
    exact ⟨by simp, fun x hx => by simp only [List.mem_singleton] at hx; subst hx; simp only; omega⟩
  · split
    · exact hset _ _ (by simp only; omega)
    · split
      · have h3 := gBent_len (gNext (gNext T l.length).2 5).2 (l.getD (gNext T l.length).1.toNat ⟨0, nF⟩).f
        exact hset _ _ (by simp only; omega)
      · split
        · exact hset _ _ (by simp [nF])
        · split
          · refine ⟨by simp; omega, fun x hx => ?_⟩
            rcases List.mem_append.1 hx with hx | hx
            · have := h2 x hx; omega
            · have := h2 x (List.mem_of_mem_take hx); omega
          · refine ⟨by simp [fillW_len]; omega, fun x hx => ?_⟩
            rcases List.mem_append.1 hx with hx | hx
            · have := h2 x hx; omega
            · rw [fillW_s 33 x (List.mem_of_mem_drop hx)]; simp
theorem gWants_few (T : Tp) : (gWants T).1.length ≤ 30 ∧ ∀ x ∈ (gWants T).1, x.f.s.length ≤ 1000 := by
  obtain ⟨h1, h2⟩ := gWants_vld T
  exact ⟨by omega, fun x hx => by have := ok_len ((vldW_zero h1).2.2.1 x hx); omega⟩
theorem limW_few {l : List Wnt} {e : Int} (h : ∀ x ∈ l, x.f.s.length ≤ 9223372036854775807) : Few (limW l e).1 := by
  unfold limW
  split
  · exact ⟨by simp, by simp⟩
  · split
    · exact ⟨by simp, by simp⟩
    · exact ⟨by simp only; omega, h⟩
theorem mrg_mem {vA vB : Wnt → List Wnt} {vC : Wnt → Wnt → List Wnt} {P : Wnt → Prop} : ∀ (n : Nat) (a b : List Wnt), a.length + b.length ≤ n → (∀ x ∈ a, ∀ w ∈ vA x, P w) → (∀ y ∈ b, ∀ w ∈ vB y, P w) → (∀ x ∈ a, ∀ y ∈ b, ∀ w ∈ vC x y, P w) → ∀ w ∈ mrg vA vB vC a b, P w
  | 0, a, b, h, _, _, _ => by
    obtain rfl : a = [] := List.length_eq_zero_iff.1 (by omega)
    obtain rfl : b = [] := List.length_eq_zero_iff.1 (by omega)
    rw [mrg]; simp
  | n + 1, a, b, h, hA, hB, hC => by
    cases a with
    | nil =>
      cases b with
      | nil => rw [mrg]; simp
      | cons y b =>
        intro w hw
        rw [mrg, List.mem_append] at hw
        rcases hw with hw | hw
        · exact hB y (by simp) w hw
        · exact mrg_mem n [] b (by simp at h ⊢; omega) hA (fun z hz => hB z (by simp [hz])) (fun x hx => by simp at hx) w hw
    | cons x a =>
      cases b with
      | nil =>
        intro w hw
        rw [mrg, List.mem_append] at hw
        rcases hw with hw | hw
        · exact hA x (by simp) w hw
        · exact mrg_mem n a [] (by simp at h ⊢; omega) (fun z hz => hA z (by simp [hz])) hB (fun x hx y hy => by simp at hy) w hw
      | cons y b =>
        intro w hw
        simp only [List.length_cons] at h
        rw [mrg] at hw
        split at hw
        · rcases List.mem_append.1 hw with hw | hw
          · exact hA x (by simp) w hw
          · exact mrg_mem n a (y :: b) (by simp; omega) (fun z hz => hA z (by simp [hz])) hB (fun z hz => hC z (by simp [hz])) w hw
        · split at hw
          · rcases List.mem_append.1 hw with hw | hw
            · exact hB y (by simp) w hw
            · exact mrg_mem n (x :: a) b (by simp; omega) hA (fun z hz => hB z (by simp [hz])) (fun z hz v hv => hC z hz v (by simp [hv])) w hw
          · rcases List.mem_append.1 hw with hw | hw
            · exact hC x (by simp) y (by simp) w hw
            · exact mrg_mem n a b (by omega) (fun z hz => hA z (by simp [hz])) (fun z hz => hB z (by simp [hz])) (fun z hz v hv => hC z (by simp [hz]) v (by simp [hv])) w hw
theorem chgR_few {a b : List Wnt} (_ha : Few a) (hb : Few b) : Few (chgR a b).1 := by
  refine limW_few (mrg_mem _ a b (Nat.le_refl _) (fun x _ w hw => ?_) (fun y hy w hw => ?_) (fun x _ y hy w hw => ?_))
  · simp only [chA, List.mem_singleton] at hw; subst hw; simp [nF]
  · simp only [chB, List.mem_singleton] at hw; subst hw; exact hb.2 _ hy
  · unfold chC at hw
    split at hw
    · simp at hw
    · simp only [List.mem_singleton] at hw; subst hw; exact hb.2 _ hy
theorem appR_few {a b : List Wnt} (ha : Few a) (hb : Few b) : Few (appR a b).1 := by
  refine limW_few (mrg_mem _ a b (Nat.le_refl _) (fun x hx w hw => ?_) (fun y hy w hw => ?_) (fun x _ y hy w hw => ?_))
  · simp only [apA, List.mem_singleton] at hw; subst hw; exact ha.2 _ hx
  · unfold apB at hw
    split at hw
    · simp at hw
    · simp only [List.mem_singleton] at hw; subst hw; exact hb.2 _ hy
  · unfold apC at hw
    split at hw
    · simp at hw
    · simp only [List.mem_singleton] at hw; subst hw; exact hb.2 _ hy
theorem ofR_few (m : Mbs) : Few (ofR m).1 := by
  unfold ofR
  split
  · exact ⟨by simp, by simp⟩
  · rename_i h
    have hv : vldM m = 0 := Classical.not_not.1 h
    obtain ⟨v1, v2, v3, v4, v5, v6⟩ := vldM_zero hv
    have := gs_len m.l
    split
    · exact ⟨by simp, by simp⟩
    · refine ⟨by simp only [ofL, List.length_map]; omega, fun w hw => ?_⟩
      obtain ⟨x, hx, rfl⟩ := (ofL_mem v6).1 hw
      have := ok_len (uni_ok v4 x.g)
      simp only; omega
theorem hostsV_len (m : Mbs) (f : Flw) : (hostsV m f).length ≤ m.l.length := by
  unfold hostsV
  split
  · have := hostL_len f m.l m.l.length
    rwa [List.take_length] at this
  · simp
theorem answers_law (t : List Int) (ht : ∀ x ∈ t, I64 x) (raw other : List Wnt) (m : Mbs) (f : Flw) (hr : raw.length ≤ 9223372036854775807) (hrf : ∀ x ∈ raw, x.f.s.length ≤ 9223372036854775807)
    (ho : other.length ≤ 9223372036854775807) (hof : ∀ x ∈ other, x.f.s.length ≤ 9223372036854775807) (hm : m.l.length ≤ 9223372036854775807) (hmf : ∀ x ∈ m.l, x.f.s.length ≤ 9223372036854775807) :
    Contract Try.prog 6 [.d (ints t), .d (wntD raw), .d (wntD other), mbsT m, flwT f] [] (.d (.bool true)) [] [] := by
  have hs1 := small_c raw hr hrf
  have hs2 := small_c other ho hof
  refine contract_of Try.func6 rfl (fun E0 => ?_)
  refine awp.sound (g := .mk) (ow := []) (kp := (fun k => k == 0 || k == 1 || k == 2 || k == 3 || k == 4 || k == 8 || k == 9 || k == 10 || k == 11 || k == 12 || k == 13 || k == 15 || k == 17 || k == 19 || k == 20 || k == 21 || k == 22 || k == 23 || k == 24 || k == 25 || k == 26 || k == 27 || k == 29 || k == 30 || k == 31 || k == 32 || k == 33 || k == 35 || k == 49 || k == 62 || k == 63 || k == 64 || k == 65 || k == 72 || k == 79 || k == 80 || k == 81 || k == 82 || k == 91 || k == 98 || k == 99 || k == 100 || k == 101 || k == 156 || k == 162 || k == 163 || k == 164 || k == 165 || k == 186 || k == 193 || k == 194 || k == 195 || k == 196 || k == 206)) ?_
  rw [Try.ntmps6]
  simp -dsimp [mbsT, flwT]
  refine ACall.of hs1 [] 0 ?_
  rcases (Bool.eq_false_or_eq_true (smlG raw raw.length)) with b1 | b1
  · rw [b1]
    simp -dsimp
    refine ACall.of hs2 [] 0 ?_
    rcases (Bool.eq_false_or_eq_true (smlG other other.length)) with b2 | b2
    · rw [b2]
      by_cases b3 : 80 < m.l.length
      · have b3z : (80 : Int) < m.l.length := by omega
        simp -dsimp [mems, b3z]
        refine ACall.of awake_c [] 0 ?_
        simp -dsimp
        and_intros
        all_goals try first | rfl | omega | exact ⟨by kernel_rfl⟩
        refine Fin.of ?_
        simp
      · have b3z : ¬ (80 : Int) < m.l.length := by omega
        simp -dsimp [mems, b3z]
        refine ACall.of (new_c t) [] 2000 ?_
        simp -dsimp
        have k0 : TapeOK (t.take 2000, 0) := ⟨by simp; omega, fun x hx => ht x (List.mem_of_mem_take hx)⟩
        generalize (t.take 2000, 0) = T0 at k0 ⊢
        refine ACall.of (wants_c T0 k0) [.o 2009] 0 ?_
        obtain ⟨la, fa⟩ := gWants_few T0
        have ka : TapeOK (gWants T0).2 := by simpa using k0
        generalize gWants T0 = R0 at la fa ka ⊢
        obtain ⟨a, T1⟩ := R0
        simp only at la fa ka ⊢
        simp -dsimp
        refine ACall.of (wants_c T1 ka) [.o 2009] 0 ?_
        obtain ⟨lb, fb⟩ := gWants_few T1
        have kb : TapeOK (gWants T1).2 := by simpa using ka
        generalize gWants T1 = R1 at lb fb kb ⊢
        obtain ⟨b, T2⟩ := R1
        simp only at lb fb kb ⊢
        simp -dsimp
        try refine ⟨?_, ⟨by kernel_rfl⟩⟩
        refine ACall.of (bent24_c T2 kb a la fa) [.o 2009] 0 ?_
        have fc := gBentW_few T2 la fa
        have kc : TapeOK (gBentW T2 a).2 := by simpa using kb
        generalize gBentW T2 a = R2 at fc kc ⊢
        obtain ⟨c, T3⟩ := R2
        simp only at fc kc ⊢
        simp -dsimp
        try refine ⟨?_, ⟨by kernel_rfl⟩⟩
        obtain ⟨L, hL⟩ : ∃ L : List (List Wnt), L = [raw, a, c] := ⟨_, rfl⟩
        have hL3 : L.length = 3 := by rw [hL]; rfl
        have hLf : ∀ x ∈ L, Few x := fun x hx => by
          rw [hL] at hx
          simp only [List.mem_cons, List.not_mem_nil, or_false] at hx
          rcases hx with rfl | rfl | rfl
          · exact few_raw b1 hrf
          · exact ⟨by omega, fun y hy => by have := fa y hy; omega⟩
          · exact fc
        refine ALoop.of [] (fun k => k == 0 || k == 1 || k == 2 || k == 3 || k == 4 || k == 8 || k == 9 || k == 10 || k == 11 || k == 12 || k == 13 || k == 15 || k == 17 || k == 19 || k == 20 || k == 21 || k == 22 || k == 23 || k == 24 || k == 25 || k == 26 || k == 27 || k == 29 || k == 30 || k == 31 || k == 32 || k == 33 || k == 35 || k == 49 || k == 62 || k == 63 || k == 64 || k == 65 || k == 72 || k == 79 || k == 80 || k == 81 || k == 82 || k == 91 || k == 98 || k == 99 || k == 100 || k == 101 || k == 156 || k == 162 || k == 163 || k == 164 || k == 165 || k == 186 || k == 193 || k == 194 || k == 195 || k == 196 || k == 206) (ι := { z : Nat × Tp // z.1 ≤ L.length ∧ TapeOK z.2 })
          (fun z => [(Pl.s 2, It.v (TV.d (wntD other))), (Pl.o 8, It.box [TV.d (D.int IntKind.i64 m.now), TV.d (D.sl (List.map memC m.l))]), (Pl.s 8, It.v (TV.ptr (Pl.o 8) 0)),
            (Pl.o 9, It.box [TV.d (D.int IntKind.i64 f.s), TV.d (D.int IntKind.i64 f.g)]), (Pl.s 9, It.v (TV.ptr (Pl.o 9) 0)), (Pl.s 10, It.v (TV.d (D.bool false))),
            (Pl.o 2009, tapeI z.1.2), (Pl.s 11, It.v (TV.ptr (Pl.o 2009) 0)), (Pl.s 13, It.v (TV.d (wntD b))),
            (Pl.s 62, It.v (TV.d (D.sl (L.map fun l => [wntD l])))), (Pl.s 63, It.v (TV.d (D.int IntKind.i64 L.length))), (Pl.s 64, It.v (TV.d (D.int IntKind.i64 z.1.1)))])
          (fun z => L.length - z.1.1) ⟨(0, T3), by omega, kc⟩ ?_ ?_
        · exact GS.to (by simp [hL])
        · rintro ⟨⟨i, T⟩, i1, i2⟩
          simp only at i1 i2
          by_cases hi : i < L.length
          · have hiz : (i : Int) < L.length := by omega
            have hg : L[i]? = some L[i] := List.getElem?_eq_getElem hi
            have hx := hLf L[i] (List.getElem_mem hi)
            generalize L[i] = x at hg hx
            have hv1 := ivalidate_cL x hx.1 hx.2
            have hv2 := rvalidate24_c x hx.1 hx.2
            simp -dsimp [hg, hiz]
            try refine ⟨?_, ⟨by kernel_rfl⟩⟩
            refine ACall.of hv1 [] 0 ?_
            simp -dsimp
            try refine ⟨?_, ⟨by kernel_rfl⟩⟩
            refine ACall.of hv2 [] 0 ?_
            simp -dsimp
            try refine ⟨?_, ⟨by kernel_rfl⟩⟩
            refine ACall.of (range_c T i2 0 7 ⟨by omega, by omega⟩ ⟨by omega, by omega⟩ ⟨by omega, by omega⟩ ⟨by have := gRange_lo T 0 7; omega, by have := gRange_hi T (a := 0) (b := 7) (by omega); omega⟩) [.o 2009] 0 ?_
            have k1 : TapeOK (gRange T 0 7).2 := by simpa using i2
            generalize gRange T 0 7 = Q at k1 ⊢
            obtain ⟨s1, T5⟩ := Q
            simp only at k1 ⊢
            simp -dsimp
            try refine ⟨?_, ⟨by kernel_rfl⟩⟩
            refine ACall.of (range_c T5 k1 0 6 ⟨by omega, by omega⟩ ⟨by omega, by omega⟩ ⟨by omega, by omega⟩ ⟨by have := gRange_lo T5 0 6; omega, by have := gRange_hi T5 (a := 0) (b := 6) (by omega); omega⟩) [.o 2009] 0 ?_
            have k2 : TapeOK (gRange T5 0 6).2 := by simpa using k1
            generalize gRange T5 0 6 = Q at k2 ⊢
            obtain ⟨g1, T6⟩ := Q
            simp only at k2 ⊢
            simp -dsimp
            try refine ⟨?_, ⟨by kernel_rfl⟩⟩
            obtain ⟨G, hG⟩ : ∃ G : List Flw, G = [f, ⟨s1, g1⟩] := ⟨_, rfl⟩
            have hG2 : G.length = 2 := by rw [hG]; rfl
            refine ALoop.of [] (fun k => k == 0 || k == 1 || k == 2 || k == 3 || k == 4 || k == 8 || k == 9 || k == 10 || k == 11 || k == 12 || k == 13 || k == 15 || k == 17 || k == 19 || k == 20 || k == 21 || k == 22 || k == 23 || k == 24 || k == 25 || k == 26 || k == 27 || k == 29 || k == 30 || k == 31 || k == 32 || k == 33 || k == 35 || k == 49 || k == 62 || k == 63 || k == 64 || k == 65 || k == 72 || k == 79 || k == 80 || k == 81 || k == 82 || k == 91 || k == 98 || k == 99 || k == 100 || k == 101 || k == 156 || k == 162 || k == 163 || k == 164 || k == 165 || k == 186 || k == 193 || k == 194 || k == 195 || k == 196 || k == 206) (ι := { z : Nat // z ≤ G.length })
              (fun z => [(Pl.s 2, It.v (TV.d (wntD other))), (Pl.o 8, It.box [TV.d (D.int IntKind.i64 m.now), TV.d (D.sl (List.map memC m.l))]), (Pl.s 8, It.v (TV.ptr (Pl.o 8) 0)),
                (Pl.o 9, It.box [TV.d (D.int IntKind.i64 f.s), TV.d (D.int IntKind.i64 f.g)]), (Pl.s 9, It.v (TV.ptr (Pl.o 9) 0)), (Pl.s 10, It.v (TV.d (D.bool false))),
                (Pl.s 11, It.v (TV.ptr (Pl.o 2009) 0)), (Pl.s 13, It.v (TV.d (wntD b))),
                (Pl.s 62, It.v (TV.d (D.sl (L.map fun l => [wntD l])))), (Pl.s 63, It.v (TV.d (D.int IntKind.i64 L.length))), (Pl.s 64, It.v (TV.d (D.int IntKind.i64 i))), (Pl.s 15, It.v (TV.d (wntD x))), (Pl.o 2009, tapeI T6),
                (Pl.s 79, It.v (TV.d (D.sl (G.map flwC)))), (Pl.s 80, It.v (TV.d (D.int IntKind.i64 G.length))), (Pl.s 81, It.v (TV.d (D.int IntKind.i64 z.1)))])
              (fun z => G.length - z.1) ⟨0, by omega⟩ ?_ ?_
            · exact GS.to (by simp [hG, flwC])
            · rintro ⟨j, j1⟩
              by_cases hj : j < G.length
              · have hjz : (j : Int) < G.length := by omega
                have hgj : G[j]? = some G[j] := List.getElem?_eq_getElem hj
                generalize G[j] = g at hgj
                have hw1 := iwants_cL x hx.1 hx.2 g
                have hw2 := rwants24_c x hx.1 hx.2 g
                simp only [flwT] at hw1 hw2
                simp -dsimp [hgj, hjz, flwC]
                try refine ⟨?_, ⟨by kernel_rfl⟩⟩
                refine ACall.of hw1 [] 0 ?_
                simp -dsimp
                try refine ⟨?_, ⟨by kernel_rfl⟩⟩
                refine ACall.of hw2 [] 0 ?_
                simp -dsimp [wrap_i64 (n := (j : Int) + 1) (by omega) (by omega)]
                and_intros
                all_goals try first | rfl | omega | exact ⟨by kernel_rfl⟩
                exact ⟨⟨j + 1, by omega⟩, GS.to (by simp), by simp; omega⟩
              · have hjz : ¬ (j : Int) < G.length := by omega
                simp -dsimp [hjz]
                try refine ⟨?_, ⟨by kernel_rfl⟩⟩
                refine ACall.of (bent24_c T6 k2 b lb fb) [.o 2009] 0 ?_
                have fe := gBentW_few T6 lb fb
                have ke : TapeOK (gBentW T6 b).2 := by simpa using k2
                generalize gBentW T6 b = Q at fe ke ⊢
                obtain ⟨eb, T8⟩ := Q
                simp only at fe ke ⊢
                simp -dsimp
                try refine ⟨?_, ⟨by kernel_rfl⟩⟩
                obtain ⟨Y, hY⟩ : ∃ Y : List (List Wnt), Y = [other, b, eb] := ⟨_, rfl⟩
                have hY3 : Y.length = 3 := by rw [hY]; rfl
                have hYf : ∀ y ∈ Y, Few y := fun y hy => by
                  rw [hY] at hy
                  simp only [List.mem_cons, List.not_mem_nil, or_false] at hy
                  rcases hy with rfl | rfl | rfl
                  · exact few_raw b2 hof
                  · exact ⟨by omega, fun z hz => by have := fb z hz; omega⟩
                  · exact fe
                refine ALoop.of [] (fun k => k == 0 || k == 1 || k == 2 || k == 3 || k == 4 || k == 8 || k == 9 || k == 10 || k == 11 || k == 12 || k == 13 || k == 15 || k == 17 || k == 19 || k == 20 || k == 21 || k == 22 || k == 23 || k == 24 || k == 25 || k == 26 || k == 27 || k == 29 || k == 30 || k == 31 || k == 32 || k == 33 || k == 35 || k == 49 || k == 62 || k == 63 || k == 64 || k == 65 || k == 72 || k == 79 || k == 80 || k == 81 || k == 82 || k == 91 || k == 98 || k == 99 || k == 100 || k == 101 || k == 156 || k == 162 || k == 163 || k == 164 || k == 165 || k == 186 || k == 193 || k == 194 || k == 195 || k == 196 || k == 206) (ι := { z : Nat // z ≤ Y.length })
                  (fun z => [(Pl.s 2, It.v (TV.d (wntD other))), (Pl.o 8, It.box [TV.d (D.int IntKind.i64 m.now), TV.d (D.sl (List.map memC m.l))]), (Pl.s 8, It.v (TV.ptr (Pl.o 8) 0)),
                (Pl.o 9, It.box [TV.d (D.int IntKind.i64 f.s), TV.d (D.int IntKind.i64 f.g)]), (Pl.s 9, It.v (TV.ptr (Pl.o 9) 0)), (Pl.s 10, It.v (TV.d (D.bool false))),
                (Pl.s 11, It.v (TV.ptr (Pl.o 2009) 0)), (Pl.s 13, It.v (TV.d (wntD b))),
                (Pl.s 62, It.v (TV.d (D.sl (L.map fun l => [wntD l])))), (Pl.s 63, It.v (TV.d (D.int IntKind.i64 L.length))), (Pl.s 64, It.v (TV.d (D.int IntKind.i64 i))), (Pl.s 15, It.v (TV.d (wntD x))), (Pl.o 2009, tapeI T8),
                    (Pl.s 98, It.v (TV.d (D.sl (Y.map fun l => [wntD l])))), (Pl.s 99, It.v (TV.d (D.int IntKind.i64 Y.length))), (Pl.s 100, It.v (TV.d (D.int IntKind.i64 z.1)))])
                  (fun z => Y.length - z.1) ⟨0, by omega⟩ ?_ ?_
                · exact GS.to (by simp [hY])
                · rintro ⟨k, k3⟩
                  by_cases hk : k < Y.length
                  · have hkz : (k : Int) < Y.length := by omega
                    have hgk : Y[k]? = some Y[k] := List.getElem?_eq_getElem hk
                    have hy := hYf Y[k] (List.getElem_mem hk)
                    generalize Y[k] = y at hgk hy
                    have hc1 := ichanges_cL x y hx.1 hy.1 hx.2 hy.2
                    have hc2 := rchanges24_c x y hx.1 hy.1 hx.2 hy.2
                    have hd1 := iapply_cL x y hx.1 hy.1 hx.2 hy.2
                    have hd2 := rapply24_c x y hx.1 hy.1 hx.2 hy.2
                    have hfc := chgR_few hx hy
                    have hfd := appR_few hx hy
                    have he1 := r24same_cL (chgR x y).1 (chgR x y).1 hfc.1 hfc.2
                    have he2 := r24same_cL (appR x y).1 (appR x y).1 hfd.1 hfd.2
                    rw [decide_eq_true rfl] at he1 he2
                    have he3 := isame_c x y hx.1 hx.2
                    have he4 := r24same_cL x y hx.1 hx.2
                    generalize chgR x y = C at hc1 hc2 he1
                    generalize appR x y = D at hd1 hd2 he2
                    obtain ⟨C1, C2⟩ := C
                    obtain ⟨D1, D2⟩ := D
                    simp only at hc1 hc2 he1 hd1 hd2 he2
                    simp -dsimp [hgk, hkz]
                    try refine ⟨?_, ⟨by kernel_rfl⟩⟩
                    refine ACall.of hc1 [] 0 ?_
                    simp -dsimp
                    try refine ⟨?_, ⟨by kernel_rfl⟩⟩
                    refine ACall.of hc2 [] 0 ?_
                    simp -dsimp
                    try refine ⟨?_, ⟨by kernel_rfl⟩⟩
                    refine ACall.of hd1 [] 0 ?_
                    simp -dsimp
                    try refine ⟨?_, ⟨by kernel_rfl⟩⟩
                    refine ACall.of hd2 [] 0 ?_
                    simp -dsimp
                    try refine ⟨?_, ⟨by kernel_rfl⟩⟩
                    refine ACall.of he1 [] 0 ?_
                    simp -dsimp
                    try refine ⟨?_, ⟨by kernel_rfl⟩⟩
                    refine ACall.of he2 [] 0 ?_
                    simp -dsimp
                    try refine ⟨?_, ⟨by kernel_rfl⟩⟩
                    refine ACall.of he3 [] 0 ?_
                    simp -dsimp
                    try refine ⟨?_, ⟨by kernel_rfl⟩⟩
                    refine ACall.of he4 [] 0 ?_
                    simp -dsimp [wrap_i64 (n := (k : Int) + 1) (by omega) (by omega)]
                    and_intros
                    all_goals try first | rfl | omega | exact ⟨by kernel_rfl⟩
                    exact ⟨⟨k + 1, by omega⟩, GS.to (by simp), by simp; omega⟩
                  · have hkz : ¬ (k : Int) < Y.length := by omega
                    simp -dsimp [hkz, wrap_i64 (n := (i : Int) + 1) (by omega) (by omega)]
                    and_intros
                    all_goals try first | rfl | omega | exact ⟨by kernel_rfl⟩
                    exact ⟨⟨(i + 1, T8), by simp only; omega, ke⟩, GS.to (by simp), by simp; omega⟩
          · have hiz : ¬ (i : Int) < L.length := by omega
            simp -dsimp [hiz]
            try refine ⟨?_, ⟨by kernel_rfl⟩⟩
            refine ACall.of (members_c T i2 9 (by omega)) [.o 2009] 0 ?_
            have hMv := gMbs_vld T (n := 9) (by omega)
            have hMa := (gMbs_all T (n := 9) (by omega)).2.2.1
            have kM : TapeOK (gMbs T 9).2 := by simpa using i2
            generalize gMbs T 9 = RM at hMv hMa kM ⊢
            obtain ⟨m2, T7⟩ := RM
            simp only at hMv hMa kM ⊢
            simp -dsimp [mbsT]
            try refine ⟨?_, ⟨by kernel_rfl⟩⟩
            obtain ⟨M, hM⟩ : ∃ M : List Mbs, M = [m, m2] := ⟨_, rfl⟩
            have hM2 : M.length = 2 := by rw [hM]; rfl
            have hMf : ∀ x ∈ M, x.l.length ≤ 80 ∧ ∀ y ∈ x.l, y.f.s.length ≤ 9223372036854775807 := fun x hx => by
              rw [hM] at hx
              simp only [List.mem_cons, List.not_mem_nil, or_false] at hx
              rcases hx with rfl | rfl
              · exact ⟨by omega, fun y hy => by have := hmf y hy; omega⟩
              · exact ⟨by omega, fun y hy => by have := ok_len ((vldM_zero hMv).2.2.2.1 y hy); omega⟩
            refine ALoop.of [] (fun k => k == 0 || k == 1 || k == 2 || k == 3 || k == 4 || k == 8 || k == 9 || k == 10 || k == 11 || k == 12 || k == 13 || k == 15 || k == 17 || k == 19 || k == 20 || k == 21 || k == 22 || k == 23 || k == 24 || k == 25 || k == 26 || k == 27 || k == 29 || k == 30 || k == 31 || k == 32 || k == 33 || k == 35 || k == 49 || k == 62 || k == 63 || k == 64 || k == 65 || k == 72 || k == 79 || k == 80 || k == 81 || k == 82 || k == 91 || k == 98 || k == 99 || k == 100 || k == 101 || k == 156 || k == 162 || k == 163 || k == 164 || k == 165 || k == 186 || k == 193 || k == 194 || k == 195 || k == 196 || k == 206) (ι := { z : Nat × Tp // z.1 ≤ M.length ∧ TapeOK z.2 })
              (fun z => [(Pl.o 9, It.box [TV.d (D.int IntKind.i64 f.s), TV.d (D.int IntKind.i64 f.g)]), (Pl.s 9, It.v (TV.ptr (Pl.o 9) 0)), (Pl.s 10, It.v (TV.d (D.bool false))),
                (Pl.s 11, It.v (TV.ptr (Pl.o 2009) 0)),
                (Pl.s 162, It.v (TV.d (D.sl (M.map fun z => [D.int IntKind.i64 z.now, mems z.l])))), (Pl.s 163, It.v (TV.d (D.int IntKind.i64 M.length))), (Pl.s 164, It.v (TV.d (D.int IntKind.i64 z.1.1))), (Pl.o 2009, tapeI z.1.2)])
              (fun z => M.length - z.1.1) ⟨(0, T7), by omega, kM⟩ ?_ ?_
            · exact GS.to (by simp [hM, mems])
            · rintro ⟨⟨i, T⟩, i1, i2⟩
              simp only at i1 i2
              by_cases hi : i < M.length
              · have hiz : (i : Int) < M.length := by omega
                have hg : M[i]? = some M[i] := List.getElem?_eq_getElem hi
                have hx := hMf M[i] (List.getElem_mem hi)
                generalize M[i] = x at hg hx
                have ho1 := iof_cL x (by omega) hx.2
                have ho2 := rof24_c x (by omega) hx.2
                have hof := ofR_few x
                have ho3 := r24same_cL (ofR x).1 (ofR x).1 hof.1 hof.2
                rw [decide_eq_true rfl] at ho3
                generalize ofR x = O at ho1 ho2 ho3
                obtain ⟨O1, O2⟩ := O
                simp only [mbsT] at ho1 ho2 ho3
                simp -dsimp [hg, hiz]
                try refine ⟨?_, ⟨by kernel_rfl⟩⟩
                refine ACall.of ho1 [] 0 ?_
                simp -dsimp
                try refine ⟨?_, ⟨by kernel_rfl⟩⟩
                refine ACall.of ho2 [] 0 ?_
                simp -dsimp
                try refine ⟨?_, ⟨by kernel_rfl⟩⟩
                refine ACall.of ho3 [] 0 ?_
                simp -dsimp
                try refine ⟨?_, ⟨by kernel_rfl⟩⟩
                refine ACall.of (range_c T i2 0 9 ⟨by omega, by omega⟩ ⟨by omega, by omega⟩ ⟨by omega, by omega⟩ ⟨by have := gRange_lo T 0 9; omega, by have := gRange_hi T (a := 0) (b := 9) (by omega); omega⟩) [.o 2009] 0 ?_
                have k1 : TapeOK (gRange T 0 9).2 := by simpa using i2
                generalize gRange T 0 9 = Q at k1 ⊢
                obtain ⟨s1, T5⟩ := Q
                simp only at k1 ⊢
                simp -dsimp
                try refine ⟨?_, ⟨by kernel_rfl⟩⟩
                refine ACall.of (range_c T5 k1 1 4 ⟨by omega, by omega⟩ ⟨by omega, by omega⟩ ⟨by omega, by omega⟩ ⟨by have := gRange_lo T5 1 4; omega, by have := gRange_hi T5 (a := 1) (b := 4) (by omega); omega⟩) [.o 2009] 0 ?_
                have k2 : TapeOK (gRange T5 1 4).2 := by simpa using k1
                generalize gRange T5 1 4 = Q at k2 ⊢
                obtain ⟨g1, T6⟩ := Q
                simp only at k2 ⊢
                simp -dsimp
                try refine ⟨?_, ⟨by kernel_rfl⟩⟩
                obtain ⟨G, hG⟩ : ∃ G : List Flw, G = [f, ⟨s1, g1⟩] := ⟨_, rfl⟩
                have hG2 : G.length = 2 := by rw [hG]; rfl
                refine ALoop.of [] (fun k => k == 0 || k == 1 || k == 2 || k == 3 || k == 4 || k == 8 || k == 9 || k == 10 || k == 11 || k == 12 || k == 13 || k == 15 || k == 17 || k == 19 || k == 20 || k == 21 || k == 22 || k == 23 || k == 24 || k == 25 || k == 26 || k == 27 || k == 29 || k == 30 || k == 31 || k == 32 || k == 33 || k == 35 || k == 49 || k == 62 || k == 63 || k == 64 || k == 65 || k == 72 || k == 79 || k == 80 || k == 81 || k == 82 || k == 91 || k == 98 || k == 99 || k == 100 || k == 101 || k == 156 || k == 162 || k == 163 || k == 164 || k == 165 || k == 186 || k == 193 || k == 194 || k == 195 || k == 196 || k == 206) (ι := { z : Nat // z ≤ G.length })
                  (fun z => [(Pl.o 9, It.box [TV.d (D.int IntKind.i64 f.s), TV.d (D.int IntKind.i64 f.g)]), (Pl.s 9, It.v (TV.ptr (Pl.o 9) 0)), (Pl.s 10, It.v (TV.d (D.bool false))),
                (Pl.s 11, It.v (TV.ptr (Pl.o 2009) 0)),
                (Pl.s 162, It.v (TV.d (D.sl (M.map fun z => [D.int IntKind.i64 z.now, mems z.l])))), (Pl.s 163, It.v (TV.d (D.int IntKind.i64 M.length))), (Pl.s 164, It.v (TV.d (D.int IntKind.i64 i))), (Pl.o 2009, tapeI T6),
                    (Pl.o 29, It.box [TV.d (D.int IntKind.i64 x.now), TV.d (mems x.l)]), (Pl.s 29, It.v (TV.ptr (Pl.o 29) 0)),
                    (Pl.s 193, It.v (TV.d (D.sl (G.map flwC)))), (Pl.s 194, It.v (TV.d (D.int IntKind.i64 G.length))), (Pl.s 195, It.v (TV.d (D.int IntKind.i64 z.1)))])
                  (fun z => G.length - z.1) ⟨0, by omega⟩ ?_ ?_
                · exact GS.to (by simp [hG, flwC])
                · rintro ⟨j, j1⟩
                  by_cases hj : j < G.length
                  · have hjz : (j : Int) < G.length := by omega
                    have hgj : G[j]? = some G[j] := List.getElem?_eq_getElem hj
                    generalize G[j] = g at hgj
                    have hh1 := ihosts_cL x (by omega) hx.2 g
                    have hh2 := rhosts24_c x (by omega) hx.2 g
                    have hh3 := ints_c (hostsV x g) (hostsV x g) (by have := hostsV_len x g; omega)
                    rw [decide_eq_true rfl] at hh3
                    simp only [mbsT, flwT] at hh1 hh2
                    simp -dsimp [hgj, hjz, flwC]
                    try refine ⟨?_, ⟨by kernel_rfl⟩⟩
                    refine ACall.of hh1 [] 0 ?_
                    simp -dsimp
                    try refine ⟨?_, ⟨by kernel_rfl⟩⟩
                    refine ACall.of hh2 [] 0 ?_
                    simp -dsimp
                    try refine ⟨?_, ⟨by kernel_rfl⟩⟩
                    refine ACall.of hh3 [] 0 ?_
                    simp -dsimp [wrap_i64 (n := (j : Int) + 1) (by omega) (by omega)]
                    and_intros
                    all_goals try first | rfl | omega | exact ⟨by kernel_rfl⟩
                    exact ⟨⟨j + 1, by omega⟩, GS.to (by simp), by simp; omega⟩
                  · have hjz : ¬ (j : Int) < G.length := by omega
                    simp -dsimp [hjz, wrap_i64 (n := (i : Int) + 1) (by omega) (by omega)]
                    and_intros
                    all_goals try first | rfl | omega | exact ⟨by kernel_rfl⟩
                    exact ⟨⟨(i + 1, T6), by simp only; omega, k2⟩, GS.to (by simp), by simp; omega⟩
              · have hiz : ¬ (i : Int) < M.length := by omega
                simp -dsimp [hiz]
                try refine ⟨?_, ⟨by kernel_rfl⟩⟩
                refine ACall.of awake_c [] 0 ?_
                simp -dsimp
                and_intros
                all_goals try first | rfl | omega | exact ⟨by kernel_rfl⟩
                refine Fin.of ?_
                simp
    · rw [b2]
      simp -dsimp
      refine ACall.of awake_c [] 0 ?_
      simp -dsimp
      and_intros
      all_goals try first | rfl | omega | exact ⟨by kernel_rfl⟩
      refine Fin.of ?_
      simp
  · rw [b1]
    simp -dsimp
    refine ACall.of awake_c [] 0 ?_
    simp -dsimp
    and_intros
    all_goals try first | rfl | omega | exact ⟨by kernel_rfl⟩
    refine Fin.of ?_
    simp
end Go.Proofs

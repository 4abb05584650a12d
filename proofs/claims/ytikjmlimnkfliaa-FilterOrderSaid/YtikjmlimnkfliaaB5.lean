/-
  What functions of the program compute, stated as contracts over plain data; the conditions of each stand in its own statement.
-/
import Derived.Test.YtikjmlimnkfliaaB2
set_option linter.unusedSimpArgs false
set_option maxRecDepth 100000
set_option maxHeartbeats 4000000
namespace Go.Proofs
open Go Go.Tr

def sameV (f g : Flt) : Bool := decide (f.m = g.m) && decide (f.s = g.s)
theorem sameV_iff {f g : Flt} : sameV f g = true ↔ f = g := by
  obtain ⟨m, s⟩ := f
  obtain ⟨m', s'⟩ := g
  simp [sameV]
theorem bool_iff {x y : Bool} (h : x = true ↔ y = true) : x = y := by cases x <;> cases y <;> simp at h ⊢
theorem wth_refl {a : Flt} (ha : a.Ok) : wth a a = true := (wth_ok ha ha).2 fun _ _ _ h => h
theorem none_ok : Flt.Ok ⟨1, []⟩ := ⟨.inl rfl, by simp, by simp⟩
theorem wth_none {a : Flt} (ha : a.Ok) : wth ⟨1, []⟩ a = true := (wth_ok none_ok ha).2 fun s _ _ h => by simp [wnt] at h
theorem wth_anti {a b : Flt} (ha : a.Ok) (hb : b.Ok) (h : wth a b = true) : wth b a = sameV a b := by
  refine bool_iff ?_
  rw [sameV_iff]
  constructor
  · intro h2
    refine Flt.ext_w ha hb fun s l1 l2 => bool_iff ⟨(wth_ok ha hb).1 h s l1 l2, (wth_ok hb ha).1 h2 s l1 l2⟩
  · rintro rfl; exact h
theorem wth_trans {a b c : Flt} (ha : a.Ok) (hb : b.Ok) (hc : c.Ok) (h : wth a b = true) (g : wth b c = true) : wth a c = true :=
  (wth_ok ha hc).2 fun s l1 l2 hw => (wth_ok hb hc).1 g s l1 l2 ((wth_ok ha hb).1 h s l1 l2 hw)
theorem wth_u1 {a b : Flt} (ha : a.Ok) (hb : b.Ok) : wth a (combR kOr a b) = true := (wth_ok ha (combR_ok ha hb)).2 fun s _ _ h => by rw [combR_wnt ha hb]; simp [kOr, h]
theorem wth_u2 {a b : Flt} (ha : a.Ok) (hb : b.Ok) : wth b (combR kOr a b) = true := (wth_ok hb (combR_ok ha hb)).2 fun s _ _ h => by rw [combR_wnt ha hb]; simp [kOr, h]
theorem wth_least {a b c : Flt} (ha : a.Ok) (hb : b.Ok) (hc : c.Ok) : wth (combR kOr a b) c = (wth a c && wth b c) := by
  refine bool_iff ?_
  rw [Bool.and_eq_true, wth_ok (combR_ok ha hb) hc, wth_ok ha hc, wth_ok hb hc]
  constructor
  · intro h
    exact ⟨fun s l1 l2 hw => h s l1 l2 (by rw [combR_wnt ha hb]; simp [kOr, hw]), fun s l1 l2 hw => h s l1 l2 (by rw [combR_wnt ha hb]; simp [kOr, hw])⟩
  · rintro ⟨h1, h2⟩ s l1 l2 hw
    rw [combR_wnt ha hb] at hw
    simp only [kOr, Bool.or_eq_true] at hw
    exact hw.elim (h1 s l1 l2) (h2 s l1 l2)
theorem wth_join {a b : Flt} (ha : a.Ok) (hb : b.Ok) : wth a b = sameV (combR kOr a b) b := by
  refine bool_iff ?_
  rw [sameV_iff]
  constructor
  · intro h
    refine Flt.ext_w (combR_ok ha hb) hb fun s l1 l2 => ?_
    rw [combR_wnt ha hb]
    have := (wth_ok ha hb).1 h s l1 l2
    cases hx : wnt a s
    · simp [kOr]
    · simp [kOr, this hx]
  · intro h
    have := wth_u1 ha hb
    rwa [h] at this
theorem wc {a b : Flt} (ha : a.Ok) (hb : b.Ok) : Contract Try.prog 18 [fltT a, fltT b] [] (.d (.bool (wth a b))) [] [] := within_c a b (ok_le ha) (ok_le hb)
theorem sc {a : Flt} (ha : a.Ok) (b : Flt) : Contract Try.prog 10 [fltT a, fltT b] [] (.d (.bool (sameV a b))) [] [] := rsame_c a b (Nat.le_trans (ok_le ha) (by omega))
theorem order_law (t : List Int) (ht : ∀ x ∈ t, I64 x) : Contract Try.prog 5 [.d (ints t)] [] (.d (.bool true)) [] [] := by
  refine contract_of Try.func5 rfl (fun E0 => ?_)
  refine awp.sound (g := .mk) (ow := []) (kp := (fun k => k == 0 || k == 2 || k == 3 || k == 4 || k == 5 || k == 6 || k == 7 || k == 8 || k == 56)) ?_
  rw [Try.ntmps5]
  simp -dsimp
  refine ACall.of (new_c t) [] 2000 ?_
  simp -dsimp
  have k0 : TapeOK (t.take 2000, 0) := ⟨by simp; omega, fun x hx => ht x (List.mem_of_mem_take hx)⟩
  generalize (t.take 2000, 0) = T0 at k0 ⊢
  refine ACall.of (filter_c T0 k0) [.o 2009] 0 ?_
  have oka := gFlt_flt T0
  have kk0 : TapeOK (gFlt T0).2 := by simpa using k0
  generalize gFlt T0 = R0 at oka kk0 ⊢
  obtain ⟨a, T1⟩ := R0
  simp only at oka kk0 ⊢
  have k1 := kk0
  simp -dsimp [fltT]
  as_aux_lemma =>
  refine ACall.of (filter_c T1 k1) [.o 2009] 0 ?_
  have okb := gFlt_flt T1
  have kk1 : TapeOK (gFlt T1).2 := by simpa using k1
  generalize gFlt T1 = R1 at okb kk1 ⊢
  obtain ⟨b, T2⟩ := R1
  simp only at okb kk1 ⊢
  have k2 := kk1
  simp -dsimp [fltT]
  as_aux_lemma =>
  refine ACall.of (filter_c T2 k2) [.o 2009] 0 ?_
  have okc := gFlt_flt T2
  have kk2 : TapeOK (gFlt T2).2 := by simpa using k2
  generalize gFlt T2 = R2 at okc kk2 ⊢
  obtain ⟨c, T3⟩ := R2
  simp only at okc kk2 ⊢
  have k3 := kk2
  simp -dsimp [fltT]
  as_aux_lemma =>
  have okU := combR_ok (K := kOr) oka okb
  have cU := union_ok oka okb
  have caa := wc oka oka
  rw [wth_refl oka] at caa
  have cna := wc none_ok oka
  rw [wth_none oka] at cna
  have cau := wc oka okU
  rw [wth_u1 oka okb] at cau
  have cbu := wc okb okU
  rw [wth_u2 oka okb] at cbu
  have cuc := wc okU okc
  rw [wth_least oka okb okc] at cuc
  have csu := sc okU b
  rw [← wth_join oka okb] at csu
  have cab := wc oka okb
  have cba := wc okb oka
  have cbc := wc okb okc
  have cac := wc oka okc
  have csb := sc oka b
  have hy : wth a b = true → wth b a = sameV a b := wth_anti oka okb
  have hv : wth a b = true → wth b c = true → wth a c = true := wth_trans oka okb okc
  generalize combR kOr a b = u at okU cU cau cbu cuc csu
  generalize wth a b = x at *
  generalize wth b a = y at *
  generalize wth b c = z at *
  generalize wth a c = v at *
  generalize sameV a b = sb at *
  refine ACall.of caa [] 0 ?_
  simp -dsimp [fltT]
  as_aux_lemma =>
  refine ACall.of nothing_c [] 0 ?_
  simp -dsimp [fltT]
  as_aux_lemma =>
  refine ACall.of cna [] 0 ?_
  simp -dsimp [fltT]
  as_aux_lemma =>
  cases x
  · refine ACall.of cab [] 0 ?_
    simp -dsimp [fltT]
    and_intros
    all_goals try first | rfl | exact ⟨by kernel_rfl⟩
    as_aux_lemma =>
    refine ACall.of cab [] 0 ?_
    simp -dsimp [fltT]
    and_intros
    all_goals try first | rfl | exact ⟨by kernel_rfl⟩
    as_aux_lemma =>
    cases v
    · refine ACall.of cU [] 0 ?_
      simp -dsimp [fltT]
      as_aux_lemma =>
      refine ACall.of cau [] 0 ?_
      simp -dsimp [fltT]
      as_aux_lemma =>
      refine ACall.of cbu [] 0 ?_
      simp -dsimp [fltT]
      as_aux_lemma =>
      refine ACall.of cac [] 0 ?_
      simp -dsimp [fltT]
      as_aux_lemma =>
      refine ACall.of cuc [] 0 ?_
      simp -dsimp [fltT]
      as_aux_lemma =>
      refine ACall.of cab [] 0 ?_
      simp -dsimp [fltT]
      as_aux_lemma =>
      refine ACall.of csu [] 0 ?_
      simp -dsimp [fltT]
      as_aux_lemma =>
      refine ACall.of awake_c [] 0 ?_
      simp -dsimp [fltT]
      as_aux_lemma =>
      and_intros
      all_goals try first | rfl | exact ⟨by kernel_rfl⟩
      refine Fin.of ?_
      simp
    · cases z
      · refine ACall.of cU [] 0 ?_
        simp -dsimp [fltT]
        as_aux_lemma =>
        refine ACall.of cau [] 0 ?_
        simp -dsimp [fltT]
        as_aux_lemma =>
        refine ACall.of cbu [] 0 ?_
        simp -dsimp [fltT]
        as_aux_lemma =>
        refine ACall.of cac [] 0 ?_
        simp -dsimp [fltT]
        as_aux_lemma =>
        refine ACall.of cbc [] 0 ?_
        simp -dsimp [fltT]
        as_aux_lemma =>
        refine ACall.of cuc [] 0 ?_
        simp -dsimp [fltT]
        as_aux_lemma =>
        refine ACall.of cab [] 0 ?_
        simp -dsimp [fltT]
        as_aux_lemma =>
        refine ACall.of csu [] 0 ?_
        simp -dsimp [fltT]
        as_aux_lemma =>
        refine ACall.of awake_c [] 0 ?_
        simp -dsimp [fltT]
        as_aux_lemma =>
        and_intros
        all_goals try first | rfl | exact ⟨by kernel_rfl⟩
        refine Fin.of ?_
        simp
      · refine ACall.of cU [] 0 ?_
        simp -dsimp [fltT]
        as_aux_lemma =>
        refine ACall.of cau [] 0 ?_
        simp -dsimp [fltT]
        as_aux_lemma =>
        refine ACall.of cbu [] 0 ?_
        simp -dsimp [fltT]
        as_aux_lemma =>
        refine ACall.of cac [] 0 ?_
        simp -dsimp [fltT]
        as_aux_lemma =>
        refine ACall.of cbc [] 0 ?_
        simp -dsimp [fltT]
        as_aux_lemma =>
        refine ACall.of cuc [] 0 ?_
        simp -dsimp [fltT]
        as_aux_lemma =>
        refine ACall.of cab [] 0 ?_
        simp -dsimp [fltT]
        as_aux_lemma =>
        refine ACall.of csu [] 0 ?_
        simp -dsimp [fltT]
        as_aux_lemma =>
        refine ACall.of awake_c [] 0 ?_
        simp -dsimp [fltT]
        as_aux_lemma =>
        and_intros
        all_goals try first | rfl | exact ⟨by kernel_rfl⟩
        refine Fin.of ?_
        simp
  · obtain rfl := hy rfl
    refine ACall.of cab [] 0 ?_
    simp -dsimp [fltT]
    as_aux_lemma =>
    refine ACall.of cba [] 0 ?_
    simp -dsimp [fltT]
    as_aux_lemma =>
    refine ACall.of csb [] 0 ?_
    simp -dsimp [fltT]
    as_aux_lemma =>
    refine ACall.of cab [] 0 ?_
    simp -dsimp [fltT]
    as_aux_lemma =>
    cases z
    · refine ACall.of cbc [] 0 ?_
      simp -dsimp [fltT]
      and_intros
      all_goals try first | rfl | exact ⟨by kernel_rfl⟩
      as_aux_lemma =>
      cases v
      · refine ACall.of cU [] 0 ?_
        simp -dsimp [fltT]
        as_aux_lemma =>
        refine ACall.of cau [] 0 ?_
        simp -dsimp [fltT]
        as_aux_lemma =>
        refine ACall.of cbu [] 0 ?_
        simp -dsimp [fltT]
        as_aux_lemma =>
        refine ACall.of cac [] 0 ?_
        simp -dsimp [fltT]
        as_aux_lemma =>
        refine ACall.of cuc [] 0 ?_
        simp -dsimp [fltT]
        as_aux_lemma =>
        refine ACall.of cab [] 0 ?_
        simp -dsimp [fltT]
        as_aux_lemma =>
        refine ACall.of csu [] 0 ?_
        simp -dsimp [fltT]
        as_aux_lemma =>
        refine ACall.of awake_c [] 0 ?_
        simp -dsimp [fltT]
        as_aux_lemma =>
        and_intros
        all_goals try first | rfl | exact ⟨by kernel_rfl⟩
        refine Fin.of ?_
        simp
      · refine ACall.of cU [] 0 ?_
        simp -dsimp [fltT]
        as_aux_lemma =>
        refine ACall.of cau [] 0 ?_
        simp -dsimp [fltT]
        as_aux_lemma =>
        refine ACall.of cbu [] 0 ?_
        simp -dsimp [fltT]
        as_aux_lemma =>
        refine ACall.of cac [] 0 ?_
        simp -dsimp [fltT]
        as_aux_lemma =>
        refine ACall.of cbc [] 0 ?_
        simp -dsimp [fltT]
        as_aux_lemma =>
        refine ACall.of cuc [] 0 ?_
        simp -dsimp [fltT]
        as_aux_lemma =>
        refine ACall.of cab [] 0 ?_
        simp -dsimp [fltT]
        as_aux_lemma =>
        refine ACall.of csu [] 0 ?_
        simp -dsimp [fltT]
        as_aux_lemma =>
        refine ACall.of awake_c [] 0 ?_
        simp -dsimp [fltT]
        as_aux_lemma =>
        and_intros
        all_goals try first | rfl | exact ⟨by kernel_rfl⟩
        refine Fin.of ?_
        simp
    · obtain rfl := hv rfl rfl
      refine ACall.of cbc [] 0 ?_
      simp -dsimp [fltT]
      as_aux_lemma =>
      refine ACall.of cac [] 0 ?_
      simp -dsimp [fltT]
      and_intros
      all_goals try first | rfl | exact ⟨by kernel_rfl⟩
      as_aux_lemma =>
      refine ACall.of cU [] 0 ?_
      simp -dsimp [fltT]
      as_aux_lemma =>
      refine ACall.of cau [] 0 ?_
      simp -dsimp [fltT]
      as_aux_lemma =>
      refine ACall.of cbu [] 0 ?_
      simp -dsimp [fltT]
      as_aux_lemma =>
      refine ACall.of cac [] 0 ?_
      simp -dsimp [fltT]
      as_aux_lemma =>
      refine ACall.of cbc [] 0 ?_
      simp -dsimp [fltT]
      as_aux_lemma =>
      refine ACall.of cuc [] 0 ?_
      simp -dsimp [fltT]
      as_aux_lemma =>
      refine ACall.of cab [] 0 ?_
      simp -dsimp [fltT]
      as_aux_lemma =>
      refine ACall.of csu [] 0 ?_
      simp -dsimp [fltT]
      as_aux_lemma =>
      refine ACall.of awake_c [] 0 ?_
      simp -dsimp [fltT]
      as_aux_lemma =>
      and_intros
      all_goals try first | rfl | exact ⟨by kernel_rfl⟩
      refine Fin.of ?_
      simp

end Go.Proofs
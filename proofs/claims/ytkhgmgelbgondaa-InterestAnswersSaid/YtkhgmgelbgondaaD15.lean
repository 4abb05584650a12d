/-
  What functions of the program compute, stated as contracts over plain data; the conditions of each stand in its own statement.
-/
import Derived.Test.YtkhgmgelbgondaaD14
set_option linter.unusedSimpArgs false
namespace Go.Proofs
open Go Go.Tr

theorem grp_nil_iff {l : List Mem} {g : Int} : grp l g = [] ↔ ∀ x ∈ l, x.g ≠ g := by
  unfold grp
  rw [List.filter_eq_nil_iff]
  simp
theorem ofL_asc {l : List Mem} (h : AscM l) : AscW (ofL l) := by
  unfold AscW ofL
  rw [List.pairwise_map]
  exact gs_asc h
theorem opt_ofL {l : List Mem} (h : AscM l) (g : Int) : opt (ofL l) g = if grp l g = [] then none else some (uniF (grp l g)) := by
  split
  · rename_i hg
    rw [grp_nil_iff] at hg
    cases ho : opt (ofL l) g with
    | none => rfl
    | some f =>
      obtain ⟨x, hx, e⟩ := (ofL_mem h).1 (opt_some ho)
      simp only [Wnt.mk.injEq] at e
      exact absurd e.1.symm (hg x hx)
  · rename_i hg
    have : ∃ x ∈ l, x.g = g := by
      apply Classical.byContradiction
      intro hn
      exact hg (grp_nil_iff.2 fun x hx e => hn ⟨x, hx, e⟩)
    obtain ⟨x, hx, rfl⟩ := this
    exact opt_mem (ofL_asc h) ((ofL_mem h).2 ⟨x, hx, rfl⟩)
theorem woM_mem {h g : Int} {l : List Mem} {x : Mem} : x ∈ woM h g l ↔ x ∈ l ∧ ¬ (x.h = h ∧ x.g = g) := by
  unfold woM
  rw [List.mem_filter]
  simp only [woQ, Bool.not_eq_true', Bool.and_eq_false_iff, decide_eq_false_iff_not]
  constructor
  · rintro ⟨h1, h2⟩; exact ⟨h1, fun e => by rcases h2 with h2 | h2 <;> simp [e] at h2⟩
  · rintro ⟨h1, h2⟩
    refine ⟨h1, ?_⟩
    by_cases e : x.h = h
    · exact .inr fun e2 => h2 ⟨e, e2⟩
    · exact .inl e
theorem woM_asc {h g : Int} {l : List Mem} (ha : AscM l) : AscM (woM h g l) := List.Pairwise.filter _ ha
theorem wiM_mem {x y : Mem} : ∀ {l : List Mem}, y ∈ wiM x l ↔ y = x ∨ y ∈ l
  | [] => by simp [wiM]
  | z :: r => by
    simp only [wiM]
    split
    · rw [List.mem_cons, wiM_mem, List.mem_cons]
      constructor
      · rintro (h | h | h)
        · exact .inr (.inl h)
        · exact .inl h
        · exact .inr (.inr h)
      · rintro (h | h | h)
        · exact .inr (.inl h)
        · exact .inl h
        · exact .inr (.inr h)
    · simp
theorem wiM_asc {x : Mem} : ∀ {l : List Mem}, AscM l → (∀ y ∈ l, ¬ (y.h = x.h ∧ y.g = x.g)) → AscM (wiM x l)
  | [], _, _ => by simp [wiM, AscM]
  | z :: r, h, hn => by
    obtain ⟨h1, h2⟩ := List.pairwise_cons.1 h
    simp only [wiM]
    split
    · rename_i hz
      refine List.pairwise_cons.2 ⟨fun y hy => ?_, wiM_asc h2 fun y hy => hn y (by simp [hy])⟩
      rcases wiM_mem.1 hy with rfl | hy
      · exact hz
      · exact h1 y hy
    · rename_i hz
      have hz' : befM z x = false := by simpa using hz
      rw [befM_no] at hz'
      have hnz := hn z (by simp)
      have hxz : befM x z = true := by rw [befM_iff]; omega
      refine List.pairwise_cons.2 ⟨fun y hy => ?_, h⟩
      rcases List.mem_cons.1 hy with rfl | hy
      · exact hxz
      · exact befM_trans hxz (h1 y hy)
theorem grp_wo {h g g' : Int} (l : List Mem) (hg : g' ≠ g) : grp (woM h g l) g' = grp l g' := by
  unfold grp woM
  rw [List.filter_filter]
  congr 1
  funext x
  by_cases e : x.g = g'
  · have : ¬ x.g = g := fun e2 => hg (by omega)
    simp [e, woQ, hg]
  · simp [e]
theorem grp_wi {x : Mem} {g' : Int} (hg : g' ≠ x.g) : ∀ l : List Mem, grp (wiM x l) g' = grp l g'
  | [] => by simp [grp, wiM, Ne.symm hg]
  | z :: r => by
    simp only [wiM]
    split
    · have := grp_wi hg r
      unfold grp at this ⊢
      rw [List.filter_cons, this, List.filter_cons]
    · simp [grp, List.filter_cons, Ne.symm hg]
theorem repL_grp {m : Mbs} {h g : Int} {f : Flt} {life g' : Int} (hg : g' ≠ g) : grp (repL m h g f life).l g' = grp m.l g' := by
  unfold repL
  simp only
  split
  · exact grp_wo m.l hg
  · rw [grp_wi (x := ⟨h, g, f, m.now + life⟩) hg, grp_wo m.l hg]
theorem wo_vld {m : Mbs} (hv : vldM m = 0) (h g : Int) : vldM ⟨m.now, woM h g m.l⟩ = 0 := by
  obtain ⟨v1, v2, v3, v4, v5, v6⟩ := vldM_zero hv
  have hl : (woM h g m.l).length ≤ m.l.length := List.length_filter_le _ _
  exact vldM_ok v1 (by simp only; omega) (fun x hx => v3 x (woM_mem.1 hx).1) (fun x hx => v4 x (woM_mem.1 hx).1) (fun x hx => v5 x (woM_mem.1 hx).1) (woM_asc v6)
theorem rep_vld {m : Mbs} (hv : vldM m = 0) (hn : m.l.length < 64) {h g : Int} (hh : 1 ≤ h ∧ h ≤ 99) (hg : 1 ≤ g ∧ g ≤ 99) {f : Flt} (hf : f.Ok) {life : Int} (hl : 1 ≤ life ∧ life ≤ 1000) : vldM (repL m h g f life) = 0 := by
  have hw := wo_vld hv h g
  unfold repL
  by_cases c : f.non = true
  · rw [if_pos c]; exact hw
  · rw [if_neg c]
    obtain ⟨v1, v2, v3, v4, v5, v6⟩ := vldM_zero hw
    simp only at v1 v2 v3 v4 v5 v6
    have hl' : (woM h g m.l).length ≤ m.l.length := List.length_filter_le _ _
    refine vldM_ok v1 (by simp only [wiM_len]; omega) (fun x hx => ?_) (fun x hx => ?_) (fun x hx => ?_) (wiM_asc v6 fun y hy => (woM_mem.1 hy).2)
    · rcases wiM_mem.1 hx with rfl | hx
      · simp only [rgM, decide_eq_true_eq]; omega
      · exact v3 x hx
    · rcases wiM_mem.1 hx with rfl | hx
      · exact hf
      · exact v4 x hx
    · rcases wiM_mem.1 hx with rfl | hx
      · simpa using c
      · exact v5 x hx
theorem gs_len (l : List Mem) : (gsM l).length ≤ l.length := by
  have := cpt_len (l.map (·.g)); simp only [List.length_map] at this; exact this
theorem ascW_one {l : List Wnt} {g : Int} (h : AscW l) (hg : ∀ w ∈ l, w.g = g) : l.length ≤ 1 := by
  match l, h, hg with
  | [], _, _ => simp
  | [_], _, _ => simp
  | x :: y :: r, h, hg =>
    have h1 := (List.pairwise_cons.1 h).1 y (by simp)
    have h2 := hg x (by simp)
    have h3 := hg y (by simp)
    omega
/-- a report changes the wants of its group alone -/
theorem rep_chg {m : Mbs} (hv : vldM m = 0) (hn : m.l.length < 32) {h g : Int} (hh : 1 ≤ h ∧ h ≤ 99) (hg : 1 ≤ g ∧ g ≤ 99) {f : Flt} (hf : f.Ok) {life : Int} (hl : 1 ≤ life ∧ life ≤ 1000) :
    ∃ c, chgR (ofL m.l) (ofL (repL m h g f life).l) = (c, 0) ∧ c.length ≤ 1 ∧ ∀ w ∈ c, w.g = g := by
  have hr := rep_vld hv (by omega) hh hg hf hl
  obtain ⟨v1, v2, v3, v4, v5, v6⟩ := vldM_zero hv
  obtain ⟨r1, r2, r3, r4, r5, r6⟩ := vldM_zero hr
  have hrl : (repL m h g f life).l.length ≤ 32 := by
    have hl' : (woM h g m.l).length ≤ m.l.length := List.length_filter_le _ _
    unfold repL; simp only; split
    · omega
    · rw [wiM_len]; omega
  have g1 := gs_len m.l
  have g2 := gs_len (repL m h g f life).l
  have w1 := ofL_vld hv (by omega)
  have w2 := ofL_vld hr (by omega)
  obtain ⟨c1, c2⟩ := mrgV_all valC rfl _ (ofL m.l) (ofL (repL m h g f life).l) (Nat.le_refl _) (ofL_asc v6) (ofL_asc r6)
  rw [← mrg_chg] at c1 c2
  have c3 : ∀ w ∈ mrg chA chB chC (ofL m.l) (ofL (repL m h g f life).l), w.g = g := fun w hw => by
    apply Classical.byContradiction
    intro hne
    have := (c2 w).1 hw
    rw [opt_ofL v6, opt_ofL r6, repL_grp hne] at this
    split at this <;> simp [valC] at this
  have c4 := ascW_one c1 c3
  refine ⟨_, ?_, c4, c3⟩
  unfold chgR limW
  rw [w1, w2]
  simp
  omega
theorem of_within {l : List Mem} (hf : ∀ x ∈ l, x.f.Ok) {x : Mem} (hx : x ∈ l) : wth x.f (uniF (grp l x.g)) = true := by
  rw [wth_ok (hf x hx) (uni_ok hf x.g)]
  intro s _ _ hs
  rw [uni_wnt hf, List.any_eq_true]
  exact ⟨x, hx, by simp [hs]⟩
def fnd (l : List Wnt) (g : Int) : Flt := (opt l g).getD nF
theorem fnd_ofL {l : List Mem} (h : AscM l) {x : Mem} (hx : x ∈ l) : fnd (ofL l) x.g = uniF (grp l x.g) := by
  unfold fnd
  rw [opt_ofL h, if_neg (fun e => grp_nil_iff.1 e x hx rfl)]
  rfl
end Go.Proofs

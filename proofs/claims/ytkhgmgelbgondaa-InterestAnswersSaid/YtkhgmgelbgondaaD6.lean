/-
  What functions of the program compute, stated as contracts over plain data; the conditions of each stand in its own statement.
-/
import Derived.Test.YtkhgmgelbgondaaD4
import Derived.Test.YtkhgmgelbgondaaD5
set_option linter.unusedSimpArgs false
namespace Go.Proofs
open Go Go.Tr

theorem fixF_ok {f : Flt} (h : f.Ok) : (fixF f).Ok ∧ (fixF f).non = false := by
  unfold fixF
  split
  · exact ⟨⟨.inr rfl, h.2⟩, by simp [Flt.non]⟩
  · rename_i h'
    exact ⟨h, by simpa using h'⟩
def MemOk (now : Int) (x : Mem) : Prop := (1 ≤ x.h ∧ x.h ≤ 8) ∧ (1 ≤ x.g ∧ x.g ≤ 4) ∧ x.f.Ok ∧ x.f.non = false ∧ now ≤ x.u ∧ x.u ≤ now + 1000
theorem gMem_mem (T : Tp) (now : Int) : MemOk now (gMem T now).1 := by
  have a1 := gRange_lo T 1 8
  have a2 := gRange_hi T (a := 1) (b := 8) (by omega)
  have b1 := gRange_lo (gRange T 1 8).2 1 4
  have b2 := gRange_hi (gRange T 1 8).2 (a := 1) (b := 4) (by omega)
  have hf := fixF_ok (gFlt_flt (gRange (gRange T 1 8).2 1 4).2)
  have hu := upicks_r (gFlt (gRange (gRange T 1 8).2 1 4).2).2
  exact ⟨⟨a1, a2⟩, ⟨b1, b2⟩, hf.1, hf.2, by simp only [gMem]; omega, by simp only [gMem]; omega⟩
theorem gMemL_all : ∀ (n : Nat) (T : Tp) (now : Int) (l : List Mem), AscM l → (∀ x ∈ l, MemOk now x) → AscM (gMemL n T now l).1 ∧ (∀ x ∈ (gMemL n T now l).1, MemOk now x) ∧ (gMemL n T now l).1.length ≤ l.length + n
  | 0, _, _, l, h, g => ⟨h, g, by simp [gMemL]⟩
  | n + 1, T, now, l, h, g => by
    simp only [gMemL]
    obtain ⟨h1, h2, h3⟩ := gMemL_all n (gMem T now).2 now (putM (gMem T now).1 l) (putM_asc h) fun x hx => by
      rcases putM_mem hx with rfl | hx
      · exact gMem_mem T now
      · exact g x hx
    have := putM_len (gMem T now).1 l
    exact ⟨h1, h2, by omega⟩
theorem vldM_ok {m : Mbs} (h1 : 0 ≤ m.now ∧ m.now ≤ 1000000) (h2 : m.l.length ≤ 64) (h3 : ∀ x ∈ m.l, rgM m.now x = true) (h4 : ∀ x ∈ m.l, x.f.Ok) (h5 : ∀ x ∈ m.l, x.f.non = false) (h6 : AscM m.l) : vldM m = 0 := by
  unfold vldM
  rw [if_neg (by simpa using h1), if_neg (by omega), if_neg (fun ⟨x, hx, hr⟩ => by rw [h3 x hx] at hr; simp at hr)]
  have h4' : ferr (m.l.map (·.f)) = 0 := ferr_no fun a g hg => by
    rw [List.getElem?_map] at hg
    cases hz : m.l[a]? with
    | none => rw [hz] at hg; simp at hg
    | some z =>
      rw [hz] at hg; simp only [Option.map_some, Option.some.injEq] at hg; subst hg
      exact (h4 z (List.mem_of_getElem? hz)).vld
  rw [if_neg (by rw [h4']; simp), if_neg (fun ⟨x, hx, hr⟩ => by rw [h5 x hx] at hr; simp at hr), if_pos h6]
theorem gMbs_all (T : Tp) {n : Int} (hn : 0 ≤ n) : AscM (gMbs T n).1.l ∧ (∀ x ∈ (gMbs T n).1.l, MemOk (gMbs T n).1.now x) ∧ ((gMbs T n).1.l.length : Int) ≤ n ∧ (0 ≤ (gMbs T n).1.now ∧ (gMbs T n).1.now ≤ 998000) := by
  have hk1 := gNext_nonneg (gPick T npicks).2 (n + 1)
  have hk2 := gNext_lt (gPick T npicks).2 (n := n + 1) (by omega)
  obtain ⟨h1, h2, h3⟩ := gMemL_all (gNext (gPick T npicks).2 (n + 1)).1.toNat (gNext (gPick T npicks).2 (n + 1)).2 (gPick T npicks).1 [] (by simp [AscM]) (by simp)
  refine ⟨h1, h2, ?_, npicks_r T⟩
  simp only [List.length_nil] at h3
  simp only [gMbs]
  omega
theorem memOk_rg {now : Int} {x : Mem} (h : MemOk now x) : rgM now x = true := by
  obtain ⟨h1, h2, _, _, h3, h4⟩ := h
  simp only [rgM, decide_eq_true_eq]
  omega
theorem gMbs_vld (T : Tp) {n : Int} (hn : 0 ≤ n ∧ n ≤ 64) : vldM (gMbs T n).1 = 0 := by
  obtain ⟨h1, h2, h3, h4⟩ := gMbs_all T hn.1
  exact vldM_ok (by omega) (by omega) (fun x hx => memOk_rg (h2 x hx)) (fun x hx => (h2 x hx).2.2.1) (fun x hx => (h2 x hx).2.2.2.1) h1

theorem uniF_wnt : ∀ {l : List Mem} {f : Flt}, f.Ok → (∀ x ∈ l, x.f.Ok) → ∀ s, wnt (l.foldl (fun f x => combR kOr f x.f) f) s = (wnt f s || l.any fun x => wnt x.f s)
  | [], f, _, _, s => by simp
  | y :: r, f, h, h2, s => by
    have hy := h2 y (by simp)
    rw [List.foldl_cons, uniF_wnt (combR_ok h hy) (fun x hx => h2 x (by simp [hx])) s, combR_wnt h hy]
    simp [kOr, Bool.or_assoc]
theorem nF_wnt (s : Int) : wnt nF s = false := by simp [wnt, nF]
theorem non_some {f : Flt} (h : f.Ok) (hn : f.non = false) : ∃ s, 1 ≤ s ∧ s ≤ 100 ∧ wnt f s = true := by
  rcases h.1 with e | e
  · obtain ⟨m, s⟩ := f
    cases s with
    | nil => simp [Flt.non] at hn e; exact absurd e hn
    | cons a r =>
      have := h.2.1 a (by simp)
      simp only at e
      exact ⟨a, this.1, by omega, by simp [wnt, e]⟩
  · exact ⟨100, by omega, by omega, by rw [wnt_hi h (by omega)]; simp [e]⟩
theorem uni_ok {l : List Mem} (h : ∀ x ∈ l, x.f.Ok) (g : Int) : (uniF (grp l g)).Ok := uniF_ok nF_ok fun x hx => h x ((List.mem_filter.1 hx).1)
theorem uni_wnt {l : List Mem} (h : ∀ x ∈ l, x.f.Ok) (g s : Int) : wnt (uniF (grp l g)) s = l.any fun x => decide (x.g = g) && wnt x.f s := by
  have h0 : ∀ x ∈ grp l g, x.f.Ok := fun x hx => h x (List.mem_filter.1 hx).1
  have h1 := uniF_wnt nF_ok h0 s
  rw [nF_wnt, Bool.false_or] at h1
  unfold uniF
  rw [h1, grp, List.any_filter]
theorem vldW_ok {l : List Wnt} {ch : Bool} (h1 : l.length ≤ 32) (h2 : ∀ x ∈ l, 1 ≤ x.g ∧ x.g ≤ 99) (h3 : ∀ x ∈ l, x.f.Ok) (h4 : ch = false → ∀ x ∈ l, x.f.non = false) (h5 : AscW l) : vldW l ch = 0 := by
  unfold vldW
  rw [if_neg (by omega), if_neg (fun ⟨x, hx, hr⟩ => by have := h2 x hx; omega)]
  have h4' : ferr (l.map (·.f)) = 0 := ferr_no fun a g hg => by
    rw [List.getElem?_map] at hg
    cases hz : l[a]? with
    | none => rw [hz] at hg; simp at hg
    | some z =>
      rw [hz] at hg; simp only [Option.map_some, Option.some.injEq] at hg; subst hg
      exact (h3 z (List.mem_of_getElem? hz)).vld
  rw [if_neg (by rw [h4']; simp), if_neg (fun ⟨hc, x, hx, hr⟩ => by rw [h4 hc x hx] at hr; simp at hr), if_pos h5]
theorem ofL_mem {l : List Mem} (h : AscM l) {w : Wnt} : w ∈ ofL l ↔ ∃ x ∈ l, w = ⟨x.g, uniF (grp l x.g)⟩ := by
  simp only [ofL, List.mem_map, gs_mem h]
  constructor
  · rintro ⟨g, ⟨x, hx, rfl⟩, rfl⟩; exact ⟨x, hx, rfl⟩
  · rintro ⟨x, hx, rfl⟩; exact ⟨x.g, ⟨x, hx, rfl⟩, rfl⟩
theorem ofL_vld {m : Mbs} (hv : vldM m = 0) (hl : (gsM m.l).length ≤ 32) : vldW (ofL m.l) false = 0 := by
  obtain ⟨v1, v2, v3, v4, v5, v6⟩ := vldM_zero hv
  refine vldW_ok (by simpa [ofL] using hl) (fun w hw => ?_) (fun w hw => ?_) (fun _ w hw => ?_) ?_
  · obtain ⟨x, hx, rfl⟩ := (ofL_mem v6).1 hw
    have := v3 x hx
    simp only [rgM, decide_eq_true_eq] at this
    simp only; omega
  · obtain ⟨x, hx, rfl⟩ := (ofL_mem v6).1 hw
    exact uni_ok v4 x.g
  · obtain ⟨x, hx, rfl⟩ := (ofL_mem v6).1 hw
    cases hn : (uniF (grp m.l x.g)).non with
    | false => first | exact hn | rfl
    | true =>
      obtain ⟨s, s1, s2, s3⟩ := non_some (v4 x hx) (v5 x hx)
      have h1 := uni_wnt v4 x.g s
      rw [Flt.non_iff.1 hn, nF_wnt] at h1
      have h2 := List.any_eq_false.1 h1.symm x hx
      simp [s3] at h2
  · have := gs_asc v6
    unfold AscW ofL
    rw [List.pairwise_map]
    exact this
theorem ofL_wants {m : Mbs} (hv : vldM m = 0) (hl : (gsM m.l).length ≤ 32) (f : Flw) : wantsV (ofL m.l) f = m.l.any fun x => decide (x.g = f.g) && wntV x.f f.s := by
  obtain ⟨v1, v2, v3, v4, v5, v6⟩ := vldM_zero hv
  have e : wantsV (ofL m.l) f = (ofL m.l).any fun x => decide (x.g = f.g) && wntV x.f f.s := by simp [wantsV, ofL_vld hv hl]
  rw [e]
  by_cases hs : 0 < f.s
  · have key : ∀ x : Mem, x ∈ m.l → wntV x.f f.s = wnt x.f f.s := fun x hx => wntV_ok (v4 x hx) hs
    rw [Bool.eq_iff_iff, List.any_eq_true, List.any_eq_true]
    constructor
    · rintro ⟨w, hw, h⟩
      obtain ⟨x, hx, rfl⟩ := (ofL_mem v6).1 hw
      simp only [Bool.and_eq_true, decide_eq_true_eq] at h
      rw [wntV_ok (uni_ok v4 x.g) hs, uni_wnt v4, List.any_eq_true] at h
      obtain ⟨h1, y, hy, h2⟩ := h
      simp only [Bool.and_eq_true, decide_eq_true_eq] at h2
      exact ⟨y, hy, by simp only [Bool.and_eq_true, decide_eq_true_eq]; exact ⟨by omega, by rw [key y hy]; exact h2.2⟩⟩
    · rintro ⟨x, hx, h⟩
      simp only [Bool.and_eq_true, decide_eq_true_eq] at h
      refine ⟨_, (ofL_mem v6).2 ⟨x, hx, rfl⟩, ?_⟩
      simp only [Bool.and_eq_true, decide_eq_true_eq]
      refine ⟨h.1, ?_⟩
      rw [wntV_ok (uni_ok v4 x.g) hs, uni_wnt v4, List.any_eq_true]
      exact ⟨x, hx, by simp only [decide_true, Bool.true_and]; rw [← key x hx]; exact h.2⟩
  · have hz : ∀ f' : Flt, wntV f' f.s = false := fun f' => by simp [wntV, hs]
    simp only [hz, Bool.and_false]
    rw [List.any_eq_false.2 (by simp), List.any_eq_false.2 (by simp)]
/-- hosts, put one by one -/
def putH (f : Flw) (l : List Mem) : List Int := (hostL f l).foldl insI []
theorem hostL_asc {f : Flw} {l : List Mem} (h : AscM l) : (hostL f l).Pairwise (· < ·) := by
  unfold hostL
  rw [List.pairwise_map]
  have h1 : (l.filter (hostQ f)).Pairwise fun x y => befM x y = true := List.Pairwise.filter _ h
  refine List.Pairwise.imp_of_mem (fun {a b} ha hb hab => ?_) h1
  have e1 : a.g = f.g := by have := (List.mem_filter.1 ha).2; simp [hostQ] at this; exact this.1
  have e2 : b.g = f.g := by have := (List.mem_filter.1 hb).2; simp [hostQ] at this; exact this.1
  rw [befM_iff] at hab
  omega
theorem fold_asc : ∀ (l a : List Int), a.Pairwise (· < ·) → (l.foldl insI a).Pairwise (· < ·) ∧ ∀ x, x ∈ l.foldl insI a ↔ x ∈ a ∨ x ∈ l
  | [], a, h => ⟨h, by simp⟩
  | n :: r, a, h => by
    obtain ⟨h1, h2⟩ := insI_asc n h
    obtain ⟨h3, h4⟩ := fold_asc r (insI a n) h1
    refine ⟨h3, fun x => ?_⟩
    rw [List.foldl_cons, h4, h2, List.mem_cons]
    constructor
    · rintro ((h | h) | h)
      · exact .inl h
      · exact .inr (.inl h)
      · exact .inr (.inr h)
    · rintro (h | h | h)
      · exact .inl (.inl h)
      · exact .inl (.inr h)
      · exact .inr h
theorem putH_next {f : Flw} {l : List Mem} {i : Nat} {y : Mem} (h : l[i]? = some y) : putH f (l.take (i + 1)) = if hostQ f y = true then insI (putH f (l.take i)) y.h else putH f (l.take i) := by
  unfold putH
  rw [hostL_next h]
  cases hq : hostQ f y <;> simp [hq]
theorem insI_len' (l : List Int) (n : Int) : (insI l n).length ≤ l.length + 1 := by
  unfold insI
  split
  · omega
  · have := insPos_le n l
    simp
    omega
theorem fold_len : ∀ (l a : List Int), (l.foldl insI a).length ≤ a.length + l.length
  | [], a => by simp
  | n :: r, a => by
    have h1 := fold_len r (insI a n)
    have h2 := insI_len' a n
    simp only [List.foldl_cons, List.length_cons]
    omega
theorem putH_len (f : Flw) (l : List Mem) (i : Nat) : (putH f (l.take i)).length ≤ i := by
  have h1 := fold_len (hostL f (l.take i)) []
  have h2 := hostL_len f l i
  unfold putH
  simp only [List.length_nil] at h1
  omega
def smQ (f : Flw) (x : Mem) : Bool := decide (x.g = f.g) && wntV x.f f.s
theorem any_next {l : List Mem} {i : Nat} {y : Mem} (q : Mem → Bool) (h : l[i]? = some y) : (l.take (i + 1)).any q = ((l.take i).any q || q y) := by
  rw [List.take_add_one, h]; simp
theorem putH_eq {f : Flw} {l : List Mem} (h : AscM l) : putH f l = hostL f l := by
  obtain ⟨h1, h2⟩ := fold_asc (hostL f l) [] .nil
  exact asc_ext h1 (hostL_asc h) fun x => by rw [putH, h2]; simp
end Go.Proofs

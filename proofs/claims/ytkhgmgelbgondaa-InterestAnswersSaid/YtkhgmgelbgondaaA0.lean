/-
  What functions of the program compute, stated as contracts over plain data; the conditions of each stand in its own statement.
-/
import Derived.Test.YtkhgmgelbgondaaJ0
set_option linter.unusedSimpArgs false
namespace Go.Proofs
open Go Go.Lib

/-! ### filters, in plain words -/
structure Flt where
  m : Int
  s : List Int

def rngI : List Int := (List.range 99).map fun (i : Nat) => (i : Int) + 1
theorem mem_rng {x : Int} : x ∈ rngI ↔ 1 ≤ x ∧ x ≤ 99 := by
  simp only [rngI, List.mem_map, List.mem_range]
  constructor
  · rintro ⟨i, h, rfl⟩; omega
  · intro h; exact ⟨(x - 1).toNat, by omega, by omega⟩
theorem rng_asc : rngI.Pairwise (· < ·) := by
  unfold rngI
  rw [List.pairwise_map]
  exact List.pairwise_lt_range.imp fun h => by omega

def Flt.Ok (f : Flt) : Prop := (f.m = 1 ∨ f.m = 2) ∧ (∀ s ∈ f.s, 1 ≤ s ∧ s ≤ 99) ∧ f.s.Pairwise (· < ·)
def vld (f : Flt) : Int := if f.m ≠ 1 ∧ f.m ≠ 2 then 1 else if ∃ s ∈ f.s, s < 1 ∨ 99 < s then 2 else if f.s.Pairwise (· < ·) then 0 else 25
theorem vld_zero {f : Flt} : vld f = 0 ↔ f.Ok := by
  unfold vld Flt.Ok
  split
  · rename_i h; simp; omega
  · rename_i h
    split
    · rename_i g
      simp
      intro _ h2
      obtain ⟨s, hs, g⟩ := g
      have := h2 s hs
      omega
    · rename_i g
      have g' : ∀ s ∈ f.s, 1 ≤ s ∧ s ≤ 99 := fun s hs => by
        have : ¬ (s < 1 ∨ 99 < s) := fun h => g ⟨s, hs, h⟩
        omega
      have h' : f.m = 1 ∨ f.m = 2 := by omega
      split
      · rename_i p; exact ⟨fun _ => ⟨h', g', p⟩, fun _ => rfl⟩
      · rename_i p; simp; intro _ _ h3; exact absurd h3 p
theorem Flt.Ok.vld {f : Flt} (h : f.Ok) : vld f = 0 := vld_zero.2 h

def wnt (f : Flt) (s : Int) : Bool := decide (s ∈ f.s) == decide (f.m = 1)
def wntV (f : Flt) (s : Int) : Bool := decide (Go.Proofs.vld f = 0) && decide (0 < s) && wnt f s
theorem wntV_ok {f : Flt} (h : f.Ok) {s : Int} (hs : 0 < s) : wntV f s = wnt f s := by simp [wntV, h.vld, hs]
theorem wnt_off {f : Flt} (h : f.Ok) {s : Int} (hs : s ∉ f.s) : wnt f s = decide (f.m = 2) := by
  rcases h.1 with e | e <;> simp [wnt, hs, e]
theorem wnt_hi {f : Flt} (h : f.Ok) {s : Int} (hs : 99 < s) : wnt f s = decide (f.m = 2) := wnt_off h fun hm => by have := (h.2.1 s hm).2; omega

theorem Flt.ext_w {f g : Flt} (hf : f.Ok) (hg : g.Ok) (h : ∀ s, 1 ≤ s → s ≤ 100 → wnt f s = wnt g s) : f = g := by
  have hm : f.m = g.m := by
    have h0 := h 100 (by omega) (by omega)
    rw [wnt_hi hf (by omega), wnt_hi hg (by omega)] at h0
    rcases hf.1 with e | e <;> rcases hg.1 with e' | e' <;> simp [e, e'] at h0 ⊢
  obtain ⟨m, s⟩ := f
  obtain ⟨m', s'⟩ := g
  simp only at hm
  subst hm
  congr 1
  refine asc_ext hf.2.2 hg.2.2 fun x => ?_
  by_cases hx : 1 ≤ x ∧ x ≤ 99
  · have h0 := h x hx.1 (by omega)
    simp only [wnt] at h0
    have : decide (x ∈ s) = decide (x ∈ s') := by
      revert h0
      cases decide (x ∈ s) <;> cases decide (x ∈ s') <;> cases decide (m = 1) <;> simp
    simpa using this
  · constructor
    · intro hm; exact absurd (hf.2.1 x hm) hx
    · intro hm; exact absurd (hg.2.1 x hm) hx

/-- the filter of what is wanted -/
def mkF (p : Int → Bool) (r : Bool) : Flt := ⟨if r then 2 else 1, rngI.filter fun s => p s != r⟩
theorem mkF_ok (p : Int → Bool) (r : Bool) : (mkF p r).Ok := by
  refine ⟨by unfold mkF; cases r <;> simp, fun s hs => ?_, ?_⟩
  · simp only [mkF, List.mem_filter] at hs
    exact mem_rng.1 hs.1
  · show ((rngI.filter fun s => p s != r)).Pairwise (· < ·)
    exact List.Pairwise.filter _ rng_asc
theorem mkF_wnt (p : Int → Bool) (r : Bool) {s : Int} (h1 : 1 ≤ s) (h2 : s ≤ 99) : wnt (mkF p r) s = p s := by
  have : s ∈ (mkF p r).s ↔ p s ≠ r := by simp [mkF, mem_rng, h1, h2]
  simp only [wnt, this]
  cases hp : p s <;> cases r <;> simp [mkF]
theorem mkF_rest (p : Int → Bool) (r : Bool) {s : Int} (h : 99 < s) : wnt (mkF p r) s = r := by
  rw [wnt_hi (mkF_ok p r) h]
  cases r <;> simp [mkF]

def srt (l : List Int) : List Int := l.mergeSort fun x y => decide (x ≤ y)
def combR (K : Bool → Bool → Bool) (a b : Flt) : Flt :=
  ⟨if K (decide (a.m = 2)) (decide (b.m = 2)) then 2 else 1, (compact (srt (a.s ++ b.s))).filter fun s => K (wnt a s) (wnt b s) != K (decide (a.m = 2)) (decide (b.m = 2))⟩
theorem combR_mem (K : Bool → Bool → Bool) (a b : Flt) (s : Int) : s ∈ (combR K a b).s ↔ (s ∈ a.s ∨ s ∈ b.s) ∧ K (wnt a s) (wnt b s) ≠ K (decide (a.m = 2)) (decide (b.m = 2)) := by
  simp only [combR, List.mem_filter, (compact_sorted (sort_sorted _)).2, srt, List.mem_mergeSort, List.mem_append, bne_iff_ne]
theorem combR_ok {K : Bool → Bool → Bool} {a b : Flt} (ha : a.Ok) (hb : b.Ok) : (combR K a b).Ok := by
  refine ⟨by simp only [combR]; split <;> simp, fun s hs => ?_, ?_⟩
  · rcases ((combR_mem K a b s).1 hs).1 with h | h
    · exact ha.2.1 s h
    · exact hb.2.1 s h
  · exact List.Pairwise.filter _ (compact_sorted (sort_sorted _)).1
theorem combR_wnt {K : Bool → Bool → Bool} {a b : Flt} (ha : a.Ok) (hb : b.Ok) (s : Int) : wnt (combR K a b) s = K (wnt a s) (wnt b s) := by
  have hm : decide ((combR K a b).m = 1) = !K (decide (a.m = 2)) (decide (b.m = 2)) := by
    rcases (Bool.eq_false_or_eq_true (K (decide (a.m = 2)) (decide (b.m = 2)))) with h | h <;> simp [combR, h]
  by_cases h : s ∈ a.s ∨ s ∈ b.s
  · have h1 : s ∈ (combR K a b).s ↔ K (wnt a s) (wnt b s) ≠ K (decide (a.m = 2)) (decide (b.m = 2)) := by rw [combR_mem]; exact ⟨fun x => x.2, fun x => ⟨h, x⟩⟩
    unfold wnt at hm ⊢
    rw [hm]
    simp only [h1]
    unfold wnt
    cases K (decide (s ∈ a.s) == decide (a.m = 1)) (decide (s ∈ b.s) == decide (b.m = 1)) <;> cases K (decide (a.m = 2)) (decide (b.m = 2)) <;> simp
  · have h1 : s ∉ (combR K a b).s := fun hs => h ((combR_mem K a b s).1 hs).1
    rw [wnt_off ha fun x => h (.inl x), wnt_off hb fun x => h (.inr x)]
    unfold wnt
    rw [hm]
    simp [h1]

def noF : Flt := ⟨0, []⟩
/-- what the program's functions answer -/
def comb (K : Bool → Bool → Bool) (a b : Flt) : Flt × Int := if vld a ≠ 0 then (noF, vld a) else if vld b ≠ 0 then (noF, vld b) else (combR K a b, 0)
/-- what the reference's functions answer -/
def refC (K : Bool → Bool → Bool) (a b : Flt) : Flt × Int := if vld a ≠ 0 then (noF, vld a) else if vld b ≠ 0 then (noF, vld b) else (mkF (fun s => K (wntV a s) (wntV b s)) (K (wntV a 100) (wntV b 100)), 0)
theorem comb_ref (K : Bool → Bool → Bool) (a b : Flt) : comb K a b = refC K a b := by
  unfold comb refC
  split
  · rfl
  · rename_i h1
    split
    · rfl
    · rename_i h2
      have ha := vld_zero.1 (Classical.not_not.1 h1)
      have hb := vld_zero.1 (Classical.not_not.1 h2)
      congr 1
      refine Flt.ext_w (combR_ok ha hb) (mkF_ok _ _) fun s l1 l2 => ?_
      rw [combR_wnt ha hb]
      by_cases hs : s ≤ 99
      · rw [mkF_wnt _ _ l1 hs, wntV_ok ha (by omega), wntV_ok hb (by omega)]
      · obtain rfl : s = 100 := by omega
        rw [mkF_rest _ _ (by omega), wntV_ok ha (by omega), wntV_ok hb (by omega)]
theorem comb_ok {K : Bool → Bool → Bool} {a b : Flt} (ha : a.Ok) (hb : b.Ok) : comb K a b = (combR K a b, 0) := by
  simp [comb, ha.vld, hb.vld]

def kOr (x y : Bool) : Bool := x || y
def kAnd (x y : Bool) : Bool := x && y
def kNot (x _y : Bool) : Bool := !x
def kLeft (x y : Bool) : Bool := x && !y
def kB (both x y : Bool) : Bool := (x && y) || (!both && (x || y))
theorem kB_true : kB true = kAnd := by funext x y; simp [kB, kAnd]
theorem kB_false : kB false = kOr := by funext x y; cases x <;> cases y <;> rfl

def refN (f : Flt) : Flt × Int := if vld f ≠ 0 then (noF, vld f) else (⟨3 - f.m, f.s⟩, 0)
theorem not_ok {f : Flt} (h : f.Ok) : Flt.Ok ⟨3 - f.m, f.s⟩ := ⟨by rcases h.1 with e | e <;> simp [e], h.2⟩
theorem not_wnt {f : Flt} (h : f.Ok) (s : Int) : wnt ⟨3 - f.m, f.s⟩ s = !wnt f s := by
  rcases h.1 with e | e <;> simp [wnt, e]
theorem comb_not (f : Flt) : comb kNot f f = refN f := by
  unfold comb refN
  split
  · rfl
  · rename_i h1
    have ha := vld_zero.1 (Classical.not_not.1 h1)
    congr 1
    exact Flt.ext_w (combR_ok ha ha) (not_ok ha) fun s l1 l2 => by rw [combR_wnt ha ha, not_wnt ha]; rfl

/-- the reference's test -/
def wth (a b : Flt) : Bool := ((rngI ++ [100]).all fun s => !(wntV a s && !wntV b s)) && decide (vld a = 0) && decide (vld b = 0)
theorem mem_rng1 {x : Int} : x ∈ rngI ++ [100] ↔ 1 ≤ x ∧ x ≤ 100 := by
  rw [List.mem_append, mem_rng, List.mem_singleton]; omega
theorem wth_ok {a b : Flt} (ha : a.Ok) (hb : b.Ok) : wth a b = true ↔ ∀ s, 1 ≤ s → s ≤ 100 → wnt a s = true → wnt b s = true := by
  simp only [wth, ha.vld, hb.vld, decide_true, Bool.and_true, List.all_eq_true]
  constructor
  · intro h s l1 l2 hw
    have := h s (mem_rng1.2 ⟨l1, l2⟩)
    rw [wntV_ok ha (by omega), wntV_ok hb (by omega), hw] at this
    simpa using this
  · intro h s hs
    obtain ⟨l1, l2⟩ := mem_rng1.1 hs
    rw [wntV_ok ha (by omega), wntV_ok hb (by omega)]
    have := h s l1 l2
    cases ha' : wnt a s
    · simp
    · simp [this ha']
/-- the program's test -/
def wthP (a b : Flt) : Bool := decide ((comb kLeft a b).2 = 0) && (decide ((comb kLeft a b).1.m = 1) && decide ((comb kLeft a b).1.s.length = 0))
theorem wth_no {a b : Flt} (h : ¬ (a.Ok ∧ b.Ok)) : wth a b = false := by
  unfold wth
  by_cases ha : vld a = 0
  · have hb : ¬ vld b = 0 := fun hb => h ⟨vld_zero.1 ha, vld_zero.1 hb⟩
    simp [hb]
  · simp [ha]
theorem wth_eq (a b : Flt) : wthP a b = wth a b := by
  by_cases h : a.Ok ∧ b.Ok
  · obtain ⟨ha, hb⟩ := h
    have hiff : wthP a b = true ↔ wth a b = true := by
      rw [wth_ok ha hb, wthP, comb_ok ha hb]
      simp only [decide_true, Bool.true_and, Bool.and_eq_true, decide_eq_true_eq]
      constructor
      · rintro ⟨h1, h2⟩ s l1 l2 hw
        have hk := combR_wnt (K := kLeft) ha hb s
        have h3 : s ∉ (combR kLeft a b).s := by rw [List.length_eq_zero_iff.1 h2]; simp
        rw [wnt_off (combR_ok ha hb) h3, h1, hw] at hk
        simpa [kLeft] using hk.symm
      · intro h0
        have : combR kLeft a b = ⟨1, []⟩ := by
          refine Flt.ext_w (combR_ok ha hb) ⟨.inl rfl, by simp, by simp⟩ fun s l1 l2 => ?_
          rw [combR_wnt ha hb]
          have h3 := h0 s l1 l2
          have h4 : wnt ⟨1, []⟩ s = false := by simp [wnt]
          rw [h4]
          cases ha' : wnt a s
          · simp [kLeft]
          · simp [kLeft, h3 ha']
        rw [this]; simp
    cases h1 : wthP a b <;> cases h2 : wth a b <;> simp [h1, h2] at hiff ⊢
  · rw [wth_no h]
    unfold wthP comb
    by_cases ha : vld a = 0
    · have hb : ¬ vld b = 0 := fun hb => h ⟨vld_zero.1 ha, vld_zero.1 hb⟩
      simp [ha, hb]
    · simp [ha]
end Go.Proofs

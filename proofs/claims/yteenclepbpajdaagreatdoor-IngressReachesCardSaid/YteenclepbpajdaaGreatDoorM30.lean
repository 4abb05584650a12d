/-
  What functions of the program compute, stated as contracts over plain data; the conditions of each stand in its own statement.
-/
import Derived.Test.YteenclepbpajdaaGreatDoorM29
set_option linter.unusedSimpArgs false
set_option linter.unusedVariables false
namespace Go.Proofs
theorem lkPos_take (x : Lk) : ∀ (l : List Lk), ∀ y ∈ l.take (lkPos x l), y.before x = true
 | [] => by simp
 | z :: r => by
   intro y hy
   rw [lkPos] at hy
   split at hy
   ·rename_i hz
    rw [List.take_succ_cons] at hy
    rcases List.mem_cons.1 hy with rfl | hy
    ·exact hz
    ·exact lkPos_take x r y hy
   ·simp at hy
theorem lkPos_at (x : Lk) : ∀ (l : List Lk) (y : Lk), l[lkPos x l]? = some y → y.before x = false
 | [], y, h => by simp at h
 | z :: r, y, h => by
   rw [lkPos] at h
   split at h
   ·exact lkPos_at x r y (by simpa using h)
   ·rename_i hz
    simp at h; subst h; simpa using hz
theorem before_lt {x y : Lk} : y.before x = true ↔ lkLt y x := by simp [Lk.before, lkLt]
theorem lkIns {l : List Lk} (x : Lk) (h : l.Pairwise lkLt) (hd : ∀ y ∈ l, ¬ (y.a = x.a ∧ y.b = x.b)) : (l.take (lkPos x l) ++ [x] ++ l.drop (lkPos x l)).Pairwise lkLt ∧ ∀ y, y ∈ l.take (lkPos x l) ++ [x] ++ l.drop (lkPos x l) ↔ y ∈ l ∨ y = x := by
 have hl : l.take (lkPos x l) ++ l.drop (lkPos x l) = l := List.take_append_drop _ _
 have hp : (l.take (lkPos x l) ++ l.drop (lkPos x l)).Pairwise lkLt := by rw [hl]; exact h
 rw [List.pairwise_append] at hp
 have hdr : ∀ y ∈ l.drop (lkPos x l), lkLt x y := fun y hy => by
  cases hc : l.drop (lkPos x l) with
  | nil => rw [hc] at hy; simp at hy
  | cons z r =>
    have hz : l[lkPos x l]? = some z := by
     have : (l.drop (lkPos x l))[0]? = some z := by rw [hc]; rfl
     simpa using this
    have h1 := lkPos_at x l z hz
    have h2 := hd z (List.mem_of_getElem? hz)
    have h3 : lkLt x z := by
     have : ¬ lkLt z x := fun a => by rw [before_lt.2 a] at h1; simp at h1
     unfold lkLt at *; omega
    rw [hc] at hy
    rcases List.mem_cons.1 hy with rfl | hy
    ·exact h3
    ·have := hp.2.1
     rw [hc, List.pairwise_cons] at this
     exact lkLt_trans h3 (this.1 y hy)
 refine ⟨?_, fun y => ?_⟩
 ·rw [List.append_assoc, List.pairwise_append]
  refine ⟨hp.1, ?_, fun a ha b hb => ?_⟩
  ·rw [List.singleton_append, List.pairwise_cons]
   exact ⟨hdr, hp.2.1⟩
  ·have h1 := before_lt.1 (lkPos_take x l a ha)
   rcases List.mem_append.1 hb with hb | hb
   ·simp at hb; subst hb; exact h1
   ·exact lkLt_trans h1 (hdr b hb)
 ·conv => rhs; rw [← hl]
  simp only [List.mem_append, List.mem_singleton]
  constructor
  ·rintro ((a | a) | a)
   ·exact .inl (.inl a)
   ·exact .inr a
   ·exact .inl (.inr a)
  ·rintro ((a | a) | a)
   ·exact .inl (.inl a)
   ·exact .inr a
   ·exact .inl (.inr a)
def lkNe (x y : Lk) : Prop := ¬ (x.a = y.a ∧ x.b = y.b)
theorem ordL_ok : ∀ (l out : List Lk), l.Pairwise lkNe → out.Pairwise lkLt → (∀ x ∈ l, ∀ y ∈ out, lkNe x y) → (ordL l out).Pairwise lkLt ∧ ∀ y, y ∈ ordL l out ↔ y ∈ l ∨ y ∈ out
 | [], out, _, h, _ => ⟨h, by simp [ordL]⟩
 | x :: l, out, hl, h, hd => by
   rw [List.pairwise_cons] at hl
   obtain ⟨h1, h2⟩ := lkIns x h (fun y hy e => hd x (by simp) y hy ⟨e.1.symm, e.2.symm⟩)
   obtain ⟨h3, h4⟩ := ordL_ok l _ hl.2 h1 (fun z hz y hy => by
    rcases (h2 y).1 hy with hy | rfl
    ·exact hd z (by simp [hz]) y hy
    ·exact fun e => hl.1 z hz ⟨e.1.symm, e.2.symm⟩)
   refine ⟨h3, fun y => ?_⟩
   rw [ordL, h4, h2]
   simp only [List.mem_cons]
   constructor
   ·rintro (a | a | a)
    ·exact .inl (.inr a)
    ·exact .inr a
    ·exact .inl (.inl a)
   ·rintro ((a | a) | a)
    ·exact .inr (.inr a)
    ·exact .inl a
    ·exact .inr (.inl a)
structure LkI (b a : Int) (l : List Lk) : Prop where
 all : ∀ x ∈ l, (1 ≤ x.a ∧ x.a < x.b ∧ (x.b < b ∨ (x.b = b ∧ x.a < a))) ∧ (1 ≤ x.ca ∧ x.ca ≤ 1000) ∧ (1 ≤ x.cb ∧ x.cb ≤ 1000) ∧ 0 ≤ x.cap ∧ x.cap ≤ 1000
 ne : l.Pairwise lkNe
theorem LkI.step {b a cost tree : Int} {skip : Bool} {T : Tp} {l : List Lk} (h : LkI b a l) (ha : 1 ≤ a) (hab : a < b) (hc : 1 ≤ cost ∧ cost ≤ 1000) : LkI b (a + 1) (gTopS cost tree skip b a T l).1 := by
 have hw : LkI b (a + 1) l := ⟨fun x hx => by have := h.all x hx; omega, h.ne⟩
 unfold gTopS
 simp only
 generalize (if (decide (a = tree) && !skip) = true then (true, T) else gOne T 3) = c
 cases c.1 with
 | false => simpa using hw
 | true =>
   simp only [if_true]
   have r1 := gRange_lo c.2 1 cost
   have r2 := gRange_hi c.2 (a := 1) (b := cost) hc.1
   generalize gRange c.2 1 cost = X at r1 r2
   have r3 := gRange_lo X.2 1 cost
   have r4 := gRange_hi X.2 (a := 1) (b := cost) hc.1
   generalize gRange X.2 1 cost = Y at r3 r4
   have r5 := gNext_nonneg Y.2 4
   have r6 := gNext_lt Y.2 (n := 4) (by omega)
   generalize gNext Y.2 4 = Z at r5 r6
   refine ⟨fun x hx => ?_, ?_⟩
   ·rcases List.mem_append.1 hx with hx | hx
    ·exact hw.all x hx
    ·simp at hx; subst hx
     exact ⟨⟨ha, hab, .inr ⟨rfl, by show a < a + 1; omega⟩⟩, ⟨r1, Int.le_trans r2 hc.2⟩, ⟨r3, Int.le_trans r4 hc.2⟩, r5, by show Z.1 ≤ 1000; omega⟩
   ·rw [List.pairwise_append]
    refine ⟨h.ne, by simp, fun x hx y hy => ?_⟩
    simp at hy; subst hy
    have := h.all x hx
    unfold lkNe; simp only; omega
theorem LkI.row {b cost tree : Int} {skip : Bool} (hc : 1 ≤ cost ∧ cost ≤ 1000) : ∀ (n : Nat) (a : Int) (T : Tp) (l : List Lk), LkI b a l → 1 ≤ a → a + n ≤ b → LkI b (a + n) (gTopA cost tree skip b n a T l).1
 | 0, a, T, l, h, _, _ => by simpa [gTopA] using h
 | n + 1, a, T, l, h, h1, h2 => by
   rw [gTopA]
   have := LkI.row (tree := tree) (skip := skip) hc n (a + 1) (gTopS cost tree skip b a T l).2 _ (h.step (tree := tree) (skip := skip) (T := T) h1 (by omega) hc) (by omega) (by omega)
   rw [show a + ((n + 1 : Nat) : Int) = a + 1 + n by omega]
   exact this
theorem LkI.all_rows {cost : Int} (hc : 1 ≤ cost ∧ cost ≤ 1000) : ∀ (n : Nat) (b : Int) (T : Tp) (l : List Lk), LkI b 1 l → 2 ≤ b → LkI (b + n) 1 (gTopB cost n b T l).1
 | 0, b, T, l, h, _ => by simpa [gTopB] using h
 | n + 1, b, T, l, h, hb => by
   rw [gTopB]
   have h1 : LkI b b (gTopR cost b T l).1 := by
    unfold gTopR
    simp only
    have := LkI.row (b := b) (tree := (gRange T 1 (b - 1)).1) (skip := (gOne (gRange T 1 (b - 1)).2 9).1) hc (b - 1).toNat 1 (gOne (gRange T 1 (b - 1)).2 9).2 l h (by omega) (by omega)
    rw [show 1 + (((b - 1).toNat : Nat) : Int) = b by omega] at this
    exact this
   have h2 : LkI (b + 1) 1 (gTopR cost b T l).1 := ⟨fun x hx => by have := h1.all x hx; omega, h1.ne⟩
   have := LkI.all_rows hc n (b + 1) (gTopR cost b T l).2 _ h2 (by omega)
   rw [show b + ((n + 1 : Nat) : Int) = b + 1 + n by omega]
   exact this
theorem gTopA_len2 (cost tree : Int) (skip : Bool) (b : Int) : ∀ (n : Nat) (a : Int) (T : Tp) (l : List Lk), (gTopA cost tree skip b n a T l).1.length ≤ l.length + n
 | 0, _, _, _ => Nat.le_refl _
 | n + 1, a, T, l => by
   have h1 := gTopA_len2 cost tree skip b n (a + 1) (gTopS cost tree skip b a T l).2 (gTopS cost tree skip b a T l).1
   have h2 := gTopS_len cost tree skip b a T l
   rw [gTopA]
   omega
theorem gTopB_len2 (cost : Int) (m : Nat) : ∀ (n : Nat) (b : Int) (T : Tp) (l : List Lk), 1 ≤ b → b + n ≤ m + 2 → (gTopB cost n b T l).1.length ≤ l.length + n * m
 | 0, _, _, _, _, _ => by simp [gTopB]
 | n + 1, b, T, l, hb, hm => by
   have h1 := gTopB_len2 cost m n (b + 1) (gTopR cost b T l).2 (gTopR cost b T l).1 (by omega) (by omega)
   have h2 : (gTopR cost b T l).1.length ≤ l.length + (b - 1).toNat := gTopA_len2 _ _ _ _ _ _ _ _
   rw [gTopB]
   have h3 : (n + 1) * m = n * m + m := Nat.succ_mul _ _
   omega
theorem pw_adj {α : Type} {q : α → α → Bool} {r : α → α → Prop} (hr : ∀ x y, r x y → q x y = false) : ∀ {l : List α}, l.Pairwise r → adjB q l = false
 | [], _ => rfl
 | [x], _ => rfl
 | x :: y :: l, h => by
   rw [List.pairwise_cons] at h
   rw [adjB, hr x y (h.1 y (by simp)), pw_adj hr h.2]; rfl
theorem chkT_of {g : Topo} (h1 : g.rs.length ≤ 24) (h2 : g.ls.length ≤ 60) (h3 : ∀ x ∈ g.rs, 1 ≤ x.id ∧ x.id ≤ 99) (h4 : g.rs.Pairwise fun x y => x.id < y.id)
  (h5 : ∀ x ∈ g.ls, (1 ≤ x.ca ∧ x.ca ≤ 1000) ∧ (1 ≤ x.cb ∧ x.cb ≤ 1000) ∧ 0 ≤ x.cap ∧ x.cap ≤ 1000) (h6 : ∀ x ∈ g.ls, hasR g.rs x.a = true ∧ hasR g.rs x.b = true) (h7 : ∀ x ∈ g.ls, x.a < x.b) (h8 : g.ls.Pairwise lkLt) : chkT g = 0 := by
 have a1 : decide (24 < g.rs.length) = false := by simp; omega
 have a2 : decide (60 < g.ls.length) = false := by simp; omega
 have a3 : (g.rs.any fun x => !inB x.id 1 99) = false := by
  rw [List.any_eq_false]; intro x hx; have := h3 x hx; simp [inB]; omega
 have a4 : adjB (fun x y => decide (y.id ≤ x.id)) g.rs = false := pw_adj (r := fun x y => x.id < y.id) (fun x y h => by simpa using h) h4
 have a5 : g.ls.any Lk.bad = false := by
  rw [List.any_eq_false]; intro x hx; have := h5 x hx; simp [Lk.bad, inB]; omega
 have a6 : (g.ls.any fun x => !hasR g.rs x.a || !hasR g.rs x.b) = false := by
  rw [List.any_eq_false]; intro x hx; have := h6 x hx; simp [this.1, this.2]
 have a7 : (g.ls.any fun x => decide (x.b ≤ x.a)) = false := by
  rw [List.any_eq_false]; intro x hx; have := h7 x hx; simp; omega
 have a8 : adjB (fun x y => decide (y.a < x.a) || decide (x.a = y.a) && decide (y.b ≤ x.b)) g.ls = false := pw_adj (r := lkLt) (fun x y h => by
  unfold lkLt at h
  simp only [Bool.or_eq_false_iff, Bool.and_eq_false_iff, decide_eq_false_iff_not]; omega) h8
 simp only [chkT, firstE, a1, a2, a3, a4, a5, a6, a7, a8, cond_false]
theorem gRts_mem {k : Nat} {x : Rt} : x ∈ gRts k ↔ x.cap = true ∧ 1 ≤ x.id ∧ x.id ≤ k := by
 simp only [gRts, List.mem_map, List.mem_range]
 constructor
 ·rintro ⟨i, hi, rfl⟩; simp only; exact ⟨trivial, by omega, by omega⟩
 ·rintro ⟨h1, h2, h3⟩
  refine ⟨(x.id - 1).toNat, by omega, ?_⟩
  cases x; simp only at *; subst h1; congr 1; omega
theorem gRts_pw (k : Nat) : (gRts k).Pairwise fun x y => x.id < y.id := by
 unfold gRts
 rw [List.pairwise_map]
 exact List.pairwise_lt_range.imp fun h => by simp only; omega
structure TopV (most : Int) (g : Topo) : Prop where
 n : 1 ≤ g.rs.length ∧ (g.rs.length : Int) ≤ most
 ids : g.rs.map (·.id) = (gRts g.rs.length).map (·.id)
 ok : chkT g = 0
theorem hasR_ids {l m : List Rt} (h : l.map (·.id) = m.map (·.id)) (r : Int) : hasR l r = hasR m r := by
 rw [Bool.eq_iff_iff, hasR_mem, hasR_mem, h]
theorem chkT_ids {rs rs' : List Rt} {ls : List Lk} (h : rs.map (·.id) = rs'.map (·.id)) (hc : chkT ⟨rs', ls⟩ = 0) : chkT ⟨rs, ls⟩ = 0 := by
 have hO := chkT_zero hc
 have hl : rs.length = rs'.length := by have := congrArg List.length h; simpa using this
 refine chkT_of (by have := hO.nr; simp only at this ⊢; omega) hO.nl (fun x hx => ?_) ?_ (fun x hx => ?_) (fun x hx => ?_) (fun x hx => hO.lab hx) hO.lpw
 ·have : x.id ∈ rs'.map (·.id) := by rw [← h]; exact List.mem_map_of_mem hx
  obtain ⟨y, hy, e⟩ := List.mem_map.1 this
  have := List.any_eq_false.1 hO.ids y hy
  simp [inB] at this
  omega
 ·have h1 := hO.rpw
  have h2 : (rs'.map (·.id)).Pairwise (· < ·) := by rw [List.pairwise_map]; exact h1
  rw [← h, List.pairwise_map] at h2
  exact h2
 ·have := List.any_eq_false.1 hO.cost x hx
  simp [Lk.bad, inB] at this
  omega
 ·have := hO.ends' hx
  simp only at this ⊢
  rw [hasR_ids h, hasR_ids h]; exact this
theorem gTop_rs' (T : Tp) (most : Int) : (gTop T most).1.rs = gRts (gRange T 1 most).1.toNat := rfl
theorem gTop_valid (T : Tp) {most : Int} (hm : 1 ≤ most ∧ most ≤ 8) : TopV most (gTop T most).1 := by
 have r1 := gRange_lo T 1 most
 have r2 := gRange_hi T (a := 1) (b := most) hm.1
 have e := gTop_rs' T most
 have hlen : (gTop T most).1.rs.length = (gRange T 1 most).1.toNat := by rw [e]; simp [gRts]
 refine ⟨by omega, by rw [hlen, e], ?_⟩
 unfold gTop
 simp only
 generalize gRange T 1 most = R at r1 r2
 have hc := gPick_all (T := R.2) (l := [1, 2, 2, 5]) (p := fun x => 1 ≤ x ∧ x ≤ 1000) (by simp) (by simp)
 generalize gPick R.2 [1, 2, 2, 5] = C at hc
 have hI := LkI.all_rows hc (R.1 + 1 - 2).toNat 2 C.2 [] ⟨by simp, List.Pairwise.nil⟩ (by omega)
 have hl := gTopB_len2 C.1 7 (R.1 + 1 - 2).toNat 2 C.2 [] (by omega) (by omega)
 generalize (gTopB C.1 (R.1 + 1 - 2).toNat 2 C.2 []).1 = L at hI hl
 obtain ⟨h1, h2⟩ := ordL_ok L [] hI.ne List.Pairwise.nil (by simp)
 have hall : ∀ x ∈ ordL L [], (1 ≤ x.a ∧ x.a < x.b ∧ x.b ≤ R.1) ∧ (1 ≤ x.ca ∧ x.ca ≤ 1000) ∧ (1 ≤ x.cb ∧ x.cb ≤ 1000) ∧ 0 ≤ x.cap ∧ x.cap ≤ 1000 := fun x hx => by
  have := hI.all x (by simpa using (h2 x).1 hx)
  omega
 have hol : ∀ (l out : List Lk), (ordL l out).length = l.length + out.length := fun l => by
  induction l with
  | nil => intro out; simp [ordL]
  | cons x l ih =>
    intro out
    have := lkPos_le x out
    rw [ordL, ih]; simp; omega
 refine chkT_of (by simp [gRts]; omega) ?_ (fun x hx => ?_) (gRts_pw _) (fun x hx => (hall x hx).2) (fun x hx => ?_) (fun x hx => (hall x hx).1.2.1) h1
 ·simp only [hol, List.length_nil] at hl ⊢
  have : (R.1 + 1 - 2).toNat ≤ 7 := by omega
  have := Nat.mul_le_mul_right 7 this
  omega
 ·have := gRts_mem.1 hx; omega
 ·have := (hall x hx).1
  constructor
  ·exact hasR_mem.2 (List.mem_map.2 ⟨⟨x.a, true⟩, gRts_mem.2 ⟨rfl, by simp only; omega⟩, rfl⟩)
  ·exact hasR_mem.2 (List.mem_map.2 ⟨⟨x.b, true⟩, gRts_mem.2 ⟨rfl, by simp only; omega⟩, rfl⟩)
theorem gMixL_ids : ∀ (l : List Rt) (T : Tp), (gMixL l T).1.map (·.id) = l.map (·.id)
 | [], _ => rfl
 | x :: l, T => by
   simp only [gMixL, List.map_cons, gMixL_ids l]
theorem gMix_valid (T : Tp) {most : Int} (hm : 1 ≤ most ∧ most ≤ 8) : TopV most (gMix T most).1 := by
 have h := gTop_valid T hm
 have e : (gMix T most).1.rs.map (·.id) = (gTop T most).1.rs.map (·.id) := gMixL_ids _ _
 have hl : (gMix T most).1.rs.length = (gTop T most).1.rs.length := by have := congrArg List.length e; simpa using this
 refine ⟨by rw [hl]; exact h.n, by rw [e, hl]; exact h.ids, ?_⟩
 have := chkT_ids (rs := (gMix T most).1.rs) (rs' := (gTop T most).1.rs) (ls := (gTop T most).1.ls) e h.ok
 exact this
end Go.Proofs

set_option linter.unusedSimpArgs false
set_option linter.unusedVariables false
namespace Go.Proofs
theorem runG_ind {l : List Tb} {I : List (Int × Pk) → Trc → Prop} (hs : ∀ q Q t, I (q :: Q) t → I (Q ++ nextQ l q) (stepT l q t)) : ∀ (n : Nat) (Q : List (Int × Pk)) (t : Trc), wsum Q ≤ n → I Q t → I [] (runG l n Q t)
 | 0, Q, t, h, hI => by
   have := len_wsum Q
   obtain rfl : Q = [] := List.length_eq_zero_iff.1 (by omega)
   rw [runG_nil]; exact hI
 | n + 1, [], t, _, hI => by rw [runG_nil]; exact hI
 | n + 1, q :: Q, t, h, hI => by
   have hq := nextQ_wt l q
   rw [wsum_cons] at h
   rw [runG]
   exact runG_ind hs n _ _ (by rw [wsum_app]; omega) (hs q Q t hI)
structure RunI (l : List Tb) (Q : List (Int × Pk)) (t : Trc) : Prop where
 fit : ∀ q ∈ Q, FitL l q.2 ∧ (findT l q.1 = none → q.2.bits ≠ 0#64)
 dl : ∀ d ∈ t.dl, ∃ k < 64, d.2.bits = 1#64 <<< k
 ls : ∀ x ∈ t.ls, x.2 ≠ 0#64
 cr : ∀ c ∈ t.cr, c.2.2 ≠ 0#64
theorem RunI.step {l : List Tb} {q : Int × Pk} {Q : List (Int × Pk)} {t : Trc} (h : RunI l (q :: Q) t) : RunI l (Q ++ nextQ l q) (stepT l q t) := by
 have hq := h.fit q (by simp)
 have hQ : ∀ c ∈ Q, FitL l c.2 ∧ (findT l c.1 = none → c.2.bits ≠ 0#64) := fun c hc => h.fit c (by simp [hc])
 cases hf : findT l q.1 with
 | none =>
   have hn : nextQ l q = [] := by simp [nextQ, hf]
   rw [hn, List.append_nil]
   refine ⟨hQ, ?_, ?_, ?_⟩ <;> simp only [stepT, hf]
   ·exact h.dl
   ·intro x hx
    rcases List.mem_append.1 hx with hx | hx
    ·exact h.ls x hx
    ·simp at hx; subst hx; exact hq.2 hf
   ·exact h.cr
 | some b =>
   have hb := hq.1.all b (findT_mem hf).1
   obtain ⟨h1, h2⟩ := fwd_spec hb
   have hn : nextQ l q = (fwdV b q.2).cps := by simp [nextQ, hf, h1]
   obtain ⟨H, h3, h4, h5⟩ := h2.cps
   have hc : ∀ c ∈ (fwdV b q.2).cps, c.2.bits ≠ 0#64 := fun c hc => by
    rw [h3] at hc
    simp only [out0, List.nil_append, List.mem_map] at hc
    obtain ⟨x, hx, rfl⟩ := hc
    obtain ⟨_, a1, a2, k, hk, a3, a4⟩ := (h5 x).1 hx
    have hr := (hopAt_at hb.ck (k := k) (p := q.2) (by rw [a4]; exact a1)).2
    rw [a4] at hr
    have := (cpk_bit hb hk hr).2 ⟨a3, a4⟩
    intro e
    simp only at e
    rw [e] at this; simp at this
   refine ⟨fun c hm => ?_, ?_, ?_, ?_⟩
   ·rcases List.mem_append.1 hm with hm | hm
    ·exact hQ c hm
    ·exact ⟨next_fit hq.1 c hm, fun _ => hc c (by rw [← hn]; exact hm)⟩
   ·simp only [stepT, hf, h1]
    intro d hd
    rcases List.mem_append.1 hd with hd | hd
    ·exact h.dl d hd
    ·simp only [locV, bitsI, List.map_map, List.mem_map] at hd
     obtain ⟨k, hk, rfl⟩ := hd
     obtain ⟨k1, k2⟩ := mem_bitsL.1 hk
     have hpb : q.2.bits.getLsbD k = true := by
      rcases (h2.loc k k1).1 k2 with a | a
      ·simp [out0] at a
      ·exact a.1
     refine ⟨k, k1, ?_⟩
     show (onlyR q.2 (Int.ofNat k)).bits = _
     have := onlyR_eq hq.1.ok k1 hpb
     rw [Int.ofNat_eq_natCast, this]
   ·simp only [stepT, hf, h1]
    intro x hx
    split at hx
    ·exact h.ls x hx
    ·rename_i hne
     rcases List.mem_append.1 hx with hx | hx
     ·exact h.ls x hx
     ·simp at hx; subst hx; exact hne
   ·simp only [stepT, hf, h1]
    intro c hm
    rcases List.mem_append.1 hm with hm | hm
    ·exact h.cr c hm
    ·obtain ⟨x, hx, rfl⟩ := List.mem_map.1 hm
     exact hc x hx
theorem run_all {l : List Tb} {p : Pk} (hF : FitL l p) {r : Int} (hr : (findT l r).isSome) : RunI l [] (runG l (wt p) [(r, p)] tr0) :=
 runG_ind (I := RunI l) (fun q Q t h => h.step) _ _ _ (by simp [wsum]) ⟨fun q hq => by
  simp at hq; subst hq
  exact ⟨hF, fun e => by simp [e] at hr⟩, by simp [tr0], by simp [tr0], by simp [tr0]⟩
theorem len_sum {α : Type} (f : α → BitVec 64) : ∀ (l : List α), (∀ x ∈ l, f x ≠ 0#64) → l.length ≤ ((List.range 64).map fun k => (l.filter fun x => (f x).getLsbD k).length).sum
 | [], _ => by simp
 | x :: l, h => by
   have ih := len_sum f l (fun y hy => h y (by simp [hy]))
   have hx := h x (by simp)
   obtain ⟨t1, t2, _⟩ := tz_spec hx
   have hle : ∀ (ks : List Nat), (ks.map fun k => (l.filter fun x => (f x).getLsbD k).length).sum + (if tz (f x) ∈ ks then 1 else 0) ≤ (ks.map fun k => ((x :: l).filter fun x => (f x).getLsbD k).length).sum := by
    intro ks
    induction ks with
    | nil => simp
    | cons k ks ih2 =>
      simp only [List.map_cons, List.sum_cons, List.mem_cons, List.filter_cons]
      by_cases e : tz (f x) = k
      ·subst e
       rw [if_pos (.inl rfl), if_pos t2]
       simp only [List.length_cons]
       split at ih2 <;> simp only [List.filter_cons] at ih2 <;> omega
      ·simp only [e, false_or]
       simp only [List.filter_cons] at ih2
       have : (l.filter fun x => (f x).getLsbD k).length ≤ (if (f x).getLsbD k = true then x :: l.filter fun x => (f x).getLsbD k else l.filter fun x => (f x).getLsbD k).length := by split <;> simp
       omega
   have := hle (List.range 64)
   rw [if_pos (by simpa using t1)] at this
   simp only [List.length_cons]
   omega
theorem sum_le_bits {B : BitVec 64} {m : Nat} {f : Nat → Nat} (h : ∀ k < 64, f k ≤ if B.getLsbD k = true then m else 0) : ((List.range 64).map f).sum ≤ pc B * m := by
 have : ∀ ks : List Nat, (∀ k ∈ ks, k < 64) → (ks.map f).sum ≤ (ks.filter fun i => B.getLsbD i).length * m := by
  intro ks hk
  induction ks with
  | nil => simp
  | cons k ks ih =>
    have h1 := ih (fun j hj => hk j (by simp [hj]))
    have h2 := h k (hk k (by simp))
    simp only [List.map_cons, List.sum_cons, List.filter_cons]
    split
    ·rename_i hb
     rw [if_pos hb] at h2
     simp only [List.length_cons, Nat.succ_mul]; omega
    ·rename_i hb
     rw [if_neg hb] at h2; omega
 exact this _ (by simp)
theorem run_bit {l : List Tb} {p : Pk} (hF : FitL l p) (r : Int) {k : Nat} (hk : k < 64) :
  (((runG l (wt p) [(r, p)] tr0).dl.filter fun d => d.2.bits.getLsbD k).length + ((runG l (wt p) [(r, p)] tr0).ls.filter fun x => x.2.getLsbD k).length = if p.bits.getLsbD k = true then 1 else 0) ∧
  (((runG l (wt p) [(r, p)] tr0).cr.filter fun c => c.2.2.getLsbD k).length ≤ if p.bits.getLsbD k = true then p.ttl.toNat else 0) := by
 have e1 : ((runG l (wt p) [(r, p)] tr0).dl.filter fun d => d.2.bits.getLsbD k) = ((runG l (wt p) [(r, p)] tr0).at k).dl := rfl
 have e2 : ((runG l (wt p) [(r, p)] tr0).ls.filter fun x => x.2.getLsbD k) = ((runG l (wt p) [(r, p)] tr0).at k).ls := rfl
 have e3 : ((runG l (wt p) [(r, p)] tr0).cr.filter fun c => c.2.2.getLsbD k) = ((runG l (wt p) [(r, p)] tr0).at k).cr := rfl
 rw [e1, e2, e3]
 have ht := ok_ttl hF.ok
 by_cases hb : p.bits.getLsbD k = true
 ·rw [run_at hF r hk hb, if_pos hb, if_pos hb]
  rcases way_end hk hF hb r with ⟨ws, _, h2, h3⟩ | ⟨_, h3⟩
  ·refine ⟨by rw [h3.dl, h3.ls]; rfl, ?_⟩
   have := congrArg List.length h3.cr
   rw [List.length_map, edges_len] at this
   omega
  ·refine ⟨by rw [h3.dl, h3.ls]; rfl, ?_⟩
   have := h3.cr
   omega
 ·rw [run_off hF r hk hb, if_neg hb, if_neg hb]
  exact ⟨rfl, Nat.le_refl _⟩
theorem run_cr {l : List Tb} {p : Pk} (hF : FitL l p) {r : Int} (hr : (findT l r).isSome) : (runG l (wt p) [(r, p)] tr0).cr.length ≤ pc p.bits * p.ttl.toNat :=
 Nat.le_trans (len_sum (fun c : Int × Int × BitVec 64 => c.2.2) _ (run_all hF hr).cr) (sum_le_bits fun k hk => (run_bit hF r hk).2)
noncomputable def endsD : List (BitVec 64) → BitVec 64 → Option (BitVec 64)
 | [], s => some s
 | b :: l, s => if pc b ≠ 1 ∨ s &&& b ≠ 0#64 then none else endsD l (s ||| b)
noncomputable def endsL : List (BitVec 64) → BitVec 64 → Option (BitVec 64)
 | [], s => some s
 | b :: l, s => if b = 0#64 ∨ s &&& b ≠ 0#64 then none else endsL l (s ||| b)
noncomputable def endsR (t : Trc) (B : BitVec 64) : Bool := match endsD (t.dl.map fun d => d.2.bits) 0#64 with
 | none => false
 | some s => match endsL (t.ls.map fun x => x.2) s with
   | none => false
   | some s => decide (s = B)
theorem and_zero_of {s b : BitVec 64} (h : ∀ k < 64, ¬ (s.getLsbD k = true ∧ b.getLsbD k = true)) : s &&& b = 0#64 := by
 apply BitVec.eq_of_getLsbD_eq
 intro k hk
 have := h k hk
 rw [BitVec.getLsbD_and, BitVec.getLsbD_zero]
 cases h1 : s.getLsbD k <;> cases h2 : b.getLsbD k <;> simp_all
theorem pc_one {k : Nat} (hk : k < 64) : pc (1#64 <<< k) = 1 := by
 have : bitsL (1#64 <<< k) = [k] := by
  have e : bitsL (1#64 <<< k) = (List.range 64).filter fun i => decide (i = k) := by
   unfold bitsL
   apply List.filter_congr
   intro i hi
   rw [bit_one hk (by simpa using hi)]
  rw [e, filter_nodup List.nodup_range, if_pos (by simpa using hk)]
 rw [pc, this]; rfl
theorem endsL_ok : ∀ (l : List (BitVec 64)) (s : BitVec 64), (∀ b ∈ l, b ≠ 0#64) → (∀ k < 64, (l.filter fun b => b.getLsbD k).length + (if s.getLsbD k = true then 1 else 0) ≤ 1) → ∃ s', endsL l s = some s' ∧ ∀ k < 64, s'.getLsbD k = true ↔ s.getLsbD k = true ∨ (l.filter fun b => b.getLsbD k).length = 1
 | [], s, _, _ => ⟨s, rfl, by simp⟩
 | b :: l, s, h0, h1 => by
   have hz : s &&& b = 0#64 := and_zero_of fun k hk ⟨a1, a2⟩ => by
    have := h1 k hk
    rw [if_pos a1, List.filter_cons, if_pos a2] at this
    simp at this
   have hk1 : ∀ k < 64, (l.filter fun b => b.getLsbD k).length + (if (s ||| b).getLsbD k = true then 1 else 0) ≤ 1 := fun k hk => by
    have := h1 k hk
    rw [List.filter_cons] at this
    by_cases a1 : s.getLsbD k = true
    ·rw [if_pos (or_bit s b |>.2 (.inl a1))]; rw [if_pos a1] at this; split at this <;> (try simp only [List.length_cons] at this) <;> omega
    ·by_cases a2 : b.getLsbD k = true
     ·rw [if_pos (or_bit s b |>.2 (.inr a2))]; rw [if_pos a2, if_neg a1] at this; simp only [List.length_cons] at this; omega
     ·rw [if_neg (fun a => ((or_bit s b).1 a).elim a1 a2)]; rw [if_neg a2, if_neg a1] at this; omega
   obtain ⟨s', h2, h3⟩ := endsL_ok l (s ||| b) (fun c hc => h0 c (by simp [hc])) hk1
   refine ⟨s', by rw [endsL, if_neg (fun a => a.elim (h0 b (by simp)) (fun a => a hz))]; exact h2, fun k hk => ?_⟩
   rw [h3 k hk, or_bit, List.filter_cons]
   have := h1 k hk
   rw [List.filter_cons] at this
   by_cases a2 : b.getLsbD k = true
   ·rw [if_pos a2] at this ⊢
    simp only [List.length_cons] at this ⊢
    simp only [a2, or_true, true_or, true_iff]
    exact .inr (by omega)
   ·rw [if_neg a2]; simp [a2]
theorem endsD_eq : ∀ (l : List (BitVec 64)) (s : BitVec 64), (∀ b ∈ l, ∃ k < 64, b = 1#64 <<< k) → endsD l s = endsL l s
 | [], _, _ => rfl
 | b :: l, s, h => by
   obtain ⟨k, hk, rfl⟩ := h b (by simp)
   have hnz : (1#64 <<< k) ≠ 0#64 := fun e => by
    have := congrArg (fun z => z.getLsbD k) e
    simp only [bit_one hk hk] at this; simp at this
   rw [endsD, endsL, endsD_eq l _ (fun c hc => h c (by simp [hc]))]
   simp only [pc_one hk, ne_eq, not_true_eq_false, false_or, hnz]
theorem endsL_app : ∀ (a b : List (BitVec 64)) (s : BitVec 64), endsL (a ++ b) s = match endsL a s with | none => none | some s => endsL b s
 | [], b, s => rfl
 | x :: a, b, s => by
   rw [List.cons_append, endsL, endsL]
   split
   ·rfl
   ·exact endsL_app a b _
theorem ends_ok {t : Trc} {B : BitVec 64} (h1 : ∀ d ∈ t.dl, ∃ k < 64, d.2.bits = 1#64 <<< k) (h2 : ∀ x ∈ t.ls, x.2 ≠ 0#64)
  (h3 : ∀ k < 64, (t.dl.filter fun d => d.2.bits.getLsbD k).length + (t.ls.filter fun x => x.2.getLsbD k).length = if B.getLsbD k = true then 1 else 0) : endsR t B = true := by
 have hd : ∀ b ∈ t.dl.map (fun d => d.2.bits), ∃ k < 64, b = 1#64 <<< k := fun b hb => by
  obtain ⟨d, hd, rfl⟩ := List.mem_map.1 hb
  exact h1 d hd
 have hall : ∀ b ∈ t.dl.map (fun d => d.2.bits) ++ t.ls.map (fun x => x.2), b ≠ 0#64 := fun b hb => by
  rcases List.mem_append.1 hb with hb | hb
  ·obtain ⟨k, hk, rfl⟩ := hd b hb
   intro e
   have := congrArg (fun z => z.getLsbD k) e
   simp only [bit_one hk hk] at this; simp at this
  ·obtain ⟨x, hx, rfl⟩ := List.mem_map.1 hb
   exact h2 x hx
 have hlen : ∀ k, ((t.dl.map (fun d => d.2.bits) ++ t.ls.map (fun x => x.2)).filter fun b => b.getLsbD k).length = (t.dl.filter fun d => d.2.bits.getLsbD k).length + (t.ls.filter fun x => x.2.getLsbD k).length := fun k => by
  rw [List.filter_append, List.length_append, List.filter_map, List.filter_map, List.length_map, List.length_map]; rfl
 obtain ⟨s', g1, g2⟩ := endsL_ok (t.dl.map (fun d => d.2.bits) ++ t.ls.map (fun x => x.2)) 0#64 hall (fun k hk => by
  rw [hlen, h3 k hk]; simp; split <;> omega)
 rw [endsL_app] at g1
 unfold endsR
 rw [endsD_eq _ _ hd]
 cases hx : endsL (t.dl.map fun d => d.2.bits) 0#64 with
 | none => rw [hx] at g1; simp at g1
 | some s =>
   rw [hx] at g1
   simp only at g1 ⊢
   rw [g1]
   simp only [decide_eq_true_eq]
   apply BitVec.eq_of_getLsbD_eq
   intro k hk
   have := g2 k hk
   rw [hlen, h3 k hk] at this
   rw [Bool.eq_iff_iff, this]
   simp
theorem run_ends {l : List Tb} {p : Pk} (hF : FitL l p) {r : Int} (hr : (findT l r).isSome) : endsR (runG l (wt p) [(r, p)] tr0) p.bits = true :=
 ends_ok (run_all hF hr).dl (run_all hF hr).ls fun k hk => (run_bit hF r hk).1
end Go.Proofs

set_option linter.unusedSimpArgs false
set_option linter.unusedVariables false
namespace Go.Proofs
theorem setB_fit {l : List Tb} {p : Pk} (hF : FitL l p) {R : BitVec 64} (hR : ∀ k < 64, R.getLsbD k = true → p.bits.getLsbD k = true) : FitL l (p.setB R) :=
 ⟨ok_setB hF.ok hR, fun b hb => ⟨(hF.all b hb).ck, (hF.all b hb).sd, (hF.all b hb).len, ok_setB hF.ok hR, (hF.all b hb).mode⟩⟩
theorem plnP_setB {p : Pk} (h : p.ok = true) {R : BitVec 64} (hR : ∀ k < 64, R.getLsbD k = true → p.bits.getLsbD k = true) : plnP (p.setB R) = plnP p := by
 simp only [plnP, ok_setB h hR, h, if_true]; rfl
theorem run_dl {l : List Tb} {p : Pk} (hF : FitL l p) (r : Int) {k : Nat} (hk : k < 64) (d : Int × Pk) :
  (d ∈ (runG l (wt p) [(r, p)] tr0).dl ∧ d.2.bits.getLsbD k = true) ↔ p.bits.getLsbD k = true ∧ ∃ ws, Dl l (idAt p k) (plnP p) r ws ∧ (ws.length : Int) ≤ p.ttl ∧ d = (lastR r ws, pkD p k ws.length) := by
 have e : (d ∈ (runG l (wt p) [(r, p)] tr0).dl ∧ d.2.bits.getLsbD k = true) ↔ d ∈ ((runG l (wt p) [(r, p)] tr0).at k).dl := by simp [Trc.at]
 rw [e]
 by_cases hb : p.bits.getLsbD k = true
 ·rw [run_at hF r hk hb]
  rcases way_end hk hF hb r with ⟨ws, h1, h2, h3⟩ | ⟨h1, h3⟩
  ·rw [h3.dl]
   constructor
   ·intro h; exact ⟨hb, ws, h1, h2, by simpa using h⟩
   ·rintro ⟨_, us, a1, a2, rfl⟩
    rw [h1.det a1]; simp
  ·rw [h3.dl]
   constructor
   ·intro h; simp at h
   ·rintro ⟨_, us, a1, a2, rfl⟩
    have := h1 us a1; omega
 ·rw [run_off hF r hk hb]
  simp [tr0, hb]
theorem run_dl_len {l : List Tb} {p : Pk} (hF : FitL l p) (r : Int) {k : Nat} (hk : k < 64) :
  ((runG l (wt p) [(r, p)] tr0).dl.filter fun d => d.2.bits.getLsbD k).length ≤ 1 := by
 have := (run_bit hF r hk).1
 split at this <;> omega
theorem run_ls {l : List Tb} {p : Pk} (hF : FitL l p) (r : Int) {k : Nat} (hk : k < 64) :
  (∃ x ∈ (runG l (wt p) [(r, p)] tr0).ls, x.2.getLsbD k = true) ↔ p.bits.getLsbD k = true ∧ ∀ ws, Dl l (idAt p k) (plnP p) r ws → p.ttl < ws.length := by
 have e : (∃ x ∈ (runG l (wt p) [(r, p)] tr0).ls, x.2.getLsbD k = true) ↔ ((runG l (wt p) [(r, p)] tr0).at k).ls ≠ [] := by
  simp only [Trc.at, ne_eq, List.filter_eq_nil_iff]
  constructor
  ·rintro ⟨x, h1, h2⟩ h; exact h x h1 h2
  ·intro h
   exact Classical.byContradiction fun g => h fun x h1 h2 => g ⟨x, h1, h2⟩
 rw [e]
 by_cases hb : p.bits.getLsbD k = true
 ·rw [run_at hF r hk hb]
  rcases way_end hk hF hb r with ⟨ws, h1, h2, h3⟩ | ⟨h1, h3⟩
  ·rw [h3.ls]
   constructor
   ·intro h; exact absurd rfl h
   ·rintro ⟨_, h⟩; have := h ws h1; omega
  ·have := h3.ls
   constructor
   ·intro _; exact ⟨hb, h1⟩
   ·intro _ h; rw [h] at this; simp at this
 ·rw [run_off hF r hk hb]
  simp [tr0, hb]
theorem len_ones {α : Type} (f : α → BitVec 64) : ∀ (l : List α), (∀ x ∈ l, ∃ k < 64, f x = 1#64 <<< k) → l.length = ((List.range 64).map fun k => (l.filter fun x => (f x).getLsbD k).length).sum
 | [], _ => by
   have : ∀ ks : List Nat, (ks.map fun k => (([] : List α).filter fun x => (f x).getLsbD k).length).sum = 0 := fun ks => by induction ks <;> simp_all
   rw [this]; rfl
 | x :: l, h => by
   have ih := len_ones f l (fun y hy => h y (by simp [hy]))
   obtain ⟨j, hj, e⟩ := h x (by simp)
   have hle : ∀ (ks : List Nat), ks.Nodup → (∀ k ∈ ks, k < 64) → (ks.map fun k => ((x :: l).filter fun x => (f x).getLsbD k).length).sum = (ks.map fun k => (l.filter fun x => (f x).getLsbD k).length).sum + (if j ∈ ks then 1 else 0) := by
    intro ks hn hk
    induction ks with
    | nil => simp
    | cons k ks ih2 =>
      rw [List.nodup_cons] at hn
      have ih2 := ih2 hn.2 (fun m hm => hk m (by simp [hm]))
      have hkk := hk k (by simp)
      simp only [List.map_cons, List.sum_cons, List.mem_cons]
      rw [ih2, List.filter_cons, e, bit_one hj hkk]
      by_cases ek : j = k
      ·subst ek
       simp only [decide_true, if_true, List.length_cons, true_or, if_neg hn.1]
       omega
      ·simp only [Ne.symm ek, decide_false, Bool.false_eq_true, if_false, ek, false_or]
       omega
   have := hle (List.range 64) List.nodup_range (by simp)
   rw [if_pos (by simpa using hj)] at this
   rw [this, List.length_cons, ih]
theorem sum_add (f g : Nat → Nat) (ks : List Nat) : (ks.map fun k => f k + g k).sum = (ks.map f).sum + (ks.map g).sum := by
 induction ks with
 | nil => rfl
 | cons k ks ih => simp only [List.map_cons, List.sum_cons, ih]; omega
theorem setB_way {p : Pk} (h : p.ok = true) {R : BitVec 64} (hR : ∀ k < 64, R.getLsbD k = true → p.bits.getLsbD k = true) (k : Nat) (s : Int) : idAt (p.setB R) k = idAt p k ∧ plnP (p.setB R) = plnP p ∧ (p.setB R).ttl = p.ttl ∧ pkD (p.setB R) k s = pkD p k s :=
 ⟨rfl, plnP_setB h hR, rfl, rfl⟩
theorem run_part {l : List Tb} {p : Pk} (hF : FitL l p) {R : BitVec 64} (hR : ∀ k < 64, R.getLsbD k = true → p.bits.getLsbD k = true) (r : Int) {k : Nat} (hk : k < 64) (hb : R.getLsbD k = true) (d : Int × Pk) :
  (d ∈ (runG l (wt (p.setB R)) [(r, p.setB R)] tr0).dl ∧ d.2.bits.getLsbD k = true) ↔ (d ∈ (runG l (wt p) [(r, p)] tr0).dl ∧ d.2.bits.getLsbD k = true) := by
 rw [run_dl (setB_fit hF hR) r hk, run_dl hF r hk]
 have h1 := hR k hk hb
 have h2 : (p.setB R).bits.getLsbD k = true := hb
 rw [(setB_way hF.ok hR k 0).1, (setB_way hF.ok hR k 0).2.1, (setB_way hF.ok hR k 0).2.2.1]
 simp only [h1, h2, true_and]
 constructor <;> rintro ⟨ws, a1, a2, a3⟩ <;> exact ⟨ws, a1, a2, a3⟩
theorem len_same {α : Type} {l m : List α} (hl : l.length ≤ 1) (hm : m.length ≤ 1) (h : ∀ x, x ∈ l ↔ x ∈ m) : l = m := by
 match l, m, hl, hm with
 | [], [], _, _ => rfl
 | [], [b], _, _ => have := (h b).2 (by simp); simp at this
 | [a], [], _, _ => have := (h a).1 (by simp); simp at this
 | [a], [b], _, _ => have := (h a).1 (by simp); simp at this; rw [this]
theorem part_at {l : List Tb} {p : Pk} (hF : FitL l p) {R : BitVec 64} (hR : ∀ k < 64, R.getLsbD k = true → p.bits.getLsbD k = true) (r : Int) {k : Nat} (hk : k < 64) :
  ((runG l (wt (p.setB R)) [(r, p.setB R)] tr0).dl.filter fun d => d.2.bits.getLsbD k) = if R.getLsbD k = true then ((runG l (wt p) [(r, p)] tr0).dl.filter fun d => d.2.bits.getLsbD k) else [] := by
 split
 ·rename_i hb
  refine len_same (run_dl_len (setB_fit hF hR) r hk) (run_dl_len hF r hk) fun d => ?_
  rw [List.mem_filter, List.mem_filter]
  exact run_part hF hR r hk hb d
 ·rename_i hb
  have := run_off (setB_fit hF hR) r hk (show ¬ (p.setB R).bits.getLsbD k = true from hb)
  exact congrArg Trc.dl this
theorem parts_len {l : List Tb} {p : Pk} (hF : FitL l p) {r : Int} (hr : (findT l r).isSome) {A B : BitVec 64} (hA : ∀ k < 64, A.getLsbD k = true → p.bits.getLsbD k = true) (hB : ∀ k < 64, B.getLsbD k = true → p.bits.getLsbD k = true)
  (hs : ∀ k < 64, p.bits.getLsbD k = true → (A.getLsbD k = true ↔ ¬ B.getLsbD k = true)) :
  (runG l (wt p) [(r, p)] tr0).dl.length = (runG l (wt (p.setB A)) [(r, p.setB A)] tr0).dl.length + (runG l (wt (p.setB B)) [(r, p.setB B)] tr0).dl.length := by
 rw [len_ones (fun d : Int × Pk => d.2.bits) _ (run_all hF hr).dl, len_ones (fun d : Int × Pk => d.2.bits) _ (run_all (setB_fit hF hA) hr).dl, len_ones (fun d : Int × Pk => d.2.bits) _ (run_all (setB_fit hF hB) hr).dl, ← sum_add]
 congr 1
 apply List.map_congr_left
 intro k hk
 have hk : k < 64 := by simpa using hk
 rw [part_at hF hA r hk, part_at hF hB r hk]
 by_cases hb : p.bits.getLsbD k = true
 ·by_cases ha : A.getLsbD k = true
  ·rw [if_pos ha, if_neg ((hs k hk hb).1 ha)]; simp
  ·rw [if_neg ha, if_pos (Classical.byContradiction fun g => ha ((hs k hk hb).2 g))]; simp
 ·have h0 : ((runG l (wt p) [(r, p)] tr0).dl.filter fun d => d.2.bits.getLsbD k) = [] := congrArg Trc.dl (run_off hF r hk hb)
  rw [if_neg (fun a => hb (hA k hk a)), if_neg (fun a => hb (hB k hk a)), h0]; rfl
theorem parts_mem {l : List Tb} {p : Pk} (hF : FitL l p) {r : Int} (hr : (findT l r).isSome) {A B : BitVec 64} (hA : ∀ k < 64, A.getLsbD k = true → p.bits.getLsbD k = true) (hB : ∀ k < 64, B.getLsbD k = true → p.bits.getLsbD k = true)
  (hs : ∀ k < 64, p.bits.getLsbD k = true → (A.getLsbD k = true ↔ ¬ B.getLsbD k = true)) {d : Int × Pk} (hd : d ∈ (runG l (wt p) [(r, p)] tr0).dl) :
  d ∈ (runG l (wt (p.setB A)) [(r, p.setB A)] tr0).dl ∨ d ∈ (runG l (wt (p.setB B)) [(r, p.setB B)] tr0).dl := by
 obtain ⟨k, hk, e⟩ := (run_all hF hr).dl d hd
 have hdk : d.2.bits.getLsbD k = true := by rw [e]; simp [bit_one hk hk]
 have hb := ((run_dl hF r hk d).1 ⟨hd, hdk⟩).1
 by_cases ha : A.getLsbD k = true
 ·exact .inl ((run_part hF hA r hk ha d).2 ⟨hd, hdk⟩).1
 ·exact .inr ((run_part hF hB r hk (Classical.byContradiction fun g => ha ((hs k hk hb).2 g)) d).2 ⟨hd, hdk⟩).1
end Go.Proofs

set_option linter.unusedSimpArgs false
set_option linter.unusedVariables false
namespace Go.Proofs
theorem pathG_dl {l : List Tb} {id pl r : Int} {ws : List Int} (h : Dl l id pl r ws) : ∀ (k : Nat) (pr : List Int), ws.length < k → (∀ x ∈ r :: ws, x ∉ pr) → pathG l id pl k pr r = ((pr ++ r :: ws).tail, 0) := by
 have hnd := h.nodup
 induction h with
 | @here r b h1 h2 h3 =>
   intro k pr hk hpr
   obtain ⟨k, rfl⟩ : ∃ j, k = j + 1 := ⟨k - 1, by simp at hk; omega⟩
   rw [pathG, if_neg (hpr r (by simp))]
   simp only [h1, h2, if_neg h3, if_true]
 | @next r h b ws h1 h2 h3 h4 h5 ih =>
   intro k pr hk hpr
   simp only [List.length_cons] at hk
   obtain ⟨k, rfl⟩ : ∃ j, k = j + 1 := ⟨k - 1, by omega⟩
   rw [pathG, if_neg (hpr r (by simp))]
   simp only [h1, h2, if_neg h3, if_neg h4]
   have hn := (List.nodup_cons.1 hnd)
   have := ih hn.2 k (pr ++ [r]) (by omega) (fun x hx hm => by
    rcases List.mem_append.1 hm with hm | hm
    ·exact hpr x (List.mem_cons_of_mem _ hx) hm
    ·simp at hm; subst hm; exact hn.1 hx)
   rw [this]; simp
theorem path_of_dl {l : List Tb} {id pl r : Int} {ws : List Int} (hA : chkA l = 0) (hp : 0 ≤ pl ∧ pl ≤ 7) (h : Dl l id pl r ws) : pathV l r id pl = (ws, 0) := by
 have := h.len
 rw [pathV, if_neg (by simp [hA]), if_neg (by simp [hp.1, hp.2]), pathG_dl h _ [] (by omega) (by simp)]
 simp
def costW (g : Topo) : Int → List Int → Option Int
 | _, [] => some 0
 | r, h :: ws => match price g.ls r h, costW g h ws with
   | some c, some v => some (c + v)
   | _, _ => none
def AllCap (g : Topo) : Prop := ∀ x ∈ g.rs, x.cap = true
theorem AllCap.cap {g : Topo} (hg : g.Ok) (h : AllCap g) {r : Int} (hr : hasR g.rs r = true) : capR g.rs r = true := by
 obtain ⟨x, hx, rfl⟩ := List.mem_map.1 (hasR_mem.1 hr)
 exact (capR_iff hg).2 ⟨x, hx, rfl, h x hx⟩
theorem HopR.direct {g : Topo} (hg : g.Ok) (hA : AllCap g) {t r n : Int} (h : HopR g t r n) : n ∈ steps g (dist g t) r := by
 obtain ⟨x, hx, hn, _⟩ := h
 have : x = r := by
  induction hx with
  | nil => rfl
  | via _ hy hc _ =>
    rw [hA.cap hg (steps_has hy)] at hc; simp at hc
 rw [← this]; exact hn
theorem dl_cost {g : Topo} (hg : chkT g = 0) (hA : AllCap g) {p : Pn} (hp : planB p = true) {id pl r : Int} {ws : List Int} (h : Dl (tabs g p g.rs) id pl r ws) :
  ∃ e ∈ p.es, e.id = id ∧ lastR r ws = e.r ∧ costW g r ws = some (dst g e.r r) := by
 have hO := chkT_zero hg
 obtain ⟨e, he, rfl, hl, hc, hr, hd⟩ := dl_wrong hg hp h
 refine ⟨e, he, rfl, hl, ?_⟩
 clear hd hr
 induction h with
 | @here r b h1 h2 h3 =>
   simp only [lastR] at hl
   rw [hl, costW, dst_self hO (cap_has hO hc)]
 | @next r h b ws h1 h2 h3 h4 h5 ih =>
   have ih := ih (by simpa [lastR] using hl)
   rw [tabs_find hO] at h1
   split at h1
   ·rename_i hr
    simp only [Option.some.injEq] at h1; subst h1
    have hrh := cap_has hO hr
    rcases build_hop hg hp he hrh pl with ⟨a1, a2⟩ | ⟨a1, a2, a3, a4⟩ | ⟨a1, a2, a3⟩
    ·exact absurd (h2.symm.trans a2) h4
    ·rw [h2] at a4
     obtain ⟨_, _, _, c, b1, b2⟩ := (mem_steps hO).1 (a4.direct hO hA)
     rw [costW, b1, ih]
     simp only [b2]
    ·omega
   ·simp at h1
theorem run_cr_at {l : List Tb} {p : Pk} (hF : FitL l p) {r : Int} {k : Nat} (hk : k < 64) (hb : p.bits.getLsbD k = true) {ws : List Int} (hD : Dl l (idAt p k) (plnP p) r ws) (hl : (ws.length : Int) ≤ p.ttl) :
  ((runG l (wt p) [(r, p)] tr0).cr.filter fun c => c.2.2.getLsbD k).map (fun c => (c.1, c.2.1)) = edges r ws := by
 have e : ((runG l (wt p) [(r, p)] tr0).cr.filter fun c => c.2.2.getLsbD k) = ((runG l (wt p) [(r, p)] tr0).at k).cr := rfl
 rw [e, run_at hF r hk hb]
 exact (way_del hk _ (Nat.le_refl _) hF hb rfl rfl hD hl).cr
theorem edges_fst {r : Int} {ws : List Int} {x : Int × Int} (h : x ∈ edges r ws) : x.1 ∈ r :: ws := by
 induction ws generalizing r with
 | nil => simp [edges] at h
 | cons w ws ih =>
   rw [edges] at h
   rcases List.mem_cons.1 h with rfl | h
   ·simp
   ·exact List.mem_cons_of_mem _ (ih h)
theorem edges_nodup {r : Int} {ws : List Int} (h : (r :: ws).Nodup) : (edges r ws).Nodup := by
 induction ws generalizing r with
 | nil => simp [edges]
 | cons w ws ih =>
   rw [List.nodup_cons] at h
   rw [edges, List.nodup_cons]
   exact ⟨fun hm => h.1 (edges_fst hm), ih h.2⟩
theorem cross_once {l : List Tb} {p : Pk} (hF : FitL l p) {r : Int} {k : Nat} (hk : k < 64) (hb : p.bits.getLsbD k = true) {ws : List Int} (hD : Dl l (idAt p k) (plnP p) r ws) (hl : (ws.length : Int) ≤ p.ttl) {a b : Int} (hab : (a, b) ∈ edges r ws) :
  ((runG l (wt p) [(r, p)] tr0).cr.filter fun c => decide (c.1 = a ∧ c.2.1 = b) && c.2.2.getLsbD k).length = 1 := by
 have h1 := run_cr_at hF hk hb hD hl
 have h2 : ((runG l (wt p) [(r, p)] tr0).cr.filter fun c => decide (c.1 = a ∧ c.2.1 = b) && c.2.2.getLsbD k) = ((runG l (wt p) [(r, p)] tr0).cr.filter fun c => c.2.2.getLsbD k).filter fun c => decide (c.1 = a ∧ c.2.1 = b) := by
  rw [List.filter_filter]
 rw [h2]
 have h3 : (((runG l (wt p) [(r, p)] tr0).cr.filter fun c => c.2.2.getLsbD k).filter fun c => decide (c.1 = a ∧ c.2.1 = b)).map (fun c => (c.1, c.2.1)) = (edges r ws).filter fun x => decide (x = (a, b)) := by
  rw [← h1, List.filter_map]
  congr 1
  apply List.filter_congr
  intro c _
  simp only [Function.comp_apply, Prod.mk.injEq]
 have h4 := congrArg List.length h3
 rw [List.length_map, filter_nodup (edges_nodup hD.nodup), if_pos hab] at h4
 exact h4
end Go.Proofs

set_option linter.unusedSimpArgs false
set_option linter.unusedVariables false
namespace Go.Proofs
theorem costW_walk {g : Topo} {r : Int} {ws : List Int} {v : Int} (h : costW g r ws = some v) : Wk g (lastR r ws) ws.length r v := by
 induction ws generalizing r v with
 | nil => simp [costW] at h; subst h; exact .nil
 | cons w ws ih =>
   rw [costW] at h
   cases hp : price g.ls r w with
   | none => simp [hp] at h
   | some c =>
     cases hc : costW g w ws with
     | none => simp [hp, hc] at h
     | some u =>
       simp only [hp, hc, Option.some.injEq] at h
       subst h
       exact .cons hp (ih hc)
end Go.Proofs

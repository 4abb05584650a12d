/-
  What functions of the program compute, stated as contracts over plain data; the conditions of each stand in its own statement.
-/
import Derived.Test.YtffjbciladpdlaaGreatZN34
import Derived.Test.YtffjbciladpdlaaGreatZN27
import Derived.Test.YtffjbciladpdlaaGreatZN13
import Derived.Test.YtffjbciladpdlaaGreatZN24
set_option linter.unusedSimpArgs false
set_option linter.unusedVariables false
namespace Go.Proofs
theorem lkPos_take (x : Lk) : ∀ (l : List Lk), ∀ y ∈ l.take (lkPos x l), y.before x = true
 | [] => by simp
 | z :: r => by
   intro y hy
   rw [lkPos] at hy
   split at hy
   ·rename_i hz
    rw [List.take_succ_cons] at hy
    rcases List.mem_cons.1 hy with rfl | hy
    ·exact hz
    ·exact lkPos_take x r y hy
   ·simp at hy
theorem lkPos_at (x : Lk) : ∀ (l : List Lk) (y : Lk), l[lkPos x l]? = some y → y.before x = false
 | [], y, h => by simp at h
 | z :: r, y, h => by
   rw [lkPos] at h
   split at h
   ·exact lkPos_at x r y (by simpa using h)
   ·rename_i hz
    simp at h; subst h; simpa using hz
theorem before_lt {x y : Lk} : y.before x = true ↔ lkLt y x := by simp [Lk.before, lkLt]
theorem lkIns {l : List Lk} (x : Lk) (h : l.Pairwise lkLt) (hd : ∀ y ∈ l, ¬ (y.a = x.a ∧ y.b = x.b)) : (l.take (lkPos x l) ++ [x] ++ l.drop (lkPos x l)).Pairwise lkLt ∧ ∀ y, y ∈ l.take (lkPos x l) ++ [x] ++ l.drop (lkPos x l) ↔ y ∈ l ∨ y = x := by
 have hl : l.take (lkPos x l) ++ l.drop (lkPos x l) = l := List.take_append_drop _ _
 have hp : (l.take (lkPos x l) ++ l.drop (lkPos x l)).Pairwise lkLt := by rw [hl]; exact h
 rw [List.pairwise_append] at hp
 have hdr : ∀ y ∈ l.drop (lkPos x l), lkLt x y := fun y hy => by
  cases hc : l.drop (lkPos x l) with
  | nil => rw [hc] at hy; simp at hy
  | cons z r =>
    have hz : l[lkPos x l]? = some z := by
     have : (l.drop (lkPos x l))[0]? = some z := by rw [hc]; rfl
     simpa using this
    have h1 := lkPos_at x l z hz
    have h2 := hd z (List.mem_of_getElem? hz)
    have h3 : lkLt x z := by
     have : ¬ lkLt z x := fun a => by rw [before_lt.2 a] at h1; simp at h1
     unfold lkLt at *; omega
    rw [hc] at hy
    rcases List.mem_cons.1 hy with rfl | hy
    ·exact h3
    ·have := hp.2.1
     rw [hc, List.pairwise_cons] at this
     exact lkLt_trans h3 (this.1 y hy)
 refine ⟨?_, fun y => ?_⟩
 ·rw [List.append_assoc, List.pairwise_append]
  refine ⟨hp.1, ?_, fun a ha b hb => ?_⟩
  ·rw [List.singleton_append, List.pairwise_cons]
   exact ⟨hdr, hp.2.1⟩
  ·have h1 := before_lt.1 (lkPos_take x l a ha)
   rcases List.mem_append.1 hb with hb | hb
   ·simp at hb; subst hb; exact h1
   ·exact lkLt_trans h1 (hdr b hb)
 ·conv => rhs; rw [← hl]
  simp only [List.mem_append, List.mem_singleton]
  constructor
  ·rintro ((a | a) | a)
   ·exact .inl (.inl a)
   ·exact .inr a
   ·exact .inl (.inr a)
  ·rintro ((a | a) | a)
   ·exact .inl (.inl a)
   ·exact .inr a
   ·exact .inl (.inr a)
def lkNe (x y : Lk) : Prop := ¬ (x.a = y.a ∧ x.b = y.b)
theorem ordL_ok : ∀ (l out : List Lk), l.Pairwise lkNe → out.Pairwise lkLt → (∀ x ∈ l, ∀ y ∈ out, lkNe x y) → (ordL l out).Pairwise lkLt ∧ ∀ y, y ∈ ordL l out ↔ y ∈ l ∨ y ∈ out
 | [], out, _, h, _ => ⟨h, by simp [ordL]⟩
 | x :: l, out, hl, h, hd => by
   rw [List.pairwise_cons] at hl
   obtain ⟨h1, h2⟩ := lkIns x h (fun y hy e => hd x (by simp) y hy ⟨e.1.symm, e.2.symm⟩)
   obtain ⟨h3, h4⟩ := ordL_ok l _ hl.2 h1 (fun z hz y hy => by
    rcases (h2 y).1 hy with hy | rfl
    ·exact hd z (by simp [hz]) y hy
    ·exact fun e => hl.1 z hz ⟨e.1.symm, e.2.symm⟩)
   refine ⟨h3, fun y => ?_⟩
   rw [ordL, h4, h2]
   simp only [List.mem_cons]
   constructor
   ·rintro (a | a | a)
    ·exact .inl (.inr a)
    ·exact .inr a
    ·exact .inl (.inl a)
   ·rintro ((a | a) | a)
    ·exact .inr (.inr a)
    ·exact .inl a
    ·exact .inr (.inl a)
structure LkI (b a : Int) (l : List Lk) : Prop where
 all : ∀ x ∈ l, (1 ≤ x.a ∧ x.a < x.b ∧ (x.b < b ∨ (x.b = b ∧ x.a < a))) ∧ (1 ≤ x.ca ∧ x.ca ≤ 1000) ∧ (1 ≤ x.cb ∧ x.cb ≤ 1000) ∧ 0 ≤ x.cap ∧ x.cap ≤ 1000
 ne : l.Pairwise lkNe
theorem LkI.step {b a cost tree : Int} {skip : Bool} {T : Tp} {l : List Lk} (h : LkI b a l) (ha : 1 ≤ a) (hab : a < b) (hc : 1 ≤ cost ∧ cost ≤ 1000) : LkI b (a + 1) (gTopS cost tree skip b a T l).1 := by
 have hw : LkI b (a + 1) l := ⟨fun x hx => by have := h.all x hx; omega, h.ne⟩
 unfold gTopS
 simp only
 generalize (if (decide (a = tree) && !skip) = true then (true, T) else gOne T 3) = c
 cases c.1 with
 | false => simpa using hw
 | true =>
   simp only [if_true]
   have r1 := gRange_lo c.2 1 cost
   have r2 := gRange_hi c.2 (a := 1) (b := cost) hc.1
   generalize gRange c.2 1 cost = X at r1 r2
   have r3 := gRange_lo X.2 1 cost
   have r4 := gRange_hi X.2 (a := 1) (b := cost) hc.1
   generalize gRange X.2 1 cost = Y at r3 r4
   have r5 := gNext_nonneg Y.2 4
   have r6 := gNext_lt Y.2 (n := 4) (by omega)
   generalize gNext Y.2 4 = Z at r5 r6
   refine ⟨fun x hx => ?_, ?_⟩
   ·rcases List.mem_append.1 hx with hx | hx
    ·exact hw.all x hx
    ·simp at hx; subst hx
     exact ⟨⟨ha, hab, .inr ⟨rfl, by show a < a + 1; omega⟩⟩, ⟨r1, Int.le_trans r2 hc.2⟩, ⟨r3, Int.le_trans r4 hc.2⟩, r5, by show Z.1 ≤ 1000; omega⟩
   ·rw [List.pairwise_append]
    refine ⟨h.ne, by simp, fun x hx y hy => ?_⟩
    simp at hy; subst hy
    have := h.all x hx
    unfold lkNe; simp only; omega
theorem LkI.row {b cost tree : Int} {skip : Bool} (hc : 1 ≤ cost ∧ cost ≤ 1000) : ∀ (n : Nat) (a : Int) (T : Tp) (l : List Lk), LkI b a l → 1 ≤ a → a + n ≤ b → LkI b (a + n) (gTopA cost tree skip b n a T l).1
 | 0, a, T, l, h, _, _ => by simpa [gTopA] using h
 | n + 1, a, T, l, h, h1, h2 => by
   rw [gTopA]
   have := LkI.row (tree := tree) (skip := skip) hc n (a + 1) (gTopS cost tree skip b a T l).2 _ (h.step (tree := tree) (skip := skip) (T := T) h1 (by omega) hc) (by omega) (by omega)
   rw [show a + ((n + 1 : Nat) : Int) = a + 1 + n by omega]
   exact this
theorem LkI.all_rows {cost : Int} (hc : 1 ≤ cost ∧ cost ≤ 1000) : ∀ (n : Nat) (b : Int) (T : Tp) (l : List Lk), LkI b 1 l → 2 ≤ b → LkI (b + n) 1 (gTopB cost n b T l).1
 | 0, b, T, l, h, _ => by simpa [gTopB] using h
 | n + 1, b, T, l, h, hb => by
   rw [gTopB]
   have h1 : LkI b b (gTopR cost b T l).1 := by
    unfold gTopR
    simp only
    have := LkI.row (b := b) (tree := (gRange T 1 (b - 1)).1) (skip := (gOne (gRange T 1 (b - 1)).2 9).1) hc (b - 1).toNat 1 (gOne (gRange T 1 (b - 1)).2 9).2 l h (by omega) (by omega)
    rw [show 1 + (((b - 1).toNat : Nat) : Int) = b by omega] at this
    exact this
   have h2 : LkI (b + 1) 1 (gTopR cost b T l).1 := ⟨fun x hx => by have := h1.all x hx; omega, h1.ne⟩
   have := LkI.all_rows hc n (b + 1) (gTopR cost b T l).2 _ h2 (by omega)
   rw [show b + ((n + 1 : Nat) : Int) = b + 1 + n by omega]
   exact this
theorem gTopA_len2 (cost tree : Int) (skip : Bool) (b : Int) : ∀ (n : Nat) (a : Int) (T : Tp) (l : List Lk), (gTopA cost tree skip b n a T l).1.length ≤ l.length + n
 | 0, _, _, _ => Nat.le_refl _
 | n + 1, a, T, l => by
   have h1 := gTopA_len2 cost tree skip b n (a + 1) (gTopS cost tree skip b a T l).2 (gTopS cost tree skip b a T l).1
   have h2 := gTopS_len cost tree skip b a T l
   rw [gTopA]
   omega
theorem gTopB_len2 (cost : Int) (m : Nat) : ∀ (n : Nat) (b : Int) (T : Tp) (l : List Lk), 1 ≤ b → b + n ≤ m + 2 → (gTopB cost n b T l).1.length ≤ l.length + n * m
 | 0, _, _, _, _, _ => by simp [gTopB]
 | n + 1, b, T, l, hb, hm => by
   have h1 := gTopB_len2 cost m n (b + 1) (gTopR cost b T l).2 (gTopR cost b T l).1 (by omega) (by omega)
   have h2 : (gTopR cost b T l).1.length ≤ l.length + (b - 1).toNat := gTopA_len2 _ _ _ _ _ _ _ _
   rw [gTopB]
   have h3 : (n + 1) * m = n * m + m := Nat.succ_mul _ _
   omega
theorem pw_adj {α : Type} {q : α → α → Bool} {r : α → α → Prop} (hr : ∀ x y, r x y → q x y = false) : ∀ {l : List α}, l.Pairwise r → adjB q l = false
 | [], _ => rfl
 | [x], _ => rfl
 | x :: y :: l, h => by
   rw [List.pairwise_cons] at h
   rw [adjB, hr x y (h.1 y (by simp)), pw_adj hr h.2]; rfl
theorem chkT_of {g : Topo} (h1 : g.rs.length ≤ 24) (h2 : g.ls.length ≤ 60) (h3 : ∀ x ∈ g.rs, 1 ≤ x.id ∧ x.id ≤ 99) (h4 : g.rs.Pairwise fun x y => x.id < y.id)
  (h5 : ∀ x ∈ g.ls, (1 ≤ x.ca ∧ x.ca ≤ 1000) ∧ (1 ≤ x.cb ∧ x.cb ≤ 1000) ∧ 0 ≤ x.cap ∧ x.cap ≤ 1000) (h6 : ∀ x ∈ g.ls, hasR g.rs x.a = true ∧ hasR g.rs x.b = true) (h7 : ∀ x ∈ g.ls, x.a < x.b) (h8 : g.ls.Pairwise lkLt) : chkT g = 0 := by
 have a1 : decide (24 < g.rs.length) = false := by simp; omega
 have a2 : decide (60 < g.ls.length) = false := by simp; omega
 have a3 : (g.rs.any fun x => !inB x.id 1 99) = false := by
  rw [List.any_eq_false]; intro x hx; have := h3 x hx; simp [inB]; omega
 have a4 : adjB (fun x y => decide (y.id ≤ x.id)) g.rs = false := pw_adj (r := fun x y => x.id < y.id) (fun x y h => by simpa using h) h4
 have a5 : g.ls.any Lk.bad = false := by
  rw [List.any_eq_false]; intro x hx; have := h5 x hx; simp [Lk.bad, inB]; omega
 have a6 : (g.ls.any fun x => !hasR g.rs x.a || !hasR g.rs x.b) = false := by
  rw [List.any_eq_false]; intro x hx; have := h6 x hx; simp [this.1, this.2]
 have a7 : (g.ls.any fun x => decide (x.b ≤ x.a)) = false := by
  rw [List.any_eq_false]; intro x hx; have := h7 x hx; simp; omega
 have a8 : adjB (fun x y => decide (y.a < x.a) || decide (x.a = y.a) && decide (y.b ≤ x.b)) g.ls = false := pw_adj (r := lkLt) (fun x y h => by
  unfold lkLt at h
  simp only [Bool.or_eq_false_iff, Bool.and_eq_false_iff, decide_eq_false_iff_not]; omega) h8
 simp only [chkT, firstE, a1, a2, a3, a4, a5, a6, a7, a8, cond_false]
theorem gRts_mem {k : Nat} {x : Rt} : x ∈ gRts k ↔ x.cap = true ∧ 1 ≤ x.id ∧ x.id ≤ k := by
 simp only [gRts, List.mem_map, List.mem_range]
 constructor
 ·rintro ⟨i, hi, rfl⟩; simp only; exact ⟨trivial, by omega, by omega⟩
 ·rintro ⟨h1, h2, h3⟩
  refine ⟨(x.id - 1).toNat, by omega, ?_⟩
  cases x; simp only at *; subst h1; congr 1; omega
theorem gRts_pw (k : Nat) : (gRts k).Pairwise fun x y => x.id < y.id := by
 unfold gRts
 rw [List.pairwise_map]
 exact List.pairwise_lt_range.imp fun h => by simp only; omega
structure TopV (most : Int) (g : Topo) : Prop where
 n : 1 ≤ g.rs.length ∧ (g.rs.length : Int) ≤ most
 ids : g.rs.map (·.id) = (gRts g.rs.length).map (·.id)
 ok : chkT g = 0
theorem gTop_rs' (T : Tp) (most : Int) : (gTop T most).1.rs = gRts (gRange T 1 most).1.toNat := rfl
theorem gTop_valid (T : Tp) {most : Int} (hm : 1 ≤ most ∧ most ≤ 8) : TopV most (gTop T most).1 := by
 have r1 := gRange_lo T 1 most
 have r2 := gRange_hi T (a := 1) (b := most) hm.1
 have e := gTop_rs' T most
 have hlen : (gTop T most).1.rs.length = (gRange T 1 most).1.toNat := by rw [e]; simp [gRts]
 refine ⟨by omega, by rw [hlen, e], ?_⟩
 unfold gTop
 simp only
 generalize gRange T 1 most = R at r1 r2
 have hc := gPick_all (T := R.2) (l := [1, 2, 2, 5]) (p := fun x => 1 ≤ x ∧ x ≤ 1000) (by simp) (by simp)
 generalize gPick R.2 [1, 2, 2, 5] = C at hc
 have hI := LkI.all_rows hc (R.1 + 1 - 2).toNat 2 C.2 [] ⟨by simp, List.Pairwise.nil⟩ (by omega)
 have hl := gTopB_len2 C.1 7 (R.1 + 1 - 2).toNat 2 C.2 [] (by omega) (by omega)
 generalize (gTopB C.1 (R.1 + 1 - 2).toNat 2 C.2 []).1 = L at hI hl
 obtain ⟨h1, h2⟩ := ordL_ok L [] hI.ne List.Pairwise.nil (by simp)
 have hall : ∀ x ∈ ordL L [], (1 ≤ x.a ∧ x.a < x.b ∧ x.b ≤ R.1) ∧ (1 ≤ x.ca ∧ x.ca ≤ 1000) ∧ (1 ≤ x.cb ∧ x.cb ≤ 1000) ∧ 0 ≤ x.cap ∧ x.cap ≤ 1000 := fun x hx => by
  have := hI.all x (by simpa using (h2 x).1 hx)
  omega
 have hol : ∀ (l out : List Lk), (ordL l out).length = l.length + out.length := fun l => by
  induction l with
  | nil => intro out; simp [ordL]
  | cons x l ih =>
    intro out
    have := lkPos_le x out
    rw [ordL, ih]; simp; omega
 refine chkT_of (by simp [gRts]; omega) ?_ (fun x hx => ?_) (gRts_pw _) (fun x hx => (hall x hx).2) (fun x hx => ?_) (fun x hx => (hall x hx).1.2.1) h1
 ·simp only [hol, List.length_nil] at hl ⊢
  have : (R.1 + 1 - 2).toNat ≤ 7 := by omega
  have := Nat.mul_le_mul_right 7 this
  omega
 ·have := gRts_mem.1 hx; omega
 ·have := (hall x hx).1
  constructor
  ·exact hasR_mem.2 (List.mem_map.2 ⟨⟨x.a, true⟩, gRts_mem.2 ⟨rfl, by simp only; omega⟩, rfl⟩)
  ·exact hasR_mem.2 (List.mem_map.2 ⟨⟨x.b, true⟩, gRts_mem.2 ⟨rfl, by simp only; omega⟩, rfl⟩)
set_option maxRecDepth 100000
set_option maxHeartbeats 16000000
open Go Go.Tr
def AllCap (g : Topo) : Prop := ∀ x ∈ g.rs, x.cap = true
theorem tabs_mem {g : Topo} {p : Pn} {b : Tb} (h : b ∈ tabs g p g.rs) : ∃ x ∈ g.rs, x.cap = true ∧ b = buildT g p x.id := by
 obtain ⟨z, hz, rfl⟩ := List.mem_map.1 h
 obtain ⟨h1, h2⟩ := List.mem_filter.1 hz
 exact ⟨z, h1, h2, rfl⟩
theorem tabs_len (g : Topo) (p : Pn) : (tabs g p g.rs).length ≤ g.rs.length := by
 simp only [tabs, List.length_map]
 exact List.length_filter_le _ _
structure PlanV (rs : List Rt) (p : Pn) : Prop where
 subd : 0 ≤ p.subd ∧ p.subd ≤ 7
 len : validLen p.len = true
 n : p.es.length ≤ 24
 rt : ∀ e ∈ p.es, 1 ≤ e.r ∧ e.r ≤ 99
 ids : ∀ e ∈ p.es, 1 ≤ e.id ∧ e.id ≤ 256
 asc : p.es.Pairwise fun a b => a.id < b.id
 nod : (p.es.map (·.r)).Nodup
theorem planB_of {rs : List Rt} {p : Pn} (h : PlanV rs p) : planB p = true := by
 have gi : ∀ i (hi : i < p.es.length), gid p.es i = p.es[i].id ∧ grt p.es i = p.es[i].r := fun i hi => by simp [gid, grt, List.getD, hi]
 refine planB_ok (by simp [baseB, inB, h.subd, h.len, h.n]) (fun i hi => ?_) (fun i j hj hi => ?_)
 ·have h1 := h.ids p.es[i] (List.getElem_mem hi)
  have h2 := h.rt p.es[i] (List.getElem_mem hi)
  have h3 := gi i hi
  by_cases h0 : i = 0
  ·simp [edB, inB, h3, h1, h2, h0]
   subst h0
   simp [h3, h1, h2]
  ·have h4 := gi (i - 1) (by omega)
   have h5 := List.pairwise_iff_getElem.1 h.asc (i - 1) i (by omega) hi (by omega)
   simp [edB, inB, h3, h1, h2, h0, h4, h5]
 ·rw [(gi i hi).2, (gi j (by omega)).2]
  have := List.pairwise_iff_getElem.1 h.nod j i (by simp; omega) (by simpa using hi) hj
  simp only [List.getElem_map] at this
  exact fun e => this e.symm
theorem gOrderL_nodup : ∀ (n i : Nat) (T : Tp) (l : List Int), l.Nodup → (∀ x ∈ l, x < (i : Int)) → (gOrderL n i T l).1.Nodup
 | 0, _, _, _, h, _ => h
 | n + 1, i, T, l, h, hb => by
   rw [gOrderL]
   generalize (gNext T (i + 1)).1.toNat = k
   have hs : (l.take k ++ l.drop k).Nodup := by rw [List.take_append_drop]; exact h
   have hi : (i : Int) ∉ l := fun hm => by have := hb _ hm; omega
   refine gOrderL_nodup n (i + 1) _ _ ?_ fun x hx => ?_
   ·rw [List.nodup_append] at hs ⊢
    obtain ⟨h1, h2, h3⟩ := hs
    refine ⟨?_, h2, fun a ha b hb' => ?_⟩
    ·rw [List.nodup_append]
     refine ⟨h1, by simp, fun a ha b hb' => ?_⟩
     simp at hb'; subst hb'
     intro e; subst e
     exact hi (List.mem_of_mem_take ha)
    ·rcases List.mem_append.1 ha with ha | ha
     ·exact h3 a ha b hb'
     ·simp at ha; subst ha
      intro e; subst e
      exact hi (List.mem_of_mem_drop hb')
   ·simp only [List.mem_append, List.mem_singleton] at hx
    rcases hx with (hx | hx) | hx
    ·have := hb x (List.mem_of_mem_take hx); omega
    ·omega
    ·have := hb x (List.mem_of_mem_drop hx); omega
theorem gRts_get (k : Nat) {i : Nat} (h : i < k) (d : Rt) : ((gRts k).getD i d).id = (i : Int) + 1 := by
 simp [gRts, List.getD, h]
structure PlI (k : Nat) (o : List Int) (id : Int) (l : List Ed) : Prop where
 pos : 0 ≤ id
 rt : ∀ e ∈ l, 1 ≤ e.r ∧ e.r ≤ k ∧ e.r - 1 ∉ o
 ids : ∀ e ∈ l, 1 ≤ e.id ∧ e.id ≤ 256 ∧ e.id ≤ id
 asc : l.Pairwise fun a b => a.id < b.id
 nod : (l.map (·.r)).Nodup
theorem plI_loop (k : Nat) (len : Int) (hl : 8 ≤ len) : ∀ (o : List Int) (T : Tp) (id : Int) (l : List Ed), o.Nodup → (∀ x ∈ o, 0 ≤ x ∧ x < (k : Int)) → PlI k o id l →
  PlI k [] (gPlanL (gRts k) len o T id l).2.1 (gPlanL (gRts k) len o T id l).1
 | [], T, id, l, _, _, h => h
 | x :: o, T, id, l, hn, hb, h => by
   rw [List.nodup_cons] at hn
   rw [gPlanL]
   have hbx := hb x (by simp)
   refine plI_loop k len hl o _ _ _ hn.2 (fun y hy => hb y (by simp [hy])) ?_
   unfold gPlanS
   simp only
   have h0 : PlI k o id l := ⟨h.pos, fun e he => by have := h.rt e he; simp at this; exact ⟨this.1, this.2.1, this.2.2.2⟩, h.ids, h.asc, h.nod⟩
   split
   ·exact h0
   ·have bp : 1 ≤ (gPick (gNext T 4).2 [1, 1, 1, 2, len - 1]).1 := gPick_all (p := fun x => 1 ≤ x) (by simp) (by simp; omega)
    simp only
    generalize gPick (gNext T 4).2 [1, 1, 1, 2, len - 1] = p at bp ⊢
    split
    ·rename_i hid
     have hr : ((gRts k).getD x.toNat ⟨0, false⟩).id = x + 1 := by rw [gRts_get k (by omega)]; omega
     rw [hr]
     refine ⟨by have := h.pos; first | omega | (simp only; omega), fun e he => ?_, fun e he => ?_, ?_, ?_⟩
     ·simp only [List.mem_append, List.mem_singleton] at he
      rcases he with he | rfl
      ·exact h0.rt e he
      ·refine ⟨by first | omega | (simp only; omega), by first | omega | (simp only; omega), ?_⟩
       rw [show (x + 1 - 1 : Int) = x by omega]
       exact hn.1
     ·simp only [List.mem_append, List.mem_singleton] at he
      rcases he with he | rfl
      ·have := h.ids e he; first | omega | (simp only; omega)
      ·have := h.pos; first | omega | (simp only; omega)
     ·rw [List.pairwise_append]
      refine ⟨h.asc, by simp, fun a ha b hb' => ?_⟩
      simp at hb'; subst hb'
      have := h.ids a ha
      first | omega | (simp only; omega)
     ·rw [List.map_append, List.nodup_append]
      refine ⟨h.nod, by simp, fun a ha b hb' => ?_⟩
      simp at hb'; subst hb'
      obtain ⟨e, he, rfl⟩ := List.mem_map.1 ha
      have := (h.rt e he).2.2
      intro e1
      apply this
      rw [e1]
      simp
    ·exact ⟨by have := h.pos; first | omega | (simp only; omega), h0.rt, fun e he => by have := h.ids e he; first | omega | (simp only; omega), h.asc, h.nod⟩
theorem gPlan0_valid (T : Tp) {k : Nat} (hk : k ≤ 24) : PlanV (gRts k) (gPlan0 T (gRts k)).1 := by
 have hl : ((8 : Int) ≤ (gPick (gNext T 3).2 [8, 8, 16, 32, 64]).1) ∧ validLen (gPick (gNext T 3).2 [8, 8, 16, 32, 64]).1 = true := gPick_all (p := fun x => (8 : Int) ≤ x ∧ validLen x = true) (by simp) (by simp; decide)
 have h1 := gNext_nonneg T 3
 have h2 := gNext_lt T (n := 3) (by omega)
 have hln := gPlan0_len T (gRts k)
 rw [gRts_len] at hln
 have hord := gOrder_mem (gPick (gNext T 3).2 [8, 8, 16, 32, 64]).2 k
 have hnd : (gOrder (gPick (gNext T 3).2 [8, 8, 16, 32, 64]).2 k).1.Nodup := gOrderL_nodup _ _ _ _ (by simp) (by simp)
 have hI := plI_loop k _ hl.1 _ (gOrder (gPick (gNext T 3).2 [8, 8, 16, 32, 64]).2 k).2 0 [] hnd hord ⟨by omega, by simp, by simp, by simp, by simp⟩
 refine ⟨by simp only [gPlan0]; omega, hl.2, by omega, fun e he => ?_, fun e he => ?_, ?_, ?_⟩
 ·have he' : e ∈ (gPlanL (gRts k) (gPick (gNext T 3).2 [8, 8, 16, 32, 64]).1 (gOrder (gPick (gNext T 3).2 [8, 8, 16, 32, 64]).2 k).1 (gOrder (gPick (gNext T 3).2 [8, 8, 16, 32, 64]).2 k).2 0 []).1 := by simpa [gPlan0] using he
  have := hI.rt e he'
  omega
 ·have he' : e ∈ (gPlanL (gRts k) (gPick (gNext T 3).2 [8, 8, 16, 32, 64]).1 (gOrder (gPick (gNext T 3).2 [8, 8, 16, 32, 64]).2 k).1 (gOrder (gPick (gNext T 3).2 [8, 8, 16, 32, 64]).2 k).2 0 []).1 := by simpa [gPlan0] using he
  have := hI.ids e he'
  omega
 ·simpa [gPlan0] using hI.asc
 ·simpa [gPlan0] using hI.nod
theorem gPlan_zero_eq (T : Tp) (rs : List Rt) : gPlan T rs 0 = ((gPlan0 T rs).1, (gPlan0 T rs).2.2) := by
 simp [gPlan]
structure DomV (most : Int) (g : Topo) (p : Pn) (l : List Tb) : Prop where
 top : TopV most g
 plan : planB p = true
 len : validLen p.len = true
 subd : 0 ≤ p.subd ∧ p.subd ≤ 7
 tab : l = tabs g p g.rs
theorem gPlanS_ids {rs rs' : List Rt} (h : rs.map (·.id) = rs'.map (·.id)) (len x : Int) (T : Tp) (id : Int) (l : List Ed) : gPlanS rs len x T id l = gPlanS rs' len x T id l := by
 have e : ∀ i : Nat, (rs.getD i ⟨0, false⟩).id = (rs'.getD i ⟨0, false⟩).id := fun i => by
  have := congrArg (fun l => l[i]?) h
  simp only [List.getElem?_map] at this
  rw [List.getD_eq_getElem?_getD, List.getD_eq_getElem?_getD]
  cases h1 : rs[i]? with
  | none =>
    rw [h1] at this
    cases h2 : rs'[i]? with
    | none => rfl
    | some y => rw [h2] at this; simp at this
  | some x =>
    rw [h1] at this
    cases h2 : rs'[i]? with
    | none => rw [h2] at this; simp at this
    | some y => rw [h2] at this; simpa using this
 unfold gPlanS
 simp only [e]
theorem gPlanL_ids {rs rs' : List Rt} (h : rs.map (·.id) = rs'.map (·.id)) (len : Int) : ∀ (o : List Int) (T : Tp) (id : Int) (l : List Ed), gPlanL rs len o T id l = gPlanL rs' len o T id l
 | [], _, _, _ => rfl
 | x :: o, T, id, l => by
   rw [gPlanL, gPlanL, gPlanS_ids h, gPlanL_ids h]
theorem gPlan0_ids {rs rs' : List Rt} (h : rs.map (·.id) = rs'.map (·.id)) (T : Tp) : gPlan0 T rs = gPlan0 T rs' := by
 have hl : rs.length = rs'.length := by have := congrArg List.length h; simpa using this
 unfold gPlan0
 simp only [hl, gPlanL_ids h]
theorem plan_valid {most : Int} {g : Topo} (h : TopV most g) (hm : most ≤ 24) (T : Tp) : PlanV (gRts g.rs.length) (gPlan T g.rs 0).1 := by
 rw [gPlan_zero_eq]
 show PlanV _ (gPlan0 T g.rs).1
 rw [gPlan0_ids h.ids]
 exact gPlan0_valid T (by have := h.n; omega)
theorem all11_eq {g : Topo} (hg : chkT g = 0) {p : Pn} (hp : planB p = true) : all11 g p = (tabs g p g.rs, 0) := by
 unfold all11
 rw [if_pos ⟨hg, hp⟩]
theorem gDom_valid (T : Tp) {most : Int} (hm : 1 ≤ most ∧ most ≤ 8) : DomV most (gDom T most).1 (gDom T most).2.1 (gDom T most).2.2.1 ∧ AllCap (gDom T most).1 := by
 have h := gTop_valid T hm
 have hp := plan_valid h (by omega) (gTop T most).2
 refine ⟨⟨h, planB_of hp, hp.len, hp.subd, ?_⟩, fun x hx => ?_⟩
 ·show (all11 _ _).1 = _
  rw [all11_eq h.ok (planB_of hp)]; rfl
 ·have hx : x ∈ gRts (gRange T 1 most).1.toNat := hx
  exact (gRts_mem.1 hx).1
theorem tabs_sd {g : Topo} {p : Pn} : ∀ b ∈ tabs g p g.rs, b.sd = p.subd ∧ b.len = p.len := fun b hb => by
 obtain ⟨x, _, _, rfl⟩ := tabs_mem hb
 exact ⟨rfl, rfl⟩
theorem tabs_chk {g : Topo} (hg : chkT g = 0) {p : Pn} (hp : planB p = true) : ∀ b ∈ tabs g p g.rs, chk b = 0 := fun b hb => by
 obtain ⟨x, hx, _, rfl⟩ := tabs_mem hb
 exact buildT_ok hg hp (hasR_mem.2 (List.mem_map_of_mem hx))
theorem tabs_asc {g : Topo} (hg : g.Ok) (p : Pn) : (tabs g p g.rs).Pairwise fun x y => x.r < y.r := by
 unfold tabs
 rw [List.pairwise_map]
 exact (hg.rpw.sublist List.filter_sublist).imp fun h => h
theorem chkA_of {l : List Tb} (h1 : l.length ≤ 24) (h2 : ∀ b ∈ l, chk b = 0) (h3 : l.Pairwise fun x y => x.r < y.r) (h4 : ∀ b ∈ l, ∀ c ∈ l, b.sd = c.sd ∧ b.len = c.len) : chkA l = 0 := by
 have a1 : decide (24 < l.length) = false := by simp; omega
 have a2 : (l.any fun b => decide (chk b ≠ 0)) = false := by
  rw [List.any_eq_false]; intro b hb; simp [h2 b hb]
 have a3 : adjB (fun x y : Tb => decide (y.r ≤ x.r)) l = false := pw_adj (r := fun x y => x.r < y.r) (fun x y h => by simpa using h) h3
 have a4 : (l.any fun b => decide (b.sd ≠ (l.headD tb0).sd) || decide (b.len ≠ (l.headD tb0).len)) = false := by
  rw [List.any_eq_false]
  intro b hb
  have : l.headD tb0 ∈ l := by
   cases l with
   | nil => simp at hb
   | cons a l => simp
  have := h4 b hb _ this
  simp [this.1, this.2]
 simp only [chkA, firstE, a1, a2, a3, a4, cond_false]
theorem tabs_all {g : Topo} (hg : chkT g = 0) {p : Pn} (hp : planB p = true) : chkA (tabs g p g.rs) = 0 :=
 chkA_of (Nat.le_trans (tabs_len g p) (chkT_zero hg).nr) (tabs_chk hg hp) (tabs_asc (chkT_zero hg) p) fun b hb c hc => by
  have h1 := tabs_sd b hb
  have h2 := tabs_sd c hc
  exact ⟨h1.1.trans h2.1.symm, h1.2.trans h2.2.symm⟩
theorem router0_c (T : Tp) (hT : TapeOK T) (rs : List Rt) (ls : List Lk) (hr : 1 ≤ rs.length ∧ rs.length ≤ 1000) : Contract Tryz.prog 15 [.ptr (.x 0) 0, .agg [.d (.sl (rts rs)), .d (.sl (lks ls))], .d (.int .i64 0)] [tapeI T] (.d (.int .i64 (rs.getD (gNext T rs.length).1.toNat ⟨0, false⟩).id)) [tapeI (gNext T rs.length).2] [] := by
 have hr0 : ¬ rs.length = 0 := by omega
 have hrn : ¬ rs = [] := fun h => by simp [h] at hr0
 refine contract_of Tryz.func15 rfl (fun E0 => ?_)
 refine awp.sound (g := .mk) (ow := []) (kp := (fun k => k==0||k==1||k==2||k==4||k==6||k==19)) ?_
 rw [Tryz.ntmps15]
 simp -dsimp [hrn]
 try refine ⟨?_, ⟨by kernel_rfl⟩⟩
 refine ACall.of (next_c T hT rs.length ⟨by omega, by omega⟩) [.x 0] 0 ?_
 have m1 := gNext_nonneg T rs.length
 have m2 := gNext_lt T (n := rs.length) (by omega)
 generalize gNext T rs.length = q at m1 m2 ⊢
 obtain ⟨k, hk⟩ : ∃ k : Nat, q.1 = k := ⟨q.1.toNat, by omega⟩
 have hkl : k < rs.length := by omega
 have hx : rs[k]? = some rs[k] := List.getElem?_eq_getElem hkl
 generalize rs[k] = x at hx
 have hx' := rts_get hx
 rw [hk]
 simp -dsimp [hx', Rt.cs]
 and_intros
 all_goals try first | rfl | omega | exact ⟨by kernel_rfl⟩
 refine Fin.of ?_
 simp [hx]
end Go.Proofs

set_option maxRecDepth 100000
set_option maxHeartbeats 16000000
namespace Go.Proofs
open Go Go.Tr
def aw11G : Topo := ⟨[⟨1, true⟩, ⟨2, false⟩, ⟨3, true⟩], [⟨1, 2, 1, 1, 0⟩, ⟨2, 3, 1, 1, 0⟩]⟩
def aw11P : Pn := ⟨0, 8, [⟨3, 1⟩]⟩
theorem aw11P_ok : planB aw11P = true := by
 simp only [planB, decide_eq_true_eq]
 refine ⟨by decide, fun i hi => ?_, fun i j h1 h2 => ?_⟩
 ·obtain rfl : i = 0 := by simp [aw11P] at hi; omega
  decide
 ·simp [aw11P] at h2; omega
theorem aw11R : bldR aw11G aw11P 1 = (⟨1, 0, 8, [⟨1, [3]⟩]⟩, 0) := by
 unfold bldR
 rw [if_pos ⟨by decide +kernel, aw11P_ok⟩, if_pos (by decide +kernel), if_pos (by decide +kernel)]
 have h : hops aw11G 1 3 = [3] := by decide +kernel
 have h0 : chkT aw11G = 0 := by decide +kernel
 have hc : capR aw11G.rs 3 = true := by decide +kernel
 simp [buildT, bRow, aw11P, h, h0, hc]
theorem awake11_c : Contract Tryz.prog 19 [] [] (.d (.bool true)) [] [] := by
 have k1 := tbuildT_c aw11G ⟨by simp [aw11G], by simp [aw11G]⟩ aw11P (by simp [aw11P]) 1
 rw [aw11R] at k1
 have k2 := ints04_c [3] [3] (by simp)
 have k3 := tcheck_c ⟨1, 0, 8, [⟨1, [3]⟩]⟩ (by simp) (by simp)
 have e3 : chk ⟨1, 0, 8, [⟨1, [3]⟩]⟩ = 0 := by decide +kernel
 rw [e3] at k3
 simp only [topT, planT, aw11G, aw11P, rts, lks, eds, List.map, Rt.cs, Lk.cs, Ed.cs, bldT, tblT, rwsD, Rw.cs, ints] at k1 k2 k3
 refine contract_of Tryz.func19 rfl (fun E0 => ?_)
 refine awp.sound (g := .mk) (ow := []) (kp := (fun k => k==0||k==1||k==2||k==3)) ?_
 rw [Tryz.ntmps19]
 simp -dsimp
 and_intros
 all_goals try first | omega | exact ⟨by kernel_rfl⟩ | rfl
 refine ACall.of k1 [] 0 ?_
 simp -dsimp
 and_intros
 all_goals try first | omega | exact ⟨by kernel_rfl⟩ | rfl
 refine ACall.of k2 [] 0 ?_
 simp -dsimp
 and_intros
 all_goals try first | omega | exact ⟨by kernel_rfl⟩ | rfl
 refine ACall.of k3 [] 0 ?_
 simp -dsimp
 and_intros
 all_goals try first | rfl | omega | exact ⟨by kernel_rfl⟩
 refine Fin.of ?_
 simp
theorem tape_new (L : List Int) (h : ∀ x ∈ L, I64 x) : TapeOK (L.take 600, 0) := ⟨by simp; omega, fun x hx => h x (List.mem_of_mem_take hx)⟩
theorem all11O_c (g : Topo) (hg : g.Sm) (hc : chkT g = 0) (p : Pn) (a1 : planB p = true) (hp : p.es.length ≤ 1000) : Contract Tryz.prog 29 [topT g, planT p] [] (.tup [.oref 6 (tabs g p g.rs).length, .d (.int .i64 0)]) [] [(6, .row 39 4 (dd (tbs (tabs g p g.rs))) false)] := by
 have hr := hg.r
 refine contract_of Tryz.func29 rfl (fun E0 => ?_)
 refine awp.sound (g := .mk) (ow := []) (kp := (fun k => k==0||k==1||k==2||k==3||k==4||k==5||k==6||k==7||k==15||k==20||k==28)) ?_
 rw [Tryz.ntmps29]
 simp -dsimp [topT, planT]
 refine ACall.of (check05_c g hg.r hg.l) [] 0 ?_
 simp -dsimp [eq_true hc, topT]
 refine ACall.of (validPlan10_c p hp) [] 0 ?_
 have hn : g.rs.length ≤ 24 := (chkT_zero hc).nr
 simp -dsimp [eq_true hc, a1, planT]
 and_intros
 all_goals try first | rfl | omega | exact ⟨by kernel_rfl⟩
 refine ALoop.of [] (fun k => k==0||k==1||k==2||k==3||k==4||k==5||k==6||k==7||k==15||k==20||k==28) (ι := { i : Nat // i ≤ g.rs.length ∧ True }) (fun z => [(Pl.s 0, It.v (.agg [TV.d (.sl (rts g.rs)), TV.d (.sl (lks g.ls))])), (Pl.s 1, It.v (.agg [TV.d (.int .i64 p.subd), TV.d (.int .i64 p.len), TV.d (.sl (eds p.es))])), (Pl.o 2, It.box [TV.d (.sl (rts g.rs)), TV.d (.sl (lks g.ls))]), (Pl.s 2, It.v (.ptr (Pl.o 2) 0)), (Pl.o 3, It.box [TV.d (.int .i64 p.subd), TV.d (.int .i64 p.len), TV.d (.sl (eds p.es))]), (Pl.s 3, It.v (.ptr (Pl.o 3) 0)), (Pl.s 4, It.v (.c (Value.slice none 0 0))), (Pl.s 5, It.v (.d (.int .i64 0))), (Pl.s 6, It.v (.oref 6 (tabD g p (g.rs.take z.1)).length)), (Pl.o 6, It.row 39 4 (dd (tabD g p (g.rs.take z.1))) false), (Pl.s 7, It.v (.d (.int .i64 z.1)))]) (fun z => g.rs.length - z.1) ⟨0, by omega, trivial⟩ ?_ ?_
 ·exact GS.own' (k := 6) 39 4 (by simp) (by simp) (by simp [tabD, tabs])
 rintro ⟨i, i1, i2⟩
 by_cases hi : i < g.rs.length
 ·have hiz : (i : Int) < g.rs.length := by omega
  have hx : g.rs[i]? = some g.rs[i] := List.getElem?_eq_getElem hi
  have ht : g.rs.take (i + 1) = g.rs.take i ++ [g.rs[i]] := by rw [List.take_add_one, List.getElem?_eq_getElem hi]; rfl
  generalize g.rs[i] = x at hx ht
  have hx' := rts_get hx
  have hta := tabD_app g p (g.rs.take i) x
  have htl := tabD_len g p (g.rs.take i)
  rw [← ht] at hta
  simp at htl
  rcases (Bool.eq_false_or_eq_true x.cap).symm with c1 | c1
  ·rw [if_neg (by simp [c1])] at hta
   simp -dsimp [hiz, hx', Rt.cs, c1, wrap_i64 (n := (i : Int) + 1) (by omega) (by omega)]
   and_intros
   all_goals try first | rfl | omega | exact ⟨by kernel_rfl⟩
   exact ⟨⟨i + 1, by omega, trivial⟩, GS.to (by simp [hta]), by simp; omega⟩
  ·rw [if_pos c1] at hta
   simp -dsimp [hiz, hx', Rt.cs, c1]
   refine ACall.of (build11_c g hg p (by omega) x.id) [] 0 ?_
   simp -dsimp [hiz, hx', Rt.cs, c1, topT, planT, tblT, rwsD, wrap_i64 (n := (i : Int) + 1) (by omega) (by omega)]
   and_intros
   all_goals try first | rfl | omega | exact ⟨by kernel_rfl⟩
   exact ⟨⟨i + 1, by omega, trivial⟩, GS.to (by simp [hta, Tb.cs, rwsD]), by simp; omega⟩
 ·have hiz : ¬ (i : Int) < g.rs.length := by omega
  obtain rfl : i = g.rs.length := by omega
  simp -dsimp [hiz]
  refine Fin.of ?_
  simp [tabD, tbs]
theorem domainO_c (T : Tp) (hT : TapeOK T) (most : Int) (hm : 1 ≤ most ∧ most ≤ 8) : Contract Tryz.prog 32 [.ptr (.x 0) 0, .d (.int .i64 most)] [tapeI T] (.tup [topT (gDom T most).1, planT (gDom T most).2.1, .oref 6 (gDom T most).2.2.1.length]) [tapeI (gDom T most).2.2.2] [(6, .row 39 4 (dd (tbs (gDom T most).2.2.1)) false)] := by
 refine contract_of Tryz.func32 rfl (fun E0 => ?_)
 refine awp.sound (g := .mk) (ow := []) (kp := (fun k => k==0||k==1||k==4||k==5||k==6||k==7||k==8||k==9)) ?_
 rw [Tryz.ntmps32]
 simp -dsimp
 refine ACall.of (topo_c T hT most ⟨hm.1, by omega⟩) [.x 0] 0 ?_
 have kG : TapeOK (gTop T most).2 := by simpa using hT
 have hsm := gTop_small T (most := most) ⟨hm.1, by omega⟩
 have hD := (gDom_valid T hm).1
 have hok := hD.top.ok
 have hpl := hD.plan
 have htab := hD.tab
 rw [htab]
 clear hD htab
 unfold gDom at hok hpl ⊢
 simp only at hok hpl ⊢
 generalize gTop T most = G at kG hsm hok hpl ⊢
 simp -dsimp [topT]
 refine ACall.of (plan_c G.2 kG G.1.rs G.1.ls (by omega) 0 (by omega)) [.x 0] 0 ?_
 obtain ⟨kP, lP⟩ := gPlan_zero G.2 G.1.rs
 have kG : TapeOK (gPlan G.2 G.1.rs 0).2 := kP.symm ▸ kG
 clear kP
 generalize gPlan G.2 G.1.rs 0 = p at kG lP hpl ⊢
 simp -dsimp [topT, planT]
 refine ACall.of (all11O_c G.1 ⟨by omega, by omega⟩ hok p.1 hpl (by omega)) [] 0 ?_
 generalize tabs G.1 p.1 G.1.rs = l
 simp -dsimp [topT, planT]
 and_intros
 all_goals try first | rfl | omega | exact ⟨by kernel_rfl⟩
 refine Fin.of ?_
 simp [topT, planT]
theorem has_int {ds : List D} (h : (Ty.int .i64).has ds) : ∃ n, ds = [.int .i64 n] := by
 simp only [Ty.has] at h
 obtain ⟨n, rfl, _⟩ := h
 exact ⟨n, rfl⟩
theorem map_of {α : Type} (g : α → List D) (P : α → Prop) : ∀ {xs : List (List D)}, (∀ x ∈ xs, ∃ a, x = g a ∧ P a) → ∃ l : List α, xs = l.map g ∧ ∀ a ∈ l, P a
 | [], _ => ⟨[], rfl, by simp⟩
 | x :: xs, h => by
   obtain ⟨a, rfl, ha⟩ := h x (by simp)
   obtain ⟨l, e, hl⟩ := map_of g P (xs := xs) fun y hy => h y (List.mem_cons_of_mem _ hy)
   subst e
   exact ⟨a :: l, rfl, fun b hb => (List.mem_cons.1 hb).elim (fun e => e ▸ ha) (hl b)⟩
theorem has_rw {ds : List D} (h : (Ty.st [.int .i64, .sl (.int .i64)]).has ds) : ∃ x : Rw, ds = x.cs ∧ x.nx.length ≤ maxLen := by
 simp only [Ty.has, Ty.hass] at h
 obtain ⟨_, _, rfl, ⟨m, rfl, _⟩, d2, _, rfl, h2, rfl⟩ := h
 have h3 : (Ty.sl (.int .i64)).has d2 := by
  simp only [Ty.has]
  exact h2
 obtain ⟨l, hl, h4, _⟩ := has_ints h3
 subst hl
 exact ⟨⟨m, l⟩, by simp [Rw.cs, ints], h4⟩
def tyT : Ty := .st [.int .i64, .int .i64, .int .i64, .sl (.st [.int .i64, .sl (.int .i64)])]
theorem has_tbl {ds : List D} (h : tyT.has ds) : ∃ b : Tb, ds = b.cs ∧ b.rows.length ≤ maxLen ∧ ∀ x ∈ b.rows, x.nx.length ≤ maxLen := by
 simp only [tyT, Ty.has.eq_5, Ty.hass, Ty.has.eq_1, Ty.has.eq_4] at h
 obtain ⟨_, _, rfl, ⟨r, rfl, _⟩, _, _, rfl, ⟨sd, rfl, _⟩, _, _, rfl, ⟨len, rfl, _⟩, _, _, rfl, ⟨xs, rfl, h1, h2⟩, rfl⟩ := h
 obtain ⟨l, rfl, h3⟩ := map_of Rw.cs (fun x => x.nx.length ≤ maxLen) fun x hx => has_rw (by
  simp only [Ty.has.eq_5, Ty.hass, Ty.has.eq_1, Ty.has.eq_4]
  exact h2 x hx)
 exact ⟨⟨r, sd, len, l⟩, by simp [Tb.cs, rwsD], by simpa using h1, h3⟩
theorem has_tbls {ds : List D} (h : (Ty.sl tyT).has ds) : ∃ l : List Tb, ds = [.sl (tbs l)] ∧ l.length ≤ maxLen ∧ ∀ b ∈ l, b.rows.length ≤ maxLen ∧ ∀ x ∈ b.rows, x.nx.length ≤ maxLen := by
 simp only [Ty.has.eq_4] at h
 obtain ⟨xs, rfl, h1, h2⟩ := h
 obtain ⟨l, rfl, hl⟩ := map_of Tb.cs (fun b => b.rows.length ≤ maxLen ∧ ∀ x ∈ b.rows, x.nx.length ≤ maxLen) fun x hx => has_tbl (h2 x hx)
 exact ⟨l, rfl, by simpa using h1, hl⟩
end Go.Proofs

/-
  What functions of the program compute, stated as contracts over plain data; the conditions of each stand in its own statement.
-/
import Derived.Test.YtffjbciladpdlaaGreatZN26
set_option linter.unusedSimpArgs false
set_option maxRecDepth 100000
set_option maxHeartbeats 2000000
namespace Go.Proofs
open Go Go.Tr
def gRouter (T : Tp) (rs : List Rt) (n : Int) : Int × Tp :=
 let o := gOne T n
 if o.1 = true then gPick o.2 [0, 1, 2, 7, 77, -1] else ((rs.getD (gNext o.2 rs.length).1.toNat ⟨0, false⟩).id, (gNext o.2 rs.length).2)
theorem router_c (T : Tp) (hT : TapeOK T) (rs : List Rt) (ls : List Lk) (hr : 1 ≤ rs.length ∧ rs.length ≤ 1000) (n : Int) (hn : 1 ≤ n ∧ n ≤ 1000) : Contract Tryz.prog 15 [.ptr (.x 0) 0, .agg [.d (.sl (rts rs)), .d (.sl (lks ls))], .d (.int .i64 n)] [tapeI T] (.d (.int .i64 (gRouter T rs n).1)) [tapeI (gRouter T rs n).2] [] := by
 have hn0 : 0 < n := by omega
 have hr0 : ¬ rs.length = 0 := by omega
 have hrn : ¬ rs = [] := fun h => by simp [h] at hr0
 refine contract_of Tryz.func15 rfl (fun E0 => ?_)
 refine awp.sound (g := .mk) (ow := []) (kp := (fun k => k==0||k==1||k==2||k==4||k==6||k==19)) ?_
 rw [Tryz.ntmps15]
 simp -dsimp [hn0]
 refine ACall.of (one_c T hT n ⟨by omega, by omega⟩ ⟨by omega, by omega⟩) [.x 0] 0 ?_
 have kO : TapeOK (gOne T n).2 := by simpa using hT
 unfold gRouter
 generalize gOne T n = o at kO ⊢
 rcases (Bool.eq_false_or_eq_true o.1).symm with ho | ho
 ·simp only [ho]
  simp -dsimp [hn0, ho, hrn]
  refine ACall.of (next_c o.2 kO rs.length ⟨by omega, by omega⟩) [.x 0] 0 ?_
  have m1 := gNext_nonneg o.2 rs.length
  have m2 := gNext_lt o.2 (n := rs.length) (by omega)
  generalize gNext o.2 rs.length = q at m1 m2 ⊢
  obtain ⟨k, hk⟩ : ∃ k : Nat, q.1 = k := ⟨q.1.toNat, by omega⟩
  have hkl : k < rs.length := by omega
  have hx : rs[k]? = some rs[k] := List.getElem?_eq_getElem hkl
  generalize rs[k] = x at hx
  have hx' := rts_get hx
  rw [hk]
  simp -dsimp [hx', Rt.cs]
  and_intros
  all_goals try first | rfl | omega | exact ⟨by kernel_rfl⟩
  refine Fin.of ?_
  simp [hx, ho]
 ·simp only [ho]
  simp -dsimp [hn0, ho, hrn]
  refine ACall.of (pick_c o.2 kO [0, 1, 2, 7, 77, -1] (by simp) (by simp)) [.x 0] 0 ?_
  simp -dsimp [ints]
  refine Fin.of ?_
  simp [ho]
noncomputable def gDom (T : Tp) (most : Int) : Topo × Pn × List Tb × Tp :=
 let g := gTop T most
 let p := gPlan g.2 g.1.rs 0
 (g.1, p.1, (all11 g.1 p.1).1, p.2)
end Go.Proofs

namespace Go.Proofs
def lkLt (x y : Lk) : Prop := x.a < y.a ∨ (x.a = y.a ∧ x.b < y.b)
theorem lkLt_trans {x y z : Lk} (h1 : lkLt x y) (h2 : lkLt y z) : lkLt x z := by
 unfold lkLt at *; omega
theorem adj_pw {α : Type} {q : α → α → Bool} {r : α → α → Prop} (hr : ∀ x y, q x y = false → r x y) (ht : ∀ x y z, r x y → r y z → r x z) : ∀ {l : List α}, adjB q l = false → l.Pairwise r
 | [], _ => List.Pairwise.nil
 | [x], _ => by simp
 | x :: y :: l, h => by
   simp only [adjB, Bool.or_eq_false_iff] at h
   have ih := adj_pw hr ht (l := y :: l) h.2
   refine List.Pairwise.cons (fun z hz => ?_) ih
   rcases List.mem_cons.1 hz with rfl | hz
   ·exact hr _ _ h.1
   ·exact ht _ _ _ (hr _ _ h.1) ((List.pairwise_cons.1 ih).1 z hz)
theorem Topo.Ok.lpw {g : Topo} (h : g.Ok) : g.ls.Pairwise lkLt :=
 adj_pw (r := lkLt) (fun x y h => by simp only [Bool.or_eq_false_iff, decide_eq_false_iff_not, Bool.and_eq_false_iff] at h; unfold lkLt; omega) (fun _ _ _ => lkLt_trans) h.lord
theorem Topo.Ok.rpw {g : Topo} (h : g.Ok) : g.rs.Pairwise (fun x y => x.id < y.id) :=
 adj_pw (r := fun x y => x.id < y.id) (fun x y h => by simpa using h) (fun _ _ _ => Int.lt_trans) h.ord
theorem Topo.Ok.lab {g : Topo} (h : g.Ok) {x : Lk} (hx : x ∈ g.ls) : x.a < x.b := by
 have := List.any_eq_false.1 h.ab x hx
 simpa using this
theorem Topo.Ok.ends' {g : Topo} (h : g.Ok) {x : Lk} (hx : x ∈ g.ls) : hasR g.rs x.a = true ∧ hasR g.rs x.b = true := by
 have := List.any_eq_false.1 h.ends x hx
 simpa using this
theorem price_mem : ∀ {l : List Lk} {f t c : Int}, price l f t = some c → ∃ x ∈ l, (x.a = f ∧ x.b = t ∧ x.ca = c) ∨ (x.b = f ∧ x.a = t ∧ x.cb = c)
 | [], _, _, _, h => by simp [price] at h
 | x :: l, f, t, c, h => by
   rw [price] at h
   split at h
   ·rename_i hx; exact ⟨x, by simp, .inl ⟨hx.1, hx.2, by simpa using h⟩⟩
   ·split at h
    ·rename_i hx; exact ⟨x, by simp, .inr ⟨hx.1, hx.2, by simpa using h⟩⟩
    ·obtain ⟨y, hy, h2⟩ := price_mem h
     exact ⟨y, by simp [hy], h2⟩
theorem price_of : ∀ {l : List Lk}, l.Pairwise lkLt → (∀ x ∈ l, x.a < x.b) → ∀ {x : Lk}, x ∈ l → price l x.a x.b = some x.ca ∧ price l x.b x.a = some x.cb
 | [], _, _, x, hx => by simp at hx
 | y :: l, hp, hab, x, hx => by
   have hy := hab y (by simp)
   rcases List.mem_cons.1 hx with rfl | hx'
   ·refine ⟨by rw [price, if_pos ⟨rfl, rfl⟩], ?_⟩
    rw [price, if_neg (by omega), if_pos ⟨rfl, rfl⟩]
   ·have hlt := (List.pairwise_cons.1 hp).1 x hx'
    have hx2 := hab x hx
    have ih := price_of (List.pairwise_cons.1 hp).2 (fun z hz => hab z (by simp [hz])) hx'
    unfold lkLt at hlt
    refine ⟨?_, ?_⟩
    ·rw [price, if_neg (by omega), if_neg (by omega)]; exact ih.1
    ·rw [price, if_neg (by omega), if_neg (by omega)]; exact ih.2
theorem price_has {g : Topo} (hg : g.Ok) {f t c : Int} (h : price g.ls f t = some c) : hasR g.rs f = true ∧ hasR g.rs t = true := by
 obtain ⟨x, hx, h1⟩ := price_mem h
 have h2 := hg.ends' hx
 rcases h1 with ⟨rfl, rfl, _⟩ | ⟨rfl, rfl, _⟩
 ·exact h2
 ·exact ⟨h2.2, h2.1⟩
theorem price_le {g : Topo} (hg : g.Ok) {f t c : Int} (h : price g.ls f t = some c) : 1 ≤ c ∧ c ≤ 1000 := by
 obtain ⟨x, hx, h1⟩ := price_mem h
 have h2 := hg.c hx
 omega
theorem price_sym {g : Topo} (hg : g.Ok) {f t c : Int} (h : price g.ls f t = some c) : ∃ c', price g.ls t f = some c' := by
 obtain ⟨x, hx, h1⟩ := price_mem h
 have h2 := price_of hg.lpw (fun _ h => hg.lab h) hx
 rcases h1 with ⟨rfl, rfl, _⟩ | ⟨rfl, rfl, _⟩
 ·exact ⟨_, h2.2⟩
 ·exact ⟨_, h2.1⟩
theorem near_iff {g : Topo} (hg : g.Ok) {r x : Int} : x ∈ near g r ↔ ∃ c, price g.ls r x = some c := by
 simp only [near, List.mem_map, List.mem_filter]
 constructor
 ·rintro ⟨y, ⟨_, h⟩, rfl⟩
  exact Option.isSome_iff_exists.1 h
 ·rintro ⟨c, h⟩
  obtain ⟨y, hy, rfl⟩ := List.mem_map.1 (hasR_mem.1 (price_has hg h).2)
  exact ⟨y, ⟨hy, by simp [h]⟩, rfl⟩
inductive Wk (g : Topo) (to : Int) : Nat → Int → Int → Prop
 | nil : Wk g to 0 to 0
 | cons {k : Nat} {x y c v : Int} : price g.ls x y = some c → Wk g to k y v → Wk g to (k + 1) x (c + v)
theorem Wk.nonneg {g : Topo} (hg : g.Ok) {to : Int} {k : Nat} {x v : Int} (h : Wk g to k x v) : (k : Int) ≤ v := by
 induction h with
 | nil => simp
 | cons hp _ ih => have := price_le hg hp; omega
theorem Wk.le {g : Topo} (hg : g.Ok) {to : Int} {k : Nat} {x v : Int} (h : Wk g to k x v) : v ≤ 1000 * k := by
 induction h with
 | nil => simp
 | cons hp _ ih => have := price_le hg hp; omega
inductive Wa (g : Topo) (to : Int) (S : List Int) : Int → Int → Prop
 | nil : to ∉ S → Wa g to S to 0
 | cons {x y c v : Int} : x ∉ S → price g.ls x y = some c → Wa g to S y v → Wa g to S x (c + v)
theorem Wk.wa {g : Topo} {to : Int} {k : Nat} {x v : Int} (h : Wk g to k x v) : Wa g to [] x v := by
 induction h with
 | nil => exact .nil (by simp)
 | cons hp _ ih => exact .cons (by simp) hp ih
theorem Wa.notin {g : Topo} {to : Int} {S : List Int} {x v : Int} (h : Wa g to S x v) : x ∉ S := by
 cases h with
 | nil h => exact h
 | cons h _ _ => exact h
theorem Wa.last {g : Topo} (hg : g.Ok) {to : Int} {S : List Int} (x : Int) {z v : Int} (h : Wa g to S z v) :
  Wa g to (x :: S) z v ∨ x = to ∨ ∃ y c w, price g.ls x y = some c ∧ Wa g to (x :: S) y w ∧ c + w ≤ v := by
 induction h with
 | nil h =>
   by_cases e : x = to
   ·exact .inr (.inl e)
   ·exact .inl (.nil (by simp [h, Ne.symm e]))
 | @cons z y c v hz hp hw ih =>
   have hc := price_le hg hp
   rcases ih with ih | ih | ⟨y', c', w', h1, h2, h3⟩
   ·by_cases e : z = x
    ·subst e; exact .inr (.inr ⟨y, c, v, hp, ih, by omega⟩)
    ·exact .inl (.cons (by simp [hz, e]) hp ih)
   ·exact .inr (.inl ih)
   ·exact .inr (.inr ⟨y', c', w', h1, h2, by omega⟩)
theorem Wa.nonneg {g : Topo} (hg : g.Ok) {to : Int} {S : List Int} {x v : Int} (h : Wa g to S x v) : 0 ≤ v := by
 induction h with
 | nil => simp
 | cons _ hp _ ih => have := price_le hg hp; omega
theorem Wa.short {g : Topo} (hg : g.Ok) {to : Int} (hto : hasR g.rs to = true) : ∀ (m : Nat) {S : List Int} {x v : Int}, Wa g to S x v → hasR g.rs x = true → S.Nodup → (∀ y ∈ S, hasR g.rs y = true) → g.rs.length ≤ S.length + 1 + m → ∃ k w, k ≤ m ∧ w ≤ v ∧ Wk g to k x w := by
 intro m
 induction m with
 | zero =>
   intro S x v h hx hS hh hm
   rcases h.last hg x with h1 | h1 | ⟨y, c, w, h1, h2, h3⟩
   ·exact absurd h1.notin (by simp)
   ·subst h1; exact ⟨0, 0, Nat.le_refl _, h.nonneg hg, .nil⟩
   ·exfalso
    have hy := price_has hg h1
    have hn : (y :: x :: S).Nodup := List.nodup_cons.2 ⟨h2.notin, List.nodup_cons.2 ⟨h.notin, hS⟩⟩
    have := seen_le hn (g := g) (fun z hz => by
     simp only [List.mem_cons] at hz
     rcases hz with rfl | rfl | hz
     ·exact hy.2
     ·exact hx
     ·exact hh z hz)
    simp at this; omega
 | succ m ih =>
   intro S x v h hx hS hh hm
   rcases h.last hg x with h1 | h1 | ⟨y, c, w, h1, h2, h3⟩
   ·exact absurd h1.notin (by simp)
   ·subst h1; exact ⟨0, 0, by omega, h.nonneg hg, .nil⟩
   ·have hy := price_has hg h1
    obtain ⟨k, w', k1, k2, k3⟩ := ih h2 hy.2 (List.nodup_cons.2 ⟨h.notin, hS⟩) (fun z hz => by
     rcases List.mem_cons.1 hz with rfl | hz
     ·exact hx
     ·exact hh z hz) (by simp; omega)
    exact ⟨k + 1, c + w', by omega, by omega, .cons h1 k3⟩
theorem Wk.has {g : Topo} (hg : g.Ok) {to : Int} (hto : hasR g.rs to = true) {k : Nat} {x v : Int} (h : Wk g to k x v) : hasR g.rs x = true := by
 cases h with
 | nil => exact hto
 | cons hp _ => exact (price_has hg hp).1
theorem has_pos {g : Topo} {x : Int} (h : hasR g.rs x = true) : 1 ≤ g.rs.length := by
 cases hl : g.rs with
 | nil => simp [hasR, hl] at h
 | cons a l => simp
theorem Wk.short {g : Topo} (hg : g.Ok) {to : Int} (hto : hasR g.rs to = true) {k : Nat} {x v : Int} (h : Wk g to k x v) : ∃ j w, j + 1 ≤ g.rs.length ∧ w ≤ v ∧ Wk g to j x w := by
 have hp := has_pos hto
 obtain ⟨j, w, h1, h2, h3⟩ := h.wa.short hg hto (g.rs.length - 1) (h.has hg hto) List.nodup_nil (by simp) (by simp; omega)
 exact ⟨j, w, by omega, h2, h3⟩
theorem placeR_some : ∀ {l : List Rt} {r : Int}, hasR l r = true → ∃ i, placeR l r = some i
 | [], r, h => by simp [hasR] at h
 | x :: l, r, h => by
   by_cases e : x.id = r
   ·exact ⟨0, by rw [placeR, if_pos e]⟩
   ·obtain ⟨i, hi⟩ := placeR_some (l := l) (r := r) (by simpa [hasR, e] using h)
    exact ⟨i + 1, by rw [placeR, if_neg e, hi]; rfl⟩
theorem placeR_get : ∀ {l : List Rt} {r : Int} {i : Nat}, placeR l r = some i → ∃ x, l[i]? = some x ∧ x.id = r
 | [], r, i, h => by simp [placeR] at h
 | x :: l, r, i, h => by
   rw [placeR] at h
   split at h
   ·simp at h; subst h; exact ⟨x, by simp, by assumption⟩
   ·cases hp : placeR l r with
    | none => simp [hp] at h
    | some j =>
      simp [hp] at h; subst h
      obtain ⟨y, h1, h2⟩ := placeR_get hp
      exact ⟨y, by simpa using h1, h2⟩
theorem placeR_inj {l : List Rt} {r s : Int} {i : Nat} (h1 : placeR l r = some i) (h2 : placeR l s = some i) : r = s := by
 obtain ⟨x, a1, rfl⟩ := placeR_get h1
 obtain ⟨y, b1, rfl⟩ := placeR_get h2
 rw [a1] at b1; simp at b1; rw [b1]
theorem atR_plc {g : Topo} {d : List Int} {r : Int} (h : hasR g.rs r = true) : atR g d r = d.getD (plc g r) 0 := by
 obtain ⟨i, hi⟩ := placeR_some h
 simp [atR, plc, hi]
theorem atR_set {g : Topo} {d : List Int} (hd : g.rs.length ≤ d.length) {r s v : Int} (hr : hasR g.rs r = true) (hs : hasR g.rs s = true) : atR g (d.set (plc g r) v) s = if s = r then v else atR g d s := by
 obtain ⟨i, hi⟩ := placeR_some hr
 obtain ⟨j, hj⟩ := placeR_some hs
 have hil := placeR_lt hi
 simp only [atR, plc, hi, hj, Option.getD_some]
 rw [List.getD_eq_getElem?_getD, List.getD_eq_getElem?_getD, List.getElem?_set]
 by_cases e : s = r
 ·subst e
  rw [hi] at hj; simp at hj; subst hj
  rw [if_pos rfl, if_pos rfl, if_pos (by omega)]; rfl
 ·rw [if_neg e, if_neg (fun h => e (by subst h; exact placeR_inj hj hi))]
theorem atR_relax {g : Topo} (hg : g.Ok) {d : List Int} (hd : g.rs.length ≤ d.length) {l : Lk} (hl : l ∈ g.ls) {s : Int} (hs : hasR g.rs s = true) :
  atR g (relax g d l) s = (if s = l.a then (if atR g d l.b < far then min (atR g d l.a) (l.ca + atR g d l.b) else atR g d l.a)
   else if s = l.b then
    (if (if atR g d l.b < far then min (atR g d l.a) (l.ca + atR g d l.b) else atR g d l.a) < far then min (atR g d l.b) (l.cb + (if atR g d l.b < far then min (atR g d l.a) (l.ca + atR g d l.b) else atR g d l.a)) else atR g d l.b)
   else atR g d s) := by
 obtain ⟨ha, hb⟩ := hg.ends' hl
 have hab := hg.lab hl
 unfold relax
 simp only
 rw [← atR_plc hb, ← atR_plc ha]
 have key : ∀ d1 : List Int, g.rs.length ≤ d1.length → atR g d1 l.b = atR g d l.b → (∀ s, hasR g.rs s = true → atR g d1 s = if s = l.a then atR g d1 l.a else atR g d s) →
   atR g (if atR g d1 l.a < far then d1.set (plc g l.b) (min (d1.getD (plc g l.b) 0) (l.cb + atR g d1 l.a)) else d1) s =
    if s = l.a then atR g d1 l.a else if s = l.b then (if atR g d1 l.a < far then min (atR g d l.b) (l.cb + atR g d1 l.a) else atR g d l.b) else atR g d s := by
  intro d1 h1 h2 h3
  rw [← atR_plc hb, h2]
  have h4 := h3 s hs
  split
  ·rw [atR_set h1 hb hs]
   by_cases e : s = l.b
   ·subst e; rw [if_pos rfl, if_neg (by omega), if_pos rfl]
   ·rw [if_neg e, h4, if_neg e]
  ·rw [h4]
   by_cases e : s = l.b
   ·subst e; rw [if_neg (by omega), if_pos rfl, if_neg (by omega)]
   ·rw [if_neg e]
 have e0 : ∀ d1 : List Int, d1.getD (plc g l.a) 0 = atR g d1 l.a := fun d1 => (atR_plc ha).symm
 rw [e0]
 by_cases hlt : atR g d l.b < far
 ·rw [if_pos hlt]
  have h5 : atR g (d.set (plc g l.a) (min (atR g d l.a) (l.ca + atR g d l.b))) l.a = min (atR g d l.a) (l.ca + atR g d l.b) := by rw [atR_set hd ha ha, if_pos rfl]
  have := key (d.set (plc g l.a) (min (atR g d l.a) (l.ca + atR g d l.b))) (by simpa using hd) (by rw [atR_set hd ha hb, if_neg (by omega)]) (fun s hs => by
   rw [atR_set hd ha hs, atR_set hd ha ha, if_pos rfl])
  rw [this]
  simp only [h5, if_pos hlt]
 ·rw [if_neg hlt]
  have := key d hd rfl (fun s hs => by by_cases e : s = l.a <;> simp [e])
  rw [this]
  simp only [if_neg hlt]
theorem relax_le {g : Topo} (hg : g.Ok) {d : List Int} (hd : g.rs.length ≤ d.length) {l : Lk} (hl : l ∈ g.ls) {s : Int} (hs : hasR g.rs s = true) : atR g (relax g d l) s ≤ atR g d s := by
 rw [atR_relax hg hd hl hs]
 split
 ·rename_i e; subst e
  split <;> omega
 ·split
  ·rename_i e; subst e
   split <;> omega
  ·omega
theorem relax_do {g : Topo} (hg : g.Ok) {d : List Int} {x y c : Int} (h : price g.ls x y = some c) (hy : atR g d y < far) : ∃ l ∈ g.ls, ∀ d' : List Int, g.rs.length ≤ d'.length → atR g d' y ≤ atR g d y → atR g (relax g d' l) x ≤ c + atR g d y := by
 obtain ⟨l, hl, h1⟩ := price_mem h
 have hx := price_has hg h
 refine ⟨l, hl, fun d' hd' hle => ?_⟩
 rw [atR_relax hg hd' hl hx.1]
 have hab := hg.lab hl
 have hc := hg.c hl
 rcases h1 with ⟨rfl, rfl, rfl⟩ | ⟨rfl, rfl, rfl⟩
 ·rw [if_pos rfl, if_pos (by omega)]; omega
 ·rw [if_neg (by omega), if_pos rfl]
  have : (if atR g d' l.b < far then min (atR g d' l.a) (l.ca + atR g d' l.b) else atR g d' l.a) ≤ atR g d l.a := by split <;> omega
  generalize (if atR g d' l.b < far then min (atR g d' l.a) (l.ca + atR g d' l.b) else atR g d' l.a) = m at this
  rw [if_pos (by omega)]; omega
theorem fold_len (g : Topo) : ∀ (ls : List Lk) (d : List Int), (ls.foldl (relax g) d).length = d.length
 | [], _ => rfl
 | l :: ls, d => by rw [List.foldl_cons, fold_len g ls, relax_len]
theorem fold_le {g : Topo} (hg : g.Ok) {s : Int} (hs : hasR g.rs s = true) : ∀ (ls : List Lk) (d : List Int), (∀ l ∈ ls, l ∈ g.ls) → g.rs.length ≤ d.length → atR g (ls.foldl (relax g) d) s ≤ atR g d s
 | [], _, _, _ => Int.le_refl _
 | l :: ls, d, h, hd => by
   rw [List.foldl_cons]
   exact Int.le_trans (fold_le hg hs ls _ (fun x hx => h x (by simp [hx])) (by rw [relax_len]; exact hd)) (relax_le hg hd (h l (by simp)) hs)
theorem roundD_do {g : Topo} (hg : g.Ok) {d : List Int} (hd : g.rs.length ≤ d.length) {x y c : Int} (h : price g.ls x y = some c) (hy : atR g d y < far) : atR g (roundD g d) x ≤ c + atR g d y := by
 obtain ⟨l, hl, h1⟩ := relax_do hg h hy
 have hx := price_has hg h
 obtain ⟨p, q, e⟩ := List.append_of_mem hl
 have hp : ∀ z ∈ p, z ∈ g.ls := fun z hz => by rw [e]; simp [hz]
 have hq : ∀ z ∈ q, z ∈ g.ls := fun z hz => by rw [e]; simp [hz]
 rw [roundD, e, List.foldl_append, List.foldl_cons]
 have hlp : g.rs.length ≤ (p.foldl (relax g) d).length := by rw [fold_len]; exact hd
 refine Int.le_trans (fold_le hg hx.1 q _ hq (by rw [relax_len]; exact hlp)) (h1 _ hlp (fold_le hg hx.2 p d hp hd))
theorem roundD_le {g : Topo} (hg : g.Ok) {d : List Int} (hd : g.rs.length ≤ d.length) {s : Int} (hs : hasR g.rs s = true) : atR g (roundD g d) s ≤ atR g d s := fold_le hg hs g.ls d (fun _ h => h) hd
theorem roundD_len (g : Topo) (d : List Int) : (roundD g d).length = d.length := fold_len g g.ls d
def Known (g : Topo) (to : Int) (k : Nat) (d : List Int) : Prop := ∀ j ≤ k, ∀ x v, Wk g to j x v → v < far → atR g d x ≤ v
theorem Known.next {g : Topo} (hg : g.Ok) {to : Int} (hto : hasR g.rs to = true) {k : Nat} {d : List Int} (hd : g.rs.length ≤ d.length) (h : Known g to k d) : Known g to (k + 1) (roundD g d) := by
 intro j hj x v hw hv
 cases hw with
 | nil => exact Int.le_trans (roundD_le hg hd hto) (h 0 (by omega) _ _ .nil (by unfold far; omega))
 | @cons k' _ y c w hp hw =>
   have hc := price_le hg hp
   have h1 := h k' (by omega) y w hw (by omega)
   have h2 := roundD_do hg hd hp (by omega)
   omega
theorem Known.rounds {g : Topo} (hg : g.Ok) {to : Int} (hto : hasR g.rs to = true) : ∀ (n k : Nat) (d : List Int), g.rs.length ≤ d.length → Known g to k d → Known g to (k + n) (roundsD g n d)
 | 0, k, d, _, h => h
 | n + 1, k, d, hd, h => by
   have := Known.rounds hg hto n (k + 1) (roundD g d) (by rw [roundD_len]; exact hd) (h.next hg hto hd)
   rw [roundsD, show k + (n + 1) = k + 1 + n by omega]
   exact this
theorem atR_dist0 {g : Topo} {to x : Int} (hx : hasR g.rs x = true) : atR g (dist0 g to) x = if x = to then 0 else far := by
 obtain ⟨i, hi⟩ := placeR_some hx
 obtain ⟨y, h1, rfl⟩ := placeR_get hi
 simp only [atR, hi, dist0]
 rw [List.getD_eq_getElem?_getD, List.getElem?_map, h1]
 rfl
def Real (g : Topo) (to : Int) (d : List Int) : Prop := ∀ x, hasR g.rs x = true → atR g d x = far ∨ ∃ k, Wk g to k x (atR g d x)
theorem Real.relax {g : Topo} (hg : g.Ok) {to : Int} {d : List Int} (hd : g.rs.length ≤ d.length) (hb : Bd d) (h : Real g to d) {l : Lk} (hl : l ∈ g.ls) : Real g to (relax g d l) := by
 intro x hx
 obtain ⟨ha, hb'⟩ := hg.ends' hl
 have hpr := price_of hg.lpw (fun _ h => hg.lab h) hl
 have hB := atR_bd (g := g) hb
 rw [atR_relax hg hd hl hx]
 have hA : (if atR g d l.b < far then min (atR g d l.a) (l.ca + atR g d l.b) else atR g d l.a) = far ∨ ∃ k, Wk g to k l.a (if atR g d l.b < far then min (atR g d l.a) (l.ca + atR g d l.b) else atR g d l.a) := by
  split
  ·rename_i hlt
   by_cases hm : atR g d l.a ≤ l.ca + atR g d l.b
   ·rw [Int.min_eq_left hm]; exact h _ ha
   ·rw [Int.min_eq_right (by omega)]
    rcases h _ hb' with h1 | ⟨k, h1⟩
    ·omega
    ·exact .inr ⟨k + 1, .cons hpr.1 h1⟩
  ·exact h _ ha
 split
 ·rename_i e; subst e; exact hA
 split
 ·rename_i e; subst e
  generalize (if atR g d l.b < far then min (atR g d l.a) (l.ca + atR g d l.b) else atR g d l.a) = m at hA
  split
  ·by_cases hm : atR g d l.b ≤ l.cb + m
   ·rw [Int.min_eq_left hm]; exact h _ hb'
   ·rw [Int.min_eq_right (by omega)]
    rcases hA with h1 | ⟨k, h1⟩
    ·omega
    ·exact .inr ⟨k + 1, .cons hpr.2 h1⟩
  ·exact h _ hb'
 ·exact h _ hx
theorem dist0_bd (g : Topo) (to : Int) : Bd (dist0 g to) := fun v hv => by
 obtain ⟨x, _, rfl⟩ := List.mem_map.1 hv
 unfold far
 split <;> omega
theorem dist_real {g : Topo} (hg : g.Ok) {to : Int} (hto : hasR g.rs to = true) : Real g to (dist g to) := by
 have := roundsD_prop (g := g) (p := fun d => g.rs.length ≤ d.length ∧ Bd d ∧ Real g to d) (fun d l hl ⟨h1, h2, h3⟩ => ⟨by rw [relax_len]; exact h1, h2.relax (hg.c hl).1.1 (hg.c hl).2.1, h3.relax hg h1 h2 hl⟩) g.rs.length (dist0 g to) ⟨by simp [dist0], dist0_bd g to, fun x hx => by
  rw [atR_dist0 hx]
  split
  ·rename_i e; subst e; exact .inr ⟨0, .nil⟩
  ·exact .inl rfl⟩
 exact this.2.2
theorem dist_known {g : Topo} (hg : g.Ok) {to : Int} (hto : hasR g.rs to = true) {k : Nat} {x v : Int} (h : Wk g to k x v) (hv : v < far) : atR g (dist g to) x ≤ v := by
 obtain ⟨j, w, h1, h2, h3⟩ := h.short hg hto
 have := Known.rounds hg hto g.rs.length 0 (dist0 g to) (by simp [dist0]) (fun i hi x v hw hv => by
  obtain rfl : i = 0 := by omega
  cases hw
  rw [atR_dist0 hto, if_pos rfl]; omega)
 have := this j (by omega) x w h3 (by omega)
 rw [dist]; omega
def dst (g : Topo) (to x : Int) : Int := atR g (dist g to) x
theorem dst_bd {g : Topo} (hg : g.Ok) (to x : Int) : 0 ≤ dst g to x ∧ dst g to x ≤ far := atR_bd (dist_bd hg to) x
theorem dst_walk {g : Topo} (hg : g.Ok) {to : Int} (hto : hasR g.rs to = true) {k : Nat} {x v : Int} (h : Wk g to k x v) : dst g to x ≤ v ∧ dst g to x < far := by
 obtain ⟨j, w, h1, h2, h3⟩ := h.short hg hto
 have hl := h3.le hg
 have hn := hg.nr
 have := dist_known hg hto h3 (by unfold far; omega)
 unfold dst far at *
 omega
theorem dst_real {g : Topo} (hg : g.Ok) {to : Int} (hto : hasR g.rs to = true) {x : Int} (hx : hasR g.rs x = true) (h : dst g to x < far) : ∃ k, Wk g to k x (dst g to x) := by
 rcases dist_real hg hto x hx with h1 | h1
 ·exact absurd h1 (Int.ne_of_lt h)
 ·exact h1
theorem dst_zero {g : Topo} (hg : g.Ok) {to : Int} (hto : hasR g.rs to = true) {x : Int} (hx : hasR g.rs x = true) (h : dst g to x = 0) : x = to := by
 obtain ⟨k, hk⟩ := dst_real hg hto hx (by rw [h]; unfold far; omega)
 rw [h] at hk
 have := hk.nonneg hg
 generalize hv : (0 : Int) = v at hk this
 cases hk with
 | nil => rfl
 | cons hp hw => omega
theorem dst_link {g : Topo} (hg : g.Ok) {to : Int} (hto : hasR g.rs to = true) {x y c : Int} (h : price g.ls x y = some c) (hy : dst g to y < far) : dst g to x ≤ c + dst g to y ∧ dst g to x < far := by
 obtain ⟨k, hk⟩ := dst_real hg hto (price_has hg h).2 hy
 exact dst_walk hg hto (.cons h hk)
theorem dst_next {g : Topo} (hg : g.Ok) {to : Int} (hto : hasR g.rs to = true) {x : Int} (hx : hasR g.rs x = true) (hne : x ≠ to) (h : dst g to x < far) : ∃ y c, price g.ls x y = some c ∧ dst g to y < far ∧ c + dst g to y = dst g to x := by
 obtain ⟨k, hk⟩ := dst_real hg hto hx h
 generalize hv : dst g to x = v at hk
 cases hk with
 | nil => exact absurd rfl hne
 | @cons k' _ y c w hp hw =>
   have h1 := dst_walk hg hto hw
   have h2 := dst_link hg hto hp h1.2
   exact ⟨y, c, hp, h1.2, by omega⟩
theorem mem_steps {g : Topo} (hg : g.Ok) {to : Int} {x y : Int} : y ∈ steps g (dist g to) x ↔ dst g to x ≠ far ∧ dst g to x ≠ 0 ∧ dst g to y < far ∧ ∃ c, price g.ls x y = some c ∧ c + dst g to y = dst g to x := by
 unfold steps
 show y ∈ (if dst g to x = far ∨ dst g to x = 0 then [] else _) ↔ _
 split
 ·rename_i h
  constructor
  ·simp
  ·rintro ⟨h1, h2, _⟩; exact (h.elim h1 h2).elim
 ·rename_i h
  rw [List.mem_filter, near_iff hg]
  have e : stepOK g (dist g to) x y = (decide (dst g to y < far) && decide ((price g.ls x y).getD 0 + dst g to y = dst g to x)) := rfl
  rw [e]
  simp only [Bool.and_eq_true, decide_eq_true_eq]
  constructor
  ·rintro ⟨⟨c, hc⟩, h1, h2⟩
   exact ⟨fun a => h (.inl a), fun a => h (.inr a), h1, c, hc, by simpa [hc] using h2⟩
  ·rintro ⟨_, _, h1, c, hc, h2⟩
   exact ⟨⟨c, hc⟩, h1, by simpa [hc] using h2⟩
theorem steps_some {g : Topo} (hg : g.Ok) {to : Int} (hto : hasR g.rs to = true) {x : Int} (hx : hasR g.rs x = true) (hne : x ≠ to) (h : dst g to x < far) : ∃ y, y ∈ steps g (dist g to) x := by
 obtain ⟨y, c, h1, h2, h3⟩ := dst_next hg hto hx hne h
 exact ⟨y, (mem_steps hg).2 ⟨by omega, fun e => hne (dst_zero hg hto hx e), h2, c, h1, h3⟩⟩
inductive Thru (g : Topo) (t f : Int) : Int → Prop
 | nil : Thru g t f f
 | via {x y : Int} : Thru g t f x → y ∈ steps g (dist g t) x → capR g.rs y = false → Thru g t f y
def HopR (g : Topo) (t f n : Int) : Prop := ∃ x, Thru g t f x ∧ n ∈ steps g (dist g t) x ∧ capR g.rs n = true
structure HopI2 (g : Topo) (t f : Int) (s : List Int × List Int) : Prop where
 nd : s.1.Nodup
 seen : ∀ x ∈ s.1, Thru g t f x ∧ hasR g.rs x = true
 asc : s.2.Pairwise (· < ·)
 out : ∀ x ∈ s.2, HopR g t f x
theorem hopIn_fst (g : Topo) (s : List Int × List Int) (n : Int) : ∃ r, (hopIn g s n).1 = s.1 ++ r := by
 unfold hopIn
 split
 ·exact ⟨[], by simp⟩
 ·split
  ·exact ⟨[], by simp⟩
  ·exact ⟨[n], rfl⟩
theorem hopFold_fst (g : Topo) : ∀ (l : List Int) (s : List Int × List Int), ∃ r, (l.foldl (hopIn g) s).1 = s.1 ++ r
 | [], s => ⟨[], by simp⟩
 | n :: l, s => by
   obtain ⟨r1, h1⟩ := hopIn_fst g s n
   obtain ⟨r2, h2⟩ := hopFold_fst g l (hopIn g s n)
   exact ⟨r1 ++ r2, by rw [List.foldl_cons, h2, h1, List.append_assoc]⟩
theorem HopI2.step {g : Topo} {t f x n : Int} {s : List Int × List Int} (h : HopI2 g t f s) (hx : Thru g t f x) (hn : n ∈ steps g (dist g t) x) : HopI2 g t f (hopIn g s n) ∧ (∀ y ∈ s.2, y ∈ (hopIn g s n).2) ∧ (if capR g.rs n = true then n ∈ (hopIn g s n).2 else n ∈ (hopIn g s n).1) := by
 unfold hopIn
 by_cases hc : capR g.rs n = true
 ·rw [if_pos hc, if_pos hc]
  obtain ⟨h3, h4⟩ := insI_asc n h.asc
  refine ⟨⟨h.nd, h.seen, h3, fun y hy => ?_⟩, fun y hy => (h4 y).2 (.inl hy), (h4 n).2 (.inr rfl)⟩
  rcases (h4 y).1 hy with hy | rfl
  ·exact h.out y hy
  ·exact ⟨x, hx, hn, hc⟩
 ·rw [if_neg hc, if_neg hc]
  by_cases hh : hasI s.1 n = true
  ·rw [if_pos hh]
   exact ⟨h, fun _ h => h, by simpa [hasI] using hh⟩
  ·rw [if_neg hh]
   have hni : n ∉ s.1 := by simpa [hasI] using hh
   refine ⟨⟨List.nodup_append.2 ⟨h.nd, by simp, fun a ha b hb => by simp at hb; subst hb; exact fun e => hni (e ▸ ha)⟩, fun y hy => ?_, h.asc, h.out⟩, fun _ h => h, by simp⟩
   rcases List.mem_append.1 hy with hy | hy
   ·exact h.seen y hy
   ·simp at hy; subst hy
    exact ⟨.via hx hn (by simpa using hc), steps_has hn⟩
theorem HopI2.fold {g : Topo} {t f x : Int} (hx : Thru g t f x) : ∀ (l : List Int) (s : List Int × List Int), (∀ n ∈ l, n ∈ steps g (dist g t) x) → HopI2 g t f s →
  HopI2 g t f (l.foldl (hopIn g) s) ∧ (∀ y ∈ s.2, y ∈ (l.foldl (hopIn g) s).2) ∧ ∀ n ∈ l, if capR g.rs n = true then n ∈ (l.foldl (hopIn g) s).2 else n ∈ (l.foldl (hopIn g) s).1
 | [], s, _, h => ⟨h, fun _ h => h, by simp⟩
 | n :: l, s, hl, h => by
   obtain ⟨h1, h2, h3⟩ := h.step hx (hl n (by simp))
   obtain ⟨h4, h5, h6⟩ := HopI2.fold hx l _ (fun m hm => hl m (by simp [hm])) h1
   rw [List.foldl_cons]
   refine ⟨h4, fun y hy => h5 y (h2 y hy), fun m hm => ?_⟩
   rcases List.mem_cons.1 hm with rfl | hm
   ·split
    ·rename_i hc; rw [if_pos hc] at h3; exact h5 _ h3
    ·rename_i hc
     rw [if_neg hc] at h3
     obtain ⟨r, hr⟩ := hopFold_fst g l (hopIn g s m)
     rw [hr]; exact List.mem_append.2 (.inl h3)
   ·exact h6 m hm
def HopC (g : Topo) (t : Int) (i : Nat) (s : List Int × List Int) : Prop := ∀ j < i, ∀ x, s.1[j]? = some x → ∀ n ∈ steps g (dist g t) x, if capR g.rs n = true then n ∈ s.2 else n ∈ s.1
theorem hopsL_spec {g : Topo} {t f : Int} : ∀ (k i : Nat) (s : List Int × List Int), HopI2 g t f s → HopC g t i s → i ≤ s.1.length → g.rs.length + 1 ≤ k + i →
  HopI2 g t f (hopsL g (dist g t) k i s) ∧ (∀ x ∈ s.1, x ∈ (hopsL g (dist g t) k i s).1) ∧ ∀ x ∈ (hopsL g (dist g t) k i s).1, ∀ n ∈ steps g (dist g t) x, if capR g.rs n = true then n ∈ (hopsL g (dist g t) k i s).2 else n ∈ (hopsL g (dist g t) k i s).1
 | 0, i, s, h, _, hi, hk => by
   have := seen_le h.nd (fun x hx => (h.seen x hx).2)
   omega
 | k + 1, i, s, h, hc, hi, hk => by
   rw [hopsL]
   split
   ·rename_i hlt
    have hx : s.1[i]? = some s.1[i] := List.getElem?_eq_getElem hlt
    have hxm := h.seen _ (List.getElem_mem hlt)
    have e : s.1.getD i 0 = s.1[i] := by rw [List.getD_eq_getElem?_getD, hx]; rfl
    rw [e]
    generalize s.1[i] = x at hx hxm
    obtain ⟨h1, h2, h3⟩ := HopI2.fold hxm.1 (steps g (dist g t) x) s (fun _ h => h) h
    obtain ⟨r, hr⟩ := hopFold_fst g (steps g (dist g t) x) s
    have hsub : ∀ y ∈ s.1, y ∈ ((steps g (dist g t) x).foldl (hopIn g) s).1 := fun y hy => by rw [hr]; exact List.mem_append.2 (.inl hy)
    obtain ⟨h4, h5, h6⟩ := hopsL_spec k (i + 1) ((steps g (dist g t) x).foldl (hopIn g) s) h1 (fun j hj y hy n hn => by
     rw [hr, List.getElem?_append_left (by omega)] at hy
     by_cases ej : j = i
     ·subst ej
      rw [hx] at hy; simp at hy; subst hy
      exact h3 n hn
     ·have := hc j (by omega) y hy n hn
      split
      ·rename_i a; rw [if_pos a] at this; exact h2 n this
      ·rename_i a; rw [if_neg a] at this; exact hsub n this) (by rw [hr, List.length_append]; omega) (by omega)
    exact ⟨h4, fun y hy => h5 y (hsub y hy), h6⟩
   ·rename_i hlt
    refine ⟨h, fun _ h => h, fun x hx n hn => ?_⟩
    obtain ⟨j, hj, rfl⟩ := List.mem_iff_getElem.1 hx
    exact hc j (by omega) _ (List.getElem?_eq_getElem hj) n hn
theorem mem_hops {g : Topo} (hg : chkT g = 0) {f t : Int} (hf : hasR g.rs f = true) (ht : hasR g.rs t = true) (hne : f ≠ t) {n : Int} : n ∈ hops g f t ↔ HopR g t f n := by
 unfold hops
 rw [if_pos ⟨hg, hf, ht, hne⟩]
 obtain ⟨h1, h2, h3⟩ := hopsL_spec (g := g) (t := t) (f := f) (g.rs.length + 1) 0 ([f], []) ⟨by simp, fun x hx => by simp at hx; subst hx; exact ⟨.nil, hf⟩, by simp, by simp⟩ (fun j hj => by omega) (by simp) (by omega)
 refine ⟨h1.out n, fun ⟨x, hx, hn, hc⟩ => ?_⟩
 have key : ∀ x, Thru g t f x → x ∈ (hopsL g (dist g t) (g.rs.length + 1) 0 ([f], [])).1 := fun x hx => by
  induction hx with
  | nil => exact h2 f (by simp)
  | via _ hy hc ih =>
    have := h3 _ ih _ hy
    rwa [if_neg (by simp [hc])] at this
 have := h3 x (key x hx) n hn
 rwa [if_pos hc] at this
theorem steps_dst {g : Topo} (hg : g.Ok) {t x y : Int} (h : y ∈ steps g (dist g t) x) : dst g t y < dst g t x ∧ dst g t x < far := by
 obtain ⟨h1, h2, h3, c, h4, h5⟩ := (mem_steps hg).1 h
 have := price_le hg h4
 have := dst_bd hg t x
 omega
theorem Thru.le {g : Topo} (hg : g.Ok) {t f x : Int} (h : Thru g t f x) : dst g t x ≤ dst g t f := by
 induction h with
 | nil => exact Int.le_refl _
 | via _ hy _ ih => have := steps_dst hg hy; omega
theorem HopR.near {g : Topo} (hg : g.Ok) {t f n : Int} (h : HopR g t f n) : dst g t n < dst g t f ∧ dst g t f < far ∧ dst g t n < far ∧ capR g.rs n = true ∧ hasR g.rs n = true := by
 obtain ⟨x, hx, hn, hc⟩ := h
 have h1 := hx.le hg
 have h2 := steps_dst hg hn
 obtain ⟨_, _, h3, _⟩ := (mem_steps hg).1 hn
 refine ⟨by omega, ?_, h3, hc, steps_has hn⟩
 have h4 := dst_bd hg t f
 cases hx with
 | nil => exact h2.2
 | via h5 h6 h7 =>
   have : ∀ z, Thru g t f z → z = f ∨ dst g t f < far := fun z hz => by
    induction hz with
    | nil => exact .inl rfl
    | via a b _ ih =>
      rcases ih with e | e
      ·subst e; exact .inr (steps_dst hg b).2
      ·exact .inr e
   rcases this x (.via h5 h6 h7) with e | e
   ·subst e; exact h2.2
   ·exact e
theorem HopR.some {g : Topo} (hg : g.Ok) {t f : Int} (hf : hasR g.rs f = true) (ht : hasR g.rs t = true) (hc : capR g.rs t = true) (hne : f ≠ t) (hd : dst g t f < far) : ∃ n, HopR g t f n := by
 have key : ∀ (m : Nat) (x : Int), (dst g t x).toNat ≤ m → Thru g t f x → hasR g.rs x = true → x ≠ t → dst g t x < far → ∃ n, HopR g t f n := by
  intro m
  induction m with
  | zero =>
    intro x hm hx hh hn hl
    have := dst_bd hg t x
    exact absurd (dst_zero hg ht hh (by omega)) hn
  | succ m ih =>
    intro x hm hx hh hn hl
    obtain ⟨y, hy⟩ := steps_some hg ht hh hn hl
    by_cases hcy : capR g.rs y = true
    ·exact ⟨y, x, hx, hy, hcy⟩
    ·have h1 := steps_dst hg hy
     obtain ⟨_, _, h3, _⟩ := (mem_steps hg).1 hy
     have := dst_bd hg t y
     exact ih y (by omega) (.via hx hy (by simpa using hcy)) (steps_has hy) (fun e => by subst e; exact hcy hc) h3
 exact key _ f (Nat.le_refl _) .nil hf hne hd
end Go.Proofs

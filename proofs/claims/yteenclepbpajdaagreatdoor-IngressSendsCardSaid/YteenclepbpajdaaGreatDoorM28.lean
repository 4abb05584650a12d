/-
  What functions of the program compute, stated as contracts over plain data; the conditions of each stand in its own statement.
-/
import Derived.Test.YteenclepbpajdaaGreatDoorM27
set_option linter.unusedSimpArgs false
namespace Go.Proofs
theorem relax_le {g : Topo} (hg : g.Ok) {d : List Int} (hd : g.rs.length ≤ d.length) {l : Lk} (hl : l ∈ g.ls) {s : Int} (hs : hasR g.rs s = true) : atR g (relax g d l) s ≤ atR g d s := by
 rw [atR_relax hg hd hl hs]
 split
 ·rename_i e; subst e
  split <;> omega
 ·split
  ·rename_i e; subst e
   split <;> omega
  ·omega
theorem relax_do {g : Topo} (hg : g.Ok) {d : List Int} {x y c : Int} (h : price g.ls x y = some c) (hy : atR g d y < far) : ∃ l ∈ g.ls, ∀ d' : List Int, g.rs.length ≤ d'.length → atR g d' y ≤ atR g d y → atR g (relax g d' l) x ≤ c + atR g d y := by
 obtain ⟨l, hl, h1⟩ := price_mem h
 have hx := price_has hg h
 refine ⟨l, hl, fun d' hd' hle => ?_⟩
 rw [atR_relax hg hd' hl hx.1]
 have hab := hg.lab hl
 have hc := hg.c hl
 rcases h1 with ⟨rfl, rfl, rfl⟩ | ⟨rfl, rfl, rfl⟩
 ·rw [if_pos rfl, if_pos (by omega)]; omega
 ·rw [if_neg (by omega), if_pos rfl]
  have : (if atR g d' l.b < far then min (atR g d' l.a) (l.ca + atR g d' l.b) else atR g d' l.a) ≤ atR g d l.a := by split <;> omega
  generalize (if atR g d' l.b < far then min (atR g d' l.a) (l.ca + atR g d' l.b) else atR g d' l.a) = m at this
  rw [if_pos (by omega)]; omega
theorem fold_len (g : Topo) : ∀ (ls : List Lk) (d : List Int), (ls.foldl (relax g) d).length = d.length
 | [], _ => rfl
 | l :: ls, d => by rw [List.foldl_cons, fold_len g ls, relax_len]
theorem fold_le {g : Topo} (hg : g.Ok) {s : Int} (hs : hasR g.rs s = true) : ∀ (ls : List Lk) (d : List Int), (∀ l ∈ ls, l ∈ g.ls) → g.rs.length ≤ d.length → atR g (ls.foldl (relax g) d) s ≤ atR g d s
 | [], _, _, _ => Int.le_refl _
 | l :: ls, d, h, hd => by
   rw [List.foldl_cons]
   exact Int.le_trans (fold_le hg hs ls _ (fun x hx => h x (by simp [hx])) (by rw [relax_len]; exact hd)) (relax_le hg hd (h l (by simp)) hs)
theorem roundD_do {g : Topo} (hg : g.Ok) {d : List Int} (hd : g.rs.length ≤ d.length) {x y c : Int} (h : price g.ls x y = some c) (hy : atR g d y < far) : atR g (roundD g d) x ≤ c + atR g d y := by
 obtain ⟨l, hl, h1⟩ := relax_do hg h hy
 have hx := price_has hg h
 obtain ⟨p, q, e⟩ := List.append_of_mem hl
 have hp : ∀ z ∈ p, z ∈ g.ls := fun z hz => by rw [e]; simp [hz]
 have hq : ∀ z ∈ q, z ∈ g.ls := fun z hz => by rw [e]; simp [hz]
 rw [roundD, e, List.foldl_append, List.foldl_cons]
 have hlp : g.rs.length ≤ (p.foldl (relax g) d).length := by rw [fold_len]; exact hd
 refine Int.le_trans (fold_le hg hx.1 q _ hq (by rw [relax_len]; exact hlp)) (h1 _ hlp (fold_le hg hx.2 p d hp hd))
theorem roundD_le {g : Topo} (hg : g.Ok) {d : List Int} (hd : g.rs.length ≤ d.length) {s : Int} (hs : hasR g.rs s = true) : atR g (roundD g d) s ≤ atR g d s := fold_le hg hs g.ls d (fun _ h => h) hd
theorem roundD_len (g : Topo) (d : List Int) : (roundD g d).length = d.length := fold_len g g.ls d
def Known (g : Topo) (to : Int) (k : Nat) (d : List Int) : Prop := ∀ j ≤ k, ∀ x v, Wk g to j x v → v < far → atR g d x ≤ v
theorem Known.next {g : Topo} (hg : g.Ok) {to : Int} (hto : hasR g.rs to = true) {k : Nat} {d : List Int} (hd : g.rs.length ≤ d.length) (h : Known g to k d) : Known g to (k + 1) (roundD g d) := by
 intro j hj x v hw hv
 cases hw with
 | nil => exact Int.le_trans (roundD_le hg hd hto) (h 0 (by omega) _ _ .nil (by unfold far; omega))
 | @cons k' _ y c w hp hw =>
   have hc := price_le hg hp
   have h1 := h k' (by omega) y w hw (by omega)
   have h2 := roundD_do hg hd hp (by omega)
   omega
theorem Known.rounds {g : Topo} (hg : g.Ok) {to : Int} (hto : hasR g.rs to = true) : ∀ (n k : Nat) (d : List Int), g.rs.length ≤ d.length → Known g to k d → Known g to (k + n) (roundsD g n d)
 | 0, k, d, _, h => h
 | n + 1, k, d, hd, h => by
   have := Known.rounds hg hto n (k + 1) (roundD g d) (by rw [roundD_len]; exact hd) (h.next hg hto hd)
   rw [roundsD, show k + (n + 1) = k + 1 + n by omega]
   exact this
theorem atR_dist0 {g : Topo} {to x : Int} (hx : hasR g.rs x = true) : atR g (dist0 g to) x = if x = to then 0 else far := by
 obtain ⟨i, hi⟩ := placeR_some hx
 obtain ⟨y, h1, rfl⟩ := placeR_get hi
 simp only [atR, hi, dist0]
 rw [List.getD_eq_getElem?_getD, List.getElem?_map, h1]
 rfl
def Real (g : Topo) (to : Int) (d : List Int) : Prop := ∀ x, hasR g.rs x = true → atR g d x = far ∨ ∃ k, Wk g to k x (atR g d x)
theorem Real.relax {g : Topo} (hg : g.Ok) {to : Int} {d : List Int} (hd : g.rs.length ≤ d.length) (hb : Bd d) (h : Real g to d) {l : Lk} (hl : l ∈ g.ls) : Real g to (relax g d l) := by
 intro x hx
 obtain ⟨ha, hb'⟩ := hg.ends' hl
 have hpr := price_of hg.lpw (fun _ h => hg.lab h) hl
 have hB := atR_bd (g := g) hb
 rw [atR_relax hg hd hl hx]
 have hA : (if atR g d l.b < far then min (atR g d l.a) (l.ca + atR g d l.b) else atR g d l.a) = far ∨ ∃ k, Wk g to k l.a (if atR g d l.b < far then min (atR g d l.a) (l.ca + atR g d l.b) else atR g d l.a) := by
  split
  ·rename_i hlt
   by_cases hm : atR g d l.a ≤ l.ca + atR g d l.b
   ·rw [Int.min_eq_left hm]; exact h _ ha
   ·rw [Int.min_eq_right (by omega)]
    rcases h _ hb' with h1 | ⟨k, h1⟩
    ·omega
    ·exact .inr ⟨k + 1, .cons hpr.1 h1⟩
  ·exact h _ ha
 split
 ·rename_i e; subst e; exact hA
 split
 ·rename_i e; subst e
  generalize (if atR g d l.b < far then min (atR g d l.a) (l.ca + atR g d l.b) else atR g d l.a) = m at hA
  split
  ·by_cases hm : atR g d l.b ≤ l.cb + m
   ·rw [Int.min_eq_left hm]; exact h _ hb'
   ·rw [Int.min_eq_right (by omega)]
    rcases hA with h1 | ⟨k, h1⟩
    ·omega
    ·exact .inr ⟨k + 1, .cons hpr.2 h1⟩
  ·exact h _ hb'
 ·exact h _ hx
theorem dist0_bd (g : Topo) (to : Int) : Bd (dist0 g to) := fun v hv => by
 obtain ⟨x, _, rfl⟩ := List.mem_map.1 hv
 unfold far
 split <;> omega
theorem dist_real {g : Topo} (hg : g.Ok) {to : Int} (hto : hasR g.rs to = true) : Real g to (dist g to) := by
 have := roundsD_prop (g := g) (p := fun d => g.rs.length ≤ d.length ∧ Bd d ∧ Real g to d) (fun d l hl ⟨h1, h2, h3⟩ => ⟨by rw [relax_len]; exact h1, h2.relax (hg.c hl).1.1 (hg.c hl).2.1, h3.relax hg h1 h2 hl⟩) g.rs.length (dist0 g to) ⟨by simp [dist0], dist0_bd g to, fun x hx => by
  rw [atR_dist0 hx]
  split
  ·rename_i e; subst e; exact .inr ⟨0, .nil⟩
  ·exact .inl rfl⟩
 exact this.2.2
theorem dist_known {g : Topo} (hg : g.Ok) {to : Int} (hto : hasR g.rs to = true) {k : Nat} {x v : Int} (h : Wk g to k x v) (hv : v < far) : atR g (dist g to) x ≤ v := by
 obtain ⟨j, w, h1, h2, h3⟩ := h.short hg hto
 have := Known.rounds hg hto g.rs.length 0 (dist0 g to) (by simp [dist0]) (fun i hi x v hw hv => by
  obtain rfl : i = 0 := by omega
  cases hw
  rw [atR_dist0 hto, if_pos rfl]; omega)
 have := this j (by omega) x w h3 (by omega)
 rw [dist]; omega
def dst (g : Topo) (to x : Int) : Int := atR g (dist g to) x
theorem dst_bd {g : Topo} (hg : g.Ok) (to x : Int) : 0 ≤ dst g to x ∧ dst g to x ≤ far := atR_bd (dist_bd hg to) x
theorem dst_walk {g : Topo} (hg : g.Ok) {to : Int} (hto : hasR g.rs to = true) {k : Nat} {x v : Int} (h : Wk g to k x v) : dst g to x ≤ v ∧ dst g to x < far := by
 obtain ⟨j, w, h1, h2, h3⟩ := h.short hg hto
 have hl := h3.le hg
 have hn := hg.nr
 have := dist_known hg hto h3 (by unfold far; omega)
 unfold dst far at *
 omega
theorem dst_real {g : Topo} (hg : g.Ok) {to : Int} (hto : hasR g.rs to = true) {x : Int} (hx : hasR g.rs x = true) (h : dst g to x < far) : ∃ k, Wk g to k x (dst g to x) := by
 rcases dist_real hg hto x hx with h1 | h1
 ·exact absurd h1 (Int.ne_of_lt h)
 ·exact h1
theorem dst_self {g : Topo} (hg : g.Ok) {to : Int} (hto : hasR g.rs to = true) : dst g to to = 0 := by
 have h1 := dst_walk hg hto (Wk.nil (g := g) (to := to))
 have h2 := dst_bd hg to to
 omega
theorem dst_zero {g : Topo} (hg : g.Ok) {to : Int} (hto : hasR g.rs to = true) {x : Int} (hx : hasR g.rs x = true) (h : dst g to x = 0) : x = to := by
 obtain ⟨k, hk⟩ := dst_real hg hto hx (by rw [h]; unfold far; omega)
 rw [h] at hk
 have := hk.nonneg hg
 generalize hv : (0 : Int) = v at hk this
 cases hk with
 | nil => rfl
 | cons hp hw => omega
theorem dst_link {g : Topo} (hg : g.Ok) {to : Int} (hto : hasR g.rs to = true) {x y c : Int} (h : price g.ls x y = some c) (hy : dst g to y < far) : dst g to x ≤ c + dst g to y ∧ dst g to x < far := by
 obtain ⟨k, hk⟩ := dst_real hg hto (price_has hg h).2 hy
 exact dst_walk hg hto (.cons h hk)
theorem dst_next {g : Topo} (hg : g.Ok) {to : Int} (hto : hasR g.rs to = true) {x : Int} (hx : hasR g.rs x = true) (hne : x ≠ to) (h : dst g to x < far) : ∃ y c, price g.ls x y = some c ∧ dst g to y < far ∧ c + dst g to y = dst g to x := by
 obtain ⟨k, hk⟩ := dst_real hg hto hx h
 generalize hv : dst g to x = v at hk
 cases hk with
 | nil => exact absurd rfl hne
 | @cons k' _ y c w hp hw =>
   have h1 := dst_walk hg hto hw
   have h2 := dst_link hg hto hp h1.2
   exact ⟨y, c, hp, h1.2, by omega⟩
theorem mem_steps {g : Topo} (hg : g.Ok) {to : Int} {x y : Int} : y ∈ steps g (dist g to) x ↔ dst g to x ≠ far ∧ dst g to x ≠ 0 ∧ dst g to y < far ∧ ∃ c, price g.ls x y = some c ∧ c + dst g to y = dst g to x := by
 unfold steps
 show y ∈ (if dst g to x = far ∨ dst g to x = 0 then [] else _) ↔ _
 split
 ·rename_i h
  constructor
  ·simp
  ·rintro ⟨h1, h2, _⟩; exact (h.elim h1 h2).elim
 ·rename_i h
  rw [List.mem_filter, near_iff hg]
  have e : stepOK g (dist g to) x y = (decide (dst g to y < far) && decide ((price g.ls x y).getD 0 + dst g to y = dst g to x)) := rfl
  rw [e]
  simp only [Bool.and_eq_true, decide_eq_true_eq]
  constructor
  ·rintro ⟨⟨c, hc⟩, h1, h2⟩
   exact ⟨fun a => h (.inl a), fun a => h (.inr a), h1, c, hc, by simpa [hc] using h2⟩
  ·rintro ⟨_, _, h1, c, hc, h2⟩
   exact ⟨⟨c, hc⟩, h1, by simpa [hc] using h2⟩
theorem steps_some {g : Topo} (hg : g.Ok) {to : Int} (hto : hasR g.rs to = true) {x : Int} (hx : hasR g.rs x = true) (hne : x ≠ to) (h : dst g to x < far) : ∃ y, y ∈ steps g (dist g to) x := by
 obtain ⟨y, c, h1, h2, h3⟩ := dst_next hg hto hx hne h
 exact ⟨y, (mem_steps hg).2 ⟨by omega, fun e => hne (dst_zero hg hto hx e), h2, c, h1, h3⟩⟩
end Go.Proofs

set_option linter.unusedSimpArgs false
namespace Go.Proofs
inductive Thru (g : Topo) (t f : Int) : Int → Prop
 | nil : Thru g t f f
 | via {x y : Int} : Thru g t f x → y ∈ steps g (dist g t) x → capR g.rs y = false → Thru g t f y
def HopR (g : Topo) (t f n : Int) : Prop := ∃ x, Thru g t f x ∧ n ∈ steps g (dist g t) x ∧ capR g.rs n = true
structure HopI2 (g : Topo) (t f : Int) (s : List Int × List Int) : Prop where
 nd : s.1.Nodup
 seen : ∀ x ∈ s.1, Thru g t f x ∧ hasR g.rs x = true
 asc : s.2.Pairwise (· < ·)
 out : ∀ x ∈ s.2, HopR g t f x
theorem hopIn_fst (g : Topo) (s : List Int × List Int) (n : Int) : ∃ r, (hopIn g s n).1 = s.1 ++ r := by
 unfold hopIn
 split
 ·exact ⟨[], by simp⟩
 ·split
  ·exact ⟨[], by simp⟩
  ·exact ⟨[n], rfl⟩
theorem hopFold_fst (g : Topo) : ∀ (l : List Int) (s : List Int × List Int), ∃ r, (l.foldl (hopIn g) s).1 = s.1 ++ r
 | [], s => ⟨[], by simp⟩
 | n :: l, s => by
   obtain ⟨r1, h1⟩ := hopIn_fst g s n
   obtain ⟨r2, h2⟩ := hopFold_fst g l (hopIn g s n)
   exact ⟨r1 ++ r2, by rw [List.foldl_cons, h2, h1, List.append_assoc]⟩
theorem HopI2.step {g : Topo} {t f x n : Int} {s : List Int × List Int} (h : HopI2 g t f s) (hx : Thru g t f x) (hn : n ∈ steps g (dist g t) x) : HopI2 g t f (hopIn g s n) ∧ (∀ y ∈ s.2, y ∈ (hopIn g s n).2) ∧ (if capR g.rs n = true then n ∈ (hopIn g s n).2 else n ∈ (hopIn g s n).1) := by
 unfold hopIn
 by_cases hc : capR g.rs n = true
 ·rw [if_pos hc, if_pos hc]
  obtain ⟨h3, h4⟩ := insI_asc n h.asc
  refine ⟨⟨h.nd, h.seen, h3, fun y hy => ?_⟩, fun y hy => (h4 y).2 (.inl hy), (h4 n).2 (.inr rfl)⟩
  rcases (h4 y).1 hy with hy | rfl
  ·exact h.out y hy
  ·exact ⟨x, hx, hn, hc⟩
 ·rw [if_neg hc, if_neg hc]
  by_cases hh : hasI s.1 n = true
  ·rw [if_pos hh]
   exact ⟨h, fun _ h => h, by simpa [hasI] using hh⟩
  ·rw [if_neg hh]
   have hni : n ∉ s.1 := by simpa [hasI] using hh
   refine ⟨⟨List.nodup_append.2 ⟨h.nd, by simp, fun a ha b hb => by simp at hb; subst hb; exact fun e => hni (e ▸ ha)⟩, fun y hy => ?_, h.asc, h.out⟩, fun _ h => h, by simp⟩
   rcases List.mem_append.1 hy with hy | hy
   ·exact h.seen y hy
   ·simp at hy; subst hy
    exact ⟨.via hx hn (by simpa using hc), steps_has hn⟩
theorem HopI2.fold {g : Topo} {t f x : Int} (hx : Thru g t f x) : ∀ (l : List Int) (s : List Int × List Int), (∀ n ∈ l, n ∈ steps g (dist g t) x) → HopI2 g t f s →
  HopI2 g t f (l.foldl (hopIn g) s) ∧ (∀ y ∈ s.2, y ∈ (l.foldl (hopIn g) s).2) ∧ ∀ n ∈ l, if capR g.rs n = true then n ∈ (l.foldl (hopIn g) s).2 else n ∈ (l.foldl (hopIn g) s).1
 | [], s, _, h => ⟨h, fun _ h => h, by simp⟩
 | n :: l, s, hl, h => by
   obtain ⟨h1, h2, h3⟩ := h.step hx (hl n (by simp))
   obtain ⟨h4, h5, h6⟩ := HopI2.fold hx l _ (fun m hm => hl m (by simp [hm])) h1
   rw [List.foldl_cons]
   refine ⟨h4, fun y hy => h5 y (h2 y hy), fun m hm => ?_⟩
   rcases List.mem_cons.1 hm with rfl | hm
   ·split
    ·rename_i hc; rw [if_pos hc] at h3; exact h5 _ h3
    ·rename_i hc
     rw [if_neg hc] at h3
     obtain ⟨r, hr⟩ := hopFold_fst g l (hopIn g s m)
     rw [hr]; exact List.mem_append.2 (.inl h3)
   ·exact h6 m hm
def HopC (g : Topo) (t : Int) (i : Nat) (s : List Int × List Int) : Prop := ∀ j < i, ∀ x, s.1[j]? = some x → ∀ n ∈ steps g (dist g t) x, if capR g.rs n = true then n ∈ s.2 else n ∈ s.1
theorem hopsL_spec {g : Topo} {t f : Int} : ∀ (k i : Nat) (s : List Int × List Int), HopI2 g t f s → HopC g t i s → i ≤ s.1.length → g.rs.length + 1 ≤ k + i →
  HopI2 g t f (hopsL g (dist g t) k i s) ∧ (∀ x ∈ s.1, x ∈ (hopsL g (dist g t) k i s).1) ∧ ∀ x ∈ (hopsL g (dist g t) k i s).1, ∀ n ∈ steps g (dist g t) x, if capR g.rs n = true then n ∈ (hopsL g (dist g t) k i s).2 else n ∈ (hopsL g (dist g t) k i s).1
 | 0, i, s, h, _, hi, hk => by
   have := seen_le h.nd (fun x hx => (h.seen x hx).2)
   omega
 | k + 1, i, s, h, hc, hi, hk => by
   rw [hopsL]
   split
   ·rename_i hlt
    have hx : s.1[i]? = some s.1[i] := List.getElem?_eq_getElem hlt
    have hxm := h.seen _ (List.getElem_mem hlt)
    have e : s.1.getD i 0 = s.1[i] := by rw [List.getD_eq_getElem?_getD, hx]; rfl
    rw [e]
    generalize s.1[i] = x at hx hxm
    obtain ⟨h1, h2, h3⟩ := HopI2.fold hxm.1 (steps g (dist g t) x) s (fun _ h => h) h
    obtain ⟨r, hr⟩ := hopFold_fst g (steps g (dist g t) x) s
    have hsub : ∀ y ∈ s.1, y ∈ ((steps g (dist g t) x).foldl (hopIn g) s).1 := fun y hy => by rw [hr]; exact List.mem_append.2 (.inl hy)
    obtain ⟨h4, h5, h6⟩ := hopsL_spec k (i + 1) ((steps g (dist g t) x).foldl (hopIn g) s) h1 (fun j hj y hy n hn => by
     rw [hr, List.getElem?_append_left (by omega)] at hy
     by_cases ej : j = i
     ·subst ej
      rw [hx] at hy; simp at hy; subst hy
      exact h3 n hn
     ·have := hc j (by omega) y hy n hn
      split
      ·rename_i a; rw [if_pos a] at this; exact h2 n this
      ·rename_i a; rw [if_neg a] at this; exact hsub n this) (by rw [hr, List.length_append]; omega) (by omega)
    exact ⟨h4, fun y hy => h5 y (hsub y hy), h6⟩
   ·rename_i hlt
    refine ⟨h, fun _ h => h, fun x hx n hn => ?_⟩
    obtain ⟨j, hj, rfl⟩ := List.mem_iff_getElem.1 hx
    exact hc j (by omega) _ (List.getElem?_eq_getElem hj) n hn
theorem mem_hops {g : Topo} (hg : chkT g = 0) {f t : Int} (hf : hasR g.rs f = true) (ht : hasR g.rs t = true) (hne : f ≠ t) {n : Int} : n ∈ hops g f t ↔ HopR g t f n := by
 unfold hops
 rw [if_pos ⟨hg, hf, ht, hne⟩]
 obtain ⟨h1, h2, h3⟩ := hopsL_spec (g := g) (t := t) (f := f) (g.rs.length + 1) 0 ([f], []) ⟨by simp, fun x hx => by simp at hx; subst hx; exact ⟨.nil, hf⟩, by simp, by simp⟩ (fun j hj => by omega) (by simp) (by omega)
 refine ⟨h1.out n, fun ⟨x, hx, hn, hc⟩ => ?_⟩
 have key : ∀ x, Thru g t f x → x ∈ (hopsL g (dist g t) (g.rs.length + 1) 0 ([f], [])).1 := fun x hx => by
  induction hx with
  | nil => exact h2 f (by simp)
  | via _ hy hc ih =>
    have := h3 _ ih _ hy
    rwa [if_neg (by simp [hc])] at this
 have := h3 x (key x hx) n hn
 rwa [if_pos hc] at this
theorem steps_dst {g : Topo} (hg : g.Ok) {t x y : Int} (h : y ∈ steps g (dist g t) x) : dst g t y < dst g t x ∧ dst g t x < far := by
 obtain ⟨h1, h2, h3, c, h4, h5⟩ := (mem_steps hg).1 h
 have := price_le hg h4
 have := dst_bd hg t x
 omega
theorem Thru.le {g : Topo} (hg : g.Ok) {t f x : Int} (h : Thru g t f x) : dst g t x ≤ dst g t f := by
 induction h with
 | nil => exact Int.le_refl _
 | via _ hy _ ih => have := steps_dst hg hy; omega
theorem HopR.near {g : Topo} (hg : g.Ok) {t f n : Int} (h : HopR g t f n) : dst g t n < dst g t f ∧ dst g t f < far ∧ dst g t n < far ∧ capR g.rs n = true ∧ hasR g.rs n = true := by
 obtain ⟨x, hx, hn, hc⟩ := h
 have h1 := hx.le hg
 have h2 := steps_dst hg hn
 obtain ⟨_, _, h3, _⟩ := (mem_steps hg).1 hn
 refine ⟨by omega, ?_, h3, hc, steps_has hn⟩
 have h4 := dst_bd hg t f
 cases hx with
 | nil => exact h2.2
 | via h5 h6 h7 =>
   have : ∀ z, Thru g t f z → z = f ∨ dst g t f < far := fun z hz => by
    induction hz with
    | nil => exact .inl rfl
    | via a b _ ih =>
      rcases ih with e | e
      ·subst e; exact .inr (steps_dst hg b).2
      ·exact .inr e
   rcases this x (.via h5 h6 h7) with e | e
   ·subst e; exact h2.2
   ·exact e
theorem HopR.some {g : Topo} (hg : g.Ok) {t f : Int} (hf : hasR g.rs f = true) (ht : hasR g.rs t = true) (hc : capR g.rs t = true) (hne : f ≠ t) (hd : dst g t f < far) : ∃ n, HopR g t f n := by
 have key : ∀ (m : Nat) (x : Int), (dst g t x).toNat ≤ m → Thru g t f x → hasR g.rs x = true → x ≠ t → dst g t x < far → ∃ n, HopR g t f n := by
  intro m
  induction m with
  | zero =>
    intro x hm hx hh hn hl
    have := dst_bd hg t x
    exact absurd (dst_zero hg ht hh (by omega)) hn
  | succ m ih =>
    intro x hm hx hh hn hl
    obtain ⟨y, hy⟩ := steps_some hg ht hh hn hl
    by_cases hcy : capR g.rs y = true
    ·exact ⟨y, x, hx, hy, hcy⟩
    ·have h1 := steps_dst hg hy
     obtain ⟨_, _, h3, _⟩ := (mem_steps hg).1 hy
     have := dst_bd hg t y
     exact ih y (by omega) (.via hx hy (by simpa using hcy)) (steps_has hy) (fun e => by subst e; exact hcy hc) h3
 exact key _ f (Nat.le_refl _) .nil hf hne hd
end Go.Proofs

set_option linter.unusedSimpArgs false
set_option linter.unusedVariables false
namespace Go.Proofs
structure Fits (b : Tb) (p : Pk) : Prop where
 ck : chk b = 0
 sd : b.sd = p.subd
 len : b.len = p.len
 ok : p.ok = true
 mode : p.mode ≠ 2
theorem Fits.bit {b : Tb} {p : Pk} (h : Fits b p) {k : Nat} (hk : k < 64) (hb : p.bits.getLsbD k = true) : (k : Int) < p.len := (ok_bits h.ok).2 k hk hb
theorem hopAt_eq {b : Tb} {p : Pk} (hc : chk b = 0) (k : Nat) : hopAt b p k = hopB b (idAt p k) (plnP p) := hop_eq hc p _
theorem hopAt_at {b : Tb} {p : Pk} (hc : chk b = 0) {k : Nat} (h0 : hopAt b p k ≠ 0) : atB p.set k p.len = true ∧ 1 ≤ hopAt b p k ∧ hopAt b p k ≤ 99 := by
 rw [hopAt_eq hc] at h0 ⊢
 refine ⟨Classical.byContradiction fun g => h0 (by rw [idAt, if_neg g]; exact hop_zero hc _), hop_range hc h0⟩
theorem mask_bit {b : Tb} {p : Pk} (h : Fits b p) {k : Nat} (hk : k < 64) (hb : p.bits.getLsbD k = true) {n : Int} (hn : 1 ≤ n ∧ n ≤ 99) : (maskP b (plnP p) p.set n).getLsbD k = true ↔ hopAt b p k = n := by
 have hl := (ok_bits h.ok).1
 have hlen : b.len ≤ 64 := by
  rw [h.len]; simp [validLen] at hl; omega
 have hkl := h.bit hk hb
 rw [mask_eq h.ck h.ok hn, bitsR_bit b _ _ _ hk _ (by omega), h.len]
 constructor
 ·rintro ⟨h1, h2, h3, h4⟩
  rw [hopAt_eq h.ck, idAt, if_pos h2]; exact h4
 ·intro e
  have h2 := hopAt_at h.ck (k := k) (p := p) (by omega)
  rw [hopAt_eq h.ck, idAt, if_pos h2.1] at e
  exact ⟨by omega, h2.1, by omega, e⟩
noncomputable def cpk (b : Tb) (p : Pk) (h : Int) : Pk := pkMask p (maskP b (plnP p) p.set h)
theorem cpk_bit {b : Tb} {p : Pk} (h : Fits b p) {k : Nat} (hk : k < 64) {n : Int} (hn : 1 ≤ n ∧ n ≤ 99) : (cpk b p n).bits.getLsbD k = true ↔ p.bits.getLsbD k = true ∧ hopAt b p k = n := by
 simp only [cpk, pkMask, BitVec.getLsbD_and, Bool.and_eq_true]
 constructor
 ·rintro ⟨h1, h2⟩; exact ⟨h1, (mask_bit h hk h1 hn).1 h2⟩
 ·rintro ⟨h1, h2⟩; exact ⟨h1, (mask_bit h hk h1 hn).2 h2⟩
theorem mask_ok {p : Pk} (h : p.ok = true) (ht : p.ttl ≠ 0) (m : BitVec 64) : (pkMask p m).ok = true := by
 have h2 := ok_ttl h
 cases p
 simp only [pkMask] at *
 simp only [Pk.ok, Bool.and_eq_true, validB, decide_eq_true_eq, insB] at h ⊢
 obtain ⟨a1, a2, a3, a4, ⟨b1, b2⟩, a5, a6⟩ := h
 refine ⟨a1, a2, a3, a4, ⟨b1, ?_⟩, ⟨by omega, by omega⟩, a6⟩
 apply BitVec.eq_of_getLsbD_eq
 intro k hk
 have h3 := congrArg (fun z => z.getLsbD k) b2
 simp only [BitVec.getLsbD_and, BitVec.getLsbD_not, hk, decide_true, Bool.true_and, BitVec.getLsbD_zero] at h3 ⊢
 revert h3
 generalize BitVec.getLsbD _ k = x
 generalize BitVec.getLsbD _ k = y
 generalize BitVec.getLsbD _ k = z
 cases x <;> cases y <;> cases z <;> simp
theorem Fits.mask {b c : Tb} {p : Pk} (h : Fits b p) (hc : Fits c p) (ht : p.ttl ≠ 0) (m : BitVec 64) : Fits c (pkMask p m) :=
 ⟨hc.ck, hc.sd, hc.len, mask_ok h.ok ht m, h.mode⟩
theorem plnP_mask {p : Pk} (h : p.ok = true) (ht : p.ttl ≠ 0) (m : BitVec 64) : plnP (pkMask p m) = plnP p := by
 simp only [plnP, mask_ok h ht m, h, if_true]; rfl
theorem andNot_bit (R M : BitVec 64) {k : Nat} (hk : k < 64) : (R &&& ~~~ M).getLsbD k = true ↔ R.getLsbD k = true ∧ M.getLsbD k = false := by
 simp [hk]
theorem or_bit (R M : BitVec 64) {k : Nat} : (R ||| M).getLsbD k = true ↔ R.getLsbD k = true ∨ M.getLsbD k = true := by
 simp
theorem one_bit {j k : Nat} (hj : j < 64) (hk : k < 64) : (1#64 <<< j).getLsbD k = true ↔ k = j := by rw [bit_one hj hk]; simp
def Whole (b : Tb) (p : Pk) (R : BitVec 64) : Prop := (∀ k < 64, R.getLsbD k = true → p.bits.getLsbD k = true) ∧
 ∀ j k, j < 64 → k < 64 → p.bits.getLsbD j = true → hopAt b p j = hopAt b p k → hopAt b p k ≠ 0 → hopAt b p k ≠ b.r → R.getLsbD k = true → R.getLsbD j = true
structure FwdI (b : Tb) (p : Pk) (o o' : Out) (R : BitVec 64) : Prop where
 loc : ∀ k < 64, o'.loc.getLsbD k = true ↔ o.loc.getLsbD k = true ∨ (R.getLsbD k = true ∧ hopAt b p k ≠ 0 ∧ hopAt b p k = b.r)
 lost : ∀ k < 64, o'.lost.getLsbD k = true ↔ o.lost.getLsbD k = true ∨ (R.getLsbD k = true ∧ (hopAt b p k = 0 ∨ (hopAt b p k ≠ b.r ∧ p.ttl = 0)))
 cps : ∃ H : List Int, o'.cps = o.cps ++ H.map (fun h => (h, cpk b p h)) ∧ H.Nodup ∧ ∀ h, h ∈ H ↔ p.ttl ≠ 0 ∧ h ≠ 0 ∧ h ≠ b.r ∧ ∃ k < 64, R.getLsbD k = true ∧ hopAt b p k = h
theorem FwdI.nil {b : Tb} {p : Pk} (o : Out) : FwdI b p o o 0#64 := ⟨by simp, by simp, [], by simp, by simp, by simp⟩
theorem fwdG_spec {b : Tb} {p : Pk} (h : Fits b p) : ∀ (n : Nat) (o : Out) (R : BitVec 64), (bitsL R).length ≤ n → Whole b p R → FwdI b p o (fwdG b p n o R) R
 | 0, o, R, hn, _ => by
   obtain rfl := pop_zero (R := R) (by omega)
   exact .nil o
 | n + 1, o, R, hn, hW => by
   rw [fwdG]
   by_cases h0 : R = 0#64
   ·subst h0; rw [if_pos rfl]; exact .nil o
   rw [if_neg h0]
   obtain ⟨t1, t2, t3⟩ := tz_spec h0
   have hmb := fwdM_bit h.ck h.ok h.len hW.1 h0
   have hpop := pop_less t1 t2 hmb
   have hpz := hW.1 _ t1 t2
   generalize hj : tz R = j at t1 t2 t3 hmb hpop hpz
   by_cases c0 : hopAt b p j = 0
   ·have eM : fwdM b p R = 1#64 <<< j := by rw [fwdM, hj, if_pos (.inl c0)]
    have eO : fwdO b p o R = ⟨o.loc, o.lost ||| 1#64 <<< j, o.cps⟩ := by rw [fwdO, hj, if_pos c0]
    rw [eM] at hpop
    rw [eM, eO]
    have hb : ∀ k < 64, (R &&& ~~~ (1#64 <<< j)).getLsbD k = true ↔ R.getLsbD k = true ∧ k ≠ j := fun k hk => by rw [andNot_bit _ _ hk, bit_one t1 hk]; simp
    have ih := fwdG_spec h n ⟨o.loc, o.lost ||| 1#64 <<< j, o.cps⟩ (R &&& ~~~ (1#64 <<< j)) (by omega)
     ⟨fun k hk hb' => hW.1 k hk ((hb k hk).1 hb').1, fun i k hi hk hpi e e0 er hr => (hb i hi).2 ⟨hW.2 i k hi hk hpi e e0 er ((hb k hk).1 hr).1, fun e' => by subst e'; rw [c0] at e; exact e0 e.symm⟩⟩
    refine ⟨fun k hk => ?_, fun k hk => ?_, ?_⟩
    ·rw [ih.loc k hk, hb k hk]
     constructor
     ·rintro (a | ⟨⟨a1, a2⟩, a3⟩)
      ·exact .inl a
      ·exact .inr ⟨a1, a3⟩
     ·rintro (a | ⟨a1, a3⟩)
      ·exact .inl a
      ·exact .inr ⟨⟨a1, fun e => by subst e; exact a3.1 c0⟩, a3⟩
    ·rw [ih.lost k hk, hb k hk, or_bit, one_bit t1 hk]
     constructor
     ·rintro ((a | rfl) | ⟨⟨a1, a2⟩, a3⟩)
      ·exact .inl a
      ·exact .inr ⟨t2, .inl c0⟩
      ·exact .inr ⟨a1, a3⟩
     ·rintro (a | ⟨a1, a3⟩)
      ·exact .inl (.inl a)
      ·by_cases e : k = j
       ·exact .inl (.inr e)
       ·exact .inr ⟨⟨a1, e⟩, a3⟩
    ·obtain ⟨H, h1, h2, h3⟩ := ih.cps
     refine ⟨H, h1, h2, fun x => ?_⟩
     rw [h3]
     constructor
     ·rintro ⟨a1, a2, a3, k, hk, a4, a5⟩
      exact ⟨a1, a2, a3, k, hk, ((hb k hk).1 a4).1, a5⟩
     ·rintro ⟨a1, a2, a3, k, hk, a4, a5⟩
      exact ⟨a1, a2, a3, k, hk, (hb k hk).2 ⟨a4, fun e => by subst e; rw [c0] at a5; exact a2 a5.symm⟩, a5⟩
   by_cases c1 : hopAt b p j = b.r
   ·have eM : fwdM b p R = 1#64 <<< j := by rw [fwdM, hj, if_pos (.inr c1)]
    have eO : fwdO b p o R = ⟨o.loc ||| 1#64 <<< j, o.lost, o.cps⟩ := by rw [fwdO, hj, if_neg c0, if_pos c1]
    rw [eM] at hpop
    rw [eM, eO]
    have hb : ∀ k < 64, (R &&& ~~~ (1#64 <<< j)).getLsbD k = true ↔ R.getLsbD k = true ∧ k ≠ j := fun k hk => by rw [andNot_bit _ _ hk, bit_one t1 hk]; simp
    have ih := fwdG_spec h n ⟨o.loc ||| 1#64 <<< j, o.lost, o.cps⟩ (R &&& ~~~ (1#64 <<< j)) (by omega)
     ⟨fun k hk hb' => hW.1 k hk ((hb k hk).1 hb').1, fun i k hi hk hpi e e0 er hr => (hb i hi).2 ⟨hW.2 i k hi hk hpi e e0 er ((hb k hk).1 hr).1, fun e' => by subst e'; rw [c1] at e; exact er e.symm⟩⟩
    refine ⟨fun k hk => ?_, fun k hk => ?_, ?_⟩
    ·rw [ih.loc k hk, hb k hk, or_bit, one_bit t1 hk]
     constructor
     ·rintro ((a | rfl) | ⟨⟨a1, a2⟩, a3⟩)
      ·exact .inl a
      ·exact .inr ⟨t2, c0, c1⟩
      ·exact .inr ⟨a1, a3⟩
     ·rintro (a | ⟨a1, a3⟩)
      ·exact .inl (.inl a)
      ·by_cases e : k = j
       ·exact .inl (.inr e)
       ·exact .inr ⟨⟨a1, e⟩, a3⟩
    ·rw [ih.lost k hk, hb k hk]
     constructor
     ·rintro (a | ⟨⟨a1, a2⟩, a3⟩)
      ·exact .inl a
      ·exact .inr ⟨a1, a3⟩
     ·rintro (a | ⟨a1, a3⟩)
      ·exact .inl a
      ·exact .inr ⟨⟨a1, fun e => by subst e; exact a3.elim c0 fun a => a.1 c1⟩, a3⟩
    ·obtain ⟨H, h1, h2, h3⟩ := ih.cps
     refine ⟨H, h1, h2, fun x => ?_⟩
     rw [h3]
     constructor
     ·rintro ⟨a1, a2, a3, k, hk, a4, a5⟩
      exact ⟨a1, a2, a3, k, hk, ((hb k hk).1 a4).1, a5⟩
     ·rintro ⟨a1, a2, a3, k, hk, a4, a5⟩
      exact ⟨a1, a2, a3, k, hk, (hb k hk).2 ⟨a4, fun e => by subst e; rw [c1] at a5; exact a3 a5.symm⟩, a5⟩
   have hr := (hopAt_at h.ck c0).2
   have eM : fwdM b p R = togR b p R (hopAt b p j) := by rw [fwdM, hj, if_neg (fun h => h.elim c0 c1)]
   rw [eM] at hpop ⊢
   have htog : ∀ k < 64, (togR b p R (hopAt b p j)).getLsbD k = true ↔ R.getLsbD k = true ∧ hopAt b p k = hopAt b p j := fun k hk => by
    rw [togR, BitVec.getLsbD_and, Bool.and_eq_true]
    constructor
    ·rintro ⟨a1, a2⟩; exact ⟨a1, (mask_bit h hk (hW.1 k hk a1) hr).1 a2⟩
    ·rintro ⟨a1, a2⟩; exact ⟨a1, (mask_bit h hk (hW.1 k hk a1) hr).2 a2⟩
   have hb : ∀ k < 64, (R &&& ~~~ togR b p R (hopAt b p j)).getLsbD k = true ↔ R.getLsbD k = true ∧ hopAt b p k ≠ hopAt b p j := fun k hk => by
    rw [andNot_bit _ _ hk]
    constructor
    ·rintro ⟨a1, a2⟩; exact ⟨a1, fun e => by rw [(htog k hk).2 ⟨a1, e⟩] at a2; simp at a2⟩
    ·rintro ⟨a1, a2⟩
     refine ⟨a1, ?_⟩
     cases ht : (togR b p R (hopAt b p j)).getLsbD k with
     | false => rfl
     | true => exact absurd ((htog k hk).1 ht).2 a2
   have hW' : Whole b p (R &&& ~~~ togR b p R (hopAt b p j)) := ⟨fun k hk hb' => hW.1 k hk ((hb k hk).1 hb').1, fun i k hi hk hpi e e0 er hr => (hb i hi).2 ⟨hW.2 i k hi hk hpi e e0 er ((hb k hk).1 hr).1, by rw [e]; exact ((hb k hk).1 hr).2⟩⟩
   have hbits : (p.setB R).bits &&& togR b p R (hopAt b p j) = p.bits &&& maskP b (plnP p) p.set (hopAt b p j) := by
    apply BitVec.eq_of_getLsbD_eq
    intro k hk
    show (R &&& togR b p R (hopAt b p j)).getLsbD k = _
    rw [Bool.eq_iff_iff, BitVec.getLsbD_and, Bool.and_eq_true, htog k hk, BitVec.getLsbD_and, Bool.and_eq_true]
    constructor
    ·rintro ⟨_, a1, a2⟩
     have := hW.1 k hk a1
     exact ⟨this, (mask_bit h hk this hr).2 a2⟩
    ·rintro ⟨a1, a2⟩
     have e := (mask_bit h hk a1 hr).1 a2
     have := hW.2 k j hk t1 a1 e c0 c1 t2
     exact ⟨this, this, e⟩
   have hnz : (p.setB R).bits &&& togR b p R (hopAt b p j) ≠ 0#64 := fun e => by
    have := congrArg (fun z => z.getLsbD j) e
    simp only [BitVec.getLsbD_zero] at this
    change (R &&& togR b p R (hopAt b p j)).getLsbD j = false at this
    rw [BitVec.getLsbD_and, t2, (htog j t1).2 ⟨t2, rfl⟩] at this
    simp at this
   have hok := ok_setB h.ok hW.1
   by_cases ht : p.ttl = 0
   ·have eC : (pkmR (p.setB R) (togR b p R (hopAt b p j))).2 = false := by
     rw [pkmR, if_neg (fun a => a.2.1 ht)]
    have eO : fwdO b p o R = ⟨o.loc, o.lost ||| togR b p R (hopAt b p j), o.cps⟩ := by
     rw [fwdO, hj, if_neg c0, if_neg c1, if_neg (by rw [eC]; simp)]
    rw [eO]
    have ih := fwdG_spec h n ⟨o.loc, o.lost ||| togR b p R (hopAt b p j), o.cps⟩ _ (by omega) hW'
    refine ⟨fun k hk => ?_, fun k hk => ?_, ?_⟩
    ·rw [ih.loc k hk, hb k hk]
     constructor
     ·rintro (a | ⟨⟨a1, a2⟩, a3⟩)
      ·exact .inl a
      ·exact .inr ⟨a1, a3⟩
     ·rintro (a | ⟨a1, a3⟩)
      ·exact .inl a
      ·exact .inr ⟨⟨a1, fun e => c1 (by rw [← e]; exact a3.2)⟩, a3⟩
    ·rw [ih.lost k hk, hb k hk, or_bit, htog k hk]
     constructor
     ·rintro ((a | ⟨a1, a2⟩) | ⟨⟨a1, a2⟩, a3⟩)
      ·exact .inl a
      ·exact .inr ⟨a1, .inr ⟨by rw [a2]; exact c1, ht⟩⟩
      ·exact .inr ⟨a1, a3⟩
     ·rintro (a | ⟨a1, a3⟩)
      ·exact .inl (.inl a)
      ·by_cases e : hopAt b p k = hopAt b p j
       ·exact .inl (.inr ⟨a1, e⟩)
       ·exact .inr ⟨⟨a1, e⟩, a3⟩
    ·obtain ⟨H, h1, h2, h3⟩ := ih.cps
     refine ⟨H, h1, h2, fun x => ?_⟩
     rw [h3]
     exact ⟨fun a => absurd ht a.1, fun a => absurd ht a.1⟩
   ·have eC : pkmR (p.setB R) (togR b p R (hopAt b p j)) = (cpk b p (hopAt b p j), true) := by
     rw [pkmR, if_pos ⟨hok, ht, hnz⟩, pkMask, hbits]; rfl
    have eO : fwdO b p o R = ⟨o.loc, o.lost, o.cps ++ [(hopAt b p j, cpk b p (hopAt b p j))]⟩ := by
     rw [fwdO, hj, if_neg c0, if_neg c1, eC]; rfl
    rw [eO]
    have ih := fwdG_spec h n ⟨o.loc, o.lost, o.cps ++ [(hopAt b p j, cpk b p (hopAt b p j))]⟩ _ (by omega) hW'
    refine ⟨fun k hk => ?_, fun k hk => ?_, ?_⟩
    ·rw [ih.loc k hk, hb k hk]
     constructor
     ·rintro (a | ⟨⟨a1, a2⟩, a3⟩)
      ·exact .inl a
      ·exact .inr ⟨a1, a3⟩
     ·rintro (a | ⟨a1, a3⟩)
      ·exact .inl a
      ·exact .inr ⟨⟨a1, fun e => c1 (by rw [← e]; exact a3.2)⟩, a3⟩
    ·rw [ih.lost k hk, hb k hk]
     constructor
     ·rintro (a | ⟨⟨a1, a2⟩, a3⟩)
      ·exact .inl a
      ·exact .inr ⟨a1, a3⟩
     ·rintro (a | ⟨a1, a3⟩)
      ·exact .inl a
      ·refine .inr ⟨⟨a1, fun e => ?_⟩, a3⟩
       rcases a3 with a3 | a3
       ·exact c0 (by rw [← e]; exact a3)
       ·exact ht a3.2
    ·obtain ⟨H, h1, h2, h3⟩ := ih.cps
     refine ⟨hopAt b p j :: H, by rw [h1]; simp, List.nodup_cons.2 ⟨fun hm => ?_, h2⟩, fun x => ?_⟩
     ·obtain ⟨_, _, _, k, hk, a4, a5⟩ := (h3 _).1 hm
      exact ((hb k hk).1 a4).2 a5
     ·rw [List.mem_cons, h3]
      constructor
      ·rintro (rfl | ⟨a1, a2, a3, k, hk, a4, a5⟩)
       ·exact ⟨ht, c0, c1, j, t1, t2, rfl⟩
       ·exact ⟨a1, a2, a3, k, hk, ((hb k hk).1 a4).1, a5⟩
      ·rintro ⟨a1, a2, a3, k, hk, a4, a5⟩
       by_cases e : x = hopAt b p j
       ·exact .inl e
       ·exact .inr ⟨a1, a2, a3, k, hk, (hb k hk).2 ⟨a4, fun e' => e (by rw [← a5, e'])⟩, a5⟩
theorem fwd_spec {b : Tb} {p : Pk} (h : Fits b p) : fwdR b p = (fwdV b p, 0) ∧ FwdI b p out0 (fwdV b p) p.bits := by
 refine ⟨?_, fwdG_spec h 64 out0 p.bits (bitsL_len _) ⟨fun _ _ h => h, fun j k _ _ h _ _ _ _ => h⟩⟩
 rw [fwdR, if_neg (by simp [h.ck, h.ok]), if_neg h.mode, if_neg (by simp [h.sd, h.len])]
end Go.Proofs

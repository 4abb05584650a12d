/-
  What functions of the program compute, stated as contracts over plain data; the conditions of each stand in its own statement.
-/
import Derived.Test.YtjgeggdefiejbaaGreatDoorZM26
set_option linter.unusedSimpArgs false
namespace Go.Proofs
theorem relax_le {g : Topo} (hg : g.Ok) {d : List Int} (hd : g.rs.length ≤ d.length) {l : Lk} (hl : l ∈ g.ls) {s : Int} (hs : hasR g.rs s = true) : atR g (relax g d l) s ≤ atR g d s := by
 rw [atR_relax hg hd hl hs]
 split
 ·rename_i e; subst e
  split <;> omega
 ·split
  ·rename_i e; subst e
   split <;> omega
  ·omega
theorem relax_do {g : Topo} (hg : g.Ok) {d : List Int} {x y c : Int} (h : price g.ls x y = some c) (hy : atR g d y < far) : ∃ l ∈ g.ls, ∀ d' : List Int, g.rs.length ≤ d'.length → atR g d' y ≤ atR g d y → atR g (relax g d' l) x ≤ c + atR g d y := by
 obtain ⟨l, hl, h1⟩ := price_mem h
 have hx := price_has hg h
 refine ⟨l, hl, fun d' hd' hle => ?_⟩
 rw [atR_relax hg hd' hl hx.1]
 have hab := hg.lab hl
 have hc := hg.c hl
 rcases h1 with ⟨rfl, rfl, rfl⟩ | ⟨rfl, rfl, rfl⟩
 ·rw [if_pos rfl, if_pos (by omega)]; omega
 ·rw [if_neg (by omega), if_pos rfl]
  have : (if atR g d' l.b < far then min (atR g d' l.a) (l.ca + atR g d' l.b) else atR g d' l.a) ≤ atR g d l.a := by split <;> omega
  generalize (if atR g d' l.b < far then min (atR g d' l.a) (l.ca + atR g d' l.b) else atR g d' l.a) = m at this
  rw [if_pos (by omega)]; omega
theorem fold_len (g : Topo) : ∀ (ls : List Lk) (d : List Int), (ls.foldl (relax g) d).length = d.length
 | [], _ => rfl
 | l :: ls, d => by rw [List.foldl_cons, fold_len g ls, relax_len]
theorem fold_le {g : Topo} (hg : g.Ok) {s : Int} (hs : hasR g.rs s = true) : ∀ (ls : List Lk) (d : List Int), (∀ l ∈ ls, l ∈ g.ls) → g.rs.length ≤ d.length → atR g (ls.foldl (relax g) d) s ≤ atR g d s
 | [], _, _, _ => Int.le_refl _
 | l :: ls, d, h, hd => by
   rw [List.foldl_cons]
   exact Int.le_trans (fold_le hg hs ls _ (fun x hx => h x (by simp [hx])) (by rw [relax_len]; exact hd)) (relax_le hg hd (h l (by simp)) hs)
theorem roundD_do {g : Topo} (hg : g.Ok) {d : List Int} (hd : g.rs.length ≤ d.length) {x y c : Int} (h : price g.ls x y = some c) (hy : atR g d y < far) : atR g (roundD g d) x ≤ c + atR g d y := by
 obtain ⟨l, hl, h1⟩ := relax_do hg h hy
 have hx := price_has hg h
 obtain ⟨p, q, e⟩ := List.append_of_mem hl
 have hp : ∀ z ∈ p, z ∈ g.ls := fun z hz => by rw [e]; simp [hz]
 have hq : ∀ z ∈ q, z ∈ g.ls := fun z hz => by rw [e]; simp [hz]
 rw [roundD, e, List.foldl_append, List.foldl_cons]
 have hlp : g.rs.length ≤ (p.foldl (relax g) d).length := by rw [fold_len]; exact hd
 refine Int.le_trans (fold_le hg hx.1 q _ hq (by rw [relax_len]; exact hlp)) (h1 _ hlp (fold_le hg hx.2 p d hp hd))
theorem roundD_le {g : Topo} (hg : g.Ok) {d : List Int} (hd : g.rs.length ≤ d.length) {s : Int} (hs : hasR g.rs s = true) : atR g (roundD g d) s ≤ atR g d s := fold_le hg hs g.ls d (fun _ h => h) hd
theorem roundD_len (g : Topo) (d : List Int) : (roundD g d).length = d.length := fold_len g g.ls d
def Known (g : Topo) (to : Int) (k : Nat) (d : List Int) : Prop := ∀ j ≤ k, ∀ x v, Wk g to j x v → v < far → atR g d x ≤ v
theorem Known.next {g : Topo} (hg : g.Ok) {to : Int} (hto : hasR g.rs to = true) {k : Nat} {d : List Int} (hd : g.rs.length ≤ d.length) (h : Known g to k d) : Known g to (k + 1) (roundD g d) := by
 intro j hj x v hw hv
 cases hw with
 | nil => exact Int.le_trans (roundD_le hg hd hto) (h 0 (by omega) _ _ .nil (by unfold far; omega))
 | @cons k' _ y c w hp hw =>
   have hc := price_le hg hp
   have h1 := h k' (by omega) y w hw (by omega)
   have h2 := roundD_do hg hd hp (by omega)
   omega
theorem Known.rounds {g : Topo} (hg : g.Ok) {to : Int} (hto : hasR g.rs to = true) : ∀ (n k : Nat) (d : List Int), g.rs.length ≤ d.length → Known g to k d → Known g to (k + n) (roundsD g n d)
 | 0, k, d, _, h => h
 | n + 1, k, d, hd, h => by
   have := Known.rounds hg hto n (k + 1) (roundD g d) (by rw [roundD_len]; exact hd) (h.next hg hto hd)
   rw [roundsD, show k + (n + 1) = k + 1 + n by omega]
   exact this
theorem atR_dist0 {g : Topo} {to x : Int} (hx : hasR g.rs x = true) : atR g (dist0 g to) x = if x = to then 0 else far := by
 obtain ⟨i, hi⟩ := placeR_some hx
 obtain ⟨y, h1, rfl⟩ := placeR_get hi
 simp only [atR, hi, dist0]
 rw [List.getD_eq_getElem?_getD, List.getElem?_map, h1]
 rfl
def Real (g : Topo) (to : Int) (d : List Int) : Prop := ∀ x, hasR g.rs x = true → atR g d x = far ∨ ∃ k, Wk g to k x (atR g d x)
theorem Real.relax {g : Topo} (hg : g.Ok) {to : Int} {d : List Int} (hd : g.rs.length ≤ d.length) (hb : Bd d) (h : Real g to d) {l : Lk} (hl : l ∈ g.ls) : Real g to (relax g d l) := by
 intro x hx
 obtain ⟨ha, hb'⟩ := hg.ends' hl
 have hpr := price_of hg.lpw (fun _ h => hg.lab h) hl
 have hB := atR_bd (g := g) hb
 rw [atR_relax hg hd hl hx]
 have hA : (if atR g d l.b < far then min (atR g d l.a) (l.ca + atR g d l.b) else atR g d l.a) = far ∨ ∃ k, Wk g to k l.a (if atR g d l.b < far then min (atR g d l.a) (l.ca + atR g d l.b) else atR g d l.a) := by
  split
  ·rename_i hlt
   by_cases hm : atR g d l.a ≤ l.ca + atR g d l.b
   ·rw [Int.min_eq_left hm]; exact h _ ha
   ·rw [Int.min_eq_right (by omega)]
    rcases h _ hb' with h1 | ⟨k, h1⟩
    ·omega
    ·exact .inr ⟨k + 1, .cons hpr.1 h1⟩
  ·exact h _ ha
 split
 ·rename_i e; subst e; exact hA
 split
 ·rename_i e; subst e
  generalize (if atR g d l.b < far then min (atR g d l.a) (l.ca + atR g d l.b) else atR g d l.a) = m at hA
  split
  ·by_cases hm : atR g d l.b ≤ l.cb + m
   ·rw [Int.min_eq_left hm]; exact h _ hb'
   ·rw [Int.min_eq_right (by omega)]
    rcases hA with h1 | ⟨k, h1⟩
    ·omega
    ·exact .inr ⟨k + 1, .cons hpr.2 h1⟩
  ·exact h _ hb'
 ·exact h _ hx
theorem dist0_bd (g : Topo) (to : Int) : Bd (dist0 g to) := fun v hv => by
 obtain ⟨x, _, rfl⟩ := List.mem_map.1 hv
 unfold far
 split <;> omega
theorem dist_real {g : Topo} (hg : g.Ok) {to : Int} (hto : hasR g.rs to = true) : Real g to (dist g to) := by
 have := roundsD_prop (g := g) (p := fun d => g.rs.length ≤ d.length ∧ Bd d ∧ Real g to d) (fun d l hl ⟨h1, h2, h3⟩ => ⟨by rw [relax_len]; exact h1, h2.relax (hg.c hl).1.1 (hg.c hl).2.1, h3.relax hg h1 h2 hl⟩) g.rs.length (dist0 g to) ⟨by simp [dist0], dist0_bd g to, fun x hx => by
  rw [atR_dist0 hx]
  split
  ·rename_i e; subst e; exact .inr ⟨0, .nil⟩
  ·exact .inl rfl⟩
 exact this.2.2
theorem dist_known {g : Topo} (hg : g.Ok) {to : Int} (hto : hasR g.rs to = true) {k : Nat} {x v : Int} (h : Wk g to k x v) (hv : v < far) : atR g (dist g to) x ≤ v := by
 obtain ⟨j, w, h1, h2, h3⟩ := h.short hg hto
 have := Known.rounds hg hto g.rs.length 0 (dist0 g to) (by simp [dist0]) (fun i hi x v hw hv => by
  obtain rfl : i = 0 := by omega
  cases hw
  rw [atR_dist0 hto, if_pos rfl]; omega)
 have := this j (by omega) x w h3 (by omega)
 rw [dist]; omega
def dst (g : Topo) (to x : Int) : Int := atR g (dist g to) x
theorem dst_bd {g : Topo} (hg : g.Ok) (to x : Int) : 0 ≤ dst g to x ∧ dst g to x ≤ far := atR_bd (dist_bd hg to) x
theorem dst_walk {g : Topo} (hg : g.Ok) {to : Int} (hto : hasR g.rs to = true) {k : Nat} {x v : Int} (h : Wk g to k x v) : dst g to x ≤ v ∧ dst g to x < far := by
 obtain ⟨j, w, h1, h2, h3⟩ := h.short hg hto
 have hl := h3.le hg
 have hn := hg.nr
 have := dist_known hg hto h3 (by unfold far; omega)
 unfold dst far at *
 omega
theorem dst_real {g : Topo} (hg : g.Ok) {to : Int} (hto : hasR g.rs to = true) {x : Int} (hx : hasR g.rs x = true) (h : dst g to x < far) : ∃ k, Wk g to k x (dst g to x) := by
 rcases dist_real hg hto x hx with h1 | h1
 ·exact absurd h1 (Int.ne_of_lt h)
 ·exact h1
theorem dst_zero {g : Topo} (hg : g.Ok) {to : Int} (hto : hasR g.rs to = true) {x : Int} (hx : hasR g.rs x = true) (h : dst g to x = 0) : x = to := by
 obtain ⟨k, hk⟩ := dst_real hg hto hx (by rw [h]; unfold far; omega)
 rw [h] at hk
 have := hk.nonneg hg
 generalize hv : (0 : Int) = v at hk this
 cases hk with
 | nil => rfl
 | cons hp hw => omega
theorem dst_link {g : Topo} (hg : g.Ok) {to : Int} (hto : hasR g.rs to = true) {x y c : Int} (h : price g.ls x y = some c) (hy : dst g to y < far) : dst g to x ≤ c + dst g to y ∧ dst g to x < far := by
 obtain ⟨k, hk⟩ := dst_real hg hto (price_has hg h).2 hy
 exact dst_walk hg hto (.cons h hk)
theorem dst_next {g : Topo} (hg : g.Ok) {to : Int} (hto : hasR g.rs to = true) {x : Int} (hx : hasR g.rs x = true) (hne : x ≠ to) (h : dst g to x < far) : ∃ y c, price g.ls x y = some c ∧ dst g to y < far ∧ c + dst g to y = dst g to x := by
 obtain ⟨k, hk⟩ := dst_real hg hto hx h
 generalize hv : dst g to x = v at hk
 cases hk with
 | nil => exact absurd rfl hne
 | @cons k' _ y c w hp hw =>
   have h1 := dst_walk hg hto hw
   have h2 := dst_link hg hto hp h1.2
   exact ⟨y, c, hp, h1.2, by omega⟩
theorem mem_steps {g : Topo} (hg : g.Ok) {to : Int} {x y : Int} : y ∈ steps g (dist g to) x ↔ dst g to x ≠ far ∧ dst g to x ≠ 0 ∧ dst g to y < far ∧ ∃ c, price g.ls x y = some c ∧ c + dst g to y = dst g to x := by
 unfold steps
 show y ∈ (if dst g to x = far ∨ dst g to x = 0 then [] else _) ↔ _
 split
 ·rename_i h
  constructor
  ·simp
  ·rintro ⟨h1, h2, _⟩; exact (h.elim h1 h2).elim
 ·rename_i h
  rw [List.mem_filter, near_iff hg]
  have e : stepOK g (dist g to) x y = (decide (dst g to y < far) && decide ((price g.ls x y).getD 0 + dst g to y = dst g to x)) := rfl
  rw [e]
  simp only [Bool.and_eq_true, decide_eq_true_eq]
  constructor
  ·rintro ⟨⟨c, hc⟩, h1, h2⟩
   exact ⟨fun a => h (.inl a), fun a => h (.inr a), h1, c, hc, by simpa [hc] using h2⟩
  ·rintro ⟨_, _, h1, c, hc, h2⟩
   exact ⟨⟨c, hc⟩, h1, by simpa [hc] using h2⟩
theorem steps_some {g : Topo} (hg : g.Ok) {to : Int} (hto : hasR g.rs to = true) {x : Int} (hx : hasR g.rs x = true) (hne : x ≠ to) (h : dst g to x < far) : ∃ y, y ∈ steps g (dist g to) x := by
 obtain ⟨y, c, h1, h2, h3⟩ := dst_next hg hto hx hne h
 exact ⟨y, (mem_steps hg).2 ⟨by omega, fun e => hne (dst_zero hg hto hx e), h2, c, h1, h3⟩⟩
inductive Thru (g : Topo) (t f : Int) : Int → Prop
 | nil : Thru g t f f
 | via {x y : Int} : Thru g t f x → y ∈ steps g (dist g t) x → capR g.rs y = false → Thru g t f y
def HopR (g : Topo) (t f n : Int) : Prop := ∃ x, Thru g t f x ∧ n ∈ steps g (dist g t) x ∧ capR g.rs n = true
structure HopI2 (g : Topo) (t f : Int) (s : List Int × List Int) : Prop where
 nd : s.1.Nodup
 seen : ∀ x ∈ s.1, Thru g t f x ∧ hasR g.rs x = true
 asc : s.2.Pairwise (· < ·)
 out : ∀ x ∈ s.2, HopR g t f x
theorem HopI2.step {g : Topo} {t f x n : Int} {s : List Int × List Int} (h : HopI2 g t f s) (hx : Thru g t f x) (hn : n ∈ steps g (dist g t) x) : HopI2 g t f (hopIn g s n) ∧ (∀ y ∈ s.2, y ∈ (hopIn g s n).2) ∧ (if capR g.rs n = true then n ∈ (hopIn g s n).2 else n ∈ (hopIn g s n).1) := by
 unfold hopIn
 by_cases hc : capR g.rs n = true
 ·rw [if_pos hc, if_pos hc]
  obtain ⟨h3, h4⟩ := insI_asc n h.asc
  refine ⟨⟨h.nd, h.seen, h3, fun y hy => ?_⟩, fun y hy => (h4 y).2 (.inl hy), (h4 n).2 (.inr rfl)⟩
  rcases (h4 y).1 hy with hy | rfl
  ·exact h.out y hy
  ·exact ⟨x, hx, hn, hc⟩
 ·rw [if_neg hc, if_neg hc]
  by_cases hh : hasI s.1 n = true
  ·rw [if_pos hh]
   exact ⟨h, fun _ h => h, by simpa [hasI] using hh⟩
  ·rw [if_neg hh]
   have hni : n ∉ s.1 := by simpa [hasI] using hh
   refine ⟨⟨List.nodup_append.2 ⟨h.nd, by simp, fun a ha b hb => by simp at hb; subst hb; exact fun e => hni (e ▸ ha)⟩, fun y hy => ?_, h.asc, h.out⟩, fun _ h => h, by simp⟩
   rcases List.mem_append.1 hy with hy | hy
   ·exact h.seen y hy
   ·simp at hy; subst hy
    exact ⟨.via hx hn (by simpa using hc), steps_has hn⟩
theorem steps_dst {g : Topo} (hg : g.Ok) {t x y : Int} (h : y ∈ steps g (dist g t) x) : dst g t y < dst g t x ∧ dst g t x < far := by
 obtain ⟨h1, h2, h3, c, h4, h5⟩ := (mem_steps hg).1 h
 have := price_le hg h4
 have := dst_bd hg t x
 omega
theorem Thru.le {g : Topo} (hg : g.Ok) {t f x : Int} (h : Thru g t f x) : dst g t x ≤ dst g t f := by
 induction h with
 | nil => exact Int.le_refl _
 | via _ hy _ ih => have := steps_dst hg hy; omega
theorem HopR.near {g : Topo} (hg : g.Ok) {t f n : Int} (h : HopR g t f n) : dst g t n < dst g t f ∧ dst g t f < far ∧ dst g t n < far ∧ capR g.rs n = true ∧ hasR g.rs n = true := by
 obtain ⟨x, hx, hn, hc⟩ := h
 have h1 := hx.le hg
 have h2 := steps_dst hg hn
 obtain ⟨_, _, h3, _⟩ := (mem_steps hg).1 hn
 refine ⟨by omega, ?_, h3, hc, steps_has hn⟩
 have h4 := dst_bd hg t f
 cases hx with
 | nil => exact h2.2
 | via h5 h6 h7 =>
   have : ∀ z, Thru g t f z → z = f ∨ dst g t f < far := fun z hz => by
    induction hz with
    | nil => exact .inl rfl
    | via a b _ ih =>
      rcases ih with e | e
      ·subst e; exact .inr (steps_dst hg b).2
      ·exact .inr e
   rcases this x (.via h5 h6 h7) with e | e
   ·subst e; exact h2.2
   ·exact e
theorem HopR.some {g : Topo} (hg : g.Ok) {t f : Int} (hf : hasR g.rs f = true) (ht : hasR g.rs t = true) (hc : capR g.rs t = true) (hne : f ≠ t) (hd : dst g t f < far) : ∃ n, HopR g t f n := by
 have key : ∀ (m : Nat) (x : Int), (dst g t x).toNat ≤ m → Thru g t f x → hasR g.rs x = true → x ≠ t → dst g t x < far → ∃ n, HopR g t f n := by
  intro m
  induction m with
  | zero =>
    intro x hm hx hh hn hl
    have := dst_bd hg t x
    exact absurd (dst_zero hg ht hh (by omega)) hn
  | succ m ih =>
    intro x hm hx hh hn hl
    obtain ⟨y, hy⟩ := steps_some hg ht hh hn hl
    by_cases hcy : capR g.rs y = true
    ·exact ⟨y, x, hx, hy, hcy⟩
    ·have h1 := steps_dst hg hy
     obtain ⟨_, _, h3, _⟩ := (mem_steps hg).1 hy
     have := dst_bd hg t y
     exact ih y (by omega) (.via hx hy (by simpa using hcy)) (steps_has hy) (fun e => by subst e; exact hcy hc) h3
 exact key _ f (Nat.le_refl _) .nil hf hne hd
set_option linter.unusedVariables false
structure Fits (b : Tb) (p : Pk) : Prop where
 ck : chk b = 0
 sd : b.sd = p.subd
 len : b.len = p.len
 ok : p.ok = true
 mode : p.mode ≠ 2
theorem Fits.bit {b : Tb} {p : Pk} (h : Fits b p) {k : Nat} (hk : k < 64) (hb : p.bits.getLsbD k = true) : (k : Int) < p.len := (ok_bits h.ok).2 k hk hb
theorem hopAt_eq {b : Tb} {p : Pk} (hc : chk b = 0) (k : Nat) : hopAt b p k = hopB b (idAt p k) (plnP p) := hop_eq hc p _
theorem hopAt_at {b : Tb} {p : Pk} (hc : chk b = 0) {k : Nat} (h0 : hopAt b p k ≠ 0) : atB p.set k p.len = true ∧ 1 ≤ hopAt b p k ∧ hopAt b p k ≤ 99 := by
 rw [hopAt_eq hc] at h0 ⊢
 refine ⟨Classical.byContradiction fun g => h0 (by rw [idAt, if_neg g]; exact hop_zero hc _), hop_range hc h0⟩
theorem mask_bit {b : Tb} {p : Pk} (h : Fits b p) {k : Nat} (hk : k < 64) (hb : p.bits.getLsbD k = true) {n : Int} (hn : 1 ≤ n ∧ n ≤ 99) : (maskP b (plnP p) p.set n).getLsbD k = true ↔ hopAt b p k = n := by
 have hl := (ok_bits h.ok).1
 have hlen : b.len ≤ 64 := by
  rw [h.len]; simp [validLen] at hl; omega
 have hkl := h.bit hk hb
 rw [mask_eq h.ck h.ok hn, bitsR_bit b _ _ _ hk _ (by omega), h.len]
 constructor
 ·rintro ⟨h1, h2, h3, h4⟩
  rw [hopAt_eq h.ck, idAt, if_pos h2]; exact h4
 ·intro e
  have h2 := hopAt_at h.ck (k := k) (p := p) (by omega)
  rw [hopAt_eq h.ck, idAt, if_pos h2.1] at e
  exact ⟨by omega, h2.1, by omega, e⟩
noncomputable def cpk (b : Tb) (p : Pk) (h : Int) : Pk := pkMask p (maskP b (plnP p) p.set h)
theorem cpk_bit {b : Tb} {p : Pk} (h : Fits b p) {k : Nat} (hk : k < 64) {n : Int} (hn : 1 ≤ n ∧ n ≤ 99) : (cpk b p n).bits.getLsbD k = true ↔ p.bits.getLsbD k = true ∧ hopAt b p k = n := by
 simp only [cpk, pkMask, BitVec.getLsbD_and, Bool.and_eq_true]
 constructor
 ·rintro ⟨h1, h2⟩; exact ⟨h1, (mask_bit h hk h1 hn).1 h2⟩
 ·rintro ⟨h1, h2⟩; exact ⟨h1, (mask_bit h hk h1 hn).2 h2⟩
theorem mask_ok {p : Pk} (h : p.ok = true) (ht : p.ttl ≠ 0) (m : BitVec 64) : (pkMask p m).ok = true := by
 have h2 := ok_ttl h
 cases p
 simp only [pkMask] at *
 simp only [Pk.ok, Bool.and_eq_true, validB, decide_eq_true_eq, insB] at h ⊢
 obtain ⟨a1, a2, a3, a4, ⟨b1, b2⟩, a5, a6⟩ := h
 refine ⟨a1, a2, a3, a4, ⟨b1, ?_⟩, ⟨by omega, by omega⟩, a6⟩
 apply BitVec.eq_of_getLsbD_eq
 intro k hk
 have h3 := congrArg (fun z => z.getLsbD k) b2
 simp only [BitVec.getLsbD_and, BitVec.getLsbD_not, hk, decide_true, Bool.true_and, BitVec.getLsbD_zero] at h3 ⊢
 revert h3
 generalize BitVec.getLsbD _ k = x
 generalize BitVec.getLsbD _ k = y
 generalize BitVec.getLsbD _ k = z
 cases x <;> cases y <;> cases z <;> simp
theorem Fits.mask {b c : Tb} {p : Pk} (h : Fits b p) (hc : Fits c p) (ht : p.ttl ≠ 0) (m : BitVec 64) : Fits c (pkMask p m) :=
 ⟨hc.ck, hc.sd, hc.len, mask_ok h.ok ht m, h.mode⟩
theorem plnP_mask {p : Pk} (h : p.ok = true) (ht : p.ttl ≠ 0) (m : BitVec 64) : plnP (pkMask p m) = plnP p := by
 simp only [plnP, mask_ok h ht m, h, if_true]; rfl
theorem andNot_bit (R M : BitVec 64) {k : Nat} (hk : k < 64) : (R &&& ~~~ M).getLsbD k = true ↔ R.getLsbD k = true ∧ M.getLsbD k = false := by
 simp [hk]
theorem or_bit (R M : BitVec 64) {k : Nat} : (R ||| M).getLsbD k = true ↔ R.getLsbD k = true ∨ M.getLsbD k = true := by
 simp
theorem one_bit {j k : Nat} (hj : j < 64) (hk : k < 64) : (1#64 <<< j).getLsbD k = true ↔ k = j := by rw [bit_one hj hk]; simp
def Whole (b : Tb) (p : Pk) (R : BitVec 64) : Prop := (∀ k < 64, R.getLsbD k = true → p.bits.getLsbD k = true) ∧
 ∀ j k, j < 64 → k < 64 → p.bits.getLsbD j = true → hopAt b p j = hopAt b p k → hopAt b p k ≠ 0 → hopAt b p k ≠ b.r → R.getLsbD k = true → R.getLsbD j = true
structure FwdI (b : Tb) (p : Pk) (o o' : Out) (R : BitVec 64) : Prop where
 loc : ∀ k < 64, o'.loc.getLsbD k = true ↔ o.loc.getLsbD k = true ∨ (R.getLsbD k = true ∧ hopAt b p k ≠ 0 ∧ hopAt b p k = b.r)
 lost : ∀ k < 64, o'.lost.getLsbD k = true ↔ o.lost.getLsbD k = true ∨ (R.getLsbD k = true ∧ (hopAt b p k = 0 ∨ (hopAt b p k ≠ b.r ∧ p.ttl = 0)))
 cps : ∃ H : List Int, o'.cps = o.cps ++ H.map (fun h => (h, cpk b p h)) ∧ H.Nodup ∧ ∀ h, h ∈ H ↔ p.ttl ≠ 0 ∧ h ≠ 0 ∧ h ≠ b.r ∧ ∃ k < 64, R.getLsbD k = true ∧ hopAt b p k = h
theorem FwdI.nil {b : Tb} {p : Pk} (o : Out) : FwdI b p o o 0#64 := ⟨by simp, by simp, [], by simp, by simp, by simp⟩
theorem fwdG_spec {b : Tb} {p : Pk} (h : Fits b p) : ∀ (n : Nat) (o : Out) (R : BitVec 64), (bitsL R).length ≤ n → Whole b p R → FwdI b p o (fwdG b p n o R) R
 | 0, o, R, hn, _ => by
   obtain rfl := pop_zero (R := R) (by omega)
   exact .nil o
 | n + 1, o, R, hn, hW => by
   rw [fwdG]
   by_cases h0 : R = 0#64
   ·subst h0; rw [if_pos rfl]; exact .nil o
   rw [if_neg h0]
   obtain ⟨t1, t2, t3⟩ := tz_spec h0
   have hmb := fwdM_bit h.ck h.ok h.len hW.1 h0
   have hpop := pop_less t1 t2 hmb
   have hpz := hW.1 _ t1 t2
   generalize hj : tz R = j at t1 t2 t3 hmb hpop hpz
   by_cases c0 : hopAt b p j = 0
   ·have eM : fwdM b p R = 1#64 <<< j := by rw [fwdM, hj, if_pos (.inl c0)]
    have eO : fwdO b p o R = ⟨o.loc, o.lost ||| 1#64 <<< j, o.cps⟩ := by rw [fwdO, hj, if_pos c0]
    rw [eM] at hpop
    rw [eM, eO]
    have hb : ∀ k < 64, (R &&& ~~~ (1#64 <<< j)).getLsbD k = true ↔ R.getLsbD k = true ∧ k ≠ j := fun k hk => by rw [andNot_bit _ _ hk, bit_one t1 hk]; simp
    have ih := fwdG_spec h n ⟨o.loc, o.lost ||| 1#64 <<< j, o.cps⟩ (R &&& ~~~ (1#64 <<< j)) (by omega)
     ⟨fun k hk hb' => hW.1 k hk ((hb k hk).1 hb').1, fun i k hi hk hpi e e0 er hr => (hb i hi).2 ⟨hW.2 i k hi hk hpi e e0 er ((hb k hk).1 hr).1, fun e' => by subst e'; rw [c0] at e; exact e0 e.symm⟩⟩
    refine ⟨fun k hk => ?_, fun k hk => ?_, ?_⟩
    ·rw [ih.loc k hk, hb k hk]
     constructor
     ·rintro (a | ⟨⟨a1, a2⟩, a3⟩)
      ·exact .inl a
      ·exact .inr ⟨a1, a3⟩
     ·rintro (a | ⟨a1, a3⟩)
      ·exact .inl a
      ·exact .inr ⟨⟨a1, fun e => by subst e; exact a3.1 c0⟩, a3⟩
    ·rw [ih.lost k hk, hb k hk, or_bit, one_bit t1 hk]
     constructor
     ·rintro ((a | rfl) | ⟨⟨a1, a2⟩, a3⟩)
      ·exact .inl a
      ·exact .inr ⟨t2, .inl c0⟩
      ·exact .inr ⟨a1, a3⟩
     ·rintro (a | ⟨a1, a3⟩)
      ·exact .inl (.inl a)
      ·by_cases e : k = j
       ·exact .inl (.inr e)
       ·exact .inr ⟨⟨a1, e⟩, a3⟩
    ·obtain ⟨H, h1, h2, h3⟩ := ih.cps
     refine ⟨H, h1, h2, fun x => ?_⟩
     rw [h3]
     constructor
     ·rintro ⟨a1, a2, a3, k, hk, a4, a5⟩
      exact ⟨a1, a2, a3, k, hk, ((hb k hk).1 a4).1, a5⟩
     ·rintro ⟨a1, a2, a3, k, hk, a4, a5⟩
      exact ⟨a1, a2, a3, k, hk, (hb k hk).2 ⟨a4, fun e => by subst e; rw [c0] at a5; exact a2 a5.symm⟩, a5⟩
   by_cases c1 : hopAt b p j = b.r
   ·have eM : fwdM b p R = 1#64 <<< j := by rw [fwdM, hj, if_pos (.inr c1)]
    have eO : fwdO b p o R = ⟨o.loc ||| 1#64 <<< j, o.lost, o.cps⟩ := by rw [fwdO, hj, if_neg c0, if_pos c1]
    rw [eM] at hpop
    rw [eM, eO]
    have hb : ∀ k < 64, (R &&& ~~~ (1#64 <<< j)).getLsbD k = true ↔ R.getLsbD k = true ∧ k ≠ j := fun k hk => by rw [andNot_bit _ _ hk, bit_one t1 hk]; simp
    have ih := fwdG_spec h n ⟨o.loc ||| 1#64 <<< j, o.lost, o.cps⟩ (R &&& ~~~ (1#64 <<< j)) (by omega)
     ⟨fun k hk hb' => hW.1 k hk ((hb k hk).1 hb').1, fun i k hi hk hpi e e0 er hr => (hb i hi).2 ⟨hW.2 i k hi hk hpi e e0 er ((hb k hk).1 hr).1, fun e' => by subst e'; rw [c1] at e; exact er e.symm⟩⟩
    refine ⟨fun k hk => ?_, fun k hk => ?_, ?_⟩
    ·rw [ih.loc k hk, hb k hk, or_bit, one_bit t1 hk]
     constructor
     ·rintro ((a | rfl) | ⟨⟨a1, a2⟩, a3⟩)
      ·exact .inl a
      ·exact .inr ⟨t2, c0, c1⟩
      ·exact .inr ⟨a1, a3⟩
     ·rintro (a | ⟨a1, a3⟩)
      ·exact .inl (.inl a)
      ·by_cases e : k = j
       ·exact .inl (.inr e)
       ·exact .inr ⟨⟨a1, e⟩, a3⟩
    ·rw [ih.lost k hk, hb k hk]
     constructor
     ·rintro (a | ⟨⟨a1, a2⟩, a3⟩)
      ·exact .inl a
      ·exact .inr ⟨a1, a3⟩
     ·rintro (a | ⟨a1, a3⟩)
      ·exact .inl a
      ·exact .inr ⟨⟨a1, fun e => by subst e; exact a3.elim c0 fun a => a.1 c1⟩, a3⟩
    ·obtain ⟨H, h1, h2, h3⟩ := ih.cps
     refine ⟨H, h1, h2, fun x => ?_⟩
     rw [h3]
     constructor
     ·rintro ⟨a1, a2, a3, k, hk, a4, a5⟩
      exact ⟨a1, a2, a3, k, hk, ((hb k hk).1 a4).1, a5⟩
     ·rintro ⟨a1, a2, a3, k, hk, a4, a5⟩
      exact ⟨a1, a2, a3, k, hk, (hb k hk).2 ⟨a4, fun e => by subst e; rw [c1] at a5; exact a3 a5.symm⟩, a5⟩
   have hr := (hopAt_at h.ck c0).2
   have eM : fwdM b p R = togR b p R (hopAt b p j) := by rw [fwdM, hj, if_neg (fun h => h.elim c0 c1)]
   rw [eM] at hpop ⊢
   have htog : ∀ k < 64, (togR b p R (hopAt b p j)).getLsbD k = true ↔ R.getLsbD k = true ∧ hopAt b p k = hopAt b p j := fun k hk => by
    rw [togR, BitVec.getLsbD_and, Bool.and_eq_true]
    constructor
    ·rintro ⟨a1, a2⟩; exact ⟨a1, (mask_bit h hk (hW.1 k hk a1) hr).1 a2⟩
    ·rintro ⟨a1, a2⟩; exact ⟨a1, (mask_bit h hk (hW.1 k hk a1) hr).2 a2⟩
   have hb : ∀ k < 64, (R &&& ~~~ togR b p R (hopAt b p j)).getLsbD k = true ↔ R.getLsbD k = true ∧ hopAt b p k ≠ hopAt b p j := fun k hk => by
    rw [andNot_bit _ _ hk]
    constructor
    ·rintro ⟨a1, a2⟩; exact ⟨a1, fun e => by rw [(htog k hk).2 ⟨a1, e⟩] at a2; simp at a2⟩
    ·rintro ⟨a1, a2⟩
     refine ⟨a1, ?_⟩
     cases ht : (togR b p R (hopAt b p j)).getLsbD k with
     | false => rfl
     | true => exact absurd ((htog k hk).1 ht).2 a2
   have hW' : Whole b p (R &&& ~~~ togR b p R (hopAt b p j)) := ⟨fun k hk hb' => hW.1 k hk ((hb k hk).1 hb').1, fun i k hi hk hpi e e0 er hr => (hb i hi).2 ⟨hW.2 i k hi hk hpi e e0 er ((hb k hk).1 hr).1, by rw [e]; exact ((hb k hk).1 hr).2⟩⟩
   have hbits : (p.setB R).bits &&& togR b p R (hopAt b p j) = p.bits &&& maskP b (plnP p) p.set (hopAt b p j) := by
    apply BitVec.eq_of_getLsbD_eq
    intro k hk
    show (R &&& togR b p R (hopAt b p j)).getLsbD k = _
    rw [Bool.eq_iff_iff, BitVec.getLsbD_and, Bool.and_eq_true, htog k hk, BitVec.getLsbD_and, Bool.and_eq_true]
    constructor
    ·rintro ⟨_, a1, a2⟩
     have := hW.1 k hk a1
     exact ⟨this, (mask_bit h hk this hr).2 a2⟩
    ·rintro ⟨a1, a2⟩
     have e := (mask_bit h hk a1 hr).1 a2
     have := hW.2 k j hk t1 a1 e c0 c1 t2
     exact ⟨this, this, e⟩
   have hnz : (p.setB R).bits &&& togR b p R (hopAt b p j) ≠ 0#64 := fun e => by
    have := congrArg (fun z => z.getLsbD j) e
    simp only [BitVec.getLsbD_zero] at this
    change (R &&& togR b p R (hopAt b p j)).getLsbD j = false at this
    rw [BitVec.getLsbD_and, t2, (htog j t1).2 ⟨t2, rfl⟩] at this
    simp at this
   have hok := ok_setB h.ok hW.1
   by_cases ht : p.ttl = 0
   ·have eC : (pkmR (p.setB R) (togR b p R (hopAt b p j))).2 = false := by
     rw [pkmR, if_neg (fun a => a.2.1 ht)]
    have eO : fwdO b p o R = ⟨o.loc, o.lost ||| togR b p R (hopAt b p j), o.cps⟩ := by
     rw [fwdO, hj, if_neg c0, if_neg c1, if_neg (by rw [eC]; simp)]
    rw [eO]
    have ih := fwdG_spec h n ⟨o.loc, o.lost ||| togR b p R (hopAt b p j), o.cps⟩ _ (by omega) hW'
    refine ⟨fun k hk => ?_, fun k hk => ?_, ?_⟩
    ·rw [ih.loc k hk, hb k hk]
     constructor
     ·rintro (a | ⟨⟨a1, a2⟩, a3⟩)
      ·exact .inl a
      ·exact .inr ⟨a1, a3⟩
     ·rintro (a | ⟨a1, a3⟩)
      ·exact .inl a
      ·exact .inr ⟨⟨a1, fun e => c1 (by rw [← e]; exact a3.2)⟩, a3⟩
    ·rw [ih.lost k hk, hb k hk, or_bit, htog k hk]
     constructor
     ·rintro ((a | ⟨a1, a2⟩) | ⟨⟨a1, a2⟩, a3⟩)
      ·exact .inl a
      ·exact .inr ⟨a1, .inr ⟨by rw [a2]; exact c1, ht⟩⟩
      ·exact .inr ⟨a1, a3⟩
     ·rintro (a | ⟨a1, a3⟩)
      ·exact .inl (.inl a)
      ·by_cases e : hopAt b p k = hopAt b p j
       ·exact .inl (.inr ⟨a1, e⟩)
       ·exact .inr ⟨⟨a1, e⟩, a3⟩
    ·obtain ⟨H, h1, h2, h3⟩ := ih.cps
     refine ⟨H, h1, h2, fun x => ?_⟩
     rw [h3]
     exact ⟨fun a => absurd ht a.1, fun a => absurd ht a.1⟩
   ·have eC : pkmR (p.setB R) (togR b p R (hopAt b p j)) = (cpk b p (hopAt b p j), true) := by
     rw [pkmR, if_pos ⟨hok, ht, hnz⟩, pkMask, hbits]; rfl
    have eO : fwdO b p o R = ⟨o.loc, o.lost, o.cps ++ [(hopAt b p j, cpk b p (hopAt b p j))]⟩ := by
     rw [fwdO, hj, if_neg c0, if_neg c1, eC]; rfl
    rw [eO]
    have ih := fwdG_spec h n ⟨o.loc, o.lost, o.cps ++ [(hopAt b p j, cpk b p (hopAt b p j))]⟩ _ (by omega) hW'
    refine ⟨fun k hk => ?_, fun k hk => ?_, ?_⟩
    ·rw [ih.loc k hk, hb k hk]
     constructor
     ·rintro (a | ⟨⟨a1, a2⟩, a3⟩)
      ·exact .inl a
      ·exact .inr ⟨a1, a3⟩
     ·rintro (a | ⟨a1, a3⟩)
      ·exact .inl a
      ·exact .inr ⟨⟨a1, fun e => c1 (by rw [← e]; exact a3.2)⟩, a3⟩
    ·rw [ih.lost k hk, hb k hk]
     constructor
     ·rintro (a | ⟨⟨a1, a2⟩, a3⟩)
      ·exact .inl a
      ·exact .inr ⟨a1, a3⟩
     ·rintro (a | ⟨a1, a3⟩)
      ·exact .inl a
      ·refine .inr ⟨⟨a1, fun e => ?_⟩, a3⟩
       rcases a3 with a3 | a3
       ·exact c0 (by rw [← e]; exact a3)
       ·exact ht a3.2
    ·obtain ⟨H, h1, h2, h3⟩ := ih.cps
     refine ⟨hopAt b p j :: H, by rw [h1]; simp, List.nodup_cons.2 ⟨fun hm => ?_, h2⟩, fun x => ?_⟩
     ·obtain ⟨_, _, _, k, hk, a4, a5⟩ := (h3 _).1 hm
      exact ((hb k hk).1 a4).2 a5
     ·rw [List.mem_cons, h3]
      constructor
      ·rintro (rfl | ⟨a1, a2, a3, k, hk, a4, a5⟩)
       ·exact ⟨ht, c0, c1, j, t1, t2, rfl⟩
       ·exact ⟨a1, a2, a3, k, hk, ((hb k hk).1 a4).1, a5⟩
      ·rintro ⟨a1, a2, a3, k, hk, a4, a5⟩
       by_cases e : x = hopAt b p j
       ·exact .inl e
       ·exact .inr ⟨a1, a2, a3, k, hk, (hb k hk).2 ⟨a4, fun e' => e (by rw [← a5, e'])⟩, a5⟩
theorem fwd_spec {b : Tb} {p : Pk} (h : Fits b p) : fwdR b p = (fwdV b p, 0) ∧ FwdI b p out0 (fwdV b p) p.bits := by
 refine ⟨?_, fwdG_spec h 64 out0 p.bits (bitsL_len _) ⟨fun _ _ h => h, fun j k _ _ h _ _ _ _ => h⟩⟩
 rw [fwdR, if_neg (by simp [h.ck, h.ok]), if_neg h.mode, if_neg (by simp [h.sd, h.len])]
def Trc.at (t : Trc) (k : Nat) : Trc := ⟨t.dl.filter fun d => d.2.bits.getLsbD k, t.cr.filter fun c => c.2.2.getLsbD k, t.ls.filter fun x => x.2.getLsbD k⟩
def Trc.app (t u : Trc) : Trc := ⟨t.dl ++ u.dl, t.cr ++ u.cr, t.ls ++ u.ls⟩
theorem Trc.app_nil (t : Trc) : t.app tr0 = t := by simp [Trc.app, tr0]
theorem Trc.app_assoc (t u v : Trc) : (t.app u).app v = t.app (u.app v) := by simp [Trc.app]
structure FitL (l : List Tb) (p : Pk) : Prop where
 ok : p.ok = true
 all : ∀ b ∈ l, Fits b p
theorem FitL.mask {l : List Tb} {p : Pk} (h : FitL l p) (ht : p.ttl ≠ 0) (m : BitVec 64) : FitL l (pkMask p m) := ⟨mask_ok h.ok ht m, fun b hb => (h.all b hb).mask (h.all b hb) ht m⟩
noncomputable def way (l : List Tb) (k : Nat) : Nat → Int × Pk → Trc
 | 0, _ => tr0
 | n + 1, q => match findT l q.1 with
   | none => ⟨[], [], [(q.1, q.2.bits)]⟩
   | some b => if hopAt b q.2 k = 0 then ⟨[], [], [(q.1, (fwdV b q.2).lost)]⟩
     else if hopAt b q.2 k = b.r then ⟨[(q.1, onlyR q.2 k)], [], []⟩
     else if q.2.ttl = 0 then ⟨[], [], [(q.1, (fwdV b q.2).lost)]⟩
     else (⟨[], [(q.1, hopAt b q.2 k, (cpk b q.2 (hopAt b q.2 k)).bits)], []⟩ : Trc).app (way l k n (hopAt b q.2 k, cpk b q.2 (hopAt b q.2 k)))
noncomputable def wayQ (l : List Tb) (k : Nat) : List (Int × Pk) → Trc
 | [] => tr0
 | q :: _ => way l k (q.2.ttl.toNat + 1) q
theorem filter_nodup {α : Type} [DecidableEq α] {l : List α} (h : l.Nodup) (a : α) : l.filter (fun x => decide (x = a)) = if a ∈ l then [a] else [] := by
 induction l with
 | nil => simp
 | cons x l ih =>
   rw [List.nodup_cons] at h
   rw [List.filter_cons, ih h.2]
   by_cases e : x = a
   ·subst e; simp [h.1]
   ·simp [e, Ne.symm e]
theorem bitsL_nodup (B : BitVec 64) : (bitsL B).Nodup := List.nodup_range.sublist List.filter_sublist
theorem mem_bitsL {B : BitVec 64} {k : Nat} : k ∈ bitsL B ↔ k < 64 ∧ B.getLsbD k = true := by simp [bitsL]
theorem onlyR_eq {p : Pk} (h : p.ok = true) {j : Nat} (hj : j < 64) (hb : p.bits.getLsbD j = true) : onlyR p j = ⟨p.mode, p.subd, p.set, p.len, p.ttl, p.ent, p.ing, p.proto, 1#64 <<< j, p.pay⟩ := by
 rw [onlyR, if_pos ⟨h, by omega, by omega, by simpa using hb⟩]; simp
theorem locV_at {p : Pk} (h : p.ok = true) {o : Out} (ho : ∀ k < 64, o.loc.getLsbD k = true → p.bits.getLsbD k = true) (r : Int) {k : Nat} (hk : k < 64) :
  (locV r o p).filter (fun d => d.2.bits.getLsbD k) = if o.loc.getLsbD k = true then [(r, onlyR p k)] else [] := by
 have e : (locV r o p).filter (fun d => d.2.bits.getLsbD k) = ((bitsL o.loc).filter fun j => decide (j = k)).map fun (j : Nat) => (r, onlyR p j) := by
  unfold locV bitsI
  rw [List.map_map, List.filter_map]
  congr 1
  apply List.filter_congr
  intro j hj
  obtain ⟨h1, h2⟩ := mem_bitsL.1 hj
  show (onlyR p (Int.ofNat j)).bits.getLsbD k = _
  have := onlyR_eq h h1 (ho j h1 h2)
  simp only [Int.ofNat_eq_natCast] at *
  rw [this]
  show (1#64 <<< j).getLsbD k = _
  rw [bit_one h1 hk]
  by_cases e : k = j
  ·subst e; simp
  ·simp [e, Ne.symm e]
 rw [e, filter_nodup (bitsL_nodup _)]
 by_cases hl : o.loc.getLsbD k = true
 ·rw [if_pos (mem_bitsL.2 ⟨hk, hl⟩), if_pos hl]; rfl
 ·rw [if_neg (fun a => hl (mem_bitsL.1 a).2), if_neg hl]; rfl
theorem FwdI.hop {b : Tb} {p : Pk} (h : Fits b p) {o : Out} (hF : FwdI b p out0 o p.bits) {k : Nat} (hk : k < 64) :
  o.cps.filter (fun c => c.2.bits.getLsbD k) = if p.bits.getLsbD k = true ∧ p.ttl ≠ 0 ∧ hopAt b p k ≠ 0 ∧ hopAt b p k ≠ b.r then [(hopAt b p k, cpk b p (hopAt b p k))] else [] := by
 obtain ⟨H, h1, h2, h3⟩ := hF.cps
 rw [h1]
 simp only [out0, List.nil_append]
 rw [List.filter_map]
 by_cases hb : p.bits.getLsbD k = true
 ·have e : H.filter ((fun c : Int × Pk => c.2.bits.getLsbD k) ∘ fun x => (x, cpk b p x)) = H.filter fun x => decide (x = hopAt b p k) := by
   apply List.filter_congr
   intro x hx
   obtain ⟨_, a1, a2, j, hj, a3, a4⟩ := (h3 x).1 hx
   have hr := (hopAt_at h.ck (k := j) (p := p) (by rw [a4]; exact a1)).2
   rw [a4] at hr
   show (cpk b p x).bits.getLsbD k = _
   rw [Bool.eq_iff_iff, cpk_bit h hk hr]
   simp [hb, eq_comm]
  rw [e, filter_nodup h2]
  by_cases hc : p.ttl ≠ 0 ∧ hopAt b p k ≠ 0 ∧ hopAt b p k ≠ b.r
  ·rw [if_pos ((h3 _).2 ⟨hc.1, hc.2.1, hc.2.2, k, hk, hb, rfl⟩), if_pos ⟨hb, hc⟩]; rfl
  ·rw [if_neg (fun a => hc ⟨((h3 _).1 a).1, ((h3 _).1 a).2.1, ((h3 _).1 a).2.2.1⟩), if_neg (fun a => hc a.2)]; rfl
 ·rw [if_neg (fun a => hb a.1)]
  simp only [List.map_eq_nil_iff, List.filter_eq_nil_iff]
  intro x hx hc
  obtain ⟨_, a1, a2, j, hj, a3, a4⟩ := (h3 x).1 hx
  have hr := (hopAt_at h.ck (k := j) (p := p) (by rw [a4]; exact a1)).2
  rw [a4] at hr
  exact hb ((cpk_bit h hk hr).1 hc).1
theorem lost_at (l : List (Int × BitVec 64)) (r : Int) (B : BitVec 64) (k : Nat) :
  (if B = 0#64 then l else l ++ [(r, B)]).filter (fun x => x.2.getLsbD k) = l.filter (fun x => x.2.getLsbD k) ++ if B.getLsbD k = true then [(r, B)] else [] := by
 by_cases h : B = 0#64
 ·subst h; simp
 ·rw [if_neg h, List.filter_append, List.filter_cons]
  split <;> simp
theorem step_some {l : List Tb} {q : Int × Pk} {b : Tb} (hF : FitL l q.2) (hf : findT l q.1 = some b) (t : Trc) {k : Nat} (hk : k < 64) :
  (stepT l q t).at k = (t.at k).app ⟨if (fwdV b q.2).loc.getLsbD k = true then [(q.1, onlyR q.2 k)] else [], ((nextQ l q).filter fun c => c.2.bits.getLsbD k).map (fun c => (q.1, c.1, c.2.bits)), if (fwdV b q.2).lost.getLsbD k = true then [(q.1, (fwdV b q.2).lost)] else []⟩ := by
 have hb := hF.all b (findT_mem hf).1
 obtain ⟨h1, h2⟩ := fwd_spec hb
 have hn : nextQ l q = (fwdV b q.2).cps := by simp [nextQ, hf, h1]
 rw [hn]
 simp only [stepT, hf, h1, Trc.at, Trc.app, List.filter_append]
 rw [locV_at hF.ok (fun k hk a => by
  rcases (h2.loc k hk).1 a with a | a
  ·simp [out0] at a
  ·exact a.1) q.1 hk, lost_at, List.filter_map]
 rfl
theorem step_in {l : List Tb} {q : Int × Pk} (hF : FitL l q.2) (t : Trc) {k : Nat} (hk : k < 64) (hq : q.2.bits.getLsbD k = true) :
  ((nextQ l q).filter fun c => c.2.bits.getLsbD k).length ≤ 1 ∧ ((stepT l q t).at k).app (wayQ l k ((nextQ l q).filter fun c => c.2.bits.getLsbD k)) = (t.at k).app (way l k (q.2.ttl.toNat + 1) q) := by
 cases hf : findT l q.1 with
 | none =>
   have hn : nextQ l q = [] := by simp [nextQ, hf]
   rw [hn]
   refine ⟨by simp, ?_⟩
   simp [stepT, hf, way, Trc.at, Trc.app, wayQ, tr0, List.filter_append, List.filter_cons, hq]
 | some b =>
   have hb := hF.all b (findT_mem hf).1
   obtain ⟨h1, h2⟩ := fwd_spec hb
   have hn : nextQ l q = (fwdV b q.2).cps := by simp [nextQ, hf, h1]
   rw [step_some hF hf t hk, hn, h2.hop hb hk, Trc.app_assoc]
   have hl := h2.loc k hk
   have hs := h2.lost k hk
   simp only [out0, BitVec.getLsbD_zero, Bool.false_eq_true, false_or, hq, true_and] at hl hs
   by_cases c0 : hopAt b q.2 k = 0
   ·have l1 : ¬ (fwdV b q.2).loc.getLsbD k = true := fun a => (hl.1 a).1 c0
    have l2 : (fwdV b q.2).lost.getLsbD k = true := hs.2 (.inl c0)
    rw [if_neg l1, if_neg (fun a => a.2.2.1 c0), if_pos l2]
    refine ⟨by simp, ?_⟩
    simp [way, hf, c0, wayQ, Trc.app, tr0]
   by_cases c1 : hopAt b q.2 k = b.r
   ·have l1 : (fwdV b q.2).loc.getLsbD k = true := hl.2 ⟨c0, c1⟩
    have l2 : ¬ (fwdV b q.2).lost.getLsbD k = true := fun a => by
     rcases hs.1 a with a | a
     ·exact c0 a
     ·exact a.1 c1
    rw [if_pos l1, if_neg (fun a => a.2.2.2 c1), if_neg l2]
    refine ⟨by simp, ?_⟩
    simp only [way, hf, if_neg c0, if_pos c1]
    simp [wayQ, Trc.app, tr0]
   have l1 : ¬ (fwdV b q.2).loc.getLsbD k = true := fun a => c1 (hl.1 a).2
   by_cases c2 : q.2.ttl = 0
   ·have l2 : (fwdV b q.2).lost.getLsbD k = true := hs.2 (.inr ⟨c1, c2⟩)
    rw [if_neg l1, if_neg (fun a => a.2.1 c2), if_pos l2]
    refine ⟨by simp, ?_⟩
    simp only [way, hf, if_neg c0, if_neg c1, if_pos c2]
    simp [wayQ, Trc.app, tr0]
   ·have l2 : ¬ (fwdV b q.2).lost.getLsbD k = true := fun a => by
     rcases hs.1 a with a | a
     ·exact c0 a
     ·exact c2 a.2
    rw [if_neg l1, if_pos ⟨hq, c2, c0, c1⟩, if_neg l2]
    refine ⟨by simp, ?_⟩
    have ht := ok_ttl hF.ok
    have e : (cpk b q.2 (hopAt b q.2 k)).ttl.toNat + 1 = q.2.ttl.toNat := by simp only [cpk, pkMask]; omega
    rw [way]
    simp only [hf, if_neg c0, if_neg c1, if_neg c2, wayQ, e, List.map_cons, List.map_nil]
theorem step_out {l : List Tb} {q : Int × Pk} (hF : FitL l q.2) (t : Trc) {k : Nat} (hk : k < 64) (hq : ¬ q.2.bits.getLsbD k = true) :
  ((nextQ l q).filter fun c => c.2.bits.getLsbD k) = [] ∧ (stepT l q t).at k = t.at k := by
 cases hf : findT l q.1 with
 | none =>
   have hn : nextQ l q = [] := by simp [nextQ, hf]
   rw [hn]
   refine ⟨by simp, ?_⟩
   simp [stepT, hf, Trc.at, List.filter_append, List.filter_cons, hq]
 | some b =>
   have hb := hF.all b (findT_mem hf).1
   obtain ⟨h1, h2⟩ := fwd_spec hb
   have hn : nextQ l q = (fwdV b q.2).cps := by simp [nextQ, hf, h1]
   have hl := h2.loc k hk
   have hs := h2.lost k hk
   simp only [out0, BitVec.getLsbD_zero, Bool.false_eq_true, false_or, hq, false_and, iff_false] at hl hs
   rw [step_some hF hf t hk, hn, h2.hop hb hk, if_neg (fun a => hq a.1), if_neg hl, if_neg hs]
   exact ⟨rfl, Trc.app_nil _⟩
theorem next_fit {l : List Tb} {q : Int × Pk} (hF : FitL l q.2) : ∀ c ∈ nextQ l q, FitL l c.2 := fun c hc => by
 cases hf : findT l q.1 with
 | none => simp [nextQ, hf] at hc
 | some b =>
   have hb := hF.all b (findT_mem hf).1
   obtain ⟨h1, h2⟩ := fwd_spec hb
   have hn : nextQ l q = (fwdV b q.2).cps := by simp [nextQ, hf, h1]
   obtain ⟨H, h3, h4, h5⟩ := h2.cps
   rw [hn, h3] at hc
   simp only [out0, List.nil_append, List.mem_map] at hc
   obtain ⟨x, hx, rfl⟩ := hc
   exact hF.mask ((h5 x).1 hx).1 _
theorem runG_at (l : List Tb) {k : Nat} (hk : k < 64) : ∀ (n : Nat) (Q : List (Int × Pk)) (t : Trc), wsum Q ≤ n → (∀ q ∈ Q, FitL l q.2) → (Q.filter fun c => c.2.bits.getLsbD k).length ≤ 1 →
  (runG l n Q t).at k = (t.at k).app (wayQ l k (Q.filter fun c => c.2.bits.getLsbD k))
 | 0, Q, t, h, _, _ => by
   have := len_wsum Q
   obtain rfl : Q = [] := List.length_eq_zero_iff.1 (by omega)
   simp [runG_nil, wayQ, Trc.app_nil]
 | n + 1, [], t, _, _, _ => by simp [runG_nil, wayQ, Trc.app_nil]
 | n + 1, q :: Q, t, h, hF, h1 => by
   have hq := nextQ_wt l q
   rw [wsum_cons] at h
   have hFq := hF q (by simp)
   have hF' : ∀ c ∈ Q ++ nextQ l q, FitL l c.2 := fun c hc => by
    rcases List.mem_append.1 hc with hc | hc
    ·exact hF c (by simp [hc])
    ·exact next_fit hFq c hc
   rw [runG]
   have hw : wsum (Q ++ nextQ l q) ≤ n := by rw [wsum_app]; omega
   by_cases hb : q.2.bits.getLsbD k = true
   ·rw [List.filter_cons, if_pos hb] at h1 ⊢
    simp only [List.length_cons] at h1
    have hQ : Q.filter (fun c => c.2.bits.getLsbD k) = [] := List.length_eq_zero_iff.1 (by omega)
    obtain ⟨a1, a2⟩ := step_in hFq t hk hb
    rw [runG_at l hk n _ _ hw hF' (by rw [List.filter_append, hQ]; simpa using a1), List.filter_append, hQ, List.nil_append, a2]
    rfl
   ·rw [List.filter_cons, if_neg hb] at h1 ⊢
    obtain ⟨a1, a2⟩ := step_out hFq t hk hb
    rw [runG_at l hk n _ _ hw hF' (by rw [List.filter_append, a1, List.append_nil]; exact h1), List.filter_append, a1, List.append_nil, a2]
theorem run_at {l : List Tb} {p : Pk} (hF : FitL l p) (r : Int) {k : Nat} (hk : k < 64) (hb : p.bits.getLsbD k = true) : (runG l (wt p) [(r, p)] tr0).at k = way l k (p.ttl.toNat + 1) (r, p) := by
 rw [runG_at l hk _ _ _ (by simp [wsum]) (by simpa using hF) (by simp [List.filter_cons]; split <;> simp)]
 simp [List.filter_cons, hb, wayQ, Trc.at, tr0, Trc.app]
theorem run_off {l : List Tb} {p : Pk} (hF : FitL l p) (r : Int) {k : Nat} (hk : k < 64) (hb : ¬ p.bits.getLsbD k = true) : (runG l (wt p) [(r, p)] tr0).at k = tr0 := by
 rw [runG_at l hk _ _ _ (by simp [wsum]) (by simpa using hF) (by simp [List.filter_cons, hb])]
 simp [List.filter_cons, hb, wayQ, Trc.at, tr0, Trc.app]
end Go.Proofs

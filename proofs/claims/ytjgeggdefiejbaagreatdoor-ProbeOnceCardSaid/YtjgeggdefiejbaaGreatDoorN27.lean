/-
  What functions of the program compute, stated as contracts over plain data; the conditions of each stand in its own statement.
-/
import Derived.Test.YtjgeggdefiejbaaGreatDoorN26
set_option linter.unusedSimpArgs false
namespace Go.Proofs
inductive Thru (g : Topo) (t f : Int) : Int → Prop
 | nil : Thru g t f f
 | via {x y : Int} : Thru g t f x → y ∈ steps g (dist g t) x → capR g.rs y = false → Thru g t f y
def HopR (g : Topo) (t f n : Int) : Prop := ∃ x, Thru g t f x ∧ n ∈ steps g (dist g t) x ∧ capR g.rs n = true
structure HopI2 (g : Topo) (t f : Int) (s : List Int × List Int) : Prop where
 nd : s.1.Nodup
 seen : ∀ x ∈ s.1, Thru g t f x ∧ hasR g.rs x = true
 asc : s.2.Pairwise (· < ·)
 out : ∀ x ∈ s.2, HopR g t f x
theorem hopIn_fst (g : Topo) (s : List Int × List Int) (n : Int) : ∃ r, (hopIn g s n).1 = s.1 ++ r := by
 unfold hopIn
 split
 ·exact ⟨[], by simp⟩
 ·split
  ·exact ⟨[], by simp⟩
  ·exact ⟨[n], rfl⟩
theorem hopFold_fst (g : Topo) : ∀ (l : List Int) (s : List Int × List Int), ∃ r, (l.foldl (hopIn g) s).1 = s.1 ++ r
 | [], s => ⟨[], by simp⟩
 | n :: l, s => by
   obtain ⟨r1, h1⟩ := hopIn_fst g s n
   obtain ⟨r2, h2⟩ := hopFold_fst g l (hopIn g s n)
   exact ⟨r1 ++ r2, by rw [List.foldl_cons, h2, h1, List.append_assoc]⟩
theorem HopI2.step {g : Topo} {t f x n : Int} {s : List Int × List Int} (h : HopI2 g t f s) (hx : Thru g t f x) (hn : n ∈ steps g (dist g t) x) : HopI2 g t f (hopIn g s n) ∧ (∀ y ∈ s.2, y ∈ (hopIn g s n).2) ∧ (if capR g.rs n = true then n ∈ (hopIn g s n).2 else n ∈ (hopIn g s n).1) := by
 unfold hopIn
 by_cases hc : capR g.rs n = true
 ·rw [if_pos hc, if_pos hc]
  obtain ⟨h3, h4⟩ := insI_asc n h.asc
  refine ⟨⟨h.nd, h.seen, h3, fun y hy => ?_⟩, fun y hy => (h4 y).2 (.inl hy), (h4 n).2 (.inr rfl)⟩
  rcases (h4 y).1 hy with hy | rfl
  ·exact h.out y hy
  ·exact ⟨x, hx, hn, hc⟩
 ·rw [if_neg hc, if_neg hc]
  by_cases hh : hasI s.1 n = true
  ·rw [if_pos hh]
   exact ⟨h, fun _ h => h, by simpa [hasI] using hh⟩
  ·rw [if_neg hh]
   have hni : n ∉ s.1 := by simpa [hasI] using hh
   refine ⟨⟨List.nodup_append.2 ⟨h.nd, by simp, fun a ha b hb => by simp at hb; subst hb; exact fun e => hni (e ▸ ha)⟩, fun y hy => ?_, h.asc, h.out⟩, fun _ h => h, by simp⟩
   rcases List.mem_append.1 hy with hy | hy
   ·exact h.seen y hy
   ·simp at hy; subst hy
    exact ⟨.via hx hn (by simpa using hc), steps_has hn⟩
theorem HopI2.fold {g : Topo} {t f x : Int} (hx : Thru g t f x) : ∀ (l : List Int) (s : List Int × List Int), (∀ n ∈ l, n ∈ steps g (dist g t) x) → HopI2 g t f s →
  HopI2 g t f (l.foldl (hopIn g) s) ∧ (∀ y ∈ s.2, y ∈ (l.foldl (hopIn g) s).2) ∧ ∀ n ∈ l, if capR g.rs n = true then n ∈ (l.foldl (hopIn g) s).2 else n ∈ (l.foldl (hopIn g) s).1
 | [], s, _, h => ⟨h, fun _ h => h, by simp⟩
 | n :: l, s, hl, h => by
   obtain ⟨h1, h2, h3⟩ := h.step hx (hl n (by simp))
   obtain ⟨h4, h5, h6⟩ := HopI2.fold hx l _ (fun m hm => hl m (by simp [hm])) h1
   rw [List.foldl_cons]
   refine ⟨h4, fun y hy => h5 y (h2 y hy), fun m hm => ?_⟩
   rcases List.mem_cons.1 hm with rfl | hm
   ·split
    ·rename_i hc; rw [if_pos hc] at h3; exact h5 _ h3
    ·rename_i hc
     rw [if_neg hc] at h3
     obtain ⟨r, hr⟩ := hopFold_fst g l (hopIn g s m)
     rw [hr]; exact List.mem_append.2 (.inl h3)
   ·exact h6 m hm
def HopC (g : Topo) (t : Int) (i : Nat) (s : List Int × List Int) : Prop := ∀ j < i, ∀ x, s.1[j]? = some x → ∀ n ∈ steps g (dist g t) x, if capR g.rs n = true then n ∈ s.2 else n ∈ s.1
theorem hopsL_spec {g : Topo} {t f : Int} : ∀ (k i : Nat) (s : List Int × List Int), HopI2 g t f s → HopC g t i s → i ≤ s.1.length → g.rs.length + 1 ≤ k + i →
  HopI2 g t f (hopsL g (dist g t) k i s) ∧ (∀ x ∈ s.1, x ∈ (hopsL g (dist g t) k i s).1) ∧ ∀ x ∈ (hopsL g (dist g t) k i s).1, ∀ n ∈ steps g (dist g t) x, if capR g.rs n = true then n ∈ (hopsL g (dist g t) k i s).2 else n ∈ (hopsL g (dist g t) k i s).1
 | 0, i, s, h, _, hi, hk => by
   have := seen_le h.nd (fun x hx => (h.seen x hx).2)
   omega
 | k + 1, i, s, h, hc, hi, hk => by
   rw [hopsL]
   split
   ·rename_i hlt
    have hx : s.1[i]? = some s.1[i] := List.getElem?_eq_getElem hlt
    have hxm := h.seen _ (List.getElem_mem hlt)
    have e : s.1.getD i 0 = s.1[i] := by rw [List.getD_eq_getElem?_getD, hx]; rfl
    rw [e]
    generalize s.1[i] = x at hx hxm
    obtain ⟨h1, h2, h3⟩ := HopI2.fold hxm.1 (steps g (dist g t) x) s (fun _ h => h) h
    obtain ⟨r, hr⟩ := hopFold_fst g (steps g (dist g t) x) s
    have hsub : ∀ y ∈ s.1, y ∈ ((steps g (dist g t) x).foldl (hopIn g) s).1 := fun y hy => by rw [hr]; exact List.mem_append.2 (.inl hy)
    obtain ⟨h4, h5, h6⟩ := hopsL_spec k (i + 1) ((steps g (dist g t) x).foldl (hopIn g) s) h1 (fun j hj y hy n hn => by
     rw [hr, List.getElem?_append_left (by omega)] at hy
     by_cases ej : j = i
     ·subst ej
      rw [hx] at hy; simp at hy; subst hy
      exact h3 n hn
     ·have := hc j (by omega) y hy n hn
      split
      ·rename_i a; rw [if_pos a] at this; exact h2 n this
      ·rename_i a; rw [if_neg a] at this; exact hsub n this) (by rw [hr, List.length_append]; omega) (by omega)
    exact ⟨h4, fun y hy => h5 y (hsub y hy), h6⟩
   ·rename_i hlt
    refine ⟨h, fun _ h => h, fun x hx n hn => ?_⟩
    obtain ⟨j, hj, rfl⟩ := List.mem_iff_getElem.1 hx
    exact hc j (by omega) _ (List.getElem?_eq_getElem hj) n hn
theorem mem_hops {g : Topo} (hg : chkT g = 0) {f t : Int} (hf : hasR g.rs f = true) (ht : hasR g.rs t = true) (hne : f ≠ t) {n : Int} : n ∈ hops g f t ↔ HopR g t f n := by
 unfold hops
 rw [if_pos ⟨hg, hf, ht, hne⟩]
 obtain ⟨h1, h2, h3⟩ := hopsL_spec (g := g) (t := t) (f := f) (g.rs.length + 1) 0 ([f], []) ⟨by simp, fun x hx => by simp at hx; subst hx; exact ⟨.nil, hf⟩, by simp, by simp⟩ (fun j hj => by omega) (by simp) (by omega)
 refine ⟨h1.out n, fun ⟨x, hx, hn, hc⟩ => ?_⟩
 have key : ∀ x, Thru g t f x → x ∈ (hopsL g (dist g t) (g.rs.length + 1) 0 ([f], [])).1 := fun x hx => by
  induction hx with
  | nil => exact h2 f (by simp)
  | via _ hy hc ih =>
    have := h3 _ ih _ hy
    rwa [if_neg (by simp [hc])] at this
 have := h3 x (key x hx) n hn
 rwa [if_pos hc] at this
theorem steps_dst {g : Topo} (hg : g.Ok) {t x y : Int} (h : y ∈ steps g (dist g t) x) : dst g t y < dst g t x ∧ dst g t x < far := by
 obtain ⟨h1, h2, h3, c, h4, h5⟩ := (mem_steps hg).1 h
 have := price_le hg h4
 have := dst_bd hg t x
 omega
theorem Thru.le {g : Topo} (hg : g.Ok) {t f x : Int} (h : Thru g t f x) : dst g t x ≤ dst g t f := by
 induction h with
 | nil => exact Int.le_refl _
 | via _ hy _ ih => have := steps_dst hg hy; omega
theorem HopR.near {g : Topo} (hg : g.Ok) {t f n : Int} (h : HopR g t f n) : dst g t n < dst g t f ∧ dst g t f < far ∧ dst g t n < far ∧ capR g.rs n = true ∧ hasR g.rs n = true := by
 obtain ⟨x, hx, hn, hc⟩ := h
 have h1 := hx.le hg
 have h2 := steps_dst hg hn
 obtain ⟨_, _, h3, _⟩ := (mem_steps hg).1 hn
 refine ⟨by omega, ?_, h3, hc, steps_has hn⟩
 have h4 := dst_bd hg t f
 cases hx with
 | nil => exact h2.2
 | via h5 h6 h7 =>
   have : ∀ z, Thru g t f z → z = f ∨ dst g t f < far := fun z hz => by
    induction hz with
    | nil => exact .inl rfl
    | via a b _ ih =>
      rcases ih with e | e
      ·subst e; exact .inr (steps_dst hg b).2
      ·exact .inr e
   rcases this x (.via h5 h6 h7) with e | e
   ·subst e; exact h2.2
   ·exact e
theorem HopR.some {g : Topo} (hg : g.Ok) {t f : Int} (hf : hasR g.rs f = true) (ht : hasR g.rs t = true) (hc : capR g.rs t = true) (hne : f ≠ t) (hd : dst g t f < far) : ∃ n, HopR g t f n := by
 have key : ∀ (m : Nat) (x : Int), (dst g t x).toNat ≤ m → Thru g t f x → hasR g.rs x = true → x ≠ t → dst g t x < far → ∃ n, HopR g t f n := by
  intro m
  induction m with
  | zero =>
    intro x hm hx hh hn hl
    have := dst_bd hg t x
    exact absurd (dst_zero hg ht hh (by omega)) hn
  | succ m ih =>
    intro x hm hx hh hn hl
    obtain ⟨y, hy⟩ := steps_some hg ht hh hn hl
    by_cases hcy : capR g.rs y = true
    ·exact ⟨y, x, hx, hy, hcy⟩
    ·have h1 := steps_dst hg hy
     obtain ⟨_, _, h3, _⟩ := (mem_steps hg).1 hy
     have := dst_bd hg t y
     exact ih y (by omega) (.via hx hy (by simpa using hcy)) (steps_has hy) (fun e => by subst e; exact hcy hc) h3
 exact key _ f (Nat.le_refl _) .nil hf hne hd
end Go.Proofs

set_option linter.unusedSimpArgs false
set_option linter.unusedVariables false
namespace Go.Proofs
structure Fits (b : Tb) (p : Pk) : Prop where
 ck : chk b = 0
 sd : b.sd = p.subd
 len : b.len = p.len
 ok : p.ok = true
 mode : p.mode ≠ 2
theorem Fits.bit {b : Tb} {p : Pk} (h : Fits b p) {k : Nat} (hk : k < 64) (hb : p.bits.getLsbD k = true) : (k : Int) < p.len := (ok_bits h.ok).2 k hk hb
theorem hopAt_eq {b : Tb} {p : Pk} (hc : chk b = 0) (k : Nat) : hopAt b p k = hopB b (idAt p k) (plnP p) := hop_eq hc p _
theorem hopAt_at {b : Tb} {p : Pk} (hc : chk b = 0) {k : Nat} (h0 : hopAt b p k ≠ 0) : atB p.set k p.len = true ∧ 1 ≤ hopAt b p k ∧ hopAt b p k ≤ 99 := by
 rw [hopAt_eq hc] at h0 ⊢
 refine ⟨Classical.byContradiction fun g => h0 (by rw [idAt, if_neg g]; exact hop_zero hc _), hop_range hc h0⟩
theorem mask_bit {b : Tb} {p : Pk} (h : Fits b p) {k : Nat} (hk : k < 64) (hb : p.bits.getLsbD k = true) {n : Int} (hn : 1 ≤ n ∧ n ≤ 99) : (maskP b (plnP p) p.set n).getLsbD k = true ↔ hopAt b p k = n := by
 have hl := (ok_bits h.ok).1
 have hlen : b.len ≤ 64 := by
  rw [h.len]; simp [validLen] at hl; omega
 have hkl := h.bit hk hb
 rw [mask_eq h.ck h.ok hn, bitsR_bit b _ _ _ hk _ (by omega), h.len]
 constructor
 ·rintro ⟨h1, h2, h3, h4⟩
  rw [hopAt_eq h.ck, idAt, if_pos h2]; exact h4
 ·intro e
  have h2 := hopAt_at h.ck (k := k) (p := p) (by omega)
  rw [hopAt_eq h.ck, idAt, if_pos h2.1] at e
  exact ⟨by omega, h2.1, by omega, e⟩
noncomputable def cpk (b : Tb) (p : Pk) (h : Int) : Pk := pkMask p (maskP b (plnP p) p.set h)
theorem cpk_bit {b : Tb} {p : Pk} (h : Fits b p) {k : Nat} (hk : k < 64) {n : Int} (hn : 1 ≤ n ∧ n ≤ 99) : (cpk b p n).bits.getLsbD k = true ↔ p.bits.getLsbD k = true ∧ hopAt b p k = n := by
 simp only [cpk, pkMask, BitVec.getLsbD_and, Bool.and_eq_true]
 constructor
 ·rintro ⟨h1, h2⟩; exact ⟨h1, (mask_bit h hk h1 hn).1 h2⟩
 ·rintro ⟨h1, h2⟩; exact ⟨h1, (mask_bit h hk h1 hn).2 h2⟩
theorem mask_ok {p : Pk} (h : p.ok = true) (ht : p.ttl ≠ 0) (m : BitVec 64) : (pkMask p m).ok = true := by
 have h2 := ok_ttl h
 cases p
 simp only [pkMask] at *
 simp only [Pk.ok, Bool.and_eq_true, validB, decide_eq_true_eq, insB] at h ⊢
 obtain ⟨a1, a2, a3, a4, ⟨b1, b2⟩, a5, a6⟩ := h
 refine ⟨a1, a2, a3, a4, ⟨b1, ?_⟩, ⟨by omega, by omega⟩, a6⟩
 apply BitVec.eq_of_getLsbD_eq
 intro k hk
 have h3 := congrArg (fun z => z.getLsbD k) b2
 simp only [BitVec.getLsbD_and, BitVec.getLsbD_not, hk, decide_true, Bool.true_and, BitVec.getLsbD_zero] at h3 ⊢
 revert h3
 generalize BitVec.getLsbD _ k = x
 generalize BitVec.getLsbD _ k = y
 generalize BitVec.getLsbD _ k = z
 cases x <;> cases y <;> cases z <;> simp
theorem Fits.mask {b c : Tb} {p : Pk} (h : Fits b p) (hc : Fits c p) (ht : p.ttl ≠ 0) (m : BitVec 64) : Fits c (pkMask p m) :=
 ⟨hc.ck, hc.sd, hc.len, mask_ok h.ok ht m, h.mode⟩
theorem plnP_mask {p : Pk} (h : p.ok = true) (ht : p.ttl ≠ 0) (m : BitVec 64) : plnP (pkMask p m) = plnP p := by
 simp only [plnP, mask_ok h ht m, h, if_true]; rfl
theorem andNot_bit (R M : BitVec 64) {k : Nat} (hk : k < 64) : (R &&& ~~~ M).getLsbD k = true ↔ R.getLsbD k = true ∧ M.getLsbD k = false := by
 simp [hk]
theorem or_bit (R M : BitVec 64) {k : Nat} : (R ||| M).getLsbD k = true ↔ R.getLsbD k = true ∨ M.getLsbD k = true := by
 simp
theorem one_bit {j k : Nat} (hj : j < 64) (hk : k < 64) : (1#64 <<< j).getLsbD k = true ↔ k = j := by rw [bit_one hj hk]; simp
def Whole (b : Tb) (p : Pk) (R : BitVec 64) : Prop := (∀ k < 64, R.getLsbD k = true → p.bits.getLsbD k = true) ∧
 ∀ j k, j < 64 → k < 64 → p.bits.getLsbD j = true → hopAt b p j = hopAt b p k → hopAt b p k ≠ 0 → hopAt b p k ≠ b.r → R.getLsbD k = true → R.getLsbD j = true
structure FwdI (b : Tb) (p : Pk) (o o' : Out) (R : BitVec 64) : Prop where
 loc : ∀ k < 64, o'.loc.getLsbD k = true ↔ o.loc.getLsbD k = true ∨ (R.getLsbD k = true ∧ hopAt b p k ≠ 0 ∧ hopAt b p k = b.r)
 lost : ∀ k < 64, o'.lost.getLsbD k = true ↔ o.lost.getLsbD k = true ∨ (R.getLsbD k = true ∧ (hopAt b p k = 0 ∨ (hopAt b p k ≠ b.r ∧ p.ttl = 0)))
 cps : ∃ H : List Int, o'.cps = o.cps ++ H.map (fun h => (h, cpk b p h)) ∧ H.Nodup ∧ ∀ h, h ∈ H ↔ p.ttl ≠ 0 ∧ h ≠ 0 ∧ h ≠ b.r ∧ ∃ k < 64, R.getLsbD k = true ∧ hopAt b p k = h
theorem FwdI.nil {b : Tb} {p : Pk} (o : Out) : FwdI b p o o 0#64 := ⟨by simp, by simp, [], by simp, by simp, by simp⟩
theorem fwdG_spec {b : Tb} {p : Pk} (h : Fits b p) : ∀ (n : Nat) (o : Out) (R : BitVec 64), (bitsL R).length ≤ n → Whole b p R → FwdI b p o (fwdG b p n o R) R
 | 0, o, R, hn, _ => by
   obtain rfl := pop_zero (R := R) (by omega)
   exact .nil o
 | n + 1, o, R, hn, hW => by
   rw [fwdG]
   by_cases h0 : R = 0#64
   ·subst h0; rw [if_pos rfl]; exact .nil o
   rw [if_neg h0]
   obtain ⟨t1, t2, t3⟩ := tz_spec h0
   have hmb := fwdM_bit h.ck h.ok h.len hW.1 h0
   have hpop := pop_less t1 t2 hmb
   have hpz := hW.1 _ t1 t2
   generalize hj : tz R = j at t1 t2 t3 hmb hpop hpz
   by_cases c0 : hopAt b p j = 0
   ·have eM : fwdM b p R = 1#64 <<< j := by rw [fwdM, hj, if_pos (.inl c0)]
    have eO : fwdO b p o R = ⟨o.loc, o.lost ||| 1#64 <<< j, o.cps⟩ := by rw [fwdO, hj, if_pos c0]
    rw [eM] at hpop
    rw [eM, eO]
    have hb : ∀ k < 64, (R &&& ~~~ (1#64 <<< j)).getLsbD k = true ↔ R.getLsbD k = true ∧ k ≠ j := fun k hk => by rw [andNot_bit _ _ hk, bit_one t1 hk]; simp
    have ih := fwdG_spec h n ⟨o.loc, o.lost ||| 1#64 <<< j, o.cps⟩ (R &&& ~~~ (1#64 <<< j)) (by omega)
     ⟨fun k hk hb' => hW.1 k hk ((hb k hk).1 hb').1, fun i k hi hk hpi e e0 er hr => (hb i hi).2 ⟨hW.2 i k hi hk hpi e e0 er ((hb k hk).1 hr).1, fun e' => by subst e'; rw [c0] at e; exact e0 e.symm⟩⟩
    refine ⟨fun k hk => ?_, fun k hk => ?_, ?_⟩
    ·rw [ih.loc k hk, hb k hk]
     constructor
     ·rintro (a | ⟨⟨a1, a2⟩, a3⟩)
      ·exact .inl a
      ·exact .inr ⟨a1, a3⟩
     ·rintro (a | ⟨a1, a3⟩)
      ·exact .inl a
      ·exact .inr ⟨⟨a1, fun e => by subst e; exact a3.1 c0⟩, a3⟩
    ·rw [ih.lost k hk, hb k hk, or_bit, one_bit t1 hk]
     constructor
     ·rintro ((a | rfl) | ⟨⟨a1, a2⟩, a3⟩)
      ·exact .inl a
      ·exact .inr ⟨t2, .inl c0⟩
      ·exact .inr ⟨a1, a3⟩
     ·rintro (a | ⟨a1, a3⟩)
      ·exact .inl (.inl a)
      ·by_cases e : k = j
       ·exact .inl (.inr e)
       ·exact .inr ⟨⟨a1, e⟩, a3⟩
    ·obtain ⟨H, h1, h2, h3⟩ := ih.cps
     refine ⟨H, h1, h2, fun x => ?_⟩
     rw [h3]
     constructor
     ·rintro ⟨a1, a2, a3, k, hk, a4, a5⟩
      exact ⟨a1, a2, a3, k, hk, ((hb k hk).1 a4).1, a5⟩
     ·rintro ⟨a1, a2, a3, k, hk, a4, a5⟩
      exact ⟨a1, a2, a3, k, hk, (hb k hk).2 ⟨a4, fun e => by subst e; rw [c0] at a5; exact a2 a5.symm⟩, a5⟩
   by_cases c1 : hopAt b p j = b.r
   ·have eM : fwdM b p R = 1#64 <<< j := by rw [fwdM, hj, if_pos (.inr c1)]
    have eO : fwdO b p o R = ⟨o.loc ||| 1#64 <<< j, o.lost, o.cps⟩ := by rw [fwdO, hj, if_neg c0, if_pos c1]
    rw [eM] at hpop
    rw [eM, eO]
    have hb : ∀ k < 64, (R &&& ~~~ (1#64 <<< j)).getLsbD k = true ↔ R.getLsbD k = true ∧ k ≠ j := fun k hk => by rw [andNot_bit _ _ hk, bit_one t1 hk]; simp
    have ih := fwdG_spec h n ⟨o.loc ||| 1#64 <<< j, o.lost, o.cps⟩ (R &&& ~~~ (1#64 <<< j)) (by omega)
     ⟨fun k hk hb' => hW.1 k hk ((hb k hk).1 hb').1, fun i k hi hk hpi e e0 er hr => (hb i hi).2 ⟨hW.2 i k hi hk hpi e e0 er ((hb k hk).1 hr).1, fun e' => by subst e'; rw [c1] at e; exact er e.symm⟩⟩
    refine ⟨fun k hk => ?_, fun k hk => ?_, ?_⟩
    ·rw [ih.loc k hk, hb k hk, or_bit, one_bit t1 hk]
     constructor
     ·rintro ((a | rfl) | ⟨⟨a1, a2⟩, a3⟩)
      ·exact .inl a
      ·exact .inr ⟨t2, c0, c1⟩
      ·exact .inr ⟨a1, a3⟩
     ·rintro (a | ⟨a1, a3⟩)
      ·exact .inl (.inl a)
      ·by_cases e : k = j
       ·exact .inl (.inr e)
       ·exact .inr ⟨⟨a1, e⟩, a3⟩
    ·rw [ih.lost k hk, hb k hk]
     constructor
     ·rintro (a | ⟨⟨a1, a2⟩, a3⟩)
      ·exact .inl a
      ·exact .inr ⟨a1, a3⟩
     ·rintro (a | ⟨a1, a3⟩)
      ·exact .inl a
      ·exact .inr ⟨⟨a1, fun e => by subst e; exact a3.elim c0 fun a => a.1 c1⟩, a3⟩
    ·obtain ⟨H, h1, h2, h3⟩ := ih.cps
     refine ⟨H, h1, h2, fun x => ?_⟩
     rw [h3]
     constructor
     ·rintro ⟨a1, a2, a3, k, hk, a4, a5⟩
      exact ⟨a1, a2, a3, k, hk, ((hb k hk).1 a4).1, a5⟩
     ·rintro ⟨a1, a2, a3, k, hk, a4, a5⟩
      exact ⟨a1, a2, a3, k, hk, (hb k hk).2 ⟨a4, fun e => by subst e; rw [c1] at a5; exact a3 a5.symm⟩, a5⟩
   have hr := (hopAt_at h.ck c0).2
   have eM : fwdM b p R = togR b p R (hopAt b p j) := by rw [fwdM, hj, if_neg (fun h => h.elim c0 c1)]
   rw [eM] at hpop ⊢
   have htog : ∀ k < 64, (togR b p R (hopAt b p j)).getLsbD k = true ↔ R.getLsbD k = true ∧ hopAt b p k = hopAt b p j := fun k hk => by
    rw [togR, BitVec.getLsbD_and, Bool.and_eq_true]
    constructor
    ·rintro ⟨a1, a2⟩; exact ⟨a1, (mask_bit h hk (hW.1 k hk a1) hr).1 a2⟩
    ·rintro ⟨a1, a2⟩; exact ⟨a1, (mask_bit h hk (hW.1 k hk a1) hr).2 a2⟩
   have hb : ∀ k < 64, (R &&& ~~~ togR b p R (hopAt b p j)).getLsbD k = true ↔ R.getLsbD k = true ∧ hopAt b p k ≠ hopAt b p j := fun k hk => by
    rw [andNot_bit _ _ hk]
    constructor
    ·rintro ⟨a1, a2⟩; exact ⟨a1, fun e => by rw [(htog k hk).2 ⟨a1, e⟩] at a2; simp at a2⟩
    ·rintro ⟨a1, a2⟩
     refine ⟨a1, ?_⟩
     cases ht : (togR b p R (hopAt b p j)).getLsbD k with
     | false => rfl
     | true => exact absurd ((htog k hk).1 ht).2 a2
   have hW' : Whole b p (R &&& ~~~ togR b p R (hopAt b p j)) := ⟨fun k hk hb' => hW.1 k hk ((hb k hk).1 hb').1, fun i k hi hk hpi e e0 er hr => (hb i hi).2 ⟨hW.2 i k hi hk hpi e e0 er ((hb k hk).1 hr).1, by rw [e]; exact ((hb k hk).1 hr).2⟩⟩
   have hbits : (p.setB R).bits &&& togR b p R (hopAt b p j) = p.bits &&& maskP b (plnP p) p.set (hopAt b p j) := by
    apply BitVec.eq_of_getLsbD_eq
    intro k hk
    show (R &&& togR b p R (hopAt b p j)).getLsbD k = _
    rw [Bool.eq_iff_iff, BitVec.getLsbD_and, Bool.and_eq_true, htog k hk, BitVec.getLsbD_and, Bool.and_eq_true]
    constructor
    ·rintro ⟨_, a1, a2⟩
     have := hW.1 k hk a1
     exact ⟨this, (mask_bit h hk this hr).2 a2⟩
    ·rintro ⟨a1, a2⟩
     have e := (mask_bit h hk a1 hr).1 a2
     have := hW.2 k j hk t1 a1 e c0 c1 t2
     exact ⟨this, this, e⟩
   have hnz : (p.setB R).bits &&& togR b p R (hopAt b p j) ≠ 0#64 := fun e => by
    have := congrArg (fun z => z.getLsbD j) e
    simp only [BitVec.getLsbD_zero] at this
    change (R &&& togR b p R (hopAt b p j)).getLsbD j = false at this
    rw [BitVec.getLsbD_and, t2, (htog j t1).2 ⟨t2, rfl⟩] at this
    simp at this
   have hok := ok_setB h.ok hW.1
   by_cases ht : p.ttl = 0
   ·have eC : (pkmR (p.setB R) (togR b p R (hopAt b p j))).2 = false := by
     rw [pkmR, if_neg (fun a => a.2.1 ht)]
    have eO : fwdO b p o R = ⟨o.loc, o.lost ||| togR b p R (hopAt b p j), o.cps⟩ := by
     rw [fwdO, hj, if_neg c0, if_neg c1, if_neg (by rw [eC]; simp)]
    rw [eO]
    have ih := fwdG_spec h n ⟨o.loc, o.lost ||| togR b p R (hopAt b p j), o.cps⟩ _ (by omega) hW'
    refine ⟨fun k hk => ?_, fun k hk => ?_, ?_⟩
    ·rw [ih.loc k hk, hb k hk]
     constructor
     ·rintro (a | ⟨⟨a1, a2⟩, a3⟩)
      ·exact .inl a
      ·exact .inr ⟨a1, a3⟩
     ·rintro (a | ⟨a1, a3⟩)
      ·exact .inl a
      ·exact .inr ⟨⟨a1, fun e => c1 (by rw [← e]; exact a3.2)⟩, a3⟩
    ·rw [ih.lost k hk, hb k hk, or_bit, htog k hk]
     constructor
     ·rintro ((a | ⟨a1, a2⟩) | ⟨⟨a1, a2⟩, a3⟩)
      ·exact .inl a
      ·exact .inr ⟨a1, .inr ⟨by rw [a2]; exact c1, ht⟩⟩
      ·exact .inr ⟨a1, a3⟩
     ·rintro (a | ⟨a1, a3⟩)
      ·exact .inl (.inl a)
      ·by_cases e : hopAt b p k = hopAt b p j
       ·exact .inl (.inr ⟨a1, e⟩)
       ·exact .inr ⟨⟨a1, e⟩, a3⟩
    ·obtain ⟨H, h1, h2, h3⟩ := ih.cps
     refine ⟨H, h1, h2, fun x => ?_⟩
     rw [h3]
     exact ⟨fun a => absurd ht a.1, fun a => absurd ht a.1⟩
   ·have eC : pkmR (p.setB R) (togR b p R (hopAt b p j)) = (cpk b p (hopAt b p j), true) := by
     rw [pkmR, if_pos ⟨hok, ht, hnz⟩, pkMask, hbits]; rfl
    have eO : fwdO b p o R = ⟨o.loc, o.lost, o.cps ++ [(hopAt b p j, cpk b p (hopAt b p j))]⟩ := by
     rw [fwdO, hj, if_neg c0, if_neg c1, eC]; rfl
    rw [eO]
    have ih := fwdG_spec h n ⟨o.loc, o.lost, o.cps ++ [(hopAt b p j, cpk b p (hopAt b p j))]⟩ _ (by omega) hW'
    refine ⟨fun k hk => ?_, fun k hk => ?_, ?_⟩
    ·rw [ih.loc k hk, hb k hk]
     constructor
     ·rintro (a | ⟨⟨a1, a2⟩, a3⟩)
      ·exact .inl a
      ·exact .inr ⟨a1, a3⟩
     ·rintro (a | ⟨a1, a3⟩)
      ·exact .inl a
      ·exact .inr ⟨⟨a1, fun e => c1 (by rw [← e]; exact a3.2)⟩, a3⟩
    ·rw [ih.lost k hk, hb k hk]
     constructor
     ·rintro (a | ⟨⟨a1, a2⟩, a3⟩)
      ·exact .inl a
      ·exact .inr ⟨a1, a3⟩
     ·rintro (a | ⟨a1, a3⟩)
      ·exact .inl a
      ·refine .inr ⟨⟨a1, fun e => ?_⟩, a3⟩
       rcases a3 with a3 | a3
       ·exact c0 (by rw [← e]; exact a3)
       ·exact ht a3.2
    ·obtain ⟨H, h1, h2, h3⟩ := ih.cps
     refine ⟨hopAt b p j :: H, by rw [h1]; simp, List.nodup_cons.2 ⟨fun hm => ?_, h2⟩, fun x => ?_⟩
     ·obtain ⟨_, _, _, k, hk, a4, a5⟩ := (h3 _).1 hm
      exact ((hb k hk).1 a4).2 a5
     ·rw [List.mem_cons, h3]
      constructor
      ·rintro (rfl | ⟨a1, a2, a3, k, hk, a4, a5⟩)
       ·exact ⟨ht, c0, c1, j, t1, t2, rfl⟩
       ·exact ⟨a1, a2, a3, k, hk, ((hb k hk).1 a4).1, a5⟩
      ·rintro ⟨a1, a2, a3, k, hk, a4, a5⟩
       by_cases e : x = hopAt b p j
       ·exact .inl e
       ·exact .inr ⟨a1, a2, a3, k, hk, (hb k hk).2 ⟨a4, fun e' => e (by rw [← a5, e'])⟩, a5⟩
theorem fwd_spec {b : Tb} {p : Pk} (h : Fits b p) : fwdR b p = (fwdV b p, 0) ∧ FwdI b p out0 (fwdV b p) p.bits := by
 refine ⟨?_, fwdG_spec h 64 out0 p.bits (bitsL_len _) ⟨fun _ _ h => h, fun j k _ _ h _ _ _ _ => h⟩⟩
 rw [fwdR, if_neg (by simp [h.ck, h.ok]), if_neg h.mode, if_neg (by simp [h.sd, h.len])]
end Go.Proofs

set_option linter.unusedSimpArgs false
set_option linter.unusedVariables false
namespace Go.Proofs
def Trc.at (t : Trc) (k : Nat) : Trc := ⟨t.dl.filter fun d => d.2.bits.getLsbD k, t.cr.filter fun c => c.2.2.getLsbD k, t.ls.filter fun x => x.2.getLsbD k⟩
def Trc.app (t u : Trc) : Trc := ⟨t.dl ++ u.dl, t.cr ++ u.cr, t.ls ++ u.ls⟩
theorem Trc.app_nil (t : Trc) : t.app tr0 = t := by simp [Trc.app, tr0]
theorem Trc.app_assoc (t u v : Trc) : (t.app u).app v = t.app (u.app v) := by simp [Trc.app]
structure FitL (l : List Tb) (p : Pk) : Prop where
 ok : p.ok = true
 all : ∀ b ∈ l, Fits b p
theorem FitL.mask {l : List Tb} {p : Pk} (h : FitL l p) (ht : p.ttl ≠ 0) (m : BitVec 64) : FitL l (pkMask p m) := ⟨mask_ok h.ok ht m, fun b hb => (h.all b hb).mask (h.all b hb) ht m⟩
noncomputable def way (l : List Tb) (k : Nat) : Nat → Int × Pk → Trc
 | 0, _ => tr0
 | n + 1, q => match findT l q.1 with
   | none => ⟨[], [], [(q.1, q.2.bits)]⟩
   | some b => if hopAt b q.2 k = 0 then ⟨[], [], [(q.1, (fwdV b q.2).lost)]⟩
     else if hopAt b q.2 k = b.r then ⟨[(q.1, onlyR q.2 k)], [], []⟩
     else if q.2.ttl = 0 then ⟨[], [], [(q.1, (fwdV b q.2).lost)]⟩
     else (⟨[], [(q.1, hopAt b q.2 k, (cpk b q.2 (hopAt b q.2 k)).bits)], []⟩ : Trc).app (way l k n (hopAt b q.2 k, cpk b q.2 (hopAt b q.2 k)))
noncomputable def wayQ (l : List Tb) (k : Nat) : List (Int × Pk) → Trc
 | [] => tr0
 | q :: _ => way l k (q.2.ttl.toNat + 1) q
theorem filter_nodup {α : Type} [DecidableEq α] {l : List α} (h : l.Nodup) (a : α) : l.filter (fun x => decide (x = a)) = if a ∈ l then [a] else [] := by
 induction l with
 | nil => simp
 | cons x l ih =>
   rw [List.nodup_cons] at h
   rw [List.filter_cons, ih h.2]
   by_cases e : x = a
   ·subst e; simp [h.1]
   ·simp [e, Ne.symm e]
theorem bitsL_nodup (B : BitVec 64) : (bitsL B).Nodup := List.nodup_range.sublist List.filter_sublist
theorem mem_bitsL {B : BitVec 64} {k : Nat} : k ∈ bitsL B ↔ k < 64 ∧ B.getLsbD k = true := by simp [bitsL]
theorem onlyR_eq {p : Pk} (h : p.ok = true) {j : Nat} (hj : j < 64) (hb : p.bits.getLsbD j = true) : onlyR p j = ⟨p.mode, p.subd, p.set, p.len, p.ttl, p.ent, p.ing, p.proto, 1#64 <<< j, p.pay⟩ := by
 rw [onlyR, if_pos ⟨h, by omega, by omega, by simpa using hb⟩]; simp
theorem locV_at {p : Pk} (h : p.ok = true) {o : Out} (ho : ∀ k < 64, o.loc.getLsbD k = true → p.bits.getLsbD k = true) (r : Int) {k : Nat} (hk : k < 64) :
  (locV r o p).filter (fun d => d.2.bits.getLsbD k) = if o.loc.getLsbD k = true then [(r, onlyR p k)] else [] := by
 have e : (locV r o p).filter (fun d => d.2.bits.getLsbD k) = ((bitsL o.loc).filter fun j => decide (j = k)).map fun (j : Nat) => (r, onlyR p j) := by
  unfold locV bitsI
  rw [List.map_map, List.filter_map]
  congr 1
  apply List.filter_congr
  intro j hj
  obtain ⟨h1, h2⟩ := mem_bitsL.1 hj
  show (onlyR p (Int.ofNat j)).bits.getLsbD k = _
  have := onlyR_eq h h1 (ho j h1 h2)
  simp only [Int.ofNat_eq_natCast] at *
  rw [this]
  show (1#64 <<< j).getLsbD k = _
  rw [bit_one h1 hk]
  by_cases e : k = j
  ·subst e; simp
  ·simp [e, Ne.symm e]
 rw [e, filter_nodup (bitsL_nodup _)]
 by_cases hl : o.loc.getLsbD k = true
 ·rw [if_pos (mem_bitsL.2 ⟨hk, hl⟩), if_pos hl]; rfl
 ·rw [if_neg (fun a => hl (mem_bitsL.1 a).2), if_neg hl]; rfl
theorem FwdI.hop {b : Tb} {p : Pk} (h : Fits b p) {o : Out} (hF : FwdI b p out0 o p.bits) {k : Nat} (hk : k < 64) :
  o.cps.filter (fun c => c.2.bits.getLsbD k) = if p.bits.getLsbD k = true ∧ p.ttl ≠ 0 ∧ hopAt b p k ≠ 0 ∧ hopAt b p k ≠ b.r then [(hopAt b p k, cpk b p (hopAt b p k))] else [] := by
 obtain ⟨H, h1, h2, h3⟩ := hF.cps
 rw [h1]
 simp only [out0, List.nil_append]
 rw [List.filter_map]
 by_cases hb : p.bits.getLsbD k = true
 ·have e : H.filter ((fun c : Int × Pk => c.2.bits.getLsbD k) ∘ fun x => (x, cpk b p x)) = H.filter fun x => decide (x = hopAt b p k) := by
   apply List.filter_congr
   intro x hx
   obtain ⟨_, a1, a2, j, hj, a3, a4⟩ := (h3 x).1 hx
   have hr := (hopAt_at h.ck (k := j) (p := p) (by rw [a4]; exact a1)).2
   rw [a4] at hr
   show (cpk b p x).bits.getLsbD k = _
   rw [Bool.eq_iff_iff, cpk_bit h hk hr]
   simp [hb, eq_comm]
  rw [e, filter_nodup h2]
  by_cases hc : p.ttl ≠ 0 ∧ hopAt b p k ≠ 0 ∧ hopAt b p k ≠ b.r
  ·rw [if_pos ((h3 _).2 ⟨hc.1, hc.2.1, hc.2.2, k, hk, hb, rfl⟩), if_pos ⟨hb, hc⟩]; rfl
  ·rw [if_neg (fun a => hc ⟨((h3 _).1 a).1, ((h3 _).1 a).2.1, ((h3 _).1 a).2.2.1⟩), if_neg (fun a => hc a.2)]; rfl
 ·rw [if_neg (fun a => hb a.1)]
  simp only [List.map_eq_nil_iff, List.filter_eq_nil_iff]
  intro x hx hc
  obtain ⟨_, a1, a2, j, hj, a3, a4⟩ := (h3 x).1 hx
  have hr := (hopAt_at h.ck (k := j) (p := p) (by rw [a4]; exact a1)).2
  rw [a4] at hr
  exact hb ((cpk_bit h hk hr).1 hc).1
theorem lost_at (l : List (Int × BitVec 64)) (r : Int) (B : BitVec 64) (k : Nat) :
  (if B = 0#64 then l else l ++ [(r, B)]).filter (fun x => x.2.getLsbD k) = l.filter (fun x => x.2.getLsbD k) ++ if B.getLsbD k = true then [(r, B)] else [] := by
 by_cases h : B = 0#64
 ·subst h; simp
 ·rw [if_neg h, List.filter_append, List.filter_cons]
  split <;> simp
theorem step_some {l : List Tb} {q : Int × Pk} {b : Tb} (hF : FitL l q.2) (hf : findT l q.1 = some b) (t : Trc) {k : Nat} (hk : k < 64) :
  (stepT l q t).at k = (t.at k).app ⟨if (fwdV b q.2).loc.getLsbD k = true then [(q.1, onlyR q.2 k)] else [], ((nextQ l q).filter fun c => c.2.bits.getLsbD k).map (fun c => (q.1, c.1, c.2.bits)), if (fwdV b q.2).lost.getLsbD k = true then [(q.1, (fwdV b q.2).lost)] else []⟩ := by
 have hb := hF.all b (findT_mem hf).1
 obtain ⟨h1, h2⟩ := fwd_spec hb
 have hn : nextQ l q = (fwdV b q.2).cps := by simp [nextQ, hf, h1]
 rw [hn]
 simp only [stepT, hf, h1, Trc.at, Trc.app, List.filter_append]
 rw [locV_at hF.ok (fun k hk a => by
  rcases (h2.loc k hk).1 a with a | a
  ·simp [out0] at a
  ·exact a.1) q.1 hk, lost_at, List.filter_map]
 rfl
theorem step_in {l : List Tb} {q : Int × Pk} (hF : FitL l q.2) (t : Trc) {k : Nat} (hk : k < 64) (hq : q.2.bits.getLsbD k = true) :
  ((nextQ l q).filter fun c => c.2.bits.getLsbD k).length ≤ 1 ∧ ((stepT l q t).at k).app (wayQ l k ((nextQ l q).filter fun c => c.2.bits.getLsbD k)) = (t.at k).app (way l k (q.2.ttl.toNat + 1) q) := by
 cases hf : findT l q.1 with
 | none =>
   have hn : nextQ l q = [] := by simp [nextQ, hf]
   rw [hn]
   refine ⟨by simp, ?_⟩
   simp [stepT, hf, way, Trc.at, Trc.app, wayQ, tr0, List.filter_append, List.filter_cons, hq]
 | some b =>
   have hb := hF.all b (findT_mem hf).1
   obtain ⟨h1, h2⟩ := fwd_spec hb
   have hn : nextQ l q = (fwdV b q.2).cps := by simp [nextQ, hf, h1]
   rw [step_some hF hf t hk, hn, h2.hop hb hk, Trc.app_assoc]
   have hl := h2.loc k hk
   have hs := h2.lost k hk
   simp only [out0, BitVec.getLsbD_zero, Bool.false_eq_true, false_or, hq, true_and] at hl hs
   by_cases c0 : hopAt b q.2 k = 0
   ·have l1 : ¬ (fwdV b q.2).loc.getLsbD k = true := fun a => (hl.1 a).1 c0
    have l2 : (fwdV b q.2).lost.getLsbD k = true := hs.2 (.inl c0)
    rw [if_neg l1, if_neg (fun a => a.2.2.1 c0), if_pos l2]
    refine ⟨by simp, ?_⟩
    simp [way, hf, c0, wayQ, Trc.app, tr0]
   by_cases c1 : hopAt b q.2 k = b.r
   ·have l1 : (fwdV b q.2).loc.getLsbD k = true := hl.2 ⟨c0, c1⟩
    have l2 : ¬ (fwdV b q.2).lost.getLsbD k = true := fun a => by
     rcases hs.1 a with a | a
     ·exact c0 a
     ·exact a.1 c1
    rw [if_pos l1, if_neg (fun a => a.2.2.2 c1), if_neg l2]
    refine ⟨by simp, ?_⟩
    simp only [way, hf, if_neg c0, if_pos c1]
    simp [wayQ, Trc.app, tr0]
   have l1 : ¬ (fwdV b q.2).loc.getLsbD k = true := fun a => c1 (hl.1 a).2
   by_cases c2 : q.2.ttl = 0
   ·have l2 : (fwdV b q.2).lost.getLsbD k = true := hs.2 (.inr ⟨c1, c2⟩)
    rw [if_neg l1, if_neg (fun a => a.2.1 c2), if_pos l2]
    refine ⟨by simp, ?_⟩
    simp only [way, hf, if_neg c0, if_neg c1, if_pos c2]
    simp [wayQ, Trc.app, tr0]
   ·have l2 : ¬ (fwdV b q.2).lost.getLsbD k = true := fun a => by
     rcases hs.1 a with a | a
     ·exact c0 a
     ·exact c2 a.2
    rw [if_neg l1, if_pos ⟨hq, c2, c0, c1⟩, if_neg l2]
    refine ⟨by simp, ?_⟩
    have ht := ok_ttl hF.ok
    have e : (cpk b q.2 (hopAt b q.2 k)).ttl.toNat + 1 = q.2.ttl.toNat := by simp only [cpk, pkMask]; omega
    rw [way]
    simp only [hf, if_neg c0, if_neg c1, if_neg c2, wayQ, e, List.map_cons, List.map_nil]
theorem step_out {l : List Tb} {q : Int × Pk} (hF : FitL l q.2) (t : Trc) {k : Nat} (hk : k < 64) (hq : ¬ q.2.bits.getLsbD k = true) :
  ((nextQ l q).filter fun c => c.2.bits.getLsbD k) = [] ∧ (stepT l q t).at k = t.at k := by
 cases hf : findT l q.1 with
 | none =>
   have hn : nextQ l q = [] := by simp [nextQ, hf]
   rw [hn]
   refine ⟨by simp, ?_⟩
   simp [stepT, hf, Trc.at, List.filter_append, List.filter_cons, hq]
 | some b =>
   have hb := hF.all b (findT_mem hf).1
   obtain ⟨h1, h2⟩ := fwd_spec hb
   have hn : nextQ l q = (fwdV b q.2).cps := by simp [nextQ, hf, h1]
   have hl := h2.loc k hk
   have hs := h2.lost k hk
   simp only [out0, BitVec.getLsbD_zero, Bool.false_eq_true, false_or, hq, false_and, iff_false] at hl hs
   rw [step_some hF hf t hk, hn, h2.hop hb hk, if_neg (fun a => hq a.1), if_neg hl, if_neg hs]
   exact ⟨rfl, Trc.app_nil _⟩
theorem next_fit {l : List Tb} {q : Int × Pk} (hF : FitL l q.2) : ∀ c ∈ nextQ l q, FitL l c.2 := fun c hc => by
 cases hf : findT l q.1 with
 | none => simp [nextQ, hf] at hc
 | some b =>
   have hb := hF.all b (findT_mem hf).1
   obtain ⟨h1, h2⟩ := fwd_spec hb
   have hn : nextQ l q = (fwdV b q.2).cps := by simp [nextQ, hf, h1]
   obtain ⟨H, h3, h4, h5⟩ := h2.cps
   rw [hn, h3] at hc
   simp only [out0, List.nil_append, List.mem_map] at hc
   obtain ⟨x, hx, rfl⟩ := hc
   exact hF.mask ((h5 x).1 hx).1 _
theorem runG_at (l : List Tb) {k : Nat} (hk : k < 64) : ∀ (n : Nat) (Q : List (Int × Pk)) (t : Trc), wsum Q ≤ n → (∀ q ∈ Q, FitL l q.2) → (Q.filter fun c => c.2.bits.getLsbD k).length ≤ 1 →
  (runG l n Q t).at k = (t.at k).app (wayQ l k (Q.filter fun c => c.2.bits.getLsbD k))
 | 0, Q, t, h, _, _ => by
   have := len_wsum Q
   obtain rfl : Q = [] := List.length_eq_zero_iff.1 (by omega)
   simp [runG_nil, wayQ, Trc.app_nil]
 | n + 1, [], t, _, _, _ => by simp [runG_nil, wayQ, Trc.app_nil]
 | n + 1, q :: Q, t, h, hF, h1 => by
   have hq := nextQ_wt l q
   rw [wsum_cons] at h
   have hFq := hF q (by simp)
   have hF' : ∀ c ∈ Q ++ nextQ l q, FitL l c.2 := fun c hc => by
    rcases List.mem_append.1 hc with hc | hc
    ·exact hF c (by simp [hc])
    ·exact next_fit hFq c hc
   rw [runG]
   have hw : wsum (Q ++ nextQ l q) ≤ n := by rw [wsum_app]; omega
   by_cases hb : q.2.bits.getLsbD k = true
   ·rw [List.filter_cons, if_pos hb] at h1 ⊢
    simp only [List.length_cons] at h1
    have hQ : Q.filter (fun c => c.2.bits.getLsbD k) = [] := List.length_eq_zero_iff.1 (by omega)
    obtain ⟨a1, a2⟩ := step_in hFq t hk hb
    rw [runG_at l hk n _ _ hw hF' (by rw [List.filter_append, hQ]; simpa using a1), List.filter_append, hQ, List.nil_append, a2]
    rfl
   ·rw [List.filter_cons, if_neg hb] at h1 ⊢
    obtain ⟨a1, a2⟩ := step_out hFq t hk hb
    rw [runG_at l hk n _ _ hw hF' (by rw [List.filter_append, a1, List.append_nil]; exact h1), List.filter_append, a1, List.append_nil, a2]
theorem run_at {l : List Tb} {p : Pk} (hF : FitL l p) (r : Int) {k : Nat} (hk : k < 64) (hb : p.bits.getLsbD k = true) : (runG l (wt p) [(r, p)] tr0).at k = way l k (p.ttl.toNat + 1) (r, p) := by
 rw [runG_at l hk _ _ _ (by simp [wsum]) (by simpa using hF) (by simp [List.filter_cons]; split <;> simp)]
 simp [List.filter_cons, hb, wayQ, Trc.at, tr0, Trc.app]
theorem run_off {l : List Tb} {p : Pk} (hF : FitL l p) (r : Int) {k : Nat} (hk : k < 64) (hb : ¬ p.bits.getLsbD k = true) : (runG l (wt p) [(r, p)] tr0).at k = tr0 := by
 rw [runG_at l hk _ _ _ (by simp [wsum]) (by simpa using hF) (by simp [List.filter_cons, hb])]
 simp [List.filter_cons, hb, wayQ, Trc.at, tr0, Trc.app]
end Go.Proofs

set_option linter.unusedSimpArgs false
set_option linter.unusedVariables false
namespace Go.Proofs
inductive Dl (l : List Tb) (id pl : Int) : Int → List Int → Prop
 | here {r : Int} {b : Tb} : findT l r = some b → hopB b id pl = r → r ≠ 0 → Dl l id pl r []
 | next {r h : Int} {b : Tb} {ws : List Int} : findT l r = some b → hopB b id pl = h → h ≠ 0 → h ≠ r → Dl l id pl h ws → Dl l id pl r (h :: ws)
theorem Dl.det {l : List Tb} {id pl r : Int} {ws : List Int} (h : Dl l id pl r ws) : ∀ {us : List Int}, Dl l id pl r us → ws = us := by
 induction h with
 | here h1 h2 h3 =>
   intro us g
   cases g with
   | here => rfl
   | next g1 g2 g3 g4 _ =>
     rw [h1] at g1; simp at g1; subst g1
     exact absurd (g2.symm.trans h2) g4
 | next h1 h2 h3 h4 _ ih =>
   intro us g
   cases g with
   | here g1 g2 g3 =>
     rw [h1] at g1; simp at g1; subst g1
     exact absurd (h2.symm.trans g2) h4
   | next g1 g2 g3 g4 g5 =>
     rw [h1] at g1; simp at g1; subst g1
     have e := h2.symm.trans g2
     subst e
     rw [ih g5]
def lastR (r : Int) : List Int → Int
 | [] => r
 | h :: ws => lastR h ws
def edges (r : Int) : List Int → List (Int × Int)
 | [] => []
 | h :: ws => (r, h) :: edges h ws
theorem edges_len (r : Int) (ws : List Int) : (edges r ws).length = ws.length := by
 induction ws generalizing r with
 | nil => rfl
 | cons h ws ih => simp [edges, ih]
theorem Dl.rest {l : List Tb} {id pl r : Int} {ws : List Int} (h : Dl l id pl r ws) : ∀ {x : Int}, x ∈ ws → ∃ us, Dl l id pl x us ∧ us.length < ws.length := by
 induction h with
 | here => intro x hx; simp at hx
 | next h1 h2 h3 h4 h5 ih =>
   intro x hx
   rcases List.mem_cons.1 hx with rfl | hx
   ·exact ⟨_, h5, by simp⟩
   ·obtain ⟨us, g1, g2⟩ := ih hx
    exact ⟨us, g1, by simp; omega⟩
theorem Dl.nodup {l : List Tb} {id pl r : Int} {ws : List Int} (h : Dl l id pl r ws) : (r :: ws).Nodup := by
 induction h with
 | here => simp
 | @next r h b ws h1 h2 h3 h4 h5 ih =>
   refine List.nodup_cons.2 ⟨fun hm => ?_, ih⟩
   have hD := Dl.next h1 h2 h3 h4 h5
   obtain ⟨us, g1, g2⟩ := hD.rest hm
   have := hD.det g1
   rw [← this] at g2; omega
theorem Dl.found {l : List Tb} {id pl r : Int} {ws : List Int} (h : Dl l id pl r ws) : ∀ x ∈ r :: ws, (findT l x).isSome := by
 induction h with
 | here h1 => intro x hx; simp at hx; subst hx; simp [h1]
 | next h1 _ _ _ _ ih =>
   intro x hx
   rcases List.mem_cons.1 hx with rfl | hx
   ·simp [h1]
   ·exact ih x hx
theorem Dl.len {l : List Tb} {id pl r : Int} {ws : List Int} (h : Dl l id pl r ws) : ws.length + 1 ≤ l.length := by
 have := path_n h.nodup h.found
 simpa using this
def pkD (p : Pk) (k : Nat) (s : Int) : Pk := ⟨p.mode, p.subd, p.set, p.len, p.ttl - s, p.ent, p.ing, p.proto, 1#64 <<< k, p.pay⟩
theorem pkD_mask (p : Pk) (m : BitVec 64) (k : Nat) (s : Int) : pkD (pkMask p m) k s = pkD p k (s + 1) := by
 simp only [pkD, pkMask]
 congr 1
 omega
theorem idAt_mask (p : Pk) (m : BitVec 64) (k : Nat) : idAt (pkMask p m) k = idAt p k := rfl
structure WayD (l : List Tb) (k : Nat) (p : Pk) (r : Int) (ws : List Int) (t : Trc) : Prop where
 dl : t.dl = [(lastR r ws, pkD p k ws.length)]
 cr : t.cr.map (fun c => (c.1, c.2.1)) = edges r ws
 ls : t.ls = []
theorem way_del {l : List Tb} {k : Nat} (hk : k < 64) {id pl : Int} : ∀ (n : Nat) {p : Pk} {r : Int} {ws : List Int}, p.ttl.toNat + 1 ≤ n → FitL l p → p.bits.getLsbD k = true → idAt p k = id → plnP p = pl → Dl l id pl r ws → (ws.length : Int) ≤ p.ttl → WayD l k p r ws (way l k n (r, p))
 | 0, p, r, ws, hn, _, _, _, _, _, _ => by omega
 | n + 1, p, r, ws, hn, hF, hb, hid, hpl, hD, hlen => by
   have ht := ok_ttl hF.ok
   cases hD with
   | @here _ b h1 h2 h3 =>
     have hbr := (findT_mem h1).2
     have hB := hF.all b (findT_mem h1).1
     have e : hopAt b p k = r := by rw [hopAt_eq hB.ck, hid, hpl]; exact h2
     rw [way]
     simp only [h1, e]
     rw [if_neg h3, if_pos hbr.symm]
     refine ⟨?_, rfl, rfl⟩
     simp only [lastR]
     rw [onlyR_eq hF.ok hk hb]
     simp [pkD]
   | @next _ h b ws h1 h2 h3 h4 h5 =>
     have hbr := (findT_mem h1).2
     have hB := hF.all b (findT_mem h1).1
     have e : hopAt b p k = h := by rw [hopAt_eq hB.ck, hid, hpl]; exact h2
     simp only [List.length_cons] at hlen
     have ht0 : p.ttl ≠ 0 := by omega
     have hr := (hopAt_at hB.ck (k := k) (p := p) (by rw [e]; exact h3)).2
     have ih := way_del hk n (p := cpk b p h) (r := h) (ws := ws) (by simp only [cpk, pkMask]; omega) (hF.mask ht0 _) ((cpk_bit hB hk (by omega)).2 ⟨hb, e⟩) (by rw [cpk, idAt_mask]; exact hid) (by rw [cpk, plnP_mask hF.ok ht0]; exact hpl) h5 (by simp only [cpk, pkMask]; omega)
     rw [way]
     simp only [h1, e]
     rw [if_neg h3, if_neg (by rw [hbr]; exact h4), if_neg ht0]
     refine ⟨?_, ?_, ?_⟩
     ·have h6 := ih.dl
      simp only [Trc.app, List.nil_append, h6, lastR, List.length_cons, Int.natCast_add, Int.natCast_one]
      rw [cpk, pkD_mask]
     ·simp only [Trc.app, List.cons_append, List.nil_append, List.map_cons, ih.cr, edges]
     ·simp only [Trc.app, List.nil_append, ih.ls]
structure WayL (k : Nat) (ttl : Int) (t : Trc) : Prop where
 dl : t.dl = []
 ls : t.ls.length = 1
 cr : (t.cr.length : Int) ≤ ttl
theorem way_lost {l : List Tb} {k : Nat} (hk : k < 64) {id pl : Int} : ∀ (n : Nat) {p : Pk} {r : Int}, p.ttl.toNat + 1 ≤ n → FitL l p → p.bits.getLsbD k = true → idAt p k = id → plnP p = pl → (∀ ws, Dl l id pl r ws → p.ttl < ws.length) → WayL k p.ttl (way l k n (r, p))
 | 0, p, r, hn, _, _, _, _, _ => by omega
 | n + 1, p, r, hn, hF, hb, hid, hpl, hD => by
   have ht := ok_ttl hF.ok
   rw [way]
   cases h1 : findT l r with
   | none => exact ⟨rfl, rfl, by simpa using ht.1⟩
   | some b =>
     have hbr := (findT_mem h1).2
     have hB := hF.all b (findT_mem h1).1
     have e : hopAt b p k = hopB b id pl := by rw [hopAt_eq hB.ck, hid, hpl]
     simp only
     by_cases c0 : hopAt b p k = 0
     ·rw [if_pos c0]; exact ⟨rfl, rfl, by simpa using ht.1⟩
     by_cases c1 : hopAt b p k = b.r
     ·exfalso
      have := hD [] (.here h1 (by rw [← e, c1, hbr]) (by rw [← hbr, ← c1]; exact c0))
      simp at this; omega
     by_cases c2 : p.ttl = 0
     ·rw [if_neg c0, if_neg c1, if_pos c2]; exact ⟨rfl, rfl, by simpa using ht.1⟩
     rw [if_neg c0, if_neg c1, if_neg c2]
     have hr := (hopAt_at hB.ck c0).2
     have ih := way_lost hk n (p := cpk b p (hopAt b p k)) (r := hopAt b p k) (by simp only [cpk, pkMask]; omega) (hF.mask c2 _) ((cpk_bit hB hk hr).2 ⟨hb, rfl⟩) (id := id) (pl := pl) (by rw [cpk, idAt_mask]; exact hid) (by rw [cpk, plnP_mask hF.ok c2]; exact hpl) (fun ws hw => by
      have := hD (hopAt b p k :: ws) (.next h1 e.symm c0 (by rw [← hbr]; exact c1) hw)
      simp only [List.length_cons] at this
      simp only [cpk, pkMask]; omega)
     refine ⟨by simp [Trc.app, ih.dl], by simp [Trc.app, ih.ls], ?_⟩
     have := ih.cr
     have e2 : (cpk b p (hopAt b p k)).ttl = p.ttl - 1 := rfl
     rw [e2] at this
     simp only [Trc.app, List.cons_append, List.nil_append, List.length_cons]
     omega
theorem way_end {l : List Tb} {k : Nat} (hk : k < 64) {p : Pk} (hF : FitL l p) (hb : p.bits.getLsbD k = true) (r : Int) :
  (∃ ws, Dl l (idAt p k) (plnP p) r ws ∧ (ws.length : Int) ≤ p.ttl ∧ WayD l k p r ws (way l k (p.ttl.toNat + 1) (r, p))) ∨
  ((∀ ws, Dl l (idAt p k) (plnP p) r ws → p.ttl < ws.length) ∧ WayL k p.ttl (way l k (p.ttl.toNat + 1) (r, p))) := by
 by_cases h : ∃ ws, Dl l (idAt p k) (plnP p) r ws ∧ (ws.length : Int) ≤ p.ttl
 ·obtain ⟨ws, h1, h2⟩ := h
  exact .inl ⟨ws, h1, h2, way_del hk _ (Nat.le_refl _) hF hb rfl rfl h1 h2⟩
 ·have h' : ∀ ws, Dl l (idAt p k) (plnP p) r ws → p.ttl < ws.length := fun ws hw => Classical.byContradiction fun g => h ⟨ws, hw, by omega⟩
  exact .inr ⟨h', way_lost hk _ (Nat.le_refl _) hF hb rfl rfl h'⟩
end Go.Proofs

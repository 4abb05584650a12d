/-
  What functions of the program compute, stated as contracts over plain data; the conditions of each stand in its own statement.
-/
import Derived.Test.YtjgeggdefiejbaaGreatDoorZM27
import Derived.Test.YtjgeggdefiejbaaGreatDoorZM13
set_option linter.unusedSimpArgs false
set_option linter.unusedVariables false
namespace Go.Proofs
inductive Dl (l : List Tb) (id pl : Int) : Int → List Int → Prop
 | here {r : Int} {b : Tb} : findT l r = some b → hopB b id pl = r → r ≠ 0 → Dl l id pl r []
 | next {r h : Int} {b : Tb} {ws : List Int} : findT l r = some b → hopB b id pl = h → h ≠ 0 → h ≠ r → Dl l id pl h ws → Dl l id pl r (h :: ws)
theorem Dl.det {l : List Tb} {id pl r : Int} {ws : List Int} (h : Dl l id pl r ws) : ∀ {us : List Int}, Dl l id pl r us → ws = us := by
 induction h with
 | here h1 h2 h3 =>
   intro us g
   cases g with
   | here => rfl
   | next g1 g2 g3 g4 _ =>
     rw [h1] at g1; simp at g1; subst g1
     exact absurd (g2.symm.trans h2) g4
 | next h1 h2 h3 h4 _ ih =>
   intro us g
   cases g with
   | here g1 g2 g3 =>
     rw [h1] at g1; simp at g1; subst g1
     exact absurd (h2.symm.trans g2) h4
   | next g1 g2 g3 g4 g5 =>
     rw [h1] at g1; simp at g1; subst g1
     have e := h2.symm.trans g2
     subst e
     rw [ih g5]
def lastR (r : Int) : List Int → Int
 | [] => r
 | h :: ws => lastR h ws
def edges (r : Int) : List Int → List (Int × Int)
 | [] => []
 | h :: ws => (r, h) :: edges h ws
theorem edges_len (r : Int) (ws : List Int) : (edges r ws).length = ws.length := by
 induction ws generalizing r with
 | nil => rfl
 | cons h ws ih => simp [edges, ih]
theorem Dl.rest {l : List Tb} {id pl r : Int} {ws : List Int} (h : Dl l id pl r ws) : ∀ {x : Int}, x ∈ ws → ∃ us, Dl l id pl x us ∧ us.length < ws.length := by
 induction h with
 | here => intro x hx; simp at hx
 | next h1 h2 h3 h4 h5 ih =>
   intro x hx
   rcases List.mem_cons.1 hx with rfl | hx
   ·exact ⟨_, h5, by simp⟩
   ·obtain ⟨us, g1, g2⟩ := ih hx
    exact ⟨us, g1, by simp; omega⟩
theorem Dl.nodup {l : List Tb} {id pl r : Int} {ws : List Int} (h : Dl l id pl r ws) : (r :: ws).Nodup := by
 induction h with
 | here => simp
 | @next r h b ws h1 h2 h3 h4 h5 ih =>
   refine List.nodup_cons.2 ⟨fun hm => ?_, ih⟩
   have hD := Dl.next h1 h2 h3 h4 h5
   obtain ⟨us, g1, g2⟩ := hD.rest hm
   have := hD.det g1
   rw [← this] at g2; omega
theorem Dl.found {l : List Tb} {id pl r : Int} {ws : List Int} (h : Dl l id pl r ws) : ∀ x ∈ r :: ws, (findT l x).isSome := by
 induction h with
 | here h1 => intro x hx; simp at hx; subst hx; simp [h1]
 | next h1 _ _ _ _ ih =>
   intro x hx
   rcases List.mem_cons.1 hx with rfl | hx
   ·simp [h1]
   ·exact ih x hx
theorem Dl.len {l : List Tb} {id pl r : Int} {ws : List Int} (h : Dl l id pl r ws) : ws.length + 1 ≤ l.length := by
 have := path_n h.nodup h.found
 simpa using this
def pkD (p : Pk) (k : Nat) (s : Int) : Pk := ⟨p.mode, p.subd, p.set, p.len, p.ttl - s, p.ent, p.ing, p.proto, 1#64 <<< k, p.pay⟩
theorem pkD_mask (p : Pk) (m : BitVec 64) (k : Nat) (s : Int) : pkD (pkMask p m) k s = pkD p k (s + 1) := by
 simp only [pkD, pkMask]
 congr 1
 omega
theorem idAt_mask (p : Pk) (m : BitVec 64) (k : Nat) : idAt (pkMask p m) k = idAt p k := rfl
structure WayD (l : List Tb) (k : Nat) (p : Pk) (r : Int) (ws : List Int) (t : Trc) : Prop where
 dl : t.dl = [(lastR r ws, pkD p k ws.length)]
 cr : t.cr.map (fun c => (c.1, c.2.1)) = edges r ws
 ls : t.ls = []
theorem way_del {l : List Tb} {k : Nat} (hk : k < 64) {id pl : Int} : ∀ (n : Nat) {p : Pk} {r : Int} {ws : List Int}, p.ttl.toNat + 1 ≤ n → FitL l p → p.bits.getLsbD k = true → idAt p k = id → plnP p = pl → Dl l id pl r ws → (ws.length : Int) ≤ p.ttl → WayD l k p r ws (way l k n (r, p))
 | 0, p, r, ws, hn, _, _, _, _, _, _ => by omega
 | n + 1, p, r, ws, hn, hF, hb, hid, hpl, hD, hlen => by
   have ht := ok_ttl hF.ok
   cases hD with
   | @here _ b h1 h2 h3 =>
     have hbr := (findT_mem h1).2
     have hB := hF.all b (findT_mem h1).1
     have e : hopAt b p k = r := by rw [hopAt_eq hB.ck, hid, hpl]; exact h2
     rw [way]
     simp only [h1, e]
     rw [if_neg h3, if_pos hbr.symm]
     refine ⟨?_, rfl, rfl⟩
     simp only [lastR]
     rw [onlyR_eq hF.ok hk hb]
     simp [pkD]
   | @next _ h b ws h1 h2 h3 h4 h5 =>
     have hbr := (findT_mem h1).2
     have hB := hF.all b (findT_mem h1).1
     have e : hopAt b p k = h := by rw [hopAt_eq hB.ck, hid, hpl]; exact h2
     simp only [List.length_cons] at hlen
     have ht0 : p.ttl ≠ 0 := by omega
     have hr := (hopAt_at hB.ck (k := k) (p := p) (by rw [e]; exact h3)).2
     have ih := way_del hk n (p := cpk b p h) (r := h) (ws := ws) (by simp only [cpk, pkMask]; omega) (hF.mask ht0 _) ((cpk_bit hB hk (by omega)).2 ⟨hb, e⟩) (by rw [cpk, idAt_mask]; exact hid) (by rw [cpk, plnP_mask hF.ok ht0]; exact hpl) h5 (by simp only [cpk, pkMask]; omega)
     rw [way]
     simp only [h1, e]
     rw [if_neg h3, if_neg (by rw [hbr]; exact h4), if_neg ht0]
     refine ⟨?_, ?_, ?_⟩
     ·have h6 := ih.dl
      simp only [Trc.app, List.nil_append, h6, lastR, List.length_cons, Int.natCast_add, Int.natCast_one]
      rw [cpk, pkD_mask]
     ·simp only [Trc.app, List.cons_append, List.nil_append, List.map_cons, ih.cr, edges]
     ·simp only [Trc.app, List.nil_append, ih.ls]
structure WayL (k : Nat) (ttl : Int) (t : Trc) : Prop where
 dl : t.dl = []
 ls : t.ls.length = 1
 cr : (t.cr.length : Int) ≤ ttl
theorem way_lost {l : List Tb} {k : Nat} (hk : k < 64) {id pl : Int} : ∀ (n : Nat) {p : Pk} {r : Int}, p.ttl.toNat + 1 ≤ n → FitL l p → p.bits.getLsbD k = true → idAt p k = id → plnP p = pl → (∀ ws, Dl l id pl r ws → p.ttl < ws.length) → WayL k p.ttl (way l k n (r, p))
 | 0, p, r, hn, _, _, _, _, _ => by omega
 | n + 1, p, r, hn, hF, hb, hid, hpl, hD => by
   have ht := ok_ttl hF.ok
   rw [way]
   cases h1 : findT l r with
   | none => exact ⟨rfl, rfl, by simpa using ht.1⟩
   | some b =>
     have hbr := (findT_mem h1).2
     have hB := hF.all b (findT_mem h1).1
     have e : hopAt b p k = hopB b id pl := by rw [hopAt_eq hB.ck, hid, hpl]
     simp only
     by_cases c0 : hopAt b p k = 0
     ·rw [if_pos c0]; exact ⟨rfl, rfl, by simpa using ht.1⟩
     by_cases c1 : hopAt b p k = b.r
     ·exfalso
      have := hD [] (.here h1 (by rw [← e, c1, hbr]) (by rw [← hbr, ← c1]; exact c0))
      simp at this; omega
     by_cases c2 : p.ttl = 0
     ·rw [if_neg c0, if_neg c1, if_pos c2]; exact ⟨rfl, rfl, by simpa using ht.1⟩
     rw [if_neg c0, if_neg c1, if_neg c2]
     have hr := (hopAt_at hB.ck c0).2
     have ih := way_lost hk n (p := cpk b p (hopAt b p k)) (r := hopAt b p k) (by simp only [cpk, pkMask]; omega) (hF.mask c2 _) ((cpk_bit hB hk hr).2 ⟨hb, rfl⟩) (id := id) (pl := pl) (by rw [cpk, idAt_mask]; exact hid) (by rw [cpk, plnP_mask hF.ok c2]; exact hpl) (fun ws hw => by
      have := hD (hopAt b p k :: ws) (.next h1 e.symm c0 (by rw [← hbr]; exact c1) hw)
      simp only [List.length_cons] at this
      simp only [cpk, pkMask]; omega)
     refine ⟨by simp [Trc.app, ih.dl], by simp [Trc.app, ih.ls], ?_⟩
     have := ih.cr
     have e2 : (cpk b p (hopAt b p k)).ttl = p.ttl - 1 := rfl
     rw [e2] at this
     simp only [Trc.app, List.cons_append, List.nil_append, List.length_cons]
     omega
theorem way_end {l : List Tb} {k : Nat} (hk : k < 64) {p : Pk} (hF : FitL l p) (hb : p.bits.getLsbD k = true) (r : Int) :
  (∃ ws, Dl l (idAt p k) (plnP p) r ws ∧ (ws.length : Int) ≤ p.ttl ∧ WayD l k p r ws (way l k (p.ttl.toNat + 1) (r, p))) ∨
  ((∀ ws, Dl l (idAt p k) (plnP p) r ws → p.ttl < ws.length) ∧ WayL k p.ttl (way l k (p.ttl.toNat + 1) (r, p))) := by
 by_cases h : ∃ ws, Dl l (idAt p k) (plnP p) r ws ∧ (ws.length : Int) ≤ p.ttl
 ·obtain ⟨ws, h1, h2⟩ := h
  exact .inl ⟨ws, h1, h2, way_del hk _ (Nat.le_refl _) hF hb rfl rfl h1 h2⟩
 ·have h' : ∀ ws, Dl l (idAt p k) (plnP p) r ws → p.ttl < ws.length := fun ws hw => Classical.byContradiction fun g => h ⟨ws, hw, by omega⟩
  exact .inr ⟨h', way_lost hk _ (Nat.le_refl _) hF hb rfl rfl h'⟩
theorem find_uniq {α : Type} {q : α → Bool} : ∀ {l : List α} {x : α}, x ∈ l → q x = true → (∀ y ∈ l, q y = true → y = x) → l.find? q = some x
 | [], x, h, _, _ => by simp at h
 | a :: l, x, h, hq, hu => by
   rw [List.find?_cons]
   cases ha : q a with
   | true => rw [hu a (by simp) ha]
   | false =>
     rcases List.mem_cons.1 h with rfl | h
     ·rw [hq] at ha; simp at ha
     ·exact find_uniq h hq (fun y hy => hu y (by simp [hy]))
theorem rt_inj {g : Topo} (hg : g.Ok) {x y : Rt} (hx : x ∈ g.rs) (hy : y ∈ g.rs) (e : x.id = y.id) : x = y := by
 obtain ⟨i, hi, rfl⟩ := List.mem_iff_getElem.1 hx
 obtain ⟨j, hj, rfl⟩ := List.mem_iff_getElem.1 hy
 have hp := List.pairwise_iff_getElem.1 hg.rpw
 rcases Nat.lt_trichotomy i j with hlt | rfl | hlt
 ·have := hp i j hi hj hlt; omega
 ·rfl
 ·have := hp j i hj hi hlt; omega
theorem rtOf_some {g : Topo} (hg : g.Ok) {x : Rt} (hx : x ∈ g.rs) : rtOf g.rs x.id = some x :=
 find_uniq hx (by simp) (fun y hy e => rt_inj hg hy hx (by simpa using e))
theorem capR_iff {g : Topo} (hg : g.Ok) {r : Int} : capR g.rs r = true ↔ ∃ x ∈ g.rs, x.id = r ∧ x.cap = true := by
 constructor
 ·intro h
  unfold capR at h
  cases hr : rtOf g.rs r with
  | none => simp [hr] at h
  | some x =>
    simp only [hr, Option.getD_some] at h
    exact ⟨x, List.mem_of_find?_eq_some hr, by simpa using List.find?_some hr, h⟩
 ·rintro ⟨x, hx, rfl, hc⟩
  simp [capR, rtOf_some hg hx, hc]
theorem tabs_mem {g : Topo} {p : Pn} {b : Tb} (h : b ∈ tabs g p g.rs) : ∃ x ∈ g.rs, x.cap = true ∧ b = buildT g p x.id := by
 obtain ⟨z, hz, rfl⟩ := List.mem_map.1 h
 obtain ⟨h1, h2⟩ := List.mem_filter.1 hz
 exact ⟨z, h1, h2, rfl⟩
theorem tabs_len (g : Topo) (p : Pn) : (tabs g p g.rs).length ≤ g.rs.length := by
 simp only [tabs, List.length_map]
 exact List.length_filter_le _ _
theorem Wk.app {g : Topo} {a b : Int} {j k : Nat} {x v w : Int} (h1 : Wk g a j x v) (h2 : Wk g b k a w) : ∃ u, Wk g b (j + k) x u := by
 induction h1 with
 | nil => exact ⟨w, by rw [Nat.zero_add]; exact h2⟩
 | @cons k' x y c v hp _ ih =>
   obtain ⟨u, hu⟩ := ih
   exact ⟨c + u, by rw [show k' + 1 + k = k' + k + 1 by omega]; exact .cons hp hu⟩
def lkNe (x y : Lk) : Prop := ¬ (x.a = y.a ∧ x.b = y.b)
structure LkI (b a : Int) (l : List Lk) : Prop where
 all : ∀ x ∈ l, (1 ≤ x.a ∧ x.a < x.b ∧ (x.b < b ∨ (x.b = b ∧ x.a < a))) ∧ (1 ≤ x.ca ∧ x.ca ≤ 1000) ∧ (1 ≤ x.cb ∧ x.cb ≤ 1000) ∧ 0 ≤ x.cap ∧ x.cap ≤ 1000
 ne : l.Pairwise lkNe
theorem LkI.step {b a cost tree : Int} {skip : Bool} {T : Tp} {l : List Lk} (h : LkI b a l) (ha : 1 ≤ a) (hab : a < b) (hc : 1 ≤ cost ∧ cost ≤ 1000) : LkI b (a + 1) (gTopS cost tree skip b a T l).1 := by
 have hw : LkI b (a + 1) l := ⟨fun x hx => by have := h.all x hx; omega, h.ne⟩
 unfold gTopS
 simp only
 generalize (if (decide (a = tree) && !skip) = true then (true, T) else gOne T 3) = c
 cases c.1 with
 | false => simpa using hw
 | true =>
   simp only [if_true]
   have r1 := gRange_lo c.2 1 cost
   have r2 := gRange_hi c.2 (a := 1) (b := cost) hc.1
   generalize gRange c.2 1 cost = X at r1 r2
   have r3 := gRange_lo X.2 1 cost
   have r4 := gRange_hi X.2 (a := 1) (b := cost) hc.1
   generalize gRange X.2 1 cost = Y at r3 r4
   have r5 := gNext_nonneg Y.2 4
   have r6 := gNext_lt Y.2 (n := 4) (by omega)
   generalize gNext Y.2 4 = Z at r5 r6
   refine ⟨fun x hx => ?_, ?_⟩
   ·rcases List.mem_append.1 hx with hx | hx
    ·exact hw.all x hx
    ·simp at hx; subst hx
     exact ⟨⟨ha, hab, .inr ⟨rfl, by show a < a + 1; omega⟩⟩, ⟨r1, Int.le_trans r2 hc.2⟩, ⟨r3, Int.le_trans r4 hc.2⟩, r5, by show Z.1 ≤ 1000; omega⟩
   ·rw [List.pairwise_append]
    refine ⟨h.ne, by simp, fun x hx y hy => ?_⟩
    simp at hy; subst hy
    have := h.all x hx
    unfold lkNe; simp only; omega
theorem LkI.row {b cost tree : Int} {skip : Bool} (hc : 1 ≤ cost ∧ cost ≤ 1000) : ∀ (n : Nat) (a : Int) (T : Tp) (l : List Lk), LkI b a l → 1 ≤ a → a + n ≤ b → LkI b (a + n) (gTopA cost tree skip b n a T l).1
 | 0, a, T, l, h, _, _ => by simpa [gTopA] using h
 | n + 1, a, T, l, h, h1, h2 => by
   rw [gTopA]
   have := LkI.row (tree := tree) (skip := skip) hc n (a + 1) (gTopS cost tree skip b a T l).2 _ (h.step (tree := tree) (skip := skip) (T := T) h1 (by omega) hc) (by omega) (by omega)
   rw [show a + ((n + 1 : Nat) : Int) = a + 1 + n by omega]
   exact this
theorem pw_adj {α : Type} {q : α → α → Bool} {r : α → α → Prop} (hr : ∀ x y, r x y → q x y = false) : ∀ {l : List α}, l.Pairwise r → adjB q l = false
 | [], _ => rfl
 | [x], _ => rfl
 | x :: y :: l, h => by
   rw [List.pairwise_cons] at h
   rw [adjB, hr x y (h.1 y (by simp)), pw_adj hr h.2]; rfl
theorem chkT_of {g : Topo} (h1 : g.rs.length ≤ 24) (h2 : g.ls.length ≤ 60) (h3 : ∀ x ∈ g.rs, 1 ≤ x.id ∧ x.id ≤ 99) (h4 : g.rs.Pairwise fun x y => x.id < y.id)
  (h5 : ∀ x ∈ g.ls, (1 ≤ x.ca ∧ x.ca ≤ 1000) ∧ (1 ≤ x.cb ∧ x.cb ≤ 1000) ∧ 0 ≤ x.cap ∧ x.cap ≤ 1000) (h6 : ∀ x ∈ g.ls, hasR g.rs x.a = true ∧ hasR g.rs x.b = true) (h7 : ∀ x ∈ g.ls, x.a < x.b) (h8 : g.ls.Pairwise lkLt) : chkT g = 0 := by
 have a1 : decide (24 < g.rs.length) = false := by simp; omega
 have a2 : decide (60 < g.ls.length) = false := by simp; omega
 have a3 : (g.rs.any fun x => !inB x.id 1 99) = false := by
  rw [List.any_eq_false]; intro x hx; have := h3 x hx; simp [inB]; omega
 have a4 : adjB (fun x y => decide (y.id ≤ x.id)) g.rs = false := pw_adj (r := fun x y => x.id < y.id) (fun x y h => by simpa using h) h4
 have a5 : g.ls.any Lk.bad = false := by
  rw [List.any_eq_false]; intro x hx; have := h5 x hx; simp [Lk.bad, inB]; omega
 have a6 : (g.ls.any fun x => !hasR g.rs x.a || !hasR g.rs x.b) = false := by
  rw [List.any_eq_false]; intro x hx; have := h6 x hx; simp [this.1, this.2]
 have a7 : (g.ls.any fun x => decide (x.b ≤ x.a)) = false := by
  rw [List.any_eq_false]; intro x hx; have := h7 x hx; simp; omega
 have a8 : adjB (fun x y => decide (y.a < x.a) || decide (x.a = y.a) && decide (y.b ≤ x.b)) g.ls = false := pw_adj (r := lkLt) (fun x y h => by
  unfold lkLt at h
  simp only [Bool.or_eq_false_iff, Bool.and_eq_false_iff, decide_eq_false_iff_not]; omega) h8
 simp only [chkT, firstE, a1, a2, a3, a4, a5, a6, a7, a8, cond_false]
structure RunI (l : List Tb) (Q : List (Int × Pk)) (t : Trc) : Prop where
 fit : ∀ q ∈ Q, FitL l q.2 ∧ (findT l q.1 = none → q.2.bits ≠ 0#64)
 dl : ∀ d ∈ t.dl, ∃ k < 64, d.2.bits = 1#64 <<< k
 ls : ∀ x ∈ t.ls, x.2 ≠ 0#64
 cr : ∀ c ∈ t.cr, c.2.2 ≠ 0#64
theorem RunI.step {l : List Tb} {q : Int × Pk} {Q : List (Int × Pk)} {t : Trc} (h : RunI l (q :: Q) t) : RunI l (Q ++ nextQ l q) (stepT l q t) := by
 have hq := h.fit q (by simp)
 have hQ : ∀ c ∈ Q, FitL l c.2 ∧ (findT l c.1 = none → c.2.bits ≠ 0#64) := fun c hc => h.fit c (by simp [hc])
 cases hf : findT l q.1 with
 | none =>
   have hn : nextQ l q = [] := by simp [nextQ, hf]
   rw [hn, List.append_nil]
   refine ⟨hQ, ?_, ?_, ?_⟩ <;> simp only [stepT, hf]
   ·exact h.dl
   ·intro x hx
    rcases List.mem_append.1 hx with hx | hx
    ·exact h.ls x hx
    ·simp at hx; subst hx; exact hq.2 hf
   ·exact h.cr
 | some b =>
   have hb := hq.1.all b (findT_mem hf).1
   obtain ⟨h1, h2⟩ := fwd_spec hb
   have hn : nextQ l q = (fwdV b q.2).cps := by simp [nextQ, hf, h1]
   obtain ⟨H, h3, h4, h5⟩ := h2.cps
   have hc : ∀ c ∈ (fwdV b q.2).cps, c.2.bits ≠ 0#64 := fun c hc => by
    rw [h3] at hc
    simp only [out0, List.nil_append, List.mem_map] at hc
    obtain ⟨x, hx, rfl⟩ := hc
    obtain ⟨_, a1, a2, k, hk, a3, a4⟩ := (h5 x).1 hx
    have hr := (hopAt_at hb.ck (k := k) (p := q.2) (by rw [a4]; exact a1)).2
    rw [a4] at hr
    have := (cpk_bit hb hk hr).2 ⟨a3, a4⟩
    intro e
    simp only at e
    rw [e] at this; simp at this
   refine ⟨fun c hm => ?_, ?_, ?_, ?_⟩
   ·rcases List.mem_append.1 hm with hm | hm
    ·exact hQ c hm
    ·exact ⟨next_fit hq.1 c hm, fun _ => hc c (by rw [← hn]; exact hm)⟩
   ·simp only [stepT, hf, h1]
    intro d hd
    rcases List.mem_append.1 hd with hd | hd
    ·exact h.dl d hd
    ·simp only [locV, bitsI, List.map_map, List.mem_map] at hd
     obtain ⟨k, hk, rfl⟩ := hd
     obtain ⟨k1, k2⟩ := mem_bitsL.1 hk
     have hpb : q.2.bits.getLsbD k = true := by
      rcases (h2.loc k k1).1 k2 with a | a
      ·simp [out0] at a
      ·exact a.1
     refine ⟨k, k1, ?_⟩
     show (onlyR q.2 (Int.ofNat k)).bits = _
     have := onlyR_eq hq.1.ok k1 hpb
     rw [Int.ofNat_eq_natCast, this]
   ·simp only [stepT, hf, h1]
    intro x hx
    split at hx
    ·exact h.ls x hx
    ·rename_i hne
     rcases List.mem_append.1 hx with hx | hx
     ·exact h.ls x hx
     ·simp at hx; subst hx; exact hne
   ·simp only [stepT, hf, h1]
    intro c hm
    rcases List.mem_append.1 hm with hm | hm
    ·exact h.cr c hm
    ·obtain ⟨x, hx, rfl⟩ := List.mem_map.1 hm
     exact hc x hx
theorem run_bit {l : List Tb} {p : Pk} (hF : FitL l p) (r : Int) {k : Nat} (hk : k < 64) :
  (((runG l (wt p) [(r, p)] tr0).dl.filter fun d => d.2.bits.getLsbD k).length + ((runG l (wt p) [(r, p)] tr0).ls.filter fun x => x.2.getLsbD k).length = if p.bits.getLsbD k = true then 1 else 0) ∧
  (((runG l (wt p) [(r, p)] tr0).cr.filter fun c => c.2.2.getLsbD k).length ≤ if p.bits.getLsbD k = true then p.ttl.toNat else 0) := by
 have e1 : ((runG l (wt p) [(r, p)] tr0).dl.filter fun d => d.2.bits.getLsbD k) = ((runG l (wt p) [(r, p)] tr0).at k).dl := rfl
 have e2 : ((runG l (wt p) [(r, p)] tr0).ls.filter fun x => x.2.getLsbD k) = ((runG l (wt p) [(r, p)] tr0).at k).ls := rfl
 have e3 : ((runG l (wt p) [(r, p)] tr0).cr.filter fun c => c.2.2.getLsbD k) = ((runG l (wt p) [(r, p)] tr0).at k).cr := rfl
 rw [e1, e2, e3]
 have ht := ok_ttl hF.ok
 by_cases hb : p.bits.getLsbD k = true
 ·rw [run_at hF r hk hb, if_pos hb, if_pos hb]
  rcases way_end hk hF hb r with ⟨ws, _, h2, h3⟩ | ⟨_, h3⟩
  ·refine ⟨by rw [h3.dl, h3.ls]; rfl, ?_⟩
   have := congrArg List.length h3.cr
   rw [List.length_map, edges_len] at this
   omega
  ·refine ⟨by rw [h3.dl, h3.ls]; rfl, ?_⟩
   have := h3.cr
   omega
 ·rw [run_off hF r hk hb, if_neg hb, if_neg hb]
  exact ⟨rfl, Nat.le_refl _⟩
theorem run_dl {l : List Tb} {p : Pk} (hF : FitL l p) (r : Int) {k : Nat} (hk : k < 64) (d : Int × Pk) :
  (d ∈ (runG l (wt p) [(r, p)] tr0).dl ∧ d.2.bits.getLsbD k = true) ↔ p.bits.getLsbD k = true ∧ ∃ ws, Dl l (idAt p k) (plnP p) r ws ∧ (ws.length : Int) ≤ p.ttl ∧ d = (lastR r ws, pkD p k ws.length) := by
 have e : (d ∈ (runG l (wt p) [(r, p)] tr0).dl ∧ d.2.bits.getLsbD k = true) ↔ d ∈ ((runG l (wt p) [(r, p)] tr0).at k).dl := by simp [Trc.at]
 rw [e]
 by_cases hb : p.bits.getLsbD k = true
 ·rw [run_at hF r hk hb]
  rcases way_end hk hF hb r with ⟨ws, h1, h2, h3⟩ | ⟨h1, h3⟩
  ·rw [h3.dl]
   constructor
   ·intro h; exact ⟨hb, ws, h1, h2, by simpa using h⟩
   ·rintro ⟨_, us, a1, a2, rfl⟩
    rw [h1.det a1]; simp
  ·rw [h3.dl]
   constructor
   ·intro h; simp at h
   ·rintro ⟨_, us, a1, a2, rfl⟩
    have := h1 us a1; omega
 ·rw [run_off hF r hk hb]
  simp [tr0, hb]
def AllCap (g : Topo) : Prop := ∀ x ∈ g.rs, x.cap = true
theorem AllCap.cap {g : Topo} (hg : g.Ok) (h : AllCap g) {r : Int} (hr : hasR g.rs r = true) : capR g.rs r = true := by
 obtain ⟨x, hx, rfl⟩ := List.mem_map.1 (hasR_mem.1 hr)
 exact (capR_iff hg).2 ⟨x, hx, rfl, h x hx⟩
set_option maxRecDepth 100000
set_option maxHeartbeats 2000000
open Go Go.Tr
theorem gOrderL_nodup : ∀ (n i : Nat) (T : Tp) (l : List Int), l.Nodup → (∀ x ∈ l, x < (i : Int)) → (gOrderL n i T l).1.Nodup
 | 0, _, _, _, h, _ => h
 | n + 1, i, T, l, h, hb => by
   rw [gOrderL]
   generalize (gNext T (i + 1)).1.toNat = k
   have hs : (l.take k ++ l.drop k).Nodup := by rw [List.take_append_drop]; exact h
   have hi : (i : Int) ∉ l := fun hm => by have := hb _ hm; omega
   refine gOrderL_nodup n (i + 1) _ _ ?_ fun x hx => ?_
   ·rw [List.nodup_append] at hs ⊢
    obtain ⟨h1, h2, h3⟩ := hs
    refine ⟨?_, h2, fun a ha b hb' => ?_⟩
    ·rw [List.nodup_append]
     refine ⟨h1, by simp, fun a ha b hb' => ?_⟩
     simp at hb'; subst hb'
     intro e; subst e
     exact hi (List.mem_of_mem_take ha)
    ·rcases List.mem_append.1 ha with ha | ha
     ·exact h3 a ha b hb'
     ·simp at ha; subst ha
      intro e; subst e
      exact hi (List.mem_of_mem_drop hb')
   ·simp only [List.mem_append, List.mem_singleton] at hx
    rcases hx with (hx | hx) | hx
    ·have := hb x (List.mem_of_mem_take hx); omega
    ·omega
    ·have := hb x (List.mem_of_mem_drop hx); omega
end Go.Proofs

set_option maxRecDepth 100000
namespace Go.Proofs
open Go Go.Tr
theorem tabs_sd {g : Topo} {p : Pn} : ∀ b ∈ tabs g p g.rs, b.sd = p.subd ∧ b.len = p.len := fun b hb => by
 obtain ⟨x, _, _, rfl⟩ := tabs_mem hb
 exact ⟨rfl, rfl⟩
theorem tabs_chk {g : Topo} (hg : chkT g = 0) {p : Pn} (hp : planB p = true) : ∀ b ∈ tabs g p g.rs, chk b = 0 := fun b hb => by
 obtain ⟨x, hx, _, rfl⟩ := tabs_mem hb
 exact buildT_ok hg hp (hasR_mem.2 (List.mem_map_of_mem hx))
theorem tabs_asc {g : Topo} (hg : g.Ok) (p : Pn) : (tabs g p g.rs).Pairwise fun x y => x.r < y.r := by
 unfold tabs
 rw [List.pairwise_map]
 exact (hg.rpw.sublist List.filter_sublist).imp fun h => h
theorem chkA_of {l : List Tb} (h1 : l.length ≤ 24) (h2 : ∀ b ∈ l, chk b = 0) (h3 : l.Pairwise fun x y => x.r < y.r) (h4 : ∀ b ∈ l, ∀ c ∈ l, b.sd = c.sd ∧ b.len = c.len) : chkA l = 0 := by
 have a1 : decide (24 < l.length) = false := by simp; omega
 have a2 : (l.any fun b => decide (chk b ≠ 0)) = false := by
  rw [List.any_eq_false]; intro b hb; simp [h2 b hb]
 have a3 : adjB (fun x y : Tb => decide (y.r ≤ x.r)) l = false := pw_adj (r := fun x y => x.r < y.r) (fun x y h => by simpa using h) h3
 have a4 : (l.any fun b => decide (b.sd ≠ (l.headD tb0).sd) || decide (b.len ≠ (l.headD tb0).len)) = false := by
  rw [List.any_eq_false]
  intro b hb
  have : l.headD tb0 ∈ l := by
   cases l with
   | nil => simp at hb
   | cons a l => simp
  have := h4 b hb _ this
  simp [this.1, this.2]
 simp only [chkA, firstE, a1, a2, a3, a4, cond_false]
theorem findT_some {l : List Tb} {r : Int} : (findT l r).isSome ↔ r ∈ l.map (·.r) := by
 rw [findT, List.find?_isSome]; simp
structure TabV (p : Pn) (rs : List Int) (l : List Tb) : Prop where
 all : chkA l = 0
 ck : ∀ b ∈ l, chk b = 0
 sd : ∀ b ∈ l, b.sd = p.subd ∧ b.len = p.len
 rs : ∀ r, (findT l r).isSome ↔ r ∈ rs
 n : l.length ≤ 24
set_option maxHeartbeats 4000000
def Pk.for (q : Pk) (subd len set : Int) (B : BitVec 64) : Pk := ⟨1, subd, set, len, q.ttl, q.ent, q.ing, q.proto, B, q.pay⟩
theorem validLen_cases {n : Int} (h : validLen n = true) : n = 8 ∨ n = 16 ∨ n = 32 ∨ n = 64 := by
 simp [validLen] at h; omega
theorem fullB_bit' {len : Int} (hl : validLen len = true) {k : Nat} (hk : k < 64) : (fullB len).getLsbD k = decide ((k : Int) < len) := by
 have := validLen_cases hl
 rw [fullB, if_pos hl, fullN_bit hk _ (by omega)]
 congr 1
 rw [eq_iff_iff]; omega
theorem validB_of {B : BitVec 64} {len : Int} (hl : validLen len = true) (h : ∀ k < 64, B.getLsbD k = true → (k : Int) < len) : validB B len = true := by
 simp only [validB, hl, Bool.true_and, decide_eq_true_eq]
 apply BitVec.eq_of_getLsbD_eq
 intro k hk
 rw [BitVec.getLsbD_and, BitVec.getLsbD_not, fullB_bit' hl hk]
 simp only [hk, decide_true, Bool.true_and, BitVec.getLsbD_zero]
 cases hb : B.getLsbD k with
 | false => rfl
 | true => simp [h k hk hb]
theorem bitB_iff {j : Int} {k : Nat} (hk : k < 64) : (bitB j).getLsbD k = true ↔ (k : Int) = j := by
 unfold bitB
 split
 ·rename_i h
  simp; omega
 ·rename_i h
  rw [wrap_u64 (by omega) (by omega), bit_one (by omega) hk]
  simp; omega
theorem plBit_lt {id len : Int} (hl : validLen len = true) : plBit id len < len ∧ 0 ≤ plBit id len := by
 have := validLen_cases hl
 unfold plBit
 split
 ·have h1 := Int.emod_lt_of_pos (id - 1) (b := len) (by omega)
  have h2 := Int.emod_nonneg (id - 1) (b := len) (by omega)
  omega
 ·omega
theorem plSet_le {id len : Int} (hl : validLen len = true) : 0 ≤ plSet id len ∧ plSet id len ≤ 31 := by
 have := validLen_cases hl
 unfold plSet
 split
 ·rename_i h
  simp only [Bool.and_eq_true, inB, decide_eq_true_eq] at h
  have h1 : 0 ≤ (id - 1) / len := Int.ediv_nonneg (by omega) (by omega)
  have h2 : (id - 1) / len ≤ (id - 1) / 8 := by
   rcases this with rfl | rfl | rfl | rfl <;> omega
  omega
 ·omega
theorem ok_iff (p : Pk) : p.ok = true ↔ (1 ≤ p.mode ∧ p.mode ≤ 3) ∧ (0 ≤ p.subd ∧ p.subd ≤ 7) ∧ (0 ≤ p.set ∧ p.set ≤ 31) ∧ validB p.bits p.len = true ∧ (0 ≤ p.ttl ∧ p.ttl ≤ 63) ∧ (0 ≤ p.ent ∧ p.ent ≤ 1023) ∧ (0 ≤ p.ing ∧ p.ing ≤ 256) ∧ (0 ≤ p.proto ∧ p.proto ≤ 7) ∧ p.pay.size ≤ 64 := by
 simp [Pk.ok, insB, and_assoc]
structure ForV (p : Pn) (q : Pk) : Prop where
 ok : q.ok = true
 mode : q.mode = 1
 subd : q.subd = p.subd
 len : q.len = p.len
theorem TabV.fit {p : Pn} {rs : List Int} {l : List Tb} (h : TabV p rs l) {q : Pk} (hq : ForV p q) : FitL l q :=
 ⟨hq.ok, fun b hb => ⟨h.ck b hb, (h.sd b hb).1.trans hq.subd.symm, (h.sd b hb).2.trans hq.len.symm, hq.ok, by rw [hq.mode]; decide⟩⟩
theorem TabV.run {p : Pn} {rs : List Int} {l : List Tb} (h : TabV p rs l) {q : Pk} (hq : ForV p q) {r : Int} (hr : r ∈ rs) : runR l q r = (runG l (wt q) [(r, q)] tr0, 0) ∧ (findT l r).isSome := by
 have hs := (h.rs r).2 hr
 refine ⟨?_, hs⟩
 obtain ⟨b, hb⟩ := Option.isSome_iff_exists.1 hs
 have hsd := h.sd b (findT_mem hb).1
 unfold runR
 rw [if_neg (by simp [h.all, hq.ok]), hb]
 simp only
 rw [if_neg (by rw [hq.mode]; decide), if_neg (by rw [hsd.1, hsd.2, hq.subd, hq.len]; simp)]
theorem TabV.sm {p : Pn} {rs : List Int} {l : List Tb} (h : TabV p rs l) : SmL l := ⟨by have := h.n; omega, fun b hb => chk_sm (h.ck b hb)⟩
end Go.Proofs

namespace Go.Tr
open Go
def irow (zs : List (List Int)) : List (List D) := zs.map fun z => z.map (.int .i64)
@[simp] theorem irow_len (zs : List (List Int)) : (irow zs).length = zs.length := by simp [irow]
@[simp] theorem ddi_len (zs : List (List Int)) : (dd (irow zs)).length = zs.length := by simp [dd]
def flat (zs : List (List Int)) : List Value := zs.flatMap fun z => z.map (.int .i64)
theorem flat_cons (z : List Int) (zs : List (List Int)) : flat (z :: zs) = z.map (.int .i64) ++ flat zs := rfl
theorem flat_len {k : Nat} : ∀ {zs : List (List Int)}, (∀ z ∈ zs, z.length = k) → (flat zs).length = zs.length * k
 | [], _ => by simp [flat]
 | z :: zs, h => by
   have h1 := h z (by simp)
   have h2 := flat_len (zs := zs) fun y hy => h y (by simp [hy])
   rw [flat_cons, List.length_append, List.length_map, h1, h2, List.length_cons, Nat.add_mul]; omega
theorem cellsrel_ints {E : En} {us : List Value} : ∀ {z : List Int} {o : Nat}, (∀ j n, z[j]? = some n → us[o + j]? = some (.int .i64 n)) → CellsRel E us o ((z.map (D.int .i64)).map .d)
 | [], _, _ => trivial
 | n :: z, o, h => ⟨⟨.int .i64 n, by simpa using h 0 n rfl, rfl, by simp [RelV, Rep]⟩, cellsrel_ints fun j m hj => by
   have := h (j + 1) m hj
   rwa [show o + (j + 1) = o + 1 + j by omega] at this⟩
theorem rowrel_flat {E : En} {k : Nat} {us : List Value} : ∀ {zs : List (List Int)} {o : Nat}, (∀ z ∈ zs, z.length = k) → (∀ i v, (flat zs)[i]? = some v → us[o + i]? = some v) → RowRel E us k o (dd (irow zs))
 | [], _, _, _ => trivial
 | z :: zs, o, hl, h => by
   have h1 := hl z (by simp)
   refine ⟨by simp [h1], cellsrel_ints fun j n hj => ?_, rowrel_flat (fun y hy => hl y (by simp [hy])) fun i v hv => ?_⟩
   ·refine h j _ ?_
    rw [flat_cons, List.getElem?_append_left (by rw [List.length_map]; exact (List.getElem?_eq_some_iff.1 hj).1)]
    simp [hj]
   ·have := h (k + i) v (by rw [flat_cons, List.getElem?_append_right (by simp; omega)]; simpa [h1] using hv)
    rwa [show o + (k + i) = o + k + i by omega] at this
theorem ints_cellsrel {E : En} {us : List Value} : ∀ {z : List Int} {o : Nat}, CellsRel E us o ((z.map (D.int .i64)).map .d) → ∀ j n, z[j]? = some n → us[o + j]? = some (.int .i64 n)
 | n :: z, o, ⟨⟨u, h1, _, h3⟩, h4⟩, j, m, hj => by
   cases j with
   | zero =>
     simp at hj; subst hj
     simp only [RelV, Rep] at h3
     subst h3
     simpa using h1
   | succ j =>
     have := ints_cellsrel h4 j m (by simpa using hj)
     rwa [show o + 1 + j = o + (j + 1) by omega] at this
theorem flat_rowrel {E : En} {k : Nat} {us : List Value} : ∀ {zs : List (List Int)} {o : Nat}, RowRel E us k o (dd (irow zs)) → (∀ z ∈ zs, z.length = k) ∧ ∀ i v, (flat zs)[i]? = some v → us[o + i]? = some v
 | [], _, _ => ⟨by simp, by simp [flat]⟩
 | z :: zs, o, h => by
   obtain ⟨h1, h2, h3⟩ : ((z.map (D.int .i64)).map TV.d).length = k ∧ CellsRel E us o ((z.map (D.int .i64)).map .d) ∧ RowRel E us k (o + k) (dd (irow zs)) := h
   rw [List.length_map, List.length_map] at h1
   obtain ⟨h4, h5⟩ := flat_rowrel h3
   refine ⟨fun y hy => by rcases List.mem_cons.1 hy with rfl | hy; exact h1; exact h4 y hy, fun i v hv => ?_⟩
   rw [flat_cons] at hv
   by_cases hi : i < z.length
   ·rw [List.getElem?_append_left (by simpa using hi), List.getElem?_map] at hv
    rw [List.getElem?_eq_getElem hi] at hv
    simp at hv; subst hv
    exact ints_cellsrel h2 i _ (List.getElem?_eq_getElem hi)
   ·rw [List.getElem?_append_right (by simp; omega)] at hv
    rw [List.length_map, h1] at hv
    have := h5 (i - k) v hv
    rwa [show o + k + (i - k) = o + i by omega] at this
structure SortC (P : Program) (f g : FuncId) (k : Nat) (pre : List (List Int) → Prop) (F : List (List Int) → List (List Int)) : Prop where
 len : ∀ zs, (F zs).length = zs.length
 row : ∀ zs, (∀ z ∈ zs, z.length = k) → ∀ z ∈ F zs, z.length = k
 run : ∀ (w : World) (b cap : Nat) (zs : List (List Int)) (cur : Array Value) (e : TypeId), w.heap[b]? = some (.cells cur e (0, 0)) → zs.length ≤ cap → cap ≤ maxLen → cur.size = cap * k → cur.toList.take (zs.length * k) = flat zs → (∀ z ∈ zs, z.length = k) → pre zs → 0 < zs.length → zs.length < 4611686018427387904 →
  Calls P f #[.slice (some ⟨b, 0, none⟩) zs.length cap, .func (.func g) #[] #[]] w fun e' w' => e' = .returned (.tuple #[]) ∧ w.grownBy w' (some b) ∧
   ∃ cur', w'.heap[b]? = some (.cells cur' e (0, 0)) ∧ cur'.size = cap * k ∧ cur'.toList.take (zs.length * k) = flat (F zs)
 none : ∀ p cap w, Calls P f #[.slice p 0 cap, .func (.func g) #[] #[]] w fun e' w' => e' = .returned (.tuple #[]) ∧ w' = w
section
variable {P : Program} {A : Actv} {ops : Array Oper}
theorem Sum.sortF {t : S} {i : Nat} {o : Oper} {gp : List Pl} {fo x y : Operand} {tys : Array TypeId} {f g : FuncId} {pre : List (List Int) → Prop} {F : List (List Int) → List (List Int)} {id n k : Nat} {e : TypeId} {zs : List (List Int)}
  (ho : ops[i]? = some o) (hg : gv ops t o = some (gp, true)) (hd : dstOK A.N o = true) (hop : o.op = .call { callee := .value fo, args := #[x, y], argTypes := tys }) (hf : ev t fo = .clo f []) (hfn : fnOK P f = true)
  (C : SortC P f g k pre F) (hpre : pre zs) (hx : ev t x = .oref id n) (hy : ev t y = .clo g []) (ht : t (.o id) = .row e k (dd (irow zs)) false) (hn : n = zs.length) (hsz : zs.length < 4611686018427387904) :
  Sum P A ops i t (gp ++ (pl fo ++ (pl x ++ (pl y ++ [.o id])))) (dstW o (.tup []) [(.o id, .row e k (dd (irow (F zs))) false)]) := fun t' hr a w ⟨E, hw, hi⟩ K Q hK => by
 subst hw
 have hwant := gv_wanted hg (pl_left hr) hi
 have hr1 := pl_right hr
 have hr2 := pl_right hr1
 have hr3 := pl_right hr2
 have hfo : ev t' fo = .clo f [] := (ev_eq (pl_left hr1)).trans hf
 have hx' : ev t' x = .oref id n := (ev_eq (pl_left hr2)).trans hx
 have hy' : ev t' y = .clo g [] := (ev_eq (pl_left hr3)).trans hy
 have ht' : t' (.o id) = .row e k (dd (irow zs)) false := (pl_right hr3 _ (by simp)).trans ht
 have hfr := ev_rel hi fo
 rw [hfo] at hfr
 simp only [RelV, RelVs] at hfr
 obtain ⟨ucap, hufo, hucap⟩ := hfr
 obtain rfl : ucap = #[] := by cases ucap; simpa using hucap
 have hyr := ev_rel hi y
 rw [hy'] at hyr
 simp only [RelV, RelVs] at hyr
 obtain ⟨ycap, huy, hycap⟩ := hyr
 obtain rfl : ycap = #[] := by cases ycap; simpa using hycap
 have hxr := ev_rel hi x
 rw [hx'] at hxr
 obtain ⟨hblk, v, us, hval, hown, hrel, hcur⟩ := row_cur hi ht'
 have hnl : (dd (irow zs)).length = zs.length := ddi_len zs
 rw [hn, ← hnl] at hxr
 have hxv := hcur _ hxr
 rw [hnl] at hval hown
 unfold wpOp
 simp only [ho, hwant, if_true]
 refine .inl ?_
 unfold Oper.wp
 have hrun : (execOp a.eval o).run P E.w = .ok (.enter f #[v, .func (.func g) #[] #[]]) E.w := by
  simp only [execOp, hop, resolve, hufo, Deferred.ofValue, invoke, Sem.run_bind, Sem.run_pure, Result.andThen_ok, List.map_toArray, Array.empty_append, run_callFunc hfn, hxv, huy, Array.map, Array.append_empty]
  simp [hxv, huy, run_callFunc hfn]
 rw [hrun]
 simp only [Oper.upon]
 obtain ⟨hlz, hnum⟩ := flat_rowrel hrel
 simp only [Nat.zero_add] at hnum
 have hownp : E.own (.o id) = v.ownBlock := by simp [En.own, hblk, hval]
 have htsh : ∀ (b : Nat), E.own (.o id) = some b → ∀ o', ¬ E.St b o' := fun b hb o' hs => by
  obtain ⟨e2, k2, es2, h1, _⟩ := hi.h.sep b o' hs _ hb
  rw [ht'] at h1
  simp at h1
 have fin : ∀ (w' : World) (us' : List Value), E.w.grownBy w' v.ownBlock → w'.ownsRow 0 e k v zs.length us' → (∀ (i : Nat) (u : Value), (flat (F zs))[i]? = some u → us'[i]? = some u) → K (a.put o.dst (.tuple #[])) w' := fun w' us' hgr hown' hcells => by
  obtain ⟨E', hw', x1, hi', hval'⟩ := hi.rowStep ht' (es' := dd (irow (F zs))) (sh' := false) (us' := us') (v' := v) (w' := w') (by rw [hnl]; exact hval) hgr
   (by rw [ddi_len, C.len]; exact hown') (by rw [ddi_len, ddi_len, C.len]; exact Nat.le_refl _) (fun _ => rfl) (.inl rfl)
   (fun b o' hst => by
    by_cases hb : v.ownBlock = some b
    ·exact absurd hst (htsh b (by rw [hownp, hb]) o')
    ·exact atW_of_block (hgr.block b (hi.h.stsz b o' hst) (fun e => hb e.symm)))
   (fun h => by simp at h) (fun E' hw' x => rowrel_flat (C.row zs hlz) (by simpa using hcells))
  refine hK _ _ ⟨E', hw', ?_⟩
  exact InvE.dst (W := [(.o id, .row e k (dd (irow (F zs))) false)]) hi' hd (by simp only [RelV]; exact ⟨#[], rfl, by simp [RelVs]⟩)
 have hsame : zs.length = 0 → ∀ (i : Nat) (u : Value), (flat (F zs))[i]? = some u → us[i]? = some u := fun h0 i u hu => by
  have := C.len zs
  rw [h0] at this
  rw [List.length_eq_zero_iff.1 this] at hu
  simp [flat] at hu
 rcases hown.2 with ⟨hv, h0⟩ | ⟨b, cap, cur, hv, hb0, hgg, hnc, hcm, hcs, htake⟩
 ·subst hv
  refine (C.none none 0 E.w).mono fun e' w' ⟨he, hw'⟩ => ?_
  subst he hw'
  exact fin E.w us ⟨rfl, rfl, rfl, Nat.le_refl _, fun _ _ _ => rfl⟩ hown (hsame h0)
 ·by_cases h0 : zs.length = 0
  ·subst hv
   have := hsame h0
   rw [h0]
   refine (C.none _ cap E.w).mono fun e' w' ⟨he, hw'⟩ => ?_
   subst he hw'
   rw [h0] at fin hown
   exact fin E.w us ⟨rfl, rfl, rfl, Nat.le_refl _, fun _ _ _ => rfl⟩ hown this
  ·subst hv
   have husz : us = flat zs := by
    apply List.ext_getElem?
    intro i
    by_cases hi2 : i < (flat zs).length
    ·rw [hnum i _ (List.getElem?_eq_getElem hi2), List.getElem?_eq_getElem hi2]
    ·have h1 := hown.1
     rw [← flat_len hlz] at h1
     rw [List.getElem?_eq_none (by omega), List.getElem?_eq_none (by omega)]
   rw [husz] at htake
   refine (C.run E.w b cap zs cur e hgg hnc hcm hcs htake hlz hpre (by omega) hsz).mono fun e' w' ⟨he, hgr, cur', h1, h2, h3⟩ => ?_
   subst he
   exact fin w' (flat (F zs)) hgr ⟨by rw [flat_len (C.row zs hlz), C.len], .inr ⟨b, cap, cur', rfl, hb0, h1, hnc, hcm, h2, h3⟩⟩ fun i u hu => hu
def sortFX (P : Program) (N : Nat) (t : S) (o : Oper) (f g : FuncId) (k : Nat) (pre : List (List Int) → Prop) (F : List (List Int) → List (List Int)) (zs : List (List Int)) (gp : List Pl) (gd : Bool) (fo x y : Operand) : Option (Prop × List Pl × List (Pl × It)) :=
 match ev t x with
 | .oref id n => match ev t fo with
   | .clo f' caps => match ev t y with
     | .clo g' caps2 => match t (.o id) with
       | .row e z es sh => some (gd = true ∧ dstOK N o = true ∧ f' = f ∧ caps = [] ∧ g' = g ∧ caps2 = [] ∧ fnOK P f = true ∧ z = k ∧ sh = false ∧ es = dd (irow zs) ∧ n = zs.length ∧ zs.length < 4611686018427387904 ∧ pre zs, gp ++ (pl fo ++ (pl x ++ (pl y ++ [.o id]))), dstW o (.tup []) [(.o id, .row e z (dd (irow (F zs))) false)])
       | _ => none
     | _ => none
   | _ => none
 | _ => none
def sortFO (P : Program) (N : Nat) (t : S) (ops : Array Oper) (f g : FuncId) (k : Nat) (pre : List (List Int) → Prop) (F : List (List Int) → List (List Int)) (zs : List (List Int)) : Option Oper → Option (Prop × List Pl × List (Pl × It))
 | some o => match gv ops t o with
   | some (gp, gd) => match o.op with
     | .call { callee := .value fo, args := xs, argTypes := _ } => match xs.toList with
       | [x, y] => sortFX P N t o f g k pre F zs gp gd fo x y
       | _ => none
     | _ => none
   | none => none
 | none => none
theorem ACall.sortF {i : Nat} {t : S} {kk : List Pl → List (Pl × It) → Prop} {gt : Tg kk} {f g : FuncId} {k : Nat} {pre : List (List Int) → Prop} {F : List (List Int) → List (List Int)} (C : SortC P f g k pre F) (zs : List (List Int))
  (h : AGo kk gt (sortFO P A.N t ops f g k pre F zs ops[i]?)) : ACall P A ops i t kk gt := by
 unfold AGo at h
 split at h
 ·rename_i D rp W hc
  obtain ⟨h1, h2⟩ := h
  refine ⟨rp, W, ?_, h2⟩
  unfold sortFO at hc
  split at hc
  ·rename_i o ho
   split at hc
   ·rename_i gp g0 hg
    split at hc
    ·rename_i fo xs tys hop
     split at hc
     ·rename_i x y hxs
      obtain rfl : xs = #[x, y] := by cases xs; simpa using hxs
      unfold sortFX at hc
      split at hc
      ·rename_i id n hx
       split at hc
       ·rename_i f' caps hf
        split at hc
        ·rename_i g' caps2 hy
         split at hc
         ·rename_i e z es sh ht
          simp only [Option.some.injEq, Prod.mk.injEq] at hc
          obtain ⟨rfl, rfl, rfl⟩ := hc
          obtain ⟨rfl, q1, rfl, rfl, rfl, rfl, q2, rfl, rfl, rfl, q3, q4, q5⟩ := h1
          exact Sum.sortF ho hg q1 hop hf q2 C q5 hx hy ht q3 q4
         ·simp at hc
        ·simp at hc
       ·simp at hc
      ·simp at hc
     ·simp at hc
    ·simp at hc
   ·simp at hc
  ·simp at hc
 ·exact h.elim
attribute [simp] sortFO sortFX
end
end Go.Tr

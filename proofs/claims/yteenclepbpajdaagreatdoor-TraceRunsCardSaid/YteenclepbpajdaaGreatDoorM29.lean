/-
  What functions of the program compute, stated as contracts over plain data; the conditions of each stand in its own statement.
-/
import Derived.Test.YteenclepbpajdaaGreatDoorM28
set_option linter.unusedSimpArgs false
set_option linter.unusedVariables false
namespace Go.Proofs
/-! ### a packet's run, bit by bit -/
/-- what of a trace is about a bit -/
def Trc.at (t : Trc) (k : Nat) : Trc := ⟨t.dl.filter fun d => d.2.bits.getLsbD k, t.cr.filter fun c => c.2.2.getLsbD k, t.ls.filter fun x => x.2.getLsbD k⟩
def Trc.app (t u : Trc) : Trc := ⟨t.dl ++ u.dl, t.cr ++ u.cr, t.ls ++ u.ls⟩
/-- all tables fit a packet -/
structure FitL (l : List Tb) (p : Pk) : Prop where
  ok : p.ok = true
  all : ∀ b ∈ l, Fits b p
theorem FitL.mask {l : List Tb} {p : Pk} (h : FitL l p) (ht : p.ttl ≠ 0) (m : BitVec 64) : FitL l (pkMask p m) := ⟨mask_ok h.ok ht m, fun b hb => (h.all b hb).mask (h.all b hb) ht m⟩
/-- the way of a bit -/
noncomputable def way (l : List Tb) (k : Nat) : Nat → Int × Pk → Trc
  | 0, _ => tr0
  | n + 1, q => match findT l q.1 with
    | none => ⟨[], [], [(q.1, q.2.bits)]⟩
    | some b => if hopAt b q.2 k = 0 then ⟨[], [], [(q.1, (fwdV b q.2).lost)]⟩
      else if hopAt b q.2 k = b.r then ⟨[(q.1, onlyR q.2 k)], [], []⟩
      else if q.2.ttl = 0 then ⟨[], [], [(q.1, (fwdV b q.2).lost)]⟩
      else (⟨[], [(q.1, hopAt b q.2 k, (cpk b q.2 (hopAt b q.2 k)).bits)], []⟩ : Trc).app (way l k n (hopAt b q.2 k, cpk b q.2 (hopAt b q.2 k)))
theorem filter_nodup {α : Type} [DecidableEq α] {l : List α} (h : l.Nodup) (a : α) : l.filter (fun x => decide (x = a)) = if a ∈ l then [a] else [] := by
  induction l with
  | nil => simp
  | cons x l ih =>
    rw [List.nodup_cons] at h
    rw [List.filter_cons, ih h.2]
    by_cases e : x = a
    · subst e; simp [h.1]
    · simp [e, Ne.symm e]
theorem mem_bitsL {B : BitVec 64} {k : Nat} : k ∈ bitsL B ↔ k < 64 ∧ B.getLsbD k = true := by simp [bitsL]
theorem onlyR_eq {p : Pk} (h : p.ok = true) {j : Nat} (hj : j < 64) (hb : p.bits.getLsbD j = true) : onlyR p j = ⟨p.mode, p.subd, p.set, p.len, p.ttl, p.ent, p.ing, p.proto, 1#64 <<< j, p.pay⟩ := by
  rw [onlyR, if_pos ⟨h, by omega, by omega, by simpa using hb⟩]; simp
theorem FwdI.hop {b : Tb} {p : Pk} (h : Fits b p) {o : Out} (hF : FwdI b p out0 o p.bits) {k : Nat} (hk : k < 64) :
    o.cps.filter (fun c => c.2.bits.getLsbD k) = if p.bits.getLsbD k = true ∧ p.ttl ≠ 0 ∧ hopAt b p k ≠ 0 ∧ hopAt b p k ≠ b.r then [(hopAt b p k, cpk b p (hopAt b p k))] else [] := by
  obtain ⟨H, h1, h2, h3⟩ := hF.cps
  rw [h1]
  simp only [out0, List.nil_append]
  rw [List.filter_map]
  by_cases hb : p.bits.getLsbD k = true
  · have e : H.filter ((fun c : Int × Pk => c.2.bits.getLsbD k) ∘ fun x => (x, cpk b p x)) = H.filter fun x => decide (x = hopAt b p k) := by
      apply List.filter_congr
      intro x hx
      obtain ⟨_, a1, a2, j, hj, a3, a4⟩ := (h3 x).1 hx
      have hr := (hopAt_at h.ck (k := j) (p := p) (by rw [a4]; exact a1)).2
      rw [a4] at hr
      show (cpk b p x).bits.getLsbD k = _
      rw [Bool.eq_iff_iff, cpk_bit h hk hr]
      simp [hb, eq_comm]
    rw [e, filter_nodup h2]
    by_cases hc : p.ttl ≠ 0 ∧ hopAt b p k ≠ 0 ∧ hopAt b p k ≠ b.r
    · rw [if_pos ((h3 _).2 ⟨hc.1, hc.2.1, hc.2.2, k, hk, hb, rfl⟩), if_pos ⟨hb, hc⟩]; rfl
    · rw [if_neg (fun a => hc ⟨((h3 _).1 a).1, ((h3 _).1 a).2.1, ((h3 _).1 a).2.2.1⟩), if_neg (fun a => hc a.2)]; rfl
  · rw [if_neg (fun a => hb a.1)]
    simp only [List.map_eq_nil_iff, List.filter_eq_nil_iff]
    intro x hx hc
    obtain ⟨_, a1, a2, j, hj, a3, a4⟩ := (h3 x).1 hx
    have hr := (hopAt_at h.ck (k := j) (p := p) (by rw [a4]; exact a1)).2
    rw [a4] at hr
    exact hb ((cpk_bit h hk hr).1 hc).1
theorem next_fit {l : List Tb} {q : Int × Pk} (hF : FitL l q.2) : ∀ c ∈ nextQ l q, FitL l c.2 := fun c hc => by
  cases hf : findT l q.1 with
  | none => simp [nextQ, hf] at hc
  | some b =>
    have hb := hF.all b (findT_mem hf).1
    obtain ⟨h1, h2⟩ := fwd_spec hb
    have hn : nextQ l q = (fwdV b q.2).cps := by simp [nextQ, hf, h1]
    obtain ⟨H, h3, h4, h5⟩ := h2.cps
    rw [hn, h3] at hc
    simp only [out0, List.nil_append, List.mem_map] at hc
    obtain ⟨x, hx, rfl⟩ := hc
    exact hF.mask ((h5 x).1 hx).1 _
end Go.Proofs

set_option linter.unusedSimpArgs false
set_option linter.unusedVariables false
namespace Go.Proofs
/-- a way that ends with a delivery -/
inductive Dl (l : List Tb) (id pl : Int) : Int → List Int → Prop
  | here {r : Int} {b : Tb} : findT l r = some b → hopB b id pl = r → r ≠ 0 → Dl l id pl r []
  | next {r h : Int} {b : Tb} {ws : List Int} : findT l r = some b → hopB b id pl = h → h ≠ 0 → h ≠ r → Dl l id pl h ws → Dl l id pl r (h :: ws)
theorem Dl.det {l : List Tb} {id pl r : Int} {ws : List Int} (h : Dl l id pl r ws) : ∀ {us : List Int}, Dl l id pl r us → ws = us := by
  induction h with
  | here h1 h2 h3 =>
    intro us g
    cases g with
    | here => rfl
    | next g1 g2 g3 g4 _ =>
      rw [h1] at g1; simp at g1; subst g1
      exact absurd (g2.symm.trans h2) g4
  | next h1 h2 h3 h4 _ ih =>
    intro us g
    cases g with
    | here g1 g2 g3 =>
      rw [h1] at g1; simp at g1; subst g1
      exact absurd (h2.symm.trans g2) h4
    | next g1 g2 g3 g4 g5 =>
      rw [h1] at g1; simp at g1; subst g1
      have e := h2.symm.trans g2
      subst e
      rw [ih g5]
/-- the rest of a way is a way -/
theorem Dl.rest {l : List Tb} {id pl r : Int} {ws : List Int} (h : Dl l id pl r ws) : ∀ {x : Int}, x ∈ ws → ∃ us, Dl l id pl x us ∧ us.length < ws.length := by
  induction h with
  | here => intro x hx; simp at hx
  | next h1 h2 h3 h4 h5 ih =>
    intro x hx
    rcases List.mem_cons.1 hx with rfl | hx
    · exact ⟨_, h5, by simp⟩
    · obtain ⟨us, g1, g2⟩ := ih hx
      exact ⟨us, g1, by simp; omega⟩
theorem Dl.nodup {l : List Tb} {id pl r : Int} {ws : List Int} (h : Dl l id pl r ws) : (r :: ws).Nodup := by
  induction h with
  | here => simp
  | @next r h b ws h1 h2 h3 h4 h5 ih =>
    refine List.nodup_cons.2 ⟨fun hm => ?_, ih⟩
    have hD := Dl.next h1 h2 h3 h4 h5
    obtain ⟨us, g1, g2⟩ := hD.rest hm
    have := hD.det g1
    rw [← this] at g2; omega
theorem Dl.found {l : List Tb} {id pl r : Int} {ws : List Int} (h : Dl l id pl r ws) : ∀ x ∈ r :: ws, (findT l x).isSome := by
  induction h with
  | here h1 => intro x hx; simp at hx; subst hx; simp [h1]
  | next h1 _ _ _ _ ih =>
    intro x hx
    rcases List.mem_cons.1 hx with rfl | hx
    · simp [h1]
    · exact ih x hx
theorem Dl.len {l : List Tb} {id pl r : Int} {ws : List Int} (h : Dl l id pl r ws) : ws.length + 1 ≤ l.length := by
  have := path_n h.nodup h.found
  simpa using this
end Go.Proofs

set_option linter.unusedSimpArgs false
set_option linter.unusedVariables false
namespace Go.Proofs
/-! ### ways through right tables -/
theorem find_uniq {α : Type} {q : α → Bool} : ∀ {l : List α} {x : α}, x ∈ l → q x = true → (∀ y ∈ l, q y = true → y = x) → l.find? q = some x
  | [], x, h, _, _ => by simp at h
  | a :: l, x, h, hq, hu => by
    rw [List.find?_cons]
    cases ha : q a with
    | true => rw [hu a (by simp) ha]
    | false =>
      rcases List.mem_cons.1 h with rfl | h
      · rw [hq] at ha; simp at ha
      · exact find_uniq h hq (fun y hy => hu y (by simp [hy]))
theorem rt_inj {g : Topo} (hg : g.Ok) {x y : Rt} (hx : x ∈ g.rs) (hy : y ∈ g.rs) (e : x.id = y.id) : x = y := by
  obtain ⟨i, hi, rfl⟩ := List.mem_iff_getElem.1 hx
  obtain ⟨j, hj, rfl⟩ := List.mem_iff_getElem.1 hy
  have hp := List.pairwise_iff_getElem.1 hg.rpw
  rcases Nat.lt_trichotomy i j with hlt | rfl | hlt
  · have := hp i j hi hj hlt; omega
  · rfl
  · have := hp j i hj hi hlt; omega
theorem rtOf_some {g : Topo} (hg : g.Ok) {x : Rt} (hx : x ∈ g.rs) : rtOf g.rs x.id = some x :=
  find_uniq hx (by simp) (fun y hy e => rt_inj hg hy hx (by simpa using e))
theorem capR_iff {g : Topo} (hg : g.Ok) {r : Int} : capR g.rs r = true ↔ ∃ x ∈ g.rs, x.id = r ∧ x.cap = true := by
  constructor
  · intro h
    unfold capR at h
    cases hr : rtOf g.rs r with
    | none => simp [hr] at h
    | some x =>
      simp only [hr, Option.getD_some] at h
      exact ⟨x, List.mem_of_find?_eq_some hr, by simpa using List.find?_some hr, h⟩
  · rintro ⟨x, hx, rfl, hc⟩
    simp [capR, rtOf_some hg hx, hc]
theorem tabs_mem {g : Topo} {p : Pn} {b : Tb} (h : b ∈ tabs g p g.rs) : ∃ x ∈ g.rs, x.cap = true ∧ b = buildT g p x.id := by
  obtain ⟨z, hz, rfl⟩ := List.mem_map.1 h
  obtain ⟨h1, h2⟩ := List.mem_filter.1 hz
  exact ⟨z, h1, h2, rfl⟩
end Go.Proofs

set_option linter.unusedSimpArgs false
set_option linter.unusedVariables false
namespace Go.Proofs
/-! ### who is connected -/
/-- walks can be turned round -/
theorem Wk.app {g : Topo} {a b : Int} {j k : Nat} {x v w : Int} (h1 : Wk g a j x v) (h2 : Wk g b k a w) : ∃ u, Wk g b (j + k) x u := by
  induction h1 with
  | nil => exact ⟨w, by rw [Nat.zero_add]; exact h2⟩
  | @cons k' x y c v hp _ ih =>
    obtain ⟨u, hu⟩ := ih
    exact ⟨c + u, by rw [show k' + 1 + k = k' + k + 1 by omega]; exact .cons hp hu⟩
end Go.Proofs

set_option linter.unusedSimpArgs false
set_option linter.unusedVariables false
namespace Go.Proofs
/-! ### the generator's topologies are valid -/
theorem lkPos_take (x : Lk) : ∀ (l : List Lk), ∀ y ∈ l.take (lkPos x l), y.before x = true
  | [] => by simp
  | z :: r => by
    intro y hy
    rw [lkPos] at hy
    split at hy
    · rename_i hz
      rw [List.take_succ_cons] at hy
      rcases List.mem_cons.1 hy with rfl | hy
      · exact hz
      · exact lkPos_take x r y hy
    · simp at hy
theorem lkPos_at (x : Lk) : ∀ (l : List Lk) (y : Lk), l[lkPos x l]? = some y → y.before x = false
  | [], y, h => by simp at h
  | z :: r, y, h => by
    rw [lkPos] at h
    split at h
    · exact lkPos_at x r y (by simpa using h)
    · rename_i hz
      simp at h; subst h; simpa using hz
theorem before_lt {x y : Lk} : y.before x = true ↔ lkLt y x := by simp [Lk.before, lkLt]
theorem lkIns {l : List Lk} (x : Lk) (h : l.Pairwise lkLt) (hd : ∀ y ∈ l, ¬ (y.a = x.a ∧ y.b = x.b)) : (l.take (lkPos x l) ++ [x] ++ l.drop (lkPos x l)).Pairwise lkLt ∧ ∀ y, y ∈ l.take (lkPos x l) ++ [x] ++ l.drop (lkPos x l) ↔ y ∈ l ∨ y = x := by
  have hl : l.take (lkPos x l) ++ l.drop (lkPos x l) = l := List.take_append_drop _ _
  have hp : (l.take (lkPos x l) ++ l.drop (lkPos x l)).Pairwise lkLt := by rw [hl]; exact h
  rw [List.pairwise_append] at hp
  have hdr : ∀ y ∈ l.drop (lkPos x l), lkLt x y := fun y hy => by
    cases hc : l.drop (lkPos x l) with
    | nil => rw [hc] at hy; simp at hy
    | cons z r =>
      have hz : l[lkPos x l]? = some z := by
        have : (l.drop (lkPos x l))[0]? = some z := by rw [hc]; rfl
        simpa using this
      have h1 := lkPos_at x l z hz
      have h2 := hd z (List.mem_of_getElem? hz)
      have h3 : lkLt x z := by
        have : ¬ lkLt z x := fun a => by rw [before_lt.2 a] at h1; simp at h1
        unfold lkLt at *; omega
      rw [hc] at hy
      rcases List.mem_cons.1 hy with rfl | hy
      · exact h3
      · have := hp.2.1
        rw [hc, List.pairwise_cons] at this
        exact lkLt_trans h3 (this.1 y hy)
  refine ⟨?_, fun y => ?_⟩
  · rw [List.append_assoc, List.pairwise_append]
    refine ⟨hp.1, ?_, fun a ha b hb => ?_⟩
    · rw [List.singleton_append, List.pairwise_cons]
      exact ⟨hdr, hp.2.1⟩
    · have h1 := before_lt.1 (lkPos_take x l a ha)
      rcases List.mem_append.1 hb with hb | hb
      · simp at hb; subst hb; exact h1
      · exact lkLt_trans h1 (hdr b hb)
  · conv => rhs; rw [← hl]
    simp only [List.mem_append, List.mem_singleton]
    constructor
    · rintro ((a | a) | a)
      · exact .inl (.inl a)
      · exact .inr a
      · exact .inl (.inr a)
    · rintro ((a | a) | a)
      · exact .inl (.inl a)
      · exact .inr a
      · exact .inl (.inr a)
    
def lkNe (x y : Lk) : Prop := ¬ (x.a = y.a ∧ x.b = y.b)
theorem ordL_ok : ∀ (l out : List Lk), l.Pairwise lkNe → out.Pairwise lkLt → (∀ x ∈ l, ∀ y ∈ out, lkNe x y) → (ordL l out).Pairwise lkLt ∧ ∀ y, y ∈ ordL l out ↔ y ∈ l ∨ y ∈ out
  | [], out, _, h, _ => ⟨h, by simp [ordL]⟩
  | x :: l, out, hl, h, hd => by
    rw [List.pairwise_cons] at hl
    obtain ⟨h1, h2⟩ := lkIns x h (fun y hy e => hd x (by simp) y hy ⟨e.1.symm, e.2.symm⟩)
    obtain ⟨h3, h4⟩ := ordL_ok l _ hl.2 h1 (fun z hz y hy => by
      rcases (h2 y).1 hy with hy | rfl
      · exact hd z (by simp [hz]) y hy
      · exact fun e => hl.1 z hz ⟨e.1.symm, e.2.symm⟩)
    refine ⟨h3, fun y => ?_⟩
    rw [ordL, h4, h2]
    simp only [List.mem_cons]
    constructor
    · rintro (a | a | a)
      · exact .inl (.inr a)
      · exact .inr a
      · exact .inl (.inl a)
    · rintro ((a | a) | a)
      · exact .inr (.inr a)
      · exact .inl a
      · exact .inr (.inl a)
structure LkI (b a : Int) (l : List Lk) : Prop where
  all : ∀ x ∈ l, (1 ≤ x.a ∧ x.a < x.b ∧ (x.b < b ∨ (x.b = b ∧ x.a < a))) ∧ (1 ≤ x.ca ∧ x.ca ≤ 1000) ∧ (1 ≤ x.cb ∧ x.cb ≤ 1000) ∧ 0 ≤ x.cap ∧ x.cap ≤ 1000
  ne : l.Pairwise lkNe
theorem LkI.step {b a cost tree : Int} {skip : Bool} {T : Tp} {l : List Lk} (h : LkI b a l) (ha : 1 ≤ a) (hab : a < b) (hc : 1 ≤ cost ∧ cost ≤ 1000) : LkI b (a + 1) (gTopS cost tree skip b a T l).1 := by
  have hw : LkI b (a + 1) l := ⟨fun x hx => by have := h.all x hx; omega, h.ne⟩
  unfold gTopS
  simp only
  generalize (if (decide (a = tree) && !skip) = true then (true, T) else gOne T 3) = c
  cases c.1 with
  | false => simpa using hw
  | true =>
    simp only [if_true]
    have r1 := gRange_lo c.2 1 cost
    have r2 := gRange_hi c.2 (a := 1) (b := cost) hc.1
    generalize gRange c.2 1 cost = X at r1 r2
    have r3 := gRange_lo X.2 1 cost
    have r4 := gRange_hi X.2 (a := 1) (b := cost) hc.1
    generalize gRange X.2 1 cost = Y at r3 r4
    have r5 := gNext_nonneg Y.2 4
    have r6 := gNext_lt Y.2 (n := 4) (by omega)
    generalize gNext Y.2 4 = Z at r5 r6
    refine ⟨fun x hx => ?_, ?_⟩
    · rcases List.mem_append.1 hx with hx | hx
      · exact hw.all x hx
      · simp at hx; subst hx
        exact ⟨⟨ha, hab, .inr ⟨rfl, by show a < a + 1; omega⟩⟩, ⟨r1, Int.le_trans r2 hc.2⟩, ⟨r3, Int.le_trans r4 hc.2⟩, r5, by show Z.1 ≤ 1000; omega⟩
    · rw [List.pairwise_append]
      refine ⟨h.ne, by simp, fun x hx y hy => ?_⟩
      simp at hy; subst hy
      have := h.all x hx
      unfold lkNe; simp only; omega
theorem LkI.row {b cost tree : Int} {skip : Bool} (hc : 1 ≤ cost ∧ cost ≤ 1000) : ∀ (n : Nat) (a : Int) (T : Tp) (l : List Lk), LkI b a l → 1 ≤ a → a + n ≤ b → LkI b (a + n) (gTopA cost tree skip b n a T l).1
  | 0, a, T, l, h, _, _ => by simpa [gTopA] using h
  | n + 1, a, T, l, h, h1, h2 => by
    rw [gTopA]
    have := LkI.row (tree := tree) (skip := skip) hc n (a + 1) (gTopS cost tree skip b a T l).2 _ (h.step (tree := tree) (skip := skip) (T := T) h1 (by omega) hc) (by omega) (by omega)
    rw [show a + ((n + 1 : Nat) : Int) = a + 1 + n by omega]
    exact this
theorem LkI.all_rows {cost : Int} (hc : 1 ≤ cost ∧ cost ≤ 1000) : ∀ (n : Nat) (b : Int) (T : Tp) (l : List Lk), LkI b 1 l → 2 ≤ b → LkI (b + n) 1 (gTopB cost n b T l).1
  | 0, b, T, l, h, _ => by simpa [gTopB] using h
  | n + 1, b, T, l, h, hb => by
    rw [gTopB]
    have h1 : LkI b b (gTopR cost b T l).1 := by
      unfold gTopR
      simp only
      have := LkI.row (b := b) (tree := (gRange T 1 (b - 1)).1) (skip := (gOne (gRange T 1 (b - 1)).2 9).1) hc (b - 1).toNat 1 (gOne (gRange T 1 (b - 1)).2 9).2 l h (by omega) (by omega)
      rw [show 1 + (((b - 1).toNat : Nat) : Int) = b by omega] at this
      exact this
    have h2 : LkI (b + 1) 1 (gTopR cost b T l).1 := ⟨fun x hx => by have := h1.all x hx; omega, h1.ne⟩
    have := LkI.all_rows hc n (b + 1) (gTopR cost b T l).2 _ h2 (by omega)
    rw [show b + ((n + 1 : Nat) : Int) = b + 1 + n by omega]
    exact this
theorem gTopA_len2 (cost tree : Int) (skip : Bool) (b : Int) : ∀ (n : Nat) (a : Int) (T : Tp) (l : List Lk), (gTopA cost tree skip b n a T l).1.length ≤ l.length + n
  | 0, _, _, _ => Nat.le_refl _
  | n + 1, a, T, l => by
    have h1 := gTopA_len2 cost tree skip b n (a + 1) (gTopS cost tree skip b a T l).2 (gTopS cost tree skip b a T l).1
    have h2 := gTopS_len cost tree skip b a T l
    rw [gTopA]
    omega
theorem gTopB_len2 (cost : Int) (m : Nat) : ∀ (n : Nat) (b : Int) (T : Tp) (l : List Lk), 1 ≤ b → b + n ≤ m + 2 → (gTopB cost n b T l).1.length ≤ l.length + n * m
  | 0, _, _, _, _, _ => by simp [gTopB]
  | n + 1, b, T, l, hb, hm => by
    have h1 := gTopB_len2 cost m n (b + 1) (gTopR cost b T l).2 (gTopR cost b T l).1 (by omega) (by omega)
    have h2 : (gTopR cost b T l).1.length ≤ l.length + (b - 1).toNat := gTopA_len2 _ _ _ _ _ _ _ _
    rw [gTopB]
    have h3 : (n + 1) * m = n * m + m := Nat.succ_mul _ _
    omega
theorem pw_adj {α : Type} {q : α → α → Bool} {r : α → α → Prop} (hr : ∀ x y, r x y → q x y = false) : ∀ {l : List α}, l.Pairwise r → adjB q l = false
  | [], _ => rfl
  | [x], _ => rfl
  | x :: y :: l, h => by
    rw [List.pairwise_cons] at h
    rw [adjB, hr x y (h.1 y (by simp)), pw_adj hr h.2]; rfl
theorem chkT_of {g : Topo} (h1 : g.rs.length ≤ 24) (h2 : g.ls.length ≤ 60) (h3 : ∀ x ∈ g.rs, 1 ≤ x.id ∧ x.id ≤ 99) (h4 : g.rs.Pairwise fun x y => x.id < y.id)
    (h5 : ∀ x ∈ g.ls, (1 ≤ x.ca ∧ x.ca ≤ 1000) ∧ (1 ≤ x.cb ∧ x.cb ≤ 1000) ∧ 0 ≤ x.cap ∧ x.cap ≤ 1000) (h6 : ∀ x ∈ g.ls, hasR g.rs x.a = true ∧ hasR g.rs x.b = true) (h7 : ∀ x ∈ g.ls, x.a < x.b) (h8 : g.ls.Pairwise lkLt) : chkT g = 0 := by
  have a1 : decide (24 < g.rs.length) = false := by simp; omega
  have a2 : decide (60 < g.ls.length) = false := by simp; omega
  have a3 : (g.rs.any fun x => !inB x.id 1 99) = false := by
    rw [List.any_eq_false]; intro x hx; have := h3 x hx; simp [inB]; omega
  have a4 : adjB (fun x y => decide (y.id ≤ x.id)) g.rs = false := pw_adj (r := fun x y => x.id < y.id) (fun x y h => by simpa using h) h4
  have a5 : g.ls.any Lk.bad = false := by
    rw [List.any_eq_false]; intro x hx; have := h5 x hx; simp [Lk.bad, inB]; omega
  have a6 : (g.ls.any fun x => !hasR g.rs x.a || !hasR g.rs x.b) = false := by
    rw [List.any_eq_false]; intro x hx; have := h6 x hx; simp [this.1, this.2]
  have a7 : (g.ls.any fun x => decide (x.b ≤ x.a)) = false := by
    rw [List.any_eq_false]; intro x hx; have := h7 x hx; simp; omega
  have a8 : adjB (fun x y => decide (y.a < x.a) || decide (x.a = y.a) && decide (y.b ≤ x.b)) g.ls = false := pw_adj (r := lkLt) (fun x y h => by
    unfold lkLt at h
    simp only [Bool.or_eq_false_iff, Bool.and_eq_false_iff, decide_eq_false_iff_not]; omega) h8
  simp only [chkT, firstE, a1, a2, a3, a4, a5, a6, a7, a8, cond_false]
theorem gRts_mem {k : Nat} {x : Rt} : x ∈ gRts k ↔ x.cap = true ∧ 1 ≤ x.id ∧ x.id ≤ k := by
  simp only [gRts, List.mem_map, List.mem_range]
  constructor
  · rintro ⟨i, hi, rfl⟩; simp only; exact ⟨trivial, by omega, by omega⟩
  · rintro ⟨h1, h2, h3⟩
    refine ⟨(x.id - 1).toNat, by omega, ?_⟩
    cases x; simp only at *; subst h1; congr 1; omega
theorem gRts_pw (k : Nat) : (gRts k).Pairwise fun x y => x.id < y.id := by
  unfold gRts
  rw [List.pairwise_map]
  exact List.pairwise_lt_range.imp fun h => by simp only; omega
/-- what a topology of the generator is, whichever of its routers are capable -/
structure TopV (most : Int) (g : Topo) : Prop where
  n : 1 ≤ g.rs.length ∧ (g.rs.length : Int) ≤ most
  ids : g.rs.map (·.id) = (gRts g.rs.length).map (·.id)
  ok : chkT g = 0
theorem gTop_rs' (T : Tp) (most : Int) : (gTop T most).1.rs = gRts (gRange T 1 most).1.toNat := rfl
theorem gTop_valid (T : Tp) {most : Int} (hm : 1 ≤ most ∧ most ≤ 8) : TopV most (gTop T most).1 := by
  have r1 := gRange_lo T 1 most
  have r2 := gRange_hi T (a := 1) (b := most) hm.1
  have e := gTop_rs' T most
  have hlen : (gTop T most).1.rs.length = (gRange T 1 most).1.toNat := by rw [e]; simp [gRts]
  refine ⟨by omega, by rw [hlen, e], ?_⟩
  unfold gTop
  simp only
  generalize gRange T 1 most = R at r1 r2
  have hc := gPick_all (T := R.2) (l := [1, 2, 2, 5]) (p := fun x => 1 ≤ x ∧ x ≤ 1000) (by simp) (by simp)
  generalize gPick R.2 [1, 2, 2, 5] = C at hc
  have hI := LkI.all_rows hc (R.1 + 1 - 2).toNat 2 C.2 [] ⟨by simp, List.Pairwise.nil⟩ (by omega)
  have hl := gTopB_len2 C.1 7 (R.1 + 1 - 2).toNat 2 C.2 [] (by omega) (by omega)
  generalize (gTopB C.1 (R.1 + 1 - 2).toNat 2 C.2 []).1 = L at hI hl
  obtain ⟨h1, h2⟩ := ordL_ok L [] hI.ne List.Pairwise.nil (by simp)
  have hall : ∀ x ∈ ordL L [], (1 ≤ x.a ∧ x.a < x.b ∧ x.b ≤ R.1) ∧ (1 ≤ x.ca ∧ x.ca ≤ 1000) ∧ (1 ≤ x.cb ∧ x.cb ≤ 1000) ∧ 0 ≤ x.cap ∧ x.cap ≤ 1000 := fun x hx => by
    have := hI.all x (by simpa using (h2 x).1 hx)
    omega
  have hol : ∀ (l out : List Lk), (ordL l out).length = l.length + out.length := fun l => by
    induction l with
    | nil => intro out; simp [ordL]
    | cons x l ih =>
      intro out
      have := lkPos_le x out
      rw [ordL, ih]; simp; omega
  refine chkT_of (by simp [gRts]; omega) ?_ (fun x hx => ?_) (gRts_pw _) (fun x hx => (hall x hx).2) (fun x hx => ?_) (fun x hx => (hall x hx).1.2.1) h1
  · simp only [hol, List.length_nil] at hl ⊢
    have : (R.1 + 1 - 2).toNat ≤ 7 := by omega
    have := Nat.mul_le_mul_right 7 this
    omega
  · have := gRts_mem.1 hx; omega
  · have := (hall x hx).1
    constructor
    · exact hasR_mem.2 (List.mem_map.2 ⟨⟨x.a, true⟩, gRts_mem.2 ⟨rfl, by simp only; omega⟩, rfl⟩)
    · exact hasR_mem.2 (List.mem_map.2 ⟨⟨x.b, true⟩, gRts_mem.2 ⟨rfl, by simp only; omega⟩, rfl⟩)
end Go.Proofs

set_option linter.unusedSimpArgs false
set_option linter.unusedVariables false
namespace Go.Proofs
/-! ### what holds along a run -/
/-- what all parts of a run's trace are -/
structure RunI (l : List Tb) (Q : List (Int × Pk)) (t : Trc) : Prop where
  fit : ∀ q ∈ Q, FitL l q.2 ∧ (findT l q.1 = none → q.2.bits ≠ 0#64)
  dl : ∀ d ∈ t.dl, ∃ k < 64, d.2.bits = 1#64 <<< k
  ls : ∀ x ∈ t.ls, x.2 ≠ 0#64
  cr : ∀ c ∈ t.cr, c.2.2 ≠ 0#64
theorem RunI.step {l : List Tb} {q : Int × Pk} {Q : List (Int × Pk)} {t : Trc} (h : RunI l (q :: Q) t) : RunI l (Q ++ nextQ l q) (stepT l q t) := by
  have hq := h.fit q (by simp)
  have hQ : ∀ c ∈ Q, FitL l c.2 ∧ (findT l c.1 = none → c.2.bits ≠ 0#64) := fun c hc => h.fit c (by simp [hc])
  cases hf : findT l q.1 with
  | none =>
    have hn : nextQ l q = [] := by simp [nextQ, hf]
    rw [hn, List.append_nil]
    refine ⟨hQ, ?_, ?_, ?_⟩ <;> simp only [stepT, hf]
    · exact h.dl
    · intro x hx
      rcases List.mem_append.1 hx with hx | hx
      · exact h.ls x hx
      · simp at hx; subst hx; exact hq.2 hf
    · exact h.cr
  | some b =>
    have hb := hq.1.all b (findT_mem hf).1
    obtain ⟨h1, h2⟩ := fwd_spec hb
    have hn : nextQ l q = (fwdV b q.2).cps := by simp [nextQ, hf, h1]
    obtain ⟨H, h3, h4, h5⟩ := h2.cps
    have hc : ∀ c ∈ (fwdV b q.2).cps, c.2.bits ≠ 0#64 := fun c hc => by
      rw [h3] at hc
      simp only [out0, List.nil_append, List.mem_map] at hc
      obtain ⟨x, hx, rfl⟩ := hc
      obtain ⟨_, a1, a2, k, hk, a3, a4⟩ := (h5 x).1 hx
      have hr := (hopAt_at hb.ck (k := k) (p := q.2) (by rw [a4]; exact a1)).2
      rw [a4] at hr
      have := (cpk_bit hb hk hr).2 ⟨a3, a4⟩
      intro e
      simp only at e
      rw [e] at this; simp at this
    refine ⟨fun c hm => ?_, ?_, ?_, ?_⟩
    · rcases List.mem_append.1 hm with hm | hm
      · exact hQ c hm
      · exact ⟨next_fit hq.1 c hm, fun _ => hc c (by rw [← hn]; exact hm)⟩
    · simp only [stepT, hf, h1]
      intro d hd
      rcases List.mem_append.1 hd with hd | hd
      · exact h.dl d hd
      · simp only [locV, bitsI, List.map_map, List.mem_map] at hd
        obtain ⟨k, hk, rfl⟩ := hd
        obtain ⟨k1, k2⟩ := mem_bitsL.1 hk
        have hpb : q.2.bits.getLsbD k = true := by
          rcases (h2.loc k k1).1 k2 with a | a
          · simp [out0] at a
          · exact a.1
        refine ⟨k, k1, ?_⟩
        show (onlyR q.2 (Int.ofNat k)).bits = _
        have := onlyR_eq hq.1.ok k1 hpb
        rw [Int.ofNat_eq_natCast, this]
    · simp only [stepT, hf, h1]
      intro x hx
      split at hx
      · exact h.ls x hx
      · rename_i hne
        rcases List.mem_append.1 hx with hx | hx
        · exact h.ls x hx
        · simp at hx; subst hx; exact hne
    · simp only [stepT, hf, h1]
      intro c hm
      rcases List.mem_append.1 hm with hm | hm
      · exact h.cr c hm
      · obtain ⟨x, hx, rfl⟩ := List.mem_map.1 hm
        exact hc x hx
/-! ### each bit ends once -/
end Go.Proofs

set_option linter.unusedSimpArgs false
set_option linter.unusedVariables false
namespace Go.Proofs
/-! ### what is delivered -/
/-! ### a packet's bits in two packets -/
end Go.Proofs

set_option linter.unusedSimpArgs false
set_option linter.unusedVariables false
namespace Go.Proofs
/-! ### paths -/
def AllCap (g : Topo) : Prop := ∀ x ∈ g.rs, x.cap = true
theorem AllCap.cap {g : Topo} (hg : g.Ok) (h : AllCap g) {r : Int} (hr : hasR g.rs r = true) : capR g.rs r = true := by
  obtain ⟨x, hx, rfl⟩ := List.mem_map.1 (hasR_mem.1 hr)
  exact (capR_iff hg).2 ⟨x, hx, rfl, h x hx⟩
end Go.Proofs

set_option linter.unusedSimpArgs false
set_option linter.unusedVariables false
namespace Go.Proofs
/-! ### the number of shortest paths -/
/-! ### unique shortest paths -/
end Go.Proofs

set_option linter.unusedSimpArgs false
set_option maxRecDepth 100000
set_option maxHeartbeats 2000000
namespace Go.Proofs
open Go Go.Tr
/-! ### the generated plan is valid -/
structure PlanV (rs : List Rt) (p : Pn) : Prop where
  subd : 0 ≤ p.subd ∧ p.subd ≤ 7
  len : validLen p.len = true
  n : p.es.length ≤ 24
  rt : ∀ e ∈ p.es, 1 ≤ e.r ∧ e.r ≤ 99
  ids : ∀ e ∈ p.es, 1 ≤ e.id ∧ e.id ≤ 256
  asc : p.es.Pairwise fun a b => a.id < b.id
  nod : (p.es.map (·.r)).Nodup
theorem planB_of {rs : List Rt} {p : Pn} (h : PlanV rs p) : planB p = true := by
  have gi : ∀ i (hi : i < p.es.length), gid p.es i = p.es[i].id ∧ grt p.es i = p.es[i].r := fun i hi => by simp [gid, grt, List.getD, hi]
  refine planB_ok (by simp [baseB, inB, h.subd, h.len, h.n]) (fun i hi => ?_) (fun i j hj hi => ?_)
  · have h1 := h.ids p.es[i] (List.getElem_mem hi)
    have h2 := h.rt p.es[i] (List.getElem_mem hi)
    have h3 := gi i hi
    by_cases h0 : i = 0
    · simp [edB, inB, h3, h1, h2, h0]
      subst h0
      simp [h3, h1, h2]
    · have h4 := gi (i - 1) (by omega)
      have h5 := List.pairwise_iff_getElem.1 h.asc (i - 1) i (by omega) hi (by omega)
      simp [edB, inB, h3, h1, h2, h0, h4, h5]
  · rw [(gi i hi).2, (gi j (by omega)).2]
    have := List.pairwise_iff_getElem.1 h.nod j i (by simp; omega) (by simpa using hi) hj
    simp only [List.getElem_map] at this
    exact fun e => this e.symm
/-! the order is one of all numbers, each once -/
theorem gOrderL_nodup : ∀ (n i : Nat) (T : Tp) (l : List Int), l.Nodup → (∀ x ∈ l, x < (i : Int)) → (gOrderL n i T l).1.Nodup
  | 0, _, _, _, h, _ => h
  | n + 1, i, T, l, h, hb => by
    rw [gOrderL]
    generalize (gNext T (i + 1)).1.toNat = k
    have hs : (l.take k ++ l.drop k).Nodup := by rw [List.take_append_drop]; exact h
    have hi : (i : Int) ∉ l := fun hm => by have := hb _ hm; omega
    refine gOrderL_nodup n (i + 1) _ _ ?_ fun x hx => ?_
    · rw [List.nodup_append] at hs ⊢
      obtain ⟨h1, h2, h3⟩ := hs
      refine ⟨?_, h2, fun a ha b hb' => ?_⟩
      · rw [List.nodup_append]
        refine ⟨h1, by simp, fun a ha b hb' => ?_⟩
        simp at hb'; subst hb'
        intro e; subst e
        exact hi (List.mem_of_mem_take ha)
      · rcases List.mem_append.1 ha with ha | ha
        · exact h3 a ha b hb'
        · simp at ha; subst ha
          intro e; subst e
          exact hi (List.mem_of_mem_drop hb')
    · simp only [List.mem_append, List.mem_singleton] at hx
      rcases hx with (hx | hx) | hx
      · have := hb x (List.mem_of_mem_take hx); omega
      · omega
      · have := hb x (List.mem_of_mem_drop hx); omega
theorem gRts_get (k : Nat) {i : Nat} (h : i < k) (d : Rt) : ((gRts k).getD i d).id = (i : Int) + 1 := by
  simp [gRts, List.getD, h]
/-- what the loop over the order keeps -/
structure PlI (k : Nat) (o : List Int) (id : Int) (l : List Ed) : Prop where
  pos : 0 ≤ id
  rt : ∀ e ∈ l, 1 ≤ e.r ∧ e.r ≤ k ∧ e.r - 1 ∉ o
  ids : ∀ e ∈ l, 1 ≤ e.id ∧ e.id ≤ 256 ∧ e.id ≤ id
  asc : l.Pairwise fun a b => a.id < b.id
  nod : (l.map (·.r)).Nodup
theorem plI_loop (k : Nat) (len : Int) (hl : 8 ≤ len) : ∀ (o : List Int) (T : Tp) (id : Int) (l : List Ed), o.Nodup → (∀ x ∈ o, 0 ≤ x ∧ x < (k : Int)) → PlI k o id l →
    PlI k [] (gPlanL (gRts k) len o T id l).2.1 (gPlanL (gRts k) len o T id l).1
  | [], T, id, l, _, _, h => h
  | x :: o, T, id, l, hn, hb, h => by
    rw [List.nodup_cons] at hn
    rw [gPlanL]
    have hbx := hb x (by simp)
    refine plI_loop k len hl o _ _ _ hn.2 (fun y hy => hb y (by simp [hy])) ?_
    unfold gPlanS
    simp only
    have h0 : PlI k o id l := ⟨h.pos, fun e he => by have := h.rt e he; simp at this; exact ⟨this.1, this.2.1, this.2.2.2⟩, h.ids, h.asc, h.nod⟩
    split
    · exact h0
    · have bp : 1 ≤ (gPick (gNext T 4).2 [1, 1, 1, 2, len - 1]).1 := gPick_all (p := fun x => 1 ≤ x) (by simp) (by simp; omega)
      simp only
      generalize gPick (gNext T 4).2 [1, 1, 1, 2, len - 1] = p at bp ⊢
      split
      · rename_i hid
        have hr : ((gRts k).getD x.toNat ⟨0, false⟩).id = x + 1 := by rw [gRts_get k (by omega)]; omega
        rw [hr]
        refine ⟨by have := h.pos; first | omega | (simp only; omega), fun e he => ?_, fun e he => ?_, ?_, ?_⟩
        · simp only [List.mem_append, List.mem_singleton] at he
          rcases he with he | rfl
          · exact h0.rt e he
          · refine ⟨by first | omega | (simp only; omega), by first | omega | (simp only; omega), ?_⟩
            rw [show (x + 1 - 1 : Int) = x by omega]
            exact hn.1
        · simp only [List.mem_append, List.mem_singleton] at he
          rcases he with he | rfl
          · have := h.ids e he; first | omega | (simp only; omega)
          · have := h.pos; first | omega | (simp only; omega)
        · rw [List.pairwise_append]
          refine ⟨h.asc, by simp, fun a ha b hb' => ?_⟩
          simp at hb'; subst hb'
          have := h.ids a ha
          first | omega | (simp only; omega)
        · rw [List.map_append, List.nodup_append]
          refine ⟨h.nod, by simp, fun a ha b hb' => ?_⟩
          simp at hb'; subst hb'
          obtain ⟨e, he, rfl⟩ := List.mem_map.1 ha
          have := (h.rt e he).2.2
          intro e1
          apply this
          rw [e1]
          simp
      · exact ⟨by have := h.pos; first | omega | (simp only; omega), h0.rt, fun e he => by have := h.ids e he; first | omega | (simp only; omega), h.asc, h.nod⟩
theorem gPlan0_valid (T : Tp) {k : Nat} (hk : k ≤ 24) : PlanV (gRts k) (gPlan0 T (gRts k)).1 := by
  have hl : ((8 : Int) ≤ (gPick (gNext T 3).2 [8, 8, 16, 32, 64]).1) ∧ validLen (gPick (gNext T 3).2 [8, 8, 16, 32, 64]).1 = true := gPick_all (p := fun x => (8 : Int) ≤ x ∧ validLen x = true) (by simp) (by simp; decide)
  have h1 := gNext_nonneg T 3
  have h2 := gNext_lt T (n := 3) (by omega)
  have hln := gPlan0_len T (gRts k)
  rw [gRts_len] at hln
  have hord := gOrder_mem (gPick (gNext T 3).2 [8, 8, 16, 32, 64]).2 k
  have hnd : (gOrder (gPick (gNext T 3).2 [8, 8, 16, 32, 64]).2 k).1.Nodup := gOrderL_nodup _ _ _ _ (by simp) (by simp)
  have hI := plI_loop k _ hl.1 _ (gOrder (gPick (gNext T 3).2 [8, 8, 16, 32, 64]).2 k).2 0 [] hnd hord ⟨by omega, by simp, by simp, by simp, by simp⟩
  refine ⟨by simp only [gPlan0]; omega, hl.2, by omega, fun e he => ?_, fun e he => ?_, ?_, ?_⟩
  · have he' : e ∈ (gPlanL (gRts k) (gPick (gNext T 3).2 [8, 8, 16, 32, 64]).1 (gOrder (gPick (gNext T 3).2 [8, 8, 16, 32, 64]).2 k).1 (gOrder (gPick (gNext T 3).2 [8, 8, 16, 32, 64]).2 k).2 0 []).1 := by simpa [gPlan0] using he
    have := hI.rt e he'
    omega
  · have he' : e ∈ (gPlanL (gRts k) (gPick (gNext T 3).2 [8, 8, 16, 32, 64]).1 (gOrder (gPick (gNext T 3).2 [8, 8, 16, 32, 64]).2 k).1 (gOrder (gPick (gNext T 3).2 [8, 8, 16, 32, 64]).2 k).2 0 []).1 := by simpa [gPlan0] using he
    have := hI.ids e he'
    omega
  · simpa [gPlan0] using hI.asc
  · simpa [gPlan0] using hI.nod
/-! ### the chosen ones -/
end Go.Proofs

set_option linter.unusedSimpArgs false
set_option linter.unusedVariables false
set_option maxRecDepth 100000
namespace Go.Proofs
open Go Go.Tr
/-! ### domains of the generator -/
theorem gPlan_zero_eq (T : Tp) (rs : List Rt) : gPlan T rs 0 = ((gPlan0 T rs).1, (gPlan0 T rs).2.2) := by
  simp [gPlan]
/-- a valid domain: a topology, a plan and the tables of all capable routers -/
structure DomV (most : Int) (g : Topo) (p : Pn) (l : List Tb) : Prop where
  top : TopV most g
  plan : planB p = true
  len : validLen p.len = true
  subd : 0 ≤ p.subd ∧ p.subd ≤ 7
  tab : l = tabs g p g.rs
theorem gPlanS_ids {rs rs' : List Rt} (h : rs.map (·.id) = rs'.map (·.id)) (len x : Int) (T : Tp) (id : Int) (l : List Ed) : gPlanS rs len x T id l = gPlanS rs' len x T id l := by
  have e : ∀ i : Nat, (rs.getD i ⟨0, false⟩).id = (rs'.getD i ⟨0, false⟩).id := fun i => by
    have := congrArg (fun l => l[i]?) h
    simp only [List.getElem?_map] at this
    rw [List.getD_eq_getElem?_getD, List.getD_eq_getElem?_getD]
    cases h1 : rs[i]? with
    | none =>
      rw [h1] at this
      cases h2 : rs'[i]? with
      | none => rfl
      | some y => rw [h2] at this; simp at this
    | some x =>
      rw [h1] at this
      cases h2 : rs'[i]? with
      | none => rw [h2] at this; simp at this
      | some y => rw [h2] at this; simpa using this
  unfold gPlanS
  simp only [e]
theorem gPlanL_ids {rs rs' : List Rt} (h : rs.map (·.id) = rs'.map (·.id)) (len : Int) : ∀ (o : List Int) (T : Tp) (id : Int) (l : List Ed), gPlanL rs len o T id l = gPlanL rs' len o T id l
  | [], _, _, _ => rfl
  | x :: o, T, id, l => by
    rw [gPlanL, gPlanL, gPlanS_ids h, gPlanL_ids h]
theorem gPlan0_ids {rs rs' : List Rt} (h : rs.map (·.id) = rs'.map (·.id)) (T : Tp) : gPlan0 T rs = gPlan0 T rs' := by
  have hl : rs.length = rs'.length := by have := congrArg List.length h; simpa using this
  unfold gPlan0
  simp only [hl, gPlanL_ids h]
theorem plan_valid {most : Int} {g : Topo} (h : TopV most g) (hm : most ≤ 24) (T : Tp) : PlanV (gRts g.rs.length) (gPlan T g.rs 0).1 := by
  rw [gPlan_zero_eq]
  show PlanV _ (gPlan0 T g.rs).1
  rw [gPlan0_ids h.ids]
  exact gPlan0_valid T (by have := h.n; omega)
theorem all11_eq {g : Topo} (hg : chkT g = 0) {p : Pn} (hp : planB p = true) : all11 g p = (tabs g p g.rs, 0) := by
  unfold all11
  rw [if_pos ⟨hg, hp⟩]
theorem gDom_valid (T : Tp) {most : Int} (hm : 1 ≤ most ∧ most ≤ 8) : DomV most (gDom T most).1 (gDom T most).2.1 (gDom T most).2.2.1 ∧ AllCap (gDom T most).1 := by
  have h := gTop_valid T hm
  have hp := plan_valid h (by omega) (gTop T most).2
  refine ⟨⟨h, planB_of hp, hp.len, hp.subd, ?_⟩, fun x hx => ?_⟩
  · show (all11 _ _).1 = _
    rw [all11_eq h.ok (planB_of hp)]; rfl
  · have hx : x ∈ gRts (gRange T 1 most).1.toNat := hx
    exact (gRts_mem.1 hx).1
theorem tabs_chk {g : Topo} (hg : chkT g = 0) {p : Pn} (hp : planB p = true) : ∀ b ∈ tabs g p g.rs, chk b = 0 := fun b hb => by
  obtain ⟨x, hx, _, rfl⟩ := tabs_mem hb
  exact buildT_ok hg hp (hasR_mem.2 (List.mem_map_of_mem hx))
/-! ### wrong tables are valid, too -/
/-! ### packets for a plan -/
end Go.Proofs

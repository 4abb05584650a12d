/-
  Laws of the layer between the model and plain data (states, operations, calls, loops); none has a condition beyond those that stand in its own statement.
-/
import Derived.Test.YtkhneohilohhiaaT1
import Derived.Maps.AppendAt
import Derived.Laws.OwnMore
namespace Go.Tr
open Go

theorem add_lit' (b o n : Nat) : (⟨b, o, none⟩ : Addr).add n = ⟨b, o + n, none⟩ := by unfold Addr.add; split <;> simp_all

theorem CellsRel.up {E E' : En} (h : ExtA E E') {us : List Value} : ∀ {o : Nat} {ts : List TV}, CellsRel E us o ts → CellsRel E' us o ts
  | _, [], _ => trivial
  | _, _ :: _, ⟨⟨u, h1, h2, h3⟩, r⟩ => ⟨⟨u, h1, h2, h3.up h⟩, r.up h⟩

theorem RowRel.up {E E' : En} (h : ExtA E E') {us : List Value} {k : Nat} : ∀ {o : Nat} {es : List (List TV)}, RowRel E us k o es → RowRel E' us k o es
  | _, [], _ => trivial
  | _, _ :: _, ⟨h1, h2, r⟩ => ⟨h1, h2.up h, r.up h⟩

theorem CellsRel.get {E : En} {us : List Value} : ∀ {o : Nat} {ts : List TV} (_ : CellsRel E us o ts) {i : Nat} {t : TV}, ts[i]? = some t →
    ∃ u, us[o + i]? = some u ∧ u.oneCell' = true ∧ RelV E t u
  | _, [], _, _, _, h => by simp at h
  | o, t :: ts, ⟨h, r⟩, 0, t', e => by simp at e; subst e; simpa using h
  | o, t :: ts, ⟨_, r⟩, i + 1, t', e => by
    have := CellsRel.get r (i := i) (t := t') (by simpa using e)
    rwa [show o + (i + 1) = o + 1 + i by omega]

theorem CellsRel.of_get {E : En} {us : List Value} : ∀ {o : Nat} {ts : List TV}, (∀ i t, ts[i]? = some t → ∃ u, us[o + i]? = some u ∧ u.oneCell' = true ∧ RelV E t u) → CellsRel E us o ts
  | _, [], _ => trivial
  | o, t :: ts, h => ⟨by simpa using h 0 t rfl, CellsRel.of_get fun i t' e => by
      have := h (i + 1) t' (by simpa using e)
      rwa [show o + (i + 1) = o + 1 + i by omega] at this⟩

theorem RowRel.get {E : En} {us : List Value} {k : Nat} : ∀ {o : Nat} {es : List (List TV)} (_ : RowRel E us k o es) {i : Nat} {e : List TV}, es[i]? = some e →
    e.length = k ∧ CellsRel E us (o + i * k) e
  | _, [], _, _, _, h => by simp at h
  | o, e :: es, ⟨h1, h2, r⟩, 0, e', he => by simp at he; subst he; exact ⟨h1, by simpa using h2⟩
  | o, e :: es, ⟨_, _, r⟩, i + 1, e', he => by
    have := RowRel.get r (i := i) (e := e') (by simpa using he)
    refine ⟨this.1, ?_⟩
    have h := this.2
    rwa [show o + k + i * k = o + (i + 1) * k by rw [Nat.add_mul]; omega] at h

theorem RowRel.of_get {E : En} {us : List Value} {k : Nat} : ∀ {o : Nat} {es : List (List TV)}, (∀ i e, es[i]? = some e → e.length = k ∧ CellsRel E us (o + i * k) e) → RowRel E us k o es
  | _, [], _ => trivial
  | o, e :: es, h => ⟨(h 0 e rfl).1, by simpa using (h 0 e rfl).2, RowRel.of_get fun i e' he => by
      have := h (i + 1) e' (by simpa using he)
      refine ⟨this.1, ?_⟩
      have h2 := this.2
      rwa [show o + (i + 1) * k = o + k + i * k by rw [Nat.add_mul]; omega] at h2⟩

theorem RepRows.get {E : En} {b k : Nat} : ∀ {o : Nat} {xs : List (List D)} (_ : RepRows E b k o xs) {i : Nat} {e : List D}, xs[i]? = some e →
    e.length = k ∧ RepCells E b (o + i * k) e
  | _, [], _, _, _, h => by simp at h
  | o, e :: es, h, 0, e', he => by simp only [RepRows] at h; simp at he; subst he; exact ⟨h.1, by simpa using h.2.1⟩
  | o, e :: es, h, i + 1, e', he => by
    simp only [RepRows] at h
    have := RepRows.get h.2.2 (i := i) (e := e') (by simpa using he)
    refine ⟨this.1, ?_⟩
    have h := this.2
    rwa [show o + k + i * k = o + (i + 1) * k by rw [Nat.add_mul]; omega] at h

theorem RepRows.of_get {E : En} {b k : Nat} : ∀ {o : Nat} {xs : List (List D)}, (∀ i e, xs[i]? = some e → e.length = k ∧ RepCells E b (o + i * k) e) → RepRows E b k o xs
  | _, [], _ => by simp only [RepRows]
  | o, e :: es, h => by
    simp only [RepRows]
    exact ⟨(h 0 e rfl).1, by simpa using (h 0 e rfl).2, RepRows.of_get fun i e' he => by
      have := h (i + 1) e' (by simpa using he)
      refine ⟨this.1, ?_⟩
      have h2 := this.2
      rwa [show o + (i + 1) * k = o + k + i * k by rw [Nat.add_mul]; omega] at h2⟩

theorem RepCells.get {E : En} {b : Nat} : ∀ {o : Nat} {xs : List D} (_ : RepCells E b o xs) {i : Nat} {x : D}, xs[i]? = some x →
    E.St b (o + i) ∧ ∃ u, E.w.cell? ⟨b, o + i, none⟩ = some u ∧ Rep E x u
  | _, [], _, _, _, h => by simp at h
  | o, x :: ds, h, 0, x', he => by simp only [RepCells] at h; simp at he; subst he; simpa using h.1
  | o, x :: ds, h, i + 1, x', he => by
    simp only [RepCells] at h
    have := RepCells.get h.2 (i := i) (x := x') (by simpa using he)
    rwa [show o + (i + 1) = o + 1 + i by omega]

theorem RepCells.of_get {E : En} {b : Nat} : ∀ {o : Nat} {xs : List D}, (∀ i x, xs[i]? = some x → E.St b (o + i) ∧ ∃ u, E.w.cell? ⟨b, o + i, none⟩ = some u ∧ Rep E x u) → RepCells E b o xs
  | _, [], _ => by simp only [RepCells]
  | o, x :: ds, h => by
    simp only [RepCells]
    exact ⟨by simpa using h 0 x rfl, RepCells.of_get fun i x' he => by
      have := h (i + 1) x' (by simpa using he)
      rwa [show o + (i + 1) = o + 1 + i by omega] at this⟩

theorem Rep.one {E : En} : ∀ {x : D} {u : Value}, Rep E x u → u.oneCell' = true
  | .int k n, u, h => by simp only [Rep] at h; subst h; rfl
  | .bool b, u, h => by simp only [Rep] at h; subst h; rfl
  | .str s, u, h => by simp only [Rep] at h; subst h; rfl
  | .sl xs, u, h => by
    simp only [Rep] at h
    rcases h with ⟨_, a, c, rfl⟩ | ⟨b, o, c, k, rfl, _⟩ <;> rfl

/-- Values of one cell. -/
def TV.one : TV → Bool
  | .d _ | .oref _ _ | .ptr _ _ | .ep _ _ | .eptr _ _ _ _ | .clo _ _ | .mref _ | .sx _ => true
  | .c v => v.oneCell'
  | _ => false

theorem RelV.one {E : En} : ∀ {t : TV} {u : Value}, t.one = true → RelV E t u → u.oneCell' = true
  | .d x, u, _, h => by simp only [RelV] at h; exact h.one
  | .c v, u, h1, h => by simp only [RelV] at h; subst h; simpa only [TV.one] using h1
  | .oref id n, u, _, h => by simp only [RelV] at h; exact h.1
  | .ptr p off, u, _, h => by simp only [RelV] at h; obtain ⟨b, _, rfl⟩ := h; rfl
  | .ep e off, u, _, h => by simp only [RelV] at h; obtain ⟨b, o, rfl, _⟩ := h; rfl
  | .eptr id n i off, u, _, h => by simp only [RelV] at h; exact h.1
  | .mref id, u, _, h => by simp only [RelV] at h; obtain ⟨b, _, rfl⟩ := h; rfl
  | .sx xs, u, _, h => by simp only [RelV] at h; obtain ⟨_, b, rfl⟩ := h; rfl
  | .clo f caps, u, _, h => by simp only [RelV] at h; obtain ⟨us, rfl, _⟩ := h; rfl
  | .junk, _, h, _ => by simp [TV.one] at h
  | .agg _, _, h, _ => by simp [TV.one] at h
  | .tup _, _, h, _ => by simp [TV.one] at h

theorem RelVs.length {E : En} : ∀ {ts : List TV} {us : List Value}, RelVs E ts us → us.length = ts.length
  | [], us, h => by simp only [RelVs] at h; subst h; rfl
  | t :: ts, us, h => by
    simp only [RelVs] at h
    obtain ⟨u, us', rfl, _, h2⟩ := h
    simp [h2.length]

theorem RelVs.get {E : En} : ∀ {ts : List TV} {us : List Value}, RelVs E ts us → ∀ {i : Nat} {t : TV}, ts[i]? = some t → ∃ u, us[i]? = some u ∧ RelV E t u
  | [], us, h, i, t, e => by simp at e
  | t :: ts, us, h, i, t', e => by
    simp only [RelVs] at h
    obtain ⟨u, us', rfl, h1, h2⟩ := h
    cases i with
    | zero => simp at e; subst e; exact ⟨u, rfl, h1⟩
    | succ i => simpa using h2.get (i := i) (by simpa using e)

theorem RelVs.of_get {E : En} : ∀ {ts : List TV} {us : List Value}, us.length = ts.length → (∀ (i : Nat) (t : TV) (u : Value), ts[i]? = some t → us[i]? = some u → RelV E t u) → RelVs E ts us
  | [], us, hl, _ => by simp only [RelVs]; exact List.eq_nil_of_length_eq_zero hl
  | t :: ts, [], hl, _ => by simp at hl
  | t :: ts, u :: us, hl, h => by
    simp only [RelVs]
    exact ⟨u, us, rfl, h 0 t u rfl rfl, RelVs.of_get (by simpa using hl) fun i t' u' e e' => h (i + 1) t' u' (by simpa using e) (by simpa using e')⟩

theorem RelVs.cells {E : En} {ts : List TV} {us : List Value} (h : RelVs E ts us) (h1 : ∀ t ∈ ts, t.one = true) : CellsRel E us 0 ts :=
  CellsRel.of_get fun i t e => by
    obtain ⟨u, hu, hr⟩ := h.get e
    exact ⟨u, by simpa using hu, hr.one (h1 t (List.mem_of_getElem? e)), hr⟩

theorem HInv.slot {E : En} {H : S} (h : HInv E H) (k : Nat) (i : It) : HInv E (upd H (.s k) i) where
  item p hp := by rw [upd, if_neg (hp k)]; exact h.item p hp
  frees := h.frees
  inj := h.inj
  size := h.size
  stsz := h.stsz
  sep b o hst p hp := by
    obtain ⟨e, k', es, h1, h2⟩ := h.sep b o hst p hp
    refine ⟨e, k', es, ?_, h2⟩
    rw [upd, if_neg]
    · exact h1
    · rintro rfl
      simp [En.own, h.frees k] at hp

theorem ItemOK.up {E E' : En} {p : Pl} {it : It} (h : ItemOK E p it) (x : ExtA E E') (hb : E'.blk p = E.blk p) (hv : ∀ id, p = .o id → E'.val id = E.val id)
    (hh : ∀ b, E.own p = some b → E'.w.heap[b]? = E.w.heap[b]?) : ItemOK E' p it := by
  cases it with
  | none => exact fun id e => by rw [hb, hv id e]; exact h id e
  | v t => exact h
  | box cs =>
    obtain ⟨h0, b, ty, us, h1, h2, h3, h4⟩ := h
    exact ⟨fun id e => by rw [hv id e]; exact h0 id e, b, ty, us, hb.trans h1, (hh b (by simp [En.own, h1])).trans h2, h3, h4.up x⟩
  | row e k es sh =>
    obtain ⟨h0, id, v, us, rfl, h1, h2, h3⟩ := h
    refine ⟨hb.trans h0, id, v, us, rfl, (hv id rfl).trans h1, ⟨h2.1, ?_⟩, h3.up x⟩
    rcases h2.2 with hn | ⟨g, cap, cur, rfl, hg, hgg, rest⟩
    · exact .inl hn
    · exact .inr ⟨g, cap, cur, rfl, hg, (hh g (by simp [En.own, h0, h1, Value.ownBlock])).trans hgg, rest⟩
  | mp es =>
    obtain ⟨h0, b, l, clock, h1, h2, h3, h4⟩ := h
    exact ⟨fun id e => by rw [hv id e]; exact h0 id e, b, l, clock, hb.trans h1, (hh b (by simp [En.own, h1])).trans h2, h3.ext x.r, h4⟩

theorem En.own_eq {E E' : En} {p : Pl} (hb : E'.blk p = E.blk p) (hv : ∀ id, p = .o id → E'.val id = E.val id) : E'.own p = E.own p := by
  unfold En.own
  rw [hb]
  cases p with
  | o id => simp [hv id rfl]
  | s k => rfl
  | x k => rfl

/-- One object changes (and its block, or a new one); all else stays. -/
theorem HInv.change {E E' : En} {H : S} {p : Pl} {it : It} (h : HInv E H) (hp : ∀ k, p ≠ .s k) (x : ExtA E E')
    (hSt : ∀ b o, E'.St b o → E.St b o ∨ (E'.own p ≠ some b ∧ E.w.heap.size ≤ b ∧ b < E'.w.heap.size)) (hblk : ∀ q, q ≠ p → E'.blk q = E.blk q) (hval : ∀ id, p ≠ .o id → E'.val id = E.val id)
    (hs : E.w.heap.size ≤ E'.w.heap.size) (hoth : ∀ q b, q ≠ p → E.own q = some b → E'.w.heap[b]? = E.w.heap[b]?)
    (hown : ∀ b, E'.own p = some b → b < E'.w.heap.size ∧ (E.own p = some b ∨ E.w.heap.size ≤ b))
    (hit : ItemOK E' p it) (hsep : ∀ b o, E.St b o → E'.own p = some b → ∃ e k es, it = .row e k es true ∧ o < es.length * k) : HInv E' (upd H p it) := by
  have hq : ∀ q, q ≠ p → E'.own q = E.own q := fun q hne => En.own_eq (hblk q hne) (fun id e => hval id (fun e' => hne (e.trans e'.symm)))
  refine ⟨fun q hqs => ?_, fun k => ?_, fun q r b h1 h2 => ?_, fun q b h1 => ?_, fun b o h1 => ?_, fun b o h1 q h2 => ?_⟩
  · by_cases e : q = p
    · subst e; simpa only [upd, if_true] using hit
    · rw [upd, if_neg e]
      exact (h.item q hqs).up x (hblk q e) (fun id e' => hval id (fun e'' => e (e'.trans e''.symm))) (fun b hb => hoth q b e hb)
  · rw [hblk _ (fun e => hp k e.symm)]; exact h.frees k
  · by_cases e1 : q = p <;> by_cases e2 : r = p
    · rw [e1, e2]
    · subst e1
      rw [hq r e2] at h2
      rcases (hown b h1).2 with h3 | h3
      · exact h.inj _ _ b h3 h2
      · have := h.size r b h2; omega
    · subst e2
      rw [hq q e1] at h1
      rcases (hown b h2).2 with h3 | h3
      · exact h.inj _ _ b h1 h3
      · have := h.size q b h1; omega
    · rw [hq q e1] at h1; rw [hq r e2] at h2; exact h.inj _ _ b h1 h2
  · by_cases e : q = p
    · subst e; exact (hown b h1).1
    · rw [hq q e] at h1; exact Nat.lt_of_lt_of_le (h.size q b h1) hs
  · rcases hSt b o h1 with h2 | ⟨_, _, h2⟩
    · exact Nat.lt_of_lt_of_le (h.stsz b o h2) hs
    · exact h2
  · rcases hSt b o h1 with h3 | ⟨hb, h3, _⟩
    · by_cases e : q = p
      · subst e
        obtain ⟨e', k, es, h4, h5⟩ := hsep b o h3 h2
        exact ⟨e', k, es, by simpa only [upd, if_true] using h4, h5⟩
      · rw [hq q e] at h2
        obtain ⟨e', k, es, h4, h5⟩ := h.sep b o h3 q h2
        exact ⟨e', k, es, by rw [upd, if_neg e]; exact h4, h5⟩
    · by_cases e : q = p
      · subst e; exact absurd h2 hb
      · rw [hq q e] at h2
        have := h.size q b h2
        omega

/-- New stable memory alone (a literal; what a row shows is handed on). -/
theorem HInv.more {E E' : En} {H : S} (h : HInv E H) (x : ExtA E E') (hblk : E'.blk = E.blk) (hval : E'.val = E.val) (hs : E.w.heap.size ≤ E'.w.heap.size)
    (hoth : ∀ b, b < E.w.heap.size → E'.w.heap[b]? = E.w.heap[b]?)
    (hSt : ∀ b o, E'.St b o → E.St b o ∨ (b < E'.w.heap.size ∧ ∀ p, E.own p = some b → ∃ e k es, H p = .row e k es true ∧ o < es.length * k)) : HInv E' H := by
  have hq : ∀ q, E'.own q = E.own q := fun q => En.own_eq (by rw [hblk]) (fun id _ => by rw [hval])
  refine ⟨fun q hqs => (h.item q hqs).up x (by rw [hblk]) (fun id _ => by rw [hval]) (fun b hb => hoth b (h.size q b hb)), fun k => by rw [hblk]; exact h.frees k,
    fun q r b h1 h2 => h.inj q r b (by rwa [hq] at h1) (by rwa [hq] at h2), fun q b h1 => Nat.lt_of_lt_of_le (h.size q b (by rwa [hq] at h1)) hs, fun b o h1 => ?_, fun b o h1 q h2 => ?_⟩
  · rcases hSt b o h1 with h2 | h2
    · exact Nat.lt_of_lt_of_le (h.stsz b o h2) hs
    · exact h2.1
  · rcases hSt b o h1 with h3 | h3
    · exact h.sep b o h3 q (by rwa [hq] at h2)
    · exact h3.2 q (by rwa [hq] at h2)

end Go.Tr

/-
  Laws of the layer between the model and plain data (states, operations, calls, loops); none has a condition beyond those that stand in its own statement.
-/
import Derived.Test.YtkhgmgelbgondaaTA
import Derived.Laws.IdiomStrings
import Derived.Laws.StructEq
import Derived.MapKept
set_option linter.unusedSimpArgs false
namespace Go.Tr
open Go

section
variable {P : Program} {A : Actv}

theorem upd_upd (t : S) (p : Pl) (i j : It) : upd (upd t p i) p j = upd t p j := by
  funext q; by_cases h : q = p <;> simp [upd, h]

def appOK (k b n : Nat) (ys : List (List TV)) : Prop := (∀ e ∈ ys, e.length = k) ∧ (n + ys.length) * b ≤ 140737488355328 ∧ n + ys.length ≤ 9223372036854775807

theorem run_app_op {o : Oper} {x y : Operand} {sty : TypeId} (ho : o.op = .call { callee := .builtin .append, args := #[x, y], argTypes := #[sty, sty] }) {a : Act} {w w' : World} {v : Value}
    (h : (Builtin.append_ #[sty, sty] o.type #[a.eval x, a.eval y]).run P w = .ok v w') : (execOp a.eval o).run P w = .ok (.value v) w' := by
  simp [execOp, ho, resolve, invoke, builtin, h]

theorem eff_append_row {o : Oper} {t : S} {x y : Operand} {sty : TypeId} {id n e k b : Nat} {es ys : List (List TV)} {sh : Bool} {rp : List Pl} {z : Value}
    (ho : o.op = .call { callee := .builtin .append, args := #[x, y], argTypes := #[sty, sty] }) (hx : ev t x = .oref id n) (ht : t (.o id) = .row e k es sh) (hs : Src t (ev t y) rp ys)
    (he : slE P sty = some e) (hk : szO P e = some k) (hb : byO P e = some b) (hz : zrO P e = some z) (hzs : (zcells z).length = k) (hk0 : 0 < k) :
    EffOK P A o t ⟨n = es.length ∧ appOK k b n ys, pl x ++ (pl y ++ (.o id :: rp)), [(.o id, .row e k (es ++ ys) sh)], .oref id (n + ys.length)⟩ := fun ⟨hn, hlen, hroom, hroom2⟩ t' hr a E hi => by
  have hx' := ev_rel hi x
  rw [ev_eq (pl_left hr), hx] at hx'
  have hy' := ev_rel hi y
  rw [ev_eq (pl_left (pl_right hr))] at hy'
  have hr3 := pl_right (pl_right hr)
  have ht' : t' (.o id) = .row e k es sh := (hr3 _ (by simp)).trans ht
  subst hn
  obtain ⟨ad, c, news, hu, hnl, hrow, hone, hsrc⟩ := hs.rel hlen (fun p hp => hr3 p (by simp [hp])) hi hy'
  obtain ⟨v', E', hrun, hinv, hrel⟩ := hi.append ht' he hk hb hz hzs hk0 hx' (ty := o.type) (c := c) hnl hrow hone hsrc hroom hroom2
  exact ⟨_, v', E', run_app_op ho (by rw [hu]; exact hrun), .inl rfl, hinv, hrel⟩

theorem eff_append_nil {o : Oper} {t : S} {x y : Operand} {sty : TypeId} {d e k b : Nat} {ys : List (List TV)} {rp : List Pl} {z : Value}
    (ho : o.op = .call { callee := .builtin .append, args := #[x, y], argTypes := #[sty, sty] }) (hx : ev t x = .c (.slice none 0 0)) (hs : Src t (ev t y) rp ys)
    (he : slE P sty = some e) (hk : szO P e = some k) (hb : byO P e = some b) (hz : zrO P e = some z) (hzs : (zcells z).length = k) (hk0 : 0 < k) :
    EffOK P A o t ⟨t (.o d) = .none ∧ appOK k b 0 ys, pl x ++ (pl y ++ (.o d :: rp)), [(.o d, .row e k ys false)], .oref d ys.length⟩ := fun ⟨hd, hlen, hroom, hroom2⟩ t' hr a E hi => by
  have hx' := ev_rel hi x
  rw [ev_eq (pl_left hr), hx] at hx'
  simp only [RelV] at hx'
  have hy' := ev_rel hi y
  rw [ev_eq (pl_left (pl_right hr))] at hy'
  have hr3 := pl_right (pl_right hr)
  have hd' : t' (.o d) = .none := (hr3 _ (by simp)).trans hd
  obtain ⟨ad, c, news, hu, hnl, hrow, hone, hsrc⟩ := hs.rel hlen (fun p hp => hr3 p (by simp [hp])) hi hy'
  obtain ⟨E1, hw1, x1, hi1, hv1⟩ := hi.newRow hd' e k
  have hnil : RelV E1 (.oref d ([] : List (List TV)).length) (a.eval x) := by
    simp only [RelV, List.length_nil]
    exact ⟨by rw [hx']; rfl, k, 0, _, hv1, Nat.le_refl _, fun _ => hx'⟩
  obtain ⟨v', E', hrun, hinv, hrel⟩ := hi1.append (upd_same _ _ _) he hk hb hz hzs hk0 hnil (ty := o.type) (c := c) hnl (hrow.up x1) hone (by rw [hw1]; exact hsrc) (by simpa using hroom) (by simpa using hroom2)
  rw [upd_upd] at hinv
  refine ⟨_, v', E', run_app_op ho (by rw [hu, ← hw1]; exact hrun), .inl rfl, by simpa [over] using hinv, by simpa using hrel⟩

/-! ### literals -/
def toD : TV → Option D
  | .d x => some x
  | .c (.slice none 0 0) => some (.sl [])
  | _ => none

def toDs : List TV → Option (List D)
  | [] => some []
  | t :: ts => match toD t, toDs ts with
    | some x, some xs => some (x :: xs)
    | _, _ => none

/-- rows of plain data -/
def dd (xs : List (List D)) : List (List TV) := xs.map (·.map .d)

def toDss : List (List TV) → Option (List (List D))
  | [] => some []
  | e :: es => match toDs e, toDss es with
    | some x, some xs => some (x :: xs)
    | _, _ => none

theorem toD_rel {E : En} {t : TV} {x : D} (h : toD t = some x) {u : Value} (hr : RelV E t u) : Rep E x u := by
  unfold toD at h
  split at h
  · simp only [Option.some.injEq] at h; subst h; simpa only [RelV] using hr
  · simp only [Option.some.injEq] at h; subst h
    simp only [RelV] at hr
    simp only [Rep]
    exact .inl ⟨rfl, _, _, hr⟩
  · simp at h

theorem toDs_get {ts : List TV} {xs : List D} (h : toDs ts = some xs) : xs.length = ts.length ∧ ∀ (i : Nat) (x : D), xs[i]? = some x → ∃ t, ts[i]? = some t ∧ toD t = some x := by
  induction ts generalizing xs with
  | nil => simp [toDs] at h; subst h; simp
  | cons t ts ih =>
    simp only [toDs] at h
    split at h
    · rename_i x xs' h1 h2
      simp only [Option.some.injEq] at h
      subst h
      obtain ⟨h3, h4⟩ := ih h2
      refine ⟨by simp [h3], fun i y hy => ?_⟩
      cases i with
      | zero => simp at hy; subst hy; exact ⟨t, rfl, h1⟩
      | succ i => simpa using h4 i y (by simpa using hy)
    · simp at h

theorem toDss_get {es : List (List TV)} {xs : List (List D)} (h : toDss es = some xs) : xs.length = es.length ∧ ∀ (i : Nat) (x : List D), xs[i]? = some x → ∃ e, es[i]? = some e ∧ toDs e = some x := by
  induction es generalizing xs with
  | nil => simp [toDss] at h; subst h; simp
  | cons t ts ih =>
    simp only [toDss] at h
    split at h
    · rename_i x xs' h1 h2
      simp only [Option.some.injEq] at h
      subst h
      obtain ⟨h3, h4⟩ := ih h2
      refine ⟨by simp [h3], fun i y hy => ?_⟩
      cases i with
      | zero => simp at hy; subst hy; exact ⟨t, rfl, h1⟩
      | succ i => simpa using h4 i y (by simpa using hy)
    · simp at h

/-- What a row shows becomes stable: it may be handed on as plain data. -/
theorem InvE.freeze {t : S} {a : Act} {E : En} (hi : InvE A t a E) {id e k : Nat} {es : List (List TV)} {sh : Bool} (ht : t (.o id) = .row e k es sh) {xs : List (List D)} (hx : toDss es = some xs) :
    ∃ E' : En, E'.w = E.w ∧ ExtA E E' ∧ E'.blk = E.blk ∧ E'.val = E.val ∧ InvE A (upd t (.o id) (.row e k es true)) a E' ∧ (∀ u, RelV E (.oref id es.length) u → Rep E' (.sl xs) u) ∧
      (∀ b o, E'.St b o → E.St b o ∨ E.own (.o id) = some b) := by
  obtain ⟨hblk, v, us, hval, hown, hrel, hcur⟩ := row_cur hi ht
  have hownp : E.own (.o id) = v.ownBlock := by simp [En.own, hblk, hval]
  obtain ⟨hxl, hxg⟩ := toDss_get hx
  let E' : En := { E with St := fun b o => E.St b o ∨ (v.ownBlock = some b ∧ o < es.length * k) }
  have x : ExtA E E' := ⟨fun _ _ h => .inl h, fun _ _ _ => rfl, fun _ _ _ h => h, fun _ _ h => h, fun _ _ h => h, fun _ _ c u _ hu => ⟨c, u, hu, Nat.le_refl _, fun _ => rfl⟩⟩
  have hH1 : HInv E (upd t (.o id) (.row e k es true)) := by
    refine hi.h.change (by simp) (Ext.refl _ _) (fun b o h => .inl h) (fun _ _ => rfl) (fun _ _ => rfl) (Nat.le_refl _) (fun _ _ _ _ => rfl) (fun b hb => ⟨hi.h.size _ _ hb, .inl hb⟩) ?_ (fun b o hs hb => ?_)
    · exact ⟨hblk, id, v, us, rfl, hval, hown, hrel⟩
    · obtain ⟨e2, k2, es2, h1, h2⟩ := hi.h.sep b o hs _ hb
      rw [ht] at h1
      simp only [It.row.injEq] at h1
      obtain ⟨rfl, rfl, rfl, _⟩ := h1
      exact ⟨e, k, es, rfl, h2⟩
  have hH : HInv E' (upd t (.o id) (.row e k es true)) := by
    refine hH1.more x rfl rfl (Nat.le_refl _) (fun _ _ => rfl) (fun b o hst => hst.imp (fun h => h) fun ⟨h1, h2⟩ => ?_)
    refine ⟨(hown.lt b h1).2, fun p hp => ?_⟩
    have : p = .o id := hi.h.inj p (.o id) b hp (by rw [hownp, h1])
    subst this
    exact ⟨e, k, es, upd_same _ _ _, h2⟩
  refine ⟨E', rfl, x, rfl, rfl, hi.step hH x (hi.fr.next rfl rfl rfl (Nat.le_refl _) (fun _ _ _ _ => rfl) (fun _ => rfl) (fun i b hb => .inl hb) (fun _ _ h => .inl h) (fun b o h => h.imp (fun h => h) fun ⟨h1, _⟩ => hi.fr.new id b (by rw [hownp, h1]))) (fun k => upd_s (by simp) k), fun u hu => ?_,
    fun b o h => h.imp (fun h => h) fun ⟨h1, _⟩ => by rw [hownp, h1]⟩
  have hv := hcur u hu
  subst hv
  simp only [Rep]
  rcases hown.2 with ⟨rfl, h0⟩ | ⟨g, cap, cur, rfl, hb, hg, hnc, hcm, hcs, htake⟩
  · exact .inl ⟨by omega, none, 0, rfl⟩
  · refine .inr ⟨g, 0, cap, k, by rw [hxl], by omega, RepRows.of_get fun i xe hxi => ?_⟩
    obtain ⟨el, h1, h2⟩ := hxg i xe hxi
    obtain ⟨h3, h4⟩ := toDs_get h2
    obtain ⟨h5, h6⟩ := hrel.get h1
    have hil : i < es.length := (List.getElem?_eq_some_iff.1 h1).1
    have hmul : i * k + k ≤ es.length * k := by
      have : (i + 1) * k ≤ es.length * k := Nat.mul_le_mul_right k hil
      rwa [Nat.add_mul, Nat.one_mul] at this
    refine ⟨by omega, RepCells.of_get fun j y hy => ?_⟩
    obtain ⟨tv, h7, h8⟩ := h4 j y hy
    have hj : j < k := by rw [← h5]; exact (List.getElem?_eq_some_iff.1 h7).1
    obtain ⟨u, h9, _, h10⟩ := h6.get h7
    refine ⟨.inr ⟨rfl, by omega⟩, u, ?_, (toD_rel h8 h10).up x⟩
    have := hown.cells (g := g) rfl _ _ h9
    rwa [add_lit', Nat.zero_add] at this


end
end Go.Tr

set_option linter.unusedSimpArgs false
namespace Go.Tr
open Go

section
variable {P : Program} {A : Actv}

/-! ### filling cells -/
theorem fold_put : ∀ (vs : List Value) (n off : Nat) (cells : Array Value), off + n + vs.length ≤ cells.size →
    ((vs.zipIdx n).foldl (fun cs (x : Value × Nat) => cs.setIfInBounds (off + x.2) x.1) cells).toList = cells.toList.take (off + n) ++ vs ++ cells.toList.drop (off + n + vs.length)
  | [], n, off, cells, _ => by simp
  | v :: vs, n, off, cells, h => by
    simp only [List.length_cons] at h
    rw [List.zipIdx_cons, List.foldl_cons, fold_put vs (n + 1) off (cells.setIfInBounds (off + n) v) (by simp; omega)]
    apply List.ext_getElem?
    intro j
    rw [get_put (cur := (cells.setIfInBounds (off + n) v).toList) (q := off + (n + 1)) (by simp; omega), get_put (cur := cells.toList) (vs := v :: vs) (q := off + n) (by simp; omega)]
    have hs : ∀ j : Nat, (cells.setIfInBounds (off + n) v).toList[j]? = if j = off + n then some v else cells.toList[j]? := fun j => by
      rw [Array.toList_setIfInBounds, listSet_get (by simp; omega)]
    by_cases h1 : j < off + n
    · rw [if_pos (by omega), if_pos h1, hs, if_neg (by omega)]
    · by_cases h2 : j = off + n
      · subst h2
        rw [if_pos (by omega), hs, if_pos rfl, if_neg h1, if_pos (by simp)]
        simp
      · rw [if_neg (by omega), if_neg h1]
        by_cases h3 : j < off + n + (vs.length + 1)
        · rw [if_pos (by omega), if_pos (by simp; omega), show j - (off + n) = (j - (off + (n + 1))) + 1 by omega]
          simp
        · rw [if_neg (by omega), if_neg (by simp; omega), hs, if_neg h2]

def fillT (place : Nat → Option (Nat × Nat)) (cells : List TV) : List (Nat × TV) → Option (List TV)
  | [] => some cells
  | (i, v) :: rest =>
    match place i with
    | none => none
    | some (off, size) => if v.cells.length ≠ size ∨ cells.length < off + v.cells.length then none else fillT place (setAt cells off v.cells) rest

theorem TV.one_cells {E : En} {v : TV} {u : Value} (hr : RelV E v u) (h1 : ∀ c ∈ v.cells, c.one = true) : RelVs E v.cells u.cells.toList := by
  cases v with
  | agg vs =>
    simp only [RelV] at hr
    obtain ⟨us, rfl, h⟩ := hr
    simpa [TV.cells, Value.cells] using h
  | _ =>
    have h2 := cells_rel hr h1
    refine RelVs.of_get (by simpa using h2.1) fun i t u' ht hu => ?_
    obtain ⟨u'', h3, _, h4⟩ := h2.2.get ht
    rw [Nat.zero_add, hu] at h3
    simp only [Option.some.injEq] at h3
    rw [h3]; exact h4

theorem RelVs.setAt {E : En} {cs vs : List TV} {us ws : List Value} (h : RelVs E cs us) (g : RelVs E vs ws) {off : Nat} (hl : off + vs.length ≤ cs.length) :
    RelVs E (setAt cs off vs) (us.take off ++ ws ++ us.drop (off + ws.length)) := by
  have h1 := h.length
  have h2 := g.length
  refine RelVs.of_get ?_ fun i t u ht hu => ?_
  · rw [setAt_length hl]; simp; omega
  · rw [setAt_get hl] at ht
    rw [get_put (by omega)] at hu
    by_cases h3 : i < off
    · rw [if_pos h3] at ht hu
      obtain ⟨u', h4, h5⟩ := h.get ht
      rw [hu] at h4; simp only [Option.some.injEq] at h4; rw [h4]; exact h5
    · rw [if_neg h3] at ht hu
      by_cases h4 : i < off + vs.length
      · rw [if_pos h4] at ht
        rw [if_pos (by omega)] at hu
        obtain ⟨u', h4, h5⟩ := g.get ht
        rw [hu] at h4; simp only [Option.some.injEq] at h4; rw [h4]; exact h5
      · rw [if_neg h4] at ht
        rw [if_neg (by omega)] at hu
        obtain ⟨u', h4, h5⟩ := h.get ht
        rw [hu] at h4; simp only [Option.some.injEq] at h4; rw [h4]; exact h5

theorem fill_rel {E : En} {place : Nat → Option (Nat × Nat)} : ∀ {ps : List (Nat × TV)} {qs : List (Nat × Value)} {cells r : List TV} {us : Array Value},
    fillT place cells ps = some r → (∀ p ∈ ps, ∀ c ∈ p.2.cells, c.one = true) → RelVs E cells us.toList → ps.length = qs.length →
    (∀ (i : Nat) (p : Nat × TV) (q : Nat × Value), ps[i]? = some p → qs[i]? = some q → p.1 = q.1 ∧ RelV E p.2 q.2) →
    ∃ ru, Instr.fill place us qs = some ru ∧ RelVs E r ru.toList
  | [], [], cells, r, us, h, _, hr, _, _ => by
    simp only [fillT, Option.some.injEq] at h
    subst h
    exact ⟨us, rfl, hr⟩
  | [], _ :: _, _, _, _, _, _, _, hl, _ => by simp at hl
  | _ :: _, [], _, _, _, _, _, _, hl, _ => by simp at hl
  | (i, v) :: ps, (i', u) :: qs, cells, r, us, h, h1, hr, hl, hp => by
    obtain ⟨hii, hv⟩ := hp 0 (i, v) (i', u) rfl rfl
    simp only at hii hv
    subst hii
    simp only [fillT] at h
    cases hpl : place i with
    | none => simp [hpl] at h
    | some os =>
      obtain ⟨off, size⟩ := os
      simp only [hpl] at h
      split at h
      · simp at h
      · rename_i hc
        simp only [not_or, Decidable.not_not, Nat.not_lt] at hc
        have hone : ∀ c ∈ v.cells, c.one = true := h1 (i, v) (by simp)
        have hcr := TV.one_cells hv hone
        have hcs : u.cells.size = v.cells.length := by simpa using hcr.length
        have hus : us.size = cells.length := by simpa using hr.length
        have hput := fold_put u.cells.toList 0 off us (by simp; omega)
        simp only [Nat.add_zero, Array.length_toList] at hput
        have hset := hr.setAt hcr hc.2
        simp only [Array.length_toList] at hset
        rw [← hput] at hset
        obtain ⟨ru, h2, h3⟩ := fill_rel (qs := qs) h (fun p hp => h1 p (by simp [hp])) hset (by simpa using hl) (fun j p q hj hq => hp (j + 1) p q (by simpa using hj) (by simpa using hq))
        refine ⟨ru, ?_, h3⟩
        have hfold : u.cells.zipIdx.foldl (fun cs x => cs.setIfInBounds (off + x.2) x.1) us = (u.cells.toList.zipIdx).foldl (fun cs (x : Value × Nat) => cs.setIfInBounds (off + x.2) x.1) us := by
          rw [← Array.foldl_toList, Array.toList_zipIdx]
        have hn : ¬ (us.size < off + u.cells.size) := by omega
        simp only [Instr.fill, hpl, hcs, hc.1, ne_eq, not_true_eq_false, decide_false, Bool.false_or, gt_iff_lt, decide_eq_true_eq]
        rw [if_neg (by omega)]
        rw [← h2]
        congr 1

/-- The places of a struct's fields. -/
def stF (P : Program) (t : TypeId) : Option (List (Nat × Nat)) :=
  match P.underlying t with
  | some (.struct fs) => fs.toList.mapM fun f => (szO P f.type).map fun z => (f.offset, z)
  | _ => none

theorem mapM_places {w : World} : ∀ (fs : List Field) (r : List (Nat × Nat)), fs.mapM (fun f => (szO P f.type).map fun z => (f.offset, z)) = some r →
    (fs.mapM (fun f => do pure (f.offset, ← sizeOf f.type) : Field → Sem (Nat × Nat))).run P w = .ok r w
  | [], r, h => by simp at h; subst h; simp
  | f :: fs, r, h => by
    simp only [List.mapM_cons, bind, Option.bind_eq_some_iff, Option.map_eq_some_iff, pure, Option.some.injEq] at h
    obtain ⟨_, ⟨z, hz, rfl⟩, r', h2, rfl⟩ := h
    have ih := mapM_places (w := w) fs r' h2
    unfold szO at hz
    cases hi : P.info? f.type with
    | none => simp [hi] at hz
    | some inf =>
      simp only [hi, Option.map_some, Option.some.injEq] at hz
      simp only [List.mapM_cons, sizeOf, typeInfo, Sem.run_bind, run_program, Result.andThen_ok, hi, Sem.run_pure, hz]
      simp only [sizeOf, typeInfo] at ih
      rw [ih]
      simp

theorem parts_rel {t : S} {a : Act} {E : En} (hi : InvE A t a E) (ps : List (Nat × Operand)) : ∀ (i : Nat) (p : Nat × TV) (q : Nat × Value), (ps.map fun x => (x.1, ev t x.2))[i]? = some p → (ps.map fun x => (x.1, a.eval x.2))[i]? = some q →
    p.1 = q.1 ∧ RelV E p.2 q.2 := fun i p q hp hq => by
  simp only [List.getElem?_map, Option.map_eq_some_iff] at hp hq
  obtain ⟨x, h1, rfl⟩ := hp
  obtain ⟨y, h2, rfl⟩ := hq
  rw [h1] at h2; simp only [Option.some.injEq] at h2; subst h2
  exact ⟨rfl, ev_rel hi _⟩

theorem parts_eq {t t' : S} : ∀ {ps : List (Nat × Operand)}, (∀ p ∈ ps.flatMap (fun x => pl x.2), t' p = t p) → (ps.map fun x => (x.1, ev t' x.2)) = ps.map fun x => (x.1, ev t x.2)
  | [], _ => rfl
  | x :: xs, h => by
    simp only [List.map_cons]
    rw [ev_eq (fun p hp => h p (by simp [hp])), parts_eq (fun p hp => h p (by simp only [List.flatMap_cons]; exact List.mem_append_right _ hp))]

/-- T{..}, T a struct -/
theorem eff_build {o : Oper} {t : S} {ty : TypeId} {ps : List (Nat × Operand)} {fs : List (Nat × Nat)} {z : Value} {r : List TV} (ho : o.op = .build ty ps.toArray) (hf : stF P ty = some fs) (hz : zrO P ty = some z)
    (hr : fillT (fun i => fs[i]?) ((zcells z).map ofCell) (ps.map fun x => (x.1, ev t x.2)) = some r) :
    EffOK P A o t ⟨∀ p ∈ ps.map (fun x => (x.1, ev t x.2)), ∀ c ∈ p.2.cells, c.one = true, ps.flatMap (fun x => pl x.2), [], .agg r⟩ :=
  .pure fun hC t' hr' a E hi => by
    have hpe := parts_eq hr'
    have hp := parts_rel hi ps
    rw [hpe] at hp
    have hz0 : RelVs E ((zcells z).map ofCell) z.cells.toList := by rw [zcells_eq]; exact ofCells_rel E _
    obtain ⟨ru, h1, h2⟩ := fill_rel (qs := ps.map fun x => (x.1, a.eval x.2)) hr hC hz0 (by simp) hp
    refine ⟨.agg ru, ?_, by simp only [RelV]; exact ⟨ru, rfl, h2⟩⟩
    unfold stF at hf
    split at hf
    · rename_i fs' hu
      have hm := mapM_places (P := P) (w := E.w) _ _ hf
      have hm' : (fs'.mapM (fun f => do pure (f.offset, ← sizeOf f.type) : Field → Sem (Nat × Nat))).run P E.w = .ok fs.toArray E.w := by
        rw [← Array.toArray_toList (xs := fs'), List.mapM_toArray]
        rw [Sem.run_map, hm]
        rfl
      unfold zrO at hz
      cases hinf : P.info? ty with
      | none => simp [hinf] at hz
      | some inf =>
        simp only [hinf, Option.bind_some] at hz
        have hplace : (fun i : Nat => fs.toArray[i]?) = fun i : Nat => fs[i]? := by funext i; simp
        have hzero : (zeroValue ty).run P E.w = .ok z E.w := by simp [zeroValue, typeInfo, hinf, hz]
        have hrun : (Instr.build ty (ps.map fun x => (x.1, a.eval x.2)).toArray).run P E.w = .ok (.agg ru) E.w := by
          unfold Instr.build
          simp only [Sem.run_bind, hzero, Result.andThen_ok, run_underlying hu, hm', hplace, h1, Sem.run_pure]
        simp only [execOp, ho, List.map_toArray, Sem.run_bind, hrun, Result.andThen_ok, Sem.run_pure]
    · simp at hf

/-- The size of an array's elements. -/
def arF (P : Program) (t : TypeId) : Option Nat :=
  match P.underlying t with
  | some (.array _ e) => szO P e
  | _ => none

/-- [n]T{..} -/
theorem eff_buildA {o : Oper} {t : S} {ty : TypeId} {ps : List (Nat × Operand)} {k : Nat} {z : Value} {r : List TV} (ho : o.op = .build ty ps.toArray) (hf : arF P ty = some k) (hz : zrO P ty = some z)
    (hr : fillT (fun i => some (i * k, k)) ((zcells z).map ofCell) (ps.map fun x => (x.1, ev t x.2)) = some r) :
    EffOK P A o t ⟨∀ p ∈ ps.map (fun x => (x.1, ev t x.2)), ∀ c ∈ p.2.cells, c.one = true, ps.flatMap (fun x => pl x.2), [], .agg r⟩ :=
  .pure fun hC t' hr' a E hi => by
    have hpe := parts_eq hr'
    have hp := parts_rel hi ps
    rw [hpe] at hp
    have hz0 : RelVs E ((zcells z).map ofCell) z.cells.toList := by rw [zcells_eq]; exact ofCells_rel E _
    obtain ⟨ru, h1, h2⟩ := fill_rel (qs := ps.map fun x => (x.1, a.eval x.2)) hr hC hz0 (by simp) hp
    refine ⟨.agg ru, ?_, by simp only [RelV]; exact ⟨ru, rfl, h2⟩⟩
    unfold arF at hf
    split at hf
    · rename_i n e hu
      unfold zrO at hz
      cases hinf : P.info? ty with
      | none => simp [hinf] at hz
      | some inf =>
        simp only [hinf, Option.bind_some] at hz
        have hzero : (zeroValue ty).run P E.w = .ok z E.w := by simp [zeroValue, typeInfo, hinf, hz]
        have hsz : (sizeOf e).run P E.w = .ok k E.w := by
          unfold szO at hf
          cases hie : P.info? e with
          | none => simp [hie] at hf
          | some ie =>
            simp only [hie, Option.map_some, Option.some.injEq] at hf
            simp [sizeOf, typeInfo, hie, hf]
        have hrun : (Instr.build ty (ps.map fun x => (x.1, a.eval x.2)).toArray).run P E.w = .ok (.agg ru) E.w := by
          unfold Instr.build
          simp only [Sem.run_bind, hzero, Result.andThen_ok, run_underlying hu, hsz, h1, Sem.run_pure]
        simp only [execOp, ho, List.map_toArray, Sem.run_bind, hrun, Result.andThen_ok, Sem.run_pure]
    · simp at hf

end
end Go.Tr

set_option linter.unusedSimpArgs false
namespace Go.Tr
open Go

section
variable {P : Program} {A : Actv}

theorem fillT_seq {k : Nat} : ∀ (vs : List TV) (i : Nat) (dn : List TV), dn.length = i * k → (∀ v ∈ vs, v.cells.length = k) →
    fillT (fun i => some (i * k, k)) (dn ++ List.replicate (vs.length * k) .junk) (vs.zipIdx i |>.map fun x => (x.2, x.1)) = some (dn ++ vs.flatMap TV.cells)
  | [], i, dn, _, _ => by simp [fillT]
  | v :: vs, i, dn, hd, hv => by
    have hvk : v.cells.length = k := hv v (by simp)
    simp only [List.zipIdx_cons, List.map_cons, fillT, hvk, ne_eq, not_true_eq_false, false_or]
    rw [if_neg (by simp only [List.length_append, List.length_replicate, List.length_cons, hd, hvk, Nat.add_mul]; omega)]
    have : setAt (dn ++ List.replicate ((vs.length + 1) * k) .junk) (i * k) v.cells = (dn ++ v.cells) ++ List.replicate (vs.length * k) .junk := by
      unfold setAt
      rw [← hd, List.take_left, List.drop_append, List.drop_eq_nil_of_le (by omega)]
      simp [hvk, Nat.add_mul, List.append_assoc]
    simp only [List.length_cons]
    rw [this, fillT_seq vs (i + 1) (dn ++ v.cells) (by simp [hd, hvk, Nat.add_mul]) (fun x hx => hv x (by simp [hx]))]
    simp [List.append_assoc]

/-- new stable memory: a literal -/
theorem InvE.newLit {t : S} {a : Act} {E : En} (hi : InvE A t a E) {us : Array Value} {ty : TypeId} :
    ∃ E' : En, E'.w = E.w.alloc (.cells us ty) ∧ ExtA E E' ∧ InvE A t a E' ∧ (∀ j, j < us.size → E'.St E.w.heap.size j) := by
  let E' : En := { E with w := E.w.alloc (.cells us ty), St := fun b o => E.St b o ∨ (b = E.w.heap.size ∧ o < us.size) }
  have hold : ∀ b, b < E.w.heap.size → E'.w.heap[b]? = E.w.heap[b]? := fun b hb => heap_alloc_old E.w _ b hb
  have x : ExtA E E' := ⟨fun _ _ h => .inl h, fun b o hst => World.cell?_of_block (hold b (hi.h.stsz b o hst)), fun _ _ _ h => h, fun _ _ h => h, fun _ _ h => h, fun _ _ c u _ hu => ⟨c, u, hu, Nat.le_refl _, fun _ => rfl⟩⟩
  have hH : HInv E' t := hi.h.more x rfl rfl (by simp [E']) hold (fun b o hst => hst.imp (fun h => h) fun ⟨h1, h2⟩ => ⟨by simp [E', h1], fun p hp => by
    have := hi.h.size p b hp; omega⟩)
  exact ⟨E', rfl, x, hi.step hH x (hi.fr.next rfl rfl rfl (by simp [E']) (fun b hb _ _ => hold b (Nat.lt_of_lt_of_le hb hi.fr.size)) (fun _ => rfl) (fun _ _ h => .inl h) (fun _ _ h => .inl h) (fun b o h => h.imp (fun h => h) fun ⟨h1, _⟩ => .inl (by have := hi.fr.size; omega))) (fun _ => rfl),
    fun j hj => .inr ⟨rfl, hj⟩⟩

theorem flat_get {k : Nat} : ∀ {vs : List TV} (_ : ∀ v ∈ vs, v.cells.length = k) {i : Nat} {v : TV} (_ : vs[i]? = some v) {j : Nat} {tv : TV} (_ : v.cells[j]? = some tv), (vs.flatMap TV.cells)[i * k + j]? = some tv
  | [], _, _, _, h, _, _, _ => by simp at h
  | w :: vs, hk, 0, v, h, j, tv, hj => by
    simp at h; subst h
    rw [List.flatMap_cons, List.getElem?_append_left (by simp; exact (List.getElem?_eq_some_iff.1 hj).1)]
    simpa using hj
  | w :: vs, hk, i + 1, v, h, j, tv, hj => by
    have := flat_get (vs := vs) (fun v hv => hk v (by simp [hv])) (i := i) (by simpa using h) hj
    have hw : w.cells.length = k := hk w (by simp)
    rw [List.flatMap_cons, List.getElem?_append_right (by rw [hw, Nat.add_mul]; omega), hw, Nat.add_mul, Nat.one_mul, show i * k + k + j - k = i * k + j by omega]
    exact this

theorem toDs_flat {vs : List TV} {xss : List (List D)} (h : toDss (vs.map TV.cells) = some xss) {k : Nat} (hk : ∀ v ∈ vs, v.cells.length = k) {i : Nat} {e : List D} (he : xss[i]? = some e) {j : Nat} {x : D} (hx : e[j]? = some x) :
    ∃ tv, (vs.flatMap TV.cells)[i * k + j]? = some tv ∧ toD tv = some x := by
  obtain ⟨hL, hg⟩ := toDss_get h
  obtain ⟨cs, h1, h2⟩ := hg i e he
  obtain ⟨h3, h4⟩ := toDs_get h2
  obtain ⟨tv, h5, h6⟩ := h4 j x hx
  simp only [List.getElem?_map, Option.map_eq_some_iff] at h1
  obtain ⟨v, h7, rfl⟩ := h1
  exact ⟨tv, flat_get hk h7 h5, h6⟩

theorem run_buildSlice {ty e k : Nat} {z : Value} (he : slE P ty = some e) (hk : szO P e = some k) (hz : zrO P e = some z) {vs : List TV} {us : List Value} {E : En} (hr : RelVs E vs us) (hl : ∀ v ∈ vs, v.cells.length = k) (h1 : ∀ v ∈ vs, ∀ c ∈ v.cells, c.one = true)
    (hsmall : vs.length * k ≤ 16777216) :
    ∃ ru : Array Value, (Instr.buildSlice ty vs.length ((us.zipIdx.map fun x => (x.2, x.1)).toArray)).run P E.w = .ok (.slice (some ⟨E.w.heap.size, 0, none⟩) vs.length vs.length) (E.w.alloc (.cells ru e)) ∧
      ru.size = vs.length * k ∧ RelVs E (vs.flatMap TV.cells) ru.toList := by
  unfold slE at he
  split at he
  rotate_left
  · simp at he
  rename_i e' hu
  simp only [Option.some.injEq] at he; subst he
  unfold szO at hk; unfold zrO at hz
  cases hinf : P.info? e' with
  | none => simp [hinf] at hk
  | some inf =>
  simp only [hinf, Option.map_some, Option.some.injEq, Option.bind_some] at hk hz
  have hfill := fillT_seq vs 0 [] (by simp) hl
  simp only [List.nil_append] at hfill
  -- the cells to begin with
  have hbase : ∀ b : Array Value, b.size = vs.length * k → RelVs E (List.replicate (vs.length * k) .junk) b.toList := fun b hb =>
    RelVs.of_get (by simp [hb]) fun i t u ht _ => by
      simp [List.getElem?_replicate] at ht
      obtain ⟨_, rfl⟩ := ht
      simp only [RelV]
  have go : ∀ b : Array Value, b.size = vs.length * k → ∃ ru, Instr.fill (fun i => some (i * k, k)) b (us.zipIdx.map fun x => (x.2, x.1)) = some ru ∧ RelVs E (vs.flatMap TV.cells) ru.toList := fun b hb => by
    refine fill_rel (qs := us.zipIdx.map fun x => (x.2, x.1)) hfill (fun p hp c hc => ?_) (hbase b hb) (by simp [hr.length]) (fun i p q hp hq => ?_)
    · simp only [List.mem_map] at hp
      obtain ⟨x, hx, rfl⟩ := hp
      exact h1 x.1 (by
        have := List.mem_zipIdx hx
        exact List.fst_mem_of_mem_zipIdx hx) c hc
    · simp only [List.getElem?_map, List.getElem?_zipIdx, Option.map_eq_some_iff, Nat.zero_add] at hp hq
      obtain ⟨x, ⟨v, h2, rfl⟩, rfl⟩ := hp
      obtain ⟨y, ⟨u, h3, rfl⟩, rfl⟩ := hq
      refine ⟨rfl, ?_⟩
      obtain ⟨u', h4, h5⟩ := hr.get h2
      rw [h3] at h4; simp only [Option.some.injEq] at h4; subst h4
      exact h5
  have hlenflat : (vs.flatMap TV.cells).length = vs.length * k := by
    clear hfill hbase go hr hsmall h1
    induction vs with
    | nil => simp
    | cons v vs ih => simp [hl v (by simp), ih (fun x hx => hl x (by simp [hx])), Nat.add_mul]; omega
  have hns : ¬ (16777216 < vs.length * k) := by omega
  by_cases h0 : vs.length * k = 0
  · obtain ⟨ru, h2, h3⟩ := go ((Array.range (vs.length * k)).map ((#[] : Array Value)[· % (#[] : Array Value).size]!)) (by simp)
    refine ⟨ru, ?_, by have := h3.length; rw [hlenflat] at this; simpa using this, h3⟩
    simp only [Instr.buildSlice, Sem.run_bind, run_underlying hu, Result.andThen_ok, sizeOf, typeInfo, run_program, hinf, Sem.run_pure, hk, gt_iff_lt, Nat.reducePow, hns, if_false, if_pos h0, newRow, run_newObj, h2, pure_bind]
    rfl
  · obtain ⟨ru, h2, h3⟩ := go ((Array.range (vs.length * k)).map (z.cells[· % z.cells.size]!)) (by simp)
    refine ⟨ru, ?_, by have := h3.length; rw [hlenflat] at this; simpa using this, h3⟩
    simp only [Instr.buildSlice, Sem.run_bind, run_underlying hu, Result.andThen_ok, sizeOf, typeInfo, run_program, hinf, Sem.run_pure, hk, gt_iff_lt, Nat.reducePow, hns, if_false, h0, zeroValue, hz, newRow, run_newObj, h2, pure_bind]
    rfl

def seqParts (ps : List (Nat × Operand)) (n : Nat) : Bool := (ps.map (·.1)) == List.range n

theorem parts_zip {α : Type} (f : Operand → α) : ∀ (ps : List (Nat × Operand)) (i : Nat), ps.map (·.1) = List.range' i ps.length → (ps.map fun x => (x.1, f x.2)) = ((ps.map fun x => f x.2).zipIdx i).map fun x => (x.2, x.1)
  | [], _, _ => rfl
  | p :: ps, i, h => by
    simp only [List.map_cons, List.length_cons, List.range'_succ, List.cons.injEq] at h
    simp only [List.map_cons, List.zipIdx_cons, List.cons.injEq]
    exact ⟨by rw [h.1], parts_zip f ps (i + 1) h.2⟩

/-- []T{..}: plain data -/
theorem eff_buildSlice {o : Oper} {t : S} {ty e k n : Nat} {ps : List (Nat × Operand)} {z : Value} {xss : List (List D)} (ho : o.op = .buildSlice ty n ps.toArray) (he : slE P ty = some e) (hk : szO P e = some k) (hz : zrO P e = some z)
    (hseq : seqParts ps n = true) (hx : toDss (ps.map fun x => (ev t x.2).cells) = some xss) :
    EffOK P A o t ⟨(∀ e ∈ ps.map (fun x => (ev t x.2).cells), e.length = k ∧ ∀ c ∈ e, c.one = true) ∧ n * k ≤ 16777216, ps.flatMap (fun x => pl x.2), [], .d (.sl xss)⟩ := fun ⟨hC, hsm⟩ t' hr a E hi => by
  have hseq' : ps.map (·.1) = List.range n := by simpa [seqParts] using hseq
  have hn : ps.length = n := by have := congrArg List.length hseq'; simpa using this
  rw [List.range_eq_range', ← hn] at hseq'
  have hev : (ps.map fun x => ev t' x.2) = ps.map fun x => ev t x.2 := by
    have := parts_eq hr
    exact List.map_congr_left fun x hx => by
      refine ev_eq fun p hp => hr p (List.mem_flatMap.2 ⟨x, hx, hp⟩)
  let vs := ps.map fun x => ev t x.2
  let us := ps.map fun x => a.eval x.2
  have hrel : RelVs E vs us := by
    have := evs_rel hi (ps.map (·.2))
    simp only [List.map_map] at this
    have h2 : (List.map (ev t' ∘ fun x => x.2) ps) = vs := hev
    rw [h2] at this
    exact this
  have hCm : ∀ v ∈ vs, v.cells.length = k ∧ ∀ c ∈ v.cells, c.one = true := fun v hv => by
    simp only [vs, List.mem_map] at hv
    obtain ⟨x, hx, rfl⟩ := hv
    exact hC _ (List.mem_map.2 ⟨x, hx, rfl⟩)
  have hvl : vs.length = n := by simp [vs, hn]
  obtain ⟨ru, hrun, hsz, hrel2⟩ := run_buildSlice (P := P) he hk hz hrel (fun v hv => (hCm v hv).1) (fun v hv => (hCm v hv).2) (by rw [hvl]; exact hsm)
  obtain ⟨E', hw, x, hinv, hst⟩ := hi.newLit (us := ru) (ty := e)
  have hxx : toDss (vs.map TV.cells) = some xss := by
    rw [← hx]; simp [vs, Function.comp_def]
  obtain ⟨hxl, hxg⟩ := toDss_get hxx
  refine ⟨_, .slice (some ⟨E.w.heap.size, 0, none⟩) n n, E', ?_, .inl rfl, hinv, ?_⟩
  · have hz2 := parts_zip (fun x => a.eval x) ps 0 hseq'
    simp only [execOp, ho, List.map_toArray, hz2, Sem.run_bind, hw]
    rw [← hvl, hrun]
    rfl
  · simp only [RelV, Rep]
    refine .inr ⟨E.w.heap.size, 0, n, k, by rw [hxl]; simp [hvl], by rw [hxl]; simp [hvl], RepRows.of_get fun i el hel => ?_⟩
    have hil : i < n := by have := (List.getElem?_eq_some_iff.1 hel).1; rw [hxl] at this; simpa [hvl] using this
    have hmul : i * k + k ≤ n * k := by
      have : (i + 1) * k ≤ n * k := Nat.mul_le_mul_right k hil
      rwa [Nat.add_mul, Nat.one_mul] at this
    have hek : el.length = k := by
      obtain ⟨cs, h1, h2⟩ := hxg i el hel
      rw [(toDs_get h2).1]
      simp only [List.getElem?_map, Option.map_eq_some_iff] at h1
      obtain ⟨v, h3, rfl⟩ := h1
      exact (hCm v (List.mem_of_getElem? h3)).1
    refine ⟨hek, RepCells.of_get fun j xx hj => ?_⟩
    have hjk : j < k := by rw [← hek]; exact (List.getElem?_eq_some_iff.1 hj).1
    obtain ⟨tv, h4, h5⟩ := toDs_flat hxx (fun v hv => (hCm v hv).1) hel hj
    obtain ⟨u, h6, h7⟩ := hrel2.get h4
    refine ⟨hst _ (by rw [hsz, hvl]; omega), u, ?_, (toD_rel h5 h7).up x⟩
    rw [hw, cell_heap (heap_alloc_new E.w _)]
    simpa using h6

end
end Go.Tr

set_option linter.unusedSimpArgs false
namespace Go.Tr
open Go

section
variable {P : Program} {A : Actv}

theorem EffOK.of {o : Oper} {t : S} {C : Prop} {rp : List Pl} {W : List (Pl × It)} {v : TV} (h : C → EffOK P A o t ⟨True, rp, W, v⟩) : EffOK P A o t ⟨C, rp, W, v⟩ := fun hC => h hC trivial

def asInt? : TV → Option (IntKind × Int)
  | .d (.int k n) => some (k, n)
  | _ => none

/-- bounds of a cut -/
def cutB (n : Nat) (lo hi : Option TV) : Option (Prop × Nat × Nat) :=
  match hi with
  | none => match lo with
    | none => some (True, 0, n)
    | some l => match asInt? l with
      | some (_, l) => some (0 ≤ l ∧ l ≤ n, l.toNat, n)
      | none => none
  | some h => match asInt? h with
    | none => none
    | some (_, h) => match lo with
      | none => some (0 ≤ h ∧ h ≤ n, 0, h.toNat)
      | some l => match asInt? l with
        | some (_, l) => some ((0 ≤ h ∧ h ≤ n) ∧ 0 ≤ l ∧ l ≤ h, l.toNat, h.toNat)
        | none => none

theorem asInt_rel {E : En} {v : TV} {u : Value} {k : IntKind} {n : Int} (h : asInt? v = some (k, n)) (hr : RelV E v u) : u = .int k n := by
  unfold asInt? at h
  split at h
  · simp only [Option.some.injEq, Prod.mk.injEq] at h
    obtain ⟨rfl, rfl⟩ := h
    simpa only [RelV, Rep] using hr
  · simp at h

theorem run_sliceBounds_eq {isS : Bool} {n cap : Nat} {lo hi : Option TV} {C : Prop} {l h : Nat} (hc : cutB n lo hi = some (C, l, h)) (hC : C) (hn : n ≤ cap) {E : En} {ulo uhi : Option Value}
    (h1 : ∀ v, lo = some v → ∃ u, ulo = some u ∧ RelV E v u) (h1' : lo = none → ulo = none) (h2 : ∀ v, hi = some v → ∃ u, uhi = some u ∧ RelV E v u) (h2' : hi = none → uhi = none) (w : World) :
    (Instr.sliceBounds isS n cap ulo uhi none).run P w = .ok (l, h, cap) w ∧ l ≤ h ∧ h ≤ n := by
  unfold cutB at hc
  split at hc
  · rw [h2' rfl]
    split at hc
    · simp only [Option.some.injEq, Prod.mk.injEq] at hc
      obtain ⟨_, rfl, rfl⟩ := hc
      rw [h1' rfl]
      exact ⟨by simp [Instr.sliceBounds], by omega, by omega⟩
    · rename_i lv
      split at hc
      · rename_i k q hq
        simp only [Option.some.injEq, Prod.mk.injEq] at hc
        obtain ⟨rfl, rfl, rfl⟩ := hc
        obtain ⟨u, hu, hr⟩ := h1 _ rfl
        have := asInt_rel hq hr
        subst this
        rw [hu]
        exact ⟨by simp [Instr.sliceBounds, Instr.sliceBound, asIntOf, hC.1, hC.2], by omega, by omega⟩
      · simp at hc
  · rename_i hv
    obtain ⟨uh, huh, hrh⟩ := h2 _ rfl
    rw [huh]
    split at hc
    · simp at hc
    · rename_i k q hq
      have := asInt_rel hq hrh
      subst this
      split at hc
      · simp only [Option.some.injEq, Prod.mk.injEq] at hc
        obtain ⟨rfl, rfl, rfl⟩ := hc
        rw [h1' rfl]
        have : q ≤ (cap : Int) := by omega
        exact ⟨by simp [Instr.sliceBounds, Instr.sliceBound, asIntOf, hC.1, this], by omega, by omega⟩
      · rename_i lv
        split at hc
        · rename_i k' q' hq'
          simp only [Option.some.injEq, Prod.mk.injEq] at hc
          obtain ⟨rfl, rfl, rfl⟩ := hc
          obtain ⟨u, hu, hr⟩ := h1 _ rfl
          have := asInt_rel hq' hr
          subst this
          rw [hu]
          have h3 : q ≤ (cap : Int) := by omega
          have h4 : q' ≤ ((q.toNat : Nat) : Int) := by omega
          exact ⟨by simp only [Instr.sliceBounds, Instr.sliceBound, asIntOf, Sem.run_bind, Sem.run_pure, Result.andThen_ok, Sem.run_ite, hC.1.1, h3, hC.2.1, h4, and_self, if_true, pure_bind], by omega, by omega⟩
        · simp at hc

theorem opt_rel {t : S} {a : Act} {E : En} (hi : InvE A t a E) (x : Option Operand) : (∀ v, x.map (ev t) = some v → ∃ u, x.map a.eval = some u ∧ RelV E v u) ∧ (x.map (ev t) = none → x.map a.eval = none) := by
  cases x with
  | none => simp
  | some x => simp; exact ev_rel hi x

def plO : Option Operand → List Pl
  | some x => pl x
  | none => []

theorem evO_eq {t t' : S} {x : Option Operand} (h : ∀ p ∈ plO x, t' p = t p) : x.map (ev t') = x.map (ev t) := by
  cases x with
  | none => rfl
  | some x => simp [ev_eq h]

/-- s[lo:hi] of plain data: plain data -/
theorem eff_slice_sl {o : Oper} {t : S} {ty e k : Nat} {x : Operand} {lo hi : Option Operand} {xs : List (List D)} {C : Prop} {l h : Nat} (ho : o.op = .slice ty x lo hi none) (he : slE P ty = some e) (hk : szO P e = some k) (hx : ev t x = .d (.sl xs))
    (hc : cutB xs.length (lo.map (ev t)) (hi.map (ev t)) = some (C, l, h)) : EffOK P A o t ⟨C ∧ ∀ e ∈ xs, e.length = k, pl x ++ (plO lo ++ plO hi), [], .d (.sl ((xs.take h).drop l))⟩ :=
  .pure fun ⟨hC, hlen⟩ t' hr a E hin => by
    have hx' := ev_rel hin x
    rw [ev_eq (pl_left hr), hx] at hx'
    have hlo := opt_rel hin lo
    rw [evO_eq (pl_left (pl_right hr))] at hlo
    have hhi := opt_rel hin hi
    rw [evO_eq (pl_right (pl_right hr))] at hhi
    unfold slE at he
    split at he
    rotate_left
    · simp at he
    rename_i e' hu
    simp only [Option.some.injEq] at he; subst he
    unfold szO at hk
    cases hinf : P.info? e' with
    | none => simp [hinf] at hk
    | some inf =>
    simp only [hinf, Option.map_some, Option.some.injEq] at hk
    simp only [RelV, Rep] at hx'
    rcases hx' with ⟨h0, ad, c, hux⟩ | ⟨b, of, c, k', hux, hcc, hrows⟩
    · rw [h0] at hc
      obtain ⟨hb, hlh, hhn⟩ := run_sliceBounds_eq (P := P) (isS := true) (cap := c) hc hC (Nat.zero_le _) hlo.1 hlo.2 hhi.1 hhi.2 E.w
      have hl0 : l = 0 := by omega
      have hh0 : h = 0 := by omega
      subst hl0; subst hh0
      refine ⟨.slice (if c = 0 then ad else ad.map (·.add (0 * k))) 0 c, ?_, ?_⟩
      · simp only [execOp, ho, Instr.sliceAt, Sem.run_bind, run_underlying hu, Result.andThen_ok, hux, Option.map_none, Instr.slice, hb, sizeOf, typeInfo, run_program, hinf, Sem.run_pure, hk, Nat.sub_zero]
      · simp only [RelV, Rep]
        exact .inl ⟨by simp, _, _, rfl⟩
    · obtain ⟨hb, hlh, hhn⟩ := run_sliceBounds_eq (P := P) (isS := true) (cap := c) hc hC hcc hlo.1 hlo.2 hhi.1 hhi.2 E.w
      refine ⟨.slice (if c = l then some ⟨b, of, none⟩ else some ⟨b, of + l * k, none⟩) (h - l) (c - l), ?_, ?_⟩
      · simp only [execOp, ho, Instr.sliceAt, Sem.run_bind, run_underlying hu, Result.andThen_ok, hux, Option.map_none, Instr.slice, hb, sizeOf, typeInfo, run_program, hinf, Sem.run_pure, hk, Option.map_some, add_lit']
      · have hln : ((xs.take h).drop l).length = h - l := by simp; omega
        simp only [RelV, Rep]
        by_cases hz : h - l = 0
        · exact .inl ⟨by omega, _, _, by rw [hz]⟩
        · refine .inr ⟨b, of + l * k, c - l, k, ?_, by omega, RepRows.of_get fun i el hel => ?_⟩
          · rw [if_neg (by omega), hln]
          · have hel' : xs[l + i]? = some el := by
              rw [List.getElem?_drop, List.getElem?_take] at hel
              split at hel
              · exact hel
              · simp at hel
            obtain ⟨h3, h4⟩ := hrows.get hel'
            have hkk : el.length = k := hlen el (List.mem_of_getElem? hel')
            have : k' = k := by omega
            subst this
            refine ⟨h3, ?_⟩
            rwa [Nat.add_mul, ← Nat.add_assoc] at h4

theorem eff_slice_str {o : Oper} {t : S} {ty : Nat} {x : Operand} {lo hi : Option Operand} {s : ByteArray} {C : Prop} {l h : Nat} (ho : o.op = .slice ty x lo hi none) (he : isStr P ty = true) (hx : ev t x = .d (.str s))
    (hc : cutB s.size (lo.map (ev t)) (hi.map (ev t)) = some (C, l, h)) : EffOK P A o t ⟨C, pl x ++ (plO lo ++ plO hi), [], .d (.str (s.extract l h))⟩ :=
  .pure fun hC t' hr a E hin => by
    have hx' := ev_rel hin x
    rw [ev_eq (pl_left hr), hx] at hx'
    have hlo := opt_rel hin lo
    rw [evO_eq (pl_left (pl_right hr))] at hlo
    have hhi := opt_rel hin hi
    rw [evO_eq (pl_right (pl_right hr))] at hhi
    unfold isStr at he
    split at he
    · rename_i hu
      simp only [RelV, Rep] at hx'
      obtain ⟨hb, hlh, hhn⟩ := run_sliceBounds_eq (P := P) (isS := false) (cap := s.size) hc hC (Nat.le_refl _) hlo.1 hlo.2 hhi.1 hhi.2 E.w
      refine ⟨.string (s.extract l h), ?_, by simp only [RelV, Rep]⟩
      simp only [execOp, ho, Instr.sliceAt, Sem.run_bind, run_underlying hu, Result.andThen_ok, hx', Option.map_none, Instr.slice, Option.isSome_none, Bool.false_eq_true, if_false, hb, Sem.run_pure, pure_bind]
    · simp at he

/-! ### min, max -/
def minI (k : IntKind) (a b : Int) : TV := .d (.int k (if b < a then b else a))
def maxI (k : IntKind) (a b : Int) : TV := .d (.int k (if b > a then b else a))

theorem eff_min {o : Oper} {t : S} {x y : Operand} {tys : Array TypeId} {k k' : IntKind} {a b : Int} (ho : o.op = .call { callee := .builtin .min, args := #[x, y], argTypes := tys }) (hx : ev t x = .d (.int k a)) (hy : ev t y = .d (.int k' b)) :
    EffOK P A o t ⟨True, pl x ++ pl y, [], minI k a b⟩ :=
  .pure fun _ t' hr ac E hi => by
    have hx' := ev_rel hi x
    rw [ev_eq (pl_left hr), hx] at hx'
    have hy' := ev_rel hi y
    rw [ev_eq (pl_right hr), hy] at hy'
    simp only [RelV, Rep] at hx' hy'
    refine ⟨.int k (if b < a then b else a), ?_, by simp only [minI, RelV, Rep]⟩
    simp [execOp, ho, resolve, invoke, builtin, Builtin.min_, hx', hy', Builtin.min2]

theorem eff_max {o : Oper} {t : S} {x y : Operand} {tys : Array TypeId} {k k' : IntKind} {a b : Int} (ho : o.op = .call { callee := .builtin .max, args := #[x, y], argTypes := tys }) (hx : ev t x = .d (.int k a)) (hy : ev t y = .d (.int k' b)) :
    EffOK P A o t ⟨True, pl x ++ pl y, [], maxI k a b⟩ :=
  .pure fun _ t' hr ac E hi => by
    have hx' := ev_rel hi x
    rw [ev_eq (pl_left hr), hx] at hx'
    have hy' := ev_rel hi y
    rw [ev_eq (pl_right hr), hy] at hy'
    simp only [RelV, Rep] at hx' hy'
    refine ⟨.int k (if b > a then b else a), ?_, by simp only [maxI, RelV, Rep]⟩
    simp [execOp, ho, resolve, invoke, builtin, Builtin.max_, hx', hy', Builtin.max2]

/-! ### a field of a struct in a slot, an element of an array in a slot, a byte of a string -/
theorem run_part_one {ty : TypeId} (h : shp P ty = some false) {cs : Array Value} {q : Nat} {u : Value} (hc : cs[q]? = some u) (w : World) : (part ty cs q).run P w = .ok u w := by
  unfold shp at h
  cases hu : P.underlying ty with
  | none => simp [hu] at h
  | some d =>
    have : (isAgg ty).run P w = .ok false w := by
      unfold isAgg
      rw [Sem.run_bind, run_underlying hu w]
      cases d <;> simp_all
    simp [part, this, hc]

theorem run_part_agg {ty z : Nat} (h : shp P ty = some true) (hz : szO P ty = some z) {cs : Array Value} {q : Nat} (w : World) : (part ty cs q).run P w = .ok (.agg (cs.extract q (q + z))) w := by
  unfold shp at h
  cases hu : P.underlying ty with
  | none => simp [hu] at h
  | some d =>
    have : (isAgg ty).run P w = .ok true w := by
      unfold isAgg
      rw [Sem.run_bind, run_underlying hu w]
      cases d <;> simp_all
    unfold szO at hz
    cases hinf : P.info? ty with
    | none => simp [hinf] at hz
    | some inf =>
      simp only [hinf, Option.map_some, Option.some.injEq] at hz
      simp [part, this, sizeOf, typeInfo, hinf, hz]

/-- a part of the cells of a value -/
def partT (P : Program) (ty : TypeId) (vs : List TV) (q : Nat) : Option TV :=
  match shp P ty with
  | some false => vs[q]?
  | some true => match szO P ty with
    | some z => some (.agg ((vs.drop q).take z))
    | none => none
  | none => none

theorem RelVs.sub {E : En} {ts : List TV} {us : List Value} (h : RelVs E ts us) (q z : Nat) : RelVs E ((ts.drop q).take z) ((us.drop q).take z) :=
  RelVs.of_get (by simp [h.length]) fun i t u ht hu => by
    rw [List.getElem?_take] at ht hu
    split at ht
    · rename_i hi
      rw [if_pos hi, List.getElem?_drop] at hu
      rw [List.getElem?_drop] at ht
      obtain ⟨u', h1, h2⟩ := h.get ht
      rw [hu] at h1; simp only [Option.some.injEq] at h1; rw [h1]; exact h2
    · simp at ht

theorem partT_rel {ty : TypeId} {vs : List TV} {q : Nat} {v : TV} (h : partT P ty vs q = some v) {E : En} {us : Array Value} (hr : RelVs E vs us.toList) : ∃ u, (part ty us q).run P E.w = .ok u E.w ∧ RelV E v u := by
  unfold partT at h
  split at h
  · rename_i hs
    obtain ⟨u, h1, h2⟩ := hr.get h
    exact ⟨u, run_part_one hs (by simpa using h1) _, h2⟩
  · rename_i hs
    split at h
    · rename_i z hz
      simp only [Option.some.injEq] at h; subst h
      refine ⟨_, run_part_agg hs hz _, ?_⟩
      simp only [RelV]
      refine ⟨_, rfl, ?_⟩
      have := hr.sub q z
      rw [Array.toList_extract, List.extract_eq_take_drop, show q + z - q = z by omega]
      exact this
    · simp at h
  · simp at h

theorem eff_field {o : Oper} {t : S} {ty f off : Nat} {ft : TypeId} {x : Operand} {vs : List TV} {v : TV} (ho : o.op = .field ty x f) (hf : fld P ty f = some (off, ft)) (hx : ev t x = .agg vs) (hv : partT P ft vs off = some v) :
    EffOK P A o t ⟨True, pl x, [], v⟩ :=
  .pure fun _ t' hr a E hi => by
    have hx' := ev_rel hi x
    rw [ev_eq hr, hx] at hx'
    simp only [RelV] at hx'
    obtain ⟨us, hu, hrs⟩ := hx'
    obtain ⟨u, h1, h2⟩ := partT_rel hv hrs
    refine ⟨u, ?_, h2⟩
    unfold fld at hf
    split at hf
    · rename_i fs hfs
      cases hff : fs[f]? with
      | none => simp [hff] at hf
      | some g =>
        simp only [hff, Option.map_some, Option.some.injEq, Prod.mk.injEq] at hf
        obtain ⟨rfl, rfl⟩ := hf
        simp [execOp, ho, hu, Instr.field, run_underlying hfs, hff, asAgg, h1]
    · simp at hf

theorem eff_index_arr {o : Oper} {t : S} {ty n e k : Nat} {x ix : Operand} {vs : List TV} {v : TV} {ik : IntKind} {i : Int} (ho : o.op = .index ty x ix) (he : arE P ty = some (n, e)) (hk : szO P e = some k) (hx : ev t x = .agg vs) (hix : ev t ix = .d (.int ik i))
    (hv : partT P e vs (i.toNat * k) = some v) : EffOK P A o t ⟨0 ≤ i ∧ i < n, pl x ++ pl ix, [], v⟩ :=
  .pure fun ⟨h0, h1⟩ t' hr a E hi => by
    have hx' := ev_rel hi x
    rw [ev_eq (pl_left hr), hx] at hx'
    have hix' := ev_rel hi ix
    rw [ev_eq (pl_right hr), hix] at hix'
    simp only [RelV, Rep] at hx' hix'
    obtain ⟨us, hu, hrs⟩ := hx'
    obtain ⟨u, h2, h3⟩ := partT_rel hv hrs
    refine ⟨u, ?_, h3⟩
    unfold arE at he
    split at he
    · rename_i n' e' hun
      simp only [Option.some.injEq, Prod.mk.injEq] at he
      obtain ⟨rfl, rfl⟩ := he
      unfold szO at hk
      cases hinf : P.info? e' with
      | none => simp [hinf] at hk
      | some inf =>
        simp only [hinf, Option.map_some, Option.some.injEq] at hk
        simp [execOp, ho, hu, hix', Instr.index, asIntOf, run_underlying hun, h0, h1, sizeOf, typeInfo, hinf, hk, h2]
    · simp at he

theorem eff_index_str {o : Oper} {t : S} {ty : Nat} {x ix : Operand} {s : ByteArray} {ik : IntKind} {i : Int} (ho : o.op = .index ty x ix) (he : isStr P ty = true) (hx : ev t x = .d (.str s)) (hix : ev t ix = .d (.int ik i)) :
    EffOK P A o t ⟨0 ≤ i ∧ i < s.size, pl x ++ pl ix, [], .d (.int .u8 (s.data.getD i.toNat 0).toNat)⟩ :=
  .pure fun ⟨h0, h1⟩ t' hr a E hi => by
    have hx' := ev_rel hi x
    rw [ev_eq (pl_left hr), hx] at hx'
    have hix' := ev_rel hi ix
    rw [ev_eq (pl_right hr), hix] at hix'
    simp only [RelV, Rep] at hx' hix'
    unfold isStr at he
    split at he
    · rename_i hu
      have hlt : i.toNat < s.size := by omega
      refine ⟨.int .u8 (s[i.toNat]).toNat, ?_, ?_⟩
      · simp [execOp, ho, hx', hix', Instr.index, asIntOf, run_underlying hu, h0, hlt]
      · simp only [RelV, Rep]
        have hlt' : i.toNat < s.data.size := hlt
        simp [Array.getD, hlt', hlt, ByteArray.getElem_eq_getElem_data]
    · simp at he

end
end Go.Tr

set_option linter.unusedSimpArgs false
namespace Go.Tr
open Go

/-! ### bytes to a string -/
def u8s : List (List D) → Option (List Int)
  | [] => some []
  | [.int .u8 n] :: l => match u8s l with
    | some ns => some (n :: ns)
    | none => none
  | _ => none

def strOf (ns : List Int) : ByteArray := ns.foldl (fun r n => r.push (UInt8.ofNat n.toNat)) ByteArray.empty

def u8K (P : Program) (ty : TypeId) : Bool :=
  match P.underlying ty with
  | some (.int .u8) => true
  | _ => false

section
variable {P : Program} {A : Actv}

theorem u8s_cells {E : En} {b k : Nat} : ∀ {xs : List (List D)} {ns : List Int} {o : Nat}, u8s xs = some ns → RepRows E b k o xs → xs.length = ns.length ∧ ∀ j n, ns[j]? = some n → E.w.cell? ⟨b, o + j, none⟩ = some (.int .u8 n)
  | [], ns, o, h, _ => by simp only [u8s, Option.some.injEq] at h; subst h; simp
  | e :: l, ns, o, h, hr => by
    unfold u8s at h
    split at h
    · simp at *
    · rename_i n l' heq
      simp only [List.cons.injEq] at heq
      obtain ⟨rfl, rfl⟩ := heq
      split at h
      · rename_i ns' h'
        simp only [Option.some.injEq] at h; subst h
        simp only [RepRows] at hr
        obtain ⟨h1, h2, h3⟩ := hr
        simp only [List.length_cons, List.length_nil, Nat.zero_add] at h1
        subst h1
        obtain ⟨g1, g2⟩ := u8s_cells h' h3
        refine ⟨by simp [g1], fun j m hj => ?_⟩
        cases j with
        | zero =>
          simp only [List.getElem?_cons_zero, Option.some.injEq] at hj; subst hj
          simp only [RepCells] at h2
          obtain ⟨⟨_, u, h4, h5⟩, _⟩ := h2
          simp only [Rep] at h5; subst h5
          simpa using h4
        | succ j =>
          simp only [List.getElem?_cons_succ] at hj
          have := g2 j m hj
          rwa [show o + 1 + j = o + (j + 1) by omega] at this
      · simp at h
    · simp at h

theorem eff_convS {o : Oper} {t : S} {sr ds e : TypeId} {x : Operand} {xs : List (List D)} {ns : List Int} (ho : o.op = .convert sr ds x) (hs : slE P sr = some e) (he : u8K P e = true) (hd : isStr P ds = true) (hx : ev t x = .d (.sl xs)) (hn : u8s xs = some ns) :
    EffOK P A o t ⟨True, pl x, [], .d (.str (strOf ns))⟩ :=
  .pure fun _ t' hr a E hi => by
    have hx' := ev_rel hi x
    rw [ev_eq hr, hx] at hx'
    unfold slE at hs
    split at hs
    rotate_left
    · simp at hs
    rename_i e' hu
    simp only [Option.some.injEq] at hs; subst hs
    unfold u8K at he
    split at he
    rotate_left
    · simp at he
    rename_i he'
    have hd' : P.underlying ds = some .string := by
      unfold isStr at hd
      split at hd
      · assumption
      · simp at hd
    refine ⟨.string (strOf ns), ?_, by simp only [RelV, Rep]⟩
    simp only [execOp, ho, Sem.run_bind]
    simp only [RelV, Rep] at hx'
    rcases hx' with ⟨h0, ad, c, hux⟩ | ⟨b, of, c, k', hux, hcc, hrows⟩
    · have hxs : xs = [] := List.eq_nil_of_length_eq_zero h0
      subst hxs
      simp only [u8s, Option.some.injEq] at hn; subst hn
      rw [hux, run_convert_bytes_string E.w sr ds e' ad 0 c hu he' hd']
      cases ad with
      | none => simp [Conv.bytesToString, strOf]
      | some a =>
        have hl := run_loadCells_list (P := P) E.w a [] (fun j v hj => by simp at hj)
        rw [run_bytesToString E.w a 0 c [] (by simpa using hl)]
        simp [strOf]
    · obtain ⟨h1, h2⟩ := u8s_cells hn hrows
      rw [hux, run_convert_bytes_string E.w sr ds e' _ _ c hu he' hd']
      have hl := run_loadCells_list (P := P) E.w ⟨b, of, none⟩ (ns.map (Value.int .u8)) (fun j v hj => by
        rw [List.getElem?_map] at hj
        cases hnj : ns[j]? with
        | none => simp [hnj] at hj
        | some n =>
          simp only [hnj, Option.map_some, Option.some.injEq] at hj
          subst hj
          rw [add_lit']
          exact h2 j n hnj)
      rw [List.length_map, ← h1] at hl
      rw [run_bytesToString E.w _ _ c ns hl]
      rfl

/-! ### equality of structures -/
def lf (P : Program) (ty : TypeId) : Option Nat :=
  match P.underlying ty with
  | some (.int _) => some 0
  | some .bool => some 1
  | some .string => some 2
  | _ => none

def eqFs (P : Program) (ty : TypeId) : Option (List (Nat × TypeId)) :=
  match P.underlying ty with
  | some (.struct fs) => if P.stoodInHeld ty = false ∧ (fs.toList.all fun f => f.name != "_") = true then some (fs.toList.map fun f => (f.offset, f.type)) else none
  | _ => none

def eqGd (P : Program) (ty : TypeId) : Bool := !P.eqGuardType P.depth ty

def eqL (g : Nat × TypeId → Option Bool) : List (Nat × TypeId) → Option Bool
  | [] => some true
  | f :: l => match g f, eqL g l with
    | some a, some b => some (a && b)
    | _, _ => none

def eqT (P : Program) : Nat → TypeId → TV → TV → Option Bool
  | 0, _, _, _ => none
  | d + 1, ty, x, y => match x, y with
    | .d (.int k a), .d (.int k' b) => if lf P ty = some 0 ∧ k = k' then some (a == b) else none
    | .d (.bool a), .d (.bool b) => if lf P ty = some 1 then some (a == b) else none
    | .d (.str a), .d (.str b) => if lf P ty = some 2 then some (a.toList == b.toList) else none
    | .agg vs, .agg ws => match eqFs P ty with
      | some fs => eqL (fun f => match partT P f.2 vs f.1, partT P f.2 ws f.1 with
        | some a, some b => eqT P d f.2 a b
        | _, _ => none) fs
      | none => none
    | _, _ => none

theorem lf_spec {ty : TypeId} : (lf P ty = some 0 → ∃ k, P.underlying ty = some (.int k)) ∧ (lf P ty = some 1 → P.underlying ty = some .bool) ∧ (lf P ty = some 2 → P.underlying ty = some .string) := by
  unfold lf
  split
  · rename_i k h; exact ⟨fun _ => ⟨k, h⟩, fun e => by simp at e, fun e => by simp at e⟩
  · rename_i h; exact ⟨fun e => by simp at e, fun _ => h, fun e => by simp at e⟩
  · rename_i h; exact ⟨fun e => by simp at e, fun e => by simp at e, fun _ => h⟩
  · exact ⟨fun e => by simp at e, fun e => by simp at e, fun e => by simp at e⟩

theorem eqT_ok : ∀ {d : Nat} {ty : TypeId} {x y : TV} {r : Bool}, eqT P d ty x y = some r → ∀ {E : En} {u u' : Value}, RelV E x u → RelV E y u' → ∀ D, d ≤ D → (Op.equalIn D ty u u').run P E.w = .ok r E.w
  | 0, _, _, _, _, h, _, _, _, _, _, _, _ => by simp [eqT] at h
  | d + 1, ty, x, y, r, h, E, u, u', hu, hu', D, hD => by
    obtain ⟨D, rfl⟩ : ∃ D', D = D' + 1 := ⟨D - 1, by omega⟩
    unfold eqT at h
    split at h
    · split at h
      · rename_i k a k' b hc
        simp only [Option.some.injEq] at h; subst h
        obtain ⟨h1, rfl⟩ := hc
        obtain ⟨q, hq⟩ := lf_spec.1 h1
        simp only [RelV, Rep] at hu hu'
        subst hu; subst hu'
        exact run_equalIn_int E.w D ty k q a b hq
      · simp at h
    · split at h
      · rename_i hc
        simp only [Option.some.injEq] at h; subst h
        simp only [RelV, Rep] at hu hu'
        subst hu; subst hu'
        exact run_equalIn_bool' E.w D ty _ _ (lf_spec.2.1 hc)
      · simp at h
    · split at h
      · rename_i hc
        simp only [Option.some.injEq] at h; subst h
        simp only [RelV, Rep] at hu hu'
        subst hu; subst hu'
        exact run_equalIn_string E.w D ty _ _ (lf_spec.2.2 hc)
      · simp at h
    · rename_i vs ws
      split at h
      · rename_i fs hfs
        simp only [RelV] at hu hu'
        obtain ⟨us, rfl, hus⟩ := hu
        obtain ⟨us', rfl, hus'⟩ := hu'
        unfold eqFs at hfs
        split at hfs
        · rename_i fs0 hund
          split at hfs
          · rename_i hc
            simp only [Option.some.injEq] at hfs; subst hfs
            have hfo : P.fieldsOf ty = fs0 := by simp [Program.fieldsOf, hund]
            rw [run_equalIn_agg E.w D ty us us' (by rw [hfo]; exact hund) hc.1, hfo]
            have hnm := hc.2
            clear hund hc hfo
            generalize fs0.toList = l at hnm h
            induction l generalizing r with
            | nil => simp only [List.map_nil, eqL, Option.some.injEq] at h; subst h; simp [Op.eqFields]
            | cons f l ih =>
              simp only [List.all_cons, Bool.and_eq_true, bne_iff_ne, ne_eq] at hnm
              simp only [List.map_cons, eqL] at h
              split at h
              · rename_i a b h1 h2
                simp only [Option.some.injEq] at h; subst h
                split at h1
                · rename_i p q hp hq
                  obtain ⟨v, g1, g2⟩ := partT_rel hp hus
                  obtain ⟨v', g3, g4⟩ := partT_rel hq hus'
                  have g5 := eqT_ok h1 g2 g4 D (by omega)
                  have g6 := ih _ hnm.2 h2
                  cases a
                  · simp [Op.eqFields, hnm.1, g1, g3, g5]
                  · simp [Op.eqFields, hnm.1, g1, g3, g5, g6]
                · simp at h1
              · simp at h
          · simp at hfs
        · simp at hfs
      · simp at h
    · simp at h

theorem eff_eqs {o : Oper} {t : S} {op : BinOp} {ty ty' : TypeId} {x y : Operand} {vs ws : List TV} {r : Bool} (ho : o.op = .binOp op ty x y ty') (hop : op = .eql ∨ op = .neq) (hg : eqGd P ty = true) (hx : ev t x = .agg vs) (hy : ev t y = .agg ws) (h : eqT P 4 ty (.agg vs) (.agg ws) = some r) :
    EffOK P A o t ⟨True, pl x ++ pl y, [], .d (.bool (if op = .eql then r else !r))⟩ :=
  .pure fun _ t' hr a E hi => by
    have hx' := ev_rel hi x
    rw [ev_eq (pl_left hr), hx] at hx'
    have hy' := ev_rel hi y
    rw [ev_eq (pl_right hr), hy] at hy'
    have hq := eqT_ok h hx' hy' 10000 (by omega)
    simp only [RelV] at hx' hy'
    obtain ⟨us, hux, hus⟩ := hx'
    obtain ⟨us', huy, hus'⟩ := hy'
    rw [hux, huy] at hq
    have hgd : P.eqGuardType P.depth ty = false := by simpa [eqGd] using hg
    rcases hop with rfl | rfl
    · refine ⟨.bool r, ?_, by simp only [if_true, RelV, Rep]⟩
      simp only [execOp, ho, Sem.run_bind, hux, huy, run_eqGuard_agg E.w _ ty x y us us' hgd, Result.andThen_ok, run_eql_struct, hq, Sem.run_pure]
    · refine ⟨.bool (!r), ?_, by simp [RelV, Rep]⟩
      simp only [execOp, ho, Sem.run_bind, hux, huy, run_eqGuard_agg E.w _ ty x y us us' hgd, Result.andThen_ok, run_neq_struct, hq, Sem.run_pure]
end
end Go.Tr

set_option linter.unusedSimpArgs false
namespace Go.Tr
open Go

/-! ### maps with integers as keys -/
def mget : List (Int × D) → Int → Option D
  | [], _ => none
  | (k', d) :: es, k => if k = k' then some d else mget es k
def mput : List (Int × D) → Int → D → List (Int × D)
  | [], k, d => [(k, d)]
  | (k', d') :: es, k, d => if k = k' then (k, d) :: es else (k', d') :: mput es k d

theorem find_rel {E : En} {k : Int} {kd : IntKind} : ∀ {es : List (Int × D)} {l : List MapEntry} {i : Nat}, MapRel E es l →
    (mget es k = none ∧ Instr.findNow (.int kd) (.int .i64 k) l i = some none ∧ ∀ d u born, u.oneCell' = true → Rep E d u → MapRel E (mput es k d) (l ++ [⟨.int .i64 k, u, born⟩])) ∨
    ∃ d j a, mget es k = some d ∧ Instr.findNow (.int kd) (.int .i64 k) l i = some (some (i + j, a.val)) ∧ l[j]? = some a ∧ a.key = .int .i64 k ∧ a.val.oneCell' = true ∧ Rep E d a.val ∧
      ∀ d' u, u.oneCell' = true → Rep E d' u → MapRel E (mput es k d') (l.modify j fun e => { e with key := .int .i64 k, val := u })
  | [], l, i, h => by
    simp only [MapRel] at h
    subst h
    exact .inl ⟨rfl, rfl, fun d u born h1 h2 => ⟨_, [], rfl, rfl, h1, h2, rfl⟩⟩
  | (k', d) :: es, l, i, h => by
    simp only [MapRel] at h
    obtain ⟨a, l', rfl, h1, h2, h3, h4⟩ := h
    by_cases e : k = k'
    · subst e
      refine .inr ⟨d, 0, a, by simp [mget], by simp [Instr.findNow, Instr.sameNow, h1], rfl, h1, h2, h3, fun d' u g1 g2 => ?_⟩
      simp only [mput, if_true, List.modify_zero_cons]
      exact ⟨_, l', rfl, rfl, g1, g2, h4⟩
    · have hne : (k == k') = false := by simpa using e
      rcases find_rel (k := k) (kd := kd) (i := i + 1) h4 with ⟨g1, g2, g3⟩ | ⟨d2, j, b, g1, g2, g3, g4, g5, g6, g7⟩
      · refine .inl ⟨by simp [mget, e, g1], by simp [Instr.findNow, Instr.sameNow, h1, hne, g2], fun d2 u born q1 q2 => ?_⟩
        simp only [mput, if_neg e]
        exact ⟨a, _, rfl, h1, h2, h3, g3 d2 u born q1 q2⟩
      · refine .inr ⟨d2, j + 1, b, by simp [mget, e, g1], ?_, by simpa using g3, g4, g5, g6, fun d' u q1 q2 => ?_⟩
        · simp [Instr.findNow, Instr.sameNow, h1, hne, g2]
          omega
        · simp only [mput, if_neg e, List.modify_succ_cons]
          exact ⟨a, _, rfl, h1, h2, h3, g7 d' u q1 q2⟩

theorem find_none {k : Int} {kd : IntKind} : ∀ {l : List MapEntry} {i : Nat}, Instr.findNow (.int kd) (.int .i64 k) l i = some none → ∀ x ∈ l, x.key ≠ .int .i64 k
  | [], _, _, x, hx => by simp at hx
  | a :: l, i, h, x, hx => by
    intro e
    rcases List.mem_cons.1 hx with rfl | hx
    · simp [Instr.findNow, Instr.sameNow, e] at h
    · unfold Instr.findNow at h
      cases hs : Instr.sameNow (.int kd) (.int .i64 k) a.key with
      | none => simp [hs] at h
      | some b => cases b with
        | true => simp [hs] at h
        | false => simp only [hs] at h; exact find_none h x hx e

section
variable {P : Program} {A : Actv}

/-- A new map. -/
theorem InvE.newMap {t : S} {a : Act} {E : En} (h : InvE A t a E) {d : Nat} (hd : t (.o d) = .none) :
    ∃ E' : En, E'.w = E.w.alloc (.map #[] 0) ∧ InvE A (upd t (.o d) (.mp [])) a E' ∧ RelV E' (.mref d) (.map (some E.w.heap.size)) := by
  have hfree := h.h.item (.o d) (by simp)
  rw [hd] at hfree
  obtain ⟨hb0, hv0⟩ := hfree d rfl
  let E' : En := { w := E.w.alloc (.map #[] 0), St := E.St, blk := fun p => if p = .o d then some E.w.heap.size else E.blk p, val := E.val }
  have hold : ∀ b, b < E.w.heap.size → E'.w.heap[b]? = E.w.heap[b]? := fun b hb => heap_alloc_old E.w _ b hb
  have x : ExtA E E' := by
    refine ⟨fun _ _ h => h, fun b o hst => World.cell?_of_block (hold b (h.h.stsz b o hst)), fun id b _ he => ?_, fun i b he => by simpa [E'] using he, fun i b he => by simpa [E'] using he, fun _ _ c v _ hv => ⟨c, v, hv, Nat.le_refl _, fun _ => rfl⟩⟩
    by_cases e : id = d
    · subst e; rw [hb0] at he; simp at he
    · simpa [E', e] using he
  have hown : E'.own (.o d) = some E.w.heap.size := by simp [En.own, E']
  have hownq : ∀ q, q ≠ .o d → E'.own q = E.own q := fun q hq => En.own_eq (by simp [E', hq]) (fun _ _ => rfl)
  have hH : HInv E' (upd t (.o d) (.mp [])) := by
    refine h.h.change (by simp) x (fun b o hst => .inl hst) (fun q hq => by simp [E', hq]) (fun id hid => rfl) (by simp [E']) (fun q b hq hb => hold b (h.h.size q b hb)) (fun b hb => ?_) ?_ (fun b o hst hb => ?_)
    · rw [hown] at hb; simp at hb; subst hb; exact ⟨by simp [E'], .inr (Nat.le_refl _)⟩
    · refine ⟨fun id hid => ?_, E.w.heap.size, #[], 0, by simp [E'], heap_alloc_new E.w _, rfl, MapKept.stamped_empty 0⟩
      simp only [Pl.o.injEq] at hid; subst hid; exact hv0
    · rw [hown] at hb; simp at hb; subst hb
      exact absurd (h.h.stsz _ _ hst) (by omega)
  refine ⟨E', rfl, h.step hH x (h.fr.next rfl rfl rfl (by simp [E']) (fun b hb _ _ => hold b (Nat.lt_of_lt_of_le hb h.fr.size)) (fun i => by simp [E']) (fun id b hb => ?_) (fun _ _ h => h) (fun _ _ h => .inl h)) (fun k => upd_s (by simp) k), ?_⟩
  · by_cases e : id = d
    · subst e; rw [hown] at hb; simp at hb; subst hb; exact .inr (Nat.le_refl _)
    · rw [hownq _ (by simpa using e)] at hb; exact .inl hb
  · simp only [RelV]; exact ⟨E.w.heap.size, by simp [E'], rfl⟩

theorem eff_makeMap {o : Oper} {t : S} {ty d : Nat} (ho : o.op = .makeMap ty none) : EffOK P A o t ⟨t (.o d) = .none, [.o d], [(.o d, .mp [])], .mref d⟩ := fun hC t' hr a E hi => by
  have ht' : t' (.o d) = .none := (hr _ (by simp)).trans hC
  obtain ⟨E', hw, hinv, hrel⟩ := hi.newMap ht'
  refine ⟨_, _, E', ?_, .inl rfl, hinv, hrel⟩
  simp [execOp, ho, Instr.makeMap, hw]

/-- a map as it stands -/
theorem map_cur {t : S} {a : Act} {E : En} (hi : InvE A t a E) {id : Nat} {es : List (Int × D)} (ht : t (.o id) = .mp es) : E.val id = none ∧ ∃ b l clock, E.blk (.o id) = some b ∧ E.w.heap[b]? = some (.map l clock) ∧ MapRel E es l.toList ∧ MapKept.Stamped l clock := by
  have := hi.h.item (.o id) (by simp)
  rw [ht] at this
  exact ⟨this.1 id rfl, this.2⟩

/-- A map's entries change. -/
theorem InvE.mapStep {t : S} {a : Act} {E : En} (hi : InvE A t a E) {id b : Nat} {es es' : List (Int × D)} {l l' : Array MapEntry} {clock clock' : Nat} (ht : t (.o id) = .mp es) (hb : E.blk (.o id) = some b) (hg : E.w.heap[b]? = some (.map l clock)) (hm : MapRel E es' l'.toList) (hs : MapKept.Stamped l' clock') :
    ∃ E' : En, E'.w = { E.w with heap := E.w.heap.setIfInBounds b (.map l' clock') } ∧ ExtA E E' ∧ InvE A (upd t (.o id) (.mp es')) a E' := by
  obtain ⟨hv0, _⟩ := map_cur hi ht
  have hlt : b < E.w.heap.size := (Array.getElem?_eq_some_iff.1 hg).1
  have hownp : E.own (.o id) = some b := by simp [En.own, hb]
  let E' : En := { E with w := { E.w with heap := E.w.heap.setIfInBounds b (.map l' clock') } }
  have hoth : ∀ b', b' ≠ b → E'.w.heap[b']? = E.w.heap[b']? := fun b' hne => by simp [E', Array.getElem?_setIfInBounds, show ¬ b = b' from fun e => hne e.symm]
  have hst : ∀ b' o', E.St b' o' → b' ≠ b := fun b' o' h e => by
    subst e
    obtain ⟨e2, k2, es2, h1, _⟩ := hi.h.sep _ o' h _ hownp
    rw [ht] at h1; simp at h1
  have x : ExtA E E' := ⟨fun _ _ h => h, fun b' o' h => World.cell?_of_block (hoth b' (hst b' o' h)), fun _ _ _ h => h, fun _ _ h => h, fun _ _ h => h, fun _ _ c v _ h => ⟨c, v, h, Nat.le_refl _, fun _ => rfl⟩⟩
  have hown : ∀ q, E'.own q = E.own q := fun q => En.own_eq rfl (fun _ _ => rfl)
  have hH : HInv E' (upd t (.o id) (.mp es')) := by
    refine hi.h.change (by simp) x (fun b o h => .inl h) (fun _ _ => rfl) (fun _ _ => rfl) (by simp [E']) (fun q b' hq hb' => hoth b' fun e => hq (by subst e; exact hi.h.inj _ _ _ hb' hownp)) (fun b' hb' => ?_) ?_ (fun b' o' hs hb' => ?_)
    · rw [hown] at hb'; exact ⟨by simpa [E'] using hi.h.size _ _ hb', .inl hb'⟩
    · exact ⟨fun j hj => by simp only [Pl.o.injEq] at hj; subst hj; exact hv0, b, l', clock', hb, by simp [E', hlt], hm.ext x.r, hs⟩
    · rw [hown, hownp] at hb'; simp only [Option.some.injEq] at hb'
      exact absurd hb'.symm (hst b' o' hs)
  refine ⟨E', rfl, x, hi.step hH x (hi.fr.next rfl rfl rfl (by simp [E']) (fun b' h1 _ h3 => hoth b' fun e => ?_) (fun _ => rfl) (fun j b' h => .inl (by rwa [hown] at h)) (fun _ _ h => h) (fun _ _ h => .inl h)) (fun k => upd_s (by simp) k)⟩
  subst e
  exact (hi.fr.new id b' hownp).elim (fun h => by omega) (fun ⟨j, h⟩ => h3 j h)

def lkV (ck : Bool) (m : Option D) (z : TV) : TV :=
  match ck with
  | true => .tup [match m with | some d => .d d | none => z, .d (.bool m.isSome)]
  | false => match m with | some d => .d d | none => z

theorem eff_lookup {o : Oper} {t : S} {ty kt e : TypeId} {x ix : Operand} {ck : Bool} {id : Nat} {es : List (Int × D)} {k : Int} {kd : IntKind} {z : Value} (ho : o.op = .lookup ty x ix ck) (hm : P.underlying ty = some (.map kt e)) (hk : P.underlying kt = some (.int kd)) (hz : zrO P e = some z)
    (hx : ev t x = .mref id) (ht : t (.o id) = .mp es) (hix : ev t ix = .d (.int .i64 k)) : EffOK P A o t ⟨True, pl x ++ (pl ix ++ [.o id]), [], lkV ck (mget es k) (ofCell z)⟩ :=
  .pure fun _ t' hr a E hi => by
    have hx' : ev t' x = .mref id := (ev_eq (pl_left hr)).trans hx
    have hix' : ev t' ix = .d (.int .i64 k) := (ev_eq (pl_left (pl_right hr))).trans hix
    have ht' : t' (.o id) = .mp es := (pl_right (pl_right hr) _ (by simp)).trans ht
    have h1 := ev_rel hi x
    rw [hx'] at h1
    simp only [RelV] at h1
    obtain ⟨b, hb, hu⟩ := h1
    have h2 := ev_rel hi ix
    rw [hix'] at h2
    simp only [RelV, Rep] at h2
    obtain ⟨_, b', l, clock, hb', hg, hrel, _⟩ := map_cur hi ht'
    rw [hb] at hb'
    simp only [Option.some.injEq] at hb'
    subst hb'
    have hzero : (zeroValue e).run P E.w = .ok z E.w := by
      unfold zrO at hz
      cases hinf : P.info? e with
      | none => simp [hinf] at hz
      | some inf =>
        simp only [hinf, Option.bind_some] at hz
        simp [zeroValue, typeInfo, hinf, hz]
    have hck : (Instr.checkKey l.isEmpty 10000 kt (.int .i64 k)).run P E.w = .ok () E.w := by
      unfold Instr.checkKey
      simp [Sem.run_bind, run_underlying hk]
    rcases find_rel (k := k) (kd := kd) (i := 0) hrel with ⟨g1, g2, _⟩ | ⟨d, j, a', g1, g2, _, _, _, g6, _⟩
    · refine ⟨match ck with | true => .tuple #[z, .bool false] | false => z, ?_, ?_⟩
      · cases ck <;> simp [execOp, ho, hu, h2, Instr.lookup, Sem.run_bind, run_underlying hm, run_underlying hk, MapKept.run_getObj_map hg, hck, Instr.findKey, g2, hzero]
      · rw [g1]
        cases ck with
        | true =>
          simp only [lkV, RelV]
          exact ⟨#[z, .bool false], rfl, by simp only [RelVs]; exact ⟨_, _, rfl, ofCell_rel E z, _, _, rfl, by simp [RelV, Rep], rfl⟩⟩
        | false => simp only [lkV]; exact ofCell_rel E z
    · refine ⟨match ck with | true => .tuple #[a'.val, .bool true] | false => a'.val, ?_, ?_⟩
      · cases ck <;> simp [execOp, ho, hu, h2, Instr.lookup, Sem.run_bind, run_underlying hm, run_underlying hk, MapKept.run_getObj_map hg, hck, Instr.findKey, g2, hzero]
      · rw [g1]
        cases ck with
        | true =>
          simp only [lkV, RelV]
          exact ⟨#[a'.val, .bool true], rfl, by simp only [RelVs]; exact ⟨_, _, rfl, by simpa only [RelV] using g6, _, _, rfl, by simp [RelV, Rep], rfl⟩⟩
        | false => simp only [lkV, RelV]; exact g6

theorem eff_mapUpdate {o : Oper} {t : S} {ty kt e : TypeId} {x ix y : Operand} {id : Nat} {es : List (Int × D)} {k : Int} {kd : IntKind} {d : D} (ho : o.op = .mapUpdate ty x ix y) (hm : P.underlying ty = some (.map kt e)) (hk : P.underlying kt = some (.int kd))
    (hx : ev t x = .mref id) (ht : t (.o id) = .mp es) (hix : ev t ix = .d (.int .i64 k)) (hy : ev t y = .d d) : EffOK P A o t ⟨True, pl x ++ (pl ix ++ (pl y ++ [.o id])), [(.o id, .mp (mput es k d))], .junk⟩ := fun _ t' hr a E hi => by
  have hx' : ev t' x = .mref id := (ev_eq (pl_left hr)).trans hx
  have hix' : ev t' ix = .d (.int .i64 k) := (ev_eq (pl_left (pl_right hr))).trans hix
  have hy' : ev t' y = .d d := (ev_eq (pl_left (pl_right (pl_right hr)))).trans hy
  have ht' : t' (.o id) = .mp es := (pl_right (pl_right (pl_right hr)) _ (by simp)).trans ht
  have h1 := ev_rel hi x
  rw [hx'] at h1
  simp only [RelV] at h1
  obtain ⟨b, hb, hu⟩ := h1
  have h2 := ev_rel hi ix
  rw [hix'] at h2
  simp only [RelV, Rep] at h2
  have h3 := ev_rel hi y
  rw [hy'] at h3
  have hone : (a.eval y).oneCell' = true := h3.one (by rfl)
  simp only [RelV] at h3
  obtain ⟨_, b', l, clock, hb', hg, hrel, hstm⟩ := map_cur hi ht'
  rw [hb] at hb'
  simp only [Option.some.injEq] at hb'
  subst hb'
  have hck : (Instr.checkKey false 10000 kt (.int .i64 k)).run P E.w = .ok () E.w := by
    unfold Instr.checkKey
    simp [Sem.run_bind, run_underlying hk]
  rcases find_rel (k := k) (kd := kd) (i := 0) hrel with ⟨_, g2, g3⟩ | ⟨d', j, a', _, g2, g4, g5, _, _, g7⟩
  · obtain ⟨E', hw', x', hinv⟩ := hi.mapStep (l' := l.push ⟨.int .i64 k, a.eval y, clock⟩) (clock' := clock + 1) ht' hb hg (by rw [Array.toList_push]; exact g3 d (a.eval y) clock hone h3) (MapKept.stamped_push hstm (find_none g2))
    refine ⟨.skip, undef, E', ?_, .inr ⟨rfl, rfl⟩, hinv, by simp only [RelV]⟩
    simp [execOp, ho, hu, h2, Instr.mapUpdate, Sem.run_bind, run_underlying hm, run_underlying hk, MapKept.run_getObj_map hg, MapKept.run_setObj_map _ hg, hck, Instr.findKey, g2, hw']
  · obtain ⟨E', hw', x', hinv⟩ := hi.mapStep (l' := l.modify j fun e => { e with key := .int .i64 k, val := a.eval y }) (clock' := clock) ht' hb hg (by rw [Array.toList_modify]; exact g7 d (a.eval y) hone h3) (MapKept.stamped_modify hstm j _ (fun _ _ => rfl) (fun e _ he => by rw [show l[j]? = some a' by simpa using g4] at he; simp only [Option.some.injEq] at he; subst he; exact g5.symm))
    refine ⟨.skip, undef, E', ?_, .inr ⟨rfl, rfl⟩, hinv, by simp only [RelV]⟩
    have g4' : l[j]? = some a' := by simpa using g4
    have hst : (Instr.keyThatStays (.int .i64 k) (.int .i64 k)).run P E.w = .ok (.int .i64 k) E.w := by
      simp [Instr.keyThatStays, Instr.sameBits]
    simp [execOp, ho, hu, h2, Instr.mapUpdate, Sem.run_bind, run_underlying hm, run_underlying hk, MapKept.run_getObj_map hg, MapKept.run_setObj_map _ hg, hck, Instr.findKey, g2, g4', g5, hst, hw']
end
end Go.Tr

set_option linter.unusedSimpArgs false
namespace Go.Tr
open Go

section
variable {P : Program} {A : Actv}
/-- a row of the activation's own that lies in new memory -/
theorem InvE.newRowV {t : S} {a : Act} {E : En} (h : InvE A t a E) {d : Nat} (hd : t (.o d) = .none) {e k : Nat} {es : List (List TV)} {w' : World} {v : Value} {us : List Value} (hg : E.w.grownBy w' none)
    (hown : w'.ownsRow E.w.heap.size e k v es.length us) (hrel : ∀ E' : En, E'.w = w' → ExtA E E' → RowRel E' us k 0 es) :
    ∃ E' : En, E'.w = w' ∧ ExtA E E' ∧ InvE A (upd t (.o d) (.row e k es false)) a E' ∧ E'.val d = some (k, es.length, v) := by
  have hfree := h.h.item (.o d) (by simp)
  rw [hd] at hfree
  obtain ⟨hb0, hv0⟩ := hfree d rfl
  let E' : En := { E with w := w', val := fun i => if i = d then some (k, es.length, v) else E.val i }
  have hv' : E'.val d = some (k, es.length, v) := by simp [E']
  have hown' : E'.own (.o d) = v.ownBlock := by simp [En.own, E', hb0]
  have hold : ∀ b, b < E.w.heap.size → E'.w.heap[b]? = E.w.heap[b]? := fun b hb => hg.block b hb (by simp)
  have x : ExtA E E' := by
    refine ⟨fun _ _ h => h, fun b o hst => World.cell?_of_block (hold b (h.h.stsz b o hst)), fun _ _ _ h => h, fun _ _ h => h, fun _ _ h => h, fun i k' c u _ hu => ?_⟩
    by_cases e : i = d
    · subst e; rw [hv0] at hu; simp at hu
    · exact ⟨c, u, by simp [E', e, hu], Nat.le_refl _, fun _ => rfl⟩
  have hH : HInv E' (upd t (.o d) (.row e k es false)) := by
    refine h.h.change (by simp) x (fun b o h => .inl h) (fun q hq => rfl) (fun i hne => ?_) hg.size (fun q b hq hb => hold b (h.h.size q b hb)) (fun b hb => ?_) ⟨hb0, d, v, us, rfl, hv', ⟨hown.1, hown.2.imp (fun h => h) fun ⟨g, cap, cur, h1, _, h3⟩ => ⟨g, cap, cur, h1, Nat.zero_le _, h3⟩⟩, hrel E' rfl x⟩ (fun b o hs hb => ?_)
    · have hne' : i ≠ d := fun e => hne (by rw [e])
      simp [E', hne']
    · rw [hown'] at hb
      exact ⟨(hown.lt b hb).2, .inr (hown.lt b hb).1⟩
    · rw [hown'] at hb
      have := (hown.lt b hb).1
      have := h.h.stsz _ _ hs
      omega
  refine ⟨E', rfl, x, h.step hH x (h.fr.next hg.os hg.tape hg.output hg.size (fun b hb _ _ => hold b (Nat.lt_of_lt_of_le hb h.fr.size)) (fun _ => rfl) (fun i b hb => ?_) (fun _ _ h => h) (fun _ _ h => .inl h)) (fun k => upd_s (by simp) k), hv'⟩
  by_cases e : i = d
  · subst e
    rw [hown'] at hb
    exact .inr (hown.lt b hb).1
  · have : E'.own (.o i) = E.own (.o i) := En.own_eq rfl (fun j hj => by simp only [Pl.o.injEq] at hj; subst hj; simp [E', e])
    rw [this] at hb; exact .inl hb

/-- make([]T, n): a row of the activation's own -/
theorem eff_makeSlice {o : Oper} {t : S} {ty e : TypeId} {k b d : Nat} {n : Int} {z : Value} {lx cx : Operand} (ho : o.op = .makeSlice ty lx cx) (he : slE P ty = some e) (hk : szO P e = some k) (hb : byO P e = some b) (hz : zrO P e = some z)
    (hl : ev t lx = .d (.int .i64 n)) (hc : ev t cx = .d (.int .i64 n)) :
    EffOK P A o t ⟨t (.o d) = .none ∧ 0 ≤ n ∧ n ≤ 1000000 ∧ b * n ≤ 281474976710656 ∧ (zcells z).length = k ∧ 0 < k ∧ (zcells z).all (·.oneCell') = true, pl lx ++ (pl cx ++ [.o d]),
      [(.o d, .row e k (List.replicate n.toNat ((zcells z).map ofCell)) false)], .oref d n.toNat⟩ := fun ⟨hd, hn0, hn1, hnb, hzl, hk0, hz1⟩ t' hr a E hi => by
  have hd' : t' (.o d) = .none := (pl_right (pl_right hr) _ (by simp)).trans hd
  have hl' : ev t' lx = .d (.int .i64 n) := (ev_eq (pl_left hr)).trans hl
  have hc' : ev t' cx = .d (.int .i64 n) := (ev_eq (pl_left (pl_right hr))).trans hc
  have h1 := ev_rel hi lx
  rw [hl'] at h1
  simp only [RelV, Rep] at h1
  have h2 := ev_rel hi cx
  rw [hc'] at h2
  simp only [RelV, Rep] at h2
  rw [zcells_eq] at hzl hz1
  obtain ⟨m, hm⟩ : ∃ m : Nat, n = m := ⟨n.toNat, by omega⟩
  subst hm
  rw [Int.toNat_natCast]
  let ru : Array Value := (Array.range (m * k)).map fun i => z.cells[i % z.cells.size]!
  have hrs : ru.size = m * k := by simp [ru]
  have hln : (List.replicate m ((zcells z).map ofCell)).length = m := by simp
  have hzs : z.cells.size = k := by simpa using hzl
  obtain ⟨E', hw', x, hinv, hval⟩ := hi.newRowV hd' (es := List.replicate m ((zcells z).map ofCell)) (v := .slice (some ⟨E.w.heap.size, 0, none⟩) m m) (us := ru.toList) (e := e) (k := k) (w' := E.w.alloc (.cells ru e))
    (World.grownBy_alloc _ _ _)
    (by
      rw [hln]
      refine ⟨by simp [hrs], .inr ⟨E.w.heap.size, m, ru, rfl, Nat.le_refl _, heap_alloc_new E.w _, Nat.le_refl _, by simp only [maxLen]; omega, by rw [hrs], ?_⟩⟩
      rw [List.take_of_length_le (by simp [hrs])])
    (fun E' hw' x => by
      refine RowRel.of_get fun i el hel => ?_
      rw [List.getElem?_replicate] at hel
      split at hel
      · rename_i him
        simp only [Option.some.injEq] at hel
        subst hel
        refine ⟨by rw [List.length_map, zcells_eq]; exact hzl, CellsRel.of_get fun j tv hj => ?_⟩
        rw [zcells_eq, List.getElem?_map] at hj
        obtain ⟨u, hu, rfl⟩ := Option.map_eq_some_iff.1 hj
        have hjk : j < k := by have := (List.getElem?_eq_some_iff.1 hu).1; omega
        have hlt : i * k + j < m * k := by
          have : (i + 1) * k ≤ m * k := Nat.mul_le_mul_right k him
          rw [Nat.add_mul, Nat.one_mul] at this; omega
        have hmod : (i * k + j) % k = j := by rw [Nat.add_comm, Nat.add_mul_mod_self_right, Nat.mod_eq_of_lt hjk]
        have hu' : z.cells[j]? = some u := by simpa using hu
        refine ⟨u, ?_, List.all_eq_true.1 hz1 u (List.mem_of_getElem? hu), ofCell_rel E' u⟩
        simp [ru, hlt, hzs, hmod]
        simp [getElem!_def, hu']
      · simp at hel)
  refine ⟨_, .slice (some ⟨E.w.heap.size, 0, none⟩) m m, E', ?_, .inl rfl, hinv, ?_⟩
  · unfold slE at he
    split at he
    rotate_left
    · simp at he
    rename_i e' hu
    simp only [Option.some.injEq] at he; subst he
    unfold szO at hk; unfold zrO at hz; unfold byO at hb
    cases hinf : P.info? e' with
    | none => simp [hinf] at hk
    | some inf =>
    simp only [hinf, Option.map_some, Option.some.injEq, Option.bind_some] at hk hz hb
    have hw : IntKind.i64.wrap (m : Int) = m := by rw [IntKind.wrap_i64]; omega
    have hc1 : ¬ ((m : Int) < 0) := by omega
    have hc2 : ¬ (281474976710656 < (b : Int) * (m : Int)) := by omega
    by_cases hmk : m * k = 0
    · have hru : ru = #[] := Array.size_eq_zero_iff.1 (by rw [hrs, hmk])
      rw [hru] at hw'
      simp only [execOp, ho, h1, h2, Instr.makeSlice, Sem.run_bind, run_underlying hu, Result.andThen_ok, asInt, asIntOf, Sem.run_pure, typeInfo, sizeOf, run_program, hinf, hk, hb, hw, Int.reducePow, gt_iff_lt, hc1, hc2, Int.lt_irrefl, decide_false, Bool.or_self, Bool.false_eq_true, if_false, run_askRoom, Int.toNat_natCast, hmk, if_true, newRow, run_newObj]
      rw [hw']
      exact congrArg (fun r => Result.ok _ (E.w.alloc (.cells r e'))) (by simp)
    · simp only [execOp, ho, h1, h2, Instr.makeSlice, Sem.run_bind, run_underlying hu, Result.andThen_ok, asInt, asIntOf, Sem.run_pure, typeInfo, sizeOf, run_program, hinf, hk, hb, hw, Int.reducePow, gt_iff_lt, hc1, hc2, Int.lt_irrefl, decide_false, Bool.or_self, Bool.false_eq_true, if_false, run_askRoom, Int.toNat_natCast, hmk, zeroValue, hz, newRow, run_newObj]
      rw [hw']
      rfl
  · simp only [RelV]
    rw [hln] at hval
    exact ⟨rfl, k, m, _, hval, Nat.le_refl _, fun _ => rfl⟩
end
end Go.Tr

set_option linter.unusedSimpArgs false
namespace Go.Tr
open Go

def dLen (k : Nat) (ys : List (List D)) : Prop := ∀ e ∈ ys, e.length = k
section
variable {P : Program} {A : Actv}
/-- s[:h:h] of plain data: no room behind it -/
theorem eff_slice3 {o : Oper} {t : S} {ty e k : Nat} {x hi mx : Operand} {xs : List (List D)} {kh km : IntKind} {h m : Int} (ho : o.op = .slice ty x none (some hi) (some mx)) (he : slE P ty = some e) (hk : szO P e = some k) (hx : ev t x = .d (.sl xs))
    (hh : ev t hi = .d (.int kh h)) (hm : ev t mx = .d (.int km m)) : EffOK P A o t ⟨(0 ≤ h ∧ h ≤ xs.length ∧ m = h) ∧ ∀ e ∈ xs, e.length = k, pl x ++ (pl hi ++ pl mx), [], .sx (xs.take h.toNat)⟩ :=
  .pure fun ⟨⟨hC1, hC2, hC3⟩, hlen⟩ t' hr a E hin => by
    subst hC3
    have hx' := ev_rel hin x
    rw [ev_eq (pl_left hr), hx] at hx'
    have hhi := ev_rel hin hi
    rw [ev_eq (pl_left (pl_right hr)), hh] at hhi
    have hmx := ev_rel hin mx
    rw [ev_eq (pl_right (pl_right hr)), hm] at hmx
    simp only [RelV, Rep] at hhi hmx
    unfold slE at he
    split at he
    rotate_left
    · simp at he
    rename_i e' hu
    simp only [Option.some.injEq] at he; subst he
    unfold szO at hk
    cases hinf : P.info? e' with
    | none => simp [hinf] at hk
    | some inf =>
    simp only [hinf, Option.map_some, Option.some.injEq] at hk
    obtain ⟨n, rfl⟩ : ∃ n : Nat, m = n := ⟨m.toNat, by omega⟩
    have hbd : ∀ len c : Nat, n ≤ c → (Instr.sliceBounds true len c none (some (.int kh n)) (some (.int km n))).run P E.w = .ok (0, n, n) E.w := fun len c hc => by
      have : (n : Int) ≤ (c : Int) := by omega
      have h0 : (0 : Int) ≤ (n : Int) := by omega
      simp only [Instr.sliceBounds, Instr.sliceBound, asIntOf, Sem.run_bind, Sem.run_pure, Result.andThen_ok, Sem.run_ite, h0, this, and_self, if_true, pure_bind, Int.toNat_natCast, Int.le_refl]
    simp only [RelV, Rep] at hx'
    simp only [Int.toNat_natCast] at hC2 ⊢
    have htl : (xs.take n).length = n := by simp; omega
    rcases hx' with ⟨h0, ad, c, hux⟩ | ⟨b, of, c, k', hux, hcc, hrows⟩
    · have hn0 : n = 0 := by omega
      subst hn0
      refine ⟨.slice ad 0 0, ?_, ?_⟩
      · simp only [execOp, ho, Instr.sliceAt, Sem.run_bind, run_underlying hu, Result.andThen_ok, hux, Option.map_none, Option.map_some, Instr.slice, hhi, hmx, hbd _ _ (Nat.zero_le _), sizeOf, typeInfo, run_program, hinf, Sem.run_pure, hk, Nat.sub_zero, if_true]
      · simp only [RelV, Rep]
        exact ⟨.inl ⟨by simp, _, _, rfl⟩, ad, by simp⟩
    · refine ⟨.slice (some ⟨b, of, none⟩) n n, ?_, ?_⟩
      · have hadd : (some (⟨b, of, none⟩ : Addr)).map (·.add (0 * k)) = some ⟨b, of, none⟩ := by simp [add_lit']
        simp only [execOp, ho, Instr.sliceAt, Sem.run_bind, run_underlying hu, Result.andThen_ok, hux, Option.map_none, Option.map_some, Instr.slice, hhi, hmx, hbd _ c (by omega), sizeOf, typeInfo, run_program, hinf, Sem.run_pure, hk, Nat.sub_zero]
        simp [add_lit']
      · simp only [RelV, Rep]
        refine ⟨?_, some ⟨b, of, none⟩, by rw [htl]⟩
        by_cases hz : n = 0
        · exact .inl ⟨by omega, _, _, by rw [hz]⟩
        · refine .inr ⟨b, of, n, k', by rw [htl], by omega, RepRows.of_get fun i el hel => ?_⟩
          have hel' : xs[i]? = some el := by
            rw [List.getElem?_take] at hel
            split at hel
            · exact hel
            · simp at hel
          exact hrows.get hel'

/-- append onto such a slice: a row of the activation's own -/
theorem eff_append_sx {o : Oper} {t : S} {x y : Operand} {sty : TypeId} {d e k b : Nat} {xs : List (List D)} {ys : List (List TV)} {rp : List Pl} {z : Value}
    (ho : o.op = .call { callee := .builtin .append, args := #[x, y], argTypes := #[sty, sty] }) (hx : ev t x = .sx xs) (hs : Src t (ev t y) rp ys)
    (he : slE P sty = some e) (hk : szO P e = some k) (hb : byO P e = some b) (hz : zrO P e = some z) (hzs : (zcells z).length = k) (_hk0 : 0 < k) :
    EffOK P A o t ⟨(t (.o d) = .none ∧ dLen k xs) ∧ 0 < ys.length ∧ appOK k b xs.length ys, pl x ++ (pl y ++ (.o d :: rp)), [(.o d, .row e k (dd xs ++ ys) false)], .oref d (xs.length + ys.length)⟩ := fun ⟨⟨hd, hxl0⟩, hpos, hlen, hroom, hroom2⟩ t' hr a E hi => by
  have hxl : ∀ e ∈ dd xs, e.length = k := fun e he => by
    simp only [dd, List.mem_map] at he
    obtain ⟨e0, h0, rfl⟩ := he
    simpa using hxl0 e0 h0
  have hx' := ev_rel hi x
  rw [ev_eq (pl_left hr), hx] at hx'
  simp only [RelV] at hx'
  obtain ⟨hx1, ad1, hux⟩ := hx'
  have hy' := ev_rel hi y
  rw [ev_eq (pl_left (pl_right hr))] at hy'
  have hr3 := pl_right (pl_right hr)
  have hd' : t' (.o d) = .none := (hr3 _ (by simp)).trans hd
  obtain ⟨ad, c, news, hu, hnl, hrow, hone, hsrc⟩ := hs.rel hlen (fun p hp => hr3 p (by simp [hp])) hi hy'
  obtain ⟨ad2, c2, olds, hu2, hol, hrow2, _, hsrc2⟩ := (Src.sl (t := t') xs).rel hxl (fun p hp => by simp at hp) hi (u := a.eval x) (by simp only [RelV]; exact hx1)
  have hxn : (xs.map (·.map TV.d)).length = xs.length := by simp
  rw [hxn] at hol hu2 hsrc2
  have had : ad2 = ad1 := by rw [hux] at hu2; simp only [Value.slice.injEq] at hu2; exact hu2.1.symm
  subst had
  rcases hsrc with h0 | ⟨a0, rfl, hcells⟩
  · omega
  unfold slE at he
  split at he
  rotate_left
  · simp at he
  rename_i e' hun
  simp only [Option.some.injEq] at he
  subst he
  unfold szO at hk; unfold byO at hb; unfold zrO at hz
  cases hinf : P.info? e' with
  | none => simp [hinf] at hk
  | some inf =>
  simp only [hinf, Option.map_some, Option.some.injEq, Option.bind_some] at hk hb hz
  subst hk hb
  have hzc : z.cells.size = inf.size := by rw [← hzs, zcells_eq]; simp
  let cap := grownCap E.w (xs.length + ys.length) xs.length e'
  let w' := E.w.drew.alloc (.cells (olds.toArray ++ news.toArray ++ Builtin.zeroCells z.cells (cap - (xs.length + ys.length))) e')
  have hge : xs.length + ys.length ≤ cap := grownCap_ge E.w _ _ e'
  have hcm : cap ≤ maxLen := grownCap_le_maxLen E.w _ _ e' (by simp only [maxLen]; omega)
  have hrun : (Builtin.append_ #[sty, sty] o.type #[a.eval x, a.eval y]).run P E.w = .ok (.slice (some ⟨E.w.heap.size, 0, none⟩) (xs.length + ys.length) cap) w' := by
    rw [hux, hu]
    cases ad2 with
    | none =>
      have h0 : xs.length = 0 := by
        rcases hsrc2 with h | ⟨a1, h, _⟩
        · exact h
        · simp at h
      have ho0 : olds = [] := List.eq_nil_of_length_eq_zero (by rw [hol, h0]; simp)
      have hr0 : ys.length * inf.bytes ≤ 140737488355328 := by rw [h0, Nat.zero_add] at hroom; exact hroom
      have := run_append_nil (P := P) E.w sty o.type e' inf z hun hinf hz a0 ys.length c news hnl hcells hpos (by omega) (by omega)
      rw [h0, this]
      simp only [w', cap, h0, ho0, Nat.zero_add, Array.empty_append]
    | some a1 =>
      have holds : ∀ j v, olds[j]? = some v → E.w.cell? (a1.add j) = some v := by
        rcases hsrc2 with h | ⟨a2, h1, h2⟩
        · intro j v hj
          rw [h] at hol
          have e0 : olds = [] := List.eq_nil_of_length_eq_zero (by rw [hol]; simp)
          rw [e0] at hj
          simp at hj
        · simp only [Option.some.injEq] at h1; subst h1; exact h2
      exact run_append_grow (P := P) E.w sty o.type e' inf z hun hinf hz a1 xs.length xs.length olds hol holds a0 ys.length c news hnl hcells (by omega) (by omega) (growslice_fits (by omega) hroom)
  have hgr : E.w.grownBy w' none := ⟨rfl, rfl, rfl, by simp [w'], fun k hk _ => heap_alloc_old E.w.drew _ k hk⟩
  have hdl : (dd xs ++ ys).length = xs.length + ys.length := by simp [dd]
  obtain ⟨E', hw', x', hinv, hval⟩ := hi.newRowV hd' (es := dd xs ++ ys) (v := .slice (some ⟨E.w.heap.size, 0, none⟩) (xs.length + ys.length) cap) (us := olds ++ news) (e := e') (k := inf.size) (w' := w') hgr
    (by
      rw [hdl]
      refine ⟨by rw [List.length_append, hol, hnl, Nat.add_mul], .inr ⟨E.w.heap.size, cap, _, rfl, Nat.le_refl _, heap_alloc_new E.w.drew _, hge, hcm, ?_, ?_⟩⟩
      · simp only [Array.size_append, List.size_toArray, size_zeroCells, hzc, hol, hnl, ← Nat.add_mul]
        congr 1
        omega
      · simp only [Array.toList_append, List.append_assoc]
        rw [← List.append_assoc, Nat.add_mul, ← hol, ← hnl, ← List.length_append]
        exact List.take_left)
    (fun E' hw' x' => RowRel.app (by rw [hol]; simp [dd]) (hrow2.up x') (hrow.up x'))
  refine ⟨_, .slice (some ⟨E.w.heap.size, 0, none⟩) (xs.length + ys.length) cap, E', run_app_op ho (by rw [hw']; exact hrun), .inl rfl, hinv, ?_⟩
  simp only [RelV]
  rw [hdl] at hval
  exact ⟨rfl, inf.size, _, _, hval, Nat.le_refl _, fun _ => rfl⟩
/-- append of nothing onto such a slice -/
theorem eff_append_sx0 {o : Oper} {t : S} {x y : Operand} {sty : TypeId} {e k : Nat} {xs : List (List D)} {ys : List (List TV)} {rp : List Pl}
    (ho : o.op = .call { callee := .builtin .append, args := #[x, y], argTypes := #[sty, sty] }) (hx : ev t x = .sx xs) (hs : Src t (ev t y) rp ys)
    (he : slE P sty = some e) (hk : szO P e = some k) : EffOK P A o t ⟨ys.length = 0, pl x ++ (pl y ++ rp), [], .d (.sl xs)⟩ := .pure fun h0 t' hr a E hi => by
  have hx' := ev_rel hi x
  rw [ev_eq (pl_left hr), hx] at hx'
  simp only [RelV] at hx'
  obtain ⟨hx1, ad1, hux⟩ := hx'
  have hy' := ev_rel hi y
  rw [ev_eq (pl_left (pl_right hr))] at hy'
  have hys : ys = [] := List.eq_nil_of_length_eq_zero h0
  obtain ⟨ad, c, news, hu, hnl, _, _, _⟩ := hs.rel (k := k) (fun e he => by subst hys; simp at he) (fun p hp => pl_right (pl_right hr) p hp) hi hy'
  rw [h0] at hu
  unfold slE at he
  split at he
  rotate_left
  · simp at he
  rename_i e' hun
  simp only [Option.some.injEq] at he
  subst he
  unfold szO at hk
  cases hinf : P.info? e' with
  | none => simp [hinf] at hk
  | some inf =>
  refine ⟨.slice ad1 xs.length xs.length, run_app_op ho ?_, by simp only [RelV]; rw [← hux]; exact hx1⟩
  rw [hux, hu]
  cases ad <;> cases ad1 <;> simp [Builtin.append_, run_underlying hun, sizeOf, typeInfo, hinf, Builtin.lenOf, Builtin.firstCells, storeCells, loadCells, loadCellsFrom]

/-- []T{..}: a row of the activation's own -/
theorem eff_buildSlice_row {o : Oper} {t : S} {ty e k n d : Nat} {ps : List (Nat × Operand)} {z : Value} (ho : o.op = .buildSlice ty n ps.toArray) (he : slE P ty = some e) (hk : szO P e = some k) (hz : zrO P e = some z)
    (hseq : seqParts ps n = true) :
    EffOK P A o t ⟨t (.o d) = .none ∧ (∀ e ∈ ps.map (fun x => (ev t x.2).cells), e.length = k ∧ ∀ c ∈ e, c.one = true) ∧ n * k ≤ 16777216 ∧ 0 < k, ps.flatMap (fun x => pl x.2) ++ [.o d], [(.o d, .row e k (ps.map fun x => (ev t x.2).cells) false)], .oref d n⟩ := fun ⟨hd, hC, hsm, hk0⟩ t' hr a E hi => by
  have hseq' : ps.map (·.1) = List.range n := by simpa [seqParts] using hseq
  have hn : ps.length = n := by have := congrArg List.length hseq'; simpa using this
  rw [List.range_eq_range', ← hn] at hseq'
  have hd' : t' (.o d) = .none := (pl_right hr _ (by simp)).trans hd
  have hr1 := pl_left hr
  have hev : (ps.map fun x => ev t' x.2) = ps.map fun x => ev t x.2 :=
    List.map_congr_left fun x hx => ev_eq fun p hp => hr1 p (List.mem_flatMap.2 ⟨x, hx, hp⟩)
  let vs := ps.map fun x => ev t x.2
  let us := ps.map fun x => a.eval x.2
  have hrel : RelVs E vs us := by
    have := evs_rel hi (ps.map (·.2))
    simp only [List.map_map] at this
    have h2 : (List.map (ev t' ∘ fun x => x.2) ps) = vs := hev
    rw [h2] at this
    exact this
  have hCm : ∀ v ∈ vs, v.cells.length = k ∧ ∀ c ∈ v.cells, c.one = true := fun v hv => by
    simp only [vs, List.mem_map] at hv
    obtain ⟨x, hx, rfl⟩ := hv
    exact hC _ (List.mem_map.2 ⟨x, hx, rfl⟩)
  have hvl : vs.length = n := by simp [vs, hn]
  obtain ⟨ru, hrun, hsz, hrel2⟩ := run_buildSlice (P := P) he hk hz hrel (fun v hv => (hCm v hv).1) (fun v hv => (hCm v hv).2) (by rw [hvl]; exact hsm)
  have hmap : ps.map (fun x => (ev t x.2).cells) = vs.map TV.cells := by simp [vs, Function.comp_def]
  have hln : (vs.map TV.cells).length = n := by simp [hvl]
  have hnk : n ≤ 16777216 := Nat.le_trans (Nat.le_mul_of_pos_right n hk0) hsm
  obtain ⟨E', hw', x, hinv, hval⟩ := hi.newRowV hd' (es := vs.map TV.cells) (v := .slice (some ⟨E.w.heap.size, 0, none⟩) n n) (us := ru.toList) (e := e) (k := k) (w' := E.w.alloc (.cells ru e)) (World.grownBy_alloc _ _ _)
    (by
      rw [hln]
      refine ⟨by simp [hsz, hvl], .inr ⟨E.w.heap.size, n, ru, rfl, Nat.le_refl _, heap_alloc_new E.w _, Nat.le_refl _, by simp only [maxLen]; omega, by rw [hsz, hvl], ?_⟩⟩
      rw [List.take_of_length_le (by simp [hsz, hvl])])
    (fun E' hw' x => by
      refine RowRel.of_get fun i el hel => ?_
      simp only [List.getElem?_map, Option.map_eq_some_iff] at hel
      obtain ⟨v, h3, rfl⟩ := hel
      refine ⟨(hCm v (List.mem_of_getElem? h3)).1, CellsRel.of_get fun j tv hj => ?_⟩
      have hfl : (vs.flatMap TV.cells)[i * k + j]? = some tv := flat_get (fun v hv => (hCm v hv).1) h3 hj
      obtain ⟨u, h6, h7⟩ := hrel2.get hfl
      refine ⟨u, by simpa using h6, h7.one ((hCm v (List.mem_of_getElem? h3)).2 tv (List.mem_of_getElem? hj)), h7.up x⟩)
  refine ⟨_, .slice (some ⟨E.w.heap.size, 0, none⟩) n n, E', ?_, .inl rfl, by rw [hmap]; exact hinv, ?_⟩
  · have hz2 := parts_zip (fun x => a.eval x) ps 0 hseq'
    simp only [execOp, ho, List.map_toArray, hz2, Sem.run_bind, hw']
    rw [← hvl, hrun]
    rfl
  · simp only [RelV]
    rw [hln] at hval
    exact ⟨rfl, k, n, _, hval, Nat.le_refl _, fun _ => rfl⟩

end
end Go.Tr

/-
  What functions of the program compute, stated as contracts over plain data; the conditions of each stand in its own statement.
-/
import Derived.Test.YtffjbciladpdlaaGreatZN02
set_option linter.unusedSimpArgs false
namespace Go.Tr
open Go
section
variable {P : Program} {A : Actv}
theorem upd_upd (t : S) (p : Pl) (i j : It) : upd (upd t p i) p j = upd t p j := by
 funext q; by_cases h : q = p <;> simp [upd, h]
def appOK (k b n : Nat) (ys : List (List TV)) : Prop := (∀ e ∈ ys, e.length = k) ∧ (n + ys.length) * b ≤ 140737488355328 ∧ n + ys.length ≤ 9223372036854775807
theorem run_app_op {o : Oper} {x y : Operand} {sty : TypeId} (ho : o.op = .call { callee := .builtin .append, args := #[x, y], argTypes := #[sty, sty] }) {a : Act} {w w' : World} {v : Value}
  (h : (Builtin.append_ #[sty, sty] o.type #[a.eval x, a.eval y]).run P w = .ok v w') : (execOp a.eval o).run P w = .ok (.value v) w' := by
 simp [execOp, ho, resolve, invoke, builtin, h]
theorem eff_append_row {o : Oper} {t : S} {x y : Operand} {sty : TypeId} {id n e k b : Nat} {es ys : List (List TV)} {sh : Bool} {rp : List Pl} {z : Value}
  (ho : o.op = .call { callee := .builtin .append, args := #[x, y], argTypes := #[sty, sty] }) (hx : ev t x = .oref id n) (ht : t (.o id) = .row e k es sh) (hs : Src t (ev t y) rp ys)
  (he : slE P sty = some e) (hk : szO P e = some k) (hb : byO P e = some b) (hz : zrO P e = some z) (hzs : (zcells z).length = k) (hk0 : 0 < k) :
  EffOK P A o t ⟨n = es.length ∧ appOK k b n ys, pl x ++ (pl y ++ (.o id :: rp)), [(.o id, .row e k (es ++ ys) sh)], .oref id (n + ys.length)⟩ := fun ⟨hn, hlen, hroom, hroom2⟩ t' hr a E hi => by
 have hx' := ev_rel hi x
 rw [ev_eq (pl_left hr), hx] at hx'
 have hy' := ev_rel hi y
 rw [ev_eq (pl_left (pl_right hr))] at hy'
 have hr3 := pl_right (pl_right hr)
 have ht' : t' (.o id) = .row e k es sh := (hr3 _ (by simp)).trans ht
 subst hn
 obtain ⟨ad, c, news, hu, hnl, hrow, hone, hsrc⟩ := hs.rel hlen (fun p hp => hr3 p (by simp [hp])) hi hy'
 obtain ⟨v', E', hrun, hinv, hrel⟩ := hi.append ht' he hk hb hz hzs hk0 hx' (ty := o.type) (c := c) hnl hrow hone hsrc hroom hroom2
 exact ⟨_, v', E', run_app_op ho (by rw [hu]; exact hrun), .inl rfl, hinv, hrel⟩
theorem eff_append_nil {o : Oper} {t : S} {x y : Operand} {sty : TypeId} {d e k b : Nat} {ys : List (List TV)} {rp : List Pl} {z : Value}
  (ho : o.op = .call { callee := .builtin .append, args := #[x, y], argTypes := #[sty, sty] }) (hx : ev t x = .c (.slice none 0 0)) (hs : Src t (ev t y) rp ys)
  (he : slE P sty = some e) (hk : szO P e = some k) (hb : byO P e = some b) (hz : zrO P e = some z) (hzs : (zcells z).length = k) (hk0 : 0 < k) :
  EffOK P A o t ⟨t (.o d) = .none ∧ appOK k b 0 ys, pl x ++ (pl y ++ (.o d :: rp)), [(.o d, .row e k ys false)], .oref d ys.length⟩ := fun ⟨hd, hlen, hroom, hroom2⟩ t' hr a E hi => by
 have hx' := ev_rel hi x
 rw [ev_eq (pl_left hr), hx] at hx'
 simp only [RelV] at hx'
 have hy' := ev_rel hi y
 rw [ev_eq (pl_left (pl_right hr))] at hy'
 have hr3 := pl_right (pl_right hr)
 have hd' : t' (.o d) = .none := (hr3 _ (by simp)).trans hd
 obtain ⟨ad, c, news, hu, hnl, hrow, hone, hsrc⟩ := hs.rel hlen (fun p hp => hr3 p (by simp [hp])) hi hy'
 obtain ⟨E1, hw1, x1, hi1, hv1⟩ := hi.newRow hd' e k
 have hnil : RelV E1 (.oref d ([] : List (List TV)).length) (a.eval x) := by
  simp only [RelV, List.length_nil]
  exact ⟨by rw [hx']; rfl, k, 0, _, hv1, Nat.le_refl _, fun _ => hx'⟩
 obtain ⟨v', E', hrun, hinv, hrel⟩ := hi1.append (upd_same _ _ _) he hk hb hz hzs hk0 hnil (ty := o.type) (c := c) hnl (hrow.up x1) hone (by rw [hw1]; exact hsrc) (by simpa using hroom) (by simpa using hroom2)
 rw [upd_upd] at hinv
 refine ⟨_, v', E', run_app_op ho (by rw [hu, ← hw1]; exact hrun), .inl rfl, by simpa [over] using hinv, by simpa using hrel⟩
def toD : TV → Option D
 | .d x => some x
 | .c (.slice none 0 0) => some (.sl [])
 | _ => none
def toDs : List TV → Option (List D)
 | [] => some []
 | t :: ts => match toD t, toDs ts with
   | some x, some xs => some (x :: xs)
   | _, _ => none
def dd (xs : List (List D)) : List (List TV) := xs.map (·.map .d)
def toDss : List (List TV) → Option (List (List D))
 | [] => some []
 | e :: es => match toDs e, toDss es with
   | some x, some xs => some (x :: xs)
   | _, _ => none
theorem toD_rel {E : En} {t : TV} {x : D} (h : toD t = some x) {u : Value} (hr : RelV E t u) : Rep E x u := by
 unfold toD at h
 split at h
 ·simp only [Option.some.injEq] at h; subst h; simpa only [RelV] using hr
 ·simp only [Option.some.injEq] at h; subst h
  simp only [RelV] at hr
  simp only [Rep]
  exact .inl ⟨rfl, _, _, hr⟩
 ·simp at h
theorem toDs_get {ts : List TV} {xs : List D} (h : toDs ts = some xs) : xs.length = ts.length ∧ ∀ (i : Nat) (x : D), xs[i]? = some x → ∃ t, ts[i]? = some t ∧ toD t = some x := by
 induction ts generalizing xs with
 | nil => simp [toDs] at h; subst h; simp
 | cons t ts ih =>
   simp only [toDs] at h
   split at h
   ·rename_i x xs' h1 h2
    simp only [Option.some.injEq] at h
    subst h
    obtain ⟨h3, h4⟩ := ih h2
    refine ⟨by simp [h3], fun i y hy => ?_⟩
    cases i with
    | zero => simp at hy; subst hy; exact ⟨t, rfl, h1⟩
    | succ i => simpa using h4 i y (by simpa using hy)
   ·simp at h
theorem toDss_get {es : List (List TV)} {xs : List (List D)} (h : toDss es = some xs) : xs.length = es.length ∧ ∀ (i : Nat) (x : List D), xs[i]? = some x → ∃ e, es[i]? = some e ∧ toDs e = some x := by
 induction es generalizing xs with
 | nil => simp [toDss] at h; subst h; simp
 | cons t ts ih =>
   simp only [toDss] at h
   split at h
   ·rename_i x xs' h1 h2
    simp only [Option.some.injEq] at h
    subst h
    obtain ⟨h3, h4⟩ := ih h2
    refine ⟨by simp [h3], fun i y hy => ?_⟩
    cases i with
    | zero => simp at hy; subst hy; exact ⟨t, rfl, h1⟩
    | succ i => simpa using h4 i y (by simpa using hy)
   ·simp at h
theorem InvE.freeze {t : S} {a : Act} {E : En} (hi : InvE A t a E) {id e k : Nat} {es : List (List TV)} {sh : Bool} (ht : t (.o id) = .row e k es sh) {xs : List (List D)} (hx : toDss es = some xs) :
  ∃ E' : En, E'.w = E.w ∧ ExtA E E' ∧ E'.blk = E.blk ∧ E'.val = E.val ∧ InvE A (upd t (.o id) (.row e k es true)) a E' ∧ (∀ u, RelV E (.oref id es.length) u → Rep E' (.sl xs) u) ∧
   (∀ b o, E'.St b o → E.St b o ∨ E.own (.o id) = some b) := by
 obtain ⟨hblk, v, us, hval, hown, hrel, hcur⟩ := row_cur hi ht
 have hownp : E.own (.o id) = v.ownBlock := by simp [En.own, hblk, hval]
 obtain ⟨hxl, hxg⟩ := toDss_get hx
 let E' : En := { E with St := fun b o => E.St b o ∨ (v.ownBlock = some b ∧ o < es.length * k) }
 have x : ExtA E E' := ⟨fun _ _ h => .inl h, fun _ _ _ => rfl, fun _ _ _ h => h, fun _ _ h => h, fun _ _ h => h, fun _ _ c u _ hu => ⟨c, u, hu, Nat.le_refl _, fun _ => rfl⟩⟩
 have hH1 : HInv E (upd t (.o id) (.row e k es true)) := by
  refine hi.h.change (by simp) (Ext.refl _ _) (fun b o h => .inl h) (fun _ _ => rfl) (fun _ _ => rfl) (Nat.le_refl _) (fun _ _ _ _ => rfl) (fun b hb => ⟨hi.h.size _ _ hb, .inl hb⟩) ?_ (fun b o hs hb => ?_)
  ·exact ⟨hblk, id, v, us, rfl, hval, hown, hrel⟩
  ·obtain ⟨e2, k2, es2, h1, h2⟩ := hi.h.sep b o hs _ hb
   rw [ht] at h1
   simp only [It.row.injEq] at h1
   obtain ⟨rfl, rfl, rfl, _⟩ := h1
   exact ⟨e, k, es, rfl, h2⟩
 have hH : HInv E' (upd t (.o id) (.row e k es true)) := by
  refine hH1.more x rfl rfl (Nat.le_refl _) (fun _ _ => rfl) (fun b o hst => hst.imp (fun h => h) fun ⟨h1, h2⟩ => ?_)
  refine ⟨(hown.lt b h1).2, fun p hp => ?_⟩
  have : p = .o id := hi.h.inj p (.o id) b hp (by rw [hownp, h1])
  subst this
  exact ⟨e, k, es, upd_same _ _ _, h2⟩
 refine ⟨E', rfl, x, rfl, rfl, hi.step hH x (hi.fr.next rfl rfl rfl (Nat.le_refl _) (fun _ _ _ _ => rfl) (fun _ => rfl) (fun i b hb => .inl hb) (fun _ _ h => .inl h) (fun b o h => h.imp (fun h => h) fun ⟨h1, _⟩ => hi.fr.new id b (by rw [hownp, h1]))) (fun k => upd_s (by simp) k), fun u hu => ?_,
  fun b o h => h.imp (fun h => h) fun ⟨h1, _⟩ => by rw [hownp, h1]⟩
 have hv := hcur u hu
 subst hv
 simp only [Rep]
 rcases hown.2 with ⟨rfl, h0⟩ | ⟨g, cap, cur, rfl, hb, hg, hnc, hcm, hcs, htake⟩
 ·exact .inl ⟨by omega, none, 0, rfl⟩
 ·refine .inr ⟨g, 0, cap, k, by rw [hxl], by omega, RepRows.of_get fun i xe hxi => ?_⟩
  obtain ⟨el, h1, h2⟩ := hxg i xe hxi
  obtain ⟨h3, h4⟩ := toDs_get h2
  obtain ⟨h5, h6⟩ := hrel.get h1
  have hil : i < es.length := (List.getElem?_eq_some_iff.1 h1).1
  have hmul : i * k + k ≤ es.length * k := by
   have : (i + 1) * k ≤ es.length * k := Nat.mul_le_mul_right k hil
   rwa [Nat.add_mul, Nat.one_mul] at this
  refine ⟨by omega, RepCells.of_get fun j y hy => ?_⟩
  obtain ⟨tv, h7, h8⟩ := h4 j y hy
  have hj : j < k := by rw [← h5]; exact (List.getElem?_eq_some_iff.1 h7).1
  obtain ⟨u, h9, _, h10⟩ := h6.get h7
  refine ⟨.inr ⟨rfl, by omega⟩, u, ?_, (toD_rel h8 h10).up x⟩
  have := hown.cells (g := g) rfl _ _ h9
  rwa [add_lit', Nat.zero_add] at this
end
end Go.Tr

namespace Go.Tr
open Go
section
variable {P : Program} {A : Actv}
theorem fold_put : ∀ (vs : List Value) (n off : Nat) (cells : Array Value), off + n + vs.length ≤ cells.size →
  ((vs.zipIdx n).foldl (fun cs (x : Value × Nat) => cs.setIfInBounds (off + x.2) x.1) cells).toList = cells.toList.take (off + n) ++ vs ++ cells.toList.drop (off + n + vs.length)
 | [], n, off, cells, _ => by simp
 | v :: vs, n, off, cells, h => by
   simp only [List.length_cons] at h
   rw [List.zipIdx_cons, List.foldl_cons, fold_put vs (n + 1) off (cells.setIfInBounds (off + n) v) (by simp; omega)]
   apply List.ext_getElem?
   intro j
   rw [get_put (cur := (cells.setIfInBounds (off + n) v).toList) (q := off + (n + 1)) (by simp; omega), get_put (cur := cells.toList) (vs := v :: vs) (q := off + n) (by simp; omega)]
   have hs : ∀ j : Nat, (cells.setIfInBounds (off + n) v).toList[j]? = if j = off + n then some v else cells.toList[j]? := fun j => by
    rw [Array.toList_setIfInBounds, listSet_get (by simp; omega)]
   by_cases h1 : j < off + n
   ·rw [if_pos (by omega), if_pos h1, hs, if_neg (by omega)]
   ·by_cases h2 : j = off + n
    ·subst h2
     rw [if_pos (by omega), hs, if_pos rfl, if_neg h1, if_pos (by simp)]
     simp
    ·rw [if_neg (by omega), if_neg h1]
     by_cases h3 : j < off + n + (vs.length + 1)
     ·rw [if_pos (by omega), if_pos (by simp; omega), show j - (off + n) = (j - (off + (n + 1))) + 1 by omega]
      simp
     ·rw [if_neg (by omega), if_neg (by simp; omega), hs, if_neg h2]
def fillT (place : Nat → Option (Nat × Nat)) (cells : List TV) : List (Nat × TV) → Option (List TV)
 | [] => some cells
 | (i, v) :: rest =>
   match place i with
   | none => none
   | some (off, size) => if v.cells.length ≠ size ∨ cells.length < off + v.cells.length then none else fillT place (setAt cells off v.cells) rest
theorem TV.one_cells {E : En} {v : TV} {u : Value} (hr : RelV E v u) (h1 : ∀ c ∈ v.cells, c.one = true) : RelVs E v.cells u.cells.toList := by
 cases v with
 | agg vs =>
   simp only [RelV] at hr
   obtain ⟨us, rfl, h⟩ := hr
   simpa [TV.cells, Value.cells] using h
 | _ =>
   have h2 := cells_rel hr h1
   refine RelVs.of_get (by simpa using h2.1) fun i t u' ht hu => ?_
   obtain ⟨u'', h3, _, h4⟩ := h2.2.get ht
   rw [Nat.zero_add, hu] at h3
   simp only [Option.some.injEq] at h3
   rw [h3]; exact h4
theorem RelVs.setAt {E : En} {cs vs : List TV} {us ws : List Value} (h : RelVs E cs us) (g : RelVs E vs ws) {off : Nat} (hl : off + vs.length ≤ cs.length) :
  RelVs E (setAt cs off vs) (us.take off ++ ws ++ us.drop (off + ws.length)) := by
 have h1 := h.length
 have h2 := g.length
 refine RelVs.of_get ?_ fun i t u ht hu => ?_
 ·rw [setAt_length hl]; simp; omega
 ·rw [setAt_get hl] at ht
  rw [get_put (by omega)] at hu
  by_cases h3 : i < off
  ·rw [if_pos h3] at ht hu
   obtain ⟨u', h4, h5⟩ := h.get ht
   rw [hu] at h4; simp only [Option.some.injEq] at h4; rw [h4]; exact h5
  ·rw [if_neg h3] at ht hu
   by_cases h4 : i < off + vs.length
   ·rw [if_pos h4] at ht
    rw [if_pos (by omega)] at hu
    obtain ⟨u', h4, h5⟩ := g.get ht
    rw [hu] at h4; simp only [Option.some.injEq] at h4; rw [h4]; exact h5
   ·rw [if_neg h4] at ht
    rw [if_neg (by omega)] at hu
    obtain ⟨u', h4, h5⟩ := h.get ht
    rw [hu] at h4; simp only [Option.some.injEq] at h4; rw [h4]; exact h5
theorem fill_rel {E : En} {place : Nat → Option (Nat × Nat)} : ∀ {ps : List (Nat × TV)} {qs : List (Nat × Value)} {cells r : List TV} {us : Array Value},
  fillT place cells ps = some r → (∀ p ∈ ps, ∀ c ∈ p.2.cells, c.one = true) → RelVs E cells us.toList → ps.length = qs.length →
  (∀ (i : Nat) (p : Nat × TV) (q : Nat × Value), ps[i]? = some p → qs[i]? = some q → p.1 = q.1 ∧ RelV E p.2 q.2) →
  ∃ ru, Instr.fill place us qs = some ru ∧ RelVs E r ru.toList
 | [], [], cells, r, us, h, _, hr, _, _ => by
   simp only [fillT, Option.some.injEq] at h
   subst h
   exact ⟨us, rfl, hr⟩
 | [], _ :: _, _, _, _, _, _, _, hl, _ => by simp at hl
 | _ :: _, [], _, _, _, _, _, _, hl, _ => by simp at hl
 | (i, v) :: ps, (i', u) :: qs, cells, r, us, h, h1, hr, hl, hp => by
   obtain ⟨hii, hv⟩ := hp 0 (i, v) (i', u) rfl rfl
   simp only at hii hv
   subst hii
   simp only [fillT] at h
   cases hpl : place i with
   | none => simp [hpl] at h
   | some os =>
     obtain ⟨off, size⟩ := os
     simp only [hpl] at h
     split at h
     ·simp at h
     ·rename_i hc
      simp only [not_or, Decidable.not_not, Nat.not_lt] at hc
      have hone : ∀ c ∈ v.cells, c.one = true := h1 (i, v) (by simp)
      have hcr := TV.one_cells hv hone
      have hcs : u.cells.size = v.cells.length := by simpa using hcr.length
      have hus : us.size = cells.length := by simpa using hr.length
      have hput := fold_put u.cells.toList 0 off us (by simp; omega)
      simp only [Nat.add_zero, Array.length_toList] at hput
      have hset := hr.setAt hcr hc.2
      simp only [Array.length_toList] at hset
      rw [← hput] at hset
      obtain ⟨ru, h2, h3⟩ := fill_rel (qs := qs) h (fun p hp => h1 p (by simp [hp])) hset (by simpa using hl) (fun j p q hj hq => hp (j + 1) p q (by simpa using hj) (by simpa using hq))
      refine ⟨ru, ?_, h3⟩
      have hfold : u.cells.zipIdx.foldl (fun cs x => cs.setIfInBounds (off + x.2) x.1) us = (u.cells.toList.zipIdx).foldl (fun cs (x : Value × Nat) => cs.setIfInBounds (off + x.2) x.1) us := by
       rw [← Array.foldl_toList, Array.toList_zipIdx]
      have hn : ¬ (us.size < off + u.cells.size) := by omega
      simp only [Instr.fill, hpl, hcs, hc.1, ne_eq, not_true_eq_false, decide_false, Bool.false_or, gt_iff_lt, decide_eq_true_eq]
      rw [if_neg (by omega)]
      rw [← h2]
      congr 1
def stF (P : Program) (t : TypeId) : Option (List (Nat × Nat)) :=
 match P.underlying t with
 | some (.struct fs) => fs.toList.mapM fun f => (szO P f.type).map fun z => (f.offset, z)
 | _ => none
theorem mapM_places {w : World} : ∀ (fs : List Field) (r : List (Nat × Nat)), fs.mapM (fun f => (szO P f.type).map fun z => (f.offset, z)) = some r →
  (fs.mapM (fun f => do pure (f.offset, ← sizeOf f.type) : Field → Sem (Nat × Nat))).run P w = .ok r w
 | [], r, h => by simp at h; subst h; simp
 | f :: fs, r, h => by
   simp only [List.mapM_cons, bind, Option.bind_eq_some_iff, Option.map_eq_some_iff, pure, Option.some.injEq] at h
   obtain ⟨_, ⟨z, hz, rfl⟩, r', h2, rfl⟩ := h
   have ih := mapM_places (w := w) fs r' h2
   unfold szO at hz
   cases hi : P.info? f.type with
   | none => simp [hi] at hz
   | some inf =>
     simp only [hi, Option.map_some, Option.some.injEq] at hz
     simp only [List.mapM_cons, sizeOf, typeInfo, Sem.run_bind, run_program, Result.andThen_ok, hi, Sem.run_pure, hz]
     simp only [sizeOf, typeInfo] at ih
     rw [ih]
     simp
theorem parts_rel {t : S} {a : Act} {E : En} (hi : InvE A t a E) (ps : List (Nat × Operand)) : ∀ (i : Nat) (p : Nat × TV) (q : Nat × Value), (ps.map fun x => (x.1, ev t x.2))[i]? = some p → (ps.map fun x => (x.1, a.eval x.2))[i]? = some q →
  p.1 = q.1 ∧ RelV E p.2 q.2 := fun i p q hp hq => by
 simp only [List.getElem?_map, Option.map_eq_some_iff] at hp hq
 obtain ⟨x, h1, rfl⟩ := hp
 obtain ⟨y, h2, rfl⟩ := hq
 rw [h1] at h2; simp only [Option.some.injEq] at h2; subst h2
 exact ⟨rfl, ev_rel hi _⟩
theorem parts_eq {t t' : S} : ∀ {ps : List (Nat × Operand)}, (∀ p ∈ ps.flatMap (fun x => pl x.2), t' p = t p) → (ps.map fun x => (x.1, ev t' x.2)) = ps.map fun x => (x.1, ev t x.2)
 | [], _ => rfl
 | x :: xs, h => by
   simp only [List.map_cons]
   rw [ev_eq (fun p hp => h p (by simp [hp])), parts_eq (fun p hp => h p (by simp only [List.flatMap_cons]; exact List.mem_append_right _ hp))]
theorem eff_build {o : Oper} {t : S} {ty : TypeId} {ps : List (Nat × Operand)} {fs : List (Nat × Nat)} {z : Value} {r : List TV} (ho : o.op = .build ty ps.toArray) (hf : stF P ty = some fs) (hz : zrO P ty = some z)
  (hr : fillT (fun i => fs[i]?) ((zcells z).map ofCell) (ps.map fun x => (x.1, ev t x.2)) = some r) :
  EffOK P A o t ⟨∀ p ∈ ps.map (fun x => (x.1, ev t x.2)), ∀ c ∈ p.2.cells, c.one = true, ps.flatMap (fun x => pl x.2), [], .agg r⟩ :=
 .pure fun hC t' hr' a E hi => by
  have hpe := parts_eq hr'
  have hp := parts_rel hi ps
  rw [hpe] at hp
  have hz0 : RelVs E ((zcells z).map ofCell) z.cells.toList := by rw [zcells_eq]; exact ofCells_rel E _
  obtain ⟨ru, h1, h2⟩ := fill_rel (qs := ps.map fun x => (x.1, a.eval x.2)) hr hC hz0 (by simp) hp
  refine ⟨.agg ru, ?_, by simp only [RelV]; exact ⟨ru, rfl, h2⟩⟩
  unfold stF at hf
  split at hf
  ·rename_i fs' hu
   have hm := mapM_places (P := P) (w := E.w) _ _ hf
   have hm' : (fs'.mapM (fun f => do pure (f.offset, ← sizeOf f.type) : Field → Sem (Nat × Nat))).run P E.w = .ok fs.toArray E.w := by
    rw [← Array.toArray_toList (xs := fs'), List.mapM_toArray]
    rw [Sem.run_map, hm]
    rfl
   unfold zrO at hz
   cases hinf : P.info? ty with
   | none => simp [hinf] at hz
   | some inf =>
     simp only [hinf, Option.bind_some] at hz
     have hplace : (fun i : Nat => fs.toArray[i]?) = fun i : Nat => fs[i]? := by funext i; simp
     have hzero : (zeroValue ty).run P E.w = .ok z E.w := by simp [zeroValue, typeInfo, hinf, hz]
     have hrun : (Instr.build ty (ps.map fun x => (x.1, a.eval x.2)).toArray).run P E.w = .ok (.agg ru) E.w := by
      unfold Instr.build
      simp only [Sem.run_bind, hzero, Result.andThen_ok, run_underlying hu, hm', hplace, h1, Sem.run_pure]
     simp only [execOp, ho, List.map_toArray, Sem.run_bind, hrun, Result.andThen_ok, Sem.run_pure]
  ·simp at hf
def arF (P : Program) (t : TypeId) : Option Nat :=
 match P.underlying t with
 | some (.array _ e) => szO P e
 | _ => none
theorem eff_buildA {o : Oper} {t : S} {ty : TypeId} {ps : List (Nat × Operand)} {k : Nat} {z : Value} {r : List TV} (ho : o.op = .build ty ps.toArray) (hf : arF P ty = some k) (hz : zrO P ty = some z)
  (hr : fillT (fun i => some (i * k, k)) ((zcells z).map ofCell) (ps.map fun x => (x.1, ev t x.2)) = some r) :
  EffOK P A o t ⟨∀ p ∈ ps.map (fun x => (x.1, ev t x.2)), ∀ c ∈ p.2.cells, c.one = true, ps.flatMap (fun x => pl x.2), [], .agg r⟩ :=
 .pure fun hC t' hr' a E hi => by
  have hpe := parts_eq hr'
  have hp := parts_rel hi ps
  rw [hpe] at hp
  have hz0 : RelVs E ((zcells z).map ofCell) z.cells.toList := by rw [zcells_eq]; exact ofCells_rel E _
  obtain ⟨ru, h1, h2⟩ := fill_rel (qs := ps.map fun x => (x.1, a.eval x.2)) hr hC hz0 (by simp) hp
  refine ⟨.agg ru, ?_, by simp only [RelV]; exact ⟨ru, rfl, h2⟩⟩
  unfold arF at hf
  split at hf
  ·rename_i n e hu
   unfold zrO at hz
   cases hinf : P.info? ty with
   | none => simp [hinf] at hz
   | some inf =>
     simp only [hinf, Option.bind_some] at hz
     have hzero : (zeroValue ty).run P E.w = .ok z E.w := by simp [zeroValue, typeInfo, hinf, hz]
     have hsz : (sizeOf e).run P E.w = .ok k E.w := by
      unfold szO at hf
      cases hie : P.info? e with
      | none => simp [hie] at hf
      | some ie =>
        simp only [hie, Option.map_some, Option.some.injEq] at hf
        simp [sizeOf, typeInfo, hie, hf]
     have hrun : (Instr.build ty (ps.map fun x => (x.1, a.eval x.2)).toArray).run P E.w = .ok (.agg ru) E.w := by
      unfold Instr.build
      simp only [Sem.run_bind, hzero, Result.andThen_ok, run_underlying hu, hsz, h1, Sem.run_pure]
     simp only [execOp, ho, List.map_toArray, Sem.run_bind, hrun, Result.andThen_ok, Sem.run_pure]
  ·simp at hf
end
end Go.Tr

namespace Go.Tr
open Go
section
variable {P : Program} {A : Actv}
theorem fillT_seq {k : Nat} : ∀ (vs : List TV) (i : Nat) (dn : List TV), dn.length = i * k → (∀ v ∈ vs, v.cells.length = k) →
  fillT (fun i => some (i * k, k)) (dn ++ List.replicate (vs.length * k) .junk) (vs.zipIdx i |>.map fun x => (x.2, x.1)) = some (dn ++ vs.flatMap TV.cells)
 | [], i, dn, _, _ => by simp [fillT]
 | v :: vs, i, dn, hd, hv => by
   have hvk : v.cells.length = k := hv v (by simp)
   simp only [List.zipIdx_cons, List.map_cons, fillT, hvk, ne_eq, not_true_eq_false, false_or]
   rw [if_neg (by simp only [List.length_append, List.length_replicate, List.length_cons, hd, hvk, Nat.add_mul]; omega)]
   have : setAt (dn ++ List.replicate ((vs.length + 1) * k) .junk) (i * k) v.cells = (dn ++ v.cells) ++ List.replicate (vs.length * k) .junk := by
    unfold setAt
    rw [← hd, List.take_left, List.drop_append, List.drop_eq_nil_of_le (by omega)]
    simp [hvk, Nat.add_mul, List.append_assoc]
   simp only [List.length_cons]
   rw [this, fillT_seq vs (i + 1) (dn ++ v.cells) (by simp [hd, hvk, Nat.add_mul]) (fun x hx => hv x (by simp [hx]))]
   simp [List.append_assoc]
theorem InvE.newLit {t : S} {a : Act} {E : En} (hi : InvE A t a E) {us : Array Value} {ty : TypeId} :
  ∃ E' : En, E'.w = E.w.alloc (.cells us ty) ∧ ExtA E E' ∧ InvE A t a E' ∧ (∀ j, j < us.size → E'.St E.w.heap.size j) := by
 let E' : En := { E with w := E.w.alloc (.cells us ty), St := fun b o => E.St b o ∨ (b = E.w.heap.size ∧ o < us.size) }
 have hold : ∀ b, b < E.w.heap.size → E'.w.heap[b]? = E.w.heap[b]? := fun b hb => heap_alloc_old E.w _ b hb
 have x : ExtA E E' := ⟨fun _ _ h => .inl h, fun b o hst => atW_of_block (hold b (hi.h.stsz b o hst)), fun _ _ _ h => h, fun _ _ h => h, fun _ _ h => h, fun _ _ c u _ hu => ⟨c, u, hu, Nat.le_refl _, fun _ => rfl⟩⟩
 have hH : HInv E' t := hi.h.more x rfl rfl (by simp [E']) hold (fun b o hst => hst.imp (fun h => h) fun ⟨h1, h2⟩ => ⟨by simp [E', h1], fun p hp => by
  have := hi.h.size p b hp; omega⟩)
 exact ⟨E', rfl, x, hi.step hH x (hi.fr.next rfl rfl rfl (by simp [E']) (fun b hb _ _ => hold b (Nat.lt_of_lt_of_le hb hi.fr.size)) (fun _ => rfl) (fun _ _ h => .inl h) (fun _ _ h => .inl h) (fun b o h => h.imp (fun h => h) fun ⟨h1, _⟩ => .inl (by have := hi.fr.size; omega))) (fun _ => rfl),
  fun j hj => .inr ⟨rfl, hj⟩⟩
theorem flat_get {k : Nat} : ∀ {vs : List TV} (_ : ∀ v ∈ vs, v.cells.length = k) {i : Nat} {v : TV} (_ : vs[i]? = some v) {j : Nat} {tv : TV} (_ : v.cells[j]? = some tv), (vs.flatMap TV.cells)[i * k + j]? = some tv
 | [], _, _, _, h, _, _, _ => by simp at h
 | w :: vs, hk, 0, v, h, j, tv, hj => by
   simp at h; subst h
   rw [List.flatMap_cons, List.getElem?_append_left (by simp; exact (List.getElem?_eq_some_iff.1 hj).1)]
   simpa using hj
 | w :: vs, hk, i + 1, v, h, j, tv, hj => by
   have := flat_get (vs := vs) (fun v hv => hk v (by simp [hv])) (i := i) (by simpa using h) hj
   have hw : w.cells.length = k := hk w (by simp)
   rw [List.flatMap_cons, List.getElem?_append_right (by rw [hw, Nat.add_mul]; omega), hw, Nat.add_mul, Nat.one_mul, show i * k + k + j - k = i * k + j by omega]
   exact this
theorem toDs_flat {vs : List TV} {xss : List (List D)} (h : toDss (vs.map TV.cells) = some xss) {k : Nat} (hk : ∀ v ∈ vs, v.cells.length = k) {i : Nat} {e : List D} (he : xss[i]? = some e) {j : Nat} {x : D} (hx : e[j]? = some x) :
  ∃ tv, (vs.flatMap TV.cells)[i * k + j]? = some tv ∧ toD tv = some x := by
 obtain ⟨hL, hg⟩ := toDss_get h
 obtain ⟨cs, h1, h2⟩ := hg i e he
 obtain ⟨h3, h4⟩ := toDs_get h2
 obtain ⟨tv, h5, h6⟩ := h4 j x hx
 simp only [List.getElem?_map, Option.map_eq_some_iff] at h1
 obtain ⟨v, h7, rfl⟩ := h1
 exact ⟨tv, flat_get hk h7 h5, h6⟩
theorem run_buildSlice {ty e k : Nat} {z : Value} (he : slE P ty = some e) (hk : szO P e = some k) (hz : zrO P e = some z) {vs : List TV} {us : List Value} {E : En} (hr : RelVs E vs us) (hl : ∀ v ∈ vs, v.cells.length = k) (h1 : ∀ v ∈ vs, ∀ c ∈ v.cells, c.one = true)
  (hsmall : vs.length * k ≤ 16777216) :
  ∃ ru : Array Value, (Instr.buildSlice ty vs.length ((us.zipIdx.map fun x => (x.2, x.1)).toArray)).run P E.w = .ok (.slice (some ⟨E.w.heap.size, 0, none⟩) vs.length vs.length) (E.w.alloc (.cells ru e)) ∧
   ru.size = vs.length * k ∧ RelVs E (vs.flatMap TV.cells) ru.toList := by
 unfold slE at he
 split at he
 rotate_left
 ·simp at he
 rename_i e' hu
 simp only [Option.some.injEq] at he; subst he
 unfold szO at hk; unfold zrO at hz
 cases hinf : P.info? e' with
 | none => simp [hinf] at hk
 | some inf =>
 simp only [hinf, Option.map_some, Option.some.injEq, Option.bind_some] at hk hz
 have hfill := fillT_seq vs 0 [] (by simp) hl
 simp only [List.nil_append] at hfill
 have hbase : ∀ b : Array Value, b.size = vs.length * k → RelVs E (List.replicate (vs.length * k) .junk) b.toList := fun b hb =>
  RelVs.of_get (by simp [hb]) fun i t u ht _ => by
   simp [List.getElem?_replicate] at ht
   obtain ⟨_, rfl⟩ := ht
   simp only [RelV]
 have go : ∀ b : Array Value, b.size = vs.length * k → ∃ ru, Instr.fill (fun i => some (i * k, k)) b (us.zipIdx.map fun x => (x.2, x.1)) = some ru ∧ RelVs E (vs.flatMap TV.cells) ru.toList := fun b hb => by
  refine fill_rel (qs := us.zipIdx.map fun x => (x.2, x.1)) hfill (fun p hp c hc => ?_) (hbase b hb) (by simp [hr.length]) (fun i p q hp hq => ?_)
  ·simp only [List.mem_map] at hp
   obtain ⟨x, hx, rfl⟩ := hp
   exact h1 x.1 (by
    have := List.mem_zipIdx hx
    exact List.fst_mem_of_mem_zipIdx hx) c hc
  ·simp only [List.getElem?_map, List.getElem?_zipIdx, Option.map_eq_some_iff, Nat.zero_add] at hp hq
   obtain ⟨x, ⟨v, h2, rfl⟩, rfl⟩ := hp
   obtain ⟨y, ⟨u, h3, rfl⟩, rfl⟩ := hq
   refine ⟨rfl, ?_⟩
   obtain ⟨u', h4, h5⟩ := hr.get h2
   rw [h3] at h4; simp only [Option.some.injEq] at h4; subst h4
   exact h5
 have hlenflat : (vs.flatMap TV.cells).length = vs.length * k := by
  clear hfill hbase go hr hsmall h1
  induction vs with
  | nil => simp
  | cons v vs ih => simp [hl v (by simp), ih (fun x hx => hl x (by simp [hx])), Nat.add_mul]; omega
 have hns : ¬ (16777216 < vs.length * k) := by omega
 by_cases h0 : vs.length * k = 0
 ·obtain ⟨ru, h2, h3⟩ := go ((Array.range (vs.length * k)).map ((#[] : Array Value)[· % (#[] : Array Value).size]!)) (by simp)
  refine ⟨ru, ?_, by have := h3.length; rw [hlenflat] at this; simpa using this, h3⟩
  simp only [Instr.buildSlice, Sem.run_bind, run_underlying hu, Result.andThen_ok, sizeOf, typeInfo, run_program, hinf, Sem.run_pure, hk, gt_iff_lt, Nat.reducePow, hns, if_false, if_pos h0, newRow, run_newObj, h2, pure_bind]
  rfl
 ·obtain ⟨ru, h2, h3⟩ := go ((Array.range (vs.length * k)).map (z.cells[· % z.cells.size]!)) (by simp)
  refine ⟨ru, ?_, by have := h3.length; rw [hlenflat] at this; simpa using this, h3⟩
  simp only [Instr.buildSlice, Sem.run_bind, run_underlying hu, Result.andThen_ok, sizeOf, typeInfo, run_program, hinf, Sem.run_pure, hk, gt_iff_lt, Nat.reducePow, hns, if_false, h0, zeroValue, hz, newRow, run_newObj, h2, pure_bind]
  rfl
def seqParts (ps : List (Nat × Operand)) (n : Nat) : Bool := (ps.map (·.1)) == List.range n
theorem parts_zip {α : Type} (f : Operand → α) : ∀ (ps : List (Nat × Operand)) (i : Nat), ps.map (·.1) = List.range' i ps.length → (ps.map fun x => (x.1, f x.2)) = ((ps.map fun x => f x.2).zipIdx i).map fun x => (x.2, x.1)
 | [], _, _ => rfl
 | p :: ps, i, h => by
   simp only [List.map_cons, List.length_cons, List.range'_succ, List.cons.injEq] at h
   simp only [List.map_cons, List.zipIdx_cons, List.cons.injEq]
   exact ⟨by rw [h.1], parts_zip f ps (i + 1) h.2⟩
theorem eff_buildSlice {o : Oper} {t : S} {ty e k n : Nat} {ps : List (Nat × Operand)} {z : Value} {xss : List (List D)} (ho : o.op = .buildSlice ty n ps.toArray) (he : slE P ty = some e) (hk : szO P e = some k) (hz : zrO P e = some z)
  (hseq : seqParts ps n = true) (hx : toDss (ps.map fun x => (ev t x.2).cells) = some xss) :
  EffOK P A o t ⟨(∀ e ∈ ps.map (fun x => (ev t x.2).cells), e.length = k ∧ ∀ c ∈ e, c.one = true) ∧ n * k ≤ 16777216, ps.flatMap (fun x => pl x.2), [], .d (.sl xss)⟩ := fun ⟨hC, hsm⟩ t' hr a E hi => by
 have hseq' : ps.map (·.1) = List.range n := by simpa [seqParts] using hseq
 have hn : ps.length = n := by have := congrArg List.length hseq'; simpa using this
 rw [List.range_eq_range', ← hn] at hseq'
 have hev : (ps.map fun x => ev t' x.2) = ps.map fun x => ev t x.2 := by
  have := parts_eq hr
  exact List.map_congr_left fun x hx => by
   refine ev_eq fun p hp => hr p (List.mem_flatMap.2 ⟨x, hx, hp⟩)
 let vs := ps.map fun x => ev t x.2
 let us := ps.map fun x => a.eval x.2
 have hrel : RelVs E vs us := by
  have := evs_rel hi (ps.map (·.2))
  simp only [List.map_map] at this
  have h2 : (List.map (ev t' ∘ fun x => x.2) ps) = vs := hev
  rw [h2] at this
  exact this
 have hCm : ∀ v ∈ vs, v.cells.length = k ∧ ∀ c ∈ v.cells, c.one = true := fun v hv => by
  simp only [vs, List.mem_map] at hv
  obtain ⟨x, hx, rfl⟩ := hv
  exact hC _ (List.mem_map.2 ⟨x, hx, rfl⟩)
 have hvl : vs.length = n := by simp [vs, hn]
 obtain ⟨ru, hrun, hsz, hrel2⟩ := run_buildSlice (P := P) he hk hz hrel (fun v hv => (hCm v hv).1) (fun v hv => (hCm v hv).2) (by rw [hvl]; exact hsm)
 obtain ⟨E', hw, x, hinv, hst⟩ := hi.newLit (us := ru) (ty := e)
 have hxx : toDss (vs.map TV.cells) = some xss := by
  rw [← hx]; simp [vs, Function.comp_def]
 obtain ⟨hxl, hxg⟩ := toDss_get hxx
 refine ⟨_, .slice (some ⟨E.w.heap.size, 0, none⟩) n n, E', ?_, .inl rfl, hinv, ?_⟩
 ·have hz2 := parts_zip (fun x => a.eval x) ps 0 hseq'
  simp only [execOp, ho, List.map_toArray, hz2, Sem.run_bind, hw]
  rw [← hvl, hrun]
  rfl
 ·simp only [RelV, Rep]
  refine .inr ⟨E.w.heap.size, 0, n, k, by rw [hxl]; simp [hvl], by rw [hxl]; simp [hvl], RepRows.of_get fun i el hel => ?_⟩
  have hil : i < n := by have := (List.getElem?_eq_some_iff.1 hel).1; rw [hxl] at this; simpa [hvl] using this
  have hmul : i * k + k ≤ n * k := by
   have : (i + 1) * k ≤ n * k := Nat.mul_le_mul_right k hil
   rwa [Nat.add_mul, Nat.one_mul] at this
  have hek : el.length = k := by
   obtain ⟨cs, h1, h2⟩ := hxg i el hel
   rw [(toDs_get h2).1]
   simp only [List.getElem?_map, Option.map_eq_some_iff] at h1
   obtain ⟨v, h3, rfl⟩ := h1
   exact (hCm v (List.mem_of_getElem? h3)).1
  refine ⟨hek, RepCells.of_get fun j xx hj => ?_⟩
  have hjk : j < k := by rw [← hek]; exact (List.getElem?_eq_some_iff.1 hj).1
  obtain ⟨tv, h4, h5⟩ := toDs_flat hxx (fun v hv => (hCm v hv).1) hel hj
  obtain ⟨u, h6, h7⟩ := hrel2.get h4
  refine ⟨hst _ (by rw [hsz, hvl]; omega), u, ?_, (toD_rel h5 h7).up x⟩
  rw [hw, cell_heap (heap_alloc_new E.w _)]
  simpa using h6
end
end Go.Tr

/-
  Laws of the layer between the model and plain data (states, operations, calls, loops); none has a condition beyond those that stand in its own statement.
-/
import Derived.Test.YtkhneohilohhiaaT8
set_option linter.unusedSimpArgs false
namespace Go.Tr
open Go

section
variable {P : Program} {A : Actv}

theorem upd_upd (t : S) (p : Pl) (i j : It) : upd (upd t p i) p j = upd t p j := by
  funext q; by_cases h : q = p <;> simp [upd, h]

def appOK (k b n : Nat) (ys : List (List TV)) : Prop := (∀ e ∈ ys, e.length = k) ∧ (n + ys.length) * b ≤ 140737488355328 ∧ n + ys.length ≤ 9223372036854775807

theorem run_app_op {o : Oper} {x y : Operand} {sty : TypeId} (ho : o.op = .call { callee := .builtin .append, args := #[x, y], argTypes := #[sty, sty] }) {a : Act} {w w' : World} {v : Value}
    (h : (Builtin.append_ #[sty, sty] o.type #[a.eval x, a.eval y]).run P w = .ok v w') : (execOp a.eval o).run P w = .ok (.value v) w' := by
  simp [execOp, ho, resolve, invoke, builtin, h]

theorem eff_append_row {o : Oper} {t : S} {x y : Operand} {sty : TypeId} {id n e k b : Nat} {es ys : List (List TV)} {sh : Bool} {rp : List Pl} {z : Value}
    (ho : o.op = .call { callee := .builtin .append, args := #[x, y], argTypes := #[sty, sty] }) (hx : ev t x = .oref id n) (ht : t (.o id) = .row e k es sh) (hs : Src t (ev t y) rp ys)
    (he : slE P sty = some e) (hk : szO P e = some k) (hb : byO P e = some b) (hz : zrO P e = some z) (hzs : (zcells z).length = k) (hk0 : 0 < k) :
    EffOK P A o t ⟨n = es.length ∧ appOK k b n ys, pl x ++ (pl y ++ (.o id :: rp)), [(.o id, .row e k (es ++ ys) sh)], .oref id (n + ys.length)⟩ := fun ⟨hn, hlen, hroom, hroom2⟩ t' hr a E hi => by
  have hx' := ev_rel hi x
  rw [ev_eq (pl_left hr), hx] at hx'
  have hy' := ev_rel hi y
  rw [ev_eq (pl_left (pl_right hr))] at hy'
  have hr3 := pl_right (pl_right hr)
  have ht' : t' (.o id) = .row e k es sh := (hr3 _ (by simp)).trans ht
  subst hn
  obtain ⟨ad, c, news, hu, hnl, hrow, hone, hsrc⟩ := hs.rel hlen (fun p hp => hr3 p (by simp [hp])) hi hy'
  obtain ⟨v', E', hrun, hinv, hrel⟩ := hi.append ht' he hk hb hz hzs hk0 hx' (ty := o.type) (c := c) hnl hrow hone hsrc hroom hroom2
  exact ⟨_, v', E', run_app_op ho (by rw [hu]; exact hrun), .inl rfl, hinv, hrel⟩

theorem eff_append_nil {o : Oper} {t : S} {x y : Operand} {sty : TypeId} {d e k b : Nat} {ys : List (List TV)} {rp : List Pl} {z : Value}
    (ho : o.op = .call { callee := .builtin .append, args := #[x, y], argTypes := #[sty, sty] }) (hx : ev t x = .c (.slice none 0 0)) (hs : Src t (ev t y) rp ys)
    (he : slE P sty = some e) (hk : szO P e = some k) (hb : byO P e = some b) (hz : zrO P e = some z) (hzs : (zcells z).length = k) (hk0 : 0 < k) :
    EffOK P A o t ⟨t (.o d) = .none ∧ appOK k b 0 ys, pl x ++ (pl y ++ (.o d :: rp)), [(.o d, .row e k ys false)], .oref d ys.length⟩ := fun ⟨hd, hlen, hroom, hroom2⟩ t' hr a E hi => by
  have hx' := ev_rel hi x
  rw [ev_eq (pl_left hr), hx] at hx'
  simp only [RelV] at hx'
  have hy' := ev_rel hi y
  rw [ev_eq (pl_left (pl_right hr))] at hy'
  have hr3 := pl_right (pl_right hr)
  have hd' : t' (.o d) = .none := (hr3 _ (by simp)).trans hd
  obtain ⟨ad, c, news, hu, hnl, hrow, hone, hsrc⟩ := hs.rel hlen (fun p hp => hr3 p (by simp [hp])) hi hy'
  obtain ⟨E1, hw1, x1, hi1, hv1⟩ := hi.newRow hd' e k
  have hnil : RelV E1 (.oref d ([] : List (List TV)).length) (a.eval x) := by
    simp only [RelV, List.length_nil]
    exact ⟨by rw [hx']; rfl, k, 0, _, hv1, Nat.le_refl _, fun _ => hx'⟩
  obtain ⟨v', E', hrun, hinv, hrel⟩ := hi1.append (upd_same _ _ _) he hk hb hz hzs hk0 hnil (ty := o.type) (c := c) hnl (hrow.up x1) hone (by rw [hw1]; exact hsrc) (by simpa using hroom) (by simpa using hroom2)
  rw [upd_upd] at hinv
  refine ⟨_, v', E', run_app_op ho (by rw [hu, ← hw1]; exact hrun), .inl rfl, by simpa [over] using hinv, by simpa using hrel⟩

/-! ### literals -/
def toD : TV → Option D
  | .d x => some x
  | .c (.slice none 0 0) => some (.sl [])
  | _ => none

def toDs : List TV → Option (List D)
  | [] => some []
  | t :: ts => match toD t, toDs ts with
    | some x, some xs => some (x :: xs)
    | _, _ => none

/-- rows of plain data -/
def dd (xs : List (List D)) : List (List TV) := xs.map (·.map .d)

def toDss : List (List TV) → Option (List (List D))
  | [] => some []
  | e :: es => match toDs e, toDss es with
    | some x, some xs => some (x :: xs)
    | _, _ => none

theorem toD_rel {E : En} {t : TV} {x : D} (h : toD t = some x) {u : Value} (hr : RelV E t u) : Rep E x u := by
  unfold toD at h
  split at h
  · simp only [Option.some.injEq] at h; subst h; simpa only [RelV] using hr
  · simp only [Option.some.injEq] at h; subst h
    simp only [RelV] at hr
    simp only [Rep]
    exact .inl ⟨rfl, _, _, hr⟩
  · simp at h

theorem toDs_get {ts : List TV} {xs : List D} (h : toDs ts = some xs) : xs.length = ts.length ∧ ∀ (i : Nat) (x : D), xs[i]? = some x → ∃ t, ts[i]? = some t ∧ toD t = some x := by
  induction ts generalizing xs with
  | nil => simp [toDs] at h; subst h; simp
  | cons t ts ih =>
    simp only [toDs] at h
    split at h
    · rename_i x xs' h1 h2
      simp only [Option.some.injEq] at h
      subst h
      obtain ⟨h3, h4⟩ := ih h2
      refine ⟨by simp [h3], fun i y hy => ?_⟩
      cases i with
      | zero => simp at hy; subst hy; exact ⟨t, rfl, h1⟩
      | succ i => simpa using h4 i y (by simpa using hy)
    · simp at h

theorem toDss_get {es : List (List TV)} {xs : List (List D)} (h : toDss es = some xs) : xs.length = es.length ∧ ∀ (i : Nat) (x : List D), xs[i]? = some x → ∃ e, es[i]? = some e ∧ toDs e = some x := by
  induction es generalizing xs with
  | nil => simp [toDss] at h; subst h; simp
  | cons t ts ih =>
    simp only [toDss] at h
    split at h
    · rename_i x xs' h1 h2
      simp only [Option.some.injEq] at h
      subst h
      obtain ⟨h3, h4⟩ := ih h2
      refine ⟨by simp [h3], fun i y hy => ?_⟩
      cases i with
      | zero => simp at hy; subst hy; exact ⟨t, rfl, h1⟩
      | succ i => simpa using h4 i y (by simpa using hy)
    · simp at h

/-- What a row shows becomes stable: it may be handed on as plain data. -/
theorem InvE.freeze {t : S} {a : Act} {E : En} (hi : InvE A t a E) {id e k : Nat} {es : List (List TV)} {sh : Bool} (ht : t (.o id) = .row e k es sh) {xs : List (List D)} (hx : toDss es = some xs) :
    ∃ E' : En, E'.w = E.w ∧ ExtA E E' ∧ E'.blk = E.blk ∧ E'.val = E.val ∧ InvE A (upd t (.o id) (.row e k es true)) a E' ∧ (∀ u, RelV E (.oref id es.length) u → Rep E' (.sl xs) u) ∧
      (∀ b o, E'.St b o → E.St b o ∨ E.own (.o id) = some b) := by
  obtain ⟨hblk, v, us, hval, hown, hrel, hcur⟩ := row_cur hi ht
  have hownp : E.own (.o id) = v.ownBlock := by simp [En.own, hblk, hval]
  obtain ⟨hxl, hxg⟩ := toDss_get hx
  let E' : En := { E with St := fun b o => E.St b o ∨ (v.ownBlock = some b ∧ o < es.length * k) }
  have x : ExtA E E' := ⟨fun _ _ h => .inl h, fun _ _ _ => rfl, fun _ _ _ h => h, fun _ _ h => h, fun _ _ h => h, fun _ _ c u _ hu => ⟨c, u, hu, Nat.le_refl _, fun _ => rfl⟩⟩
  have hH1 : HInv E (upd t (.o id) (.row e k es true)) := by
    refine hi.h.change (by simp) (Ext.refl _ _) (fun b o h => .inl h) (fun _ _ => rfl) (fun _ _ => rfl) (Nat.le_refl _) (fun _ _ _ _ => rfl) (fun b hb => ⟨hi.h.size _ _ hb, .inl hb⟩) ?_ (fun b o hs hb => ?_)
    · exact ⟨hblk, id, v, us, rfl, hval, hown, hrel⟩
    · obtain ⟨e2, k2, es2, h1, h2⟩ := hi.h.sep b o hs _ hb
      rw [ht] at h1
      simp only [It.row.injEq] at h1
      obtain ⟨rfl, rfl, rfl, _⟩ := h1
      exact ⟨e, k, es, rfl, h2⟩
  have hH : HInv E' (upd t (.o id) (.row e k es true)) := by
    refine hH1.more x rfl rfl (Nat.le_refl _) (fun _ _ => rfl) (fun b o hst => hst.imp (fun h => h) fun ⟨h1, h2⟩ => ?_)
    refine ⟨(hown.lt b h1).2, fun p hp => ?_⟩
    have : p = .o id := hi.h.inj p (.o id) b hp (by rw [hownp, h1])
    subst this
    exact ⟨e, k, es, upd_same _ _ _, h2⟩
  refine ⟨E', rfl, x, rfl, rfl, hi.step hH x (hi.fr.next rfl rfl rfl (Nat.le_refl _) (fun _ _ _ => rfl) (fun _ => rfl) (fun i b hb => .inl hb) (fun _ _ h => .inl h) (fun b o h => h.imp (fun h => h) fun ⟨h1, _⟩ => hi.fr.new id b (by rw [hownp, h1]))) (fun k => upd_s (by simp) k), fun u hu => ?_,
    fun b o h => h.imp (fun h => h) fun ⟨h1, _⟩ => by rw [hownp, h1]⟩
  have hv := hcur u hu
  subst hv
  simp only [Rep]
  rcases hown.2 with ⟨rfl, h0⟩ | ⟨g, cap, cur, rfl, hb, hg, hnc, hcm, hcs, htake⟩
  · exact .inl ⟨by omega, none, 0, rfl⟩
  · refine .inr ⟨g, 0, cap, k, by rw [hxl], by omega, RepRows.of_get fun i xe hxi => ?_⟩
    obtain ⟨el, h1, h2⟩ := hxg i xe hxi
    obtain ⟨h3, h4⟩ := toDs_get h2
    obtain ⟨h5, h6⟩ := hrel.get h1
    have hil : i < es.length := (List.getElem?_eq_some_iff.1 h1).1
    have hmul : i * k + k ≤ es.length * k := by
      have : (i + 1) * k ≤ es.length * k := Nat.mul_le_mul_right k hil
      rwa [Nat.add_mul, Nat.one_mul] at this
    refine ⟨by omega, RepCells.of_get fun j y hy => ?_⟩
    obtain ⟨tv, h7, h8⟩ := h4 j y hy
    have hj : j < k := by rw [← h5]; exact (List.getElem?_eq_some_iff.1 h7).1
    obtain ⟨u, h9, _, h10⟩ := h6.get h7
    refine ⟨.inr ⟨rfl, by omega⟩, u, ?_, (toD_rel h8 h10).up x⟩
    have := hown.cells (g := g) rfl _ _ h9
    rwa [add_lit', Nat.zero_add] at this


end
end Go.Tr

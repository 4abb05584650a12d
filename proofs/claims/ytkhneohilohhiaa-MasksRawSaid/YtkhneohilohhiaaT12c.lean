/-
  Laws of the layer between the model and plain data (states, operations, calls, loops); none has a condition beyond those that stand in its own statement.
-/
import Derived.Test.YtkhneohilohhiaaT12b
import Derived.MapKept
set_option linter.unusedSimpArgs false
namespace Go.Tr
open Go

/-! ### maps with integers as keys -/
def mget : List (Int × D) → Int → Option D
  | [], _ => none
  | (k', d) :: es, k => if k = k' then some d else mget es k
def mput : List (Int × D) → Int → D → List (Int × D)
  | [], k, d => [(k, d)]
  | (k', d') :: es, k, d => if k = k' then (k, d) :: es else (k', d') :: mput es k d

theorem find_rel {E : En} {k : Int} {kd : IntKind} : ∀ {es : List (Int × D)} {l : List MapEntry} {i : Nat}, MapRel E es l →
    (mget es k = none ∧ Instr.findNow (.int kd) (.int .i64 k) l i = some none ∧ ∀ d u born, u.oneCell' = true → Rep E d u → MapRel E (mput es k d) (l ++ [⟨.int .i64 k, u, born⟩])) ∨
    ∃ d j a, mget es k = some d ∧ Instr.findNow (.int kd) (.int .i64 k) l i = some (some (i + j, a.val)) ∧ l[j]? = some a ∧ a.key = .int .i64 k ∧ a.val.oneCell' = true ∧ Rep E d a.val ∧
      ∀ d' u, u.oneCell' = true → Rep E d' u → MapRel E (mput es k d') (l.modify j fun e => { e with key := .int .i64 k, val := u })
  | [], l, i, h => by
    simp only [MapRel] at h
    subst h
    exact .inl ⟨rfl, rfl, fun d u born h1 h2 => ⟨_, [], rfl, rfl, h1, h2, rfl⟩⟩
  | (k', d) :: es, l, i, h => by
    simp only [MapRel] at h
    obtain ⟨a, l', rfl, h1, h2, h3, h4⟩ := h
    by_cases e : k = k'
    · subst e
      refine .inr ⟨d, 0, a, by simp [mget], by simp [Instr.findNow, Instr.sameNow, h1], rfl, h1, h2, h3, fun d' u g1 g2 => ?_⟩
      simp only [mput, if_true, List.modify_zero_cons]
      exact ⟨_, l', rfl, rfl, g1, g2, h4⟩
    · have hne : (k == k') = false := by simpa using e
      rcases find_rel (k := k) (kd := kd) (i := i + 1) h4 with ⟨g1, g2, g3⟩ | ⟨d2, j, b, g1, g2, g3, g4, g5, g6, g7⟩
      · refine .inl ⟨by simp [mget, e, g1], by simp [Instr.findNow, Instr.sameNow, h1, hne, g2], fun d2 u born q1 q2 => ?_⟩
        simp only [mput, if_neg e]
        exact ⟨a, _, rfl, h1, h2, h3, g3 d2 u born q1 q2⟩
      · refine .inr ⟨d2, j + 1, b, by simp [mget, e, g1], ?_, by simpa using g3, g4, g5, g6, fun d' u q1 q2 => ?_⟩
        · simp [Instr.findNow, Instr.sameNow, h1, hne, g2]
          omega
        · simp only [mput, if_neg e, List.modify_succ_cons]
          exact ⟨a, _, rfl, h1, h2, h3, g7 d' u q1 q2⟩

theorem find_none {k : Int} {kd : IntKind} : ∀ {l : List MapEntry} {i : Nat}, Instr.findNow (.int kd) (.int .i64 k) l i = some none → ∀ x ∈ l, x.key ≠ .int .i64 k
  | [], _, _, x, hx => by simp at hx
  | a :: l, i, h, x, hx => by
    intro e
    rcases List.mem_cons.1 hx with rfl | hx
    · simp [Instr.findNow, Instr.sameNow, e] at h
    · unfold Instr.findNow at h
      cases hs : Instr.sameNow (.int kd) (.int .i64 k) a.key with
      | none => simp [hs] at h
      | some b => cases b with
        | true => simp [hs] at h
        | false => simp only [hs] at h; exact find_none h x hx e

section
variable {P : Program} {A : Actv}

/-- A new map. -/
theorem InvE.newMap {t : S} {a : Act} {E : En} (h : InvE A t a E) {d : Nat} (hd : t (.o d) = .none) :
    ∃ E' : En, E'.w = E.w.alloc (.map #[] 0) ∧ InvE A (upd t (.o d) (.mp [])) a E' ∧ RelV E' (.mref d) (.map (some E.w.heap.size)) := by
  have hfree := h.h.item (.o d) (by simp)
  rw [hd] at hfree
  obtain ⟨hb0, hv0⟩ := hfree d rfl
  let E' : En := { w := E.w.alloc (.map #[] 0), St := E.St, blk := fun p => if p = .o d then some E.w.heap.size else E.blk p, val := E.val }
  have hold : ∀ b, b < E.w.heap.size → E'.w.heap[b]? = E.w.heap[b]? := fun b hb => heap_alloc_old E.w _ b hb
  have x : ExtA E E' := by
    refine ⟨fun _ _ h => h, fun b o hst => World.cell?_of_block (hold b (h.h.stsz b o hst)), fun id b _ he => ?_, fun i b he => by simpa [E'] using he, fun i b he => by simpa [E'] using he, fun _ _ c v _ hv => ⟨c, v, hv, Nat.le_refl _, fun _ => rfl⟩⟩
    by_cases e : id = d
    · subst e; rw [hb0] at he; simp at he
    · simpa [E', e] using he
  have hown : E'.own (.o d) = some E.w.heap.size := by simp [En.own, E']
  have hownq : ∀ q, q ≠ .o d → E'.own q = E.own q := fun q hq => En.own_eq (by simp [E', hq]) (fun _ _ => rfl)
  have hH : HInv E' (upd t (.o d) (.mp [])) := by
    refine h.h.change (by simp) x (fun b o hst => .inl hst) (fun q hq => by simp [E', hq]) (fun id hid => rfl) (by simp [E']) (fun q b hq hb => hold b (h.h.size q b hb)) (fun b hb => ?_) ?_ (fun b o hst hb => ?_)
    · rw [hown] at hb; simp at hb; subst hb; exact ⟨by simp [E'], .inr (Nat.le_refl _)⟩
    · refine ⟨fun id hid => ?_, E.w.heap.size, #[], 0, by simp [E'], heap_alloc_new E.w _, rfl, MapKept.stamped_empty 0⟩
      simp only [Pl.o.injEq] at hid; subst hid; exact hv0
    · rw [hown] at hb; simp at hb; subst hb
      exact absurd (h.h.stsz _ _ hst) (by omega)
  refine ⟨E', rfl, h.step hH x (h.fr.next rfl rfl rfl (by simp [E']) (fun b hb _ => hold b (Nat.lt_of_lt_of_le hb h.fr.size)) (fun i => by simp [E']) (fun id b hb => ?_) (fun _ _ h => h) (fun _ _ h => .inl h)) (fun k => upd_s (by simp) k), ?_⟩
  · by_cases e : id = d
    · subst e; rw [hown] at hb; simp at hb; subst hb; exact .inr (Nat.le_refl _)
    · rw [hownq _ (by simpa using e)] at hb; exact .inl hb
  · simp only [RelV]; exact ⟨E.w.heap.size, by simp [E'], rfl⟩

theorem eff_makeMap {o : Oper} {t : S} {ty d : Nat} (ho : o.op = .makeMap ty none) : EffOK P A o t ⟨t (.o d) = .none, [.o d], [(.o d, .mp [])], .mref d⟩ := fun hC t' hr a E hi => by
  have ht' : t' (.o d) = .none := (hr _ (by simp)).trans hC
  obtain ⟨E', hw, hinv, hrel⟩ := hi.newMap ht'
  refine ⟨_, _, E', ?_, .inl rfl, hinv, hrel⟩
  simp [execOp, ho, Instr.makeMap, hw]

/-- a map as it stands -/
theorem map_cur {t : S} {a : Act} {E : En} (hi : InvE A t a E) {id : Nat} {es : List (Int × D)} (ht : t (.o id) = .mp es) : E.val id = none ∧ ∃ b l clock, E.blk (.o id) = some b ∧ E.w.heap[b]? = some (.map l clock) ∧ MapRel E es l.toList ∧ MapKept.Stamped l clock := by
  have := hi.h.item (.o id) (by simp)
  rw [ht] at this
  exact ⟨this.1 id rfl, this.2⟩

/-- A map's entries change. -/
theorem InvE.mapStep {t : S} {a : Act} {E : En} (hi : InvE A t a E) {id b : Nat} {es es' : List (Int × D)} {l l' : Array MapEntry} {clock clock' : Nat} (ht : t (.o id) = .mp es) (hb : E.blk (.o id) = some b) (hg : E.w.heap[b]? = some (.map l clock)) (hm : MapRel E es' l'.toList) (hs : MapKept.Stamped l' clock') :
    ∃ E' : En, E'.w = { E.w with heap := E.w.heap.setIfInBounds b (.map l' clock') } ∧ ExtA E E' ∧ InvE A (upd t (.o id) (.mp es')) a E' := by
  obtain ⟨hv0, _⟩ := map_cur hi ht
  have hlt : b < E.w.heap.size := (Array.getElem?_eq_some_iff.1 hg).1
  have hownp : E.own (.o id) = some b := by simp [En.own, hb]
  let E' : En := { E with w := { E.w with heap := E.w.heap.setIfInBounds b (.map l' clock') } }
  have hoth : ∀ b', b' ≠ b → E'.w.heap[b']? = E.w.heap[b']? := fun b' hne => by simp [E', Array.getElem?_setIfInBounds, show ¬ b = b' from fun e => hne e.symm]
  have hst : ∀ b' o', E.St b' o' → b' ≠ b := fun b' o' h e => by
    subst e
    obtain ⟨e2, k2, es2, h1, _⟩ := hi.h.sep _ o' h _ hownp
    rw [ht] at h1; simp at h1
  have x : ExtA E E' := ⟨fun _ _ h => h, fun b' o' h => World.cell?_of_block (hoth b' (hst b' o' h)), fun _ _ _ h => h, fun _ _ h => h, fun _ _ h => h, fun _ _ c v _ h => ⟨c, v, h, Nat.le_refl _, fun _ => rfl⟩⟩
  have hown : ∀ q, E'.own q = E.own q := fun q => En.own_eq rfl (fun _ _ => rfl)
  have hH : HInv E' (upd t (.o id) (.mp es')) := by
    refine hi.h.change (by simp) x (fun b o h => .inl h) (fun _ _ => rfl) (fun _ _ => rfl) (by simp [E']) (fun q b' hq hb' => hoth b' fun e => hq (by subst e; exact hi.h.inj _ _ _ hb' hownp)) (fun b' hb' => ?_) ?_ (fun b' o' hs hb' => ?_)
    · rw [hown] at hb'; exact ⟨by simpa [E'] using hi.h.size _ _ hb', .inl hb'⟩
    · exact ⟨fun j hj => by simp only [Pl.o.injEq] at hj; subst hj; exact hv0, b, l', clock', hb, by simp [E', hlt], hm.ext x.r, hs⟩
    · rw [hown, hownp] at hb'; simp only [Option.some.injEq] at hb'
      exact absurd hb'.symm (hst b' o' hs)
  refine ⟨E', rfl, x, hi.step hH x (hi.fr.next rfl rfl rfl (by simp [E']) (fun b' h1 _ => hoth b' fun e => ?_) (fun _ => rfl) (fun j b' h => .inl (by rwa [hown] at h)) (fun _ _ h => h) (fun _ _ h => .inl h)) (fun k => upd_s (by simp) k)⟩
  subst e
  have := hi.fr.new id b' hownp
  omega

def lkV (ck : Bool) (m : Option D) (z : TV) : TV :=
  match ck with
  | true => .tup [match m with | some d => .d d | none => z, .d (.bool m.isSome)]
  | false => match m with | some d => .d d | none => z

theorem eff_lookup {o : Oper} {t : S} {ty kt e : TypeId} {x ix : Operand} {ck : Bool} {id : Nat} {es : List (Int × D)} {k : Int} {kd : IntKind} {z : Value} (ho : o.op = .lookup ty x ix ck) (hm : P.underlying ty = some (.map kt e)) (hk : P.underlying kt = some (.int kd)) (hz : zrO P e = some z)
    (hx : ev t x = .mref id) (ht : t (.o id) = .mp es) (hix : ev t ix = .d (.int .i64 k)) : EffOK P A o t ⟨True, pl x ++ (pl ix ++ [.o id]), [], lkV ck (mget es k) (ofCell z)⟩ :=
  .pure fun _ t' hr a E hi => by
    have hx' : ev t' x = .mref id := (ev_eq (pl_left hr)).trans hx
    have hix' : ev t' ix = .d (.int .i64 k) := (ev_eq (pl_left (pl_right hr))).trans hix
    have ht' : t' (.o id) = .mp es := (pl_right (pl_right hr) _ (by simp)).trans ht
    have h1 := ev_rel hi x
    rw [hx'] at h1
    simp only [RelV] at h1
    obtain ⟨b, hb, hu⟩ := h1
    have h2 := ev_rel hi ix
    rw [hix'] at h2
    simp only [RelV, Rep] at h2
    obtain ⟨_, b', l, clock, hb', hg, hrel, _⟩ := map_cur hi ht'
    rw [hb] at hb'
    simp only [Option.some.injEq] at hb'
    subst hb'
    have hzero : (zeroValue e).run P E.w = .ok z E.w := by
      unfold zrO at hz
      cases hinf : P.info? e with
      | none => simp [hinf] at hz
      | some inf =>
        simp only [hinf, Option.bind_some] at hz
        simp [zeroValue, typeInfo, hinf, hz]
    have hck : (Instr.checkKey l.isEmpty 10000 kt (.int .i64 k)).run P E.w = .ok () E.w := by
      unfold Instr.checkKey
      simp [Sem.run_bind, run_underlying hk]
    rcases find_rel (k := k) (kd := kd) (i := 0) hrel with ⟨g1, g2, _⟩ | ⟨d, j, a', g1, g2, _, _, _, g6, _⟩
    · refine ⟨match ck with | true => .tuple #[z, .bool false] | false => z, ?_, ?_⟩
      · cases ck <;> simp [execOp, ho, hu, h2, Instr.lookup, Sem.run_bind, run_underlying hm, run_underlying hk, MapKept.run_getObj_map hg, hck, Instr.findKey, g2, hzero]
      · rw [g1]
        cases ck with
        | true =>
          simp only [lkV, RelV]
          exact ⟨#[z, .bool false], rfl, by simp only [RelVs]; exact ⟨_, _, rfl, ofCell_rel E z, _, _, rfl, by simp [RelV, Rep], rfl⟩⟩
        | false => simp only [lkV]; exact ofCell_rel E z
    · refine ⟨match ck with | true => .tuple #[a'.val, .bool true] | false => a'.val, ?_, ?_⟩
      · cases ck <;> simp [execOp, ho, hu, h2, Instr.lookup, Sem.run_bind, run_underlying hm, run_underlying hk, MapKept.run_getObj_map hg, hck, Instr.findKey, g2, hzero]
      · rw [g1]
        cases ck with
        | true =>
          simp only [lkV, RelV]
          exact ⟨#[a'.val, .bool true], rfl, by simp only [RelVs]; exact ⟨_, _, rfl, by simpa only [RelV] using g6, _, _, rfl, by simp [RelV, Rep], rfl⟩⟩
        | false => simp only [lkV, RelV]; exact g6

theorem eff_mapUpdate {o : Oper} {t : S} {ty kt e : TypeId} {x ix y : Operand} {id : Nat} {es : List (Int × D)} {k : Int} {kd : IntKind} {d : D} (ho : o.op = .mapUpdate ty x ix y) (hm : P.underlying ty = some (.map kt e)) (hk : P.underlying kt = some (.int kd))
    (hx : ev t x = .mref id) (ht : t (.o id) = .mp es) (hix : ev t ix = .d (.int .i64 k)) (hy : ev t y = .d d) : EffOK P A o t ⟨True, pl x ++ (pl ix ++ (pl y ++ [.o id])), [(.o id, .mp (mput es k d))], .junk⟩ := fun _ t' hr a E hi => by
  have hx' : ev t' x = .mref id := (ev_eq (pl_left hr)).trans hx
  have hix' : ev t' ix = .d (.int .i64 k) := (ev_eq (pl_left (pl_right hr))).trans hix
  have hy' : ev t' y = .d d := (ev_eq (pl_left (pl_right (pl_right hr)))).trans hy
  have ht' : t' (.o id) = .mp es := (pl_right (pl_right (pl_right hr)) _ (by simp)).trans ht
  have h1 := ev_rel hi x
  rw [hx'] at h1
  simp only [RelV] at h1
  obtain ⟨b, hb, hu⟩ := h1
  have h2 := ev_rel hi ix
  rw [hix'] at h2
  simp only [RelV, Rep] at h2
  have h3 := ev_rel hi y
  rw [hy'] at h3
  have hone : (a.eval y).oneCell' = true := h3.one (by rfl)
  simp only [RelV] at h3
  obtain ⟨_, b', l, clock, hb', hg, hrel, hstm⟩ := map_cur hi ht'
  rw [hb] at hb'
  simp only [Option.some.injEq] at hb'
  subst hb'
  have hck : (Instr.checkKey false 10000 kt (.int .i64 k)).run P E.w = .ok () E.w := by
    unfold Instr.checkKey
    simp [Sem.run_bind, run_underlying hk]
  rcases find_rel (k := k) (kd := kd) (i := 0) hrel with ⟨_, g2, g3⟩ | ⟨d', j, a', _, g2, g4, g5, _, _, g7⟩
  · obtain ⟨E', hw', x', hinv⟩ := hi.mapStep (l' := l.push ⟨.int .i64 k, a.eval y, clock⟩) (clock' := clock + 1) ht' hb hg (by rw [Array.toList_push]; exact g3 d (a.eval y) clock hone h3) (MapKept.stamped_push hstm (find_none g2))
    refine ⟨.skip, undef, E', ?_, .inr ⟨rfl, rfl⟩, hinv, by simp only [RelV]⟩
    simp [execOp, ho, hu, h2, Instr.mapUpdate, Sem.run_bind, run_underlying hm, run_underlying hk, MapKept.run_getObj_map hg, MapKept.run_setObj_map _ hg, hck, Instr.findKey, g2, hw']
  · obtain ⟨E', hw', x', hinv⟩ := hi.mapStep (l' := l.modify j fun e => { e with key := .int .i64 k, val := a.eval y }) (clock' := clock) ht' hb hg (by rw [Array.toList_modify]; exact g7 d (a.eval y) hone h3) (MapKept.stamped_modify hstm j _ (fun _ _ => rfl) (fun e _ he => by rw [show l[j]? = some a' by simpa using g4] at he; simp only [Option.some.injEq] at he; subst he; exact g5.symm))
    refine ⟨.skip, undef, E', ?_, .inr ⟨rfl, rfl⟩, hinv, by simp only [RelV]⟩
    have g4' : l[j]? = some a' := by simpa using g4
    have hst : (Instr.keyThatStays (.int .i64 k) (.int .i64 k)).run P E.w = .ok (.int .i64 k) E.w := by
      simp [Instr.keyThatStays, Instr.sameBits]
    simp [execOp, ho, hu, h2, Instr.mapUpdate, Sem.run_bind, run_underlying hm, run_underlying hk, MapKept.run_getObj_map hg, MapKept.run_setObj_map _ hg, hck, Instr.findKey, g2, g4', g5, hst, hw']
end
end Go.Tr

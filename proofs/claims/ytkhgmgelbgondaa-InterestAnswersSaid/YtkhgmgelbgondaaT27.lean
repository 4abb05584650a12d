/-
  Laws of the layer between the model and plain data (states, operations, calls, loops); none has a condition beyond those that stand in its own statement.
-/
import Derived.Test.YtkhgmgelbgondaaT26
set_option linter.unusedSimpArgs false
namespace Go.Tr
open Go

/-! ### calls that change a row of numbers in place -/
/-- What such a function does: the row's numbers turn from zs to F zs; it hands back nothing, or the first m zs of them. -/
structure InplC (P : Program) (f : FuncId) (k : IntKind) (F : List Int → List Int) (m : Option (List Int → Nat)) : Prop where
  len : ∀ zs, (F zs).length = zs.length
  mle : ∀ m', m = some m' → ∀ zs, m' zs ≤ zs.length
  run : ∀ (w : World) (g cap : Nat) (zs : List Int) (cur : Array Value) (e : TypeId), w.heap[g]? = some (.cells cur e (0, 0)) → zs.length ≤ cap → cap ≤ maxLen → cur.size = cap → cur.toList.take zs.length = zs.map (.int k) → 0 < zs.length → zs.length < 4611686018427387904 →
    Calls P f #[.slice (some ⟨g, 0, none⟩) zs.length cap] w fun e' w' => e' = .returned (match m with | none => .tuple #[] | some m' => .slice (some ⟨g, 0, none⟩) (m' zs) cap) ∧ w.grownBy w' (some g) ∧
      ∃ cur', w'.heap[g]? = some (.cells cur' e (0, 0)) ∧ cur'.size = cap ∧ cur'.toList.take zs.length = (F zs).map (.int k)
  none : ∀ p cap w, Calls P f #[.slice p 0 cap] w fun e' w' => (∃ p' c', e' = .returned (match m with | none => .tuple #[] | some _ => .slice p' 0 c')) ∧ w' = w

/-- several slots, seen as plain data -/
theorem GS.viewSs {A : Actv} {l l' : List (Pl × It)} (ss : List Nat) (h : (viewL (look l) (ss.map .tmp)).C ∧ Sub (look (overL (viewL (look l) (ss.map .tmp)).W l)) l' ∧ xIds l' = xIds (overL (viewL (look l) (ss.map .tmp)).W l)) : GS A (look l) (look l') :=
  fun a w hi => by
    have := viewL_ok h.1 (fun _ _ => rfl) hi
    rw [over_look] at this
    exact GS.forget h.2.1 h.2.2 a w this
theorem Fin.views {P : Program} {A : Actv} {fn : Func} {r : TV} {xs : List It} {ro : List (Nat × It)} {l : List (Pl × It)} (ss : List Nat) (h : (viewL (look l) (ss.map .tmp)).C ∧ Fin P A fn r xs ro (over (look l) (viewL (look l) (ss.map .tmp)).W)) : Fin P A fn r xs ro (look l) :=
  fun a w hi => h.2 a w (viewL_ok h.1 (fun _ _ => rfl) hi)

def nrow (k : IntKind) (zs : List Int) : List (List D) := zs.map fun z => [.int k z]
@[simp] theorem nrow_len (k : IntKind) (zs : List Int) : (nrow k zs).length = zs.length := by simp [nrow]
@[simp] theorem ddn_len (k : IntKind) (zs : List Int) : (dd (nrow k zs)).length = zs.length := by simp [dd]
theorem toDss_nrow (k : IntKind) : ∀ zs : List Int, toDss (dd (nrow k zs)) = some (nrow k zs)
  | [] => rfl
  | z :: zs => by
    have := toDss_nrow k zs
    simp only [nrow, dd, List.map_cons, List.map_nil] at this ⊢
    simp only [toDss, toDs, toD, this]

theorem rowrel_nums {E : En} {k : IntKind} : ∀ {zs : List Int} {us : List Value} {o : Nat}, (∀ i z, zs[i]? = some z → us[o + i]? = some (.int k z)) → RowRel E us 1 o (dd (nrow k zs))
  | [], _, _, _ => trivial
  | z :: zs, us, o, h => by
    refine ⟨rfl, ⟨⟨.int k z, by simpa using h 0 z rfl, rfl, by simp [RelV, Rep]⟩, trivial⟩, rowrel_nums fun i z hz => ?_⟩
    have := h (i + 1) z hz
    rwa [show o + (i + 1) = o + 1 + i by omega] at this

theorem nums_rowrel {E : En} {k : IntKind} : ∀ {zs : List Int} {us : List Value} {o : Nat}, RowRel E us 1 o (dd (nrow k zs)) → ∀ i z, zs[i]? = some z → us[o + i]? = some (.int k z)
  | z :: zs, us, o, ⟨_, ⟨⟨u, h1, _, h3⟩, _⟩, h4⟩, i, y, hy => by
    cases i with
    | zero =>
      simp at hy; subst hy
      simp only [RelV, Rep] at h3
      subst h3
      simpa using h1
    | succ i =>
      have := nums_rowrel h4 i y (by simpa using hy)
      rwa [show o + 1 + i = o + (i + 1) by omega] at this

def inplR (k : IntKind) (F : List Int → List Int) (m : Option (List Int → Nat)) (zs : List Int) : TV :=
  match m with
  | none => .tup []
  | some m' => .d (.sl (nrow k ((F zs).take (m' zs))))

section
variable {P : Program} {A : Actv} {ops : Array Oper}

theorem Sum.inpl {t : S} {i : Nat} {o : Oper} {gp : List Pl} {fo x : Operand} {tys : Array TypeId} {f : FuncId} {k : IntKind} {F : List Int → List Int} {m : Option (List Int → Nat)} {id n : Nat} {e : TypeId} {zs : List Int}
    (ho : ops[i]? = some o) (hg : gv ops t o = some (gp, true)) (hd : dstOK A.N o = true) (hop : o.op = .call { callee := .value fo, args := #[x], argTypes := tys }) (hf : ev t fo = .clo f []) (hfn : fnOK P f = true)
    (C : InplC P f k F m) (hx : ev t x = .oref id n) (ht : t (.o id) = .row e 1 (dd (nrow k zs)) false) (hn : n = zs.length) (hsz : zs.length < 4611686018427387904) :
    Sum P A ops i t (gp ++ (pl fo ++ (pl x ++ [.o id]))) (dstW o (inplR k F m zs) [(.o id, .row e 1 (dd (nrow k (F zs))) m.isSome)]) := fun t' hr a w ⟨E, hw, hi⟩ K Q hK => by
  subst hw
  have hwant := gv_wanted hg (pl_left hr) hi
  have hr1 := pl_right hr
  have hr2 := pl_right hr1
  have hfo : ev t' fo = .clo f [] := (ev_eq (pl_left hr1)).trans hf
  have hx' : ev t' x = .oref id n := (ev_eq (pl_left hr2)).trans hx
  have ht' : t' (.o id) = .row e 1 (dd (nrow k zs)) false := (pl_right hr2 _ (by simp)).trans ht
  have hfr := ev_rel hi fo
  rw [hfo] at hfr
  simp only [RelV, RelVs] at hfr
  obtain ⟨ucap, hufo, hucap⟩ := hfr
  obtain rfl : ucap = #[] := by cases ucap; simpa using hucap
  have hxr := ev_rel hi x
  rw [hx'] at hxr
  obtain ⟨hblk, v, us, hval, hown, hrel, hcur⟩ := row_cur hi ht'
  have hnl : (dd (nrow k zs)).length = zs.length := ddn_len k zs
  rw [hn, ← hnl] at hxr
  have hxv := hcur _ hxr
  rw [hnl] at hval hown
  unfold wpOp
  simp only [ho, hwant, if_true]
  refine .inl ?_
  unfold Oper.wp
  have hrun : (execOp a.eval o).run P E.w = .ok (.enter f #[v]) E.w := by
    simp only [execOp, hop, resolve, hufo, Deferred.ofValue, invoke, Sem.run_bind, Sem.run_pure, Result.andThen_ok, List.map_toArray, Array.empty_append, run_callFunc hfn, hxv, Array.map, Array.append_empty]
    simp [hxv, run_callFunc hfn]
  rw [hrun]
  simp only [Oper.upon]
  have hnum := nums_rowrel hrel
  simp only [Nat.zero_add] at hnum
  have hownp : E.own (.o id) = v.ownBlock := by simp [En.own, hblk, hval]
  have htsh : ∀ (b : Nat), E.own (.o id) = some b → ∀ o', ¬ E.St b o' := fun b hb o' hs => by
    obtain ⟨e2, k2, es2, h1, _⟩ := hi.h.sep b o' hs _ hb
    rw [ht'] at h1
    simp at h1
  -- the end, for both kinds of results
  have fin : ∀ (w' : World) (us' : List Value) (u : Value), E.w.grownBy w' v.ownBlock → w'.ownsRow 0 e 1 v zs.length us' → (∀ (i : Nat) (z : Int), (F zs)[i]? = some z → us'[i]? = some (Value.int k z)) → (m = none → u = .tuple #[]) →
      (∀ m', m = some m' → ∃ p c, u = .slice p (m' zs) c ∧ (m' zs = 0 ∨ ∃ g cap, v = .slice (some ⟨g, 0, none⟩) zs.length cap ∧ p = some ⟨g, 0, none⟩ ∧ c = cap)) →
      K (a.put o.dst u) w' := fun w' us' u hgr hown' hcells hr0 hr1' => by
    obtain ⟨E', hw', x1, hi', hval'⟩ := hi.rowStep ht' (es' := dd (nrow k (F zs))) (sh' := false) (us' := us') (v' := v) (w' := w') (by rw [hnl]; exact hval) hgr
      (by rw [ddn_len, C.len]; exact hown') (by rw [ddn_len, ddn_len, C.len]; exact Nat.le_refl _) (fun _ => rfl) (.inl rfl)
      (fun b o' hst => by
        by_cases hb : v.ownBlock = some b
        · exact absurd hst (htsh b (by rw [hownp, hb]) o')
        · exact World.cell?_of_block (hgr.block b (hi.h.stsz b o' hst) (fun e => hb e.symm)))
      (fun h => by simp at h) (fun E' hw' x => rowrel_nums (by simpa using hcells))
    cases m with
    | none =>
      refine hK _ _ ⟨E', hw', ?_⟩
      rw [hr0 rfl]
      exact InvE.dst (W := [(.o id, .row e 1 (dd (nrow k (F zs))) false)]) hi' hd (by simp only [inplR, RelV]; exact ⟨#[], rfl, by simp [RelVs]⟩)
    | some m' =>
      obtain ⟨E2, hw2, x2, hb2, hv2, hi2, hrep, _⟩ := hi'.freeze (upd_same _ _ _) (toDss_nrow k (F zs))
      have hupd : upd (upd t' (.o id) (.row e 1 (dd (nrow k (F zs))) false)) (.o id) (.row e 1 (dd (nrow k (F zs))) true) = upd t' (.o id) (.row e 1 (dd (nrow k (F zs))) true) := by
        funext p; simp only [upd]; split <;> rfl
      rw [hupd] at hi2
      refine hK _ _ ⟨E2, hw2.trans hw', ?_⟩
      obtain ⟨p, c, hu, hp⟩ := hr1' m' rfl
      subst hu
      refine InvE.dst (W := [(.o id, .row e 1 (dd (nrow k (F zs))) true)]) hi2 hd ?_
      have hml := C.mle m' rfl zs
      have hlen := C.len zs
      have htl : (nrow k ((F zs).take (m' zs))).length = m' zs := by rw [nrow_len, List.length_take]; omega
      simp only [inplR, RelV, Rep]
      rcases hp with h0 | ⟨g, cap, hv, hp1, hp2⟩
      · exact .inl ⟨by rw [htl, h0], p, c, by rw [h0]⟩
      · subst hp1 hp2
        by_cases h0 : m' zs = 0
        · exact .inl ⟨by rw [htl, h0], _, _, by rw [h0]⟩
        · have hfull := hrep v (by
            simp only [RelV]
            refine ⟨by rw [hv]; rfl, 1, _, v, hval', Nat.le_refl _, fun _ => rfl⟩)
          simp only [Rep] at hfull
          rcases hfull with ⟨hz, _⟩ | ⟨b, o2, c2, k2, hv2', hc2, hrows⟩
          · rw [nrow_len] at hz; omega
          · rw [hv] at hv2'
            simp only [Value.slice.injEq, Option.some.injEq, Addr.mk.injEq, and_true] at hv2'
            obtain ⟨⟨rfl, rfl⟩, hl, rfl⟩ := hv2'
            refine .inr ⟨g, 0, _, k2, by rw [htl], by rw [htl]; rw [nrow_len] at hc2; omega, RepRows.of_get fun i y hy => ?_⟩
            refine hrows.get ?_
            rw [show nrow k ((F zs).take (m' zs)) = (nrow k (F zs)).take (m' zs) by simp [nrow], List.getElem?_take] at hy
            split at hy
            · exact hy
            · simp at hy
  rcases hown.2 with ⟨hv, h0⟩ | ⟨g, cap, cur, hv, hb0, hgg, hnc, hcm, hcs, htake⟩
  · -- no numbers
    have hz : zs = [] := List.length_eq_zero_iff.1 h0
    subst hv
    refine (C.none none 0 E.w).mono fun e' w' ⟨⟨p', c', he⟩, hw'⟩ => ?_
    subst he hw'
    refine fin E.w us _ ⟨rfl, rfl, rfl, Nat.le_refl _, fun _ _ _ => rfl⟩ hown (fun i z hz' => ?_) (fun hm => by subst hm; rfl) (fun m' hm => ?_)
    · have := C.len zs
      rw [h0] at this
      rw [List.length_eq_zero_iff.1 this] at hz'
      simp at hz'
    · subst hm
      have := C.mle m' rfl zs
      have e0 : m' zs = 0 := by omega
      exact ⟨p', c', by rw [e0], .inl e0⟩
  · by_cases h0 : zs.length = 0
    · subst hv
      have hz : zs = [] := List.length_eq_zero_iff.1 h0
      rw [h0]
      refine (C.none _ cap E.w).mono fun e' w' ⟨⟨p', c', he⟩, hw'⟩ => ?_
      subst he hw'
      rw [h0] at fin hown
      refine fin E.w us _ ⟨rfl, rfl, rfl, Nat.le_refl _, fun _ _ _ => rfl⟩ hown (fun i z hz' => ?_) (fun hm => by subst hm; rfl) (fun m' hm => ?_)
      · have := C.len zs
        rw [h0] at this
        rw [List.length_eq_zero_iff.1 this] at hz'
        simp at hz'
      · subst hm
        have := C.mle m' rfl zs
        have e0 : m' zs = 0 := by omega
        exact ⟨p', c', by rw [e0], .inl e0⟩
    · subst hv
      have husz : us = zs.map (.int k) := by
        apply List.ext_getElem?
        intro i
        by_cases hi2 : i < zs.length
        · rw [hnum i zs[i] (List.getElem?_eq_getElem hi2)]
          simp [hi2]
        · have := hown.1
          rw [List.getElem?_eq_none (by omega), List.getElem?_eq_none (by simp; omega)]
      rw [Nat.mul_one] at htake hcs
      rw [husz] at htake
      refine (C.run E.w g cap zs cur e hgg hnc hcm hcs htake (by omega) hsz).mono fun e' w' ⟨he, hgr, cur', h1, h2, h3⟩ => ?_
      subst he
      refine fin w' ((F zs).map (.int k)) _ hgr ⟨by simp [C.len], .inr ⟨g, cap, cur', rfl, hb0, h1, hnc, hcm, by omega, by rw [Nat.mul_one]; exact h3⟩⟩ (fun i z hz => by simp [hz]) (fun hm => by subst hm; rfl) (fun m' hm => ?_)
      subst hm
      exact ⟨_, _, rfl, .inr ⟨g, cap, rfl, rfl, rfl⟩⟩

/-- the call of a function that changes a row in place (its number, with 1000000 added, must stand in the walk's list of owners) -/
def inplX (P : Program) (N : Nat) (t : S) (o : Oper) (f : FuncId) (k : IntKind) (F : List Int → List Int) (m : Option (List Int → Nat)) (zs : List Int) (gp : List Pl) (g : Bool) (fo x : Operand) : Option (Prop × List Pl × List (Pl × It)) :=
  match ev t x with
  | .oref id n => match ev t fo with
    | .clo f' caps => match t (.o id) with
      | .row e z es sh => some (g = true ∧ dstOK N o = true ∧ f' = f ∧ caps = [] ∧ fnOK P f = true ∧ z = 1 ∧ sh = false ∧ es = dd (nrow k zs) ∧ n = zs.length ∧ zs.length < 4611686018427387904, gp ++ (pl fo ++ (pl x ++ [.o id])), dstW o (inplR k F m zs) [(.o id, .row e 1 (dd (nrow k (F zs))) m.isSome)])
      | _ => none
    | _ => none
  | _ => none
def inplO (P : Program) (N : Nat) (t : S) (ops : Array Oper) (f : FuncId) (k : IntKind) (F : List Int → List Int) (m : Option (List Int → Nat)) (zs : List Int) : Option Oper → Option (Prop × List Pl × List (Pl × It))
  | some o => match gv ops t o with
    | some (gp, g) => match o.op with
      | .call { callee := .value fo, args := xs, argTypes := _ } => match xs.toList with
        | [x] => inplX P N t o f k F m zs gp g fo x
        | _ => none
      | _ => none
    | none => none
  | none => none

theorem ACall.inpl {i : Nat} {t : S} {k : List Pl → List (Pl × It) → Prop} {g : Tg k} {f : FuncId} {kd : IntKind} {F : List Int → List Int} {m : Option (List Int → Nat)} (C : InplC P f kd F m) (zs : List Int)
    (h : AGo k g (inplO P A.N t ops f kd F m zs ops[i]?)) : ACall P A ops i t k g := by
  unfold AGo at h
  split at h
  · rename_i D rp W hc
    obtain ⟨h1, h2⟩ := h
    refine ⟨rp, W, ?_, h2⟩
    unfold inplO at hc
    split at hc
    · rename_i o ho
      split at hc
      · rename_i gp g0 hg
        split at hc
        · rename_i fo xs tys hop
          split at hc
          · rename_i x hxs
            obtain rfl : xs = #[x] := by cases xs; simpa using hxs
            unfold inplX at hc
            split at hc
            · rename_i id n hx
              split at hc
              · rename_i f' caps hf
                split at hc
                · rename_i e z es sh ht
                  simp only [Option.some.injEq, Prod.mk.injEq] at hc
                  obtain ⟨rfl, rfl, rfl⟩ := hc
                  obtain ⟨rfl, q1, rfl, rfl, q2, rfl, rfl, rfl, q3, q4⟩ := h1
                  exact Sum.inpl ho hg q1 hop hf q2 C hx ht q3 q4
                · simp at hc
              · simp at hc
            · simp at hc
          · simp at hc
        · simp at hc
      · simp at hc
    · simp at hc
  · exact h.elim
attribute [simp] inplO inplX inplR
end
end Go.Tr

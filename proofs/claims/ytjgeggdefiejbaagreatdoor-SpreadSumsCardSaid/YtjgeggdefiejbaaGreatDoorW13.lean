/-
  What functions of the program compute, stated as contracts over plain data; the conditions of each stand in its own statement.
-/
import Derived.Test.YtjgeggdefiejbaaGreatDoorW12
import Derived.Shelf.SlSortCmp.NoneTotal
import Derived.Shelf.SortM.SortNone
import Derived.Shelf.SortM.Plain
import Derived.Shelf.SlicesG.CompactI
import Derived.Shelf.Spec.SlicesGrow
import Derived.Below
set_option linter.unusedSimpArgs false
namespace Go.Tr
open Go
theorem Contract.true {P : Program} {f : FuncId} {args : List TV} {ro : List (Nat × It)} (c : Contract P f args [] (.d (.bool true)) [] ro) {w : World} (hg : GlobW w) {us : List Value} (h : RelVs (inE w) args us) :
  Calls P f us.toArray w fun e w' => e = .returned (.bool true) ∧ RowKit.Below w.heap.size w w' :=
 (c.law hg h).mono fun e w' ⟨u, E', he, hr, hb⟩ => by
  simp only [RelV, Rep] at hr
  subst hr
  exact ⟨he, hb⟩
theorem has_ints {k : IntKind} {ds : List D} (h : (Ty.sl (.int k)).has ds) : ∃ l : List Int, ds = [.sl (l.map fun n => [.int k n])] ∧ l.length ≤ maxLen ∧ ∀ n ∈ l, (Lit.int k n).wf = true := by
 simp only [Ty.has] at h
 obtain ⟨xs, rfl, h1, h2⟩ := h
 have : ∀ (xs : List (List D)), (∀ x ∈ xs, ∃ n, x = [D.int k n] ∧ (Lit.int k n).wf = true) → ∃ l : List Int, xs = l.map (fun n => [D.int k n]) ∧ ∀ n ∈ l, (Lit.int k n).wf = true := by
  intro xs
  induction xs with
  | nil => exact fun _ => ⟨[], rfl, by simp⟩
  | cons x xs ih =>
    intro h
    obtain ⟨n, rfl, hn⟩ := h x (by simp)
    obtain ⟨l, rfl, hl⟩ := ih fun y hy => h y (by simp [hy])
    exact ⟨n :: l, rfl, by simpa using ⟨hn, hl⟩⟩
 obtain ⟨l, rfl, hl⟩ := this xs h2
 exact ⟨l, rfl, by simpa using h1, hl⟩
theorem wf_i64 {n : Int} (h : (Lit.int .i64 n).wf = true) : I64 n := by
 simp only [Lit.wf, Bool.and_eq_true, decide_eq_true_eq] at h
 have m1 : IntKind.i64.min = -9223372036854775808 := by decide
 have m2 : IntKind.i64.max = 9223372036854775807 := by decide
 exact ⟨by omega, by omega⟩
def nrow (k : IntKind) (zs : List Int) : List (List D) := zs.map fun z => [.int k z]
@[simp] theorem nrow_len (k : IntKind) (zs : List Int) : (nrow k zs).length = zs.length := by simp [nrow]
@[simp] theorem ddn_len (k : IntKind) (zs : List Int) : (dd (nrow k zs)).length = zs.length := by simp [dd]
theorem rowrel_nums {E : En} {k : IntKind} : ∀ {zs : List Int} {us : List Value} {o : Nat}, (∀ i z, zs[i]? = some z → us[o + i]? = some (.int k z)) → RowRel E us 1 o (dd (nrow k zs))
 | [], _, _, _ => trivial
 | z :: zs, us, o, h => by
   refine ⟨rfl, ⟨⟨.int k z, by simpa using h 0 z rfl, rfl, by simp [RelV, Rep]⟩, trivial⟩, rowrel_nums fun i z hz => ?_⟩
   have := h (i + 1) z hz
   rwa [show o + (i + 1) = o + 1 + i by omega] at this
def inplR (k : IntKind) (F : List Int → List Int) (m : Option (List Int → Nat)) (zs : List Int) : TV :=
 match m with
 | none => .tup []
 | some m' => .d (.sl (nrow k ((F zs).take (m' zs))))
section
variable {P : Program} {A : Actv} {ops : Array Oper}
attribute [simp] inplR
end
end Go.Tr

namespace Go.Tr
open Go
def irow (zs : List (List Int)) : List (List D) := zs.map fun z => z.map (.int .i64)
@[simp] theorem irow_len (zs : List (List Int)) : (irow zs).length = zs.length := by simp [irow]
@[simp] theorem ddi_len (zs : List (List Int)) : (dd (irow zs)).length = zs.length := by simp [dd]
def flat (zs : List (List Int)) : List Value := zs.flatMap fun z => z.map (.int .i64)
theorem flat_cons (z : List Int) (zs : List (List Int)) : flat (z :: zs) = z.map (.int .i64) ++ flat zs := rfl
theorem flat_len {k : Nat} : ∀ {zs : List (List Int)}, (∀ z ∈ zs, z.length = k) → (flat zs).length = zs.length * k
 | [], _ => by simp [flat]
 | z :: zs, h => by
   have h1 := h z (by simp)
   have h2 := flat_len (zs := zs) fun y hy => h y (by simp [hy])
   rw [flat_cons, List.length_append, List.length_map, h1, h2, List.length_cons, Nat.add_mul]; omega
theorem cellsrel_ints {E : En} {us : List Value} : ∀ {z : List Int} {o : Nat}, (∀ j n, z[j]? = some n → us[o + j]? = some (.int .i64 n)) → CellsRel E us o ((z.map (D.int .i64)).map .d)
 | [], _, _ => trivial
 | n :: z, o, h => ⟨⟨.int .i64 n, by simpa using h 0 n rfl, rfl, by simp [RelV, Rep]⟩, cellsrel_ints fun j m hj => by
   have := h (j + 1) m hj
   rwa [show o + (j + 1) = o + 1 + j by omega] at this⟩
theorem rowrel_flat {E : En} {k : Nat} {us : List Value} : ∀ {zs : List (List Int)} {o : Nat}, (∀ z ∈ zs, z.length = k) → (∀ i v, (flat zs)[i]? = some v → us[o + i]? = some v) → RowRel E us k o (dd (irow zs))
 | [], _, _, _ => trivial
 | z :: zs, o, hl, h => by
   have h1 := hl z (by simp)
   refine ⟨by simp [h1], cellsrel_ints fun j n hj => ?_, rowrel_flat (fun y hy => hl y (by simp [hy])) fun i v hv => ?_⟩
   ·refine h j _ ?_
    rw [flat_cons, List.getElem?_append_left (by rw [List.length_map]; exact (List.getElem?_eq_some_iff.1 hj).1)]
    simp [hj]
   ·have := h (k + i) v (by rw [flat_cons, List.getElem?_append_right (by simp; omega)]; simpa [h1] using hv)
    rwa [show o + (k + i) = o + k + i by omega] at this
theorem ints_cellsrel {E : En} {us : List Value} : ∀ {z : List Int} {o : Nat}, CellsRel E us o ((z.map (D.int .i64)).map .d) → ∀ j n, z[j]? = some n → us[o + j]? = some (.int .i64 n)
 | n :: z, o, ⟨⟨u, h1, _, h3⟩, h4⟩, j, m, hj => by
   cases j with
   | zero =>
     simp at hj; subst hj
     simp only [RelV, Rep] at h3
     subst h3
     simpa using h1
   | succ j =>
     have := ints_cellsrel h4 j m (by simpa using hj)
     rwa [show o + 1 + j = o + (j + 1) by omega] at this
theorem flat_rowrel {E : En} {k : Nat} {us : List Value} : ∀ {zs : List (List Int)} {o : Nat}, RowRel E us k o (dd (irow zs)) → (∀ z ∈ zs, z.length = k) ∧ ∀ i v, (flat zs)[i]? = some v → us[o + i]? = some v
 | [], _, _ => ⟨by simp, by simp [flat]⟩
 | z :: zs, o, h => by
   obtain ⟨h1, h2, h3⟩ : ((z.map (D.int .i64)).map TV.d).length = k ∧ CellsRel E us o ((z.map (D.int .i64)).map .d) ∧ RowRel E us k (o + k) (dd (irow zs)) := h
   rw [List.length_map, List.length_map] at h1
   obtain ⟨h4, h5⟩ := flat_rowrel h3
   refine ⟨fun y hy => by rcases List.mem_cons.1 hy with rfl | hy; exact h1; exact h4 y hy, fun i v hv => ?_⟩
   rw [flat_cons] at hv
   by_cases hi : i < z.length
   ·rw [List.getElem?_append_left (by simpa using hi), List.getElem?_map] at hv
    rw [List.getElem?_eq_getElem hi] at hv
    simp at hv; subst hv
    exact ints_cellsrel h2 i _ (List.getElem?_eq_getElem hi)
   ·rw [List.getElem?_append_right (by simp; omega)] at hv
    rw [List.length_map, h1] at hv
    have := h5 (i - k) v hv
    rwa [show o + k + (i - k) = o + i by omega] at this
structure SortC (P : Program) (f g : FuncId) (k : Nat) (pre : List (List Int) → Prop) (F : List (List Int) → List (List Int)) : Prop where
 len : ∀ zs, (F zs).length = zs.length
 row : ∀ zs, (∀ z ∈ zs, z.length = k) → ∀ z ∈ F zs, z.length = k
 run : ∀ (w : World) (b cap : Nat) (zs : List (List Int)) (cur : Array Value) (e : TypeId), w.heap[b]? = some (.cells cur e (0, 0)) → zs.length ≤ cap → cap ≤ maxLen → cur.size = cap * k → cur.toList.take (zs.length * k) = flat zs → (∀ z ∈ zs, z.length = k) → pre zs → 0 < zs.length → zs.length < 4611686018427387904 →
  Calls P f #[.slice (some ⟨b, 0, none⟩) zs.length cap, .func (.func g) #[] #[]] w fun e' w' => e' = .returned (.tuple #[]) ∧ w.grownBy w' (some b) ∧
   ∃ cur', w'.heap[b]? = some (.cells cur' e (0, 0)) ∧ cur'.size = cap * k ∧ cur'.toList.take (zs.length * k) = flat (F zs)
 none : ∀ p cap w, Calls P f #[.slice p 0 cap, .func (.func g) #[] #[]] w fun e' w' => e' = .returned (.tuple #[]) ∧ w' = w
section
variable {P : Program} {A : Actv} {ops : Array Oper}
theorem Sum.sortF {t : S} {i : Nat} {o : Oper} {gp : List Pl} {fo x y : Operand} {tys : Array TypeId} {f g : FuncId} {pre : List (List Int) → Prop} {F : List (List Int) → List (List Int)} {id n k : Nat} {e : TypeId} {zs : List (List Int)}
  (ho : ops[i]? = some o) (hg : gv ops t o = some (gp, true)) (hd : dstOK A.N o = true) (hop : o.op = .call { callee := .value fo, args := #[x, y], argTypes := tys }) (hf : ev t fo = .clo f []) (hfn : fnOK P f = true)
  (C : SortC P f g k pre F) (hpre : pre zs) (hx : ev t x = .oref id n) (hy : ev t y = .clo g []) (ht : t (.o id) = .row e k (dd (irow zs)) false) (hn : n = zs.length) (hsz : zs.length < 4611686018427387904) :
  Sum P A ops i t (gp ++ (pl fo ++ (pl x ++ (pl y ++ [.o id])))) (dstW o (.tup []) [(.o id, .row e k (dd (irow (F zs))) false)]) := fun t' hr a w ⟨E, hw, hi⟩ K Q hK => by
 subst hw
 have hwant := gv_wanted hg (pl_left hr) hi
 have hr1 := pl_right hr
 have hr2 := pl_right hr1
 have hr3 := pl_right hr2
 have hfo : ev t' fo = .clo f [] := (ev_eq (pl_left hr1)).trans hf
 have hx' : ev t' x = .oref id n := (ev_eq (pl_left hr2)).trans hx
 have hy' : ev t' y = .clo g [] := (ev_eq (pl_left hr3)).trans hy
 have ht' : t' (.o id) = .row e k (dd (irow zs)) false := (pl_right hr3 _ (by simp)).trans ht
 have hfr := ev_rel hi fo
 rw [hfo] at hfr
 simp only [RelV, RelVs] at hfr
 obtain ⟨ucap, hufo, hucap⟩ := hfr
 obtain rfl : ucap = #[] := by cases ucap; simpa using hucap
 have hyr := ev_rel hi y
 rw [hy'] at hyr
 simp only [RelV, RelVs] at hyr
 obtain ⟨ycap, huy, hycap⟩ := hyr
 obtain rfl : ycap = #[] := by cases ycap; simpa using hycap
 have hxr := ev_rel hi x
 rw [hx'] at hxr
 obtain ⟨hblk, v, us, hval, hown, hrel, hcur⟩ := row_cur hi ht'
 have hnl : (dd (irow zs)).length = zs.length := ddi_len zs
 rw [hn, ← hnl] at hxr
 have hxv := hcur _ hxr
 rw [hnl] at hval hown
 unfold wpOp
 simp only [ho, hwant, if_true]
 refine .inl ?_
 unfold Oper.wp
 have hrun : (execOp a.eval o).run P E.w = .ok (.enter f #[v, .func (.func g) #[] #[]]) E.w := by
  simp only [execOp, hop, resolve, hufo, Deferred.ofValue, invoke, Sem.run_bind, Sem.run_pure, Result.andThen_ok, List.map_toArray, Array.empty_append, run_callFunc hfn, hxv, huy, Array.map, Array.append_empty]
  simp [hxv, huy, run_callFunc hfn]
 rw [hrun]
 simp only [Oper.upon]
 obtain ⟨hlz, hnum⟩ := flat_rowrel hrel
 simp only [Nat.zero_add] at hnum
 have hownp : E.own (.o id) = v.ownBlock := by simp [En.own, hblk, hval]
 have htsh : ∀ (b : Nat), E.own (.o id) = some b → ∀ o', ¬ E.St b o' := fun b hb o' hs => by
  obtain ⟨e2, k2, es2, h1, _⟩ := hi.h.sep b o' hs _ hb
  rw [ht'] at h1
  simp at h1
 have fin : ∀ (w' : World) (us' : List Value), E.w.grownBy w' v.ownBlock → w'.ownsRow 0 e k v zs.length us' → (∀ (i : Nat) (u : Value), (flat (F zs))[i]? = some u → us'[i]? = some u) → K (a.put o.dst (.tuple #[])) w' := fun w' us' hgr hown' hcells => by
  obtain ⟨E', hw', x1, hi', hval'⟩ := hi.rowStep ht' (es' := dd (irow (F zs))) (sh' := false) (us' := us') (v' := v) (w' := w') (by rw [hnl]; exact hval) hgr
   (by rw [ddi_len, C.len]; exact hown') (by rw [ddi_len, ddi_len, C.len]; exact Nat.le_refl _) (fun _ => rfl) (.inl rfl)
   (fun b o' hst => by
    by_cases hb : v.ownBlock = some b
    ·exact absurd hst (htsh b (by rw [hownp, hb]) o')
    ·exact atW_of_block (hgr.block b (hi.h.stsz b o' hst) (fun e => hb e.symm)))
   (fun h => by simp at h) (fun E' hw' x => rowrel_flat (C.row zs hlz) (by simpa using hcells))
  refine hK _ _ ⟨E', hw', ?_⟩
  exact InvE.dst (W := [(.o id, .row e k (dd (irow (F zs))) false)]) hi' hd (by simp only [RelV]; exact ⟨#[], rfl, by simp [RelVs]⟩)
 have hsame : zs.length = 0 → ∀ (i : Nat) (u : Value), (flat (F zs))[i]? = some u → us[i]? = some u := fun h0 i u hu => by
  have := C.len zs
  rw [h0] at this
  rw [List.length_eq_zero_iff.1 this] at hu
  simp [flat] at hu
 rcases hown.2 with ⟨hv, h0⟩ | ⟨b, cap, cur, hv, hb0, hgg, hnc, hcm, hcs, htake⟩
 ·subst hv
  refine (C.none none 0 E.w).mono fun e' w' ⟨he, hw'⟩ => ?_
  subst he hw'
  exact fin E.w us ⟨rfl, rfl, rfl, Nat.le_refl _, fun _ _ _ => rfl⟩ hown (hsame h0)
 ·by_cases h0 : zs.length = 0
  ·subst hv
   have := hsame h0
   rw [h0]
   refine (C.none _ cap E.w).mono fun e' w' ⟨he, hw'⟩ => ?_
   subst he hw'
   rw [h0] at fin hown
   exact fin E.w us ⟨rfl, rfl, rfl, Nat.le_refl _, fun _ _ _ => rfl⟩ hown this
  ·subst hv
   have husz : us = flat zs := by
    apply List.ext_getElem?
    intro i
    by_cases hi2 : i < (flat zs).length
    ·rw [hnum i _ (List.getElem?_eq_getElem hi2), List.getElem?_eq_getElem hi2]
    ·have h1 := hown.1
     rw [← flat_len hlz] at h1
     rw [List.getElem?_eq_none (by omega), List.getElem?_eq_none (by omega)]
   rw [husz] at htake
   refine (C.run E.w b cap zs cur e hgg hnc hcm hcs htake hlz hpre (by omega) hsz).mono fun e' w' ⟨he, hgr, cur', h1, h2, h3⟩ => ?_
   subst he
   exact fin w' (flat (F zs)) hgr ⟨by rw [flat_len (C.row zs hlz), C.len], .inr ⟨b, cap, cur', rfl, hb0, h1, hnc, hcm, h2, h3⟩⟩ fun i u hu => hu
def sortFX (P : Program) (N : Nat) (t : S) (o : Oper) (f g : FuncId) (k : Nat) (pre : List (List Int) → Prop) (F : List (List Int) → List (List Int)) (zs : List (List Int)) (gp : List Pl) (gd : Bool) (fo x y : Operand) : Option (Prop × List Pl × List (Pl × It)) :=
 match ev t x with
 | .oref id n => match ev t fo with
   | .clo f' caps => match ev t y with
     | .clo g' caps2 => match t (.o id) with
       | .row e z es sh => some (gd = true ∧ dstOK N o = true ∧ f' = f ∧ caps = [] ∧ g' = g ∧ caps2 = [] ∧ fnOK P f = true ∧ z = k ∧ sh = false ∧ es = dd (irow zs) ∧ n = zs.length ∧ zs.length < 4611686018427387904 ∧ pre zs, gp ++ (pl fo ++ (pl x ++ (pl y ++ [.o id]))), dstW o (.tup []) [(.o id, .row e z (dd (irow (F zs))) false)])
       | _ => none
     | _ => none
   | _ => none
 | _ => none
def sortFO (P : Program) (N : Nat) (t : S) (ops : Array Oper) (f g : FuncId) (k : Nat) (pre : List (List Int) → Prop) (F : List (List Int) → List (List Int)) (zs : List (List Int)) : Option Oper → Option (Prop × List Pl × List (Pl × It))
 | some o => match gv ops t o with
   | some (gp, gd) => match o.op with
     | .call { callee := .value fo, args := xs, argTypes := _ } => match xs.toList with
       | [x, y] => sortFX P N t o f g k pre F zs gp gd fo x y
       | _ => none
     | _ => none
   | none => none
 | none => none
theorem ACall.sortF {i : Nat} {t : S} {kk : List Pl → List (Pl × It) → Prop} {gt : Tg kk} {f g : FuncId} {k : Nat} {pre : List (List Int) → Prop} {F : List (List Int) → List (List Int)} (C : SortC P f g k pre F) (zs : List (List Int))
  (h : AGo kk gt (sortFO P A.N t ops f g k pre F zs ops[i]?)) : ACall P A ops i t kk gt := by
 unfold AGo at h
 split at h
 ·rename_i D rp W hc
  obtain ⟨h1, h2⟩ := h
  refine ⟨rp, W, ?_, h2⟩
  unfold sortFO at hc
  split at hc
  ·rename_i o ho
   split at hc
   ·rename_i gp g0 hg
    split at hc
    ·rename_i fo xs tys hop
     split at hc
     ·rename_i x y hxs
      obtain rfl : xs = #[x, y] := by cases xs; simpa using hxs
      unfold sortFX at hc
      split at hc
      ·rename_i id n hx
       split at hc
       ·rename_i f' caps hf
        split at hc
        ·rename_i g' caps2 hy
         split at hc
         ·rename_i e z es sh ht
          simp only [Option.some.injEq, Prod.mk.injEq] at hc
          obtain ⟨rfl, rfl, rfl⟩ := hc
          obtain ⟨rfl, q1, rfl, rfl, rfl, rfl, q2, rfl, rfl, rfl, q3, q4, q5⟩ := h1
          exact Sum.sortF ho hg q1 hop hf q2 C q5 hx hy ht q3 q4
         ·simp at hc
        ·simp at hc
       ·simp at hc
      ·simp at hc
     ·simp at hc
    ·simp at hc
   ·simp at hc
  ·simp at hc
 ·exact h.elim
attribute [simp] sortFO sortFX
end
end Go.Tr

set_option linter.unusedSectionVars false
namespace Go.Tr
open Go Go.Proofs Go.Shelf Go.Sort Go.Lib
abbrev KL (zs : List (List Int)) := { l : List Int // l ∈ zs }
def encKL (zs : List (List Int)) (x : KL zs) : List Value := x.1.map (Value.int .i64)
section
variable {zs : List (List Int)} [Inhabited (KL zs)] {k : Nat}
theorem encKL_len (hz : ∀ z ∈ zs, z.length = k) (x : KL zs) : (encKL zs x).length = k := by simp [encKL, hz x.1 x.2]
theorem flat_getK (hz : ∀ z ∈ zs, z.length = k) (hk : 0 < k) : ∀ {ys : List (KL zs)} {t : Nat}, t < ys.length * k → (flat (ys.map (·.1)))[t]? = some ((encKL zs ys[t / k]!)[t % k]!)
 | [], t, h => by simp at h
 | z :: ys, t, h => by
   have hz2 := hz z.1 z.2
   rw [List.map_cons, flat_cons]
   by_cases ht : t < k
   ·rw [List.getElem?_append_left (by simp [hz2]; exact ht), Nat.div_eq_of_lt ht, Nat.mod_eq_of_lt ht]
    have : t < (z.1.map (Value.int .i64)).length := by simp [hz2]; exact ht
    rw [List.getElem?_eq_getElem this]
    show _ = some ((encKL zs z)[t]!)
    rw [getElem!_pos (encKL zs z) t (by rw [encKL_len hz]; exact ht)]
    rfl
   ·obtain ⟨s, rfl⟩ : ∃ s, t = s + k := ⟨t - k, by omega⟩
    rw [List.getElem?_append_right (by simp [hz2])]
    rw [List.length_map, hz2, Nat.add_sub_cancel]
    have h2 : s < ys.length * k := by rw [List.length_cons, Nat.add_mul] at h; omega
    rw [flat_getK hz hk h2, Nat.add_div_right _ hk, Nat.add_mod_right]
    rfl
theorem flatK_eq (hz : ∀ z ∈ zs, z.length = k) (hk : 0 < k) (ys : List (KL zs)) : (flatK (encKL zs) k ys.toArray).toList = flat (ys.map (·.1)) := by
 apply List.ext_getElem?
 intro t
 have hl : (flat (ys.map (·.1))).length = ys.length * k := by
  rw [flat_len (k := k) fun z hz' => by obtain ⟨y, _, rfl⟩ := List.mem_map.1 hz'; exact hz y.1 y.2]; simp
 by_cases ht : t < ys.length * k
 ·rw [flat_getK hz hk ht]
  have h2 : t < (flatK (encKL zs) k ys.toArray).size := by simpa using ht
  have := get_flatK (encKL zs) k ys.toArray t (by simpa using ht)
  rw [getElem!_pos _ t h2] at this
  rw [Array.getElem?_toList, Array.getElem?_eq_getElem h2, this]
  simp
 ·rw [List.getElem?_eq_none (by simpa using ht), List.getElem?_eq_none (by omega)]
theorem holdsK_row (hz : ∀ z ∈ zs, z.length = k) (hk : 0 < k) {w : World} {b : Nat} {ys : List (KL zs)} {cur : Array Value} {e : TypeId} (h1 : w.heap[b]? = some (.cells cur e (0, 0))) (h2 : cur.toList.take (ys.length * k) = flat (ys.map (·.1))) : HoldsK (encKL zs) k w b 0 ys.toArray := fun j hj => by
 have hj' : j < ys.length * k := by simpa using hj
 have h3 : cur[j]? = some ((flatK (encKL zs) k ys.toArray)[j]!) := by
  have h4 : (cur.toList.take (ys.length * k))[j]? = some ((flatK (encKL zs) k ys.toArray)[j]!) := by
   rw [h2, ← flatK_eq hz hk ys, Array.getElem?_toList, Array.getElem?_eq_getElem hj, getElem!_pos _ j hj]
  rw [List.getElem?_take, if_pos hj'] at h4
  simpa using h4
 constructor
 ·simp [World.cell?, h1, h3]
 ·simp [World.frozen?, h1]
theorem rowK_put (hz : ∀ z ∈ zs, z.length = k) (hk : 0 < k) {w : World} {b : Nat} {ys : List (KL zs)} {cur : Array Value} {e : TypeId} (n : Nat) (os : Array Obj) (h1 : w.heap[b]? = some (.cells cur e (0, 0))) (hc : ys.length * k ≤ cur.size) :
  w.grownBy (sortWorldK (encKL zs) k w b 0 n ys.toArray os) (some b) ∧
   ∃ cur', (sortWorldK (encKL zs) k w b 0 n ys.toArray os).heap[b]? = some (.cells cur' e (0, 0)) ∧ cur'.size = cur.size ∧ cur'.toList.take (ys.length * k) = flat (ys.map (·.1)) := by
 have hg : b < w.heap.size := (Array.getElem?_eq_some_iff.1 h1).1
 have hsz : (putRowK (encKL zs) k (Sort.ahead w n) b 0 ys.toArray).heap.size = w.heap.size := by simp [Sort.ahead, putRowK]
 unfold sortWorldK
 refine ⟨⟨rfl, rfl, rfl, by rw [size_grow, hsz]; omega, fun j hj hne => ?_⟩, putCells id 0 (flatK (encKL zs) k ys.toArray) cur, ?_, by simp [putCells], ?_⟩
 ·rw [heap_grow_old _ _ (by rw [hsz]; exact hj)]
  have : ¬ b = j := fun e => hne (by rw [e])
  simp [putRowK, putRow, mapBlock, Sort.ahead, Array.getElem?_modify, this]
 ·rw [heap_grow_old _ _ (by rw [hsz]; exact hg)]
  simp [putRowK, putRow, mapBlock, Sort.ahead, Array.getElem?_modify, h1, onCells]
 ·rw [← flatK_eq hz hk ys]
  apply List.ext_getElem?
  intro i
  rw [List.getElem?_take]
  by_cases hi : i < ys.length * k
  ·rw [if_pos hi]
   have hi3 : i < cur.size := by omega
   have hi4 : i < (flatK (encKL zs) k ys.toArray).size := by simpa using hi
   simp only [putCells, Array.getElem?_toList, Array.getElem?_mapIdx]
   rw [Array.getElem?_eq_getElem hi3, Array.getElem?_eq_getElem hi4]
   simp [hi4, hi]
  ·rw [if_neg hi, List.getElem?_eq_none (by simpa using hi)]
end
theorem mkKL {zs : List (List Int)} : ∀ (xs : List (List Int)), (∀ z ∈ xs, z ∈ zs) → ∃ ys : List (KL zs), ys.map (·.1) = xs
 | [], _ => ⟨[], rfl⟩
 | z :: xs, h => by
   obtain ⟨ys, hy⟩ := mkKL xs fun y hy => h y (by simp [hy])
   exact ⟨⟨z, h z (by simp)⟩ :: ys, by simp [hy]⟩
structure Parts2 (cf : List Int → List Int → Int) (zs : List (List Int)) : Prop where
 irr : ∀ x ∈ zs, ¬ cf x x < 0
 tr : ∀ x ∈ zs, ∀ y ∈ zs, ∀ z ∈ zs, cf x y < 0 → cf y z < 0 → cf x z < 0
 ntr : ∀ x ∈ zs, ∀ y ∈ zs, ∀ z ∈ zs, ¬ cf x y < 0 → ¬ cf y z < 0 → ¬ cf x z < 0
 one : ∀ x ∈ zs, ∀ y ∈ zs, ¬ cf x y < 0 → ¬ cf y x < 0 → x = y
theorem SortC.of {P : Program} {ρ : Ren} (L : SlLaysF0.n6 P ρ) {k : Nat} (hk : 0 < k) (aE : ∀ w, (isAgg (ρ.t 24)).run P w = .ok true w) (zE : ∀ w, (Go.sizeOf (ρ.t 24)).run P w = .ok k w) (cf : List Int → List Int → Int) (g : Nat)
  (eg : ∀ args w, (callFunc g args).run P w = .ok (.enter g args) w)
  (hcmp : ∀ (x y : List Int) (W : World), x.length = k → y.length = k → Calls P g #[.agg (x.map (Value.int .i64)).toArray, .agg (y.map (Value.int .i64)).toArray] W fun e w' => e = .returned (.int .i64 (cf x y)) ∧ ∃ q os', w' = grow (W.drewN q) os') :
  SortC P (ρ.f 6) g k (Parts2 cf) (fun zs => zs.mergeSort fun x y => !decide (cf y x < 0)) := by
 refine ⟨fun zs => List.length_mergeSort _, fun zs h z hz => h z (List.mem_mergeSort.1 hz), fun w b cap zs cur e h1 h2 h3 h4 h5 h6 hp h7 h8 => ?_, fun p cap w => AnyF.slices_SortFunc_none L p cap _ w⟩
 obtain ⟨ys, hys⟩ := mkKL (zs := zs) zs fun _ h => h
 have hl : ys.length = zs.length := by
  have := congrArg List.length hys
  simpa using this
 have inh : Inhabited (KL zs) := ⟨⟨zs[0], List.getElem_mem h7⟩⟩
 have hO : SWO (ltOf fun x y : KL zs => cf x.1 y.1) :=
  ⟨fun x => by have := hp.irr x.1 x.2; simpa [ltOf] using this, fun x y z h1 h2 => by
   have := hp.tr x.1 x.2 y.1 y.2 z.1 z.2
   simp only [ltOf, decide_eq_true_eq] at h1 h2 ⊢
   exact this h1 h2, fun x y z h1 h2 => by
   have := hp.ntr x.1 x.2 y.1 y.2 z.1 z.2
   simp only [ltOf, decide_eq_false_iff_not] at h1 h2 ⊢
   exact this h1 h2⟩
 have hT : ∀ x y : KL zs, (ltOf fun x y : KL zs => cf x.1 y.1) x y = false → (ltOf fun x y : KL zs => cf x.1 y.1) y x = false → x = y := fun x y h1 h2 => by
  simp only [ltOf, decide_eq_false_iff_not] at h1 h2
  exact Subtype.ext (hp.one x.1 x.2 y.1 y.2 h1 h2)
 rw [← hl] at h2 h5 h7 h8 ⊢
 have h5' : cur.toList.take (ys.length * k) = flat (ys.map (·.1)) := by rw [h5, hys]
 have hcl : CmpLays P g #[] (encKL zs) k (fun x y => cf x.1 y.1) b 0 ys.toArray.size w := fun m os dk _ x y => by
  have := hcmp x.1 y.1 (sortWorldK (encKL zs) k w b 0 m dk os) (h6 _ x.2) (h6 _ y.2)
  simpa [encKL] using this
 have hs := AnyQ.slices_SortFunc_total L k aE zE (encKL zs) (encKL_len h6) (fun x v hv => by simp only [encKL, List.mem_map] at hv; obtain ⟨n, _, rfl⟩ := hv; rfl) (fun x y => cf x.1 y.1) hO g #[] b 0 cap ys.toArray w eg hcl (holdsK_row h6 hk h1 h5') (Array.getElem?_eq_some_iff.1 h1).1 (by simpa using h8) hT
 rw [show ys.toArray.size = ys.length from rfl] at hs
 refine hs.mono fun e' w' ⟨he, n, os, hw⟩ => ?_
 subst hw
 have hm : ((ys.toArray.toList.mergeSort fun x y => !(ltOf fun x y : KL zs => cf x.1 y.1) y x).map (·.1)) = zs.mergeSort fun x y => !decide (cf y x < 0) := by
  have := List.map_mergeSort (f := fun x : KL zs => x.1) (l := ys) (r := fun x y => !(ltOf fun x y : KL zs => cf x.1 y.1) y x) (s := fun x y => !decide (cf y x < 0)) fun a _ b _ => rfl
  rw [hys] at this
  exact this
 have hml : (ys.toArray.toList.mergeSort fun x y => !(ltOf fun x y : KL zs => cf x.1 y.1) y x).length = ys.length := List.length_mergeSort _
 obtain ⟨k1, cur', k2, k3, k4⟩ := rowK_put h6 hk (ys := ys.toArray.toList.mergeSort fun x y => !(ltOf fun x y : KL zs => cf x.1 y.1) y x) n os h1 (by rw [hml, h4]; exact Nat.mul_le_mul_right k h2)
 rw [hml, hm] at k4
 exact ⟨he, k1, cur', k2, by omega, k4⟩
end Go.Tr

namespace Go.Tr
open Go Go.Proofs Go.Shelf Go.Sort Go.Lib
theorem Contract.cases {P : Program} {f : FuncId} {args : List TV} {xs : List It} {r : TV} {xs' : List It} {ro : List (Nat × It)} (h : ∀ E us, RelVs E args us → ∃ args', RelVs E args' us ∧ Contract P f args' xs r xs' ro) : Contract P f args xs r xs' ro :=
 fun E us hH ha => by obtain ⟨args', h1, c⟩ := h E us ha; exact c E us hH h1
@[simp] theorem passs_ds (t : S) (ν : List Pl) : ∀ ds : List D, TV.passs t ν (ds.map .d) = some (ds.map .d)
 | [] => rfl
 | d :: ds => by simp [TV.passs, TV.pass, passs_ds t ν ds]
@[simp] theorem passCs_ds (t : S) : ∀ ds : List D, TV.passCs t (ds.map .d) = True
 | [] => by simp [TV.passCs]
 | d :: ds => by simp [TV.passCs, TV.passC, passCs_ds t ds]
@[simp] theorem rowss_ds : ∀ ds : List D, TV.rowss (ds.map .d) = []
 | [] => rfl
 | d :: ds => by simp [TV.rowss, TV.rows, rowss_ds ds]
@[simp] theorem backs_ds (ν : List Pl) (b : Nat) : ∀ ds : List D, TV.backs ν b (ds.map .d) = ds.map .d
 | [] => rfl
 | d :: ds => by simp [TV.backs, TV.back, backs_ds ν b ds]
@[simp] theorem backs_dd (ν : List Pl) (b : Nat) (xs : List (List D)) : (dd xs).map (TV.backs ν b) = dd xs := by
 simp only [dd, List.map_map]
 exact List.map_congr_left fun ds _ => backs_ds ν b ds
section
variable {α : Type} (f : α → D)
end
end Go.Tr

namespace Go.Tr
open Go Go.Proofs Go.Shelf
structure GrowC (P : Program) (f : FuncId) (e : TypeId) (k N : Nat) : Prop where
 run : ∀ (w : World) (n : Nat), n ≤ N → Calls P f #[.slice none 0 0, .int .i64 n] w fun e' w' => ∃ v, e' = .returned v ∧ w.grownBy w' none ∧ w'.ownsRow w.heap.size e k v 0 []
section
variable {P : Program} {A : Actv} {ops : Array Oper}
theorem Sum.grow {t : S} {i d : Nat} {o : Oper} {gp : List Pl} {fo x y : Operand} {tys : Array TypeId} {f : FuncId} {e : TypeId} {k N : Nat} {n : Int}
  (ho : ops[i]? = some o) (hg : gv ops t o = some (gp, true)) (hd : dstOK A.N o = true) (hop : o.op = .call { callee := .value fo, args := #[x, y], argTypes := tys }) (hf : ev t fo = .clo f []) (hfn : fnOK P f = true)
  (C : GrowC P f e k N) (hx : ev t x = .c (.slice none 0 0)) (hy : ev t y = .d (.int .i64 n)) (hn : 0 ≤ n) (hN : n ≤ N) (ht : t (.o d) = .none) :
  Sum P A ops i t (gp ++ (pl fo ++ (pl x ++ (pl y ++ [.o d])))) (dstW o (.oref d 0) [(.o d, .row e k [] false)]) := fun t' hr a w ⟨E, hw, hi⟩ K Q hK => by
 subst hw
 have hwant := gv_wanted hg (pl_left hr) hi
 have hr1 := pl_right hr
 have hr2 := pl_right hr1
 have hr3 := pl_right hr2
 have hfo : ev t' fo = .clo f [] := (ev_eq (pl_left hr1)).trans hf
 have hx' : ev t' x = .c (.slice none 0 0) := (ev_eq (pl_left hr2)).trans hx
 have hy' : ev t' y = .d (.int .i64 n) := (ev_eq (pl_left hr3)).trans hy
 have ht' : t' (.o d) = .none := (pl_right hr3 _ (by simp)).trans ht
 have hfr := ev_rel hi fo
 rw [hfo] at hfr
 simp only [RelV, RelVs] at hfr
 obtain ⟨ucap, hufo, hucap⟩ := hfr
 obtain rfl : ucap = #[] := by cases ucap; simpa using hucap
 have hxr := ev_rel hi x
 rw [hx'] at hxr
 simp only [RelV] at hxr
 have hyr := ev_rel hi y
 rw [hy'] at hyr
 simp only [RelV, Rep] at hyr
 obtain ⟨m, rfl⟩ : ∃ m : Nat, n = m := ⟨n.toNat, by omega⟩
 unfold wpOp
 simp only [ho, hwant, if_true]
 refine .inl ?_
 unfold Oper.wp
 have hrun : (execOp a.eval o).run P E.w = .ok (.enter f #[.slice none 0 0, .int .i64 m]) E.w := by
  simp only [execOp, hop, resolve, hufo, Deferred.ofValue, invoke, Sem.run_bind, Sem.run_pure, Result.andThen_ok, List.map_toArray, Array.empty_append, run_callFunc hfn, hxr, hyr, Array.map, Array.append_empty]
  simp [hxr, hyr, run_callFunc hfn]
 rw [hrun]
 simp only [Oper.upon]
 refine (C.run E.w m (by omega)).mono fun e' w' ⟨v, he, hgr, hown⟩ => ?_
 subst he
 obtain ⟨E', hw', x', hi', hval⟩ := hi.newRowV ht' (es := []) (v := v) (us := []) (e := e) (k := k) (w' := w') hgr hown (fun E' _ _ => trivial)
 refine hK _ _ ⟨E', hw', ?_⟩
 refine InvE.dst (W := [(.o d, .row e k [] false)]) hi' hd ?_
 simp only [RelV]
 have h1 : v.oneCell' = true := by rcases hown.2 with ⟨rfl, _⟩ | ⟨g, cap, cur, rfl, _⟩ <;> rfl
 exact ⟨h1, k, 0, v, hval, Nat.le_refl _, fun _ => rfl⟩
def growX (P : Program) (N0 : Nat) (t : S) (o : Oper) (f : FuncId) (e : TypeId) (k N : Nat) (gp : List Pl) (g : Bool) (fo x y : Operand) : Option (Prop × List Pl × List (Pl × It)) :=
 match ev t fo with
 | .clo f' caps => match ev t x with
   | .c v => match ev t y with
     | .d (.int .i64 n) => match o.dst with
       | some d => some (g = true ∧ dstOK N0 o = true ∧ f' = f ∧ caps = [] ∧ fnOK P f = true ∧ v = .slice none 0 0 ∧ 0 ≤ n ∧ n ≤ N ∧ t (.o d) = .none, gp ++ (pl fo ++ (pl x ++ (pl y ++ [.o d]))), dstW o (.oref d 0) [(.o d, .row e k [] false)])
       | none => none
     | _ => none
   | _ => none
 | _ => none
def growO (P : Program) (N0 : Nat) (t : S) (ops : Array Oper) (f : FuncId) (e : TypeId) (k N : Nat) : Option Oper → Option (Prop × List Pl × List (Pl × It))
 | some o => match gv ops t o with
   | some (gp, g) => match o.op with
     | .call { callee := .value fo, args := xs, argTypes := _ } => match xs.toList with
       | [x, y] => growX P N0 t o f e k N gp g fo x y
       | _ => none
     | _ => none
   | none => none
 | none => none
theorem ACall.grow {i : Nat} {t : S} {k : List Pl → List (Pl × It) → Prop} {g : Tg k} {f : FuncId} {e : TypeId} {z N : Nat} (C : GrowC P f e z N)
  (h : AGo k g (growO P A.N t ops f e z N ops[i]?)) : ACall P A ops i t k g := by
 unfold AGo at h
 split at h
 ·rename_i D rp W hc
  obtain ⟨h1, h2⟩ := h
  refine ⟨rp, W, ?_, h2⟩
  unfold growO at hc
  split at hc
  ·rename_i o ho
   split at hc
   ·rename_i gp g0 hg
    split at hc
    ·rename_i fo xs tys hop
     split at hc
     ·rename_i x y hxs
      obtain rfl : xs = #[x, y] := by cases xs; simpa using hxs
      unfold growX at hc
      split at hc
      ·rename_i f' caps hf
       split at hc
       ·rename_i v hx
        split at hc
        ·rename_i n hy
         split at hc
         ·rename_i d hod
          simp only [Option.some.injEq, Prod.mk.injEq] at hc
          obtain ⟨rfl, rfl, rfl⟩ := hc
          obtain ⟨rfl, q1, rfl, rfl, q2, rfl, q3, q4, q5⟩ := h1
          exact Sum.grow ho hg q1 hop hf q2 C hx hy q3 q4 q5
         ·simp at hc
        ·simp at hc
       ·simp at hc
      ·simp at hc
     ·simp at hc
    ·simp at hc
   ·simp at hc
  ·simp at hc
 ·exact h.elim
end
end Go.Tr

namespace Go.Tr
open Go Go.Proofs
structure KeysC (P : Program) (fK fS g : FuncId) (e : TypeId) : Prop where
 keys : ∀ (b : Nat) (w : World), Calls P fK #[.map (some b)] w fun e' w' => ∃ ty, e' = .returned (.func (.func g) #[] #[.pointer (some ⟨w.heap.size, 0, none⟩)]) ∧ w' = w.alloc (.cells #[.map (some b)] ty)
 sorted : ∀ (Bm b : Nat) (l : Array MapEntry) (clock : Nat) (ks : List Int) (w : World), Bm < w.heap.size → w.cell? ⟨Bm, 0, none⟩ = some (.map (some b)) → w.heap[b]? = some (.map l clock) → MapKept.Stamped l clock →
  l.toList.map (·.key) = ks.map (Value.int .i64) → (∀ k ∈ ks, (Lit.int .i64 k).wf = true) → ks.length ≤ 1000000 →
  Calls P fS #[.func (.func g) #[] #[.pointer (some ⟨Bm, 0, none⟩)]] w fun e' w' => ∃ v, e' = .returned v ∧ w'.ownsRow w.heap.size e 1 v ks.length ((ks.mergeSort fun x y => decide (x ≤ y)).map (Value.int .i64)) ∧ RowKit.Below w.heap.size w w'
theorem mapRel_keys {E : En} : ∀ {es : List (Int × D)} {l : List MapEntry}, MapRel E es l → l.map (·.key) = (es.map (·.1)).map (Value.int .i64)
 | [], l, h => by simp only [MapRel] at h; subst h; rfl
 | (k, d) :: es, l, h => by
   simp only [MapRel] at h
   obtain ⟨a, l', rfl, h1, _, _, h4⟩ := h
   simp [h1, mapRel_keys h4]
def mkeys (es : List (Int × D)) : List Int := (es.map (·.1)).mergeSort fun x y => decide (x ≤ y)
theorem mkeys_len (es : List (Int × D)) : (mkeys es).length = es.length := by simp [mkeys, List.length_mergeSort]
section
variable {P : Program} {A : Actv} {ops : Array Oper}
theorem Sum.keys {t : S} {i d : Nat} {o : Oper} {gp : List Pl} {fo x : Operand} {tys : Array TypeId} {f fS g : FuncId} {e : TypeId} {id : Nat}
  (ho : ops[i]? = some o) (hg : gv ops t o = some (gp, true)) (hd : dstOK A.N o = true) (hop : o.op = .call { callee := .value fo, args := #[x], argTypes := tys }) (hf : ev t fo = .clo f []) (hfn : fnOK P f = true)
  (C : KeysC P f fS g e) (hx : ev t x = .mref id) (ht : t (.o d) = .none) :
  Sum P A ops i t (gp ++ (pl fo ++ (pl x ++ [.o d]))) (dstW o (.clo g [.ptr (.o d) 0]) [(.o d, .box [.mref id])]) := fun t' hr a w ⟨E, hw, hi⟩ K Q hK => by
 subst hw
 have hwant := gv_wanted hg (pl_left hr) hi
 have hr1 := pl_right hr
 have hr2 := pl_right hr1
 have hfo : ev t' fo = .clo f [] := (ev_eq (pl_left hr1)).trans hf
 have hx' : ev t' x = .mref id := (ev_eq (pl_left hr2)).trans hx
 have ht' : t' (.o d) = .none := (pl_right hr2 _ (by simp)).trans ht
 have hfr := ev_rel hi fo
 rw [hfo] at hfr
 simp only [RelV, RelVs] at hfr
 obtain ⟨ucap, hufo, hucap⟩ := hfr
 obtain rfl : ucap = #[] := by cases ucap; simpa using hucap
 have hxr := ev_rel hi x
 rw [hx'] at hxr
 have hxr2 := hxr
 simp only [RelV] at hxr
 obtain ⟨b, hb, hu⟩ := hxr
 unfold wpOp
 simp only [ho, hwant, if_true]
 refine .inl ?_
 unfold Oper.wp
 have hrun : (execOp a.eval o).run P E.w = .ok (.enter f #[.map (some b)]) E.w := by
  simp only [execOp, hop, resolve, hufo, Deferred.ofValue, invoke, Sem.run_bind, Sem.run_pure, Result.andThen_ok, List.map_toArray, Array.empty_append, run_callFunc hfn, hu, Array.map, Array.append_empty]
  simp [hu, run_callFunc hfn]
 rw [hrun]
 simp only [Oper.upon]
 refine (C.keys b E.w).mono fun e' w' ⟨ty, he, hw'⟩ => ?_
 subst he hw'
 obtain ⟨E', hw2, hinv, hrel⟩ := hi.newBox ht' (us := #[.map (some b)]) (cs := [.mref id]) rfl ⟨⟨_, rfl, rfl, by rw [← hu]; exact hxr2⟩, trivial⟩ ty
 refine hK _ _ ⟨E', hw2, ?_⟩
 refine InvE.dst (W := [(.o d, .box [.mref id])]) hinv hd ?_
 simp only [RelV, RelVs] at hrel ⊢
 exact ⟨_, rfl, _, _, rfl, hrel, rfl⟩
theorem Sum.sorted {t : S} {i d : Nat} {o : Oper} {gp : List Pl} {fo x : Operand} {tys : Array TypeId} {f fK g : FuncId} {e : TypeId} {id : Nat} {p : Pl} {es : List (Int × D)}
  (ho : ops[i]? = some o) (hg : gv ops t o = some (gp, true)) (hd : dstOK A.N o = true) (hop : o.op = .call { callee := .value fo, args := #[x], argTypes := tys }) (hf : ev t fo = .clo f []) (hfn : fnOK P f = true)
  (C : KeysC P fK f g e) (hx : ev t x = .clo g [.ptr p 0]) (hpl : isPl p = true) (hp : t p = .box [.mref id]) (hm : t (.o id) = .mp es) (hk : ∀ x ∈ es, I64 x.1) (hl : es.length ≤ 1000000) (ht : t (.o d) = .none) :
  Sum P A ops i t (gp ++ (pl fo ++ (pl x ++ [p, .o id, .o d]))) (dstW o (.oref d es.length) [(.o d, .row e 1 (dd (nrow .i64 (mkeys es))) false)]) := fun t' hr a w ⟨E, hw, hi⟩ K Q hK => by
 subst hw
 have hwant := gv_wanted hg (pl_left hr) hi
 have hr1 := pl_right hr
 have hr2 := pl_right hr1
 have hr3 := pl_right hr2
 have hfo : ev t' fo = .clo f [] := (ev_eq (pl_left hr1)).trans hf
 have hx' : ev t' x = .clo g [.ptr p 0] := (ev_eq (pl_left hr2)).trans hx
 have hp' : t' p = .box [.mref id] := (hr3 _ (by simp)).trans hp
 have hm' : t' (.o id) = .mp es := (hr3 _ (by simp)).trans hm
 have ht' : t' (.o d) = .none := (hr3 _ (by simp)).trans ht
 have hfr := ev_rel hi fo
 rw [hfo] at hfr
 simp only [RelV, RelVs] at hfr
 obtain ⟨ucap, hufo, hucap⟩ := hfr
 obtain rfl : ucap = #[] := by cases ucap; simpa using hucap
 have hxr := ev_rel hi x
 rw [hx'] at hxr
 simp only [RelV, RelVs] at hxr
 obtain ⟨us, hu, u0, us', hus, ⟨b0, hb0, hu0⟩, hus'⟩ := hxr
 subst hus' hu0
 obtain rfl : us = #[.pointer (some ⟨b0, 0, none⟩)] := by cases us; simpa using hus
 have hbox := hi.h.item p (fun k e => by subst e; simp [isPl] at hpl)
 rw [hp'] at hbox
 obtain ⟨_, b1, ty, cs, hb1, hh1, hsz, hc1⟩ := hbox
 rw [hb0] at hb1
 simp only [Option.some.injEq] at hb1
 subst hb1
 obtain ⟨⟨u1, hg1, _, hr1'⟩, _⟩ := hc1
 simp only [RelV] at hr1'
 obtain ⟨b2, hb2, hu1⟩ := hr1'
 subst hu1
 obtain ⟨_, b3, l, clock, hb3, hh3, hrel, hst⟩ := map_cur hi hm'
 rw [hb2] at hb3
 simp only [Option.some.injEq] at hb3
 subst hb3
 have hcell : E.w.cell? ⟨b0, 0, none⟩ = some (.map (some b2)) := by
  rw [cell_heap hh1]
  simpa using hg1
 have hlt : b0 < E.w.heap.size := (Array.getElem?_eq_some_iff.1 hh1).1
 unfold wpOp
 simp only [ho, hwant, if_true]
 refine .inl ?_
 unfold Oper.wp
 have hrun : (execOp a.eval o).run P E.w = .ok (.enter f #[.func (.func g) #[] #[.pointer (some ⟨b0, 0, none⟩)]]) E.w := by
  simp only [execOp, hop, resolve, hufo, Deferred.ofValue, invoke, Sem.run_bind, Sem.run_pure, Result.andThen_ok, List.map_toArray, Array.empty_append, run_callFunc hfn, hu, Array.map, Array.append_empty]
  simp [hu, run_callFunc hfn]
 rw [hrun]
 simp only [Oper.upon]
 have hwf : ∀ k ∈ es.map (·.1), (Lit.int .i64 k).wf = true := fun k hk' => by
  obtain ⟨x, hx, rfl⟩ := List.mem_map.1 hk'
  have := hk x hx
  simp only [Lit.wf, Bool.and_eq_true, decide_eq_true_eq]
  have m1 : IntKind.i64.min = -9223372036854775808 := by decide
  have m2 : IntKind.i64.max = 9223372036854775807 := by decide
  exact ⟨by have := this.1; omega, by have := this.2; omega⟩
 refine (C.sorted b0 b2 l clock (es.map (·.1)) E.w hlt hcell hh3 hst (mapRel_keys hrel) hwf (by simpa using hl)).mono fun e' w' ⟨v, he, hown, hbel⟩ => ?_
 subst he
 have hgr : E.w.grownBy w' none := ⟨hbel.os, hbel.tape, hbel.output, hbel.size, fun k hk _ => hbel.block k hk⟩
 have hkl : (dd (nrow .i64 (mkeys es))).length = es.length := by rw [ddn_len, mkeys_len]
 obtain ⟨E', hw2, x', hinv, hval⟩ := hi.newRowV ht' (es := dd (nrow .i64 (mkeys es))) (v := v) (us := (mkeys es).map (Value.int .i64)) (e := e) (k := 1) (w' := w') hgr
  (by rw [hkl]; simpa [mkeys] using hown) (fun E' _ _ => rowrel_nums (by simp))
 refine hK _ _ ⟨E', hw2, ?_⟩
 refine InvE.dst (W := [(.o d, .row e 1 (dd (nrow .i64 (mkeys es))) false)]) hinv hd ?_
 simp only [RelV]
 have h1 : v.oneCell' = true := by rcases hown.2 with ⟨rfl, _⟩ | ⟨g, cap, cur, rfl, _⟩ <;> rfl
 rw [hkl] at hval
 exact ⟨h1, 1, es.length, v, hval, Nat.le_refl _, fun _ => rfl⟩
def keysX (P : Program) (N0 : Nat) (t : S) (o : Oper) (f g : FuncId) (gp : List Pl) (gd : Bool) (fo x : Operand) : Option (Prop × List Pl × List (Pl × It)) :=
 match ev t fo with
 | .clo f' caps => match ev t x with
   | .mref id => match o.dst with
     | some d => some (gd = true ∧ dstOK N0 o = true ∧ f' = f ∧ caps = [] ∧ fnOK P f = true ∧ t (.o d) = .none, gp ++ (pl fo ++ (pl x ++ [.o d])), dstW o (.clo g [.ptr (.o d) 0]) [(.o d, .box [.mref id])])
     | none => none
   | _ => none
 | _ => none
def sortX (P : Program) (N0 : Nat) (t : S) (o : Oper) (f g : FuncId) (e : TypeId) (gp : List Pl) (gd : Bool) (fo x : Operand) : Option (Prop × List Pl × List (Pl × It)) :=
 match ev t fo with
 | .clo f' caps => match ev t x with
   | .clo g' [.ptr p 0] => match t p with
     | .box [.mref id] => match t (.o id) with
       | .mp es => match o.dst with
         | some d => some (gd = true ∧ dstOK N0 o = true ∧ f' = f ∧ caps = [] ∧ fnOK P f = true ∧ g' = g ∧ isPl p = true ∧ (∀ x ∈ es, I64 x.1) ∧ es.length ≤ 1000000 ∧ t (.o d) = .none,
           gp ++ (pl fo ++ (pl x ++ [p, .o id, .o d])), dstW o (.oref d es.length) [(.o d, .row e 1 (dd (nrow .i64 (mkeys es))) false)])
         | none => none
       | _ => none
     | _ => none
   | _ => none
 | _ => none
def oneO (t : S) (ops : Array Oper) (F : Oper → List Pl → Bool → Operand → Operand → Option (Prop × List Pl × List (Pl × It))) : Option Oper → Option (Prop × List Pl × List (Pl × It))
 | some o => match gv ops t o with
   | some (gp, g) => match o.op with
     | .call { callee := .value fo, args := xs, argTypes := _ } => match xs.toList with
       | [x] => F o gp g fo x
       | _ => none
     | _ => none
   | none => none
 | none => none
theorem ACall.one {i : Nat} {t : S} {k : List Pl → List (Pl × It) → Prop} {g : Tg k} {F : Oper → List Pl → Bool → Operand → Operand → Option (Prop × List Pl × List (Pl × It))}
  (hF : ∀ o gp gd fo x tys D rp W, ops[i]? = some o → gv ops t o = some (gp, gd) → o.op = .call { callee := .value fo, args := #[x], argTypes := tys } → F o gp gd fo x = some (D, rp, W) → D → Sum P A ops i t rp W)
  (h : AGo k g (oneO t ops F ops[i]?)) : ACall P A ops i t k g := by
 unfold AGo at h
 split at h
 ·rename_i D rp W hc
  obtain ⟨h1, h2⟩ := h
  refine ⟨rp, W, ?_, h2⟩
  unfold oneO at hc
  split at hc
  ·rename_i o ho
   split at hc
   ·rename_i gp g0 hg
    split at hc
    ·rename_i fo xs tys hop
     split at hc
     ·rename_i x hxs
      obtain rfl : xs = #[x] := by cases xs; simpa using hxs
      exact hF o gp g0 fo x tys D rp W ho hg hop hc h1
     ·simp at hc
    ·simp at hc
   ·simp at hc
  ·simp at hc
 ·exact h.elim
theorem ACall.keys {i : Nat} {t : S} {k : List Pl → List (Pl × It) → Prop} {gt : Tg k} {f fS g : FuncId} {e : TypeId} (C : KeysC P f fS g e)
  (h : AGo k gt (oneO t ops (fun o gp gd fo x => keysX P A.N t o f g gp gd fo x) ops[i]?)) : ACall P A ops i t k gt :=
 ACall.one (fun o gp gd fo x tys D rp W ho hg hop hc h1 => by
  unfold keysX at hc
  split at hc
  ·rename_i f' caps hf
   split at hc
   ·rename_i id hx
    split at hc
    ·rename_i d hod
     simp only [Option.some.injEq, Prod.mk.injEq] at hc
     obtain ⟨rfl, rfl, rfl⟩ := hc
     obtain ⟨rfl, q1, rfl, rfl, q2, q3⟩ := h1
     exact Sum.keys ho hg q1 hop hf q2 C hx q3
    ·simp at hc
   ·simp at hc
  ·simp at hc) h
theorem ACall.sorted {i : Nat} {t : S} {k : List Pl → List (Pl × It) → Prop} {gt : Tg k} {f fK g : FuncId} {e : TypeId} (C : KeysC P fK f g e)
  (h : AGo k gt (oneO t ops (fun o gp gd fo x => sortX P A.N t o f g e gp gd fo x) ops[i]?)) : ACall P A ops i t k gt :=
 ACall.one (fun o gp gd fo x tys D rp W ho hg hop hc h1 => by
  unfold sortX at hc
  split at hc
  ·rename_i f' caps hf
   split at hc
   ·rename_i g' p hx
    split at hc
    ·rename_i id hp
     split at hc
     ·rename_i es hm
      split at hc
      ·rename_i d hod
       simp only [Option.some.injEq, Prod.mk.injEq] at hc
       obtain ⟨rfl, rfl, rfl⟩ := hc
       obtain ⟨rfl, q1, rfl, rfl, q2, rfl, q3, q4, q5, q6⟩ := h1
       exact Sum.sorted ho hg q1 hop hf q2 C hx q3 hp hm q4 q5 q6
      ·simp at hc
     ·simp at hc
    ·simp at hc
   ·simp at hc
  ·simp at hc) h
end
end Go.Tr

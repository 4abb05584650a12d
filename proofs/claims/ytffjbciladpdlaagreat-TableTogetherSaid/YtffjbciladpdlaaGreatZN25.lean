/-
  What functions of the program compute, stated as contracts over plain data; the conditions of each stand in its own statement.
-/
import Derived.Test.YtffjbciladpdlaaGreatZN13
import Derived.Shelf.SlSortCmp.NoneTotal
import Derived.Test.YtffjbciladpdlaaGreatZN24
set_option linter.unusedSimpArgs false
namespace Go.Tr
open Go
def irow (zs : List (List Int)) : List (List D) := zs.map fun z => z.map (.int .i64)
@[simp] theorem irow_len (zs : List (List Int)) : (irow zs).length = zs.length := by simp [irow]
@[simp] theorem ddi_len (zs : List (List Int)) : (dd (irow zs)).length = zs.length := by simp [dd]
def flat (zs : List (List Int)) : List Value := zs.flatMap fun z => z.map (.int .i64)
theorem flat_cons (z : List Int) (zs : List (List Int)) : flat (z :: zs) = z.map (.int .i64) ++ flat zs := rfl
theorem flat_len {k : Nat} : ∀ {zs : List (List Int)}, (∀ z ∈ zs, z.length = k) → (flat zs).length = zs.length * k
 | [], _ => by simp [flat]
 | z :: zs, h => by
   have h1 := h z (by simp)
   have h2 := flat_len (zs := zs) fun y hy => h y (by simp [hy])
   rw [flat_cons, List.length_append, List.length_map, h1, h2, List.length_cons, Nat.add_mul]; omega
theorem cellsrel_ints {E : En} {us : List Value} : ∀ {z : List Int} {o : Nat}, (∀ j n, z[j]? = some n → us[o + j]? = some (.int .i64 n)) → CellsRel E us o ((z.map (D.int .i64)).map .d)
 | [], _, _ => trivial
 | n :: z, o, h => ⟨⟨.int .i64 n, by simpa using h 0 n rfl, rfl, by simp [RelV, Rep]⟩, cellsrel_ints fun j m hj => by
   have := h (j + 1) m hj
   rwa [show o + (j + 1) = o + 1 + j by omega] at this⟩
theorem rowrel_flat {E : En} {k : Nat} {us : List Value} : ∀ {zs : List (List Int)} {o : Nat}, (∀ z ∈ zs, z.length = k) → (∀ i v, (flat zs)[i]? = some v → us[o + i]? = some v) → RowRel E us k o (dd (irow zs))
 | [], _, _, _ => trivial
 | z :: zs, o, hl, h => by
   have h1 := hl z (by simp)
   refine ⟨by simp [h1], cellsrel_ints fun j n hj => ?_, rowrel_flat (fun y hy => hl y (by simp [hy])) fun i v hv => ?_⟩
   ·refine h j _ ?_
    rw [flat_cons, List.getElem?_append_left (by rw [List.length_map]; exact (List.getElem?_eq_some_iff.1 hj).1)]
    simp [hj]
   ·have := h (k + i) v (by rw [flat_cons, List.getElem?_append_right (by simp; omega)]; simpa [h1] using hv)
    rwa [show o + (k + i) = o + k + i by omega] at this
theorem ints_cellsrel {E : En} {us : List Value} : ∀ {z : List Int} {o : Nat}, CellsRel E us o ((z.map (D.int .i64)).map .d) → ∀ j n, z[j]? = some n → us[o + j]? = some (.int .i64 n)
 | n :: z, o, ⟨⟨u, h1, _, h3⟩, h4⟩, j, m, hj => by
   cases j with
   | zero =>
     simp at hj; subst hj
     simp only [RelV, Rep] at h3
     subst h3
     simpa using h1
   | succ j =>
     have := ints_cellsrel h4 j m (by simpa using hj)
     rwa [show o + 1 + j = o + (j + 1) by omega] at this
theorem flat_rowrel {E : En} {k : Nat} {us : List Value} : ∀ {zs : List (List Int)} {o : Nat}, RowRel E us k o (dd (irow zs)) → (∀ z ∈ zs, z.length = k) ∧ ∀ i v, (flat zs)[i]? = some v → us[o + i]? = some v
 | [], _, _ => ⟨by simp, by simp [flat]⟩
 | z :: zs, o, h => by
   obtain ⟨h1, h2, h3⟩ : ((z.map (D.int .i64)).map TV.d).length = k ∧ CellsRel E us o ((z.map (D.int .i64)).map .d) ∧ RowRel E us k (o + k) (dd (irow zs)) := h
   rw [List.length_map, List.length_map] at h1
   obtain ⟨h4, h5⟩ := flat_rowrel h3
   refine ⟨fun y hy => by rcases List.mem_cons.1 hy with rfl | hy; exact h1; exact h4 y hy, fun i v hv => ?_⟩
   rw [flat_cons] at hv
   by_cases hi : i < z.length
   ·rw [List.getElem?_append_left (by simpa using hi), List.getElem?_map] at hv
    rw [List.getElem?_eq_getElem hi] at hv
    simp at hv; subst hv
    exact ints_cellsrel h2 i _ (List.getElem?_eq_getElem hi)
   ·rw [List.getElem?_append_right (by simp; omega)] at hv
    rw [List.length_map, h1] at hv
    have := h5 (i - k) v hv
    rwa [show o + k + (i - k) = o + i by omega] at this
structure SortC (P : Program) (f g : FuncId) (k : Nat) (pre : List (List Int) → Prop) (F : List (List Int) → List (List Int)) : Prop where
 len : ∀ zs, (F zs).length = zs.length
 row : ∀ zs, (∀ z ∈ zs, z.length = k) → ∀ z ∈ F zs, z.length = k
 run : ∀ (w : World) (b cap : Nat) (zs : List (List Int)) (cur : Array Value) (e : TypeId), w.heap[b]? = some (.cells cur e (0, 0)) → zs.length ≤ cap → cap ≤ maxLen → cur.size = cap * k → cur.toList.take (zs.length * k) = flat zs → (∀ z ∈ zs, z.length = k) → pre zs → 0 < zs.length → zs.length < 4611686018427387904 →
  Calls P f #[.slice (some ⟨b, 0, none⟩) zs.length cap, .func (.func g) #[] #[]] w fun e' w' => e' = .returned (.tuple #[]) ∧ w.grownBy w' (some b) ∧
   ∃ cur', w'.heap[b]? = some (.cells cur' e (0, 0)) ∧ cur'.size = cap * k ∧ cur'.toList.take (zs.length * k) = flat (F zs)
 none : ∀ p cap w, Calls P f #[.slice p 0 cap, .func (.func g) #[] #[]] w fun e' w' => e' = .returned (.tuple #[]) ∧ w' = w
section
variable {P : Program} {A : Actv} {ops : Array Oper}
theorem Sum.sortF {t : S} {i : Nat} {o : Oper} {gp : List Pl} {fo x y : Operand} {tys : Array TypeId} {f g : FuncId} {pre : List (List Int) → Prop} {F : List (List Int) → List (List Int)} {id n k : Nat} {e : TypeId} {zs : List (List Int)}
  (ho : ops[i]? = some o) (hg : gv ops t o = some (gp, true)) (hd : dstOK A.N o = true) (hop : o.op = .call { callee := .value fo, args := #[x, y], argTypes := tys }) (hf : ev t fo = .clo f []) (hfn : fnOK P f = true)
  (C : SortC P f g k pre F) (hpre : pre zs) (hx : ev t x = .oref id n) (hy : ev t y = .clo g []) (ht : t (.o id) = .row e k (dd (irow zs)) false) (hn : n = zs.length) (hsz : zs.length < 4611686018427387904) :
  Sum P A ops i t (gp ++ (pl fo ++ (pl x ++ (pl y ++ [.o id])))) (dstW o (.tup []) [(.o id, .row e k (dd (irow (F zs))) false)]) := fun t' hr a w ⟨E, hw, hi⟩ K Q hK => by
 subst hw
 have hwant := gv_wanted hg (pl_left hr) hi
 have hr1 := pl_right hr
 have hr2 := pl_right hr1
 have hr3 := pl_right hr2
 have hfo : ev t' fo = .clo f [] := (ev_eq (pl_left hr1)).trans hf
 have hx' : ev t' x = .oref id n := (ev_eq (pl_left hr2)).trans hx
 have hy' : ev t' y = .clo g [] := (ev_eq (pl_left hr3)).trans hy
 have ht' : t' (.o id) = .row e k (dd (irow zs)) false := (pl_right hr3 _ (by simp)).trans ht
 have hfr := ev_rel hi fo
 rw [hfo] at hfr
 simp only [RelV, RelVs] at hfr
 obtain ⟨ucap, hufo, hucap⟩ := hfr
 obtain rfl : ucap = #[] := by cases ucap; simpa using hucap
 have hyr := ev_rel hi y
 rw [hy'] at hyr
 simp only [RelV, RelVs] at hyr
 obtain ⟨ycap, huy, hycap⟩ := hyr
 obtain rfl : ycap = #[] := by cases ycap; simpa using hycap
 have hxr := ev_rel hi x
 rw [hx'] at hxr
 obtain ⟨hblk, v, us, hval, hown, hrel, hcur⟩ := row_cur hi ht'
 have hnl : (dd (irow zs)).length = zs.length := ddi_len zs
 rw [hn, ← hnl] at hxr
 have hxv := hcur _ hxr
 rw [hnl] at hval hown
 unfold wpOp
 simp only [ho, hwant, if_true]
 refine .inl ?_
 unfold Oper.wp
 have hrun : (execOp a.eval o).run P E.w = .ok (.enter f #[v, .func (.func g) #[] #[]]) E.w := by
  simp only [execOp, hop, resolve, hufo, Deferred.ofValue, invoke, Sem.run_bind, Sem.run_pure, Result.andThen_ok, List.map_toArray, Array.empty_append, run_callFunc hfn, hxv, huy, Array.map, Array.append_empty]
  simp [hxv, huy, run_callFunc hfn]
 rw [hrun]
 simp only [Oper.upon]
 obtain ⟨hlz, hnum⟩ := flat_rowrel hrel
 simp only [Nat.zero_add] at hnum
 have hownp : E.own (.o id) = v.ownBlock := by simp [En.own, hblk, hval]
 have htsh : ∀ (b : Nat), E.own (.o id) = some b → ∀ o', ¬ E.St b o' := fun b hb o' hs => by
  obtain ⟨e2, k2, es2, h1, _⟩ := hi.h.sep b o' hs _ hb
  rw [ht'] at h1
  simp at h1
 have fin : ∀ (w' : World) (us' : List Value), E.w.grownBy w' v.ownBlock → w'.ownsRow 0 e k v zs.length us' → (∀ (i : Nat) (u : Value), (flat (F zs))[i]? = some u → us'[i]? = some u) → K (a.put o.dst (.tuple #[])) w' := fun w' us' hgr hown' hcells => by
  obtain ⟨E', hw', x1, hi', hval'⟩ := hi.rowStep ht' (es' := dd (irow (F zs))) (sh' := false) (us' := us') (v' := v) (w' := w') (by rw [hnl]; exact hval) hgr
   (by rw [ddi_len, C.len]; exact hown') (by rw [ddi_len, ddi_len, C.len]; exact Nat.le_refl _) (fun _ => rfl) (.inl rfl)
   (fun b o' hst => by
    by_cases hb : v.ownBlock = some b
    ·exact absurd hst (htsh b (by rw [hownp, hb]) o')
    ·exact atW_of_block (hgr.block b (hi.h.stsz b o' hst) (fun e => hb e.symm)))
   (fun h => by simp at h) (fun E' hw' x => rowrel_flat (C.row zs hlz) (by simpa using hcells))
  refine hK _ _ ⟨E', hw', ?_⟩
  exact InvE.dst (W := [(.o id, .row e k (dd (irow (F zs))) false)]) hi' hd (by simp only [RelV]; exact ⟨#[], rfl, by simp [RelVs]⟩)
 have hsame : zs.length = 0 → ∀ (i : Nat) (u : Value), (flat (F zs))[i]? = some u → us[i]? = some u := fun h0 i u hu => by
  have := C.len zs
  rw [h0] at this
  rw [List.length_eq_zero_iff.1 this] at hu
  simp [flat] at hu
 rcases hown.2 with ⟨hv, h0⟩ | ⟨b, cap, cur, hv, hb0, hgg, hnc, hcm, hcs, htake⟩
 ·subst hv
  refine (C.none none 0 E.w).mono fun e' w' ⟨he, hw'⟩ => ?_
  subst he hw'
  exact fin E.w us ⟨rfl, rfl, rfl, Nat.le_refl _, fun _ _ _ => rfl⟩ hown (hsame h0)
 ·by_cases h0 : zs.length = 0
  ·subst hv
   have := hsame h0
   rw [h0]
   refine (C.none _ cap E.w).mono fun e' w' ⟨he, hw'⟩ => ?_
   subst he hw'
   rw [h0] at fin hown
   exact fin E.w us ⟨rfl, rfl, rfl, Nat.le_refl _, fun _ _ _ => rfl⟩ hown this
  ·subst hv
   have husz : us = flat zs := by
    apply List.ext_getElem?
    intro i
    by_cases hi2 : i < (flat zs).length
    ·rw [hnum i _ (List.getElem?_eq_getElem hi2), List.getElem?_eq_getElem hi2]
    ·have h1 := hown.1
     rw [← flat_len hlz] at h1
     rw [List.getElem?_eq_none (by omega), List.getElem?_eq_none (by omega)]
   rw [husz] at htake
   refine (C.run E.w b cap zs cur e hgg hnc hcm hcs htake hlz hpre (by omega) hsz).mono fun e' w' ⟨he, hgr, cur', h1, h2, h3⟩ => ?_
   subst he
   exact fin w' (flat (F zs)) hgr ⟨by rw [flat_len (C.row zs hlz), C.len], .inr ⟨b, cap, cur', rfl, hb0, h1, hnc, hcm, h2, h3⟩⟩ fun i u hu => hu
def sortFX (P : Program) (N : Nat) (t : S) (o : Oper) (f g : FuncId) (k : Nat) (pre : List (List Int) → Prop) (F : List (List Int) → List (List Int)) (zs : List (List Int)) (gp : List Pl) (gd : Bool) (fo x y : Operand) : Option (Prop × List Pl × List (Pl × It)) :=
 match ev t x with
 | .oref id n => match ev t fo with
   | .clo f' caps => match ev t y with
     | .clo g' caps2 => match t (.o id) with
       | .row e z es sh => some (gd = true ∧ dstOK N o = true ∧ f' = f ∧ caps = [] ∧ g' = g ∧ caps2 = [] ∧ fnOK P f = true ∧ z = k ∧ sh = false ∧ es = dd (irow zs) ∧ n = zs.length ∧ zs.length < 4611686018427387904 ∧ pre zs, gp ++ (pl fo ++ (pl x ++ (pl y ++ [.o id]))), dstW o (.tup []) [(.o id, .row e z (dd (irow (F zs))) false)])
       | _ => none
     | _ => none
   | _ => none
 | _ => none
def sortFO (P : Program) (N : Nat) (t : S) (ops : Array Oper) (f g : FuncId) (k : Nat) (pre : List (List Int) → Prop) (F : List (List Int) → List (List Int)) (zs : List (List Int)) : Option Oper → Option (Prop × List Pl × List (Pl × It))
 | some o => match gv ops t o with
   | some (gp, gd) => match o.op with
     | .call { callee := .value fo, args := xs, argTypes := _ } => match xs.toList with
       | [x, y] => sortFX P N t o f g k pre F zs gp gd fo x y
       | _ => none
     | _ => none
   | none => none
 | none => none
theorem ACall.sortF {i : Nat} {t : S} {kk : List Pl → List (Pl × It) → Prop} {gt : Tg kk} {f g : FuncId} {k : Nat} {pre : List (List Int) → Prop} {F : List (List Int) → List (List Int)} (C : SortC P f g k pre F) (zs : List (List Int))
  (h : AGo kk gt (sortFO P A.N t ops f g k pre F zs ops[i]?)) : ACall P A ops i t kk gt := by
 unfold AGo at h
 split at h
 ·rename_i D rp W hc
  obtain ⟨h1, h2⟩ := h
  refine ⟨rp, W, ?_, h2⟩
  unfold sortFO at hc
  split at hc
  ·rename_i o ho
   split at hc
   ·rename_i gp g0 hg
    split at hc
    ·rename_i fo xs tys hop
     split at hc
     ·rename_i x y hxs
      obtain rfl : xs = #[x, y] := by cases xs; simpa using hxs
      unfold sortFX at hc
      split at hc
      ·rename_i id n hx
       split at hc
       ·rename_i f' caps hf
        split at hc
        ·rename_i g' caps2 hy
         split at hc
         ·rename_i e z es sh ht
          simp only [Option.some.injEq, Prod.mk.injEq] at hc
          obtain ⟨rfl, rfl, rfl⟩ := hc
          obtain ⟨rfl, q1, rfl, rfl, rfl, rfl, q2, rfl, rfl, rfl, q3, q4, q5⟩ := h1
          exact Sum.sortF ho hg q1 hop hf q2 C q5 hx hy ht q3 q4
         ·simp at hc
        ·simp at hc
       ·simp at hc
      ·simp at hc
     ·simp at hc
    ·simp at hc
   ·simp at hc
  ·simp at hc
 ·exact h.elim
attribute [simp] sortFO sortFX
end
end Go.Tr

set_option linter.unusedSectionVars false
namespace Go.Tr
open Go Go.Proofs Go.Shelf Go.Sort Go.Lib
abbrev KL (zs : List (List Int)) := { l : List Int // l ∈ zs }
def encKL (zs : List (List Int)) (x : KL zs) : List Value := x.1.map (Value.int .i64)
section
variable {zs : List (List Int)} [Inhabited (KL zs)] {k : Nat}
theorem encKL_len (hz : ∀ z ∈ zs, z.length = k) (x : KL zs) : (encKL zs x).length = k := by simp [encKL, hz x.1 x.2]
theorem flat_getK (hz : ∀ z ∈ zs, z.length = k) (hk : 0 < k) : ∀ {ys : List (KL zs)} {t : Nat}, t < ys.length * k → (flat (ys.map (·.1)))[t]? = some ((encKL zs ys[t / k]!)[t % k]!)
 | [], t, h => by simp at h
 | z :: ys, t, h => by
   have hz2 := hz z.1 z.2
   rw [List.map_cons, flat_cons]
   by_cases ht : t < k
   ·rw [List.getElem?_append_left (by simp [hz2]; exact ht), Nat.div_eq_of_lt ht, Nat.mod_eq_of_lt ht]
    have : t < (z.1.map (Value.int .i64)).length := by simp [hz2]; exact ht
    rw [List.getElem?_eq_getElem this]
    show _ = some ((encKL zs z)[t]!)
    rw [getElem!_pos (encKL zs z) t (by rw [encKL_len hz]; exact ht)]
    rfl
   ·obtain ⟨s, rfl⟩ : ∃ s, t = s + k := ⟨t - k, by omega⟩
    rw [List.getElem?_append_right (by simp [hz2])]
    rw [List.length_map, hz2, Nat.add_sub_cancel]
    have h2 : s < ys.length * k := by rw [List.length_cons, Nat.add_mul] at h; omega
    rw [flat_getK hz hk h2, Nat.add_div_right _ hk, Nat.add_mod_right]
    rfl
theorem flatK_eq (hz : ∀ z ∈ zs, z.length = k) (hk : 0 < k) (ys : List (KL zs)) : (flatK (encKL zs) k ys.toArray).toList = flat (ys.map (·.1)) := by
 apply List.ext_getElem?
 intro t
 have hl : (flat (ys.map (·.1))).length = ys.length * k := by
  rw [flat_len (k := k) fun z hz' => by obtain ⟨y, _, rfl⟩ := List.mem_map.1 hz'; exact hz y.1 y.2]; simp
 by_cases ht : t < ys.length * k
 ·rw [flat_getK hz hk ht]
  have h2 : t < (flatK (encKL zs) k ys.toArray).size := by simpa using ht
  have := get_flatK (encKL zs) k ys.toArray t (by simpa using ht)
  rw [getElem!_pos _ t h2] at this
  rw [Array.getElem?_toList, Array.getElem?_eq_getElem h2, this]
  simp
 ·rw [List.getElem?_eq_none (by simpa using ht), List.getElem?_eq_none (by omega)]
theorem holdsK_row (hz : ∀ z ∈ zs, z.length = k) (hk : 0 < k) {w : World} {b : Nat} {ys : List (KL zs)} {cur : Array Value} {e : TypeId} (h1 : w.heap[b]? = some (.cells cur e (0, 0))) (h2 : cur.toList.take (ys.length * k) = flat (ys.map (·.1))) : HoldsK (encKL zs) k w b 0 ys.toArray := fun j hj => by
 have hj' : j < ys.length * k := by simpa using hj
 have h3 : cur[j]? = some ((flatK (encKL zs) k ys.toArray)[j]!) := by
  have h4 : (cur.toList.take (ys.length * k))[j]? = some ((flatK (encKL zs) k ys.toArray)[j]!) := by
   rw [h2, ← flatK_eq hz hk ys, Array.getElem?_toList, Array.getElem?_eq_getElem hj, getElem!_pos _ j hj]
  rw [List.getElem?_take, if_pos hj'] at h4
  simpa using h4
 constructor
 ·simp [World.cell?, h1, h3]
 ·simp [World.frozen?, h1]
theorem rowK_put (hz : ∀ z ∈ zs, z.length = k) (hk : 0 < k) {w : World} {b : Nat} {ys : List (KL zs)} {cur : Array Value} {e : TypeId} (n : Nat) (os : Array Obj) (h1 : w.heap[b]? = some (.cells cur e (0, 0))) (hc : ys.length * k ≤ cur.size) :
  w.grownBy (sortWorldK (encKL zs) k w b 0 n ys.toArray os) (some b) ∧
   ∃ cur', (sortWorldK (encKL zs) k w b 0 n ys.toArray os).heap[b]? = some (.cells cur' e (0, 0)) ∧ cur'.size = cur.size ∧ cur'.toList.take (ys.length * k) = flat (ys.map (·.1)) := by
 have hg : b < w.heap.size := (Array.getElem?_eq_some_iff.1 h1).1
 have hsz : (putRowK (encKL zs) k (Sort.ahead w n) b 0 ys.toArray).heap.size = w.heap.size := by simp [Sort.ahead, putRowK]
 unfold sortWorldK
 refine ⟨⟨rfl, rfl, rfl, by rw [size_grow, hsz]; omega, fun j hj hne => ?_⟩, putCells id 0 (flatK (encKL zs) k ys.toArray) cur, ?_, by simp [putCells], ?_⟩
 ·rw [heap_grow_old _ _ (by rw [hsz]; exact hj)]
  have : ¬ b = j := fun e => hne (by rw [e])
  simp [putRowK, putRow, mapBlock, Sort.ahead, Array.getElem?_modify, this]
 ·rw [heap_grow_old _ _ (by rw [hsz]; exact hg)]
  simp [putRowK, putRow, mapBlock, Sort.ahead, Array.getElem?_modify, h1, onCells]
 ·rw [← flatK_eq hz hk ys]
  apply List.ext_getElem?
  intro i
  rw [List.getElem?_take]
  by_cases hi : i < ys.length * k
  ·rw [if_pos hi]
   have hi3 : i < cur.size := by omega
   have hi4 : i < (flatK (encKL zs) k ys.toArray).size := by simpa using hi
   simp only [putCells, Array.getElem?_toList, Array.getElem?_mapIdx]
   rw [Array.getElem?_eq_getElem hi3, Array.getElem?_eq_getElem hi4]
   simp [hi4, hi]
  ·rw [if_neg hi, List.getElem?_eq_none (by simpa using hi)]
end
theorem mkKL {zs : List (List Int)} : ∀ (xs : List (List Int)), (∀ z ∈ xs, z ∈ zs) → ∃ ys : List (KL zs), ys.map (·.1) = xs
 | [], _ => ⟨[], rfl⟩
 | z :: xs, h => by
   obtain ⟨ys, hy⟩ := mkKL xs fun y hy => h y (by simp [hy])
   exact ⟨⟨z, h z (by simp)⟩ :: ys, by simp [hy]⟩
structure Parts2 (cf : List Int → List Int → Int) (zs : List (List Int)) : Prop where
 irr : ∀ x ∈ zs, ¬ cf x x < 0
 tr : ∀ x ∈ zs, ∀ y ∈ zs, ∀ z ∈ zs, cf x y < 0 → cf y z < 0 → cf x z < 0
 ntr : ∀ x ∈ zs, ∀ y ∈ zs, ∀ z ∈ zs, ¬ cf x y < 0 → ¬ cf y z < 0 → ¬ cf x z < 0
 one : ∀ x ∈ zs, ∀ y ∈ zs, ¬ cf x y < 0 → ¬ cf y x < 0 → x = y
theorem SortC.of {P : Program} {ρ : Ren} (L : SlLaysF0.n6 P ρ) {k : Nat} (hk : 0 < k) (aE : ∀ w, (isAgg (ρ.t 24)).run P w = .ok true w) (zE : ∀ w, (Go.sizeOf (ρ.t 24)).run P w = .ok k w) (cf : List Int → List Int → Int) (g : Nat)
  (eg : ∀ args w, (callFunc g args).run P w = .ok (.enter g args) w)
  (hcmp : ∀ (x y : List Int) (W : World), x.length = k → y.length = k → Calls P g #[.agg (x.map (Value.int .i64)).toArray, .agg (y.map (Value.int .i64)).toArray] W fun e w' => e = .returned (.int .i64 (cf x y)) ∧ ∃ q os', w' = grow (W.drewN q) os') :
  SortC P (ρ.f 6) g k (Parts2 cf) (fun zs => zs.mergeSort fun x y => !decide (cf y x < 0)) := by
 refine ⟨fun zs => List.length_mergeSort _, fun zs h z hz => h z (List.mem_mergeSort.1 hz), fun w b cap zs cur e h1 h2 h3 h4 h5 h6 hp h7 h8 => ?_, fun p cap w => AnyF.slices_SortFunc_none L p cap _ w⟩
 obtain ⟨ys, hys⟩ := mkKL (zs := zs) zs fun _ h => h
 have hl : ys.length = zs.length := by
  have := congrArg List.length hys
  simpa using this
 have inh : Inhabited (KL zs) := ⟨⟨zs[0], List.getElem_mem h7⟩⟩
 have hO : SWO (ltOf fun x y : KL zs => cf x.1 y.1) :=
  ⟨fun x => by have := hp.irr x.1 x.2; simpa [ltOf] using this, fun x y z h1 h2 => by
   have := hp.tr x.1 x.2 y.1 y.2 z.1 z.2
   simp only [ltOf, decide_eq_true_eq] at h1 h2 ⊢
   exact this h1 h2, fun x y z h1 h2 => by
   have := hp.ntr x.1 x.2 y.1 y.2 z.1 z.2
   simp only [ltOf, decide_eq_false_iff_not] at h1 h2 ⊢
   exact this h1 h2⟩
 have hT : ∀ x y : KL zs, (ltOf fun x y : KL zs => cf x.1 y.1) x y = false → (ltOf fun x y : KL zs => cf x.1 y.1) y x = false → x = y := fun x y h1 h2 => by
  simp only [ltOf, decide_eq_false_iff_not] at h1 h2
  exact Subtype.ext (hp.one x.1 x.2 y.1 y.2 h1 h2)
 rw [← hl] at h2 h5 h7 h8 ⊢
 have h5' : cur.toList.take (ys.length * k) = flat (ys.map (·.1)) := by rw [h5, hys]
 have hcl : CmpLays P g #[] (encKL zs) k (fun x y => cf x.1 y.1) b 0 ys.toArray.size w := fun m os dk _ x y => by
  have := hcmp x.1 y.1 (sortWorldK (encKL zs) k w b 0 m dk os) (h6 _ x.2) (h6 _ y.2)
  simpa [encKL] using this
 have hs := AnyQ.slices_SortFunc_total L k aE zE (encKL zs) (encKL_len h6) (fun x v hv => by simp only [encKL, List.mem_map] at hv; obtain ⟨n, _, rfl⟩ := hv; rfl) (fun x y => cf x.1 y.1) hO g #[] b 0 cap ys.toArray w eg hcl (holdsK_row h6 hk h1 h5') (Array.getElem?_eq_some_iff.1 h1).1 (by simpa using h8) hT
 rw [show ys.toArray.size = ys.length from rfl] at hs
 refine hs.mono fun e' w' ⟨he, n, os, hw⟩ => ?_
 subst hw
 have hm : ((ys.toArray.toList.mergeSort fun x y => !(ltOf fun x y : KL zs => cf x.1 y.1) y x).map (·.1)) = zs.mergeSort fun x y => !decide (cf y x < 0) := by
  have := List.map_mergeSort (f := fun x : KL zs => x.1) (l := ys) (r := fun x y => !(ltOf fun x y : KL zs => cf x.1 y.1) y x) (s := fun x y => !decide (cf y x < 0)) fun a _ b _ => rfl
  rw [hys] at this
  exact this
 have hml : (ys.toArray.toList.mergeSort fun x y => !(ltOf fun x y : KL zs => cf x.1 y.1) y x).length = ys.length := List.length_mergeSort _
 obtain ⟨k1, cur', k2, k3, k4⟩ := rowK_put h6 hk (ys := ys.toArray.toList.mergeSort fun x y => !(ltOf fun x y : KL zs => cf x.1 y.1) y x) n os h1 (by rw [hml, h4]; exact Nat.mul_le_mul_right k h2)
 rw [hml, hm] at k4
 exact ⟨he, k1, cur', k2, by omega, k4⟩
end Go.Tr

namespace Go.Tr
open Go
def ANo {ι : Type} (k : List Pl → List (Pl × It) → Prop) (_ : Tg k) (X : ι → Prop) : Option (Prop × (ι → List (Pl × It))) → Prop
 | some (C, W) => C ∧ ∀ c, X c → k [] (W c)
 | none => False
theorem ANo_some {ι : Type} {k : List Pl → List (Pl × It) → Prop} {g : Tg k} {X : ι → Prop} {C : Prop} {W : ι → List (Pl × It)} : ANo k g X (some (C, W)) = (C ∧ ∀ c, X c → k [] (W c)) := rfl
section
variable {P : Program} {A : Actv} {ops : Array Oper}
def rangeO (P : Program) (N : Nat) (t : S) (ops : Array Oper) : Option Oper → Option (Prop × (Snap → List (Pl × It)))
 | some o => match gv ops t o with
   | some (_, g) => match o.op with
     | .range ty x => match ev t x with
       | .mref id => match t (.o id) with
         | .mpk es c pd _ => some (g = true ∧ dstOK N o = true ∧ mapTy P ty = true ∧ t (.o (o.dst.getD 0)) = .none, fun s => dstW o (.ptr (.o (o.dst.getD 0)) 0) [(.o (o.dst.getD 0), .mit id s (es.map (·.1)) none), (.o id, .mpk es c pd (some s))])
         | _ => none
       | .d (.mp ks vs) => some (g = true ∧ dstOK N o = true ∧ mapTy P ty = true ∧ t (.o (o.dst.getD 0)) = .none ∧ t (.o (o.dst.getD 0 + 4000000)) = .none,
         fun s => dstW o (.ptr (.o (o.dst.getD 0)) 0) [(.o (o.dst.getD 0), .mit (o.dst.getD 0 + 4000000) s ((kzip ks vs).map (·.1)) none), (.o (o.dst.getD 0 + 4000000), .mpz (kzip ks vs) s)])
       | _ => none
     | _ => none
   | none => none
 | none => none
theorem ANon.range {i : Nat} {t : S} {k : List Pl → List (Pl × It) → Prop} {g : Tg k} (h : ANo k g (fun _ => True) (rangeO P A.N t ops ops[i]?)) : ANon P A ops i t k g := by
 unfold ANo at h
 split at h
 ·rename_i C W hc
  obtain ⟨h1, h2⟩ := h
  refine ⟨Snap, fun _ => [], W, ?_, fun s => h2 s trivial⟩
  unfold rangeO at hc
  split at hc
  ·rename_i o ho
   split at hc
   ·rename_i gp g0 hg
    split at hc
    ·rename_i ty x hop
     split at hc
     ·rename_i id hx
      split at hc
      ·rename_i es c pd s0 ht
       simp only [Option.some.injEq, Prod.mk.injEq] at hc
       obtain ⟨rfl, rfl⟩ := hc
       obtain ⟨rfl, q1, q2, q3⟩ := h1
       intro a w hinv K Q hK
       obtain ⟨E, hw, hi⟩ := hinv
       subst hw
       have hwant := gv_wanted hg (fun _ _ => rfl) hi
       obtain ⟨kt, e, hu⟩ : ∃ kt e, P.underlying ty = some (.map kt e) := by
        unfold mapTy at q2
        split at q2
        ·rename_i kt e hu; exact ⟨kt, e, hu⟩
        ·simp at q2
       obtain ⟨s, u, E', r1, r2, r3⟩ := range_ok hop hu hx ht q3 t (fun _ _ => rfl) a E hi
       unfold wpOp
       simp only [ho, hwant, if_true]
       refine .inl ?_
       unfold Oper.wp
       rw [r1]
       exact hK s _ _ ⟨E', rfl, r2.dst q1 r3⟩
      ·simp at hc
     ·rename_i ks vs hx
      simp only [Option.some.injEq, Prod.mk.injEq] at hc
      obtain ⟨rfl, rfl⟩ := hc
      obtain ⟨rfl, q1, q2, q3, q4⟩ := h1
      intro a w hinv K Q hK
      obtain ⟨E, hw, hi⟩ := hinv
      subst hw
      have hwant := gv_wanted hg (fun _ _ => rfl) hi
      obtain ⟨kt, e, hu⟩ : ∃ kt e, P.underlying ty = some (.map kt e) := by
       unfold mapTy at q2
       split at q2
       ·rename_i kt e hu; exact ⟨kt, e, hu⟩
       ·simp at q2
      obtain ⟨s, u, E', r1, r2, r3⟩ := rangeZ_ok hop hu hx q3 q4 (by omega) t (fun _ _ => rfl) a E hi
      unfold wpOp
      simp only [ho, hwant, if_true]
      refine .inl ?_
      unfold Oper.wp
      rw [r1]
      exact hK s _ _ ⟨E', rfl, r2.dst q1 r3⟩
     ·simp at hc
    ·simp at hc
   ·simp at hc
  ·simp at hc
 ·exact h.elim
def nextO (N : Nat) (t : S) (ops : Array Oper) : Option Oper → Option (List (List Int) × (Prop × (Option (List Int) → List (Pl × It))))
 | some o => match gv ops t o with
   | some (_, g) => match o.op with
     | .next x false => match ev t x with
       | .ptr (.o d) off => match t (.o d) with
         | .mit id s left _ => match t (.o id) with
           | .mpk _ _ _ (some s') => some (left, (g = true ∧ dstOK N o = true ∧ off = 0 ∧ s' = s, fun k => dstW o (nextV k) (nextW d id s left k)))
           | .mpz _ s' => some (left, (g = true ∧ dstOK N o = true ∧ off = 0 ∧ s' = s, fun k => dstW o (nextV k) (nextW d id s left k)))
           | _ => none
         | _ => none
       | _ => none
     | _ => none
   | none => none
 | none => none
def ANn (k : List Pl → List (Pl × It) → Prop) (_ : Tg k) : Option (List (List Int) × (Prop × (Option (List Int) → List (Pl × It)))) → Prop
 | some (left, (C, W)) => C ∧ (left = [] → k [] (W none)) ∧ ∀ x, x ∈ left → k [] (W (some x))
 | none => False
theorem ANn_some {k : List Pl → List (Pl × It) → Prop} {g : Tg k} {left : List (List Int)} {C : Prop} {W : Option (List Int) → List (Pl × It)} : ANn k g (some (left, (C, W))) = (C ∧ (left = [] → k [] (W none)) ∧ ∀ x, x ∈ left → k [] (W (some x))) := rfl
theorem SumN.next {i d id off : Nat} {t : S} {o : Oper} {gp : List Pl} {x : Operand} {es : List (List Int × TV)} {s : Snap} {left : List (List Int)} {cur : Option (List Int)} (ho : ops[i]? = some o) (hg : gv ops t o = some (gp, true)) (hop : o.op = .next x false) (hx : ev t x = .ptr (.o d) off) (hd : t (.o d) = .mit id s left cur)
  (hm : mview es s (t (.o id))) (q1 : dstOK A.N o = true) (q2 : off = 0) : SumN P A ops i t (ι := { k // nextOK left k }) fun k => dstW o (nextV k.1) (nextW d id s left k.1) := fun a w hinv K Q hK => by
 subst q2
 obtain ⟨E, hw, hi⟩ := hinv
 subst hw
 have hwant := gv_wanted hg (fun _ _ => rfl) hi
 obtain ⟨k, u, E', hk, r1, r2, r3⟩ := next_ok (P := P) hop hx hd hm t (fun _ _ => rfl) a E hi
 unfold wpOp
 simp only [ho, hwant, if_true]
 refine .inl ?_
 unfold Oper.wp
 rw [r1]
 exact hK ⟨k, hk⟩ _ _ ⟨E', rfl, r2.dst q1 r3⟩
theorem ANon.next {i : Nat} {t : S} {k : List Pl → List (Pl × It) → Prop} {g : Tg k} (h : ANn k g (nextO A.N t ops ops[i]?)) : ANon P A ops i t k g := by
 unfold ANn at h
 split at h
 ·rename_i left C W hc
  obtain ⟨h1, h2, h3⟩ := h
  refine ⟨{ k // nextOK left k }, fun _ => [], fun k => W k.1, ?_, fun ⟨k, hk⟩ => ?_⟩
  ·unfold nextO at hc
   split at hc
   ·rename_i o ho
    split at hc
    ·rename_i gp g0 hg
     split at hc
     ·rename_i x hop
      split at hc
      ·rename_i d off hx
       split at hc
       ·rename_i id s left' cur hd
        split at hc
        ·rename_i es c pd s' hm
         simp only [Option.some.injEq, Prod.mk.injEq] at hc
         obtain ⟨rfl, rfl, rfl⟩ := hc
         obtain ⟨rfl, q1, q2, rfl⟩ := h1
         exact SumN.next ho hg hop hx hd (es := es) (by rw [hm]; exact ⟨rfl, rfl⟩) q1 q2
        ·rename_i es s' hm
         simp only [Option.some.injEq, Prod.mk.injEq] at hc
         obtain ⟨rfl, rfl, rfl⟩ := hc
         obtain ⟨rfl, q1, q2, rfl⟩ := h1
         exact SumN.next ho hg hop hx hd (es := es) (by rw [hm]; exact ⟨rfl, rfl⟩) q1 q2
        ·simp at hc
       ·simp at hc
      ·simp at hc
     ·simp at hc
    ·simp at hc
   ·simp at hc
  ·cases k with
   | none => exact h2 hk
   | some x => exact h3 x hk
 ·exact h.elim
attribute [simp] ANo_some ANn_some rangeO nextO nextV nextW
end
mutual
def TV.frz (id : Nat) (v : D) : TV → TV
 | .agg vs => .agg (TV.frzs id v vs)
 | .tup vs => .tup (TV.frzs id v vs)
 | .clo f vs => .clo f (TV.frzs id v vs)
 | .oref i n => if i = id then .junk else .oref i n
 | .eptr i n j q => if i = id then .junk else .eptr i n j q
 | .mref i => if i = id then .d v else .mref i
 | .osl i n j => if i = id then .junk else .osl i n j
 | .ptr p q => if p = .o id then .junk else .ptr p q
 | t => t
def TV.frzs (id : Nat) (v : D) : List TV → List TV
 | [] => []
 | t :: ts => t.frz id v :: TV.frzs id v ts
end
def frzI (id : Nat) (v : D) : It → It
 | .v t => .v (t.frz id v)
 | .box cs => .box (TV.frzs id v cs)
 | .row e k es sh => .row e k (es.map (TV.frzs id v)) sh
 | .que e k es => .que e k (es.map (TV.frzs id v))
 | .mpk es c pd s => .mpk (es.map fun x => (x.1, x.2.frz id v)) c pd s
 | .mpz es s => .mpz (es.map fun x => (x.1, x.2.frz id v)) s
 | i => i
def En.frz (E : En) (id b : Nat) : En :=
 { E with St := fun b' o => E.St b' o ∨ (b' = b ∧ o = 0), blk := fun p => if p = .o id then none else E.blk p, val := fun k => if k = id then none else E.val k }
theorem frz_r (E : En) (id b : Nat) : ExtR E (E.frz id b) := ⟨fun _ _ h => .inl h, fun _ _ _ => rfl⟩
section
variable {E : En} {id b : Nat} {v : D}
mutual
theorem frz_rel (hb : E.blk (.o id) = some b) (hv : Rep (E.frz id b) v (.map (some b))) : ∀ {t : TV} {u : Value}, RelV E t u → RelV (E.frz id b) (t.frz id v) u
 | .junk, u, _ => by simp only [TV.frz, RelV]
 | .d x, u, h => by simp only [TV.frz, RelV] at h ⊢; exact Rep.ext (frz_r E id b) x u h
 | .c w, u, h => by simp only [TV.frz, RelV] at h ⊢; exact h
 | .agg vs, u, h => by
   simp only [TV.frz, RelV] at h ⊢
   obtain ⟨us, hu, h⟩ := h
   exact ⟨us, hu, frzs_rel hb hv h⟩
 | .tup vs, u, h => by
   simp only [TV.frz, RelV] at h ⊢
   obtain ⟨us, hu, h⟩ := h
   exact ⟨us, hu, frzs_rel hb hv h⟩
 | .oref i n, u, h => by
   simp only [TV.frz]
   split
   ·simp only [RelV]
   ·rename_i e
    simp only [RelV] at h ⊢
    obtain ⟨h1, k, c, w, h2, h3⟩ := h
    exact ⟨h1, k, c, w, by simp only [En.frz, if_neg e]; exact h2, h3⟩
 | .ptr p q, u, h => by
   simp only [TV.frz]
   split
   ·simp only [RelV]
   ·rename_i e
    simp only [RelV] at h ⊢
    obtain ⟨b', h1, h2⟩ := h
    exact ⟨b', by simp only [En.frz, if_neg e]; exact h1, h2⟩
 | .ep e q, u, h => by
   simp only [TV.frz, RelV] at h ⊢
   obtain ⟨b', o, hu, hc⟩ := h
   exact ⟨b', o, hu, RepCells.ext (frz_r E id b) b' o e hc⟩
 | .eptr i n j q, u, h => by
   simp only [TV.frz]
   split
   ·simp only [RelV]
   ·rename_i e
    simp only [RelV] at h ⊢
    obtain ⟨h1, k, c, w, h2, h3⟩ := h
    exact ⟨h1, k, c, w, by simp only [En.frz, if_neg e]; exact h2, h3⟩
 | .osl i n j, u, h => by
   simp only [TV.frz]
   split
   ·simp only [RelV]
   ·rename_i e
    simp only [RelV] at h ⊢
    obtain ⟨h1, k, c, w, h2, h3⟩ := h
    exact ⟨h1, k, c, w, by simp only [En.frz, if_neg e]; exact h2, h3⟩
 | .mref i, u, h => by
   simp only [TV.frz]
   simp only [RelV] at h
   obtain ⟨b', h1, h2⟩ := h
   split
   ·rename_i e
    subst e
    rw [hb] at h1
    simp only [Option.some.injEq] at h1
    subst h1; subst h2
    simp only [RelV]; exact hv
   ·rename_i e
    simp only [RelV]
    exact ⟨b', by simp only [En.frz]; rw [if_neg (by simpa using e)]; exact h1, h2⟩
 | .sx xs, u, h => by
   simp only [TV.frz, RelV] at h ⊢
   exact ⟨Rep.ext (frz_r E id b) (.sl xs) u h.1, h.2⟩
 | .clo f vs, u, h => by
   simp only [TV.frz, RelV] at h ⊢
   obtain ⟨us, hu, h⟩ := h
   exact ⟨us, hu, frzs_rel hb hv h⟩
theorem frzs_rel (hb : E.blk (.o id) = some b) (hv : Rep (E.frz id b) v (.map (some b))) : ∀ {ts : List TV} {us : List Value}, RelVs E ts us → RelVs (E.frz id b) (TV.frzs id v ts) us
 | [], us, h => by simpa only [TV.frzs, RelVs] using h
 | t :: ts, us, h => by
   simp only [TV.frzs, RelVs] at h ⊢
   obtain ⟨u, us', hu, h1, h2⟩ := h
   exact ⟨u, us', hu, frz_rel hb hv h1, frzs_rel hb hv h2⟩
end
theorem frzs_length : ∀ ts : List TV, (TV.frzs id v ts).length = ts.length
 | [] => by simp only [TV.frzs]
 | t :: ts => by simp only [TV.frzs, List.length_cons, frzs_length ts]
theorem frzCells (hb : E.blk (.o id) = some b) (hv : Rep (E.frz id b) v (.map (some b))) {us : List Value} : ∀ {o : Nat} {cs : List TV}, CellsRel E us o cs → CellsRel (E.frz id b) us o (TV.frzs id v cs)
 | _, [], _ => by simp only [TV.frzs]; trivial
 | _, _ :: _, ⟨⟨u, h1, h2, h3⟩, r⟩ => by simp only [TV.frzs]; exact ⟨⟨u, h1, h2, frz_rel hb hv h3⟩, frzCells hb hv r⟩
theorem frzRow (hb : E.blk (.o id) = some b) (hv : Rep (E.frz id b) v (.map (some b))) {us : List Value} {k : Nat} : ∀ {o : Nat} {es : List (List TV)}, RowRel E us k o es → RowRel (E.frz id b) us k o (es.map (TV.frzs id v))
 | _, [], _ => trivial
 | _, _ :: _, ⟨h1, h2, r⟩ => ⟨(frzs_length _).trans h1, frzCells hb hv h2, frzRow hb hv r⟩
theorem frzK (hb : E.blk (.o id) = some b) (hv : Rep (E.frz id b) v (.map (some b))) : ∀ {es : List (List Int × TV)} {l : List MapEntry}, KRel E es l → KRel (E.frz id b) (es.map fun x => (x.1, x.2.frz id v)) l
 | [], _, h => h
 | _ :: _, _, ⟨e, l', rfl, h1, h2, h3⟩ => ⟨e, l', rfl, h1, frz_rel hb hv h2, frzK hb hv h3⟩
theorem frz_item (hb : E.blk (.o id) = some b) (hv : Rep (E.frz id b) v (.map (some b))) {p : Pl} (hp : p ≠ .o id) {i : It} (h : ItemOK E p i) : ItemOK (E.frz id b) p (frzI id v i) := by
 have hblk : (E.frz id b).blk p = E.blk p := by simp only [En.frz, if_neg hp]
 have hval : ∀ k, p = .o k → (E.frz id b).val k = E.val k := fun k e => by
  have : k ≠ id := fun e2 => hp (by rw [e, e2])
  simp only [En.frz, if_neg this]
 cases i with
 | none => exact fun k e => by rw [hblk, hval k e]; exact h k e
 | v t => exact (En.own_eq hblk hval).trans h
 | box cs =>
   obtain ⟨h0, b', ty, us, g1, g2, g3, g4⟩ := h
   exact ⟨fun k e => by rw [hval k e]; exact h0 k e, b', ty, us, hblk.trans g1, g2, by rw [frzs_length]; exact g3, frzCells hb hv g4⟩
 | row e k es sh =>
   obtain ⟨h0, i, w, us, rfl, g2, g3, g4⟩ := h
   exact ⟨hblk.trans h0, i, w, us, rfl, by rw [hval i rfl, List.length_map]; exact g2, by rw [List.length_map]; exact g3, frzRow hb hv g4⟩
 | que e k es =>
   obtain ⟨h0, i, w, us, rfl, g2, g3, g4⟩ := h
   exact ⟨hblk.trans h0, i, w, us, rfl, by rw [hval i rfl, List.length_map]; exact g2, by rw [List.length_map]; exact g3, frzRow hb hv g4⟩
 | mp es =>
   obtain ⟨h0, b', l, clock, g1, g2, g3, g4⟩ := h
   exact ⟨fun k e => by rw [hval k e]; exact h0 k e, b', l, clock, hblk.trans g1, g2, g3.ext (frz_r E id b), g4⟩
 | mpk es c pd s =>
   obtain ⟨i, b', l, clock, l', ty, w, rfl, g1, g2, g3, g4, g5, g6, g7, g8⟩ := h
   exact ⟨i, b', l, clock, l', ty, w, rfl, hblk.trans g1, g2, g3, frzK hb hv g4, g5, (hval i rfl).trans g6, g7, g8⟩
 | mit m s left cur =>
   obtain ⟨h0, r, seen, g1, g2, g3⟩ := h
   exact ⟨fun k e => by rw [hval k e]; exact h0 k e, r, seen, hblk.trans g1, g2, g3⟩
 | mpz es s =>
   obtain ⟨h0, g1, g2, g3, l', g4, g5⟩ := h
   exact ⟨(En.own_eq hblk hval).trans h0, .inl g1, g2, g3, l', g4, frzK hb hv g5⟩
end
def frzS (id : Nat) (v : D) (t : S) : S := fun p => if p = .o id then .none else frzI id v (t p)
def frzV (es : List (List Int × D)) : D := .mp (es.map (·.1)) (es.map (·.2))
theorem GS.frz {A : Actv} {t : S} {id c : Nat} {es : List (List Int × D)} {pd : Option (List Int)} {s : Option Snap} (ht : t (.o id) = .mpk (es.map fun x => (x.1, .d x.2)) c pd s) : GS A t (frzS id (frzV es) t) := fun a w ⟨E, hw, hi⟩ => by
 obtain ⟨b, l, clock, l', ty, w0, hb, hg, hp, hrel, hs, hval, _⟩ := mapK_cur hi ht
 have hownp : E.own (.o id) = some b := by simp [En.own, hb]
 have hrep : Rep (E.frz id b) (frzV es) (.map (some b)) := by
  have h1 := krel_repEs hrel
  simp only [frzV, Rep]
  exact ⟨b, l, clock, l', rfl, .inr ⟨rfl, rfl⟩, hg, hp, hs, h1.1, RepEs.ext (frz_r E id b) _ _ h1.2⟩
 have hown : ∀ {p q}, (E.frz id b).own p = some q → E.own p = some q ∧ p ≠ .o id := fun {p q} h => by
  by_cases e : p = .o id
  ·subst e; simp [En.own, En.frz] at h
  ·rw [En.own_eq (E := E) (by simp only [En.frz, if_neg e]) (fun k e2 => by
    have : k ≠ id := fun e3 => e (by rw [e2, e3])
    simp only [En.frz, if_neg this])] at h
   exact ⟨h, e⟩
 refine ⟨E.frz id b, hw, ⟨⟨fun p hp => ?_, fun k => ?_, fun p q r h1 h2 => hi.h.inj p q r (hown h1).1 (hown h2).1, fun p r h => hi.h.size p r (hown h).1, fun r o h => ?_, fun r o h1 p h2 => ?_, fun y hy => RepCells.ext (frz_r E id b) _ _ _ (hi.h.gl y hy)⟩, ?_, fun k tv hk => ?_, hi.defers, hi.size⟩⟩
 ·unfold frzS
  by_cases e : p = .o id
  ·subst e
   simp only [if_true]
   exact fun k e => by simp only [Pl.o.injEq] at e; subst e; simp [En.frz]
  ·rw [if_neg e]
   exact frz_item hb hrep e (hi.h.item p hp)
 ·simp only [En.frz]; rw [if_neg (by simp)]; exact hi.h.frees k
 ·rcases h with h | ⟨rfl, _⟩
  ·exact hi.h.stsz r o h
  ·exact (Array.getElem?_eq_some_iff.1 hg).1
 ·obtain ⟨g1, g2⟩ := hown h2
  rcases h1 with h1 | ⟨rfl, _⟩
  ·obtain ⟨e, k, es', g3, g4⟩ := hi.h.sep r o h1 p g1
   refine ⟨e, k, es'.map (TV.frzs id (frzV es)), ?_, by simpa using g4⟩
   simp only [frzS, if_neg g2, g3]; rfl
  ·exact absurd (hi.h.inj _ _ _ g1 hownp) g2
 ·refine ⟨hi.fr.os, hi.fr.tape, hi.fr.output, hi.fr.size, hi.fr.old, fun i => ?_, fun i r h => hi.fr.new i r (hown h).1, fun r o h => .inl (hi.fr.st r o h), fun r o h => ?_⟩
  ·simp only [En.frz]; rw [if_neg (by simp)]; exact hi.fr.xb i
  ·rcases h with h | ⟨rfl, _⟩
   ·exact hi.fr.newst r o h
   ·exact .inr (hi.fr.new id r hownp)
 ·unfold frzS at hk
  rw [if_neg (by simp)] at hk
  cases hsk : t (.s k) with
  | v tv' =>
    rw [hsk] at hk
    simp only [frzI, It.v.injEq] at hk
    subst hk
    obtain ⟨u, h1, h2⟩ := hi.sl k tv' hsk
    exact ⟨u, h1, frz_rel hb hrep h2⟩
  | none => rw [hsk] at hk; simp [frzI] at hk
  | box _ => rw [hsk] at hk; simp [frzI] at hk
  | row _ _ _ _ => rw [hsk] at hk; simp [frzI] at hk
  | que _ _ _ => rw [hsk] at hk; simp [frzI] at hk
  | mp _ => rw [hsk] at hk; simp [frzI] at hk
  | mpk _ _ _ _ => rw [hsk] at hk; simp [frzI] at hk
  | mit _ _ _ _ => rw [hsk] at hk; simp [frzI] at hk
  | mpz _ _ => rw [hsk] at hk; simp [frzI] at hk
def frzL (id : Nat) (v : D) : List (Pl × It) → List (Pl × It)
 | [] => []
 | (p, i) :: l => if p = .o id then frzL id v l else (p, frzI id v i) :: frzL id v l
theorem frzL_o (id : Nat) (v : D) : ∀ l : List (Pl × It), look (frzL id v l) (.o id) = .none
 | [] => rfl
 | (p, i) :: l => by
   by_cases e : p = .o id
   ·simp only [frzL, if_pos e]; exact frzL_o id v l
   ·simp only [frzL, if_neg e, look]; rw [if_neg (fun h : Pl.o id = p => e h.symm)]; exact frzL_o id v l
theorem frzS_look (id : Nat) (v : D) : ∀ (l : List (Pl × It)), frzS id v (look l) = look (frzL id v l)
 | [] => by funext p; unfold frzS; split <;> rfl
 | (q, i) :: l => by
   have ih := fun p => congrFun (frzS_look id v l) p
   funext p
   by_cases hp : p = .o id
   ·subst hp; rw [frzL_o]; simp [frzS]
   ·have h1 := ih p
    simp only [frzS, if_neg hp] at h1 ⊢
    by_cases hq : q = .o id
    ·simp only [frzL, if_pos hq, look]
     rw [if_neg (fun h => hp (h.trans hq))]; exact h1
    ·simp only [frzL, if_neg hq, look]
     by_cases e : p = q
     ·simp [e]
     ·simp only [if_neg e]; exact h1
theorem Fin.frz {P : Program} {A : Actv} {fn : Func} {r : TV} {xs : List It} {ro : List (Nat × It)} {l : List (Pl × It)} (id : Nat) (es : List (List Int × D)) {c : Nat} {pd : Option (List Int)} {s : Option Snap} (ht : look l (.o id) = .mpk (es.map fun x => (x.1, .d x.2)) c pd s)
  (h : Fin P A fn r xs ro (look (frzL id (frzV es) l))) : Fin P A fn r xs ro (look l) := by
 have := GS.frz (A := A) ht
 rw [frzS_look] at this
 exact h.ghost this
attribute [simp] frzL frzI TV.frz TV.frzs
end Go.Tr

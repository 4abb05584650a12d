/-
  What functions of the program compute, stated as contracts over plain data; the conditions of each stand in its own statement.
-/
import Derived.Test.YtffjbciladpdlaaGreatZN13
import Derived.Shelf.SortM.SortNone
import Derived.Shelf.SortM.Plain
import Derived.Shelf.SlicesG.CompactI
import Derived.Shelf.Spec.SlicesGrow
import Derived.Below
set_option linter.unusedSimpArgs false
namespace Go.Tr
open Go Go.Proofs Go.Shelf Go.Sort Go.Lib
theorem Contract.cases {P : Program} {f : FuncId} {args : List TV} {xs : List It} {r : TV} {xs' : List It} {ro : List (Nat × It)} (h : ∀ E us, RelVs E args us → ∃ args', RelVs E args' us ∧ Contract P f args' xs r xs' ro) : Contract P f args xs r xs' ro :=
 fun E us hH ha => by obtain ⟨args', h1, c⟩ := h E us ha; exact c E us hH h1
@[simp] theorem passs_ds (t : S) (ν : List Pl) : ∀ ds : List D, TV.passs t ν (ds.map .d) = some (ds.map .d)
 | [] => rfl
 | d :: ds => by simp [TV.passs, TV.pass, passs_ds t ν ds]
@[simp] theorem passCs_ds (t : S) : ∀ ds : List D, TV.passCs t (ds.map .d) = True
 | [] => by simp [TV.passCs]
 | d :: ds => by simp [TV.passCs, TV.passC, passCs_ds t ds]
@[simp] theorem rowss_ds : ∀ ds : List D, TV.rowss (ds.map .d) = []
 | [] => rfl
 | d :: ds => by simp [TV.rowss, TV.rows, rowss_ds ds]
@[simp] theorem backs_ds (ν : List Pl) (b : Nat) : ∀ ds : List D, TV.backs ν b (ds.map .d) = ds.map .d
 | [] => rfl
 | d :: ds => by simp [TV.backs, TV.back, backs_ds ν b ds]
@[simp] theorem backs_dd (ν : List Pl) (b : Nat) (xs : List (List D)) : (dd xs).map (TV.backs ν b) = dd xs := by
 simp only [dd, List.map_map]
 exact List.map_congr_left fun ds _ => backs_ds ν b ds
section
variable {α : Type} (f : α → D)
end
theorem holds_row {w : World} {g : Nat} {zs : List Int} {cur : Array Value} {e : TypeId} (h1 : w.heap[g]? = some (.cells cur e (0, 0))) (h2 : cur.toList.take zs.length = zs.map (.int .i64)) : Holds (Value.int .i64) w g 0 zs.toArray := fun j hj => by
 have hj' : j < zs.length := by simpa using hj
 have h3 : cur[j]? = some (.int .i64 zs[j]) := by
  have : (cur.toList.take zs.length)[j]? = some (.int .i64 zs[j]) := by rw [h2]; simp [hj']
  rw [List.getElem?_take, if_pos hj'] at this
  simpa using this
 constructor
 ·simp [World.cell?, h1, h3, hj']
 ·simp [World.frozen?, h1]
theorem row_put {w : World} {g : Nat} {ys zs : List Int} {cur : Array Value} {e : TypeId} (n : Nat) (os : Array Obj) (h1 : w.heap[g]? = some (.cells cur e (0, 0))) (hl : ys.length = zs.length) (hc : zs.length ≤ cur.size) :
  w.grownBy (grow (putRow (Value.int .i64) (Sort.ahead w n) g 0 ys.toArray) os) (some g) ∧
   ∃ cur', (grow (putRow (Value.int .i64) (Sort.ahead w n) g 0 ys.toArray) os).heap[g]? = some (.cells cur' e (0, 0)) ∧ cur'.size = cur.size ∧ cur'.toList.take zs.length = ys.map (.int .i64) := by
 have hg : g < w.heap.size := (Array.getElem?_eq_some_iff.1 h1).1
 have hsz : (putRow (Value.int .i64) (Sort.ahead w n) g 0 ys.toArray).heap.size = w.heap.size := by simp [Sort.ahead]
 refine ⟨⟨rfl, rfl, rfl, by rw [size_grow, hsz]; omega, fun k hk hne => ?_⟩, putCells (Value.int .i64) 0 ys.toArray cur, ?_, by simp [putCells], ?_⟩
 ·rw [heap_grow_old _ _ (by rw [hsz]; exact hk)]
  have : ¬ g = k := fun e => hne (by rw [e])
  simp [putRow, mapBlock, Sort.ahead, Array.getElem?_modify, this]
 ·rw [heap_grow_old _ _ (by rw [hsz]; exact hg)]
  simp [putRow, mapBlock, Sort.ahead, Array.getElem?_modify, h1, onCells]
 ·apply List.ext_getElem?
  intro i
  rw [List.getElem?_take]
  by_cases hi : i < zs.length
  ·rw [if_pos hi]
   have hi2 : i < ys.length := by omega
   have hi3 : i < cur.size := by omega
   simp [putCells, hi2, hi3]
  ·rw [if_neg hi, List.getElem?_eq_none (by simp; omega)]
theorem InplC.sort {P : Program} {ρ : Ren} (Ly : SlLaysM.n5 P ρ) : InplC P (ρ.f 5) .i64 (fun zs => zs.mergeSort fun x y => decide (x ≤ y)) Option.none := by
 refine ⟨fun zs => List.length_mergeSort _, fun m' h => by simp at h, fun w g cap zs cur e h1 h2 h3 h4 h5 h6 h7 => ?_, fun p cap w => ?_⟩
 ·refine (AnyM.slices_Sort_int Ly g 0 cap zs w (holds_row h1 h5) (Array.getElem?_eq_some_iff.1 h1).1 h7).mono fun e' w' ⟨he, n, os, hw⟩ => ?_
  subst hw
  obtain ⟨k1, cur', k2, k3, k4⟩ := row_put (zs := zs) (ys := zs.mergeSort fun x y => decide (x ≤ y)) n os h1 (List.length_mergeSort _) (by omega)
  exact ⟨he, k1, cur', k2, by omega, k4⟩
 ·exact (AnyM.slices_Sort_int_none Ly p cap w).mono fun e' w' ⟨he, hw⟩ => ⟨⟨Option.none, 0, he⟩, hw⟩
end Go.Tr

namespace Go.Tr
open Go Go.Proofs Go.Shelf
structure GrowC (P : Program) (f : FuncId) (e : TypeId) (k N : Nat) : Prop where
 run : ∀ (w : World) (n : Nat), n ≤ N → Calls P f #[.slice none 0 0, .int .i64 n] w fun e' w' => ∃ v, e' = .returned v ∧ w.grownBy w' none ∧ w'.ownsRow w.heap.size e k v 0 []
section
variable {P : Program} {A : Actv} {ops : Array Oper}
theorem Sum.grow {t : S} {i d : Nat} {o : Oper} {gp : List Pl} {fo x y : Operand} {tys : Array TypeId} {f : FuncId} {e : TypeId} {k N : Nat} {n : Int}
  (ho : ops[i]? = some o) (hg : gv ops t o = some (gp, true)) (hd : dstOK A.N o = true) (hop : o.op = .call { callee := .value fo, args := #[x, y], argTypes := tys }) (hf : ev t fo = .clo f []) (hfn : fnOK P f = true)
  (C : GrowC P f e k N) (hx : ev t x = .c (.slice none 0 0)) (hy : ev t y = .d (.int .i64 n)) (hn : 0 ≤ n) (hN : n ≤ N) (ht : t (.o d) = .none) :
  Sum P A ops i t (gp ++ (pl fo ++ (pl x ++ (pl y ++ [.o d])))) (dstW o (.oref d 0) [(.o d, .row e k [] false)]) := fun t' hr a w ⟨E, hw, hi⟩ K Q hK => by
 subst hw
 have hwant := gv_wanted hg (pl_left hr) hi
 have hr1 := pl_right hr
 have hr2 := pl_right hr1
 have hr3 := pl_right hr2
 have hfo : ev t' fo = .clo f [] := (ev_eq (pl_left hr1)).trans hf
 have hx' : ev t' x = .c (.slice none 0 0) := (ev_eq (pl_left hr2)).trans hx
 have hy' : ev t' y = .d (.int .i64 n) := (ev_eq (pl_left hr3)).trans hy
 have ht' : t' (.o d) = .none := (pl_right hr3 _ (by simp)).trans ht
 have hfr := ev_rel hi fo
 rw [hfo] at hfr
 simp only [RelV, RelVs] at hfr
 obtain ⟨ucap, hufo, hucap⟩ := hfr
 obtain rfl : ucap = #[] := by cases ucap; simpa using hucap
 have hxr := ev_rel hi x
 rw [hx'] at hxr
 simp only [RelV] at hxr
 have hyr := ev_rel hi y
 rw [hy'] at hyr
 simp only [RelV, Rep] at hyr
 obtain ⟨m, rfl⟩ : ∃ m : Nat, n = m := ⟨n.toNat, by omega⟩
 unfold wpOp
 simp only [ho, hwant, if_true]
 refine .inl ?_
 unfold Oper.wp
 have hrun : (execOp a.eval o).run P E.w = .ok (.enter f #[.slice none 0 0, .int .i64 m]) E.w := by
  simp only [execOp, hop, resolve, hufo, Deferred.ofValue, invoke, Sem.run_bind, Sem.run_pure, Result.andThen_ok, List.map_toArray, Array.empty_append, run_callFunc hfn, hxr, hyr, Array.map, Array.append_empty]
  simp [hxr, hyr, run_callFunc hfn]
 rw [hrun]
 simp only [Oper.upon]
 refine (C.run E.w m (by omega)).mono fun e' w' ⟨v, he, hgr, hown⟩ => ?_
 subst he
 obtain ⟨E', hw', x', hi', hval⟩ := hi.newRowV ht' (es := []) (v := v) (us := []) (e := e) (k := k) (w' := w') hgr hown (fun E' _ _ => trivial)
 refine hK _ _ ⟨E', hw', ?_⟩
 refine InvE.dst (W := [(.o d, .row e k [] false)]) hi' hd ?_
 simp only [RelV]
 have h1 : v.oneCell' = true := by rcases hown.2 with ⟨rfl, _⟩ | ⟨g, cap, cur, rfl, _⟩ <;> rfl
 exact ⟨h1, k, 0, v, hval, Nat.le_refl _, fun _ => rfl⟩
def growX (P : Program) (N0 : Nat) (t : S) (o : Oper) (f : FuncId) (e : TypeId) (k N : Nat) (gp : List Pl) (g : Bool) (fo x y : Operand) : Option (Prop × List Pl × List (Pl × It)) :=
 match ev t fo with
 | .clo f' caps => match ev t x with
   | .c v => match ev t y with
     | .d (.int .i64 n) => match o.dst with
       | some d => some (g = true ∧ dstOK N0 o = true ∧ f' = f ∧ caps = [] ∧ fnOK P f = true ∧ v = .slice none 0 0 ∧ 0 ≤ n ∧ n ≤ N ∧ t (.o d) = .none, gp ++ (pl fo ++ (pl x ++ (pl y ++ [.o d]))), dstW o (.oref d 0) [(.o d, .row e k [] false)])
       | none => none
     | _ => none
   | _ => none
 | _ => none
def growO (P : Program) (N0 : Nat) (t : S) (ops : Array Oper) (f : FuncId) (e : TypeId) (k N : Nat) : Option Oper → Option (Prop × List Pl × List (Pl × It))
 | some o => match gv ops t o with
   | some (gp, g) => match o.op with
     | .call { callee := .value fo, args := xs, argTypes := _ } => match xs.toList with
       | [x, y] => growX P N0 t o f e k N gp g fo x y
       | _ => none
     | _ => none
   | none => none
 | none => none
theorem ACall.grow {i : Nat} {t : S} {k : List Pl → List (Pl × It) → Prop} {g : Tg k} {f : FuncId} {e : TypeId} {z N : Nat} (C : GrowC P f e z N)
  (h : AGo k g (growO P A.N t ops f e z N ops[i]?)) : ACall P A ops i t k g := by
 unfold AGo at h
 split at h
 ·rename_i D rp W hc
  obtain ⟨h1, h2⟩ := h
  refine ⟨rp, W, ?_, h2⟩
  unfold growO at hc
  split at hc
  ·rename_i o ho
   split at hc
   ·rename_i gp g0 hg
    split at hc
    ·rename_i fo xs tys hop
     split at hc
     ·rename_i x y hxs
      obtain rfl : xs = #[x, y] := by cases xs; simpa using hxs
      unfold growX at hc
      split at hc
      ·rename_i f' caps hf
       split at hc
       ·rename_i v hx
        split at hc
        ·rename_i n hy
         split at hc
         ·rename_i d hod
          simp only [Option.some.injEq, Prod.mk.injEq] at hc
          obtain ⟨rfl, rfl, rfl⟩ := hc
          obtain ⟨rfl, q1, rfl, rfl, q2, rfl, q3, q4, q5⟩ := h1
          exact Sum.grow ho hg q1 hop hf q2 C hx hy q3 q4 q5
         ·simp at hc
        ·simp at hc
       ·simp at hc
      ·simp at hc
     ·simp at hc
    ·simp at hc
   ·simp at hc
  ·simp at hc
 ·exact h.elim
end
end Go.Tr

namespace Go.Tr
open Go Go.Proofs
structure KeysC (P : Program) (fK fS g : FuncId) (e : TypeId) : Prop where
 keys : ∀ (b : Nat) (w : World), Calls P fK #[.map (some b)] w fun e' w' => ∃ ty, e' = .returned (.func (.func g) #[] #[.pointer (some ⟨w.heap.size, 0, none⟩)]) ∧ w' = w.alloc (.cells #[.map (some b)] ty)
 sorted : ∀ (Bm b : Nat) (l : Array MapEntry) (clock : Nat) (ks : List Int) (w : World), Bm < w.heap.size → w.cell? ⟨Bm, 0, none⟩ = some (.map (some b)) → w.heap[b]? = some (.map l clock) → MapKept.Stamped l clock →
  l.toList.map (·.key) = ks.map (Value.int .i64) → (∀ k ∈ ks, (Lit.int .i64 k).wf = true) → ks.length ≤ 1000000 →
  Calls P fS #[.func (.func g) #[] #[.pointer (some ⟨Bm, 0, none⟩)]] w fun e' w' => ∃ v, e' = .returned v ∧ w'.ownsRow w.heap.size e 1 v ks.length ((ks.mergeSort fun x y => decide (x ≤ y)).map (Value.int .i64)) ∧ RowKit.Below w.heap.size w w'
theorem mapRel_keys {E : En} : ∀ {es : List (Int × D)} {l : List MapEntry}, MapRel E es l → l.map (·.key) = (es.map (·.1)).map (Value.int .i64)
 | [], l, h => by simp only [MapRel] at h; subst h; rfl
 | (k, d) :: es, l, h => by
   simp only [MapRel] at h
   obtain ⟨a, l', rfl, h1, _, _, h4⟩ := h
   simp [h1, mapRel_keys h4]
def mkeys (es : List (Int × D)) : List Int := (es.map (·.1)).mergeSort fun x y => decide (x ≤ y)
theorem mkeys_len (es : List (Int × D)) : (mkeys es).length = es.length := by simp [mkeys, List.length_mergeSort]
section
variable {P : Program} {A : Actv} {ops : Array Oper}
theorem Sum.keys {t : S} {i d : Nat} {o : Oper} {gp : List Pl} {fo x : Operand} {tys : Array TypeId} {f fS g : FuncId} {e : TypeId} {id : Nat}
  (ho : ops[i]? = some o) (hg : gv ops t o = some (gp, true)) (hd : dstOK A.N o = true) (hop : o.op = .call { callee := .value fo, args := #[x], argTypes := tys }) (hf : ev t fo = .clo f []) (hfn : fnOK P f = true)
  (C : KeysC P f fS g e) (hx : ev t x = .mref id) (ht : t (.o d) = .none) :
  Sum P A ops i t (gp ++ (pl fo ++ (pl x ++ [.o d]))) (dstW o (.clo g [.ptr (.o d) 0]) [(.o d, .box [.mref id])]) := fun t' hr a w ⟨E, hw, hi⟩ K Q hK => by
 subst hw
 have hwant := gv_wanted hg (pl_left hr) hi
 have hr1 := pl_right hr
 have hr2 := pl_right hr1
 have hfo : ev t' fo = .clo f [] := (ev_eq (pl_left hr1)).trans hf
 have hx' : ev t' x = .mref id := (ev_eq (pl_left hr2)).trans hx
 have ht' : t' (.o d) = .none := (pl_right hr2 _ (by simp)).trans ht
 have hfr := ev_rel hi fo
 rw [hfo] at hfr
 simp only [RelV, RelVs] at hfr
 obtain ⟨ucap, hufo, hucap⟩ := hfr
 obtain rfl : ucap = #[] := by cases ucap; simpa using hucap
 have hxr := ev_rel hi x
 rw [hx'] at hxr
 have hxr2 := hxr
 simp only [RelV] at hxr
 obtain ⟨b, hb, hu⟩ := hxr
 unfold wpOp
 simp only [ho, hwant, if_true]
 refine .inl ?_
 unfold Oper.wp
 have hrun : (execOp a.eval o).run P E.w = .ok (.enter f #[.map (some b)]) E.w := by
  simp only [execOp, hop, resolve, hufo, Deferred.ofValue, invoke, Sem.run_bind, Sem.run_pure, Result.andThen_ok, List.map_toArray, Array.empty_append, run_callFunc hfn, hu, Array.map, Array.append_empty]
  simp [hu, run_callFunc hfn]
 rw [hrun]
 simp only [Oper.upon]
 refine (C.keys b E.w).mono fun e' w' ⟨ty, he, hw'⟩ => ?_
 subst he hw'
 obtain ⟨E', hw2, hinv, hrel⟩ := hi.newBox ht' (us := #[.map (some b)]) (cs := [.mref id]) rfl ⟨⟨_, rfl, rfl, by rw [← hu]; exact hxr2⟩, trivial⟩ ty
 refine hK _ _ ⟨E', hw2, ?_⟩
 refine InvE.dst (W := [(.o d, .box [.mref id])]) hinv hd ?_
 simp only [RelV, RelVs] at hrel ⊢
 exact ⟨_, rfl, _, _, rfl, hrel, rfl⟩
theorem Sum.sorted {t : S} {i d : Nat} {o : Oper} {gp : List Pl} {fo x : Operand} {tys : Array TypeId} {f fK g : FuncId} {e : TypeId} {id : Nat} {p : Pl} {es : List (Int × D)}
  (ho : ops[i]? = some o) (hg : gv ops t o = some (gp, true)) (hd : dstOK A.N o = true) (hop : o.op = .call { callee := .value fo, args := #[x], argTypes := tys }) (hf : ev t fo = .clo f []) (hfn : fnOK P f = true)
  (C : KeysC P fK f g e) (hx : ev t x = .clo g [.ptr p 0]) (hpl : isPl p = true) (hp : t p = .box [.mref id]) (hm : t (.o id) = .mp es) (hk : ∀ x ∈ es, I64 x.1) (hl : es.length ≤ 1000000) (ht : t (.o d) = .none) :
  Sum P A ops i t (gp ++ (pl fo ++ (pl x ++ [p, .o id, .o d]))) (dstW o (.oref d es.length) [(.o d, .row e 1 (dd (nrow .i64 (mkeys es))) false)]) := fun t' hr a w ⟨E, hw, hi⟩ K Q hK => by
 subst hw
 have hwant := gv_wanted hg (pl_left hr) hi
 have hr1 := pl_right hr
 have hr2 := pl_right hr1
 have hr3 := pl_right hr2
 have hfo : ev t' fo = .clo f [] := (ev_eq (pl_left hr1)).trans hf
 have hx' : ev t' x = .clo g [.ptr p 0] := (ev_eq (pl_left hr2)).trans hx
 have hp' : t' p = .box [.mref id] := (hr3 _ (by simp)).trans hp
 have hm' : t' (.o id) = .mp es := (hr3 _ (by simp)).trans hm
 have ht' : t' (.o d) = .none := (hr3 _ (by simp)).trans ht
 have hfr := ev_rel hi fo
 rw [hfo] at hfr
 simp only [RelV, RelVs] at hfr
 obtain ⟨ucap, hufo, hucap⟩ := hfr
 obtain rfl : ucap = #[] := by cases ucap; simpa using hucap
 have hxr := ev_rel hi x
 rw [hx'] at hxr
 simp only [RelV, RelVs] at hxr
 obtain ⟨us, hu, u0, us', hus, ⟨b0, hb0, hu0⟩, hus'⟩ := hxr
 subst hus' hu0
 obtain rfl : us = #[.pointer (some ⟨b0, 0, none⟩)] := by cases us; simpa using hus
 have hbox := hi.h.item p (fun k e => by subst e; simp [isPl] at hpl)
 rw [hp'] at hbox
 obtain ⟨_, b1, ty, cs, hb1, hh1, hsz, hc1⟩ := hbox
 rw [hb0] at hb1
 simp only [Option.some.injEq] at hb1
 subst hb1
 obtain ⟨⟨u1, hg1, _, hr1'⟩, _⟩ := hc1
 simp only [RelV] at hr1'
 obtain ⟨b2, hb2, hu1⟩ := hr1'
 subst hu1
 obtain ⟨_, b3, l, clock, hb3, hh3, hrel, hst⟩ := map_cur hi hm'
 rw [hb2] at hb3
 simp only [Option.some.injEq] at hb3
 subst hb3
 have hcell : E.w.cell? ⟨b0, 0, none⟩ = some (.map (some b2)) := by
  rw [cell_heap hh1]
  simpa using hg1
 have hlt : b0 < E.w.heap.size := (Array.getElem?_eq_some_iff.1 hh1).1
 unfold wpOp
 simp only [ho, hwant, if_true]
 refine .inl ?_
 unfold Oper.wp
 have hrun : (execOp a.eval o).run P E.w = .ok (.enter f #[.func (.func g) #[] #[.pointer (some ⟨b0, 0, none⟩)]]) E.w := by
  simp only [execOp, hop, resolve, hufo, Deferred.ofValue, invoke, Sem.run_bind, Sem.run_pure, Result.andThen_ok, List.map_toArray, Array.empty_append, run_callFunc hfn, hu, Array.map, Array.append_empty]
  simp [hu, run_callFunc hfn]
 rw [hrun]
 simp only [Oper.upon]
 have hwf : ∀ k ∈ es.map (·.1), (Lit.int .i64 k).wf = true := fun k hk' => by
  obtain ⟨x, hx, rfl⟩ := List.mem_map.1 hk'
  have := hk x hx
  simp only [Lit.wf, Bool.and_eq_true, decide_eq_true_eq]
  have m1 : IntKind.i64.min = -9223372036854775808 := by decide
  have m2 : IntKind.i64.max = 9223372036854775807 := by decide
  exact ⟨by have := this.1; omega, by have := this.2; omega⟩
 refine (C.sorted b0 b2 l clock (es.map (·.1)) E.w hlt hcell hh3 hst (mapRel_keys hrel) hwf (by simpa using hl)).mono fun e' w' ⟨v, he, hown, hbel⟩ => ?_
 subst he
 have hgr : E.w.grownBy w' none := ⟨hbel.os, hbel.tape, hbel.output, hbel.size, fun k hk _ => hbel.block k hk⟩
 have hkl : (dd (nrow .i64 (mkeys es))).length = es.length := by rw [ddn_len, mkeys_len]
 obtain ⟨E', hw2, x', hinv, hval⟩ := hi.newRowV ht' (es := dd (nrow .i64 (mkeys es))) (v := v) (us := (mkeys es).map (Value.int .i64)) (e := e) (k := 1) (w' := w') hgr
  (by rw [hkl]; simpa [mkeys] using hown) (fun E' _ _ => rowrel_nums (by simp))
 refine hK _ _ ⟨E', hw2, ?_⟩
 refine InvE.dst (W := [(.o d, .row e 1 (dd (nrow .i64 (mkeys es))) false)]) hinv hd ?_
 simp only [RelV]
 have h1 : v.oneCell' = true := by rcases hown.2 with ⟨rfl, _⟩ | ⟨g, cap, cur, rfl, _⟩ <;> rfl
 rw [hkl] at hval
 exact ⟨h1, 1, es.length, v, hval, Nat.le_refl _, fun _ => rfl⟩
def keysX (P : Program) (N0 : Nat) (t : S) (o : Oper) (f g : FuncId) (gp : List Pl) (gd : Bool) (fo x : Operand) : Option (Prop × List Pl × List (Pl × It)) :=
 match ev t fo with
 | .clo f' caps => match ev t x with
   | .mref id => match o.dst with
     | some d => some (gd = true ∧ dstOK N0 o = true ∧ f' = f ∧ caps = [] ∧ fnOK P f = true ∧ t (.o d) = .none, gp ++ (pl fo ++ (pl x ++ [.o d])), dstW o (.clo g [.ptr (.o d) 0]) [(.o d, .box [.mref id])])
     | none => none
   | _ => none
 | _ => none
def sortX (P : Program) (N0 : Nat) (t : S) (o : Oper) (f g : FuncId) (e : TypeId) (gp : List Pl) (gd : Bool) (fo x : Operand) : Option (Prop × List Pl × List (Pl × It)) :=
 match ev t fo with
 | .clo f' caps => match ev t x with
   | .clo g' [.ptr p 0] => match t p with
     | .box [.mref id] => match t (.o id) with
       | .mp es => match o.dst with
         | some d => some (gd = true ∧ dstOK N0 o = true ∧ f' = f ∧ caps = [] ∧ fnOK P f = true ∧ g' = g ∧ isPl p = true ∧ (∀ x ∈ es, I64 x.1) ∧ es.length ≤ 1000000 ∧ t (.o d) = .none,
           gp ++ (pl fo ++ (pl x ++ [p, .o id, .o d])), dstW o (.oref d es.length) [(.o d, .row e 1 (dd (nrow .i64 (mkeys es))) false)])
         | none => none
       | _ => none
     | _ => none
   | _ => none
 | _ => none
def oneO (t : S) (ops : Array Oper) (F : Oper → List Pl → Bool → Operand → Operand → Option (Prop × List Pl × List (Pl × It))) : Option Oper → Option (Prop × List Pl × List (Pl × It))
 | some o => match gv ops t o with
   | some (gp, g) => match o.op with
     | .call { callee := .value fo, args := xs, argTypes := _ } => match xs.toList with
       | [x] => F o gp g fo x
       | _ => none
     | _ => none
   | none => none
 | none => none
theorem ACall.one {i : Nat} {t : S} {k : List Pl → List (Pl × It) → Prop} {g : Tg k} {F : Oper → List Pl → Bool → Operand → Operand → Option (Prop × List Pl × List (Pl × It))}
  (hF : ∀ o gp gd fo x tys D rp W, ops[i]? = some o → gv ops t o = some (gp, gd) → o.op = .call { callee := .value fo, args := #[x], argTypes := tys } → F o gp gd fo x = some (D, rp, W) → D → Sum P A ops i t rp W)
  (h : AGo k g (oneO t ops F ops[i]?)) : ACall P A ops i t k g := by
 unfold AGo at h
 split at h
 ·rename_i D rp W hc
  obtain ⟨h1, h2⟩ := h
  refine ⟨rp, W, ?_, h2⟩
  unfold oneO at hc
  split at hc
  ·rename_i o ho
   split at hc
   ·rename_i gp g0 hg
    split at hc
    ·rename_i fo xs tys hop
     split at hc
     ·rename_i x hxs
      obtain rfl : xs = #[x] := by cases xs; simpa using hxs
      exact hF o gp g0 fo x tys D rp W ho hg hop hc h1
     ·simp at hc
    ·simp at hc
   ·simp at hc
  ·simp at hc
 ·exact h.elim
theorem ACall.keys {i : Nat} {t : S} {k : List Pl → List (Pl × It) → Prop} {gt : Tg k} {f fS g : FuncId} {e : TypeId} (C : KeysC P f fS g e)
  (h : AGo k gt (oneO t ops (fun o gp gd fo x => keysX P A.N t o f g gp gd fo x) ops[i]?)) : ACall P A ops i t k gt :=
 ACall.one (fun o gp gd fo x tys D rp W ho hg hop hc h1 => by
  unfold keysX at hc
  split at hc
  ·rename_i f' caps hf
   split at hc
   ·rename_i id hx
    split at hc
    ·rename_i d hod
     simp only [Option.some.injEq, Prod.mk.injEq] at hc
     obtain ⟨rfl, rfl, rfl⟩ := hc
     obtain ⟨rfl, q1, rfl, rfl, q2, q3⟩ := h1
     exact Sum.keys ho hg q1 hop hf q2 C hx q3
    ·simp at hc
   ·simp at hc
  ·simp at hc) h
theorem ACall.sorted {i : Nat} {t : S} {k : List Pl → List (Pl × It) → Prop} {gt : Tg k} {f fK g : FuncId} {e : TypeId} (C : KeysC P fK f g e)
  (h : AGo k gt (oneO t ops (fun o gp gd fo x => sortX P A.N t o f g e gp gd fo x) ops[i]?)) : ACall P A ops i t k gt :=
 ACall.one (fun o gp gd fo x tys D rp W ho hg hop hc h1 => by
  unfold sortX at hc
  split at hc
  ·rename_i f' caps hf
   split at hc
   ·rename_i g' p hx
    split at hc
    ·rename_i id hp
     split at hc
     ·rename_i es hm
      split at hc
      ·rename_i d hod
       simp only [Option.some.injEq, Prod.mk.injEq] at hc
       obtain ⟨rfl, rfl, rfl⟩ := hc
       obtain ⟨rfl, q1, rfl, rfl, q2, rfl, q3, q4, q5, q6⟩ := h1
       exact Sum.sorted ho hg q1 hop hf q2 C hx q3 hp hm q4 q5 q6
      ·simp at hc
     ·simp at hc
    ·simp at hc
   ·simp at hc
  ·simp at hc) h
end
end Go.Tr

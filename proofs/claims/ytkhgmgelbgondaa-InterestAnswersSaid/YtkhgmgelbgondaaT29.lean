/-
  Laws of the layer between the model and plain data (states, operations, calls, loops); none has a condition beyond those that stand in its own statement.
-/
import Derived.Test.YtkhgmgelbgondaaT28
import Derived.Shelf.Spec.SlicesGrow
set_option linter.unusedSimpArgs false
namespace Go.Tr
open Go Go.Proofs Go.Shelf

/-- slices.Grow of nil: room in new memory, or nil itself. -/
structure GrowC (P : Program) (f : FuncId) (e : TypeId) (k N : Nat) : Prop where
  run : ∀ (w : World) (n : Nat), n ≤ N → Calls P f #[.slice none 0 0, .int .i64 n] w fun e' w' => ∃ v, e' = .returned v ∧ w.grownBy w' none ∧ w'.ownsRow w.heap.size e k v 0 []

theorem GrowC.of8 {P : Program} {ρ : Ren} (L : Lays8.n4 P ρ) {inf : TypeInfo} {z : Value} (hi : P.info? (ρ.t 25) = some inf) (hz : inf.zero = some z) (hs : 0 < inf.size) (hzs : z.cells.size = inf.size) (N : Nat) (hN : N * inf.bytes ≤ 140737488355328) (hN2 : N ≤ 1000000) : GrowC P (ρ.f 4) (ρ.t 25) inf.size N := by
  refine ⟨fun w n hn => ?_⟩
  by_cases h0 : n = 0
  · subst h0
    refine (Any8.slices_Grow_room L none 0 0 0 w (Nat.le_refl _) (by omega) (by omega) (by omega)).mono fun e' w' ⟨he, hw⟩ => ?_
    subst he hw
    exact ⟨_, rfl, ⟨rfl, rfl, rfl, Nat.le_refl _, fun _ _ _ => rfl⟩, World.ownsRow_nil _ _ _ _⟩
  · have hb : n * inf.bytes ≤ 140737488355328 := Nat.le_trans (Nat.mul_le_mul_right _ hn) hN
    refine (Any8.slices_Grow_grow L inf z hi hz hs none 0 0 n [] w (Nat.le_refl _) (by omega) (by rw [Nat.zero_add]; exact hb) (by omega) (by simp) (fun _ => rfl) (fun a h => by simp at h)).mono fun e' w' ⟨he, hw⟩ => ?_
    subst he hw
    have hge := grownCap_ge w (0 + n) 0 (ρ.t 25)
    have hcm : grownCap w (0 + n) 0 (ρ.t 25) ≤ maxLen := grownCap_le_maxLen w _ 0 _ (by simp only [maxLen]; omega)
    refine ⟨_, rfl, ⟨rfl, rfl, rfl, by simp, fun k hk _ => by first | exact heap_alloc_old w.drew _ k hk | exact Go.heap_alloc_old w.drew _ hk⟩, ⟨by simp, .inr ⟨w.heap.size, _, _, rfl, Nat.le_refl _, Go.heap_alloc_new w.drew _, Nat.zero_le _, hcm, ?_, by simp⟩⟩⟩
    simp only [Array.size_append, List.size_toArray, size_zeroCells, hzs, List.length_nil, ← Nat.add_mul, Nat.zero_add] at hge ⊢
    congr 1
    omega

section
variable {P : Program} {A : Actv} {ops : Array Oper}
theorem Sum.grow {t : S} {i d : Nat} {o : Oper} {gp : List Pl} {fo x y : Operand} {tys : Array TypeId} {f : FuncId} {e : TypeId} {k N : Nat} {n : Int}
    (ho : ops[i]? = some o) (hg : gv ops t o = some (gp, true)) (hd : dstOK A.N o = true) (hop : o.op = .call { callee := .value fo, args := #[x, y], argTypes := tys }) (hf : ev t fo = .clo f []) (hfn : fnOK P f = true)
    (C : GrowC P f e k N) (hx : ev t x = .c (.slice none 0 0)) (hy : ev t y = .d (.int .i64 n)) (hn : 0 ≤ n) (hN : n ≤ N) (ht : t (.o d) = .none) :
    Sum P A ops i t (gp ++ (pl fo ++ (pl x ++ (pl y ++ [.o d])))) (dstW o (.oref d 0) [(.o d, .row e k [] false)]) := fun t' hr a w ⟨E, hw, hi⟩ K Q hK => by
  subst hw
  have hwant := gv_wanted hg (pl_left hr) hi
  have hr1 := pl_right hr
  have hr2 := pl_right hr1
  have hr3 := pl_right hr2
  have hfo : ev t' fo = .clo f [] := (ev_eq (pl_left hr1)).trans hf
  have hx' : ev t' x = .c (.slice none 0 0) := (ev_eq (pl_left hr2)).trans hx
  have hy' : ev t' y = .d (.int .i64 n) := (ev_eq (pl_left hr3)).trans hy
  have ht' : t' (.o d) = .none := (pl_right hr3 _ (by simp)).trans ht
  have hfr := ev_rel hi fo
  rw [hfo] at hfr
  simp only [RelV, RelVs] at hfr
  obtain ⟨ucap, hufo, hucap⟩ := hfr
  obtain rfl : ucap = #[] := by cases ucap; simpa using hucap
  have hxr := ev_rel hi x
  rw [hx'] at hxr
  simp only [RelV] at hxr
  have hyr := ev_rel hi y
  rw [hy'] at hyr
  simp only [RelV, Rep] at hyr
  obtain ⟨m, rfl⟩ : ∃ m : Nat, n = m := ⟨n.toNat, by omega⟩
  unfold wpOp
  simp only [ho, hwant, if_true]
  refine .inl ?_
  unfold Oper.wp
  have hrun : (execOp a.eval o).run P E.w = .ok (.enter f #[.slice none 0 0, .int .i64 m]) E.w := by
    simp only [execOp, hop, resolve, hufo, Deferred.ofValue, invoke, Sem.run_bind, Sem.run_pure, Result.andThen_ok, List.map_toArray, Array.empty_append, run_callFunc hfn, hxr, hyr, Array.map, Array.append_empty]
    simp [hxr, hyr, run_callFunc hfn]
  rw [hrun]
  simp only [Oper.upon]
  refine (C.run E.w m (by omega)).mono fun e' w' ⟨v, he, hgr, hown⟩ => ?_
  subst he
  obtain ⟨E', hw', x', hi', hval⟩ := hi.newRowV ht' (es := []) (v := v) (us := []) (e := e) (k := k) (w' := w') hgr hown (fun E' _ _ => trivial)
  refine hK _ _ ⟨E', hw', ?_⟩
  refine InvE.dst (W := [(.o d, .row e k [] false)]) hi' hd ?_
  simp only [RelV]
  have h1 : v.oneCell' = true := by rcases hown.2 with ⟨rfl, _⟩ | ⟨g, cap, cur, rfl, _⟩ <;> rfl
  exact ⟨h1, k, 0, v, hval, Nat.le_refl _, fun _ => rfl⟩

/-- slices.Grow(nil, n): what such a call leaves -/
def growX (P : Program) (N0 : Nat) (t : S) (o : Oper) (f : FuncId) (e : TypeId) (k N : Nat) (gp : List Pl) (g : Bool) (fo x y : Operand) : Option (Prop × List Pl × List (Pl × It)) :=
  match ev t fo with
  | .clo f' caps => match ev t x with
    | .c v => match ev t y with
      | .d (.int .i64 n) => match o.dst with
        | some d => some (g = true ∧ dstOK N0 o = true ∧ f' = f ∧ caps = [] ∧ fnOK P f = true ∧ v = .slice none 0 0 ∧ 0 ≤ n ∧ n ≤ N ∧ t (.o d) = .none, gp ++ (pl fo ++ (pl x ++ (pl y ++ [.o d]))), dstW o (.oref d 0) [(.o d, .row e k [] false)])
        | none => none
      | _ => none
    | _ => none
  | _ => none
def growO (P : Program) (N0 : Nat) (t : S) (ops : Array Oper) (f : FuncId) (e : TypeId) (k N : Nat) : Option Oper → Option (Prop × List Pl × List (Pl × It))
  | some o => match gv ops t o with
    | some (gp, g) => match o.op with
      | .call { callee := .value fo, args := xs, argTypes := _ } => match xs.toList with
        | [x, y] => growX P N0 t o f e k N gp g fo x y
        | _ => none
      | _ => none
    | none => none
  | none => none

theorem ACall.grow {i : Nat} {t : S} {k : List Pl → List (Pl × It) → Prop} {g : Tg k} {f : FuncId} {e : TypeId} {z N : Nat} (C : GrowC P f e z N)
    (h : AGo k g (growO P A.N t ops f e z N ops[i]?)) : ACall P A ops i t k g := by
  unfold AGo at h
  split at h
  · rename_i D rp W hc
    obtain ⟨h1, h2⟩ := h
    refine ⟨rp, W, ?_, h2⟩
    unfold growO at hc
    split at hc
    · rename_i o ho
      split at hc
      · rename_i gp g0 hg
        split at hc
        · rename_i fo xs tys hop
          split at hc
          · rename_i x y hxs
            obtain rfl : xs = #[x, y] := by cases xs; simpa using hxs
            unfold growX at hc
            split at hc
            · rename_i f' caps hf
              split at hc
              · rename_i v hx
                split at hc
                · rename_i n hy
                  split at hc
                  · rename_i d hod
                    simp only [Option.some.injEq, Prod.mk.injEq] at hc
                    obtain ⟨rfl, rfl, rfl⟩ := hc
                    obtain ⟨rfl, q1, rfl, rfl, q2, rfl, q3, q4, q5⟩ := h1
                    exact Sum.grow ho hg q1 hop hf q2 C hx hy q3 q4 q5
                  · simp at hc
                · simp at hc
              · simp at hc
            · simp at hc
          · simp at hc
        · simp at hc
      · simp at hc
    · simp at hc
  · exact h.elim
attribute [simp] growO growX
end
end Go.Tr

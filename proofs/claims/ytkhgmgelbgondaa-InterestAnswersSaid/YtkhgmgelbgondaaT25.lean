/-
  Laws of the layer between the model and plain data (states, operations, calls, loops); none has a condition beyond those that stand in its own statement.
-/
import Derived.Test.YtkhgmgelbgondaaT24
import Derived.ProofKit
set_option linter.unusedSimpArgs false
namespace Go.Tr
open Go

/-! ### arguments that came in, as plain data -/
inductive Ty where
  | int (k : IntKind)
  | bool
  | str
  | sl (e : Ty)
  | st (fs : List Ty)

mutual
def Ty.size : Ty → Nat
  | .st fs => Ty.sizes fs
  | _ => 1
def Ty.sizes : List Ty → Nat
  | [] => 0
  | f :: fs => f.size + Ty.sizes fs
end
mutual
def Ty.has : Ty → List D → Prop
  | .int k, ds => ∃ n, ds = [.int k n] ∧ (Lit.int k n).wf = true
  | .bool, ds => ∃ b, ds = [.bool b]
  | .str, ds => ∃ s : ByteArray, ds = [.str s] ∧ s.size ≤ maxLen
  | .sl e, ds => ∃ xs, ds = [.sl xs] ∧ xs.length ≤ maxLen ∧ ∀ x ∈ xs, e.has x
  | .st fs, ds => Ty.hass fs ds
def Ty.hass : List Ty → List D → Prop
  | [], ds => ds = []
  | f :: fs, ds => ∃ a b, ds = a ++ b ∧ f.has a ∧ Ty.hass fs b
end
mutual
/-- the type t is of the form T -/
def tyB (P : Program) : Ty → TypeId → Bool
  | .int k, t => match P.underlying t with | some (.int k') => decide (k' = k) | _ => false
  | .bool, t => match P.underlying t with | some .bool => true | _ => false
  | .str, t => match P.underlying t with | some .string => true | _ => false
  | .sl e, t => match P.underlying t with | some (.slice u) => tyB P e u && (decide (P.cellsOf u = e.size) && decide (0 < e.size)) | _ => false
  | .st fs, t => match P.underlying t with | some (.struct a) => tyFs P fs a.toList 0 && decide (P.cellsOf t = Ty.sizes fs) | _ => false
def tyFs (P : Program) : List Ty → List Field → Nat → Bool
  | [], [], _ => true
  | T :: fs, f :: l, o => decide (f.offset = o) && (decide (P.cellsOf f.type = T.size) && (tyB P T f.type && tyFs P fs l (o + T.size)))
  | _, _, _ => false
end

mutual
theorem Ty.has_len : ∀ (T : Ty) {ds : List D}, T.has ds → ds.length = T.size
  | .int k, ds, h => by simp only [Ty.has] at h; obtain ⟨n, rfl, _⟩ := h; simp [Ty.size]
  | .bool, ds, h => by simp only [Ty.has] at h; obtain ⟨n, rfl⟩ := h; simp [Ty.size]
  | .str, ds, h => by simp only [Ty.has] at h; obtain ⟨n, rfl, _⟩ := h; simp [Ty.size]
  | .sl e, ds, h => by simp only [Ty.has] at h; obtain ⟨n, rfl, _⟩ := h; simp [Ty.size]
  | .st fs, ds, h => by simp only [Ty.has] at h; simp only [Ty.size]; exact Ty.hass_len fs h
theorem Ty.hass_len : ∀ (fs : List Ty) {ds : List D}, Ty.hass fs ds → ds.length = Ty.sizes fs
  | [], ds, h => by simp only [Ty.hass] at h; subst h; simp [Ty.sizes]
  | f :: fs, ds, h => by
    simp only [Ty.hass] at h
    obtain ⟨a, b, rfl, h1, h2⟩ := h
    simp only [Ty.sizes, List.length_append, Ty.has_len f h1, Ty.hass_len fs h2]
end

theorem RelVs.app {E : En} : ∀ {a b : List TV} {us vs : List Value}, RelVs E a us → RelVs E b vs → RelVs E (a ++ b) (us ++ vs)
  | [], b, us, vs, h, g => by simp only [RelVs] at h; subst h; simpa using g
  | t :: a, b, us, vs, h, g => by
    simp only [RelVs] at h
    obtain ⟨u, us', rfl, h1, h2⟩ := h
    simp only [List.cons_append, RelVs]
    exact ⟨u, _, rfl, h1, RelVs.app h2 g⟩

theorem add_mk (b o m : Nat) : (⟨b, o, none⟩ : Addr).add m = ⟨b, o + m, none⟩ := by
  unfold Addr.add
  split
  · rename_i h; subst h; rfl
  · rfl

theorem cell_lt {w : World} {a : Addr} {v : Value} (h : w.cell? a = some v) : a.block < w.heap.size ∧ a.spot = none := by
  simp only [World.cell?] at h
  split at h
  · rename_i hh
    refine ⟨(Array.getElem?_eq_some_iff.1 hh).1, ?_⟩
    cases hs : a.spot with
    | none => rfl
    | some s => simp [hs] at h
  · simp at h

theorem cells_rep {w : World} {b : Nat} : ∀ {ds : List D} {vs : List Value} {o : Nat}, RelVs (inE w) (ds.map .d) vs → (∀ i, i < ds.length → w.cell? ⟨b, o + i, none⟩ = vs[i]?) → RepCells (inE w) b o ds
  | [], _, _, _, _ => by simp only [RepCells]
  | d :: ds, vs, o, h, hc => by
    simp only [List.map_cons, RelVs] at h
    obtain ⟨u, vs', rfl, h1, h2⟩ := h
    have h0 := hc 0 (by simp)
    simp only [Nat.add_zero, List.getElem?_cons_zero] at h0
    simp only [RepCells]
    refine ⟨⟨(cell_lt h0).1, u, h0, by simpa only [RelV] using h1⟩, cells_rep h2 fun i hi => ?_⟩
    have := hc (i + 1) (by simp; omega)
    rw [show o + (i + 1) = o + 1 + i by omega] at this
    simpa using this

theorem rows_build {E : En} {b k : Nat} {p : List D → Prop} : ∀ (n : Nat) {o : Nat}, (∀ i, i < n → ∃ ds, p ds ∧ ds.length = k ∧ RepCells E b (o + i * k) ds) → ∃ xs : List (List D), xs.length = n ∧ (∀ x ∈ xs, p x) ∧ RepRows E b k o xs
  | 0, o, _ => ⟨[], rfl, by simp, by simp only [RepRows]⟩
  | n + 1, o, h => by
    obtain ⟨d, h1, h2, h3⟩ := h 0 (by omega)
    obtain ⟨xs, g1, g2, g3⟩ := rows_build (p := p) n (o := o + k) fun i hi => by
      obtain ⟨ds, k1, k2, k3⟩ := h (i + 1) (by omega)
      refine ⟨ds, k1, k2, ?_⟩
      rw [show o + k + i * k = o + (i + 1) * k by rw [Nat.add_mul]; omega]
      exact k3
    refine ⟨d :: xs, by simp [g1], by simpa using ⟨h1, g2⟩, ?_⟩
    simp only [RepRows]
    exact ⟨h2, by simpa using h3, g3⟩

section
variable {H : Type} {enc : TypeId × Value → H} {P : Program} {w : World} {sp : Nat → Bool} {held : Bool}

mutual
theorem trod_has : ∀ (T : Ty) {t : TypeId} {fuel : Nat} {cs : List Value} {x : DataW H × List MemPlace}, tyB P T t = true → DataW.trod enc P w 0 sp held fuel t cs = some x → ∃ ds, T.has ds ∧ RelVs (inE w) (ds.map .d) cs
  | .int k, t, fuel, cs, x, hT, h => by
    simp only [tyB] at hT
    split at hT
    · rename_i ht
      simp only [decide_eq_true_eq] at hT
      subst hT
      obtain ⟨n, rfl, _, hw⟩ := DataW.trod_int ht h
      exact ⟨[.int _ n], by simp only [Ty.has]; exact ⟨n, rfl, hw⟩, by simp [RelVs, RelV, Rep]⟩
    · simp at hT
  | .bool, t, fuel, cs, x, hT, h => by
    simp only [tyB] at hT
    split at hT
    · rename_i ht
      obtain ⟨n, rfl, _⟩ := DataW.trod_bool ht h
      exact ⟨[.bool n], by simp only [Ty.has]; exact ⟨n, rfl⟩, by simp [RelVs, RelV, Rep]⟩
    · simp at hT
  | .str, t, fuel, cs, x, hT, h => by
    simp only [tyB] at hT
    split at hT
    · rename_i ht
      obtain ⟨n, rfl, _, hw⟩ := DataW.trod_string ht h
      exact ⟨[.str n], by simp only [Ty.has]; exact ⟨n, rfl, hw⟩, by simp [RelVs, RelV, Rep]⟩
    · simp at hT
  | .sl e, t, fuel, cs, x, hT, h => by
    simp only [tyB] at hT
    split at hT
    · rename_i u ht
      simp only [Bool.and_eq_true, decide_eq_true_eq] at hT
      obtain ⟨hu, hk, hk0⟩ := hT
      rcases DataW.trod_slice ht h with ⟨rfl, _⟩ | ⟨a, len, cap, elems, rest, n, _, rfl, _, _, hl, hm, hlen, hel, _, _⟩
      · exact ⟨[.sl []], by simp only [Ty.has]; exact ⟨[], rfl, by simp, by simp⟩, by simp only [List.map_cons, List.map_nil, RelVs, RelV, Rep]; exact ⟨_, _, rfl, .inl ⟨rfl, _, _, rfl⟩, rfl⟩⟩
      · by_cases h0 : len = 0
        · subst h0
          exact ⟨[.sl []], by simp only [Ty.has]; exact ⟨[], rfl, by simp, by simp⟩, by simp only [List.map_cons, List.map_nil, RelVs, RelV, Rep]; exact ⟨_, _, rfl, .inl ⟨rfl, _, _, rfl⟩, rfl⟩⟩
        · have each : ∀ i, i < len → ∃ vs y, w.cells? 0 (a.add (i * P.cellsOf u)) (P.cellsOf u) = some vs ∧ DataW.trod enc P w 0 sp held n u vs = some y := fun i hi => by
            have h1 := hel i hi
            have h2 : elems[i]? = some elems[i] := List.getElem?_eq_getElem (by omega)
            rw [h2, Option.bind_eq_some_iff] at h1
            obtain ⟨vs, g1, g2⟩ := h1
            exact ⟨vs, _, g1, g2⟩
          have hspot : a.spot = none := by
            obtain ⟨vs, y, g1, _⟩ := each 0 (by omega)
            obtain ⟨_, g3, g4⟩ := World.cells?_some g1
            have g5 := g4 0 (by omega)
            have g6 : vs[0]? = some vs[0] := List.getElem?_eq_getElem (by omega)
            rw [g6] at g5
            simp only [Nat.zero_mul, Addr.add, if_true] at g5
            exact (cell_lt g5).2
          obtain ⟨b, o, s⟩ := a
          simp only at hspot
          subst hspot
          obtain ⟨xs, x1, x2, x3⟩ := rows_build (E := inE w) (b := b) (k := e.size) (p := e.has) len (o := o) fun i hi => by
            obtain ⟨vs, y, g1, g2⟩ := each i hi
            obtain ⟨ds, d1, d2⟩ := trod_has e hu g2
            obtain ⟨_, g3, g4⟩ := World.cells?_some g1
            refine ⟨ds, d1, e.has_len d1, cells_rep d2 fun j hj => ?_⟩
            rw [e.has_len d1] at hj
            have := g4 j (by omega)
            rw [add_mk, add_mk, hk] at this
            exact this
          exact ⟨[.sl xs], by simp only [Ty.has]; exact ⟨xs, rfl, by omega, x2⟩, by
            simp only [List.map_cons, List.map_nil, RelVs, RelV, Rep]
            exact ⟨_, _, rfl, .inr ⟨b, o, cap, e.size, by rw [x1], by omega, x3⟩, rfl⟩⟩
    · simp at hT
  | .st fs, t, fuel, cs, x, hT, h => by
    simp only [tyB] at hT
    split at hT
    · rename_i a ht
      simp only [Bool.and_eq_true, decide_eq_true_eq] at hT
      obtain ⟨hf, hs⟩ := hT
      obtain ⟨xs, n, _, _, hl, hlen, hel⟩ := DataW.trod_struct ht h
      obtain ⟨ds, d1, d2⟩ := trods_has fs (l := a.toList) (o := 0) (n := n) (cs := cs) hf (fun f hfm => by
        obtain ⟨i, hi⟩ := List.getElem?_of_mem hfm
        have hi' : a[i]? = some f := by simpa using hi
        have hlt : i < a.size := (Array.getElem?_eq_some_iff.1 hi').1
        exact ⟨xs[i], by rw [hel i f hi']; exact List.getElem?_eq_getElem (by omega)⟩)
      refine ⟨ds, by simpa only [Ty.has] using d1, ?_⟩
      rw [List.drop_zero, List.take_of_length_le (by omega)] at d2
      exact d2
    · simp at hT
theorem trods_has : ∀ (fs : List Ty) {l : List Field} {o n : Nat} {cs : List Value}, tyFs P fs l o = true → (∀ f ∈ l, ∃ x, DataW.trod enc P w 0 sp held n f.type ((cs.drop f.offset).take (P.cellsOf f.type)) = some x) →
    ∃ ds, Ty.hass fs ds ∧ RelVs (inE w) (ds.map .d) ((cs.drop o).take (Ty.sizes fs))
  | [], l, o, n, cs, hT, h => ⟨[], by simp only [Ty.hass], by simp [RelVs, Ty.sizes]⟩
  | T :: fs, [], o, n, cs, hT, h => by simp [tyFs] at hT
  | T :: fs, f :: l, o, n, cs, hT, h => by
    simp only [tyFs, Bool.and_eq_true, decide_eq_true_eq] at hT
    obtain ⟨ho, hk, hu, hr⟩ := hT
    obtain ⟨x, hx⟩ := h f (by simp)
    rw [ho, hk] at hx
    obtain ⟨d1, a1, a2⟩ := trod_has T hu hx
    obtain ⟨d2, b1, b2⟩ := trods_has fs (o := o + T.size) hr fun g hg => h g (by simp [hg])
    refine ⟨d1 ++ d2, by simp only [Ty.hass]; exact ⟨_, _, rfl, a1, b1⟩, ?_⟩
    rw [List.map_append, Ty.sizes, List.take_add, List.drop_drop]
    exact RelVs.app a2 b2
end

/-- how a parameter of a type is seen -/
def Ty.tv : Ty → List D → TV
  | .st _, ds => .agg (ds.map .d)
  | _, d :: _ => .d d
  | _, [] => .junk

theorem arg_rel (T : Ty) {t : TypeId} {r : Reach} {b0 : Nat} {v : Value} {d : DataW H} {ps : List MemPlace} (hT : tyB P T t = true) (hv : Value.okWide P w r b0 t v) (h : DataW.Trod enc P w 0 sp held t v d ps) :
    ∃ ds, T.has ds ∧ RelV (inE w) (T.tv ds) v := by
  obtain ⟨fuel, hf⟩ := h
  obtain ⟨ds, h1, h2⟩ := trod_has T hT hf
  refine ⟨ds, h1, ?_⟩
  cases T with
  | st fs =>
    simp only [tyB] at hT
    split at hT
    · rename_i a ht
      obtain ⟨cs, rfl, _⟩ := WideShapes.okWide_struct ht hv
      simp only [Ty.tv, RelV]
      exact ⟨cs, rfl, by simpa [Value.cells] using h2⟩
    · simp at hT
  | int k =>
    simp only [tyB] at hT
    split at hT
    · rename_i ht
      obtain ⟨n, rfl⟩ := WideShapes.okWide_int ht hv
      simp only [Ty.has] at h1
      obtain ⟨m, rfl, _⟩ := h1
      simp [Value.cells, RelVs] at h2
      simpa [Ty.tv] using h2
    · simp at hT
  | bool =>
    simp only [tyB] at hT
    split at hT
    · rename_i ht
      obtain ⟨n, rfl⟩ := WideShapes.okWide_bool ht hv
      simp only [Ty.has] at h1
      obtain ⟨m, rfl⟩ := h1
      simp [Value.cells, RelVs] at h2
      simpa [Ty.tv] using h2
    · simp at hT
  | str =>
    simp only [tyB] at hT
    split at hT
    · rename_i ht
      obtain ⟨n, rfl⟩ := WideShapes.okWide_string ht hv
      simp only [Ty.has] at h1
      obtain ⟨m, rfl, _⟩ := h1
      simp [Value.cells, RelVs] at h2
      simpa [Ty.tv] using h2
    · simp at hT
  | sl e =>
    simp only [tyB] at hT
    split at hT
    · rename_i ht
      obtain ⟨a, len, cap, rfl⟩ := WideShapes.okWide_slice ht hv
      simp only [Ty.has] at h1
      obtain ⟨m, rfl, _⟩ := h1
      simp [Value.cells, RelVs] at h2
      simpa [Ty.tv] using h2
    · simp at hT
end
end Go.Tr

/-
  Laws of the layer between the model and plain data (states, operations, calls, loops); none has a condition beyond those that stand in its own statement.
-/
import Derived.Test.YtkhgmgelbgondaaT27
import Derived.Shelf.SortM.SortNone
import Derived.Shelf.SortM.Plain
import Derived.Shelf.SlicesG.CompactI
set_option linter.unusedSimpArgs false
namespace Go.Tr
open Go Go.Proofs Go.Shelf Go.Sort Go.Lib

/-- a contract by cases on what stands behind the arguments -/
theorem Contract.cases {P : Program} {f : FuncId} {args : List TV} {xs : List It} {r : TV} {xs' : List It} {ro : List (Nat × It)} (h : ∀ E us, RelVs E args us → ∃ args', RelVs E args' us ∧ Contract P f args' xs r xs' ro) : Contract P f args xs r xs' ro :=
  fun E us hH ha => by obtain ⟨args', h1, c⟩ := h E us ha; exact c E us hH h1
/-! plain cells are passed as they are -/
@[simp] theorem passs_ds (t : S) (ν : List Pl) : ∀ ds : List D, TV.passs t ν (ds.map .d) = some (ds.map .d)
  | [] => rfl
  | d :: ds => by simp [TV.passs, TV.pass, passs_ds t ν ds]
@[simp] theorem passCs_ds (t : S) : ∀ ds : List D, TV.passCs t (ds.map .d) = True
  | [] => by simp [TV.passCs]
  | d :: ds => by simp [TV.passCs, TV.passC, passCs_ds t ds]
@[simp] theorem rowss_ds : ∀ ds : List D, TV.rowss (ds.map .d) = []
  | [] => rfl
  | d :: ds => by simp [TV.rowss, TV.rows, rowss_ds ds]
@[simp] theorem backs_ds (ν : List Pl) (b : Nat) : ∀ ds : List D, TV.backs ν b (ds.map .d) = ds.map .d
  | [] => rfl
  | d :: ds => by simp [TV.backs, TV.back, backs_ds ν b ds]

@[simp] theorem backs_dd (ν : List Pl) (b : Nat) (xs : List (List D)) : (dd xs).map (TV.backs ν b) = dd xs := by
  simp only [dd, List.map_map]
  exact List.map_congr_left fun ds _ => backs_ds ν b ds
/-! cells that are plain data, as a function of something -/
section
variable {α : Type} (f : α → D)
@[simp] theorem passs_md (t : S) (ν : List Pl) : ∀ l : List α, TV.passs t ν (l.map fun x => .d (f x)) = some (l.map fun x => .d (f x))
  | [] => rfl
  | x :: l => by simp [TV.passs, TV.pass, passs_md t ν l]
@[simp] theorem passCs_md (t : S) : ∀ l : List α, TV.passCs t (l.map fun x => .d (f x)) = True
  | [] => by simp [TV.passCs]
  | x :: l => by simp [TV.passCs, TV.passC, passCs_md t l]
@[simp] theorem rowss_md : ∀ l : List α, TV.rowss (l.map fun x => .d (f x)) = []
  | [] => rfl
  | x :: l => by simp [TV.rowss, TV.rows, rowss_md l]
@[simp] theorem backs_md (ν : List Pl) (b : Nat) : ∀ l : List α, TV.backs ν b (l.map fun x => .d (f x)) = l.map fun x => .d (f x)
  | [] => rfl
  | x :: l => by simp [TV.backs, TV.back, backs_md ν b l]
@[simp] theorem seeVs_md (t : S) : ∀ l : List α, seeVs t (l.map fun x => .d (f x)) = none
  | [] => rfl
  | x :: l => by simp [seeVs, seeV, seeVs_md t l]
@[simp] theorem onlys_md (po : Nat → Prop) : ∀ l : List α, TV.onlys po (l.map fun x => .d (f x)) = True
  | [] => by simp [TV.onlys]
  | x :: l => by simp [TV.onlys, TV.only, onlys_md po l]
end

theorem holds_row {w : World} {g : Nat} {zs : List Int} {cur : Array Value} {e : TypeId} (h1 : w.heap[g]? = some (.cells cur e (0, 0))) (h2 : cur.toList.take zs.length = zs.map (.int .i64)) : Holds (Value.int .i64) w g 0 zs.toArray := fun j hj => by
  have hj' : j < zs.length := by simpa using hj
  have h3 : cur[j]? = some (.int .i64 zs[j]) := by
    have : (cur.toList.take zs.length)[j]? = some (.int .i64 zs[j]) := by rw [h2]; simp [hj']
    rw [List.getElem?_take, if_pos hj'] at this
    simpa using this
  constructor
  · simp [World.cell?, h1, h3, hj']
  · simp [World.frozen?, h1]

theorem row_put {w : World} {g : Nat} {ys zs : List Int} {cur : Array Value} {e : TypeId} (n : Nat) (os : Array Obj) (h1 : w.heap[g]? = some (.cells cur e (0, 0))) (hl : ys.length = zs.length) (hc : zs.length ≤ cur.size) :
    w.grownBy (grow (putRow (Value.int .i64) (Sort.ahead w n) g 0 ys.toArray) os) (some g) ∧
      ∃ cur', (grow (putRow (Value.int .i64) (Sort.ahead w n) g 0 ys.toArray) os).heap[g]? = some (.cells cur' e (0, 0)) ∧ cur'.size = cur.size ∧ cur'.toList.take zs.length = ys.map (.int .i64) := by
  have hg : g < w.heap.size := (Array.getElem?_eq_some_iff.1 h1).1
  have hsz : (putRow (Value.int .i64) (Sort.ahead w n) g 0 ys.toArray).heap.size = w.heap.size := by simp [Sort.ahead]
  refine ⟨⟨rfl, rfl, rfl, by rw [size_grow, hsz]; omega, fun k hk hne => ?_⟩, putCells (Value.int .i64) 0 ys.toArray cur, ?_, by simp [putCells], ?_⟩
  · rw [heap_grow_old _ _ (by rw [hsz]; exact hk)]
    have : ¬ g = k := fun e => hne (by rw [e])
    simp [putRow, mapBlock, Sort.ahead, Array.getElem?_modify, this]
  · rw [heap_grow_old _ _ (by rw [hsz]; exact hg)]
    simp [putRow, mapBlock, Sort.ahead, Array.getElem?_modify, h1, onCells]
  · apply List.ext_getElem?
    intro i
    rw [List.getElem?_take]
    by_cases hi : i < zs.length
    · rw [if_pos hi]
      have hi2 : i < ys.length := by omega
      have hi3 : i < cur.size := by omega
      simp [putCells, hi2, hi3]
    · rw [if_neg hi, List.getElem?_eq_none (by simp; omega)]

theorem InplC.sort {P : Program} {ρ : Ren} (Ly : SlLaysM.n5 P ρ) : InplC P (ρ.f 5) .i64 (fun zs => zs.mergeSort fun x y => decide (x ≤ y)) Option.none := by
  refine ⟨fun zs => List.length_mergeSort _, fun m' h => by simp at h, fun w g cap zs cur e h1 h2 h3 h4 h5 h6 h7 => ?_, fun p cap w => ?_⟩
  · refine (AnyM.slices_Sort_int Ly g 0 cap zs w (holds_row h1 h5) (Array.getElem?_eq_some_iff.1 h1).1 h7).mono fun e' w' ⟨he, n, os, hw⟩ => ?_
    subst hw
    obtain ⟨k1, cur', k2, k3, k4⟩ := row_put (zs := zs) (ys := zs.mergeSort fun x y => decide (x ≤ y)) n os h1 (List.length_mergeSort _) (by omega)
    exact ⟨he, k1, cur', k2, by omega, k4⟩
  · exact (AnyM.slices_Sort_int_none Ly p cap w).mono fun e' w' ⟨he, hw⟩ => ⟨⟨Option.none, 0, he⟩, hw⟩

def cpt (zs : List Int) : List Int := compact zs ++ List.replicate (zs.length - (compact zs).length) 0
theorem InplC.compact {P : Program} {ρ : Ren} (Ly : SlLaysN.n43 P ρ) (hle : ∀ zs : List Int, (Lib.compact zs).length ≤ zs.length) : InplC P (ρ.f 43) .i64 cpt (some fun zs => (Lib.compact zs).length) := by
  refine ⟨fun zs => by have := hle zs; simp [cpt]; omega, fun m' h zs => by simp at h; subst h; exact hle zs, fun w g cap zs cur e h1 h2 h3 h4 h5 h6 h7 => ?_, fun p cap w => ?_⟩
  · refine (AnyG.slices_Compact_int Ly g 0 cap zs w (holds_row h1 h5) (by omega) h2).mono fun e' w' ⟨he, n, hw⟩ => ?_
    subst hw
    have := hle zs
    obtain ⟨k1, cur', k2, k3, k4⟩ := row_put (zs := zs) (ys := cpt zs) n #[] h1 (by simp [cpt]; omega) (by omega)
    rw [grow_empty] at k1 k2
    exact ⟨he, k1, cur', k2, by omega, k4⟩
  · exact (AnyG.slices_Compact_int_empty Ly p cap w).mono fun e' w' ⟨he, hw⟩ => ⟨⟨p, cap, he⟩, hw⟩
end Go.Tr

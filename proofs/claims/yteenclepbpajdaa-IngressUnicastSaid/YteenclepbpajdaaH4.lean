/-
  What functions of the program compute, stated as contracts over plain data; the conditions of each stand in its own statement.
-/
import Derived.Test.YteenclepbpajdaaH3
set_option linter.unusedSimpArgs false
set_option maxRecDepth 100000
set_option maxHeartbeats 2000000
namespace Go.Proofs
open Go Go.Tr

/-! plain cells are passed as they are -/
def intRows (l : List Int) : List (List D) := l.map fun n => [.int .i64 n]
@[simp] theorem intRows_len (l : List Int) : (intRows l).length = l.length := by simp [intRows]
theorem intRows_get {l : List Int} {i : Nat} {x : Int} (h : l[i]? = some x) : (intRows l)[i]? = some [.int .i64 x] := by simp [intRows, h]
theorem intRows_get' {l : List Int} {i : Nat} {x : Int} (h : l[i]? = some x) (hi : i < (intRows l).length) : (intRows l)[i] = [.int .i64 x] := by
  have := intRows_get h
  rw [List.getElem?_eq_getElem hi] at this
  simpa using this
/-- the place of the first, -1 if there is none -/
def idxR {α : Type} (q : α → Bool) (l : List α) : Int := match l.findIdx? q with | some i => i | none => -1
theorem idx_any {α : Type} (q : α → Bool) (l : List α) : decide (0 ≤ idxR q l) = l.any q := by
  unfold idxR
  cases h : l.findIdx? q with
  | none =>
    have := List.findIdx?_eq_none_iff.1 h
    simp
    intro x hx
    exact this x hx
  | some i =>
    have := List.findIdx?_eq_some_iff_getElem.1 h
    obtain ⟨hi, h1, _⟩ := this
    simp
    exact ⟨_, List.getElem_mem hi, h1⟩
theorem idx_at {α : Type} {q : α → Bool} {l : List α} {i : Nat} {x : α} (hx : l[i]? = some x) (hq : q x = true) (h : ∀ a, a < i → ∀ y, l[a]? = some y → q y = false) : idxR q l = i := by
  unfold idxR
  obtain ⟨hi, rfl⟩ := List.getElem?_eq_some_iff.1 hx
  have : l.findIdx? q = some i := by
    rw [List.findIdx?_eq_some_iff_getElem]
    exact ⟨hi, hq, fun j hj => by have := h j hj _ (List.getElem?_eq_getElem (by omega)); simp [this]⟩
  rw [this]
theorem idx_no {α : Type} {q : α → Bool} {l : List α} (h : ∀ a, a < l.length → ∀ y, l[a]? = some y → q y = false) : idxR q l = -1 := by
  unfold idxR
  have : l.findIdx? q = none := by
    rw [List.findIdx?_eq_none_iff]
    intro x hx
    obtain ⟨i, hi⟩ := List.getElem?_of_mem hx
    exact h i (List.getElem?_eq_some_iff.1 hi).1 x hi
  rw [this]

theorem index_i_c (l : List Int) (hl : l.length ≤ 1000000) (f : FuncId) (ds : List D) (q : Int → Bool) (hf : ∀ x, Contract Try.prog f [.d (.int .i64 x), .ptr (.x 0) 0] [.box (ds.map .d)] (.d (.bool (q x))) [.box (ds.map .d)] []) (hok : fnOK Try.prog f = true) :
    Contract Try.prog 82 [.d (.sl (intRows l)), .clo f [.ptr (.x 0) 0]] [.box (ds.map .d)] (.d (.int .i64 (idxR q l))) [.box (ds.map .d)] [] := by
  refine contract_of Try.func82 rfl (fun E0 => ?_)
  refine awp.sound (g := .mk) (ow := []) (kp := (fun k => k == 0 || k == 1 || k == 4 || k == 5 || k == 7 || k == 8 || k == 9 || k == 16)) ?_
  rw [Try.ntmps82]
  simp -dsimp
  refine ALoop.of [] (fun k => k == 0 || k == 1 || k == 4 || k == 5 || k == 7 || k == 8 || k == 9 || k == 16) (ι := { i : Nat // i ≤ l.length ∧ ∀ a, a < i → ∀ x, l[a]? = some x → q x = false })
    (fun z => [(Pl.s 0, It.v (TV.d (D.sl (intRows l)))), (Pl.s 1, It.v (TV.clo f [TV.ptr (Pl.x 0) 0])), (Pl.x 0, It.box (List.map TV.d ds)), (Pl.s 4, It.v (TV.d (D.int IntKind.i64 0))), (Pl.s 7, It.v (TV.d (D.int IntKind.i64 l.length))), (Pl.s 8, It.v (TV.d (D.int IntKind.i64 z.1)))]) (fun z => l.length - z.1) ⟨0, by omega, fun a h => by omega⟩ ?_ ?_
  · exact GS.to (by simp)
  · rintro ⟨i, i1, i2⟩
    by_cases hi : i < l.length
    · obtain ⟨x, hx⟩ : ∃ x, l[i]? = some x := ⟨l[i], List.getElem?_eq_getElem hi⟩
      simp -dsimp [hi, intRows_get' hx, wrap_i64 (n := (i : Int) + 1) (by omega) (by omega)]
      refine ACall.of (hf x) [.x 0] 0 ?_
      rcases (Bool.eq_false_or_eq_true (q x)).symm with h | h
      · simp -dsimp [h, hok, wrap_i64 (n := (i : Int) + 1) (by omega) (by omega)]
        exact ⟨⟨i + 1, by omega, fun a ha y hy => by
          by_cases e : a = i
          · subst e; rw [hx] at hy; simp only [Option.some.injEq] at hy; subst hy; exact h
          · exact i2 a (by omega) y hy⟩, GS.to (by simp), by simp; omega⟩
      · simp -dsimp [h, hok]
        refine Fin.of ?_
        simp [idx_at hx h i2]
    · simp -dsimp [hi]
      refine Fin.of ?_
      simp
      exact (idx_no fun a ha => i2 a (by omega)).symm
theorem contains_i_c (l : List Int) (hl : l.length ≤ 1000000) (f : FuncId) (ds : List D) (q : Int → Bool) (hf : ∀ x, Contract Try.prog f [.d (.int .i64 x), .ptr (.x 0) 0] [.box (ds.map .d)] (.d (.bool (q x))) [.box (ds.map .d)] []) (hok : fnOK Try.prog f = true) :
    Contract Try.prog 59 [.d (.sl (intRows l)), .clo f [.ptr (.x 0) 0]] [.box (ds.map .d)] (.d (.bool (l.any q))) [.box (ds.map .d)] [] := by
  refine contract_of Try.func59 rfl (fun E0 => ?_)
  refine awp.sound (g := .mk) (ow := []) (kp := (fun k => k == 0 || k == 1 || k == 4)) ?_
  rw [Try.ntmps59]
  simp -dsimp
  refine ACall.of (index_i_c l hl f ds q hf hok) [.x 0] 0 ?_
  simp -dsimp
  refine Fin.of ?_
  simp [idx_any]
theorem index_e_c (l : List Ed) (hl : l.length ≤ 1000000) (f : FuncId) (ds : List D) (q : Ed → Bool) (hf : ∀ x, Contract Try.prog f [.agg (x.cs.map .d), .ptr (.x 0) 0] [.box (ds.map .d)] (.d (.bool (q x))) [.box (ds.map .d)] []) (hok : fnOK Try.prog f = true) :
    Contract Try.prog 92 [.d (.sl (eds l)), .clo f [.ptr (.x 0) 0]] [.box (ds.map .d)] (.d (.int .i64 (idxR q l))) [.box (ds.map .d)] [] := by
  refine contract_of Try.func92 rfl (fun E0 => ?_)
  refine awp.sound (g := .mk) (ow := []) (kp := (fun k => k == 0 || k == 1 || k == 4 || k == 5 || k == 7 || k == 8 || k == 9 || k == 16)) ?_
  rw [Try.ntmps92]
  simp -dsimp
  refine ALoop.of [] (fun k => k == 0 || k == 1 || k == 4 || k == 5 || k == 7 || k == 8 || k == 9 || k == 16) (ι := { i : Nat // i ≤ l.length ∧ ∀ a, a < i → ∀ x, l[a]? = some x → q x = false })
    (fun z => [(Pl.s 0, It.v (TV.d (D.sl (eds l)))), (Pl.s 1, It.v (TV.clo f [TV.ptr (Pl.x 0) 0])), (Pl.x 0, It.box (List.map TV.d ds)), (Pl.s 4, It.v (TV.d (D.int IntKind.i64 0))), (Pl.s 7, It.v (TV.d (D.int IntKind.i64 l.length))), (Pl.s 8, It.v (TV.d (D.int IntKind.i64 z.1)))]) (fun z => l.length - z.1) ⟨0, by omega, fun a h => by omega⟩ ?_ ?_
  · exact GS.to (by simp)
  · rintro ⟨i, i1, i2⟩
    by_cases hi : i < l.length
    · obtain ⟨x, hx⟩ : ∃ x, l[i]? = some x := ⟨l[i], List.getElem?_eq_getElem hi⟩
      simp -dsimp [hi, eds_get' hx, Ed.cs, wrap_i64 (n := (i : Int) + 1) (by omega) (by omega)]
      refine ACall.of (hf x) [.x 0] 0 ?_
      rcases (Bool.eq_false_or_eq_true (q x)).symm with h | h
      · simp -dsimp [h, hok, Ed.cs, wrap_i64 (n := (i : Int) + 1) (by omega) (by omega)]
        exact ⟨⟨i + 1, by omega, fun a ha y hy => by
          by_cases e : a = i
          · subst e; rw [hx] at hy; simp only [Option.some.injEq] at hy; subst hy; exact h
          · exact i2 a (by omega) y hy⟩, GS.to (by simp), by simp; omega⟩
      · simp -dsimp [h, hok, Ed.cs]
        refine Fin.of ?_
        simp [idx_at hx h i2]
    · simp -dsimp [hi]
      refine Fin.of ?_
      simp
      exact (idx_no fun a ha => i2 a (by omega)).symm
theorem contains_e_c (l : List Ed) (hl : l.length ≤ 1000000) (f : FuncId) (ds : List D) (q : Ed → Bool) (hf : ∀ x, Contract Try.prog f [.agg (x.cs.map .d), .ptr (.x 0) 0] [.box (ds.map .d)] (.d (.bool (q x))) [.box (ds.map .d)] []) (hok : fnOK Try.prog f = true) :
    Contract Try.prog 80 [.d (.sl (eds l)), .clo f [.ptr (.x 0) 0]] [.box (ds.map .d)] (.d (.bool (l.any q))) [.box (ds.map .d)] [] := by
  refine contract_of Try.func80 rfl (fun E0 => ?_)
  refine awp.sound (g := .mk) (ow := []) (kp := (fun k => k == 0 || k == 1 || k == 4)) ?_
  rw [Try.ntmps80]
  simp -dsimp
  refine ACall.of (index_e_c l hl f ds q hf hok) [.x 0] 0 ?_
  simp -dsimp
  refine Fin.of ?_
  simp [idx_any]

theorem vp1_c (x y : Ed) : Contract Try.prog 81 [.agg (y.cs.map .d), .ptr (.x 0) 0] [.box (x.cs.map .d)] (.d (.bool (decide (y.r = x.r)))) [.box (x.cs.map .d)] [] := by
  refine contract_of Try.func81 rfl (fun E0 => ?_)
  refine awp.sound (g := .mk) (ow := []) (kp := (fun k => k == 0 || k == 1 || k == 2 || k == 3)) ?_
  rw [Try.ntmps81]
  simp -dsimp [Ed.cs]
  refine Fin.of ?_
  simp
theorem has1_c (id : Int) (y : Ed) : Contract Try.prog 83 [.agg (y.cs.map .d), .ptr (.x 0) 0] [.box ([D.int .i64 id].map .d)] (.d (.bool (decide (y.id = id)))) [.box ([D.int .i64 id].map .d)] [] := by
  refine contract_of Try.func83 rfl (fun E0 => ?_)
  refine awp.sound (g := .mk) (ow := []) (kp := (fun k => k == 0 || k == 1 || k == 2 || k == 3)) ?_
  rw [Try.ntmps83]
  simp -dsimp [Ed.cs]
  refine Fin.of ?_
  simp
theorem has_c (p : Pn) (hp : p.es.length ≤ 1000) (id : Int) : Contract Try.prog 61 [planT p, .d (.int .i64 id)] [] (.d (.bool (p.es.any fun y => decide (y.id = id)))) [] [] := by
  refine contract_of Try.func61 rfl (fun E0 => ?_)
  refine awp.sound (g := .mk) (ow := []) (kp := (fun k => k == 0 || k == 1 || k == 2 || k == 3 || k == 4)) ?_
  rw [Try.ntmps61]
  simp -dsimp [planT]
  refine ACall.of (contains_e_c p.es (by omega) 83 [.int .i64 id] (fun y => decide (y.id = id)) (has1_c id) (by simp)) [.o 3] 0 ?_
  simp -dsimp
  refine Fin.of ?_
  simp
theorem sets1_c (p : Pn) (hp : p.es.length ≤ 1000) (id : Int) : Contract Try.prog 60 [.d (.int .i64 id), .ptr (.x 0) 0] [.box ([D.int .i64 p.subd, .int .i64 p.len, .sl (eds p.es)].map .d)] (.d (.bool (!(p.es.any fun y => decide (y.id = id))))) [.box ([D.int .i64 p.subd, .int .i64 p.len, .sl (eds p.es)].map .d)] [] := by
  refine contract_of Try.func60 rfl (fun E0 => ?_)
  refine awp.sound (g := .mk) (ow := []) (kp := (fun k => k == 0 || k == 1 || k == 3)) ?_
  rw [Try.ntmps60]
  simp -dsimp
  refine ACall.of (has_c p hp id) [] 0 ?_
  simp -dsimp [planT]
  refine Fin.of ?_
  simp
end Go.Proofs

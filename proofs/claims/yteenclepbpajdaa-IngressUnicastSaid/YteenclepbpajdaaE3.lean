/-
  What functions of the program compute, stated as contracts over plain data; the conditions of each stand in its own statement.
-/
import Derived.Test.YteenclepbpajdaaE2
set_option linter.unusedSimpArgs false
set_option maxRecDepth 100000
set_option maxHeartbeats 2000000
namespace Go.Proofs
open Go Go.Tr
/-- the index of a router, 0 if there is none -/
def placeR : List Rt → Int → Option Nat
  | [], _ => none
  | x :: l, r => if x.id = r then some 0 else (placeR l r).map (· + 1)
theorem placeR_lt : ∀ {l : List Rt} {r : Int} {i : Nat}, placeR l r = some i → i < l.length
  | [], _, _, h => by simp [placeR] at h
  | x :: l, r, i, h => by
    rw [placeR] at h
    split at h
    · simp at h; subst h; simp
    · cases hp : placeR l r with
      | none => simp [hp] at h
      | some j => simp [hp] at h; subst h; have := placeR_lt hp; simp; omega
def plc (g : Topo) (r : Int) : Nat := (placeR g.rs r).getD 0
theorem plc_lt {g : Topo} (r : Int) (h : 0 < g.rs.length) : plc g r < g.rs.length := by
  unfold plc
  cases hp : placeR g.rs r with
  | none => simpa using h
  | some i => simpa using placeR_lt hp
theorem placeR_step {l : List Rt} {r : Int} {i : Nat} {x : Rt} (hx : l[i]? = some x) (h : placeR l r = (placeR (l.drop i) r).map (· + i)) (hq : ¬ x.id = r) : placeR l r = (placeR (l.drop (i + 1)) r).map (· + (i + 1)) := by
  obtain ⟨hi, rfl⟩ := List.getElem?_eq_some_iff.1 hx
  rw [h, List.drop_eq_getElem_cons hi, placeR, if_neg hq, Option.map_map]
  congr 1; funext k; simp only [Function.comp_apply]; omega
theorem placeR_hit {l : List Rt} {r : Int} {i : Nat} {x : Rt} (hx : l[i]? = some x) (h : placeR l r = (placeR (l.drop i) r).map (· + i)) (hq : x.id = r) : placeR l r = some i := by
  obtain ⟨hi, rfl⟩ := List.getElem?_eq_some_iff.1 hx
  rw [h, List.drop_eq_getElem_cons hi, placeR, if_pos hq]; simp
theorem placeR_end {l : List Rt} {r : Int} {i : Nat} (h : placeR l r = (placeR (l.drop i) r).map (· + i)) (hi : ¬ i < l.length) : placeR l r = none := by
  rw [h, List.drop_eq_nil_of_le (by omega)]; rfl
theorem place06_c (g : Topo) (hg : g.Sm) (r : Int) : Contract Try.prog 85 [topT g, .d (.int .i64 r)] [] (.d (.int .i64 (plc g r))) [] [] := by
  have hr := hg.r
  refine contract_of Try.func85 rfl (fun E0 => ?_)
  refine awp.sound (g := .mk) (ow := []) (kp := (fun k => k == 0 || k == 1 || k == 2 || k == 4 || k == 5 || k == 10 || k == 20)) ?_
  rw [Try.ntmps85]
  simp -dsimp [topT]
  refine ALoop.of [] (fun k => k == 0 || k == 1 || k == 2 || k == 4 || k == 5 || k == 10 || k == 20) (ι := { i : Nat // i ≤ g.rs.length ∧ placeR g.rs r = (placeR (g.rs.drop i) r).map (· + i) }) (fun z => [(Pl.s 0, It.v (TV.agg [TV.d (D.sl (rts g.rs)), TV.d (D.sl (lks g.ls))])), (Pl.s 1, It.v (TV.d (D.int IntKind.i64 r))), (Pl.o 2, It.box [TV.d (D.sl (rts g.rs)), TV.d (D.sl (lks g.ls))]), (Pl.s 2, It.v (TV.ptr (Pl.o 2) 0)), (Pl.s 4, It.v (TV.d (D.int IntKind.i64 0))), (Pl.s 5, It.v (TV.d (D.int IntKind.i64 z.1)))]) (fun z => g.rs.length - z.1) ⟨0, by omega, by simp⟩ ?_ ?_
  · exact GS.to (by simp)
  · rintro ⟨i, i1, i2⟩
    by_cases hi : i < g.rs.length
    · have hiz : (i : Int) < g.rs.length := by omega
      have hx : g.rs[i]? = some g.rs[i] := List.getElem?_eq_getElem hi
      generalize g.rs[i] = x at hx
      have hx' := rts_get hx
      by_cases h : x.id = r
      · simp -dsimp [hiz, hx', Rt.cs, eq_true h]
        and_intros
        all_goals try first | rfl | omega | exact ⟨by kernel_rfl⟩
        refine Fin.of ?_
        simp [plc, placeR_hit hx i2 h]
      · simp -dsimp [hiz, hx', Rt.cs, eq_false h, wrap_i64 (n := (i : Int) + 1) (by omega) (by omega)]
        and_intros
        all_goals try first | rfl | omega | exact ⟨by kernel_rfl⟩
        exact ⟨⟨i + 1, by omega, placeR_step hx i2 h⟩, GS.to (by simp []), by simp; omega⟩
    · have hiz : ¬ (i : Int) < g.rs.length := by omega
      simp -dsimp [hiz]
      refine Fin.of ?_
      simp [plc, placeR_end i2 hi]
/-- the element of a list for a router, far if there is none -/
def atR (g : Topo) (d : List Int) (r : Int) : Int := match placeR g.rs r with | some i => d.getD i 0 | none => 1073741824
theorem at06_c (g : Topo) (hg : g.Sm) (d : List Int) (hd : g.rs.length ≤ d.length) (r : Int) : Contract Try.prog 86 [topT g, .d (ints d), .d (.int .i64 r)] [] (.d (.int .i64 (atR g d r))) [] [] := by
  have hr := hg.r
  refine contract_of Try.func86 rfl (fun E0 => ?_)
  refine awp.sound (g := .mk) (ow := []) (kp := (fun k => k == 0 || k == 1 || k == 2 || k == 3 || k == 6 || k == 7 || k == 12 || k == 22)) ?_
  rw [Try.ntmps86]
  simp -dsimp [topT]
  refine ALoop.of [] (fun k => k == 0 || k == 1 || k == 2 || k == 3 || k == 6 || k == 7 || k == 12 || k == 22) (ι := { i : Nat // i ≤ g.rs.length ∧ placeR g.rs r = (placeR (g.rs.drop i) r).map (· + i) }) (fun z => [(Pl.s 0, It.v (TV.agg [TV.d (D.sl (rts g.rs)), TV.d (D.sl (lks g.ls))])), (Pl.s 1, It.v (TV.d (ints d))), (Pl.s 2, It.v (TV.d (D.int IntKind.i64 r))), (Pl.o 3, It.box [TV.d (D.sl (rts g.rs)), TV.d (D.sl (lks g.ls))]), (Pl.s 3, It.v (TV.ptr (Pl.o 3) 0)), (Pl.s 6, It.v (TV.d (D.int IntKind.i64 0))), (Pl.s 7, It.v (TV.d (D.int IntKind.i64 z.1)))]) (fun z => g.rs.length - z.1) ⟨0, by omega, by simp⟩ ?_ ?_
  · exact GS.to (by simp)
  · rintro ⟨i, i1, i2⟩
    by_cases hi : i < g.rs.length
    · have hiz : (i : Int) < g.rs.length := by omega
      have hx : g.rs[i]? = some g.rs[i] := List.getElem?_eq_getElem hi
      generalize g.rs[i] = x at hx
      have hx' := rts_get hx
      by_cases h : x.id = r
      · have hq : d[i]? = some d[i] := List.getElem?_eq_getElem (by omega)
        generalize d[i] = y at hq
        simp -dsimp [hiz, hx', Rt.cs, eq_true h, ints, hq]
        and_intros
        all_goals try first | rfl | omega | exact ⟨by kernel_rfl⟩
        refine Fin.of ?_
        simp [atR, placeR_hit hx i2 h, hq]
      · simp -dsimp [hiz, hx', Rt.cs, eq_false h, wrap_i64 (n := (i : Int) + 1) (by omega) (by omega)]
        and_intros
        all_goals try first | rfl | omega | exact ⟨by kernel_rfl⟩
        exact ⟨⟨i + 1, by omega, placeR_step hx i2 h⟩, GS.to (by simp []), by simp; omega⟩
    · have hiz : ¬ (i : Int) < g.rs.length := by omega
      simp -dsimp [hiz]
      refine Fin.of ?_
      simp [atR, placeR_end i2 hi]
end Go.Proofs

/-
  What functions of the program compute, stated as contracts over plain data; the conditions of each stand in its own statement.
-/
import Derived.Test.YtbjbhnidedfcfaaJ1
import Derived.Test.YtbjbhnidedfcfaaJ2
import Derived.Test.YtbjbhnidedfcfaaT28
set_option linter.unusedSimpArgs false
set_option maxRecDepth 100000
set_option maxHeartbeats 1000000
namespace Go.Proofs
open Go Go.Tr

theorem cpt_len (zs : List Int) : (Lib.compact zs).length ≤ zs.length := by
  unfold Lib.compact Lib.compactUpTo
  rw [List.length_map]
  exact Nat.le_trans (List.length_filter_le _ _) (by simp)
theorem sort_i : InplC Try.prog 59 .i64 (fun zs => zs.mergeSort fun x y => decide (x ≤ y)) none := InplC.sort Try.lSort
theorem compact_i : InplC Try.prog 60 .i64 cpt (some fun zs => (Lib.compact zs).length) := InplC.compact Try.lCompact cpt_len
def filtR (q : Int → Bool) (l : List Int) : List Int := Lib.compact ((l.filter q).mergeSort fun x y => decide (x ≤ y))
theorem cpt_take (zs : List Int) : (cpt zs).take (Lib.compact zs).length = Lib.compact zs := by simp [cpt]
theorem filter_c (l : List Int) (hl : l.length ≤ 100000) (f : FuncId) (ds : List D) (q : Int → Bool) (hf : ∀ x, Contract Try.prog f [.d (.int .i64 x), .ptr (.x 0) 0] [.box (ds.map .d)] (.d (.bool (q x))) [.box (ds.map .d)] []) (hok : fnOK Try.prog f = true) :
    Contract Try.prog 30 [.d (ints l), .clo f [.ptr (.x 0) 0]] [.box (ds.map .d)] (.d (ints (filtR q l))) [.box (ds.map .d)] [] := by
  refine contract_of Try.func30 rfl (fun E0 => ?_)
  refine awp.sound (g := .mk) (ow := [1000059, 1000060]) (kp := (fun k => k == 0 || k == 1 || k == 4 || k == 5 || k == 7 || k == 8 || k == 9 || k == 10 || k == 11 || k == 16)) ?_
  rw [Try.ntmps30]
  simp -dsimp [ints]
  refine ALoop.of [1000059, 1000060] (fun k => k == 0 || k == 1 || k == 4 || k == 5 || k == 7 || k == 8 || k == 9 || k == 10 || k == 11 || k == 16) (ι := { i : Nat // i ≤ l.length })
    (fun z => [(Pl.s 0, It.v (TV.d (ints l))), (Pl.s 1, It.v (TV.clo f [TV.ptr (Pl.x 0) 0])), (Pl.x 0, It.box (List.map TV.d ds)), (Pl.s 4, It.v (TV.c (Value.slice none 0 0))), (Pl.s 5, It.v (TV.oref 5 ((l.take z.1).filter q).length)), (Pl.o 5, .row 3 1 (dd (nrow .i64 ((l.take z.1).filter q))) false),
      (Pl.s 8, It.v (TV.d (ints l))), (Pl.s 9, It.v (TV.d (D.int IntKind.i64 l.length))), (Pl.s 10, It.v (TV.d (D.int IntKind.i64 z.1)))]) (fun z => l.length - z.1) ⟨0, by omega⟩ ?_ ?_
  · exact GS.own' (k := 5) 3 1 (by simp) (by simp) (by simp [ints, nrow])
  · rintro ⟨i, i1⟩
    have hfl : ((l.take i).filter q).length ≤ l.length := Nat.le_trans (List.length_filter_le _ _) (by simp; omega)
    by_cases hi : i < l.length
    · have hs : (l.take (i + 1)).filter q = (l.take i).filter q ++ (if q l[i] = true then [l[i]] else []) := by
        rw [List.take_add_one, List.getElem?_eq_getElem hi, List.filter_append]
        by_cases hq : q l[i] = true <;> simp [hq]
      simp -dsimp [ints, hi, wrap_i64 (n := (i : Int) + 1) (by omega) (by omega)]
      refine ACall.of (hf l[i]) [.x 0] 0 ?_
      rcases (Bool.eq_false_or_eq_true (q l[i])).symm with h | h
      · simp -dsimp [hok, h, wrap_i64 (n := (i : Int) + 1) (by omega) (by omega)]
        try refine ⟨?_, ⟨by kernel_rfl⟩⟩
        exact ⟨⟨i + 1, by omega⟩, GS.to (by simp [ints, hs, h]), by simp; omega⟩
      · simp -dsimp [hok, h, wrap_i64 (n := (i : Int) + 1) (by omega) (by omega)]
        and_intros
        all_goals try first | omega | exact ⟨by kernel_rfl⟩
        exact ⟨⟨i + 1, by omega⟩, GS.to (by simp [ints, hs, h, nrow]), by simp; omega⟩
    · obtain rfl : i = l.length := by omega
      have hfl2 : (l.filter q).length ≤ l.length := List.length_filter_le _ _
      simp -dsimp [hi]
      refine ACall.inpl sort_i (l.filter q) ?_
      simp -dsimp
      and_intros
      all_goals try first | omega | exact ⟨by kernel_rfl⟩
      have hsl : ((l.filter q).mergeSort fun x y => decide (x ≤ y)).length ≤ l.length := by rw [List.length_mergeSort]; exact hfl2
      refine ACall.inpl compact_i ((l.filter q).mergeSort fun x y => decide (x ≤ y)) ?_
      simp -dsimp [cpt_take]
      and_intros
      all_goals try first | omega | exact ⟨by kernel_rfl⟩
      refine Fin.of ?_
      simp [filtR, ints, nrow]
theorem m1_c (r : List Int) (hr : r.length ≤ 100000) (x : Int) : Contract Try.prog 31 [.d (.int .i64 x), .ptr (.x 0) 0] [.box ([ints r].map .d)] (.d (.bool (!(hasI r x)))) [.box ([ints r].map .d)] [] := by
  refine contract_of Try.func31 rfl (fun E0 => ?_)
  refine awp.sound (g := .mk) (ow := []) (kp := (fun k => k == 0 || k == 1 || k == 3)) ?_
  rw [Try.ntmps31]
  simp -dsimp
  refine ACall.of (contains32_c r (by omega) x) [] 0 ?_
  simp -dsimp
  refine Fin.of ?_
  simp
theorem m2_c (r : List Int) (hr : r.length ≤ 100000) (x : Int) : Contract Try.prog 33 [.d (.int .i64 x), .ptr (.x 0) 0] [.box ([ints r].map .d)] (.d (.bool (!(hasI r x)))) [.box ([ints r].map .d)] [] := by
  refine contract_of Try.func33 rfl (fun E0 => ?_)
  refine awp.sound (g := .mk) (ow := []) (kp := (fun k => k == 0 || k == 1 || k == 3)) ?_
  rw [Try.ntmps33]
  simp -dsimp
  refine ACall.of (contains32_c r (by omega) x) [] 0 ?_
  simp -dsimp
  refine Fin.of ?_
  simp
theorem idxV_range (v : Int) (l : List Int) : -1 ≤ idxV v l ∧ idxV v l < l.length := by
  unfold idxV
  cases h : l.findIdx? (fun x => decide (x = v)) with
  | none => simp; omega
  | some i =>
    obtain ⟨hi, _⟩ := List.findIdx?_eq_some_iff_getElem.1 h
    simp; omega
theorem m3_c (r : List Int) (hr : r.length ≤ 100000) (x : Int) : Contract Try.prog 34 [.d (.int .i64 x), .ptr (.x 0) 0] [.box ([ints r].map .d)] (.d (.bool (hasI (r.drop (idxV x r + 1).toNat) x))) [.box ([ints r].map .d)] [] := by
  refine contract_of Try.func34 rfl (fun E0 => ?_)
  refine awp.sound (g := .mk) (ow := []) (kp := (fun k => k == 0 || k == 1 || k == 3)) ?_
  rw [Try.ntmps34]
  simp -dsimp
  have hx := idxV_range x r
  refine ACall.of (index32_c r (by omega) x) [] 0 ?_
  simp -dsimp [ints, wrap_i64 (n := idxV x r + 1) (by omega) (by omega)]
  and_intros
  all_goals try first | omega | exact ⟨by kernel_rfl⟩
  refine ACall.of (contains32_c (r.drop (idxV x r + 1).toNat) (by simp; omega) x) [] 0 ?_
  have ht : List.take r.length (r.map fun n => [D.int .i64 n]) = r.map fun n => [D.int .i64 n] := List.take_of_length_le (by simp)
  simp -dsimp [ints, ht]
  try refine ⟨?_, ⟨by kernel_rfl⟩⟩
  refine Fin.of ?_
  simp
theorem filtR_len (q : Int → Bool) (l : List Int) : (filtR q l).length ≤ l.length := by
  have h1 := cpt_len ((l.filter q).mergeSort fun x y => decide (x ≤ y))
  have h2 := List.length_filter_le q l
  rw [List.length_mergeSort] at h1
  unfold filtR
  omega
/-- ascending, each once: those that are wanted -/
theorem filtR_asc (q : Int → Bool) (l : List Int) : (filtR q l).Pairwise (· < ·) ∧ ∀ x, x ∈ filtR q l ↔ x ∈ l ∧ q x = true := by
  obtain ⟨h1, h2⟩ := compact_sorted (sort_sorted (l.filter q))
  refine ⟨h1, fun x => ?_⟩
  show x ∈ Lib.compact _ ↔ _
  rw [h2, List.mem_mergeSort, List.mem_filter]
end Go.Proofs

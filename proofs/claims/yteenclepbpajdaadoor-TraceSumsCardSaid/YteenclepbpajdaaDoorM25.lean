/-
  What functions of the program compute, stated as contracts over plain data; the conditions of each stand in its own statement.
-/
import Derived.Test.YteenclepbpajdaaDoorM24
import Derived.Test.YteenclepbpajdaaDoorM23
import Derived.Test.YteenclepbpajdaaDoorRows
import Derived.Test.YteenclepbpajdaaDoorM13
import Derived.OpenShut
import Derived.MakeChecks
import Derived.FnData
import Derived.LaidMore
set_option linter.unusedSimpArgs false
set_option maxRecDepth 100000
set_option maxHeartbeats 4000000
namespace Go.Proofs
open Go Go.Tr
theorem received14_c (t : Trc) (ht : t.dl.length ≤ 1000000) : Contract Tryd.prog 6 [trcT t] [] (.d (bv (recV t.dl))) [] [] := by
  refine contract_of Tryd.func6 rfl (fun E0 => ?_)
  refine awp.sound (g := .mk) (ow := []) (kp := (fun k => k == 0 || k == 1 || k == 2 || k == 3 || k == 4 || k == 9)) ?_
  rw [Tryd.ntmps6]
  simp -dsimp [trcT]
  try refine ⟨?_, ⟨by kernel_rfl⟩⟩
  refine ALoop.of [] (fun k => k == 0 || k == 1 || k == 2 || k == 3 || k == 4 || k == 9) (ι := { i : Nat // i ≤ t.dl.length })
    (fun z => [(Pl.o 1, It.box [TV.d (D.sl (t.dl.map dlC)), TV.d (D.sl (t.cr.map crC)), TV.d (D.sl (t.ls.map lsC))]), (Pl.s 1, It.v (TV.ptr (Pl.o 1) 0)), (Pl.s 3, It.v (TV.d (D.int IntKind.u64 (tn (recV (t.dl.take z.1)))))), (Pl.s 4, It.v (TV.d (D.int IntKind.i64 z.1)))])
    (fun z => t.dl.length - z.1) ⟨0, by omega⟩ ?_ ?_
  · exact GS.to (by simp [recV])
  · rintro ⟨i, i1⟩
    by_cases hi : i < t.dl.length
    · have hiz : (i : Int) < t.dl.length := by omega
      have hg : t.dl[i]? = some t.dl[i] := List.getElem?_eq_getElem hi
      generalize t.dl[i] = y at hg
      have hn := recV_next hg
      simp -dsimp [hg, hiz, dlC, Pk.cs, bv, wrap_i64 (n := (i : Int) + 1) (by omega) (by omega)]
      and_intros
      all_goals try first | omega | exact ⟨by kernel_rfl⟩
      exact ⟨⟨i + 1, by omega⟩, GS.to (by simp [hn]), by simp; omega⟩
    · have hiz : ¬ (i : Int) < t.dl.length := by omega
      obtain rfl : i = t.dl.length := by omega
      simp -dsimp [hiz]
      refine Fin.of ?_
      simp [bv]
theorem lost14_c (t : Trc) (ht : t.ls.length ≤ 1000000) : Contract Tryd.prog 8 [trcT t] [] (.d (bv (losV t.ls))) [] [] := by
  refine contract_of Tryd.func8 rfl (fun E0 => ?_)
  refine awp.sound (g := .mk) (ow := []) (kp := (fun k => k == 0 || k == 1 || k == 2 || k == 3 || k == 4 || k == 9)) ?_
  rw [Tryd.ntmps8]
  simp -dsimp [trcT]
  try refine ⟨?_, ⟨by kernel_rfl⟩⟩
  refine ALoop.of [] (fun k => k == 0 || k == 1 || k == 2 || k == 3 || k == 4 || k == 9) (ι := { i : Nat // i ≤ t.ls.length })
    (fun z => [(Pl.o 1, It.box [TV.d (D.sl (t.dl.map dlC)), TV.d (D.sl (t.cr.map crC)), TV.d (D.sl (t.ls.map lsC))]), (Pl.s 1, It.v (TV.ptr (Pl.o 1) 0)), (Pl.s 3, It.v (TV.d (D.int IntKind.u64 (tn (losV (t.ls.take z.1)))))), (Pl.s 4, It.v (TV.d (D.int IntKind.i64 z.1)))])
    (fun z => t.ls.length - z.1) ⟨0, by omega⟩ ?_ ?_
  · exact GS.to (by simp [losV])
  · rintro ⟨i, i1⟩
    by_cases hi : i < t.ls.length
    · have hiz : (i : Int) < t.ls.length := by omega
      have hg : t.ls[i]? = some t.ls[i] := List.getElem?_eq_getElem hi
      generalize t.ls[i] = y at hg
      have hn := losV_next hg
      simp -dsimp [hg, hiz, lsC, bv, wrap_i64 (n := (i : Int) + 1) (by omega) (by omega)]
      and_intros
      all_goals try first | omega | exact ⟨by kernel_rfl⟩
      exact ⟨⟨i + 1, by omega⟩, GS.to (by simp [hn]), by simp; omega⟩
    · have hiz : ¬ (i : Int) < t.ls.length := by omega
      obtain rfl : i = t.ls.length := by omega
      simp -dsimp [hiz]
      refine Fin.of ?_
      simp [bv]
theorem insLen (xs : List Int) : ∀ l : List Int, (xs.foldl insI l).length ≤ l.length + xs.length := by
  induction xs with
  | nil => intro l; simp
  | cons x xs ih =>
    intro l
    have h1 := ih (insI l x)
    have h2 : (insI l x).length ≤ l.length + 1 := by
      unfold insI
      split
      · omega
      · have := insPos_le x l
        simp
        omega
    simp only [List.foldl_cons, List.length_cons]
    omega
def insT (t : Trc) (n : Nat) : List Int := ((t.dl.take n).map fun d => d.1).foldl insI []
theorem insT_next {t : Trc} {i : Nat} {y : Int × Pk} (h : t.dl[i]? = some y) : insT t (i + 1) = insI (insT t i) y.1 := by
  unfold insT
  rw [List.take_add_one, h]; simp
theorem insT_len (t : Trc) (n : Nat) : (insT t n).length ≤ t.dl.length := by
  have := insLen ((t.dl.take n).map fun d => d.1) []
  unfold insT
  simp at this ⊢
  omega
theorem insT_rts (t : Trc) : insT t t.dl.length = rtsR t := by
  unfold insT rtsR
  rw [List.take_length]
  generalize t.dl.map (fun d => d.1) = L
  have h1 := insFold L [] List.Pairwise.nil
  have h2 := compact_sorted (sort_sorted L)
  refine asc_ext h1.1 h2.1 fun x => ?_
  rw [h1.2, h2.2]
  simp
theorem routers14_c (t : Trc) (ht : t.dl.length ≤ 1000000) : Contract Tryd.prog 11 [trcT t] [] (.d (ints (rtsR t))) [] [] := by
  refine contract_of Tryd.func11 rfl (fun E0 => ?_)
  refine awp.sound (g := .mk) (ow := []) (kp := (fun k => k == 0 || k == 1 || k == 2 || k == 3 || k == 4 || k == 9)) ?_
  rw [Tryd.ntmps11]
  simp -dsimp [trcT]
  try refine ⟨?_, ⟨by kernel_rfl⟩⟩
  refine ALoop.of [] (fun k => k == 0 || k == 1 || k == 2 || k == 3 || k == 4 || k == 9) (ι := { i : Nat // i ≤ t.dl.length })
    (fun z => [(Pl.o 1, It.box [TV.d (D.sl (t.dl.map dlC)), TV.d (D.sl (t.cr.map crC)), TV.d (D.sl (t.ls.map lsC))]), (Pl.s 1, It.v (TV.ptr (Pl.o 1) 0)), (Pl.s 3, It.v (TV.d (ints (insT t z.1)))), (Pl.s 4, It.v (TV.d (D.int IntKind.i64 z.1)))])
    (fun z => t.dl.length - z.1) ⟨0, by omega⟩ ?_ ?_
  · exact GS.viewS 3 (by simp [insT, ints])
  · rintro ⟨i, i1⟩
    by_cases hi : i < t.dl.length
    · have hiz : (i : Int) < t.dl.length := by omega
      have hg : t.dl[i]? = some t.dl[i] := List.getElem?_eq_getElem hi
      generalize t.dl[i] = y at hg
      have hn := insT_next hg
      have hl := insT_len t i
      simp -dsimp [hg, hiz, dlC, Pk.cs, ints]
      and_intros
      all_goals try first | omega | exact ⟨by kernel_rfl⟩
      refine ACall.of (insert04_c (insT t i) (by omega) y.1) [] 0 ?_
      simp -dsimp [ints, wrap_i64 (n := (i : Int) + 1) (by omega) (by omega)]
      and_intros
      all_goals try first | omega | exact ⟨by kernel_rfl⟩
      exact ⟨⟨i + 1, by omega⟩, GS.to (by simp [hn, ints]), by simp; omega⟩
    · have hiz : ¬ (i : Int) < t.dl.length := by omega
      obtain rfl : i = t.dl.length := by omega
      simp -dsimp [hiz, ints]
      refine Fin.of ?_
      simp [insT_rts, ints]
theorem rtsR_len (t : Trc) : (rtsR t).length ≤ t.dl.length := by rw [← insT_rts]; exact insT_len t _
theorem tsums_law (t : Trc) : Contract Tryd.prog 3 [trcT t] [] (.d (.bool true)) [] [] := by
  refine contract_of Tryd.func3 rfl (fun E0 => ?_)
  refine awp.sound (g := .mk) (ow := []) (kp := (fun k => k == 0 || k == 1 || k == 2 || k == 12)) ?_
  rw [Tryd.ntmps3]
  by_cases h1 : t.dl.length ≤ 200
  · have h1z : ¬ (200 : Int) < t.dl.length := by omega
    by_cases h2 : t.ls.length ≤ 200
    · have h2z : ¬ (200 : Int) < t.ls.length := by omega
      have e1 := received_c t (by omega)
      have e2 := received14_c t (by omega)
      have e3 := lost_c t (by omega)
      have e4 := lost14_c t (by omega)
      have e5 := routers_c t (by omega)
      have e6 := routers14_c t (by omega)
      have e7 := ints04_c (rtsR t) (rtsR t) (by have := rtsR_len t; omega)
      simp only [trcT, bv] at e1 e2 e3 e4 e5 e6
      simp -dsimp [trcT, h1z, h2z, bv]
      and_intros
      all_goals try first | omega | exact ⟨by kernel_rfl⟩ | rfl | exact True.intro
      refine ACall.of e1 [] 0 ?_
      simp -dsimp [bv]
      and_intros
      all_goals try first | omega | exact ⟨by kernel_rfl⟩ | rfl | exact True.intro
      refine ACall.of e2 [] 0 ?_
      simp -dsimp [bv]
      and_intros
      all_goals try first | omega | exact ⟨by kernel_rfl⟩ | rfl | exact True.intro
      refine ACall.of e3 [] 0 ?_
      simp -dsimp [bv]
      and_intros
      all_goals try first | omega | exact ⟨by kernel_rfl⟩ | rfl | exact True.intro
      refine ACall.of e4 [] 0 ?_
      simp -dsimp [bv]
      and_intros
      all_goals try first | omega | exact ⟨by kernel_rfl⟩ | rfl | exact True.intro
      refine ACall.of e5 [] 0 ?_
      simp -dsimp [bv]
      and_intros
      all_goals try first | omega | exact ⟨by kernel_rfl⟩ | rfl | exact True.intro
      refine ACall.of e6 [] 0 ?_
      simp -dsimp [bv]
      and_intros
      all_goals try first | omega | exact ⟨by kernel_rfl⟩ | rfl | exact True.intro
      refine ACall.of e7 [] 0 ?_
      simp -dsimp [bv]
      and_intros
      all_goals try first | omega | exact ⟨by kernel_rfl⟩ | rfl | exact True.intro
      refine ACall.of awake14_c [] 0 ?_
      simp -dsimp [bv]
      and_intros
      all_goals try first | omega | exact ⟨by kernel_rfl⟩ | rfl | exact True.intro
      refine Fin.of ?_
      simp
    · have h2z : (200 : Int) < t.ls.length := by omega
      simp -dsimp [trcT, h1z, h2z, bv]
      and_intros
      all_goals try first | omega | exact ⟨by kernel_rfl⟩ | rfl | exact True.intro
      refine ACall.of awake14_c [] 0 ?_
      simp -dsimp [bv]
      and_intros
      all_goals try first | omega | exact ⟨by kernel_rfl⟩ | rfl | exact True.intro
      refine Fin.of ?_
      simp
  · have h1z : (200 : Int) < t.dl.length := by omega
    simp -dsimp [trcT, h1z]
    and_intros
    all_goals try first | omega | exact ⟨by kernel_rfl⟩ | rfl | exact True.intro
    refine ACall.of awake14_c [] 0 ?_
    simp -dsimp [bv]
    and_intros
    all_goals try first | omega | exact ⟨by kernel_rfl⟩ | rfl | exact True.intro
    refine Fin.of ?_
    simp
theorem bv_of (n : Int) (h : (Lit.int .u64 n).wf = true) : ∃ B : BitVec 64, D.int .u64 n = bv B := by
  obtain ⟨B, rfl⟩ := wf_u64 h
  exact ⟨B, rfl⟩
theorem has_map {α : Type} (c : α → List D) (T : Ty) (H : ∀ ds, T.has ds → ∃ a, ds = c a) : ∀ {xs : List (List D)}, (∀ x ∈ xs, T.has x) → ∃ l : List α, xs = l.map c
  | [], _ => ⟨[], rfl⟩
  | x :: xs, h => by
    obtain ⟨y, hy⟩ := H x (h x (by simp))
    obtain ⟨l, hl⟩ := has_map c T H fun z hz => h z (List.mem_cons_of_mem _ hz)
    exact ⟨y :: l, by rw [hy, hl]; rfl⟩
def tyPk : Ty := .st [.int .i64, .int .i64, .int .i64, .int .i64, .int .i64, .int .i64, .int .i64, .int .i64, .int .u64, .str]
theorem has_pk {ds : List D} (h : tyPk.has ds) : ∃ p : Pk, ds = p.cs := by
  unfold tyPk at h
  simp only [Ty.has.eq_5, Ty.hass, Ty.has.eq_1, Ty.has.eq_3] at h
  obtain ⟨_, _, rfl, ⟨a, rfl, _⟩, _, _, rfl, ⟨b, rfl, _⟩, _, _, rfl, ⟨c, rfl, _⟩, _, _, rfl, ⟨d, rfl, _⟩, _, _, rfl, ⟨e, rfl, _⟩, _, _, rfl, ⟨f, rfl, _⟩, _, _, rfl, ⟨g, rfl, _⟩, _, _, rfl, ⟨i, rfl, _⟩, _, _, rfl, ⟨j, rfl, hj⟩, _, _, rfl, ⟨s, rfl, _⟩, rfl⟩ := h
  obtain ⟨B, hB⟩ := bv_of j hj
  exact ⟨⟨a, b, c, d, e, f, g, i, B, s⟩, by simp [Pk.cs, hB]⟩
theorem has_trc {ds : List D} (h : (Ty.st [.sl (.st [.int .i64, tyPk]), .sl (.st [.int .i64, .int .i64, .int .u64]), .sl (.st [.int .i64, .int .u64])]).has ds) : ∃ t : Trc, ds = [.sl (t.dl.map dlC), .sl (t.cr.map crC), .sl (t.ls.map lsC)] := by
  simp only [Ty.has.eq_5, Ty.hass, Ty.has.eq_4] at h
  obtain ⟨_, _, rfl, ⟨xs, rfl, _, h1⟩, _, _, rfl, ⟨ys, rfl, _, h2⟩, _, _, rfl, ⟨zs, rfl, _, h3⟩, rfl⟩ := h
  obtain ⟨dl, rfl⟩ := has_map dlC (.st [.int .i64, tyPk]) (fun ds hd => by
    simp only [Ty.has.eq_5, Ty.hass, Ty.has.eq_1] at hd
    obtain ⟨_, _, rfl, ⟨a, rfl, _⟩, _, _, rfl, hp, rfl⟩ := hd
    obtain ⟨p, rfl⟩ := has_pk hp
    exact ⟨(a, p), by simp [dlC]⟩) (xs := xs) (fun x hx => by
      simp only [Ty.has.eq_5, Ty.hass, Ty.has.eq_1]
      exact h1 x hx)
  obtain ⟨cr, rfl⟩ := has_map crC (.st [.int .i64, .int .i64, .int .u64]) (fun ds hd => by
    simp only [Ty.has.eq_5, Ty.hass, Ty.has.eq_1] at hd
    obtain ⟨_, _, rfl, ⟨a, rfl, _⟩, _, _, rfl, ⟨b, rfl, _⟩, _, _, rfl, ⟨j, rfl, hj⟩, rfl⟩ := hd
    obtain ⟨B, hB⟩ := bv_of j hj
    exact ⟨(a, b, B), by simp [crC, hB]⟩) (xs := ys) (fun x hx => by
      simp only [Ty.has.eq_5, Ty.hass, Ty.has.eq_1]
      exact h2 x hx)
  obtain ⟨ls, rfl⟩ := has_map lsC (.st [.int .i64, .int .u64]) (fun ds hd => by
    simp only [Ty.has.eq_5, Ty.hass, Ty.has.eq_1] at hd
    obtain ⟨_, _, rfl, ⟨a, rfl, _⟩, _, _, rfl, ⟨j, rfl, hj⟩, rfl⟩ := hd
    obtain ⟨B, hB⟩ := bv_of j hj
    exact ⟨(a, B), by simp [lsC, hB]⟩) (xs := zs) (fun x hx => by
      simp only [Ty.has.eq_5, Ty.hass, Ty.has.eq_1]
      exact h3 x hx)
  exact ⟨⟨dl, cr, ls⟩, rfl⟩
end Go.Proofs

set_option linter.unusedSimpArgs false
namespace Go.Proofs.YteenclepbpajdaaDoor
open Go Go.Tr
set_option maxRecDepth 100000
def laidT : List (String × DataW Unit) := [("math/bits.deBruijn64tab", Rows.laid_math_bits_deBruijn64tab)]
theorem gDeb : Tryd.prog.globalNamed "math/bits.deBruijn64tab" = some 0 := by kernel_rfl
theorem tDeb : (Tryd.prog.globals[0]?).map (·.type) = some 142 := by kernel_rfl
theorem uDeb : Tryd.prog.underlying 142 = some (.array 64 5) := by kernel_rfl
theorem uByte : Tryd.prog.underlying 5 = some (.int .u8) := by kernel_rfl
theorem cByte : Tryd.prog.cellsOf 5 = 1 := by kernel_rfl
theorem debData {H : Type} : (Rows.laid_math_bits_deBruijn64tab : DataW H) = .agg (deb.map fun n => .lit (.int .u8 n)) := rfl
/-- what the row's condition says of the table's cells -/
theorem glob_of_laid {W : World} (h : laidMetH Tryd.prog laidT W) : GlobW W := by
  rw [MakeChecks.laidMetH_plain _ _ _ (by kernel_rfl)] at h
  obtain ⟨ps, ⟨g0, t0, cs0, f0, p0, q0, hg0, ht0, hv0, hd0, _⟩, _, _⟩ := h
  obtain rfl := Option.some.inj (gDeb.symm.trans hg0)
  obtain rfl := Option.some.inj (tDeb.symm.trans ht0)
  obtain ⟨xs, m1, rfl, hx1, hlen, hn, hel⟩ := DataW.trod_array uDeb hd0
  simp only [Prod.mk.injEq, debData, DataW.agg.injEq] at hx1
  have hcell : ∀ i : Nat, i < 64 → cs0[i]? = some (.int .u8 (deb.getD i 0)) := fun i hi => by
    have h1 := hel i hi
    rw [cByte, Nat.mul_one] at h1
    have h2 : xs[i]? = some xs[i] := List.getElem?_eq_getElem (by omega)
    rw [h2] at h1
    obtain ⟨n, e1, e2, _⟩ := DataW.trod_int uByte h1
    have h3 : (xs.map (·.1))[i]? = (deb.map fun n => (DataW.lit (Lit.int .u8 n) : DataW Unit))[i]? := by rw [← hx1.1]
    rw [List.getElem?_map, h2, Option.map_some, e2, List.getElem?_map] at h3
    have h4 : deb[i]? = some n := by
      cases hd : deb[i]? with
      | none => rw [hd] at h3; simp at h3
      | some k => rw [hd] at h3; simp at h3; rw [h3]
    have h5 : cs0.toList[i]? = some (.int .u8 n) := by
      have := congrArg (fun l => l[0]?) e1
      simp only [List.getElem?_take, List.getElem?_drop] at this
      simpa using this
    rw [List.getD_eq_getElem?_getD, h4, Option.getD_some]
    simpa using h5
  have hbl : 0 < W.heap.size := by
    have := World.var?_cell hg0 hv0 0
    rw [hcell 0 (by omega)] at this
    exact World.block_lt_of_cell? W ⟨0, 0, none⟩ this
  intro y hy
  simp only [globs, List.mem_singleton] at hy
  subst hy
  refine RepCells.of_get fun i x hx => ?_
  simp only [List.getElem?_map, Option.map_eq_some_iff] at hx
  obtain ⟨n, h1, rfl⟩ := hx
  have hi : i < 64 := (List.getElem?_eq_some_iff.1 h1).1
  refine ⟨hbl, .int .u8 n, ?_, by simp only [Rep]⟩
  have := World.var?_cell hg0 hv0 i
  rw [hcell i hi, List.getD_eq_getElem?_getD, h1, Option.getD_some] at this
  rw [Nat.zero_add]
  exact this
end Go.Proofs.YteenclepbpajdaaDoor

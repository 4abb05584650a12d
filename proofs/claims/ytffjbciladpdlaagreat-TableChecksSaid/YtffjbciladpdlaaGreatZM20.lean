/-
  What functions of the program compute, stated as contracts over plain data; the conditions of each stand in its own statement.
-/
import Derived.Test.YtffjbciladpdlaaGreatZM19
import Derived.Shelf.SlGeneric
import Derived.Shelf.SlSortCmp.NoneTotal
import Derived.Shelf.SlicesG.Cmp
import Derived.Ground.SlsfProg
import Derived.Ground.SlgcProg
import Derived.Test.YtffjbciladpdlaaGreatChecked
import Derived.WalkKit
import Derived.StillTailTactics
import Derived.Deep.QuietTactic
import Derived.BigQuiet
import Derived.LoopN
import Derived.KernelRfl
import Derived.Test.YtffjbciladpdlaaGreatZM18
namespace Go.Proofs
open Go.Shelf
def Tryz.sortStep_ren : Go.Shelf.Ren := ⟨fun | 6 => 117 | 15 => 130 | 14 => 131 | 28 => 143 | 29 => 144 | 20 => 145 | 21 => 146 | 22 => 147 | 23 => 148 | 24 => 149 | 25 => 150 | 26 => 151 | 27 => 152 | 46 => 158 | 47 => 154 | 48 => 155 | 49 => 159 | 50 => 160 | 57 => 162 | n => n, fun | 22 => 130 | 24 => 132 | 25 => 134 | 3 => 3 | 39 => 142 | 0 => 0 | 53 => 158 | 55 => 160 | 4 => 4 | 46 => 152 | 45 => 151 | 50 => 60 | 5 => 5 | 9 => 9 | 66 => 166 | 70 => 170 | 76 => 174 | 77 => 175 | n => n, fun | n => n⟩
theorem Tryz.sortStep : Go.Proofs.SlLaysF0.n6 Tryz.prog Tryz.sortStep_ren := {
 mixed := by kernel_rfl
 f6 := ⟨Tryz.f117.name, by decide, Tryz.func117.trans (congrArg some (by kernel_rfl))⟩
 f14 := ⟨Tryz.f131.name, by decide, Tryz.func131.trans (congrArg some (by kernel_rfl))⟩
 f15 := Tryz.func130.trans (congrArg some (by kernel_rfl))
 f20 := ⟨Tryz.f145.name, by decide, Tryz.func145.trans (congrArg some (by kernel_rfl))⟩
 f21 := ⟨Tryz.f146.name, by decide, Tryz.func146.trans (congrArg some (by kernel_rfl))⟩
 f22 := ⟨Tryz.f147.name, by decide, Tryz.func147.trans (congrArg some (by kernel_rfl))⟩
 f23 := ⟨Tryz.f148.name, by decide, Tryz.func148.trans (congrArg some (by kernel_rfl))⟩
 f24 := ⟨Tryz.f149.name, by decide, Tryz.func149.trans (congrArg some (by kernel_rfl))⟩
 f25 := ⟨Tryz.f150.name, by decide, Tryz.func150.trans (congrArg some (by kernel_rfl))⟩
 f26 := ⟨Tryz.f151.name, by decide, Tryz.func151.trans (congrArg some (by kernel_rfl))⟩
 f27 := ⟨Tryz.f152.name, by decide, Tryz.func152.trans (congrArg some (by kernel_rfl))⟩
 f28 := Tryz.func143.trans (congrArg some (by kernel_rfl))
 f29 := Tryz.func144.trans (congrArg some (by kernel_rfl))
 f46 := ⟨Tryz.f158.name, by decide, Tryz.func158.trans (congrArg some (by kernel_rfl))⟩
 f47 := Tryz.func154.trans (congrArg some (by kernel_rfl))
 f48 := Tryz.func155.trans (congrArg some (by kernel_rfl))
 f49 := ⟨Tryz.f159.name, by decide, Tryz.func159.trans (congrArg some (by kernel_rfl))⟩
 f50 := ⟨Tryz.f160.name, by decide, Tryz.func160.trans (congrArg some (by kernel_rfl))⟩
 f57 := ⟨Tryz.f162.name, by decide, Tryz.func162.trans (congrArg some (by kernel_rfl))⟩
 t0 := Tryz.underlying0
 a0 := Tryz.isAgg0
 z0 := Tryz.sizeOf0
 v0 := Tryz.zeroValue0
 t3 := Tryz.underlying3
 a3 := Tryz.isAgg3
 z3 := Tryz.sizeOf3
 v3 := Tryz.zeroValue3
 t4 := Tryz.underlying4
 a4 := Tryz.isAgg4
 z4 := Tryz.sizeOf4
 v4 := Tryz.zeroValue4
 t5 := Tryz.underlying5
 a5 := Tryz.isAgg5
 z5 := Tryz.sizeOf5
 v5 := Tryz.zeroValue5
 t9 := Tryz.underlying9
 a9 := Tryz.isAgg9
 z9 := Tryz.sizeOf9
 v9 := Tryz.zeroValue9
 t22 := Tryz.underlying130
 a22 := Tryz.isAgg130
 z22 := Tryz.sizeOf130
 v22 := Tryz.zeroValue130
 t25 := Tryz.underlying134
 a25 := Tryz.isAgg134
 z25 := Tryz.sizeOf134
 v25 := Tryz.zeroValue134
 t39 := Tryz.underlying142
 a39 := Tryz.isAgg142
 z39 := Tryz.sizeOf142
 v39 := Tryz.zeroValue142
 t45 := Tryz.underlying151
 a45 := Tryz.isAgg151
 z45 := Tryz.sizeOf151
 v45 := Tryz.zeroValue151
 t46 := Tryz.underlying152
 a46 := Tryz.isAgg152
 z46 := Tryz.sizeOf152
 v46 := Tryz.zeroValue152
 t50 := Tryz.underlying60
 a50 := Tryz.isAgg60
 z50 := Tryz.sizeOf60
 v50 := Tryz.zeroValue60
 t53 := Tryz.underlying158
 a53 := Tryz.isAgg158
 z53 := Tryz.sizeOf158
 v53 := Tryz.zeroValue158
 t55 := Tryz.underlying160
 a55 := Tryz.isAgg160
 z55 := Tryz.sizeOf160
 v55 := Tryz.zeroValue160
 t66 := Tryz.underlying166
 a66 := Tryz.isAgg166
 z66 := Tryz.sizeOf166
 v66 := Tryz.zeroValue166
 t70 := Tryz.underlying170
 a70 := Tryz.isAgg170
 z70 := Tryz.sizeOf170
 v70 := Tryz.zeroValue170
 t76 := Tryz.underlying174
 a76 := Tryz.isAgg174
 z76 := Tryz.sizeOf174
 v76 := Tryz.zeroValue174
 t77 := Tryz.underlying175
 a77 := Tryz.isAgg175
 z77 := Tryz.sizeOf175
 v77 := Tryz.zeroValue175 }
def Tryz.cmpInt_ren : Go.Shelf.Ren := ⟨fun | 5 => 119 | 7 => 132 | n => n, fun | 22 => 3 | 3 => 3 | 4 => 4 | n => n, fun | n => n⟩
theorem Tryz.cmpInt : Go.Proofs.SlLaysC2.n5 Tryz.prog Tryz.cmpInt_ren := {
 mixed := by kernel_rfl
 f5 := ⟨Tryz.f119.name, by decide, Tryz.func119.trans (congrArg some (by kernel_rfl))⟩
 f7 := ⟨Tryz.f132.name, by decide, Tryz.func132.trans (congrArg some (by kernel_rfl))⟩
 t3 := Tryz.underlying3
 a3 := Tryz.isAgg3
 z3 := Tryz.sizeOf3
 v3 := Tryz.zeroValue3
 t4 := Tryz.underlying4
 a4 := Tryz.isAgg4
 z4 := Tryz.sizeOf4
 v4 := Tryz.zeroValue4
 t22 := Tryz.underlying3
 a22 := Tryz.isAgg3
 z22 := Tryz.sizeOf3
 v22 := Tryz.zeroValue3 }
end Go.Proofs

set_option linter.unusedSimpArgs false
set_option linter.unusedVariables false
set_option maxRecDepth 100000
set_option maxHeartbeats 2000000
namespace Go.Proofs
open Go.Shelf Go.RowKit Go.Lib Go.Sort
theorem step_k (x y : List Int) (W : World) (hx : x.length = 2) (hy : y.length = 2) : Calls Tryz.prog 118 #[.agg (x.map (Value.int .i64)).toArray, .agg (y.map (Value.int .i64)).toArray] W fun e w' => e = .returned (.int .i64 (Lib.compareInt (x.getD 0 0) (y.getD 0 0))) ∧ ∃ q os', w' = Go.Sort.grow (W.drewN q) os' := by
 obtain ⟨x0, x1, rfl⟩ : ∃ a b, x = [a, b] := by
  match x, hx with
  | [a, b], _ => exact ⟨a, b, rfl⟩
 obtain ⟨y0, y1, rfl⟩ : ∃ a b, y = [a, b] := by
  match y, hy with
  | [a, b], _ => exact ⟨a, b, rfl⟩
 have hcon := fun W' => AnyG.cmp_Compare_int Tryz.cmpInt x0 y0 W'
 change ∀ W', Calls Tryz.prog 119 _ _ _ at hcon
 change Calls Tryz.prog 118 #[.agg #[.int .i64 x0, .int .i64 x1], .agg #[.int .i64 y0, .int .i64 y1]] W fun e w' => e = .returned (.int .i64 (Lib.compareInt x0 y0)) ∧ ∃ q os', w' = Go.Sort.grow (W.drewN q) os'
 generalize Lib.compareInt x0 y0 = r at hcon ⊢
 go_enter Tryz.func118, Tryz.ntmps118
 go_wp2_with (go_at_call 119; refine (hcon _).mono ?_; rintro e w' ⟨rfl, rfl⟩)
 go_ret
 exact ⟨rfl, 0, _, by rw [alloc_eq_grow, alloc_eq_grow, grow_grow]; rfl⟩
end Go.Proofs

namespace Go.Proofs
open Go Go.Tr Go.Shelf
def cfS (x y : List Int) : Int := Lib.compareInt (x.getD 0 0) (y.getD 0 0)
theorem sortStep_c : SortC Tryz.prog 117 118 2 (Parts2 cfS) (fun zs => zs.mergeSort fun x y => !decide (cfS y x < 0)) :=
 SortC.of Tryz.sortStep (by omega) (fun w => by kernel_rfl) (fun w => by kernel_rfl) cfS 118 (enters_of Tryz.func118 (by kernel_rfl) rfl) (fun x y W hx hy => step_k x y W hx hy)
theorem cmpI_lt (x y : Int) : Lib.compareInt x y < 0 ↔ x < y := by
 unfold Lib.compareInt
 split <;> (try split) <;> omega
theorem cfS_lt (x y : List Int) : cfS x y < 0 ↔ x.getD 0 0 < y.getD 0 0 := cmpI_lt _ _
theorem parts_cfS {zs : List (List Int)} (h : zs.Pairwise fun x y => x.getD 0 0 < y.getD 0 0) : Parts2 cfS zs :=
 ⟨fun x _ => by rw [cfS_lt]; omega, fun x _ y _ z _ => by rw [cfS_lt, cfS_lt, cfS_lt]; omega, fun x _ y _ z _ => by rw [cfS_lt, cfS_lt, cfS_lt]; omega,
  fun x hx y hy => by
   rw [cfS_lt, cfS_lt]
   intro h1 h2
   have e : x.getD 0 0 = y.getD 0 0 := by omega
   obtain ⟨i, hi, rfl⟩ := List.mem_iff_getElem.1 hx
   obtain ⟨j, hj, rfl⟩ := List.mem_iff_getElem.1 hy
   have hp := List.pairwise_iff_getElem.1 h
   rcases Nat.lt_trichotomy i j with g | g | g
   ·have := hp i j hi hj g; omega
   ·subst g; rfl
   ·have := hp j i hj hi g; omega⟩
theorem sort_cfS {zs : List (List Int)} (h : zs.Pairwise fun x y => x.getD 0 0 < y.getD 0 0) : (zs.mergeSort fun x y => !decide (cfS y x < 0)) = zs := by
 refine List.mergeSort_of_pairwise (h.imp fun {x y} hxy => ?_)
 rw [Bool.not_eq_true', decide_eq_false_iff_not, cfS_lt]
 omega
end Go.Proofs

set_option maxHeartbeats 16000000
namespace Go.Proofs
open Go Go.Tr
def rid (rs : List Rt) (i : Nat) : Int := (rs.getD i ⟨0, false⟩).id
def ridK (rs : List Rt) (i : Nat) : List Int := [rid rs i]
def stR (l : IM) : List (List D) := l.map fun x => [.int .i64 x.1, .int .i64 x.2]
@[simp] theorem stR_len (l : IM) : (stR l).length = l.length := by simp [stR]
theorem rid_inj {rs : List Rt} (nd : (rs.map Rt.id).Nodup) {i j : Nat} (hi : i < rs.length) (hj : j < rs.length) (h : rid rs i = rid rs j) : i = j := by
 unfold rid at h
 rw [List.getD_eq_getElem?_getD, List.getD_eq_getElem?_getD, List.getElem?_eq_getElem hi, List.getElem?_eq_getElem hj] at h
 simp only [Option.getD_some] at h
 have h2 := List.pairwise_iff_getElem.1 (List.nodup_iff_pairwise_ne.1 nd)
 rcases Nat.lt_trichotomy i j with e | e | e
 ·exact absurd (by rw [List.getElem_map, List.getElem_map]; exact h) (h2 i j (by simpa using hi) (by simpa using hj) e)
 ·exact e
 ·exact absurd (by rw [List.getElem_map, List.getElem_map]; exact h.symm) (h2 j i (by simpa using hj) (by simpa using hi) e)
theorem rid_of {rs : List Rt} {v : Int} (h : v ∈ rs.map Rt.id) : ∃ i, i < rs.length ∧ rid rs i = v := by
 obtain ⟨r, hr, rfl⟩ := List.mem_map.1 h
 obtain ⟨i, hi, rfl⟩ := List.mem_iff_getElem.1 hr
 exact ⟨i, hi, by simp [rid, hi]⟩
theorem klen_mapF (n b : Nat) (rs : List Rt) (f : Nat → Nat) : klen 1 (mapF n b (ridK rs) f) := fun y hy => by
 obtain ⟨i, hi, rfl⟩ := List.mem_map.1 hy
 rfl
theorem ouL_snoc (ls : List Lk) (x : Lk) (v : Int) : ouL (ls ++ [x]) v = ouL ls v ++ ((if x.a = v then [(x.b, x.ca)] else []) ++ (if x.b = v then [(x.a, x.cb)] else [])) := by
 simp [ouL]
theorem inL_snoc (ls : List Lk) (x : Lk) (v : Int) : inL (ls ++ [x]) v = inL ls v ++ ((if x.b = v then [(x.a, x.ca)] else []) ++ (if x.a = v then [(x.b, x.cb)] else [])) := by
 simp [inL]
theorem ouL_le (v : Int) : ∀ ls : List Lk, (ouL ls v).length ≤ 2 * ls.length
 | [] => by simp [ouL]
 | x :: ls => by
   have h := ouL_le v ls
   rw [ouL, List.flatMap_cons, List.length_append, List.length_append, ← ouL, List.length_cons]
   split <;> split <;> simp only [List.length_cons, List.length_nil] <;> omega
theorem inL_le (v : Int) : ∀ ls : List Lk, (inL ls v).length ≤ 2 * ls.length
 | [] => by simp [inL]
 | x :: ls => by
   have h := inL_le v ls
   rw [inL, List.flatMap_cons, List.length_append, List.length_append, ← inL, List.length_cons]
   split <;> split <;> simp only [List.length_cons, List.length_nil] <;> omega
theorem range_rid {α : Type} {rs : List Rt} (F : Int → α) : (List.range rs.length).map (fun i => F (rid rs i)) = rs.map fun x => F x.id := by
 refine List.ext_getElem (by simp) fun i h1 h2 => ?_
 simp only [List.length_map, List.length_range] at h1
 simp [rid, h1]
theorem read_c (g : Topo) (hn : g.rs.length ≤ 256) (hl : g.ls.length ≤ 1024) (nd : (g.rs.map Rt.id).Nodup) (he : ∀ x ∈ g.ls, x.a ∈ g.rs.map Rt.id ∧ x.b ∈ g.rs.map Rt.id) (hab : ∀ x ∈ g.ls, x.a ≠ x.b) (hpw : ∀ v, (ouL g.ls v).Pairwise fun a b => a.1 < b.1) : Contract Tryz.prog 66 [topT g] [] (.agg [.d (.mp (g.rs.map fun x => [x.id]) (g.rs.map fun x => .sl (stR (ouL g.ls x.id)))), .d (.mp (g.rs.map fun x => [x.id]) (g.rs.map fun x => .sl (stR (inL g.ls x.id))))]) [] [] := by
 refine contract_of Tryz.func66 rfl (fun E0 => ?_)
 refine awp.sound (g := .mk) (ow := [3000009, 3000010, 1000117]) (kp := (fun k => k==0||k==1||k==2||k==3||k==5||k==7||k==8||k==13||k==14||k==15||k==16||k==29||k==30||k==31||k==32||k==102||k==104)) ?_
 rw [Tryz.ntmps66]
 simp -dsimp [topT]
 and_intros
 all_goals try first | omega | exact ⟨by kernel_rfl⟩ | rfl
 refine ALoop.of [3000009, 3000010, 1000117] (fun k => k==0||k==1||k==2||k==3||k==5||k==7||k==8||k==13||k==14||k==15||k==16||k==29||k==30||k==31||k==32||k==102||k==104) (ι := { z : Nat × (Nat × Option (List Int)) × Nat × Option (List Int) // z.1 ≤ g.rs.length })
  (fun z => fam 9000 z.1.1 (fun _ => It.row 132 2 [] false) (fam 19000 z.1.1 (fun _ => It.row 132 2 [] false) [(Pl.o 1, It.box [TV.d (.sl (rts g.rs)), TV.d (.sl (lks g.ls))]), (Pl.s 1, It.v (.ptr (Pl.o 1) 0)),
    (Pl.o 2, It.box [TV.c (Value.map none), TV.c (Value.map none)]), (Pl.s 2, It.v (.ptr (Pl.o 2) 0)),
    (Pl.o 9, It.mpk (mapF z.1.1 9000 (ridK g.rs) fun _ => 0) z.1.2.1.1 z.1.2.1.2 none), (Pl.o 10, It.mpk (mapF z.1.1 19000 (ridK g.rs) fun _ => 0) z.1.2.2.1 z.1.2.2.2 none), (Pl.o 3, It.box [TV.mref 9, TV.mref 10]),
    (Pl.s 3, It.v (.ptr (Pl.o 3) 0)), (Pl.s 13, It.v (.d (.sl (rts g.rs)))),
    (Pl.s 14, It.v (.d (.int .i64 ↑g.rs.length))), (Pl.s 15, It.v (.d (.int .i64 z.1.1)))]))
  (fun z => g.rs.length - z.1.1) ⟨(0, (0, none), 0, none), by omega⟩ ?_ ?_
 ·exact GS.to (by simp [fam_zero, mapF])
 ·rintro ⟨⟨i, ⟨c1, p1⟩, c2, p2⟩, i1⟩
  simp only at i1
  by_cases hi : i < g.rs.length
  ·have hiz : (i : Int) < g.rs.length := by omega
   have hgi : g.rs[i]? = some g.rs[i] := List.getElem?_eq_getElem hi
   have hid : g.rs[i].id = rid g.rs i := by simp [rid, hi]
   have hkn := fun b f v => mapF_new (n := i) (b := b) (f := f) (k := ridK g.rs) (fun j hj e => by have := rid_inj nd (i := j) (j := i) (by omega) hi (by simpa [ridK] using e); omega) v
   simp only [ridK] at hkn
   generalize g.rs[i] = y at hgi hid
   have w1 : IntKind.i64.wrap ((i : Int) + 1) = (i : Int) + 1 := wrap_i64 (by omega) (by omega)
   have ei : i ≤ 10000 := by omega
   simp -dsimp [hiz, rts, hgi, hid, hkn, Rt.cs, w1]
   refine ⟨klen_mapF _ _ _ _, klen_mapF _ _ _ _, ⟨⟨(i + 1, (c1, none), c2, none), by omega⟩, ?_, by simp; omega⟩, ?_⟩
   ·refine GS.grow2 (i := i) (k := ridK g.rs) (c0 := c1) (c1 := c2) (pd0 := none) (pd1 := none) (s0 := none) (s1 := none) 9 10 9000 19000 132 2 (by simp [ridK]) (by simp [ridK]) (by simp (disch := omega) [fam_ne, ne_fam]) (by simp (disch := omega) [fam_ne, ne_fam]) (by decide) (by omega) (by omega) (by omega) (by omega) (by omega) ?_
    refine ⟨Sub.fam2 (n := i + 1) (m := i + 1) (by omega) (fun j hj => ?_) (fun j hj => ?_) ?_ ?_ ?_ ?_, ?_⟩
    ·rcases (by omega : j < i ∨ j = i) with h | h
     ·simp (disch := omega) [fam_ne, ne_fam, h]
     ·subst h; simp (disch := omega) [fam_ne, ne_fam]
    ·rcases (by omega : j < i ∨ j = i) with h | h
     ·simp (disch := omega) [fam_ne, ne_fam, h]
     ·subst h; simp (disch := omega) [fam_ne, ne_fam]
    ·simp (disch := omega) [fam_ne, ne_fam, rts]
    ·simp
    ·simp
    ·simp (disch := omega)
     exact ⟨fun j hj => by omega, fun j hj => by omega⟩
    ·simp (disch := omega) [fam_ne, ne_fam]
   ·exact ⟨by kernel_rfl⟩
  ·have hiz : ¬ (i : Int) < g.rs.length := by omega
   obtain rfl : i = g.rs.length := by omega
   simp -dsimp [hiz]
   and_intros
   all_goals try first | omega | exact ⟨by kernel_rfl⟩ | rfl
   refine ALoop.of [3000009, 3000010, 1000117] (fun k => k==0||k==1||k==2||k==3||k==5||k==7||k==8||k==13||k==14||k==15||k==16||k==29||k==30||k==31||k==32||k==102||k==104) (ι := { z : Nat × (Nat × Option (List Int)) × Nat × Option (List Int) // z.1 ≤ g.ls.length })
    (fun z => fam 9000 g.rs.length (fun j => It.row 132 2 (dd (stR (ouL (g.ls.take z.1.1) (rid g.rs j)))) false) (fam 19000 g.rs.length (fun j => It.row 132 2 (dd (stR (inL (g.ls.take z.1.1) (rid g.rs j)))) false) [
      (Pl.o 2, It.box [TV.c (Value.map none), TV.c (Value.map none)]), (Pl.s 2, It.v (.ptr (Pl.o 2) 0)),
      (Pl.o 9, It.mpk (mapF g.rs.length 9000 (ridK g.rs) fun j => (ouL (g.ls.take z.1.1) (rid g.rs j)).length) z.1.2.1.1 z.1.2.1.2 none), (Pl.o 10, It.mpk (mapF g.rs.length 19000 (ridK g.rs) fun j => (inL (g.ls.take z.1.1) (rid g.rs j)).length) z.1.2.2.1 z.1.2.2.2 none), (Pl.o 3, It.box [TV.mref 9, TV.mref 10]),
      (Pl.s 3, It.v (.ptr (Pl.o 3) 0)), (Pl.s 29, It.v (.d (.sl (lks g.ls)))),
      (Pl.s 30, It.v (.d (.int .i64 ↑g.ls.length))), (Pl.s 31, It.v (.d (.int .i64 z.1.1)))]))
    (fun z => g.ls.length - z.1.1) ⟨(0, (c1, p1), c2, p2), by omega⟩ ?_ ?_
   ·refine GS.to ⟨Sub.fam2 (n := g.rs.length) (m := g.rs.length) (by omega) (fun j hj => ?_) (fun j hj => ?_) ?_ ?_ ?_ ?_, ?_⟩
    ·simp (disch := omega) [fam_ne, ne_fam, hj, ouL, stR]
    ·simp (disch := omega) [fam_ne, ne_fam, hj, inL, stR]
    ·simp (disch := omega) [fam_ne, ne_fam, lks, ouL, inL]
    ·simp
    ·simp
    ·simp (disch := omega)
     exact ⟨fun j hj => by omega, fun j hj => by omega⟩
    ·simp (disch := omega) [fam_ne, ne_fam]
   ·rintro ⟨⟨k, ⟨c1, p1⟩, c2, p2⟩, k1⟩
    simp only at k1
    by_cases hk : k < g.ls.length
    ·have hkz : (k : Int) < g.ls.length := by omega
     have hgk : g.ls[k]? = some g.ls[k] := List.getElem?_eq_getElem hk
     have hx := he g.ls[k] (List.getElem_mem hk)
     have hab := hab g.ls[k] (List.getElem_mem hk)
     have htk : g.ls.take (k + 1) = g.ls.take k ++ [g.ls[k]] := by rw [List.take_add_one, hgk]; rfl
     obtain ⟨x, ex⟩ : ∃ x, g.ls[k] = x := ⟨_, rfl⟩
     rw [ex] at hgk hx hab htk
     obtain ⟨ia, hia, ea⟩ := rid_of hx.1
     obtain ⟨ib, hib, eb⟩ := rid_of hx.2
     have hne : ia ≠ ib := fun e => hab (by rw [← ea, ← eb, e])
     have hne' : ib ≠ ia := fun e => hne e.symm
     have hinj : ∀ i j, i < g.rs.length → j < g.rs.length → ridK g.rs i = ridK g.rs j → i = j := fun i j hi hj e => rid_inj nd hi hj (by simpa [ridK] using e)
     have hga : ∀ b f, kget (mapF g.rs.length b (ridK g.rs) f) [x.a] = some (.oref (b + ia) (f ia)) := fun b f => by rw [← ea]; exact mapF_get hinj hia
     have hgb : ∀ b f, kget (mapF g.rs.length b (ridK g.rs) f) [x.b] = some (.oref (b + ib) (f ib)) := fun b f => by rw [← eb]; exact mapF_get hinj hib
     have hpa : ∀ b f m, kput (mapF g.rs.length b (ridK g.rs) f) [x.a] (.oref (b + ia) m) = mapF g.rs.length b (ridK g.rs) (fun j => if j = ia then m else f j) := fun b f m => by rw [← ea]; exact mapF_put hinj hia
     have hpb : ∀ b f m, kput (mapF g.rs.length b (ridK g.rs) f) [x.b] (.oref (b + ib) m) = mapF g.rs.length b (ridK g.rs) (fun j => if j = ib then m else f j) := fun b f m => by rw [← eb]; exact mapF_put hinj hib
     have w1 : IntKind.i64.wrap ((k : Int) + 1) = (k : Int) + 1 := wrap_i64 (by omega) (by omega)
     have da1 : 9000 + g.rs.length ≤ 19000 + ia := by omega
     have da2 : g.rs.length ≤ 10000 + ia := by omega
     have db1 : 9000 + g.rs.length ≤ 19000 + ib := by omega
     have db2 : g.rs.length ≤ 10000 + ib := by omega
     simp -dsimp (maxSteps := 1000000) [hkz, lks, hgk, ex, Lk.cs, w1, hga, hgb, hpa, hpb, hia, hib, hne, hne', klen_mapF, fam_ne, ne_fam, da1, da2, db1, db2]
     have hrid : ∀ j, j < g.rs.length → (x.a = rid g.rs j ↔ j = ia) ∧ (x.b = rid g.rs j ↔ j = ib) := fun j hj => by
      rw [← ea, ← eb]
      exact ⟨⟨fun e => (rid_inj nd hia hj e).symm, fun e => by rw [e]⟩, ⟨fun e => (rid_inj nd hib hj e).symm, fun e => by rw [e]⟩⟩
     have hO : ∀ j, j < g.rs.length → ouL (g.ls.take (k + 1)) (rid g.rs j) = if j = ib then ouL (g.ls.take k) (rid g.rs ib) ++ [(x.a, x.cb)] else if j = ia then ouL (g.ls.take k) (rid g.rs ia) ++ [(x.b, x.ca)] else ouL (g.ls.take k) (rid g.rs j) := fun j hj => by
      obtain ⟨r1, r2⟩ := hrid j hj
      rw [htk, ouL_snoc]
      by_cases h1 : j = ib
      ·have h2 : j ≠ ia := fun e => hne (e.symm.trans h1)
       rw [if_neg (fun e => h2 (r1.1 e)), if_pos (r2.2 h1), if_pos h1, h1]; rfl
      ·rw [if_neg (fun e => h1 (r2.1 e)), if_neg h1]
       by_cases h2 : j = ia
       ·rw [if_pos (r1.2 h2), if_pos h2, h2]; rfl
       ·rw [if_neg (fun e => h2 (r1.1 e)), if_neg h2]; simp
     have hI : ∀ j, j < g.rs.length → inL (g.ls.take (k + 1)) (rid g.rs j) = if j = ia then inL (g.ls.take k) (rid g.rs ia) ++ [(x.b, x.cb)] else if j = ib then inL (g.ls.take k) (rid g.rs ib) ++ [(x.a, x.ca)] else inL (g.ls.take k) (rid g.rs j) := fun j hj => by
      obtain ⟨r1, r2⟩ := hrid j hj
      rw [htk, inL_snoc]
      by_cases h1 : j = ia
      ·have h2 : j ≠ ib := fun e => hne (h1.symm.trans e)
       rw [if_neg (fun e => h2 (r2.1 e)), if_pos (r1.2 h1), if_pos h1, h1]; rfl
      ·rw [if_neg (fun e => h1 (r1.1 e)), if_neg h1]
       by_cases h2 : j = ib
       ·rw [if_pos (r2.2 h2), if_pos h2, h2]; rfl
       ·rw [if_neg (fun e => h2 (r2.1 e)), if_neg h2]; simp
     have hMO : (mapF g.rs.length 9000 (ridK g.rs) fun j => (ouL (g.ls.take (k + 1)) (rid g.rs j)).length) = mapF g.rs.length 9000 (ridK g.rs) fun j => if j = ib then (ouL (g.ls.take k) (rid g.rs ib)).length + 1 else if j = ia then (ouL (g.ls.take k) (rid g.rs ia)).length + 1 else (ouL (g.ls.take k) (rid g.rs j)).length :=
      mapF_congr fun j hj => by rw [hO j hj]; split <;> try split
                                all_goals simp
     have hMI : (mapF g.rs.length 19000 (ridK g.rs) fun j => (inL (g.ls.take (k + 1)) (rid g.rs j)).length) = mapF g.rs.length 19000 (ridK g.rs) fun j => if j = ia then (inL (g.ls.take k) (rid g.rs ia)).length + 1 else if j = ib then (inL (g.ls.take k) (rid g.rs ib)).length + 1 else (inL (g.ls.take k) (rid g.rs j)).length :=
      mapF_congr fun j hj => by rw [hI j hj]; split <;> try split
                                all_goals simp
     have lk := List.length_take_le k g.ls
     have l1 := ouL_le (rid g.rs ia) (g.ls.take k)
     have l2 := ouL_le (rid g.rs ib) (g.ls.take k)
     have l3 := inL_le (rid g.rs ia) (g.ls.take k)
     have l4 := inL_le (rid g.rs ib) (g.ls.take k)
     refine ⟨by omega, by omega, by omega, by omega, by omega, by omega, by omega, by omega, ⟨⟨(k + 1, (c1, none), c2, none), by omega⟩, ?_, by simp; omega⟩, ?_, ?_, ?_, ?_⟩
     ·refine GS.to ⟨Sub.fam2 (n := g.rs.length) (m := g.rs.length) (by omega) (fun j hj => ?_) (fun j hj => ?_) ?_ ?_ ?_ ?_, ?_⟩
      ·simp [hj, hO j hj]
       split <;> try split
       all_goals simp [stR, dd]
      ·have e1 : 9000 + g.rs.length ≤ 19000 + j := by omega
       have e2 : g.rs.length ≤ 10000 + j := by omega
       simp [hj, hI j hj, e1, e2]
       split <;> try split
       all_goals simp [stR, dd]
      ·simp [lks, hMO, hMI]
      ·simp
      ·simp
      ·simp
       exact ⟨fun j hj => by omega, fun j hj => by omega⟩
      ·simp
     ·refine ADraw.ren (fun p => if p = .o (19000 + ia) then .o 9000 else p) ?_
      conv => lhs; arg 2; simp [renP2, fam_ne, ne_fam]
      kernel_rfl
     ·refine ADraw.ren (fun p => if p = .o (19000 + ib) then .o 9000 else p) ?_
      conv => lhs; arg 2; simp [renP2, fam_ne, ne_fam]
      kernel_rfl
     ·refine ADraw.ren (fun p => if p = .o (9000 + ib) then .o 9000 else p) ?_
      conv => lhs; arg 2; simp [renP2, fam_ne, ne_fam]
      kernel_rfl
     ·refine ADraw.ren (fun p => if p = .o (9000 + ia) then .o 9000 else p) ?_
      conv => lhs; arg 2; simp [renP2, fam_ne, ne_fam]
      kernel_rfl
    ·have hkz : ¬ (k : Int) < g.ls.length := by omega
     obtain rfl : k = g.ls.length := by omega
     rw [List.take_length]
     simp -dsimp [hkz]
     refine ANon.range ?_
     simp -dsimp [ANo_some, rangeO]
     intro sn
     refine ALoop.of [3000009, 3000010, 1000117] (fun k => k==0||k==1||k==2||k==3||k==5||k==7||k==8||k==13||k==14||k==15||k==16||k==29||k==30||k==31||k==32||k==102||k==104) (ι := { z : List (List Int) × Option (List Int) // ∀ k ∈ z.1, ∃ i, i < g.rs.length ∧ k = [rid g.rs i] })
      (fun z => fam 9000 g.rs.length (fun j => It.row 132 2 (dd (stR (ouL g.ls (rid g.rs j)))) false) (fam 19000 g.rs.length (fun j => It.row 132 2 (dd (stR (inL g.ls (rid g.rs j)))) false) [
        (Pl.o 2, It.box [TV.c (Value.map none), TV.c (Value.map none)]), (Pl.s 2, It.v (.ptr (Pl.o 2) 0)),
        (Pl.o 9, It.mpk (mapF g.rs.length 9000 (ridK g.rs) fun j => (ouL g.ls (rid g.rs j)).length) c1 p1 (some sn)), (Pl.o 10, It.mpk (mapF g.rs.length 19000 (ridK g.rs) fun j => (inL g.ls (rid g.rs j)).length) c2 p2 none), (Pl.o 3, It.box [TV.mref 9, TV.mref 10]),
        (Pl.s 3, It.v (.ptr (Pl.o 3) 0)), (Pl.s 102, It.v (.ptr (Pl.o 102) 0)), (Pl.o 102, It.mit 9 sn z.1.1 z.1.2)]))
      (fun z => z.1.1.length) ⟨((mapF g.rs.length 9000 (ridK g.rs) fun j => (ouL g.ls (rid g.rs j)).length).map (·.1), none), fun k hk => ?_⟩ ?_ ?_
     ·simp only [mapF, List.map_map, List.mem_map, List.mem_range] at hk
      obtain ⟨i, hi, rfl⟩ := hk
      exact ⟨i, hi, rfl⟩
     ·refine GS.to ⟨Sub.fam2 (n := g.rs.length) (m := g.rs.length) (by omega) (fun j hj => ?_) (fun j hj => ?_) ?_ ?_ ?_ ?_, ?_⟩
      ·simp [hj]
      ·have e1 : 9000 + g.rs.length ≤ 19000 + j := by omega
       have e2 : g.rs.length ≤ 10000 + j := by omega
       simp [hj, e1, e2]
      ·simp
      ·simp
      ·simp
      ·simp
       exact ⟨fun j hj => by omega, fun j hj => by omega⟩
      ·simp
     ·rintro ⟨⟨left, cur⟩, j1⟩
      simp only at j1
      simp -dsimp
      refine ANon.next ?_
      simp -dsimp [nextO]
      refine ⟨fun hl0 => ?_, fun x hx => ?_⟩
      ·subst hl0
       refine Fin.ghost (t' := Tr.look [(Pl.o 9, It.mpk ((List.range g.rs.length).map fun i => (ridK g.rs i, TV.d (.sl (stR (ouL g.ls (rid g.rs i)))))) c1 p1 (some sn)), (Pl.o 10, It.mpk ((List.range g.rs.length).map fun i => (ridK g.rs i, TV.d (.sl (stR (inL g.ls (rid g.rs i)))))) c2 p2 none), (Pl.o 2, It.box [TV.mref 9, TV.mref 10]), (Pl.s 2, It.v (.ptr (Pl.o 2) 0))]) ?_
        ((GS.seeAll (id0 := 9) (b := 9000) (n := g.rs.length) (e := 132) (z := 2) (k := ridK g.rs) (xs := fun j => stR (ouL g.ls (rid g.rs j))) (c := c1) (pd := p1) (s := some sn) (by simp) (fun i hi => by simp [hi]) (by omega)).trans
          ((GS.seeAll (id0 := 10) (b := 19000) (n := g.rs.length) (e := 132) (z := 2) (k := ridK g.rs) (xs := fun j => stR (inL g.ls (rid g.rs j))) (c := c2) (pd := p2) (s := none) ?_ (fun i hi => ?_) (by omega)).trans (GS.forgetF ⟨?_, ?_⟩ ?_)))
       ·have eO : ((List.range g.rs.length).map fun i => (ridK g.rs i, TV.d (.sl (stR (ouL g.ls (rid g.rs i)))))) = (g.rs.map fun x => ([x.id], D.sl (stR (ouL g.ls x.id)))).map fun x => (x.1, TV.d x.2) := by
         exact (range_rid (rs := g.rs) (fun v => ([v], TV.d (.sl (stR (ouL g.ls v)))))).trans (by rw [List.map_map]; rfl)
        have eI : ((List.range g.rs.length).map fun i => (ridK g.rs i, TV.d (.sl (stR (inL g.ls (rid g.rs i)))))) = (g.rs.map fun x => ([x.id], D.sl (stR (inL g.ls x.id)))).map fun x => (x.1, TV.d x.2) := by
         exact (range_rid (rs := g.rs) (fun v => ([v], TV.d (.sl (stR (inL g.ls v)))))).trans (by rw [List.map_map]; rfl)
        rw [eO, eI]
        refine Fin.frz 9 (g.rs.map fun x => ([x.id], D.sl (stR (ouL g.ls x.id)))) rfl ?_
        simp
        refine Fin.frz 10 (g.rs.map fun x => ([x.id], D.sl (stR (inL g.ls x.id)))) (c := c2) (pd := p2) (s := none) (by simp) ?_
        simp
        refine Fin.of ?_
        simp [frzV]
       ·rw [seeN_not (by omega) (by omega)]; simp
       ·rw [seeN_not (by omega) (by omega)]
        have e1 : 9000 + g.rs.length ≤ 19000 + i := by omega
        have e2 : g.rs.length ≤ 10000 + i := by omega
        simp [hi, e1, e2]
       ·simp only [List.forall_mem_cons, List.not_mem_nil, false_imp_iff, implies_true, and_true]
        refine ⟨?_, ?_, ?_, ?_⟩
        ·rw [seeN_not (by omega) (by omega), seeN_map]; simp
        ·rw [seeN_map]; simp
        ·rw [seeN_not (by omega) (by omega), seeN_not (by omega) (by omega)]; simp
        ·rw [seeN_s, seeN_s]; simp
       ·simp
       ·intro i
        rw [seeN_x, seeN_x]; simp
      ·obtain ⟨ia, hia, rfl⟩ := j1 x hx
       have hinj : ∀ i j, i < g.rs.length → j < g.rs.length → ridK g.rs i = ridK g.rs j → i = j := fun i j hi hj e => rid_inj nd hi hj (by simpa [ridK] using e)
       have hga : ∀ b f, kget (mapF g.rs.length b (ridK g.rs) f) [rid g.rs ia] = some (.oref (b + ia) (f ia)) := fun b f => mapF_get hinj hia
       simp -dsimp [hia, hga, klen_mapF, fam_ne, ne_fam]
       have hpw := hpw (rid g.rs ia)
       have hle := ouL_le (rid g.rs ia) g.ls
       obtain ⟨zs, hzs⟩ : ∃ zs, zs = (ouL g.ls (rid g.rs ia)).map fun x => [x.1, x.2] := ⟨_, rfl⟩
       have hR : dd (stR (ouL g.ls (rid g.rs ia))) = dd (irow zs) := by rw [hzs]; simp [stR, irow, dd]
       have hpz : zs.Pairwise fun x y => x.getD 0 0 < y.getD 0 0 := by
        rw [hzs, List.pairwise_map]
        exact hpw.imp fun {a b} h => by simpa using h
       have hlz : zs.length = (ouL g.ls (rid g.rs ia)).length := by rw [hzs, List.length_map]
       have hpre := parts_cfS hpz
       have hS := sort_cfS hpz
       refine ACall.sortF sortStep_c zs ?_
       simp -dsimp [hia, hR, hlz, hpre, hS]
       refine ⟨by omega, ⟨(left.erase [rid g.rs ia], some [rid g.rs ia]), fun y hy => j1 y (List.mem_of_mem_erase hy)⟩, GS.to ⟨Sub.fam2 (n := g.rs.length) (m := g.rs.length) (by omega) (fun j hj => ?_) (fun j hj => ?_) ?_ ?_ ?_ ?_, ?_⟩, ?_⟩
       ·simp [hj]
        intro e
        rw [e, hR]
       ·have e1 : 9000 + g.rs.length ≤ 19000 + j := by omega
        have e2 : g.rs.length ≤ 10000 + j := by omega
        simp [hj, e1, e2]
       ·simp
       ·simp
       ·simp
       ·simp
        exact ⟨fun j hj => by omega, fun j hj => by omega⟩
       ·simp
       ·simp only [List.length_erase_of_mem hx]
        have := List.length_pos_of_mem hx
        omega
def inB (n lo hi : Int) : Bool := decide (lo ≤ n) && decide (n ≤ hi)
theorem inside10_c (n lo hi : Int) : Contract Tryz.prog 110 [.d (.int .i64 n), .d (.int .i64 lo), .d (.int .i64 hi)] [] (.d (.bool (inB n lo hi))) [] [] := by
 refine contract_of Tryz.func110 rfl (fun E0 => ?_)
 refine awp.sound (g := .mk) (ow := []) (kp := (fun k => k==0||k==1||k==2||k==6)) ?_
 rw [Tryz.ntmps110]
 by_cases h : lo ≤ n
 ·simp -dsimp [h]
  refine Fin.of ?_
  simp [inB, h]
 ·simp -dsimp [h]
  refine Fin.of ?_
  simp [inB, h]
theorem in10_c (n lo hi : Int) : Contract Tryz.prog 103 [.d (.int .i64 n), .d (.int .i64 lo), .d (.int .i64 hi)] [] (.d (.bool (inB n lo hi))) [] [] := by
 refine contract_of Tryz.func103 rfl (fun E0 => ?_)
 refine awp.sound (g := .mk) (ow := []) (kp := (fun k => k==0||k==1||k==2||k==6)) ?_
 rw [Tryz.ntmps103]
 by_cases h : lo ≤ n
 ·simp -dsimp [h]
  refine Fin.of ?_
  simp [inB, h]
 ·simp -dsimp [h]
  refine Fin.of ?_
  simp [inB, h]
open Classical in
noncomputable def repB (l : List Int) : Bool := decide (∃ i j, j < i ∧ i < l.length ∧ l.getD i 0 = l.getD j 0)
theorem repB_true {l : List Int} {i j : Nat} (h1 : j < i) (h2 : i < l.length) (h3 : l.getD i 0 = l.getD j 0) : repB l = true := by
 simp only [repB, decide_eq_true_eq]
 exact ⟨i, j, h1, h2, h3⟩
theorem repB_false {l : List Int} (h : ∀ i j, j < i → i < l.length → l.getD i 0 ≠ l.getD j 0) : repB l = false := by
 simp only [repB, decide_eq_false_iff_not]
 rintro ⟨i, j, h1, h2, h3⟩
 exact h i j h1 h2 h3
theorem repeats_c (l : List Int) (hl : l.length ≤ 100000) : Contract Tryz.prog 111 [.d (ints l)] [] (.d (.bool (repB l))) [] [] := by
 refine contract_of Tryz.func111 rfl (fun E0 => ?_)
 refine awp.sound (g := .mk) (ow := []) (kp := (fun k => k==0||k==2||k==3||k==4||k==8||k==13||k==24)) ?_
 rw [Tryz.ntmps111]
 simp -dsimp
 refine ALoop.of [] (fun k => k==0||k==2||k==3||k==4||k==8||k==13||k==24) (ι := { i : Nat // i ≤ l.length ∧ ∀ a b, b < a → a < i → l.getD a 0 ≠ l.getD b 0 }) (fun z => [(Pl.s 0, It.v (.d (ints l))), (Pl.s 3, It.v (.d (.int .i64 z.1)))]) (fun z => l.length - z.1) ⟨0, by omega, fun a b _ h => by omega⟩ ?_ ?_
 ·exact GS.to (by simp)
 ·rintro ⟨i, i1, i2⟩
  by_cases hi : i < l.length
  ·simp -dsimp [ints, hi]
   refine ALoop.of [] (fun k => k==0||k==2||k==3||k==4||k==8||k==13||k==24) (ι := { j : Nat // j ≤ i ∧ ∀ b, b < j → l.getD i 0 ≠ l.getD b 0 }) (fun z => [(Pl.s 0, It.v (.d (ints l))), (Pl.s 3, It.v (.d (.int .i64 i))), (Pl.s 4, It.v (.d (.int .i64 z.1)))]) (fun z => i - z.1) ⟨0, by omega, fun b h => by omega⟩ ?_ ?_
   ·exact GS.to (by simp [ints])
   ·rintro ⟨j, j1, j2⟩
    by_cases hj : j < i
    ·have hj2 : j < l.length := by omega
     have gi : l.getD i 0 = l[i] := by simp [List.getD, hi]
     have gj : l.getD j 0 = l[j] := by simp [List.getD, hj2]
     simp -dsimp [ints, hi, hj, hj2]
     refine ⟨AIf.dec (fun h => ?_) (fun h => ?_), ⟨by kernel_rfl⟩⟩
     ·simp -dsimp
      refine Fin.of ?_
      simp
      exact repB_true hj hi (by rw [gi, gj, h])
     ·simp -dsimp [wrap_i64 (n := (j : Int) + 1) (by omega) (by omega)]
      exact ⟨⟨j + 1, by omega, fun b hb => by
       by_cases e : b = j
       ·subst e; rw [gi, gj]; exact h
       ·exact j2 b (by omega)⟩, GS.to (by simp [ints]), by simp; omega⟩
    ·simp -dsimp [ints, hi, hj, wrap_i64 (n := (i : Int) + 1) (by omega) (by omega)]
     exact ⟨⟨i + 1, by omega, fun a b h1 h2 => by
      by_cases e : a = i
      ·subst e; exact j2 b (by omega)
      ·exact i2 a b h1 (by omega)⟩, GS.to (by simp [ints]), by simp; omega⟩
  ·simp -dsimp [ints, hi]
   refine Fin.of ?_
   simp
   exact repB_false fun a b h1 h2 => i2 a b h1 (by omega)
def gid (es : List Ed) (i : Nat) : Int := (es.getD i ⟨0, 0⟩).id
def grt (es : List Ed) (i : Nat) : Int := (es.getD i ⟨0, 0⟩).r
def baseB (p : Pn) : Bool := inB p.subd 0 7 && ((validLen p.len || (decide (p.len = 0) && decide (p.es.length = 0))) && decide (p.es.length ≤ 24))
def edB (es : List Ed) (i : Nat) : Bool := inB (gid es i) 1 256 && (inB (grt es i) 1 99 && (decide (i = 0) || decide (gid es (i - 1) < gid es i)))
open Classical in
noncomputable def planB (p : Pn) : Bool := decide (baseB p = true ∧ (∀ i, i < p.es.length → edB p.es i = true) ∧ ∀ i j, j < i → i < p.es.length → grt p.es i ≠ grt p.es j)
theorem planB_base {p : Pn} (h : baseB p = false) : planB p = false := by
 simp only [planB, decide_eq_false_iff_not]
 rintro ⟨h1, _⟩; rw [h] at h1; simp at h1
theorem planB_ed {p : Pn} {i : Nat} (hi : i < p.es.length) (h : edB p.es i = false) : planB p = false := by
 simp only [planB, decide_eq_false_iff_not]
 rintro ⟨_, h1, _⟩; have := h1 i hi; rw [h] at this; simp at this
theorem planB_rt {p : Pn} {i j : Nat} (hj : j < i) (hi : i < p.es.length) (h : grt p.es i = grt p.es j) : planB p = false := by
 simp only [planB, decide_eq_false_iff_not]
 rintro ⟨_, _, h1⟩; exact h1 i j hj hi h
theorem planB_ok {p : Pn} (h : baseB p = true) (h1 : ∀ i, i < p.es.length → edB p.es i = true) (h2 : ∀ i j, j < i → i < p.es.length → grt p.es i ≠ grt p.es j) : planB p = true := by
 simp only [planB, decide_eq_true_eq]
 exact ⟨h, h1, h2⟩
theorem planB_rep {p : Pn} (h : baseB p = true) (h1 : ∀ i, i < p.es.length → edB p.es i = true) : planB p = !(repB (p.es.map (·.r))) := by
 have hg : ∀ i, i < p.es.length → (p.es.map (·.r)).getD i 0 = grt p.es i := fun i hi => by simp [grt, List.getD, hi]
 by_cases h2 : ∀ i j, j < i → i < p.es.length → grt p.es i ≠ grt p.es j
 ·rw [planB_ok h h1 h2, repB_false fun i j hj hi => by simp at hi; rw [hg i hi, hg j (by omega)]; exact h2 i j hj hi]; rfl
 ·have : ∃ i j, j < i ∧ i < p.es.length ∧ grt p.es i = grt p.es j := Classical.byContradiction fun hc => h2 fun i j hj hi he => hc ⟨i, j, hj, hi, he⟩
  obtain ⟨i, j, hj, hi, he⟩ := this
  rw [planB_rt hj hi he, repB_true (l := p.es.map (·.r)) hj (by simpa using hi) (by rw [hg i hi, hg j (by omega)]; exact he)]; rfl
theorem validPlan10_c (p : Pn) (hp : p.es.length ≤ 1000) : Contract Tryz.prog 56 [planT p] [] (.d (.bool (planB p))) [] [] := by
 refine contract_of Tryz.func56 rfl (fun E0 => ?_)
 refine awp.sound (g := .mk) (ow := []) (kp := (fun k => k==0||k==1||k==2||k==3||k==4||k==5||k==32||k==37||k==70)) ?_
 rw [Tryz.ntmps56]
 simp -dsimp [planT]
 refine ACall.of (inside10_c p.subd 0 7) [] 0 ?_
 rcases (Bool.eq_false_or_eq_true (inB p.subd 0 7)).symm with a1 | a1
 ·simp -dsimp [a1]
  refine Fin.of ?_
  simp
  exact planB_base (by simp [baseB, a1])
 ·simp -dsimp [a1]
  refine ACall.of (validLength_c p.len) [] 0 ?_
  rcases (Bool.eq_false_or_eq_true (validLen p.len)).symm with a2 | a2
  ·by_cases a3 : p.len = 0
   ·by_cases a4 : p.es.length = 0
    ·have hb : baseB p = true := by simp [baseB, a1, a2, a3, a4, show validLen 0 = false from rfl]
     simp -dsimp [a1, a2, a3, a4, show validLen 0 = false from rfl]
     refine ALoop.of [] (fun k => k==0||k==1||k==2||k==3||k==4||k==5||k==32||k==37||k==70) (ι := { i : Nat // i ≤ p.es.length ∧ ∀ a, a < i → edB p.es a = true })
      (fun z => [(Pl.s 0, It.v (.agg [TV.d (.int .i64 p.subd), TV.d (.int .i64 p.len), TV.d (.sl (eds p.es))])), (Pl.o 1, It.box [TV.d (.int .i64 p.subd), TV.d (.int .i64 p.len), TV.d (.sl (eds p.es))]),
       (Pl.s 1, It.v (.ptr (Pl.o 1) 0)), (Pl.s 2, It.v (.d (.bool false))), (Pl.s 3, It.v (.oref 3 z.1)), (Pl.o 3, .row 3 1 (dd ((p.es.take z.1).map fun e => [.int .i64 e.r])) false), (Pl.s 4, It.v (.d (.int .i64 z.1)))])
      (fun z => p.es.length - z.1) ⟨0, by omega, fun a h => by omega⟩ ?_ ?_
     ·exact GS.own' (k := 3) 3 1 (by simp) (by simp) (by simp [a1, a2, a3, a4, show validLen 0 = false from rfl])
     ·rintro ⟨i, i1, i2⟩
      have hi : ¬ i < p.es.length := by omega
      obtain rfl : i = p.es.length := by omega
      simp -dsimp [hi]
      refine ACall.of (repeats_c (p.es.map (·.r)) (by simp; omega)) [] 0 ?_
      simp -dsimp [ints, List.map_map, Function.comp_def]
      refine Fin.of ?_
      simp [planB_rep hb i2]
    ·have a5 : 0 < p.es.length := by omega
     simp -dsimp [a1, a2, a3, a4, a5, show validLen 0 = false from rfl]
     refine Fin.of ?_
     simp
     exact planB_base (by simp [baseB, a1, a2, a3, a4, show validLen 0 = false from rfl])
   ·simp -dsimp [a1, a2, a3]
    refine Fin.of ?_
    simp
    exact planB_base (by simp [baseB, a1, a2, a3])
  ·by_cases a6 : p.es.length ≤ 24
   ·have a7 : ¬ (24 : Int) < p.es.length := by omega
    have hb : baseB p = true := by simp [baseB, a1, a2, a6]
    simp -dsimp [a1, a2, a7]
    refine ALoop.of [] (fun k => k==0||k==1||k==2||k==3||k==4||k==5||k==32||k==37||k==70) (ι := { i : Nat // i ≤ p.es.length ∧ ∀ a, a < i → edB p.es a = true })
     (fun z => [(Pl.s 0, It.v (.agg [TV.d (.int .i64 p.subd), TV.d (.int .i64 p.len), TV.d (.sl (eds p.es))])), (Pl.o 1, It.box [TV.d (.int .i64 p.subd), TV.d (.int .i64 p.len), TV.d (.sl (eds p.es))]),
      (Pl.s 1, It.v (.ptr (Pl.o 1) 0)), (Pl.s 2, It.v (.d (.bool false))), (Pl.s 3, It.v (.oref 3 z.1)), (Pl.o 3, .row 3 1 (dd ((p.es.take z.1).map fun e => [.int .i64 e.r])) false), (Pl.s 4, It.v (.d (.int .i64 z.1)))])
     (fun z => p.es.length - z.1) ⟨0, by omega, fun a h => by omega⟩ ?_ ?_
    ·exact GS.own' (k := 3) 3 1 (by simp) (by simp) (by simp [a1, a2])
    ·rintro ⟨i, i1, i2⟩
     by_cases hi : i < p.es.length
     ·obtain ⟨x, hx⟩ : ∃ x, p.es[i]? = some x := ⟨p.es[i], List.getElem?_eq_getElem hi⟩
      have gx : gid p.es i = x.id ∧ grt p.es i = x.r := by simp [gid, grt, List.getD, hx]
      simp -dsimp [hi, eds_get' hx, Ed.cs]
      refine ACall.of (inside10_c x.id 1 256) [] 0 ?_
      rcases (Bool.eq_false_or_eq_true (inB x.id 1 256)).symm with b1 | b1
      ·simp -dsimp [b1]
       refine ⟨?_, ⟨by kernel_rfl⟩⟩
       refine Fin.of ?_
       simp
       exact planB_ed hi (by simp [edB, gx, b1])
      ·simp -dsimp [b1]
       refine ACall.of (inside10_c x.r 1 99) [] 0 ?_
       rcases (Bool.eq_false_or_eq_true (inB x.r 1 99)).symm with b2 | b2
       ·simp -dsimp [b1, b2]
        refine ⟨?_, ⟨by kernel_rfl⟩⟩
        refine Fin.of ?_
        simp
        exact planB_ed hi (by simp [edB, gx, b1, b2])
       ·by_cases b3 : 0 < i
        ·obtain ⟨y, hy⟩ : ∃ y, p.es[i - 1]? = some y := ⟨p.es[i - 1], List.getElem?_eq_getElem (by omega)⟩
         have gy : gid p.es (i - 1) = y.id := by simp [gid, List.getD, hy]
         have b5 : (1 : Int) ≤ i := by omega
         have b6 : (i : Int) - 1 < p.es.length := by omega
         have b7 : i ≠ 0 := by omega
         by_cases b4 : x.id ≤ y.id
         ·simp -dsimp [b1, b2, b3, b4, b5, b6, eds_get hy, Ed.cs, wrap_i64 (n := (i : Int) - 1) (by omega) (by omega)]
          refine ⟨?_, ⟨by kernel_rfl⟩⟩
          refine Fin.of ?_
          simp
          exact planB_ed hi (by simp [edB, gx, gy, b1, b2, b7] <;> omega)
         ·simp -dsimp [b1, b2, b3, b4, b5, b6, eds_get hy, Ed.cs, wrap_i64 (n := (i : Int) - 1) (by omega) (by omega), wrap_i64 (n := (i : Int) + 1) (by omega) (by omega)]
          and_intros
          all_goals try first | omega | exact ⟨by kernel_rfl⟩
          exact ⟨⟨i + 1, by omega, fun a ha => by
           by_cases e : a = i
           ·subst e; simp [edB, gx, gy, b1, b2] <;> omega
           ·exact i2 a (by omega)⟩, GS.to (by simp [List.take_add_one, hx]), by simp; omega⟩
        ·obtain rfl : i = 0 := by omega
         simp -dsimp [b1, b2, wrap_i64 (n := 1) (by omega) (by omega)]
         and_intros
         all_goals try first | omega | exact ⟨by kernel_rfl⟩
         exact ⟨⟨1, by omega, fun a ha => by
          obtain rfl : a = 0 := by omega
          simp [edB, gx, b1, b2]⟩, GS.to (by simp [List.take_add_one, hx]), by simp; omega⟩
     ·obtain rfl : i = p.es.length := by omega
      simp -dsimp [hi]
      refine ACall.of (repeats_c (p.es.map (·.r)) (by simp; omega)) [] 0 ?_
      simp -dsimp [ints, List.map_map, Function.comp_def]
      refine Fin.of ?_
      simp [planB_rep hb i2]
   ·have a7 : (24 : Int) < p.es.length := by omega
    simp -dsimp [a1, a2, a7]
    refine Fin.of ?_
    simp
    exact planB_base (by simp [baseB, a1, a2, a6])
structure Sb where
 set : Int
 bits : BitVec 64
def Sb.cs (x : Sb) : List D := [.int .i64 x.set, bv x.bits]
def intRows (l : List Int) : List (List D) := l.map fun n => [.int .i64 n]
@[simp] theorem intRows_len (l : List Int) : (intRows l).length = l.length := by simp [intRows]
def idxR {α : Type} (q : α → Bool) (l : List α) : Int := match l.findIdx? q with | some i => i | none => -1
theorem idx_any {α : Type} (q : α → Bool) (l : List α) : decide (0 ≤ idxR q l) = l.any q := by
 unfold idxR
 cases h : l.findIdx? q with
 | none =>
   have := List.findIdx?_eq_none_iff.1 h
   simp
   intro x hx
   exact this x hx
 | some i =>
   have := List.findIdx?_eq_some_iff_getElem.1 h
   obtain ⟨hi, h1, _⟩ := this
   simp
   exact ⟨_, List.getElem_mem hi, h1⟩
theorem idx_at {α : Type} {q : α → Bool} {l : List α} {i : Nat} {x : α} (hx : l[i]? = some x) (hq : q x = true) (h : ∀ a, a < i → ∀ y, l[a]? = some y → q y = false) : idxR q l = i := by
 unfold idxR
 obtain ⟨hi, rfl⟩ := List.getElem?_eq_some_iff.1 hx
 have : l.findIdx? q = some i := by
  rw [List.findIdx?_eq_some_iff_getElem]
  exact ⟨hi, hq, fun j hj => by have := h j hj _ (List.getElem?_eq_getElem (by omega)); simp [this]⟩
 rw [this]
theorem idx_no {α : Type} {q : α → Bool} {l : List α} (h : ∀ a, a < l.length → ∀ y, l[a]? = some y → q y = false) : idxR q l = -1 := by
 unfold idxR
 have : l.findIdx? q = none := by
  rw [List.findIdx?_eq_none_iff]
  intro x hx
  obtain ⟨i, hi⟩ := List.getElem?_of_mem hx
  exact h i (List.getElem?_eq_some_iff.1 hi).1 x hi
 rw [this]
theorem eds_take (l : List Ed) (i : Nat) : (eds l).take i = eds (l.take i) := by simp [eds]
def Pk.with (q : Pk) (p : Pn) (s : Sb) : Pk := ⟨q.mode, p.subd, s.set, p.len, q.ttl, q.ent, q.ing, q.proto, s.bits, q.pay⟩
end Go.Proofs

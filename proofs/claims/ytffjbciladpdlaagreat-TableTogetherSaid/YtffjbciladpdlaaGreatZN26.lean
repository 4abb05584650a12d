/-
  What functions of the program compute, stated as contracts over plain data; the conditions of each stand in its own statement.
-/
import Derived.Test.YtffjbciladpdlaaGreatZN25
import Derived.Shelf.SlGeneric
import Derived.Shelf.SlSortCmp.NoneTotal
import Derived.Shelf.SlicesG.Cmp
import Derived.Ground.SlsfProg
import Derived.Ground.SlgcProg
import Derived.Test.YtffjbciladpdlaaGreatChecked
import Derived.WalkKit
import Derived.StillTailTactics
import Derived.Deep.QuietTactic
import Derived.BigQuiet
import Derived.LoopN
import Derived.KernelRfl
import Derived.Test.YtffjbciladpdlaaGreatZN24
namespace Go.Proofs
open Go.Shelf
def Tryz.sortStep_ren : Go.Shelf.Ren := ⟨fun | 6 => 117 | 15 => 130 | 14 => 131 | 28 => 143 | 29 => 144 | 20 => 145 | 21 => 146 | 22 => 147 | 23 => 148 | 24 => 149 | 25 => 150 | 26 => 151 | 27 => 152 | 46 => 158 | 47 => 154 | 48 => 155 | 49 => 159 | 50 => 160 | 57 => 162 | n => n, fun | 22 => 130 | 24 => 132 | 25 => 134 | 3 => 3 | 39 => 142 | 0 => 0 | 53 => 158 | 55 => 160 | 4 => 4 | 46 => 152 | 45 => 151 | 50 => 60 | 5 => 5 | 9 => 9 | 66 => 166 | 70 => 170 | 76 => 174 | 77 => 175 | n => n, fun | n => n⟩
theorem Tryz.sortStep : Go.Proofs.SlLaysF0.n6 Tryz.prog Tryz.sortStep_ren := {
 mixed := by kernel_rfl
 f6 := ⟨Tryz.f117.name, by decide, Tryz.func117.trans (congrArg some (by kernel_rfl))⟩
 f14 := ⟨Tryz.f131.name, by decide, Tryz.func131.trans (congrArg some (by kernel_rfl))⟩
 f15 := Tryz.func130.trans (congrArg some (by kernel_rfl))
 f20 := ⟨Tryz.f145.name, by decide, Tryz.func145.trans (congrArg some (by kernel_rfl))⟩
 f21 := ⟨Tryz.f146.name, by decide, Tryz.func146.trans (congrArg some (by kernel_rfl))⟩
 f22 := ⟨Tryz.f147.name, by decide, Tryz.func147.trans (congrArg some (by kernel_rfl))⟩
 f23 := ⟨Tryz.f148.name, by decide, Tryz.func148.trans (congrArg some (by kernel_rfl))⟩
 f24 := ⟨Tryz.f149.name, by decide, Tryz.func149.trans (congrArg some (by kernel_rfl))⟩
 f25 := ⟨Tryz.f150.name, by decide, Tryz.func150.trans (congrArg some (by kernel_rfl))⟩
 f26 := ⟨Tryz.f151.name, by decide, Tryz.func151.trans (congrArg some (by kernel_rfl))⟩
 f27 := ⟨Tryz.f152.name, by decide, Tryz.func152.trans (congrArg some (by kernel_rfl))⟩
 f28 := Tryz.func143.trans (congrArg some (by kernel_rfl))
 f29 := Tryz.func144.trans (congrArg some (by kernel_rfl))
 f46 := ⟨Tryz.f158.name, by decide, Tryz.func158.trans (congrArg some (by kernel_rfl))⟩
 f47 := Tryz.func154.trans (congrArg some (by kernel_rfl))
 f48 := Tryz.func155.trans (congrArg some (by kernel_rfl))
 f49 := ⟨Tryz.f159.name, by decide, Tryz.func159.trans (congrArg some (by kernel_rfl))⟩
 f50 := ⟨Tryz.f160.name, by decide, Tryz.func160.trans (congrArg some (by kernel_rfl))⟩
 f57 := ⟨Tryz.f162.name, by decide, Tryz.func162.trans (congrArg some (by kernel_rfl))⟩
 t0 := Tryz.underlying0
 a0 := Tryz.isAgg0
 z0 := Tryz.sizeOf0
 v0 := Tryz.zeroValue0
 t3 := Tryz.underlying3
 a3 := Tryz.isAgg3
 z3 := Tryz.sizeOf3
 v3 := Tryz.zeroValue3
 t4 := Tryz.underlying4
 a4 := Tryz.isAgg4
 z4 := Tryz.sizeOf4
 v4 := Tryz.zeroValue4
 t5 := Tryz.underlying5
 a5 := Tryz.isAgg5
 z5 := Tryz.sizeOf5
 v5 := Tryz.zeroValue5
 t9 := Tryz.underlying9
 a9 := Tryz.isAgg9
 z9 := Tryz.sizeOf9
 v9 := Tryz.zeroValue9
 t22 := Tryz.underlying130
 a22 := Tryz.isAgg130
 z22 := Tryz.sizeOf130
 v22 := Tryz.zeroValue130
 t25 := Tryz.underlying134
 a25 := Tryz.isAgg134
 z25 := Tryz.sizeOf134
 v25 := Tryz.zeroValue134
 t39 := Tryz.underlying142
 a39 := Tryz.isAgg142
 z39 := Tryz.sizeOf142
 v39 := Tryz.zeroValue142
 t45 := Tryz.underlying151
 a45 := Tryz.isAgg151
 z45 := Tryz.sizeOf151
 v45 := Tryz.zeroValue151
 t46 := Tryz.underlying152
 a46 := Tryz.isAgg152
 z46 := Tryz.sizeOf152
 v46 := Tryz.zeroValue152
 t50 := Tryz.underlying60
 a50 := Tryz.isAgg60
 z50 := Tryz.sizeOf60
 v50 := Tryz.zeroValue60
 t53 := Tryz.underlying158
 a53 := Tryz.isAgg158
 z53 := Tryz.sizeOf158
 v53 := Tryz.zeroValue158
 t55 := Tryz.underlying160
 a55 := Tryz.isAgg160
 z55 := Tryz.sizeOf160
 v55 := Tryz.zeroValue160
 t66 := Tryz.underlying166
 a66 := Tryz.isAgg166
 z66 := Tryz.sizeOf166
 v66 := Tryz.zeroValue166
 t70 := Tryz.underlying170
 a70 := Tryz.isAgg170
 z70 := Tryz.sizeOf170
 v70 := Tryz.zeroValue170
 t76 := Tryz.underlying174
 a76 := Tryz.isAgg174
 z76 := Tryz.sizeOf174
 v76 := Tryz.zeroValue174
 t77 := Tryz.underlying175
 a77 := Tryz.isAgg175
 z77 := Tryz.sizeOf175
 v77 := Tryz.zeroValue175 }
def Tryz.cmpInt_ren : Go.Shelf.Ren := ⟨fun | 5 => 119 | 7 => 132 | n => n, fun | 22 => 3 | 3 => 3 | 4 => 4 | n => n, fun | n => n⟩
theorem Tryz.cmpInt : Go.Proofs.SlLaysC2.n5 Tryz.prog Tryz.cmpInt_ren := {
 mixed := by kernel_rfl
 f5 := ⟨Tryz.f119.name, by decide, Tryz.func119.trans (congrArg some (by kernel_rfl))⟩
 f7 := ⟨Tryz.f132.name, by decide, Tryz.func132.trans (congrArg some (by kernel_rfl))⟩
 t3 := Tryz.underlying3
 a3 := Tryz.isAgg3
 z3 := Tryz.sizeOf3
 v3 := Tryz.zeroValue3
 t4 := Tryz.underlying4
 a4 := Tryz.isAgg4
 z4 := Tryz.sizeOf4
 v4 := Tryz.zeroValue4
 t22 := Tryz.underlying3
 a22 := Tryz.isAgg3
 z22 := Tryz.sizeOf3
 v22 := Tryz.zeroValue3 }
end Go.Proofs

set_option linter.unusedSimpArgs false
set_option linter.unusedVariables false
set_option maxRecDepth 100000
set_option maxHeartbeats 2000000
namespace Go.Proofs
open Go.Shelf Go.RowKit Go.Lib Go.Sort
theorem step_k (x y : List Int) (W : World) (hx : x.length = 2) (hy : y.length = 2) : Calls Tryz.prog 118 #[.agg (x.map (Value.int .i64)).toArray, .agg (y.map (Value.int .i64)).toArray] W fun e w' => e = .returned (.int .i64 (Lib.compareInt (x.getD 0 0) (y.getD 0 0))) ∧ ∃ q os', w' = Go.Sort.grow (W.drewN q) os' := by
 obtain ⟨x0, x1, rfl⟩ : ∃ a b, x = [a, b] := by
  match x, hx with
  | [a, b], _ => exact ⟨a, b, rfl⟩
 obtain ⟨y0, y1, rfl⟩ : ∃ a b, y = [a, b] := by
  match y, hy with
  | [a, b], _ => exact ⟨a, b, rfl⟩
 have hcon := fun W' => AnyG.cmp_Compare_int Tryz.cmpInt x0 y0 W'
 change ∀ W', Calls Tryz.prog 119 _ _ _ at hcon
 change Calls Tryz.prog 118 #[.agg #[.int .i64 x0, .int .i64 x1], .agg #[.int .i64 y0, .int .i64 y1]] W fun e w' => e = .returned (.int .i64 (Lib.compareInt x0 y0)) ∧ ∃ q os', w' = Go.Sort.grow (W.drewN q) os'
 generalize Lib.compareInt x0 y0 = r at hcon ⊢
 go_enter Tryz.func118, Tryz.ntmps118
 go_wp2_with (go_at_call 119; refine (hcon _).mono ?_; rintro e w' ⟨rfl, rfl⟩)
 go_ret
 exact ⟨rfl, 0, _, by rw [alloc_eq_grow, alloc_eq_grow, grow_grow]; rfl⟩
end Go.Proofs

namespace Go.Proofs
open Go Go.Tr Go.Shelf
def cfS (x y : List Int) : Int := Lib.compareInt (x.getD 0 0) (y.getD 0 0)
theorem sortStep_c : SortC Tryz.prog 117 118 2 (Parts2 cfS) (fun zs => zs.mergeSort fun x y => !decide (cfS y x < 0)) :=
 SortC.of Tryz.sortStep (by omega) (fun w => by kernel_rfl) (fun w => by kernel_rfl) cfS 118 (enters_of Tryz.func118 (by kernel_rfl) rfl) (fun x y W hx hy => step_k x y W hx hy)
theorem cmpI_lt (x y : Int) : Lib.compareInt x y < 0 ↔ x < y := by
 unfold Lib.compareInt
 split <;> (try split) <;> omega
theorem cfS_lt (x y : List Int) : cfS x y < 0 ↔ x.getD 0 0 < y.getD 0 0 := cmpI_lt _ _
theorem parts_cfS {zs : List (List Int)} (h : zs.Pairwise fun x y => x.getD 0 0 < y.getD 0 0) : Parts2 cfS zs :=
 ⟨fun x _ => by rw [cfS_lt]; omega, fun x _ y _ z _ => by rw [cfS_lt, cfS_lt, cfS_lt]; omega, fun x _ y _ z _ => by rw [cfS_lt, cfS_lt, cfS_lt]; omega,
  fun x hx y hy => by
   rw [cfS_lt, cfS_lt]
   intro h1 h2
   have e : x.getD 0 0 = y.getD 0 0 := by omega
   obtain ⟨i, hi, rfl⟩ := List.mem_iff_getElem.1 hx
   obtain ⟨j, hj, rfl⟩ := List.mem_iff_getElem.1 hy
   have hp := List.pairwise_iff_getElem.1 h
   rcases Nat.lt_trichotomy i j with g | g | g
   ·have := hp i j hi hj g; omega
   ·subst g; rfl
   ·have := hp j i hj hi g; omega⟩
theorem sort_cfS {zs : List (List Int)} (h : zs.Pairwise fun x y => x.getD 0 0 < y.getD 0 0) : (zs.mergeSort fun x y => !decide (cfS y x < 0)) = zs := by
 refine List.mergeSort_of_pairwise (h.imp fun {x y} hxy => ?_)
 rw [Bool.not_eq_true', decide_eq_false_iff_not, cfS_lt]
 omega
end Go.Proofs

set_option maxHeartbeats 16000000
namespace Go.Proofs
open Go Go.Tr
def rid (rs : List Rt) (i : Nat) : Int := (rs.getD i ⟨0, false⟩).id
def ridK (rs : List Rt) (i : Nat) : List Int := [rid rs i]
def stR (l : IM) : List (List D) := l.map fun x => [.int .i64 x.1, .int .i64 x.2]
@[simp] theorem stR_len (l : IM) : (stR l).length = l.length := by simp [stR]
theorem rid_inj {rs : List Rt} (nd : (rs.map Rt.id).Nodup) {i j : Nat} (hi : i < rs.length) (hj : j < rs.length) (h : rid rs i = rid rs j) : i = j := by
 unfold rid at h
 rw [List.getD_eq_getElem?_getD, List.getD_eq_getElem?_getD, List.getElem?_eq_getElem hi, List.getElem?_eq_getElem hj] at h
 simp only [Option.getD_some] at h
 have h2 := List.pairwise_iff_getElem.1 (List.nodup_iff_pairwise_ne.1 nd)
 rcases Nat.lt_trichotomy i j with e | e | e
 ·exact absurd (by rw [List.getElem_map, List.getElem_map]; exact h) (h2 i j (by simpa using hi) (by simpa using hj) e)
 ·exact e
 ·exact absurd (by rw [List.getElem_map, List.getElem_map]; exact h.symm) (h2 j i (by simpa using hj) (by simpa using hi) e)
theorem rid_of {rs : List Rt} {v : Int} (h : v ∈ rs.map Rt.id) : ∃ i, i < rs.length ∧ rid rs i = v := by
 obtain ⟨r, hr, rfl⟩ := List.mem_map.1 h
 obtain ⟨i, hi, rfl⟩ := List.mem_iff_getElem.1 hr
 exact ⟨i, hi, by simp [rid, hi]⟩
theorem klen_mapF (n b : Nat) (rs : List Rt) (f : Nat → Nat) : klen 1 (mapF n b (ridK rs) f) := fun y hy => by
 obtain ⟨i, hi, rfl⟩ := List.mem_map.1 hy
 rfl
theorem ouL_snoc (ls : List Lk) (x : Lk) (v : Int) : ouL (ls ++ [x]) v = ouL ls v ++ ((if x.a = v then [(x.b, x.ca)] else []) ++ (if x.b = v then [(x.a, x.cb)] else [])) := by
 simp [ouL]
theorem inL_snoc (ls : List Lk) (x : Lk) (v : Int) : inL (ls ++ [x]) v = inL ls v ++ ((if x.b = v then [(x.a, x.ca)] else []) ++ (if x.a = v then [(x.b, x.cb)] else [])) := by
 simp [inL]
theorem ouL_le (v : Int) : ∀ ls : List Lk, (ouL ls v).length ≤ 2 * ls.length
 | [] => by simp [ouL]
 | x :: ls => by
   have h := ouL_le v ls
   rw [ouL, List.flatMap_cons, List.length_append, List.length_append, ← ouL, List.length_cons]
   split <;> split <;> simp only [List.length_cons, List.length_nil] <;> omega
theorem inL_le (v : Int) : ∀ ls : List Lk, (inL ls v).length ≤ 2 * ls.length
 | [] => by simp [inL]
 | x :: ls => by
   have h := inL_le v ls
   rw [inL, List.flatMap_cons, List.length_append, List.length_append, ← inL, List.length_cons]
   split <;> split <;> simp only [List.length_cons, List.length_nil] <;> omega
theorem range_rid {α : Type} {rs : List Rt} (F : Int → α) : (List.range rs.length).map (fun i => F (rid rs i)) = rs.map fun x => F x.id := by
 refine List.ext_getElem (by simp) fun i h1 h2 => ?_
 simp only [List.length_map, List.length_range] at h1
 simp [rid, h1]
theorem read_c (g : Topo) (hn : g.rs.length ≤ 256) (hl : g.ls.length ≤ 1024) (nd : (g.rs.map Rt.id).Nodup) (he : ∀ x ∈ g.ls, x.a ∈ g.rs.map Rt.id ∧ x.b ∈ g.rs.map Rt.id) (hab : ∀ x ∈ g.ls, x.a ≠ x.b) (hpw : ∀ v, (ouL g.ls v).Pairwise fun a b => a.1 < b.1) : Contract Tryz.prog 66 [topT g] [] (.agg [.d (.mp (g.rs.map fun x => [x.id]) (g.rs.map fun x => .sl (stR (ouL g.ls x.id)))), .d (.mp (g.rs.map fun x => [x.id]) (g.rs.map fun x => .sl (stR (inL g.ls x.id))))]) [] [] := by
 refine contract_of Tryz.func66 rfl (fun E0 => ?_)
 refine awp.sound (g := .mk) (ow := [3000009, 3000010, 1000117]) (kp := (fun k => k==0||k==1||k==2||k==3||k==5||k==7||k==8||k==13||k==14||k==15||k==16||k==29||k==30||k==31||k==32||k==102||k==104)) ?_
 rw [Tryz.ntmps66]
 simp -dsimp [topT]
 and_intros
 all_goals try first | omega | exact ⟨by kernel_rfl⟩ | rfl
 refine ALoop.of [3000009, 3000010, 1000117] (fun k => k==0||k==1||k==2||k==3||k==5||k==7||k==8||k==13||k==14||k==15||k==16||k==29||k==30||k==31||k==32||k==102||k==104) (ι := { z : Nat × (Nat × Option (List Int)) × Nat × Option (List Int) // z.1 ≤ g.rs.length })
  (fun z => fam 9000 z.1.1 (fun _ => It.row 132 2 [] false) (fam 19000 z.1.1 (fun _ => It.row 132 2 [] false) [(Pl.o 1, It.box [TV.d (.sl (rts g.rs)), TV.d (.sl (lks g.ls))]), (Pl.s 1, It.v (.ptr (Pl.o 1) 0)),
    (Pl.o 2, It.box [TV.c (Value.map none), TV.c (Value.map none)]), (Pl.s 2, It.v (.ptr (Pl.o 2) 0)),
    (Pl.o 9, It.mpk (mapF z.1.1 9000 (ridK g.rs) fun _ => 0) z.1.2.1.1 z.1.2.1.2 none), (Pl.o 10, It.mpk (mapF z.1.1 19000 (ridK g.rs) fun _ => 0) z.1.2.2.1 z.1.2.2.2 none), (Pl.o 3, It.box [TV.mref 9, TV.mref 10]),
    (Pl.s 3, It.v (.ptr (Pl.o 3) 0)), (Pl.s 13, It.v (.d (.sl (rts g.rs)))),
    (Pl.s 14, It.v (.d (.int .i64 ↑g.rs.length))), (Pl.s 15, It.v (.d (.int .i64 z.1.1)))]))
  (fun z => g.rs.length - z.1.1) ⟨(0, (0, none), 0, none), by omega⟩ ?_ ?_
 ·exact GS.to (by simp [fam_zero, mapF])
 ·rintro ⟨⟨i, ⟨c1, p1⟩, c2, p2⟩, i1⟩
  simp only at i1
  by_cases hi : i < g.rs.length
  ·have hiz : (i : Int) < g.rs.length := by omega
   have hgi : g.rs[i]? = some g.rs[i] := List.getElem?_eq_getElem hi
   have hid : g.rs[i].id = rid g.rs i := by simp [rid, hi]
   have hkn := fun b f v => mapF_new (n := i) (b := b) (f := f) (k := ridK g.rs) (fun j hj e => by have := rid_inj nd (i := j) (j := i) (by omega) hi (by simpa [ridK] using e); omega) v
   simp only [ridK] at hkn
   generalize g.rs[i] = y at hgi hid
   have w1 : IntKind.i64.wrap ((i : Int) + 1) = (i : Int) + 1 := wrap_i64 (by omega) (by omega)
   have ei : i ≤ 10000 := by omega
   simp -dsimp [hiz, rts, hgi, hid, hkn, Rt.cs, w1]
   refine ⟨klen_mapF _ _ _ _, klen_mapF _ _ _ _, ⟨⟨(i + 1, (c1, none), c2, none), by omega⟩, ?_, by simp; omega⟩, ?_⟩
   ·refine GS.grow2 (i := i) (k := ridK g.rs) (c0 := c1) (c1 := c2) (pd0 := none) (pd1 := none) (s0 := none) (s1 := none) 9 10 9000 19000 132 2 (by simp [ridK]) (by simp [ridK]) (by simp (disch := omega) [fam_ne, ne_fam]) (by simp (disch := omega) [fam_ne, ne_fam]) (by decide) (by omega) (by omega) (by omega) (by omega) (by omega) ?_
    refine ⟨Sub.fam2 (n := i + 1) (m := i + 1) (by omega) (fun j hj => ?_) (fun j hj => ?_) ?_ ?_ ?_ ?_, ?_⟩
    ·rcases (by omega : j < i ∨ j = i) with h | h
     ·simp (disch := omega) [fam_ne, ne_fam, h]
     ·subst h; simp (disch := omega) [fam_ne, ne_fam]
    ·rcases (by omega : j < i ∨ j = i) with h | h
     ·simp (disch := omega) [fam_ne, ne_fam, h]
     ·subst h; simp (disch := omega) [fam_ne, ne_fam]
    ·simp (disch := omega) [fam_ne, ne_fam, rts]
    ·simp
    ·simp
    ·simp (disch := omega)
     exact ⟨fun j hj => by omega, fun j hj => by omega⟩
    ·simp (disch := omega) [fam_ne, ne_fam]
   ·exact ⟨by kernel_rfl⟩
  ·have hiz : ¬ (i : Int) < g.rs.length := by omega
   obtain rfl : i = g.rs.length := by omega
   simp -dsimp [hiz]
   and_intros
   all_goals try first | omega | exact ⟨by kernel_rfl⟩ | rfl
   refine ALoop.of [3000009, 3000010, 1000117] (fun k => k==0||k==1||k==2||k==3||k==5||k==7||k==8||k==13||k==14||k==15||k==16||k==29||k==30||k==31||k==32||k==102||k==104) (ι := { z : Nat × (Nat × Option (List Int)) × Nat × Option (List Int) // z.1 ≤ g.ls.length })
    (fun z => fam 9000 g.rs.length (fun j => It.row 132 2 (dd (stR (ouL (g.ls.take z.1.1) (rid g.rs j)))) false) (fam 19000 g.rs.length (fun j => It.row 132 2 (dd (stR (inL (g.ls.take z.1.1) (rid g.rs j)))) false) [
      (Pl.o 2, It.box [TV.c (Value.map none), TV.c (Value.map none)]), (Pl.s 2, It.v (.ptr (Pl.o 2) 0)),
      (Pl.o 9, It.mpk (mapF g.rs.length 9000 (ridK g.rs) fun j => (ouL (g.ls.take z.1.1) (rid g.rs j)).length) z.1.2.1.1 z.1.2.1.2 none), (Pl.o 10, It.mpk (mapF g.rs.length 19000 (ridK g.rs) fun j => (inL (g.ls.take z.1.1) (rid g.rs j)).length) z.1.2.2.1 z.1.2.2.2 none), (Pl.o 3, It.box [TV.mref 9, TV.mref 10]),
      (Pl.s 3, It.v (.ptr (Pl.o 3) 0)), (Pl.s 29, It.v (.d (.sl (lks g.ls)))),
      (Pl.s 30, It.v (.d (.int .i64 ↑g.ls.length))), (Pl.s 31, It.v (.d (.int .i64 z.1.1)))]))
    (fun z => g.ls.length - z.1.1) ⟨(0, (c1, p1), c2, p2), by omega⟩ ?_ ?_
   ·refine GS.to ⟨Sub.fam2 (n := g.rs.length) (m := g.rs.length) (by omega) (fun j hj => ?_) (fun j hj => ?_) ?_ ?_ ?_ ?_, ?_⟩
    ·simp (disch := omega) [fam_ne, ne_fam, hj, ouL, stR]
    ·simp (disch := omega) [fam_ne, ne_fam, hj, inL, stR]
    ·simp (disch := omega) [fam_ne, ne_fam, lks, ouL, inL]
    ·simp
    ·simp
    ·simp (disch := omega)
     exact ⟨fun j hj => by omega, fun j hj => by omega⟩
    ·simp (disch := omega) [fam_ne, ne_fam]
   ·rintro ⟨⟨k, ⟨c1, p1⟩, c2, p2⟩, k1⟩
    simp only at k1
    by_cases hk : k < g.ls.length
    ·have hkz : (k : Int) < g.ls.length := by omega
     have hgk : g.ls[k]? = some g.ls[k] := List.getElem?_eq_getElem hk
     have hx := he g.ls[k] (List.getElem_mem hk)
     have hab := hab g.ls[k] (List.getElem_mem hk)
     have htk : g.ls.take (k + 1) = g.ls.take k ++ [g.ls[k]] := by rw [List.take_add_one, hgk]; rfl
     obtain ⟨x, ex⟩ : ∃ x, g.ls[k] = x := ⟨_, rfl⟩
     rw [ex] at hgk hx hab htk
     obtain ⟨ia, hia, ea⟩ := rid_of hx.1
     obtain ⟨ib, hib, eb⟩ := rid_of hx.2
     have hne : ia ≠ ib := fun e => hab (by rw [← ea, ← eb, e])
     have hne' : ib ≠ ia := fun e => hne e.symm
     have hinj : ∀ i j, i < g.rs.length → j < g.rs.length → ridK g.rs i = ridK g.rs j → i = j := fun i j hi hj e => rid_inj nd hi hj (by simpa [ridK] using e)
     have hga : ∀ b f, kget (mapF g.rs.length b (ridK g.rs) f) [x.a] = some (.oref (b + ia) (f ia)) := fun b f => by rw [← ea]; exact mapF_get hinj hia
     have hgb : ∀ b f, kget (mapF g.rs.length b (ridK g.rs) f) [x.b] = some (.oref (b + ib) (f ib)) := fun b f => by rw [← eb]; exact mapF_get hinj hib
     have hpa : ∀ b f m, kput (mapF g.rs.length b (ridK g.rs) f) [x.a] (.oref (b + ia) m) = mapF g.rs.length b (ridK g.rs) (fun j => if j = ia then m else f j) := fun b f m => by rw [← ea]; exact mapF_put hinj hia
     have hpb : ∀ b f m, kput (mapF g.rs.length b (ridK g.rs) f) [x.b] (.oref (b + ib) m) = mapF g.rs.length b (ridK g.rs) (fun j => if j = ib then m else f j) := fun b f m => by rw [← eb]; exact mapF_put hinj hib
     have w1 : IntKind.i64.wrap ((k : Int) + 1) = (k : Int) + 1 := wrap_i64 (by omega) (by omega)
     have da1 : 9000 + g.rs.length ≤ 19000 + ia := by omega
     have da2 : g.rs.length ≤ 10000 + ia := by omega
     have db1 : 9000 + g.rs.length ≤ 19000 + ib := by omega
     have db2 : g.rs.length ≤ 10000 + ib := by omega
     simp -dsimp (maxSteps := 1000000) [hkz, lks, hgk, ex, Lk.cs, w1, hga, hgb, hpa, hpb, hia, hib, hne, hne', klen_mapF, fam_ne, ne_fam, da1, da2, db1, db2]
     have hrid : ∀ j, j < g.rs.length → (x.a = rid g.rs j ↔ j = ia) ∧ (x.b = rid g.rs j ↔ j = ib) := fun j hj => by
      rw [← ea, ← eb]
      exact ⟨⟨fun e => (rid_inj nd hia hj e).symm, fun e => by rw [e]⟩, ⟨fun e => (rid_inj nd hib hj e).symm, fun e => by rw [e]⟩⟩
     have hO : ∀ j, j < g.rs.length → ouL (g.ls.take (k + 1)) (rid g.rs j) = if j = ib then ouL (g.ls.take k) (rid g.rs ib) ++ [(x.a, x.cb)] else if j = ia then ouL (g.ls.take k) (rid g.rs ia) ++ [(x.b, x.ca)] else ouL (g.ls.take k) (rid g.rs j) := fun j hj => by
      obtain ⟨r1, r2⟩ := hrid j hj
      rw [htk, ouL_snoc]
      by_cases h1 : j = ib
      ·have h2 : j ≠ ia := fun e => hne (e.symm.trans h1)
       rw [if_neg (fun e => h2 (r1.1 e)), if_pos (r2.2 h1), if_pos h1, h1]; rfl
      ·rw [if_neg (fun e => h1 (r2.1 e)), if_neg h1]
       by_cases h2 : j = ia
       ·rw [if_pos (r1.2 h2), if_pos h2, h2]; rfl
       ·rw [if_neg (fun e => h2 (r1.1 e)), if_neg h2]; simp
     have hI : ∀ j, j < g.rs.length → inL (g.ls.take (k + 1)) (rid g.rs j) = if j = ia then inL (g.ls.take k) (rid g.rs ia) ++ [(x.b, x.cb)] else if j = ib then inL (g.ls.take k) (rid g.rs ib) ++ [(x.a, x.ca)] else inL (g.ls.take k) (rid g.rs j) := fun j hj => by
      obtain ⟨r1, r2⟩ := hrid j hj
      rw [htk, inL_snoc]
      by_cases h1 : j = ia
      ·have h2 : j ≠ ib := fun e => hne (h1.symm.trans e)
       rw [if_neg (fun e => h2 (r2.1 e)), if_pos (r1.2 h1), if_pos h1, h1]; rfl
      ·rw [if_neg (fun e => h1 (r1.1 e)), if_neg h1]
       by_cases h2 : j = ib
       ·rw [if_pos (r2.2 h2), if_pos h2, h2]; rfl
       ·rw [if_neg (fun e => h2 (r2.1 e)), if_neg h2]; simp
     have hMO : (mapF g.rs.length 9000 (ridK g.rs) fun j => (ouL (g.ls.take (k + 1)) (rid g.rs j)).length) = mapF g.rs.length 9000 (ridK g.rs) fun j => if j = ib then (ouL (g.ls.take k) (rid g.rs ib)).length + 1 else if j = ia then (ouL (g.ls.take k) (rid g.rs ia)).length + 1 else (ouL (g.ls.take k) (rid g.rs j)).length :=
      mapF_congr fun j hj => by rw [hO j hj]; split <;> try split
                                all_goals simp
     have hMI : (mapF g.rs.length 19000 (ridK g.rs) fun j => (inL (g.ls.take (k + 1)) (rid g.rs j)).length) = mapF g.rs.length 19000 (ridK g.rs) fun j => if j = ia then (inL (g.ls.take k) (rid g.rs ia)).length + 1 else if j = ib then (inL (g.ls.take k) (rid g.rs ib)).length + 1 else (inL (g.ls.take k) (rid g.rs j)).length :=
      mapF_congr fun j hj => by rw [hI j hj]; split <;> try split
                                all_goals simp
     have lk := List.length_take_le k g.ls
     have l1 := ouL_le (rid g.rs ia) (g.ls.take k)
     have l2 := ouL_le (rid g.rs ib) (g.ls.take k)
     have l3 := inL_le (rid g.rs ia) (g.ls.take k)
     have l4 := inL_le (rid g.rs ib) (g.ls.take k)
     refine ⟨by omega, by omega, by omega, by omega, by omega, by omega, by omega, by omega, ⟨⟨(k + 1, (c1, none), c2, none), by omega⟩, ?_, by simp; omega⟩, ?_, ?_, ?_, ?_⟩
     ·refine GS.to ⟨Sub.fam2 (n := g.rs.length) (m := g.rs.length) (by omega) (fun j hj => ?_) (fun j hj => ?_) ?_ ?_ ?_ ?_, ?_⟩
      ·simp [hj, hO j hj]
       split <;> try split
       all_goals simp [stR, dd]
      ·have e1 : 9000 + g.rs.length ≤ 19000 + j := by omega
       have e2 : g.rs.length ≤ 10000 + j := by omega
       simp [hj, hI j hj, e1, e2]
       split <;> try split
       all_goals simp [stR, dd]
      ·simp [lks, hMO, hMI]
      ·simp
      ·simp
      ·simp
       exact ⟨fun j hj => by omega, fun j hj => by omega⟩
      ·simp
     ·refine ADraw.ren (fun p => if p = .o (19000 + ia) then .o 9000 else p) ?_
      conv => lhs; arg 2; simp [renP2, fam_ne, ne_fam]
      kernel_rfl
     ·refine ADraw.ren (fun p => if p = .o (19000 + ib) then .o 9000 else p) ?_
      conv => lhs; arg 2; simp [renP2, fam_ne, ne_fam]
      kernel_rfl
     ·refine ADraw.ren (fun p => if p = .o (9000 + ib) then .o 9000 else p) ?_
      conv => lhs; arg 2; simp [renP2, fam_ne, ne_fam]
      kernel_rfl
     ·refine ADraw.ren (fun p => if p = .o (9000 + ia) then .o 9000 else p) ?_
      conv => lhs; arg 2; simp [renP2, fam_ne, ne_fam]
      kernel_rfl
    ·have hkz : ¬ (k : Int) < g.ls.length := by omega
     obtain rfl : k = g.ls.length := by omega
     rw [List.take_length]
     simp -dsimp [hkz]
     refine ANon.range ?_
     simp -dsimp [ANo_some, rangeO]
     intro sn
     refine ALoop.of [3000009, 3000010, 1000117] (fun k => k==0||k==1||k==2||k==3||k==5||k==7||k==8||k==13||k==14||k==15||k==16||k==29||k==30||k==31||k==32||k==102||k==104) (ι := { z : List (List Int) × Option (List Int) // ∀ k ∈ z.1, ∃ i, i < g.rs.length ∧ k = [rid g.rs i] })
      (fun z => fam 9000 g.rs.length (fun j => It.row 132 2 (dd (stR (ouL g.ls (rid g.rs j)))) false) (fam 19000 g.rs.length (fun j => It.row 132 2 (dd (stR (inL g.ls (rid g.rs j)))) false) [
        (Pl.o 2, It.box [TV.c (Value.map none), TV.c (Value.map none)]), (Pl.s 2, It.v (.ptr (Pl.o 2) 0)),
        (Pl.o 9, It.mpk (mapF g.rs.length 9000 (ridK g.rs) fun j => (ouL g.ls (rid g.rs j)).length) c1 p1 (some sn)), (Pl.o 10, It.mpk (mapF g.rs.length 19000 (ridK g.rs) fun j => (inL g.ls (rid g.rs j)).length) c2 p2 none), (Pl.o 3, It.box [TV.mref 9, TV.mref 10]),
        (Pl.s 3, It.v (.ptr (Pl.o 3) 0)), (Pl.s 102, It.v (.ptr (Pl.o 102) 0)), (Pl.o 102, It.mit 9 sn z.1.1 z.1.2)]))
      (fun z => z.1.1.length) ⟨((mapF g.rs.length 9000 (ridK g.rs) fun j => (ouL g.ls (rid g.rs j)).length).map (·.1), none), fun k hk => ?_⟩ ?_ ?_
     ·simp only [mapF, List.map_map, List.mem_map, List.mem_range] at hk
      obtain ⟨i, hi, rfl⟩ := hk
      exact ⟨i, hi, rfl⟩
     ·refine GS.to ⟨Sub.fam2 (n := g.rs.length) (m := g.rs.length) (by omega) (fun j hj => ?_) (fun j hj => ?_) ?_ ?_ ?_ ?_, ?_⟩
      ·simp [hj]
      ·have e1 : 9000 + g.rs.length ≤ 19000 + j := by omega
       have e2 : g.rs.length ≤ 10000 + j := by omega
       simp [hj, e1, e2]
      ·simp
      ·simp
      ·simp
      ·simp
       exact ⟨fun j hj => by omega, fun j hj => by omega⟩
      ·simp
     ·rintro ⟨⟨left, cur⟩, j1⟩
      simp only at j1
      simp -dsimp
      refine ANon.next ?_
      simp -dsimp [nextO]
      refine ⟨fun hl0 => ?_, fun x hx => ?_⟩
      ·subst hl0
       refine Fin.ghost (t' := Tr.look [(Pl.o 9, It.mpk ((List.range g.rs.length).map fun i => (ridK g.rs i, TV.d (.sl (stR (ouL g.ls (rid g.rs i)))))) c1 p1 (some sn)), (Pl.o 10, It.mpk ((List.range g.rs.length).map fun i => (ridK g.rs i, TV.d (.sl (stR (inL g.ls (rid g.rs i)))))) c2 p2 none), (Pl.o 2, It.box [TV.mref 9, TV.mref 10]), (Pl.s 2, It.v (.ptr (Pl.o 2) 0))]) ?_
        ((GS.seeAll (id0 := 9) (b := 9000) (n := g.rs.length) (e := 132) (z := 2) (k := ridK g.rs) (xs := fun j => stR (ouL g.ls (rid g.rs j))) (c := c1) (pd := p1) (s := some sn) (by simp) (fun i hi => by simp [hi]) (by omega)).trans
          ((GS.seeAll (id0 := 10) (b := 19000) (n := g.rs.length) (e := 132) (z := 2) (k := ridK g.rs) (xs := fun j => stR (inL g.ls (rid g.rs j))) (c := c2) (pd := p2) (s := none) ?_ (fun i hi => ?_) (by omega)).trans (GS.forgetF ⟨?_, ?_⟩ ?_)))
       ·have eO : ((List.range g.rs.length).map fun i => (ridK g.rs i, TV.d (.sl (stR (ouL g.ls (rid g.rs i)))))) = (g.rs.map fun x => ([x.id], D.sl (stR (ouL g.ls x.id)))).map fun x => (x.1, TV.d x.2) := by
         exact (range_rid (rs := g.rs) (fun v => ([v], TV.d (.sl (stR (ouL g.ls v)))))).trans (by rw [List.map_map]; rfl)
        have eI : ((List.range g.rs.length).map fun i => (ridK g.rs i, TV.d (.sl (stR (inL g.ls (rid g.rs i)))))) = (g.rs.map fun x => ([x.id], D.sl (stR (inL g.ls x.id)))).map fun x => (x.1, TV.d x.2) := by
         exact (range_rid (rs := g.rs) (fun v => ([v], TV.d (.sl (stR (inL g.ls v)))))).trans (by rw [List.map_map]; rfl)
        rw [eO, eI]
        refine Fin.frz 9 (g.rs.map fun x => ([x.id], D.sl (stR (ouL g.ls x.id)))) rfl ?_
        simp
        refine Fin.frz 10 (g.rs.map fun x => ([x.id], D.sl (stR (inL g.ls x.id)))) (c := c2) (pd := p2) (s := none) (by simp) ?_
        simp
        refine Fin.of ?_
        simp [frzV]
       ·rw [seeN_not (by omega) (by omega)]; simp
       ·rw [seeN_not (by omega) (by omega)]
        have e1 : 9000 + g.rs.length ≤ 19000 + i := by omega
        have e2 : g.rs.length ≤ 10000 + i := by omega
        simp [hi, e1, e2]
       ·simp only [List.forall_mem_cons, List.not_mem_nil, false_imp_iff, implies_true, and_true]
        refine ⟨?_, ?_, ?_, ?_⟩
        ·rw [seeN_not (by omega) (by omega), seeN_map]; simp
        ·rw [seeN_map]; simp
        ·rw [seeN_not (by omega) (by omega), seeN_not (by omega) (by omega)]; simp
        ·rw [seeN_s, seeN_s]; simp
       ·simp
       ·intro i
        rw [seeN_x, seeN_x]; simp
      ·obtain ⟨ia, hia, rfl⟩ := j1 x hx
       have hinj : ∀ i j, i < g.rs.length → j < g.rs.length → ridK g.rs i = ridK g.rs j → i = j := fun i j hi hj e => rid_inj nd hi hj (by simpa [ridK] using e)
       have hga : ∀ b f, kget (mapF g.rs.length b (ridK g.rs) f) [rid g.rs ia] = some (.oref (b + ia) (f ia)) := fun b f => mapF_get hinj hia
       simp -dsimp [hia, hga, klen_mapF, fam_ne, ne_fam]
       have hpw := hpw (rid g.rs ia)
       have hle := ouL_le (rid g.rs ia) g.ls
       obtain ⟨zs, hzs⟩ : ∃ zs, zs = (ouL g.ls (rid g.rs ia)).map fun x => [x.1, x.2] := ⟨_, rfl⟩
       have hR : dd (stR (ouL g.ls (rid g.rs ia))) = dd (irow zs) := by rw [hzs]; simp [stR, irow, dd]
       have hpz : zs.Pairwise fun x y => x.getD 0 0 < y.getD 0 0 := by
        rw [hzs, List.pairwise_map]
        exact hpw.imp fun {a b} h => by simpa using h
       have hlz : zs.length = (ouL g.ls (rid g.rs ia)).length := by rw [hzs, List.length_map]
       have hpre := parts_cfS hpz
       have hS := sort_cfS hpz
       refine ACall.sortF sortStep_c zs ?_
       simp -dsimp [hia, hR, hlz, hpre, hS]
       refine ⟨by omega, ⟨(left.erase [rid g.rs ia], some [rid g.rs ia]), fun y hy => j1 y (List.mem_of_mem_erase hy)⟩, GS.to ⟨Sub.fam2 (n := g.rs.length) (m := g.rs.length) (by omega) (fun j hj => ?_) (fun j hj => ?_) ?_ ?_ ?_ ?_, ?_⟩, ?_⟩
       ·simp [hj]
        intro e
        rw [e, hR]
       ·have e1 : 9000 + g.rs.length ≤ 19000 + j := by omega
        have e2 : g.rs.length ≤ 10000 + j := by omega
        simp [hj, e1, e2]
       ·simp
       ·simp
       ·simp
       ·simp
        exact ⟨fun j hj => by omega, fun j hj => by omega⟩
       ·simp
       ·simp only [List.length_erase_of_mem hx]
        have := List.length_pos_of_mem hx
        omega
def mixR (l : List Rw) (k : Nat) (y : Rw) (id : Nat) : List (List TV) := dd (rws (l.take k)) ++ [TV.d (.int .i64 y.id), TV.oref id y.nx.length] :: dd (rws (l.drop (k + 1)))
@[simp] theorem only_mix (po : Nat → Prop) (l : List Rw) (k : Nat) (y : Rw) (id : Nat) : rowsOnly po (mixR l k y id) = po id := by simp [mixR, TV.onlys, TV.only]
theorem mixR_len {l : List Rw} {k : Nat} (y : Rw) (id : Nat) (h : k < l.length) : (mixR l k y id).length = l.length := by
 simp [mixR]
 omega
theorem mixR_app {l : List Rw} {k : Nat} (y x : Rw) (id : Nat) (h : k < l.length) : mixR (l ++ [x]) k y id = mixR l k y id ++ dd (rws [x]) := by
 have h1 : (l ++ [x]).take k = l.take k := List.take_append_of_le_length (by omega)
 have h2 : (l ++ [x]).drop (k + 1) = l.drop (k + 1) ++ [x] := List.drop_append_of_le_length (by omega)
 simp [mixR, h1, h2, rws]
theorem mixR_last {l : List Rw} (x : Rw) (id : Nat) : mixR (l ++ [x]) l.length x id = dd (rws l) ++ [[TV.d (.int .i64 x.id), TV.oref id x.nx.length]] := by
 simp [mixR, rws]
theorem set_last {α : Type} {l : List α} {i : Nat} (h : l.length = i) (x y : α) : (l ++ [x]).set i y = l ++ [y] := by
 subst h; simp
theorem get_last {α : Type} {l : List α} {i : Nat} (h : l.length = i) (x : α) : (l ++ [x])[i]? = some x := by
 subst h; simp
theorem copiedI_c (b : Tb) (hb : b.rows.length ≤ 1000000) (hn : ∀ x ∈ b.rows, x.nx.length ≤ 1000000) (k : Nat) (y : Rw) (hk : b.rows[k]? = some y) :
  Contract Tryz.prog 74 [tblT b] [] (.agg [TV.d (.int .i64 b.r), TV.d (.int .i64 b.sd), TV.d (.int .i64 b.len), .oref 3 b.rows.length]) [] [(3, .row 52 2 (mixR b.rows k y 1001) false), (1001, .row 3 1 (dd (nrow .i64 y.nx)) false)] := by
 have hkl : k < b.rows.length := (List.getElem?_eq_some_iff.1 hk).1
 refine contract_of Tryz.func74 rfl (fun E0 => ?_)
 refine awp.sound (g := .mk) (ow := [19, 28, 2000027]) (kp := (fun k => k==0||k==1||k==2||k==3||k==4||k==9)) ?_
 rw [Tryz.ntmps74]
 simp -dsimp [tblT, rwsD_eq]
 refine ALoop.of [19, 28, 2000027] (fun k => k==0||k==1||k==2||k==3||k==4||k==9) (ι := { i : Nat // i ≤ b.rows.length }) (fun z => if z.1 ≤ k then [(Pl.s 0, It.v (.agg [TV.d (.int .i64 b.r), TV.d (.int .i64 b.sd), TV.d (.int .i64 b.len), TV.d (.sl (rws b.rows))])), (Pl.o 1, It.box [TV.d (.int .i64 b.r), TV.d (.int .i64 b.sd), TV.d (.int .i64 b.len), TV.d (.sl (rws b.rows))]), (Pl.s 1, It.v (.ptr (Pl.o 1) 0)), (Pl.o 2, It.box [TV.d (.int .i64 0), TV.d (.int .i64 0), TV.d (.int .i64 0), TV.c (Value.slice none 0 0)]), (Pl.s 2, It.v (.ptr (Pl.o 2) 0)), (Pl.s 3, It.v (.oref 3 z.1)), (Pl.o 3, It.row 52 2 (dd (rws (b.rows.take z.1))) false), (Pl.s 4, It.v (.d (.int .i64 z.1)))]
  else [(Pl.s 0, It.v (.agg [TV.d (.int .i64 b.r), TV.d (.int .i64 b.sd), TV.d (.int .i64 b.len), TV.d (.sl (rws b.rows))])), (Pl.o 1, It.box [TV.d (.int .i64 b.r), TV.d (.int .i64 b.sd), TV.d (.int .i64 b.len), TV.d (.sl (rws b.rows))]), (Pl.s 1, It.v (.ptr (Pl.o 1) 0)), (Pl.o 2, It.box [TV.d (.int .i64 0), TV.d (.int .i64 0), TV.d (.int .i64 0), TV.c (Value.slice none 0 0)]), (Pl.s 2, It.v (.ptr (Pl.o 2) 0)), (Pl.s 3, It.v (.oref 3 z.1)), (Pl.o 3, It.row 52 2 (mixR (b.rows.take z.1) k y 1001) false), (Pl.o 1001, .row 3 1 (dd (nrow .i64 y.nx)) false), (Pl.s 4, It.v (.d (.int .i64 z.1)))]) (fun z => b.rows.length - z.1) ⟨0, by omega⟩ ?_ ?_
 ·rw [if_pos (by simp)]
  exact GS.own' (k := 3) 52 2 (by simp) (by simp) (by simp [rws])
 rintro ⟨i, i1⟩
 by_cases hi : i < b.rows.length
 ·have hiz : (i : Int) < b.rows.length := by omega
  have hx : b.rows[i]? = some b.rows[i] := List.getElem?_eq_getElem hi
  have ht : b.rows.take (i + 1) = b.rows.take i ++ [b.rows[i]] := by rw [List.take_add_one, List.getElem?_eq_getElem hi]; rfl
  have hnx := hn b.rows[i] (List.getElem_mem hi)
  generalize b.rows[i] = x at hx ht hnx
  have hx' := rws_get hx
  by_cases hik : i ≤ k
  ·simp only [if_pos hik]
   simp -dsimp [hiz, hx', ints, wrap_i64 (n := (i : Int) + 1) (by omega) (by omega)]
   and_intros
   all_goals try first | rfl | omega | exact ⟨by kernel_rfl⟩ | exact dLen_map 1 _ _ fun _ => rfl
   have htl : (dd (rws (b.rows.take i))).length = i := by simp; omega
   by_cases hek : i = k
   ·subst hek
    rw [hk] at hx
    simp only [Option.some.injEq] at hx
    subst hx
    have hm : mixR (b.rows.take (i + 1)) i y 1001 = dd (rws (b.rows.take i)) ++ [[TV.d (.int .i64 y.id), TV.oref 1001 y.nx.length]] := by
     rw [ht]
     have := mixR_last (l := b.rows.take i) y 1001
     rw [List.length_take, Nat.min_eq_left (by omega)] at this
     exact this
    refine ⟨⟨⟨i + 1, by omega⟩, ?_, by simp; omega⟩⟩
    simp only [if_neg (show ¬ i + 1 ≤ i by omega)]
    exact GS.ren' 19 1001 (by omega) (by simp) (by simp [hm, nrow])
   ·have hs := set_last htl [TV.d (.int .i64 x.id), TV.oref 19 x.nx.length] [TV.d (.int .i64 x.id), TV.d (ints x.nx)]
    have hg := get_last htl [TV.d (.int .i64 x.id), TV.oref 19 x.nx.length]
    have he : dd (rws (b.rows.take i)) ++ [[TV.d (.int .i64 x.id), TV.d (ints x.nx)]] = dd (rws (b.rows.take (i + 1))) := by rw [ht, rws_app]; simp
    rw [he] at hs
    generalize dd (rws (b.rows.take i)) ++ [[TV.d (.int .i64 x.id), TV.oref 19 x.nx.length]] = EE at hs hg ⊢
    refine ⟨⟨⟨i + 1, by omega⟩, ?_, by simp; omega⟩⟩
    simp only [if_pos (show i + 1 ≤ k by omega)]
    exact GS.seeRow' 3 i 1 19 (e0 := 52) (k0 := 2) (es0 := EE) (sh0 := false) (n := x.nx.length) (e := 3) (k := 1) (es := dd (nrow .i64 x.nx)) (sh := false) (xs := nrow .i64 x.nx) (by simp) (by omega) hg (by simp) (by simp [nrow]) (by simp [nrow]) (by simp) (by simp [ints] at hs; simp [hs, nrow])
  ·simp only [if_neg hik]
   have hmix : mixR b.rows k y 1001 = mixR b.rows k y 1001 := rfl
   simp -dsimp [hiz, hx', ints, wrap_i64 (n := (i : Int) + 1) (by omega) (by omega)]
   and_intros
   all_goals try first | rfl | omega | exact ⟨by kernel_rfl⟩ | exact dLen_map 1 _ _ fun _ => rfl | (rw [mixR_len _ _ (by simp; omega)]; simp; omega)
   have htl : (mixR (b.rows.take i) k y 1001).length = i := by rw [mixR_len _ _ (by simp; omega)]; simp; omega
   have hs := set_last htl [TV.d (.int .i64 x.id), TV.oref 19 x.nx.length] [TV.d (.int .i64 x.id), TV.d (ints x.nx)]
   have hg := get_last htl [TV.d (.int .i64 x.id), TV.oref 19 x.nx.length]
   have he : mixR (b.rows.take i) k y 1001 ++ [[TV.d (.int .i64 x.id), TV.d (ints x.nx)]] = mixR (b.rows.take (i + 1)) k y 1001 := by
    rw [ht, mixR_app _ _ _ (by simp; omega)]
    simp [rws, Rw.cs]
   rw [he] at hs
   generalize mixR (b.rows.take i) k y 1001 ++ [[TV.d (.int .i64 x.id), TV.oref 19 x.nx.length]] = EE at hs hg ⊢
   refine ⟨⟨⟨i + 1, by omega⟩, ?_, by simp; omega⟩⟩
   simp only [if_neg (show ¬ i + 1 ≤ k by omega)]
   exact GS.seeRow' 3 i 1 19 (e0 := 52) (k0 := 2) (es0 := EE) (sh0 := false) (n := x.nx.length) (e := 3) (k := 1) (es := dd (nrow .i64 x.nx)) (sh := false) (xs := nrow .i64 x.nx) (by simp) (by omega) hg (by simp) (by simp [nrow]) (by simp [nrow]) (by simp) (by simp [ints] at hs; simp [hs, nrow])
 ·have hiz : ¬ (i : Int) < b.rows.length := by omega
  obtain rfl : i = b.rows.length := by omega
  simp only [if_neg (show ¬ b.rows.length ≤ k by omega), List.take_length]
  simp -dsimp [hiz]
  refine Fin.of ?_
  simp
def rowW (b : Tb) (k : Nat) (f : List Int → List Int) : Tb := ⟨b.r, b.sd, b.len, b.rows.set k ⟨(b.rows.getD k ⟨0, []⟩).id, f (b.rows.getD k ⟨0, []⟩).nx⟩⟩
def gBend (T : Tp) (b : Tb) : Tb × Tp :=
 let s := gNext T 8
 if s.1 = 0 then (⟨(gPick s.2 [0, 1, 2, 99, 100]).1, b.sd, b.len, b.rows⟩, (gPick s.2 [0, 1, 2, 99, 100]).2)
 else if s.1 = 1 then (⟨b.r, (gWild s.2).1, b.len, b.rows⟩, (gWild s.2).2)
 else if s.1 = 2 then (⟨b.r, b.sd, (gPick s.2 [0, 8, 16, 24, 64]).1, b.rows⟩, (gPick s.2 [0, 8, 16, 24, 64]).2)
 else if s.1 = 3 then (⟨b.r, b.sd, b.len, b.rows ++ [⟨(gPick s.2 [0, 1, 256, 257]).1, [1]⟩]⟩, (gPick s.2 [0, 1, 256, 257]).2)
 else if b.rows = [] then (b, s.2)
 else
  let k := gNext s.2 b.rows.length
  let m := gNext k.2 4
  if m.1 = 0 then (rowW b k.1.toNat (· ++ [(gPick m.2 [0, 1, 6, 99, 100]).1]), (gPick m.2 [0, 1, 6, 99, 100]).2)
  else if m.1 = 1 then (rowW b k.1.toNat (· ++ [b.r]), m.2)
  else if m.1 = 2 then (rowW b k.1.toNat (fun _ => []), m.2)
  else (rowW b k.1.toNat (fun _ => [(gPick m.2 [1, 2, 3, 9, b.r]).1]), (gPick m.2 [1, 2, 3, 9, b.r]).2)
def bendAt (T : Tp) (b : Tb) : Option Nat :=
 let s := gNext T 8
 if s.1 ≤ 3 then none else if b.rows = [] then none else
  let k := gNext s.2 b.rows.length
  if (gNext k.2 4).1 ≤ 1 then some k.1.toNat else none
theorem mix_get {l : List Rw} {k : Nat} {y : Rw} {id m : Nat} (h : k < l.length) : ((mixR l k y id).set k [TV.d (.int .i64 y.id), TV.oref id m])[k]? = some [TV.d (.int .i64 y.id), TV.oref id m] := by
 rw [List.getElem?_set_self (by rw [mixR_len y id h]; exact h)]
theorem mix_set {l : List Rw} {k : Nat} {y : Rw} {id m : Nat} (h : k < l.length) (z : List Int) : ((mixR l k y id).set k [TV.d (.int .i64 y.id), TV.oref id m]).set k [TV.d (.int .i64 y.id), TV.d (ints z)] = dd (rws (l.set k ⟨y.id, z⟩)) := by
 have htk : (dd (rws (l.take k))).length = k := by simp; omega
 rw [List.set_set, mixR, List.set_append_right _ _ (by omega), htk, Nat.sub_self, List.set_cons_zero, List.set_eq_take_append_cons_drop, if_pos h]
 simp [rws, Rw.cs]
noncomputable def gTab (T : Tp) (n : Int) : Tb × Tp :=
 let g := gMix T 6
 let p := gPlan g.2 g.1.rs 0
 let l := (all11 g.1 p.1).1
 if l.length = 0 then (⟨1, 0, 8, []⟩, p.2)
 else
  let i := gNext p.2 l.length
  let o := gOne i.2 n
  if o.1 = true then gBend o.2 (l.getD i.1.toNat ⟨1, 0, 8, []⟩) else (l.getD i.1.toNat ⟨1, 0, 8, []⟩, o.2)
@[simp] theorem passI2_tape (ν : List Pl) (rs : List (Nat × Nat)) (T : Tp) : passI2 ν rs (tapeI T) = some (tapeI T) := by simp [tapeI, ints, passI2_box]
@[simp] theorem backs_mix (ν : List Pl) (c : Nat) (l : List Rw) (k : Nat) (y : Rw) (id : Nat) : (mixR l k y id).map (TV.backs ν c) = mixR l k y (c + id) := by simp [mixR]
theorem passEs_mix (ν : List Pl) (rs : List (Nat × Nat)) (l : List Rw) (k : Nat) (y : Rw) (id j : Nat) (h : rsOf rs id = some j) : passEs ν rs (mixR l k y id) = some (mixR l k y j) := by simp [mixR, h]
theorem bendAt_lt {T : Tp} {b : Tb} {k : Nat} (h : bendAt T b = some k) : k < b.rows.length := by
 unfold bendAt at h
 simp only at h
 split at h
 ·simp at h
 ·split at h
  ·simp at h
  ·rename_i ce
   split at h
   ·simp only [Option.some.injEq] at h
    have hl := List.length_pos_iff.2 ce
    have k1 := gNext_nonneg (gNext T 8).2 b.rows.length
    have k2 := gNext_lt (gNext T 8).2 (n := b.rows.length) (by omega)
    omega
   ·simp at h
theorem rowW_sm {b : Tb} {k : Nat} {f : List Int → List Int} (h1 : b.rows.length ≤ 256) (h2 : ∀ x ∈ b.rows, x.nx.length ≤ 24) (hf : ∀ l : List Int, (f l).length ≤ l.length + 1) : (rowW b k f).rows.length ≤ 256 ∧ ∀ x ∈ (rowW b k f).rows, x.nx.length ≤ 25 := by
 refine ⟨by simpa [rowW] using h1, fun x hx => ?_⟩
 simp only [rowW] at hx
 rcases List.mem_or_eq_of_mem_set hx with hx | rfl
 ·have := h2 x hx; omega
 ·have h3 := hf (b.rows.getD k ⟨0, []⟩).nx
  have : (b.rows.getD k ⟨0, []⟩).nx.length ≤ 24 := by
   rw [List.getD_eq_getElem?_getD]
   cases hg : b.rows[k]? with
   | none => simp
   | some y => exact h2 y (List.mem_of_getElem? hg)
  simp only
  omega
theorem gBend_sm (T : Tp) {b : Tb} (h1 : b.rows.length ≤ 256) (h2 : ∀ x ∈ b.rows, x.nx.length ≤ 24) : (gBend T b).1.rows.length ≤ 257 ∧ ∀ x ∈ (gBend T b).1.rows, x.nx.length ≤ 25 := by
 have h0 : b.rows.length ≤ 257 ∧ ∀ x ∈ b.rows, x.nx.length ≤ 25 := ⟨by omega, fun x hx => by have := h2 x hx; omega⟩
 have hw : ∀ (k : Nat) (f : List Int → List Int), (∀ l : List Int, (f l).length ≤ l.length + 1) → (rowW b k f).rows.length ≤ 257 ∧ ∀ x ∈ (rowW b k f).rows, x.nx.length ≤ 25 := fun k f hf => ⟨by have := (rowW_sm (k := k) h1 h2 hf).1; omega, (rowW_sm h1 h2 hf).2⟩
 unfold gBend
 simp only
 split
 ·exact h0
 split
 ·exact h0
 split
 ·exact h0
 split
 ·refine ⟨by simp; omega, fun x hx => ?_⟩
  rcases List.mem_append.1 hx with hx | hx
  ·exact h0.2 x hx
  ·simp at hx; subst hx; simp
 split
 ·exact h0
 split
 ·exact hw _ _ fun l => by simp
 split
 ·exact hw _ _ fun l => by simp
 split
 ·exact hw _ _ fun l => by simp
 ·exact hw _ _ fun l => by simp
theorem gTab_sm (T : Tp) (n : Int) : (gTab T n).1.Sm := by
 have key : ∀ b : Tb, chk b = 0 → b.Sm ∧ ∀ T', (gBend T' b).1.Sm := fun b hb => by
  obtain ⟨_, h1, h2, _⟩ := chk_parts hb
  refine ⟨chk_sm hb, fun T' => ?_⟩
  obtain ⟨g1, g2⟩ := gBend_sm T' h1 h2
  exact ⟨by omega, fun x hx => by have := g2 x hx; omega⟩
 unfold gTab
 simp only
 split
 ·exact (key _ dflt_ok).1
 ·rename_i h
  generalize hP : gPlan (gMix T 6).2 (gMix T 6).1.rs 0 = p at h ⊢
  have m1 := gNext_nonneg p.2 (all11 (gMix T 6).1 p.1).1.length
  have m2 := gNext_lt p.2 (n := (all11 (gMix T 6).1 p.1).1.length) (by omega)
  have hk : chk ((all11 (gMix T 6).1 p.1).1.getD (gNext p.2 (all11 (gMix T 6).1 p.1).1.length).1.toNat ⟨1, 0, 8, []⟩) = 0 := by
   rw [List.getD_eq_getElem?_getD, List.getElem?_eq_getElem (by omega)]
   exact all11_ok _ _ _ (List.getElem_mem _)
  obtain ⟨g1, g2⟩ := key _ hk
  split
  ·exact g2 _
  ·exact g1
theorem gBend_tape (T : Tp) (b : Tb) : TapeOK (gBend T b).2 = TapeOK T := by
 unfold gBend
 simp only
 split
 ·simp
 split
 ·simp [gWild]
 split
 ·simp
 split
 ·simp
 split
 ·simp
 split
 ·simp
 split
 ·simp
 split <;> simp
theorem gTab_tape (T : Tp) (n : Int) : TapeOK (gTab T n).2 = TapeOK T := by
 unfold gTab
 simp only
 split
 ·exact (gPlan_zero _ _).1.trans (by simp)
 ·split
  ·rw [gBend_tape]
   simp only [gOne_ok, gNext_ok]
   exact (gPlan_zero _ _).1.trans (by simp)
  ·simp only [gOne_ok, gNext_ok]
   exact (gPlan_zero _ _).1.trans (by simp)
end Go.Proofs

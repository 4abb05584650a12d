/-
  What functions of the program compute, stated as contracts over plain data; the conditions of each stand in its own statement.
-/
import Derived.Test.YtjgeggdefiejbaaGreatDoorN31
import Derived.Test.YtjgeggdefiejbaaGreatDoorN34
import Derived.Test.YtjgeggdefiejbaaGreatDoorRows
import Derived.Test.YtjgeggdefiejbaaGreatDoorN12
import Derived.OpenShut
import Derived.MakeChecks
import Derived.FnData
import Derived.LaidMore
import Derived.Test.YtjgeggdefiejbaaGreatDoorN29
import Derived.Test.YtjgeggdefiejbaaGreatDoorN13
set_option linter.unusedSimpArgs false
set_option linter.unusedVariables false
set_option maxRecDepth 100000
set_option maxHeartbeats 8000000
namespace Go.Proofs
open Go Go.Tr
def pwG : Topo := ⟨[⟨1, true⟩, ⟨2, true⟩, ⟨3, true⟩], [⟨1, 2, 1, 1, 0⟩, ⟨2, 3, 1, 1, 0⟩]⟩
def pwP : Pn := ⟨0, 8, [⟨3, 1⟩]⟩
def pwL : List Tb := tabs pwG pwP pwG.rs
theorem pwP_ok : planB pwP = true := planB_ok (by decide) (by decide) (fun i j hj hi => by
 have hi : i < 1 := hi
 omega)
theorem pwG_ok : chkT pwG = 0 := by decide +kernel
theorem pwS : SmL pwL := ⟨by decide +kernel, fun b hb => chk_sm (tabs_chk pwG_ok pwP_ok b hb)⟩
theorem aw_b1 : oneB pwL 1 1 0 1 = 0 := by kernel_rfl
theorem aw_b2 : oneB pwL 1 1 0 2 = 0 := by kernel_rfl
theorem aw_e1 : endE pwL 1 0 1 1 = (false, 2, 0) := by kernel_rfl
theorem aw_e2 : endE pwL 1 0 2 1 = (true, 3, 0) := by kernel_rfl
theorem aw_rt : rtP pwL 1 1 0 = ([2, 3], 0) := by kernel_rfl
theorem awake35_c : Contract Tryz.prog 19 [] [] (.d (.bool true)) [] [] := by
 have ha := all11_c pwG ⟨by simp [pwG], by simp [pwG]⟩ pwP (by simp [pwP])
 have hall : all11 pwG pwP = (tabs pwG pwP pwG.rs, 0) := by unfold all11; rw [if_pos ⟨pwG_ok, pwP_ok⟩]
 rw [hall] at ha
 change Contract _ _ _ _ (allT pwL 0) _ _ at ha
 simp only [allT, topT, planT] at ha
 rw [show List.map Tb.cs pwL = tbs pwL from rfl] at ha
 have h1 := probe1_c pwL pwS 1 1 0 1
 have h2 := probe1_c pwL pwS 1 1 0 2
 have h3 := proute_c pwL pwS 1 1 0
 rw [aw_b1, show (0 : Int) % 8 = 0 from rfl, show (1 : Int).toNat = 1 from rfl, aw_e1] at h1
 rw [aw_b2, show (0 : Int) % 8 = 0 from rfl, show (2 : Int).toNat = 2 from rfl, aw_e2] at h2
 rw [aw_rt] at h3
 have h4 := intsF_c [2, 3] [2, 3] (by simp)
 simp only [ansT, kdE, ltE, decide_true, if_true, Bool.false_eq_true, if_false, ints, List.map] at h1 h2 h3 h4
 simp only [pwG, pwP, rts, lks, eds, List.map, Rt.cs, Lk.cs, Ed.cs] at ha
 generalize pwL = L at ha h1 h2 h3
 refine contract_of Tryz.func19 rfl (fun E0 => ?_)
 refine awp.sound (g := .mk) (ow := []) (kp := (fun k => k==0||k==1||k==2||k==3||k==5||k==6||k==7||k==8||k==9||k==10||k==12)) ?_
 rw [Tryz.ntmps19]
 simp -dsimp
 and_intros
 all_goals try first | omega | exact ⟨by kernel_rfl⟩ | rfl
 refine ALoop.of [] (fun k => k==0||k==1||k==2||k==3||k==5||k==6||k==7||k==8||k==9||k==10||k==12) (ι := { i : Nat // i ≤ 3 })
  (fun z => [(Pl.s 0, It.v (TV.d (D.bool false))), (Pl.o 1, It.box [TV.oref 600 z.1, TV.c (Value.slice none 0 0)]), (Pl.s 1, It.v (TV.ptr (Pl.o 1) 0)), (Pl.o 600, It.row 52 2 (dd (rts (gRts z.1))) false), (Pl.s 2, It.v (TV.d (D.int IntKind.i64 ((z.1 : Int) + 1))))])
  (fun z => 3 - z.1) ⟨0, by omega⟩ ?_ ?_
 ·exact GS.ownB' (.o 1) 0 600 (cs := [TV.c (Value.slice none 0 0), TV.c (Value.slice none 0 0)]) 52 2 rfl (by simp) (by simp) (by simp) (by simp [gRts, rts])
 rintro ⟨i, i1⟩
 have hgl : (rts (gRts i)).length = i := by simp [rts, gRts]
 by_cases hi : i < 3
 ·have hiz : (i : Int) + 1 ≤ 3 := by omega
  have hgs : gRts (i + 1) = gRts i ++ [⟨(i : Int) + 1, true⟩] := by simp [gRts, List.range_succ]
  simp -dsimp [hiz, hgl, wrap_i64 (n := (i : Int) + 1 + 1) (by omega) (by omega)]
  and_intros
  all_goals try first | omega | exact ⟨by kernel_rfl⟩ | rfl
  exact ⟨⟨i + 1, by omega⟩, GS.to (by simp [hgs, rts, Rt.cs]), by simp; omega⟩
 have hiz : ¬ (i : Int) + 1 ≤ 3 := by omega
 obtain rfl : i = 3 := by omega
 simp -dsimp [hiz]
 and_intros
 all_goals try first | omega | exact ⟨by kernel_rfl⟩ | rfl
 refine ACall.view [27] ?_
 have hg3 : rts (gRts 3) = [[D.int .i64 1, D.bool true], [D.int .i64 2, D.bool true], [D.int .i64 3, D.bool true]] := by rfl
 simp -dsimp [hg3]
 and_intros
 all_goals try first | omega | exact ⟨by kernel_rfl⟩ | rfl
 refine ACall.of ha [] 0 ?_
 simp -dsimp
 and_intros
 all_goals try first | omega | exact ⟨by kernel_rfl⟩ | rfl
 refine ACall.of h1 [] 0 ?_
 simp -dsimp
 and_intros
 all_goals try first | omega | exact ⟨by kernel_rfl⟩ | rfl
 refine ACall.of h2 [] 0 ?_
 simp -dsimp
 and_intros
 all_goals try first | omega | exact ⟨by kernel_rfl⟩ | rfl
 refine ACall.of h3 [] 0 ?_
 simp -dsimp
 and_intros
 all_goals try first | omega | exact ⟨by kernel_rfl⟩ | rfl
 refine ACall.of h4 [] 0 ?_
 simp -dsimp
 and_intros
 all_goals try first | omega | exact ⟨by kernel_rfl⟩ | rfl
 refine Fin.of ?_
 simp
end Go.Proofs

set_option linter.unusedSimpArgs false
set_option linter.unusedVariables false
set_option maxRecDepth 100000
set_option maxHeartbeats 8000000
namespace Go.Proofs
open Go Go.Tr
theorem plane12_c (p : Int) : Contract Tryz.prog 89 [.d (.int .i64 p)] [] (.d (.bool (inB p 0 7))) [] [] := by
 refine contract_of Tryz.func89 rfl (fun E0 => ?_)
 refine awp.sound (g := .mk) (ow := []) (kp := (fun k => k==0||k==2)) ?_
 rw [Tryz.ntmps89]
 by_cases h : 0 ≤ p
 ·simp -dsimp [h]
  refine Fin.of ?_
  simp [inB, h]
  omega
 ·simp -dsimp [h]
  refine Fin.of ?_
  simp [inB, h]
theorem next12_c (b : Tb) (hb : b.Sm) (id p : Int) : Contract Tryz.prog 36 [tblT b, .d (.int .i64 id), .d (.int .i64 p)] [] (.d (.int .i64 (nextV b id p))) [] [] := by
 refine contract_of Tryz.func36 rfl (fun E0 => ?_)
 refine awp.sound (g := .mk) (ow := []) (kp := (fun k => k==0||k==1||k==2||k==3||k==6||k==14)) ?_
 rw [Tryz.ntmps36]
 simp -dsimp [tblT]
 refine ACall.of (check11_c b hb.rows hb.nx) [] 0 ?_
 by_cases h0 : chk b = 0
 ·simp -dsimp [tblT, h0]
  refine ACall.of (plane12_c p) [] 0 ?_
  by_cases hp : 0 ≤ p ∧ p ≤ 7
  ·have e : inB p 0 7 = true := by simp [inB, hp]
   have hv : valB b p 0 = true := valB_iff.2 ⟨h0, hp, by omega, by omega⟩
   simp -dsimp [tblT, h0, e]
   and_intros
   all_goals try first | rfl | omega | exact ⟨by kernel_rfl⟩
   refine ACall.of (hop12_c b hb id p hp) [] 0 ?_
   simp -dsimp [tblT]
   and_intros
   all_goals try first | rfl | omega | exact ⟨by kernel_rfl⟩
   refine Fin.of ?_
   simp [nextV, hv]
  ·have e : inB p 0 7 = false := by
    cases h : inB p 0 7
    ·rfl
    ·exact absurd (by simpa [inB] using h) hp
   have hv : ¬ valB b p 0 = true := fun h => hp (valB_iff.1 h).2.1
   simp -dsimp [tblT, h0, e]
   and_intros
   all_goals try first | rfl | omega | exact ⟨by kernel_rfl⟩
   refine Fin.of ?_
   simp [nextV, hv]
 ·have hv : ¬ valB b p 0 = true := fun h => h0 (valB_iff.1 h).1
  simp -dsimp [tblT, h0]
  and_intros
  all_goals try first | rfl | omega | exact ⟨by kernel_rfl⟩
  refine Fin.of ?_
  simp [nextV, hv]
theorem GenV.find {g : Topo} {p : Pn} {l : List Tb} (h : GenV g p l) {b : Tb} (hb : b ∈ l) : findT l b.r = some b := by
 have h1 := tabs_asc (chkT_zero h.ok) p
 have h2 : ((tabs g p g.rs).map (·.r)).Pairwise (· < ·) := by rw [List.pairwise_map]; exact h1
 rw [← h.tab.rs, List.pairwise_map] at h2
 refine find_uniq hb (by simp) fun y hy e => ?_
 have e : y.r = b.r := of_decide_eq_true e
 obtain ⟨i, hi, rfl⟩ := List.getElem_of_mem hb
 obtain ⟨j, hj, rfl⟩ := List.getElem_of_mem hy
 have hp := List.pairwise_iff_getElem.1 h2
 rcases Nat.lt_trichotomy i j with hlt | rfl | hlt
 ·have := hp i j hi hj hlt; omega
 ·rfl
 ·have := hp j i hj hi hlt; omega
theorem GenV.sm {g : Topo} {p : Pn} {l : List Tb} (h : GenV g p l) : SmL l := (h.tab.tabV h.ok).sm
theorem GenV.rpos {g : Topo} {p : Pn} {l : List Tb} (h : GenV g p l) {b : Tb} (hb : b ∈ l) : b.r ≠ 0 := by
 have h1 : 1 ≤ b.r := (chk_parts (h.tab.ck b hb)).1.1.1
 omega
theorem plan_id {p : Pn} (hp : planB p = true) {e : Ed} (he : e ∈ p.es) : 1 ≤ e.id ∧ e.id ≤ 256 := by
 simp only [planB, decide_eq_true_eq] at hp
 obtain ⟨i, hi, rfl⟩ := List.getElem_of_mem he
 have h3 := hp.2.1 i hi
 simp only [edB, gid, Bool.and_eq_true] at h3
 have h4 := h3.1
 rw [List.getD_eq_getElem?_getD, List.getElem?_eq_getElem hi] at h4
 simpa [inB] using h4
theorem GenV.one {g : Topo} {p : Pn} {l : List Tb} (h : GenV g p l) {b : Tb} (hb : b ∈ l) {e : Ed} (he : e ∈ p.es) {en ttl : Int} (hn : 0 ≤ en ∧ en ≤ 1023) (ht : 0 ≤ ttl ∧ ttl ≤ 63) : oneB l b.r e.id en ttl = 0 := by
 have hT := h.tab.tabV h.ok
 have hsd := h.tab.sd b hb
 have hne : p.len ≠ 0 := fun z => by rw [h.len.1 z] at he; simp at he
 have hv : validLen p.len = true := h.val.resolve_left hne
 have hid := plan_id h.plan he
 have hs := plSet_le (id := e.id) hv
 unfold oneB
 rw [if_neg (by simp [hT.all]), h.find hb]
 simp only
 rw [hsd.2, if_neg]
 have : inB e.id 1 256 = true := inB_true hid
 simp only [hv, this, Bool.and_self, Bool.true_eq_false, false_or]
 omega
theorem pnext_law (L : List Int) (hL : ∀ x ∈ L, I64 x) : Contract Tryz.prog 6 [.d (ints L)] [] (.d (.bool true)) [] [] := by
 refine contract_of Tryz.func6 rfl (fun E0 => ?_)
 refine awp.sound (g := .mk) (ow := []) (kp := (fun k => k==0||k==2||k==3||k==5||k==6||k==8||k==10||k==11||k==12||k==13||k==24||k==26||k==27||k==28||k==29||k==33||k==34||k==35||k==36||k==40||k==63)) ?_
 rw [Tryz.ntmps6]
 simp -dsimp [ints]
 refine ACall.of (newF_c L) [] 3000 ?_
 simp -dsimp [ints]
 have kT : TapeF (L.take 2000, 0) := tape_newF L hL
 generalize (L.take 2000, 0) = T0 at kT ⊢
 have hc := tables_c T0 kT
 have hV := gTabs_v T0
 generalize gTabs T0 = G at hc hV
 obtain ⟨g, p, l, T1⟩ := G
 simp only [topT, planT] at hc hV
 refine ACall.of hc [.o 3009] 0 ?_
 have hsm := hV.sm
 have hln := hsm.n
 have hpe := hV.es
 simp -dsimp
 and_intros
 all_goals try first | omega | exact ⟨by kernel_rfl⟩ | rfl
 by_cases h0 : p.len = 0
 ·simp -dsimp [h0]
  and_intros
  all_goals try first | omega | exact ⟨by kernel_rfl⟩ | rfl
  refine ACall.of awake35_c [] 0 ?_
  simp -dsimp
  and_intros
  all_goals try first | omega | exact ⟨by kernel_rfl⟩ | rfl
  refine Fin.of ?_
  simp
 simp -dsimp [h0]
 and_intros
 all_goals try first | omega | exact ⟨by kernel_rfl⟩ | rfl
 refine ALoop.of [] (fun k => k==0||k==2||k==3||k==5||k==6||k==8||k==10||k==11||k==12||k==13||k==24||k==26||k==27||k==28||k==29||k==33||k==34||k==35||k==36||k==40||k==63) (ι := { i : Nat // i ≤ l.length })
  (fun z => [(Pl.o 5, It.box [TV.d (D.int IntKind.i64 p.subd), TV.d (D.int IntKind.i64 p.len), TV.d (D.sl (eds p.es))]), (Pl.s 5, It.v (TV.ptr (Pl.o 5) 0)), (Pl.s 6, It.v (TV.d (D.sl (tbs l)))), (Pl.s 26, It.v (TV.d (D.sl (tbs l)))), (Pl.s 27, It.v (TV.d (D.int IntKind.i64 l.length))), (Pl.s 28, It.v (TV.d (D.int IntKind.i64 z.1)))]) (fun z => l.length - z.1) ⟨0, by omega⟩ ?_ ?_
 ·exact GS.to (by simp [tbs])
 rintro ⟨i, i1⟩
 by_cases hi : i < l.length
 ·have hiz : (i : Int) < l.length := by omega
  have hge : l[i]? = some l[i] := List.getElem?_eq_getElem hi
  have hbm : l[i] ∈ l := List.getElem_mem hi
  obtain ⟨b, hb0⟩ : ∃ b, l[i] = b := ⟨_, rfl⟩
  rw [hb0] at hge hbm
  have hbs := hsm.t b hbm
  simp -dsimp [hiz, hi, hge, hb0, tbs, Tb.cs]
  and_intros
  all_goals try first | omega | exact ⟨by kernel_rfl⟩ | rfl
  refine ALoop.of [] (fun k => k==0||k==2||k==3||k==5||k==6||k==8||k==10||k==11||k==12||k==13||k==24||k==26||k==27||k==28||k==29||k==33||k==34||k==35||k==36||k==40||k==63) (ι := { k : Nat // k ≤ p.es.length })
   (fun z => [(Pl.o 5, It.box [TV.d (D.int IntKind.i64 p.subd), TV.d (D.int IntKind.i64 p.len), TV.d (D.sl (eds p.es))]), (Pl.s 5, It.v (TV.ptr (Pl.o 5) 0)), (Pl.s 6, It.v (TV.d (D.sl (tbs l)))), (Pl.s 26, It.v (TV.d (D.sl (tbs l)))), (Pl.s 27, It.v (TV.d (D.int IntKind.i64 l.length))), (Pl.s 28, It.v (TV.d (D.int IntKind.i64 i))), (Pl.o 8, It.box [TV.d (D.int IntKind.i64 b.r), TV.d (D.int IntKind.i64 b.sd), TV.d (D.int IntKind.i64 b.len), TV.d (rwsD b.rows)]), (Pl.s 8, It.v (TV.ptr (Pl.o 8) 0)), (Pl.s 33, It.v (TV.d (D.sl (eds p.es)))), (Pl.s 34, It.v (TV.d (D.int IntKind.i64 p.es.length))), (Pl.s 35, It.v (TV.d (D.int IntKind.i64 z.1)))]) (fun z => p.es.length - z.1) ⟨0, by omega⟩ ?_ ?_
  ·exact GS.to (by simp [tbs, eds, Tb.cs, rwsD])
  rintro ⟨k, k1⟩
  by_cases hk : k < p.es.length
  ·have hkz : (k : Int) < p.es.length := by omega
   have hke : p.es[k]? = some p.es[k] := List.getElem?_eq_getElem hk
   have hem : p.es[k] ∈ p.es := List.getElem_mem hk
   obtain ⟨e, he0⟩ : ∃ e, p.es[k] = e := ⟨_, rfl⟩
   rw [he0] at hke hem
   simp -dsimp [hkz, hk, hke, he0, eds, Ed.cs]
   and_intros
   all_goals try first | omega | exact ⟨by kernel_rfl⟩ | rfl
   refine ALoop.of [] (fun k => k==0||k==2||k==3||k==5||k==6||k==8||k==10||k==11||k==12||k==13||k==24||k==26||k==27||k==28||k==29||k==33||k==34||k==35||k==36||k==40||k==63) (ι := { j : Nat // j ≤ 8 })
    (fun z => [(Pl.o 5, It.box [TV.d (D.int IntKind.i64 p.subd), TV.d (D.int IntKind.i64 p.len), TV.d (D.sl (eds p.es))]), (Pl.s 5, It.v (TV.ptr (Pl.o 5) 0)), (Pl.s 6, It.v (TV.d (D.sl (tbs l)))), (Pl.s 26, It.v (TV.d (D.sl (tbs l)))), (Pl.s 27, It.v (TV.d (D.int IntKind.i64 l.length))), (Pl.s 28, It.v (TV.d (D.int IntKind.i64 i))), (Pl.o 8, It.box [TV.d (D.int IntKind.i64 b.r), TV.d (D.int IntKind.i64 b.sd), TV.d (D.int IntKind.i64 b.len), TV.d (rwsD b.rows)]), (Pl.s 8, It.v (TV.ptr (Pl.o 8) 0)), (Pl.s 33, It.v (TV.d (D.sl (eds p.es)))), (Pl.s 34, It.v (TV.d (D.int IntKind.i64 p.es.length))), (Pl.s 35, It.v (TV.d (D.int IntKind.i64 k))), (Pl.o 10, It.box [TV.d (D.int IntKind.i64 e.r), TV.d (D.int IntKind.i64 e.id)]), (Pl.s 10, It.v (TV.ptr (Pl.o 10) 0)), (Pl.s 11, It.v (TV.d (D.int IntKind.i64 z.1)))]) (fun z => 8 - z.1) ⟨0, by omega⟩ ?_ ?_
   ·exact GS.to (by simp [tbs, eds, Ed.cs, Tb.cs, rwsD])
   rintro ⟨j, j1⟩
   by_cases hj : j < 8
   ·have hjz : (j : Int) < 8 := by omega
    have h1 := pnext_c l hsm b.r e.id j
    rw [nxtP_hop (hV.find hbm) (hV.rpos hbm) (hV.one hbm hem ⟨by omega, by omega⟩ ⟨by omega, by omega⟩) ⟨by omega, by omega⟩] at h1
    have h2 := next12_c b hbs e.id j
    rw [nextV_hop (hV.tab.ck b hbm) ⟨by omega, by omega⟩] at h2
    simp only [tblT] at h2
    simp -dsimp [hjz, hj, tbs]
    and_intros
    all_goals try first | omega | exact ⟨by kernel_rfl⟩ | rfl
    refine ACall.of h1 [] 0 ?_
    simp -dsimp
    and_intros
    all_goals try first | omega | exact ⟨by kernel_rfl⟩ | rfl
    refine ACall.of h2 [] 0 ?_
    simp -dsimp [wrap_i64 (n := (j : Int) + 1) (by omega) (by omega)]
    and_intros
    all_goals try first | omega | exact ⟨by kernel_rfl⟩ | rfl
    exact ⟨⟨j + 1, by omega⟩, GS.to (by simp [tbs, eds]), by simp; omega⟩
   have hjz : ¬ (j : Int) < 8 := by omega
   obtain rfl : j = 8 := by omega
   simp -dsimp [hjz, wrap_i64 (n := (k : Int) + 1) (by omega) (by omega)]
   and_intros
   all_goals try first | omega | exact ⟨by kernel_rfl⟩ | rfl
   exact ⟨⟨k + 1, by omega⟩, GS.to (by simp [tbs, eds, Tb.cs, rwsD]), by simp; omega⟩
  have hkz : ¬ (k : Int) < p.es.length := by omega
  obtain rfl : k = p.es.length := by omega
  simp -dsimp [hkz, wrap_i64 (n := (i : Int) + 1) (by omega) (by omega)]
  and_intros
  all_goals try first | omega | exact ⟨by kernel_rfl⟩ | rfl
  exact ⟨⟨i + 1, by omega⟩, GS.to (by simp [tbs, eds]), by simp; omega⟩
 have hiz : ¬ (i : Int) < l.length := by omega
 obtain rfl : i = l.length := by omega
 simp -dsimp [hiz]
 and_intros
 all_goals try first | omega | exact ⟨by kernel_rfl⟩ | rfl
 refine ACall.of awake35_c [] 0 ?_
 simp -dsimp
 and_intros
 all_goals try first | omega | exact ⟨by kernel_rfl⟩ | rfl
 refine Fin.of ?_
 simp
end Go.Proofs

set_option linter.unusedSimpArgs false
namespace Go.Proofs.YtjgeggdefiejbaaGreatDoor
open Go Go.Tr
set_option maxRecDepth 100000
def laidT : List (String × DataW Unit) := [("math/bits.deBruijn64tab", Rows.laid_math_bits_deBruijn64tab)]
theorem gDeb : Tryz.prog.globalNamed "math/bits.deBruijn64tab" = some 0 := by kernel_rfl
theorem tDeb : (Tryz.prog.globals[0]?).map (·.type) = some 191 := by kernel_rfl
theorem uDeb : Tryz.prog.underlying 191 = some (.array 64 5) := by kernel_rfl
theorem uByte : Tryz.prog.underlying 5 = some (.int .u8) := by kernel_rfl
theorem cByte : Tryz.prog.cellsOf 5 = 1 := by kernel_rfl
theorem debData {H : Type} : (Rows.laid_math_bits_deBruijn64tab : DataW H) = .agg (deb.map fun n => .lit (.int .u8 n)) := rfl
theorem glob_of_laid {W : World} (h : laidMetH Tryz.prog laidT W) : GlobW W := by
 rw [MakeChecks.laidMetH_plain _ _ _ (by kernel_rfl)] at h
 obtain ⟨ps, ⟨g0, t0, cs0, f0, p0, q0, hg0, ht0, hv0, hd0, _⟩, _, _⟩ := h
 obtain rfl := Option.some.inj (gDeb.symm.trans hg0)
 obtain rfl := Option.some.inj (tDeb.symm.trans ht0)
 obtain ⟨xs, m1, rfl, hx1, hlen, hn, hel⟩ := DataW.trod_array uDeb hd0
 simp only [Prod.mk.injEq, debData, DataW.agg.injEq] at hx1
 have hcell : ∀ i : Nat, i < 64 → cs0[i]? = some (.int .u8 (deb.getD i 0)) := fun i hi => by
  have h1 := hel i hi
  rw [cByte, Nat.mul_one] at h1
  have h2 : xs[i]? = some xs[i] := List.getElem?_eq_getElem (by omega)
  rw [h2] at h1
  obtain ⟨n, e1, e2, _⟩ := DataW.trod_int uByte h1
  have h3 : (xs.map (·.1))[i]? = (deb.map fun n => (DataW.lit (Lit.int .u8 n) : DataW Unit))[i]? := by rw [← hx1.1]
  rw [List.getElem?_map, h2, Option.map_some, e2, List.getElem?_map] at h3
  have h4 : deb[i]? = some n := by
   cases hd : deb[i]? with
   | none => rw [hd] at h3; simp at h3
   | some k => rw [hd] at h3; simp at h3; rw [h3]
  have h5 : cs0.toList[i]? = some (.int .u8 n) := by
   have := congrArg (fun l => l[0]?) e1
   simp only [List.getElem?_take, List.getElem?_drop] at this
   simpa using this
  rw [List.getD_eq_getElem?_getD, h4, Option.getD_some]
  simpa using h5
 have hbl : 0 < W.heap.size := by
  have := World.var?_cell hg0 hv0 0
  rw [hcell 0 (by omega)] at this
  exact World.block_lt_of_cell? W ⟨0, 0, none⟩ this
 intro y hy
 simp only [globs, List.mem_singleton] at hy
 subst hy
 refine RepCells.of_get fun i x hx => ?_
 simp only [List.getElem?_map, Option.map_eq_some_iff] at hx
 obtain ⟨n, h1, rfl⟩ := hx
 have hi : i < 64 := (List.getElem?_eq_some_iff.1 h1).1
 refine ⟨hbl, .int .u8 n, ?_, by simp only [Rep]⟩
 have := World.var?_cell hg0 hv0 i
 rw [hcell i hi, List.getD_eq_getElem?_getD, h1, Option.getD_some] at this
 rw [Nat.zero_add]
 exact this
end Go.Proofs.YtjgeggdefiejbaaGreatDoor

namespace Go.Proofs
open Go Go.Tr
end Go.Proofs

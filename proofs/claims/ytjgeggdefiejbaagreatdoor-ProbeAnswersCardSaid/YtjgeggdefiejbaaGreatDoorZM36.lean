/-
  What functions of the program compute, stated as contracts over plain data; the conditions of each stand in its own statement.
-/
import Derived.Test.YtjgeggdefiejbaaGreatDoorZM32
import Derived.Test.YtjgeggdefiejbaaGreatDoorZM35
set_option linter.unusedSimpArgs false
set_option linter.unusedVariables false
set_option maxRecDepth 100000
set_option maxHeartbeats 8000000
namespace Go.Proofs
open Go Go.Tr
def pwG : Topo := ⟨[⟨1, true⟩, ⟨2, true⟩, ⟨3, true⟩], [⟨1, 2, 1, 1, 0⟩, ⟨2, 3, 1, 1, 0⟩]⟩
def pwP : Pn := ⟨0, 8, [⟨3, 1⟩]⟩
def pwL : List Tb := tabs pwG pwP pwG.rs
theorem pwP_ok : planB pwP = true := planB_ok (by decide) (by decide) (fun i j hj hi => by
 have hi : i < 1 := hi
 omega)
theorem pwG_ok : chkT pwG = 0 := by decide +kernel
theorem pwS : SmL pwL := ⟨by decide +kernel, fun b hb => chk_sm (tabs_chk pwG_ok pwP_ok b hb)⟩
theorem aw_b1 : oneB pwL 1 1 0 1 = 0 := by kernel_rfl
theorem aw_b2 : oneB pwL 1 1 0 2 = 0 := by kernel_rfl
theorem aw_e1 : endE pwL 1 0 1 1 = (false, 2, 0) := by kernel_rfl
theorem aw_e2 : endE pwL 1 0 2 1 = (true, 3, 0) := by kernel_rfl
theorem aw_rt : rtP pwL 1 1 0 = ([2, 3], 0) := by kernel_rfl
theorem awake35_c : Contract Tryz.prog 19 [] [] (.d (.bool true)) [] [] := by
 have ha := all11_c pwG ⟨by simp [pwG], by simp [pwG]⟩ pwP (by simp [pwP])
 have hall : all11 pwG pwP = (tabs pwG pwP pwG.rs, 0) := by unfold all11; rw [if_pos ⟨pwG_ok, pwP_ok⟩]
 rw [hall] at ha
 change Contract _ _ _ _ (allT pwL 0) _ _ at ha
 simp only [allT, topT, planT] at ha
 rw [show List.map Tb.cs pwL = tbs pwL from rfl] at ha
 have h1 := probe1_c pwL (.inl pwS) 1 1 0 1
 have h2 := probe1_c pwL (.inl pwS) 1 1 0 2
 have h3 := proute_c pwL (.inl pwS) 1 1 0
 rw [aw_b1, show (0 : Int) % 8 = 0 from rfl, show (1 : Int).toNat = 1 from rfl, aw_e1] at h1
 rw [aw_b2, show (0 : Int) % 8 = 0 from rfl, show (2 : Int).toNat = 2 from rfl, aw_e2] at h2
 rw [aw_rt] at h3
 have h4 := intsF_c [2, 3] [2, 3] (by simp)
 simp only [ansT, kdE, ltE, decide_true, if_true, Bool.false_eq_true, if_false, ints, List.map] at h1 h2 h3 h4
 simp only [pwG, pwP, rts, lks, eds, List.map, Rt.cs, Lk.cs, Ed.cs] at ha
 generalize pwL = L at ha h1 h2 h3
 refine contract_of Tryz.func19 rfl (fun E0 => ?_)
 refine awp.sound (g := .mk) (ow := []) (kp := (fun k => k==0||k==1||k==2||k==3||k==5||k==6||k==7||k==8||k==9||k==10||k==12)) ?_
 rw [Tryz.ntmps19]
 simp -dsimp
 and_intros
 all_goals try first | omega | exact ⟨by kernel_rfl⟩ | rfl
 refine ALoop.of [] (fun k => k==0||k==1||k==2||k==3||k==5||k==6||k==7||k==8||k==9||k==10||k==12) (ι := { i : Nat // i ≤ 3 })
  (fun z => [(Pl.s 0, It.v (.d (.bool false))), (Pl.o 1, It.box [TV.oref 600 z.1, TV.c (Value.slice none 0 0)]), (Pl.s 1, It.v (.ptr (Pl.o 1) 0)), (Pl.o 600, It.row 52 2 (dd (rts (gRts z.1))) false), (Pl.s 2, It.v (.d (.int .i64 ((z.1 : Int) + 1))))])
  (fun z => 3 - z.1) ⟨0, by omega⟩ ?_ ?_
 ·exact GS.ownB' (.o 1) 0 600 (cs := [TV.c (Value.slice none 0 0), TV.c (Value.slice none 0 0)]) 52 2 rfl (by simp) (by simp) (by simp) (by simp [gRts, rts])
 rintro ⟨i, i1⟩
 have hgl : (rts (gRts i)).length = i := by simp [rts, gRts]
 by_cases hi : i < 3
 ·have hiz : (i : Int) + 1 ≤ 3 := by omega
  have hgs : gRts (i + 1) = gRts i ++ [⟨(i : Int) + 1, true⟩] := by simp [gRts, List.range_succ]
  simp -dsimp [hiz, hgl, wrap_i64 (n := (i : Int) + 1 + 1) (by omega) (by omega)]
  and_intros
  all_goals try first | omega | exact ⟨by kernel_rfl⟩ | rfl
  exact ⟨⟨i + 1, by omega⟩, GS.to (by simp [hgs, rts, Rt.cs]), by simp; omega⟩
 have hiz : ¬ (i : Int) + 1 ≤ 3 := by omega
 obtain rfl : i = 3 := by omega
 simp -dsimp [hiz]
 and_intros
 all_goals try first | omega | exact ⟨by kernel_rfl⟩ | rfl
 refine ACall.view [27] ?_
 have hg3 : rts (gRts 3) = [[D.int .i64 1, D.bool true], [D.int .i64 2, D.bool true], [D.int .i64 3, D.bool true]] := by rfl
 simp -dsimp [hg3]
 and_intros
 all_goals try first | omega | exact ⟨by kernel_rfl⟩ | rfl
 refine ACall.of ha [] 0 ?_
 simp -dsimp
 and_intros
 all_goals try first | omega | exact ⟨by kernel_rfl⟩ | rfl
 refine ACall.of h1 [] 0 ?_
 simp -dsimp
 and_intros
 all_goals try first | omega | exact ⟨by kernel_rfl⟩ | rfl
 refine ACall.of h2 [] 0 ?_
 simp -dsimp
 and_intros
 all_goals try first | omega | exact ⟨by kernel_rfl⟩ | rfl
 refine ACall.of h3 [] 0 ?_
 simp -dsimp
 and_intros
 all_goals try first | omega | exact ⟨by kernel_rfl⟩ | rfl
 refine ACall.of h4 [] 0 ?_
 simp -dsimp
 and_intros
 all_goals try first | omega | exact ⟨by kernel_rfl⟩ | rfl
 refine Fin.of ?_
 simp
theorem GenV.find {g : Topo} {p : Pn} {l : List Tb} (h : GenV g p l) {b : Tb} (hb : b ∈ l) : findT l b.r = some b := by
 have h1 := tabs_asc (chkT_zero h.ok) p
 have h2 : ((tabs g p g.rs).map (·.r)).Pairwise (· < ·) := by rw [List.pairwise_map]; exact h1
 rw [← h.tab.rs, List.pairwise_map] at h2
 refine find_uniq hb (by simp) fun y hy e => ?_
 have e : y.r = b.r := of_decide_eq_true e
 obtain ⟨i, hi, rfl⟩ := List.getElem_of_mem hb
 obtain ⟨j, hj, rfl⟩ := List.getElem_of_mem hy
 have hp := List.pairwise_iff_getElem.1 h2
 rcases Nat.lt_trichotomy i j with hlt | rfl | hlt
 ·have := hp i j hi hj hlt; omega
 ·rfl
 ·have := hp j i hj hi hlt; omega
theorem GenV.sm {g : Topo} {p : Pn} {l : List Tb} (h : GenV g p l) : SmL l := (h.tab.tabV h.ok).sm
theorem plan_id {p : Pn} (hp : planB p = true) {e : Ed} (he : e ∈ p.es) : 1 ≤ e.id ∧ e.id ≤ 256 := by
 simp only [planB, decide_eq_true_eq] at hp
 obtain ⟨i, hi, rfl⟩ := List.getElem_of_mem he
 have h3 := hp.2.1 i hi
 simp only [edB, gid, Bool.and_eq_true] at h3
 have h4 := h3.1
 rw [List.getD_eq_getElem?_getD, List.getElem?_eq_getElem hi] at h4
 simpa [inB] using h4
theorem GenV.one {g : Topo} {p : Pn} {l : List Tb} (h : GenV g p l) {b : Tb} (hb : b ∈ l) {e : Ed} (he : e ∈ p.es) {en ttl : Int} (hn : 0 ≤ en ∧ en ≤ 1023) (ht : 0 ≤ ttl ∧ ttl ≤ 63) : oneB l b.r e.id en ttl = 0 := by
 have hT := h.tab.tabV h.ok
 have hsd := h.tab.sd b hb
 have hne : p.len ≠ 0 := fun z => by rw [h.len.1 z] at he; simp at he
 have hv : validLen p.len = true := h.val.resolve_left hne
 have hid := plan_id h.plan he
 have hs := plSet_le (id := e.id) hv
 unfold oneB
 rw [if_neg (by simp [hT.all]), h.find hb]
 simp only
 rw [hsd.2, if_neg]
 have : inB e.id 1 256 = true := inB_true hid
 simp only [hv, this, Bool.and_self, Bool.true_eq_false, false_or]
 omega
theorem four_of {x : List Int} (h : x.length = 4) : ∃ a b c d, x = [a, b, c, d] := by
 match x, h with
 | [a, b, c, d], _ => exact ⟨a, b, c, d, rfl⟩
theorem same35_c (a b : List (List Int)) (ha : ∀ x ∈ a, x.length = 4) (hb : ∀ x ∈ b, x.length = 4) (hl : a.length ≤ 1000000) : Contract Tryz.prog 26 [.d (.sl (irow a)), .d (.sl (irow b))] [] (.d (.bool (decide (a = b)))) [] [] := by
 refine contract_of Tryz.func26 rfl (fun E0 => ?_)
 refine awp.sound (g := .mk) (ow := []) (kp := (fun k => k==0||k==1||k==4||k==5||k==10||k==12||k==13||k==14||k==24)) ?_
 rw [Tryz.ntmps26]
 have la : (irow a).length = a.length := by simp [irow]
 have lb : (irow b).length = b.length := by simp [irow]
 by_cases hlen : a.length = b.length
 ·have hlz : (a.length : Int) = b.length := by omega
  simp -dsimp [la, lb, hlen]
  and_intros
  all_goals try first | omega | exact ⟨by kernel_rfl⟩ | rfl
  refine ALoop.of [] (fun k => k==0||k==1||k==4||k==5||k==10||k==12||k==13||k==14||k==24) (ι := { i : Nat // i ≤ b.length ∧ ∀ j, j < i → a[j]? = b[j]? }) (fun z => [(Pl.s 0, It.v (.d (.sl (irow a)))), (Pl.s 1, It.v (.d (.sl (irow b)))), (Pl.s 4, It.v (.d (.bool false))), (Pl.s 12, It.v (.d (.int .i64 b.length))), (Pl.s 13, It.v (.d (.int .i64 z.1)))]) (fun z => b.length - z.1) ⟨0, by omega, fun j h => by omega⟩ ?_ ?_
  ·exact GS.to (by simp)
  ·rintro ⟨i, i1, i2⟩
   by_cases hi' : i < b.length
   ·have hi : i < a.length := by omega
    have ga : a[i]? = some a[i] := List.getElem?_eq_getElem hi
    have gb : b[i]? = some b[i] := List.getElem?_eq_getElem hi'
    have hiz : (i : Int) < b.length := by omega
    have h4a := ha a[i] (List.getElem_mem hi)
    have h4b := hb b[i] (List.getElem_mem hi')
    generalize a[i] = x at ga h4a
    generalize b[i] = y at gb h4b
    obtain ⟨x0, x1, x2, x3, rfl⟩ := four_of h4a
    obtain ⟨y0, y1, y2, y3, rfl⟩ := four_of h4b
    have ga2 : (irow a)[i]? = some [D.int .i64 x0, D.int .i64 x1, D.int .i64 x2, D.int .i64 x3] := by simp [irow, ga]
    have gb2 : (irow b)[i]? = some [D.int .i64 y0, D.int .i64 y1, D.int .i64 y2, D.int .i64 y3] := by simp [irow, gb]
    have hc : (!decide (x0 = y0) || (!decide (x1 = y1) || (!decide (x2 = y2) || !decide (x3 = y3)))) = !decide (([x0, x1, x2, x3] : List Int) = [y0, y1, y2, y3]) := by
     by_cases c0 : x0 = y0 <;> by_cases c1 : x1 = y1 <;> by_cases c2 : x2 = y2 <;> by_cases c3 : x3 = y3 <;> simp [c0, c1, c2, c3]
    by_cases hxy : ([x0, x1, x2, x3] : List Int) = [y0, y1, y2, y3]
    ·obtain ⟨rfl, rfl, rfl, rfl⟩ : x0 = y0 ∧ x1 = y1 ∧ x2 = y2 ∧ x3 = y3 := by simpa using hxy
     simp -dsimp [hiz, ga2, gb2, wrap_i64 (n := (i : Int) + 1) (by omega) (by omega)]
     and_intros
     all_goals try first | omega | exact ⟨by kernel_rfl⟩ | rfl
     exact ⟨⟨i + 1, by omega, fun j hj => by
      by_cases e : j = i
      ·subst e; rw [ga, gb]
      ·exact i2 j (by omega)⟩, GS.to (by simp), by simp; omega⟩
    ·simp only [hxy, decide_false, Bool.not_false] at hc
     simp -dsimp [hiz, ga2, gb2, hc]
     and_intros
     all_goals try first | omega | exact ⟨by kernel_rfl⟩ | rfl
     refine Fin.of ?_
     have : a ≠ b := fun e => by
      subst e
      rw [ga] at gb
      exact hxy (Option.some.inj gb)
     simp [this]
   ·have hiz : ¬ (i : Int) < b.length := by omega
    simp -dsimp [hiz]
    refine Fin.of ?_
    have : a = b := List.ext_getElem? fun j => by
     by_cases hj : j < i
     ·exact i2 j hj
     ·rw [List.getElem?_eq_none (by omega), List.getElem?_eq_none (by omega)]
    simp [this]
 ·have hlen' : ¬ (a.length : Int) = b.length := by omega
  simp -dsimp [la, lb, hlen, hlen']
  refine Fin.of ?_
  have : a ≠ b := fun e => hlen (by rw [e])
  simp [this]
set_option maxHeartbeats 16000000
theorem and1 (B : BitVec 64) (i : Nat) : B >>> i &&& 1#64 = if B.getLsbD i = true then 1#64 else 0#64 := by
 rw [BitVec.and_one_eq_setWidth_ofBool_getLsbD, BitVec.getLsbD_ushiftRight, Nat.add_zero]
 cases B.getLsbD i <;> decide
def fD (k : Nat) (a : Int × Int × Int) (d : Int × Pk) : Int × Int × Int := if d.2.bits.getLsbD k = true then (1, d.1, d.2.ttl) else a
def fL (k : Nat) (a : Int × Int × Int) (x : Int × BitVec 64) : Int × Int × Int := if x.2.getLsbD k = true then (a.1, x.1, a.2.2) else a
def refA (U : Trc) (k : Nat) : Int × Int × Int := U.ls.foldl (fL k) (U.dl.foldl (fD k) (2, 0, 0))
theorem refA_ok {l : List Tb} {p : Pk} (hF : FitL l p) (r : Int) {k : Nat} (hk : k < 64) (hb : p.bits.getLsbD k = true) :
  refA (runG l (wt p) [(r, p)] tr0) k = (kdE (endE l (idAt p k) (plnP p) p.ttl.toNat r), (endE l (idAt p k) (plnP p) p.ttl.toNat r).2.1, ltE (endE l (idAt p k) (plnP p) p.ttl.toNat r)) := by
 have hW := run_endE hF r hk hb
 have h1 : ∀ (L : List (Int × Pk)) (a : Int × Int × Int), L.foldl (fD k) a = (L.filter fun d => d.2.bits.getLsbD k).foldl (fun _ d => (1, d.1, d.2.ttl)) a := fun L a => by
  rw [List.foldl_filter]; rfl
 have h2 : ∀ (L : List (Int × BitVec 64)) (a : Int × Int × Int), L.foldl (fL k) a = (L.filter fun x => x.2.getLsbD k).foldl (fun a x => (a.1, x.1, a.2.2)) a := fun L a => by
  rw [List.foldl_filter]; rfl
 unfold refA
 rw [h1, h2]
 have hd : ((runG l (wt p) [(r, p)] tr0).dl.filter fun d => d.2.bits.getLsbD k) = ((runG l (wt p) [(r, p)] tr0).at k).dl := rfl
 have hs : ((runG l (wt p) [(r, p)] tr0).ls.filter fun x => x.2.getLsbD k) = ((runG l (wt p) [(r, p)] tr0).at k).ls := rfl
 rw [hd, hs]
 have ht := ok_ttl hF.ok
 have hle := endE_le l (idAt p k) (plnP p) p.ttl.toNat r
 generalize endE l (idAt p k) (plnP p) p.ttl.toNat r = E at hW hle ⊢
 cases he : E.1 with
 | true =>
   obtain ⟨a1, a2⟩ := hW.yes he
   rw [a1, a2]
   simp only [List.foldl_cons, List.foldl_nil, kdE, ltE, he, if_true, pkD, Prod.mk.injEq, true_and]
   omega
 | false =>
   obtain ⟨a1, B, a2⟩ := hW.no he
   rw [a1, a2]
   simp [kdE, ltE, he]
def bitsU (B : BitVec 64) (i : Nat) : List Nat := (List.range i).filter fun k => B.getLsbD k
theorem bitsU_yes {B : BitVec 64} {i : Nat} (h : B.getLsbD i = true) : bitsU B (i + 1) = bitsU B i ++ [i] := by
 unfold bitsU; rw [List.range_succ, List.filter_append]; simp [h]
theorem bitsU_no {B : BitVec 64} {i : Nat} (h : B.getLsbD i = false) : bitsU B (i + 1) = bitsU B i := by
 unfold bitsU; rw [List.range_succ, List.filter_append]; simp [h]
theorem bitsU_len (B : BitVec 64) (i : Nat) : (bitsU B i).length ≤ i := Nat.le_trans (List.length_filter_le _ _) (by simp)
theorem send35_c (l : List Tb) (hl : Good l) (p : Pk) (r : Int) : Contract Tryz.prog 31 [.d (.sl (tbs l)), pkT p, .d (.int .i64 r)] [] (.tup [.d (.sl (irow (sendP l p r).1)), .d (.int .i64 (sendP l p r).2)]) [] [] := by
 have h1 := run14_g l hl p r
 have hfit := run_fitL (l := l) (p := p) (r := r)
 have hsm := run_small l p r
 have hS : sendP l p r = if (runR l p r).2 ≠ 0 then ([], (runR l p r).2) else if p.mode ≠ 3 then ([], 7) else if atAll p = true then (ansL l p r, 0) else ([], 2) := rfl
 rw [hS]
 simp only [pkT, Pk.cs, List.map, trcT] at h1
 refine contract_of Tryz.func31 rfl (fun E0 => ?_)
 refine awp.sound (g := .mk) (ow := [10]) (kp := (fun k => k==0||k==1||k==2||k==4||k==6||k==7||k==8||k==9||k==10||k==11||k==12||k==13||k==14||k==16||k==18||k==27||k==31||k==33||k==42||k==53||k==57||k==58||k==59||k==60||k==70||k==81||k==82||k==83||k==84||k==93)) ?_
 rw [Tryz.ntmps31]
 simp -dsimp [pkT, Pk.cs]
 try refine ⟨?_, ⟨by kernel_rfl⟩⟩
 refine ACall.of h1 [] 0 ?_
 by_cases he : ¬ (runR l p r).2 = 0
 ·rw [if_pos he]
  simp -dsimp [he]
  and_intros
  all_goals try first | omega | exact ⟨by kernel_rfl⟩ | rfl
  refine Fin.view 6 ?_
  simp -dsimp
  and_intros
  all_goals try first | omega | exact ⟨by kernel_rfl⟩ | rfl
  refine Fin.of ?_
  simp [irow]
 have he : (runR l p r).2 = 0 := Decidable.not_not.1 he
 rw [if_neg (fun h => h he)]
 by_cases hm : ¬ p.mode = 3
 ·rw [if_pos hm]
  simp -dsimp [he, hm]
  and_intros
  all_goals try first | omega | exact ⟨by kernel_rfl⟩ | rfl
  refine Fin.view 6 ?_
  simp -dsimp
  and_intros
  all_goals try first | omega | exact ⟨by kernel_rfl⟩ | rfl
  refine Fin.of ?_
  simp [irow]
 have hm : p.mode = 3 := Decidable.not_not.1 hm
 rw [if_neg (fun h => h hm)]
 obtain ⟨hF, hs, hR⟩ := hfit he
 rw [hR] at hsm ⊢
 have hrA := fun {k : Nat} (hk : k < 64) (hb : p.bits.getLsbD k = true) => refA_ok hF r hk hb
 have hU64 : ansL l p r = (bitsU p.bits 64).map (ansK l p r) := rfl
 rw [hU64]
 simp -dsimp [he, hm, hR]
 and_intros
 all_goals try first | omega | exact ⟨by kernel_rfl⟩ | rfl
 generalize runG l (wt p) [(r, p)] tr0 = U at hsm hrA
 simp only at hsm
 refine ALoop.of [10] (fun k => k==0||k==1||k==2||k==4||k==6||k==7||k==8||k==9||k==10||k==11||k==12||k==13||k==14||k==16||k==18||k==27||k==31||k==33||k==42||k==53||k==57||k==58||k==59||k==60||k==70||k==81||k==82||k==83||k==84||k==93) (ι := { i : Nat // i ≤ 64 ∧ ∀ k ∈ bitsU p.bits i, atB p.set k p.len = true })
  (fun z => [(Pl.o 4, It.box (p.cs.map .d)), (Pl.s 4, It.v (.ptr (Pl.o 4) 0)), (Pl.s 6, It.v (.c (Value.slice none 0 0))), (Pl.s 7, It.v (.d (.int .i64 0))), (Pl.o 8, It.box [TV.d (.sl (U.dl.map dlC)), TV.d (.sl (U.cr.map crC)), TV.d (.sl (U.ls.map lsC))]), (Pl.s 8, It.v (.ptr (Pl.o 8) 0)), (Pl.s 10, It.v (.oref 10 ((bitsU p.bits z.1).map (ansK l p r)).length)), (Pl.o 10, It.row 61 4 (dd (irow ((bitsU p.bits z.1).map (ansK l p r)))) false), (Pl.s 11, It.v (.d (.int .i64 z.1)))])
  (fun z => 64 - z.1) ⟨0, by omega, by simp [bitsU]⟩ ?_ ?_
 ·exact GS.own' (k := 10) 61 4 (by simp) (by simp) (by simp [bitsU, irow, Pk.cs, hm])
 rintro ⟨i, i1, i2⟩
 have hbl := bitsU_len p.bits i
 by_cases hi : i < 64
 ·have hiz : (i : Int) < 64 := by omega
  have ha1 := and1 p.bits i
  cases hb : p.bits.getLsbD i with
  | false =>
    rw [if_neg (by simp [hb])] at ha1
    have hs2 := bitsU_no hb
    simp -dsimp [hi, hiz, ha1, Pk.cs, bv, wrap_u64 (n := (i : Int)) (by omega) (by omega), wrap_i64 (n := (i : Int) + 1) (by omega) (by omega)]
    and_intros
    all_goals try first | omega | exact ⟨by kernel_rfl⟩ | rfl
    exact ⟨⟨i + 1, by omega, by rw [hs2]; exact i2⟩, GS.to (by simp [hs2, Pk.cs, bv]), by simp; omega⟩
  | true =>
    rw [if_pos hb] at ha1
    have hs2 := bitsU_yes hb
    have hat := at10_c p.set i p.len
    simp only [atT] at hat
    have hrk := hrA hi hb
    simp -dsimp [hi, hiz, ha1, Pk.cs, bv, wrap_u64 (n := (i : Int)) (by omega) (by omega)]
    and_intros
    all_goals try first | omega | exact ⟨by kernel_rfl⟩ | rfl
    refine ACall.of hat [] 0 ?_
    rcases (Bool.eq_false_or_eq_true (atB p.set i p.len)).symm with hA | hA
    ·have hno : ¬ atAll p = true := fun h => by
      have := List.all_eq_true.1 h i (mem_bitsL.2 ⟨hi, hb⟩)
      rw [hA] at this; simp at this
     rw [if_neg hno]
     simp -dsimp [hA]
     and_intros
     all_goals try first | omega | exact ⟨by kernel_rfl⟩ | rfl
     refine Fin.view 6 ?_
     simp -dsimp
     and_intros
     all_goals try first | omega | exact ⟨by kernel_rfl⟩ | rfl
     refine Fin.of ?_
     simp [irow]
    ·have hid : idAt p i = p.set * p.len + (i : Int) + 1 := by unfold idAt; rw [if_pos hA]
     simp -dsimp [hA]
     and_intros
     all_goals try first | omega | exact ⟨by kernel_rfl⟩ | rfl
     refine ALoop.of [10] (fun k => k==0||k==1||k==2||k==4||k==6||k==7||k==8||k==9||k==10||k==11||k==12||k==13||k==14||k==16||k==18||k==27||k==31||k==33||k==42||k==53||k==57||k==58||k==59||k==60||k==70||k==81||k==82||k==83||k==84||k==93) (ι := { j : Nat // j ≤ U.dl.length })
      (fun z => [(Pl.o 4, It.box (p.cs.map .d)), (Pl.s 4, It.v (.ptr (Pl.o 4) 0)), (Pl.s 6, It.v (.c (Value.slice none 0 0))), (Pl.s 7, It.v (.d (.int .i64 0))), (Pl.o 8, It.box [TV.d (.sl (U.dl.map dlC)), TV.d (.sl (U.cr.map crC)), TV.d (.sl (U.ls.map lsC))]), (Pl.s 8, It.v (.ptr (Pl.o 8) 0)), (Pl.s 10, It.v (.oref 10 ((bitsU p.bits i).map (ansK l p r)).length)), (Pl.o 10, It.row 61 4 (dd (irow ((bitsU p.bits i).map (ansK l p r)))) false), (Pl.s 11, It.v (.d (.int .i64 i))), (Pl.o 14, It.box [TV.d (.int .i64 ((U.dl.take z.1).foldl (fD i) (2, 0, 0)).1), TV.d (.int .i64 ((U.dl.take z.1).foldl (fD i) (2, 0, 0)).2.1), TV.d (.int .i64 (idAt p i)), TV.d (.int .i64 ((U.dl.take z.1).foldl (fD i) (2, 0, 0)).2.2)]), (Pl.s 14, It.v (.ptr (Pl.o 14) 0)), (Pl.s 57, It.v (.d (.sl (U.dl.map dlC)))), (Pl.s 58, It.v (.d (.int .i64 U.dl.length))), (Pl.s 59, It.v (.d (.int .i64 z.1)))])
      (fun z => U.dl.length - z.1) ⟨0, by omega⟩ ?_ ?_
     ·exact GS.to (by simp [Pk.cs, bv, hid])
     rintro ⟨j, j1⟩
     by_cases hj : j < U.dl.length
     ·have hjz : (j : Int) < U.dl.length := by omega
      have hge : U.dl[j]? = some U.dl[j] := List.getElem?_eq_getElem hj
      obtain ⟨d, hd0⟩ : ∃ d, U.dl[j] = d := ⟨_, rfl⟩
      rw [hd0] at hge
      have hst : (U.dl.take (j + 1)).foldl (fD i) (2, 0, 0) = fD i ((U.dl.take j).foldl (fD i) (2, 0, 0)) d := by rw [List.take_add_one, hge, List.foldl_append]; rfl
      have ha2 := and1 d.2.bits i
      generalize (U.dl.take j).foldl (fD i) (2, 0, 0) = a at hst
      cases hdb : d.2.bits.getLsbD i with
      | false =>
        rw [if_neg (by simp [hdb])] at ha2
        have hst2 : fD i a d = a := by unfold fD; rw [if_neg (by simp [hdb])]
        rw [hst2] at hst
        simp -dsimp [hj, hjz, hge, hd0, dlC, Pk.cs, bv, ha2, wrap_u64 (n := (i : Int)) (by omega) (by omega), wrap_i64 (n := (j : Int) + 1) (by omega) (by omega)]
        and_intros
        all_goals try first | omega | exact ⟨by kernel_rfl⟩ | rfl
        exact ⟨⟨j + 1, by omega⟩, GS.to (by simp [hst, Pk.cs, bv]), by simp; omega⟩
      | true =>
        rw [if_pos hdb] at ha2
        have hst2 : fD i a d = (1, d.1, d.2.ttl) := by unfold fD; rw [if_pos hdb]
        rw [hst2] at hst
        simp -dsimp [hj, hjz, hge, hd0, dlC, Pk.cs, bv, ha2, wrap_u64 (n := (i : Int)) (by omega) (by omega), wrap_i64 (n := (j : Int) + 1) (by omega) (by omega)]
        and_intros
        all_goals try first | omega | exact ⟨by kernel_rfl⟩ | rfl
        exact ⟨⟨j + 1, by omega⟩, GS.to (by simp [hst, Pk.cs, bv]), by simp; omega⟩
     have hjz : ¬ (j : Int) < U.dl.length := by omega
     obtain rfl : j = U.dl.length := by omega
     simp only [List.take_length]
     unfold refA at hrk
     generalize U.dl.foldl (fD i) (2, 0, 0) = a at hrk
     simp -dsimp [hjz]
     and_intros
     all_goals try first | omega | exact ⟨by kernel_rfl⟩ | rfl
     refine ALoop.of [10] (fun k => k==0||k==1||k==2||k==4||k==6||k==7||k==8||k==9||k==10||k==11||k==12||k==13||k==14||k==16||k==18||k==27||k==31||k==33||k==42||k==53||k==57||k==58||k==59||k==60||k==70||k==81||k==82||k==83||k==84||k==93) (ι := { j : Nat // j ≤ U.ls.length })
      (fun z => [(Pl.o 4, It.box (p.cs.map .d)), (Pl.s 4, It.v (.ptr (Pl.o 4) 0)), (Pl.s 6, It.v (.c (Value.slice none 0 0))), (Pl.s 7, It.v (.d (.int .i64 0))), (Pl.o 8, It.box [TV.d (.sl (U.dl.map dlC)), TV.d (.sl (U.cr.map crC)), TV.d (.sl (U.ls.map lsC))]), (Pl.s 8, It.v (.ptr (Pl.o 8) 0)), (Pl.s 10, It.v (.oref 10 ((bitsU p.bits i).map (ansK l p r)).length)), (Pl.o 10, It.row 61 4 (dd (irow ((bitsU p.bits i).map (ansK l p r)))) false), (Pl.s 11, It.v (.d (.int .i64 i))), (Pl.o 14, It.box [TV.d (.int .i64 ((U.ls.take z.1).foldl (fL i) a).1), TV.d (.int .i64 ((U.ls.take z.1).foldl (fL i) a).2.1), TV.d (.int .i64 (idAt p i)), TV.d (.int .i64 ((U.ls.take z.1).foldl (fL i) a).2.2)]), (Pl.s 14, It.v (.ptr (Pl.o 14) 0)), (Pl.s 81, It.v (.d (.sl (U.ls.map lsC)))), (Pl.s 82, It.v (.d (.int .i64 U.ls.length))), (Pl.s 83, It.v (.d (.int .i64 z.1)))])
      (fun z => U.ls.length - z.1) ⟨0, by omega⟩ ?_ ?_
     ·exact GS.to (by simp [Pk.cs, bv])
     rintro ⟨j, j1⟩
     by_cases hj : j < U.ls.length
     ·have hjz : (j : Int) < U.ls.length := by omega
      have hge : U.ls[j]? = some U.ls[j] := List.getElem?_eq_getElem hj
      obtain ⟨d, hd0⟩ : ∃ d, U.ls[j] = d := ⟨_, rfl⟩
      rw [hd0] at hge
      have hst : (U.ls.take (j + 1)).foldl (fL i) a = fL i ((U.ls.take j).foldl (fL i) a) d := by rw [List.take_add_one, hge, List.foldl_append]; rfl
      have ha2 := and1 d.2 i
      generalize (U.ls.take j).foldl (fL i) a = a' at hst
      cases hdb : d.2.getLsbD i with
      | false =>
        rw [if_neg (by simp [hdb])] at ha2
        have hst2 : fL i a' d = a' := by unfold fL; rw [if_neg (by simp [hdb])]
        rw [hst2] at hst
        simp -dsimp [hj, hjz, hge, hd0, lsC, bv, ha2, wrap_u64 (n := (i : Int)) (by omega) (by omega), wrap_i64 (n := (j : Int) + 1) (by omega) (by omega)]
        and_intros
        all_goals try first | omega | exact ⟨by kernel_rfl⟩ | rfl
        exact ⟨⟨j + 1, by omega⟩, GS.to (by simp [hst, Pk.cs, bv]), by simp; omega⟩
      | true =>
        rw [if_pos hdb] at ha2
        have hst2 : fL i a' d = (a'.1, d.1, a'.2.2) := by unfold fL; rw [if_pos hdb]
        rw [hst2] at hst
        simp -dsimp [hj, hjz, hge, hd0, lsC, bv, ha2, wrap_u64 (n := (i : Int)) (by omega) (by omega), wrap_i64 (n := (j : Int) + 1) (by omega) (by omega)]
        and_intros
        all_goals try first | omega | exact ⟨by kernel_rfl⟩ | rfl
        exact ⟨⟨j + 1, by omega⟩, GS.to (by simp [hst, Pk.cs, bv]), by simp; omega⟩
     have hjz : ¬ (j : Int) < U.ls.length := by omega
     obtain rfl : j = U.ls.length := by omega
     simp only [List.take_length, hrk]
     have hak : ansK l p r i = [kdE (endE l (idAt p i) (plnP p) p.ttl.toNat r), (endE l (idAt p i) (plnP p) p.ttl.toNat r).2.1, idAt p i, ltE (endE l (idAt p i) (plnP p) p.ttl.toNat r)] := ansE_eq _ _
     generalize endE l (idAt p i) (plnP p) p.ttl.toNat r = E at hak
     have hil : (irow ((bitsU p.bits i).map (ansK l p r))).length = (bitsU p.bits i).length := by simp [irow]
     simp -dsimp [hjz, hil, wrap_i64 (n := (i : Int) + 1) (by omega) (by omega)]
     and_intros
     all_goals try first | omega | exact ⟨by kernel_rfl⟩ | rfl | (simp [irow]; done) | (simp [irow]; omega)
     exact ⟨⟨i + 1, by omega, fun k hk => by
      rw [hs2] at hk
      rcases List.mem_append.1 hk with hk | hk
      ·exact i2 k hk
      ·obtain rfl := List.mem_singleton.1 hk
       exact hA⟩, GS.to (by simp [hs2, hak, irow, Pk.cs, bv]), by simp; omega⟩
 have hiz : ¬ (i : Int) < 64 := by omega
 obtain rfl : i = 64 := by omega
 have hA : atAll p = true := List.all_eq_true.2 fun k hk => i2 k hk
 rw [if_pos hA]
 simp -dsimp [hiz]
 and_intros
 all_goals try first | omega | exact ⟨by kernel_rfl⟩ | rfl
 refine Fin.view 6 ?_
 simp -dsimp
 and_intros
 all_goals try first | omega | exact ⟨by kernel_rfl⟩ | rfl | (simp [irow]; done)
 refine Fin.of ?_
 simp [irow]
theorem one35_c (l : List Tb) (hl : Good l) (r id en ttl : Int) : Contract Tryz.prog 32 [.d (.sl (tbs l)), .d (.int .i64 r), .d (.int .i64 id), .d (.int .i64 en), .d (.int .i64 ttl)] [] (.tup [ansT (decide (oneB l r id en ttl = 0)) (endE l id (en % 8) ttl.toNat r) id, .d (.int .i64 (oneB l r id en ttl))]) [] [] := by
 have hck := checkA11_cL l hl.big
 refine contract_of Tryz.func32 rfl (fun E0 => ?_)
 refine awp.sound (g := .mk) (ow := []) (kp := (fun k => k==0||k==1||k==2||k==3||k==4||k==10||k==11||k==12||k==13||k==14||k==15||k==16||k==17||k==18||k==19||k==22||k==31||k==62||k==88)) ?_
 rw [Tryz.ntmps32]
 simp -dsimp
 and_intros
 all_goals try first | omega | exact ⟨by kernel_rfl⟩ | rfl
 refine ACall.of hck [] 0 ?_
 by_cases hA : ¬ chkA l = 0
 ·have hB : oneB l r id en ttl = 1 := by unfold oneB; rw [if_pos hA]
  rw [hB]
  simp -dsimp [hA]
  and_intros
  all_goals try first | omega | exact ⟨by kernel_rfl⟩ | rfl
  refine Fin.of ?_
  simp [ansT]
 have hA : chkA l = 0 := Decidable.not_not.1 hA
 have hf := find11_c l (hl.sm hA) r
 cases hfT : findT l r with
 | none =>
   have hB : oneB l r id en ttl = 4 := by unfold oneB; rw [if_neg (by simp [hA]), hfT]
   rw [hB]
   rw [hfT] at hf
   simp only [foundT, Option.getD_none, Option.isSome_none, tblT, tb0] at hf
   simp -dsimp [hA]
   and_intros
   all_goals try first | omega | exact ⟨by kernel_rfl⟩ | rfl
   refine ACall.of hf [] 0 ?_
   simp -dsimp
   and_intros
   all_goals try first | omega | exact ⟨by kernel_rfl⟩ | rfl
   refine Fin.of ?_
   simp [ansT]
 | some b =>
   rw [hfT] at hf
   simp only [foundT, Option.getD_some, Option.isSome_some, tblT] at hf
   have hpl := place10_c id b.len
   simp only [placeT] at hpl
   have hB : oneB l r id en ttl = if (validLen b.len && inB id 1 256) = false ∨ 31 < plSet id b.len ∨ en < 0 ∨ 1023 < en ∨ ttl < 0 ∨ 63 < ttl then 2 else 0 := by unfold oneB; rw [if_neg (by simp [hA]), hfT]
   simp -dsimp [hA]
   and_intros
   all_goals try first | omega | exact ⟨by kernel_rfl⟩ | rfl
   refine ACall.of hf [] 0 ?_
   simp -dsimp
   and_intros
   all_goals try first | omega | exact ⟨by kernel_rfl⟩ | rfl
   refine ACall.of hpl [] 0 ?_
   rcases (Bool.eq_false_or_eq_true (validLen b.len && inB id 1 256)).symm with hv | hv
   ·rw [if_pos (by simp [hv])] at hB
    rw [hB]
    simp -dsimp [hv]
    and_intros
    all_goals try first | omega | exact ⟨by kernel_rfl⟩ | rfl
    refine Fin.of ?_
    simp [ansT]
   ·by_cases hs : 31 < plSet id b.len
    ·rw [if_pos (by simp [hv, hs])] at hB
     rw [hB]
     simp -dsimp [hv, hs]
     and_intros
     all_goals try first | omega | exact ⟨by kernel_rfl⟩ | rfl
     refine Fin.of ?_
     simp [ansT]
    by_cases he0 : en < 0
    ·rw [if_pos (by simp [hv, hs, he0])] at hB
     rw [hB]
     simp -dsimp [hv, hs, he0]
     and_intros
     all_goals try first | omega | exact ⟨by kernel_rfl⟩ | rfl
     refine Fin.of ?_
     simp [ansT]
    by_cases he1 : 1023 < en
    ·rw [if_pos (by simp [hv, hs, he0, he1])] at hB
     rw [hB]
     simp -dsimp [hv, hs, he0, he1]
     and_intros
     all_goals try first | omega | exact ⟨by kernel_rfl⟩ | rfl
     refine Fin.of ?_
     simp [ansT]
    by_cases ht0 : ttl < 0
    ·rw [if_pos (by simp [hv, hs, he0, he1, ht0])] at hB
     rw [hB]
     simp -dsimp [hv, hs, he0, he1, ht0]
     and_intros
     all_goals try first | omega | exact ⟨by kernel_rfl⟩ | rfl
     refine Fin.of ?_
     simp [ansT]
    by_cases ht1 : 63 < ttl
    ·rw [if_pos (by simp [hv, hs, he0, he1, ht0, ht1])] at hB
     rw [hB]
     simp -dsimp [hv, hs, he0, he1, ht0, ht1]
     and_intros
     all_goals try first | omega | exact ⟨by kernel_rfl⟩ | rfl
     refine Fin.of ?_
     simp [ansT]
    rw [if_neg (by simp [hv]; omega)] at hB
    rw [hB]
    have hS := send35_c l hl (pkOne b id en ttl) r
    rw [one_ok hA hfT hv ⟨by omega, by omega⟩ ⟨by omega, by omega⟩, ansE_eq] at hS
    simp only [pkT, Pk.cs, pkOne, List.map, irow, bv] at hS
    have hpb := plB id b.len
    have hsh : (1#64 <<< (plBit id b.len).toNat) = bitB (plBit id b.len) := by
     unfold bitB
     rw [if_neg (by omega), wrap_u64 (by omega) (by omega)]
    simp -dsimp [hv, hs, he0, he1, ht0, ht1, hsh, wrap_u64 (n := plBit id b.len) (by omega) (by omega)]
    and_intros
    all_goals try first | omega | exact ⟨by kernel_rfl⟩ | rfl
    refine ACall.of hS [] 0 ?_
    simp -dsimp
    and_intros
    all_goals try first | omega | exact ⟨by kernel_rfl⟩ | rfl | exact hsh
    refine Fin.of ?_
    simp [ansT]
theorem nxt_clamp (l : List Tb) (r id pl : Int) : nxtP l r id pl = if oneB l r id (max 0 (min pl 1023)) 1 ≠ 0 then (0, oneB l r id (max 0 (min pl 1023)) 1) else if pl < 0 ∨ 8 ≤ pl then (0, 2) else
  if (endE l id ((max 0 (min pl 1023)) % 8) 1 r).2.1 ≠ r ∨ kdE (endE l id ((max 0 (min pl 1023)) % 8) 1 r) = 1 then ((endE l id ((max 0 (min pl 1023)) % 8) 1 r).2.1, 0) else (0, 0) := by
 by_cases hp : 0 ≤ pl ∧ pl ≤ 1023
 ·rw [show max 0 (min pl 1023) = pl by omega]
  unfold nxtP
  by_cases h1 : oneB l r id pl 1 ≠ 0
  ·rw [if_pos h1, if_pos h1]
  ·rw [if_neg h1, if_neg h1]
   by_cases h2 : pl < 0 ∨ 8 ≤ pl
   ·rw [if_pos h2, if_pos h2]
   ·rw [if_neg h2, if_neg h2]
    by_cases h3 : (endE l id (pl % 8) 1 r).2.1 = r
    ·by_cases h4 : kdE (endE l id (pl % 8) 1 r) = 1
     ·simp [h3, h4]
     ·simp [h3, h4]
    ·simp [h3]
 ·have h8 : pl < 0 ∨ 8 ≤ pl := by omega
  have e : oneB l r id pl 1 ≠ 0 ∧ ((oneB l r id (max 0 (min pl 1023)) 1 ≠ 0 ∧ oneB l r id pl 1 = oneB l r id (max 0 (min pl 1023)) 1) ∨ (oneB l r id (max 0 (min pl 1023)) 1 = 0 ∧ oneB l r id pl 1 = 2)) := by
   unfold oneB
   by_cases hA : chkA l ≠ 0
   ·simp [hA]
   ·rw [if_neg hA, if_neg hA]
    cases findT l r with
    | none => simp
    | some b =>
      simp only
      have hx : (validLen b.len && inB id 1 256) = false ∨ 31 < plSet id b.len ∨ pl < 0 ∨ 1023 < pl ∨ (1 : Int) < 0 ∨ 63 < (1 : Int) := by omega
      rw [if_pos hx]
      refine ⟨by simp, ?_⟩
      split
      ·exact .inl ⟨by simp, rfl⟩
      ·exact .inr ⟨rfl, rfl⟩
  unfold nxtP
  rw [if_pos e.1]
  rcases e.2 with ⟨h1, h2⟩ | ⟨h1, h2⟩
  ·rw [if_pos h1, h2]
  ·rw [if_neg (by simp [h1]), if_pos h8, h2]
theorem next35_c (l : List Tb) (hl : Good l) (r id pl : Int) : Contract Tryz.prog 34 [.d (.sl (tbs l)), .d (.int .i64 r), .d (.int .i64 id), .d (.int .i64 pl)] [] (.tup [.d (.int .i64 (nxtP l r id pl).1), .d (.int .i64 (nxtP l r id pl).2)]) [] [] := by
 have h1 := one35_c l hl r id (max 0 (min pl 1023)) 1
 rw [show (1 : Int).toNat = 1 from rfl] at h1
 rw [nxt_clamp]
 have hmn : minI IntKind.i64 pl 1023 = .d (.int .i64 (min pl 1023)) := by simp [minI]; omega
 have hmx : maxI IntKind.i64 0 (min pl 1023) = .d (.int .i64 (max 0 (min pl 1023))) := by simp [maxI]; omega
 generalize min pl 1023 = m at hmn hmx h1
 generalize max 0 m = c at hmx h1
 generalize endE l id (c % 8) 1 r = e at h1
 generalize oneB l r id c 1 = o at h1
 have hkd := kdE_or e
 refine contract_of Tryz.func34 rfl (fun E0 => ?_)
 refine awp.sound (g := .mk) (ow := []) (kp := (fun k => k==0||k==1||k==2||k==3||k==8||k==9||k==10||k==11||k==23||k==30||k==39)) ?_
 rw [Tryz.ntmps34]
 by_cases ho : o = 0
 ·subst ho
  simp only [ansT, decide_true, if_true] at h1
  rw [if_neg (by simp)]
  simp -dsimp [hmn, hmx]
  and_intros
  all_goals try first | omega | exact ⟨by kernel_rfl⟩ | rfl
  refine ACall.of h1 [] 0 ?_
  by_cases p0 : pl < 0
  ·rw [if_pos (.inl p0)]
   simp -dsimp [p0]
   and_intros
   all_goals try first | omega | exact ⟨by kernel_rfl⟩ | rfl
   refine Fin.of ?_
   simp
  by_cases p1 : 8 ≤ pl
  ·rw [if_pos (.inr p1)]
   simp -dsimp [p0, p1]
   and_intros
   all_goals try first | omega | exact ⟨by kernel_rfl⟩ | rfl
   refine Fin.of ?_
   simp
  rw [if_neg (by omega)]
  by_cases c1 : e.2.1 = r
  ·by_cases c2 : kdE e = 1
   ·rw [if_pos (.inr c2)]
    simp -dsimp [p0, p1, c1, c2]
    and_intros
    all_goals try first | omega | exact ⟨by kernel_rfl⟩ | rfl
    refine Fin.of ?_
    simp [c1]
   ·rw [if_neg (fun h => h.elim (fun g => g c1) c2)]
    simp -dsimp [p0, p1, c1, c2]
    and_intros
    all_goals try first | omega | exact ⟨by kernel_rfl⟩ | rfl
    refine Fin.of ?_
    simp
  ·rw [if_pos (.inl c1)]
   simp -dsimp [p0, p1, c1]
   and_intros
   all_goals try first | omega | exact ⟨by kernel_rfl⟩ | rfl
   refine Fin.of ?_
   simp
 ·simp only [ansT, decide_eq_false ho, Bool.false_eq_true, if_false] at h1
  rw [if_pos ho]
  simp -dsimp [hmn, hmx, ho]
  and_intros
  all_goals try first | omega | exact ⟨by kernel_rfl⟩ | rfl
  refine ACall.of h1 [] 0 ?_
  simp -dsimp [ho]
  and_intros
  all_goals try first | omega | exact ⟨by kernel_rfl⟩ | rfl
  refine Fin.of ?_
  simp
theorem route35_c (l : List Tb) (hl : Good l) (r id en : Int) : Contract Tryz.prog 35 [.d (.sl (tbs l)), .d (.int .i64 r), .d (.int .i64 id), .d (.int .i64 en)] [] (.tup [.d (ints (rtP l r id en).1), .d (.int .i64 (rtP l r id en).2)]) [] [] := by
 have h1 : ∀ t : Nat, t < 64 → Contract Tryz.prog 32 [.d (.sl (tbs l)), .d (.int .i64 r), .d (.int .i64 id), .d (.int .i64 en), .d (.int .i64 t)] [] (.tup [ansT (decide (oneB l r id en 0 = 0)) (endE l id (en % 8) t r) id, .d (.int .i64 (oneB l r id en 0))]) [] [] := fun t ht => by
  have := one35_c l hl r id en t
  rw [oneB_ttl (t := t) (u := 0) (by omega) (by omega), Int.toNat_natCast] at this
  exact this
 have hP : rtP l r id en = if oneB l r id en 0 ≠ 0 then ([], oneB l r id en 0) else (rtR l r id en, 0) := rfl
 have hrz : oneB l r id en 0 = 0 → r ≠ 0 := fun h => by
  unfold oneB at h
  split at h
  ·simp at h
  ·rename_i hA
   have hA : chkA l = 0 := Decidable.not_not.1 hA
   cases hf : findT l r with
   | none => simp [hf] at h
   | some b =>
     obtain ⟨hb, hbr⟩ := findT_mem hf
     have h1 : 1 ≤ b.r := (chk_parts (chkA_all hA b hb)).1.1.1
     omega
 rw [hP]
 refine contract_of Tryz.func35 rfl (fun E0 => ?_)
 refine awp.sound (g := .mk) (ow := [10]) (kp := (fun k => k==0||k==1||k==2||k==3||k==8||k==9||k==10||k==11||k==12||k==13||k==14||k==17||k==30||k==39||k==43||k==53)) ?_
 rw [Tryz.ntmps35]
 by_cases ho : oneB l r id en 0 = 0
 ·have hr0 := hrz ho
  rw [if_neg (by simp [ho])]
  simp only [ho, ansT, decide_true, if_true] at h1
  have hR : rtR l r id en = if (endE l id (en % 8) 0 r).1 = true then [] else rtL l r id (en % 8) 63 1 r [] := rfl
  have hE0 := endE_0 l id (en % 8) r
  generalize en % 8 = pl at h1 hR hE0
  simp -dsimp
  and_intros
  all_goals try first | omega | exact ⟨by kernel_rfl⟩ | rfl
  refine ALoop.of [10] (fun k => k==0||k==1||k==2||k==3||k==8||k==9||k==10||k==11||k==12||k==13||k==14||k==17||k==30||k==39||k==43||k==53) (ι := { z : Nat × Int × List Int // z.1 ≤ 64 ∧ z.2.2.length ≤ z.1 ∧ ((z.1 = 0 ∧ z.2.1 = r ∧ z.2.2 = []) ∨ (1 ≤ z.1 ∧ z.2.1 ≠ 0 ∧ rtR l r id en = rtL l r id pl (64 - z.1) z.1 z.2.1 z.2.2)) })
   (fun z => [(Pl.s 0, It.v (.d (.sl (tbs l)))), (Pl.s 1, It.v (.d (.int .i64 r))), (Pl.s 2, It.v (.d (.int .i64 id))), (Pl.s 3, It.v (.d (.int .i64 en))), (Pl.s 8, It.v (.c (Value.slice none 0 0))), (Pl.s 9, It.v (.d (.int .i64 0))), (Pl.s 10, It.v (.oref 10 z.1.2.2.length)), (Pl.o 10, It.row 3 1 (dd (nrow .i64 z.1.2.2)) false), (Pl.s 11, It.v (.d (.int .i64 z.1.2.1))), (Pl.s 12, It.v (.d (.int .i64 z.1.1)))])
   (fun z => 64 - z.1.1) ⟨(0, r, []), by omega, by simp, .inl ⟨rfl, rfl, rfl⟩⟩ ?_ ?_
  ·exact GS.own' (k := 10) 3 1 (by simp) (by simp) (by simp [nrow])
  rintro ⟨⟨t, last, out⟩, z1, z2, z3⟩
  simp only at z1 z2 z3
  by_cases ht : t < 64
  ·have htz : (t : Int) ≤ 63 := by omega
   have hc := h1 t ht
   rcases z3 with ⟨rfl, z30, rfl⟩ | ⟨z4, z5, z6⟩
   ·have z31 := z30.symm
    subst z31
    generalize endE l id pl 0 r = e at hc hR hE0
    obtain ⟨k, q, m⟩ := e
    simp only at hE0
    subst hE0
    simp only at hR hc
    have hc0 : (((0 : Nat) : Int)) = 0 := rfl
    simp only [hc0] at hc
    cases k with
    | true =>
      simp only [if_true] at hR
      simp only [kdE, ltE, if_true] at hc
      simp -dsimp [hr0]
      and_intros
      all_goals try first | omega | exact ⟨by kernel_rfl⟩ | rfl
      refine ACall.of hc [] 0 ?_
      simp -dsimp [hr0]
      and_intros
      all_goals try first | omega | exact ⟨by kernel_rfl⟩ | rfl
      refine Fin.view 8 ?_
      simp -dsimp
      and_intros
      all_goals try first | omega | exact ⟨by kernel_rfl⟩ | rfl | (simp [nrow]; done)
      refine Fin.of ?_
      simp [ints, nrow, hR]
    | false =>
      simp only [Bool.false_eq_true, if_false] at hR
      simp only [kdE, ltE, Bool.false_eq_true, if_false] at hc
      simp -dsimp [hr0]
      and_intros
      all_goals try first | omega | exact ⟨by kernel_rfl⟩ | rfl
      refine ACall.of hc [] 0 ?_
      simp -dsimp [hr0]
      and_intros
      all_goals try first | omega | exact ⟨by kernel_rfl⟩ | rfl
      exact ⟨⟨(1, q, []), by omega, by simp, .inr ⟨by omega, hr0, hR⟩⟩, GS.to (by simp [nrow, wrap_i64 (n := 1) (by omega) (by omega)]), by simp⟩
   ·rw [show 64 - t = (63 - t) + 1 by omega, rtL] at z6
    try simp only at z6
    have hnz := endE_nz l id pl t hr0
    generalize endE l id pl t r = e at hc z6 hnz
    obtain ⟨k, q, m⟩ := e
    try simp only at z6 hnz
    by_cases hq : q = last
    ·rw [if_pos hq] at z6
     try simp only at hc
     simp -dsimp [htz, ht, show 0 < t from z4, show (0 : Int) < t by omega]
     and_intros
     all_goals try first | omega | exact ⟨by kernel_rfl⟩ | rfl
     refine ACall.of hc [] 0 ?_
     simp -dsimp [hq, show 0 < t from z4, show (0 : Int) < t by omega]
     and_intros
     all_goals try first | omega | exact ⟨by kernel_rfl⟩ | rfl
     refine Fin.view 8 ?_
     simp -dsimp
     and_intros
     all_goals try first | omega | exact ⟨by kernel_rfl⟩ | rfl | (simp [nrow]; done)
     refine Fin.of ?_
     simp [ints, nrow, z6]
    ·rw [if_neg hq] at z6
     cases k with
     | true =>
       simp only [if_true] at z6
       simp only [kdE, ltE, if_true] at hc
       simp -dsimp [htz, ht, show 0 < t from z4, show (0 : Int) < t by omega]
       and_intros
       all_goals try first | omega | exact ⟨by kernel_rfl⟩ | rfl
       refine ACall.of hc [] 0 ?_
       simp -dsimp [hq, z5, show 0 < t from z4, show (0 : Int) < t by omega]
       and_intros
       all_goals try first | omega | exact ⟨by kernel_rfl⟩ | rfl | (simp [nrow]; done) | (simp [nrow]; omega)
       refine Fin.view 8 ?_
       simp -dsimp
       and_intros
       all_goals try first | omega | exact ⟨by kernel_rfl⟩ | rfl | (simp [nrow]; done)
       refine Fin.of ?_
       simp [ints, nrow, z6]
     | false =>
       simp only [Bool.false_eq_true, if_false] at z6
       simp only [kdE, ltE, Bool.false_eq_true, if_false] at hc
       simp -dsimp [htz, ht, show 0 < t from z4, show (0 : Int) < t by omega]
       and_intros
       all_goals try first | omega | exact ⟨by kernel_rfl⟩ | rfl
       refine ACall.of hc [] 0 ?_
       simp -dsimp [hq, z5, show 0 < t from z4, show (0 : Int) < t by omega, wrap_i64 (n := (t : Int) + 1) (by omega) (by omega)]
       and_intros
       all_goals try first | omega | exact ⟨by kernel_rfl⟩ | rfl | (simp [nrow]; done) | (simp [nrow]; omega)
       exact ⟨⟨(t + 1, q, out ++ [q]), by omega, by simp; omega, .inr ⟨by omega, hnz, by rw [show 64 - (t + 1) = 63 - t by omega]; exact z6⟩⟩, GS.to (by simp [nrow]), by simp; omega⟩
  ·have htz : ¬ (t : Int) ≤ 63 := by omega
   obtain rfl : t = 64 := by omega
   rcases z3 with ⟨z4, _⟩ | ⟨z4, z5, z6⟩
   ·omega
   ·rw [show 64 - 64 = 0 from rfl, rtL] at z6
    simp -dsimp [htz]
    and_intros
    all_goals try first | omega | exact ⟨by kernel_rfl⟩ | rfl
    refine Fin.view 8 ?_
    simp -dsimp
    and_intros
    all_goals try first | omega | exact ⟨by kernel_rfl⟩ | rfl | (simp [nrow]; done)
    refine Fin.of ?_
    simp [ints, nrow, z6]
 ·rw [if_pos ho]
  have hc := h1 0 (by omega)
  simp only [ansT, decide_eq_false ho, Bool.false_eq_true, if_false] at hc
  have hc0 : (((0 : Nat) : Int)) = 0 := rfl
  simp only [hc0] at hc
  simp -dsimp
  and_intros
  all_goals try first | omega | exact ⟨by kernel_rfl⟩ | rfl
  refine ALoop.of [10] (fun k => k==0||k==1||k==2||k==3||k==8||k==9||k==10||k==11||k==12||k==13||k==14||k==17||k==30||k==39||k==43||k==53) (ι := Unit)
   (fun z => [(Pl.s 0, It.v (.d (.sl (tbs l)))), (Pl.s 1, It.v (.d (.int .i64 r))), (Pl.s 2, It.v (.d (.int .i64 id))), (Pl.s 3, It.v (.d (.int .i64 en))), (Pl.s 8, It.v (.c (Value.slice none 0 0))), (Pl.s 9, It.v (.d (.int .i64 0))), (Pl.s 11, It.v (.d (.int .i64 r))), (Pl.s 12, It.v (.d (.int .i64 0)))])
   (fun z => 0) () ?_ ?_
  ·exact GS.to (by simp)
  rintro ⟨⟩
  simp -dsimp
  and_intros
  all_goals try first | omega | exact ⟨by kernel_rfl⟩ | rfl
  refine ACall.of hc [] 0 ?_
  simp -dsimp [ho]
  and_intros
  all_goals try first | omega | exact ⟨by kernel_rfl⟩ | rfl
  refine Fin.view 8 ?_
  simp -dsimp
  and_intros
  all_goals try first | omega | exact ⟨by kernel_rfl⟩ | rfl
  refine Fin.of ?_
  simp [ints]
end Go.Proofs

/-
  What functions of the program compute, stated as contracts over plain data; the conditions of each stand in its own statement.
-/
import Derived.Test.YteenclepbpajdaaGreatDoorM26
import Derived.Test.YteenclepbpajdaaGreatDoorM14
import Derived.Shelf.SlGeneric
import Derived.Shelf.SortM.SortNone
import Derived.Shelf.SortM.Plain
import Derived.Shelf.SlicesG.CompactI
import Derived.Ground.SlgmProg
import Derived.Ground.SlgnProg
import Derived.Test.YteenclepbpajdaaGreatDoorChecked
import Derived.Test.YteenclepbpajdaaGreatDoorM12
import Derived.Test.YteenclepbpajdaaGreatDoorM25
set_option linter.unusedSimpArgs false
set_option maxRecDepth 100000
set_option maxHeartbeats 16000000
namespace Go.Tr
open Go
theorem GS.ownBp {A : Actv} {l : List (Pl × It)} (p : Pl) (j id : Nat) {cs : List TV} (e z : Nat) (hs : isPl p = true) (hp : look l p = .box cs) (hj : cs[j]? = some (.c (.slice none 0 0))) (ho : look l (.o id) = .none) :
  GS A (look l) (look (put1 p (.box (cs.set j (.oref id 0))) (put1 (.o id) (.row e z [] false) l))) := by
 have := GS.ownB (A := A) (id := id) e z (fun k e => by subst e; simp [isPl] at hs) hp hj ho
 rw [upd_look, upd_look] at this
 exact this
theorem GS.quep {A : Actv} {l : List (Pl × It)} (id : Nat) {k : Nat} {e : TypeId} {es : List (List TV)} (ht : look l (.o id) = .row e k es false) (hn : 0 < es.length) : GS A (look l) (look (put1 (.o id) (.que e k es) l)) := by
 have := GS.que (A := A) ht hn
 rw [upd_look] at this
 exact this
theorem It.only_que (po : Nat → Prop) (e : TypeId) (k : Nat) (es : List (List TV)) : It.only po (.que e k es) = rowsOnly po es := rfl
attribute [simp] It.only_que
theorem GS.cut' {A : Actv} {l l' : List (Pl × It)} (s id : Nat) {n j k : Nat} {e : TypeId} (xs : List (List D)) (hs : look l (.s s) = .v (.osl id n j)) (ht : look l (.o id) = .que e k (dd xs)) (hn : n = xs.length) (hj : j ≤ n)
  (h : Sub (look l) (cutL s id l') ∧ xIds (cutL s id l') = xIds l) (hid : id ∉ oIds (cutL s id l'))
  (h' : Sub (look (put1 (.s s) (.v (.oref id (n - j))) (put1 (.o id) (.que e k (dd (xs.drop j))) (cutL s id l')))) l' ∧ xIds l' = xIds (put1 (.s s) (.v (.oref id (n - j))) (put1 (.o id) (.que e k (dd (xs.drop j))) (cutL s id l')))) : GS A (look l) (look l') :=
 GS.cut (cutL s id l') s id hs ht hn hj h hid h'
end Go.Tr
namespace Go.Proofs
open Go Go.Tr
def crC (x : Int × Int × BitVec 64) : List D := [.int .i64 x.1, .int .i64 x.2.1, bv x.2.2]
def lsC (x : Int × BitVec 64) : List D := [.int .i64 x.1, bv x.2]
def trcT (t : Trc) : TV := .agg [.d (.sl (t.dl.map dlC)), .d (.sl (t.cr.map crC)), .d (.sl (t.ls.map lsC))]
theorem run_c (l : List Tb) (hl : SmL l) (p : Pk) (r : Int) : Contract Tryz.prog 30 [.d (.sl (tbs l)), pkT p, .d (.int .i64 r)] [] (.tup [trcT (runR l p r).1, .d (.int .i64 (runR l p r).2)]) [] [] := by
 have hck := checkA_c l hl
 have hv := valid_c2 p
 have hf := find_c l hl r
 simp only [pkT, Pk.cs, List.map] at hv
 refine contract_of Tryz.func30 rfl (fun E0 => ?_)
 refine awp.sound (g := .mk) (ow := [60]) (kp := (fun k => k==0||k==1||k==2||k==4||k==6||k==7||k==8||k==9||k==10||k==11||k==12||k==13||k==14||k==15||k==18||k==26||k==34||k==38||k==43||k==63||k==77||k==109||k==121||k==122||k==123||k==124)) ?_
 rw [Tryz.ntmps30]
 simp -dsimp [pkT, Pk.cs]
 try refine ⟨?_, ⟨by kernel_rfl⟩⟩
 refine ACall.of hck [] 0 ?_
 by_cases h1 : chkA l = 0
 rotate_left
 ·simp -dsimp [h1]
  try refine ⟨?_, ⟨by kernel_rfl⟩⟩
  refine Fin.box (.o 6) rfl ?_
  simp -dsimp
  refine Fin.of ?_
  simp [runR, h1, trcT, tr0]
 simp -dsimp [h1]
 try refine ⟨?_, ⟨by kernel_rfl⟩⟩
 refine ACall.of hv [] 0 ?_
 rcases (Bool.eq_false_or_eq_true p.ok).symm with h2 | h2
 ·simp -dsimp [h2]
  try refine ⟨?_, ⟨by kernel_rfl⟩⟩
  refine Fin.box (.o 6) rfl ?_
  simp -dsimp
  refine Fin.of ?_
  simp [runR, trcT, tr0, h1, h2]
 cases hfd : findT l r with
 | none =>
   rw [hfd] at hf
   simp only [foundT, Option.getD_none, Option.isSome_none, tb0, tblT] at hf
   simp -dsimp [h2]
   try refine ⟨?_, ⟨by kernel_rfl⟩⟩
   refine ACall.of hf [] 0 ?_
   simp -dsimp
   try refine ⟨?_, ⟨by kernel_rfl⟩⟩
   refine Fin.box (.o 6) rfl ?_
   simp -dsimp
   refine Fin.of ?_
   simp [runR, trcT, tr0, h1, h2, hfd]
 | some b =>
   rw [hfd] at hf
   simp only [foundT, Option.getD_some, Option.isSome_some, tblT] at hf
   simp -dsimp [h2]
   try refine ⟨?_, ⟨by kernel_rfl⟩⟩
   refine ACall.of hf [] 0 ?_
   by_cases h3 : p.mode = 2
   ·simp -dsimp [eq_true h3]
    try refine ⟨?_, ⟨by kernel_rfl⟩⟩
    refine Fin.box (.o 6) rfl ?_
    simp -dsimp
    refine Fin.of ?_
    simp [runR, trcT, tr0, h1, h2, hfd, h3]
   by_cases h4 : p.subd = b.sd
   rotate_left
   ·simp -dsimp [h3, h4]
    try refine ⟨?_, ⟨by kernel_rfl⟩⟩
    refine Fin.box (.o 6) rfl ?_
    simp -dsimp
    refine Fin.of ?_
    simp [runR, trcT, tr0, h1, h2, hfd, h3, h4]
   by_cases h5 : p.len = b.len
   rotate_left
   ·simp -dsimp [h3, eq_true h4, h5]
    try refine ⟨?_, ⟨by kernel_rfl⟩⟩
    refine Fin.box (.o 6) rfl ?_
    simp -dsimp
    refine Fin.of ?_
    simp [runR, trcT, tr0, h1, h2, hfd, h3, h4, h5]
   simp -dsimp [h3, eq_true h4, eq_true h5]
   try refine ⟨?_, ⟨by kernel_rfl⟩⟩
   have hr : runR l p r = (runG l (wt p) [(r, p)] tr0, 0) := by simp [runR, h1, h2, hfd, h3, h4, h5]
   have hwt := wt_le h2
   rw [hr]
   have hsum1 : wsum [(r, p)] = wt p := by simp [wsum]
   refine ALoop.of [60] (fun k => k==0||k==1||k==2||k==4||k==6||k==7||k==8||k==9||k==10||k==11||k==12||k==13||k==14||k==15||k==18||k==26||k==34||k==38||k==43||k==63||k==77||k==109||k==121||k==122||k==123||k==124) (ι := { z : Nat × List (Int × Pk) × Trc // runG l (wt p) [(r, p)] tr0 = runG l z.1 z.2.1 z.2.2 ∧ wsum z.2.1 ≤ z.1 ∧ z.1 ≤ 8129 ∧ z.2.2.dl.length + 64 * z.1 ≤ 600000 ∧ z.2.2.cr.length + 64 * z.1 ≤ 600000 ∧ z.2.2.ls.length + z.1 ≤ 600000 })
    (fun z => [(Pl.s 0, It.v (TV.d (D.sl (tbs l)))), (Pl.o 6, It.box [TV.c (Value.slice none 0 0), TV.c (Value.slice none 0 0), TV.c (Value.slice none 0 0)]), (Pl.s 6, It.v (TV.ptr (Pl.o 6) 0)), (Pl.s 7, It.v (TV.d (D.int IntKind.i64 0))),
     (Pl.o 10, It.box [TV.oref 70 z.1.2.2.dl.length, TV.oref 71 z.1.2.2.cr.length, TV.oref 72 z.1.2.2.ls.length]), (Pl.s 10, It.v (TV.ptr (Pl.o 10) 0)),
     (Pl.o 70, It.row 89 11 (dd (z.1.2.2.dl.map dlC)) false), (Pl.o 71, It.row 75 3 (dd (z.1.2.2.cr.map crC)) false), (Pl.o 72, It.row 125 2 (dd (z.1.2.2.ls.map lsC)) false),
     (Pl.o 60, It.que 122 11 (dd (z.1.2.1.map dlC))), (Pl.s 11, It.v (TV.oref 60 z.1.2.1.length))])
    (fun z => z.1.1) ⟨(wt p, [(r, p)], tr0), rfl, by simp only [hsum1]; omega, hwt, by simp [tr0]; omega, by simp [tr0]; omega, by simp [tr0]; omega⟩ ?_ ?_
   ·have NIL3 : ∀ (a b c : TV), [a, b, c].set 0 (TV.oref 70 0) = [TV.oref 70 0, b, c] := fun _ _ _ => rfl
    refine (GS.quep 60 (e := 122) (k := 11) (es := dd ([(r, p)].map dlC)) (by simp [dlC, Pk.cs]) (by simp)).trans ?_
    simp only [put1, Pl.o.injEq, reduceCtorEq, if_false, if_true, Nat.reduceEqDiff]
    refine (GS.ownBp (.o 10) 0 70 (cs := [.c (.slice none 0 0), .c (.slice none 0 0), .c (.slice none 0 0)]) 89 11 (by simp) (by simp) (by simp) (by simp)).trans ?_
    simp only [put1, Pl.o.injEq, reduceCtorEq, if_false, if_true, Nat.reduceEqDiff, List.set]
    refine (GS.ownBp (.o 10) 1 71 (cs := [.oref 70 0, .c (.slice none 0 0), .c (.slice none 0 0)]) 75 3 (by simp) (by simp) (by simp) (by simp)).trans ?_
    simp only [put1, Pl.o.injEq, reduceCtorEq, if_false, if_true, Nat.reduceEqDiff, List.set]
    exact GS.ownB' (.o 10) 2 72 (cs := [.oref 70 0, .oref 71 0, .c (.slice none 0 0)]) 125 2 (by simp) (by simp) (by simp) (by simp) (by simp [tr0])
   ·rintro ⟨⟨n, Q, t⟩, i1, i2, i3, i4, i5, i6⟩
    simp only at i1 i2 i3 i4 i5 i6
    cases Q with
    | nil =>
      have e : runG l (wt p) [(r, p)] tr0 = t := by rw [i1, runG_nil]
      simp -dsimp
      refine Fin.box (.o 6) rfl ?_
      simp -dsimp
      refine Fin.of ?_
      simp [trcT, e]
    | cons q Q =>
      obtain ⟨q1, q2⟩ := q
      rw [wsum_cons] at i2
      have hq := nextQ_wt l (q1, q2)
      have hw1 : 1 ≤ wt q2 := by unfold wt; omega
      simp only at i2 hq
      obtain ⟨n, rfl⟩ : ∃ j, n = j + 1 := ⟨n - 1, by omega⟩
      rw [runG] at i1
      have hQl := len_wsum Q
      have hfq := find_c l hl q1
      simp -dsimp [dlC, Pk.cs]
      and_intros
      all_goals try first | omega | exact ⟨by kernel_rfl⟩
      cases hfd2 : findT l q1 with
      | none =>
        have eN : nextQ l (q1, q2) = [] := by simp [nextQ, hfd2]
        have eS : stepT l (q1, q2) t = ⟨t.dl, t.cr, t.ls ++ [(q1, q2.bits)]⟩ := by simp [stepT, hfd2]
        rw [eN, eS, List.append_nil] at i1
        rw [hfd2] at hfq
        simp only [foundT, Option.getD_none, Option.isSome_none, tb0, tblT] at hfq
        refine ACall.of hfq [] 0 ?_
        simp -dsimp
        and_intros
        all_goals try first | omega | exact ⟨by kernel_rfl⟩
        refine ⟨⟨(n, Q, ⟨t.dl, t.cr, t.ls ++ [(q1, q2.bits)]⟩), i1, by simp only; omega, by simp only; omega, by simp only; omega, by simp only; omega, by simp only [List.length_append, List.length_cons, List.length_nil]; omega⟩, ?_, by simp⟩
        refine GS.cut' 11 60 (n := Q.length + 1) (j := 1) (k := 11) (e := 122) (((q1, q2) :: Q).map dlC) (by simp) (by simp [dlC, Pk.cs]) (by simp) (by simp) (by simp [lsC, bv]) (by simp) (by simp [lsC, bv])
      | some b2 =>
        have hb2 : b2.Sm := hl.t b2 (List.mem_of_find?_eq_some hfd2)
        have eN : nextQ l (q1, q2) = (fwdR b2 q2).1.cps := by simp [nextQ, hfd2]
        have eS : stepT l (q1, q2) t = ⟨t.dl ++ locV q1 (fwdR b2 q2).1 q2, t.cr ++ (fwdR b2 q2).1.cps.map (fun c => (q1, c.1, c.2.bits)), if (fwdR b2 q2).1.lost = 0#64 then t.ls else t.ls ++ [(q1, (fwdR b2 q2).1.lost)]⟩ := by simp [stepT, hfd2]
        rw [eN, eS] at i1
        rw [eN] at hq
        have hcl := fwdR_len b2 q2
        have hfp := fpacket_c b2 hb2 q2
        have hlc := flocal_c b2 q1 (fwdR b2 q2).1 q2
        have hll : (locV q1 (fwdR b2 q2).1 q2).length ≤ 64 := by unfold locV; rw [List.length_map]; exact bitsI_len _
        rw [hfd2] at hfq
        simp only [foundT, Option.getD_some, Option.isSome_some, tblT] at hfq
        generalize fwdR b2 q2 = F at i1 hq hcl hfp hlc hll
        obtain ⟨o, er⟩ := F
        simp only at i1 hq hcl hfp hlc hll
        generalize locV q1 o q2 = LV at i1 hlc hll
        have hdl : dLen 11 (LV.map dlC) := dLen_map 11 _ _ fun _ => rfl
        obtain ⟨oloc, olost, ocps⟩ := o
        simp only at i1 hq hcl
        have hCl : (ocps.map fun c => (q1, c.1, c.2.bits)).length = ocps.length := by simp
        have hCg : ∀ (j : Nat) (c : Int × Pk), ocps[j]? = some c → (ocps.map fun c => (q1, c.1, c.2.bits))[j]? = some (q1, c.1, c.2.bits) := fun j c h => by simp [h]
        generalize (ocps.map fun c => (q1, c.1, c.2.bits)) = CRL at i1 hCl hCg
        simp only [tblT, pkT, Pk.cs, List.map, outT, bv] at hfp hlc
        refine ACall.of hfq [] 0 ?_
        simp -dsimp
        try refine ⟨?_, ⟨by kernel_rfl⟩⟩
        refine ACall.of hfp [] 0 ?_
        simp -dsimp
        try refine ⟨?_, ⟨by kernel_rfl⟩⟩
        try refine ⟨rfl, ?_⟩
        try refine ⟨?_, ⟨by kernel_rfl⟩⟩
        refine ACall.of hlc [] 0 ?_
        by_cases c0 : olost = 0#64
        ·simp -dsimp [c0]
         and_intros
         all_goals try first | omega | exact hdl | exact rfl | exact ⟨by kernel_rfl⟩
         refine ALoop.of [60] (fun k => k==0||k==1||k==2||k==4||k==6||k==7||k==8||k==9||k==10||k==11||k==12||k==13||k==14||k==15||k==18||k==26||k==34||k==38||k==43||k==63||k==77||k==109||k==121||k==122||k==123||k==124) (ι := { j : Nat // j ≤ ocps.length })
          (fun j => [(Pl.s 0, It.v (TV.d (D.sl (tbs l)))), (Pl.o 6, It.box [TV.c (Value.slice none 0 0), TV.c (Value.slice none 0 0), TV.c (Value.slice none 0 0)]), (Pl.s 6, It.v (TV.ptr (Pl.o 6) 0)), (Pl.s 7, It.v (TV.d (D.int IntKind.i64 0))),
           (Pl.o 10, It.box [TV.oref 70 (t.dl.length + LV.length), TV.oref 71 (t.cr.length + j.1), TV.oref 72 t.ls.length]), (Pl.s 10, It.v (TV.ptr (Pl.o 10) 0)),
           (Pl.o 70, It.row 89 11 (dd (t.dl.map dlC) ++ dd (LV.map dlC)) false), (Pl.o 71, It.row 75 3 (dd (t.cr.map crC) ++ dd (List.take j.1 (CRL.map crC))) false), (Pl.o 72, It.row 125 2 (dd (t.ls.map lsC)) false),
           (Pl.o 60, It.que 122 11 (dd (Q.map dlC) ++ dd (List.take j.1 (ocps.map dlC)))), (Pl.s 11, It.v (TV.oref 60 (Q.length + j.1))),
           (Pl.o 12, It.box (TV.d (.int .i64 q1) :: q2.cs.map .d)), (Pl.s 12, It.v (TV.ptr (Pl.o 12) 0)),
           (Pl.s 121, It.v (TV.d (D.sl (List.map cpC ocps)))), (Pl.s 122, It.v (TV.d (D.int IntKind.i64 ocps.length))), (Pl.s 123, It.v (TV.d (D.int IntKind.i64 j.1)))])
          (fun j => ocps.length - j.1) ⟨0, by omega⟩ ?_ ?_
         ·exact GS.cut' 11 60 (n := Q.length + 1) (j := 1) (k := 11) (e := 122) (((q1, q2) :: Q).map dlC) (by simp) (by simp [dlC, Pk.cs]) (by simp) (by simp) (by simp [lsC, bv, Pk.cs]) (by simp) (by simp [lsC, bv, Pk.cs])
         ·rintro ⟨j, j1⟩
          by_cases hj : j < ocps.length
          ·have hjz : (j : Int) < ocps.length := by omega
           have hg : ocps[j]? = some ocps[j] := List.getElem?_eq_getElem hj
           have hcg := hCg j _ hg
           generalize ocps[j] = c at hg hcg
           obtain ⟨c1, c2⟩ := c
           have hn1 : dd (List.take (j + 1) (CRL.map crC)) = dd (List.take j (CRL.map crC)) ++ [[TV.d (.int .i64 q1), TV.d (.int .i64 c1), TV.d (bv c2.bits)]] := by
            rw [List.take_add_one, List.getElem?_map, hcg]; simp [dd, crC]
           have hn2 : dd (List.take (j + 1) (ocps.map dlC)) = dd (List.take j (ocps.map dlC)) ++ [TV.d (.int .i64 c1) :: c2.cs.map .d] := by
            rw [List.take_add_one, List.getElem?_map, hg]; simp [dd, dlC]
           simp [Pk.cs] at hn2
           have hm1 : min j CRL.length = j := by omega
           have hm2 : min j ocps.length = j := by omega
           simp -dsimp [hg, hjz, cpC, Pk.cs, hm1, hm2, wrap_i64 (n := (j : Int) + 1) (by omega) (by omega)]
           and_intros
           all_goals try first | omega | exact ⟨by kernel_rfl⟩
           exact ⟨⟨j + 1, by omega⟩, GS.to (by simp [hn1, hn2, Pk.cs, Nat.add_assoc]), by simp; omega⟩
          ·have hjz : ¬ (j : Int) < ocps.length := by omega
           obtain rfl : j = ocps.length := by omega
           have ht1 : List.take ocps.length (CRL.map crC) = CRL.map crC := List.take_of_length_le (by simp; omega)
           have ht2 : List.take ocps.length (ocps.map dlC) = ocps.map dlC := List.take_of_length_le (by simp)
           simp -dsimp [hjz]
           try refine ⟨?_, ⟨by kernel_rfl⟩⟩
           exact ⟨⟨(n, Q ++ ocps, _), i1, by simp only [wsum_app]; omega, by simp only; omega, by simp only [List.length_append]; omega, by simp only [List.length_append, hCl]; omega, by simp only [c0, if_true]; omega⟩, GS.to (by simp [ht1, ht2, c0, hCl, lsC, bv]), by simp⟩
        ·simp -dsimp [c0]
         and_intros
         all_goals try first | omega | exact hdl | exact rfl | exact ⟨by kernel_rfl⟩
         refine ALoop.of [60] (fun k => k==0||k==1||k==2||k==4||k==6||k==7||k==8||k==9||k==10||k==11||k==12||k==13||k==14||k==15||k==18||k==26||k==34||k==38||k==43||k==63||k==77||k==109||k==121||k==122||k==123||k==124) (ι := { j : Nat // j ≤ ocps.length })
          (fun j => [(Pl.s 0, It.v (TV.d (D.sl (tbs l)))), (Pl.o 6, It.box [TV.c (Value.slice none 0 0), TV.c (Value.slice none 0 0), TV.c (Value.slice none 0 0)]), (Pl.s 6, It.v (TV.ptr (Pl.o 6) 0)), (Pl.s 7, It.v (TV.d (D.int IntKind.i64 0))),
           (Pl.o 10, It.box [TV.oref 70 (t.dl.length + LV.length), TV.oref 71 (t.cr.length + j.1), TV.oref 72 (t.ls.length + 1)]), (Pl.s 10, It.v (TV.ptr (Pl.o 10) 0)),
           (Pl.o 70, It.row 89 11 (dd (t.dl.map dlC) ++ dd (LV.map dlC)) false), (Pl.o 71, It.row 75 3 (dd (t.cr.map crC) ++ dd (List.take j.1 (CRL.map crC))) false), (Pl.o 72, It.row 125 2 (dd (t.ls.map lsC) ++ [[TV.d (.int .i64 q1), TV.d (bv olost)]]) false),
           (Pl.o 60, It.que 122 11 (dd (Q.map dlC) ++ dd (List.take j.1 (ocps.map dlC)))), (Pl.s 11, It.v (TV.oref 60 (Q.length + j.1))),
           (Pl.o 12, It.box (TV.d (.int .i64 q1) :: q2.cs.map .d)), (Pl.s 12, It.v (TV.ptr (Pl.o 12) 0)),
           (Pl.s 121, It.v (TV.d (D.sl (List.map cpC ocps)))), (Pl.s 122, It.v (TV.d (D.int IntKind.i64 ocps.length))), (Pl.s 123, It.v (TV.d (D.int IntKind.i64 j.1)))])
          (fun j => ocps.length - j.1) ⟨0, by omega⟩ ?_ ?_
         ·exact GS.cut' 11 60 (n := Q.length + 1) (j := 1) (k := 11) (e := 122) (((q1, q2) :: Q).map dlC) (by simp) (by simp [dlC, Pk.cs]) (by simp) (by simp) (by simp [lsC, bv, Pk.cs]) (by simp) (by simp [lsC, bv, Pk.cs])
         ·rintro ⟨j, j1⟩
          by_cases hj : j < ocps.length
          ·have hjz : (j : Int) < ocps.length := by omega
           have hg : ocps[j]? = some ocps[j] := List.getElem?_eq_getElem hj
           have hcg := hCg j _ hg
           generalize ocps[j] = c at hg hcg
           obtain ⟨c1, c2⟩ := c
           have hn1 : dd (List.take (j + 1) (CRL.map crC)) = dd (List.take j (CRL.map crC)) ++ [[TV.d (.int .i64 q1), TV.d (.int .i64 c1), TV.d (bv c2.bits)]] := by
            rw [List.take_add_one, List.getElem?_map, hcg]; simp [dd, crC]
           have hn2 : dd (List.take (j + 1) (ocps.map dlC)) = dd (List.take j (ocps.map dlC)) ++ [TV.d (.int .i64 c1) :: c2.cs.map .d] := by
            rw [List.take_add_one, List.getElem?_map, hg]; simp [dd, dlC]
           simp [Pk.cs] at hn2
           have hm1 : min j CRL.length = j := by omega
           have hm2 : min j ocps.length = j := by omega
           simp -dsimp [hg, hjz, cpC, Pk.cs, hm1, hm2, wrap_i64 (n := (j : Int) + 1) (by omega) (by omega)]
           and_intros
           all_goals try first | omega | exact ⟨by kernel_rfl⟩
           exact ⟨⟨j + 1, by omega⟩, GS.to (by simp [hn1, hn2, Pk.cs, Nat.add_assoc]), by simp; omega⟩
          ·have hjz : ¬ (j : Int) < ocps.length := by omega
           obtain rfl : j = ocps.length := by omega
           have ht1 : List.take ocps.length (CRL.map crC) = CRL.map crC := List.take_of_length_le (by simp; omega)
           have ht2 : List.take ocps.length (ocps.map dlC) = ocps.map dlC := List.take_of_length_le (by simp)
           simp -dsimp [hjz]
           try refine ⟨?_, ⟨by kernel_rfl⟩⟩
           exact ⟨⟨(n, Q ++ ocps, _), i1, by simp only [wsum_app]; omega, by simp only; omega, by simp only [List.length_append]; omega, by simp only [List.length_append, hCl]; omega, by simp only [c0, if_false, List.length_append, List.length_cons, List.length_nil]; omega⟩, GS.to (by simp [ht1, ht2, c0, hCl, lsC, bv]), by simp⟩
end Go.Proofs

namespace Go.Proofs
open Go.Shelf
def Tryz.lSort_ren : Go.Shelf.Ren := ⟨fun | 5 => 107 | 8 => 154 | 7 => 153 | 19 => 180 | 20 => 181 | 10 => 171 | 11 => 172 | 12 => 173 | 13 => 174 | 14 => 175 | 15 => 176 | 16 => 177 | 17 => 178 | 18 => 179 | 30 => 185 | 31 => 186 | 32 => 187 | 33 => 188 | 34 => 189 | 35 => 190 | 40 => 191 | n => n, fun | 23 => 22 | 25 => 3 | 3 => 3 | 32 => 148 | 22 => 22 | 0 => 0 | 44 => 207 | 46 => 37 | 4 => 4 | 36 => 201 | 35 => 200 | 41 => 81 | 5 => 5 | 9 => 9 | 53 => 211 | 57 => 215 | 63 => 217 | 64 => 218 | n => n, fun | n => n⟩
theorem Tryz.lSort : Go.Proofs.SlLaysM.n5 Tryz.prog Tryz.lSort_ren := {
 mixed := by kernel_rfl
 f5 := ⟨Tryz.f107.name, by decide, Tryz.func107.trans (congrArg some (by kernel_rfl))⟩
 f7 := ⟨Tryz.f153.name, by decide, Tryz.func153.trans (congrArg some (by kernel_rfl))⟩
 f8 := Tryz.func154.trans (congrArg some (by kernel_rfl))
 f10 := ⟨Tryz.f171.name, by decide, Tryz.func171.trans (congrArg some (by kernel_rfl))⟩
 f11 := ⟨Tryz.f172.name, by decide, Tryz.func172.trans (congrArg some (by kernel_rfl))⟩
 f12 := ⟨Tryz.f173.name, by decide, Tryz.func173.trans (congrArg some (by kernel_rfl))⟩
 f13 := ⟨Tryz.f174.name, by decide, Tryz.func174.trans (congrArg some (by kernel_rfl))⟩
 f14 := ⟨Tryz.f175.name, by decide, Tryz.func175.trans (congrArg some (by kernel_rfl))⟩
 f15 := ⟨Tryz.f176.name, by decide, Tryz.func176.trans (congrArg some (by kernel_rfl))⟩
 f16 := ⟨Tryz.f177.name, by decide, Tryz.func177.trans (congrArg some (by kernel_rfl))⟩
 f17 := ⟨Tryz.f178.name, by decide, Tryz.func178.trans (congrArg some (by kernel_rfl))⟩
 f18 := ⟨Tryz.f179.name, by decide, Tryz.func179.trans (congrArg some (by kernel_rfl))⟩
 f19 := Tryz.func180.trans (congrArg some (by kernel_rfl))
 f20 := Tryz.func181.trans (congrArg some (by kernel_rfl))
 f30 := ⟨Tryz.f185.name, by decide, Tryz.func185.trans (congrArg some (by kernel_rfl))⟩
 f31 := Tryz.func186.trans (congrArg some (by kernel_rfl))
 f32 := Tryz.func187.trans (congrArg some (by kernel_rfl))
 f33 := ⟨Tryz.f188.name, by decide, Tryz.func188.trans (congrArg some (by kernel_rfl))⟩
 f34 := ⟨Tryz.f189.name, by decide, Tryz.func189.trans (congrArg some (by kernel_rfl))⟩
 f35 := ⟨Tryz.f190.name, by decide, Tryz.func190.trans (congrArg some (by kernel_rfl))⟩
 f40 := ⟨Tryz.f191.name, by decide, Tryz.func191.trans (congrArg some (by kernel_rfl))⟩
 t0 := Tryz.underlying0
 a0 := Tryz.isAgg0
 z0 := Tryz.sizeOf0
 v0 := Tryz.zeroValue0
 t3 := Tryz.underlying3
 a3 := Tryz.isAgg3
 z3 := Tryz.sizeOf3
 v3 := Tryz.zeroValue3
 t4 := Tryz.underlying4
 a4 := Tryz.isAgg4
 z4 := Tryz.sizeOf4
 v4 := Tryz.zeroValue4
 t5 := Tryz.underlying5
 a5 := Tryz.isAgg5
 z5 := Tryz.sizeOf5
 v5 := Tryz.zeroValue5
 t9 := Tryz.underlying9
 a9 := Tryz.isAgg9
 z9 := Tryz.sizeOf9
 v9 := Tryz.zeroValue9
 t22 := Tryz.underlying22
 a22 := Tryz.isAgg22
 z22 := Tryz.sizeOf22
 v22 := Tryz.zeroValue22
 t23 := Tryz.underlying22
 a23 := Tryz.isAgg22
 z23 := Tryz.sizeOf22
 v23 := Tryz.zeroValue22
 t25 := Tryz.underlying3
 a25 := Tryz.isAgg3
 z25 := Tryz.sizeOf3
 v25 := Tryz.zeroValue3
 t32 := Tryz.underlying148
 a32 := Tryz.isAgg148
 z32 := Tryz.sizeOf148
 v32 := Tryz.zeroValue148
 t35 := Tryz.underlying200
 a35 := Tryz.isAgg200
 z35 := Tryz.sizeOf200
 v35 := Tryz.zeroValue200
 t36 := Tryz.underlying201
 a36 := Tryz.isAgg201
 z36 := Tryz.sizeOf201
 v36 := Tryz.zeroValue201
 t41 := Tryz.underlying81
 a41 := Tryz.isAgg81
 z41 := Tryz.sizeOf81
 v41 := Tryz.zeroValue81
 t44 := Tryz.underlying207
 a44 := Tryz.isAgg207
 z44 := Tryz.sizeOf207
 v44 := Tryz.zeroValue207
 t46 := Tryz.underlying37
 a46 := Tryz.isAgg37
 z46 := Tryz.sizeOf37
 v46 := Tryz.zeroValue37
 t53 := Tryz.underlying211
 a53 := Tryz.isAgg211
 z53 := Tryz.sizeOf211
 v53 := Tryz.zeroValue211
 t57 := Tryz.underlying215
 a57 := Tryz.isAgg215
 z57 := Tryz.sizeOf215
 v57 := Tryz.zeroValue215
 t63 := Tryz.underlying217
 a63 := Tryz.isAgg217
 z63 := Tryz.sizeOf217
 v63 := Tryz.zeroValue217
 t64 := Tryz.underlying218
 a64 := Tryz.isAgg218
 z64 := Tryz.sizeOf218
 v64 := Tryz.zeroValue218 }
def Tryz.lCompact_ren : Go.Shelf.Ren := ⟨fun | 43 => 129 | n => n, fun | 22 => 22 | 23 => 3 | 3 => 3 | 4 => 4 | 0 => 0 | n => n, fun | n => n⟩
theorem Tryz.lCompact : Go.Proofs.SlLaysN.n43 Tryz.prog Tryz.lCompact_ren := {
 mixed := by kernel_rfl
 f43 := ⟨Tryz.f129.name, by decide, Tryz.func129.trans (congrArg some (by kernel_rfl))⟩
 t0 := Tryz.underlying0
 a0 := Tryz.isAgg0
 z0 := Tryz.sizeOf0
 v0 := Tryz.zeroValue0
 t3 := Tryz.underlying3
 a3 := Tryz.isAgg3
 z3 := Tryz.sizeOf3
 v3 := Tryz.zeroValue3
 t4 := Tryz.underlying4
 a4 := Tryz.isAgg4
 z4 := Tryz.sizeOf4
 v4 := Tryz.zeroValue4
 t22 := Tryz.underlying22
 a22 := Tryz.isAgg22
 z22 := Tryz.sizeOf22
 v22 := Tryz.zeroValue22
 t23 := Tryz.underlying3
 a23 := Tryz.isAgg3
 z23 := Tryz.sizeOf3
 v23 := Tryz.zeroValue3
 i23 := by kernel_rfl }
end Go.Proofs

set_option linter.unusedSimpArgs false
set_option maxRecDepth 100000
set_option maxHeartbeats 8000000
namespace Go.Proofs
open Go Go.Tr
def recV (l : List (Int × Pk)) : BitVec 64 := l.foldl (fun a d => a ||| d.2.bits) 0#64
theorem recV_next {l : List (Int × Pk)} {i : Nat} {y : Int × Pk} (h : l[i]? = some y) : recV (l.take (i + 1)) = recV (l.take i) ||| y.2.bits := by
 unfold recV
 rw [List.take_add_one, h]; simp
theorem received_c (t : Trc) (ht : t.dl.length ≤ 1000000) : Contract Tryz.prog 82 [trcT t] [] (.d (bv (recV t.dl))) [] [] := by
 refine contract_of Tryz.func82 rfl (fun E0 => ?_)
 refine awp.sound (g := .mk) (ow := []) (kp := (fun k => k==0||k==1||k==2||k==3||k==5||k==7||k==8||k==9||k==10)) ?_
 rw [Tryz.ntmps82]
 simp -dsimp [trcT]
 try refine ⟨?_, ⟨by kernel_rfl⟩⟩
 refine ALoop.of [] (fun k => k==0||k==1||k==2||k==3||k==5||k==7||k==8||k==9||k==10) (ι := { i : Nat // i ≤ t.dl.length })
  (fun z => [(Pl.s 3, It.v (TV.d (D.int IntKind.u64 (tn (recV (t.dl.take z.1)))))), (Pl.s 7, It.v (TV.d (D.sl (t.dl.map dlC)))), (Pl.s 8, It.v (TV.d (D.int IntKind.i64 t.dl.length))), (Pl.s 9, It.v (TV.d (D.int IntKind.i64 z.1)))])
  (fun z => t.dl.length - z.1) ⟨0, by omega⟩ ?_ ?_
 ·exact GS.to (by simp [recV])
 ·rintro ⟨i, i1⟩
  by_cases hi : i < t.dl.length
  ·have hiz : (i : Int) < t.dl.length := by omega
   have hg : t.dl[i]? = some t.dl[i] := List.getElem?_eq_getElem hi
   generalize t.dl[i] = y at hg
   have hn := recV_next hg
   simp -dsimp [hg, hiz, dlC, Pk.cs, bv, wrap_i64 (n := (i : Int) + 1) (by omega) (by omega)]
   and_intros
   all_goals try first | omega | exact ⟨by kernel_rfl⟩
   exact ⟨⟨i + 1, by omega⟩, GS.to (by simp [hn]), by simp; omega⟩
  ·have hiz : ¬ (i : Int) < t.dl.length := by omega
   obtain rfl : i = t.dl.length := by omega
   simp -dsimp [hiz]
   refine Fin.of ?_
   simp [bv]
theorem cpt_len (zs : List Int) : (Lib.compact zs).length ≤ zs.length := by
 unfold Lib.compact Lib.compactUpTo
 rw [List.length_map]
 exact Nat.le_trans (List.length_filter_le _ _) (by simp)
theorem sort_i : InplC Tryz.prog 107 .i64 (fun zs => zs.mergeSort fun x y => decide (x ≤ y)) none := InplC.sort Tryz.lSort
theorem compact_i : InplC Tryz.prog 129 .i64 cpt (some fun zs => (Lib.compact zs).length) := InplC.compact Tryz.lCompact cpt_len
theorem cpt_take (zs : List Int) : (cpt zs).take (Lib.compact zs).length = Lib.compact zs := by simp [cpt]
def rtsR (t : Trc) : List Int := Lib.compact ((t.dl.map fun d => d.1).mergeSort fun x y => decide (x ≤ y))
theorem routers_c (t : Trc) (ht : t.dl.length ≤ 1000000) : Contract Tryz.prog 81 [trcT t] [] (.d (ints (rtsR t))) [] [] := by
 refine contract_of Tryz.func81 rfl (fun E0 => ?_)
 refine awp.sound (g := .mk) (ow := [1000107, 1000129]) (kp := (fun k => k==0||k==1||k==2||k==3||k==5||k==7||k==8||k==9||k==10)) ?_
 rw [Tryz.ntmps81]
 simp -dsimp [trcT]
 try refine ⟨?_, ⟨by kernel_rfl⟩⟩
 refine ALoop.of [1000107, 1000129] (fun k => k==0||k==1||k==2||k==3||k==5||k==7||k==8||k==9||k==10) (ι := { i : Nat // i ≤ t.dl.length })
  (fun z => [(Pl.s 3, It.v (TV.oref 3 z.1)), (Pl.o 3, .row 3 1 (dd (nrow .i64 ((t.dl.take z.1).map fun d => d.1))) false), (Pl.s 7, It.v (TV.d (D.sl (t.dl.map dlC)))), (Pl.s 8, It.v (TV.d (D.int IntKind.i64 t.dl.length))), (Pl.s 9, It.v (TV.d (D.int IntKind.i64 z.1)))])
  (fun z => t.dl.length - z.1) ⟨0, by omega⟩ ?_ ?_
 ·exact GS.own' (k := 3) 3 1 (by simp) (by simp) (by simp [nrow])
 ·rintro ⟨i, i1⟩
  by_cases hi : i < t.dl.length
  ·have hiz : (i : Int) < t.dl.length := by omega
   have hg : t.dl[i]? = some t.dl[i] := List.getElem?_eq_getElem hi
   generalize t.dl[i] = y at hg
   have hn : (t.dl.take (i + 1)).map (fun d => d.1) = (t.dl.take i).map (fun d => d.1) ++ [y.1] := by rw [List.take_add_one, hg]; simp
   have hm : min i t.dl.length = i := by omega
   simp -dsimp [hg, hiz, hm, dlC, Pk.cs, wrap_i64 (n := (i : Int) + 1) (by omega) (by omega)]
   and_intros
   all_goals try first | omega | exact ⟨by kernel_rfl⟩
   exact ⟨⟨i + 1, by omega⟩, GS.to (by simp [hn, nrow]), by simp; omega⟩
  ·have hiz : ¬ (i : Int) < t.dl.length := by omega
   obtain rfl : i = t.dl.length := by omega
   have hl : (t.dl.map fun d => d.1).length = t.dl.length := by simp
   have hR : rtsR t = Lib.compact ((t.dl.map fun d => d.1).mergeSort fun x y => decide (x ≤ y)) := rfl
   rw [hR]
   simp -dsimp [hiz]
   generalize t.dl.map (fun d => d.1) = L at hl hR ⊢
   refine ACall.inpl sort_i L ?_
   simp -dsimp
   and_intros
   all_goals try first | omega | exact ⟨by kernel_rfl⟩
   have hsl : (L.mergeSort fun x y => decide (x ≤ y)).length = t.dl.length := by rw [List.length_mergeSort]; exact hl
   refine ACall.inpl compact_i (L.mergeSort fun x y => decide (x ≤ y)) ?_
   simp -dsimp [cpt_take]
   and_intros
   all_goals try first | omega | exact ⟨by kernel_rfl⟩
   refine Fin.of ?_
   simp [ints, nrow]
end Go.Proofs

set_option linter.unusedSimpArgs false
namespace Go.Proofs
def lkLt (x y : Lk) : Prop := x.a < y.a ∨ (x.a = y.a ∧ x.b < y.b)
theorem lkLt_trans {x y z : Lk} (h1 : lkLt x y) (h2 : lkLt y z) : lkLt x z := by
 unfold lkLt at *; omega
theorem adj_pw {α : Type} {q : α → α → Bool} {r : α → α → Prop} (hr : ∀ x y, q x y = false → r x y) (ht : ∀ x y z, r x y → r y z → r x z) : ∀ {l : List α}, adjB q l = false → l.Pairwise r
 | [], _ => List.Pairwise.nil
 | [x], _ => by simp
 | x :: y :: l, h => by
   simp only [adjB, Bool.or_eq_false_iff] at h
   have ih := adj_pw hr ht (l := y :: l) h.2
   refine List.Pairwise.cons (fun z hz => ?_) ih
   rcases List.mem_cons.1 hz with rfl | hz
   ·exact hr _ _ h.1
   ·exact ht _ _ _ (hr _ _ h.1) ((List.pairwise_cons.1 ih).1 z hz)
theorem Topo.Ok.lpw {g : Topo} (h : g.Ok) : g.ls.Pairwise lkLt :=
 adj_pw (r := lkLt) (fun x y h => by simp only [Bool.or_eq_false_iff, decide_eq_false_iff_not, Bool.and_eq_false_iff] at h; unfold lkLt; omega) (fun _ _ _ => lkLt_trans) h.lord
theorem Topo.Ok.rpw {g : Topo} (h : g.Ok) : g.rs.Pairwise (fun x y => x.id < y.id) :=
 adj_pw (r := fun x y => x.id < y.id) (fun x y h => by simpa using h) (fun _ _ _ => Int.lt_trans) h.ord
theorem Topo.Ok.lab {g : Topo} (h : g.Ok) {x : Lk} (hx : x ∈ g.ls) : x.a < x.b := by
 have := List.any_eq_false.1 h.ab x hx
 simpa using this
theorem Topo.Ok.ends' {g : Topo} (h : g.Ok) {x : Lk} (hx : x ∈ g.ls) : hasR g.rs x.a = true ∧ hasR g.rs x.b = true := by
 have := List.any_eq_false.1 h.ends x hx
 simpa using this
theorem price_mem : ∀ {l : List Lk} {f t c : Int}, price l f t = some c → ∃ x ∈ l, (x.a = f ∧ x.b = t ∧ x.ca = c) ∨ (x.b = f ∧ x.a = t ∧ x.cb = c)
 | [], _, _, _, h => by simp [price] at h
 | x :: l, f, t, c, h => by
   rw [price] at h
   split at h
   ·rename_i hx; exact ⟨x, by simp, .inl ⟨hx.1, hx.2, by simpa using h⟩⟩
   ·split at h
    ·rename_i hx; exact ⟨x, by simp, .inr ⟨hx.1, hx.2, by simpa using h⟩⟩
    ·obtain ⟨y, hy, h2⟩ := price_mem h
     exact ⟨y, by simp [hy], h2⟩
theorem price_of : ∀ {l : List Lk}, l.Pairwise lkLt → (∀ x ∈ l, x.a < x.b) → ∀ {x : Lk}, x ∈ l → price l x.a x.b = some x.ca ∧ price l x.b x.a = some x.cb
 | [], _, _, x, hx => by simp at hx
 | y :: l, hp, hab, x, hx => by
   have hy := hab y (by simp)
   rcases List.mem_cons.1 hx with rfl | hx'
   ·refine ⟨by rw [price, if_pos ⟨rfl, rfl⟩], ?_⟩
    rw [price, if_neg (by omega), if_pos ⟨rfl, rfl⟩]
   ·have hlt := (List.pairwise_cons.1 hp).1 x hx'
    have hx2 := hab x hx
    have ih := price_of (List.pairwise_cons.1 hp).2 (fun z hz => hab z (by simp [hz])) hx'
    unfold lkLt at hlt
    refine ⟨?_, ?_⟩
    ·rw [price, if_neg (by omega), if_neg (by omega)]; exact ih.1
    ·rw [price, if_neg (by omega), if_neg (by omega)]; exact ih.2
theorem price_has {g : Topo} (hg : g.Ok) {f t c : Int} (h : price g.ls f t = some c) : hasR g.rs f = true ∧ hasR g.rs t = true := by
 obtain ⟨x, hx, h1⟩ := price_mem h
 have h2 := hg.ends' hx
 rcases h1 with ⟨rfl, rfl, _⟩ | ⟨rfl, rfl, _⟩
 ·exact h2
 ·exact ⟨h2.2, h2.1⟩
theorem price_le {g : Topo} (hg : g.Ok) {f t c : Int} (h : price g.ls f t = some c) : 1 ≤ c ∧ c ≤ 1000 := by
 obtain ⟨x, hx, h1⟩ := price_mem h
 have h2 := hg.c hx
 omega
theorem price_sym {g : Topo} (hg : g.Ok) {f t c : Int} (h : price g.ls f t = some c) : ∃ c', price g.ls t f = some c' := by
 obtain ⟨x, hx, h1⟩ := price_mem h
 have h2 := price_of hg.lpw (fun _ h => hg.lab h) hx
 rcases h1 with ⟨rfl, rfl, _⟩ | ⟨rfl, rfl, _⟩
 ·exact ⟨_, h2.2⟩
 ·exact ⟨_, h2.1⟩
theorem near_iff {g : Topo} (hg : g.Ok) {r x : Int} : x ∈ near g r ↔ ∃ c, price g.ls r x = some c := by
 simp only [near, List.mem_map, List.mem_filter]
 constructor
 ·rintro ⟨y, ⟨_, h⟩, rfl⟩
  exact Option.isSome_iff_exists.1 h
 ·rintro ⟨c, h⟩
  obtain ⟨y, hy, rfl⟩ := List.mem_map.1 (hasR_mem.1 (price_has hg h).2)
  exact ⟨y, ⟨hy, by simp [h]⟩, rfl⟩
inductive Wk (g : Topo) (to : Int) : Nat → Int → Int → Prop
 | nil : Wk g to 0 to 0
 | cons {k : Nat} {x y c v : Int} : price g.ls x y = some c → Wk g to k y v → Wk g to (k + 1) x (c + v)
theorem Wk.nonneg {g : Topo} (hg : g.Ok) {to : Int} {k : Nat} {x v : Int} (h : Wk g to k x v) : (k : Int) ≤ v := by
 induction h with
 | nil => simp
 | cons hp _ ih => have := price_le hg hp; omega
theorem Wk.le {g : Topo} (hg : g.Ok) {to : Int} {k : Nat} {x v : Int} (h : Wk g to k x v) : v ≤ 1000 * k := by
 induction h with
 | nil => simp
 | cons hp _ ih => have := price_le hg hp; omega
inductive Wa (g : Topo) (to : Int) (S : List Int) : Int → Int → Prop
 | nil : to ∉ S → Wa g to S to 0
 | cons {x y c v : Int} : x ∉ S → price g.ls x y = some c → Wa g to S y v → Wa g to S x (c + v)
theorem Wk.wa {g : Topo} {to : Int} {k : Nat} {x v : Int} (h : Wk g to k x v) : Wa g to [] x v := by
 induction h with
 | nil => exact .nil (by simp)
 | cons hp _ ih => exact .cons (by simp) hp ih
theorem Wa.notin {g : Topo} {to : Int} {S : List Int} {x v : Int} (h : Wa g to S x v) : x ∉ S := by
 cases h with
 | nil h => exact h
 | cons h _ _ => exact h
theorem Wa.last {g : Topo} (hg : g.Ok) {to : Int} {S : List Int} (x : Int) {z v : Int} (h : Wa g to S z v) :
  Wa g to (x :: S) z v ∨ x = to ∨ ∃ y c w, price g.ls x y = some c ∧ Wa g to (x :: S) y w ∧ c + w ≤ v := by
 induction h with
 | nil h =>
   by_cases e : x = to
   ·exact .inr (.inl e)
   ·exact .inl (.nil (by simp [h, Ne.symm e]))
 | @cons z y c v hz hp hw ih =>
   have hc := price_le hg hp
   rcases ih with ih | ih | ⟨y', c', w', h1, h2, h3⟩
   ·by_cases e : z = x
    ·subst e; exact .inr (.inr ⟨y, c, v, hp, ih, by omega⟩)
    ·exact .inl (.cons (by simp [hz, e]) hp ih)
   ·exact .inr (.inl ih)
   ·exact .inr (.inr ⟨y', c', w', h1, h2, by omega⟩)
theorem Wa.nonneg {g : Topo} (hg : g.Ok) {to : Int} {S : List Int} {x v : Int} (h : Wa g to S x v) : 0 ≤ v := by
 induction h with
 | nil => simp
 | cons _ hp _ ih => have := price_le hg hp; omega
theorem Wa.short {g : Topo} (hg : g.Ok) {to : Int} (hto : hasR g.rs to = true) : ∀ (m : Nat) {S : List Int} {x v : Int}, Wa g to S x v → hasR g.rs x = true → S.Nodup → (∀ y ∈ S, hasR g.rs y = true) → g.rs.length ≤ S.length + 1 + m → ∃ k w, k ≤ m ∧ w ≤ v ∧ Wk g to k x w := by
 intro m
 induction m with
 | zero =>
   intro S x v h hx hS hh hm
   rcases h.last hg x with h1 | h1 | ⟨y, c, w, h1, h2, h3⟩
   ·exact absurd h1.notin (by simp)
   ·subst h1; exact ⟨0, 0, Nat.le_refl _, h.nonneg hg, .nil⟩
   ·exfalso
    have hy := price_has hg h1
    have hn : (y :: x :: S).Nodup := List.nodup_cons.2 ⟨h2.notin, List.nodup_cons.2 ⟨h.notin, hS⟩⟩
    have := seen_le hn (g := g) (fun z hz => by
     simp only [List.mem_cons] at hz
     rcases hz with rfl | rfl | hz
     ·exact hy.2
     ·exact hx
     ·exact hh z hz)
    simp at this; omega
 | succ m ih =>
   intro S x v h hx hS hh hm
   rcases h.last hg x with h1 | h1 | ⟨y, c, w, h1, h2, h3⟩
   ·exact absurd h1.notin (by simp)
   ·subst h1; exact ⟨0, 0, by omega, h.nonneg hg, .nil⟩
   ·have hy := price_has hg h1
    obtain ⟨k, w', k1, k2, k3⟩ := ih h2 hy.2 (List.nodup_cons.2 ⟨h.notin, hS⟩) (fun z hz => by
     rcases List.mem_cons.1 hz with rfl | hz
     ·exact hx
     ·exact hh z hz) (by simp; omega)
    exact ⟨k + 1, c + w', by omega, by omega, .cons h1 k3⟩
theorem Wk.has {g : Topo} (hg : g.Ok) {to : Int} (hto : hasR g.rs to = true) {k : Nat} {x v : Int} (h : Wk g to k x v) : hasR g.rs x = true := by
 cases h with
 | nil => exact hto
 | cons hp _ => exact (price_has hg hp).1
theorem has_pos {g : Topo} {x : Int} (h : hasR g.rs x = true) : 1 ≤ g.rs.length := by
 cases hl : g.rs with
 | nil => simp [hasR, hl] at h
 | cons a l => simp
theorem Wk.short {g : Topo} (hg : g.Ok) {to : Int} (hto : hasR g.rs to = true) {k : Nat} {x v : Int} (h : Wk g to k x v) : ∃ j w, j + 1 ≤ g.rs.length ∧ w ≤ v ∧ Wk g to j x w := by
 have hp := has_pos hto
 obtain ⟨j, w, h1, h2, h3⟩ := h.wa.short hg hto (g.rs.length - 1) (h.has hg hto) List.nodup_nil (by simp) (by simp; omega)
 exact ⟨j, w, by omega, h2, h3⟩
theorem placeR_some : ∀ {l : List Rt} {r : Int}, hasR l r = true → ∃ i, placeR l r = some i
 | [], r, h => by simp [hasR] at h
 | x :: l, r, h => by
   by_cases e : x.id = r
   ·exact ⟨0, by rw [placeR, if_pos e]⟩
   ·obtain ⟨i, hi⟩ := placeR_some (l := l) (r := r) (by simpa [hasR, e] using h)
    exact ⟨i + 1, by rw [placeR, if_neg e, hi]; rfl⟩
theorem placeR_get : ∀ {l : List Rt} {r : Int} {i : Nat}, placeR l r = some i → ∃ x, l[i]? = some x ∧ x.id = r
 | [], r, i, h => by simp [placeR] at h
 | x :: l, r, i, h => by
   rw [placeR] at h
   split at h
   ·simp at h; subst h; exact ⟨x, by simp, by assumption⟩
   ·cases hp : placeR l r with
    | none => simp [hp] at h
    | some j =>
      simp [hp] at h; subst h
      obtain ⟨y, h1, h2⟩ := placeR_get hp
      exact ⟨y, by simpa using h1, h2⟩
theorem placeR_inj {l : List Rt} {r s : Int} {i : Nat} (h1 : placeR l r = some i) (h2 : placeR l s = some i) : r = s := by
 obtain ⟨x, a1, rfl⟩ := placeR_get h1
 obtain ⟨y, b1, rfl⟩ := placeR_get h2
 rw [a1] at b1; simp at b1; rw [b1]
theorem atR_plc {g : Topo} {d : List Int} {r : Int} (h : hasR g.rs r = true) : atR g d r = d.getD (plc g r) 0 := by
 obtain ⟨i, hi⟩ := placeR_some h
 simp [atR, plc, hi]
theorem atR_set {g : Topo} {d : List Int} (hd : g.rs.length ≤ d.length) {r s v : Int} (hr : hasR g.rs r = true) (hs : hasR g.rs s = true) : atR g (d.set (plc g r) v) s = if s = r then v else atR g d s := by
 obtain ⟨i, hi⟩ := placeR_some hr
 obtain ⟨j, hj⟩ := placeR_some hs
 have hil := placeR_lt hi
 simp only [atR, plc, hi, hj, Option.getD_some]
 rw [List.getD_eq_getElem?_getD, List.getD_eq_getElem?_getD, List.getElem?_set]
 by_cases e : s = r
 ·subst e
  rw [hi] at hj; simp at hj; subst hj
  rw [if_pos rfl, if_pos rfl, if_pos (by omega)]; rfl
 ·rw [if_neg e, if_neg (fun h => e (by subst h; exact placeR_inj hj hi))]
theorem atR_relax {g : Topo} (hg : g.Ok) {d : List Int} (hd : g.rs.length ≤ d.length) {l : Lk} (hl : l ∈ g.ls) {s : Int} (hs : hasR g.rs s = true) :
  atR g (relax g d l) s = (if s = l.a then (if atR g d l.b < far then min (atR g d l.a) (l.ca + atR g d l.b) else atR g d l.a)
   else if s = l.b then
    (if (if atR g d l.b < far then min (atR g d l.a) (l.ca + atR g d l.b) else atR g d l.a) < far then min (atR g d l.b) (l.cb + (if atR g d l.b < far then min (atR g d l.a) (l.ca + atR g d l.b) else atR g d l.a)) else atR g d l.b)
   else atR g d s) := by
 obtain ⟨ha, hb⟩ := hg.ends' hl
 have hab := hg.lab hl
 unfold relax
 simp only
 rw [← atR_plc hb, ← atR_plc ha]
 have key : ∀ d1 : List Int, g.rs.length ≤ d1.length → atR g d1 l.b = atR g d l.b → (∀ s, hasR g.rs s = true → atR g d1 s = if s = l.a then atR g d1 l.a else atR g d s) →
   atR g (if atR g d1 l.a < far then d1.set (plc g l.b) (min (d1.getD (plc g l.b) 0) (l.cb + atR g d1 l.a)) else d1) s =
    if s = l.a then atR g d1 l.a else if s = l.b then (if atR g d1 l.a < far then min (atR g d l.b) (l.cb + atR g d1 l.a) else atR g d l.b) else atR g d s := by
  intro d1 h1 h2 h3
  rw [← atR_plc hb, h2]
  have h4 := h3 s hs
  split
  ·rw [atR_set h1 hb hs]
   by_cases e : s = l.b
   ·subst e; rw [if_pos rfl, if_neg (by omega), if_pos rfl]
   ·rw [if_neg e, h4, if_neg e]
  ·rw [h4]
   by_cases e : s = l.b
   ·subst e; rw [if_neg (by omega), if_pos rfl, if_neg (by omega)]
   ·rw [if_neg e]
 have e0 : ∀ d1 : List Int, d1.getD (plc g l.a) 0 = atR g d1 l.a := fun d1 => (atR_plc ha).symm
 rw [e0]
 by_cases hlt : atR g d l.b < far
 ·rw [if_pos hlt]
  have h5 : atR g (d.set (plc g l.a) (min (atR g d l.a) (l.ca + atR g d l.b))) l.a = min (atR g d l.a) (l.ca + atR g d l.b) := by rw [atR_set hd ha ha, if_pos rfl]
  have := key (d.set (plc g l.a) (min (atR g d l.a) (l.ca + atR g d l.b))) (by simpa using hd) (by rw [atR_set hd ha hb, if_neg (by omega)]) (fun s hs => by
   rw [atR_set hd ha hs, atR_set hd ha ha, if_pos rfl])
  rw [this]
  simp only [h5, if_pos hlt]
 ·rw [if_neg hlt]
  have := key d hd rfl (fun s hs => by by_cases e : s = l.a <;> simp [e])
  rw [this]
  simp only [if_neg hlt]
end Go.Proofs

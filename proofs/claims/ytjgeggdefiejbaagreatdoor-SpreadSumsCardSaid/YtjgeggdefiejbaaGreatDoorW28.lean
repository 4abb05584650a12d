/-
  What functions of the program compute, stated as contracts over plain data; the conditions of each stand in its own statement.
-/
import Derived.Test.YtjgeggdefiejbaaGreatDoorW24
import Derived.Test.YtjgeggdefiejbaaGreatDoorW27
import Derived.Test.YtjgeggdefiejbaaGreatDoorW15
set_option linter.unusedSimpArgs false
namespace Go.Proofs
open Go Go.Tr
structure Trc where
 dl : List (Int × Pk)
 cr : List (Int × Int × BitVec 64)
 ls : List (Int × BitVec 64)
def tr0 : Trc := ⟨[], [], []⟩
def nextQ (l : List Tb) (q : Int × Pk) : List (Int × Pk) :=
 match findT l q.1 with
 | none => []
 | some b => (fwdR b q.2).1.cps
def stepT (l : List Tb) (q : Int × Pk) (t : Trc) : Trc :=
 match findT l q.1 with
 | none => ⟨t.dl, t.cr, t.ls ++ [(q.1, q.2.bits)]⟩
 | some b => ⟨t.dl ++ locV q.1 (fwdR b q.2).1 q.2, t.cr ++ (fwdR b q.2).1.cps.map (fun c => (q.1, c.1, c.2.bits)), if (fwdR b q.2).1.lost = 0#64 then t.ls else t.ls ++ [(q.1, (fwdR b q.2).1.lost)]⟩
def runG (l : List Tb) : Nat → List (Int × Pk) → Trc → Trc
 | 0, _, t => t
 | _ + 1, [], t => t
 | n + 1, q :: qs, t => runG l n (qs ++ nextQ l q) (stepT l q t)
def pc (B : BitVec 64) : Nat := (bitsL B).length
def wt (p : Pk) : Nat := pc p.bits * (2 * p.ttl.toNat + 1) + 1
def wsum (l : List (Int × Pk)) : Nat := (l.map fun c => wt c.2).sum
def runR (l : List Tb) (p : Pk) (r : Int) : Trc × Int :=
 if chkA l ≠ 0 ∨ p.ok = false then (tr0, 1) else match findT l r with
  | none => (tr0, 4)
  | some b => if p.mode = 2 then (tr0, 7) else if p.subd ≠ b.sd ∨ p.len ≠ b.len then (tr0, 8) else (runG l (wt p) [(r, p)] tr0, 0)
theorem wsum_app (a b : List (Int × Pk)) : wsum (a ++ b) = wsum a + wsum b := by simp [wsum]
theorem wsum_cons (q : Int × Pk) (b : List (Int × Pk)) : wsum (q :: b) = wt q.2 + wsum b := by simp [wsum]
theorem len_wsum : ∀ l : List (Int × Pk), l.length ≤ wsum l
 | [] => by simp
 | q :: l => by
   have := len_wsum l
   rw [wsum_cons, List.length_cons]
   unfold wt; omega
theorem filter_split {α : Type} (p : α → Bool) : ∀ l : List α, (l.filter p).length + (l.filter fun x => !p x).length = l.length
 | [] => rfl
 | x :: l => by
   have := filter_split p l
   rw [List.filter_cons, List.filter_cons]
   cases h : p x <;> simp <;> omega
theorem bitsL_and (R M : BitVec 64) : bitsL (R &&& M) = (bitsL R).filter fun i => M.getLsbD i := by
 unfold bitsL
 rw [List.filter_filter]
 apply List.filter_congr
 intro i _
 rw [BitVec.getLsbD_and, Bool.and_comm]
theorem bitsL_andNot (R M : BitVec 64) : bitsL (R &&& ~~~ M) = (bitsL R).filter fun i => !M.getLsbD i := by
 unfold bitsL
 rw [List.filter_filter]
 apply List.filter_congr
 intro i hi
 have : i < 64 := by simpa using hi
 rw [BitVec.getLsbD_and, BitVec.getLsbD_not]
 simp [this, Bool.and_comm]
theorem pc_split (R M : BitVec 64) : pc (R &&& M) + pc (R &&& ~~~ M) = pc R := by
 unfold pc
 rw [bitsL_and, bitsL_andNot]
 exact filter_split (fun i => M.getLsbD i) (bitsL R)
theorem pc_le (B : BitVec 64) : pc B ≤ 64 := bitsL_len B
theorem pc_pos {B : BitVec 64} (h : B ≠ 0#64) : 1 ≤ pc B := by
 unfold pc
 rcases Nat.eq_zero_or_pos (bitsL B).length with h0 | h0
 ·exact absurd (pop_zero h0) h
 ·exact h0
theorem wt_copy {p : Pk} {R M : BitVec 64} (h : (pkmR (p.setB R) M).2 = true) : wt (pkmR (p.setB R) M).1 ≤ pc (R &&& M) * (2 * p.ttl.toNat) := by
 unfold pkmR at h ⊢
 split at h
 ·rename_i hc
  obtain ⟨h1, h2, h3⟩ := hc
  rw [if_pos ⟨h1, h2, h3⟩]
  have hp := pc_pos h3
  have ht := ok_ttl h1
  simp only [Pk.setB] at hp h2 ht
  have ht1 : (p.ttl - 1).toNat = p.ttl.toNat - 1 := by omega
  have ht2 : 1 ≤ p.ttl.toNat := by omega
  simp only [wt, pkMask, Pk.setB, ht1]
  obtain ⟨T, hT⟩ : ∃ T, p.ttl.toNat = T + 1 := ⟨p.ttl.toNat - 1, by omega⟩
  rw [hT, show T + 1 - 1 = T by omega, show 2 * (T + 1) = (2 * T + 1) + 1 by omega, Nat.mul_add _ (2 * T + 1) 1]
  omega
 ·simp at h
theorem fwdG_wt (b : Tb) (p : Pk) : ∀ (n : Nat) (o : Out) (R : BitVec 64), wsum (fwdG b p n o R).cps ≤ wsum o.cps + pc R * (2 * p.ttl.toNat)
 | 0, o, R => by simp [fwdG]
 | n + 1, o, R => by
   rw [fwdG]
   split
   ·omega
   ·have ih := fwdG_wt b p n (fwdO b p o R) (R &&& ~~~ fwdM b p R)
    refine Nat.le_trans ih ?_
    have hs := pc_split R (fwdM b p R)
    have hm : pc (R &&& ~~~ fwdM b p R) * (2 * p.ttl.toNat) + pc (R &&& fwdM b p R) * (2 * p.ttl.toNat) = pc R * (2 * p.ttl.toNat) := by
     rw [← Nat.add_mul]; congr 1; omega
    by_cases c0 : hopAt b p (tz R) = 0
    ·have eO : (fwdO b p o R).cps = o.cps := by rw [fwdO, if_pos c0]
     rw [eO]; omega
    by_cases c1 : hopAt b p (tz R) = b.r
    ·have eO : (fwdO b p o R).cps = o.cps := by rw [fwdO, if_neg c0, if_pos c1]
     rw [eO]; omega
    have eM : fwdM b p R = togR b p R (hopAt b p (tz R)) := by rw [fwdM, if_neg (fun h => h.elim c0 c1)]
    by_cases c2 : (pkmR (p.setB R) (togR b p R (hopAt b p (tz R)))).2 = true
    ·have eO : (fwdO b p o R).cps = o.cps ++ [(hopAt b p (tz R), (pkmR (p.setB R) (togR b p R (hopAt b p (tz R)))).1)] := by
      rw [fwdO, if_neg c0, if_neg c1, if_pos c2]
     have hw := wt_copy c2
     rw [← eM] at hw
     rw [eO, wsum_app, wsum_cons, ← eM]
     simp only [wsum, List.map_nil, List.sum_nil] at *
     omega
    ·have eO : (fwdO b p o R).cps = o.cps := by rw [fwdO, if_neg c0, if_neg c1, if_neg c2]
     rw [eO]; omega
theorem nextQ_wt (l : List Tb) (q : Int × Pk) : wsum (nextQ l q) + 1 ≤ wt q.2 := by
 have h0 : 1 ≤ wt q.2 := by unfold wt; omega
 unfold nextQ
 split
 ·simpa [wsum] using h0
 ·rename_i b _
  unfold fwdR
  split
  ·simpa [wsum, out0] using h0
  split
  ·simpa [wsum, out0] using h0
  split
  ·simpa [wsum, out0] using h0
  have h := fwdG_wt b q.2 64 out0 q.2.bits
  have e0 : wsum out0.cps = 0 := rfl
  simp only [fwdV]
  unfold wt
  rw [Nat.mul_add]
  omega
theorem wt_le {p : Pk} (h : p.ok = true) : wt p ≤ 8129 := by
 have h1 := ok_ttl h
 have h2 := pc_le p.bits
 unfold wt
 have h3 : 2 * p.ttl.toNat + 1 ≤ 127 := by omega
 have := Nat.mul_le_mul h2 h3
 omega
theorem runG_nil (l : List Tb) (n : Nat) (t : Trc) : runG l n [] t = t := by cases n <;> rfl
theorem fwdG_len (b : Tb) (p : Pk) : ∀ (n : Nat) (o : Out) (R : BitVec 64), (fwdG b p n o R).cps.length ≤ o.cps.length + n
 | 0, o, R => by simp [fwdG]
 | n + 1, o, R => by
   rw [fwdG]
   split
   ·omega
   ·have ih := fwdG_len b p n (fwdO b p o R) (R &&& ~~~ fwdM b p R)
    have : (fwdO b p o R).cps.length ≤ o.cps.length + 1 := by
     unfold fwdO
     split
     ·simp
     split
     ·simp
     split <;> simp
    omega
theorem fwdR_len (b : Tb) (p : Pk) : (fwdR b p).1.cps.length ≤ 64 := by
 unfold fwdR
 split
 ·simp [out0]
 split
 ·simp [out0]
 split
 ·simp [out0]
 have := fwdG_len b p 64 out0 p.bits
 simpa [fwdV, out0] using this
end Go.Proofs

set_option maxRecDepth 100000
set_option maxHeartbeats 16000000
namespace Go.Tr
open Go
theorem GS.ownBp {A : Actv} {l : List (Pl × It)} (p : Pl) (j id : Nat) {cs : List TV} (e z : Nat) (hs : isPl p = true) (hp : look l p = .box cs) (hj : cs[j]? = some (.c (.slice none 0 0))) (ho : look l (.o id) = .none) :
  GS A (look l) (look (put1 p (.box (cs.set j (.oref id 0))) (put1 (.o id) (.row e z [] false) l))) := by
 have := GS.ownB (A := A) (id := id) e z (fun k e => by subst e; simp [isPl] at hs) hp hj ho
 rw [upd_look, upd_look] at this
 exact this
theorem GS.quep {A : Actv} {l : List (Pl × It)} (id : Nat) {k : Nat} {e : TypeId} {es : List (List TV)} (ht : look l (.o id) = .row e k es false) (hn : 0 < es.length) : GS A (look l) (look (put1 (.o id) (.que e k es) l)) := by
 have := GS.que (A := A) ht hn
 rw [upd_look] at this
 exact this
theorem It.only_que (po : Nat → Prop) (e : TypeId) (k : Nat) (es : List (List TV)) : It.only po (.que e k es) = rowsOnly po es := rfl
attribute [simp] It.only_que
theorem GS.cut' {A : Actv} {l l' : List (Pl × It)} (s id : Nat) {n j k : Nat} {e : TypeId} (xs : List (List D)) (hs : look l (.s s) = .v (.osl id n j)) (ht : look l (.o id) = .que e k (dd xs)) (hn : n = xs.length) (hj : j ≤ n)
  (h : Sub (look l) (cutL s id l') ∧ xIds (cutL s id l') = xIds l) (hid : id ∉ oIds (cutL s id l'))
  (h' : Sub (look (put1 (.s s) (.v (.oref id (n - j))) (put1 (.o id) (.que e k (dd (xs.drop j))) (cutL s id l')))) l' ∧ xIds l' = xIds (put1 (.s s) (.v (.oref id (n - j))) (put1 (.o id) (.que e k (dd (xs.drop j))) (cutL s id l')))) : GS A (look l) (look l') :=
 GS.cut (cutL s id l') s id hs ht hn hj h hid h'
end Go.Tr
namespace Go.Proofs
open Go Go.Tr
def crC (x : Int × Int × BitVec 64) : List D := [.int .i64 x.1, .int .i64 x.2.1, bv x.2.2]
def lsC (x : Int × BitVec 64) : List D := [.int .i64 x.1, bv x.2]
def trcT (t : Trc) : TV := .agg [.d (.sl (t.dl.map dlC)), .d (.sl (t.cr.map crC)), .d (.sl (t.ls.map lsC))]
theorem run_c (l : List Tb) (hl : SmL l) (p : Pk) (r : Int) : Contract Tryz.prog 80 [.d (.sl (tbs l)), pkT p, .d (.int .i64 r)] [] (.tup [trcT (runR l p r).1, .d (.int .i64 (runR l p r).2)]) [] [] := by
 have hck := checkA_c l hl
 have hv := valid_c2 p
 have hf := find_c l hl r
 simp only [pkT, Pk.cs, List.map] at hv
 refine contract_of Tryz.func80 rfl (fun E0 => ?_)
 refine awp.sound (g := .mk) (ow := [60]) (kp := (fun k => k==0||k==1||k==2||k==4||k==6||k==7||k==8||k==9||k==10||k==11||k==12||k==13||k==14||k==15||k==18||k==26||k==34||k==38||k==43||k==63||k==77||k==109||k==121||k==122||k==123||k==124)) ?_
 rw [Tryz.ntmps80]
 simp -dsimp [pkT, Pk.cs]
 try refine ⟨?_, ⟨by kernel_rfl⟩⟩
 refine ACall.of hck [] 0 ?_
 by_cases h1 : chkA l = 0
 rotate_left
 ·simp -dsimp [h1]
  try refine ⟨?_, ⟨by kernel_rfl⟩⟩
  refine Fin.box (.o 6) rfl ?_
  simp -dsimp
  refine Fin.of ?_
  simp [runR, h1, trcT, tr0]
 simp -dsimp [h1]
 try refine ⟨?_, ⟨by kernel_rfl⟩⟩
 refine ACall.of hv [] 0 ?_
 rcases (Bool.eq_false_or_eq_true p.ok).symm with h2 | h2
 ·simp -dsimp [h2]
  try refine ⟨?_, ⟨by kernel_rfl⟩⟩
  refine Fin.box (.o 6) rfl ?_
  simp -dsimp
  refine Fin.of ?_
  simp [runR, trcT, tr0, h1, h2]
 cases hfd : findT l r with
 | none =>
   rw [hfd] at hf
   simp only [foundT, Option.getD_none, Option.isSome_none, tb0, tblT] at hf
   simp -dsimp [h2]
   try refine ⟨?_, ⟨by kernel_rfl⟩⟩
   refine ACall.of hf [] 0 ?_
   simp -dsimp
   try refine ⟨?_, ⟨by kernel_rfl⟩⟩
   refine Fin.box (.o 6) rfl ?_
   simp -dsimp
   refine Fin.of ?_
   simp [runR, trcT, tr0, h1, h2, hfd]
 | some b =>
   rw [hfd] at hf
   simp only [foundT, Option.getD_some, Option.isSome_some, tblT] at hf
   simp -dsimp [h2]
   try refine ⟨?_, ⟨by kernel_rfl⟩⟩
   refine ACall.of hf [] 0 ?_
   by_cases h3 : p.mode = 2
   ·simp -dsimp [eq_true h3]
    try refine ⟨?_, ⟨by kernel_rfl⟩⟩
    refine Fin.box (.o 6) rfl ?_
    simp -dsimp
    refine Fin.of ?_
    simp [runR, trcT, tr0, h1, h2, hfd, h3]
   by_cases h4 : p.subd = b.sd
   rotate_left
   ·simp -dsimp [h3, h4]
    try refine ⟨?_, ⟨by kernel_rfl⟩⟩
    refine Fin.box (.o 6) rfl ?_
    simp -dsimp
    refine Fin.of ?_
    simp [runR, trcT, tr0, h1, h2, hfd, h3, h4]
   by_cases h5 : p.len = b.len
   rotate_left
   ·simp -dsimp [h3, eq_true h4, h5]
    try refine ⟨?_, ⟨by kernel_rfl⟩⟩
    refine Fin.box (.o 6) rfl ?_
    simp -dsimp
    refine Fin.of ?_
    simp [runR, trcT, tr0, h1, h2, hfd, h3, h4, h5]
   simp -dsimp [h3, eq_true h4, eq_true h5]
   try refine ⟨?_, ⟨by kernel_rfl⟩⟩
   have hr : runR l p r = (runG l (wt p) [(r, p)] tr0, 0) := by simp [runR, h1, h2, hfd, h3, h4, h5]
   have hwt := wt_le h2
   rw [hr]
   have hsum1 : wsum [(r, p)] = wt p := by simp [wsum]
   refine ALoop.of [60] (fun k => k==0||k==1||k==2||k==4||k==6||k==7||k==8||k==9||k==10||k==11||k==12||k==13||k==14||k==15||k==18||k==26||k==34||k==38||k==43||k==63||k==77||k==109||k==121||k==122||k==123||k==124) (ι := { z : Nat × List (Int × Pk) × Trc // runG l (wt p) [(r, p)] tr0 = runG l z.1 z.2.1 z.2.2 ∧ wsum z.2.1 ≤ z.1 ∧ z.1 ≤ 8129 ∧ z.2.2.dl.length + 64 * z.1 ≤ 600000 ∧ z.2.2.cr.length + 64 * z.1 ≤ 600000 ∧ z.2.2.ls.length + z.1 ≤ 600000 })
    (fun z => [(Pl.s 0, It.v (.d (.sl (tbs l)))), (Pl.o 6, It.box [TV.c (Value.slice none 0 0), TV.c (Value.slice none 0 0), TV.c (Value.slice none 0 0)]), (Pl.s 6, It.v (.ptr (Pl.o 6) 0)), (Pl.s 7, It.v (.d (.int .i64 0))),
     (Pl.o 10, It.box [TV.oref 70 z.1.2.2.dl.length, TV.oref 71 z.1.2.2.cr.length, TV.oref 72 z.1.2.2.ls.length]), (Pl.s 10, It.v (.ptr (Pl.o 10) 0)),
     (Pl.o 70, It.row 138 11 (dd (z.1.2.2.dl.map dlC)) false), (Pl.o 71, It.row 158 3 (dd (z.1.2.2.cr.map crC)) false), (Pl.o 72, It.row 140 2 (dd (z.1.2.2.ls.map lsC)) false),
     (Pl.o 60, It.que 186 11 (dd (z.1.2.1.map dlC))), (Pl.s 11, It.v (.oref 60 z.1.2.1.length))])
    (fun z => z.1.1) ⟨(wt p, [(r, p)], tr0), rfl, by simp only [hsum1]; omega, hwt, by simp [tr0]; omega, by simp [tr0]; omega, by simp [tr0]; omega⟩ ?_ ?_
   ·have NIL3 : ∀ (a b c : TV), [a, b, c].set 0 (TV.oref 70 0) = [TV.oref 70 0, b, c] := fun _ _ _ => rfl
    refine (GS.quep 60 (e := 186) (k := 11) (es := dd ([(r, p)].map dlC)) (by simp [dlC, Pk.cs]) (by simp)).trans ?_
    simp only [put1, Pl.o.injEq, reduceCtorEq, if_false, if_true, Nat.reduceEqDiff]
    refine (GS.ownBp (.o 10) 0 70 (cs := [.c (.slice none 0 0), .c (.slice none 0 0), .c (.slice none 0 0)]) 138 11 (by simp) (by simp) (by simp) (by simp)).trans ?_
    simp only [put1, Pl.o.injEq, reduceCtorEq, if_false, if_true, Nat.reduceEqDiff, List.set]
    refine (GS.ownBp (.o 10) 1 71 (cs := [.oref 70 0, .c (.slice none 0 0), .c (.slice none 0 0)]) 158 3 (by simp) (by simp) (by simp) (by simp)).trans ?_
    simp only [put1, Pl.o.injEq, reduceCtorEq, if_false, if_true, Nat.reduceEqDiff, List.set]
    exact GS.ownB' (.o 10) 2 72 (cs := [.oref 70 0, .oref 71 0, .c (.slice none 0 0)]) 140 2 (by simp) (by simp) (by simp) (by simp) (by simp [tr0])
   ·rintro ⟨⟨n, Q, t⟩, i1, i2, i3, i4, i5, i6⟩
    simp only at i1 i2 i3 i4 i5 i6
    cases Q with
    | nil =>
      have e : runG l (wt p) [(r, p)] tr0 = t := by rw [i1, runG_nil]
      simp -dsimp
      refine Fin.box (.o 6) rfl ?_
      simp -dsimp
      refine Fin.of ?_
      simp [trcT, e]
    | cons q Q =>
      obtain ⟨q1, q2⟩ := q
      rw [wsum_cons] at i2
      have hq := nextQ_wt l (q1, q2)
      have hw1 : 1 ≤ wt q2 := by unfold wt; omega
      simp only at i2 hq
      obtain ⟨n, rfl⟩ : ∃ j, n = j + 1 := ⟨n - 1, by omega⟩
      rw [runG] at i1
      have hQl := len_wsum Q
      have hfq := find_c l hl q1
      simp -dsimp [dlC, Pk.cs]
      and_intros
      all_goals try first | omega | exact ⟨by kernel_rfl⟩
      cases hfd2 : findT l q1 with
      | none =>
        have eN : nextQ l (q1, q2) = [] := by simp [nextQ, hfd2]
        have eS : stepT l (q1, q2) t = ⟨t.dl, t.cr, t.ls ++ [(q1, q2.bits)]⟩ := by simp [stepT, hfd2]
        rw [eN, eS, List.append_nil] at i1
        rw [hfd2] at hfq
        simp only [foundT, Option.getD_none, Option.isSome_none, tb0, tblT] at hfq
        refine ACall.of hfq [] 0 ?_
        simp -dsimp
        and_intros
        all_goals try first | omega | exact ⟨by kernel_rfl⟩
        refine ⟨⟨(n, Q, ⟨t.dl, t.cr, t.ls ++ [(q1, q2.bits)]⟩), i1, by simp only; omega, by simp only; omega, by simp only; omega, by simp only; omega, by simp only [List.length_append, List.length_cons, List.length_nil]; omega⟩, ?_, by simp⟩
        refine GS.cut' 11 60 (n := Q.length + 1) (j := 1) (k := 11) (e := 186) (((q1, q2) :: Q).map dlC) (by simp) (by simp [dlC, Pk.cs]) (by simp) (by simp) (by simp [lsC, bv]) (by simp) (by simp [lsC, bv])
      | some b2 =>
        have hb2 : b2.Sm := hl.t b2 (List.mem_of_find?_eq_some hfd2)
        have eN : nextQ l (q1, q2) = (fwdR b2 q2).1.cps := by simp [nextQ, hfd2]
        have eS : stepT l (q1, q2) t = ⟨t.dl ++ locV q1 (fwdR b2 q2).1 q2, t.cr ++ (fwdR b2 q2).1.cps.map (fun c => (q1, c.1, c.2.bits)), if (fwdR b2 q2).1.lost = 0#64 then t.ls else t.ls ++ [(q1, (fwdR b2 q2).1.lost)]⟩ := by simp [stepT, hfd2]
        rw [eN, eS] at i1
        rw [eN] at hq
        have hcl := fwdR_len b2 q2
        have hfp := fpacket_c b2 hb2 q2
        have hlc := flocal_c b2 q1 (fwdR b2 q2).1 q2
        have hll : (locV q1 (fwdR b2 q2).1 q2).length ≤ 64 := by unfold locV; rw [List.length_map]; exact bitsI_len _
        rw [hfd2] at hfq
        simp only [foundT, Option.getD_some, Option.isSome_some, tblT] at hfq
        generalize fwdR b2 q2 = F at i1 hq hcl hfp hlc hll
        obtain ⟨o, er⟩ := F
        simp only at i1 hq hcl hfp hlc hll
        generalize locV q1 o q2 = LV at i1 hlc hll
        have hdl : dLen 11 (LV.map dlC) := dLen_map 11 _ _ fun _ => rfl
        obtain ⟨oloc, olost, ocps⟩ := o
        simp only at i1 hq hcl
        have hCl : (ocps.map fun c => (q1, c.1, c.2.bits)).length = ocps.length := by simp
        have hCg : ∀ (j : Nat) (c : Int × Pk), ocps[j]? = some c → (ocps.map fun c => (q1, c.1, c.2.bits))[j]? = some (q1, c.1, c.2.bits) := fun j c h => by simp [h]
        generalize (ocps.map fun c => (q1, c.1, c.2.bits)) = CRL at i1 hCl hCg
        simp only [tblT, pkT, Pk.cs, List.map, outT, bv] at hfp hlc
        refine ACall.of hfq [] 0 ?_
        simp -dsimp
        try refine ⟨?_, ⟨by kernel_rfl⟩⟩
        refine ACall.of hfp [] 0 ?_
        simp -dsimp
        try refine ⟨?_, ⟨by kernel_rfl⟩⟩
        try refine ⟨rfl, ?_⟩
        try refine ⟨?_, ⟨by kernel_rfl⟩⟩
        refine ACall.of hlc [] 0 ?_
        by_cases c0 : olost = 0#64
        ·simp -dsimp [c0]
         and_intros
         all_goals try first | omega | exact hdl | exact rfl | exact ⟨by kernel_rfl⟩
         refine ALoop.of [60] (fun k => k==0||k==1||k==2||k==4||k==6||k==7||k==8||k==9||k==10||k==11||k==12||k==13||k==14||k==15||k==18||k==26||k==34||k==38||k==43||k==63||k==77||k==109||k==121||k==122||k==123||k==124) (ι := { j : Nat // j ≤ ocps.length })
          (fun j => [(Pl.s 0, It.v (.d (.sl (tbs l)))), (Pl.o 6, It.box [TV.c (Value.slice none 0 0), TV.c (Value.slice none 0 0), TV.c (Value.slice none 0 0)]), (Pl.s 6, It.v (.ptr (Pl.o 6) 0)), (Pl.s 7, It.v (.d (.int .i64 0))),
           (Pl.o 10, It.box [TV.oref 70 (t.dl.length + LV.length), TV.oref 71 (t.cr.length + j.1), TV.oref 72 t.ls.length]), (Pl.s 10, It.v (.ptr (Pl.o 10) 0)),
           (Pl.o 70, It.row 138 11 (dd (t.dl.map dlC) ++ dd (LV.map dlC)) false), (Pl.o 71, It.row 158 3 (dd (t.cr.map crC) ++ dd (List.take j.1 (CRL.map crC))) false), (Pl.o 72, It.row 140 2 (dd (t.ls.map lsC)) false),
           (Pl.o 60, It.que 186 11 (dd (Q.map dlC) ++ dd (List.take j.1 (ocps.map dlC)))), (Pl.s 11, It.v (.oref 60 (Q.length + j.1))),
           (Pl.o 12, It.box (TV.d (.int .i64 q1) :: q2.cs.map .d)), (Pl.s 12, It.v (.ptr (Pl.o 12) 0)),
           (Pl.s 121, It.v (.d (.sl (List.map cpC ocps)))), (Pl.s 122, It.v (.d (.int .i64 ocps.length))), (Pl.s 123, It.v (.d (.int .i64 j.1)))])
          (fun j => ocps.length - j.1) ⟨0, by omega⟩ ?_ ?_
         ·exact GS.cut' 11 60 (n := Q.length + 1) (j := 1) (k := 11) (e := 186) (((q1, q2) :: Q).map dlC) (by simp) (by simp [dlC, Pk.cs]) (by simp) (by simp) (by simp [lsC, bv, Pk.cs]) (by simp) (by simp [lsC, bv, Pk.cs])
         ·rintro ⟨j, j1⟩
          by_cases hj : j < ocps.length
          ·have hjz : (j : Int) < ocps.length := by omega
           have hg : ocps[j]? = some ocps[j] := List.getElem?_eq_getElem hj
           have hcg := hCg j _ hg
           generalize ocps[j] = c at hg hcg
           obtain ⟨c1, c2⟩ := c
           have hn1 : dd (List.take (j + 1) (CRL.map crC)) = dd (List.take j (CRL.map crC)) ++ [[TV.d (.int .i64 q1), TV.d (.int .i64 c1), TV.d (bv c2.bits)]] := by
            rw [List.take_add_one, List.getElem?_map, hcg]; simp [dd, crC]
           have hn2 : dd (List.take (j + 1) (ocps.map dlC)) = dd (List.take j (ocps.map dlC)) ++ [TV.d (.int .i64 c1) :: c2.cs.map .d] := by
            rw [List.take_add_one, List.getElem?_map, hg]; simp [dd, dlC]
           simp [Pk.cs] at hn2
           have hm1 : min j CRL.length = j := by omega
           have hm2 : min j ocps.length = j := by omega
           simp -dsimp [hg, hjz, cpC, Pk.cs, hm1, hm2, wrap_i64 (n := (j : Int) + 1) (by omega) (by omega)]
           and_intros
           all_goals try first | omega | exact ⟨by kernel_rfl⟩
           exact ⟨⟨j + 1, by omega⟩, GS.to (by simp [hn1, hn2, Pk.cs, Nat.add_assoc]), by simp; omega⟩
          ·have hjz : ¬ (j : Int) < ocps.length := by omega
           obtain rfl : j = ocps.length := by omega
           have ht1 : List.take ocps.length (CRL.map crC) = CRL.map crC := List.take_of_length_le (by simp; omega)
           have ht2 : List.take ocps.length (ocps.map dlC) = ocps.map dlC := List.take_of_length_le (by simp)
           simp -dsimp [hjz]
           try refine ⟨?_, ⟨by kernel_rfl⟩⟩
           exact ⟨⟨(n, Q ++ ocps, _), i1, by simp only [wsum_app]; omega, by simp only; omega, by simp only [List.length_append]; omega, by simp only [List.length_append, hCl]; omega, by simp only [c0, if_true]; omega⟩, GS.to (by simp [ht1, ht2, c0, hCl, lsC, bv]), by simp⟩
        ·simp -dsimp [c0]
         and_intros
         all_goals try first | omega | exact hdl | exact rfl | exact ⟨by kernel_rfl⟩
         refine ALoop.of [60] (fun k => k==0||k==1||k==2||k==4||k==6||k==7||k==8||k==9||k==10||k==11||k==12||k==13||k==14||k==15||k==18||k==26||k==34||k==38||k==43||k==63||k==77||k==109||k==121||k==122||k==123||k==124) (ι := { j : Nat // j ≤ ocps.length })
          (fun j => [(Pl.s 0, It.v (.d (.sl (tbs l)))), (Pl.o 6, It.box [TV.c (Value.slice none 0 0), TV.c (Value.slice none 0 0), TV.c (Value.slice none 0 0)]), (Pl.s 6, It.v (.ptr (Pl.o 6) 0)), (Pl.s 7, It.v (.d (.int .i64 0))),
           (Pl.o 10, It.box [TV.oref 70 (t.dl.length + LV.length), TV.oref 71 (t.cr.length + j.1), TV.oref 72 (t.ls.length + 1)]), (Pl.s 10, It.v (.ptr (Pl.o 10) 0)),
           (Pl.o 70, It.row 138 11 (dd (t.dl.map dlC) ++ dd (LV.map dlC)) false), (Pl.o 71, It.row 158 3 (dd (t.cr.map crC) ++ dd (List.take j.1 (CRL.map crC))) false), (Pl.o 72, It.row 140 2 (dd (t.ls.map lsC) ++ [[TV.d (.int .i64 q1), TV.d (bv olost)]]) false),
           (Pl.o 60, It.que 186 11 (dd (Q.map dlC) ++ dd (List.take j.1 (ocps.map dlC)))), (Pl.s 11, It.v (.oref 60 (Q.length + j.1))),
           (Pl.o 12, It.box (TV.d (.int .i64 q1) :: q2.cs.map .d)), (Pl.s 12, It.v (.ptr (Pl.o 12) 0)),
           (Pl.s 121, It.v (.d (.sl (List.map cpC ocps)))), (Pl.s 122, It.v (.d (.int .i64 ocps.length))), (Pl.s 123, It.v (.d (.int .i64 j.1)))])
          (fun j => ocps.length - j.1) ⟨0, by omega⟩ ?_ ?_
         ·exact GS.cut' 11 60 (n := Q.length + 1) (j := 1) (k := 11) (e := 186) (((q1, q2) :: Q).map dlC) (by simp) (by simp [dlC, Pk.cs]) (by simp) (by simp) (by simp [lsC, bv, Pk.cs]) (by simp) (by simp [lsC, bv, Pk.cs])
         ·rintro ⟨j, j1⟩
          by_cases hj : j < ocps.length
          ·have hjz : (j : Int) < ocps.length := by omega
           have hg : ocps[j]? = some ocps[j] := List.getElem?_eq_getElem hj
           have hcg := hCg j _ hg
           generalize ocps[j] = c at hg hcg
           obtain ⟨c1, c2⟩ := c
           have hn1 : dd (List.take (j + 1) (CRL.map crC)) = dd (List.take j (CRL.map crC)) ++ [[TV.d (.int .i64 q1), TV.d (.int .i64 c1), TV.d (bv c2.bits)]] := by
            rw [List.take_add_one, List.getElem?_map, hcg]; simp [dd, crC]
           have hn2 : dd (List.take (j + 1) (ocps.map dlC)) = dd (List.take j (ocps.map dlC)) ++ [TV.d (.int .i64 c1) :: c2.cs.map .d] := by
            rw [List.take_add_one, List.getElem?_map, hg]; simp [dd, dlC]
           simp [Pk.cs] at hn2
           have hm1 : min j CRL.length = j := by omega
           have hm2 : min j ocps.length = j := by omega
           simp -dsimp [hg, hjz, cpC, Pk.cs, hm1, hm2, wrap_i64 (n := (j : Int) + 1) (by omega) (by omega)]
           and_intros
           all_goals try first | omega | exact ⟨by kernel_rfl⟩
           exact ⟨⟨j + 1, by omega⟩, GS.to (by simp [hn1, hn2, Pk.cs, Nat.add_assoc]), by simp; omega⟩
          ·have hjz : ¬ (j : Int) < ocps.length := by omega
           obtain rfl : j = ocps.length := by omega
           have ht1 : List.take ocps.length (CRL.map crC) = CRL.map crC := List.take_of_length_le (by simp; omega)
           have ht2 : List.take ocps.length (ocps.map dlC) = ocps.map dlC := List.take_of_length_le (by simp)
           simp -dsimp [hjz]
           try refine ⟨?_, ⟨by kernel_rfl⟩⟩
           exact ⟨⟨(n, Q ++ ocps, _), i1, by simp only [wsum_app]; omega, by simp only; omega, by simp only [List.length_append]; omega, by simp only [List.length_append, hCl]; omega, by simp only [c0, if_false, List.length_append, List.length_cons, List.length_nil]; omega⟩, GS.to (by simp [ht1, ht2, c0, hCl, lsC, bv]), by simp⟩
theorem plane03_c (p : Pk) : Contract Tryz.prog 145 [pkT p] [] (.d (.int .i64 (plnP p))) [] [] := by
 refine contract_of Tryz.func145 rfl (fun E0 => ?_)
 refine awp.sound (g := .mk) (ow := []) (kp := (fun k => k==0||k==1||k==2||k==5)) ?_
 rw [Tryz.ntmps145]
 have hv := valid_c p
 simp only [pkT, Pk.cs, List.map] at hv
 simp -dsimp [pkT, Pk.cs]
 refine ACall.of hv [] 0 ?_
 rcases (Bool.eq_false_or_eq_true p.ok).symm with a1 | a1
 ·simp -dsimp [a1]
  refine Fin.of ?_
  simp [plnP, a1]
 ·have h := ok_ent a1
  simp -dsimp [a1, wrap_i64 (n := p.ent % 8) (by omega) (by omega), Int.tmod_eq_emod_of_nonneg h.1]
  refine Fin.of ?_
  simp [plnP, a1]
theorem masked03_c (p : Pk) (m : BitVec 64) : Contract Tryz.prog 147 [pkT p, .d (bv m)] [] (.tup [pkT (pkmR p m).1, .d (.bool (pkmR p m).2)]) [] [] := by
 refine contract_of Tryz.func147 rfl (fun E0 => ?_)
 refine awp.sound (g := .mk) (ow := []) (kp := (fun k => k==0||k==1||k==2||k==4||k==5||k==20)) ?_
 rw [Tryz.ntmps147]
 have hv := valid_c p
 simp only [pkT, Pk.cs, List.map, bv] at hv
 simp -dsimp [pkT, Pk.cs, bv]
 refine ACall.of hv [] 0 ?_
 rcases (Bool.eq_false_or_eq_true p.ok).symm with a1 | a1
 ·simp -dsimp [a1]
  refine Fin.of ?_
  simp [pkmR, a1, pk0, pkT, Pk.cs, bv]
 ·have h := ok_ttl a1
  by_cases a2 : p.ttl = 0
  ·simp -dsimp [a1, a2]
   refine Fin.of ?_
   simp [pkmR, a2, pk0, pkT, Pk.cs, bv]
  by_cases a3 : p.bits &&& m = 0#64
  ·simp -dsimp [a1, a2, a3]
   refine Fin.of ?_
   simp [pkmR, a3, pk0, pkT, Pk.cs, bv]
  simp -dsimp [a1, a2, a3, wrap_i64 (n := p.ttl - 1) (by omega) (by omega)]
  refine Fin.of ?_
  simp [pkmR, a1, a2, a3, pkMask, pkT, Pk.cs, bv]
def hasK (B : BitVec 64) (k : Int) : Bool := decide (0 ≤ k) && (decide (k < 64) && B.getLsbD k.toNat)
theorem bit_shr (B : BitVec 64) (k : Nat) : (B >>> k &&& 1#64 = 1#64) ↔ B.getLsbD k = true := by
 rw [BitVec.and_one_eq_setWidth_ofBool_getLsbD, BitVec.getLsbD_ushiftRight, Nat.add_zero]
 cases B.getLsbD k <;> decide
theorem has01_c (B : BitVec 64) (k : Int) : Contract Tryz.prog 208 [.d (bv B), .d (.int .i64 k)] [] (.d (.bool (hasK B k))) [] [] := by
 refine contract_of Tryz.func208 rfl (fun E0 => ?_)
 refine awp.sound (g := .mk) (ow := []) (kp := (fun k => k==0||k==1||k==4)) ?_
 rw [Tryz.ntmps208]
 by_cases a2 : 0 ≤ k
 ·by_cases a3 : k < 64
  ·have hb := bit_shr B k.toNat
   simp -dsimp [bv, eq_true a2, eq_true a3]
   have hw : IntKind.u64.wrap k = k := wrap_u64 (by omega) (by omega)
   refine ⟨by rw [hw]; exact a2, ?_⟩
   refine Fin.of ?_
   rw [hw]
   simp [hasK, a2, a3, hb]
  ·simp -dsimp [bv, eq_true a2, a3]
   try refine ⟨?_, ⟨by kernel_rfl⟩⟩
   refine Fin.of ?_
   simp [hasK, a3]
 ·simp -dsimp [bv, a2]
  try refine ⟨?_, ⟨by kernel_rfl⟩⟩
  refine Fin.of ?_
  simp [hasK, a2]
def bitsT (B : BitVec 64) (k : Nat) : List Int := ((List.range k).filter fun i => B.getLsbD i).map Int.ofNat
theorem bitsT_next (B : BitVec 64) (k : Nat) : bitsT B (k + 1) = bitsT B k ++ (if B.getLsbD k = true then [(k : Int)] else []) := by
 unfold bitsT
 rw [List.range_succ, List.filter_append, List.map_append]
 cases h : B.getLsbD k <;> simp [h]
theorem bitsT_len (B : BitVec 64) (k : Nat) : (bitsT B k).length ≤ k := by
 unfold bitsT
 rw [List.length_map]
 exact Nat.le_trans (List.length_filter_le _ _) (by simp)
theorem bitsT_all (B : BitVec 64) : bitsT B 64 = bitsI B := rfl
theorem list01_c (B : BitVec 64) : Contract Tryz.prog 191 [.d (bv B)] [] (.d (ints (bitsI B))) [] [] := by
 refine contract_of Tryz.func191 rfl (fun E0 => ?_)
 refine awp.sound (g := .mk) (ow := []) (kp := (fun k => k==0||k==2||k==3||k==4||k==6||k==11)) ?_
 rw [Tryz.ntmps191]
 simp -dsimp [bv]
 refine ALoop.of [] (fun k => k==0||k==2||k==3||k==4||k==6||k==11) (ι := { k : Nat // k ≤ 64 })
  (fun z => [(Pl.s 0, It.v (.d (.int IntKind.u64 (tn B)))), (Pl.s 2, It.v (.c (Value.slice none 0 0))), (Pl.s 3, It.v (.oref 3 (bitsT B z.1).length)), (Pl.o 3, .row 3 1 (dd (nrow .i64 (bitsT B z.1))) false), (Pl.s 4, It.v (.d (.int .i64 z.1)))])
  (fun z => 64 - z.1) ⟨0, by omega⟩ ?_ ?_
 ·exact GS.own' (k := 3) 3 1 (by simp) (by simp) (by simp [nrow, bitsT])
 ·rintro ⟨k, k1⟩
  have hll := bitsT_len B k
  by_cases hk : k < 64
  ·have hkz : (k : Int) < 64 := by omega
   have hh := has01_c B k
   have hv : hasK B k = B.getLsbD k := by simp [hasK, hk, hkz]
   rw [hv] at hh
   simp only [bv] at hh
   have hn := bitsT_next B k
   simp -dsimp [hkz]
   try refine ⟨?_, ⟨by kernel_rfl⟩⟩
   refine ACall.of hh [] 0 ?_
   rcases (Bool.eq_false_or_eq_true (B.getLsbD k)).symm with b1 | b1
   ·rw [b1] at hn ⊢
    simp only [Bool.false_eq_true, if_false, List.append_nil] at hn
    simp -dsimp [wrap_i64 (n := (k : Int) + 1) (by omega) (by omega)]
    and_intros
    all_goals try first | rfl | omega | exact ⟨by kernel_rfl⟩
    exact ⟨⟨k + 1, by omega⟩, GS.to (by simp [hn]), by simp; omega⟩
   ·rw [b1] at hn ⊢
    simp only [if_true] at hn
    simp -dsimp [wrap_i64 (n := (k : Int) + 1) (by omega) (by omega)]
    and_intros
    all_goals try first | rfl | omega | exact ⟨by kernel_rfl⟩
    exact ⟨⟨k + 1, by omega⟩, GS.to (by simp [hn, nrow]), by simp; omega⟩
  ·have hkz : ¬ (k : Int) < 64 := by omega
   obtain rfl : k = 64 := by omega
   have e := bitsT_all B
   simp -dsimp [hkz]
   refine Fin.view 2 ?_
   simp -dsimp
   refine Fin.of ?_
   simp [← e, ints, nrow]
theorem first01_c (B : BitVec 64) : Contract Tryz.prog 144 [.d (bv B)] [] (.d (.int .i64 (firstI B))) [] [] := by
 have hl := list01_c B
 have hlen := bitsI_len B
 have hN : Contract Tryz.prog 190 [.d (bv B), .d (.int .i64 0)] [] (.d (.int .i64 (firstI B))) [] [] := by
  refine contract_of Tryz.func190 rfl (fun E0 => ?_)
  refine awp.sound (g := .mk) (ow := []) (kp := (fun k => k==0||k==1||k==4||k==5||k==15)) ?_
  rw [Tryz.ntmps190]
  simp -dsimp
  try refine ⟨?_, ⟨by kernel_rfl⟩⟩
  refine ACall.of hl [] 0 ?_
  by_cases h0 : B = 0#64
  ·have e : bitsI B = [] := by rw [h0]; exact bitsI_zero
   rw [e]
   simp -dsimp [ints]
   try refine ⟨?_, ⟨by kernel_rfl⟩⟩
   refine Fin.of ?_
   simp [firstI, h0]
  ·have e := bitsI_step h0
   have ef : firstI B = (tz B : Int) := by simp [firstI, h0]
   rw [e, ef]
   rw [e] at hlen
   generalize bitsI (B &&& wu (tn B - 1)) = L at hlen ⊢
   simp -dsimp [ints]
   have hlz : ¬ (L.length : Int) + 1 ≤ 0 := by omega
   simp -dsimp [hlz]
   try refine ⟨?_, ⟨by kernel_rfl⟩⟩
   refine Fin.of ?_
   simp
 refine contract_of Tryz.func144 rfl (fun E0 => ?_)
 refine awp.sound (g := .mk) (ow := []) (kp := (fun k => k==0||k==2)) ?_
 rw [Tryz.ntmps144]
 simp -dsimp
 refine ACall.of hN [] 0 ?_
 simp -dsimp
 refine Fin.of ?_
 simp
theorem only03_c (p : Pk) (k : Int) : Contract Tryz.prog 192 [pkT p, .d (.int .i64 k)] [] (pkT (onlyR p k)) [] [] := by
 refine contract_of Tryz.func192 rfl (fun E0 => ?_)
 refine awp.sound (g := .mk) (ow := []) (kp := (fun k => k==0||k==1||k==2||k==4||k==14)) ?_
 rw [Tryz.ntmps192]
 have hv := valid_c p
 have hh := has01_c p.bits k
 have hb := bit_c k
 simp only [pkT, Pk.cs, List.map] at hv
 simp -dsimp [pkT, Pk.cs]
 try refine ⟨?_, ⟨by kernel_rfl⟩⟩
 refine ACall.of hv [] 0 ?_
 rcases (Bool.eq_false_or_eq_true p.ok).symm with a1 | a1
 ·simp -dsimp [a1]
  try refine ⟨?_, ⟨by kernel_rfl⟩⟩
  refine Fin.of ?_
  simp [onlyR, a1, pk0, pkT, Pk.cs, bv]
 ·simp -dsimp [a1]
  try refine ⟨?_, ⟨by kernel_rfl⟩⟩
  refine ACall.of hh [] 0 ?_
  rcases (Bool.eq_false_or_eq_true (hasK p.bits k)).symm with a2 | a2
  ·have : ¬ (0 ≤ k ∧ k ≤ 63 ∧ p.bits.getLsbD k.toNat = true) := fun ⟨h1, h2, h3⟩ => by
    simp [hasK, h1, h3] at a2; omega
   simp -dsimp [a2]
   try refine ⟨?_, ⟨by kernel_rfl⟩⟩
   refine Fin.of ?_
   simp [onlyR, this, pk0, pkT, Pk.cs, bv]
  ·simp only [hasK, Bool.and_eq_true, decide_eq_true_eq] at a2
   obtain ⟨b1, b2, b3⟩ := a2
   have b4 : k ≤ 63 := by omega
   have eb : bitB k = 1#64 <<< k.toNat := (shl_bit ⟨b1, b2⟩).symm
   rw [eb] at hb
   have a2' : hasK p.bits k = true := by simp [hasK, b1, b2, b3]
   simp -dsimp [a2']
   try refine ⟨?_, ⟨by kernel_rfl⟩⟩
   refine ACall.of hb [] 0 ?_
   simp -dsimp
   try refine ⟨?_, ⟨by kernel_rfl⟩⟩
   refine Fin.of ?_
   simp [onlyR, a1, b1, b4, b3, pkT, Pk.cs, bv]
theorem pln_range (p : Pk) : 0 ≤ plnP p ∧ plnP p ≤ 7 := by unfold plnP; split <;> omega
theorem ok_set {p : Pk} (h : p.ok = true) : 0 ≤ p.set ∧ p.set ≤ 31 := by
 simp only [Pk.ok, insB, Bool.and_eq_true, decide_eq_true_eq] at h
 omega
theorem hop_eq {b : Tb} (hc : chk b = 0) (p : Pk) (id : Int) : nextV b id (plnP p) = hopB b id (plnP p) := by
 have := pln_range p
 rw [nextV, if_pos (valB_iff.2 ⟨hc, this, by omega, by omega⟩)]
theorem mask_eq {b : Tb} (hc : chk b = 0) {p : Pk} (hp : p.ok = true) {n : Int} (hn : 1 ≤ n ∧ n ≤ 99) : maskP b (plnP p) p.set n = bitsR b (plnP p) p.set n b.len.toNat := by
 have h1 := pln_range p
 have h2 := ok_set hp
 rw [maskP_eq, maskR, if_pos ⟨valB_iff.2 ⟨hc, h1, h2⟩, hn⟩]
theorem ok_setB {p : Pk} {R : BitVec 64} (hp : p.ok = true) (hR : ∀ k < 64, R.getLsbD k = true → p.bits.getLsbD k = true) : (p.setB R).ok = true := by
 cases p
 simp only [Pk.setB] at *
 simp only [Pk.ok, Bool.and_eq_true, validB, decide_eq_true_eq] at hp ⊢
 obtain ⟨a1, a2, a3, a4, ⟨h1, h2⟩, a5⟩ := hp
 refine ⟨a1, a2, a3, a4, ⟨h1, ?_⟩, a5⟩
 apply BitVec.eq_of_getLsbD_eq
 intro k hk
 have h3 := congrArg (fun z => z.getLsbD k) h2
 simp only [BitVec.getLsbD_and, BitVec.getLsbD_not, hk, decide_true, Bool.true_and, BitVec.getLsbD_zero] at h3 ⊢
 cases hr : R.getLsbD k with
 | false => simp
 | true =>
   rw [hR k hk hr] at h3
   simpa using h3
theorem and_sub {p R X : BitVec 64} (hR : ∀ k < 64, R.getLsbD k = true → p.getLsbD k = true) : p &&& (R &&& X) = R &&& (R &&& X) := by
 apply BitVec.eq_of_getLsbD_eq
 intro k hk
 simp only [BitVec.getLsbD_and]
 cases hr : R.getLsbD k with
 | false => simp
 | true => rw [hR k hk hr]
theorem pkm_eq {p : Pk} {R : BitVec 64} (X : BitVec 64) (hp : p.ok = true) (hR : ∀ k < 64, R.getLsbD k = true → p.bits.getLsbD k = true) : pkmR p (R &&& X) = pkmR (p.setB R) (R &&& X) := by
 have h1 := ok_setB hp hR
 have h2 := and_sub (X := X) hR
 unfold pkmR
 simp only [hp, h1]
 simp only [Pk.setB, pkMask, h2]
 congr
end Go.Proofs

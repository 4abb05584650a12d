/-
  What functions of the program compute, stated as contracts over plain data; the conditions of each stand in its own statement.
-/
import Derived.Test.YtjgeggdefiejbaaGreatDoorK25
import Derived.Test.YtjgeggdefiejbaaGreatDoorK23
import Derived.Test.YtjgeggdefiejbaaGreatDoorK14
import Derived.Test.YtjgeggdefiejbaaGreatDoorK13
set_option linter.unusedSimpArgs false
set_option maxRecDepth 100000
set_option maxHeartbeats 2000000
namespace Go.Proofs
open Go Go.Tr
theorem chk_parts {b : Tb} (h : chk b = 0) : b.head ∧ b.rows.length ≤ 256 ∧ (∀ x ∈ b.rows, x.nx.length ≤ 24) ∧ ∀ x ∈ b.rows, ¬ (1 < x.nx.length ∧ b.r ∈ x.nx) := by
 unfold chk at h
 split at h
 ·simp at h
 rename_i h1
 split at h
 ·simp at h
 split at h
 ·simp at h
 rename_i h2
 split at h
 ·simp at h
 rename_i h3
 split at h
 ·simp at h
 split at h
 ·simp at h
 rename_i h4
 exact ⟨Classical.byContradiction fun g => h1 g, by omega, fun x hx => Nat.le_of_not_lt fun g => h3 ⟨x, hx, g⟩, fun x hx g => h4 ⟨x, hx, g⟩⟩
theorem chk_sm {b : Tb} (h : chk b = 0) : b.Sm := ⟨by have := (chk_parts h).2.1; omega, fun x hx => by have := (chk_parts h).2.2.1 x hx; omega⟩
theorem gTopA_len (cost tree : Int) (skip : Bool) (b : Int) : ∀ (n : Nat) (a : Int) (T : Tp) (l : List Lk), (gTopA cost tree skip b n a T l).1.length ≤ l.length + n
 | 0, _, _, _ => Nat.le_refl _
 | n + 1, a, T, l => by
   have h1 := gTopA_len cost tree skip b n (a + 1) (gTopS cost tree skip b a T l).2 (gTopS cost tree skip b a T l).1
   have h2 := gTopS_len cost tree skip b a T l
   rw [gTopA]
   omega
theorem gTopB_len (cost : Int) : ∀ (n : Nat) (b : Int) (T : Tp) (l : List Lk), 0 ≤ b → (gTopB cost n b T l).1.length ≤ l.length + n * (b + n).toNat
 | 0, _, _, _, _ => by simp [gTopB]
 | n + 1, b, T, l, hb => by
   have h1 := gTopB_len cost n (b + 1) (gTopR cost b T l).2 (gTopR cost b T l).1 (by omega)
   have h2 : (gTopR cost b T l).1.length ≤ l.length + (b - 1).toNat := gTopA_len _ _ _ _ _ _ _ _
   rw [gTopB]
   have e : (b + 1 + n).toNat = (b + (n + 1 : Nat)).toNat := by omega
   rw [e] at h1
   have h3 : (n + 1) * (b + (n + 1 : Nat)).toNat = n * (b + (n + 1 : Nat)).toNat + (b + (n + 1 : Nat)).toNat := Nat.succ_mul _ _
   omega
theorem ordL_len : ∀ (l out : List Lk), (ordL l out).length = l.length + out.length
 | [], _ => by simp [ordL]
 | x :: l, out => by
   rw [ordL, ordL_len l]
   simp
   omega
theorem gTop_small (T : Tp) {most : Int} (hm : 1 ≤ most ∧ most ≤ 24) : (gTop T most).1.rs.length ≤ 24 ∧ (gTop T most).1.ls.length ≤ 1000 := by
 have b1 := gRange_lo T 1 most
 have b2 := gRange_hi T (a := 1) (b := most) (by omega)
 simp only [gTop, ordL_len]
 generalize gRange T 1 most = R at b1 b2 ⊢
 have h := gTopB_len (gPick R.2 [1, 2, 2, 5]).1 (R.1 + 1 - 2).toNat 2 (gPick R.2 [1, 2, 2, 5]).2 [] (by omega)
 have h1 : (R.1 + 1 - 2).toNat ≤ 23 := by omega
 have h2 : (2 + ((R.1 + 1 - 2).toNat : Int)).toNat ≤ 25 := by omega
 have h3 := Nat.mul_le_mul h1 h2
 simp only [List.length_nil] at h ⊢
 exact ⟨by simp [gRts]; omega, by omega⟩
theorem gMixL_tape : ∀ (l : List Rt) (T : Tp), TapeOK (gMixL l T).2 = TapeOK T
 | [], _ => rfl
 | x :: l, T => by simp [gMixL, gMixL_tape l]
@[simp] theorem gMix_tape (T : Tp) (most : Int) : TapeOK (gMix T most).2 = TapeOK T := by simp [gMix, gMixL_tape]
theorem gPlanS_ok (rs : List Rt) (len x : Int) (T : Tp) (id : Int) (l : List Ed) : TapeOK (gPlanS rs len x T id l).2.2 = TapeOK T ∧ (gPlanS rs len x T id l).1.length ≤ l.length + 1 := by
 unfold gPlanS
 simp only
 split
 ·simp
 ·split <;> simp
theorem gPlanL_ok2 (rs : List Rt) (len : Int) : ∀ (o : List Int) (T : Tp) (id : Int) (l : List Ed), TapeOK (gPlanL rs len o T id l).2.2 = TapeOK T ∧ (gPlanL rs len o T id l).1.length ≤ l.length + o.length
 | [], _, _, _ => ⟨rfl, Nat.le_refl _⟩
 | x :: o, T, id, l => by
   rw [gPlanL]
   obtain ⟨h1, h2⟩ := gPlanS_ok rs len x T id l
   obtain ⟨h3, h4⟩ := gPlanL_ok2 rs len o (gPlanS rs len x T id l).2.2 (gPlanS rs len x T id l).2.1 (gPlanS rs len x T id l).1
   exact ⟨h3.trans h1, by simp only [List.length_cons]; omega⟩
theorem gPlan_zero (T : Tp) (rs : List Rt) : TapeOK (gPlan T rs 0).2 = TapeOK T ∧ (gPlan T rs 0).1.es.length ≤ rs.length := by
 have h := gPlanL_ok2 rs (gPick (gNext T 3).2 [8, 8, 16, 32, 64]).1 (gOrder (gPick (gNext T 3).2 [8, 8, 16, 32, 64]).2 rs.length).1 (gOrder (gPick (gNext T 3).2 [8, 8, 16, 32, 64]).2 rs.length).2 0 []
 simp only [gPlan, gPlan0, Int.lt_irrefl, if_false]
 refine ⟨h.1.trans (by simp), ?_⟩
 have h2 := h.2
 rw [gOrder_len] at h2
 simpa using h2
end Go.Proofs

set_option linter.unusedSimpArgs false
set_option maxRecDepth 100000
set_option maxHeartbeats 2000000
namespace Go.Proofs
open Go Go.Tr
def mixR (l : List Rw) (k : Nat) (y : Rw) (id : Nat) : List (List TV) := dd (rws (l.take k)) ++ [TV.d (.int .i64 y.id), TV.oref id y.nx.length] :: dd (rws (l.drop (k + 1)))
@[simp] theorem only_mix (po : Nat → Prop) (l : List Rw) (k : Nat) (y : Rw) (id : Nat) : rowsOnly po (mixR l k y id) = po id := by simp [mixR, TV.onlys, TV.only]
end Go.Proofs

set_option linter.unusedSimpArgs false
set_option maxRecDepth 100000
set_option maxHeartbeats 2000000
namespace Go.Proofs
open Go Go.Tr
end Go.Proofs

set_option linter.unusedSimpArgs false
set_option maxRecDepth 100000
set_option maxHeartbeats 2000000
namespace Go.Proofs
open Go Go.Tr
end Go.Proofs

set_option linter.unusedSimpArgs false
set_option maxRecDepth 100000
set_option maxHeartbeats 2000000
namespace Go.Proofs
open Go Go.Tr
end Go.Proofs

set_option linter.unusedSimpArgs false
set_option maxRecDepth 100000
set_option maxHeartbeats 2000000
namespace Go.Proofs
open Go Go.Tr
end Go.Proofs

set_option linter.unusedSimpArgs false
set_option maxRecDepth 100000
set_option maxHeartbeats 2000000
namespace Go.Proofs
open Go Go.Tr
def pathG (l : List Tb) (id p : Int) : Nat → List Int → Int → List Int × Int
 | 0, _, _ => ([], 10)
 | k + 1, pr, r => if r ∈ pr then ([], 10) else match findT l r with
   | none => ([], 4)
   | some b => if hopB b id p = 0 then ([], 9) else if hopB b id p = r then ((pr ++ [r]).tail, 0) else pathG l id p k (pr ++ [r]) (hopB b id p)
def pathV (l : List Tb) (r id p : Int) : List Int × Int :=
 if chkA l ≠ 0 then ([], 1) else if ¬ (0 ≤ p ∧ p ≤ 7) then ([], 2) else pathG l id p (l.length + 1) [] r
def pathT (x : List Int × Int) : TV := .tup [.d (ints x.1), .d (.int .i64 x.2)]
def mpS (pr : List Int) : List (Int × D) := pr.map fun x => (x, D.bool true)
theorem mget_mp (k : Int) : ∀ pr : List Int, mget (mpS pr) k = if k ∈ pr then some (.bool true) else none
 | [] => rfl
 | x :: pr => by
   have ih := mget_mp k pr
   simp only [mpS] at ih
   simp only [mpS, List.map_cons, mget, ih, List.mem_cons]
   by_cases e : k = x
   ·simp [e]
   ·simp [e]
theorem mput_mp (k : Int) : ∀ pr : List Int, k ∉ pr → mput (mpS pr) k (.bool true) = mpS (pr ++ [k])
 | [], _ => rfl
 | x :: pr, h => by
   simp only [List.mem_cons, not_or] at h
   have ih := mput_mp k pr h.2
   simp only [mpS] at ih
   simp only [mpS, List.map_cons, List.cons_append, mput, ih, if_neg h.1]
theorem findT_mem {l : List Tb} {r : Int} {b : Tb} (h : findT l r = some b) : b ∈ l ∧ b.r = r := ⟨List.mem_of_find?_eq_some h, by simpa using List.find?_some h⟩
theorem chkA_all {l : List Tb} (h : chkA l = 0) : ∀ b ∈ l, chk b = 0 := fun b hb => by
 have := firstE_zero (l := _) (by simp) h
 simp only [List.mem_cons, List.not_mem_nil, or_false, forall_eq_or_imp, forall_eq] at this
 have h2 := List.any_eq_false.1 this.2.1 b hb
 simpa using h2
theorem path_n {l : List Tb} {pr : List Int} (h : pr.Nodup) (hf : ∀ x ∈ pr, (findT l x).isSome) : pr.length ≤ l.length := by
 have := nodup_le (m := l.map (·.r)) h fun x hx => by
  obtain ⟨b, hb⟩ := Option.isSome_iff_exists.1 (hf x hx)
  obtain ⟨h1, h2⟩ := findT_mem hb
  exact List.mem_map.2 ⟨b, h1, h2⟩
 simpa using this
theorem nextV_hop {b : Tb} {id p : Int} (hc : chk b = 0) (hp : 0 ≤ p ∧ p ≤ 7) : nextV b id p = hopB b id p := by
 rw [nextV, if_pos (valB_iff.2 ⟨hc, hp, by omega⟩)]
theorem path_c (l : List Tb) (hl : SmL l) (r id p : Int) : Contract Tryz.prog 94 [.d (.sl (tbs l)), .d (.int .i64 r), .d (.int .i64 id), .d (.int .i64 p)] [] (pathT (pathV l r id p)) [] [] := by
 have hn := hl.n
 refine contract_of Tryz.func94 rfl (fun E0 => ?_)
 refine awp.sound (g := .mk) (ow := []) (kp := (fun k => k==0||k==1||k==2||k==3||k==8||k==9||k==10||k==11||k==12||k==13||k==14||k==15||k==16||k==20||k==31||k==41||k==46||k==47||k==49)) ?_
 rw [Tryz.ntmps94]
 simp -dsimp
 refine ACall.of (checkA_c l hl) [] 0 ?_
 by_cases hA : ¬ chkA l = 0
 ·simp -dsimp [eq_false hA]
  refine Fin.view 8 ?_
  simp -dsimp
  refine Fin.of ?_
  simp [pathV, hA, pathT, ints]
 replace hA : chkA l = 0 := Classical.not_not.1 hA
 by_cases p1 : p < 0
 ·simp -dsimp [eq_true hA, p1]
  and_intros
  all_goals try first | rfl | omega | exact ⟨by kernel_rfl⟩
  refine Fin.view 8 ?_
  simp -dsimp
  refine Fin.of ?_
  have : ¬ (0 ≤ p ∧ p ≤ 7) := by omega
  simp only [pathV, hA, pathT, ints]; simp [this]
 by_cases p2 : 8 ≤ p
 ·simp -dsimp [eq_true hA, p1, p2]
  and_intros
  all_goals try first | rfl | omega | exact ⟨by kernel_rfl⟩
  refine Fin.view 8 ?_
  simp -dsimp
  refine Fin.of ?_
  have : ¬ (0 ≤ p ∧ p ≤ 7) := by omega
  simp only [pathV, hA, pathT, ints]; simp [this]
 have hV : pathV l r id p = pathG l id p (l.length + 1) [] r := by rw [pathV, if_neg (by simp [hA]), if_neg (by omega)]
 simp -dsimp [eq_true hA, p1, p2]
 rw [hV]
 have hch := chkA_all hA
 refine ALoop.of [] (fun k => k==0||k==1||k==2||k==3||k==8||k==9||k==10||k==11||k==12||k==13||k==14||k==15||k==16||k==20||k==31||k==41||k==46||k==47||k==49) (ι := { z : List Int × Int // z.1.Nodup ∧ (∀ x ∈ z.1, (findT l x).isSome) ∧ pathG l id p (l.length + 1) [] r = pathG l id p (l.length + 1 - z.1.length) z.1 z.2 })
  (fun z => [(Pl.s 0, It.v (TV.d (D.sl (tbs l)))), (Pl.s 1, It.v (TV.d (D.int IntKind.i64 r))), (Pl.s 2, It.v (TV.d (D.int IntKind.i64 id))), (Pl.s 3, It.v (TV.d (D.int IntKind.i64 p))), (Pl.s 8, It.v (TV.c (Value.slice none 0 0))), (Pl.s 9, It.v (TV.d (D.int IntKind.i64 0))), (Pl.s 10, It.v (TV.oref 10 z.1.1.length)), (Pl.o 10, It.row 3 1 (dd (nrow .i64 (z.1.1 ++ [z.1.2]).tail)) false), (Pl.o 27, It.mp (mpS z.1.1)), (Pl.s 11, It.v (TV.mref 27)), (Pl.s 12, It.v (TV.d (D.int IntKind.i64 z.1.2)))]) (fun z => l.length + 1 - z.1.1.length) ⟨([], r), by simp, by simp, rfl⟩ ?_ ?_
 ·exact GS.own' (k := 10) 3 1 (by simp) (by simp) (by simp [nrow, mpS])
 generalize pathG l id p (l.length + 1) [] r = G
 rintro ⟨⟨pr, at_⟩, i1, i2, i3⟩
 simp only at i1 i2 i3
 have hpl := path_n i1 i2
 rw [show l.length + 1 - pr.length = (l.length - pr.length) + 1 by omega, pathG] at i3
 have hmg := mget_mp at_ pr
 have htl : (pr ++ [at_]).tail.length = pr.length := by simp
 by_cases hin : at_ ∈ pr
 ·rw [if_pos hin] at i3 hmg
  simp -dsimp [hmg]
  refine Fin.view 8 ?_
  simp -dsimp
  refine Fin.of ?_
  simp [i3, pathT, ints]
 rw [if_neg hin] at i3 hmg
 have hmp := mput_mp at_ pr hin
 simp -dsimp [hmg, hmp]
 and_intros
 all_goals try first | rfl | omega | exact ⟨by kernel_rfl⟩
 refine ACall.of (find_c l hl at_) [] 0 ?_
 cases hf : findT l at_ with
 | none =>
   simp only [hf] at i3
   simp -dsimp [foundT, tb0, tblT, rwsD_eq, rws]
   refine Fin.view 8 ?_
   simp -dsimp
   refine Fin.of ?_
   simp [i3, pathT, ints]
 | some b =>
   simp only [hf] at i3
   obtain ⟨hbm, hbr⟩ := findT_mem hf
   have hbs := hl.t b hbm
   have hv := nextV_hop (id := id) (hch b hbm) (p := p) ⟨by omega, by omega⟩
   simp -dsimp [foundT, tblT, rwsD_eq]
   refine ACall.of (mnext_c b hbs id p) [] 0 ?_
   rw [hv]
   generalize hopB b id p = w at i3 ⊢
   have hnt : (nrow .i64 (pr ++ [at_]).tail).length = pr.length := by simp [nrow]
   by_cases w0 : w = 0
   ·rw [if_pos w0] at i3
    simp -dsimp [foundT, tblT, rwsD_eq, eq_true w0]
    and_intros
    all_goals try first | rfl | omega | exact ⟨by kernel_rfl⟩
    refine Fin.view 8 ?_
    simp -dsimp
    refine Fin.of ?_
    simp [i3, pathT, ints]
   rw [if_neg w0] at i3
   by_cases w1 : w = at_
   ·rw [if_pos w1] at i3
    simp -dsimp [foundT, tblT, rwsD_eq, eq_false w0, eq_true w1]
    and_intros
    all_goals try first | rfl | omega | exact ⟨by kernel_rfl⟩
    refine Fin.view 8 ?_
    simp -dsimp [hnt]
    refine Fin.of ?_
    simp [i3, pathT, ints, nrow]
   rw [if_neg w1] at i3
   have ht2 : (pr ++ [at_] ++ [w]).tail = (pr ++ [at_]).tail ++ [w] := by
    rw [List.tail_append_of_ne_nil (by simp)]
   have hnod : (pr ++ [at_]).Nodup := by
    rw [List.nodup_append]
    exact ⟨i1, by simp, fun a ha b hb e => by simp at hb; subst hb; subst e; exact hin ha⟩
   have hfd : ∀ x ∈ pr ++ [at_], (findT l x).isSome := fun x hx => by
    rcases List.mem_append.1 hx with hx | hx
    ·exact i2 x hx
    ·simp at hx; subst hx; simp [hf]
   have hpl2 := path_n hnod hfd
   have hk : l.length - pr.length = l.length + 1 - (pr ++ [at_]).length := by simp
   rw [hk] at i3
   simp -dsimp [foundT, tblT, rwsD_eq, eq_false w0, eq_false w1, hnt]
   and_intros
   all_goals try first | rfl | omega | exact ⟨by kernel_rfl⟩
   exact ⟨⟨(pr ++ [at_], w), hnod, hfd, i3⟩, GS.to (by simp only [ht2]; simp [nrow]), by simp at hpl2 ⊢; omega⟩
end Go.Proofs

set_option linter.unusedSimpArgs false
set_option maxRecDepth 100000
set_option maxHeartbeats 2000000
namespace Go.Proofs
open Go Go.Tr
theorem pathG_len (l : List Tb) (id p : Int) : ∀ (k : Nat) (pr : List Int) (r : Int), (pathG l id p k pr r).1.length ≤ pr.length + k
 | 0, _, _ => by simp [pathG]
 | k + 1, pr, r => by
   rw [pathG]
   split
   ·simp
   ·split
    ·simp
    ·split
     ·simp
     ·split
      ·simp
      ·refine Nat.le_trans (pathG_len l id p k (pr ++ [r]) _) ?_
       simp
       omega
theorem pathV_len (l : List Tb) (r id p : Int) : (pathV l r id p).1.length ≤ l.length + 1 := by
 unfold pathV
 split
 ·simp
 ·split
  ·simp
  ·have := pathG_len l id p (l.length + 1) [] r
   simpa using this
noncomputable def gDom (T : Tp) (most : Int) : Topo × Pn × List Tb × Tp :=
 let g := gTop T most
 let p := gPlan g.2 g.1.rs 0
 (g.1, p.1, (all11 g.1 p.1).1, p.2)
end Go.Proofs

set_option linter.unusedSimpArgs false
namespace Go.Proofs
open Go Go.Tr
structure Trc where
 dl : List (Int × Pk)
 cr : List (Int × Int × BitVec 64)
 ls : List (Int × BitVec 64)
def tr0 : Trc := ⟨[], [], []⟩
def nextQ (l : List Tb) (q : Int × Pk) : List (Int × Pk) :=
 match findT l q.1 with
 | none => []
 | some b => (fwdR b q.2).1.cps
def stepT (l : List Tb) (q : Int × Pk) (t : Trc) : Trc :=
 match findT l q.1 with
 | none => ⟨t.dl, t.cr, t.ls ++ [(q.1, q.2.bits)]⟩
 | some b => ⟨t.dl ++ locV q.1 (fwdR b q.2).1 q.2, t.cr ++ (fwdR b q.2).1.cps.map (fun c => (q.1, c.1, c.2.bits)), if (fwdR b q.2).1.lost = 0#64 then t.ls else t.ls ++ [(q.1, (fwdR b q.2).1.lost)]⟩
def runG (l : List Tb) : Nat → List (Int × Pk) → Trc → Trc
 | 0, _, t => t
 | _ + 1, [], t => t
 | n + 1, q :: qs, t => runG l n (qs ++ nextQ l q) (stepT l q t)
def pc (B : BitVec 64) : Nat := (bitsL B).length
def wt (p : Pk) : Nat := pc p.bits * (2 * p.ttl.toNat + 1) + 1
def wsum (l : List (Int × Pk)) : Nat := (l.map fun c => wt c.2).sum
def runR (l : List Tb) (p : Pk) (r : Int) : Trc × Int :=
 if chkA l ≠ 0 ∨ p.ok = false then (tr0, 1) else match findT l r with
  | none => (tr0, 4)
  | some b => if p.mode = 2 then (tr0, 7) else if p.subd ≠ b.sd ∨ p.len ≠ b.len then (tr0, 8) else (runG l (wt p) [(r, p)] tr0, 0)
theorem wsum_app (a b : List (Int × Pk)) : wsum (a ++ b) = wsum a + wsum b := by simp [wsum]
theorem wsum_cons (q : Int × Pk) (b : List (Int × Pk)) : wsum (q :: b) = wt q.2 + wsum b := by simp [wsum]
theorem len_wsum : ∀ l : List (Int × Pk), l.length ≤ wsum l
 | [] => by simp
 | q :: l => by
   have := len_wsum l
   rw [wsum_cons, List.length_cons]
   unfold wt; omega
theorem filter_split {α : Type} (p : α → Bool) : ∀ l : List α, (l.filter p).length + (l.filter fun x => !p x).length = l.length
 | [] => rfl
 | x :: l => by
   have := filter_split p l
   rw [List.filter_cons, List.filter_cons]
   cases h : p x <;> simp <;> omega
theorem bitsL_and (R M : BitVec 64) : bitsL (R &&& M) = (bitsL R).filter fun i => M.getLsbD i := by
 unfold bitsL
 rw [List.filter_filter]
 apply List.filter_congr
 intro i _
 rw [BitVec.getLsbD_and, Bool.and_comm]
theorem bitsL_andNot (R M : BitVec 64) : bitsL (R &&& ~~~ M) = (bitsL R).filter fun i => !M.getLsbD i := by
 unfold bitsL
 rw [List.filter_filter]
 apply List.filter_congr
 intro i hi
 have : i < 64 := by simpa using hi
 rw [BitVec.getLsbD_and, BitVec.getLsbD_not]
 simp [this, Bool.and_comm]
theorem pc_split (R M : BitVec 64) : pc (R &&& M) + pc (R &&& ~~~ M) = pc R := by
 unfold pc
 rw [bitsL_and, bitsL_andNot]
 exact filter_split (fun i => M.getLsbD i) (bitsL R)
theorem pc_le (B : BitVec 64) : pc B ≤ 64 := bitsL_len B
theorem pc_pos {B : BitVec 64} (h : B ≠ 0#64) : 1 ≤ pc B := by
 unfold pc
 rcases Nat.eq_zero_or_pos (bitsL B).length with h0 | h0
 ·exact absurd (pop_zero h0) h
 ·exact h0
theorem wt_copy {p : Pk} {R M : BitVec 64} (h : (pkmR (p.setB R) M).2 = true) : wt (pkmR (p.setB R) M).1 ≤ pc (R &&& M) * (2 * p.ttl.toNat) := by
 unfold pkmR at h ⊢
 split at h
 ·rename_i hc
  obtain ⟨h1, h2, h3⟩ := hc
  rw [if_pos ⟨h1, h2, h3⟩]
  have hp := pc_pos h3
  have ht := ok_ttl h1
  simp only [Pk.setB] at hp h2 ht
  have ht1 : (p.ttl - 1).toNat = p.ttl.toNat - 1 := by omega
  have ht2 : 1 ≤ p.ttl.toNat := by omega
  simp only [wt, pkMask, Pk.setB, ht1]
  obtain ⟨T, hT⟩ : ∃ T, p.ttl.toNat = T + 1 := ⟨p.ttl.toNat - 1, by omega⟩
  rw [hT, show T + 1 - 1 = T by omega, show 2 * (T + 1) = (2 * T + 1) + 1 by omega, Nat.mul_add _ (2 * T + 1) 1]
  omega
 ·simp at h
theorem fwdG_wt (b : Tb) (p : Pk) : ∀ (n : Nat) (o : Out) (R : BitVec 64), wsum (fwdG b p n o R).cps ≤ wsum o.cps + pc R * (2 * p.ttl.toNat)
 | 0, o, R => by simp [fwdG]
 | n + 1, o, R => by
   rw [fwdG]
   split
   ·omega
   ·have ih := fwdG_wt b p n (fwdO b p o R) (R &&& ~~~ fwdM b p R)
    refine Nat.le_trans ih ?_
    have hs := pc_split R (fwdM b p R)
    have hm : pc (R &&& ~~~ fwdM b p R) * (2 * p.ttl.toNat) + pc (R &&& fwdM b p R) * (2 * p.ttl.toNat) = pc R * (2 * p.ttl.toNat) := by
     rw [← Nat.add_mul]; congr 1; omega
    by_cases c0 : hopAt b p (tz R) = 0
    ·have eO : (fwdO b p o R).cps = o.cps := by rw [fwdO, if_pos c0]
     rw [eO]; omega
    by_cases c1 : hopAt b p (tz R) = b.r
    ·have eO : (fwdO b p o R).cps = o.cps := by rw [fwdO, if_neg c0, if_pos c1]
     rw [eO]; omega
    have eM : fwdM b p R = togR b p R (hopAt b p (tz R)) := by rw [fwdM, if_neg (fun h => h.elim c0 c1)]
    by_cases c2 : (pkmR (p.setB R) (togR b p R (hopAt b p (tz R)))).2 = true
    ·have eO : (fwdO b p o R).cps = o.cps ++ [(hopAt b p (tz R), (pkmR (p.setB R) (togR b p R (hopAt b p (tz R)))).1)] := by
      rw [fwdO, if_neg c0, if_neg c1, if_pos c2]
     have hw := wt_copy c2
     rw [← eM] at hw
     rw [eO, wsum_app, wsum_cons, ← eM]
     simp only [wsum, List.map_nil, List.sum_nil] at *
     omega
    ·have eO : (fwdO b p o R).cps = o.cps := by rw [fwdO, if_neg c0, if_neg c1, if_neg c2]
     rw [eO]; omega
theorem nextQ_wt (l : List Tb) (q : Int × Pk) : wsum (nextQ l q) + 1 ≤ wt q.2 := by
 have h0 : 1 ≤ wt q.2 := by unfold wt; omega
 unfold nextQ
 split
 ·simpa [wsum] using h0
 ·rename_i b _
  unfold fwdR
  split
  ·simpa [wsum, out0] using h0
  split
  ·simpa [wsum, out0] using h0
  split
  ·simpa [wsum, out0] using h0
  have h := fwdG_wt b q.2 64 out0 q.2.bits
  have e0 : wsum out0.cps = 0 := rfl
  simp only [fwdV]
  unfold wt
  rw [Nat.mul_add]
  omega
theorem wt_le {p : Pk} (h : p.ok = true) : wt p ≤ 8129 := by
 have h1 := ok_ttl h
 have h2 := pc_le p.bits
 unfold wt
 have h3 : 2 * p.ttl.toNat + 1 ≤ 127 := by omega
 have := Nat.mul_le_mul h2 h3
 omega
theorem runG_nil (l : List Tb) (n : Nat) (t : Trc) : runG l n [] t = t := by cases n <;> rfl
theorem fwdG_len (b : Tb) (p : Pk) : ∀ (n : Nat) (o : Out) (R : BitVec 64), (fwdG b p n o R).cps.length ≤ o.cps.length + n
 | 0, o, R => by simp [fwdG]
 | n + 1, o, R => by
   rw [fwdG]
   split
   ·omega
   ·have ih := fwdG_len b p n (fwdO b p o R) (R &&& ~~~ fwdM b p R)
    have : (fwdO b p o R).cps.length ≤ o.cps.length + 1 := by
     unfold fwdO
     split
     ·simp
     split
     ·simp
     split <;> simp
    omega
theorem fwdR_len (b : Tb) (p : Pk) : (fwdR b p).1.cps.length ≤ 64 := by
 unfold fwdR
 split
 ·simp [out0]
 split
 ·simp [out0]
 split
 ·simp [out0]
 have := fwdG_len b p 64 out0 p.bits
 simpa [fwdV, out0] using this
end Go.Proofs

set_option linter.unusedSimpArgs false
set_option maxRecDepth 100000
set_option maxHeartbeats 16000000
namespace Go.Tr
open Go
theorem GS.ownBp {A : Actv} {l : List (Pl × It)} (p : Pl) (j id : Nat) {cs : List TV} (e z : Nat) (hs : isPl p = true) (hp : look l p = .box cs) (hj : cs[j]? = some (.c (.slice none 0 0))) (ho : look l (.o id) = .none) :
  GS A (look l) (look (put1 p (.box (cs.set j (.oref id 0))) (put1 (.o id) (.row e z [] false) l))) := by
 have := GS.ownB (A := A) (id := id) e z (fun k e => by subst e; simp [isPl] at hs) hp hj ho
 rw [upd_look, upd_look] at this
 exact this
theorem GS.quep {A : Actv} {l : List (Pl × It)} (id : Nat) {k : Nat} {e : TypeId} {es : List (List TV)} (ht : look l (.o id) = .row e k es false) (hn : 0 < es.length) : GS A (look l) (look (put1 (.o id) (.que e k es) l)) := by
 have := GS.que (A := A) ht hn
 rw [upd_look] at this
 exact this
theorem It.only_que (po : Nat → Prop) (e : TypeId) (k : Nat) (es : List (List TV)) : It.only po (.que e k es) = rowsOnly po es := rfl
attribute [simp] It.only_que
theorem GS.cut' {A : Actv} {l l' : List (Pl × It)} (s id : Nat) {n j k : Nat} {e : TypeId} (xs : List (List D)) (hs : look l (.s s) = .v (.osl id n j)) (ht : look l (.o id) = .que e k (dd xs)) (hn : n = xs.length) (hj : j ≤ n)
  (h : Sub (look l) (cutL s id l') ∧ xIds (cutL s id l') = xIds l) (hid : id ∉ oIds (cutL s id l'))
  (h' : Sub (look (put1 (.s s) (.v (.oref id (n - j))) (put1 (.o id) (.que e k (dd (xs.drop j))) (cutL s id l')))) l' ∧ xIds l' = xIds (put1 (.s s) (.v (.oref id (n - j))) (put1 (.o id) (.que e k (dd (xs.drop j))) (cutL s id l')))) : GS A (look l) (look l') :=
 GS.cut (cutL s id l') s id hs ht hn hj h hid h'
end Go.Tr
namespace Go.Proofs
open Go Go.Tr
def crC (x : Int × Int × BitVec 64) : List D := [.int .i64 x.1, .int .i64 x.2.1, bv x.2.2]
def lsC (x : Int × BitVec 64) : List D := [.int .i64 x.1, bv x.2]
def trcT (t : Trc) : TV := .agg [.d (.sl (t.dl.map dlC)), .d (.sl (t.cr.map crC)), .d (.sl (t.ls.map lsC))]
theorem run_c (l : List Tb) (hl : SmL l) (p : Pk) (r : Int) : Contract Tryz.prog 80 [.d (.sl (tbs l)), pkT p, .d (.int .i64 r)] [] (.tup [trcT (runR l p r).1, .d (.int .i64 (runR l p r).2)]) [] [] := by
 have hck := checkA_c l hl
 have hv := valid_c2 p
 have hf := find_c l hl r
 simp only [pkT, Pk.cs, List.map] at hv
 refine contract_of Tryz.func80 rfl (fun E0 => ?_)
 refine awp.sound (g := .mk) (ow := [60]) (kp := (fun k => k==0||k==1||k==2||k==4||k==6||k==7||k==8||k==9||k==10||k==11||k==12||k==13||k==14||k==15||k==18||k==26||k==34||k==38||k==43||k==63||k==77||k==109||k==121||k==122||k==123||k==124)) ?_
 rw [Tryz.ntmps80]
 simp -dsimp [pkT, Pk.cs]
 try refine ⟨?_, ⟨by kernel_rfl⟩⟩
 refine ACall.of hck [] 0 ?_
 by_cases h1 : chkA l = 0
 rotate_left
 ·simp -dsimp [h1]
  try refine ⟨?_, ⟨by kernel_rfl⟩⟩
  refine Fin.box (.o 6) rfl ?_
  simp -dsimp
  refine Fin.of ?_
  simp [runR, h1, trcT, tr0]
 simp -dsimp [h1]
 try refine ⟨?_, ⟨by kernel_rfl⟩⟩
 refine ACall.of hv [] 0 ?_
 rcases (Bool.eq_false_or_eq_true p.ok).symm with h2 | h2
 ·simp -dsimp [h2]
  try refine ⟨?_, ⟨by kernel_rfl⟩⟩
  refine Fin.box (.o 6) rfl ?_
  simp -dsimp
  refine Fin.of ?_
  simp [runR, trcT, tr0, h1, h2]
 cases hfd : findT l r with
 | none =>
   rw [hfd] at hf
   simp only [foundT, Option.getD_none, Option.isSome_none, tb0, tblT] at hf
   simp -dsimp [h2]
   try refine ⟨?_, ⟨by kernel_rfl⟩⟩
   refine ACall.of hf [] 0 ?_
   simp -dsimp
   try refine ⟨?_, ⟨by kernel_rfl⟩⟩
   refine Fin.box (.o 6) rfl ?_
   simp -dsimp
   refine Fin.of ?_
   simp [runR, trcT, tr0, h1, h2, hfd]
 | some b =>
   rw [hfd] at hf
   simp only [foundT, Option.getD_some, Option.isSome_some, tblT] at hf
   simp -dsimp [h2]
   try refine ⟨?_, ⟨by kernel_rfl⟩⟩
   refine ACall.of hf [] 0 ?_
   by_cases h3 : p.mode = 2
   ·simp -dsimp [eq_true h3]
    try refine ⟨?_, ⟨by kernel_rfl⟩⟩
    refine Fin.box (.o 6) rfl ?_
    simp -dsimp
    refine Fin.of ?_
    simp [runR, trcT, tr0, h1, h2, hfd, h3]
   by_cases h4 : p.subd = b.sd
   rotate_left
   ·simp -dsimp [h3, h4]
    try refine ⟨?_, ⟨by kernel_rfl⟩⟩
    refine Fin.box (.o 6) rfl ?_
    simp -dsimp
    refine Fin.of ?_
    simp [runR, trcT, tr0, h1, h2, hfd, h3, h4]
   by_cases h5 : p.len = b.len
   rotate_left
   ·simp -dsimp [h3, eq_true h4, h5]
    try refine ⟨?_, ⟨by kernel_rfl⟩⟩
    refine Fin.box (.o 6) rfl ?_
    simp -dsimp
    refine Fin.of ?_
    simp [runR, trcT, tr0, h1, h2, hfd, h3, h4, h5]
   simp -dsimp [h3, eq_true h4, eq_true h5]
   try refine ⟨?_, ⟨by kernel_rfl⟩⟩
   have hr : runR l p r = (runG l (wt p) [(r, p)] tr0, 0) := by simp [runR, h1, h2, hfd, h3, h4, h5]
   have hwt := wt_le h2
   rw [hr]
   have hsum1 : wsum [(r, p)] = wt p := by simp [wsum]
   refine ALoop.of [60] (fun k => k==0||k==1||k==2||k==4||k==6||k==7||k==8||k==9||k==10||k==11||k==12||k==13||k==14||k==15||k==18||k==26||k==34||k==38||k==43||k==63||k==77||k==109||k==121||k==122||k==123||k==124) (ι := { z : Nat × List (Int × Pk) × Trc // runG l (wt p) [(r, p)] tr0 = runG l z.1 z.2.1 z.2.2 ∧ wsum z.2.1 ≤ z.1 ∧ z.1 ≤ 8129 ∧ z.2.2.dl.length + 64 * z.1 ≤ 600000 ∧ z.2.2.cr.length + 64 * z.1 ≤ 600000 ∧ z.2.2.ls.length + z.1 ≤ 600000 })
    (fun z => [(Pl.s 0, It.v (TV.d (D.sl (tbs l)))), (Pl.o 6, It.box [TV.c (Value.slice none 0 0), TV.c (Value.slice none 0 0), TV.c (Value.slice none 0 0)]), (Pl.s 6, It.v (TV.ptr (Pl.o 6) 0)), (Pl.s 7, It.v (TV.d (D.int IntKind.i64 0))),
     (Pl.o 10, It.box [TV.oref 70 z.1.2.2.dl.length, TV.oref 71 z.1.2.2.cr.length, TV.oref 72 z.1.2.2.ls.length]), (Pl.s 10, It.v (TV.ptr (Pl.o 10) 0)),
     (Pl.o 70, It.row 138 11 (dd (z.1.2.2.dl.map dlC)) false), (Pl.o 71, It.row 158 3 (dd (z.1.2.2.cr.map crC)) false), (Pl.o 72, It.row 140 2 (dd (z.1.2.2.ls.map lsC)) false),
     (Pl.o 60, It.que 186 11 (dd (z.1.2.1.map dlC))), (Pl.s 11, It.v (TV.oref 60 z.1.2.1.length))])
    (fun z => z.1.1) ⟨(wt p, [(r, p)], tr0), rfl, by simp only [hsum1]; omega, hwt, by simp [tr0]; omega, by simp [tr0]; omega, by simp [tr0]; omega⟩ ?_ ?_
   ·have NIL3 : ∀ (a b c : TV), [a, b, c].set 0 (TV.oref 70 0) = [TV.oref 70 0, b, c] := fun _ _ _ => rfl
    refine (GS.quep 60 (e := 186) (k := 11) (es := dd ([(r, p)].map dlC)) (by simp [dlC, Pk.cs]) (by simp)).trans ?_
    simp only [put1, Pl.o.injEq, reduceCtorEq, if_false, if_true, Nat.reduceEqDiff]
    refine (GS.ownBp (.o 10) 0 70 (cs := [.c (.slice none 0 0), .c (.slice none 0 0), .c (.slice none 0 0)]) 138 11 (by simp) (by simp) (by simp) (by simp)).trans ?_
    simp only [put1, Pl.o.injEq, reduceCtorEq, if_false, if_true, Nat.reduceEqDiff, List.set]
    refine (GS.ownBp (.o 10) 1 71 (cs := [.oref 70 0, .c (.slice none 0 0), .c (.slice none 0 0)]) 158 3 (by simp) (by simp) (by simp) (by simp)).trans ?_
    simp only [put1, Pl.o.injEq, reduceCtorEq, if_false, if_true, Nat.reduceEqDiff, List.set]
    exact GS.ownB' (.o 10) 2 72 (cs := [.oref 70 0, .oref 71 0, .c (.slice none 0 0)]) 140 2 (by simp) (by simp) (by simp) (by simp) (by simp [tr0])
   ·rintro ⟨⟨n, Q, t⟩, i1, i2, i3, i4, i5, i6⟩
    simp only at i1 i2 i3 i4 i5 i6
    cases Q with
    | nil =>
      have e : runG l (wt p) [(r, p)] tr0 = t := by rw [i1, runG_nil]
      simp -dsimp
      refine Fin.box (.o 6) rfl ?_
      simp -dsimp
      refine Fin.of ?_
      simp [trcT, e]
    | cons q Q =>
      obtain ⟨q1, q2⟩ := q
      rw [wsum_cons] at i2
      have hq := nextQ_wt l (q1, q2)
      have hw1 : 1 ≤ wt q2 := by unfold wt; omega
      simp only at i2 hq
      obtain ⟨n, rfl⟩ : ∃ j, n = j + 1 := ⟨n - 1, by omega⟩
      rw [runG] at i1
      have hQl := len_wsum Q
      have hfq := find_c l hl q1
      simp -dsimp [dlC, Pk.cs]
      and_intros
      all_goals try first | omega | exact ⟨by kernel_rfl⟩
      cases hfd2 : findT l q1 with
      | none =>
        have eN : nextQ l (q1, q2) = [] := by simp [nextQ, hfd2]
        have eS : stepT l (q1, q2) t = ⟨t.dl, t.cr, t.ls ++ [(q1, q2.bits)]⟩ := by simp [stepT, hfd2]
        rw [eN, eS, List.append_nil] at i1
        rw [hfd2] at hfq
        simp only [foundT, Option.getD_none, Option.isSome_none, tb0, tblT] at hfq
        refine ACall.of hfq [] 0 ?_
        simp -dsimp
        and_intros
        all_goals try first | omega | exact ⟨by kernel_rfl⟩
        refine ⟨⟨(n, Q, ⟨t.dl, t.cr, t.ls ++ [(q1, q2.bits)]⟩), i1, by simp only; omega, by simp only; omega, by simp only; omega, by simp only; omega, by simp only [List.length_append, List.length_cons, List.length_nil]; omega⟩, ?_, by simp⟩
        refine GS.cut' 11 60 (n := Q.length + 1) (j := 1) (k := 11) (e := 186) (((q1, q2) :: Q).map dlC) (by simp) (by simp [dlC, Pk.cs]) (by simp) (by simp) (by simp [lsC, bv]) (by simp) (by simp [lsC, bv])
      | some b2 =>
        have hb2 : b2.Sm := hl.t b2 (List.mem_of_find?_eq_some hfd2)
        have eN : nextQ l (q1, q2) = (fwdR b2 q2).1.cps := by simp [nextQ, hfd2]
        have eS : stepT l (q1, q2) t = ⟨t.dl ++ locV q1 (fwdR b2 q2).1 q2, t.cr ++ (fwdR b2 q2).1.cps.map (fun c => (q1, c.1, c.2.bits)), if (fwdR b2 q2).1.lost = 0#64 then t.ls else t.ls ++ [(q1, (fwdR b2 q2).1.lost)]⟩ := by simp [stepT, hfd2]
        rw [eN, eS] at i1
        rw [eN] at hq
        have hcl := fwdR_len b2 q2
        have hfp := fpacket_c b2 hb2 q2
        have hlc := flocal_c b2 q1 (fwdR b2 q2).1 q2
        have hll : (locV q1 (fwdR b2 q2).1 q2).length ≤ 64 := by unfold locV; rw [List.length_map]; exact bitsI_len _
        rw [hfd2] at hfq
        simp only [foundT, Option.getD_some, Option.isSome_some, tblT] at hfq
        generalize fwdR b2 q2 = F at i1 hq hcl hfp hlc hll
        obtain ⟨o, er⟩ := F
        simp only at i1 hq hcl hfp hlc hll
        generalize locV q1 o q2 = LV at i1 hlc hll
        have hdl : dLen 11 (LV.map dlC) := dLen_map 11 _ _ fun _ => rfl
        obtain ⟨oloc, olost, ocps⟩ := o
        simp only at i1 hq hcl
        have hCl : (ocps.map fun c => (q1, c.1, c.2.bits)).length = ocps.length := by simp
        have hCg : ∀ (j : Nat) (c : Int × Pk), ocps[j]? = some c → (ocps.map fun c => (q1, c.1, c.2.bits))[j]? = some (q1, c.1, c.2.bits) := fun j c h => by simp [h]
        generalize (ocps.map fun c => (q1, c.1, c.2.bits)) = CRL at i1 hCl hCg
        simp only [tblT, pkT, Pk.cs, List.map, outT, bv] at hfp hlc
        refine ACall.of hfq [] 0 ?_
        simp -dsimp
        try refine ⟨?_, ⟨by kernel_rfl⟩⟩
        refine ACall.of hfp [] 0 ?_
        simp -dsimp
        try refine ⟨?_, ⟨by kernel_rfl⟩⟩
        try refine ⟨rfl, ?_⟩
        try refine ⟨?_, ⟨by kernel_rfl⟩⟩
        refine ACall.of hlc [] 0 ?_
        by_cases c0 : olost = 0#64
        ·simp -dsimp [c0]
         and_intros
         all_goals try first | omega | exact hdl | exact rfl | exact ⟨by kernel_rfl⟩
         refine ALoop.of [60] (fun k => k==0||k==1||k==2||k==4||k==6||k==7||k==8||k==9||k==10||k==11||k==12||k==13||k==14||k==15||k==18||k==26||k==34||k==38||k==43||k==63||k==77||k==109||k==121||k==122||k==123||k==124) (ι := { j : Nat // j ≤ ocps.length })
          (fun j => [(Pl.s 0, It.v (TV.d (D.sl (tbs l)))), (Pl.o 6, It.box [TV.c (Value.slice none 0 0), TV.c (Value.slice none 0 0), TV.c (Value.slice none 0 0)]), (Pl.s 6, It.v (TV.ptr (Pl.o 6) 0)), (Pl.s 7, It.v (TV.d (D.int IntKind.i64 0))),
           (Pl.o 10, It.box [TV.oref 70 (t.dl.length + LV.length), TV.oref 71 (t.cr.length + j.1), TV.oref 72 t.ls.length]), (Pl.s 10, It.v (TV.ptr (Pl.o 10) 0)),
           (Pl.o 70, It.row 138 11 (dd (t.dl.map dlC) ++ dd (LV.map dlC)) false), (Pl.o 71, It.row 158 3 (dd (t.cr.map crC) ++ dd (List.take j.1 (CRL.map crC))) false), (Pl.o 72, It.row 140 2 (dd (t.ls.map lsC)) false),
           (Pl.o 60, It.que 186 11 (dd (Q.map dlC) ++ dd (List.take j.1 (ocps.map dlC)))), (Pl.s 11, It.v (TV.oref 60 (Q.length + j.1))),
           (Pl.o 12, It.box (TV.d (.int .i64 q1) :: q2.cs.map .d)), (Pl.s 12, It.v (TV.ptr (Pl.o 12) 0)),
           (Pl.s 121, It.v (TV.d (D.sl (List.map cpC ocps)))), (Pl.s 122, It.v (TV.d (D.int IntKind.i64 ocps.length))), (Pl.s 123, It.v (TV.d (D.int IntKind.i64 j.1)))])
          (fun j => ocps.length - j.1) ⟨0, by omega⟩ ?_ ?_
         ·exact GS.cut' 11 60 (n := Q.length + 1) (j := 1) (k := 11) (e := 186) (((q1, q2) :: Q).map dlC) (by simp) (by simp [dlC, Pk.cs]) (by simp) (by simp) (by simp [lsC, bv, Pk.cs]) (by simp) (by simp [lsC, bv, Pk.cs])
         ·rintro ⟨j, j1⟩
          by_cases hj : j < ocps.length
          ·have hjz : (j : Int) < ocps.length := by omega
           have hg : ocps[j]? = some ocps[j] := List.getElem?_eq_getElem hj
           have hcg := hCg j _ hg
           generalize ocps[j] = c at hg hcg
           obtain ⟨c1, c2⟩ := c
           have hn1 : dd (List.take (j + 1) (CRL.map crC)) = dd (List.take j (CRL.map crC)) ++ [[TV.d (.int .i64 q1), TV.d (.int .i64 c1), TV.d (bv c2.bits)]] := by
            rw [List.take_add_one, List.getElem?_map, hcg]; simp [dd, crC]
           have hn2 : dd (List.take (j + 1) (ocps.map dlC)) = dd (List.take j (ocps.map dlC)) ++ [TV.d (.int .i64 c1) :: c2.cs.map .d] := by
            rw [List.take_add_one, List.getElem?_map, hg]; simp [dd, dlC]
           simp [Pk.cs] at hn2
           have hm1 : min j CRL.length = j := by omega
           have hm2 : min j ocps.length = j := by omega
           simp -dsimp [hg, hjz, cpC, Pk.cs, hm1, hm2, wrap_i64 (n := (j : Int) + 1) (by omega) (by omega)]
           and_intros
           all_goals try first | omega | exact ⟨by kernel_rfl⟩
           exact ⟨⟨j + 1, by omega⟩, GS.to (by simp [hn1, hn2, Pk.cs, Nat.add_assoc]), by simp; omega⟩
          ·have hjz : ¬ (j : Int) < ocps.length := by omega
           obtain rfl : j = ocps.length := by omega
           have ht1 : List.take ocps.length (CRL.map crC) = CRL.map crC := List.take_of_length_le (by simp; omega)
           have ht2 : List.take ocps.length (ocps.map dlC) = ocps.map dlC := List.take_of_length_le (by simp)
           simp -dsimp [hjz]
           try refine ⟨?_, ⟨by kernel_rfl⟩⟩
           exact ⟨⟨(n, Q ++ ocps, _), i1, by simp only [wsum_app]; omega, by simp only; omega, by simp only [List.length_append]; omega, by simp only [List.length_append, hCl]; omega, by simp only [c0, if_true]; omega⟩, GS.to (by simp [ht1, ht2, c0, hCl, lsC, bv]), by simp⟩
        ·simp -dsimp [c0]
         and_intros
         all_goals try first | omega | exact hdl | exact rfl | exact ⟨by kernel_rfl⟩
         refine ALoop.of [60] (fun k => k==0||k==1||k==2||k==4||k==6||k==7||k==8||k==9||k==10||k==11||k==12||k==13||k==14||k==15||k==18||k==26||k==34||k==38||k==43||k==63||k==77||k==109||k==121||k==122||k==123||k==124) (ι := { j : Nat // j ≤ ocps.length })
          (fun j => [(Pl.s 0, It.v (TV.d (D.sl (tbs l)))), (Pl.o 6, It.box [TV.c (Value.slice none 0 0), TV.c (Value.slice none 0 0), TV.c (Value.slice none 0 0)]), (Pl.s 6, It.v (TV.ptr (Pl.o 6) 0)), (Pl.s 7, It.v (TV.d (D.int IntKind.i64 0))),
           (Pl.o 10, It.box [TV.oref 70 (t.dl.length + LV.length), TV.oref 71 (t.cr.length + j.1), TV.oref 72 (t.ls.length + 1)]), (Pl.s 10, It.v (TV.ptr (Pl.o 10) 0)),
           (Pl.o 70, It.row 138 11 (dd (t.dl.map dlC) ++ dd (LV.map dlC)) false), (Pl.o 71, It.row 158 3 (dd (t.cr.map crC) ++ dd (List.take j.1 (CRL.map crC))) false), (Pl.o 72, It.row 140 2 (dd (t.ls.map lsC) ++ [[TV.d (.int .i64 q1), TV.d (bv olost)]]) false),
           (Pl.o 60, It.que 186 11 (dd (Q.map dlC) ++ dd (List.take j.1 (ocps.map dlC)))), (Pl.s 11, It.v (TV.oref 60 (Q.length + j.1))),
           (Pl.o 12, It.box (TV.d (.int .i64 q1) :: q2.cs.map .d)), (Pl.s 12, It.v (TV.ptr (Pl.o 12) 0)),
           (Pl.s 121, It.v (TV.d (D.sl (List.map cpC ocps)))), (Pl.s 122, It.v (TV.d (D.int IntKind.i64 ocps.length))), (Pl.s 123, It.v (TV.d (D.int IntKind.i64 j.1)))])
          (fun j => ocps.length - j.1) ⟨0, by omega⟩ ?_ ?_
         ·exact GS.cut' 11 60 (n := Q.length + 1) (j := 1) (k := 11) (e := 186) (((q1, q2) :: Q).map dlC) (by simp) (by simp [dlC, Pk.cs]) (by simp) (by simp) (by simp [lsC, bv, Pk.cs]) (by simp) (by simp [lsC, bv, Pk.cs])
         ·rintro ⟨j, j1⟩
          by_cases hj : j < ocps.length
          ·have hjz : (j : Int) < ocps.length := by omega
           have hg : ocps[j]? = some ocps[j] := List.getElem?_eq_getElem hj
           have hcg := hCg j _ hg
           generalize ocps[j] = c at hg hcg
           obtain ⟨c1, c2⟩ := c
           have hn1 : dd (List.take (j + 1) (CRL.map crC)) = dd (List.take j (CRL.map crC)) ++ [[TV.d (.int .i64 q1), TV.d (.int .i64 c1), TV.d (bv c2.bits)]] := by
            rw [List.take_add_one, List.getElem?_map, hcg]; simp [dd, crC]
           have hn2 : dd (List.take (j + 1) (ocps.map dlC)) = dd (List.take j (ocps.map dlC)) ++ [TV.d (.int .i64 c1) :: c2.cs.map .d] := by
            rw [List.take_add_one, List.getElem?_map, hg]; simp [dd, dlC]
           simp [Pk.cs] at hn2
           have hm1 : min j CRL.length = j := by omega
           have hm2 : min j ocps.length = j := by omega
           simp -dsimp [hg, hjz, cpC, Pk.cs, hm1, hm2, wrap_i64 (n := (j : Int) + 1) (by omega) (by omega)]
           and_intros
           all_goals try first | omega | exact ⟨by kernel_rfl⟩
           exact ⟨⟨j + 1, by omega⟩, GS.to (by simp [hn1, hn2, Pk.cs, Nat.add_assoc]), by simp; omega⟩
          ·have hjz : ¬ (j : Int) < ocps.length := by omega
           obtain rfl : j = ocps.length := by omega
           have ht1 : List.take ocps.length (CRL.map crC) = CRL.map crC := List.take_of_length_le (by simp; omega)
           have ht2 : List.take ocps.length (ocps.map dlC) = ocps.map dlC := List.take_of_length_le (by simp)
           simp -dsimp [hjz]
           try refine ⟨?_, ⟨by kernel_rfl⟩⟩
           exact ⟨⟨(n, Q ++ ocps, _), i1, by simp only [wsum_app]; omega, by simp only; omega, by simp only [List.length_append]; omega, by simp only [List.length_append, hCl]; omega, by simp only [c0, if_false, List.length_append, List.length_cons, List.length_nil]; omega⟩, GS.to (by simp [ht1, ht2, c0, hCl, lsC, bv]), by simp⟩
end Go.Proofs

set_option linter.unusedSimpArgs false
set_option maxRecDepth 100000
set_option maxHeartbeats 8000000
namespace Go.Proofs
open Go Go.Tr
end Go.Proofs

set_option linter.unusedSimpArgs false
namespace Go.Proofs
open Go Go.Tr
theorem pln_range (p : Pk) : 0 ≤ plnP p ∧ plnP p ≤ 7 := by unfold plnP; split <;> omega
theorem ok_set {p : Pk} (h : p.ok = true) : 0 ≤ p.set ∧ p.set ≤ 31 := by
 simp only [Pk.ok, insB, Bool.and_eq_true, decide_eq_true_eq] at h
 omega
theorem hop_eq {b : Tb} (hc : chk b = 0) (p : Pk) (id : Int) : nextV b id (plnP p) = hopB b id (plnP p) := by
 have := pln_range p
 rw [nextV, if_pos (valB_iff.2 ⟨hc, this, by omega, by omega⟩)]
theorem mask_eq {b : Tb} (hc : chk b = 0) {p : Pk} (hp : p.ok = true) {n : Int} (hn : 1 ≤ n ∧ n ≤ 99) : maskP b (plnP p) p.set n = bitsR b (plnP p) p.set n b.len.toNat := by
 have h1 := pln_range p
 have h2 := ok_set hp
 rw [maskP_eq, maskR, if_pos ⟨valB_iff.2 ⟨hc, h1, h2⟩, hn⟩]
theorem ok_setB {p : Pk} {R : BitVec 64} (hp : p.ok = true) (hR : ∀ k < 64, R.getLsbD k = true → p.bits.getLsbD k = true) : (p.setB R).ok = true := by
 cases p
 simp only [Pk.setB] at *
 simp only [Pk.ok, Bool.and_eq_true, validB, decide_eq_true_eq] at hp ⊢
 obtain ⟨a1, a2, a3, a4, ⟨h1, h2⟩, a5⟩ := hp
 refine ⟨a1, a2, a3, a4, ⟨h1, ?_⟩, a5⟩
 apply BitVec.eq_of_getLsbD_eq
 intro k hk
 have h3 := congrArg (fun z => z.getLsbD k) h2
 simp only [BitVec.getLsbD_and, BitVec.getLsbD_not, hk, decide_true, Bool.true_and, BitVec.getLsbD_zero] at h3 ⊢
 cases hr : R.getLsbD k with
 | false => simp
 | true =>
   rw [hR k hk hr] at h3
   simpa using h3
end Go.Proofs

set_option linter.unusedSimpArgs false
set_option maxRecDepth 100000
set_option maxHeartbeats 8000000
namespace Go.Proofs
open Go Go.Tr
end Go.Proofs

set_option linter.unusedSimpArgs false
set_option maxRecDepth 100000
set_option maxHeartbeats 8000000
namespace Go.Proofs
open Go Go.Tr
end Go.Proofs

/-
  What functions of the program compute, stated as contracts over plain data; the conditions of each stand in its own statement.
-/
import Derived.Test.YtjgeggdefiejbaaGreatDoorM26
import Derived.Test.YtjgeggdefiejbaaGreatDoorM24
set_option linter.unusedSimpArgs false
set_option maxRecDepth 100000
set_option maxHeartbeats 2000000
namespace Go.Proofs
open Go Go.Tr
theorem chk_parts {b : Tb} (h : chk b = 0) : b.head ∧ b.rows.length ≤ 256 ∧ (∀ x ∈ b.rows, x.nx.length ≤ 24) ∧ ∀ x ∈ b.rows, ¬ (1 < x.nx.length ∧ b.r ∈ x.nx) := by
 unfold chk at h
 split at h
 ·simp at h
 rename_i h1
 split at h
 ·simp at h
 split at h
 ·simp at h
 rename_i h2
 split at h
 ·simp at h
 rename_i h3
 split at h
 ·simp at h
 split at h
 ·simp at h
 rename_i h4
 exact ⟨Classical.byContradiction fun g => h1 g, by omega, fun x hx => Nat.le_of_not_lt fun g => h3 ⟨x, hx, g⟩, fun x hx g => h4 ⟨x, hx, g⟩⟩
theorem chk_sm {b : Tb} (h : chk b = 0) : b.Sm := ⟨by have := (chk_parts h).2.1; omega, fun x hx => by have := (chk_parts h).2.2.1 x hx; omega⟩
theorem copied_c (b : Tb) (hb : b.rows.length ≤ 1000000) (hn : ∀ x ∈ b.rows, x.nx.length ≤ 1000000) : Contract Tryz.prog 92 [tblT b] [] (.agg [TV.d (D.int IntKind.i64 b.r), TV.d (D.int IntKind.i64 b.sd), TV.d (D.int IntKind.i64 b.len), .oref 3 b.rows.length]) [] [(3, .row 95 2 (dd (rws b.rows)) false)] := by
 refine contract_of Tryz.func92 rfl (fun E0 => ?_)
 refine awp.sound (g := .mk) (ow := [19]) (kp := (fun k => k==0||k==1||k==2||k==3||k==4||k==9)) ?_
 rw [Tryz.ntmps92]
 simp -dsimp [tblT, rwsD_eq]
 refine ALoop.of [19] (fun k => k==0||k==1||k==2||k==3||k==4||k==9) (ι := { i : Nat // i ≤ b.rows.length }) (fun z => [(Pl.s 0, It.v (TV.agg [TV.d (D.int IntKind.i64 b.r), TV.d (D.int IntKind.i64 b.sd), TV.d (D.int IntKind.i64 b.len), TV.d (D.sl (rws b.rows))])), (Pl.o 1, It.box [TV.d (D.int IntKind.i64 b.r), TV.d (D.int IntKind.i64 b.sd), TV.d (D.int IntKind.i64 b.len), TV.d (D.sl (rws b.rows))]), (Pl.s 1, It.v (TV.ptr (Pl.o 1) 0)), (Pl.o 2, It.box [TV.d (D.int IntKind.i64 0), TV.d (D.int IntKind.i64 0), TV.d (D.int IntKind.i64 0), TV.c (Value.slice none 0 0)]), (Pl.s 2, It.v (TV.ptr (Pl.o 2) 0)), (Pl.s 3, It.v (TV.oref 3 z.1)), (Pl.o 3, It.row 95 2 (dd (rws (b.rows.take z.1))) false), (Pl.s 4, It.v (TV.d (D.int IntKind.i64 z.1)))]) (fun z => b.rows.length - z.1) ⟨0, by omega⟩ ?_ ?_
 ·exact GS.own' (k := 3) 95 2 (by simp) (by simp) (by simp [rws])
 rintro ⟨i, i1⟩
 by_cases hi : i < b.rows.length
 ·have hiz : (i : Int) < b.rows.length := by omega
  have hx : b.rows[i]? = some b.rows[i] := List.getElem?_eq_getElem hi
  have ht : b.rows.take (i + 1) = b.rows.take i ++ [b.rows[i]] := by rw [List.take_add_one, List.getElem?_eq_getElem hi]; rfl
  have hnx := hn b.rows[i] (List.getElem_mem hi)
  generalize b.rows[i] = x at hx ht hnx
  have hx' := rws_get hx
  simp -dsimp [hiz, hx', ints, wrap_i64 (n := (i : Int) + 1) (by omega) (by omega)]
  and_intros
  all_goals try first | rfl | omega | exact ⟨by kernel_rfl⟩ | exact dLen_map 1 _ _ fun _ => rfl
  exact ⟨⟨i + 1, by omega⟩, GS.to (by simp [ht, rws_app, ints]), by simp; omega⟩
 ·have hiz : ¬ (i : Int) < b.rows.length := by omega
  obtain rfl : i = b.rows.length := by omega
  simp -dsimp [hiz]
  refine Fin.of ?_
  simp
theorem gTopA_len (cost tree : Int) (skip : Bool) (b : Int) : ∀ (n : Nat) (a : Int) (T : Tp) (l : List Lk), (gTopA cost tree skip b n a T l).1.length ≤ l.length + n
 | 0, _, _, _ => Nat.le_refl _
 | n + 1, a, T, l => by
   have h1 := gTopA_len cost tree skip b n (a + 1) (gTopS cost tree skip b a T l).2 (gTopS cost tree skip b a T l).1
   have h2 := gTopS_len cost tree skip b a T l
   rw [gTopA]
   omega
theorem gTopB_len (cost : Int) : ∀ (n : Nat) (b : Int) (T : Tp) (l : List Lk), 0 ≤ b → (gTopB cost n b T l).1.length ≤ l.length + n * (b + n).toNat
 | 0, _, _, _, _ => by simp [gTopB]
 | n + 1, b, T, l, hb => by
   have h1 := gTopB_len cost n (b + 1) (gTopR cost b T l).2 (gTopR cost b T l).1 (by omega)
   have h2 : (gTopR cost b T l).1.length ≤ l.length + (b - 1).toNat := gTopA_len _ _ _ _ _ _ _ _
   rw [gTopB]
   have e : (b + 1 + n).toNat = (b + (n + 1 : Nat)).toNat := by omega
   rw [e] at h1
   have h3 : (n + 1) * (b + (n + 1 : Nat)).toNat = n * (b + (n + 1 : Nat)).toNat + (b + (n + 1 : Nat)).toNat := Nat.succ_mul _ _
   omega
theorem ordL_len : ∀ (l out : List Lk), (ordL l out).length = l.length + out.length
 | [], _ => by simp [ordL]
 | x :: l, out => by
   rw [ordL, ordL_len l]
   simp
   omega
theorem gTop_small (T : Tp) {most : Int} (hm : 1 ≤ most ∧ most ≤ 24) : (gTop T most).1.rs.length ≤ 24 ∧ (gTop T most).1.ls.length ≤ 1000 := by
 have b1 := gRange_lo T 1 most
 have b2 := gRange_hi T (a := 1) (b := most) (by omega)
 simp only [gTop, ordL_len]
 generalize gRange T 1 most = R at b1 b2 ⊢
 have h := gTopB_len (gPick R.2 [1, 2, 2, 5]).1 (R.1 + 1 - 2).toNat 2 (gPick R.2 [1, 2, 2, 5]).2 [] (by omega)
 have h1 : (R.1 + 1 - 2).toNat ≤ 23 := by omega
 have h2 : (2 + ((R.1 + 1 - 2).toNat : Int)).toNat ≤ 25 := by omega
 have h3 := Nat.mul_le_mul h1 h2
 simp only [List.length_nil] at h ⊢
 exact ⟨by simp [gRts]; omega, by omega⟩
theorem gMixL_tape : ∀ (l : List Rt) (T : Tp), TapeOK (gMixL l T).2 = TapeOK T
 | [], _ => rfl
 | x :: l, T => by simp [gMixL, gMixL_tape l]
@[simp] theorem gMix_tape (T : Tp) (most : Int) : TapeOK (gMix T most).2 = TapeOK T := by simp [gMix, gMixL_tape]
theorem gPlanS_ok (rs : List Rt) (len x : Int) (T : Tp) (id : Int) (l : List Ed) : TapeOK (gPlanS rs len x T id l).2.2 = TapeOK T ∧ (gPlanS rs len x T id l).1.length ≤ l.length + 1 := by
 unfold gPlanS
 simp only
 split
 ·simp
 ·split <;> simp
theorem gPlanL_ok2 (rs : List Rt) (len : Int) : ∀ (o : List Int) (T : Tp) (id : Int) (l : List Ed), TapeOK (gPlanL rs len o T id l).2.2 = TapeOK T ∧ (gPlanL rs len o T id l).1.length ≤ l.length + o.length
 | [], _, _, _ => ⟨rfl, Nat.le_refl _⟩
 | x :: o, T, id, l => by
   rw [gPlanL]
   obtain ⟨h1, h2⟩ := gPlanS_ok rs len x T id l
   obtain ⟨h3, h4⟩ := gPlanL_ok2 rs len o (gPlanS rs len x T id l).2.2 (gPlanS rs len x T id l).2.1 (gPlanS rs len x T id l).1
   exact ⟨h3.trans h1, by simp only [List.length_cons]; omega⟩
theorem gPlan_zero (T : Tp) (rs : List Rt) : TapeOK (gPlan T rs 0).2 = TapeOK T ∧ (gPlan T rs 0).1.es.length ≤ rs.length := by
 have h := gPlanL_ok2 rs (gPick (gNext T 3).2 [8, 8, 16, 32, 64]).1 (gOrder (gPick (gNext T 3).2 [8, 8, 16, 32, 64]).2 rs.length).1 (gOrder (gPick (gNext T 3).2 [8, 8, 16, 32, 64]).2 rs.length).2 0 []
 simp only [gPlan, gPlan0, Int.lt_irrefl, if_false]
 refine ⟨h.1.trans (by simp), ?_⟩
 have h2 := h.2
 rw [gOrder_len] at h2
 simpa using h2
end Go.Proofs

set_option linter.unusedSimpArgs false
set_option maxRecDepth 100000
set_option maxHeartbeats 2000000
namespace Go.Proofs
open Go Go.Tr
def mixR (l : List Rw) (k : Nat) (y : Rw) (id : Nat) : List (List TV) := dd (rws (l.take k)) ++ [TV.d (.int .i64 y.id), TV.oref id y.nx.length] :: dd (rws (l.drop (k + 1)))
@[simp] theorem only_mix (po : Nat → Prop) (l : List Rw) (k : Nat) (y : Rw) (id : Nat) : rowsOnly po (mixR l k y id) = po id := by simp [mixR, TV.onlys, TV.only]
end Go.Proofs

set_option linter.unusedSimpArgs false
set_option maxRecDepth 100000
set_option maxHeartbeats 2000000
namespace Go.Proofs
open Go Go.Tr
end Go.Proofs

set_option linter.unusedSimpArgs false
set_option maxRecDepth 100000
set_option maxHeartbeats 2000000
namespace Go.Proofs
open Go Go.Tr
end Go.Proofs

set_option linter.unusedSimpArgs false
set_option maxRecDepth 100000
set_option maxHeartbeats 2000000
namespace Go.Proofs
open Go Go.Tr
end Go.Proofs

set_option linter.unusedSimpArgs false
set_option maxRecDepth 100000
set_option maxHeartbeats 2000000
namespace Go.Proofs
open Go Go.Tr
def wrR (r n : Int) (T : Tp) (x : Rw) : Rw × Tp :=
 let o := gOne T 3
 if o.1 = false then (x, o.2) else
 let s := gNext o.2 4
 if s.1 = 0 then (⟨x.id, []⟩, s.2)
 else if s.1 = 1 then (⟨x.id, [r]⟩, s.2)
 else
  let a := gNext s.2 (n + 1)
  let m := gNext a.2 n
  (⟨x.id, if 1 + a.1 < 1 + m.1 ∧ 1 + a.1 ≠ r ∧ 1 + m.1 ≠ r then [1 + a.1, 1 + m.1] else if 1 + a.1 ≠ r then [1 + a.1] else x.nx⟩, m.2)
def wrRs (r n : Int) : List Rw → Tp → List Rw × Tp
 | [], T => ([], T)
 | x :: l, T => ((wrR r n T x).1 :: (wrRs r n l (wrR r n T x).2).1, (wrRs r n l (wrR r n T x).2).2)
def wrT (n : Int) : List Tb → Tp → List Tb × Tp
 | [], T => ([], T)
 | b :: l, T => (⟨b.r, b.sd, b.len, (wrRs b.r n b.rows T).1⟩ :: (wrT n l (wrRs b.r n b.rows T).2).1, (wrT n l (wrRs b.r n b.rows T).2).2)
theorem wrR_tape (r n : Int) (T : Tp) (x : Rw) : TapeOK (wrR r n T x).2 = TapeOK T := by
 unfold wrR
 simp only
 split
 ·simp
 split
 ·simp
 split <;> simp
theorem wrRs_tape (r n : Int) : ∀ (l : List Rw) (T : Tp), TapeOK (wrRs r n l T).2 = TapeOK T
 | [], _ => rfl
 | x :: l, T => by rw [wrRs]; exact (wrRs_tape r n l _).trans (wrR_tape r n T x)
theorem wrT_tape (n : Int) : ∀ (l : List Tb) (T : Tp), TapeOK (wrT n l T).2 = TapeOK T
 | [], _ => rfl
 | b :: l, T => by rw [wrT]; exact (wrT_tape n l _).trans (wrRs_tape b.r n b.rows T)
theorem wrR_len (r n : Int) (T : Tp) (x : Rw) : (wrR r n T x).1.nx.length ≤ x.nx.length + 2 := by
 unfold wrR
 simp only
 split
 ·simp
 split
 ·simp
 split
 ·simp
 ·simp only
  split
  ·simp
  ·split <;> simp
theorem wrRs_len (r n : Int) : ∀ (l : List Rw) (T : Tp), (wrRs r n l T).1.length = l.length
 | [], _ => rfl
 | x :: l, T => by simp [wrRs, wrRs_len r n l]
theorem wrRs_nx (r n : Int) (k : Nat) : ∀ (l : List Rw) (T : Tp), (∀ x ∈ l, x.nx.length ≤ k) → ∀ x ∈ (wrRs r n l T).1, x.nx.length ≤ k + 2
 | [], _, _, x, hx => by simp [wrRs] at hx
 | y :: l, T, h, x, hx => by
   simp only [wrRs, List.mem_cons] at hx
   rcases hx with rfl | hx
   ·have := wrR_len r n T y; have := h y (by simp); omega
   ·exact wrRs_nx r n k l _ (fun z hz => h z (by simp [hz])) x hx
theorem wrT_len (n : Int) : ∀ (l : List Tb) (T : Tp), (wrT n l T).1.length = l.length
 | [], _ => rfl
 | b :: l, T => by simp [wrT, wrT_len n l]
theorem wrT_sm (n : Int) : ∀ (l : List Tb) (T : Tp), (∀ b ∈ l, b.rows.length ≤ 256 ∧ ∀ x ∈ b.rows, x.nx.length ≤ 24) → ∀ b ∈ (wrT n l T).1, b.Sm
 | [], _, _, b, hb => by simp [wrT] at hb
 | c :: l, T, h, b, hb => by
   simp only [wrT, List.mem_cons] at hb
   rcases hb with rfl | hb
   ·have h1 := h c (by simp)
    exact ⟨by simp only [wrRs_len]; omega, fun x hx => by have := wrRs_nx c.r n 24 c.rows T h1.2 x hx; omega⟩
   ·exact wrT_sm n l _ (fun z hz => h z (by simp [hz])) b hb
end Go.Proofs

set_option linter.unusedSimpArgs false
set_option maxRecDepth 100000
set_option maxHeartbeats 2000000
namespace Go.Proofs
open Go Go.Tr
def pathG (l : List Tb) (id p : Int) : Nat → List Int → Int → List Int × Int
 | 0, _, _ => ([], 10)
 | k + 1, pr, r => if r ∈ pr then ([], 10) else match findT l r with
   | none => ([], 4)
   | some b => if hopB b id p = 0 then ([], 9) else if hopB b id p = r then ((pr ++ [r]).tail, 0) else pathG l id p k (pr ++ [r]) (hopB b id p)
def pathV (l : List Tb) (r id p : Int) : List Int × Int :=
 if chkA l ≠ 0 then ([], 1) else if ¬ (0 ≤ p ∧ p ≤ 7) then ([], 2) else pathG l id p (l.length + 1) [] r
def pathT (x : List Int × Int) : TV := .tup [.d (ints x.1), .d (.int .i64 x.2)]
def mpS (pr : List Int) : List (Int × D) := pr.map fun x => (x, D.bool true)
theorem pathG_in {l : List Tb} {id p : Int} {pr : List Int} {w : Int} (h : w ∈ pr) : ∀ k : Nat, pathG l id p k pr w = ([], 10)
 | 0 => rfl
 | k + 1 => by rw [pathG, if_pos h]
theorem mget_mp (k : Int) : ∀ pr : List Int, mget (mpS pr) k = if k ∈ pr then some (.bool true) else none
 | [] => rfl
 | x :: pr => by
   have ih := mget_mp k pr
   simp only [mpS] at ih
   simp only [mpS, List.map_cons, mget, ih, List.mem_cons]
   by_cases e : k = x
   ·simp [e]
   ·simp [e]
theorem mput_mp (k : Int) : ∀ pr : List Int, k ∉ pr → mput (mpS pr) k (.bool true) = mpS (pr ++ [k])
 | [], _ => rfl
 | x :: pr, h => by
   simp only [List.mem_cons, not_or] at h
   have ih := mput_mp k pr h.2
   simp only [mpS] at ih
   simp only [mpS, List.map_cons, List.cons_append, mput, ih, if_neg h.1]
theorem findT_mem {l : List Tb} {r : Int} {b : Tb} (h : findT l r = some b) : b ∈ l ∧ b.r = r := ⟨List.mem_of_find?_eq_some h, by simpa using List.find?_some h⟩
theorem chkA_all {l : List Tb} (h : chkA l = 0) : ∀ b ∈ l, chk b = 0 := fun b hb => by
 have := firstE_zero (l := _) (by simp) h
 simp only [List.mem_cons, List.not_mem_nil, or_false, forall_eq_or_imp, forall_eq] at this
 have h2 := List.any_eq_false.1 this.2.1 b hb
 simpa using h2
theorem path_n {l : List Tb} {pr : List Int} (h : pr.Nodup) (hf : ∀ x ∈ pr, (findT l x).isSome) : pr.length ≤ l.length := by
 have := nodup_le (m := l.map (·.r)) h fun x hx => by
  obtain ⟨b, hb⟩ := Option.isSome_iff_exists.1 (hf x hx)
  obtain ⟨h1, h2⟩ := findT_mem hb
  exact List.mem_map.2 ⟨b, h1, h2⟩
 simpa using this
theorem nextV_hop {b : Tb} {id p : Int} (hc : chk b = 0) (hp : 0 ≤ p ∧ p ≤ 7) : nextV b id p = hopB b id p := by
 rw [nextV, if_pos (valB_iff.2 ⟨hc, hp, by omega⟩)]
theorem path_c (l : List Tb) (hl : SmL l) (r id p : Int) : Contract Tryz.prog 94 [.d (.sl (tbs l)), .d (.int .i64 r), .d (.int .i64 id), .d (.int .i64 p)] [] (pathT (pathV l r id p)) [] [] := by
 have hn := hl.n
 refine contract_of Tryz.func94 rfl (fun E0 => ?_)
 refine awp.sound (g := .mk) (ow := []) (kp := (fun k => k==0||k==1||k==2||k==3||k==8||k==9||k==10||k==11||k==12||k==13||k==14||k==15||k==16||k==20||k==31||k==41||k==46||k==47||k==49)) ?_
 rw [Tryz.ntmps94]
 simp -dsimp
 refine ACall.of (checkA_c l hl) [] 0 ?_
 by_cases hA : ¬ chkA l = 0
 ·simp -dsimp [eq_false hA]
  refine Fin.view 8 ?_
  simp -dsimp
  refine Fin.of ?_
  simp [pathV, hA, pathT, ints]
 replace hA : chkA l = 0 := Classical.not_not.1 hA
 by_cases p1 : p < 0
 ·simp -dsimp [eq_true hA, p1]
  and_intros
  all_goals try first | rfl | omega | exact ⟨by kernel_rfl⟩
  refine Fin.view 8 ?_
  simp -dsimp
  refine Fin.of ?_
  have : ¬ (0 ≤ p ∧ p ≤ 7) := by omega
  simp only [pathV, hA, pathT, ints]; simp [this]
 by_cases p2 : 8 ≤ p
 ·simp -dsimp [eq_true hA, p1, p2]
  and_intros
  all_goals try first | rfl | omega | exact ⟨by kernel_rfl⟩
  refine Fin.view 8 ?_
  simp -dsimp
  refine Fin.of ?_
  have : ¬ (0 ≤ p ∧ p ≤ 7) := by omega
  simp only [pathV, hA, pathT, ints]; simp [this]
 have hV : pathV l r id p = pathG l id p (l.length + 1) [] r := by rw [pathV, if_neg (by simp [hA]), if_neg (by omega)]
 simp -dsimp [eq_true hA, p1, p2]
 rw [hV]
 have hch := chkA_all hA
 refine ALoop.of [] (fun k => k==0||k==1||k==2||k==3||k==8||k==9||k==10||k==11||k==12||k==13||k==14||k==15||k==16||k==20||k==31||k==41||k==46||k==47||k==49) (ι := { z : List Int × Int // z.1.Nodup ∧ (∀ x ∈ z.1, (findT l x).isSome) ∧ pathG l id p (l.length + 1) [] r = pathG l id p (l.length + 1 - z.1.length) z.1 z.2 })
  (fun z => [(Pl.s 0, It.v (TV.d (D.sl (tbs l)))), (Pl.s 1, It.v (TV.d (D.int IntKind.i64 r))), (Pl.s 2, It.v (TV.d (D.int IntKind.i64 id))), (Pl.s 3, It.v (TV.d (D.int IntKind.i64 p))), (Pl.s 8, It.v (TV.c (Value.slice none 0 0))), (Pl.s 9, It.v (TV.d (D.int IntKind.i64 0))), (Pl.s 10, It.v (TV.oref 10 z.1.1.length)), (Pl.o 10, It.row 3 1 (dd (nrow .i64 (z.1.1 ++ [z.1.2]).tail)) false), (Pl.o 27, It.mp (mpS z.1.1)), (Pl.s 11, It.v (TV.mref 27)), (Pl.s 12, It.v (TV.d (D.int IntKind.i64 z.1.2)))]) (fun z => l.length + 1 - z.1.1.length) ⟨([], r), by simp, by simp, rfl⟩ ?_ ?_
 ·exact GS.own' (k := 10) 3 1 (by simp) (by simp) (by simp [nrow, mpS])
 generalize pathG l id p (l.length + 1) [] r = G
 rintro ⟨⟨pr, at_⟩, i1, i2, i3⟩
 simp only at i1 i2 i3
 have hpl := path_n i1 i2
 rw [show l.length + 1 - pr.length = (l.length - pr.length) + 1 by omega, pathG] at i3
 have hmg := mget_mp at_ pr
 have htl : (pr ++ [at_]).tail.length = pr.length := by simp
 by_cases hin : at_ ∈ pr
 ·rw [if_pos hin] at i3 hmg
  simp -dsimp [hmg]
  refine Fin.view 8 ?_
  simp -dsimp
  refine Fin.of ?_
  simp [i3, pathT, ints]
 rw [if_neg hin] at i3 hmg
 have hmp := mput_mp at_ pr hin
 simp -dsimp [hmg, hmp]
 and_intros
 all_goals try first | rfl | omega | exact ⟨by kernel_rfl⟩
 refine ACall.of (find_c l hl at_) [] 0 ?_
 cases hf : findT l at_ with
 | none =>
   simp only [hf] at i3
   simp -dsimp [foundT, tb0, tblT, rwsD_eq, rws]
   refine Fin.view 8 ?_
   simp -dsimp
   refine Fin.of ?_
   simp [i3, pathT, ints]
 | some b =>
   simp only [hf] at i3
   obtain ⟨hbm, hbr⟩ := findT_mem hf
   have hbs := hl.t b hbm
   have hv := nextV_hop (id := id) (hch b hbm) (p := p) ⟨by omega, by omega⟩
   simp -dsimp [foundT, tblT, rwsD_eq]
   refine ACall.of (mnext_c b hbs id p) [] 0 ?_
   rw [hv]
   generalize hopB b id p = w at i3 ⊢
   have hnt : (nrow .i64 (pr ++ [at_]).tail).length = pr.length := by simp [nrow]
   by_cases w0 : w = 0
   ·rw [if_pos w0] at i3
    simp -dsimp [foundT, tblT, rwsD_eq, eq_true w0]
    and_intros
    all_goals try first | rfl | omega | exact ⟨by kernel_rfl⟩
    refine Fin.view 8 ?_
    simp -dsimp
    refine Fin.of ?_
    simp [i3, pathT, ints]
   rw [if_neg w0] at i3
   by_cases w1 : w = at_
   ·rw [if_pos w1] at i3
    simp -dsimp [foundT, tblT, rwsD_eq, eq_false w0, eq_true w1]
    and_intros
    all_goals try first | rfl | omega | exact ⟨by kernel_rfl⟩
    refine Fin.view 8 ?_
    simp -dsimp [hnt]
    refine Fin.of ?_
    simp [i3, pathT, ints, nrow]
   rw [if_neg w1] at i3
   have ht2 : (pr ++ [at_] ++ [w]).tail = (pr ++ [at_]).tail ++ [w] := by
    rw [List.tail_append_of_ne_nil (by simp)]
   have hnod : (pr ++ [at_]).Nodup := by
    rw [List.nodup_append]
    exact ⟨i1, by simp, fun a ha b hb e => by simp at hb; subst hb; subst e; exact hin ha⟩
   have hfd : ∀ x ∈ pr ++ [at_], (findT l x).isSome := fun x hx => by
    rcases List.mem_append.1 hx with hx | hx
    ·exact i2 x hx
    ·simp at hx; subst hx; simp [hf]
   have hpl2 := path_n hnod hfd
   have hk : l.length - pr.length = l.length + 1 - (pr ++ [at_]).length := by simp
   rw [hk] at i3
   simp -dsimp [foundT, tblT, rwsD_eq, eq_false w0, eq_false w1, hnt]
   and_intros
   all_goals try first | rfl | omega | exact ⟨by kernel_rfl⟩
   exact ⟨⟨(pr ++ [at_], w), hnod, hfd, i3⟩, GS.to (by simp only [ht2]; simp [nrow]), by simp at hpl2 ⊢; omega⟩
theorem path14_c (l : List Tb) (hl : SmL l) (r id p : Int) : Contract Tryz.prog 16 [.d (.sl (tbs l)), .d (.int .i64 r), .d (.int .i64 id), .d (.int .i64 p)] [] (pathT (pathV l r id p)) [] [] := by
 have hn := hl.n
 refine contract_of Tryz.func16 rfl (fun E0 => ?_)
 refine awp.sound (g := .mk) (ow := [25]) (kp := (fun k => k==0||k==1||k==2||k==3||k==8||k==9||k==10||k==11||k==12||k==13||k==14||k==17||k==23||k==39||k==45||k==48||k==53)) ?_
 rw [Tryz.ntmps16]
 simp -dsimp
 refine ACall.of (checkA11_c l hl) [] 0 ?_
 by_cases hA : ¬ chkA l = 0
 ·simp -dsimp [eq_false hA]
  refine Fin.view 8 ?_
  simp -dsimp
  refine Fin.of ?_
  simp [pathV, hA, pathT, ints]
 replace hA : chkA l = 0 := Classical.not_not.1 hA
 by_cases p1 : p < 0
 ·simp -dsimp [eq_true hA, p1]
  and_intros
  all_goals try first | rfl | omega | exact ⟨by kernel_rfl⟩
  refine Fin.view 8 ?_
  simp -dsimp
  refine Fin.of ?_
  have : ¬ (0 ≤ p ∧ p ≤ 7) := by omega
  simp only [pathV, hA, pathT, ints]; simp [this]
 by_cases p2 : 8 ≤ p
 ·simp -dsimp [eq_true hA, p1, p2]
  and_intros
  all_goals try first | rfl | omega | exact ⟨by kernel_rfl⟩
  refine Fin.view 8 ?_
  simp -dsimp
  refine Fin.of ?_
  have : ¬ (0 ≤ p ∧ p ≤ 7) := by omega
  simp only [pathV, hA, pathT, ints]; simp [this]
 have hV : pathV l r id p = pathG l id p (l.length + 1) [] r := by rw [pathV, if_neg (by simp [hA]), if_neg (by omega)]
 simp -dsimp [eq_true hA, p1, p2]
 rw [hV]
 have hch := chkA_all hA
 refine ALoop.of [25] (fun k => k==0||k==1||k==2||k==3||k==8||k==9||k==10||k==11||k==12||k==13||k==14||k==17||k==23||k==39||k==45||k==48||k==53) (ι := { z : (List Int × Int) × Bool // z.1.1.Nodup ∧ z.1.2 ∉ z.1.1 ∧ (∀ x ∈ z.1.1, (findT l x).isSome) ∧ pathG l id p (l.length + 1) [] r = pathG l id p (l.length + 1 - z.1.1.length) z.1.1 z.1.2 })
  (fun z => [(Pl.s 0, It.v (TV.d (D.sl (tbs l)))), (Pl.s 1, It.v (TV.d (D.int IntKind.i64 r))), (Pl.s 2, It.v (TV.d (D.int IntKind.i64 id))), (Pl.s 3, It.v (TV.d (D.int IntKind.i64 p))), (Pl.s 8, It.v (TV.c (Value.slice none 0 0))), (Pl.s 9, It.v (TV.d (D.int IntKind.i64 0))), (Pl.s 10, It.v (TV.oref 25 (z.1.1.1.length + 1))), (Pl.o 25, It.row 3 1 (dd (nrow .i64 (z.1.1.1 ++ [z.1.1.2]))) z.1.2)]) (fun z => l.length + 1 - z.1.1.1.length) ⟨(([], r), false), by simp, by simp, by simp, rfl⟩ ?_ ?_
 ·exact GS.to (by simp [nrow])
 generalize pathG l id p (l.length + 1) [] r = G
 rintro ⟨⟨⟨pr, at_⟩, sh⟩, i1, i0, i2, i3⟩
 simp only at i1 i0 i2 i3
 have hpl := path_n i1 i2
 rw [show l.length + 1 - pr.length = (l.length - pr.length) + 1 by omega, pathG, if_neg i0] at i3
 have hnt : (nrow .i64 (pr ++ [at_])).length = pr.length + 1 := by simp [nrow]
 have hgr : (dd (nrow .i64 (pr ++ [at_])))[pr.length]? = some [TV.d (.int .i64 at_)] := by simp [dd, nrow]
 have hgl : (dd (nrow .i64 (pr ++ [at_]))).getD pr.length [] = [TV.d (.int .i64 at_)] := by rw [List.getD_eq_getElem?_getD, hgr]; rfl
 have hi1 : ((pr.length : Int) + 1 - 1).toNat = pr.length := by omega
 have hdl : (dd (nrow .i64 (pr ++ [at_]))).length = pr.length + 1 := by simp [nrow]
 have hge : ∀ h : pr.length < (dd (nrow .i64 (pr ++ [at_]))).length, (dd (nrow .i64 (pr ++ [at_])))[pr.length]'h = [TV.d (.int .i64 at_)] := fun h => by
  rw [List.getElem?_eq_getElem h] at hgr; exact Option.some.inj hgr
 have hd1 : dLen 1 (nrow .i64 (pr ++ [at_])) := dLen_map 1 _ _ fun _ => rfl
 generalize hN : nrow .i64 (pr ++ [at_]) = N at hd1 hnt hgr hgl hdl hge
 have hwl : IntKind.i64.wrap (pr.length : Int) = pr.length := wrap_i64 (by omega) (by omega)
 simp -dsimp [hnt, hgr, hgl, hge, hdl, hwl]
 and_intros
 all_goals try first | rfl | omega | exact ⟨by kernel_rfl⟩
 refine ACall.of (find11_c l hl at_) [] 0 ?_
 cases hf : findT l at_ with
 | none =>
   simp only [hf] at i3
   simp -dsimp [foundT, tb0, tblT, rwsD_eq, rws]
   refine Fin.view 8 ?_
   simp -dsimp
   refine Fin.of ?_
   simp [i3, pathT, ints]
 | some b =>
   simp only [hf] at i3
   obtain ⟨hbm, hbr⟩ := findT_mem hf
   have hbs := hl.t b hbm
   simp -dsimp [foundT, tblT, rwsD_eq]
   refine ACall.of (hop12_c b hbs id p ⟨by omega, by omega⟩) [] 0 ?_
   generalize hopB b id p = w at i3 ⊢
   by_cases w0 : w = 0
   ·rw [if_pos w0] at i3
    simp -dsimp [foundT, tblT, rwsD_eq, eq_true w0]
    and_intros
    all_goals try first | rfl | omega | exact ⟨by kernel_rfl⟩
    refine Fin.view 8 ?_
    simp -dsimp
    refine Fin.of ?_
    simp [i3, pathT, ints]
   rw [if_neg w0] at i3
   by_cases w1 : w = at_
   ·rw [if_pos w1] at i3
    simp -dsimp [foundT, tblT, rwsD_eq, eq_false w0, eq_true w1, hnt, hdl]
    and_intros
    all_goals try first | rfl | omega | exact ⟨by kernel_rfl⟩ | exact hd1
    refine Fin.of ?_
    have e : (N.take (pr.length + 1)).tail = nrow .i64 (pr ++ [at_]).tail := by
     rw [List.take_of_length_le (by omega), ← hN]; simp [nrow]
    simp [i3, pathT, ints, e]
    simp [nrow]
   rw [if_neg w1] at i3
   have hnod : (pr ++ [at_]).Nodup := by
    rw [List.nodup_append]
    exact ⟨i1, by simp, fun a ha b hb e => by simp at hb; subst hb; subst e; exact i0 ha⟩
   have hfd : ∀ x ∈ pr ++ [at_], (findT l x).isSome := fun x hx => by
    rcases List.mem_append.1 hx with hx | hx
    ·exact i2 x hx
    ·simp at hx; subst hx; simp [hf]
   have hpl2 := path_n hnod hfd
   have hk : l.length - pr.length = l.length + 1 - (pr ++ [at_]).length := by simp
   have hh := has04_c (pr ++ [at_]) (by simp; omega) w
   have hNi : ints (pr ++ [at_]) = .sl N := by rw [← hN]; rfl
   rw [hNi] at hh
   simp -dsimp [foundT, tblT, rwsD_eq, eq_false w0, eq_false w1, hnt, hdl]
   and_intros
   all_goals try first | rfl | omega | exact ⟨by kernel_rfl⟩
   refine ACall.of hh [] 0 ?_
   by_cases hin : w ∈ pr ++ [at_]
   ·have hI : hasI (pr ++ [at_]) w = true := by simpa [hasI] using hin
    rw [hI]
    rw [pathG_in hin] at i3
    simp -dsimp [hnt, hdl]
    and_intros
    all_goals try first | rfl | omega | exact ⟨by kernel_rfl⟩
    refine Fin.view 8 ?_
    simp -dsimp
    refine Fin.of ?_
    simp [i3, pathT, ints]
   ·have hI : hasI (pr ++ [at_]) w = false := by simpa [hasI] using hin
    rw [hI]
    rw [hk] at i3
    simp -dsimp [hnt, hdl]
    and_intros
    all_goals try first | rfl | omega | exact ⟨by kernel_rfl⟩
    exact ⟨⟨((pr ++ [at_], w), true), hnod, hin, hfd, i3⟩, GS.to (by simp [← hN, nrow]), by simp at hpl2 ⊢; omega⟩
end Go.Proofs

set_option linter.unusedSimpArgs false
set_option maxRecDepth 100000
set_option maxHeartbeats 2000000
namespace Go.Proofs
open Go Go.Tr
theorem pathG_len (l : List Tb) (id p : Int) : ∀ (k : Nat) (pr : List Int) (r : Int), (pathG l id p k pr r).1.length ≤ pr.length + k
 | 0, _, _ => by simp [pathG]
 | k + 1, pr, r => by
   rw [pathG]
   split
   ·simp
   ·split
    ·simp
    ·split
     ·simp
     ·split
      ·simp
      ·refine Nat.le_trans (pathG_len l id p k (pr ++ [r]) _) ?_
       simp
       omega
theorem pathV_len (l : List Tb) (r id p : Int) : (pathV l r id p).1.length ≤ l.length + 1 := by
 unfold pathV
 split
 ·simp
 ·split
  ·simp
  ·have := pathG_len l id p (l.length + 1) [] r
   simpa using this
def gRouter (T : Tp) (rs : List Rt) (n : Int) : Int × Tp :=
 let o := gOne T n
 if o.1 = true then gPick o.2 [0, 1, 2, 7, 77, -1] else ((rs.getD (gNext o.2 rs.length).1.toNat ⟨0, false⟩).id, (gNext o.2 rs.length).2)
theorem router_c (T : Tp) (hT : TapeOK T) (rs : List Rt) (ls : List Lk) (hr : 1 ≤ rs.length ∧ rs.length ≤ 1000) (n : Int) (hn : 1 ≤ n ∧ n ≤ 1000) : Contract Tryz.prog 41 [.ptr (.x 0) 0, .agg [.d (.sl (rts rs)), .d (.sl (lks ls))], .d (.int .i64 n)] [tapeI T] (.d (.int .i64 (gRouter T rs n).1)) [tapeI (gRouter T rs n).2] [] := by
 have hn0 : 0 < n := by omega
 have hr0 : ¬ rs.length = 0 := by omega
 have hrn : ¬ rs = [] := fun h => by simp [h] at hr0
 refine contract_of Tryz.func41 rfl (fun E0 => ?_)
 refine awp.sound (g := .mk) (ow := []) (kp := (fun k => k==0||k==1||k==2||k==4||k==6||k==19)) ?_
 rw [Tryz.ntmps41]
 simp -dsimp [hn0]
 refine ACall.of (one_c T hT n ⟨by omega, by omega⟩ ⟨by omega, by omega⟩) [.x 0] 0 ?_
 have kO : TapeOK (gOne T n).2 := by simpa using hT
 unfold gRouter
 generalize gOne T n = o at kO ⊢
 rcases (Bool.eq_false_or_eq_true o.1).symm with ho | ho
 ·simp only [ho]
  simp -dsimp [hn0, ho, hrn]
  refine ACall.of (next_c o.2 kO rs.length ⟨by omega, by omega⟩) [.x 0] 0 ?_
  have m1 := gNext_nonneg o.2 rs.length
  have m2 := gNext_lt o.2 (n := rs.length) (by omega)
  generalize gNext o.2 rs.length = q at m1 m2 ⊢
  obtain ⟨k, hk⟩ : ∃ k : Nat, q.1 = k := ⟨q.1.toNat, by omega⟩
  have hkl : k < rs.length := by omega
  have hx : rs[k]? = some rs[k] := List.getElem?_eq_getElem hkl
  generalize rs[k] = x at hx
  have hx' := rts_get hx
  rw [hk]
  simp -dsimp [hx', Rt.cs]
  and_intros
  all_goals try first | rfl | omega | exact ⟨by kernel_rfl⟩
  refine Fin.of ?_
  simp [hx, ho]
 ·simp only [ho]
  simp -dsimp [hn0, ho, hrn]
  refine ACall.of (pick_c o.2 kO [0, 1, 2, 7, 77, -1] (by simp) (by simp)) [.x 0] 0 ?_
  simp -dsimp [ints]
  refine Fin.of ?_
  simp [ho]
noncomputable def gDom (T : Tp) (most : Int) : Topo × Pn × List Tb × Tp :=
 let g := gTop T most
 let p := gPlan g.2 g.1.rs 0
 (g.1, p.1, (all11 g.1 p.1).1, p.2)
end Go.Proofs

set_option linter.unusedSimpArgs false
namespace Go.Proofs
open Go Go.Tr
structure Trc where
 dl : List (Int × Pk)
 cr : List (Int × Int × BitVec 64)
 ls : List (Int × BitVec 64)
def tr0 : Trc := ⟨[], [], []⟩
def nextQ (l : List Tb) (q : Int × Pk) : List (Int × Pk) :=
 match findT l q.1 with
 | none => []
 | some b => (fwdR b q.2).1.cps
def stepT (l : List Tb) (q : Int × Pk) (t : Trc) : Trc :=
 match findT l q.1 with
 | none => ⟨t.dl, t.cr, t.ls ++ [(q.1, q.2.bits)]⟩
 | some b => ⟨t.dl ++ locV q.1 (fwdR b q.2).1 q.2, t.cr ++ (fwdR b q.2).1.cps.map (fun c => (q.1, c.1, c.2.bits)), if (fwdR b q.2).1.lost = 0#64 then t.ls else t.ls ++ [(q.1, (fwdR b q.2).1.lost)]⟩
def runG (l : List Tb) : Nat → List (Int × Pk) → Trc → Trc
 | 0, _, t => t
 | _ + 1, [], t => t
 | n + 1, q :: qs, t => runG l n (qs ++ nextQ l q) (stepT l q t)
def pc (B : BitVec 64) : Nat := (bitsL B).length
def wt (p : Pk) : Nat := pc p.bits * (2 * p.ttl.toNat + 1) + 1
def wsum (l : List (Int × Pk)) : Nat := (l.map fun c => wt c.2).sum
def runR (l : List Tb) (p : Pk) (r : Int) : Trc × Int :=
 if chkA l ≠ 0 ∨ p.ok = false then (tr0, 1) else match findT l r with
  | none => (tr0, 4)
  | some b => if p.mode = 2 then (tr0, 7) else if p.subd ≠ b.sd ∨ p.len ≠ b.len then (tr0, 8) else (runG l (wt p) [(r, p)] tr0, 0)
theorem wsum_app (a b : List (Int × Pk)) : wsum (a ++ b) = wsum a + wsum b := by simp [wsum]
theorem wsum_cons (q : Int × Pk) (b : List (Int × Pk)) : wsum (q :: b) = wt q.2 + wsum b := by simp [wsum]
theorem len_wsum : ∀ l : List (Int × Pk), l.length ≤ wsum l
 | [] => by simp
 | q :: l => by
   have := len_wsum l
   rw [wsum_cons, List.length_cons]
   unfold wt; omega
theorem filter_split {α : Type} (p : α → Bool) : ∀ l : List α, (l.filter p).length + (l.filter fun x => !p x).length = l.length
 | [] => rfl
 | x :: l => by
   have := filter_split p l
   rw [List.filter_cons, List.filter_cons]
   cases h : p x <;> simp <;> omega
theorem bitsL_and (R M : BitVec 64) : bitsL (R &&& M) = (bitsL R).filter fun i => M.getLsbD i := by
 unfold bitsL
 rw [List.filter_filter]
 apply List.filter_congr
 intro i _
 rw [BitVec.getLsbD_and, Bool.and_comm]
theorem bitsL_andNot (R M : BitVec 64) : bitsL (R &&& ~~~ M) = (bitsL R).filter fun i => !M.getLsbD i := by
 unfold bitsL
 rw [List.filter_filter]
 apply List.filter_congr
 intro i hi
 have : i < 64 := by simpa using hi
 rw [BitVec.getLsbD_and, BitVec.getLsbD_not]
 simp [this, Bool.and_comm]
theorem pc_split (R M : BitVec 64) : pc (R &&& M) + pc (R &&& ~~~ M) = pc R := by
 unfold pc
 rw [bitsL_and, bitsL_andNot]
 exact filter_split (fun i => M.getLsbD i) (bitsL R)
theorem pc_le (B : BitVec 64) : pc B ≤ 64 := bitsL_len B
theorem pc_pos {B : BitVec 64} (h : B ≠ 0#64) : 1 ≤ pc B := by
 unfold pc
 rcases Nat.eq_zero_or_pos (bitsL B).length with h0 | h0
 ·exact absurd (pop_zero h0) h
 ·exact h0
theorem wt_copy {p : Pk} {R M : BitVec 64} (h : (pkmR (p.setB R) M).2 = true) : wt (pkmR (p.setB R) M).1 ≤ pc (R &&& M) * (2 * p.ttl.toNat) := by
 unfold pkmR at h ⊢
 split at h
 ·rename_i hc
  obtain ⟨h1, h2, h3⟩ := hc
  rw [if_pos ⟨h1, h2, h3⟩]
  have hp := pc_pos h3
  have ht := ok_ttl h1
  simp only [Pk.setB] at hp h2 ht
  have ht1 : (p.ttl - 1).toNat = p.ttl.toNat - 1 := by omega
  have ht2 : 1 ≤ p.ttl.toNat := by omega
  simp only [wt, pkMask, Pk.setB, ht1]
  obtain ⟨T, hT⟩ : ∃ T, p.ttl.toNat = T + 1 := ⟨p.ttl.toNat - 1, by omega⟩
  rw [hT, show T + 1 - 1 = T by omega, show 2 * (T + 1) = (2 * T + 1) + 1 by omega, Nat.mul_add _ (2 * T + 1) 1]
  omega
 ·simp at h
theorem fwdG_wt (b : Tb) (p : Pk) : ∀ (n : Nat) (o : Out) (R : BitVec 64), wsum (fwdG b p n o R).cps ≤ wsum o.cps + pc R * (2 * p.ttl.toNat)
 | 0, o, R => by simp [fwdG]
 | n + 1, o, R => by
   rw [fwdG]
   split
   ·omega
   ·have ih := fwdG_wt b p n (fwdO b p o R) (R &&& ~~~ fwdM b p R)
    refine Nat.le_trans ih ?_
    have hs := pc_split R (fwdM b p R)
    have hm : pc (R &&& ~~~ fwdM b p R) * (2 * p.ttl.toNat) + pc (R &&& fwdM b p R) * (2 * p.ttl.toNat) = pc R * (2 * p.ttl.toNat) := by
     rw [← Nat.add_mul]; congr 1; omega
    by_cases c0 : hopAt b p (tz R) = 0
    ·have eO : (fwdO b p o R).cps = o.cps := by rw [fwdO, if_pos c0]
     rw [eO]; omega
    by_cases c1 : hopAt b p (tz R) = b.r
    ·have eO : (fwdO b p o R).cps = o.cps := by rw [fwdO, if_neg c0, if_pos c1]
     rw [eO]; omega
    have eM : fwdM b p R = togR b p R (hopAt b p (tz R)) := by rw [fwdM, if_neg (fun h => h.elim c0 c1)]
    by_cases c2 : (pkmR (p.setB R) (togR b p R (hopAt b p (tz R)))).2 = true
    ·have eO : (fwdO b p o R).cps = o.cps ++ [(hopAt b p (tz R), (pkmR (p.setB R) (togR b p R (hopAt b p (tz R)))).1)] := by
      rw [fwdO, if_neg c0, if_neg c1, if_pos c2]
     have hw := wt_copy c2
     rw [← eM] at hw
     rw [eO, wsum_app, wsum_cons, ← eM]
     simp only [wsum, List.map_nil, List.sum_nil] at *
     omega
    ·have eO : (fwdO b p o R).cps = o.cps := by rw [fwdO, if_neg c0, if_neg c1, if_neg c2]
     rw [eO]; omega
theorem nextQ_wt (l : List Tb) (q : Int × Pk) : wsum (nextQ l q) + 1 ≤ wt q.2 := by
 have h0 : 1 ≤ wt q.2 := by unfold wt; omega
 unfold nextQ
 split
 ·simpa [wsum] using h0
 ·rename_i b _
  unfold fwdR
  split
  ·simpa [wsum, out0] using h0
  split
  ·simpa [wsum, out0] using h0
  split
  ·simpa [wsum, out0] using h0
  have h := fwdG_wt b q.2 64 out0 q.2.bits
  have e0 : wsum out0.cps = 0 := rfl
  simp only [fwdV]
  unfold wt
  rw [Nat.mul_add]
  omega
theorem wt_le {p : Pk} (h : p.ok = true) : wt p ≤ 8129 := by
 have h1 := ok_ttl h
 have h2 := pc_le p.bits
 unfold wt
 have h3 : 2 * p.ttl.toNat + 1 ≤ 127 := by omega
 have := Nat.mul_le_mul h2 h3
 omega
theorem runG_nil (l : List Tb) (n : Nat) (t : Trc) : runG l n [] t = t := by cases n <;> rfl
theorem fwdG_len (b : Tb) (p : Pk) : ∀ (n : Nat) (o : Out) (R : BitVec 64), (fwdG b p n o R).cps.length ≤ o.cps.length + n
 | 0, o, R => by simp [fwdG]
 | n + 1, o, R => by
   rw [fwdG]
   split
   ·omega
   ·have ih := fwdG_len b p n (fwdO b p o R) (R &&& ~~~ fwdM b p R)
    have : (fwdO b p o R).cps.length ≤ o.cps.length + 1 := by
     unfold fwdO
     split
     ·simp
     split
     ·simp
     split <;> simp
    omega
theorem fwdR_len (b : Tb) (p : Pk) : (fwdR b p).1.cps.length ≤ 64 := by
 unfold fwdR
 split
 ·simp [out0]
 split
 ·simp [out0]
 split
 ·simp [out0]
 have := fwdG_len b p 64 out0 p.bits
 simpa [fwdV, out0] using this
end Go.Proofs

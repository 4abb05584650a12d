/-
  What functions of the program compute, stated as contracts over plain data; the conditions of each stand in its own statement.
-/
import Derived.Test.YtjgeggdefiejbaaGreatDoorZM20
set_option linter.unusedSimpArgs false
set_option maxRecDepth 100000
set_option maxHeartbeats 4000000
namespace Go.Proofs
open Go Go.Tr
structure Tb.Sm (b : Tb) : Prop where
 rows : b.rows.length ≤ 1000000
 nx : ∀ x ∈ b.rows, x.nx.length ≤ 1000000
def hopB (b : Tb) (id p : Int) : Int := hopR ((rowOf b id).getD ⟨0, []⟩) p
theorem rowOf_len {b : Tb} (hb : b.Sm) (id : Int) : ((rowOf b id).getD ⟨0, []⟩).nx.length ≤ 1000000 := by
 unfold rowOf
 cases h : b.rows.find? (fun x => decide (x.id = id)) with
 | none => simp
 | some x => exact hb.nx x (List.mem_of_find?_eq_some h)
def valB (b : Tb) (p s : Int) : Bool := decide (chk b = 0) && (inB p 0 7 && inB s 0 31)
theorem mvalid_c (b : Tb) (hb : b.Sm) (p s : Int) : Contract Tryz.prog 177 [tblT b, .d (.int .i64 p), .d (.int .i64 s)] [] (.d (.bool (valB b p s))) [] [] := by
 refine contract_of Tryz.func177 rfl (fun E0 => ?_)
 refine awp.sound (g := .mk) (ow := []) (kp := (fun k => k==0||k==1||k==2||k==3||k==6)) ?_
 rw [Tryz.ntmps177]
 simp -dsimp [tblT]
 refine ACall.of (tcheck_c b hb.rows hb.nx) [] 0 ?_
 by_cases h0 : chk b = 0
 ·by_cases h1 : 0 ≤ p
  ·by_cases h2 : p < 8
   ·by_cases h3 : 0 ≤ s
    ·simp -dsimp [tblT, h0, h1, h2, h3]
     and_intros
     all_goals try first | rfl | omega | exact ⟨by kernel_rfl⟩
     refine Fin.of ?_
     simp [valB, inB, h0, h1, h3]
     omega
    ·simp -dsimp [tblT, h0, h1, h2, h3]
     and_intros
     all_goals try first | rfl | omega | exact ⟨by kernel_rfl⟩
     refine Fin.of ?_
     simp [valB, inB, h0, h1, h3]
   ·simp -dsimp [tblT, h0, h1, h2]
    and_intros
    all_goals try first | rfl | omega | exact ⟨by kernel_rfl⟩
    refine Fin.of ?_
    have h2' : ¬ p ≤ 7 := by omega
    simp [valB, inB, h0, h1, h2']
  ·simp -dsimp [tblT, h0, h1]
   and_intros
   all_goals try first | rfl | omega | exact ⟨by kernel_rfl⟩
   refine Fin.of ?_
   simp [valB, inB, h0, h1]
 ·simp -dsimp [tblT, h0]
  and_intros
  all_goals try first | rfl | omega | exact ⟨by kernel_rfl⟩
  refine Fin.of ?_
  simp [valB, h0]
theorem valB_iff {b : Tb} {p s : Int} : valB b p s = true ↔ chk b = 0 ∧ (0 ≤ p ∧ p ≤ 7) ∧ 0 ≤ s ∧ s ≤ 31 := by simp [valB, inB]
def nextV (b : Tb) (id p : Int) : Int := if valB b p 0 = true then hopB b id p else 0
theorem mnext_c (b : Tb) (hb : b.Sm) (id p : Int) : Contract Tryz.prog 139 [tblT b, .d (.int .i64 id), .d (.int .i64 p)] [] (.d (.int .i64 (nextV b id p))) [] [] := by
 refine contract_of Tryz.func139 rfl (fun E0 => ?_)
 refine awp.sound (g := .mk) (ow := []) (kp := (fun k => k==0||k==1||k==2||k==3||k==6||k==7||k==12)) ?_
 rw [Tryz.ntmps139]
 simp -dsimp [tblT]
 refine ACall.of (mvalid_c b hb p 0) [] 0 ?_
 rcases (Bool.eq_false_or_eq_true (valB b p 0)).symm with h | h
 ·simp -dsimp [tblT, h]
  and_intros
  all_goals try first | rfl | omega | exact ⟨by kernel_rfl⟩
  refine Fin.of ?_
  simp [nextV, h]
 ·simp -dsimp [tblT, h]
  and_intros
  all_goals try first | rfl | omega | exact ⟨by kernel_rfl⟩
  refine ACall.of (trow_c b hb.rows hb.nx id) [] 0 ?_
  simp -dsimp [tblT, rowT, rwT]
  and_intros
  all_goals try first | rfl | omega | exact ⟨by kernel_rfl⟩
  refine ACall.of (next_c2 ((rowOf b id).getD ⟨0, []⟩) p (valB_iff.1 h).2.1 (rowOf_len hb id)) [] 0 ?_
  simp -dsimp [rwT]
  and_intros
  all_goals try first | rfl | omega | exact ⟨by kernel_rfl⟩
  refine Fin.of ?_
  simp [nextV, h, hopB]
theorem hop12_c (b : Tb) (hb : b.Sm) (id p : Int) (hp : 0 ≤ p ∧ p ≤ 7) : Contract Tryz.prog 68 [tblT b, .d (.int .i64 id), .d (.int .i64 p)] [] (.d (.int .i64 (hopB b id p))) [] [] := by
 refine contract_of Tryz.func68 rfl (fun E0 => ?_)
 refine awp.sound (g := .mk) (ow := []) (kp := (fun k => k==0||k==1||k==2||k==3||k==6||k==7||k==8||k==22)) ?_
 rw [Tryz.ntmps68]
 simp -dsimp [tblT]
 refine ACall.of (row11_c b hb.rows hb.nx id) [] 0 ?_
 have hl := rowOf_len hb id
 unfold hopB
 cases hr : rowOf b id with
 | none =>
   simp -dsimp [tblT, rowT, rwT, hr]
   and_intros
   all_goals try first | rfl | omega | exact ⟨by kernel_rfl⟩
   refine Fin.of ?_
   simp [hopR]
 | some x =>
   rw [hr] at hl
   simp only [Option.getD_some] at hl ⊢
   by_cases h0 : x.nx.length = 0
   ·have h0z : (x.nx.length : Int) = 0 := by omega
    simp -dsimp [tblT, rowT, rwT, hr, ints, h0, h0z]
    and_intros
    all_goals try first | rfl | omega | exact ⟨by kernel_rfl⟩
    refine Fin.of ?_
    simp [hopR, h0]
   ·have h0z : ¬ (x.nx.length : Int) = 0 := by omega
    have e : p.tmod x.nx.length = p % x.nx.length := Int.tmod_eq_emod_of_nonneg hp.1
    have m1 := Int.emod_nonneg p (b := (x.nx.length : Int)) (by omega)
    have m2 := Int.emod_lt_of_pos p (b := (x.nx.length : Int)) (by omega)
    have hlt : (p % x.nx.length).toNat < x.nx.length := by omega
    have hg : x.nx[(p % x.nx.length).toNat]? = some x.nx[(p % x.nx.length).toNat] := List.getElem?_eq_getElem hlt
    simp -dsimp [tblT, rowT, rwT, hr, ints, h0, h0z, e, hg]
    and_intros
    all_goals try first | rfl | omega | exact ⟨by kernel_rfl⟩
    refine Fin.of ?_
    simp [hopR, h0, hg]
abbrev Mk := List (Int × BitVec 64)
def mk (m : Mk) : List (Int × D) := m.map fun e => (e.1, bv e.2)
def bget (m : Mk) (k : Int) : BitVec 64 := ((m.find? fun e => decide (k = e.1)).map (·.2)).getD 0#64
def bput : Mk → Int → BitVec 64 → Mk
 | [], k, d => [(k, d)]
 | (k', d') :: es, k, d => if k = k' then (k, d) :: es else (k', d') :: bput es k d
theorem mput_mk (k : Int) (d : BitVec 64) : ∀ m : Mk, mput (mk m) k (bv d) = mk (bput m k d)
 | [] => rfl
 | (k', d') :: es => by
   have ih := mput_mk k d es
   simp only [mk, List.map_cons, mput, bput] at ih ⊢
   split
   ·rfl
   ·simp only [List.map_cons, ih]
theorem mget_cases (k : Int) : ∀ m : Mk, (mget (mk m) k = none ∧ bget m k = 0#64) ∨ mget (mk m) k = some (.int .u64 (tn (bget m k)))
 | [] => .inl ⟨rfl, rfl⟩
 | (k', d') :: es => by
   have ih := mget_cases k es
   simp only [mk, List.map_cons, mget, bget, List.find?_cons] at ih ⊢
   by_cases e : k = k'
   ·exact .inr (by simp [e, bv])
   ·simp only [if_neg e, decide_eq_false e]
    exact ih
theorem orI_z (X : BitVec 64) : orI .u64 0 (tn X) = tn X := by
 rw [Go.Tr.u64_or, wu_tn]
 simp [wu]
def colStep (b : Tb) (p s : Int) (m : Mk) (x : Rw) : Mk := if plSet x.id b.len = s ∧ hopR x p ≠ 0 then bput m (hopR x p) (bget m (hopR x p) ||| (1#64 <<< (plBit x.id b.len).toNat)) else m
def coll (b : Tb) (p s : Int) : Mk := b.rows.foldl (colStep b p s) []
theorem collect_c (b : Tb) (hb : b.Sm) (p s : Int) (hp : 0 ≤ p ∧ p ≤ 7) : Contract Tryz.prog 199 [tblT b, .d (.int .i64 p), .d (.int .i64 s)] [] (.mref 14) [] [(14, .mp (mk (coll b p s)))] := by
 refine contract_of Tryz.func199 rfl (fun E0 => ?_)
 refine awp.sound (g := .mk) (ow := []) (kp := (fun k => k==0||k==1||k==2||k==3||k==6||k==7||k==9||k==10||k==11||k==13||k==16||k==17||k==18||k==19||k==40)) ?_
 rw [Tryz.ntmps199]
 simp -dsimp [tblT, rwsD]
 refine ALoop.of [] (fun k => k==0||k==1||k==2||k==3||k==6||k==7||k==9||k==10||k==11||k==13||k==16||k==17||k==18||k==19||k==40) (ι := { i : Nat // i ≤ b.rows.length })
  (fun z => [(Pl.s 1, It.v (.d (.int .i64 p))), (Pl.s 2, It.v (.d (.int .i64 s))),
   (Pl.o 3, It.box [TV.d (.int .i64 b.r), TV.d (.int .i64 b.sd), TV.d (.int .i64 b.len), TV.d (rwsD b.rows)]), (Pl.s 3, It.v (.ptr (Pl.o 3) 0)), (Pl.s 6, It.v (.c (Value.map none))),
   (Pl.o 14, It.mp (mk ((b.rows.take z.1).foldl (colStep b p s) []))), (Pl.s 7, It.v (.mref 14)),
   (Pl.s 16, It.v (.d (rwsD b.rows))), (Pl.s 17, It.v (.d (.int .i64 b.rows.length))), (Pl.s 18, It.v (.d (.int .i64 z.1)))]) (fun z => b.rows.length - z.1) ⟨0, by omega⟩ ?_ ?_
 ·exact GS.to (by simp [rwsD, mk])
 ·rintro ⟨i, i1⟩
  by_cases hi : i < b.rows.length
  ·have hiz : (i : Int) < b.rows.length := by omega
   have hg : b.rows[i]? = some b.rows[i] := List.getElem?_eq_getElem hi
   have hx := hb.nx _ (List.getElem_mem hi)
   have hs : (b.rows.take (i + 1)).foldl (colStep b p s) [] = colStep b p s ((b.rows.take i).foldl (colStep b p s) []) b.rows[i] := by
    rw [List.take_add_one, hg, Option.toList_some, List.foldl_append]; rfl
   generalize b.rows[i] = x at hg hx hs
   generalize (b.rows.take i).foldl (colStep b p s) [] = m at hs ⊢
   have hpl := plB x.id b.len
   have hb1 := hb.rows
   obtain ⟨pb, hpb⟩ : ∃ n : Nat, plBit x.id b.len = n := ⟨(plBit x.id b.len).toNat, by omega⟩
   simp -dsimp [rwsD, hg, hiz, Rw.cs]
   and_intros
   all_goals try first | rfl | omega | exact ⟨by kernel_rfl⟩
   refine ACall.of (place10_c2 x.id b.len) [] 0 ?_
   simp -dsimp [placeT]
   and_intros
   all_goals try first | rfl | omega | exact ⟨by kernel_rfl⟩
   refine ACall.of (next_c2 x p hp hx) [] 0 ?_
   by_cases c1 : plSet x.id b.len = s
   ·by_cases c2 : hopR x p = 0
    ·simp -dsimp [rwT, c1, c2, wrap_i64 (n := (i : Int) + 1) (by omega) (by omega)]
     and_intros
     all_goals try first | rfl | omega | exact ⟨by kernel_rfl⟩
     exact ⟨⟨i + 1, by omega⟩, GS.to (by simp [rwsD, hs, colStep, c2]), by simp; omega⟩
    ·rcases mget_cases (hopR x p) m with ⟨e1, e2⟩ | e1
     ·simp -dsimp [rwT, c1, c2, e1, orI_z, hpb, wrap_i64 (n := (i : Int) + 1) (by omega) (by omega)]
      and_intros
      all_goals try first | rfl | omega | exact ⟨by kernel_rfl⟩
      have hst : mput (mk m) (hopR x p) (D.int .u64 (tn (1#64 <<< pb))) = mk (colStep b p s m x) := by
       unfold colStep
       rw [if_pos ⟨c1, c2⟩, ← mput_mk, e2, hpb]
       simp [bv]
      exact ⟨⟨i + 1, by omega⟩, GS.to (by simp [rwsD, hs, hst]), by simp; omega⟩
     ·simp -dsimp [rwT, c1, c2, e1, hpb, wrap_i64 (n := (i : Int) + 1) (by omega) (by omega)]
      and_intros
      all_goals try first | rfl | omega | exact ⟨by kernel_rfl⟩
      have hst : mput (mk m) (hopR x p) (D.int .u64 (tn (bget m (hopR x p) ||| 1#64 <<< pb))) = mk (colStep b p s m x) := by
       unfold colStep
       rw [if_pos ⟨c1, c2⟩, ← mput_mk, hpb]
       simp [bv]
      exact ⟨⟨i + 1, by omega⟩, GS.to (by simp [rwsD, hs, hst]), by simp; omega⟩
   ·simp -dsimp [rwT, c1, wrap_i64 (n := (i : Int) + 1) (by omega) (by omega)]
    and_intros
    all_goals try first | rfl | omega | exact ⟨by kernel_rfl⟩
    exact ⟨⟨i + 1, by omega⟩, GS.to (by simp [rwsD, hs, colStep, c1]), by simp; omega⟩
  ·obtain rfl : i = b.rows.length := by omega
   simp -dsimp
   refine Fin.of ?_
   simp [coll]
theorem chk_next {b : Tb} (h : chk b = 0) : ∀ x ∈ b.rows, (1 ≤ x.id ∧ x.id ≤ 256) ∧ ∀ n ∈ x.nx, 1 ≤ n ∧ n ≤ 99 := by
 intro x hx
 have ho : ¬ ∃ x ∈ b.rows, x.out := fun g => by
  by_cases hh : b.head
  ·rw [chk_out hh g] at h; simp at h
  ·rw [chk_head hh] at h; simp at h
 have h1 : ¬ x.out := fun g => ho ⟨x, hx, g⟩
 constructor
 ·exact Classical.byContradiction fun g => h1 (.inl g)
 ·intro n hn
  exact Classical.byContradiction fun g => h1 (.inr ⟨n, hn, g⟩)
theorem hopR_mem {x : Rw} {p : Int} (h : hopR x p ≠ 0) : hopR x p ∈ x.nx := by
 unfold hopR at h ⊢
 split at h
 ·exact absurd rfl h
 ·rename_i h0
  rw [if_neg h0]
  have m1 := Int.emod_nonneg p (b := (x.nx.length : Int)) (by omega)
  have m2 := Int.emod_lt_of_pos p (b := (x.nx.length : Int)) (by omega)
  have hlt : (p % x.nx.length).toNat < x.nx.length := by omega
  rw [List.getD_eq_getElem?_getD, List.getElem?_eq_getElem hlt]
  exact List.getElem_mem hlt
def maskP (b : Tb) (p s n : Int) : BitVec 64 := if valB b p s = true then bget (coll b p s) n else 0#64
theorem mask_c (b : Tb) (hb : b.Sm) (p s n : Int) : Contract Tryz.prog 163 [tblT b, .d (.int .i64 p), .d (.int .i64 s), .d (.int .i64 n)] [] (.d (bv (maskP b p s n))) [] [] := by
 refine contract_of Tryz.func163 rfl (fun E0 => ?_)
 refine awp.sound (g := .mk) (ow := []) (kp := (fun k => k==0||k==1||k==2||k==3||k==4||k==8||k==13)) ?_
 rw [Tryz.ntmps163]
 simp -dsimp [tblT]
 refine ACall.of (mvalid_c b hb p s) [] 0 ?_
 rcases (Bool.eq_false_or_eq_true (valB b p s)).symm with h | h
 ·simp -dsimp [tblT, h]
  and_intros
  all_goals try first | rfl | omega | exact ⟨by kernel_rfl⟩
  refine Fin.of ?_
  simp [maskP, h, bv]
 ·simp -dsimp [tblT, h]
  and_intros
  all_goals try first | rfl | omega | exact ⟨by kernel_rfl⟩
  refine ACall.of (collect_c b hb p s (valB_iff.1 h).2.1) [] 1000 ?_
  rcases mget_cases n (coll b p s) with ⟨e1, e2⟩ | e1
  ·simp -dsimp [tblT, h, e1]
   and_intros
   all_goals try first | rfl | omega | exact ⟨by kernel_rfl⟩
   refine Fin.of ?_
   simp [maskP, h, bv, e2]
  ·simp -dsimp [tblT, h, e1]
   and_intros
   all_goals try first | rfl | omega | exact ⟨by kernel_rfl⟩
   refine Fin.of ?_
   simp [maskP, h, bv]
def bitsR (b : Tb) (p s n : Int) : Nat → BitVec 64
 | 0 => 0#64
 | k + 1 => if atB s k b.len = true ∧ 0 < n ∧ hopB b (s * b.len + k + 1) p = n then bitsR b p s n k ||| bitB k else bitsR b p s n k
theorem bits12_c (b : Tb) (hb : b.Sm) (p s n : Int) (hp : 0 ≤ p ∧ p ≤ 7) (hl : b.len ≤ 1000) : Contract Tryz.prog 146 [tblT b, .d (.int .i64 p), .d (.int .i64 s), .d (.int .i64 n)] [] (.d (bv (bitsR b p s n b.len.toNat))) [] [] := by
 refine contract_of Tryz.func146 rfl (fun E0 => ?_)
 refine awp.sound (g := .mk) (ow := []) (kp := (fun k => k==0||k==1||k==2||k==3||k==4||k==8||k==9||k==10||k==11||k==12||k==16||k==39)) ?_
 rw [Tryz.ntmps146]
 simp -dsimp [tblT]
 refine ALoop.of [] (fun k => k==0||k==1||k==2||k==3||k==4||k==8||k==9||k==10||k==11||k==12||k==16||k==39) (ι := { k : Nat // k ≤ b.len.toNat })
  (fun z => [(Pl.s 1, It.v (.d (.int .i64 p))), (Pl.s 2, It.v (.d (.int .i64 s))), (Pl.s 3, It.v (.d (.int .i64 n))),
   (Pl.o 4, It.box [TV.d (.int .i64 b.r), TV.d (.int .i64 b.sd), TV.d (.int .i64 b.len), TV.d (rwsD b.rows)]), (Pl.s 4, It.v (.ptr (Pl.o 4) 0)),
   (Pl.s 8, It.v (.d (.int IntKind.u64 0))), (Pl.s 9, It.v (.d (bv (bitsR b p s n z.1)))), (Pl.s 10, It.v (.d (.int .i64 z.1)))]) (fun z => b.len.toNat - z.1) ⟨0, by omega⟩ ?_ ?_
 ·exact GS.to (by simp [bitsR, bv])
 ·rintro ⟨k, k1⟩
  by_cases hk : (k : Int) < b.len
  ·simp -dsimp [bv, hk]
   refine ACall.of (at10_c s k b.len) [] 0 ?_
   rcases (Bool.eq_false_or_eq_true (atB s k b.len)).symm with c1 | c1
   ·have hs : bitsR b p s n (k + 1) = bitsR b p s n k := by simp [bitsR, c1]
    simp -dsimp [bv, atT, c1, wrap_i64 (n := (k : Int) + 1) (by omega) (by omega)]
    and_intros
    all_goals try first | rfl | omega | exact ⟨by kernel_rfl⟩
    exact ⟨⟨k + 1, by omega⟩, GS.to (by simp [hs, bv]), by simp; omega⟩
   ·by_cases c2 : 0 < n
    ·simp -dsimp [bv, atT, c1, c2]
     and_intros
     all_goals try first | rfl | omega | exact ⟨by kernel_rfl⟩
     refine ACall.of (hop12_c b hb (s * b.len + k + 1) p hp) [] 0 ?_
     by_cases c3 : hopB b (s * b.len + k + 1) p = n
     ·have hs : bitsR b p s n (k + 1) = bitsR b p s n k ||| bitB k := by simp [bitsR, c1, c2, c3]
      simp -dsimp [bv, tblT, atT, c1, c2, c3]
      and_intros
      all_goals try first | rfl | omega | exact ⟨by kernel_rfl⟩
      refine ACall.of (bit_c k) [] 0 ?_
      simp -dsimp [bv, wrap_i64 (n := (k : Int) + 1) (by omega) (by omega)]
      and_intros
      all_goals try first | rfl | omega | exact ⟨by kernel_rfl⟩
      exact ⟨⟨k + 1, by omega⟩, GS.to (by simp [hs, bv]), by simp; omega⟩
     ·have hs : bitsR b p s n (k + 1) = bitsR b p s n k := by simp [bitsR, c3]
      simp -dsimp [bv, tblT, atT, c1, c2, c3, wrap_i64 (n := (k : Int) + 1) (by omega) (by omega)]
      and_intros
      all_goals try first | rfl | omega | exact ⟨by kernel_rfl⟩
      exact ⟨⟨k + 1, by omega⟩, GS.to (by simp [hs, bv]), by simp; omega⟩
    ·have hs : bitsR b p s n (k + 1) = bitsR b p s n k := by simp [bitsR, c2]
     simp -dsimp [bv, atT, c1, c2, wrap_i64 (n := (k : Int) + 1) (by omega) (by omega)]
     and_intros
     all_goals try first | rfl | omega | exact ⟨by kernel_rfl⟩
     exact ⟨⟨k + 1, by omega⟩, GS.to (by simp [hs, bv]), by simp; omega⟩
  ·have hkk : b.len.toNat = k := by omega
   simp -dsimp [bv, hk]
   refine Fin.of ?_
   simp [bv, hkk]
def maskR (b : Tb) (p s n : Int) : BitVec 64 := if valB b p s = true ∧ 1 ≤ n ∧ n ≤ 99 then bitsR b p s n b.len.toNat else 0#64
theorem chk_len {b : Tb} (h : chk b = 0) : validLen b.len = true ∨ b.len = 0 ∧ b.rows.length = 0 := by
 by_cases hh : b.head
 ·exact hh.2.2
 ·rw [chk_head hh] at h; simp at h
theorem chk_len2 {b : Tb} (h : chk b = 0) : 0 ≤ b.len ∧ b.len ≤ 64 := by
 rcases chk_len h with g | g
 ·simp [validLen] at g; omega
 ·omega
theorem tn_zero {B : BitVec 64} : tn B = 0 ↔ B = 0#64 := by
 constructor
 ·intro h
  apply BitVec.eq_of_toNat_eq
  simpa [tn] using h
 ·rintro rfl; simp [tn]
theorem bget_put (m : Mk) (k n : Int) (d : BitVec 64) : bget (bput m k d) n = if n = k then d else bget m n := by
 induction m with
 | nil =>
   by_cases e : n = k <;> simp [bput, bget, e]
 | cons a m ih =>
   obtain ⟨k', d'⟩ := a
   simp only [bput]
   by_cases e : k = k'
   ·subst e
    rw [if_pos rfl]
    by_cases e2 : n = k <;> simp [bget, e2]
   ·rw [if_neg e]
    by_cases e2 : n = k'
    ·have e3 : ¬ n = k := fun h => e (by rw [← h, e2])
     simp only [bget, List.find?_cons, decide_eq_true e2, if_neg e3]
    ·simp only [bget, List.find?_cons, decide_eq_false e2] at ih ⊢
     exact ih
theorem bit_one {j k : Nat} (hj : j < 64) (hk : k < 64) : (1#64 <<< j).getLsbD k = decide (k = j) := by
 rw [BitVec.getLsbD_shiftLeft]
 by_cases e : k = j
 ·subst e; simp [hk]
 ·simp [hk, e]
  omega
theorem coll_bit (b : Tb) (p s n : Int) {k : Nat} (hk : k < 64) : ∀ (l : List Rw) (m : Mk), (bget (l.foldl (colStep b p s) m) n).getLsbD k = true ↔ (bget m n).getLsbD k = true ∨ ∃ x ∈ l, plSet x.id b.len = s ∧ plBit x.id b.len = k ∧ hopR x p = n ∧ n ≠ 0
 | [], m => by simp
 | x :: l, m => by
   rw [List.foldl_cons, coll_bit b p s n hk l]
   have hpl := plB x.id b.len
   have hs : (bget (colStep b p s m x) n).getLsbD k = true ↔ (bget m n).getLsbD k = true ∨ (plSet x.id b.len = s ∧ plBit x.id b.len = k ∧ hopR x p = n ∧ n ≠ 0) := by
    unfold colStep
    split
    ·rename_i hc
     rw [bget_put]
     by_cases e : n = hopR x p
     ·rw [if_pos e, BitVec.getLsbD_or, bit_one (by omega) hk, Bool.or_eq_true, decide_eq_true_eq, ← e]
      constructor
      ·rintro (h | h)
       ·exact .inl h
       ·exact .inr ⟨hc.1, by omega, rfl, by rw [e]; exact hc.2⟩
      ·rintro (h | h)
       ·exact .inl h
       ·exact .inr (by omega)
     ·rw [if_neg e]
      constructor
      ·exact .inl
      ·rintro (h | h)
       ·exact h
       ·exact absurd h.2.2.1.symm e
    ·rename_i hc
     constructor
     ·exact .inl
     ·rintro (h | h)
      ·exact h
      ·exact absurd ⟨h.1, by rw [h.2.2.1]; exact h.2.2.2⟩ hc
   rw [hs]
   simp only [List.mem_cons, exists_eq_or_imp, or_assoc]
theorem bitB_bit {k j : Nat} (hk : k < 64) (hj : j < 64) : (bitB k).getLsbD j = decide (j = k) := by
 unfold bitB
 rw [if_neg (by omega), wrap_emod]
 have : ((k : Int) % 18446744073709551616).toNat = k := by omega
 rw [this, bit_one hk hj]
theorem bitsR_bit (b : Tb) (p s n : Int) {j : Nat} (hj : j < 64) : ∀ K : Nat, K ≤ 64 → ((bitsR b p s n K).getLsbD j = true ↔ j < K ∧ atB s j b.len = true ∧ 0 < n ∧ hopB b (s * b.len + j + 1) p = n)
 | 0, _ => by simp [bitsR]
 | K + 1, hK => by
   have ih := bitsR_bit b p s n hj K (by omega)
   rw [bitsR]
   split
   ·rename_i hc
    rw [BitVec.getLsbD_or, bitB_bit (by omega) hj, Bool.or_eq_true, decide_eq_true_eq, ih]
    constructor
    ·rintro (h | h)
     ·exact ⟨by omega, h.2⟩
     ·subst h; exact ⟨by omega, hc⟩
    ·rintro ⟨h1, h2⟩
     by_cases e : j = K
     ·exact .inr e
     ·exact .inl ⟨by omega, h2⟩
   ·rename_i hc
    rw [ih]
    constructor
    ·rintro ⟨h1, h2⟩; exact ⟨by omega, h2⟩
    ·rintro ⟨h1, h2⟩
     by_cases e : j = K
     ·subst e; exact absurd h2 hc
     ·exact ⟨by omega, h2⟩
theorem chk_asc {b : Tb} (h : chk b = 0) : b.asc := Classical.byContradiction fun g => by
 unfold chk at h
 split at h
 ·simp at h
 split at h
 ·simp at h
 split at h
 ·simp at h
 split at h
 ·simp at h
 simp at h
theorem rowOf_mem {b : Tb} (h : chk b = 0) {x : Rw} (hx : x ∈ b.rows) : rowOf b x.id = some x := by
 have hasc := (chk_asc h).1
 unfold rowOf
 have : ∀ l : List Rw, (l.map (·.id)).Pairwise (· < ·) → x ∈ l → l.find? (fun y => decide (y.id = x.id)) = some x := by
  intro l
  induction l with
  | nil => intro _ h; simp at h
  | cons y l ih =>
    intro hp hm
    rw [List.map_cons, List.pairwise_cons] at hp
    by_cases e : y.id = x.id
    ·rcases List.mem_cons.1 hm with rfl | hm
     ·simp
     ·have := hp.1 x.id (List.mem_map_of_mem hm)
      omega
    ·rw [List.find?_cons, decide_eq_false e]
     rcases List.mem_cons.1 hm with rfl | hm
     ·exact absurd rfl e
     ·exact ih hp.2 hm
 exact this b.rows hasc hx
theorem maskP_eq (b : Tb) (p s n : Int) : maskP b p s n = maskR b p s n := by
 unfold maskP maskR
 by_cases hv : valB b p s = true
 ·obtain ⟨hc, hp, hs⟩ := valB_iff.1 hv
  have hl := chk_len2 hc
  rw [if_pos hv]
  apply BitVec.eq_of_getLsbD_eq
  intro k hk
  rw [Bool.eq_iff_iff, show coll b p s = b.rows.foldl (colStep b p s) [] from rfl, coll_bit b p s n hk]
  have h0 : ¬ (bget [] n).getLsbD k = true := by simp [bget]
  by_cases hn : 1 ≤ n ∧ n ≤ 99
  ·rw [if_pos ⟨hv, hn⟩, bitsR_bit b p s n hk _ (by omega)]
   constructor
   ·rintro (h | ⟨x, hx, h1, h2, h3, h4⟩)
    ·exact absurd h h0
    ·have hid := (chk_next hc x hx).1
     have hvl : validLen b.len = true := by
      rcases chk_len hc with g | g
      ·exact g
      ·rw [List.length_eq_zero_iff.1 g.2] at hx; simp at hx
     have hin : inB x.id 1 256 = true := by simp [inB, hid]
     have hlp : 0 < b.len := by simp [validLen] at hvl; omega
     simp only [plSet, plBit, hvl, hin, Bool.and_self, if_true] at h1 h2
     have hde := Int.mul_ediv_add_emod (x.id - 1) b.len
     have hmul : b.len * ((x.id - 1) / b.len) = s * b.len := by rw [h1, Int.mul_comm]
     have hml := Int.emod_lt_of_pos (x.id - 1) hlp
     have he : s * b.len + k + 1 = x.id := by omega
     refine ⟨by omega, ?_, by omega, ?_⟩
     ·simp only [atB, hvl, inB, Bool.true_and, Bool.and_eq_true, decide_eq_true_eq]
      exact ⟨by omega, by omega, by omega⟩
     ·rw [he, hopB, rowOf_mem hc hx]; exact h3
   ·rintro ⟨h1, h2, h3, h4⟩
    refine .inr ?_
    simp only [atB, Bool.and_eq_true, decide_eq_true_eq, inB] at h2
    obtain ⟨hvl, ⟨h5, h6⟩, _, h8⟩ := h2
    unfold hopB at h4
    cases hr : rowOf b (s * b.len + k + 1) with
    | none => rw [hr] at h4; simp [hopR] at h4; omega
    | some x =>
      rw [hr] at h4
      have hx : x ∈ b.rows := List.mem_of_find?_eq_some hr
      have hid : x.id = s * b.len + k + 1 := by simpa using List.find?_some hr
      have hlp : 0 < b.len := by simp [validLen] at hvl; omega
      have hi0 : x.id - 1 = k + s * b.len := by omega
      have hin : inB x.id 1 256 = true := by have := (chk_next hc x hx).1; simp [inB, this]
      refine ⟨x, hx, ?_, ?_, h4, by omega⟩
      ·simp only [plSet, hvl, hin, Bool.and_self, if_true]
       rw [hi0, Int.add_mul_ediv_right _ _ (by omega), Int.ediv_eq_zero_of_lt (by omega) (by omega)]
       omega
      ·simp only [plBit, hvl, hin, Bool.and_self, if_true]
       rw [hi0, Int.add_mul_emod_self_right]
       exact Int.emod_eq_of_lt (by omega) (by omega)
  ·rw [if_neg fun h => hn h.2]
   constructor
   ·rintro (h | ⟨x, hx, h1, h2, h3, h4⟩)
    ·exact absurd h h0
    ·have hm := hopR_mem (x := x) (p := p) (by rw [h3]; exact h4)
     rw [h3] at hm
     exact absurd ((chk_next hc x hx).2 n hm) hn
   ·intro h; simp at h
 ·rw [if_neg hv, if_neg fun h => hv h.1]
theorem fullN_bit {j : Nat} (hj : j < 64) : ∀ K : Nat, K ≤ 64 → ((fullN K).getLsbD j = decide (j < K))
 | 0, _ => by simp [fullN]
 | K + 1, hK => by
   rw [fullN, BitVec.getLsbD_or, fullN_bit hj K (by omega), bitB_bit (by omega) hj, Bool.eq_iff_iff]
   simp
   omega
def gMixL : List Rt → Tp → List Rt × Tp
 | [], T => ([], T)
 | x :: l, T => (⟨x.id, !(gOne T 3).1⟩ :: (gMixL l (gOne T 3).2).1, (gMixL l (gOne T 3).2).2)
def gMix (T : Tp) (most : Int) : Topo × Tp := let g := gTop T most; (⟨(gMixL g.1.rs g.2).1, g.1.ls⟩, (gMixL g.1.rs g.2).2)
end Go.Proofs

/-
  What functions of the program compute, stated as contracts over plain data; the conditions of each stand in its own statement.
-/
import Derived.Test.YtjgeggdefiejbaaGreatDoorW22
import Derived.Test.YtjgeggdefiejbaaGreatDoorW18
set_option linter.unusedSimpArgs false
set_option maxRecDepth 100000
set_option maxHeartbeats 4000000
namespace Go.Proofs
open Go Go.Tr
theorem clone_nil_c (ad : Option Addr) (c : Nat) : Contract Tryz.prog 125 [.c (.slice ad 0 c)] [] (.d (ints [])) [] [] := by
 refine contract_of Tryz.func125 rfl (fun E0 => ?_)
 refine awp.sound (g := .mk) (ow := [5]) (kp := (fun k => k==0||k==2||k==4)) ?_
 rw [Tryz.ntmps125]
 cases ad with
 | none =>
   simp -dsimp [ints]
   and_intros
   all_goals try first | rfl | omega | exact ⟨by kernel_rfl⟩
   refine Fin.view 2 ?_
   simp -dsimp
   refine Fin.of ?_
   simp [ints]
 | some ad =>
   simp -dsimp [ints]
   and_intros
   all_goals try first | rfl | omega | exact ⟨by kernel_rfl⟩
   refine Fin.view 2 ?_
   simp -dsimp
   refine Fin.of ?_
   simp [ints]
theorem clone_c (l : List Int) (hl : l.length ≤ 1000000) : Contract Tryz.prog 125 [.d (ints l)] [] (.d (ints l)) [] [] := by
 by_cases h0 : l.length = 0
 ·obtain rfl : l = [] := List.length_eq_zero_iff.1 h0
  refine Contract.cases fun E us ha => ?_
  simp only [RelVs, RelV, Rep, ints] at ha
  obtain ⟨u, us', rfl, hu, rfl⟩ := ha
  rcases hu with ⟨_, ad, c, rfl⟩ | ⟨b, o, c, k, rfl, _⟩
  ·exact ⟨[.c (.slice ad 0 c)], by simp [RelVs, RelV], clone_nil_c ad c⟩
  ·exact ⟨[.c (.slice (some ⟨b, o, none⟩) 0 c)], by simp [RelVs, RelV], clone_nil_c _ c⟩
 ·have dl : dLen 1 (l.map fun x => [D.int .i64 x]) := dLen_map 1 _ _ fun _ => rfl
  refine contract_of Tryz.func125 rfl (fun E0 => ?_)
  refine awp.sound (g := .mk) (ow := [5]) (kp := (fun k => k==0||k==2||k==4)) ?_
  rw [Tryz.ntmps125]
  simp -dsimp [ints]
  and_intros
  all_goals try first | rfl | omega | exact dl | exact ⟨by kernel_rfl⟩
  refine Fin.view 2 ?_
  simp -dsimp
  refine Fin.of ?_
  simp [ints]
def rowOf (b : Tb) (id : Int) : Option Rw := b.rows.find? fun x => decide (x.id = id)
def rowT (o : Option Rw) : TV := .tup [rwT (o.getD ⟨0, []⟩), .d (.bool o.isSome)]
theorem rfind_at {l : List Rw} {q : Rw → Bool} {i : Nat} {x : Rw} (hx : l[i]? = some x) (hq : q x = true) (h : ∀ a, a < i → ∀ y, l[a]? = some y → q y = false) : l.find? q = some x := by
 induction l generalizing i with
 | nil => simp at hx
 | cons y l ih =>
   cases i with
   | zero => simp at hx; subst hx; simp [hq]
   | succ i =>
     have h0 := h 0 (by omega) y rfl
     rw [List.find?_cons, h0]
     exact ih (by simpa using hx) fun a ha z hz => h (a + 1) (by omega) z (by simpa using hz)
theorem rfind_no {l : List Rw} {q : Rw → Bool} (h : ∀ a, a < l.length → ∀ y, l[a]? = some y → q y = false) : l.find? q = none := by
 rw [List.find?_eq_none]
 intro x hx
 obtain ⟨a, ha⟩ := List.getElem?_of_mem hx
 simp [h a (List.getElem?_eq_some_iff.1 ha).1 x ha]
theorem trow_c (b : Tb) (hb : b.rows.length ≤ 1000000) (hn : ∀ x ∈ b.rows, x.nx.length ≤ 1000000) (id : Int) : Contract Tryz.prog 178 [tblT b, .d (.int .i64 id)] [] (rowT (rowOf b id)) [] [] := by
 refine contract_of Tryz.func178 rfl (fun E0 => ?_)
 refine awp.sound (g := .mk) (ow := []) (kp := (fun k => k==0||k==1||k==2||k==4||k==5||k==7||k==9||k==10||k==11||k==12||k==18)) ?_
 rw [Tryz.ntmps178]
 simp -dsimp [tblT, rwsD]
 refine ALoop.of [] (fun k => k==0||k==1||k==2||k==4||k==5||k==7||k==9||k==10||k==11||k==12||k==18) (ι := { i : Nat // i ≤ b.rows.length ∧ ∀ a, a < i → ∀ x, b.rows[a]? = some x → decide (x.id = id) = false })
  (fun z => [(Pl.s 1, It.v (.d (.int .i64 id))), (Pl.o 2, It.box [TV.d (.int .i64 b.r), TV.d (.int .i64 b.sd), TV.d (.int .i64 b.len), TV.d (rwsD b.rows)]), (Pl.s 2, It.v (.ptr (Pl.o 2) 0)), (Pl.o 4, It.box [TV.d (.int .i64 0), TV.c (Value.slice none 0 0)]), (Pl.s 4, It.v (.ptr (Pl.o 4) 0)), (Pl.s 5, It.v (.d (.bool false))), (Pl.s 9, It.v (.d (rwsD b.rows))), (Pl.s 10, It.v (.d (.int .i64 b.rows.length))), (Pl.s 11, It.v (.d (.int .i64 z.1)))]) (fun z => b.rows.length - z.1) ⟨0, by omega, fun a h => by omega⟩ ?_ ?_
 ·exact GS.to (by simp [rwsD])
 ·rintro ⟨i, i1, i2⟩
  by_cases hi : i < b.rows.length
  ·have hiz : (i : Int) < b.rows.length := by omega
   have hg : b.rows[i]? = some b.rows[i] := List.getElem?_eq_getElem hi
   have hx := hn _ (List.getElem_mem hi)
   generalize b.rows[i] = x at hg hx
   by_cases c1 : x.id = id
   ·simp -dsimp [rwsD, hg, hiz, Rw.cs, eq_true c1]
    and_intros
    all_goals try first | rfl | omega | exact ⟨by kernel_rfl⟩
    refine ACall.of (clone_c x.nx hx) [] 0 ?_
    simp -dsimp [rwsD, Rw.cs, c1]
    and_intros
    all_goals try first | rfl | omega | exact ⟨by kernel_rfl⟩
    refine Fin.of ?_
    simp [rowT, rowOf, rfind_at hg (by simpa using c1) i2, rwT, c1]
   ·simp -dsimp [rwsD, hg, hiz, Rw.cs, c1, wrap_i64 (n := (i : Int) + 1) (by omega) (by omega)]
    and_intros
    all_goals try first | rfl | omega | exact ⟨by kernel_rfl⟩
    exact ⟨⟨i + 1, by omega, fun a ha y hy => by
     by_cases e : a = i
     ·subst e; rw [hg] at hy; simp only [Option.some.injEq] at hy; subst hy; simpa using c1
     ·exact i2 a (by omega) y hy⟩, GS.to (by simp [rwsD]), by simp; omega⟩
  ·have hiz : ¬ (i : Int) < b.rows.length := by omega
   simp -dsimp [rwsD, hiz]
   refine Fin.box (.o 4) rfl ?_
   simp -dsimp
   refine Fin.of ?_
   simp [rowT, rowOf, rfind_no (q := fun x => decide (x.id = id)) (fun a ha => i2 a (by omega)), rwT, ints]
theorem row11_c (b : Tb) (hb : b.rows.length ≤ 1000000) (hn : ∀ x ∈ b.rows, x.nx.length ≤ 1000000) (id : Int) : Contract Tryz.prog 51 [tblT b, .d (.int .i64 id)] [] (rowT (rowOf b id)) [] [] := by
 refine contract_of Tryz.func51 rfl (fun E0 => ?_)
 refine awp.sound (g := .mk) (ow := []) (kp := (fun k => k==0||k==1||k==2||k==4||k==5||k==6||k==11||k==21)) ?_
 rw [Tryz.ntmps51]
 simp -dsimp [tblT, rwsD]
 refine ALoop.of [] (fun k => k==0||k==1||k==2||k==4||k==5||k==6||k==11||k==21) (ι := { i : Nat // i ≤ b.rows.length ∧ ∀ a, a < i → ∀ x, b.rows[a]? = some x → decide (x.id = id) = false })
  (fun z => [(Pl.s 1, It.v (.d (.int .i64 id))), (Pl.o 2, It.box [TV.d (.int .i64 b.r), TV.d (.int .i64 b.sd), TV.d (.int .i64 b.len), TV.d (rwsD b.rows)]), (Pl.s 2, It.v (.ptr (Pl.o 2) 0)), (Pl.o 4, It.box [TV.d (.int .i64 0), TV.c (Value.slice none 0 0)]), (Pl.s 4, It.v (.ptr (Pl.o 4) 0)), (Pl.s 5, It.v (.d (.bool false))), (Pl.s 6, It.v (.d (.int .i64 z.1)))]) (fun z => b.rows.length - z.1) ⟨0, by omega, fun a h => by omega⟩ ?_ ?_
 ·exact GS.to (by simp [rwsD])
 ·rintro ⟨i, i1, i2⟩
  by_cases hi : i < b.rows.length
  ·have hiz : (i : Int) < b.rows.length := by omega
   have hg : b.rows[i]? = some b.rows[i] := List.getElem?_eq_getElem hi
   have hx := hn _ (List.getElem_mem hi)
   generalize b.rows[i] = x at hg hx
   by_cases c1 : x.id = id
   ·simp -dsimp [rwsD, hg, hiz, Rw.cs, eq_true c1]
    and_intros
    all_goals try first | rfl | omega | exact ⟨by kernel_rfl⟩
    refine Fin.of ?_
    simp [rowT, rowOf, rfind_at hg (by simpa using c1) i2, rwT, c1]
   ·simp -dsimp [rwsD, hg, hiz, Rw.cs, c1, wrap_i64 (n := (i : Int) + 1) (by omega) (by omega)]
    and_intros
    all_goals try first | rfl | omega | exact ⟨by kernel_rfl⟩
    exact ⟨⟨i + 1, by omega, fun a ha y hy => by
     by_cases e : a = i
     ·subst e; rw [hg] at hy; simp only [Option.some.injEq] at hy; subst hy; simpa using c1
     ·exact i2 a (by omega) y hy⟩, GS.to (by simp [rwsD]), by simp; omega⟩
  ·have hiz : ¬ (i : Int) < b.rows.length := by omega
   simp -dsimp [rwsD, hiz]
   refine Fin.box (.o 4) rfl ?_
   simp -dsimp
   refine Fin.of ?_
   simp [rowT, rowOf, rfind_no (q := fun x => decide (x.id = id)) (fun a ha => i2 a (by omega)), rwT, ints]
def hopR (x : Rw) (p : Int) : Int := if x.nx.length = 0 then 0 else x.nx.getD (p % x.nx.length).toNat 0
theorem next_c2 (x : Rw) (p : Int) (hp : 0 ≤ p ∧ p ≤ 7) (hx : x.nx.length ≤ 1000000) : Contract Tryz.prog 179 [rwT x, .d (.int .i64 p)] [] (.d (.int .i64 (hopR x p))) [] [] := by
 refine contract_of Tryz.func179 rfl (fun E0 => ?_)
 refine awp.sound (g := .mk) (ow := []) (kp := (fun k => k==0||k==1||k==2||k==4||k==8)) ?_
 rw [Tryz.ntmps179]
 by_cases h0 : x.nx.length = 0
 ·have h0z : (x.nx.length : Int) = 0 := by omega
  simp -dsimp [rwT, ints, h0, h0z]
  and_intros
  all_goals try first | rfl | omega | exact ⟨by kernel_rfl⟩
  refine Fin.of ?_
  simp [hopR, h0]
 ·have h0z : ¬ (x.nx.length : Int) = 0 := by omega
  have e : p.tmod x.nx.length = p % x.nx.length := Int.tmod_eq_emod_of_nonneg hp.1
  have m1 := Int.emod_nonneg p (b := (x.nx.length : Int)) (by omega)
  have m2 := Int.emod_lt_of_pos p (b := (x.nx.length : Int)) (by omega)
  have hlt : (p % x.nx.length).toNat < x.nx.length := by omega
  have hg : x.nx[(p % x.nx.length).toNat]? = some x.nx[(p % x.nx.length).toNat] := List.getElem?_eq_getElem hlt
  simp -dsimp [rwT, ints, h0, h0z, e, hg]
  and_intros
  all_goals try first | rfl | omega | exact ⟨by kernel_rfl⟩
  refine Fin.of ?_
  simp [hopR, h0, hg]
structure Tb.Sm (b : Tb) : Prop where
 rows : b.rows.length ≤ 1000000
 nx : ∀ x ∈ b.rows, x.nx.length ≤ 1000000
def hopB (b : Tb) (id p : Int) : Int := hopR ((rowOf b id).getD ⟨0, []⟩) p
theorem rowOf_len {b : Tb} (hb : b.Sm) (id : Int) : ((rowOf b id).getD ⟨0, []⟩).nx.length ≤ 1000000 := by
 unfold rowOf
 cases h : b.rows.find? (fun x => decide (x.id = id)) with
 | none => simp
 | some x => exact hb.nx x (List.mem_of_find?_eq_some h)
def valB (b : Tb) (p s : Int) : Bool := decide (chk b = 0) && (inB p 0 7 && inB s 0 31)
theorem mvalid_c (b : Tb) (hb : b.Sm) (p s : Int) : Contract Tryz.prog 177 [tblT b, .d (.int .i64 p), .d (.int .i64 s)] [] (.d (.bool (valB b p s))) [] [] := by
 refine contract_of Tryz.func177 rfl (fun E0 => ?_)
 refine awp.sound (g := .mk) (ow := []) (kp := (fun k => k==0||k==1||k==2||k==3||k==6)) ?_
 rw [Tryz.ntmps177]
 simp -dsimp [tblT]
 refine ACall.of (tcheck_c b hb.rows hb.nx) [] 0 ?_
 by_cases h0 : chk b = 0
 ·by_cases h1 : 0 ≤ p
  ·by_cases h2 : p < 8
   ·by_cases h3 : 0 ≤ s
    ·simp -dsimp [tblT, h0, h1, h2, h3]
     and_intros
     all_goals try first | rfl | omega | exact ⟨by kernel_rfl⟩
     refine Fin.of ?_
     simp [valB, inB, h0, h1, h3]
     omega
    ·simp -dsimp [tblT, h0, h1, h2, h3]
     and_intros
     all_goals try first | rfl | omega | exact ⟨by kernel_rfl⟩
     refine Fin.of ?_
     simp [valB, inB, h0, h1, h3]
   ·simp -dsimp [tblT, h0, h1, h2]
    and_intros
    all_goals try first | rfl | omega | exact ⟨by kernel_rfl⟩
    refine Fin.of ?_
    have h2' : ¬ p ≤ 7 := by omega
    simp [valB, inB, h0, h1, h2']
  ·simp -dsimp [tblT, h0, h1]
   and_intros
   all_goals try first | rfl | omega | exact ⟨by kernel_rfl⟩
   refine Fin.of ?_
   simp [valB, inB, h0, h1]
 ·simp -dsimp [tblT, h0]
  and_intros
  all_goals try first | rfl | omega | exact ⟨by kernel_rfl⟩
  refine Fin.of ?_
  simp [valB, h0]
theorem valB_iff {b : Tb} {p s : Int} : valB b p s = true ↔ chk b = 0 ∧ (0 ≤ p ∧ p ≤ 7) ∧ 0 ≤ s ∧ s ≤ 31 := by simp [valB, inB]
def nextV (b : Tb) (id p : Int) : Int := if valB b p 0 = true then hopB b id p else 0
theorem mnext_c (b : Tb) (hb : b.Sm) (id p : Int) : Contract Tryz.prog 139 [tblT b, .d (.int .i64 id), .d (.int .i64 p)] [] (.d (.int .i64 (nextV b id p))) [] [] := by
 refine contract_of Tryz.func139 rfl (fun E0 => ?_)
 refine awp.sound (g := .mk) (ow := []) (kp := (fun k => k==0||k==1||k==2||k==3||k==6||k==7||k==12)) ?_
 rw [Tryz.ntmps139]
 simp -dsimp [tblT]
 refine ACall.of (mvalid_c b hb p 0) [] 0 ?_
 rcases (Bool.eq_false_or_eq_true (valB b p 0)).symm with h | h
 ·simp -dsimp [tblT, h]
  and_intros
  all_goals try first | rfl | omega | exact ⟨by kernel_rfl⟩
  refine Fin.of ?_
  simp [nextV, h]
 ·simp -dsimp [tblT, h]
  and_intros
  all_goals try first | rfl | omega | exact ⟨by kernel_rfl⟩
  refine ACall.of (trow_c b hb.rows hb.nx id) [] 0 ?_
  simp -dsimp [tblT, rowT, rwT]
  and_intros
  all_goals try first | rfl | omega | exact ⟨by kernel_rfl⟩
  refine ACall.of (next_c2 ((rowOf b id).getD ⟨0, []⟩) p (valB_iff.1 h).2.1 (rowOf_len hb id)) [] 0 ?_
  simp -dsimp [rwT]
  and_intros
  all_goals try first | rfl | omega | exact ⟨by kernel_rfl⟩
  refine Fin.of ?_
  simp [nextV, h, hopB]
theorem hop12_c (b : Tb) (hb : b.Sm) (id p : Int) (hp : 0 ≤ p ∧ p ≤ 7) : Contract Tryz.prog 68 [tblT b, .d (.int .i64 id), .d (.int .i64 p)] [] (.d (.int .i64 (hopB b id p))) [] [] := by
 refine contract_of Tryz.func68 rfl (fun E0 => ?_)
 refine awp.sound (g := .mk) (ow := []) (kp := (fun k => k==0||k==1||k==2||k==3||k==6||k==7||k==8||k==22)) ?_
 rw [Tryz.ntmps68]
 simp -dsimp [tblT]
 refine ACall.of (row11_c b hb.rows hb.nx id) [] 0 ?_
 have hl := rowOf_len hb id
 unfold hopB
 cases hr : rowOf b id with
 | none =>
   simp -dsimp [tblT, rowT, rwT, hr]
   and_intros
   all_goals try first | rfl | omega | exact ⟨by kernel_rfl⟩
   refine Fin.of ?_
   simp [hopR]
 | some x =>
   rw [hr] at hl
   simp only [Option.getD_some] at hl ⊢
   by_cases h0 : x.nx.length = 0
   ·have h0z : (x.nx.length : Int) = 0 := by omega
    simp -dsimp [tblT, rowT, rwT, hr, ints, h0, h0z]
    and_intros
    all_goals try first | rfl | omega | exact ⟨by kernel_rfl⟩
    refine Fin.of ?_
    simp [hopR, h0]
   ·have h0z : ¬ (x.nx.length : Int) = 0 := by omega
    have e : p.tmod x.nx.length = p % x.nx.length := Int.tmod_eq_emod_of_nonneg hp.1
    have m1 := Int.emod_nonneg p (b := (x.nx.length : Int)) (by omega)
    have m2 := Int.emod_lt_of_pos p (b := (x.nx.length : Int)) (by omega)
    have hlt : (p % x.nx.length).toNat < x.nx.length := by omega
    have hg : x.nx[(p % x.nx.length).toNat]? = some x.nx[(p % x.nx.length).toNat] := List.getElem?_eq_getElem hlt
    simp -dsimp [tblT, rowT, rwT, hr, ints, h0, h0z, e, hg]
    and_intros
    all_goals try first | rfl | omega | exact ⟨by kernel_rfl⟩
    refine Fin.of ?_
    simp [hopR, h0, hg]
abbrev Mk := List (Int × BitVec 64)
def mk (m : Mk) : List (Int × D) := m.map fun e => (e.1, bv e.2)
def bget (m : Mk) (k : Int) : BitVec 64 := ((m.find? fun e => decide (k = e.1)).map (·.2)).getD 0#64
def bput : Mk → Int → BitVec 64 → Mk
 | [], k, d => [(k, d)]
 | (k', d') :: es, k, d => if k = k' then (k, d) :: es else (k', d') :: bput es k d
theorem mput_mk (k : Int) (d : BitVec 64) : ∀ m : Mk, mput (mk m) k (bv d) = mk (bput m k d)
 | [] => rfl
 | (k', d') :: es => by
   have ih := mput_mk k d es
   simp only [mk, List.map_cons, mput, bput] at ih ⊢
   split
   ·rfl
   ·simp only [List.map_cons, ih]
theorem mget_cases (k : Int) : ∀ m : Mk, (mget (mk m) k = none ∧ bget m k = 0#64) ∨ mget (mk m) k = some (.int .u64 (tn (bget m k)))
 | [] => .inl ⟨rfl, rfl⟩
 | (k', d') :: es => by
   have ih := mget_cases k es
   simp only [mk, List.map_cons, mget, bget, List.find?_cons] at ih ⊢
   by_cases e : k = k'
   ·exact .inr (by simp [e, bv])
   ·simp only [if_neg e, decide_eq_false e]
    exact ih
theorem orI_z (X : BitVec 64) : orI .u64 0 (tn X) = tn X := by
 rw [Go.Tr.u64_or, wu_tn]
 simp [wu]
def colStep (b : Tb) (p s : Int) (m : Mk) (x : Rw) : Mk := if plSet x.id b.len = s ∧ hopR x p ≠ 0 then bput m (hopR x p) (bget m (hopR x p) ||| (1#64 <<< (plBit x.id b.len).toNat)) else m
def coll (b : Tb) (p s : Int) : Mk := b.rows.foldl (colStep b p s) []
theorem collect_c (b : Tb) (hb : b.Sm) (p s : Int) (hp : 0 ≤ p ∧ p ≤ 7) : Contract Tryz.prog 199 [tblT b, .d (.int .i64 p), .d (.int .i64 s)] [] (.mref 14) [] [(14, .mp (mk (coll b p s)))] := by
 refine contract_of Tryz.func199 rfl (fun E0 => ?_)
 refine awp.sound (g := .mk) (ow := []) (kp := (fun k => k==0||k==1||k==2||k==3||k==6||k==7||k==9||k==10||k==11||k==13||k==16||k==17||k==18||k==19||k==40)) ?_
 rw [Tryz.ntmps199]
 simp -dsimp [tblT, rwsD]
 refine ALoop.of [] (fun k => k==0||k==1||k==2||k==3||k==6||k==7||k==9||k==10||k==11||k==13||k==16||k==17||k==18||k==19||k==40) (ι := { i : Nat // i ≤ b.rows.length })
  (fun z => [(Pl.s 1, It.v (.d (.int .i64 p))), (Pl.s 2, It.v (.d (.int .i64 s))),
   (Pl.o 3, It.box [TV.d (.int .i64 b.r), TV.d (.int .i64 b.sd), TV.d (.int .i64 b.len), TV.d (rwsD b.rows)]), (Pl.s 3, It.v (.ptr (Pl.o 3) 0)), (Pl.s 6, It.v (.c (Value.map none))),
   (Pl.o 14, It.mp (mk ((b.rows.take z.1).foldl (colStep b p s) []))), (Pl.s 7, It.v (.mref 14)),
   (Pl.s 16, It.v (.d (rwsD b.rows))), (Pl.s 17, It.v (.d (.int .i64 b.rows.length))), (Pl.s 18, It.v (.d (.int .i64 z.1)))]) (fun z => b.rows.length - z.1) ⟨0, by omega⟩ ?_ ?_
 ·exact GS.to (by simp [rwsD, mk])
 ·rintro ⟨i, i1⟩
  by_cases hi : i < b.rows.length
  ·have hiz : (i : Int) < b.rows.length := by omega
   have hg : b.rows[i]? = some b.rows[i] := List.getElem?_eq_getElem hi
   have hx := hb.nx _ (List.getElem_mem hi)
   have hs : (b.rows.take (i + 1)).foldl (colStep b p s) [] = colStep b p s ((b.rows.take i).foldl (colStep b p s) []) b.rows[i] := by
    rw [List.take_add_one, hg, Option.toList_some, List.foldl_append]; rfl
   generalize b.rows[i] = x at hg hx hs
   generalize (b.rows.take i).foldl (colStep b p s) [] = m at hs ⊢
   have hpl := plB x.id b.len
   have hb1 := hb.rows
   obtain ⟨pb, hpb⟩ : ∃ n : Nat, plBit x.id b.len = n := ⟨(plBit x.id b.len).toNat, by omega⟩
   simp -dsimp [rwsD, hg, hiz, Rw.cs]
   and_intros
   all_goals try first | rfl | omega | exact ⟨by kernel_rfl⟩
   refine ACall.of (place10_c2 x.id b.len) [] 0 ?_
   simp -dsimp [placeT]
   and_intros
   all_goals try first | rfl | omega | exact ⟨by kernel_rfl⟩
   refine ACall.of (next_c2 x p hp hx) [] 0 ?_
   by_cases c1 : plSet x.id b.len = s
   ·by_cases c2 : hopR x p = 0
    ·simp -dsimp [rwT, c1, c2, wrap_i64 (n := (i : Int) + 1) (by omega) (by omega)]
     and_intros
     all_goals try first | rfl | omega | exact ⟨by kernel_rfl⟩
     exact ⟨⟨i + 1, by omega⟩, GS.to (by simp [rwsD, hs, colStep, c2]), by simp; omega⟩
    ·rcases mget_cases (hopR x p) m with ⟨e1, e2⟩ | e1
     ·simp -dsimp [rwT, c1, c2, e1, orI_z, hpb, wrap_i64 (n := (i : Int) + 1) (by omega) (by omega)]
      and_intros
      all_goals try first | rfl | omega | exact ⟨by kernel_rfl⟩
      have hst : mput (mk m) (hopR x p) (D.int .u64 (tn (1#64 <<< pb))) = mk (colStep b p s m x) := by
       unfold colStep
       rw [if_pos ⟨c1, c2⟩, ← mput_mk, e2, hpb]
       simp [bv]
      exact ⟨⟨i + 1, by omega⟩, GS.to (by simp [rwsD, hs, hst]), by simp; omega⟩
     ·simp -dsimp [rwT, c1, c2, e1, hpb, wrap_i64 (n := (i : Int) + 1) (by omega) (by omega)]
      and_intros
      all_goals try first | rfl | omega | exact ⟨by kernel_rfl⟩
      have hst : mput (mk m) (hopR x p) (D.int .u64 (tn (bget m (hopR x p) ||| 1#64 <<< pb))) = mk (colStep b p s m x) := by
       unfold colStep
       rw [if_pos ⟨c1, c2⟩, ← mput_mk, hpb]
       simp [bv]
      exact ⟨⟨i + 1, by omega⟩, GS.to (by simp [rwsD, hs, hst]), by simp; omega⟩
   ·simp -dsimp [rwT, c1, wrap_i64 (n := (i : Int) + 1) (by omega) (by omega)]
    and_intros
    all_goals try first | rfl | omega | exact ⟨by kernel_rfl⟩
    exact ⟨⟨i + 1, by omega⟩, GS.to (by simp [rwsD, hs, colStep, c1]), by simp; omega⟩
  ·obtain rfl : i = b.rows.length := by omega
   simp -dsimp
   refine Fin.of ?_
   simp [coll]
theorem chk_next {b : Tb} (h : chk b = 0) : ∀ x ∈ b.rows, (1 ≤ x.id ∧ x.id ≤ 256) ∧ ∀ n ∈ x.nx, 1 ≤ n ∧ n ≤ 99 := by
 intro x hx
 have ho : ¬ ∃ x ∈ b.rows, x.out := fun g => by
  by_cases hh : b.head
  ·rw [chk_out hh g] at h; simp at h
  ·rw [chk_head hh] at h; simp at h
 have h1 : ¬ x.out := fun g => ho ⟨x, hx, g⟩
 constructor
 ·exact Classical.byContradiction fun g => h1 (.inl g)
 ·intro n hn
  exact Classical.byContradiction fun g => h1 (.inr ⟨n, hn, g⟩)
theorem hopR_mem {x : Rw} {p : Int} (h : hopR x p ≠ 0) : hopR x p ∈ x.nx := by
 unfold hopR at h ⊢
 split at h
 ·exact absurd rfl h
 ·rename_i h0
  rw [if_neg h0]
  have m1 := Int.emod_nonneg p (b := (x.nx.length : Int)) (by omega)
  have m2 := Int.emod_lt_of_pos p (b := (x.nx.length : Int)) (by omega)
  have hlt : (p % x.nx.length).toNat < x.nx.length := by omega
  rw [List.getD_eq_getElem?_getD, List.getElem?_eq_getElem hlt]
  exact List.getElem_mem hlt
def maskP (b : Tb) (p s n : Int) : BitVec 64 := if valB b p s = true then bget (coll b p s) n else 0#64
theorem mask_c (b : Tb) (hb : b.Sm) (p s n : Int) : Contract Tryz.prog 163 [tblT b, .d (.int .i64 p), .d (.int .i64 s), .d (.int .i64 n)] [] (.d (bv (maskP b p s n))) [] [] := by
 refine contract_of Tryz.func163 rfl (fun E0 => ?_)
 refine awp.sound (g := .mk) (ow := []) (kp := (fun k => k==0||k==1||k==2||k==3||k==4||k==8||k==13)) ?_
 rw [Tryz.ntmps163]
 simp -dsimp [tblT]
 refine ACall.of (mvalid_c b hb p s) [] 0 ?_
 rcases (Bool.eq_false_or_eq_true (valB b p s)).symm with h | h
 ·simp -dsimp [tblT, h]
  and_intros
  all_goals try first | rfl | omega | exact ⟨by kernel_rfl⟩
  refine Fin.of ?_
  simp [maskP, h, bv]
 ·simp -dsimp [tblT, h]
  and_intros
  all_goals try first | rfl | omega | exact ⟨by kernel_rfl⟩
  refine ACall.of (collect_c b hb p s (valB_iff.1 h).2.1) [] 1000 ?_
  rcases mget_cases n (coll b p s) with ⟨e1, e2⟩ | e1
  ·simp -dsimp [tblT, h, e1]
   and_intros
   all_goals try first | rfl | omega | exact ⟨by kernel_rfl⟩
   refine Fin.of ?_
   simp [maskP, h, bv, e2]
  ·simp -dsimp [tblT, h, e1]
   and_intros
   all_goals try first | rfl | omega | exact ⟨by kernel_rfl⟩
   refine Fin.of ?_
   simp [maskP, h, bv]
def bitsR (b : Tb) (p s n : Int) : Nat → BitVec 64
 | 0 => 0#64
 | k + 1 => if atB s k b.len = true ∧ 0 < n ∧ hopB b (s * b.len + k + 1) p = n then bitsR b p s n k ||| bitB k else bitsR b p s n k
theorem bits12_c (b : Tb) (hb : b.Sm) (p s n : Int) (hp : 0 ≤ p ∧ p ≤ 7) (hl : b.len ≤ 1000) : Contract Tryz.prog 146 [tblT b, .d (.int .i64 p), .d (.int .i64 s), .d (.int .i64 n)] [] (.d (bv (bitsR b p s n b.len.toNat))) [] [] := by
 refine contract_of Tryz.func146 rfl (fun E0 => ?_)
 refine awp.sound (g := .mk) (ow := []) (kp := (fun k => k==0||k==1||k==2||k==3||k==4||k==8||k==9||k==10||k==11||k==12||k==16||k==39)) ?_
 rw [Tryz.ntmps146]
 simp -dsimp [tblT]
 refine ALoop.of [] (fun k => k==0||k==1||k==2||k==3||k==4||k==8||k==9||k==10||k==11||k==12||k==16||k==39) (ι := { k : Nat // k ≤ b.len.toNat })
  (fun z => [(Pl.s 1, It.v (.d (.int .i64 p))), (Pl.s 2, It.v (.d (.int .i64 s))), (Pl.s 3, It.v (.d (.int .i64 n))),
   (Pl.o 4, It.box [TV.d (.int .i64 b.r), TV.d (.int .i64 b.sd), TV.d (.int .i64 b.len), TV.d (rwsD b.rows)]), (Pl.s 4, It.v (.ptr (Pl.o 4) 0)),
   (Pl.s 8, It.v (.d (.int IntKind.u64 0))), (Pl.s 9, It.v (.d (bv (bitsR b p s n z.1)))), (Pl.s 10, It.v (.d (.int .i64 z.1)))]) (fun z => b.len.toNat - z.1) ⟨0, by omega⟩ ?_ ?_
 ·exact GS.to (by simp [bitsR, bv])
 ·rintro ⟨k, k1⟩
  by_cases hk : (k : Int) < b.len
  ·simp -dsimp [bv, hk]
   refine ACall.of (at10_c s k b.len) [] 0 ?_
   rcases (Bool.eq_false_or_eq_true (atB s k b.len)).symm with c1 | c1
   ·have hs : bitsR b p s n (k + 1) = bitsR b p s n k := by simp [bitsR, c1]
    simp -dsimp [bv, atT, c1, wrap_i64 (n := (k : Int) + 1) (by omega) (by omega)]
    and_intros
    all_goals try first | rfl | omega | exact ⟨by kernel_rfl⟩
    exact ⟨⟨k + 1, by omega⟩, GS.to (by simp [hs, bv]), by simp; omega⟩
   ·by_cases c2 : 0 < n
    ·simp -dsimp [bv, atT, c1, c2]
     and_intros
     all_goals try first | rfl | omega | exact ⟨by kernel_rfl⟩
     refine ACall.of (hop12_c b hb (s * b.len + k + 1) p hp) [] 0 ?_
     by_cases c3 : hopB b (s * b.len + k + 1) p = n
     ·have hs : bitsR b p s n (k + 1) = bitsR b p s n k ||| bitB k := by simp [bitsR, c1, c2, c3]
      simp -dsimp [bv, tblT, atT, c1, c2, c3]
      and_intros
      all_goals try first | rfl | omega | exact ⟨by kernel_rfl⟩
      refine ACall.of (bit_c k) [] 0 ?_
      simp -dsimp [bv, wrap_i64 (n := (k : Int) + 1) (by omega) (by omega)]
      and_intros
      all_goals try first | rfl | omega | exact ⟨by kernel_rfl⟩
      exact ⟨⟨k + 1, by omega⟩, GS.to (by simp [hs, bv]), by simp; omega⟩
     ·have hs : bitsR b p s n (k + 1) = bitsR b p s n k := by simp [bitsR, c3]
      simp -dsimp [bv, tblT, atT, c1, c2, c3, wrap_i64 (n := (k : Int) + 1) (by omega) (by omega)]
      and_intros
      all_goals try first | rfl | omega | exact ⟨by kernel_rfl⟩
      exact ⟨⟨k + 1, by omega⟩, GS.to (by simp [hs, bv]), by simp; omega⟩
    ·have hs : bitsR b p s n (k + 1) = bitsR b p s n k := by simp [bitsR, c2]
     simp -dsimp [bv, atT, c1, c2, wrap_i64 (n := (k : Int) + 1) (by omega) (by omega)]
     and_intros
     all_goals try first | rfl | omega | exact ⟨by kernel_rfl⟩
     exact ⟨⟨k + 1, by omega⟩, GS.to (by simp [hs, bv]), by simp; omega⟩
  ·have hkk : b.len.toNat = k := by omega
   simp -dsimp [bv, hk]
   refine Fin.of ?_
   simp [bv, hkk]
def maskR (b : Tb) (p s n : Int) : BitVec 64 := if valB b p s = true ∧ 1 ≤ n ∧ n ≤ 99 then bitsR b p s n b.len.toNat else 0#64
theorem chk_len {b : Tb} (h : chk b = 0) : validLen b.len = true ∨ b.len = 0 ∧ b.rows.length = 0 := by
 by_cases hh : b.head
 ·exact hh.2.2
 ·rw [chk_head hh] at h; simp at h
theorem chk_len2 {b : Tb} (h : chk b = 0) : 0 ≤ b.len ∧ b.len ≤ 64 := by
 rcases chk_len h with g | g
 ·simp [validLen] at g; omega
 ·omega
theorem tn_zero {B : BitVec 64} : tn B = 0 ↔ B = 0#64 := by
 constructor
 ·intro h
  apply BitVec.eq_of_toNat_eq
  simpa [tn] using h
 ·rintro rfl; simp [tn]
theorem bget_put (m : Mk) (k n : Int) (d : BitVec 64) : bget (bput m k d) n = if n = k then d else bget m n := by
 induction m with
 | nil =>
   by_cases e : n = k <;> simp [bput, bget, e]
 | cons a m ih =>
   obtain ⟨k', d'⟩ := a
   simp only [bput]
   by_cases e : k = k'
   ·subst e
    rw [if_pos rfl]
    by_cases e2 : n = k <;> simp [bget, e2]
   ·rw [if_neg e]
    by_cases e2 : n = k'
    ·have e3 : ¬ n = k := fun h => e (by rw [← h, e2])
     simp only [bget, List.find?_cons, decide_eq_true e2, if_neg e3]
    ·simp only [bget, List.find?_cons, decide_eq_false e2] at ih ⊢
     exact ih
theorem bit_one {j k : Nat} (hj : j < 64) (hk : k < 64) : (1#64 <<< j).getLsbD k = decide (k = j) := by
 rw [BitVec.getLsbD_shiftLeft]
 by_cases e : k = j
 ·subst e; simp [hk]
 ·simp [hk, e]
  omega
theorem coll_bit (b : Tb) (p s n : Int) {k : Nat} (hk : k < 64) : ∀ (l : List Rw) (m : Mk), (bget (l.foldl (colStep b p s) m) n).getLsbD k = true ↔ (bget m n).getLsbD k = true ∨ ∃ x ∈ l, plSet x.id b.len = s ∧ plBit x.id b.len = k ∧ hopR x p = n ∧ n ≠ 0
 | [], m => by simp
 | x :: l, m => by
   rw [List.foldl_cons, coll_bit b p s n hk l]
   have hpl := plB x.id b.len
   have hs : (bget (colStep b p s m x) n).getLsbD k = true ↔ (bget m n).getLsbD k = true ∨ (plSet x.id b.len = s ∧ plBit x.id b.len = k ∧ hopR x p = n ∧ n ≠ 0) := by
    unfold colStep
    split
    ·rename_i hc
     rw [bget_put]
     by_cases e : n = hopR x p
     ·rw [if_pos e, BitVec.getLsbD_or, bit_one (by omega) hk, Bool.or_eq_true, decide_eq_true_eq, ← e]
      constructor
      ·rintro (h | h)
       ·exact .inl h
       ·exact .inr ⟨hc.1, by omega, rfl, by rw [e]; exact hc.2⟩
      ·rintro (h | h)
       ·exact .inl h
       ·exact .inr (by omega)
     ·rw [if_neg e]
      constructor
      ·exact .inl
      ·rintro (h | h)
       ·exact h
       ·exact absurd h.2.2.1.symm e
    ·rename_i hc
     constructor
     ·exact .inl
     ·rintro (h | h)
      ·exact h
      ·exact absurd ⟨h.1, by rw [h.2.2.1]; exact h.2.2.2⟩ hc
   rw [hs]
   simp only [List.mem_cons, exists_eq_or_imp, or_assoc]
theorem bitB_bit {k j : Nat} (hk : k < 64) (hj : j < 64) : (bitB k).getLsbD j = decide (j = k) := by
 unfold bitB
 rw [if_neg (by omega), wrap_emod]
 have : ((k : Int) % 18446744073709551616).toNat = k := by omega
 rw [this, bit_one hk hj]
theorem bitsR_bit (b : Tb) (p s n : Int) {j : Nat} (hj : j < 64) : ∀ K : Nat, K ≤ 64 → ((bitsR b p s n K).getLsbD j = true ↔ j < K ∧ atB s j b.len = true ∧ 0 < n ∧ hopB b (s * b.len + j + 1) p = n)
 | 0, _ => by simp [bitsR]
 | K + 1, hK => by
   have ih := bitsR_bit b p s n hj K (by omega)
   rw [bitsR]
   split
   ·rename_i hc
    rw [BitVec.getLsbD_or, bitB_bit (by omega) hj, Bool.or_eq_true, decide_eq_true_eq, ih]
    constructor
    ·rintro (h | h)
     ·exact ⟨by omega, h.2⟩
     ·subst h; exact ⟨by omega, hc⟩
    ·rintro ⟨h1, h2⟩
     by_cases e : j = K
     ·exact .inr e
     ·exact .inl ⟨by omega, h2⟩
   ·rename_i hc
    rw [ih]
    constructor
    ·rintro ⟨h1, h2⟩; exact ⟨by omega, h2⟩
    ·rintro ⟨h1, h2⟩
     by_cases e : j = K
     ·subst e; exact absurd h2 hc
     ·exact ⟨by omega, h2⟩
theorem chk_asc {b : Tb} (h : chk b = 0) : b.asc := Classical.byContradiction fun g => by
 unfold chk at h
 split at h
 ·simp at h
 split at h
 ·simp at h
 split at h
 ·simp at h
 split at h
 ·simp at h
 simp at h
theorem rowOf_mem {b : Tb} (h : chk b = 0) {x : Rw} (hx : x ∈ b.rows) : rowOf b x.id = some x := by
 have hasc := (chk_asc h).1
 unfold rowOf
 have : ∀ l : List Rw, (l.map (·.id)).Pairwise (· < ·) → x ∈ l → l.find? (fun y => decide (y.id = x.id)) = some x := by
  intro l
  induction l with
  | nil => intro _ h; simp at h
  | cons y l ih =>
    intro hp hm
    rw [List.map_cons, List.pairwise_cons] at hp
    by_cases e : y.id = x.id
    ·rcases List.mem_cons.1 hm with rfl | hm
     ·simp
     ·have := hp.1 x.id (List.mem_map_of_mem hm)
      omega
    ·rw [List.find?_cons, decide_eq_false e]
     rcases List.mem_cons.1 hm with rfl | hm
     ·exact absurd rfl e
     ·exact ih hp.2 hm
 exact this b.rows hasc hx
theorem maskP_eq (b : Tb) (p s n : Int) : maskP b p s n = maskR b p s n := by
 unfold maskP maskR
 by_cases hv : valB b p s = true
 ·obtain ⟨hc, hp, hs⟩ := valB_iff.1 hv
  have hl := chk_len2 hc
  rw [if_pos hv]
  apply BitVec.eq_of_getLsbD_eq
  intro k hk
  rw [Bool.eq_iff_iff, show coll b p s = b.rows.foldl (colStep b p s) [] from rfl, coll_bit b p s n hk]
  have h0 : ¬ (bget [] n).getLsbD k = true := by simp [bget]
  by_cases hn : 1 ≤ n ∧ n ≤ 99
  ·rw [if_pos ⟨hv, hn⟩, bitsR_bit b p s n hk _ (by omega)]
   constructor
   ·rintro (h | ⟨x, hx, h1, h2, h3, h4⟩)
    ·exact absurd h h0
    ·have hid := (chk_next hc x hx).1
     have hvl : validLen b.len = true := by
      rcases chk_len hc with g | g
      ·exact g
      ·rw [List.length_eq_zero_iff.1 g.2] at hx; simp at hx
     have hin : inB x.id 1 256 = true := by simp [inB, hid]
     have hlp : 0 < b.len := by simp [validLen] at hvl; omega
     simp only [plSet, plBit, hvl, hin, Bool.and_self, if_true] at h1 h2
     have hde := Int.mul_ediv_add_emod (x.id - 1) b.len
     have hmul : b.len * ((x.id - 1) / b.len) = s * b.len := by rw [h1, Int.mul_comm]
     have hml := Int.emod_lt_of_pos (x.id - 1) hlp
     have he : s * b.len + k + 1 = x.id := by omega
     refine ⟨by omega, ?_, by omega, ?_⟩
     ·simp only [atB, hvl, inB, Bool.true_and, Bool.and_eq_true, decide_eq_true_eq]
      exact ⟨by omega, by omega, by omega⟩
     ·rw [he, hopB, rowOf_mem hc hx]; exact h3
   ·rintro ⟨h1, h2, h3, h4⟩
    refine .inr ?_
    simp only [atB, Bool.and_eq_true, decide_eq_true_eq, inB] at h2
    obtain ⟨hvl, ⟨h5, h6⟩, _, h8⟩ := h2
    unfold hopB at h4
    cases hr : rowOf b (s * b.len + k + 1) with
    | none => rw [hr] at h4; simp [hopR] at h4; omega
    | some x =>
      rw [hr] at h4
      have hx : x ∈ b.rows := List.mem_of_find?_eq_some hr
      have hid : x.id = s * b.len + k + 1 := by simpa using List.find?_some hr
      have hlp : 0 < b.len := by simp [validLen] at hvl; omega
      have hi0 : x.id - 1 = k + s * b.len := by omega
      have hin : inB x.id 1 256 = true := by have := (chk_next hc x hx).1; simp [inB, this]
      refine ⟨x, hx, ?_, ?_, h4, by omega⟩
      ·simp only [plSet, hvl, hin, Bool.and_self, if_true]
       rw [hi0, Int.add_mul_ediv_right _ _ (by omega), Int.ediv_eq_zero_of_lt (by omega) (by omega)]
       omega
      ·simp only [plBit, hvl, hin, Bool.and_self, if_true]
       rw [hi0, Int.add_mul_emod_self_right]
       exact Int.emod_eq_of_lt (by omega) (by omega)
  ·rw [if_neg fun h => hn h.2]
   constructor
   ·rintro (h | ⟨x, hx, h1, h2, h3, h4⟩)
    ·exact absurd h h0
    ·have hm := hopR_mem (x := x) (p := p) (by rw [h3]; exact h4)
     rw [h3] at hm
     exact absurd ((chk_next hc x hx).2 n hm) hn
   ·intro h; simp at h
 ·rw [if_neg hv, if_neg fun h => hv h.1]
theorem fullN_bit {j : Nat} (hj : j < 64) : ∀ K : Nat, K ≤ 64 → ((fullN K).getLsbD j = decide (j < K))
 | 0, _ => by simp [fullN]
 | K + 1, hK => by
   rw [fullN, BitVec.getLsbD_or, fullN_bit hj K (by omega), bitB_bit (by omega) hj, Bool.eq_iff_iff]
   simp
   omega
def tz (B : BitVec 64) : Nat := ((List.range 64).find? fun i => B.getLsbD i).getD 64
theorem tz_spec {B : BitVec 64} (h : B ≠ 0#64) : tz B < 64 ∧ B.getLsbD (tz B) = true ∧ ∀ i < tz B, B.getLsbD i = false := by
 unfold tz
 cases hf : (List.range 64).find? fun i => B.getLsbD i with
 | none =>
   exfalso
   apply h
   apply BitVec.eq_of_getLsbD_eq
   intro i hi
   have := List.find?_eq_none.1 hf i (by simpa using hi)
   simpa using this
 | some k =>
   have h1 := List.find?_some hf
   have h2 := List.mem_of_find?_eq_some hf
   refine ⟨by simpa using h2, h1, fun i hi => ?_⟩
   obtain ⟨_, ps, qs, e, ha⟩ := List.find?_eq_some_iff_append.1 hf
   have hi' : i ∈ ps := by
    have hk : ps.length = k := by
     have h3 : (List.range 64)[ps.length]? = some k := by rw [e]; simp
     have h4 : ps.length < 64 := by
      have := congrArg List.length e
      simp at this
      omega
     rw [List.getElem?_range h4] at h3
     exact Option.some.inj h3
    have h5 : (List.range 64)[i]? = some i := List.getElem?_range (by simp at h2 hi; omega)
    rw [e, List.getElem?_append_left (by simp at hi; omega)] at h5
    exact List.mem_of_getElem? h5
   simpa using ha i hi'
theorem low_bit {B : BitVec 64} (h : B ≠ 0#64) : B &&& -B = 1#64 <<< tz B := by
 obtain ⟨h1, h2, h3⟩ := tz_spec h
 apply BitVec.eq_of_getLsbD_eq
 intro i hi
 rw [BitVec.getLsbD_and, BitVec.getLsbD_neg]
 simp only [BitVec.getLsbD_shiftLeft, BitVec.getLsbD_one]
 rcases Nat.lt_trichotomy i (tz B) with g | g | g
 ·simp [h3 i g, g]
 ·have : ¬ ∃ j < i, B.getLsbD j = true := fun ⟨j, hj, e⟩ => by rw [h3 j (by omega)] at e; cases e
  subst g
  rw [h2]
  simp [this, h1]
 ·have : ∃ j < i, B.getLsbD j = true := ⟨_, g, h2⟩
  have e : ¬ i < tz B := by omega
  have e' : ¬ i - tz B = 0 := by omega
  simp [this, e, e', hi]
theorem deb_tz : ∀ k : Nat, k < 64 → deb[(((1#64 <<< k) * 0x03f79d71b4ca8b09#64) >>> 58).toNat]? = some (k : Int) := by decide
theorem wu_mul (X : BitVec 64) (c : Int) : wu (tn X * c) = X * wu c := by
 rw [wu, BitVec.ofInt_mul]
 exact congrArg (· * wu c) (wu_tn X)
theorem wu_neg (X : BitVec 64) : wu (tn (wu (-tn X))) = -X := by
 rw [wu_tn, wu, BitVec.ofInt_neg]
 exact congrArg (- ·) (wu_tn X)
theorem deb_at {B : BitVec 64} (h : B ≠ 0#64) : ∃ v : Nat, shrI IntKind.u64 (IntKind.u64.wrap (tn (B &&& wu (IntKind.u64.wrap (-tn B))) * 285870213051353865)) 58 = v ∧ v < 64 ∧ deb[v]? = some (tz B : Int) := by
 refine ⟨(((1#64 <<< tz B) * 0x03f79d71b4ca8b09#64) >>> 58).toNat, ?_, ?_, deb_tz _ (tz_spec h).1⟩
 ·rw [wrap_tn, wrap_tn, wu_neg, low_bit h, wu_mul, u64_shr]
  rfl
 ·rw [BitVec.toNat_ushiftRight, Nat.shiftRight_eq_div_pow]
  have := ((1#64 <<< tz B) * 0x03f79d71b4ca8b09#64).isLt
  omega
theorem tz64_c (B : BitVec 64) : Contract Tryz.prog 83 [.d (bv B)] [] (.d (.int .i64 (tz B))) [] [] := by
 refine contract_of Tryz.func83 rfl (fun E0 => ?_)
 refine awp.sound (g := .mk) (ow := []) (kp := (fun k => k==0||k==2||k==4)) ?_
 rw [Tryz.ntmps83]
 by_cases h : B = 0#64
 ·subst h
  simp -dsimp [bv]
  refine Fin.of ?_
  simp
  decide
 ·obtain ⟨v, e, hv, hd⟩ := deb_at h
  have ht := (tz_spec h).1
  simp -dsimp [bv, h, e, hd]
  refine ⟨by omega, ?_⟩
  simp -dsimp [bv, h, e, hd, wrap_i64 (n := (tz B : Int)) (by omega) (by omega)]
  refine Fin.of ?_
  simp
def firstI (B : BitVec 64) : Int := if B = 0#64 then -1 else (tz B : Int)
theorem first_c (B : BitVec 64) : Contract Tryz.prog 162 [.d (bv B)] [] (.d (.int .i64 (firstI B))) [] [] := by
 refine contract_of Tryz.func162 rfl (fun E0 => ?_)
 refine awp.sound (g := .mk) (ow := []) (kp := (fun k => k==0||k==2||k==4)) ?_
 rw [Tryz.ntmps162]
 by_cases h : B = 0#64
 ·subst h
  simp -dsimp [bv]
  refine Fin.of ?_
  simp [firstI]
 ·simp -dsimp [bv, h]
  refine ACall.of (tz64_c B) [] 0 ?_
  simp -dsimp
  refine ⟨rfl, Fin.of ?_⟩
  simp [firstI, h]
def bitsL (B : BitVec 64) : List Nat := (List.range 64).filter fun i => B.getLsbD i
theorem clear_bit (B : BitVec 64) (i : Nat) (hi : i < 64) : (B &&& wu (tn B - 1)).getLsbD i = (B.getLsbD i && decide (∃ j < i, B.getLsbD j = true)) := by
 have e : wu (tn B - 1) = ~~~(-B) := by
  rw [BitVec.not_neg, wu, Int.sub_eq_add_neg, BitVec.ofInt_add]
  rw [show BitVec.ofInt 64 (tn B) = B from wu_tn B, show BitVec.ofInt 64 (-1) = -1#64 by decide, BitVec.sub_eq_add_neg]
 rw [e, BitVec.getLsbD_and, BitVec.getLsbD_not, BitVec.getLsbD_neg]
 cases h : B.getLsbD i
 ·simp
 ·simp [hi]
theorem bitsL_step {B : BitVec 64} (h : B ≠ 0#64) : bitsL B = tz B :: bitsL (B &&& wu (tn B - 1)) := by
 obtain ⟨h1, h2, h3⟩ := tz_spec h
 have e : List.range 64 = List.range (tz B) ++ (tz B :: (List.range' (tz B + 1) (63 - tz B))) := by
  rw [← List.range'_succ, List.range_eq_range', List.range_eq_range', show 64 = tz B + (63 - tz B + 1) by omega, ← List.range'_append_1]
  simp
 have f1 : ∀ (C : BitVec 64), (∀ i < tz B, C.getLsbD i = false) → (List.range (tz B)).filter (fun i => C.getLsbD i) = [] := fun C hC => by
  rw [List.filter_eq_nil_iff]
  intro i hi
  simp [hC i (by simpa using hi)]
 have c0 : ∀ i < tz B, (B &&& wu (tn B - 1)).getLsbD i = false := fun i hi => by rw [clear_bit B i (by omega), h3 i hi]; rfl
 have c1 : (B &&& wu (tn B - 1)).getLsbD (tz B) = false := by
  rw [clear_bit B _ h1, h2]
  have : ¬ ∃ j < tz B, B.getLsbD j = true := fun ⟨j, hj, e⟩ => by rw [h3 j hj] at e; cases e
  simp [this]
 unfold bitsL
 rw [e, List.filter_append, List.filter_append, f1 B h3, f1 _ c0, List.filter_cons, List.filter_cons, h2, c1]
 simp only [List.nil_append, if_true, Bool.false_eq_true, if_false, List.cons.injEq, true_and]
 apply List.filter_congr
 intro i hi
 have hi' := List.mem_range'_1.1 hi
 rw [clear_bit B i (by omega)]
 have : ∃ j < i, B.getLsbD j = true := ⟨tz B, by omega, h2⟩
 simp [this]
theorem bitsL_zero : bitsL 0#64 = [] := by simp [bitsL]
theorem bitsL_len (B : BitVec 64) : (bitsL B).length ≤ 64 := by
 have := List.length_filter_le (fun i => B.getLsbD i) (List.range 64)
 simpa [bitsL] using this
def bitsI (B : BitVec 64) : List Int := (bitsL B).map Int.ofNat
theorem bitsI_len (B : BitVec 64) : (bitsI B).length ≤ 64 := by simpa [bitsI] using bitsL_len B
theorem bitsI_step {B : BitVec 64} (h : B ≠ 0#64) : bitsI B = (tz B : Int) :: bitsI (B &&& wu (tn B - 1)) := by simp [bitsI, bitsL_step h]
theorem bitsI_zero : bitsI 0#64 = [] := by simp [bitsI, bitsL_zero]
theorem list_c (B : BitVec 64) : Contract Tryz.prog 165 [.d (bv B)] [] (.d (ints (bitsI B))) [] [] := by
 have hB := bitsI_len B
 refine contract_of Tryz.func165 rfl (fun E0 => ?_)
 refine awp.sound (g := .mk) (ow := []) (kp := (fun k => k==0||k==2||k==3||k==5)) ?_
 rw [Tryz.ntmps165]
 simp -dsimp [bv]
 refine ALoop.of [3] (fun k => k==0||k==2||k==3||k==5) (ι := { z : BitVec 64 × List Int // bitsI B = z.2 ++ bitsI z.1 }) (fun z => [(Pl.s 0, It.v (.d (.int IntKind.u64 (tn z.1.1)))), (Pl.s 2, It.v (.c (Value.slice none 0 0))), (Pl.s 3, It.v (.oref 3 z.1.2.length)), (Pl.o 3, .row 3 1 (dd (nrow .i64 z.1.2)) false)]) (fun z => (bitsI z.1.1).length) ⟨(B, []), by simp⟩ ?_ ?_
 ·exact GS.own' (k := 3) 3 1 (by simp) (by simp) (by simp [nrow])
 ·rintro ⟨⟨R, l⟩, h⟩
  simp only at h
  have hl := congrArg List.length h
  simp only [List.length_append] at hl
  simp -dsimp
  by_cases h0 : R = 0#64
  ·subst h0
   simp -dsimp
   refine Fin.view 2 ?_
   simp -dsimp
   refine Fin.of ?_
   simp [h, bitsI_zero, ints, nrow]
  ·have hs := bitsI_step h0
   have hf := first_c R
   simp only [bv] at hf
   have ht := (tz_spec h0).1
   rw [hs] at hl
   simp only [List.length_cons] at hl
   simp -dsimp [h0]
   refine ACall.of hf [] 0 ?_
   have e : firstI R = (tz R : Int) := by simp [firstI, h0]
   rw [e]
   simp -dsimp [h0]
   and_intros
   all_goals try first | rfl | omega | exact ⟨by kernel_rfl⟩
   refine ⟨⟨(R &&& wu (tn R - 1), l ++ [(tz R : Int)]), by simp [h, hs]⟩, GS.to (by simp [nrow, wrap_tn]), by simp [hs]⟩
end Go.Proofs

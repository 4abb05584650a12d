/-
  What functions of the program compute, stated as contracts over plain data; the conditions of each stand in its own statement.
-/
import Derived.Test.YtjgeggdefiejbaaGreatDoorZM33
import Derived.Test.YtjgeggdefiejbaaGreatDoorZM23
set_option linter.unusedSimpArgs false
set_option maxRecDepth 100000
set_option maxHeartbeats 8000000
namespace Go.Proofs
open Go Go.Tr
def flR (r : Int) (L : List Int) : List Int := L.filter fun y => decide (y ≠ r)
def splNx (rs : List Rt) (r : Int) (T : Tp) : List Int × Tp :=
 let s := gNext T 4
 if s.1 = 0 then ([r], s.2) else if s.1 = 1 then ([], s.2) else (flR r (gSome rs s.2 2).1, (gSome rs s.2 2).2)
def splT (rs : List Rt) (l : List Tb) (T : Tp) : (List Tb × Int × Int) × Tp :=
 if l.length = 0 then ((l, 0, 0), T) else
 let k := gNext T l.length
 let b := l.getD k.1.toNat tb0
 if b.rows.length = 0 then ((l, 0, 0), k.2) else
 let j := gNext k.2 b.rows.length
 let x := b.rows.getD j.1.toNat ⟨0, []⟩
 let s := splNx rs b.r j.2
 ((l.set k.1.toNat ⟨b.r, b.sd, b.len, b.rows.set j.1.toNat ⟨x.id, s.1⟩⟩, b.r, x.id), s.2)
@[simp] theorem splNx_okF (rs : List Rt) (r : Int) (T : Tp) : TapeF (splNx rs r T).2 = TapeF T := by
 unfold splNx
 simp only
 split
 ·simp
 ·split <;> simp
@[simp] theorem splT_okF (rs : List Rt) (l : List Tb) (T : Tp) : TapeF (splT rs l T).2 = TapeF T := by
 unfold splT
 split
 ·rfl
 ·simp only
  split <;> simp
theorem toDs_mapd : ∀ l : List D, toDs (l.map TV.d) = some l
 | [] => rfl
 | x :: l => by simp [toDs, toD, toDs_mapd l]
theorem toDss_set : ∀ (xs : List (List D)) (j : Nat) {e : List TV} {y : List D}, toDs e = some y → toDss ((dd xs).set j e) = some (xs.set j y)
 | [], _, _, _, _ => rfl
 | x :: xs, 0, e, y, h => by simp [dd_cons, toDss, h, show toDss (dd xs) = some xs from toDss_dd xs]
 | x :: xs, j + 1, e, y, h => by
   have ih := toDss_set xs j h
   simp [dd_cons, toDss, ih, toDs_mapd]
def spC (F : List Int) : TV := match F with
 | [] => .c (.slice none 0 0)
 | x :: F => .oref 83 (x :: F).length
def spO (e : TypeId) (F : List Int) : List (Pl × It) := match F with
 | [] => []
 | x :: F => [(Pl.o 83, It.row e 1 (dd (nrow .i64 (x :: F))) false)]
theorem rowsOnly_set {po : Nat → Prop} {es : List (List TV)} {k : Nat} {r : List TV} (h : rowsOnly po es) (g : TV.onlys po r) : rowsOnly po (es.set k r) := by
 intro e he
 rcases List.mem_or_eq_of_mem_set he with h1 | rfl
 ·exact h e h1
 ·exact g
theorem spoil_c (T : Tp) (hT : TapeF T) (g : Topo) (hg : 0 < g.rs.length ∧ g.rs.length ≤ 100) (l : List Tb) (hl : SmL l) : Contract Tryz.prog 64 [.ptr (.x 0) 0, .d (.sl (tbs l)), topT g] [tapeI T] (.tup [.d (.sl (tbs (splT g.rs l T).1.1)), .d (.int .i64 (splT g.rs l T).1.2.1), .d (.int .i64 (splT g.rs l T).1.2.2)]) [tapeI (splT g.rs l T).2] [] := by
 have hn := hl.n
 have dl : dLen 4 (tbs l) := dLen_map 4 _ _ fun _ => rfl
 refine contract_of Tryz.func64 rfl (fun E0 => ?_)
 refine awp.sound (g := .mk) (ow := [15, 37]) (kp := (fun k => k==0||k==1||k==2||k==5||k==6||k==7||k==8||k==9||k==10||k==11||k==12||k==14||k==20||k==34||k==61||k==64||k==65||k==66||k==67||k==75||k==87||k==97)) ?_
 rw [Tryz.ntmps64]
 by_cases h0 : l.length = 0
 ·have hnil : l = [] := List.length_eq_zero_iff.1 h0
  have h0z : (l.length : Int) = 0 := by omega
  have hS : splT g.rs l T = ((l, 0, 0), T) := by unfold splT; rw [if_pos h0]
  rw [hS]
  subst hnil
  simp -dsimp [topT, tbs]
  and_intros
  all_goals try first | omega | exact ⟨by kernel_rfl⟩ | rfl
  refine Fin.view 6 ?_
  simp -dsimp
  and_intros
  all_goals try first | omega | exact ⟨by kernel_rfl⟩ | rfl
  refine Fin.of ?_
  simp
 have h0z : ¬ (l.length : Int) = 0 := by omega
 have hnil : ¬ l = [] := fun e => h0 (by rw [e]; rfl)
 have k1 := gNext_nonneg T l.length
 have k2 := gNext_lt T (n := l.length) (by omega)
 have hc := nextF_c T hT l.length ⟨by omega, by omega⟩
 have kK : TapeF (gNext T l.length).2 := by simpa using hT
 have hS : splT g.rs l T = if (l.getD (gNext T l.length).1.toNat tb0).rows.length = 0 then ((l, 0, 0), (gNext T l.length).2) else
  (let b := l.getD (gNext T l.length).1.toNat tb0
   let j := gNext (gNext T l.length).2 b.rows.length
   let x := b.rows.getD j.1.toNat ⟨0, []⟩
   let s := splNx g.rs b.r j.2
   ((l.set (gNext T l.length).1.toNat ⟨b.r, b.sd, b.len, b.rows.set j.1.toNat ⟨x.id, s.1⟩⟩, b.r, x.id), s.2)) := by
  rw [splT, if_neg h0]
 generalize gNext T (l.length : Int) = K at k1 k2 hc kK hS
 obtain ⟨k', T1⟩ := K
 simp only at k1 k2 hc kK hS
 obtain ⟨k, rfl⟩ : ∃ k : Nat, k' = k := ⟨k'.toNat, by omega⟩
 simp only [Int.toNat_natCast] at hS
 have hk : k < l.length := by omega
 have hge : l[k]? = some l[k] := List.getElem?_eq_getElem hk
 have hgd : l.getD k tb0 = l[k] := by rw [List.getD_eq_getElem?_getD, hge]; rfl
 have hbs := hl.t l[k] (List.getElem_mem hk)
 rw [hgd] at hS
 obtain ⟨b, hb0⟩ : ∃ b, l[k] = b := ⟨_, rfl⟩
 rw [hb0] at hge hbs hS
 simp -dsimp [topT, h0, h0z, hnil]
 and_intros
 all_goals try first | omega | exact ⟨by kernel_rfl⟩ | rfl | exact dl
 refine ACall.of hc [.x 0] 0 ?_
 have htl : (dd (tbs l)).length = l.length := by simp [dd, tbs]
 have hat : ∀ h : k < (dd (tbs l)).length, (dd (tbs l))[k] = [TV.d (.int .i64 b.r), TV.d (.int .i64 b.sd), TV.d (.int .i64 b.len), TV.d (rwsD b.rows)] := fun h => by simp [dd, tbs, Tb.cs, hb0]
 by_cases hr0 : b.rows.length = 0
 ·rw [if_pos hr0] at hS
  rw [hS]
  simp -dsimp [hk, hge, hb0, hr0, htl, hat, rwsD_eq, List.length_eq_zero_iff.1 hr0]
  and_intros
  all_goals try first | omega | exact ⟨by kernel_rfl⟩ | rfl
  refine Fin.view 6 ?_
  simp -dsimp
  and_intros
  all_goals try first | omega | exact ⟨by kernel_rfl⟩ | rfl
  refine Fin.of ?_
  simp
 rw [if_neg hr0] at hS
 have hrnil : ¬ b.rows = [] := fun e => hr0 (by rw [e]; rfl)
 have hrl := hbs.rows
 have dl2 : dLen 2 (rws b.rows) := dLen_map 2 _ _ fun _ => rfl
 have j1 := gNext_nonneg T1 b.rows.length
 have j2 := gNext_lt T1 (n := b.rows.length) (by omega)
 have hd := nextF_c T1 kK b.rows.length ⟨by omega, by omega⟩
 have kJ : TapeF (gNext T1 b.rows.length).2 := by simpa using kK
 try simp only at hS
 generalize gNext T1 (b.rows.length : Int) = J at j1 j2 hd kJ hS
 obtain ⟨j', T2⟩ := J
 simp only at j1 j2 hd kJ hS
 obtain ⟨j, rfl⟩ : ∃ j : Nat, j' = j := ⟨j'.toNat, by omega⟩
 simp only [Int.toNat_natCast] at hS
 have hj : j < b.rows.length := by omega
 obtain ⟨x, hx0⟩ : ∃ x, b.rows[j] = x := ⟨_, rfl⟩
 have hxd : b.rows.getD j ⟨0, []⟩ = x := by rw [List.getD_eq_getElem?_getD, List.getElem?_eq_getElem hj, hx0]; rfl
 rw [hxd] at hS
 have hat2 : ∀ h : j < (dd (rws b.rows)).length, (dd (rws b.rows))[j] = [TV.d (.int .i64 x.id), TV.d (ints x.nx)] := fun h => by simp [dd, rws, Rw.cs, hx0]
 have hrl2 : (dd (rws b.rows)).length = b.rows.length := by simp [dd, rws]
 simp -dsimp [hk, hge, hb0, hr0, hrnil, htl, hat, rwsD_eq]
 and_intros
 all_goals try first | omega | exact ⟨by kernel_rfl⟩ | rfl | exact dl2
 refine ACall.of hd [.x 0] 0 ?_
 have hN : splNx g.rs b.r T2 = if (gNext T2 4).1 = 0 then ([b.r], (gNext T2 4).2) else if (gNext T2 4).1 = 1 then ([], (gNext T2 4).2) else (flR b.r (gSome g.rs (gNext T2 4).2 2).1, (gSome g.rs (gNext T2 4).2 2).2) := rfl
 have h4 := nextF_c T2 kJ 4 ⟨by omega, by omega⟩
 have kS : TapeF (gNext T2 4).2 := by simpa using kJ
 generalize gNext T2 4 = S at h4 kS hN
 simp -dsimp [hk, hj, hat2, hrl2, htl, hr0]
 and_intros
 all_goals try first | omega | exact ⟨by kernel_rfl⟩ | rfl
 refine ACall.of h4 [.x 0] 0 ?_
 by_cases s0 : S.1 = 0
 ·rw [if_pos s0] at hN
  rw [hN] at hS
  rw [hS]
  simp -dsimp [s0, hk, hj, hat2, hrl2, htl]
  and_intros
  all_goals try first | omega | exact ⟨by kernel_rfl⟩ | rfl
  refine Fin.seeRow 15 k 3 37 (e0 := 37) (k0 := 4) (es0 := (dd (tbs l)).set k [TV.d (.int .i64 b.r), TV.d (.int .i64 b.sd), TV.d (.int .i64 b.len), TV.oref 37 b.rows.length]) (sh0 := false) (r := [TV.d (.int .i64 b.r), TV.d (.int .i64 b.sd), TV.d (.int .i64 b.len), TV.oref 37 b.rows.length]) (n := b.rows.length) (e := 95) (k := 2) (es := (dd (rws b.rows)).set j [TV.d (.int .i64 x.id), TV.d (ints [b.r])]) (sh := false) (xs := (rws b.rows).set j [D.int .i64 x.id, ints [b.r]]) (by simp) (by omega) (by simp [hk, htl]) (by simp) (by simp [ints]) (by simp [hrl2]) (toDss_set _ _ (by simp [toDs, toD, ints])) ?_
  have hx2 : toDss ((dd (tbs l)).set k [TV.d (.int .i64 b.r), TV.d (.int .i64 b.sd), TV.d (.int .i64 b.len), TV.d (.sl ((rws b.rows).set j [D.int .i64 x.id, ints [b.r]]))]) = some ((tbs l).set k [D.int .i64 b.r, D.int .i64 b.sd, D.int .i64 b.len, D.sl ((rws b.rows).set j [D.int .i64 x.id, ints [b.r]])]) := toDss_set _ _ (by simp [toDs, toD])
  simp only [ints, List.map_cons, List.map_nil] at hx2
  refine Fin.view 6 ?_
  simp -dsimp [hx2, htl, ints]
  and_intros
  all_goals try first | omega | exact ⟨by kernel_rfl⟩ | rfl
  refine Fin.of ?_
  simp [tbs, Tb.cs, rwsD, rws, Rw.cs, ints, List.map_set]
 rw [if_neg s0] at hN
 by_cases s1 : S.1 = 1
 ·rw [if_pos s1] at hN
  rw [hN] at hS
  rw [hS]
  simp -dsimp [s0, s1, hk, hj, hat2, hrl2, htl]
  and_intros
  all_goals try first | omega | exact ⟨by kernel_rfl⟩ | rfl
  refine Fin.seeRow 15 k 3 37 (e0 := 37) (k0 := 4) (es0 := (dd (tbs l)).set k [TV.d (.int .i64 b.r), TV.d (.int .i64 b.sd), TV.d (.int .i64 b.len), TV.oref 37 b.rows.length]) (sh0 := false) (r := [TV.d (.int .i64 b.r), TV.d (.int .i64 b.sd), TV.d (.int .i64 b.len), TV.oref 37 b.rows.length]) (n := b.rows.length) (e := 95) (k := 2) (es := (dd (rws b.rows)).set j [TV.d (.int .i64 x.id), TV.c (Value.slice none 0 0)]) (sh := false) (xs := (rws b.rows).set j [D.int .i64 x.id, ints []]) (by simp) (by omega) (by simp [hk, htl]) (by simp) (by simp [ints]) (by simp [hrl2]) (toDss_set _ _ (by simp [toDs, toD, ints])) ?_
  have hx2 : toDss ((dd (tbs l)).set k [TV.d (.int .i64 b.r), TV.d (.int .i64 b.sd), TV.d (.int .i64 b.len), TV.d (.sl ((rws b.rows).set j [D.int .i64 x.id, ints []]))]) = some ((tbs l).set k [D.int .i64 b.r, D.int .i64 b.sd, D.int .i64 b.len, D.sl ((rws b.rows).set j [D.int .i64 x.id, ints []])]) := toDss_set _ _ (by simp [toDs, toD])
  simp only [ints, List.map_cons, List.map_nil] at hx2
  refine Fin.view 6 ?_
  simp -dsimp [hx2, htl, ints]
  and_intros
  all_goals try first | omega | exact ⟨by kernel_rfl⟩ | rfl
  refine Fin.of ?_
  simp [tbs, Tb.cs, rwsD, rws, Rw.cs, ints, List.map_set]
 rw [if_neg s1] at hN
 rw [hN] at hS
 rw [hS]
 have hSo := some_c S.2 kS g hg 2 (by omega)
 simp only [topT] at hSo
 have hUl : (gSome g.rs S.2 2).1.length ≤ 1000 := by
  have q1 := gNext_lt S.2 (n := 2 + 1) (by omega)
  have q2 := nSome_len g.rs (gNext S.2 (2 + 1)).2 (gNext S.2 (2 + 1)).1.toNat
  have : (gSome g.rs S.2 2).1.length ≤ (gNext S.2 (2 + 1)).1.toNat := q2
  omega
 generalize gSome g.rs S.2 2 = U at hSo hUl ⊢
 obtain ⟨U, T5⟩ := U
 simp only at hSo hUl ⊢
 simp -dsimp [s0, s1, hk, hj, hat2, hrl2, htl]
 and_intros
 all_goals try first | omega | exact ⟨by kernel_rfl⟩ | rfl
 refine ACall.of hSo [.x 0] 0 ?_
 simp -dsimp [ints]
 and_intros
 all_goals try first | omega | exact ⟨by kernel_rfl⟩ | rfl
 refine ALoop.of [15, 37] (fun k => k==0||k==1||k==2||k==5||k==6||k==7||k==8||k==9||k==10||k==11||k==12||k==14||k==20||k==34||k==61||k==64||k==65||k==66||k==67||k==75||k==87||k==97) (ι := { i : Nat // i ≤ U.length })
  (fun z => (Pl.s 0, It.v (.ptr (Pl.x 0) 0)) :: (Pl.x 0, tapeI T5) :: (Pl.s 6, It.v (.c (Value.slice none 0 0))) :: (Pl.s 9, It.v (.oref 15 l.length)) :: (Pl.s 11, It.v (.eptr 15 l.length k 0)) :: (Pl.s 12, It.v (.eptr 37 b.rows.length j 0)) :: (Pl.s 64, It.v (.d (ints U))) :: (Pl.s 65, It.v (.d (.int .i64 U.length))) :: (Pl.s 66, It.v (.d (.int .i64 z.1))) ::
   (Pl.o 15, It.row 37 4 ((dd (tbs l)).set k [TV.d (.int .i64 b.r), TV.d (.int .i64 b.sd), TV.d (.int .i64 b.len), TV.oref 37 b.rows.length]) false) :: (Pl.o 37, It.row 95 2 ((dd (rws b.rows)).set j [TV.d (.int .i64 x.id), spC (flR b.r (U.take z.1))]) false) :: spO 3 (flR b.r (U.take z.1)))
  (fun z => U.length - z.1) ⟨0, by omega⟩ ?_ ?_
 ·exact GS.to (by simp [spC, spO, ints, flR]; exact ⟨rowsOnly_set (by simp) (by simp), rowsOnly_set (by simp) (by simp)⟩)
 rintro ⟨i, i1⟩
 by_cases hi : i < U.length
 ·have hiz : (i : Int) < U.length := by omega
  have hgu : U[i]? = some U[i] := List.getElem?_eq_getElem hi
  obtain ⟨u, hu0⟩ : ∃ u, U[i] = u := ⟨_, rfl⟩
  rw [hu0] at hgu
  have hFl : (flR b.r (U.take i)).length ≤ i := Nat.le_trans (List.length_filter_le _ _) (by rw [List.length_take]; omega)
  have hF : flR b.r (U.take (i + 1)) = flR b.r (U.take i) ++ if u = b.r then [] else [u] := by
   rw [List.take_add_one, hgu, flR, List.filter_append]
   by_cases e : u = b.r <;> simp [e, flR]
  by_cases hub : u = b.r
  ·rw [if_pos hub, List.append_nil] at hF
   generalize flR b.r (U.take i) = F at hFl hF ⊢
   cases F with
   | nil =>
     simp -dsimp [hi, hiz, hgu, hu0, hub, hk, hj, htl, hrl2, ints, spC, spO, wrap_i64 (n := (i : Int) + 1) (by omega) (by omega)]
     and_intros
     all_goals try first | omega | exact ⟨by kernel_rfl⟩ | rfl | exact hu0 | (simp at hFl; omega)
     exact ⟨⟨i + 1, by omega⟩, GS.to (by simp [hF, spC, spO, ints, nrow]; exact ⟨rowsOnly_set (by simp) (by simp), rowsOnly_set (by simp) (by simp)⟩), by simp; omega⟩
   | cons f F =>
     simp -dsimp [hi, hiz, hgu, hu0, hub, hk, hj, htl, hrl2, ints, spC, spO, wrap_i64 (n := (i : Int) + 1) (by omega) (by omega)]
     and_intros
     all_goals try first | omega | exact ⟨by kernel_rfl⟩ | rfl | exact hu0 | (simp at hFl; omega)
     exact ⟨⟨i + 1, by omega⟩, GS.to (by simp [hF, spC, spO, ints, nrow]; exact ⟨rowsOnly_set (by simp) (by simp), rowsOnly_set (by simp) (by simp)⟩), by simp; omega⟩
  ·rw [if_neg hub] at hF
   generalize flR b.r (U.take i) = F at hFl hF ⊢
   cases F with
   | nil =>
     simp -dsimp [hi, hiz, hgu, hu0, hub, hk, hj, htl, hrl2, ints, spC, spO, wrap_i64 (n := (i : Int) + 1) (by omega) (by omega)]
     and_intros
     all_goals try first | omega | exact ⟨by kernel_rfl⟩ | rfl | exact hu0 | (simp at hFl; omega)
     exact ⟨⟨i + 1, by omega⟩, GS.to (by simp [hF, spC, spO, ints, nrow]; exact ⟨rowsOnly_set (by simp) (by simp), rowsOnly_set (by simp) (by simp)⟩), by simp; omega⟩
   | cons f F =>
     simp -dsimp [hi, hiz, hgu, hu0, hub, hk, hj, htl, hrl2, ints, spC, spO, wrap_i64 (n := (i : Int) + 1) (by omega) (by omega)]
     and_intros
     all_goals try first | omega | exact ⟨by kernel_rfl⟩ | rfl | exact hu0 | (simp at hFl; omega)
     exact ⟨⟨i + 1, by omega⟩, GS.to (by simp [hF, spC, spO, ints, nrow]; exact ⟨rowsOnly_set (by simp) (by simp), rowsOnly_set (by simp) (by simp)⟩), by simp; omega⟩
 ·have hiz : ¬ (i : Int) < U.length := by omega
  obtain rfl : i = U.length := by omega
  rw [List.take_length]
  generalize flR b.r U = F
  cases F with
  | nil =>
    simp -dsimp [hiz, hk, hj, hat2, hrl2, htl, spC, spO]
    and_intros
    all_goals try first | omega | exact ⟨by kernel_rfl⟩ | rfl
    refine Fin.seeRow 15 k 3 37 (e0 := 37) (k0 := 4) (es0 := (dd (tbs l)).set k [TV.d (.int .i64 b.r), TV.d (.int .i64 b.sd), TV.d (.int .i64 b.len), TV.oref 37 b.rows.length]) (sh0 := false) (r := [TV.d (.int .i64 b.r), TV.d (.int .i64 b.sd), TV.d (.int .i64 b.len), TV.oref 37 b.rows.length]) (n := b.rows.length) (e := 95) (k := 2) (es := (dd (rws b.rows)).set j [TV.d (.int .i64 x.id), TV.c (Value.slice none 0 0)]) (sh := false) (xs := (rws b.rows).set j [D.int .i64 x.id, ints []]) (by simp) (by omega) (by simp [hk, htl]) (by simp) (by simp [ints]) (by simp [hrl2]) (toDss_set _ _ (by simp [toDs, toD, ints])) ?_
    have hx2 : toDss ((dd (tbs l)).set k [TV.d (.int .i64 b.r), TV.d (.int .i64 b.sd), TV.d (.int .i64 b.len), TV.d (.sl ((rws b.rows).set j [D.int .i64 x.id, ints []]))]) = some ((tbs l).set k [D.int .i64 b.r, D.int .i64 b.sd, D.int .i64 b.len, D.sl ((rws b.rows).set j [D.int .i64 x.id, ints []])]) := toDss_set _ _ (by simp [toDs, toD])
    simp only [ints, List.map_cons, List.map_nil] at hx2
    refine Fin.view 6 ?_
    simp -dsimp [hx2, htl, ints]
    and_intros
    all_goals try first | omega | exact ⟨by kernel_rfl⟩ | rfl
    refine Fin.of ?_
    simp [tbs, Tb.cs, rwsD, rws, Rw.cs, ints, List.map_set]
  | cons f F =>
    simp -dsimp [hiz, hk, hj, hat2, hrl2, htl, spC, spO]
    and_intros
    all_goals try first | omega | exact ⟨by kernel_rfl⟩ | rfl
    refine Fin.seeRow 37 j 1 83 (e0 := 95) (k0 := 2) (es0 := (dd (rws b.rows)).set j [TV.d (.int .i64 x.id), TV.oref 83 (f :: F).length]) (sh0 := false) (r := [TV.d (.int .i64 x.id), TV.oref 83 (f :: F).length]) (n := (f :: F).length) (e := 3) (k := 1) (es := dd (nrow .i64 (f :: F))) (sh := false) (xs := nrow .i64 (f :: F)) (by simp) (by omega) (by simp [hj, hrl2]) (by simp) (by simp [nrow]) (by simp [nrow]) (toDss_dd _) ?_
    simp -dsimp [nrow]
    refine Fin.seeRow 15 k 3 37 (e0 := 37) (k0 := 4) (es0 := (dd (tbs l)).set k [TV.d (.int .i64 b.r), TV.d (.int .i64 b.sd), TV.d (.int .i64 b.len), TV.oref 37 b.rows.length]) (sh0 := false) (r := [TV.d (.int .i64 b.r), TV.d (.int .i64 b.sd), TV.d (.int .i64 b.len), TV.oref 37 b.rows.length]) (n := b.rows.length) (e := 95) (k := 2) (es := (dd (rws b.rows)).set j [TV.d (.int .i64 x.id), TV.d (ints (f :: F))]) (sh := false) (xs := (rws b.rows).set j [D.int .i64 x.id, ints (f :: F)]) (by simp) (by omega) (by simp [hk, htl]) (by simp) (by simp [ints]) (by simp [hrl2]) (toDss_set _ _ (by simp [toDs, toD, ints])) ?_
    have hx2 : toDss ((dd (tbs l)).set k [TV.d (.int .i64 b.r), TV.d (.int .i64 b.sd), TV.d (.int .i64 b.len), TV.d (.sl ((rws b.rows).set j [D.int .i64 x.id, ints (f :: F)]))]) = some ((tbs l).set k [D.int .i64 b.r, D.int .i64 b.sd, D.int .i64 b.len, D.sl ((rws b.rows).set j [D.int .i64 x.id, ints (f :: F)])]) := toDss_set _ _ (by simp [toDs, toD])
    simp only [ints, List.map_cons, List.map_nil] at hx2
    refine Fin.view 6 ?_
    simp -dsimp [hx2, htl, ints]
    and_intros
    all_goals try first | omega | exact ⟨by kernel_rfl⟩ | rfl
    refine Fin.of ?_
    simp [tbs, Tb.cs, rwsD, rws, Rw.cs, ints, List.map_set]
end Go.Proofs

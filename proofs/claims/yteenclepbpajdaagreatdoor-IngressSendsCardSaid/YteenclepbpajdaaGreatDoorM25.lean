/-
  What functions of the program compute, stated as contracts over plain data; the conditions of each stand in its own statement.
-/
import Derived.Test.YteenclepbpajdaaGreatDoorM24
import Derived.Test.YteenclepbpajdaaGreatDoorM15
import Derived.Test.YteenclepbpajdaaGreatDoorM18
import Derived.Test.YteenclepbpajdaaGreatDoorM21
set_option linter.unusedSimpArgs false
set_option maxRecDepth 100000
set_option maxHeartbeats 2000000
namespace Go.Proofs
open Go Go.Tr
def wrR (r n : Int) (T : Tp) (x : Rw) : Rw × Tp :=
 let o := gOne T 3
 if o.1 = false then (x, o.2) else
 let s := gNext o.2 4
 if s.1 = 0 then (⟨x.id, []⟩, s.2)
 else if s.1 = 1 then (⟨x.id, [r]⟩, s.2)
 else
  let a := gNext s.2 (n + 1)
  let m := gNext a.2 n
  (⟨x.id, if 1 + a.1 < 1 + m.1 ∧ 1 + a.1 ≠ r ∧ 1 + m.1 ≠ r then [1 + a.1, 1 + m.1] else if 1 + a.1 ≠ r then [1 + a.1] else x.nx⟩, m.2)
def wrRs (r n : Int) : List Rw → Tp → List Rw × Tp
 | [], T => ([], T)
 | x :: l, T => ((wrR r n T x).1 :: (wrRs r n l (wrR r n T x).2).1, (wrRs r n l (wrR r n T x).2).2)
def wrT (n : Int) : List Tb → Tp → List Tb × Tp
 | [], T => ([], T)
 | b :: l, T => (⟨b.r, b.sd, b.len, (wrRs b.r n b.rows T).1⟩ :: (wrT n l (wrRs b.r n b.rows T).2).1, (wrT n l (wrRs b.r n b.rows T).2).2)
theorem wrR_tape (r n : Int) (T : Tp) (x : Rw) : TapeOK (wrR r n T x).2 = TapeOK T := by
 unfold wrR
 simp only
 split
 ·simp
 split
 ·simp
 split <;> simp
theorem wrRs_tape (r n : Int) : ∀ (l : List Rw) (T : Tp), TapeOK (wrRs r n l T).2 = TapeOK T
 | [], _ => rfl
 | x :: l, T => by rw [wrRs]; exact (wrRs_tape r n l _).trans (wrR_tape r n T x)
theorem wrT_tape (n : Int) : ∀ (l : List Tb) (T : Tp), TapeOK (wrT n l T).2 = TapeOK T
 | [], _ => rfl
 | b :: l, T => by rw [wrT]; exact (wrT_tape n l _).trans (wrRs_tape b.r n b.rows T)
theorem wrR_len (r n : Int) (T : Tp) (x : Rw) : (wrR r n T x).1.nx.length ≤ x.nx.length + 2 := by
 unfold wrR
 simp only
 split
 ·simp
 split
 ·simp
 split
 ·simp
 ·simp only
  split
  ·simp
  ·split <;> simp
theorem wrRs_len (r n : Int) : ∀ (l : List Rw) (T : Tp), (wrRs r n l T).1.length = l.length
 | [], _ => rfl
 | x :: l, T => by simp [wrRs, wrRs_len r n l]
theorem wrRs_nx (r n : Int) (k : Nat) : ∀ (l : List Rw) (T : Tp), (∀ x ∈ l, x.nx.length ≤ k) → ∀ x ∈ (wrRs r n l T).1, x.nx.length ≤ k + 2
 | [], _, _, x, hx => by simp [wrRs] at hx
 | y :: l, T, h, x, hx => by
   simp only [wrRs, List.mem_cons] at hx
   rcases hx with rfl | hx
   ·have := wrR_len r n T y; have := h y (by simp); omega
   ·exact wrRs_nx r n k l _ (fun z hz => h z (by simp [hz])) x hx
theorem wrT_len (n : Int) : ∀ (l : List Tb) (T : Tp), (wrT n l T).1.length = l.length
 | [], _ => rfl
 | b :: l, T => by simp [wrT, wrT_len n l]
theorem wrT_sm (n : Int) : ∀ (l : List Tb) (T : Tp), (∀ b ∈ l, b.rows.length ≤ 256 ∧ ∀ x ∈ b.rows, x.nx.length ≤ 24) → ∀ b ∈ (wrT n l T).1, b.Sm
 | [], _, _, b, hb => by simp [wrT] at hb
 | c :: l, T, h, b, hb => by
   simp only [wrT, List.mem_cons] at hb
   rcases hb with rfl | hb
   ·have h1 := h c (by simp)
    exact ⟨by simp only [wrRs_len]; omega, fun x hx => by have := wrRs_nx c.r n 24 c.rows T h1.2 x hx; omega⟩
   ·exact wrT_sm n l _ (fun z hz => h z (by simp [hz])) b hb
theorem wrong_c (T : Tp) (hT : TapeOK T) (l : List Tb) (hl : SmL l) (n : Int) (hn : 1 ≤ n ∧ n ≤ 1000) : Contract Tryz.prog 26 [.ptr (.x 0) 0, .d (.sl (tbs l)), .d (.int .i64 n)] [tapeI T] (.d (.sl (tbs (wrT n l T).1))) [tapeI (wrT n l T).2] [] := by
 have hll := hl.n
 refine contract_of Tryz.func26 rfl (fun E0 => ?_)
 refine awp.sound (g := .mk) (ow := []) (kp := (fun k => k==0||k==1||k==2||k==6||k==7||k==8||k==9||k==10||k==11||k==12||k==16||k==28||k==33||k==35||k==44||k==70||k==79||k==86)) ?_
 rw [Tryz.ntmps26]
 simp -dsimp
 refine ALoop.of [] (fun k => k==0||k==1||k==2||k==6||k==7||k==8||k==9||k==10||k==11||k==12||k==16||k==28||k==33||k==35||k==44||k==70||k==79||k==86) (ι := { z : Nat × Tp × List Tb // z.1 ≤ l.length ∧ TapeOK z.2.1 ∧ z.2.2.length = z.1 ∧ wrT n l T = (z.2.2 ++ (wrT n (l.drop z.1) z.2.1).1, (wrT n (l.drop z.1) z.2.1).2) })
  (fun z => [(Pl.s 0, It.v (TV.ptr (Pl.x 0) 0)), (Pl.s 1, It.v (TV.d (D.sl (tbs l)))), (Pl.s 2, It.v (TV.d (D.int IntKind.i64 n))), (Pl.x 0, tapeI z.1.2.1), (Pl.s 6, It.v (TV.c (Value.slice none 0 0))),
   (Pl.s 7, It.v (TV.oref 7 z.1.2.2.length)), (Pl.o 7, It.row 58 4 (dd (tbs z.1.2.2)) false), (Pl.s 8, It.v (TV.d (D.int IntKind.i64 z.1.1)))]) (fun z => l.length - z.1.1) ⟨(0, T, []), by simp, hT, rfl, by simp⟩ ?_ ?_
 ·exact GS.own' (k := 7) 58 4 (by simp) (by simp) (by simp [tbs])
 rintro ⟨⟨i, T1, out⟩, i1, i2, i3, i4⟩
 simp only at i1 i2 i3 i4
 by_cases hi : i < l.length
 ·have hiz : (i : Int) < l.length := by omega
  have hx : l[i]? = some l[i] := List.getElem?_eq_getElem hi
  have hm := hl.t l[i] (List.getElem_mem hi)
  have hd : l.drop i = l[i] :: l.drop (i + 1) := List.drop_eq_getElem_cons hi
  generalize l[i] = b at hx hm hd
  have hx' := tbs_get hx
  simp -dsimp [hiz, hx']
  and_intros
  all_goals try first | rfl | omega | exact ⟨by kernel_rfl⟩
  refine ACall.of (copied_c b hm.rows hm.nx) [] 2000 ?_
  simp -dsimp [hiz, hx', tblT, rwsD_eq]
  have hrl := hm.rows
  refine ALoop.of [] (fun k => k==0||k==1||k==2||k==6||k==7||k==8||k==9||k==10||k==11||k==12||k==16||k==28||k==33||k==35||k==44||k==70||k==79||k==86) (ι := { z : Nat × Tp × List Rw // z.1 ≤ b.rows.length ∧ TapeOK z.2.1 ∧ z.2.2.length = b.rows.length ∧ wrRs b.r n b.rows T1 = (z.2.2.take z.1 ++ (wrRs b.r n (z.2.2.drop z.1) z.2.1).1, (wrRs b.r n (z.2.2.drop z.1) z.2.1).2) })
   (fun z => [(Pl.s 0, It.v (TV.ptr (Pl.x 0) 0)), (Pl.s 1, It.v (TV.d (D.sl (tbs l)))), (Pl.s 2, It.v (TV.d (D.int IntKind.i64 n))), (Pl.x 0, tapeI z.1.2.1), (Pl.s 6, It.v (TV.c (Value.slice none 0 0))),
    (Pl.s 7, It.v (TV.oref 7 out.length)), (Pl.o 7, It.row 58 4 (dd (tbs out)) false), (Pl.s 8, It.v (TV.d (D.int IntKind.i64 i))),
    (Pl.o 2003, It.row 116 2 (dd (rws z.1.2.2)) false), (Pl.o 9, It.box [TV.d (D.int IntKind.i64 b.r), TV.d (D.int IntKind.i64 b.sd), TV.d (D.int IntKind.i64 b.len), TV.oref 2003 b.rows.length]), (Pl.s 9, It.v (TV.ptr (Pl.o 9) 0)), (Pl.s 10, It.v (TV.d (D.int IntKind.i64 z.1.1)))]) (fun z => b.rows.length - z.1.1) ⟨(0, T1, b.rows), by simp, i2, rfl, by simp⟩ ?_ ?_
  ·exact GS.to (by simp)
  rintro ⟨⟨k, T2, L⟩, k1, k2, k3, k4⟩
  simp only at k1 k2 k3 k4
  have hrL : (rws L).length = b.rows.length := by simp [k3]
  by_cases hk : k < b.rows.length
  ·have hkz : (k : Int) < b.rows.length := by omega
   have hkL : k < L.length := by omega
   have hg : L[k]? = some L[k] := List.getElem?_eq_getElem hkL
   have hdL : L.drop k = L[k] :: L.drop (k + 1) := List.drop_eq_getElem_cons hkL
   generalize L[k] = x at hg hdL
   have hgr : (dd (rws L))[k]? = some [TV.d (.int .i64 x.id), TV.d (ints x.nx)] := by simp [dd, rws, hg, Rw.cs]
   have hgl : ((dd (rws L)).getD k []) = [TV.d (.int .i64 x.id), TV.d (ints x.nx)] := by rw [List.getD_eq_getElem?_getD, hgr]; rfl
   have hset : ∀ y : List Int, (dd (rws L)).set k [TV.d (.int .i64 x.id), TV.d (ints y)] = dd (rws (L.set k ⟨x.id, y⟩)) := fun y => by simp [dd, rws, List.map_set, Rw.cs]
   have hnext : ∀ (y : List Int) (T3 : Tp), wrR b.r n T2 x = (⟨x.id, y⟩, T3) → wrRs b.r n b.rows T1 = ((L.set k ⟨x.id, y⟩).take (k + 1) ++ (wrRs b.r n ((L.set k ⟨x.id, y⟩).drop (k + 1)) T3).1, (wrRs b.r n ((L.set k ⟨x.id, y⟩).drop (k + 1)) T3).2) := fun y T3 h => by
    have e1 : (L.set k ⟨x.id, y⟩).take (k + 1) = L.take k ++ [⟨x.id, y⟩] := by
     rw [List.take_add_one, List.getElem?_set_self hkL, List.take_set_of_le (Nat.le_refl _)]; rfl
    have e2 : (L.set k ⟨x.id, y⟩).drop (k + 1) = L.drop (k + 1) := List.drop_set_of_lt (by omega)
    rw [k4, hdL, wrRs, h, e1, e2]
    simp
   have hself : L.set k ⟨x.id, x.nx⟩ = L := by
    refine List.ext_getElem? fun m => ?_
    rw [List.getElem?_set]
    split
    ·rename_i e; subst e; exact hg.symm
    ·rfl
   unfold wrR at hnext
   simp -dsimp [hkz, hrL, k3]
   and_intros
   all_goals try first | rfl | omega | exact ⟨by kernel_rfl⟩
   refine ACall.of (one_c T2 k2 3 ⟨by omega, by omega⟩ ⟨by omega, by omega⟩) [.x 0] 0 ?_
   have kO : TapeOK (gOne T2 3).2 := by simpa using k2
   generalize gOne T2 3 = o at kO hnext ⊢
   simp only at hnext
   rcases (Bool.eq_false_or_eq_true o.1).symm with ho | ho
   ·have e := hnext x.nx o.2 (by rw [if_pos ho])
    rw [hself] at e
    simp -dsimp [hkz, ho, hrL, k3, wrap_i64 (n := (k : Int) + 1) (by omega) (by omega)]
    and_intros
    all_goals try first | rfl | omega | exact ⟨by kernel_rfl⟩
    exact ⟨⟨(k + 1, o.2, L), by dsimp only; omega, kO, k3, e⟩, GS.to (by simp), by simp; omega⟩
   have hof : ¬ o.1 = false := by simp [ho]
   simp -dsimp [hkz, ho, hrL, k3]
   refine ACall.of (next_c o.2 kO 4 ⟨by omega, by omega⟩) [.x 0] 0 ?_
   have n1 := gNext_nonneg o.2 4
   have n2 := gNext_lt o.2 (n := 4) (by omega)
   have kS : TapeOK (gNext o.2 4).2 := by simpa using kO
   generalize gNext o.2 4 = s at n1 n2 kS hnext ⊢
   by_cases s0 : s.1 = 0
   ·have e := hnext [] s.2 (by rw [if_neg hof, if_pos s0])
    have hnl : toDss ((dd (rws L)).set k [TV.d (.int .i64 x.id), TV.c (Value.slice none 0 0)]) = some (rws (L.set k ⟨x.id, []⟩)) := by
     rw [toDss_set (toDss_dd _) (x := [.int .i64 x.id, .sl []]) rfl]
     simp [rws, List.map_set, Rw.cs, ints]
    simp -dsimp [hkz, ho, eq_true s0, hgr, hgl, hrL, k3, wrap_i64 (n := (k : Int) + 1) (by omega) (by omega)]
    and_intros
    all_goals try first | rfl | omega | exact ⟨by kernel_rfl⟩
    exact ⟨⟨(k + 1, s.2, L.set k ⟨x.id, []⟩), by dsimp only; omega, kS, by simpa using k3, e⟩, GS.plain' 2003 (e := 116) (k := 2) (es := (dd (rws L)).set k [TV.d (.int .i64 x.id), TV.c (Value.slice none 0 0)]) (sh := false) (by simp) hnl (by simp), by simp; omega⟩
   by_cases s1 : s.1 = 1
   ·have e := hnext [b.r] s.2 (by rw [if_neg hof, if_neg s0, if_pos s1])
    have hs := hset [b.r]
    simp only [ints, List.map_nil, List.map_cons] at hs
    simp -dsimp [hkz, ho, eq_false s0, eq_true s1, hgr, hgl, hrL, k3, hs, wrap_i64 (n := (k : Int) + 1) (by omega) (by omega)]
    and_intros
    all_goals try first | rfl | omega | exact ⟨by kernel_rfl⟩
    exact ⟨⟨(k + 1, s.2, L.set k ⟨x.id, [b.r]⟩), by dsimp only; omega, kS, by simpa using k3, e⟩, GS.to (by simp), by simp; omega⟩
   simp -dsimp [hkz, ho, eq_false s0, eq_false s1, hrL, k3, wrap_i64 (n := n + 1) (by omega) (by omega)]
   refine ACall.of (next_c s.2 kS (n + 1) ⟨by omega, by omega⟩) [.x 0] 0 ?_
   have a1 := gNext_nonneg s.2 (n + 1)
   have a2 := gNext_lt s.2 (n := n + 1) (by omega)
   have kA : TapeOK (gNext s.2 (n + 1)).2 := by simpa using kS
   generalize gNext s.2 (n + 1) = a at a1 a2 kA hnext ⊢
   have b1 := gNext_nonneg a.2 n
   have b2 := gNext_lt a.2 (n := n) (by omega)
   have kM : TapeOK (gNext a.2 n).2 := by simpa using kA
   have hnc := next_c a.2 kA n ⟨by omega, by omega⟩
   generalize gNext a.2 n = m at b1 b2 kM hnc hnext
   have hset2 : ∀ y z : List Int, (dd (rws (L.set k ⟨x.id, y⟩))).set k [TV.d (.int .i64 x.id), TV.d (ints z)] = dd (rws (L.set k ⟨x.id, z⟩)) := fun y z => by simp [dd, rws, List.map_set, Rw.cs]
   have hgr2 : ∀ y : List Int, (dd (rws (L.set k ⟨x.id, y⟩)))[k]? = some [TV.d (.int .i64 x.id), TV.d (ints y)] := fun y => by simp [dd, rws, List.getElem?_set, hkL, Rw.cs]
   have hgl2 : ∀ y : List Int, ((dd (rws (L.set k ⟨x.id, y⟩))).getD k []) = [TV.d (.int .i64 x.id), TV.d (ints y)] := fun y => by rw [List.getD_eq_getElem?_getD, hgr2]; rfl
   have hrL2 : ∀ y : List Int, (rws (L.set k ⟨x.id, y⟩)).length = b.rows.length := fun y => by simp [k3]
   by_cases v1 : 1 + a.1 = b.r
   ·have e := hnext x.nx m.2 (by rw [if_neg hof, if_neg s0, if_neg s1, if_neg (by omega), if_neg (by omega)])
    rw [hself] at e
    by_cases v2 : a.1 < m.1
    ·simp -dsimp [hkz, ho, eq_false s0, eq_false s1, eq_true v1, hrL, k3, wrap_i64 (n := n + 1) (by omega) (by omega), wrap_i64 (n := 1 + a.1) (by omega) (by omega), wrap_i64 (n := 1 + m.1) (by omega) (by omega), wrap_i64 (n := (k : Int) + 1) (by omega) (by omega)]
     refine ACall.of hnc [.x 0] 0 ?_
     simp -dsimp [hkz, ho, eq_false s0, eq_false s1, eq_true v1, v2, hrL, k3, wrap_i64 (n := n + 1) (by omega) (by omega), wrap_i64 (n := 1 + a.1) (by omega) (by omega), wrap_i64 (n := 1 + m.1) (by omega) (by omega), wrap_i64 (n := (k : Int) + 1) (by omega) (by omega)]
     and_intros
     all_goals try first | rfl | omega | exact ⟨by kernel_rfl⟩
     exact ⟨⟨(k + 1, m.2, L), by dsimp only; omega, kM, k3, e⟩, GS.to (by simp), by simp; omega⟩
    ·simp -dsimp [hkz, ho, eq_false s0, eq_false s1, eq_true v1, hrL, k3, wrap_i64 (n := n + 1) (by omega) (by omega), wrap_i64 (n := 1 + a.1) (by omega) (by omega), wrap_i64 (n := 1 + m.1) (by omega) (by omega), wrap_i64 (n := (k : Int) + 1) (by omega) (by omega)]
     refine ACall.of hnc [.x 0] 0 ?_
     simp -dsimp [hkz, ho, eq_false s0, eq_false s1, eq_true v1, v2, hrL, k3, wrap_i64 (n := n + 1) (by omega) (by omega), wrap_i64 (n := 1 + a.1) (by omega) (by omega), wrap_i64 (n := 1 + m.1) (by omega) (by omega), wrap_i64 (n := (k : Int) + 1) (by omega) (by omega)]
     and_intros
     all_goals try first | rfl | omega | exact ⟨by kernel_rfl⟩
     exact ⟨⟨(k + 1, m.2, L), by dsimp only; omega, kM, k3, e⟩, GS.to (by simp), by simp; omega⟩
   have hs1 := hset [1 + a.1]
   have hs2 := hset2 [1 + a.1] [1 + a.1, 1 + m.1]
   have hq1 := hgr2 [1 + a.1]
   have hq2 := hgl2 [1 + a.1]
   have hq3 := hrL2 [1 + a.1]
   simp only [ints, List.map_nil, List.map_cons] at hs1 hs2 hq1 hq2
   by_cases v2 : a.1 < m.1
   ·by_cases v3 : 1 + m.1 = b.r
    ·have e := hnext [1 + a.1] m.2 (by rw [if_neg hof, if_neg s0, if_neg s1, if_neg (by omega), if_pos (by omega)])
     simp -dsimp [hkz, ho, eq_false s0, eq_false s1, eq_false v1, hgr, hgl, hs1, hrL, k3, wrap_i64 (n := n + 1) (by omega) (by omega), wrap_i64 (n := 1 + a.1) (by omega) (by omega), wrap_i64 (n := 1 + m.1) (by omega) (by omega), wrap_i64 (n := (k : Int) + 1) (by omega) (by omega)]
     and_intros
     all_goals try first | rfl | omega | exact ⟨by kernel_rfl⟩
     refine ACall.of hnc [.x 0] 0 ?_
     simp -dsimp [hkz, ho, eq_false s0, eq_false s1, eq_false v1, v2, eq_true v3, hgr, hgl, hs1, hrL, k3, wrap_i64 (n := n + 1) (by omega) (by omega), wrap_i64 (n := 1 + a.1) (by omega) (by omega), wrap_i64 (n := 1 + m.1) (by omega) (by omega), wrap_i64 (n := (k : Int) + 1) (by omega) (by omega)]
     and_intros
     all_goals try first | rfl | omega | exact ⟨by kernel_rfl⟩
     exact ⟨⟨(k + 1, m.2, L.set k ⟨x.id, [1 + a.1]⟩), by dsimp only; omega, kM, by simpa using k3, e⟩, GS.to (by simp), by simp; omega⟩
    ·have e := hnext [1 + a.1, 1 + m.1] m.2 (by rw [if_neg hof, if_neg s0, if_neg s1, if_pos (by omega)])
     simp -dsimp [hkz, ho, eq_false s0, eq_false s1, eq_false v1, hgr, hgl, hs1, hrL, k3, wrap_i64 (n := n + 1) (by omega) (by omega), wrap_i64 (n := 1 + a.1) (by omega) (by omega), wrap_i64 (n := 1 + m.1) (by omega) (by omega), wrap_i64 (n := (k : Int) + 1) (by omega) (by omega)]
     and_intros
     all_goals try first | rfl | omega | exact ⟨by kernel_rfl⟩
     refine ACall.of hnc [.x 0] 0 ?_
     simp -dsimp [hkz, ho, eq_false s0, eq_false s1, eq_false v1, v2, eq_false v3, hgr, hgl, hs1, hs2, hq1, hq2, hq3, hrL, k3, wrap_i64 (n := n + 1) (by omega) (by omega), wrap_i64 (n := 1 + a.1) (by omega) (by omega), wrap_i64 (n := 1 + m.1) (by omega) (by omega), wrap_i64 (n := (k : Int) + 1) (by omega) (by omega)]
     and_intros
     all_goals try first | rfl | omega | exact ⟨by kernel_rfl⟩
     exact ⟨⟨(k + 1, m.2, L.set k ⟨x.id, [1 + a.1, 1 + m.1]⟩), by dsimp only; omega, kM, by simpa using k3, e⟩, GS.to (by simp), by simp; omega⟩
   ·have e := hnext [1 + a.1] m.2 (by rw [if_neg hof, if_neg s0, if_neg s1, if_neg (by omega), if_pos (by omega)])
    simp -dsimp [hkz, ho, eq_false s0, eq_false s1, eq_false v1, hgr, hgl, hs1, hrL, k3, wrap_i64 (n := n + 1) (by omega) (by omega), wrap_i64 (n := 1 + a.1) (by omega) (by omega), wrap_i64 (n := 1 + m.1) (by omega) (by omega), wrap_i64 (n := (k : Int) + 1) (by omega) (by omega)]
    and_intros
    all_goals try first | rfl | omega | exact ⟨by kernel_rfl⟩
    refine ACall.of hnc [.x 0] 0 ?_
    simp -dsimp [hkz, ho, eq_false s0, eq_false s1, eq_false v1, v2, hgr, hgl, hs1, hrL, k3, wrap_i64 (n := n + 1) (by omega) (by omega), wrap_i64 (n := 1 + a.1) (by omega) (by omega), wrap_i64 (n := 1 + m.1) (by omega) (by omega), wrap_i64 (n := (k : Int) + 1) (by omega) (by omega)]
    and_intros
    all_goals try first | rfl | omega | exact ⟨by kernel_rfl⟩
    exact ⟨⟨(k + 1, m.2, L.set k ⟨x.id, [1 + a.1]⟩), by dsimp only; omega, kM, by simpa using k3, e⟩, GS.to (by simp), by simp; omega⟩
  ·have hkz : ¬ (k : Int) < b.rows.length := by omega
   obtain rfl : k = b.rows.length := by omega
   simp -dsimp [hkz, hrL, wrap_i64 (n := (i : Int) + 1) (by omega) (by omega)]
   and_intros
   all_goals try first | rfl | omega | exact ⟨by kernel_rfl⟩
   have e0 : L.drop b.rows.length = [] := List.drop_eq_nil_of_le (by omega)
   have e1 : L.take b.rows.length = L := List.take_of_length_le (by omega)
   simp only [e0, e1, wrRs, List.append_nil] at k4
   refine ⟨⟨(i + 1, T2, out ++ [⟨b.r, b.sd, b.len, L⟩]), by dsimp only; omega, k2, by simp [i3], ?_⟩, GS.to (by simp [tbs, Tb.cs, rwsD_eq, i3]), by simp; omega⟩
   rw [i4, hd, wrT, k4]
   simp
 ·have hiz : ¬ (i : Int) < l.length := by omega
  obtain rfl : i = l.length := by omega
  simp -dsimp [hiz]
  refine Fin.view 6 ?_
  simp -dsimp
  refine Fin.of ?_
  simp only [List.drop_length, wrT, List.append_nil] at i4
  simp [i4]
end Go.Proofs

set_option linter.unusedSimpArgs false
set_option maxRecDepth 100000
set_option maxHeartbeats 2000000
namespace Go.Proofs
open Go Go.Tr
def mpS (pr : List Int) : List (Int × D) := pr.map fun x => (x, D.bool true)
theorem mget_mp (k : Int) : ∀ pr : List Int, mget (mpS pr) k = if k ∈ pr then some (.bool true) else none
 | [] => rfl
 | x :: pr => by
   have ih := mget_mp k pr
   simp only [mpS] at ih
   simp only [mpS, List.map_cons, mget, ih, List.mem_cons]
   by_cases e : k = x
   ·simp [e]
   ·simp [e]
theorem findT_mem {l : List Tb} {r : Int} {b : Tb} (h : findT l r = some b) : b ∈ l ∧ b.r = r := ⟨List.mem_of_find?_eq_some h, by simpa using List.find?_some h⟩
theorem chkA_all {l : List Tb} (h : chkA l = 0) : ∀ b ∈ l, chk b = 0 := fun b hb => by
 have := firstE_zero (l := _) (by simp) h
 simp only [List.mem_cons, List.not_mem_nil, or_false, forall_eq_or_imp, forall_eq] at this
 have h2 := List.any_eq_false.1 this.2.1 b hb
 simpa using h2
theorem path_n {l : List Tb} {pr : List Int} (h : pr.Nodup) (hf : ∀ x ∈ pr, (findT l x).isSome) : pr.length ≤ l.length := by
 have := nodup_le (m := l.map (·.r)) h fun x hx => by
  obtain ⟨b, hb⟩ := Option.isSome_iff_exists.1 (hf x hx)
  obtain ⟨h1, h2⟩ := findT_mem hb
  exact List.mem_map.2 ⟨b, h1, h2⟩
 simpa using this
end Go.Proofs

set_option linter.unusedSimpArgs false
set_option maxRecDepth 100000
set_option maxHeartbeats 2000000
namespace Go.Proofs
open Go Go.Tr
def gRouter (T : Tp) (rs : List Rt) (n : Int) : Int × Tp :=
 let o := gOne T n
 if o.1 = true then gPick o.2 [0, 1, 2, 7, 77, -1] else ((rs.getD (gNext o.2 rs.length).1.toNat ⟨0, false⟩).id, (gNext o.2 rs.length).2)
theorem router_c (T : Tp) (hT : TapeOK T) (rs : List Rt) (ls : List Lk) (hr : 1 ≤ rs.length ∧ rs.length ≤ 1000) (n : Int) (hn : 1 ≤ n ∧ n ≤ 1000) : Contract Tryz.prog 15 [.ptr (.x 0) 0, .agg [.d (.sl (rts rs)), .d (.sl (lks ls))], .d (.int .i64 n)] [tapeI T] (.d (.int .i64 (gRouter T rs n).1)) [tapeI (gRouter T rs n).2] [] := by
 have hn0 : 0 < n := by omega
 have hr0 : ¬ rs.length = 0 := by omega
 have hrn : ¬ rs = [] := fun h => by simp [h] at hr0
 refine contract_of Tryz.func15 rfl (fun E0 => ?_)
 refine awp.sound (g := .mk) (ow := []) (kp := (fun k => k==0||k==1||k==2||k==4||k==6||k==19)) ?_
 rw [Tryz.ntmps15]
 simp -dsimp [hn0]
 refine ACall.of (one_c T hT n ⟨by omega, by omega⟩ ⟨by omega, by omega⟩) [.x 0] 0 ?_
 have kO : TapeOK (gOne T n).2 := by simpa using hT
 unfold gRouter
 generalize gOne T n = o at kO ⊢
 rcases (Bool.eq_false_or_eq_true o.1).symm with ho | ho
 ·simp only [ho]
  simp -dsimp [hn0, ho, hrn]
  refine ACall.of (next_c o.2 kO rs.length ⟨by omega, by omega⟩) [.x 0] 0 ?_
  have m1 := gNext_nonneg o.2 rs.length
  have m2 := gNext_lt o.2 (n := rs.length) (by omega)
  generalize gNext o.2 rs.length = q at m1 m2 ⊢
  obtain ⟨k, hk⟩ : ∃ k : Nat, q.1 = k := ⟨q.1.toNat, by omega⟩
  have hkl : k < rs.length := by omega
  have hx : rs[k]? = some rs[k] := List.getElem?_eq_getElem hkl
  generalize rs[k] = x at hx
  have hx' := rts_get hx
  rw [hk]
  simp -dsimp [hx', Rt.cs]
  and_intros
  all_goals try first | rfl | omega | exact ⟨by kernel_rfl⟩
  refine Fin.of ?_
  simp [hx, ho]
 ·simp only [ho]
  simp -dsimp [hn0, ho, hrn]
  refine ACall.of (pick_c o.2 kO [0, 1, 2, 7, 77, -1] (by simp) (by simp)) [.x 0] 0 ?_
  simp -dsimp [ints]
  refine Fin.of ?_
  simp [ho]
noncomputable def gDom (T : Tp) (most : Int) : Topo × Pn × List Tb × Tp :=
 let g := gTop T most
 let p := gPlan g.2 g.1.rs 0
 (g.1, p.1, (all11 g.1 p.1).1, p.2)
theorem domain_c (T : Tp) (hT : TapeOK T) (most : Int) (hm : 1 ≤ most ∧ most ≤ 24) : Contract Tryz.prog 14 [.ptr (.x 0) 0, .d (.int .i64 most)] [tapeI T] (.tup [topT (gDom T most).1, planT (gDom T most).2.1, .d (.sl (tbs (gDom T most).2.2.1))]) [tapeI (gDom T most).2.2.2] [] := by
 refine contract_of Tryz.func14 rfl (fun E0 => ?_)
 refine awp.sound (g := .mk) (ow := []) (kp := (fun k => k==0||k==1||k==4||k==5||k==6||k==7||k==8||k==9)) ?_
 rw [Tryz.ntmps14]
 simp -dsimp
 refine ACall.of (topo_c T hT most hm) [.x 0] 0 ?_
 have kG : TapeOK (gTop T most).2 := by simpa using hT
 have hsm := gTop_small T hm
 unfold gDom
 simp only
 generalize gTop T most = G at kG hsm ⊢
 simp -dsimp [topT]
 refine ACall.of (plan_c G.2 kG G.1.rs G.1.ls (by omega) 0 (by omega)) [.x 0] 0 ?_
 obtain ⟨kP, lP⟩ := gPlan_zero G.2 G.1.rs
 have kG : TapeOK (gPlan G.2 G.1.rs 0).2 := kP.symm ▸ kG
 clear kP
 generalize gPlan G.2 G.1.rs 0 = p at kG lP ⊢
 simp -dsimp [topT, planT]
 refine ACall.of (all11_c G.1 ⟨by omega, by omega⟩ p.1 (by omega)) [] 0 ?_
 generalize (all11 G.1 p.1).1 = l
 generalize (all11 G.1 p.1).2 = er
 simp -dsimp [topT, planT, allT_eq]
 and_intros
 all_goals try first | rfl | omega | exact ⟨by kernel_rfl⟩
 refine Fin.of ?_
 simp [topT, planT]
end Go.Proofs

set_option linter.unusedSimpArgs false
namespace Go.Proofs
open Go Go.Tr
def tz (B : BitVec 64) : Nat := ((List.range 64).find? fun i => B.getLsbD i).getD 64
theorem tz_spec {B : BitVec 64} (h : B ≠ 0#64) : tz B < 64 ∧ B.getLsbD (tz B) = true ∧ ∀ i < tz B, B.getLsbD i = false := by
 unfold tz
 cases hf : (List.range 64).find? fun i => B.getLsbD i with
 | none =>
   exfalso
   apply h
   apply BitVec.eq_of_getLsbD_eq
   intro i hi
   have := List.find?_eq_none.1 hf i (by simpa using hi)
   simpa using this
 | some k =>
   have h1 := List.find?_some hf
   have h2 := List.mem_of_find?_eq_some hf
   refine ⟨by simpa using h2, h1, fun i hi => ?_⟩
   obtain ⟨_, ps, qs, e, ha⟩ := List.find?_eq_some_iff_append.1 hf
   have hi' : i ∈ ps := by
    have hk : ps.length = k := by
     have h3 : (List.range 64)[ps.length]? = some k := by rw [e]; simp
     have h4 : ps.length < 64 := by
      have := congrArg List.length e
      simp at this
      omega
     rw [List.getElem?_range h4] at h3
     exact Option.some.inj h3
    have h5 : (List.range 64)[i]? = some i := List.getElem?_range (by simp at h2 hi; omega)
    rw [e, List.getElem?_append_left (by simp at hi; omega)] at h5
    exact List.mem_of_getElem? h5
   simpa using ha i hi'
theorem low_bit {B : BitVec 64} (h : B ≠ 0#64) : B &&& -B = 1#64 <<< tz B := by
 obtain ⟨h1, h2, h3⟩ := tz_spec h
 apply BitVec.eq_of_getLsbD_eq
 intro i hi
 rw [BitVec.getLsbD_and, BitVec.getLsbD_neg]
 simp only [BitVec.getLsbD_shiftLeft, BitVec.getLsbD_one]
 rcases Nat.lt_trichotomy i (tz B) with g | g | g
 ·simp [h3 i g, g]
 ·have : ¬ ∃ j < i, B.getLsbD j = true := fun ⟨j, hj, e⟩ => by rw [h3 j (by omega)] at e; cases e
  subst g
  rw [h2]
  simp [this, h1]
 ·have : ∃ j < i, B.getLsbD j = true := ⟨_, g, h2⟩
  have e : ¬ i < tz B := by omega
  have e' : ¬ i - tz B = 0 := by omega
  simp [this, e, e', hi]
theorem deb_tz : ∀ k : Nat, k < 64 → deb[(((1#64 <<< k) * 0x03f79d71b4ca8b09#64) >>> 58).toNat]? = some (k : Int) := by decide
theorem wu_mul (X : BitVec 64) (c : Int) : wu (tn X * c) = X * wu c := by
 rw [wu, BitVec.ofInt_mul]
 exact congrArg (· * wu c) (wu_tn X)
theorem wu_neg (X : BitVec 64) : wu (tn (wu (-tn X))) = -X := by
 rw [wu_tn, wu, BitVec.ofInt_neg]
 exact congrArg (- ·) (wu_tn X)
theorem deb_at {B : BitVec 64} (h : B ≠ 0#64) : ∃ v : Nat, shrI IntKind.u64 (IntKind.u64.wrap (tn (B &&& wu (IntKind.u64.wrap (-tn B))) * 285870213051353865)) 58 = v ∧ v < 64 ∧ deb[v]? = some (tz B : Int) := by
 refine ⟨(((1#64 <<< tz B) * 0x03f79d71b4ca8b09#64) >>> 58).toNat, ?_, ?_, deb_tz _ (tz_spec h).1⟩
 ·rw [wrap_tn, wrap_tn, wu_neg, low_bit h, wu_mul, u64_shr]
  rfl
 ·rw [BitVec.toNat_ushiftRight, Nat.shiftRight_eq_div_pow]
  have := ((1#64 <<< tz B) * 0x03f79d71b4ca8b09#64).isLt
  omega
theorem tz64_c (B : BitVec 64) : Contract Tryz.prog 164 [.d (bv B)] [] (.d (.int .i64 (tz B))) [] [] := by
 refine contract_of Tryz.func164 rfl (fun E0 => ?_)
 refine awp.sound (g := .mk) (ow := []) (kp := (fun k => k==0||k==2||k==4)) ?_
 rw [Tryz.ntmps164]
 by_cases h : B = 0#64
 ·subst h
  simp -dsimp [bv]
  refine Fin.of ?_
  simp
  decide
 ·obtain ⟨v, e, hv, hd⟩ := deb_at h
  have ht := (tz_spec h).1
  simp -dsimp [bv, h, e, hd]
  refine ⟨by omega, ?_⟩
  simp -dsimp [bv, h, e, hd, wrap_i64 (n := (tz B : Int)) (by omega) (by omega)]
  refine Fin.of ?_
  simp
def firstI (B : BitVec 64) : Int := if B = 0#64 then -1 else (tz B : Int)
theorem first_c (B : BitVec 64) : Contract Tryz.prog 122 [.d (bv B)] [] (.d (.int .i64 (firstI B))) [] [] := by
 refine contract_of Tryz.func122 rfl (fun E0 => ?_)
 refine awp.sound (g := .mk) (ow := []) (kp := (fun k => k==0||k==2||k==4)) ?_
 rw [Tryz.ntmps122]
 by_cases h : B = 0#64
 ·subst h
  simp -dsimp [bv]
  refine Fin.of ?_
  simp [firstI]
 ·simp -dsimp [bv, h]
  refine ACall.of (tz64_c B) [] 0 ?_
  simp -dsimp
  refine ⟨rfl, Fin.of ?_⟩
  simp [firstI, h]
end Go.Proofs

set_option linter.unusedSimpArgs false
namespace Go.Proofs
open Go Go.Tr
def bitsL (B : BitVec 64) : List Nat := (List.range 64).filter fun i => B.getLsbD i
theorem clear_bit (B : BitVec 64) (i : Nat) (hi : i < 64) : (B &&& wu (tn B - 1)).getLsbD i = (B.getLsbD i && decide (∃ j < i, B.getLsbD j = true)) := by
 have e : wu (tn B - 1) = ~~~(-B) := by
  rw [BitVec.not_neg, wu, Int.sub_eq_add_neg, BitVec.ofInt_add]
  rw [show BitVec.ofInt 64 (tn B) = B from wu_tn B, show BitVec.ofInt 64 (-1) = -1#64 by decide, BitVec.sub_eq_add_neg]
 rw [e, BitVec.getLsbD_and, BitVec.getLsbD_not, BitVec.getLsbD_neg]
 cases h : B.getLsbD i
 ·simp
 ·simp [hi]
theorem bitsL_step {B : BitVec 64} (h : B ≠ 0#64) : bitsL B = tz B :: bitsL (B &&& wu (tn B - 1)) := by
 obtain ⟨h1, h2, h3⟩ := tz_spec h
 have e : List.range 64 = List.range (tz B) ++ (tz B :: (List.range' (tz B + 1) (63 - tz B))) := by
  rw [← List.range'_succ, List.range_eq_range', List.range_eq_range', show 64 = tz B + (63 - tz B + 1) by omega, ← List.range'_append_1]
  simp
 have f1 : ∀ (C : BitVec 64), (∀ i < tz B, C.getLsbD i = false) → (List.range (tz B)).filter (fun i => C.getLsbD i) = [] := fun C hC => by
  rw [List.filter_eq_nil_iff]
  intro i hi
  simp [hC i (by simpa using hi)]
 have c0 : ∀ i < tz B, (B &&& wu (tn B - 1)).getLsbD i = false := fun i hi => by rw [clear_bit B i (by omega), h3 i hi]; rfl
 have c1 : (B &&& wu (tn B - 1)).getLsbD (tz B) = false := by
  rw [clear_bit B _ h1, h2]
  have : ¬ ∃ j < tz B, B.getLsbD j = true := fun ⟨j, hj, e⟩ => by rw [h3 j hj] at e; cases e
  simp [this]
 unfold bitsL
 rw [e, List.filter_append, List.filter_append, f1 B h3, f1 _ c0, List.filter_cons, List.filter_cons, h2, c1]
 simp only [List.nil_append, if_true, Bool.false_eq_true, if_false, List.cons.injEq, true_and]
 apply List.filter_congr
 intro i hi
 have hi' := List.mem_range'_1.1 hi
 rw [clear_bit B i (by omega)]
 have : ∃ j < i, B.getLsbD j = true := ⟨tz B, by omega, h2⟩
 simp [this]
theorem bitsL_zero : bitsL 0#64 = [] := by simp [bitsL]
theorem bitsL_len (B : BitVec 64) : (bitsL B).length ≤ 64 := by
 have := List.length_filter_le (fun i => B.getLsbD i) (List.range 64)
 simpa [bitsL] using this
def bitsI (B : BitVec 64) : List Int := (bitsL B).map Int.ofNat
theorem bitsI_len (B : BitVec 64) : (bitsI B).length ≤ 64 := by simpa [bitsI] using bitsL_len B
theorem bitsI_step {B : BitVec 64} (h : B ≠ 0#64) : bitsI B = (tz B : Int) :: bitsI (B &&& wu (tn B - 1)) := by simp [bitsI, bitsL_step h]
theorem bitsI_zero : bitsI 0#64 = [] := by simp [bitsI, bitsL_zero]
theorem list_c (B : BitVec 64) : Contract Tryz.prog 104 [.d (bv B)] [] (.d (ints (bitsI B))) [] [] := by
 have hB := bitsI_len B
 refine contract_of Tryz.func104 rfl (fun E0 => ?_)
 refine awp.sound (g := .mk) (ow := []) (kp := (fun k => k==0||k==2||k==3||k==5)) ?_
 rw [Tryz.ntmps104]
 simp -dsimp [bv]
 refine ALoop.of [3] (fun k => k==0||k==2||k==3||k==5) (ι := { z : BitVec 64 × List Int // bitsI B = z.2 ++ bitsI z.1 }) (fun z => [(Pl.s 0, It.v (TV.d (D.int IntKind.u64 (tn z.1.1)))), (Pl.s 2, It.v (TV.c (Value.slice none 0 0))), (Pl.s 3, It.v (.oref 3 z.1.2.length)), (Pl.o 3, .row 3 1 (dd (nrow .i64 z.1.2)) false)]) (fun z => (bitsI z.1.1).length) ⟨(B, []), by simp⟩ ?_ ?_
 ·exact GS.own' (k := 3) 3 1 (by simp) (by simp) (by simp [nrow])
 ·rintro ⟨⟨R, l⟩, h⟩
  simp only at h
  have hl := congrArg List.length h
  simp only [List.length_append] at hl
  simp -dsimp
  by_cases h0 : R = 0#64
  ·subst h0
   simp -dsimp
   refine Fin.view 2 ?_
   simp -dsimp
   refine Fin.of ?_
   simp [h, bitsI_zero, ints, nrow]
  ·have hs := bitsI_step h0
   have hf := first_c R
   simp only [bv] at hf
   have ht := (tz_spec h0).1
   rw [hs] at hl
   simp only [List.length_cons] at hl
   simp -dsimp [h0]
   refine ACall.of hf [] 0 ?_
   have e : firstI R = (tz R : Int) := by simp [firstI, h0]
   rw [e]
   simp -dsimp [h0]
   and_intros
   all_goals try first | rfl | omega | exact ⟨by kernel_rfl⟩
   refine ⟨⟨(R &&& wu (tn R - 1), l ++ [(tz R : Int)]), by simp [h, hs]⟩, GS.to (by simp [nrow, wrap_tn]), by simp [hs]⟩
end Go.Proofs

set_option linter.unusedSimpArgs false
namespace Go.Proofs
open Go Go.Tr
theorem atP_c (set bit len : Int) : Contract Tryz.prog 105 [.d (.int .i64 set), .d (.int .i64 bit), .d (.int .i64 len)] [] (atT set bit len) [] [] := by
 refine contract_of Tryz.func105 rfl (fun E0 => ?_)
 refine awp.sound (g := .mk) (ow := []) (kp := (fun k => k==0||k==1||k==2||k==6||k==7||k==8||k==23||k==31)) ?_
 rw [Tryz.ntmps105]
 simp -dsimp
 refine ACall.of (validLength_c2 len) [] 0 ?_
 rcases (Bool.eq_false_or_eq_true (validLen len)).symm with a1 | a1
 ·simp -dsimp [a1]
  try refine ⟨?_, ⟨by kernel_rfl⟩⟩
  refine Fin.of ?_
  simp [atT, atB, a1]
 ·have hl : len = 8 ∨ len = 16 ∨ len = 32 ∨ len = 64 := by simp [validLen] at a1; omega
  simp -dsimp [a1, wrap_i64 (n := len - 1) (by omega) (by omega)]
  refine ACall.of (in10_c bit 0 (len - 1)) [] 0 ?_
  rcases (Bool.eq_false_or_eq_true (inB bit 0 (len - 1))).symm with a2 | a2
  ·simp -dsimp [a1, a2]
   try refine ⟨?_, ⟨by kernel_rfl⟩⟩
   refine Fin.of ?_
   simp [atT, atB, a1, a2]
  ·simp -dsimp [a1, a2]
   refine ACall.of (in10_c set 0 31) [] 0 ?_
   rcases (Bool.eq_false_or_eq_true (inB set 0 31)).symm with a3 | a3
   ·simp -dsimp [a1, a2, a3]
    try refine ⟨?_, ⟨by kernel_rfl⟩⟩
    refine Fin.of ?_
    simp [atT, atB, a1, a2, a3]
   ·have b2 : 0 ≤ bit ∧ bit ≤ len - 1 := by simpa [inB] using a2
    have b3 : 0 ≤ set ∧ set ≤ 31 := by simpa [inB] using a3
    have b4 : 0 ≤ set * len ∧ set * len ≤ 1984 := by rcases hl with rfl | rfl | rfl | rfl <;> omega
    by_cases a4 : set * len + bit + 1 ≤ 256
    ·have a5 : ¬ 256 < set * len + bit + 1 := by omega
     simp -dsimp [a1, a2, a3, a4, a5, wrap_i64 (n := set * len) (by omega) (by omega), wrap_i64 (n := set * len + bit) (by omega) (by omega), wrap_i64 (n := set * len + bit + 1) (by omega) (by omega)]
     try refine ⟨?_, ⟨by kernel_rfl⟩⟩
     refine Fin.of ?_
     simp [atT, atB, a1, a2, a3, a4]
    ·have a5 : 256 < set * len + bit + 1 := by omega
     simp -dsimp [a1, a2, a3, a4, a5, wrap_i64 (n := set * len) (by omega) (by omega), wrap_i64 (n := set * len + bit) (by omega) (by omega), wrap_i64 (n := set * len + bit + 1) (by omega) (by omega)]
     try refine ⟨?_, ⟨by kernel_rfl⟩⟩
     refine Fin.of ?_
     simp [atT, atB, a1, a2, a3, a4]
def plnP (p : Pk) : Int := if p.ok = true then p.ent % 8 else 0
theorem ok_ent {p : Pk} (h : p.ok = true) : 0 ≤ p.ent ∧ p.ent ≤ 1023 := by
 simp only [Pk.ok, insB, Bool.and_eq_true, decide_eq_true_eq] at h
 omega
theorem plane_c (p : Pk) : Contract Tryz.prog 121 [pkT p] [] (.d (.int .i64 (plnP p))) [] [] := by
 refine contract_of Tryz.func121 rfl (fun E0 => ?_)
 refine awp.sound (g := .mk) (ow := []) (kp := (fun k => k==0||k==1||k==2||k==5)) ?_
 rw [Tryz.ntmps121]
 have hv := valid_c2 p
 simp only [pkT, Pk.cs, List.map] at hv
 simp -dsimp [pkT, Pk.cs]
 refine ACall.of hv [] 0 ?_
 rcases (Bool.eq_false_or_eq_true p.ok).symm with a1 | a1
 ·simp -dsimp [a1]
  refine Fin.of ?_
  simp [plnP, a1]
 ·have h := ok_ent a1
  simp -dsimp [a1, wrap_i64 (n := p.ent % 8) (by omega) (by omega), Int.tmod_eq_emod_of_nonneg h.1]
  refine Fin.of ?_
  simp [plnP, a1]
def pkMask (p : Pk) (m : BitVec 64) : Pk := ⟨p.mode, p.subd, p.set, p.len, p.ttl - 1, p.ent, p.ing, p.proto, p.bits &&& m, p.pay⟩
def pk0 : Pk := ⟨0, 0, 0, 0, 0, 0, 0, 0, 0#64, ⟨#[]⟩⟩
def pkmR (p : Pk) (m : BitVec 64) : Pk × Bool := if p.ok = true ∧ p.ttl ≠ 0 ∧ p.bits &&& m ≠ 0#64 then (pkMask p m, true) else (pk0, false)
theorem ok_ttl {p : Pk} (h : p.ok = true) : 0 ≤ p.ttl ∧ p.ttl ≤ 63 := by
 simp only [Pk.ok, insB, Bool.and_eq_true, decide_eq_true_eq] at h
 omega
theorem masked_c (p : Pk) (m : BitVec 64) : Contract Tryz.prog 124 [pkT p, .d (bv m)] [] (.tup [pkT (pkmR p m).1, .d (.bool (pkmR p m).2)]) [] [] := by
 refine contract_of Tryz.func124 rfl (fun E0 => ?_)
 refine awp.sound (g := .mk) (ow := []) (kp := (fun k => k==0||k==1||k==2||k==4||k==5||k==20)) ?_
 rw [Tryz.ntmps124]
 have hv := valid_c2 p
 simp only [pkT, Pk.cs, List.map, bv] at hv
 simp -dsimp [pkT, Pk.cs, bv]
 refine ACall.of hv [] 0 ?_
 rcases (Bool.eq_false_or_eq_true p.ok).symm with a1 | a1
 ·simp -dsimp [a1]
  refine Fin.of ?_
  simp [pkmR, a1, pk0, pkT, Pk.cs, bv]
 ·have h := ok_ttl a1
  by_cases a2 : p.ttl = 0
  ·simp -dsimp [a1, a2]
   refine Fin.of ?_
   simp [pkmR, a2, pk0, pkT, Pk.cs, bv]
  by_cases a3 : p.bits &&& m = 0#64
  ·simp -dsimp [a1, a2, a3]
   refine Fin.of ?_
   simp [pkmR, a3, pk0, pkT, Pk.cs, bv]
  simp -dsimp [a1, a2, a3, wrap_i64 (n := p.ttl - 1) (by omega) (by omega)]
  refine Fin.of ?_
  simp [pkmR, a1, a2, a3, pkMask, pkT, Pk.cs, bv]
def onlyR (p : Pk) (k : Int) : Pk := if p.ok = true ∧ 0 ≤ k ∧ k ≤ 63 ∧ p.bits.getLsbD k.toNat = true then ⟨p.mode, p.subd, p.set, p.len, p.ttl, p.ent, p.ing, p.proto, 1#64 <<< k.toNat, p.pay⟩ else pk0
theorem only_c (p : Pk) (k : Int) : Contract Tryz.prog 125 [pkT p, .d (.int .i64 k)] [] (pkT (onlyR p k)) [] [] := by
 refine contract_of Tryz.func125 rfl (fun E0 => ?_)
 refine awp.sound (g := .mk) (ow := []) (kp := (fun k => k==0||k==1||k==2||k==4||k==23)) ?_
 rw [Tryz.ntmps125]
 have hv := valid_c2 p
 simp only [pkT, Pk.cs, List.map, bv] at hv
 simp -dsimp [pkT, Pk.cs, bv]
 refine ACall.of hv [] 0 ?_
 rcases (Bool.eq_false_or_eq_true p.ok).symm with a1 | a1
 ·simp -dsimp [a1]
  refine Fin.of ?_
  simp [onlyR, a1, pk0, pkT, Pk.cs, bv]
 ·by_cases a2 : k < 0
  ·simp -dsimp [a1, a2]
   refine Fin.of ?_
   have : ¬ 0 ≤ k := by omega
   simp [onlyR, this, pk0, pkT, Pk.cs, bv]
  by_cases a3 : 63 < k
  ·simp -dsimp [a1, a2, a3]
   refine Fin.of ?_
   have : ¬ k ≤ 63 := by omega
   simp [onlyR, this, pk0, pkT, Pk.cs, bv]
  have a4 : 0 ≤ k := by omega
  have a5 : k ≤ 63 := by omega
  simp -dsimp [a1, a2, a3, a4]
  have hb : (p.bits >>> k.toNat &&& 1#64 = 0#64) ↔ p.bits.getLsbD k.toNat = false := by
   rw [BitVec.and_one_eq_setWidth_ofBool_getLsbD, BitVec.getLsbD_ushiftRight, Nat.add_zero]
   cases p.bits.getLsbD k.toNat <;> decide
  refine AIf.dec (fun g => ?_) (fun g => ?_)
  ·simp -dsimp
   refine Fin.of ?_
   simp [onlyR, hb.1 g, pk0, pkT, Pk.cs, bv]
  ·have g' : p.bits.getLsbD k.toNat = true := by
    cases h : p.bits.getLsbD k.toNat with
    | true => rfl
    | false => exact absurd (by simpa using hb.2 h) g
   simp -dsimp [a4]
   refine Fin.of ?_
   simp [onlyR, a1, a4, a5, g', pkT, Pk.cs, bv]
end Go.Proofs

set_option linter.unusedSimpArgs false
namespace Go.Proofs
open Go Go.Tr
structure Out where
 loc : BitVec 64
 lost : BitVec 64
 cps : List (Int × Pk)
def out0 : Out := ⟨0#64, 0#64, []⟩
def idAt (p : Pk) (k : Nat) : Int := if atB p.set k p.len = true then p.set * p.len + k + 1 else 0
def Pk.setB (p : Pk) (R : BitVec 64) : Pk := ⟨p.mode, p.subd, p.set, p.len, p.ttl, p.ent, p.ing, p.proto, R, p.pay⟩
def hopAt (b : Tb) (p : Pk) (k : Nat) : Int := nextV b (idAt p k) (plnP p)
def togR (b : Tb) (p : Pk) (R : BitVec 64) (n : Int) : BitVec 64 := R &&& maskP b (plnP p) p.set n
def fwdO (b : Tb) (p : Pk) (o : Out) (R : BitVec 64) : Out :=
 if hopAt b p (tz R) = 0 then ⟨o.loc, o.lost ||| 1#64 <<< tz R, o.cps⟩
 else if hopAt b p (tz R) = b.r then ⟨o.loc ||| 1#64 <<< tz R, o.lost, o.cps⟩
 else if (pkmR (p.setB R) (togR b p R (hopAt b p (tz R)))).2 = true then ⟨o.loc, o.lost, o.cps ++ [(hopAt b p (tz R), (pkmR (p.setB R) (togR b p R (hopAt b p (tz R)))).1)]⟩
 else ⟨o.loc, o.lost ||| togR b p R (hopAt b p (tz R)), o.cps⟩
def fwdM (b : Tb) (p : Pk) (R : BitVec 64) : BitVec 64 :=
 if hopAt b p (tz R) = 0 ∨ hopAt b p (tz R) = b.r then 1#64 <<< tz R else togR b p R (hopAt b p (tz R))
def fwdG (b : Tb) (p : Pk) : Nat → Out → BitVec 64 → Out
 | 0, o, _ => o
 | n + 1, o, R => if R = 0#64 then o else fwdG b p n (fwdO b p o R) (R &&& ~~~ fwdM b p R)
def fwdV (b : Tb) (p : Pk) : Out := fwdG b p 64 out0 p.bits
def fwdR (b : Tb) (p : Pk) : Out × Int :=
 if chk b ≠ 0 ∨ p.ok = false then (out0, 1) else if p.mode = 2 then (out0, 7) else if b.sd ≠ p.subd ∨ b.len ≠ p.len then (out0, 8) else (fwdV b p, 0)
theorem pop_less {R m : BitVec 64} {k : Nat} (hk : k < 64) (h1 : R.getLsbD k = true) (h2 : m.getLsbD k = true) : (bitsL (R &&& ~~~ m)).length < (bitsL R).length := by
 have e : bitsL (R &&& ~~~ m) = (bitsL R).filter fun i => !m.getLsbD i := by
  unfold bitsL
  rw [List.filter_filter]
  apply List.filter_congr
  intro i hi
  have : i < 64 := by simpa using hi
  rw [BitVec.getLsbD_and, BitVec.getLsbD_not]
  simp [this, Bool.and_comm]
 rw [e]
 refine List.length_filter_lt_length_iff_exists.2 ⟨k, ?_, by simp [h2]⟩
 simp [bitsL, hk, h1]
theorem pop_zero {R : BitVec 64} (h : (bitsL R).length = 0) : R = 0#64 := Classical.byContradiction fun g => by
 rw [bitsL_step g] at h
 simp at h
theorem ok_bits {p : Pk} (h : p.ok = true) : validLen p.len = true ∧ ∀ k < 64, p.bits.getLsbD k = true → (k : Int) < p.len := by
 simp only [Pk.ok, Bool.and_eq_true, validB, decide_eq_true_eq] at h
 obtain ⟨_, _, _, _, ⟨h1, h2⟩, _⟩ := h
 refine ⟨h1, fun k hk hb => ?_⟩
 have hl : p.len = 8 ∨ p.len = 16 ∨ p.len = 32 ∨ p.len = 64 := by simp [validLen] at h1; omega
 have h3 := congrArg (fun z => z.getLsbD k) h2
 simp only [BitVec.getLsbD_and, BitVec.getLsbD_not, hb, hk, decide_true, Bool.true_and, BitVec.getLsbD_zero, Bool.not_eq_false', fullB, h1, if_true] at h3
 rw [fullN_bit hk _ (by omega)] at h3
 have := of_decide_eq_true h3
 omega
theorem hop_zero {b : Tb} (h : chk b = 0) (p : Int) : hopB b 0 p = 0 := by
 have : rowOf b 0 = none := by
  rw [rowOf, List.find?_eq_none]
  intro x hx
  have := (chk_next h x hx).1
  simp
  omega
 simp [hopB, this, hopR]
theorem hop_range {b : Tb} (h : chk b = 0) {id p : Int} (h0 : hopB b id p ≠ 0) : 1 ≤ hopB b id p ∧ hopB b id p ≤ 99 := by
 unfold hopB at h0 ⊢
 have hm := hopR_mem h0
 cases hr : rowOf b id with
 | none => rw [hr] at h0; exact absurd (by simp [hopR]) h0
 | some x =>
   simp only [hr, Option.getD_some] at hm ⊢
   exact (chk_next h x (List.mem_of_find?_eq_some hr)).2 _ hm
theorem fwdM_bit {b : Tb} {p : Pk} (hc : chk b = 0) (hp : p.ok = true) (hl : b.len = p.len) {R : BitVec 64} (hR : ∀ k < 64, R.getLsbD k = true → p.bits.getLsbD k = true) (h0 : R ≠ 0#64) : (fwdM b p R).getLsbD (tz R) = true := by
 obtain ⟨t1, t2, _⟩ := tz_spec h0
 unfold fwdM
 split
 ·rw [bit_one t1 t1]; simp
 ·rename_i hn
  have hn0 : hopAt b p (tz R) ≠ 0 := fun e => hn (.inl e)
  have hk : ((tz R : Nat) : Int) < p.len := (ok_bits hp).2 _ t1 (hR _ t1 t2)
  have hpl : 0 ≤ plnP p ∧ plnP p ≤ 7 := by unfold plnP; split <;> omega
  have hs : 0 ≤ p.set ∧ p.set ≤ 31 := by
   simp only [Pk.ok, insB, Bool.and_eq_true, decide_eq_true_eq] at hp
   omega
  have v0 : valB b (plnP p) 0 = true := valB_iff.2 ⟨hc, hpl, by omega, by omega⟩
  have vs : valB b (plnP p) p.set = true := valB_iff.2 ⟨hc, hpl, hs⟩
  have ha : atB p.set (tz R) p.len = true := Classical.byContradiction fun g => hn0 (by
   rw [hopAt, idAt, if_neg g, nextV, if_pos v0]
   exact hop_zero hc _)
  have hh : hopAt b p (tz R) = hopB b (p.set * p.len + tz R + 1) (plnP p) := by rw [hopAt, idAt, if_pos ha, nextV, if_pos v0]
  have hr := hop_range hc (hh ▸ hn0)
  rw [togR, BitVec.getLsbD_and, t2, Bool.true_and, maskP_eq, maskR, if_pos ⟨vs, by rw [hh]; exact hr⟩]
  have hlen : b.len ≤ 64 := by
   have := (ok_bits hp).1
   simp [validLen] at this
   omega
  rw [bitsR_bit b _ _ _ t1 _ (by omega)]
  exact ⟨by omega, by rw [hl]; exact ha, by rw [hh]; omega, by rw [hl, hh]⟩
end Go.Proofs

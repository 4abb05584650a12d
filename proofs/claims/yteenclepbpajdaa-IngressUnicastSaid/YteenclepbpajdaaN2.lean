/-
  What functions of the program compute, stated as contracts over plain data; the conditions of each stand in its own statement.
-/
import Derived.Test.YteenclepbpajdaaN1
import Derived.Test.YteenclepbpajdaaTF
set_option linter.unusedSimpArgs false
set_option maxRecDepth 100000
set_option maxHeartbeats 2000000
namespace Go.Proofs
open Go Go.Tr
theorem copied_c (b : Tb) (hb : b.rows.length ≤ 1000000) (hn : ∀ x ∈ b.rows, x.nx.length ≤ 1000000) : Contract Try.prog 18 [tblT b] [] (.agg [TV.d (D.int IntKind.i64 b.r), TV.d (D.int IntKind.i64 b.sd), TV.d (D.int IntKind.i64 b.len), .oref 3 b.rows.length]) [] [(3, .row 57 2 (dd (rws b.rows)) false)] := by
  refine contract_of Try.func18 rfl (fun E0 => ?_)
  refine awp.sound (g := .mk) (ow := [19]) (kp := (fun k => k == 0 || k == 1 || k == 2 || k == 3 || k == 4 || k == 9)) ?_
  rw [Try.ntmps18]
  simp -dsimp [tblT, rwsD_eq]
  refine ALoop.of [19] (fun k => k == 0 || k == 1 || k == 2 || k == 3 || k == 4 || k == 9) (ι := { i : Nat // i ≤ b.rows.length }) (fun z => [(Pl.s 0, It.v (TV.agg [TV.d (D.int IntKind.i64 b.r), TV.d (D.int IntKind.i64 b.sd), TV.d (D.int IntKind.i64 b.len), TV.d (D.sl (rws b.rows))])), (Pl.o 1, It.box [TV.d (D.int IntKind.i64 b.r), TV.d (D.int IntKind.i64 b.sd), TV.d (D.int IntKind.i64 b.len), TV.d (D.sl (rws b.rows))]), (Pl.s 1, It.v (TV.ptr (Pl.o 1) 0)), (Pl.o 2, It.box [TV.d (D.int IntKind.i64 0), TV.d (D.int IntKind.i64 0), TV.d (D.int IntKind.i64 0), TV.c (Value.slice none 0 0)]), (Pl.s 2, It.v (TV.ptr (Pl.o 2) 0)), (Pl.s 3, It.v (TV.oref 3 z.1)), (Pl.o 3, It.row 57 2 (dd (rws (b.rows.take z.1))) false), (Pl.s 4, It.v (TV.d (D.int IntKind.i64 z.1)))]) (fun z => b.rows.length - z.1) ⟨0, by omega⟩ ?_ ?_
  · exact GS.own' (k := 3) 57 2 (by simp) (by simp) (by simp [rws])
  rintro ⟨i, i1⟩
  by_cases hi : i < b.rows.length
  · have hiz : (i : Int) < b.rows.length := by omega
    have hx : b.rows[i]? = some b.rows[i] := List.getElem?_eq_getElem hi
    have ht : b.rows.take (i + 1) = b.rows.take i ++ [b.rows[i]] := by rw [List.take_add_one, List.getElem?_eq_getElem hi]; rfl
    have hnx := hn b.rows[i] (List.getElem_mem hi)
    generalize b.rows[i] = x at hx ht hnx
    have hx' := rws_get hx
    simp -dsimp [hiz, hx', ints, wrap_i64 (n := (i : Int) + 1) (by omega) (by omega)]
    and_intros
    all_goals try first | rfl | omega | exact ⟨by kernel_rfl⟩ | exact dLen_map 1 _ _ fun _ => rfl
    exact ⟨⟨i + 1, by omega⟩, GS.to (by simp [ht, rws_app, ints]), by simp; omega⟩
  · have hiz : ¬ (i : Int) < b.rows.length := by omega
    obtain rfl : i = b.rows.length := by omega
    simp -dsimp [hiz]
    refine Fin.of ?_
    simp
/-- a row that may be wrong -/
def wrR (r n : Int) (T : Tp) (x : Rw) : Rw × Tp :=
  let o := gOne T 3
  if o.1 = false then (x, o.2) else
  let s := gNext o.2 4
  if s.1 = 0 then (⟨x.id, []⟩, s.2)
  else if s.1 = 1 then (⟨x.id, [r]⟩, s.2)
  else
    let a := gNext s.2 (n + 1)
    let m := gNext a.2 n
    (⟨x.id, if 1 + a.1 < 1 + m.1 ∧ 1 + a.1 ≠ r ∧ 1 + m.1 ≠ r then [1 + a.1, 1 + m.1] else if 1 + a.1 ≠ r then [1 + a.1] else x.nx⟩, m.2)
def wrRs (r n : Int) : List Rw → Tp → List Rw × Tp
  | [], T => ([], T)
  | x :: l, T => ((wrR r n T x).1 :: (wrRs r n l (wrR r n T x).2).1, (wrRs r n l (wrR r n T x).2).2)
def wrT (n : Int) : List Tb → Tp → List Tb × Tp
  | [], T => ([], T)
  | b :: l, T => (⟨b.r, b.sd, b.len, (wrRs b.r n b.rows T).1⟩ :: (wrT n l (wrRs b.r n b.rows T).2).1, (wrT n l (wrRs b.r n b.rows T).2).2)
theorem wrR_tape (r n : Int) (T : Tp) (x : Rw) : TapeOK (wrR r n T x).2 = TapeOK T := by
  unfold wrR
  simp only
  split
  · simp
  split
  · simp
  split <;> simp
theorem wrRs_tape (r n : Int) : ∀ (l : List Rw) (T : Tp), TapeOK (wrRs r n l T).2 = TapeOK T
  | [], _ => rfl
  | x :: l, T => by rw [wrRs]; exact (wrRs_tape r n l _).trans (wrR_tape r n T x)
theorem wrT_tape (n : Int) : ∀ (l : List Tb) (T : Tp), TapeOK (wrT n l T).2 = TapeOK T
  | [], _ => rfl
  | b :: l, T => by rw [wrT]; exact (wrT_tape n l _).trans (wrRs_tape b.r n b.rows T)
theorem wrR_len (r n : Int) (T : Tp) (x : Rw) : (wrR r n T x).1.nx.length ≤ x.nx.length + 2 := by
  unfold wrR
  simp only
  split
  · simp
  split
  · simp
  split
  · simp
  · simp only
    split
    · simp
    · split <;> simp
theorem wrRs_len (r n : Int) : ∀ (l : List Rw) (T : Tp), (wrRs r n l T).1.length = l.length
  | [], _ => rfl
  | x :: l, T => by simp [wrRs, wrRs_len r n l]
theorem wrRs_nx (r n : Int) (k : Nat) : ∀ (l : List Rw) (T : Tp), (∀ x ∈ l, x.nx.length ≤ k) → ∀ x ∈ (wrRs r n l T).1, x.nx.length ≤ k + 2
  | [], _, _, x, hx => by simp [wrRs] at hx
  | y :: l, T, h, x, hx => by
    simp only [wrRs, List.mem_cons] at hx
    rcases hx with rfl | hx
    · have := wrR_len r n T y; have := h y (by simp); omega
    · exact wrRs_nx r n k l _ (fun z hz => h z (by simp [hz])) x hx
theorem wrT_len (n : Int) : ∀ (l : List Tb) (T : Tp), (wrT n l T).1.length = l.length
  | [], _ => rfl
  | b :: l, T => by simp [wrT, wrT_len n l]
theorem wrT_sm (n : Int) : ∀ (l : List Tb) (T : Tp), (∀ b ∈ l, b.rows.length ≤ 256 ∧ ∀ x ∈ b.rows, x.nx.length ≤ 24) → ∀ b ∈ (wrT n l T).1, b.Sm
  | [], _, _, b, hb => by simp [wrT] at hb
  | c :: l, T, h, b, hb => by
    simp only [wrT, List.mem_cons] at hb
    rcases hb with rfl | hb
    · have h1 := h c (by simp)
      exact ⟨by simp only [wrRs_len]; omega, fun x hx => by have := wrRs_nx c.r n 24 c.rows T h1.2 x hx; omega⟩
    · exact wrT_sm n l _ (fun z hz => h z (by simp [hz])) b hb
theorem wrong_c (T : Tp) (hT : TapeOK T) (l : List Tb) (hl : SmL l) (n : Int) (hn : 1 ≤ n ∧ n ≤ 1000) : Contract Try.prog 7 [.ptr (.x 0) 0, .d (.sl (tbs l)), .d (.int .i64 n)] [tapeI T] (.d (.sl (tbs (wrT n l T).1))) [tapeI (wrT n l T).2] [] := by
  have hll := hl.n
  refine contract_of Try.func7 rfl (fun E0 => ?_)
  refine awp.sound (g := .mk) (ow := []) (kp := (fun k => k == 0 || k == 1 || k == 2 || k == 6 || k == 7 || k == 8 || k == 9 || k == 10 || k == 11 || k == 12 || k == 16 || k == 28 || k == 33 || k == 35 || k == 44 || k == 70 || k == 79 || k == 86)) ?_
  rw [Try.ntmps7]
  simp -dsimp
  refine ALoop.of [] (fun k => k == 0 || k == 1 || k == 2 || k == 6 || k == 7 || k == 8 || k == 9 || k == 10 || k == 11 || k == 12 || k == 16 || k == 28 || k == 33 || k == 35 || k == 44 || k == 70 || k == 79 || k == 86) (ι := { z : Nat × Tp × List Tb // z.1 ≤ l.length ∧ TapeOK z.2.1 ∧ z.2.2.length = z.1 ∧ wrT n l T = (z.2.2 ++ (wrT n (l.drop z.1) z.2.1).1, (wrT n (l.drop z.1) z.2.1).2) })
    (fun z => [(Pl.s 0, It.v (TV.ptr (Pl.x 0) 0)), (Pl.s 1, It.v (TV.d (D.sl (tbs l)))), (Pl.s 2, It.v (TV.d (D.int IntKind.i64 n))), (Pl.x 0, tapeI z.1.2.1), (Pl.s 6, It.v (TV.c (Value.slice none 0 0))),
      (Pl.s 7, It.v (TV.oref 7 z.1.2.2.length)), (Pl.o 7, It.row 54 4 (dd (tbs z.1.2.2)) false), (Pl.s 8, It.v (TV.d (D.int IntKind.i64 z.1.1)))]) (fun z => l.length - z.1.1) ⟨(0, T, []), by simp, hT, rfl, by simp⟩ ?_ ?_
  · exact GS.own' (k := 7) 54 4 (by simp) (by simp) (by simp [tbs])
  rintro ⟨⟨i, T1, out⟩, i1, i2, i3, i4⟩
  simp only at i1 i2 i3 i4
  by_cases hi : i < l.length
  · have hiz : (i : Int) < l.length := by omega
    have hx : l[i]? = some l[i] := List.getElem?_eq_getElem hi
    have hm := hl.t l[i] (List.getElem_mem hi)
    have hd : l.drop i = l[i] :: l.drop (i + 1) := List.drop_eq_getElem_cons hi
    generalize l[i] = b at hx hm hd
    have hx' := tbs_get hx
    simp -dsimp [hiz, hx']
    and_intros
    all_goals try first | rfl | omega | exact ⟨by kernel_rfl⟩
    refine ACall.of (copied_c b hm.rows hm.nx) [] 2000 ?_
    simp -dsimp [hiz, hx', tblT, rwsD_eq]
    have hrl := hm.rows
    refine ALoop.of [] (fun k => k == 0 || k == 1 || k == 2 || k == 6 || k == 7 || k == 8 || k == 9 || k == 10 || k == 11 || k == 12 || k == 16 || k == 28 || k == 33 || k == 35 || k == 44 || k == 70 || k == 79 || k == 86) (ι := { z : Nat × Tp × List Rw // z.1 ≤ b.rows.length ∧ TapeOK z.2.1 ∧ z.2.2.length = b.rows.length ∧ wrRs b.r n b.rows T1 = (z.2.2.take z.1 ++ (wrRs b.r n (z.2.2.drop z.1) z.2.1).1, (wrRs b.r n (z.2.2.drop z.1) z.2.1).2) })
      (fun z => [(Pl.s 0, It.v (TV.ptr (Pl.x 0) 0)), (Pl.s 1, It.v (TV.d (D.sl (tbs l)))), (Pl.s 2, It.v (TV.d (D.int IntKind.i64 n))), (Pl.x 0, tapeI z.1.2.1), (Pl.s 6, It.v (TV.c (Value.slice none 0 0))),
        (Pl.s 7, It.v (TV.oref 7 out.length)), (Pl.o 7, It.row 54 4 (dd (tbs out)) false), (Pl.s 8, It.v (TV.d (D.int IntKind.i64 i))),
        (Pl.o 2003, It.row 57 2 (dd (rws z.1.2.2)) false), (Pl.o 9, It.box [TV.d (D.int IntKind.i64 b.r), TV.d (D.int IntKind.i64 b.sd), TV.d (D.int IntKind.i64 b.len), TV.oref 2003 b.rows.length]), (Pl.s 9, It.v (TV.ptr (Pl.o 9) 0)), (Pl.s 10, It.v (TV.d (D.int IntKind.i64 z.1.1)))]) (fun z => b.rows.length - z.1.1) ⟨(0, T1, b.rows), by simp, i2, rfl, by simp⟩ ?_ ?_
    · exact GS.to (by simp)
    rintro ⟨⟨k, T2, L⟩, k1, k2, k3, k4⟩
    simp only at k1 k2 k3 k4
    have hrL : (rws L).length = b.rows.length := by simp [k3]
    by_cases hk : k < b.rows.length
    · have hkz : (k : Int) < b.rows.length := by omega
      have hkL : k < L.length := by omega
      have hg : L[k]? = some L[k] := List.getElem?_eq_getElem hkL
      have hdL : L.drop k = L[k] :: L.drop (k + 1) := List.drop_eq_getElem_cons hkL
      generalize L[k] = x at hg hdL
      have hgr : (dd (rws L))[k]? = some [TV.d (.int .i64 x.id), TV.d (ints x.nx)] := by simp [dd, rws, hg, Rw.cs]
      have hgl : ((dd (rws L)).getD k []) = [TV.d (.int .i64 x.id), TV.d (ints x.nx)] := by rw [List.getD_eq_getElem?_getD, hgr]; rfl
      have hset : ∀ y : List Int, (dd (rws L)).set k [TV.d (.int .i64 x.id), TV.d (ints y)] = dd (rws (L.set k ⟨x.id, y⟩)) := fun y => by simp [dd, rws, List.map_set, Rw.cs]
      have hnext : ∀ (y : List Int) (T3 : Tp), wrR b.r n T2 x = (⟨x.id, y⟩, T3) → wrRs b.r n b.rows T1 = ((L.set k ⟨x.id, y⟩).take (k + 1) ++ (wrRs b.r n ((L.set k ⟨x.id, y⟩).drop (k + 1)) T3).1, (wrRs b.r n ((L.set k ⟨x.id, y⟩).drop (k + 1)) T3).2) := fun y T3 h => by
        have e1 : (L.set k ⟨x.id, y⟩).take (k + 1) = L.take k ++ [⟨x.id, y⟩] := by
          rw [List.take_add_one, List.getElem?_set_self hkL, List.take_set_of_le (Nat.le_refl _)]; rfl
        have e2 : (L.set k ⟨x.id, y⟩).drop (k + 1) = L.drop (k + 1) := List.drop_set_of_lt (by omega)
        rw [k4, hdL, wrRs, h, e1, e2]
        simp
      have hself : L.set k ⟨x.id, x.nx⟩ = L := by
        refine List.ext_getElem? fun m => ?_
        rw [List.getElem?_set]
        split
        · rename_i e; subst e; exact hg.symm
        · rfl
      unfold wrR at hnext
      simp -dsimp [hkz, hrL, k3]
      and_intros
      all_goals try first | rfl | omega | exact ⟨by kernel_rfl⟩
      refine ACall.of (one_c T2 k2 3 ⟨by omega, by omega⟩ ⟨by omega, by omega⟩) [.x 0] 0 ?_
      have kO : TapeOK (gOne T2 3).2 := by simpa using k2
      generalize gOne T2 3 = o at kO hnext ⊢
      simp only at hnext
      rcases (Bool.eq_false_or_eq_true o.1).symm with ho | ho
      · have e := hnext x.nx o.2 (by rw [if_pos ho])
        rw [hself] at e
        simp -dsimp [hkz, ho, hrL, k3, wrap_i64 (n := (k : Int) + 1) (by omega) (by omega)]
        and_intros
        all_goals try first | rfl | omega | exact ⟨by kernel_rfl⟩
        exact ⟨⟨(k + 1, o.2, L), by dsimp only; omega, kO, k3, e⟩, GS.to (by simp), by simp; omega⟩
      have hof : ¬ o.1 = false := by simp [ho]
      simp -dsimp [hkz, ho, hrL, k3]
      refine ACall.of (next_c o.2 kO 4 ⟨by omega, by omega⟩) [.x 0] 0 ?_
      have n1 := gNext_nonneg o.2 4
      have n2 := gNext_lt o.2 (n := 4) (by omega)
      have kS : TapeOK (gNext o.2 4).2 := by simpa using kO
      generalize gNext o.2 4 = s at n1 n2 kS hnext ⊢
      by_cases s0 : s.1 = 0
      · have e := hnext [] s.2 (by rw [if_neg hof, if_pos s0])
        have hnl : toDss ((dd (rws L)).set k [TV.d (.int .i64 x.id), TV.c (Value.slice none 0 0)]) = some (rws (L.set k ⟨x.id, []⟩)) := by
          rw [toDss_set (toDss_dd _) (x := [.int .i64 x.id, .sl []]) rfl]
          simp [rws, List.map_set, Rw.cs, ints]
        simp -dsimp [hkz, ho, eq_true s0, hgr, hgl, hrL, k3, wrap_i64 (n := (k : Int) + 1) (by omega) (by omega)]
        and_intros
        all_goals try first | rfl | omega | exact ⟨by kernel_rfl⟩
        exact ⟨⟨(k + 1, s.2, L.set k ⟨x.id, []⟩), by dsimp only; omega, kS, by simpa using k3, e⟩, GS.plain' 2003 (e := 57) (k := 2) (es := (dd (rws L)).set k [TV.d (.int .i64 x.id), TV.c (Value.slice none 0 0)]) (sh := false) (by simp) hnl (by simp), by simp; omega⟩
      by_cases s1 : s.1 = 1
      · have e := hnext [b.r] s.2 (by rw [if_neg hof, if_neg s0, if_pos s1])
        have hs := hset [b.r]
        simp only [ints, List.map_nil, List.map_cons] at hs
        simp -dsimp [hkz, ho, eq_false s0, eq_true s1, hgr, hgl, hrL, k3, hs, wrap_i64 (n := (k : Int) + 1) (by omega) (by omega)]
        and_intros
        all_goals try first | rfl | omega | exact ⟨by kernel_rfl⟩
        exact ⟨⟨(k + 1, s.2, L.set k ⟨x.id, [b.r]⟩), by dsimp only; omega, kS, by simpa using k3, e⟩, GS.to (by simp), by simp; omega⟩
      simp -dsimp [hkz, ho, eq_false s0, eq_false s1, hrL, k3, wrap_i64 (n := n + 1) (by omega) (by omega)]
      refine ACall.of (next_c s.2 kS (n + 1) ⟨by omega, by omega⟩) [.x 0] 0 ?_
      have a1 := gNext_nonneg s.2 (n + 1)
      have a2 := gNext_lt s.2 (n := n + 1) (by omega)
      have kA : TapeOK (gNext s.2 (n + 1)).2 := by simpa using kS
      generalize gNext s.2 (n + 1) = a at a1 a2 kA hnext ⊢
      have b1 := gNext_nonneg a.2 n
      have b2 := gNext_lt a.2 (n := n) (by omega)
      have kM : TapeOK (gNext a.2 n).2 := by simpa using kA
      have hnc := next_c a.2 kA n ⟨by omega, by omega⟩
      generalize gNext a.2 n = m at b1 b2 kM hnc hnext
      have hset2 : ∀ y z : List Int, (dd (rws (L.set k ⟨x.id, y⟩))).set k [TV.d (.int .i64 x.id), TV.d (ints z)] = dd (rws (L.set k ⟨x.id, z⟩)) := fun y z => by simp [dd, rws, List.map_set, Rw.cs]
      have hgr2 : ∀ y : List Int, (dd (rws (L.set k ⟨x.id, y⟩)))[k]? = some [TV.d (.int .i64 x.id), TV.d (ints y)] := fun y => by simp [dd, rws, List.getElem?_set, hkL, Rw.cs]
      have hgl2 : ∀ y : List Int, ((dd (rws (L.set k ⟨x.id, y⟩))).getD k []) = [TV.d (.int .i64 x.id), TV.d (ints y)] := fun y => by rw [List.getD_eq_getElem?_getD, hgr2]; rfl
      have hrL2 : ∀ y : List Int, (rws (L.set k ⟨x.id, y⟩)).length = b.rows.length := fun y => by simp [k3]
      by_cases v1 : 1 + a.1 = b.r
      · have e := hnext x.nx m.2 (by rw [if_neg hof, if_neg s0, if_neg s1, if_neg (by omega), if_neg (by omega)])
        rw [hself] at e
        by_cases v2 : a.1 < m.1
        · simp -dsimp [hkz, ho, eq_false s0, eq_false s1, eq_true v1, hrL, k3, wrap_i64 (n := n + 1) (by omega) (by omega), wrap_i64 (n := 1 + a.1) (by omega) (by omega), wrap_i64 (n := 1 + m.1) (by omega) (by omega), wrap_i64 (n := (k : Int) + 1) (by omega) (by omega)]
          refine ACall.of hnc [.x 0] 0 ?_
          simp -dsimp [hkz, ho, eq_false s0, eq_false s1, eq_true v1, v2, hrL, k3, wrap_i64 (n := n + 1) (by omega) (by omega), wrap_i64 (n := 1 + a.1) (by omega) (by omega), wrap_i64 (n := 1 + m.1) (by omega) (by omega), wrap_i64 (n := (k : Int) + 1) (by omega) (by omega)]
          and_intros
          all_goals try first | rfl | omega | exact ⟨by kernel_rfl⟩
          exact ⟨⟨(k + 1, m.2, L), by dsimp only; omega, kM, k3, e⟩, GS.to (by simp), by simp; omega⟩
        · simp -dsimp [hkz, ho, eq_false s0, eq_false s1, eq_true v1, hrL, k3, wrap_i64 (n := n + 1) (by omega) (by omega), wrap_i64 (n := 1 + a.1) (by omega) (by omega), wrap_i64 (n := 1 + m.1) (by omega) (by omega), wrap_i64 (n := (k : Int) + 1) (by omega) (by omega)]
          refine ACall.of hnc [.x 0] 0 ?_
          simp -dsimp [hkz, ho, eq_false s0, eq_false s1, eq_true v1, v2, hrL, k3, wrap_i64 (n := n + 1) (by omega) (by omega), wrap_i64 (n := 1 + a.1) (by omega) (by omega), wrap_i64 (n := 1 + m.1) (by omega) (by omega), wrap_i64 (n := (k : Int) + 1) (by omega) (by omega)]
          and_intros
          all_goals try first | rfl | omega | exact ⟨by kernel_rfl⟩
          exact ⟨⟨(k + 1, m.2, L), by dsimp only; omega, kM, k3, e⟩, GS.to (by simp), by simp; omega⟩
      have hs1 := hset [1 + a.1]
      have hs2 := hset2 [1 + a.1] [1 + a.1, 1 + m.1]
      have hq1 := hgr2 [1 + a.1]
      have hq2 := hgl2 [1 + a.1]
      have hq3 := hrL2 [1 + a.1]
      simp only [ints, List.map_nil, List.map_cons] at hs1 hs2 hq1 hq2
      by_cases v2 : a.1 < m.1
      · by_cases v3 : 1 + m.1 = b.r
        · have e := hnext [1 + a.1] m.2 (by rw [if_neg hof, if_neg s0, if_neg s1, if_neg (by omega), if_pos (by omega)])
          simp -dsimp [hkz, ho, eq_false s0, eq_false s1, eq_false v1, hgr, hgl, hs1, hrL, k3, wrap_i64 (n := n + 1) (by omega) (by omega), wrap_i64 (n := 1 + a.1) (by omega) (by omega), wrap_i64 (n := 1 + m.1) (by omega) (by omega), wrap_i64 (n := (k : Int) + 1) (by omega) (by omega)]
          and_intros
          all_goals try first | rfl | omega | exact ⟨by kernel_rfl⟩
          refine ACall.of hnc [.x 0] 0 ?_
          simp -dsimp [hkz, ho, eq_false s0, eq_false s1, eq_false v1, v2, eq_true v3, hgr, hgl, hs1, hrL, k3, wrap_i64 (n := n + 1) (by omega) (by omega), wrap_i64 (n := 1 + a.1) (by omega) (by omega), wrap_i64 (n := 1 + m.1) (by omega) (by omega), wrap_i64 (n := (k : Int) + 1) (by omega) (by omega)]
          and_intros
          all_goals try first | rfl | omega | exact ⟨by kernel_rfl⟩
          exact ⟨⟨(k + 1, m.2, L.set k ⟨x.id, [1 + a.1]⟩), by dsimp only; omega, kM, by simpa using k3, e⟩, GS.to (by simp), by simp; omega⟩
        · have e := hnext [1 + a.1, 1 + m.1] m.2 (by rw [if_neg hof, if_neg s0, if_neg s1, if_pos (by omega)])
          simp -dsimp [hkz, ho, eq_false s0, eq_false s1, eq_false v1, hgr, hgl, hs1, hrL, k3, wrap_i64 (n := n + 1) (by omega) (by omega), wrap_i64 (n := 1 + a.1) (by omega) (by omega), wrap_i64 (n := 1 + m.1) (by omega) (by omega), wrap_i64 (n := (k : Int) + 1) (by omega) (by omega)]
          and_intros
          all_goals try first | rfl | omega | exact ⟨by kernel_rfl⟩
          refine ACall.of hnc [.x 0] 0 ?_
          simp -dsimp [hkz, ho, eq_false s0, eq_false s1, eq_false v1, v2, eq_false v3, hgr, hgl, hs1, hs2, hq1, hq2, hq3, hrL, k3, wrap_i64 (n := n + 1) (by omega) (by omega), wrap_i64 (n := 1 + a.1) (by omega) (by omega), wrap_i64 (n := 1 + m.1) (by omega) (by omega), wrap_i64 (n := (k : Int) + 1) (by omega) (by omega)]
          and_intros
          all_goals try first | rfl | omega | exact ⟨by kernel_rfl⟩
          exact ⟨⟨(k + 1, m.2, L.set k ⟨x.id, [1 + a.1, 1 + m.1]⟩), by dsimp only; omega, kM, by simpa using k3, e⟩, GS.to (by simp), by simp; omega⟩
      · have e := hnext [1 + a.1] m.2 (by rw [if_neg hof, if_neg s0, if_neg s1, if_neg (by omega), if_pos (by omega)])
        simp -dsimp [hkz, ho, eq_false s0, eq_false s1, eq_false v1, hgr, hgl, hs1, hrL, k3, wrap_i64 (n := n + 1) (by omega) (by omega), wrap_i64 (n := 1 + a.1) (by omega) (by omega), wrap_i64 (n := 1 + m.1) (by omega) (by omega), wrap_i64 (n := (k : Int) + 1) (by omega) (by omega)]
        and_intros
        all_goals try first | rfl | omega | exact ⟨by kernel_rfl⟩
        refine ACall.of hnc [.x 0] 0 ?_
        simp -dsimp [hkz, ho, eq_false s0, eq_false s1, eq_false v1, v2, hgr, hgl, hs1, hrL, k3, wrap_i64 (n := n + 1) (by omega) (by omega), wrap_i64 (n := 1 + a.1) (by omega) (by omega), wrap_i64 (n := 1 + m.1) (by omega) (by omega), wrap_i64 (n := (k : Int) + 1) (by omega) (by omega)]
        and_intros
        all_goals try first | rfl | omega | exact ⟨by kernel_rfl⟩
        exact ⟨⟨(k + 1, m.2, L.set k ⟨x.id, [1 + a.1]⟩), by dsimp only; omega, kM, by simpa using k3, e⟩, GS.to (by simp), by simp; omega⟩
    · have hkz : ¬ (k : Int) < b.rows.length := by omega
      obtain rfl : k = b.rows.length := by omega
      simp -dsimp [hkz, hrL, wrap_i64 (n := (i : Int) + 1) (by omega) (by omega)]
      and_intros
      all_goals try first | rfl | omega | exact ⟨by kernel_rfl⟩
      have e0 : L.drop b.rows.length = [] := List.drop_eq_nil_of_le (by omega)
      have e1 : L.take b.rows.length = L := List.take_of_length_le (by omega)
      simp only [e0, e1, wrRs, List.append_nil] at k4
      refine ⟨⟨(i + 1, T2, out ++ [⟨b.r, b.sd, b.len, L⟩]), by dsimp only; omega, k2, by simp [i3], ?_⟩, GS.to (by simp [tbs, Tb.cs, rwsD_eq, i3]), by simp; omega⟩
      rw [i4, hd, wrT, k4]
      simp
  · have hiz : ¬ (i : Int) < l.length := by omega
    obtain rfl : i = l.length := by omega
    simp -dsimp [hiz]
    refine Fin.view 6 ?_
    simp -dsimp
    refine Fin.of ?_
    simp only [List.drop_length, wrT, List.append_nil] at i4
    simp [i4]
end Go.Proofs

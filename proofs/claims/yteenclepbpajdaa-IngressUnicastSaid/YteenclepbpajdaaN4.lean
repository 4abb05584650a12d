/-
  What functions of the program compute, stated as contracts over plain data; the conditions of each stand in its own statement.
-/
import Derived.Test.YteenclepbpajdaaN3
set_option linter.unusedSimpArgs false
set_option maxRecDepth 100000
set_option maxHeartbeats 2000000
namespace Go.Proofs
open Go Go.Tr
/-- what single packets need -/
def uniF (l : List Tb) (r p : Int) : List Int → Int → Int × Int
  | [], n => (n, 0)
  | id :: ids, n => if (pathV l r id p).2 = 0 then uniF l r p ids (n + (pathV l r id p).1.length) else (0, (pathV l r id p).2)
def uniT (x : Int × Int) : TV := .tup [.d (.int .i64 x.1), .d (.int .i64 x.2)]
theorem pathG_len (l : List Tb) (id p : Int) : ∀ (k : Nat) (pr : List Int) (r : Int), (pathG l id p k pr r).1.length ≤ pr.length + k
  | 0, _, _ => by simp [pathG]
  | k + 1, pr, r => by
    rw [pathG]
    split
    · simp
    · split
      · simp
      · split
        · simp
        · split
          · simp
          · refine Nat.le_trans (pathG_len l id p k (pr ++ [r]) _) ?_
            simp
            omega
theorem pathV_len (l : List Tb) (r id p : Int) : (pathV l r id p).1.length ≤ l.length + 1 := by
  unfold pathV
  split
  · simp
  · split
    · simp
    · have := pathG_len l id p (l.length + 1) [] r
      simpa using this
theorem gTopA_len (cost tree : Int) (skip : Bool) (b : Int) : ∀ (n : Nat) (a : Int) (T : Tp) (l : List Lk), (gTopA cost tree skip b n a T l).1.length ≤ l.length + n
  | 0, _, _, _ => Nat.le_refl _
  | n + 1, a, T, l => by
    have h1 := gTopA_len cost tree skip b n (a + 1) (gTopS cost tree skip b a T l).2 (gTopS cost tree skip b a T l).1
    have h2 := gTopS_len cost tree skip b a T l
    rw [gTopA]
    omega
theorem gTopB_len (cost : Int) : ∀ (n : Nat) (b : Int) (T : Tp) (l : List Lk), 0 ≤ b → (gTopB cost n b T l).1.length ≤ l.length + n * (b + n).toNat
  | 0, _, _, _, _ => by simp [gTopB]
  | n + 1, b, T, l, hb => by
    have h1 := gTopB_len cost n (b + 1) (gTopR cost b T l).2 (gTopR cost b T l).1 (by omega)
    have h2 : (gTopR cost b T l).1.length ≤ l.length + (b - 1).toNat := gTopA_len _ _ _ _ _ _ _ _
    rw [gTopB]
    have e : (b + 1 + n).toNat = (b + (n + 1 : Nat)).toNat := by omega
    rw [e] at h1
    have h3 : (n + 1) * (b + (n + 1 : Nat)).toNat = n * (b + (n + 1 : Nat)).toNat + (b + (n + 1 : Nat)).toNat := Nat.succ_mul _ _
    omega
theorem ordL_len : ∀ (l out : List Lk), (ordL l out).length = l.length + out.length
  | [], _ => by simp [ordL]
  | x :: l, out => by
    rw [ordL, ordL_len l]
    simp
    omega
theorem gTop_small (T : Tp) {most : Int} (hm : 1 ≤ most ∧ most ≤ 24) : (gTop T most).1.rs.length ≤ 24 ∧ (gTop T most).1.ls.length ≤ 1000 := by
  have b1 := gRange_lo T 1 most
  have b2 := gRange_hi T (a := 1) (b := most) (by omega)
  simp only [gTop, ordL_len]
  generalize gRange T 1 most = R at b1 b2 ⊢
  have h := gTopB_len (gPick R.2 [1, 2, 2, 5]).1 (R.1 + 1 - 2).toNat 2 (gPick R.2 [1, 2, 2, 5]).2 [] (by omega)
  have h1 : (R.1 + 1 - 2).toNat ≤ 23 := by omega
  have h2 : (2 + ((R.1 + 1 - 2).toNat : Int)).toNat ≤ 25 := by omega
  have h3 := Nat.mul_le_mul h1 h2
  simp only [List.length_nil] at h ⊢
  exact ⟨by simp [gRts]; omega, by omega⟩
theorem gPlanS_z (rs : List Rt) (len x : Int) (T : Tp) (id : Int) (l : List Ed) : TapeOK (gPlanS rs len x T id l).2.2 = TapeOK T ∧ (gPlanS rs len x T id l).1.length ≤ l.length + 1 := by
  unfold gPlanS
  simp only
  split
  · simp
  · split <;> simp
theorem gPlanL_z (rs : List Rt) (len : Int) : ∀ (o : List Int) (T : Tp) (id : Int) (l : List Ed), TapeOK (gPlanL rs len o T id l).2.2 = TapeOK T ∧ (gPlanL rs len o T id l).1.length ≤ l.length + o.length
  | [], _, _, _ => ⟨rfl, Nat.le_refl _⟩
  | x :: o, T, id, l => by
    rw [gPlanL]
    obtain ⟨h1, h2⟩ := gPlanS_z rs len x T id l
    obtain ⟨h3, h4⟩ := gPlanL_z rs len o (gPlanS rs len x T id l).2.2 (gPlanS rs len x T id l).2.1 (gPlanS rs len x T id l).1
    exact ⟨h3.trans h1, by simp only [List.length_cons]; omega⟩
theorem gPlan_zero (T : Tp) (rs : List Rt) : TapeOK (gPlan T rs 0).2 = TapeOK T ∧ (gPlan T rs 0).1.es.length ≤ rs.length := by
  have h := gPlanL_z rs (gPick (gNext T 3).2 [8, 8, 16, 32, 64]).1 (gOrder (gPick (gNext T 3).2 [8, 8, 16, 32, 64]).2 rs.length).1 (gOrder (gPick (gNext T 3).2 [8, 8, 16, 32, 64]).2 rs.length).2 0 []
  simp only [gPlan, gPlan0, Int.lt_irrefl, if_false]
  refine ⟨h.1.trans (by simp), ?_⟩
  have h2 := h.2
  rw [gOrder_len] at h2
  simpa using h2
theorem uni_c (l : List Tb) (hl : SmL l) (r : Int) (ids : List Int) (hi : ids.length ≤ 1000000) (p : Int) : Contract Try.prog 11 [.d (.sl (tbs l)), .d (.int .i64 r), .d (ints ids), .d (.int .i64 p)] [] (uniT (uniF l r p ids 0)) [] [] := by
  have hn := hl.n
  refine contract_of Try.func11 rfl (fun E0 => ?_)
  refine awp.sound (g := .mk) (ow := []) (kp := (fun k => k == 0 || k == 1 || k == 2 || k == 3 || k == 8 || k == 9 || k == 10 || k == 12 || k == 13 || k == 14 || k == 15 || k == 16 || k == 17 || k == 18 || k == 30)) ?_
  rw [Try.ntmps11]
  simp -dsimp [ints]
  refine ALoop.of [] (fun k => k == 0 || k == 1 || k == 2 || k == 3 || k == 8 || k == 9 || k == 10 || k == 12 || k == 13 || k == 14 || k == 15 || k == 16 || k == 17 || k == 18 || k == 30) (ι := { z : Nat × Int // z.1 ≤ ids.length ∧ 0 ≤ z.2 ∧ z.2 ≤ 2000 * z.1 ∧ uniF l r p ids 0 = uniF l r p (ids.drop z.1) z.2 })
    (fun z => [(Pl.s 0, It.v (TV.d (D.sl (tbs l)))), (Pl.s 1, It.v (TV.d (D.int IntKind.i64 r))), (Pl.s 2, It.v (TV.d (ints ids))), (Pl.s 3, It.v (TV.d (D.int IntKind.i64 p))), (Pl.s 8, It.v (TV.d (D.int IntKind.i64 0))), (Pl.s 9, It.v (TV.d (D.int IntKind.i64 0))), (Pl.s 10, It.v (TV.d (D.int IntKind.i64 z.1.2))), (Pl.s 15, It.v (TV.d (ints ids))), (Pl.s 16, It.v (TV.d (D.int IntKind.i64 ids.length))), (Pl.s 17, It.v (TV.d (D.int IntKind.i64 z.1.1)))]) (fun z => ids.length - z.1.1) ⟨(0, 0), by simp, by simp, by simp, rfl⟩ ?_ ?_
  · exact GS.to (by simp [ints])
  rintro ⟨⟨i, m⟩, i1, i2, i3, i4⟩
  simp only at i1 i2 i3 i4
  by_cases hil : i < ids.length
  · have hiz : (i : Int) < ids.length := by omega
    have hx : ids[i]? = some ids[i] := List.getElem?_eq_getElem hil
    have hd : ids.drop i = ids[i] :: ids.drop (i + 1) := List.drop_eq_getElem_cons hil
    generalize ids[i] = x at hx hd
    have hx' : (ids.map fun n => [D.int IntKind.i64 n])[i]? = some [.int .i64 x] := by simp [hx]
    rw [hd, uniF] at i4
    have hpl := pathV_len l r x p
    simp -dsimp [hiz, hx', ints]
    and_intros
    all_goals try first | rfl | omega | exact ⟨by kernel_rfl⟩
    refine ACall.of (path_c l hl r x p) [] 0 ?_
    generalize pathV l r x p = w at i4 hpl ⊢
    by_cases w0 : w.2 = 0
    · rw [if_pos w0] at i4
      simp -dsimp [pathT, ints, eq_true w0, wrap_i64 (n := (i : Int) + 1) (by omega) (by omega), wrap_i64 (n := m + w.1.length) (by omega) (by omega)]
      and_intros
      all_goals try first | rfl | omega | exact ⟨by kernel_rfl⟩
      exact ⟨⟨(i + 1, m + w.1.length), by dsimp only; omega, by dsimp only; omega, by dsimp only; omega, i4⟩, GS.to (by simp [ints]), by simp; omega⟩
    · rw [if_neg w0] at i4
      simp -dsimp [pathT, ints, eq_false w0]
      and_intros
      all_goals try first | rfl | omega | exact ⟨by kernel_rfl⟩
      refine Fin.of ?_
      simp [i4, uniT]
  · have hiz : ¬ (i : Int) < ids.length := by omega
    have e0 : ids.drop i = [] := List.drop_eq_nil_of_le (by omega)
    rw [e0, uniF] at i4
    simp -dsimp [hiz, ints]
    refine Fin.of ?_
    simp [i4, uniT]
theorem uni17_c (l : List Tb) (hl : SmL l) (r : Int) (ids : List Int) (hi : ids.length ≤ 1000000) (p : Int) : Contract Try.prog 12 [.d (.sl (tbs l)), .d (.int .i64 r), .d (ints ids), .d (.int .i64 p)] [] (uniT (uniF l r p ids 0)) [] [] := by
  have hn := hl.n
  refine contract_of Try.func12 rfl (fun E0 => ?_)
  refine awp.sound (g := .mk) (ow := []) (kp := (fun k => k == 0 || k == 1 || k == 2 || k == 3 || k == 8 || k == 9 || k == 10 || k == 11 || k == 12 || k == 13 || k == 17 || k == 32)) ?_
  rw [Try.ntmps12]
  simp -dsimp [ints]
  refine ALoop.of [] (fun k => k == 0 || k == 1 || k == 2 || k == 3 || k == 8 || k == 9 || k == 10 || k == 11 || k == 12 || k == 13 || k == 17 || k == 32) (ι := { z : Nat × Int // z.1 ≤ ids.length ∧ 0 ≤ z.2 ∧ z.2 ≤ 2000 * z.1 ∧ uniF l r p ids 0 = uniF l r p (ids.drop z.1) z.2 })
    (fun z => [(Pl.s 0, It.v (TV.d (D.sl (tbs l)))), (Pl.s 1, It.v (TV.d (D.int IntKind.i64 r))), (Pl.s 2, It.v (TV.d (ints ids))), (Pl.s 3, It.v (TV.d (D.int IntKind.i64 p))), (Pl.s 8, It.v (TV.d (D.int IntKind.i64 0))), (Pl.s 9, It.v (TV.d (D.int IntKind.i64 0))), (Pl.s 10, It.v (TV.d (D.int IntKind.i64 z.1.2))), (Pl.s 11, It.v (TV.d (D.int IntKind.i64 z.1.1)))]) (fun z => ids.length - z.1.1) ⟨(0, 0), by simp, by simp, by simp, rfl⟩ ?_ ?_
  · exact GS.to (by simp [ints])
  rintro ⟨⟨i, m⟩, i1, i2, i3, i4⟩
  simp only at i1 i2 i3 i4
  by_cases hil : i < ids.length
  · have hiz : (i : Int) < ids.length := by omega
    have hx : ids[i]? = some ids[i] := List.getElem?_eq_getElem hil
    have hd : ids.drop i = ids[i] :: ids.drop (i + 1) := List.drop_eq_getElem_cons hil
    generalize ids[i] = x at hx hd
    have hx' : (ids.map fun n => [D.int IntKind.i64 n])[i]? = some [.int .i64 x] := by simp [hx]
    rw [hd, uniF] at i4
    have hpl := pathV_len l r x p
    simp -dsimp [hiz, hx', ints]
    and_intros
    all_goals try first | rfl | omega | exact ⟨by kernel_rfl⟩
    refine ACall.of (path14_c l hl r x p) [] 0 ?_
    generalize pathV l r x p = w at i4 hpl ⊢
    by_cases w0 : w.2 = 0
    · rw [if_pos w0] at i4
      simp -dsimp [pathT, ints, eq_true w0, wrap_i64 (n := (i : Int) + 1) (by omega) (by omega), wrap_i64 (n := m + w.1.length) (by omega) (by omega)]
      and_intros
      all_goals try first | rfl | omega | exact ⟨by kernel_rfl⟩
      exact ⟨⟨(i + 1, m + w.1.length), by dsimp only; omega, by dsimp only; omega, by dsimp only; omega, i4⟩, GS.to (by simp [ints]), by simp; omega⟩
    · rw [if_neg w0] at i4
      simp -dsimp [pathT, ints, eq_false w0]
      and_intros
      all_goals try first | rfl | omega | exact ⟨by kernel_rfl⟩
      refine Fin.of ?_
      simp [i4, uniT]
  · have hiz : ¬ (i : Int) < ids.length := by omega
    have e0 : ids.drop i = [] := List.drop_eq_nil_of_le (by omega)
    rw [e0, uniF] at i4
    simp -dsimp [hiz, ints]
    refine Fin.of ?_
    simp [i4, uniT]
/-- a router of a topology, in one of n cases another number -/
def gRouter (T : Tp) (rs : List Rt) (n : Int) : Int × Tp :=
  let o := gOne T n
  if o.1 = true then gPick o.2 [0, 1, 2, 7, 77, -1] else ((rs.getD (gNext o.2 rs.length).1.toNat ⟨0, false⟩).id, (gNext o.2 rs.length).2)
theorem router_c (T : Tp) (hT : TapeOK T) (rs : List Rt) (ls : List Lk) (hr : 1 ≤ rs.length ∧ rs.length ≤ 1000) (n : Int) (hn : 1 ≤ n ∧ n ≤ 1000) : Contract Try.prog 10 [.ptr (.x 0) 0, .agg [.d (.sl (rts rs)), .d (.sl (lks ls))], .d (.int .i64 n)] [tapeI T] (.d (.int .i64 (gRouter T rs n).1)) [tapeI (gRouter T rs n).2] [] := by
  have hn0 : 0 < n := by omega
  have hr0 : ¬ rs.length = 0 := by omega
  have hrn : ¬ rs = [] := fun h => by simp [h] at hr0
  refine contract_of Try.func10 rfl (fun E0 => ?_)
  refine awp.sound (g := .mk) (ow := []) (kp := (fun k => k == 0 || k == 1 || k == 2 || k == 4 || k == 6 || k == 19)) ?_
  rw [Try.ntmps10]
  simp -dsimp [hn0]
  refine ACall.of (one_c T hT n ⟨by omega, by omega⟩ ⟨by omega, by omega⟩) [.x 0] 0 ?_
  have kO : TapeOK (gOne T n).2 := by simpa using hT
  unfold gRouter
  generalize gOne T n = o at kO ⊢
  rcases (Bool.eq_false_or_eq_true o.1).symm with ho | ho
  · simp only [ho]
    simp -dsimp [hn0, ho, hrn]
    refine ACall.of (next_c o.2 kO rs.length ⟨by omega, by omega⟩) [.x 0] 0 ?_
    have m1 := gNext_nonneg o.2 rs.length
    have m2 := gNext_lt o.2 (n := rs.length) (by omega)
    generalize gNext o.2 rs.length = q at m1 m2 ⊢
    obtain ⟨k, hk⟩ : ∃ k : Nat, q.1 = k := ⟨q.1.toNat, by omega⟩
    have hkl : k < rs.length := by omega
    have hx : rs[k]? = some rs[k] := List.getElem?_eq_getElem hkl
    generalize rs[k] = x at hx
    have hx' := rts_get hx
    rw [hk]
    simp -dsimp [hx', Rt.cs]
    and_intros
    all_goals try first | rfl | omega | exact ⟨by kernel_rfl⟩
    refine Fin.of ?_
    simp [hx, ho]
  · simp only [ho]
    simp -dsimp [hn0, ho, hrn]
    refine ACall.of (pick_c o.2 kO [0, 1, 2, 7, 77, -1] (by simp) (by simp)) [.x 0] 0 ?_
    simp -dsimp [ints]
    refine Fin.of ?_
    simp [ho]
/-- a topology, a plan, its tables -/
noncomputable def gDom (T : Tp) (most : Int) : Topo × Pn × List Tb × Tp :=
  let g := gTop T most
  let p := gPlan g.2 g.1.rs 0
  (g.1, p.1, (all11 g.1 p.1).1, p.2)
theorem allT_eq (l : List Tb) (e : Int) : allT l e = .tup [.d (.sl (tbs l)), .d (.int .i64 e)] := rfl
theorem domain_c (T : Tp) (hT : TapeOK T) (most : Int) (hm : 1 ≤ most ∧ most ≤ 24) : Contract Try.prog 5 [.ptr (.x 0) 0, .d (.int .i64 most)] [tapeI T] (.tup [topT (gDom T most).1, planT (gDom T most).2.1, .d (.sl (tbs (gDom T most).2.2.1))]) [tapeI (gDom T most).2.2.2] [] := by
  refine contract_of Try.func5 rfl (fun E0 => ?_)
  refine awp.sound (g := .mk) (ow := []) (kp := (fun k => k == 0 || k == 1 || k == 4 || k == 5 || k == 6 || k == 7 || k == 8 || k == 9)) ?_
  rw [Try.ntmps5]
  simp -dsimp
  refine ACall.of (topo_c T hT most hm) [.x 0] 0 ?_
  have kG : TapeOK (gTop T most).2 := by simpa using hT
  have hsm := gTop_small T hm
  unfold gDom
  simp only
  generalize gTop T most = G at kG hsm ⊢
  simp -dsimp [topT]
  refine ACall.of (plan_c G.2 kG G.1.rs G.1.ls (by omega) 0 (by omega)) [.x 0] 0 ?_
  obtain ⟨kP, lP⟩ := gPlan_zero G.2 G.1.rs
  have kG : TapeOK (gPlan G.2 G.1.rs 0).2 := kP.symm ▸ kG
  clear kP
  generalize gPlan G.2 G.1.rs 0 = p at kG lP ⊢
  simp -dsimp [topT, planT]
  refine ACall.of (all11_c G.1 ⟨by omega, by omega⟩ p.1 (by omega)) [] 0 ?_
  generalize (all11 G.1 p.1).1 = l
  generalize (all11 G.1 p.1).2 = er
  simp -dsimp [topT, planT, allT_eq]
  and_intros
  all_goals try first | rfl | omega | exact ⟨by kernel_rfl⟩
  refine Fin.of ?_
  simp [topT, planT]
end Go.Proofs

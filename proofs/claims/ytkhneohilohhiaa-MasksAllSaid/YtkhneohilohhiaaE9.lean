/-
  What functions of the program compute, stated as contracts over plain data; the conditions of each stand in its own statement.
-/
import Derived.Test.YtkhneohilohhiaaV2
set_option linter.unusedSimpArgs false
set_option maxRecDepth 100000
set_option maxHeartbeats 2000000
namespace Go.Proofs
open Go Go.Tr
def rws (l : List Rw) : List (List D) := l.map Rw.cs
theorem rws_get {l : List Rw} {i : Nat} {x : Rw} (h : l[i]? = some x) : (rws l)[i]? = some [.int .i64 x.id, ints x.nx] := by simp [rws, h, Rw.cs]
@[simp] theorem rws_len (l : List Rw) : (rws l).length = l.length := by simp [rws]
theorem rws_app (l : List Rw) (x : Rw) : rws (l ++ [x]) = rws l ++ [[.int .i64 x.id, ints x.nx]] := by simp [rws, Rw.cs]
theorem rwsD_eq (l : List Rw) : rwsD l = .sl (rws l) := rfl
theorem copied_c (b : Tb) (hb : b.rows.length ≤ 1000000) (hn : ∀ x ∈ b.rows, x.nx.length ≤ 1000000) : Contract Try.prog 36 [tblT b] [] (.agg [TV.d (D.int IntKind.i64 b.r), TV.d (D.int IntKind.i64 b.sd), TV.d (D.int IntKind.i64 b.len), .oref 3 b.rows.length]) [] [(3, .row 26 2 (dd (rws b.rows)) false)] := by
  refine contract_of Try.func36 rfl (fun E0 => ?_)
  refine awp.sound (g := .mk) (ow := [19]) (kp := (fun k => k == 0 || k == 1 || k == 2 || k == 3 || k == 4 || k == 9)) ?_
  rw [Try.ntmps36]
  simp -dsimp [tblT, rwsD_eq]
  refine ALoop.of [19] (fun k => k == 0 || k == 1 || k == 2 || k == 3 || k == 4 || k == 9) (ι := { i : Nat // i ≤ b.rows.length }) (fun z => [(Pl.s 0, It.v (TV.agg [TV.d (D.int IntKind.i64 b.r), TV.d (D.int IntKind.i64 b.sd), TV.d (D.int IntKind.i64 b.len), TV.d (D.sl (rws b.rows))])), (Pl.o 1, It.box [TV.d (D.int IntKind.i64 b.r), TV.d (D.int IntKind.i64 b.sd), TV.d (D.int IntKind.i64 b.len), TV.d (D.sl (rws b.rows))]), (Pl.s 1, It.v (TV.ptr (Pl.o 1) 0)), (Pl.o 2, It.box [TV.d (D.int IntKind.i64 0), TV.d (D.int IntKind.i64 0), TV.d (D.int IntKind.i64 0), TV.c (Value.slice none 0 0)]), (Pl.s 2, It.v (TV.ptr (Pl.o 2) 0)), (Pl.s 3, It.v (TV.oref 3 z.1)), (Pl.o 3, It.row 26 2 (dd (rws (b.rows.take z.1))) false), (Pl.s 4, It.v (TV.d (D.int IntKind.i64 z.1)))]) (fun z => b.rows.length - z.1) ⟨0, by omega⟩ ?_ ?_
  · exact GS.own' (k := 3) 26 2 (by simp) (by simp) (by simp [rws])
  rintro ⟨i, i1⟩
  by_cases hi : i < b.rows.length
  · have hiz : (i : Int) < b.rows.length := by omega
    have hx : b.rows[i]? = some b.rows[i] := List.getElem?_eq_getElem hi
    have ht : b.rows.take (i + 1) = b.rows.take i ++ [b.rows[i]] := by rw [List.take_add_one, List.getElem?_eq_getElem hi]; rfl
    have hnx := hn b.rows[i] (List.getElem_mem hi)
    generalize b.rows[i] = x at hx ht hnx
    have hx' := rws_get hx
    simp -dsimp [hiz, hx', ints, wrap_i64 (n := (i : Int) + 1) (by omega) (by omega)]
    and_intros
    all_goals try first | rfl | omega | exact ⟨by kernel_rfl⟩ | exact dLen_map 1 _ _ fun _ => rfl
    exact ⟨⟨i + 1, by omega⟩, GS.to (by simp [ht, rws_app, ints]), by simp; omega⟩
  · have hiz : ¬ (i : Int) < b.rows.length := by omega
    obtain rfl : i = b.rows.length := by omega
    simp -dsimp [hiz]
    refine Fin.of ?_
    simp
theorem gTopA_len (cost tree : Int) (skip : Bool) (b : Int) : ∀ (n : Nat) (a : Int) (T : Tp) (l : List Lk), (gTopA cost tree skip b n a T l).1.length ≤ l.length + n
  | 0, _, _, _ => Nat.le_refl _
  | n + 1, a, T, l => by
    have h1 := gTopA_len cost tree skip b n (a + 1) (gTopS cost tree skip b a T l).2 (gTopS cost tree skip b a T l).1
    have h2 := gTopS_len cost tree skip b a T l
    rw [gTopA]
    omega
theorem gTopB_len (cost : Int) : ∀ (n : Nat) (b : Int) (T : Tp) (l : List Lk), 0 ≤ b → (gTopB cost n b T l).1.length ≤ l.length + n * (b + n).toNat
  | 0, _, _, _, _ => by simp [gTopB]
  | n + 1, b, T, l, hb => by
    have h1 := gTopB_len cost n (b + 1) (gTopR cost b T l).2 (gTopR cost b T l).1 (by omega)
    have h2 : (gTopR cost b T l).1.length ≤ l.length + (b - 1).toNat := gTopA_len _ _ _ _ _ _ _ _
    rw [gTopB]
    have e : (b + 1 + n).toNat = (b + (n + 1 : Nat)).toNat := by omega
    rw [e] at h1
    have h3 : (n + 1) * (b + (n + 1 : Nat)).toNat = n * (b + (n + 1 : Nat)).toNat + (b + (n + 1 : Nat)).toNat := Nat.succ_mul _ _
    omega
theorem ordL_len : ∀ (l out : List Lk), (ordL l out).length = l.length + out.length
  | [], _ => by simp [ordL]
  | x :: l, out => by
    rw [ordL, ordL_len l]
    simp
    omega
theorem gTop_small (T : Tp) {most : Int} (hm : 1 ≤ most ∧ most ≤ 24) : (gTop T most).1.rs.length ≤ 24 ∧ (gTop T most).1.ls.length ≤ 1000 := by
  have b1 := gRange_lo T 1 most
  have b2 := gRange_hi T (a := 1) (b := most) (by omega)
  simp only [gTop, ordL_len]
  generalize gRange T 1 most = R at b1 b2 ⊢
  have h := gTopB_len (gPick R.2 [1, 2, 2, 5]).1 (R.1 + 1 - 2).toNat 2 (gPick R.2 [1, 2, 2, 5]).2 [] (by omega)
  have h1 : (R.1 + 1 - 2).toNat ≤ 23 := by omega
  have h2 : (2 + ((R.1 + 1 - 2).toNat : Int)).toNat ≤ 25 := by omega
  have h3 := Nat.mul_le_mul h1 h2
  simp only [List.length_nil] at h ⊢
  exact ⟨by simp [gRts]; omega, by omega⟩
theorem gMixL_tape : ∀ (l : List Rt) (T : Tp), TapeOK (gMixL l T).2 = TapeOK T
  | [], _ => rfl
  | x :: l, T => by simp [gMixL, gMixL_tape l]
@[simp] theorem gMix_tape (T : Tp) (most : Int) : TapeOK (gMix T most).2 = TapeOK T := by simp [gMix, gMixL_tape]
theorem gMix_small (T : Tp) {most : Int} (hm : 1 ≤ most ∧ most ≤ 24) : (gMix T most).1.rs.length ≤ 24 ∧ (gMix T most).1.ls.length ≤ 1000 := by
  have := gTop_small T hm
  simpa [gMix, gMixL_len] using this
theorem gPlanS_ok (rs : List Rt) (len x : Int) (T : Tp) (id : Int) (l : List Ed) : TapeOK (gPlanS rs len x T id l).2.2 = TapeOK T ∧ (gPlanS rs len x T id l).1.length ≤ l.length + 1 := by
  unfold gPlanS
  simp only
  split
  · simp
  · split <;> simp
theorem gPlanL_ok (rs : List Rt) (len : Int) : ∀ (o : List Int) (T : Tp) (id : Int) (l : List Ed), TapeOK (gPlanL rs len o T id l).2.2 = TapeOK T ∧ (gPlanL rs len o T id l).1.length ≤ l.length + o.length
  | [], _, _, _ => ⟨rfl, Nat.le_refl _⟩
  | x :: o, T, id, l => by
    rw [gPlanL]
    obtain ⟨h1, h2⟩ := gPlanS_ok rs len x T id l
    obtain ⟨h3, h4⟩ := gPlanL_ok rs len o (gPlanS rs len x T id l).2.2 (gPlanS rs len x T id l).2.1 (gPlanS rs len x T id l).1
    exact ⟨h3.trans h1, by simp only [List.length_cons]; omega⟩
theorem gPlan_zero (T : Tp) (rs : List Rt) : TapeOK (gPlan T rs 0).2 = TapeOK T ∧ (gPlan T rs 0).1.es.length ≤ rs.length := by
  have h := gPlanL_ok rs (gPick (gNext T 3).2 [8, 8, 16, 32, 64]).1 (gOrder (gPick (gNext T 3).2 [8, 8, 16, 32, 64]).2 rs.length).1 (gOrder (gPick (gNext T 3).2 [8, 8, 16, 32, 64]).2 rs.length).2 0 []
  simp only [gPlan, gPlan0, Int.lt_irrefl, if_false]
  refine ⟨h.1.trans (by simp), ?_⟩
  have h2 := h.2
  rw [gOrder_len] at h2
  simpa using h2
def tbs (l : List Tb) : List (List D) := l.map Tb.cs
theorem tbs_get {l : List Tb} {i : Nat} {b : Tb} (h : l[i]? = some b) : (tbs l)[i]? = some [.int .i64 b.r, .int .i64 b.sd, .int .i64 b.len, .sl (rws b.rows)] := by simp [tbs, h, Tb.cs, rwsD_eq]
@[simp] theorem tbs_len (l : List Tb) : (tbs l).length = l.length := by simp [tbs]
theorem allT_eq (l : List Tb) (e : Int) : allT l e = .tup [.d (.sl (tbs l)), .d (.int .i64 e)] := rfl
theorem dflt_ok : chk ⟨1, 0, 8, []⟩ = 0 := by decide
/-- the table that the tape yields, and what is left -/
noncomputable def gTab0 (T : Tp) : Tb × Tp :=
  let g := gMix T 6
  let p := gPlan g.2 g.1.rs 0
  let l := (all11 g.1 p.1).1
  if l.length = 0 then (⟨1, 0, 8, []⟩, p.2) else (l.getD (gNext p.2 l.length).1.toNat ⟨1, 0, 8, []⟩, (gNext p.2 l.length).2)
theorem table0_c (T : Tp) (hT : TapeOK T) : Contract Try.prog 13 [.ptr (.x 0) 0, .d (.int .i64 0)] [tapeI T] (tblT (gTab0 T).1) [tapeI (gTab0 T).2] [] := by
  refine contract_of Try.func13 rfl (fun E0 => ?_)
  refine awp.sound (g := .mk) (ow := []) (kp := (fun k => k == 0 || k == 1 || k == 4 || k == 5 || k == 6 || k == 7 || k == 9 || k == 23 || k == 39)) ?_
  rw [Try.ntmps13]
  simp -dsimp
  refine ACall.of (mixed_c T hT 6 (by omega)) [.x 0] 0 ?_
  have kG : TapeOK (gMix T 6).2 := by simpa using hT
  have hsm := gMix_small T (most := 6) (by omega)
  have e0 : gTab0 T = gTab0 T := rfl
  conv at e0 => rhs; unfold gTab0
  simp only at e0
  generalize hG : gMix T 6 = G at kG hsm e0 ⊢
  simp -dsimp [topT]
  refine ACall.of (plan_c G.2 kG G.1.rs G.1.ls (by omega) 0 (by omega)) [.x 0] 0 ?_
  obtain ⟨kP, lP⟩ := gPlan_zero G.2 G.1.rs
  have kG : TapeOK (gPlan G.2 G.1.rs 0).2 := kP.symm ▸ kG
  clear kP
  generalize hP : gPlan G.2 G.1.rs 0 = p at kG lP e0 ⊢
  simp -dsimp [topT, planT]
  refine ACall.of (all11_c G.1 ⟨by omega, by omega⟩ p.1 (by omega)) [] 0 ?_
  have hlen := all11_len G.1 p.1
  have hok := all11_ok G.1 p.1
  generalize (all11 G.1 p.1).1 = l at hlen hok e0 ⊢
  generalize (all11 G.1 p.1).2 = er
  simp -dsimp [topT, planT, allT_eq]
  by_cases hl : l = []
  · simp -dsimp [eq_true hl]
    refine Fin.box (.o 4) rfl ?_
    simp -dsimp
    refine Fin.of ?_
    rw [if_pos (by simp [hl])] at e0
    simp [e0, tblT, rwsD]
  have hlz : 0 < l.length := List.length_pos_iff.2 hl
  rw [if_neg (by omega)] at e0
  simp -dsimp [eq_false hl]
  refine ACall.of (next_c p.2 kG l.length ⟨by omega, by omega⟩) [.x 0] 0 ?_
  have m1 := gNext_nonneg p.2 l.length
  have m2 := gNext_lt p.2 (n := l.length) (by omega)
  have kN : TapeOK (gNext p.2 l.length).2 := by simpa using kG
  generalize gNext p.2 l.length = q at m1 m2 kN e0 ⊢
  obtain ⟨i, hi⟩ : ∃ i : Nat, q.1 = i := ⟨q.1.toNat, by omega⟩
  have hil : i < l.length := by omega
  have hx : l[i]? = some l[i] := List.getElem?_eq_getElem hil
  have hxo := hok l[i] (List.getElem_mem hil)
  have hxs := chk_sm hxo
  rw [hi, Int.toNat_natCast, List.getD_eq_getElem?_getD, hx] at e0
  generalize l[i] = b at hx hxo hxs e0
  have hx' := tbs_get hx
  rw [hi]
  simp -dsimp [eq_false hl, hx']
  and_intros
  all_goals try first | rfl | omega | exact ⟨by kernel_rfl⟩
  refine ACall.of (copied_c b hxs.rows hxs.nx) [] 2000 ?_
  simp -dsimp [eq_false hl, hx', tblT, rwsD_eq]
  refine Fin.box (.o 4) rfl ?_
  simp -dsimp
  refine Fin.of ?_
  simp [e0, tblT, rwsD_eq]
theorem gTab0_ok (T : Tp) : chk (gTab0 T).1 = 0 := by
  unfold gTab0
  simp only
  split
  · exact dflt_ok
  · rename_i h
    have m1 := gNext_nonneg (gPlan (gMix T 6).2 (gMix T 6).1.rs 0).2 (all11 (gMix T 6).1 (gPlan (gMix T 6).2 (gMix T 6).1.rs 0).1).1.length
    have m2 := gNext_lt (gPlan (gMix T 6).2 (gMix T 6).1.rs 0).2 (n := (all11 (gMix T 6).1 (gPlan (gMix T 6).2 (gMix T 6).1.rs 0).1).1.length) (by omega)
    rw [List.getD_eq_getElem?_getD, List.getElem?_eq_getElem (by omega)]
    exact all11_ok _ _ _ (List.getElem_mem _)
theorem gTab0_tape (T : Tp) : TapeOK (gTab0 T).2 = TapeOK T := by
  unfold gTab0
  simp only
  split
  · exact (gPlan_zero _ _).1.trans (by simp)
  · simp only [gNext_ok]
    exact (gPlan_zero _ _).1.trans (by simp)
end Go.Proofs

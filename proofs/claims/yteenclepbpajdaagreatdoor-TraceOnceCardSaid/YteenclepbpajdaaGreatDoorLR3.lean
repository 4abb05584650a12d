/-
  What functions of the program compute, stated as contracts over plain data; the conditions of each stand in its own statement.
-/
import Derived.Test.YteenclepbpajdaaGreatDoorM32
set_option linter.unusedSimpArgs false
set_option maxRecDepth 100000
set_option maxHeartbeats 8000000
namespace Go.Proofs
open Go Go.Tr
def inc1 (N : List Int) (k : Nat) : List Int := N.set k (N.getD k 0 + 1)
def cntN : List (Int × Int × BitVec 64) → List Int → List Int
 | [], N => N
 | c :: l, N => cntN l ((bitsL c.2.2).foldl inc1 N)
theorem inc1_len (N : List Int) (k : Nat) : (inc1 N k).length = N.length := by simp [inc1]
theorem incs_len : ∀ (l : List Nat) (N : List Int), (l.foldl inc1 N).length = N.length
 | [], _ => rfl
 | k :: l, N => by rw [List.foldl_cons, incs_len l, inc1_len]
theorem inc1_get (N : List Int) {k : Nat} (hk : k < N.length) (j : Nat) : (inc1 N k).getD j 0 = N.getD j 0 + if j = k then 1 else 0 := by
 unfold inc1
 rw [List.getD_eq_getElem?_getD, List.getElem?_set]
 by_cases e : k = j
 ·subst e; simp [hk]
 ·rw [if_neg e, if_neg (Ne.symm e), ← List.getD_eq_getElem?_getD]; omega
theorem incs_get : ∀ (l : List Nat) (N : List Int), l.Nodup → (∀ k ∈ l, k < N.length) → ∀ j, (l.foldl inc1 N).getD j 0 = N.getD j 0 + if j ∈ l then 1 else 0
 | [], N, _, _, j => by simp
 | k :: l, N, hn, hl, j => by
   rw [List.nodup_cons] at hn
   rw [List.foldl_cons, incs_get l _ hn.2 (fun m hm => by rw [inc1_len]; exact hl m (by simp [hm])), inc1_get N (hl k (by simp))]
   by_cases e : j = k
   ·subst e; simp [hn.1]
   ·simp [e]
theorem cntN_get : ∀ (l : List (Int × Int × BitVec 64)) (N : List Int), N.length = 64 → ∀ j < 64, (cntN l N).getD j 0 = N.getD j 0 + ((l.filter fun c => c.2.2.getLsbD j).length : Int)
 | [], N, _, j, _ => by simp [cntN]
 | c :: l, N, hN, j, hj => by
   rw [cntN, cntN_get l _ (by rw [incs_len]; exact hN) j hj, incs_get _ _ (bitsL_nodup _) (fun k hk => by rw [hN]; exact (mem_bitsL.1 hk).1), List.filter_cons]
   by_cases h : c.2.2.getLsbD j = true
   ·rw [if_pos (mem_bitsL.2 ⟨hj, h⟩), if_pos h, List.length_cons]; omega
   ·rw [if_neg (fun a => h (mem_bitsL.1 a).2), if_neg h]; omega
theorem tonce_law (L : List Int) (hL : ∀ x ∈ L, I64 x) : Contract Tryz.prog 5 [.d (ints L)] [] (.d (.bool true)) [] [] := by
 refine contract_of Tryz.func5 rfl (fun E0 => ?_)
 refine awp.sound (g := .mk) (ow := []) (kp := (fun k => k==0||k==2||k==3||k==4||k==5||k==6||k==7||k==8||k==9||k==10||k==11||k==12||k==13||k==14||k==45||k==74||k==80||k==93||k==106||k==115)) ?_
 rw [Tryz.ntmps5]
 simp -dsimp [ints]
 refine ACall.of (new_c L) [] 3000 ?_
 simp -dsimp [ints]
 have kT : TapeOK (L.take 600, 0) := tape_new L hL
 generalize (L.take 600, 0) = T0 at kT ⊢
 refine ACall.of (domain_c T0 kT 6 (by omega)) [.o 3010] 0 ?_
 obtain ⟨d1, d2, d3, d4, d5, d6⟩ := gDom_ok T0 (most := 6) (by omega)
 obtain ⟨hDV, hAC⟩ := gDom_valid T0 (most := 6) (by omega)
 have kD : TapeOK (gDom T0 6).2.2.2 := d3.symm ▸ kT
 clear d3
 generalize gDom T0 6 = D0 at d1 d2 d4 d5 d6 kD hDV hAC ⊢
 obtain ⟨g, p, X, T1⟩ := D0
 simp only at d1 d2 d4 d5 d6 kD hDV hAC
 have hlen := hDV.len
 have hl0 : p.len ≠ 0 := fun e => by rw [e] at hlen; simp [validLen] at hlen
 have hlI : I64 p.len := by simp [validLen] at hlen; unfold I64; omega
 have hsX : SmL X := ⟨by omega, fun b hb => chk_sm (d2 b hb)⟩
 simp -dsimp [topT, planT]
 refine ACall.of (wrong_c T1 kD X hsX g.rs.length ⟨by omega, by omega⟩) [.o 3010] 0 ?_
 have kW : TapeOK (wrT g.rs.length X T1).2 := by rw [wrT_tape]; exact kD
 have hTV : TabV p ((tabs g p g.rs).map (·.r)) (wrT g.rs.length X T1).1 := by
  rw [hDV.tab]; exact wrT_v hDV.top.ok hDV.plan ⟨by omega, by omega⟩ T1
 generalize wrT g.rs.length X T1 = Y at kW hTV ⊢
 obtain ⟨Y, T2⟩ := Y
 simp only at kW hTV ⊢
 simp -dsimp [topT, planT]
 refine ACall.of (for_c T2 kW p (by omega) hl0 hlI) [.o 3010] 0 ?_
 have kF : TapeOK (gFor T2 p).2 := by rw [gFor_ok]; exact kW
 have hFV := gFor_valid T2 hDV.subd hDV.len
 generalize gFor T2 p = F at kF hFV ⊢
 obtain ⟨q, T3⟩ := F
 simp only at kF hFV ⊢
 simp only [pkT, Pk.cs, List.map, bv]
 simp -dsimp [planT]
 refine ACall.of (rangeS_c T3 kF 0 12 (by omega)) [.o 3010] 0 ?_
 have r1 := gRange_lo T3 0 12
 have r2 := gRange_hi T3 (a := 0) (b := 12) (by omega)
 have kR : TapeOK (gRange T3 0 12).2 := by simpa using kF
 generalize gRange T3 0 12 = V at r1 r2 kR ⊢
 obtain ⟨v, T4⟩ := V
 simp only at r1 r2 kR ⊢
 simp -dsimp
 refine ACall.of (router0_c T4 kR g.rs g.ls ⟨d5, by omega⟩) [.o 3010] 0 ?_
 have m1 := gNext_nonneg T4 g.rs.length
 have m2 := gNext_lt T4 (n := g.rs.length) (by omega)
 generalize gNext T4 g.rs.length = A at m1 m2 ⊢
 obtain ⟨a, T5⟩ := A
 simp only at m1 m2 ⊢
 obtain ⟨j, rfl⟩ : ∃ j : Nat, a = j := ⟨a.toNat, by omega⟩
 have hj : j < g.rs.length := by omega
 have hx : g.rs.getD ((j : Int)).toNat ⟨0, false⟩ = g.rs[j] := by rw [List.getD_eq_getElem?_getD, show ((j : Int)).toNat = j by omega, List.getElem?_eq_getElem hj]; rfl
 rw [hx]
 have hxm : g.rs[j] ∈ g.rs := List.getElem_mem hj
 generalize g.rs[j] = x at hxm
 have hQV := hFV.live (n := v) ⟨r1, by omega⟩
 have hO := chkT_zero hDV.top.ok
 have hr : x.id ∈ (tabs g p g.rs).map (·.r) := (tabs_rs hO p x.id).2 (hAC.cap hO (rt_has hxm))
 obtain ⟨hrun, hsome⟩ := hTV.run hQV hr
 have hrc := run_c Y hTV.sm (q.live v) x.id
 obtain ⟨s1, s2, s3⟩ := run_small Y (q.live v) x.id
 rw [hrun] at hrc s1 s2 s3
 have hF := hTV.fit hQV
 have hE := run_ends hF hsome
 have hC := run_cr hF hsome
 have hB := fun k (hk : k < 64) => (run_bit hF x.id hk).2
 simp only at hrc s1 s2 s3
 generalize runG Y (wt (q.live v)) [(x.id, q.live v)] tr0 = U at hrc s1 s2 s3 hE hC hB
 have hen := ends_c U s1 s3 q.bits
 have hco := count01_c q.bits
 have hEq : endsR U q.bits = true := hE
 rw [hEq] at hen
 simp only [pkT, Pk.cs, Pk.live, List.map, trcT, bv] at hrc hen hco
 simp -dsimp [topT]
 try refine ⟨?_, ⟨by kernel_rfl⟩⟩
 refine ACall.of hrc [] 0 ?_
 simp -dsimp
 try refine ⟨?_, ⟨by kernel_rfl⟩⟩
 refine ACall.of hen [] 0 ?_
 simp -dsimp
 try refine ⟨?_, ⟨by kernel_rfl⟩⟩
 refine ACall.of hco [] 0 ?_
 have hpc := pc_le q.bits
 have e2 : (q.live v).ttl = v := rfl
 have e3 : (q.live v).bits = q.bits := rfl
 rw [e2, e3] at hC
 simp only [e2, e3] at hB
 have hmul : 0 ≤ (pc q.bits : Int) * v ∧ (pc q.bits : Int) * v ≤ 768 := by
  have h1 : (pc q.bits : Int) * v ≤ 64 * v := Int.mul_le_mul_of_nonneg_right (by omega) r1
  exact ⟨Int.mul_nonneg (by omega) r1, by omega⟩
 have hCz : ¬ (pc q.bits : Int) * v < U.cr.length := by
  have : ((pc q.bits * v.toNat : Nat) : Int) = (pc q.bits : Int) * v := by rw [Int.natCast_mul, Int.toNat_of_nonneg r1]
  omega
 simp -dsimp [wrap_i64 (n := (pc q.bits : Int) * v) (by omega) (by omega), hCz]
 try refine ⟨?_, ⟨by kernel_rfl⟩⟩
 clear hCz hmul hC hE hrc hen hco
 refine ALoop.of [75] (fun k => k==0||k==2||k==3||k==4||k==5||k==6||k==7||k==8||k==9||k==10||k==11||k==12||k==13||k==14||k==45||k==74||k==80||k==93||k==106||k==115) (ι := { z : Nat × List Int // z.1 ≤ U.cr.length ∧ z.2.length = 64 ∧ (∀ k, 0 ≤ z.2.getD k 0 ∧ z.2.getD k 0 ≤ z.1) ∧ cntN U.cr (List.replicate 64 0) = cntN (U.cr.drop z.1) z.2 })
  (fun z => [(Pl.s 2, It.v (TV.d (D.bool false))), (Pl.o 7, It.box ((q.live v).cs.map .d)), (Pl.s 7, It.v (TV.ptr (Pl.o 7) 0)), (Pl.o 8, It.box [TV.d (D.sl (List.map dlC U.dl)), TV.d (D.sl (List.map crC U.cr)), TV.d (D.sl (List.map lsC U.ls))]), (Pl.s 8, It.v (TV.ptr (Pl.o 8) 0)),
   (Pl.o 75, It.row 3 1 (dd (nrow .i64 z.1.2)) false), (Pl.s 10, It.v (TV.oref 75 64)), (Pl.s 11, It.v (TV.d (D.int IntKind.i64 z.1.1)))])
  (fun z => U.cr.length - z.1.1) ⟨(0, List.replicate 64 0), by simp, by simp, fun k => by rw [List.getD_eq_getElem?_getD, List.getElem?_replicate]; split <;> simp, rfl⟩ ?_ ?_
 ·exact GS.to (by simp [Pk.live, Pk.cs, bv, nrow, dd, List.replicate])
 rintro ⟨⟨i, N⟩, i1, i2, i3, i4⟩
 simp only at i1 i2 i3 i4
 by_cases hi : i < U.cr.length
 ·have hiz : (i : Int) < U.cr.length := by omega
  have hg : U.cr[i]? = some U.cr[i] := List.getElem?_eq_getElem hi
  have hd : U.cr.drop i = U.cr[i] :: U.cr.drop (i + 1) := List.drop_eq_getElem_cons hi
  generalize U.cr[i] = c at hg hd
  rw [hd, cntN] at i4
  have hls := list01_c c.2.2
  have hbl := bitsL_len c.2.2
  simp only [bv, bitsI, ints] at hls
  have hbn := bitsL_nodup c.2.2
  have hbm : ∀ k ∈ bitsL c.2.2, k < 64 := fun k hk => (mem_bitsL.1 hk).1
  generalize bitsL c.2.2 = B at i4 hls hbl hbn hbm
  simp -dsimp [hiz, hg, crC, Pk.cs, Pk.live, bv]
  and_intros
  all_goals try first | omega | exact ⟨by kernel_rfl⟩
  refine ACall.of hls [] 0 ?_
  simp -dsimp
  try refine ⟨?_, ⟨by kernel_rfl⟩⟩
  refine ALoop.of [75] (fun k => k==0||k==2||k==3||k==4||k==5||k==6||k==7||k==8||k==9||k==10||k==11||k==12||k==13||k==14||k==45||k==74||k==80||k==93||k==106||k==115) (ι := { m : Nat // m ≤ B.length })
   (fun z => [(Pl.s 2, It.v (TV.d (D.bool false))), (Pl.o 7, It.box ((q.live v).cs.map .d)), (Pl.s 7, It.v (TV.ptr (Pl.o 7) 0)), (Pl.o 8, It.box [TV.d (D.sl (List.map dlC U.dl)), TV.d (D.sl (List.map crC U.cr)), TV.d (D.sl (List.map lsC U.ls))]), (Pl.s 8, It.v (TV.ptr (Pl.o 8) 0)),
    (Pl.o 75, It.row 3 1 (dd (nrow .i64 ((B.take z.1).foldl inc1 N))) false), (Pl.s 10, It.v (TV.oref 75 64)), (Pl.s 11, It.v (TV.d (D.int IntKind.i64 i))),
    (Pl.s 12, It.v (TV.d (D.sl (List.map ((fun n => [D.int IntKind.i64 n]) ∘ Int.ofNat) B)))), (Pl.s 13, It.v (TV.d (D.int IntKind.i64 z.1)))])
   (fun z => B.length - z.1) ⟨0, by omega⟩ ?_ ?_
  ·exact GS.to (by simp [Pk.live, Pk.cs, bv])
  rintro ⟨m, k1⟩
  by_cases hm : m < B.length
  ·have hmz : (m : Int) < B.length := by omega
   have hgb : B[m]? = some B[m] := List.getElem?_eq_getElem hm
   have hk64 := hbm _ (List.getElem_mem hm)
   have hnb : (B.take m).Nodup := hbn.sublist (List.take_sublist _ _)
   have htk : B.take (m + 1) = B.take m ++ [B[m]] := by rw [List.take_add_one, hgb]; rfl
   generalize B[m] = k at hgb hk64 htk
   have hN' : ((B.take m).foldl inc1 N).length = 64 := by rw [incs_len]; exact i2
   have hgk := incs_get (B.take m) N hnb (fun x hx => by rw [i2]; exact hbm x (List.mem_of_mem_take hx)) k
   have hnext : (B.take (m + 1)).foldl inc1 N = inc1 ((B.take m).foldl inc1 N) k := by rw [htk, List.foldl_append]; rfl
   have hbd := i3 k
   generalize (B.take m).foldl inc1 N = N' at hN' hgk hnext ⊢
   have hgN : N'[k]? = some N'[k] := List.getElem?_eq_getElem (by omega)
   have hgD : N'.getD k 0 = N'[k] := getD_of hgN
   rw [hgD] at hgk
   have hset : inc1 N' k = N'.set k (N'[k] + 1) := by rw [inc1, hgD]
   generalize N'[k] = w at hgN hgk hset
   have hw : 0 ≤ w ∧ w ≤ i + 1 := by split at hgk <;> omega
   have hr1 := row_get hgN
   have hr2 := row_set N' k (w + 1)
   have hnl : (nrow .i64 N').length = 64 := by simp [nrow, hN']
   simp -dsimp [hmz, hgb, hr1, hr2, hN', hnl, wrap_i64 (n := w + 1) (by omega) (by omega), wrap_i64 (n := (m : Int) + 1) (by omega) (by omega)]
   and_intros
   all_goals try first | omega | exact ⟨by kernel_rfl⟩
   exact ⟨⟨m + 1, by omega⟩, GS.to (by simp [hnext, hset]), by simp; omega⟩
  ·have hmz : ¬ (m : Int) < B.length := by omega
   have e1 : B.take m = B := List.take_of_length_le (by omega)
   simp -dsimp [hmz, e1, wrap_i64 (n := (i : Int) + 1) (by omega) (by omega)]
   try refine ⟨?_, ⟨by kernel_rfl⟩⟩
   exact ⟨⟨(i + 1, B.foldl inc1 N), by dsimp only; omega, by rw [incs_len]; exact i2, fun k => by
    have h1 := i3 k
    have h2 := incs_get B N hbn (fun x hx => by rw [i2]; exact hbm x hx) k
    dsimp only at h2 ⊢
    rw [h2]; split <;> omega, i4⟩, GS.to (by simp), by simp; omega⟩
 ·have hiz : ¬ (i : Int) < U.cr.length := by omega
  simp -dsimp [hiz]
  try refine ⟨?_, ⟨by kernel_rfl⟩⟩
  have e0 : U.cr.drop i = [] := List.drop_eq_nil_of_le (by omega)
  rw [e0, cntN] at i4
  have hNk : ∀ k < 64, N.getD k 0 ≤ v := fun k hk => by
   have h1 := cntN_get U.cr (List.replicate 64 0) (by simp) k hk
   rw [i4] at h1
   have h2 : (List.replicate 64 (0 : Int)).getD k 0 = 0 := by rw [List.getD_eq_getElem?_getD, List.getElem?_replicate]; split <;> simp
   rw [h2] at h1
   have h3 := hB k hk
   split at h3 <;> omega
  clear i4 i3 hB
  refine ALoop.of [75] (fun k => k==0||k==2||k==3||k==4||k==5||k==6||k==7||k==8||k==9||k==10||k==11||k==12||k==13||k==14||k==45||k==74||k==80||k==93||k==106||k==115) (ι := { m : Nat // m ≤ 64 })
   (fun z => [(Pl.s 2, It.v (TV.d (D.bool false))), (Pl.o 7, It.box ((q.live v).cs.map .d)), (Pl.s 7, It.v (TV.ptr (Pl.o 7) 0)), (Pl.o 75, It.row 3 1 (dd (nrow .i64 N)) false), (Pl.s 10, It.v (TV.oref 75 64)), (Pl.s 14, It.v (TV.d (D.int IntKind.i64 z.1)))])
   (fun z => 64 - z.1) ⟨0, by omega⟩ ?_ ?_
  ·exact GS.to (by simp)
  rintro ⟨m, k1⟩
  by_cases hm : m < 64
  ·have hmz : (m : Int) < 64 := by omega
   have hgN : N[m]? = some N[m] := List.getElem?_eq_getElem (by omega)
   have hle := hNk m hm
   rw [getD_of hgN] at hle
   generalize N[m] = w at hgN hle
   have hr1 := row_get hgN
   have hnl : (nrow .i64 N).length = 64 := by simp [nrow, i2]
   have hwz : ¬ v < w := by omega
   simp -dsimp [hmz, hr1, hnl, i2, Pk.live, Pk.cs, bv, hwz, wrap_i64 (n := (m : Int) + 1) (by omega) (by omega)]
   and_intros
   all_goals try first | omega | exact ⟨by kernel_rfl⟩
   exact ⟨⟨m + 1, by omega⟩, GS.to (by simp [Pk.live, Pk.cs, bv]), by simp; omega⟩
  ·have hmz : ¬ (m : Int) < 64 := by omega
   simp -dsimp [hmz]
   try refine ⟨?_, ⟨by kernel_rfl⟩⟩
   refine ACall.of awake14_c [] 0 ?_
   simp -dsimp
   try refine ⟨?_, ⟨by kernel_rfl⟩⟩
   refine Fin.of ?_
   simp
end Go.Proofs

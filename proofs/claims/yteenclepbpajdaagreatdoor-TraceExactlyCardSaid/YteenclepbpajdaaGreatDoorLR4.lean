/-
  What functions of the program compute, stated as contracts over plain data; the conditions of each stand in its own statement.
-/
import Derived.Test.YteenclepbpajdaaGreatDoorR7
import Derived.Test.YteenclepbpajdaaGreatDoorP16
set_option linter.unusedSimpArgs false
set_option maxRecDepth 100000
set_option maxHeartbeats 8000000
namespace Go.Proofs
open Go Go.Tr
theorem filter_take {α : Type} {q : α → Bool} {l : List α} {k : Nat} {x : α} (h : l[k]? = some x) : (l.take (k + 1)).filter q = (l.take k).filter q ++ if q x = true then [x] else [] := by
 rw [List.take_add_one, h, List.filter_append]
 show _ ++ [x].filter q = _
 rw [List.filter_cons]
 rfl
theorem topV_small {most : Int} {g : Topo} (h : TopV most g) : g.rs.length ≤ 24 ∧ g.ls.length ≤ 60 := ⟨(chkT_zero h.ok).nr, (chkT_zero h.ok).nl⟩
theorem edgeT_eq (p : Pn) (id : Int) : edgeT p id = .tup [.agg (((edOf p id).getD ⟨0, 0⟩).cs.map .d), .d (.bool (edOf p id).isSome)] := by
 unfold edgeT edOf
 cases p.es.find? (fun e => decide (e.id = id)) <;> rfl
theorem texactly_law (L : List Int) (hL : ∀ x ∈ L, I64 x) : Contract Tryz.prog 6 [.d (ints L)] [] (.d (.bool true)) [] [] := by
 refine contract_of Tryz.func6 rfl (fun E0 => ?_)
 refine awp.sound (g := .mk) (ow := []) (kp := (fun k => k==0||k==2||k==3||k==4||k==5||k==6||k==8||k==9||k==10||k==11||k==12||k==13||k==14||k==15||k==16||k==17||k==18||k==19||k==20||k==21||k==55||k==79||k==86||k==128||k==151||k==166)) ?_
 rw [Tryz.ntmps6]
 simp -dsimp [ints]
 refine ACall.of (new_c L) [] 3000 ?_
 simp -dsimp [ints]
 have kT : TapeOK (L.take 600, 0) := tape_new L hL
 generalize (L.take 600, 0) = T0 at kT ⊢
 refine ACall.of (mixed_c T0 kT 7 (by omega)) [.o 3010] 0 ?_
 have hTV := gMix_valid T0 (most := 7) (by omega)
 have kG : TapeOK (gMix T0 7).2 := by rw [gMix_tape]; exact kT
 generalize gMix T0 7 = G at hTV kG ⊢
 obtain ⟨g, T1⟩ := G
 simp only at hTV kG ⊢
 obtain ⟨hn1, hn2⟩ := topV_small hTV
 have hn0 := hTV.n.1
 have hn7 := hTV.n.2
 have hc := hTV.ok
 have hO := chkT_zero hc
 simp -dsimp [topT]
 refine ACall.of (plan_c T1 kG g.rs g.ls (by omega) 0 (by omega)) [.o 3010] 0 ?_
 have hPV := plan_valid hTV (by omega) T1
 obtain ⟨kP, lP⟩ := gPlan_zero T1 g.rs
 have kP : TapeOK (gPlan T1 g.rs 0).2 := kP.symm ▸ kG
 generalize gPlan T1 g.rs 0 = P at hPV kP lP ⊢
 obtain ⟨p, T2⟩ := P
 simp only at hPV kP lP ⊢
 have hp := planB_of hPV
 have hlen := hPV.len
 have hl0 : p.len ≠ 0 := fun e => by rw [e] at hlen; simp [validLen] at hlen
 have hlI : I64 p.len := by simp [validLen] at hlen; unfold I64; omega
 have hall := all11_c g hO.sm p (by omega)
 rw [all11_eq hc hp] at hall
 have hTab := tabs_v hc hp
 have hrs := tabs_rs hO p
 have hXD : ∃ X, X = tabs g p g.rs := ⟨_, rfl⟩
 obtain ⟨X, hX⟩ := hXD
 rw [← hX] at hall hTab hrs
 simp only [topT, planT, allT] at hall
 rw [show X.map Tb.cs = tbs X from rfl] at hall
 simp -dsimp [topT, planT]
 refine ACall.of hall [] 0 ?_
 simp -dsimp [topT, planT]
 refine ACall.of (for_c T2 kP p (by omega) hl0 hlI) [.o 3010] 0 ?_
 have kF : TapeOK (gFor T2 p).2 := by rw [gFor_ok]; exact kP
 have hFV := gFor_valid T2 hPV.subd hPV.len
 generalize gFor T2 p = F at kF hFV ⊢
 obtain ⟨q, T3⟩ := F
 simp only at kF hFV ⊢
 simp only [pkT, Pk.cs, List.map, bv]
 simp -dsimp [planT]
 refine ACall.of (rangeS_c T3 kF g.rs.length 63 (by omega)) [.o 3010] 0 ?_
 have r1 := gRange_lo T3 g.rs.length 63
 have r2 := gRange_hi T3 (a := g.rs.length) (b := 63) (by omega)
 have kR : TapeOK (gRange T3 g.rs.length 63).2 := by simpa using kF
 generalize gRange T3 g.rs.length 63 = V at r1 r2 kR ⊢
 obtain ⟨v, T4⟩ := V
 simp only at r1 r2 kR ⊢
 simp -dsimp
 refine ACall.of (router0_c T4 kR g.rs g.ls ⟨hn0, by omega⟩) [.o 3010] 0 ?_
 have m1 := gNext_nonneg T4 g.rs.length
 have m2 := gNext_lt T4 (n := g.rs.length) (by omega)
 generalize gNext T4 g.rs.length = A at m1 m2 ⊢
 obtain ⟨a, T5⟩ := A
 simp only at m1 m2 ⊢
 obtain ⟨j, rfl⟩ : ∃ j : Nat, a = j := ⟨a.toNat, by omega⟩
 have hj : j < g.rs.length := by omega
 have hx : g.rs.getD ((j : Int)).toNat ⟨0, false⟩ = g.rs[j] := by rw [List.getD_eq_getElem?_getD, show ((j : Int)).toNat = j by omega, List.getElem?_eq_getElem hj]; rfl
 rw [hx]
 have hxm : g.rs[j] ∈ g.rs := List.getElem_mem hj
 generalize g.rs[j] = x at hxm
 have hQV := hFV.live (n := v) ⟨by omega, by omega⟩
 have hrc := run_c X hTab.sm (q.live v) x.id
 rcases (Bool.eq_false_or_eq_true (capR g.rs x.id)).symm with hcap | hcap
 ·have hrun := hTab.lack hQV (r := x.id) (fun h => by rw [hrs] at h; rw [hcap] at h; simp at h)
  rw [hrun] at hrc
  have hca := capable05_c g hO.sm x.id
  rw [hcap] at hca
  simp only [pkT, Pk.cs, Pk.live, List.map, trcT, bv, tr0, topT, List.map_nil] at hrc hca
  simp -dsimp [topT]
  try refine ⟨?_, ⟨by kernel_rfl⟩⟩
  refine ACall.of hrc [] 0 ?_
  by_cases hXe : X = []
  ·simp -dsimp [hXe]
   try refine ⟨?_, ⟨by kernel_rfl⟩⟩
   refine ACall.of awake14_c [] 0 ?_
   simp -dsimp
   try refine ⟨?_, ⟨by kernel_rfl⟩⟩
   refine Fin.of ?_
   simp
  ·have hXl : ¬ X.length = 0 := fun h => hXe (List.length_eq_zero_iff.1 h)
   simp -dsimp [hXe, hXl]
   try refine ⟨?_, ⟨by kernel_rfl⟩⟩
   refine ACall.of hca [] 0 ?_
   simp -dsimp
   try refine ⟨?_, ⟨by kernel_rfl⟩⟩
   refine ACall.of awake14_c [] 0 ?_
   simp -dsimp
   try refine ⟨?_, ⟨by kernel_rfl⟩⟩
   refine Fin.of ?_
   simp
 ·have hr := (hrs x.id).2 hcap
  obtain ⟨hrun, hsome⟩ := hTab.run hQV hr
  have hF := hTab.fit hQV
  have hE := run_ends hF hsome
  obtain ⟨s1, s2, s3⟩ := run_small X (q.live v) x.id
  rw [hrun] at hrc s1 s2 s3
  simp only at hrc s1 s2 s3
  have hcnt := fun b (hb : b < 64) (hqb : (q.live v).bits.getLsbD b = true) => exact_cnt hc hp (q := q.live v) (by rw [← hX]; exact hF) (show (g.rs.length : Int) ≤ v from r1) hcap hb hqb
  rw [← hX] at hcnt
  generalize runG X (wt (q.live v)) [(x.id, q.live v)] tr0 = U at hrc s1 s2 s3 hE hcnt
  have hen := ends_c U s1 s3 q.bits
  have hEq : endsR U q.bits = true := hE
  rw [hEq] at hen
  have hls := list01_c q.bits
  have hbl := bitsL_len q.bits
  have hbm : ∀ k ∈ bitsL q.bits, k < 64 ∧ q.bits.getLsbD k = true := fun k hk => mem_bitsL.1 hk
  simp only [bitsI] at hls
  simp only [pkT, Pk.cs, Pk.live, List.map, trcT, bv, ints] at hrc hen hls
  have eb : (q.live v).bits = q.bits := rfl
  rw [eb] at hcnt
  generalize bitsL q.bits = B at hls hbl hbm
  simp -dsimp [topT]
  try refine ⟨?_, ⟨by kernel_rfl⟩⟩
  refine ACall.of hrc [] 0 ?_
  simp -dsimp
  try refine ⟨?_, ⟨by kernel_rfl⟩⟩
  refine ACall.of hen [] 0 ?_
  simp -dsimp
  try refine ⟨?_, ⟨by kernel_rfl⟩⟩
  refine ACall.of hls [] 0 ?_
  simp -dsimp
  try refine ⟨?_, ⟨by kernel_rfl⟩⟩
  refine ALoop.of [] (fun k => k==0||k==2||k==3||k==4||k==5||k==6||k==8||k==9||k==10||k==11||k==12||k==13||k==14||k==15||k==16||k==17||k==18||k==19||k==20||k==21||k==55||k==79||k==86||k==128||k==151||k==166) (ι := { i : Nat // i ≤ B.length })
   (fun z => [(Pl.s 2, It.v (TV.d (D.bool false))), (Pl.o 4, It.box [TV.d (D.sl (rts g.rs)), TV.d (D.sl (lks g.ls))]), (Pl.s 4, It.v (TV.ptr (Pl.o 4) 0)),
    (Pl.o 5, It.box [TV.d (D.int IntKind.i64 p.subd), TV.d (D.int IntKind.i64 p.len), TV.d (D.sl (eds p.es))]), (Pl.s 5, It.v (TV.ptr (Pl.o 5) 0)),
    (Pl.o 8, It.box ((q.live v).cs.map .d)), (Pl.s 8, It.v (TV.ptr (Pl.o 8) 0)), (Pl.s 9, It.v (TV.d (D.int IntKind.i64 x.id))),
    (Pl.o 10, It.box [TV.d (D.sl (List.map dlC U.dl)), TV.d (D.sl (List.map crC U.cr)), TV.d (D.sl (List.map lsC U.ls))]), (Pl.s 10, It.v (TV.ptr (Pl.o 10) 0)),
    (Pl.s 12, It.v (TV.d (D.sl (List.map ((fun n => [D.int IntKind.i64 n]) ∘ Int.ofNat) B)))), (Pl.s 13, It.v (TV.d (D.int IntKind.i64 z.1)))])
   (fun z => B.length - z.1) ⟨0, by omega⟩ ?_ ?_
  ·exact GS.to (by simp [Pk.live, Pk.cs, bv])
  rintro ⟨i, k1⟩
  by_cases hm : i < B.length
  ·have hmz : (i : Int) < B.length := by omega
   have hgb : B[i]? = some B[i] := List.getElem?_eq_getElem hm
   have hbk := hbm _ (List.getElem_mem hm)
   generalize B[i] = b at hgb hbk
   have hc1 := hcnt b hbk.1 hbk.2
   have hat := at10_c q.set b q.len
   have eid : idAt (q.live v) b = idAt q b := rfl
   have hed := edge10_c p (by omega) (idAt q b)
   rw [edgeT_eq] at hed
   rw [eid] at hc1
   have hw : wantR g p (q.live v) x.id b = (atB q.set b q.len && ((edOf p (idAt q b)).isSome && (capR g.rs ((edOf p (idAt q b)).getD ⟨0, 0⟩).r && conn g x.id ((edOf p (idAt q b)).getD ⟨0, 0⟩).r))) := rfl
   rw [hw] at hc1
   clear hw
   have hid : (if atB q.set b q.len = true then q.set * q.len + b + 1 else 0) = idAt q b := rfl
   simp only [atT, hid, Ed.cs, List.map, planT] at hat hed
   generalize idAt q b = id at hat hed hc1
   generalize edOf p id = eo at hed hc1
   generalize eo.getD ⟨0, 0⟩ = y at hed hc1
   generalize atB q.set b q.len = ok at hat hc1
   have hca := capable05_c g hO.sm y.r
   have hcn := connected05_c g hO.sm x.id y.r
   simp only [topT, hc, decide_true, Bool.true_and] at hca hcn
   have hbt := bit_c b
   simp only [bv] at hbt
   simp -dsimp [hmz, hgb, Pk.live, Pk.cs, bv]
   try refine ⟨?_, ⟨by kernel_rfl⟩⟩
   refine ACall.of hat [] 0 ?_
   simp -dsimp
   try refine ⟨?_, ⟨by kernel_rfl⟩⟩
   refine ACall.of hed [] 0 ?_
   have ebb : bitB (b : Int) = 1#64 <<< b := by
    have := shl_bit (k := (b : Int)) ⟨by omega, by omega⟩
    simpa using this.symm
   rw [ebb] at hbt
   cases ok with
   | false =>
     simp -dsimp
     try refine ⟨?_, ⟨by kernel_rfl⟩⟩
     have hc2 : (U.dl.filter fun d => decide (d.2.bits = 1#64 <<< b) && decide (d.1 = y.r)).length = 0 := by rw [hc1]; simp [*]
     refine ALoop.of [] (fun k => k==0||k==2||k==3||k==4||k==5||k==6||k==8||k==9||k==10||k==11||k==12||k==13||k==14||k==15||k==16||k==17||k==18||k==19||k==20||k==21||k==55||k==79||k==86||k==128||k==151||k==166) (ι := { k : Nat // k ≤ U.dl.length })
      (fun z => [(Pl.s 2, It.v (TV.d (D.bool false))), (Pl.o 4, It.box [TV.d (D.sl (rts g.rs)), TV.d (D.sl (lks g.ls))]), (Pl.s 4, It.v (TV.ptr (Pl.o 4) 0)),
       (Pl.o 5, It.box [TV.d (D.int IntKind.i64 p.subd), TV.d (D.int IntKind.i64 p.len), TV.d (D.sl (eds p.es))]), (Pl.s 5, It.v (TV.ptr (Pl.o 5) 0)),
       (Pl.o 8, It.box ((q.live v).cs.map .d)), (Pl.s 8, It.v (TV.ptr (Pl.o 8) 0)), (Pl.s 9, It.v (TV.d (D.int IntKind.i64 x.id))),
       (Pl.o 10, It.box [TV.d (D.sl (List.map dlC U.dl)), TV.d (D.sl (List.map crC U.cr)), TV.d (D.sl (List.map lsC U.ls))]), (Pl.s 10, It.v (TV.ptr (Pl.o 10) 0)),
       (Pl.s 12, It.v (TV.d (D.sl (List.map ((fun n => [D.int IntKind.i64 n]) ∘ Int.ofNat) B)))), (Pl.s 13, It.v (TV.d (D.int IntKind.i64 i))),
       (Pl.o 16, It.box [TV.d (D.int IntKind.i64 y.r), TV.d (D.int IntKind.i64 y.id)]), (Pl.s 16, It.v (TV.ptr (Pl.o 16) 0)), (Pl.s 18, It.v (TV.d (D.bool false))),
       (Pl.s 19, It.v (TV.d (D.int IntKind.i64 ((U.dl.take z.1).filter fun d => decide (d.2.bits = 1#64 <<< b) && decide (d.1 = y.r)).length))), (Pl.s 20, It.v (TV.d (D.int IntKind.i64 z.1)))])
      (fun z => U.dl.length - z.1) ⟨0, by omega⟩ ?_ ?_
     ·exact GS.to (by simp [Pk.live, Pk.cs, bv])
     rintro ⟨k, k2⟩
     by_cases hk : k < U.dl.length
     ·have hkz : (k : Int) < U.dl.length := by omega
      have hgd : U.dl[k]? = some U.dl[k] := List.getElem?_eq_getElem hk
      have htk : (U.dl.take (k + 1)).filter (fun d => decide (d.2.bits = 1#64 <<< b) && decide (d.1 = y.r)) = (U.dl.take k).filter (fun d => decide (d.2.bits = 1#64 <<< b) && decide (d.1 = y.r)) ++ (if decide (U.dl[k].2.bits = 1#64 <<< b) && decide (U.dl[k].1 = y.r) then [U.dl[k]] else []) := by
       exact filter_take hgd
      have hll : ((U.dl.take k).filter fun d => decide (d.2.bits = 1#64 <<< b) && decide (d.1 = y.r)).length ≤ 1000000 := Nat.le_trans (List.length_filter_le _ _) (by simp; omega)
      generalize (U.dl.take k).filter (fun d => decide (d.2.bits = 1#64 <<< b) && decide (d.1 = y.r)) = S at htk hll
      generalize U.dl[k] = d at hgd htk
      simp -dsimp [hkz, hgd, hgb, hmz, dlC, Pk.live, Pk.cs, bv]
      and_intros
      all_goals try first | omega | exact ⟨by kernel_rfl⟩
      refine ACall.of hbt [] 0 ?_
      by_cases e1 : d.2.bits = 1#64 <<< b
      ·by_cases e2 : d.1 = y.r
       ·rw [if_pos (by simp [e1, e2])] at htk
        simp -dsimp [eq_true e1, eq_true e2, wrap_i64 (n := (S.length : Int) + 1) (by omega) (by omega), wrap_i64 (n := (k : Int) + 1) (by omega) (by omega)]
        and_intros
        all_goals try first | omega | exact ⟨by kernel_rfl⟩
        exact ⟨⟨k + 1, by omega⟩, GS.to (by simp [htk, Pk.live, Pk.cs, bv]), by simp; omega⟩
       ·rw [if_neg (by simp [e2]), List.append_nil] at htk
        simp -dsimp [eq_true e1, eq_false e2, wrap_i64 (n := (k : Int) + 1) (by omega) (by omega)]
        and_intros
        all_goals try first | omega | exact ⟨by kernel_rfl⟩
        exact ⟨⟨k + 1, by omega⟩, GS.to (by simp [htk, Pk.live, Pk.cs, bv]), by simp; omega⟩
      ·rw [if_neg (by simp [e1]), List.append_nil] at htk
       simp -dsimp [eq_false e1, wrap_i64 (n := (k : Int) + 1) (by omega) (by omega)]
       and_intros
       all_goals try first | omega | exact ⟨by kernel_rfl⟩
       exact ⟨⟨k + 1, by omega⟩, GS.to (by simp [htk, Pk.live, Pk.cs, bv]), by simp; omega⟩
     ·have hkz : ¬ (k : Int) < U.dl.length := by omega
      have e0 : U.dl.take k = U.dl := List.take_of_length_le (by omega)
      rw [e0, hc2]
      simp -dsimp [hkz, wrap_i64 (n := (i : Int) + 1) (by omega) (by omega)]
      try refine ⟨?_, ⟨by kernel_rfl⟩⟩
      exact ⟨⟨i + 1, by omega⟩, GS.to (by simp [Pk.live, Pk.cs, bv]), by simp; omega⟩
   | true =>
     cases hes : eo.isSome with
     | false =>
       simp -dsimp [hes]
       try refine ⟨?_, ⟨by kernel_rfl⟩⟩
       have hc2 : (U.dl.filter fun d => decide (d.2.bits = 1#64 <<< b) && decide (d.1 = y.r)).length = 0 := by rw [hc1]; simp [*]
       refine ALoop.of [] (fun k => k==0||k==2||k==3||k==4||k==5||k==6||k==8||k==9||k==10||k==11||k==12||k==13||k==14||k==15||k==16||k==17||k==18||k==19||k==20||k==21||k==55||k==79||k==86||k==128||k==151||k==166) (ι := { k : Nat // k ≤ U.dl.length })
        (fun z => [(Pl.s 2, It.v (TV.d (D.bool false))), (Pl.o 4, It.box [TV.d (D.sl (rts g.rs)), TV.d (D.sl (lks g.ls))]), (Pl.s 4, It.v (TV.ptr (Pl.o 4) 0)),
         (Pl.o 5, It.box [TV.d (D.int IntKind.i64 p.subd), TV.d (D.int IntKind.i64 p.len), TV.d (D.sl (eds p.es))]), (Pl.s 5, It.v (TV.ptr (Pl.o 5) 0)),
         (Pl.o 8, It.box ((q.live v).cs.map .d)), (Pl.s 8, It.v (TV.ptr (Pl.o 8) 0)), (Pl.s 9, It.v (TV.d (D.int IntKind.i64 x.id))),
         (Pl.o 10, It.box [TV.d (D.sl (List.map dlC U.dl)), TV.d (D.sl (List.map crC U.cr)), TV.d (D.sl (List.map lsC U.ls))]), (Pl.s 10, It.v (TV.ptr (Pl.o 10) 0)),
         (Pl.s 12, It.v (TV.d (D.sl (List.map ((fun n => [D.int IntKind.i64 n]) ∘ Int.ofNat) B)))), (Pl.s 13, It.v (TV.d (D.int IntKind.i64 i))),
         (Pl.o 16, It.box [TV.d (D.int IntKind.i64 y.r), TV.d (D.int IntKind.i64 y.id)]), (Pl.s 16, It.v (TV.ptr (Pl.o 16) 0)), (Pl.s 18, It.v (TV.d (D.bool false))),
         (Pl.s 19, It.v (TV.d (D.int IntKind.i64 ((U.dl.take z.1).filter fun d => decide (d.2.bits = 1#64 <<< b) && decide (d.1 = y.r)).length))), (Pl.s 20, It.v (TV.d (D.int IntKind.i64 z.1)))])
        (fun z => U.dl.length - z.1) ⟨0, by omega⟩ ?_ ?_
       ·exact GS.to (by simp [Pk.live, Pk.cs, bv])
       rintro ⟨k, k2⟩
       by_cases hk : k < U.dl.length
       ·have hkz : (k : Int) < U.dl.length := by omega
        have hgd : U.dl[k]? = some U.dl[k] := List.getElem?_eq_getElem hk
        have htk : (U.dl.take (k + 1)).filter (fun d => decide (d.2.bits = 1#64 <<< b) && decide (d.1 = y.r)) = (U.dl.take k).filter (fun d => decide (d.2.bits = 1#64 <<< b) && decide (d.1 = y.r)) ++ (if decide (U.dl[k].2.bits = 1#64 <<< b) && decide (U.dl[k].1 = y.r) then [U.dl[k]] else []) := by
         exact filter_take hgd
        have hll : ((U.dl.take k).filter fun d => decide (d.2.bits = 1#64 <<< b) && decide (d.1 = y.r)).length ≤ 1000000 := Nat.le_trans (List.length_filter_le _ _) (by simp; omega)
        generalize (U.dl.take k).filter (fun d => decide (d.2.bits = 1#64 <<< b) && decide (d.1 = y.r)) = S at htk hll
        generalize U.dl[k] = d at hgd htk
        simp -dsimp [hkz, hgd, hgb, hmz, dlC, Pk.live, Pk.cs, bv]
        and_intros
        all_goals try first | omega | exact ⟨by kernel_rfl⟩
        refine ACall.of hbt [] 0 ?_
        by_cases e1 : d.2.bits = 1#64 <<< b
        ·by_cases e2 : d.1 = y.r
         ·rw [if_pos (by simp [e1, e2])] at htk
          simp -dsimp [eq_true e1, eq_true e2, wrap_i64 (n := (S.length : Int) + 1) (by omega) (by omega), wrap_i64 (n := (k : Int) + 1) (by omega) (by omega)]
          and_intros
          all_goals try first | omega | exact ⟨by kernel_rfl⟩
          exact ⟨⟨k + 1, by omega⟩, GS.to (by simp [htk, Pk.live, Pk.cs, bv]), by simp; omega⟩
         ·rw [if_neg (by simp [e2]), List.append_nil] at htk
          simp -dsimp [eq_true e1, eq_false e2, wrap_i64 (n := (k : Int) + 1) (by omega) (by omega)]
          and_intros
          all_goals try first | omega | exact ⟨by kernel_rfl⟩
          exact ⟨⟨k + 1, by omega⟩, GS.to (by simp [htk, Pk.live, Pk.cs, bv]), by simp; omega⟩
        ·rw [if_neg (by simp [e1]), List.append_nil] at htk
         simp -dsimp [eq_false e1, wrap_i64 (n := (k : Int) + 1) (by omega) (by omega)]
         and_intros
         all_goals try first | omega | exact ⟨by kernel_rfl⟩
         exact ⟨⟨k + 1, by omega⟩, GS.to (by simp [htk, Pk.live, Pk.cs, bv]), by simp; omega⟩
       ·have hkz : ¬ (k : Int) < U.dl.length := by omega
        have e0 : U.dl.take k = U.dl := List.take_of_length_le (by omega)
        rw [e0, hc2]
        simp -dsimp [hkz, wrap_i64 (n := (i : Int) + 1) (by omega) (by omega)]
        try refine ⟨?_, ⟨by kernel_rfl⟩⟩
        exact ⟨⟨i + 1, by omega⟩, GS.to (by simp [Pk.live, Pk.cs, bv]), by simp; omega⟩
     | true =>
       simp -dsimp [hes]
       try refine ⟨?_, ⟨by kernel_rfl⟩⟩
       refine ACall.of hca [] 0 ?_
       cases hcy : capR g.rs y.r with
       | false =>
         simp -dsimp
         try refine ⟨?_, ⟨by kernel_rfl⟩⟩
         have hc2 : (U.dl.filter fun d => decide (d.2.bits = 1#64 <<< b) && decide (d.1 = y.r)).length = 0 := by rw [hc1]; simp [*]
         refine ALoop.of [] (fun k => k==0||k==2||k==3||k==4||k==5||k==6||k==8||k==9||k==10||k==11||k==12||k==13||k==14||k==15||k==16||k==17||k==18||k==19||k==20||k==21||k==55||k==79||k==86||k==128||k==151||k==166) (ι := { k : Nat // k ≤ U.dl.length })
          (fun z => [(Pl.s 2, It.v (TV.d (D.bool false))), (Pl.o 4, It.box [TV.d (D.sl (rts g.rs)), TV.d (D.sl (lks g.ls))]), (Pl.s 4, It.v (TV.ptr (Pl.o 4) 0)),
           (Pl.o 5, It.box [TV.d (D.int IntKind.i64 p.subd), TV.d (D.int IntKind.i64 p.len), TV.d (D.sl (eds p.es))]), (Pl.s 5, It.v (TV.ptr (Pl.o 5) 0)),
           (Pl.o 8, It.box ((q.live v).cs.map .d)), (Pl.s 8, It.v (TV.ptr (Pl.o 8) 0)), (Pl.s 9, It.v (TV.d (D.int IntKind.i64 x.id))),
           (Pl.o 10, It.box [TV.d (D.sl (List.map dlC U.dl)), TV.d (D.sl (List.map crC U.cr)), TV.d (D.sl (List.map lsC U.ls))]), (Pl.s 10, It.v (TV.ptr (Pl.o 10) 0)),
           (Pl.s 12, It.v (TV.d (D.sl (List.map ((fun n => [D.int IntKind.i64 n]) ∘ Int.ofNat) B)))), (Pl.s 13, It.v (TV.d (D.int IntKind.i64 i))),
           (Pl.o 16, It.box [TV.d (D.int IntKind.i64 y.r), TV.d (D.int IntKind.i64 y.id)]), (Pl.s 16, It.v (TV.ptr (Pl.o 16) 0)), (Pl.s 18, It.v (TV.d (D.bool false))),
           (Pl.s 19, It.v (TV.d (D.int IntKind.i64 ((U.dl.take z.1).filter fun d => decide (d.2.bits = 1#64 <<< b) && decide (d.1 = y.r)).length))), (Pl.s 20, It.v (TV.d (D.int IntKind.i64 z.1)))])
          (fun z => U.dl.length - z.1) ⟨0, by omega⟩ ?_ ?_
         ·exact GS.to (by simp [Pk.live, Pk.cs, bv])
         rintro ⟨k, k2⟩
         by_cases hk : k < U.dl.length
         ·have hkz : (k : Int) < U.dl.length := by omega
          have hgd : U.dl[k]? = some U.dl[k] := List.getElem?_eq_getElem hk
          have htk : (U.dl.take (k + 1)).filter (fun d => decide (d.2.bits = 1#64 <<< b) && decide (d.1 = y.r)) = (U.dl.take k).filter (fun d => decide (d.2.bits = 1#64 <<< b) && decide (d.1 = y.r)) ++ (if decide (U.dl[k].2.bits = 1#64 <<< b) && decide (U.dl[k].1 = y.r) then [U.dl[k]] else []) := by
           exact filter_take hgd
          have hll : ((U.dl.take k).filter fun d => decide (d.2.bits = 1#64 <<< b) && decide (d.1 = y.r)).length ≤ 1000000 := Nat.le_trans (List.length_filter_le _ _) (by simp; omega)
          generalize (U.dl.take k).filter (fun d => decide (d.2.bits = 1#64 <<< b) && decide (d.1 = y.r)) = S at htk hll
          generalize U.dl[k] = d at hgd htk
          simp -dsimp [hkz, hgd, hgb, hmz, dlC, Pk.live, Pk.cs, bv]
          and_intros
          all_goals try first | omega | exact ⟨by kernel_rfl⟩
          refine ACall.of hbt [] 0 ?_
          by_cases e1 : d.2.bits = 1#64 <<< b
          ·by_cases e2 : d.1 = y.r
           ·rw [if_pos (by simp [e1, e2])] at htk
            simp -dsimp [eq_true e1, eq_true e2, wrap_i64 (n := (S.length : Int) + 1) (by omega) (by omega), wrap_i64 (n := (k : Int) + 1) (by omega) (by omega)]
            and_intros
            all_goals try first | omega | exact ⟨by kernel_rfl⟩
            exact ⟨⟨k + 1, by omega⟩, GS.to (by simp [htk, Pk.live, Pk.cs, bv]), by simp; omega⟩
           ·rw [if_neg (by simp [e2]), List.append_nil] at htk
            simp -dsimp [eq_true e1, eq_false e2, wrap_i64 (n := (k : Int) + 1) (by omega) (by omega)]
            and_intros
            all_goals try first | omega | exact ⟨by kernel_rfl⟩
            exact ⟨⟨k + 1, by omega⟩, GS.to (by simp [htk, Pk.live, Pk.cs, bv]), by simp; omega⟩
          ·rw [if_neg (by simp [e1]), List.append_nil] at htk
           simp -dsimp [eq_false e1, wrap_i64 (n := (k : Int) + 1) (by omega) (by omega)]
           and_intros
           all_goals try first | omega | exact ⟨by kernel_rfl⟩
           exact ⟨⟨k + 1, by omega⟩, GS.to (by simp [htk, Pk.live, Pk.cs, bv]), by simp; omega⟩
         ·have hkz : ¬ (k : Int) < U.dl.length := by omega
          have e0 : U.dl.take k = U.dl := List.take_of_length_le (by omega)
          rw [e0, hc2]
          simp -dsimp [hkz, wrap_i64 (n := (i : Int) + 1) (by omega) (by omega)]
          try refine ⟨?_, ⟨by kernel_rfl⟩⟩
          exact ⟨⟨i + 1, by omega⟩, GS.to (by simp [Pk.live, Pk.cs, bv]), by simp; omega⟩
       | true =>
         simp -dsimp
         try refine ⟨?_, ⟨by kernel_rfl⟩⟩
         refine ACall.of hcn [] 0 ?_
         cases hcc : conn g x.id y.r with
         | false =>
           simp -dsimp
           try refine ⟨?_, ⟨by kernel_rfl⟩⟩
           have hc2 : (U.dl.filter fun d => decide (d.2.bits = 1#64 <<< b) && decide (d.1 = y.r)).length = 0 := by rw [hc1]; simp [*]
           refine ALoop.of [] (fun k => k==0||k==2||k==3||k==4||k==5||k==6||k==8||k==9||k==10||k==11||k==12||k==13||k==14||k==15||k==16||k==17||k==18||k==19||k==20||k==21||k==55||k==79||k==86||k==128||k==151||k==166) (ι := { k : Nat // k ≤ U.dl.length })
            (fun z => [(Pl.s 2, It.v (TV.d (D.bool false))), (Pl.o 4, It.box [TV.d (D.sl (rts g.rs)), TV.d (D.sl (lks g.ls))]), (Pl.s 4, It.v (TV.ptr (Pl.o 4) 0)),
             (Pl.o 5, It.box [TV.d (D.int IntKind.i64 p.subd), TV.d (D.int IntKind.i64 p.len), TV.d (D.sl (eds p.es))]), (Pl.s 5, It.v (TV.ptr (Pl.o 5) 0)),
             (Pl.o 8, It.box ((q.live v).cs.map .d)), (Pl.s 8, It.v (TV.ptr (Pl.o 8) 0)), (Pl.s 9, It.v (TV.d (D.int IntKind.i64 x.id))),
             (Pl.o 10, It.box [TV.d (D.sl (List.map dlC U.dl)), TV.d (D.sl (List.map crC U.cr)), TV.d (D.sl (List.map lsC U.ls))]), (Pl.s 10, It.v (TV.ptr (Pl.o 10) 0)),
             (Pl.s 12, It.v (TV.d (D.sl (List.map ((fun n => [D.int IntKind.i64 n]) ∘ Int.ofNat) B)))), (Pl.s 13, It.v (TV.d (D.int IntKind.i64 i))),
             (Pl.o 16, It.box [TV.d (D.int IntKind.i64 y.r), TV.d (D.int IntKind.i64 y.id)]), (Pl.s 16, It.v (TV.ptr (Pl.o 16) 0)), (Pl.s 18, It.v (TV.d (D.bool false))),
             (Pl.s 19, It.v (TV.d (D.int IntKind.i64 ((U.dl.take z.1).filter fun d => decide (d.2.bits = 1#64 <<< b) && decide (d.1 = y.r)).length))), (Pl.s 20, It.v (TV.d (D.int IntKind.i64 z.1)))])
            (fun z => U.dl.length - z.1) ⟨0, by omega⟩ ?_ ?_
           ·exact GS.to (by simp [Pk.live, Pk.cs, bv])
           rintro ⟨k, k2⟩
           by_cases hk : k < U.dl.length
           ·have hkz : (k : Int) < U.dl.length := by omega
            have hgd : U.dl[k]? = some U.dl[k] := List.getElem?_eq_getElem hk
            have htk : (U.dl.take (k + 1)).filter (fun d => decide (d.2.bits = 1#64 <<< b) && decide (d.1 = y.r)) = (U.dl.take k).filter (fun d => decide (d.2.bits = 1#64 <<< b) && decide (d.1 = y.r)) ++ (if decide (U.dl[k].2.bits = 1#64 <<< b) && decide (U.dl[k].1 = y.r) then [U.dl[k]] else []) := by
             exact filter_take hgd
            have hll : ((U.dl.take k).filter fun d => decide (d.2.bits = 1#64 <<< b) && decide (d.1 = y.r)).length ≤ 1000000 := Nat.le_trans (List.length_filter_le _ _) (by simp; omega)
            generalize (U.dl.take k).filter (fun d => decide (d.2.bits = 1#64 <<< b) && decide (d.1 = y.r)) = S at htk hll
            generalize U.dl[k] = d at hgd htk
            simp -dsimp [hkz, hgd, hgb, hmz, dlC, Pk.live, Pk.cs, bv]
            and_intros
            all_goals try first | omega | exact ⟨by kernel_rfl⟩
            refine ACall.of hbt [] 0 ?_
            by_cases e1 : d.2.bits = 1#64 <<< b
            ·by_cases e2 : d.1 = y.r
             ·rw [if_pos (by simp [e1, e2])] at htk
              simp -dsimp [eq_true e1, eq_true e2, wrap_i64 (n := (S.length : Int) + 1) (by omega) (by omega), wrap_i64 (n := (k : Int) + 1) (by omega) (by omega)]
              and_intros
              all_goals try first | omega | exact ⟨by kernel_rfl⟩
              exact ⟨⟨k + 1, by omega⟩, GS.to (by simp [htk, Pk.live, Pk.cs, bv]), by simp; omega⟩
             ·rw [if_neg (by simp [e2]), List.append_nil] at htk
              simp -dsimp [eq_true e1, eq_false e2, wrap_i64 (n := (k : Int) + 1) (by omega) (by omega)]
              and_intros
              all_goals try first | omega | exact ⟨by kernel_rfl⟩
              exact ⟨⟨k + 1, by omega⟩, GS.to (by simp [htk, Pk.live, Pk.cs, bv]), by simp; omega⟩
            ·rw [if_neg (by simp [e1]), List.append_nil] at htk
             simp -dsimp [eq_false e1, wrap_i64 (n := (k : Int) + 1) (by omega) (by omega)]
             and_intros
             all_goals try first | omega | exact ⟨by kernel_rfl⟩
             exact ⟨⟨k + 1, by omega⟩, GS.to (by simp [htk, Pk.live, Pk.cs, bv]), by simp; omega⟩
           ·have hkz : ¬ (k : Int) < U.dl.length := by omega
            have e0 : U.dl.take k = U.dl := List.take_of_length_le (by omega)
            rw [e0, hc2]
            simp -dsimp [hkz, wrap_i64 (n := (i : Int) + 1) (by omega) (by omega)]
            try refine ⟨?_, ⟨by kernel_rfl⟩⟩
            exact ⟨⟨i + 1, by omega⟩, GS.to (by simp [Pk.live, Pk.cs, bv]), by simp; omega⟩
         | true =>
           simp -dsimp
           try refine ⟨?_, ⟨by kernel_rfl⟩⟩
           have hc2 : (U.dl.filter fun d => decide (d.2.bits = 1#64 <<< b) && decide (d.1 = y.r)).length = 1 := by rw [hc1]; simp [*]
           refine ALoop.of [] (fun k => k==0||k==2||k==3||k==4||k==5||k==6||k==8||k==9||k==10||k==11||k==12||k==13||k==14||k==15||k==16||k==17||k==18||k==19||k==20||k==21||k==55||k==79||k==86||k==128||k==151||k==166) (ι := { k : Nat // k ≤ U.dl.length })
            (fun z => [(Pl.s 2, It.v (TV.d (D.bool false))), (Pl.o 4, It.box [TV.d (D.sl (rts g.rs)), TV.d (D.sl (lks g.ls))]), (Pl.s 4, It.v (TV.ptr (Pl.o 4) 0)),
             (Pl.o 5, It.box [TV.d (D.int IntKind.i64 p.subd), TV.d (D.int IntKind.i64 p.len), TV.d (D.sl (eds p.es))]), (Pl.s 5, It.v (TV.ptr (Pl.o 5) 0)),
             (Pl.o 8, It.box ((q.live v).cs.map .d)), (Pl.s 8, It.v (TV.ptr (Pl.o 8) 0)), (Pl.s 9, It.v (TV.d (D.int IntKind.i64 x.id))),
             (Pl.o 10, It.box [TV.d (D.sl (List.map dlC U.dl)), TV.d (D.sl (List.map crC U.cr)), TV.d (D.sl (List.map lsC U.ls))]), (Pl.s 10, It.v (TV.ptr (Pl.o 10) 0)),
             (Pl.s 12, It.v (TV.d (D.sl (List.map ((fun n => [D.int IntKind.i64 n]) ∘ Int.ofNat) B)))), (Pl.s 13, It.v (TV.d (D.int IntKind.i64 i))),
             (Pl.o 16, It.box [TV.d (D.int IntKind.i64 y.r), TV.d (D.int IntKind.i64 y.id)]), (Pl.s 16, It.v (TV.ptr (Pl.o 16) 0)), (Pl.s 18, It.v (TV.d (D.bool true))),
             (Pl.s 19, It.v (TV.d (D.int IntKind.i64 ((U.dl.take z.1).filter fun d => decide (d.2.bits = 1#64 <<< b) && decide (d.1 = y.r)).length))), (Pl.s 20, It.v (TV.d (D.int IntKind.i64 z.1)))])
            (fun z => U.dl.length - z.1) ⟨0, by omega⟩ ?_ ?_
           ·exact GS.to (by simp [Pk.live, Pk.cs, bv])
           rintro ⟨k, k2⟩
           by_cases hk : k < U.dl.length
           ·have hkz : (k : Int) < U.dl.length := by omega
            have hgd : U.dl[k]? = some U.dl[k] := List.getElem?_eq_getElem hk
            have htk : (U.dl.take (k + 1)).filter (fun d => decide (d.2.bits = 1#64 <<< b) && decide (d.1 = y.r)) = (U.dl.take k).filter (fun d => decide (d.2.bits = 1#64 <<< b) && decide (d.1 = y.r)) ++ (if decide (U.dl[k].2.bits = 1#64 <<< b) && decide (U.dl[k].1 = y.r) then [U.dl[k]] else []) := by
             exact filter_take hgd
            have hll : ((U.dl.take k).filter fun d => decide (d.2.bits = 1#64 <<< b) && decide (d.1 = y.r)).length ≤ 1000000 := Nat.le_trans (List.length_filter_le _ _) (by simp; omega)
            generalize (U.dl.take k).filter (fun d => decide (d.2.bits = 1#64 <<< b) && decide (d.1 = y.r)) = S at htk hll
            generalize U.dl[k] = d at hgd htk
            simp -dsimp [hkz, hgd, hgb, hmz, dlC, Pk.live, Pk.cs, bv]
            and_intros
            all_goals try first | omega | exact ⟨by kernel_rfl⟩
            refine ACall.of hbt [] 0 ?_
            by_cases e1 : d.2.bits = 1#64 <<< b
            ·by_cases e2 : d.1 = y.r
             ·rw [if_pos (by simp [e1, e2])] at htk
              simp -dsimp [eq_true e1, eq_true e2, wrap_i64 (n := (S.length : Int) + 1) (by omega) (by omega), wrap_i64 (n := (k : Int) + 1) (by omega) (by omega)]
              and_intros
              all_goals try first | omega | exact ⟨by kernel_rfl⟩
              exact ⟨⟨k + 1, by omega⟩, GS.to (by simp [htk, Pk.live, Pk.cs, bv]), by simp; omega⟩
             ·rw [if_neg (by simp [e2]), List.append_nil] at htk
              simp -dsimp [eq_true e1, eq_false e2, wrap_i64 (n := (k : Int) + 1) (by omega) (by omega)]
              and_intros
              all_goals try first | omega | exact ⟨by kernel_rfl⟩
              exact ⟨⟨k + 1, by omega⟩, GS.to (by simp [htk, Pk.live, Pk.cs, bv]), by simp; omega⟩
            ·rw [if_neg (by simp [e1]), List.append_nil] at htk
             simp -dsimp [eq_false e1, wrap_i64 (n := (k : Int) + 1) (by omega) (by omega)]
             and_intros
             all_goals try first | omega | exact ⟨by kernel_rfl⟩
             exact ⟨⟨k + 1, by omega⟩, GS.to (by simp [htk, Pk.live, Pk.cs, bv]), by simp; omega⟩
           ·have hkz : ¬ (k : Int) < U.dl.length := by omega
            have e0 : U.dl.take k = U.dl := List.take_of_length_le (by omega)
            rw [e0, hc2]
            simp -dsimp [hkz, wrap_i64 (n := (i : Int) + 1) (by omega) (by omega)]
            try refine ⟨?_, ⟨by kernel_rfl⟩⟩
            exact ⟨⟨i + 1, by omega⟩, GS.to (by simp [Pk.live, Pk.cs, bv]), by simp; omega⟩
  ·have hmz : ¬ (i : Int) < B.length := by omega
   simp -dsimp [hmz]
   try refine ⟨?_, ⟨by kernel_rfl⟩⟩
   refine ACall.of awake14_c [] 0 ?_
   simp -dsimp
   try refine ⟨?_, ⟨by kernel_rfl⟩⟩
   refine Fin.of ?_
   simp
end Go.Proofs

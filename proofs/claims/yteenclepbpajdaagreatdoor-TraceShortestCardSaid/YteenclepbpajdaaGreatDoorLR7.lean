/-
  What functions of the program compute, stated as contracts over plain data; the conditions of each stand in its own statement.
-/
import Derived.Test.YteenclepbpajdaaGreatDoorR8
import Derived.Test.YteenclepbpajdaaGreatDoorP17
set_option linter.unusedSimpArgs false
set_option maxRecDepth 100000
set_option maxHeartbeats 8000000
namespace Go.Proofs
open Go Go.Tr
theorem filter_take {α : Type} {q : α → Bool} {l : List α} {k : Nat} {x : α} (h : l[k]? = some x) : (l.take (k + 1)).filter q = (l.take k).filter q ++ if q x = true then [x] else [] := by
 rw [List.take_add_one, h, List.filter_append]
 show _ ++ [x].filter q = _
 rw [List.filter_cons]
 rfl
theorem tshortest_law (L : List Int) (hL : ∀ x ∈ L, I64 x) : Contract Tryz.prog 10 [.d (ints L)] [] (.d (.bool true)) [] [] := by
 refine contract_of Tryz.func10 rfl (fun E0 => ?_)
 refine awp.sound (g := .mk) (ow := []) (kp := (fun k => k==0||k==2||k==3||k==4||k==5||k==6||k==7||k==8||k==9||k==10||k==11||k==12||k==13||k==15||k==16||k==17||k==18||k==19||k==20||k==21||k==22||k==23||k==24||k==25||k==26||k==50||k==60||k==102||k==107||k==124||k==153||k==161||k==189)) ?_
 rw [Tryz.ntmps10]
 simp -dsimp [ints]
 refine ACall.of (new_c L) [] 3000 ?_
 simp -dsimp [ints]
 have kT : TapeOK (L.take 600, 0) := tape_new L hL
 generalize (L.take 600, 0) = T0 at kT ⊢
 refine ACall.of (domain_c T0 kT 7 (by omega)) [.o 3010] 0 ?_
 obtain ⟨d1, d2, d3, d4, d5, d6⟩ := gDom_ok T0 (most := 7) (by omega)
 obtain ⟨hDV, hAC⟩ := gDom_valid T0 (most := 7) (by omega)
 have kD : TapeOK (gDom T0 7).2.2.2 := d3.symm ▸ kT
 clear d3
 generalize gDom T0 7 = D0 at d1 d2 d4 d5 d6 kD hDV hAC ⊢
 obtain ⟨g, p, X, T1⟩ := D0
 simp only at d1 d2 d4 d5 d6 kD hDV hAC
 have hlen := hDV.len
 have hl0 : p.len ≠ 0 := fun e => by rw [e] at hlen; simp [validLen] at hlen
 have hlI : I64 p.len := by simp [validLen] at hlen; unfold I64; omega
 simp -dsimp [topT, planT]
 refine ACall.of (for_c T1 kD p (by omega) hl0 hlI) [.o 3010] 0 ?_
 have kF : TapeOK (gFor T1 p).2 := by rw [gFor_ok]; exact kD
 have hFV := gFor_valid T1 hDV.subd hDV.len
 generalize gFor T1 p = F at kF hFV ⊢
 obtain ⟨q, T3⟩ := F
 simp only at kF hFV ⊢
 simp only [pkT, Pk.cs, List.map, bv]
 simp -dsimp [planT]
 and_intros
 all_goals try first | exact ⟨by kernel_rfl⟩
 refine ACall.of (router0_c T3 kF g.rs g.ls ⟨d5, by omega⟩) [.o 3010] 0 ?_
 have m1 := gNext_nonneg T3 g.rs.length
 have m2 := gNext_lt T3 (n := g.rs.length) (by omega)
 generalize gNext T3 g.rs.length = A at m1 m2 ⊢
 obtain ⟨a, T5⟩ := A
 simp only at m1 m2 ⊢
 obtain ⟨j, rfl⟩ : ∃ j : Nat, a = j := ⟨a.toNat, by omega⟩
 have hj : j < g.rs.length := by omega
 have hx : g.rs.getD ((j : Int)).toNat ⟨0, false⟩ = g.rs[j] := by rw [List.getD_eq_getElem?_getD, show ((j : Int)).toNat = j by omega, List.getElem?_eq_getElem hj]; rfl
 rw [hx]
 have hxm : g.rs[j] ∈ g.rs := List.getElem_mem hj
 generalize g.rs[j] = x at hxm
 have hc := hDV.top.ok
 have hp := hDV.plan
 have hO := chkT_zero hc
 have hcap := hAC.cap hO (rt_has hxm)
 have hQV := hFV.live (n := 63) (by omega)
 have hX := hDV.tab
 have hTab := tabs_v hc hp
 have hA0 := tabs_all hc hp
 rw [← hX] at hTab hA0
 have hr : x.id ∈ (X.map (·.r)) := by rw [hX]; exact (tabs_rs hO p x.id).2 hcap
 obtain ⟨hrun, hsome⟩ := hTab.run hQV hr
 have hF := hTab.fit hQV
 have hrc := run_c X hTab.sm (q.live 63) x.id
 obtain ⟨s1, s2, s3⟩ := run_small X (q.live 63) x.id
 rw [hrun] at hrc s1 s2 s3
 simp only at hrc s1 s2 s3
 have hdel := fun d => del_facts hc hAC hp (q := q.live 63) (by rw [← hX]; exact hF) hcap (d := d)
 have hcro := fun (k : Nat) (hk : k < 64) (hb : (q.live 63).bits.getLsbD k = true) (ws : List Int) (hD : Dl X (idAt (q.live 63) k) (plnP (q.live 63)) x.id ws) (hl : (ws.length : Int) ≤ (q.live 63).ttl) (a b : Int) (hab : (a, b) ∈ edges x.id ws) => cross_once hF hk hb hD hl hab
 have hpth := fun (id : Int) (ws : List Int) (hD : Dl X id (plnP (q.live 63)) x.id ws) => path_of_dl hA0 (pln_range (q.live 63)) hD
 rw [← hX] at hdel
 generalize runG X (wt (q.live 63)) [(x.id, q.live 63)] tr0 = U at *
 have hent : 0 ≤ q.ent ∧ q.ent ≤ 1023 := ok_ent hFV.ok
 have hpl : plnP (q.live 63) = (q.ent).tmod 8 := by
  have h1 : plnP (q.live 63) = q.ent % 8 := by simp only [plnP, hQV.ok, if_true]; rfl
  rw [h1, Int.tmod_eq_emod_of_nonneg hent.1]
 simp only [pkT, Pk.cs, Pk.live, List.map, trcT, bv] at hrc
 simp -dsimp [topT]
 try refine ⟨?_, ⟨by kernel_rfl⟩⟩
 refine ACall.of hrc [] 0 ?_
 simp -dsimp
 try refine ⟨?_, ⟨by kernel_rfl⟩⟩
 have epl := pln_range (q.live 63)
 have e1 : (q.live 63).bits = q.bits := rfl
 have e2 : (q.live 63).ttl = 63 := rfl
 have e3 : (q.live 63).set = q.set := rfl
 have e4 : (q.live 63).len = q.len := rfl
 have e5 : ∀ k, idAt (q.live 63) k = idAt q k := fun k => rfl
 refine ALoop.of [] (fun k => k==0||k==2||k==3||k==4||k==5||k==6||k==7||k==8||k==9||k==10||k==11||k==12||k==13||k==15||k==16||k==17||k==18||k==19||k==20||k==21||k==22||k==23||k==24||k==25||k==26||k==50||k==60||k==102||k==107||k==124||k==153||k==161||k==189) (ι := { i : Nat // i ≤ U.dl.length })
  (fun z => [(Pl.s 2, It.v (TV.d (D.bool false))), (Pl.o 4, It.box [TV.d (D.sl (rts g.rs)), TV.d (D.sl (lks g.ls))]), (Pl.s 4, It.v (TV.ptr (Pl.o 4) 0)), (Pl.s 6, It.v (TV.d (D.sl (tbs X)))), (Pl.o 7, It.box ((q.live 63).cs.map .d)), (Pl.s 7, It.v (TV.ptr (Pl.o 7) 0)), (Pl.s 8, It.v (TV.d (D.int IntKind.i64 x.id))), (Pl.o 9, It.box [TV.d (D.sl (List.map dlC U.dl)), TV.d (D.sl (List.map crC U.cr)), TV.d (D.sl (List.map lsC U.ls))]), (Pl.s 9, It.v (TV.ptr (Pl.o 9) 0)), (Pl.s 11, It.v (TV.d (D.int IntKind.i64 z.1)))])
  (fun z => U.dl.length - z.1) ⟨0, by omega⟩ ?_ ?_
 ·exact GS.to (by simp [Pk.live, Pk.cs, bv])
 rintro ⟨i, i1⟩
 by_cases hi : i < U.dl.length
 ·have hiz : (i : Int) < U.dl.length := by omega
  have hg : U.dl[i]? = some U.dl[i] := List.getElem?_eq_getElem hi
  obtain ⟨b, hb, hqb, hdb, hat0, ws, hD, hwl, hd1, hdt, C, hC, hCd, hCf, hh1, hh2⟩ := hdel _ (List.getElem_mem hi)
  generalize U.dl[i] = d at hg hdb hd1 hdt
  have hfi := first01_c d.2.bits
  rw [hdb, tz_one hb] at hfi
  have hat := at10_c q.set b q.len
  rw [e3, e4] at hat0
  simp only [atT, hat0, if_true] at hat
  have hid : q.set * q.len + b + 1 = idAt q b := by rw [idAt, if_pos hat0]
  rw [hid] at hat
  rw [e5] at hD
  have hpc := path_c X hTab.sm x.id (idAt q b) (plnP (q.live 63))
  rw [hpth _ _ hD, hpl] at hpc
  rw [e2] at hwl hdt
  have hcost := cost06_c g hO.sm x.id d.1
  have hcR : costR g x.id d.1 = some C := by
   rw [costR, if_pos ⟨hc, hh2, by rw [hd1]; exact hh1, by rw [hd1, ← hCd]; exact hCf⟩, hd1, ← hCd]
  rw [hcR] at hcost
  have hcr1 := fun a h (hab : (a, h) ∈ edges x.id ws) => hcro b hb hqb ws (by rw [e5]; exact hD) (by rw [e2]; exact hwl) a h hab
  simp only [pathT, ints, bv, topT, priceT, Option.getD_some, Option.isSome_some] at hpc hfi hcost
  have hdbt : d.2.bits = 1#64 <<< b := hdb
  simp -dsimp [hiz, hg, dlC, Pk.live, Pk.cs, bv]
  and_intros
  all_goals try first | omega | exact ⟨by kernel_rfl⟩
  rw [hdb]
  refine ACall.of hfi [] 0 ?_
  simp -dsimp
  try refine ⟨?_, ⟨by kernel_rfl⟩⟩
  refine ACall.of hat [] 0 ?_
  simp -dsimp
  try refine ⟨?_, ⟨by kernel_rfl⟩⟩
  refine ACall.of hpc [] 0 ?_
  simp -dsimp [hdt, wrap_i64 (n := (63 : Int) - ws.length) (by omega) (by omega)]
  try refine ⟨?_, ⟨by kernel_rfl⟩⟩
  have hwb : ws.length ≤ 63 := by omega
  refine ALoop.of [] (fun k => k==0||k==2||k==3||k==4||k==5||k==6||k==7||k==8||k==9||k==10||k==11||k==12||k==13||k==15||k==16||k==17||k==18||k==19||k==20||k==21||k==22||k==23||k==24||k==25||k==26||k==50||k==60||k==102||k==107||k==124||k==153||k==161||k==189) (ι := { k : Nat // k ≤ ws.length })
   (fun z => [(Pl.s 2, It.v (TV.d (D.bool false))), (Pl.o 4, It.box [TV.d (D.sl (rts g.rs)), TV.d (D.sl (lks g.ls))]), (Pl.s 4, It.v (TV.ptr (Pl.o 4) 0)), (Pl.s 6, It.v (TV.d (D.sl (tbs X)))), (Pl.o 7, It.box ((q.live 63).cs.map .d)), (Pl.s 7, It.v (TV.ptr (Pl.o 7) 0)), (Pl.s 8, It.v (TV.d (D.int IntKind.i64 x.id))), (Pl.o 9, It.box [TV.d (D.sl (List.map dlC U.dl)), TV.d (D.sl (List.map crC U.cr)), TV.d (D.sl (List.map lsC U.ls))]), (Pl.s 9, It.v (TV.ptr (Pl.o 9) 0)), (Pl.s 11, It.v (TV.d (D.int IntKind.i64 i))), (Pl.o 12, It.box [TV.d (D.int IntKind.i64 d.1), TV.d (D.int IntKind.i64 d.2.mode), TV.d (D.int IntKind.i64 d.2.subd), TV.d (D.int IntKind.i64 d.2.set), TV.d (D.int IntKind.i64 d.2.len), TV.d (D.int IntKind.i64 (63 - ws.length)), TV.d (D.int IntKind.i64 d.2.ent), TV.d (D.int IntKind.i64 d.2.ing), TV.d (D.int IntKind.i64 d.2.proto), TV.d (D.int IntKind.u64 (tn (1#64 <<< b))), TV.d (D.str d.2.pay)]), (Pl.s 12, It.v (TV.ptr (Pl.o 12) 0)), (Pl.s 15, It.v (TV.d (D.sl (List.map (fun n => [D.int IntKind.i64 n]) ws)))), (Pl.s 17, It.v (TV.d (D.int IntKind.i64 (lastR x.id (ws.take z.1))))), (Pl.s 18, It.v (TV.d (D.int IntKind.i64 ((costW g x.id (ws.take z.1)).getD 0)))), (Pl.s 19, It.v (TV.d (D.int IntKind.i64 z.1)))])
   (fun z => ws.length - z.1) ⟨0, by omega⟩ ?_ ?_
  ·exact GS.to (by simp [Pk.live, Pk.cs, bv, lastR, costW])
  rintro ⟨k, k1⟩
  by_cases hk : k < ws.length
  ·have hkz : (k : Int) < ws.length := by omega
   have hgw : ws[k]? = some ws[k] := List.getElem?_eq_getElem hk
   generalize ws[k] = h at hgw
   obtain ⟨c, c1, w1, w2, w3, w4, w5, w6, w7⟩ := way_step hO hC hgw
   rw [w1]
   have hpr := price05_c g hO.sm (lastR x.id (ws.take k)) h
   rw [w2] at hpr
   simp only [topT, priceT, Option.getD_some, Option.isSome_some] at hpr
   have hone := hcr1 _ _ w5
   generalize lastR x.id (ws.take k) = at_ at hpr hone ⊢
   obtain ⟨P, hP⟩ : ∃ P : Int × Int × BitVec 64 → Bool, P = (fun c => decide (c.1 = at_ ∧ c.2.1 = h) && c.2.2.getLsbD b) := ⟨_, rfl⟩
   rw [← hP] at hone
   simp only [Option.getD_some]
   simp -dsimp [hkz, hgw]
   and_intros
   all_goals try first | omega | exact ⟨by kernel_rfl⟩
   refine ACall.of hpr [] 0 ?_
   simp -dsimp
   try refine ⟨?_, ⟨by kernel_rfl⟩⟩
   refine ALoop.of [] (fun k => k==0||k==2||k==3||k==4||k==5||k==6||k==7||k==8||k==9||k==10||k==11||k==12||k==13||k==15||k==16||k==17||k==18||k==19||k==20||k==21||k==22||k==23||k==24||k==25||k==26||k==50||k==60||k==102||k==107||k==124||k==153||k==161||k==189) (ι := { j : Nat // j ≤ U.cr.length })
    (fun z => [(Pl.s 2, It.v (TV.d (D.bool false))), (Pl.o 4, It.box [TV.d (D.sl (rts g.rs)), TV.d (D.sl (lks g.ls))]), (Pl.s 4, It.v (TV.ptr (Pl.o 4) 0)), (Pl.s 6, It.v (TV.d (D.sl (tbs X)))), (Pl.o 7, It.box ((q.live 63).cs.map .d)), (Pl.s 7, It.v (TV.ptr (Pl.o 7) 0)), (Pl.s 8, It.v (TV.d (D.int IntKind.i64 x.id))), (Pl.o 9, It.box [TV.d (D.sl (List.map dlC U.dl)), TV.d (D.sl (List.map crC U.cr)), TV.d (D.sl (List.map lsC U.ls))]), (Pl.s 9, It.v (TV.ptr (Pl.o 9) 0)), (Pl.s 11, It.v (TV.d (D.int IntKind.i64 i))), (Pl.o 12, It.box [TV.d (D.int IntKind.i64 d.1), TV.d (D.int IntKind.i64 d.2.mode), TV.d (D.int IntKind.i64 d.2.subd), TV.d (D.int IntKind.i64 d.2.set), TV.d (D.int IntKind.i64 d.2.len), TV.d (D.int IntKind.i64 (63 - ws.length)), TV.d (D.int IntKind.i64 d.2.ent), TV.d (D.int IntKind.i64 d.2.ing), TV.d (D.int IntKind.i64 d.2.proto), TV.d (D.int IntKind.u64 (tn (1#64 <<< b))), TV.d (D.str d.2.pay)]), (Pl.s 12, It.v (TV.ptr (Pl.o 12) 0)), (Pl.s 15, It.v (TV.d (D.sl (List.map (fun n => [D.int IntKind.i64 n]) ws)))), (Pl.s 17, It.v (TV.d (D.int IntKind.i64 at_))), (Pl.s 18, It.v (TV.d (D.int IntKind.i64 c1))), (Pl.s 19, It.v (TV.d (D.int IntKind.i64 k))), (Pl.s 20, It.v (TV.d (D.int IntKind.i64 c))), (Pl.s 21, It.v (TV.d (D.bool true))),
     (Pl.s 22, It.v (TV.d (D.int IntKind.i64 ((U.cr.take z.1).filter P).length))), (Pl.s 23, It.v (TV.d (D.int IntKind.i64 z.1)))])
    (fun z => U.cr.length - z.1) ⟨0, by omega⟩ ?_ ?_
   ·exact GS.to (by simp)
   rintro ⟨j, j1⟩
   by_cases hj : j < U.cr.length
   ·have hjz : (j : Int) < U.cr.length := by omega
    have hgc : U.cr[j]? = some U.cr[j] := List.getElem?_eq_getElem hj
    have htk := filter_take (q := P) hgc
    have hll : ((U.cr.take j).filter P).length ≤ 1000000 := Nat.le_trans (List.length_filter_le _ _) (by simp; omega)
    generalize (U.cr.take j).filter P = S at htk hll
    generalize U.cr[j] = y at hgc htk
    have ha1 := and_one y.2.2 hb
    by_cases t1 : y.1 = at_
    ·by_cases t2 : y.2.1 = h
     ·by_cases t3 : y.2.2 &&& 1#64 <<< b = 0#64
      ·rw [if_neg (by rw [hP]; simp [ha1.1 t3]), List.append_nil] at htk
       simp -dsimp [hjz, hgc, hkz, hgw, crC, bv, eq_true t1, eq_true t2, eq_true t3, wrap_i64 (n := (j : Int) + 1) (by omega) (by omega)]
       and_intros
       all_goals try first | omega | exact ⟨by kernel_rfl⟩
       exact ⟨⟨j + 1, by omega⟩, GS.to (by simp [htk]), by simp; omega⟩
      ·rw [if_pos (by rw [hP]; simp [t1, t2]; exact Classical.byContradiction fun g => t3 (ha1.2 (by simpa using g)))] at htk
       simp -dsimp [hjz, hgc, hkz, hgw, crC, bv, eq_true t1, eq_true t2, eq_false t3, wrap_i64 (n := (S.length : Int) + 1) (by omega) (by omega), wrap_i64 (n := (j : Int) + 1) (by omega) (by omega)]
       and_intros
       all_goals try first | omega | exact ⟨by kernel_rfl⟩
       exact ⟨⟨j + 1, by omega⟩, GS.to (by simp [htk]), by simp; omega⟩
     ·rw [if_neg (by rw [hP]; simp [t2]), List.append_nil] at htk
      simp -dsimp [hjz, hgc, hkz, hgw, crC, bv, eq_true t1, eq_false t2, wrap_i64 (n := (j : Int) + 1) (by omega) (by omega)]
      and_intros
      all_goals try first | omega | exact ⟨by kernel_rfl⟩
      exact ⟨⟨j + 1, by omega⟩, GS.to (by simp [htk]), by simp; omega⟩
    ·rw [if_neg (by rw [hP]; simp [t1]), List.append_nil] at htk
     simp -dsimp [hjz, hgc, hkz, hgw, crC, bv, eq_false t1, wrap_i64 (n := (j : Int) + 1) (by omega) (by omega)]
     and_intros
     all_goals try first | omega | exact ⟨by kernel_rfl⟩
     exact ⟨⟨j + 1, by omega⟩, GS.to (by simp [htk]), by simp; omega⟩
   ·have hjz : ¬ (j : Int) < U.cr.length := by omega
    have e0 : U.cr.take j = U.cr := List.take_of_length_le (by omega)
    rw [e0, hone]
    simp -dsimp [hjz, hkz, hgw, wrap_i64 (n := c1 + c) (by omega) (by omega), wrap_i64 (n := (k : Int) + 1) (by omega) (by omega)]
    and_intros
    all_goals try first | omega | exact ⟨by kernel_rfl⟩
    exact ⟨⟨k + 1, by omega⟩, GS.to (by simp [w3, w4]), by simp; omega⟩
  ·have hkz : ¬ (k : Int) < ws.length := by omega
   have e0 : ws.take k = ws := List.take_of_length_le (by omega)
   rw [e0, hC, ← hd1]
   simp -dsimp [hkz]
   try refine ⟨?_, ⟨by kernel_rfl⟩⟩
   refine ACall.of hcost [] 0 ?_
   simp -dsimp [wrap_i64 (n := (i : Int) + 1) (by omega) (by omega)]
   try refine ⟨?_, ⟨by kernel_rfl⟩⟩
   exact ⟨⟨i + 1, by omega⟩, GS.to (by simp), by simp; omega⟩
 ·have hiz : ¬ (i : Int) < U.dl.length := by omega
  simp -dsimp [hiz]
  try refine ⟨?_, ⟨by kernel_rfl⟩⟩
  refine ACall.of awake14_c [] 0 ?_
  simp -dsimp
  try refine ⟨?_, ⟨by kernel_rfl⟩⟩
  refine Fin.of ?_
  simp
end Go.Proofs

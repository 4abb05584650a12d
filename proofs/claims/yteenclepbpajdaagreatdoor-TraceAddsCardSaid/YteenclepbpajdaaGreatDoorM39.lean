/-
  What functions of the program compute, stated as contracts over plain data; the conditions of each stand in its own statement.
-/
import Derived.Test.YteenclepbpajdaaGreatDoorM32
set_option linter.unusedSimpArgs false
set_option maxRecDepth 100000
set_option maxHeartbeats 8000000
namespace Go.Proofs
open Go Go.Tr
theorem foldl_or {α : Type} (f : α → BitVec 64) : ∀ (l : List α) (B : BitVec 64) (k : Nat), (l.foldl (fun a d => a ||| f d) B).getLsbD k = true ↔ B.getLsbD k = true ∨ ∃ x ∈ l, (f x).getLsbD k = true
 | [], B, k => by simp
 | x :: l, B, k => by
   rw [List.foldl_cons, foldl_or f l, or_bit]
   constructor
   ·rintro ((h | h) | ⟨y, hy, h⟩)
    ·exact .inl h
    ·exact .inr ⟨x, by simp, h⟩
    ·exact .inr ⟨y, by simp [hy], h⟩
   ·rintro (h | ⟨y, hy, h⟩)
    ·exact .inl (.inl h)
    ·rcases List.mem_cons.1 hy with rfl | hy
     ·exact .inl (.inr h)
     ·exact .inr ⟨y, hy, h⟩
theorem losV_bit (l : List (Int × BitVec 64)) (k : Nat) : (losV l).getLsbD k = true ↔ ∃ x ∈ l, x.2.getLsbD k = true := by
 rw [losV, foldl_or]; simp
theorem parts_lost {l : List Tb} {p : Pk} (hF : FitL l p) (r : Int) {A B : BitVec 64} (hA : ∀ k < 64, A.getLsbD k = true → p.bits.getLsbD k = true) (hB : ∀ k < 64, B.getLsbD k = true → p.bits.getLsbD k = true)
  (hs : ∀ k < 64, p.bits.getLsbD k = true → (A.getLsbD k = true ↔ ¬ B.getLsbD k = true)) :
  losV (runG l (wt p) [(r, p)] tr0).ls = losV (runG l (wt (p.setB A)) [(r, p.setB A)] tr0).ls ||| losV (runG l (wt (p.setB B)) [(r, p.setB B)] tr0).ls := by
 apply BitVec.eq_of_getLsbD_eq
 intro k hk
 rw [Bool.eq_iff_iff, or_bit, losV_bit, losV_bit, losV_bit, run_ls hF r hk, run_ls (setB_fit hF hA) r hk, run_ls (setB_fit hF hB) r hk]
 obtain ⟨a1, a2, a3, _⟩ := setB_way hF.ok hA k 0
 obtain ⟨b1, b2, b3, _⟩ := setB_way hF.ok hB k 0
 rw [a1, a2, a3, b1, b2, b3]
 have e1 : (p.setB A).bits = A := rfl
 have e2 : (p.setB B).bits = B := rfl
 rw [e1, e2]
 constructor
 ·rintro ⟨h1, h2⟩
  by_cases ha : A.getLsbD k = true
  ·exact .inl ⟨ha, h2⟩
  ·exact .inr ⟨Classical.byContradiction fun g => ha ((hs k hk h1).2 g), h2⟩
 ·rintro (⟨h1, h2⟩ | ⟨h1, h2⟩)
  ·exact ⟨hA k hk h1, h2⟩
  ·exact ⟨hB k hk h1, h2⟩
theorem ForV.setB {p : Pn} {q : Pk} (h : ForV p q) {R : BitVec 64} (hR : ∀ k < 64, R.getLsbD k = true → q.bits.getLsbD k = true) : ForV p (q.setB R) := ⟨ok_setB h.ok hR, h.mode, h.subd, h.len⟩
theorem tadds_law (L : List Int) (hL : ∀ x ∈ L, I64 x) (M : BitVec 64) : Contract Tryz.prog 8 [.d (ints L), .d (bv M)] [] (.d (.bool true)) [] [] := by
 refine contract_of Tryz.func8 rfl (fun E0 => ?_)
 refine awp.sound (g := .mk) (ow := [107]) (kp := (fun k => k==0||k==1||k==4||k==5||k==6||k==7||k==8||k==9||k==10||k==11||k==12||k==13||k==14||k==15||k==16||k==17||k==18||k==19||k==20||k==21||k==22||k==106||k==118||k==124||k==141)) ?_
 rw [Tryz.ntmps8]
 simp -dsimp [ints, bv]
 refine ACall.of (new_c L) [] 3000 ?_
 simp -dsimp [ints]
 have kT : TapeOK (L.take 600, 0) := tape_new L hL
 generalize (L.take 600, 0) = T0 at kT ⊢
 refine ACall.of (domain_c T0 kT 6 (by omega)) [.o 3010] 0 ?_
 obtain ⟨d1, d2, d3, d4, d5, d6⟩ := gDom_ok T0 (most := 6) (by omega)
 obtain ⟨hDV, hAC⟩ := gDom_valid T0 (most := 6) (by omega)
 have kD : TapeOK (gDom T0 6).2.2.2 := d3.symm ▸ kT
 clear d3
 generalize gDom T0 6 = D0 at d1 d2 d4 d5 d6 kD hDV hAC ⊢
 obtain ⟨g, p, X, T1⟩ := D0
 simp only at d1 d2 d4 d5 d6 kD hDV hAC
 have hlen := hDV.len
 have hl0 : p.len ≠ 0 := fun e => by rw [e] at hlen; simp [validLen] at hlen
 have hlI : I64 p.len := by simp [validLen] at hlen; unfold I64; omega
 have hsX : SmL X := ⟨by omega, fun b hb => chk_sm (d2 b hb)⟩
 simp -dsimp [topT, planT]
 refine ACall.of (wrong_c T1 kD X hsX g.rs.length ⟨by omega, by omega⟩) [.o 3010] 0 ?_
 have kW : TapeOK (wrT g.rs.length X T1).2 := by rw [wrT_tape]; exact kD
 have hTV : TabV p ((tabs g p g.rs).map (·.r)) (wrT g.rs.length X T1).1 := by
  rw [hDV.tab]; exact wrT_v hDV.top.ok hDV.plan ⟨by omega, by omega⟩ T1
 generalize wrT g.rs.length X T1 = Y at kW hTV ⊢
 obtain ⟨Y, T2⟩ := Y
 simp only at kW hTV ⊢
 simp -dsimp [topT, planT]
 refine ACall.of (for_c T2 kW p (by omega) hl0 hlI) [.o 3010] 0 ?_
 have kF : TapeOK (gFor T2 p).2 := by rw [gFor_ok]; exact kW
 have hFV := gFor_valid T2 hDV.subd hDV.len
 generalize gFor T2 p = F at kF hFV ⊢
 obtain ⟨q, T3⟩ := F
 simp only at kF hFV ⊢
 simp only [pkT, Pk.cs, List.map, bv]
 simp -dsimp [planT]
 and_intros
 all_goals try first | exact ⟨by kernel_rfl⟩
 refine ACall.of (router0_c T3 kF g.rs g.ls ⟨d5, by omega⟩) [.o 3010] 0 ?_
 have m1 := gNext_nonneg T3 g.rs.length
 have m2 := gNext_lt T3 (n := g.rs.length) (by omega)
 generalize gNext T3 g.rs.length = A at m1 m2 ⊢
 obtain ⟨a, T5⟩ := A
 simp only at m1 m2 ⊢
 obtain ⟨j, rfl⟩ : ∃ j : Nat, a = j := ⟨a.toNat, by omega⟩
 have hj : j < g.rs.length := by omega
 have hx : g.rs.getD ((j : Int)).toNat ⟨0, false⟩ = g.rs[j] := by rw [List.getD_eq_getElem?_getD, show ((j : Int)).toNat = j by omega, List.getElem?_eq_getElem hj]; rfl
 rw [hx]
 have hxm : g.rs[j] ∈ g.rs := List.getElem_mem hj
 generalize g.rs[j] = x at hxm
 have hO := chkT_zero hDV.top.ok
 have hr : x.id ∈ (tabs g p g.rs).map (·.r) := (tabs_rs hO p x.id).2 (hAC.cap hO (rt_has hxm))
 have hA : ∀ k < 64, (q.bits &&& M).getLsbD k = true → q.bits.getLsbD k = true := fun k hk h => by rw [BitVec.getLsbD_and, Bool.and_eq_true] at h; exact h.1
 have hB : ∀ k < 64, (q.bits &&& ~~~ M).getLsbD k = true → q.bits.getLsbD k = true := fun k hk h => ((andNot_bit _ _ hk).1 h).1
 have hs : ∀ k < 64, q.bits.getLsbD k = true → ((q.bits &&& M).getLsbD k = true ↔ ¬ (q.bits &&& ~~~ M).getLsbD k = true) := fun k hk h => by
  rw [andNot_bit _ _ hk, BitVec.getLsbD_and, h]
  cases M.getLsbD k <;> simp
 have hVA := hFV.setB hA
 have hVB := hFV.setB hB
 have hF := hTV.fit hFV
 obtain ⟨hr1, hsome⟩ := hTV.run hFV hr
 have hr2 := (hTV.run hVA hr).1
 have hr3 := (hTV.run hVB hr).1
 have hplen := parts_len hF hsome hA hB hs
 have hpmem := fun d => parts_mem hF hsome hA hB hs (d := d)
 have hplos := parts_lost hF x.id hA hB hs
 have c1 := run_c Y hTV.sm q x.id
 have c2 := run_c Y hTV.sm (q.setB (q.bits &&& M)) x.id
 have c3 := run_c Y hTV.sm (q.setB (q.bits &&& ~~~ M)) x.id
 obtain ⟨s1, s2, s3⟩ := run_small Y q x.id
 obtain ⟨u1, u2, u3⟩ := run_small Y (q.setB (q.bits &&& M)) x.id
 obtain ⟨v1, v2, v3⟩ := run_small Y (q.setB (q.bits &&& ~~~ M)) x.id
 rw [hr1] at c1 s1 s2 s3
 rw [hr2] at c2 u1 u2 u3
 rw [hr3] at c3 v1 v2 v3
 simp only at c1 c2 c3 s1 s2 s3 u1 u2 u3 v1 v2 v3
 generalize runG Y (wt q) [(x.id, q)] tr0 = U at *
 generalize runG Y (wt (q.setB (q.bits &&& M))) [(x.id, q.setB (q.bits &&& M))] tr0 = V at *
 generalize runG Y (wt (q.setB (q.bits &&& ~~~ M))) [(x.id, q.setB (q.bits &&& ~~~ M))] tr0 = W at *
 have l1 := lost_c U s3
 have l2 := lost_c V u3
 have l3 := lost_c W v3
 rw [hplos] at l1
 simp only [pkT, Pk.cs, Pk.setB, List.map, trcT, bv] at c1 c2 c3 l1 l2 l3
 simp -dsimp [topT]
 try refine ⟨?_, ⟨by kernel_rfl⟩⟩
 refine ACall.of c1 [] 0 ?_
 simp -dsimp
 try refine ⟨?_, ⟨by kernel_rfl⟩⟩
 refine ACall.of c2 [] 0 ?_
 simp -dsimp
 try refine ⟨?_, ⟨by kernel_rfl⟩⟩
 refine ACall.of c3 [] 0 ?_
 simp -dsimp [hplen, wrap_i64 (n := (V.dl.length : Int) + W.dl.length) (by omega) (by omega)]
 try refine ⟨?_, ⟨by kernel_rfl⟩⟩
 refine ACall.of l1 [] 0 ?_
 simp -dsimp
 try refine ⟨?_, ⟨by kernel_rfl⟩⟩
 refine ACall.of l2 [] 0 ?_
 simp -dsimp
 try refine ⟨?_, ⟨by kernel_rfl⟩⟩
 refine ACall.of l3 [] 0 ?_
 simp -dsimp
 and_intros
 all_goals try first | omega | exact dLen_map 11 _ _ (fun _ => rfl) | exact ⟨by kernel_rfl⟩
 have hPTm : ∀ d ∈ U.dl, d ∈ V.dl ++ W.dl := fun d hd => List.mem_append.2 (hpmem d hd)
 obtain ⟨PT, hPT⟩ : ∃ PT, PT = V.dl ++ W.dl := ⟨_, rfl⟩
 have hPl : PT.length ≤ 2000000 := by rw [hPT, List.length_append]; omega
 rw [← hPT] at hPTm
 refine ALoop.of [107] (fun k => k==0||k==1||k==4||k==5||k==6||k==7||k==8||k==9||k==10||k==11||k==12||k==13||k==14||k==15||k==16||k==17||k==18||k==19||k==20||k==21||k==22||k==106||k==118||k==124||k==141) (ι := { i : Nat // i ≤ U.dl.length })
  (fun z => [(Pl.s 4, It.v (TV.d (D.bool false))), (Pl.o 13, It.box [TV.d (D.sl (List.map dlC U.dl)), TV.d (D.sl (List.map crC U.cr)), TV.d (D.sl (List.map lsC U.ls))]), (Pl.s 13, It.v (TV.ptr (Pl.o 13) 0)),
   (Pl.s 19, It.v (TV.d (D.sl (PT.map dlC)))), (Pl.s 20, It.v (TV.d (D.int IntKind.i64 z.1)))])
  (fun z => U.dl.length - z.1) ⟨0, by omega⟩ ?_ ?_
 ·exact GS.viewS 19 (by simp [hPT])
 rintro ⟨i, i1⟩
 by_cases hi : i < U.dl.length
 ·have hiz : (i : Int) < U.dl.length := by omega
  have hg : U.dl[i]? = some U.dl[i] := List.getElem?_eq_getElem hi
  have hmem := hPTm _ (List.getElem_mem hi)
  generalize U.dl[i] = d at hg hmem
  obtain ⟨k0, hk0, hgk⟩ := List.mem_iff_getElem.1 hmem
  have hgk0 : PT[k0]? = some d := by rw [List.getElem?_eq_getElem hk0, hgk]
  clear hgk hmem
  simp -dsimp [hiz]
  try refine ⟨?_, ⟨by kernel_rfl⟩⟩
  refine ALoop.of [107] (fun k => k==0||k==1||k==4||k==5||k==6||k==7||k==8||k==9||k==10||k==11||k==12||k==13||k==14||k==15||k==16||k==17||k==18||k==19||k==20||k==21||k==22||k==106||k==118||k==124||k==141) (ι := { z : Nat × Bool // z.1 ≤ PT.length ∧ (k0 < z.1 → z.2 = true) })
   (fun z => [(Pl.s 4, It.v (TV.d (D.bool false))), (Pl.o 13, It.box [TV.d (D.sl (List.map dlC U.dl)), TV.d (D.sl (List.map crC U.cr)), TV.d (D.sl (List.map lsC U.ls))]), (Pl.s 13, It.v (TV.ptr (Pl.o 13) 0)),
    (Pl.s 19, It.v (TV.d (D.sl (PT.map dlC)))), (Pl.s 20, It.v (TV.d (D.int IntKind.i64 i))), (Pl.s 21, It.v (TV.d (D.bool z.1.2))), (Pl.s 22, It.v (TV.d (D.int IntKind.i64 z.1.1)))])
   (fun z => PT.length - z.1.1) ⟨(0, false), by simp, by simp⟩ ?_ ?_
  ·exact GS.to (by simp)
  rintro ⟨⟨k, F⟩, k1, k2⟩
  simp only at k1 k2
  by_cases hk : k < PT.length
  ·have hkz : (k : Int) < PT.length := by omega
   have hgp : PT[k]? = some PT[k] := List.getElem?_eq_getElem hk
   generalize PT[k] = e at hgp
   cases F with
   | true =>
     simp -dsimp [hkz, wrap_i64 (n := (k : Int) + 1) (by omega) (by omega)]
     and_intros
     all_goals try first | omega | exact ⟨by kernel_rfl⟩
     exact ⟨⟨(k + 1, true), by dsimp only; omega, fun _ => rfl⟩, GS.to (by simp), by simp; omega⟩
   | false =>
     have hk0' : ¬ k0 < k := fun h => by simpa using k2 h
     by_cases hke : k = k0
     ·subst hke
      rw [hgk0] at hgp; simp at hgp; subst hgp
      simp -dsimp [hkz, hiz, hg, hgk0, dlC, Pk.cs, bv, wrap_i64 (n := (k : Int) + 1) (by omega) (by omega)]
      and_intros
      all_goals try first | omega | exact ⟨by kernel_rfl⟩
      exact ⟨⟨(k + 1, true), by dsimp only; omega, fun _ => rfl⟩, GS.to (by simp), by simp; omega⟩
     ·simp -dsimp [hkz, hiz, hg, hgp, dlC, Pk.cs, bv, wrap_i64 (n := (k : Int) + 1) (by omega) (by omega)]
      and_intros
      all_goals try first | omega | exact ⟨by kernel_rfl⟩
      exact ⟨⟨(k + 1, (decide (e.1 = d.1) && (decide (e.2.mode = d.2.mode) && (decide (e.2.subd = d.2.subd) && (decide (e.2.set = d.2.set) && (decide (e.2.len = d.2.len) && (decide (e.2.ttl = d.2.ttl) && (decide (e.2.ent = d.2.ent) && (decide (e.2.ing = d.2.ing) && (decide (e.2.proto = d.2.proto) && (decide (e.2.bits = d.2.bits) && (e.2.pay.toList == d.2.pay.toList)))))))))))), by dsimp only; omega, fun h => by dsimp only at h; omega⟩, GS.to (by simp), by simp; omega⟩
  ·have hkz : ¬ (k : Int) < PT.length := by omega
   have hF : F = true := k2 (by omega)
   subst hF
   simp -dsimp [hkz, wrap_i64 (n := (i : Int) + 1) (by omega) (by omega)]
   try refine ⟨?_, ⟨by kernel_rfl⟩⟩
   exact ⟨⟨i + 1, by omega⟩, GS.to (by simp), by simp; omega⟩
 ·have hiz : ¬ (i : Int) < U.dl.length := by omega
  simp -dsimp [hiz]
  try refine ⟨?_, ⟨by kernel_rfl⟩⟩
  refine ACall.of awake14_c [] 0 ?_
  simp -dsimp
  try refine ⟨?_, ⟨by kernel_rfl⟩⟩
  refine Fin.of ?_
  simp
end Go.Proofs

namespace Go.Proofs
open Go Go.Tr
theorem has_u64 {ds : List D} (h : (Ty.int .u64).has ds) : ∃ B : BitVec 64, ds = [bv B] := by
 simp only [Ty.has] at h
 obtain ⟨n, rfl, hw⟩ := h
 obtain ⟨B, rfl⟩ := wf_u64 hw
 exact ⟨B, rfl⟩
end Go.Proofs

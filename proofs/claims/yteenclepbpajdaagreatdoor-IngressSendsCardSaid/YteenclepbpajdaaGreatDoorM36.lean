/-
  What functions of the program compute, stated as contracts over plain data; the conditions of each stand in its own statement.
-/
import Derived.Test.YteenclepbpajdaaGreatDoorM35
import Derived.Test.YteenclepbpajdaaGreatDoorM27
import Derived.Test.YteenclepbpajdaaGreatDoorM30
import Derived.Test.YteenclepbpajdaaGreatDoorM32
import Derived.Test.YteenclepbpajdaaGreatDoorM18
set_option linter.unusedSimpArgs false
set_option maxRecDepth 100000
set_option maxHeartbeats 8000000
namespace Go.Proofs
open Go Go.Tr
theorem reached_c (p : Pn) (hp : p.es.length ≤ 1000) (l : List Pk) (_hl : l.length ≤ 100000) (ts : List Trc) (ht : ts.length ≤ 100000) (hd : ∀ t ∈ ts, t.dl.length ≤ 1000000) (hn : (rpL p l ts).length ≤ 1000000) :
  Contract Tryz.prog 55 [planT p, .d (.sl (pks l)), .d (.sl (ts.map trC))] [] (.tup [.d (ints (reachV p l ts).1), .d (.int .i64 (reachV p l ts).2)]) [] [] := by
 have hv := validPlan_c p hp
 simp only [planT] at hv
 refine contract_of Tryz.func55 rfl (fun E0 => ?_)
 refine awp.sound (g := .mk) (ow := [1000107]) (kp := (fun k => k==0||k==1||k==2||k==3||k==6||k==7||k==8||k==9||k==10||k==12||k==14||k==15||k==16||k==30||k==31||k==32||k==33||k==34||k==42||k==43||k==44||k==45||k==51||k==52||k==53||k==54||k==77)) ?_
 rw [Tryz.ntmps55]
 simp -dsimp [planT]
 try refine ⟨?_, ⟨by kernel_rfl⟩⟩
 refine ACall.of hv [] 0 ?_
 rcases (Bool.eq_false_or_eq_true (planB p)).symm with hP | hP
 ·have e : reachV p l ts = ([], 1) := by simp [reachV, hP]
  rw [e]
  simp -dsimp [hP]
  refine Fin.view 6 ?_
  simp -dsimp
  refine Fin.of ?_
  simp [ints]
 by_cases hL : l.length = ts.length
 rotate_left
 ·have hLz : ¬ (l.length : Int) = ts.length := by omega
  have e : reachV p l ts = ([], 1) := by simp [reachV, hL]
  rw [e]
  simp -dsimp [hP, hLz]
  refine Fin.view 6 ?_
  simp -dsimp
  refine Fin.of ?_
  simp [ints]
 have hLz : (l.length : Int) = ts.length := by omega
 simp -dsimp [hP, hLz]
 try refine ⟨?_, ⟨by kernel_rfl⟩⟩
 refine ACall.of (containsFP0_c l (by omega) _ (fun q => !q.ok) (fun x _ => reached1_c x) (by kernel_rfl)) [] 0 ?_
 rcases (Bool.eq_false_or_eq_true (l.any (fun q => !q.ok))).symm with hA | hA
 ·rw [hA]
  simp -dsimp
  have e : reachV p l ts = (msort (rpF app1 (rpL p l ts) []).1, (rpF app1 (rpL p l ts) []).2) := by
   rw [← rpF_srt0, reachV, if_neg]
   rintro (h | h | h)
   ·rw [hP] at h; cases h
   ·exact h hL
   ·rw [hA] at h; cases h
  rw [e]
  have hn' : (rpL p l ts).length ≤ 1000000 := hn
  clear e
  generalize hY : rpF app1 (rpL p l ts) [] = Y
  have hY' : Y = rpF app1 (((l.zip ts).drop 0).flatMap fun x => rpT p x.1 x.2) [] := by rw [← hY]; rfl
  rw [show rpL p l ts = ((l.zip ts).drop 0).flatMap fun x => rpT p x.1 x.2 from rfl] at hn'
  clear hY
  refine ALoop.of [1000107] (fun k => k==0||k==1||k==2||k==3||k==6||k==7||k==8||k==9||k==10||k==12||k==14||k==15||k==16||k==30||k==31||k==32||k==33||k==34||k==42||k==43||k==44||k==45||k==51||k==52||k==53||k==54||k==77) (ι := { z : Nat × List Int // z.1 ≤ l.length ∧ Y = rpF app1 (((l.zip ts).drop z.1).flatMap fun x => rpT p x.1 x.2) z.2 ∧ z.2.length + (((l.zip ts).drop z.1).flatMap fun x => rpT p x.1 x.2).length ≤ 1000000 })
   (fun z => [(Pl.o 3, It.box [TV.d (D.int IntKind.i64 p.subd), TV.d (D.int IntKind.i64 p.len), TV.d (D.sl (eds p.es))]), (Pl.s 3, It.v (TV.ptr (Pl.o 3) 0)), (Pl.s 1, It.v (TV.d (D.sl (pks l)))), (Pl.s 2, It.v (TV.d (D.sl (List.map trC ts)))), (Pl.s 6, It.v (TV.c (Value.slice none 0 0))), (Pl.s 7, It.v (TV.d (D.int IntKind.i64 0))), (Pl.s 31, It.v (TV.d (D.sl (pks l)))), (Pl.s 32, It.v (TV.d (D.int IntKind.i64 l.length))), (Pl.s 8, It.v (TV.oref 8 z.1.2.length)), (Pl.o 8, .row 3 1 (dd (nrow .i64 z.1.2)) false), (Pl.s 33, It.v (TV.d (D.int IntKind.i64 z.1.1)))])
   (fun z => l.length - z.1.1) ⟨(0, []), by dsimp only; omega, hY', by dsimp only; simpa using hn'⟩ ?_ ?_
  ·exact GS.own' (k := 8) 3 1 (by simp) (by simp) (by simp [nrow])
  rintro ⟨⟨i, out⟩, q1, q2, q3⟩
  simp only at q1 q2 q3
  by_cases hi : i < l.length
  ·have hiz : (i : Int) < l.length := by omega
   have hitz : (i : Int) < ts.length := by omega
   have hq : l[i]? = some l[i] := List.getElem?_eq_getElem hi
   generalize l[i] = q at hq
   have hx : ts[i]? = some ts[i] := List.getElem?_eq_getElem (by omega)
   have hdi := hd _ (List.getElem_mem (show i < ts.length by omega))
   generalize ts[i] = t at hx hdi
   rw [zip_drop hq hx, List.flatMap_cons] at q2 q3
   generalize hR : ((l.zip ts).drop (i + 1)).flatMap (fun x => rpT p x.1 x.2) = R at q2 q3
   have hx' : (ts.map trC)[i]? = some (trC t) := by rw [List.getElem?_map, hx]; rfl
   have hpq := pks_get' hq
   simp -dsimp [hi, hiz, hitz, hx', hpq, trC, Pk.cs]
   refine ALoop.of [1000107] (fun k => k==0||k==1||k==2||k==3||k==6||k==7||k==8||k==9||k==10||k==12||k==14||k==15||k==16||k==30||k==31||k==32||k==33||k==34||k==42||k==43||k==44||k==45||k==51||k==52||k==53||k==54||k==77) (ι := { z : Nat × List Int // z.1 ≤ t.dl.length ∧ Y = rpF app1 ((t.dl.drop z.1).flatMap (rpD p q) ++ R) z.2 ∧ z.2.length + ((t.dl.drop z.1).flatMap (rpD p q) ++ R).length ≤ 1000000 })
    (fun z => [(Pl.o 3, It.box [TV.d (D.int IntKind.i64 p.subd), TV.d (D.int IntKind.i64 p.len), TV.d (D.sl (eds p.es))]), (Pl.s 3, It.v (TV.ptr (Pl.o 3) 0)), (Pl.s 1, It.v (TV.d (D.sl (pks l)))), (Pl.s 2, It.v (TV.d (D.sl (List.map trC ts)))), (Pl.s 6, It.v (TV.c (Value.slice none 0 0))), (Pl.s 7, It.v (TV.d (D.int IntKind.i64 0))), (Pl.s 31, It.v (TV.d (D.sl (pks l)))), (Pl.s 32, It.v (TV.d (D.int IntKind.i64 l.length))), (Pl.s 33, It.v (TV.d (D.int IntKind.i64 i))), (Pl.o 10, It.box (q.cs.map .d)), (Pl.s 10, It.v (TV.ptr (Pl.o 10) 0)), (Pl.s 42, It.v (TV.d (D.sl (List.map dlC t.dl)))), (Pl.s 43, It.v (TV.d (D.int IntKind.i64 t.dl.length))), (Pl.s 8, It.v (TV.oref 8 z.1.2.length)), (Pl.o 8, .row 3 1 (dd (nrow .i64 z.1.2)) false), (Pl.s 44, It.v (TV.d (D.int IntKind.i64 z.1.1)))])
    (fun z => t.dl.length - z.1.1) ⟨(0, out), by dsimp only; omega, q2, q3⟩ ?_ ?_
   ·exact GS.to (by simp [Pk.cs])
   rintro ⟨⟨k, out⟩, m1, m2, m3⟩
   simp only at m1 m2 m3
   by_cases hk : k < t.dl.length
   ·have hkz : (k : Int) < t.dl.length := by omega
    have hy : t.dl[k]? = some t.dl[k] := List.getElem?_eq_getElem hk
    generalize t.dl[k] = d at hy
    rw [drop_cons hy, List.flatMap_cons, List.append_assoc] at m2 m3
    generalize hR2 : (t.dl.drop (k + 1)).flatMap (rpD p q) ++ R = R2 at m2 m3
    have hli := list_c d.2.bits
    have hbl := bitsI_len d.2.bits
    simp only [bv] at hli
    simp -dsimp [hkz, hy, dlC, Pk.cs, bv]
    and_intros
    all_goals try first | rfl | omega | exact ⟨by kernel_rfl⟩
    refine ACall.of hli [] 0 ?_
    simp only [rpD] at m2 m3
    generalize bitsI d.2.bits = bs at m2 m3 hbl ⊢
    simp -dsimp [ints]
    try refine ⟨?_, ⟨by kernel_rfl⟩⟩
    refine ALoop.of [1000107] (fun k => k==0||k==1||k==2||k==3||k==6||k==7||k==8||k==9||k==10||k==12||k==14||k==15||k==16||k==30||k==31||k==32||k==33||k==34||k==42||k==43||k==44||k==45||k==51||k==52||k==53||k==54||k==77) (ι := { z : Nat × List Int // z.1 ≤ bs.length ∧ Y = rpF app1 ((bs.drop z.1).map (rpS p q d.1) ++ R2) z.2 ∧ z.2.length + ((bs.drop z.1).map (rpS p q d.1) ++ R2).length ≤ 1000000 })
     (fun z => [(Pl.o 3, It.box [TV.d (D.int IntKind.i64 p.subd), TV.d (D.int IntKind.i64 p.len), TV.d (D.sl (eds p.es))]), (Pl.s 3, It.v (TV.ptr (Pl.o 3) 0)), (Pl.s 1, It.v (TV.d (D.sl (pks l)))), (Pl.s 2, It.v (TV.d (D.sl (List.map trC ts)))), (Pl.s 6, It.v (TV.c (Value.slice none 0 0))), (Pl.s 7, It.v (TV.d (D.int IntKind.i64 0))), (Pl.s 31, It.v (TV.d (D.sl (pks l)))), (Pl.s 32, It.v (TV.d (D.int IntKind.i64 l.length))), (Pl.s 33, It.v (TV.d (D.int IntKind.i64 i))), (Pl.o 10, It.box (q.cs.map .d)), (Pl.s 10, It.v (TV.ptr (Pl.o 10) 0)), (Pl.s 42, It.v (TV.d (D.sl (List.map dlC t.dl)))), (Pl.s 43, It.v (TV.d (D.int IntKind.i64 t.dl.length))), (Pl.s 8, It.v (TV.oref 8 z.1.2.length)), (Pl.o 8, .row 3 1 (dd (nrow .i64 z.1.2)) false), (Pl.s 44, It.v (TV.d (D.int IntKind.i64 k))), (Pl.o 12, It.box ((dlC d).map .d)), (Pl.s 12, It.v (TV.ptr (Pl.o 12) 0)), (Pl.s 51, It.v (TV.d (ints bs))), (Pl.s 52, It.v (TV.d (D.int IntKind.i64 bs.length))), (Pl.s 53, It.v (TV.d (D.int IntKind.i64 z.1.1)))])
     (fun z => bs.length - z.1.1) ⟨(0, out), by dsimp only; omega, m2, m3⟩ ?_ ?_
    ·exact GS.to (by simp [dlC, Pk.cs, bv, ints])
    rintro ⟨⟨j, out⟩, n1, n2, n3⟩
    simp only at n1 n2 n3
    by_cases hj : j < bs.length
    ·have hjz : (j : Int) < bs.length := by omega
     have hb : bs[j]? = some bs[j] := List.getElem?_eq_getElem hj
     generalize bs[j] = b at hb
     rw [drop_cons hb, List.map_cons, List.cons_append] at n2 n3
     have hat := atP_c q.set b q.len
     simp only [atT] at hat
     simp -dsimp [ints, dlC, hjz, hb, Pk.cs, bv]
     and_intros
     all_goals try first | rfl | omega | exact ⟨by kernel_rfl⟩
     refine ACall.of hat [] 0 ?_
     have hed := containsEd_c p.es (by omega) ⟨d.1, q.set * q.len + b + 1⟩
     simp only [Ed.cs, List.map] at hed
     rcases (Bool.eq_false_or_eq_true (atB q.set b q.len)).symm with ha | ha
     ·have hs : rpS p q d.1 b = none := by simp [rpS, ha]
      rw [hs] at n2
      simp only [rpF] at n2
      simp -dsimp [ints, dlC, ha]
      try refine ⟨?_, ⟨by kernel_rfl⟩⟩
      refine Fin.view 6 ?_
      simp -dsimp
      refine Fin.of ?_
      simp [n2, ints, msort]
     ·simp -dsimp [ints, dlC, ha]
      try refine ⟨?_, ⟨by kernel_rfl⟩⟩
      refine ACall.of hed [] 0 ?_
      rcases (Bool.eq_false_or_eq_true (p.es.any (edEq ⟨d.1, q.set * q.len + b + 1⟩))).symm with he | he
      ·have hs : rpS p q d.1 b = none := by simp [rpS, he]
       rw [hs] at n2
       simp only [rpF] at n2
       rw [he]
       simp -dsimp [ints, dlC, Pk.cs, bv]
       try refine ⟨?_, ⟨by kernel_rfl⟩⟩
       refine Fin.view 6 ?_
       simp -dsimp
       refine Fin.of ?_
       simp [n2, ints, msort]
      ·have hs : rpS p q d.1 b = some (q.set * q.len + b + 1) := by simp [rpS, he, ha]
       rw [hs] at n2
       simp only [rpF, app1] at n2
       have hlo : out.length ≤ 1000000 := by omega
       rw [he]
       simp -dsimp [ints, dlC, Pk.cs, bv, wrap_i64 (n := (j : Int) + 1) (by omega) (by omega)]
       and_intros
       all_goals try first | rfl | omega | exact ⟨by kernel_rfl⟩
       exact ⟨⟨(j + 1, out ++ [q.set * q.len + b + 1]), by dsimp only; omega, n2, by dsimp only; rw [List.length_cons] at n3; rw [List.length_append, List.length_cons, List.length_nil]; omega⟩, GS.to (by simp [ints, dlC, Pk.cs, bv, nrow]), by simp; omega⟩
    ·have e0 : bs.drop j = [] := List.drop_eq_nil_of_le (by omega)
     have hjz : ¬ (j : Int) < bs.length := by omega
     rw [e0, List.map_nil, List.nil_append, ← hR2] at n2 n3
     simp -dsimp [ints, dlC, Pk.cs, hjz, wrap_i64 (n := (k : Int) + 1) (by omega) (by omega)]
     try refine ⟨?_, ⟨by kernel_rfl⟩⟩
     exact ⟨⟨(k + 1, out), by dsimp only; omega, n2, n3⟩, GS.to (by simp [ints, dlC, Pk.cs, bv]), by simp; omega⟩
   ·have e0 : t.dl.drop k = [] := List.drop_eq_nil_of_le (by omega)
    have hkz : ¬ (k : Int) < t.dl.length := by omega
    rw [e0, List.flatMap_nil, List.nil_append, ← hR] at m2 m3
    simp -dsimp [hkz, wrap_i64 (n := (i : Int) + 1) (by omega) (by omega)]
    try refine ⟨?_, ⟨by kernel_rfl⟩⟩
    exact ⟨⟨(i + 1, out), by dsimp only; omega, m2, m3⟩, GS.to (by simp), by simp; omega⟩
  ·have hiz : ¬ (i : Int) < l.length := by omega
   have e0 : (l.zip ts).drop i = [] := List.drop_eq_nil_of_le (by simp; omega)
   rw [e0, List.flatMap_nil, rpF] at q2
   have hlo : out.length ≤ 1000000 := by omega
   simp -dsimp [hiz]
   try refine ⟨?_, ⟨by kernel_rfl⟩⟩
   refine ACall.inpl sort_i out ?_
   simp -dsimp
   and_intros
   all_goals try first | omega | exact ⟨by kernel_rfl⟩
   refine Fin.view 6 ?_
   simp -dsimp
   refine Fin.of ?_
   simp [q2, ints, nrow, msort]
 ·have e : reachV p l ts = ([], 1) := by simp [reachV, hA]
  rw [e, hA]
  simp -dsimp
  refine Fin.view 6 ?_
  simp -dsimp
  refine Fin.of ?_
  simp [ints]
end Go.Proofs

set_option linter.unusedSimpArgs false
set_option maxRecDepth 100000
set_option maxHeartbeats 4000000
namespace Go.Proofs
open Go Go.Tr
def gTempl (T : Tp) : Pk × Tp :=
 let R := gPacket T 0
 let m := gPick R.2 [1, 3]
 (⟨m.1, R.1.subd, R.1.set, R.1.len, 63, R.1.ent, R.1.ing, R.1.proto, R.1.bits, R.1.pay⟩, m.2)
theorem template_c (T : Tp) (hT : TapeOK T) : Contract Tryz.prog 17 [.ptr (.x 0) 0] [tapeI T] (pkT (gTempl T).1) [tapeI (gTempl T).2] [] := by
 unfold gTempl
 refine contract_of Tryz.func17 rfl (fun E0 => ?_)
 refine awp.sound (g := .mk) (ow := []) (kp := (fun k => k==0||k==2||k==3)) ?_
 rw [Tryz.ntmps17]
 simp -dsimp
 refine ACall.of (packet_c T hT 0 ⟨by omega, by omega⟩) [.x 0] 0 ?_
 simp -dsimp [pkT, Pk.cs]
 have k1 : TapeOK (gPacket T 0).2 := by simpa using hT
 generalize gPacket T 0 = R at k1 ⊢
 refine ACall.of (pick_c R.2 k1 [1, 3] (by simp) (by simp)) [.x 0] 0 ?_
 simp -dsimp [ints]
 refine Fin.of ?_
 simp [pkT, Pk.cs]
end Go.Proofs

set_option maxRecDepth 100000
set_option maxHeartbeats 4000000
namespace Go.Proofs
open Go Go.Tr
theorem run_dl64 (l : List Tb) (p : Pk) (r : Int) : (runR l p r).1.dl.length ≤ 64 := by
 by_cases h : fitsR l p r = 0
 ·obtain ⟨hF, hr, h2⟩ := fits_fit h
  rw [h2]
  have h3 := len_sum (fun d : Int × Pk => d.2.bits) _ (fun x hx => by obtain ⟨k, hk, e⟩ := (run_all hF hr).dl x hx; rw [e]; intro h0; have := pc_one hk; rw [h0, pc_zero] at this; omega)
  have h4 : ∀ k < 64, ((runG l (wt p) [(r, p)] tr0).dl.filter fun d => d.2.bits.getLsbD k).length ≤ if p.bits.getLsbD k = true then 1 else 0 := fun k hk => by
   have := (run_bit hF r hk).1; omega
  have h5 := sum_le_bits h4
  have h6 : pc p.bits ≤ 64 := pc_le p.bits
  exact Nat.le_trans h3 (by omega)
 ·rw [fits_not h]; simp [tr0]
theorem sendL_all {P : Trc → Prop} {l : List Tb} {r : Int} (hP : ∀ x, P (runR l x r).1) : ∀ (ps : List Pk) (out : List Trc), (∀ t ∈ out, P t) → ∀ t ∈ (sendL l r ps out).1, P t
 | [], out, h => h
 | p :: ps, out, h => by
   rw [sendL]
   split
   ·exact sendL_all hP ps _ fun t ht => by
     rcases List.mem_append.1 ht with ht | ht
     ·exact h t ht
     ·simp at ht; subst ht; exact hP p
   ·simp
theorem sendL_len {l : List Tb} {r : Int} : ∀ (ps : List Pk) (out : List Trc), (sendL l r ps out).1.length ≤ ps.length + out.length
 | [], out => by simp [sendL]
 | p :: ps, out => by
   have h := sendL_len (l := l) (r := r) ps (out ++ [(runR l p r).1])
   rw [List.length_append, List.length_cons, List.length_nil] at h
   rw [sendL, List.length_cons]
   split
   ·omega
   ·simp
theorem sendR_all (l : List Tb) (p : Pn) (r : Int) (ids : List Int) (q : Pk) : ∀ t ∈ (sendR l p r ids q).1, t.dl.length ≤ 64 ∧ t.cr.length ≤ 1000000 ∧ t.ls.length ≤ 1000000 := by
 unfold sendR
 split
 ·exact sendL_all (P := fun t => t.dl.length ≤ 64 ∧ t.cr.length ≤ 1000000 ∧ t.ls.length ≤ 1000000) (fun x => ⟨run_dl64 l x r, (run_small l x r).2⟩) _ _ (by simp)
 ·simp
theorem sendR_len (l : List Tb) (p : Pn) (r : Int) (ids : List Int) (q : Pk) : (sendR l p r ids q).1.length ≤ ids.length := by
 have h := packR_len p ids q
 unfold sendR
 split
 ·have h2 := sendL_len (l := l) (r := r) (packR p ids q).1 []
  rw [List.length_nil] at h2; omega
 ·simp
theorem flat_len {α β : Type} (f : α → List β) (n : Nat) : ∀ (l : List α), (∀ x ∈ l, (f x).length ≤ n) → (l.flatMap f).length ≤ n * l.length
 | [], _ => by simp
 | x :: l, h => by
   have h1 := h x (by simp)
   have h2 := flat_len f n l fun y hy => h y (by simp [hy])
   rw [List.flatMap_cons, List.length_append, List.length_cons, Nat.mul_succ]; omega
theorem rpL_len (p : Pn) (l : List Pk) (ts : List Trc) (h : ∀ t ∈ ts, t.dl.length ≤ 64) : (rpL p l ts).length ≤ 4096 * ts.length := by
 have h1 := flat_len (fun x : Pk × Trc => rpT p x.1 x.2) 4096 (l.zip ts) fun x hx => by
  have ht := h x.2 (List.of_mem_zip hx).2
  have h2 := flat_len (rpD p x.1) 64 x.2.dl fun d _ => by simp only [rpD, List.length_map]; exact bitsI_len _
  show (x.2.dl.flatMap (rpD p x.1)).length ≤ 4096
  omega
 have h3 : (l.zip ts).length ≤ ts.length := by rw [List.length_zip]; omega
 show ((l.zip ts).flatMap fun x : Pk × Trc => rpT p x.1 x.2).length ≤ _
 omega
theorem rpF_len : ∀ (L : List (Option Int)) (o : List Int), (rpF srt L o).1.length ≤ L.length + o.length
 | [], o => by simp [rpF]
 | some x :: L, o => by
   have h := rpF_len L (srt o x)
   rw [srt_len] at h
   rw [rpF, List.length_cons]; omega
 | none :: L, o => by simp [rpF]
theorem reachV_len (p : Pn) (l : List Pk) (ts : List Trc) : (reachV p l ts).1.length ≤ (rpL p l ts).length := by
 unfold reachV
 split
 ·simp
 ·have h := rpF_len (rpL p l ts) []
  rw [List.length_nil] at h; omega
end Go.Proofs

set_option linter.unusedSimpArgs false
set_option maxRecDepth 100000
set_option maxHeartbeats 8000000
namespace Go.Proofs
open Go Go.Tr
theorem gTempl_ok (T : Tp) : TapeOK (gTempl T).2 = TapeOK T := by simp [gTempl]
theorem gChL_tape : ∀ (es : List Ed) (T : Tp) (l : List Int), TapeOK (gChL es T l).2 = TapeOK T
 | [], _, _ => rfl
 | e :: es, T, l => by rw [gChL, gChL_tape es]; simp
theorem gCh_tape (T : Tp) (p : Pn) (n : Int) : TapeOK (gCh T p n).2 = TapeOK T := by
 unfold gCh
 simp only
 split
 ·split <;> simp [gChL_tape]
 ·simp [gChL_tape]
theorem isends_law (L : List Int) (hL : ∀ x ∈ L, I64 x) (r : Int) : Contract Tryz.prog 12 [.d (ints L), .d (.int .i64 r)] [] (.d (.bool true)) [] [] := by
 refine contract_of Tryz.func12 rfl (fun E0 => ?_)
 refine awp.sound (g := .mk) (ow := []) (kp := (fun k => k==0||k==1||k==4||k==5||k==6||k==7||k==8||k==9||k==10||k==11||k==12||k==14||k==15||k==16||k==17||k==18||k==19||k==20||k==21||k==22||k==23||k==24||k==34||k==62||k==98||k==102||k==114||k==122||k==157)) ?_
 rw [Tryz.ntmps12]
 simp -dsimp [ints]
 refine ACall.of (new_c L) [] 3000 ?_
 simp -dsimp [ints]
 have kT : TapeOK (L.take 600, 0) := tape_new L hL
 generalize (L.take 600, 0) = T0 at kT ⊢
 refine ACall.of (domain_c T0 kT 6 (by omega)) [.o 3010] 0 ?_
 obtain ⟨d1, d2, d3, d4, d5, d6⟩ := gDom_ok T0 (most := 6) (by omega)
 have kD : TapeOK (gDom T0 6).2.2.2 := d3.symm ▸ kT
 clear d3
 generalize gDom T0 6 = D0 at d1 d2 d4 d5 d6 kD ⊢
 obtain ⟨g, p, X, T1⟩ := D0
 simp only at d1 d2 d4 d5 d6 kD
 have hsX : SmL X := ⟨by omega, fun b hb => chk_sm (d2 b hb)⟩
 have hrw : ∀ b ∈ X, b.rows.length ≤ 256 ∧ ∀ x ∈ b.rows, x.nx.length ≤ 24 := fun b hb => ⟨(chk_parts (d2 b hb)).2.1, (chk_parts (d2 b hb)).2.2.1⟩
 simp -dsimp [topT, planT]
 refine ACall.of (one_c T1 kD 3 ⟨by omega, by omega⟩ ⟨by omega, by omega⟩) [.o 3010] 0 ?_
 have kO : TapeOK (gOne T1 3).2 := by simpa using kD
 generalize gOne T1 3 = o at kO ⊢
 obtain ⟨o, T2⟩ := o
 simp only at kO ⊢
 rcases (Bool.eq_false_or_eq_true o).symm with rfl | rfl
 ·as_aux_lemma =>
  simp -dsimp [topT, planT]
  refine ACall.of (choose_c T2 kO p (by omega) 6 (by omega)) [.o 3010] 0 ?_
  have kC : TapeOK (gCh T2 p 6).2 := by rw [gCh_tape]; exact kO
  have hCl := gCh_len T2 p 6
  generalize gCh T2 p 6 = ids at kC hCl ⊢
  obtain ⟨ids, T4⟩ := ids
  simp only at kC hCl ⊢
  simp -dsimp [planT]
  refine ACall.of (template_c T4 kC) [.o 3010] 0 ?_
  have kM : TapeOK (gTempl T4).2 := by rw [gTempl_ok]; exact kC
  generalize gTempl T4 = q at kM ⊢
  obtain ⟨q, T5⟩ := q
  simp only at kM ⊢
  simp only [pkT, Pk.cs, List.map, bv]
  simp -dsimp [topT]
  refine ACall.of (router_c T5 kM g.rs g.ls ⟨d5, by omega⟩ 6 (by omega)) [.o 3010] 0 ?_
  have kR : TapeOK (gRouter T5 g.rs 6).2 := by rw [gRouter_ok]; exact kM
  generalize gRouter T5 g.rs 6 = A at kR ⊢
  obtain ⟨A, T6⟩ := A
  simp only at kR ⊢
  simp -dsimp [topT]
  refine ACall.of (router0_c T6 kR g.rs g.ls ⟨d5, by omega⟩) [.o 3010] 0 ?_
  have kN : TapeOK (gNext T6 g.rs.length).2 := by simpa using kR
  generalize gNext T6 g.rs.length = B at kN ⊢
  obtain ⟨B, T7⟩ := B
  simp only at kN ⊢
  generalize (g.rs.getD B.toNat ⟨0, false⟩).id = B
  have hpk := packets17_c p (by omega) ids (by omega) q
  have hWl := packR_len p ids q
  simp only [pkT, Pk.cs, List.map, planT, packT, bv] at hpk
  simp -dsimp [topT, planT]
  try refine ⟨?_, ⟨by kernel_rfl⟩⟩
  refine ACall.of hpk [] 0 ?_
  generalize packR p ids q = W at hWl ⊢
  obtain ⟨W, we⟩ := W
  simp only at hWl ⊢
  simp -dsimp [topT, planT]
  obtain ⟨R, hR⟩ : ∃ R : List Int, R = [r, A, B] := ⟨_, rfl⟩
  have hRl : R.length = 3 := by rw [hR]; rfl
  refine ALoop.of [] (fun k => k==0||k==1||k==4||k==5||k==6||k==7||k==8||k==9||k==10||k==11||k==12||k==14||k==15||k==16||k==17||k==18||k==19||k==20||k==21||k==22||k==23||k==24||k==34||k==62||k==98||k==102||k==114||k==122||k==157) (ι := { z : Nat × Tp // z.1 ≤ 3 ∧ TapeOK z.2 })
   (fun z => [(Pl.s 4, It.v (TV.d (D.bool false))), (Pl.s 5, It.v (TV.ptr (Pl.o 3010) 0)), (Pl.o 7, It.box [TV.d (D.int IntKind.i64 p.subd), TV.d (D.int IntKind.i64 p.len), TV.d (D.sl (eds p.es))]), (Pl.s 7, It.v (TV.ptr (Pl.o 7) 0)), (Pl.o 10, It.box (q.cs.map .d)), (Pl.s 10, It.v (TV.ptr (Pl.o 10) 0)), (Pl.s 9, It.v (TV.d (ints ids))), (Pl.s 12, It.v (TV.d (D.sl (pks W)))), (Pl.s 8, It.v (TV.d (D.sl (tbs X)))), (Pl.s 11, It.v (TV.d (D.sl (R.map fun n => [D.int IntKind.i64 n])))), (Pl.o 3010, tapeI z.1.2), (Pl.s 14, It.v (TV.d (D.int IntKind.i64 z.1.1)))])
   (fun z => 3 - z.1.1) ⟨(0, T7), by simp, kN⟩ ?_ ?_
  ·exact GS.to (by simp [hR, ints, Pk.cs, bv])
  clear hR
  rintro ⟨⟨i, T⟩, i1, kT'⟩
  simp only at i1 kT'
  by_cases hi : i < 3
  ·have hiz : (i : Int) < 3 := by omega
   have hg : R[i]? = some R[i] := List.getElem?_eq_getElem (by omega)
   generalize R[i] = x at hg
   have h1 := send_c X hsX p (by omega) x ids (by omega) q
   have h2 := send17_c X hsX p (by omega) x ids (by omega) q
   have hSa := sendR_all X p x ids q
   have hSl := sendR_len X p x ids q
   generalize sendR X p x ids q = S at h1 h2 hSa hSl
   obtain ⟨S, se⟩ := S
   simp only at hSa hSl
   simp only [pkT, Pk.cs, List.map, planT, sendT, bv] at h1 h2
   simp -dsimp [hiz, hg, hRl, Pk.cs, bv]
   and_intros
   all_goals try first | omega | exact ⟨by kernel_rfl⟩
   refine ACall.of h1 [] 0 ?_
   simp -dsimp [hiz, hg, hRl, Pk.cs, bv]
   and_intros
   all_goals try first | omega | exact ⟨by kernel_rfl⟩
   refine ACall.of h2 [] 0 ?_
   simp -dsimp
   try refine ⟨?_, ⟨by kernel_rfl⟩⟩
   have hSl' : S.length ≤ 100000 := by omega
   have hSd : ∀ t ∈ S, t.dl.length ≤ 1000000 := fun t ht => by have := (hSa t ht).1; omega
   have hSc : ∀ t ∈ S, t.cr.length ≤ 1000000 := fun t ht => (hSa t ht).2.1
   refine ALoop.of [] (fun k => k==0||k==1||k==4||k==5||k==6||k==7||k==8||k==9||k==10||k==11||k==12||k==14||k==15||k==16||k==17||k==18||k==19||k==20||k==21||k==22||k==23||k==24||k==34||k==62||k==98||k==102||k==114||k==122||k==157) (ι := { k : Nat // k ≤ S.length })
    (fun z => [(Pl.s 4, It.v (TV.d (D.bool false))), (Pl.s 5, It.v (TV.ptr (Pl.o 3010) 0)), (Pl.o 7, It.box [TV.d (D.int IntKind.i64 p.subd), TV.d (D.int IntKind.i64 p.len), TV.d (D.sl (eds p.es))]), (Pl.s 7, It.v (TV.ptr (Pl.o 7) 0)), (Pl.o 10, It.box (q.cs.map .d)), (Pl.s 10, It.v (TV.ptr (Pl.o 10) 0)), (Pl.s 9, It.v (TV.d (ints ids))), (Pl.s 12, It.v (TV.d (D.sl (pks W)))), (Pl.s 8, It.v (TV.d (D.sl (tbs X)))), (Pl.s 11, It.v (TV.d (D.sl (R.map fun n => [D.int IntKind.i64 n])))), (Pl.o 3010, tapeI T), (Pl.s 14, It.v (TV.d (D.int IntKind.i64 i))),
     (Pl.s 15, It.v (TV.d (D.sl (List.map trC S)))), (Pl.s 17, It.v (TV.d (D.sl (List.map trC S)))), (Pl.s 19, It.v (TV.d (D.int IntKind.i64 z.1)))])
    (fun z => S.length - z.1) ⟨0, by omega⟩ ?_ ?_
   ·exact GS.to (by simp [Pk.cs, bv])
   rintro ⟨k, k1⟩
   by_cases hk : k < S.length
   ·have hkz : (k : Int) < S.length := by omega
    have hx : S[k]? = some S[k] := List.getElem?_eq_getElem hk
    have hsm := hSa _ (List.getElem_mem hk)
    generalize S[k] = t at hx hsm
    have hx' : (S.map trC)[k]? = some (trC t) := by rw [List.getElem?_map, hx]; rfl
    have hsame := same14_c t (by omega) hsm.2.1 hsm.2.2
    simp only [trcT] at hsame
    simp -dsimp [hkz, hx', trC]
    and_intros
    all_goals try first | omega | exact ⟨by kernel_rfl⟩
    refine ACall.of hsame [] 0 ?_
    simp -dsimp [wrap_i64 (n := (k : Int) + 1) (by omega) (by omega)]
    and_intros
    all_goals try first | omega | exact ⟨by kernel_rfl⟩
    exact ⟨⟨k + 1, by omega⟩, GS.to (by simp [Pk.cs]), by simp; omega⟩
   ·have hkz : ¬ (k : Int) < S.length := by omega
    simp -dsimp [hkz]
    try refine ⟨?_, ⟨by kernel_rfl⟩⟩
    refine ACall.of (one_c T kT' 4 ⟨by omega, by omega⟩ ⟨by omega, by omega⟩) [.o 3010] 0 ?_
    have kO1 : TapeOK (gOne T 4).2 := by simpa using kT'
    generalize gOne T 4 = o at kO1 ⊢
    obtain ⟨o, T8⟩ := o
    simp only at kO1 ⊢
    rcases (Bool.eq_false_or_eq_true o).symm with rfl | rfl
    ·simp -dsimp
     have r1 := reached_c p (by omega) (W) (by first | omega | (simp; omega)) S hSl' hSd (by have := rpL_len p (W) S (fun t ht => (hSa t ht).1); omega)
     have r2 := reached17_c p (by omega) (W) (by first | omega | (simp; omega)) S hSl' hSd (by have := rpL_len p (W) S (fun t ht => (hSa t ht).1); omega)
     have rl := reachV_len p (W) S
     have rb := rpL_len p (W) S (fun t ht => (hSa t ht).1)
     generalize reachV p (W) S = V at r1 r2 rl
     obtain ⟨V, ve⟩ := V
     simp only at rl
     simp only [planT] at r1 r2
     refine ACall.of r1 [] 0 ?_
     simp -dsimp
     try refine ⟨?_, ⟨by kernel_rfl⟩⟩
     refine ACall.of r2 [] 0 ?_
     simp -dsimp
     try refine ⟨?_, ⟨by kernel_rfl⟩⟩
     refine ACall.of (ints04_c V V (by omega)) [] 0 ?_
     simp -dsimp
     try refine ⟨?_, ⟨by kernel_rfl⟩⟩
     refine ACall.of (crossings_c S hSl' hSc) [] 0 ?_
     simp -dsimp
     try refine ⟨?_, ⟨by kernel_rfl⟩⟩
     refine ACall.of (crossings17_c S hSl' hSc) [] 0 ?_
     simp -dsimp [wrap_i64 (n := (i : Int) + 1) (by omega) (by omega)]
     try refine ⟨?_, ⟨by kernel_rfl⟩⟩
     exact ⟨⟨(i + 1, T8), by dsimp only; omega, kO1⟩, GS.to (by simp [Pk.cs, bv]), by simp; omega⟩
    ·by_cases hW : 0 < W.length
     ·have dl : dLen 10 (pks W) := dLen_map 10 _ _ fun _ => rfl
      have htk : ((W.length : Int) - 1).toNat = W.length - 1 := by omega
      have hpw : pks (W.take (W.length - 1)) = (pks W).take (W.length - 1) := by simp [pks, List.map_take]
      simp -dsimp [hW, wrap_i64 (n := (W.length : Int) - 1) (by omega) (by omega), htk]
      and_intros
      all_goals try first | omega | exact ⟨by kernel_rfl⟩ | exact dl
      have r1 := reached_c p (by omega) (W.take (W.length - 1)) (by first | omega | (simp; omega)) S hSl' hSd (by have := rpL_len p (W.take (W.length - 1)) S (fun t ht => (hSa t ht).1); omega)
      have r2 := reached17_c p (by omega) (W.take (W.length - 1)) (by first | omega | (simp; omega)) S hSl' hSd (by have := rpL_len p (W.take (W.length - 1)) S (fun t ht => (hSa t ht).1); omega)
      have rl := reachV_len p (W.take (W.length - 1)) S
      have rb := rpL_len p (W.take (W.length - 1)) S (fun t ht => (hSa t ht).1)
      generalize reachV p (W.take (W.length - 1)) S = V at r1 r2 rl
      obtain ⟨V, ve⟩ := V
      simp only at rl
      simp only [planT] at r1 r2
      rw [hpw] at r1 r2
      refine ACall.of r1 [] 0 ?_
      simp -dsimp
      try refine ⟨?_, ⟨by kernel_rfl⟩⟩
      refine ACall.of r2 [] 0 ?_
      simp -dsimp
      try refine ⟨?_, ⟨by kernel_rfl⟩⟩
      refine ACall.of (ints04_c V V (by omega)) [] 0 ?_
      simp -dsimp
      try refine ⟨?_, ⟨by kernel_rfl⟩⟩
      refine ACall.of (crossings_c S hSl' hSc) [] 0 ?_
      simp -dsimp
      try refine ⟨?_, ⟨by kernel_rfl⟩⟩
      refine ACall.of (crossings17_c S hSl' hSc) [] 0 ?_
      simp -dsimp [wrap_i64 (n := (i : Int) + 1) (by omega) (by omega)]
      try refine ⟨?_, ⟨by kernel_rfl⟩⟩
      exact ⟨⟨(i + 1, T8), by dsimp only; omega, kO1⟩, GS.to (by simp [Pk.cs, bv]), by simp; omega⟩
     ·simp -dsimp [hW]
      have r1 := reached_c p (by omega) (W) (by first | omega | (simp; omega)) S hSl' hSd (by have := rpL_len p (W) S (fun t ht => (hSa t ht).1); omega)
      have r2 := reached17_c p (by omega) (W) (by first | omega | (simp; omega)) S hSl' hSd (by have := rpL_len p (W) S (fun t ht => (hSa t ht).1); omega)
      have rl := reachV_len p (W) S
      have rb := rpL_len p (W) S (fun t ht => (hSa t ht).1)
      generalize reachV p (W) S = V at r1 r2 rl
      obtain ⟨V, ve⟩ := V
      simp only at rl
      simp only [planT] at r1 r2
      refine ACall.of r1 [] 0 ?_
      simp -dsimp
      try refine ⟨?_, ⟨by kernel_rfl⟩⟩
      refine ACall.of r2 [] 0 ?_
      simp -dsimp
      try refine ⟨?_, ⟨by kernel_rfl⟩⟩
      refine ACall.of (ints04_c V V (by omega)) [] 0 ?_
      simp -dsimp
      try refine ⟨?_, ⟨by kernel_rfl⟩⟩
      refine ACall.of (crossings_c S hSl' hSc) [] 0 ?_
      simp -dsimp
      try refine ⟨?_, ⟨by kernel_rfl⟩⟩
      refine ACall.of (crossings17_c S hSl' hSc) [] 0 ?_
      simp -dsimp [wrap_i64 (n := (i : Int) + 1) (by omega) (by omega)]
      try refine ⟨?_, ⟨by kernel_rfl⟩⟩
      exact ⟨⟨(i + 1, T8), by dsimp only; omega, kO1⟩, GS.to (by simp [Pk.cs, bv]), by simp; omega⟩
  ·have hiz : ¬ (i : Int) < 3 := by omega
   simp -dsimp [hiz]
   try refine ⟨?_, ⟨by kernel_rfl⟩⟩
   refine ACall.of awake_c [] 0 ?_
   simp -dsimp
   try refine ⟨?_, ⟨by kernel_rfl⟩⟩
   refine Fin.of ?_
   simp
 ·as_aux_lemma =>
  simp -dsimp
  refine ACall.of (wrong_c T2 kO X hsX g.rs.length ⟨by omega, by omega⟩) [.o 3010] 0 ?_
  have kW : TapeOK (wrT g.rs.length X T2).2 := by rw [wrT_tape]; exact kO
  have hsY : SmL (wrT g.rs.length X T2).1 := ⟨by rw [wrT_len]; omega, wrT_sm _ _ _ hrw⟩
  generalize wrT g.rs.length X T2 = Y at kW hsY ⊢
  obtain ⟨Y, T3⟩ := Y
  simp only at kW hsY ⊢
  simp -dsimp [topT, planT]
  refine ACall.of (choose_c T3 kW p (by omega) 6 (by omega)) [.o 3010] 0 ?_
  have kC : TapeOK (gCh T3 p 6).2 := by rw [gCh_tape]; exact kW
  have hCl := gCh_len T3 p 6
  generalize gCh T3 p 6 = ids at kC hCl ⊢
  obtain ⟨ids, T4⟩ := ids
  simp only at kC hCl ⊢
  simp -dsimp [planT]
  refine ACall.of (template_c T4 kC) [.o 3010] 0 ?_
  have kM : TapeOK (gTempl T4).2 := by rw [gTempl_ok]; exact kC
  generalize gTempl T4 = q at kM ⊢
  obtain ⟨q, T5⟩ := q
  simp only at kM ⊢
  simp only [pkT, Pk.cs, List.map, bv]
  simp -dsimp [topT]
  refine ACall.of (router_c T5 kM g.rs g.ls ⟨d5, by omega⟩ 6 (by omega)) [.o 3010] 0 ?_
  have kR : TapeOK (gRouter T5 g.rs 6).2 := by rw [gRouter_ok]; exact kM
  generalize gRouter T5 g.rs 6 = A at kR ⊢
  obtain ⟨A, T6⟩ := A
  simp only at kR ⊢
  simp -dsimp [topT]
  refine ACall.of (router0_c T6 kR g.rs g.ls ⟨d5, by omega⟩) [.o 3010] 0 ?_
  have kN : TapeOK (gNext T6 g.rs.length).2 := by simpa using kR
  generalize gNext T6 g.rs.length = B at kN ⊢
  obtain ⟨B, T7⟩ := B
  simp only at kN ⊢
  generalize (g.rs.getD B.toNat ⟨0, false⟩).id = B
  have hpk := packets17_c p (by omega) ids (by omega) q
  have hWl := packR_len p ids q
  simp only [pkT, Pk.cs, List.map, planT, packT, bv] at hpk
  simp -dsimp [topT, planT]
  try refine ⟨?_, ⟨by kernel_rfl⟩⟩
  refine ACall.of hpk [] 0 ?_
  generalize packR p ids q = W at hWl ⊢
  obtain ⟨W, we⟩ := W
  simp only at hWl ⊢
  simp -dsimp [topT, planT]
  obtain ⟨R, hR⟩ : ∃ R : List Int, R = [r, A, B] := ⟨_, rfl⟩
  have hRl : R.length = 3 := by rw [hR]; rfl
  refine ALoop.of [] (fun k => k==0||k==1||k==4||k==5||k==6||k==7||k==8||k==9||k==10||k==11||k==12||k==14||k==15||k==16||k==17||k==18||k==19||k==20||k==21||k==22||k==23||k==24||k==34||k==62||k==98||k==102||k==114||k==122||k==157) (ι := { z : Nat × Tp // z.1 ≤ 3 ∧ TapeOK z.2 })
   (fun z => [(Pl.s 4, It.v (TV.d (D.bool false))), (Pl.s 5, It.v (TV.ptr (Pl.o 3010) 0)), (Pl.o 7, It.box [TV.d (D.int IntKind.i64 p.subd), TV.d (D.int IntKind.i64 p.len), TV.d (D.sl (eds p.es))]), (Pl.s 7, It.v (TV.ptr (Pl.o 7) 0)), (Pl.o 10, It.box (q.cs.map .d)), (Pl.s 10, It.v (TV.ptr (Pl.o 10) 0)), (Pl.s 9, It.v (TV.d (ints ids))), (Pl.s 12, It.v (TV.d (D.sl (pks W)))), (Pl.s 8, It.v (TV.d (D.sl (tbs Y)))), (Pl.s 11, It.v (TV.d (D.sl (R.map fun n => [D.int IntKind.i64 n])))), (Pl.o 3010, tapeI z.1.2), (Pl.s 14, It.v (TV.d (D.int IntKind.i64 z.1.1)))])
   (fun z => 3 - z.1.1) ⟨(0, T7), by simp, kN⟩ ?_ ?_
  ·exact GS.to (by simp [hR, ints, Pk.cs, bv])
  clear hR
  rintro ⟨⟨i, T⟩, i1, kT'⟩
  simp only at i1 kT'
  by_cases hi : i < 3
  ·have hiz : (i : Int) < 3 := by omega
   have hg : R[i]? = some R[i] := List.getElem?_eq_getElem (by omega)
   generalize R[i] = x at hg
   have h1 := send_c Y hsY p (by omega) x ids (by omega) q
   have h2 := send17_c Y hsY p (by omega) x ids (by omega) q
   have hSa := sendR_all Y p x ids q
   have hSl := sendR_len Y p x ids q
   generalize sendR Y p x ids q = S at h1 h2 hSa hSl
   obtain ⟨S, se⟩ := S
   simp only at hSa hSl
   simp only [pkT, Pk.cs, List.map, planT, sendT, bv] at h1 h2
   simp -dsimp [hiz, hg, hRl, Pk.cs, bv]
   and_intros
   all_goals try first | omega | exact ⟨by kernel_rfl⟩
   refine ACall.of h1 [] 0 ?_
   simp -dsimp [hiz, hg, hRl, Pk.cs, bv]
   and_intros
   all_goals try first | omega | exact ⟨by kernel_rfl⟩
   refine ACall.of h2 [] 0 ?_
   simp -dsimp
   try refine ⟨?_, ⟨by kernel_rfl⟩⟩
   have hSl' : S.length ≤ 100000 := by omega
   have hSd : ∀ t ∈ S, t.dl.length ≤ 1000000 := fun t ht => by have := (hSa t ht).1; omega
   have hSc : ∀ t ∈ S, t.cr.length ≤ 1000000 := fun t ht => (hSa t ht).2.1
   refine ALoop.of [] (fun k => k==0||k==1||k==4||k==5||k==6||k==7||k==8||k==9||k==10||k==11||k==12||k==14||k==15||k==16||k==17||k==18||k==19||k==20||k==21||k==22||k==23||k==24||k==34||k==62||k==98||k==102||k==114||k==122||k==157) (ι := { k : Nat // k ≤ S.length })
    (fun z => [(Pl.s 4, It.v (TV.d (D.bool false))), (Pl.s 5, It.v (TV.ptr (Pl.o 3010) 0)), (Pl.o 7, It.box [TV.d (D.int IntKind.i64 p.subd), TV.d (D.int IntKind.i64 p.len), TV.d (D.sl (eds p.es))]), (Pl.s 7, It.v (TV.ptr (Pl.o 7) 0)), (Pl.o 10, It.box (q.cs.map .d)), (Pl.s 10, It.v (TV.ptr (Pl.o 10) 0)), (Pl.s 9, It.v (TV.d (ints ids))), (Pl.s 12, It.v (TV.d (D.sl (pks W)))), (Pl.s 8, It.v (TV.d (D.sl (tbs Y)))), (Pl.s 11, It.v (TV.d (D.sl (R.map fun n => [D.int IntKind.i64 n])))), (Pl.o 3010, tapeI T), (Pl.s 14, It.v (TV.d (D.int IntKind.i64 i))),
     (Pl.s 15, It.v (TV.d (D.sl (List.map trC S)))), (Pl.s 17, It.v (TV.d (D.sl (List.map trC S)))), (Pl.s 19, It.v (TV.d (D.int IntKind.i64 z.1)))])
    (fun z => S.length - z.1) ⟨0, by omega⟩ ?_ ?_
   ·exact GS.to (by simp [Pk.cs, bv])
   rintro ⟨k, k1⟩
   by_cases hk : k < S.length
   ·have hkz : (k : Int) < S.length := by omega
    have hx : S[k]? = some S[k] := List.getElem?_eq_getElem hk
    have hsm := hSa _ (List.getElem_mem hk)
    generalize S[k] = t at hx hsm
    have hx' : (S.map trC)[k]? = some (trC t) := by rw [List.getElem?_map, hx]; rfl
    have hsame := same14_c t (by omega) hsm.2.1 hsm.2.2
    simp only [trcT] at hsame
    simp -dsimp [hkz, hx', trC]
    and_intros
    all_goals try first | omega | exact ⟨by kernel_rfl⟩
    refine ACall.of hsame [] 0 ?_
    simp -dsimp [wrap_i64 (n := (k : Int) + 1) (by omega) (by omega)]
    and_intros
    all_goals try first | omega | exact ⟨by kernel_rfl⟩
    exact ⟨⟨k + 1, by omega⟩, GS.to (by simp [Pk.cs]), by simp; omega⟩
   ·have hkz : ¬ (k : Int) < S.length := by omega
    simp -dsimp [hkz]
    try refine ⟨?_, ⟨by kernel_rfl⟩⟩
    refine ACall.of (one_c T kT' 4 ⟨by omega, by omega⟩ ⟨by omega, by omega⟩) [.o 3010] 0 ?_
    have kO1 : TapeOK (gOne T 4).2 := by simpa using kT'
    generalize gOne T 4 = o at kO1 ⊢
    obtain ⟨o, T8⟩ := o
    simp only at kO1 ⊢
    rcases (Bool.eq_false_or_eq_true o).symm with rfl | rfl
    ·simp -dsimp
     have r1 := reached_c p (by omega) (W) (by first | omega | (simp; omega)) S hSl' hSd (by have := rpL_len p (W) S (fun t ht => (hSa t ht).1); omega)
     have r2 := reached17_c p (by omega) (W) (by first | omega | (simp; omega)) S hSl' hSd (by have := rpL_len p (W) S (fun t ht => (hSa t ht).1); omega)
     have rl := reachV_len p (W) S
     have rb := rpL_len p (W) S (fun t ht => (hSa t ht).1)
     generalize reachV p (W) S = V at r1 r2 rl
     obtain ⟨V, ve⟩ := V
     simp only at rl
     simp only [planT] at r1 r2
     refine ACall.of r1 [] 0 ?_
     simp -dsimp
     try refine ⟨?_, ⟨by kernel_rfl⟩⟩
     refine ACall.of r2 [] 0 ?_
     simp -dsimp
     try refine ⟨?_, ⟨by kernel_rfl⟩⟩
     refine ACall.of (ints04_c V V (by omega)) [] 0 ?_
     simp -dsimp
     try refine ⟨?_, ⟨by kernel_rfl⟩⟩
     refine ACall.of (crossings_c S hSl' hSc) [] 0 ?_
     simp -dsimp
     try refine ⟨?_, ⟨by kernel_rfl⟩⟩
     refine ACall.of (crossings17_c S hSl' hSc) [] 0 ?_
     simp -dsimp [wrap_i64 (n := (i : Int) + 1) (by omega) (by omega)]
     try refine ⟨?_, ⟨by kernel_rfl⟩⟩
     exact ⟨⟨(i + 1, T8), by dsimp only; omega, kO1⟩, GS.to (by simp [Pk.cs, bv]), by simp; omega⟩
    ·by_cases hW : 0 < W.length
     ·have dl : dLen 10 (pks W) := dLen_map 10 _ _ fun _ => rfl
      have htk : ((W.length : Int) - 1).toNat = W.length - 1 := by omega
      have hpw : pks (W.take (W.length - 1)) = (pks W).take (W.length - 1) := by simp [pks, List.map_take]
      simp -dsimp [hW, wrap_i64 (n := (W.length : Int) - 1) (by omega) (by omega), htk]
      and_intros
      all_goals try first | omega | exact ⟨by kernel_rfl⟩ | exact dl
      have r1 := reached_c p (by omega) (W.take (W.length - 1)) (by first | omega | (simp; omega)) S hSl' hSd (by have := rpL_len p (W.take (W.length - 1)) S (fun t ht => (hSa t ht).1); omega)
      have r2 := reached17_c p (by omega) (W.take (W.length - 1)) (by first | omega | (simp; omega)) S hSl' hSd (by have := rpL_len p (W.take (W.length - 1)) S (fun t ht => (hSa t ht).1); omega)
      have rl := reachV_len p (W.take (W.length - 1)) S
      have rb := rpL_len p (W.take (W.length - 1)) S (fun t ht => (hSa t ht).1)
      generalize reachV p (W.take (W.length - 1)) S = V at r1 r2 rl
      obtain ⟨V, ve⟩ := V
      simp only at rl
      simp only [planT] at r1 r2
      rw [hpw] at r1 r2
      refine ACall.of r1 [] 0 ?_
      simp -dsimp
      try refine ⟨?_, ⟨by kernel_rfl⟩⟩
      refine ACall.of r2 [] 0 ?_
      simp -dsimp
      try refine ⟨?_, ⟨by kernel_rfl⟩⟩
      refine ACall.of (ints04_c V V (by omega)) [] 0 ?_
      simp -dsimp
      try refine ⟨?_, ⟨by kernel_rfl⟩⟩
      refine ACall.of (crossings_c S hSl' hSc) [] 0 ?_
      simp -dsimp
      try refine ⟨?_, ⟨by kernel_rfl⟩⟩
      refine ACall.of (crossings17_c S hSl' hSc) [] 0 ?_
      simp -dsimp [wrap_i64 (n := (i : Int) + 1) (by omega) (by omega)]
      try refine ⟨?_, ⟨by kernel_rfl⟩⟩
      exact ⟨⟨(i + 1, T8), by dsimp only; omega, kO1⟩, GS.to (by simp [Pk.cs, bv]), by simp; omega⟩
     ·simp -dsimp [hW]
      have r1 := reached_c p (by omega) (W) (by first | omega | (simp; omega)) S hSl' hSd (by have := rpL_len p (W) S (fun t ht => (hSa t ht).1); omega)
      have r2 := reached17_c p (by omega) (W) (by first | omega | (simp; omega)) S hSl' hSd (by have := rpL_len p (W) S (fun t ht => (hSa t ht).1); omega)
      have rl := reachV_len p (W) S
      have rb := rpL_len p (W) S (fun t ht => (hSa t ht).1)
      generalize reachV p (W) S = V at r1 r2 rl
      obtain ⟨V, ve⟩ := V
      simp only at rl
      simp only [planT] at r1 r2
      refine ACall.of r1 [] 0 ?_
      simp -dsimp
      try refine ⟨?_, ⟨by kernel_rfl⟩⟩
      refine ACall.of r2 [] 0 ?_
      simp -dsimp
      try refine ⟨?_, ⟨by kernel_rfl⟩⟩
      refine ACall.of (ints04_c V V (by omega)) [] 0 ?_
      simp -dsimp
      try refine ⟨?_, ⟨by kernel_rfl⟩⟩
      refine ACall.of (crossings_c S hSl' hSc) [] 0 ?_
      simp -dsimp
      try refine ⟨?_, ⟨by kernel_rfl⟩⟩
      refine ACall.of (crossings17_c S hSl' hSc) [] 0 ?_
      simp -dsimp [wrap_i64 (n := (i : Int) + 1) (by omega) (by omega)]
      try refine ⟨?_, ⟨by kernel_rfl⟩⟩
      exact ⟨⟨(i + 1, T8), by dsimp only; omega, kO1⟩, GS.to (by simp [Pk.cs, bv]), by simp; omega⟩
  ·have hiz : ¬ (i : Int) < 3 := by omega
   simp -dsimp [hiz]
   try refine ⟨?_, ⟨by kernel_rfl⟩⟩
   refine ACall.of awake_c [] 0 ?_
   simp -dsimp
   try refine ⟨?_, ⟨by kernel_rfl⟩⟩
   refine Fin.of ?_
   simp
end Go.Proofs

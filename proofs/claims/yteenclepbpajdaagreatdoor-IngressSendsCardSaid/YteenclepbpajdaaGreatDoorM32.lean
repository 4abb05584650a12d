/-
  What functions of the program compute, stated as contracts over plain data; the conditions of each stand in its own statement.
-/
import Derived.Test.YteenclepbpajdaaGreatDoorM31
import Derived.Test.YteenclepbpajdaaGreatDoorM27
import Derived.Test.YteenclepbpajdaaGreatDoorM26
import Derived.Test.YteenclepbpajdaaGreatDoorRows
import Derived.Test.YteenclepbpajdaaGreatDoorM10
import Derived.OpenShut
import Derived.MakeChecks
import Derived.FnData
import Derived.LaidMore
import Derived.Test.YteenclepbpajdaaGreatDoorM11
set_option linter.unusedSimpArgs false
set_option maxRecDepth 100000
set_option maxHeartbeats 4000000
namespace Go.Proofs
open Go Go.Tr
theorem router0_c (T : Tp) (hT : TapeOK T) (rs : List Rt) (ls : List Lk) (hr : 1 ≤ rs.length ∧ rs.length ≤ 1000) : Contract Tryz.prog 15 [.ptr (.x 0) 0, .agg [.d (.sl (rts rs)), .d (.sl (lks ls))], .d (.int .i64 0)] [tapeI T] (.d (.int .i64 (rs.getD (gNext T rs.length).1.toNat ⟨0, false⟩).id)) [tapeI (gNext T rs.length).2] [] := by
 have hr0 : ¬ rs.length = 0 := by omega
 have hrn : ¬ rs = [] := fun h => by simp [h] at hr0
 refine contract_of Tryz.func15 rfl (fun E0 => ?_)
 refine awp.sound (g := .mk) (ow := []) (kp := (fun k => k==0||k==1||k==2||k==4||k==6||k==19)) ?_
 rw [Tryz.ntmps15]
 simp -dsimp [hrn]
 try refine ⟨?_, ⟨by kernel_rfl⟩⟩
 refine ACall.of (next_c T hT rs.length ⟨by omega, by omega⟩) [.x 0] 0 ?_
 have m1 := gNext_nonneg T rs.length
 have m2 := gNext_lt T (n := rs.length) (by omega)
 generalize gNext T rs.length = q at m1 m2 ⊢
 obtain ⟨k, hk⟩ : ∃ k : Nat, q.1 = k := ⟨q.1.toNat, by omega⟩
 have hkl : k < rs.length := by omega
 have hx : rs[k]? = some rs[k] := List.getElem?_eq_getElem hkl
 generalize rs[k] = x at hx
 have hx' := rts_get hx
 rw [hk]
 simp -dsimp [hx', Rt.cs]
 and_intros
 all_goals try first | rfl | omega | exact ⟨by kernel_rfl⟩
 refine Fin.of ?_
 simp [hx]
theorem same14_c (t : Trc) (h1 : t.dl.length ≤ 1000000) (h2 : t.cr.length ≤ 1000000) (h3 : t.ls.length ≤ 1000000) : Contract Tryz.prog 32 [trcT t, trcT t] [] (.d (.bool true)) [] [] := by
 refine contract_of Tryz.func32 rfl (fun E0 => ?_)
 refine awp.sound (g := .mk) (ow := []) (kp := (fun k => k==0||k==1||k==2||k==3||k==4||k==5||k==6||k==7||k==32||k==37||k==50||k==55||k==68||k==73||k==86)) ?_
 rw [Tryz.ntmps32]
 simp -dsimp [trcT]
 try refine ⟨?_, ⟨by kernel_rfl⟩⟩
 refine ALoop.of [] (fun k => k==0||k==1||k==2||k==3||k==4||k==5||k==6||k==7||k==32||k==37||k==50||k==55||k==68||k==73||k==86) (ι := { i : Nat // i ≤ t.dl.length ∧ True }) (fun z => [(Pl.o 2, It.box [TV.d (D.sl (List.map dlC t.dl)), TV.d (D.sl (List.map crC t.cr)), TV.d (D.sl (List.map lsC t.ls))]), (Pl.s 2, It.v (TV.ptr (Pl.o 2) 0)), (Pl.o 3, It.box [TV.d (D.sl (List.map dlC t.dl)), TV.d (D.sl (List.map crC t.cr)), TV.d (D.sl (List.map lsC t.ls))]), (Pl.s 3, It.v (TV.ptr (Pl.o 3) 0)), (Pl.s 4, It.v (TV.d (D.bool false))), (Pl.s 5, It.v (TV.d (D.int IntKind.i64 z.1)))]) (fun z => t.dl.length - z.1) ⟨0, by omega, trivial⟩ ?_ ?_
 ·exact GS.to (by simp)
 rintro ⟨i, i1, _⟩
 by_cases hi : i < t.dl.length
 ·have hiz : (i : Int) < t.dl.length := by omega
  have hg : t.dl[i]? = some t.dl[i] := List.getElem?_eq_getElem hi
  generalize t.dl[i] = x at hg
  simp -dsimp [hg, hiz, dlC, Pk.cs, bv, wrap_i64 (n := (i : Int) + 1) (by omega) (by omega)]
  and_intros
  all_goals try first | omega | exact ⟨by kernel_rfl⟩
  exact ⟨⟨i + 1, by omega, trivial⟩, GS.to (by simp []), by simp; omega⟩
 have hiz : ¬ (i : Int) < t.dl.length := by omega
 simp -dsimp [hiz]
 try refine ⟨?_, ⟨by kernel_rfl⟩⟩
 clear hi hiz i1
 refine ALoop.of [] (fun k => k==0||k==1||k==2||k==3||k==4||k==5||k==6||k==7||k==32||k==37||k==50||k==55||k==68||k==73||k==86) (ι := { i : Nat // i ≤ t.cr.length ∧ True }) (fun z => [(Pl.o 2, It.box [TV.d (D.sl (List.map dlC t.dl)), TV.d (D.sl (List.map crC t.cr)), TV.d (D.sl (List.map lsC t.ls))]), (Pl.s 2, It.v (TV.ptr (Pl.o 2) 0)), (Pl.o 3, It.box [TV.d (D.sl (List.map dlC t.dl)), TV.d (D.sl (List.map crC t.cr)), TV.d (D.sl (List.map lsC t.ls))]), (Pl.s 3, It.v (TV.ptr (Pl.o 3) 0)), (Pl.s 4, It.v (TV.d (D.bool false))), (Pl.s 6, It.v (TV.d (D.int IntKind.i64 z.1)))]) (fun z => t.cr.length - z.1) ⟨0, by omega, trivial⟩ ?_ ?_
 ·exact GS.to (by simp)
 rintro ⟨i, i1, _⟩
 by_cases hi : i < t.cr.length
 ·have hiz : (i : Int) < t.cr.length := by omega
  have hg : t.cr[i]? = some t.cr[i] := List.getElem?_eq_getElem hi
  generalize t.cr[i] = x at hg
  simp -dsimp [hg, hiz, crC, Pk.cs, bv, wrap_i64 (n := (i : Int) + 1) (by omega) (by omega)]
  and_intros
  all_goals try first | omega | exact ⟨by kernel_rfl⟩
  exact ⟨⟨i + 1, by omega, trivial⟩, GS.to (by simp []), by simp; omega⟩
 have hiz : ¬ (i : Int) < t.cr.length := by omega
 simp -dsimp [hiz]
 try refine ⟨?_, ⟨by kernel_rfl⟩⟩
 clear hi hiz i1
 refine ALoop.of [] (fun k => k==0||k==1||k==2||k==3||k==4||k==5||k==6||k==7||k==32||k==37||k==50||k==55||k==68||k==73||k==86) (ι := { i : Nat // i ≤ t.ls.length ∧ True }) (fun z => [(Pl.o 2, It.box [TV.d (D.sl (List.map dlC t.dl)), TV.d (D.sl (List.map crC t.cr)), TV.d (D.sl (List.map lsC t.ls))]), (Pl.s 2, It.v (TV.ptr (Pl.o 2) 0)), (Pl.o 3, It.box [TV.d (D.sl (List.map dlC t.dl)), TV.d (D.sl (List.map crC t.cr)), TV.d (D.sl (List.map lsC t.ls))]), (Pl.s 3, It.v (TV.ptr (Pl.o 3) 0)), (Pl.s 4, It.v (TV.d (D.bool false))), (Pl.s 7, It.v (TV.d (D.int IntKind.i64 z.1)))]) (fun z => t.ls.length - z.1) ⟨0, by omega, trivial⟩ ?_ ?_
 ·exact GS.to (by simp)
 rintro ⟨i, i1, _⟩
 by_cases hi : i < t.ls.length
 ·have hiz : (i : Int) < t.ls.length := by omega
  have hg : t.ls[i]? = some t.ls[i] := List.getElem?_eq_getElem hi
  generalize t.ls[i] = x at hg
  simp -dsimp [hg, hiz, lsC, Pk.cs, bv, wrap_i64 (n := (i : Int) + 1) (by omega) (by omega)]
  and_intros
  all_goals try first | omega | exact ⟨by kernel_rfl⟩
  exact ⟨⟨i + 1, by omega, trivial⟩, GS.to (by simp []), by simp; omega⟩
 have hiz : ¬ (i : Int) < t.ls.length := by omega
 simp -dsimp [hiz]
 try refine ⟨?_, ⟨by kernel_rfl⟩⟩
 clear hi hiz i1
 refine Fin.of ?_
 simp
end Go.Proofs

set_option linter.unusedSimpArgs false
set_option maxRecDepth 100000
set_option maxHeartbeats 4000000
namespace Go.Proofs
open Go Go.Tr
def chG : Topo := ⟨[⟨1, true⟩, ⟨2, true⟩, ⟨3, true⟩], [⟨1, 2, 1, 1, 0⟩, ⟨2, 3, 1, 1, 0⟩]⟩
def chP : Pn := ⟨0, 8, [⟨2, 1⟩, ⟨3, 2⟩]⟩
def chL : List Tb := tabs chG chP chG.rs
def chQ : Pk := ⟨1, 0, 0, 8, 9, 0, 0, 0, 3#64, ⟨#[]⟩⟩
theorem chP_ok : planB chP = true := planB_ok (by decide) (by decide) (fun i j hj hi => by
 have hi : i < 2 := hi
 obtain ⟨rfl, rfl⟩ : i = 1 ∧ j = 0 := by omega
 decide)
theorem chG_ok : chkT chG = 0 := by decide +kernel
theorem chain_c : Contract Tryz.prog 80 [] [] (.d (.sl (tbs chL))) [] [] := by
 have ha := all11_c chG ⟨by simp [chG], by simp [chG]⟩ chP (by simp [chP])
 rw [all11_eq chG_ok chP_ok] at ha
 change Contract _ _ _ _ (allT chL 0) _ _ at ha
 simp only [allT, topT, planT] at ha
 rw [show List.map Tb.cs chL = tbs chL from rfl] at ha
 generalize chL = L at ha ⊢
 simp only [chG, chP, rts, lks, eds, List.map, Rt.cs, Lk.cs, Ed.cs] at ha
 refine contract_of Tryz.func80 rfl (fun E0 => ?_)
 refine awp.sound (g := .mk) (ow := []) (kp := (fun k => k==0||k==1||k==2)) ?_
 rw [Tryz.ntmps80]
 simp -dsimp
 try refine ⟨?_, ⟨by kernel_rfl⟩⟩
 refine ACall.of ha [] 0 ?_
 simp -dsimp
 try refine ⟨?_, ⟨by kernel_rfl⟩⟩
 refine Fin.of ?_
 simp
def chT : Trc := ⟨[(2, ⟨1, 0, 0, 8, 8, 0, 0, 0, 1#64, ⟨#[]⟩⟩), (3, ⟨1, 0, 0, 8, 7, 0, 0, 0, 2#64, ⟨#[]⟩⟩)], [(1, 2, 3#64), (2, 3, 2#64)], []⟩
theorem ch_run : runR chL chQ 1 = (chT, 0) := by kernel_rfl
theorem awake14_c : Contract Tryz.prog 33 [] [] (.d (.bool true)) [] [] := by
 have hS : SmL chL := ⟨by decide +kernel, fun b hb => chk_sm (tabs_chk chG_ok chP_ok b hb)⟩
 have hr := run_c chL hS chQ 1
 rw [ch_run] at hr
 have hro := routers_c chT (by simp [chT])
 have hre := received_c chT (by simp [chT])
 have e1 : rtsR chT = [2, 3] := by
  have : (chT.dl.map fun d => d.1) = [2, 3] := rfl
  rw [rtsR, this, List.mergeSort_of_pairwise (by simp)]
  decide +kernel
 have e2 : recV chT.dl = 3#64 := by decide +kernel
 rw [e1] at hro
 rw [e2] at hre
 have hi := ints04_c [2, 3] [2, 3] (by simp)
 simp only [pkT, chQ, Pk.cs, List.map, trcT, chT, dlC, crC, lsC, bv, ints] at hr hro hre hi
 simp only [show tn 3#64 = 3 from rfl, show tn 2#64 = 2 from rfl, show tn 1#64 = 1 from rfl] at hr hro hre
 obtain ⟨L, hL⟩ : ∃ L, chL = L := ⟨_, rfl⟩
 have hch := chain_c
 rw [hL] at hr hch
 refine contract_of Tryz.func33 rfl (fun E0 => ?_)
 refine awp.sound (g := .mk) (ow := []) (kp := (fun k => k==0||k==1||k==2)) ?_
 rw [Tryz.ntmps33]
 simp -dsimp
 try refine ⟨?_, ⟨by kernel_rfl⟩⟩
 refine ACall.of hch [] 0 ?_
 simp -dsimp
 try refine ⟨?_, ⟨by kernel_rfl⟩⟩
 refine ACall.of hr [] 0 ?_
 simp -dsimp
 try refine ⟨?_, ⟨by kernel_rfl⟩⟩
 refine ACall.of hro [] 0 ?_
 simp -dsimp
 try refine ⟨?_, ⟨by kernel_rfl⟩⟩
 refine ACall.of hi [] 0 ?_
 simp -dsimp
 try refine ⟨?_, ⟨by kernel_rfl⟩⟩
 refine ACall.of hre [] 0 ?_
 simp -dsimp
 try refine ⟨?_, ⟨by kernel_rfl⟩⟩
 refine Fin.of ?_
 simp
end Go.Proofs

set_option linter.unusedSimpArgs false
set_option maxRecDepth 100000
set_option maxHeartbeats 4000000
namespace Go.Proofs
open Go Go.Tr
@[simp] theorem isObj_tape (T : Tp) : isObj (tapeI T) = true := rfl
theorem tape_new (L : List Int) (h : ∀ x ∈ L, I64 x) : TapeOK (L.take 600, 0) := ⟨by simp; omega, fun x hx => h x (List.mem_of_mem_take hx)⟩
theorem gDom_ok (T : Tp) {most : Int} (hm : 1 ≤ most ∧ most ≤ 24) : (gDom T most).2.2.1.length ≤ 24 ∧ (∀ b ∈ (gDom T most).2.2.1, chk b = 0) ∧ TapeOK (gDom T most).2.2.2 = TapeOK T ∧ (gDom T most).2.1.es.length ≤ 24 ∧ 1 ≤ (gDom T most).1.rs.length ∧ (gDom T most).1.rs.length ≤ 24 := by
 have hs := gTop_small T hm
 obtain ⟨h1, h2⟩ := gPlan_zero (gTop T most).2 (gTop T most).1.rs
 refine ⟨all11_len _ _, all11_ok _ _, h1.trans (by simp), Nat.le_trans h2 hs.1, ?_, hs.1⟩
 have b1 := gRange_lo T 1 most
 simp [gDom, gTop, gRts]
 omega
theorem locV_len (r : Int) (o : Out) (p : Pk) : (locV r o p).length ≤ 64 := by unfold locV; rw [List.length_map]; exact bitsI_len _
theorem stepT_len (l : List Tb) (q : Int × Pk) (t : Trc) : (stepT l q t).dl.length ≤ t.dl.length + 64 ∧ (stepT l q t).cr.length ≤ t.cr.length + 64 ∧ (stepT l q t).ls.length ≤ t.ls.length + 64 := by
 unfold stepT
 split
 ·simp
 ·rename_i b _
  have h1 := locV_len q.1 (fwdR b q.2).1 q.2
  have h2 := fwdR_len b q.2
  refine ⟨by simp only [List.length_append]; omega, by simp only [List.length_append, List.length_map]; omega, ?_⟩
  simp only
  split
  ·omega
  ·simp
theorem runG_len (l : List Tb) : ∀ (n : Nat) (Q : List (Int × Pk)) (t : Trc), (runG l n Q t).dl.length ≤ t.dl.length + 64 * n ∧ (runG l n Q t).cr.length ≤ t.cr.length + 64 * n ∧ (runG l n Q t).ls.length ≤ t.ls.length + 64 * n
 | 0, Q, t => by simp [runG]
 | n + 1, [], t => by rw [runG_nil]; omega
 | n + 1, q :: Q, t => by
   have h1 := runG_len l n (Q ++ nextQ l q) (stepT l q t)
   have h2 := stepT_len l q t
   rw [runG]; omega
theorem run_small (l : List Tb) (p : Pk) (r : Int) : (runR l p r).1.dl.length ≤ 1000000 ∧ (runR l p r).1.cr.length ≤ 1000000 ∧ (runR l p r).1.ls.length ≤ 1000000 := by
 by_cases h : fitsR l p r = 0
 ·obtain ⟨h1, _, h2⟩ := fits_fit h
  rw [h2]
  have h3 := runG_len l (wt p) [(r, p)] tr0
  have h4 := wt_le h1.ok
  simp only [tr0, List.length_nil] at h3 ⊢
  omega
 ·rw [fits_not h]; simp [tr0]
theorem gRouter_ok (T : Tp) (rs : List Rt) (n : Int) : TapeOK (gRouter T rs n).2 = TapeOK T := by
 unfold gRouter
 simp only
 split <;> simp
end Go.Proofs

set_option linter.unusedSimpArgs false
set_option linter.unusedVariables false
set_option maxRecDepth 100000
namespace Go.Proofs
open Go Go.Tr
theorem validLen_cases {n : Int} (h : validLen n = true) : n = 8 ∨ n = 16 ∨ n = 32 ∨ n = 64 := by
 simp [validLen] at h; omega
theorem fullB_bit' {len : Int} (hl : validLen len = true) {k : Nat} (hk : k < 64) : (fullB len).getLsbD k = decide ((k : Int) < len) := by
 have := validLen_cases hl
 rw [fullB, if_pos hl, fullN_bit hk _ (by omega)]
 congr 1
 rw [eq_iff_iff]; omega
theorem validB_of {B : BitVec 64} {len : Int} (hl : validLen len = true) (h : ∀ k < 64, B.getLsbD k = true → (k : Int) < len) : validB B len = true := by
 simp only [validB, hl, Bool.true_and, decide_eq_true_eq]
 apply BitVec.eq_of_getLsbD_eq
 intro k hk
 rw [BitVec.getLsbD_and, BitVec.getLsbD_not, fullB_bit' hl hk]
 simp only [hk, decide_true, Bool.true_and, BitVec.getLsbD_zero]
 cases hb : B.getLsbD k with
 | false => rfl
 | true => simp [h k hk hb]
theorem bitB_iff {j : Int} {k : Nat} (hk : k < 64) : (bitB j).getLsbD k = true ↔ (k : Int) = j := by
 unfold bitB
 split
 ·rename_i h
  simp; omega
 ·rename_i h
  rw [wrap_u64 (by omega) (by omega), bit_one (by omega) hk]
  simp; omega
theorem plBit_lt {id len : Int} (hl : validLen len = true) : plBit id len < len ∧ 0 ≤ plBit id len := by
 have := validLen_cases hl
 unfold plBit
 split
 ·have h1 := Int.emod_lt_of_pos (id - 1) (b := len) (by omega)
  have h2 := Int.emod_nonneg (id - 1) (b := len) (by omega)
  omega
 ·omega
theorem plSet_le {id len : Int} (hl : validLen len = true) : 0 ≤ plSet id len ∧ plSet id len ≤ 31 := by
 have := validLen_cases hl
 unfold plSet
 split
 ·rename_i h
  simp only [Bool.and_eq_true, inB, decide_eq_true_eq] at h
  have h1 : 0 ≤ (id - 1) / len := Int.ediv_nonneg (by omega) (by omega)
  have h2 : (id - 1) / len ≤ (id - 1) / 8 := by
   rcases this with rfl | rfl | rfl | rfl <;> omega
  omega
 ·omega
theorem forL_bits {len set : Int} (hl : validLen len = true) : ∀ (es : List Ed) (T : Tp) (B : BitVec 64), (∀ k < 64, B.getLsbD k = true → (k : Int) < len) → ∀ k < 64, (forL len set es T B).1.getLsbD k = true → (k : Int) < len
 | [], _, _, h => h
 | e :: es, T, B, h => by
   rw [forL]
   split
   ·split
    ·refine forL_bits hl es _ _ fun k hk hb => ?_
     rcases (or_bit B (bitB (plBit e.id len))).1 hb with hb | hb
     ·exact h k hk hb
     ·have := (bitB_iff hk).1 hb
      have := (plBit_lt (id := e.id) hl).1
      omega
    ·exact forL_bits hl es _ _ h
   ·exact forL_bits hl es _ _ h
theorem gBits_full (T : Tp) {len : Int} (hl : validLen len = true) : ∀ k < 64, (gBits T len).1.getLsbD k = true → (k : Int) < len := fun k hk hb => by
 have key : ∀ X : BitVec 64, (X &&& fullB len).getLsbD k = true → (k : Int) < len := fun X hX => by
  rw [BitVec.getLsbD_and, Bool.and_eq_true, fullB_bit' hl hk] at hX
  simpa using hX.2
 unfold gBits at hb
 dsimp only at hb
 split at hb
 ·simp at hb
 split at hb
 ·exact key _ hb
 split at hb
 ·exact key _ hb
 ·exact key _ hb
theorem ok_iff (p : Pk) : p.ok = true ↔ (1 ≤ p.mode ∧ p.mode ≤ 3) ∧ (0 ≤ p.subd ∧ p.subd ≤ 7) ∧ (0 ≤ p.set ∧ p.set ≤ 31) ∧ validB p.bits p.len = true ∧ (0 ≤ p.ttl ∧ p.ttl ≤ 63) ∧ (0 ≤ p.ent ∧ p.ent ≤ 1023) ∧ (0 ≤ p.ing ∧ p.ing ≤ 256) ∧ (0 ≤ p.proto ∧ p.proto ≤ 7) ∧ p.pay.size ≤ 64 := by
 simp [Pk.ok, insB, and_assoc]
structure ForV (p : Pn) (q : Pk) : Prop where
 ok : q.ok = true
 mode : q.mode = 1
 subd : q.subd = p.subd
 len : q.len = p.len
theorem for_ok {p : Pn} {q : Pk} (hs : 0 ≤ p.subd ∧ p.subd ≤ 7) (hl : validLen p.len = true) (hq : (0 ≤ q.ttl ∧ q.ttl ≤ 63) ∧ (0 ≤ q.ent ∧ q.ent ≤ 1023) ∧ (0 ≤ q.ing ∧ q.ing ≤ 256) ∧ (0 ≤ q.proto ∧ q.proto ≤ 7) ∧ q.pay.size ≤ 64) {set : Int} (hset : 0 ≤ set ∧ set ≤ 31)
  {B : BitVec 64} (hB : ∀ k < 64, B.getLsbD k = true → (k : Int) < p.len) : ForV p (q.for p.subd p.len set B) := by
 have hv := validB_of hl hB
 exact ⟨(ok_iff _).2 ⟨⟨by show (1 : Int) ≤ 1; omega, by show (1 : Int) ≤ 3; omega⟩, hs, hset, hv, hq.1, hq.2.1, hq.2.2.1, hq.2.2.2.1, hq.2.2.2.2⟩, rfl, rfl, rfl⟩
theorem gPacket_zero (T : Tp) : gPacket T 0 = gPk0 T := by
 simp [gPacket]
theorem gFor_valid (T : Tp) {p : Pn} (hs : 0 ≤ p.subd ∧ p.subd ≤ 7) (hl : validLen p.len = true) : ForV p (gFor T p).1 := by
 have hpk : ∀ q, q = (gPacket T 0).1 → (0 ≤ q.ttl ∧ q.ttl ≤ 63) ∧ (0 ≤ q.ent ∧ q.ent ≤ 1023) ∧ (0 ≤ q.ing ∧ q.ing ≤ 256) ∧ (0 ≤ q.proto ∧ q.proto ≤ 7) ∧ q.pay.size ≤ 64 := fun q hq => by
  rw [gPacket_zero] at hq
  obtain ⟨L, m, d, s, t, e, i, pr, y, B, w, T', h1, _, h2, h3, h4, h5, h6, _⟩ := gPk0_parts T
  rw [h1] at hq
  subst hq
  exact ⟨h2, h3, h4, h5, by simp only; omega⟩
 have hset : ∀ T', 0 ≤ (forS T' p).1 ∧ (forS T' p).1 ≤ 31 := fun T' => by
  unfold forS
  split
  ·simp
  ·exact plSet_le hl
 unfold gFor
 simp only
 have hq := hpk _ rfl
 have hb := forL_bits (set := (forS (gPacket T 0).2 p).1) hl p.es (forS (gPacket T 0).2 p).2 0#64 (by simp)
 split
 ·refine for_ok hs hl hq (hset _) fun k hk hk2 => ?_
  rcases (or_bit _ _).1 hk2 with hk2 | hk2
  ·exact hb k hk hk2
  ·exact gBits_full _ hl k hk hk2
 ·exact for_ok hs hl hq (hset _) hb
def Pk.live (q : Pk) (n : Int) : Pk := ⟨q.mode, q.subd, q.set, q.len, n, q.ent, q.ing, q.proto, q.bits, q.pay⟩
theorem ForV.live {p : Pn} {q : Pk} (h : ForV p q) {n : Int} (hn : 0 ≤ n ∧ n ≤ 63) : ForV p (q.live n) := by
 obtain ⟨h1, h2, h3, h4⟩ := h
 obtain ⟨a1, a2, a3, a4, a5, a6⟩ := (ok_iff q).1 h1
 exact ⟨(ok_iff _).2 ⟨a1, a2, a3, a4, hn, a6⟩, h2, h3, h4⟩
theorem TabV.fit {p : Pn} {rs : List Int} {l : List Tb} (h : TabV p rs l) {q : Pk} (hq : ForV p q) : FitL l q :=
 ⟨hq.ok, fun b hb => ⟨h.ck b hb, (h.sd b hb).1.trans hq.subd.symm, (h.sd b hb).2.trans hq.len.symm, hq.ok, by rw [hq.mode]; decide⟩⟩
theorem TabV.run {p : Pn} {rs : List Int} {l : List Tb} (h : TabV p rs l) {q : Pk} (hq : ForV p q) {r : Int} (hr : r ∈ rs) : runR l q r = (runG l (wt q) [(r, q)] tr0, 0) ∧ (findT l r).isSome := by
 have hs := (h.rs r).2 hr
 refine ⟨?_, hs⟩
 obtain ⟨b, hb⟩ := Option.isSome_iff_exists.1 hs
 have hsd := h.sd b (findT_mem hb).1
 unfold runR
 rw [if_neg (by simp [h.all, hq.ok]), hb]
 simp only
 rw [if_neg (by rw [hq.mode]; decide), if_neg (by rw [hsd.1, hsd.2, hq.subd, hq.len]; simp)]
theorem TabV.sm {p : Pn} {rs : List Int} {l : List Tb} (h : TabV p rs l) : SmL l := ⟨by have := h.n; omega, fun b hb => chk_sm (h.ck b hb)⟩
theorem tabs_rs {g : Topo} (hg : g.Ok) (p : Pn) (r : Int) : r ∈ (tabs g p g.rs).map (·.r) ↔ capR g.rs r = true := by
 rw [← findT_some, tabs_find hg]
 split
 ·rename_i h; simp [h]
 ·rename_i h; simp [h]
theorem rt_has {g : Topo} {x : Rt} (h : x ∈ g.rs) : hasR g.rs x.id = true := hasR_mem.2 (List.mem_map_of_mem h)
end Go.Proofs

set_option linter.unusedSimpArgs false
namespace Go.Proofs.YteenclepbpajdaaGreatDoor
open Go Go.Tr
set_option maxRecDepth 100000
def laidT : List (String × DataW Unit) := [("math/bits.deBruijn64tab", Rows.laid_math_bits_deBruijn64tab)]
theorem gDeb : Tryz.prog.globalNamed "math/bits.deBruijn64tab" = some 0 := by kernel_rfl
theorem tDeb : (Tryz.prog.globals[0]?).map (·.type) = some 210 := by kernel_rfl
theorem uDeb : Tryz.prog.underlying 210 = some (.array 64 5) := by kernel_rfl
theorem uByte : Tryz.prog.underlying 5 = some (.int .u8) := by kernel_rfl
theorem cByte : Tryz.prog.cellsOf 5 = 1 := by kernel_rfl
theorem debData {H : Type} : (Rows.laid_math_bits_deBruijn64tab : DataW H) = .agg (deb.map fun n => .lit (.int .u8 n)) := rfl
theorem glob_of_laid {W : World} (h : laidMetH Tryz.prog laidT W) : GlobW W := by
 rw [MakeChecks.laidMetH_plain _ _ _ (by kernel_rfl)] at h
 obtain ⟨ps, ⟨g0, t0, cs0, f0, p0, q0, hg0, ht0, hv0, hd0, _⟩, _, _⟩ := h
 obtain rfl := Option.some.inj (gDeb.symm.trans hg0)
 obtain rfl := Option.some.inj (tDeb.symm.trans ht0)
 obtain ⟨xs, m1, rfl, hx1, hlen, hn, hel⟩ := DataW.trod_array uDeb hd0
 simp only [Prod.mk.injEq, debData, DataW.agg.injEq] at hx1
 have hcell : ∀ i : Nat, i < 64 → cs0[i]? = some (.int .u8 (deb.getD i 0)) := fun i hi => by
  have h1 := hel i hi
  rw [cByte, Nat.mul_one] at h1
  have h2 : xs[i]? = some xs[i] := List.getElem?_eq_getElem (by omega)
  rw [h2] at h1
  obtain ⟨n, e1, e2, _⟩ := DataW.trod_int uByte h1
  have h3 : (xs.map (·.1))[i]? = (deb.map fun n => (DataW.lit (Lit.int .u8 n) : DataW Unit))[i]? := by rw [← hx1.1]
  rw [List.getElem?_map, h2, Option.map_some, e2, List.getElem?_map] at h3
  have h4 : deb[i]? = some n := by
   cases hd : deb[i]? with
   | none => rw [hd] at h3; simp at h3
   | some k => rw [hd] at h3; simp at h3; rw [h3]
  have h5 : cs0.toList[i]? = some (.int .u8 n) := by
   have := congrArg (fun l => l[0]?) e1
   simp only [List.getElem?_take, List.getElem?_drop] at this
   simpa using this
  rw [List.getD_eq_getElem?_getD, h4, Option.getD_some]
  simpa using h5
 have hbl : 0 < W.heap.size := by
  have := World.var?_cell hg0 hv0 0
  rw [hcell 0 (by omega)] at this
  exact World.block_lt_of_cell? W ⟨0, 0, none⟩ this
 intro y hy
 simp only [globs, List.mem_singleton] at hy
 subst hy
 refine RepCells.of_get fun i x hx => ?_
 simp only [List.getElem?_map, Option.map_eq_some_iff] at hx
 obtain ⟨n, h1, rfl⟩ := hx
 have hi : i < 64 := (List.getElem?_eq_some_iff.1 h1).1
 refine ⟨hbl, .int .u8 n, ?_, by simp only [Rep]⟩
 have := World.var?_cell hg0 hv0 i
 rw [hcell i hi, List.getD_eq_getElem?_getD, h1, Option.getD_some] at this
 rw [Nat.zero_add]
 exact this
end Go.Proofs.YteenclepbpajdaaGreatDoor

namespace Go.Proofs
open Go Go.Tr
theorem has_int {ds : List D} (h : (Ty.int .i64).has ds) : ∃ n, ds = [.int .i64 n] := by
 simp only [Ty.has] at h
 obtain ⟨n, rfl, _⟩ := h
 exact ⟨n, rfl⟩
end Go.Proofs

/-
  What functions of the program compute, stated as contracts over plain data; the conditions of each stand in its own statement.
-/
import Derived.Test.YtjgeggdefiejbaaGreatDoorSP5
import Derived.Test.YtjgeggdefiejbaaGreatDoorM32
set_option linter.unusedSimpArgs false
set_option maxRecDepth 100000
set_option maxHeartbeats 8000000
namespace Go.Proofs
open Go Go.Tr
theorem equalC_c (a b : List (Int × Int × BitVec 64)) (hl : a.length ≤ 1000000) : Contract Tryz.prog 114 [.d (.sl (a.map crC)), .d (.sl (b.map crC))] [] (.d (.bool (decide (a = b)))) [] [] := by
 refine contract_of Tryz.func114 rfl (fun E0 => ?_)
 refine awp.sound (g := .mk) (ow := []) (kp := (fun k => k==0||k==1||k==4||k==5||k==10||k==12||k==13||k==14||k==24)) ?_
 rw [Tryz.ntmps114]
 by_cases hlen : a.length = b.length
 ·simp -dsimp [hlen]
  refine ALoop.of [] (fun k => k==0||k==1||k==4||k==5||k==10||k==12||k==13||k==14||k==24) (ι := { i : Nat // i ≤ b.length ∧ ∀ j, j < i → a[j]? = b[j]? }) (fun z => [(Pl.s 0, It.v (.d (.sl (a.map crC)))), (Pl.s 1, It.v (.d (.sl (b.map crC)))), (Pl.s 4, It.v (.d (.bool false))), (Pl.s 10, It.v (.d (.bool false))),
   (Pl.s 12, It.v (TV.d (D.int IntKind.i64 b.length))), (Pl.s 13, It.v (TV.d (D.int IntKind.i64 z.1)))]) (fun z => b.length - z.1) ⟨0, by omega, fun j h => by omega⟩ ?_ ?_
  ·exact GS.to (by simp)
  ·rintro ⟨i, i1, i2⟩
   by_cases hi' : i < b.length
   ·have hi : i < a.length := by omega
    have ga : a[i]? = some a[i] := List.getElem?_eq_getElem hi
    have gb : b[i]? = some b[i] := List.getElem?_eq_getElem hi'
    have hiz : (i : Int) < b.length := by omega
    generalize a[i] = x at ga
    generalize b[i] = y at gb
    have hc : (!decide (x.1 = y.1) || (!decide (x.2.1 = y.2.1) || !decide (x.2.2 = y.2.2))) = !decide (x = y) := by
     obtain ⟨x0, x1, x2⟩ := x
     obtain ⟨y0, y1, y2⟩ := y
     simp only [Prod.mk.injEq]
     by_cases c0 : x0 = y0 <;> by_cases c1 : x1 = y1 <;> by_cases c2 : x2 = y2 <;> simp [c0, c1, c2]
    by_cases hxy : x = y
    ·simp -dsimp [hiz, ga, gb, crC, bv, hc, hxy, wrap_i64 (n := (i : Int) + 1) (by omega) (by omega)]
     and_intros
     all_goals try first | omega | exact ⟨by kernel_rfl⟩ | rfl
     exact ⟨⟨i + 1, by omega, fun j hj => by
      by_cases e : j = i
      ·subst e; rw [ga, gb, hxy]
      ·exact i2 j (by omega)⟩, GS.to (by simp), by simp; omega⟩
    ·simp -dsimp [hiz, ga, gb, crC, bv, hc, hxy]
     and_intros
     all_goals try first | omega | exact ⟨by kernel_rfl⟩ | rfl
     refine Fin.of ?_
     have : a ≠ b := fun e => by
      subst e
      rw [ga] at gb
      exact hxy (Option.some.inj gb)
     simp [this]
   ·have hiz : ¬ (i : Int) < b.length := by omega
    simp -dsimp [hiz]
    refine Fin.of ?_
    have : a = b := List.ext_getElem? fun j => by
     by_cases hj : j < i
     ·exact i2 j hj
     ·rw [List.getElem?_eq_none (by omega), List.getElem?_eq_none (by omega)]
    simp [this]
 ·have hlen' : ¬ (a.length : Int) = b.length := by omega
  simp -dsimp [hlen, hlen']
  refine Fin.of ?_
  have : a ≠ b := fun e => hlen (by rw [e])
  simp [this]
def flowB (p q : Pk) : Bool := decide (q.mode = p.mode) && (decide (q.subd = p.subd) && (decide (q.set = p.set) && (decide (q.len = p.len) && (decide (q.ttl = p.ttl) && decide (q.bits = p.bits)))))
def sameV (l : List Tb) (r : Int) (p q : Pk) : Bool :=
 flowB p q && (decide (p.ent.tmod 8 = q.ent.tmod 8) && (decide ((runR l p r).2 = 0) && (decide ((runR l q r).2 = 0) && decide ((runR l p r).1.cr = (runR l q r).1.cr))))
theorem same_c (l : List Tb) (hl : SmL l) (r : Int) (p q : Pk) : Contract Tryz.prog 62 [.d (.sl (tbs l)), .d (.int .i64 r), pkT p, pkT q] [] (.d (.bool (sameV l r p q))) [] [] := by
 have h1 := run_c l hl p r
 have h2 := run_c l hl q r
 obtain ⟨s1, s2, s3⟩ := run_small l p r
 unfold sameV
 generalize runR l p r = U at h1 s1 s2 s3 ⊢
 generalize runR l q r = V at h2 ⊢
 obtain ⟨U, e⟩ := U
 obtain ⟨V, f⟩ := V
 simp only at s1 s2 s3
 have h3 := equalC_c U.cr V.cr (by omega)
 simp only [pkT, Pk.cs, List.map, trcT, bv] at h1 h2
 refine contract_of Tryz.func62 rfl (fun E0 => ?_)
 refine awp.sound (g := .mk) (ow := []) (kp := (fun k => k==0||k==1||k==2||k==3||k==6||k==7||k==8||k==9||k==10||k==11||k==12||k==13||k==38)) ?_
 rw [Tryz.ntmps62]
 rcases (Bool.eq_false_or_eq_true (flowB p q)).symm with hb | hb
 ·simp only [flowB] at hb
  simp -dsimp [pkT, Pk.cs, bv, hb]
  and_intros
  all_goals try first | omega | exact ⟨by kernel_rfl⟩ | rfl
  refine Fin.of ?_
  simp [flowB, hb]
 ·simp only [flowB] at hb
  by_cases ht : p.ent.tmod 8 = q.ent.tmod 8
  ·simp -dsimp [pkT, Pk.cs, bv, hb, ht]
   and_intros
   all_goals try first | omega | exact ⟨by kernel_rfl⟩ | rfl
   refine ACall.of h1 [] 0 ?_
   simp -dsimp
   and_intros
   all_goals try first | omega | exact ⟨by kernel_rfl⟩ | rfl
   refine ACall.of h2 [] 0 ?_
   by_cases he : e = 0
   ·by_cases hf : f = 0
    ·simp -dsimp [he, hf]
     and_intros
     all_goals try first | omega | exact ⟨by kernel_rfl⟩ | rfl
     refine ACall.of h3 [] 0 ?_
     simp -dsimp
     and_intros
     all_goals try first | omega | exact ⟨by kernel_rfl⟩ | rfl
     refine Fin.of ?_
     simp [flowB, hb, ht, he, hf]
    ·simp -dsimp [he, hf]
     and_intros
     all_goals try first | omega | exact ⟨by kernel_rfl⟩ | rfl
     refine Fin.of ?_
     simp [hf]
   ·simp -dsimp [he]
    and_intros
    all_goals try first | omega | exact ⟨by kernel_rfl⟩ | rfl
    refine Fin.of ?_
    simp [he]
  ·simp -dsimp [pkT, Pk.cs, bv, hb, ht]
   and_intros
   all_goals try first | omega | exact ⟨by kernel_rfl⟩ | rfl
   refine Fin.of ?_
   simp [ht]
theorem run_ent {l : List Tb} {p : Pk} {r : Int} (h : (runR l p r).2 = 0) : 0 ≤ p.ent ∧ p.ent ≤ 1023 := by
 by_cases hf : fitsR l p r = 0
 ·exact ok_ent (fits_fit hf).1.ok
 ·rw [fits_not hf] at h; exact absurd h hf
theorem same15_c (l : List Tb) (hl : SmL l) (r : Int) (p q : Pk) : Contract Tryz.prog 63 [.d (.sl (tbs l)), .d (.int .i64 r), pkT p, pkT q] [] (.d (.bool (sameV l r p q))) [] [] := by
 have h1 := run14_c l hl p r
 have h2 := run14_c l hl q r
 obtain ⟨s1, s2, s3⟩ := run_small l p r
 have e1 := run_ent (l := l) (p := p) (r := r)
 have e2 := run_ent (l := l) (p := q) (r := r)
 unfold sameV
 generalize runR l p r = U at h1 s1 s2 s3 e1 ⊢
 generalize runR l q r = V at h2 e2 ⊢
 obtain ⟨U, e⟩ := U
 obtain ⟨V, f⟩ := V
 simp only at s1 s2 s3 e1 e2
 simp only [pkT, Pk.cs, List.map, trcT, bv] at h1 h2
 refine contract_of Tryz.func63 rfl (fun E0 => ?_)
 refine awp.sound (g := .mk) (ow := []) (kp := (fun k => k==0||k==1||k==2||k==3||k==6||k==7||k==8||k==9||k==10||k==11||k==12||k==13||k==14||k==43||k==68||k==73||k==86)) ?_
 rw [Tryz.ntmps63]
 simp -dsimp [pkT, Pk.cs, bv]
 and_intros
 all_goals try first | omega | exact ⟨by kernel_rfl⟩ | rfl
 refine ACall.of h1 [] 0 ?_
 simp -dsimp
 and_intros
 all_goals try first | omega | exact ⟨by kernel_rfl⟩ | rfl
 refine ACall.of h2 [] 0 ?_
 by_cases he : e = 0
 rotate_left
 ·simp -dsimp [he]
  and_intros
  all_goals try first | omega | exact ⟨by kernel_rfl⟩ | rfl
  refine Fin.of ?_
  simp [he]
 by_cases hf : f = 0
 rotate_left
 ·simp -dsimp [he, hf]
  and_intros
  all_goals try first | omega | exact ⟨by kernel_rfl⟩ | rfl
  refine Fin.of ?_
  simp [hf]
 have b1 := e1 he
 have b2 := e2 hf
 have hw : IntKind.i64.wrap (p.ent - q.ent) = p.ent - q.ent := wrap_i64 (by omega) (by omega)
 by_cases ht : p.ent.tmod 8 = q.ent.tmod 8
 rotate_left
 ·have hz : ¬ (p.ent - q.ent).tmod 8 = 0 := fun h => ht (by
   have h1 : (p.ent - q.ent) % 8 = 0 := by
    have := Int.emod_eq_zero_of_dvd (Int.dvd_of_tmod_eq_zero h)
    exact this
   rw [Int.tmod_eq_emod_of_nonneg b1.1, Int.tmod_eq_emod_of_nonneg b2.1]
   omega)
  simp -dsimp [he, hf, hw, hz]
  and_intros
  all_goals try first | omega | exact ⟨by kernel_rfl⟩ | rfl
  refine Fin.of ?_
  simp [ht]
 have hz : (p.ent - q.ent).tmod 8 = 0 := by
  rw [Int.tmod_eq_emod_of_nonneg b1.1, Int.tmod_eq_emod_of_nonneg b2.1] at ht
  exact Int.tmod_eq_zero_of_dvd (Int.dvd_of_emod_eq_zero (by omega))
 rcases (Bool.eq_false_or_eq_true (flowB p q)).symm with hb | hb
 ·have hb2 := hb
  simp only [flowB] at hb
  simp -dsimp [he, hf, hw, hz, hb]
  and_intros
  all_goals try first | omega | exact ⟨by kernel_rfl⟩ | rfl
  refine Fin.of ?_
  simp [hb2]
 have hb2 := hb
 simp only [flowB] at hb
 by_cases hlen : U.cr.length = V.cr.length
 rotate_left
 ·have hne : ¬ U.cr = V.cr := fun h => hlen (by rw [h])
  have hlz : ¬ (U.cr.length : Int) = V.cr.length := by omega
  simp -dsimp [he, hf, hw, hz, hb, hlz]
  and_intros
  all_goals try first | omega | exact ⟨by kernel_rfl⟩ | rfl
  refine Fin.of ?_
  simp [hne]
 simp -dsimp [he, hf, hw, hz, hb, hlen]
 and_intros
 all_goals try first | omega | exact ⟨by kernel_rfl⟩ | rfl
 refine ALoop.of [] (fun k => k==0||k==1||k==2||k==3||k==6||k==7||k==8||k==9||k==10||k==11||k==12||k==13||k==14||k==43||k==68||k==73||k==86) (ι := { i : Nat // i ≤ U.cr.length ∧ ∀ j, j < i → U.cr[j]? = V.cr[j]? })
  (fun z => [(Pl.o 9, It.box [.d (.sl (U.dl.map dlC)), .d (.sl (U.cr.map crC)), .d (.sl (U.ls.map lsC))]), (Pl.s 9, It.v (TV.ptr (Pl.o 9) 0)), (Pl.o 11, It.box [.d (.sl (V.dl.map dlC)), .d (.sl (V.cr.map crC)), .d (.sl (V.ls.map lsC))]), (Pl.s 11, It.v (TV.ptr (Pl.o 11) 0)), (Pl.s 14, It.v (TV.d (D.int IntKind.i64 z.1)))])
  (fun z => U.cr.length - z.1) ⟨0, by omega, fun j h => by omega⟩ ?_ ?_
 ·exact GS.to (by simp)
 ·rintro ⟨i, i1, i2⟩
  by_cases hi : i < U.cr.length
  ·have hiz : (i : Int) < U.cr.length := by omega
   have hiz2 : (i : Int) < V.cr.length := by omega
   have ga : U.cr[i]? = some U.cr[i] := List.getElem?_eq_getElem hi
   have gb : V.cr[i]? = some V.cr[i] := List.getElem?_eq_getElem (by omega)
   generalize U.cr[i] = x at ga
   generalize V.cr[i] = y at gb
   have hc : (!decide (x.1 = y.1) || (!decide (x.2.1 = y.2.1) || !decide (x.2.2 = y.2.2))) = !decide (x = y) := by
    obtain ⟨x0, x1, x2⟩ := x
    obtain ⟨y0, y1, y2⟩ := y
    simp only [Prod.mk.injEq]
    by_cases c0 : x0 = y0 <;> by_cases c1 : x1 = y1 <;> by_cases c2 : x2 = y2 <;> simp [c0, c1, c2]
   by_cases hxy : x = y
   ·simp -dsimp [hiz, hiz2, ga, gb, crC, bv, hc, hxy, wrap_i64 (n := (i : Int) + 1) (by omega) (by omega)]
    and_intros
    all_goals try first | omega | exact ⟨by kernel_rfl⟩ | rfl
    exact ⟨⟨i + 1, by omega, fun j hj => by
     by_cases e : j = i
     ·subst e; rw [ga, gb, hxy]
     ·exact i2 j (by omega)⟩, GS.to (by simp), by simp; omega⟩
   ·simp -dsimp [hiz, hiz2, ga, gb, crC, bv, hc, hxy]
    and_intros
    all_goals try first | omega | exact ⟨by kernel_rfl⟩ | rfl
    refine Fin.of ?_
    have hne : ¬ U.cr = V.cr := fun e => by
     rw [e, gb] at ga
     exact hxy (Option.some.inj ga).symm
    simp [hne]
  ·have hiz : ¬ (i : Int) < U.cr.length := by omega
   simp -dsimp [hiz]
   refine Fin.of ?_
   have : U.cr = V.cr := List.ext_getElem? fun j => by
    by_cases hj : j < i
    ·exact i2 j hj
    ·rw [List.getElem?_eq_none (by omega), List.getElem?_eq_none (by omega)]
   simp [this, hb2, ht, he, hf]
end Go.Proofs

set_option linter.unusedSimpArgs false
set_option linter.unusedVariables false
set_option maxRecDepth 100000
namespace Go.Proofs
open Go Go.Tr
theorem validLen_cases {n : Int} (h : validLen n = true) : n = 8 ∨ n = 16 ∨ n = 32 ∨ n = 64 := by
 simp [validLen] at h; omega
theorem fullB_bit' {len : Int} (hl : validLen len = true) {k : Nat} (hk : k < 64) : (fullB len).getLsbD k = decide ((k : Int) < len) := by
 have := validLen_cases hl
 rw [fullB, if_pos hl, fullN_bit hk _ (by omega)]
 congr 1
 rw [eq_iff_iff]; omega
theorem validB_of {B : BitVec 64} {len : Int} (hl : validLen len = true) (h : ∀ k < 64, B.getLsbD k = true → (k : Int) < len) : validB B len = true := by
 simp only [validB, hl, Bool.true_and, decide_eq_true_eq]
 apply BitVec.eq_of_getLsbD_eq
 intro k hk
 rw [BitVec.getLsbD_and, BitVec.getLsbD_not, fullB_bit' hl hk]
 simp only [hk, decide_true, Bool.true_and, BitVec.getLsbD_zero]
 cases hb : B.getLsbD k with
 | false => rfl
 | true => simp [h k hk hb]
theorem bitB_iff {j : Int} {k : Nat} (hk : k < 64) : (bitB j).getLsbD k = true ↔ (k : Int) = j := by
 unfold bitB
 split
 ·rename_i h
  simp; omega
 ·rename_i h
  rw [wrap_u64 (by omega) (by omega), bit_one (by omega) hk]
  simp; omega
theorem plBit_lt {id len : Int} (hl : validLen len = true) : plBit id len < len ∧ 0 ≤ plBit id len := by
 have := validLen_cases hl
 unfold plBit
 split
 ·have h1 := Int.emod_lt_of_pos (id - 1) (b := len) (by omega)
  have h2 := Int.emod_nonneg (id - 1) (b := len) (by omega)
  omega
 ·omega
theorem plSet_le {id len : Int} (hl : validLen len = true) : 0 ≤ plSet id len ∧ plSet id len ≤ 31 := by
 have := validLen_cases hl
 unfold plSet
 split
 ·rename_i h
  simp only [Bool.and_eq_true, inB, decide_eq_true_eq] at h
  have h1 : 0 ≤ (id - 1) / len := Int.ediv_nonneg (by omega) (by omega)
  have h2 : (id - 1) / len ≤ (id - 1) / 8 := by
   rcases this with rfl | rfl | rfl | rfl <;> omega
  omega
 ·omega
theorem forL_bits {len set : Int} (hl : validLen len = true) : ∀ (es : List Ed) (T : Tp) (B : BitVec 64), (∀ k < 64, B.getLsbD k = true → (k : Int) < len) → ∀ k < 64, (forL len set es T B).1.getLsbD k = true → (k : Int) < len
 | [], _, _, h => h
 | e :: es, T, B, h => by
   rw [forL]
   split
   ·split
    ·refine forL_bits hl es _ _ fun k hk hb => ?_
     rcases (or_bit B (bitB (plBit e.id len))).1 hb with hb | hb
     ·exact h k hk hb
     ·have := (bitB_iff hk).1 hb
      have := (plBit_lt (id := e.id) hl).1
      omega
    ·exact forL_bits hl es _ _ h
   ·exact forL_bits hl es _ _ h
theorem gBits_full (T : Tp) {len : Int} (hl : validLen len = true) : ∀ k < 64, (gBits T len).1.getLsbD k = true → (k : Int) < len := fun k hk hb => by
 have key : ∀ X : BitVec 64, (X &&& fullB len).getLsbD k = true → (k : Int) < len := fun X hX => by
  rw [BitVec.getLsbD_and, Bool.and_eq_true, fullB_bit' hl hk] at hX
  simpa using hX.2
 unfold gBits at hb
 dsimp only at hb
 split at hb
 ·simp at hb
 split at hb
 ·exact key _ hb
 split at hb
 ·exact key _ hb
 ·exact key _ hb
theorem ok_iff (p : Pk) : p.ok = true ↔ (1 ≤ p.mode ∧ p.mode ≤ 3) ∧ (0 ≤ p.subd ∧ p.subd ≤ 7) ∧ (0 ≤ p.set ∧ p.set ≤ 31) ∧ validB p.bits p.len = true ∧ (0 ≤ p.ttl ∧ p.ttl ≤ 63) ∧ (0 ≤ p.ent ∧ p.ent ≤ 1023) ∧ (0 ≤ p.ing ∧ p.ing ≤ 256) ∧ (0 ≤ p.proto ∧ p.proto ≤ 7) ∧ p.pay.size ≤ 64 := by
 simp [Pk.ok, insB, and_assoc]
structure ForV (p : Pn) (q : Pk) : Prop where
 ok : q.ok = true
 mode : q.mode = 1
 subd : q.subd = p.subd
 len : q.len = p.len
theorem for_ok {p : Pn} {q : Pk} (hs : 0 ≤ p.subd ∧ p.subd ≤ 7) (hl : validLen p.len = true) (hq : (0 ≤ q.ttl ∧ q.ttl ≤ 63) ∧ (0 ≤ q.ent ∧ q.ent ≤ 1023) ∧ (0 ≤ q.ing ∧ q.ing ≤ 256) ∧ (0 ≤ q.proto ∧ q.proto ≤ 7) ∧ q.pay.size ≤ 64) {set : Int} (hset : 0 ≤ set ∧ set ≤ 31)
  {B : BitVec 64} (hB : ∀ k < 64, B.getLsbD k = true → (k : Int) < p.len) : ForV p (q.for p.subd p.len set B) := by
 have hv := validB_of hl hB
 exact ⟨(ok_iff _).2 ⟨⟨by show (1 : Int) ≤ 1; omega, by show (1 : Int) ≤ 3; omega⟩, hs, hset, hv, hq.1, hq.2.1, hq.2.2.1, hq.2.2.2.1, hq.2.2.2.2⟩, rfl, rfl, rfl⟩
theorem gPacket_zero (T : Tp) : gPacket T 0 = gPk0 T := by
 simp [gPacket]
theorem gFor_valid (T : Tp) {p : Pn} (hs : 0 ≤ p.subd ∧ p.subd ≤ 7) (hl : validLen p.len = true) : ForV p (gFor T p).1 := by
 have hpk : ∀ q, q = (gPacket T 0).1 → (0 ≤ q.ttl ∧ q.ttl ≤ 63) ∧ (0 ≤ q.ent ∧ q.ent ≤ 1023) ∧ (0 ≤ q.ing ∧ q.ing ≤ 256) ∧ (0 ≤ q.proto ∧ q.proto ≤ 7) ∧ q.pay.size ≤ 64 := fun q hq => by
  rw [gPacket_zero] at hq
  obtain ⟨L, m, d, s, t, e, i, pr, y, B, w, T', h1, _, h2, h3, h4, h5, h6, _⟩ := gPk0_parts T
  rw [h1] at hq
  subst hq
  exact ⟨h2, h3, h4, h5, by simp only; omega⟩
 have hset : ∀ T', 0 ≤ (forS T' p).1 ∧ (forS T' p).1 ≤ 31 := fun T' => by
  unfold forS
  split
  ·simp
  ·exact plSet_le hl
 unfold gFor
 simp only
 have hq := hpk _ rfl
 have hb := forL_bits (set := (forS (gPacket T 0).2 p).1) hl p.es (forS (gPacket T 0).2 p).2 0#64 (by simp)
 split
 ·refine for_ok hs hl hq (hset _) fun k hk hk2 => ?_
  rcases (or_bit _ _).1 hk2 with hk2 | hk2
  ·exact hb k hk hk2
  ·exact gBits_full _ hl k hk hk2
 ·exact for_ok hs hl hq (hset _) hb
theorem TabV.fit {p : Pn} {rs : List Int} {l : List Tb} (h : TabV p rs l) {q : Pk} (hq : ForV p q) : FitL l q :=
 ⟨hq.ok, fun b hb => ⟨h.ck b hb, (h.sd b hb).1.trans hq.subd.symm, (h.sd b hb).2.trans hq.len.symm, hq.ok, by rw [hq.mode]; decide⟩⟩
theorem TabV.run {p : Pn} {rs : List Int} {l : List Tb} (h : TabV p rs l) {q : Pk} (hq : ForV p q) {r : Int} (hr : r ∈ rs) : runR l q r = (runG l (wt q) [(r, q)] tr0, 0) ∧ (findT l r).isSome := by
 have hs := (h.rs r).2 hr
 refine ⟨?_, hs⟩
 obtain ⟨b, hb⟩ := Option.isSome_iff_exists.1 hs
 have hsd := h.sd b (findT_mem hb).1
 unfold runR
 rw [if_neg (by simp [h.all, hq.ok]), hb]
 simp only
 rw [if_neg (by rw [hq.mode]; decide), if_neg (by rw [hsd.1, hsd.2, hq.subd, hq.len]; simp)]
theorem TabV.sm {p : Pn} {rs : List Int} {l : List Tb} (h : TabV p rs l) : SmL l := ⟨by have := h.n; omega, fun b hb => chk_sm (h.ck b hb)⟩
end Go.Proofs

set_option linter.unusedSimpArgs false
set_option maxRecDepth 100000
set_option maxHeartbeats 4000000
namespace Go.Proofs
open Go Go.Tr
end Go.Proofs

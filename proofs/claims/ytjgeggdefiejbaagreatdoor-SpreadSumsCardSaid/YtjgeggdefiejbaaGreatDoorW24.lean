/-
  What functions of the program compute, stated as contracts over plain data; the conditions of each stand in its own statement.
-/
import Derived.Test.YtjgeggdefiejbaaGreatDoorW20
import Derived.Test.YtjgeggdefiejbaaGreatDoorW23
set_option linter.unusedSimpArgs false
namespace Go.Proofs
open Go Go.Tr
theorem atP_c (set bit len : Int) : Contract Tryz.prog 82 [.d (.int .i64 set), .d (.int .i64 bit), .d (.int .i64 len)] [] (atT set bit len) [] [] := by
 refine contract_of Tryz.func82 rfl (fun E0 => ?_)
 refine awp.sound (g := .mk) (ow := []) (kp := (fun k => k==0||k==1||k==2||k==6||k==7||k==8||k==23||k==31)) ?_
 rw [Tryz.ntmps82]
 simp -dsimp
 refine ACall.of (validLength_c2 len) [] 0 ?_
 rcases (Bool.eq_false_or_eq_true (validLen len)).symm with a1 | a1
 ·simp -dsimp [a1]
  try refine ⟨?_, ⟨by kernel_rfl⟩⟩
  refine Fin.of ?_
  simp [atT, atB, a1]
 ·have hl : len = 8 ∨ len = 16 ∨ len = 32 ∨ len = 64 := by simp [validLen] at a1; omega
  simp -dsimp [a1, wrap_i64 (n := len - 1) (by omega) (by omega)]
  refine ACall.of (in10_c bit 0 (len - 1)) [] 0 ?_
  rcases (Bool.eq_false_or_eq_true (inB bit 0 (len - 1))).symm with a2 | a2
  ·simp -dsimp [a1, a2]
   try refine ⟨?_, ⟨by kernel_rfl⟩⟩
   refine Fin.of ?_
   simp [atT, atB, a1, a2]
  ·simp -dsimp [a1, a2]
   refine ACall.of (in10_c set 0 31) [] 0 ?_
   rcases (Bool.eq_false_or_eq_true (inB set 0 31)).symm with a3 | a3
   ·simp -dsimp [a1, a2, a3]
    try refine ⟨?_, ⟨by kernel_rfl⟩⟩
    refine Fin.of ?_
    simp [atT, atB, a1, a2, a3]
   ·have b2 : 0 ≤ bit ∧ bit ≤ len - 1 := by simpa [inB] using a2
    have b3 : 0 ≤ set ∧ set ≤ 31 := by simpa [inB] using a3
    have b4 : 0 ≤ set * len ∧ set * len ≤ 1984 := by rcases hl with rfl | rfl | rfl | rfl <;> omega
    by_cases a4 : set * len + bit + 1 ≤ 256
    ·have a5 : ¬ 256 < set * len + bit + 1 := by omega
     simp -dsimp [a1, a2, a3, a4, a5, wrap_i64 (n := set * len) (by omega) (by omega), wrap_i64 (n := set * len + bit) (by omega) (by omega), wrap_i64 (n := set * len + bit + 1) (by omega) (by omega)]
     try refine ⟨?_, ⟨by kernel_rfl⟩⟩
     refine Fin.of ?_
     simp [atT, atB, a1, a2, a3, a4]
    ·have a5 : 256 < set * len + bit + 1 := by omega
     simp -dsimp [a1, a2, a3, a4, a5, wrap_i64 (n := set * len) (by omega) (by omega), wrap_i64 (n := set * len + bit) (by omega) (by omega), wrap_i64 (n := set * len + bit + 1) (by omega) (by omega)]
     try refine ⟨?_, ⟨by kernel_rfl⟩⟩
     refine Fin.of ?_
     simp [atT, atB, a1, a2, a3, a4]
def plnP (p : Pk) : Int := if p.ok = true then p.ent % 8 else 0
theorem ok_ent {p : Pk} (h : p.ok = true) : 0 ≤ p.ent ∧ p.ent ≤ 1023 := by
 simp only [Pk.ok, insB, Bool.and_eq_true, decide_eq_true_eq] at h
 omega
theorem plane_c (p : Pk) : Contract Tryz.prog 161 [pkT p] [] (.d (.int .i64 (plnP p))) [] [] := by
 refine contract_of Tryz.func161 rfl (fun E0 => ?_)
 refine awp.sound (g := .mk) (ow := []) (kp := (fun k => k==0||k==1||k==2||k==5)) ?_
 rw [Tryz.ntmps161]
 have hv := valid_c2 p
 simp only [pkT, Pk.cs, List.map] at hv
 simp -dsimp [pkT, Pk.cs]
 refine ACall.of hv [] 0 ?_
 rcases (Bool.eq_false_or_eq_true p.ok).symm with a1 | a1
 ·simp -dsimp [a1]
  refine Fin.of ?_
  simp [plnP, a1]
 ·have h := ok_ent a1
  simp -dsimp [a1, wrap_i64 (n := p.ent % 8) (by omega) (by omega), Int.tmod_eq_emod_of_nonneg h.1]
  refine Fin.of ?_
  simp [plnP, a1]
def pkMask (p : Pk) (m : BitVec 64) : Pk := ⟨p.mode, p.subd, p.set, p.len, p.ttl - 1, p.ent, p.ing, p.proto, p.bits &&& m, p.pay⟩
def pk0 : Pk := ⟨0, 0, 0, 0, 0, 0, 0, 0, 0#64, ⟨#[]⟩⟩
def pkmR (p : Pk) (m : BitVec 64) : Pk × Bool := if p.ok = true ∧ p.ttl ≠ 0 ∧ p.bits &&& m ≠ 0#64 then (pkMask p m, true) else (pk0, false)
theorem ok_ttl {p : Pk} (h : p.ok = true) : 0 ≤ p.ttl ∧ p.ttl ≤ 63 := by
 simp only [Pk.ok, insB, Bool.and_eq_true, decide_eq_true_eq] at h
 omega
theorem masked_c (p : Pk) (m : BitVec 64) : Contract Tryz.prog 164 [pkT p, .d (bv m)] [] (.tup [pkT (pkmR p m).1, .d (.bool (pkmR p m).2)]) [] [] := by
 refine contract_of Tryz.func164 rfl (fun E0 => ?_)
 refine awp.sound (g := .mk) (ow := []) (kp := (fun k => k==0||k==1||k==2||k==4||k==5||k==20)) ?_
 rw [Tryz.ntmps164]
 have hv := valid_c2 p
 simp only [pkT, Pk.cs, List.map, bv] at hv
 simp -dsimp [pkT, Pk.cs, bv]
 refine ACall.of hv [] 0 ?_
 rcases (Bool.eq_false_or_eq_true p.ok).symm with a1 | a1
 ·simp -dsimp [a1]
  refine Fin.of ?_
  simp [pkmR, a1, pk0, pkT, Pk.cs, bv]
 ·have h := ok_ttl a1
  by_cases a2 : p.ttl = 0
  ·simp -dsimp [a1, a2]
   refine Fin.of ?_
   simp [pkmR, a2, pk0, pkT, Pk.cs, bv]
  by_cases a3 : p.bits &&& m = 0#64
  ·simp -dsimp [a1, a2, a3]
   refine Fin.of ?_
   simp [pkmR, a3, pk0, pkT, Pk.cs, bv]
  simp -dsimp [a1, a2, a3, wrap_i64 (n := p.ttl - 1) (by omega) (by omega)]
  refine Fin.of ?_
  simp [pkmR, a1, a2, a3, pkMask, pkT, Pk.cs, bv]
def onlyR (p : Pk) (k : Int) : Pk := if p.ok = true ∧ 0 ≤ k ∧ k ≤ 63 ∧ p.bits.getLsbD k.toNat = true then ⟨p.mode, p.subd, p.set, p.len, p.ttl, p.ent, p.ing, p.proto, 1#64 <<< k.toNat, p.pay⟩ else pk0
theorem only_c (p : Pk) (k : Int) : Contract Tryz.prog 166 [pkT p, .d (.int .i64 k)] [] (pkT (onlyR p k)) [] [] := by
 refine contract_of Tryz.func166 rfl (fun E0 => ?_)
 refine awp.sound (g := .mk) (ow := []) (kp := (fun k => k==0||k==1||k==2||k==4||k==23)) ?_
 rw [Tryz.ntmps166]
 have hv := valid_c2 p
 simp only [pkT, Pk.cs, List.map, bv] at hv
 simp -dsimp [pkT, Pk.cs, bv]
 refine ACall.of hv [] 0 ?_
 rcases (Bool.eq_false_or_eq_true p.ok).symm with a1 | a1
 ·simp -dsimp [a1]
  refine Fin.of ?_
  simp [onlyR, a1, pk0, pkT, Pk.cs, bv]
 ·by_cases a2 : k < 0
  ·simp -dsimp [a1, a2]
   refine Fin.of ?_
   have : ¬ 0 ≤ k := by omega
   simp [onlyR, this, pk0, pkT, Pk.cs, bv]
  by_cases a3 : 63 < k
  ·simp -dsimp [a1, a2, a3]
   refine Fin.of ?_
   have : ¬ k ≤ 63 := by omega
   simp [onlyR, this, pk0, pkT, Pk.cs, bv]
  have a4 : 0 ≤ k := by omega
  have a5 : k ≤ 63 := by omega
  simp -dsimp [a1, a2, a3, a4]
  have hb : (p.bits >>> k.toNat &&& 1#64 = 0#64) ↔ p.bits.getLsbD k.toNat = false := by
   rw [BitVec.and_one_eq_setWidth_ofBool_getLsbD, BitVec.getLsbD_ushiftRight, Nat.add_zero]
   cases p.bits.getLsbD k.toNat <;> decide
  refine AIf.dec (fun g => ?_) (fun g => ?_)
  ·simp -dsimp
   refine Fin.of ?_
   simp [onlyR, hb.1 g, pk0, pkT, Pk.cs, bv]
  ·have g' : p.bits.getLsbD k.toNat = true := by
    cases h : p.bits.getLsbD k.toNat with
    | true => rfl
    | false => exact absurd (by simpa using hb.2 h) g
   simp -dsimp [a4]
   refine Fin.of ?_
   simp [onlyR, a1, a4, a5, g', pkT, Pk.cs, bv]
structure Out where
 loc : BitVec 64
 lost : BitVec 64
 cps : List (Int × Pk)
def out0 : Out := ⟨0#64, 0#64, []⟩
def idAt (p : Pk) (k : Nat) : Int := if atB p.set k p.len = true then p.set * p.len + k + 1 else 0
def Pk.setB (p : Pk) (R : BitVec 64) : Pk := ⟨p.mode, p.subd, p.set, p.len, p.ttl, p.ent, p.ing, p.proto, R, p.pay⟩
def hopAt (b : Tb) (p : Pk) (k : Nat) : Int := nextV b (idAt p k) (plnP p)
def togR (b : Tb) (p : Pk) (R : BitVec 64) (n : Int) : BitVec 64 := R &&& maskP b (plnP p) p.set n
def fwdO (b : Tb) (p : Pk) (o : Out) (R : BitVec 64) : Out :=
 if hopAt b p (tz R) = 0 then ⟨o.loc, o.lost ||| 1#64 <<< tz R, o.cps⟩
 else if hopAt b p (tz R) = b.r then ⟨o.loc ||| 1#64 <<< tz R, o.lost, o.cps⟩
 else if (pkmR (p.setB R) (togR b p R (hopAt b p (tz R)))).2 = true then ⟨o.loc, o.lost, o.cps ++ [(hopAt b p (tz R), (pkmR (p.setB R) (togR b p R (hopAt b p (tz R)))).1)]⟩
 else ⟨o.loc, o.lost ||| togR b p R (hopAt b p (tz R)), o.cps⟩
def fwdM (b : Tb) (p : Pk) (R : BitVec 64) : BitVec 64 :=
 if hopAt b p (tz R) = 0 ∨ hopAt b p (tz R) = b.r then 1#64 <<< tz R else togR b p R (hopAt b p (tz R))
def fwdG (b : Tb) (p : Pk) : Nat → Out → BitVec 64 → Out
 | 0, o, _ => o
 | n + 1, o, R => if R = 0#64 then o else fwdG b p n (fwdO b p o R) (R &&& ~~~ fwdM b p R)
def fwdV (b : Tb) (p : Pk) : Out := fwdG b p 64 out0 p.bits
def fwdR (b : Tb) (p : Pk) : Out × Int :=
 if chk b ≠ 0 ∨ p.ok = false then (out0, 1) else if p.mode = 2 then (out0, 7) else if b.sd ≠ p.subd ∨ b.len ≠ p.len then (out0, 8) else (fwdV b p, 0)
theorem pop_less {R m : BitVec 64} {k : Nat} (hk : k < 64) (h1 : R.getLsbD k = true) (h2 : m.getLsbD k = true) : (bitsL (R &&& ~~~ m)).length < (bitsL R).length := by
 have e : bitsL (R &&& ~~~ m) = (bitsL R).filter fun i => !m.getLsbD i := by
  unfold bitsL
  rw [List.filter_filter]
  apply List.filter_congr
  intro i hi
  have : i < 64 := by simpa using hi
  rw [BitVec.getLsbD_and, BitVec.getLsbD_not]
  simp [this, Bool.and_comm]
 rw [e]
 refine List.length_filter_lt_length_iff_exists.2 ⟨k, ?_, by simp [h2]⟩
 simp [bitsL, hk, h1]
theorem pop_zero {R : BitVec 64} (h : (bitsL R).length = 0) : R = 0#64 := Classical.byContradiction fun g => by
 rw [bitsL_step g] at h
 simp at h
theorem ok_bits {p : Pk} (h : p.ok = true) : validLen p.len = true ∧ ∀ k < 64, p.bits.getLsbD k = true → (k : Int) < p.len := by
 simp only [Pk.ok, Bool.and_eq_true, validB, decide_eq_true_eq] at h
 obtain ⟨_, _, _, _, ⟨h1, h2⟩, _⟩ := h
 refine ⟨h1, fun k hk hb => ?_⟩
 have hl : p.len = 8 ∨ p.len = 16 ∨ p.len = 32 ∨ p.len = 64 := by simp [validLen] at h1; omega
 have h3 := congrArg (fun z => z.getLsbD k) h2
 simp only [BitVec.getLsbD_and, BitVec.getLsbD_not, hb, hk, decide_true, Bool.true_and, BitVec.getLsbD_zero, Bool.not_eq_false', fullB, h1, if_true] at h3
 rw [fullN_bit hk _ (by omega)] at h3
 have := of_decide_eq_true h3
 omega
theorem hop_zero {b : Tb} (h : chk b = 0) (p : Int) : hopB b 0 p = 0 := by
 have : rowOf b 0 = none := by
  rw [rowOf, List.find?_eq_none]
  intro x hx
  have := (chk_next h x hx).1
  simp
  omega
 simp [hopB, this, hopR]
theorem hop_range {b : Tb} (h : chk b = 0) {id p : Int} (h0 : hopB b id p ≠ 0) : 1 ≤ hopB b id p ∧ hopB b id p ≤ 99 := by
 unfold hopB at h0 ⊢
 have hm := hopR_mem h0
 cases hr : rowOf b id with
 | none => rw [hr] at h0; exact absurd (by simp [hopR]) h0
 | some x =>
   simp only [hr, Option.getD_some] at hm ⊢
   exact (chk_next h x (List.mem_of_find?_eq_some hr)).2 _ hm
theorem fwdM_bit {b : Tb} {p : Pk} (hc : chk b = 0) (hp : p.ok = true) (hl : b.len = p.len) {R : BitVec 64} (hR : ∀ k < 64, R.getLsbD k = true → p.bits.getLsbD k = true) (h0 : R ≠ 0#64) : (fwdM b p R).getLsbD (tz R) = true := by
 obtain ⟨t1, t2, _⟩ := tz_spec h0
 unfold fwdM
 split
 ·rw [bit_one t1 t1]; simp
 ·rename_i hn
  have hn0 : hopAt b p (tz R) ≠ 0 := fun e => hn (.inl e)
  have hk : ((tz R : Nat) : Int) < p.len := (ok_bits hp).2 _ t1 (hR _ t1 t2)
  have hpl : 0 ≤ plnP p ∧ plnP p ≤ 7 := by unfold plnP; split <;> omega
  have hs : 0 ≤ p.set ∧ p.set ≤ 31 := by
   simp only [Pk.ok, insB, Bool.and_eq_true, decide_eq_true_eq] at hp
   omega
  have v0 : valB b (plnP p) 0 = true := valB_iff.2 ⟨hc, hpl, by omega, by omega⟩
  have vs : valB b (plnP p) p.set = true := valB_iff.2 ⟨hc, hpl, hs⟩
  have ha : atB p.set (tz R) p.len = true := Classical.byContradiction fun g => hn0 (by
   rw [hopAt, idAt, if_neg g, nextV, if_pos v0]
   exact hop_zero hc _)
  have hh : hopAt b p (tz R) = hopB b (p.set * p.len + tz R + 1) (plnP p) := by rw [hopAt, idAt, if_pos ha, nextV, if_pos v0]
  have hr := hop_range hc (hh ▸ hn0)
  rw [togR, BitVec.getLsbD_and, t2, Bool.true_and, maskP_eq, maskR, if_pos ⟨vs, by rw [hh]; exact hr⟩]
  have hlen : b.len ≤ 64 := by
   have := (ok_bits hp).1
   simp [validLen] at this
   omega
  rw [bitsR_bit b _ _ _ t1 _ (by omega)]
  exact ⟨by omega, by rw [hl]; exact ha, by rw [hh]; omega, by rw [hl, hh]⟩
set_option maxRecDepth 100000
set_option maxHeartbeats 8000000
def cpC (x : Int × Pk) : List D := .int .i64 x.1 :: .sl [] :: x.2.cs
def outT (o : Out) : TV := .agg [.d (bv o.loc), .d (bv o.lost), .d (.sl (o.cps.map cpC))]
theorem fpacket_c (b : Tb) (hb : b.Sm) (p : Pk) : Contract Tryz.prog 129 [tblT b, pkT p] [] (.tup [outT (fwdR b p).1, .d (.int .i64 (fwdR b p).2)]) [] [] := by
 have hck := tcheck_c b hb.1 hb.2
 have hv := valid_c2 p
 have hpl := plane_c p
 simp only [tblT, pkT, Pk.cs, List.map] at hck hv hpl
 refine contract_of Tryz.func129 rfl (fun E0 => ?_)
 refine awp.sound (g := .mk) (ow := []) (kp := (fun k => k==0||k==1||k==2||k==3||k==4||k==5||k==6||k==7||k==8||k==9||k==10||k==11||k==13||k==14||k==15||k==16||k==17||k==18||k==28||k==33||k==52||k==70||k==71||k==81||k==110)) ?_
 rw [Tryz.ntmps129]
 simp -dsimp [tblT, pkT, Pk.cs]
 try refine ⟨?_, ⟨by kernel_rfl⟩⟩
 refine ACall.of hck [] 0 ?_
 by_cases h1 : chk b = 0
 ·simp -dsimp [h1]
  try refine ⟨?_, ⟨by kernel_rfl⟩⟩
  refine ACall.of hv [] 0 ?_
  rcases (Bool.eq_false_or_eq_true p.ok).symm with h2 | h2
  ·simp -dsimp [h2]
   try refine ⟨?_, ⟨by kernel_rfl⟩⟩
   refine Fin.box (.o 4) rfl ?_
   simp -dsimp
   refine Fin.of ?_
   simp [fwdR, out0, outT, bv, h1, h2]
  ·by_cases h3 : p.mode = 2
   ·simp -dsimp [h2, eq_true h3]
    try refine ⟨?_, ⟨by kernel_rfl⟩⟩
    refine Fin.box (.o 4) rfl ?_
    simp -dsimp
    refine Fin.of ?_
    simp [fwdR, out0, outT, bv, h1, h2, h3]
   ·by_cases h4 : b.sd = p.subd
    ·by_cases h5 : b.len = p.len
     ·simp -dsimp [h2, h3, eq_true h4, eq_true h5]
      try refine ⟨?_, ⟨by kernel_rfl⟩⟩
      refine ACall.of hpl [] 0 ?_
      simp -dsimp
      try refine ⟨?_, ⟨by kernel_rfl⟩⟩
      refine ALoop.of [] (fun k => k==0||k==1||k==2||k==3||k==4||k==5||k==6||k==7||k==8||k==9||k==10||k==11||k==13||k==14||k==15||k==16||k==17||k==18||k==28||k==33||k==52||k==70||k==71||k==81||k==110) (ι := { z : Nat × Out × BitVec 64 // fwdV b p = fwdG b p z.1 z.2.1 z.2.2 ∧ (bitsL z.2.2).length ≤ z.1 ∧ z.2.1.cps.length + z.1 ≤ 64 ∧ ∀ k < 64, z.2.2.getLsbD k = true → p.bits.getLsbD k = true })
       (fun z => [(Pl.o 2, It.box [TV.d (.int .i64 b.r), TV.d (.int .i64 b.sd), TV.d (.int .i64 b.len), TV.d (rwsD b.rows)]), (Pl.s 2, It.v (.ptr (Pl.o 2) 0)),
        (Pl.o 3, It.box (p.cs.map .d)), (Pl.s 3, It.v (.ptr (Pl.o 3) 0)),
        (Pl.o 4, It.box [TV.d (.int IntKind.u64 0), TV.d (.int IntKind.u64 0), TV.c (Value.slice none 0 0)]), (Pl.s 4, It.v (.ptr (Pl.o 4) 0)), (Pl.s 5, It.v (.d (.int .i64 0))),
        (Pl.s 6, It.v (.d (.int .i64 (plnP p)))),
        (Pl.o 7, It.box [TV.d (.int IntKind.u64 (tn z.1.2.1.loc)), TV.d (.int IntKind.u64 (tn z.1.2.1.lost)), TV.oref 50 z.1.2.1.cps.length]), (Pl.s 7, It.v (.ptr (Pl.o 7) 0)),
        (Pl.o 50, It.row 167 12 (dd (z.1.2.1.cps.map cpC)) false), (Pl.s 8, It.v (.d (.int IntKind.u64 (tn z.1.2.2))))])
       (fun z => z.1.1) ⟨(64, out0, p.bits), rfl, bitsL_len _, by simp [out0], fun _ _ h => h⟩ ?_ ?_
      ·exact GS.ownB' (.o 7) 2 50 (cs := [TV.d (.int IntKind.u64 0), TV.d (.int IntKind.u64 0), TV.c (Value.slice none 0 0)]) 167 12 (by simp) (by simp) (by simp) (by simp) (by simp [out0, Pk.cs, bv])
      ·rintro ⟨⟨n, o, R⟩, i1, i2, i3, i4⟩
       simp only at i1 i2 i3 i4
       by_cases h0 : R = 0#64
       ·subst h0
        have e : fwdV b p = o := by rw [i1]; cases n <;> simp [fwdG]
        have e2 : fwdR b p = (o, 0) := by simp [fwdR, h1, h2, h3, h4, h5, e]
        rw [e2]
        simp -dsimp
        try refine ⟨?_, ⟨by kernel_rfl⟩⟩
        refine Fin.box (.o 4) rfl ?_
        simp -dsimp
        refine Fin.of ?_
        simp [outT, bv]
       ·have hf := first_c R
        have e : firstI R = (tz R : Int) := by simp [firstI, h0]
        rw [e] at hf
        simp only [bv] at hf
        obtain ⟨t1, t2, t3⟩ := tz_spec h0
        have hat := atP_c p.set (tz R) p.len
        simp only [atT] at hat
        have hnx := mnext_c b hb (idAt p (tz R)) (plnP p)
        have hho : nextV b (idAt p (tz R)) (plnP p) = hopAt b p (tz R) := rfl
        rw [hho] at hnx
        have hid : (if atB p.set (tz R) p.len = true then p.set * p.len + (tz R : Int) + 1 else 0) = idAt p (tz R) := rfl
        simp only [hid] at hat
        simp only [tblT] at hnx
        simp -dsimp [h0]
        try refine ⟨?_, ⟨by kernel_rfl⟩⟩
        refine ACall.of hf [] 0 ?_
        have hmb := fwdM_bit h1 h2 h5 i4 h0
        have hpop := pop_less t1 t2 hmb
        have hmk := mask_c b hb (plnP p) p.set (hopAt b p (tz R))
        have hto : togR b p R (hopAt b p (tz R)) = R &&& maskP b (plnP p) p.set (hopAt b p (tz R)) := rfl
        have hms := masked_c (p.setB R) (togR b p R (hopAt b p (tz R)))
        simp only [tblT, bv] at hmk
        obtain ⟨Q, hQ⟩ : ∃ Q, pkmR (p.setB R) (togR b p R (hopAt b p (tz R))) = Q := ⟨_, rfl⟩
        rw [hQ] at hms
        simp only [pkT, Pk.cs, Pk.setB, List.map, bv] at hms
        obtain ⟨n, rfl⟩ : ∃ j, n = j + 1 := ⟨n - 1, by omega⟩
        have hstep : fwdV b p = fwdG b p n (fwdO b p o R) (R &&& ~~~ fwdM b p R) := by rw [i1, fwdG, if_neg h0]
        have hsub : ∀ k < 64, (R &&& ~~~ fwdM b p R).getLsbD k = true → p.bits.getLsbD k = true := fun k hk hb => by
         rw [BitVec.getLsbD_and] at hb
         simp only [Bool.and_eq_true] at hb
         exact i4 k hk hb.1
        simp -dsimp [h0, Pk.cs]
        try refine ⟨?_, ⟨by kernel_rfl⟩⟩
        refine ACall.of hat [] 0 ?_
        simp -dsimp
        try refine ⟨?_, ⟨by kernel_rfl⟩⟩
        refine ACall.of hnx [] 0 ?_
        by_cases c0 : hopAt b p (tz R) = 0
        ·have eM : fwdM b p R = 1#64 <<< tz R := by rw [fwdM, if_pos (.inl c0)]
         have eO : fwdO b p o R = ⟨o.loc, o.lost ||| 1#64 <<< tz R, o.cps⟩ := by rw [fwdO, if_pos c0]
         rw [eM] at hpop hsub hstep
         rw [eO] at hstep
         simp -dsimp [eq_true c0]
         try refine ⟨?_, ⟨by kernel_rfl⟩⟩
         exact ⟨⟨(n, ⟨o.loc, o.lost ||| 1#64 <<< tz R, o.cps⟩, R &&& ~~~ (1#64 <<< tz R)), hstep, by simp only; omega, by simp only; omega, hsub⟩, GS.to (by simp [Pk.cs, bv]), by simp⟩
        by_cases c1 : hopAt b p (tz R) = b.r
        ·have eM : fwdM b p R = 1#64 <<< tz R := by rw [fwdM, if_pos (.inr c1)]
         have eO : fwdO b p o R = ⟨o.loc ||| 1#64 <<< tz R, o.lost, o.cps⟩ := by rw [fwdO, if_neg c0, if_pos c1]
         rw [eM] at hpop hsub hstep
         rw [eO] at hstep
         rw [c1] at c0 ⊢
         simp -dsimp [c0]
         try refine ⟨?_, ⟨by kernel_rfl⟩⟩
         exact ⟨⟨(n, ⟨o.loc ||| 1#64 <<< tz R, o.lost, o.cps⟩, R &&& ~~~ (1#64 <<< tz R)), hstep, by simp only; omega, by simp only; omega, hsub⟩, GS.to (by simp [Pk.cs, bv]), by simp⟩
        have eM : fwdM b p R = togR b p R (hopAt b p (tz R)) := by rw [fwdM, if_neg (fun h => h.elim c0 c1)]
        rw [eM] at hpop hsub hstep
        simp -dsimp [c0, c1]
        try refine ⟨?_, ⟨by kernel_rfl⟩⟩
        refine ACall.of hmk [] 0 ?_
        simp -dsimp [← hto]
        try refine ⟨?_, ⟨by kernel_rfl⟩⟩
        have eO : fwdO b p o R = if (pkmR (p.setB R) (togR b p R (hopAt b p (tz R)))).2 = true then ⟨o.loc, o.lost, o.cps ++ [(hopAt b p (tz R), (pkmR (p.setB R) (togR b p R (hopAt b p (tz R)))).1)]⟩ else ⟨o.loc, o.lost ||| togR b p R (hopAt b p (tz R)), o.cps⟩ := by
         rw [fwdO, if_neg c0, if_neg c1]
        rw [eO] at hstep
        rw [hQ] at hstep
        clear hQ eO
        generalize togR b p R (hopAt b p (tz R)) = M at hms hstep hpop hsub ⊢
        refine ACall.of hms [] 0 ?_
        rcases (Bool.eq_false_or_eq_true Q.2).symm with q1 | q1
        ·rw [if_neg (by rw [q1]; simp)] at hstep
         simp -dsimp [q1]
         try refine ⟨?_, ⟨by kernel_rfl⟩⟩
         exact ⟨⟨(n, ⟨o.loc, o.lost ||| M, o.cps⟩, R &&& ~~~ M), hstep, by simp only; omega, by simp only; omega, hsub⟩, GS.to (by simp [Pk.cs, bv]), by simp⟩
        ·rw [if_pos q1] at hstep
         simp -dsimp [q1]
         and_intros
         all_goals try first | omega | exact ⟨by kernel_rfl⟩
         exact ⟨⟨(n, ⟨o.loc, o.lost, o.cps ++ [(hopAt b p (tz R), Q.1)]⟩, R &&& ~~~ M), hstep, by simp only; omega, by simp only [List.length_append, List.length_cons, List.length_nil]; omega, hsub⟩, GS.to (by simp [Pk.cs, bv, cpC]), by simp⟩
     ·simp -dsimp [h2, h3, eq_true h4, h5]
      try refine ⟨?_, ⟨by kernel_rfl⟩⟩
      refine Fin.box (.o 4) rfl ?_
      simp -dsimp
      refine Fin.of ?_
      simp [fwdR, out0, outT, bv, h1, h2, h3, h4, h5]
    ·simp -dsimp [h2, h3, h4]
     try refine ⟨?_, ⟨by kernel_rfl⟩⟩
     refine Fin.box (.o 4) rfl ?_
     simp -dsimp
     refine Fin.of ?_
     simp [fwdR, out0, outT, bv, h1, h2, h3, h4]
 ·simp -dsimp [h1]
  try refine ⟨?_, ⟨by kernel_rfl⟩⟩
  refine Fin.box (.o 4) rfl ?_
  simp -dsimp
  refine Fin.of ?_
  simp [fwdR, out0, outT, bv, h1]
def dlC (x : Int × Pk) : List D := .int .i64 x.1 :: x.2.cs
def locV (r : Int) (o : Out) (p : Pk) : List (Int × Pk) := (bitsI o.loc).map fun k => (r, onlyR p k)
theorem flocal_c (b : Tb) (r : Int) (o : Out) (p : Pk) : Contract Tryz.prog 130 [tblT b, .d (.int .i64 r), outT o, pkT p] [] (.d (.sl ((locV r o p).map dlC))) [] [] := by
 have hl := list_c o.loc
 simp only [bv] at hl
 refine contract_of Tryz.func130 rfl (fun E0 => ?_)
 refine awp.sound (g := .mk) (ow := []) (kp := (fun k => k==0||k==1||k==2||k==3||k==6||k==7||k==8||k==9||k==11||k==14||k==15||k==16||k==17)) ?_
 rw [Tryz.ntmps130]
 simp -dsimp [tblT, outT, bv, pkT, Pk.cs]
 try refine ⟨?_, ⟨by kernel_rfl⟩⟩
 refine ACall.of hl [] 0 ?_
 have hB := bitsI_len o.loc
 unfold locV
 generalize bitsI o.loc = L at hB ⊢
 simp -dsimp [ints]
 try refine ⟨?_, ⟨by kernel_rfl⟩⟩
 refine ALoop.of [] (fun k => k==0||k==1||k==2||k==3||k==6||k==7||k==8||k==9||k==11||k==14||k==15||k==16||k==17) (ι := { i : Nat // i ≤ L.length })
  (fun z => [(Pl.o 7, It.box (p.cs.map .d)), (Pl.s 7, It.v (.ptr (Pl.o 7) 0)), (Pl.s 1, It.v (.d (.int .i64 r))), (Pl.s 8, It.v (.c (Value.slice none 0 0))),
   (Pl.s 9, It.v (.oref 9 z.1)), (Pl.o 9, It.row 138 11 (dd (((L.take z.1).map fun k => (r, onlyR p k)).map dlC)) false),
   (Pl.s 14, It.v (.d (.sl (L.map fun n => [D.int .i64 n])))), (Pl.s 15, It.v (.d (.int .i64 L.length))), (Pl.s 16, It.v (.d (.int .i64 z.1)))])
  (fun z => L.length - z.1) ⟨0, by omega⟩ ?_ ?_
 ·exact GS.own' (k := 9) 138 11 (by simp) (by simp) (by simp [Pk.cs, bv])
 ·rintro ⟨i, i1⟩
  by_cases hi : i < L.length
  ·have hiz : (i : Int) < L.length := by omega
   have hg : L[i]? = some L[i] := List.getElem?_eq_getElem hi
   generalize L[i] = k at hg
   have ho := only_c p k
   have hn : dd (((L.take (i + 1)).map fun k => (r, onlyR p k)).map dlC) = dd (((L.take i).map fun k => (r, onlyR p k)).map dlC) ++ [TV.d (.int .i64 r) :: (onlyR p k).cs.map .d] := by
    rw [List.take_add_one, hg]
    simp [dd, dlC]
   have hlen : (((L.take i).map fun k => (r, onlyR p k)).map dlC).length = i := by simp; omega
   generalize onlyR p k = q at ho hn
   simp [Pk.cs] at hn
   simp only [pkT, Pk.cs, List.map] at ho
   simp -dsimp [hg, hiz, Pk.cs]
   try refine ⟨?_, ⟨by kernel_rfl⟩⟩
   refine ACall.of ho [] 0 ?_
   simp -dsimp [wrap_i64 (n := (i : Int) + 1) (by omega) (by omega)]
   and_intros
   all_goals try first | omega | exact ⟨by kernel_rfl⟩
   exact ⟨⟨i + 1, by omega⟩, GS.to (by simp [hn, Pk.cs]), by simp; omega⟩
  ·have hiz : ¬ (i : Int) < L.length := by omega
   obtain rfl : i = L.length := by omega
   simp -dsimp [hiz]
   refine Fin.view 8 ?_
   simp -dsimp
   refine Fin.of ?_
   simp
def gMixL : List Rt → Tp → List Rt × Tp
 | [], T => ([], T)
 | x :: l, T => (⟨x.id, !(gOne T 3).1⟩ :: (gMixL l (gOne T 3).2).1, (gMixL l (gOne T 3).2).2)
def gMix (T : Tp) (most : Int) : Topo × Tp := let g := gTop T most; (⟨(gMixL g.1.rs g.2).1, g.1.ls⟩, (gMixL g.1.rs g.2).2)
section
variable {α : Type} {q : α → Bool} {l : List α} {i : Nat} {x : α}
theorem any_step (hx : l[i]? = some x) (h : l.any q = (l.drop i).any q) (hq : q x = false) : l.any q = (l.drop (i + 1)).any q := by
 obtain ⟨hi, rfl⟩ := List.getElem?_eq_some_iff.1 hx
 rw [h, List.drop_eq_getElem_cons hi, List.any_cons, hq, Bool.false_or]
theorem any_hit (hx : l[i]? = some x) (hq : q x = true) : l.any q = true := by
 rw [List.any_eq_true]; exact ⟨x, List.mem_of_getElem? hx, hq⟩
theorem any_end (h : l.any q = (l.drop i).any q) (hi : ¬ i < l.length) : l.any q = false := by
 rw [h, List.drop_eq_nil_of_le (by omega)]; rfl
theorem find_step (hx : l[i]? = some x) (h : l.find? q = (l.drop i).find? q) (hq : q x = false) : l.find? q = (l.drop (i + 1)).find? q := by
 obtain ⟨hi, rfl⟩ := List.getElem?_eq_some_iff.1 hx
 rw [h, List.drop_eq_getElem_cons hi, List.find?_cons, hq]
theorem find_hit (hx : l[i]? = some x) (h : l.find? q = (l.drop i).find? q) (hq : q x = true) : l.find? q = some x := by
 obtain ⟨hi, rfl⟩ := List.getElem?_eq_some_iff.1 hx
 rw [h, List.drop_eq_getElem_cons hi, List.find?_cons, hq]
theorem find_end (h : l.find? q = (l.drop i).find? q) (hi : ¬ i < l.length) : l.find? q = none := by
 rw [h, List.drop_eq_nil_of_le (by omega)]; rfl
end
def adjB {α : Type} (q : α → α → Bool) : List α → Bool
 | x :: y :: r => q x y || adjB q (y :: r)
 | _ => false
section
variable {α : Type} {q : α → α → Bool} {l : List α} {i : Nat} {x y : α}
theorem adj_step (hx : l[i]? = some x) (hy : l[i + 1]? = some y) (h : adjB q l = adjB q (l.drop i)) (hq : q x y = false) : adjB q l = adjB q (l.drop (i + 1)) := by
 obtain ⟨hi, rfl⟩ := List.getElem?_eq_some_iff.1 hx
 obtain ⟨hj, rfl⟩ := List.getElem?_eq_some_iff.1 hy
 rw [h, List.drop_eq_getElem_cons hi, List.drop_eq_getElem_cons hj, adjB, hq, Bool.false_or]
theorem adj_hit (hx : l[i]? = some x) (hy : l[i + 1]? = some y) (h : adjB q l = adjB q (l.drop i)) (hq : q x y = true) : adjB q l = true := by
 obtain ⟨hi, rfl⟩ := List.getElem?_eq_some_iff.1 hx
 obtain ⟨hj, rfl⟩ := List.getElem?_eq_some_iff.1 hy
 rw [h, List.drop_eq_getElem_cons hi, List.drop_eq_getElem_cons hj, adjB, hq, Bool.true_or]
theorem adj_end (h : adjB q l = adjB q (l.drop i)) (hi : ¬ i + 1 < l.length) : adjB q l = false := by
 rw [h]
 cases h : l.drop i with
 | nil => rfl
 | cons a r =>
   cases r with
   | nil => rfl
   | cons b r => have := congrArg List.length h; simp at this; omega
end
def hasR (l : List Rt) (r : Int) : Bool := l.any fun x => decide (x.id = r)
theorem has05_c (g : Topo) (hg : g.rs.length ≤ 1000000) (r : Int) : Contract Tryz.prog 117 [topT g, .d (.int .i64 r)] [] (.d (.bool (hasR g.rs r))) [] [] := by
 refine contract_of Tryz.func117 rfl (fun E0 => ?_)
 refine awp.sound (g := .mk) (ow := []) (kp := (fun k => k==0||k==1||k==2||k==4||k==5||k==10||k==20)) ?_
 rw [Tryz.ntmps117]
 simp -dsimp [topT]
 refine ALoop.of [] (fun k => k==0||k==1||k==2||k==4||k==5||k==10||k==20) (ι := { i : Nat // i ≤ g.rs.length ∧ hasR g.rs r = hasR (g.rs.drop i) r }) (fun z => [(Pl.s 0, It.v (.agg [TV.d (.sl (rts g.rs)), TV.d (.sl (lks g.ls))])), (Pl.s 1, It.v (.d (.int .i64 r))), (Pl.o 2, It.box [TV.d (.sl (rts g.rs)), TV.d (.sl (lks g.ls))]), (Pl.s 2, It.v (.ptr (Pl.o 2) 0)), (Pl.s 4, It.v (.d (.bool false))), (Pl.s 5, It.v (.d (.int .i64 z.1)))]) (fun z => g.rs.length - z.1) ⟨0, by omega, rfl⟩ ?_ ?_
 ·exact GS.to (by simp)
 ·rintro ⟨i, i1, i2⟩
  by_cases hi : i < g.rs.length
  ·have hiz : (i : Int) < g.rs.length := by omega
   have hx : g.rs[i]? = some g.rs[i] := List.getElem?_eq_getElem hi
   generalize g.rs[i] = x at hx
   have hx' := rts_get hx
   by_cases h : x.id = r
   ·simp -dsimp [hiz, hx', Rt.cs, eq_true h]
    and_intros
    all_goals try first | rfl | omega | exact ⟨by kernel_rfl⟩
    refine Fin.of ?_
    simp [show hasR g.rs r = true from any_hit hx (by simp [h])]
   ·simp -dsimp [hiz, hx', Rt.cs, eq_false h, wrap_i64 (n := (i : Int) + 1) (by omega) (by omega)]
    and_intros
    all_goals try first | rfl | omega | exact ⟨by kernel_rfl⟩
    exact ⟨⟨i + 1, by omega, any_step hx i2 (by simp [h])⟩, GS.to (by simp []), by simp; omega⟩
  ·have hiz : ¬ (i : Int) < g.rs.length := by omega
   simp -dsimp [hiz]
   refine Fin.of ?_
   simp [show hasR g.rs r = false from any_end i2 hi]
theorem cost05_c (n : Int) : Contract Tryz.prog 116 [.d (.int .i64 n)] [] (.d (.bool (inB n 1 1000))) [] [] := by
 refine contract_of Tryz.func116 rfl (fun E0 => ?_)
 refine awp.sound (g := .mk) (ow := []) (kp := (fun k => k==0||k==2)) ?_
 rw [Tryz.ntmps116]
 simp -dsimp
 refine AIf.dec (fun h => ?_) (fun h => ?_)
 ·simp -dsimp [eq_true h]
  refine Fin.of ?_
  simp [inB, h]
 ·simp -dsimp [eq_false h]
  refine Fin.of ?_
  simp [inB, h]
def Lk.bad (x : Lk) : Bool := !inB x.ca 1 1000 || !inB x.cb 1 1000 || !inB x.cap 0 1000
def firstE : List (Bool × Int) → Int
 | [] => 0
 | (c, e) :: r => bif c then e else firstE r
def chkT (g : Topo) : Int := firstE [
 (decide (24 < g.rs.length), 3), (decide (60 < g.ls.length), 3),
 (g.rs.any fun x => !inB x.id 1 99, 2),
 (adjB (fun x y => decide (y.id ≤ x.id)) g.rs, 25),
 (g.ls.any Lk.bad, 2),
 (g.ls.any fun x => !hasR g.rs x.a || !hasR g.rs x.b, 4),
 (g.ls.any fun x => decide (x.b ≤ x.a), 8),
 (adjB (fun x y => decide (y.a < x.a) || decide (x.a = y.a) && decide (y.b ≤ x.b)) g.ls, 25)]
theorem check05_c (g : Topo) (hg : g.rs.length ≤ 1000000) (hl : g.ls.length ≤ 1000000) : Contract Tryz.prog 71 [topT g] [] (.d (.int .i64 (chkT g))) [] [] := by
 refine contract_of Tryz.func71 rfl (fun E0 => ?_)
 refine awp.sound (g := .mk) (ow := []) (kp := (fun k => k==0||k==1||k==2||k==3||k==4||k==5||k==6||k==7||k==8||k==9||k==10||k==11||k==21||k==26||k==44||k==49||k==65||k==70||k==97||k==102||k==124||k==129||k==144||k==149||k==181)) ?_
 rw [Tryz.ntmps71]
 by_cases c1 : 24 < g.rs.length
 ·have c1z : (24 : Int) < g.rs.length := by omega
  simp -dsimp [topT, c1z]
  refine Fin.of ?_
  simp [chkT, firstE, c1]
 by_cases c2 : 60 < g.ls.length
 ·have c1z : ¬ (24 : Int) < g.rs.length := by omega
  have c2z : (60 : Int) < g.ls.length := by omega
  simp -dsimp [topT, c1z, c2z]
  refine Fin.of ?_
  simp [chkT, firstE, c1, c2]
 have c1z : ¬ (24 : Int) < g.rs.length := by omega
 have c2z : ¬ (60 : Int) < g.ls.length := by omega
 simp -dsimp [topT, c1z, c2z]
 clear c1z c2z
 as_aux_lemma =>
 refine ALoop.of [] (fun k => k==0||k==1||k==2||k==3||k==4||k==5||k==6||k==7||k==8||k==9||k==10||k==11||k==21||k==26||k==44||k==49||k==65||k==70||k==97||k==102||k==124||k==129||k==144||k==149||k==181) (ι := { i : Nat // i ≤ g.rs.length ∧ (g.rs.any fun x => !inB x.id 1 99) = (g.rs.drop i).any fun x => !inB x.id 1 99 }) (fun z => [(Pl.o 1, It.box [TV.d (.sl (rts g.rs)), TV.d (.sl (lks g.ls))]), (Pl.s 1, It.v (.ptr (Pl.o 1) 0)), (Pl.s 2, It.v (.d (.int .i64 0))), (Pl.s 3, It.v (.d (.int .i64 z.1)))]) (fun z => g.rs.length - z.1) ⟨0, by omega, rfl⟩ ?_ ?_
 ·exact GS.to (by simp)
 ·rintro ⟨i, i1, i2⟩
  by_cases hi : i < g.rs.length
  ·have hiz : (i : Int) < g.rs.length := by omega
   have hx : g.rs[i]? = some g.rs[i] := List.getElem?_eq_getElem hi
   generalize g.rs[i] = x at hx
   have hx' := rts_get hx
   by_cases a1 : x.id < 1
   ·simp -dsimp [hiz, hx', Rt.cs, a1]
    and_intros
    all_goals try first | rfl | omega | exact ⟨by kernel_rfl⟩
    refine Fin.of ?_
    have e : (g.rs.any fun x => !inB x.id 1 99) = true := any_hit hx (by simp [inB]; omega)
    simp only [chkT, firstE, cond_true, cond_false, decide_eq_false c1, decide_eq_false c2, e]; simp
   by_cases a2 : 99 < x.id
   ·simp -dsimp [hiz, hx', Rt.cs, a1, a2]
    and_intros
    all_goals try first | rfl | omega | exact ⟨by kernel_rfl⟩
    refine Fin.of ?_
    have e : (g.rs.any fun x => !inB x.id 1 99) = true := any_hit hx (by simp [inB]; omega)
    simp only [chkT, firstE, cond_true, cond_false, decide_eq_false c1, decide_eq_false c2, e]; simp
   ·simp -dsimp [hiz, hx', Rt.cs, a1, a2, wrap_i64 (n := (i : Int) + 1) (by omega) (by omega)]
    and_intros
    all_goals try first | rfl | omega | exact ⟨by kernel_rfl⟩
    exact ⟨⟨i + 1, by omega, any_step hx i2 (by simp [inB]; omega)⟩, GS.to (by simp []), by simp; omega⟩
  have e1 := any_end i2 hi
  have hiz : ¬ (i : Int) < g.rs.length := by omega
  simp -dsimp [hiz]
  as_aux_lemma =>
  refine ALoop.of [] (fun k => k==0||k==1||k==2||k==3||k==4||k==5||k==6||k==7||k==8||k==9||k==10||k==11||k==21||k==26||k==44||k==49||k==65||k==70||k==97||k==102||k==124||k==129||k==144||k==149||k==181) (ι := { i : Nat // i ≤ g.rs.length ∧ adjB (fun x y => decide (y.id ≤ x.id)) g.rs = adjB (fun (x y : Rt) => decide (y.id ≤ x.id)) (g.rs.drop i) }) (fun z => [(Pl.o 1, It.box [TV.d (.sl (rts g.rs)), TV.d (.sl (lks g.ls))]), (Pl.s 1, It.v (.ptr (Pl.o 1) 0)), (Pl.s 2, It.v (.d (.int .i64 0))), (Pl.s 4, It.v (.d (.int .i64 ((z.1 : Int) + 1))))]) (fun z => g.rs.length - z.1) ⟨0, by omega, rfl⟩ ?_ ?_
  ·exact GS.to (by simp)
  ·rintro ⟨i, i1, i2⟩
   by_cases hi : i + 1 < g.rs.length
   ·have hi0 : i < g.rs.length := by omega
    have hiz : (i : Int) + 1 < g.rs.length := by omega
    have hx : g.rs[i]? = some g.rs[i] := List.getElem?_eq_getElem hi0
    have hy : g.rs[i + 1]? = some g.rs[i + 1] := List.getElem?_eq_getElem hi
    generalize g.rs[i] = x at hx
    generalize g.rs[i + 1] = y at hy
    have hx' := rts_get hx
    have hy' := rts_get hy
    by_cases a1 : y.id ≤ x.id
    ·simp -dsimp [hiz, hx', hy', Rt.cs, a1, toNat_succ, wrap_i64 (n := (i : Int)) (by omega) (by omega)]
     and_intros
     all_goals try first | rfl | omega | exact ⟨by kernel_rfl⟩
     refine Fin.of ?_
     have e := adj_hit hx hy i2 (by simpa using a1)
     simp only [chkT, firstE, cond_true, cond_false, decide_eq_false c1, decide_eq_false c2, e1, e]; simp
    ·simp -dsimp [hiz, hx', hy', Rt.cs, a1, toNat_succ, wrap_i64 (n := (i : Int)) (by omega) (by omega), wrap_i64 (n := (i : Int) + 1 + 1) (by omega) (by omega)]
     and_intros
     all_goals try first | rfl | omega | exact ⟨by kernel_rfl⟩
     exact ⟨⟨i + 1, by omega, adj_step hx hy i2 (by simpa using a1)⟩, GS.to (by simp []), by simp; omega⟩
   have e2 := adj_end i2 hi
   have hiz : ¬ (i : Int) + 1 < g.rs.length := by omega
   simp -dsimp [hiz]
   as_aux_lemma =>
   refine ALoop.of [] (fun k => k==0||k==1||k==2||k==3||k==4||k==5||k==6||k==7||k==8||k==9||k==10||k==11||k==21||k==26||k==44||k==49||k==65||k==70||k==97||k==102||k==124||k==129||k==144||k==149||k==181) (ι := { i : Nat // i ≤ g.ls.length ∧ g.ls.any Lk.bad = (g.ls.drop i).any Lk.bad }) (fun z => [(Pl.o 1, It.box [TV.d (.sl (rts g.rs)), TV.d (.sl (lks g.ls))]), (Pl.s 1, It.v (.ptr (Pl.o 1) 0)), (Pl.s 2, It.v (.d (.int .i64 0))), (Pl.s 5, It.v (.d (.int .i64 z.1)))]) (fun z => g.ls.length - z.1) ⟨0, by omega, rfl⟩ ?_ ?_
   ·exact GS.to (by simp)
   ·rintro ⟨i, i1, i2⟩
    by_cases hi : i < g.ls.length
    ·have hiz : (i : Int) < g.ls.length := by omega
     have hx : g.ls[i]? = some g.ls[i] := List.getElem?_eq_getElem hi
     generalize g.ls[i] = x at hx
     have hx' := lks_get hx
     have hit : Lk.bad x = true → chkT g = 2 := fun h => by
      have e := any_hit hx h
      simp only [chkT, firstE, cond_true, cond_false, decide_eq_false c1, decide_eq_false c2, e1, e2, e]
     simp -dsimp [hiz, hx', Lk.cs]
     refine ACall.of (cost05_c x.ca) [] 0 ?_
     rcases (Bool.eq_false_or_eq_true (inB x.ca 1 1000)).symm with b1 | b1
     ·simp -dsimp [hiz, hx', Lk.cs, b1]
      and_intros
      all_goals try first | rfl | omega | exact ⟨by kernel_rfl⟩
      refine Fin.of ?_
      simp [hit (by simp [Lk.bad, b1])]
     simp -dsimp [hiz, hx', Lk.cs, b1]
     refine ACall.of (cost05_c x.cb) [] 0 ?_
     rcases (Bool.eq_false_or_eq_true (inB x.cb 1 1000)).symm with b2 | b2
     ·simp -dsimp [hiz, hx', Lk.cs, b1, b2]
      and_intros
      all_goals try first | rfl | omega | exact ⟨by kernel_rfl⟩
      refine Fin.of ?_
      simp [hit (by simp [Lk.bad, b2])]
     by_cases b3 : x.cap < 0
     ·simp -dsimp [hiz, hx', Lk.cs, b1, b2, b3]
      and_intros
      all_goals try first | rfl | omega | exact ⟨by kernel_rfl⟩
      refine Fin.of ?_
      simp [hit (by simp [Lk.bad, inB, b1, b2]; omega)]
     by_cases b4 : 1000 < x.cap
     ·simp -dsimp [hiz, hx', Lk.cs, b1, b2, b3, b4]
      and_intros
      all_goals try first | rfl | omega | exact ⟨by kernel_rfl⟩
      refine Fin.of ?_
      simp [hit (by simp [Lk.bad, inB, b1, b2]; omega)]
     ·simp -dsimp [hiz, hx', Lk.cs, b1, b2, b3, b4, wrap_i64 (n := (i : Int) + 1) (by omega) (by omega)]
      and_intros
      all_goals try first | rfl | omega | exact ⟨by kernel_rfl⟩
      exact ⟨⟨i + 1, by omega, any_step hx i2 (by simp [Lk.bad, b1, b2]; simp [inB]; omega)⟩, GS.to (by simp []), by simp; omega⟩
    have e3 := any_end i2 hi
    have hiz : ¬ (i : Int) < g.ls.length := by omega
    simp -dsimp [hiz]
    as_aux_lemma =>
    refine ALoop.of [] (fun k => k==0||k==1||k==2||k==3||k==4||k==5||k==6||k==7||k==8||k==9||k==10||k==11||k==21||k==26||k==44||k==49||k==65||k==70||k==97||k==102||k==124||k==129||k==144||k==149||k==181) (ι := { i : Nat // i ≤ g.ls.length ∧ (g.ls.any fun x => !hasR g.rs x.a || !hasR g.rs x.b) = (g.ls.drop i).any fun x => !hasR g.rs x.a || !hasR g.rs x.b }) (fun z => [(Pl.o 1, It.box [TV.d (.sl (rts g.rs)), TV.d (.sl (lks g.ls))]), (Pl.s 1, It.v (.ptr (Pl.o 1) 0)), (Pl.s 2, It.v (.d (.int .i64 0))), (Pl.s 7, It.v (.d (.int .i64 z.1)))]) (fun z => g.ls.length - z.1) ⟨0, by omega, rfl⟩ ?_ ?_
    ·exact GS.to (by simp)
    ·rintro ⟨i, i1, i2⟩
     by_cases hi : i < g.ls.length
     ·have hiz : (i : Int) < g.ls.length := by omega
      have hx : g.ls[i]? = some g.ls[i] := List.getElem?_eq_getElem hi
      generalize g.ls[i] = x at hx
      have hx' := lks_get hx
      have hit : (!hasR g.rs x.a || !hasR g.rs x.b) = true → chkT g = 4 := fun h => by
       have e := any_hit (q := fun x : Lk => !hasR g.rs x.a || !hasR g.rs x.b) hx h
       simp only [chkT, firstE, cond_true, cond_false, decide_eq_false c1, decide_eq_false c2, e1, e2, e3, e]
      simp -dsimp [hiz, hx', Lk.cs]
      refine ACall.of (has05_c g hg x.a) [] 0 ?_
      rcases (Bool.eq_false_or_eq_true (hasR g.rs x.a)).symm with b1 | b1
      ·simp -dsimp [hiz, hx', Lk.cs, b1]
       and_intros
       all_goals try first | rfl | omega | exact ⟨by kernel_rfl⟩
       refine Fin.of ?_
       simp [hit (by simp [b1])]
      simp -dsimp [hiz, hx', Lk.cs, b1, topT]
      refine ACall.of (has05_c g hg x.b) [] 0 ?_
      rcases (Bool.eq_false_or_eq_true (hasR g.rs x.b)).symm with b2 | b2
      ·simp -dsimp [hiz, hx', Lk.cs, b1, b2]
       and_intros
       all_goals try first | rfl | omega | exact ⟨by kernel_rfl⟩
       refine Fin.of ?_
       simp [hit (by simp [b2])]
      ·simp -dsimp [hiz, hx', Lk.cs, b1, b2, wrap_i64 (n := (i : Int) + 1) (by omega) (by omega)]
       and_intros
       all_goals try first | rfl | omega | exact ⟨by kernel_rfl⟩
       exact ⟨⟨i + 1, by omega, any_step hx i2 (by simp [b1, b2])⟩, GS.to (by simp []), by simp; omega⟩
     have e4 := any_end i2 hi
     have hiz : ¬ (i : Int) < g.ls.length := by omega
     simp -dsimp [hiz]
     as_aux_lemma =>
     refine ALoop.of [] (fun k => k==0||k==1||k==2||k==3||k==4||k==5||k==6||k==7||k==8||k==9||k==10||k==11||k==21||k==26||k==44||k==49||k==65||k==70||k==97||k==102||k==124||k==129||k==144||k==149||k==181) (ι := { i : Nat // i ≤ g.ls.length ∧ (g.ls.any fun x => decide (x.b ≤ x.a)) = (g.ls.drop i).any fun x => decide (x.b ≤ x.a) }) (fun z => [(Pl.o 1, It.box [TV.d (.sl (rts g.rs)), TV.d (.sl (lks g.ls))]), (Pl.s 1, It.v (.ptr (Pl.o 1) 0)), (Pl.s 2, It.v (.d (.int .i64 0))), (Pl.s 8, It.v (.d (.int .i64 z.1)))]) (fun z => g.ls.length - z.1) ⟨0, by omega, rfl⟩ ?_ ?_
     ·exact GS.to (by simp)
     ·rintro ⟨i, i1, i2⟩
      by_cases hi : i < g.ls.length
      ·have hiz : (i : Int) < g.ls.length := by omega
       have hx : g.ls[i]? = some g.ls[i] := List.getElem?_eq_getElem hi
       generalize g.ls[i] = x at hx
       have hx' := lks_get hx
       by_cases b1 : x.b ≤ x.a
       ·simp -dsimp [hiz, hx', Lk.cs, b1]
        and_intros
        all_goals try first | rfl | omega | exact ⟨by kernel_rfl⟩
        refine Fin.of ?_
        have e := any_hit (q := fun x : Lk => decide (x.b ≤ x.a)) hx (by simpa using b1)
        simp only [chkT, firstE, cond_true, cond_false, decide_eq_false c1, decide_eq_false c2, e1, e2, e3, e4, e]; simp
       ·simp -dsimp [hiz, hx', Lk.cs, b1, wrap_i64 (n := (i : Int) + 1) (by omega) (by omega)]
        and_intros
        all_goals try first | rfl | omega | exact ⟨by kernel_rfl⟩
        exact ⟨⟨i + 1, by omega, any_step hx i2 (by simpa using b1)⟩, GS.to (by simp []), by simp; omega⟩
      have e5 := any_end i2 hi
      have hiz : ¬ (i : Int) < g.ls.length := by omega
      simp -dsimp [hiz]
      as_aux_lemma =>
      refine ALoop.of [] (fun k => k==0||k==1||k==2||k==3||k==4||k==5||k==6||k==7||k==8||k==9||k==10||k==11||k==21||k==26||k==44||k==49||k==65||k==70||k==97||k==102||k==124||k==129||k==144||k==149||k==181) (ι := { i : Nat // i ≤ g.ls.length ∧ adjB (fun x y => decide (y.a < x.a) || decide (x.a = y.a) && decide (y.b ≤ x.b)) g.ls = adjB (fun (x y : Lk) => decide (y.a < x.a) || decide (x.a = y.a) && decide (y.b ≤ x.b)) (g.ls.drop i) }) (fun z => [(Pl.o 1, It.box [TV.d (.sl (rts g.rs)), TV.d (.sl (lks g.ls))]), (Pl.s 1, It.v (.ptr (Pl.o 1) 0)), (Pl.s 2, It.v (.d (.int .i64 0))), (Pl.s 9, It.v (.d (.int .i64 ((z.1 : Int) + 1))))]) (fun z => g.ls.length - z.1) ⟨0, by omega, rfl⟩ ?_ ?_
      ·exact GS.to (by simp)
      ·rintro ⟨i, i1, i2⟩
       by_cases hi : i + 1 < g.ls.length
       ·have hi0 : i < g.ls.length := by omega
        have hiz : (i : Int) + 1 < g.ls.length := by omega
        have hx : g.ls[i]? = some g.ls[i] := List.getElem?_eq_getElem hi0
        have hy : g.ls[i + 1]? = some g.ls[i + 1] := List.getElem?_eq_getElem hi
        generalize g.ls[i] = x at hx
        generalize g.ls[i + 1] = y at hy
        have hx' := lks_get hx
        have hy' := lks_get hy
        have hit : (decide (y.a < x.a) || decide (x.a = y.a) && decide (y.b ≤ x.b)) = true → chkT g = 25 := fun h => by
         have e := adj_hit hx hy i2 h
         simp only [chkT, firstE, cond_true, cond_false, decide_eq_false c1, decide_eq_false c2, e1, e2, e3, e4, e5, e]
        have go : (decide (y.a < x.a) || decide (x.a = y.a) && decide (y.b ≤ x.b)) = false → adjB (fun x y => decide (y.a < x.a) || decide (x.a = y.a) && decide (y.b ≤ x.b)) g.ls = adjB (fun (x y : Lk) => decide (y.a < x.a) || decide (x.a = y.a) && decide (y.b ≤ x.b)) (g.ls.drop (i + 1)) := fun h => adj_step hx hy i2 h
        by_cases b1 : y.a < x.a
        ·simp -dsimp [hiz, hx', hy', Lk.cs, b1, toNat_succ, wrap_i64 (n := (i : Int)) (by omega) (by omega)]
         and_intros
         all_goals try first | rfl | omega | exact ⟨by kernel_rfl⟩
         refine Fin.of ?_
         simp [hit (by simp [b1])]
        by_cases b2 : x.a = y.a
        ·by_cases b3 : y.b ≤ x.b
         ·simp -dsimp [hiz, hx', hy', Lk.cs, b1, b2, b3, toNat_succ, wrap_i64 (n := (i : Int)) (by omega) (by omega)]
          and_intros
          all_goals try first | rfl | omega | exact ⟨by kernel_rfl⟩
          refine Fin.of ?_
          simp [hit (by simp [b2, b3])]
         ·simp -dsimp [hiz, hx', hy', Lk.cs, b1, b2, b3, toNat_succ, wrap_i64 (n := (i : Int)) (by omega) (by omega), wrap_i64 (n := (i : Int) + 1 + 1) (by omega) (by omega)]
          and_intros
          all_goals try first | rfl | omega | exact ⟨by kernel_rfl⟩
          exact ⟨⟨i + 1, by omega, go (by simp [b1, b3])⟩, GS.to (by simp []), by simp; omega⟩
        ·simp -dsimp [hiz, hx', hy', Lk.cs, b1, b2, toNat_succ, wrap_i64 (n := (i : Int)) (by omega) (by omega), wrap_i64 (n := (i : Int) + 1 + 1) (by omega) (by omega)]
         and_intros
         all_goals try first | rfl | omega | exact ⟨by kernel_rfl⟩
         exact ⟨⟨i + 1, by omega, go (by simp [b1, b2])⟩, GS.to (by simp []), by simp; omega⟩
       have e6 := adj_end i2 hi
       have hiz : ¬ (i : Int) + 1 < g.ls.length := by omega
       simp -dsimp [hiz]
       refine Fin.of ?_
       simp only [chkT, firstE, cond_true, cond_false, decide_eq_false c1, decide_eq_false c2, e1, e2, e3, e4, e5, e6]; simp
end Go.Proofs

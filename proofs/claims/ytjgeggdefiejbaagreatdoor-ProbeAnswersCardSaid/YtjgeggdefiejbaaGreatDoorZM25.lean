/-
  What functions of the program compute, stated as contracts over plain data; the conditions of each stand in its own statement.
-/
import Derived.Test.YtjgeggdefiejbaaGreatDoorZM17
import Derived.Test.YtjgeggdefiejbaaGreatDoorZM24
import Derived.Test.YtjgeggdefiejbaaGreatDoorZM21
set_option linter.unusedSimpArgs false
namespace Go.Proofs
open Go Go.Tr
theorem atP_c (set bit len : Int) : Contract Tryz.prog 82 [.d (.int .i64 set), .d (.int .i64 bit), .d (.int .i64 len)] [] (atT set bit len) [] [] := by
 refine contract_of Tryz.func82 rfl (fun E0 => ?_)
 refine awp.sound (g := .mk) (ow := []) (kp := (fun k => k==0||k==1||k==2||k==6||k==7||k==8||k==23||k==31)) ?_
 rw [Tryz.ntmps82]
 simp -dsimp
 refine ACall.of (validLength_c2 len) [] 0 ?_
 rcases (Bool.eq_false_or_eq_true (validLen len)).symm with a1 | a1
 ·simp -dsimp [a1]
  try refine ⟨?_, ⟨by kernel_rfl⟩⟩
  refine Fin.of ?_
  simp [atT, atB, a1]
 ·have hl : len = 8 ∨ len = 16 ∨ len = 32 ∨ len = 64 := by simp [validLen] at a1; omega
  simp -dsimp [a1, wrap_i64 (n := len - 1) (by omega) (by omega)]
  refine ACall.of (in10_c bit 0 (len - 1)) [] 0 ?_
  rcases (Bool.eq_false_or_eq_true (inB bit 0 (len - 1))).symm with a2 | a2
  ·simp -dsimp [a1, a2]
   try refine ⟨?_, ⟨by kernel_rfl⟩⟩
   refine Fin.of ?_
   simp [atT, atB, a1, a2]
  ·simp -dsimp [a1, a2]
   refine ACall.of (in10_c set 0 31) [] 0 ?_
   rcases (Bool.eq_false_or_eq_true (inB set 0 31)).symm with a3 | a3
   ·simp -dsimp [a1, a2, a3]
    try refine ⟨?_, ⟨by kernel_rfl⟩⟩
    refine Fin.of ?_
    simp [atT, atB, a1, a2, a3]
   ·have b2 : 0 ≤ bit ∧ bit ≤ len - 1 := by simpa [inB] using a2
    have b3 : 0 ≤ set ∧ set ≤ 31 := by simpa [inB] using a3
    have b4 : 0 ≤ set * len ∧ set * len ≤ 1984 := by rcases hl with rfl | rfl | rfl | rfl <;> omega
    by_cases a4 : set * len + bit + 1 ≤ 256
    ·have a5 : ¬ 256 < set * len + bit + 1 := by omega
     simp -dsimp [a1, a2, a3, a4, a5, wrap_i64 (n := set * len) (by omega) (by omega), wrap_i64 (n := set * len + bit) (by omega) (by omega), wrap_i64 (n := set * len + bit + 1) (by omega) (by omega)]
     try refine ⟨?_, ⟨by kernel_rfl⟩⟩
     refine Fin.of ?_
     simp [atT, atB, a1, a2, a3, a4]
    ·have a5 : 256 < set * len + bit + 1 := by omega
     simp -dsimp [a1, a2, a3, a4, a5, wrap_i64 (n := set * len) (by omega) (by omega), wrap_i64 (n := set * len + bit) (by omega) (by omega), wrap_i64 (n := set * len + bit + 1) (by omega) (by omega)]
     try refine ⟨?_, ⟨by kernel_rfl⟩⟩
     refine Fin.of ?_
     simp [atT, atB, a1, a2, a3, a4]
def plnP (p : Pk) : Int := if p.ok = true then p.ent % 8 else 0
theorem ok_ent {p : Pk} (h : p.ok = true) : 0 ≤ p.ent ∧ p.ent ≤ 1023 := by
 simp only [Pk.ok, insB, Bool.and_eq_true, decide_eq_true_eq] at h
 omega
theorem plane_c (p : Pk) : Contract Tryz.prog 161 [pkT p] [] (.d (.int .i64 (plnP p))) [] [] := by
 refine contract_of Tryz.func161 rfl (fun E0 => ?_)
 refine awp.sound (g := .mk) (ow := []) (kp := (fun k => k==0||k==1||k==2||k==5)) ?_
 rw [Tryz.ntmps161]
 have hv := valid_c2 p
 simp only [pkT, Pk.cs, List.map] at hv
 simp -dsimp [pkT, Pk.cs]
 refine ACall.of hv [] 0 ?_
 rcases (Bool.eq_false_or_eq_true p.ok).symm with a1 | a1
 ·simp -dsimp [a1]
  refine Fin.of ?_
  simp [plnP, a1]
 ·have h := ok_ent a1
  simp -dsimp [a1, wrap_i64 (n := p.ent % 8) (by omega) (by omega), Int.tmod_eq_emod_of_nonneg h.1]
  refine Fin.of ?_
  simp [plnP, a1]
def pkMask (p : Pk) (m : BitVec 64) : Pk := ⟨p.mode, p.subd, p.set, p.len, p.ttl - 1, p.ent, p.ing, p.proto, p.bits &&& m, p.pay⟩
def pk0 : Pk := ⟨0, 0, 0, 0, 0, 0, 0, 0, 0#64, ⟨#[]⟩⟩
def pkmR (p : Pk) (m : BitVec 64) : Pk × Bool := if p.ok = true ∧ p.ttl ≠ 0 ∧ p.bits &&& m ≠ 0#64 then (pkMask p m, true) else (pk0, false)
theorem ok_ttl {p : Pk} (h : p.ok = true) : 0 ≤ p.ttl ∧ p.ttl ≤ 63 := by
 simp only [Pk.ok, insB, Bool.and_eq_true, decide_eq_true_eq] at h
 omega
theorem masked_c (p : Pk) (m : BitVec 64) : Contract Tryz.prog 164 [pkT p, .d (bv m)] [] (.tup [pkT (pkmR p m).1, .d (.bool (pkmR p m).2)]) [] [] := by
 refine contract_of Tryz.func164 rfl (fun E0 => ?_)
 refine awp.sound (g := .mk) (ow := []) (kp := (fun k => k==0||k==1||k==2||k==4||k==5||k==20)) ?_
 rw [Tryz.ntmps164]
 have hv := valid_c2 p
 simp only [pkT, Pk.cs, List.map, bv] at hv
 simp -dsimp [pkT, Pk.cs, bv]
 refine ACall.of hv [] 0 ?_
 rcases (Bool.eq_false_or_eq_true p.ok).symm with a1 | a1
 ·simp -dsimp [a1]
  refine Fin.of ?_
  simp [pkmR, a1, pk0, pkT, Pk.cs, bv]
 ·have h := ok_ttl a1
  by_cases a2 : p.ttl = 0
  ·simp -dsimp [a1, a2]
   refine Fin.of ?_
   simp [pkmR, a2, pk0, pkT, Pk.cs, bv]
  by_cases a3 : p.bits &&& m = 0#64
  ·simp -dsimp [a1, a2, a3]
   refine Fin.of ?_
   simp [pkmR, a3, pk0, pkT, Pk.cs, bv]
  simp -dsimp [a1, a2, a3, wrap_i64 (n := p.ttl - 1) (by omega) (by omega)]
  refine Fin.of ?_
  simp [pkmR, a1, a2, a3, pkMask, pkT, Pk.cs, bv]
def onlyR (p : Pk) (k : Int) : Pk := if p.ok = true ∧ 0 ≤ k ∧ k ≤ 63 ∧ p.bits.getLsbD k.toNat = true then ⟨p.mode, p.subd, p.set, p.len, p.ttl, p.ent, p.ing, p.proto, 1#64 <<< k.toNat, p.pay⟩ else pk0
theorem only_c (p : Pk) (k : Int) : Contract Tryz.prog 166 [pkT p, .d (.int .i64 k)] [] (pkT (onlyR p k)) [] [] := by
 refine contract_of Tryz.func166 rfl (fun E0 => ?_)
 refine awp.sound (g := .mk) (ow := []) (kp := (fun k => k==0||k==1||k==2||k==4||k==23)) ?_
 rw [Tryz.ntmps166]
 have hv := valid_c2 p
 simp only [pkT, Pk.cs, List.map, bv] at hv
 simp -dsimp [pkT, Pk.cs, bv]
 refine ACall.of hv [] 0 ?_
 rcases (Bool.eq_false_or_eq_true p.ok).symm with a1 | a1
 ·simp -dsimp [a1]
  refine Fin.of ?_
  simp [onlyR, a1, pk0, pkT, Pk.cs, bv]
 ·by_cases a2 : k < 0
  ·simp -dsimp [a1, a2]
   refine Fin.of ?_
   have : ¬ 0 ≤ k := by omega
   simp [onlyR, this, pk0, pkT, Pk.cs, bv]
  by_cases a3 : 63 < k
  ·simp -dsimp [a1, a2, a3]
   refine Fin.of ?_
   have : ¬ k ≤ 63 := by omega
   simp [onlyR, this, pk0, pkT, Pk.cs, bv]
  have a4 : 0 ≤ k := by omega
  have a5 : k ≤ 63 := by omega
  simp -dsimp [a1, a2, a3, a4]
  have hb : (p.bits >>> k.toNat &&& 1#64 = 0#64) ↔ p.bits.getLsbD k.toNat = false := by
   rw [BitVec.and_one_eq_setWidth_ofBool_getLsbD, BitVec.getLsbD_ushiftRight, Nat.add_zero]
   cases p.bits.getLsbD k.toNat <;> decide
  refine AIf.dec (fun g => ?_) (fun g => ?_)
  ·simp -dsimp
   refine Fin.of ?_
   simp [onlyR, hb.1 g, pk0, pkT, Pk.cs, bv]
  ·have g' : p.bits.getLsbD k.toNat = true := by
    cases h : p.bits.getLsbD k.toNat with
    | true => rfl
    | false => exact absurd (by simpa using hb.2 h) g
   simp -dsimp [a4]
   refine Fin.of ?_
   simp [onlyR, a1, a4, a5, g', pkT, Pk.cs, bv]
structure Out where
 loc : BitVec 64
 lost : BitVec 64
 cps : List (Int × Pk)
def out0 : Out := ⟨0#64, 0#64, []⟩
def idAt (p : Pk) (k : Nat) : Int := if atB p.set k p.len = true then p.set * p.len + k + 1 else 0
def Pk.setB (p : Pk) (R : BitVec 64) : Pk := ⟨p.mode, p.subd, p.set, p.len, p.ttl, p.ent, p.ing, p.proto, R, p.pay⟩
def hopAt (b : Tb) (p : Pk) (k : Nat) : Int := nextV b (idAt p k) (plnP p)
def togR (b : Tb) (p : Pk) (R : BitVec 64) (n : Int) : BitVec 64 := R &&& maskP b (plnP p) p.set n
def fwdO (b : Tb) (p : Pk) (o : Out) (R : BitVec 64) : Out :=
 if hopAt b p (tz R) = 0 then ⟨o.loc, o.lost ||| 1#64 <<< tz R, o.cps⟩
 else if hopAt b p (tz R) = b.r then ⟨o.loc ||| 1#64 <<< tz R, o.lost, o.cps⟩
 else if (pkmR (p.setB R) (togR b p R (hopAt b p (tz R)))).2 = true then ⟨o.loc, o.lost, o.cps ++ [(hopAt b p (tz R), (pkmR (p.setB R) (togR b p R (hopAt b p (tz R)))).1)]⟩
 else ⟨o.loc, o.lost ||| togR b p R (hopAt b p (tz R)), o.cps⟩
def fwdM (b : Tb) (p : Pk) (R : BitVec 64) : BitVec 64 :=
 if hopAt b p (tz R) = 0 ∨ hopAt b p (tz R) = b.r then 1#64 <<< tz R else togR b p R (hopAt b p (tz R))
def fwdG (b : Tb) (p : Pk) : Nat → Out → BitVec 64 → Out
 | 0, o, _ => o
 | n + 1, o, R => if R = 0#64 then o else fwdG b p n (fwdO b p o R) (R &&& ~~~ fwdM b p R)
def fwdV (b : Tb) (p : Pk) : Out := fwdG b p 64 out0 p.bits
def fwdR (b : Tb) (p : Pk) : Out × Int :=
 if chk b ≠ 0 ∨ p.ok = false then (out0, 1) else if p.mode = 2 then (out0, 7) else if b.sd ≠ p.subd ∨ b.len ≠ p.len then (out0, 8) else (fwdV b p, 0)
theorem pop_less {R m : BitVec 64} {k : Nat} (hk : k < 64) (h1 : R.getLsbD k = true) (h2 : m.getLsbD k = true) : (bitsL (R &&& ~~~ m)).length < (bitsL R).length := by
 have e : bitsL (R &&& ~~~ m) = (bitsL R).filter fun i => !m.getLsbD i := by
  unfold bitsL
  rw [List.filter_filter]
  apply List.filter_congr
  intro i hi
  have : i < 64 := by simpa using hi
  rw [BitVec.getLsbD_and, BitVec.getLsbD_not]
  simp [this, Bool.and_comm]
 rw [e]
 refine List.length_filter_lt_length_iff_exists.2 ⟨k, ?_, by simp [h2]⟩
 simp [bitsL, hk, h1]
theorem pop_zero {R : BitVec 64} (h : (bitsL R).length = 0) : R = 0#64 := Classical.byContradiction fun g => by
 rw [bitsL_step g] at h
 simp at h
theorem ok_bits {p : Pk} (h : p.ok = true) : validLen p.len = true ∧ ∀ k < 64, p.bits.getLsbD k = true → (k : Int) < p.len := by
 simp only [Pk.ok, Bool.and_eq_true, validB, decide_eq_true_eq] at h
 obtain ⟨_, _, _, _, ⟨h1, h2⟩, _⟩ := h
 refine ⟨h1, fun k hk hb => ?_⟩
 have hl : p.len = 8 ∨ p.len = 16 ∨ p.len = 32 ∨ p.len = 64 := by simp [validLen] at h1; omega
 have h3 := congrArg (fun z => z.getLsbD k) h2
 simp only [BitVec.getLsbD_and, BitVec.getLsbD_not, hb, hk, decide_true, Bool.true_and, BitVec.getLsbD_zero, Bool.not_eq_false', fullB, h1, if_true] at h3
 rw [fullN_bit hk _ (by omega)] at h3
 have := of_decide_eq_true h3
 omega
theorem hop_zero {b : Tb} (h : chk b = 0) (p : Int) : hopB b 0 p = 0 := by
 have : rowOf b 0 = none := by
  rw [rowOf, List.find?_eq_none]
  intro x hx
  have := (chk_next h x hx).1
  simp
  omega
 simp [hopB, this, hopR]
theorem hop_range {b : Tb} (h : chk b = 0) {id p : Int} (h0 : hopB b id p ≠ 0) : 1 ≤ hopB b id p ∧ hopB b id p ≤ 99 := by
 unfold hopB at h0 ⊢
 have hm := hopR_mem h0
 cases hr : rowOf b id with
 | none => rw [hr] at h0; exact absurd (by simp [hopR]) h0
 | some x =>
   simp only [hr, Option.getD_some] at hm ⊢
   exact (chk_next h x (List.mem_of_find?_eq_some hr)).2 _ hm
theorem fwdM_bit {b : Tb} {p : Pk} (hc : chk b = 0) (hp : p.ok = true) (hl : b.len = p.len) {R : BitVec 64} (hR : ∀ k < 64, R.getLsbD k = true → p.bits.getLsbD k = true) (h0 : R ≠ 0#64) : (fwdM b p R).getLsbD (tz R) = true := by
 obtain ⟨t1, t2, _⟩ := tz_spec h0
 unfold fwdM
 split
 ·rw [bit_one t1 t1]; simp
 ·rename_i hn
  have hn0 : hopAt b p (tz R) ≠ 0 := fun e => hn (.inl e)
  have hk : ((tz R : Nat) : Int) < p.len := (ok_bits hp).2 _ t1 (hR _ t1 t2)
  have hpl : 0 ≤ plnP p ∧ plnP p ≤ 7 := by unfold plnP; split <;> omega
  have hs : 0 ≤ p.set ∧ p.set ≤ 31 := by
   simp only [Pk.ok, insB, Bool.and_eq_true, decide_eq_true_eq] at hp
   omega
  have v0 : valB b (plnP p) 0 = true := valB_iff.2 ⟨hc, hpl, by omega, by omega⟩
  have vs : valB b (plnP p) p.set = true := valB_iff.2 ⟨hc, hpl, hs⟩
  have ha : atB p.set (tz R) p.len = true := Classical.byContradiction fun g => hn0 (by
   rw [hopAt, idAt, if_neg g, nextV, if_pos v0]
   exact hop_zero hc _)
  have hh : hopAt b p (tz R) = hopB b (p.set * p.len + tz R + 1) (plnP p) := by rw [hopAt, idAt, if_pos ha, nextV, if_pos v0]
  have hr := hop_range hc (hh ▸ hn0)
  rw [togR, BitVec.getLsbD_and, t2, Bool.true_and, maskP_eq, maskR, if_pos ⟨vs, by rw [hh]; exact hr⟩]
  have hlen : b.len ≤ 64 := by
   have := (ok_bits hp).1
   simp [validLen] at this
   omega
  rw [bitsR_bit b _ _ _ t1 _ (by omega)]
  exact ⟨by omega, by rw [hl]; exact ha, by rw [hh]; omega, by rw [hl, hh]⟩
set_option maxRecDepth 100000
set_option maxHeartbeats 8000000
def cpC (x : Int × Pk) : List D := .int .i64 x.1 :: .sl [] :: x.2.cs
def outT (o : Out) : TV := .agg [.d (bv o.loc), .d (bv o.lost), .d (.sl (o.cps.map cpC))]
theorem fpacket_c (b : Tb) (hb : b.Sm) (p : Pk) : Contract Tryz.prog 129 [tblT b, pkT p] [] (.tup [outT (fwdR b p).1, .d (.int .i64 (fwdR b p).2)]) [] [] := by
 have hck := tcheck_c b hb.1 hb.2
 have hv := valid_c2 p
 have hpl := plane_c p
 simp only [tblT, pkT, Pk.cs, List.map] at hck hv hpl
 refine contract_of Tryz.func129 rfl (fun E0 => ?_)
 refine awp.sound (g := .mk) (ow := []) (kp := (fun k => k==0||k==1||k==2||k==3||k==4||k==5||k==6||k==7||k==8||k==9||k==10||k==11||k==13||k==14||k==15||k==16||k==17||k==18||k==28||k==33||k==52||k==70||k==71||k==81||k==110)) ?_
 rw [Tryz.ntmps129]
 simp -dsimp [tblT, pkT, Pk.cs]
 try refine ⟨?_, ⟨by kernel_rfl⟩⟩
 refine ACall.of hck [] 0 ?_
 by_cases h1 : chk b = 0
 ·simp -dsimp [h1]
  try refine ⟨?_, ⟨by kernel_rfl⟩⟩
  refine ACall.of hv [] 0 ?_
  rcases (Bool.eq_false_or_eq_true p.ok).symm with h2 | h2
  ·simp -dsimp [h2]
   try refine ⟨?_, ⟨by kernel_rfl⟩⟩
   refine Fin.box (.o 4) rfl ?_
   simp -dsimp
   refine Fin.of ?_
   simp [fwdR, out0, outT, bv, h1, h2]
  ·by_cases h3 : p.mode = 2
   ·simp -dsimp [h2, eq_true h3]
    try refine ⟨?_, ⟨by kernel_rfl⟩⟩
    refine Fin.box (.o 4) rfl ?_
    simp -dsimp
    refine Fin.of ?_
    simp [fwdR, out0, outT, bv, h1, h2, h3]
   ·by_cases h4 : b.sd = p.subd
    ·by_cases h5 : b.len = p.len
     ·simp -dsimp [h2, h3, eq_true h4, eq_true h5]
      try refine ⟨?_, ⟨by kernel_rfl⟩⟩
      refine ACall.of hpl [] 0 ?_
      simp -dsimp
      try refine ⟨?_, ⟨by kernel_rfl⟩⟩
      refine ALoop.of [] (fun k => k==0||k==1||k==2||k==3||k==4||k==5||k==6||k==7||k==8||k==9||k==10||k==11||k==13||k==14||k==15||k==16||k==17||k==18||k==28||k==33||k==52||k==70||k==71||k==81||k==110) (ι := { z : Nat × Out × BitVec 64 // fwdV b p = fwdG b p z.1 z.2.1 z.2.2 ∧ (bitsL z.2.2).length ≤ z.1 ∧ z.2.1.cps.length + z.1 ≤ 64 ∧ ∀ k < 64, z.2.2.getLsbD k = true → p.bits.getLsbD k = true })
       (fun z => [(Pl.o 2, It.box [TV.d (.int .i64 b.r), TV.d (.int .i64 b.sd), TV.d (.int .i64 b.len), TV.d (rwsD b.rows)]), (Pl.s 2, It.v (.ptr (Pl.o 2) 0)),
        (Pl.o 3, It.box (p.cs.map .d)), (Pl.s 3, It.v (.ptr (Pl.o 3) 0)),
        (Pl.o 4, It.box [TV.d (.int IntKind.u64 0), TV.d (.int IntKind.u64 0), TV.c (Value.slice none 0 0)]), (Pl.s 4, It.v (.ptr (Pl.o 4) 0)), (Pl.s 5, It.v (.d (.int .i64 0))),
        (Pl.s 6, It.v (.d (.int .i64 (plnP p)))),
        (Pl.o 7, It.box [TV.d (.int IntKind.u64 (tn z.1.2.1.loc)), TV.d (.int IntKind.u64 (tn z.1.2.1.lost)), TV.oref 50 z.1.2.1.cps.length]), (Pl.s 7, It.v (.ptr (Pl.o 7) 0)),
        (Pl.o 50, It.row 167 12 (dd (z.1.2.1.cps.map cpC)) false), (Pl.s 8, It.v (.d (.int IntKind.u64 (tn z.1.2.2))))])
       (fun z => z.1.1) ⟨(64, out0, p.bits), rfl, bitsL_len _, by simp [out0], fun _ _ h => h⟩ ?_ ?_
      ·exact GS.ownB' (.o 7) 2 50 (cs := [TV.d (.int IntKind.u64 0), TV.d (.int IntKind.u64 0), TV.c (Value.slice none 0 0)]) 167 12 (by simp) (by simp) (by simp) (by simp) (by simp [out0, Pk.cs, bv])
      ·rintro ⟨⟨n, o, R⟩, i1, i2, i3, i4⟩
       simp only at i1 i2 i3 i4
       by_cases h0 : R = 0#64
       ·subst h0
        have e : fwdV b p = o := by rw [i1]; cases n <;> simp [fwdG]
        have e2 : fwdR b p = (o, 0) := by simp [fwdR, h1, h2, h3, h4, h5, e]
        rw [e2]
        simp -dsimp
        try refine ⟨?_, ⟨by kernel_rfl⟩⟩
        refine Fin.box (.o 4) rfl ?_
        simp -dsimp
        refine Fin.of ?_
        simp [outT, bv]
       ·have hf := first_c R
        have e : firstI R = (tz R : Int) := by simp [firstI, h0]
        rw [e] at hf
        simp only [bv] at hf
        obtain ⟨t1, t2, t3⟩ := tz_spec h0
        have hat := atP_c p.set (tz R) p.len
        simp only [atT] at hat
        have hnx := mnext_c b hb (idAt p (tz R)) (plnP p)
        have hho : nextV b (idAt p (tz R)) (plnP p) = hopAt b p (tz R) := rfl
        rw [hho] at hnx
        have hid : (if atB p.set (tz R) p.len = true then p.set * p.len + (tz R : Int) + 1 else 0) = idAt p (tz R) := rfl
        simp only [hid] at hat
        simp only [tblT] at hnx
        simp -dsimp [h0]
        try refine ⟨?_, ⟨by kernel_rfl⟩⟩
        refine ACall.of hf [] 0 ?_
        have hmb := fwdM_bit h1 h2 h5 i4 h0
        have hpop := pop_less t1 t2 hmb
        have hmk := mask_c b hb (plnP p) p.set (hopAt b p (tz R))
        have hto : togR b p R (hopAt b p (tz R)) = R &&& maskP b (plnP p) p.set (hopAt b p (tz R)) := rfl
        have hms := masked_c (p.setB R) (togR b p R (hopAt b p (tz R)))
        simp only [tblT, bv] at hmk
        obtain ⟨Q, hQ⟩ : ∃ Q, pkmR (p.setB R) (togR b p R (hopAt b p (tz R))) = Q := ⟨_, rfl⟩
        rw [hQ] at hms
        simp only [pkT, Pk.cs, Pk.setB, List.map, bv] at hms
        obtain ⟨n, rfl⟩ : ∃ j, n = j + 1 := ⟨n - 1, by omega⟩
        have hstep : fwdV b p = fwdG b p n (fwdO b p o R) (R &&& ~~~ fwdM b p R) := by rw [i1, fwdG, if_neg h0]
        have hsub : ∀ k < 64, (R &&& ~~~ fwdM b p R).getLsbD k = true → p.bits.getLsbD k = true := fun k hk hb => by
         rw [BitVec.getLsbD_and] at hb
         simp only [Bool.and_eq_true] at hb
         exact i4 k hk hb.1
        simp -dsimp [h0, Pk.cs]
        try refine ⟨?_, ⟨by kernel_rfl⟩⟩
        refine ACall.of hat [] 0 ?_
        simp -dsimp
        try refine ⟨?_, ⟨by kernel_rfl⟩⟩
        refine ACall.of hnx [] 0 ?_
        by_cases c0 : hopAt b p (tz R) = 0
        ·have eM : fwdM b p R = 1#64 <<< tz R := by rw [fwdM, if_pos (.inl c0)]
         have eO : fwdO b p o R = ⟨o.loc, o.lost ||| 1#64 <<< tz R, o.cps⟩ := by rw [fwdO, if_pos c0]
         rw [eM] at hpop hsub hstep
         rw [eO] at hstep
         simp -dsimp [eq_true c0]
         try refine ⟨?_, ⟨by kernel_rfl⟩⟩
         exact ⟨⟨(n, ⟨o.loc, o.lost ||| 1#64 <<< tz R, o.cps⟩, R &&& ~~~ (1#64 <<< tz R)), hstep, by simp only; omega, by simp only; omega, hsub⟩, GS.to (by simp [Pk.cs, bv]), by simp⟩
        by_cases c1 : hopAt b p (tz R) = b.r
        ·have eM : fwdM b p R = 1#64 <<< tz R := by rw [fwdM, if_pos (.inr c1)]
         have eO : fwdO b p o R = ⟨o.loc ||| 1#64 <<< tz R, o.lost, o.cps⟩ := by rw [fwdO, if_neg c0, if_pos c1]
         rw [eM] at hpop hsub hstep
         rw [eO] at hstep
         rw [c1] at c0 ⊢
         simp -dsimp [c0]
         try refine ⟨?_, ⟨by kernel_rfl⟩⟩
         exact ⟨⟨(n, ⟨o.loc ||| 1#64 <<< tz R, o.lost, o.cps⟩, R &&& ~~~ (1#64 <<< tz R)), hstep, by simp only; omega, by simp only; omega, hsub⟩, GS.to (by simp [Pk.cs, bv]), by simp⟩
        have eM : fwdM b p R = togR b p R (hopAt b p (tz R)) := by rw [fwdM, if_neg (fun h => h.elim c0 c1)]
        rw [eM] at hpop hsub hstep
        simp -dsimp [c0, c1]
        try refine ⟨?_, ⟨by kernel_rfl⟩⟩
        refine ACall.of hmk [] 0 ?_
        simp -dsimp [← hto]
        try refine ⟨?_, ⟨by kernel_rfl⟩⟩
        have eO : fwdO b p o R = if (pkmR (p.setB R) (togR b p R (hopAt b p (tz R)))).2 = true then ⟨o.loc, o.lost, o.cps ++ [(hopAt b p (tz R), (pkmR (p.setB R) (togR b p R (hopAt b p (tz R)))).1)]⟩ else ⟨o.loc, o.lost ||| togR b p R (hopAt b p (tz R)), o.cps⟩ := by
         rw [fwdO, if_neg c0, if_neg c1]
        rw [eO] at hstep
        rw [hQ] at hstep
        clear hQ eO
        generalize togR b p R (hopAt b p (tz R)) = M at hms hstep hpop hsub ⊢
        refine ACall.of hms [] 0 ?_
        rcases (Bool.eq_false_or_eq_true Q.2).symm with q1 | q1
        ·rw [if_neg (by rw [q1]; simp)] at hstep
         simp -dsimp [q1]
         try refine ⟨?_, ⟨by kernel_rfl⟩⟩
         exact ⟨⟨(n, ⟨o.loc, o.lost ||| M, o.cps⟩, R &&& ~~~ M), hstep, by simp only; omega, by simp only; omega, hsub⟩, GS.to (by simp [Pk.cs, bv]), by simp⟩
        ·rw [if_pos q1] at hstep
         simp -dsimp [q1]
         and_intros
         all_goals try first | omega | exact ⟨by kernel_rfl⟩
         exact ⟨⟨(n, ⟨o.loc, o.lost, o.cps ++ [(hopAt b p (tz R), Q.1)]⟩, R &&& ~~~ M), hstep, by simp only; omega, by simp only [List.length_append, List.length_cons, List.length_nil]; omega, hsub⟩, GS.to (by simp [Pk.cs, bv, cpC]), by simp⟩
     ·simp -dsimp [h2, h3, eq_true h4, h5]
      try refine ⟨?_, ⟨by kernel_rfl⟩⟩
      refine Fin.box (.o 4) rfl ?_
      simp -dsimp
      refine Fin.of ?_
      simp [fwdR, out0, outT, bv, h1, h2, h3, h4, h5]
    ·simp -dsimp [h2, h3, h4]
     try refine ⟨?_, ⟨by kernel_rfl⟩⟩
     refine Fin.box (.o 4) rfl ?_
     simp -dsimp
     refine Fin.of ?_
     simp [fwdR, out0, outT, bv, h1, h2, h3, h4]
 ·simp -dsimp [h1]
  try refine ⟨?_, ⟨by kernel_rfl⟩⟩
  refine Fin.box (.o 4) rfl ?_
  simp -dsimp
  refine Fin.of ?_
  simp [fwdR, out0, outT, bv, h1]
def dlC (x : Int × Pk) : List D := .int .i64 x.1 :: x.2.cs
def locV (r : Int) (o : Out) (p : Pk) : List (Int × Pk) := (bitsI o.loc).map fun k => (r, onlyR p k)
theorem flocal_c (b : Tb) (r : Int) (o : Out) (p : Pk) : Contract Tryz.prog 130 [tblT b, .d (.int .i64 r), outT o, pkT p] [] (.d (.sl ((locV r o p).map dlC))) [] [] := by
 have hl := list_c o.loc
 simp only [bv] at hl
 refine contract_of Tryz.func130 rfl (fun E0 => ?_)
 refine awp.sound (g := .mk) (ow := []) (kp := (fun k => k==0||k==1||k==2||k==3||k==6||k==7||k==8||k==9||k==11||k==14||k==15||k==16||k==17)) ?_
 rw [Tryz.ntmps130]
 simp -dsimp [tblT, outT, bv, pkT, Pk.cs]
 try refine ⟨?_, ⟨by kernel_rfl⟩⟩
 refine ACall.of hl [] 0 ?_
 have hB := bitsI_len o.loc
 unfold locV
 generalize bitsI o.loc = L at hB ⊢
 simp -dsimp [ints]
 try refine ⟨?_, ⟨by kernel_rfl⟩⟩
 refine ALoop.of [] (fun k => k==0||k==1||k==2||k==3||k==6||k==7||k==8||k==9||k==11||k==14||k==15||k==16||k==17) (ι := { i : Nat // i ≤ L.length })
  (fun z => [(Pl.o 7, It.box (p.cs.map .d)), (Pl.s 7, It.v (.ptr (Pl.o 7) 0)), (Pl.s 1, It.v (.d (.int .i64 r))), (Pl.s 8, It.v (.c (Value.slice none 0 0))),
   (Pl.s 9, It.v (.oref 9 z.1)), (Pl.o 9, It.row 138 11 (dd (((L.take z.1).map fun k => (r, onlyR p k)).map dlC)) false),
   (Pl.s 14, It.v (.d (.sl (L.map fun n => [D.int .i64 n])))), (Pl.s 15, It.v (.d (.int .i64 L.length))), (Pl.s 16, It.v (.d (.int .i64 z.1)))])
  (fun z => L.length - z.1) ⟨0, by omega⟩ ?_ ?_
 ·exact GS.own' (k := 9) 138 11 (by simp) (by simp) (by simp [Pk.cs, bv])
 ·rintro ⟨i, i1⟩
  by_cases hi : i < L.length
  ·have hiz : (i : Int) < L.length := by omega
   have hg : L[i]? = some L[i] := List.getElem?_eq_getElem hi
   generalize L[i] = k at hg
   have ho := only_c p k
   have hn : dd (((L.take (i + 1)).map fun k => (r, onlyR p k)).map dlC) = dd (((L.take i).map fun k => (r, onlyR p k)).map dlC) ++ [TV.d (.int .i64 r) :: (onlyR p k).cs.map .d] := by
    rw [List.take_add_one, hg]
    simp [dd, dlC]
   have hlen : (((L.take i).map fun k => (r, onlyR p k)).map dlC).length = i := by simp; omega
   generalize onlyR p k = q at ho hn
   simp [Pk.cs] at hn
   simp only [pkT, Pk.cs, List.map] at ho
   simp -dsimp [hg, hiz, Pk.cs]
   try refine ⟨?_, ⟨by kernel_rfl⟩⟩
   refine ACall.of ho [] 0 ?_
   simp -dsimp [wrap_i64 (n := (i : Int) + 1) (by omega) (by omega)]
   and_intros
   all_goals try first | omega | exact ⟨by kernel_rfl⟩
   exact ⟨⟨i + 1, by omega⟩, GS.to (by simp [hn, Pk.cs]), by simp; omega⟩
  ·have hiz : ¬ (i : Int) < L.length := by omega
   obtain rfl : i = L.length := by omega
   simp -dsimp [hiz]
   refine Fin.view 8 ?_
   simp -dsimp
   refine Fin.of ?_
   simp
structure Trc where
 dl : List (Int × Pk)
 cr : List (Int × Int × BitVec 64)
 ls : List (Int × BitVec 64)
def tr0 : Trc := ⟨[], [], []⟩
def nextQ (l : List Tb) (q : Int × Pk) : List (Int × Pk) :=
 match findT l q.1 with
 | none => []
 | some b => (fwdR b q.2).1.cps
def stepT (l : List Tb) (q : Int × Pk) (t : Trc) : Trc :=
 match findT l q.1 with
 | none => ⟨t.dl, t.cr, t.ls ++ [(q.1, q.2.bits)]⟩
 | some b => ⟨t.dl ++ locV q.1 (fwdR b q.2).1 q.2, t.cr ++ (fwdR b q.2).1.cps.map (fun c => (q.1, c.1, c.2.bits)), if (fwdR b q.2).1.lost = 0#64 then t.ls else t.ls ++ [(q.1, (fwdR b q.2).1.lost)]⟩
def runG (l : List Tb) : Nat → List (Int × Pk) → Trc → Trc
 | 0, _, t => t
 | _ + 1, [], t => t
 | n + 1, q :: qs, t => runG l n (qs ++ nextQ l q) (stepT l q t)
def pc (B : BitVec 64) : Nat := (bitsL B).length
def wt (p : Pk) : Nat := pc p.bits * (2 * p.ttl.toNat + 1) + 1
def wsum (l : List (Int × Pk)) : Nat := (l.map fun c => wt c.2).sum
def runR (l : List Tb) (p : Pk) (r : Int) : Trc × Int :=
 if chkA l ≠ 0 ∨ p.ok = false then (tr0, 1) else match findT l r with
  | none => (tr0, 4)
  | some b => if p.mode = 2 then (tr0, 7) else if p.subd ≠ b.sd ∨ p.len ≠ b.len then (tr0, 8) else (runG l (wt p) [(r, p)] tr0, 0)
theorem wsum_app (a b : List (Int × Pk)) : wsum (a ++ b) = wsum a + wsum b := by simp [wsum]
theorem wsum_cons (q : Int × Pk) (b : List (Int × Pk)) : wsum (q :: b) = wt q.2 + wsum b := by simp [wsum]
theorem len_wsum : ∀ l : List (Int × Pk), l.length ≤ wsum l
 | [] => by simp
 | q :: l => by
   have := len_wsum l
   rw [wsum_cons, List.length_cons]
   unfold wt; omega
theorem filter_split {α : Type} (p : α → Bool) : ∀ l : List α, (l.filter p).length + (l.filter fun x => !p x).length = l.length
 | [] => rfl
 | x :: l => by
   have := filter_split p l
   rw [List.filter_cons, List.filter_cons]
   cases h : p x <;> simp <;> omega
theorem bitsL_and (R M : BitVec 64) : bitsL (R &&& M) = (bitsL R).filter fun i => M.getLsbD i := by
 unfold bitsL
 rw [List.filter_filter]
 apply List.filter_congr
 intro i _
 rw [BitVec.getLsbD_and, Bool.and_comm]
theorem bitsL_andNot (R M : BitVec 64) : bitsL (R &&& ~~~ M) = (bitsL R).filter fun i => !M.getLsbD i := by
 unfold bitsL
 rw [List.filter_filter]
 apply List.filter_congr
 intro i hi
 have : i < 64 := by simpa using hi
 rw [BitVec.getLsbD_and, BitVec.getLsbD_not]
 simp [this, Bool.and_comm]
theorem pc_split (R M : BitVec 64) : pc (R &&& M) + pc (R &&& ~~~ M) = pc R := by
 unfold pc
 rw [bitsL_and, bitsL_andNot]
 exact filter_split (fun i => M.getLsbD i) (bitsL R)
theorem pc_le (B : BitVec 64) : pc B ≤ 64 := bitsL_len B
theorem pc_pos {B : BitVec 64} (h : B ≠ 0#64) : 1 ≤ pc B := by
 unfold pc
 rcases Nat.eq_zero_or_pos (bitsL B).length with h0 | h0
 ·exact absurd (pop_zero h0) h
 ·exact h0
theorem wt_copy {p : Pk} {R M : BitVec 64} (h : (pkmR (p.setB R) M).2 = true) : wt (pkmR (p.setB R) M).1 ≤ pc (R &&& M) * (2 * p.ttl.toNat) := by
 unfold pkmR at h ⊢
 split at h
 ·rename_i hc
  obtain ⟨h1, h2, h3⟩ := hc
  rw [if_pos ⟨h1, h2, h3⟩]
  have hp := pc_pos h3
  have ht := ok_ttl h1
  simp only [Pk.setB] at hp h2 ht
  have ht1 : (p.ttl - 1).toNat = p.ttl.toNat - 1 := by omega
  have ht2 : 1 ≤ p.ttl.toNat := by omega
  simp only [wt, pkMask, Pk.setB, ht1]
  obtain ⟨T, hT⟩ : ∃ T, p.ttl.toNat = T + 1 := ⟨p.ttl.toNat - 1, by omega⟩
  rw [hT, show T + 1 - 1 = T by omega, show 2 * (T + 1) = (2 * T + 1) + 1 by omega, Nat.mul_add _ (2 * T + 1) 1]
  omega
 ·simp at h
theorem fwdG_wt (b : Tb) (p : Pk) : ∀ (n : Nat) (o : Out) (R : BitVec 64), wsum (fwdG b p n o R).cps ≤ wsum o.cps + pc R * (2 * p.ttl.toNat)
 | 0, o, R => by simp [fwdG]
 | n + 1, o, R => by
   rw [fwdG]
   split
   ·omega
   ·have ih := fwdG_wt b p n (fwdO b p o R) (R &&& ~~~ fwdM b p R)
    refine Nat.le_trans ih ?_
    have hs := pc_split R (fwdM b p R)
    have hm : pc (R &&& ~~~ fwdM b p R) * (2 * p.ttl.toNat) + pc (R &&& fwdM b p R) * (2 * p.ttl.toNat) = pc R * (2 * p.ttl.toNat) := by
     rw [← Nat.add_mul]; congr 1; omega
    by_cases c0 : hopAt b p (tz R) = 0
    ·have eO : (fwdO b p o R).cps = o.cps := by rw [fwdO, if_pos c0]
     rw [eO]; omega
    by_cases c1 : hopAt b p (tz R) = b.r
    ·have eO : (fwdO b p o R).cps = o.cps := by rw [fwdO, if_neg c0, if_pos c1]
     rw [eO]; omega
    have eM : fwdM b p R = togR b p R (hopAt b p (tz R)) := by rw [fwdM, if_neg (fun h => h.elim c0 c1)]
    by_cases c2 : (pkmR (p.setB R) (togR b p R (hopAt b p (tz R)))).2 = true
    ·have eO : (fwdO b p o R).cps = o.cps ++ [(hopAt b p (tz R), (pkmR (p.setB R) (togR b p R (hopAt b p (tz R)))).1)] := by
      rw [fwdO, if_neg c0, if_neg c1, if_pos c2]
     have hw := wt_copy c2
     rw [← eM] at hw
     rw [eO, wsum_app, wsum_cons, ← eM]
     simp only [wsum, List.map_nil, List.sum_nil] at *
     omega
    ·have eO : (fwdO b p o R).cps = o.cps := by rw [fwdO, if_neg c0, if_neg c1, if_neg c2]
     rw [eO]; omega
theorem nextQ_wt (l : List Tb) (q : Int × Pk) : wsum (nextQ l q) + 1 ≤ wt q.2 := by
 have h0 : 1 ≤ wt q.2 := by unfold wt; omega
 unfold nextQ
 split
 ·simpa [wsum] using h0
 ·rename_i b _
  unfold fwdR
  split
  ·simpa [wsum, out0] using h0
  split
  ·simpa [wsum, out0] using h0
  split
  ·simpa [wsum, out0] using h0
  have h := fwdG_wt b q.2 64 out0 q.2.bits
  have e0 : wsum out0.cps = 0 := rfl
  simp only [fwdV]
  unfold wt
  rw [Nat.mul_add]
  omega
theorem wt_le {p : Pk} (h : p.ok = true) : wt p ≤ 8129 := by
 have h1 := ok_ttl h
 have h2 := pc_le p.bits
 unfold wt
 have h3 : 2 * p.ttl.toNat + 1 ≤ 127 := by omega
 have := Nat.mul_le_mul h2 h3
 omega
theorem runG_nil (l : List Tb) (n : Nat) (t : Trc) : runG l n [] t = t := by cases n <;> rfl
theorem fwdG_len (b : Tb) (p : Pk) : ∀ (n : Nat) (o : Out) (R : BitVec 64), (fwdG b p n o R).cps.length ≤ o.cps.length + n
 | 0, o, R => by simp [fwdG]
 | n + 1, o, R => by
   rw [fwdG]
   split
   ·omega
   ·have ih := fwdG_len b p n (fwdO b p o R) (R &&& ~~~ fwdM b p R)
    have : (fwdO b p o R).cps.length ≤ o.cps.length + 1 := by
     unfold fwdO
     split
     ·simp
     split
     ·simp
     split <;> simp
    omega
theorem fwdR_len (b : Tb) (p : Pk) : (fwdR b p).1.cps.length ≤ 64 := by
 unfold fwdR
 split
 ·simp [out0]
 split
 ·simp [out0]
 split
 ·simp [out0]
 have := fwdG_len b p 64 out0 p.bits
 simpa [fwdV, out0] using this
theorem plane03_c (p : Pk) : Contract Tryz.prog 145 [pkT p] [] (.d (.int .i64 (plnP p))) [] [] := by
 refine contract_of Tryz.func145 rfl (fun E0 => ?_)
 refine awp.sound (g := .mk) (ow := []) (kp := (fun k => k==0||k==1||k==2||k==5)) ?_
 rw [Tryz.ntmps145]
 have hv := valid_c p
 simp only [pkT, Pk.cs, List.map] at hv
 simp -dsimp [pkT, Pk.cs]
 refine ACall.of hv [] 0 ?_
 rcases (Bool.eq_false_or_eq_true p.ok).symm with a1 | a1
 ·simp -dsimp [a1]
  refine Fin.of ?_
  simp [plnP, a1]
 ·have h := ok_ent a1
  simp -dsimp [a1, wrap_i64 (n := p.ent % 8) (by omega) (by omega), Int.tmod_eq_emod_of_nonneg h.1]
  refine Fin.of ?_
  simp [plnP, a1]
theorem masked03_c (p : Pk) (m : BitVec 64) : Contract Tryz.prog 147 [pkT p, .d (bv m)] [] (.tup [pkT (pkmR p m).1, .d (.bool (pkmR p m).2)]) [] [] := by
 refine contract_of Tryz.func147 rfl (fun E0 => ?_)
 refine awp.sound (g := .mk) (ow := []) (kp := (fun k => k==0||k==1||k==2||k==4||k==5||k==20)) ?_
 rw [Tryz.ntmps147]
 have hv := valid_c p
 simp only [pkT, Pk.cs, List.map, bv] at hv
 simp -dsimp [pkT, Pk.cs, bv]
 refine ACall.of hv [] 0 ?_
 rcases (Bool.eq_false_or_eq_true p.ok).symm with a1 | a1
 ·simp -dsimp [a1]
  refine Fin.of ?_
  simp [pkmR, a1, pk0, pkT, Pk.cs, bv]
 ·have h := ok_ttl a1
  by_cases a2 : p.ttl = 0
  ·simp -dsimp [a1, a2]
   refine Fin.of ?_
   simp [pkmR, a2, pk0, pkT, Pk.cs, bv]
  by_cases a3 : p.bits &&& m = 0#64
  ·simp -dsimp [a1, a2, a3]
   refine Fin.of ?_
   simp [pkmR, a3, pk0, pkT, Pk.cs, bv]
  simp -dsimp [a1, a2, a3, wrap_i64 (n := p.ttl - 1) (by omega) (by omega)]
  refine Fin.of ?_
  simp [pkmR, a1, a2, a3, pkMask, pkT, Pk.cs, bv]
def hasK (B : BitVec 64) (k : Int) : Bool := decide (0 ≤ k) && (decide (k < 64) && B.getLsbD k.toNat)
theorem bit_shr (B : BitVec 64) (k : Nat) : (B >>> k &&& 1#64 = 1#64) ↔ B.getLsbD k = true := by
 rw [BitVec.and_one_eq_setWidth_ofBool_getLsbD, BitVec.getLsbD_ushiftRight, Nat.add_zero]
 cases B.getLsbD k <;> decide
theorem has01_c (B : BitVec 64) (k : Int) : Contract Tryz.prog 208 [.d (bv B), .d (.int .i64 k)] [] (.d (.bool (hasK B k))) [] [] := by
 refine contract_of Tryz.func208 rfl (fun E0 => ?_)
 refine awp.sound (g := .mk) (ow := []) (kp := (fun k => k==0||k==1||k==4)) ?_
 rw [Tryz.ntmps208]
 by_cases a2 : 0 ≤ k
 ·by_cases a3 : k < 64
  ·have hb := bit_shr B k.toNat
   simp -dsimp [bv, eq_true a2, eq_true a3]
   have hw : IntKind.u64.wrap k = k := wrap_u64 (by omega) (by omega)
   refine ⟨by rw [hw]; exact a2, ?_⟩
   refine Fin.of ?_
   rw [hw]
   simp [hasK, a2, a3, hb]
  ·simp -dsimp [bv, eq_true a2, a3]
   try refine ⟨?_, ⟨by kernel_rfl⟩⟩
   refine Fin.of ?_
   simp [hasK, a3]
 ·simp -dsimp [bv, a2]
  try refine ⟨?_, ⟨by kernel_rfl⟩⟩
  refine Fin.of ?_
  simp [hasK, a2]
def bitsT (B : BitVec 64) (k : Nat) : List Int := ((List.range k).filter fun i => B.getLsbD i).map Int.ofNat
theorem bitsT_next (B : BitVec 64) (k : Nat) : bitsT B (k + 1) = bitsT B k ++ (if B.getLsbD k = true then [(k : Int)] else []) := by
 unfold bitsT
 rw [List.range_succ, List.filter_append, List.map_append]
 cases h : B.getLsbD k <;> simp [h]
theorem bitsT_len (B : BitVec 64) (k : Nat) : (bitsT B k).length ≤ k := by
 unfold bitsT
 rw [List.length_map]
 exact Nat.le_trans (List.length_filter_le _ _) (by simp)
theorem bitsT_all (B : BitVec 64) : bitsT B 64 = bitsI B := rfl
theorem list01_c (B : BitVec 64) : Contract Tryz.prog 191 [.d (bv B)] [] (.d (ints (bitsI B))) [] [] := by
 refine contract_of Tryz.func191 rfl (fun E0 => ?_)
 refine awp.sound (g := .mk) (ow := []) (kp := (fun k => k==0||k==2||k==3||k==4||k==6||k==11)) ?_
 rw [Tryz.ntmps191]
 simp -dsimp [bv]
 refine ALoop.of [] (fun k => k==0||k==2||k==3||k==4||k==6||k==11) (ι := { k : Nat // k ≤ 64 })
  (fun z => [(Pl.s 0, It.v (.d (.int IntKind.u64 (tn B)))), (Pl.s 2, It.v (.c (Value.slice none 0 0))), (Pl.s 3, It.v (.oref 3 (bitsT B z.1).length)), (Pl.o 3, .row 3 1 (dd (nrow .i64 (bitsT B z.1))) false), (Pl.s 4, It.v (.d (.int .i64 z.1)))])
  (fun z => 64 - z.1) ⟨0, by omega⟩ ?_ ?_
 ·exact GS.own' (k := 3) 3 1 (by simp) (by simp) (by simp [nrow, bitsT])
 ·rintro ⟨k, k1⟩
  have hll := bitsT_len B k
  by_cases hk : k < 64
  ·have hkz : (k : Int) < 64 := by omega
   have hh := has01_c B k
   have hv : hasK B k = B.getLsbD k := by simp [hasK, hk, hkz]
   rw [hv] at hh
   simp only [bv] at hh
   have hn := bitsT_next B k
   simp -dsimp [hkz]
   try refine ⟨?_, ⟨by kernel_rfl⟩⟩
   refine ACall.of hh [] 0 ?_
   rcases (Bool.eq_false_or_eq_true (B.getLsbD k)).symm with b1 | b1
   ·rw [b1] at hn ⊢
    simp only [Bool.false_eq_true, if_false, List.append_nil] at hn
    simp -dsimp [wrap_i64 (n := (k : Int) + 1) (by omega) (by omega)]
    and_intros
    all_goals try first | rfl | omega | exact ⟨by kernel_rfl⟩
    exact ⟨⟨k + 1, by omega⟩, GS.to (by simp [hn]), by simp; omega⟩
   ·rw [b1] at hn ⊢
    simp only [if_true] at hn
    simp -dsimp [wrap_i64 (n := (k : Int) + 1) (by omega) (by omega)]
    and_intros
    all_goals try first | rfl | omega | exact ⟨by kernel_rfl⟩
    exact ⟨⟨k + 1, by omega⟩, GS.to (by simp [hn, nrow]), by simp; omega⟩
  ·have hkz : ¬ (k : Int) < 64 := by omega
   obtain rfl : k = 64 := by omega
   have e := bitsT_all B
   simp -dsimp [hkz]
   refine Fin.view 2 ?_
   simp -dsimp
   refine Fin.of ?_
   simp [← e, ints, nrow]
theorem first01_c (B : BitVec 64) : Contract Tryz.prog 144 [.d (bv B)] [] (.d (.int .i64 (firstI B))) [] [] := by
 have hl := list01_c B
 have hlen := bitsI_len B
 have hN : Contract Tryz.prog 190 [.d (bv B), .d (.int .i64 0)] [] (.d (.int .i64 (firstI B))) [] [] := by
  refine contract_of Tryz.func190 rfl (fun E0 => ?_)
  refine awp.sound (g := .mk) (ow := []) (kp := (fun k => k==0||k==1||k==4||k==5||k==15)) ?_
  rw [Tryz.ntmps190]
  simp -dsimp
  try refine ⟨?_, ⟨by kernel_rfl⟩⟩
  refine ACall.of hl [] 0 ?_
  by_cases h0 : B = 0#64
  ·have e : bitsI B = [] := by rw [h0]; exact bitsI_zero
   rw [e]
   simp -dsimp [ints]
   try refine ⟨?_, ⟨by kernel_rfl⟩⟩
   refine Fin.of ?_
   simp [firstI, h0]
  ·have e := bitsI_step h0
   have ef : firstI B = (tz B : Int) := by simp [firstI, h0]
   rw [e, ef]
   rw [e] at hlen
   generalize bitsI (B &&& wu (tn B - 1)) = L at hlen ⊢
   simp -dsimp [ints]
   have hlz : ¬ (L.length : Int) + 1 ≤ 0 := by omega
   simp -dsimp [hlz]
   try refine ⟨?_, ⟨by kernel_rfl⟩⟩
   refine Fin.of ?_
   simp
 refine contract_of Tryz.func144 rfl (fun E0 => ?_)
 refine awp.sound (g := .mk) (ow := []) (kp := (fun k => k==0||k==2)) ?_
 rw [Tryz.ntmps144]
 simp -dsimp
 refine ACall.of hN [] 0 ?_
 simp -dsimp
 refine Fin.of ?_
 simp
theorem only03_c (p : Pk) (k : Int) : Contract Tryz.prog 192 [pkT p, .d (.int .i64 k)] [] (pkT (onlyR p k)) [] [] := by
 refine contract_of Tryz.func192 rfl (fun E0 => ?_)
 refine awp.sound (g := .mk) (ow := []) (kp := (fun k => k==0||k==1||k==2||k==4||k==14)) ?_
 rw [Tryz.ntmps192]
 have hv := valid_c p
 have hh := has01_c p.bits k
 have hb := bit_c k
 simp only [pkT, Pk.cs, List.map] at hv
 simp -dsimp [pkT, Pk.cs]
 try refine ⟨?_, ⟨by kernel_rfl⟩⟩
 refine ACall.of hv [] 0 ?_
 rcases (Bool.eq_false_or_eq_true p.ok).symm with a1 | a1
 ·simp -dsimp [a1]
  try refine ⟨?_, ⟨by kernel_rfl⟩⟩
  refine Fin.of ?_
  simp [onlyR, a1, pk0, pkT, Pk.cs, bv]
 ·simp -dsimp [a1]
  try refine ⟨?_, ⟨by kernel_rfl⟩⟩
  refine ACall.of hh [] 0 ?_
  rcases (Bool.eq_false_or_eq_true (hasK p.bits k)).symm with a2 | a2
  ·have : ¬ (0 ≤ k ∧ k ≤ 63 ∧ p.bits.getLsbD k.toNat = true) := fun ⟨h1, h2, h3⟩ => by
    simp [hasK, h1, h3] at a2; omega
   simp -dsimp [a2]
   try refine ⟨?_, ⟨by kernel_rfl⟩⟩
   refine Fin.of ?_
   simp [onlyR, this, pk0, pkT, Pk.cs, bv]
  ·simp only [hasK, Bool.and_eq_true, decide_eq_true_eq] at a2
   obtain ⟨b1, b2, b3⟩ := a2
   have b4 : k ≤ 63 := by omega
   have eb : bitB k = 1#64 <<< k.toNat := (shl_bit ⟨b1, b2⟩).symm
   rw [eb] at hb
   have a2' : hasK p.bits k = true := by simp [hasK, b1, b2, b3]
   simp -dsimp [a2']
   try refine ⟨?_, ⟨by kernel_rfl⟩⟩
   refine ACall.of hb [] 0 ?_
   simp -dsimp
   try refine ⟨?_, ⟨by kernel_rfl⟩⟩
   refine Fin.of ?_
   simp [onlyR, a1, b1, b4, b3, pkT, Pk.cs, bv]
theorem pln_range (p : Pk) : 0 ≤ plnP p ∧ plnP p ≤ 7 := by unfold plnP; split <;> omega
theorem ok_set {p : Pk} (h : p.ok = true) : 0 ≤ p.set ∧ p.set ≤ 31 := by
 simp only [Pk.ok, insB, Bool.and_eq_true, decide_eq_true_eq] at h
 omega
theorem hop_eq {b : Tb} (hc : chk b = 0) (p : Pk) (id : Int) : nextV b id (plnP p) = hopB b id (plnP p) := by
 have := pln_range p
 rw [nextV, if_pos (valB_iff.2 ⟨hc, this, by omega, by omega⟩)]
theorem mask_eq {b : Tb} (hc : chk b = 0) {p : Pk} (hp : p.ok = true) {n : Int} (hn : 1 ≤ n ∧ n ≤ 99) : maskP b (plnP p) p.set n = bitsR b (plnP p) p.set n b.len.toNat := by
 have h1 := pln_range p
 have h2 := ok_set hp
 rw [maskP_eq, maskR, if_pos ⟨valB_iff.2 ⟨hc, h1, h2⟩, hn⟩]
theorem ok_setB {p : Pk} {R : BitVec 64} (hp : p.ok = true) (hR : ∀ k < 64, R.getLsbD k = true → p.bits.getLsbD k = true) : (p.setB R).ok = true := by
 cases p
 simp only [Pk.setB] at *
 simp only [Pk.ok, Bool.and_eq_true, validB, decide_eq_true_eq] at hp ⊢
 obtain ⟨a1, a2, a3, a4, ⟨h1, h2⟩, a5⟩ := hp
 refine ⟨a1, a2, a3, a4, ⟨h1, ?_⟩, a5⟩
 apply BitVec.eq_of_getLsbD_eq
 intro k hk
 have h3 := congrArg (fun z => z.getLsbD k) h2
 simp only [BitVec.getLsbD_and, BitVec.getLsbD_not, hk, decide_true, Bool.true_and, BitVec.getLsbD_zero] at h3 ⊢
 cases hr : R.getLsbD k with
 | false => simp
 | true =>
   rw [hR k hk hr] at h3
   simpa using h3
theorem and_sub {p R X : BitVec 64} (hR : ∀ k < 64, R.getLsbD k = true → p.getLsbD k = true) : p &&& (R &&& X) = R &&& (R &&& X) := by
 apply BitVec.eq_of_getLsbD_eq
 intro k hk
 simp only [BitVec.getLsbD_and]
 cases hr : R.getLsbD k with
 | false => simp
 | true => rw [hR k hk hr]
theorem pkm_eq {p : Pk} {R : BitVec 64} (X : BitVec 64) (hp : p.ok = true) (hR : ∀ k < 64, R.getLsbD k = true → p.bits.getLsbD k = true) : pkmR p (R &&& X) = pkmR (p.setB R) (R &&& X) := by
 have h1 := ok_setB hp hR
 have h2 := and_sub (X := X) hR
 unfold pkmR
 simp only [hp, h1]
 simp only [Pk.setB, pkMask, h2]
 congr
end Go.Proofs

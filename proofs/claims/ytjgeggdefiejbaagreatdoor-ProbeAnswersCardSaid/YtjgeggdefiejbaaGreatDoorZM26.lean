/-
  What functions of the program compute, stated as contracts over plain data; the conditions of each stand in its own statement.
-/
import Derived.Test.YtjgeggdefiejbaaGreatDoorZM25
import Derived.Test.YtjgeggdefiejbaaGreatDoorZM16
import Derived.Test.YtjgeggdefiejbaaGreatDoorZM13
import Derived.Test.YtjgeggdefiejbaaGreatDoorZM24
set_option linter.unusedSimpArgs false
set_option maxRecDepth 100000
set_option maxHeartbeats 8000000
namespace Go.Proofs
open Go Go.Tr
theorem do13_c (b : Tb) (hb : b.Sm) (p : Pk) (h1 : chk b = 0) (h2 : p.ok = true) (h5 : b.len = p.len) : Contract Tryz.prog 109 [tblT b, pkT p] [] (outT (fwdV b p)) [] [] := by
 have hpl := plane03_c p
 simp only [pkT, Pk.cs, List.map] at hpl
 have hplr := pln_range p
 have hlen : b.len ≤ 1000 := by
  have := (ok_bits h2).1
  simp [validLen] at this
  omega
 refine contract_of Tryz.func109 rfl (fun E0 => ?_)
 refine awp.sound (g := .mk) (ow := []) (kp := (fun k => k==0||k==1||k==2||k==3||k==4||k==5||k==6||k==7||k==8||k==10||k==11||k==12||k==13||k==17||k==51||k==66||k==74)) ?_
 rw [Tryz.ntmps109]
 simp -dsimp [tblT, pkT, Pk.cs]
 try refine ⟨?_, ⟨by kernel_rfl⟩⟩
 refine ALoop.of [] (fun k => k==0||k==1||k==2||k==3||k==4||k==5||k==6||k==7||k==8||k==10||k==11||k==12||k==13||k==17||k==51||k==66||k==74) (ι := { z : Nat × Out × BitVec 64 // fwdV b p = fwdG b p z.1 z.2.1 z.2.2 ∧ (bitsL z.2.2).length ≤ z.1 ∧ z.2.1.cps.length + z.1 ≤ 64 ∧ ∀ k < 64, z.2.2.getLsbD k = true → p.bits.getLsbD k = true })
  (fun z => [(Pl.o 2, It.box [TV.d (.int .i64 b.r), TV.d (.int .i64 b.sd), TV.d (.int .i64 b.len), TV.d (rwsD b.rows)]), (Pl.s 2, It.v (.ptr (Pl.o 2) 0)),
   (Pl.o 3, It.box (p.cs.map .d)), (Pl.s 3, It.v (.ptr (Pl.o 3) 0)),
   (Pl.o 4, It.box [TV.d (.int IntKind.u64 0), TV.d (.int IntKind.u64 0), TV.c (Value.slice none 0 0)]), (Pl.s 4, It.v (.ptr (Pl.o 4) 0)),
   (Pl.o 5, It.box [TV.d (.int IntKind.u64 (tn z.1.2.1.loc)), TV.d (.int IntKind.u64 (tn z.1.2.1.lost)), TV.oref 50 z.1.2.1.cps.length]), (Pl.s 5, It.v (.ptr (Pl.o 5) 0)),
   (Pl.o 50, It.row 167 12 (dd (z.1.2.1.cps.map cpC)) false), (Pl.s 6, It.v (.d (.int IntKind.u64 (tn z.1.2.2))))])
  (fun z => z.1.1) ⟨(64, out0, p.bits), rfl, bitsL_len _, by simp [out0], fun _ _ h => h⟩ ?_ ?_
 ·exact GS.ownB' (.o 5) 2 50 (cs := [TV.d (.int IntKind.u64 0), TV.d (.int IntKind.u64 0), TV.c (Value.slice none 0 0)]) 167 12 (by simp) (by simp) (by simp) (by simp) (by simp [out0, Pk.cs, bv])
 ·rintro ⟨⟨n, o, R⟩, i1, i2, i3, i4⟩
  simp only at i1 i2 i3 i4
  by_cases h0 : R = 0#64
  ·subst h0
   have e : fwdV b p = o := by rw [i1]; cases n <;> simp [fwdG]
   simp -dsimp
   try refine ⟨?_, ⟨by kernel_rfl⟩⟩
   refine Fin.box (.o 4) rfl ?_
   simp -dsimp
   refine Fin.of ?_
   simp [outT, bv, e]
  ·have hf := first01_c R
   have e : firstI R = (tz R : Int) := by simp [firstI, h0]
   rw [e] at hf
   simp only [bv] at hf
   obtain ⟨t1, t2, t3⟩ := tz_spec h0
   have hat := at10_c p.set (tz R) p.len
   simp only [atT] at hat
   have hnx := hop12_c b hb (idAt p (tz R)) (plnP p) ⟨hplr.1, hplr.2⟩
   have hho : hopB b (idAt p (tz R)) (plnP p) = hopAt b p (tz R) := (hop_eq h1 p _).symm
   rw [hho] at hnx
   have hid : (if atB p.set (tz R) p.len = true then p.set * p.len + (tz R : Int) + 1 else 0) = idAt p (tz R) := rfl
   simp only [hid] at hat
   simp only [tblT] at hnx
   have hbt := bit_c (tz R)
   have ebt : bitB (tz R) = 1#64 <<< tz R := by
    rw [← shl_bit ⟨by omega, by omega⟩]; simp
   rw [ebt] at hbt
   simp -dsimp [h0]
   try refine ⟨?_, ⟨by kernel_rfl⟩⟩
   refine ACall.of hf [] 0 ?_
   have hmb := fwdM_bit h1 h2 h5 i4 h0
   have hpop := pop_less t1 t2 hmb
   have hto : togR b p R (hopAt b p (tz R)) = R &&& maskP b (plnP p) p.set (hopAt b p (tz R)) := rfl
   obtain ⟨n, rfl⟩ : ∃ j, n = j + 1 := ⟨n - 1, by omega⟩
   have hstep : fwdV b p = fwdG b p n (fwdO b p o R) (R &&& ~~~ fwdM b p R) := by rw [i1, fwdG, if_neg h0]
   have hsub : ∀ k < 64, (R &&& ~~~ fwdM b p R).getLsbD k = true → p.bits.getLsbD k = true := fun k hk hb => by
    rw [BitVec.getLsbD_and] at hb
    simp only [Bool.and_eq_true] at hb
    exact i4 k hk hb.1
   simp -dsimp [h0, Pk.cs]
   try refine ⟨?_, ⟨by kernel_rfl⟩⟩
   refine ACall.of hat [] 0 ?_
   simp -dsimp
   try refine ⟨?_, ⟨by kernel_rfl⟩⟩
   refine ACall.of hpl [] 0 ?_
   simp -dsimp
   try refine ⟨?_, ⟨by kernel_rfl⟩⟩
   refine ACall.of hnx [] 0 ?_
   simp -dsimp
   try refine ⟨?_, ⟨by kernel_rfl⟩⟩
   refine ACall.of hbt [] 0 ?_
   by_cases c0 : hopAt b p (tz R) = 0
   ·have eM : fwdM b p R = 1#64 <<< tz R := by rw [fwdM, if_pos (.inl c0)]
    have eO : fwdO b p o R = ⟨o.loc, o.lost ||| 1#64 <<< tz R, o.cps⟩ := by rw [fwdO, if_pos c0]
    rw [eM] at hpop hsub hstep
    rw [eO] at hstep
    simp -dsimp [eq_true c0, bv]
    try refine ⟨?_, ⟨by kernel_rfl⟩⟩
    exact ⟨⟨(n, ⟨o.loc, o.lost ||| 1#64 <<< tz R, o.cps⟩, R &&& ~~~ (1#64 <<< tz R)), hstep, by simp only; omega, by simp only; omega, hsub⟩, GS.to (by simp [Pk.cs, bv]), by simp⟩
   by_cases c1 : hopAt b p (tz R) = b.r
   ·have eM : fwdM b p R = 1#64 <<< tz R := by rw [fwdM, if_pos (.inr c1)]
    have eO : fwdO b p o R = ⟨o.loc ||| 1#64 <<< tz R, o.lost, o.cps⟩ := by rw [fwdO, if_neg c0, if_pos c1]
    rw [eM] at hpop hsub hstep
    rw [eO] at hstep
    rw [c1] at c0 ⊢
    simp -dsimp [c0, bv]
    try refine ⟨?_, ⟨by kernel_rfl⟩⟩
    exact ⟨⟨(n, ⟨o.loc ||| 1#64 <<< tz R, o.lost, o.cps⟩, R &&& ~~~ (1#64 <<< tz R)), hstep, by simp only; omega, by simp only; omega, hsub⟩, GS.to (by simp [Pk.cs, bv]), by simp⟩
   have eM : fwdM b p R = togR b p R (hopAt b p (tz R)) := by rw [fwdM, if_neg (fun h => h.elim c0 c1)]
   rw [eM] at hpop hsub hstep
   have hhr : 1 ≤ hopAt b p (tz R) ∧ hopAt b p (tz R) ≤ 99 := by
    rw [← hho]
    exact hop_range h1 (by rw [hho]; exact c0)
   have hmk := bits12_c b hb (plnP p) p.set (hopAt b p (tz R)) ⟨hplr.1, hplr.2⟩ hlen
   rw [← mask_eq h1 h2 hhr] at hmk
   simp only [tblT, bv] at hmk
   have hms := masked03_c p (togR b p R (hopAt b p (tz R)))
   have hpk : pkmR p (togR b p R (hopAt b p (tz R))) = pkmR (p.setB R) (togR b p R (hopAt b p (tz R))) := pkm_eq _ h2 i4
   rw [hpk] at hms
   obtain ⟨Q, hQ⟩ : ∃ Q, pkmR (p.setB R) (togR b p R (hopAt b p (tz R))) = Q := ⟨_, rfl⟩
   rw [hQ] at hms
   simp only [pkT, Pk.cs, List.map, bv] at hms
   simp -dsimp [c0, c1]
   try refine ⟨?_, ⟨by kernel_rfl⟩⟩
   refine ACall.of hpl [] 0 ?_
   simp -dsimp
   try refine ⟨?_, ⟨by kernel_rfl⟩⟩
   refine ACall.of hmk [] 0 ?_
   simp -dsimp [← hto]
   try refine ⟨?_, ⟨by kernel_rfl⟩⟩
   have eO : fwdO b p o R = if (pkmR (p.setB R) (togR b p R (hopAt b p (tz R)))).2 = true then ⟨o.loc, o.lost, o.cps ++ [(hopAt b p (tz R), (pkmR (p.setB R) (togR b p R (hopAt b p (tz R)))).1)]⟩ else ⟨o.loc, o.lost ||| togR b p R (hopAt b p (tz R)), o.cps⟩ := by
    rw [fwdO, if_neg c0, if_neg c1]
   rw [eO] at hstep
   rw [hQ] at hstep
   clear hQ eO hpk
   generalize togR b p R (hopAt b p (tz R)) = M at hms hstep hpop hsub ⊢
   refine ACall.of hms [] 0 ?_
   rcases (Bool.eq_false_or_eq_true Q.2).symm with q1 | q1
   ·rw [if_neg (by rw [q1]; simp)] at hstep
    simp -dsimp [q1]
    and_intros
    all_goals try first | omega | exact rfl | exact ⟨by kernel_rfl⟩
    exact ⟨⟨(n, ⟨o.loc, o.lost ||| M, o.cps⟩, R &&& ~~~ M), hstep, by simp only; omega, by simp only; omega, hsub⟩, GS.to (by simp [Pk.cs, bv]), by simp⟩
   ·rw [if_pos q1] at hstep
    simp -dsimp [q1]
    and_intros
    all_goals try first | omega | exact rfl | exact ⟨by kernel_rfl⟩
    exact ⟨⟨(n, ⟨o.loc, o.lost, o.cps ++ [(hopAt b p (tz R), Q.1)]⟩, R &&& ~~~ M), hstep, by simp only; omega, by simp only [List.length_append, List.length_cons, List.length_nil]; omega, hsub⟩, GS.to (by simp [Pk.cs, bv, cpC]), by simp⟩
theorem local13_c (r : Int) (o : Out) (p : Pk) : Contract Tryz.prog 148 [.d (.int .i64 r), outT o, pkT p] [] (.d (.sl ((locV r o p).map dlC))) [] [] := by
 have hl := list01_c o.loc
 simp only [bv] at hl
 refine contract_of Tryz.func148 rfl (fun E0 => ?_)
 refine awp.sound (g := .mk) (ow := []) (kp := (fun k => k==0||k==1||k==2||k==4||k==5||k==6||k==7||k==8||k==9||k==16)) ?_
 rw [Tryz.ntmps148]
 simp -dsimp [outT, bv, pkT, Pk.cs]
 try refine ⟨?_, ⟨by kernel_rfl⟩⟩
 refine ACall.of hl [] 0 ?_
 have hB := bitsI_len o.loc
 unfold locV
 generalize bitsI o.loc = L at hB ⊢
 simp -dsimp [ints]
 try refine ⟨?_, ⟨by kernel_rfl⟩⟩
 refine ALoop.of [] (fun k => k==0||k==1||k==2||k==4||k==5||k==6||k==7||k==8||k==9||k==16) (ι := { i : Nat // i ≤ L.length })
  (fun z => [(Pl.o 5, It.box (p.cs.map .d)), (Pl.s 5, It.v (.ptr (Pl.o 5) 0)), (Pl.s 0, It.v (.d (.int .i64 r))), (Pl.s 6, It.v (.c (Value.slice none 0 0))),
   (Pl.s 7, It.v (.d (.sl (L.map fun n => [D.int .i64 n])))),
   (Pl.s 8, It.v (.oref 8 z.1)), (Pl.o 8, It.row 138 11 (dd (((L.take z.1).map fun k => (r, onlyR p k)).map dlC)) false),
   (Pl.s 9, It.v (.d (.int .i64 z.1)))])
  (fun z => L.length - z.1) ⟨0, by omega⟩ ?_ ?_
 ·exact GS.own' (k := 8) 138 11 (by simp) (by simp) (by simp [Pk.cs, bv])
 ·rintro ⟨i, i1⟩
  by_cases hi : i < L.length
  ·have hiz : (i : Int) < L.length := by omega
   have hg : L[i]? = some L[i] := List.getElem?_eq_getElem hi
   generalize L[i] = k at hg
   have ho := only03_c p k
   have hn : dd (((L.take (i + 1)).map fun k => (r, onlyR p k)).map dlC) = dd (((L.take i).map fun k => (r, onlyR p k)).map dlC) ++ [TV.d (.int .i64 r) :: (onlyR p k).cs.map .d] := by
    rw [List.take_add_one, hg]
    simp [dd, dlC]
   have hlen : (((L.take i).map fun k => (r, onlyR p k)).map dlC).length = i := by simp; omega
   generalize onlyR p k = q at ho hn
   simp [Pk.cs] at hn
   simp only [pkT, Pk.cs, List.map] at ho
   simp -dsimp [hg, hiz, Pk.cs]
   try refine ⟨?_, ⟨by kernel_rfl⟩⟩
   refine ACall.of ho [] 0 ?_
   simp -dsimp [wrap_i64 (n := (i : Int) + 1) (by omega) (by omega)]
   and_intros
   all_goals try first | omega | exact ⟨by kernel_rfl⟩
   exact ⟨⟨i + 1, by omega⟩, GS.to (by simp [hn, Pk.cs]), by simp; omega⟩
  ·have hiz : ¬ (i : Int) < L.length := by omega
   obtain rfl : i = L.length := by omega
   simp -dsimp [hiz]
   refine Fin.view 6 ?_
   simp -dsimp
   refine Fin.of ?_
   simp
end Go.Proofs

set_option maxHeartbeats 16000000
namespace Go.Tr
open Go
theorem GS.ownBp {A : Actv} {l : List (Pl × It)} (p : Pl) (j id : Nat) {cs : List TV} (e z : Nat) (hs : isPl p = true) (hp : look l p = .box cs) (hj : cs[j]? = some (.c (.slice none 0 0))) (ho : look l (.o id) = .none) :
  GS A (look l) (look (put1 p (.box (cs.set j (.oref id 0))) (put1 (.o id) (.row e z [] false) l))) := by
 have := GS.ownB (A := A) (id := id) e z (fun k e => by subst e; simp [isPl] at hs) hp hj ho
 rw [upd_look, upd_look] at this
 exact this
theorem GS.quep {A : Actv} {l : List (Pl × It)} (id : Nat) {k : Nat} {e : TypeId} {es : List (List TV)} (ht : look l (.o id) = .row e k es false) (hn : 0 < es.length) : GS A (look l) (look (put1 (.o id) (.que e k es) l)) := by
 have := GS.que (A := A) ht hn
 rw [upd_look] at this
 exact this
theorem It.only_que (po : Nat → Prop) (e : TypeId) (k : Nat) (es : List (List TV)) : It.only po (.que e k es) = rowsOnly po es := rfl
attribute [simp] It.only_que
theorem GS.cut' {A : Actv} {l l' : List (Pl × It)} (s id : Nat) {n j k : Nat} {e : TypeId} (xs : List (List D)) (hs : look l (.s s) = .v (.osl id n j)) (ht : look l (.o id) = .que e k (dd xs)) (hn : n = xs.length) (hj : j ≤ n)
  (h : Sub (look l) (cutL s id l') ∧ xIds (cutL s id l') = xIds l) (hid : id ∉ oIds (cutL s id l'))
  (h' : Sub (look (put1 (.s s) (.v (.oref id (n - j))) (put1 (.o id) (.que e k (dd (xs.drop j))) (cutL s id l')))) l' ∧ xIds l' = xIds (put1 (.s s) (.v (.oref id (n - j))) (put1 (.o id) (.que e k (dd (xs.drop j))) (cutL s id l')))) : GS A (look l) (look l') :=
 GS.cut (cutL s id l') s id hs ht hn hj h hid h'
end Go.Tr
namespace Go.Proofs
open Go Go.Tr
def crC (x : Int × Int × BitVec 64) : List D := [.int .i64 x.1, .int .i64 x.2.1, bv x.2.2]
def lsC (x : Int × BitVec 64) : List D := [.int .i64 x.1, bv x.2]
def trcT (t : Trc) : TV := .agg [.d (.sl (t.dl.map dlC)), .d (.sl (t.cr.map crC)), .d (.sl (t.ls.map lsC))]
theorem run_c (l : List Tb) (hl : SmL l) (p : Pk) (r : Int) : Contract Tryz.prog 80 [.d (.sl (tbs l)), pkT p, .d (.int .i64 r)] [] (.tup [trcT (runR l p r).1, .d (.int .i64 (runR l p r).2)]) [] [] := by
 have hck := checkA_c l hl
 have hv := valid_c2 p
 have hf := find_c l hl r
 simp only [pkT, Pk.cs, List.map] at hv
 refine contract_of Tryz.func80 rfl (fun E0 => ?_)
 refine awp.sound (g := .mk) (ow := [60]) (kp := (fun k => k==0||k==1||k==2||k==4||k==6||k==7||k==8||k==9||k==10||k==11||k==12||k==13||k==14||k==15||k==18||k==26||k==34||k==38||k==43||k==63||k==77||k==109||k==121||k==122||k==123||k==124)) ?_
 rw [Tryz.ntmps80]
 simp -dsimp [pkT, Pk.cs]
 try refine ⟨?_, ⟨by kernel_rfl⟩⟩
 refine ACall.of hck [] 0 ?_
 by_cases h1 : chkA l = 0
 rotate_left
 ·simp -dsimp [h1]
  try refine ⟨?_, ⟨by kernel_rfl⟩⟩
  refine Fin.box (.o 6) rfl ?_
  simp -dsimp
  refine Fin.of ?_
  simp [runR, h1, trcT, tr0]
 simp -dsimp [h1]
 try refine ⟨?_, ⟨by kernel_rfl⟩⟩
 refine ACall.of hv [] 0 ?_
 rcases (Bool.eq_false_or_eq_true p.ok).symm with h2 | h2
 ·simp -dsimp [h2]
  try refine ⟨?_, ⟨by kernel_rfl⟩⟩
  refine Fin.box (.o 6) rfl ?_
  simp -dsimp
  refine Fin.of ?_
  simp [runR, trcT, tr0, h1, h2]
 cases hfd : findT l r with
 | none =>
   rw [hfd] at hf
   simp only [foundT, Option.getD_none, Option.isSome_none, tb0, tblT] at hf
   simp -dsimp [h2]
   try refine ⟨?_, ⟨by kernel_rfl⟩⟩
   refine ACall.of hf [] 0 ?_
   simp -dsimp
   try refine ⟨?_, ⟨by kernel_rfl⟩⟩
   refine Fin.box (.o 6) rfl ?_
   simp -dsimp
   refine Fin.of ?_
   simp [runR, trcT, tr0, h1, h2, hfd]
 | some b =>
   rw [hfd] at hf
   simp only [foundT, Option.getD_some, Option.isSome_some, tblT] at hf
   simp -dsimp [h2]
   try refine ⟨?_, ⟨by kernel_rfl⟩⟩
   refine ACall.of hf [] 0 ?_
   by_cases h3 : p.mode = 2
   ·simp -dsimp [eq_true h3]
    try refine ⟨?_, ⟨by kernel_rfl⟩⟩
    refine Fin.box (.o 6) rfl ?_
    simp -dsimp
    refine Fin.of ?_
    simp [runR, trcT, tr0, h1, h2, hfd, h3]
   by_cases h4 : p.subd = b.sd
   rotate_left
   ·simp -dsimp [h3, h4]
    try refine ⟨?_, ⟨by kernel_rfl⟩⟩
    refine Fin.box (.o 6) rfl ?_
    simp -dsimp
    refine Fin.of ?_
    simp [runR, trcT, tr0, h1, h2, hfd, h3, h4]
   by_cases h5 : p.len = b.len
   rotate_left
   ·simp -dsimp [h3, eq_true h4, h5]
    try refine ⟨?_, ⟨by kernel_rfl⟩⟩
    refine Fin.box (.o 6) rfl ?_
    simp -dsimp
    refine Fin.of ?_
    simp [runR, trcT, tr0, h1, h2, hfd, h3, h4, h5]
   simp -dsimp [h3, eq_true h4, eq_true h5]
   try refine ⟨?_, ⟨by kernel_rfl⟩⟩
   have hr : runR l p r = (runG l (wt p) [(r, p)] tr0, 0) := by simp [runR, h1, h2, hfd, h3, h4, h5]
   have hwt := wt_le h2
   rw [hr]
   have hsum1 : wsum [(r, p)] = wt p := by simp [wsum]
   refine ALoop.of [60] (fun k => k==0||k==1||k==2||k==4||k==6||k==7||k==8||k==9||k==10||k==11||k==12||k==13||k==14||k==15||k==18||k==26||k==34||k==38||k==43||k==63||k==77||k==109||k==121||k==122||k==123||k==124) (ι := { z : Nat × List (Int × Pk) × Trc // runG l (wt p) [(r, p)] tr0 = runG l z.1 z.2.1 z.2.2 ∧ wsum z.2.1 ≤ z.1 ∧ z.1 ≤ 8129 ∧ z.2.2.dl.length + 64 * z.1 ≤ 600000 ∧ z.2.2.cr.length + 64 * z.1 ≤ 600000 ∧ z.2.2.ls.length + z.1 ≤ 600000 })
    (fun z => [(Pl.s 0, It.v (.d (.sl (tbs l)))), (Pl.o 6, It.box [TV.c (Value.slice none 0 0), TV.c (Value.slice none 0 0), TV.c (Value.slice none 0 0)]), (Pl.s 6, It.v (.ptr (Pl.o 6) 0)), (Pl.s 7, It.v (.d (.int .i64 0))),
     (Pl.o 10, It.box [TV.oref 70 z.1.2.2.dl.length, TV.oref 71 z.1.2.2.cr.length, TV.oref 72 z.1.2.2.ls.length]), (Pl.s 10, It.v (.ptr (Pl.o 10) 0)),
     (Pl.o 70, It.row 138 11 (dd (z.1.2.2.dl.map dlC)) false), (Pl.o 71, It.row 158 3 (dd (z.1.2.2.cr.map crC)) false), (Pl.o 72, It.row 140 2 (dd (z.1.2.2.ls.map lsC)) false),
     (Pl.o 60, It.que 186 11 (dd (z.1.2.1.map dlC))), (Pl.s 11, It.v (.oref 60 z.1.2.1.length))])
    (fun z => z.1.1) ⟨(wt p, [(r, p)], tr0), rfl, by simp only [hsum1]; omega, hwt, by simp [tr0]; omega, by simp [tr0]; omega, by simp [tr0]; omega⟩ ?_ ?_
   ·have NIL3 : ∀ (a b c : TV), [a, b, c].set 0 (TV.oref 70 0) = [TV.oref 70 0, b, c] := fun _ _ _ => rfl
    refine (GS.quep 60 (e := 186) (k := 11) (es := dd ([(r, p)].map dlC)) (by simp [dlC, Pk.cs]) (by simp)).trans ?_
    simp only [put1, Pl.o.injEq, reduceCtorEq, if_false, if_true, Nat.reduceEqDiff]
    refine (GS.ownBp (.o 10) 0 70 (cs := [.c (.slice none 0 0), .c (.slice none 0 0), .c (.slice none 0 0)]) 138 11 (by simp) (by simp) (by simp) (by simp)).trans ?_
    simp only [put1, Pl.o.injEq, reduceCtorEq, if_false, if_true, Nat.reduceEqDiff, List.set]
    refine (GS.ownBp (.o 10) 1 71 (cs := [.oref 70 0, .c (.slice none 0 0), .c (.slice none 0 0)]) 158 3 (by simp) (by simp) (by simp) (by simp)).trans ?_
    simp only [put1, Pl.o.injEq, reduceCtorEq, if_false, if_true, Nat.reduceEqDiff, List.set]
    exact GS.ownB' (.o 10) 2 72 (cs := [.oref 70 0, .oref 71 0, .c (.slice none 0 0)]) 140 2 (by simp) (by simp) (by simp) (by simp) (by simp [tr0])
   ·rintro ⟨⟨n, Q, t⟩, i1, i2, i3, i4, i5, i6⟩
    simp only at i1 i2 i3 i4 i5 i6
    cases Q with
    | nil =>
      have e : runG l (wt p) [(r, p)] tr0 = t := by rw [i1, runG_nil]
      simp -dsimp
      refine Fin.box (.o 6) rfl ?_
      simp -dsimp
      refine Fin.of ?_
      simp [trcT, e]
    | cons q Q =>
      obtain ⟨q1, q2⟩ := q
      rw [wsum_cons] at i2
      have hq := nextQ_wt l (q1, q2)
      have hw1 : 1 ≤ wt q2 := by unfold wt; omega
      simp only at i2 hq
      obtain ⟨n, rfl⟩ : ∃ j, n = j + 1 := ⟨n - 1, by omega⟩
      rw [runG] at i1
      have hQl := len_wsum Q
      have hfq := find_c l hl q1
      simp -dsimp [dlC, Pk.cs]
      and_intros
      all_goals try first | omega | exact ⟨by kernel_rfl⟩
      cases hfd2 : findT l q1 with
      | none =>
        have eN : nextQ l (q1, q2) = [] := by simp [nextQ, hfd2]
        have eS : stepT l (q1, q2) t = ⟨t.dl, t.cr, t.ls ++ [(q1, q2.bits)]⟩ := by simp [stepT, hfd2]
        rw [eN, eS, List.append_nil] at i1
        rw [hfd2] at hfq
        simp only [foundT, Option.getD_none, Option.isSome_none, tb0, tblT] at hfq
        refine ACall.of hfq [] 0 ?_
        simp -dsimp
        and_intros
        all_goals try first | omega | exact ⟨by kernel_rfl⟩
        refine ⟨⟨(n, Q, ⟨t.dl, t.cr, t.ls ++ [(q1, q2.bits)]⟩), i1, by simp only; omega, by simp only; omega, by simp only; omega, by simp only; omega, by simp only [List.length_append, List.length_cons, List.length_nil]; omega⟩, ?_, by simp⟩
        refine GS.cut' 11 60 (n := Q.length + 1) (j := 1) (k := 11) (e := 186) (((q1, q2) :: Q).map dlC) (by simp) (by simp [dlC, Pk.cs]) (by simp) (by simp) (by simp [lsC, bv]) (by simp) (by simp [lsC, bv])
      | some b2 =>
        have hb2 : b2.Sm := hl.t b2 (List.mem_of_find?_eq_some hfd2)
        have eN : nextQ l (q1, q2) = (fwdR b2 q2).1.cps := by simp [nextQ, hfd2]
        have eS : stepT l (q1, q2) t = ⟨t.dl ++ locV q1 (fwdR b2 q2).1 q2, t.cr ++ (fwdR b2 q2).1.cps.map (fun c => (q1, c.1, c.2.bits)), if (fwdR b2 q2).1.lost = 0#64 then t.ls else t.ls ++ [(q1, (fwdR b2 q2).1.lost)]⟩ := by simp [stepT, hfd2]
        rw [eN, eS] at i1
        rw [eN] at hq
        have hcl := fwdR_len b2 q2
        have hfp := fpacket_c b2 hb2 q2
        have hlc := flocal_c b2 q1 (fwdR b2 q2).1 q2
        have hll : (locV q1 (fwdR b2 q2).1 q2).length ≤ 64 := by unfold locV; rw [List.length_map]; exact bitsI_len _
        rw [hfd2] at hfq
        simp only [foundT, Option.getD_some, Option.isSome_some, tblT] at hfq
        generalize fwdR b2 q2 = F at i1 hq hcl hfp hlc hll
        obtain ⟨o, er⟩ := F
        simp only at i1 hq hcl hfp hlc hll
        generalize locV q1 o q2 = LV at i1 hlc hll
        have hdl : dLen 11 (LV.map dlC) := dLen_map 11 _ _ fun _ => rfl
        obtain ⟨oloc, olost, ocps⟩ := o
        simp only at i1 hq hcl
        have hCl : (ocps.map fun c => (q1, c.1, c.2.bits)).length = ocps.length := by simp
        have hCg : ∀ (j : Nat) (c : Int × Pk), ocps[j]? = some c → (ocps.map fun c => (q1, c.1, c.2.bits))[j]? = some (q1, c.1, c.2.bits) := fun j c h => by simp [h]
        generalize (ocps.map fun c => (q1, c.1, c.2.bits)) = CRL at i1 hCl hCg
        simp only [tblT, pkT, Pk.cs, List.map, outT, bv] at hfp hlc
        refine ACall.of hfq [] 0 ?_
        simp -dsimp
        try refine ⟨?_, ⟨by kernel_rfl⟩⟩
        refine ACall.of hfp [] 0 ?_
        simp -dsimp
        try refine ⟨?_, ⟨by kernel_rfl⟩⟩
        try refine ⟨rfl, ?_⟩
        try refine ⟨?_, ⟨by kernel_rfl⟩⟩
        refine ACall.of hlc [] 0 ?_
        by_cases c0 : olost = 0#64
        ·simp -dsimp [c0]
         and_intros
         all_goals try first | omega | exact hdl | exact rfl | exact ⟨by kernel_rfl⟩
         refine ALoop.of [60] (fun k => k==0||k==1||k==2||k==4||k==6||k==7||k==8||k==9||k==10||k==11||k==12||k==13||k==14||k==15||k==18||k==26||k==34||k==38||k==43||k==63||k==77||k==109||k==121||k==122||k==123||k==124) (ι := { j : Nat // j ≤ ocps.length })
          (fun j => [(Pl.s 0, It.v (.d (.sl (tbs l)))), (Pl.o 6, It.box [TV.c (Value.slice none 0 0), TV.c (Value.slice none 0 0), TV.c (Value.slice none 0 0)]), (Pl.s 6, It.v (.ptr (Pl.o 6) 0)), (Pl.s 7, It.v (.d (.int .i64 0))),
           (Pl.o 10, It.box [TV.oref 70 (t.dl.length + LV.length), TV.oref 71 (t.cr.length + j.1), TV.oref 72 t.ls.length]), (Pl.s 10, It.v (.ptr (Pl.o 10) 0)),
           (Pl.o 70, It.row 138 11 (dd (t.dl.map dlC) ++ dd (LV.map dlC)) false), (Pl.o 71, It.row 158 3 (dd (t.cr.map crC) ++ dd (List.take j.1 (CRL.map crC))) false), (Pl.o 72, It.row 140 2 (dd (t.ls.map lsC)) false),
           (Pl.o 60, It.que 186 11 (dd (Q.map dlC) ++ dd (List.take j.1 (ocps.map dlC)))), (Pl.s 11, It.v (.oref 60 (Q.length + j.1))),
           (Pl.o 12, It.box (TV.d (.int .i64 q1) :: q2.cs.map .d)), (Pl.s 12, It.v (.ptr (Pl.o 12) 0)),
           (Pl.s 121, It.v (.d (.sl (List.map cpC ocps)))), (Pl.s 122, It.v (.d (.int .i64 ocps.length))), (Pl.s 123, It.v (.d (.int .i64 j.1)))])
          (fun j => ocps.length - j.1) ⟨0, by omega⟩ ?_ ?_
         ·exact GS.cut' 11 60 (n := Q.length + 1) (j := 1) (k := 11) (e := 186) (((q1, q2) :: Q).map dlC) (by simp) (by simp [dlC, Pk.cs]) (by simp) (by simp) (by simp [lsC, bv, Pk.cs]) (by simp) (by simp [lsC, bv, Pk.cs])
         ·rintro ⟨j, j1⟩
          by_cases hj : j < ocps.length
          ·have hjz : (j : Int) < ocps.length := by omega
           have hg : ocps[j]? = some ocps[j] := List.getElem?_eq_getElem hj
           have hcg := hCg j _ hg
           generalize ocps[j] = c at hg hcg
           obtain ⟨c1, c2⟩ := c
           have hn1 : dd (List.take (j + 1) (CRL.map crC)) = dd (List.take j (CRL.map crC)) ++ [[TV.d (.int .i64 q1), TV.d (.int .i64 c1), TV.d (bv c2.bits)]] := by
            rw [List.take_add_one, List.getElem?_map, hcg]; simp [dd, crC]
           have hn2 : dd (List.take (j + 1) (ocps.map dlC)) = dd (List.take j (ocps.map dlC)) ++ [TV.d (.int .i64 c1) :: c2.cs.map .d] := by
            rw [List.take_add_one, List.getElem?_map, hg]; simp [dd, dlC]
           simp [Pk.cs] at hn2
           have hm1 : min j CRL.length = j := by omega
           have hm2 : min j ocps.length = j := by omega
           simp -dsimp [hg, hjz, cpC, Pk.cs, hm1, hm2, wrap_i64 (n := (j : Int) + 1) (by omega) (by omega)]
           and_intros
           all_goals try first | omega | exact ⟨by kernel_rfl⟩
           exact ⟨⟨j + 1, by omega⟩, GS.to (by simp [hn1, hn2, Pk.cs, Nat.add_assoc]), by simp; omega⟩
          ·have hjz : ¬ (j : Int) < ocps.length := by omega
           obtain rfl : j = ocps.length := by omega
           have ht1 : List.take ocps.length (CRL.map crC) = CRL.map crC := List.take_of_length_le (by simp; omega)
           have ht2 : List.take ocps.length (ocps.map dlC) = ocps.map dlC := List.take_of_length_le (by simp)
           simp -dsimp [hjz]
           try refine ⟨?_, ⟨by kernel_rfl⟩⟩
           exact ⟨⟨(n, Q ++ ocps, _), i1, by simp only [wsum_app]; omega, by simp only; omega, by simp only [List.length_append]; omega, by simp only [List.length_append, hCl]; omega, by simp only [c0, if_true]; omega⟩, GS.to (by simp [ht1, ht2, c0, hCl, lsC, bv]), by simp⟩
        ·simp -dsimp [c0]
         and_intros
         all_goals try first | omega | exact hdl | exact rfl | exact ⟨by kernel_rfl⟩
         refine ALoop.of [60] (fun k => k==0||k==1||k==2||k==4||k==6||k==7||k==8||k==9||k==10||k==11||k==12||k==13||k==14||k==15||k==18||k==26||k==34||k==38||k==43||k==63||k==77||k==109||k==121||k==122||k==123||k==124) (ι := { j : Nat // j ≤ ocps.length })
          (fun j => [(Pl.s 0, It.v (.d (.sl (tbs l)))), (Pl.o 6, It.box [TV.c (Value.slice none 0 0), TV.c (Value.slice none 0 0), TV.c (Value.slice none 0 0)]), (Pl.s 6, It.v (.ptr (Pl.o 6) 0)), (Pl.s 7, It.v (.d (.int .i64 0))),
           (Pl.o 10, It.box [TV.oref 70 (t.dl.length + LV.length), TV.oref 71 (t.cr.length + j.1), TV.oref 72 (t.ls.length + 1)]), (Pl.s 10, It.v (.ptr (Pl.o 10) 0)),
           (Pl.o 70, It.row 138 11 (dd (t.dl.map dlC) ++ dd (LV.map dlC)) false), (Pl.o 71, It.row 158 3 (dd (t.cr.map crC) ++ dd (List.take j.1 (CRL.map crC))) false), (Pl.o 72, It.row 140 2 (dd (t.ls.map lsC) ++ [[TV.d (.int .i64 q1), TV.d (bv olost)]]) false),
           (Pl.o 60, It.que 186 11 (dd (Q.map dlC) ++ dd (List.take j.1 (ocps.map dlC)))), (Pl.s 11, It.v (.oref 60 (Q.length + j.1))),
           (Pl.o 12, It.box (TV.d (.int .i64 q1) :: q2.cs.map .d)), (Pl.s 12, It.v (.ptr (Pl.o 12) 0)),
           (Pl.s 121, It.v (.d (.sl (List.map cpC ocps)))), (Pl.s 122, It.v (.d (.int .i64 ocps.length))), (Pl.s 123, It.v (.d (.int .i64 j.1)))])
          (fun j => ocps.length - j.1) ⟨0, by omega⟩ ?_ ?_
         ·exact GS.cut' 11 60 (n := Q.length + 1) (j := 1) (k := 11) (e := 186) (((q1, q2) :: Q).map dlC) (by simp) (by simp [dlC, Pk.cs]) (by simp) (by simp) (by simp [lsC, bv, Pk.cs]) (by simp) (by simp [lsC, bv, Pk.cs])
         ·rintro ⟨j, j1⟩
          by_cases hj : j < ocps.length
          ·have hjz : (j : Int) < ocps.length := by omega
           have hg : ocps[j]? = some ocps[j] := List.getElem?_eq_getElem hj
           have hcg := hCg j _ hg
           generalize ocps[j] = c at hg hcg
           obtain ⟨c1, c2⟩ := c
           have hn1 : dd (List.take (j + 1) (CRL.map crC)) = dd (List.take j (CRL.map crC)) ++ [[TV.d (.int .i64 q1), TV.d (.int .i64 c1), TV.d (bv c2.bits)]] := by
            rw [List.take_add_one, List.getElem?_map, hcg]; simp [dd, crC]
           have hn2 : dd (List.take (j + 1) (ocps.map dlC)) = dd (List.take j (ocps.map dlC)) ++ [TV.d (.int .i64 c1) :: c2.cs.map .d] := by
            rw [List.take_add_one, List.getElem?_map, hg]; simp [dd, dlC]
           simp [Pk.cs] at hn2
           have hm1 : min j CRL.length = j := by omega
           have hm2 : min j ocps.length = j := by omega
           simp -dsimp [hg, hjz, cpC, Pk.cs, hm1, hm2, wrap_i64 (n := (j : Int) + 1) (by omega) (by omega)]
           and_intros
           all_goals try first | omega | exact ⟨by kernel_rfl⟩
           exact ⟨⟨j + 1, by omega⟩, GS.to (by simp [hn1, hn2, Pk.cs, Nat.add_assoc]), by simp; omega⟩
          ·have hjz : ¬ (j : Int) < ocps.length := by omega
           obtain rfl : j = ocps.length := by omega
           have ht1 : List.take ocps.length (CRL.map crC) = CRL.map crC := List.take_of_length_le (by simp; omega)
           have ht2 : List.take ocps.length (ocps.map dlC) = ocps.map dlC := List.take_of_length_le (by simp)
           simp -dsimp [hjz]
           try refine ⟨?_, ⟨by kernel_rfl⟩⟩
           exact ⟨⟨(n, Q ++ ocps, _), i1, by simp only [wsum_app]; omega, by simp only; omega, by simp only [List.length_append]; omega, by simp only [List.length_append, hCl]; omega, by simp only [c0, if_false, List.length_append, List.length_cons, List.length_nil]; omega⟩, GS.to (by simp [ht1, ht2, c0, hCl, lsC, bv]), by simp⟩
end Go.Proofs

namespace Go.Proofs
def lkLt (x y : Lk) : Prop := x.a < y.a ∨ (x.a = y.a ∧ x.b < y.b)
theorem lkLt_trans {x y z : Lk} (h1 : lkLt x y) (h2 : lkLt y z) : lkLt x z := by
 unfold lkLt at *; omega
theorem adj_pw {α : Type} {q : α → α → Bool} {r : α → α → Prop} (hr : ∀ x y, q x y = false → r x y) (ht : ∀ x y z, r x y → r y z → r x z) : ∀ {l : List α}, adjB q l = false → l.Pairwise r
 | [], _ => List.Pairwise.nil
 | [x], _ => by simp
 | x :: y :: l, h => by
   simp only [adjB, Bool.or_eq_false_iff] at h
   have ih := adj_pw hr ht (l := y :: l) h.2
   refine List.Pairwise.cons (fun z hz => ?_) ih
   rcases List.mem_cons.1 hz with rfl | hz
   ·exact hr _ _ h.1
   ·exact ht _ _ _ (hr _ _ h.1) ((List.pairwise_cons.1 ih).1 z hz)
theorem Topo.Ok.lpw {g : Topo} (h : g.Ok) : g.ls.Pairwise lkLt :=
 adj_pw (r := lkLt) (fun x y h => by simp only [Bool.or_eq_false_iff, decide_eq_false_iff_not, Bool.and_eq_false_iff] at h; unfold lkLt; omega) (fun _ _ _ => lkLt_trans) h.lord
theorem Topo.Ok.rpw {g : Topo} (h : g.Ok) : g.rs.Pairwise (fun x y => x.id < y.id) :=
 adj_pw (r := fun x y => x.id < y.id) (fun x y h => by simpa using h) (fun _ _ _ => Int.lt_trans) h.ord
theorem Topo.Ok.lab {g : Topo} (h : g.Ok) {x : Lk} (hx : x ∈ g.ls) : x.a < x.b := by
 have := List.any_eq_false.1 h.ab x hx
 simpa using this
theorem Topo.Ok.ends' {g : Topo} (h : g.Ok) {x : Lk} (hx : x ∈ g.ls) : hasR g.rs x.a = true ∧ hasR g.rs x.b = true := by
 have := List.any_eq_false.1 h.ends x hx
 simpa using this
theorem price_mem : ∀ {l : List Lk} {f t c : Int}, price l f t = some c → ∃ x ∈ l, (x.a = f ∧ x.b = t ∧ x.ca = c) ∨ (x.b = f ∧ x.a = t ∧ x.cb = c)
 | [], _, _, _, h => by simp [price] at h
 | x :: l, f, t, c, h => by
   rw [price] at h
   split at h
   ·rename_i hx; exact ⟨x, by simp, .inl ⟨hx.1, hx.2, by simpa using h⟩⟩
   ·split at h
    ·rename_i hx; exact ⟨x, by simp, .inr ⟨hx.1, hx.2, by simpa using h⟩⟩
    ·obtain ⟨y, hy, h2⟩ := price_mem h
     exact ⟨y, by simp [hy], h2⟩
theorem price_of : ∀ {l : List Lk}, l.Pairwise lkLt → (∀ x ∈ l, x.a < x.b) → ∀ {x : Lk}, x ∈ l → price l x.a x.b = some x.ca ∧ price l x.b x.a = some x.cb
 | [], _, _, x, hx => by simp at hx
 | y :: l, hp, hab, x, hx => by
   have hy := hab y (by simp)
   rcases List.mem_cons.1 hx with rfl | hx'
   ·refine ⟨by rw [price, if_pos ⟨rfl, rfl⟩], ?_⟩
    rw [price, if_neg (by omega), if_pos ⟨rfl, rfl⟩]
   ·have hlt := (List.pairwise_cons.1 hp).1 x hx'
    have hx2 := hab x hx
    have ih := price_of (List.pairwise_cons.1 hp).2 (fun z hz => hab z (by simp [hz])) hx'
    unfold lkLt at hlt
    refine ⟨?_, ?_⟩
    ·rw [price, if_neg (by omega), if_neg (by omega)]; exact ih.1
    ·rw [price, if_neg (by omega), if_neg (by omega)]; exact ih.2
theorem price_has {g : Topo} (hg : g.Ok) {f t c : Int} (h : price g.ls f t = some c) : hasR g.rs f = true ∧ hasR g.rs t = true := by
 obtain ⟨x, hx, h1⟩ := price_mem h
 have h2 := hg.ends' hx
 rcases h1 with ⟨rfl, rfl, _⟩ | ⟨rfl, rfl, _⟩
 ·exact h2
 ·exact ⟨h2.2, h2.1⟩
theorem price_le {g : Topo} (hg : g.Ok) {f t c : Int} (h : price g.ls f t = some c) : 1 ≤ c ∧ c ≤ 1000 := by
 obtain ⟨x, hx, h1⟩ := price_mem h
 have h2 := hg.c hx
 omega
theorem near_iff {g : Topo} (hg : g.Ok) {r x : Int} : x ∈ near g r ↔ ∃ c, price g.ls r x = some c := by
 simp only [near, List.mem_map, List.mem_filter]
 constructor
 ·rintro ⟨y, ⟨_, h⟩, rfl⟩
  exact Option.isSome_iff_exists.1 h
 ·rintro ⟨c, h⟩
  obtain ⟨y, hy, rfl⟩ := List.mem_map.1 (hasR_mem.1 (price_has hg h).2)
  exact ⟨y, ⟨hy, by simp [h]⟩, rfl⟩
inductive Wk (g : Topo) (to : Int) : Nat → Int → Int → Prop
 | nil : Wk g to 0 to 0
 | cons {k : Nat} {x y c v : Int} : price g.ls x y = some c → Wk g to k y v → Wk g to (k + 1) x (c + v)
theorem Wk.nonneg {g : Topo} (hg : g.Ok) {to : Int} {k : Nat} {x v : Int} (h : Wk g to k x v) : (k : Int) ≤ v := by
 induction h with
 | nil => simp
 | cons hp _ ih => have := price_le hg hp; omega
theorem Wk.le {g : Topo} (hg : g.Ok) {to : Int} {k : Nat} {x v : Int} (h : Wk g to k x v) : v ≤ 1000 * k := by
 induction h with
 | nil => simp
 | cons hp _ ih => have := price_le hg hp; omega
inductive Wa (g : Topo) (to : Int) (S : List Int) : Int → Int → Prop
 | nil : to ∉ S → Wa g to S to 0
 | cons {x y c v : Int} : x ∉ S → price g.ls x y = some c → Wa g to S y v → Wa g to S x (c + v)
theorem Wk.wa {g : Topo} {to : Int} {k : Nat} {x v : Int} (h : Wk g to k x v) : Wa g to [] x v := by
 induction h with
 | nil => exact .nil (by simp)
 | cons hp _ ih => exact .cons (by simp) hp ih
theorem Wa.notin {g : Topo} {to : Int} {S : List Int} {x v : Int} (h : Wa g to S x v) : x ∉ S := by
 cases h with
 | nil h => exact h
 | cons h _ _ => exact h
theorem Wa.last {g : Topo} (hg : g.Ok) {to : Int} {S : List Int} (x : Int) {z v : Int} (h : Wa g to S z v) :
  Wa g to (x :: S) z v ∨ x = to ∨ ∃ y c w, price g.ls x y = some c ∧ Wa g to (x :: S) y w ∧ c + w ≤ v := by
 induction h with
 | nil h =>
   by_cases e : x = to
   ·exact .inr (.inl e)
   ·exact .inl (.nil (by simp [h, Ne.symm e]))
 | @cons z y c v hz hp hw ih =>
   have hc := price_le hg hp
   rcases ih with ih | ih | ⟨y', c', w', h1, h2, h3⟩
   ·by_cases e : z = x
    ·subst e; exact .inr (.inr ⟨y, c, v, hp, ih, by omega⟩)
    ·exact .inl (.cons (by simp [hz, e]) hp ih)
   ·exact .inr (.inl ih)
   ·exact .inr (.inr ⟨y', c', w', h1, h2, by omega⟩)
theorem Wa.nonneg {g : Topo} (hg : g.Ok) {to : Int} {S : List Int} {x v : Int} (h : Wa g to S x v) : 0 ≤ v := by
 induction h with
 | nil => simp
 | cons _ hp _ ih => have := price_le hg hp; omega
theorem Wa.short {g : Topo} (hg : g.Ok) {to : Int} (hto : hasR g.rs to = true) : ∀ (m : Nat) {S : List Int} {x v : Int}, Wa g to S x v → hasR g.rs x = true → S.Nodup → (∀ y ∈ S, hasR g.rs y = true) → g.rs.length ≤ S.length + 1 + m → ∃ k w, k ≤ m ∧ w ≤ v ∧ Wk g to k x w := by
 intro m
 induction m with
 | zero =>
   intro S x v h hx hS hh hm
   rcases h.last hg x with h1 | h1 | ⟨y, c, w, h1, h2, h3⟩
   ·exact absurd h1.notin (by simp)
   ·subst h1; exact ⟨0, 0, Nat.le_refl _, h.nonneg hg, .nil⟩
   ·exfalso
    have hy := price_has hg h1
    have hn : (y :: x :: S).Nodup := List.nodup_cons.2 ⟨h2.notin, List.nodup_cons.2 ⟨h.notin, hS⟩⟩
    have := seen_le hn (g := g) (fun z hz => by
     simp only [List.mem_cons] at hz
     rcases hz with rfl | rfl | hz
     ·exact hy.2
     ·exact hx
     ·exact hh z hz)
    simp at this; omega
 | succ m ih =>
   intro S x v h hx hS hh hm
   rcases h.last hg x with h1 | h1 | ⟨y, c, w, h1, h2, h3⟩
   ·exact absurd h1.notin (by simp)
   ·subst h1; exact ⟨0, 0, by omega, h.nonneg hg, .nil⟩
   ·have hy := price_has hg h1
    obtain ⟨k, w', k1, k2, k3⟩ := ih h2 hy.2 (List.nodup_cons.2 ⟨h.notin, hS⟩) (fun z hz => by
     rcases List.mem_cons.1 hz with rfl | hz
     ·exact hx
     ·exact hh z hz) (by simp; omega)
    exact ⟨k + 1, c + w', by omega, by omega, .cons h1 k3⟩
theorem Wk.has {g : Topo} (hg : g.Ok) {to : Int} (hto : hasR g.rs to = true) {k : Nat} {x v : Int} (h : Wk g to k x v) : hasR g.rs x = true := by
 cases h with
 | nil => exact hto
 | cons hp _ => exact (price_has hg hp).1
theorem has_pos {g : Topo} {x : Int} (h : hasR g.rs x = true) : 1 ≤ g.rs.length := by
 cases hl : g.rs with
 | nil => simp [hasR, hl] at h
 | cons a l => simp
theorem Wk.short {g : Topo} (hg : g.Ok) {to : Int} (hto : hasR g.rs to = true) {k : Nat} {x v : Int} (h : Wk g to k x v) : ∃ j w, j + 1 ≤ g.rs.length ∧ w ≤ v ∧ Wk g to j x w := by
 have hp := has_pos hto
 obtain ⟨j, w, h1, h2, h3⟩ := h.wa.short hg hto (g.rs.length - 1) (h.has hg hto) List.nodup_nil (by simp) (by simp; omega)
 exact ⟨j, w, by omega, h2, h3⟩
theorem placeR_some : ∀ {l : List Rt} {r : Int}, hasR l r = true → ∃ i, placeR l r = some i
 | [], r, h => by simp [hasR] at h
 | x :: l, r, h => by
   by_cases e : x.id = r
   ·exact ⟨0, by rw [placeR, if_pos e]⟩
   ·obtain ⟨i, hi⟩ := placeR_some (l := l) (r := r) (by simpa [hasR, e] using h)
    exact ⟨i + 1, by rw [placeR, if_neg e, hi]; rfl⟩
theorem placeR_get : ∀ {l : List Rt} {r : Int} {i : Nat}, placeR l r = some i → ∃ x, l[i]? = some x ∧ x.id = r
 | [], r, i, h => by simp [placeR] at h
 | x :: l, r, i, h => by
   rw [placeR] at h
   split at h
   ·simp at h; subst h; exact ⟨x, by simp, by assumption⟩
   ·cases hp : placeR l r with
    | none => simp [hp] at h
    | some j =>
      simp [hp] at h; subst h
      obtain ⟨y, h1, h2⟩ := placeR_get hp
      exact ⟨y, by simpa using h1, h2⟩
theorem placeR_inj {l : List Rt} {r s : Int} {i : Nat} (h1 : placeR l r = some i) (h2 : placeR l s = some i) : r = s := by
 obtain ⟨x, a1, rfl⟩ := placeR_get h1
 obtain ⟨y, b1, rfl⟩ := placeR_get h2
 rw [a1] at b1; simp at b1; rw [b1]
theorem atR_plc {g : Topo} {d : List Int} {r : Int} (h : hasR g.rs r = true) : atR g d r = d.getD (plc g r) 0 := by
 obtain ⟨i, hi⟩ := placeR_some h
 simp [atR, plc, hi]
theorem atR_set {g : Topo} {d : List Int} (hd : g.rs.length ≤ d.length) {r s v : Int} (hr : hasR g.rs r = true) (hs : hasR g.rs s = true) : atR g (d.set (plc g r) v) s = if s = r then v else atR g d s := by
 obtain ⟨i, hi⟩ := placeR_some hr
 obtain ⟨j, hj⟩ := placeR_some hs
 have hil := placeR_lt hi
 simp only [atR, plc, hi, hj, Option.getD_some]
 rw [List.getD_eq_getElem?_getD, List.getD_eq_getElem?_getD, List.getElem?_set]
 by_cases e : s = r
 ·subst e
  rw [hi] at hj; simp at hj; subst hj
  rw [if_pos rfl, if_pos rfl, if_pos (by omega)]; rfl
 ·rw [if_neg e, if_neg (fun h => e (by subst h; exact placeR_inj hj hi))]
theorem atR_relax {g : Topo} (hg : g.Ok) {d : List Int} (hd : g.rs.length ≤ d.length) {l : Lk} (hl : l ∈ g.ls) {s : Int} (hs : hasR g.rs s = true) :
  atR g (relax g d l) s = (if s = l.a then (if atR g d l.b < far then min (atR g d l.a) (l.ca + atR g d l.b) else atR g d l.a)
   else if s = l.b then
    (if (if atR g d l.b < far then min (atR g d l.a) (l.ca + atR g d l.b) else atR g d l.a) < far then min (atR g d l.b) (l.cb + (if atR g d l.b < far then min (atR g d l.a) (l.ca + atR g d l.b) else atR g d l.a)) else atR g d l.b)
   else atR g d s) := by
 obtain ⟨ha, hb⟩ := hg.ends' hl
 have hab := hg.lab hl
 unfold relax
 simp only
 rw [← atR_plc hb, ← atR_plc ha]
 have key : ∀ d1 : List Int, g.rs.length ≤ d1.length → atR g d1 l.b = atR g d l.b → (∀ s, hasR g.rs s = true → atR g d1 s = if s = l.a then atR g d1 l.a else atR g d s) →
   atR g (if atR g d1 l.a < far then d1.set (plc g l.b) (min (d1.getD (plc g l.b) 0) (l.cb + atR g d1 l.a)) else d1) s =
    if s = l.a then atR g d1 l.a else if s = l.b then (if atR g d1 l.a < far then min (atR g d l.b) (l.cb + atR g d1 l.a) else atR g d l.b) else atR g d s := by
  intro d1 h1 h2 h3
  rw [← atR_plc hb, h2]
  have h4 := h3 s hs
  split
  ·rw [atR_set h1 hb hs]
   by_cases e : s = l.b
   ·subst e; rw [if_pos rfl, if_neg (by omega), if_pos rfl]
   ·rw [if_neg e, h4, if_neg e]
  ·rw [h4]
   by_cases e : s = l.b
   ·subst e; rw [if_neg (by omega), if_pos rfl, if_neg (by omega)]
   ·rw [if_neg e]
 have e0 : ∀ d1 : List Int, d1.getD (plc g l.a) 0 = atR g d1 l.a := fun d1 => (atR_plc ha).symm
 rw [e0]
 by_cases hlt : atR g d l.b < far
 ·rw [if_pos hlt]
  have h5 : atR g (d.set (plc g l.a) (min (atR g d l.a) (l.ca + atR g d l.b))) l.a = min (atR g d l.a) (l.ca + atR g d l.b) := by rw [atR_set hd ha ha, if_pos rfl]
  have := key (d.set (plc g l.a) (min (atR g d l.a) (l.ca + atR g d l.b))) (by simpa using hd) (by rw [atR_set hd ha hb, if_neg (by omega)]) (fun s hs => by
   rw [atR_set hd ha hs, atR_set hd ha ha, if_pos rfl])
  rw [this]
  simp only [h5, if_pos hlt]
 ·rw [if_neg hlt]
  have := key d hd rfl (fun s hs => by by_cases e : s = l.a <;> simp [e])
  rw [this]
  simp only [if_neg hlt]
end Go.Proofs

/-
  What functions of the program compute, stated as contracts over plain data; the conditions of each stand in its own statement.
-/
import Derived.Test.YteenclepbpajdaaGreatDoorM31
import Derived.Test.YteenclepbpajdaaGreatDoorM27
import Derived.Test.YteenclepbpajdaaGreatDoorM26
import Derived.Test.YteenclepbpajdaaGreatDoorRows
import Derived.Test.YteenclepbpajdaaGreatDoorM10
import Derived.OpenShut
import Derived.MakeChecks
import Derived.FnData
import Derived.LaidMore
import Derived.Test.YteenclepbpajdaaGreatDoorM11
set_option linter.unusedSimpArgs false
set_option maxRecDepth 100000
set_option maxHeartbeats 8000000
namespace Go.Proofs
open Go Go.Tr
theorem noteR_step {l : List Tb} {q : Int × Pk} {b : Tb} (hf : findT l q.1 = some b) (t : Trc) : stepT l q t = noteR t q.1 q.2 (fwdR b q.2).1 := by
 simp [stepT, hf, noteR]
theorem noteR_none {l : List Tb} {q : Int × Pk} (hf : findT l q.1 = none) (hq : q.2.bits ≠ 0#64) (t : Trc) : stepT l q t = noteR t q.1 q.2 ⟨0#64, q.2.bits, []⟩ := by
 simp [stepT, hf, noteR, hq, locV, bitsI_zero]
theorem fits_fit {l : List Tb} {p : Pk} {r : Int} (h : fitsR l p r = 0) : FitL l p ∧ (findT l r).isSome ∧ runR l p r = (runG l (wt p) [(r, p)] tr0, 0) := by
 unfold fitsR runR at h
 unfold runR
 split at h
 ·simp at h
 rename_i h0
 rw [if_neg h0]
 have h1 : chkA l = 0 := Classical.byContradiction fun a => h0 (.inl a)
 have h2 : p.ok = true := by
  cases hp : p.ok with
  | true => rfl
  | false => exact absurd (.inr hp) h0
 cases hf : findT l r with
 | none => rw [hf] at h; simp at h
 | some b =>
   rw [hf] at h
   simp only at h ⊢
   split at h
   ·simp at h
   rename_i h3
   rw [if_neg h3]
   split at h
   ·simp at h
   rename_i h4
   rw [if_neg h4]
   have e1 : p.subd = b.sd := Classical.byContradiction fun a => h4 (.inl a)
   have e2 : p.len = b.len := Classical.byContradiction fun a => h4 (.inr a)
   have hall := firstE_zero (l := _) (by simp) h1
   simp only [List.mem_cons, List.not_mem_nil, or_false, forall_eq_or_imp, forall_eq] at hall
   have hd : ∀ c ∈ l, c.sd = (l.headD tb0).sd ∧ c.len = (l.headD tb0).len := fun c hc => by
    have := List.any_eq_false.1 hall.2.2.2 c hc
    simpa using this
   have hb := hd b (findT_mem hf).1
   refine ⟨⟨h2, fun c hc => ⟨chkA_all h1 c hc, ?_, ?_, h2, h3⟩⟩, rfl, rfl⟩
   ·rw [(hd c hc).1, ← hb.1, e1]
   ·rw [(hd c hc).2, ← hb.2, e2]
theorem fits_not {l : List Tb} {p : Pk} {r : Int} (h : fitsR l p r ≠ 0) : runR l p r = (tr0, fitsR l p r) := by
 unfold fitsR runR at h ⊢
 split
 ·rfl
 rename_i h0
 rw [if_neg h0] at h
 cases hf : findT l r with
 | none => rfl
 | some b =>
   rw [hf] at h
   simp only at h ⊢
   split
   ·rfl
   rename_i h3
   rw [if_neg h3] at h
   split
   ·rfl
   rename_i h4
   rw [if_neg h4] at h
   simp at h
theorem run14_c (l : List Tb) (hl : SmL l) (p : Pk) (r : Int) : Contract Tryz.prog 31 [.d (.sl (tbs l)), pkT p, .d (.int .i64 r)] [] (.tup [trcT (runR l p r).1, .d (.int .i64 (runR l p r).2)]) [] [] := by
 have hfi := fits14_c l hl p r
 simp only [pkT, Pk.cs, List.map] at hfi
 refine contract_of Tryz.func31 rfl (fun E0 => ?_)
 refine awp.sound (g := .mk) (ow := [29, 1000079]) (kp := (fun k => k==0||k==1||k==2||k==4||k==6||k==7||k==8||k==9||k==10||k==11||k==12||k==13||k==14||k==15||k==16||k==22||k==33||k==56)) ?_
 rw [Tryz.ntmps31]
 simp -dsimp [pkT, Pk.cs]
 try refine ⟨?_, ⟨by kernel_rfl⟩⟩
 refine ACall.of hfi [] 0 ?_
 by_cases h1 : fitsR l p r = 0
 rotate_left
 ·simp -dsimp [h1]
  try refine ⟨?_, ⟨by kernel_rfl⟩⟩
  refine Fin.box (.o 6) rfl ?_
  simp -dsimp
  refine Fin.of ?_
  simp [fits_not h1, trcT, tr0]
 simp -dsimp [h1]
 try refine ⟨?_, ⟨by kernel_rfl⟩⟩
 obtain ⟨hF, hfr, hr⟩ := fits_fit h1
 have hwt := wt_le hF.ok
 rw [hr]
 have hsum1 : wsum [(r, p)] = wt p := by simp [wsum]
 refine ALoop.of [29, 1000079] (fun k => k==0||k==1||k==2||k==4||k==6||k==7||k==8||k==9||k==10||k==11||k==12||k==13||k==14||k==15||k==16||k==22||k==33||k==56) (ι := { z : Nat × Nat × List (Int × Pk) × Trc // runG l (wt p) [(r, p)] tr0 = runG l z.1 (z.2.2.1.drop z.2.1) z.2.2.2 ∧ wsum (z.2.2.1.drop z.2.1) ≤ z.1 ∧ z.2.1 + z.1 ≤ 8129 ∧ z.2.1 ≤ z.2.2.1.length ∧ (∀ q ∈ z.2.2.1.drop z.2.1, FitL l q.2 ∧ (findT l q.1 = none → q.2.bits ≠ 0#64)) ∧ z.2.2.2.dl.length + 64 * z.1 ≤ 600000 ∧ z.2.2.2.cr.length + 64 * z.1 ≤ 600000 ∧ z.2.2.2.ls.length + z.1 ≤ 600000 })
  (fun z => [(Pl.s 0, It.v (TV.d (D.sl (tbs l)))), (Pl.o 6, It.box [TV.c (Value.slice none 0 0), TV.c (Value.slice none 0 0), TV.c (Value.slice none 0 0)]), (Pl.s 6, It.v (TV.ptr (Pl.o 6) 0)), (Pl.s 7, It.v (TV.d (D.int IntKind.i64 0))),
   (Pl.o 10, It.box [TV.oref 70 z.1.2.2.2.dl.length, TV.oref 71 z.1.2.2.2.cr.length, TV.oref 72 z.1.2.2.2.ls.length]), (Pl.s 10, It.v (TV.ptr (Pl.o 10) 0)),
   (Pl.o 70, It.row 89 11 (dd (z.1.2.2.2.dl.map dlC)) false), (Pl.o 71, It.row 75 3 (dd (z.1.2.2.2.cr.map crC)) false), (Pl.o 72, It.row 125 2 (dd (z.1.2.2.2.ls.map lsC)) false),
   (Pl.o 29, It.row 135 12 (dd (z.1.2.2.1.map cpC)) false), (Pl.s 9, It.v (TV.oref 29 z.1.2.2.1.length)), (Pl.s 11, It.v (TV.d (D.int IntKind.i64 z.1.2.1)))])
  (fun z => z.1.1) ⟨(wt p, 0, [(r, p)], tr0), rfl, by simp only [List.drop_zero, hsum1]; omega, by simp only; omega, by simp, by intro q hq; simp at hq; subst hq; exact ⟨hF, fun e => by simp [e] at hfr⟩, by simp [tr0]; omega, by simp [tr0]; omega, by simp [tr0]; omega⟩ ?_ ?_
 ·refine (GS.ownBp (.o 10) 0 70 (cs := [.c (.slice none 0 0), .c (.slice none 0 0), .c (.slice none 0 0)]) 89 11 (by simp) (by simp) (by simp) (by simp)).trans ?_
  simp only [put1, Pl.o.injEq, reduceCtorEq, if_false, if_true, Nat.reduceEqDiff, List.set]
  refine (GS.ownBp (.o 10) 1 71 (cs := [.oref 70 0, .c (.slice none 0 0), .c (.slice none 0 0)]) 75 3 (by simp) (by simp) (by simp) (by simp)).trans ?_
  simp only [put1, Pl.o.injEq, reduceCtorEq, if_false, if_true, Nat.reduceEqDiff, List.set]
  exact GS.ownB' (.o 10) 2 72 (cs := [.oref 70 0, .oref 71 0, .c (.slice none 0 0)]) 125 2 (by simp) (by simp) (by simp) (by simp) (by simp [tr0, cpC, Pk.cs])
 ·rintro ⟨⟨n, i, Q, t⟩, i1, i2, i3, i4, i5, i6, i7, i8⟩
  simp only at i1 i2 i3 i4 i5 i6 i7 i8
  by_cases hi : i < Q.length
  ·have hiz : (i : Int) < Q.length := by omega
   have hg : Q[i]? = some Q[i] := List.getElem?_eq_getElem hi
   have hd : Q.drop i = Q[i] :: Q.drop (i + 1) := List.drop_eq_getElem_cons hi
   generalize Q[i] = q at hg hd
   obtain ⟨q1, q2⟩ := q
   rw [hd] at i1 i2 i5
   rw [wsum_cons] at i2
   have hq := nextQ_wt l (q1, q2)
   have hQl := len_wsum (Q.drop (i + 1))
   rw [List.length_drop] at hQl
   have hw1 : 1 ≤ wt q2 := by unfold wt; omega
   simp only at i2 hq
   obtain ⟨n, rfl⟩ : ∃ j, n = j + 1 := ⟨n - 1, by omega⟩
   rw [runG] at i1
   have hFq := (i5 (q1, q2) (by simp)).1
   have hFb := (i5 (q1, q2) (by simp)).2
   have hfq := find11_c l hl q1
   have hgr : (dd (Q.map cpC))[i]? = some (TV.d (.int .i64 q1) :: TV.d (.sl []) :: q2.cs.map .d) := by simp [dd, hg, cpC]
   simp -dsimp [hiz, hgr, Pk.cs]
   and_intros
   all_goals try first | omega | exact ⟨by kernel_rfl⟩
   have step : ∀ (o : Out) (Q' : List (Int × Pk)) (i' : Int), GS { E0 := E0, N := 70 }
     (Tr.look [(Pl.s 0, It.v (TV.d (D.sl (tbs l)))), (Pl.o 6, It.box [TV.c (Value.slice none 0 0), TV.c (Value.slice none 0 0), TV.c (Value.slice none 0 0)]), (Pl.s 6, It.v (TV.ptr (Pl.o 6) 0)), (Pl.s 7, It.v (TV.d (D.int IntKind.i64 0))),
      (Pl.o 10, It.box [TV.oref 1900 (noteR t q1 q2 o).dl.length, TV.oref 1901 (noteR t q1 q2 o).cr.length, TV.oref 1902 (noteR t q1 q2 o).ls.length]), (Pl.s 10, It.v (TV.ptr (Pl.o 10) 0)),
      (Pl.o 1900, It.row 89 11 (dd ((noteR t q1 q2 o).dl.map dlC)) false), (Pl.o 1901, It.row 75 3 (dd ((noteR t q1 q2 o).cr.map crC)) false), (Pl.o 1902, It.row 125 2 (dd ((noteR t q1 q2 o).ls.map lsC)) false),
      (Pl.o 29, It.row 135 12 (dd (Q'.map cpC)) false), (Pl.s 9, It.v (TV.oref 29 Q'.length)), (Pl.s 11, It.v (TV.d (D.int IntKind.i64 i')))])
     (Tr.look [(Pl.s 0, It.v (TV.d (D.sl (tbs l)))), (Pl.o 6, It.box [TV.c (Value.slice none 0 0), TV.c (Value.slice none 0 0), TV.c (Value.slice none 0 0)]), (Pl.s 6, It.v (TV.ptr (Pl.o 6) 0)), (Pl.s 7, It.v (TV.d (D.int IntKind.i64 0))),
      (Pl.o 10, It.box [TV.oref 70 (noteR t q1 q2 o).dl.length, TV.oref 71 (noteR t q1 q2 o).cr.length, TV.oref 72 (noteR t q1 q2 o).ls.length]), (Pl.s 10, It.v (TV.ptr (Pl.o 10) 0)),
      (Pl.o 70, It.row 89 11 (dd ((noteR t q1 q2 o).dl.map dlC)) false), (Pl.o 71, It.row 75 3 (dd ((noteR t q1 q2 o).cr.map crC)) false), (Pl.o 72, It.row 125 2 (dd ((noteR t q1 q2 o).ls.map lsC)) false),
      (Pl.o 29, It.row 135 12 (dd (Q'.map cpC)) false), (Pl.s 9, It.v (TV.oref 29 Q'.length)), (Pl.s 11, It.v (TV.d (D.int IntKind.i64 i')))]) := fun o Q' i' => by
    refine GS.trans (GS.ren (a := 1900) (b := 70) (by decide) (by rw [Tr.look_o]; simp)) ?_
    rw [renS_look (by decide) (by simp)]
    refine GS.trans (GS.ren (a := 1901) (b := 71) (by decide) (by rw [Tr.look_o]; simp)) ?_
    rw [renS_look (by decide) (by simp)]
    exact GS.ren' 1902 72 (by decide) (by simp) (by simp)
   have rest : ∀ o : Out, o.cps.length ≤ 64 → runG l (wt p) [(r, p)] tr0 = runG l n (Q.drop (i + 1) ++ o.cps) (noteR t q1 q2 o) → wsum o.cps + 1 ≤ wt q2 → (∀ c ∈ o.cps, FitL l c.2 ∧ (findT l c.1 = none → c.2.bits ≠ 0#64)) →
     ∃ j : { z : Nat × Nat × List (Int × Pk) × Trc // runG l (wt p) [(r, p)] tr0 = runG l z.1 (z.2.2.1.drop z.2.1) z.2.2.2 ∧ wsum (z.2.2.1.drop z.2.1) ≤ z.1 ∧ z.2.1 + z.1 ≤ 8129 ∧ z.2.1 ≤ z.2.2.1.length ∧ (∀ q ∈ z.2.2.1.drop z.2.1, FitL l q.2 ∧ (findT l q.1 = none → q.2.bits ≠ 0#64)) ∧ z.2.2.2.dl.length + 64 * z.1 ≤ 600000 ∧ z.2.2.2.cr.length + 64 * z.1 ≤ 600000 ∧ z.2.2.2.ls.length + z.1 ≤ 600000 }, j.1 = (n, i + 1, Q ++ o.cps, noteR t q1 q2 o) := fun o ho e1 e2 e3 => by
    have hdrop : (Q ++ o.cps).drop (i + 1) = Q.drop (i + 1) ++ o.cps := List.drop_append_of_le_length (by omega)
    have hlv : (locV q1 o q2).length ≤ 64 := by unfold locV; rw [List.length_map]; exact bitsI_len _
    refine ⟨⟨(n, i + 1, Q ++ o.cps, noteR t q1 q2 o), by simp only [hdrop]; exact e1, by simp only [hdrop, wsum_app]; omega, by simp only; omega, by simp only [List.length_append]; omega, ?_, ?_, ?_, ?_⟩, rfl⟩
    ·intro q hq
     simp only [hdrop] at hq
     rcases List.mem_append.1 hq with hq | hq
     ·exact i5 q (by simp [hq])
     ·exact e3 q hq
    ·simp only [noteR, List.length_append]; omega
    ·simp only [noteR, List.length_append, List.length_map]; omega
    ·simp only [noteR]; split <;> (try simp only [List.length_append, List.length_cons, List.length_nil]) <;> omega
   cases hfd : findT l q1 with
   | none =>
     have eN : nextQ l (q1, q2) = [] := by simp [nextQ, hfd]
     have eS := noteR_none (q := (q1, q2)) hfd (hFb hfd) t
     rw [eN, eS] at i1
     obtain ⟨jj, hjj⟩ := rest ⟨0#64, q2.bits, []⟩ (by simp) i1 (by simp [wsum]; omega) (by simp)
     rw [hfd] at hfq
     simp only [foundT, Option.getD_none, Option.isSome_none, tb0, tblT] at hfq
     have hnt := note14_c t (by omega) (by omega) (by omega) q1 q2 ⟨0#64, q2.bits, []⟩ (by simp)
     simp only [pkT, Pk.cs, List.map, outT, rowT3] at hnt
     refine ACall.of hfq [] 0 ?_
     simp -dsimp [hiz]
     try refine ⟨?_, ⟨by kernel_rfl⟩⟩
     refine ACall.view [63] ?_
     simp -dsimp
     try refine ⟨?_, ⟨by kernel_rfl⟩⟩
     refine ACall.of2 hnt [] [(900, 70), (901, 71), (902, 72)] 1000 ?_
     simp -dsimp [bv, wrap_i64 (n := (i : Int) + 1) (by omega) (by omega)]
     and_intros
     all_goals try first | omega | exact ⟨by kernel_rfl⟩
     refine ⟨jj, ?_, by rw [hjj]; simp⟩
     rw [hjj]
     refine (GS.to ?_).trans (step ⟨0#64, q2.bits, []⟩ (Q ++ []) ((i : Int) + 1))
     simp [bv, Pk.cs]
   | some b2 =>
     have hb2 : b2.Sm := hl.t b2 (List.mem_of_find?_eq_some hfd)
     have hB2 := hFq.all b2 (findT_mem hfd).1
     obtain ⟨hV1, hV2⟩ := fwd_spec hB2
     have eN : nextQ l (q1, q2) = (fwdV b2 q2).cps := by simp [nextQ, hfd, hV1]
     have eS := noteR_step (q := (q1, q2)) hfd t
     have hnf := next_fit (q := (q1, q2)) hFq
     have hRI := (RunI.step (l := l) (q := (q1, q2)) (Q := []) (t := tr0) ⟨fun c hc => by simp at hc; subst hc; exact ⟨hFq, hFb⟩, by simp [tr0], by simp [tr0], by simp [tr0]⟩).fit
     rw [List.nil_append] at hRI
     rw [eN] at i1 hq hRI
     rw [eS, hV1] at i1
     have hcl := fwdR_len b2 q2
     rw [hV1] at hcl
     simp only at hcl i1
     have hdo := do13_c b2 hb2 q2 hB2.ck hFq.ok hB2.len
     rw [hfd] at hfq
     simp only [foundT, Option.getD_some, Option.isSome_some, tblT] at hfq
     clear hV1 hV2 eN eS hnf
     generalize fwdV b2 q2 = o at i1 hq hRI hcl hdo
     obtain ⟨jj, hjj⟩ := rest o hcl i1 hq hRI
     have hnt := note14_c t (by omega) (by omega) (by omega) q1 q2 o hcl
     simp only [pkT, Pk.cs, List.map, outT, rowT3, tblT] at hnt hdo
     have hdl : dLen 12 (o.cps.map cpC) := dLen_map 12 _ _ fun _ => rfl
     refine ACall.of hfq [] 0 ?_
     simp -dsimp [hiz]
     try refine ⟨?_, ⟨by kernel_rfl⟩⟩
     refine ACall.of hdo [] 0 ?_
     simp -dsimp
     try refine ⟨?_, ⟨by kernel_rfl⟩⟩
     refine ACall.of2 hnt [] [(900, 70), (901, 71), (902, 72)] 1000 ?_
     simp -dsimp [bv, wrap_i64 (n := (i : Int) + 1) (by omega) (by omega)]
     and_intros
     all_goals try first | omega | exact hdl | exact ⟨by kernel_rfl⟩
     refine ⟨jj, ?_, by rw [hjj]; simp⟩
     rw [hjj]
     refine (GS.to ?_).trans (step o (Q ++ o.cps) ((i : Int) + 1))
     simp [bv, Pk.cs]
  ·have hiz : ¬ (i : Int) < Q.length := by omega
   have e0 : Q.drop i = [] := List.drop_eq_nil_of_le (by omega)
   rw [e0, runG_nil] at i1
   simp -dsimp [hiz]
   try refine ⟨?_, ⟨by kernel_rfl⟩⟩
   refine Fin.box (.o 6) rfl ?_
   simp -dsimp
   refine Fin.of ?_
   simp [trcT, i1]
end Go.Proofs

set_option linter.unusedSimpArgs false
set_option maxRecDepth 100000
set_option maxHeartbeats 4000000
namespace Go.Proofs
open Go Go.Tr
theorem count01_c (B : BitVec 64) : Contract Tryz.prog 36 [.d (bv B)] [] (.d (.int .i64 (pc B))) [] [] := by
 have hl := list01_c B
 refine contract_of Tryz.func36 rfl (fun E0 => ?_)
 refine awp.sound (g := .mk) (ow := []) (kp := (fun k => k==0||k==2)) ?_
 rw [Tryz.ntmps36]
 simp -dsimp
 refine ACall.of hl [] 0 ?_
 simp -dsimp [ints]
 refine Fin.of ?_
 simp [pc, bitsI]
theorem router0_c (T : Tp) (hT : TapeOK T) (rs : List Rt) (ls : List Lk) (hr : 1 ≤ rs.length ∧ rs.length ≤ 1000) : Contract Tryz.prog 15 [.ptr (.x 0) 0, .agg [.d (.sl (rts rs)), .d (.sl (lks ls))], .d (.int .i64 0)] [tapeI T] (.d (.int .i64 (rs.getD (gNext T rs.length).1.toNat ⟨0, false⟩).id)) [tapeI (gNext T rs.length).2] [] := by
 have hr0 : ¬ rs.length = 0 := by omega
 have hrn : ¬ rs = [] := fun h => by simp [h] at hr0
 refine contract_of Tryz.func15 rfl (fun E0 => ?_)
 refine awp.sound (g := .mk) (ow := []) (kp := (fun k => k==0||k==1||k==2||k==4||k==6||k==19)) ?_
 rw [Tryz.ntmps15]
 simp -dsimp [hrn]
 try refine ⟨?_, ⟨by kernel_rfl⟩⟩
 refine ACall.of (next_c T hT rs.length ⟨by omega, by omega⟩) [.x 0] 0 ?_
 have m1 := gNext_nonneg T rs.length
 have m2 := gNext_lt T (n := rs.length) (by omega)
 generalize gNext T rs.length = q at m1 m2 ⊢
 obtain ⟨k, hk⟩ : ∃ k : Nat, q.1 = k := ⟨q.1.toNat, by omega⟩
 have hkl : k < rs.length := by omega
 have hx : rs[k]? = some rs[k] := List.getElem?_eq_getElem hkl
 generalize rs[k] = x at hx
 have hx' := rts_get hx
 rw [hk]
 simp -dsimp [hx', Rt.cs]
 and_intros
 all_goals try first | rfl | omega | exact ⟨by kernel_rfl⟩
 refine Fin.of ?_
 simp [hx]
theorem same14_c (t : Trc) (h1 : t.dl.length ≤ 1000000) (h2 : t.cr.length ≤ 1000000) (h3 : t.ls.length ≤ 1000000) : Contract Tryz.prog 32 [trcT t, trcT t] [] (.d (.bool true)) [] [] := by
 refine contract_of Tryz.func32 rfl (fun E0 => ?_)
 refine awp.sound (g := .mk) (ow := []) (kp := (fun k => k==0||k==1||k==2||k==3||k==4||k==5||k==6||k==7||k==32||k==37||k==50||k==55||k==68||k==73||k==86)) ?_
 rw [Tryz.ntmps32]
 simp -dsimp [trcT]
 try refine ⟨?_, ⟨by kernel_rfl⟩⟩
 refine ALoop.of [] (fun k => k==0||k==1||k==2||k==3||k==4||k==5||k==6||k==7||k==32||k==37||k==50||k==55||k==68||k==73||k==86) (ι := { i : Nat // i ≤ t.dl.length ∧ True }) (fun z => [(Pl.o 2, It.box [TV.d (D.sl (List.map dlC t.dl)), TV.d (D.sl (List.map crC t.cr)), TV.d (D.sl (List.map lsC t.ls))]), (Pl.s 2, It.v (TV.ptr (Pl.o 2) 0)), (Pl.o 3, It.box [TV.d (D.sl (List.map dlC t.dl)), TV.d (D.sl (List.map crC t.cr)), TV.d (D.sl (List.map lsC t.ls))]), (Pl.s 3, It.v (TV.ptr (Pl.o 3) 0)), (Pl.s 4, It.v (TV.d (D.bool false))), (Pl.s 5, It.v (TV.d (D.int IntKind.i64 z.1)))]) (fun z => t.dl.length - z.1) ⟨0, by omega, trivial⟩ ?_ ?_
 ·exact GS.to (by simp)
 rintro ⟨i, i1, _⟩
 by_cases hi : i < t.dl.length
 ·have hiz : (i : Int) < t.dl.length := by omega
  have hg : t.dl[i]? = some t.dl[i] := List.getElem?_eq_getElem hi
  generalize t.dl[i] = x at hg
  simp -dsimp [hg, hiz, dlC, Pk.cs, bv, wrap_i64 (n := (i : Int) + 1) (by omega) (by omega)]
  and_intros
  all_goals try first | omega | exact ⟨by kernel_rfl⟩
  exact ⟨⟨i + 1, by omega, trivial⟩, GS.to (by simp []), by simp; omega⟩
 have hiz : ¬ (i : Int) < t.dl.length := by omega
 simp -dsimp [hiz]
 try refine ⟨?_, ⟨by kernel_rfl⟩⟩
 clear hi hiz i1
 refine ALoop.of [] (fun k => k==0||k==1||k==2||k==3||k==4||k==5||k==6||k==7||k==32||k==37||k==50||k==55||k==68||k==73||k==86) (ι := { i : Nat // i ≤ t.cr.length ∧ True }) (fun z => [(Pl.o 2, It.box [TV.d (D.sl (List.map dlC t.dl)), TV.d (D.sl (List.map crC t.cr)), TV.d (D.sl (List.map lsC t.ls))]), (Pl.s 2, It.v (TV.ptr (Pl.o 2) 0)), (Pl.o 3, It.box [TV.d (D.sl (List.map dlC t.dl)), TV.d (D.sl (List.map crC t.cr)), TV.d (D.sl (List.map lsC t.ls))]), (Pl.s 3, It.v (TV.ptr (Pl.o 3) 0)), (Pl.s 4, It.v (TV.d (D.bool false))), (Pl.s 6, It.v (TV.d (D.int IntKind.i64 z.1)))]) (fun z => t.cr.length - z.1) ⟨0, by omega, trivial⟩ ?_ ?_
 ·exact GS.to (by simp)
 rintro ⟨i, i1, _⟩
 by_cases hi : i < t.cr.length
 ·have hiz : (i : Int) < t.cr.length := by omega
  have hg : t.cr[i]? = some t.cr[i] := List.getElem?_eq_getElem hi
  generalize t.cr[i] = x at hg
  simp -dsimp [hg, hiz, crC, Pk.cs, bv, wrap_i64 (n := (i : Int) + 1) (by omega) (by omega)]
  and_intros
  all_goals try first | omega | exact ⟨by kernel_rfl⟩
  exact ⟨⟨i + 1, by omega, trivial⟩, GS.to (by simp []), by simp; omega⟩
 have hiz : ¬ (i : Int) < t.cr.length := by omega
 simp -dsimp [hiz]
 try refine ⟨?_, ⟨by kernel_rfl⟩⟩
 clear hi hiz i1
 refine ALoop.of [] (fun k => k==0||k==1||k==2||k==3||k==4||k==5||k==6||k==7||k==32||k==37||k==50||k==55||k==68||k==73||k==86) (ι := { i : Nat // i ≤ t.ls.length ∧ True }) (fun z => [(Pl.o 2, It.box [TV.d (D.sl (List.map dlC t.dl)), TV.d (D.sl (List.map crC t.cr)), TV.d (D.sl (List.map lsC t.ls))]), (Pl.s 2, It.v (TV.ptr (Pl.o 2) 0)), (Pl.o 3, It.box [TV.d (D.sl (List.map dlC t.dl)), TV.d (D.sl (List.map crC t.cr)), TV.d (D.sl (List.map lsC t.ls))]), (Pl.s 3, It.v (TV.ptr (Pl.o 3) 0)), (Pl.s 4, It.v (TV.d (D.bool false))), (Pl.s 7, It.v (TV.d (D.int IntKind.i64 z.1)))]) (fun z => t.ls.length - z.1) ⟨0, by omega, trivial⟩ ?_ ?_
 ·exact GS.to (by simp)
 rintro ⟨i, i1, _⟩
 by_cases hi : i < t.ls.length
 ·have hiz : (i : Int) < t.ls.length := by omega
  have hg : t.ls[i]? = some t.ls[i] := List.getElem?_eq_getElem hi
  generalize t.ls[i] = x at hg
  simp -dsimp [hg, hiz, lsC, Pk.cs, bv, wrap_i64 (n := (i : Int) + 1) (by omega) (by omega)]
  and_intros
  all_goals try first | omega | exact ⟨by kernel_rfl⟩
  exact ⟨⟨i + 1, by omega, trivial⟩, GS.to (by simp []), by simp; omega⟩
 have hiz : ¬ (i : Int) < t.ls.length := by omega
 simp -dsimp [hiz]
 try refine ⟨?_, ⟨by kernel_rfl⟩⟩
 clear hi hiz i1
 refine Fin.of ?_
 simp
theorem ends_c (t : Trc) (h1 : t.dl.length ≤ 1000000) (h3 : t.ls.length ≤ 1000000) (B : BitVec 64) : Contract Tryz.prog 35 [trcT t, .d (bv B)] [] (.d (.bool (endsR t B))) [] [] := by
 refine contract_of Tryz.func35 rfl (fun E0 => ?_)
 refine awp.sound (g := .mk) (ow := []) (kp := (fun k => k==0||k==1||k==2||k==4||k==5||k==6||k==7||k==8||k==13||k==31||k==39||k==59)) ?_
 rw [Tryz.ntmps35]
 simp -dsimp [trcT]
 try refine ⟨?_, ⟨by kernel_rfl⟩⟩
 unfold endsR
 refine ALoop.of [] (fun k => k==0||k==1||k==2||k==4||k==5||k==6||k==7||k==8||k==13||k==31||k==39||k==59) (ι := { z : Nat × BitVec 64 // z.1 ≤ t.dl.length ∧ endsD (t.dl.map fun d => d.2.bits) 0#64 = endsD ((t.dl.drop z.1).map fun d => d.2.bits) z.2 })
  (fun z => [(Pl.s 1, It.v (TV.d (D.int .u64 (tn B)))), (Pl.o 2, It.box [TV.d (D.sl (List.map dlC t.dl)), TV.d (D.sl (List.map crC t.cr)), TV.d (D.sl (List.map lsC t.ls))]), (Pl.s 2, It.v (TV.ptr (Pl.o 2) 0)), (Pl.s 4, It.v (TV.d (D.bool false))), (Pl.s 5, It.v (TV.d (D.int IntKind.u64 (tn z.1.2)))), (Pl.s 6, It.v (TV.d (D.int IntKind.i64 z.1.1)))])
  (fun z => t.dl.length - z.1.1) ⟨(0, 0#64), by simp, rfl⟩ ?_ ?_
 ·exact GS.to (by simp [bv])
 rintro ⟨⟨i, S⟩, i1, i2⟩
 simp only at i1 i2
 by_cases hi : i < t.dl.length
 ·have hiz : (i : Int) < t.dl.length := by omega
  have hg : t.dl[i]? = some t.dl[i] := List.getElem?_eq_getElem hi
  have hd : t.dl.drop i = t.dl[i] :: t.dl.drop (i + 1) := List.drop_eq_getElem_cons hi
  generalize t.dl[i] = x at hg hd
  rw [hd, List.map_cons, endsD] at i2
  have hc := count01_c x.2.bits
  simp only [bv] at hc
  simp -dsimp [hg, hiz, dlC, Pk.cs, bv]
  and_intros
  all_goals try first | omega | exact ⟨by kernel_rfl⟩
  refine ACall.of hc [] 0 ?_
  by_cases c0 : pc x.2.bits = 1
  ·by_cases c1 : S &&& x.2.bits = 0#64
   ·rw [if_neg (by simp [c0, c1])] at i2
    simp -dsimp [hg, hiz, dlC, Pk.cs, bv, c0, c1, wrap_i64 (n := (i : Int) + 1) (by omega) (by omega)]
    and_intros
    all_goals try first | omega | exact ⟨by kernel_rfl⟩
    exact ⟨⟨(i + 1, S ||| x.2.bits), by dsimp only; omega, i2⟩, GS.to (by simp), by simp; omega⟩
   ·rw [if_pos (.inr c1)] at i2
    simp -dsimp [hg, hiz, dlC, Pk.cs, bv, c0, c1]
    and_intros
    all_goals try first | omega | exact ⟨by kernel_rfl⟩
    refine Fin.of ?_
    simp [i2]
  ·have c0z : ¬ (pc x.2.bits : Int) = 1 := by omega
   rw [if_pos (.inl c0)] at i2
   simp -dsimp [hg, hiz, dlC, Pk.cs, bv, c0, c0z]
   and_intros
   all_goals try first | omega | exact ⟨by kernel_rfl⟩
   refine Fin.of ?_
   simp [i2]
 have hiz : ¬ (i : Int) < t.dl.length := by omega
 have e0 : t.dl.drop i = [] := List.drop_eq_nil_of_le (by omega)
 rw [e0, List.map_nil, endsD] at i2
 simp -dsimp [hiz]
 try refine ⟨?_, ⟨by kernel_rfl⟩⟩
 rw [i2]
 simp only
 clear hi hiz i1 i2 e0
 refine ALoop.of [] (fun k => k==0||k==1||k==2||k==4||k==5||k==6||k==7||k==8||k==13||k==31||k==39||k==59) (ι := { z : Nat × BitVec 64 // z.1 ≤ t.ls.length ∧ endsL (t.ls.map fun d => d.2) S = endsL ((t.ls.drop z.1).map fun d => d.2) z.2 })
  (fun z => [(Pl.s 1, It.v (TV.d (D.int .u64 (tn B)))), (Pl.o 2, It.box [TV.d (D.sl (List.map dlC t.dl)), TV.d (D.sl (List.map crC t.cr)), TV.d (D.sl (List.map lsC t.ls))]), (Pl.s 2, It.v (TV.ptr (Pl.o 2) 0)), (Pl.s 4, It.v (TV.d (D.bool false))), (Pl.s 5, It.v (TV.d (D.int IntKind.u64 (tn z.1.2)))), (Pl.s 8, It.v (TV.d (D.int IntKind.i64 z.1.1)))])
  (fun z => t.ls.length - z.1.1) ⟨(0, S), by simp, rfl⟩ ?_ ?_
 ·exact GS.to (by simp)
 rintro ⟨⟨i, R⟩, i1, i2⟩
 simp only at i1 i2
 by_cases hi : i < t.ls.length
 ·have hiz : (i : Int) < t.ls.length := by omega
  have hg : t.ls[i]? = some t.ls[i] := List.getElem?_eq_getElem hi
  have hd : t.ls.drop i = t.ls[i] :: t.ls.drop (i + 1) := List.drop_eq_getElem_cons hi
  generalize t.ls[i] = x at hg hd
  rw [hd, List.map_cons, endsL] at i2
  by_cases c0 : x.2 = 0#64
  ·rw [if_pos (.inl c0)] at i2
   simp -dsimp [hg, hiz, lsC, bv, c0]
   and_intros
   all_goals try first | omega | exact ⟨by kernel_rfl⟩
   refine Fin.of ?_
   simp [i2]
  ·by_cases c1 : R &&& x.2 = 0#64
   ·rw [if_neg (by simp [c0, c1])] at i2
    simp -dsimp [hg, hiz, lsC, bv, c0, c1, wrap_i64 (n := (i : Int) + 1) (by omega) (by omega)]
    and_intros
    all_goals try first | omega | exact ⟨by kernel_rfl⟩
    exact ⟨⟨(i + 1, R ||| x.2), by dsimp only; omega, i2⟩, GS.to (by simp), by simp; omega⟩
   ·rw [if_pos (.inr c1)] at i2
    simp -dsimp [hg, hiz, lsC, bv, c0, c1]
    and_intros
    all_goals try first | omega | exact ⟨by kernel_rfl⟩
    refine Fin.of ?_
    simp [i2]
 have hiz : ¬ (i : Int) < t.ls.length := by omega
 have e0 : t.ls.drop i = [] := List.drop_eq_nil_of_le (by omega)
 rw [e0, List.map_nil, endsL] at i2
 simp -dsimp [hiz]
 try refine ⟨?_, ⟨by kernel_rfl⟩⟩
 rw [i2]
 refine Fin.of ?_
 simp
end Go.Proofs

set_option linter.unusedSimpArgs false
set_option maxRecDepth 100000
set_option maxHeartbeats 4000000
namespace Go.Proofs
open Go Go.Tr
def chG : Topo := ⟨[⟨1, true⟩, ⟨2, true⟩, ⟨3, true⟩], [⟨1, 2, 1, 1, 0⟩, ⟨2, 3, 1, 1, 0⟩]⟩
def chP : Pn := ⟨0, 8, [⟨2, 1⟩, ⟨3, 2⟩]⟩
def chL : List Tb := tabs chG chP chG.rs
def chQ : Pk := ⟨1, 0, 0, 8, 9, 0, 0, 0, 3#64, ⟨#[]⟩⟩
theorem chP_ok : planB chP = true := planB_ok (by decide) (by decide) (fun i j hj hi => by
 have hi : i < 2 := hi
 obtain ⟨rfl, rfl⟩ : i = 1 ∧ j = 0 := by omega
 decide)
theorem chG_ok : chkT chG = 0 := by decide +kernel
theorem chain_c : Contract Tryz.prog 80 [] [] (.d (.sl (tbs chL))) [] [] := by
 have ha := all11_c chG ⟨by simp [chG], by simp [chG]⟩ chP (by simp [chP])
 rw [all11_eq chG_ok chP_ok] at ha
 change Contract _ _ _ _ (allT chL 0) _ _ at ha
 simp only [allT, topT, planT] at ha
 rw [show List.map Tb.cs chL = tbs chL from rfl] at ha
 generalize chL = L at ha ⊢
 simp only [chG, chP, rts, lks, eds, List.map, Rt.cs, Lk.cs, Ed.cs] at ha
 refine contract_of Tryz.func80 rfl (fun E0 => ?_)
 refine awp.sound (g := .mk) (ow := []) (kp := (fun k => k==0||k==1||k==2)) ?_
 rw [Tryz.ntmps80]
 simp -dsimp
 try refine ⟨?_, ⟨by kernel_rfl⟩⟩
 refine ACall.of ha [] 0 ?_
 simp -dsimp
 try refine ⟨?_, ⟨by kernel_rfl⟩⟩
 refine Fin.of ?_
 simp
def chT : Trc := ⟨[(2, ⟨1, 0, 0, 8, 8, 0, 0, 0, 1#64, ⟨#[]⟩⟩), (3, ⟨1, 0, 0, 8, 7, 0, 0, 0, 2#64, ⟨#[]⟩⟩)], [(1, 2, 3#64), (2, 3, 2#64)], []⟩
theorem ch_run : runR chL chQ 1 = (chT, 0) := by kernel_rfl
theorem awake14_c : Contract Tryz.prog 33 [] [] (.d (.bool true)) [] [] := by
 have hS : SmL chL := ⟨by decide +kernel, fun b hb => chk_sm (tabs_chk chG_ok chP_ok b hb)⟩
 have hr := run_c chL hS chQ 1
 rw [ch_run] at hr
 have hro := routers_c chT (by simp [chT])
 have hre := received_c chT (by simp [chT])
 have e1 : rtsR chT = [2, 3] := by
  have : (chT.dl.map fun d => d.1) = [2, 3] := rfl
  rw [rtsR, this, List.mergeSort_of_pairwise (by simp)]
  decide +kernel
 have e2 : recV chT.dl = 3#64 := by decide +kernel
 rw [e1] at hro
 rw [e2] at hre
 have hi := ints04_c [2, 3] [2, 3] (by simp)
 simp only [pkT, chQ, Pk.cs, List.map, trcT, chT, dlC, crC, lsC, bv, ints] at hr hro hre hi
 simp only [show tn 3#64 = 3 from rfl, show tn 2#64 = 2 from rfl, show tn 1#64 = 1 from rfl] at hr hro hre
 obtain ⟨L, hL⟩ : ∃ L, chL = L := ⟨_, rfl⟩
 have hch := chain_c
 rw [hL] at hr hch
 refine contract_of Tryz.func33 rfl (fun E0 => ?_)
 refine awp.sound (g := .mk) (ow := []) (kp := (fun k => k==0||k==1||k==2)) ?_
 rw [Tryz.ntmps33]
 simp -dsimp
 try refine ⟨?_, ⟨by kernel_rfl⟩⟩
 refine ACall.of hch [] 0 ?_
 simp -dsimp
 try refine ⟨?_, ⟨by kernel_rfl⟩⟩
 refine ACall.of hr [] 0 ?_
 simp -dsimp
 try refine ⟨?_, ⟨by kernel_rfl⟩⟩
 refine ACall.of hro [] 0 ?_
 simp -dsimp
 try refine ⟨?_, ⟨by kernel_rfl⟩⟩
 refine ACall.of hi [] 0 ?_
 simp -dsimp
 try refine ⟨?_, ⟨by kernel_rfl⟩⟩
 refine ACall.of hre [] 0 ?_
 simp -dsimp
 try refine ⟨?_, ⟨by kernel_rfl⟩⟩
 refine Fin.of ?_
 simp
end Go.Proofs

set_option linter.unusedSimpArgs false
set_option maxRecDepth 100000
set_option maxHeartbeats 4000000
namespace Go.Proofs
open Go Go.Tr
@[simp] theorem isObj_tape (T : Tp) : isObj (tapeI T) = true := rfl
theorem tape_new (L : List Int) (h : ∀ x ∈ L, I64 x) : TapeOK (L.take 600, 0) := ⟨by simp; omega, fun x hx => h x (List.mem_of_mem_take hx)⟩
theorem gDom_ok (T : Tp) {most : Int} (hm : 1 ≤ most ∧ most ≤ 24) : (gDom T most).2.2.1.length ≤ 24 ∧ (∀ b ∈ (gDom T most).2.2.1, chk b = 0) ∧ TapeOK (gDom T most).2.2.2 = TapeOK T ∧ (gDom T most).2.1.es.length ≤ 24 ∧ 1 ≤ (gDom T most).1.rs.length ∧ (gDom T most).1.rs.length ≤ 24 := by
 have hs := gTop_small T hm
 obtain ⟨h1, h2⟩ := gPlan_zero (gTop T most).2 (gTop T most).1.rs
 refine ⟨all11_len _ _, all11_ok _ _, h1.trans (by simp), Nat.le_trans h2 hs.1, ?_, hs.1⟩
 have b1 := gRange_lo T 1 most
 simp [gDom, gTop, gRts]
 omega
theorem locV_len (r : Int) (o : Out) (p : Pk) : (locV r o p).length ≤ 64 := by unfold locV; rw [List.length_map]; exact bitsI_len _
theorem stepT_len (l : List Tb) (q : Int × Pk) (t : Trc) : (stepT l q t).dl.length ≤ t.dl.length + 64 ∧ (stepT l q t).cr.length ≤ t.cr.length + 64 ∧ (stepT l q t).ls.length ≤ t.ls.length + 64 := by
 unfold stepT
 split
 ·simp
 ·rename_i b _
  have h1 := locV_len q.1 (fwdR b q.2).1 q.2
  have h2 := fwdR_len b q.2
  refine ⟨by simp only [List.length_append]; omega, by simp only [List.length_append, List.length_map]; omega, ?_⟩
  simp only
  split
  ·omega
  ·simp
theorem runG_len (l : List Tb) : ∀ (n : Nat) (Q : List (Int × Pk)) (t : Trc), (runG l n Q t).dl.length ≤ t.dl.length + 64 * n ∧ (runG l n Q t).cr.length ≤ t.cr.length + 64 * n ∧ (runG l n Q t).ls.length ≤ t.ls.length + 64 * n
 | 0, Q, t => by simp [runG]
 | n + 1, [], t => by rw [runG_nil]; omega
 | n + 1, q :: Q, t => by
   have h1 := runG_len l n (Q ++ nextQ l q) (stepT l q t)
   have h2 := stepT_len l q t
   rw [runG]; omega
theorem run_small (l : List Tb) (p : Pk) (r : Int) : (runR l p r).1.dl.length ≤ 1000000 ∧ (runR l p r).1.cr.length ≤ 1000000 ∧ (runR l p r).1.ls.length ≤ 1000000 := by
 by_cases h : fitsR l p r = 0
 ·obtain ⟨h1, _, h2⟩ := fits_fit h
  rw [h2]
  have h3 := runG_len l (wt p) [(r, p)] tr0
  have h4 := wt_le h1.ok
  simp only [tr0, List.length_nil] at h3 ⊢
  omega
 ·rw [fits_not h]; simp [tr0]
theorem rangeS_c (T : Tp) (hT : TapeOK T) (a b : Int) (h : -1000 ≤ a ∧ a ≤ b ∧ b ≤ 1000) : Contract Tryz.prog 34 [.ptr (.x 0) 0, .d (.int .i64 a), .d (.int .i64 b)] [tapeI T] (.d (.int .i64 (gRange T a b).1)) [tapeI (gRange T a b).2] [] := by
 have h1 := gRange_lo T a b
 have h2 := gRange_hi T (a := a) (b := b) (by omega)
 exact range_c T hT a b ⟨by omega, by omega⟩ ⟨by omega, by omega⟩ ⟨by omega, by omega⟩ ⟨by omega, by omega⟩
end Go.Proofs

set_option linter.unusedSimpArgs false
set_option linter.unusedVariables false
set_option maxRecDepth 100000
namespace Go.Proofs
open Go Go.Tr
theorem validLen_cases {n : Int} (h : validLen n = true) : n = 8 ∨ n = 16 ∨ n = 32 ∨ n = 64 := by
 simp [validLen] at h; omega
theorem fullB_bit' {len : Int} (hl : validLen len = true) {k : Nat} (hk : k < 64) : (fullB len).getLsbD k = decide ((k : Int) < len) := by
 have := validLen_cases hl
 rw [fullB, if_pos hl, fullN_bit hk _ (by omega)]
 congr 1
 rw [eq_iff_iff]; omega
theorem validB_of {B : BitVec 64} {len : Int} (hl : validLen len = true) (h : ∀ k < 64, B.getLsbD k = true → (k : Int) < len) : validB B len = true := by
 simp only [validB, hl, Bool.true_and, decide_eq_true_eq]
 apply BitVec.eq_of_getLsbD_eq
 intro k hk
 rw [BitVec.getLsbD_and, BitVec.getLsbD_not, fullB_bit' hl hk]
 simp only [hk, decide_true, Bool.true_and, BitVec.getLsbD_zero]
 cases hb : B.getLsbD k with
 | false => rfl
 | true => simp [h k hk hb]
theorem bitB_iff {j : Int} {k : Nat} (hk : k < 64) : (bitB j).getLsbD k = true ↔ (k : Int) = j := by
 unfold bitB
 split
 ·rename_i h
  simp; omega
 ·rename_i h
  rw [wrap_u64 (by omega) (by omega), bit_one (by omega) hk]
  simp; omega
theorem plBit_lt {id len : Int} (hl : validLen len = true) : plBit id len < len ∧ 0 ≤ plBit id len := by
 have := validLen_cases hl
 unfold plBit
 split
 ·have h1 := Int.emod_lt_of_pos (id - 1) (b := len) (by omega)
  have h2 := Int.emod_nonneg (id - 1) (b := len) (by omega)
  omega
 ·omega
theorem plSet_le {id len : Int} (hl : validLen len = true) : 0 ≤ plSet id len ∧ plSet id len ≤ 31 := by
 have := validLen_cases hl
 unfold plSet
 split
 ·rename_i h
  simp only [Bool.and_eq_true, inB, decide_eq_true_eq] at h
  have h1 : 0 ≤ (id - 1) / len := Int.ediv_nonneg (by omega) (by omega)
  have h2 : (id - 1) / len ≤ (id - 1) / 8 := by
   rcases this with rfl | rfl | rfl | rfl <;> omega
  omega
 ·omega
theorem forL_bits {len set : Int} (hl : validLen len = true) : ∀ (es : List Ed) (T : Tp) (B : BitVec 64), (∀ k < 64, B.getLsbD k = true → (k : Int) < len) → ∀ k < 64, (forL len set es T B).1.getLsbD k = true → (k : Int) < len
 | [], _, _, h => h
 | e :: es, T, B, h => by
   rw [forL]
   split
   ·split
    ·refine forL_bits hl es _ _ fun k hk hb => ?_
     rcases (or_bit B (bitB (plBit e.id len))).1 hb with hb | hb
     ·exact h k hk hb
     ·have := (bitB_iff hk).1 hb
      have := (plBit_lt (id := e.id) hl).1
      omega
    ·exact forL_bits hl es _ _ h
   ·exact forL_bits hl es _ _ h
theorem gBits_full (T : Tp) {len : Int} (hl : validLen len = true) : ∀ k < 64, (gBits T len).1.getLsbD k = true → (k : Int) < len := fun k hk hb => by
 have key : ∀ X : BitVec 64, (X &&& fullB len).getLsbD k = true → (k : Int) < len := fun X hX => by
  rw [BitVec.getLsbD_and, Bool.and_eq_true, fullB_bit' hl hk] at hX
  simpa using hX.2
 unfold gBits at hb
 dsimp only at hb
 split at hb
 ·simp at hb
 split at hb
 ·exact key _ hb
 split at hb
 ·exact key _ hb
 ·exact key _ hb
theorem ok_iff (p : Pk) : p.ok = true ↔ (1 ≤ p.mode ∧ p.mode ≤ 3) ∧ (0 ≤ p.subd ∧ p.subd ≤ 7) ∧ (0 ≤ p.set ∧ p.set ≤ 31) ∧ validB p.bits p.len = true ∧ (0 ≤ p.ttl ∧ p.ttl ≤ 63) ∧ (0 ≤ p.ent ∧ p.ent ≤ 1023) ∧ (0 ≤ p.ing ∧ p.ing ≤ 256) ∧ (0 ≤ p.proto ∧ p.proto ≤ 7) ∧ p.pay.size ≤ 64 := by
 simp [Pk.ok, insB, and_assoc]
structure ForV (p : Pn) (q : Pk) : Prop where
 ok : q.ok = true
 mode : q.mode = 1
 subd : q.subd = p.subd
 len : q.len = p.len
theorem for_ok {p : Pn} {q : Pk} (hs : 0 ≤ p.subd ∧ p.subd ≤ 7) (hl : validLen p.len = true) (hq : (0 ≤ q.ttl ∧ q.ttl ≤ 63) ∧ (0 ≤ q.ent ∧ q.ent ≤ 1023) ∧ (0 ≤ q.ing ∧ q.ing ≤ 256) ∧ (0 ≤ q.proto ∧ q.proto ≤ 7) ∧ q.pay.size ≤ 64) {set : Int} (hset : 0 ≤ set ∧ set ≤ 31)
  {B : BitVec 64} (hB : ∀ k < 64, B.getLsbD k = true → (k : Int) < p.len) : ForV p (q.for p.subd p.len set B) := by
 have hv := validB_of hl hB
 exact ⟨(ok_iff _).2 ⟨⟨by show (1 : Int) ≤ 1; omega, by show (1 : Int) ≤ 3; omega⟩, hs, hset, hv, hq.1, hq.2.1, hq.2.2.1, hq.2.2.2.1, hq.2.2.2.2⟩, rfl, rfl, rfl⟩
theorem gPacket_zero (T : Tp) : gPacket T 0 = gPk0 T := by
 simp [gPacket]
theorem gFor_valid (T : Tp) {p : Pn} (hs : 0 ≤ p.subd ∧ p.subd ≤ 7) (hl : validLen p.len = true) : ForV p (gFor T p).1 := by
 have hpk : ∀ q, q = (gPacket T 0).1 → (0 ≤ q.ttl ∧ q.ttl ≤ 63) ∧ (0 ≤ q.ent ∧ q.ent ≤ 1023) ∧ (0 ≤ q.ing ∧ q.ing ≤ 256) ∧ (0 ≤ q.proto ∧ q.proto ≤ 7) ∧ q.pay.size ≤ 64 := fun q hq => by
  rw [gPacket_zero] at hq
  obtain ⟨L, m, d, s, t, e, i, pr, y, B, w, T', h1, _, h2, h3, h4, h5, h6, _⟩ := gPk0_parts T
  rw [h1] at hq
  subst hq
  exact ⟨h2, h3, h4, h5, by simp only; omega⟩
 have hset : ∀ T', 0 ≤ (forS T' p).1 ∧ (forS T' p).1 ≤ 31 := fun T' => by
  unfold forS
  split
  ·simp
  ·exact plSet_le hl
 unfold gFor
 simp only
 have hq := hpk _ rfl
 have hb := forL_bits (set := (forS (gPacket T 0).2 p).1) hl p.es (forS (gPacket T 0).2 p).2 0#64 (by simp)
 split
 ·refine for_ok hs hl hq (hset _) fun k hk hk2 => ?_
  rcases (or_bit _ _).1 hk2 with hk2 | hk2
  ·exact hb k hk hk2
  ·exact gBits_full _ hl k hk hk2
 ·exact for_ok hs hl hq (hset _) hb
def Pk.live (q : Pk) (n : Int) : Pk := ⟨q.mode, q.subd, q.set, q.len, n, q.ent, q.ing, q.proto, q.bits, q.pay⟩
theorem ForV.live {p : Pn} {q : Pk} (h : ForV p q) {n : Int} (hn : 0 ≤ n ∧ n ≤ 63) : ForV p (q.live n) := by
 obtain ⟨h1, h2, h3, h4⟩ := h
 obtain ⟨a1, a2, a3, a4, a5, a6⟩ := (ok_iff q).1 h1
 exact ⟨(ok_iff _).2 ⟨a1, a2, a3, a4, hn, a6⟩, h2, h3, h4⟩
theorem TabV.fit {p : Pn} {rs : List Int} {l : List Tb} (h : TabV p rs l) {q : Pk} (hq : ForV p q) : FitL l q :=
 ⟨hq.ok, fun b hb => ⟨h.ck b hb, (h.sd b hb).1.trans hq.subd.symm, (h.sd b hb).2.trans hq.len.symm, hq.ok, by rw [hq.mode]; decide⟩⟩
theorem TabV.run {p : Pn} {rs : List Int} {l : List Tb} (h : TabV p rs l) {q : Pk} (hq : ForV p q) {r : Int} (hr : r ∈ rs) : runR l q r = (runG l (wt q) [(r, q)] tr0, 0) ∧ (findT l r).isSome := by
 have hs := (h.rs r).2 hr
 refine ⟨?_, hs⟩
 obtain ⟨b, hb⟩ := Option.isSome_iff_exists.1 hs
 have hsd := h.sd b (findT_mem hb).1
 unfold runR
 rw [if_neg (by simp [h.all, hq.ok]), hb]
 simp only
 rw [if_neg (by rw [hq.mode]; decide), if_neg (by rw [hsd.1, hsd.2, hq.subd, hq.len]; simp)]
theorem TabV.lack {p : Pn} {rs : List Int} {l : List Tb} (h : TabV p rs l) {q : Pk} (hq : ForV p q) {r : Int} (hr : r ∉ rs) : runR l q r = (tr0, 4) := by
 have hs : findT l r = .none := by
  cases hf : findT l r with
  | none => rfl
  | some b => exact absurd ((h.rs r).1 (by simp [hf])) hr
 unfold runR
 rw [if_neg (by simp [h.all, hq.ok]), hs]
theorem TabV.sm {p : Pn} {rs : List Int} {l : List Tb} (h : TabV p rs l) : SmL l := ⟨by have := h.n; omega, fun b hb => chk_sm (h.ck b hb)⟩
theorem tabs_rs {g : Topo} (hg : g.Ok) (p : Pn) (r : Int) : r ∈ (tabs g p g.rs).map (·.r) ↔ capR g.rs r = true := by
 rw [← findT_some, tabs_find hg]
 split
 ·rename_i h; simp [h]
 ·rename_i h; simp [h]
theorem rt_has {g : Topo} {x : Rt} (h : x ∈ g.rs) : hasR g.rs x.id = true := hasR_mem.2 (List.mem_map_of_mem h)
end Go.Proofs

set_option linter.unusedSimpArgs false
namespace Go.Proofs.YteenclepbpajdaaGreatDoor
open Go Go.Tr
set_option maxRecDepth 100000
def laidT : List (String × DataW Unit) := [("math/bits.deBruijn64tab", Rows.laid_math_bits_deBruijn64tab)]
theorem gDeb : Tryz.prog.globalNamed "math/bits.deBruijn64tab" = some 0 := by kernel_rfl
theorem tDeb : (Tryz.prog.globals[0]?).map (·.type) = some 210 := by kernel_rfl
theorem uDeb : Tryz.prog.underlying 210 = some (.array 64 5) := by kernel_rfl
theorem uByte : Tryz.prog.underlying 5 = some (.int .u8) := by kernel_rfl
theorem cByte : Tryz.prog.cellsOf 5 = 1 := by kernel_rfl
theorem debData {H : Type} : (Rows.laid_math_bits_deBruijn64tab : DataW H) = .agg (deb.map fun n => .lit (.int .u8 n)) := rfl
theorem glob_of_laid {W : World} (h : laidMetH Tryz.prog laidT W) : GlobW W := by
 rw [MakeChecks.laidMetH_plain _ _ _ (by kernel_rfl)] at h
 obtain ⟨ps, ⟨g0, t0, cs0, f0, p0, q0, hg0, ht0, hv0, hd0, _⟩, _, _⟩ := h
 obtain rfl := Option.some.inj (gDeb.symm.trans hg0)
 obtain rfl := Option.some.inj (tDeb.symm.trans ht0)
 obtain ⟨xs, m1, rfl, hx1, hlen, hn, hel⟩ := DataW.trod_array uDeb hd0
 simp only [Prod.mk.injEq, debData, DataW.agg.injEq] at hx1
 have hcell : ∀ i : Nat, i < 64 → cs0[i]? = some (.int .u8 (deb.getD i 0)) := fun i hi => by
  have h1 := hel i hi
  rw [cByte, Nat.mul_one] at h1
  have h2 : xs[i]? = some xs[i] := List.getElem?_eq_getElem (by omega)
  rw [h2] at h1
  obtain ⟨n, e1, e2, _⟩ := DataW.trod_int uByte h1
  have h3 : (xs.map (·.1))[i]? = (deb.map fun n => (DataW.lit (Lit.int .u8 n) : DataW Unit))[i]? := by rw [← hx1.1]
  rw [List.getElem?_map, h2, Option.map_some, e2, List.getElem?_map] at h3
  have h4 : deb[i]? = some n := by
   cases hd : deb[i]? with
   | none => rw [hd] at h3; simp at h3
   | some k => rw [hd] at h3; simp at h3; rw [h3]
  have h5 : cs0.toList[i]? = some (.int .u8 n) := by
   have := congrArg (fun l => l[0]?) e1
   simp only [List.getElem?_take, List.getElem?_drop] at this
   simpa using this
  rw [List.getD_eq_getElem?_getD, h4, Option.getD_some]
  simpa using h5
 have hbl : 0 < W.heap.size := by
  have := World.var?_cell hg0 hv0 0
  rw [hcell 0 (by omega)] at this
  exact World.block_lt_of_cell? W ⟨0, 0, none⟩ this
 intro y hy
 simp only [globs, List.mem_singleton] at hy
 subst hy
 refine RepCells.of_get fun i x hx => ?_
 simp only [List.getElem?_map, Option.map_eq_some_iff] at hx
 obtain ⟨n, h1, rfl⟩ := hx
 have hi : i < 64 := (List.getElem?_eq_some_iff.1 h1).1
 refine ⟨hbl, .int .u8 n, ?_, by simp only [Rep]⟩
 have := World.var?_cell hg0 hv0 i
 rw [hcell i hi, List.getD_eq_getElem?_getD, h1, Option.getD_some] at this
 rw [Nat.zero_add]
 exact this
end Go.Proofs.YteenclepbpajdaaGreatDoor

namespace Go.Proofs
open Go Go.Tr
end Go.Proofs

/-
  What functions of the program compute, stated as contracts over plain data; the conditions of each stand in its own statement.
-/
import Derived.Test.YtjgeggdefiejbaaGreatDoorW31
import Derived.Test.YtjgeggdefiejbaaGreatDoorW28
import Derived.Test.YtjgeggdefiejbaaGreatDoorW15
import Derived.Test.YtjgeggdefiejbaaGreatDoorW29
import Derived.Test.YtjgeggdefiejbaaGreatDoorW16
import Derived.Test.YtjgeggdefiejbaaGreatDoorW07
set_option linter.unusedSimpArgs false
set_option maxRecDepth 100000
set_option maxHeartbeats 8000000
namespace Go.Proofs
open Go Go.Tr
theorem noteR_step {l : List Tb} {q : Int × Pk} {b : Tb} (hf : findT l q.1 = some b) (t : Trc) : stepT l q t = noteR t q.1 q.2 (fwdR b q.2).1 := by
 simp [stepT, hf, noteR]
theorem noteR_none {l : List Tb} {q : Int × Pk} (hf : findT l q.1 = none) (hq : q.2.bits ≠ 0#64) (t : Trc) : stepT l q t = noteR t q.1 q.2 ⟨0#64, q.2.bits, []⟩ := by
 simp [stepT, hf, noteR, hq, locV, bitsI_zero]
theorem fits_fit {l : List Tb} {p : Pk} {r : Int} (h : fitsR l p r = 0) : FitL l p ∧ (findT l r).isSome ∧ runR l p r = (runG l (wt p) [(r, p)] tr0, 0) := by
 unfold fitsR runR at h
 unfold runR
 split at h
 ·simp at h
 rename_i h0
 rw [if_neg h0]
 have h1 : chkA l = 0 := Classical.byContradiction fun a => h0 (.inl a)
 have h2 : p.ok = true := by
  cases hp : p.ok with
  | true => rfl
  | false => exact absurd (.inr hp) h0
 cases hf : findT l r with
 | none => rw [hf] at h; simp at h
 | some b =>
   rw [hf] at h
   simp only at h ⊢
   split at h
   ·simp at h
   rename_i h3
   rw [if_neg h3]
   split at h
   ·simp at h
   rename_i h4
   rw [if_neg h4]
   have e1 : p.subd = b.sd := Classical.byContradiction fun a => h4 (.inl a)
   have e2 : p.len = b.len := Classical.byContradiction fun a => h4 (.inr a)
   have hall := firstE_zero (l := _) (by simp) h1
   simp only [List.mem_cons, List.not_mem_nil, or_false, forall_eq_or_imp, forall_eq] at hall
   have hd : ∀ c ∈ l, c.sd = (l.headD tb0).sd ∧ c.len = (l.headD tb0).len := fun c hc => by
    have := List.any_eq_false.1 hall.2.2.2 c hc
    simpa using this
   have hb := hd b (findT_mem hf).1
   refine ⟨⟨h2, fun c hc => ⟨chkA_all h1 c hc, ?_, ?_, h2, h3⟩⟩, rfl, rfl⟩
   ·rw [(hd c hc).1, ← hb.1, e1]
   ·rw [(hd c hc).2, ← hb.2, e2]
theorem fits_not {l : List Tb} {p : Pk} {r : Int} (h : fitsR l p r ≠ 0) : runR l p r = (tr0, fitsR l p r) := by
 unfold fitsR runR at h ⊢
 split
 ·rfl
 rename_i h0
 rw [if_neg h0] at h
 cases hf : findT l r with
 | none => rfl
 | some b =>
   rw [hf] at h
   simp only at h ⊢
   split
   ·rfl
   rename_i h3
   rw [if_neg h3] at h
   split
   ·rfl
   rename_i h4
   rw [if_neg h4] at h
   simp at h
theorem run14_c (l : List Tb) (hl : SmL l) (p : Pk) (r : Int) : Contract Tryz.prog 56 [.d (.sl (tbs l)), pkT p, .d (.int .i64 r)] [] (.tup [trcT (runR l p r).1, .d (.int .i64 (runR l p r).2)]) [] [] := by
 have hfi := fits14_c l hl p r
 simp only [pkT, Pk.cs, List.map] at hfi
 refine contract_of Tryz.func56 rfl (fun E0 => ?_)
 refine awp.sound (g := .mk) (ow := [29, 1000110]) (kp := (fun k => k==0||k==1||k==2||k==4||k==6||k==7||k==8||k==9||k==10||k==11||k==12||k==13||k==14||k==15||k==16||k==22||k==33||k==56)) ?_
 rw [Tryz.ntmps56]
 simp -dsimp [pkT, Pk.cs]
 try refine ⟨?_, ⟨by kernel_rfl⟩⟩
 refine ACall.of hfi [] 0 ?_
 by_cases h1 : fitsR l p r = 0
 rotate_left
 ·simp -dsimp [h1]
  try refine ⟨?_, ⟨by kernel_rfl⟩⟩
  refine Fin.box (.o 6) rfl ?_
  simp -dsimp
  refine Fin.of ?_
  simp [fits_not h1, trcT, tr0]
 simp -dsimp [h1]
 try refine ⟨?_, ⟨by kernel_rfl⟩⟩
 obtain ⟨hF, hfr, hr⟩ := fits_fit h1
 have hwt := wt_le hF.ok
 rw [hr]
 have hsum1 : wsum [(r, p)] = wt p := by simp [wsum]
 refine ALoop.of [29, 1000110] (fun k => k==0||k==1||k==2||k==4||k==6||k==7||k==8||k==9||k==10||k==11||k==12||k==13||k==14||k==15||k==16||k==22||k==33||k==56) (ι := { z : Nat × Nat × List (Int × Pk) × Trc // runG l (wt p) [(r, p)] tr0 = runG l z.1 (z.2.2.1.drop z.2.1) z.2.2.2 ∧ wsum (z.2.2.1.drop z.2.1) ≤ z.1 ∧ z.2.1 + z.1 ≤ 8129 ∧ z.2.1 ≤ z.2.2.1.length ∧ (∀ q ∈ z.2.2.1.drop z.2.1, FitL l q.2 ∧ (findT l q.1 = none → q.2.bits ≠ 0#64)) ∧ z.2.2.2.dl.length + 64 * z.1 ≤ 600000 ∧ z.2.2.2.cr.length + 64 * z.1 ≤ 600000 ∧ z.2.2.2.ls.length + z.1 ≤ 600000 })
  (fun z => [(Pl.s 0, It.v (.d (.sl (tbs l)))), (Pl.o 6, It.box [TV.c (Value.slice none 0 0), TV.c (Value.slice none 0 0), TV.c (Value.slice none 0 0)]), (Pl.s 6, It.v (.ptr (Pl.o 6) 0)), (Pl.s 7, It.v (.d (.int .i64 0))),
   (Pl.o 10, It.box [TV.oref 70 z.1.2.2.2.dl.length, TV.oref 71 z.1.2.2.2.cr.length, TV.oref 72 z.1.2.2.2.ls.length]), (Pl.s 10, It.v (.ptr (Pl.o 10) 0)),
   (Pl.o 70, It.row 138 11 (dd (z.1.2.2.2.dl.map dlC)) false), (Pl.o 71, It.row 158 3 (dd (z.1.2.2.2.cr.map crC)) false), (Pl.o 72, It.row 140 2 (dd (z.1.2.2.2.ls.map lsC)) false),
   (Pl.o 29, It.row 167 12 (dd (z.1.2.2.1.map cpC)) false), (Pl.s 9, It.v (.oref 29 z.1.2.2.1.length)), (Pl.s 11, It.v (.d (.int .i64 z.1.2.1)))])
  (fun z => z.1.1) ⟨(wt p, 0, [(r, p)], tr0), rfl, by simp only [List.drop_zero, hsum1]; omega, by simp only; omega, by simp, by intro q hq; simp at hq; subst hq; exact ⟨hF, fun e => by simp [e] at hfr⟩, by simp [tr0]; omega, by simp [tr0]; omega, by simp [tr0]; omega⟩ ?_ ?_
 ·refine (GS.ownBp (.o 10) 0 70 (cs := [.c (.slice none 0 0), .c (.slice none 0 0), .c (.slice none 0 0)]) 138 11 (by simp) (by simp) (by simp) (by simp)).trans ?_
  simp only [put1, Pl.o.injEq, reduceCtorEq, if_false, if_true, Nat.reduceEqDiff, List.set]
  refine (GS.ownBp (.o 10) 1 71 (cs := [.oref 70 0, .c (.slice none 0 0), .c (.slice none 0 0)]) 158 3 (by simp) (by simp) (by simp) (by simp)).trans ?_
  simp only [put1, Pl.o.injEq, reduceCtorEq, if_false, if_true, Nat.reduceEqDiff, List.set]
  exact GS.ownB' (.o 10) 2 72 (cs := [.oref 70 0, .oref 71 0, .c (.slice none 0 0)]) 140 2 (by simp) (by simp) (by simp) (by simp) (by simp [tr0, cpC, Pk.cs])
 ·rintro ⟨⟨n, i, Q, t⟩, i1, i2, i3, i4, i5, i6, i7, i8⟩
  simp only at i1 i2 i3 i4 i5 i6 i7 i8
  by_cases hi : i < Q.length
  ·have hiz : (i : Int) < Q.length := by omega
   have hg : Q[i]? = some Q[i] := List.getElem?_eq_getElem hi
   have hd : Q.drop i = Q[i] :: Q.drop (i + 1) := List.drop_eq_getElem_cons hi
   generalize Q[i] = q at hg hd
   obtain ⟨q1, q2⟩ := q
   rw [hd] at i1 i2 i5
   rw [wsum_cons] at i2
   have hq := nextQ_wt l (q1, q2)
   have hQl := len_wsum (Q.drop (i + 1))
   rw [List.length_drop] at hQl
   have hw1 : 1 ≤ wt q2 := by unfold wt; omega
   simp only at i2 hq
   obtain ⟨n, rfl⟩ : ∃ j, n = j + 1 := ⟨n - 1, by omega⟩
   rw [runG] at i1
   have hFq := (i5 (q1, q2) (by simp)).1
   have hFb := (i5 (q1, q2) (by simp)).2
   have hfq := find11_c l hl q1
   have hgr : (dd (Q.map cpC))[i]? = some (TV.d (.int .i64 q1) :: TV.d (.sl []) :: q2.cs.map .d) := by simp [dd, hg, cpC]
   simp -dsimp [hiz, hgr, Pk.cs]
   and_intros
   all_goals try first | omega | exact ⟨by kernel_rfl⟩
   have step : ∀ (o : Out) (Q' : List (Int × Pk)) (i' : Int), GS { E0 := E0, N := 70 }
     (Tr.look [(Pl.s 0, It.v (.d (.sl (tbs l)))), (Pl.o 6, It.box [TV.c (Value.slice none 0 0), TV.c (Value.slice none 0 0), TV.c (Value.slice none 0 0)]), (Pl.s 6, It.v (.ptr (Pl.o 6) 0)), (Pl.s 7, It.v (.d (.int .i64 0))),
      (Pl.o 10, It.box [TV.oref 1900 (noteR t q1 q2 o).dl.length, TV.oref 1901 (noteR t q1 q2 o).cr.length, TV.oref 1902 (noteR t q1 q2 o).ls.length]), (Pl.s 10, It.v (.ptr (Pl.o 10) 0)),
      (Pl.o 1900, It.row 138 11 (dd ((noteR t q1 q2 o).dl.map dlC)) false), (Pl.o 1901, It.row 158 3 (dd ((noteR t q1 q2 o).cr.map crC)) false), (Pl.o 1902, It.row 140 2 (dd ((noteR t q1 q2 o).ls.map lsC)) false),
      (Pl.o 29, It.row 167 12 (dd (Q'.map cpC)) false), (Pl.s 9, It.v (.oref 29 Q'.length)), (Pl.s 11, It.v (.d (.int .i64 i')))])
     (Tr.look [(Pl.s 0, It.v (.d (.sl (tbs l)))), (Pl.o 6, It.box [TV.c (Value.slice none 0 0), TV.c (Value.slice none 0 0), TV.c (Value.slice none 0 0)]), (Pl.s 6, It.v (.ptr (Pl.o 6) 0)), (Pl.s 7, It.v (.d (.int .i64 0))),
      (Pl.o 10, It.box [TV.oref 70 (noteR t q1 q2 o).dl.length, TV.oref 71 (noteR t q1 q2 o).cr.length, TV.oref 72 (noteR t q1 q2 o).ls.length]), (Pl.s 10, It.v (.ptr (Pl.o 10) 0)),
      (Pl.o 70, It.row 138 11 (dd ((noteR t q1 q2 o).dl.map dlC)) false), (Pl.o 71, It.row 158 3 (dd ((noteR t q1 q2 o).cr.map crC)) false), (Pl.o 72, It.row 140 2 (dd ((noteR t q1 q2 o).ls.map lsC)) false),
      (Pl.o 29, It.row 167 12 (dd (Q'.map cpC)) false), (Pl.s 9, It.v (.oref 29 Q'.length)), (Pl.s 11, It.v (.d (.int .i64 i')))]) := fun o Q' i' => by
    refine GS.trans (GS.ren (a := 1900) (b := 70) (by decide) (by rw [Tr.look_o]; simp)) ?_
    rw [renS_look (by decide) (by simp)]
    refine GS.trans (GS.ren (a := 1901) (b := 71) (by decide) (by rw [Tr.look_o]; simp)) ?_
    rw [renS_look (by decide) (by simp)]
    exact GS.ren' 1902 72 (by decide) (by simp) (by simp)
   have rest : ∀ o : Out, o.cps.length ≤ 64 → runG l (wt p) [(r, p)] tr0 = runG l n (Q.drop (i + 1) ++ o.cps) (noteR t q1 q2 o) → wsum o.cps + 1 ≤ wt q2 → (∀ c ∈ o.cps, FitL l c.2 ∧ (findT l c.1 = none → c.2.bits ≠ 0#64)) →
     ∃ j : { z : Nat × Nat × List (Int × Pk) × Trc // runG l (wt p) [(r, p)] tr0 = runG l z.1 (z.2.2.1.drop z.2.1) z.2.2.2 ∧ wsum (z.2.2.1.drop z.2.1) ≤ z.1 ∧ z.2.1 + z.1 ≤ 8129 ∧ z.2.1 ≤ z.2.2.1.length ∧ (∀ q ∈ z.2.2.1.drop z.2.1, FitL l q.2 ∧ (findT l q.1 = none → q.2.bits ≠ 0#64)) ∧ z.2.2.2.dl.length + 64 * z.1 ≤ 600000 ∧ z.2.2.2.cr.length + 64 * z.1 ≤ 600000 ∧ z.2.2.2.ls.length + z.1 ≤ 600000 }, j.1 = (n, i + 1, Q ++ o.cps, noteR t q1 q2 o) := fun o ho e1 e2 e3 => by
    have hdrop : (Q ++ o.cps).drop (i + 1) = Q.drop (i + 1) ++ o.cps := List.drop_append_of_le_length (by omega)
    have hlv : (locV q1 o q2).length ≤ 64 := by unfold locV; rw [List.length_map]; exact bitsI_len _
    refine ⟨⟨(n, i + 1, Q ++ o.cps, noteR t q1 q2 o), by simp only [hdrop]; exact e1, by simp only [hdrop, wsum_app]; omega, by simp only; omega, by simp only [List.length_append]; omega, ?_, ?_, ?_, ?_⟩, rfl⟩
    ·intro q hq
     simp only [hdrop] at hq
     rcases List.mem_append.1 hq with hq | hq
     ·exact i5 q (by simp [hq])
     ·exact e3 q hq
    ·simp only [noteR, List.length_append]; omega
    ·simp only [noteR, List.length_append, List.length_map]; omega
    ·simp only [noteR]; split <;> (try simp only [List.length_append, List.length_cons, List.length_nil]) <;> omega
   cases hfd : findT l q1 with
   | none =>
     have eN : nextQ l (q1, q2) = [] := by simp [nextQ, hfd]
     have eS := noteR_none (q := (q1, q2)) hfd (hFb hfd) t
     rw [eN, eS] at i1
     obtain ⟨jj, hjj⟩ := rest ⟨0#64, q2.bits, []⟩ (by simp) i1 (by simp [wsum]; omega) (by simp)
     rw [hfd] at hfq
     simp only [foundT, Option.getD_none, Option.isSome_none, tb0, tblT] at hfq
     have hnt := note14_c t (by omega) (by omega) (by omega) q1 q2 ⟨0#64, q2.bits, []⟩ (by simp)
     simp only [pkT, Pk.cs, List.map, outT, rowT3] at hnt
     refine ACall.of hfq [] 0 ?_
     simp -dsimp [hiz]
     try refine ⟨?_, ⟨by kernel_rfl⟩⟩
     refine ACall.view [63] ?_
     simp -dsimp
     try refine ⟨?_, ⟨by kernel_rfl⟩⟩
     refine ACall.of2 hnt [] [(900, 70), (901, 71), (902, 72)] 1000 ?_
     simp -dsimp [bv, wrap_i64 (n := (i : Int) + 1) (by omega) (by omega)]
     and_intros
     all_goals try first | omega | exact ⟨by kernel_rfl⟩
     refine ⟨jj, ?_, by rw [hjj]; simp⟩
     rw [hjj]
     refine (GS.to ?_).trans (step ⟨0#64, q2.bits, []⟩ (Q ++ []) ((i : Int) + 1))
     simp [bv, Pk.cs]
   | some b2 =>
     have hb2 : b2.Sm := hl.t b2 (List.mem_of_find?_eq_some hfd)
     have hB2 := hFq.all b2 (findT_mem hfd).1
     obtain ⟨hV1, hV2⟩ := fwd_spec hB2
     have eN : nextQ l (q1, q2) = (fwdV b2 q2).cps := by simp [nextQ, hfd, hV1]
     have eS := noteR_step (q := (q1, q2)) hfd t
     have hnf := next_fit (q := (q1, q2)) hFq
     have hRI := (RunI.step (l := l) (q := (q1, q2)) (Q := []) (t := tr0) ⟨fun c hc => by simp at hc; subst hc; exact ⟨hFq, hFb⟩, by simp [tr0], by simp [tr0], by simp [tr0]⟩).fit
     rw [List.nil_append] at hRI
     rw [eN] at i1 hq hRI
     rw [eS, hV1] at i1
     have hcl := fwdR_len b2 q2
     rw [hV1] at hcl
     simp only at hcl i1
     have hdo := do13_c b2 hb2 q2 hB2.ck hFq.ok hB2.len
     rw [hfd] at hfq
     simp only [foundT, Option.getD_some, Option.isSome_some, tblT] at hfq
     clear hV1 hV2 eN eS hnf
     generalize fwdV b2 q2 = o at i1 hq hRI hcl hdo
     obtain ⟨jj, hjj⟩ := rest o hcl i1 hq hRI
     have hnt := note14_c t (by omega) (by omega) (by omega) q1 q2 o hcl
     simp only [pkT, Pk.cs, List.map, outT, rowT3, tblT] at hnt hdo
     have hdl : dLen 12 (o.cps.map cpC) := dLen_map 12 _ _ fun _ => rfl
     refine ACall.of hfq [] 0 ?_
     simp -dsimp [hiz]
     try refine ⟨?_, ⟨by kernel_rfl⟩⟩
     refine ACall.of hdo [] 0 ?_
     simp -dsimp
     try refine ⟨?_, ⟨by kernel_rfl⟩⟩
     refine ACall.of2 hnt [] [(900, 70), (901, 71), (902, 72)] 1000 ?_
     simp -dsimp [bv, wrap_i64 (n := (i : Int) + 1) (by omega) (by omega)]
     and_intros
     all_goals try first | omega | exact hdl | exact ⟨by kernel_rfl⟩
     refine ⟨jj, ?_, by rw [hjj]; simp⟩
     rw [hjj]
     refine (GS.to ?_).trans (step o (Q ++ o.cps) ((i : Int) + 1))
     simp [bv, Pk.cs]
  ·have hiz : ¬ (i : Int) < Q.length := by omega
   have e0 : Q.drop i = [] := List.drop_eq_nil_of_le (by omega)
   rw [e0, runG_nil] at i1
   simp -dsimp [hiz]
   try refine ⟨?_, ⟨by kernel_rfl⟩⟩
   refine Fin.box (.o 6) rfl ?_
   simp -dsimp
   refine Fin.of ?_
   simp [trcT, i1]
theorem router0_c (T : Tp) (hT : TapeOK T) (rs : List Rt) (ls : List Lk) (hr : 1 ≤ rs.length ∧ rs.length ≤ 1000) : Contract Tryz.prog 41 [.ptr (.x 0) 0, .agg [.d (.sl (rts rs)), .d (.sl (lks ls))], .d (.int .i64 0)] [tapeI T] (.d (.int .i64 (rs.getD (gNext T rs.length).1.toNat ⟨0, false⟩).id)) [tapeI (gNext T rs.length).2] [] := by
 have hr0 : ¬ rs.length = 0 := by omega
 have hrn : ¬ rs = [] := fun h => by simp [h] at hr0
 refine contract_of Tryz.func41 rfl (fun E0 => ?_)
 refine awp.sound (g := .mk) (ow := []) (kp := (fun k => k==0||k==1||k==2||k==4||k==6||k==19)) ?_
 rw [Tryz.ntmps41]
 simp -dsimp [hrn]
 try refine ⟨?_, ⟨by kernel_rfl⟩⟩
 refine ACall.of (next_c T hT rs.length ⟨by omega, by omega⟩) [.x 0] 0 ?_
 have m1 := gNext_nonneg T rs.length
 have m2 := gNext_lt T (n := rs.length) (by omega)
 generalize gNext T rs.length = q at m1 m2 ⊢
 obtain ⟨k, hk⟩ : ∃ k : Nat, q.1 = k := ⟨q.1.toNat, by omega⟩
 have hkl : k < rs.length := by omega
 have hx : rs[k]? = some rs[k] := List.getElem?_eq_getElem hkl
 generalize rs[k] = x at hx
 have hx' := rts_get hx
 rw [hk]
 simp -dsimp [hx', Rt.cs]
 and_intros
 all_goals try first | rfl | omega | exact ⟨by kernel_rfl⟩
 refine Fin.of ?_
 simp [hx]
@[simp] theorem isObj_tape (T : Tp) : isObj (tapeI T) = true := rfl
theorem tape_new (L : List Int) (h : ∀ x ∈ L, I64 x) : TapeOK (L.take 600, 0) := ⟨by simp; omega, fun x hx => h x (List.mem_of_mem_take hx)⟩
theorem gDom_ok (T : Tp) {most : Int} (hm : 1 ≤ most ∧ most ≤ 24) : (gDom T most).2.2.1.length ≤ 24 ∧ (∀ b ∈ (gDom T most).2.2.1, chk b = 0) ∧ TapeOK (gDom T most).2.2.2 = TapeOK T ∧ (gDom T most).2.1.es.length ≤ 24 ∧ 1 ≤ (gDom T most).1.rs.length ∧ (gDom T most).1.rs.length ≤ 24 := by
 have hs := gTop_small T hm
 obtain ⟨h1, h2⟩ := gPlan_zero (gTop T most).2 (gTop T most).1.rs
 refine ⟨all11_len _ _, all11_ok _ _, h1.trans (by simp), Nat.le_trans h2 hs.1, ?_, hs.1⟩
 have b1 := gRange_lo T 1 most
 simp [gDom, gTop, gRts]
 omega
theorem locV_len (r : Int) (o : Out) (p : Pk) : (locV r o p).length ≤ 64 := by unfold locV; rw [List.length_map]; exact bitsI_len _
theorem stepT_len (l : List Tb) (q : Int × Pk) (t : Trc) : (stepT l q t).dl.length ≤ t.dl.length + 64 ∧ (stepT l q t).cr.length ≤ t.cr.length + 64 ∧ (stepT l q t).ls.length ≤ t.ls.length + 64 := by
 unfold stepT
 split
 ·simp
 ·rename_i b _
  have h1 := locV_len q.1 (fwdR b q.2).1 q.2
  have h2 := fwdR_len b q.2
  refine ⟨by simp only [List.length_append]; omega, by simp only [List.length_append, List.length_map]; omega, ?_⟩
  simp only
  split
  ·omega
  ·simp
theorem runG_len (l : List Tb) : ∀ (n : Nat) (Q : List (Int × Pk)) (t : Trc), (runG l n Q t).dl.length ≤ t.dl.length + 64 * n ∧ (runG l n Q t).cr.length ≤ t.cr.length + 64 * n ∧ (runG l n Q t).ls.length ≤ t.ls.length + 64 * n
 | 0, Q, t => by simp [runG]
 | n + 1, [], t => by rw [runG_nil]; omega
 | n + 1, q :: Q, t => by
   have h1 := runG_len l n (Q ++ nextQ l q) (stepT l q t)
   have h2 := stepT_len l q t
   rw [runG]; omega
theorem run_small (l : List Tb) (p : Pk) (r : Int) : (runR l p r).1.dl.length ≤ 1000000 ∧ (runR l p r).1.cr.length ≤ 1000000 ∧ (runR l p r).1.ls.length ≤ 1000000 := by
 by_cases h : fitsR l p r = 0
 ·obtain ⟨h1, _, h2⟩ := fits_fit h
  rw [h2]
  have h3 := runG_len l (wt p) [(r, p)] tr0
  have h4 := wt_le h1.ok
  simp only [tr0, List.length_nil] at h3 ⊢
  omega
 ·rw [fits_not h]; simp [tr0]
def cm (acc : List (List Int × Int)) : List (List Int × TV) := acc.map fun x => (x.1, .d (.int .i64 x.2))
def cntI : List (List Int × Int) → List Int → Int
 | [], _ => 0
 | (a, n) :: es, k => if k = a then n else cntI es k
def incK : List (List Int × Int) → List Int → List (List Int × Int)
 | [], k => [(k, 1)]
 | (a, n) :: es, k => if k = a then (k, n + 1) :: es else (a, n) :: incK es k
theorem lk_cm : ∀ (acc : List (List Int × Int)) (k : List Int), lkK false (kget (cm acc) k) (TV.d (.int .i64 0)) = TV.d (.int .i64 (cntI acc k))
 | [], k => rfl
 | (a, n) :: es, k => by
   have ih := lk_cm es k
   simp only [cm, List.map_cons, kget, cntI] at ih ⊢
   by_cases h : k = a
   ·simp [h, lkK]
   ·rw [if_neg h, if_neg h]; exact ih
theorem kput_kput : ∀ (es : List (List Int × TV)) (k : List Int) (v w : TV), kput (kput es k v) k w = kput es k w
 | [], k, v, w => by simp [kput]
 | (a, x) :: es, k, v, w => by
   have ih := kput_kput es k v w
   simp only [kput]
   by_cases h : k = a
   ·simp [h, kput]
   ·rw [if_neg h, if_neg h]; simp only [kput]; rw [if_neg h, ih]
theorem kput_cm : ∀ (acc : List (List Int × Int)) (k : List Int), kput (cm acc) k (TV.d (.int .i64 (cntI acc k + 1))) = cm (incK acc k)
 | [], k => rfl
 | (a, n) :: es, k => by
   have ih := kput_cm es k
   simp only [cm, List.map_cons, kput, cntI, incK] at ih ⊢
   by_cases h : k = a
   ·simp [h]
   ·rw [if_neg h, if_neg h, if_neg h, ih]; rfl
theorem klen_cm {n : Nat} {acc : List (List Int × Int)} (h : ∀ x ∈ acc, x.1.length = n) : klen n (cm acc) := fun y hy => by
 simp only [cm, List.mem_map] at hy
 obtain ⟨x, hx, rfl⟩ := hy
 exact h x hx
theorem cm_keys (acc : List (List Int × Int)) : (cm acc).map (·.1) = acc.map (·.1) := by simp [cm]
theorem incK_mem : ∀ {acc : List (List Int × Int)} {k : List Int} {x : List Int × Int}, x ∈ incK acc k → x ∈ acc ∨ x.1 = k
 | [], k, x, h => by simp [incK] at h; exact .inr (by rw [h])
 | (a, n) :: es, k, x, h => by
   simp only [incK] at h
   split at h
   ·rcases List.mem_cons.1 h with rfl | h
    ·exact .inr rfl
    ·exact .inl (List.mem_cons_of_mem _ h)
   ·rcases List.mem_cons.1 h with rfl | h
    ·exact .inl List.mem_cons_self
    ·rcases incK_mem h with h | h
     ·exact .inl (List.mem_cons_of_mem _ h)
     ·exact .inr h
theorem incK_keys : ∀ {acc : List (List Int × Int)} (k : List Int), (acc.map (·.1)).Nodup → ((incK acc k).map (·.1)).Nodup
 | [], k, _ => by simp [incK]
 | (a, n) :: es, k, h => by
   simp only [List.map_cons, List.nodup_cons] at h
   simp only [incK]
   split
   ·rename_i e; subst e
    simp only [List.map_cons, List.nodup_cons]; exact h
   ·rename_i e
    simp only [List.map_cons, List.nodup_cons]
    refine ⟨fun hm => ?_, incK_keys k h.2⟩
    obtain ⟨x, hx, hxa⟩ := List.mem_map.1 hm
    rcases incK_mem hx with hx | hx
    ·exact h.1 (List.mem_map.2 ⟨x, hx, hxa⟩)
    ·exact e (hx.symm.trans hxa)
theorem incK_len : ∀ (acc : List (List Int × Int)) (k : List Int), (incK acc k).length ≤ acc.length + 1
 | [], k => by simp [incK]
 | (a, n) :: es, k => by
   have := incK_len es k
   simp only [incK]; split <;> simp <;> omega
theorem cntI_le : ∀ {acc : List (List Int × Int)} {m : Int} (_ : ∀ x ∈ acc, 1 ≤ x.2 ∧ x.2 ≤ m) (_ : 0 ≤ m) (k : List Int), 0 ≤ cntI acc k ∧ cntI acc k ≤ m
 | [], m, _, hm, k => by simp [cntI]; omega
 | (a, n) :: es, m, h, hm, k => by
   simp only [cntI]
   split
   ·have := h (a, n) (by simp); omega
   ·exact cntI_le (fun x hx => h x (List.mem_cons_of_mem _ hx)) hm k
theorem incK_le : ∀ {acc : List (List Int × Int)} {m : Int} (_ : ∀ x ∈ acc, 1 ≤ x.2 ∧ x.2 ≤ m) (_ : 0 ≤ m) (k : List Int), ∀ x ∈ incK acc k, 1 ≤ x.2 ∧ x.2 ≤ m + 1
 | [], m, _, hm, k => by simp [incK]; omega
 | (a, n) :: es, m, h, hm, k => by
   intro x hx
   simp only [incK] at hx
   split at hx
   ·rcases List.mem_cons.1 hx with rfl | hx
    ·have := h (a, n) (by simp); simp at this ⊢; omega
    ·have := h x (List.mem_cons_of_mem _ hx); omega
   ·rcases List.mem_cons.1 hx with rfl | hx
    ·have := h (a, n) (by simp); simp at this ⊢; omega
    ·exact incK_le (fun x hx => h x (List.mem_cons_of_mem _ hx)) hm k x hx
structure AccOK (acc : List (List Int × Int)) (m : Nat) : Prop where
 two : ∀ x ∈ acc, x.1.length = 2
 nd : (acc.map (·.1)).Nodup
 le : ∀ x ∈ acc, 1 ≤ x.2 ∧ x.2 ≤ m
 len : acc.length ≤ m
theorem AccOK.nil : AccOK [] 0 := ⟨by simp, by simp, by simp, by simp⟩
theorem AccOK.mono {acc : List (List Int × Int)} {m n : Nat} (h : AccOK acc m) (hn : m ≤ n) : AccOK acc n := ⟨h.two, h.nd, fun x hx => by have := h.le x hx; omega, by have := h.len; omega⟩
theorem AccOK.inc {acc : List (List Int × Int)} {m : Nat} (h : AccOK acc m) (a b : Int) : AccOK (incK acc [a, b]) (m + 1) :=
 ⟨fun x hx => by rcases incK_mem hx with hx | hx; exact h.two x hx; rw [hx]; rfl, incK_keys _ h.nd, fun x hx => by
  have := incK_le h.le (by omega) [a, b] x hx
  push_cast; exact this, by have := incK_len acc [a, b]; have := h.len; omega⟩
def crK (c : Int × Int × BitVec 64) : List Int := [c.1, c.2.1]
def addH (acc : List (List Int × Int)) (cr : List (Int × Int × BitVec 64)) : List (List Int × Int) := cr.foldl (fun a c => incK a (crK c)) acc
theorem addH_ok : ∀ (cr : List (Int × Int × BitVec 64)) {acc : List (List Int × Int)} {m : Nat}, AccOK acc m → AccOK (addH acc cr) (m + cr.length)
 | [], acc, m, h => by simpa [addH] using h
 | c :: cr, acc, m, h => by
   have := addH_ok cr (h.inc c.1 c.2.1)
   simp only [List.length_cons]
   rw [show m + (cr.length + 1) = m + 1 + cr.length by omega]
   exact this
theorem addH_take {cr : List (Int × Int × BitVec 64)} {j : Nat} {c : Int × Int × BitVec 64} (h : cr[j]? = some c) (acc : List (List Int × Int)) : addH acc (cr.take (j + 1)) = incK (addH acc (cr.take j)) [c.1, c.2.1] := by
 unfold addH
 rw [List.take_add_one, h]; simp [crK]
def entP (p : Pk) (k : Int) : Pk := ⟨p.mode, p.subd, p.set, p.len, p.ttl, k, p.ing, p.proto, p.bits, p.pay⟩
def lgo (l : List Tb) (r : Int) (p : Pk) : Nat → Nat → List (List Int × Int) → List (List Int × Int) × Int
 | 0, _, acc => (acc, 0)
 | n + 1, k, acc => if (runR l (entP p k) r).2 = 0 then lgo l r p n (k + 1) (addH acc (runR l (entP p k) r).1.cr) else ([], (runR l (entP p k) r).2)
def leL (x y : List Int) : Bool := !decide (cfL y x < 0)
def ldR (acc : List (List Int × Int)) : List (List Int) := (acc.map fun x => x.1 ++ [x.2]).mergeSort leL
def loadsR (l : List Tb) (r : Int) (p : Pk) : List (List Int) × Int :=
 if (lgo l r p 8 0 []).2 = 0 then (ldR (lgo l r p 8 0 []).1, 0) else ([], (lgo l r p 8 0 []).2)
theorem leL_iff (x y : List Int) : leL x y = true ↔ ¬ (y.getD 0 0 < x.getD 0 0 ∨ y.getD 0 0 = x.getD 0 0 ∧ y.getD 1 0 < x.getD 1 0) := by
 unfold leL; rw [← cfL_lt]; simp
theorem leL_sorted (zs : List (List Int)) : (zs.mergeSort leL).Pairwise (fun a b => leL a b = true) :=
 List.pairwise_mergeSort (fun a b c => by rw [leL_iff, leL_iff, leL_iff]; omega) (fun a b => by rw [Bool.or_eq_true, leL_iff, leL_iff]; omega) zs
theorem sort_leL {zs ys : List (List Int)} (h : zs.Perm ys) (hu : ∀ x ∈ zs, ∀ y ∈ zs, x.getD 0 0 = y.getD 0 0 → x.getD 1 0 = y.getD 1 0 → x = y) : zs.mergeSort leL = ys.mergeSort leL := by
 refine List.Perm.eq_of_pairwise ?_ (leL_sorted zs) (leL_sorted ys) (((List.mergeSort_perm zs leL).trans h).trans (List.mergeSort_perm ys leL).symm)
 intro a b ha hb h1 h2
 rw [leL_iff] at h1 h2
 exact hu a ((List.mergeSort_perm zs leL).mem_iff.1 ha) b (h.mem_iff.2 ((List.mergeSort_perm ys leL).mem_iff.1 hb)) (by omega) (by omega)
def rowK (x : List Int × Int) : List Int := x.1 ++ [x.2]
theorem row_one {acc : List (List Int × Int)} {m : Nat} (h : AccOK acc m) : ∀ x ∈ acc.map rowK, ∀ y ∈ acc.map rowK, x.getD 0 0 = y.getD 0 0 → x.getD 1 0 = y.getD 1 0 → x = y := by
 intro x hx y hy h0 h1
 obtain ⟨⟨a, n⟩, ha, rfl⟩ := List.mem_map.1 hx
 obtain ⟨⟨b, m'⟩, hb, rfl⟩ := List.mem_map.1 hy
 have la := h.two _ ha
 have lb := h.two _ hb
 match a, b, la, lb with
 | [a0, a1], [b0, b1], _, _ =>
   simp [rowK] at h0 h1
   subst h0 h1
   have := h.nd
   have hp : ∀ {l : List (List Int × Int)}, (l.map (·.1)).Nodup → ∀ {k : List Int} {u v : Int}, (k, u) ∈ l → (k, v) ∈ l → u = v := by
    intro l
    induction l with
    | nil => intro _ k u v h; simp at h
    | cons z l ih =>
      intro hn k u v h1 h2
      simp only [List.map_cons, List.nodup_cons] at hn
      rcases List.mem_cons.1 h1 with e1 | h1 <;> rcases List.mem_cons.1 h2 with e2 | h2
      ·rw [← e1] at e2; exact (Prod.mk.inj e2).2.symm
      ·exact absurd (List.mem_map.2 ⟨_, h2, by rw [← e1]⟩) hn.1
      ·exact absurd (List.mem_map.2 ⟨_, h1, by rw [← e2]⟩) hn.1
      ·exact ih hn.2 h1 h2
   rw [hp this ha hb]
end Go.Proofs

namespace Go.Tr
open Go
def strikeS (p : Pl) (i : Nat) (L : List (List Pl × List Pl)) : List (List Pl × List Pl) := L.modify i fun x => (x.1.filter (fun q => decide (q ≠ p)), x.2)
def strikeL (p : Pl) (i : Nat) (L : Log) : Log := L.modify i fun x => (x.1.filter (fun q => decide (q ≠ p)), x.2)
theorem strikeL_get (p : Pl) (i : Nat) (L : Log) (k : Nat) : ((strikeL p i L)[k]?).map (·.2) = (L[k]?).map (·.2) := by
 unfold strikeL
 rw [List.getElem?_modify]
 cases L[k]? with
 | none => rfl
 | some x => by_cases e : i = k <;> simp [e]
theorem part_strike (p : Pl) (i : Nat) (L : Log) (X : Nat → Bool) (t : S) : ∀ k, part (strikeL p i L) X t k = part L X t k
 | 0 => rfl
 | k + 1 => by
   have ih := part_strike p i L X t k
   have hg := strikeL_get p i L k
   rw [part, part, ih]
   cases h1 : (strikeL p i L)[k]? with
   | none => cases h2 : L[k]? with
     | none => rfl
     | some y => rw [h1, h2] at hg; simp at hg
   | some x => cases h2 : L[k]? with
     | none => rw [h1, h2] at hg; simp at hg
     | some y =>
       rw [h1, h2] at hg
       simp only [Option.map_some, Option.some.injEq] at hg
       obtain ⟨x1, x2⟩ := x
       obtain ⟨y1, y2⟩ := y
       simp only at hg
       subst hg
       rfl
theorem drawOKs_map {ops : Array Oper} (L : Log) : drawOKs ops (L.map fun x => (x.1, x.2.map (·.1))) = drawOK ops L := by
 have := drawOKs_eq (ops := ops) L.reverse
 rw [shapes_eq, List.reverse_reverse, List.append_nil] at this
 exact this
theorem strike_map (p : Pl) (i : Nat) (L : Log) : strikeS p i (L.map fun x => (x.1, x.2.map (·.1))) = (strikeL p i L).map fun x => (x.1, x.2.map (·.1)) := by
 apply List.ext_getElem?
 intro k
 unfold strikeS strikeL
 rw [List.getElem?_modify, List.getElem?_map, List.getElem?_map, List.getElem?_modify]
 cases L[k]? with
 | none => rfl
 | some x => by_cases e : i = k <;> simp [e]
section
variable {P : Program} {A : Actv} {ops : Array Oper} {ow : List Nat}
theorem region_tol {Q : Exit → Act → World → Prop} {id : Nat} {t t' : S} {L : Log} {i0 : Nat} {p0 : Pl} {rp0 : List Pl} {W0 : List (Pl × It)} (alt : It) (hm : P.follows .mixedOrders = true) (c : Chain P A ops 0 t L t') (hl : L.length = ops.size) (hd : drawOK ops (strikeL p0 i0 L) = true) (hr0 : L[i0]? = some (rp0, W0)) (halt : Sum P A ops i0 (upd (part L (fun _ => true) t i0) p0 alt) rp0 W0)
  (hreach : ∀ X, DownClosed ops X → X i0 = false → part L X t ops.size p0 = part L (fun _ => true) t i0 p0 ∨ part L X t ops.size p0 = alt)
  (hQ : ∀ a w, Inv A t' a w → Q .normal a w) (a : Act) (w : World) (hi : Inv A t a w) : (Code.region id ops true).wp P Q a w := by
 have hD := drawOK_spec hd
 obtain ⟨hs, ht'⟩ := c.sums
 rw [hl] at ht'
 have key : ∀ (fuel : Nat) (listed : Array Bool), listed.size = ops.size → DownClosed ops (fun i => listed.getD i false) → todo (fun i => listed.getD i false) ops.size ≤ fuel →
   ∀ a w, Inv A (part L (fun i => listed.getD i false) t ops.size) a w → wpAny P .any ops Q fuel listed a w := by
  intro fuel
  have full : ∀ (listed : Array Bool), (∀ k, k < ops.size → listed.getD k false = true) → ∀ m, m ≤ ops.size → part L (fun i => listed.getD i false) t m = part L (fun _ => true) t m := by
   intro listed h m
   induction m with
   | zero => intro _; rfl
   | succ m ih =>
     intro hm
     have h1 := h m (by omega)
     have h2 := ih (by omega)
     simp only [part, h1, if_true, h2]
  have last : ∀ (listed : Array Bool), listed.size = ops.size → Region.ready .any ops listed = [] → ∀ k, k < ops.size → listed.getD k false = true := by
   intro listed hsz hr k
   induction k using Nat.strongRecOn with
   | _ k ih =>
     intro hk
     rcases hx : listed.getD k false with _ | _
     ·exfalso
      have hmem : k ∈ Region.ready .any ops listed := by
       unfold Region.ready
       rw [List.mem_filter]
       refine ⟨by simpa using hk, ?_⟩
       have ho : ops[k]? = some ops[k] := Array.getElem?_eq_getElem hk
       have hk' : k < listed.size := by omega
       have hx' : listed[k] = false := by simpa [Array.getD, hk'] using hx
       simp only [ho, Option.map_some, Option.getD_some, Bool.and_eq_true, Array.all_eq_true_iff_forall_mem, Bool.or_eq_true, Bool.not_eq_true']
       refine ⟨by simp [Array.getD, hk', hx'], fun e he => ?_⟩
       rcases hb : Region.binds .any e with _ | _
       ·exact .inl rfl
       ·have hlt := hD.lt k _ ho e he hb
        exact .inr (ih e.on hlt (by omega))
      rw [hr] at hmem; simp at hmem
     ·rfl
  induction fuel with
  | zero =>
    intro listed hsz hdc hle a w hi
    have hall := todo_zero (X := fun i => listed.getD i false) (n := ops.size) (by omega)
    refine ⟨?_, ?_⟩
    ·unfold Region.ready
     rw [List.filter_eq_nil_iff]
     intro k hk
     have hk' : k < ops.size := by simpa using hk
     have := hall k hk'
     have hkl : k < listed.size := by omega
     simp [Array.getD, hkl] at this ⊢
     simp [this]
    ·rw [full listed hall _ (Nat.le_refl _)] at hi
     exact hQ a w (ht' ▸ hi)
  | succ fuel ih =>
    intro listed hsz hdc hle a w hi
    refine ⟨fun hr => ?_, fun i hir => ?_⟩
    ·rw [full listed (last listed hsz hr) _ (Nat.le_refl _)] at hi
     exact hQ a w (ht' ▸ hi)
    ·unfold Region.ready at hir
     rw [List.mem_filter] at hir
     obtain ⟨h1, h2⟩ := hir
     have hin : i < ops.size := by simpa using h1
     have ho : ops[i]? = some ops[i] := Array.getElem?_eq_getElem hin
     have hil : i < listed.size := by omega
     simp only [ho, Option.map_some, Option.getD_some, Bool.and_eq_true, Array.all_eq_true_iff_forall_mem, Bool.or_eq_true, Bool.not_eq_true'] at h2
     obtain ⟨h3, h4⟩ := h2
     have hxi : listed.getD i false = false := by simpa [Array.getD, hil] using h3
     have hready : ∀ e ∈ (ops[i]).after, Region.binds .any e = true → (fun i => listed.getD i false) e.on = true := fun e he hb => by
      rcases h4 e he with h5 | h5
      ·rw [hb] at h5; simp at h5
      ·exact h5
     have hLi : i < L.length := by omega
     have hLg : L[i]? = some (L[i].1, L[i].2) := List.getElem?_eq_getElem hLi
     have hsum := hs i _ _ hLg
     rw [Nat.zero_add] at hsum
     have hLm : (strikeL p0 i0 L)[i]? = some (if i = i0 then L[i].1.filter (fun q => decide (q ≠ p0)) else L[i].1, L[i].2) := by
      unfold strikeL
      rw [List.getElem?_modify, hLg]
      by_cases e : i0 = i
      ·simp [e]
      ·simp [e, show ¬ i = i0 from fun h => e h.symm]
     have hrd : ∀ q, q ∈ L[i].1 → (i = i0 → q ≠ p0) → part L (fun i => listed.getD i false) t ops.size q = part L (fun _ => true) t i q := fun q hq hne => by
      obtain ⟨g1, g2⟩ := part_reads (t := t) hD hdc ho hready hxi hLm (p := q) (.inl (by
       split
       ·rename_i e
        simp only [List.mem_filter, decide_eq_true_eq]
        exact ⟨hq, hne e⟩
       ·exact hq))
      simp only [part_strike] at g1 g2
      rw [g2 ops.size (by omega) (Nat.le_refl _), g1 i (Nat.le_refl _)]
     have hsum' : ∀ (K : Act → World → Prop) (Q' : Exit → Act → World → Prop), (∀ a' w', Inv A (over (part L (fun i => listed.getD i false) t ops.size) L[i].2) a' w' → K a' w') → wpOp P ops Q' i K a w := by
      intro K Q' hK
      by_cases e : i = i0
      ·subst e
       rcases hreach _ hdc hxi with h | h
       ·refine hsum _ (fun q hq => ?_) a w hi K Q' hK
        by_cases eq : q = p0
        ·rw [eq]; exact h
        ·exact hrd q hq fun _ => eq
       ·rw [hLg] at hr0
        obtain ⟨rfl, rfl⟩ := Prod.mk.inj (Option.some.inj hr0)
        refine halt _ (fun q hq => ?_) a w hi K Q' hK
        unfold upd
        by_cases eq : q = p0
        ·rw [if_pos eq, eq]; exact h
        ·rw [if_neg eq]; exact hrd q hq fun _ => eq
      ·exact hsum _ (fun q hq => hrd q hq fun h => absurd h e) a w hi K Q' hK
     refine hsum' _ Q fun a' w' hi' => ?_
     ·have hnx := part_next (t := t) hD hdc hin hxi hLm ops.size (Nat.le_refl _)
      simp only [part_strike] at hnx
      have hset : (fun j => (listed.setIfInBounds i true).getD j false) = fun j => if j = i then true else listed.getD j false := by
       funext j
       by_cases e : j = i
       ·subst e; simp [Array.getD, hil]
       ·by_cases hj : j < listed.size
        ·simp [Array.getD, hj, e, Array.getElem_setIfInBounds, show ¬ i = j from fun h => e h.symm]
        ·simp [Array.getD, hj, e]
      refine ih (listed.setIfInBounds i true) (by simpa using hsz) ?_ ?_ a' w' ?_
      ·rw [hset]
       intro j o' ho' hxj e he hb
       by_cases ej : j = i
       ·subst ej
        rw [ho] at ho'; simp only [Option.some.injEq] at ho'; subst ho'
        have := hready e he hb
        by_cases ee : e.on = j
        ·simp [ee]
        ·simpa [ee] using this
       ·simp only [ej, if_false] at hxj
        have := hdc j o' ho' hxj e he hb
        by_cases ee : e.on = i
        ·simp [ee]
        ·simpa [ee] using this
      ·rw [hset]
       have := (todo_set (X := fun i => listed.getD i false) hxi (n := ops.size)).2 hin
       omega
      ·rw [hset, hnx, if_pos hin]
       exact hi'
 refine wp_region_any hm ?_
 have hinit : (fun i => (Array.replicate ops.size false).getD i false) = fun _ => false := by
  funext i
  by_cases h : i < ops.size <;> simp [Array.getD, h]
 refine key ops.size (Array.replicate ops.size false) (by simp) ?_ ?_ a _ ?_
 ·rw [hinit]; intro j o _ hx; simp at hx
 ·rw [hinit]
  have : ∀ n, todo (fun _ => false) n = n := fun n => by induction n with
   | zero => rfl
   | succ n ih => simp [todo, ih]
  rw [this]; exact Nat.le_refl _
 ·rw [hinit]
  have : ∀ n, part L (fun _ => false) t n = t := fun n => by induction n with
   | zero => rfl
   | succ n ih => rw [part]; simpa using ih
  rw [this]
  obtain ⟨E, hw, hE⟩ := hi
  subst hw
  let E' : En := { E with w := { E.w with drawn := E.w.drawn + 1 } }
  have x : ExtA E E' := ⟨fun _ _ h => h, fun _ _ _ => rfl, fun _ _ _ h => h, fun _ _ h => h, fun _ _ h => h, fun _ _ c v _ h => ⟨c, v, h, Nat.le_refl _, fun _ => rfl⟩⟩
  exact ⟨E', rfl, hE.step (hE.h.more x rfl rfl (Nat.le_refl _) (fun _ _ => rfl) (fun b o h => .inl h)) x
   (hE.fr.next rfl rfl rfl (Nat.le_refl _) (fun _ _ _ _ => rfl) (fun _ => rfl) (fun _ _ h => .inl h) (fun _ _ h => h) (fun _ _ h => .inl h)) (fun _ => rfl)⟩
def tolB (ops : Array Oper) (L : List (List Pl × List Pl)) (i0 j0 : Nat) (p : Pl) : Bool :=
 drawF ops (strikeS p i0 L) && (decide (i0 < ops.size) && (!((L.getD i0 ([], [])).2.contains p) &&
  (List.range ops.size).all fun k => !((L.getD k ([], [])).2.contains p) || ((k == j0 && decide (i0 < j0)) || (decide (i0 < k) && ((ancs ops.toList []).getD k []).contains i0))))
theorem reach_of {L : Log} {t : S} {i0 j0 : Nat} {p : Pl} (hD : DOK ops (strikeL p i0 L) (fun j => (ancs ops.toList []).getD j [])) (hl : L.length = ops.size)
  (hk : ∀ k, k < ops.size → p ∈ (L.getD k ([], [])).2.map (·.1) → (k = j0 ∧ i0 < j0) ∨ (i0 < k ∧ i0 ∈ (ancs ops.toList []).getD k [])) (h0 : i0 < ops.size)
  (X : Nat → Bool) (hx : DownClosed ops X) (hxi : X i0 = false) : part L X t ops.size p = part L (fun _ => true) t i0 p ∨ part L X t ops.size p = over t (L.getD j0 ([], [])).2 p := by
 have hpre : ∀ k, k ≤ i0 → part L (fun _ => true) t k p = t p := by
  intro k
  induction k with
  | zero => intro _; rfl
  | succ k ih =>
    intro hle
    rw [part_step L _ t k fun _ hp => ?_]
    ·exact ih (by omega)
    ·rcases hk k (by omega) hp with h | h <;> omega
 rw [hpre i0 (Nat.le_refl _)]
 have key : ∀ m, m ≤ ops.size → part L X t m p = t p ∨ part L X t m p = over t (L.getD j0 ([], [])).2 p := by
  intro m
  induction m with
  | zero => intro _; exact .inl rfl
  | succ m ih =>
    intro hm
    by_cases hp : X m = true ∧ p ∈ (L.getD m ([], [])).2.map (·.1)
    ·rcases hk m (by omega) hp.2 with h | h
     ·obtain ⟨rfl, _⟩ := h
      refine .inr ?_
      rw [part, hp.1]
      simp only [if_true]
      have hg : L[m]? = some (L.getD m ([], [])) := by
       rw [List.getD_eq_getElem?_getD, List.getElem?_eq_getElem (by omega : m < L.length)]; rfl
      rw [hg]
      exact over_same hp.2
     ·exfalso
      have := hx.anc hD m (by omega) hp.1 i0 h.2
      rw [hxi] at this; simp at this
    ·rw [part_step L X t m fun hxm hpm => hp ⟨hxm, hpm⟩]
     exact ih (by omega)
 exact key _ (Nat.le_refl _)
structure ADrawT (P : Program) (A : Actv) (ow : List Nat) (ops : Array Oper) (L : Log) (t : S) : Prop where
 ok : drawF ops (shapes L []) = true ∨ ∃ (i0 j0 : Nat) (p : Pl), tolB ops (shapes L []) i0 j0 p = true ∧
  Sum P A ops i0 (upd (part L.reverse (fun _ => true) t i0) p (over t (L.reverse.getD j0 ([], [])).2 p)) (L.reverse.getD i0 ([], [])).1 (L.reverse.getD i0 ([], [])).2
theorem region_drawT {Q : Exit → Act → World → Prop} {id : Nat} {t t' : S} {L : Log} (hm : P.follows .mixedOrders = true) (c : Chain P A ops 0 t L t') (hl : L.length = ops.size) (hd : ADrawT P A ow ops L.reverse t)
  (hQ : ∀ a w, Inv A t' a w → Q .normal a w) (a : Act) (w : World) (hi : Inv A t a w) : (Code.region id ops true).wp P Q a w := by
 rcases hd.ok with h | ⟨i0, j0, p, h1, h2⟩
 ·have h7 := drawF_ok h
  rw [drawOKs_eq, List.reverse_reverse] at h7
  exact region_draw hm c hl h7 hQ a w hi
 ·rw [List.reverse_reverse] at h2
  unfold tolB at h1
  rw [shapes_eq, List.reverse_reverse, List.append_nil] at h1
  simp only [Bool.and_eq_true, decide_eq_true_eq, Bool.not_eq_true', List.all_eq_true, Bool.or_eq_true, beq_iff_eq, List.mem_range] at h1
  obtain ⟨k1, k2, k3, k4⟩ := h1
  have k5 := drawF_ok k1
  rw [strike_map, drawOKs_map] at k5
  have hgd : ∀ k, ((L.map fun x => (x.1, x.2.map (·.1))).getD k ([], [])).2 = (L.getD k ([], [])).2.map (·.1) := fun k => by
   rw [List.getD_eq_getElem?_getD, List.getElem?_map, List.getD_eq_getElem?_getD]
   cases L[k]? <;> rfl
  have hg0 : L[i0]? = some ((L.getD i0 ([], [])).1, (L.getD i0 ([], [])).2) := by
   rw [List.getD_eq_getElem?_getD, List.getElem?_eq_getElem (by omega : i0 < L.length)]; rfl
  refine region_tol (over t (L.getD j0 ([], [])).2 p) hm c hl k5 hg0 h2 (fun X hx hxi => reach_of (drawOK_spec k5) hl (fun k hk hp => ?_) k2 X hx hxi) hQ a w hi
  have := k4 k hk
  rw [hgd] at this
  rcases this with (h | h)
  ·rw [List.contains_eq_mem, decide_eq_false_iff_not] at h
   exact absurd hp h
  ·rcases h with h | h
   ·exact .inl h
   ·exact .inr ⟨h.1, by simpa using h.2⟩
end
end Go.Tr

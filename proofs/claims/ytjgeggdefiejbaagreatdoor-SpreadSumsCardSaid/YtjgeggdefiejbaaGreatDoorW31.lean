/-
  What functions of the program compute, stated as contracts over plain data; the conditions of each stand in its own statement.
-/
import Derived.Test.YtjgeggdefiejbaaGreatDoorW30
set_option linter.unusedSimpArgs false
set_option maxRecDepth 100000
set_option maxHeartbeats 2000000
namespace Go.Proofs
open Go Go.Tr
structure PlanV (rs : List Rt) (p : Pn) : Prop where
 subd : 0 ≤ p.subd ∧ p.subd ≤ 7
 len : validLen p.len = true
 n : p.es.length ≤ 24
 rt : ∀ e ∈ p.es, 1 ≤ e.r ∧ e.r ≤ 99
 ids : ∀ e ∈ p.es, 1 ≤ e.id ∧ e.id ≤ 256
 asc : p.es.Pairwise fun a b => a.id < b.id
 nod : (p.es.map (·.r)).Nodup
theorem planB_of {rs : List Rt} {p : Pn} (h : PlanV rs p) : planB p = true := by
 have gi : ∀ i (hi : i < p.es.length), gid p.es i = p.es[i].id ∧ grt p.es i = p.es[i].r := fun i hi => by simp [gid, grt, List.getD, hi]
 refine planB_ok (by simp [baseB, inB, h.subd, h.len, h.n]) (fun i hi => ?_) (fun i j hj hi => ?_)
 ·have h1 := h.ids p.es[i] (List.getElem_mem hi)
  have h2 := h.rt p.es[i] (List.getElem_mem hi)
  have h3 := gi i hi
  by_cases h0 : i = 0
  ·simp [edB, inB, h3, h1, h2, h0]
   subst h0
   simp [h3, h1, h2]
  ·have h4 := gi (i - 1) (by omega)
   have h5 := List.pairwise_iff_getElem.1 h.asc (i - 1) i (by omega) hi (by omega)
   simp [edB, inB, h3, h1, h2, h0, h4, h5]
 ·rw [(gi i hi).2, (gi j (by omega)).2]
  have := List.pairwise_iff_getElem.1 h.nod j i (by simp; omega) (by simpa using hi) hj
  simp only [List.getElem_map] at this
  exact fun e => this e.symm
theorem gOrderL_nodup : ∀ (n i : Nat) (T : Tp) (l : List Int), l.Nodup → (∀ x ∈ l, x < (i : Int)) → (gOrderL n i T l).1.Nodup
 | 0, _, _, _, h, _ => h
 | n + 1, i, T, l, h, hb => by
   rw [gOrderL]
   generalize (gNext T (i + 1)).1.toNat = k
   have hs : (l.take k ++ l.drop k).Nodup := by rw [List.take_append_drop]; exact h
   have hi : (i : Int) ∉ l := fun hm => by have := hb _ hm; omega
   refine gOrderL_nodup n (i + 1) _ _ ?_ fun x hx => ?_
   ·rw [List.nodup_append] at hs ⊢
    obtain ⟨h1, h2, h3⟩ := hs
    refine ⟨?_, h2, fun a ha b hb' => ?_⟩
    ·rw [List.nodup_append]
     refine ⟨h1, by simp, fun a ha b hb' => ?_⟩
     simp at hb'; subst hb'
     intro e; subst e
     exact hi (List.mem_of_mem_take ha)
    ·rcases List.mem_append.1 ha with ha | ha
     ·exact h3 a ha b hb'
     ·simp at ha; subst ha
      intro e; subst e
      exact hi (List.mem_of_mem_drop hb')
   ·simp only [List.mem_append, List.mem_singleton] at hx
    rcases hx with (hx | hx) | hx
    ·have := hb x (List.mem_of_mem_take hx); omega
    ·omega
    ·have := hb x (List.mem_of_mem_drop hx); omega
theorem gRts_get (k : Nat) {i : Nat} (h : i < k) (d : Rt) : ((gRts k).getD i d).id = (i : Int) + 1 := by
 simp [gRts, List.getD, h]
structure PlI (k : Nat) (o : List Int) (id : Int) (l : List Ed) : Prop where
 pos : 0 ≤ id
 rt : ∀ e ∈ l, 1 ≤ e.r ∧ e.r ≤ k ∧ e.r - 1 ∉ o
 ids : ∀ e ∈ l, 1 ≤ e.id ∧ e.id ≤ 256 ∧ e.id ≤ id
 asc : l.Pairwise fun a b => a.id < b.id
 nod : (l.map (·.r)).Nodup
theorem plI_loop (k : Nat) (len : Int) (hl : 8 ≤ len) : ∀ (o : List Int) (T : Tp) (id : Int) (l : List Ed), o.Nodup → (∀ x ∈ o, 0 ≤ x ∧ x < (k : Int)) → PlI k o id l →
  PlI k [] (gPlanL (gRts k) len o T id l).2.1 (gPlanL (gRts k) len o T id l).1
 | [], T, id, l, _, _, h => h
 | x :: o, T, id, l, hn, hb, h => by
   rw [List.nodup_cons] at hn
   rw [gPlanL]
   have hbx := hb x (by simp)
   refine plI_loop k len hl o _ _ _ hn.2 (fun y hy => hb y (by simp [hy])) ?_
   unfold gPlanS
   simp only
   have h0 : PlI k o id l := ⟨h.pos, fun e he => by have := h.rt e he; simp at this; exact ⟨this.1, this.2.1, this.2.2.2⟩, h.ids, h.asc, h.nod⟩
   split
   ·exact h0
   ·have bp : 1 ≤ (gPick (gNext T 4).2 [1, 1, 1, 2, len - 1]).1 := gPick_all (p := fun x => 1 ≤ x) (by simp) (by simp; omega)
    simp only
    generalize gPick (gNext T 4).2 [1, 1, 1, 2, len - 1] = p at bp ⊢
    split
    ·rename_i hid
     have hr : ((gRts k).getD x.toNat ⟨0, false⟩).id = x + 1 := by rw [gRts_get k (by omega)]; omega
     rw [hr]
     refine ⟨by have := h.pos; first | omega | (simp only; omega), fun e he => ?_, fun e he => ?_, ?_, ?_⟩
     ·simp only [List.mem_append, List.mem_singleton] at he
      rcases he with he | rfl
      ·exact h0.rt e he
      ·refine ⟨by first | omega | (simp only; omega), by first | omega | (simp only; omega), ?_⟩
       rw [show (x + 1 - 1 : Int) = x by omega]
       exact hn.1
     ·simp only [List.mem_append, List.mem_singleton] at he
      rcases he with he | rfl
      ·have := h.ids e he; first | omega | (simp only; omega)
      ·have := h.pos; first | omega | (simp only; omega)
     ·rw [List.pairwise_append]
      refine ⟨h.asc, by simp, fun a ha b hb' => ?_⟩
      simp at hb'; subst hb'
      have := h.ids a ha
      first | omega | (simp only; omega)
     ·rw [List.map_append, List.nodup_append]
      refine ⟨h.nod, by simp, fun a ha b hb' => ?_⟩
      simp at hb'; subst hb'
      obtain ⟨e, he, rfl⟩ := List.mem_map.1 ha
      have := (h.rt e he).2.2
      intro e1
      apply this
      rw [e1]
      simp
    ·exact ⟨by have := h.pos; first | omega | (simp only; omega), h0.rt, fun e he => by have := h.ids e he; first | omega | (simp only; omega), h.asc, h.nod⟩
theorem gPlan0_valid (T : Tp) {k : Nat} (hk : k ≤ 24) : PlanV (gRts k) (gPlan0 T (gRts k)).1 := by
 have hl : ((8 : Int) ≤ (gPick (gNext T 3).2 [8, 8, 16, 32, 64]).1) ∧ validLen (gPick (gNext T 3).2 [8, 8, 16, 32, 64]).1 = true := gPick_all (p := fun x => (8 : Int) ≤ x ∧ validLen x = true) (by simp) (by simp; decide)
 have h1 := gNext_nonneg T 3
 have h2 := gNext_lt T (n := 3) (by omega)
 have hln := gPlan0_len T (gRts k)
 rw [gRts_len] at hln
 have hord := gOrder_mem (gPick (gNext T 3).2 [8, 8, 16, 32, 64]).2 k
 have hnd : (gOrder (gPick (gNext T 3).2 [8, 8, 16, 32, 64]).2 k).1.Nodup := gOrderL_nodup _ _ _ _ (by simp) (by simp)
 have hI := plI_loop k _ hl.1 _ (gOrder (gPick (gNext T 3).2 [8, 8, 16, 32, 64]).2 k).2 0 [] hnd hord ⟨by omega, by simp, by simp, by simp, by simp⟩
 refine ⟨by simp only [gPlan0]; omega, hl.2, by omega, fun e he => ?_, fun e he => ?_, ?_, ?_⟩
 ·have he' : e ∈ (gPlanL (gRts k) (gPick (gNext T 3).2 [8, 8, 16, 32, 64]).1 (gOrder (gPick (gNext T 3).2 [8, 8, 16, 32, 64]).2 k).1 (gOrder (gPick (gNext T 3).2 [8, 8, 16, 32, 64]).2 k).2 0 []).1 := by simpa [gPlan0] using he
  have := hI.rt e he'
  omega
 ·have he' : e ∈ (gPlanL (gRts k) (gPick (gNext T 3).2 [8, 8, 16, 32, 64]).1 (gOrder (gPick (gNext T 3).2 [8, 8, 16, 32, 64]).2 k).1 (gOrder (gPick (gNext T 3).2 [8, 8, 16, 32, 64]).2 k).2 0 []).1 := by simpa [gPlan0] using he
  have := hI.ids e he'
  omega
 ·simpa [gPlan0] using hI.asc
 ·simpa [gPlan0] using hI.nod
set_option linter.unusedVariables false
theorem gPlan_zero_eq (T : Tp) (rs : List Rt) : gPlan T rs 0 = ((gPlan0 T rs).1, (gPlan0 T rs).2.2) := by
 simp [gPlan]
structure DomV (most : Int) (g : Topo) (p : Pn) (l : List Tb) : Prop where
 top : TopV most g
 plan : planB p = true
 len : validLen p.len = true
 subd : 0 ≤ p.subd ∧ p.subd ≤ 7
 tab : l = tabs g p g.rs
theorem gPlanS_ids {rs rs' : List Rt} (h : rs.map (·.id) = rs'.map (·.id)) (len x : Int) (T : Tp) (id : Int) (l : List Ed) : gPlanS rs len x T id l = gPlanS rs' len x T id l := by
 have e : ∀ i : Nat, (rs.getD i ⟨0, false⟩).id = (rs'.getD i ⟨0, false⟩).id := fun i => by
  have := congrArg (fun l => l[i]?) h
  simp only [List.getElem?_map] at this
  rw [List.getD_eq_getElem?_getD, List.getD_eq_getElem?_getD]
  cases h1 : rs[i]? with
  | none =>
    rw [h1] at this
    cases h2 : rs'[i]? with
    | none => rfl
    | some y => rw [h2] at this; simp at this
  | some x =>
    rw [h1] at this
    cases h2 : rs'[i]? with
    | none => rw [h2] at this; simp at this
    | some y => rw [h2] at this; simpa using this
 unfold gPlanS
 simp only [e]
theorem gPlanL_ids {rs rs' : List Rt} (h : rs.map (·.id) = rs'.map (·.id)) (len : Int) : ∀ (o : List Int) (T : Tp) (id : Int) (l : List Ed), gPlanL rs len o T id l = gPlanL rs' len o T id l
 | [], _, _, _ => rfl
 | x :: o, T, id, l => by
   rw [gPlanL, gPlanL, gPlanS_ids h, gPlanL_ids h]
theorem gPlan0_ids {rs rs' : List Rt} (h : rs.map (·.id) = rs'.map (·.id)) (T : Tp) : gPlan0 T rs = gPlan0 T rs' := by
 have hl : rs.length = rs'.length := by have := congrArg List.length h; simpa using this
 unfold gPlan0
 simp only [hl, gPlanL_ids h]
theorem plan_valid {most : Int} {g : Topo} (h : TopV most g) (hm : most ≤ 24) (T : Tp) : PlanV (gRts g.rs.length) (gPlan T g.rs 0).1 := by
 rw [gPlan_zero_eq]
 show PlanV _ (gPlan0 T g.rs).1
 rw [gPlan0_ids h.ids]
 exact gPlan0_valid T (by have := h.n; omega)
theorem all11_eq {g : Topo} (hg : chkT g = 0) {p : Pn} (hp : planB p = true) : all11 g p = (tabs g p g.rs, 0) := by
 unfold all11
 rw [if_pos ⟨hg, hp⟩]
theorem gDom_valid (T : Tp) {most : Int} (hm : 1 ≤ most ∧ most ≤ 8) : DomV most (gDom T most).1 (gDom T most).2.1 (gDom T most).2.2.1 ∧ AllCap (gDom T most).1 := by
 have h := gTop_valid T hm
 have hp := plan_valid h (by omega) (gTop T most).2
 refine ⟨⟨h, planB_of hp, hp.len, hp.subd, ?_⟩, fun x hx => ?_⟩
 ·show (all11 _ _).1 = _
  rw [all11_eq h.ok (planB_of hp)]; rfl
 ·have hx : x ∈ gRts (gRange T 1 most).1.toNat := hx
  exact (gRts_mem.1 hx).1
theorem tabs_chk {g : Topo} (hg : chkT g = 0) {p : Pn} (hp : planB p = true) : ∀ b ∈ tabs g p g.rs, chk b = 0 := fun b hb => by
 obtain ⟨x, hx, _, rfl⟩ := tabs_mem hb
 exact buildT_ok hg hp (hasR_mem.2 (List.mem_map_of_mem hx))
structure TabV (p : Pn) (rs : List Int) (l : List Tb) : Prop where
 all : chkA l = 0
 ck : ∀ b ∈ l, chk b = 0
 sd : ∀ b ∈ l, b.sd = p.subd ∧ b.len = p.len
 rs : ∀ r, (findT l r).isSome ↔ r ∈ rs
 n : l.length ≤ 24
theorem gPk0_parts (T : Tp) : ∃ (L m d s t e i p y : Int) (B : BitVec 64) (w : List Int) (T' : Tp), gPk0 T = (⟨m, d, s, L, t, e, i, p, B, strOf w⟩, T') ∧ (1 ≤ m ∧ m ≤ 3) ∧ (0 ≤ t ∧ t ≤ 63) ∧ (0 ≤ e ∧ e ≤ 1023) ∧ (0 ≤ i ∧ i ≤ 256) ∧ (0 ≤ p ∧ p ≤ 7) ∧ (strOf w).size ≤ 6 ∧ TapeOK T' = TapeOK T := by
 unfold gPk0
 dsimp only
 refine ⟨_, _, _, _, _, _, _, _, 0, _, _, _, rfl, ⟨gRange_lo _ _ _, gRange_hi _ (by omega)⟩, gPick_all (p := fun x => 0 ≤ x ∧ x ≤ 63) (by simp) (by simp), ⟨gNext_nonneg _ _, ?_⟩, gPick_all (p := fun x => 0 ≤ x ∧ x ≤ 256) (by simp) (by simp), ⟨gNext_nonneg _ _, ?_⟩, ?_, by simp⟩
 ·have := gNext_lt (gPick (gPick (gRange (gRange (gPick T [8, 8, 16, 32, 64]).2 1 3).2 0 7).2 [0, 0, 1, 2, 31]).2 [0, 1, 2, 5, 63]).2 (n := 1024) (by omega)
  omega
 ·exact Int.le_of_lt_add_one (gNext_lt _ (n := 8) (by omega))
 ·exact gText_size _ (by omega)
set_option maxHeartbeats 4000000
theorem all11O_c (g : Topo) (hg : g.Sm) (hc : chkT g = 0) (p : Pn) (a1 : planB p = true) (hp : p.es.length ≤ 1000) : Contract Tryz.prog 22 [topT g, planT p] [] (.tup [.oref 6 (tabs g p g.rs).length, .d (.int .i64 0)]) [] [(6, .row 37 4 (dd (tbs (tabs g p g.rs))) false)] := by
 have hr := hg.r
 refine contract_of Tryz.func22 rfl (fun E0 => ?_)
 refine awp.sound (g := .mk) (ow := []) (kp := (fun k => k==0||k==1||k==2||k==3||k==4||k==5||k==6||k==7||k==15||k==20||k==28)) ?_
 rw [Tryz.ntmps22]
 simp -dsimp [topT, planT]
 refine ACall.of (check05_c g hg.r hg.l) [] 0 ?_
 simp -dsimp [eq_true hc, topT]
 refine ACall.of (validPlan10_c p hp) [] 0 ?_
 have hn : g.rs.length ≤ 24 := (chkT_zero hc).nr
 simp -dsimp [eq_true hc, a1, planT]
 and_intros
 all_goals try first | rfl | omega | exact ⟨by kernel_rfl⟩
 refine ALoop.of [] (fun k => k==0||k==1||k==2||k==3||k==4||k==5||k==6||k==7||k==15||k==20||k==28) (ι := { i : Nat // i ≤ g.rs.length ∧ True }) (fun z => [(Pl.s 0, It.v (.agg [TV.d (.sl (rts g.rs)), TV.d (.sl (lks g.ls))])), (Pl.s 1, It.v (.agg [TV.d (.int .i64 p.subd), TV.d (.int .i64 p.len), TV.d (.sl (eds p.es))])), (Pl.o 2, It.box [TV.d (.sl (rts g.rs)), TV.d (.sl (lks g.ls))]), (Pl.s 2, It.v (.ptr (Pl.o 2) 0)), (Pl.o 3, It.box [TV.d (.int .i64 p.subd), TV.d (.int .i64 p.len), TV.d (.sl (eds p.es))]), (Pl.s 3, It.v (.ptr (Pl.o 3) 0)), (Pl.s 4, It.v (.c (Value.slice none 0 0))), (Pl.s 5, It.v (.d (.int .i64 0))), (Pl.s 6, It.v (.oref 6 (tabD g p (g.rs.take z.1)).length)), (Pl.o 6, It.row 37 4 (dd (tabD g p (g.rs.take z.1))) false), (Pl.s 7, It.v (.d (.int .i64 z.1)))]) (fun z => g.rs.length - z.1) ⟨0, by omega, trivial⟩ ?_ ?_
 ·exact GS.own' (k := 6) 37 4 (by simp) (by simp) (by simp [tabD, tabs])
 rintro ⟨i, i1, i2⟩
 by_cases hi : i < g.rs.length
 ·have hiz : (i : Int) < g.rs.length := by omega
  have hx : g.rs[i]? = some g.rs[i] := List.getElem?_eq_getElem hi
  have ht : g.rs.take (i + 1) = g.rs.take i ++ [g.rs[i]] := by rw [List.take_add_one, List.getElem?_eq_getElem hi]; rfl
  generalize g.rs[i] = x at hx ht
  have hx' := rts_get hx
  have hta := tabD_app g p (g.rs.take i) x
  have htl := tabD_len g p (g.rs.take i)
  rw [← ht] at hta
  simp at htl
  rcases (Bool.eq_false_or_eq_true x.cap).symm with c1 | c1
  ·rw [if_neg (by simp [c1])] at hta
   simp -dsimp [hiz, hx', Rt.cs, c1, wrap_i64 (n := (i : Int) + 1) (by omega) (by omega)]
   and_intros
   all_goals try first | rfl | omega | exact ⟨by kernel_rfl⟩
   exact ⟨⟨i + 1, by omega, trivial⟩, GS.to (by simp [hta]), by simp; omega⟩
  ·rw [if_pos c1] at hta
   simp -dsimp [hiz, hx', Rt.cs, c1]
   refine ACall.of (build11_c g hg p (by omega) x.id) [] 0 ?_
   simp -dsimp [hiz, hx', Rt.cs, c1, topT, planT, tblT, rwsD, wrap_i64 (n := (i : Int) + 1) (by omega) (by omega)]
   and_intros
   all_goals try first | rfl | omega | exact ⟨by kernel_rfl⟩
   exact ⟨⟨i + 1, by omega, trivial⟩, GS.to (by simp [hta, Tb.cs, rwsD]), by simp; omega⟩
 ·have hiz : ¬ (i : Int) < g.rs.length := by omega
  obtain rfl : i = g.rs.length := by omega
  simp -dsimp [hiz]
  refine Fin.of ?_
  simp [tabD, tbs]
theorem domainO_c (T : Tp) (hT : TapeOK T) (most : Int) (hm : 1 ≤ most ∧ most ≤ 8) : Contract Tryz.prog 38 [.ptr (.x 0) 0, .d (.int .i64 most)] [tapeI T] (.tup [topT (gDom T most).1, planT (gDom T most).2.1, .oref 6 (gDom T most).2.2.1.length]) [tapeI (gDom T most).2.2.2] [(6, .row 37 4 (dd (tbs (gDom T most).2.2.1)) false)] := by
 refine contract_of Tryz.func38 rfl (fun E0 => ?_)
 refine awp.sound (g := .mk) (ow := []) (kp := (fun k => k==0||k==1||k==4||k==5||k==6||k==7||k==8||k==9)) ?_
 rw [Tryz.ntmps38]
 simp -dsimp
 refine ACall.of (topo_c T hT most ⟨hm.1, by omega⟩) [.x 0] 0 ?_
 have kG : TapeOK (gTop T most).2 := by simpa using hT
 have hsm := gTop_small T (most := most) ⟨hm.1, by omega⟩
 have hD := (gDom_valid T hm).1
 have hok := hD.top.ok
 have hpl := hD.plan
 have htab := hD.tab
 rw [htab]
 clear hD htab
 unfold gDom at hok hpl ⊢
 simp only at hok hpl ⊢
 generalize gTop T most = G at kG hsm hok hpl ⊢
 simp -dsimp [topT]
 refine ACall.of (plan_c G.2 kG G.1.rs G.1.ls (by omega) 0 (by omega)) [.x 0] 0 ?_
 obtain ⟨kP, lP⟩ := gPlan_zero G.2 G.1.rs
 have kG : TapeOK (gPlan G.2 G.1.rs 0).2 := kP.symm ▸ kG
 clear kP
 generalize gPlan G.2 G.1.rs 0 = p at kG lP hpl ⊢
 simp -dsimp [topT, planT]
 refine ACall.of (all11O_c G.1 ⟨by omega, by omega⟩ hok p.1 hpl (by omega)) [] 0 ?_
 generalize tabs G.1 p.1 G.1.rs = l
 simp -dsimp [topT, planT]
 and_intros
 all_goals try first | rfl | omega | exact ⟨by kernel_rfl⟩
 refine Fin.of ?_
 simp [topT, planT]
def forL (len set : Int) : List Ed → Tp → BitVec 64 → BitVec 64 × Tp
 | [], T, B => (B, T)
 | e :: es, T, B => if plSet e.id len = set then (if 0 < (gNext T 4).1 then forL len set es (gNext T 4).2 (B ||| bitB (plBit e.id len)) else forL len set es (gNext T 4).2 B) else forL len set es T B
def forS (T : Tp) (p : Pn) : Int × Tp := if p.es = [] then (0, T) else (plSet (p.es.getD (gNext T p.es.length).1.toNat ⟨0, 0⟩).id p.len, (gNext T p.es.length).2)
def Pk.for (q : Pk) (subd len set : Int) (B : BitVec 64) : Pk := ⟨1, subd, set, len, q.ttl, q.ent, q.ing, q.proto, B, q.pay⟩
def gFor (T : Tp) (p : Pn) : Pk × Tp :=
 let q := gPacket T 0
 let s := forS q.2 p
 let b := forL p.len s.1 p.es s.2 0#64
 let o := gOne b.2 6
 if o.1 = true then (q.1.for p.subd p.len s.1 (b.1 ||| (gBits o.2 p.len).1), (gBits o.2 p.len).2) else (q.1.for p.subd p.len s.1 b.1, o.2)
theorem forL_ok (len set : Int) : ∀ (es : List Ed) (T : Tp) (B : BitVec 64), TapeOK (forL len set es T B).2 = TapeOK T
 | [], _, _ => rfl
 | e :: es, T, B => by
   rw [forL]
   split
   ·split
    ·rw [forL_ok]; simp
    ·rw [forL_ok]; simp
   ·exact forL_ok len set es T B
theorem forS_ok (T : Tp) (p : Pn) : TapeOK (forS T p).2 = TapeOK T := by
 unfold forS
 split
 ·rfl
 ·simp
theorem gFor_ok (T : Tp) (p : Pn) : TapeOK (gFor T p).2 = TapeOK T := by
 unfold gFor
 simp only
 split <;> simp [forL_ok, forS_ok]
theorem for_c (T : Tp) (hT : TapeOK T) (p : Pn) (hp : p.es.length ≤ 1000) (l0 : p.len ≠ 0) (hl : I64 p.len) : Contract Tryz.prog 54 [.ptr (.x 0) 0, planT p] [tapeI T] (pkT (gFor T p).1) [tapeI (gFor T p).2] [] := by
 refine contract_of Tryz.func54 rfl (fun E0 => ?_)
 refine awp.sound (g := .mk) (ow := []) (kp := (fun k => k==0||k==1||k==3||k==4||k==5||k==6||k==7||k==8||k==23||k==28||k==51||k==75||k==83)) ?_
 rw [Tryz.ntmps54]
 simp -dsimp [planT]
 try refine ⟨?_, ⟨by kernel_rfl⟩⟩
 refine ACall.of (packet_c T hT 0 ⟨by omega, by omega⟩) [.x 0] 0 ?_
 have kQ : TapeOK (gPacket T 0).2 := by simpa using hT
 unfold gFor
 simp only
 generalize gPacket T 0 = q at kQ ⊢
 obtain ⟨q, T1⟩ := q
 simp only at kQ ⊢
 simp only [pkT, Pk.cs, List.map]
 by_cases e0 : p.es = []
 ·have eS : forS T1 p = (0, T1) := by rw [forS, if_pos e0]
  rw [eS]
  simp -dsimp [l0, e0]
  try refine ⟨?_, ⟨by kernel_rfl⟩⟩
  refine ALoop.of [] (fun k => k==0||k==1||k==3||k==4||k==5||k==6||k==7||k==8||k==23||k==28||k==51||k==75||k==83) (ι := { z : Nat × Tp × BitVec 64 // z.1 ≤ p.es.length ∧ TapeOK z.2.1 ∧ forL p.len 0 p.es T1 0#64 = forL p.len 0 (p.es.drop z.1) z.2.1 z.2.2 })
   (fun z => [(Pl.s 0, It.v (.ptr (Pl.x 0) 0)), (Pl.x 0, tapeI z.1.2.1), (Pl.o 3, It.box [TV.d (.int .i64 p.subd), TV.d (.int .i64 p.len), TV.d (.sl (eds p.es))]), (Pl.s 3, It.v (.ptr (Pl.o 3) 0)),
    (Pl.o 4, It.box [TV.d (.int .i64 0), TV.d (.int .i64 0), TV.d (.int .i64 0), TV.d (.int .i64 0), TV.d (.int .i64 0), TV.d (.int .i64 0), TV.d (.int .i64 0), TV.d (.int .i64 0), TV.d (.int IntKind.u64 0), TV.d (.str ⟨#[]⟩)]),
    (Pl.s 4, It.v (.ptr (Pl.o 4) 0)),
    (Pl.o 5, It.box [TV.d (.int .i64 1), TV.d (.int .i64 p.subd), TV.d (.int .i64 0), TV.d (.int .i64 p.len), TV.d (.int .i64 q.ttl), TV.d (.int .i64 q.ent), TV.d (.int .i64 q.ing), TV.d (.int .i64 q.proto), TV.d (.int IntKind.u64 (tn z.1.2.2)), TV.d (.str q.pay)]),
    (Pl.s 5, It.v (.ptr (Pl.o 5) 0)), (Pl.s 6, It.v (.d (.int .i64 z.1.1)))])
   (fun z => p.es.length - z.1.1) ⟨(0, T1, 0#64), by simp, kQ, rfl⟩ ?_ ?_
  ·exact GS.to (by simp [e0])
  generalize forL p.len 0 p.es T1 0#64 = X
  rintro ⟨⟨i, T3, B⟩, i1, i2, i3⟩
  simp only at i1 i2 i3
  by_cases hi : i < p.es.length
  ·have hiz : (i : Int) < p.es.length := by omega
   have hg : p.es[i]? = some p.es[i] := List.getElem?_eq_getElem hi
   have hd : p.es.drop i = p.es[i] :: p.es.drop (i + 1) := List.drop_eq_getElem_cons hi
   generalize p.es[i] = y at hg hd
   have hg' := eds_get hg
   rw [hd, forL] at i3
   have pb := plB y.id p.len
   have hbc := bit_c (plBit y.id p.len)
   simp -dsimp [hiz, hg', Ed.cs]
   try refine ⟨?_, ⟨by kernel_rfl⟩⟩
   and_intros
   all_goals try first | rfl | omega | exact ⟨by kernel_rfl⟩
   refine ACall.of (place10_c y.id p.len) [] 0 ?_
   simp only [placeT]
   generalize plSet y.id p.len = sy at i3 pb
   generalize plBit y.id p.len = by_ at i3 pb hbc
   by_cases c0 : sy = 0
   ·rw [if_pos c0] at i3
    simp -dsimp [hiz, hg', Ed.cs, placeT, eq_true c0]
    try refine ⟨?_, ⟨by kernel_rfl⟩⟩
    refine ACall.of (next_c T3 i2 4 ⟨by omega, by omega⟩) [.x 0] 0 ?_
    have n1 := gNext_nonneg T3 4
    have kS : TapeOK (gNext T3 4).2 := by simpa using i2
    generalize gNext T3 4 = m4 at n1 kS i3 ⊢
    obtain ⟨m4, T4⟩ := m4
    simp only at n1 kS i3 ⊢
    by_cases c1 : 0 < m4
    ·rw [if_pos c1] at i3
     simp -dsimp [c1]
     try refine ⟨?_, ⟨by kernel_rfl⟩⟩
     refine ACall.of hbc [] 0 ?_
     simp -dsimp [bv, wrap_i64 (n := (i : Int) + 1) (by omega) (by omega)]
     try refine ⟨?_, ⟨by kernel_rfl⟩⟩
     and_intros
     all_goals try first | rfl | omega | exact ⟨by kernel_rfl⟩
     exact ⟨⟨(i + 1, T4, B ||| bitB by_), by dsimp only; omega, kS, i3⟩, GS.to (by simp), by simp; omega⟩
    ·rw [if_neg c1] at i3
     simp -dsimp [c1, wrap_i64 (n := (i : Int) + 1) (by omega) (by omega)]
     try refine ⟨?_, ⟨by kernel_rfl⟩⟩
     and_intros
     all_goals try first | rfl | omega | exact ⟨by kernel_rfl⟩
     exact ⟨⟨(i + 1, T4, B), by dsimp only; omega, kS, i3⟩, GS.to (by simp), by simp; omega⟩
   ·rw [if_neg c0] at i3
    simp -dsimp [hiz, hg', Ed.cs, placeT, eq_false c0, wrap_i64 (n := (i : Int) + 1) (by omega) (by omega)]
    try refine ⟨?_, ⟨by kernel_rfl⟩⟩
    and_intros
    all_goals try first | rfl | omega | exact ⟨by kernel_rfl⟩
    exact ⟨⟨(i + 1, T3, B), by dsimp only; omega, i2, i3⟩, GS.to (by simp), by simp; omega⟩
  ·have hiz : ¬ (i : Int) < p.es.length := by omega
   have e1 : p.es.drop i = [] := List.drop_eq_nil_of_le (by omega)
   rw [e1, forL] at i3
   subst i3
   simp -dsimp [hiz]
   try refine ⟨?_, ⟨by kernel_rfl⟩⟩
   refine ACall.of (one_c T3 i2 6 ⟨by omega, by omega⟩ ⟨by omega, by omega⟩) [.x 0] 0 ?_
   have kO : TapeOK (gOne T3 6).2 := by simpa using i2
   generalize gOne T3 6 = o at kO ⊢
   obtain ⟨o, T5⟩ := o
   simp only at kO ⊢
   rcases (Bool.eq_false_or_eq_true o).symm with ho | ho
   ·subst ho
    simp -dsimp
    try refine ⟨?_, ⟨by kernel_rfl⟩⟩
    refine Fin.box (.o 4) rfl ?_
    simp -dsimp
    try refine ⟨?_, ⟨by kernel_rfl⟩⟩
    refine Fin.of ?_
    simp [Pk.for, bv]
   ·subst ho
    simp -dsimp
    try refine ⟨?_, ⟨by kernel_rfl⟩⟩
    refine ACall.of (bits_c T5 kO p.len hl) [.x 0] 0 ?_
    generalize gBits T5 p.len = gb
    simp -dsimp [bv]
    try refine ⟨?_, ⟨by kernel_rfl⟩⟩
    refine Fin.box (.o 4) rfl ?_
    simp -dsimp
    try refine ⟨?_, ⟨by kernel_rfl⟩⟩
    refine Fin.of ?_
    simp [Pk.for, bv]
 ·have eS : forS T1 p = (plSet (p.es.getD (gNext T1 p.es.length).1.toNat ⟨0, 0⟩).id p.len, (gNext T1 p.es.length).2) := by rw [forS, if_neg e0]
  have hlen : 0 < p.es.length := List.length_pos_iff.2 e0
  rw [eS]
  simp -dsimp [l0, e0, hlen]
  try refine ⟨?_, ⟨by kernel_rfl⟩⟩
  and_intros
  all_goals try first | rfl | omega | exact ⟨by kernel_rfl⟩
  refine ACall.of (next_c T1 kQ p.es.length ⟨by omega, by omega⟩) [.x 0] 0 ?_
  have m1 := gNext_nonneg T1 p.es.length
  have m2 := gNext_lt T1 (n := p.es.length) (by omega)
  have kN : TapeOK (gNext T1 p.es.length).2 := by simpa using kQ
  clear eS
  generalize gNext T1 p.es.length = m at m1 m2 kN ⊢
  obtain ⟨m, T2⟩ := m
  simp only at m1 m2 kN ⊢
  obtain ⟨j, rfl⟩ : ∃ j : Nat, m = j := ⟨m.toNat, by omega⟩
  have hj : j < p.es.length := by omega
  have hx : p.es[j]? = some p.es[j] := List.getElem?_eq_getElem hj
  have hgd : p.es.getD ((j : Int)).toNat ⟨0, 0⟩ = p.es[j] := by rw [List.getD_eq_getElem?_getD, show ((j : Int)).toNat = j by omega, hx]; rfl
  rw [hgd]
  generalize p.es[j] = x at hx
  have hx' := eds_get hx
  simp -dsimp [l0, e0, hlen, hx', Ed.cs]
  try refine ⟨?_, ⟨by kernel_rfl⟩⟩
  and_intros
  all_goals try first | rfl | omega | exact ⟨by kernel_rfl⟩
  refine ACall.of (place10_c x.id p.len) [] 0 ?_
  simp only [placeT]
  generalize plSet x.id p.len = S
  simp -dsimp [l0, e0, placeT]
  try refine ⟨?_, ⟨by kernel_rfl⟩⟩
  refine ALoop.of [] (fun k => k==0||k==1||k==3||k==4||k==5||k==6||k==7||k==8||k==23||k==28||k==51||k==75||k==83) (ι := { z : Nat × Tp × BitVec 64 // z.1 ≤ p.es.length ∧ TapeOK z.2.1 ∧ forL p.len S p.es T2 0#64 = forL p.len S (p.es.drop z.1) z.2.1 z.2.2 })
   (fun z => [(Pl.s 0, It.v (.ptr (Pl.x 0) 0)), (Pl.x 0, tapeI z.1.2.1), (Pl.o 3, It.box [TV.d (.int .i64 p.subd), TV.d (.int .i64 p.len), TV.d (.sl (eds p.es))]), (Pl.s 3, It.v (.ptr (Pl.o 3) 0)),
    (Pl.o 4, It.box [TV.d (.int .i64 0), TV.d (.int .i64 0), TV.d (.int .i64 0), TV.d (.int .i64 0), TV.d (.int .i64 0), TV.d (.int .i64 0), TV.d (.int .i64 0), TV.d (.int .i64 0), TV.d (.int IntKind.u64 0), TV.d (.str ⟨#[]⟩)]),
    (Pl.s 4, It.v (.ptr (Pl.o 4) 0)),
    (Pl.o 5, It.box [TV.d (.int .i64 1), TV.d (.int .i64 p.subd), TV.d (.int .i64 S), TV.d (.int .i64 p.len), TV.d (.int .i64 q.ttl), TV.d (.int .i64 q.ent), TV.d (.int .i64 q.ing), TV.d (.int .i64 q.proto), TV.d (.int IntKind.u64 (tn z.1.2.2)), TV.d (.str q.pay)]),
    (Pl.s 5, It.v (.ptr (Pl.o 5) 0)), (Pl.s 6, It.v (.d (.int .i64 z.1.1)))])
   (fun z => p.es.length - z.1.1) ⟨(0, T2, 0#64), by simp, kN, rfl⟩ ?_ ?_
  ·exact GS.to (by simp [e0])
  generalize forL p.len S p.es T2 0#64 = X
  rintro ⟨⟨i, T3, B⟩, i1, i2, i3⟩
  simp only at i1 i2 i3
  by_cases hi : i < p.es.length
  ·have hiz : (i : Int) < p.es.length := by omega
   have hg : p.es[i]? = some p.es[i] := List.getElem?_eq_getElem hi
   have hd : p.es.drop i = p.es[i] :: p.es.drop (i + 1) := List.drop_eq_getElem_cons hi
   generalize p.es[i] = y at hg hd
   have hg' := eds_get hg
   rw [hd, forL] at i3
   have pb := plB y.id p.len
   have hbc := bit_c (plBit y.id p.len)
   simp -dsimp [hiz, hg', Ed.cs]
   try refine ⟨?_, ⟨by kernel_rfl⟩⟩
   and_intros
   all_goals try first | rfl | omega | exact ⟨by kernel_rfl⟩
   refine ACall.of (place10_c y.id p.len) [] 0 ?_
   simp only [placeT]
   generalize plSet y.id p.len = sy at i3 pb
   generalize plBit y.id p.len = by_ at i3 pb hbc
   by_cases c0 : sy = S
   ·rw [if_pos c0] at i3
    simp -dsimp [hiz, hg', Ed.cs, placeT, eq_true c0]
    try refine ⟨?_, ⟨by kernel_rfl⟩⟩
    refine ACall.of (next_c T3 i2 4 ⟨by omega, by omega⟩) [.x 0] 0 ?_
    have n1 := gNext_nonneg T3 4
    have kS : TapeOK (gNext T3 4).2 := by simpa using i2
    generalize gNext T3 4 = m4 at n1 kS i3 ⊢
    obtain ⟨m4, T4⟩ := m4
    simp only at n1 kS i3 ⊢
    by_cases c1 : 0 < m4
    ·rw [if_pos c1] at i3
     simp -dsimp [c1]
     try refine ⟨?_, ⟨by kernel_rfl⟩⟩
     refine ACall.of hbc [] 0 ?_
     simp -dsimp [bv, wrap_i64 (n := (i : Int) + 1) (by omega) (by omega)]
     try refine ⟨?_, ⟨by kernel_rfl⟩⟩
     and_intros
     all_goals try first | rfl | omega | exact ⟨by kernel_rfl⟩
     exact ⟨⟨(i + 1, T4, B ||| bitB by_), by dsimp only; omega, kS, i3⟩, GS.to (by simp), by simp; omega⟩
    ·rw [if_neg c1] at i3
     simp -dsimp [c1, wrap_i64 (n := (i : Int) + 1) (by omega) (by omega)]
     try refine ⟨?_, ⟨by kernel_rfl⟩⟩
     and_intros
     all_goals try first | rfl | omega | exact ⟨by kernel_rfl⟩
     exact ⟨⟨(i + 1, T4, B), by dsimp only; omega, kS, i3⟩, GS.to (by simp), by simp; omega⟩
   ·rw [if_neg c0] at i3
    simp -dsimp [hiz, hg', Ed.cs, placeT, eq_false c0, wrap_i64 (n := (i : Int) + 1) (by omega) (by omega)]
    try refine ⟨?_, ⟨by kernel_rfl⟩⟩
    and_intros
    all_goals try first | rfl | omega | exact ⟨by kernel_rfl⟩
    exact ⟨⟨(i + 1, T3, B), by dsimp only; omega, i2, i3⟩, GS.to (by simp), by simp; omega⟩
  ·have hiz : ¬ (i : Int) < p.es.length := by omega
   have e1 : p.es.drop i = [] := List.drop_eq_nil_of_le (by omega)
   rw [e1, forL] at i3
   subst i3
   simp -dsimp [hiz]
   try refine ⟨?_, ⟨by kernel_rfl⟩⟩
   refine ACall.of (one_c T3 i2 6 ⟨by omega, by omega⟩ ⟨by omega, by omega⟩) [.x 0] 0 ?_
   have kO : TapeOK (gOne T3 6).2 := by simpa using i2
   generalize gOne T3 6 = o at kO ⊢
   obtain ⟨o, T5⟩ := o
   simp only at kO ⊢
   rcases (Bool.eq_false_or_eq_true o).symm with ho | ho
   ·subst ho
    simp -dsimp
    try refine ⟨?_, ⟨by kernel_rfl⟩⟩
    refine Fin.box (.o 4) rfl ?_
    simp -dsimp
    try refine ⟨?_, ⟨by kernel_rfl⟩⟩
    refine Fin.of ?_
    simp [Pk.for, bv]
   ·subst ho
    simp -dsimp
    try refine ⟨?_, ⟨by kernel_rfl⟩⟩
    refine ACall.of (bits_c T5 kO p.len hl) [.x 0] 0 ?_
    generalize gBits T5 p.len = gb
    simp -dsimp [bv]
    try refine ⟨?_, ⟨by kernel_rfl⟩⟩
    refine Fin.box (.o 4) rfl ?_
    simp -dsimp
    try refine ⟨?_, ⟨by kernel_rfl⟩⟩
    refine Fin.of ?_
    simp [Pk.for, bv]
def fitsR (l : List Tb) (p : Pk) (r : Int) : Int := (runR l p r).2
theorem fits14_c (l : List Tb) (hl : SmL l) (p : Pk) (r : Int) : Contract Tryz.prog 108 [.d (.sl (tbs l)), pkT p, .d (.int .i64 r)] [] (.d (.int .i64 (fitsR l p r))) [] [] := by
 have hck := checkA11_c l hl
 have hv := valid_c p
 have hf := find11_c l hl r
 simp only [pkT, Pk.cs, List.map] at hv
 refine contract_of Tryz.func108 rfl (fun E0 => ?_)
 refine awp.sound (g := .mk) (ow := []) (kp := (fun k => k==0||k==1||k==2||k==4||k==6||k==7||k==8||k==16||k==24||k==27||k==39)) ?_
 rw [Tryz.ntmps108]
 simp -dsimp [pkT, Pk.cs]
 try refine ⟨?_, ⟨by kernel_rfl⟩⟩
 refine ACall.of hck [] 0 ?_
 by_cases h1 : chkA l = 0
 rotate_left
 ·simp -dsimp [h1]
  try refine ⟨?_, ⟨by kernel_rfl⟩⟩
  refine Fin.of ?_
  simp [fitsR, runR, h1]
 rcases (Bool.eq_false_or_eq_true p.ok).symm with h2 | h2
 ·simp -dsimp [h1]
  try refine ⟨?_, ⟨by kernel_rfl⟩⟩
  refine ACall.of hv [] 0 ?_
  simp -dsimp [h2]
  try refine ⟨?_, ⟨by kernel_rfl⟩⟩
  refine Fin.of ?_
  simp [fitsR, runR, h1, h2]
 simp -dsimp [h1]
 try refine ⟨?_, ⟨by kernel_rfl⟩⟩
 refine ACall.of hv [] 0 ?_
 cases hfd : findT l r with
 | none =>
   rw [hfd] at hf
   simp only [foundT, Option.getD_none, Option.isSome_none, tb0, tblT] at hf
   simp -dsimp [h2]
   try refine ⟨?_, ⟨by kernel_rfl⟩⟩
   refine ACall.of hf [] 0 ?_
   simp -dsimp
   try refine ⟨?_, ⟨by kernel_rfl⟩⟩
   refine Fin.of ?_
   simp [fitsR, runR, h1, h2, hfd]
 | some b =>
   rw [hfd] at hf
   simp only [foundT, Option.getD_some, Option.isSome_some, tblT] at hf
   simp -dsimp [h2]
   try refine ⟨?_, ⟨by kernel_rfl⟩⟩
   refine ACall.of hf [] 0 ?_
   by_cases h3 : p.mode = 2
   ·simp -dsimp [eq_true h3]
    try refine ⟨?_, ⟨by kernel_rfl⟩⟩
    refine Fin.of ?_
    simp [fitsR, runR, h1, h2, hfd, h3]
   by_cases h4 : p.subd = b.sd
   rotate_left
   ·simp -dsimp [h3, h4]
    try refine ⟨?_, ⟨by kernel_rfl⟩⟩
    refine Fin.of ?_
    simp [fitsR, runR, h1, h2, hfd, h3, h4]
   by_cases h5 : p.len = b.len
   rotate_left
   ·simp -dsimp [h3, eq_true h4, h5]
    try refine ⟨?_, ⟨by kernel_rfl⟩⟩
    refine Fin.of ?_
    simp [fitsR, runR, h1, h2, hfd, h3, h4, h5]
   simp -dsimp [h3, eq_true h4, eq_true h5]
   try refine ⟨?_, ⟨by kernel_rfl⟩⟩
   refine Fin.of ?_
   simp [fitsR, runR, h1, h2, hfd, h3, h4, h5]
def rowT3 (t : Trc) : List (Nat × It) := [(900, .row 138 11 (dd (t.dl.map dlC)) false), (901, .row 158 3 (dd (t.cr.map crC)) false), (902, .row 140 2 (dd (t.ls.map lsC)) false)]
def noteR (t : Trc) (r : Int) (p : Pk) (o : Out) : Trc := ⟨t.dl ++ locV r o p, t.cr ++ o.cps.map (fun c => (r, c.1, c.2.bits)), if o.lost = 0#64 then t.ls else t.ls ++ [(r, o.lost)]⟩
theorem note14_c (t : Trc) (h1 : t.dl.length ≤ 1000000) (h2 : t.cr.length ≤ 1000000) (h3 : t.ls.length ≤ 1000000) (r : Int) (p : Pk) (o : Out) (ho : o.cps.length ≤ 64) :
  Contract2 Tryz.prog 110 [.agg [.oref 900 t.dl.length, .oref 901 t.cr.length, .oref 902 t.ls.length], .d (.int .i64 r), pkT p, outT o] [] (rowT3 t) (.agg [.oref 900 (noteR t r p o).dl.length, .oref 901 (noteR t r p o).cr.length, .oref 902 (noteR t r p o).ls.length]) [] (rowT3 (noteR t r p o)) := by
 have hlc := local13_c r o p
 simp only [outT, pkT, Pk.cs, List.map] at hlc
 refine contract2_of Tryz.func110 rfl (fun E0 => ?_)
 refine awp.sound (g := .mk) (ow := []) (kp := (fun k => k==0||k==1||k==2||k==3||k==4||k==6||k==7||k==8||k==9||k==20||k==34)) ?_
 rw [Tryz.ntmps110]
 simp -dsimp [pkT, Pk.cs, outT, rowT3]
 try refine ⟨?_, ⟨by kernel_rfl⟩⟩
 refine ACall.of hlc [] 0 ?_
 have hll : (locV r o p).length ≤ 64 := by unfold locV; rw [List.length_map]; exact bitsI_len _
 have hn0 : noteR t r p o = ⟨t.dl ++ locV r o p, t.cr ++ o.cps.map (fun c => (r, c.1, c.2.bits)), if o.lost = 0#64 then t.ls else t.ls ++ [(r, o.lost)]⟩ := rfl
 rw [hn0]
 clear hn0
 generalize locV r o p = LV at hll ⊢
 have hdl : dLen 11 (LV.map dlC) := dLen_map 11 _ _ fun _ => rfl
 obtain ⟨oloc, olost, ocps⟩ := o
 simp only at ho ⊢
 have hCl : (ocps.map fun c => (r, c.1, c.2.bits)).length = ocps.length := by simp
 have hCg : ∀ (j : Nat) (c : Int × Pk), ocps[j]? = some c → (ocps.map fun c => (r, c.1, c.2.bits))[j]? = some (r, c.1, c.2.bits) := fun j c h => by simp [h]
 generalize (ocps.map fun c => (r, c.1, c.2.bits)) = CRL at hCl hCg ⊢
 by_cases c0 : olost = 0#64
 ·simp -dsimp [c0, bv]
  and_intros
  all_goals try first | omega | exact hdl | exact rfl | exact ⟨by kernel_rfl⟩
  refine ALoop.of [] (fun k => k==0||k==1||k==2||k==3||k==4||k==6||k==7||k==8||k==9||k==20||k==34) (ι := { j : Nat // j ≤ ocps.length })
   (fun j => [(Pl.s 1, It.v (.d (.int .i64 r))),
    (Pl.o 900, It.row 138 11 (dd (t.dl.map dlC) ++ dd (LV.map dlC)) false), (Pl.o 901, It.row 158 3 (dd (t.cr.map crC) ++ dd (List.take j.1 (CRL.map crC))) false), (Pl.o 902, It.row 140 2 (dd (t.ls.map lsC)) false),
    (Pl.o 4, It.box [TV.oref 900 (t.dl.length + LV.length), TV.oref 901 (t.cr.length + j.1), TV.oref 902 (t.ls.length)]), (Pl.s 4, It.v (.ptr (Pl.o 4) 0)),
    (Pl.o 7, It.box [TV.d (.int IntKind.u64 (tn oloc)), TV.d (.int IntKind.u64 (tn olost)), TV.d (.sl (List.map cpC ocps))]), (Pl.s 7, It.v (.ptr (Pl.o 7) 0)),
    (Pl.o 8, It.box [TV.c (Value.slice none 0 0), TV.c (Value.slice none 0 0), TV.c (Value.slice none 0 0)]), (Pl.s 8, It.v (.ptr (Pl.o 8) 0)), (Pl.s 9, It.v (.d (.int .i64 j.1)))])
   (fun j => ocps.length - j.1) ⟨0, by omega⟩ ?_ ?_
  ·exact GS.to (by simp [c0])
  ·rintro ⟨j, j1⟩
   by_cases hj : j < ocps.length
   ·have hjz : (j : Int) < ocps.length := by omega
    have hg : ocps[j]? = some ocps[j] := List.getElem?_eq_getElem hj
    have hcg := hCg j _ hg
    generalize ocps[j] = c at hg hcg
    obtain ⟨c1, c2⟩ := c
    have hn1 : dd (List.take (j + 1) (CRL.map crC)) = dd (List.take j (CRL.map crC)) ++ [[TV.d (.int .i64 r), TV.d (.int .i64 c1), TV.d (bv c2.bits)]] := by
     rw [List.take_add_one, List.getElem?_map, hcg]; simp [dd, crC]
    have hm1 : min j CRL.length = j := by omega
    simp -dsimp [hg, hjz, cpC, Pk.cs, bv, hm1, wrap_i64 (n := (j : Int) + 1) (by omega) (by omega)]
    and_intros
    all_goals try first | omega | exact ⟨by kernel_rfl⟩
    exact ⟨⟨j + 1, by omega⟩, GS.to (by simp [hn1, bv, Nat.add_assoc]), by simp; omega⟩
   ·have hjz : ¬ (j : Int) < ocps.length := by omega
    obtain rfl : j = ocps.length := by omega
    have ht1 : List.take ocps.length (CRL.map crC) = CRL.map crC := List.take_of_length_le (by simp; omega)
    simp -dsimp [hjz]
    try refine ⟨?_, ⟨by kernel_rfl⟩⟩
    refine Fin.of ?_
    simp [ht1, c0, hCl, lsC, bv, rowT3]
 ·simp -dsimp [c0, bv]
  and_intros
  all_goals try first | omega | exact hdl | exact rfl | exact ⟨by kernel_rfl⟩
  refine ALoop.of [] (fun k => k==0||k==1||k==2||k==3||k==4||k==6||k==7||k==8||k==9||k==20||k==34) (ι := { j : Nat // j ≤ ocps.length })
   (fun j => [(Pl.s 1, It.v (.d (.int .i64 r))),
    (Pl.o 900, It.row 138 11 (dd (t.dl.map dlC) ++ dd (LV.map dlC)) false), (Pl.o 901, It.row 158 3 (dd (t.cr.map crC) ++ dd (List.take j.1 (CRL.map crC))) false), (Pl.o 902, It.row 140 2 (dd (t.ls.map lsC) ++ [[TV.d (.int .i64 r), TV.d (.int .u64 (tn olost))]]) false),
    (Pl.o 4, It.box [TV.oref 900 (t.dl.length + LV.length), TV.oref 901 (t.cr.length + j.1), TV.oref 902 (t.ls.length + 1)]), (Pl.s 4, It.v (.ptr (Pl.o 4) 0)),
    (Pl.o 7, It.box [TV.d (.int IntKind.u64 (tn oloc)), TV.d (.int IntKind.u64 (tn olost)), TV.d (.sl (List.map cpC ocps))]), (Pl.s 7, It.v (.ptr (Pl.o 7) 0)),
    (Pl.o 8, It.box [TV.c (Value.slice none 0 0), TV.c (Value.slice none 0 0), TV.c (Value.slice none 0 0)]), (Pl.s 8, It.v (.ptr (Pl.o 8) 0)), (Pl.s 9, It.v (.d (.int .i64 j.1)))])
   (fun j => ocps.length - j.1) ⟨0, by omega⟩ ?_ ?_
  ·exact GS.to (by simp [c0])
  ·rintro ⟨j, j1⟩
   by_cases hj : j < ocps.length
   ·have hjz : (j : Int) < ocps.length := by omega
    have hg : ocps[j]? = some ocps[j] := List.getElem?_eq_getElem hj
    have hcg := hCg j _ hg
    generalize ocps[j] = c at hg hcg
    obtain ⟨c1, c2⟩ := c
    have hn1 : dd (List.take (j + 1) (CRL.map crC)) = dd (List.take j (CRL.map crC)) ++ [[TV.d (.int .i64 r), TV.d (.int .i64 c1), TV.d (bv c2.bits)]] := by
     rw [List.take_add_one, List.getElem?_map, hcg]; simp [dd, crC]
    have hm1 : min j CRL.length = j := by omega
    simp -dsimp [hg, hjz, cpC, Pk.cs, bv, hm1, wrap_i64 (n := (j : Int) + 1) (by omega) (by omega)]
    and_intros
    all_goals try first | omega | exact ⟨by kernel_rfl⟩
    exact ⟨⟨j + 1, by omega⟩, GS.to (by simp [hn1, bv, Nat.add_assoc]), by simp; omega⟩
   ·have hjz : ¬ (j : Int) < ocps.length := by omega
    obtain rfl : j = ocps.length := by omega
    have ht1 : List.take ocps.length (CRL.map crC) = CRL.map crC := List.take_of_length_le (by simp; omega)
    simp -dsimp [hjz]
    try refine ⟨?_, ⟨by kernel_rfl⟩⟩
    refine Fin.of ?_
    simp [ht1, c0, hCl, lsC, bv, rowT3]
end Go.Proofs

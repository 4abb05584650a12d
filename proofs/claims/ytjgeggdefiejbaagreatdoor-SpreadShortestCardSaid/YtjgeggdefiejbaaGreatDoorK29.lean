/-
  What functions of the program compute, stated as contracts over plain data; the conditions of each stand in its own statement.
-/
import Derived.Test.YtjgeggdefiejbaaGreatDoorK28
import Derived.Test.YtjgeggdefiejbaaGreatDoorK26
import Derived.Test.YtjgeggdefiejbaaGreatDoorK14
import Derived.Test.YtjgeggdefiejbaaGreatDoorK15
import Derived.Test.YtjgeggdefiejbaaGreatDoorK07
set_option linter.unusedSimpArgs false
set_option linter.unusedVariables false
namespace Go.Proofs
structure RunI (l : List Tb) (Q : List (Int × Pk)) (t : Trc) : Prop where
 fit : ∀ q ∈ Q, FitL l q.2 ∧ (findT l q.1 = none → q.2.bits ≠ 0#64)
 dl : ∀ d ∈ t.dl, ∃ k < 64, d.2.bits = 1#64 <<< k
 ls : ∀ x ∈ t.ls, x.2 ≠ 0#64
 cr : ∀ c ∈ t.cr, c.2.2 ≠ 0#64
theorem RunI.step {l : List Tb} {q : Int × Pk} {Q : List (Int × Pk)} {t : Trc} (h : RunI l (q :: Q) t) : RunI l (Q ++ nextQ l q) (stepT l q t) := by
 have hq := h.fit q (by simp)
 have hQ : ∀ c ∈ Q, FitL l c.2 ∧ (findT l c.1 = none → c.2.bits ≠ 0#64) := fun c hc => h.fit c (by simp [hc])
 cases hf : findT l q.1 with
 | none =>
   have hn : nextQ l q = [] := by simp [nextQ, hf]
   rw [hn, List.append_nil]
   refine ⟨hQ, ?_, ?_, ?_⟩ <;> simp only [stepT, hf]
   ·exact h.dl
   ·intro x hx
    rcases List.mem_append.1 hx with hx | hx
    ·exact h.ls x hx
    ·simp at hx; subst hx; exact hq.2 hf
   ·exact h.cr
 | some b =>
   have hb := hq.1.all b (findT_mem hf).1
   obtain ⟨h1, h2⟩ := fwd_spec hb
   have hn : nextQ l q = (fwdV b q.2).cps := by simp [nextQ, hf, h1]
   obtain ⟨H, h3, h4, h5⟩ := h2.cps
   have hc : ∀ c ∈ (fwdV b q.2).cps, c.2.bits ≠ 0#64 := fun c hc => by
    rw [h3] at hc
    simp only [out0, List.nil_append, List.mem_map] at hc
    obtain ⟨x, hx, rfl⟩ := hc
    obtain ⟨_, a1, a2, k, hk, a3, a4⟩ := (h5 x).1 hx
    have hr := (hopAt_at hb.ck (k := k) (p := q.2) (by rw [a4]; exact a1)).2
    rw [a4] at hr
    have := (cpk_bit hb hk hr).2 ⟨a3, a4⟩
    intro e
    simp only at e
    rw [e] at this; simp at this
   refine ⟨fun c hm => ?_, ?_, ?_, ?_⟩
   ·rcases List.mem_append.1 hm with hm | hm
    ·exact hQ c hm
    ·exact ⟨next_fit hq.1 c hm, fun _ => hc c (by rw [← hn]; exact hm)⟩
   ·simp only [stepT, hf, h1]
    intro d hd
    rcases List.mem_append.1 hd with hd | hd
    ·exact h.dl d hd
    ·simp only [locV, bitsI, List.map_map, List.mem_map] at hd
     obtain ⟨k, hk, rfl⟩ := hd
     obtain ⟨k1, k2⟩ := mem_bitsL.1 hk
     have hpb : q.2.bits.getLsbD k = true := by
      rcases (h2.loc k k1).1 k2 with a | a
      ·simp [out0] at a
      ·exact a.1
     refine ⟨k, k1, ?_⟩
     show (onlyR q.2 (Int.ofNat k)).bits = _
     have := onlyR_eq hq.1.ok k1 hpb
     rw [Int.ofNat_eq_natCast, this]
   ·simp only [stepT, hf, h1]
    intro x hx
    split at hx
    ·exact h.ls x hx
    ·rename_i hne
     rcases List.mem_append.1 hx with hx | hx
     ·exact h.ls x hx
     ·simp at hx; subst hx; exact hne
   ·simp only [stepT, hf, h1]
    intro c hm
    rcases List.mem_append.1 hm with hm | hm
    ·exact h.cr c hm
    ·obtain ⟨x, hx, rfl⟩ := List.mem_map.1 hm
     exact hc x hx
end Go.Proofs

set_option linter.unusedSimpArgs false
set_option linter.unusedVariables false
namespace Go.Proofs
end Go.Proofs

set_option linter.unusedSimpArgs false
set_option linter.unusedVariables false
namespace Go.Proofs
theorem pathG_dl {l : List Tb} {id pl r : Int} {ws : List Int} (h : Dl l id pl r ws) : ∀ (k : Nat) (pr : List Int), ws.length < k → (∀ x ∈ r :: ws, x ∉ pr) → pathG l id pl k pr r = ((pr ++ r :: ws).tail, 0) := by
 have hnd := h.nodup
 induction h with
 | @here r b h1 h2 h3 =>
   intro k pr hk hpr
   obtain ⟨k, rfl⟩ : ∃ j, k = j + 1 := ⟨k - 1, by simp at hk; omega⟩
   rw [pathG, if_neg (hpr r (by simp))]
   simp only [h1, h2, if_neg h3, if_true]
 | @next r h b ws h1 h2 h3 h4 h5 ih =>
   intro k pr hk hpr
   simp only [List.length_cons] at hk
   obtain ⟨k, rfl⟩ : ∃ j, k = j + 1 := ⟨k - 1, by omega⟩
   rw [pathG, if_neg (hpr r (by simp))]
   simp only [h1, h2, if_neg h3, if_neg h4]
   have hn := (List.nodup_cons.1 hnd)
   have := ih hn.2 k (pr ++ [r]) (by omega) (fun x hx hm => by
    rcases List.mem_append.1 hm with hm | hm
    ·exact hpr x (List.mem_cons_of_mem _ hx) hm
    ·simp at hm; subst hm; exact hn.1 hx)
   rw [this]; simp
theorem path_of_dl {l : List Tb} {id pl r : Int} {ws : List Int} (hA : chkA l = 0) (hp : 0 ≤ pl ∧ pl ≤ 7) (h : Dl l id pl r ws) : pathV l r id pl = (ws, 0) := by
 have := h.len
 rw [pathV, if_neg (by simp [hA]), if_neg (by simp [hp.1, hp.2]), pathG_dl h _ [] (by omega) (by simp)]
 simp
theorem dl_of_pathG {l : List Tb} {id pl : Int} : ∀ (k : Nat) (pr : List Int) (r : Int), (pathG l id pl k pr r).2 = 0 → r ≠ 0 → ∃ ws, Dl l id pl r ws ∧ pathG l id pl k pr r = ((pr ++ r :: ws).tail, 0)
 | 0, pr, r, h, _ => by simp [pathG] at h
 | k + 1, pr, r, h, h0 => by
   rw [pathG] at h ⊢
   by_cases hm : r ∈ pr
   ·rw [if_pos hm] at h; simp at h
   rw [if_neg hm] at h ⊢
   cases hf : findT l r with
   | none => simp [hf] at h
   | some b =>
     simp only [hf] at h ⊢
     by_cases c0 : hopB b id pl = 0
     ·rw [if_pos c0] at h; simp at h
     rw [if_neg c0] at h ⊢
     by_cases c1 : hopB b id pl = r
     ·rw [if_pos c1]
      exact ⟨[], .here hf c1 h0, rfl⟩
     rw [if_neg c1] at h ⊢
     obtain ⟨ws, h1, h2⟩ := dl_of_pathG k (pr ++ [r]) _ h c0
     exact ⟨_ :: ws, .next hf rfl c0 c1 h1, by rw [h2]; simp⟩
theorem dl_of_path {l : List Tb} {id pl r : Int} (h : (pathV l r id pl).2 = 0) (h0 : r ≠ 0) : ∃ ws, Dl l id pl r ws ∧ pathV l r id pl = (ws, 0) := by
 unfold pathV at h ⊢
 split
 ·rename_i a; rw [if_pos a] at h; simp at h
 ·rename_i a
  rw [if_neg a] at h
  split
  ·rename_i b; rw [if_pos b] at h; simp at h
  ·rename_i b
   rw [if_neg b] at h
   obtain ⟨ws, h1, h2⟩ := dl_of_pathG _ _ _ h h0
   exact ⟨ws, h1, by rw [h2]; simp⟩
def costW (g : Topo) : Int → List Int → Option Int
 | _, [] => some 0
 | r, h :: ws => match price g.ls r h, costW g h ws with
   | some c, some v => some (c + v)
   | _, _ => none
def AllCap (g : Topo) : Prop := ∀ x ∈ g.rs, x.cap = true
theorem AllCap.cap {g : Topo} (hg : g.Ok) (h : AllCap g) {r : Int} (hr : hasR g.rs r = true) : capR g.rs r = true := by
 obtain ⟨x, hx, rfl⟩ := List.mem_map.1 (hasR_mem.1 hr)
 exact (capR_iff hg).2 ⟨x, hx, rfl, h x hx⟩
theorem HopR.direct {g : Topo} (hg : g.Ok) (hA : AllCap g) {t r n : Int} (h : HopR g t r n) : n ∈ steps g (dist g t) r := by
 obtain ⟨x, hx, hn, _⟩ := h
 have : x = r := by
  induction hx with
  | nil => rfl
  | via _ hy hc _ =>
    rw [hA.cap hg (steps_has hy)] at hc; simp at hc
 rw [← this]; exact hn
theorem dl_cost {g : Topo} (hg : chkT g = 0) (hA : AllCap g) {p : Pn} (hp : planB p = true) {id pl r : Int} {ws : List Int} (h : Dl (tabs g p g.rs) id pl r ws) :
  ∃ e ∈ p.es, e.id = id ∧ lastR r ws = e.r ∧ costW g r ws = some (dst g e.r r) := by
 have hO := chkT_zero hg
 obtain ⟨e, he, rfl, hl, hc, hr, hd⟩ := dl_wrong hg hp h
 refine ⟨e, he, rfl, hl, ?_⟩
 clear hd hr
 induction h with
 | @here r b h1 h2 h3 =>
   simp only [lastR] at hl
   rw [hl, costW, dst_self hO (cap_has hO hc)]
 | @next r h b ws h1 h2 h3 h4 h5 ih =>
   have ih := ih (by simpa [lastR] using hl)
   rw [tabs_find hO] at h1
   split at h1
   ·rename_i hr
    simp only [Option.some.injEq] at h1; subst h1
    have hrh := cap_has hO hr
    rcases build_hop hg hp he hrh pl with ⟨a1, a2⟩ | ⟨a1, a2, a3, a4⟩ | ⟨a1, a2, a3⟩
    ·exact absurd (h2.symm.trans a2) h4
    ·rw [h2] at a4
     obtain ⟨_, _, _, c, b1, b2⟩ := (mem_steps hO).1 (a4.direct hO hA)
     rw [costW, b1, ih]
     simp only [b2]
    ·omega
   ·simp at h1
end Go.Proofs

set_option linter.unusedSimpArgs false
set_option linter.unusedVariables false
namespace Go.Proofs
theorem costW_walk {g : Topo} {r : Int} {ws : List Int} {v : Int} (h : costW g r ws = some v) : Wk g (lastR r ws) ws.length r v := by
 induction ws generalizing r v with
 | nil => simp [costW] at h; subst h; exact .nil
 | cons w ws ih =>
   rw [costW] at h
   cases hp : price g.ls r w with
   | none => simp [hp] at h
   | some c =>
     cases hc : costW g w ws with
     | none => simp [hp, hc] at h
     | some u =>
       simp only [hp, hc, Option.some.injEq] at h
       subst h
       exact .cons hp (ih hc)
end Go.Proofs

set_option linter.unusedSimpArgs false
set_option maxRecDepth 100000
set_option maxHeartbeats 2000000
namespace Go.Proofs
open Go Go.Tr
structure PlanV (rs : List Rt) (p : Pn) : Prop where
 subd : 0 ≤ p.subd ∧ p.subd ≤ 7
 len : validLen p.len = true
 n : p.es.length ≤ 24
 rt : ∀ e ∈ p.es, 1 ≤ e.r ∧ e.r ≤ 99
 ids : ∀ e ∈ p.es, 1 ≤ e.id ∧ e.id ≤ 256
 asc : p.es.Pairwise fun a b => a.id < b.id
 nod : (p.es.map (·.r)).Nodup
theorem planB_of {rs : List Rt} {p : Pn} (h : PlanV rs p) : planB p = true := by
 have gi : ∀ i (hi : i < p.es.length), gid p.es i = p.es[i].id ∧ grt p.es i = p.es[i].r := fun i hi => by simp [gid, grt, List.getD, hi]
 refine planB_ok (by simp [baseB, inB, h.subd, h.len, h.n]) (fun i hi => ?_) (fun i j hj hi => ?_)
 ·have h1 := h.ids p.es[i] (List.getElem_mem hi)
  have h2 := h.rt p.es[i] (List.getElem_mem hi)
  have h3 := gi i hi
  by_cases h0 : i = 0
  ·simp [edB, inB, h3, h1, h2, h0]
   subst h0
   simp [h3, h1, h2]
  ·have h4 := gi (i - 1) (by omega)
   have h5 := List.pairwise_iff_getElem.1 h.asc (i - 1) i (by omega) hi (by omega)
   simp [edB, inB, h3, h1, h2, h0, h4, h5]
 ·rw [(gi i hi).2, (gi j (by omega)).2]
  have := List.pairwise_iff_getElem.1 h.nod j i (by simp; omega) (by simpa using hi) hj
  simp only [List.getElem_map] at this
  exact fun e => this e.symm
theorem gOrderL_nodup : ∀ (n i : Nat) (T : Tp) (l : List Int), l.Nodup → (∀ x ∈ l, x < (i : Int)) → (gOrderL n i T l).1.Nodup
 | 0, _, _, _, h, _ => h
 | n + 1, i, T, l, h, hb => by
   rw [gOrderL]
   generalize (gNext T (i + 1)).1.toNat = k
   have hs : (l.take k ++ l.drop k).Nodup := by rw [List.take_append_drop]; exact h
   have hi : (i : Int) ∉ l := fun hm => by have := hb _ hm; omega
   refine gOrderL_nodup n (i + 1) _ _ ?_ fun x hx => ?_
   ·rw [List.nodup_append] at hs ⊢
    obtain ⟨h1, h2, h3⟩ := hs
    refine ⟨?_, h2, fun a ha b hb' => ?_⟩
    ·rw [List.nodup_append]
     refine ⟨h1, by simp, fun a ha b hb' => ?_⟩
     simp at hb'; subst hb'
     intro e; subst e
     exact hi (List.mem_of_mem_take ha)
    ·rcases List.mem_append.1 ha with ha | ha
     ·exact h3 a ha b hb'
     ·simp at ha; subst ha
      intro e; subst e
      exact hi (List.mem_of_mem_drop hb')
   ·simp only [List.mem_append, List.mem_singleton] at hx
    rcases hx with (hx | hx) | hx
    ·have := hb x (List.mem_of_mem_take hx); omega
    ·omega
    ·have := hb x (List.mem_of_mem_drop hx); omega
theorem gRts_get (k : Nat) {i : Nat} (h : i < k) (d : Rt) : ((gRts k).getD i d).id = (i : Int) + 1 := by
 simp [gRts, List.getD, h]
structure PlI (k : Nat) (o : List Int) (id : Int) (l : List Ed) : Prop where
 pos : 0 ≤ id
 rt : ∀ e ∈ l, 1 ≤ e.r ∧ e.r ≤ k ∧ e.r - 1 ∉ o
 ids : ∀ e ∈ l, 1 ≤ e.id ∧ e.id ≤ 256 ∧ e.id ≤ id
 asc : l.Pairwise fun a b => a.id < b.id
 nod : (l.map (·.r)).Nodup
theorem plI_loop (k : Nat) (len : Int) (hl : 8 ≤ len) : ∀ (o : List Int) (T : Tp) (id : Int) (l : List Ed), o.Nodup → (∀ x ∈ o, 0 ≤ x ∧ x < (k : Int)) → PlI k o id l →
  PlI k [] (gPlanL (gRts k) len o T id l).2.1 (gPlanL (gRts k) len o T id l).1
 | [], T, id, l, _, _, h => h
 | x :: o, T, id, l, hn, hb, h => by
   rw [List.nodup_cons] at hn
   rw [gPlanL]
   have hbx := hb x (by simp)
   refine plI_loop k len hl o _ _ _ hn.2 (fun y hy => hb y (by simp [hy])) ?_
   unfold gPlanS
   simp only
   have h0 : PlI k o id l := ⟨h.pos, fun e he => by have := h.rt e he; simp at this; exact ⟨this.1, this.2.1, this.2.2.2⟩, h.ids, h.asc, h.nod⟩
   split
   ·exact h0
   ·have bp : 1 ≤ (gPick (gNext T 4).2 [1, 1, 1, 2, len - 1]).1 := gPick_all (p := fun x => 1 ≤ x) (by simp) (by simp; omega)
    simp only
    generalize gPick (gNext T 4).2 [1, 1, 1, 2, len - 1] = p at bp ⊢
    split
    ·rename_i hid
     have hr : ((gRts k).getD x.toNat ⟨0, false⟩).id = x + 1 := by rw [gRts_get k (by omega)]; omega
     rw [hr]
     refine ⟨by have := h.pos; first | omega | (simp only; omega), fun e he => ?_, fun e he => ?_, ?_, ?_⟩
     ·simp only [List.mem_append, List.mem_singleton] at he
      rcases he with he | rfl
      ·exact h0.rt e he
      ·refine ⟨by first | omega | (simp only; omega), by first | omega | (simp only; omega), ?_⟩
       rw [show (x + 1 - 1 : Int) = x by omega]
       exact hn.1
     ·simp only [List.mem_append, List.mem_singleton] at he
      rcases he with he | rfl
      ·have := h.ids e he; first | omega | (simp only; omega)
      ·have := h.pos; first | omega | (simp only; omega)
     ·rw [List.pairwise_append]
      refine ⟨h.asc, by simp, fun a ha b hb' => ?_⟩
      simp at hb'; subst hb'
      have := h.ids a ha
      first | omega | (simp only; omega)
     ·rw [List.map_append, List.nodup_append]
      refine ⟨h.nod, by simp, fun a ha b hb' => ?_⟩
      simp at hb'; subst hb'
      obtain ⟨e, he, rfl⟩ := List.mem_map.1 ha
      have := (h.rt e he).2.2
      intro e1
      apply this
      rw [e1]
      simp
    ·exact ⟨by have := h.pos; first | omega | (simp only; omega), h0.rt, fun e he => by have := h.ids e he; first | omega | (simp only; omega), h.asc, h.nod⟩
theorem gPlan0_valid (T : Tp) {k : Nat} (hk : k ≤ 24) : PlanV (gRts k) (gPlan0 T (gRts k)).1 := by
 have hl : ((8 : Int) ≤ (gPick (gNext T 3).2 [8, 8, 16, 32, 64]).1) ∧ validLen (gPick (gNext T 3).2 [8, 8, 16, 32, 64]).1 = true := gPick_all (p := fun x => (8 : Int) ≤ x ∧ validLen x = true) (by simp) (by simp; decide)
 have h1 := gNext_nonneg T 3
 have h2 := gNext_lt T (n := 3) (by omega)
 have hln := gPlan0_len T (gRts k)
 rw [gRts_len] at hln
 have hord := gOrder_mem (gPick (gNext T 3).2 [8, 8, 16, 32, 64]).2 k
 have hnd : (gOrder (gPick (gNext T 3).2 [8, 8, 16, 32, 64]).2 k).1.Nodup := gOrderL_nodup _ _ _ _ (by simp) (by simp)
 have hI := plI_loop k _ hl.1 _ (gOrder (gPick (gNext T 3).2 [8, 8, 16, 32, 64]).2 k).2 0 [] hnd hord ⟨by omega, by simp, by simp, by simp, by simp⟩
 refine ⟨by simp only [gPlan0]; omega, hl.2, by omega, fun e he => ?_, fun e he => ?_, ?_, ?_⟩
 ·have he' : e ∈ (gPlanL (gRts k) (gPick (gNext T 3).2 [8, 8, 16, 32, 64]).1 (gOrder (gPick (gNext T 3).2 [8, 8, 16, 32, 64]).2 k).1 (gOrder (gPick (gNext T 3).2 [8, 8, 16, 32, 64]).2 k).2 0 []).1 := by simpa [gPlan0] using he
  have := hI.rt e he'
  omega
 ·have he' : e ∈ (gPlanL (gRts k) (gPick (gNext T 3).2 [8, 8, 16, 32, 64]).1 (gOrder (gPick (gNext T 3).2 [8, 8, 16, 32, 64]).2 k).1 (gOrder (gPick (gNext T 3).2 [8, 8, 16, 32, 64]).2 k).2 0 []).1 := by simpa [gPlan0] using he
  have := hI.ids e he'
  omega
 ·simpa [gPlan0] using hI.asc
 ·simpa [gPlan0] using hI.nod
end Go.Proofs

set_option linter.unusedSimpArgs false
set_option linter.unusedVariables false
set_option maxRecDepth 100000
namespace Go.Proofs
open Go Go.Tr
theorem gPlan_zero_eq (T : Tp) (rs : List Rt) : gPlan T rs 0 = ((gPlan0 T rs).1, (gPlan0 T rs).2.2) := by
 simp [gPlan]
structure DomV (most : Int) (g : Topo) (p : Pn) (l : List Tb) : Prop where
 top : TopV most g
 plan : planB p = true
 len : validLen p.len = true
 subd : 0 ≤ p.subd ∧ p.subd ≤ 7
 tab : l = tabs g p g.rs
theorem gPlanS_ids {rs rs' : List Rt} (h : rs.map (·.id) = rs'.map (·.id)) (len x : Int) (T : Tp) (id : Int) (l : List Ed) : gPlanS rs len x T id l = gPlanS rs' len x T id l := by
 have e : ∀ i : Nat, (rs.getD i ⟨0, false⟩).id = (rs'.getD i ⟨0, false⟩).id := fun i => by
  have := congrArg (fun l => l[i]?) h
  simp only [List.getElem?_map] at this
  rw [List.getD_eq_getElem?_getD, List.getD_eq_getElem?_getD]
  cases h1 : rs[i]? with
  | none =>
    rw [h1] at this
    cases h2 : rs'[i]? with
    | none => rfl
    | some y => rw [h2] at this; simp at this
  | some x =>
    rw [h1] at this
    cases h2 : rs'[i]? with
    | none => rw [h2] at this; simp at this
    | some y => rw [h2] at this; simpa using this
 unfold gPlanS
 simp only [e]
theorem gPlanL_ids {rs rs' : List Rt} (h : rs.map (·.id) = rs'.map (·.id)) (len : Int) : ∀ (o : List Int) (T : Tp) (id : Int) (l : List Ed), gPlanL rs len o T id l = gPlanL rs' len o T id l
 | [], _, _, _ => rfl
 | x :: o, T, id, l => by
   rw [gPlanL, gPlanL, gPlanS_ids h, gPlanL_ids h]
theorem gPlan0_ids {rs rs' : List Rt} (h : rs.map (·.id) = rs'.map (·.id)) (T : Tp) : gPlan0 T rs = gPlan0 T rs' := by
 have hl : rs.length = rs'.length := by have := congrArg List.length h; simpa using this
 unfold gPlan0
 simp only [hl, gPlanL_ids h]
theorem plan_valid {most : Int} {g : Topo} (h : TopV most g) (hm : most ≤ 24) (T : Tp) : PlanV (gRts g.rs.length) (gPlan T g.rs 0).1 := by
 rw [gPlan_zero_eq]
 show PlanV _ (gPlan0 T g.rs).1
 rw [gPlan0_ids h.ids]
 exact gPlan0_valid T (by have := h.n; omega)
theorem all11_eq {g : Topo} (hg : chkT g = 0) {p : Pn} (hp : planB p = true) : all11 g p = (tabs g p g.rs, 0) := by
 unfold all11
 rw [if_pos ⟨hg, hp⟩]
theorem gDom_valid (T : Tp) {most : Int} (hm : 1 ≤ most ∧ most ≤ 8) : DomV most (gDom T most).1 (gDom T most).2.1 (gDom T most).2.2.1 ∧ AllCap (gDom T most).1 := by
 have h := gTop_valid T hm
 have hp := plan_valid h (by omega) (gTop T most).2
 refine ⟨⟨h, planB_of hp, hp.len, hp.subd, ?_⟩, fun x hx => ?_⟩
 ·show (all11 _ _).1 = _
  rw [all11_eq h.ok (planB_of hp)]; rfl
 ·have hx : x ∈ gRts (gRange T 1 most).1.toNat := hx
  exact (gRts_mem.1 hx).1
theorem tabs_sd {g : Topo} {p : Pn} : ∀ b ∈ tabs g p g.rs, b.sd = p.subd ∧ b.len = p.len := fun b hb => by
 obtain ⟨x, _, _, rfl⟩ := tabs_mem hb
 exact ⟨rfl, rfl⟩
theorem tabs_chk {g : Topo} (hg : chkT g = 0) {p : Pn} (hp : planB p = true) : ∀ b ∈ tabs g p g.rs, chk b = 0 := fun b hb => by
 obtain ⟨x, hx, _, rfl⟩ := tabs_mem hb
 exact buildT_ok hg hp (hasR_mem.2 (List.mem_map_of_mem hx))
theorem tabs_asc {g : Topo} (hg : g.Ok) (p : Pn) : (tabs g p g.rs).Pairwise fun x y => x.r < y.r := by
 unfold tabs
 rw [List.pairwise_map]
 exact (hg.rpw.sublist List.filter_sublist).imp fun h => h
theorem chkA_of {l : List Tb} (h1 : l.length ≤ 24) (h2 : ∀ b ∈ l, chk b = 0) (h3 : l.Pairwise fun x y => x.r < y.r) (h4 : ∀ b ∈ l, ∀ c ∈ l, b.sd = c.sd ∧ b.len = c.len) : chkA l = 0 := by
 have a1 : decide (24 < l.length) = false := by simp; omega
 have a2 : (l.any fun b => decide (chk b ≠ 0)) = false := by
  rw [List.any_eq_false]; intro b hb; simp [h2 b hb]
 have a3 : adjB (fun x y : Tb => decide (y.r ≤ x.r)) l = false := pw_adj (r := fun x y => x.r < y.r) (fun x y h => by simpa using h) h3
 have a4 : (l.any fun b => decide (b.sd ≠ (l.headD tb0).sd) || decide (b.len ≠ (l.headD tb0).len)) = false := by
  rw [List.any_eq_false]
  intro b hb
  have : l.headD tb0 ∈ l := by
   cases l with
   | nil => simp at hb
   | cons a l => simp
  have := h4 b hb _ this
  simp [this.1, this.2]
 simp only [chkA, firstE, a1, a2, a3, a4, cond_false]
theorem tabs_all {g : Topo} (hg : chkT g = 0) {p : Pn} (hp : planB p = true) : chkA (tabs g p g.rs) = 0 :=
 chkA_of (Nat.le_trans (tabs_len g p) (chkT_zero hg).nr) (tabs_chk hg hp) (tabs_asc (chkT_zero hg) p) fun b hb c hc => by
  have h1 := tabs_sd b hb
  have h2 := tabs_sd c hc
  exact ⟨h1.1.trans h2.1.symm, h1.2.trans h2.2.symm⟩
structure TabV (p : Pn) (rs : List Int) (l : List Tb) : Prop where
 all : chkA l = 0
 ck : ∀ b ∈ l, chk b = 0
 sd : ∀ b ∈ l, b.sd = p.subd ∧ b.len = p.len
 rs : ∀ r, (findT l r).isSome ↔ r ∈ rs
 n : l.length ≤ 24
end Go.Proofs

set_option linter.unusedSimpArgs false
set_option maxRecDepth 100000
set_option maxHeartbeats 4000000
namespace Go.Proofs
open Go Go.Tr
theorem all11O_c (g : Topo) (hg : g.Sm) (hc : chkT g = 0) (p : Pn) (a1 : planB p = true) (hp : p.es.length ≤ 1000) : Contract Tryz.prog 22 [topT g, planT p] [] (.tup [.oref 6 (tabs g p g.rs).length, .d (.int .i64 0)]) [] [(6, .row 37 4 (dd (tbs (tabs g p g.rs))) false)] := by
 have hr := hg.r
 refine contract_of Tryz.func22 rfl (fun E0 => ?_)
 refine awp.sound (g := .mk) (ow := []) (kp := (fun k => k==0||k==1||k==2||k==3||k==4||k==5||k==6||k==7||k==15||k==20||k==28)) ?_
 rw [Tryz.ntmps22]
 simp -dsimp [topT, planT]
 refine ACall.of (check05_c g hg.r hg.l) [] 0 ?_
 simp -dsimp [eq_true hc, topT]
 refine ACall.of (validPlan10_c p hp) [] 0 ?_
 have hn : g.rs.length ≤ 24 := (chkT_zero hc).nr
 simp -dsimp [eq_true hc, a1, planT]
 and_intros
 all_goals try first | rfl | omega | exact ⟨by kernel_rfl⟩
 refine ALoop.of [] (fun k => k==0||k==1||k==2||k==3||k==4||k==5||k==6||k==7||k==15||k==20||k==28) (ι := { i : Nat // i ≤ g.rs.length ∧ True }) (fun z => [(Pl.s 0, It.v (TV.agg [TV.d (D.sl (rts g.rs)), TV.d (D.sl (lks g.ls))])), (Pl.s 1, It.v (TV.agg [TV.d (D.int IntKind.i64 p.subd), TV.d (D.int IntKind.i64 p.len), TV.d (D.sl (eds p.es))])), (Pl.o 2, It.box [TV.d (D.sl (rts g.rs)), TV.d (D.sl (lks g.ls))]), (Pl.s 2, It.v (TV.ptr (Pl.o 2) 0)), (Pl.o 3, It.box [TV.d (D.int IntKind.i64 p.subd), TV.d (D.int IntKind.i64 p.len), TV.d (D.sl (eds p.es))]), (Pl.s 3, It.v (TV.ptr (Pl.o 3) 0)), (Pl.s 4, It.v (TV.c (Value.slice none 0 0))), (Pl.s 5, It.v (TV.d (D.int IntKind.i64 0))), (Pl.s 6, It.v (TV.oref 6 (tabD g p (g.rs.take z.1)).length)), (Pl.o 6, It.row 37 4 (dd (tabD g p (g.rs.take z.1))) false), (Pl.s 7, It.v (TV.d (D.int IntKind.i64 z.1)))]) (fun z => g.rs.length - z.1) ⟨0, by omega, trivial⟩ ?_ ?_
 ·exact GS.own' (k := 6) 37 4 (by simp) (by simp) (by simp [tabD, tabs])
 rintro ⟨i, i1, i2⟩
 by_cases hi : i < g.rs.length
 ·have hiz : (i : Int) < g.rs.length := by omega
  have hx : g.rs[i]? = some g.rs[i] := List.getElem?_eq_getElem hi
  have ht : g.rs.take (i + 1) = g.rs.take i ++ [g.rs[i]] := by rw [List.take_add_one, List.getElem?_eq_getElem hi]; rfl
  generalize g.rs[i] = x at hx ht
  have hx' := rts_get hx
  have hta := tabD_app g p (g.rs.take i) x
  have htl := tabD_len g p (g.rs.take i)
  rw [← ht] at hta
  simp at htl
  rcases (Bool.eq_false_or_eq_true x.cap).symm with c1 | c1
  ·rw [if_neg (by simp [c1])] at hta
   simp -dsimp [hiz, hx', Rt.cs, c1, wrap_i64 (n := (i : Int) + 1) (by omega) (by omega)]
   and_intros
   all_goals try first | rfl | omega | exact ⟨by kernel_rfl⟩
   exact ⟨⟨i + 1, by omega, trivial⟩, GS.to (by simp [hta]), by simp; omega⟩
  ·rw [if_pos c1] at hta
   simp -dsimp [hiz, hx', Rt.cs, c1]
   refine ACall.of (build11_c g hg p (by omega) x.id) [] 0 ?_
   simp -dsimp [hiz, hx', Rt.cs, c1, topT, planT, tblT, rwsD, wrap_i64 (n := (i : Int) + 1) (by omega) (by omega)]
   and_intros
   all_goals try first | rfl | omega | exact ⟨by kernel_rfl⟩
   exact ⟨⟨i + 1, by omega, trivial⟩, GS.to (by simp [hta, Tb.cs, rwsD]), by simp; omega⟩
 ·have hiz : ¬ (i : Int) < g.rs.length := by omega
  obtain rfl : i = g.rs.length := by omega
  simp -dsimp [hiz]
  refine Fin.of ?_
  simp [tabD, tbs]
theorem domainO_c (T : Tp) (hT : TapeOK T) (most : Int) (hm : 1 ≤ most ∧ most ≤ 8) : Contract Tryz.prog 38 [.ptr (.x 0) 0, .d (.int .i64 most)] [tapeI T] (.tup [topT (gDom T most).1, planT (gDom T most).2.1, .oref 6 (gDom T most).2.2.1.length]) [tapeI (gDom T most).2.2.2] [(6, .row 37 4 (dd (tbs (gDom T most).2.2.1)) false)] := by
 refine contract_of Tryz.func38 rfl (fun E0 => ?_)
 refine awp.sound (g := .mk) (ow := []) (kp := (fun k => k==0||k==1||k==4||k==5||k==6||k==7||k==8||k==9)) ?_
 rw [Tryz.ntmps38]
 simp -dsimp
 refine ACall.of (topo_c T hT most ⟨hm.1, by omega⟩) [.x 0] 0 ?_
 have kG : TapeOK (gTop T most).2 := by simpa using hT
 have hsm := gTop_small T (most := most) ⟨hm.1, by omega⟩
 have hD := (gDom_valid T hm).1
 have hok := hD.top.ok
 have hpl := hD.plan
 have htab := hD.tab
 rw [htab]
 clear hD htab
 unfold gDom at hok hpl ⊢
 simp only at hok hpl ⊢
 generalize gTop T most = G at kG hsm hok hpl ⊢
 simp -dsimp [topT]
 refine ACall.of (plan_c G.2 kG G.1.rs G.1.ls (by omega) 0 (by omega)) [.x 0] 0 ?_
 obtain ⟨kP, lP⟩ := gPlan_zero G.2 G.1.rs
 have kG : TapeOK (gPlan G.2 G.1.rs 0).2 := kP.symm ▸ kG
 clear kP
 generalize gPlan G.2 G.1.rs 0 = p at kG lP hpl ⊢
 simp -dsimp [topT, planT]
 refine ACall.of (all11O_c G.1 ⟨by omega, by omega⟩ hok p.1 hpl (by omega)) [] 0 ?_
 generalize tabs G.1 p.1 G.1.rs = l
 simp -dsimp [topT, planT]
 and_intros
 all_goals try first | rfl | omega | exact ⟨by kernel_rfl⟩
 refine Fin.of ?_
 simp [topT, planT]
end Go.Proofs

set_option linter.unusedSimpArgs false
set_option maxRecDepth 100000
set_option maxHeartbeats 4000000
namespace Go.Proofs
open Go Go.Tr
def Pk.for (q : Pk) (subd len set : Int) (B : BitVec 64) : Pk := ⟨1, subd, set, len, q.ttl, q.ent, q.ing, q.proto, B, q.pay⟩
end Go.Proofs

set_option linter.unusedSimpArgs false
set_option maxRecDepth 100000
set_option maxHeartbeats 4000000
namespace Go.Proofs
open Go Go.Tr
def fitsR (l : List Tb) (p : Pk) (r : Int) : Int := (runR l p r).2
end Go.Proofs

set_option linter.unusedSimpArgs false
set_option maxRecDepth 100000
set_option maxHeartbeats 8000000
namespace Go.Proofs
open Go Go.Tr
theorem fits_fit {l : List Tb} {p : Pk} {r : Int} (h : fitsR l p r = 0) : FitL l p ∧ (findT l r).isSome ∧ runR l p r = (runG l (wt p) [(r, p)] tr0, 0) := by
 unfold fitsR runR at h
 unfold runR
 split at h
 ·simp at h
 rename_i h0
 rw [if_neg h0]
 have h1 : chkA l = 0 := Classical.byContradiction fun a => h0 (.inl a)
 have h2 : p.ok = true := by
  cases hp : p.ok with
  | true => rfl
  | false => exact absurd (.inr hp) h0
 cases hf : findT l r with
 | none => rw [hf] at h; simp at h
 | some b =>
   rw [hf] at h
   simp only at h ⊢
   split at h
   ·simp at h
   rename_i h3
   rw [if_neg h3]
   split at h
   ·simp at h
   rename_i h4
   rw [if_neg h4]
   have e1 : p.subd = b.sd := Classical.byContradiction fun a => h4 (.inl a)
   have e2 : p.len = b.len := Classical.byContradiction fun a => h4 (.inr a)
   have hall := firstE_zero (l := _) (by simp) h1
   simp only [List.mem_cons, List.not_mem_nil, or_false, forall_eq_or_imp, forall_eq] at hall
   have hd : ∀ c ∈ l, c.sd = (l.headD tb0).sd ∧ c.len = (l.headD tb0).len := fun c hc => by
    have := List.any_eq_false.1 hall.2.2.2 c hc
    simpa using this
   have hb := hd b (findT_mem hf).1
   refine ⟨⟨h2, fun c hc => ⟨chkA_all h1 c hc, ?_, ?_, h2, h3⟩⟩, rfl, rfl⟩
   ·rw [(hd c hc).1, ← hb.1, e1]
   ·rw [(hd c hc).2, ← hb.2, e2]
theorem fits_not {l : List Tb} {p : Pk} {r : Int} (h : fitsR l p r ≠ 0) : runR l p r = (tr0, fitsR l p r) := by
 unfold fitsR runR at h ⊢
 split
 ·rfl
 rename_i h0
 rw [if_neg h0] at h
 cases hf : findT l r with
 | none => rfl
 | some b =>
   rw [hf] at h
   simp only at h ⊢
   split
   ·rfl
   rename_i h3
   rw [if_neg h3] at h
   split
   ·rfl
   rename_i h4
   rw [if_neg h4] at h
   simp at h
end Go.Proofs

set_option linter.unusedSimpArgs false
set_option maxRecDepth 100000
set_option maxHeartbeats 4000000
namespace Go.Proofs
open Go Go.Tr
theorem router0_c (T : Tp) (hT : TapeOK T) (rs : List Rt) (ls : List Lk) (hr : 1 ≤ rs.length ∧ rs.length ≤ 1000) : Contract Tryz.prog 41 [.ptr (.x 0) 0, .agg [.d (.sl (rts rs)), .d (.sl (lks ls))], .d (.int .i64 0)] [tapeI T] (.d (.int .i64 (rs.getD (gNext T rs.length).1.toNat ⟨0, false⟩).id)) [tapeI (gNext T rs.length).2] [] := by
 have hr0 : ¬ rs.length = 0 := by omega
 have hrn : ¬ rs = [] := fun h => by simp [h] at hr0
 refine contract_of Tryz.func41 rfl (fun E0 => ?_)
 refine awp.sound (g := .mk) (ow := []) (kp := (fun k => k==0||k==1||k==2||k==4||k==6||k==19)) ?_
 rw [Tryz.ntmps41]
 simp -dsimp [hrn]
 try refine ⟨?_, ⟨by kernel_rfl⟩⟩
 refine ACall.of (next_c T hT rs.length ⟨by omega, by omega⟩) [.x 0] 0 ?_
 have m1 := gNext_nonneg T rs.length
 have m2 := gNext_lt T (n := rs.length) (by omega)
 generalize gNext T rs.length = q at m1 m2 ⊢
 obtain ⟨k, hk⟩ : ∃ k : Nat, q.1 = k := ⟨q.1.toNat, by omega⟩
 have hkl : k < rs.length := by omega
 have hx : rs[k]? = some rs[k] := List.getElem?_eq_getElem hkl
 generalize rs[k] = x at hx
 have hx' := rts_get hx
 rw [hk]
 simp -dsimp [hx', Rt.cs]
 and_intros
 all_goals try first | rfl | omega | exact ⟨by kernel_rfl⟩
 refine Fin.of ?_
 simp [hx]
end Go.Proofs

set_option linter.unusedSimpArgs false
set_option maxRecDepth 100000
set_option maxHeartbeats 4000000
namespace Go.Proofs
open Go Go.Tr
end Go.Proofs

set_option linter.unusedSimpArgs false
set_option maxRecDepth 100000
set_option maxHeartbeats 4000000
namespace Go.Proofs
open Go Go.Tr
@[simp] theorem isObj_tape (T : Tp) : isObj (tapeI T) = true := rfl
theorem tape_new (L : List Int) (h : ∀ x ∈ L, I64 x) : TapeOK (L.take 600, 0) := ⟨by simp; omega, fun x hx => h x (List.mem_of_mem_take hx)⟩
theorem gDom_ok (T : Tp) {most : Int} (hm : 1 ≤ most ∧ most ≤ 24) : (gDom T most).2.2.1.length ≤ 24 ∧ (∀ b ∈ (gDom T most).2.2.1, chk b = 0) ∧ TapeOK (gDom T most).2.2.2 = TapeOK T ∧ (gDom T most).2.1.es.length ≤ 24 ∧ 1 ≤ (gDom T most).1.rs.length ∧ (gDom T most).1.rs.length ≤ 24 := by
 have hs := gTop_small T hm
 obtain ⟨h1, h2⟩ := gPlan_zero (gTop T most).2 (gTop T most).1.rs
 refine ⟨all11_len _ _, all11_ok _ _, h1.trans (by simp), Nat.le_trans h2 hs.1, ?_, hs.1⟩
 have b1 := gRange_lo T 1 most
 simp [gDom, gTop, gRts]
 omega
theorem locV_len (r : Int) (o : Out) (p : Pk) : (locV r o p).length ≤ 64 := by unfold locV; rw [List.length_map]; exact bitsI_len _
theorem stepT_len (l : List Tb) (q : Int × Pk) (t : Trc) : (stepT l q t).dl.length ≤ t.dl.length + 64 ∧ (stepT l q t).cr.length ≤ t.cr.length + 64 ∧ (stepT l q t).ls.length ≤ t.ls.length + 64 := by
 unfold stepT
 split
 ·simp
 ·rename_i b _
  have h1 := locV_len q.1 (fwdR b q.2).1 q.2
  have h2 := fwdR_len b q.2
  refine ⟨by simp only [List.length_append]; omega, by simp only [List.length_append, List.length_map]; omega, ?_⟩
  simp only
  split
  ·omega
  ·simp
theorem runG_len (l : List Tb) : ∀ (n : Nat) (Q : List (Int × Pk)) (t : Trc), (runG l n Q t).dl.length ≤ t.dl.length + 64 * n ∧ (runG l n Q t).cr.length ≤ t.cr.length + 64 * n ∧ (runG l n Q t).ls.length ≤ t.ls.length + 64 * n
 | 0, Q, t => by simp [runG]
 | n + 1, [], t => by rw [runG_nil]; omega
 | n + 1, q :: Q, t => by
   have h1 := runG_len l n (Q ++ nextQ l q) (stepT l q t)
   have h2 := stepT_len l q t
   rw [runG]; omega
theorem run_small (l : List Tb) (p : Pk) (r : Int) : (runR l p r).1.dl.length ≤ 1000000 ∧ (runR l p r).1.cr.length ≤ 1000000 ∧ (runR l p r).1.ls.length ≤ 1000000 := by
 by_cases h : fitsR l p r = 0
 ·obtain ⟨h1, _, h2⟩ := fits_fit h
  rw [h2]
  have h3 := runG_len l (wt p) [(r, p)] tr0
  have h4 := wt_le h1.ok
  simp only [tr0, List.length_nil] at h3 ⊢
  omega
 ·rw [fits_not h]; simp [tr0]
end Go.Proofs

set_option linter.unusedSimpArgs false
set_option maxRecDepth 100000
set_option maxHeartbeats 4000000
namespace Go.Proofs
open Go Go.Tr
def cm (acc : List (List Int × Int)) : List (List Int × TV) := acc.map fun x => (x.1, .d (.int .i64 x.2))
def cntI : List (List Int × Int) → List Int → Int
 | [], _ => 0
 | (a, n) :: es, k => if k = a then n else cntI es k
def incK : List (List Int × Int) → List Int → List (List Int × Int)
 | [], k => [(k, 1)]
 | (a, n) :: es, k => if k = a then (k, n + 1) :: es else (a, n) :: incK es k
theorem lk_cm : ∀ (acc : List (List Int × Int)) (k : List Int), lkK false (kget (cm acc) k) (TV.d (D.int .i64 0)) = TV.d (D.int .i64 (cntI acc k))
 | [], k => rfl
 | (a, n) :: es, k => by
   have ih := lk_cm es k
   simp only [cm, List.map_cons, kget, cntI] at ih ⊢
   by_cases h : k = a
   ·simp [h, lkK]
   ·rw [if_neg h, if_neg h]; exact ih
theorem kput_kput : ∀ (es : List (List Int × TV)) (k : List Int) (v w : TV), kput (kput es k v) k w = kput es k w
 | [], k, v, w => by simp [kput]
 | (a, x) :: es, k, v, w => by
   have ih := kput_kput es k v w
   simp only [kput]
   by_cases h : k = a
   ·simp [h, kput]
   ·rw [if_neg h, if_neg h]; simp only [kput]; rw [if_neg h, ih]
theorem kput_cm : ∀ (acc : List (List Int × Int)) (k : List Int), kput (cm acc) k (TV.d (D.int .i64 (cntI acc k + 1))) = cm (incK acc k)
 | [], k => rfl
 | (a, n) :: es, k => by
   have ih := kput_cm es k
   simp only [cm, List.map_cons, kput, cntI, incK] at ih ⊢
   by_cases h : k = a
   ·simp [h]
   ·rw [if_neg h, if_neg h, if_neg h, ih]; rfl
theorem klen_cm {n : Nat} {acc : List (List Int × Int)} (h : ∀ x ∈ acc, x.1.length = n) : klen n (cm acc) := fun y hy => by
 simp only [cm, List.mem_map] at hy
 obtain ⟨x, hx, rfl⟩ := hy
 exact h x hx
theorem cm_keys (acc : List (List Int × Int)) : (cm acc).map (·.1) = acc.map (·.1) := by simp [cm]
theorem incK_mem : ∀ {acc : List (List Int × Int)} {k : List Int} {x : List Int × Int}, x ∈ incK acc k → x ∈ acc ∨ x.1 = k
 | [], k, x, h => by simp [incK] at h; exact .inr (by rw [h])
 | (a, n) :: es, k, x, h => by
   simp only [incK] at h
   split at h
   ·rcases List.mem_cons.1 h with rfl | h
    ·exact .inr rfl
    ·exact .inl (List.mem_cons_of_mem _ h)
   ·rcases List.mem_cons.1 h with rfl | h
    ·exact .inl List.mem_cons_self
    ·rcases incK_mem h with h | h
     ·exact .inl (List.mem_cons_of_mem _ h)
     ·exact .inr h
theorem incK_keys : ∀ {acc : List (List Int × Int)} (k : List Int), (acc.map (·.1)).Nodup → ((incK acc k).map (·.1)).Nodup
 | [], k, _ => by simp [incK]
 | (a, n) :: es, k, h => by
   simp only [List.map_cons, List.nodup_cons] at h
   simp only [incK]
   split
   ·rename_i e; subst e
    simp only [List.map_cons, List.nodup_cons]; exact h
   ·rename_i e
    simp only [List.map_cons, List.nodup_cons]
    refine ⟨fun hm => ?_, incK_keys k h.2⟩
    obtain ⟨x, hx, hxa⟩ := List.mem_map.1 hm
    rcases incK_mem hx with hx | hx
    ·exact h.1 (List.mem_map.2 ⟨x, hx, hxa⟩)
    ·exact e (hx.symm.trans hxa)
theorem incK_len : ∀ (acc : List (List Int × Int)) (k : List Int), (incK acc k).length ≤ acc.length + 1
 | [], k => by simp [incK]
 | (a, n) :: es, k => by
   have := incK_len es k
   simp only [incK]; split <;> simp <;> omega
theorem cntI_le : ∀ {acc : List (List Int × Int)} {m : Int} (_ : ∀ x ∈ acc, 1 ≤ x.2 ∧ x.2 ≤ m) (_ : 0 ≤ m) (k : List Int), 0 ≤ cntI acc k ∧ cntI acc k ≤ m
 | [], m, _, hm, k => by simp [cntI]; omega
 | (a, n) :: es, m, h, hm, k => by
   simp only [cntI]
   split
   ·have := h (a, n) (by simp); omega
   ·exact cntI_le (fun x hx => h x (List.mem_cons_of_mem _ hx)) hm k
theorem incK_le : ∀ {acc : List (List Int × Int)} {m : Int} (_ : ∀ x ∈ acc, 1 ≤ x.2 ∧ x.2 ≤ m) (_ : 0 ≤ m) (k : List Int), ∀ x ∈ incK acc k, 1 ≤ x.2 ∧ x.2 ≤ m + 1
 | [], m, _, hm, k => by simp [incK]; omega
 | (a, n) :: es, m, h, hm, k => by
   intro x hx
   simp only [incK] at hx
   split at hx
   ·rcases List.mem_cons.1 hx with rfl | hx
    ·have := h (a, n) (by simp); simp at this ⊢; omega
    ·have := h x (List.mem_cons_of_mem _ hx); omega
   ·rcases List.mem_cons.1 hx with rfl | hx
    ·have := h (a, n) (by simp); simp at this ⊢; omega
    ·exact incK_le (fun x hx => h x (List.mem_cons_of_mem _ hx)) hm k x hx
structure AccOK (acc : List (List Int × Int)) (m : Nat) : Prop where
 two : ∀ x ∈ acc, x.1.length = 2
 nd : (acc.map (·.1)).Nodup
 le : ∀ x ∈ acc, 1 ≤ x.2 ∧ x.2 ≤ m
 len : acc.length ≤ m
theorem AccOK.nil : AccOK [] 0 := ⟨by simp, by simp, by simp, by simp⟩
theorem AccOK.mono {acc : List (List Int × Int)} {m n : Nat} (h : AccOK acc m) (hn : m ≤ n) : AccOK acc n := ⟨h.two, h.nd, fun x hx => by have := h.le x hx; omega, by have := h.len; omega⟩
theorem AccOK.inc {acc : List (List Int × Int)} {m : Nat} (h : AccOK acc m) (a b : Int) : AccOK (incK acc [a, b]) (m + 1) :=
 ⟨fun x hx => by rcases incK_mem hx with hx | hx; exact h.two x hx; rw [hx]; rfl, incK_keys _ h.nd, fun x hx => by
  have := incK_le h.le (by omega) [a, b] x hx
  push_cast; exact this, by have := incK_len acc [a, b]; have := h.len; omega⟩
def crK (c : Int × Int × BitVec 64) : List Int := [c.1, c.2.1]
def addH (acc : List (List Int × Int)) (cr : List (Int × Int × BitVec 64)) : List (List Int × Int) := cr.foldl (fun a c => incK a (crK c)) acc
theorem addH_ok : ∀ (cr : List (Int × Int × BitVec 64)) {acc : List (List Int × Int)} {m : Nat}, AccOK acc m → AccOK (addH acc cr) (m + cr.length)
 | [], acc, m, h => by simpa [addH] using h
 | c :: cr, acc, m, h => by
   have := addH_ok cr (h.inc c.1 c.2.1)
   simp only [List.length_cons]
   rw [show m + (cr.length + 1) = m + 1 + cr.length by omega]
   exact this
theorem addH_take {cr : List (Int × Int × BitVec 64)} {j : Nat} {c : Int × Int × BitVec 64} (h : cr[j]? = some c) (acc : List (List Int × Int)) : addH acc (cr.take (j + 1)) = incK (addH acc (cr.take j)) [c.1, c.2.1] := by
 unfold addH
 rw [List.take_add_one, h]; simp [crK]
def entP (p : Pk) (k : Int) : Pk := ⟨p.mode, p.subd, p.set, p.len, p.ttl, k, p.ing, p.proto, p.bits, p.pay⟩
def lgo (l : List Tb) (r : Int) (p : Pk) : Nat → Nat → List (List Int × Int) → List (List Int × Int) × Int
 | 0, _, acc => (acc, 0)
 | n + 1, k, acc => if (runR l (entP p k) r).2 = 0 then lgo l r p n (k + 1) (addH acc (runR l (entP p k) r).1.cr) else ([], (runR l (entP p k) r).2)
def leL (x y : List Int) : Bool := !decide (cfL y x < 0)
def ldR (acc : List (List Int × Int)) : List (List Int) := (acc.map fun x => x.1 ++ [x.2]).mergeSort leL
def loadsR (l : List Tb) (r : Int) (p : Pk) : List (List Int) × Int :=
 if (lgo l r p 8 0 []).2 = 0 then (ldR (lgo l r p 8 0 []).1, 0) else ([], (lgo l r p 8 0 []).2)
theorem leL_iff (x y : List Int) : leL x y = true ↔ ¬ (y.getD 0 0 < x.getD 0 0 ∨ y.getD 0 0 = x.getD 0 0 ∧ y.getD 1 0 < x.getD 1 0) := by
 unfold leL; rw [← cfL_lt]; simp
theorem leL_sorted (zs : List (List Int)) : (zs.mergeSort leL).Pairwise (fun a b => leL a b = true) :=
 List.pairwise_mergeSort (fun a b c => by rw [leL_iff, leL_iff, leL_iff]; omega) (fun a b => by rw [Bool.or_eq_true, leL_iff, leL_iff]; omega) zs
theorem sort_leL {zs ys : List (List Int)} (h : zs.Perm ys) (hu : ∀ x ∈ zs, ∀ y ∈ zs, x.getD 0 0 = y.getD 0 0 → x.getD 1 0 = y.getD 1 0 → x = y) : zs.mergeSort leL = ys.mergeSort leL := by
 refine List.Perm.eq_of_pairwise ?_ (leL_sorted zs) (leL_sorted ys) (((List.mergeSort_perm zs leL).trans h).trans (List.mergeSort_perm ys leL).symm)
 intro a b ha hb h1 h2
 rw [leL_iff] at h1 h2
 exact hu a ((List.mergeSort_perm zs leL).mem_iff.1 ha) b (h.mem_iff.2 ((List.mergeSort_perm ys leL).mem_iff.1 hb)) (by omega) (by omega)
def rowK (x : List Int × Int) : List Int := x.1 ++ [x.2]
theorem row_one {acc : List (List Int × Int)} {m : Nat} (h : AccOK acc m) : ∀ x ∈ acc.map rowK, ∀ y ∈ acc.map rowK, x.getD 0 0 = y.getD 0 0 → x.getD 1 0 = y.getD 1 0 → x = y := by
 intro x hx y hy h0 h1
 obtain ⟨⟨a, n⟩, ha, rfl⟩ := List.mem_map.1 hx
 obtain ⟨⟨b, m'⟩, hb, rfl⟩ := List.mem_map.1 hy
 have la := h.two _ ha
 have lb := h.two _ hb
 match a, b, la, lb with
 | [a0, a1], [b0, b1], _, _ =>
   simp [rowK] at h0 h1
   subst h0 h1
   have := h.nd
   have hp : ∀ {l : List (List Int × Int)}, (l.map (·.1)).Nodup → ∀ {k : List Int} {u v : Int}, (k, u) ∈ l → (k, v) ∈ l → u = v := by
    intro l
    induction l with
    | nil => intro _ k u v h; simp at h
    | cons z l ih =>
      intro hn k u v h1 h2
      simp only [List.map_cons, List.nodup_cons] at hn
      rcases List.mem_cons.1 h1 with e1 | h1 <;> rcases List.mem_cons.1 h2 with e2 | h2
      ·rw [← e1] at e2; exact (Prod.mk.inj e2).2.symm
      ·exact absurd (List.mem_map.2 ⟨_, h2, by rw [← e1]⟩) hn.1
      ·exact absurd (List.mem_map.2 ⟨_, h1, by rw [← e2]⟩) hn.1
      ·exact ih hn.2 h1 h2
   rw [hp this ha hb]
end Go.Proofs

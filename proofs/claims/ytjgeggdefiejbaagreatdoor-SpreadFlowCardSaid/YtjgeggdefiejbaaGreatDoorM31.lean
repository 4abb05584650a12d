/-
  What functions of the program compute, stated as contracts over plain data; the conditions of each stand in its own statement.
-/
import Derived.Test.YtjgeggdefiejbaaGreatDoorM30
set_option linter.unusedSimpArgs false
set_option linter.unusedVariables false
namespace Go.Proofs
structure RunI (l : List Tb) (Q : List (Int × Pk)) (t : Trc) : Prop where
 fit : ∀ q ∈ Q, FitL l q.2 ∧ (findT l q.1 = none → q.2.bits ≠ 0#64)
 dl : ∀ d ∈ t.dl, ∃ k < 64, d.2.bits = 1#64 <<< k
 ls : ∀ x ∈ t.ls, x.2 ≠ 0#64
 cr : ∀ c ∈ t.cr, c.2.2 ≠ 0#64
theorem RunI.step {l : List Tb} {q : Int × Pk} {Q : List (Int × Pk)} {t : Trc} (h : RunI l (q :: Q) t) : RunI l (Q ++ nextQ l q) (stepT l q t) := by
 have hq := h.fit q (by simp)
 have hQ : ∀ c ∈ Q, FitL l c.2 ∧ (findT l c.1 = none → c.2.bits ≠ 0#64) := fun c hc => h.fit c (by simp [hc])
 cases hf : findT l q.1 with
 | none =>
   have hn : nextQ l q = [] := by simp [nextQ, hf]
   rw [hn, List.append_nil]
   refine ⟨hQ, ?_, ?_, ?_⟩ <;> simp only [stepT, hf]
   ·exact h.dl
   ·intro x hx
    rcases List.mem_append.1 hx with hx | hx
    ·exact h.ls x hx
    ·simp at hx; subst hx; exact hq.2 hf
   ·exact h.cr
 | some b =>
   have hb := hq.1.all b (findT_mem hf).1
   obtain ⟨h1, h2⟩ := fwd_spec hb
   have hn : nextQ l q = (fwdV b q.2).cps := by simp [nextQ, hf, h1]
   obtain ⟨H, h3, h4, h5⟩ := h2.cps
   have hc : ∀ c ∈ (fwdV b q.2).cps, c.2.bits ≠ 0#64 := fun c hc => by
    rw [h3] at hc
    simp only [out0, List.nil_append, List.mem_map] at hc
    obtain ⟨x, hx, rfl⟩ := hc
    obtain ⟨_, a1, a2, k, hk, a3, a4⟩ := (h5 x).1 hx
    have hr := (hopAt_at hb.ck (k := k) (p := q.2) (by rw [a4]; exact a1)).2
    rw [a4] at hr
    have := (cpk_bit hb hk hr).2 ⟨a3, a4⟩
    intro e
    simp only at e
    rw [e] at this; simp at this
   refine ⟨fun c hm => ?_, ?_, ?_, ?_⟩
   ·rcases List.mem_append.1 hm with hm | hm
    ·exact hQ c hm
    ·exact ⟨next_fit hq.1 c hm, fun _ => hc c (by rw [← hn]; exact hm)⟩
   ·simp only [stepT, hf, h1]
    intro d hd
    rcases List.mem_append.1 hd with hd | hd
    ·exact h.dl d hd
    ·simp only [locV, bitsI, List.map_map, List.mem_map] at hd
     obtain ⟨k, hk, rfl⟩ := hd
     obtain ⟨k1, k2⟩ := mem_bitsL.1 hk
     have hpb : q.2.bits.getLsbD k = true := by
      rcases (h2.loc k k1).1 k2 with a | a
      ·simp [out0] at a
      ·exact a.1
     refine ⟨k, k1, ?_⟩
     show (onlyR q.2 (Int.ofNat k)).bits = _
     have := onlyR_eq hq.1.ok k1 hpb
     rw [Int.ofNat_eq_natCast, this]
   ·simp only [stepT, hf, h1]
    intro x hx
    split at hx
    ·exact h.ls x hx
    ·rename_i hne
     rcases List.mem_append.1 hx with hx | hx
     ·exact h.ls x hx
     ·simp at hx; subst hx; exact hne
   ·simp only [stepT, hf, h1]
    intro c hm
    rcases List.mem_append.1 hm with hm | hm
    ·exact h.cr c hm
    ·obtain ⟨x, hx, rfl⟩ := List.mem_map.1 hm
     exact hc x hx
end Go.Proofs

set_option linter.unusedSimpArgs false
set_option linter.unusedVariables false
namespace Go.Proofs
end Go.Proofs

set_option linter.unusedSimpArgs false
set_option linter.unusedVariables false
namespace Go.Proofs
theorem pathG_dl {l : List Tb} {id pl r : Int} {ws : List Int} (h : Dl l id pl r ws) : ∀ (k : Nat) (pr : List Int), ws.length < k → (∀ x ∈ r :: ws, x ∉ pr) → pathG l id pl k pr r = ((pr ++ r :: ws).tail, 0) := by
 have hnd := h.nodup
 induction h with
 | @here r b h1 h2 h3 =>
   intro k pr hk hpr
   obtain ⟨k, rfl⟩ : ∃ j, k = j + 1 := ⟨k - 1, by simp at hk; omega⟩
   rw [pathG, if_neg (hpr r (by simp))]
   simp only [h1, h2, if_neg h3, if_true]
 | @next r h b ws h1 h2 h3 h4 h5 ih =>
   intro k pr hk hpr
   simp only [List.length_cons] at hk
   obtain ⟨k, rfl⟩ : ∃ j, k = j + 1 := ⟨k - 1, by omega⟩
   rw [pathG, if_neg (hpr r (by simp))]
   simp only [h1, h2, if_neg h3, if_neg h4]
   have hn := (List.nodup_cons.1 hnd)
   have := ih hn.2 k (pr ++ [r]) (by omega) (fun x hx hm => by
    rcases List.mem_append.1 hm with hm | hm
    ·exact hpr x (List.mem_cons_of_mem _ hx) hm
    ·simp at hm; subst hm; exact hn.1 hx)
   rw [this]; simp
theorem path_of_dl {l : List Tb} {id pl r : Int} {ws : List Int} (hA : chkA l = 0) (hp : 0 ≤ pl ∧ pl ≤ 7) (h : Dl l id pl r ws) : pathV l r id pl = (ws, 0) := by
 have := h.len
 rw [pathV, if_neg (by simp [hA]), if_neg (by simp [hp.1, hp.2]), pathG_dl h _ [] (by omega) (by simp)]
 simp
theorem dl_of_pathG {l : List Tb} {id pl : Int} : ∀ (k : Nat) (pr : List Int) (r : Int), (pathG l id pl k pr r).2 = 0 → r ≠ 0 → ∃ ws, Dl l id pl r ws ∧ pathG l id pl k pr r = ((pr ++ r :: ws).tail, 0)
 | 0, pr, r, h, _ => by simp [pathG] at h
 | k + 1, pr, r, h, h0 => by
   rw [pathG] at h ⊢
   by_cases hm : r ∈ pr
   ·rw [if_pos hm] at h; simp at h
   rw [if_neg hm] at h ⊢
   cases hf : findT l r with
   | none => simp [hf] at h
   | some b =>
     simp only [hf] at h ⊢
     by_cases c0 : hopB b id pl = 0
     ·rw [if_pos c0] at h; simp at h
     rw [if_neg c0] at h ⊢
     by_cases c1 : hopB b id pl = r
     ·rw [if_pos c1]
      exact ⟨[], .here hf c1 h0, rfl⟩
     rw [if_neg c1] at h ⊢
     obtain ⟨ws, h1, h2⟩ := dl_of_pathG k (pr ++ [r]) _ h c0
     exact ⟨_ :: ws, .next hf rfl c0 c1 h1, by rw [h2]; simp⟩
theorem dl_of_path {l : List Tb} {id pl r : Int} (h : (pathV l r id pl).2 = 0) (h0 : r ≠ 0) : ∃ ws, Dl l id pl r ws ∧ pathV l r id pl = (ws, 0) := by
 unfold pathV at h ⊢
 split
 ·rename_i a; rw [if_pos a] at h; simp at h
 ·rename_i a
  rw [if_neg a] at h
  split
  ·rename_i b; rw [if_pos b] at h; simp at h
  ·rename_i b
   rw [if_neg b] at h
   obtain ⟨ws, h1, h2⟩ := dl_of_pathG _ _ _ h h0
   exact ⟨ws, h1, by rw [h2]; simp⟩
def costW (g : Topo) : Int → List Int → Option Int
 | _, [] => some 0
 | r, h :: ws => match price g.ls r h, costW g h ws with
   | some c, some v => some (c + v)
   | _, _ => none
def AllCap (g : Topo) : Prop := ∀ x ∈ g.rs, x.cap = true
theorem AllCap.cap {g : Topo} (hg : g.Ok) (h : AllCap g) {r : Int} (hr : hasR g.rs r = true) : capR g.rs r = true := by
 obtain ⟨x, hx, rfl⟩ := List.mem_map.1 (hasR_mem.1 hr)
 exact (capR_iff hg).2 ⟨x, hx, rfl, h x hx⟩
theorem HopR.direct {g : Topo} (hg : g.Ok) (hA : AllCap g) {t r n : Int} (h : HopR g t r n) : n ∈ steps g (dist g t) r := by
 obtain ⟨x, hx, hn, _⟩ := h
 have : x = r := by
  induction hx with
  | nil => rfl
  | via _ hy hc _ =>
    rw [hA.cap hg (steps_has hy)] at hc; simp at hc
 rw [← this]; exact hn
theorem dl_cost {g : Topo} (hg : chkT g = 0) (hA : AllCap g) {p : Pn} (hp : planB p = true) {id pl r : Int} {ws : List Int} (h : Dl (tabs g p g.rs) id pl r ws) :
  ∃ e ∈ p.es, e.id = id ∧ lastR r ws = e.r ∧ costW g r ws = some (dst g e.r r) := by
 have hO := chkT_zero hg
 obtain ⟨e, he, rfl, hl, hc, hr, hd⟩ := dl_wrong hg hp h
 refine ⟨e, he, rfl, hl, ?_⟩
 clear hd hr
 induction h with
 | @here r b h1 h2 h3 =>
   simp only [lastR] at hl
   rw [hl, costW, dst_self hO (cap_has hO hc)]
 | @next r h b ws h1 h2 h3 h4 h5 ih =>
   have ih := ih (by simpa [lastR] using hl)
   rw [tabs_find hO] at h1
   split at h1
   ·rename_i hr
    simp only [Option.some.injEq] at h1; subst h1
    have hrh := cap_has hO hr
    rcases build_hop hg hp he hrh pl with ⟨a1, a2⟩ | ⟨a1, a2, a3, a4⟩ | ⟨a1, a2, a3⟩
    ·exact absurd (h2.symm.trans a2) h4
    ·rw [h2] at a4
     obtain ⟨_, _, _, c, b1, b2⟩ := (mem_steps hO).1 (a4.direct hO hA)
     rw [costW, b1, ih]
     simp only [b2]
    ·omega
   ·simp at h1
end Go.Proofs

set_option linter.unusedSimpArgs false
set_option linter.unusedVariables false
namespace Go.Proofs
theorem costW_walk {g : Topo} {r : Int} {ws : List Int} {v : Int} (h : costW g r ws = some v) : Wk g (lastR r ws) ws.length r v := by
 induction ws generalizing r v with
 | nil => simp [costW] at h; subst h; exact .nil
 | cons w ws ih =>
   rw [costW] at h
   cases hp : price g.ls r w with
   | none => simp [hp] at h
   | some c =>
     cases hc : costW g w ws with
     | none => simp [hp, hc] at h
     | some u =>
       simp only [hp, hc, Option.some.injEq] at h
       subst h
       exact .cons hp (ih hc)
end Go.Proofs

set_option linter.unusedSimpArgs false
set_option maxRecDepth 100000
set_option maxHeartbeats 2000000
namespace Go.Proofs
open Go Go.Tr
structure PlanV (rs : List Rt) (p : Pn) : Prop where
 subd : 0 ≤ p.subd ∧ p.subd ≤ 7
 len : validLen p.len = true
 n : p.es.length ≤ 24
 rt : ∀ e ∈ p.es, 1 ≤ e.r ∧ e.r ≤ 99
 ids : ∀ e ∈ p.es, 1 ≤ e.id ∧ e.id ≤ 256
 asc : p.es.Pairwise fun a b => a.id < b.id
 nod : (p.es.map (·.r)).Nodup
theorem planB_of {rs : List Rt} {p : Pn} (h : PlanV rs p) : planB p = true := by
 have gi : ∀ i (hi : i < p.es.length), gid p.es i = p.es[i].id ∧ grt p.es i = p.es[i].r := fun i hi => by simp [gid, grt, List.getD, hi]
 refine planB_ok (by simp [baseB, inB, h.subd, h.len, h.n]) (fun i hi => ?_) (fun i j hj hi => ?_)
 ·have h1 := h.ids p.es[i] (List.getElem_mem hi)
  have h2 := h.rt p.es[i] (List.getElem_mem hi)
  have h3 := gi i hi
  by_cases h0 : i = 0
  ·simp [edB, inB, h3, h1, h2, h0]
   subst h0
   simp [h3, h1, h2]
  ·have h4 := gi (i - 1) (by omega)
   have h5 := List.pairwise_iff_getElem.1 h.asc (i - 1) i (by omega) hi (by omega)
   simp [edB, inB, h3, h1, h2, h0, h4, h5]
 ·rw [(gi i hi).2, (gi j (by omega)).2]
  have := List.pairwise_iff_getElem.1 h.nod j i (by simp; omega) (by simpa using hi) hj
  simp only [List.getElem_map] at this
  exact fun e => this e.symm
theorem gOrderL_nodup : ∀ (n i : Nat) (T : Tp) (l : List Int), l.Nodup → (∀ x ∈ l, x < (i : Int)) → (gOrderL n i T l).1.Nodup
 | 0, _, _, _, h, _ => h
 | n + 1, i, T, l, h, hb => by
   rw [gOrderL]
   generalize (gNext T (i + 1)).1.toNat = k
   have hs : (l.take k ++ l.drop k).Nodup := by rw [List.take_append_drop]; exact h
   have hi : (i : Int) ∉ l := fun hm => by have := hb _ hm; omega
   refine gOrderL_nodup n (i + 1) _ _ ?_ fun x hx => ?_
   ·rw [List.nodup_append] at hs ⊢
    obtain ⟨h1, h2, h3⟩ := hs
    refine ⟨?_, h2, fun a ha b hb' => ?_⟩
    ·rw [List.nodup_append]
     refine ⟨h1, by simp, fun a ha b hb' => ?_⟩
     simp at hb'; subst hb'
     intro e; subst e
     exact hi (List.mem_of_mem_take ha)
    ·rcases List.mem_append.1 ha with ha | ha
     ·exact h3 a ha b hb'
     ·simp at ha; subst ha
      intro e; subst e
      exact hi (List.mem_of_mem_drop hb')
   ·simp only [List.mem_append, List.mem_singleton] at hx
    rcases hx with (hx | hx) | hx
    ·have := hb x (List.mem_of_mem_take hx); omega
    ·omega
    ·have := hb x (List.mem_of_mem_drop hx); omega
theorem gRts_get (k : Nat) {i : Nat} (h : i < k) (d : Rt) : ((gRts k).getD i d).id = (i : Int) + 1 := by
 simp [gRts, List.getD, h]
structure PlI (k : Nat) (o : List Int) (id : Int) (l : List Ed) : Prop where
 pos : 0 ≤ id
 rt : ∀ e ∈ l, 1 ≤ e.r ∧ e.r ≤ k ∧ e.r - 1 ∉ o
 ids : ∀ e ∈ l, 1 ≤ e.id ∧ e.id ≤ 256 ∧ e.id ≤ id
 asc : l.Pairwise fun a b => a.id < b.id
 nod : (l.map (·.r)).Nodup
theorem plI_loop (k : Nat) (len : Int) (hl : 8 ≤ len) : ∀ (o : List Int) (T : Tp) (id : Int) (l : List Ed), o.Nodup → (∀ x ∈ o, 0 ≤ x ∧ x < (k : Int)) → PlI k o id l →
  PlI k [] (gPlanL (gRts k) len o T id l).2.1 (gPlanL (gRts k) len o T id l).1
 | [], T, id, l, _, _, h => h
 | x :: o, T, id, l, hn, hb, h => by
   rw [List.nodup_cons] at hn
   rw [gPlanL]
   have hbx := hb x (by simp)
   refine plI_loop k len hl o _ _ _ hn.2 (fun y hy => hb y (by simp [hy])) ?_
   unfold gPlanS
   simp only
   have h0 : PlI k o id l := ⟨h.pos, fun e he => by have := h.rt e he; simp at this; exact ⟨this.1, this.2.1, this.2.2.2⟩, h.ids, h.asc, h.nod⟩
   split
   ·exact h0
   ·have bp : 1 ≤ (gPick (gNext T 4).2 [1, 1, 1, 2, len - 1]).1 := gPick_all (p := fun x => 1 ≤ x) (by simp) (by simp; omega)
    simp only
    generalize gPick (gNext T 4).2 [1, 1, 1, 2, len - 1] = p at bp ⊢
    split
    ·rename_i hid
     have hr : ((gRts k).getD x.toNat ⟨0, false⟩).id = x + 1 := by rw [gRts_get k (by omega)]; omega
     rw [hr]
     refine ⟨by have := h.pos; first | omega | (simp only; omega), fun e he => ?_, fun e he => ?_, ?_, ?_⟩
     ·simp only [List.mem_append, List.mem_singleton] at he
      rcases he with he | rfl
      ·exact h0.rt e he
      ·refine ⟨by first | omega | (simp only; omega), by first | omega | (simp only; omega), ?_⟩
       rw [show (x + 1 - 1 : Int) = x by omega]
       exact hn.1
     ·simp only [List.mem_append, List.mem_singleton] at he
      rcases he with he | rfl
      ·have := h.ids e he; first | omega | (simp only; omega)
      ·have := h.pos; first | omega | (simp only; omega)
     ·rw [List.pairwise_append]
      refine ⟨h.asc, by simp, fun a ha b hb' => ?_⟩
      simp at hb'; subst hb'
      have := h.ids a ha
      first | omega | (simp only; omega)
     ·rw [List.map_append, List.nodup_append]
      refine ⟨h.nod, by simp, fun a ha b hb' => ?_⟩
      simp at hb'; subst hb'
      obtain ⟨e, he, rfl⟩ := List.mem_map.1 ha
      have := (h.rt e he).2.2
      intro e1
      apply this
      rw [e1]
      simp
    ·exact ⟨by have := h.pos; first | omega | (simp only; omega), h0.rt, fun e he => by have := h.ids e he; first | omega | (simp only; omega), h.asc, h.nod⟩
theorem gPlan0_valid (T : Tp) {k : Nat} (hk : k ≤ 24) : PlanV (gRts k) (gPlan0 T (gRts k)).1 := by
 have hl : ((8 : Int) ≤ (gPick (gNext T 3).2 [8, 8, 16, 32, 64]).1) ∧ validLen (gPick (gNext T 3).2 [8, 8, 16, 32, 64]).1 = true := gPick_all (p := fun x => (8 : Int) ≤ x ∧ validLen x = true) (by simp) (by simp; decide)
 have h1 := gNext_nonneg T 3
 have h2 := gNext_lt T (n := 3) (by omega)
 have hln := gPlan0_len T (gRts k)
 rw [gRts_len] at hln
 have hord := gOrder_mem (gPick (gNext T 3).2 [8, 8, 16, 32, 64]).2 k
 have hnd : (gOrder (gPick (gNext T 3).2 [8, 8, 16, 32, 64]).2 k).1.Nodup := gOrderL_nodup _ _ _ _ (by simp) (by simp)
 have hI := plI_loop k _ hl.1 _ (gOrder (gPick (gNext T 3).2 [8, 8, 16, 32, 64]).2 k).2 0 [] hnd hord ⟨by omega, by simp, by simp, by simp, by simp⟩
 refine ⟨by simp only [gPlan0]; omega, hl.2, by omega, fun e he => ?_, fun e he => ?_, ?_, ?_⟩
 ·have he' : e ∈ (gPlanL (gRts k) (gPick (gNext T 3).2 [8, 8, 16, 32, 64]).1 (gOrder (gPick (gNext T 3).2 [8, 8, 16, 32, 64]).2 k).1 (gOrder (gPick (gNext T 3).2 [8, 8, 16, 32, 64]).2 k).2 0 []).1 := by simpa [gPlan0] using he
  have := hI.rt e he'
  omega
 ·have he' : e ∈ (gPlanL (gRts k) (gPick (gNext T 3).2 [8, 8, 16, 32, 64]).1 (gOrder (gPick (gNext T 3).2 [8, 8, 16, 32, 64]).2 k).1 (gOrder (gPick (gNext T 3).2 [8, 8, 16, 32, 64]).2 k).2 0 []).1 := by simpa [gPlan0] using he
  have := hI.ids e he'
  omega
 ·simpa [gPlan0] using hI.asc
 ·simpa [gPlan0] using hI.nod
end Go.Proofs

set_option linter.unusedSimpArgs false
set_option linter.unusedVariables false
set_option maxRecDepth 100000
namespace Go.Proofs
open Go Go.Tr
theorem gPlan_zero_eq (T : Tp) (rs : List Rt) : gPlan T rs 0 = ((gPlan0 T rs).1, (gPlan0 T rs).2.2) := by
 simp [gPlan]
structure DomV (most : Int) (g : Topo) (p : Pn) (l : List Tb) : Prop where
 top : TopV most g
 plan : planB p = true
 len : validLen p.len = true
 subd : 0 ≤ p.subd ∧ p.subd ≤ 7
 tab : l = tabs g p g.rs
theorem gPlanS_ids {rs rs' : List Rt} (h : rs.map (·.id) = rs'.map (·.id)) (len x : Int) (T : Tp) (id : Int) (l : List Ed) : gPlanS rs len x T id l = gPlanS rs' len x T id l := by
 have e : ∀ i : Nat, (rs.getD i ⟨0, false⟩).id = (rs'.getD i ⟨0, false⟩).id := fun i => by
  have := congrArg (fun l => l[i]?) h
  simp only [List.getElem?_map] at this
  rw [List.getD_eq_getElem?_getD, List.getD_eq_getElem?_getD]
  cases h1 : rs[i]? with
  | none =>
    rw [h1] at this
    cases h2 : rs'[i]? with
    | none => rfl
    | some y => rw [h2] at this; simp at this
  | some x =>
    rw [h1] at this
    cases h2 : rs'[i]? with
    | none => rw [h2] at this; simp at this
    | some y => rw [h2] at this; simpa using this
 unfold gPlanS
 simp only [e]
theorem gPlanL_ids {rs rs' : List Rt} (h : rs.map (·.id) = rs'.map (·.id)) (len : Int) : ∀ (o : List Int) (T : Tp) (id : Int) (l : List Ed), gPlanL rs len o T id l = gPlanL rs' len o T id l
 | [], _, _, _ => rfl
 | x :: o, T, id, l => by
   rw [gPlanL, gPlanL, gPlanS_ids h, gPlanL_ids h]
theorem gPlan0_ids {rs rs' : List Rt} (h : rs.map (·.id) = rs'.map (·.id)) (T : Tp) : gPlan0 T rs = gPlan0 T rs' := by
 have hl : rs.length = rs'.length := by have := congrArg List.length h; simpa using this
 unfold gPlan0
 simp only [hl, gPlanL_ids h]
theorem plan_valid {most : Int} {g : Topo} (h : TopV most g) (hm : most ≤ 24) (T : Tp) : PlanV (gRts g.rs.length) (gPlan T g.rs 0).1 := by
 rw [gPlan_zero_eq]
 show PlanV _ (gPlan0 T g.rs).1
 rw [gPlan0_ids h.ids]
 exact gPlan0_valid T (by have := h.n; omega)
theorem all11_eq {g : Topo} (hg : chkT g = 0) {p : Pn} (hp : planB p = true) : all11 g p = (tabs g p g.rs, 0) := by
 unfold all11
 rw [if_pos ⟨hg, hp⟩]
theorem gDom_valid (T : Tp) {most : Int} (hm : 1 ≤ most ∧ most ≤ 8) : DomV most (gDom T most).1 (gDom T most).2.1 (gDom T most).2.2.1 ∧ AllCap (gDom T most).1 := by
 have h := gTop_valid T hm
 have hp := plan_valid h (by omega) (gTop T most).2
 refine ⟨⟨h, planB_of hp, hp.len, hp.subd, ?_⟩, fun x hx => ?_⟩
 ·show (all11 _ _).1 = _
  rw [all11_eq h.ok (planB_of hp)]; rfl
 ·have hx : x ∈ gRts (gRange T 1 most).1.toNat := hx
  exact (gRts_mem.1 hx).1
theorem tabs_sd {g : Topo} {p : Pn} : ∀ b ∈ tabs g p g.rs, b.sd = p.subd ∧ b.len = p.len := fun b hb => by
 obtain ⟨x, _, _, rfl⟩ := tabs_mem hb
 exact ⟨rfl, rfl⟩
theorem tabs_chk {g : Topo} (hg : chkT g = 0) {p : Pn} (hp : planB p = true) : ∀ b ∈ tabs g p g.rs, chk b = 0 := fun b hb => by
 obtain ⟨x, hx, _, rfl⟩ := tabs_mem hb
 exact buildT_ok hg hp (hasR_mem.2 (List.mem_map_of_mem hx))
theorem tabs_asc {g : Topo} (hg : g.Ok) (p : Pn) : (tabs g p g.rs).Pairwise fun x y => x.r < y.r := by
 unfold tabs
 rw [List.pairwise_map]
 exact (hg.rpw.sublist List.filter_sublist).imp fun h => h
theorem chkA_of {l : List Tb} (h1 : l.length ≤ 24) (h2 : ∀ b ∈ l, chk b = 0) (h3 : l.Pairwise fun x y => x.r < y.r) (h4 : ∀ b ∈ l, ∀ c ∈ l, b.sd = c.sd ∧ b.len = c.len) : chkA l = 0 := by
 have a1 : decide (24 < l.length) = false := by simp; omega
 have a2 : (l.any fun b => decide (chk b ≠ 0)) = false := by
  rw [List.any_eq_false]; intro b hb; simp [h2 b hb]
 have a3 : adjB (fun x y : Tb => decide (y.r ≤ x.r)) l = false := pw_adj (r := fun x y => x.r < y.r) (fun x y h => by simpa using h) h3
 have a4 : (l.any fun b => decide (b.sd ≠ (l.headD tb0).sd) || decide (b.len ≠ (l.headD tb0).len)) = false := by
  rw [List.any_eq_false]
  intro b hb
  have : l.headD tb0 ∈ l := by
   cases l with
   | nil => simp at hb
   | cons a l => simp
  have := h4 b hb _ this
  simp [this.1, this.2]
 simp only [chkA, firstE, a1, a2, a3, a4, cond_false]
theorem tabs_all {g : Topo} (hg : chkT g = 0) {p : Pn} (hp : planB p = true) : chkA (tabs g p g.rs) = 0 :=
 chkA_of (Nat.le_trans (tabs_len g p) (chkT_zero hg).nr) (tabs_chk hg hp) (tabs_asc (chkT_zero hg) p) fun b hb c hc => by
  have h1 := tabs_sd b hb
  have h2 := tabs_sd c hc
  exact ⟨h1.1.trans h2.1.symm, h1.2.trans h2.2.symm⟩
structure TabV (p : Pn) (rs : List Int) (l : List Tb) : Prop where
 all : chkA l = 0
 ck : ∀ b ∈ l, chk b = 0
 sd : ∀ b ∈ l, b.sd = p.subd ∧ b.len = p.len
 rs : ∀ r, (findT l r).isSome ↔ r ∈ rs
 n : l.length ≤ 24
theorem gPk0_parts (T : Tp) : ∃ (L m d s t e i p y : Int) (B : BitVec 64) (w : List Int) (T' : Tp), gPk0 T = (⟨m, d, s, L, t, e, i, p, B, strOf w⟩, T') ∧ (1 ≤ m ∧ m ≤ 3) ∧ (0 ≤ t ∧ t ≤ 63) ∧ (0 ≤ e ∧ e ≤ 1023) ∧ (0 ≤ i ∧ i ≤ 256) ∧ (0 ≤ p ∧ p ≤ 7) ∧ (strOf w).size ≤ 6 ∧ TapeOK T' = TapeOK T := by
 unfold gPk0
 dsimp only
 refine ⟨_, _, _, _, _, _, _, _, 0, _, _, _, rfl, ⟨gRange_lo _ _ _, gRange_hi _ (by omega)⟩, gPick_all (p := fun x => 0 ≤ x ∧ x ≤ 63) (by simp) (by simp), ⟨gNext_nonneg _ _, ?_⟩, gPick_all (p := fun x => 0 ≤ x ∧ x ≤ 256) (by simp) (by simp), ⟨gNext_nonneg _ _, ?_⟩, ?_, by simp⟩
 ·have := gNext_lt (gPick (gPick (gRange (gRange (gPick T [8, 8, 16, 32, 64]).2 1 3).2 0 7).2 [0, 0, 1, 2, 31]).2 [0, 1, 2, 5, 63]).2 (n := 1024) (by omega)
  omega
 ·exact Int.le_of_lt_add_one (gNext_lt _ (n := 8) (by omega))
 ·exact gText_size _ (by omega)
end Go.Proofs

set_option linter.unusedSimpArgs false
set_option maxRecDepth 100000
set_option maxHeartbeats 4000000
namespace Go.Proofs
open Go Go.Tr
theorem all11O_c (g : Topo) (hg : g.Sm) (hc : chkT g = 0) (p : Pn) (a1 : planB p = true) (hp : p.es.length ≤ 1000) : Contract Tryz.prog 22 [topT g, planT p] [] (.tup [.oref 6 (tabs g p g.rs).length, .d (.int .i64 0)]) [] [(6, .row 37 4 (dd (tbs (tabs g p g.rs))) false)] := by
 have hr := hg.r
 refine contract_of Tryz.func22 rfl (fun E0 => ?_)
 refine awp.sound (g := .mk) (ow := []) (kp := (fun k => k==0||k==1||k==2||k==3||k==4||k==5||k==6||k==7||k==15||k==20||k==28)) ?_
 rw [Tryz.ntmps22]
 simp -dsimp [topT, planT]
 refine ACall.of (check05_c g hg.r hg.l) [] 0 ?_
 simp -dsimp [eq_true hc, topT]
 refine ACall.of (validPlan10_c p hp) [] 0 ?_
 have hn : g.rs.length ≤ 24 := (chkT_zero hc).nr
 simp -dsimp [eq_true hc, a1, planT]
 and_intros
 all_goals try first | rfl | omega | exact ⟨by kernel_rfl⟩
 refine ALoop.of [] (fun k => k==0||k==1||k==2||k==3||k==4||k==5||k==6||k==7||k==15||k==20||k==28) (ι := { i : Nat // i ≤ g.rs.length ∧ True }) (fun z => [(Pl.s 0, It.v (TV.agg [TV.d (D.sl (rts g.rs)), TV.d (D.sl (lks g.ls))])), (Pl.s 1, It.v (TV.agg [TV.d (D.int IntKind.i64 p.subd), TV.d (D.int IntKind.i64 p.len), TV.d (D.sl (eds p.es))])), (Pl.o 2, It.box [TV.d (D.sl (rts g.rs)), TV.d (D.sl (lks g.ls))]), (Pl.s 2, It.v (TV.ptr (Pl.o 2) 0)), (Pl.o 3, It.box [TV.d (D.int IntKind.i64 p.subd), TV.d (D.int IntKind.i64 p.len), TV.d (D.sl (eds p.es))]), (Pl.s 3, It.v (TV.ptr (Pl.o 3) 0)), (Pl.s 4, It.v (TV.c (Value.slice none 0 0))), (Pl.s 5, It.v (TV.d (D.int IntKind.i64 0))), (Pl.s 6, It.v (TV.oref 6 (tabD g p (g.rs.take z.1)).length)), (Pl.o 6, It.row 37 4 (dd (tabD g p (g.rs.take z.1))) false), (Pl.s 7, It.v (TV.d (D.int IntKind.i64 z.1)))]) (fun z => g.rs.length - z.1) ⟨0, by omega, trivial⟩ ?_ ?_
 ·exact GS.own' (k := 6) 37 4 (by simp) (by simp) (by simp [tabD, tabs])
 rintro ⟨i, i1, i2⟩
 by_cases hi : i < g.rs.length
 ·have hiz : (i : Int) < g.rs.length := by omega
  have hx : g.rs[i]? = some g.rs[i] := List.getElem?_eq_getElem hi
  have ht : g.rs.take (i + 1) = g.rs.take i ++ [g.rs[i]] := by rw [List.take_add_one, List.getElem?_eq_getElem hi]; rfl
  generalize g.rs[i] = x at hx ht
  have hx' := rts_get hx
  have hta := tabD_app g p (g.rs.take i) x
  have htl := tabD_len g p (g.rs.take i)
  rw [← ht] at hta
  simp at htl
  rcases (Bool.eq_false_or_eq_true x.cap).symm with c1 | c1
  ·rw [if_neg (by simp [c1])] at hta
   simp -dsimp [hiz, hx', Rt.cs, c1, wrap_i64 (n := (i : Int) + 1) (by omega) (by omega)]
   and_intros
   all_goals try first | rfl | omega | exact ⟨by kernel_rfl⟩
   exact ⟨⟨i + 1, by omega, trivial⟩, GS.to (by simp [hta]), by simp; omega⟩
  ·rw [if_pos c1] at hta
   simp -dsimp [hiz, hx', Rt.cs, c1]
   refine ACall.of (build11_c g hg p (by omega) x.id) [] 0 ?_
   simp -dsimp [hiz, hx', Rt.cs, c1, topT, planT, tblT, rwsD, wrap_i64 (n := (i : Int) + 1) (by omega) (by omega)]
   and_intros
   all_goals try first | rfl | omega | exact ⟨by kernel_rfl⟩
   exact ⟨⟨i + 1, by omega, trivial⟩, GS.to (by simp [hta, Tb.cs, rwsD]), by simp; omega⟩
 ·have hiz : ¬ (i : Int) < g.rs.length := by omega
  obtain rfl : i = g.rs.length := by omega
  simp -dsimp [hiz]
  refine Fin.of ?_
  simp [tabD, tbs]
theorem wrongO_c (T : Tp) (hT : TapeOK T) (l : List Tb) (hl : SmL l) (n : Int) (hn : 1 ≤ n ∧ n ≤ 1000) : Contract Tryz.prog 40 [.ptr (.x 0) 0, .d (.sl (tbs l)), .d (.int .i64 n)] [tapeI T] (.oref 7 (wrT n l T).1.length) [tapeI (wrT n l T).2] [(7, .row 37 4 (dd (tbs (wrT n l T).1)) false)] := by
 have hll := hl.n
 refine contract_of Tryz.func40 rfl (fun E0 => ?_)
 refine awp.sound (g := .mk) (ow := []) (kp := (fun k => k==0||k==1||k==2||k==6||k==7||k==8||k==9||k==10||k==11||k==12||k==16||k==28||k==33||k==35||k==44||k==70||k==79||k==86)) ?_
 rw [Tryz.ntmps40]
 simp -dsimp
 refine ALoop.of [] (fun k => k==0||k==1||k==2||k==6||k==7||k==8||k==9||k==10||k==11||k==12||k==16||k==28||k==33||k==35||k==44||k==70||k==79||k==86) (ι := { z : Nat × Tp × List Tb // z.1 ≤ l.length ∧ TapeOK z.2.1 ∧ z.2.2.length = z.1 ∧ wrT n l T = (z.2.2 ++ (wrT n (l.drop z.1) z.2.1).1, (wrT n (l.drop z.1) z.2.1).2) })
  (fun z => [(Pl.s 0, It.v (TV.ptr (Pl.x 0) 0)), (Pl.s 1, It.v (TV.d (D.sl (tbs l)))), (Pl.s 2, It.v (TV.d (D.int IntKind.i64 n))), (Pl.x 0, tapeI z.1.2.1), (Pl.s 6, It.v (TV.c (Value.slice none 0 0))),
   (Pl.s 7, It.v (TV.oref 7 z.1.2.2.length)), (Pl.o 7, It.row 37 4 (dd (tbs z.1.2.2)) false), (Pl.s 8, It.v (TV.d (D.int IntKind.i64 z.1.1)))]) (fun z => l.length - z.1.1) ⟨(0, T, []), by simp, hT, rfl, by simp⟩ ?_ ?_
 ·exact GS.own' (k := 7) 37 4 (by simp) (by simp) (by simp [tbs])
 rintro ⟨⟨i, T1, out⟩, i1, i2, i3, i4⟩
 simp only at i1 i2 i3 i4
 by_cases hi : i < l.length
 ·have hiz : (i : Int) < l.length := by omega
  have hx : l[i]? = some l[i] := List.getElem?_eq_getElem hi
  have hm := hl.t l[i] (List.getElem_mem hi)
  have hd : l.drop i = l[i] :: l.drop (i + 1) := List.drop_eq_getElem_cons hi
  generalize l[i] = b at hx hm hd
  have hx' := tbs_get hx
  simp -dsimp [hiz, hx']
  and_intros
  all_goals try first | rfl | omega | exact ⟨by kernel_rfl⟩
  refine ACall.of (copied_c b hm.rows hm.nx) [] 2000 ?_
  simp -dsimp [hiz, hx', tblT, rwsD_eq]
  have hrl := hm.rows
  refine ALoop.of [] (fun k => k==0||k==1||k==2||k==6||k==7||k==8||k==9||k==10||k==11||k==12||k==16||k==28||k==33||k==35||k==44||k==70||k==79||k==86) (ι := { z : Nat × Tp × List Rw // z.1 ≤ b.rows.length ∧ TapeOK z.2.1 ∧ z.2.2.length = b.rows.length ∧ wrRs b.r n b.rows T1 = (z.2.2.take z.1 ++ (wrRs b.r n (z.2.2.drop z.1) z.2.1).1, (wrRs b.r n (z.2.2.drop z.1) z.2.1).2) })
   (fun z => [(Pl.s 0, It.v (TV.ptr (Pl.x 0) 0)), (Pl.s 1, It.v (TV.d (D.sl (tbs l)))), (Pl.s 2, It.v (TV.d (D.int IntKind.i64 n))), (Pl.x 0, tapeI z.1.2.1), (Pl.s 6, It.v (TV.c (Value.slice none 0 0))),
    (Pl.s 7, It.v (TV.oref 7 out.length)), (Pl.o 7, It.row 37 4 (dd (tbs out)) false), (Pl.s 8, It.v (TV.d (D.int IntKind.i64 i))),
    (Pl.o 2003, It.row 95 2 (dd (rws z.1.2.2)) false), (Pl.o 9, It.box [TV.d (D.int IntKind.i64 b.r), TV.d (D.int IntKind.i64 b.sd), TV.d (D.int IntKind.i64 b.len), TV.oref 2003 b.rows.length]), (Pl.s 9, It.v (TV.ptr (Pl.o 9) 0)), (Pl.s 10, It.v (TV.d (D.int IntKind.i64 z.1.1)))]) (fun z => b.rows.length - z.1.1) ⟨(0, T1, b.rows), by simp, i2, rfl, by simp⟩ ?_ ?_
  ·exact GS.to (by simp)
  rintro ⟨⟨k, T2, L⟩, k1, k2, k3, k4⟩
  simp only at k1 k2 k3 k4
  have hrL : (rws L).length = b.rows.length := by simp [k3]
  by_cases hk : k < b.rows.length
  ·have hkz : (k : Int) < b.rows.length := by omega
   have hkL : k < L.length := by omega
   have hg : L[k]? = some L[k] := List.getElem?_eq_getElem hkL
   have hdL : L.drop k = L[k] :: L.drop (k + 1) := List.drop_eq_getElem_cons hkL
   generalize L[k] = x at hg hdL
   have hgr : (dd (rws L))[k]? = some [TV.d (.int .i64 x.id), TV.d (ints x.nx)] := by simp [dd, rws, hg, Rw.cs]
   have hgl : ((dd (rws L)).getD k []) = [TV.d (.int .i64 x.id), TV.d (ints x.nx)] := by rw [List.getD_eq_getElem?_getD, hgr]; rfl
   have hset : ∀ y : List Int, (dd (rws L)).set k [TV.d (.int .i64 x.id), TV.d (ints y)] = dd (rws (L.set k ⟨x.id, y⟩)) := fun y => by simp [dd, rws, List.map_set, Rw.cs]
   have hnext : ∀ (y : List Int) (T3 : Tp), wrR b.r n T2 x = (⟨x.id, y⟩, T3) → wrRs b.r n b.rows T1 = ((L.set k ⟨x.id, y⟩).take (k + 1) ++ (wrRs b.r n ((L.set k ⟨x.id, y⟩).drop (k + 1)) T3).1, (wrRs b.r n ((L.set k ⟨x.id, y⟩).drop (k + 1)) T3).2) := fun y T3 h => by
    have e1 : (L.set k ⟨x.id, y⟩).take (k + 1) = L.take k ++ [⟨x.id, y⟩] := by
     rw [List.take_add_one, List.getElem?_set_self hkL, List.take_set_of_le (Nat.le_refl _)]; rfl
    have e2 : (L.set k ⟨x.id, y⟩).drop (k + 1) = L.drop (k + 1) := List.drop_set_of_lt (by omega)
    rw [k4, hdL, wrRs, h, e1, e2]
    simp
   have hself : L.set k ⟨x.id, x.nx⟩ = L := by
    refine List.ext_getElem? fun m => ?_
    rw [List.getElem?_set]
    split
    ·rename_i e; subst e; exact hg.symm
    ·rfl
   unfold wrR at hnext
   simp -dsimp [hkz, hrL, k3]
   and_intros
   all_goals try first | rfl | omega | exact ⟨by kernel_rfl⟩
   refine ACall.of (one_c T2 k2 3 ⟨by omega, by omega⟩ ⟨by omega, by omega⟩) [.x 0] 0 ?_
   have kO : TapeOK (gOne T2 3).2 := by simpa using k2
   generalize gOne T2 3 = o at kO hnext ⊢
   simp only at hnext
   rcases (Bool.eq_false_or_eq_true o.1).symm with ho | ho
   ·have e := hnext x.nx o.2 (by rw [if_pos ho])
    rw [hself] at e
    simp -dsimp [hkz, ho, hrL, k3, wrap_i64 (n := (k : Int) + 1) (by omega) (by omega)]
    and_intros
    all_goals try first | rfl | omega | exact ⟨by kernel_rfl⟩
    exact ⟨⟨(k + 1, o.2, L), by dsimp only; omega, kO, k3, e⟩, GS.to (by simp), by simp; omega⟩
   have hof : ¬ o.1 = false := by simp [ho]
   simp -dsimp [hkz, ho, hrL, k3]
   refine ACall.of (next_c o.2 kO 4 ⟨by omega, by omega⟩) [.x 0] 0 ?_
   have n1 := gNext_nonneg o.2 4
   have n2 := gNext_lt o.2 (n := 4) (by omega)
   have kS : TapeOK (gNext o.2 4).2 := by simpa using kO
   generalize gNext o.2 4 = s at n1 n2 kS hnext ⊢
   by_cases s0 : s.1 = 0
   ·have e := hnext [] s.2 (by rw [if_neg hof, if_pos s0])
    have hnl : toDss ((dd (rws L)).set k [TV.d (.int .i64 x.id), TV.c (Value.slice none 0 0)]) = some (rws (L.set k ⟨x.id, []⟩)) := by
     rw [toDss_set (toDss_dd _) (x := [.int .i64 x.id, .sl []]) rfl]
     simp [rws, List.map_set, Rw.cs, ints]
    simp -dsimp [hkz, ho, eq_true s0, hgr, hgl, hrL, k3, wrap_i64 (n := (k : Int) + 1) (by omega) (by omega)]
    and_intros
    all_goals try first | rfl | omega | exact ⟨by kernel_rfl⟩
    exact ⟨⟨(k + 1, s.2, L.set k ⟨x.id, []⟩), by dsimp only; omega, kS, by simpa using k3, e⟩, GS.plain' 2003 (e := 95) (k := 2) (es := (dd (rws L)).set k [TV.d (.int .i64 x.id), TV.c (Value.slice none 0 0)]) (sh := false) (by simp) hnl (by simp), by simp; omega⟩
   by_cases s1 : s.1 = 1
   ·have e := hnext [b.r] s.2 (by rw [if_neg hof, if_neg s0, if_pos s1])
    have hs := hset [b.r]
    simp only [ints, List.map_nil, List.map_cons] at hs
    simp -dsimp [hkz, ho, eq_false s0, eq_true s1, hgr, hgl, hrL, k3, hs, wrap_i64 (n := (k : Int) + 1) (by omega) (by omega)]
    and_intros
    all_goals try first | rfl | omega | exact ⟨by kernel_rfl⟩
    exact ⟨⟨(k + 1, s.2, L.set k ⟨x.id, [b.r]⟩), by dsimp only; omega, kS, by simpa using k3, e⟩, GS.to (by simp), by simp; omega⟩
   simp -dsimp [hkz, ho, eq_false s0, eq_false s1, hrL, k3, wrap_i64 (n := n + 1) (by omega) (by omega)]
   refine ACall.of (next_c s.2 kS (n + 1) ⟨by omega, by omega⟩) [.x 0] 0 ?_
   have a1 := gNext_nonneg s.2 (n + 1)
   have a2 := gNext_lt s.2 (n := n + 1) (by omega)
   have kA : TapeOK (gNext s.2 (n + 1)).2 := by simpa using kS
   generalize gNext s.2 (n + 1) = a at a1 a2 kA hnext ⊢
   have b1 := gNext_nonneg a.2 n
   have b2 := gNext_lt a.2 (n := n) (by omega)
   have kM : TapeOK (gNext a.2 n).2 := by simpa using kA
   have hnc := next_c a.2 kA n ⟨by omega, by omega⟩
   generalize gNext a.2 n = m at b1 b2 kM hnc hnext
   have hset2 : ∀ y z : List Int, (dd (rws (L.set k ⟨x.id, y⟩))).set k [TV.d (.int .i64 x.id), TV.d (ints z)] = dd (rws (L.set k ⟨x.id, z⟩)) := fun y z => by simp [dd, rws, List.map_set, Rw.cs]
   have hgr2 : ∀ y : List Int, (dd (rws (L.set k ⟨x.id, y⟩)))[k]? = some [TV.d (.int .i64 x.id), TV.d (ints y)] := fun y => by simp [dd, rws, List.getElem?_set, hkL, Rw.cs]
   have hgl2 : ∀ y : List Int, ((dd (rws (L.set k ⟨x.id, y⟩))).getD k []) = [TV.d (.int .i64 x.id), TV.d (ints y)] := fun y => by rw [List.getD_eq_getElem?_getD, hgr2]; rfl
   have hrL2 : ∀ y : List Int, (rws (L.set k ⟨x.id, y⟩)).length = b.rows.length := fun y => by simp [k3]
   by_cases v1 : 1 + a.1 = b.r
   ·have e := hnext x.nx m.2 (by rw [if_neg hof, if_neg s0, if_neg s1, if_neg (by omega), if_neg (by omega)])
    rw [hself] at e
    by_cases v2 : a.1 < m.1
    ·simp -dsimp [hkz, ho, eq_false s0, eq_false s1, eq_true v1, hrL, k3, wrap_i64 (n := n + 1) (by omega) (by omega), wrap_i64 (n := 1 + a.1) (by omega) (by omega), wrap_i64 (n := 1 + m.1) (by omega) (by omega), wrap_i64 (n := (k : Int) + 1) (by omega) (by omega)]
     refine ACall.of hnc [.x 0] 0 ?_
     simp -dsimp [hkz, ho, eq_false s0, eq_false s1, eq_true v1, v2, hrL, k3, wrap_i64 (n := n + 1) (by omega) (by omega), wrap_i64 (n := 1 + a.1) (by omega) (by omega), wrap_i64 (n := 1 + m.1) (by omega) (by omega), wrap_i64 (n := (k : Int) + 1) (by omega) (by omega)]
     and_intros
     all_goals try first | rfl | omega | exact ⟨by kernel_rfl⟩
     exact ⟨⟨(k + 1, m.2, L), by dsimp only; omega, kM, k3, e⟩, GS.to (by simp), by simp; omega⟩
    ·simp -dsimp [hkz, ho, eq_false s0, eq_false s1, eq_true v1, hrL, k3, wrap_i64 (n := n + 1) (by omega) (by omega), wrap_i64 (n := 1 + a.1) (by omega) (by omega), wrap_i64 (n := 1 + m.1) (by omega) (by omega), wrap_i64 (n := (k : Int) + 1) (by omega) (by omega)]
     refine ACall.of hnc [.x 0] 0 ?_
     simp -dsimp [hkz, ho, eq_false s0, eq_false s1, eq_true v1, v2, hrL, k3, wrap_i64 (n := n + 1) (by omega) (by omega), wrap_i64 (n := 1 + a.1) (by omega) (by omega), wrap_i64 (n := 1 + m.1) (by omega) (by omega), wrap_i64 (n := (k : Int) + 1) (by omega) (by omega)]
     and_intros
     all_goals try first | rfl | omega | exact ⟨by kernel_rfl⟩
     exact ⟨⟨(k + 1, m.2, L), by dsimp only; omega, kM, k3, e⟩, GS.to (by simp), by simp; omega⟩
   have hs1 := hset [1 + a.1]
   have hs2 := hset2 [1 + a.1] [1 + a.1, 1 + m.1]
   have hq1 := hgr2 [1 + a.1]
   have hq2 := hgl2 [1 + a.1]
   have hq3 := hrL2 [1 + a.1]
   simp only [ints, List.map_nil, List.map_cons] at hs1 hs2 hq1 hq2
   by_cases v2 : a.1 < m.1
   ·by_cases v3 : 1 + m.1 = b.r
    ·have e := hnext [1 + a.1] m.2 (by rw [if_neg hof, if_neg s0, if_neg s1, if_neg (by omega), if_pos (by omega)])
     simp -dsimp [hkz, ho, eq_false s0, eq_false s1, eq_false v1, hgr, hgl, hs1, hrL, k3, wrap_i64 (n := n + 1) (by omega) (by omega), wrap_i64 (n := 1 + a.1) (by omega) (by omega), wrap_i64 (n := 1 + m.1) (by omega) (by omega), wrap_i64 (n := (k : Int) + 1) (by omega) (by omega)]
     and_intros
     all_goals try first | rfl | omega | exact ⟨by kernel_rfl⟩
     refine ACall.of hnc [.x 0] 0 ?_
     simp -dsimp [hkz, ho, eq_false s0, eq_false s1, eq_false v1, v2, eq_true v3, hgr, hgl, hs1, hrL, k3, wrap_i64 (n := n + 1) (by omega) (by omega), wrap_i64 (n := 1 + a.1) (by omega) (by omega), wrap_i64 (n := 1 + m.1) (by omega) (by omega), wrap_i64 (n := (k : Int) + 1) (by omega) (by omega)]
     and_intros
     all_goals try first | rfl | omega | exact ⟨by kernel_rfl⟩
     exact ⟨⟨(k + 1, m.2, L.set k ⟨x.id, [1 + a.1]⟩), by dsimp only; omega, kM, by simpa using k3, e⟩, GS.to (by simp), by simp; omega⟩
    ·have e := hnext [1 + a.1, 1 + m.1] m.2 (by rw [if_neg hof, if_neg s0, if_neg s1, if_pos (by omega)])
     simp -dsimp [hkz, ho, eq_false s0, eq_false s1, eq_false v1, hgr, hgl, hs1, hrL, k3, wrap_i64 (n := n + 1) (by omega) (by omega), wrap_i64 (n := 1 + a.1) (by omega) (by omega), wrap_i64 (n := 1 + m.1) (by omega) (by omega), wrap_i64 (n := (k : Int) + 1) (by omega) (by omega)]
     and_intros
     all_goals try first | rfl | omega | exact ⟨by kernel_rfl⟩
     refine ACall.of hnc [.x 0] 0 ?_
     simp -dsimp [hkz, ho, eq_false s0, eq_false s1, eq_false v1, v2, eq_false v3, hgr, hgl, hs1, hs2, hq1, hq2, hq3, hrL, k3, wrap_i64 (n := n + 1) (by omega) (by omega), wrap_i64 (n := 1 + a.1) (by omega) (by omega), wrap_i64 (n := 1 + m.1) (by omega) (by omega), wrap_i64 (n := (k : Int) + 1) (by omega) (by omega)]
     and_intros
     all_goals try first | rfl | omega | exact ⟨by kernel_rfl⟩
     exact ⟨⟨(k + 1, m.2, L.set k ⟨x.id, [1 + a.1, 1 + m.1]⟩), by dsimp only; omega, kM, by simpa using k3, e⟩, GS.to (by simp), by simp; omega⟩
   ·have e := hnext [1 + a.1] m.2 (by rw [if_neg hof, if_neg s0, if_neg s1, if_neg (by omega), if_pos (by omega)])
    simp -dsimp [hkz, ho, eq_false s0, eq_false s1, eq_false v1, hgr, hgl, hs1, hrL, k3, wrap_i64 (n := n + 1) (by omega) (by omega), wrap_i64 (n := 1 + a.1) (by omega) (by omega), wrap_i64 (n := 1 + m.1) (by omega) (by omega), wrap_i64 (n := (k : Int) + 1) (by omega) (by omega)]
    and_intros
    all_goals try first | rfl | omega | exact ⟨by kernel_rfl⟩
    refine ACall.of hnc [.x 0] 0 ?_
    simp -dsimp [hkz, ho, eq_false s0, eq_false s1, eq_false v1, v2, hgr, hgl, hs1, hrL, k3, wrap_i64 (n := n + 1) (by omega) (by omega), wrap_i64 (n := 1 + a.1) (by omega) (by omega), wrap_i64 (n := 1 + m.1) (by omega) (by omega), wrap_i64 (n := (k : Int) + 1) (by omega) (by omega)]
    and_intros
    all_goals try first | rfl | omega | exact ⟨by kernel_rfl⟩
    exact ⟨⟨(k + 1, m.2, L.set k ⟨x.id, [1 + a.1]⟩), by dsimp only; omega, kM, by simpa using k3, e⟩, GS.to (by simp), by simp; omega⟩
  ·have hkz : ¬ (k : Int) < b.rows.length := by omega
   obtain rfl : k = b.rows.length := by omega
   simp -dsimp [hkz, hrL, wrap_i64 (n := (i : Int) + 1) (by omega) (by omega)]
   and_intros
   all_goals try first | rfl | omega | exact ⟨by kernel_rfl⟩
   have e0 : L.drop b.rows.length = [] := List.drop_eq_nil_of_le (by omega)
   have e1 : L.take b.rows.length = L := List.take_of_length_le (by omega)
   simp only [e0, e1, wrRs, List.append_nil] at k4
   refine ⟨⟨(i + 1, T2, out ++ [⟨b.r, b.sd, b.len, L⟩]), by dsimp only; omega, k2, by simp [i3], ?_⟩, GS.to (by simp [tbs, Tb.cs, rwsD_eq, i3]), by simp; omega⟩
   rw [i4, hd, wrT, k4]
   simp
 ·have hiz : ¬ (i : Int) < l.length := by omega
  obtain rfl : i = l.length := by omega
  simp -dsimp [hiz]
  refine Fin.of ?_
  simp only [List.drop_length, wrT, List.append_nil] at i4
  simp [i4]
theorem domainO_c (T : Tp) (hT : TapeOK T) (most : Int) (hm : 1 ≤ most ∧ most ≤ 8) : Contract Tryz.prog 38 [.ptr (.x 0) 0, .d (.int .i64 most)] [tapeI T] (.tup [topT (gDom T most).1, planT (gDom T most).2.1, .oref 6 (gDom T most).2.2.1.length]) [tapeI (gDom T most).2.2.2] [(6, .row 37 4 (dd (tbs (gDom T most).2.2.1)) false)] := by
 refine contract_of Tryz.func38 rfl (fun E0 => ?_)
 refine awp.sound (g := .mk) (ow := []) (kp := (fun k => k==0||k==1||k==4||k==5||k==6||k==7||k==8||k==9)) ?_
 rw [Tryz.ntmps38]
 simp -dsimp
 refine ACall.of (topo_c T hT most ⟨hm.1, by omega⟩) [.x 0] 0 ?_
 have kG : TapeOK (gTop T most).2 := by simpa using hT
 have hsm := gTop_small T (most := most) ⟨hm.1, by omega⟩
 have hD := (gDom_valid T hm).1
 have hok := hD.top.ok
 have hpl := hD.plan
 have htab := hD.tab
 rw [htab]
 clear hD htab
 unfold gDom at hok hpl ⊢
 simp only at hok hpl ⊢
 generalize gTop T most = G at kG hsm hok hpl ⊢
 simp -dsimp [topT]
 refine ACall.of (plan_c G.2 kG G.1.rs G.1.ls (by omega) 0 (by omega)) [.x 0] 0 ?_
 obtain ⟨kP, lP⟩ := gPlan_zero G.2 G.1.rs
 have kG : TapeOK (gPlan G.2 G.1.rs 0).2 := kP.symm ▸ kG
 clear kP
 generalize gPlan G.2 G.1.rs 0 = p at kG lP hpl ⊢
 simp -dsimp [topT, planT]
 refine ACall.of (all11O_c G.1 ⟨by omega, by omega⟩ hok p.1 hpl (by omega)) [] 0 ?_
 generalize tabs G.1 p.1 G.1.rs = l
 simp -dsimp [topT, planT]
 and_intros
 all_goals try first | rfl | omega | exact ⟨by kernel_rfl⟩
 refine Fin.of ?_
 simp [topT, planT]
end Go.Proofs

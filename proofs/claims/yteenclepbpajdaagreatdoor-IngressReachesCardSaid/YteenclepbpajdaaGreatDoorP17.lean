/-
  What functions of the program compute, stated as contracts over plain data; the conditions of each stand in its own statement.
-/
import Derived.Test.YteenclepbpajdaaGreatDoorM32
set_option linter.unusedSimpArgs false
set_option linter.unusedVariables false
set_option maxRecDepth 100000
namespace Go.Proofs
open Go Go.Tr
theorem costW_app {g : Topo} {u v : List Int} {r C : Int} (h : costW g r (u ++ v) = some C) : ∃ c1 c2, costW g r u = some c1 ∧ costW g (lastR r u) v = some c2 ∧ C = c1 + c2 := by
 induction u generalizing r C with
 | nil => exact ⟨0, C, rfl, h, by omega⟩
 | cons w u ih =>
   rw [List.cons_append, costW] at h
   cases hp : price g.ls r w with
   | none => simp [hp] at h
   | some c0 =>
     cases hq : costW g w (u ++ v) with
     | none => simp [hp, hq] at h
     | some c3 =>
       simp only [hp, hq, Option.some.injEq] at h
       obtain ⟨c1, c2, h1, h2, h3⟩ := ih hq
       exact ⟨c0 + c1, c2, by simp [costW, hp, h1], h2, by omega⟩
theorem costW_app_of {g : Topo} {u v : List Int} {r c1 c2 : Int} (h1 : costW g r u = some c1) (h2 : costW g (lastR r u) v = some c2) : costW g r (u ++ v) = some (c1 + c2) := by
 induction u generalizing r c1 with
 | nil => simp [costW] at h1; subst h1; simpa [lastR] using h2
 | cons w u ih =>
   rw [costW] at h1
   cases hp : price g.ls r w with
   | none => simp [hp] at h1
   | some c0 =>
     cases hq : costW g w u with
     | none => simp [hp, hq] at h1
     | some c3 =>
       simp only [hp, hq, Option.some.injEq] at h1
       have := ih hq (by simpa [lastR] using h2)
       rw [List.cons_append, costW, hp, this]
       simp only [← h1, Int.add_assoc]
theorem lastR_app (r : Int) (u v : List Int) : lastR r (u ++ v) = lastR (lastR r u) v := by
 induction u generalizing r with
 | nil => rfl
 | cons w u ih => simp only [List.cons_append, lastR]; exact ih w
theorem edges_app (r : Int) (u : List Int) (h : Int) (v : List Int) : (lastR r u, h) ∈ edges r (u ++ h :: v) := by
 induction u generalizing r with
 | nil => simp [lastR, edges]
 | cons w u ih => rw [List.cons_append, edges]; exact List.mem_cons_of_mem _ (ih w)
theorem costW_le {g : Topo} (hg : g.Ok) {ws : List Int} {r C : Int} (h : costW g r ws = some C) : 0 ≤ C ∧ C ≤ 1000 * ws.length := by
 have := costW_walk h
 exact ⟨by have := this.nonneg hg; omega, this.le hg⟩
theorem way_step {g : Topo} (hg : g.Ok) {ws : List Int} {r C : Int} (hC : costW g r ws = some C) {k : Nat} {h : Int} (hk : ws[k]? = some h) :
  ∃ c c1, costW g r (ws.take k) = some c1 ∧ price g.ls (lastR r (ws.take k)) h = some c ∧ costW g r (ws.take (k + 1)) = some (c1 + c) ∧ lastR r (ws.take (k + 1)) = h ∧ (lastR r (ws.take k), h) ∈ edges r ws ∧ (0 ≤ c1 ∧ c1 ≤ 1000 * k) ∧ 1 ≤ c ∧ c ≤ 1000 := by
 obtain ⟨hkl, hke⟩ := List.getElem?_eq_some_iff.1 hk
 have hsplit : ws = ws.take k ++ h :: ws.drop (k + 1) := by
  have := (List.take_append_drop k ws).symm
  rw [List.drop_eq_getElem_cons hkl, hke] at this
  exact this
 have ht : ws.take (k + 1) = ws.take k ++ [h] := by rw [List.take_add_one, hk]; rfl
 have hC' := hC
 rw [hsplit] at hC'
 obtain ⟨c1, c2, h1, h2, _⟩ := costW_app hC'
 rw [costW] at h2
 cases hp : price g.ls (lastR r (ws.take k)) h with
 | none => simp [hp] at h2
 | some c =>
   have hb := costW_le hg h1
   have hl : (ws.take k).length = k := by simp; omega
   rw [hl] at hb
   refine ⟨c, c1, h1, rfl, ?_, by rw [ht, lastR_app]; rfl, ?_, hb, price_le hg hp⟩
   ·rw [ht]
    exact costW_app_of h1 (by simp [costW, hp])
   ·have := edges_app r (ws.take k) h (ws.drop (k + 1))
    rwa [← hsplit] at this
theorem and_one (X : BitVec 64) {k : Nat} (hk : k < 64) : (X &&& 1#64 <<< k = 0#64) ↔ X.getLsbD k = false := by
 constructor
 ·intro h
  have := congrArg (fun z => z.getLsbD k) h
  simpa [bit_one hk hk] using this
 ·intro h
  refine and_zero_of fun j hj ⟨a1, a2⟩ => ?_
  have := (one_bit hk hj).1 a2
  subst this
  rw [h] at a1; simp at a1
theorem tz_one {k : Nat} (hk : k < 64) : firstI (1#64 <<< k) = k := by
 have hz : (1#64 <<< k) ≠ 0#64 := fun e => by
  have := congrArg (fun z => z.getLsbD k) e
  simp [bit_one hk hk] at this
 rw [firstI, if_neg hz]
 obtain ⟨t1, t2, _⟩ := tz_spec hz
 have := (one_bit hk t1).1 t2
 omega
theorem del_facts {g : Topo} (hg : chkT g = 0) (hA : AllCap g) {p : Pn} (hp : planB p = true) {q : Pk} (hF : FitL (tabs g p g.rs) q) {r : Int} (hr : capR g.rs r = true) {d : Int × Pk} (hd : d ∈ (runG (tabs g p g.rs) (wt q) [(r, q)] tr0).dl) :
  ∃ k < 64, q.bits.getLsbD k = true ∧ d.2.bits = 1#64 <<< k ∧ atB q.set k q.len = true ∧ ∃ ws, Dl (tabs g p g.rs) (idAt q k) (plnP q) r ws ∧ (ws.length : Int) ≤ q.ttl ∧ d.1 = lastR r ws ∧ d.2.ttl = q.ttl - ws.length ∧ ∃ C, costW g r ws = some C ∧ C = dst g (lastR r ws) r ∧ C ≠ far ∧ hasR g.rs (lastR r ws) = true ∧ hasR g.rs r = true := by
 have hO := chkT_zero hg
 have hsome : (findT (tabs g p g.rs) r).isSome := by rw [tabs_find hO, if_pos hr]; rfl
 obtain ⟨k, hk, e⟩ := (run_all hF hsome).dl d hd
 have hdk : d.2.bits.getLsbD k = true := by rw [e]; simp [bit_one hk hk]
 obtain ⟨hb, ws, h1, h2, h3⟩ := (run_dl hF r hk d).1 ⟨hd, hdk⟩
 obtain ⟨ed, he, hid, hl, hc⟩ := dl_cost hg hA hp h1
 obtain ⟨ed', he', hid', hl', hc', _, hd'⟩ := dl_wrong hg hp h1
 have hee := plan_inj hp he he' (hid.trans hid'.symm)
 subst hee
 refine ⟨k, hk, hb, e, ?_, ws, h1, h2, by rw [h3], by rw [h3]; rfl, _, hc, by rw [hl], by omega, by rw [hl]; exact cap_has hO hc', cap_has hO hr⟩
 cases ha : atB q.set k q.len with
 | true => rfl
 | false =>
   exfalso
   have h0 : idAt q k = 0 := by rw [idAt, if_neg (by simp [ha])]
   have hb0 : ∀ e ∈ p.es, 1 ≤ e.id := fun e he => by
    simp only [planB, decide_eq_true_eq] at hp
    obtain ⟨_, h2, _⟩ := hp
    obtain ⟨i, hi, rfl⟩ := List.mem_iff_getElem.1 he
    have h3 := h2 i hi
    have e : gid p.es i = p.es[i].id := by rw [gid, List.getD_eq_getElem?_getD, List.getElem?_eq_getElem hi]; rfl
    simp only [edB, inB, Bool.and_eq_true, decide_eq_true_eq] at h3
    rw [e] at h3
    exact h3.1.1
   have := hb0 ed he
   omega
end Go.Proofs

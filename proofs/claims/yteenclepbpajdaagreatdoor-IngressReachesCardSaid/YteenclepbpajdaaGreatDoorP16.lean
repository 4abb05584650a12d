/-
  What functions of the program compute, stated as contracts over plain data; the conditions of each stand in its own statement.
-/
import Derived.Test.YteenclepbpajdaaGreatDoorM32
set_option linter.unusedSimpArgs false
set_option linter.unusedVariables false
set_option maxRecDepth 100000
namespace Go.Proofs
open Go Go.Tr
theorem filter_one {l : List (Int × Pk)} (h : ∀ d ∈ l, ∃ k < 64, d.2.bits = 1#64 <<< k) {b : Nat} (hb : b < 64) : l.filter (fun d => decide (d.2.bits = 1#64 <<< b)) = l.filter fun d => d.2.bits.getLsbD b := by
 apply List.filter_congr
 intro d hd
 obtain ⟨k, hk, e⟩ := h d hd
 rw [e]
 have h1 : (1#64 <<< k).getLsbD b = decide (b = k) := bit_one hk hb
 rw [h1]
 by_cases ek : b = k
 ·subst ek; simp
 ·have : (1#64 <<< k) ≠ 1#64 <<< b := fun e2 => by
   have := congrArg (fun z => z.getLsbD b) e2
   simp only [h1, bit_one hb hb, decide_true] at this
   simp [ek] at this
  simp [this, ek]
theorem idAt_pos {q : Pk} (hq : q.ok = true) {k : Nat} : (atB q.set k q.len = true → 1 ≤ idAt q k) ∧ (atB q.set k q.len = false → idAt q k = 0) := by
 have hs := ok_set hq
 have hl := (ok_bits hq).1
 have hc := validLen_cases hl
 constructor
 ·intro h
  rw [idAt, if_pos h]
  have : 0 ≤ q.set * q.len := Int.mul_nonneg hs.1 (by omega)
  omega
 ·intro h
  rw [idAt, if_neg (by simp [h])]
theorem plan_ids {p : Pn} (h : planB p = true) {e : Ed} (he : e ∈ p.es) : 1 ≤ e.id ∧ e.id ≤ 256 := by
 simp only [planB, decide_eq_true_eq] at h
 obtain ⟨_, h2, _⟩ := h
 obtain ⟨i, hi, rfl⟩ := List.mem_iff_getElem.1 he
 have h3 := h2 i hi
 have e : gid p.es i = p.es[i].id := by rw [gid, List.getD_eq_getElem?_getD, List.getElem?_eq_getElem hi]; rfl
 simp only [edB, inB, Bool.and_eq_true, decide_eq_true_eq] at h3
 rw [e] at h3
 exact h3.1
def edOf (p : Pn) (id : Int) : Option Ed := p.es.find? fun e => decide (e.id = id)
theorem edOf_some {p : Pn} (h : planB p = true) {e : Ed} (he : e ∈ p.es) : edOf p e.id = some e :=
 find_uniq he (by simp) fun y hy hq => plan_inj h hy he (of_decide_eq_true hq)
theorem edOf_mem {p : Pn} {id : Int} {e : Ed} (h : edOf p id = some e) : e ∈ p.es ∧ e.id = id := ⟨List.mem_of_find?_eq_some h, by simpa using List.find?_some h⟩
open Classical in
noncomputable def wantR (g : Topo) (p : Pn) (q : Pk) (r : Int) (b : Nat) : Bool := atB q.set b q.len && ((edOf p (idAt q b)).isSome && (capR g.rs ((edOf p (idAt q b)).getD ⟨0, 0⟩).r && conn g r ((edOf p (idAt q b)).getD ⟨0, 0⟩).r))
theorem exact_cnt {g : Topo} (hg : chkT g = 0) {p : Pn} (hp : planB p = true) {q : Pk} (hF : FitL (tabs g p g.rs) q) (ht : (g.rs.length : Int) ≤ q.ttl) {r : Int} (hr : capR g.rs r = true) {b : Nat} (hb : b < 64) (hqb : q.bits.getLsbD b = true) :
  ((runG (tabs g p g.rs) (wt q) [(r, q)] tr0).dl.filter fun d => decide (d.2.bits = 1#64 <<< b) && decide (d.1 = ((edOf p (idAt q b)).getD ⟨0, 0⟩).r)).length = if wantR g p q r b = true then 1 else 0 := by
 have hO := chkT_zero hg
 have hsome : (findT (tabs g p g.rs) r).isSome := by rw [tabs_find hO, if_pos hr]; rfl
 have e1 : ((runG (tabs g p g.rs) (wt q) [(r, q)] tr0).dl.filter fun d => decide (d.2.bits = 1#64 <<< b) && decide (d.1 = ((edOf p (idAt q b)).getD ⟨0, 0⟩).r)) =
   ((runG (tabs g p g.rs) (wt q) [(r, q)] tr0).dl.filter fun d => d.2.bits.getLsbD b).filter fun d => decide (d.1 = ((edOf p (idAt q b)).getD ⟨0, 0⟩).r) := by
  rw [← filter_one (run_all hF hsome).dl hb, List.filter_filter]
  apply List.filter_congr
  intro d _
  exact Bool.and_comm _ _
 have e2 : ((runG (tabs g p g.rs) (wt q) [(r, q)] tr0).dl.filter fun d => d.2.bits.getLsbD b) = ((runG (tabs g p g.rs) (wt q) [(r, q)] tr0).at b).dl := rfl
 rw [e1, e2, run_at hF r hb hqb]
 rcases way_end hb hF hqb r with ⟨ws, h1, h2, h3⟩ | ⟨h1, h3⟩
 ·obtain ⟨e, he, hid, hl, hc, _, hd⟩ := dl_wrong hg hp h1
  have ho : edOf p (idAt q b) = some e := by rw [← hid]; exact edOf_some hp he
  have hat : atB q.set b q.len = true := by
   cases ha : atB q.set b q.len with
   | true => rfl
   | false => have := (idAt_pos hF.ok).2 ha; have := plan_ids hp he; omega
  have hw : wantR g p q r b = true := by
   simp only [wantR, ho, hat, Option.isSome_some, Option.getD_some, hc, Bool.true_and]
   exact (conn_iff hg).2 ⟨cap_has hO hr, cap_has hO hc, hd⟩
  rw [h3.dl, hw, ho]
  simp [hl]
 ·rw [h3.dl]
  have hw : wantR g p q r b = false := by
   cases hw : wantR g p q r b with
   | false => rfl
   | true =>
     simp only [wantR, Bool.and_eq_true] at hw
     obtain ⟨_, w2, w3, w4⟩ := hw
     obtain ⟨e, ho⟩ := Option.isSome_iff_exists.1 w2
     rw [ho, Option.getD_some] at w3 w4
     obtain ⟨he, hid⟩ := edOf_mem ho
     obtain ⟨_, _, hd⟩ := (conn_iff hg).1 w4
     obtain ⟨ws, hD, _⟩ := dl_right hg hp he w3 (plnP q) _ (Nat.le_refl _) hr hd
     rw [hid] at hD
     have l1 := h1 ws hD
     have l2 := hD.len
     have l3 := tabs_len g p
     omega
  rw [hw]; rfl
end Go.Proofs

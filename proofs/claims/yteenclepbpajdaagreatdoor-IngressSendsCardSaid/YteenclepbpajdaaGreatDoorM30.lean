/-
  What functions of the program compute, stated as contracts over plain data; the conditions of each stand in its own statement.
-/
import Derived.Test.YteenclepbpajdaaGreatDoorM29
set_option linter.unusedSimpArgs false
set_option linter.unusedVariables false
namespace Go.Proofs
theorem runG_ind {l : List Tb} {I : List (Int × Pk) → Trc → Prop} (hs : ∀ q Q t, I (q :: Q) t → I (Q ++ nextQ l q) (stepT l q t)) : ∀ (n : Nat) (Q : List (Int × Pk)) (t : Trc), wsum Q ≤ n → I Q t → I [] (runG l n Q t)
 | 0, Q, t, h, hI => by
   have := len_wsum Q
   obtain rfl : Q = [] := List.length_eq_zero_iff.1 (by omega)
   rw [runG_nil]; exact hI
 | n + 1, [], t, _, hI => by rw [runG_nil]; exact hI
 | n + 1, q :: Q, t, h, hI => by
   have hq := nextQ_wt l q
   rw [wsum_cons] at h
   rw [runG]
   exact runG_ind hs n _ _ (by rw [wsum_app]; omega) (hs q Q t hI)
structure RunI (l : List Tb) (Q : List (Int × Pk)) (t : Trc) : Prop where
 fit : ∀ q ∈ Q, FitL l q.2 ∧ (findT l q.1 = none → q.2.bits ≠ 0#64)
 dl : ∀ d ∈ t.dl, ∃ k < 64, d.2.bits = 1#64 <<< k
 ls : ∀ x ∈ t.ls, x.2 ≠ 0#64
 cr : ∀ c ∈ t.cr, c.2.2 ≠ 0#64
theorem RunI.step {l : List Tb} {q : Int × Pk} {Q : List (Int × Pk)} {t : Trc} (h : RunI l (q :: Q) t) : RunI l (Q ++ nextQ l q) (stepT l q t) := by
 have hq := h.fit q (by simp)
 have hQ : ∀ c ∈ Q, FitL l c.2 ∧ (findT l c.1 = none → c.2.bits ≠ 0#64) := fun c hc => h.fit c (by simp [hc])
 cases hf : findT l q.1 with
 | none =>
   have hn : nextQ l q = [] := by simp [nextQ, hf]
   rw [hn, List.append_nil]
   refine ⟨hQ, ?_, ?_, ?_⟩ <;> simp only [stepT, hf]
   ·exact h.dl
   ·intro x hx
    rcases List.mem_append.1 hx with hx | hx
    ·exact h.ls x hx
    ·simp at hx; subst hx; exact hq.2 hf
   ·exact h.cr
 | some b =>
   have hb := hq.1.all b (findT_mem hf).1
   obtain ⟨h1, h2⟩ := fwd_spec hb
   have hn : nextQ l q = (fwdV b q.2).cps := by simp [nextQ, hf, h1]
   obtain ⟨H, h3, h4, h5⟩ := h2.cps
   have hc : ∀ c ∈ (fwdV b q.2).cps, c.2.bits ≠ 0#64 := fun c hc => by
    rw [h3] at hc
    simp only [out0, List.nil_append, List.mem_map] at hc
    obtain ⟨x, hx, rfl⟩ := hc
    obtain ⟨_, a1, a2, k, hk, a3, a4⟩ := (h5 x).1 hx
    have hr := (hopAt_at hb.ck (k := k) (p := q.2) (by rw [a4]; exact a1)).2
    rw [a4] at hr
    have := (cpk_bit hb hk hr).2 ⟨a3, a4⟩
    intro e
    simp only at e
    rw [e] at this; simp at this
   refine ⟨fun c hm => ?_, ?_, ?_, ?_⟩
   ·rcases List.mem_append.1 hm with hm | hm
    ·exact hQ c hm
    ·exact ⟨next_fit hq.1 c hm, fun _ => hc c (by rw [← hn]; exact hm)⟩
   ·simp only [stepT, hf, h1]
    intro d hd
    rcases List.mem_append.1 hd with hd | hd
    ·exact h.dl d hd
    ·simp only [locV, bitsI, List.map_map, List.mem_map] at hd
     obtain ⟨k, hk, rfl⟩ := hd
     obtain ⟨k1, k2⟩ := mem_bitsL.1 hk
     have hpb : q.2.bits.getLsbD k = true := by
      rcases (h2.loc k k1).1 k2 with a | a
      ·simp [out0] at a
      ·exact a.1
     refine ⟨k, k1, ?_⟩
     show (onlyR q.2 (Int.ofNat k)).bits = _
     have := onlyR_eq hq.1.ok k1 hpb
     rw [Int.ofNat_eq_natCast, this]
   ·simp only [stepT, hf, h1]
    intro x hx
    split at hx
    ·exact h.ls x hx
    ·rename_i hne
     rcases List.mem_append.1 hx with hx | hx
     ·exact h.ls x hx
     ·simp at hx; subst hx; exact hne
   ·simp only [stepT, hf, h1]
    intro c hm
    rcases List.mem_append.1 hm with hm | hm
    ·exact h.cr c hm
    ·obtain ⟨x, hx, rfl⟩ := List.mem_map.1 hm
     exact hc x hx
theorem run_all {l : List Tb} {p : Pk} (hF : FitL l p) {r : Int} (hr : (findT l r).isSome) : RunI l [] (runG l (wt p) [(r, p)] tr0) :=
 runG_ind (I := RunI l) (fun q Q t h => h.step) _ _ _ (by simp [wsum]) ⟨fun q hq => by
  simp at hq; subst hq
  exact ⟨hF, fun e => by simp [e] at hr⟩, by simp [tr0], by simp [tr0], by simp [tr0]⟩
theorem len_sum {α : Type} (f : α → BitVec 64) : ∀ (l : List α), (∀ x ∈ l, f x ≠ 0#64) → l.length ≤ ((List.range 64).map fun k => (l.filter fun x => (f x).getLsbD k).length).sum
 | [], _ => by simp
 | x :: l, h => by
   have ih := len_sum f l (fun y hy => h y (by simp [hy]))
   have hx := h x (by simp)
   obtain ⟨t1, t2, _⟩ := tz_spec hx
   have hle : ∀ (ks : List Nat), (ks.map fun k => (l.filter fun x => (f x).getLsbD k).length).sum + (if tz (f x) ∈ ks then 1 else 0) ≤ (ks.map fun k => ((x :: l).filter fun x => (f x).getLsbD k).length).sum := by
    intro ks
    induction ks with
    | nil => simp
    | cons k ks ih2 =>
      simp only [List.map_cons, List.sum_cons, List.mem_cons, List.filter_cons]
      by_cases e : tz (f x) = k
      ·subst e
       rw [if_pos (.inl rfl), if_pos t2]
       simp only [List.length_cons]
       split at ih2 <;> simp only [List.filter_cons] at ih2 <;> omega
      ·simp only [e, false_or]
       simp only [List.filter_cons] at ih2
       have : (l.filter fun x => (f x).getLsbD k).length ≤ (if (f x).getLsbD k = true then x :: l.filter fun x => (f x).getLsbD k else l.filter fun x => (f x).getLsbD k).length := by split <;> simp
       omega
   have := hle (List.range 64)
   rw [if_pos (by simpa using t1)] at this
   simp only [List.length_cons]
   omega
theorem sum_le_bits {B : BitVec 64} {m : Nat} {f : Nat → Nat} (h : ∀ k < 64, f k ≤ if B.getLsbD k = true then m else 0) : ((List.range 64).map f).sum ≤ pc B * m := by
 have : ∀ ks : List Nat, (∀ k ∈ ks, k < 64) → (ks.map f).sum ≤ (ks.filter fun i => B.getLsbD i).length * m := by
  intro ks hk
  induction ks with
  | nil => simp
  | cons k ks ih =>
    have h1 := ih (fun j hj => hk j (by simp [hj]))
    have h2 := h k (hk k (by simp))
    simp only [List.map_cons, List.sum_cons, List.filter_cons]
    split
    ·rename_i hb
     rw [if_pos hb] at h2
     simp only [List.length_cons, Nat.succ_mul]; omega
    ·rename_i hb
     rw [if_neg hb] at h2; omega
 exact this _ (by simp)
theorem run_bit {l : List Tb} {p : Pk} (hF : FitL l p) (r : Int) {k : Nat} (hk : k < 64) :
  (((runG l (wt p) [(r, p)] tr0).dl.filter fun d => d.2.bits.getLsbD k).length + ((runG l (wt p) [(r, p)] tr0).ls.filter fun x => x.2.getLsbD k).length = if p.bits.getLsbD k = true then 1 else 0) ∧
  (((runG l (wt p) [(r, p)] tr0).cr.filter fun c => c.2.2.getLsbD k).length ≤ if p.bits.getLsbD k = true then p.ttl.toNat else 0) := by
 have e1 : ((runG l (wt p) [(r, p)] tr0).dl.filter fun d => d.2.bits.getLsbD k) = ((runG l (wt p) [(r, p)] tr0).at k).dl := rfl
 have e2 : ((runG l (wt p) [(r, p)] tr0).ls.filter fun x => x.2.getLsbD k) = ((runG l (wt p) [(r, p)] tr0).at k).ls := rfl
 have e3 : ((runG l (wt p) [(r, p)] tr0).cr.filter fun c => c.2.2.getLsbD k) = ((runG l (wt p) [(r, p)] tr0).at k).cr := rfl
 rw [e1, e2, e3]
 have ht := ok_ttl hF.ok
 by_cases hb : p.bits.getLsbD k = true
 ·rw [run_at hF r hk hb, if_pos hb, if_pos hb]
  rcases way_end hk hF hb r with ⟨ws, _, h2, h3⟩ | ⟨_, h3⟩
  ·refine ⟨by rw [h3.dl, h3.ls]; rfl, ?_⟩
   have := congrArg List.length h3.cr
   rw [List.length_map, edges_len] at this
   omega
  ·refine ⟨by rw [h3.dl, h3.ls]; rfl, ?_⟩
   have := h3.cr
   omega
 ·rw [run_off hF r hk hb, if_neg hb, if_neg hb]
  exact ⟨rfl, Nat.le_refl _⟩
theorem pc_one {k : Nat} (hk : k < 64) : pc (1#64 <<< k) = 1 := by
 have : bitsL (1#64 <<< k) = [k] := by
  have e : bitsL (1#64 <<< k) = (List.range 64).filter fun i => decide (i = k) := by
   unfold bitsL
   apply List.filter_congr
   intro i hi
   rw [bit_one hk (by simpa using hi)]
  rw [e, filter_nodup List.nodup_range, if_pos (by simpa using hk)]
 rw [pc, this]; rfl
end Go.Proofs

set_option linter.unusedSimpArgs false
set_option linter.unusedVariables false
namespace Go.Proofs
end Go.Proofs

set_option linter.unusedSimpArgs false
set_option linter.unusedVariables false
namespace Go.Proofs
def costW (g : Topo) : Int → List Int → Option Int
 | _, [] => some 0
 | r, h :: ws => match price g.ls r h, costW g h ws with
   | some c, some v => some (c + v)
   | _, _ => none
def AllCap (g : Topo) : Prop := ∀ x ∈ g.rs, x.cap = true
theorem AllCap.cap {g : Topo} (hg : g.Ok) (h : AllCap g) {r : Int} (hr : hasR g.rs r = true) : capR g.rs r = true := by
 obtain ⟨x, hx, rfl⟩ := List.mem_map.1 (hasR_mem.1 hr)
 exact (capR_iff hg).2 ⟨x, hx, rfl, h x hx⟩
theorem HopR.direct {g : Topo} (hg : g.Ok) (hA : AllCap g) {t r n : Int} (h : HopR g t r n) : n ∈ steps g (dist g t) r := by
 obtain ⟨x, hx, hn, _⟩ := h
 have : x = r := by
  induction hx with
  | nil => rfl
  | via _ hy hc _ =>
    rw [hA.cap hg (steps_has hy)] at hc; simp at hc
 rw [← this]; exact hn
theorem dl_cost {g : Topo} (hg : chkT g = 0) (hA : AllCap g) {p : Pn} (hp : planB p = true) {id pl r : Int} {ws : List Int} (h : Dl (tabs g p g.rs) id pl r ws) :
  ∃ e ∈ p.es, e.id = id ∧ lastR r ws = e.r ∧ costW g r ws = some (dst g e.r r) := by
 have hO := chkT_zero hg
 obtain ⟨e, he, rfl, hl, hc, hr, hd⟩ := dl_wrong hg hp h
 refine ⟨e, he, rfl, hl, ?_⟩
 clear hd hr
 induction h with
 | @here r b h1 h2 h3 =>
   simp only [lastR] at hl
   rw [hl, costW, dst_self hO (cap_has hO hc)]
 | @next r h b ws h1 h2 h3 h4 h5 ih =>
   have ih := ih (by simpa [lastR] using hl)
   rw [tabs_find hO] at h1
   split at h1
   ·rename_i hr
    simp only [Option.some.injEq] at h1; subst h1
    have hrh := cap_has hO hr
    rcases build_hop hg hp he hrh pl with ⟨a1, a2⟩ | ⟨a1, a2, a3, a4⟩ | ⟨a1, a2, a3⟩
    ·exact absurd (h2.symm.trans a2) h4
    ·rw [h2] at a4
     obtain ⟨_, _, _, c, b1, b2⟩ := (mem_steps hO).1 (a4.direct hO hA)
     rw [costW, b1, ih]
     simp only [b2]
    ·omega
   ·simp at h1
theorem run_cr_at {l : List Tb} {p : Pk} (hF : FitL l p) {r : Int} {k : Nat} (hk : k < 64) (hb : p.bits.getLsbD k = true) {ws : List Int} (hD : Dl l (idAt p k) (plnP p) r ws) (hl : (ws.length : Int) ≤ p.ttl) :
  ((runG l (wt p) [(r, p)] tr0).cr.filter fun c => c.2.2.getLsbD k).map (fun c => (c.1, c.2.1)) = edges r ws := by
 have e : ((runG l (wt p) [(r, p)] tr0).cr.filter fun c => c.2.2.getLsbD k) = ((runG l (wt p) [(r, p)] tr0).at k).cr := rfl
 rw [e, run_at hF r hk hb]
 exact (way_del hk _ (Nat.le_refl _) hF hb rfl rfl hD hl).cr
theorem edges_fst {r : Int} {ws : List Int} {x : Int × Int} (h : x ∈ edges r ws) : x.1 ∈ r :: ws := by
 induction ws generalizing r with
 | nil => simp [edges] at h
 | cons w ws ih =>
   rw [edges] at h
   rcases List.mem_cons.1 h with rfl | h
   ·simp
   ·exact List.mem_cons_of_mem _ (ih h)
theorem edges_nodup {r : Int} {ws : List Int} (h : (r :: ws).Nodup) : (edges r ws).Nodup := by
 induction ws generalizing r with
 | nil => simp [edges]
 | cons w ws ih =>
   rw [List.nodup_cons] at h
   rw [edges, List.nodup_cons]
   exact ⟨fun hm => h.1 (edges_fst hm), ih h.2⟩
theorem cross_once {l : List Tb} {p : Pk} (hF : FitL l p) {r : Int} {k : Nat} (hk : k < 64) (hb : p.bits.getLsbD k = true) {ws : List Int} (hD : Dl l (idAt p k) (plnP p) r ws) (hl : (ws.length : Int) ≤ p.ttl) {a b : Int} (hab : (a, b) ∈ edges r ws) :
  ((runG l (wt p) [(r, p)] tr0).cr.filter fun c => decide (c.1 = a ∧ c.2.1 = b) && c.2.2.getLsbD k).length = 1 := by
 have h1 := run_cr_at hF hk hb hD hl
 have h2 : ((runG l (wt p) [(r, p)] tr0).cr.filter fun c => decide (c.1 = a ∧ c.2.1 = b) && c.2.2.getLsbD k) = ((runG l (wt p) [(r, p)] tr0).cr.filter fun c => c.2.2.getLsbD k).filter fun c => decide (c.1 = a ∧ c.2.1 = b) := by
  rw [List.filter_filter]
 rw [h2]
 have h3 : (((runG l (wt p) [(r, p)] tr0).cr.filter fun c => c.2.2.getLsbD k).filter fun c => decide (c.1 = a ∧ c.2.1 = b)).map (fun c => (c.1, c.2.1)) = (edges r ws).filter fun x => decide (x = (a, b)) := by
  rw [← h1, List.filter_map]
  congr 1
  apply List.filter_congr
  intro c _
  simp only [Function.comp_apply, Prod.mk.injEq]
 have h4 := congrArg List.length h3
 rw [List.length_map, filter_nodup (edges_nodup hD.nodup), if_pos hab] at h4
 exact h4
end Go.Proofs

set_option linter.unusedSimpArgs false
set_option linter.unusedVariables false
namespace Go.Proofs
def pthS (g : Topo) (t : Int) (n : List Int) (x : Rt) : Int := if x.id = t then 1 else (steps g (dist g t) x.id).foldl (fun a y => min 1000000 (a + atR g n y)) 0
def pthR (g : Topo) (t : Int) (n : List Int) : List Int := g.rs.map (pthS g t n)
def pthN (g : Topo) (t : Int) : Nat → List Int
 | 0 => g.rs.map fun _ => 0
 | k + 1 => pthR g t (pthN g t k)
open Classical in
noncomputable def pathsR (g : Topo) (f t : Int) : Int := if chkT g = 0 ∧ hasR g.rs f = true ∧ hasR g.rs t = true then atR g (pthN g t g.rs.length) f else 0
open Classical in
noncomputable def uniqueR (g : Topo) : Bool := decide (chkT g = 0 ∧ ∀ x ∈ g.rs, ∀ y ∈ g.rs, pathsR g x.id y.id ≤ 1)
theorem atR_map {g : Topo} (hg : g.Ok) (f : Rt → Int) {x : Rt} (hx : x ∈ g.rs) : atR g (g.rs.map f) x.id = f x := by
 obtain ⟨i, hi⟩ := placeR_some (hasR_mem.2 (List.mem_map_of_mem hx))
 obtain ⟨y, h1, h2⟩ := placeR_get hi
 have e := rt_inj hg (List.mem_of_getElem? h1) hx h2
 subst e
 simp only [atR, hi, List.getD_eq_getElem?_getD, List.getElem?_map, h1]
 rfl
theorem fold_min : ∀ (l : List Int) (f : Int → Int) (a : Int), 0 ≤ a → a ≤ 1000000 → (∀ y, 0 ≤ f y) → a ≤ l.foldl (fun a y => min 1000000 (a + f y)) a ∧ l.foldl (fun a y => min 1000000 (a + f y)) a ≤ 1000000
 | [], f, a, _, h, _ => ⟨Int.le_refl _, h⟩
 | y :: l, f, a, h0, h1, hf => by
   rw [List.foldl_cons]
   have := hf y
   have ih := fold_min l f (min 1000000 (a + f y)) (by omega) (by omega) hf
   omega
theorem fold_one : ∀ (l : List Int) (f : Int → Int) (a : Int), 0 ≤ a → a ≤ 1000000 → (∀ y, 0 ≤ f y) → ∀ y ∈ l, 1 ≤ f y → min 1000000 (a + 1) ≤ l.foldl (fun a y => min 1000000 (a + f y)) a
 | [], f, a, _, _, _, y, hy, _ => by simp at hy
 | z :: l, f, a, h0, h1, hf, y, hy, hy1 => by
   rw [List.foldl_cons]
   have := hf z
   rcases List.mem_cons.1 hy with rfl | hy'
   ·have ih := fold_min l f (min 1000000 (a + f y)) (by omega) (by omega) hf
    omega
   ·have ih := fold_one l f (min 1000000 (a + f z)) (by omega) (by omega) hf y hy' hy1
    omega
theorem fold_two : ∀ (l : List Int) (f : Int → Int) (a : Int), 0 ≤ a → a ≤ 1000000 → (∀ y, 0 ≤ f y) → ∀ y ∈ l, ∀ z ∈ l, y ≠ z → 1 ≤ f y → 1 ≤ f z → min 1000000 (a + 2) ≤ l.foldl (fun a y => min 1000000 (a + f y)) a
 | [], f, a, _, _, _, y, hy, _, _, _, _, _ => by simp at hy
 | x :: l, f, a, h0, h1, hf, y, hy, z, hz, hne, hy1, hz1 => by
   rw [List.foldl_cons]
   have := hf x
   rcases List.mem_cons.1 hy with rfl | hy'
   ·rcases List.mem_cons.1 hz with rfl | hz'
    ·exact absurd rfl hne
    ·have ih := fold_one l f (min 1000000 (a + f y)) (by omega) (by omega) hf z hz' hz1
     omega
   ·rcases List.mem_cons.1 hz with rfl | hz'
    ·have ih := fold_one l f (min 1000000 (a + f z)) (by omega) (by omega) hf y hy' hy1
     omega
    ·have ih := fold_two l f (min 1000000 (a + f x)) (by omega) (by omega) hf y hy' z hz' hne hy1 hz1
     omega
inductive Sp (g : Topo) (t : Int) : Nat → Int → Prop
 | nil : Sp g t 0 t
 | cons {k : Nat} {x y : Int} : y ∈ steps g (dist g t) x → Sp g t k y → Sp g t (k + 1) x
theorem sp_some {g : Topo} (hg : g.Ok) {t : Int} (ht : hasR g.rs t = true) : ∀ (m : Nat) {x : Int}, (dst g t x).toNat ≤ m → hasR g.rs x = true → dst g t x < far → ∃ k, Sp g t k x := by
 intro m
 induction m with
 | zero =>
   intro x hm hx hd
   have := dst_bd hg t x
   have e := dst_zero hg ht hx (by omega)
   subst e; exact ⟨0, .nil⟩
 | succ m ih =>
   intro x hm hx hd
   by_cases e : x = t
   ·subst e; exact ⟨0, .nil⟩
   ·obtain ⟨y, hy⟩ := steps_some hg ht hx e hd
    have h1 := steps_dst hg hy
    have h2 := dst_bd hg t y
    obtain ⟨_, _, h3, _⟩ := (mem_steps hg).1 hy
    obtain ⟨k, hk⟩ := ih (by omega) (steps_has hy) h3
    exact ⟨k + 1, .cons hy hk⟩
theorem sp_list {g : Topo} (hg : g.Ok) {t : Int} (ht : hasR g.rs t = true) {k : Nat} {x : Int} (h : Sp g t k x) : ∃ l : List Int, l.length = k + 1 ∧ l.Nodup ∧ (∀ y ∈ l, hasR g.rs y = true ∧ dst g t y ≤ dst g t x) := by
 induction h with
 | nil => exact ⟨[t], rfl, by simp, by simp [ht]⟩
 | @cons k x y hy _ ih =>
   obtain ⟨l, h1, h2, h3⟩ := ih
   have h4 := steps_dst hg hy
   have hx : hasR g.rs x = true := by
    obtain ⟨_, _, _, c, hc, _⟩ := (mem_steps hg).1 hy
    exact (price_has hg hc).1
   refine ⟨x :: l, by simp [h1], List.nodup_cons.2 ⟨fun hm => by have := (h3 x hm).2; omega, h2⟩, fun z hz => ?_⟩
   rcases List.mem_cons.1 hz with rfl | hz
   ·exact ⟨hx, Int.le_refl _⟩
   ·have := h3 z hz
    exact ⟨this.1, by omega⟩
theorem sp_len {g : Topo} (hg : g.Ok) {t : Int} (ht : hasR g.rs t = true) {k : Nat} {x : Int} (h : Sp g t k x) : k + 1 ≤ g.rs.length := by
 obtain ⟨l, h1, h2, h3⟩ := sp_list hg ht h
 have := seen_le h2 (fun y hy => (h3 y hy).1)
 omega
theorem pthN_nonneg (g : Topo) (t : Int) : ∀ (k : Nat) (y : Int), 0 ≤ atR g (pthN g t k) y := by
 intro k
 have hD : ∀ (l : List Int), (∀ v ∈ l, 0 ≤ v) → ∀ y, 0 ≤ atR g l y := fun l hl y => by
  unfold atR
  split
  ·rename_i i _
   rw [List.getD_eq_getElem?_getD]
   cases h : l[i]? with
   | none => simp
   | some v => simpa using hl v (List.mem_of_getElem? h)
  ·omega
 induction k with
 | zero => exact hD _ (by simp [pthN])
 | succ k ih =>
   refine hD _ fun v hv => ?_
   simp only [pthN, pthR, List.mem_map] at hv
   obtain ⟨x, _, rfl⟩ := hv
   unfold pthS
   split
   ·omega
   ·exact (fold_min _ _ 0 (by omega) (by omega) ih).1
theorem pthN_one {g : Topo} (hg : g.Ok) {t : Int} {k : Nat} {x : Int} (h : Sp g t k x) : ∀ m, k + 1 ≤ m → hasR g.rs x = true → 1 ≤ atR g (pthN g t m) x := by
 induction h with
 | nil =>
   intro m hm hx
   obtain ⟨m, rfl⟩ : ∃ j, m = j + 1 := ⟨m - 1, by omega⟩
   obtain ⟨r, hr, e⟩ := List.mem_map.1 (hasR_mem.1 hx)
   rw [pthN, pthR, ← e, atR_map hg _ hr, pthS, if_pos (by rw [e])]
   omega
 | @cons k x y hy _ ih =>
   intro m hm hx
   obtain ⟨m, rfl⟩ : ∃ j, m = j + 1 := ⟨m - 1, by omega⟩
   obtain ⟨r, hr, e⟩ := List.mem_map.1 (hasR_mem.1 hx)
   rw [pthN, pthR, ← e, atR_map hg _ hr, pthS]
   split
   ·omega
   ·have := fold_one (steps g (dist g t) r.id) (atR g (pthN g t m)) 0 (by omega) (by omega) (pthN_nonneg g t m) y (by rw [e]; exact hy) (ih m (by omega) (steps_has hy))
    omega
theorem unique_steps {g : Topo} (hU : uniqueR g = true) {t x y z : Int} (ht : hasR g.rs t = true) (hy : y ∈ steps g (dist g t) x) (hz : z ∈ steps g (dist g t) x) : y = z := by
 simp only [uniqueR, decide_eq_true_eq] at hU
 obtain ⟨hc, hall⟩ := hU
 have hg := chkT_zero hc
 refine Classical.byContradiction fun hne => ?_
 obtain ⟨_, hx0, h3, c, hcp, _⟩ := (mem_steps hg).1 hy
 obtain ⟨_, _, h3z, _⟩ := (mem_steps hg).1 hz
 have hx := (price_has hg hcp).1
 obtain ⟨rx, hrx, ex⟩ := List.mem_map.1 (hasR_mem.1 hx)
 obtain ⟨rt, hrt, et⟩ := List.mem_map.1 (hasR_mem.1 ht)
 have h1 := hall rx hrx rt hrt
 rw [ex, et, pathsR, if_pos ⟨hc, hx, ht⟩] at h1
 have hxt : x ≠ t := fun e => by subst e; exact hx0 (dst_self hg ht)
 obtain ⟨ky, hky⟩ := sp_some hg ht _ (Nat.le_refl _) (steps_has hy) h3
 obtain ⟨kz, hkz⟩ := sp_some hg ht _ (Nat.le_refl _) (steps_has hz) h3z
 have ly := sp_len hg ht (.cons hy hky)
 have lz := sp_len hg ht (.cons hz hkz)
 obtain ⟨m, hm⟩ : ∃ m, g.rs.length = m + 1 := ⟨g.rs.length - 1, by omega⟩
 have oy := pthN_one hg hky m (by omega) (steps_has hy)
 have oz := pthN_one hg hkz m (by omega) (steps_has hz)
 rw [hm, pthN, pthR, ← ex, atR_map hg _ hrx, pthS, if_neg (by rw [ex]; exact hxt), ex] at h1
 have := fold_two (steps g (dist g t) x) (atR g (pthN g t m)) 0 (by omega) (by omega) (pthN_nonneg g t m) y hy z hz hne oy oz
 omega
theorem costW_walk {g : Topo} {r : Int} {ws : List Int} {v : Int} (h : costW g r ws = some v) : Wk g (lastR r ws) ws.length r v := by
 induction ws generalizing r v with
 | nil => simp [costW] at h; subst h; exact .nil
 | cons w ws ih =>
   rw [costW] at h
   cases hp : price g.ls r w with
   | none => simp [hp] at h
   | some c =>
     cases hc : costW g w ws with
     | none => simp [hp, hc] at h
     | some u =>
       simp only [hp, hc, Option.some.injEq] at h
       subst h
       exact .cons hp (ih hc)
theorem costW_pre {g : Topo} (hg : g.Ok) {t : Int} (ht : hasR g.rs t = true) {r : Int} (hr : hasR g.rs r = true) : ∀ {u v : List Int} {c : Int}, lastR r (u ++ v) = t → costW g r (u ++ v) = some c → c = dst g t r → costW g r u = some (dst g (lastR r u) r) ∧ hasR g.rs (lastR r u) = true := by
 intro u v c hl hc e
 have hsplit : ∀ (u : List Int) (r c : Int), costW g r (u ++ v) = some c → ∃ c1 c2, costW g r u = some c1 ∧ costW g (lastR r u) v = some c2 ∧ c = c1 + c2 := by
  intro u
  induction u with
  | nil => intro r c h; exact ⟨0, c, rfl, h, by omega⟩
  | cons w u ih =>
    intro r c h
    rw [List.cons_append, costW] at h
    cases hp : price g.ls r w with
    | none => simp [hp] at h
    | some c0 =>
      cases hq : costW g w (u ++ v) with
      | none => simp [hp, hq] at h
      | some c3 =>
        simp only [hp, hq, Option.some.injEq] at h
        obtain ⟨c1, c2, h1, h2, h3⟩ := ih w c3 hq
        exact ⟨c0 + c1, c2, by simp [costW, hp, h1], h2, by omega⟩
 have hlast : ∀ (u : List Int) (r : Int), lastR r (u ++ v) = lastR (lastR r u) v := by
  intro u
  induction u with
  | nil => intro r; rfl
  | cons w u ih => intro r; simp only [List.cons_append, lastR]; exact ih w
 obtain ⟨c1, c2, h1, h2, h3⟩ := hsplit u r c hc
 rw [hlast] at hl
 have w1 := costW_walk h1
 have w2 := costW_walk h2
 rw [hl] at w2
 have ha : hasR g.rs (lastR r u) = true := by
  have : ∀ (u : List Int) (r : Int), hasR g.rs r = true → (∃ c, costW g r u = some c) → hasR g.rs (lastR r u) = true := by
   intro u
   induction u with
   | nil => intro r h _; exact h
   | cons w u ih =>
     rintro r h ⟨c, hc⟩
     rw [costW] at hc
     cases hp : price g.ls r w with
     | none => simp [hp] at hc
     | some c0 =>
       cases hq : costW g w u with
       | none => simp [hp, hq] at hc
       | some c3 => exact ih w (price_has hg hp).2 ⟨c3, hq⟩
  exact this u r hr ⟨c1, h1⟩
 refine ⟨?_, ha⟩
 obtain ⟨j, hj⟩ := dst_real hg ha hr (dst_walk hg ha w1).2
 obtain ⟨u2, hu2⟩ : ∃ u2, Wk g t (j + v.length) r u2 ∧ u2 = dst g (lastR r u) r + c2 := by
  have : ∀ {k : Nat} {x a : Int}, Wk g (lastR r u) k x a → Wk g t (k + v.length) x (a + c2) := fun h => by
   induction h with
   | nil => rw [Nat.zero_add, Int.zero_add]; exact w2
   | @cons k x y c v' hp _ ih => rw [show k + 1 + v.length = k + v.length + 1 by omega, Int.add_assoc]; exact .cons hp ih
  exact ⟨_, this hj, rfl⟩
 have l1 := (dst_walk hg ht hu2.1).1
 have l2 := (dst_walk hg ha w1).1
 rw [h1]; congr 1; omega
theorem costW_steps {g : Topo} (hg : g.Ok) {a : Int} (ha : hasR g.rs a = true) {r h : Int} {u : List Int} (hl : lastR r (h :: u) = a) (hc : costW g r (h :: u) = some (dst g a r)) : h ∈ steps g (dist g a) r ∧ costW g h u = some (dst g a h) := by
 rw [costW] at hc
 cases hp : price g.ls r h with
 | none => simp [hp] at hc
 | some c =>
   cases hq : costW g h u with
   | none => simp [hp, hq] at hc
   | some v =>
     simp only [hp, hq, Option.some.injEq] at hc
     have w := costW_walk hq
     simp only [lastR] at hl
     rw [hl] at w
     have h1 := dst_walk hg ha w
     have h2 := dst_link hg ha hp h1.2
     have h3 : v = dst g a h := by omega
     have h4 := price_le hg hp
     have h5 := dst_bd hg a h
     exact ⟨(mem_steps hg).2 ⟨by omega, by omega, h1.2, c, hp, by omega⟩, by rw [h3]⟩
theorem unique_way {g : Topo} (hU : uniqueR g = true) (hg : g.Ok) {a : Int} (ha : hasR g.rs a = true) : ∀ {u v : List Int} {r : Int}, lastR r u = a → lastR r v = a → costW g r u = some (dst g a r) → costW g r v = some (dst g a r) → u = v
 | [], [], _, _, _, _, _ => rfl
 | [], h :: v, r, h1, h2, h3, h4 => by
   have := (costW_steps hg ha h2 h4).1
   have h5 := ((mem_steps hg).1 this).2.1
   simp only [lastR] at h1
   subst h1
   exact absurd (dst_self hg ha) h5
 | h :: u, [], r, h1, h2, h3, h4 => by
   have := (costW_steps hg ha h1 h3).1
   have h5 := ((mem_steps hg).1 this).2.1
   simp only [lastR] at h2
   subst h2
   exact absurd (dst_self hg ha) h5
 | h :: u, k :: v, r, h1, h2, h3, h4 => by
   obtain ⟨a1, a2⟩ := costW_steps hg ha h1 h3
   obtain ⟨b1, b2⟩ := costW_steps hg ha h2 h4
   have e := unique_steps hU ha a1 b1
   subst e
   rw [unique_way hU hg ha (by simpa [lastR] using h1) (by simpa [lastR] using h2) a2 b2]
theorem together {l : List Tb} {k m : Nat} (hk : k < 64) (hm : m < 64) {ik im pl b : Int} : ∀ (n : Nat) {p : Pk} {r : Int} {u v v' : List Int}, p.ttl.toNat + 1 ≤ n → FitL l p → p.bits.getLsbD k = true → p.bits.getLsbD m = true → idAt p k = ik → idAt p m = im → plnP p = pl →
  Dl l ik pl r (u ++ b :: v) → Dl l im pl r (u ++ b :: v') → ((u ++ b :: v).length : Int) ≤ p.ttl → ∃ Z, (lastR r u, b, Z) ∈ (way l k n (r, p)).cr ∧ Z.getLsbD k = true ∧ Z.getLsbD m = true
 | 0, p, r, u, v, v', hn, _, _, _, _, _, _, _, _, _ => by omega
 | n + 1, p, r, u, v, v', hn, hF, hb, hb', hik, him, hpl, hD, hD', hlen => by
   have ht := ok_ttl hF.ok
   have key : ∀ (h : Int) (w w' : List Int), Dl l ik pl r (h :: w) → Dl l im pl r (h :: w') → ((h :: w).length : Int) ≤ p.ttl → ∃ B, findT l r = some B ∧ Fits B p ∧ hopAt B p k = h ∧ hopAt B p m = h ∧ h ≠ 0 ∧ h ≠ B.r ∧ p.ttl ≠ 0 ∧ Dl l ik pl h w ∧ Dl l im pl h w' ∧ (1 ≤ h ∧ h ≤ 99) := by
    intro h w w' g1 g2 g3
    simp only [List.length_cons] at g3
    cases g1 with
    | @next _ _ B _ a1 a2 a3 a4 a5 =>
      cases g2 with
      | next b1 b2 b3 b4 b5 =>
        rw [a1] at b1; simp at b1; subst b1
        have hB := hF.all _ (findT_mem a1).1
        have e1 : hopAt B p k = h := by rw [hopAt_eq hB.ck, hik, hpl]; exact a2
        have e2 : hopAt B p m = h := by rw [hopAt_eq hB.ck, him, hpl]; exact b2
        have hr := (hopAt_at hB.ck (k := k) (p := p) (by rw [e1]; exact a3)).2
        rw [e1] at hr
        exact ⟨_, a1, hB, e1, e2, a3, by rw [(findT_mem a1).2]; exact a4, by omega, a5, b5, hr⟩
   have hway : ∀ (h : Int) (B : Tb), findT l r = some B → hopAt B p k = h → h ≠ 0 → h ≠ B.r → p.ttl ≠ 0 → (way l k (n + 1) (r, p)).cr = (r, h, (cpk B p h).bits) :: (way l k n (h, cpk B p h)).cr := by
    intro h B g1 g2 g3 g4 g5
    rw [way]
    simp only [g1, g2]
    rw [if_neg g3, if_neg g4, if_neg g5]
    rfl
   cases u with
   | nil =>
     obtain ⟨B, g1, g2, g3, g4, g5, g6, g7, g8, g9, g10⟩ := key b v v' hD hD' hlen
     refine ⟨(cpk B p b).bits, ?_, (cpk_bit g2 hk g10).2 ⟨hb, g3⟩, (cpk_bit g2 hm g10).2 ⟨hb', g4⟩⟩
     rw [hway b B g1 g3 g5 g6 g7]; simp [lastR]
   | cons h u =>
     obtain ⟨B, g1, g2, g3, g4, g5, g6, g7, g8, g9, g10⟩ := key h (u ++ b :: v) (u ++ b :: v') hD hD' hlen
     have hlen' : ((u ++ b :: v).length : Int) ≤ (cpk B p h).ttl := by
      simp only [cpk, pkMask]
      simp only [List.cons_append, List.length_cons] at hlen ⊢
      omega
     obtain ⟨Z, z1, z2, z3⟩ := together hk hm n (p := cpk B p h) (r := h) (u := u) (v := v) (v' := v') (by simp only [cpk, pkMask]; omega) (hF.mask g7 _) ((cpk_bit g2 hk g10).2 ⟨hb, g3⟩) ((cpk_bit g2 hm g10).2 ⟨hb', g4⟩)
      (by rw [cpk, idAt_mask]; exact hik) (by rw [cpk, idAt_mask]; exact him) (by rw [cpk, plnP_mask hF.ok g7]; exact hpl) g8 g9 hlen'
     refine ⟨Z, ?_, z2, z3⟩
     rw [hway h B g1 g3 g5 g6 g7]
     exact List.mem_cons_of_mem _ z1
theorem edges_split {r a b : Int} {ws : List Int} (h : (a, b) ∈ edges r ws) : ∃ u v, ws = u ++ b :: v ∧ lastR r u = a := by
 induction ws generalizing r with
 | nil => simp [edges] at h
 | cons w ws ih =>
   rw [edges] at h
   rcases List.mem_cons.1 h with h | h
   ·simp only [Prod.mk.injEq] at h
    obtain ⟨rfl, rfl⟩ := h
    exact ⟨[], ws, rfl, rfl⟩
   ·obtain ⟨u, v, h1, h2⟩ := ih h
    exact ⟨w :: u, v, by rw [h1]; rfl, h2⟩
theorem two_filter {α : Type} {q : α → Bool} : ∀ {l : List α} {i j : Nat} {x y : α}, i < j → l[i]? = some x → l[j]? = some y → q x = true → q y = true → 2 ≤ (l.filter q).length
 | [], i, j, x, y, _, hx, _, _, _ => by simp at hx
 | a :: l, 0, j, x, y, hij, hx, hy, qx, qy => by
   simp at hx; subst hx
   obtain ⟨j, rfl⟩ : ∃ m, j = m + 1 := ⟨j - 1, by omega⟩
   have : y ∈ l.filter q := List.mem_filter.2 ⟨List.mem_of_getElem? (by simpa using hy), qy⟩
   have := List.length_pos_of_mem this
   rw [List.filter_cons, if_pos qx, List.length_cons]; omega
 | a :: l, i + 1, j, x, y, hij, hx, hy, qx, qy => by
   obtain ⟨j, rfl⟩ : ∃ m, j = m + 1 := ⟨j - 1, by omega⟩
   have := two_filter (l := l) (i := i) (j := j) (by omega) (by simpa using hx) (by simpa using hy) qx qy
   rw [List.filter_cons]; split <;> simp <;> omega
theorem cross_del {g : Topo} (hg : chkT g = 0) {p : Pn} (hp : planB p = true) {q : Pk} (hF : FitL (tabs g p g.rs) q) (ht : (g.rs.length : Int) ≤ q.ttl) {r : Int} {k : Nat} (hk : k < 64) (hb : q.bits.getLsbD k = true) (hne : (way (tabs g p g.rs) k (q.ttl.toNat + 1) (r, q)).cr ≠ []) :
  ∃ ws, Dl (tabs g p g.rs) (idAt q k) (plnP q) r ws ∧ (ws.length : Int) ≤ q.ttl := by
 have hO := chkT_zero hg
 rcases way_end hk hF hb r with ⟨ws, h1, h2, _⟩ | ⟨h1, _⟩
 ·exact ⟨ws, h1, h2⟩
 ·exfalso
  have hnd : ∀ ws, ¬ Dl (tabs g p g.rs) (idAt q k) (plnP q) r ws := fun ws hw => by
   have := h1 ws hw
   have l1 := hw.len
   have l2 := tabs_len g p
   omega
  apply hne
  rw [way]
  cases hf : findT (tabs g p g.rs) r with
  | none => rfl
  | some b =>
    have hB := hF.all b (findT_mem hf).1
    have hfe := hf
    rw [tabs_find hO] at hfe
    split at hfe
    ·rename_i hr
     simp only [Option.some.injEq] at hfe
     have e := hopAt_eq (p := q) hB.ck k
     have hrh := cap_has hO hr
     have c0 : hopAt b q k = 0 := by
      rw [e, ← hfe]
      by_cases hex : ∃ x ∈ p.es, x.id = idAt q k
      ·obtain ⟨x, hx, hid⟩ := hex
       rw [← hid]
       rcases build_hop hg hp hx hrh (plnP q) with ⟨a1, a2⟩ | ⟨a1, a2, a3, a4⟩ | ⟨a1, a2, a3⟩
       ·exfalso
        have hz : r ≠ 0 := by have := hO.id hrh; unfold inR at this; omega
        exact hnd [] (.here hf (by rw [← hfe, ← hid]; exact a2) hz)
       ·exfalso
        obtain ⟨ws, hw, _⟩ := dl_right hg hp hx a2 (plnP q) _ (Nat.le_refl _) hr a3
        rw [hid] at hw
        exact hnd ws hw
       ·exact a3
      ·rw [hopB, build_none (fun x hx hid => hex ⟨x, hx, hid⟩)]
       simp [hopR]
     simp only [c0, if_true]
    ·simp at hfe
theorem sparse {g : Topo} (hU : uniqueR g = true) (hA : AllCap g) {p : Pn} (hp : planB p = true) {q : Pk} (hF : FitL (tabs g p g.rs) q) (ht : (g.rs.length : Int) ≤ q.ttl) {r : Int} (hr : (findT (tabs g p g.rs) r).isSome) {i j : Nat} (hij : i < j) {x y : Int × Int × BitVec 64}
  (hx : (runG (tabs g p g.rs) (wt q) [(r, q)] tr0).cr[i]? = some x) (hy : (runG (tabs g p g.rs) (wt q) [(r, q)] tr0).cr[j]? = some y) : ¬ (x.1 = y.1 ∧ x.2.1 = y.2.1) := by
 rintro ⟨e1, e2⟩
 have hg : chkT g = 0 := by
  simp only [uniqueR, decide_eq_true_eq] at hU; exact hU.1
 have hO := chkT_zero hg
 have hall := (run_all hF hr).cr
 have hrc : capR g.rs r = true := by
  rw [tabs_find hO] at hr
  split at hr
  ·assumption
  ·simp at hr
 have hrh := cap_has hO hrc
 have bitOf : ∀ {n : Nat} {z : Int × Int × BitVec 64}, (runG (tabs g p g.rs) (wt q) [(r, q)] tr0).cr[n]? = some z → ∃ k < 64, z.2.2.getLsbD k = true := fun {n z} hz => by
  obtain ⟨t1, t2, _⟩ := tz_spec (hall z (List.mem_of_getElem? hz))
  exact ⟨_, t1, t2⟩
 have wayOf : ∀ {n : Nat} {z : Int × Int × BitVec 64} {k : Nat}, (runG (tabs g p g.rs) (wt q) [(r, q)] tr0).cr[n]? = some z → k < 64 → z.2.2.getLsbD k = true → q.bits.getLsbD k = true ∧ ∃ ws, Dl (tabs g p g.rs) (idAt q k) (plnP q) r ws ∧ (ws.length : Int) ≤ q.ttl ∧ (z.1, z.2.1) ∈ edges r ws := fun {n z k} hz hk hzk => by
  have hm : z ∈ ((runG (tabs g p g.rs) (wt q) [(r, q)] tr0).at k).cr := List.mem_filter.2 ⟨List.mem_of_getElem? hz, hzk⟩
  have hb : q.bits.getLsbD k = true := Classical.byContradiction fun hb => by
   rw [run_off hF r hk hb] at hm; simp [tr0] at hm
  refine ⟨hb, ?_⟩
  rw [run_at hF r hk hb] at hm
  obtain ⟨ws, h1, h2⟩ := cross_del hg hp hF ht hk hb (List.ne_nil_of_mem hm)
  refine ⟨ws, h1, h2, ?_⟩
  rw [← (way_del hk _ (Nat.le_refl _) hF hb rfl rfl h1 h2).cr]
  exact List.mem_map.2 ⟨z, hm, rfl⟩
 obtain ⟨k, hk, hxk⟩ := bitOf hx
 obtain ⟨m, hm, hym⟩ := bitOf hy
 obtain ⟨bk, wk, dk, lk, ek⟩ := wayOf hx hk hxk
 obtain ⟨bm, wm, dm, lm, em⟩ := wayOf hy hm hym
 obtain ⟨u, v, s1, s2⟩ := edges_split ek
 obtain ⟨u', v', s1', s2'⟩ := edges_split em
 obtain ⟨ed, hed, _, hlk, hck⟩ := dl_cost hg hA hp dk
 obtain ⟨ed', hed', _, hlm, hcm⟩ := dl_cost hg hA hp dm
 obtain ⟨e0, _, _, z1, zc, _, _⟩ := dl_wrong hg hp dk
 obtain ⟨e0', _, _, z1', zc', _, _⟩ := dl_wrong hg hp dm
 have hth : hasR g.rs ed.r = true := cap_has hO (by rw [← hlk, z1]; exact zc)
 have hth' : hasR g.rs ed'.r = true := cap_has hO (by rw [← hlm, z1']; exact zc')
 subst s1 s1'
 obtain ⟨p1, p2⟩ := costW_pre hO hth hrh (u := u) (v := x.2.1 :: v) hlk hck rfl
 obtain ⟨p1', p2'⟩ := costW_pre hO hth' hrh (u := u') (v := y.2.1 :: v') hlm hcm rfl
 rw [s2] at p1 p2
 rw [s2'] at p1' p2'
 have euu : u = u' := unique_way hU hO p2 s2 (by rw [s2', e1]) p1 (by rw [p1', e1])
 subst euu
 rw [← e2] at dm lm
 obtain ⟨Z, z3, z4, z5⟩ := together hk hm _ (Nat.le_refl _) hF bk bm rfl rfl rfl dk dm lk
 rw [← run_at hF r hk bk] at z3
 have z3' := (List.mem_filter.1 z3).1
 obtain ⟨n, hn, hnz⟩ := List.mem_iff_getElem.1 z3'
 have hz : (runG (tabs g p g.rs) (wt q) [(r, q)] tr0).cr[n]? = some (lastR r u, x.2.1, Z) := by rw [List.getElem?_eq_getElem hn, hnz]
 have ok1 := cross_once hF hk bk dk lk ek
 have ok2 := cross_once hF hm bm (by rw [e2] at dm; exact dm) (by rw [e2] at lm; exact lm) em
 have q1 : n = i := Classical.byContradiction fun hne => by
  have := two_filter (q := fun c : Int × Int × BitVec 64 => decide (c.1 = x.1 ∧ c.2.1 = x.2.1) && c.2.2.getLsbD k) (i := min n i) (j := max n i) (l := (runG (tabs g p g.rs) (wt q) [(r, q)] tr0).cr) (by omega)
   (x := if n < i then (lastR r u, x.2.1, Z) else x) (y := if n < i then x else (lastR r u, x.2.1, Z))
   (by split <;> rename_i h
       ·rw [Nat.min_eq_left (by omega)]; exact hz
       ·rw [Nat.min_eq_right (by omega)]; exact hx)
   (by split <;> rename_i h
       ·rw [Nat.max_eq_right (by omega)]; exact hx
       ·rw [Nat.max_eq_left (by omega)]; exact hz)
   (by split <;> simp [s2, z4, hxk]) (by split <;> simp [s2, z4, hxk])
  omega
 subst q1
 rw [hx] at hz
 simp only [Option.some.injEq] at hz
 have hxm : x.2.2.getLsbD m = true := by rw [hz]; exact z5
 have := two_filter (q := fun c : Int × Int × BitVec 64 => decide (c.1 = y.1 ∧ c.2.1 = y.2.1) && c.2.2.getLsbD m) hij hx hy (by simp [e1, e2, hxm]) (by simp [hym])
 omega
end Go.Proofs

set_option linter.unusedSimpArgs false
set_option maxRecDepth 100000
set_option maxHeartbeats 2000000
namespace Go.Proofs
open Go Go.Tr
structure PlanV (rs : List Rt) (p : Pn) : Prop where
 subd : 0 ≤ p.subd ∧ p.subd ≤ 7
 len : validLen p.len = true
 n : p.es.length ≤ 24
 rt : ∀ e ∈ p.es, 1 ≤ e.r ∧ e.r ≤ 99
 ids : ∀ e ∈ p.es, 1 ≤ e.id ∧ e.id ≤ 256
 asc : p.es.Pairwise fun a b => a.id < b.id
 nod : (p.es.map (·.r)).Nodup
theorem planB_of {rs : List Rt} {p : Pn} (h : PlanV rs p) : planB p = true := by
 have gi : ∀ i (hi : i < p.es.length), gid p.es i = p.es[i].id ∧ grt p.es i = p.es[i].r := fun i hi => by simp [gid, grt, List.getD, hi]
 refine planB_ok (by simp [baseB, inB, h.subd, h.len, h.n]) (fun i hi => ?_) (fun i j hj hi => ?_)
 ·have h1 := h.ids p.es[i] (List.getElem_mem hi)
  have h2 := h.rt p.es[i] (List.getElem_mem hi)
  have h3 := gi i hi
  by_cases h0 : i = 0
  ·simp [edB, inB, h3, h1, h2, h0]
   subst h0
   simp [h3, h1, h2]
  ·have h4 := gi (i - 1) (by omega)
   have h5 := List.pairwise_iff_getElem.1 h.asc (i - 1) i (by omega) hi (by omega)
   simp [edB, inB, h3, h1, h2, h0, h4, h5]
 ·rw [(gi i hi).2, (gi j (by omega)).2]
  have := List.pairwise_iff_getElem.1 h.nod j i (by simp; omega) (by simpa using hi) hj
  simp only [List.getElem_map] at this
  exact fun e => this e.symm
theorem gOrderL_nodup : ∀ (n i : Nat) (T : Tp) (l : List Int), l.Nodup → (∀ x ∈ l, x < (i : Int)) → (gOrderL n i T l).1.Nodup
 | 0, _, _, _, h, _ => h
 | n + 1, i, T, l, h, hb => by
   rw [gOrderL]
   generalize (gNext T (i + 1)).1.toNat = k
   have hs : (l.take k ++ l.drop k).Nodup := by rw [List.take_append_drop]; exact h
   have hi : (i : Int) ∉ l := fun hm => by have := hb _ hm; omega
   refine gOrderL_nodup n (i + 1) _ _ ?_ fun x hx => ?_
   ·rw [List.nodup_append] at hs ⊢
    obtain ⟨h1, h2, h3⟩ := hs
    refine ⟨?_, h2, fun a ha b hb' => ?_⟩
    ·rw [List.nodup_append]
     refine ⟨h1, by simp, fun a ha b hb' => ?_⟩
     simp at hb'; subst hb'
     intro e; subst e
     exact hi (List.mem_of_mem_take ha)
    ·rcases List.mem_append.1 ha with ha | ha
     ·exact h3 a ha b hb'
     ·simp at ha; subst ha
      intro e; subst e
      exact hi (List.mem_of_mem_drop hb')
   ·simp only [List.mem_append, List.mem_singleton] at hx
    rcases hx with (hx | hx) | hx
    ·have := hb x (List.mem_of_mem_take hx); omega
    ·omega
    ·have := hb x (List.mem_of_mem_drop hx); omega
theorem gRts_get (k : Nat) {i : Nat} (h : i < k) (d : Rt) : ((gRts k).getD i d).id = (i : Int) + 1 := by
 simp [gRts, List.getD, h]
structure PlI (k : Nat) (o : List Int) (id : Int) (l : List Ed) : Prop where
 pos : 0 ≤ id
 rt : ∀ e ∈ l, 1 ≤ e.r ∧ e.r ≤ k ∧ e.r - 1 ∉ o
 ids : ∀ e ∈ l, 1 ≤ e.id ∧ e.id ≤ 256 ∧ e.id ≤ id
 asc : l.Pairwise fun a b => a.id < b.id
 nod : (l.map (·.r)).Nodup
theorem plI_loop (k : Nat) (len : Int) (hl : 8 ≤ len) : ∀ (o : List Int) (T : Tp) (id : Int) (l : List Ed), o.Nodup → (∀ x ∈ o, 0 ≤ x ∧ x < (k : Int)) → PlI k o id l →
  PlI k [] (gPlanL (gRts k) len o T id l).2.1 (gPlanL (gRts k) len o T id l).1
 | [], T, id, l, _, _, h => h
 | x :: o, T, id, l, hn, hb, h => by
   rw [List.nodup_cons] at hn
   rw [gPlanL]
   have hbx := hb x (by simp)
   refine plI_loop k len hl o _ _ _ hn.2 (fun y hy => hb y (by simp [hy])) ?_
   unfold gPlanS
   simp only
   have h0 : PlI k o id l := ⟨h.pos, fun e he => by have := h.rt e he; simp at this; exact ⟨this.1, this.2.1, this.2.2.2⟩, h.ids, h.asc, h.nod⟩
   split
   ·exact h0
   ·have bp : 1 ≤ (gPick (gNext T 4).2 [1, 1, 1, 2, len - 1]).1 := gPick_all (p := fun x => 1 ≤ x) (by simp) (by simp; omega)
    simp only
    generalize gPick (gNext T 4).2 [1, 1, 1, 2, len - 1] = p at bp ⊢
    split
    ·rename_i hid
     have hr : ((gRts k).getD x.toNat ⟨0, false⟩).id = x + 1 := by rw [gRts_get k (by omega)]; omega
     rw [hr]
     refine ⟨by have := h.pos; first | omega | (simp only; omega), fun e he => ?_, fun e he => ?_, ?_, ?_⟩
     ·simp only [List.mem_append, List.mem_singleton] at he
      rcases he with he | rfl
      ·exact h0.rt e he
      ·refine ⟨by first | omega | (simp only; omega), by first | omega | (simp only; omega), ?_⟩
       rw [show (x + 1 - 1 : Int) = x by omega]
       exact hn.1
     ·simp only [List.mem_append, List.mem_singleton] at he
      rcases he with he | rfl
      ·have := h.ids e he; first | omega | (simp only; omega)
      ·have := h.pos; first | omega | (simp only; omega)
     ·rw [List.pairwise_append]
      refine ⟨h.asc, by simp, fun a ha b hb' => ?_⟩
      simp at hb'; subst hb'
      have := h.ids a ha
      first | omega | (simp only; omega)
     ·rw [List.map_append, List.nodup_append]
      refine ⟨h.nod, by simp, fun a ha b hb' => ?_⟩
      simp at hb'; subst hb'
      obtain ⟨e, he, rfl⟩ := List.mem_map.1 ha
      have := (h.rt e he).2.2
      intro e1
      apply this
      rw [e1]
      simp
    ·exact ⟨by have := h.pos; first | omega | (simp only; omega), h0.rt, fun e he => by have := h.ids e he; first | omega | (simp only; omega), h.asc, h.nod⟩
theorem gPlan0_valid (T : Tp) {k : Nat} (hk : k ≤ 24) : PlanV (gRts k) (gPlan0 T (gRts k)).1 := by
 have hl : ((8 : Int) ≤ (gPick (gNext T 3).2 [8, 8, 16, 32, 64]).1) ∧ validLen (gPick (gNext T 3).2 [8, 8, 16, 32, 64]).1 = true := gPick_all (p := fun x => (8 : Int) ≤ x ∧ validLen x = true) (by simp) (by simp; decide)
 have h1 := gNext_nonneg T 3
 have h2 := gNext_lt T (n := 3) (by omega)
 have hln := gPlan0_len T (gRts k)
 rw [gRts_len] at hln
 have hord := gOrder_mem (gPick (gNext T 3).2 [8, 8, 16, 32, 64]).2 k
 have hnd : (gOrder (gPick (gNext T 3).2 [8, 8, 16, 32, 64]).2 k).1.Nodup := gOrderL_nodup _ _ _ _ (by simp) (by simp)
 have hI := plI_loop k _ hl.1 _ (gOrder (gPick (gNext T 3).2 [8, 8, 16, 32, 64]).2 k).2 0 [] hnd hord ⟨by omega, by simp, by simp, by simp, by simp⟩
 refine ⟨by simp only [gPlan0]; omega, hl.2, by omega, fun e he => ?_, fun e he => ?_, ?_, ?_⟩
 ·have he' : e ∈ (gPlanL (gRts k) (gPick (gNext T 3).2 [8, 8, 16, 32, 64]).1 (gOrder (gPick (gNext T 3).2 [8, 8, 16, 32, 64]).2 k).1 (gOrder (gPick (gNext T 3).2 [8, 8, 16, 32, 64]).2 k).2 0 []).1 := by simpa [gPlan0] using he
  have := hI.rt e he'
  omega
 ·have he' : e ∈ (gPlanL (gRts k) (gPick (gNext T 3).2 [8, 8, 16, 32, 64]).1 (gOrder (gPick (gNext T 3).2 [8, 8, 16, 32, 64]).2 k).1 (gOrder (gPick (gNext T 3).2 [8, 8, 16, 32, 64]).2 k).2 0 []).1 := by simpa [gPlan0] using he
  have := hI.ids e he'
  omega
 ·simpa [gPlan0] using hI.asc
 ·simpa [gPlan0] using hI.nod
end Go.Proofs

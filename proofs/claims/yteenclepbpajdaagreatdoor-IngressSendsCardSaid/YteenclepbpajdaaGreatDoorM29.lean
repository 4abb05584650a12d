/-
  What functions of the program compute, stated as contracts over plain data; the conditions of each stand in its own statement.
-/
import Derived.Test.YteenclepbpajdaaGreatDoorM28
set_option linter.unusedSimpArgs false
set_option linter.unusedVariables false
namespace Go.Proofs
def Trc.at (t : Trc) (k : Nat) : Trc := ⟨t.dl.filter fun d => d.2.bits.getLsbD k, t.cr.filter fun c => c.2.2.getLsbD k, t.ls.filter fun x => x.2.getLsbD k⟩
def Trc.app (t u : Trc) : Trc := ⟨t.dl ++ u.dl, t.cr ++ u.cr, t.ls ++ u.ls⟩
theorem Trc.app_nil (t : Trc) : t.app tr0 = t := by simp [Trc.app, tr0]
theorem Trc.app_assoc (t u v : Trc) : (t.app u).app v = t.app (u.app v) := by simp [Trc.app]
structure FitL (l : List Tb) (p : Pk) : Prop where
 ok : p.ok = true
 all : ∀ b ∈ l, Fits b p
theorem FitL.mask {l : List Tb} {p : Pk} (h : FitL l p) (ht : p.ttl ≠ 0) (m : BitVec 64) : FitL l (pkMask p m) := ⟨mask_ok h.ok ht m, fun b hb => (h.all b hb).mask (h.all b hb) ht m⟩
noncomputable def way (l : List Tb) (k : Nat) : Nat → Int × Pk → Trc
 | 0, _ => tr0
 | n + 1, q => match findT l q.1 with
   | none => ⟨[], [], [(q.1, q.2.bits)]⟩
   | some b => if hopAt b q.2 k = 0 then ⟨[], [], [(q.1, (fwdV b q.2).lost)]⟩
     else if hopAt b q.2 k = b.r then ⟨[(q.1, onlyR q.2 k)], [], []⟩
     else if q.2.ttl = 0 then ⟨[], [], [(q.1, (fwdV b q.2).lost)]⟩
     else (⟨[], [(q.1, hopAt b q.2 k, (cpk b q.2 (hopAt b q.2 k)).bits)], []⟩ : Trc).app (way l k n (hopAt b q.2 k, cpk b q.2 (hopAt b q.2 k)))
noncomputable def wayQ (l : List Tb) (k : Nat) : List (Int × Pk) → Trc
 | [] => tr0
 | q :: _ => way l k (q.2.ttl.toNat + 1) q
theorem filter_nodup {α : Type} [DecidableEq α] {l : List α} (h : l.Nodup) (a : α) : l.filter (fun x => decide (x = a)) = if a ∈ l then [a] else [] := by
 induction l with
 | nil => simp
 | cons x l ih =>
   rw [List.nodup_cons] at h
   rw [List.filter_cons, ih h.2]
   by_cases e : x = a
   ·subst e; simp [h.1]
   ·simp [e, Ne.symm e]
theorem bitsL_nodup (B : BitVec 64) : (bitsL B).Nodup := List.nodup_range.sublist List.filter_sublist
theorem mem_bitsL {B : BitVec 64} {k : Nat} : k ∈ bitsL B ↔ k < 64 ∧ B.getLsbD k = true := by simp [bitsL]
theorem onlyR_eq {p : Pk} (h : p.ok = true) {j : Nat} (hj : j < 64) (hb : p.bits.getLsbD j = true) : onlyR p j = ⟨p.mode, p.subd, p.set, p.len, p.ttl, p.ent, p.ing, p.proto, 1#64 <<< j, p.pay⟩ := by
 rw [onlyR, if_pos ⟨h, by omega, by omega, by simpa using hb⟩]; simp
theorem locV_at {p : Pk} (h : p.ok = true) {o : Out} (ho : ∀ k < 64, o.loc.getLsbD k = true → p.bits.getLsbD k = true) (r : Int) {k : Nat} (hk : k < 64) :
  (locV r o p).filter (fun d => d.2.bits.getLsbD k) = if o.loc.getLsbD k = true then [(r, onlyR p k)] else [] := by
 have e : (locV r o p).filter (fun d => d.2.bits.getLsbD k) = ((bitsL o.loc).filter fun j => decide (j = k)).map fun (j : Nat) => (r, onlyR p j) := by
  unfold locV bitsI
  rw [List.map_map, List.filter_map]
  congr 1
  apply List.filter_congr
  intro j hj
  obtain ⟨h1, h2⟩ := mem_bitsL.1 hj
  show (onlyR p (Int.ofNat j)).bits.getLsbD k = _
  have := onlyR_eq h h1 (ho j h1 h2)
  simp only [Int.ofNat_eq_natCast] at *
  rw [this]
  show (1#64 <<< j).getLsbD k = _
  rw [bit_one h1 hk]
  by_cases e : k = j
  ·subst e; simp
  ·simp [e, Ne.symm e]
 rw [e, filter_nodup (bitsL_nodup _)]
 by_cases hl : o.loc.getLsbD k = true
 ·rw [if_pos (mem_bitsL.2 ⟨hk, hl⟩), if_pos hl]; rfl
 ·rw [if_neg (fun a => hl (mem_bitsL.1 a).2), if_neg hl]; rfl
theorem FwdI.hop {b : Tb} {p : Pk} (h : Fits b p) {o : Out} (hF : FwdI b p out0 o p.bits) {k : Nat} (hk : k < 64) :
  o.cps.filter (fun c => c.2.bits.getLsbD k) = if p.bits.getLsbD k = true ∧ p.ttl ≠ 0 ∧ hopAt b p k ≠ 0 ∧ hopAt b p k ≠ b.r then [(hopAt b p k, cpk b p (hopAt b p k))] else [] := by
 obtain ⟨H, h1, h2, h3⟩ := hF.cps
 rw [h1]
 simp only [out0, List.nil_append]
 rw [List.filter_map]
 by_cases hb : p.bits.getLsbD k = true
 ·have e : H.filter ((fun c : Int × Pk => c.2.bits.getLsbD k) ∘ fun x => (x, cpk b p x)) = H.filter fun x => decide (x = hopAt b p k) := by
   apply List.filter_congr
   intro x hx
   obtain ⟨_, a1, a2, j, hj, a3, a4⟩ := (h3 x).1 hx
   have hr := (hopAt_at h.ck (k := j) (p := p) (by rw [a4]; exact a1)).2
   rw [a4] at hr
   show (cpk b p x).bits.getLsbD k = _
   rw [Bool.eq_iff_iff, cpk_bit h hk hr]
   simp [hb, eq_comm]
  rw [e, filter_nodup h2]
  by_cases hc : p.ttl ≠ 0 ∧ hopAt b p k ≠ 0 ∧ hopAt b p k ≠ b.r
  ·rw [if_pos ((h3 _).2 ⟨hc.1, hc.2.1, hc.2.2, k, hk, hb, rfl⟩), if_pos ⟨hb, hc⟩]; rfl
  ·rw [if_neg (fun a => hc ⟨((h3 _).1 a).1, ((h3 _).1 a).2.1, ((h3 _).1 a).2.2.1⟩), if_neg (fun a => hc a.2)]; rfl
 ·rw [if_neg (fun a => hb a.1)]
  simp only [List.map_eq_nil_iff, List.filter_eq_nil_iff]
  intro x hx hc
  obtain ⟨_, a1, a2, j, hj, a3, a4⟩ := (h3 x).1 hx
  have hr := (hopAt_at h.ck (k := j) (p := p) (by rw [a4]; exact a1)).2
  rw [a4] at hr
  exact hb ((cpk_bit h hk hr).1 hc).1
theorem lost_at (l : List (Int × BitVec 64)) (r : Int) (B : BitVec 64) (k : Nat) :
  (if B = 0#64 then l else l ++ [(r, B)]).filter (fun x => x.2.getLsbD k) = l.filter (fun x => x.2.getLsbD k) ++ if B.getLsbD k = true then [(r, B)] else [] := by
 by_cases h : B = 0#64
 ·subst h; simp
 ·rw [if_neg h, List.filter_append, List.filter_cons]
  split <;> simp
theorem step_some {l : List Tb} {q : Int × Pk} {b : Tb} (hF : FitL l q.2) (hf : findT l q.1 = some b) (t : Trc) {k : Nat} (hk : k < 64) :
  (stepT l q t).at k = (t.at k).app ⟨if (fwdV b q.2).loc.getLsbD k = true then [(q.1, onlyR q.2 k)] else [], ((nextQ l q).filter fun c => c.2.bits.getLsbD k).map (fun c => (q.1, c.1, c.2.bits)), if (fwdV b q.2).lost.getLsbD k = true then [(q.1, (fwdV b q.2).lost)] else []⟩ := by
 have hb := hF.all b (findT_mem hf).1
 obtain ⟨h1, h2⟩ := fwd_spec hb
 have hn : nextQ l q = (fwdV b q.2).cps := by simp [nextQ, hf, h1]
 rw [hn]
 simp only [stepT, hf, h1, Trc.at, Trc.app, List.filter_append]
 rw [locV_at hF.ok (fun k hk a => by
  rcases (h2.loc k hk).1 a with a | a
  ·simp [out0] at a
  ·exact a.1) q.1 hk, lost_at, List.filter_map]
 rfl
theorem step_in {l : List Tb} {q : Int × Pk} (hF : FitL l q.2) (t : Trc) {k : Nat} (hk : k < 64) (hq : q.2.bits.getLsbD k = true) :
  ((nextQ l q).filter fun c => c.2.bits.getLsbD k).length ≤ 1 ∧ ((stepT l q t).at k).app (wayQ l k ((nextQ l q).filter fun c => c.2.bits.getLsbD k)) = (t.at k).app (way l k (q.2.ttl.toNat + 1) q) := by
 cases hf : findT l q.1 with
 | none =>
   have hn : nextQ l q = [] := by simp [nextQ, hf]
   rw [hn]
   refine ⟨by simp, ?_⟩
   simp [stepT, hf, way, Trc.at, Trc.app, wayQ, tr0, List.filter_append, List.filter_cons, hq]
 | some b =>
   have hb := hF.all b (findT_mem hf).1
   obtain ⟨h1, h2⟩ := fwd_spec hb
   have hn : nextQ l q = (fwdV b q.2).cps := by simp [nextQ, hf, h1]
   rw [step_some hF hf t hk, hn, h2.hop hb hk, Trc.app_assoc]
   have hl := h2.loc k hk
   have hs := h2.lost k hk
   simp only [out0, BitVec.getLsbD_zero, Bool.false_eq_true, false_or, hq, true_and] at hl hs
   by_cases c0 : hopAt b q.2 k = 0
   ·have l1 : ¬ (fwdV b q.2).loc.getLsbD k = true := fun a => (hl.1 a).1 c0
    have l2 : (fwdV b q.2).lost.getLsbD k = true := hs.2 (.inl c0)
    rw [if_neg l1, if_neg (fun a => a.2.2.1 c0), if_pos l2]
    refine ⟨by simp, ?_⟩
    simp [way, hf, c0, wayQ, Trc.app, tr0]
   by_cases c1 : hopAt b q.2 k = b.r
   ·have l1 : (fwdV b q.2).loc.getLsbD k = true := hl.2 ⟨c0, c1⟩
    have l2 : ¬ (fwdV b q.2).lost.getLsbD k = true := fun a => by
     rcases hs.1 a with a | a
     ·exact c0 a
     ·exact a.1 c1
    rw [if_pos l1, if_neg (fun a => a.2.2.2 c1), if_neg l2]
    refine ⟨by simp, ?_⟩
    simp only [way, hf, if_neg c0, if_pos c1]
    simp [wayQ, Trc.app, tr0]
   have l1 : ¬ (fwdV b q.2).loc.getLsbD k = true := fun a => c1 (hl.1 a).2
   by_cases c2 : q.2.ttl = 0
   ·have l2 : (fwdV b q.2).lost.getLsbD k = true := hs.2 (.inr ⟨c1, c2⟩)
    rw [if_neg l1, if_neg (fun a => a.2.1 c2), if_pos l2]
    refine ⟨by simp, ?_⟩
    simp only [way, hf, if_neg c0, if_neg c1, if_pos c2]
    simp [wayQ, Trc.app, tr0]
   ·have l2 : ¬ (fwdV b q.2).lost.getLsbD k = true := fun a => by
     rcases hs.1 a with a | a
     ·exact c0 a
     ·exact c2 a.2
    rw [if_neg l1, if_pos ⟨hq, c2, c0, c1⟩, if_neg l2]
    refine ⟨by simp, ?_⟩
    have ht := ok_ttl hF.ok
    have e : (cpk b q.2 (hopAt b q.2 k)).ttl.toNat + 1 = q.2.ttl.toNat := by simp only [cpk, pkMask]; omega
    rw [way]
    simp only [hf, if_neg c0, if_neg c1, if_neg c2, wayQ, e, List.map_cons, List.map_nil]
theorem step_out {l : List Tb} {q : Int × Pk} (hF : FitL l q.2) (t : Trc) {k : Nat} (hk : k < 64) (hq : ¬ q.2.bits.getLsbD k = true) :
  ((nextQ l q).filter fun c => c.2.bits.getLsbD k) = [] ∧ (stepT l q t).at k = t.at k := by
 cases hf : findT l q.1 with
 | none =>
   have hn : nextQ l q = [] := by simp [nextQ, hf]
   rw [hn]
   refine ⟨by simp, ?_⟩
   simp [stepT, hf, Trc.at, List.filter_append, List.filter_cons, hq]
 | some b =>
   have hb := hF.all b (findT_mem hf).1
   obtain ⟨h1, h2⟩ := fwd_spec hb
   have hn : nextQ l q = (fwdV b q.2).cps := by simp [nextQ, hf, h1]
   have hl := h2.loc k hk
   have hs := h2.lost k hk
   simp only [out0, BitVec.getLsbD_zero, Bool.false_eq_true, false_or, hq, false_and, iff_false] at hl hs
   rw [step_some hF hf t hk, hn, h2.hop hb hk, if_neg (fun a => hq a.1), if_neg hl, if_neg hs]
   exact ⟨rfl, Trc.app_nil _⟩
theorem next_fit {l : List Tb} {q : Int × Pk} (hF : FitL l q.2) : ∀ c ∈ nextQ l q, FitL l c.2 := fun c hc => by
 cases hf : findT l q.1 with
 | none => simp [nextQ, hf] at hc
 | some b =>
   have hb := hF.all b (findT_mem hf).1
   obtain ⟨h1, h2⟩ := fwd_spec hb
   have hn : nextQ l q = (fwdV b q.2).cps := by simp [nextQ, hf, h1]
   obtain ⟨H, h3, h4, h5⟩ := h2.cps
   rw [hn, h3] at hc
   simp only [out0, List.nil_append, List.mem_map] at hc
   obtain ⟨x, hx, rfl⟩ := hc
   exact hF.mask ((h5 x).1 hx).1 _
theorem runG_at (l : List Tb) {k : Nat} (hk : k < 64) : ∀ (n : Nat) (Q : List (Int × Pk)) (t : Trc), wsum Q ≤ n → (∀ q ∈ Q, FitL l q.2) → (Q.filter fun c => c.2.bits.getLsbD k).length ≤ 1 →
  (runG l n Q t).at k = (t.at k).app (wayQ l k (Q.filter fun c => c.2.bits.getLsbD k))
 | 0, Q, t, h, _, _ => by
   have := len_wsum Q
   obtain rfl : Q = [] := List.length_eq_zero_iff.1 (by omega)
   simp [runG_nil, wayQ, Trc.app_nil]
 | n + 1, [], t, _, _, _ => by simp [runG_nil, wayQ, Trc.app_nil]
 | n + 1, q :: Q, t, h, hF, h1 => by
   have hq := nextQ_wt l q
   rw [wsum_cons] at h
   have hFq := hF q (by simp)
   have hF' : ∀ c ∈ Q ++ nextQ l q, FitL l c.2 := fun c hc => by
    rcases List.mem_append.1 hc with hc | hc
    ·exact hF c (by simp [hc])
    ·exact next_fit hFq c hc
   rw [runG]
   have hw : wsum (Q ++ nextQ l q) ≤ n := by rw [wsum_app]; omega
   by_cases hb : q.2.bits.getLsbD k = true
   ·rw [List.filter_cons, if_pos hb] at h1 ⊢
    simp only [List.length_cons] at h1
    have hQ : Q.filter (fun c => c.2.bits.getLsbD k) = [] := List.length_eq_zero_iff.1 (by omega)
    obtain ⟨a1, a2⟩ := step_in hFq t hk hb
    rw [runG_at l hk n _ _ hw hF' (by rw [List.filter_append, hQ]; simpa using a1), List.filter_append, hQ, List.nil_append, a2]
    rfl
   ·rw [List.filter_cons, if_neg hb] at h1 ⊢
    obtain ⟨a1, a2⟩ := step_out hFq t hk hb
    rw [runG_at l hk n _ _ hw hF' (by rw [List.filter_append, a1, List.append_nil]; exact h1), List.filter_append, a1, List.append_nil, a2]
theorem run_at {l : List Tb} {p : Pk} (hF : FitL l p) (r : Int) {k : Nat} (hk : k < 64) (hb : p.bits.getLsbD k = true) : (runG l (wt p) [(r, p)] tr0).at k = way l k (p.ttl.toNat + 1) (r, p) := by
 rw [runG_at l hk _ _ _ (by simp [wsum]) (by simpa using hF) (by simp [List.filter_cons]; split <;> simp)]
 simp [List.filter_cons, hb, wayQ, Trc.at, tr0, Trc.app]
theorem run_off {l : List Tb} {p : Pk} (hF : FitL l p) (r : Int) {k : Nat} (hk : k < 64) (hb : ¬ p.bits.getLsbD k = true) : (runG l (wt p) [(r, p)] tr0).at k = tr0 := by
 rw [runG_at l hk _ _ _ (by simp [wsum]) (by simpa using hF) (by simp [List.filter_cons, hb])]
 simp [List.filter_cons, hb, wayQ, Trc.at, tr0, Trc.app]
end Go.Proofs

set_option linter.unusedSimpArgs false
set_option linter.unusedVariables false
namespace Go.Proofs
inductive Dl (l : List Tb) (id pl : Int) : Int → List Int → Prop
 | here {r : Int} {b : Tb} : findT l r = some b → hopB b id pl = r → r ≠ 0 → Dl l id pl r []
 | next {r h : Int} {b : Tb} {ws : List Int} : findT l r = some b → hopB b id pl = h → h ≠ 0 → h ≠ r → Dl l id pl h ws → Dl l id pl r (h :: ws)
theorem Dl.det {l : List Tb} {id pl r : Int} {ws : List Int} (h : Dl l id pl r ws) : ∀ {us : List Int}, Dl l id pl r us → ws = us := by
 induction h with
 | here h1 h2 h3 =>
   intro us g
   cases g with
   | here => rfl
   | next g1 g2 g3 g4 _ =>
     rw [h1] at g1; simp at g1; subst g1
     exact absurd (g2.symm.trans h2) g4
 | next h1 h2 h3 h4 _ ih =>
   intro us g
   cases g with
   | here g1 g2 g3 =>
     rw [h1] at g1; simp at g1; subst g1
     exact absurd (h2.symm.trans g2) h4
   | next g1 g2 g3 g4 g5 =>
     rw [h1] at g1; simp at g1; subst g1
     have e := h2.symm.trans g2
     subst e
     rw [ih g5]
def lastR (r : Int) : List Int → Int
 | [] => r
 | h :: ws => lastR h ws
def edges (r : Int) : List Int → List (Int × Int)
 | [] => []
 | h :: ws => (r, h) :: edges h ws
theorem edges_len (r : Int) (ws : List Int) : (edges r ws).length = ws.length := by
 induction ws generalizing r with
 | nil => rfl
 | cons h ws ih => simp [edges, ih]
theorem Dl.rest {l : List Tb} {id pl r : Int} {ws : List Int} (h : Dl l id pl r ws) : ∀ {x : Int}, x ∈ ws → ∃ us, Dl l id pl x us ∧ us.length < ws.length := by
 induction h with
 | here => intro x hx; simp at hx
 | next h1 h2 h3 h4 h5 ih =>
   intro x hx
   rcases List.mem_cons.1 hx with rfl | hx
   ·exact ⟨_, h5, by simp⟩
   ·obtain ⟨us, g1, g2⟩ := ih hx
    exact ⟨us, g1, by simp; omega⟩
theorem Dl.nodup {l : List Tb} {id pl r : Int} {ws : List Int} (h : Dl l id pl r ws) : (r :: ws).Nodup := by
 induction h with
 | here => simp
 | @next r h b ws h1 h2 h3 h4 h5 ih =>
   refine List.nodup_cons.2 ⟨fun hm => ?_, ih⟩
   have hD := Dl.next h1 h2 h3 h4 h5
   obtain ⟨us, g1, g2⟩ := hD.rest hm
   have := hD.det g1
   rw [← this] at g2; omega
theorem Dl.found {l : List Tb} {id pl r : Int} {ws : List Int} (h : Dl l id pl r ws) : ∀ x ∈ r :: ws, (findT l x).isSome := by
 induction h with
 | here h1 => intro x hx; simp at hx; subst hx; simp [h1]
 | next h1 _ _ _ _ ih =>
   intro x hx
   rcases List.mem_cons.1 hx with rfl | hx
   ·simp [h1]
   ·exact ih x hx
theorem Dl.len {l : List Tb} {id pl r : Int} {ws : List Int} (h : Dl l id pl r ws) : ws.length + 1 ≤ l.length := by
 have := path_n h.nodup h.found
 simpa using this
def pkD (p : Pk) (k : Nat) (s : Int) : Pk := ⟨p.mode, p.subd, p.set, p.len, p.ttl - s, p.ent, p.ing, p.proto, 1#64 <<< k, p.pay⟩
theorem pkD_mask (p : Pk) (m : BitVec 64) (k : Nat) (s : Int) : pkD (pkMask p m) k s = pkD p k (s + 1) := by
 simp only [pkD, pkMask]
 congr 1
 omega
theorem idAt_mask (p : Pk) (m : BitVec 64) (k : Nat) : idAt (pkMask p m) k = idAt p k := rfl
structure WayD (l : List Tb) (k : Nat) (p : Pk) (r : Int) (ws : List Int) (t : Trc) : Prop where
 dl : t.dl = [(lastR r ws, pkD p k ws.length)]
 cr : t.cr.map (fun c => (c.1, c.2.1)) = edges r ws
 ls : t.ls = []
theorem way_del {l : List Tb} {k : Nat} (hk : k < 64) {id pl : Int} : ∀ (n : Nat) {p : Pk} {r : Int} {ws : List Int}, p.ttl.toNat + 1 ≤ n → FitL l p → p.bits.getLsbD k = true → idAt p k = id → plnP p = pl → Dl l id pl r ws → (ws.length : Int) ≤ p.ttl → WayD l k p r ws (way l k n (r, p))
 | 0, p, r, ws, hn, _, _, _, _, _, _ => by omega
 | n + 1, p, r, ws, hn, hF, hb, hid, hpl, hD, hlen => by
   have ht := ok_ttl hF.ok
   cases hD with
   | @here _ b h1 h2 h3 =>
     have hbr := (findT_mem h1).2
     have hB := hF.all b (findT_mem h1).1
     have e : hopAt b p k = r := by rw [hopAt_eq hB.ck, hid, hpl]; exact h2
     rw [way]
     simp only [h1, e]
     rw [if_neg h3, if_pos hbr.symm]
     refine ⟨?_, rfl, rfl⟩
     simp only [lastR]
     rw [onlyR_eq hF.ok hk hb]
     simp [pkD]
   | @next _ h b ws h1 h2 h3 h4 h5 =>
     have hbr := (findT_mem h1).2
     have hB := hF.all b (findT_mem h1).1
     have e : hopAt b p k = h := by rw [hopAt_eq hB.ck, hid, hpl]; exact h2
     simp only [List.length_cons] at hlen
     have ht0 : p.ttl ≠ 0 := by omega
     have hr := (hopAt_at hB.ck (k := k) (p := p) (by rw [e]; exact h3)).2
     have ih := way_del hk n (p := cpk b p h) (r := h) (ws := ws) (by simp only [cpk, pkMask]; omega) (hF.mask ht0 _) ((cpk_bit hB hk (by omega)).2 ⟨hb, e⟩) (by rw [cpk, idAt_mask]; exact hid) (by rw [cpk, plnP_mask hF.ok ht0]; exact hpl) h5 (by simp only [cpk, pkMask]; omega)
     rw [way]
     simp only [h1, e]
     rw [if_neg h3, if_neg (by rw [hbr]; exact h4), if_neg ht0]
     refine ⟨?_, ?_, ?_⟩
     ·have h6 := ih.dl
      simp only [Trc.app, List.nil_append, h6, lastR, List.length_cons, Int.natCast_add, Int.natCast_one]
      rw [cpk, pkD_mask]
     ·simp only [Trc.app, List.cons_append, List.nil_append, List.map_cons, ih.cr, edges]
     ·simp only [Trc.app, List.nil_append, ih.ls]
structure WayL (k : Nat) (ttl : Int) (t : Trc) : Prop where
 dl : t.dl = []
 ls : t.ls.length = 1
 cr : (t.cr.length : Int) ≤ ttl
theorem way_lost {l : List Tb} {k : Nat} (hk : k < 64) {id pl : Int} : ∀ (n : Nat) {p : Pk} {r : Int}, p.ttl.toNat + 1 ≤ n → FitL l p → p.bits.getLsbD k = true → idAt p k = id → plnP p = pl → (∀ ws, Dl l id pl r ws → p.ttl < ws.length) → WayL k p.ttl (way l k n (r, p))
 | 0, p, r, hn, _, _, _, _, _ => by omega
 | n + 1, p, r, hn, hF, hb, hid, hpl, hD => by
   have ht := ok_ttl hF.ok
   rw [way]
   cases h1 : findT l r with
   | none => exact ⟨rfl, rfl, by simpa using ht.1⟩
   | some b =>
     have hbr := (findT_mem h1).2
     have hB := hF.all b (findT_mem h1).1
     have e : hopAt b p k = hopB b id pl := by rw [hopAt_eq hB.ck, hid, hpl]
     simp only
     by_cases c0 : hopAt b p k = 0
     ·rw [if_pos c0]; exact ⟨rfl, rfl, by simpa using ht.1⟩
     by_cases c1 : hopAt b p k = b.r
     ·exfalso
      have := hD [] (.here h1 (by rw [← e, c1, hbr]) (by rw [← hbr, ← c1]; exact c0))
      simp at this; omega
     by_cases c2 : p.ttl = 0
     ·rw [if_neg c0, if_neg c1, if_pos c2]; exact ⟨rfl, rfl, by simpa using ht.1⟩
     rw [if_neg c0, if_neg c1, if_neg c2]
     have hr := (hopAt_at hB.ck c0).2
     have ih := way_lost hk n (p := cpk b p (hopAt b p k)) (r := hopAt b p k) (by simp only [cpk, pkMask]; omega) (hF.mask c2 _) ((cpk_bit hB hk hr).2 ⟨hb, rfl⟩) (id := id) (pl := pl) (by rw [cpk, idAt_mask]; exact hid) (by rw [cpk, plnP_mask hF.ok c2]; exact hpl) (fun ws hw => by
      have := hD (hopAt b p k :: ws) (.next h1 e.symm c0 (by rw [← hbr]; exact c1) hw)
      simp only [List.length_cons] at this
      simp only [cpk, pkMask]; omega)
     refine ⟨by simp [Trc.app, ih.dl], by simp [Trc.app, ih.ls], ?_⟩
     have := ih.cr
     have e2 : (cpk b p (hopAt b p k)).ttl = p.ttl - 1 := rfl
     rw [e2] at this
     simp only [Trc.app, List.cons_append, List.nil_append, List.length_cons]
     omega
theorem way_end {l : List Tb} {k : Nat} (hk : k < 64) {p : Pk} (hF : FitL l p) (hb : p.bits.getLsbD k = true) (r : Int) :
  (∃ ws, Dl l (idAt p k) (plnP p) r ws ∧ (ws.length : Int) ≤ p.ttl ∧ WayD l k p r ws (way l k (p.ttl.toNat + 1) (r, p))) ∨
  ((∀ ws, Dl l (idAt p k) (plnP p) r ws → p.ttl < ws.length) ∧ WayL k p.ttl (way l k (p.ttl.toNat + 1) (r, p))) := by
 by_cases h : ∃ ws, Dl l (idAt p k) (plnP p) r ws ∧ (ws.length : Int) ≤ p.ttl
 ·obtain ⟨ws, h1, h2⟩ := h
  exact .inl ⟨ws, h1, h2, way_del hk _ (Nat.le_refl _) hF hb rfl rfl h1 h2⟩
 ·have h' : ∀ ws, Dl l (idAt p k) (plnP p) r ws → p.ttl < ws.length := fun ws hw => Classical.byContradiction fun g => h ⟨ws, hw, by omega⟩
  exact .inr ⟨h', way_lost hk _ (Nat.le_refl _) hF hb rfl rfl h'⟩
end Go.Proofs

set_option linter.unusedSimpArgs false
set_option linter.unusedVariables false
namespace Go.Proofs
theorem plan_asc {p : Pn} (h : planB p = true) : p.es.Pairwise (fun x y => x.id < y.id) := by
 simp only [planB, decide_eq_true_eq] at h
 obtain ⟨_, h2, _⟩ := h
 have hst : ∀ i (hi : i + 1 < p.es.length), p.es[i].id < p.es[i + 1].id := fun i hi => by
  have h3 := h2 (i + 1) hi
  simp only [edB, gid, grt, Bool.and_eq_true, Bool.or_eq_true, decide_eq_true_eq, Nat.add_sub_cancel] at h3
  have h4 := h3.2.2
  rw [List.getD_eq_getElem?_getD, List.getD_eq_getElem?_getD, List.getElem?_eq_getElem hi, List.getElem?_eq_getElem (by omega)] at h4
  simpa using h4
 rw [List.pairwise_iff_getElem]
 intro i j hi hj hij
 obtain ⟨d, rfl⟩ : ∃ d, j = i + 1 + d := ⟨j - (i + 1), by omega⟩
 clear hij
 induction d with
 | zero => exact hst i hj
 | succ d ih =>
   exact Int.lt_trans (ih (by omega)) (hst (i + 1 + d) (by omega))
theorem plan_inj {p : Pn} (h : planB p = true) {x y : Ed} (hx : x ∈ p.es) (hy : y ∈ p.es) (e : x.id = y.id) : x = y := by
 obtain ⟨i, hi, rfl⟩ := List.mem_iff_getElem.1 hx
 obtain ⟨j, hj, rfl⟩ := List.mem_iff_getElem.1 hy
 have hp := List.pairwise_iff_getElem.1 (plan_asc h)
 rcases Nat.lt_trichotomy i j with hlt | rfl | hlt
 ·have := hp i j hi hj hlt; omega
 ·rfl
 ·have := hp j i hj hi hlt; omega
theorem find_uniq {α : Type} {q : α → Bool} : ∀ {l : List α} {x : α}, x ∈ l → q x = true → (∀ y ∈ l, q y = true → y = x) → l.find? q = some x
 | [], x, h, _, _ => by simp at h
 | a :: l, x, h, hq, hu => by
   rw [List.find?_cons]
   cases ha : q a with
   | true => rw [hu a (by simp) ha]
   | false =>
     rcases List.mem_cons.1 h with rfl | h
     ·rw [hq] at ha; simp at ha
     ·exact find_uniq h hq (fun y hy => hu y (by simp [hy]))
theorem rt_inj {g : Topo} (hg : g.Ok) {x y : Rt} (hx : x ∈ g.rs) (hy : y ∈ g.rs) (e : x.id = y.id) : x = y := by
 obtain ⟨i, hi, rfl⟩ := List.mem_iff_getElem.1 hx
 obtain ⟨j, hj, rfl⟩ := List.mem_iff_getElem.1 hy
 have hp := List.pairwise_iff_getElem.1 hg.rpw
 rcases Nat.lt_trichotomy i j with hlt | rfl | hlt
 ·have := hp i j hi hj hlt; omega
 ·rfl
 ·have := hp j i hj hi hlt; omega
theorem rtOf_some {g : Topo} (hg : g.Ok) {x : Rt} (hx : x ∈ g.rs) : rtOf g.rs x.id = some x :=
 find_uniq hx (by simp) (fun y hy e => rt_inj hg hy hx (by simpa using e))
theorem capR_iff {g : Topo} (hg : g.Ok) {r : Int} : capR g.rs r = true ↔ ∃ x ∈ g.rs, x.id = r ∧ x.cap = true := by
 constructor
 ·intro h
  unfold capR at h
  cases hr : rtOf g.rs r with
  | none => simp [hr] at h
  | some x =>
    simp only [hr, Option.getD_some] at h
    exact ⟨x, List.mem_of_find?_eq_some hr, by simpa using List.find?_some hr, h⟩
 ·rintro ⟨x, hx, rfl, hc⟩
  simp [capR, rtOf_some hg hx, hc]
theorem cap_has {g : Topo} (hg : g.Ok) {r : Int} (h : capR g.rs r = true) : hasR g.rs r = true := by
 obtain ⟨x, hx, rfl, _⟩ := (capR_iff hg).1 h
 exact hasR_mem.2 (List.mem_map_of_mem hx)
theorem tabs_find {g : Topo} (hg : g.Ok) (p : Pn) (r : Int) : findT (tabs g p g.rs) r = if capR g.rs r = true then some (buildT g p r) else none := by
 split
 ·rename_i h
  obtain ⟨x, hx, rfl, hc⟩ := (capR_iff hg).1 h
  refine find_uniq (x := buildT g p x.id) (List.mem_map.2 ⟨x, List.mem_filter.2 ⟨hx, hc⟩, rfl⟩) (by simp [buildT]) (fun y hy e => ?_)
  obtain ⟨z, hz, rfl⟩ := List.mem_map.1 hy
  have : z.id = x.id := of_decide_eq_true e
  rw [this]
 ·rename_i h
  rw [findT, List.find?_eq_none]
  intro y hy
  obtain ⟨z, hz, rfl⟩ := List.mem_map.1 hy
  obtain ⟨h1, h2⟩ := List.mem_filter.1 hz
  intro e
  exact h ((capR_iff hg).2 ⟨z, h1, of_decide_eq_true e, h2⟩)
theorem tabs_mem {g : Topo} {p : Pn} {b : Tb} (h : b ∈ tabs g p g.rs) : ∃ x ∈ g.rs, x.cap = true ∧ b = buildT g p x.id := by
 obtain ⟨z, hz, rfl⟩ := List.mem_map.1 h
 obtain ⟨h1, h2⟩ := List.mem_filter.1 hz
 exact ⟨z, h1, h2, rfl⟩
theorem build_row {g : Topo} {p : Pn} (hp : planB p = true) {e : Ed} (he : e ∈ p.es) (r : Int) : rowOf (buildT g p r) e.id = some (bRow g r e) :=
 find_uniq (List.mem_map_of_mem he) (by simp [bRow]) (fun y hy h => by
  obtain ⟨z, hz, rfl⟩ := List.mem_map.1 hy
  have : z.id = e.id := of_decide_eq_true h
  rw [plan_inj hp hz he this])
theorem build_none {g : Topo} {p : Pn} {id : Int} (h : ∀ e ∈ p.es, e.id ≠ id) (r : Int) : rowOf (buildT g p r) id = none := by
 rw [rowOf, List.find?_eq_none]
 intro y hy
 obtain ⟨z, hz, rfl⟩ := List.mem_map.1 hy
 exact fun a => h z hz (of_decide_eq_true a)
theorem hopR_in {x : Rw} {p : Int} (h : x.nx ≠ []) (hz : ∀ n ∈ x.nx, n ≠ 0) : hopR x p ∈ x.nx := by
 have hl : x.nx.length ≠ 0 := fun e => h (List.length_eq_zero_iff.1 e)
 rw [hopR, if_neg hl]
 have h1 : (p % x.nx.length).toNat < x.nx.length := by
  have := Int.emod_lt_of_pos p (b := x.nx.length) (by omega)
  have := Int.emod_nonneg p (b := x.nx.length) (by omega)
  omega
 rw [List.getD_eq_getElem?_getD, List.getElem?_eq_getElem h1]
 exact List.getElem_mem h1
theorem build_hop {g : Topo} (hg : chkT g = 0) {p : Pn} (hp : planB p = true) {e : Ed} (he : e ∈ p.es) {r : Int} (hr : hasR g.rs r = true) (pl : Int) :
  (e.r = r ∧ hopB (buildT g p r) e.id pl = r) ∨ (e.r ≠ r ∧ capR g.rs e.r = true ∧ dst g e.r r < far ∧ HopR g e.r r (hopB (buildT g p r) e.id pl)) ∨
  (e.r ≠ r ∧ (capR g.rs e.r = false ∨ dst g e.r r = far) ∧ hopB (buildT g p r) e.id pl = 0) := by
 have hO := chkT_zero hg
 unfold hopB
 rw [build_row hp he, Option.getD_some]
 by_cases e1 : e.r = r
 ·refine .inl ⟨e1, ?_⟩
  simp only [bRow, if_pos e1, hopR]
  simp
 ·by_cases hc : capR g.rs e.r = true
  ·have hh := cap_has hO hc
   have hrow : (bRow g r e).nx = hops g r e.r := by simp only [bRow, if_neg e1, if_pos (show chkT g = 0 ∧ _ from ⟨hg, hc⟩)]
   by_cases hd : dst g e.r r < far
   ·obtain ⟨n, hn⟩ := HopR.some hO hr hh hc (Ne.symm e1) hd
    refine .inr (.inl ⟨e1, hc, hd, ?_⟩)
    have hm := hopR_in (x := bRow g r e) (p := pl) (by
     rw [hrow]
     exact List.ne_nil_of_mem ((mem_hops hg hr hh (Ne.symm e1)).2 hn)) (fun x hx => by
     rw [hrow] at hx
     have := (hops_ok g r e.r).2 x hx
     have := hO.id this.1
     unfold inR at this; omega)
    rw [hrow] at hm
    exact (mem_hops hg hr hh (Ne.symm e1)).1 hm
   ·refine .inr (.inr ⟨e1, .inr ?_, ?_⟩)
    ·have := dst_bd hO e.r r; omega
    ·have : hops g r e.r = [] := by
      cases hl : hops g r e.r with
      | nil => rfl
      | cons n l =>
        have := ((mem_hops hg hr hh (Ne.symm e1)).1 (show n ∈ hops g r e.r by rw [hl]; simp)).near hO
        exact absurd this.2.1 hd
     rw [hopR, hrow, this]; rfl
  ·refine .inr (.inr ⟨e1, .inl (by simpa using hc), ?_⟩)
   simp only [bRow, if_neg e1, if_neg (show ¬ (chkT g = 0 ∧ capR g.rs e.r = true) from fun a => hc a.2), hopR]
   simp
theorem dl_right {g : Topo} (hg : chkT g = 0) {p : Pn} (hp : planB p = true) {e : Ed} (he : e ∈ p.es) (hc : capR g.rs e.r = true) (pl : Int) :
  ∀ (m : Nat) {r : Int}, (dst g e.r r).toNat ≤ m → capR g.rs r = true → dst g e.r r < far → ∃ ws, Dl (tabs g p g.rs) e.id pl r ws ∧ lastR r ws = e.r := by
 have hO := chkT_zero hg
 intro m
 induction m with
 | zero =>
   intro r hm hr hd
   have hrh := cap_has hO hr
   have := dst_bd hO e.r r
   have e1 := dst_zero hO (cap_has hO hc) hrh (by omega)
   have hid := hO.id hrh
   unfold inR at hid
   rcases build_hop hg hp he hrh pl with ⟨_, h2⟩ | ⟨h1, _⟩ | ⟨h1, _⟩
   ·exact ⟨[], .here (by rw [tabs_find hO, if_pos hr]) h2 (by omega), e1⟩
   ·exact absurd e1.symm h1
   ·exact absurd e1.symm h1
 | succ m ih =>
   intro r hm hr hd
   have hrh := cap_has hO hr
   have hid := hO.id hrh
   unfold inR at hid
   rcases build_hop hg hp he hrh pl with ⟨h1, h2⟩ | ⟨h1, h2, h3, h4⟩ | ⟨h1, h2, h3⟩
   ·exact ⟨[], .here (by rw [tabs_find hO, if_pos hr]) h2 (by omega), h1.symm⟩
   ·have hn := h4.near hO
    have hidn := hO.id hn.2.2.2.2
    unfold inR at hidn
    have := dst_bd hO e.r (hopB (buildT g p r) e.id pl)
    obtain ⟨ws, a1, a2⟩ := ih (by omega) hn.2.2.2.1 hn.2.2.1
    refine ⟨_ :: ws, .next (by rw [tabs_find hO, if_pos hr]) rfl (by omega) (fun h => ?_) a1, a2⟩
    rw [h] at hn; omega
   ·rcases h2 with h2 | h2
    ·rw [hc] at h2; simp at h2
    ·omega
theorem dl_wrong {g : Topo} (hg : chkT g = 0) {p : Pn} (hp : planB p = true) {id pl r : Int} {ws : List Int} (h : Dl (tabs g p g.rs) id pl r ws) :
  ∃ e ∈ p.es, e.id = id ∧ lastR r ws = e.r ∧ capR g.rs e.r = true ∧ capR g.rs r = true ∧ dst g e.r r < far := by
 have hO := chkT_zero hg
 induction h with
 | @here r b h1 h2 h3 =>
   rw [tabs_find hO] at h1
   split at h1
   ·rename_i hr
    simp only [Option.some.injEq] at h1; subst h1
    have hrh := cap_has hO hr
    by_cases hex : ∃ e ∈ p.es, e.id = id
    ·obtain ⟨e, he, rfl⟩ := hex
     rcases build_hop hg hp he hrh pl with ⟨a1, a2⟩ | ⟨a1, a2, a3, a4⟩ | ⟨a1, a2, a3⟩
     ·refine ⟨e, he, rfl, a1.symm, by rw [a1]; exact hr, hr, ?_⟩
      rw [a1, dst_self hO hrh]; unfold far; omega
     ·have := a4.near hO
      rw [h2] at this; omega
     ·omega
    ·rw [hopB, build_none (fun e he hid => hex ⟨e, he, hid⟩)] at h2
     simp [hopR] at h2
     exact absurd h2.symm h3
   ·simp at h1
 | @next r h b ws h1 h2 h3 h4 h5 ih =>
   obtain ⟨e, he, rfl, i1, i2, i3, i4⟩ := ih
   refine ⟨e, he, rfl, i1, i2, ?_⟩
   rw [tabs_find hO] at h1
   split at h1
   ·rename_i hr
    simp only [Option.some.injEq] at h1; subst h1
    have hrh := cap_has hO hr
    refine ⟨hr, ?_⟩
    rcases build_hop hg hp he hrh pl with ⟨a1, a2⟩ | ⟨a1, a2, a3, a4⟩ | ⟨a1, a2, a3⟩
    ·exact absurd (h2.symm.trans a2) h4
    ·exact a3
    ·omega
   ·simp at h1
theorem tabs_len (g : Topo) (p : Pn) : (tabs g p g.rs).length ≤ g.rs.length := by
 simp only [tabs, List.length_map]
 exact List.length_filter_le _ _
end Go.Proofs

set_option linter.unusedSimpArgs false
set_option linter.unusedVariables false
namespace Go.Proofs
def arIn (s : List Int) (n : Int) : List Int := if hasI s n = true then s else s ++ [n]
structure ArI (g : Topo) (r : Int) (s : List Int) : Prop where
 nd : s.Nodup
 all : ∀ x ∈ s, hasR g.rs x = true ∧ ∃ k v, Wk g r k x v
theorem ArI.fold {g : Topo} (hg : g.Ok) {r : Int} {x : Int} {k : Nat} {v : Int} (hw : Wk g r k x v) : ∀ (l s : List Int), (∀ n ∈ l, n ∈ near g x) → ArI g r s → ArI g r (l.foldl arIn s)
 | [], _, _, h => h
 | n :: l, s, hl, h => by
   rw [List.foldl_cons]
   refine ArI.fold hg hw l _ (fun m hm => hl m (by simp [hm])) ?_
   unfold arIn
   split
   ·exact h
   ·rename_i hn
    have hni : n ∉ s := by simpa [hasI] using hn
    refine ⟨List.nodup_append.2 ⟨h.nd, by simp, fun a ha b hb => by simp at hb; subst hb; exact fun e => hni (e ▸ ha)⟩, fun y hy => ?_⟩
    rcases List.mem_append.1 hy with hy | hy
    ·exact h.all y hy
    ·simp at hy; subst hy
     have hnr := hl y (by simp)
     obtain ⟨c, hc⟩ := (near_iff hg).1 hnr
     obtain ⟨c', hc'⟩ := price_sym hg hc
     exact ⟨near_has hnr, k + 1, _, .cons hc' hw⟩
theorem Wk.app {g : Topo} {a b : Int} {j k : Nat} {x v w : Int} (h1 : Wk g a j x v) (h2 : Wk g b k a w) : ∃ u, Wk g b (j + k) x u := by
 induction h1 with
 | nil => exact ⟨w, by rw [Nat.zero_add]; exact h2⟩
 | @cons k' x y c v hp _ ih =>
   obtain ⟨u, hu⟩ := ih
   exact ⟨c + u, by rw [show k' + 1 + k = k' + k + 1 by omega]; exact .cons hp hu⟩
end Go.Proofs

set_option linter.unusedSimpArgs false
set_option linter.unusedVariables false
namespace Go.Proofs
theorem lkPos_take (x : Lk) : ∀ (l : List Lk), ∀ y ∈ l.take (lkPos x l), y.before x = true
 | [] => by simp
 | z :: r => by
   intro y hy
   rw [lkPos] at hy
   split at hy
   ·rename_i hz
    rw [List.take_succ_cons] at hy
    rcases List.mem_cons.1 hy with rfl | hy
    ·exact hz
    ·exact lkPos_take x r y hy
   ·simp at hy
theorem lkPos_at (x : Lk) : ∀ (l : List Lk) (y : Lk), l[lkPos x l]? = some y → y.before x = false
 | [], y, h => by simp at h
 | z :: r, y, h => by
   rw [lkPos] at h
   split at h
   ·exact lkPos_at x r y (by simpa using h)
   ·rename_i hz
    simp at h; subst h; simpa using hz
theorem before_lt {x y : Lk} : y.before x = true ↔ lkLt y x := by simp [Lk.before, lkLt]
theorem lkIns {l : List Lk} (x : Lk) (h : l.Pairwise lkLt) (hd : ∀ y ∈ l, ¬ (y.a = x.a ∧ y.b = x.b)) : (l.take (lkPos x l) ++ [x] ++ l.drop (lkPos x l)).Pairwise lkLt ∧ ∀ y, y ∈ l.take (lkPos x l) ++ [x] ++ l.drop (lkPos x l) ↔ y ∈ l ∨ y = x := by
 have hl : l.take (lkPos x l) ++ l.drop (lkPos x l) = l := List.take_append_drop _ _
 have hp : (l.take (lkPos x l) ++ l.drop (lkPos x l)).Pairwise lkLt := by rw [hl]; exact h
 rw [List.pairwise_append] at hp
 have hdr : ∀ y ∈ l.drop (lkPos x l), lkLt x y := fun y hy => by
  cases hc : l.drop (lkPos x l) with
  | nil => rw [hc] at hy; simp at hy
  | cons z r =>
    have hz : l[lkPos x l]? = some z := by
     have : (l.drop (lkPos x l))[0]? = some z := by rw [hc]; rfl
     simpa using this
    have h1 := lkPos_at x l z hz
    have h2 := hd z (List.mem_of_getElem? hz)
    have h3 : lkLt x z := by
     have : ¬ lkLt z x := fun a => by rw [before_lt.2 a] at h1; simp at h1
     unfold lkLt at *; omega
    rw [hc] at hy
    rcases List.mem_cons.1 hy with rfl | hy
    ·exact h3
    ·have := hp.2.1
     rw [hc, List.pairwise_cons] at this
     exact lkLt_trans h3 (this.1 y hy)
 refine ⟨?_, fun y => ?_⟩
 ·rw [List.append_assoc, List.pairwise_append]
  refine ⟨hp.1, ?_, fun a ha b hb => ?_⟩
  ·rw [List.singleton_append, List.pairwise_cons]
   exact ⟨hdr, hp.2.1⟩
  ·have h1 := before_lt.1 (lkPos_take x l a ha)
   rcases List.mem_append.1 hb with hb | hb
   ·simp at hb; subst hb; exact h1
   ·exact lkLt_trans h1 (hdr b hb)
 ·conv => rhs; rw [← hl]
  simp only [List.mem_append, List.mem_singleton]
  constructor
  ·rintro ((a | a) | a)
   ·exact .inl (.inl a)
   ·exact .inr a
   ·exact .inl (.inr a)
  ·rintro ((a | a) | a)
   ·exact .inl (.inl a)
   ·exact .inr a
   ·exact .inl (.inr a)
def lkNe (x y : Lk) : Prop := ¬ (x.a = y.a ∧ x.b = y.b)
theorem ordL_ok : ∀ (l out : List Lk), l.Pairwise lkNe → out.Pairwise lkLt → (∀ x ∈ l, ∀ y ∈ out, lkNe x y) → (ordL l out).Pairwise lkLt ∧ ∀ y, y ∈ ordL l out ↔ y ∈ l ∨ y ∈ out
 | [], out, _, h, _ => ⟨h, by simp [ordL]⟩
 | x :: l, out, hl, h, hd => by
   rw [List.pairwise_cons] at hl
   obtain ⟨h1, h2⟩ := lkIns x h (fun y hy e => hd x (by simp) y hy ⟨e.1.symm, e.2.symm⟩)
   obtain ⟨h3, h4⟩ := ordL_ok l _ hl.2 h1 (fun z hz y hy => by
    rcases (h2 y).1 hy with hy | rfl
    ·exact hd z (by simp [hz]) y hy
    ·exact fun e => hl.1 z hz ⟨e.1.symm, e.2.symm⟩)
   refine ⟨h3, fun y => ?_⟩
   rw [ordL, h4, h2]
   simp only [List.mem_cons]
   constructor
   ·rintro (a | a | a)
    ·exact .inl (.inr a)
    ·exact .inr a
    ·exact .inl (.inl a)
   ·rintro ((a | a) | a)
    ·exact .inr (.inr a)
    ·exact .inl a
    ·exact .inr (.inl a)
structure LkI (b a : Int) (l : List Lk) : Prop where
 all : ∀ x ∈ l, (1 ≤ x.a ∧ x.a < x.b ∧ (x.b < b ∨ (x.b = b ∧ x.a < a))) ∧ (1 ≤ x.ca ∧ x.ca ≤ 1000) ∧ (1 ≤ x.cb ∧ x.cb ≤ 1000) ∧ 0 ≤ x.cap ∧ x.cap ≤ 1000
 ne : l.Pairwise lkNe
theorem LkI.step {b a cost tree : Int} {skip : Bool} {T : Tp} {l : List Lk} (h : LkI b a l) (ha : 1 ≤ a) (hab : a < b) (hc : 1 ≤ cost ∧ cost ≤ 1000) : LkI b (a + 1) (gTopS cost tree skip b a T l).1 := by
 have hw : LkI b (a + 1) l := ⟨fun x hx => by have := h.all x hx; omega, h.ne⟩
 unfold gTopS
 simp only
 generalize (if (decide (a = tree) && !skip) = true then (true, T) else gOne T 3) = c
 cases c.1 with
 | false => simpa using hw
 | true =>
   simp only [if_true]
   have r1 := gRange_lo c.2 1 cost
   have r2 := gRange_hi c.2 (a := 1) (b := cost) hc.1
   generalize gRange c.2 1 cost = X at r1 r2
   have r3 := gRange_lo X.2 1 cost
   have r4 := gRange_hi X.2 (a := 1) (b := cost) hc.1
   generalize gRange X.2 1 cost = Y at r3 r4
   have r5 := gNext_nonneg Y.2 4
   have r6 := gNext_lt Y.2 (n := 4) (by omega)
   generalize gNext Y.2 4 = Z at r5 r6
   refine ⟨fun x hx => ?_, ?_⟩
   ·rcases List.mem_append.1 hx with hx | hx
    ·exact hw.all x hx
    ·simp at hx; subst hx
     exact ⟨⟨ha, hab, .inr ⟨rfl, by show a < a + 1; omega⟩⟩, ⟨r1, Int.le_trans r2 hc.2⟩, ⟨r3, Int.le_trans r4 hc.2⟩, r5, by show Z.1 ≤ 1000; omega⟩
   ·rw [List.pairwise_append]
    refine ⟨h.ne, by simp, fun x hx y hy => ?_⟩
    simp at hy; subst hy
    have := h.all x hx
    unfold lkNe; simp only; omega
theorem LkI.row {b cost tree : Int} {skip : Bool} (hc : 1 ≤ cost ∧ cost ≤ 1000) : ∀ (n : Nat) (a : Int) (T : Tp) (l : List Lk), LkI b a l → 1 ≤ a → a + n ≤ b → LkI b (a + n) (gTopA cost tree skip b n a T l).1
 | 0, a, T, l, h, _, _ => by simpa [gTopA] using h
 | n + 1, a, T, l, h, h1, h2 => by
   rw [gTopA]
   have := LkI.row (tree := tree) (skip := skip) hc n (a + 1) (gTopS cost tree skip b a T l).2 _ (h.step (tree := tree) (skip := skip) (T := T) h1 (by omega) hc) (by omega) (by omega)
   rw [show a + ((n + 1 : Nat) : Int) = a + 1 + n by omega]
   exact this
theorem LkI.all_rows {cost : Int} (hc : 1 ≤ cost ∧ cost ≤ 1000) : ∀ (n : Nat) (b : Int) (T : Tp) (l : List Lk), LkI b 1 l → 2 ≤ b → LkI (b + n) 1 (gTopB cost n b T l).1
 | 0, b, T, l, h, _ => by simpa [gTopB] using h
 | n + 1, b, T, l, h, hb => by
   rw [gTopB]
   have h1 : LkI b b (gTopR cost b T l).1 := by
    unfold gTopR
    simp only
    have := LkI.row (b := b) (tree := (gRange T 1 (b - 1)).1) (skip := (gOne (gRange T 1 (b - 1)).2 9).1) hc (b - 1).toNat 1 (gOne (gRange T 1 (b - 1)).2 9).2 l h (by omega) (by omega)
    rw [show 1 + (((b - 1).toNat : Nat) : Int) = b by omega] at this
    exact this
   have h2 : LkI (b + 1) 1 (gTopR cost b T l).1 := ⟨fun x hx => by have := h1.all x hx; omega, h1.ne⟩
   have := LkI.all_rows hc n (b + 1) (gTopR cost b T l).2 _ h2 (by omega)
   rw [show b + ((n + 1 : Nat) : Int) = b + 1 + n by omega]
   exact this
theorem gTopA_len2 (cost tree : Int) (skip : Bool) (b : Int) : ∀ (n : Nat) (a : Int) (T : Tp) (l : List Lk), (gTopA cost tree skip b n a T l).1.length ≤ l.length + n
 | 0, _, _, _ => Nat.le_refl _
 | n + 1, a, T, l => by
   have h1 := gTopA_len2 cost tree skip b n (a + 1) (gTopS cost tree skip b a T l).2 (gTopS cost tree skip b a T l).1
   have h2 := gTopS_len cost tree skip b a T l
   rw [gTopA]
   omega
theorem gTopB_len2 (cost : Int) (m : Nat) : ∀ (n : Nat) (b : Int) (T : Tp) (l : List Lk), 1 ≤ b → b + n ≤ m + 2 → (gTopB cost n b T l).1.length ≤ l.length + n * m
 | 0, _, _, _, _, _ => by simp [gTopB]
 | n + 1, b, T, l, hb, hm => by
   have h1 := gTopB_len2 cost m n (b + 1) (gTopR cost b T l).2 (gTopR cost b T l).1 (by omega) (by omega)
   have h2 : (gTopR cost b T l).1.length ≤ l.length + (b - 1).toNat := gTopA_len2 _ _ _ _ _ _ _ _
   rw [gTopB]
   have h3 : (n + 1) * m = n * m + m := Nat.succ_mul _ _
   omega
theorem pw_adj {α : Type} {q : α → α → Bool} {r : α → α → Prop} (hr : ∀ x y, r x y → q x y = false) : ∀ {l : List α}, l.Pairwise r → adjB q l = false
 | [], _ => rfl
 | [x], _ => rfl
 | x :: y :: l, h => by
   rw [List.pairwise_cons] at h
   rw [adjB, hr x y (h.1 y (by simp)), pw_adj hr h.2]; rfl
theorem chkT_of {g : Topo} (h1 : g.rs.length ≤ 24) (h2 : g.ls.length ≤ 60) (h3 : ∀ x ∈ g.rs, 1 ≤ x.id ∧ x.id ≤ 99) (h4 : g.rs.Pairwise fun x y => x.id < y.id)
  (h5 : ∀ x ∈ g.ls, (1 ≤ x.ca ∧ x.ca ≤ 1000) ∧ (1 ≤ x.cb ∧ x.cb ≤ 1000) ∧ 0 ≤ x.cap ∧ x.cap ≤ 1000) (h6 : ∀ x ∈ g.ls, hasR g.rs x.a = true ∧ hasR g.rs x.b = true) (h7 : ∀ x ∈ g.ls, x.a < x.b) (h8 : g.ls.Pairwise lkLt) : chkT g = 0 := by
 have a1 : decide (24 < g.rs.length) = false := by simp; omega
 have a2 : decide (60 < g.ls.length) = false := by simp; omega
 have a3 : (g.rs.any fun x => !inB x.id 1 99) = false := by
  rw [List.any_eq_false]; intro x hx; have := h3 x hx; simp [inB]; omega
 have a4 : adjB (fun x y => decide (y.id ≤ x.id)) g.rs = false := pw_adj (r := fun x y => x.id < y.id) (fun x y h => by simpa using h) h4
 have a5 : g.ls.any Lk.bad = false := by
  rw [List.any_eq_false]; intro x hx; have := h5 x hx; simp [Lk.bad, inB]; omega
 have a6 : (g.ls.any fun x => !hasR g.rs x.a || !hasR g.rs x.b) = false := by
  rw [List.any_eq_false]; intro x hx; have := h6 x hx; simp [this.1, this.2]
 have a7 : (g.ls.any fun x => decide (x.b ≤ x.a)) = false := by
  rw [List.any_eq_false]; intro x hx; have := h7 x hx; simp; omega
 have a8 : adjB (fun x y => decide (y.a < x.a) || decide (x.a = y.a) && decide (y.b ≤ x.b)) g.ls = false := pw_adj (r := lkLt) (fun x y h => by
  unfold lkLt at h
  simp only [Bool.or_eq_false_iff, Bool.and_eq_false_iff, decide_eq_false_iff_not]; omega) h8
 simp only [chkT, firstE, a1, a2, a3, a4, a5, a6, a7, a8, cond_false]
theorem gRts_mem {k : Nat} {x : Rt} : x ∈ gRts k ↔ x.cap = true ∧ 1 ≤ x.id ∧ x.id ≤ k := by
 simp only [gRts, List.mem_map, List.mem_range]
 constructor
 ·rintro ⟨i, hi, rfl⟩; simp only; exact ⟨trivial, by omega, by omega⟩
 ·rintro ⟨h1, h2, h3⟩
  refine ⟨(x.id - 1).toNat, by omega, ?_⟩
  cases x; simp only at *; subst h1; congr 1; omega
theorem gRts_pw (k : Nat) : (gRts k).Pairwise fun x y => x.id < y.id := by
 unfold gRts
 rw [List.pairwise_map]
 exact List.pairwise_lt_range.imp fun h => by simp only; omega
structure TopV (most : Int) (g : Topo) : Prop where
 n : 1 ≤ g.rs.length ∧ (g.rs.length : Int) ≤ most
 ids : g.rs.map (·.id) = (gRts g.rs.length).map (·.id)
 ok : chkT g = 0
theorem gTop_rs' (T : Tp) (most : Int) : (gTop T most).1.rs = gRts (gRange T 1 most).1.toNat := rfl
theorem gTop_valid (T : Tp) {most : Int} (hm : 1 ≤ most ∧ most ≤ 8) : TopV most (gTop T most).1 := by
 have r1 := gRange_lo T 1 most
 have r2 := gRange_hi T (a := 1) (b := most) hm.1
 have e := gTop_rs' T most
 have hlen : (gTop T most).1.rs.length = (gRange T 1 most).1.toNat := by rw [e]; simp [gRts]
 refine ⟨by omega, by rw [hlen, e], ?_⟩
 unfold gTop
 simp only
 generalize gRange T 1 most = R at r1 r2
 have hc := gPick_all (T := R.2) (l := [1, 2, 2, 5]) (p := fun x => 1 ≤ x ∧ x ≤ 1000) (by simp) (by simp)
 generalize gPick R.2 [1, 2, 2, 5] = C at hc
 have hI := LkI.all_rows hc (R.1 + 1 - 2).toNat 2 C.2 [] ⟨by simp, List.Pairwise.nil⟩ (by omega)
 have hl := gTopB_len2 C.1 7 (R.1 + 1 - 2).toNat 2 C.2 [] (by omega) (by omega)
 generalize (gTopB C.1 (R.1 + 1 - 2).toNat 2 C.2 []).1 = L at hI hl
 obtain ⟨h1, h2⟩ := ordL_ok L [] hI.ne List.Pairwise.nil (by simp)
 have hall : ∀ x ∈ ordL L [], (1 ≤ x.a ∧ x.a < x.b ∧ x.b ≤ R.1) ∧ (1 ≤ x.ca ∧ x.ca ≤ 1000) ∧ (1 ≤ x.cb ∧ x.cb ≤ 1000) ∧ 0 ≤ x.cap ∧ x.cap ≤ 1000 := fun x hx => by
  have := hI.all x (by simpa using (h2 x).1 hx)
  omega
 have hol : ∀ (l out : List Lk), (ordL l out).length = l.length + out.length := fun l => by
  induction l with
  | nil => intro out; simp [ordL]
  | cons x l ih =>
    intro out
    have := lkPos_le x out
    rw [ordL, ih]; simp; omega
 refine chkT_of (by simp [gRts]; omega) ?_ (fun x hx => ?_) (gRts_pw _) (fun x hx => (hall x hx).2) (fun x hx => ?_) (fun x hx => (hall x hx).1.2.1) h1
 ·simp only [hol, List.length_nil] at hl ⊢
  have : (R.1 + 1 - 2).toNat ≤ 7 := by omega
  have := Nat.mul_le_mul_right 7 this
  omega
 ·have := gRts_mem.1 hx; omega
 ·have := (hall x hx).1
  constructor
  ·exact hasR_mem.2 (List.mem_map.2 ⟨⟨x.a, true⟩, gRts_mem.2 ⟨rfl, by simp only; omega⟩, rfl⟩)
  ·exact hasR_mem.2 (List.mem_map.2 ⟨⟨x.b, true⟩, gRts_mem.2 ⟨rfl, by simp only; omega⟩, rfl⟩)
end Go.Proofs

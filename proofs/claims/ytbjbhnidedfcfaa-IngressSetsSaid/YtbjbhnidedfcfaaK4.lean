/-
  What functions of the program compute, stated as contracts over plain data; the conditions of each stand in its own statement.
-/
import Derived.Test.YtbjbhnidedfcfaaK3
set_option linter.unusedSimpArgs false
set_option maxRecDepth 100000
set_option maxHeartbeats 400000
namespace Go.Proofs
open Go Go.Tr

theorem gTempl_ok (T : Tp) : TapeOK (gTempl T).2 = TapeOK T := by simp [gTempl]
structure TemplV (q : Pk) : Prop where
  mode : 1 ≤ q.mode ∧ q.mode ≤ 3
  ttl : q.ttl = 63
  ent : 0 ≤ q.ent ∧ q.ent ≤ 1023
  ing : 0 ≤ q.ing ∧ q.ing ≤ 256
  proto : 0 ≤ q.proto ∧ q.proto ≤ 7
  pay : q.pay.size ≤ 64
theorem gNext_le (T : Tp) (n m : Int) (h : 0 < n) (hm : n = m + 1) : 0 ≤ (gNext T n).1 ∧ (gNext T n).1 ≤ m := by
  have := gNext_nonneg T n
  have := gNext_lt T h
  omega
theorem gPick_r (T : Tp) (l : List Int) (lo hi : Int) (h0 : 0 < l.length) (h : ∀ x ∈ l, lo ≤ x ∧ x ≤ hi) : lo ≤ (gPick T l).1 ∧ (gPick T l).1 ≤ hi := gPick_all (p := fun x => lo ≤ x ∧ x ≤ hi) h0 h
theorem gPk0_ent (T : Tp) : ∃ W, (gPk0 T).1.ent = (gNext W 1024).1 := by unfold gPk0; dsimp only; exact ⟨_, rfl⟩
theorem gPk0_ing (T : Tp) : ∃ W, (gPk0 T).1.ing = (gPick W [0, 1, 8, 255, 256]).1 := by unfold gPk0; dsimp only; exact ⟨_, rfl⟩
theorem gPk0_proto (T : Tp) : ∃ W, (gPk0 T).1.proto = (gNext W 8).1 := by unfold gPk0; dsimp only; exact ⟨_, rfl⟩
theorem gPk0_pay (T : Tp) : ∃ W, (gPk0 T).1.pay = strOf (gText W 6).1 := by unfold gPk0; dsimp only; exact ⟨_, rfl⟩
theorem gTempl_valid (T : Tp) : TemplV (gTempl T).1 := by
  have h0 : gPacket T 0 = gPk0 T := by simp [gPacket]
  obtain ⟨W1, e1⟩ := gPk0_ent T
  obtain ⟨W2, e2⟩ := gPk0_ing T
  obtain ⟨W3, e3⟩ := gPk0_proto T
  obtain ⟨W4, e4⟩ := gPk0_pay T
  unfold gTempl
  rw [h0]
  generalize gPk0 T = R at e1 e2 e3 e4 ⊢
  have h4 := gText_size W4 (k := 6) (by omega)
  dsimp only
  refine ⟨?_, rfl, ?_, ?_, ?_, ?_⟩
  · exact gPick_r R.2 [1, 3] 1 3 (by simp) (by simp)
  · rw [e1]; exact gNext_le W1 1024 1023 (by omega) (by omega)
  · rw [e2]; exact gPick_r W2 [0, 1, 8, 255, 256] 0 256 (by simp) (by simp)
  · rw [e3]; exact gNext_le W3 8 7 (by omega) (by omega)
  · rw [e4]; exact Nat.le_trans h4 (by omega)
theorem pkAll_ok (q : Pk) (p : Pn) : ∀ (l : List Sb) (out : List Pk), (∀ s ∈ l, (q.with p s).ok = true) → pkAll q p l out = (out ++ l.map (q.with p), 0)
  | [], out, _ => by simp [pkAll]
  | s :: l, out, h => by
    rw [pkAll, if_pos (h s (by simp)), pkAll_ok q p l _ fun s hs => h s (by simp [hs])]
    simp
theorem with_ok {q : Pk} {rs : List Rt} {p : Pn} {s : Sb} {n : Nat} {l : List Sb} (hq : TemplV q) (hp : PlanV rs p) (h : SetsV p n l) (hs : s ∈ l) : (q.with p s).ok = true := by
  have h1 := h.set s hs
  have h2 := h.val s hs
  have a1 := hq.mode
  have a2 := hq.ttl
  have a3 := hq.ent
  have a4 := hq.ing
  have a5 := hq.proto
  have a6 := hq.pay
  have a7 := hp.subd
  simp [Pk.ok, Pk.with, insB, h2, a1, a2, a3, a4, a5, a6, a7, h1]

theorem gChL_ok : ∀ (es : List Ed) (T : Tp) (l : List Int), TapeOK (gChL es T l).2 = TapeOK T
  | [], _, _ => rfl
  | e :: es, T, l => by rw [gChL, gChL_ok es]; simp
theorem gCh0_ok (T : Tp) (p : Pn) : TapeOK (gCh T p 0).2 = TapeOK T := by simp [gCh, gChL_ok]
end Go.Proofs

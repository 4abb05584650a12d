/-
  What functions of the program compute, stated as contracts over plain data; the conditions of each stand in its own statement.
-/
import Derived.Test.YteenclepbpajdaaE5
set_option linter.unusedSimpArgs false
set_option maxRecDepth 100000
set_option maxHeartbeats 2000000
namespace Go.Proofs
open Go Go.Tr
theorem nodup_le : ∀ {l m : List Int}, l.Nodup → (∀ x ∈ l, x ∈ m) → l.length ≤ m.length
  | [], _, _, _ => by simp
  | x :: l, m, h, hs => by
    have h1 := List.nodup_cons.1 h
    have := nodup_le (l := l) (m := m.erase x) h1.2 fun y hy => (List.mem_erase_of_ne (fun e => by subst e; exact h1.1 hy)).2 (hs y (by simp [hy]))
    rw [List.length_erase_of_mem (hs x (by simp))] at this
    have := List.length_pos_of_mem (hs x (by simp))
    simp; omega
theorem hasR_mem {l : List Rt} {r : Int} : hasR l r = true ↔ r ∈ l.map (·.id) := by simp [hasR]
theorem seen_le {g : Topo} {l : List Int} (h : l.Nodup) (hs : ∀ x ∈ l, hasR g.rs x = true) : l.length ≤ g.rs.length := by
  have := nodup_le h fun x hx => hasR_mem.1 (hs x hx)
  simpa using this
theorem near_has {g : Topo} {r x : Int} (h : x ∈ near g r) : hasR g.rs x = true := by
  simp only [near, List.mem_map, List.mem_filter] at h
  obtain ⟨y, ⟨hy, _⟩, rfl⟩ := h
  exact hasR_mem.2 (List.mem_map_of_mem hy)
theorem steps_has {g : Topo} {d : List Int} {r x : Int} (h : x ∈ steps g d r) : hasR g.rs x = true := by
  unfold steps at h
  split at h
  · simp at h
  · exact near_has (List.mem_filter.1 h).1
/-- one router behind a router that is not capable, or capable -/
def hopIn (g : Topo) (s : List Int × List Int) (n : Int) : List Int × List Int :=
  if capR g.rs n = true then (s.1, insI s.2 n) else if hasI s.1 n = true then s else (s.1 ++ [n], s.2)
def hopsL (g : Topo) (d : List Int) : Nat → Nat → List Int × List Int → List Int × List Int
  | 0, _, s => s
  | k + 1, i, s => if i < s.1.length then hopsL g d k (i + 1) ((steps g d (s.1.getD i 0)).foldl (hopIn g) s) else s
/-- the capable next routers towards another one -/
def hops (g : Topo) (f t : Int) : List Int :=
  if chkT g = 0 ∧ hasR g.rs f = true ∧ hasR g.rs t = true ∧ ¬ f = t then (hopsL g (dist g t) (g.rs.length + 1) 0 ([f], [])).2 else []
theorem insI_len (l : List Int) (n : Int) : (insI l n).length ≤ l.length + 1 := by
  unfold insI
  split <;> simp <;> omega
theorem roundsD_prop {g : Topo} {p : List Int → Prop} (h : ∀ d l, l ∈ g.ls → p d → p (relax g d l)) : ∀ (n : Nat) (d : List Int), p d → p (roundsD g n d)
  | 0, _, hd => hd
  | n + 1, d, hd => by
    have : ∀ (ls : List Lk) (d : List Int), (∀ x ∈ ls, x ∈ g.ls) → p d → p (ls.foldl (relax g) d) := by
      intro ls
      induction ls with
      | nil => intro d _ hd; exact hd
      | cons x ls ih => intro d hm hd; exact ih _ (fun y hy => hm y (by simp [hy])) (h d x (hm x (by simp)) hd)
    exact roundsD_prop h n _ (this g.ls d (fun _ hx => hx) hd)
theorem dist_len (g : Topo) (t : Int) : (dist g t).length = g.rs.length := by
  refine roundsD_prop (p := fun d => d.length = g.rs.length) (fun d l _ h => by rw [relax_len, h]) _ _ (by simp [dist0])
theorem dist_bd {g : Topo} (hg : g.Ok) (t : Int) : Bd (dist g t) := by
  refine roundsD_prop (p := Bd) (fun d l hl h => h.relax (hg.c hl).1.1 (hg.c hl).2.1) _ _ ?_
  intro v hv
  obtain ⟨x, _, rfl⟩ := List.mem_map.1 hv
  split <;> simp
theorem hops11_c (g : Topo) (hg : g.Sm) (f t : Int) : Contract Try.prog 47 [topT g, .d (.int .i64 f), .d (.int .i64 t)] [] (.d (ints (hops g f t))) [] [] := by
  have hr := hg.r
  refine contract_of Try.func47 rfl (fun E0 => ?_)
  refine awp.sound (g := .mk) (ow := [32]) (kp := (fun k => k == 0 || k == 1 || k == 2 || k == 3 || k == 6 || k == 7 || k == 8 || k == 9 || k == 10 || k == 11 || k == 12 || k == 27 || k == 36 || k == 49 || k == 57 || k == 70)) ?_
  rw [Try.ntmps47]
  simp -dsimp [topT]
  refine ACall.of (has05x_c g hg f) [] 0 ?_
  rcases (Bool.eq_false_or_eq_true (decide (chkT g = 0) && hasR g.rs f)).symm with a1 | a1
  · simp -dsimp [a1, topT]
    refine Fin.view 6 ?_
    simp -dsimp
    refine Fin.of ?_
    have e : hops g f t = [] := by
      rw [hops, if_neg]; rintro ⟨h1, h2, _⟩; simp [h1, h2] at a1
    simp [e, ints]
  have hc : chkT g = 0 := by simp at a1; exact a1.1
  have hf : hasR g.rs f = true := by simp at a1; exact a1.2
  have hO := chkT_zero hc
  simp -dsimp [a1, topT]
  refine ACall.of (has05x_c g hg t) [] 0 ?_
  rcases (Bool.eq_false_or_eq_true (decide (chkT g = 0) && hasR g.rs t)).symm with a2 | a2
  · simp -dsimp [a1, a2, topT]
    refine Fin.view 6 ?_
    simp -dsimp
    refine Fin.of ?_
    have e : hops g f t = [] := by
      rw [hops, if_neg]; rintro ⟨h1, _, h2, _⟩; simp [h1, h2] at a2
    simp [e, ints]
  have ht : hasR g.rs t = true := by simp at a2; exact a2.2
  by_cases a3 : f = t
  · simp -dsimp [a1, a2, eq_true a3, topT]
    refine Fin.view 6 ?_
    simp -dsimp
    refine Fin.of ?_
    have e : hops g f t = [] := by
      rw [hops, if_neg]; rintro ⟨_, _, _, h⟩; exact h a3
    simp [e, ints]
  have hh : hops g f t = (hopsL g (dist g t) (g.rs.length + 1) 0 ([f], [])).2 := by rw [hops, if_pos ⟨hc, hf, ht, a3⟩]
  have hdl := dist_len g t
  have hbd := dist_bd hO t
  simp -dsimp [a1, a2, eq_false a3, topT]
  refine ACall.of (to06_c g hO t) [] 0 ?_
  simp -dsimp [a1, a2, a3, topT]
  rw [hh]
  generalize dist g t = d at hdl hbd
  have hr24 := hO.nr
  as_aux_lemma =>
  refine ALoop.of [32] (fun k => k == 0 || k == 1 || k == 2 || k == 3 || k == 6 || k == 7 || k == 8 || k == 9 || k == 10 || k == 11 || k == 12 || k == 27 || k == 36 || k == 49 || k == 57 || k == 70) (ι := { w : (Nat × List Int × List Int) × Bool // w.1.1 ≤ w.1.2.1.length ∧ w.1.2.1.Nodup ∧ (∀ x ∈ w.1.2.1, hasR g.rs x = true) ∧ w.1.2.2.length ≤ 24 * w.1.1 ∧ hopsL g d (g.rs.length + 1) 0 ([f], []) = hopsL g d (g.rs.length + 1 - w.1.1) w.1.1 w.1.2 })
    (fun z => [(Pl.s 0, It.v (TV.agg [TV.d (D.sl (rts g.rs)), TV.d (D.sl (lks g.ls))])), (Pl.s 1, It.v (TV.d (D.int IntKind.i64 f))), (Pl.s 2, It.v (TV.d (D.int IntKind.i64 t))), (Pl.o 3, It.box [TV.d (D.sl (rts g.rs)), TV.d (D.sl (lks g.ls))]), (Pl.s 3, It.v (TV.ptr (Pl.o 3) 0)), (Pl.s 6, It.v (TV.c (Value.slice none 0 0))), (Pl.s 7, It.v (TV.d (ints d))), (Pl.s 8, It.v (TV.oref 32 z.1.1.2.1.length)), (Pl.o 32, It.row 3 1 (dd (nrow .i64 z.1.1.2.1)) z.1.2), (Pl.s 9, It.v (TV.d (ints z.1.1.2.2))), (Pl.s 10, It.v (TV.d (D.int IntKind.i64 z.1.1.1)))]) (fun z => g.rs.length + 1 - z.1.1.1) ⟨((0, [f], []), false), by simp, by simp, by simpa using hf, by simp, rfl⟩ ?_ ?_
  · exact GS.viewS 9 (by simp [ints, dd, nrow])
  generalize hopsL g d (g.rs.length + 1) 0 ([f], []) = H
  rintro ⟨⟨⟨i, seen, out⟩, sh⟩, i1, i2, i3, i4, i5⟩
  simp only at i1 i2 i3 i4 i5
  have hsl := seen_le i2 i3
  by_cases hi : i < seen.length
  · have hiz : (i : Int) < seen.length := by omega
    have hx : seen[i]? = some seen[i] := List.getElem?_eq_getElem hi
    generalize seen[i] = x at hx
    rw [show g.rs.length + 1 - i = (g.rs.length - i) + 1 by omega, hopsL, if_pos hi, getD_of hx] at i5
    have hsn := steps_len g d x
    have hsh : ∀ y ∈ steps g d x, hasR g.rs y = true := fun y hy => steps_has hy
    simp -dsimp [hiz, row_get hx]
    and_intros
    all_goals try first | rfl | omega | exact ⟨by kernel_rfl⟩
    refine ACall.of (steps06_c g hO d (by omega) hbd x) [] 0 ?_
    simp -dsimp [topT]
    and_intros
    all_goals try first | rfl | omega | exact ⟨by kernel_rfl⟩
    generalize steps g d x = n at hsn hsh i5
    refine ALoop.of [32] (fun k => k == 0 || k == 1 || k == 2 || k == 3 || k == 6 || k == 7 || k == 8 || k == 9 || k == 10 || k == 11 || k == 12 || k == 27 || k == 36 || k == 49 || k == 57 || k == 70) (ι := { w : (Nat × List Int × List Int) × Bool // w.1.1 ≤ n.length ∧ i < w.1.2.1.length ∧ w.1.2.1.Nodup ∧ (∀ x ∈ w.1.2.1, hasR g.rs x = true) ∧ w.1.2.2.length ≤ 24 * i + w.1.1 ∧ n.foldl (hopIn g) (seen, out) = (n.drop w.1.1).foldl (hopIn g) w.1.2 })
      (fun z => [(Pl.s 0, It.v (TV.agg [TV.d (D.sl (rts g.rs)), TV.d (D.sl (lks g.ls))])), (Pl.s 1, It.v (TV.d (D.int IntKind.i64 f))), (Pl.s 2, It.v (TV.d (D.int IntKind.i64 t))), (Pl.o 3, It.box [TV.d (D.sl (rts g.rs)), TV.d (D.sl (lks g.ls))]), (Pl.s 3, It.v (TV.ptr (Pl.o 3) 0)), (Pl.s 6, It.v (TV.c (Value.slice none 0 0))), (Pl.s 7, It.v (TV.d (ints d))), (Pl.s 8, It.v (TV.oref 32 z.1.1.2.1.length)), (Pl.o 32, It.row 3 1 (dd (nrow .i64 z.1.1.2.1)) z.1.2), (Pl.s 9, It.v (TV.d (ints z.1.1.2.2))), (Pl.s 10, It.v (TV.d (D.int IntKind.i64 i))), (Pl.s 11, It.v (TV.d (ints n))), (Pl.s 12, It.v (TV.d (D.int IntKind.i64 z.1.1.1)))]) (fun z => n.length - z.1.1.1) ⟨((0, seen, out), sh), by simp, hi, i2, i3, by simpa using i4, rfl⟩ ?_ ?_
    · exact GS.to (by simp)
    generalize hR : n.foldl (hopIn g) (seen, out) = R at i5
    rintro ⟨⟨⟨k, seen, out⟩, sh⟩, k1, k2, k3, k4, k5, k6⟩
    simp only at k1 k2 k3 k4 k5 k6
    have hsl := seen_le k3 k4
    by_cases hk : k < n.length
    · have hkz : (k : Int) < n.length := by omega
      have hy : n[k]? = some n[k] := List.getElem?_eq_getElem hk
      have hym := hsh _ (List.getElem_mem hk)
      have hdr : n.drop k = n[k] :: n.drop (k + 1) := List.drop_eq_getElem_cons hk
      generalize n[k] = y at hy hym hdr
      rw [hdr, List.foldl_cons, hopIn] at k6
      simp -dsimp [hkz, hy, ints]
      refine ACall.of (capable05_c g hg y) [] 0 ?_
      rcases (Bool.eq_false_or_eq_true (capR g.rs y)).symm with c1 | c1
      · rw [if_neg (by simp [c1])] at k6
        simp -dsimp [eq_true hc, c1, ints, hy, topT]
        and_intros
        all_goals try first | rfl | omega | exact ⟨by kernel_rfl⟩
        refine ACall.of (has04_c seen (by omega) y) [] 0 ?_
        rcases (Bool.eq_false_or_eq_true (hasI seen y)).symm with c2 | c2
        · rw [if_neg (by simp [c2])] at k6
          simp -dsimp [eq_true hc, c1, c2, ints, hy, topT, wrap_i64 (n := (k : Int) + 1) (by omega) (by omega)]
          and_intros
          all_goals try first | rfl | omega | exact ⟨by kernel_rfl⟩
          have hnd : (seen ++ [y]).Nodup := by
            rw [List.nodup_append]
            refine ⟨k3, by simp, fun a ha b hb e => ?_⟩
            simp at hb; subst hb; subst e
            simp [hasI, ha] at c2
          exact ⟨⟨((k + 1, seen ++ [y], out), true), by simp; omega, by simp; omega, hnd, fun x hx => by
            rcases List.mem_append.1 hx with hx | hx
            · exact k4 x hx
            · simp at hx; subst hx; exact hym, by simp; omega, k6⟩, GS.to (by simp [nrow, ints]), by simp; omega⟩
        · rw [if_pos c2] at k6
          simp -dsimp [eq_true hc, c1, c2, ints, hy, topT, wrap_i64 (n := (k : Int) + 1) (by omega) (by omega)]
          and_intros
          all_goals try first | rfl | omega | exact ⟨by kernel_rfl⟩
          exact ⟨⟨((k + 1, seen, out), true), by simp; omega, k2, k3, k4, by simp; omega, k6⟩, GS.to (by simp [ints]), by simp; omega⟩
      · rw [if_pos c1] at k6
        simp -dsimp [eq_true hc, c1, ints, hy, topT]
        and_intros
        all_goals try first | rfl | omega | exact ⟨by kernel_rfl⟩
        refine ACall.of (insert04_c out (by omega) y) [] 0 ?_
        simp -dsimp [eq_true hc, c1, ints, hy, topT, wrap_i64 (n := (k : Int) + 1) (by omega) (by omega)]
        and_intros
        all_goals try first | rfl | omega | exact ⟨by kernel_rfl⟩
        have := insI_len out y
        exact ⟨⟨((k + 1, seen, insI out y), sh), by simp; omega, k2, k3, k4, by simp; omega, k6⟩, GS.to (by simp [ints]), by simp; omega⟩
    · have hkz : ¬ (k : Int) < n.length := by omega
      rw [List.drop_eq_nil_of_le (by omega), List.foldl_nil] at k6
      simp -dsimp [hkz, ints, wrap_i64 (n := (i : Int) + 1) (by omega) (by omega)]
      exact ⟨⟨((i + 1, seen, out), sh), by simp; omega, k3, k4, by simp; omega, by rw [i5, k6, show g.rs.length + 1 - (i + 1) = g.rs.length - i by omega]⟩, GS.to (by simp [ints]), by simp; omega⟩
  · have hiz : ¬ (i : Int) < seen.length := by omega
    have e : H = (seen, out) := by
      rw [i5]
      cases g.rs.length + 1 - i with
      | zero => rfl
      | succ k => rw [hopsL, if_neg hi]
    simp -dsimp [hiz]
    refine Fin.of ?_
    simp [e]
end Go.Proofs

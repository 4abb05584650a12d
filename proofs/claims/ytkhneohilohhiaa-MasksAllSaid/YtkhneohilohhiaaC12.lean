/-
  What functions of the program compute, stated as contracts over plain data; the conditions of each stand in its own statement.
-/
import Derived.Test.YtkhneohilohhiaaC11
import Derived.Test.YtkhneohilohhiaaC8
set_option linter.unusedSimpArgs false
set_option maxRecDepth 100000
set_option maxHeartbeats 4000000
namespace Go.Proofs
open Go Go.Tr

theorem chk_next {b : Tb} (h : chk b = 0) : ∀ x ∈ b.rows, (1 ≤ x.id ∧ x.id ≤ 256) ∧ ∀ n ∈ x.nx, 1 ≤ n ∧ n ≤ 99 := by
  intro x hx
  have ho : ¬ ∃ x ∈ b.rows, x.out := fun g => by
    by_cases hh : b.head
    · rw [chk_out hh g] at h; simp at h
    · rw [chk_head hh] at h; simp at h
  have h1 : ¬ x.out := fun g => ho ⟨x, hx, g⟩
  constructor
  · exact Classical.byContradiction fun g => h1 (.inl g)
  · intro n hn
    exact Classical.byContradiction fun g => h1 (.inr ⟨n, hn, g⟩)
theorem hopR_mem {x : Rw} {p : Int} (h : hopR x p ≠ 0) : hopR x p ∈ x.nx := by
  unfold hopR at h ⊢
  split at h
  · exact absurd rfl h
  · rename_i h0
    rw [if_neg h0]
    have m1 := Int.emod_nonneg p (b := (x.nx.length : Int)) (by omega)
    have m2 := Int.emod_lt_of_pos p (b := (x.nx.length : Int)) (by omega)
    have hlt : (p % x.nx.length).toNat < x.nx.length := by omega
    rw [List.getD_eq_getElem?_getD, List.getElem?_eq_getElem hlt]
    exact List.getElem_mem hlt
theorem bput_keys {m : Mk} {k : Int} {d : BitVec 64} {e : Int × BitVec 64} (h : e ∈ bput m k d) : e.1 = k ∨ ∃ e' ∈ m, e'.1 = e.1 := by
  induction m with
  | nil => simp [bput] at h; exact .inl (by rw [h])
  | cons a m ih =>
    obtain ⟨k', d'⟩ := a
    simp only [bput] at h
    split at h
    · rcases List.mem_cons.1 h with rfl | h
      · exact .inl rfl
      · exact .inr ⟨e, by simp [h], rfl⟩
    · rcases List.mem_cons.1 h with rfl | h
      · exact .inr ⟨_, by simp, rfl⟩
      · exact (ih h).imp id fun ⟨e', h1, h2⟩ => ⟨e', by simp [h1], h2⟩
theorem bput_len (m : Mk) (k : Int) (d : BitVec 64) : (bput m k d).length ≤ m.length + 1 := by
  induction m with
  | nil => simp [bput]
  | cons a m ih =>
    obtain ⟨k', d'⟩ := a
    simp only [bput]
    split
    · simp
    · simp only [List.length_cons]; omega
theorem coll_inv (b : Tb) (p s : Int) : ∀ (l : List Rw) (m : Mk), (∀ e ∈ l.foldl (colStep b p s) m, (∃ e' ∈ m, e'.1 = e.1) ∨ ∃ x ∈ l, e.1 = hopR x p ∧ hopR x p ≠ 0) ∧ (l.foldl (colStep b p s) m).length ≤ m.length + l.length
  | [], m => ⟨fun e he => .inl ⟨e, he, rfl⟩, by simp⟩
  | x :: l, m => by
    obtain ⟨h1, h2⟩ := coll_inv b p s l (colStep b p s m x)
    have hc : (∀ e ∈ colStep b p s m x, (∃ e' ∈ m, e'.1 = e.1) ∨ e.1 = hopR x p ∧ hopR x p ≠ 0) ∧ (colStep b p s m x).length ≤ m.length + 1 := by
      unfold colStep
      split
      · rename_i hc
        exact ⟨fun e he => (bput_keys he).elim (fun h => .inr ⟨h, hc.2⟩) .inl, bput_len _ _ _⟩
      · exact ⟨fun e he => .inl ⟨e, he, rfl⟩, by omega⟩
    refine ⟨fun e he => ?_, by simp only [List.foldl_cons, List.length_cons]; have := hc.2; omega⟩
    rcases h1 e he with ⟨e', h3, h4⟩ | ⟨y, h3, h4⟩
    · rcases hc.1 e' h3 with ⟨e2, h5, h6⟩ | h5
      · exact .inl ⟨e2, h5, by rw [h6, h4]⟩
      · exact .inr ⟨x, by simp, by rw [← h4]; exact h5⟩
    · exact .inr ⟨y, by simp [h3], h4⟩
theorem coll_keys {b : Tb} {p s : Int} (h : chk b = 0) : ∀ e ∈ coll b p s, 1 ≤ e.1 ∧ e.1 ≤ 99 := fun e he => by
  rcases (coll_inv b p s b.rows []).1 e he with ⟨e', h1, _⟩ | ⟨x, hx, h1, h2⟩
  · simp at h1
  · rw [h1]; exact (chk_next h x hx).2 _ (hopR_mem h2)
def maskP (b : Tb) (p s n : Int) : BitVec 64 := if valB b p s = true then bget (coll b p s) n else 0#64
def allP (b : Tb) (p s : Int) : Mk := if valB b p s = true then (mkeys (mk (coll b p s))).map (fun n => (n, bget (coll b p s) n)) else []
def mskD (m : Mk) : D := .sl (m.map fun e => [D.int .i64 e.1, bv e.2])
theorem mask_c (b : Tb) (hb : b.Sm) (p s n : Int) : Contract Try.prog 24 [tblT b, .d (.int .i64 p), .d (.int .i64 s), .d (.int .i64 n)] [] (.d (bv (maskP b p s n))) [] [] := by
  refine contract_of Try.func24 rfl (fun E0 => ?_)
  refine awp.sound (g := .mk) (ow := []) (kp := (fun k => k == 0 || k == 1 || k == 2 || k == 3 || k == 4 || k == 8 || k == 13)) ?_
  rw [Try.ntmps24]
  simp -dsimp [tblT]
  refine ACall.of (valid_c b hb p s) [] 0 ?_
  rcases (Bool.eq_false_or_eq_true (valB b p s)).symm with h | h
  · simp -dsimp [tblT, h]
    and_intros
    all_goals try first | rfl | omega | exact ⟨by kernel_rfl⟩
    refine Fin.of ?_
    simp [maskP, h, bv]
  · simp -dsimp [tblT, h]
    and_intros
    all_goals try first | rfl | omega | exact ⟨by kernel_rfl⟩
    refine ACall.of (collect_c b hb p s (valB_iff.1 h).2.1) [] 1000 ?_
    rcases mget_cases n (coll b p s) with ⟨e1, e2⟩ | e1
    · simp -dsimp [tblT, h, e1]
      and_intros
      all_goals try first | rfl | omega | exact ⟨by kernel_rfl⟩
      refine Fin.of ?_
      simp [maskP, h, bv, e2]
    · simp -dsimp [tblT, h, e1]
      and_intros
      all_goals try first | rfl | omega | exact ⟨by kernel_rfl⟩
      refine Fin.of ?_
      simp [maskP, h, bv]
theorem all_c (b : Tb) (hb : b.Sm) (p s : Int) : Contract Try.prog 15 [tblT b, .d (.int .i64 p), .d (.int .i64 s)] [] (.d (mskD (allP b p s))) [] [] := by
  refine contract_of Try.func15 rfl (fun E0 => ?_)
  refine awp.sound (g := .mk) (ow := []) (kp := (fun k => k == 0 || k == 1 || k == 2 || k == 3 || k == 6 || k == 7 || k == 8 || k == 10 || k == 15 || k == 22 || k == 23 || k == 24 || k == 25)) ?_
  rw [Try.ntmps15]
  simp -dsimp [tblT]
  refine ACall.of (valid_c b hb p s) [] 0 ?_
  rcases (Bool.eq_false_or_eq_true (valB b p s)).symm with h | h
  · simp -dsimp [tblT, h]
    and_intros
    all_goals try first | rfl | omega | exact ⟨by kernel_rfl⟩
    refine Fin.view 6 ?_
    simp -dsimp
    refine Fin.of ?_
    simp [allP, h, mskD]
  · simp -dsimp [tblT, h]
    and_intros
    all_goals try first | rfl | omega | exact ⟨by kernel_rfl⟩
    refine ACall.of (collect_c b hb p s (valB_iff.1 h).2.1) [] 1000 ?_
    have hk := coll_keys (p := p) (s := s) (valB_iff.1 h).1
    have hlen := (coll_inv b p s b.rows []).2
    have hb1 := hb.rows
    simp only [List.length_nil, Nat.zero_add] at hlen
    have hi : ∀ x ∈ mk (coll b p s), I64 x.1 := fun x hx => by
      simp only [mk, List.mem_map] at hx
      obtain ⟨e, he, rfl⟩ := hx
      have := hk e he
      exact ⟨by dsimp only; omega, by dsimp only; omega⟩
    have hml : (mk (coll b p s)).length ≤ 1000000 := by
      rw [mk_len]
      have : (coll b p s).length ≤ b.rows.length := hlen
      omega
    simp -dsimp [tblT, h]
    refine ACall.keys keys_s ?_
    simp -dsimp
    and_intros
    all_goals try first | rfl | omega | exact ⟨by kernel_rfl⟩
    refine ACall.sorted keys_s ?_
    generalize hC : coll b p s = C at hk hi hml ⊢
    have hkl := mkeys_len (mk C)
    simp -dsimp
    and_intros
    all_goals try first | rfl | omega | exact (fun a d hm => hi (a, d) hm) | exact ⟨by kernel_rfl⟩
    have hP : allP b p s = (mkeys (mk C)).map fun n => (n, bget C n) := by unfold allP; rw [if_pos h, hC]
    generalize mkeys (mk C) = K at hkl hP ⊢
    generalize (mk C).length = L at hml hkl ⊢
    subst hkl
    obtain ⟨F, hF⟩ : ∃ F : Nat → List (List D), ∀ z, F z = (K.take z).map fun n => [D.int .i64 n, bv (bget C n)] := ⟨_, fun _ => rfl⟩
    have hF0 : F 0 = [] := by rw [hF]; rfl
    have hFl : ∀ z, (F z).length ≤ K.length := fun z => by rw [hF]; simp; omega
    refine ALoop.of [] (fun k => k == 0 || k == 1 || k == 2 || k == 3 || k == 6 || k == 7 || k == 8 || k == 10 || k == 15 || k == 22 || k == 23 || k == 24 || k == 25) (ι := { i : Nat // i ≤ K.length })
      (fun z => [(Pl.s 6, It.v (TV.c (Value.slice none 0 0))), (Pl.o 1014, It.mp (mk C)), (Pl.s 7, It.v (TV.mref 1014)),
        (Pl.s 8, It.v (TV.oref 8 (F z.1).length)), (Pl.o 8, It.row 42 2 (dd (F z.1)) false),
        (Pl.o 22, It.row 3 1 (dd (nrow .i64 K)) false), (Pl.s 22, It.v (TV.oref 22 K.length)), (Pl.s 23, It.v (TV.d (D.int IntKind.i64 K.length))), (Pl.s 24, It.v (TV.d (D.int IntKind.i64 z.1)))]) (fun z => K.length - z.1) ⟨0, by omega⟩ ?_ ?_
    · exact GS.own' (k := 8) 42 2 (by simp) (by simp) (by simp [hF0])
    · rintro ⟨i, i1⟩
      by_cases hi2 : i < K.length
      · have hiz : (i : Int) < K.length := by omega
        have hg : K[i]? = some K[i] := List.getElem?_eq_getElem hi2
        have hgr : (dd (nrow .i64 K))[i]? = some [TV.d (D.int IntKind.i64 K[i])] := by simp [dd, nrow, hg]
        have hs : F (i + 1) = F i ++ [[D.int .i64 K[i], bv (bget C K[i])]] := by
          rw [hF, hF, List.take_add_one, hg, List.map_append]; rfl
        have hfi := hFl i
        generalize K[i] = n at hg hgr hs
        rcases mget_cases n C with ⟨e1, e2⟩ | e1
        · rw [e2] at hs
          simp -dsimp [hiz, hgr, e1, wrap_i64 (n := (i : Int) + 1) (by omega) (by omega)]
          and_intros
          all_goals try first | rfl | omega | exact ⟨by kernel_rfl⟩
          exact ⟨⟨i + 1, by omega⟩, GS.to (by simp [hs, bv]), by simp; omega⟩
        · simp -dsimp [hiz, hgr, e1, wrap_i64 (n := (i : Int) + 1) (by omega) (by omega)]
          and_intros
          all_goals try first | rfl | omega | exact ⟨by kernel_rfl⟩
          exact ⟨⟨i + 1, by omega⟩, GS.to (by simp [hs, bv]), by simp; omega⟩
      · obtain rfl : i = K.length := by omega
        simp -dsimp
        and_intros
        all_goals try first | rfl | omega | exact ⟨by kernel_rfl⟩
        refine Fin.view 6 ?_
        simp -dsimp
        refine Fin.of ?_
        have hFK : F K.length = K.map fun n => [D.int .i64 n, bv (bget C n)] := by rw [hF, List.take_length]
        simp [mskD, hP, hFK, List.map_map, Function.comp_def]
end Go.Proofs

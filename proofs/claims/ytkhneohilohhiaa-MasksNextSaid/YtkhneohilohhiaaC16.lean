/-
  What functions of the program compute, stated as contracts over plain data; the conditions of each stand in its own statement.
-/
import Derived.Test.YtkhneohilohhiaaC15
import Derived.Test.YtkhneohilohhiaaT26
set_option linter.unusedSimpArgs false
set_option maxRecDepth 100000
set_option maxHeartbeats 4000000
namespace Go.Proofs
open Go Go.Tr

theorem raw_law (b : Tb) (hb : b.rows.length ≤ 9223372036854775807) (hn : ∀ x ∈ b.rows, x.nx.length ≤ 9223372036854775807) (id p s n : Int) : Contract Try.prog 9 [tblT b, .d (.int .i64 id), .d (.int .i64 p), .d (.int .i64 s), .d (.int .i64 n)] [] (.d (.bool true)) [] [] := by
  refine contract_of Try.func9 rfl (fun E0 => ?_)
  refine awp.sound (g := .mk) (ow := []) (kp := (fun k => k == 0 || k == 1 || k == 2 || k == 3 || k == 4 || k == 5 || k == 10 || k == 11 || k == 15 || k == 21 || k == 47)) ?_
  rw [Try.ntmps9]
  by_cases hl : b.rows.length ≤ 60
  · have hz : ¬ (60 : Int) < b.rows.length := by omega
    simp -dsimp [tblT, rwsD, hz]
    and_intros
    all_goals try first | rfl | omega | exact ⟨by kernel_rfl⟩
    refine ALoop.of [] (fun k => k == 0 || k == 1 || k == 2 || k == 3 || k == 4 || k == 5 || k == 10 || k == 11 || k == 15 || k == 21 || k == 47) (ι := { i : Nat // i ≤ b.rows.length ∧ ∀ a, a < i → ∀ x, b.rows[a]? = some x → x.nx.length ≤ 60 })
      (fun z => [(Pl.s 1, It.v (TV.d (D.int IntKind.i64 id))), (Pl.s 2, It.v (TV.d (D.int IntKind.i64 p))), (Pl.s 3, It.v (TV.d (D.int IntKind.i64 s))), (Pl.s 4, It.v (TV.d (D.int IntKind.i64 n))),
        (Pl.o 5, It.box [TV.d (D.int IntKind.i64 b.r), TV.d (D.int IntKind.i64 b.sd), TV.d (D.int IntKind.i64 b.len), TV.d (rwsD b.rows)]), (Pl.s 5, It.v (TV.ptr (Pl.o 5) 0)), (Pl.s 10, It.v (TV.d (D.bool false))), (Pl.s 11, It.v (TV.d (D.int IntKind.i64 z.1)))]) (fun z => b.rows.length - z.1) ⟨0, by omega, fun a h => by omega⟩ ?_ ?_
    · exact GS.to (by simp [rwsD])
    · rintro ⟨i, i1, i2⟩
      by_cases hi : i < b.rows.length
      · have hiz : (i : Int) < b.rows.length := by omega
        have hg : b.rows[i]? = some b.rows[i] := List.getElem?_eq_getElem hi
        have hx := hn _ (List.getElem_mem hi)
        generalize b.rows[i] = x at hg hx
        by_cases h6 : x.nx.length ≤ 60
        · have h6z : ¬ (60 : Int) < x.nx.length := by omega
          simp -dsimp [rwsD, hg, hiz, Rw.cs, ints, h6z]
          and_intros
          all_goals try first | rfl | omega | exact ⟨by kernel_rfl⟩
          refine ACall.of (planes_c x (by omega)) [] 0 ?_
          simp -dsimp [rwT, rwsD, hg, hiz, Rw.cs, ints, h6z]
          and_intros
          all_goals try first | rfl | omega | exact ⟨by kernel_rfl⟩
          refine ACall.of (planes12_c x (by omega)) [] 0 ?_
          have hpl := plnN_len x.nx.length 8
          generalize plnN x.nx.length 8 = L at hpl ⊢
          simp -dsimp [rwT, rwsD, hg, hiz, Rw.cs, ints, h6z]
          and_intros
          all_goals try first | rfl | omega | exact ⟨by kernel_rfl⟩
          have hc := ints04_c L L (by omega)
          simp only [decide_true] at hc
          refine ACall.of hc [] 0 ?_
          simp -dsimp [rwT, rwsD, hg, hiz, Rw.cs, ints, h6z, wrap_i64 (n := (i : Int) + 1) (by omega) (by omega)]
          and_intros
          all_goals try first | rfl | omega | exact ⟨by kernel_rfl⟩
          exact ⟨⟨i + 1, by omega, fun a ha y hy => by
            by_cases e : a = i
            · subst e; rw [hg] at hy; simp only [Option.some.injEq] at hy; subst hy; exact h6
            · exact i2 a (by omega) y hy⟩, GS.to (by simp [rwsD]), by simp; omega⟩
        · have h6z : (60 : Int) < x.nx.length := by omega
          simp -dsimp [rwsD, hg, hiz, Rw.cs, ints, h6z]
          and_intros
          all_goals try first | rfl | omega | exact ⟨by kernel_rfl⟩
          refine ACall.of awake_c [] 0 ?_
          simp -dsimp
          and_intros
          all_goals try first | rfl | omega | exact ⟨by kernel_rfl⟩
          refine Fin.of ?_
          simp
      · have hiz : ¬ (i : Int) < b.rows.length := by omega
        have hsm : b.Sm := ⟨by omega, fun x hx => by
          obtain ⟨a, ha⟩ := List.getElem?_of_mem hx
          have := i2 a (by have := (List.getElem?_eq_some_iff.1 ha).1; omega) x ha
          omega⟩
        have c2 := mask_c b hsm p s n
        rw [maskP_eq] at c2
        have c3 := all_c b hsm p s
        rw [allP_eq] at c3
        have c4 := local_c b hsm s
        rw [maskP_eq] at c4
        have c5 := reach_c b hsm s
        rw [reach_eq] at c5
        have d2 := mask12_c b hsm p s n
        have d3 := all12_c b hsm p s
        have d4 := local12_c b hsm s
        have d5 := reach12_c b hsm s
        have hal := allR_len b p s 99
        generalize maskR b p s n = M1 at c2 d2
        generalize allR b p s 99 = M2 at c3 d3 hal
        generalize maskR b 0 s b.r = M3 at c4 d4
        generalize orAll (allR b 0 s 99) = M4 at c5 d5
        have c1 := mnext_c b hsm id p
        have d1 := next12_c b hsm id p
        generalize nextV b id p = N1 at c1 d1
        simp -dsimp [rwsD, hiz]
        refine ACall.of c1 [] 0 ?_
        simp -dsimp [tblT, rwsD]
        and_intros
        all_goals try first | rfl | omega | exact ⟨by kernel_rfl⟩
        refine ACall.of d1 [] 0 ?_
        simp -dsimp [tblT, rwsD]
        as_aux_lemma =>
        refine ACall.of c2 [] 0 ?_
        simp -dsimp [tblT, rwsD]
        refine ACall.of d2 [] 0 ?_
        simp -dsimp [tblT, rwsD, bv]
        as_aux_lemma =>
        refine ACall.of c3 [] 0 ?_
        simp -dsimp [tblT, rwsD, mskD]
        refine ACall.of d3 [] 0 ?_
        simp -dsimp [tblT, rwsD, mskD]
        as_aux_lemma =>
        refine ACall.of c4 [] 0 ?_
        simp -dsimp [tblT, rwsD, bv]
        refine ACall.of d4 [] 0 ?_
        simp -dsimp [tblT, rwsD, bv]
        as_aux_lemma =>
        refine ACall.of c5 [] 0 ?_
        simp -dsimp [tblT, rwsD, bv]
        refine ACall.of d5 [] 0 ?_
        simp -dsimp [tblT, rwsD, bv]
        refine ACall.of awake_c [] 0 ?_
        simp -dsimp
        and_intros
        all_goals try first | rfl | omega | exact ⟨by kernel_rfl⟩
        refine Fin.of ?_
        simp
  · have hz : (60 : Int) < b.rows.length := by omega
    simp -dsimp [tblT, rwsD, hz]
    refine ACall.of awake_c [] 0 ?_
    simp -dsimp
    and_intros
    all_goals try first | rfl | omega | exact ⟨by kernel_rfl⟩
    refine Fin.of ?_
    simp
theorem has_rw {ds : List D} (h : (Ty.st [.int .i64, .sl (.int .i64)]).has ds) : ∃ x : Rw, ds = x.cs ∧ x.nx.length ≤ maxLen := by
  simp only [Ty.has, Ty.hass] at h
  obtain ⟨_, _, rfl, ⟨m, rfl, _⟩, d2, _, rfl, h2, rfl⟩ := h
  have h3 : (Ty.sl (.int .i64)).has d2 := by
    simp only [Ty.has]
    exact h2
  obtain ⟨l, hl, h4, _⟩ := has_ints h3
  subst hl
  exact ⟨⟨m, l⟩, by simp [Rw.cs, ints], h4⟩
theorem has_rws : ∀ {xs : List (List D)}, (∀ x ∈ xs, (Ty.st [.int .i64, .sl (.int .i64)]).has x) → ∃ l : List Rw, xs = l.map Rw.cs ∧ ∀ x ∈ l, x.nx.length ≤ maxLen
  | [], _ => ⟨[], rfl, by simp⟩
  | x :: xs, h => by
    obtain ⟨y, hy, h1⟩ := has_rw (h x (by simp))
    obtain ⟨l, hl, h2⟩ := has_rws fun z hz => h z (List.mem_cons_of_mem _ hz)
    refine ⟨y :: l, by rw [hy, hl]; rfl, fun z hz => ?_⟩
    rcases List.mem_cons.1 hz with rfl | hz
    · exact h1
    · exact h2 z hz
theorem has_tbl {ds : List D} (h : (Ty.st [.int .i64, .int .i64, .int .i64, .sl (.st [.int .i64, .sl (.int .i64)])]).has ds) : ∃ b : Tb, ds = [.int .i64 b.r, .int .i64 b.sd, .int .i64 b.len, rwsD b.rows] ∧ b.rows.length ≤ maxLen ∧ ∀ x ∈ b.rows, x.nx.length ≤ maxLen := by
  simp only [Ty.has.eq_5, Ty.hass, Ty.has.eq_1, Ty.has.eq_4] at h
  obtain ⟨_, _, rfl, ⟨r, rfl, _⟩, _, _, rfl, ⟨sd, rfl, _⟩, _, _, rfl, ⟨len, rfl, _⟩, _, _, rfl, ⟨xs, rfl, h1, h2⟩, rfl⟩ := h
  obtain ⟨l, rfl, h3⟩ := has_rws fun x hx => by
    simp only [Ty.has.eq_5, Ty.hass, Ty.has.eq_1, Ty.has.eq_4]
    exact h2 x hx
  exact ⟨⟨r, sd, len, l⟩, by simp [rwsD], by simpa using h1, h3⟩
theorem has_int {ds : List D} (h : (Ty.int .i64).has ds) : ∃ n, ds = [.int .i64 n] := by
  simp only [Ty.has] at h
  obtain ⟨n, rfl, _⟩ := h
  exact ⟨n, rfl⟩
end Go.Proofs

/-
  What functions of the program compute, stated as contracts over plain data; the conditions of each stand in its own statement.
-/
import Derived.Test.YteenclepbpajdaaC5
set_option linter.unusedSimpArgs false
set_option maxRecDepth 100000
set_option maxHeartbeats 4000000
namespace Go.Proofs
open Go Go.Tr

theorem clone_nil_c (ad : Option Addr) (c : Nat) : Contract Try.prog 52 [.c (.slice ad 0 c)] [] (.d (ints [])) [] [] := by
  refine contract_of Try.func52 rfl (fun E0 => ?_)
  refine awp.sound (g := .mk) (ow := [5]) (kp := (fun k => k == 0 || k == 2 || k == 4)) ?_
  rw [Try.ntmps52]
  cases ad with
  | none =>
    simp -dsimp [ints]
    and_intros
    all_goals try first | rfl | omega | exact ⟨by kernel_rfl⟩
    refine Fin.view 2 ?_
    simp -dsimp
    refine Fin.of ?_
    simp [ints]
  | some ad =>
    simp -dsimp [ints]
    and_intros
    all_goals try first | rfl | omega | exact ⟨by kernel_rfl⟩
    refine Fin.view 2 ?_
    simp -dsimp
    refine Fin.of ?_
    simp [ints]
theorem clone_c (l : List Int) (hl : l.length ≤ 1000000) : Contract Try.prog 52 [.d (ints l)] [] (.d (ints l)) [] [] := by
  by_cases h0 : l.length = 0
  · obtain rfl : l = [] := List.length_eq_zero_iff.1 h0
    refine Contract.cases fun E us ha => ?_
    simp only [RelVs, RelV, Rep, ints] at ha
    obtain ⟨u, us', rfl, hu, rfl⟩ := ha
    rcases hu with ⟨_, ad, c, rfl⟩ | ⟨b, o, c, k, rfl, _⟩
    · exact ⟨[.c (.slice ad 0 c)], by simp [RelVs, RelV], clone_nil_c ad c⟩
    · exact ⟨[.c (.slice (some ⟨b, o, none⟩) 0 c)], by simp [RelVs, RelV], clone_nil_c _ c⟩
  · have dl : dLen 1 (l.map fun x => [D.int .i64 x]) := dLen_map 1 _ _ fun _ => rfl
    refine contract_of Try.func52 rfl (fun E0 => ?_)
    refine awp.sound (g := .mk) (ow := [5]) (kp := (fun k => k == 0 || k == 2 || k == 4)) ?_
    rw [Try.ntmps52]
    simp -dsimp [ints]
    and_intros
    all_goals try first | rfl | omega | exact dl | exact ⟨by kernel_rfl⟩
    refine Fin.view 2 ?_
    simp -dsimp
    refine Fin.of ?_
    simp [ints]
/-- the row of an ID -/
def rowOf (b : Tb) (id : Int) : Option Rw := b.rows.find? fun x => decide (x.id = id)
def rowT (o : Option Rw) : TV := .tup [rwT (o.getD ⟨0, []⟩), .d (.bool o.isSome)]
theorem rfind_at {l : List Rw} {q : Rw → Bool} {i : Nat} {x : Rw} (hx : l[i]? = some x) (hq : q x = true) (h : ∀ a, a < i → ∀ y, l[a]? = some y → q y = false) : l.find? q = some x := by
  induction l generalizing i with
  | nil => simp at hx
  | cons y l ih =>
    cases i with
    | zero => simp at hx; subst hx; simp [hq]
    | succ i =>
      have h0 := h 0 (by omega) y rfl
      rw [List.find?_cons, h0]
      exact ih (by simpa using hx) fun a ha z hz => h (a + 1) (by omega) z (by simpa using hz)
theorem rfind_no {l : List Rw} {q : Rw → Bool} (h : ∀ a, a < l.length → ∀ y, l[a]? = some y → q y = false) : l.find? q = none := by
  rw [List.find?_eq_none]
  intro x hx
  obtain ⟨a, ha⟩ := List.getElem?_of_mem hx
  simp [h a (List.getElem?_eq_some_iff.1 ha).1 x ha]
theorem trow_c (b : Tb) (hb : b.rows.length ≤ 1000000) (hn : ∀ x ∈ b.rows, x.nx.length ≤ 1000000) (id : Int) : Contract Try.prog 54 [tblT b, .d (.int .i64 id)] [] (rowT (rowOf b id)) [] [] := by
  refine contract_of Try.func54 rfl (fun E0 => ?_)
  refine awp.sound (g := .mk) (ow := []) (kp := (fun k => k == 0 || k == 1 || k == 2 || k == 4 || k == 5 || k == 7 || k == 9 || k == 10 || k == 11 || k == 12 || k == 18)) ?_
  rw [Try.ntmps54]
  simp -dsimp [tblT, rwsD]
  refine ALoop.of [] (fun k => k == 0 || k == 1 || k == 2 || k == 4 || k == 5 || k == 7 || k == 9 || k == 10 || k == 11 || k == 12 || k == 18) (ι := { i : Nat // i ≤ b.rows.length ∧ ∀ a, a < i → ∀ x, b.rows[a]? = some x → decide (x.id = id) = false })
    (fun z => [(Pl.s 1, It.v (TV.d (D.int IntKind.i64 id))), (Pl.o 2, It.box [TV.d (D.int IntKind.i64 b.r), TV.d (D.int IntKind.i64 b.sd), TV.d (D.int IntKind.i64 b.len), TV.d (rwsD b.rows)]), (Pl.s 2, It.v (TV.ptr (Pl.o 2) 0)), (Pl.o 4, It.box [TV.d (D.int IntKind.i64 0), TV.c (Value.slice none 0 0)]), (Pl.s 4, It.v (TV.ptr (Pl.o 4) 0)), (Pl.s 5, It.v (TV.d (D.bool false))), (Pl.s 9, It.v (TV.d (rwsD b.rows))), (Pl.s 10, It.v (TV.d (D.int IntKind.i64 b.rows.length))), (Pl.s 11, It.v (TV.d (D.int IntKind.i64 z.1)))]) (fun z => b.rows.length - z.1) ⟨0, by omega, fun a h => by omega⟩ ?_ ?_
  · exact GS.to (by simp [rwsD])
  · rintro ⟨i, i1, i2⟩
    by_cases hi : i < b.rows.length
    · have hiz : (i : Int) < b.rows.length := by omega
      have hg : b.rows[i]? = some b.rows[i] := List.getElem?_eq_getElem hi
      have hx := hn _ (List.getElem_mem hi)
      generalize b.rows[i] = x at hg hx
      by_cases c1 : x.id = id
      · simp -dsimp [rwsD, hg, hiz, Rw.cs, eq_true c1]
        and_intros
        all_goals try first | rfl | omega | exact ⟨by kernel_rfl⟩
        refine ACall.of (clone_c x.nx hx) [] 0 ?_
        simp -dsimp [rwsD, Rw.cs, c1]
        and_intros
        all_goals try first | rfl | omega | exact ⟨by kernel_rfl⟩
        refine Fin.of ?_
        simp [rowT, rowOf, rfind_at hg (by simpa using c1) i2, rwT, c1]
      · simp -dsimp [rwsD, hg, hiz, Rw.cs, c1, wrap_i64 (n := (i : Int) + 1) (by omega) (by omega)]
        and_intros
        all_goals try first | rfl | omega | exact ⟨by kernel_rfl⟩
        exact ⟨⟨i + 1, by omega, fun a ha y hy => by
          by_cases e : a = i
          · subst e; rw [hg] at hy; simp only [Option.some.injEq] at hy; subst hy; simpa using c1
          · exact i2 a (by omega) y hy⟩, GS.to (by simp [rwsD]), by simp; omega⟩
    · have hiz : ¬ (i : Int) < b.rows.length := by omega
      simp -dsimp [rwsD, hiz]
      refine Fin.box (.o 4) rfl ?_
      simp -dsimp
      refine Fin.of ?_
      simp [rowT, rowOf, rfind_no (q := fun x => decide (x.id = id)) (fun a ha => i2 a (by omega)), rwT, ints]
theorem row11_c (b : Tb) (hb : b.rows.length ≤ 1000000) (hn : ∀ x ∈ b.rows, x.nx.length ≤ 1000000) (id : Int) : Contract Try.prog 57 [tblT b, .d (.int .i64 id)] [] (rowT (rowOf b id)) [] [] := by
  refine contract_of Try.func57 rfl (fun E0 => ?_)
  refine awp.sound (g := .mk) (ow := []) (kp := (fun k => k == 0 || k == 1 || k == 2 || k == 4 || k == 5 || k == 6 || k == 11 || k == 21)) ?_
  rw [Try.ntmps57]
  simp -dsimp [tblT, rwsD]
  refine ALoop.of [] (fun k => k == 0 || k == 1 || k == 2 || k == 4 || k == 5 || k == 6 || k == 11 || k == 21) (ι := { i : Nat // i ≤ b.rows.length ∧ ∀ a, a < i → ∀ x, b.rows[a]? = some x → decide (x.id = id) = false })
    (fun z => [(Pl.s 1, It.v (TV.d (D.int IntKind.i64 id))), (Pl.o 2, It.box [TV.d (D.int IntKind.i64 b.r), TV.d (D.int IntKind.i64 b.sd), TV.d (D.int IntKind.i64 b.len), TV.d (rwsD b.rows)]), (Pl.s 2, It.v (TV.ptr (Pl.o 2) 0)), (Pl.o 4, It.box [TV.d (D.int IntKind.i64 0), TV.c (Value.slice none 0 0)]), (Pl.s 4, It.v (TV.ptr (Pl.o 4) 0)), (Pl.s 5, It.v (TV.d (D.bool false))), (Pl.s 6, It.v (TV.d (D.int IntKind.i64 z.1)))]) (fun z => b.rows.length - z.1) ⟨0, by omega, fun a h => by omega⟩ ?_ ?_
  · exact GS.to (by simp [rwsD])
  · rintro ⟨i, i1, i2⟩
    by_cases hi : i < b.rows.length
    · have hiz : (i : Int) < b.rows.length := by omega
      have hg : b.rows[i]? = some b.rows[i] := List.getElem?_eq_getElem hi
      have hx := hn _ (List.getElem_mem hi)
      generalize b.rows[i] = x at hg hx
      by_cases c1 : x.id = id
      · simp -dsimp [rwsD, hg, hiz, Rw.cs, eq_true c1]
        and_intros
        all_goals try first | rfl | omega | exact ⟨by kernel_rfl⟩
        refine Fin.of ?_
        simp [rowT, rowOf, rfind_at hg (by simpa using c1) i2, rwT, c1]
      · simp -dsimp [rwsD, hg, hiz, Rw.cs, c1, wrap_i64 (n := (i : Int) + 1) (by omega) (by omega)]
        and_intros
        all_goals try first | rfl | omega | exact ⟨by kernel_rfl⟩
        exact ⟨⟨i + 1, by omega, fun a ha y hy => by
          by_cases e : a = i
          · subst e; rw [hg] at hy; simp only [Option.some.injEq] at hy; subst hy; simpa using c1
          · exact i2 a (by omega) y hy⟩, GS.to (by simp [rwsD]), by simp; omega⟩
    · have hiz : ¬ (i : Int) < b.rows.length := by omega
      simp -dsimp [rwsD, hiz]
      refine Fin.box (.o 4) rfl ?_
      simp -dsimp
      refine Fin.of ?_
      simp [rowT, rowOf, rfind_no (q := fun x => decide (x.id = id)) (fun a ha => i2 a (by omega)), rwT, ints]
/-- the next hop of a row -/
def hopR (x : Rw) (p : Int) : Int := if x.nx.length = 0 then 0 else x.nx.getD (p % x.nx.length).toNat 0
theorem next_c2 (x : Rw) (p : Int) (hp : 0 ≤ p ∧ p ≤ 7) (hx : x.nx.length ≤ 1000000) : Contract Try.prog 55 [rwT x, .d (.int .i64 p)] [] (.d (.int .i64 (hopR x p))) [] [] := by
  refine contract_of Try.func55 rfl (fun E0 => ?_)
  refine awp.sound (g := .mk) (ow := []) (kp := (fun k => k == 0 || k == 1 || k == 2 || k == 4 || k == 8)) ?_
  rw [Try.ntmps55]
  by_cases h0 : x.nx.length = 0
  · have h0z : (x.nx.length : Int) = 0 := by omega
    simp -dsimp [rwT, ints, h0, h0z]
    and_intros
    all_goals try first | rfl | omega | exact ⟨by kernel_rfl⟩
    refine Fin.of ?_
    simp [hopR, h0]
  · have h0z : ¬ (x.nx.length : Int) = 0 := by omega
    have e : p.tmod x.nx.length = p % x.nx.length := Int.tmod_eq_emod_of_nonneg hp.1
    have m1 := Int.emod_nonneg p (b := (x.nx.length : Int)) (by omega)
    have m2 := Int.emod_lt_of_pos p (b := (x.nx.length : Int)) (by omega)
    have hlt : (p % x.nx.length).toNat < x.nx.length := by omega
    have hg : x.nx[(p % x.nx.length).toNat]? = some x.nx[(p % x.nx.length).toNat] := List.getElem?_eq_getElem hlt
    simp -dsimp [rwT, ints, h0, h0z, e, hg]
    and_intros
    all_goals try first | rfl | omega | exact ⟨by kernel_rfl⟩
    refine Fin.of ?_
    simp [hopR, h0, hg]
end Go.Proofs

/-
  What functions of the program compute, stated as contracts over plain data; the conditions of each stand in its own statement.
-/
import Derived.Test.YtkhneohilohhiaaC10
set_option linter.unusedSimpArgs false
set_option maxRecDepth 100000
set_option maxHeartbeats 4000000
namespace Go.Proofs
open Go Go.Tr

/-- masks by neighbour -/
abbrev Mk := List (Int × BitVec 64)
def mk (m : Mk) : List (Int × D) := m.map fun e => (e.1, bv e.2)
def bget (m : Mk) (k : Int) : BitVec 64 := ((m.find? fun e => decide (k = e.1)).map (·.2)).getD 0#64
def bput : Mk → Int → BitVec 64 → Mk
  | [], k, d => [(k, d)]
  | (k', d') :: es, k, d => if k = k' then (k, d) :: es else (k', d') :: bput es k d
theorem mput_mk (k : Int) (d : BitVec 64) : ∀ m : Mk, mput (mk m) k (bv d) = mk (bput m k d)
  | [] => rfl
  | (k', d') :: es => by
    have ih := mput_mk k d es
    simp only [mk, List.map_cons, mput, bput] at ih ⊢
    split
    · rfl
    · simp only [List.map_cons, ih]
theorem mget_cases (k : Int) : ∀ m : Mk, (mget (mk m) k = none ∧ bget m k = 0#64) ∨ mget (mk m) k = some (.int .u64 (tn (bget m k)))
  | [] => .inl ⟨rfl, rfl⟩
  | (k', d') :: es => by
    have ih := mget_cases k es
    simp only [mk, List.map_cons, mget, bget, List.find?_cons] at ih ⊢
    by_cases e : k = k'
    · exact .inr (by simp [e, bv])
    · simp only [if_neg e, decide_eq_false e]
      exact ih
theorem orI_z (X : BitVec 64) : orI .u64 0 (tn X) = tn X := by
  rw [Go.Tr.u64_or, wu_tn]
  simp [wu]
theorem mk_len (m : Mk) : (mk m).length = m.length := by simp [mk]
/-- one row's bit -/
def colStep (b : Tb) (p s : Int) (m : Mk) (x : Rw) : Mk := if plSet x.id b.len = s ∧ hopR x p ≠ 0 then bput m (hopR x p) (bget m (hopR x p) ||| (1#64 <<< (plBit x.id b.len).toNat)) else m
def coll (b : Tb) (p s : Int) : Mk := b.rows.foldl (colStep b p s) []
theorem collect_c (b : Tb) (hb : b.Sm) (p s : Int) (hp : 0 ≤ p ∧ p ≤ 7) : Contract Try.prog 40 [tblT b, .d (.int .i64 p), .d (.int .i64 s)] [] (.mref 14) [] [(14, .mp (mk (coll b p s)))] := by
  refine contract_of Try.func40 rfl (fun E0 => ?_)
  refine awp.sound (g := .mk) (ow := []) (kp := (fun k => k == 0 || k == 1 || k == 2 || k == 3 || k == 6 || k == 7 || k == 9 || k == 10 || k == 11 || k == 13 || k == 16 || k == 17 || k == 18 || k == 19 || k == 40)) ?_
  rw [Try.ntmps40]
  simp -dsimp [tblT, rwsD]
  refine ALoop.of [] (fun k => k == 0 || k == 1 || k == 2 || k == 3 || k == 6 || k == 7 || k == 9 || k == 10 || k == 11 || k == 13 || k == 16 || k == 17 || k == 18 || k == 19 || k == 40) (ι := { i : Nat // i ≤ b.rows.length })
    (fun z => [(Pl.s 1, It.v (TV.d (D.int IntKind.i64 p))), (Pl.s 2, It.v (TV.d (D.int IntKind.i64 s))),
      (Pl.o 3, It.box [TV.d (D.int IntKind.i64 b.r), TV.d (D.int IntKind.i64 b.sd), TV.d (D.int IntKind.i64 b.len), TV.d (rwsD b.rows)]), (Pl.s 3, It.v (TV.ptr (Pl.o 3) 0)), (Pl.s 6, It.v (TV.c (Value.map none))),
      (Pl.o 14, It.mp (mk ((b.rows.take z.1).foldl (colStep b p s) []))), (Pl.s 7, It.v (TV.mref 14)),
      (Pl.s 16, It.v (TV.d (rwsD b.rows))), (Pl.s 17, It.v (TV.d (D.int IntKind.i64 b.rows.length))), (Pl.s 18, It.v (TV.d (D.int IntKind.i64 z.1)))]) (fun z => b.rows.length - z.1) ⟨0, by omega⟩ ?_ ?_
  · exact GS.to (by simp [rwsD, mk])
  · rintro ⟨i, i1⟩
    by_cases hi : i < b.rows.length
    · have hiz : (i : Int) < b.rows.length := by omega
      have hg : b.rows[i]? = some b.rows[i] := List.getElem?_eq_getElem hi
      have hx := hb.nx _ (List.getElem_mem hi)
      have hs : (b.rows.take (i + 1)).foldl (colStep b p s) [] = colStep b p s ((b.rows.take i).foldl (colStep b p s) []) b.rows[i] := by
        rw [List.take_add_one, hg, Option.toList_some, List.foldl_append]; rfl
      generalize b.rows[i] = x at hg hx hs
      generalize (b.rows.take i).foldl (colStep b p s) [] = m at hs ⊢
      have hpl := plB x.id b.len
      have hb1 := hb.rows
      obtain ⟨pb, hpb⟩ : ∃ n : Nat, plBit x.id b.len = n := ⟨(plBit x.id b.len).toNat, by omega⟩
      simp -dsimp [rwsD, hg, hiz, Rw.cs]
      and_intros
      all_goals try first | rfl | omega | exact ⟨by kernel_rfl⟩
      refine ACall.of (place10_c2 x.id b.len) [] 0 ?_
      simp -dsimp [placeT]
      and_intros
      all_goals try first | rfl | omega | exact ⟨by kernel_rfl⟩
      refine ACall.of (next_c2 x p hp hx) [] 0 ?_
      by_cases c1 : plSet x.id b.len = s
      · by_cases c2 : hopR x p = 0
        · simp -dsimp [rwT, c1, c2, wrap_i64 (n := (i : Int) + 1) (by omega) (by omega)]
          and_intros
          all_goals try first | rfl | omega | exact ⟨by kernel_rfl⟩
          exact ⟨⟨i + 1, by omega⟩, GS.to (by simp [rwsD, hs, colStep, c2]), by simp; omega⟩
        · rcases mget_cases (hopR x p) m with ⟨e1, e2⟩ | e1
          · simp -dsimp [rwT, c1, c2, e1, orI_z, hpb, wrap_i64 (n := (i : Int) + 1) (by omega) (by omega)]
            and_intros
            all_goals try first | rfl | omega | exact ⟨by kernel_rfl⟩
            have hst : mput (mk m) (hopR x p) (D.int .u64 (tn (1#64 <<< pb))) = mk (colStep b p s m x) := by
              unfold colStep
              rw [if_pos ⟨c1, c2⟩, ← mput_mk, e2, hpb]
              simp [bv]
            exact ⟨⟨i + 1, by omega⟩, GS.to (by simp [rwsD, hs, hst]), by simp; omega⟩
          · simp -dsimp [rwT, c1, c2, e1, hpb, wrap_i64 (n := (i : Int) + 1) (by omega) (by omega)]
            and_intros
            all_goals try first | rfl | omega | exact ⟨by kernel_rfl⟩
            have hst : mput (mk m) (hopR x p) (D.int .u64 (tn (bget m (hopR x p) ||| 1#64 <<< pb))) = mk (colStep b p s m x) := by
              unfold colStep
              rw [if_pos ⟨c1, c2⟩, ← mput_mk, hpb]
              simp [bv]
            exact ⟨⟨i + 1, by omega⟩, GS.to (by simp [rwsD, hs, hst]), by simp; omega⟩
      · simp -dsimp [rwT, c1, wrap_i64 (n := (i : Int) + 1) (by omega) (by omega)]
        and_intros
        all_goals try first | rfl | omega | exact ⟨by kernel_rfl⟩
        exact ⟨⟨i + 1, by omega⟩, GS.to (by simp [rwsD, hs, colStep, c1]), by simp; omega⟩
    · obtain rfl : i = b.rows.length := by omega
      simp -dsimp
      refine Fin.of ?_
      simp [coll]
end Go.Proofs

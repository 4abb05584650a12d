/-
  What functions of the program compute, stated as contracts over plain data; the conditions of each stand in its own statement.
-/
import Derived.Test.YteenclepbpajdaaG3
set_option linter.unusedSimpArgs false
set_option maxRecDepth 100000
namespace Go.Proofs
open Go Go.Tr

structure Lk where
  a : Int
  b : Int
  ca : Int
  cb : Int
  cap : Int
def Lk.cs (x : Lk) : List D := [.int .i64 x.a, .int .i64 x.b, .int .i64 x.ca, .int .i64 x.cb, .int .i64 x.cap]
def lks (l : List Lk) : List (List D) := l.map Lk.cs
def Lk.before (y x : Lk) : Bool := decide (y.a < x.a) || (decide (y.a = x.a) && decide (y.b < x.b))
def lkPos (x : Lk) : List Lk → Nat
  | [] => 0
  | y :: r => if y.before x then lkPos x r + 1 else 0
def ordL : List Lk → List Lk → List Lk
  | [], out => out
  | x :: l, out => ordL l (out.take (lkPos x out) ++ [x] ++ out.drop (lkPos x out))

@[simp] theorem lks_len (l : List Lk) : (lks l).length = l.length := by simp [lks]
theorem lks_get {l : List Lk} {i : Nat} {x : Lk} (h : l[i]? = some x) : (lks l)[i]? = some x.cs := by simp [lks, h]
theorem lks_get' {l : List Lk} {i : Nat} {x : Lk} (h : l[i]? = some x) (hi : i < (lks l).length) : (lks l)[i] = x.cs := by
  have := lks_get h
  rw [List.getElem?_eq_getElem hi] at this
  simpa using this
theorem dLen_lks (l : List Lk) : dLen 5 (lks l) := dLen_map 5 _ _ fun _ => rfl
theorem lkPos_le (x : Lk) : ∀ l : List Lk, lkPos x l ≤ l.length
  | [] => Nat.le_refl _
  | y :: r => by
    have := lkPos_le x r
    simp only [lkPos, List.length_cons]
    split <;> omega

theorem ord_c (l : List Lk) (hl : l.length ≤ 1000) : Contract Try.prog 23 [.d (.sl (lks l))] [] (.d (.sl (lks (ordL l [])))) [] [] := by
  refine contract_of Try.func23 rfl (fun E0 => ?_)
  refine awp.sound (g := .mk) (ow := []) (kp := (fun k => k == 0 || k == 2 || k == 3 || k == 4 || k == 5 || k == 6 || k == 10 || k == 55)) ?_
  rw [Try.ntmps23]
  simp -dsimp
  refine ALoop.of [] (fun k => k == 0 || k == 2 || k == 3 || k == 4 || k == 5 || k == 6 || k == 10 || k == 55) (ι := { i : Nat × List Lk // i.1 ≤ l.length ∧ i.2.length = i.1 ∧ ordL l [] = ordL (l.drop i.1) i.2 }) (fun i => [(Pl.s 0, It.v (.d (.sl (lks l)))),
        (Pl.s 2, It.v (TV.c (Value.slice none 0 0))), (Pl.s 3, It.v (.d (.sl (lks i.1.2)))),
        (Pl.s 4, It.v (TV.d (D.int IntKind.i64 i.1.1)))]) (fun i => l.length - i.1.1) ⟨(0, []), by simp, rfl, rfl⟩ ?_ ?_
  · exact GS.viewS 3 (by simp [lks])
  · rintro ⟨⟨i, out⟩, h1, h2, h3⟩
    simp only at h1 h2 h3
    simp -dsimp
    refine AIf.dec (fun h => ?_) (fun h => ?_)
    · have hi : i < l.length := by simpa using h
      obtain ⟨x, hx⟩ : ∃ x, l[i]? = some x := ⟨l[i], List.getElem?_eq_getElem hi⟩
      have hx' := lks_get' hx
      have hdl : l.drop i = x :: l.drop (i + 1) := by rw [List.getElem?_eq_some_iff] at hx; obtain ⟨_, rfl⟩ := hx; exact List.drop_eq_getElem_cons _
      simp -dsimp
      refine ALoop.of [] (fun k => k == 0 || k == 2 || k == 3 || k == 4 || k == 5 || k == 6 || k == 10 || k == 55) (ι := { p : Nat // p ≤ out.length ∧ lkPos x out = p + lkPos x (out.drop p) }) (fun p => [(Pl.s 0, It.v (.d (.sl (lks l)))),
        (Pl.s 2, It.v (TV.c (Value.slice none 0 0))), (Pl.s 3, It.v (.d (.sl (lks out)))), (Pl.s 4, It.v (TV.d (D.int IntKind.i64 i))), (Pl.s 5, It.v (TV.d (D.int IntKind.i64 p.1)))]) (fun p => out.length - p.1) ⟨0, by omega, by simp⟩ ?_ ?_
      · exact GS.to (by simp)
      · rintro ⟨p, p1, p2⟩
        by_cases hp : p < out.length
        · obtain ⟨y, hy⟩ : ∃ y, out[p]? = some y := ⟨out[p], List.getElem?_eq_getElem hp⟩
          have hy' := lks_get' hy
          have hd : out.drop p = y :: out.drop (p + 1) := by rw [List.getElem?_eq_some_iff] at hy; obtain ⟨_, rfl⟩ := hy; exact List.drop_eq_getElem_cons _
          by_cases c1 : y.a < x.a
          · simp -dsimp [hp, hi, hy', hx', Lk.cs, c1, wrap_i64 (n := (p : Int) + 1) (by omega) (by omega)]
            refine ⟨⟨⟨p + 1, by omega, ?_⟩, GS.to (by simp), by simp; omega⟩, ⟨by kernel_rfl⟩⟩
            rw [p2, hd, lkPos, if_pos (by simp [Lk.before, c1])]; omega
          · by_cases c2 : y.a = x.a
            · by_cases c3 : y.b < x.b
              · simp -dsimp [hp, hi, hy', hx', Lk.cs, c1, c2, c3, wrap_i64 (n := (p : Int) + 1) (by omega) (by omega)]
                refine ⟨⟨⟨p + 1, by omega, ?_⟩, GS.to (by simp), by simp; omega⟩, ⟨by kernel_rfl⟩⟩
                rw [p2, hd, lkPos, if_pos (by simp [Lk.before, c2, c3])]; omega
              · have hq : lkPos x out = p := by rw [p2, hd, lkPos, if_neg (by simp [Lk.before, c2, c3])]; omega
                simp -dsimp [hp, hi, hy', c1, c2, c3, hx', Lk.cs, wrap_i64 (n := (i : Int) + 1) (by omega) (by omega)]
                and_intros
                all_goals try first | omega | exact ⟨by kernel_rfl⟩ | exact dLen_lks out | exact dLen_take (dLen_lks out) | exact dLen_drop (dLen_lks out) | exact dLen_drop (dLen_take (dLen_lks out)) | (simp; omega)
                refine ⟨⟨(i + 1, out.take p ++ [x] ++ out.drop p), by omega, by simp; omega, ?_⟩, GS.viewS 3 ?_, by simp; omega⟩
                · rw [h3, hdl, ordL, hq]
                · simp
                  refine ⟨by omega, ?_⟩
                  simp [lks, Lk.cs, List.take_of_length_le]
            · have hq : lkPos x out = p := by rw [p2, hd, lkPos, if_neg (by simp [Lk.before, c1, c2])]; omega
              simp -dsimp [hp, hi, hy', c1, c2, hx', Lk.cs, wrap_i64 (n := (i : Int) + 1) (by omega) (by omega)]
              and_intros
              all_goals try first | omega | exact ⟨by kernel_rfl⟩ | exact dLen_lks out | exact dLen_take (dLen_lks out) | exact dLen_drop (dLen_lks out) | exact dLen_drop (dLen_take (dLen_lks out)) | (simp; omega)
              refine ⟨⟨(i + 1, out.take p ++ [x] ++ out.drop p), by omega, by simp; omega, ?_⟩, GS.viewS 3 ?_, by simp; omega⟩
              · rw [h3, hdl, ordL, hq]
              · simp
                refine ⟨by omega, ?_⟩
                simp [lks, Lk.cs, List.take_of_length_le]
        · have hq : lkPos x out = p := by rw [p2, List.drop_eq_nil_of_le (by omega), lkPos]; omega
          simp -dsimp [hp, hi, hx', Lk.cs, wrap_i64 (n := (i : Int) + 1) (by omega) (by omega)]
          and_intros
          all_goals try first | omega | exact ⟨by kernel_rfl⟩ | exact dLen_lks out | exact dLen_take (dLen_lks out) | exact dLen_drop (dLen_lks out) | exact dLen_drop (dLen_take (dLen_lks out)) | (simp; omega)
          refine ⟨⟨(i + 1, out.take p ++ [x] ++ out.drop p), by omega, by simp; omega, ?_⟩, GS.viewS 3 ?_, by simp; omega⟩
          · rw [h3, hdl, ordL, hq]
          · simp
            refine ⟨by omega, ?_⟩
            simp [lks, Lk.cs, List.take_of_length_le]
    · simp -dsimp
      refine Fin.of ?_
      have : l.drop i = [] := List.drop_eq_nil_of_le (by simpa using h)
      simp [h3, this, ordL]
end Go.Proofs

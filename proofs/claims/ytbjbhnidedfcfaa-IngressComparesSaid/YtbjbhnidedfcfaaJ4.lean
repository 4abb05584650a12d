/-
  What functions of the program compute, stated as contracts over plain data; the conditions of each stand in its own statement.
-/
import Derived.Test.YtbjbhnidedfcfaaJ1
set_option linter.unusedSimpArgs false
set_option maxRecDepth 100000
set_option maxHeartbeats 1000000
namespace Go.Proofs
open Go Go.Tr

def msF (b : List Int) (o : List Int) (x : Int) : List Int := if hasI b x = true then o else insI o x
def rpF (b : List Int) : Nat → List Int
  | 0 => []
  | n + 1 => if hasI (b.take n) (b.getD n 0) = true then insI (rpF b n) (b.getD n 0) else rpF b n
def missT (x y z : List Int) : TV := .tup [.d (ints x), .d (ints y), .d (ints z)]
theorem insI_len (l : List Int) (n : Int) : (insI l n).length ≤ l.length + 1 := by
  unfold insI
  split
  · omega
  · simp; omega
theorem ms_len (b : List Int) : ∀ (xs o : List Int), (xs.foldl (msF b) o).length ≤ o.length + xs.length
  | [], o => by simp
  | x :: xs, o => by
    have h := ms_len b xs (msF b o x)
    have h2 : (msF b o x).length ≤ o.length + 1 := by
      unfold msF
      split
      · omega
      · exact insI_len o x
    simp only [List.foldl_cons, List.length_cons]
    omega
theorem rp_len (b : List Int) : ∀ n, (rpF b n).length ≤ n
  | 0 => by simp [rpF]
  | n + 1 => by
    have h := rp_len b n
    have h2 := insI_len (rpF b n) (b.getD n 0)
    simp only [rpF]
    split <;> omega
theorem missing17_c (a b : List Int) (ha : a.length ≤ 100000) (hb : b.length ≤ 100000) : Contract Try.prog 10 [.d (ints a), .d (ints b)] [] (missT (a.foldl (msF b) []) (b.foldl (msF a) []) (rpF b b.length)) [] [] := by
  refine contract_of Try.func10 rfl (fun E0 => ?_)
  refine awp.sound (g := .mk) (ow := []) (kp := (fun k => k == 0 || k == 1 || k == 4 || k == 5 || k == 6 || k == 7 || k == 8 || k == 9 || k == 10 || k == 11 || k == 15 || k == 24 || k == 34 || k == 43 || k == 57)) ?_
  rw [Try.ntmps10]
  simp -dsimp
  refine ALoop.of [] (fun k => k == 0 || k == 1 || k == 4 || k == 5 || k == 6 || k == 7 || k == 8 || k == 9 || k == 10 || k == 11 || k == 15 || k == 24 || k == 34 || k == 43 || k == 57) (ι := { i : Nat // i ≤ a.length }) (fun z => [(Pl.s 0, It.v (TV.d (ints a))), (Pl.s 1, It.v (TV.d (ints b))), (Pl.s 4, It.v (TV.c (Value.slice none 0 0))), (Pl.s 5, It.v (TV.c (Value.slice none 0 0))), (Pl.s 6, It.v (TV.c (Value.slice none 0 0))),
      (Pl.s 7, It.v (.d (ints ((a.take z.1).foldl (msF b) [])))), (Pl.s 8, It.v (.d (ints []))), (Pl.s 9, It.v (.d (ints []))), (Pl.s 10, It.v (TV.d (D.int IntKind.i64 z.1)))]) (fun z => a.length - z.1) ⟨0, by omega⟩ ?_ ?_
  · exact GS.viewSs [7, 8, 9] (by simp [ints])
  · rintro ⟨i, i1⟩
    have l0 := ms_len b (a.take i) []
    by_cases hi : i < a.length
    · have hs : (a.take (i + 1)).foldl (msF b) [] = msF b ((a.take i).foldl (msF b) []) a[i] := by
        rw [List.take_add_one, List.getElem?_eq_getElem hi, List.foldl_append]; rfl
      simp -dsimp [ints, hi]
      refine ACall.of (has04_c b (by omega) a[i]) [] 0 ?_
      rcases (Bool.eq_false_or_eq_true (hasI b a[i])).symm with h | h
      · simp -dsimp [ints, hi, h]
        refine ACall.of (insert04_c ((a.take i).foldl (msF b) []) (by simp at l0; omega) a[i]) [] 0 ?_
        simp -dsimp [ints, wrap_i64 (n := (i : Int) + 1) (by omega) (by omega)]
        try refine ⟨?_, ⟨by kernel_rfl⟩⟩
        exact ⟨⟨i + 1, by omega⟩, GS.to (by simp [ints, hs, msF, h]), by simp; omega⟩
      · simp -dsimp [ints, hi, h, wrap_i64 (n := (i : Int) + 1) (by omega) (by omega)]
        try refine ⟨?_, ⟨by kernel_rfl⟩⟩
        exact ⟨⟨i + 1, by omega⟩, GS.to (by simp [ints, hs, msF, h]), by simp; omega⟩
    · obtain rfl : i = a.length := by omega
      simp -dsimp [ints, hi]
      refine ALoop.of [] (fun k => k == 0 || k == 1 || k == 4 || k == 5 || k == 6 || k == 7 || k == 8 || k == 9 || k == 10 || k == 11 || k == 15 || k == 24 || k == 34 || k == 43 || k == 57) (ι := { i : Nat // i ≤ b.length }) (fun z => [(Pl.s 0, It.v (TV.d (ints a))), (Pl.s 1, It.v (TV.d (ints b))), (Pl.s 4, It.v (TV.c (Value.slice none 0 0))), (Pl.s 5, It.v (TV.c (Value.slice none 0 0))), (Pl.s 6, It.v (TV.c (Value.slice none 0 0))),
          (Pl.s 7, It.v (.d (ints (a.foldl (msF b) [])))), (Pl.s 8, It.v (.d (ints ((b.take z.1).foldl (msF a) [])))), (Pl.s 9, It.v (.d (ints (rpF b z.1)))), (Pl.s 11, It.v (TV.d (D.int IntKind.i64 z.1)))]) (fun z => b.length - z.1) ⟨0, by omega⟩ ?_ ?_
      · exact GS.to (by simp [ints, rpF])
      · rintro ⟨j, j1⟩
        have l1 := ms_len a (b.take j) []
        have l2 := rp_len b j
        by_cases hj : j < b.length
        · have hs : (b.take (j + 1)).foldl (msF a) [] = msF a ((b.take j).foldl (msF a) []) b[j] := by
            rw [List.take_add_one, List.getElem?_eq_getElem hj, List.foldl_append]; rfl
          have hg : b.getD j 0 = b[j] := by simp [List.getD, hj]
          have hr : rpF b (j + 1) = if hasI (b.take j) b[j] = true then insI (rpF b j) b[j] else rpF b j := by rw [rpF, hg]
          simp -dsimp [ints, hj]
          refine ACall.of (has04_c a (by omega) b[j]) [] 0 ?_
          rcases (Bool.eq_false_or_eq_true (hasI a b[j])).symm with h | h
          · simp -dsimp [ints, hj, h]
            refine ACall.of (insert04_c ((b.take j).foldl (msF a) []) (by simp at l1; omega) b[j]) [] 0 ?_
            simp -dsimp [ints, hj]
            try refine ⟨by omega, ?_⟩
            try refine ⟨?_, ⟨by kernel_rfl⟩⟩
            refine ACall.of (has04_c (b.take j) (by simp; omega) b[j]) [] 0 ?_
            rcases (Bool.eq_false_or_eq_true (hasI (b.take j) b[j])).symm with g | g
            · simp -dsimp [ints, hj, g, wrap_i64 (n := (j : Int) + 1) (by omega) (by omega)]
              try refine ⟨?_, ⟨by kernel_rfl⟩⟩
              exact ⟨⟨j + 1, by omega⟩, GS.to (by simp [ints, hs, hr, msF, h, g]), by simp; omega⟩
            · simp -dsimp [ints, hj, g]
              try refine ⟨?_, ⟨by kernel_rfl⟩⟩
              refine ACall.of (insert04_c (rpF b j) (by omega) b[j]) [] 0 ?_
              simp -dsimp [ints, wrap_i64 (n := (j : Int) + 1) (by omega) (by omega)]
              try refine ⟨?_, ⟨by kernel_rfl⟩⟩
              exact ⟨⟨j + 1, by omega⟩, GS.to (by simp [ints, hs, hr, msF, h, g]), by simp; omega⟩
          · simp -dsimp [ints, hj, h]
            try refine ⟨by omega, ?_⟩
            try refine ⟨?_, ⟨by kernel_rfl⟩⟩
            refine ACall.of (has04_c (b.take j) (by simp; omega) b[j]) [] 0 ?_
            rcases (Bool.eq_false_or_eq_true (hasI (b.take j) b[j])).symm with g | g
            · simp -dsimp [ints, hj, g, wrap_i64 (n := (j : Int) + 1) (by omega) (by omega)]
              try refine ⟨?_, ⟨by kernel_rfl⟩⟩
              exact ⟨⟨j + 1, by omega⟩, GS.to (by simp [ints, hs, hr, msF, h, g]), by simp; omega⟩
            · simp -dsimp [ints, hj, g]
              try refine ⟨?_, ⟨by kernel_rfl⟩⟩
              refine ACall.of (insert04_c (rpF b j) (by omega) b[j]) [] 0 ?_
              simp -dsimp [ints, wrap_i64 (n := (j : Int) + 1) (by omega) (by omega)]
              try refine ⟨?_, ⟨by kernel_rfl⟩⟩
              exact ⟨⟨j + 1, by omega⟩, GS.to (by simp [ints, hs, hr, msF, h, g]), by simp; omega⟩
        · obtain rfl : j = b.length := by omega
          simp -dsimp [ints, hj]
          refine Fin.of ?_
          simp [missT, ints]
end Go.Proofs

/-
  What functions of the program compute, stated as contracts over plain data; the conditions of each stand in its own statement.
-/
import Derived.Test.YtkhgmgelbgondaaF
import Derived.Test.YtkhgmgelbgondaaT27
set_option linter.unusedSimpArgs false
namespace Go.Proofs
open Go Go.Tr

/-! ### the tape -/
abbrev Tp := List Int × Nat
def ints (l : List Int) : D := .sl (l.map fun n => [.int .i64 n])
def tapeI (T : Tp) : It := .box [.d (ints T.1), .d (.int .i64 T.2)]
def TapeOK (T : Tp) : Prop := T.1.length ≤ 2000 ∧ ∀ x ∈ T.1, I64 x

section
variable (t : S) (ν : List Pl) (b : Nat) (po : Nat → Prop) (T : Tp)
@[simp] theorem tape_pass : passI t ν (tapeI T) = some (tapeI T) := by simp [tapeI]
@[simp] theorem tape_passC : passCI t (tapeI T) = True := by simp [tapeI]
@[simp] theorem tape_rows : rowsI (tapeI T) = [] := rfl
@[simp] theorem tape_back : backI ν b (tapeI T) = tapeI T := rfl
@[simp] theorem tape_box : isBox (tapeI T) = true := rfl
@[simp] theorem tape_only : It.only po (tapeI T) = True := by simp [tapeI]
end

def gRaw (T : Tp) : Int × Tp := if T.1.length ≤ T.2 then (0, T) else (T.1.getD T.2 0, T.1, T.2 + 1)
def gCut (x n : Int) : Int := if n < 1 then 0 else x % n
def gNext (T : Tp) (n : Int) : Int × Tp := (gCut (gRaw T).1 n, (gRaw T).2)
def gRange (T : Tp) (a b : Int) : Int × Tp := (a + (gNext T (b - a + 1)).1, (gNext T (b - a + 1)).2)
def gOne (T : Tp) (n : Int) : Bool × Tp := (decide ((gNext T n).1 = n - 1), (gNext T n).2)
def gPick (T : Tp) (l : List Int) : Int × Tp := (l.getD (gNext T l.length).1.toNat 0, (gNext T l.length).2)

def wilds : List Int := [-1, 0, 1, 7, 8, 23, 24, 31, 32, 63, 64, 99, 100, 255, 256, 257, 1000, 1001, 1023, 1024, 1000000, 1000001, 1099511627776, 9223372036854775807, -9223372036854775808]
def gWild (T : Tp) : Int × Tp := gPick T wilds

theorem gRaw_tape (T : Tp) : (gRaw T).2.1 = T.1 := by unfold gRaw; split <;> rfl
@[simp] theorem gRaw_ok (T : Tp) : TapeOK (gRaw T).2 = TapeOK T := by simp [TapeOK, gRaw_tape]
@[simp] theorem gNext_ok (T : Tp) (n : Int) : TapeOK (gNext T n).2 = TapeOK T := gRaw_ok T
@[simp] theorem gRange_ok (T : Tp) (a b : Int) : TapeOK (gRange T a b).2 = TapeOK T := gRaw_ok T
@[simp] theorem gOne_ok (T : Tp) (n : Int) : TapeOK (gOne T n).2 = TapeOK T := gRaw_ok T
@[simp] theorem gPick_ok (T : Tp) (l : List Int) : TapeOK (gPick T l).2 = TapeOK T := gRaw_ok T

theorem gRaw_i64 {T : Tp} (h : TapeOK T) : I64 (gRaw T).1 := by
  unfold gRaw
  split
  · simp [I64]
  · rename_i g
    have g' : T.2 < T.1.length := by omega
    simp only [List.getD_eq_getElem?_getD, List.getElem?_eq_getElem g', Option.getD_some]
    exact h.2 _ (List.getElem_mem g')
theorem gCut_nonneg (x n : Int) : 0 ≤ gCut x n := by
  unfold gCut; split
  · simp
  · exact Int.emod_nonneg _ (by omega)
theorem gCut_lt (x : Int) {n : Int} (h : 0 < n) : gCut x n < n := by
  unfold gCut; split
  · omega
  · exact Int.emod_lt_of_pos _ h
theorem gNext_nonneg (T : Tp) (n : Int) : 0 ≤ (gNext T n).1 := gCut_nonneg _ _
theorem gNext_lt (T : Tp) {n : Int} (h : 0 < n) : (gNext T n).1 < n := gCut_lt _ h
theorem gRange_lo (T : Tp) (a b : Int) : a ≤ (gRange T a b).1 := by have := gNext_nonneg T (b - a + 1); simp only [gRange]; omega
theorem gRange_hi (T : Tp) {a b : Int} (h : a ≤ b) : (gRange T a b).1 ≤ b := by have := gNext_lt T (n := b - a + 1) (by omega); simp only [gRange]; omega

theorem tmod_lt0 {x n : Int} (hn : 0 < n) (h : x.tmod n < 0) : x.tmod n + n = x % n := by
  have e := @Int.tmod_eq_emod x n
  have h1 := Int.emod_nonneg x (b := n) (by omega)
  split at e <;> rename_i g
  · simp at e; omega
  · omega
theorem tmod_ge0 {x n : Int} (hn : 0 < n) (h : ¬ x.tmod n < 0) : x.tmod n = x % n := by
  have e := @Int.tmod_eq_emod x n
  have h1 := Int.emod_lt_of_pos x hn
  split at e <;> rename_i g
  · simp at e; omega
  · omega

theorem cut_c (x n : Int) (hn : I64 n) : Contract Try.prog 27 [.d (.int .i64 x), .d (.int .i64 n)] [] (.d (.int .i64 (gCut x n))) [] [] := by
  refine contract_of Try.func27 rfl (fun E0 => ?_)
  refine awp.sound (g := .mk) (ow := []) (kp := (fun k => k == 0 || k == 1 || k == 4 || k == 6 || k == 11)) ?_
  rw [Try.ntmps27]
  obtain ⟨h1, h2⟩ := hn
  simp -dsimp
  refine AIf.dec (fun h => ?_) (fun h => ?_)
  · simp -dsimp
    refine Fin.of ?_
    simp [gCut, h]
  · simp -dsimp
    refine ⟨by omega, AIf.dec (fun g => ?_) (fun g => ?_)⟩
    · have := tmod_lt0 (by omega) g
      have := Int.emod_nonneg x (b := n) (by omega)
      have := Int.emod_lt_of_pos x (b := n) (by omega)
      simp -dsimp (disch := omega) [wrap_i64]
      refine Fin.of ?_
      simp [gCut, h]
      omega
    · simp -dsimp
      refine Fin.of ?_
      simp [gCut, h]
      exact tmod_ge0 (by omega) g

theorem raw_c (T : Tp) (hT : TapeOK T) : Contract Try.prog 70 [.ptr (.x 0) 0] [tapeI T] (.d (.int .i64 (gRaw T).1)) [tapeI (gRaw T).2] [] := by
  obtain ⟨l, i⟩ := T
  have hi : l.length ≤ 2000 := hT.1
  refine contract_of Try.func70 rfl (fun E0 => ?_)
  refine awp.sound (g := .mk) (ow := []) (kp := (fun k => k == 0 || k == 2 || k == 12)) ?_
  rw [Try.ntmps70]
  simp -dsimp [tapeI, ints]
  refine ⟨AIf.dec (fun h => ?_) (fun h => ?_), ⟨by kernel_rfl⟩⟩
  · simp -dsimp
    refine Fin.of ?_
    simp [tapeI, ints, h, gRaw]
  · have h1 : i < l.length := by omega
    simp -dsimp (disch := omega) [wrap_i64, List.getElem?_eq_getElem h1]
    refine ⟨h1, ?_, ⟨by kernel_rfl⟩⟩
    refine Fin.of ?_
    simp [tapeI, ints, gRaw, h, List.getElem?_eq_getElem h1]

theorem next_c (T : Tp) (hT : TapeOK T) (n : Int) (hn : I64 n) : Contract Try.prog 38 [.ptr (.x 0) 0, .d (.int .i64 n)] [tapeI T] (.d (.int .i64 (gNext T n).1)) [tapeI (gNext T n).2] [] := by
  refine contract_of Try.func38 rfl (fun E0 => ?_)
  refine awp.sound (g := .mk) (ow := []) (kp := (fun k => k == 0 || k == 1 || k == 4)) ?_
  rw [Try.ntmps38]
  simp -dsimp
  refine ACall.of (raw_c T hT) [.x 0] 0 ?_
  simp -dsimp
  refine ACall.of (cut_c (gRaw T).1 n hn) [] 0 ?_
  simp -dsimp
  refine Fin.of ?_
  simp [gNext]

theorem range_c (T : Tp) (hT : TapeOK T) (a b : Int) (_ha : I64 a) (hn : I64 (b - a)) (hn1 : I64 (b - a + 1)) (hb : I64 (gRange T a b).1) : Contract Try.prog 17 [.ptr (.x 0) 0, .d (.int .i64 a), .d (.int .i64 b)] [tapeI T] (.d (.int .i64 (gRange T a b).1)) [tapeI (gRange T a b).2] [] := by
  refine contract_of Try.func17 rfl (fun E0 => ?_)
  refine awp.sound (g := .mk) (ow := []) (kp := (fun k => k == 0 || k == 1 || k == 2 || k == 6)) ?_
  rw [Try.ntmps17]
  simp -dsimp [wrap_i64 hn.1 hn.2, wrap_i64 hn1.1 hn1.2]
  refine ACall.of (next_c T hT (b - a + 1) hn1) [.x 0] 0 ?_
  have hb' : I64 (a + (gNext T (b - a + 1)).1) := hb
  simp -dsimp [wrap_i64 hb'.1 hb'.2]
  refine Fin.of ?_
  simp [gRange]

theorem pick_c (T : Tp) (hT : TapeOK T) (l : List Int) (hl : 0 < l.length) (hl2 : l.length < 1000) : Contract Try.prog 37 [.ptr (.x 0) 0, .d (ints l)] [tapeI T] (.d (.int .i64 (gPick T l).1)) [tapeI (gPick T l).2] [] := by
  refine contract_of Try.func37 rfl (fun E0 => ?_)
  refine awp.sound (g := .mk) (ow := []) (kp := (fun k => k == 0 || k == 1 || k == 4)) ?_
  rw [Try.ntmps37]
  simp -dsimp [ints]
  refine ACall.of (next_c T hT l.length ⟨by omega, by omega⟩) [.x 0] 0 ?_
  have h1 := gNext_nonneg T l.length
  have h2 := gNext_lt T (n := l.length) (by omega)
  have h3 : (gNext T l.length).1.toNat < l.length := by omega
  simp -dsimp [List.getElem?_eq_getElem h3]
  refine ⟨by omega, by omega, ?_⟩
  refine Fin.of ?_
  simp [gPick, ints, List.getElem?_eq_getElem h3]


theorem new_c (l : List Int) : Contract Try.prog 7 [.d (ints l)] [] (.ptr (.o 9) 0) [] [(9, tapeI (l.take 2000, 0))] := by
  have hm : minI IntKind.i64 l.length 2000 = .d (.int .i64 (min l.length 2000 : Nat)) := by simp [minI]; omega
  refine contract_of Try.func7 rfl (fun E0 => ?_)
  refine awp.sound (g := .mk) (ow := []) (kp := (fun k => k == 0 || k == 2)) ?_
  rw [Try.ntmps7]
  simp -dsimp [ints, hm]
  refine ⟨by omega, ?_⟩
  refine Fin.of ?_
  simp [tapeI, ints]
  exact Nat.min_comm _ _
def hasI (l : List Int) (n : Int) : Bool := decide (n ∈ l)
theorem in_c (l : List Int) (hl : l.length ≤ 1000000) (n : Int) : Contract Try.prog 44 [.d (ints l), .d (.int .i64 n)] [] (.d (.bool (hasI l n))) [] [] := by
  refine contract_of Try.func44 rfl (fun E0 => ?_)
  refine awp.sound (g := .mk) (ow := []) (kp := (fun k => k == 0 || k == 1 || k == 4 || k == 5 || k == 9 || k == 17)) ?_
  rw [Try.ntmps44]
  simp -dsimp [ints]
  refine ALoop.of [] (fun k => k == 0 || k == 1 || k == 4 || k == 5 || k == 9 || k == 17) (ι := { i : Nat // i ≤ l.length ∧ ∀ a, a < i → ∀ x, l[a]? = some x → x ≠ n }) (fun z => [(Pl.s 0, It.v (.d (ints l))), (Pl.s 1, It.v (.d (.int .i64 n))), (Pl.s 4, It.v (.d (.bool false))), (Pl.s 5, It.v (TV.d (D.int IntKind.i64 z.1)))]) (fun z => l.length - z.1) ⟨0, by omega, fun a h => by omega⟩ ?_ ?_
  · exact GS.to (by simp [ints])
  · rintro ⟨i, i1, i2⟩
    by_cases hi : i < l.length
    · by_cases h : l[i] = n
      · simp -dsimp [ints, hi, h]
        try refine ⟨?_, ⟨by kernel_rfl⟩⟩
        refine Fin.of ?_
        have : hasI l n = true := by simp only [hasI, decide_eq_true_eq]; rw [← h]; exact List.getElem_mem hi
        simp [this]
      · simp -dsimp [ints, hi, h, wrap_i64 (n := (i : Int) + 1) (by omega) (by omega)]
        try refine ⟨?_, ⟨by kernel_rfl⟩⟩
        exact ⟨⟨i + 1, by omega, fun a ha x hx => by
          by_cases e : a = i
          · subst e; rw [List.getElem?_eq_getElem hi] at hx; simp only [Option.some.injEq] at hx; rw [← hx]; exact h
          · exact i2 a (by omega) x hx⟩, GS.to (by simp [ints]), by simp; omega⟩
    · simp -dsimp [ints, hi]
      refine Fin.of ?_
      have : hasI l n = false := by
        simp only [hasI, decide_eq_false_iff_not]
        intro hm
        obtain ⟨a, ha⟩ := List.getElem?_of_mem hm
        exact i2 a (by have := (List.getElem?_eq_some_iff.1 ha).1; omega) n ha rfl
      simp [this]
theorem ints_cL (a b : List Int) (hl : a.length ≤ 9223372036854775807) : Contract Try.prog 14 [.d (ints a), .d (ints b)] [] (.d (.bool (decide (a = b)))) [] [] := by
  refine contract_of Try.func14 rfl (fun E0 => ?_)
  refine awp.sound (g := .mk) (ow := []) (kp := (fun k => k == 0 || k == 1 || k == 4 || k == 5 || k == 10 || k == 14 || k == 25)) ?_
  rw [Try.ntmps14]
  by_cases hlen : a.length = b.length
  · simp -dsimp [ints, hlen]
    refine ALoop.of [] (fun k => k == 0 || k == 1 || k == 4 || k == 5 || k == 10 || k == 14 || k == 25) (ι := { i : Nat // i ≤ a.length ∧ ∀ j, j < i → a[j]? = b[j]? }) (fun z => [(Pl.s 0, It.v (.d (ints a))), (Pl.s 1, It.v (.d (ints b))), (Pl.s 4, It.v (.d (.bool false))), (Pl.s 5, It.v (TV.d (D.int IntKind.i64 z.1)))]) (fun z => a.length - z.1) ⟨0, by omega, fun j h => by omega⟩ ?_ ?_
    · exact GS.to (by simp [ints])
    · rintro ⟨i, i1, i2⟩
      by_cases hi : i < a.length
      · have hi' : i < b.length := by omega
        by_cases h : a[i] = b[i]
        · simp -dsimp [ints, hi, hi', h, wrap_i64 (n := (i : Int) + 1) (by omega) (by omega)]
          try refine ⟨?_, ⟨by kernel_rfl⟩⟩
          exact ⟨⟨i + 1, by omega, fun j hj => by
            by_cases e : j = i
            · subst e; rw [List.getElem?_eq_getElem hi, List.getElem?_eq_getElem hi', h]
            · exact i2 j (by omega)⟩, GS.to (by simp [ints]), by simp; omega⟩
        · simp -dsimp [ints, hi, hi', h]
          try refine ⟨?_, ⟨by kernel_rfl⟩⟩
          refine Fin.of ?_
          have : a ≠ b := fun e => by subst e; exact h rfl
          simp [this]
      · simp -dsimp [ints, hi]
        refine Fin.of ?_
        have : a = b := List.ext_getElem? fun j => by
          by_cases hj : j < i
          · exact i2 j hj
          · rw [List.getElem?_eq_none (by omega), List.getElem?_eq_none (by omega)]
        simp [this]
  · have hlen' : ¬ (a.length : Int) = b.length := by omega
    simp -dsimp [ints, hlen, hlen']
    refine Fin.of ?_
    have : a ≠ b := fun e => hlen (by rw [e])
    simp [this]
theorem ints_c (a b : List Int) (hl : a.length ≤ 1000000) : Contract Try.prog 14 [.d (ints a), .d (ints b)] [] (.d (.bool (decide (a = b)))) [] [] := ints_cL a b (Nat.le_trans hl (by decide))
end Go.Proofs

/-
  What functions of the program compute, stated as contracts over plain data; the conditions of each stand in its own statement.
-/
import Derived.Test.YteenclepbpajdaaF
import Derived.Test.YteenclepbpajdaaT30
import Derived.Test.YteenclepbpajdaaJ0
set_option linter.unusedSimpArgs false
namespace Go.Proofs
open Go Go.Tr

/-! ### the tape -/
abbrev Tp := List Int × Nat
def ints (l : List Int) : D := .sl (l.map fun n => [.int .i64 n])
def tapeI (T : Tp) : It := .box [.d (ints T.1), .d (.int .i64 T.2)]
def TapeOK (T : Tp) : Prop := T.1.length ≤ 600 ∧ ∀ x ∈ T.1, I64 x

section
variable (t : S) (ν : List Pl) (b : Nat) (po : Nat → Prop) (T : Tp)
@[simp] theorem tape_pass : passI t ν (tapeI T) = some (tapeI T) := by simp [tapeI]
@[simp] theorem tape_passC : passCI t (tapeI T) = True := by simp [tapeI]
@[simp] theorem tape_rows : rowsI (tapeI T) = [] := rfl
@[simp] theorem tape_back : backI ν b (tapeI T) = tapeI T := rfl
@[simp] theorem tape_box : isBox (tapeI T) = true := rfl
@[simp] theorem tape_only : It.only po (tapeI T) = True := by simp [tapeI]
end

def gRaw (T : Tp) : Int × Tp := if T.1.length ≤ T.2 then (0, T) else (T.1.getD T.2 0, T.1, T.2 + 1)
def gCut (x n : Int) : Int := if n < 1 then 0 else x % n
def gNext (T : Tp) (n : Int) : Int × Tp := (gCut (gRaw T).1 n, (gRaw T).2)
def gRange (T : Tp) (a b : Int) : Int × Tp := (a + (gNext T (b - a + 1)).1, (gNext T (b - a + 1)).2)
def gOne (T : Tp) (n : Int) : Bool × Tp := (decide ((gNext T n).1 = n - 1), (gNext T n).2)
def gPick (T : Tp) (l : List Int) : Int × Tp := (l.getD (gNext T l.length).1.toNat 0, (gNext T l.length).2)

def wilds : List Int := [-1, 0, 1, 7, 8, 23, 24, 31, 32, 63, 64, 99, 100, 255, 256, 257, 1000, 1001, 1023, 1024, 1000000, 1000001, 1099511627776, 9223372036854775807, -9223372036854775808]
def gWild (T : Tp) : Int × Tp := gPick T wilds

theorem gRaw_tape (T : Tp) : (gRaw T).2.1 = T.1 := by unfold gRaw; split <;> rfl
@[simp] theorem gRaw_ok (T : Tp) : TapeOK (gRaw T).2 = TapeOK T := by simp [TapeOK, gRaw_tape]
@[simp] theorem gNext_ok (T : Tp) (n : Int) : TapeOK (gNext T n).2 = TapeOK T := gRaw_ok T
@[simp] theorem gRange_ok (T : Tp) (a b : Int) : TapeOK (gRange T a b).2 = TapeOK T := gRaw_ok T
@[simp] theorem gOne_ok (T : Tp) (n : Int) : TapeOK (gOne T n).2 = TapeOK T := gRaw_ok T
@[simp] theorem gPick_ok (T : Tp) (l : List Int) : TapeOK (gPick T l).2 = TapeOK T := gRaw_ok T

theorem gRaw_i64 {T : Tp} (h : TapeOK T) : I64 (gRaw T).1 := by
  unfold gRaw
  split
  · simp [I64]
  · rename_i g
    have g' : T.2 < T.1.length := by omega
    simp only [List.getD_eq_getElem?_getD, List.getElem?_eq_getElem g', Option.getD_some]
    exact h.2 _ (List.getElem_mem g')
theorem gCut_nonneg (x n : Int) : 0 ≤ gCut x n := by
  unfold gCut; split
  · simp
  · exact Int.emod_nonneg _ (by omega)
theorem gCut_lt (x : Int) {n : Int} (h : 0 < n) : gCut x n < n := by
  unfold gCut; split
  · omega
  · exact Int.emod_lt_of_pos _ h
theorem gNext_nonneg (T : Tp) (n : Int) : 0 ≤ (gNext T n).1 := gCut_nonneg _ _
theorem gNext_lt (T : Tp) {n : Int} (h : 0 < n) : (gNext T n).1 < n := gCut_lt _ h
theorem gRange_lo (T : Tp) (a b : Int) : a ≤ (gRange T a b).1 := by have := gNext_nonneg T (b - a + 1); simp only [gRange]; omega
theorem gRange_hi (T : Tp) {a b : Int} (h : a ≤ b) : (gRange T a b).1 ≤ b := by have := gNext_lt T (n := b - a + 1) (by omega); simp only [gRange]; omega

theorem tmod_lt0 {x n : Int} (hn : 0 < n) (h : x.tmod n < 0) : x.tmod n + n = x % n := by
  have e := @Int.tmod_eq_emod x n
  have h1 := Int.emod_nonneg x (b := n) (by omega)
  split at e <;> rename_i g
  · simp at e; omega
  · omega
theorem tmod_ge0 {x n : Int} (hn : 0 < n) (h : ¬ x.tmod n < 0) : x.tmod n = x % n := by
  have e := @Int.tmod_eq_emod x n
  have h1 := Int.emod_lt_of_pos x hn
  split at e <;> rename_i g
  · simp at e; omega
  · omega

theorem cut_c (x n : Int) (hn : I64 n) : Contract Try.prog 30 [.d (.int .i64 x), .d (.int .i64 n)] [] (.d (.int .i64 (gCut x n))) [] [] := by
  refine contract_of Try.func30 rfl (fun E0 => ?_)
  refine awp.sound (g := .mk) (ow := []) (kp := (fun k => k == 0 || k == 1 || k == 4 || k == 6 || k == 11)) ?_
  rw [Try.ntmps30]
  obtain ⟨h1, h2⟩ := hn
  simp -dsimp
  refine AIf.dec (fun h => ?_) (fun h => ?_)
  · simp -dsimp
    refine Fin.of ?_
    simp [gCut, h]
  · simp -dsimp
    refine ⟨by omega, AIf.dec (fun g => ?_) (fun g => ?_)⟩
    · have := tmod_lt0 (by omega) g
      have := Int.emod_nonneg x (b := n) (by omega)
      have := Int.emod_lt_of_pos x (b := n) (by omega)
      simp -dsimp (disch := omega) [wrap_i64]
      refine Fin.of ?_
      simp [gCut, h]
      omega
    · simp -dsimp
      refine Fin.of ?_
      simp [gCut, h]
      exact tmod_ge0 (by omega) g

theorem raw_c (T : Tp) (hT : TapeOK T) : Contract Try.prog 31 [.ptr (.x 0) 0] [tapeI T] (.d (.int .i64 (gRaw T).1)) [tapeI (gRaw T).2] [] := by
  obtain ⟨l, i⟩ := T
  have hi : l.length ≤ 600 := hT.1
  refine contract_of Try.func31 rfl (fun E0 => ?_)
  refine awp.sound (g := .mk) (ow := []) (kp := (fun k => k == 0 || k == 2 || k == 12)) ?_
  rw [Try.ntmps31]
  simp -dsimp [tapeI, ints]
  refine ⟨AIf.dec (fun h => ?_) (fun h => ?_), ⟨by kernel_rfl⟩⟩
  · simp -dsimp
    refine Fin.of ?_
    simp [tapeI, ints, h, gRaw]
  · have h1 : i < l.length := by omega
    simp -dsimp (disch := omega) [wrap_i64, List.getElem?_eq_getElem h1]
    refine ⟨h1, ?_, ⟨by kernel_rfl⟩⟩
    refine Fin.of ?_
    simp [tapeI, ints, gRaw, h, List.getElem?_eq_getElem h1]

theorem next_c (T : Tp) (hT : TapeOK T) (n : Int) (hn : I64 n) : Contract Try.prog 17 [.ptr (.x 0) 0, .d (.int .i64 n)] [tapeI T] (.d (.int .i64 (gNext T n).1)) [tapeI (gNext T n).2] [] := by
  refine contract_of Try.func17 rfl (fun E0 => ?_)
  refine awp.sound (g := .mk) (ow := []) (kp := (fun k => k == 0 || k == 1 || k == 4)) ?_
  rw [Try.ntmps17]
  simp -dsimp
  refine ACall.of (raw_c T hT) [.x 0] 0 ?_
  simp -dsimp
  refine ACall.of (cut_c (gRaw T).1 n hn) [] 0 ?_
  simp -dsimp
  refine Fin.of ?_
  simp [gNext]

theorem range_c (T : Tp) (hT : TapeOK T) (a b : Int) (_ha : I64 a) (hn : I64 (b - a)) (hn1 : I64 (b - a + 1)) (hb : I64 (gRange T a b).1) : Contract Try.prog 9 [.ptr (.x 0) 0, .d (.int .i64 a), .d (.int .i64 b)] [tapeI T] (.d (.int .i64 (gRange T a b).1)) [tapeI (gRange T a b).2] [] := by
  refine contract_of Try.func9 rfl (fun E0 => ?_)
  refine awp.sound (g := .mk) (ow := []) (kp := (fun k => k == 0 || k == 1 || k == 2 || k == 6)) ?_
  rw [Try.ntmps9]
  simp -dsimp [wrap_i64 hn.1 hn.2, wrap_i64 hn1.1 hn1.2]
  refine ACall.of (next_c T hT (b - a + 1) hn1) [.x 0] 0 ?_
  have hb' : I64 (a + (gNext T (b - a + 1)).1) := hb
  simp -dsimp [wrap_i64 hb'.1 hb'.2]
  refine Fin.of ?_
  simp [gRange]

theorem one_c (T : Tp) (hT : TapeOK T) (n : Int) (hn : I64 n) (hn1 : I64 (n - 1)) : Contract Try.prog 6 [.ptr (.x 0) 0, .d (.int .i64 n)] [tapeI T] (.d (.bool (gOne T n).1)) [tapeI (gOne T n).2] [] := by
  refine contract_of Try.func6 rfl (fun E0 => ?_)
  refine awp.sound (g := .mk) (ow := []) (kp := (fun k => k == 0 || k == 1 || k == 4)) ?_
  rw [Try.ntmps6]
  simp -dsimp
  refine ACall.of (next_c T hT n hn) [.x 0] 0 ?_
  simp -dsimp [wrap_i64 hn1.1 hn1.2]
  refine Fin.of ?_
  simp [gOne]

theorem pick_c (T : Tp) (hT : TapeOK T) (l : List Int) (hl : 0 < l.length) (hl2 : l.length < 1000) : Contract Try.prog 19 [.ptr (.x 0) 0, .d (ints l)] [tapeI T] (.d (.int .i64 (gPick T l).1)) [tapeI (gPick T l).2] [] := by
  refine contract_of Try.func19 rfl (fun E0 => ?_)
  refine awp.sound (g := .mk) (ow := []) (kp := (fun k => k == 0 || k == 1 || k == 4)) ?_
  rw [Try.ntmps19]
  simp -dsimp [ints]
  refine ACall.of (next_c T hT l.length ⟨by omega, by omega⟩) [.x 0] 0 ?_
  have h1 := gNext_nonneg T l.length
  have h2 := gNext_lt T (n := l.length) (by omega)
  have h3 : (gNext T l.length).1.toNat < l.length := by omega
  simp -dsimp [List.getElem?_eq_getElem h3]
  refine ⟨by omega, by omega, ?_⟩
  refine Fin.of ?_
  simp [gPick, ints, List.getElem?_eq_getElem h3]

theorem length_c (T : Tp) (hT : TapeOK T) : Contract Try.prog 25 [.ptr (.x 0) 0] [tapeI T] (.d (.int .i64 (gPick T [8, 8, 16, 32, 64]).1)) [tapeI (gPick T [8, 8, 16, 32, 64]).2] [] := by
  refine contract_of Try.func25 rfl (fun E0 => ?_)
  refine awp.sound (g := .mk) (ow := []) (kp := (fun k => k == 0 || k == 2)) ?_
  rw [Try.ntmps25]
  simp -dsimp
  refine ACall.of (pick_c T hT [8, 8, 16, 32, 64] (by simp) (by simp)) [.x 0] 0 ?_
  simp -dsimp [ints]
  refine Fin.of ?_
  simp

theorem wild_c (T : Tp) (hT : TapeOK T) : Contract Try.prog 24 [.ptr (.x 0) 0] [tapeI T] (.d (.int .i64 (gWild T).1)) [tapeI (gWild T).2] [] := by
  refine contract_of Try.func24 rfl (fun E0 => ?_)
  refine awp.sound (g := .mk) (ow := []) (kp := (fun k => k == 0 || k == 2)) ?_
  rw [Try.ntmps24]
  simp -dsimp
  refine ACall.of (pick_c T hT wilds (by simp [wilds]) (by simp [wilds])) [.x 0] 0 ?_
  simp -dsimp [ints, wilds]
  refine Fin.of ?_
  simp [gWild, wilds]
end Go.Proofs

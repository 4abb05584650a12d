/-
  What functions of the program compute, stated as contracts over plain data; the conditions of each stand in its own statement.
-/
import Derived.Test.YtjgeggdefiejbaaGreatDoorW17
import Derived.Test.YtjgeggdefiejbaaGreatDoorW15
set_option linter.unusedSimpArgs false
namespace Go.Proofs
open Go Go.Tr
abbrev Tp := List Int × Nat
def ints (l : List Int) : D := .sl (l.map fun n => [.int .i64 n])
def tapeI (T : Tp) : It := .box [.d (ints T.1), .d (.int .i64 T.2)]
def TapeOK (T : Tp) : Prop := T.1.length ≤ 600 ∧ ∀ x ∈ T.1, I64 x
section
variable (t : S) (ν : List Pl) (b : Nat) (po : Nat → Prop) (T : Tp)
@[simp] theorem tape_pass : passI t ν (tapeI T) = some (tapeI T) := by simp [tapeI]
@[simp] theorem tape_passC : passCI t (tapeI T) = True := by simp [tapeI]
@[simp] theorem tape_rows : rowsI (tapeI T) = [] := rfl
@[simp] theorem tape_back : backI ν b (tapeI T) = tapeI T := rfl
@[simp] theorem tape_box : isBox (tapeI T) = true := rfl
@[simp] theorem tape_only : It.only po (tapeI T) = True := by simp [tapeI]
end
def gRaw (T : Tp) : Int × Tp := if T.1.length ≤ T.2 then (0, T) else (T.1.getD T.2 0, T.1, T.2 + 1)
def gCut (x n : Int) : Int := if n < 1 then 0 else x % n
def gNext (T : Tp) (n : Int) : Int × Tp := (gCut (gRaw T).1 n, (gRaw T).2)
def gRange (T : Tp) (a b : Int) : Int × Tp := (a + (gNext T (b - a + 1)).1, (gNext T (b - a + 1)).2)
def gOne (T : Tp) (n : Int) : Bool × Tp := (decide ((gNext T n).1 = n - 1), (gNext T n).2)
def gPick (T : Tp) (l : List Int) : Int × Tp := (l.getD (gNext T l.length).1.toNat 0, (gNext T l.length).2)
def wilds : List Int := [-1, 0, 1, 7, 8, 23, 24, 31, 32, 63, 64, 99, 100, 255, 256, 257, 1000, 1001, 1023, 1024, 1000000, 1000001, 1099511627776, 9223372036854775807, -9223372036854775808]
def gWild (T : Tp) : Int × Tp := gPick T wilds
theorem gRaw_tape (T : Tp) : (gRaw T).2.1 = T.1 := by unfold gRaw; split <;> rfl
@[simp] theorem gRaw_ok (T : Tp) : TapeOK (gRaw T).2 = TapeOK T := by simp [TapeOK, gRaw_tape]
@[simp] theorem gNext_ok (T : Tp) (n : Int) : TapeOK (gNext T n).2 = TapeOK T := gRaw_ok T
@[simp] theorem gRange_ok (T : Tp) (a b : Int) : TapeOK (gRange T a b).2 = TapeOK T := gRaw_ok T
@[simp] theorem gOne_ok (T : Tp) (n : Int) : TapeOK (gOne T n).2 = TapeOK T := gRaw_ok T
@[simp] theorem gPick_ok (T : Tp) (l : List Int) : TapeOK (gPick T l).2 = TapeOK T := gRaw_ok T
theorem gCut_nonneg (x n : Int) : 0 ≤ gCut x n := by
 unfold gCut; split
 ·simp
 ·exact Int.emod_nonneg _ (by omega)
theorem gCut_lt (x : Int) {n : Int} (h : 0 < n) : gCut x n < n := by
 unfold gCut; split
 ·omega
 ·exact Int.emod_lt_of_pos _ h
theorem gNext_nonneg (T : Tp) (n : Int) : 0 ≤ (gNext T n).1 := gCut_nonneg _ _
theorem gNext_lt (T : Tp) {n : Int} (h : 0 < n) : (gNext T n).1 < n := gCut_lt _ h
theorem gRange_lo (T : Tp) (a b : Int) : a ≤ (gRange T a b).1 := by have := gNext_nonneg T (b - a + 1); simp only [gRange]; omega
theorem gRange_hi (T : Tp) {a b : Int} (h : a ≤ b) : (gRange T a b).1 ≤ b := by have := gNext_lt T (n := b - a + 1) (by omega); simp only [gRange]; omega
theorem tmod_lt0 {x n : Int} (hn : 0 < n) (h : x.tmod n < 0) : x.tmod n + n = x % n := by
 have e := @Int.tmod_eq_emod x n
 have h1 := Int.emod_nonneg x (b := n) (by omega)
 split at e <;> rename_i g
 ·simp at e; omega
 ·omega
theorem tmod_ge0 {x n : Int} (hn : 0 < n) (h : ¬ x.tmod n < 0) : x.tmod n = x % n := by
 have e := @Int.tmod_eq_emod x n
 have h1 := Int.emod_lt_of_pos x hn
 split at e <;> rename_i g
 ·simp at e; omega
 ·omega
theorem cut_c (x n : Int) (hn : I64 n) : Contract Tryz.prog 111 [.d (.int .i64 x), .d (.int .i64 n)] [] (.d (.int .i64 (gCut x n))) [] [] := by
 refine contract_of Tryz.func111 rfl (fun E0 => ?_)
 refine awp.sound (g := .mk) (ow := []) (kp := (fun k => k==0||k==1||k==4||k==6||k==11)) ?_
 rw [Tryz.ntmps111]
 obtain ⟨h1, h2⟩ := hn
 simp -dsimp
 refine AIf.dec (fun h => ?_) (fun h => ?_)
 ·simp -dsimp
  refine Fin.of ?_
  simp [gCut, h]
 ·simp -dsimp
  refine ⟨by omega, AIf.dec (fun g => ?_) (fun g => ?_)⟩
  ·have := tmod_lt0 (by omega) g
   have := Int.emod_nonneg x (b := n) (by omega)
   have := Int.emod_lt_of_pos x (b := n) (by omega)
   simp -dsimp (disch := omega) [wrap_i64]
   refine Fin.of ?_
   simp [gCut, h]
   omega
  ·simp -dsimp
   refine Fin.of ?_
   simp [gCut, h]
   exact tmod_ge0 (by omega) g
theorem raw_c (T : Tp) (hT : TapeOK T) : Contract Tryz.prog 112 [.ptr (.x 0) 0] [tapeI T] (.d (.int .i64 (gRaw T).1)) [tapeI (gRaw T).2] [] := by
 obtain ⟨l, i⟩ := T
 have hi : l.length ≤ 600 := hT.1
 refine contract_of Tryz.func112 rfl (fun E0 => ?_)
 refine awp.sound (g := .mk) (ow := []) (kp := (fun k => k==0||k==2||k==12)) ?_
 rw [Tryz.ntmps112]
 simp -dsimp [tapeI, ints]
 refine ⟨AIf.dec (fun h => ?_) (fun h => ?_), ⟨by kernel_rfl⟩⟩
 ·simp -dsimp
  refine Fin.of ?_
  simp [tapeI, ints, h, gRaw]
 ·have h1 : i < l.length := by omega
  simp -dsimp (disch := omega) [wrap_i64, List.getElem?_eq_getElem h1]
  refine ⟨h1, ?_, ⟨by kernel_rfl⟩⟩
  refine Fin.of ?_
  simp [tapeI, ints, gRaw, h, List.getElem?_eq_getElem h1]
theorem next_c (T : Tp) (hT : TapeOK T) (n : Int) (hn : I64 n) : Contract Tryz.prog 59 [.ptr (.x 0) 0, .d (.int .i64 n)] [tapeI T] (.d (.int .i64 (gNext T n).1)) [tapeI (gNext T n).2] [] := by
 refine contract_of Tryz.func59 rfl (fun E0 => ?_)
 refine awp.sound (g := .mk) (ow := []) (kp := (fun k => k==0||k==1||k==4)) ?_
 rw [Tryz.ntmps59]
 simp -dsimp
 refine ACall.of (raw_c T hT) [.x 0] 0 ?_
 simp -dsimp
 refine ACall.of (cut_c (gRaw T).1 n hn) [] 0 ?_
 simp -dsimp
 refine Fin.of ?_
 simp [gNext]
theorem range_c (T : Tp) (hT : TapeOK T) (a b : Int) (_ha : I64 a) (hn : I64 (b - a)) (hn1 : I64 (b - a + 1)) (hb : I64 (gRange T a b).1) : Contract Tryz.prog 42 [.ptr (.x 0) 0, .d (.int .i64 a), .d (.int .i64 b)] [tapeI T] (.d (.int .i64 (gRange T a b).1)) [tapeI (gRange T a b).2] [] := by
 refine contract_of Tryz.func42 rfl (fun E0 => ?_)
 refine awp.sound (g := .mk) (ow := []) (kp := (fun k => k==0||k==1||k==2||k==6)) ?_
 rw [Tryz.ntmps42]
 simp -dsimp [wrap_i64 hn.1 hn.2, wrap_i64 hn1.1 hn1.2]
 refine ACall.of (next_c T hT (b - a + 1) hn1) [.x 0] 0 ?_
 have hb' : I64 (a + (gNext T (b - a + 1)).1) := hb
 simp -dsimp [wrap_i64 hb'.1 hb'.2]
 refine Fin.of ?_
 simp [gRange]
theorem one_c (T : Tp) (hT : TapeOK T) (n : Int) (hn : I64 n) (hn1 : I64 (n - 1)) : Contract Tryz.prog 39 [.ptr (.x 0) 0, .d (.int .i64 n)] [tapeI T] (.d (.bool (gOne T n).1)) [tapeI (gOne T n).2] [] := by
 refine contract_of Tryz.func39 rfl (fun E0 => ?_)
 refine awp.sound (g := .mk) (ow := []) (kp := (fun k => k==0||k==1||k==4)) ?_
 rw [Tryz.ntmps39]
 simp -dsimp
 refine ACall.of (next_c T hT n hn) [.x 0] 0 ?_
 simp -dsimp [wrap_i64 hn1.1 hn1.2]
 refine Fin.of ?_
 simp [gOne]
theorem pick_c (T : Tp) (hT : TapeOK T) (l : List Int) (hl : 0 < l.length) (hl2 : l.length < 1000) : Contract Tryz.prog 93 [.ptr (.x 0) 0, .d (ints l)] [tapeI T] (.d (.int .i64 (gPick T l).1)) [tapeI (gPick T l).2] [] := by
 refine contract_of Tryz.func93 rfl (fun E0 => ?_)
 refine awp.sound (g := .mk) (ow := []) (kp := (fun k => k==0||k==1||k==4)) ?_
 rw [Tryz.ntmps93]
 simp -dsimp [ints]
 refine ACall.of (next_c T hT l.length ⟨by omega, by omega⟩) [.x 0] 0 ?_
 have h1 := gNext_nonneg T l.length
 have h2 := gNext_lt T (n := l.length) (by omega)
 have h3 : (gNext T l.length).1.toNat < l.length := by omega
 simp -dsimp [List.getElem?_eq_getElem h3]
 refine ⟨by omega, by omega, ?_⟩
 refine Fin.of ?_
 simp [gPick, ints, List.getElem?_eq_getElem h3]
theorem length_c (T : Tp) (hT : TapeOK T) : Contract Tryz.prog 137 [.ptr (.x 0) 0] [tapeI T] (.d (.int .i64 (gPick T [8, 8, 16, 32, 64]).1)) [tapeI (gPick T [8, 8, 16, 32, 64]).2] [] := by
 refine contract_of Tryz.func137 rfl (fun E0 => ?_)
 refine awp.sound (g := .mk) (ow := []) (kp := (fun k => k==0||k==2)) ?_
 rw [Tryz.ntmps137]
 simp -dsimp
 refine ACall.of (pick_c T hT [8, 8, 16, 32, 64] (by simp) (by simp)) [.x 0] 0 ?_
 simp -dsimp [ints]
 refine Fin.of ?_
 simp
theorem wild_c (T : Tp) (hT : TapeOK T) : Contract Tryz.prog 136 [.ptr (.x 0) 0] [tapeI T] (.d (.int .i64 (gWild T).1)) [tapeI (gWild T).2] [] := by
 refine contract_of Tryz.func136 rfl (fun E0 => ?_)
 refine awp.sound (g := .mk) (ow := []) (kp := (fun k => k==0||k==2)) ?_
 rw [Tryz.ntmps136]
 simp -dsimp
 refine ACall.of (pick_c T hT wilds (by simp [wilds]) (by simp [wilds])) [.x 0] 0 ?_
 simp -dsimp [ints, wilds]
 refine Fin.of ?_
 simp [gWild, wilds]
end Go.Proofs

namespace Go.Proofs
open Go Go.Tr
def bv (B : BitVec 64) : D := .int .u64 (tn B)
def validLen (n : Int) : Bool := n == 8 || n == 16 || n == 32 || n == 64
def bitB (k : Int) : BitVec 64 := if k < 0 ∨ k > 63 then 0#64 else 1#64 <<< (IntKind.u64.wrap k).toNat
theorem validLength_c (n : Int) : Contract Tryz.prog 74 [.d (.int .i64 n)] [] (.d (.bool (validLen n))) [] [] := by
 refine contract_of Tryz.func74 rfl (fun E0 => ?_)
 refine awp.sound (g := .mk) (ow := []) (kp := (fun k => k==0||k==2)) ?_
 rw [Tryz.ntmps74]
 by_cases h1 : n = 8 <;> by_cases h2 : n = 16 <;> by_cases h3 : n = 32 <;> first
  | omega
  | (simp -dsimp [h1, h2, h3]
     refine Fin.of ?_
     simp [validLen, h1, h2, h3])
theorem validLength_c2 (n : Int) : Contract Tryz.prog 126 [.d (.int .i64 n)] [] (.d (.bool (validLen n))) [] [] := by
 refine contract_of Tryz.func126 rfl (fun E0 => ?_)
 refine awp.sound (g := .mk) (ow := []) (kp := (fun k => k==0||k==2)) ?_
 rw [Tryz.ntmps126]
 by_cases h1 : n = 8 <;> by_cases h2 : n = 16 <;> by_cases h3 : n = 32 <;> first
  | omega
  | (simp -dsimp [h1, h2, h3]
     refine Fin.of ?_
     simp [validLen, h1, h2, h3])
theorem bit_c (k : Int) : Contract Tryz.prog 104 [.d (.int .i64 k)] [] (.d (bv (bitB k))) [] [] := by
 refine contract_of Tryz.func104 rfl (fun E0 => ?_)
 refine awp.sound (g := .mk) (ow := []) (kp := (fun k => k==0||k==2||k==8)) ?_
 rw [Tryz.ntmps104]
 by_cases h : k < 0
 ·simp -dsimp [h]
  refine Fin.of ?_
  simp [bitB, h, bv]
 ·simp -dsimp [h]
  refine AIf.dec (fun g => ?_) (fun g => ?_)
  ·simp -dsimp
   refine Fin.of ?_
   simp [bitB, g, bv]
  ·have h0 : 0 ≤ IntKind.u64.wrap k := by rw [wrap_emod]; omega
   simp -dsimp [h0]
   refine Fin.of ?_
   simp [bitB, g, h, bv]
def fullN : Nat → BitVec 64
 | 0 => 0#64
 | n + 1 => fullN n ||| bitB n
def fullB (n : Int) : BitVec 64 := if validLen n = true then fullN n.toNat else 0#64
theorem full_c (k : Int) : Contract Tryz.prog 113 [.d (.int .i64 k)] [] (.d (bv (fullB k))) [] [] := by
 refine contract_of Tryz.func113 rfl (fun E0 => ?_)
 refine awp.sound (g := .mk) (ow := []) (kp := (fun k => k==0||k==2||k==3||k==4||k==7||k==10)) ?_
 rw [Tryz.ntmps113]
 simp -dsimp
 refine ACall.of (validLength_c k) [] 0 ?_
 cases hv : validLen k
 ·simp -dsimp [hv]
  refine Fin.of ?_
  simp [fullB, hv, bv]
 ·have hk : 0 ≤ k ∧ k ≤ 64 := by simp [validLen] at hv; omega
  simp -dsimp [hv]
  refine ALoop.of [] (fun k => k==0||k==2||k==3||k==4||k==7||k==10) (ι := { i : Nat // (i : Int) ≤ k }) (fun i => [(Pl.s 0, It.v (.d (.int .i64 k))), (Pl.s 2, It.v (.d (.int IntKind.u64 0))),
    (Pl.s 3, It.v (.d (bv (fullN i.1)))), (Pl.s 4, It.v (.d (.int .i64 i.1)))]) (fun i => k.toNat - i.1) ⟨0, hk.1⟩ ?_ ?_
  ·exact GS.to (by simp [fullN, bv])
  ·rintro ⟨i, hi⟩
   simp -dsimp [bv]
   refine AIf.dec (fun h => ?_) (fun h => ?_)
   ·simp -dsimp [bv]
    refine ACall.of (bit_c i) [] 0 ?_
    simp -dsimp [bv, wrap_i64 (n := (i : Int) + 1) (by omega) (by omega)]
    refine ⟨⟨i + 1, by omega⟩, GS.to (by simp [fullN, bv]), by simp; omega⟩
   ·simp -dsimp [bv]
    refine Fin.of ?_
    have : k.toNat = i := by omega
    simp [fullB, hv, bv, this]
def gTextL : Nat → Tp → List Int × Tp
 | 0, T => ([], T)
 | n + 1, T => ((gNext T 256).1 :: (gTextL n (gNext T 256).2).1, (gTextL n (gNext T 256).2).2)
def gText (T : Tp) (most : Int) : List Int × Tp := gTextL (gRange T 0 most).1.toNat (gRange T 0 most).2
theorem text_c (T : Tp) (hT : TapeOK T) (k : Int) (hk : 0 ≤ k ∧ k ≤ 100) : Contract Tryz.prog 60 [.ptr (.x 0) 0, .d (.int .i64 k)] [tapeI T] (.d (.str (strOf (gText T k).1))) [tapeI (gText T k).2] [] := by
 have hr := gRange_lo T 0 k
 have hr' := gRange_hi T (a := 0) (b := k) (by omega)
 refine contract_of Tryz.func60 rfl (fun E0 => ?_)
 refine awp.sound (g := .mk) (ow := []) (kp := (fun k => k==0||k==1||k==4||k==5||k==6||k==11)) ?_
 rw [Tryz.ntmps60]
 simp -dsimp
 refine ACall.of (range_c T hT 0 k ⟨by omega, by omega⟩ ⟨by omega, by omega⟩ ⟨by omega, by omega⟩ ⟨by omega, by omega⟩) [.x 0] 0 ?_
 simp -dsimp
 refine ALoop.of [5] (fun k => k==0||k==1||k==4||k==5||k==6||k==11) (ι := { i : Nat × Tp × List Int // TapeOK i.2.1 ∧ i.1 ≤ 100 ∧ i.2.2.length + i.1 ≤ 100 ∧ (gText T k) = (i.2.2 ++ (gTextL i.1 i.2.1).1, (gTextL i.1 i.2.1).2) }) (fun i => [(Pl.s 0, It.v (.ptr (Pl.x 0) 0)), (Pl.s 1, It.v (.d (.int .i64 k))),
    (Pl.x 0, tapeI i.1.2.1), (Pl.s 4, It.v (.d (.str ⟨#[]⟩))),
    (Pl.s 5, It.v (.oref 5 i.1.2.2.length)), (Pl.s 6, It.v (.d (.int .i64 i.1.1))), (.o 5, .row 5 1 (dd (i.1.2.2.map fun n => [.int .u8 n])) false)]) (fun i => i.1.1) ⟨((gRange T 0 k).1.toNat, (gRange T 0 k).2, []), by simpa using hT, by simp; omega, by simp; omega, by simp [gText]⟩ ?_ ?_
 ·refine GS.own' (k := 5) 5 1 (by simp) (by simp) ?_
  simp
  omega
 ·rintro ⟨⟨i, T', l⟩, h1, h2, h3, h4⟩
  simp only at h1 h2 h3 h4
  simp -dsimp
  refine AIf.dec (fun h => ?_) (fun h => ?_)
  ·obtain ⟨i, rfl⟩ : ∃ j, i = j + 1 := ⟨i - 1, by omega⟩
   simp -dsimp
   refine ACall.of (next_c T' h1 256 ⟨by omega, by omega⟩) [.x 0] 0 ?_
   have g1 := gNext_nonneg T' 256
   have g2 := gNext_lt T' (n := 256) (by omega)
   simp -dsimp [wrap_u8 g1 (show (gNext T' 256).1 ≤ 255 by omega), wrap_i64 (n := (i : Int)) (by omega) (by omega)]
   and_intros
   all_goals try first | omega | (simp; omega)
   refine ⟨⟨(i, (gNext T' 256).2, l ++ [(gNext T' 256).1]), by simpa using h1, by omega, by simp; omega, by simp [h4, gTextL]⟩, GS.to (by simp), by simp⟩
  ·obtain rfl : i = 0 := by omega
   simp -dsimp
   refine Fin.of ?_
   simp [h4, gTextL]
def gBits (T : Tp) (k : Int) : BitVec 64 × Tp :=
 let r1 := gRaw T
 let r2 := gRaw r1.2
 let s := gNext r2.2 6
 if s.1 = 0 then (0#64, s.2)
 else if s.1 = 1 then (bitB (gNext s.2 k).1 &&& fullB k, (gNext s.2 k).2)
 else if s.1 = 2 then (~~~ 0#64 &&& fullB k, s.2)
 else ((wu (tn (wu r1.1) * 11400714819323198485) ^^^ wu r2.1) &&& fullB k, s.2)
theorem bits_c (T : Tp) (hT : TapeOK T) (k : Int) (hk : I64 k) : Contract Tryz.prog 61 [.ptr (.x 0) 0, .d (.int .i64 k)] [tapeI T] (.d (bv (gBits T k).1)) [tapeI (gBits T k).2] [] := by
 refine contract_of Tryz.func61 rfl (fun E0 => ?_)
 refine awp.sound (g := .mk) (ow := []) (kp := (fun k => k==0||k==1||k==4||k==5||k==15||k==16||k==18||k==24)) ?_
 rw [Tryz.ntmps61]
 simp -dsimp
 refine ACall.of (raw_c T hT) [.x 0] 0 ?_
 simp -dsimp [wrap_tn]
 refine ACall.of (raw_c (gRaw T).2 (by simpa using hT)) [.x 0] 0 ?_
 simp -dsimp [wrap_tn]
 refine ACall.of (next_c (gRaw (gRaw T).2).2 (by simpa using hT) 6 ⟨by omega, by omega⟩) [.x 0] 0 ?_
 simp -dsimp [wrap_tn]
 refine AIf.dec (fun h0 => ?_) (fun h0 => ?_)
 ·simp -dsimp [wrap_tn]
  refine ACall.of (full_c k) [] 0 ?_
  simp -dsimp [wrap_tn, bv]
  refine Fin.of ?_
  simp [gBits, h0, bv]
 ·simp -dsimp [h0]
  refine AIf.dec (fun h1 => ?_) (fun h1 => ?_)
  ·simp -dsimp [wrap_tn]
   refine ACall.of (next_c (gNext (gRaw (gRaw T).2).2 6).2 (by simpa using hT) k hk) [.x 0] 0 ?_
   simp -dsimp
   refine ACall.of (bit_c (gNext (gNext (gRaw (gRaw T).2).2 6).2 k).1) [] 0 ?_
   simp -dsimp
   refine ACall.of (full_c k) [] 0 ?_
   simp -dsimp [wrap_tn, bv]
   refine Fin.of ?_
   simp [gBits, h0, h1, bv]
  ·simp -dsimp [h1]
   refine AIf.dec (fun h2 => ?_) (fun h2 => ?_)
   ·simp -dsimp
    refine ACall.of (full_c k) [] 0 ?_
    simp -dsimp [wrap_tn, bv]
    refine Fin.of ?_
    simp [gBits, h0, h1, h2, bv]
    try rfl
   ·simp -dsimp
    refine ACall.of (full_c k) [] 0 ?_
    simp -dsimp [wrap_tn, bv]
    refine Fin.of ?_
    simp [gBits, h0, h1, h2, bv]
def gOrderL : Nat → Nat → Tp → List Int → List Int × Tp
 | 0, _, T, out => (out, T)
 | n + 1, i, T, out => gOrderL n (i + 1) (gNext T (i + 1)).2 (out.take (gNext T (i + 1)).1.toNat ++ [(i : Int)] ++ out.drop (gNext T (i + 1)).1.toNat)
def gOrder (T : Tp) (n : Int) : List Int × Tp := gOrderL n.toNat 0 T []
theorem order_c (T : Tp) (hT : TapeOK T) (n : Int) (hn : n ≤ 1000) : Contract Tryz.prog 138 [.ptr (.x 0) 0, .d (.int .i64 n)] [tapeI T] (.d (ints (gOrder T n).1)) [tapeI (gOrder T n).2] [] := by
 refine contract_of Tryz.func138 rfl (fun E0 => ?_)
 refine awp.sound (g := .mk) (ow := []) (kp := (fun k => k==0||k==1||k==4||k==5||k==6||k==7||k==8||k==11)) ?_
 rw [Tryz.ntmps138]
 simp -dsimp
 refine ALoop.of [] (fun k => k==0||k==1||k==4||k==5||k==6||k==7||k==8||k==11) (ι := { i : Nat × Tp × List Int // TapeOK i.2.1 ∧ i.2.2.length = i.1 ∧ (i.1 : Int) ≤ max n 0 ∧ gOrder T n = gOrderL (n.toNat - i.1) i.1 i.2.1 i.2.2 }) (fun i => [(Pl.s 0, It.v (.ptr (Pl.x 0) 0)), (Pl.s 1, It.v (.d (.int .i64 n))), (Pl.x 0, tapeI i.1.2.1),
    (Pl.s 4, It.v (.c (Value.slice none 0 0))), (Pl.s 5, It.v (.d (ints i.1.2.2))),
    (Pl.s 6, It.v (.d (.int .i64 i.1.1)))]) (fun i => n.toNat - i.1.1) ⟨(0, T, []), hT, rfl, by simp; omega, rfl⟩ ?_ ?_
 ·exact GS.viewS 5 (by simp [ints])
 ·rintro ⟨⟨i, T', out⟩, h1, h2, h3, h4⟩
  simp only at h1 h2 h3 h4
  simp -dsimp [ints]
  refine AIf.dec (fun h => ?_) (fun h => ?_)
  ·simp -dsimp [wrap_i64 (n := (i : Int) + 1) (by omega) (by omega)]
   refine ACall.of (next_c T' h1 (i + 1) ⟨by omega, by omega⟩) [.x 0] 0 ?_
   have g1 := gNext_nonneg T' (i + 1)
   have g2 := gNext_lt T' (n := i + 1) (by omega)
   simp -dsimp [wrap_i64 (n := (i : Int) + 1) (by omega) (by omega)]
   have dl : dLen 1 (out.map fun x => [D.int .i64 x]) := dLen_map 1 _ _ fun _ => rfl
   and_intros
   all_goals try first | omega | exact dLen_take dl | exact dLen_drop (dLen_take dl) | (simp; omega)
   refine ⟨⟨(i + 1, (gNext T' (i + 1)).2, out.take (gNext T' (i + 1)).1.toNat ++ [(i : Int)] ++ out.drop (gNext T' (i + 1)).1.toNat), by simpa using h1, by simp; omega, by simp; omega, ?_⟩, GS.viewS 5 ?_, by simp; omega⟩
   ·rw [h4, show n.toNat - i = n.toNat - (i + 1) + 1 by omega]; rfl
   ·simp [ints]
    exact ⟨by omega, by rw [List.take_of_length_le (by simp)]⟩
  ·simp -dsimp
   refine Fin.view 4 ?_
   simp -dsimp
   refine Fin.of ?_
   have : n.toNat - i = 0 := by omega
   simp [h4, this, gOrderL, ints]
structure Pk where
 mode : Int
 subd : Int
 set : Int
 len : Int
 ttl : Int
 ent : Int
 ing : Int
 proto : Int
 bits : BitVec 64
 pay : ByteArray
def Pk.cs (p : Pk) : List D := [.int .i64 p.mode, .int .i64 p.subd, .int .i64 p.set, .int .i64 p.len, .int .i64 p.ttl, .int .i64 p.ent, .int .i64 p.ing, .int .i64 p.proto, bv p.bits, .str p.pay]
def gPk0 (T : Tp) : Pk × Tp :=
 let L := gPick T [8, 8, 16, 32, 64]
 let m := gRange L.2 1 3
 let d := gRange m.2 0 7
 let s := gPick d.2 [0, 0, 1, 2, 31]
 let t := gPick s.2 [0, 1, 2, 5, 63]
 let e := gNext t.2 1024
 let i := gPick e.2 [0, 1, 8, 255, 256]
 let p := gNext i.2 8
 let b := gBits p.2 L.1
 let y := gText b.2 6
 (⟨m.1, d.1, s.1, L.1, t.1, e.1, i.1, p.1, b.1, strOf y.1⟩, y.2)
theorem gPick_i64 (T : Tp) (l : List Int) (h : ∀ x ∈ l, I64 x) : I64 (gPick T l).1 := by
 unfold gPick
 rw [List.getD_eq_getElem?_getD]
 cases hl : l[(gNext T l.length).1.toNat]? with
 | none => simp [I64]
 | some x => exact h x (List.mem_of_getElem? hl)
theorem gTextL_ok : ∀ (n : Nat) (T : Tp), TapeOK (gTextL n T).2 = TapeOK T
 | 0, T => rfl
 | n + 1, T => by simp [gTextL, gTextL_ok n]
@[simp] theorem gText_ok (T : Tp) (k : Int) : TapeOK (gText T k).2 = TapeOK T := by simp [gText, gTextL_ok]
@[simp] theorem gBits_ok (T : Tp) (k : Int) : TapeOK (gBits T k).2 = TapeOK T := by
 simp only [gBits]
 split
 ·simp
 ·split
  ·simp
  ·split <;> simp
theorem gTextL_len : ∀ (n : Nat) (T : Tp), (gTextL n T).1.length = n
 | 0, T => rfl
 | n + 1, T => by simp [gTextL, gTextL_len n]
theorem strOf_size (l : List Int) : (strOf l).size = l.length := by
 have : ∀ (l : List Int) (r : ByteArray), (l.foldl (fun r n => r.push (UInt8.ofNat n.toNat)) r).size = r.size + l.length := by
  intro l
  induction l with
  | nil => intro r; simp
  | cons x l ih => intro r; simp [ih]; omega
 simpa [strOf] using this l ByteArray.empty
theorem gText_size (T : Tp) {k : Int} (hk : 0 ≤ k) : (strOf (gText T k).1).size ≤ k.toNat := by
 have := gRange_hi T (a := 0) (b := k) hk
 rw [strOf_size, gText, gTextL_len]
 omega
def abc : ByteArray := ⟨#[97, 98, 99]⟩
def grow : Nat → ByteArray → ByteArray
 | 0, s => s
 | n + 1, s => if s.size < 62 then grow n (s ++ abc) else s
def gSpoilP (T : Tp) (p : Pk) : Pk × Tp :=
 let s := gNext T 9
 if s.1 = 0 then (⟨(gWild s.2).1, p.subd, p.set, p.len, p.ttl, p.ent, p.ing, p.proto, p.bits, p.pay⟩, (gWild s.2).2)
 else if s.1 = 1 then (⟨p.mode, (gWild s.2).1, p.set, p.len, p.ttl, p.ent, p.ing, p.proto, p.bits, p.pay⟩, (gWild s.2).2)
 else if s.1 = 2 then (⟨p.mode, p.subd, (gWild s.2).1, p.len, p.ttl, p.ent, p.ing, p.proto, p.bits, p.pay⟩, (gWild s.2).2)
 else if s.1 = 3 then (⟨p.mode, p.subd, p.set, (gPick s.2 [0, 8, 16, 24, 63, 64, 65, -8]).1, p.ttl, p.ent, p.ing, p.proto, p.bits, p.pay⟩, (gPick s.2 [0, 8, 16, 24, 63, 64, 65, -8]).2)
 else if s.1 = 4 then (⟨p.mode, p.subd, p.set, p.len, (gWild s.2).1, p.ent, p.ing, p.proto, p.bits, p.pay⟩, (gWild s.2).2)
 else if s.1 = 5 then (⟨p.mode, p.subd, p.set, p.len, p.ttl, (gWild s.2).1, p.ing, p.proto, p.bits, p.pay⟩, (gWild s.2).2)
 else if s.1 = 6 then (⟨p.mode, p.subd, p.set, p.len, p.ttl, p.ent, (gWild s.2).1, p.proto, p.bits, p.pay⟩, (gWild s.2).2)
 else if s.1 = 7 then (⟨p.mode, p.subd, p.set, p.len, p.ttl, p.ent, p.ing, (gWild s.2).1, p.bits, p.pay⟩, (gWild s.2).2)
 else (⟨p.mode, p.subd, p.set, p.len, p.ttl, p.ent, p.ing, p.proto, p.bits, grow 62 p.pay ++ strOf (gText s.2 4).1⟩, (gText s.2 4).2)
def gPacket (T : Tp) (n : Int) : Pk × Tp :=
 if 0 < n then
  if (gOne (gPk0 T).2 n).1 then gSpoilP (gOne (gPk0 T).2 n).2 (gPk0 T).1 else ((gPk0 T).1, (gOne (gPk0 T).2 n).2)
 else gPk0 T
def pkT (p : Pk) : TV := .agg (p.cs.map .d)
set_option maxHeartbeats 2000000 in
theorem packet_c (T : Tp) (hT : TapeOK T) (n : Int) (hn : I64 n) : Contract Tryz.prog 103 [.ptr (.x 0) 0, .d (.int .i64 n)] [tapeI T] (pkT (gPacket T n).1) [tapeI (gPacket T n).2] [] := by
 refine contract_of Tryz.func103 rfl (fun E0 => ?_)
 refine awp.sound (g := .mk) (ow := []) (kp := (fun k => k==0||k==1||k==4||k==5||k==6||k==39||k==41||k==45||k==56||k==61||k==66||k==71||k==77||k==82||k==87||k==92)) ?_
 rw [Tryz.ntmps103]
 simp -dsimp
 refine ACall.of (length_c T hT) [.x 0] 0 ?_
 simp -dsimp
 generalize hL : gPick T [8, 8, 16, 32, 64] = L
 have kL : TapeOK L.2 := by rw [← hL]; simpa using hT
 have iL : I64 L.1 := by rw [← hL]; exact gPick_i64 _ _ (by simp [I64])
 have b1 := gRange_lo L.2 1 3
 have b2 := gRange_hi L.2 (a := 1) (b := 3) (by omega)
 refine ACall.of (range_c L.2 kL 1 3 ⟨by omega, by omega⟩ ⟨by omega, by omega⟩ ⟨by omega, by omega⟩ ⟨by omega, by omega⟩) [.x 0] 0 ?_
 simp -dsimp
 generalize hm : gRange L.2 1 3 = m at b1 b2 ⊢
 have km : TapeOK m.2 := by rw [← hm]; simpa using kL
 have b3 := gRange_lo m.2 0 7
 have b4 := gRange_hi m.2 (a := 0) (b := 7) (by omega)
 refine ACall.of (range_c m.2 km 0 7 ⟨by omega, by omega⟩ ⟨by omega, by omega⟩ ⟨by omega, by omega⟩ ⟨by omega, by omega⟩) [.x 0] 0 ?_
 simp -dsimp
 generalize hd : gRange m.2 0 7 = d at b3 b4 ⊢
 have kd : TapeOK d.2 := by rw [← hd]; simpa using km
 refine ACall.of (pick_c d.2 kd [0, 0, 1, 2, 31] (by simp) (by simp)) [.x 0] 0 ?_
 simp -dsimp [ints]
 generalize hs : gPick d.2 [0, 0, 1, 2, 31] = s
 have ks : TapeOK s.2 := by rw [← hs]; simpa using kd
 refine ACall.of (pick_c s.2 ks [0, 1, 2, 5, 63] (by simp) (by simp)) [.x 0] 0 ?_
 simp -dsimp [ints]
 generalize ht : gPick s.2 [0, 1, 2, 5, 63] = t
 have kt : TapeOK t.2 := by rw [← ht]; simpa using ks
 refine ACall.of (next_c t.2 kt 1024 ⟨by omega, by omega⟩) [.x 0] 0 ?_
 simp -dsimp
 generalize he : gNext t.2 1024 = e
 have ke : TapeOK e.2 := by rw [← he]; simpa using kt
 refine ACall.of (pick_c e.2 ke [0, 1, 8, 255, 256] (by simp) (by simp)) [.x 0] 0 ?_
 simp -dsimp [ints]
 generalize hi : gPick e.2 [0, 1, 8, 255, 256] = i
 have ki : TapeOK i.2 := by rw [← hi]; simpa using ke
 refine ACall.of (next_c i.2 ki 8 ⟨by omega, by omega⟩) [.x 0] 0 ?_
 simp -dsimp
 generalize hp : gNext i.2 8 = p
 have kp : TapeOK p.2 := by rw [← hp]; simpa using ki
 refine ACall.of (bits_c p.2 kp L.1 iL) [.x 0] 0 ?_
 simp -dsimp
 generalize hb : gBits p.2 L.1 = b
 have kb : TapeOK b.2 := by rw [← hb]; simpa using kp
 refine ACall.of (text_c b.2 kb 6 (by omega)) [.x 0] 0 ?_
 simp -dsimp
 generalize hy : gText b.2 6 = y
 have ky : TapeOK y.2 := by rw [← hy]; simpa using kb
 have g0 : gPk0 T = (⟨m.1, d.1, s.1, L.1, t.1, e.1, i.1, p.1, b.1, strOf y.1⟩, y.2) := by
  simp only [gPk0, hL, hm, hd, hs, ht, he, hi, hp, hb, hy]
 by_cases hn0 : 0 < n
 ·simp -dsimp [hn0]
  refine ACall.of (one_c y.2 ky n hn ⟨by omega, by have := hn.2; omega⟩) [.x 0] 0 ?_
  simp -dsimp [hn0]
  generalize ho : gOne y.2 n = o
  have ko : TapeOK o.2 := by rw [← ho]; simpa using ky
  cases ho1 : o.1
  ·simp -dsimp [ho1]
   refine Fin.of ?_
   simp [gPacket, hn0, g0, ho, ho1, pkT, Pk.cs]
  ·simp -dsimp [ho1]
   refine ACall.of (next_c o.2 ko 9 ⟨by omega, by omega⟩) [.x 0] 0 ?_
   simp -dsimp
   generalize hq : gNext o.2 9 = q
   have kq : TapeOK q.2 := by rw [← hq]; simpa using ko
   refine AIf.dec (fun c0 => ?_) (fun c0 => ?_)
   ·simp -dsimp
    refine ACall.of (wild_c q.2 kq) [.x 0] 0 ?_
    simp -dsimp [ints]
    refine Fin.of ?_
    simp [gPacket, hn0, g0, ho, ho1, gSpoilP, hq, pkT, Pk.cs, c0]
   ·simp -dsimp [c0]
    refine AIf.dec (fun c1 => ?_) (fun c1 => ?_)
    ·simp -dsimp
     refine ACall.of (wild_c q.2 kq) [.x 0] 0 ?_
     simp -dsimp [ints]
     refine Fin.of ?_
     simp [gPacket, hn0, g0, ho, ho1, gSpoilP, hq, pkT, Pk.cs, c0, c1]
    ·simp -dsimp [c1]
     refine AIf.dec (fun c2 => ?_) (fun c2 => ?_)
     ·simp -dsimp
      refine ACall.of (wild_c q.2 kq) [.x 0] 0 ?_
      simp -dsimp [ints]
      refine Fin.of ?_
      simp [gPacket, hn0, g0, ho, ho1, gSpoilP, hq, pkT, Pk.cs, c0, c1, c2]
     ·simp -dsimp [c2]
      refine AIf.dec (fun c3 => ?_) (fun c3 => ?_)
      ·simp -dsimp
       refine ACall.of (pick_c q.2 kq [0, 8, 16, 24, 63, 64, 65, -8] (by simp) (by simp)) [.x 0] 0 ?_
       simp -dsimp [ints]
       refine Fin.of ?_
       simp [gPacket, hn0, g0, ho, ho1, gSpoilP, hq, pkT, Pk.cs, c0, c1, c2, c3]
      ·simp -dsimp [c3]
       refine AIf.dec (fun c4 => ?_) (fun c4 => ?_)
       ·simp -dsimp
        refine ACall.of (wild_c q.2 kq) [.x 0] 0 ?_
        simp -dsimp [ints]
        refine Fin.of ?_
        simp [gPacket, hn0, g0, ho, ho1, gSpoilP, hq, pkT, Pk.cs, c0, c1, c2, c3, c4]
       ·simp -dsimp [c4]
        refine AIf.dec (fun c5 => ?_) (fun c5 => ?_)
        ·simp -dsimp
         refine ACall.of (wild_c q.2 kq) [.x 0] 0 ?_
         simp -dsimp [ints]
         refine Fin.of ?_
         simp [gPacket, hn0, g0, ho, ho1, gSpoilP, hq, pkT, Pk.cs, c0, c1, c2, c3, c4, c5]
        ·simp -dsimp [c5]
         refine AIf.dec (fun c6 => ?_) (fun c6 => ?_)
         ·simp -dsimp
          refine ACall.of (wild_c q.2 kq) [.x 0] 0 ?_
          simp -dsimp [ints]
          refine Fin.of ?_
          simp [gPacket, hn0, g0, ho, ho1, gSpoilP, hq, pkT, Pk.cs, c0, c1, c2, c3, c4, c5, c6]
         ·simp -dsimp [c6]
          refine AIf.dec (fun c7 => ?_) (fun c7 => ?_)
          ·simp -dsimp
           refine ACall.of (wild_c q.2 kq) [.x 0] 0 ?_
           simp -dsimp [ints]
           refine Fin.of ?_
           simp [gPacket, hn0, g0, ho, ho1, gSpoilP, hq, pkT, Pk.cs, c0, c1, c2, c3, c4, c5, c6, c7]
          ·simp -dsimp [c7]
           refine ALoop.of [] (fun k => k==0||k==1||k==4||k==5||k==6||k==39||k==41||k==45||k==56||k==61||k==66||k==71||k==77||k==82||k==87||k==92) (ι := { z : Nat × ByteArray // z.2.size ≤ 100 ∧ 62 - z.2.size ≤ z.1 ∧ grow 62 (strOf y.1) = grow z.1 z.2 }) (fun z => [(Pl.s 0, It.v (.ptr (Pl.x 0) 0)), (Pl.s 1, It.v (.d (.int .i64 n))),
             (Pl.x 0, tapeI q.2), (Pl.o 6, It.box [TV.d (.int .i64 m.1), TV.d (.int .i64 d.1), TV.d (.int .i64 s.1),
              TV.d (.int .i64 L.1), TV.d (.int .i64 t.1), TV.d (.int .i64 e.1), TV.d (.int .i64 i.1), TV.d (.int .i64 p.1), TV.d (bv b.1), TV.d (.str z.1.2)]),
             (Pl.s 6, It.v (.ptr (Pl.o 6) 0)), (Pl.s 4, It.v (.ptr (Pl.o 4) 0)), (Pl.o 4, It.box [TV.d (.int .i64 0), TV.d (.int .i64 0), TV.d (.int .i64 0),
              TV.d (.int .i64 0), TV.d (.int .i64 0), TV.d (.int .i64 0), TV.d (.int .i64 0), TV.d (.int .i64 0), TV.d (.int IntKind.u64 0), TV.d (.str ⟨#[]⟩)])]) (fun z => z.1.1) ⟨(62, strOf y.1), by have := gText_size b.2 (k := 6) (by omega); rw [hy] at this; simp at *; omega, by simp, rfl⟩ ?_ ?_
           ·exact GS.to (by simp)
           ·rintro ⟨⟨z, w⟩, z1, z2, z3⟩
            simp only at z1 z2 z3
            simp -dsimp
            refine AIf.dec (fun h => ?_) (fun h => ?_)
            ·obtain ⟨z, rfl⟩ : ∃ x, z = x + 1 := ⟨z - 1, by omega⟩
             have hs3 : (w ++ abc).size = w.size + 3 := ByteArray.size_append
             simp -dsimp
             refine ⟨show w.size + 3 ≤ _ by omega, ⟨(z, w ++ abc), by simp only [hs3]; omega, by simp only [hs3]; omega, ?_⟩, GS.to (by simp [abc]), by simp⟩
             rw [z3, grow, if_pos (by omega)]
            ·have hg : grow 62 (strOf y.1) = w := by
              rw [z3]
              cases z with
              | zero => rfl
              | succ z => rw [grow, if_neg (by omega)]
             simp -dsimp
             refine ACall.of (text_c q.2 kq 4 (by omega)) [.x 0] 0 ?_
             have hsz := gText_size q.2 (k := 4) (by omega)
             simp -dsimp
             refine ⟨by simp at *; omega, ?_, ⟨by kernel_rfl⟩⟩
             refine Fin.of ?_
             simp [gPacket, hn0, g0, ho, ho1, gSpoilP, hq, pkT, Pk.cs, c0, c1, c2, c3, c4, c5, c6, c7, hg]
 ·simp -dsimp [hn0]
  refine Fin.of ?_
  simp [gPacket, hn0, g0, pkT, Pk.cs]
theorem new_c (l : List Int) : Contract Tryz.prog 37 [.d (ints l)] [] (.ptr (.o 10) 0) [] [(10, tapeI (l.take 600, 0))] := by
 refine contract_of Tryz.func37 rfl (fun E0 => ?_)
 refine awp.sound (g := .mk) (ow := []) (kp := (fun k => k==0||k==2||k==5)) ?_
 rw [Tryz.ntmps37]
 simp -dsimp [ints]
 refine AIf.dec (fun h => ?_) (fun h => ?_)
 ·simp -dsimp
  refine ⟨by omega, ?_⟩
  refine Fin.of ?_
  simp [tapeI, ints]
 ·simp -dsimp
  refine Fin.of ?_
  simp [tapeI, ints, List.take_of_length_le (show l.length ≤ 600 by omega)]
set_option maxRecDepth 100000
structure Lk where
 a : Int
 b : Int
 ca : Int
 cb : Int
 cap : Int
def Lk.cs (x : Lk) : List D := [.int .i64 x.a, .int .i64 x.b, .int .i64 x.ca, .int .i64 x.cb, .int .i64 x.cap]
def lks (l : List Lk) : List (List D) := l.map Lk.cs
def Lk.before (y x : Lk) : Bool := decide (y.a < x.a) || (decide (y.a = x.a) && decide (y.b < x.b))
def lkPos (x : Lk) : List Lk → Nat
 | [] => 0
 | y :: r => if y.before x then lkPos x r + 1 else 0
def ordL : List Lk → List Lk → List Lk
 | [], out => out
 | x :: l, out => ordL l (out.take (lkPos x out) ++ [x] ++ out.drop (lkPos x out))
@[simp] theorem lks_len (l : List Lk) : (lks l).length = l.length := by simp [lks]
theorem lks_get {l : List Lk} {i : Nat} {x : Lk} (h : l[i]? = some x) : (lks l)[i]? = some x.cs := by simp [lks, h]
theorem lks_get' {l : List Lk} {i : Nat} {x : Lk} (h : l[i]? = some x) (hi : i < (lks l).length) : (lks l)[i] = x.cs := by
 have := lks_get h
 rw [List.getElem?_eq_getElem hi] at this
 simpa using this
theorem dLen_lks (l : List Lk) : dLen 5 (lks l) := dLen_map 5 _ _ fun _ => rfl
theorem lkPos_le (x : Lk) : ∀ l : List Lk, lkPos x l ≤ l.length
 | [] => Nat.le_refl _
 | y :: r => by
   have := lkPos_le x r
   simp only [lkPos, List.length_cons]
   split <;> omega
theorem ord_c (l : List Lk) (hl : l.length ≤ 1000) : Contract Tryz.prog 135 [.d (.sl (lks l))] [] (.d (.sl (lks (ordL l [])))) [] [] := by
 refine contract_of Tryz.func135 rfl (fun E0 => ?_)
 refine awp.sound (g := .mk) (ow := []) (kp := (fun k => k==0||k==2||k==3||k==4||k==5||k==6||k==10||k==55)) ?_
 rw [Tryz.ntmps135]
 simp -dsimp
 refine ALoop.of [] (fun k => k==0||k==2||k==3||k==4||k==5||k==6||k==10||k==55) (ι := { i : Nat × List Lk // i.1 ≤ l.length ∧ i.2.length = i.1 ∧ ordL l [] = ordL (l.drop i.1) i.2 }) (fun i => [(Pl.s 0, It.v (.d (.sl (lks l)))),
    (Pl.s 2, It.v (.c (Value.slice none 0 0))), (Pl.s 3, It.v (.d (.sl (lks i.1.2)))),
    (Pl.s 4, It.v (.d (.int .i64 i.1.1)))]) (fun i => l.length - i.1.1) ⟨(0, []), by simp, rfl, rfl⟩ ?_ ?_
 ·exact GS.viewS 3 (by simp [lks])
 ·rintro ⟨⟨i, out⟩, h1, h2, h3⟩
  simp only at h1 h2 h3
  simp -dsimp
  refine AIf.dec (fun h => ?_) (fun h => ?_)
  ·have hi : i < l.length := by simpa using h
   obtain ⟨x, hx⟩ : ∃ x, l[i]? = some x := ⟨l[i], List.getElem?_eq_getElem hi⟩
   have hx' := lks_get' hx
   have hdl : l.drop i = x :: l.drop (i + 1) := by rw [List.getElem?_eq_some_iff] at hx; obtain ⟨_, rfl⟩ := hx; exact List.drop_eq_getElem_cons _
   simp -dsimp
   refine ALoop.of [] (fun k => k==0||k==2||k==3||k==4||k==5||k==6||k==10||k==55) (ι := { p : Nat // p ≤ out.length ∧ lkPos x out = p + lkPos x (out.drop p) }) (fun p => [(Pl.s 0, It.v (.d (.sl (lks l)))),
    (Pl.s 2, It.v (.c (Value.slice none 0 0))), (Pl.s 3, It.v (.d (.sl (lks out)))), (Pl.s 4, It.v (.d (.int .i64 i))), (Pl.s 5, It.v (.d (.int .i64 p.1)))]) (fun p => out.length - p.1) ⟨0, by omega, by simp⟩ ?_ ?_
   ·exact GS.to (by simp)
   ·rintro ⟨p, p1, p2⟩
    by_cases hp : p < out.length
    ·obtain ⟨y, hy⟩ : ∃ y, out[p]? = some y := ⟨out[p], List.getElem?_eq_getElem hp⟩
     have hy' := lks_get' hy
     have hd : out.drop p = y :: out.drop (p + 1) := by rw [List.getElem?_eq_some_iff] at hy; obtain ⟨_, rfl⟩ := hy; exact List.drop_eq_getElem_cons _
     by_cases c1 : y.a < x.a
     ·simp -dsimp [hp, hi, hy', hx', Lk.cs, c1, wrap_i64 (n := (p : Int) + 1) (by omega) (by omega)]
      refine ⟨⟨⟨p + 1, by omega, ?_⟩, GS.to (by simp), by simp; omega⟩, ⟨by kernel_rfl⟩⟩
      rw [p2, hd, lkPos, if_pos (by simp [Lk.before, c1])]; omega
     ·by_cases c2 : y.a = x.a
      ·by_cases c3 : y.b < x.b
       ·simp -dsimp [hp, hi, hy', hx', Lk.cs, c1, c2, c3, wrap_i64 (n := (p : Int) + 1) (by omega) (by omega)]
        refine ⟨⟨⟨p + 1, by omega, ?_⟩, GS.to (by simp), by simp; omega⟩, ⟨by kernel_rfl⟩⟩
        rw [p2, hd, lkPos, if_pos (by simp [Lk.before, c2, c3])]; omega
       ·have hq : lkPos x out = p := by rw [p2, hd, lkPos, if_neg (by simp [Lk.before, c2, c3])]; omega
        simp -dsimp [hp, hi, hy', c1, c2, c3, hx', Lk.cs, wrap_i64 (n := (i : Int) + 1) (by omega) (by omega)]
        and_intros
        all_goals try first | omega | exact ⟨by kernel_rfl⟩ | exact dLen_lks out | exact dLen_take (dLen_lks out) | exact dLen_drop (dLen_lks out) | exact dLen_drop (dLen_take (dLen_lks out)) | (simp; omega)
        refine ⟨⟨(i + 1, out.take p ++ [x] ++ out.drop p), by omega, by simp; omega, ?_⟩, GS.viewS 3 ?_, by simp; omega⟩
        ·rw [h3, hdl, ordL, hq]
        ·simp
         refine ⟨by omega, ?_⟩
         simp [lks, Lk.cs, List.take_of_length_le]
      ·have hq : lkPos x out = p := by rw [p2, hd, lkPos, if_neg (by simp [Lk.before, c1, c2])]; omega
       simp -dsimp [hp, hi, hy', c1, c2, hx', Lk.cs, wrap_i64 (n := (i : Int) + 1) (by omega) (by omega)]
       and_intros
       all_goals try first | omega | exact ⟨by kernel_rfl⟩ | exact dLen_lks out | exact dLen_take (dLen_lks out) | exact dLen_drop (dLen_lks out) | exact dLen_drop (dLen_take (dLen_lks out)) | (simp; omega)
       refine ⟨⟨(i + 1, out.take p ++ [x] ++ out.drop p), by omega, by simp; omega, ?_⟩, GS.viewS 3 ?_, by simp; omega⟩
       ·rw [h3, hdl, ordL, hq]
       ·simp
        refine ⟨by omega, ?_⟩
        simp [lks, Lk.cs, List.take_of_length_le]
    ·have hq : lkPos x out = p := by rw [p2, List.drop_eq_nil_of_le (by omega), lkPos]; omega
     simp -dsimp [hp, hi, hx', Lk.cs, wrap_i64 (n := (i : Int) + 1) (by omega) (by omega)]
     and_intros
     all_goals try first | omega | exact ⟨by kernel_rfl⟩ | exact dLen_lks out | exact dLen_take (dLen_lks out) | exact dLen_drop (dLen_lks out) | exact dLen_drop (dLen_take (dLen_lks out)) | (simp; omega)
     refine ⟨⟨(i + 1, out.take p ++ [x] ++ out.drop p), by omega, by simp; omega, ?_⟩, GS.viewS 3 ?_, by simp; omega⟩
     ·rw [h3, hdl, ordL, hq]
     ·simp
      refine ⟨by omega, ?_⟩
      simp [lks, Lk.cs, List.take_of_length_le]
  ·simp -dsimp
   refine Fin.of ?_
   have : l.drop i = [] := List.drop_eq_nil_of_le (by simpa using h)
   simp [h3, this, ordL]
end Go.Proofs

/-
  What functions of the program compute, stated as contracts over plain data; the conditions of each stand in its own statement.
-/
import Derived.Test.YtffjbciladpdlaaGreatZN13
import Derived.Test.YtffjbciladpdlaaGreatZN16
set_option linter.unusedSimpArgs false
namespace Go.Proofs
open Go Go.Tr
abbrev Tp := List Int × Nat
def ints (l : List Int) : D := .sl (l.map fun n => [.int .i64 n])
def tapeI (T : Tp) : It := .box [.d (ints T.1), .d (.int .i64 T.2)]
def TapeOK (T : Tp) : Prop := T.1.length ≤ 600 ∧ ∀ x ∈ T.1, I64 x
section
variable (t : S) (ν : List Pl) (b : Nat) (po : Nat → Prop) (T : Tp)
@[simp] theorem tape_pass : passI t ν (tapeI T) = some (tapeI T) := by simp [tapeI]
@[simp] theorem tape_passC : passCI t (tapeI T) = True := by simp [tapeI]
@[simp] theorem tape_rows : rowsI (tapeI T) = [] := rfl
@[simp] theorem tape_back : backI ν b (tapeI T) = tapeI T := rfl
@[simp] theorem tape_box : isBox (tapeI T) = true := rfl
@[simp] theorem tape_only : It.only po (tapeI T) = True := by simp [tapeI]
end
def gRaw (T : Tp) : Int × Tp := if T.1.length ≤ T.2 then (0, T) else (T.1.getD T.2 0, T.1, T.2 + 1)
def gCut (x n : Int) : Int := if n < 1 then 0 else x % n
def gNext (T : Tp) (n : Int) : Int × Tp := (gCut (gRaw T).1 n, (gRaw T).2)
def gRange (T : Tp) (a b : Int) : Int × Tp := (a + (gNext T (b - a + 1)).1, (gNext T (b - a + 1)).2)
def gOne (T : Tp) (n : Int) : Bool × Tp := (decide ((gNext T n).1 = n - 1), (gNext T n).2)
def gPick (T : Tp) (l : List Int) : Int × Tp := (l.getD (gNext T l.length).1.toNat 0, (gNext T l.length).2)
def wilds : List Int := [-1, 0, 1, 7, 8, 23, 24, 31, 32, 63, 64, 99, 100, 255, 256, 257, 1000, 1001, 1023, 1024, 1000000, 1000001, 1099511627776, 9223372036854775807, -9223372036854775808]
def gWild (T : Tp) : Int × Tp := gPick T wilds
theorem gRaw_tape (T : Tp) : (gRaw T).2.1 = T.1 := by unfold gRaw; split <;> rfl
@[simp] theorem gRaw_ok (T : Tp) : TapeOK (gRaw T).2 = TapeOK T := by simp [TapeOK, gRaw_tape]
@[simp] theorem gNext_ok (T : Tp) (n : Int) : TapeOK (gNext T n).2 = TapeOK T := gRaw_ok T
@[simp] theorem gRange_ok (T : Tp) (a b : Int) : TapeOK (gRange T a b).2 = TapeOK T := gRaw_ok T
@[simp] theorem gOne_ok (T : Tp) (n : Int) : TapeOK (gOne T n).2 = TapeOK T := gRaw_ok T
@[simp] theorem gPick_ok (T : Tp) (l : List Int) : TapeOK (gPick T l).2 = TapeOK T := gRaw_ok T
theorem gCut_nonneg (x n : Int) : 0 ≤ gCut x n := by
 unfold gCut; split
 ·simp
 ·exact Int.emod_nonneg _ (by omega)
theorem gCut_lt (x : Int) {n : Int} (h : 0 < n) : gCut x n < n := by
 unfold gCut; split
 ·omega
 ·exact Int.emod_lt_of_pos _ h
theorem gNext_nonneg (T : Tp) (n : Int) : 0 ≤ (gNext T n).1 := gCut_nonneg _ _
theorem gNext_lt (T : Tp) {n : Int} (h : 0 < n) : (gNext T n).1 < n := gCut_lt _ h
theorem gRange_lo (T : Tp) (a b : Int) : a ≤ (gRange T a b).1 := by have := gNext_nonneg T (b - a + 1); simp only [gRange]; omega
theorem gRange_hi (T : Tp) {a b : Int} (h : a ≤ b) : (gRange T a b).1 ≤ b := by have := gNext_lt T (n := b - a + 1) (by omega); simp only [gRange]; omega
theorem tmod_lt0 {x n : Int} (hn : 0 < n) (h : x.tmod n < 0) : x.tmod n + n = x % n := by
 have e := @Int.tmod_eq_emod x n
 have h1 := Int.emod_nonneg x (b := n) (by omega)
 split at e <;> rename_i g
 ·simp at e; omega
 ·omega
theorem tmod_ge0 {x n : Int} (hn : 0 < n) (h : ¬ x.tmod n < 0) : x.tmod n = x % n := by
 have e := @Int.tmod_eq_emod x n
 have h1 := Int.emod_lt_of_pos x hn
 split at e <;> rename_i g
 ·simp at e; omega
 ·omega
theorem cut_c (x n : Int) (hn : I64 n) : Contract Tryz.prog 90 [.d (.int .i64 x), .d (.int .i64 n)] [] (.d (.int .i64 (gCut x n))) [] [] := by
 refine contract_of Tryz.func90 rfl (fun E0 => ?_)
 refine awp.sound (g := .mk) (ow := []) (kp := (fun k => k==0||k==1||k==4||k==6||k==11)) ?_
 rw [Tryz.ntmps90]
 obtain ⟨h1, h2⟩ := hn
 simp -dsimp
 refine AIf.dec (fun h => ?_) (fun h => ?_)
 ·simp -dsimp
  refine Fin.of ?_
  simp [gCut, h]
 ·simp -dsimp
  refine ⟨by omega, AIf.dec (fun g => ?_) (fun g => ?_)⟩
  ·have := tmod_lt0 (by omega) g
   have := Int.emod_nonneg x (b := n) (by omega)
   have := Int.emod_lt_of_pos x (b := n) (by omega)
   simp -dsimp (disch := omega) [wrap_i64]
   refine Fin.of ?_
   simp [gCut, h]
   omega
  ·simp -dsimp
   refine Fin.of ?_
   simp [gCut, h]
   exact tmod_ge0 (by omega) g
theorem raw_c (T : Tp) (hT : TapeOK T) : Contract Tryz.prog 91 [.ptr (.x 0) 0] [tapeI T] (.d (.int .i64 (gRaw T).1)) [tapeI (gRaw T).2] [] := by
 obtain ⟨l, i⟩ := T
 have hi : l.length ≤ 600 := hT.1
 refine contract_of Tryz.func91 rfl (fun E0 => ?_)
 refine awp.sound (g := .mk) (ow := []) (kp := (fun k => k==0||k==2||k==12)) ?_
 rw [Tryz.ntmps91]
 simp -dsimp [tapeI, ints]
 refine ⟨AIf.dec (fun h => ?_) (fun h => ?_), ⟨by kernel_rfl⟩⟩
 ·simp -dsimp
  refine Fin.of ?_
  simp [tapeI, ints, h, gRaw]
 ·have h1 : i < l.length := by omega
  simp -dsimp (disch := omega) [wrap_i64, List.getElem?_eq_getElem h1]
  refine ⟨h1, ?_, ⟨by kernel_rfl⟩⟩
  refine Fin.of ?_
  simp [tapeI, ints, gRaw, h, List.getElem?_eq_getElem h1]
theorem next_c (T : Tp) (hT : TapeOK T) (n : Int) (hn : I64 n) : Contract Tryz.prog 44 [.ptr (.x 0) 0, .d (.int .i64 n)] [tapeI T] (.d (.int .i64 (gNext T n).1)) [tapeI (gNext T n).2] [] := by
 refine contract_of Tryz.func44 rfl (fun E0 => ?_)
 refine awp.sound (g := .mk) (ow := []) (kp := (fun k => k==0||k==1||k==4)) ?_
 rw [Tryz.ntmps44]
 simp -dsimp
 refine ACall.of (raw_c T hT) [.x 0] 0 ?_
 simp -dsimp
 refine ACall.of (cut_c (gRaw T).1 n hn) [] 0 ?_
 simp -dsimp
 refine Fin.of ?_
 simp [gNext]
theorem range_c (T : Tp) (hT : TapeOK T) (a b : Int) (_ha : I64 a) (hn : I64 (b - a)) (hn1 : I64 (b - a + 1)) (hb : I64 (gRange T a b).1) : Contract Tryz.prog 36 [.ptr (.x 0) 0, .d (.int .i64 a), .d (.int .i64 b)] [tapeI T] (.d (.int .i64 (gRange T a b).1)) [tapeI (gRange T a b).2] [] := by
 refine contract_of Tryz.func36 rfl (fun E0 => ?_)
 refine awp.sound (g := .mk) (ow := []) (kp := (fun k => k==0||k==1||k==2||k==6)) ?_
 rw [Tryz.ntmps36]
 simp -dsimp [wrap_i64 hn.1 hn.2, wrap_i64 hn1.1 hn1.2]
 refine ACall.of (next_c T hT (b - a + 1) hn1) [.x 0] 0 ?_
 have hb' : I64 (a + (gNext T (b - a + 1)).1) := hb
 simp -dsimp [wrap_i64 hb'.1 hb'.2]
 refine Fin.of ?_
 simp [gRange]
theorem one_c (T : Tp) (hT : TapeOK T) (n : Int) (hn : I64 n) (hn1 : I64 (n - 1)) : Contract Tryz.prog 12 [.ptr (.x 0) 0, .d (.int .i64 n)] [tapeI T] (.d (.bool (gOne T n).1)) [tapeI (gOne T n).2] [] := by
 refine contract_of Tryz.func12 rfl (fun E0 => ?_)
 refine awp.sound (g := .mk) (ow := []) (kp := (fun k => k==0||k==1||k==4)) ?_
 rw [Tryz.ntmps12]
 simp -dsimp
 refine ACall.of (next_c T hT n hn) [.x 0] 0 ?_
 simp -dsimp [wrap_i64 hn1.1 hn1.2]
 refine Fin.of ?_
 simp [gOne]
theorem pick_c (T : Tp) (hT : TapeOK T) (l : List Int) (hl : 0 < l.length) (hl2 : l.length < 1000) : Contract Tryz.prog 45 [.ptr (.x 0) 0, .d (ints l)] [tapeI T] (.d (.int .i64 (gPick T l).1)) [tapeI (gPick T l).2] [] := by
 refine contract_of Tryz.func45 rfl (fun E0 => ?_)
 refine awp.sound (g := .mk) (ow := []) (kp := (fun k => k==0||k==1||k==4)) ?_
 rw [Tryz.ntmps45]
 simp -dsimp [ints]
 refine ACall.of (next_c T hT l.length ⟨by omega, by omega⟩) [.x 0] 0 ?_
 have h1 := gNext_nonneg T l.length
 have h2 := gNext_lt T (n := l.length) (by omega)
 have h3 : (gNext T l.length).1.toNat < l.length := by omega
 simp -dsimp [List.getElem?_eq_getElem h3]
 refine ⟨by omega, by omega, ?_⟩
 refine Fin.of ?_
 simp [gPick, ints, List.getElem?_eq_getElem h3]
theorem length_c (T : Tp) (hT : TapeOK T) : Contract Tryz.prog 48 [.ptr (.x 0) 0] [tapeI T] (.d (.int .i64 (gPick T [8, 8, 16, 32, 64]).1)) [tapeI (gPick T [8, 8, 16, 32, 64]).2] [] := by
 refine contract_of Tryz.func48 rfl (fun E0 => ?_)
 refine awp.sound (g := .mk) (ow := []) (kp := (fun k => k==0||k==2)) ?_
 rw [Tryz.ntmps48]
 simp -dsimp
 refine ACall.of (pick_c T hT [8, 8, 16, 32, 64] (by simp) (by simp)) [.x 0] 0 ?_
 simp -dsimp [ints]
 refine Fin.of ?_
 simp
theorem wild_c (T : Tp) (hT : TapeOK T) : Contract Tryz.prog 47 [.ptr (.x 0) 0] [tapeI T] (.d (.int .i64 (gWild T).1)) [tapeI (gWild T).2] [] := by
 refine contract_of Tryz.func47 rfl (fun E0 => ?_)
 refine awp.sound (g := .mk) (ow := []) (kp := (fun k => k==0||k==2)) ?_
 rw [Tryz.ntmps47]
 simp -dsimp
 refine ACall.of (pick_c T hT wilds (by simp [wilds]) (by simp [wilds])) [.x 0] 0 ?_
 simp -dsimp [ints, wilds]
 refine Fin.of ?_
 simp [gWild, wilds]
end Go.Proofs

namespace Go.Proofs
open Go Go.Tr
def bv (B : BitVec 64) : D := .int .u64 (tn B)
def validLen (n : Int) : Bool := n == 8 || n == 16 || n == 32 || n == 64
def bitB (k : Int) : BitVec 64 := if k < 0 ∨ k > 63 then 0#64 else 1#64 <<< (IntKind.u64.wrap k).toNat
theorem validLength_c (n : Int) : Contract Tryz.prog 86 [.d (.int .i64 n)] [] (.d (.bool (validLen n))) [] [] := by
 refine contract_of Tryz.func86 rfl (fun E0 => ?_)
 refine awp.sound (g := .mk) (ow := []) (kp := (fun k => k==0||k==2)) ?_
 rw [Tryz.ntmps86]
 by_cases h1 : n = 8 <;> by_cases h2 : n = 16 <;> by_cases h3 : n = 32 <;> first
  | omega
  | (simp -dsimp [h1, h2, h3]
     refine Fin.of ?_
     simp [validLen, h1, h2, h3])
theorem validLength_c2 (n : Int) : Contract Tryz.prog 78 [.d (.int .i64 n)] [] (.d (.bool (validLen n))) [] [] := by
 refine contract_of Tryz.func78 rfl (fun E0 => ?_)
 refine awp.sound (g := .mk) (ow := []) (kp := (fun k => k==0||k==2)) ?_
 rw [Tryz.ntmps78]
 by_cases h1 : n = 8 <;> by_cases h2 : n = 16 <;> by_cases h3 : n = 32 <;> first
  | omega
  | (simp -dsimp [h1, h2, h3]
     refine Fin.of ?_
     simp [validLen, h1, h2, h3])
def fullN : Nat → BitVec 64
 | 0 => 0#64
 | n + 1 => fullN n ||| bitB n
def fullB (n : Int) : BitVec 64 := if validLen n = true then fullN n.toNat else 0#64
def gTextL : Nat → Tp → List Int × Tp
 | 0, T => ([], T)
 | n + 1, T => ((gNext T 256).1 :: (gTextL n (gNext T 256).2).1, (gTextL n (gNext T 256).2).2)
def gText (T : Tp) (most : Int) : List Int × Tp := gTextL (gRange T 0 most).1.toNat (gRange T 0 most).2
def gBits (T : Tp) (k : Int) : BitVec 64 × Tp :=
 let r1 := gRaw T
 let r2 := gRaw r1.2
 let s := gNext r2.2 6
 if s.1 = 0 then (0#64, s.2)
 else if s.1 = 1 then (bitB (gNext s.2 k).1 &&& fullB k, (gNext s.2 k).2)
 else if s.1 = 2 then (~~~ 0#64 &&& fullB k, s.2)
 else ((wu (tn (wu r1.1) * 11400714819323198485) ^^^ wu r2.1) &&& fullB k, s.2)
def gOrderL : Nat → Nat → Tp → List Int → List Int × Tp
 | 0, _, T, out => (out, T)
 | n + 1, i, T, out => gOrderL n (i + 1) (gNext T (i + 1)).2 (out.take (gNext T (i + 1)).1.toNat ++ [(i : Int)] ++ out.drop (gNext T (i + 1)).1.toNat)
def gOrder (T : Tp) (n : Int) : List Int × Tp := gOrderL n.toNat 0 T []
theorem order_c (T : Tp) (hT : TapeOK T) (n : Int) (hn : n ≤ 1000) : Contract Tryz.prog 49 [.ptr (.x 0) 0, .d (.int .i64 n)] [tapeI T] (.d (ints (gOrder T n).1)) [tapeI (gOrder T n).2] [] := by
 refine contract_of Tryz.func49 rfl (fun E0 => ?_)
 refine awp.sound (g := .mk) (ow := []) (kp := (fun k => k==0||k==1||k==4||k==5||k==6||k==7||k==8||k==11)) ?_
 rw [Tryz.ntmps49]
 simp -dsimp
 refine ALoop.of [] (fun k => k==0||k==1||k==4||k==5||k==6||k==7||k==8||k==11) (ι := { i : Nat × Tp × List Int // TapeOK i.2.1 ∧ i.2.2.length = i.1 ∧ (i.1 : Int) ≤ max n 0 ∧ gOrder T n = gOrderL (n.toNat - i.1) i.1 i.2.1 i.2.2 }) (fun i => [(Pl.s 0, It.v (.ptr (Pl.x 0) 0)), (Pl.s 1, It.v (.d (.int .i64 n))), (Pl.x 0, tapeI i.1.2.1),
    (Pl.s 4, It.v (.c (Value.slice none 0 0))), (Pl.s 5, It.v (.d (ints i.1.2.2))),
    (Pl.s 6, It.v (.d (.int .i64 i.1.1)))]) (fun i => n.toNat - i.1.1) ⟨(0, T, []), hT, rfl, by simp; omega, rfl⟩ ?_ ?_
 ·exact GS.viewS 5 (by simp [ints])
 ·rintro ⟨⟨i, T', out⟩, h1, h2, h3, h4⟩
  simp only at h1 h2 h3 h4
  simp -dsimp [ints]
  refine AIf.dec (fun h => ?_) (fun h => ?_)
  ·simp -dsimp [wrap_i64 (n := (i : Int) + 1) (by omega) (by omega)]
   refine ACall.of (next_c T' h1 (i + 1) ⟨by omega, by omega⟩) [.x 0] 0 ?_
   have g1 := gNext_nonneg T' (i + 1)
   have g2 := gNext_lt T' (n := i + 1) (by omega)
   simp -dsimp [wrap_i64 (n := (i : Int) + 1) (by omega) (by omega)]
   have dl : dLen 1 (out.map fun x => [D.int .i64 x]) := dLen_map 1 _ _ fun _ => rfl
   and_intros
   all_goals try first | omega | exact dLen_take dl | exact dLen_drop (dLen_take dl) | (simp; omega)
   refine ⟨⟨(i + 1, (gNext T' (i + 1)).2, out.take (gNext T' (i + 1)).1.toNat ++ [(i : Int)] ++ out.drop (gNext T' (i + 1)).1.toNat), by simpa using h1, by simp; omega, by simp; omega, ?_⟩, GS.viewS 5 ?_, by simp; omega⟩
   ·rw [h4, show n.toNat - i = n.toNat - (i + 1) + 1 by omega]; rfl
   ·simp [ints]
    exact ⟨by omega, by rw [List.take_of_length_le (by simp)]⟩
  ·simp -dsimp
   refine Fin.view 4 ?_
   simp -dsimp
   refine Fin.of ?_
   have : n.toNat - i = 0 := by omega
   simp [h4, this, gOrderL, ints]
structure Pk where
 mode : Int
 subd : Int
 set : Int
 len : Int
 ttl : Int
 ent : Int
 ing : Int
 proto : Int
 bits : BitVec 64
 pay : ByteArray
def Pk.cs (p : Pk) : List D := [.int .i64 p.mode, .int .i64 p.subd, .int .i64 p.set, .int .i64 p.len, .int .i64 p.ttl, .int .i64 p.ent, .int .i64 p.ing, .int .i64 p.proto, bv p.bits, .str p.pay]
def gPk0 (T : Tp) : Pk × Tp :=
 let L := gPick T [8, 8, 16, 32, 64]
 let m := gRange L.2 1 3
 let d := gRange m.2 0 7
 let s := gPick d.2 [0, 0, 1, 2, 31]
 let t := gPick s.2 [0, 1, 2, 5, 63]
 let e := gNext t.2 1024
 let i := gPick e.2 [0, 1, 8, 255, 256]
 let p := gNext i.2 8
 let b := gBits p.2 L.1
 let y := gText b.2 6
 (⟨m.1, d.1, s.1, L.1, t.1, e.1, i.1, p.1, b.1, strOf y.1⟩, y.2)
theorem gTextL_ok : ∀ (n : Nat) (T : Tp), TapeOK (gTextL n T).2 = TapeOK T
 | 0, T => rfl
 | n + 1, T => by simp [gTextL, gTextL_ok n]
@[simp] theorem gText_ok (T : Tp) (k : Int) : TapeOK (gText T k).2 = TapeOK T := by simp [gText, gTextL_ok]
@[simp] theorem gBits_ok (T : Tp) (k : Int) : TapeOK (gBits T k).2 = TapeOK T := by
 simp only [gBits]
 split
 ·simp
 ·split
  ·simp
  ·split <;> simp
def abc : ByteArray := ⟨#[97, 98, 99]⟩
def grow : Nat → ByteArray → ByteArray
 | 0, s => s
 | n + 1, s => if s.size < 62 then grow n (s ++ abc) else s
theorem new_c (l : List Int) : Contract Tryz.prog 10 [.d (ints l)] [] (.ptr (.o 10) 0) [] [(10, tapeI (l.take 600, 0))] := by
 refine contract_of Tryz.func10 rfl (fun E0 => ?_)
 refine awp.sound (g := .mk) (ow := []) (kp := (fun k => k==0||k==2||k==5)) ?_
 rw [Tryz.ntmps10]
 simp -dsimp [ints]
 refine AIf.dec (fun h => ?_) (fun h => ?_)
 ·simp -dsimp
  refine ⟨by omega, ?_⟩
  refine Fin.of ?_
  simp [tapeI, ints]
 ·simp -dsimp
  refine Fin.of ?_
  simp [tapeI, ints, List.take_of_length_le (show l.length ≤ 600 by omega)]
set_option maxRecDepth 100000
structure Lk where
 a : Int
 b : Int
 ca : Int
 cb : Int
 cap : Int
def Lk.cs (x : Lk) : List D := [.int .i64 x.a, .int .i64 x.b, .int .i64 x.ca, .int .i64 x.cb, .int .i64 x.cap]
def lks (l : List Lk) : List (List D) := l.map Lk.cs
def Lk.before (y x : Lk) : Bool := decide (y.a < x.a) || (decide (y.a = x.a) && decide (y.b < x.b))
def lkPos (x : Lk) : List Lk → Nat
 | [] => 0
 | y :: r => if y.before x then lkPos x r + 1 else 0
def ordL : List Lk → List Lk → List Lk
 | [], out => out
 | x :: l, out => ordL l (out.take (lkPos x out) ++ [x] ++ out.drop (lkPos x out))
@[simp] theorem lks_len (l : List Lk) : (lks l).length = l.length := by simp [lks]
theorem lks_get {l : List Lk} {i : Nat} {x : Lk} (h : l[i]? = some x) : (lks l)[i]? = some x.cs := by simp [lks, h]
theorem lks_get' {l : List Lk} {i : Nat} {x : Lk} (h : l[i]? = some x) (hi : i < (lks l).length) : (lks l)[i] = x.cs := by
 have := lks_get h
 rw [List.getElem?_eq_getElem hi] at this
 simpa using this
theorem dLen_lks (l : List Lk) : dLen 5 (lks l) := dLen_map 5 _ _ fun _ => rfl
theorem lkPos_le (x : Lk) : ∀ l : List Lk, lkPos x l ≤ l.length
 | [] => Nat.le_refl _
 | y :: r => by
   have := lkPos_le x r
   simp only [lkPos, List.length_cons]
   split <;> omega
theorem ord_c (l : List Lk) (hl : l.length ≤ 1000) : Contract Tryz.prog 46 [.d (.sl (lks l))] [] (.d (.sl (lks (ordL l [])))) [] [] := by
 refine contract_of Tryz.func46 rfl (fun E0 => ?_)
 refine awp.sound (g := .mk) (ow := []) (kp := (fun k => k==0||k==2||k==3||k==4||k==5||k==6||k==10||k==55)) ?_
 rw [Tryz.ntmps46]
 simp -dsimp
 refine ALoop.of [] (fun k => k==0||k==2||k==3||k==4||k==5||k==6||k==10||k==55) (ι := { i : Nat × List Lk // i.1 ≤ l.length ∧ i.2.length = i.1 ∧ ordL l [] = ordL (l.drop i.1) i.2 }) (fun i => [(Pl.s 0, It.v (.d (.sl (lks l)))),
    (Pl.s 2, It.v (.c (Value.slice none 0 0))), (Pl.s 3, It.v (.d (.sl (lks i.1.2)))),
    (Pl.s 4, It.v (.d (.int .i64 i.1.1)))]) (fun i => l.length - i.1.1) ⟨(0, []), by simp, rfl, rfl⟩ ?_ ?_
 ·exact GS.viewS 3 (by simp [lks])
 ·rintro ⟨⟨i, out⟩, h1, h2, h3⟩
  simp only at h1 h2 h3
  simp -dsimp
  refine AIf.dec (fun h => ?_) (fun h => ?_)
  ·have hi : i < l.length := by simpa using h
   obtain ⟨x, hx⟩ : ∃ x, l[i]? = some x := ⟨l[i], List.getElem?_eq_getElem hi⟩
   have hx' := lks_get' hx
   have hdl : l.drop i = x :: l.drop (i + 1) := by rw [List.getElem?_eq_some_iff] at hx; obtain ⟨_, rfl⟩ := hx; exact List.drop_eq_getElem_cons _
   simp -dsimp
   refine ALoop.of [] (fun k => k==0||k==2||k==3||k==4||k==5||k==6||k==10||k==55) (ι := { p : Nat // p ≤ out.length ∧ lkPos x out = p + lkPos x (out.drop p) }) (fun p => [(Pl.s 0, It.v (.d (.sl (lks l)))),
    (Pl.s 2, It.v (.c (Value.slice none 0 0))), (Pl.s 3, It.v (.d (.sl (lks out)))), (Pl.s 4, It.v (.d (.int .i64 i))), (Pl.s 5, It.v (.d (.int .i64 p.1)))]) (fun p => out.length - p.1) ⟨0, by omega, by simp⟩ ?_ ?_
   ·exact GS.to (by simp)
   ·rintro ⟨p, p1, p2⟩
    by_cases hp : p < out.length
    ·obtain ⟨y, hy⟩ : ∃ y, out[p]? = some y := ⟨out[p], List.getElem?_eq_getElem hp⟩
     have hy' := lks_get' hy
     have hd : out.drop p = y :: out.drop (p + 1) := by rw [List.getElem?_eq_some_iff] at hy; obtain ⟨_, rfl⟩ := hy; exact List.drop_eq_getElem_cons _
     by_cases c1 : y.a < x.a
     ·simp -dsimp [hp, hi, hy', hx', Lk.cs, c1, wrap_i64 (n := (p : Int) + 1) (by omega) (by omega)]
      refine ⟨⟨⟨p + 1, by omega, ?_⟩, GS.to (by simp), by simp; omega⟩, ⟨by kernel_rfl⟩⟩
      rw [p2, hd, lkPos, if_pos (by simp [Lk.before, c1])]; omega
     ·by_cases c2 : y.a = x.a
      ·by_cases c3 : y.b < x.b
       ·simp -dsimp [hp, hi, hy', hx', Lk.cs, c1, c2, c3, wrap_i64 (n := (p : Int) + 1) (by omega) (by omega)]
        refine ⟨⟨⟨p + 1, by omega, ?_⟩, GS.to (by simp), by simp; omega⟩, ⟨by kernel_rfl⟩⟩
        rw [p2, hd, lkPos, if_pos (by simp [Lk.before, c2, c3])]; omega
       ·have hq : lkPos x out = p := by rw [p2, hd, lkPos, if_neg (by simp [Lk.before, c2, c3])]; omega
        simp -dsimp [hp, hi, hy', c1, c2, c3, hx', Lk.cs, wrap_i64 (n := (i : Int) + 1) (by omega) (by omega)]
        and_intros
        all_goals try first | omega | exact ⟨by kernel_rfl⟩ | exact dLen_lks out | exact dLen_take (dLen_lks out) | exact dLen_drop (dLen_lks out) | exact dLen_drop (dLen_take (dLen_lks out)) | (simp; omega)
        refine ⟨⟨(i + 1, out.take p ++ [x] ++ out.drop p), by omega, by simp; omega, ?_⟩, GS.viewS 3 ?_, by simp; omega⟩
        ·rw [h3, hdl, ordL, hq]
        ·simp
         refine ⟨by omega, ?_⟩
         simp [lks, Lk.cs, List.take_of_length_le]
      ·have hq : lkPos x out = p := by rw [p2, hd, lkPos, if_neg (by simp [Lk.before, c1, c2])]; omega
       simp -dsimp [hp, hi, hy', c1, c2, hx', Lk.cs, wrap_i64 (n := (i : Int) + 1) (by omega) (by omega)]
       and_intros
       all_goals try first | omega | exact ⟨by kernel_rfl⟩ | exact dLen_lks out | exact dLen_take (dLen_lks out) | exact dLen_drop (dLen_lks out) | exact dLen_drop (dLen_take (dLen_lks out)) | (simp; omega)
       refine ⟨⟨(i + 1, out.take p ++ [x] ++ out.drop p), by omega, by simp; omega, ?_⟩, GS.viewS 3 ?_, by simp; omega⟩
       ·rw [h3, hdl, ordL, hq]
       ·simp
        refine ⟨by omega, ?_⟩
        simp [lks, Lk.cs, List.take_of_length_le]
    ·have hq : lkPos x out = p := by rw [p2, List.drop_eq_nil_of_le (by omega), lkPos]; omega
     simp -dsimp [hp, hi, hx', Lk.cs, wrap_i64 (n := (i : Int) + 1) (by omega) (by omega)]
     and_intros
     all_goals try first | omega | exact ⟨by kernel_rfl⟩ | exact dLen_lks out | exact dLen_take (dLen_lks out) | exact dLen_drop (dLen_lks out) | exact dLen_drop (dLen_take (dLen_lks out)) | (simp; omega)
     refine ⟨⟨(i + 1, out.take p ++ [x] ++ out.drop p), by omega, by simp; omega, ?_⟩, GS.viewS 3 ?_, by simp; omega⟩
     ·rw [h3, hdl, ordL, hq]
     ·simp
      refine ⟨by omega, ?_⟩
      simp [lks, Lk.cs, List.take_of_length_le]
  ·simp -dsimp
   refine Fin.of ?_
   have : l.drop i = [] := List.drop_eq_nil_of_le (by simpa using h)
   simp [h3, this, ordL]
set_option maxHeartbeats 2000000
def insB (n m : Int) : Bool := decide (0 ≤ n) && decide (n ≤ m)
def validB (b : BitVec 64) (n : Int) : Bool := validLen n && decide (b &&& ~~~ fullB n = 0#64)
def Pk.ok (p : Pk) : Bool := decide (1 ≤ p.mode) && (decide (p.mode ≤ 3) && (insB p.subd 7 && (insB p.set 31 && (validB p.bits p.len && (insB p.ttl 63 && (insB p.ent 1023 && (insB p.ing 256 && (insB p.proto 7 && decide (p.pay.size ≤ 64)))))))))
structure Rt where
 id : Int
 cap : Bool
def Rt.cs (x : Rt) : List D := [.int .i64 x.id, .bool x.cap]
def rts (l : List Rt) : List (List D) := l.map Rt.cs
@[simp] theorem rts_len (l : List Rt) : (rts l).length = l.length := by simp [rts]
def gRts (k : Nat) : List Rt := (List.range k).map fun (i : Nat) => ⟨(i : Int) + 1, true⟩
@[simp] theorem gRts_len (k : Nat) : (gRts k).length = k := by simp [gRts]
def gTopS (cost tree : Int) (skip : Bool) (b a : Int) (T : Tp) (l : List Lk) : List Lk × Tp :=
 let c := if decide (a = tree) && !skip then (true, T) else gOne T 3
 if c.1 then
  let x := gRange c.2 1 cost
  let y := gRange x.2 1 cost
  let z := gNext y.2 4
  (l ++ [⟨a, b, x.1, y.1, z.1⟩], z.2)
 else (l, c.2)
def gTopA (cost tree : Int) (skip : Bool) (b : Int) : Nat → Int → Tp → List Lk → List Lk × Tp
 | 0, _, T, l => (l, T)
 | n + 1, a, T, l => gTopA cost tree skip b n (a + 1) (gTopS cost tree skip b a T l).2 (gTopS cost tree skip b a T l).1
def gTopR (cost b : Int) (T : Tp) (l : List Lk) : List Lk × Tp :=
 let t := gRange T 1 (b - 1)
 let s := gOne t.2 9
 gTopA cost t.1 s.1 b (b - 1).toNat 1 s.2 l
def gTopB (cost : Int) : Nat → Int → Tp → List Lk → List Lk × Tp
 | 0, _, T, l => (l, T)
 | n + 1, b, T, l => gTopB cost n (b + 1) (gTopR cost b T l).2 (gTopR cost b T l).1
structure Topo where
 rs : List Rt
 ls : List Lk
def topT (g : Topo) : TV := .agg [.d (.sl (rts g.rs)), .d (.sl (lks g.ls))]
def gTop (T : Tp) (most : Int) : Topo × Tp :=
 let R := gRange T 1 most
 let C := gPick R.2 [1, 2, 2, 5]
 let X := gTopB C.1 (R.1 + 1 - 2).toNat 2 C.2 []
 (⟨gRts R.1.toNat, ordL X.1 []⟩, X.2)
theorem gPick_all {T : Tp} {l : List Int} {p : Int → Prop} (h0 : 0 < l.length) (h : ∀ x ∈ l, p x) : p (gPick T l).1 := by
 unfold gPick
 have h1 := gNext_nonneg T l.length
 have h2 := gNext_lt T (n := l.length) (by omega)
 have h3 : (gNext T l.length).1.toNat < l.length := by omega
 rw [List.getD_eq_getElem?_getD, List.getElem?_eq_getElem h3]
 exact h _ (List.getElem_mem _)
theorem gTopS_ok (cost tree : Int) (skip : Bool) (b a : Int) (T : Tp) (l : List Lk) : TapeOK (gTopS cost tree skip b a T l).2 = TapeOK T := by
 unfold gTopS
 simp only
 split <;> split <;> simp
theorem gTopS_len (cost tree : Int) (skip : Bool) (b a : Int) (T : Tp) (l : List Lk) : (gTopS cost tree skip b a T l).1.length ≤ l.length + 1 := by
 unfold gTopS
 simp only
 split <;> split <;> simp
theorem topo_c (T : Tp) (hT : TapeOK T) (most : Int) (hm : 1 ≤ most ∧ most ≤ 24) : Contract Tryz.prog 13 [.ptr (.x 0) 0, .d (.int .i64 most), .d (.int .i64 0)] [tapeI T] (topT (gTop T most).1) [tapeI (gTop T most).2] [] := by
 have b1 := gRange_lo T 1 most
 have b2 := gRange_hi T (a := 1) (b := most) (by omega)
 refine contract_of Tryz.func13 rfl (fun E0 => ?_)
 refine awp.sound (g := .mk) (ow := []) (kp := (fun k => k==0||k==1||k==2||k==6||k==7||k==8||k==9||k==10||k==11||k==12||k==13||k==14||k==15||k==21||k==36||k==47||k==60||k==87||k==89||k==91||k==101||k==112||k==124||k==129||k==141||k==146||k==158||k==163||k==175||k==180)) ?_
 rw [Tryz.ntmps13]
 simp -dsimp
 refine ACall.of (range_c T hT 1 most ⟨by omega, by omega⟩ ⟨by omega, by omega⟩ ⟨by omega, by omega⟩ ⟨by omega, by omega⟩) [.x 0] 0 ?_
 simp -dsimp
 generalize hR : gRange T 1 most = R at b1 b2 ⊢
 have kR : TapeOK R.2 := by rw [← hR]; simpa using hT
 refine ALoop.of [] (fun k => k==0||k==1||k==2||k==6||k==7||k==8||k==9||k==10||k==11||k==12||k==13||k==14||k==15||k==21||k==36||k==47||k==60||k==87||k==89||k==91||k==101||k==112||k==124||k==129||k==141||k==146||k==158||k==163||k==175||k==180) (ι := { i : Nat // (i : Int) ≤ R.1 }) (fun i => [(Pl.s 0, It.v (.ptr (Pl.x 0) 0)), (Pl.s 1, It.v (.d (.int .i64 most))), (Pl.s 2, It.v (.d (.int .i64 0))), (Pl.x 0, tapeI R.2),
  (Pl.o 6, It.box [TV.c (Value.slice none 0 0), TV.c (Value.slice none 0 0)]), (Pl.s 6, It.v (.ptr (Pl.o 6) 0)), (Pl.o 7, It.box [TV.oref 1000 i.1, TV.c (Value.slice none 0 0)]), (Pl.s 7, It.v (.ptr (Pl.o 7) 0)),
  (Pl.s 8, It.v (.d (.int .i64 R.1))), (Pl.s 9, It.v (.d (.int .i64 (i.1 + 1)))), (Pl.o 1000, .row 81 2 (dd (rts (gRts i.1))) false)]) (fun i => R.1.toNat - i.1) ⟨0, by omega⟩ ?_ ?_
 ·exact GS.ownB' (.o 7) 0 1000 (cs := [TV.c (Value.slice none 0 0), TV.c (Value.slice none 0 0)]) 81 2 (by simp) (by simp) (by simp) (by simp) (by simp [gRts, rts])
 ·rintro ⟨i, hi⟩
  simp -dsimp
  refine AIf.dec (fun h => ?_) (fun h => ?_)
  ·simp -dsimp [wrap_i64 (n := (i : Int) + 1 + 1) (by omega) (by omega)]
   and_intros
   all_goals try omega
   exact ⟨⟨⟨i + 1, by omega⟩, GS.to (by simp [gRts, rts, List.range_succ, Rt.cs]), by simp; omega⟩⟩
  ·have hk : R.1 = i := by omega
   simp -dsimp
   refine ACall.of (pick_c R.2 kR [1, 2, 2, 5] (by simp) (by simp)) [.x 0] 0 ?_
   simp -dsimp [ints]
   generalize hC : gPick R.2 [1, 2, 2, 5] = C
   have kC : TapeOK C.2 := by rw [← hC]; simpa using kR
   have bC : 1 ≤ C.1 ∧ C.1 ≤ 5 := by rw [← hC]; exact gPick_all (p := fun x => 1 ≤ x ∧ x ≤ 5) (by simp) (by simp)
   refine ALoop.of [] (fun k => k==0||k==1||k==2||k==6||k==7||k==8||k==9||k==10||k==11||k==12||k==13||k==14||k==15||k==21||k==36||k==47||k==60||k==87||k==89||k==91||k==101||k==112||k==124||k==129||k==141||k==146||k==158||k==163||k==175||k==180) (ι := { z : Int × Tp × List Lk // 2 ≤ z.1 ∧ z.1 ≤ R.1 + 1 ∧ TapeOK z.2.1 ∧ z.2.2.length ≤ 24 * (z.1.toNat - 2) ∧ gTopB C.1 (R.1 + 1 - 2).toNat 2 C.2 [] = gTopB C.1 (R.1 + 1 - z.1).toNat z.1 z.2.1 z.2.2 })
    (fun z => [(Pl.s 0, It.v (.ptr (Pl.x 0) 0)), (Pl.s 1, It.v (.d (.int .i64 most))), (Pl.s 2, It.v (.d (.int .i64 0))), (Pl.x 0, tapeI z.1.2.1),
     (Pl.o 6, It.box [TV.c (Value.slice none 0 0), TV.c (Value.slice none 0 0)]), (Pl.s 6, It.v (.ptr (Pl.o 6) 0)), (Pl.o 7, It.box [TV.oref 1000 i, TV.oref 1001 z.1.2.2.length]), (Pl.s 7, It.v (.ptr (Pl.o 7) 0)),
     (Pl.s 8, It.v (.d (.int .i64 R.1))), (Pl.o 1000, .row 81 2 (dd (rts (gRts i))) false), (Pl.o 1001, .row 85 5 (dd (lks z.1.2.2)) false),
     (Pl.s 10, It.v (.d (.int .i64 C.1))), (Pl.s 11, It.v (.d (.int .i64 z.1.1)))]) (fun z => (R.1 + 1 - z.1.1).toNat) ⟨(2, C.2, []), by omega, by omega, kC, by simp, rfl⟩ ?_ ?_
   ·exact GS.ownB' (.o 7) 1 1001 (cs := [TV.oref 1000 i, TV.c (Value.slice none 0 0)]) 85 5 (by simp) (by simp) (by simp) (by simp) (by simp [lks])
   ·rintro ⟨⟨b, T0, l0⟩, i1, i2, i3, i4, i5⟩
    simp only at i1 i2 i3 i4 i5
    simp -dsimp
    refine AIf.dec (fun hb => ?_) (fun hb => ?_)
    ·have t1 := gRange_lo T0 1 (b - 1)
     have t2 := gRange_hi T0 (a := 1) (b := b - 1) (by omega)
     simp -dsimp [wrap_i64 (n := b - 1) (by omega) (by omega)]
     refine ACall.of (range_c T0 i3 1 (b - 1) ⟨by omega, by omega⟩ ⟨by omega, by omega⟩ ⟨by omega, by omega⟩ ⟨by omega, by omega⟩) [.x 0] 0 ?_
     simp -dsimp
     generalize ht : gRange T0 1 (b - 1) = t at t1 t2 ⊢
     have kt : TapeOK t.2 := by rw [← ht]; simpa using i3
     refine ACall.of (one_c t.2 kt 9 ⟨by omega, by omega⟩ ⟨by omega, by omega⟩) [.x 0] 0 ?_
     simp -dsimp
     generalize hs : gOne t.2 9 = s
     have ks : TapeOK s.2 := by rw [← hs]; simpa using kt
     refine ALoop.of [] (fun k => k==0||k==1||k==2||k==6||k==7||k==8||k==9||k==10||k==11||k==12||k==13||k==14||k==15||k==21||k==36||k==47||k==60||k==87||k==89||k==91||k==101||k==112||k==124||k==129||k==141||k==146||k==158||k==163||k==175||k==180) (ι := { z : Int × Tp × List Lk // 1 ≤ z.1 ∧ z.1 ≤ b ∧ TapeOK z.2.1 ∧ z.2.2.length ≤ 24 * (b.toNat - 2) + (z.1.toNat - 1) ∧ gTopA C.1 t.1 s.1 b (b - 1).toNat 1 s.2 l0 = gTopA C.1 t.1 s.1 b (b - z.1).toNat z.1 z.2.1 z.2.2 })
      (fun z => [(Pl.s 0, It.v (.ptr (Pl.x 0) 0)), (Pl.s 1, It.v (.d (.int .i64 most))), (Pl.s 2, It.v (.d (.int .i64 0))), (Pl.x 0, tapeI z.1.2.1),
       (Pl.o 6, It.box [TV.c (Value.slice none 0 0), TV.c (Value.slice none 0 0)]), (Pl.s 6, It.v (.ptr (Pl.o 6) 0)), (Pl.o 7, It.box [TV.oref 1000 i, TV.oref 1001 z.1.2.2.length]), (Pl.s 7, It.v (.ptr (Pl.o 7) 0)),
       (Pl.s 8, It.v (.d (.int .i64 R.1))), (Pl.o 1000, .row 81 2 (dd (rts (gRts i))) false), (Pl.o 1001, .row 85 5 (dd (lks z.1.2.2)) false),
       (Pl.s 10, It.v (.d (.int .i64 C.1))), (Pl.s 11, It.v (.d (.int .i64 b))), (Pl.s 12, It.v (.d (.int .i64 t.1))), (Pl.s 13, It.v (.d (.bool s.1))), (Pl.s 14, It.v (.d (.int .i64 z.1.1)))]) (fun z => (b - z.1.1).toNat) ⟨(1, s.2, l0), by omega, by omega, ks, by simpa using i4, rfl⟩ ?_ ?_
     ·exact GS.to (by simp)
     ·rintro ⟨⟨a, T1, l⟩, j1, j2, j3, j4, j5⟩
      simp only at j1 j2 j3 j4 j5
      by_cases hab : a < b
      ·have hab' : decide (a < b) = true := by simpa using hab
       by_cases ha : a = t.1
       ·have ha' : decide (a = t.1) = true := by simpa using ha
        rcases (Bool.eq_false_or_eq_true s.1).symm with hs1 | hs1
        ·simp -dsimp [hab', ha', hs1]
         have x1 := gRange_lo T1 1 C.1
         have x2 := gRange_hi T1 (a := 1) (b := C.1) (by omega)
         refine ACall.of (range_c T1 j3 1 C.1 ⟨by omega, by omega⟩ ⟨by omega, by omega⟩ ⟨by omega, by omega⟩ ⟨by omega, by omega⟩) [.x 0] 0 ?_
         simp -dsimp
         generalize hx : gRange T1 1 C.1 = x at x1 x2 ⊢
         have kx : TapeOK x.2 := by rw [← hx]; simpa using j3
         have y1 := gRange_lo x.2 1 C.1
         have y2 := gRange_hi x.2 (a := 1) (b := C.1) (by omega)
         refine ACall.of (range_c x.2 kx 1 C.1 ⟨by omega, by omega⟩ ⟨by omega, by omega⟩ ⟨by omega, by omega⟩ ⟨by omega, by omega⟩) [.x 0] 0 ?_
         simp -dsimp
         generalize hy : gRange x.2 1 C.1 = y at y1 y2 ⊢
         have ky : TapeOK y.2 := by rw [← hy]; simpa using kx
         refine ACall.of (next_c y.2 ky 4 ⟨by omega, by omega⟩) [.x 0] 0 ?_
         simp -dsimp [wrap_i64 (n := a + 1) (by omega) (by omega)]
         have e : gTopS C.1 t.1 s.1 b a T1 l = (l ++ [⟨a, b, x.1, y.1, (gNext y.2 4).1⟩], (gNext y.2 4).2) := by simp [gTopS, ha', hs1, hx, hy]
         and_intros
         all_goals try first | omega | exact ⟨by kernel_rfl⟩ | (simp; omega)
         exact ⟨⟨(a + 1, (gNext y.2 4).2, l ++ [⟨a, b, x.1, y.1, (gNext y.2 4).1⟩]), by omega, by omega, by simpa using ky, by simp; omega, by rw [j5, show (b - a).toNat = (b - (a + 1)).toNat + 1 by omega, gTopA, e]⟩, GS.to (by simp [lks, Lk.cs, ha', hs1]), by simp; omega⟩
        ·simp -dsimp [hab', ha', hs1]
         refine ACall.of (one_c T1 j3 3 ⟨by omega, by omega⟩ ⟨by omega, by omega⟩) [.x 0] 0 ?_
         generalize ho : gOne T1 3 = o
         have ko : TapeOK o.2 := by rw [← ho]; simpa using j3
         rcases (Bool.eq_false_or_eq_true o.1).symm with ho1 | ho1
         ·simp -dsimp [ho1, wrap_i64 (n := a + 1) (by omega) (by omega)]
          have e : gTopS C.1 t.1 s.1 b a T1 l = (l, o.2) := by simp [gTopS, ha', hs1, ho, ho1]
          and_intros
          all_goals try first | omega | exact ⟨by kernel_rfl⟩ | (simp; omega)
          exact ⟨⟨(a + 1, o.2, l), by omega, by omega, ko, by simp; omega, by rw [j5, show (b - a).toNat = (b - (a + 1)).toNat + 1 by omega, gTopA, e]⟩, GS.to (by simp [ha', hs1]), by simp; omega⟩
         ·simp -dsimp [ho1]
          have x1 := gRange_lo o.2 1 C.1
          have x2 := gRange_hi o.2 (a := 1) (b := C.1) (by omega)
          refine ACall.of (range_c o.2 ko 1 C.1 ⟨by omega, by omega⟩ ⟨by omega, by omega⟩ ⟨by omega, by omega⟩ ⟨by omega, by omega⟩) [.x 0] 0 ?_
          simp -dsimp
          generalize hx : gRange o.2 1 C.1 = x at x1 x2 ⊢
          have kx : TapeOK x.2 := by rw [← hx]; simpa using ko
          have y1 := gRange_lo x.2 1 C.1
          have y2 := gRange_hi x.2 (a := 1) (b := C.1) (by omega)
          refine ACall.of (range_c x.2 kx 1 C.1 ⟨by omega, by omega⟩ ⟨by omega, by omega⟩ ⟨by omega, by omega⟩ ⟨by omega, by omega⟩) [.x 0] 0 ?_
          simp -dsimp
          generalize hy : gRange x.2 1 C.1 = y at y1 y2 ⊢
          have ky : TapeOK y.2 := by rw [← hy]; simpa using kx
          refine ACall.of (next_c y.2 ky 4 ⟨by omega, by omega⟩) [.x 0] 0 ?_
          simp -dsimp [wrap_i64 (n := a + 1) (by omega) (by omega)]
          have e : gTopS C.1 t.1 s.1 b a T1 l = (l ++ [⟨a, b, x.1, y.1, (gNext y.2 4).1⟩], (gNext y.2 4).2) := by simp [gTopS, ha', hs1, ho, ho1, hx, hy]
          and_intros
          all_goals try first | omega | exact ⟨by kernel_rfl⟩ | (simp; omega)
          exact ⟨⟨(a + 1, (gNext y.2 4).2, l ++ [⟨a, b, x.1, y.1, (gNext y.2 4).1⟩]), by omega, by omega, by simpa using ky, by simp; omega, by rw [j5, show (b - a).toNat = (b - (a + 1)).toNat + 1 by omega, gTopA, e]⟩, GS.to (by simp [lks, Lk.cs, ha', hs1, ho, ho1]), by simp; omega⟩
       ·have ha' : decide (a = t.1) = false := by simpa using ha
        simp -dsimp [hab', ha']
        refine ACall.of (one_c T1 j3 3 ⟨by omega, by omega⟩ ⟨by omega, by omega⟩) [.x 0] 0 ?_
        generalize ho : gOne T1 3 = o
        have ko : TapeOK o.2 := by rw [← ho]; simpa using j3
        rcases (Bool.eq_false_or_eq_true o.1).symm with ho1 | ho1
        ·simp -dsimp [ho1, wrap_i64 (n := a + 1) (by omega) (by omega)]
         have e : gTopS C.1 t.1 s.1 b a T1 l = (l, o.2) := by simp [gTopS, ha', ho, ho1]
         and_intros
         all_goals try first | omega | exact ⟨by kernel_rfl⟩ | (simp; omega)
         exact ⟨⟨(a + 1, o.2, l), by omega, by omega, ko, by simp; omega, by rw [j5, show (b - a).toNat = (b - (a + 1)).toNat + 1 by omega, gTopA, e]⟩, GS.to (by simp [ha']), by simp; omega⟩
        ·simp -dsimp [ho1]
         have x1 := gRange_lo o.2 1 C.1
         have x2 := gRange_hi o.2 (a := 1) (b := C.1) (by omega)
         refine ACall.of (range_c o.2 ko 1 C.1 ⟨by omega, by omega⟩ ⟨by omega, by omega⟩ ⟨by omega, by omega⟩ ⟨by omega, by omega⟩) [.x 0] 0 ?_
         simp -dsimp
         generalize hx : gRange o.2 1 C.1 = x at x1 x2 ⊢
         have kx : TapeOK x.2 := by rw [← hx]; simpa using ko
         have y1 := gRange_lo x.2 1 C.1
         have y2 := gRange_hi x.2 (a := 1) (b := C.1) (by omega)
         refine ACall.of (range_c x.2 kx 1 C.1 ⟨by omega, by omega⟩ ⟨by omega, by omega⟩ ⟨by omega, by omega⟩ ⟨by omega, by omega⟩) [.x 0] 0 ?_
         simp -dsimp
         generalize hy : gRange x.2 1 C.1 = y at y1 y2 ⊢
         have ky : TapeOK y.2 := by rw [← hy]; simpa using kx
         refine ACall.of (next_c y.2 ky 4 ⟨by omega, by omega⟩) [.x 0] 0 ?_
         simp -dsimp [wrap_i64 (n := a + 1) (by omega) (by omega)]
         have e : gTopS C.1 t.1 s.1 b a T1 l = (l ++ [⟨a, b, x.1, y.1, (gNext y.2 4).1⟩], (gNext y.2 4).2) := by simp [gTopS, ha', ho, ho1, hx, hy]
         and_intros
         all_goals try first | omega | exact ⟨by kernel_rfl⟩ | (simp; omega)
         exact ⟨⟨(a + 1, (gNext y.2 4).2, l ++ [⟨a, b, x.1, y.1, (gNext y.2 4).1⟩]), by omega, by omega, by simpa using ky, by simp; omega, by rw [j5, show (b - a).toNat = (b - (a + 1)).toNat + 1 by omega, gTopA, e]⟩, GS.to (by simp [lks, Lk.cs, ha', ho, ho1]), by simp; omega⟩
      ·have hab' : decide (a < b) = false := by simpa using hab
       obtain rfl : a = b := by omega
       simp -dsimp [hab', wrap_i64 (n := a + 1) (by omega) (by omega)]
       have e : gTopR C.1 a T0 l0 = (l, T1) := by unfold gTopR; simp only [ht, hs]; rw [j5]; simp [gTopA]
       exact ⟨⟨(a + 1, T1, l), by omega, by omega, j3, by simp; omega, by rw [i5, show (R.1 + 1 - a).toNat = (R.1 + 1 - (a + 1)).toNat + 1 by omega, gTopB, e]⟩, GS.to (by simp), by simp; omega⟩
    ·obtain rfl : b = R.1 + 1 := by omega
     simp -dsimp
     refine ACall.of (ord_c l0 (by omega)) [] 0 ?_
     simp -dsimp
     refine Fin.box (.o 6) rfl ?_
     simp -dsimp
     refine Fin.of ?_
     have hX : gTopB C.1 (R.1 + 1 - 2).toNat 2 C.2 [] = (l0, T0) := by rw [i5]; simp [gTopB]
     simp only [gTop, hR, hC, hX]
     simp [topT, hk]
end Go.Proofs

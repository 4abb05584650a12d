/-
  What functions of the program compute, stated as contracts over plain data; the conditions of each stand in its own statement.
-/
import Derived.Test.YtjgeggdefiejbaaGreatDoorZM16
set_option linter.unusedSimpArgs false
namespace Go.Proofs
open Go Go.Tr
def gBits (T : Tp) (k : Int) : BitVec 64 × Tp :=
 let r1 := gRaw T
 let r2 := gRaw r1.2
 let s := gNext r2.2 6
 if s.1 = 0 then (0#64, s.2)
 else if s.1 = 1 then (bitB (gNext s.2 k).1 &&& fullB k, (gNext s.2 k).2)
 else if s.1 = 2 then (~~~ 0#64 &&& fullB k, s.2)
 else ((wu (tn (wu r1.1) * 11400714819323198485) ^^^ wu r2.1) &&& fullB k, s.2)
def gOrderL : Nat → Nat → Tp → List Int → List Int × Tp
 | 0, _, T, out => (out, T)
 | n + 1, i, T, out => gOrderL n (i + 1) (gNext T (i + 1)).2 (out.take (gNext T (i + 1)).1.toNat ++ [(i : Int)] ++ out.drop (gNext T (i + 1)).1.toNat)
def gOrder (T : Tp) (n : Int) : List Int × Tp := gOrderL n.toNat 0 T []
structure Pk where
 mode : Int
 subd : Int
 set : Int
 len : Int
 ttl : Int
 ent : Int
 ing : Int
 proto : Int
 bits : BitVec 64
 pay : ByteArray
def Pk.cs (p : Pk) : List D := [.int .i64 p.mode, .int .i64 p.subd, .int .i64 p.set, .int .i64 p.len, .int .i64 p.ttl, .int .i64 p.ent, .int .i64 p.ing, .int .i64 p.proto, bv p.bits, .str p.pay]
def gPk0 (T : Tp) : Pk × Tp :=
 let L := gPick T [8, 8, 16, 32, 64]
 let m := gRange L.2 1 3
 let d := gRange m.2 0 7
 let s := gPick d.2 [0, 0, 1, 2, 31]
 let t := gPick s.2 [0, 1, 2, 5, 63]
 let e := gNext t.2 1024
 let i := gPick e.2 [0, 1, 8, 255, 256]
 let p := gNext i.2 8
 let b := gBits p.2 L.1
 let y := gText b.2 6
 (⟨m.1, d.1, s.1, L.1, t.1, e.1, i.1, p.1, b.1, strOf y.1⟩, y.2)
theorem gTextL_ok : ∀ (n : Nat) (T : Tp), TapeOK (gTextL n T).2 = TapeOK T
 | 0, T => rfl
 | n + 1, T => by simp [gTextL, gTextL_ok n]
@[simp] theorem gText_ok (T : Tp) (k : Int) : TapeOK (gText T k).2 = TapeOK T := by simp [gText, gTextL_ok]
@[simp] theorem gBits_ok (T : Tp) (k : Int) : TapeOK (gBits T k).2 = TapeOK T := by
 simp only [gBits]
 split
 ·simp
 ·split
  ·simp
  ·split <;> simp
def abc : ByteArray := ⟨#[97, 98, 99]⟩
def grow : Nat → ByteArray → ByteArray
 | 0, s => s
 | n + 1, s => if s.size < 62 then grow n (s ++ abc) else s
def gSpoilP (T : Tp) (p : Pk) : Pk × Tp :=
 let s := gNext T 9
 if s.1 = 0 then (⟨(gWild s.2).1, p.subd, p.set, p.len, p.ttl, p.ent, p.ing, p.proto, p.bits, p.pay⟩, (gWild s.2).2)
 else if s.1 = 1 then (⟨p.mode, (gWild s.2).1, p.set, p.len, p.ttl, p.ent, p.ing, p.proto, p.bits, p.pay⟩, (gWild s.2).2)
 else if s.1 = 2 then (⟨p.mode, p.subd, (gWild s.2).1, p.len, p.ttl, p.ent, p.ing, p.proto, p.bits, p.pay⟩, (gWild s.2).2)
 else if s.1 = 3 then (⟨p.mode, p.subd, p.set, (gPick s.2 [0, 8, 16, 24, 63, 64, 65, -8]).1, p.ttl, p.ent, p.ing, p.proto, p.bits, p.pay⟩, (gPick s.2 [0, 8, 16, 24, 63, 64, 65, -8]).2)
 else if s.1 = 4 then (⟨p.mode, p.subd, p.set, p.len, (gWild s.2).1, p.ent, p.ing, p.proto, p.bits, p.pay⟩, (gWild s.2).2)
 else if s.1 = 5 then (⟨p.mode, p.subd, p.set, p.len, p.ttl, (gWild s.2).1, p.ing, p.proto, p.bits, p.pay⟩, (gWild s.2).2)
 else if s.1 = 6 then (⟨p.mode, p.subd, p.set, p.len, p.ttl, p.ent, (gWild s.2).1, p.proto, p.bits, p.pay⟩, (gWild s.2).2)
 else if s.1 = 7 then (⟨p.mode, p.subd, p.set, p.len, p.ttl, p.ent, p.ing, (gWild s.2).1, p.bits, p.pay⟩, (gWild s.2).2)
 else (⟨p.mode, p.subd, p.set, p.len, p.ttl, p.ent, p.ing, p.proto, p.bits, grow 62 p.pay ++ strOf (gText s.2 4).1⟩, (gText s.2 4).2)
def gPacket (T : Tp) (n : Int) : Pk × Tp :=
 if 0 < n then
  if (gOne (gPk0 T).2 n).1 then gSpoilP (gOne (gPk0 T).2 n).2 (gPk0 T).1 else ((gPk0 T).1, (gOne (gPk0 T).2 n).2)
 else gPk0 T
def pkT (p : Pk) : TV := .agg (p.cs.map .d)
set_option maxRecDepth 100000
structure Lk where
 a : Int
 b : Int
 ca : Int
 cb : Int
 cap : Int
def Lk.cs (x : Lk) : List D := [.int .i64 x.a, .int .i64 x.b, .int .i64 x.ca, .int .i64 x.cb, .int .i64 x.cap]
def lks (l : List Lk) : List (List D) := l.map Lk.cs
def Lk.before (y x : Lk) : Bool := decide (y.a < x.a) || (decide (y.a = x.a) && decide (y.b < x.b))
def lkPos (x : Lk) : List Lk → Nat
 | [] => 0
 | y :: r => if y.before x then lkPos x r + 1 else 0
def ordL : List Lk → List Lk → List Lk
 | [], out => out
 | x :: l, out => ordL l (out.take (lkPos x out) ++ [x] ++ out.drop (lkPos x out))
@[simp] theorem lks_len (l : List Lk) : (lks l).length = l.length := by simp [lks]
theorem lks_get {l : List Lk} {i : Nat} {x : Lk} (h : l[i]? = some x) : (lks l)[i]? = some x.cs := by simp [lks, h]
set_option maxHeartbeats 2000000
def insB (n m : Int) : Bool := decide (0 ≤ n) && decide (n ≤ m)
theorem inside_c (n m : Int) : Contract Tryz.prog 188 [.d (.int .i64 n), .d (.int .i64 m)] [] (.d (.bool (insB n m))) [] [] := by
 refine contract_of Tryz.func188 rfl (fun E0 => ?_)
 refine awp.sound (g := .mk) (ow := []) (kp := (fun k => k==0||k==1||k==4)) ?_
 rw [Tryz.ntmps188]
 by_cases h : 0 ≤ n
 ·simp -dsimp [h]
  refine Fin.of ?_
  simp [insB, h]
 ·simp -dsimp [h]
  refine Fin.of ?_
  simp [insB, h]
theorem in_c (n m : Int) : Contract Tryz.prog 159 [.d (.int .i64 n), .d (.int .i64 m)] [] (.d (.bool (insB n m))) [] [] := by
 refine contract_of Tryz.func159 rfl (fun E0 => ?_)
 refine awp.sound (g := .mk) (ow := []) (kp := (fun k => k==0||k==1||k==4)) ?_
 rw [Tryz.ntmps159]
 by_cases h : 0 ≤ n
 ·simp -dsimp [h]
  refine Fin.of ?_
  simp [insB, h]
 ·simp -dsimp [h]
  refine Fin.of ?_
  simp [insB, h]
def validB (b : BitVec 64) (n : Int) : Bool := validLen n && decide (b &&& ~~~ fullB n = 0#64)
theorem validB_c (b : BitVec 64) (n : Int) : Contract Tryz.prog 189 [.d (bv b), .d (.int .i64 n)] [] (.d (.bool (validB b n))) [] [] := by
 refine contract_of Tryz.func189 rfl (fun E0 => ?_)
 refine awp.sound (g := .mk) (ow := []) (kp := (fun k => k==0||k==1||k==4)) ?_
 rw [Tryz.ntmps189]
 simp -dsimp [bv]
 refine ACall.of (validLength_c n) [] 0 ?_
 cases h : validLen n
 ·simp -dsimp [h, bv]
  refine Fin.of ?_
  simp [validB, h]
 ·simp -dsimp [h, bv]
  refine ACall.of (full_c n) [] 0 ?_
  simp -dsimp [h, bv]
  refine Fin.of ?_
  simp [validB, h]
theorem full_c2 (n : Int) : Contract Tryz.prog 198 [.d (.int .i64 n)] [] (.d (bv (fullB n))) [] [] := by
 refine contract_of Tryz.func198 rfl (fun E0 => ?_)
 refine awp.sound (g := .mk) (ow := []) (kp := (fun k => k==0||k==2||k==5)) ?_
 rw [Tryz.ntmps198]
 simp -dsimp [bv]
 refine ACall.of (validLength_c2 n) [] 0 ?_
 cases h : validLen n
 ·simp -dsimp [h, bv]
  refine Fin.of ?_
  simp [fullB, h]
 ·have hk : n = 8 ∨ n = 16 ∨ n = 32 ∨ n = 64 := by simp [validLen] at h; omega
  simp -dsimp [h, bv, wrap_i64 (n := 64 - n) (by omega) (by omega)]
  refine ⟨by omega, ?_⟩
  refine Fin.of ?_
  simp [fullB, h]
  rcases hk with rfl | rfl | rfl | rfl <;> decide
theorem validB_c2 (b : BitVec 64) (n : Int) : Contract Tryz.prog 160 [.d (bv b), .d (.int .i64 n)] [] (.d (.bool (validB b n))) [] [] := by
 refine contract_of Tryz.func160 rfl (fun E0 => ?_)
 refine awp.sound (g := .mk) (ow := []) (kp := (fun k => k==0||k==1||k==4)) ?_
 rw [Tryz.ntmps160]
 simp -dsimp [bv]
 refine ACall.of (validLength_c2 n) [] 0 ?_
 cases h : validLen n
 ·simp -dsimp [h, bv]
  refine Fin.of ?_
  simp [validB, h]
 ·simp -dsimp [h, bv]
  refine ACall.of (full_c2 n) [] 0 ?_
  simp -dsimp [h, bv]
  refine Fin.of ?_
  simp [validB, h]
def Pk.ok (p : Pk) : Bool := decide (1 ≤ p.mode) && (decide (p.mode ≤ 3) && (insB p.subd 7 && (insB p.set 31 && (validB p.bits p.len && (insB p.ttl 63 && (insB p.ent 1023 && (insB p.ing 256 && (insB p.proto 7 && decide (p.pay.size ≤ 64)))))))))
theorem valid_c (p : Pk) : Contract Tryz.prog 143 [pkT p] [] (.d (.bool p.ok)) [] [] := by
 refine contract_of Tryz.func143 rfl (fun E0 => ?_)
 refine awp.sound (g := .mk) (ow := []) (kp := (fun k => k==0||k==1||k==2)) ?_
 rw [Tryz.ntmps143]
 by_cases c1 : 1 ≤ p.mode
 rotate_left
 ·simp -dsimp [pkT, Pk.cs, c1]
  try refine ⟨?_, ⟨by kernel_rfl⟩⟩
  refine Fin.of ?_
  simp [Pk.ok, c1]
 by_cases c2 : p.mode ≤ 3
 rotate_left
 ·simp -dsimp [pkT, Pk.cs, c1, c2]
  try refine ⟨?_, ⟨by kernel_rfl⟩⟩
  refine Fin.of ?_
  simp [Pk.ok, c1, c2]
 simp -dsimp [pkT, Pk.cs, c1, c2]
 refine ACall.of (inside_c p.subd 7) [] 0 ?_
 cases d0 : insB p.subd 7
 ·simp -dsimp [pkT, Pk.cs, c1, c2, d0]
  try refine ⟨?_, ⟨by kernel_rfl⟩⟩
  refine Fin.of ?_
  simp [Pk.ok, c1, c2, d0]
 simp -dsimp [pkT, Pk.cs, c1, c2, d0]
 refine ACall.of (inside_c p.set 31) [] 0 ?_
 cases d1 : insB p.set 31
 ·simp -dsimp [pkT, Pk.cs, c1, c2, d0, d1]
  try refine ⟨?_, ⟨by kernel_rfl⟩⟩
  refine Fin.of ?_
  simp [Pk.ok, c1, c2, d0, d1]
 simp -dsimp [pkT, Pk.cs, c1, c2, d0, d1]
 refine ACall.of (validB_c p.bits p.len) [] 0 ?_
 cases d2 : validB p.bits p.len
 ·simp -dsimp [pkT, Pk.cs, c1, c2, d0, d1, d2]
  try refine ⟨?_, ⟨by kernel_rfl⟩⟩
  refine Fin.of ?_
  simp [Pk.ok, c1, c2, d0, d1, d2]
 simp -dsimp [pkT, Pk.cs, c1, c2, d0, d1, d2]
 refine ACall.of (inside_c p.ttl 63) [] 0 ?_
 cases d3 : insB p.ttl 63
 ·simp -dsimp [pkT, Pk.cs, c1, c2, d0, d1, d2, d3]
  try refine ⟨?_, ⟨by kernel_rfl⟩⟩
  refine Fin.of ?_
  simp [Pk.ok, c1, c2, d0, d1, d2, d3]
 simp -dsimp [pkT, Pk.cs, c1, c2, d0, d1, d2, d3]
 refine ACall.of (inside_c p.ent 1023) [] 0 ?_
 cases d4 : insB p.ent 1023
 ·simp -dsimp [pkT, Pk.cs, c1, c2, d0, d1, d2, d3, d4]
  try refine ⟨?_, ⟨by kernel_rfl⟩⟩
  refine Fin.of ?_
  simp [Pk.ok, c1, c2, d0, d1, d2, d3, d4]
 simp -dsimp [pkT, Pk.cs, c1, c2, d0, d1, d2, d3, d4]
 refine ACall.of (inside_c p.ing 256) [] 0 ?_
 cases d5 : insB p.ing 256
 ·simp -dsimp [pkT, Pk.cs, c1, c2, d0, d1, d2, d3, d4, d5]
  try refine ⟨?_, ⟨by kernel_rfl⟩⟩
  refine Fin.of ?_
  simp [Pk.ok, c1, c2, d0, d1, d2, d3, d4, d5]
 simp -dsimp [pkT, Pk.cs, c1, c2, d0, d1, d2, d3, d4, d5]
 refine ACall.of (inside_c p.proto 7) [] 0 ?_
 cases d6 : insB p.proto 7
 ·simp -dsimp [pkT, Pk.cs, c1, c2, d0, d1, d2, d3, d4, d5, d6]
  try refine ⟨?_, ⟨by kernel_rfl⟩⟩
  refine Fin.of ?_
  simp [Pk.ok, c1, c2, d0, d1, d2, d3, d4, d5, d6]
 simp -dsimp [pkT, Pk.cs, c1, c2, d0, d1, d2, d3, d4, d5, d6]
 try refine ⟨?_, ⟨by kernel_rfl⟩⟩
 refine Fin.of ?_
 simp [Pk.ok, c1, c2, d0, d1, d2, d3, d4, d5, d6]
 omega
theorem valid_c2 (p : Pk) : Contract Tryz.prog 128 [pkT p] [] (.d (.bool p.ok)) [] [] := by
 refine contract_of Tryz.func128 rfl (fun E0 => ?_)
 refine awp.sound (g := .mk) (ow := []) (kp := (fun k => k==0||k==1||k==2)) ?_
 rw [Tryz.ntmps128]
 by_cases c1 : 1 ≤ p.mode
 rotate_left
 ·simp -dsimp [pkT, Pk.cs, c1]
  try refine ⟨?_, ⟨by kernel_rfl⟩⟩
  refine Fin.of ?_
  simp [Pk.ok, c1]
 by_cases c2 : p.mode ≤ 3
 rotate_left
 ·simp -dsimp [pkT, Pk.cs, c1, c2]
  try refine ⟨?_, ⟨by kernel_rfl⟩⟩
  refine Fin.of ?_
  simp [Pk.ok, c1, c2]
 simp -dsimp [pkT, Pk.cs, c1, c2]
 refine ACall.of (in_c p.subd 7) [] 0 ?_
 cases d0 : insB p.subd 7
 ·simp -dsimp [pkT, Pk.cs, c1, c2, d0]
  try refine ⟨?_, ⟨by kernel_rfl⟩⟩
  refine Fin.of ?_
  simp [Pk.ok, c1, c2, d0]
 simp -dsimp [pkT, Pk.cs, c1, c2, d0]
 refine ACall.of (in_c p.set 31) [] 0 ?_
 cases d1 : insB p.set 31
 ·simp -dsimp [pkT, Pk.cs, c1, c2, d0, d1]
  try refine ⟨?_, ⟨by kernel_rfl⟩⟩
  refine Fin.of ?_
  simp [Pk.ok, c1, c2, d0, d1]
 simp -dsimp [pkT, Pk.cs, c1, c2, d0, d1]
 refine ACall.of (validB_c2 p.bits p.len) [] 0 ?_
 cases d2 : validB p.bits p.len
 ·simp -dsimp [pkT, Pk.cs, c1, c2, d0, d1, d2]
  try refine ⟨?_, ⟨by kernel_rfl⟩⟩
  refine Fin.of ?_
  simp [Pk.ok, c1, c2, d0, d1, d2]
 simp -dsimp [pkT, Pk.cs, c1, c2, d0, d1, d2]
 refine ACall.of (in_c p.ttl 63) [] 0 ?_
 cases d3 : insB p.ttl 63
 ·simp -dsimp [pkT, Pk.cs, c1, c2, d0, d1, d2, d3]
  try refine ⟨?_, ⟨by kernel_rfl⟩⟩
  refine Fin.of ?_
  simp [Pk.ok, c1, c2, d0, d1, d2, d3]
 simp -dsimp [pkT, Pk.cs, c1, c2, d0, d1, d2, d3]
 refine ACall.of (in_c p.ent 1023) [] 0 ?_
 cases d4 : insB p.ent 1023
 ·simp -dsimp [pkT, Pk.cs, c1, c2, d0, d1, d2, d3, d4]
  try refine ⟨?_, ⟨by kernel_rfl⟩⟩
  refine Fin.of ?_
  simp [Pk.ok, c1, c2, d0, d1, d2, d3, d4]
 simp -dsimp [pkT, Pk.cs, c1, c2, d0, d1, d2, d3, d4]
 refine ACall.of (in_c p.ing 256) [] 0 ?_
 cases d5 : insB p.ing 256
 ·simp -dsimp [pkT, Pk.cs, c1, c2, d0, d1, d2, d3, d4, d5]
  try refine ⟨?_, ⟨by kernel_rfl⟩⟩
  refine Fin.of ?_
  simp [Pk.ok, c1, c2, d0, d1, d2, d3, d4, d5]
 simp -dsimp [pkT, Pk.cs, c1, c2, d0, d1, d2, d3, d4, d5]
 refine ACall.of (in_c p.proto 7) [] 0 ?_
 cases d6 : insB p.proto 7
 ·simp -dsimp [pkT, Pk.cs, c1, c2, d0, d1, d2, d3, d4, d5, d6]
  try refine ⟨?_, ⟨by kernel_rfl⟩⟩
  refine Fin.of ?_
  simp [Pk.ok, c1, c2, d0, d1, d2, d3, d4, d5, d6]
 simp -dsimp [pkT, Pk.cs, c1, c2, d0, d1, d2, d3, d4, d5, d6]
 try refine ⟨?_, ⟨by kernel_rfl⟩⟩
 refine Fin.of ?_
 simp [Pk.ok, c1, c2, d0, d1, d2, d3, d4, d5, d6]
 omega
structure Rt where
 id : Int
 cap : Bool
def Rt.cs (x : Rt) : List D := [.int .i64 x.id, .bool x.cap]
def rts (l : List Rt) : List (List D) := l.map Rt.cs
@[simp] theorem rts_len (l : List Rt) : (rts l).length = l.length := by simp [rts]
def gRts (k : Nat) : List Rt := (List.range k).map fun (i : Nat) => ⟨(i : Int) + 1, true⟩
@[simp] theorem gRts_len (k : Nat) : (gRts k).length = k := by simp [gRts]
def gTopS (cost tree : Int) (skip : Bool) (b a : Int) (T : Tp) (l : List Lk) : List Lk × Tp :=
 let c := if decide (a = tree) && !skip then (true, T) else gOne T 3
 if c.1 then
  let x := gRange c.2 1 cost
  let y := gRange x.2 1 cost
  let z := gNext y.2 4
  (l ++ [⟨a, b, x.1, y.1, z.1⟩], z.2)
 else (l, c.2)
def gTopA (cost tree : Int) (skip : Bool) (b : Int) : Nat → Int → Tp → List Lk → List Lk × Tp
 | 0, _, T, l => (l, T)
 | n + 1, a, T, l => gTopA cost tree skip b n (a + 1) (gTopS cost tree skip b a T l).2 (gTopS cost tree skip b a T l).1
def gTopR (cost b : Int) (T : Tp) (l : List Lk) : List Lk × Tp :=
 let t := gRange T 1 (b - 1)
 let s := gOne t.2 9
 gTopA cost t.1 s.1 b (b - 1).toNat 1 s.2 l
def gTopB (cost : Int) : Nat → Int → Tp → List Lk → List Lk × Tp
 | 0, _, T, l => (l, T)
 | n + 1, b, T, l => gTopB cost n (b + 1) (gTopR cost b T l).2 (gTopR cost b T l).1
structure Topo where
 rs : List Rt
 ls : List Lk
def topT (g : Topo) : TV := .agg [.d (.sl (rts g.rs)), .d (.sl (lks g.ls))]
def gTop (T : Tp) (most : Int) : Topo × Tp :=
 let R := gRange T 1 most
 let C := gPick R.2 [1, 2, 2, 5]
 let X := gTopB C.1 (R.1 + 1 - 2).toNat 2 C.2 []
 (⟨gRts R.1.toNat, ordL X.1 []⟩, X.2)
theorem gTopS_ok (cost tree : Int) (skip : Bool) (b a : Int) (T : Tp) (l : List Lk) : TapeOK (gTopS cost tree skip b a T l).2 = TapeOK T := by
 unfold gTopS
 simp only
 split <;> split <;> simp
structure Ed where
 r : Int
 id : Int
def Ed.cs (x : Ed) : List D := [.int .i64 x.r, .int .i64 x.id]
def eds (l : List Ed) : List (List D) := l.map Ed.cs
structure Pn where
 subd : Int
 len : Int
 es : List Ed
def planT (p : Pn) : TV := .agg [.d (.int .i64 p.subd), .d (.int .i64 p.len), .d (.sl (eds p.es))]
@[simp] theorem eds_len (l : List Ed) : (eds l).length = l.length := by simp [eds]
theorem eds_get {l : List Ed} {i : Nat} {x : Ed} (h : l[i]? = some x) : (eds l)[i]? = some x.cs := by simp [eds, h]
theorem eds_get' {l : List Ed} {i : Nat} {x : Ed} (h : l[i]? = some x) (hi : i < (eds l).length) : (eds l)[i] = x.cs := by
 have := eds_get h
 rw [List.getElem?_eq_getElem hi] at this
 simpa using this
theorem rts_get {l : List Rt} {i : Nat} {x : Rt} (h : l[i]? = some x) : (rts l)[i]? = some x.cs := by simp [rts, h]
theorem gOrderL_ok : ∀ (n i : Nat) (T : Tp) (l : List Int), TapeOK (gOrderL n i T l).2 = TapeOK T
 | 0, _, _, _ => rfl
 | n + 1, i, T, l => by rw [gOrderL, gOrderL_ok]; simp
@[simp] theorem gOrder_ok (T : Tp) (n : Int) : TapeOK (gOrder T n).2 = TapeOK T := gOrderL_ok _ _ _ _
theorem gOrderL_mem : ∀ (n i : Nat) (T : Tp) (l : List Int), (∀ x ∈ l, 0 ≤ x ∧ x < (i : Int)) → ∀ x ∈ (gOrderL n i T l).1, 0 ≤ x ∧ x < ((i + n : Nat) : Int)
 | 0, _, _, _, h => h
 | n + 1, i, T, l, h => fun x hx => by
   have := gOrderL_mem n (i + 1) _ _ (fun y hy => ?_) x hx
   ·omega
   ·simp only [List.mem_append, List.mem_singleton] at hy
    rcases hy with (hy | hy) | hy
    ·have := h y (List.mem_of_mem_take hy); omega
    ·omega
    ·have := h y (List.mem_of_mem_drop hy); omega
theorem gOrderL_len : ∀ (n i : Nat) (T : Tp) (l : List Int), (gOrderL n i T l).1.length = l.length + n
 | 0, _, _, _ => rfl
 | n + 1, i, T, l => by
   rw [gOrderL, gOrderL_len n]
   simp
   omega
theorem gOrder_mem (T : Tp) (n : Nat) : ∀ x ∈ (gOrder T n).1, 0 ≤ x ∧ x < (n : Int) := fun x hx => by
 have := gOrderL_mem n 0 T [] (by simp) x (by simpa [gOrder] using hx)
 omega
theorem gOrder_len (T : Tp) (n : Nat) : (gOrder T n).1.length = n := by simp [gOrder, gOrderL_len]
def inB (n lo hi : Int) : Bool := decide (lo ≤ n) && decide (n ≤ hi)
theorem inside10_c (n lo hi : Int) : Contract Tryz.prog 75 [.d (.int .i64 n), .d (.int .i64 lo), .d (.int .i64 hi)] [] (.d (.bool (inB n lo hi))) [] [] := by
 refine contract_of Tryz.func75 rfl (fun E0 => ?_)
 refine awp.sound (g := .mk) (ow := []) (kp := (fun k => k==0||k==1||k==2||k==6)) ?_
 rw [Tryz.ntmps75]
 by_cases h : lo ≤ n
 ·simp -dsimp [h]
  refine Fin.of ?_
  simp [inB, h]
 ·simp -dsimp [h]
  refine Fin.of ?_
  simp [inB, h]
theorem in10_c (n lo hi : Int) : Contract Tryz.prog 127 [.d (.int .i64 n), .d (.int .i64 lo), .d (.int .i64 hi)] [] (.d (.bool (inB n lo hi))) [] [] := by
 refine contract_of Tryz.func127 rfl (fun E0 => ?_)
 refine awp.sound (g := .mk) (ow := []) (kp := (fun k => k==0||k==1||k==2||k==6)) ?_
 rw [Tryz.ntmps127]
 by_cases h : lo ≤ n
 ·simp -dsimp [h]
  refine Fin.of ?_
  simp [inB, h]
 ·simp -dsimp [h]
  refine Fin.of ?_
  simp [inB, h]
open Classical in
noncomputable def repB (l : List Int) : Bool := decide (∃ i j, j < i ∧ i < l.length ∧ l.getD i 0 = l.getD j 0)
theorem repB_true {l : List Int} {i j : Nat} (h1 : j < i) (h2 : i < l.length) (h3 : l.getD i 0 = l.getD j 0) : repB l = true := by
 simp only [repB, decide_eq_true_eq]
 exact ⟨i, j, h1, h2, h3⟩
theorem repB_false {l : List Int} (h : ∀ i j, j < i → i < l.length → l.getD i 0 ≠ l.getD j 0) : repB l = false := by
 simp only [repB, decide_eq_false_iff_not]
 rintro ⟨i, j, h1, h2, h3⟩
 exact h i j h1 h2 h3
theorem repeats_c (l : List Int) (hl : l.length ≤ 100000) : Contract Tryz.prog 118 [.d (ints l)] [] (.d (.bool (repB l))) [] [] := by
 refine contract_of Tryz.func118 rfl (fun E0 => ?_)
 refine awp.sound (g := .mk) (ow := []) (kp := (fun k => k==0||k==2||k==3||k==4||k==8||k==13||k==24)) ?_
 rw [Tryz.ntmps118]
 simp -dsimp
 refine ALoop.of [] (fun k => k==0||k==2||k==3||k==4||k==8||k==13||k==24) (ι := { i : Nat // i ≤ l.length ∧ ∀ a b, b < a → a < i → l.getD a 0 ≠ l.getD b 0 }) (fun z => [(Pl.s 0, It.v (.d (ints l))), (Pl.s 3, It.v (.d (.int .i64 z.1)))]) (fun z => l.length - z.1) ⟨0, by omega, fun a b _ h => by omega⟩ ?_ ?_
 ·exact GS.to (by simp)
 ·rintro ⟨i, i1, i2⟩
  by_cases hi : i < l.length
  ·simp -dsimp [ints, hi]
   refine ALoop.of [] (fun k => k==0||k==2||k==3||k==4||k==8||k==13||k==24) (ι := { j : Nat // j ≤ i ∧ ∀ b, b < j → l.getD i 0 ≠ l.getD b 0 }) (fun z => [(Pl.s 0, It.v (.d (ints l))), (Pl.s 3, It.v (.d (.int .i64 i))), (Pl.s 4, It.v (.d (.int .i64 z.1)))]) (fun z => i - z.1) ⟨0, by omega, fun b h => by omega⟩ ?_ ?_
   ·exact GS.to (by simp [ints])
   ·rintro ⟨j, j1, j2⟩
    by_cases hj : j < i
    ·have hj2 : j < l.length := by omega
     have gi : l.getD i 0 = l[i] := by simp [List.getD, hi]
     have gj : l.getD j 0 = l[j] := by simp [List.getD, hj2]
     simp -dsimp [ints, hi, hj, hj2]
     refine ⟨AIf.dec (fun h => ?_) (fun h => ?_), ⟨by kernel_rfl⟩⟩
     ·simp -dsimp
      refine Fin.of ?_
      simp
      exact repB_true hj hi (by rw [gi, gj, h])
     ·simp -dsimp [wrap_i64 (n := (j : Int) + 1) (by omega) (by omega)]
      exact ⟨⟨j + 1, by omega, fun b hb => by
       by_cases e : b = j
       ·subst e; rw [gi, gj]; exact h
       ·exact j2 b (by omega)⟩, GS.to (by simp [ints]), by simp; omega⟩
    ·simp -dsimp [ints, hi, hj, wrap_i64 (n := (i : Int) + 1) (by omega) (by omega)]
     exact ⟨⟨i + 1, by omega, fun a b h1 h2 => by
      by_cases e : a = i
      ·subst e; exact j2 b (by omega)
      ·exact i2 a b h1 (by omega)⟩, GS.to (by simp [ints]), by simp; omega⟩
  ·simp -dsimp [ints, hi]
   refine Fin.of ?_
   simp
   exact repB_false fun a b h1 h2 => i2 a b h1 (by omega)
def gid (es : List Ed) (i : Nat) : Int := (es.getD i ⟨0, 0⟩).id
def grt (es : List Ed) (i : Nat) : Int := (es.getD i ⟨0, 0⟩).r
def baseB (p : Pn) : Bool := inB p.subd 0 7 && ((validLen p.len || (decide (p.len = 0) && decide (p.es.length = 0))) && decide (p.es.length ≤ 24))
def edB (es : List Ed) (i : Nat) : Bool := inB (gid es i) 1 256 && (inB (grt es i) 1 99 && (decide (i = 0) || decide (gid es (i - 1) < gid es i)))
open Classical in
noncomputable def planB (p : Pn) : Bool := decide (baseB p = true ∧ (∀ i, i < p.es.length → edB p.es i = true) ∧ ∀ i j, j < i → i < p.es.length → grt p.es i ≠ grt p.es j)
theorem planB_base {p : Pn} (h : baseB p = false) : planB p = false := by
 simp only [planB, decide_eq_false_iff_not]
 rintro ⟨h1, _⟩; rw [h] at h1; simp at h1
theorem planB_ed {p : Pn} {i : Nat} (hi : i < p.es.length) (h : edB p.es i = false) : planB p = false := by
 simp only [planB, decide_eq_false_iff_not]
 rintro ⟨_, h1, _⟩; have := h1 i hi; rw [h] at this; simp at this
theorem planB_rt {p : Pn} {i j : Nat} (hj : j < i) (hi : i < p.es.length) (h : grt p.es i = grt p.es j) : planB p = false := by
 simp only [planB, decide_eq_false_iff_not]
 rintro ⟨_, _, h1⟩; exact h1 i j hj hi h
theorem planB_ok {p : Pn} (h : baseB p = true) (h1 : ∀ i, i < p.es.length → edB p.es i = true) (h2 : ∀ i j, j < i → i < p.es.length → grt p.es i ≠ grt p.es j) : planB p = true := by
 simp only [planB, decide_eq_true_eq]
 exact ⟨h, h1, h2⟩
theorem planB_rep {p : Pn} (h : baseB p = true) (h1 : ∀ i, i < p.es.length → edB p.es i = true) : planB p = !(repB (p.es.map (·.r))) := by
 have hg : ∀ i, i < p.es.length → (p.es.map (·.r)).getD i 0 = grt p.es i := fun i hi => by simp [grt, List.getD, hi]
 by_cases h2 : ∀ i j, j < i → i < p.es.length → grt p.es i ≠ grt p.es j
 ·rw [planB_ok h h1 h2, repB_false fun i j hj hi => by simp at hi; rw [hg i hi, hg j (by omega)]; exact h2 i j hj hi]; rfl
 ·have : ∃ i j, j < i ∧ i < p.es.length ∧ grt p.es i = grt p.es j := Classical.byContradiction fun hc => h2 fun i j hj hi he => hc ⟨i, j, hj, hi, he⟩
  obtain ⟨i, j, hj, hi, he⟩ := this
  rw [planB_rt hj hi he, repB_true (l := p.es.map (·.r)) hj (by simpa using hi) (by rw [hg i hi, hg j (by omega)]; exact he)]; rfl
theorem validPlan10_c (p : Pn) (hp : p.es.length ≤ 1000) : Contract Tryz.prog 72 [planT p] [] (.d (.bool (planB p))) [] [] := by
 refine contract_of Tryz.func72 rfl (fun E0 => ?_)
 refine awp.sound (g := .mk) (ow := []) (kp := (fun k => k==0||k==1||k==2||k==3||k==4||k==5||k==32||k==37||k==70)) ?_
 rw [Tryz.ntmps72]
 simp -dsimp [planT]
 refine ACall.of (inside10_c p.subd 0 7) [] 0 ?_
 rcases (Bool.eq_false_or_eq_true (inB p.subd 0 7)).symm with a1 | a1
 ·simp -dsimp [a1]
  refine Fin.of ?_
  simp
  exact planB_base (by simp [baseB, a1])
 ·simp -dsimp [a1]
  refine ACall.of (validLength_c p.len) [] 0 ?_
  rcases (Bool.eq_false_or_eq_true (validLen p.len)).symm with a2 | a2
  ·by_cases a3 : p.len = 0
   ·by_cases a4 : p.es.length = 0
    ·have hb : baseB p = true := by simp [baseB, a1, a2, a3, a4, show validLen 0 = false from rfl]
     simp -dsimp [a1, a2, a3, a4, show validLen 0 = false from rfl]
     refine ALoop.of [] (fun k => k==0||k==1||k==2||k==3||k==4||k==5||k==32||k==37||k==70) (ι := { i : Nat // i ≤ p.es.length ∧ ∀ a, a < i → edB p.es a = true })
      (fun z => [(Pl.s 0, It.v (.agg [TV.d (.int .i64 p.subd), TV.d (.int .i64 p.len), TV.d (.sl (eds p.es))])), (Pl.o 1, It.box [TV.d (.int .i64 p.subd), TV.d (.int .i64 p.len), TV.d (.sl (eds p.es))]),
       (Pl.s 1, It.v (.ptr (Pl.o 1) 0)), (Pl.s 2, It.v (.d (.bool false))), (Pl.s 3, It.v (.oref 3 z.1)), (Pl.o 3, .row 3 1 (dd ((p.es.take z.1).map fun e => [.int .i64 e.r])) false), (Pl.s 4, It.v (.d (.int .i64 z.1)))])
      (fun z => p.es.length - z.1) ⟨0, by omega, fun a h => by omega⟩ ?_ ?_
     ·exact GS.own' (k := 3) 3 1 (by simp) (by simp) (by simp [a1, a2, a3, a4, show validLen 0 = false from rfl])
     ·rintro ⟨i, i1, i2⟩
      have hi : ¬ i < p.es.length := by omega
      obtain rfl : i = p.es.length := by omega
      simp -dsimp [hi]
      refine ACall.of (repeats_c (p.es.map (·.r)) (by simp; omega)) [] 0 ?_
      simp -dsimp [ints, List.map_map, Function.comp_def]
      refine Fin.of ?_
      simp [planB_rep hb i2]
    ·have a5 : 0 < p.es.length := by omega
     simp -dsimp [a1, a2, a3, a4, a5, show validLen 0 = false from rfl]
     refine Fin.of ?_
     simp
     exact planB_base (by simp [baseB, a1, a2, a3, a4, show validLen 0 = false from rfl])
   ·simp -dsimp [a1, a2, a3]
    refine Fin.of ?_
    simp
    exact planB_base (by simp [baseB, a1, a2, a3])
  ·by_cases a6 : p.es.length ≤ 24
   ·have a7 : ¬ (24 : Int) < p.es.length := by omega
    have hb : baseB p = true := by simp [baseB, a1, a2, a6]
    simp -dsimp [a1, a2, a7]
    refine ALoop.of [] (fun k => k==0||k==1||k==2||k==3||k==4||k==5||k==32||k==37||k==70) (ι := { i : Nat // i ≤ p.es.length ∧ ∀ a, a < i → edB p.es a = true })
     (fun z => [(Pl.s 0, It.v (.agg [TV.d (.int .i64 p.subd), TV.d (.int .i64 p.len), TV.d (.sl (eds p.es))])), (Pl.o 1, It.box [TV.d (.int .i64 p.subd), TV.d (.int .i64 p.len), TV.d (.sl (eds p.es))]),
      (Pl.s 1, It.v (.ptr (Pl.o 1) 0)), (Pl.s 2, It.v (.d (.bool false))), (Pl.s 3, It.v (.oref 3 z.1)), (Pl.o 3, .row 3 1 (dd ((p.es.take z.1).map fun e => [.int .i64 e.r])) false), (Pl.s 4, It.v (.d (.int .i64 z.1)))])
     (fun z => p.es.length - z.1) ⟨0, by omega, fun a h => by omega⟩ ?_ ?_
    ·exact GS.own' (k := 3) 3 1 (by simp) (by simp) (by simp [a1, a2])
    ·rintro ⟨i, i1, i2⟩
     by_cases hi : i < p.es.length
     ·obtain ⟨x, hx⟩ : ∃ x, p.es[i]? = some x := ⟨p.es[i], List.getElem?_eq_getElem hi⟩
      have gx : gid p.es i = x.id ∧ grt p.es i = x.r := by simp [gid, grt, List.getD, hx]
      simp -dsimp [hi, eds_get' hx, Ed.cs]
      refine ACall.of (inside10_c x.id 1 256) [] 0 ?_
      rcases (Bool.eq_false_or_eq_true (inB x.id 1 256)).symm with b1 | b1
      ·simp -dsimp [b1]
       refine ⟨?_, ⟨by kernel_rfl⟩⟩
       refine Fin.of ?_
       simp
       exact planB_ed hi (by simp [edB, gx, b1])
      ·simp -dsimp [b1]
       refine ACall.of (inside10_c x.r 1 99) [] 0 ?_
       rcases (Bool.eq_false_or_eq_true (inB x.r 1 99)).symm with b2 | b2
       ·simp -dsimp [b1, b2]
        refine ⟨?_, ⟨by kernel_rfl⟩⟩
        refine Fin.of ?_
        simp
        exact planB_ed hi (by simp [edB, gx, b1, b2])
       ·by_cases b3 : 0 < i
        ·obtain ⟨y, hy⟩ : ∃ y, p.es[i - 1]? = some y := ⟨p.es[i - 1], List.getElem?_eq_getElem (by omega)⟩
         have gy : gid p.es (i - 1) = y.id := by simp [gid, List.getD, hy]
         have b5 : (1 : Int) ≤ i := by omega
         have b6 : (i : Int) - 1 < p.es.length := by omega
         have b7 : i ≠ 0 := by omega
         by_cases b4 : x.id ≤ y.id
         ·simp -dsimp [b1, b2, b3, b4, b5, b6, eds_get hy, Ed.cs, wrap_i64 (n := (i : Int) - 1) (by omega) (by omega)]
          refine ⟨?_, ⟨by kernel_rfl⟩⟩
          refine Fin.of ?_
          simp
          exact planB_ed hi (by simp [edB, gx, gy, b1, b2, b7] <;> omega)
         ·simp -dsimp [b1, b2, b3, b4, b5, b6, eds_get hy, Ed.cs, wrap_i64 (n := (i : Int) - 1) (by omega) (by omega), wrap_i64 (n := (i : Int) + 1) (by omega) (by omega)]
          and_intros
          all_goals try first | omega | exact ⟨by kernel_rfl⟩
          exact ⟨⟨i + 1, by omega, fun a ha => by
           by_cases e : a = i
           ·subst e; simp [edB, gx, gy, b1, b2] <;> omega
           ·exact i2 a (by omega)⟩, GS.to (by simp [List.take_add_one, hx]), by simp; omega⟩
        ·obtain rfl : i = 0 := by omega
         simp -dsimp [b1, b2, wrap_i64 (n := 1) (by omega) (by omega)]
         and_intros
         all_goals try first | omega | exact ⟨by kernel_rfl⟩
         exact ⟨⟨1, by omega, fun a ha => by
          obtain rfl : a = 0 := by omega
          simp [edB, gx, b1, b2]⟩, GS.to (by simp [List.take_add_one, hx]), by simp; omega⟩
     ·obtain rfl : i = p.es.length := by omega
      simp -dsimp [hi]
      refine ACall.of (repeats_c (p.es.map (·.r)) (by simp; omega)) [] 0 ?_
      simp -dsimp [ints, List.map_map, Function.comp_def]
      refine Fin.of ?_
      simp [planB_rep hb i2]
   ·have a7 : (24 : Int) < p.es.length := by omega
    simp -dsimp [a1, a2, a7]
    refine Fin.of ?_
    simp
    exact planB_base (by simp [baseB, a1, a2, a6])
def plSet (id len : Int) : Int := if validLen len && inB id 1 256 then (id - 1) / len else 0
def plBit (id len : Int) : Int := if validLen len && inB id 1 256 then (id - 1) % len else 0
theorem plB (id len : Int) : 0 ≤ plSet id len ∧ plSet id len ≤ 255 ∧ 0 ≤ plBit id len ∧ plBit id len < 64 := by
 unfold plSet plBit
 split
 ·rename_i h
  simp [validLen, inB] at h
  obtain ⟨((h | h) | h) | h, h1, h2⟩ := h <;> subst h <;> omega
 ·omega
def placeT (id len : Int) : TV := .tup [.d (.int .i64 (plSet id len)), .d (.int .i64 (plBit id len)), .d (.bool (validLen len && inB id 1 256))]
theorem place10_c (id len : Int) : Contract Tryz.prog 23 [.d (.int .i64 id), .d (.int .i64 len)] [] (placeT id len) [] [] := by
 refine contract_of Tryz.func23 rfl (fun E0 => ?_)
 refine awp.sound (g := .mk) (ow := []) (kp := (fun k => k==0||k==1||k==4||k==5||k==6||k==14)) ?_
 rw [Tryz.ntmps23]
 simp -dsimp
 refine ACall.of (validLength_c len) [] 0 ?_
 rcases (Bool.eq_false_or_eq_true (validLen len)).symm with a1 | a1
 ·simp -dsimp [a1]
  refine Fin.of ?_
  simp [placeT, plSet, plBit, a1]
 ·have hl : len = 8 ∨ len = 16 ∨ len = 32 ∨ len = 64 := by simp [validLen] at a1; omega
  simp -dsimp [a1]
  refine ACall.of (inside10_c id 1 256) [] 0 ?_
  rcases (Bool.eq_false_or_eq_true (inB id 1 256)).symm with a2 | a2
  ·simp -dsimp [a1, a2]
   refine Fin.of ?_
   simp [placeT, plSet, plBit, a1, a2]
  ·have hi : 1 ≤ id ∧ id ≤ 256 := by simpa [inB] using a2
   have e1 : (id - 1).tdiv len = (id - 1) / len := Int.tdiv_eq_ediv_of_nonneg (by omega)
   have e2 : (id - 1).tmod len = (id - 1) % len := Int.tmod_eq_emod_of_nonneg (by omega)
   have d1 : 0 ≤ (id - 1) / len ∧ (id - 1) / len ≤ 255 := by rcases hl with rfl | rfl | rfl | rfl <;> omega
   simp -dsimp [a1, a2, e1, e2, wrap_i64 (n := id - 1) (by omega) (by omega), wrap_i64 (n := (id - 1) / len) (by omega) (by omega)]
   refine ⟨by omega, ?_, ⟨by kernel_rfl⟩⟩
   refine Fin.of ?_
   simp [placeT, plSet, plBit, a1, a2]
theorem place10_c2 (id len : Int) : Contract Tryz.prog 78 [.d (.int .i64 id), .d (.int .i64 len)] [] (placeT id len) [] [] := by
 refine contract_of Tryz.func78 rfl (fun E0 => ?_)
 refine awp.sound (g := .mk) (ow := []) (kp := (fun k => k==0||k==1||k==4||k==5||k==6||k==14)) ?_
 rw [Tryz.ntmps78]
 simp -dsimp
 refine ACall.of (validLength_c2 len) [] 0 ?_
 rcases (Bool.eq_false_or_eq_true (validLen len)).symm with a1 | a1
 ·simp -dsimp [a1]
  refine Fin.of ?_
  simp [placeT, plSet, plBit, a1]
 ·have hl : len = 8 ∨ len = 16 ∨ len = 32 ∨ len = 64 := by simp [validLen] at a1; omega
  simp -dsimp [a1]
  refine ACall.of (in10_c id 1 256) [] 0 ?_
  rcases (Bool.eq_false_or_eq_true (inB id 1 256)).symm with a2 | a2
  ·simp -dsimp [a1, a2]
   refine Fin.of ?_
   simp [placeT, plSet, plBit, a1, a2]
  ·have hi : 1 ≤ id ∧ id ≤ 256 := by simpa [inB] using a2
   have e1 : (id - 1).tdiv len = (id - 1) / len := Int.tdiv_eq_ediv_of_nonneg (by omega)
   have e2 : (id - 1).tmod len = (id - 1) % len := Int.tmod_eq_emod_of_nonneg (by omega)
   have d1 : 0 ≤ (id - 1) / len ∧ (id - 1) / len ≤ 255 := by rcases hl with rfl | rfl | rfl | rfl <;> omega
   simp -dsimp [a1, a2, e1, e2, wrap_i64 (n := id - 1) (by omega) (by omega), wrap_i64 (n := (id - 1) / len) (by omega) (by omega)]
   refine ⟨by omega, ?_, ⟨by kernel_rfl⟩⟩
   refine Fin.of ?_
   simp [placeT, plSet, plBit, a1, a2]
structure Sb where
 set : Int
 bits : BitVec 64
def Sb.cs (x : Sb) : List D := [.int .i64 x.set, bv x.bits]
def intRows (l : List Int) : List (List D) := l.map fun n => [.int .i64 n]
@[simp] theorem intRows_len (l : List Int) : (intRows l).length = l.length := by simp [intRows]
def idxR {α : Type} (q : α → Bool) (l : List α) : Int := match l.findIdx? q with | some i => i | none => -1
theorem idx_any {α : Type} (q : α → Bool) (l : List α) : decide (0 ≤ idxR q l) = l.any q := by
 unfold idxR
 cases h : l.findIdx? q with
 | none =>
   have := List.findIdx?_eq_none_iff.1 h
   simp
   intro x hx
   exact this x hx
 | some i =>
   have := List.findIdx?_eq_some_iff_getElem.1 h
   obtain ⟨hi, h1, _⟩ := this
   simp
   exact ⟨_, List.getElem_mem hi, h1⟩
theorem idx_at {α : Type} {q : α → Bool} {l : List α} {i : Nat} {x : α} (hx : l[i]? = some x) (hq : q x = true) (h : ∀ a, a < i → ∀ y, l[a]? = some y → q y = false) : idxR q l = i := by
 unfold idxR
 obtain ⟨hi, rfl⟩ := List.getElem?_eq_some_iff.1 hx
 have : l.findIdx? q = some i := by
  rw [List.findIdx?_eq_some_iff_getElem]
  exact ⟨hi, hq, fun j hj => by have := h j hj _ (List.getElem?_eq_getElem (by omega)); simp [this]⟩
 rw [this]
theorem idx_no {α : Type} {q : α → Bool} {l : List α} (h : ∀ a, a < l.length → ∀ y, l[a]? = some y → q y = false) : idxR q l = -1 := by
 unfold idxR
 have : l.findIdx? q = none := by
  rw [List.findIdx?_eq_none_iff]
  intro x hx
  obtain ⟨i, hi⟩ := List.getElem?_of_mem hx
  exact h i (List.getElem?_eq_some_iff.1 hi).1 x hi
 rw [this]
theorem shl_bit {k : Int} (h : 0 ≤ k ∧ k < 64) : (1#64 <<< k.toNat) = bitB k := by
 rw [bitB, if_neg (by omega)]
 have : IntKind.u64.wrap k = k := by rw [wrap_emod]; omega
 rw [this]
def Pk.with (q : Pk) (p : Pn) (s : Sb) : Pk := ⟨q.mode, p.subd, s.set, p.len, q.ttl, q.ent, q.ing, q.proto, s.bits, q.pay⟩
def e0 : ByteArray := ⟨#[]⟩
theorem gTopA_ok (cost tree : Int) (skip : Bool) (b : Int) : ∀ (n : Nat) (a : Int) (T : Tp) (l : List Lk), TapeOK (gTopA cost tree skip b n a T l).2 = TapeOK T
 | 0, _, _, _ => rfl
 | n + 1, a, T, l => by rw [gTopA, gTopA_ok cost tree skip b n, gTopS_ok]
theorem gTopB_ok (cost : Int) : ∀ (n : Nat) (b : Int) (T : Tp) (l : List Lk), TapeOK (gTopB cost n b T l).2 = TapeOK T
 | 0, _, _, _ => rfl
 | n + 1, b, T, l => by
   rw [gTopB, gTopB_ok cost n]
   simp only [gTopR]
   rw [gTopA_ok]; simp
@[simp] theorem gTop_ok (T : Tp) (most : Int) : TapeOK (gTop T most).2 = TapeOK T := by
 simp only [gTop]; rw [gTopB_ok]; simp
@[simp] theorem gWild_ok (T : Tp) : TapeOK (gWild T).2 = TapeOK T := by simp [gWild]
@[simp] theorem gPk0_ok (T : Tp) : TapeOK (gPk0 T).2 = TapeOK T := by simp [gPk0]
@[simp] theorem gPacket_ok (T : Tp) (n : Int) : TapeOK (gPacket T n).2 = TapeOK T := by
 unfold gPacket
 split
 ·split
  ·unfold gSpoilP
   simp only
   repeat' split
   all_goals simp
  ·simp
 ·simp
theorem inside11_c (n lo hi : Int) : Contract Tryz.prog 134 [.d (.int .i64 n), .d (.int .i64 lo), .d (.int .i64 hi)] [] (.d (.bool (inB n lo hi))) [] [] := by
 refine contract_of Tryz.func134 rfl (fun E0 => ?_)
 refine awp.sound (g := .mk) (ow := []) (kp := (fun k => k==0||k==1||k==2||k==6)) ?_
 rw [Tryz.ntmps134]
 by_cases h : lo ≤ n
 ·simp -dsimp [h]
  refine Fin.of ?_
  simp [inB, h]
 ·simp -dsimp [h]
  refine Fin.of ?_
  simp [inB, h]
theorem in11_c (n lo hi : Int) : Contract Tryz.prog 152 [.d (.int .i64 n), .d (.int .i64 lo), .d (.int .i64 hi)] [] (.d (.bool (inB n lo hi))) [] [] := by
 refine contract_of Tryz.func152 rfl (fun E0 => ?_)
 refine awp.sound (g := .mk) (ow := []) (kp := (fun k => k==0||k==1||k==2||k==6)) ?_
 rw [Tryz.ntmps152]
 by_cases h : lo ≤ n
 ·simp -dsimp [h]
  refine Fin.of ?_
  simp [inB, h]
 ·simp -dsimp [h]
  refine Fin.of ?_
  simp [inB, h]
def atB (set bit len : Int) : Bool := validLen len && (inB bit 0 (len - 1) && (inB set 0 31 && decide (set * len + bit + 1 ≤ 256)))
def atT (set bit len : Int) : TV := .tup [.d (.int .i64 (if atB set bit len then set * len + bit + 1 else 0)), .d (.bool (atB set bit len))]
theorem at10_c (set bit len : Int) : Contract Tryz.prog 87 [.d (.int .i64 set), .d (.int .i64 bit), .d (.int .i64 len)] [] (atT set bit len) [] [] := by
 refine contract_of Tryz.func87 rfl (fun E0 => ?_)
 refine awp.sound (g := .mk) (ow := []) (kp := (fun k => k==0||k==1||k==2||k==6||k==7||k==8||k==23||k==31)) ?_
 rw [Tryz.ntmps87]
 simp -dsimp
 refine ACall.of (validLength_c len) [] 0 ?_
 rcases (Bool.eq_false_or_eq_true (validLen len)).symm with a1 | a1
 ·simp -dsimp [a1]
  try refine ⟨?_, ⟨by kernel_rfl⟩⟩
  refine Fin.of ?_
  simp [atT, atB, a1]
 ·have hl : len = 8 ∨ len = 16 ∨ len = 32 ∨ len = 64 := by simp [validLen] at a1; omega
  simp -dsimp [a1, wrap_i64 (n := len - 1) (by omega) (by omega)]
  refine ACall.of (inside10_c bit 0 (len - 1)) [] 0 ?_
  rcases (Bool.eq_false_or_eq_true (inB bit 0 (len - 1))).symm with a2 | a2
  ·simp -dsimp [a1, a2]
   try refine ⟨?_, ⟨by kernel_rfl⟩⟩
   refine Fin.of ?_
   simp [atT, atB, a1, a2]
  ·simp -dsimp [a1, a2]
   refine ACall.of (inside10_c set 0 31) [] 0 ?_
   rcases (Bool.eq_false_or_eq_true (inB set 0 31)).symm with a3 | a3
   ·simp -dsimp [a1, a2, a3]
    try refine ⟨?_, ⟨by kernel_rfl⟩⟩
    refine Fin.of ?_
    simp [atT, atB, a1, a2, a3]
   ·have b2 : 0 ≤ bit ∧ bit ≤ len - 1 := by simpa [inB] using a2
    have b3 : 0 ≤ set ∧ set ≤ 31 := by simpa [inB] using a3
    have b4 : 0 ≤ set * len ∧ set * len ≤ 1984 := by rcases hl with rfl | rfl | rfl | rfl <;> omega
    by_cases a4 : set * len + bit + 1 ≤ 256
    ·have a5 : ¬ 256 < set * len + bit + 1 := by omega
     simp -dsimp [a1, a2, a3, a4, a5, wrap_i64 (n := set * len) (by omega) (by omega), wrap_i64 (n := set * len + bit) (by omega) (by omega), wrap_i64 (n := set * len + bit + 1) (by omega) (by omega)]
     try refine ⟨?_, ⟨by kernel_rfl⟩⟩
     refine Fin.of ?_
     simp [atT, atB, a1, a2, a3, a4]
    ·have a5 : 256 < set * len + bit + 1 := by omega
     simp -dsimp [a1, a2, a3, a4, a5, wrap_i64 (n := set * len) (by omega) (by omega), wrap_i64 (n := set * len + bit) (by omega) (by omega), wrap_i64 (n := set * len + bit + 1) (by omega) (by omega)]
     try refine ⟨?_, ⟨by kernel_rfl⟩⟩
     refine Fin.of ?_
     simp [atT, atB, a1, a2, a3, a4]
end Go.Proofs

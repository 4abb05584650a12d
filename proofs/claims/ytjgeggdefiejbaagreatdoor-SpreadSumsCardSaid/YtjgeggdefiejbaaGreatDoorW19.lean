/-
  What functions of the program compute, stated as contracts over plain data; the conditions of each stand in its own statement.
-/
import Derived.Test.YtjgeggdefiejbaaGreatDoorW18
set_option linter.unusedSimpArgs false
set_option maxRecDepth 100000
set_option maxHeartbeats 2000000
namespace Go.Proofs
open Go Go.Tr
def insB (n m : Int) : Bool := decide (0 ≤ n) && decide (n ≤ m)
theorem inside_c (n m : Int) : Contract Tryz.prog 188 [.d (.int .i64 n), .d (.int .i64 m)] [] (.d (.bool (insB n m))) [] [] := by
 refine contract_of Tryz.func188 rfl (fun E0 => ?_)
 refine awp.sound (g := .mk) (ow := []) (kp := (fun k => k==0||k==1||k==4)) ?_
 rw [Tryz.ntmps188]
 by_cases h : 0 ≤ n
 ·simp -dsimp [h]
  refine Fin.of ?_
  simp [insB, h]
 ·simp -dsimp [h]
  refine Fin.of ?_
  simp [insB, h]
theorem in_c (n m : Int) : Contract Tryz.prog 159 [.d (.int .i64 n), .d (.int .i64 m)] [] (.d (.bool (insB n m))) [] [] := by
 refine contract_of Tryz.func159 rfl (fun E0 => ?_)
 refine awp.sound (g := .mk) (ow := []) (kp := (fun k => k==0||k==1||k==4)) ?_
 rw [Tryz.ntmps159]
 by_cases h : 0 ≤ n
 ·simp -dsimp [h]
  refine Fin.of ?_
  simp [insB, h]
 ·simp -dsimp [h]
  refine Fin.of ?_
  simp [insB, h]
def validB (b : BitVec 64) (n : Int) : Bool := validLen n && decide (b &&& ~~~ fullB n = 0#64)
theorem validB_c (b : BitVec 64) (n : Int) : Contract Tryz.prog 189 [.d (bv b), .d (.int .i64 n)] [] (.d (.bool (validB b n))) [] [] := by
 refine contract_of Tryz.func189 rfl (fun E0 => ?_)
 refine awp.sound (g := .mk) (ow := []) (kp := (fun k => k==0||k==1||k==4)) ?_
 rw [Tryz.ntmps189]
 simp -dsimp [bv]
 refine ACall.of (validLength_c n) [] 0 ?_
 cases h : validLen n
 ·simp -dsimp [h, bv]
  refine Fin.of ?_
  simp [validB, h]
 ·simp -dsimp [h, bv]
  refine ACall.of (full_c n) [] 0 ?_
  simp -dsimp [h, bv]
  refine Fin.of ?_
  simp [validB, h]
theorem full_c2 (n : Int) : Contract Tryz.prog 198 [.d (.int .i64 n)] [] (.d (bv (fullB n))) [] [] := by
 refine contract_of Tryz.func198 rfl (fun E0 => ?_)
 refine awp.sound (g := .mk) (ow := []) (kp := (fun k => k==0||k==2||k==5)) ?_
 rw [Tryz.ntmps198]
 simp -dsimp [bv]
 refine ACall.of (validLength_c2 n) [] 0 ?_
 cases h : validLen n
 ·simp -dsimp [h, bv]
  refine Fin.of ?_
  simp [fullB, h]
 ·have hk : n = 8 ∨ n = 16 ∨ n = 32 ∨ n = 64 := by simp [validLen] at h; omega
  simp -dsimp [h, bv, wrap_i64 (n := 64 - n) (by omega) (by omega)]
  refine ⟨by omega, ?_⟩
  refine Fin.of ?_
  simp [fullB, h]
  rcases hk with rfl | rfl | rfl | rfl <;> decide
theorem validB_c2 (b : BitVec 64) (n : Int) : Contract Tryz.prog 160 [.d (bv b), .d (.int .i64 n)] [] (.d (.bool (validB b n))) [] [] := by
 refine contract_of Tryz.func160 rfl (fun E0 => ?_)
 refine awp.sound (g := .mk) (ow := []) (kp := (fun k => k==0||k==1||k==4)) ?_
 rw [Tryz.ntmps160]
 simp -dsimp [bv]
 refine ACall.of (validLength_c2 n) [] 0 ?_
 cases h : validLen n
 ·simp -dsimp [h, bv]
  refine Fin.of ?_
  simp [validB, h]
 ·simp -dsimp [h, bv]
  refine ACall.of (full_c2 n) [] 0 ?_
  simp -dsimp [h, bv]
  refine Fin.of ?_
  simp [validB, h]
def Pk.ok (p : Pk) : Bool := decide (1 ≤ p.mode) && (decide (p.mode ≤ 3) && (insB p.subd 7 && (insB p.set 31 && (validB p.bits p.len && (insB p.ttl 63 && (insB p.ent 1023 && (insB p.ing 256 && (insB p.proto 7 && decide (p.pay.size ≤ 64)))))))))
theorem valid_c (p : Pk) : Contract Tryz.prog 143 [pkT p] [] (.d (.bool p.ok)) [] [] := by
 refine contract_of Tryz.func143 rfl (fun E0 => ?_)
 refine awp.sound (g := .mk) (ow := []) (kp := (fun k => k==0||k==1||k==2)) ?_
 rw [Tryz.ntmps143]
 by_cases c1 : 1 ≤ p.mode
 rotate_left
 ·simp -dsimp [pkT, Pk.cs, c1]
  try refine ⟨?_, ⟨by kernel_rfl⟩⟩
  refine Fin.of ?_
  simp [Pk.ok, c1]
 by_cases c2 : p.mode ≤ 3
 rotate_left
 ·simp -dsimp [pkT, Pk.cs, c1, c2]
  try refine ⟨?_, ⟨by kernel_rfl⟩⟩
  refine Fin.of ?_
  simp [Pk.ok, c1, c2]
 simp -dsimp [pkT, Pk.cs, c1, c2]
 refine ACall.of (inside_c p.subd 7) [] 0 ?_
 cases d0 : insB p.subd 7
 ·simp -dsimp [pkT, Pk.cs, c1, c2, d0]
  try refine ⟨?_, ⟨by kernel_rfl⟩⟩
  refine Fin.of ?_
  simp [Pk.ok, c1, c2, d0]
 simp -dsimp [pkT, Pk.cs, c1, c2, d0]
 refine ACall.of (inside_c p.set 31) [] 0 ?_
 cases d1 : insB p.set 31
 ·simp -dsimp [pkT, Pk.cs, c1, c2, d0, d1]
  try refine ⟨?_, ⟨by kernel_rfl⟩⟩
  refine Fin.of ?_
  simp [Pk.ok, c1, c2, d0, d1]
 simp -dsimp [pkT, Pk.cs, c1, c2, d0, d1]
 refine ACall.of (validB_c p.bits p.len) [] 0 ?_
 cases d2 : validB p.bits p.len
 ·simp -dsimp [pkT, Pk.cs, c1, c2, d0, d1, d2]
  try refine ⟨?_, ⟨by kernel_rfl⟩⟩
  refine Fin.of ?_
  simp [Pk.ok, c1, c2, d0, d1, d2]
 simp -dsimp [pkT, Pk.cs, c1, c2, d0, d1, d2]
 refine ACall.of (inside_c p.ttl 63) [] 0 ?_
 cases d3 : insB p.ttl 63
 ·simp -dsimp [pkT, Pk.cs, c1, c2, d0, d1, d2, d3]
  try refine ⟨?_, ⟨by kernel_rfl⟩⟩
  refine Fin.of ?_
  simp [Pk.ok, c1, c2, d0, d1, d2, d3]
 simp -dsimp [pkT, Pk.cs, c1, c2, d0, d1, d2, d3]
 refine ACall.of (inside_c p.ent 1023) [] 0 ?_
 cases d4 : insB p.ent 1023
 ·simp -dsimp [pkT, Pk.cs, c1, c2, d0, d1, d2, d3, d4]
  try refine ⟨?_, ⟨by kernel_rfl⟩⟩
  refine Fin.of ?_
  simp [Pk.ok, c1, c2, d0, d1, d2, d3, d4]
 simp -dsimp [pkT, Pk.cs, c1, c2, d0, d1, d2, d3, d4]
 refine ACall.of (inside_c p.ing 256) [] 0 ?_
 cases d5 : insB p.ing 256
 ·simp -dsimp [pkT, Pk.cs, c1, c2, d0, d1, d2, d3, d4, d5]
  try refine ⟨?_, ⟨by kernel_rfl⟩⟩
  refine Fin.of ?_
  simp [Pk.ok, c1, c2, d0, d1, d2, d3, d4, d5]
 simp -dsimp [pkT, Pk.cs, c1, c2, d0, d1, d2, d3, d4, d5]
 refine ACall.of (inside_c p.proto 7) [] 0 ?_
 cases d6 : insB p.proto 7
 ·simp -dsimp [pkT, Pk.cs, c1, c2, d0, d1, d2, d3, d4, d5, d6]
  try refine ⟨?_, ⟨by kernel_rfl⟩⟩
  refine Fin.of ?_
  simp [Pk.ok, c1, c2, d0, d1, d2, d3, d4, d5, d6]
 simp -dsimp [pkT, Pk.cs, c1, c2, d0, d1, d2, d3, d4, d5, d6]
 try refine ⟨?_, ⟨by kernel_rfl⟩⟩
 refine Fin.of ?_
 simp [Pk.ok, c1, c2, d0, d1, d2, d3, d4, d5, d6]
 omega
theorem valid_c2 (p : Pk) : Contract Tryz.prog 128 [pkT p] [] (.d (.bool p.ok)) [] [] := by
 refine contract_of Tryz.func128 rfl (fun E0 => ?_)
 refine awp.sound (g := .mk) (ow := []) (kp := (fun k => k==0||k==1||k==2)) ?_
 rw [Tryz.ntmps128]
 by_cases c1 : 1 ≤ p.mode
 rotate_left
 ·simp -dsimp [pkT, Pk.cs, c1]
  try refine ⟨?_, ⟨by kernel_rfl⟩⟩
  refine Fin.of ?_
  simp [Pk.ok, c1]
 by_cases c2 : p.mode ≤ 3
 rotate_left
 ·simp -dsimp [pkT, Pk.cs, c1, c2]
  try refine ⟨?_, ⟨by kernel_rfl⟩⟩
  refine Fin.of ?_
  simp [Pk.ok, c1, c2]
 simp -dsimp [pkT, Pk.cs, c1, c2]
 refine ACall.of (in_c p.subd 7) [] 0 ?_
 cases d0 : insB p.subd 7
 ·simp -dsimp [pkT, Pk.cs, c1, c2, d0]
  try refine ⟨?_, ⟨by kernel_rfl⟩⟩
  refine Fin.of ?_
  simp [Pk.ok, c1, c2, d0]
 simp -dsimp [pkT, Pk.cs, c1, c2, d0]
 refine ACall.of (in_c p.set 31) [] 0 ?_
 cases d1 : insB p.set 31
 ·simp -dsimp [pkT, Pk.cs, c1, c2, d0, d1]
  try refine ⟨?_, ⟨by kernel_rfl⟩⟩
  refine Fin.of ?_
  simp [Pk.ok, c1, c2, d0, d1]
 simp -dsimp [pkT, Pk.cs, c1, c2, d0, d1]
 refine ACall.of (validB_c2 p.bits p.len) [] 0 ?_
 cases d2 : validB p.bits p.len
 ·simp -dsimp [pkT, Pk.cs, c1, c2, d0, d1, d2]
  try refine ⟨?_, ⟨by kernel_rfl⟩⟩
  refine Fin.of ?_
  simp [Pk.ok, c1, c2, d0, d1, d2]
 simp -dsimp [pkT, Pk.cs, c1, c2, d0, d1, d2]
 refine ACall.of (in_c p.ttl 63) [] 0 ?_
 cases d3 : insB p.ttl 63
 ·simp -dsimp [pkT, Pk.cs, c1, c2, d0, d1, d2, d3]
  try refine ⟨?_, ⟨by kernel_rfl⟩⟩
  refine Fin.of ?_
  simp [Pk.ok, c1, c2, d0, d1, d2, d3]
 simp -dsimp [pkT, Pk.cs, c1, c2, d0, d1, d2, d3]
 refine ACall.of (in_c p.ent 1023) [] 0 ?_
 cases d4 : insB p.ent 1023
 ·simp -dsimp [pkT, Pk.cs, c1, c2, d0, d1, d2, d3, d4]
  try refine ⟨?_, ⟨by kernel_rfl⟩⟩
  refine Fin.of ?_
  simp [Pk.ok, c1, c2, d0, d1, d2, d3, d4]
 simp -dsimp [pkT, Pk.cs, c1, c2, d0, d1, d2, d3, d4]
 refine ACall.of (in_c p.ing 256) [] 0 ?_
 cases d5 : insB p.ing 256
 ·simp -dsimp [pkT, Pk.cs, c1, c2, d0, d1, d2, d3, d4, d5]
  try refine ⟨?_, ⟨by kernel_rfl⟩⟩
  refine Fin.of ?_
  simp [Pk.ok, c1, c2, d0, d1, d2, d3, d4, d5]
 simp -dsimp [pkT, Pk.cs, c1, c2, d0, d1, d2, d3, d4, d5]
 refine ACall.of (in_c p.proto 7) [] 0 ?_
 cases d6 : insB p.proto 7
 ·simp -dsimp [pkT, Pk.cs, c1, c2, d0, d1, d2, d3, d4, d5, d6]
  try refine ⟨?_, ⟨by kernel_rfl⟩⟩
  refine Fin.of ?_
  simp [Pk.ok, c1, c2, d0, d1, d2, d3, d4, d5, d6]
 simp -dsimp [pkT, Pk.cs, c1, c2, d0, d1, d2, d3, d4, d5, d6]
 try refine ⟨?_, ⟨by kernel_rfl⟩⟩
 refine Fin.of ?_
 simp [Pk.ok, c1, c2, d0, d1, d2, d3, d4, d5, d6]
 omega
structure Rt where
 id : Int
 cap : Bool
def Rt.cs (x : Rt) : List D := [.int .i64 x.id, .bool x.cap]
def rts (l : List Rt) : List (List D) := l.map Rt.cs
@[simp] theorem rts_len (l : List Rt) : (rts l).length = l.length := by simp [rts]
def gRts (k : Nat) : List Rt := (List.range k).map fun (i : Nat) => ⟨(i : Int) + 1, true⟩
@[simp] theorem gRts_len (k : Nat) : (gRts k).length = k := by simp [gRts]
def gTopS (cost tree : Int) (skip : Bool) (b a : Int) (T : Tp) (l : List Lk) : List Lk × Tp :=
 let c := if decide (a = tree) && !skip then (true, T) else gOne T 3
 if c.1 then
  let x := gRange c.2 1 cost
  let y := gRange x.2 1 cost
  let z := gNext y.2 4
  (l ++ [⟨a, b, x.1, y.1, z.1⟩], z.2)
 else (l, c.2)
def gTopA (cost tree : Int) (skip : Bool) (b : Int) : Nat → Int → Tp → List Lk → List Lk × Tp
 | 0, _, T, l => (l, T)
 | n + 1, a, T, l => gTopA cost tree skip b n (a + 1) (gTopS cost tree skip b a T l).2 (gTopS cost tree skip b a T l).1
def gTopR (cost b : Int) (T : Tp) (l : List Lk) : List Lk × Tp :=
 let t := gRange T 1 (b - 1)
 let s := gOne t.2 9
 gTopA cost t.1 s.1 b (b - 1).toNat 1 s.2 l
def gTopB (cost : Int) : Nat → Int → Tp → List Lk → List Lk × Tp
 | 0, _, T, l => (l, T)
 | n + 1, b, T, l => gTopB cost n (b + 1) (gTopR cost b T l).2 (gTopR cost b T l).1
structure Topo where
 rs : List Rt
 ls : List Lk
def topT (g : Topo) : TV := .agg [.d (.sl (rts g.rs)), .d (.sl (lks g.ls))]
def gTop (T : Tp) (most : Int) : Topo × Tp :=
 let R := gRange T 1 most
 let C := gPick R.2 [1, 2, 2, 5]
 let X := gTopB C.1 (R.1 + 1 - 2).toNat 2 C.2 []
 (⟨gRts R.1.toNat, ordL X.1 []⟩, X.2)
theorem gPick_all {T : Tp} {l : List Int} {p : Int → Prop} (h0 : 0 < l.length) (h : ∀ x ∈ l, p x) : p (gPick T l).1 := by
 unfold gPick
 have h1 := gNext_nonneg T l.length
 have h2 := gNext_lt T (n := l.length) (by omega)
 have h3 : (gNext T l.length).1.toNat < l.length := by omega
 rw [List.getD_eq_getElem?_getD, List.getElem?_eq_getElem h3]
 exact h _ (List.getElem_mem _)
theorem gTopS_ok (cost tree : Int) (skip : Bool) (b a : Int) (T : Tp) (l : List Lk) : TapeOK (gTopS cost tree skip b a T l).2 = TapeOK T := by
 unfold gTopS
 simp only
 split <;> split <;> simp
theorem gTopS_len (cost tree : Int) (skip : Bool) (b a : Int) (T : Tp) (l : List Lk) : (gTopS cost tree skip b a T l).1.length ≤ l.length + 1 := by
 unfold gTopS
 simp only
 split <;> split <;> simp
theorem topo_c (T : Tp) (hT : TapeOK T) (most : Int) (hm : 1 ≤ most ∧ most ≤ 24) : Contract Tryz.prog 90 [.ptr (.x 0) 0, .d (.int .i64 most), .d (.int .i64 0)] [tapeI T] (topT (gTop T most).1) [tapeI (gTop T most).2] [] := by
 have b1 := gRange_lo T 1 most
 have b2 := gRange_hi T (a := 1) (b := most) (by omega)
 refine contract_of Tryz.func90 rfl (fun E0 => ?_)
 refine awp.sound (g := .mk) (ow := []) (kp := (fun k => k==0||k==1||k==2||k==6||k==7||k==8||k==9||k==10||k==11||k==12||k==13||k==14||k==15||k==21||k==36||k==47||k==60||k==87||k==89||k==91||k==101||k==112||k==124||k==129||k==141||k==146||k==158||k==163||k==175||k==180)) ?_
 rw [Tryz.ntmps90]
 simp -dsimp
 refine ACall.of (range_c T hT 1 most ⟨by omega, by omega⟩ ⟨by omega, by omega⟩ ⟨by omega, by omega⟩ ⟨by omega, by omega⟩) [.x 0] 0 ?_
 simp -dsimp
 generalize hR : gRange T 1 most = R at b1 b2 ⊢
 have kR : TapeOK R.2 := by rw [← hR]; simpa using hT
 refine ALoop.of [] (fun k => k==0||k==1||k==2||k==6||k==7||k==8||k==9||k==10||k==11||k==12||k==13||k==14||k==15||k==21||k==36||k==47||k==60||k==87||k==89||k==91||k==101||k==112||k==124||k==129||k==141||k==146||k==158||k==163||k==175||k==180) (ι := { i : Nat // (i : Int) ≤ R.1 }) (fun i => [(Pl.s 0, It.v (.ptr (Pl.x 0) 0)), (Pl.s 1, It.v (.d (.int .i64 most))), (Pl.s 2, It.v (.d (.int .i64 0))), (Pl.x 0, tapeI R.2),
  (Pl.o 6, It.box [TV.c (Value.slice none 0 0), TV.c (Value.slice none 0 0)]), (Pl.s 6, It.v (.ptr (Pl.o 6) 0)), (Pl.o 7, It.box [TV.oref 1000 i.1, TV.c (Value.slice none 0 0)]), (Pl.s 7, It.v (.ptr (Pl.o 7) 0)),
  (Pl.s 8, It.v (.d (.int .i64 R.1))), (Pl.s 9, It.v (.d (.int .i64 (i.1 + 1)))), (Pl.o 1000, .row 52 2 (dd (rts (gRts i.1))) false)]) (fun i => R.1.toNat - i.1) ⟨0, by omega⟩ ?_ ?_
 ·exact GS.ownB' (.o 7) 0 1000 (cs := [TV.c (Value.slice none 0 0), TV.c (Value.slice none 0 0)]) 52 2 (by simp) (by simp) (by simp) (by simp) (by simp [gRts, rts])
 ·rintro ⟨i, hi⟩
  simp -dsimp
  refine AIf.dec (fun h => ?_) (fun h => ?_)
  ·simp -dsimp [wrap_i64 (n := (i : Int) + 1 + 1) (by omega) (by omega)]
   and_intros
   all_goals try omega
   exact ⟨⟨⟨i + 1, by omega⟩, GS.to (by simp [gRts, rts, List.range_succ, Rt.cs]), by simp; omega⟩⟩
  ·have hk : R.1 = i := by omega
   simp -dsimp
   refine ACall.of (pick_c R.2 kR [1, 2, 2, 5] (by simp) (by simp)) [.x 0] 0 ?_
   simp -dsimp [ints]
   generalize hC : gPick R.2 [1, 2, 2, 5] = C
   have kC : TapeOK C.2 := by rw [← hC]; simpa using kR
   have bC : 1 ≤ C.1 ∧ C.1 ≤ 5 := by rw [← hC]; exact gPick_all (p := fun x => 1 ≤ x ∧ x ≤ 5) (by simp) (by simp)
   refine ALoop.of [] (fun k => k==0||k==1||k==2||k==6||k==7||k==8||k==9||k==10||k==11||k==12||k==13||k==14||k==15||k==21||k==36||k==47||k==60||k==87||k==89||k==91||k==101||k==112||k==124||k==129||k==141||k==146||k==158||k==163||k==175||k==180) (ι := { z : Int × Tp × List Lk // 2 ≤ z.1 ∧ z.1 ≤ R.1 + 1 ∧ TapeOK z.2.1 ∧ z.2.2.length ≤ 24 * (z.1.toNat - 2) ∧ gTopB C.1 (R.1 + 1 - 2).toNat 2 C.2 [] = gTopB C.1 (R.1 + 1 - z.1).toNat z.1 z.2.1 z.2.2 })
    (fun z => [(Pl.s 0, It.v (.ptr (Pl.x 0) 0)), (Pl.s 1, It.v (.d (.int .i64 most))), (Pl.s 2, It.v (.d (.int .i64 0))), (Pl.x 0, tapeI z.1.2.1),
     (Pl.o 6, It.box [TV.c (Value.slice none 0 0), TV.c (Value.slice none 0 0)]), (Pl.s 6, It.v (.ptr (Pl.o 6) 0)), (Pl.o 7, It.box [TV.oref 1000 i, TV.oref 1001 z.1.2.2.length]), (Pl.s 7, It.v (.ptr (Pl.o 7) 0)),
     (Pl.s 8, It.v (.d (.int .i64 R.1))), (Pl.o 1000, .row 52 2 (dd (rts (gRts i))) false), (Pl.o 1001, .row 125 5 (dd (lks z.1.2.2)) false),
     (Pl.s 10, It.v (.d (.int .i64 C.1))), (Pl.s 11, It.v (.d (.int .i64 z.1.1)))]) (fun z => (R.1 + 1 - z.1.1).toNat) ⟨(2, C.2, []), by omega, by omega, kC, by simp, rfl⟩ ?_ ?_
   ·exact GS.ownB' (.o 7) 1 1001 (cs := [TV.oref 1000 i, TV.c (Value.slice none 0 0)]) 125 5 (by simp) (by simp) (by simp) (by simp) (by simp [lks])
   ·rintro ⟨⟨b, T0, l0⟩, i1, i2, i3, i4, i5⟩
    simp only at i1 i2 i3 i4 i5
    simp -dsimp
    refine AIf.dec (fun hb => ?_) (fun hb => ?_)
    ·have t1 := gRange_lo T0 1 (b - 1)
     have t2 := gRange_hi T0 (a := 1) (b := b - 1) (by omega)
     simp -dsimp [wrap_i64 (n := b - 1) (by omega) (by omega)]
     refine ACall.of (range_c T0 i3 1 (b - 1) ⟨by omega, by omega⟩ ⟨by omega, by omega⟩ ⟨by omega, by omega⟩ ⟨by omega, by omega⟩) [.x 0] 0 ?_
     simp -dsimp
     generalize ht : gRange T0 1 (b - 1) = t at t1 t2 ⊢
     have kt : TapeOK t.2 := by rw [← ht]; simpa using i3
     refine ACall.of (one_c t.2 kt 9 ⟨by omega, by omega⟩ ⟨by omega, by omega⟩) [.x 0] 0 ?_
     simp -dsimp
     generalize hs : gOne t.2 9 = s
     have ks : TapeOK s.2 := by rw [← hs]; simpa using kt
     refine ALoop.of [] (fun k => k==0||k==1||k==2||k==6||k==7||k==8||k==9||k==10||k==11||k==12||k==13||k==14||k==15||k==21||k==36||k==47||k==60||k==87||k==89||k==91||k==101||k==112||k==124||k==129||k==141||k==146||k==158||k==163||k==175||k==180) (ι := { z : Int × Tp × List Lk // 1 ≤ z.1 ∧ z.1 ≤ b ∧ TapeOK z.2.1 ∧ z.2.2.length ≤ 24 * (b.toNat - 2) + (z.1.toNat - 1) ∧ gTopA C.1 t.1 s.1 b (b - 1).toNat 1 s.2 l0 = gTopA C.1 t.1 s.1 b (b - z.1).toNat z.1 z.2.1 z.2.2 })
      (fun z => [(Pl.s 0, It.v (.ptr (Pl.x 0) 0)), (Pl.s 1, It.v (.d (.int .i64 most))), (Pl.s 2, It.v (.d (.int .i64 0))), (Pl.x 0, tapeI z.1.2.1),
       (Pl.o 6, It.box [TV.c (Value.slice none 0 0), TV.c (Value.slice none 0 0)]), (Pl.s 6, It.v (.ptr (Pl.o 6) 0)), (Pl.o 7, It.box [TV.oref 1000 i, TV.oref 1001 z.1.2.2.length]), (Pl.s 7, It.v (.ptr (Pl.o 7) 0)),
       (Pl.s 8, It.v (.d (.int .i64 R.1))), (Pl.o 1000, .row 52 2 (dd (rts (gRts i))) false), (Pl.o 1001, .row 125 5 (dd (lks z.1.2.2)) false),
       (Pl.s 10, It.v (.d (.int .i64 C.1))), (Pl.s 11, It.v (.d (.int .i64 b))), (Pl.s 12, It.v (.d (.int .i64 t.1))), (Pl.s 13, It.v (.d (.bool s.1))), (Pl.s 14, It.v (.d (.int .i64 z.1.1)))]) (fun z => (b - z.1.1).toNat) ⟨(1, s.2, l0), by omega, by omega, ks, by simpa using i4, rfl⟩ ?_ ?_
     ·exact GS.to (by simp)
     ·rintro ⟨⟨a, T1, l⟩, j1, j2, j3, j4, j5⟩
      simp only at j1 j2 j3 j4 j5
      by_cases hab : a < b
      ·have hab' : decide (a < b) = true := by simpa using hab
       by_cases ha : a = t.1
       ·have ha' : decide (a = t.1) = true := by simpa using ha
        rcases (Bool.eq_false_or_eq_true s.1).symm with hs1 | hs1
        ·simp -dsimp [hab', ha', hs1]
         have x1 := gRange_lo T1 1 C.1
         have x2 := gRange_hi T1 (a := 1) (b := C.1) (by omega)
         refine ACall.of (range_c T1 j3 1 C.1 ⟨by omega, by omega⟩ ⟨by omega, by omega⟩ ⟨by omega, by omega⟩ ⟨by omega, by omega⟩) [.x 0] 0 ?_
         simp -dsimp
         generalize hx : gRange T1 1 C.1 = x at x1 x2 ⊢
         have kx : TapeOK x.2 := by rw [← hx]; simpa using j3
         have y1 := gRange_lo x.2 1 C.1
         have y2 := gRange_hi x.2 (a := 1) (b := C.1) (by omega)
         refine ACall.of (range_c x.2 kx 1 C.1 ⟨by omega, by omega⟩ ⟨by omega, by omega⟩ ⟨by omega, by omega⟩ ⟨by omega, by omega⟩) [.x 0] 0 ?_
         simp -dsimp
         generalize hy : gRange x.2 1 C.1 = y at y1 y2 ⊢
         have ky : TapeOK y.2 := by rw [← hy]; simpa using kx
         refine ACall.of (next_c y.2 ky 4 ⟨by omega, by omega⟩) [.x 0] 0 ?_
         simp -dsimp [wrap_i64 (n := a + 1) (by omega) (by omega)]
         have e : gTopS C.1 t.1 s.1 b a T1 l = (l ++ [⟨a, b, x.1, y.1, (gNext y.2 4).1⟩], (gNext y.2 4).2) := by simp [gTopS, ha', hs1, hx, hy]
         and_intros
         all_goals try first | omega | exact ⟨by kernel_rfl⟩ | (simp; omega)
         exact ⟨⟨(a + 1, (gNext y.2 4).2, l ++ [⟨a, b, x.1, y.1, (gNext y.2 4).1⟩]), by omega, by omega, by simpa using ky, by simp; omega, by rw [j5, show (b - a).toNat = (b - (a + 1)).toNat + 1 by omega, gTopA, e]⟩, GS.to (by simp [lks, Lk.cs, ha', hs1]), by simp; omega⟩
        ·simp -dsimp [hab', ha', hs1]
         refine ACall.of (one_c T1 j3 3 ⟨by omega, by omega⟩ ⟨by omega, by omega⟩) [.x 0] 0 ?_
         generalize ho : gOne T1 3 = o
         have ko : TapeOK o.2 := by rw [← ho]; simpa using j3
         rcases (Bool.eq_false_or_eq_true o.1).symm with ho1 | ho1
         ·simp -dsimp [ho1, wrap_i64 (n := a + 1) (by omega) (by omega)]
          have e : gTopS C.1 t.1 s.1 b a T1 l = (l, o.2) := by simp [gTopS, ha', hs1, ho, ho1]
          and_intros
          all_goals try first | omega | exact ⟨by kernel_rfl⟩ | (simp; omega)
          exact ⟨⟨(a + 1, o.2, l), by omega, by omega, ko, by simp; omega, by rw [j5, show (b - a).toNat = (b - (a + 1)).toNat + 1 by omega, gTopA, e]⟩, GS.to (by simp [ha', hs1]), by simp; omega⟩
         ·simp -dsimp [ho1]
          have x1 := gRange_lo o.2 1 C.1
          have x2 := gRange_hi o.2 (a := 1) (b := C.1) (by omega)
          refine ACall.of (range_c o.2 ko 1 C.1 ⟨by omega, by omega⟩ ⟨by omega, by omega⟩ ⟨by omega, by omega⟩ ⟨by omega, by omega⟩) [.x 0] 0 ?_
          simp -dsimp
          generalize hx : gRange o.2 1 C.1 = x at x1 x2 ⊢
          have kx : TapeOK x.2 := by rw [← hx]; simpa using ko
          have y1 := gRange_lo x.2 1 C.1
          have y2 := gRange_hi x.2 (a := 1) (b := C.1) (by omega)
          refine ACall.of (range_c x.2 kx 1 C.1 ⟨by omega, by omega⟩ ⟨by omega, by omega⟩ ⟨by omega, by omega⟩ ⟨by omega, by omega⟩) [.x 0] 0 ?_
          simp -dsimp
          generalize hy : gRange x.2 1 C.1 = y at y1 y2 ⊢
          have ky : TapeOK y.2 := by rw [← hy]; simpa using kx
          refine ACall.of (next_c y.2 ky 4 ⟨by omega, by omega⟩) [.x 0] 0 ?_
          simp -dsimp [wrap_i64 (n := a + 1) (by omega) (by omega)]
          have e : gTopS C.1 t.1 s.1 b a T1 l = (l ++ [⟨a, b, x.1, y.1, (gNext y.2 4).1⟩], (gNext y.2 4).2) := by simp [gTopS, ha', hs1, ho, ho1, hx, hy]
          and_intros
          all_goals try first | omega | exact ⟨by kernel_rfl⟩ | (simp; omega)
          exact ⟨⟨(a + 1, (gNext y.2 4).2, l ++ [⟨a, b, x.1, y.1, (gNext y.2 4).1⟩]), by omega, by omega, by simpa using ky, by simp; omega, by rw [j5, show (b - a).toNat = (b - (a + 1)).toNat + 1 by omega, gTopA, e]⟩, GS.to (by simp [lks, Lk.cs, ha', hs1, ho, ho1]), by simp; omega⟩
       ·have ha' : decide (a = t.1) = false := by simpa using ha
        simp -dsimp [hab', ha']
        refine ACall.of (one_c T1 j3 3 ⟨by omega, by omega⟩ ⟨by omega, by omega⟩) [.x 0] 0 ?_
        generalize ho : gOne T1 3 = o
        have ko : TapeOK o.2 := by rw [← ho]; simpa using j3
        rcases (Bool.eq_false_or_eq_true o.1).symm with ho1 | ho1
        ·simp -dsimp [ho1, wrap_i64 (n := a + 1) (by omega) (by omega)]
         have e : gTopS C.1 t.1 s.1 b a T1 l = (l, o.2) := by simp [gTopS, ha', ho, ho1]
         and_intros
         all_goals try first | omega | exact ⟨by kernel_rfl⟩ | (simp; omega)
         exact ⟨⟨(a + 1, o.2, l), by omega, by omega, ko, by simp; omega, by rw [j5, show (b - a).toNat = (b - (a + 1)).toNat + 1 by omega, gTopA, e]⟩, GS.to (by simp [ha']), by simp; omega⟩
        ·simp -dsimp [ho1]
         have x1 := gRange_lo o.2 1 C.1
         have x2 := gRange_hi o.2 (a := 1) (b := C.1) (by omega)
         refine ACall.of (range_c o.2 ko 1 C.1 ⟨by omega, by omega⟩ ⟨by omega, by omega⟩ ⟨by omega, by omega⟩ ⟨by omega, by omega⟩) [.x 0] 0 ?_
         simp -dsimp
         generalize hx : gRange o.2 1 C.1 = x at x1 x2 ⊢
         have kx : TapeOK x.2 := by rw [← hx]; simpa using ko
         have y1 := gRange_lo x.2 1 C.1
         have y2 := gRange_hi x.2 (a := 1) (b := C.1) (by omega)
         refine ACall.of (range_c x.2 kx 1 C.1 ⟨by omega, by omega⟩ ⟨by omega, by omega⟩ ⟨by omega, by omega⟩ ⟨by omega, by omega⟩) [.x 0] 0 ?_
         simp -dsimp
         generalize hy : gRange x.2 1 C.1 = y at y1 y2 ⊢
         have ky : TapeOK y.2 := by rw [← hy]; simpa using kx
         refine ACall.of (next_c y.2 ky 4 ⟨by omega, by omega⟩) [.x 0] 0 ?_
         simp -dsimp [wrap_i64 (n := a + 1) (by omega) (by omega)]
         have e : gTopS C.1 t.1 s.1 b a T1 l = (l ++ [⟨a, b, x.1, y.1, (gNext y.2 4).1⟩], (gNext y.2 4).2) := by simp [gTopS, ha', ho, ho1, hx, hy]
         and_intros
         all_goals try first | omega | exact ⟨by kernel_rfl⟩ | (simp; omega)
         exact ⟨⟨(a + 1, (gNext y.2 4).2, l ++ [⟨a, b, x.1, y.1, (gNext y.2 4).1⟩]), by omega, by omega, by simpa using ky, by simp; omega, by rw [j5, show (b - a).toNat = (b - (a + 1)).toNat + 1 by omega, gTopA, e]⟩, GS.to (by simp [lks, Lk.cs, ha', ho, ho1]), by simp; omega⟩
      ·have hab' : decide (a < b) = false := by simpa using hab
       obtain rfl : a = b := by omega
       simp -dsimp [hab', wrap_i64 (n := a + 1) (by omega) (by omega)]
       have e : gTopR C.1 a T0 l0 = (l, T1) := by unfold gTopR; simp only [ht, hs]; rw [j5]; simp [gTopA]
       exact ⟨⟨(a + 1, T1, l), by omega, by omega, j3, by simp; omega, by rw [i5, show (R.1 + 1 - a).toNat = (R.1 + 1 - (a + 1)).toNat + 1 by omega, gTopB, e]⟩, GS.to (by simp), by simp; omega⟩
    ·obtain rfl : b = R.1 + 1 := by omega
     simp -dsimp
     refine ACall.of (ord_c l0 (by omega)) [] 0 ?_
     simp -dsimp
     refine Fin.box (.o 6) rfl ?_
     simp -dsimp
     refine Fin.of ?_
     have hX : gTopB C.1 (R.1 + 1 - 2).toNat 2 C.2 [] = (l0, T0) := by rw [i5]; simp [gTopB]
     simp only [gTop, hR, hC, hX]
     simp [topT, hk]
structure Ed where
 r : Int
 id : Int
def Ed.cs (x : Ed) : List D := [.int .i64 x.r, .int .i64 x.id]
def eds (l : List Ed) : List (List D) := l.map Ed.cs
structure Pn where
 subd : Int
 len : Int
 es : List Ed
def planT (p : Pn) : TV := .agg [.d (.int .i64 p.subd), .d (.int .i64 p.len), .d (.sl (eds p.es))]
@[simp] theorem eds_len (l : List Ed) : (eds l).length = l.length := by simp [eds]
theorem eds_get {l : List Ed} {i : Nat} {x : Ed} (h : l[i]? = some x) : (eds l)[i]? = some x.cs := by simp [eds, h]
theorem eds_get' {l : List Ed} {i : Nat} {x : Ed} (h : l[i]? = some x) (hi : i < (eds l).length) : (eds l)[i] = x.cs := by
 have := eds_get h
 rw [List.getElem?_eq_getElem hi] at this
 simpa using this
theorem rts_get {l : List Rt} {i : Nat} {x : Rt} (h : l[i]? = some x) : (rts l)[i]? = some x.cs := by simp [rts, h]
theorem rts_get' {l : List Rt} {i : Nat} {x : Rt} (h : l[i]? = some x) (hi : i < (rts l).length) : (rts l)[i] = x.cs := by
 have := rts_get h
 rw [List.getElem?_eq_getElem hi] at this
 simpa using this
def gPlanS (rs : List Rt) (len : Int) (x : Int) (T : Tp) (id : Int) (l : List Ed) : List Ed × Int × Tp :=
 let c := gNext T 4
 if c.1 = 0 then (l, id, c.2) else
  let p := gPick c.2 [1, 1, 1, 2, len - 1]
  (if id + p.1 ≤ 256 then l ++ [⟨(rs.getD x.toNat ⟨0, false⟩).id, id + p.1⟩] else l, id + p.1, p.2)
def gPlanL (rs : List Rt) (len : Int) : List Int → Tp → Int → List Ed → List Ed × Int × Tp
 | [], T, id, l => (l, id, T)
 | x :: o, T, id, l => gPlanL rs len o (gPlanS rs len x T id l).2.2 (gPlanS rs len x T id l).2.1 (gPlanS rs len x T id l).1
def gPlan0 (T : Tp) (rs : List Rt) : Pn × Int × Tp :=
 let s := gNext T 3
 let L := gPick s.2 [8, 8, 16, 32, 64]
 let o := gOrder L.2 rs.length
 let X := gPlanL rs L.1 o.1 o.2 0 []
 (⟨s.1, L.1, X.1⟩, X.2)
def gSpoilN (T : Tp) (p : Pn) (id : Int) : Pn × Tp :=
 let s := gNext T 5
 if s.1 = 0 then (⟨(gWild s.2).1, p.len, p.es⟩, (gWild s.2).2)
 else if s.1 = 1 then (⟨p.subd, (gPick s.2 [0, 8, 24, 64, 128]).1, p.es⟩, (gPick s.2 [0, 8, 24, 64, 128]).2)
 else if s.1 = 2 then
  let a := gPick s.2 [0, 1, 99, 100]
  let b := gPick a.2 [0, 1, 256, 257]
  (⟨p.subd, p.len, p.es ++ [⟨a.1, b.1⟩]⟩, b.2)
 else if s.1 = 3 then (match p.es with
  | [] => (p, s.2)
  | e :: l => (⟨p.subd, p.len, ⟨e.r, (gWild s.2).1⟩ :: l⟩, (gWild s.2).2))
 else (⟨p.subd, p.len, p.es ++ [⟨50, id + 1⟩]⟩, s.2)
def gPlan (T : Tp) (rs : List Rt) (n : Int) : Pn × Tp :=
 let X := gPlan0 T rs
 if 0 < n then
  if (gOne X.2.2 n).1 then gSpoilN (gOne X.2.2 n).2 X.1 X.2.1 else (X.1, (gOne X.2.2 n).2)
 else (X.1, X.2.2)
theorem gOrderL_ok : ∀ (n i : Nat) (T : Tp) (l : List Int), TapeOK (gOrderL n i T l).2 = TapeOK T
 | 0, _, _, _ => rfl
 | n + 1, i, T, l => by rw [gOrderL, gOrderL_ok]; simp
@[simp] theorem gOrder_ok (T : Tp) (n : Int) : TapeOK (gOrder T n).2 = TapeOK T := gOrderL_ok _ _ _ _
theorem gOrderL_mem : ∀ (n i : Nat) (T : Tp) (l : List Int), (∀ x ∈ l, 0 ≤ x ∧ x < (i : Int)) → ∀ x ∈ (gOrderL n i T l).1, 0 ≤ x ∧ x < ((i + n : Nat) : Int)
 | 0, _, _, _, h => h
 | n + 1, i, T, l, h => fun x hx => by
   have := gOrderL_mem n (i + 1) _ _ (fun y hy => ?_) x hx
   ·omega
   ·simp only [List.mem_append, List.mem_singleton] at hy
    rcases hy with (hy | hy) | hy
    ·have := h y (List.mem_of_mem_take hy); omega
    ·omega
    ·have := h y (List.mem_of_mem_drop hy); omega
theorem gOrderL_len : ∀ (n i : Nat) (T : Tp) (l : List Int), (gOrderL n i T l).1.length = l.length + n
 | 0, _, _, _ => rfl
 | n + 1, i, T, l => by
   rw [gOrderL, gOrderL_len n]
   simp
   omega
theorem gOrder_mem (T : Tp) (n : Nat) : ∀ x ∈ (gOrder T n).1, 0 ≤ x ∧ x < (n : Int) := fun x hx => by
 have := gOrderL_mem n 0 T [] (by simp) x (by simpa [gOrder] using hx)
 omega
theorem gOrder_len (T : Tp) (n : Nat) : (gOrder T n).1.length = n := by simp [gOrder, gOrderL_len]
theorem plan_c (T : Tp) (hT : TapeOK T) (rs : List Rt) (ls : List Lk) (hr : rs.length ≤ 500) (n : Int) (hn : 0 ≤ n ∧ n ≤ 1000) : Contract Tryz.prog 91 [.ptr (.x 0) 0, .agg [.d (.sl (rts rs)), .d (.sl (lks ls))], .d (.int .i64 n)] [tapeI T] (planT (gPlan T rs n).1) [tapeI (gPlan T rs n).2] [] := by
 refine contract_of Tryz.func91 rfl (fun E0 => ?_)
 refine awp.sound (g := .mk) (ow := []) (kp := (fun k => k==0||k==1||k==2||k==4||k==6||k==7||k==8||k==9||k==10||k==24||k==29||k==39||k==62||k==64||k==73||k==78||k==84||k==98||k==103)) ?_
 rw [Tryz.ntmps91]
 simp -dsimp
 refine ACall.of (next_c T hT 3 ⟨by omega, by omega⟩) [.x 0] 0 ?_
 simp -dsimp
 generalize hs : gNext T 3 = s
 have ks : TapeOK s.2 := by rw [← hs]; simpa using hT
 refine ACall.of (length_c s.2 ks) [.x 0] 0 ?_
 simp -dsimp
 generalize hL : gPick s.2 [8, 8, 16, 32, 64] = L
 have kL : TapeOK L.2 := by rw [← hL]; simpa using ks
 have bL : 8 ≤ L.1 ∧ L.1 ≤ 64 := by rw [← hL]; exact gPick_all (p := fun x => 8 ≤ x ∧ x ≤ 64) (by simp) (by simp)
 refine ACall.of (order_c L.2 kL rs.length (by omega)) [.x 0] 0 ?_
 simp -dsimp
 generalize ho : gOrder L.2 rs.length = o
 have ko : TapeOK o.2 := by rw [← ho]; simpa using kL
 have mo := gOrder_mem L.2 rs.length
 rw [ho] at mo
 have lo := gOrder_len L.2 rs.length
 rw [ho] at lo
 refine ALoop.of [] (fun k => k==0||k==1||k==2||k==4||k==6||k==7||k==8||k==9||k==10||k==24||k==29||k==39||k==62||k==64||k==73||k==78||k==84||k==98||k==103) (ι := { z : Nat × Tp × Int × List Ed // z.1 ≤ o.1.length ∧ TapeOK z.2.1 ∧ 0 ≤ z.2.2.1 ∧ z.2.2.1 ≤ 100 * z.1 ∧ z.2.2.2.length ≤ z.1 ∧ gPlanL rs L.1 o.1 o.2 0 [] = gPlanL rs L.1 (o.1.drop z.1) z.2.1 z.2.2.1 z.2.2.2 })
  (fun z => [(Pl.s 0, It.v (.ptr (Pl.x 0) 0)), (Pl.s 1, It.v (.agg [TV.d (.sl (rts rs)), TV.d (.sl (lks ls))])), (Pl.s 2, It.v (.d (.int .i64 n))), (Pl.x 0, tapeI z.1.2.1),
   (Pl.o 4, It.box [TV.d (.sl (rts rs)), TV.d (.sl (lks ls))]), (Pl.s 4, It.v (.ptr (Pl.o 4) 0)),
   (Pl.o 6, It.box [TV.d (.int .i64 0), TV.d (.int .i64 0), TV.c (Value.slice none 0 0)]), (Pl.s 6, It.v (.ptr (Pl.o 6) 0)),
   (Pl.o 7, It.box [TV.d (.int .i64 s.1), TV.d (.int .i64 L.1), TV.oref 1000 z.1.2.2.2.length]), (Pl.s 7, It.v (.ptr (Pl.o 7) 0)), (Pl.s 8, It.v (.d (.int .i64 z.1.2.2.1))), (Pl.s 9, It.v (.d (ints o.1))),
   (Pl.o 1000, .row 39 2 (dd (eds z.1.2.2.2)) false), (Pl.s 10, It.v (.d (.int .i64 z.1.1)))]) (fun z => o.1.length - z.1.1) ⟨(0, o.2, 0, []), by simp, ko, by simp, by simp, by simp, rfl⟩ ?_ ?_
 ·exact GS.ownB' (.o 7) 2 1000 (cs := [TV.d (.int .i64 s.1), TV.d (.int .i64 L.1), TV.c (Value.slice none 0 0)]) 39 2 (by simp) (by simp) (by simp) (by simp) (by simp [eds])
 ·rintro ⟨⟨i, T', id, l⟩, i1, i2, i3, i4, i5, i6⟩
  simp only at i1 i2 i3 i4 i5 i6
  by_cases hi : i < o.1.length
  ·obtain ⟨x, hx⟩ : ∃ x, o.1[i]? = some x := ⟨o.1[i], List.getElem?_eq_getElem hi⟩
   have hx' : o.1[i] = x := by rw [List.getElem?_eq_getElem hi] at hx; simpa using hx
   have hd : o.1.drop i = x :: o.1.drop (i + 1) := by rw [← hx']; exact List.drop_eq_getElem_cons _
   have bx := mo x (List.mem_of_getElem? hx)
   have hxr : x.toNat < rs.length := by omega
   obtain ⟨r, hr1⟩ : ∃ r, rs[x.toNat]? = some r := ⟨rs[x.toNat], List.getElem?_eq_getElem hxr⟩
   have hr2 := rts_get' hr1
   have hr3 : rs.getD x.toNat ⟨0, false⟩ = r := by simp [List.getD, hr1]
   simp -dsimp [ints, hi]
   refine ACall.of (next_c T' i2 4 ⟨by omega, by omega⟩) [.x 0] 0 ?_
   simp -dsimp
   generalize hc : gNext T' 4 = c
   have kc : TapeOK c.2 := by rw [← hc]; simpa using i2
   refine AIf.dec (fun h0 => ?_) (fun h0 => ?_)
   ·simp -dsimp [wrap_i64 (n := (i : Int) + 1) (by omega) (by omega)]
    have e : gPlanS rs L.1 x T' id l = (l, id, c.2) := by simp [gPlanS, hc, h0]
    exact ⟨⟨(i + 1, c.2, id, l), by dsimp only; omega, kc, by dsimp only; omega, by dsimp only; omega, by dsimp only; omega, by dsimp only; rw [i6, hd, gPlanL, e]⟩, GS.to (by simp [ints]), by simp; omega⟩
   ·simp -dsimp [wrap_i64 (n := L.1 - 1) (by omega) (by omega)]
    refine ACall.of (pick_c c.2 kc [1, 1, 1, 2, L.1 - 1] (by simp) (by simp)) [.x 0] 0 ?_
    have bp : 1 ≤ (gPick c.2 [1, 1, 1, 2, L.1 - 1]).1 ∧ (gPick c.2 [1, 1, 1, 2, L.1 - 1]).1 ≤ 63 := gPick_all (p := fun x => 1 ≤ x ∧ x ≤ 63) (by simp) (by simp; omega)
    simp -dsimp [ints]
    generalize hp : gPick c.2 [1, 1, 1, 2, L.1 - 1] = p at bp ⊢
    have kp : TapeOK p.2 := by rw [← hp]; simpa using kc
    simp -dsimp [wrap_i64 (n := id + p.1) (by omega) (by omega)]
    refine AIf.dec (fun h1 => ?_) (fun h1 => ?_)
    ·simp -dsimp [ints, hi, hx', rts_get hr1, Rt.cs, wrap_i64 (n := id + p.1) (by omega) (by omega), wrap_i64 (n := (i : Int) + 1) (by omega) (by omega)]
     and_intros
     all_goals try first | omega | exact ⟨by kernel_rfl⟩
     have e : gPlanS rs L.1 x T' id l = (l ++ [⟨r.id, id + p.1⟩], id + p.1, p.2) := by simp only [gPlanS, hc, h0, hp, h1, hr3, if_true, if_false]
     exact ⟨⟨(i + 1, p.2, id + p.1, l ++ [⟨r.id, id + p.1⟩]), by dsimp only; omega, kp, by dsimp only; omega, by dsimp only; omega, by simp; omega, by dsimp only; rw [i6, hd, gPlanL, e]⟩, GS.to (by simp [ints, eds, Ed.cs]), by simp; omega⟩
    ·simp -dsimp [wrap_i64 (n := id + p.1) (by omega) (by omega), wrap_i64 (n := (i : Int) + 1) (by omega) (by omega)]
     have e : gPlanS rs L.1 x T' id l = (l, id + p.1, p.2) := by simp [gPlanS, hc, h0, hp, h1]
     exact ⟨⟨(i + 1, p.2, id + p.1, l), by dsimp only; omega, kp, by dsimp only; omega, by dsimp only; omega, by dsimp only; omega, by dsimp only; rw [i6, hd, gPlanL, e]⟩, GS.to (by simp [ints]), by simp; omega⟩
  ·have hX : gPlanL rs L.1 o.1 o.2 0 [] = (l, id, T') := by rw [i6, List.drop_eq_nil_of_le (by omega)]; rfl
   have h0 : gPlan0 T rs = (⟨s.1, L.1, l⟩, id, T') := by simp [gPlan0, hs, hL, ho, hX]
   by_cases hn0 : 0 < n
   ·simp -dsimp [ints, hi, hn0]
    refine ACall.of (one_c T' i2 n ⟨by omega, by omega⟩ ⟨by omega, by omega⟩) [.x 0] 0 ?_
    simp -dsimp
    generalize hq : gOne T' n = q
    have kq : TapeOK q.2 := by rw [← hq]; simpa using i2
    rcases (Bool.eq_false_or_eq_true q.1).symm with hq1 | hq1
    ·simp -dsimp [hq1]
     refine Fin.box (.o 6) rfl ?_
     simp -dsimp
     refine Fin.of ?_
     simp [gPlan, h0, hn0, planT, hq, hq1]
    ·simp -dsimp [hq1]
     refine ACall.of (next_c q.2 kq 5 ⟨by omega, by omega⟩) [.x 0] 0 ?_
     simp -dsimp
     generalize hz : gNext q.2 5 = z
     have kz : TapeOK z.2 := by rw [← hz]; simpa using kq
     have hg : gPlan T rs n = gSpoilN q.2 ⟨s.1, L.1, l⟩ id := by simp [gPlan, h0, hn0, hq, hq1]
     rw [hg]
     refine AIf.dec (fun c0 => ?_) (fun c0 => ?_)
     ·simp -dsimp
      refine ACall.of (wild_c z.2 kz) [.x 0] 0 ?_
      simp -dsimp
      refine Fin.box (.o 6) rfl ?_
      simp -dsimp
      refine Fin.of ?_
      simp [gSpoilN, hz, c0, planT]
     ·simp -dsimp [c0]
      refine AIf.dec (fun c1 => ?_) (fun c1 => ?_)
      ·simp -dsimp
       refine ACall.of (pick_c z.2 kz [0, 8, 24, 64, 128] (by simp) (by simp)) [.x 0] 0 ?_
       simp -dsimp [ints]
       refine Fin.box (.o 6) rfl ?_
       simp -dsimp
       refine Fin.of ?_
       simp [gSpoilN, hz, c0, c1, planT]
      ·simp -dsimp [c1]
       refine AIf.dec (fun c2 => ?_) (fun c2 => ?_)
       ·simp -dsimp
        refine ACall.of (pick_c z.2 kz [0, 1, 99, 100] (by simp) (by simp)) [.x 0] 0 ?_
        simp -dsimp [ints]
        generalize hv : gPick z.2 [0, 1, 99, 100] = v
        have kv : TapeOK v.2 := by rw [← hv]; simpa using kz
        refine ACall.of (pick_c v.2 kv [0, 1, 256, 257] (by simp) (by simp)) [.x 0] 0 ?_
        simp -dsimp [ints]
        and_intros
        all_goals try first | omega | exact ⟨by kernel_rfl⟩
        refine Fin.box (.o 6) rfl ?_
        simp -dsimp
        refine Fin.of ?_
        simp [gSpoilN, hz, c0, c1, c2, planT, eds, Ed.cs, hv]
       ·simp -dsimp [c2]
        refine AIf.dec (fun c3 => ?_) (fun c3 => ?_)
        ·rcases l with _ | ⟨ed, l'⟩
         ·simp -dsimp
          refine Fin.box (.o 6) rfl ?_
          simp -dsimp
          refine Fin.of ?_
          simp [gSpoilN, hz, c0, c1, c2, c3, planT, eds]
         ·simp -dsimp
          refine ACall.of (wild_c z.2 kz) [.x 0] 0 ?_
          simp -dsimp [eds, Ed.cs]
          refine ⟨?_, ⟨by kernel_rfl⟩⟩
          refine Fin.box (.o 6) rfl ?_
          simp -dsimp
          refine Fin.of ?_
          simp [gSpoilN, hz, c0, c1, c2, c3, planT, eds, Ed.cs]
        ·simp -dsimp [c3, wrap_i64 (n := id + 1) (by omega) (by omega)]
         and_intros
         all_goals try first | omega | exact ⟨by kernel_rfl⟩
         refine Fin.box (.o 6) rfl ?_
         simp -dsimp
         refine Fin.of ?_
         simp [gSpoilN, hz, c0, c1, c2, c3, planT, eds, Ed.cs]
   ·simp -dsimp [ints, hi, hn0]
    refine Fin.box (.o 6) rfl ?_
    simp -dsimp
    refine Fin.of ?_
    simp [gPlan, h0, hn0, planT]
def inB (n lo hi : Int) : Bool := decide (lo ≤ n) && decide (n ≤ hi)
theorem inside10_c (n lo hi : Int) : Contract Tryz.prog 75 [.d (.int .i64 n), .d (.int .i64 lo), .d (.int .i64 hi)] [] (.d (.bool (inB n lo hi))) [] [] := by
 refine contract_of Tryz.func75 rfl (fun E0 => ?_)
 refine awp.sound (g := .mk) (ow := []) (kp := (fun k => k==0||k==1||k==2||k==6)) ?_
 rw [Tryz.ntmps75]
 by_cases h : lo ≤ n
 ·simp -dsimp [h]
  refine Fin.of ?_
  simp [inB, h]
 ·simp -dsimp [h]
  refine Fin.of ?_
  simp [inB, h]
theorem in10_c (n lo hi : Int) : Contract Tryz.prog 127 [.d (.int .i64 n), .d (.int .i64 lo), .d (.int .i64 hi)] [] (.d (.bool (inB n lo hi))) [] [] := by
 refine contract_of Tryz.func127 rfl (fun E0 => ?_)
 refine awp.sound (g := .mk) (ow := []) (kp := (fun k => k==0||k==1||k==2||k==6)) ?_
 rw [Tryz.ntmps127]
 by_cases h : lo ≤ n
 ·simp -dsimp [h]
  refine Fin.of ?_
  simp [inB, h]
 ·simp -dsimp [h]
  refine Fin.of ?_
  simp [inB, h]
open Classical in
noncomputable def repB (l : List Int) : Bool := decide (∃ i j, j < i ∧ i < l.length ∧ l.getD i 0 = l.getD j 0)
theorem repB_true {l : List Int} {i j : Nat} (h1 : j < i) (h2 : i < l.length) (h3 : l.getD i 0 = l.getD j 0) : repB l = true := by
 simp only [repB, decide_eq_true_eq]
 exact ⟨i, j, h1, h2, h3⟩
theorem repB_false {l : List Int} (h : ∀ i j, j < i → i < l.length → l.getD i 0 ≠ l.getD j 0) : repB l = false := by
 simp only [repB, decide_eq_false_iff_not]
 rintro ⟨i, j, h1, h2, h3⟩
 exact h i j h1 h2 h3
theorem repeats_c (l : List Int) (hl : l.length ≤ 100000) : Contract Tryz.prog 118 [.d (ints l)] [] (.d (.bool (repB l))) [] [] := by
 refine contract_of Tryz.func118 rfl (fun E0 => ?_)
 refine awp.sound (g := .mk) (ow := []) (kp := (fun k => k==0||k==2||k==3||k==4||k==8||k==13||k==24)) ?_
 rw [Tryz.ntmps118]
 simp -dsimp
 refine ALoop.of [] (fun k => k==0||k==2||k==3||k==4||k==8||k==13||k==24) (ι := { i : Nat // i ≤ l.length ∧ ∀ a b, b < a → a < i → l.getD a 0 ≠ l.getD b 0 }) (fun z => [(Pl.s 0, It.v (.d (ints l))), (Pl.s 3, It.v (.d (.int .i64 z.1)))]) (fun z => l.length - z.1) ⟨0, by omega, fun a b _ h => by omega⟩ ?_ ?_
 ·exact GS.to (by simp)
 ·rintro ⟨i, i1, i2⟩
  by_cases hi : i < l.length
  ·simp -dsimp [ints, hi]
   refine ALoop.of [] (fun k => k==0||k==2||k==3||k==4||k==8||k==13||k==24) (ι := { j : Nat // j ≤ i ∧ ∀ b, b < j → l.getD i 0 ≠ l.getD b 0 }) (fun z => [(Pl.s 0, It.v (.d (ints l))), (Pl.s 3, It.v (.d (.int .i64 i))), (Pl.s 4, It.v (.d (.int .i64 z.1)))]) (fun z => i - z.1) ⟨0, by omega, fun b h => by omega⟩ ?_ ?_
   ·exact GS.to (by simp [ints])
   ·rintro ⟨j, j1, j2⟩
    by_cases hj : j < i
    ·have hj2 : j < l.length := by omega
     have gi : l.getD i 0 = l[i] := by simp [List.getD, hi]
     have gj : l.getD j 0 = l[j] := by simp [List.getD, hj2]
     simp -dsimp [ints, hi, hj, hj2]
     refine ⟨AIf.dec (fun h => ?_) (fun h => ?_), ⟨by kernel_rfl⟩⟩
     ·simp -dsimp
      refine Fin.of ?_
      simp
      exact repB_true hj hi (by rw [gi, gj, h])
     ·simp -dsimp [wrap_i64 (n := (j : Int) + 1) (by omega) (by omega)]
      exact ⟨⟨j + 1, by omega, fun b hb => by
       by_cases e : b = j
       ·subst e; rw [gi, gj]; exact h
       ·exact j2 b (by omega)⟩, GS.to (by simp [ints]), by simp; omega⟩
    ·simp -dsimp [ints, hi, hj, wrap_i64 (n := (i : Int) + 1) (by omega) (by omega)]
     exact ⟨⟨i + 1, by omega, fun a b h1 h2 => by
      by_cases e : a = i
      ·subst e; exact j2 b (by omega)
      ·exact i2 a b h1 (by omega)⟩, GS.to (by simp [ints]), by simp; omega⟩
  ·simp -dsimp [ints, hi]
   refine Fin.of ?_
   simp
   exact repB_false fun a b h1 h2 => i2 a b h1 (by omega)
end Go.Proofs

/-
  What functions of the program compute, stated as contracts over plain data; the conditions of each stand in its own statement.
-/
import Derived.Test.YtjgeggdefiejbaaGreatDoorM17
set_option linter.unusedSimpArgs false
namespace Go.Proofs
open Go Go.Tr
def bv (B : BitVec 64) : D := .int .u64 (tn B)
def validLen (n : Int) : Bool := n == 8 || n == 16 || n == 32 || n == 64
def bitB (k : Int) : BitVec 64 := if k < 0 ∨ k > 63 then 0#64 else 1#64 <<< (IntKind.u64.wrap k).toNat
theorem validLength_c (n : Int) : Contract Tryz.prog 74 [.d (.int .i64 n)] [] (.d (.bool (validLen n))) [] [] := by
 refine contract_of Tryz.func74 rfl (fun E0 => ?_)
 refine awp.sound (g := .mk) (ow := []) (kp := (fun k => k==0||k==2)) ?_
 rw [Tryz.ntmps74]
 by_cases h1 : n = 8 <;> by_cases h2 : n = 16 <;> by_cases h3 : n = 32 <;> first
  | omega
  | (simp -dsimp [h1, h2, h3]
     refine Fin.of ?_
     simp [validLen, h1, h2, h3])
theorem validLength_c2 (n : Int) : Contract Tryz.prog 126 [.d (.int .i64 n)] [] (.d (.bool (validLen n))) [] [] := by
 refine contract_of Tryz.func126 rfl (fun E0 => ?_)
 refine awp.sound (g := .mk) (ow := []) (kp := (fun k => k==0||k==2)) ?_
 rw [Tryz.ntmps126]
 by_cases h1 : n = 8 <;> by_cases h2 : n = 16 <;> by_cases h3 : n = 32 <;> first
  | omega
  | (simp -dsimp [h1, h2, h3]
     refine Fin.of ?_
     simp [validLen, h1, h2, h3])
theorem bit_c (k : Int) : Contract Tryz.prog 104 [.d (.int .i64 k)] [] (.d (bv (bitB k))) [] [] := by
 refine contract_of Tryz.func104 rfl (fun E0 => ?_)
 refine awp.sound (g := .mk) (ow := []) (kp := (fun k => k==0||k==2||k==8)) ?_
 rw [Tryz.ntmps104]
 by_cases h : k < 0
 ·simp -dsimp [h]
  refine Fin.of ?_
  simp [bitB, h, bv]
 ·simp -dsimp [h]
  refine AIf.dec (fun g => ?_) (fun g => ?_)
  ·simp -dsimp
   refine Fin.of ?_
   simp [bitB, g, bv]
  ·have h0 : 0 ≤ IntKind.u64.wrap k := by rw [wrap_emod]; omega
   simp -dsimp [h0]
   refine Fin.of ?_
   simp [bitB, g, h, bv]
def fullN : Nat → BitVec 64
 | 0 => 0#64
 | n + 1 => fullN n ||| bitB n
def fullB (n : Int) : BitVec 64 := if validLen n = true then fullN n.toNat else 0#64
theorem full_c (k : Int) : Contract Tryz.prog 113 [.d (.int .i64 k)] [] (.d (bv (fullB k))) [] [] := by
 refine contract_of Tryz.func113 rfl (fun E0 => ?_)
 refine awp.sound (g := .mk) (ow := []) (kp := (fun k => k==0||k==2||k==3||k==4||k==7||k==10)) ?_
 rw [Tryz.ntmps113]
 simp -dsimp
 refine ACall.of (validLength_c k) [] 0 ?_
 cases hv : validLen k
 ·simp -dsimp [hv]
  refine Fin.of ?_
  simp [fullB, hv, bv]
 ·have hk : 0 ≤ k ∧ k ≤ 64 := by simp [validLen] at hv; omega
  simp -dsimp [hv]
  refine ALoop.of [] (fun k => k==0||k==2||k==3||k==4||k==7||k==10) (ι := { i : Nat // (i : Int) ≤ k }) (fun i => [(Pl.s 0, It.v (TV.d (D.int IntKind.i64 k))), (Pl.s 2, It.v (TV.d (D.int IntKind.u64 0))),
    (Pl.s 3, It.v (TV.d (bv (fullN i.1)))), (Pl.s 4, It.v (TV.d (D.int IntKind.i64 i.1)))]) (fun i => k.toNat - i.1) ⟨0, hk.1⟩ ?_ ?_
  ·exact GS.to (by simp [fullN, bv])
  ·rintro ⟨i, hi⟩
   simp -dsimp [bv]
   refine AIf.dec (fun h => ?_) (fun h => ?_)
   ·simp -dsimp [bv]
    refine ACall.of (bit_c i) [] 0 ?_
    simp -dsimp [bv, wrap_i64 (n := (i : Int) + 1) (by omega) (by omega)]
    refine ⟨⟨i + 1, by omega⟩, GS.to (by simp [fullN, bv]), by simp; omega⟩
   ·simp -dsimp [bv]
    refine Fin.of ?_
    have : k.toNat = i := by omega
    simp [fullB, hv, bv, this]
def gTextL : Nat → Tp → List Int × Tp
 | 0, T => ([], T)
 | n + 1, T => ((gNext T 256).1 :: (gTextL n (gNext T 256).2).1, (gTextL n (gNext T 256).2).2)
def gText (T : Tp) (most : Int) : List Int × Tp := gTextL (gRange T 0 most).1.toNat (gRange T 0 most).2
theorem text_c (T : Tp) (hT : TapeOK T) (k : Int) (hk : 0 ≤ k ∧ k ≤ 100) : Contract Tryz.prog 60 [.ptr (.x 0) 0, .d (.int .i64 k)] [tapeI T] (.d (.str (strOf (gText T k).1))) [tapeI (gText T k).2] [] := by
 have hr := gRange_lo T 0 k
 have hr' := gRange_hi T (a := 0) (b := k) (by omega)
 refine contract_of Tryz.func60 rfl (fun E0 => ?_)
 refine awp.sound (g := .mk) (ow := []) (kp := (fun k => k==0||k==1||k==4||k==5||k==6||k==11)) ?_
 rw [Tryz.ntmps60]
 simp -dsimp
 refine ACall.of (range_c T hT 0 k ⟨by omega, by omega⟩ ⟨by omega, by omega⟩ ⟨by omega, by omega⟩ ⟨by omega, by omega⟩) [.x 0] 0 ?_
 simp -dsimp
 refine ALoop.of [5] (fun k => k==0||k==1||k==4||k==5||k==6||k==11) (ι := { i : Nat × Tp × List Int // TapeOK i.2.1 ∧ i.1 ≤ 100 ∧ i.2.2.length + i.1 ≤ 100 ∧ (gText T k) = (i.2.2 ++ (gTextL i.1 i.2.1).1, (gTextL i.1 i.2.1).2) }) (fun i => [(Pl.s 0, It.v (TV.ptr (Pl.x 0) 0)), (Pl.s 1, It.v (TV.d (D.int IntKind.i64 k))),
    (Pl.x 0, tapeI i.1.2.1), (Pl.s 4, It.v (TV.d (D.str ⟨#[]⟩))),
    (Pl.s 5, It.v (.oref 5 i.1.2.2.length)), (Pl.s 6, It.v (TV.d (D.int IntKind.i64 i.1.1))), (.o 5, .row 5 1 (dd (i.1.2.2.map fun n => [.int .u8 n])) false)]) (fun i => i.1.1) ⟨((gRange T 0 k).1.toNat, (gRange T 0 k).2, []), by simpa using hT, by simp; omega, by simp; omega, by simp [gText]⟩ ?_ ?_
 ·refine GS.own' (k := 5) 5 1 (by simp) (by simp) ?_
  simp
  omega
 ·rintro ⟨⟨i, T', l⟩, h1, h2, h3, h4⟩
  simp only at h1 h2 h3 h4
  simp -dsimp
  refine AIf.dec (fun h => ?_) (fun h => ?_)
  ·obtain ⟨i, rfl⟩ : ∃ j, i = j + 1 := ⟨i - 1, by omega⟩
   simp -dsimp
   refine ACall.of (next_c T' h1 256 ⟨by omega, by omega⟩) [.x 0] 0 ?_
   have g1 := gNext_nonneg T' 256
   have g2 := gNext_lt T' (n := 256) (by omega)
   simp -dsimp [wrap_u8 g1 (show (gNext T' 256).1 ≤ 255 by omega), wrap_i64 (n := (i : Int)) (by omega) (by omega)]
   and_intros
   all_goals try first | omega | (simp; omega)
   refine ⟨⟨(i, (gNext T' 256).2, l ++ [(gNext T' 256).1]), by simpa using h1, by omega, by simp; omega, by simp [h4, gTextL]⟩, GS.to (by simp), by simp⟩
  ·obtain rfl : i = 0 := by omega
   simp -dsimp
   refine Fin.of ?_
   simp [h4, gTextL]
end Go.Proofs

set_option linter.unusedSimpArgs false
namespace Go.Proofs
open Go Go.Tr
def gBits (T : Tp) (k : Int) : BitVec 64 × Tp :=
 let r1 := gRaw T
 let r2 := gRaw r1.2
 let s := gNext r2.2 6
 if s.1 = 0 then (0#64, s.2)
 else if s.1 = 1 then (bitB (gNext s.2 k).1 &&& fullB k, (gNext s.2 k).2)
 else if s.1 = 2 then (~~~ 0#64 &&& fullB k, s.2)
 else ((wu (tn (wu r1.1) * 11400714819323198485) ^^^ wu r2.1) &&& fullB k, s.2)
theorem bits_c (T : Tp) (hT : TapeOK T) (k : Int) (hk : I64 k) : Contract Tryz.prog 61 [.ptr (.x 0) 0, .d (.int .i64 k)] [tapeI T] (.d (bv (gBits T k).1)) [tapeI (gBits T k).2] [] := by
 refine contract_of Tryz.func61 rfl (fun E0 => ?_)
 refine awp.sound (g := .mk) (ow := []) (kp := (fun k => k==0||k==1||k==4||k==5||k==15||k==16||k==18||k==24)) ?_
 rw [Tryz.ntmps61]
 simp -dsimp
 refine ACall.of (raw_c T hT) [.x 0] 0 ?_
 simp -dsimp [wrap_tn]
 refine ACall.of (raw_c (gRaw T).2 (by simpa using hT)) [.x 0] 0 ?_
 simp -dsimp [wrap_tn]
 refine ACall.of (next_c (gRaw (gRaw T).2).2 (by simpa using hT) 6 ⟨by omega, by omega⟩) [.x 0] 0 ?_
 simp -dsimp [wrap_tn]
 refine AIf.dec (fun h0 => ?_) (fun h0 => ?_)
 ·simp -dsimp [wrap_tn]
  refine ACall.of (full_c k) [] 0 ?_
  simp -dsimp [wrap_tn, bv]
  refine Fin.of ?_
  simp [gBits, h0, bv]
 ·simp -dsimp [h0]
  refine AIf.dec (fun h1 => ?_) (fun h1 => ?_)
  ·simp -dsimp [wrap_tn]
   refine ACall.of (next_c (gNext (gRaw (gRaw T).2).2 6).2 (by simpa using hT) k hk) [.x 0] 0 ?_
   simp -dsimp
   refine ACall.of (bit_c (gNext (gNext (gRaw (gRaw T).2).2 6).2 k).1) [] 0 ?_
   simp -dsimp
   refine ACall.of (full_c k) [] 0 ?_
   simp -dsimp [wrap_tn, bv]
   refine Fin.of ?_
   simp [gBits, h0, h1, bv]
  ·simp -dsimp [h1]
   refine AIf.dec (fun h2 => ?_) (fun h2 => ?_)
   ·simp -dsimp
    refine ACall.of (full_c k) [] 0 ?_
    simp -dsimp [wrap_tn, bv]
    refine Fin.of ?_
    simp [gBits, h0, h1, h2, bv]
    try rfl
   ·simp -dsimp
    refine ACall.of (full_c k) [] 0 ?_
    simp -dsimp [wrap_tn, bv]
    refine Fin.of ?_
    simp [gBits, h0, h1, h2, bv]
def gOrderL : Nat → Nat → Tp → List Int → List Int × Tp
 | 0, _, T, out => (out, T)
 | n + 1, i, T, out => gOrderL n (i + 1) (gNext T (i + 1)).2 (out.take (gNext T (i + 1)).1.toNat ++ [(i : Int)] ++ out.drop (gNext T (i + 1)).1.toNat)
def gOrder (T : Tp) (n : Int) : List Int × Tp := gOrderL n.toNat 0 T []
theorem order_c (T : Tp) (hT : TapeOK T) (n : Int) (hn : n ≤ 1000) : Contract Tryz.prog 138 [.ptr (.x 0) 0, .d (.int .i64 n)] [tapeI T] (.d (ints (gOrder T n).1)) [tapeI (gOrder T n).2] [] := by
 refine contract_of Tryz.func138 rfl (fun E0 => ?_)
 refine awp.sound (g := .mk) (ow := []) (kp := (fun k => k==0||k==1||k==4||k==5||k==6||k==7||k==8||k==11)) ?_
 rw [Tryz.ntmps138]
 simp -dsimp
 refine ALoop.of [] (fun k => k==0||k==1||k==4||k==5||k==6||k==7||k==8||k==11) (ι := { i : Nat × Tp × List Int // TapeOK i.2.1 ∧ i.2.2.length = i.1 ∧ (i.1 : Int) ≤ max n 0 ∧ gOrder T n = gOrderL (n.toNat - i.1) i.1 i.2.1 i.2.2 }) (fun i => [(Pl.s 0, It.v (TV.ptr (Pl.x 0) 0)), (Pl.s 1, It.v (TV.d (D.int IntKind.i64 n))), (Pl.x 0, tapeI i.1.2.1),
    (Pl.s 4, It.v (TV.c (Value.slice none 0 0))), (Pl.s 5, It.v (.d (ints i.1.2.2))),
    (Pl.s 6, It.v (TV.d (D.int IntKind.i64 i.1.1)))]) (fun i => n.toNat - i.1.1) ⟨(0, T, []), hT, rfl, by simp; omega, rfl⟩ ?_ ?_
 ·exact GS.viewS 5 (by simp [ints])
 ·rintro ⟨⟨i, T', out⟩, h1, h2, h3, h4⟩
  simp only at h1 h2 h3 h4
  simp -dsimp [ints]
  refine AIf.dec (fun h => ?_) (fun h => ?_)
  ·simp -dsimp [wrap_i64 (n := (i : Int) + 1) (by omega) (by omega)]
   refine ACall.of (next_c T' h1 (i + 1) ⟨by omega, by omega⟩) [.x 0] 0 ?_
   have g1 := gNext_nonneg T' (i + 1)
   have g2 := gNext_lt T' (n := i + 1) (by omega)
   simp -dsimp [wrap_i64 (n := (i : Int) + 1) (by omega) (by omega)]
   have dl : dLen 1 (out.map fun x => [D.int .i64 x]) := dLen_map 1 _ _ fun _ => rfl
   and_intros
   all_goals try first | omega | exact dLen_take dl | exact dLen_drop (dLen_take dl) | (simp; omega)
   refine ⟨⟨(i + 1, (gNext T' (i + 1)).2, out.take (gNext T' (i + 1)).1.toNat ++ [(i : Int)] ++ out.drop (gNext T' (i + 1)).1.toNat), by simpa using h1, by simp; omega, by simp; omega, ?_⟩, GS.viewS 5 ?_, by simp; omega⟩
   ·rw [h4, show n.toNat - i = n.toNat - (i + 1) + 1 by omega]; rfl
   ·simp [ints]
    exact ⟨by omega, by rw [List.take_of_length_le (by simp)]⟩
  ·simp -dsimp
   refine Fin.view 4 ?_
   simp -dsimp
   refine Fin.of ?_
   have : n.toNat - i = 0 := by omega
   simp [h4, this, gOrderL, ints]
structure Pk where
 mode : Int
 subd : Int
 set : Int
 len : Int
 ttl : Int
 ent : Int
 ing : Int
 proto : Int
 bits : BitVec 64
 pay : ByteArray
def Pk.cs (p : Pk) : List D := [.int .i64 p.mode, .int .i64 p.subd, .int .i64 p.set, .int .i64 p.len, .int .i64 p.ttl, .int .i64 p.ent, .int .i64 p.ing, .int .i64 p.proto, bv p.bits, .str p.pay]
def gPk0 (T : Tp) : Pk × Tp :=
 let L := gPick T [8, 8, 16, 32, 64]
 let m := gRange L.2 1 3
 let d := gRange m.2 0 7
 let s := gPick d.2 [0, 0, 1, 2, 31]
 let t := gPick s.2 [0, 1, 2, 5, 63]
 let e := gNext t.2 1024
 let i := gPick e.2 [0, 1, 8, 255, 256]
 let p := gNext i.2 8
 let b := gBits p.2 L.1
 let y := gText b.2 6
 (⟨m.1, d.1, s.1, L.1, t.1, e.1, i.1, p.1, b.1, strOf y.1⟩, y.2)
theorem gPick_i64 (T : Tp) (l : List Int) (h : ∀ x ∈ l, I64 x) : I64 (gPick T l).1 := by
 unfold gPick
 rw [List.getD_eq_getElem?_getD]
 cases hl : l[(gNext T l.length).1.toNat]? with
 | none => simp [I64]
 | some x => exact h x (List.mem_of_getElem? hl)
theorem gTextL_ok : ∀ (n : Nat) (T : Tp), TapeOK (gTextL n T).2 = TapeOK T
 | 0, T => rfl
 | n + 1, T => by simp [gTextL, gTextL_ok n]
@[simp] theorem gText_ok (T : Tp) (k : Int) : TapeOK (gText T k).2 = TapeOK T := by simp [gText, gTextL_ok]
@[simp] theorem gBits_ok (T : Tp) (k : Int) : TapeOK (gBits T k).2 = TapeOK T := by
 simp only [gBits]
 split
 ·simp
 ·split
  ·simp
  ·split <;> simp
theorem gTextL_len : ∀ (n : Nat) (T : Tp), (gTextL n T).1.length = n
 | 0, T => rfl
 | n + 1, T => by simp [gTextL, gTextL_len n]
theorem strOf_size (l : List Int) : (strOf l).size = l.length := by
 have : ∀ (l : List Int) (r : ByteArray), (l.foldl (fun r n => r.push (UInt8.ofNat n.toNat)) r).size = r.size + l.length := by
  intro l
  induction l with
  | nil => intro r; simp
  | cons x l ih => intro r; simp [ih]; omega
 simpa [strOf] using this l ByteArray.empty
theorem gText_size (T : Tp) {k : Int} (hk : 0 ≤ k) : (strOf (gText T k).1).size ≤ k.toNat := by
 have := gRange_hi T (a := 0) (b := k) hk
 rw [strOf_size, gText, gTextL_len]
 omega
def abc : ByteArray := ⟨#[97, 98, 99]⟩
def grow : Nat → ByteArray → ByteArray
 | 0, s => s
 | n + 1, s => if s.size < 62 then grow n (s ++ abc) else s
def gSpoilP (T : Tp) (p : Pk) : Pk × Tp :=
 let s := gNext T 9
 if s.1 = 0 then (⟨(gWild s.2).1, p.subd, p.set, p.len, p.ttl, p.ent, p.ing, p.proto, p.bits, p.pay⟩, (gWild s.2).2)
 else if s.1 = 1 then (⟨p.mode, (gWild s.2).1, p.set, p.len, p.ttl, p.ent, p.ing, p.proto, p.bits, p.pay⟩, (gWild s.2).2)
 else if s.1 = 2 then (⟨p.mode, p.subd, (gWild s.2).1, p.len, p.ttl, p.ent, p.ing, p.proto, p.bits, p.pay⟩, (gWild s.2).2)
 else if s.1 = 3 then (⟨p.mode, p.subd, p.set, (gPick s.2 [0, 8, 16, 24, 63, 64, 65, -8]).1, p.ttl, p.ent, p.ing, p.proto, p.bits, p.pay⟩, (gPick s.2 [0, 8, 16, 24, 63, 64, 65, -8]).2)
 else if s.1 = 4 then (⟨p.mode, p.subd, p.set, p.len, (gWild s.2).1, p.ent, p.ing, p.proto, p.bits, p.pay⟩, (gWild s.2).2)
 else if s.1 = 5 then (⟨p.mode, p.subd, p.set, p.len, p.ttl, (gWild s.2).1, p.ing, p.proto, p.bits, p.pay⟩, (gWild s.2).2)
 else if s.1 = 6 then (⟨p.mode, p.subd, p.set, p.len, p.ttl, p.ent, (gWild s.2).1, p.proto, p.bits, p.pay⟩, (gWild s.2).2)
 else if s.1 = 7 then (⟨p.mode, p.subd, p.set, p.len, p.ttl, p.ent, p.ing, (gWild s.2).1, p.bits, p.pay⟩, (gWild s.2).2)
 else (⟨p.mode, p.subd, p.set, p.len, p.ttl, p.ent, p.ing, p.proto, p.bits, grow 62 p.pay ++ strOf (gText s.2 4).1⟩, (gText s.2 4).2)
def gPacket (T : Tp) (n : Int) : Pk × Tp :=
 if 0 < n then
  if (gOne (gPk0 T).2 n).1 then gSpoilP (gOne (gPk0 T).2 n).2 (gPk0 T).1 else ((gPk0 T).1, (gOne (gPk0 T).2 n).2)
 else gPk0 T
def pkT (p : Pk) : TV := .agg (p.cs.map .d)
set_option maxHeartbeats 2000000 in
theorem packet_c (T : Tp) (hT : TapeOK T) (n : Int) (hn : I64 n) : Contract Tryz.prog 103 [.ptr (.x 0) 0, .d (.int .i64 n)] [tapeI T] (pkT (gPacket T n).1) [tapeI (gPacket T n).2] [] := by
 refine contract_of Tryz.func103 rfl (fun E0 => ?_)
 refine awp.sound (g := .mk) (ow := []) (kp := (fun k => k==0||k==1||k==4||k==5||k==6||k==39||k==41||k==45||k==56||k==61||k==66||k==71||k==77||k==82||k==87||k==92)) ?_
 rw [Tryz.ntmps103]
 simp -dsimp
 refine ACall.of (length_c T hT) [.x 0] 0 ?_
 simp -dsimp
 generalize hL : gPick T [8, 8, 16, 32, 64] = L
 have kL : TapeOK L.2 := by rw [← hL]; simpa using hT
 have iL : I64 L.1 := by rw [← hL]; exact gPick_i64 _ _ (by simp [I64])
 have b1 := gRange_lo L.2 1 3
 have b2 := gRange_hi L.2 (a := 1) (b := 3) (by omega)
 refine ACall.of (range_c L.2 kL 1 3 ⟨by omega, by omega⟩ ⟨by omega, by omega⟩ ⟨by omega, by omega⟩ ⟨by omega, by omega⟩) [.x 0] 0 ?_
 simp -dsimp
 generalize hm : gRange L.2 1 3 = m at b1 b2 ⊢
 have km : TapeOK m.2 := by rw [← hm]; simpa using kL
 have b3 := gRange_lo m.2 0 7
 have b4 := gRange_hi m.2 (a := 0) (b := 7) (by omega)
 refine ACall.of (range_c m.2 km 0 7 ⟨by omega, by omega⟩ ⟨by omega, by omega⟩ ⟨by omega, by omega⟩ ⟨by omega, by omega⟩) [.x 0] 0 ?_
 simp -dsimp
 generalize hd : gRange m.2 0 7 = d at b3 b4 ⊢
 have kd : TapeOK d.2 := by rw [← hd]; simpa using km
 refine ACall.of (pick_c d.2 kd [0, 0, 1, 2, 31] (by simp) (by simp)) [.x 0] 0 ?_
 simp -dsimp [ints]
 generalize hs : gPick d.2 [0, 0, 1, 2, 31] = s
 have ks : TapeOK s.2 := by rw [← hs]; simpa using kd
 refine ACall.of (pick_c s.2 ks [0, 1, 2, 5, 63] (by simp) (by simp)) [.x 0] 0 ?_
 simp -dsimp [ints]
 generalize ht : gPick s.2 [0, 1, 2, 5, 63] = t
 have kt : TapeOK t.2 := by rw [← ht]; simpa using ks
 refine ACall.of (next_c t.2 kt 1024 ⟨by omega, by omega⟩) [.x 0] 0 ?_
 simp -dsimp
 generalize he : gNext t.2 1024 = e
 have ke : TapeOK e.2 := by rw [← he]; simpa using kt
 refine ACall.of (pick_c e.2 ke [0, 1, 8, 255, 256] (by simp) (by simp)) [.x 0] 0 ?_
 simp -dsimp [ints]
 generalize hi : gPick e.2 [0, 1, 8, 255, 256] = i
 have ki : TapeOK i.2 := by rw [← hi]; simpa using ke
 refine ACall.of (next_c i.2 ki 8 ⟨by omega, by omega⟩) [.x 0] 0 ?_
 simp -dsimp
 generalize hp : gNext i.2 8 = p
 have kp : TapeOK p.2 := by rw [← hp]; simpa using ki
 refine ACall.of (bits_c p.2 kp L.1 iL) [.x 0] 0 ?_
 simp -dsimp
 generalize hb : gBits p.2 L.1 = b
 have kb : TapeOK b.2 := by rw [← hb]; simpa using kp
 refine ACall.of (text_c b.2 kb 6 (by omega)) [.x 0] 0 ?_
 simp -dsimp
 generalize hy : gText b.2 6 = y
 have ky : TapeOK y.2 := by rw [← hy]; simpa using kb
 have g0 : gPk0 T = (⟨m.1, d.1, s.1, L.1, t.1, e.1, i.1, p.1, b.1, strOf y.1⟩, y.2) := by
  simp only [gPk0, hL, hm, hd, hs, ht, he, hi, hp, hb, hy]
 by_cases hn0 : 0 < n
 ·simp -dsimp [hn0]
  refine ACall.of (one_c y.2 ky n hn ⟨by omega, by have := hn.2; omega⟩) [.x 0] 0 ?_
  simp -dsimp [hn0]
  generalize ho : gOne y.2 n = o
  have ko : TapeOK o.2 := by rw [← ho]; simpa using ky
  cases ho1 : o.1
  ·simp -dsimp [ho1]
   refine Fin.of ?_
   simp [gPacket, hn0, g0, ho, ho1, pkT, Pk.cs]
  ·simp -dsimp [ho1]
   refine ACall.of (next_c o.2 ko 9 ⟨by omega, by omega⟩) [.x 0] 0 ?_
   simp -dsimp
   generalize hq : gNext o.2 9 = q
   have kq : TapeOK q.2 := by rw [← hq]; simpa using ko
   refine AIf.dec (fun c0 => ?_) (fun c0 => ?_)
   ·simp -dsimp
    refine ACall.of (wild_c q.2 kq) [.x 0] 0 ?_
    simp -dsimp [ints]
    refine Fin.of ?_
    simp [gPacket, hn0, g0, ho, ho1, gSpoilP, hq, pkT, Pk.cs, c0]
   ·simp -dsimp [c0]
    refine AIf.dec (fun c1 => ?_) (fun c1 => ?_)
    ·simp -dsimp
     refine ACall.of (wild_c q.2 kq) [.x 0] 0 ?_
     simp -dsimp [ints]
     refine Fin.of ?_
     simp [gPacket, hn0, g0, ho, ho1, gSpoilP, hq, pkT, Pk.cs, c0, c1]
    ·simp -dsimp [c1]
     refine AIf.dec (fun c2 => ?_) (fun c2 => ?_)
     ·simp -dsimp
      refine ACall.of (wild_c q.2 kq) [.x 0] 0 ?_
      simp -dsimp [ints]
      refine Fin.of ?_
      simp [gPacket, hn0, g0, ho, ho1, gSpoilP, hq, pkT, Pk.cs, c0, c1, c2]
     ·simp -dsimp [c2]
      refine AIf.dec (fun c3 => ?_) (fun c3 => ?_)
      ·simp -dsimp
       refine ACall.of (pick_c q.2 kq [0, 8, 16, 24, 63, 64, 65, -8] (by simp) (by simp)) [.x 0] 0 ?_
       simp -dsimp [ints]
       refine Fin.of ?_
       simp [gPacket, hn0, g0, ho, ho1, gSpoilP, hq, pkT, Pk.cs, c0, c1, c2, c3]
      ·simp -dsimp [c3]
       refine AIf.dec (fun c4 => ?_) (fun c4 => ?_)
       ·simp -dsimp
        refine ACall.of (wild_c q.2 kq) [.x 0] 0 ?_
        simp -dsimp [ints]
        refine Fin.of ?_
        simp [gPacket, hn0, g0, ho, ho1, gSpoilP, hq, pkT, Pk.cs, c0, c1, c2, c3, c4]
       ·simp -dsimp [c4]
        refine AIf.dec (fun c5 => ?_) (fun c5 => ?_)
        ·simp -dsimp
         refine ACall.of (wild_c q.2 kq) [.x 0] 0 ?_
         simp -dsimp [ints]
         refine Fin.of ?_
         simp [gPacket, hn0, g0, ho, ho1, gSpoilP, hq, pkT, Pk.cs, c0, c1, c2, c3, c4, c5]
        ·simp -dsimp [c5]
         refine AIf.dec (fun c6 => ?_) (fun c6 => ?_)
         ·simp -dsimp
          refine ACall.of (wild_c q.2 kq) [.x 0] 0 ?_
          simp -dsimp [ints]
          refine Fin.of ?_
          simp [gPacket, hn0, g0, ho, ho1, gSpoilP, hq, pkT, Pk.cs, c0, c1, c2, c3, c4, c5, c6]
         ·simp -dsimp [c6]
          refine AIf.dec (fun c7 => ?_) (fun c7 => ?_)
          ·simp -dsimp
           refine ACall.of (wild_c q.2 kq) [.x 0] 0 ?_
           simp -dsimp [ints]
           refine Fin.of ?_
           simp [gPacket, hn0, g0, ho, ho1, gSpoilP, hq, pkT, Pk.cs, c0, c1, c2, c3, c4, c5, c6, c7]
          ·simp -dsimp [c7]
           refine ALoop.of [] (fun k => k==0||k==1||k==4||k==5||k==6||k==39||k==41||k==45||k==56||k==61||k==66||k==71||k==77||k==82||k==87||k==92) (ι := { z : Nat × ByteArray // z.2.size ≤ 100 ∧ 62 - z.2.size ≤ z.1 ∧ grow 62 (strOf y.1) = grow z.1 z.2 }) (fun z => [(Pl.s 0, It.v (TV.ptr (Pl.x 0) 0)), (Pl.s 1, It.v (TV.d (D.int IntKind.i64 n))),
             (Pl.x 0, tapeI q.2), (Pl.o 6, It.box [TV.d (D.int IntKind.i64 m.1), TV.d (D.int IntKind.i64 d.1), TV.d (D.int IntKind.i64 s.1),
              TV.d (D.int IntKind.i64 L.1), TV.d (D.int IntKind.i64 t.1), TV.d (D.int IntKind.i64 e.1), TV.d (D.int IntKind.i64 i.1), TV.d (D.int IntKind.i64 p.1), TV.d (bv b.1), TV.d (D.str z.1.2)]),
             (Pl.s 6, It.v (TV.ptr (Pl.o 6) 0)), (Pl.s 4, It.v (TV.ptr (Pl.o 4) 0)), (Pl.o 4, It.box [TV.d (D.int IntKind.i64 0), TV.d (D.int IntKind.i64 0), TV.d (D.int IntKind.i64 0),
              TV.d (D.int IntKind.i64 0), TV.d (D.int IntKind.i64 0), TV.d (D.int IntKind.i64 0), TV.d (D.int IntKind.i64 0), TV.d (D.int IntKind.i64 0), TV.d (D.int IntKind.u64 0), TV.d (D.str ⟨#[]⟩)])]) (fun z => z.1.1) ⟨(62, strOf y.1), by have := gText_size b.2 (k := 6) (by omega); rw [hy] at this; simp at *; omega, by simp, rfl⟩ ?_ ?_
           ·exact GS.to (by simp)
           ·rintro ⟨⟨z, w⟩, z1, z2, z3⟩
            simp only at z1 z2 z3
            simp -dsimp
            refine AIf.dec (fun h => ?_) (fun h => ?_)
            ·obtain ⟨z, rfl⟩ : ∃ x, z = x + 1 := ⟨z - 1, by omega⟩
             have hs3 : (w ++ abc).size = w.size + 3 := ByteArray.size_append
             simp -dsimp
             refine ⟨show w.size + 3 ≤ _ by omega, ⟨(z, w ++ abc), by simp only [hs3]; omega, by simp only [hs3]; omega, ?_⟩, GS.to (by simp [abc]), by simp⟩
             rw [z3, grow, if_pos (by omega)]
            ·have hg : grow 62 (strOf y.1) = w := by
              rw [z3]
              cases z with
              | zero => rfl
              | succ z => rw [grow, if_neg (by omega)]
             simp -dsimp
             refine ACall.of (text_c q.2 kq 4 (by omega)) [.x 0] 0 ?_
             have hsz := gText_size q.2 (k := 4) (by omega)
             simp -dsimp
             refine ⟨by simp at *; omega, ?_, ⟨by kernel_rfl⟩⟩
             refine Fin.of ?_
             simp [gPacket, hn0, g0, ho, ho1, gSpoilP, hq, pkT, Pk.cs, c0, c1, c2, c3, c4, c5, c6, c7, hg]
 ·simp -dsimp [hn0]
  refine Fin.of ?_
  simp [gPacket, hn0, g0, pkT, Pk.cs]
theorem new_c (l : List Int) : Contract Tryz.prog 37 [.d (ints l)] [] (.ptr (.o 10) 0) [] [(10, tapeI (l.take 600, 0))] := by
 refine contract_of Tryz.func37 rfl (fun E0 => ?_)
 refine awp.sound (g := .mk) (ow := []) (kp := (fun k => k==0||k==2||k==5)) ?_
 rw [Tryz.ntmps37]
 simp -dsimp [ints]
 refine AIf.dec (fun h => ?_) (fun h => ?_)
 ·simp -dsimp
  refine ⟨by omega, ?_⟩
  refine Fin.of ?_
  simp [tapeI, ints]
 ·simp -dsimp
  refine Fin.of ?_
  simp [tapeI, ints, List.take_of_length_le (show l.length ≤ 600 by omega)]
end Go.Proofs

set_option linter.unusedSimpArgs false
set_option maxRecDepth 100000
namespace Go.Proofs
open Go Go.Tr
structure Lk where
 a : Int
 b : Int
 ca : Int
 cb : Int
 cap : Int
def Lk.cs (x : Lk) : List D := [.int .i64 x.a, .int .i64 x.b, .int .i64 x.ca, .int .i64 x.cb, .int .i64 x.cap]
def lks (l : List Lk) : List (List D) := l.map Lk.cs
def Lk.before (y x : Lk) : Bool := decide (y.a < x.a) || (decide (y.a = x.a) && decide (y.b < x.b))
def lkPos (x : Lk) : List Lk → Nat
 | [] => 0
 | y :: r => if y.before x then lkPos x r + 1 else 0
def ordL : List Lk → List Lk → List Lk
 | [], out => out
 | x :: l, out => ordL l (out.take (lkPos x out) ++ [x] ++ out.drop (lkPos x out))
@[simp] theorem lks_len (l : List Lk) : (lks l).length = l.length := by simp [lks]
theorem lks_get {l : List Lk} {i : Nat} {x : Lk} (h : l[i]? = some x) : (lks l)[i]? = some x.cs := by simp [lks, h]
theorem lks_get' {l : List Lk} {i : Nat} {x : Lk} (h : l[i]? = some x) (hi : i < (lks l).length) : (lks l)[i] = x.cs := by
 have := lks_get h
 rw [List.getElem?_eq_getElem hi] at this
 simpa using this
theorem dLen_lks (l : List Lk) : dLen 5 (lks l) := dLen_map 5 _ _ fun _ => rfl
theorem lkPos_le (x : Lk) : ∀ l : List Lk, lkPos x l ≤ l.length
 | [] => Nat.le_refl _
 | y :: r => by
   have := lkPos_le x r
   simp only [lkPos, List.length_cons]
   split <;> omega
theorem ord_c (l : List Lk) (hl : l.length ≤ 1000) : Contract Tryz.prog 135 [.d (.sl (lks l))] [] (.d (.sl (lks (ordL l [])))) [] [] := by
 refine contract_of Tryz.func135 rfl (fun E0 => ?_)
 refine awp.sound (g := .mk) (ow := []) (kp := (fun k => k==0||k==2||k==3||k==4||k==5||k==6||k==10||k==55)) ?_
 rw [Tryz.ntmps135]
 simp -dsimp
 refine ALoop.of [] (fun k => k==0||k==2||k==3||k==4||k==5||k==6||k==10||k==55) (ι := { i : Nat × List Lk // i.1 ≤ l.length ∧ i.2.length = i.1 ∧ ordL l [] = ordL (l.drop i.1) i.2 }) (fun i => [(Pl.s 0, It.v (.d (.sl (lks l)))),
    (Pl.s 2, It.v (TV.c (Value.slice none 0 0))), (Pl.s 3, It.v (.d (.sl (lks i.1.2)))),
    (Pl.s 4, It.v (TV.d (D.int IntKind.i64 i.1.1)))]) (fun i => l.length - i.1.1) ⟨(0, []), by simp, rfl, rfl⟩ ?_ ?_
 ·exact GS.viewS 3 (by simp [lks])
 ·rintro ⟨⟨i, out⟩, h1, h2, h3⟩
  simp only at h1 h2 h3
  simp -dsimp
  refine AIf.dec (fun h => ?_) (fun h => ?_)
  ·have hi : i < l.length := by simpa using h
   obtain ⟨x, hx⟩ : ∃ x, l[i]? = some x := ⟨l[i], List.getElem?_eq_getElem hi⟩
   have hx' := lks_get' hx
   have hdl : l.drop i = x :: l.drop (i + 1) := by rw [List.getElem?_eq_some_iff] at hx; obtain ⟨_, rfl⟩ := hx; exact List.drop_eq_getElem_cons _
   simp -dsimp
   refine ALoop.of [] (fun k => k==0||k==2||k==3||k==4||k==5||k==6||k==10||k==55) (ι := { p : Nat // p ≤ out.length ∧ lkPos x out = p + lkPos x (out.drop p) }) (fun p => [(Pl.s 0, It.v (.d (.sl (lks l)))),
    (Pl.s 2, It.v (TV.c (Value.slice none 0 0))), (Pl.s 3, It.v (.d (.sl (lks out)))), (Pl.s 4, It.v (TV.d (D.int IntKind.i64 i))), (Pl.s 5, It.v (TV.d (D.int IntKind.i64 p.1)))]) (fun p => out.length - p.1) ⟨0, by omega, by simp⟩ ?_ ?_
   ·exact GS.to (by simp)
   ·rintro ⟨p, p1, p2⟩
    by_cases hp : p < out.length
    ·obtain ⟨y, hy⟩ : ∃ y, out[p]? = some y := ⟨out[p], List.getElem?_eq_getElem hp⟩
     have hy' := lks_get' hy
     have hd : out.drop p = y :: out.drop (p + 1) := by rw [List.getElem?_eq_some_iff] at hy; obtain ⟨_, rfl⟩ := hy; exact List.drop_eq_getElem_cons _
     by_cases c1 : y.a < x.a
     ·simp -dsimp [hp, hi, hy', hx', Lk.cs, c1, wrap_i64 (n := (p : Int) + 1) (by omega) (by omega)]
      refine ⟨⟨⟨p + 1, by omega, ?_⟩, GS.to (by simp), by simp; omega⟩, ⟨by kernel_rfl⟩⟩
      rw [p2, hd, lkPos, if_pos (by simp [Lk.before, c1])]; omega
     ·by_cases c2 : y.a = x.a
      ·by_cases c3 : y.b < x.b
       ·simp -dsimp [hp, hi, hy', hx', Lk.cs, c1, c2, c3, wrap_i64 (n := (p : Int) + 1) (by omega) (by omega)]
        refine ⟨⟨⟨p + 1, by omega, ?_⟩, GS.to (by simp), by simp; omega⟩, ⟨by kernel_rfl⟩⟩
        rw [p2, hd, lkPos, if_pos (by simp [Lk.before, c2, c3])]; omega
       ·have hq : lkPos x out = p := by rw [p2, hd, lkPos, if_neg (by simp [Lk.before, c2, c3])]; omega
        simp -dsimp [hp, hi, hy', c1, c2, c3, hx', Lk.cs, wrap_i64 (n := (i : Int) + 1) (by omega) (by omega)]
        and_intros
        all_goals try first | omega | exact ⟨by kernel_rfl⟩ | exact dLen_lks out | exact dLen_take (dLen_lks out) | exact dLen_drop (dLen_lks out) | exact dLen_drop (dLen_take (dLen_lks out)) | (simp; omega)
        refine ⟨⟨(i + 1, out.take p ++ [x] ++ out.drop p), by omega, by simp; omega, ?_⟩, GS.viewS 3 ?_, by simp; omega⟩
        ·rw [h3, hdl, ordL, hq]
        ·simp
         refine ⟨by omega, ?_⟩
         simp [lks, Lk.cs, List.take_of_length_le]
      ·have hq : lkPos x out = p := by rw [p2, hd, lkPos, if_neg (by simp [Lk.before, c1, c2])]; omega
       simp -dsimp [hp, hi, hy', c1, c2, hx', Lk.cs, wrap_i64 (n := (i : Int) + 1) (by omega) (by omega)]
       and_intros
       all_goals try first | omega | exact ⟨by kernel_rfl⟩ | exact dLen_lks out | exact dLen_take (dLen_lks out) | exact dLen_drop (dLen_lks out) | exact dLen_drop (dLen_take (dLen_lks out)) | (simp; omega)
       refine ⟨⟨(i + 1, out.take p ++ [x] ++ out.drop p), by omega, by simp; omega, ?_⟩, GS.viewS 3 ?_, by simp; omega⟩
       ·rw [h3, hdl, ordL, hq]
       ·simp
        refine ⟨by omega, ?_⟩
        simp [lks, Lk.cs, List.take_of_length_le]
    ·have hq : lkPos x out = p := by rw [p2, List.drop_eq_nil_of_le (by omega), lkPos]; omega
     simp -dsimp [hp, hi, hx', Lk.cs, wrap_i64 (n := (i : Int) + 1) (by omega) (by omega)]
     and_intros
     all_goals try first | omega | exact ⟨by kernel_rfl⟩ | exact dLen_lks out | exact dLen_take (dLen_lks out) | exact dLen_drop (dLen_lks out) | exact dLen_drop (dLen_take (dLen_lks out)) | (simp; omega)
     refine ⟨⟨(i + 1, out.take p ++ [x] ++ out.drop p), by omega, by simp; omega, ?_⟩, GS.viewS 3 ?_, by simp; omega⟩
     ·rw [h3, hdl, ordL, hq]
     ·simp
      refine ⟨by omega, ?_⟩
      simp [lks, Lk.cs, List.take_of_length_le]
  ·simp -dsimp
   refine Fin.of ?_
   have : l.drop i = [] := List.drop_eq_nil_of_le (by simpa using h)
   simp [h3, this, ordL]
end Go.Proofs

set_option linter.unusedSimpArgs false
set_option maxRecDepth 100000
namespace Go.Proofs
open Go Go.Tr
end Go.Proofs

set_option linter.unusedSimpArgs false
set_option maxRecDepth 100000
set_option maxHeartbeats 2000000
namespace Go.Proofs
open Go Go.Tr
def insB (n m : Int) : Bool := decide (0 ≤ n) && decide (n ≤ m)
theorem inside_c (n m : Int) : Contract Tryz.prog 188 [.d (.int .i64 n), .d (.int .i64 m)] [] (.d (.bool (insB n m))) [] [] := by
 refine contract_of Tryz.func188 rfl (fun E0 => ?_)
 refine awp.sound (g := .mk) (ow := []) (kp := (fun k => k==0||k==1||k==4)) ?_
 rw [Tryz.ntmps188]
 by_cases h : 0 ≤ n
 ·simp -dsimp [h]
  refine Fin.of ?_
  simp [insB, h]
 ·simp -dsimp [h]
  refine Fin.of ?_
  simp [insB, h]
theorem in_c (n m : Int) : Contract Tryz.prog 159 [.d (.int .i64 n), .d (.int .i64 m)] [] (.d (.bool (insB n m))) [] [] := by
 refine contract_of Tryz.func159 rfl (fun E0 => ?_)
 refine awp.sound (g := .mk) (ow := []) (kp := (fun k => k==0||k==1||k==4)) ?_
 rw [Tryz.ntmps159]
 by_cases h : 0 ≤ n
 ·simp -dsimp [h]
  refine Fin.of ?_
  simp [insB, h]
 ·simp -dsimp [h]
  refine Fin.of ?_
  simp [insB, h]
def validB (b : BitVec 64) (n : Int) : Bool := validLen n && decide (b &&& ~~~ fullB n = 0#64)
theorem validB_c (b : BitVec 64) (n : Int) : Contract Tryz.prog 189 [.d (bv b), .d (.int .i64 n)] [] (.d (.bool (validB b n))) [] [] := by
 refine contract_of Tryz.func189 rfl (fun E0 => ?_)
 refine awp.sound (g := .mk) (ow := []) (kp := (fun k => k==0||k==1||k==4)) ?_
 rw [Tryz.ntmps189]
 simp -dsimp [bv]
 refine ACall.of (validLength_c n) [] 0 ?_
 cases h : validLen n
 ·simp -dsimp [h, bv]
  refine Fin.of ?_
  simp [validB, h]
 ·simp -dsimp [h, bv]
  refine ACall.of (full_c n) [] 0 ?_
  simp -dsimp [h, bv]
  refine Fin.of ?_
  simp [validB, h]
theorem full_c2 (n : Int) : Contract Tryz.prog 198 [.d (.int .i64 n)] [] (.d (bv (fullB n))) [] [] := by
 refine contract_of Tryz.func198 rfl (fun E0 => ?_)
 refine awp.sound (g := .mk) (ow := []) (kp := (fun k => k==0||k==2||k==5)) ?_
 rw [Tryz.ntmps198]
 simp -dsimp [bv]
 refine ACall.of (validLength_c2 n) [] 0 ?_
 cases h : validLen n
 ·simp -dsimp [h, bv]
  refine Fin.of ?_
  simp [fullB, h]
 ·have hk : n = 8 ∨ n = 16 ∨ n = 32 ∨ n = 64 := by simp [validLen] at h; omega
  simp -dsimp [h, bv, wrap_i64 (n := 64 - n) (by omega) (by omega)]
  refine ⟨by omega, ?_⟩
  refine Fin.of ?_
  simp [fullB, h]
  rcases hk with rfl | rfl | rfl | rfl <;> decide
theorem validB_c2 (b : BitVec 64) (n : Int) : Contract Tryz.prog 160 [.d (bv b), .d (.int .i64 n)] [] (.d (.bool (validB b n))) [] [] := by
 refine contract_of Tryz.func160 rfl (fun E0 => ?_)
 refine awp.sound (g := .mk) (ow := []) (kp := (fun k => k==0||k==1||k==4)) ?_
 rw [Tryz.ntmps160]
 simp -dsimp [bv]
 refine ACall.of (validLength_c2 n) [] 0 ?_
 cases h : validLen n
 ·simp -dsimp [h, bv]
  refine Fin.of ?_
  simp [validB, h]
 ·simp -dsimp [h, bv]
  refine ACall.of (full_c2 n) [] 0 ?_
  simp -dsimp [h, bv]
  refine Fin.of ?_
  simp [validB, h]
def Pk.ok (p : Pk) : Bool := decide (1 ≤ p.mode) && (decide (p.mode ≤ 3) && (insB p.subd 7 && (insB p.set 31 && (validB p.bits p.len && (insB p.ttl 63 && (insB p.ent 1023 && (insB p.ing 256 && (insB p.proto 7 && decide (p.pay.size ≤ 64)))))))))
theorem valid_c (p : Pk) : Contract Tryz.prog 143 [pkT p] [] (.d (.bool p.ok)) [] [] := by
 refine contract_of Tryz.func143 rfl (fun E0 => ?_)
 refine awp.sound (g := .mk) (ow := []) (kp := (fun k => k==0||k==1||k==2)) ?_
 rw [Tryz.ntmps143]
 by_cases c1 : 1 ≤ p.mode
 rotate_left
 ·simp -dsimp [pkT, Pk.cs, c1]
  try refine ⟨?_, ⟨by kernel_rfl⟩⟩
  refine Fin.of ?_
  simp [Pk.ok, c1]
 by_cases c2 : p.mode ≤ 3
 rotate_left
 ·simp -dsimp [pkT, Pk.cs, c1, c2]
  try refine ⟨?_, ⟨by kernel_rfl⟩⟩
  refine Fin.of ?_
  simp [Pk.ok, c1, c2]
 simp -dsimp [pkT, Pk.cs, c1, c2]
 refine ACall.of (inside_c p.subd 7) [] 0 ?_
 cases d0 : insB p.subd 7
 ·simp -dsimp [pkT, Pk.cs, c1, c2, d0]
  try refine ⟨?_, ⟨by kernel_rfl⟩⟩
  refine Fin.of ?_
  simp [Pk.ok, c1, c2, d0]
 simp -dsimp [pkT, Pk.cs, c1, c2, d0]
 refine ACall.of (inside_c p.set 31) [] 0 ?_
 cases d1 : insB p.set 31
 ·simp -dsimp [pkT, Pk.cs, c1, c2, d0, d1]
  try refine ⟨?_, ⟨by kernel_rfl⟩⟩
  refine Fin.of ?_
  simp [Pk.ok, c1, c2, d0, d1]
 simp -dsimp [pkT, Pk.cs, c1, c2, d0, d1]
 refine ACall.of (validB_c p.bits p.len) [] 0 ?_
 cases d2 : validB p.bits p.len
 ·simp -dsimp [pkT, Pk.cs, c1, c2, d0, d1, d2]
  try refine ⟨?_, ⟨by kernel_rfl⟩⟩
  refine Fin.of ?_
  simp [Pk.ok, c1, c2, d0, d1, d2]
 simp -dsimp [pkT, Pk.cs, c1, c2, d0, d1, d2]
 refine ACall.of (inside_c p.ttl 63) [] 0 ?_
 cases d3 : insB p.ttl 63
 ·simp -dsimp [pkT, Pk.cs, c1, c2, d0, d1, d2, d3]
  try refine ⟨?_, ⟨by kernel_rfl⟩⟩
  refine Fin.of ?_
  simp [Pk.ok, c1, c2, d0, d1, d2, d3]
 simp -dsimp [pkT, Pk.cs, c1, c2, d0, d1, d2, d3]
 refine ACall.of (inside_c p.ent 1023) [] 0 ?_
 cases d4 : insB p.ent 1023
 ·simp -dsimp [pkT, Pk.cs, c1, c2, d0, d1, d2, d3, d4]
  try refine ⟨?_, ⟨by kernel_rfl⟩⟩
  refine Fin.of ?_
  simp [Pk.ok, c1, c2, d0, d1, d2, d3, d4]
 simp -dsimp [pkT, Pk.cs, c1, c2, d0, d1, d2, d3, d4]
 refine ACall.of (inside_c p.ing 256) [] 0 ?_
 cases d5 : insB p.ing 256
 ·simp -dsimp [pkT, Pk.cs, c1, c2, d0, d1, d2, d3, d4, d5]
  try refine ⟨?_, ⟨by kernel_rfl⟩⟩
  refine Fin.of ?_
  simp [Pk.ok, c1, c2, d0, d1, d2, d3, d4, d5]
 simp -dsimp [pkT, Pk.cs, c1, c2, d0, d1, d2, d3, d4, d5]
 refine ACall.of (inside_c p.proto 7) [] 0 ?_
 cases d6 : insB p.proto 7
 ·simp -dsimp [pkT, Pk.cs, c1, c2, d0, d1, d2, d3, d4, d5, d6]
  try refine ⟨?_, ⟨by kernel_rfl⟩⟩
  refine Fin.of ?_
  simp [Pk.ok, c1, c2, d0, d1, d2, d3, d4, d5, d6]
 simp -dsimp [pkT, Pk.cs, c1, c2, d0, d1, d2, d3, d4, d5, d6]
 try refine ⟨?_, ⟨by kernel_rfl⟩⟩
 refine Fin.of ?_
 simp [Pk.ok, c1, c2, d0, d1, d2, d3, d4, d5, d6]
 omega
theorem valid_c2 (p : Pk) : Contract Tryz.prog 128 [pkT p] [] (.d (.bool p.ok)) [] [] := by
 refine contract_of Tryz.func128 rfl (fun E0 => ?_)
 refine awp.sound (g := .mk) (ow := []) (kp := (fun k => k==0||k==1||k==2)) ?_
 rw [Tryz.ntmps128]
 by_cases c1 : 1 ≤ p.mode
 rotate_left
 ·simp -dsimp [pkT, Pk.cs, c1]
  try refine ⟨?_, ⟨by kernel_rfl⟩⟩
  refine Fin.of ?_
  simp [Pk.ok, c1]
 by_cases c2 : p.mode ≤ 3
 rotate_left
 ·simp -dsimp [pkT, Pk.cs, c1, c2]
  try refine ⟨?_, ⟨by kernel_rfl⟩⟩
  refine Fin.of ?_
  simp [Pk.ok, c1, c2]
 simp -dsimp [pkT, Pk.cs, c1, c2]
 refine ACall.of (in_c p.subd 7) [] 0 ?_
 cases d0 : insB p.subd 7
 ·simp -dsimp [pkT, Pk.cs, c1, c2, d0]
  try refine ⟨?_, ⟨by kernel_rfl⟩⟩
  refine Fin.of ?_
  simp [Pk.ok, c1, c2, d0]
 simp -dsimp [pkT, Pk.cs, c1, c2, d0]
 refine ACall.of (in_c p.set 31) [] 0 ?_
 cases d1 : insB p.set 31
 ·simp -dsimp [pkT, Pk.cs, c1, c2, d0, d1]
  try refine ⟨?_, ⟨by kernel_rfl⟩⟩
  refine Fin.of ?_
  simp [Pk.ok, c1, c2, d0, d1]
 simp -dsimp [pkT, Pk.cs, c1, c2, d0, d1]
 refine ACall.of (validB_c2 p.bits p.len) [] 0 ?_
 cases d2 : validB p.bits p.len
 ·simp -dsimp [pkT, Pk.cs, c1, c2, d0, d1, d2]
  try refine ⟨?_, ⟨by kernel_rfl⟩⟩
  refine Fin.of ?_
  simp [Pk.ok, c1, c2, d0, d1, d2]
 simp -dsimp [pkT, Pk.cs, c1, c2, d0, d1, d2]
 refine ACall.of (in_c p.ttl 63) [] 0 ?_
 cases d3 : insB p.ttl 63
 ·simp -dsimp [pkT, Pk.cs, c1, c2, d0, d1, d2, d3]
  try refine ⟨?_, ⟨by kernel_rfl⟩⟩
  refine Fin.of ?_
  simp [Pk.ok, c1, c2, d0, d1, d2, d3]
 simp -dsimp [pkT, Pk.cs, c1, c2, d0, d1, d2, d3]
 refine ACall.of (in_c p.ent 1023) [] 0 ?_
 cases d4 : insB p.ent 1023
 ·simp -dsimp [pkT, Pk.cs, c1, c2, d0, d1, d2, d3, d4]
  try refine ⟨?_, ⟨by kernel_rfl⟩⟩
  refine Fin.of ?_
  simp [Pk.ok, c1, c2, d0, d1, d2, d3, d4]
 simp -dsimp [pkT, Pk.cs, c1, c2, d0, d1, d2, d3, d4]
 refine ACall.of (in_c p.ing 256) [] 0 ?_
 cases d5 : insB p.ing 256
 ·simp -dsimp [pkT, Pk.cs, c1, c2, d0, d1, d2, d3, d4, d5]
  try refine ⟨?_, ⟨by kernel_rfl⟩⟩
  refine Fin.of ?_
  simp [Pk.ok, c1, c2, d0, d1, d2, d3, d4, d5]
 simp -dsimp [pkT, Pk.cs, c1, c2, d0, d1, d2, d3, d4, d5]
 refine ACall.of (in_c p.proto 7) [] 0 ?_
 cases d6 : insB p.proto 7
 ·simp -dsimp [pkT, Pk.cs, c1, c2, d0, d1, d2, d3, d4, d5, d6]
  try refine ⟨?_, ⟨by kernel_rfl⟩⟩
  refine Fin.of ?_
  simp [Pk.ok, c1, c2, d0, d1, d2, d3, d4, d5, d6]
 simp -dsimp [pkT, Pk.cs, c1, c2, d0, d1, d2, d3, d4, d5, d6]
 try refine ⟨?_, ⟨by kernel_rfl⟩⟩
 refine Fin.of ?_
 simp [Pk.ok, c1, c2, d0, d1, d2, d3, d4, d5, d6]
 omega
end Go.Proofs

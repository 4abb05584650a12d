/-
  What functions of the program compute, stated as contracts over plain data; the conditions of each stand in its own statement.
-/
import Derived.Test.YteenclepbpajdaaG2
set_option linter.unusedSimpArgs false
namespace Go.Proofs
open Go Go.Tr

def gBits (T : Tp) (k : Int) : BitVec 64 × Tp :=
  let r1 := gRaw T
  let r2 := gRaw r1.2
  let s := gNext r2.2 6
  if s.1 = 0 then (0#64, s.2)
  else if s.1 = 1 then (bitB (gNext s.2 k).1 &&& fullB k, (gNext s.2 k).2)
  else if s.1 = 2 then (~~~ 0#64 &&& fullB k, s.2)
  else ((wu (tn (wu r1.1) * 11400714819323198485) ^^^ wu r2.1) &&& fullB k, s.2)
/-- put x at a place -/
def gOrderL : Nat → Nat → Tp → List Int → List Int × Tp
  | 0, _, T, out => (out, T)
  | n + 1, i, T, out => gOrderL n (i + 1) (gNext T (i + 1)).2 (out.take (gNext T (i + 1)).1.toNat ++ [(i : Int)] ++ out.drop (gNext T (i + 1)).1.toNat)
def gOrder (T : Tp) (n : Int) : List Int × Tp := gOrderL n.toNat 0 T []
theorem order_c (T : Tp) (hT : TapeOK T) (n : Int) (hn : n ≤ 1000) : Contract Try.prog 26 [.ptr (.x 0) 0, .d (.int .i64 n)] [tapeI T] (.d (ints (gOrder T n).1)) [tapeI (gOrder T n).2] [] := by
  refine contract_of Try.func26 rfl (fun E0 => ?_)
  refine awp.sound (g := .mk) (ow := []) (kp := (fun k => k == 0 || k == 1 || k == 4 || k == 5 || k == 6 || k == 7 || k == 8 || k == 11)) ?_
  rw [Try.ntmps26]
  simp -dsimp
  refine ALoop.of [] (fun k => k == 0 || k == 1 || k == 4 || k == 5 || k == 6 || k == 7 || k == 8 || k == 11) (ι := { i : Nat × Tp × List Int // TapeOK i.2.1 ∧ i.2.2.length = i.1 ∧ (i.1 : Int) ≤ max n 0 ∧ gOrder T n = gOrderL (n.toNat - i.1) i.1 i.2.1 i.2.2 }) (fun i => [(Pl.s 0, It.v (TV.ptr (Pl.x 0) 0)), (Pl.s 1, It.v (TV.d (D.int IntKind.i64 n))), (Pl.x 0, tapeI i.1.2.1),
        (Pl.s 4, It.v (TV.c (Value.slice none 0 0))), (Pl.s 5, It.v (.d (ints i.1.2.2))),
        (Pl.s 6, It.v (TV.d (D.int IntKind.i64 i.1.1)))]) (fun i => n.toNat - i.1.1) ⟨(0, T, []), hT, rfl, by simp; omega, rfl⟩ ?_ ?_
  · exact GS.viewS 5 (by simp [ints])
  · rintro ⟨⟨i, T', out⟩, h1, h2, h3, h4⟩
    simp only at h1 h2 h3 h4
    simp -dsimp [ints]
    refine AIf.dec (fun h => ?_) (fun h => ?_)
    · simp -dsimp [wrap_i64 (n := (i : Int) + 1) (by omega) (by omega)]
      refine ACall.of (next_c T' h1 (i + 1) ⟨by omega, by omega⟩) [.x 0] 0 ?_
      have g1 := gNext_nonneg T' (i + 1)
      have g2 := gNext_lt T' (n := i + 1) (by omega)
      simp -dsimp [wrap_i64 (n := (i : Int) + 1) (by omega) (by omega)]
      have dl : dLen 1 (out.map fun x => [D.int .i64 x]) := dLen_map 1 _ _ fun _ => rfl
      and_intros
      all_goals try first | omega | exact dLen_take dl | exact dLen_drop (dLen_take dl) | (simp; omega)
      refine ⟨⟨(i + 1, (gNext T' (i + 1)).2, out.take (gNext T' (i + 1)).1.toNat ++ [(i : Int)] ++ out.drop (gNext T' (i + 1)).1.toNat), by simpa using h1, by simp; omega, by simp; omega, ?_⟩, GS.viewS 5 ?_, by simp; omega⟩
      · rw [h4, show n.toNat - i = n.toNat - (i + 1) + 1 by omega]; rfl
      · simp [ints]
        exact ⟨by omega, by rw [List.take_of_length_le (by simp)]⟩
    · simp -dsimp
      refine Fin.view 4 ?_
      simp -dsimp
      refine Fin.of ?_
      have : n.toNat - i = 0 := by omega
      simp [h4, this, gOrderL, ints]
structure Pk where
  mode : Int
  subd : Int
  set : Int
  len : Int
  ttl : Int
  ent : Int
  ing : Int
  proto : Int
  bits : BitVec 64
  pay : ByteArray
def Pk.cs (p : Pk) : List D := [.int .i64 p.mode, .int .i64 p.subd, .int .i64 p.set, .int .i64 p.len, .int .i64 p.ttl, .int .i64 p.ent, .int .i64 p.ing, .int .i64 p.proto, bv p.bits, .str p.pay]

def gPk0 (T : Tp) : Pk × Tp :=
  let L := gPick T [8, 8, 16, 32, 64]
  let m := gRange L.2 1 3
  let d := gRange m.2 0 7
  let s := gPick d.2 [0, 0, 1, 2, 31]
  let t := gPick s.2 [0, 1, 2, 5, 63]
  let e := gNext t.2 1024
  let i := gPick e.2 [0, 1, 8, 255, 256]
  let p := gNext i.2 8
  let b := gBits p.2 L.1
  let y := gText b.2 6
  (⟨m.1, d.1, s.1, L.1, t.1, e.1, i.1, p.1, b.1, strOf y.1⟩, y.2)

theorem gPick_i64 (T : Tp) (l : List Int) (h : ∀ x ∈ l, I64 x) : I64 (gPick T l).1 := by
  unfold gPick
  rw [List.getD_eq_getElem?_getD]
  cases hl : l[(gNext T l.length).1.toNat]? with
  | none => simp [I64]
  | some x => exact h x (List.mem_of_getElem? hl)

theorem gTextL_ok : ∀ (n : Nat) (T : Tp), TapeOK (gTextL n T).2 = TapeOK T
  | 0, T => rfl
  | n + 1, T => by simp [gTextL, gTextL_ok n]
@[simp] theorem gText_ok (T : Tp) (k : Int) : TapeOK (gText T k).2 = TapeOK T := by simp [gText, gTextL_ok]
@[simp] theorem gBits_ok (T : Tp) (k : Int) : TapeOK (gBits T k).2 = TapeOK T := by
  simp only [gBits]
  split
  · simp
  · split
    · simp
    · split <;> simp
theorem gTextL_len : ∀ (n : Nat) (T : Tp), (gTextL n T).1.length = n
  | 0, T => rfl
  | n + 1, T => by simp [gTextL, gTextL_len n]
theorem strOf_size (l : List Int) : (strOf l).size = l.length := by
  have : ∀ (l : List Int) (r : ByteArray), (l.foldl (fun r n => r.push (UInt8.ofNat n.toNat)) r).size = r.size + l.length := by
    intro l
    induction l with
    | nil => intro r; simp
    | cons x l ih => intro r; simp [ih]; omega
  simpa [strOf] using this l ByteArray.empty
theorem gText_size (T : Tp) {k : Int} (hk : 0 ≤ k) : (strOf (gText T k).1).size ≤ k.toNat := by
  have := gRange_hi T (a := 0) (b := k) hk
  rw [strOf_size, gText, gTextL_len]
  omega
def abc : ByteArray := ⟨#[97, 98, 99]⟩
def grow : Nat → ByteArray → ByteArray
  | 0, s => s
  | n + 1, s => if s.size < 62 then grow n (s ++ abc) else s
def gSpoilP (T : Tp) (p : Pk) : Pk × Tp :=
  let s := gNext T 9
  if s.1 = 0 then (⟨(gWild s.2).1, p.subd, p.set, p.len, p.ttl, p.ent, p.ing, p.proto, p.bits, p.pay⟩, (gWild s.2).2)
  else if s.1 = 1 then (⟨p.mode, (gWild s.2).1, p.set, p.len, p.ttl, p.ent, p.ing, p.proto, p.bits, p.pay⟩, (gWild s.2).2)
  else if s.1 = 2 then (⟨p.mode, p.subd, (gWild s.2).1, p.len, p.ttl, p.ent, p.ing, p.proto, p.bits, p.pay⟩, (gWild s.2).2)
  else if s.1 = 3 then (⟨p.mode, p.subd, p.set, (gPick s.2 [0, 8, 16, 24, 63, 64, 65, -8]).1, p.ttl, p.ent, p.ing, p.proto, p.bits, p.pay⟩, (gPick s.2 [0, 8, 16, 24, 63, 64, 65, -8]).2)
  else if s.1 = 4 then (⟨p.mode, p.subd, p.set, p.len, (gWild s.2).1, p.ent, p.ing, p.proto, p.bits, p.pay⟩, (gWild s.2).2)
  else if s.1 = 5 then (⟨p.mode, p.subd, p.set, p.len, p.ttl, (gWild s.2).1, p.ing, p.proto, p.bits, p.pay⟩, (gWild s.2).2)
  else if s.1 = 6 then (⟨p.mode, p.subd, p.set, p.len, p.ttl, p.ent, (gWild s.2).1, p.proto, p.bits, p.pay⟩, (gWild s.2).2)
  else if s.1 = 7 then (⟨p.mode, p.subd, p.set, p.len, p.ttl, p.ent, p.ing, (gWild s.2).1, p.bits, p.pay⟩, (gWild s.2).2)
  else (⟨p.mode, p.subd, p.set, p.len, p.ttl, p.ent, p.ing, p.proto, p.bits, grow 62 p.pay ++ strOf (gText s.2 4).1⟩, (gText s.2 4).2)
def gPacket (T : Tp) (n : Int) : Pk × Tp :=
  if 0 < n then
    if (gOne (gPk0 T).2 n).1 then gSpoilP (gOne (gPk0 T).2 n).2 (gPk0 T).1 else ((gPk0 T).1, (gOne (gPk0 T).2 n).2)
  else gPk0 T
def pkT (p : Pk) : TV := .agg (p.cs.map .d)

set_option maxHeartbeats 2000000 in
theorem new_c (l : List Int) : Contract Try.prog 4 [.d (ints l)] [] (.ptr (.o 10) 0) [] [(10, tapeI (l.take 600, 0))] := by
  refine contract_of Try.func4 rfl (fun E0 => ?_)
  refine awp.sound (g := .mk) (ow := []) (kp := (fun k => k == 0 || k == 2 || k == 5)) ?_
  rw [Try.ntmps4]
  simp -dsimp [ints]
  refine AIf.dec (fun h => ?_) (fun h => ?_)
  · simp -dsimp
    refine ⟨by omega, ?_⟩
    refine Fin.of ?_
    simp [tapeI, ints]
  · simp -dsimp
    refine Fin.of ?_
    simp [tapeI, ints, List.take_of_length_le (show l.length ≤ 600 by omega)]
end Go.Proofs

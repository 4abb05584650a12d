/-
  What functions of the program compute, stated as contracts over plain data; the conditions of each stand in its own statement.
-/
import Derived.Test.YtbjbhnidedfcfaaG2
set_option linter.unusedSimpArgs false
namespace Go.Proofs
open Go Go.Tr

def gBits (T : Tp) (k : Int) : BitVec 64 × Tp :=
  let r1 := gRaw T
  let r2 := gRaw r1.2
  let s := gNext r2.2 6
  if s.1 = 0 then (0#64, s.2)
  else if s.1 = 1 then (bitB (gNext s.2 k).1 &&& fullB k, (gNext s.2 k).2)
  else if s.1 = 2 then (~~~ 0#64 &&& fullB k, s.2)
  else ((wu (tn (wu r1.1) * 11400714819323198485) ^^^ wu r2.1) &&& fullB k, s.2)
theorem bits_c (T : Tp) (hT : TapeOK T) (k : Int) (hk : I64 k) : Contract Try.prog 44 [.ptr (.x 0) 0, .d (.int .i64 k)] [tapeI T] (.d (bv (gBits T k).1)) [tapeI (gBits T k).2] [] := by
  refine contract_of Try.func44 rfl (fun E0 => ?_)
  refine awp.sound (g := .mk) (ow := []) (kp := (fun k => k == 0 || k == 1 || k == 4 || k == 5 || k == 15 || k == 16 || k == 18 || k == 24)) ?_
  rw [Try.ntmps44]
  simp -dsimp
  refine ACall.of (raw_c T hT) [.x 0] 0 ?_
  simp -dsimp [wrap_tn]
  refine ACall.of (raw_c (gRaw T).2 (by simpa using hT)) [.x 0] 0 ?_
  simp -dsimp [wrap_tn]
  refine ACall.of (next_c (gRaw (gRaw T).2).2 (by simpa using hT) 6 ⟨by omega, by omega⟩) [.x 0] 0 ?_
  simp -dsimp [wrap_tn]
  refine AIf.dec (fun h0 => ?_) (fun h0 => ?_)
  · simp -dsimp [wrap_tn]
    refine ACall.of (full_c k) [] 0 ?_
    simp -dsimp [wrap_tn, bv]
    refine Fin.of ?_
    simp [gBits, h0, bv]
  · simp -dsimp [h0]
    refine AIf.dec (fun h1 => ?_) (fun h1 => ?_)
    · simp -dsimp [wrap_tn]
      refine ACall.of (next_c (gNext (gRaw (gRaw T).2).2 6).2 (by simpa using hT) k hk) [.x 0] 0 ?_
      simp -dsimp
      refine ACall.of (bit_c (gNext (gNext (gRaw (gRaw T).2).2 6).2 k).1) [] 0 ?_
      simp -dsimp
      refine ACall.of (full_c k) [] 0 ?_
      simp -dsimp [wrap_tn, bv]
      refine Fin.of ?_
      simp [gBits, h0, h1, bv]
    · simp -dsimp [h1]
      refine AIf.dec (fun h2 => ?_) (fun h2 => ?_)
      · simp -dsimp
        refine ACall.of (full_c k) [] 0 ?_
        simp -dsimp [wrap_tn, bv]
        refine Fin.of ?_
        simp [gBits, h0, h1, h2, bv]
        try rfl
      · simp -dsimp
        refine ACall.of (full_c k) [] 0 ?_
        simp -dsimp [wrap_tn, bv]
        refine Fin.of ?_
        simp [gBits, h0, h1, h2, bv]

/-- put x at a place -/
def gOrderL : Nat → Nat → Tp → List Int → List Int × Tp
  | 0, _, T, out => (out, T)
  | n + 1, i, T, out => gOrderL n (i + 1) (gNext T (i + 1)).2 (out.take (gNext T (i + 1)).1.toNat ++ [(i : Int)] ++ out.drop (gNext T (i + 1)).1.toNat)
def gOrder (T : Tp) (n : Int) : List Int × Tp := gOrderL n.toNat 0 T []
theorem order_c (T : Tp) (hT : TapeOK T) (n : Int) (hn : n ≤ 1000) : Contract Try.prog 40 [.ptr (.x 0) 0, .d (.int .i64 n)] [tapeI T] (.d (ints (gOrder T n).1)) [tapeI (gOrder T n).2] [] := by
  refine contract_of Try.func40 rfl (fun E0 => ?_)
  refine awp.sound (g := .mk) (ow := []) (kp := (fun k => k == 0 || k == 1 || k == 4 || k == 5 || k == 6 || k == 7 || k == 8 || k == 11)) ?_
  rw [Try.ntmps40]
  simp -dsimp
  refine ALoop.of [] (fun k => k == 0 || k == 1 || k == 4 || k == 5 || k == 6 || k == 7 || k == 8 || k == 11) (ι := { i : Nat × Tp × List Int // TapeOK i.2.1 ∧ i.2.2.length = i.1 ∧ (i.1 : Int) ≤ max n 0 ∧ gOrder T n = gOrderL (n.toNat - i.1) i.1 i.2.1 i.2.2 }) (fun i => [(Pl.s 0, It.v (TV.ptr (Pl.x 0) 0)), (Pl.s 1, It.v (TV.d (D.int IntKind.i64 n))), (Pl.x 0, tapeI i.1.2.1),
        (Pl.s 4, It.v (TV.c (Value.slice none 0 0))), (Pl.s 5, It.v (.d (ints i.1.2.2))),
        (Pl.s 6, It.v (TV.d (D.int IntKind.i64 i.1.1)))]) (fun i => n.toNat - i.1.1) ⟨(0, T, []), hT, rfl, by simp; omega, rfl⟩ ?_ ?_
  · exact GS.viewS 5 (by simp [ints])
  · rintro ⟨⟨i, T', out⟩, h1, h2, h3, h4⟩
    simp only at h1 h2 h3 h4
    simp -dsimp [ints]
    refine AIf.dec (fun h => ?_) (fun h => ?_)
    · simp -dsimp [wrap_i64 (n := (i : Int) + 1) (by omega) (by omega)]
      refine ACall.of (next_c T' h1 (i + 1) ⟨by omega, by omega⟩) [.x 0] 0 ?_
      have g1 := gNext_nonneg T' (i + 1)
      have g2 := gNext_lt T' (n := i + 1) (by omega)
      simp -dsimp [wrap_i64 (n := (i : Int) + 1) (by omega) (by omega)]
      have dl : dLen 1 (out.map fun x => [D.int .i64 x]) := dLen_map 1 _ _ fun _ => rfl
      and_intros
      all_goals try first | omega | exact dLen_take dl | exact dLen_drop (dLen_take dl) | (simp; omega)
      refine ⟨⟨(i + 1, (gNext T' (i + 1)).2, out.take (gNext T' (i + 1)).1.toNat ++ [(i : Int)] ++ out.drop (gNext T' (i + 1)).1.toNat), by simpa using h1, by simp; omega, by simp; omega, ?_⟩, GS.viewS 5 ?_, by simp; omega⟩
      · rw [h4, show n.toNat - i = n.toNat - (i + 1) + 1 by omega]; rfl
      · simp [ints]
        exact ⟨by omega, by rw [List.take_of_length_le (by simp)]⟩
    · simp -dsimp
      refine Fin.view 4 ?_
      simp -dsimp
      refine Fin.of ?_
      have : n.toNat - i = 0 := by omega
      simp [h4, this, gOrderL, ints]
structure Pk where
  mode : Int
  subd : Int
  set : Int
  len : Int
  ttl : Int
  ent : Int
  ing : Int
  proto : Int
  bits : BitVec 64
  pay : ByteArray
def Pk.cs (p : Pk) : List D := [.int .i64 p.mode, .int .i64 p.subd, .int .i64 p.set, .int .i64 p.len, .int .i64 p.ttl, .int .i64 p.ent, .int .i64 p.ing, .int .i64 p.proto, bv p.bits, .str p.pay]

def gPk0 (T : Tp) : Pk × Tp :=
  let L := gPick T [8, 8, 16, 32, 64]
  let m := gRange L.2 1 3
  let d := gRange m.2 0 7
  let s := gPick d.2 [0, 0, 1, 2, 31]
  let t := gPick s.2 [0, 1, 2, 5, 63]
  let e := gNext t.2 1024
  let i := gPick e.2 [0, 1, 8, 255, 256]
  let p := gNext i.2 8
  let b := gBits p.2 L.1
  let y := gText b.2 6
  (⟨m.1, d.1, s.1, L.1, t.1, e.1, i.1, p.1, b.1, strOf y.1⟩, y.2)

theorem gPick_i64 (T : Tp) (l : List Int) (h : ∀ x ∈ l, I64 x) : I64 (gPick T l).1 := by
  unfold gPick
  rw [List.getD_eq_getElem?_getD]
  cases hl : l[(gNext T l.length).1.toNat]? with
  | none => simp [I64]
  | some x => exact h x (List.mem_of_getElem? hl)

theorem gTextL_ok : ∀ (n : Nat) (T : Tp), TapeOK (gTextL n T).2 = TapeOK T
  | 0, T => rfl
  | n + 1, T => by simp [gTextL, gTextL_ok n]
@[simp] theorem gText_ok (T : Tp) (k : Int) : TapeOK (gText T k).2 = TapeOK T := by simp [gText, gTextL_ok]
@[simp] theorem gBits_ok (T : Tp) (k : Int) : TapeOK (gBits T k).2 = TapeOK T := by
  simp only [gBits]
  split
  · simp
  · split
    · simp
    · split <;> simp
theorem gTextL_len : ∀ (n : Nat) (T : Tp), (gTextL n T).1.length = n
  | 0, T => rfl
  | n + 1, T => by simp [gTextL, gTextL_len n]
theorem strOf_size (l : List Int) : (strOf l).size = l.length := by
  have : ∀ (l : List Int) (r : ByteArray), (l.foldl (fun r n => r.push (UInt8.ofNat n.toNat)) r).size = r.size + l.length := by
    intro l
    induction l with
    | nil => intro r; simp
    | cons x l ih => intro r; simp [ih]; omega
  simpa [strOf] using this l ByteArray.empty
theorem gText_size (T : Tp) {k : Int} (hk : 0 ≤ k) : (strOf (gText T k).1).size ≤ k.toNat := by
  have := gRange_hi T (a := 0) (b := k) hk
  rw [strOf_size, gText, gTextL_len]
  omega
def abc : ByteArray := ⟨#[97, 98, 99]⟩
def grow : Nat → ByteArray → ByteArray
  | 0, s => s
  | n + 1, s => if s.size < 62 then grow n (s ++ abc) else s
def gSpoilP (T : Tp) (p : Pk) : Pk × Tp :=
  let s := gNext T 9
  if s.1 = 0 then (⟨(gWild s.2).1, p.subd, p.set, p.len, p.ttl, p.ent, p.ing, p.proto, p.bits, p.pay⟩, (gWild s.2).2)
  else if s.1 = 1 then (⟨p.mode, (gWild s.2).1, p.set, p.len, p.ttl, p.ent, p.ing, p.proto, p.bits, p.pay⟩, (gWild s.2).2)
  else if s.1 = 2 then (⟨p.mode, p.subd, (gWild s.2).1, p.len, p.ttl, p.ent, p.ing, p.proto, p.bits, p.pay⟩, (gWild s.2).2)
  else if s.1 = 3 then (⟨p.mode, p.subd, p.set, (gPick s.2 [0, 8, 16, 24, 63, 64, 65, -8]).1, p.ttl, p.ent, p.ing, p.proto, p.bits, p.pay⟩, (gPick s.2 [0, 8, 16, 24, 63, 64, 65, -8]).2)
  else if s.1 = 4 then (⟨p.mode, p.subd, p.set, p.len, (gWild s.2).1, p.ent, p.ing, p.proto, p.bits, p.pay⟩, (gWild s.2).2)
  else if s.1 = 5 then (⟨p.mode, p.subd, p.set, p.len, p.ttl, (gWild s.2).1, p.ing, p.proto, p.bits, p.pay⟩, (gWild s.2).2)
  else if s.1 = 6 then (⟨p.mode, p.subd, p.set, p.len, p.ttl, p.ent, (gWild s.2).1, p.proto, p.bits, p.pay⟩, (gWild s.2).2)
  else if s.1 = 7 then (⟨p.mode, p.subd, p.set, p.len, p.ttl, p.ent, p.ing, (gWild s.2).1, p.bits, p.pay⟩, (gWild s.2).2)
  else (⟨p.mode, p.subd, p.set, p.len, p.ttl, p.ent, p.ing, p.proto, p.bits, grow 62 p.pay ++ strOf (gText s.2 4).1⟩, (gText s.2 4).2)
def gPacket (T : Tp) (n : Int) : Pk × Tp :=
  if 0 < n then
    if (gOne (gPk0 T).2 n).1 then gSpoilP (gOne (gPk0 T).2 n).2 (gPk0 T).1 else ((gPk0 T).1, (gOne (gPk0 T).2 n).2)
  else gPk0 T
def pkT (p : Pk) : TV := .agg (p.cs.map .d)

set_option maxHeartbeats 2000000 in
theorem packet_c (T : Tp) (hT : TapeOK T) (n : Int) (hn : I64 n) : Contract Try.prog 15 [.ptr (.x 0) 0, .d (.int .i64 n)] [tapeI T] (pkT (gPacket T n).1) [tapeI (gPacket T n).2] [] := by
  refine contract_of Try.func15 rfl (fun E0 => ?_)
  refine awp.sound (g := .mk) (ow := []) (kp := (fun k => k == 0 || k == 1 || k == 4 || k == 5 || k == 6 || k == 39 || k == 41 || k == 45 || k == 56 || k == 61 || k == 66 || k == 71 || k == 77 || k == 82 || k == 87 || k == 92)) ?_
  rw [Try.ntmps15]
  simp -dsimp
  refine ACall.of (length_c T hT) [.x 0] 0 ?_
  simp -dsimp
  generalize hL : gPick T [8, 8, 16, 32, 64] = L
  have kL : TapeOK L.2 := by rw [← hL]; simpa using hT
  have iL : I64 L.1 := by rw [← hL]; exact gPick_i64 _ _ (by simp [I64])
  have b1 := gRange_lo L.2 1 3
  have b2 := gRange_hi L.2 (a := 1) (b := 3) (by omega)
  refine ACall.of (range_c L.2 kL 1 3 ⟨by omega, by omega⟩ ⟨by omega, by omega⟩ ⟨by omega, by omega⟩ ⟨by omega, by omega⟩) [.x 0] 0 ?_
  simp -dsimp
  generalize hm : gRange L.2 1 3 = m at b1 b2 ⊢
  have km : TapeOK m.2 := by rw [← hm]; simpa using kL
  have b3 := gRange_lo m.2 0 7
  have b4 := gRange_hi m.2 (a := 0) (b := 7) (by omega)
  refine ACall.of (range_c m.2 km 0 7 ⟨by omega, by omega⟩ ⟨by omega, by omega⟩ ⟨by omega, by omega⟩ ⟨by omega, by omega⟩) [.x 0] 0 ?_
  simp -dsimp
  generalize hd : gRange m.2 0 7 = d at b3 b4 ⊢
  have kd : TapeOK d.2 := by rw [← hd]; simpa using km
  refine ACall.of (pick_c d.2 kd [0, 0, 1, 2, 31] (by simp) (by simp)) [.x 0] 0 ?_
  simp -dsimp [ints]
  generalize hs : gPick d.2 [0, 0, 1, 2, 31] = s
  have ks : TapeOK s.2 := by rw [← hs]; simpa using kd
  refine ACall.of (pick_c s.2 ks [0, 1, 2, 5, 63] (by simp) (by simp)) [.x 0] 0 ?_
  simp -dsimp [ints]
  generalize ht : gPick s.2 [0, 1, 2, 5, 63] = t
  have kt : TapeOK t.2 := by rw [← ht]; simpa using ks
  refine ACall.of (next_c t.2 kt 1024 ⟨by omega, by omega⟩) [.x 0] 0 ?_
  simp -dsimp
  generalize he : gNext t.2 1024 = e
  have ke : TapeOK e.2 := by rw [← he]; simpa using kt
  refine ACall.of (pick_c e.2 ke [0, 1, 8, 255, 256] (by simp) (by simp)) [.x 0] 0 ?_
  simp -dsimp [ints]
  generalize hi : gPick e.2 [0, 1, 8, 255, 256] = i
  have ki : TapeOK i.2 := by rw [← hi]; simpa using ke
  refine ACall.of (next_c i.2 ki 8 ⟨by omega, by omega⟩) [.x 0] 0 ?_
  simp -dsimp
  generalize hp : gNext i.2 8 = p
  have kp : TapeOK p.2 := by rw [← hp]; simpa using ki
  refine ACall.of (bits_c p.2 kp L.1 iL) [.x 0] 0 ?_
  simp -dsimp
  generalize hb : gBits p.2 L.1 = b
  have kb : TapeOK b.2 := by rw [← hb]; simpa using kp
  refine ACall.of (text_c b.2 kb 6 (by omega)) [.x 0] 0 ?_
  simp -dsimp
  generalize hy : gText b.2 6 = y
  have ky : TapeOK y.2 := by rw [← hy]; simpa using kb
  have g0 : gPk0 T = (⟨m.1, d.1, s.1, L.1, t.1, e.1, i.1, p.1, b.1, strOf y.1⟩, y.2) := by
    simp only [gPk0, hL, hm, hd, hs, ht, he, hi, hp, hb, hy]
  by_cases hn0 : 0 < n
  · simp -dsimp [hn0]
    refine ACall.of (one_c y.2 ky n hn ⟨by omega, by have := hn.2; omega⟩) [.x 0] 0 ?_
    simp -dsimp [hn0]
    generalize ho : gOne y.2 n = o
    have ko : TapeOK o.2 := by rw [← ho]; simpa using ky
    cases ho1 : o.1
    · simp -dsimp [ho1]
      refine Fin.of ?_
      simp [gPacket, hn0, g0, ho, ho1, pkT, Pk.cs]
    · simp -dsimp [ho1]
      refine ACall.of (next_c o.2 ko 9 ⟨by omega, by omega⟩) [.x 0] 0 ?_
      simp -dsimp
      generalize hq : gNext o.2 9 = q
      have kq : TapeOK q.2 := by rw [← hq]; simpa using ko
      refine AIf.dec (fun c0 => ?_) (fun c0 => ?_)
      · simp -dsimp
        refine ACall.of (wild_c q.2 kq) [.x 0] 0 ?_
        simp -dsimp [ints]
        refine Fin.of ?_
        simp [gPacket, hn0, g0, ho, ho1, gSpoilP, hq, pkT, Pk.cs, c0]
      · simp -dsimp [c0]
        refine AIf.dec (fun c1 => ?_) (fun c1 => ?_)
        · simp -dsimp
          refine ACall.of (wild_c q.2 kq) [.x 0] 0 ?_
          simp -dsimp [ints]
          refine Fin.of ?_
          simp [gPacket, hn0, g0, ho, ho1, gSpoilP, hq, pkT, Pk.cs, c0, c1]
        · simp -dsimp [c1]
          refine AIf.dec (fun c2 => ?_) (fun c2 => ?_)
          · simp -dsimp
            refine ACall.of (wild_c q.2 kq) [.x 0] 0 ?_
            simp -dsimp [ints]
            refine Fin.of ?_
            simp [gPacket, hn0, g0, ho, ho1, gSpoilP, hq, pkT, Pk.cs, c0, c1, c2]
          · simp -dsimp [c2]
            refine AIf.dec (fun c3 => ?_) (fun c3 => ?_)
            · simp -dsimp
              refine ACall.of (pick_c q.2 kq [0, 8, 16, 24, 63, 64, 65, -8] (by simp) (by simp)) [.x 0] 0 ?_
              simp -dsimp [ints]
              refine Fin.of ?_
              simp [gPacket, hn0, g0, ho, ho1, gSpoilP, hq, pkT, Pk.cs, c0, c1, c2, c3]
            · simp -dsimp [c3]
              refine AIf.dec (fun c4 => ?_) (fun c4 => ?_)
              · simp -dsimp
                refine ACall.of (wild_c q.2 kq) [.x 0] 0 ?_
                simp -dsimp [ints]
                refine Fin.of ?_
                simp [gPacket, hn0, g0, ho, ho1, gSpoilP, hq, pkT, Pk.cs, c0, c1, c2, c3, c4]
              · simp -dsimp [c4]
                refine AIf.dec (fun c5 => ?_) (fun c5 => ?_)
                · simp -dsimp
                  refine ACall.of (wild_c q.2 kq) [.x 0] 0 ?_
                  simp -dsimp [ints]
                  refine Fin.of ?_
                  simp [gPacket, hn0, g0, ho, ho1, gSpoilP, hq, pkT, Pk.cs, c0, c1, c2, c3, c4, c5]
                · simp -dsimp [c5]
                  refine AIf.dec (fun c6 => ?_) (fun c6 => ?_)
                  · simp -dsimp
                    refine ACall.of (wild_c q.2 kq) [.x 0] 0 ?_
                    simp -dsimp [ints]
                    refine Fin.of ?_
                    simp [gPacket, hn0, g0, ho, ho1, gSpoilP, hq, pkT, Pk.cs, c0, c1, c2, c3, c4, c5, c6]
                  · simp -dsimp [c6]
                    refine AIf.dec (fun c7 => ?_) (fun c7 => ?_)
                    · simp -dsimp
                      refine ACall.of (wild_c q.2 kq) [.x 0] 0 ?_
                      simp -dsimp [ints]
                      refine Fin.of ?_
                      simp [gPacket, hn0, g0, ho, ho1, gSpoilP, hq, pkT, Pk.cs, c0, c1, c2, c3, c4, c5, c6, c7]
                    · simp -dsimp [c7]
                      refine ALoop.of [] (fun k => k == 0 || k == 1 || k == 4 || k == 5 || k == 6 || k == 39 || k == 41 || k == 45 || k == 56 || k == 61 || k == 66 || k == 71 || k == 77 || k == 82 || k == 87 || k == 92) (ι := { z : Nat × ByteArray // z.2.size ≤ 100 ∧ 62 - z.2.size ≤ z.1 ∧ grow 62 (strOf y.1) = grow z.1 z.2 }) (fun z => [(Pl.s 0, It.v (TV.ptr (Pl.x 0) 0)), (Pl.s 1, It.v (TV.d (D.int IntKind.i64 n))),
                          (Pl.x 0, tapeI q.2), (Pl.o 6, It.box [TV.d (D.int IntKind.i64 m.1), TV.d (D.int IntKind.i64 d.1), TV.d (D.int IntKind.i64 s.1),
                            TV.d (D.int IntKind.i64 L.1), TV.d (D.int IntKind.i64 t.1), TV.d (D.int IntKind.i64 e.1), TV.d (D.int IntKind.i64 i.1), TV.d (D.int IntKind.i64 p.1), TV.d (bv b.1), TV.d (D.str z.1.2)]),
                          (Pl.s 6, It.v (TV.ptr (Pl.o 6) 0)), (Pl.s 4, It.v (TV.ptr (Pl.o 4) 0)), (Pl.o 4, It.box [TV.d (D.int IntKind.i64 0), TV.d (D.int IntKind.i64 0), TV.d (D.int IntKind.i64 0),
                            TV.d (D.int IntKind.i64 0), TV.d (D.int IntKind.i64 0), TV.d (D.int IntKind.i64 0), TV.d (D.int IntKind.i64 0), TV.d (D.int IntKind.i64 0), TV.d (D.int IntKind.u64 0), TV.d (D.str ⟨#[]⟩)])]) (fun z => z.1.1) ⟨(62, strOf y.1), by have := gText_size b.2 (k := 6) (by omega); rw [hy] at this; simp at *; omega, by simp, rfl⟩ ?_ ?_
                      · exact GS.to (by simp)
                      · rintro ⟨⟨z, w⟩, z1, z2, z3⟩
                        simp only at z1 z2 z3
                        simp -dsimp
                        refine AIf.dec (fun h => ?_) (fun h => ?_)
                        · obtain ⟨z, rfl⟩ : ∃ x, z = x + 1 := ⟨z - 1, by omega⟩
                          have hs3 : (w ++ abc).size = w.size + 3 := ByteArray.size_append
                          simp -dsimp
                          refine ⟨show w.size + 3 ≤ _ by omega, ⟨(z, w ++ abc), by simp only [hs3]; omega, by simp only [hs3]; omega, ?_⟩, GS.to (by simp [abc]), by simp⟩
                          rw [z3, grow, if_pos (by omega)]
                        · have hg : grow 62 (strOf y.1) = w := by
                            rw [z3]
                            cases z with
                            | zero => rfl
                            | succ z => rw [grow, if_neg (by omega)]
                          simp -dsimp
                          refine ACall.of (text_c q.2 kq 4 (by omega)) [.x 0] 0 ?_
                          have hsz := gText_size q.2 (k := 4) (by omega)
                          simp -dsimp
                          refine ⟨by simp at *; omega, ?_, ⟨by kernel_rfl⟩⟩
                          refine Fin.of ?_
                          simp [gPacket, hn0, g0, ho, ho1, gSpoilP, hq, pkT, Pk.cs, c0, c1, c2, c3, c4, c5, c6, c7, hg]
  · simp -dsimp [hn0]
    refine Fin.of ?_
    simp [gPacket, hn0, g0, pkT, Pk.cs]

theorem new_c (l : List Int) : Contract Try.prog 7 [.d (ints l)] [] (.ptr (.o 10) 0) [] [(10, tapeI (l.take 600, 0))] := by
  refine contract_of Try.func7 rfl (fun E0 => ?_)
  refine awp.sound (g := .mk) (ow := []) (kp := (fun k => k == 0 || k == 2 || k == 5)) ?_
  rw [Try.ntmps7]
  simp -dsimp [ints]
  refine AIf.dec (fun h => ?_) (fun h => ?_)
  · simp -dsimp
    refine ⟨by omega, ?_⟩
    refine Fin.of ?_
    simp [tapeI, ints]
  · simp -dsimp
    refine Fin.of ?_
    simp [tapeI, ints, List.take_of_length_le (show l.length ≤ 600 by omega)]
end Go.Proofs

/-
  What functions of the program compute, stated as contracts over plain data; the conditions of each stand in its own statement.
-/
import Derived.Test.YtbjbhnidedfcfaaH9
set_option linter.unusedSimpArgs false
set_option maxRecDepth 100000
set_option maxHeartbeats 2000000
namespace Go.Proofs
open Go Go.Tr

def hasB (B : BitVec 64) (k : Nat) : Bool := decide (B >>> k &&& 1#64 = 1#64)
theorem hasB_c (B : BitVec 64) (k : Nat) (hk : k < 64) : Contract Try.prog 76 [.d (bv B), .d (.int .i64 k)] [] (.d (.bool (hasB B k))) [] [] := by
  refine contract_of Try.func76 rfl (fun E0 => ?_)
  refine awp.sound (g := .mk) (ow := []) (kp := (fun k => k == 0 || k == 1 || k == 4)) ?_
  rw [Try.ntmps76]
  have h1 : (k : Int) < 64 := by omega
  simp -dsimp [bv, h1, wrap_u64 (n := (k : Int)) (by omega) (by omega)]
  refine Fin.of ?_
  simp [hasB]
def listN (B : BitVec 64) : Nat → List Int
  | 0 => []
  | n + 1 => listN B n ++ (if hasB B n = true then [(n : Int)] else [])
theorem listN_len (B : BitVec 64) : ∀ n, (listN B n).length ≤ n
  | 0 => by simp [listN]
  | n + 1 => by
    have := listN_len B n
    simp only [listN, List.length_append]
    split <;> simp <;> omega
theorem list01_c (B : BitVec 64) : Contract Try.prog 52 [.d (bv B)] [] (.d (ints (listN B 64))) [] [] := by
  refine contract_of Try.func52 rfl (fun E0 => ?_)
  refine awp.sound (g := .mk) (ow := []) (kp := (fun k => k == 0 || k == 2 || k == 3 || k == 4 || k == 6 || k == 11)) ?_
  rw [Try.ntmps52]
  simp -dsimp
  refine ALoop.of [] (fun k => k == 0 || k == 2 || k == 3 || k == 4 || k == 6 || k == 11) (ι := { i : Nat // i ≤ 64 }) (fun z => [(Pl.s 0, It.v (TV.d (bv B))), (Pl.s 2, It.v (TV.c (Value.slice none 0 0))), (Pl.s 3, It.v (TV.oref 3 (listN B z.1).length)), (Pl.o 3, .row 3 1 (dd ((listN B z.1).map fun n => [.int .i64 n])) false),
    (Pl.s 4, It.v (TV.d (D.int IntKind.i64 z.1)))]) (fun z => 64 - z.1) ⟨0, by omega⟩ ?_ ?_
  · exact GS.own' (k := 3) 3 1 (by simp) (by simp) (by simp [listN])
  · rintro ⟨i, hi⟩
    have hl := listN_len B i
    by_cases h : i < 64
    · have h1 : (i : Int) < 64 := by omega
      simp -dsimp [h1]
      refine ACall.of (hasB_c B i h) [] 0 ?_
      rcases (Bool.eq_false_or_eq_true (hasB B i)).symm with a1 | a1
      · simp -dsimp [a1, wrap_i64 (n := (i : Int) + 1) (by omega) (by omega)]
        exact ⟨⟨i + 1, by omega⟩, GS.to (by simp [listN, a1]), by simp; omega⟩
      · simp -dsimp [a1, wrap_i64 (n := (i : Int) + 1) (by omega) (by omega)]
        and_intros
        all_goals try first | omega | exact ⟨by kernel_rfl⟩
        exact ⟨⟨i + 1, by omega⟩, GS.to (by simp [listN, a1]), by simp; omega⟩
    · obtain rfl : i = 64 := by omega
      simp -dsimp
      refine Fin.view 2 ?_
      simp -dsimp
      refine Fin.of ?_
      simp [ints]
def atB (s k len : Int) : Bool := validLen len && (inB k 0 (len - 1) && (inB s 0 31 && decide (s * len + k + 1 ≤ 256)))
def atT (s k len : Int) : TV := .tup (if atB s k len = true then [.d (.int .i64 (s * len + k + 1)), .d (.bool true)] else [.d (.int .i64 0), .d (.bool false)])
theorem at10_c (s k len : Int) : Contract Try.prog 53 [.d (.int .i64 s), .d (.int .i64 k), .d (.int .i64 len)] [] (atT s k len) [] [] := by
  refine contract_of Try.func53 rfl (fun E0 => ?_)
  refine awp.sound (g := .mk) (ow := []) (kp := (fun k => k == 0 || k == 1 || k == 2 || k == 6 || k == 7 || k == 8 || k == 23 || k == 31)) ?_
  rw [Try.ntmps53]
  simp -dsimp
  refine ACall.of (validLength_c len) [] 0 ?_
  rcases (Bool.eq_false_or_eq_true (validLen len)).symm with a1 | a1
  · simp -dsimp [a1]
    refine Fin.of ?_
    simp [atT, atB, a1]
  · have hl : len = 8 ∨ len = 16 ∨ len = 32 ∨ len = 64 := by simp [validLen] at a1; omega
    simp -dsimp [a1, wrap_i64 (n := len - 1) (by omega) (by omega)]
    refine ACall.of (inside10_c k 0 (len - 1)) [] 0 ?_
    rcases (Bool.eq_false_or_eq_true (inB k 0 (len - 1))).symm with a2 | a2
    · simp -dsimp [a1, a2]
      refine Fin.of ?_
      simp [atT, atB, a1, a2]
    · simp -dsimp [a1, a2]
      refine ACall.of (inside10_c s 0 31) [] 0 ?_
      rcases (Bool.eq_false_or_eq_true (inB s 0 31)).symm with a3 | a3
      · simp -dsimp [a1, a2, a3]
        refine Fin.of ?_
        simp [atT, atB, a1, a2, a3]
      · have b2 : 0 ≤ k ∧ k ≤ len - 1 := by simpa [inB] using a2
        have b3 : 0 ≤ s ∧ s ≤ 31 := by simpa [inB] using a3
        have b4 : 0 ≤ s * len ∧ s * len ≤ 2000 := by rcases hl with rfl | rfl | rfl | rfl <;> omega
        simp -dsimp [a1, a2, a3, wrap_i64 (n := s * len) (by omega) (by omega), wrap_i64 (n := s * len + k) (by omega) (by omega), wrap_i64 (n := s * len + k + 1) (by omega) (by omega)]
        by_cases b5 : s * len + k + 1 ≤ 256
        · have b6 : ¬ 256 < s * len + k + 1 := by omega
          refine AIf.dec (fun h => absurd h b6) (fun _ => ?_)
          simp -dsimp
          refine Fin.of ?_
          simp [atT, atB, a1, a2, a3, b5]
        · have b6 : 256 < s * len + k + 1 := by omega
          refine AIf.dec (fun _ => ?_) (fun h => absurd b6 h)
          simp -dsimp
          refine Fin.of ?_
          simp [atT, atB, a1, a2, a3, b5]
def nmAll (p : Pn) (s : Int) : List Int → List Int → List Int × Int
  | [], out => (out, 0)
  | k :: l, out => if (atB s k p.len && knownB p (s * p.len + k + 1)) = true then nmAll p s l (out ++ [s * p.len + k + 1]) else ([], 4)
noncomputable def namesR (p : Pn) (s : Sb) : List Int × Int := if planB p = true then nmAll p s.set (listN s.bits 64) [] else ([], 1)
def namesT (r : List Int × Int) : TV := .tup [.d (ints r.1), .d (.int .i64 r.2)]
theorem names10_c (p : Pn) (hp : p.es.length ≤ 1000) (s : Sb) : Contract Try.prog 22 [planT p, .agg (s.cs.map .d)] [] (namesT (namesR p s)) [] [] := by
  refine contract_of Try.func22 rfl (fun E0 => ?_)
  refine awp.sound (g := .mk) (ow := []) (kp := (fun k => k == 0 || k == 1 || k == 2 || k == 3 || k == 4 || k == 5 || k == 6 || k == 7 || k == 8 || k == 9 || k == 10 || k == 12 || k == 15 || k == 22 || k == 38 || k == 46)) ?_
  rw [Try.ntmps22]
  simp -dsimp [planT, Sb.cs]
  refine ACall.of (validPlan10_c p hp) [] 0 ?_
  rcases (Bool.eq_false_or_eq_true (planB p)).symm with a1 | a1
  · simp -dsimp [a1, planT]
    refine Fin.view 4 ?_
    simp -dsimp
    refine Fin.of ?_
    simp [namesT, namesR, a1, ints]
  · simp -dsimp [a1, planT]
    refine ACall.of (list01_c s.bits) [] 0 ?_
    simp -dsimp [a1, planT]
    have hl := listN_len s.bits 64
    have hR : namesR p s = nmAll p s.set (listN s.bits 64) [] := by simp [namesR, a1]
    rw [hR]
    generalize listN s.bits 64 = L at hl ⊢
    refine ALoop.of [] (fun k => k == 0 || k == 1 || k == 2 || k == 3 || k == 4 || k == 5 || k == 6 || k == 7 || k == 8 || k == 9 || k == 10 || k == 12 || k == 15 || k == 22 || k == 38 || k == 46) (ι := { z : Nat × List Int // z.1 ≤ L.length ∧ z.2.length ≤ z.1 ∧ nmAll p s.set L [] = nmAll p s.set (L.drop z.1) z.2 })
      (fun z => [(Pl.s 0, It.v (TV.agg [TV.d (D.int IntKind.i64 p.subd), TV.d (D.int IntKind.i64 p.len), TV.d (D.sl (eds p.es))])), (Pl.s 1, It.v (TV.agg [TV.d (D.int IntKind.i64 s.set), TV.d (bv s.bits)])),
        (Pl.o 2, It.box [TV.d (D.int IntKind.i64 p.subd), TV.d (D.int IntKind.i64 p.len), TV.d (D.sl (eds p.es))]), (Pl.s 2, It.v (TV.ptr (Pl.o 2) 0)), (Pl.o 3, It.box [TV.d (D.int IntKind.i64 s.set), TV.d (bv s.bits)]),
        (Pl.s 3, It.v (TV.ptr (Pl.o 3) 0)), (Pl.s 4, It.v (TV.c (Value.slice none 0 0))), (Pl.s 5, It.v (TV.d (D.int IntKind.i64 0))), (Pl.s 6, It.v (TV.d (ints L))),
        (Pl.s 7, It.v (TV.oref 7 z.1.2.length)), (Pl.o 7, .row 3 1 (dd (z.1.2.map fun n => [.int .i64 n])) false), (Pl.s 8, It.v (TV.d (D.int IntKind.i64 z.1.1)))])
      (fun z => L.length - z.1.1) ⟨(0, []), by simp, by simp, rfl⟩ ?_ ?_
    · exact GS.own' (k := 7) 3 1 (by simp) (by simp) (by simp)
    · rintro ⟨⟨i, out⟩, q1, q2, q3⟩
      simp only at q1 q2 q3
      by_cases hq : i < L.length
      · have hd : L.drop i = L[i] :: L.drop (i + 1) := List.drop_eq_getElem_cons _
        simp -dsimp [ints, hq]
        refine ACall.of (at10_c s.set L[i] p.len) [] 0 ?_
        rcases (Bool.eq_false_or_eq_true (atB s.set L[i] p.len)).symm with b1 | b1
        · simp -dsimp [atT, b1]
          refine ⟨?_, ⟨by kernel_rfl⟩⟩
          refine Fin.view 4 ?_
          simp -dsimp
          refine Fin.of ?_
          have hX : nmAll p s.set L [] = ([], 4) := by rw [q3, hd, nmAll, b1]; rfl
          simp [namesT, hX, ints]
        · simp -dsimp [atT, b1]
          refine ⟨?_, ⟨by kernel_rfl⟩⟩
          have hn1 : nmAll p s.set (L[i] :: L.drop (i + 1)) out = if knownB p (s.set * p.len + L[i] + 1) = true then nmAll p s.set (L.drop (i + 1)) (out ++ [s.set * p.len + L[i] + 1]) else ([], 4) := by
            rw [nmAll, b1, Bool.true_and]
          generalize s.set * p.len + L[i] + 1 = w at hn1 ⊢
          refine ACall.of (edge10_c p hp w) [] 0 ?_
          cases hf : p.es.find? (fun e => decide (e.id = w)) with
          | none =>
            simp -dsimp [edgeT, hf, planT]
            refine Fin.view 4 ?_
            simp -dsimp
            refine Fin.of ?_
            have hX : nmAll p s.set L [] = ([], 4) := by rw [q3, hd, hn1, if_neg (by simp [knownB, hf])]
            simp [namesT, hX, ints]
          | some x =>
            simp -dsimp [edgeT, hf, planT, Ed.cs, wrap_i64 (n := (i : Int) + 1) (by omega) (by omega)]
            and_intros
            all_goals try first | omega | exact ⟨by kernel_rfl⟩
            exact ⟨⟨(i + 1, out ++ [w]), by dsimp only; omega, by simp; omega, by dsimp only; rw [q3, hd, hn1, if_pos (by simp [knownB, hf])]⟩, GS.to (by simp [ints]), by simp; omega⟩
      · simp -dsimp [ints, hq]
        refine Fin.view 4 ?_
        simp -dsimp
        refine Fin.of ?_
        have hX : nmAll p s.set L [] = (out, 0) := by rw [q3, List.drop_eq_nil_of_le (by omega)]; rfl
        simp [namesT, hX, ints]
def gTempl (T : Tp) : Pk × Tp :=
  let R := gPacket T 0
  let m := gPick R.2 [1, 3]
  (⟨m.1, R.1.subd, R.1.set, R.1.len, 63, R.1.ent, R.1.ing, R.1.proto, R.1.bits, R.1.pay⟩, m.2)
theorem template_c (T : Tp) (hT : TapeOK T) : Contract Try.prog 20 [.ptr (.x 0) 0] [tapeI T] (pkT (gTempl T).1) [tapeI (gTempl T).2] [] := by
  unfold gTempl
  refine contract_of Try.func20 rfl (fun E0 => ?_)
  refine awp.sound (g := .mk) (ow := []) (kp := (fun k => k == 0 || k == 2 || k == 3)) ?_
  rw [Try.ntmps20]
  simp -dsimp
  refine ACall.of (packet_c T hT 0 ⟨by omega, by omega⟩) [.x 0] 0 ?_
  simp -dsimp [pkT, Pk.cs]
  have k1 : TapeOK (gPacket T 0).2 := by simpa using hT
  generalize gPacket T 0 = R at k1 ⊢
  refine ACall.of (pick_c R.2 k1 [1, 3] (by simp) (by simp)) [.x 0] 0 ?_
  simp -dsimp [ints]
  refine Fin.of ?_
  simp [pkT, Pk.cs]
end Go.Proofs

/-
  What functions of the program compute, stated as contracts over plain data; the conditions of each stand in its own statement.
-/
import Derived.Test.YteenclepbpajdaaG6
set_option linter.unusedSimpArgs false
set_option maxRecDepth 100000
set_option maxHeartbeats 2000000
namespace Go.Proofs
open Go Go.Tr

structure Rt where
  id : Int
  cap : Bool
def Rt.cs (x : Rt) : List D := [.int .i64 x.id, .bool x.cap]
def rts (l : List Rt) : List (List D) := l.map Rt.cs
@[simp] theorem rts_len (l : List Rt) : (rts l).length = l.length := by simp [rts]
def gRts (k : Nat) : List Rt := (List.range k).map fun (i : Nat) => ⟨(i : Int) + 1, true⟩
@[simp] theorem gRts_len (k : Nat) : (gRts k).length = k := by simp [gRts]

/-- one place of the inner loop -/
def gTopS (cost tree : Int) (skip : Bool) (b a : Int) (T : Tp) (l : List Lk) : List Lk × Tp :=
  let c := if decide (a = tree) && !skip then (true, T) else gOne T 3
  if c.1 then
    let x := gRange c.2 1 cost
    let y := gRange x.2 1 cost
    let z := gNext y.2 4
    (l ++ [⟨a, b, x.1, y.1, z.1⟩], z.2)
  else (l, c.2)
def gTopA (cost tree : Int) (skip : Bool) (b : Int) : Nat → Int → Tp → List Lk → List Lk × Tp
  | 0, _, T, l => (l, T)
  | n + 1, a, T, l => gTopA cost tree skip b n (a + 1) (gTopS cost tree skip b a T l).2 (gTopS cost tree skip b a T l).1
def gTopR (cost b : Int) (T : Tp) (l : List Lk) : List Lk × Tp :=
  let t := gRange T 1 (b - 1)
  let s := gOne t.2 9
  gTopA cost t.1 s.1 b (b - 1).toNat 1 s.2 l
def gTopB (cost : Int) : Nat → Int → Tp → List Lk → List Lk × Tp
  | 0, _, T, l => (l, T)
  | n + 1, b, T, l => gTopB cost n (b + 1) (gTopR cost b T l).2 (gTopR cost b T l).1
structure Topo where
  rs : List Rt
  ls : List Lk
def topT (g : Topo) : TV := .agg [.d (.sl (rts g.rs)), .d (.sl (lks g.ls))]
def gTop (T : Tp) (most : Int) : Topo × Tp :=
  let R := gRange T 1 most
  let C := gPick R.2 [1, 2, 2, 5]
  let X := gTopB C.1 (R.1 + 1 - 2).toNat 2 C.2 []
  (⟨gRts R.1.toNat, ordL X.1 []⟩, X.2)

theorem gPick_all {T : Tp} {l : List Int} {p : Int → Prop} (h0 : 0 < l.length) (h : ∀ x ∈ l, p x) : p (gPick T l).1 := by
  unfold gPick
  have h1 := gNext_nonneg T l.length
  have h2 := gNext_lt T (n := l.length) (by omega)
  have h3 : (gNext T l.length).1.toNat < l.length := by omega
  rw [List.getD_eq_getElem?_getD, List.getElem?_eq_getElem h3]
  exact h _ (List.getElem_mem _)
theorem gTopS_ok (cost tree : Int) (skip : Bool) (b a : Int) (T : Tp) (l : List Lk) : TapeOK (gTopS cost tree skip b a T l).2 = TapeOK T := by
  unfold gTopS
  simp only
  split <;> split <;> simp
theorem gTopS_len (cost tree : Int) (skip : Bool) (b a : Int) (T : Tp) (l : List Lk) : (gTopS cost tree skip b a T l).1.length ≤ l.length + 1 := by
  unfold gTopS
  simp only
  split <;> split <;> simp

theorem topo_c (T : Tp) (hT : TapeOK T) (most : Int) (hm : 1 ≤ most ∧ most ≤ 24) : Contract Try.prog 14 [.ptr (.x 0) 0, .d (.int .i64 most), .d (.int .i64 0)] [tapeI T] (topT (gTop T most).1) [tapeI (gTop T most).2] [] := by
  have b1 := gRange_lo T 1 most
  have b2 := gRange_hi T (a := 1) (b := most) (by omega)
  refine contract_of Try.func14 rfl (fun E0 => ?_)
  refine awp.sound (g := .mk) (ow := []) (kp := (fun k => k == 0 || k == 1 || k == 2 || k == 6 || k == 7 || k == 8 || k == 9 || k == 10 || k == 11 || k == 12 || k == 13 || k == 14 || k == 15 || k == 21 || k == 36 || k == 47 || k == 60 || k == 87 || k == 89 || k == 91 || k == 101 || k == 112 || k == 124 || k == 129 || k == 141 || k == 146 || k == 158 || k == 163 || k == 175 || k == 180)) ?_
  rw [Try.ntmps14]
  simp -dsimp
  refine ACall.of (range_c T hT 1 most ⟨by omega, by omega⟩ ⟨by omega, by omega⟩ ⟨by omega, by omega⟩ ⟨by omega, by omega⟩) [.x 0] 0 ?_
  simp -dsimp
  generalize hR : gRange T 1 most = R at b1 b2 ⊢
  have kR : TapeOK R.2 := by rw [← hR]; simpa using hT
  refine ALoop.of [] (fun k => k == 0 || k == 1 || k == 2 || k == 6 || k == 7 || k == 8 || k == 9 || k == 10 || k == 11 || k == 12 || k == 13 || k == 14 || k == 15 || k == 21 || k == 36 || k == 47 || k == 60 || k == 87 || k == 89 || k == 91 || k == 101 || k == 112 || k == 124 || k == 129 || k == 141 || k == 146 || k == 158 || k == 163 || k == 175 || k == 180) (ι := { i : Nat // (i : Int) ≤ R.1 }) (fun i => [(Pl.s 0, It.v (TV.ptr (Pl.x 0) 0)), (Pl.s 1, It.v (TV.d (D.int IntKind.i64 most))), (Pl.s 2, It.v (TV.d (D.int IntKind.i64 0))), (Pl.x 0, tapeI R.2),
    (Pl.o 6, It.box [TV.c (Value.slice none 0 0), TV.c (Value.slice none 0 0)]), (Pl.s 6, It.v (TV.ptr (Pl.o 6) 0)), (Pl.o 7, It.box [TV.oref 1000 i.1, TV.c (Value.slice none 0 0)]), (Pl.s 7, It.v (TV.ptr (Pl.o 7) 0)),
    (Pl.s 8, It.v (TV.d (D.int IntKind.i64 R.1))), (Pl.s 9, It.v (TV.d (D.int IntKind.i64 (i.1 + 1)))), (Pl.o 1000, .row 62 2 (dd (rts (gRts i.1))) false)]) (fun i => R.1.toNat - i.1) ⟨0, by omega⟩ ?_ ?_
  · exact GS.ownB' (.o 7) 0 1000 (cs := [TV.c (Value.slice none 0 0), TV.c (Value.slice none 0 0)]) 62 2 (by simp) (by simp) (by simp) (by simp) (by simp [gRts, rts])
  · rintro ⟨i, hi⟩
    simp -dsimp
    refine AIf.dec (fun h => ?_) (fun h => ?_)
    · simp -dsimp [wrap_i64 (n := (i : Int) + 1 + 1) (by omega) (by omega)]
      and_intros
      all_goals try omega
      exact ⟨⟨⟨i + 1, by omega⟩, GS.to (by simp [gRts, rts, List.range_succ, Rt.cs]), by simp; omega⟩⟩
    · have hk : R.1 = i := by omega
      simp -dsimp
      refine ACall.of (pick_c R.2 kR [1, 2, 2, 5] (by simp) (by simp)) [.x 0] 0 ?_
      simp -dsimp [ints]
      generalize hC : gPick R.2 [1, 2, 2, 5] = C
      have kC : TapeOK C.2 := by rw [← hC]; simpa using kR
      have bC : 1 ≤ C.1 ∧ C.1 ≤ 5 := by rw [← hC]; exact gPick_all (p := fun x => 1 ≤ x ∧ x ≤ 5) (by simp) (by simp)
      refine ALoop.of [] (fun k => k == 0 || k == 1 || k == 2 || k == 6 || k == 7 || k == 8 || k == 9 || k == 10 || k == 11 || k == 12 || k == 13 || k == 14 || k == 15 || k == 21 || k == 36 || k == 47 || k == 60 || k == 87 || k == 89 || k == 91 || k == 101 || k == 112 || k == 124 || k == 129 || k == 141 || k == 146 || k == 158 || k == 163 || k == 175 || k == 180) (ι := { z : Int × Tp × List Lk // 2 ≤ z.1 ∧ z.1 ≤ R.1 + 1 ∧ TapeOK z.2.1 ∧ z.2.2.length ≤ 24 * (z.1.toNat - 2) ∧ gTopB C.1 (R.1 + 1 - 2).toNat 2 C.2 [] = gTopB C.1 (R.1 + 1 - z.1).toNat z.1 z.2.1 z.2.2 })
        (fun z => [(Pl.s 0, It.v (TV.ptr (Pl.x 0) 0)), (Pl.s 1, It.v (TV.d (D.int IntKind.i64 most))), (Pl.s 2, It.v (TV.d (D.int IntKind.i64 0))), (Pl.x 0, tapeI z.1.2.1),
          (Pl.o 6, It.box [TV.c (Value.slice none 0 0), TV.c (Value.slice none 0 0)]), (Pl.s 6, It.v (TV.ptr (Pl.o 6) 0)), (Pl.o 7, It.box [TV.oref 1000 i, TV.oref 1001 z.1.2.2.length]), (Pl.s 7, It.v (TV.ptr (Pl.o 7) 0)),
          (Pl.s 8, It.v (TV.d (D.int IntKind.i64 R.1))), (Pl.o 1000, .row 62 2 (dd (rts (gRts i))) false), (Pl.o 1001, .row 72 5 (dd (lks z.1.2.2)) false),
          (Pl.s 10, It.v (TV.d (D.int IntKind.i64 C.1))), (Pl.s 11, It.v (TV.d (D.int IntKind.i64 z.1.1)))]) (fun z => (R.1 + 1 - z.1.1).toNat) ⟨(2, C.2, []), by omega, by omega, kC, by simp, rfl⟩ ?_ ?_
      · exact GS.ownB' (.o 7) 1 1001 (cs := [TV.oref 1000 i, TV.c (Value.slice none 0 0)]) 72 5 (by simp) (by simp) (by simp) (by simp) (by simp [lks])
      · rintro ⟨⟨b, T0, l0⟩, i1, i2, i3, i4, i5⟩
        simp only at i1 i2 i3 i4 i5
        simp -dsimp
        refine AIf.dec (fun hb => ?_) (fun hb => ?_)
        · have t1 := gRange_lo T0 1 (b - 1)
          have t2 := gRange_hi T0 (a := 1) (b := b - 1) (by omega)
          simp -dsimp [wrap_i64 (n := b - 1) (by omega) (by omega)]
          refine ACall.of (range_c T0 i3 1 (b - 1) ⟨by omega, by omega⟩ ⟨by omega, by omega⟩ ⟨by omega, by omega⟩ ⟨by omega, by omega⟩) [.x 0] 0 ?_
          simp -dsimp
          generalize ht : gRange T0 1 (b - 1) = t at t1 t2 ⊢
          have kt : TapeOK t.2 := by rw [← ht]; simpa using i3
          refine ACall.of (one_c t.2 kt 9 ⟨by omega, by omega⟩ ⟨by omega, by omega⟩) [.x 0] 0 ?_
          simp -dsimp
          generalize hs : gOne t.2 9 = s
          have ks : TapeOK s.2 := by rw [← hs]; simpa using kt
          refine ALoop.of [] (fun k => k == 0 || k == 1 || k == 2 || k == 6 || k == 7 || k == 8 || k == 9 || k == 10 || k == 11 || k == 12 || k == 13 || k == 14 || k == 15 || k == 21 || k == 36 || k == 47 || k == 60 || k == 87 || k == 89 || k == 91 || k == 101 || k == 112 || k == 124 || k == 129 || k == 141 || k == 146 || k == 158 || k == 163 || k == 175 || k == 180) (ι := { z : Int × Tp × List Lk // 1 ≤ z.1 ∧ z.1 ≤ b ∧ TapeOK z.2.1 ∧ z.2.2.length ≤ 24 * (b.toNat - 2) + (z.1.toNat - 1) ∧ gTopA C.1 t.1 s.1 b (b - 1).toNat 1 s.2 l0 = gTopA C.1 t.1 s.1 b (b - z.1).toNat z.1 z.2.1 z.2.2 })
            (fun z => [(Pl.s 0, It.v (TV.ptr (Pl.x 0) 0)), (Pl.s 1, It.v (TV.d (D.int IntKind.i64 most))), (Pl.s 2, It.v (TV.d (D.int IntKind.i64 0))), (Pl.x 0, tapeI z.1.2.1),
              (Pl.o 6, It.box [TV.c (Value.slice none 0 0), TV.c (Value.slice none 0 0)]), (Pl.s 6, It.v (TV.ptr (Pl.o 6) 0)), (Pl.o 7, It.box [TV.oref 1000 i, TV.oref 1001 z.1.2.2.length]), (Pl.s 7, It.v (TV.ptr (Pl.o 7) 0)),
              (Pl.s 8, It.v (TV.d (D.int IntKind.i64 R.1))), (Pl.o 1000, .row 62 2 (dd (rts (gRts i))) false), (Pl.o 1001, .row 72 5 (dd (lks z.1.2.2)) false),
              (Pl.s 10, It.v (TV.d (D.int IntKind.i64 C.1))), (Pl.s 11, It.v (TV.d (D.int IntKind.i64 b))), (Pl.s 12, It.v (TV.d (D.int IntKind.i64 t.1))), (Pl.s 13, It.v (TV.d (D.bool s.1))), (Pl.s 14, It.v (TV.d (D.int IntKind.i64 z.1.1)))]) (fun z => (b - z.1.1).toNat) ⟨(1, s.2, l0), by omega, by omega, ks, by simpa using i4, rfl⟩ ?_ ?_
          · exact GS.to (by simp)
          · rintro ⟨⟨a, T1, l⟩, j1, j2, j3, j4, j5⟩
            simp only at j1 j2 j3 j4 j5
            by_cases hab : a < b
            · have hab' : decide (a < b) = true := by simpa using hab
              by_cases ha : a = t.1
              · have ha' : decide (a = t.1) = true := by simpa using ha
                rcases (Bool.eq_false_or_eq_true s.1).symm with hs1 | hs1
                · simp -dsimp [hab', ha', hs1]
                  have x1 := gRange_lo T1 1 C.1
                  have x2 := gRange_hi T1 (a := 1) (b := C.1) (by omega)
                  refine ACall.of (range_c T1 j3 1 C.1 ⟨by omega, by omega⟩ ⟨by omega, by omega⟩ ⟨by omega, by omega⟩ ⟨by omega, by omega⟩) [.x 0] 0 ?_
                  simp -dsimp
                  generalize hx : gRange T1 1 C.1 = x at x1 x2 ⊢
                  have kx : TapeOK x.2 := by rw [← hx]; simpa using j3
                  have y1 := gRange_lo x.2 1 C.1
                  have y2 := gRange_hi x.2 (a := 1) (b := C.1) (by omega)
                  refine ACall.of (range_c x.2 kx 1 C.1 ⟨by omega, by omega⟩ ⟨by omega, by omega⟩ ⟨by omega, by omega⟩ ⟨by omega, by omega⟩) [.x 0] 0 ?_
                  simp -dsimp
                  generalize hy : gRange x.2 1 C.1 = y at y1 y2 ⊢
                  have ky : TapeOK y.2 := by rw [← hy]; simpa using kx
                  refine ACall.of (next_c y.2 ky 4 ⟨by omega, by omega⟩) [.x 0] 0 ?_
                  simp -dsimp [wrap_i64 (n := a + 1) (by omega) (by omega)]
                  have e : gTopS C.1 t.1 s.1 b a T1 l = (l ++ [⟨a, b, x.1, y.1, (gNext y.2 4).1⟩], (gNext y.2 4).2) := by simp [gTopS, ha', hs1, hx, hy]
                  and_intros
                  all_goals try first | omega | exact ⟨by kernel_rfl⟩ | (simp; omega)
                  exact ⟨⟨(a + 1, (gNext y.2 4).2, l ++ [⟨a, b, x.1, y.1, (gNext y.2 4).1⟩]), by omega, by omega, by simpa using ky, by simp; omega, by rw [j5, show (b - a).toNat = (b - (a + 1)).toNat + 1 by omega, gTopA, e]⟩, GS.to (by simp [lks, Lk.cs, ha', hs1]), by simp; omega⟩
                · simp -dsimp [hab', ha', hs1]
                  refine ACall.of (one_c T1 j3 3 ⟨by omega, by omega⟩ ⟨by omega, by omega⟩) [.x 0] 0 ?_
                  generalize ho : gOne T1 3 = o
                  have ko : TapeOK o.2 := by rw [← ho]; simpa using j3
                  rcases (Bool.eq_false_or_eq_true o.1).symm with ho1 | ho1
                  · simp -dsimp [ho1, wrap_i64 (n := a + 1) (by omega) (by omega)]
                    have e : gTopS C.1 t.1 s.1 b a T1 l = (l, o.2) := by simp [gTopS, ha', hs1, ho, ho1]
                    and_intros
                    all_goals try first | omega | exact ⟨by kernel_rfl⟩ | (simp; omega)
                    exact ⟨⟨(a + 1, o.2, l), by omega, by omega, ko, by simp; omega, by rw [j5, show (b - a).toNat = (b - (a + 1)).toNat + 1 by omega, gTopA, e]⟩, GS.to (by simp [ha', hs1]), by simp; omega⟩
                  · simp -dsimp [ho1]
                    have x1 := gRange_lo o.2 1 C.1
                    have x2 := gRange_hi o.2 (a := 1) (b := C.1) (by omega)
                    refine ACall.of (range_c o.2 ko 1 C.1 ⟨by omega, by omega⟩ ⟨by omega, by omega⟩ ⟨by omega, by omega⟩ ⟨by omega, by omega⟩) [.x 0] 0 ?_
                    simp -dsimp
                    generalize hx : gRange o.2 1 C.1 = x at x1 x2 ⊢
                    have kx : TapeOK x.2 := by rw [← hx]; simpa using ko
                    have y1 := gRange_lo x.2 1 C.1
                    have y2 := gRange_hi x.2 (a := 1) (b := C.1) (by omega)
                    refine ACall.of (range_c x.2 kx 1 C.1 ⟨by omega, by omega⟩ ⟨by omega, by omega⟩ ⟨by omega, by omega⟩ ⟨by omega, by omega⟩) [.x 0] 0 ?_
                    simp -dsimp
                    generalize hy : gRange x.2 1 C.1 = y at y1 y2 ⊢
                    have ky : TapeOK y.2 := by rw [← hy]; simpa using kx
                    refine ACall.of (next_c y.2 ky 4 ⟨by omega, by omega⟩) [.x 0] 0 ?_
                    simp -dsimp [wrap_i64 (n := a + 1) (by omega) (by omega)]
                    have e : gTopS C.1 t.1 s.1 b a T1 l = (l ++ [⟨a, b, x.1, y.1, (gNext y.2 4).1⟩], (gNext y.2 4).2) := by simp [gTopS, ha', hs1, ho, ho1, hx, hy]
                    and_intros
                    all_goals try first | omega | exact ⟨by kernel_rfl⟩ | (simp; omega)
                    exact ⟨⟨(a + 1, (gNext y.2 4).2, l ++ [⟨a, b, x.1, y.1, (gNext y.2 4).1⟩]), by omega, by omega, by simpa using ky, by simp; omega, by rw [j5, show (b - a).toNat = (b - (a + 1)).toNat + 1 by omega, gTopA, e]⟩, GS.to (by simp [lks, Lk.cs, ha', hs1, ho, ho1]), by simp; omega⟩
              · have ha' : decide (a = t.1) = false := by simpa using ha
                simp -dsimp [hab', ha']
                refine ACall.of (one_c T1 j3 3 ⟨by omega, by omega⟩ ⟨by omega, by omega⟩) [.x 0] 0 ?_
                generalize ho : gOne T1 3 = o
                have ko : TapeOK o.2 := by rw [← ho]; simpa using j3
                rcases (Bool.eq_false_or_eq_true o.1).symm with ho1 | ho1
                · simp -dsimp [ho1, wrap_i64 (n := a + 1) (by omega) (by omega)]
                  have e : gTopS C.1 t.1 s.1 b a T1 l = (l, o.2) := by simp [gTopS, ha', ho, ho1]
                  and_intros
                  all_goals try first | omega | exact ⟨by kernel_rfl⟩ | (simp; omega)
                  exact ⟨⟨(a + 1, o.2, l), by omega, by omega, ko, by simp; omega, by rw [j5, show (b - a).toNat = (b - (a + 1)).toNat + 1 by omega, gTopA, e]⟩, GS.to (by simp [ha']), by simp; omega⟩
                · simp -dsimp [ho1]
                  have x1 := gRange_lo o.2 1 C.1
                  have x2 := gRange_hi o.2 (a := 1) (b := C.1) (by omega)
                  refine ACall.of (range_c o.2 ko 1 C.1 ⟨by omega, by omega⟩ ⟨by omega, by omega⟩ ⟨by omega, by omega⟩ ⟨by omega, by omega⟩) [.x 0] 0 ?_
                  simp -dsimp
                  generalize hx : gRange o.2 1 C.1 = x at x1 x2 ⊢
                  have kx : TapeOK x.2 := by rw [← hx]; simpa using ko
                  have y1 := gRange_lo x.2 1 C.1
                  have y2 := gRange_hi x.2 (a := 1) (b := C.1) (by omega)
                  refine ACall.of (range_c x.2 kx 1 C.1 ⟨by omega, by omega⟩ ⟨by omega, by omega⟩ ⟨by omega, by omega⟩ ⟨by omega, by omega⟩) [.x 0] 0 ?_
                  simp -dsimp
                  generalize hy : gRange x.2 1 C.1 = y at y1 y2 ⊢
                  have ky : TapeOK y.2 := by rw [← hy]; simpa using kx
                  refine ACall.of (next_c y.2 ky 4 ⟨by omega, by omega⟩) [.x 0] 0 ?_
                  simp -dsimp [wrap_i64 (n := a + 1) (by omega) (by omega)]
                  have e : gTopS C.1 t.1 s.1 b a T1 l = (l ++ [⟨a, b, x.1, y.1, (gNext y.2 4).1⟩], (gNext y.2 4).2) := by simp [gTopS, ha', ho, ho1, hx, hy]
                  and_intros
                  all_goals try first | omega | exact ⟨by kernel_rfl⟩ | (simp; omega)
                  exact ⟨⟨(a + 1, (gNext y.2 4).2, l ++ [⟨a, b, x.1, y.1, (gNext y.2 4).1⟩]), by omega, by omega, by simpa using ky, by simp; omega, by rw [j5, show (b - a).toNat = (b - (a + 1)).toNat + 1 by omega, gTopA, e]⟩, GS.to (by simp [lks, Lk.cs, ha', ho, ho1]), by simp; omega⟩
            · have hab' : decide (a < b) = false := by simpa using hab
              obtain rfl : a = b := by omega
              simp -dsimp [hab', wrap_i64 (n := a + 1) (by omega) (by omega)]
              have e : gTopR C.1 a T0 l0 = (l, T1) := by unfold gTopR; simp only [ht, hs]; rw [j5]; simp [gTopA]
              exact ⟨⟨(a + 1, T1, l), by omega, by omega, j3, by simp; omega, by rw [i5, show (R.1 + 1 - a).toNat = (R.1 + 1 - (a + 1)).toNat + 1 by omega, gTopB, e]⟩, GS.to (by simp), by simp; omega⟩
        · obtain rfl : b = R.1 + 1 := by omega
          simp -dsimp
          refine ACall.of (ord_c l0 (by omega)) [] 0 ?_
          simp -dsimp
          refine Fin.box (.o 6) rfl ?_
          simp -dsimp
          refine Fin.of ?_
          have hX : gTopB C.1 (R.1 + 1 - 2).toNat 2 C.2 [] = (l0, T0) := by rw [i5]; simp [gTopB]
          simp only [gTop, hR, hC, hX]
          simp [topT, hk]
end Go.Proofs

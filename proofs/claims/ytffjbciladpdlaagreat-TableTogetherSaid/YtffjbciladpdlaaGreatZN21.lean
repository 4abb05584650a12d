/-
  What functions of the program compute, stated as contracts over plain data; the conditions of each stand in its own statement.
-/
import Derived.Test.YtffjbciladpdlaaGreatZN20
set_option linter.unusedSimpArgs false
set_option maxRecDepth 100000
set_option maxHeartbeats 2000000
namespace Go.Proofs
open Go Go.Tr
theorem topoO_c (T : Tp) (hT : TapeOK T) (most : Int) (hm : 1 ≤ most ∧ most ≤ 24) : Contract Tryz.prog 13 [.ptr (.x 0) 0, .d (.int .i64 most), .d (.int .i64 0)] [tapeI T] (.agg [.oref 1000 (gTop T most).1.rs.length, .d (.sl (lks (gTop T most).1.ls))]) [tapeI (gTop T most).2] [(1000, .row 81 2 (dd (rts (gTop T most).1.rs)) false)] := by
 have b1 := gRange_lo T 1 most
 have b2 := gRange_hi T (a := 1) (b := most) (by omega)
 refine contract_of Tryz.func13 rfl (fun E0 => ?_)
 refine awp.sound (g := .mk) (ow := []) (kp := (fun k => k==0||k==1||k==2||k==6||k==7||k==8||k==9||k==10||k==11||k==12||k==13||k==14||k==15||k==21||k==36||k==47||k==60||k==87||k==89||k==91||k==101||k==112||k==124||k==129||k==141||k==146||k==158||k==163||k==175||k==180)) ?_
 rw [Tryz.ntmps13]
 simp -dsimp
 refine ACall.of (range_c T hT 1 most ⟨by omega, by omega⟩ ⟨by omega, by omega⟩ ⟨by omega, by omega⟩ ⟨by omega, by omega⟩) [.x 0] 0 ?_
 simp -dsimp
 generalize hR : gRange T 1 most = R at b1 b2 ⊢
 have kR : TapeOK R.2 := by rw [← hR]; simpa using hT
 refine ALoop.of [] (fun k => k==0||k==1||k==2||k==6||k==7||k==8||k==9||k==10||k==11||k==12||k==13||k==14||k==15||k==21||k==36||k==47||k==60||k==87||k==89||k==91||k==101||k==112||k==124||k==129||k==141||k==146||k==158||k==163||k==175||k==180) (ι := { i : Nat // (i : Int) ≤ R.1 }) (fun i => [(Pl.s 0, It.v (.ptr (Pl.x 0) 0)), (Pl.s 1, It.v (.d (.int .i64 most))), (Pl.s 2, It.v (.d (.int .i64 0))), (Pl.x 0, tapeI R.2),
  (Pl.o 6, It.box [TV.c (Value.slice none 0 0), TV.c (Value.slice none 0 0)]), (Pl.s 6, It.v (.ptr (Pl.o 6) 0)), (Pl.o 7, It.box [TV.oref 1000 i.1, TV.c (Value.slice none 0 0)]), (Pl.s 7, It.v (.ptr (Pl.o 7) 0)),
  (Pl.s 8, It.v (.d (.int .i64 R.1))), (Pl.s 9, It.v (.d (.int .i64 (i.1 + 1)))), (Pl.o 1000, .row 81 2 (dd (rts (gRts i.1))) false)]) (fun i => R.1.toNat - i.1) ⟨0, by omega⟩ ?_ ?_
 ·exact GS.ownB' (.o 7) 0 1000 (cs := [TV.c (Value.slice none 0 0), TV.c (Value.slice none 0 0)]) 81 2 (by simp) (by simp) (by simp) (by simp) (by simp [gRts, rts])
 ·rintro ⟨i, hi⟩
  simp -dsimp
  refine AIf.dec (fun h => ?_) (fun h => ?_)
  ·simp -dsimp [wrap_i64 (n := (i : Int) + 1 + 1) (by omega) (by omega)]
   and_intros
   all_goals try omega
   exact ⟨⟨⟨i + 1, by omega⟩, GS.to (by simp [gRts, rts, List.range_succ, Rt.cs]), by simp; omega⟩⟩
  ·have hk : R.1 = i := by omega
   simp -dsimp
   refine ACall.of (pick_c R.2 kR [1, 2, 2, 5] (by simp) (by simp)) [.x 0] 0 ?_
   simp -dsimp [ints]
   generalize hC : gPick R.2 [1, 2, 2, 5] = C
   have kC : TapeOK C.2 := by rw [← hC]; simpa using kR
   have bC : 1 ≤ C.1 ∧ C.1 ≤ 5 := by rw [← hC]; exact gPick_all (p := fun x => 1 ≤ x ∧ x ≤ 5) (by simp) (by simp)
   refine ALoop.of [] (fun k => k==0||k==1||k==2||k==6||k==7||k==8||k==9||k==10||k==11||k==12||k==13||k==14||k==15||k==21||k==36||k==47||k==60||k==87||k==89||k==91||k==101||k==112||k==124||k==129||k==141||k==146||k==158||k==163||k==175||k==180) (ι := { z : Int × Tp × List Lk // 2 ≤ z.1 ∧ z.1 ≤ R.1 + 1 ∧ TapeOK z.2.1 ∧ z.2.2.length ≤ 24 * (z.1.toNat - 2) ∧ gTopB C.1 (R.1 + 1 - 2).toNat 2 C.2 [] = gTopB C.1 (R.1 + 1 - z.1).toNat z.1 z.2.1 z.2.2 })
    (fun z => [(Pl.s 0, It.v (.ptr (Pl.x 0) 0)), (Pl.s 1, It.v (.d (.int .i64 most))), (Pl.s 2, It.v (.d (.int .i64 0))), (Pl.x 0, tapeI z.1.2.1),
     (Pl.o 6, It.box [TV.c (Value.slice none 0 0), TV.c (Value.slice none 0 0)]), (Pl.s 6, It.v (.ptr (Pl.o 6) 0)), (Pl.o 7, It.box [TV.oref 1000 i, TV.oref 1001 z.1.2.2.length]), (Pl.s 7, It.v (.ptr (Pl.o 7) 0)),
     (Pl.s 8, It.v (.d (.int .i64 R.1))), (Pl.o 1000, .row 81 2 (dd (rts (gRts i))) false), (Pl.o 1001, .row 85 5 (dd (lks z.1.2.2)) false),
     (Pl.s 10, It.v (.d (.int .i64 C.1))), (Pl.s 11, It.v (.d (.int .i64 z.1.1)))]) (fun z => (R.1 + 1 - z.1.1).toNat) ⟨(2, C.2, []), by omega, by omega, kC, by simp, rfl⟩ ?_ ?_
   ·exact GS.ownB' (.o 7) 1 1001 (cs := [TV.oref 1000 i, TV.c (Value.slice none 0 0)]) 85 5 (by simp) (by simp) (by simp) (by simp) (by simp [lks])
   ·rintro ⟨⟨b, T0, l0⟩, i1, i2, i3, i4, i5⟩
    simp only at i1 i2 i3 i4 i5
    simp -dsimp
    refine AIf.dec (fun hb => ?_) (fun hb => ?_)
    ·have t1 := gRange_lo T0 1 (b - 1)
     have t2 := gRange_hi T0 (a := 1) (b := b - 1) (by omega)
     simp -dsimp [wrap_i64 (n := b - 1) (by omega) (by omega)]
     refine ACall.of (range_c T0 i3 1 (b - 1) ⟨by omega, by omega⟩ ⟨by omega, by omega⟩ ⟨by omega, by omega⟩ ⟨by omega, by omega⟩) [.x 0] 0 ?_
     simp -dsimp
     generalize ht : gRange T0 1 (b - 1) = t at t1 t2 ⊢
     have kt : TapeOK t.2 := by rw [← ht]; simpa using i3
     refine ACall.of (one_c t.2 kt 9 ⟨by omega, by omega⟩ ⟨by omega, by omega⟩) [.x 0] 0 ?_
     simp -dsimp
     generalize hs : gOne t.2 9 = s
     have ks : TapeOK s.2 := by rw [← hs]; simpa using kt
     refine ALoop.of [] (fun k => k==0||k==1||k==2||k==6||k==7||k==8||k==9||k==10||k==11||k==12||k==13||k==14||k==15||k==21||k==36||k==47||k==60||k==87||k==89||k==91||k==101||k==112||k==124||k==129||k==141||k==146||k==158||k==163||k==175||k==180) (ι := { z : Int × Tp × List Lk // 1 ≤ z.1 ∧ z.1 ≤ b ∧ TapeOK z.2.1 ∧ z.2.2.length ≤ 24 * (b.toNat - 2) + (z.1.toNat - 1) ∧ gTopA C.1 t.1 s.1 b (b - 1).toNat 1 s.2 l0 = gTopA C.1 t.1 s.1 b (b - z.1).toNat z.1 z.2.1 z.2.2 })
      (fun z => [(Pl.s 0, It.v (.ptr (Pl.x 0) 0)), (Pl.s 1, It.v (.d (.int .i64 most))), (Pl.s 2, It.v (.d (.int .i64 0))), (Pl.x 0, tapeI z.1.2.1),
       (Pl.o 6, It.box [TV.c (Value.slice none 0 0), TV.c (Value.slice none 0 0)]), (Pl.s 6, It.v (.ptr (Pl.o 6) 0)), (Pl.o 7, It.box [TV.oref 1000 i, TV.oref 1001 z.1.2.2.length]), (Pl.s 7, It.v (.ptr (Pl.o 7) 0)),
       (Pl.s 8, It.v (.d (.int .i64 R.1))), (Pl.o 1000, .row 81 2 (dd (rts (gRts i))) false), (Pl.o 1001, .row 85 5 (dd (lks z.1.2.2)) false),
       (Pl.s 10, It.v (.d (.int .i64 C.1))), (Pl.s 11, It.v (.d (.int .i64 b))), (Pl.s 12, It.v (.d (.int .i64 t.1))), (Pl.s 13, It.v (.d (.bool s.1))), (Pl.s 14, It.v (.d (.int .i64 z.1.1)))]) (fun z => (b - z.1.1).toNat) ⟨(1, s.2, l0), by omega, by omega, ks, by simpa using i4, rfl⟩ ?_ ?_
     ·exact GS.to (by simp)
     ·rintro ⟨⟨a, T1, l⟩, j1, j2, j3, j4, j5⟩
      simp only at j1 j2 j3 j4 j5
      by_cases hab : a < b
      ·have hab' : decide (a < b) = true := by simpa using hab
       by_cases ha : a = t.1
       ·have ha' : decide (a = t.1) = true := by simpa using ha
        rcases (Bool.eq_false_or_eq_true s.1).symm with hs1 | hs1
        ·simp -dsimp [hab', ha', hs1]
         have x1 := gRange_lo T1 1 C.1
         have x2 := gRange_hi T1 (a := 1) (b := C.1) (by omega)
         refine ACall.of (range_c T1 j3 1 C.1 ⟨by omega, by omega⟩ ⟨by omega, by omega⟩ ⟨by omega, by omega⟩ ⟨by omega, by omega⟩) [.x 0] 0 ?_
         simp -dsimp
         generalize hx : gRange T1 1 C.1 = x at x1 x2 ⊢
         have kx : TapeOK x.2 := by rw [← hx]; simpa using j3
         have y1 := gRange_lo x.2 1 C.1
         have y2 := gRange_hi x.2 (a := 1) (b := C.1) (by omega)
         refine ACall.of (range_c x.2 kx 1 C.1 ⟨by omega, by omega⟩ ⟨by omega, by omega⟩ ⟨by omega, by omega⟩ ⟨by omega, by omega⟩) [.x 0] 0 ?_
         simp -dsimp
         generalize hy : gRange x.2 1 C.1 = y at y1 y2 ⊢
         have ky : TapeOK y.2 := by rw [← hy]; simpa using kx
         refine ACall.of (next_c y.2 ky 4 ⟨by omega, by omega⟩) [.x 0] 0 ?_
         simp -dsimp [wrap_i64 (n := a + 1) (by omega) (by omega)]
         have e : gTopS C.1 t.1 s.1 b a T1 l = (l ++ [⟨a, b, x.1, y.1, (gNext y.2 4).1⟩], (gNext y.2 4).2) := by simp [gTopS, ha', hs1, hx, hy]
         and_intros
         all_goals try first | omega | exact ⟨by kernel_rfl⟩ | (simp; omega)
         exact ⟨⟨(a + 1, (gNext y.2 4).2, l ++ [⟨a, b, x.1, y.1, (gNext y.2 4).1⟩]), by omega, by omega, by simpa using ky, by simp; omega, by rw [j5, show (b - a).toNat = (b - (a + 1)).toNat + 1 by omega, gTopA, e]⟩, GS.to (by simp [lks, Lk.cs, ha', hs1]), by simp; omega⟩
        ·simp -dsimp [hab', ha', hs1]
         refine ACall.of (one_c T1 j3 3 ⟨by omega, by omega⟩ ⟨by omega, by omega⟩) [.x 0] 0 ?_
         generalize ho : gOne T1 3 = o
         have ko : TapeOK o.2 := by rw [← ho]; simpa using j3
         rcases (Bool.eq_false_or_eq_true o.1).symm with ho1 | ho1
         ·simp -dsimp [ho1, wrap_i64 (n := a + 1) (by omega) (by omega)]
          have e : gTopS C.1 t.1 s.1 b a T1 l = (l, o.2) := by simp [gTopS, ha', hs1, ho, ho1]
          and_intros
          all_goals try first | omega | exact ⟨by kernel_rfl⟩ | (simp; omega)
          exact ⟨⟨(a + 1, o.2, l), by omega, by omega, ko, by simp; omega, by rw [j5, show (b - a).toNat = (b - (a + 1)).toNat + 1 by omega, gTopA, e]⟩, GS.to (by simp [ha', hs1]), by simp; omega⟩
         ·simp -dsimp [ho1]
          have x1 := gRange_lo o.2 1 C.1
          have x2 := gRange_hi o.2 (a := 1) (b := C.1) (by omega)
          refine ACall.of (range_c o.2 ko 1 C.1 ⟨by omega, by omega⟩ ⟨by omega, by omega⟩ ⟨by omega, by omega⟩ ⟨by omega, by omega⟩) [.x 0] 0 ?_
          simp -dsimp
          generalize hx : gRange o.2 1 C.1 = x at x1 x2 ⊢
          have kx : TapeOK x.2 := by rw [← hx]; simpa using ko
          have y1 := gRange_lo x.2 1 C.1
          have y2 := gRange_hi x.2 (a := 1) (b := C.1) (by omega)
          refine ACall.of (range_c x.2 kx 1 C.1 ⟨by omega, by omega⟩ ⟨by omega, by omega⟩ ⟨by omega, by omega⟩ ⟨by omega, by omega⟩) [.x 0] 0 ?_
          simp -dsimp
          generalize hy : gRange x.2 1 C.1 = y at y1 y2 ⊢
          have ky : TapeOK y.2 := by rw [← hy]; simpa using kx
          refine ACall.of (next_c y.2 ky 4 ⟨by omega, by omega⟩) [.x 0] 0 ?_
          simp -dsimp [wrap_i64 (n := a + 1) (by omega) (by omega)]
          have e : gTopS C.1 t.1 s.1 b a T1 l = (l ++ [⟨a, b, x.1, y.1, (gNext y.2 4).1⟩], (gNext y.2 4).2) := by simp [gTopS, ha', hs1, ho, ho1, hx, hy]
          and_intros
          all_goals try first | omega | exact ⟨by kernel_rfl⟩ | (simp; omega)
          exact ⟨⟨(a + 1, (gNext y.2 4).2, l ++ [⟨a, b, x.1, y.1, (gNext y.2 4).1⟩]), by omega, by omega, by simpa using ky, by simp; omega, by rw [j5, show (b - a).toNat = (b - (a + 1)).toNat + 1 by omega, gTopA, e]⟩, GS.to (by simp [lks, Lk.cs, ha', hs1, ho, ho1]), by simp; omega⟩
       ·have ha' : decide (a = t.1) = false := by simpa using ha
        simp -dsimp [hab', ha']
        refine ACall.of (one_c T1 j3 3 ⟨by omega, by omega⟩ ⟨by omega, by omega⟩) [.x 0] 0 ?_
        generalize ho : gOne T1 3 = o
        have ko : TapeOK o.2 := by rw [← ho]; simpa using j3
        rcases (Bool.eq_false_or_eq_true o.1).symm with ho1 | ho1
        ·simp -dsimp [ho1, wrap_i64 (n := a + 1) (by omega) (by omega)]
         have e : gTopS C.1 t.1 s.1 b a T1 l = (l, o.2) := by simp [gTopS, ha', ho, ho1]
         and_intros
         all_goals try first | omega | exact ⟨by kernel_rfl⟩ | (simp; omega)
         exact ⟨⟨(a + 1, o.2, l), by omega, by omega, ko, by simp; omega, by rw [j5, show (b - a).toNat = (b - (a + 1)).toNat + 1 by omega, gTopA, e]⟩, GS.to (by simp [ha']), by simp; omega⟩
        ·simp -dsimp [ho1]
         have x1 := gRange_lo o.2 1 C.1
         have x2 := gRange_hi o.2 (a := 1) (b := C.1) (by omega)
         refine ACall.of (range_c o.2 ko 1 C.1 ⟨by omega, by omega⟩ ⟨by omega, by omega⟩ ⟨by omega, by omega⟩ ⟨by omega, by omega⟩) [.x 0] 0 ?_
         simp -dsimp
         generalize hx : gRange o.2 1 C.1 = x at x1 x2 ⊢
         have kx : TapeOK x.2 := by rw [← hx]; simpa using ko
         have y1 := gRange_lo x.2 1 C.1
         have y2 := gRange_hi x.2 (a := 1) (b := C.1) (by omega)
         refine ACall.of (range_c x.2 kx 1 C.1 ⟨by omega, by omega⟩ ⟨by omega, by omega⟩ ⟨by omega, by omega⟩ ⟨by omega, by omega⟩) [.x 0] 0 ?_
         simp -dsimp
         generalize hy : gRange x.2 1 C.1 = y at y1 y2 ⊢
         have ky : TapeOK y.2 := by rw [← hy]; simpa using kx
         refine ACall.of (next_c y.2 ky 4 ⟨by omega, by omega⟩) [.x 0] 0 ?_
         simp -dsimp [wrap_i64 (n := a + 1) (by omega) (by omega)]
         have e : gTopS C.1 t.1 s.1 b a T1 l = (l ++ [⟨a, b, x.1, y.1, (gNext y.2 4).1⟩], (gNext y.2 4).2) := by simp [gTopS, ha', ho, ho1, hx, hy]
         and_intros
         all_goals try first | omega | exact ⟨by kernel_rfl⟩ | (simp; omega)
         exact ⟨⟨(a + 1, (gNext y.2 4).2, l ++ [⟨a, b, x.1, y.1, (gNext y.2 4).1⟩]), by omega, by omega, by simpa using ky, by simp; omega, by rw [j5, show (b - a).toNat = (b - (a + 1)).toNat + 1 by omega, gTopA, e]⟩, GS.to (by simp [lks, Lk.cs, ha', ho, ho1]), by simp; omega⟩
      ·have hab' : decide (a < b) = false := by simpa using hab
       obtain rfl : a = b := by omega
       simp -dsimp [hab', wrap_i64 (n := a + 1) (by omega) (by omega)]
       have e : gTopR C.1 a T0 l0 = (l, T1) := by unfold gTopR; simp only [ht, hs]; rw [j5]; simp [gTopA]
       exact ⟨⟨(a + 1, T1, l), by omega, by omega, j3, by simp; omega, by rw [i5, show (R.1 + 1 - a).toNat = (R.1 + 1 - (a + 1)).toNat + 1 by omega, gTopB, e]⟩, GS.to (by simp), by simp; omega⟩
    ·obtain rfl : b = R.1 + 1 := by omega
     simp -dsimp
     refine ACall.of (ord_c l0 (by omega)) [] 0 ?_
     simp -dsimp
     refine Fin.of ?_
     have hX : gTopB C.1 (R.1 + 1 - 2).toNat 2 C.2 [] = (l0, T0) := by rw [i5]; simp [gTopB]
     simp only [gTop, hR, hC, hX]
     simp [hk, gRts]
def gMixL : List Rt → Tp → List Rt × Tp
 | [], T => ([], T)
 | x :: l, T => (⟨x.id, !(gOne T 3).1⟩ :: (gMixL l (gOne T 3).2).1, (gMixL l (gOne T 3).2).2)
def gMix (T : Tp) (most : Int) : Topo × Tp := let g := gTop T most; (⟨(gMixL g.1.rs g.2).1, g.1.ls⟩, (gMixL g.1.rs g.2).2)
theorem gMixL_len : ∀ (l : List Rt) (T : Tp), (gMixL l T).1.length = l.length
 | [], _ => rfl
 | x :: l, T => by simp [gMixL, gMixL_len l]
section
variable {α : Type} {q : α → Bool} {l : List α} {i : Nat} {x : α}
theorem any_step (hx : l[i]? = some x) (h : l.any q = (l.drop i).any q) (hq : q x = false) : l.any q = (l.drop (i + 1)).any q := by
 obtain ⟨hi, rfl⟩ := List.getElem?_eq_some_iff.1 hx
 rw [h, List.drop_eq_getElem_cons hi, List.any_cons, hq, Bool.false_or]
theorem any_hit (hx : l[i]? = some x) (hq : q x = true) : l.any q = true := by
 rw [List.any_eq_true]; exact ⟨x, List.mem_of_getElem? hx, hq⟩
theorem any_end (h : l.any q = (l.drop i).any q) (hi : ¬ i < l.length) : l.any q = false := by
 rw [h, List.drop_eq_nil_of_le (by omega)]; rfl
theorem find_step (hx : l[i]? = some x) (h : l.find? q = (l.drop i).find? q) (hq : q x = false) : l.find? q = (l.drop (i + 1)).find? q := by
 obtain ⟨hi, rfl⟩ := List.getElem?_eq_some_iff.1 hx
 rw [h, List.drop_eq_getElem_cons hi, List.find?_cons, hq]
theorem find_hit (hx : l[i]? = some x) (h : l.find? q = (l.drop i).find? q) (hq : q x = true) : l.find? q = some x := by
 obtain ⟨hi, rfl⟩ := List.getElem?_eq_some_iff.1 hx
 rw [h, List.drop_eq_getElem_cons hi, List.find?_cons, hq]
theorem find_end (h : l.find? q = (l.drop i).find? q) (hi : ¬ i < l.length) : l.find? q = none := by
 rw [h, List.drop_eq_nil_of_le (by omega)]; rfl
end
def adjB {α : Type} (q : α → α → Bool) : List α → Bool
 | x :: y :: r => q x y || adjB q (y :: r)
 | _ => false
section
variable {α : Type} {q : α → α → Bool} {l : List α} {i : Nat} {x y : α}
theorem adj_step (hx : l[i]? = some x) (hy : l[i + 1]? = some y) (h : adjB q l = adjB q (l.drop i)) (hq : q x y = false) : adjB q l = adjB q (l.drop (i + 1)) := by
 obtain ⟨hi, rfl⟩ := List.getElem?_eq_some_iff.1 hx
 obtain ⟨hj, rfl⟩ := List.getElem?_eq_some_iff.1 hy
 rw [h, List.drop_eq_getElem_cons hi, List.drop_eq_getElem_cons hj, adjB, hq, Bool.false_or]
theorem adj_hit (hx : l[i]? = some x) (hy : l[i + 1]? = some y) (h : adjB q l = adjB q (l.drop i)) (hq : q x y = true) : adjB q l = true := by
 obtain ⟨hi, rfl⟩ := List.getElem?_eq_some_iff.1 hx
 obtain ⟨hj, rfl⟩ := List.getElem?_eq_some_iff.1 hy
 rw [h, List.drop_eq_getElem_cons hi, List.drop_eq_getElem_cons hj, adjB, hq, Bool.true_or]
theorem adj_end (h : adjB q l = adjB q (l.drop i)) (hi : ¬ i + 1 < l.length) : adjB q l = false := by
 rw [h]
 cases h : l.drop i with
 | nil => rfl
 | cons a r =>
   cases r with
   | nil => rfl
   | cons b r => have := congrArg List.length h; simp at this; omega
end
def hasR (l : List Rt) (r : Int) : Bool := l.any fun x => decide (x.id = r)
theorem has05_c (g : Topo) (hg : g.rs.length ≤ 1000000) (r : Int) : Contract Tryz.prog 109 [topT g, .d (.int .i64 r)] [] (.d (.bool (hasR g.rs r))) [] [] := by
 refine contract_of Tryz.func109 rfl (fun E0 => ?_)
 refine awp.sound (g := .mk) (ow := []) (kp := (fun k => k==0||k==1||k==2||k==4||k==5||k==10||k==20)) ?_
 rw [Tryz.ntmps109]
 simp -dsimp [topT]
 refine ALoop.of [] (fun k => k==0||k==1||k==2||k==4||k==5||k==10||k==20) (ι := { i : Nat // i ≤ g.rs.length ∧ hasR g.rs r = hasR (g.rs.drop i) r }) (fun z => [(Pl.s 0, It.v (.agg [TV.d (.sl (rts g.rs)), TV.d (.sl (lks g.ls))])), (Pl.s 1, It.v (.d (.int .i64 r))), (Pl.o 2, It.box [TV.d (.sl (rts g.rs)), TV.d (.sl (lks g.ls))]), (Pl.s 2, It.v (.ptr (Pl.o 2) 0)), (Pl.s 4, It.v (.d (.bool false))), (Pl.s 5, It.v (.d (.int .i64 z.1)))]) (fun z => g.rs.length - z.1) ⟨0, by omega, rfl⟩ ?_ ?_
 ·exact GS.to (by simp)
 ·rintro ⟨i, i1, i2⟩
  by_cases hi : i < g.rs.length
  ·have hiz : (i : Int) < g.rs.length := by omega
   have hx : g.rs[i]? = some g.rs[i] := List.getElem?_eq_getElem hi
   generalize g.rs[i] = x at hx
   have hx' := rts_get hx
   by_cases h : x.id = r
   ·simp -dsimp [hiz, hx', Rt.cs, eq_true h]
    and_intros
    all_goals try first | rfl | omega | exact ⟨by kernel_rfl⟩
    refine Fin.of ?_
    simp [show hasR g.rs r = true from any_hit hx (by simp [h])]
   ·simp -dsimp [hiz, hx', Rt.cs, eq_false h, wrap_i64 (n := (i : Int) + 1) (by omega) (by omega)]
    and_intros
    all_goals try first | rfl | omega | exact ⟨by kernel_rfl⟩
    exact ⟨⟨i + 1, by omega, any_step hx i2 (by simp [h])⟩, GS.to (by simp []), by simp; omega⟩
  ·have hiz : ¬ (i : Int) < g.rs.length := by omega
   simp -dsimp [hiz]
   refine Fin.of ?_
   simp [show hasR g.rs r = false from any_end i2 hi]
theorem cost05_c (n : Int) : Contract Tryz.prog 108 [.d (.int .i64 n)] [] (.d (.bool (inB n 1 1000))) [] [] := by
 refine contract_of Tryz.func108 rfl (fun E0 => ?_)
 refine awp.sound (g := .mk) (ow := []) (kp := (fun k => k==0||k==2)) ?_
 rw [Tryz.ntmps108]
 simp -dsimp
 refine AIf.dec (fun h => ?_) (fun h => ?_)
 ·simp -dsimp [eq_true h]
  refine Fin.of ?_
  simp [inB, h]
 ·simp -dsimp [eq_false h]
  refine Fin.of ?_
  simp [inB, h]
def Lk.bad (x : Lk) : Bool := !inB x.ca 1 1000 || !inB x.cb 1 1000 || !inB x.cap 0 1000
def firstE : List (Bool × Int) → Int
 | [] => 0
 | (c, e) :: r => bif c then e else firstE r
def chkT (g : Topo) : Int := firstE [
 (decide (24 < g.rs.length), 3), (decide (60 < g.ls.length), 3),
 (g.rs.any fun x => !inB x.id 1 99, 2),
 (adjB (fun x y => decide (y.id ≤ x.id)) g.rs, 25),
 (g.ls.any Lk.bad, 2),
 (g.ls.any fun x => !hasR g.rs x.a || !hasR g.rs x.b, 4),
 (g.ls.any fun x => decide (x.b ≤ x.a), 8),
 (adjB (fun x y => decide (y.a < x.a) || decide (x.a = y.a) && decide (y.b ≤ x.b)) g.ls, 25)]
theorem check05_c (g : Topo) (hg : g.rs.length ≤ 1000000) (hl : g.ls.length ≤ 1000000) : Contract Tryz.prog 55 [topT g] [] (.d (.int .i64 (chkT g))) [] [] := by
 refine contract_of Tryz.func55 rfl (fun E0 => ?_)
 refine awp.sound (g := .mk) (ow := []) (kp := (fun k => k==0||k==1||k==2||k==3||k==4||k==5||k==6||k==7||k==8||k==9||k==10||k==11||k==21||k==26||k==44||k==49||k==65||k==70||k==97||k==102||k==124||k==129||k==144||k==149||k==181)) ?_
 rw [Tryz.ntmps55]
 by_cases c1 : 24 < g.rs.length
 ·have c1z : (24 : Int) < g.rs.length := by omega
  simp -dsimp [topT, c1z]
  refine Fin.of ?_
  simp [chkT, firstE, c1]
 by_cases c2 : 60 < g.ls.length
 ·have c1z : ¬ (24 : Int) < g.rs.length := by omega
  have c2z : (60 : Int) < g.ls.length := by omega
  simp -dsimp [topT, c1z, c2z]
  refine Fin.of ?_
  simp [chkT, firstE, c1, c2]
 have c1z : ¬ (24 : Int) < g.rs.length := by omega
 have c2z : ¬ (60 : Int) < g.ls.length := by omega
 simp -dsimp [topT, c1z, c2z]
 clear c1z c2z
 as_aux_lemma =>
 refine ALoop.of [] (fun k => k==0||k==1||k==2||k==3||k==4||k==5||k==6||k==7||k==8||k==9||k==10||k==11||k==21||k==26||k==44||k==49||k==65||k==70||k==97||k==102||k==124||k==129||k==144||k==149||k==181) (ι := { i : Nat // i ≤ g.rs.length ∧ (g.rs.any fun x => !inB x.id 1 99) = (g.rs.drop i).any fun x => !inB x.id 1 99 }) (fun z => [(Pl.o 1, It.box [TV.d (.sl (rts g.rs)), TV.d (.sl (lks g.ls))]), (Pl.s 1, It.v (.ptr (Pl.o 1) 0)), (Pl.s 2, It.v (.d (.int .i64 0))), (Pl.s 3, It.v (.d (.int .i64 z.1)))]) (fun z => g.rs.length - z.1) ⟨0, by omega, rfl⟩ ?_ ?_
 ·exact GS.to (by simp)
 ·rintro ⟨i, i1, i2⟩
  by_cases hi : i < g.rs.length
  ·have hiz : (i : Int) < g.rs.length := by omega
   have hx : g.rs[i]? = some g.rs[i] := List.getElem?_eq_getElem hi
   generalize g.rs[i] = x at hx
   have hx' := rts_get hx
   by_cases a1 : x.id < 1
   ·simp -dsimp [hiz, hx', Rt.cs, a1]
    and_intros
    all_goals try first | rfl | omega | exact ⟨by kernel_rfl⟩
    refine Fin.of ?_
    have e : (g.rs.any fun x => !inB x.id 1 99) = true := any_hit hx (by simp [inB]; omega)
    simp only [chkT, firstE, cond_true, cond_false, decide_eq_false c1, decide_eq_false c2, e]; simp
   by_cases a2 : 99 < x.id
   ·simp -dsimp [hiz, hx', Rt.cs, a1, a2]
    and_intros
    all_goals try first | rfl | omega | exact ⟨by kernel_rfl⟩
    refine Fin.of ?_
    have e : (g.rs.any fun x => !inB x.id 1 99) = true := any_hit hx (by simp [inB]; omega)
    simp only [chkT, firstE, cond_true, cond_false, decide_eq_false c1, decide_eq_false c2, e]; simp
   ·simp -dsimp [hiz, hx', Rt.cs, a1, a2, wrap_i64 (n := (i : Int) + 1) (by omega) (by omega)]
    and_intros
    all_goals try first | rfl | omega | exact ⟨by kernel_rfl⟩
    exact ⟨⟨i + 1, by omega, any_step hx i2 (by simp [inB]; omega)⟩, GS.to (by simp []), by simp; omega⟩
  have e1 := any_end i2 hi
  have hiz : ¬ (i : Int) < g.rs.length := by omega
  simp -dsimp [hiz]
  as_aux_lemma =>
  refine ALoop.of [] (fun k => k==0||k==1||k==2||k==3||k==4||k==5||k==6||k==7||k==8||k==9||k==10||k==11||k==21||k==26||k==44||k==49||k==65||k==70||k==97||k==102||k==124||k==129||k==144||k==149||k==181) (ι := { i : Nat // i ≤ g.rs.length ∧ adjB (fun x y => decide (y.id ≤ x.id)) g.rs = adjB (fun (x y : Rt) => decide (y.id ≤ x.id)) (g.rs.drop i) }) (fun z => [(Pl.o 1, It.box [TV.d (.sl (rts g.rs)), TV.d (.sl (lks g.ls))]), (Pl.s 1, It.v (.ptr (Pl.o 1) 0)), (Pl.s 2, It.v (.d (.int .i64 0))), (Pl.s 4, It.v (.d (.int .i64 ((z.1 : Int) + 1))))]) (fun z => g.rs.length - z.1) ⟨0, by omega, rfl⟩ ?_ ?_
  ·exact GS.to (by simp)
  ·rintro ⟨i, i1, i2⟩
   by_cases hi : i + 1 < g.rs.length
   ·have hi0 : i < g.rs.length := by omega
    have hiz : (i : Int) + 1 < g.rs.length := by omega
    have hx : g.rs[i]? = some g.rs[i] := List.getElem?_eq_getElem hi0
    have hy : g.rs[i + 1]? = some g.rs[i + 1] := List.getElem?_eq_getElem hi
    generalize g.rs[i] = x at hx
    generalize g.rs[i + 1] = y at hy
    have hx' := rts_get hx
    have hy' := rts_get hy
    by_cases a1 : y.id ≤ x.id
    ·simp -dsimp [hiz, hx', hy', Rt.cs, a1, toNat_succ, wrap_i64 (n := (i : Int)) (by omega) (by omega)]
     and_intros
     all_goals try first | rfl | omega | exact ⟨by kernel_rfl⟩
     refine Fin.of ?_
     have e := adj_hit hx hy i2 (by simpa using a1)
     simp only [chkT, firstE, cond_true, cond_false, decide_eq_false c1, decide_eq_false c2, e1, e]; simp
    ·simp -dsimp [hiz, hx', hy', Rt.cs, a1, toNat_succ, wrap_i64 (n := (i : Int)) (by omega) (by omega), wrap_i64 (n := (i : Int) + 1 + 1) (by omega) (by omega)]
     and_intros
     all_goals try first | rfl | omega | exact ⟨by kernel_rfl⟩
     exact ⟨⟨i + 1, by omega, adj_step hx hy i2 (by simpa using a1)⟩, GS.to (by simp []), by simp; omega⟩
   have e2 := adj_end i2 hi
   have hiz : ¬ (i : Int) + 1 < g.rs.length := by omega
   simp -dsimp [hiz]
   as_aux_lemma =>
   refine ALoop.of [] (fun k => k==0||k==1||k==2||k==3||k==4||k==5||k==6||k==7||k==8||k==9||k==10||k==11||k==21||k==26||k==44||k==49||k==65||k==70||k==97||k==102||k==124||k==129||k==144||k==149||k==181) (ι := { i : Nat // i ≤ g.ls.length ∧ g.ls.any Lk.bad = (g.ls.drop i).any Lk.bad }) (fun z => [(Pl.o 1, It.box [TV.d (.sl (rts g.rs)), TV.d (.sl (lks g.ls))]), (Pl.s 1, It.v (.ptr (Pl.o 1) 0)), (Pl.s 2, It.v (.d (.int .i64 0))), (Pl.s 5, It.v (.d (.int .i64 z.1)))]) (fun z => g.ls.length - z.1) ⟨0, by omega, rfl⟩ ?_ ?_
   ·exact GS.to (by simp)
   ·rintro ⟨i, i1, i2⟩
    by_cases hi : i < g.ls.length
    ·have hiz : (i : Int) < g.ls.length := by omega
     have hx : g.ls[i]? = some g.ls[i] := List.getElem?_eq_getElem hi
     generalize g.ls[i] = x at hx
     have hx' := lks_get hx
     have hit : Lk.bad x = true → chkT g = 2 := fun h => by
      have e := any_hit hx h
      simp only [chkT, firstE, cond_true, cond_false, decide_eq_false c1, decide_eq_false c2, e1, e2, e]
     simp -dsimp [hiz, hx', Lk.cs]
     refine ACall.of (cost05_c x.ca) [] 0 ?_
     rcases (Bool.eq_false_or_eq_true (inB x.ca 1 1000)).symm with b1 | b1
     ·simp -dsimp [hiz, hx', Lk.cs, b1]
      and_intros
      all_goals try first | rfl | omega | exact ⟨by kernel_rfl⟩
      refine Fin.of ?_
      simp [hit (by simp [Lk.bad, b1])]
     simp -dsimp [hiz, hx', Lk.cs, b1]
     refine ACall.of (cost05_c x.cb) [] 0 ?_
     rcases (Bool.eq_false_or_eq_true (inB x.cb 1 1000)).symm with b2 | b2
     ·simp -dsimp [hiz, hx', Lk.cs, b1, b2]
      and_intros
      all_goals try first | rfl | omega | exact ⟨by kernel_rfl⟩
      refine Fin.of ?_
      simp [hit (by simp [Lk.bad, b2])]
     by_cases b3 : x.cap < 0
     ·simp -dsimp [hiz, hx', Lk.cs, b1, b2, b3]
      and_intros
      all_goals try first | rfl | omega | exact ⟨by kernel_rfl⟩
      refine Fin.of ?_
      simp [hit (by simp [Lk.bad, inB, b1, b2]; omega)]
     by_cases b4 : 1000 < x.cap
     ·simp -dsimp [hiz, hx', Lk.cs, b1, b2, b3, b4]
      and_intros
      all_goals try first | rfl | omega | exact ⟨by kernel_rfl⟩
      refine Fin.of ?_
      simp [hit (by simp [Lk.bad, inB, b1, b2]; omega)]
     ·simp -dsimp [hiz, hx', Lk.cs, b1, b2, b3, b4, wrap_i64 (n := (i : Int) + 1) (by omega) (by omega)]
      and_intros
      all_goals try first | rfl | omega | exact ⟨by kernel_rfl⟩
      exact ⟨⟨i + 1, by omega, any_step hx i2 (by simp [Lk.bad, b1, b2]; simp [inB]; omega)⟩, GS.to (by simp []), by simp; omega⟩
    have e3 := any_end i2 hi
    have hiz : ¬ (i : Int) < g.ls.length := by omega
    simp -dsimp [hiz]
    as_aux_lemma =>
    refine ALoop.of [] (fun k => k==0||k==1||k==2||k==3||k==4||k==5||k==6||k==7||k==8||k==9||k==10||k==11||k==21||k==26||k==44||k==49||k==65||k==70||k==97||k==102||k==124||k==129||k==144||k==149||k==181) (ι := { i : Nat // i ≤ g.ls.length ∧ (g.ls.any fun x => !hasR g.rs x.a || !hasR g.rs x.b) = (g.ls.drop i).any fun x => !hasR g.rs x.a || !hasR g.rs x.b }) (fun z => [(Pl.o 1, It.box [TV.d (.sl (rts g.rs)), TV.d (.sl (lks g.ls))]), (Pl.s 1, It.v (.ptr (Pl.o 1) 0)), (Pl.s 2, It.v (.d (.int .i64 0))), (Pl.s 7, It.v (.d (.int .i64 z.1)))]) (fun z => g.ls.length - z.1) ⟨0, by omega, rfl⟩ ?_ ?_
    ·exact GS.to (by simp)
    ·rintro ⟨i, i1, i2⟩
     by_cases hi : i < g.ls.length
     ·have hiz : (i : Int) < g.ls.length := by omega
      have hx : g.ls[i]? = some g.ls[i] := List.getElem?_eq_getElem hi
      generalize g.ls[i] = x at hx
      have hx' := lks_get hx
      have hit : (!hasR g.rs x.a || !hasR g.rs x.b) = true → chkT g = 4 := fun h => by
       have e := any_hit (q := fun x : Lk => !hasR g.rs x.a || !hasR g.rs x.b) hx h
       simp only [chkT, firstE, cond_true, cond_false, decide_eq_false c1, decide_eq_false c2, e1, e2, e3, e]
      simp -dsimp [hiz, hx', Lk.cs]
      refine ACall.of (has05_c g hg x.a) [] 0 ?_
      rcases (Bool.eq_false_or_eq_true (hasR g.rs x.a)).symm with b1 | b1
      ·simp -dsimp [hiz, hx', Lk.cs, b1]
       and_intros
       all_goals try first | rfl | omega | exact ⟨by kernel_rfl⟩
       refine Fin.of ?_
       simp [hit (by simp [b1])]
      simp -dsimp [hiz, hx', Lk.cs, b1, topT]
      refine ACall.of (has05_c g hg x.b) [] 0 ?_
      rcases (Bool.eq_false_or_eq_true (hasR g.rs x.b)).symm with b2 | b2
      ·simp -dsimp [hiz, hx', Lk.cs, b1, b2]
       and_intros
       all_goals try first | rfl | omega | exact ⟨by kernel_rfl⟩
       refine Fin.of ?_
       simp [hit (by simp [b2])]
      ·simp -dsimp [hiz, hx', Lk.cs, b1, b2, wrap_i64 (n := (i : Int) + 1) (by omega) (by omega)]
       and_intros
       all_goals try first | rfl | omega | exact ⟨by kernel_rfl⟩
       exact ⟨⟨i + 1, by omega, any_step hx i2 (by simp [b1, b2])⟩, GS.to (by simp []), by simp; omega⟩
     have e4 := any_end i2 hi
     have hiz : ¬ (i : Int) < g.ls.length := by omega
     simp -dsimp [hiz]
     as_aux_lemma =>
     refine ALoop.of [] (fun k => k==0||k==1||k==2||k==3||k==4||k==5||k==6||k==7||k==8||k==9||k==10||k==11||k==21||k==26||k==44||k==49||k==65||k==70||k==97||k==102||k==124||k==129||k==144||k==149||k==181) (ι := { i : Nat // i ≤ g.ls.length ∧ (g.ls.any fun x => decide (x.b ≤ x.a)) = (g.ls.drop i).any fun x => decide (x.b ≤ x.a) }) (fun z => [(Pl.o 1, It.box [TV.d (.sl (rts g.rs)), TV.d (.sl (lks g.ls))]), (Pl.s 1, It.v (.ptr (Pl.o 1) 0)), (Pl.s 2, It.v (.d (.int .i64 0))), (Pl.s 8, It.v (.d (.int .i64 z.1)))]) (fun z => g.ls.length - z.1) ⟨0, by omega, rfl⟩ ?_ ?_
     ·exact GS.to (by simp)
     ·rintro ⟨i, i1, i2⟩
      by_cases hi : i < g.ls.length
      ·have hiz : (i : Int) < g.ls.length := by omega
       have hx : g.ls[i]? = some g.ls[i] := List.getElem?_eq_getElem hi
       generalize g.ls[i] = x at hx
       have hx' := lks_get hx
       by_cases b1 : x.b ≤ x.a
       ·simp -dsimp [hiz, hx', Lk.cs, b1]
        and_intros
        all_goals try first | rfl | omega | exact ⟨by kernel_rfl⟩
        refine Fin.of ?_
        have e := any_hit (q := fun x : Lk => decide (x.b ≤ x.a)) hx (by simpa using b1)
        simp only [chkT, firstE, cond_true, cond_false, decide_eq_false c1, decide_eq_false c2, e1, e2, e3, e4, e]; simp
       ·simp -dsimp [hiz, hx', Lk.cs, b1, wrap_i64 (n := (i : Int) + 1) (by omega) (by omega)]
        and_intros
        all_goals try first | rfl | omega | exact ⟨by kernel_rfl⟩
        exact ⟨⟨i + 1, by omega, any_step hx i2 (by simpa using b1)⟩, GS.to (by simp []), by simp; omega⟩
      have e5 := any_end i2 hi
      have hiz : ¬ (i : Int) < g.ls.length := by omega
      simp -dsimp [hiz]
      as_aux_lemma =>
      refine ALoop.of [] (fun k => k==0||k==1||k==2||k==3||k==4||k==5||k==6||k==7||k==8||k==9||k==10||k==11||k==21||k==26||k==44||k==49||k==65||k==70||k==97||k==102||k==124||k==129||k==144||k==149||k==181) (ι := { i : Nat // i ≤ g.ls.length ∧ adjB (fun x y => decide (y.a < x.a) || decide (x.a = y.a) && decide (y.b ≤ x.b)) g.ls = adjB (fun (x y : Lk) => decide (y.a < x.a) || decide (x.a = y.a) && decide (y.b ≤ x.b)) (g.ls.drop i) }) (fun z => [(Pl.o 1, It.box [TV.d (.sl (rts g.rs)), TV.d (.sl (lks g.ls))]), (Pl.s 1, It.v (.ptr (Pl.o 1) 0)), (Pl.s 2, It.v (.d (.int .i64 0))), (Pl.s 9, It.v (.d (.int .i64 ((z.1 : Int) + 1))))]) (fun z => g.ls.length - z.1) ⟨0, by omega, rfl⟩ ?_ ?_
      ·exact GS.to (by simp)
      ·rintro ⟨i, i1, i2⟩
       by_cases hi : i + 1 < g.ls.length
       ·have hi0 : i < g.ls.length := by omega
        have hiz : (i : Int) + 1 < g.ls.length := by omega
        have hx : g.ls[i]? = some g.ls[i] := List.getElem?_eq_getElem hi0
        have hy : g.ls[i + 1]? = some g.ls[i + 1] := List.getElem?_eq_getElem hi
        generalize g.ls[i] = x at hx
        generalize g.ls[i + 1] = y at hy
        have hx' := lks_get hx
        have hy' := lks_get hy
        have hit : (decide (y.a < x.a) || decide (x.a = y.a) && decide (y.b ≤ x.b)) = true → chkT g = 25 := fun h => by
         have e := adj_hit hx hy i2 h
         simp only [chkT, firstE, cond_true, cond_false, decide_eq_false c1, decide_eq_false c2, e1, e2, e3, e4, e5, e]
        have go : (decide (y.a < x.a) || decide (x.a = y.a) && decide (y.b ≤ x.b)) = false → adjB (fun x y => decide (y.a < x.a) || decide (x.a = y.a) && decide (y.b ≤ x.b)) g.ls = adjB (fun (x y : Lk) => decide (y.a < x.a) || decide (x.a = y.a) && decide (y.b ≤ x.b)) (g.ls.drop (i + 1)) := fun h => adj_step hx hy i2 h
        by_cases b1 : y.a < x.a
        ·simp -dsimp [hiz, hx', hy', Lk.cs, b1, toNat_succ, wrap_i64 (n := (i : Int)) (by omega) (by omega)]
         and_intros
         all_goals try first | rfl | omega | exact ⟨by kernel_rfl⟩
         refine Fin.of ?_
         simp [hit (by simp [b1])]
        by_cases b2 : x.a = y.a
        ·by_cases b3 : y.b ≤ x.b
         ·simp -dsimp [hiz, hx', hy', Lk.cs, b1, b2, b3, toNat_succ, wrap_i64 (n := (i : Int)) (by omega) (by omega)]
          and_intros
          all_goals try first | rfl | omega | exact ⟨by kernel_rfl⟩
          refine Fin.of ?_
          simp [hit (by simp [b2, b3])]
         ·simp -dsimp [hiz, hx', hy', Lk.cs, b1, b2, b3, toNat_succ, wrap_i64 (n := (i : Int)) (by omega) (by omega), wrap_i64 (n := (i : Int) + 1 + 1) (by omega) (by omega)]
          and_intros
          all_goals try first | rfl | omega | exact ⟨by kernel_rfl⟩
          exact ⟨⟨i + 1, by omega, go (by simp [b1, b3])⟩, GS.to (by simp []), by simp; omega⟩
        ·simp -dsimp [hiz, hx', hy', Lk.cs, b1, b2, toNat_succ, wrap_i64 (n := (i : Int)) (by omega) (by omega), wrap_i64 (n := (i : Int) + 1 + 1) (by omega) (by omega)]
         and_intros
         all_goals try first | rfl | omega | exact ⟨by kernel_rfl⟩
         exact ⟨⟨i + 1, by omega, go (by simp [b1, b2])⟩, GS.to (by simp []), by simp; omega⟩
       have e6 := adj_end i2 hi
       have hiz : ¬ (i : Int) + 1 < g.ls.length := by omega
       simp -dsimp [hiz]
       refine Fin.of ?_
       simp only [chkT, firstE, cond_true, cond_false, decide_eq_false c1, decide_eq_false c2, e1, e2, e3, e4, e5, e6]; simp
end Go.Proofs

namespace Go.Proofs
open Go Go.Tr
structure Topo.Sm (g : Topo) : Prop where
 r : g.rs.length ≤ 1000000
 l : g.ls.length ≤ 1000000
theorem has05x_c (g : Topo) (hg : g.Sm) (r : Int) : Contract Tryz.prog 57 [topT g, .d (.int .i64 r)] [] (.d (.bool (decide (chkT g = 0) && hasR g.rs r))) [] [] := by
 refine contract_of Tryz.func57 rfl (fun E0 => ?_)
 refine awp.sound (g := .mk) (ow := []) (kp := (fun k => k==0||k==1||k==2||k==4)) ?_
 rw [Tryz.ntmps57]
 simp -dsimp [topT]
 refine ACall.of (check05_c g hg.r hg.l) [] 0 ?_
 by_cases h : chkT g = 0
 ·simp -dsimp [eq_true h, topT]
  refine ACall.of (has05_c g hg.r r) [] 0 ?_
  simp -dsimp [eq_true h, topT]
  and_intros
  all_goals try first | rfl | omega | exact ⟨by kernel_rfl⟩
  refine Fin.of ?_
  simp [h]
 ·simp -dsimp [eq_false h, topT]
  and_intros
  all_goals try first | rfl | omega | exact ⟨by kernel_rfl⟩
  refine Fin.of ?_
  simp [h]
def rtOf (l : List Rt) (r : Int) : Option Rt := l.find? fun x => decide (x.id = r)
def capR (l : List Rt) (r : Int) : Bool := ((rtOf l r).getD ⟨0, false⟩).cap
theorem capable05_c (g : Topo) (hg : g.Sm) (r : Int) : Contract Tryz.prog 28 [topT g, .d (.int .i64 r)] [] (.d (.bool (decide (chkT g = 0) && capR g.rs r))) [] [] := by
 have hr := hg.r
 refine contract_of Tryz.func28 rfl (fun E0 => ?_)
 refine awp.sound (g := .mk) (ow := []) (kp := (fun k => k==0||k==1||k==2||k==4||k==5||k==8||k==13||k==23)) ?_
 rw [Tryz.ntmps28]
 simp -dsimp [topT]
 refine ACall.of (check05_c g hg.r hg.l) [] 0 ?_
 by_cases h : chkT g = 0
 ·simp -dsimp [eq_true h, topT]
  refine ALoop.of [] (fun k => k==0||k==1||k==2||k==4||k==5||k==8||k==13||k==23) (ι := { i : Nat // i ≤ g.rs.length ∧ rtOf g.rs r = rtOf (g.rs.drop i) r }) (fun z => [(Pl.s 0, It.v (.agg [TV.d (.sl (rts g.rs)), TV.d (.sl (lks g.ls))])), (Pl.s 1, It.v (.d (.int .i64 r))), (Pl.o 2, It.box [TV.d (.sl (rts g.rs)), TV.d (.sl (lks g.ls))]), (Pl.s 2, It.v (.ptr (Pl.o 2) 0)), (Pl.s 4, It.v (.d (.bool false))), (Pl.s 5, It.v (.d (.int .i64 z.1)))]) (fun z => g.rs.length - z.1) ⟨0, by omega, rfl⟩ ?_ ?_
  ·exact GS.to (by simp)
  ·rintro ⟨i, i1, i2⟩
   by_cases hi : i < g.rs.length
   ·have hiz : (i : Int) < g.rs.length := by omega
    have hx : g.rs[i]? = some g.rs[i] := List.getElem?_eq_getElem hi
    generalize g.rs[i] = x at hx
    have hx' := rts_get hx
    by_cases a : x.id = r
    ·simp -dsimp [hiz, hx', Rt.cs, eq_true a]
     and_intros
     all_goals try first | rfl | omega | exact ⟨by kernel_rfl⟩
     refine Fin.of ?_
     have e : rtOf g.rs r = some x := find_hit hx i2 (by simp [a])
     simp [h, capR, e]
    ·simp -dsimp [hiz, hx', Rt.cs, eq_false a, wrap_i64 (n := (i : Int) + 1) (by omega) (by omega)]
     and_intros
     all_goals try first | rfl | omega | exact ⟨by kernel_rfl⟩
     exact ⟨⟨i + 1, by omega, find_step hx i2 (by simp [a])⟩, GS.to (by simp []), by simp; omega⟩
   ·have hiz : ¬ (i : Int) < g.rs.length := by omega
    simp -dsimp [hiz]
    refine Fin.of ?_
    have e : rtOf g.rs r = none := find_end i2 hi
    simp [h, capR, e]
 ·simp -dsimp [eq_false h, topT]
  refine Fin.of ?_
  simp [h]
def price : List Lk → Int → Int → Option Int
 | [], _, _ => none
 | x :: l, f, t => if x.a = f ∧ x.b = t then some x.ca else if x.b = f ∧ x.a = t then some x.cb else price l f t
def priceT (o : Option Int) : TV := .tup [.d (.int .i64 (o.getD 0)), .d (.bool o.isSome)]
theorem price05_c (g : Topo) (hg : g.Sm) (f t : Int) : Contract Tryz.prog 116 [topT g, .d (.int .i64 f), .d (.int .i64 t)] [] (priceT (price g.ls f t)) [] [] := by
 have hl := hg.l
 refine contract_of Tryz.func116 rfl (fun E0 => ?_)
 refine awp.sound (g := .mk) (ow := []) (kp := (fun k => k==0||k==1||k==2||k==3||k==6||k==7||k==8||k==9||k==14||k==31||k==43)) ?_
 rw [Tryz.ntmps116]
 simp -dsimp [topT]
 refine ALoop.of [] (fun k => k==0||k==1||k==2||k==3||k==6||k==7||k==8||k==9||k==14||k==31||k==43) (ι := { i : Nat // i ≤ g.ls.length ∧ price g.ls f t = price (g.ls.drop i) f t }) (fun z => [(Pl.s 0, It.v (.agg [TV.d (.sl (rts g.rs)), TV.d (.sl (lks g.ls))])), (Pl.s 1, It.v (.d (.int .i64 f))), (Pl.s 2, It.v (.d (.int .i64 t))), (Pl.o 3, It.box [TV.d (.sl (rts g.rs)), TV.d (.sl (lks g.ls))]), (Pl.s 3, It.v (.ptr (Pl.o 3) 0)), (Pl.s 6, It.v (.d (.int .i64 0))), (Pl.s 7, It.v (.d (.bool false))), (Pl.s 8, It.v (.d (.int .i64 z.1)))]) (fun z => g.ls.length - z.1) ⟨0, by omega, rfl⟩ ?_ ?_
 ·exact GS.to (by simp)
 ·rintro ⟨i, i1, i2⟩
  by_cases hi : i < g.ls.length
  ·have hiz : (i : Int) < g.ls.length := by omega
   have hx : g.ls[i]? = some g.ls[i] := List.getElem?_eq_getElem hi
   have hd : g.ls.drop i = g.ls[i] :: g.ls.drop (i + 1) := List.drop_eq_getElem_cons hi
   generalize g.ls[i] = x at hx hd
   have hx' := lks_get hx
   rw [hd, price] at i2
   by_cases a1 : x.a = f
   ·by_cases a2 : x.b = t
    ·simp -dsimp [hiz, hx', Lk.cs, eq_true a1, eq_true a2]
     and_intros
     all_goals try first | rfl | omega | exact ⟨by kernel_rfl⟩
     refine Fin.of ?_
     rw [if_pos ⟨a1, a2⟩] at i2
     simp [i2, priceT]
    ·by_cases a3 : x.b = f
     ·by_cases a4 : x.a = t
      ·exfalso; omega
      ·simp -dsimp [hiz, hx', Lk.cs, eq_true a1, eq_false a2, eq_true a3, eq_false a4, wrap_i64 (n := (i : Int) + 1) (by omega) (by omega)]
       and_intros
       all_goals try first | rfl | omega | exact ⟨by kernel_rfl⟩
       exact ⟨⟨i + 1, by omega, by rw [i2, if_neg (by omega), if_neg (by omega)]⟩, GS.to (by simp []), by simp; omega⟩
     ·simp -dsimp [hiz, hx', Lk.cs, eq_true a1, eq_false a2, eq_false a3, wrap_i64 (n := (i : Int) + 1) (by omega) (by omega)]
      and_intros
      all_goals try first | rfl | omega | exact ⟨by kernel_rfl⟩
      exact ⟨⟨i + 1, by omega, by rw [i2, if_neg (by omega), if_neg (by omega)]⟩, GS.to (by simp []), by simp; omega⟩
   ·by_cases a3 : x.b = f
    ·by_cases a4 : x.a = t
     ·simp -dsimp [hiz, hx', Lk.cs, eq_false a1, eq_true a3, eq_true a4]
      and_intros
      all_goals try first | rfl | omega | exact ⟨by kernel_rfl⟩
      refine Fin.of ?_
      rw [if_neg (by omega), if_pos ⟨a3, a4⟩] at i2
      simp [i2, priceT]
     ·simp -dsimp [hiz, hx', Lk.cs, eq_false a1, eq_true a3, eq_false a4, wrap_i64 (n := (i : Int) + 1) (by omega) (by omega)]
      and_intros
      all_goals try first | rfl | omega | exact ⟨by kernel_rfl⟩
      exact ⟨⟨i + 1, by omega, by rw [i2, if_neg (by omega), if_neg (by omega)]⟩, GS.to (by simp []), by simp; omega⟩
    ·simp -dsimp [hiz, hx', Lk.cs, eq_false a1, eq_false a3, wrap_i64 (n := (i : Int) + 1) (by omega) (by omega)]
     and_intros
     all_goals try first | rfl | omega | exact ⟨by kernel_rfl⟩
     exact ⟨⟨i + 1, by omega, by rw [i2, if_neg (by omega), if_neg (by omega)]⟩, GS.to (by simp []), by simp; omega⟩
  ·have hiz : ¬ (i : Int) < g.ls.length := by omega
   simp -dsimp [hiz]
   refine Fin.of ?_
   rw [List.drop_eq_nil_of_le (by omega), price] at i2
   simp [i2, priceT]
def near (g : Topo) (r : Int) : List Int := (g.rs.filter fun x => (price g.ls r x.id).isSome).map (·.id)
theorem near05_c (g : Topo) (hg : g.Sm) (r : Int) : Contract Tryz.prog 115 [topT g, .d (.int .i64 r)] [] (.d (ints (near g r))) [] [] := by
 have hl := hg.r
 refine contract_of Tryz.func115 rfl (fun E0 => ?_)
 refine awp.sound (g := .mk) (ow := []) (kp := (fun k => k==0||k==1||k==2||k==4||k==5||k==6||k==8||k==13||k==28)) ?_
 rw [Tryz.ntmps115]
 simp -dsimp [topT]
 refine ALoop.of [] (fun k => k==0||k==1||k==2||k==4||k==5||k==6||k==8||k==13||k==28) (ι := { i : Nat // i ≤ g.rs.length ∧ True }) (fun z => [(Pl.s 0, It.v (.agg [TV.d (.sl (rts g.rs)), TV.d (.sl (lks g.ls))])), (Pl.s 1, It.v (.d (.int .i64 r))), (Pl.o 2, It.box [TV.d (.sl (rts g.rs)), TV.d (.sl (lks g.ls))]), (Pl.s 2, It.v (.ptr (Pl.o 2) 0)), (Pl.s 4, It.v (.c (Value.slice none 0 0))), (Pl.s 5, It.v (.oref 5 (near ⟨g.rs.take z.1, g.ls⟩ r).length)), (Pl.o 5, It.row 3 1 (dd (nrow .i64 (near ⟨g.rs.take z.1, g.ls⟩ r))) false), (Pl.s 6, It.v (.d (.int .i64 z.1)))]) (fun z => g.rs.length - z.1) ⟨0, by omega, trivial⟩ ?_ ?_
 ·exact GS.own' (k := 5) 3 1 (by simp) (by simp) (by simp [ints, nrow, near])
 ·rintro ⟨i, i1, i2⟩
  by_cases hi : i < g.rs.length
  ·have hiz : (i : Int) < g.rs.length := by omega
   have hx : g.rs[i]? = some g.rs[i] := List.getElem?_eq_getElem hi
   have ht : g.rs.take (i + 1) = g.rs.take i ++ [g.rs[i]] := by rw [List.take_add_one, List.getElem?_eq_getElem hi]; rfl
   generalize g.rs[i] = x at hx ht
   have hx' := rts_get hx
   simp -dsimp [hiz, hx', Rt.cs, topT]
   refine ACall.of (price05_c g hg r x.id) [] 0 ?_
   have hn : (near ⟨g.rs.take i, g.ls⟩ r).length ≤ 1000000 := by
    simp only [near, List.length_map]
    exact Nat.le_trans (List.length_filter_le _ _) (by simp; omega)
   have dl : dLen 1 ((near ⟨g.rs.take i, g.ls⟩ r).map fun x => [D.int .i64 x]) := dLen_map 1 _ _ fun _ => rfl
   rcases (Bool.eq_false_or_eq_true (price g.ls r x.id).isSome).symm with h | h
   ·simp -dsimp [hiz, hx', Rt.cs, topT, priceT, h, wrap_i64 (n := (i : Int) + 1) (by omega) (by omega)]
    and_intros
    all_goals try first | rfl | omega | exact ⟨by kernel_rfl⟩
    exact ⟨⟨i + 1, by omega, trivial⟩, GS.to (by simp [near, ht, h]), by simp; omega⟩
   ·simp -dsimp [hiz, hx', Rt.cs, topT, priceT, h, ints, wrap_i64 (n := (i : Int) + 1) (by omega) (by omega)]
    and_intros
    all_goals try first | rfl | omega | exact ⟨by kernel_rfl⟩
    exact ⟨⟨i + 1, by omega, trivial⟩, GS.to (by simp [near, ht, h, nrow]), by simp; omega⟩
  ·have hiz : ¬ (i : Int) < g.rs.length := by omega
   simp -dsimp [hiz]
   refine Fin.view 4 ?_
   simp -dsimp
   refine Fin.of ?_
   simp [List.take_of_length_le (show g.rs.length ≤ i by omega), ints, nrow]
end Go.Proofs

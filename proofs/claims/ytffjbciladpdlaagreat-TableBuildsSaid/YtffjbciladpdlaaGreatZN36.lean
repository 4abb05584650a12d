/-
  What functions of the program compute, stated as contracts over plain data; the conditions of each stand in its own statement.
-/
import Derived.Test.YtffjbciladpdlaaGreatZN17
import Derived.Test.YtffjbciladpdlaaGreatZN21
import Derived.Test.YtffjbciladpdlaaGreatZN24
import Derived.Test.YtffjbciladpdlaaGreatZN35
set_option linter.unusedSimpArgs false
set_option linter.unusedVariables false
set_option maxRecDepth 100000
set_option maxHeartbeats 4000000
namespace Go.Proofs
open Go Go.Tr
theorem ordO_c (l : List Lk) (hl : l.length ≤ 1000) : Contract Tryz.prog 46 [.d (.sl (lks l))] [] (.oref 3 l.length) [] [(3, .row 85 5 (dd (lks (ordL l []))) false)] := by
 refine contract_of Tryz.func46 rfl (fun E0 => ?_)
 refine awp.sound (g := .mk) (ow := []) (kp := (fun k => k==0||k==2||k==3||k==4||k==5||k==6||k==10||k==55)) ?_
 rw [Tryz.ntmps46]
 simp -dsimp
 refine ALoop.of [] (fun k => k==0||k==2||k==3||k==4||k==5||k==6||k==10||k==55) (ι := { i : Nat × List Lk // i.1 ≤ l.length ∧ i.2.length = i.1 ∧ ordL l [] = ordL (l.drop i.1) i.2 }) (fun i => [(Pl.s 0, It.v (.d (.sl (lks l)))),
    (Pl.s 2, It.v (.c (Value.slice none 0 0))), (Pl.s 3, It.v (.oref 3 i.1.2.length)), (Pl.o 3, .row 85 5 (dd (lks i.1.2)) false),
    (Pl.s 4, It.v (.d (.int .i64 i.1.1)))]) (fun i => l.length - i.1.1) ⟨(0, []), by simp, rfl, rfl⟩ ?_ ?_
 ·exact GS.own' (k := 3) 85 5 (by simp) (by simp) (by simp [lks])
 ·rintro ⟨⟨i, out⟩, h1, h2, h3⟩
  simp only at h1 h2 h3
  simp -dsimp
  refine AIf.dec (fun h => ?_) (fun h => ?_)
  ·have hi : i < l.length := by simpa using h
   obtain ⟨x, hx⟩ : ∃ x, l[i]? = some x := ⟨l[i], List.getElem?_eq_getElem hi⟩
   have hx' := lks_get' hx
   have hdl : l.drop i = x :: l.drop (i + 1) := by rw [List.getElem?_eq_some_iff] at hx; obtain ⟨_, rfl⟩ := hx; exact List.drop_eq_getElem_cons _
   simp -dsimp
   refine ALoop.of [] (fun k => k==0||k==2||k==3||k==4||k==5||k==6||k==10||k==55) (ι := { p : Nat // p ≤ out.length ∧ lkPos x out = p + lkPos x (out.drop p) }) (fun p => [(Pl.s 0, It.v (.d (.sl (lks l)))),
    (Pl.s 2, It.v (.c (Value.slice none 0 0))), (Pl.s 3, It.v (.d (.sl (lks out)))), (Pl.s 4, It.v (.d (.int .i64 i))), (Pl.s 5, It.v (.d (.int .i64 p.1)))]) (fun p => out.length - p.1) ⟨0, by omega, by simp⟩ ?_ ?_
   ·exact GS.viewS 3 (by simp)
   ·rintro ⟨p, p1, p2⟩
    by_cases hp : p < out.length
    ·obtain ⟨y, hy⟩ : ∃ y, out[p]? = some y := ⟨out[p], List.getElem?_eq_getElem hp⟩
     have hy' := lks_get' hy
     have hd : out.drop p = y :: out.drop (p + 1) := by rw [List.getElem?_eq_some_iff] at hy; obtain ⟨_, rfl⟩ := hy; exact List.drop_eq_getElem_cons _
     by_cases c1 : y.a < x.a
     ·simp -dsimp [hp, hi, hy', hx', Lk.cs, c1, wrap_i64 (n := (p : Int) + 1) (by omega) (by omega)]
      refine ⟨⟨⟨p + 1, by omega, ?_⟩, GS.to (by simp), by simp; omega⟩, ⟨by kernel_rfl⟩⟩
      rw [p2, hd, lkPos, if_pos (by simp [Lk.before, c1])]; omega
     ·by_cases c2 : y.a = x.a
      ·by_cases c3 : y.b < x.b
       ·simp -dsimp [hp, hi, hy', hx', Lk.cs, c1, c2, c3, wrap_i64 (n := (p : Int) + 1) (by omega) (by omega)]
        refine ⟨⟨⟨p + 1, by omega, ?_⟩, GS.to (by simp), by simp; omega⟩, ⟨by kernel_rfl⟩⟩
        rw [p2, hd, lkPos, if_pos (by simp [Lk.before, c2, c3])]; omega
       ·have hq : lkPos x out = p := by rw [p2, hd, lkPos, if_neg (by simp [Lk.before, c2, c3])]; omega
        simp -dsimp [hp, hi, hy', c1, c2, c3, hx', Lk.cs, wrap_i64 (n := (i : Int) + 1) (by omega) (by omega)]
        and_intros
        all_goals try first | omega | exact ⟨by kernel_rfl⟩ | exact dLen_lks out | exact dLen_take (dLen_lks out) | exact dLen_drop (dLen_lks out) | exact dLen_drop (dLen_take (dLen_lks out)) | (simp; omega)
        refine ⟨⟨(i + 1, out.take p ++ [x] ++ out.drop p), by omega, by simp; omega, ?_⟩, ?_, by simp; omega⟩
        ·rw [h3, hdl, ordL, hq]
        ·have hn : min p out.length + 1 + (out.length - p) = i + 1 := by omega
         have hn2 : (List.take p out ++ [x] ++ List.drop p out).length = i + 1 := by simp; omega
         have hd2 : dd (List.take p (lks out)) ++ [TV.d (.int .i64 x.a), TV.d (.int .i64 x.b), TV.d (.int .i64 x.ca), TV.d (.int .i64 x.cb), TV.d (.int .i64 x.cap)] :: dd (List.drop p (List.take out.length (lks out))) = dd (lks (List.take p out ++ [x] ++ List.drop p out)) := by
          simp [dd, lks, Lk.cs, List.take_of_length_le]
         rw [hn, hd2]
         simp only [hn2]
         generalize List.take p out ++ [x] ++ List.drop p out = out2
         exact (GS.to (l' := [(Pl.s 0, It.v (.d (.sl (lks l)))), (Pl.s 2, It.v (.c (Value.slice none 0 0))), (Pl.s 3, It.v (.oref 62 (i + 1))), (Pl.o 62, .row 85 5 (dd (lks out2)) false), (Pl.s 4, It.v (.d (.int .i64 (↑i + 1))))]) (by simp)).trans (GS.ren' 62 3 (by decide) (by simp) (by simp))
      ·have hq : lkPos x out = p := by rw [p2, hd, lkPos, if_neg (by simp [Lk.before, c1, c2])]; omega
       simp -dsimp [hp, hi, hy', c1, c2, hx', Lk.cs, wrap_i64 (n := (i : Int) + 1) (by omega) (by omega)]
       and_intros
       all_goals try first | omega | exact ⟨by kernel_rfl⟩ | exact dLen_lks out | exact dLen_take (dLen_lks out) | exact dLen_drop (dLen_lks out) | exact dLen_drop (dLen_take (dLen_lks out)) | (simp; omega)
       refine ⟨⟨(i + 1, out.take p ++ [x] ++ out.drop p), by omega, by simp; omega, ?_⟩, ?_, by simp; omega⟩
       ·rw [h3, hdl, ordL, hq]
       ·have hn : min p out.length + 1 + (out.length - p) = i + 1 := by omega
        have hn2 : (List.take p out ++ [x] ++ List.drop p out).length = i + 1 := by simp; omega
        have hd2 : dd (List.take p (lks out)) ++ [TV.d (.int .i64 x.a), TV.d (.int .i64 x.b), TV.d (.int .i64 x.ca), TV.d (.int .i64 x.cb), TV.d (.int .i64 x.cap)] :: dd (List.drop p (List.take out.length (lks out))) = dd (lks (List.take p out ++ [x] ++ List.drop p out)) := by
         simp [dd, lks, Lk.cs, List.take_of_length_le]
        rw [hn, hd2]
        simp only [hn2]
        generalize List.take p out ++ [x] ++ List.drop p out = out2
        exact (GS.to (l' := [(Pl.s 0, It.v (.d (.sl (lks l)))), (Pl.s 2, It.v (.c (Value.slice none 0 0))), (Pl.s 3, It.v (.oref 62 (i + 1))), (Pl.o 62, .row 85 5 (dd (lks out2)) false), (Pl.s 4, It.v (.d (.int .i64 (↑i + 1))))]) (by simp)).trans (GS.ren' 62 3 (by decide) (by simp) (by simp))
    ·have hq : lkPos x out = p := by rw [p2, List.drop_eq_nil_of_le (by omega), lkPos]; omega
     simp -dsimp [hp, hi, hx', Lk.cs, wrap_i64 (n := (i : Int) + 1) (by omega) (by omega)]
     and_intros
     all_goals try first | omega | exact ⟨by kernel_rfl⟩ | exact dLen_lks out | exact dLen_take (dLen_lks out) | exact dLen_drop (dLen_lks out) | exact dLen_drop (dLen_take (dLen_lks out)) | (simp; omega)
     refine ⟨⟨(i + 1, out.take p ++ [x] ++ out.drop p), by omega, by simp; omega, ?_⟩, ?_, by simp; omega⟩
     ·rw [h3, hdl, ordL, hq]
     ·have hn : min p out.length + 1 + (out.length - p) = i + 1 := by omega
      have hn2 : (List.take p out ++ [x] ++ List.drop p out).length = i + 1 := by simp; omega
      have hd2 : dd (List.take p (lks out)) ++ [TV.d (.int .i64 x.a), TV.d (.int .i64 x.b), TV.d (.int .i64 x.ca), TV.d (.int .i64 x.cb), TV.d (.int .i64 x.cap)] :: dd (List.drop p (List.take out.length (lks out))) = dd (lks (List.take p out ++ [x] ++ List.drop p out)) := by
       simp [dd, lks, Lk.cs, List.take_of_length_le]
      rw [hn, hd2]
      simp only [hn2]
      generalize List.take p out ++ [x] ++ List.drop p out = out2
      exact (GS.to (l' := [(Pl.s 0, It.v (.d (.sl (lks l)))), (Pl.s 2, It.v (.c (Value.slice none 0 0))), (Pl.s 3, It.v (.oref 62 (i + 1))), (Pl.o 62, .row 85 5 (dd (lks out2)) false), (Pl.s 4, It.v (.d (.int .i64 (↑i + 1))))]) (by simp)).trans (GS.ren' 62 3 (by decide) (by simp) (by simp))
  ·simp -dsimp
   refine Fin.of ?_
   have : l.drop i = [] := List.drop_eq_nil_of_le (by simpa using h)
   have hli : out.length = l.length := by have := (show ¬ i < l.length by simpa using h); omega
   simp [h3, this, ordL, hli]
set_option maxHeartbeats 16000000
def spR (g : Topo) (T : Tp) : Topo × Tp := (⟨g.rs ++ [⟨(gPick T [0, 1, 99, 100, -1]).1, false⟩], g.ls⟩, (gPick T [0, 1, 99, 100, -1]).2)
def spL (g : Topo) (T : Tp) : Topo × Tp := (⟨g.rs, g.ls ++ [⟨(gNext T 4).1, (gNext (gNext T 4).2 4).1, 1, 1, 0⟩]⟩, (gNext (gNext T 4).2 4).2)
def spM (f : Lk → Int → Lk) (g : Topo) (T : Tp) : Topo × Tp :=
 if 0 < g.ls.length then (⟨g.rs, g.ls.set (gNext T g.ls.length).1.toNat (f (g.ls.getD (gNext T g.ls.length).1.toNat ⟨0, 0, 0, 0, 0⟩) (gWild (gNext T g.ls.length).2).1)⟩, (gWild (gNext T g.ls.length).2).2) else (g, T)
def spD (g : Topo) (T : Tp) : Topo × Tp :=
 if 0 < g.ls.length then (⟨g.rs, g.ls ++ [g.ls.getD (gNext T g.ls.length).1.toNat ⟨0, 0, 0, 0, 0⟩]⟩, (gNext T g.ls.length).2) else (g, T)
def mtR (k : Nat) : List Rt := (List.range k).map fun (i : Nat) => ⟨(i : Int) + 50, false⟩
def gSpo (g : Topo) (k : Int) (T : Tp) : Topo × Tp :=
 if k = 0 then spR g T else if k = 1 then spL g T
 else if k = 2 then spM (fun x w => ⟨x.a, x.b, w, x.cb, x.cap⟩) g T
 else if k = 3 then spM (fun x w => ⟨x.a, x.b, x.ca, w, x.cap⟩) g T
 else if k = 4 then spM (fun x w => ⟨x.a, x.b, x.ca, x.cb, w⟩) g T
 else if k = 5 then spD g T
 else (⟨g.rs ++ mtR 25, g.ls⟩, T)
def gTopM (T : Tp) (most n : Int) : Topo × Tp :=
 let G := gTop T most
 let o := gOne G.2 n
 if o.1 then gSpo G.1 (gNext o.2 7).1 (gNext o.2 7).2 else (G.1, o.2)
theorem topoM_c (T : Tp) (hT : TapeOK T) (most : Int) (hm : 1 ≤ most ∧ most ≤ 24) (n : Int) (hn : 1 ≤ n ∧ n ≤ 1000) : Contract Tryz.prog 13 [.ptr (.x 0) 0, .d (.int .i64 most), .d (.int .i64 n)] [tapeI T] (topT (gTopM T most n).1) [tapeI (gTopM T most n).2] [] := by
 have b1 := gRange_lo T 1 most
 have b2 := gRange_hi T (a := 1) (b := most) (by omega)
 refine contract_of Tryz.func13 rfl (fun E0 => ?_)
 refine awp.sound (g := .mk) (ow := []) (kp := (fun k => k==0||k==1||k==2||k==6||k==7||k==8||k==9||k==10||k==11||k==12||k==13||k==14||k==15||k==21||k==36||k==47||k==60||k==87||k==89||k==91||k==101||k==112||k==124||k==129||k==141||k==146||k==158||k==163||k==175||k==180)) ?_
 rw [Tryz.ntmps13]
 simp -dsimp
 refine ACall.of (range_c T hT 1 most ⟨by omega, by omega⟩ ⟨by omega, by omega⟩ ⟨by omega, by omega⟩ ⟨by omega, by omega⟩) [.x 0] 0 ?_
 simp -dsimp
 generalize hR : gRange T 1 most = R at b1 b2 ⊢
 have kR : TapeOK R.2 := by rw [← hR]; simpa using hT
 refine ALoop.of [] (fun k => k==0||k==1||k==2||k==6||k==7||k==8||k==9||k==10||k==11||k==12||k==13||k==14||k==15||k==21||k==36||k==47||k==60||k==87||k==89||k==91||k==101||k==112||k==124||k==129||k==141||k==146||k==158||k==163||k==175||k==180) (ι := { i : Nat // (i : Int) ≤ R.1 }) (fun i => [(Pl.s 0, It.v (.ptr (Pl.x 0) 0)), (Pl.s 1, It.v (.d (.int .i64 most))), (Pl.s 2, It.v (.d (.int .i64 n))), (Pl.x 0, tapeI R.2),
  (Pl.o 6, It.box [TV.c (Value.slice none 0 0), TV.c (Value.slice none 0 0)]), (Pl.s 6, It.v (.ptr (Pl.o 6) 0)), (Pl.o 7, It.box [TV.oref 1000 i.1, TV.c (Value.slice none 0 0)]), (Pl.s 7, It.v (.ptr (Pl.o 7) 0)),
  (Pl.s 8, It.v (.d (.int .i64 R.1))), (Pl.s 9, It.v (.d (.int .i64 (i.1 + 1)))), (Pl.o 1000, .row 81 2 (dd (rts (gRts i.1))) false)]) (fun i => R.1.toNat - i.1) ⟨0, by omega⟩ ?_ ?_
 ·exact GS.ownB' (.o 7) 0 1000 (cs := [TV.c (Value.slice none 0 0), TV.c (Value.slice none 0 0)]) 81 2 (by simp) (by simp) (by simp) (by simp) (by simp [gRts, rts])
 ·rintro ⟨i, hi⟩
  simp -dsimp
  refine AIf.dec (fun h => ?_) (fun h => ?_)
  ·simp -dsimp [wrap_i64 (n := (i : Int) + 1 + 1) (by omega) (by omega)]
   and_intros
   all_goals try omega
   exact ⟨⟨⟨i + 1, by omega⟩, GS.to (by simp [gRts, rts, List.range_succ, Rt.cs]), by simp; omega⟩⟩
  ·have hk : R.1 = i := by omega
   simp -dsimp
   refine ACall.of (pick_c R.2 kR [1, 2, 2, 5] (by simp) (by simp)) [.x 0] 0 ?_
   simp -dsimp [ints]
   generalize hC : gPick R.2 [1, 2, 2, 5] = C
   have kC : TapeOK C.2 := by rw [← hC]; simpa using kR
   have bC : 1 ≤ C.1 ∧ C.1 ≤ 5 := by rw [← hC]; exact gPick_all (p := fun x => 1 ≤ x ∧ x ≤ 5) (by simp) (by simp)
   refine ALoop.of [] (fun k => k==0||k==1||k==2||k==6||k==7||k==8||k==9||k==10||k==11||k==12||k==13||k==14||k==15||k==21||k==36||k==47||k==60||k==87||k==89||k==91||k==101||k==112||k==124||k==129||k==141||k==146||k==158||k==163||k==175||k==180) (ι := { z : Int × Tp × List Lk // 2 ≤ z.1 ∧ z.1 ≤ R.1 + 1 ∧ TapeOK z.2.1 ∧ z.2.2.length ≤ 24 * (z.1.toNat - 2) ∧ gTopB C.1 (R.1 + 1 - 2).toNat 2 C.2 [] = gTopB C.1 (R.1 + 1 - z.1).toNat z.1 z.2.1 z.2.2 })
    (fun z => [(Pl.s 0, It.v (.ptr (Pl.x 0) 0)), (Pl.s 1, It.v (.d (.int .i64 most))), (Pl.s 2, It.v (.d (.int .i64 n))), (Pl.x 0, tapeI z.1.2.1),
     (Pl.o 6, It.box [TV.c (Value.slice none 0 0), TV.c (Value.slice none 0 0)]), (Pl.s 6, It.v (.ptr (Pl.o 6) 0)), (Pl.o 7, It.box [TV.oref 1000 i, TV.oref 1001 z.1.2.2.length]), (Pl.s 7, It.v (.ptr (Pl.o 7) 0)),
     (Pl.s 8, It.v (.d (.int .i64 R.1))), (Pl.o 1000, .row 81 2 (dd (rts (gRts i))) false), (Pl.o 1001, .row 85 5 (dd (lks z.1.2.2)) false),
     (Pl.s 10, It.v (.d (.int .i64 C.1))), (Pl.s 11, It.v (.d (.int .i64 z.1.1)))]) (fun z => (R.1 + 1 - z.1.1).toNat) ⟨(2, C.2, []), by omega, by omega, kC, by simp, rfl⟩ ?_ ?_
   ·exact GS.ownB' (.o 7) 1 1001 (cs := [TV.oref 1000 i, TV.c (Value.slice none 0 0)]) 85 5 (by simp) (by simp) (by simp) (by simp) (by simp [lks])
   ·rintro ⟨⟨b, T0, l0⟩, i1, i2, i3, i4, i5⟩
    simp only at i1 i2 i3 i4 i5
    simp -dsimp
    refine AIf.dec (fun hb => ?_) (fun hb => ?_)
    ·have t1 := gRange_lo T0 1 (b - 1)
     have t2 := gRange_hi T0 (a := 1) (b := b - 1) (by omega)
     simp -dsimp [wrap_i64 (n := b - 1) (by omega) (by omega)]
     refine ACall.of (range_c T0 i3 1 (b - 1) ⟨by omega, by omega⟩ ⟨by omega, by omega⟩ ⟨by omega, by omega⟩ ⟨by omega, by omega⟩) [.x 0] 0 ?_
     simp -dsimp
     generalize ht : gRange T0 1 (b - 1) = t at t1 t2 ⊢
     have kt : TapeOK t.2 := by rw [← ht]; simpa using i3
     refine ACall.of (one_c t.2 kt 9 ⟨by omega, by omega⟩ ⟨by omega, by omega⟩) [.x 0] 0 ?_
     simp -dsimp
     generalize hs : gOne t.2 9 = s
     have ks : TapeOK s.2 := by rw [← hs]; simpa using kt
     refine ALoop.of [] (fun k => k==0||k==1||k==2||k==6||k==7||k==8||k==9||k==10||k==11||k==12||k==13||k==14||k==15||k==21||k==36||k==47||k==60||k==87||k==89||k==91||k==101||k==112||k==124||k==129||k==141||k==146||k==158||k==163||k==175||k==180) (ι := { z : Int × Tp × List Lk // 1 ≤ z.1 ∧ z.1 ≤ b ∧ TapeOK z.2.1 ∧ z.2.2.length ≤ 24 * (b.toNat - 2) + (z.1.toNat - 1) ∧ gTopA C.1 t.1 s.1 b (b - 1).toNat 1 s.2 l0 = gTopA C.1 t.1 s.1 b (b - z.1).toNat z.1 z.2.1 z.2.2 })
      (fun z => [(Pl.s 0, It.v (.ptr (Pl.x 0) 0)), (Pl.s 1, It.v (.d (.int .i64 most))), (Pl.s 2, It.v (.d (.int .i64 n))), (Pl.x 0, tapeI z.1.2.1),
       (Pl.o 6, It.box [TV.c (Value.slice none 0 0), TV.c (Value.slice none 0 0)]), (Pl.s 6, It.v (.ptr (Pl.o 6) 0)), (Pl.o 7, It.box [TV.oref 1000 i, TV.oref 1001 z.1.2.2.length]), (Pl.s 7, It.v (.ptr (Pl.o 7) 0)),
       (Pl.s 8, It.v (.d (.int .i64 R.1))), (Pl.o 1000, .row 81 2 (dd (rts (gRts i))) false), (Pl.o 1001, .row 85 5 (dd (lks z.1.2.2)) false),
       (Pl.s 10, It.v (.d (.int .i64 C.1))), (Pl.s 11, It.v (.d (.int .i64 b))), (Pl.s 12, It.v (.d (.int .i64 t.1))), (Pl.s 13, It.v (.d (.bool s.1))), (Pl.s 14, It.v (.d (.int .i64 z.1.1)))]) (fun z => (b - z.1.1).toNat) ⟨(1, s.2, l0), by omega, by omega, ks, by simpa using i4, rfl⟩ ?_ ?_
     ·exact GS.to (by simp)
     ·rintro ⟨⟨a, T1, l⟩, j1, j2, j3, j4, j5⟩
      simp only at j1 j2 j3 j4 j5
      by_cases hab : a < b
      ·have hab' : decide (a < b) = true := by simpa using hab
       by_cases ha : a = t.1
       ·have ha' : decide (a = t.1) = true := by simpa using ha
        rcases (Bool.eq_false_or_eq_true s.1).symm with hs1 | hs1
        ·simp -dsimp [hab', ha', hs1]
         have x1 := gRange_lo T1 1 C.1
         have x2 := gRange_hi T1 (a := 1) (b := C.1) (by omega)
         refine ACall.of (range_c T1 j3 1 C.1 ⟨by omega, by omega⟩ ⟨by omega, by omega⟩ ⟨by omega, by omega⟩ ⟨by omega, by omega⟩) [.x 0] 0 ?_
         simp -dsimp
         generalize hx : gRange T1 1 C.1 = x at x1 x2 ⊢
         have kx : TapeOK x.2 := by rw [← hx]; simpa using j3
         have y1 := gRange_lo x.2 1 C.1
         have y2 := gRange_hi x.2 (a := 1) (b := C.1) (by omega)
         refine ACall.of (range_c x.2 kx 1 C.1 ⟨by omega, by omega⟩ ⟨by omega, by omega⟩ ⟨by omega, by omega⟩ ⟨by omega, by omega⟩) [.x 0] 0 ?_
         simp -dsimp
         generalize hy : gRange x.2 1 C.1 = y at y1 y2 ⊢
         have ky : TapeOK y.2 := by rw [← hy]; simpa using kx
         refine ACall.of (next_c y.2 ky 4 ⟨by omega, by omega⟩) [.x 0] 0 ?_
         simp -dsimp [wrap_i64 (n := a + 1) (by omega) (by omega)]
         have e : gTopS C.1 t.1 s.1 b a T1 l = (l ++ [⟨a, b, x.1, y.1, (gNext y.2 4).1⟩], (gNext y.2 4).2) := by simp [gTopS, ha', hs1, hx, hy]
         and_intros
         all_goals try first | omega | exact ⟨by kernel_rfl⟩ | (simp; omega)
         exact ⟨⟨(a + 1, (gNext y.2 4).2, l ++ [⟨a, b, x.1, y.1, (gNext y.2 4).1⟩]), by omega, by omega, by simpa using ky, by simp; omega, by rw [j5, show (b - a).toNat = (b - (a + 1)).toNat + 1 by omega, gTopA, e]⟩, GS.to (by simp [lks, Lk.cs, ha', hs1]), by simp; omega⟩
        ·simp -dsimp [hab', ha', hs1]
         refine ACall.of (one_c T1 j3 3 ⟨by omega, by omega⟩ ⟨by omega, by omega⟩) [.x 0] 0 ?_
         generalize ho : gOne T1 3 = o
         have ko : TapeOK o.2 := by rw [← ho]; simpa using j3
         rcases (Bool.eq_false_or_eq_true o.1).symm with ho1 | ho1
         ·simp -dsimp [ho1, wrap_i64 (n := a + 1) (by omega) (by omega)]
          have e : gTopS C.1 t.1 s.1 b a T1 l = (l, o.2) := by simp [gTopS, ha', hs1, ho, ho1]
          and_intros
          all_goals try first | omega | exact ⟨by kernel_rfl⟩ | (simp; omega)
          exact ⟨⟨(a + 1, o.2, l), by omega, by omega, ko, by simp; omega, by rw [j5, show (b - a).toNat = (b - (a + 1)).toNat + 1 by omega, gTopA, e]⟩, GS.to (by simp [ha', hs1]), by simp; omega⟩
         ·simp -dsimp [ho1]
          have x1 := gRange_lo o.2 1 C.1
          have x2 := gRange_hi o.2 (a := 1) (b := C.1) (by omega)
          refine ACall.of (range_c o.2 ko 1 C.1 ⟨by omega, by omega⟩ ⟨by omega, by omega⟩ ⟨by omega, by omega⟩ ⟨by omega, by omega⟩) [.x 0] 0 ?_
          simp -dsimp
          generalize hx : gRange o.2 1 C.1 = x at x1 x2 ⊢
          have kx : TapeOK x.2 := by rw [← hx]; simpa using ko
          have y1 := gRange_lo x.2 1 C.1
          have y2 := gRange_hi x.2 (a := 1) (b := C.1) (by omega)
          refine ACall.of (range_c x.2 kx 1 C.1 ⟨by omega, by omega⟩ ⟨by omega, by omega⟩ ⟨by omega, by omega⟩ ⟨by omega, by omega⟩) [.x 0] 0 ?_
          simp -dsimp
          generalize hy : gRange x.2 1 C.1 = y at y1 y2 ⊢
          have ky : TapeOK y.2 := by rw [← hy]; simpa using kx
          refine ACall.of (next_c y.2 ky 4 ⟨by omega, by omega⟩) [.x 0] 0 ?_
          simp -dsimp [wrap_i64 (n := a + 1) (by omega) (by omega)]
          have e : gTopS C.1 t.1 s.1 b a T1 l = (l ++ [⟨a, b, x.1, y.1, (gNext y.2 4).1⟩], (gNext y.2 4).2) := by simp [gTopS, ha', hs1, ho, ho1, hx, hy]
          and_intros
          all_goals try first | omega | exact ⟨by kernel_rfl⟩ | (simp; omega)
          exact ⟨⟨(a + 1, (gNext y.2 4).2, l ++ [⟨a, b, x.1, y.1, (gNext y.2 4).1⟩]), by omega, by omega, by simpa using ky, by simp; omega, by rw [j5, show (b - a).toNat = (b - (a + 1)).toNat + 1 by omega, gTopA, e]⟩, GS.to (by simp [lks, Lk.cs, ha', hs1, ho, ho1]), by simp; omega⟩
       ·have ha' : decide (a = t.1) = false := by simpa using ha
        simp -dsimp [hab', ha']
        refine ACall.of (one_c T1 j3 3 ⟨by omega, by omega⟩ ⟨by omega, by omega⟩) [.x 0] 0 ?_
        generalize ho : gOne T1 3 = o
        have ko : TapeOK o.2 := by rw [← ho]; simpa using j3
        rcases (Bool.eq_false_or_eq_true o.1).symm with ho1 | ho1
        ·simp -dsimp [ho1, wrap_i64 (n := a + 1) (by omega) (by omega)]
         have e : gTopS C.1 t.1 s.1 b a T1 l = (l, o.2) := by simp [gTopS, ha', ho, ho1]
         and_intros
         all_goals try first | omega | exact ⟨by kernel_rfl⟩ | (simp; omega)
         exact ⟨⟨(a + 1, o.2, l), by omega, by omega, ko, by simp; omega, by rw [j5, show (b - a).toNat = (b - (a + 1)).toNat + 1 by omega, gTopA, e]⟩, GS.to (by simp [ha']), by simp; omega⟩
        ·simp -dsimp [ho1]
         have x1 := gRange_lo o.2 1 C.1
         have x2 := gRange_hi o.2 (a := 1) (b := C.1) (by omega)
         refine ACall.of (range_c o.2 ko 1 C.1 ⟨by omega, by omega⟩ ⟨by omega, by omega⟩ ⟨by omega, by omega⟩ ⟨by omega, by omega⟩) [.x 0] 0 ?_
         simp -dsimp
         generalize hx : gRange o.2 1 C.1 = x at x1 x2 ⊢
         have kx : TapeOK x.2 := by rw [← hx]; simpa using ko
         have y1 := gRange_lo x.2 1 C.1
         have y2 := gRange_hi x.2 (a := 1) (b := C.1) (by omega)
         refine ACall.of (range_c x.2 kx 1 C.1 ⟨by omega, by omega⟩ ⟨by omega, by omega⟩ ⟨by omega, by omega⟩ ⟨by omega, by omega⟩) [.x 0] 0 ?_
         simp -dsimp
         generalize hy : gRange x.2 1 C.1 = y at y1 y2 ⊢
         have ky : TapeOK y.2 := by rw [← hy]; simpa using kx
         refine ACall.of (next_c y.2 ky 4 ⟨by omega, by omega⟩) [.x 0] 0 ?_
         simp -dsimp [wrap_i64 (n := a + 1) (by omega) (by omega)]
         have e : gTopS C.1 t.1 s.1 b a T1 l = (l ++ [⟨a, b, x.1, y.1, (gNext y.2 4).1⟩], (gNext y.2 4).2) := by simp [gTopS, ha', ho, ho1, hx, hy]
         and_intros
         all_goals try first | omega | exact ⟨by kernel_rfl⟩ | (simp; omega)
         exact ⟨⟨(a + 1, (gNext y.2 4).2, l ++ [⟨a, b, x.1, y.1, (gNext y.2 4).1⟩]), by omega, by omega, by simpa using ky, by simp; omega, by rw [j5, show (b - a).toNat = (b - (a + 1)).toNat + 1 by omega, gTopA, e]⟩, GS.to (by simp [lks, Lk.cs, ha', ho, ho1]), by simp; omega⟩
      ·have hab' : decide (a < b) = false := by simpa using hab
       obtain rfl : a = b := by omega
       simp -dsimp [hab', wrap_i64 (n := a + 1) (by omega) (by omega)]
       have e : gTopR C.1 a T0 l0 = (l, T1) := by unfold gTopR; simp only [ht, hs]; rw [j5]; simp [gTopA]
       exact ⟨⟨(a + 1, T1, l), by omega, by omega, j3, by simp; omega, by rw [i5, show (R.1 + 1 - a).toNat = (R.1 + 1 - (a + 1)).toNat + 1 by omega, gTopB, e]⟩, GS.to (by simp), by simp; omega⟩
    ·obtain rfl : b = R.1 + 1 := by omega
     simp -dsimp
     refine ACall.of (ordO_c l0 (by omega)) [] 0 ?_
     simp -dsimp
     have hX : gTopB C.1 (R.1 + 1 - 2).toNat 2 C.2 [] = (l0, T0) := by rw [i5]; simp [gTopB]
     have hG : gTop T most = (⟨gRts i, ordL l0 []⟩, T0) := by
      simp only [gTop, hR, hC, hX]
      simp [hk]
     have hll : (ordL l0 []).length = l0.length := by have := ordL_len l0 []; simpa using this
     have hlen : (ordL l0 []).length ≤ 576 := by omega
     have hi24 : i ≤ 24 := by omega
     rw [← hll]
     generalize ordL l0 [] = L at hG hll hlen ⊢
     have hn0 : (0 : Int) < n := by omega
     simp -dsimp [hn0]
     refine ACall.of (one_c T0 i3 n ⟨by omega, by omega⟩ ⟨by omega, by omega⟩) [.x 0] 0 ?_
     have ko : TapeOK (gOne T0 n).2 := by simpa using i3
     have hM : gTopM T most n = if (gOne T0 n).1 then gSpo ⟨gRts i, L⟩ (gNext (gOne T0 n).2 7).1 (gNext (gOne T0 n).2 7).2 else (⟨gRts i, L⟩, (gOne T0 n).2) := by
      simp only [gTopM, hG]
     generalize gOne T0 n = o at ko hM ⊢
     obtain ⟨ob, T5⟩ := o
     simp only at ko hM ⊢
     rcases (Bool.eq_false_or_eq_true ob).symm with hob | hob
     ·subst hob
      simp at hM
      rw [hM]
      simp -dsimp [hn0]
      refine Fin.box (.o 6) rfl ?_
      simp -dsimp
      refine Fin.of ?_
      simp [topT]
     ·subst hob
      simp only [if_true] at hM
      simp -dsimp [hn0]
      refine ACall.of (next_c T5 ko 7 ⟨by omega, by omega⟩) [.x 0] 0 ?_
      have kp0 := gNext_nonneg T5 7
      have kp1 := gNext_lt T5 (n := 7) (by omega)
      have kq : TapeOK (gNext T5 7).2 := by simpa using ko
      generalize gNext T5 7 = z at hM kp0 kp1 kq ⊢
      obtain ⟨k, T6⟩ := z
      simp only at hM kp0 kp1 kq ⊢
      unfold gSpo at hM
      by_cases k0 : k = 0
      ·subst k0
       simp only [if_true] at hM
       rw [hM]
       simp only [spR]
       simp -dsimp
       refine ACall.of (pick_c T6 kq [0, 1, 99, 100, -1] (by simp) (by simp)) [.x 0] 0 ?_
       simp -dsimp [ints]
       and_intros
       all_goals try first | rfl | omega | exact ⟨by kernel_rfl⟩
       refine Fin.box (.o 6) rfl ?_
       simp -dsimp
       refine Fin.of ?_
       simp [topT, rts, lks, Rt.cs]
      by_cases k1 : k = 1
      ·subst k1
       simp only [if_true, if_neg k0] at hM
       rw [hM]
       simp only [spL]
       simp -dsimp
       refine ACall.of (next_c T6 kq 4 ⟨by omega, by omega⟩) [.x 0] 0 ?_
       have kr : TapeOK (gNext T6 4).2 := by simpa using kq
       simp -dsimp
       refine ACall.of (next_c (gNext T6 4).2 kr 4 ⟨by omega, by omega⟩) [.x 0] 0 ?_
       simp -dsimp
       and_intros
       all_goals try first | rfl | omega | exact ⟨by kernel_rfl⟩
       refine Fin.box (.o 6) rfl ?_
       simp -dsimp
       refine Fin.of ?_
       simp [topT, rts, lks, Lk.cs]
      by_cases k2 : k = 2
      ·subst k2
       simp only [if_true, if_neg k0, if_neg k1] at hM
       rw [hM]
       by_cases hL0 : 0 < L.length
       ·have hLz : (0 : Int) < L.length := by omega
        simp only [spM, if_pos hL0]
        simp -dsimp [hLz, hL0]
        refine ACall.of (next_c T6 kq L.length ⟨by omega, by omega⟩) [.x 0] 0 ?_
        have w0 := gNext_nonneg T6 L.length
        have w1 := gNext_lt T6 (n := L.length) (by omega)
        have kr : TapeOK (gNext T6 L.length).2 := by simpa using kq
        generalize gNext T6 L.length = Z at w0 w1 kr ⊢
        obtain ⟨jz, T7⟩ := Z
        simp only at w0 w1 kr ⊢
        obtain ⟨j, rfl⟩ : ∃ j : Nat, jz = j := ⟨jz.toNat, by omega⟩
        have hj : j < L.length := by omega
        simp -dsimp [hLz, hL0]
        refine ACall.of (wild_c T7 kr) [.x 0] 0 ?_
        generalize gWild T7 = W
        have hg : L[j]? = some L[j] := List.getElem?_eq_getElem hj
        have hgD : L.getD j ⟨0, 0, 0, 0, 0⟩ = L[j] := by rw [List.getD_eq_getElem?_getD, hg]; rfl
        simp only [Int.toNat_natCast, hgD]
        generalize L[j] = x at hg ⊢
        have hgr : (dd (lks L))[j]? = some [TV.d (.int .i64 x.a), TV.d (.int .i64 x.b), TV.d (.int .i64 x.ca), TV.d (.int .i64 x.cb), TV.d (.int .i64 x.cap)] := by simp [dd, lks, hg, Lk.cs]
        simp -dsimp [hLz, hL0, hgr]
        and_intros
        all_goals try first | rfl | omega | exact ⟨by kernel_rfl⟩
        have hrow : (dd (lks L)).set j [TV.d (.int .i64 x.a), TV.d (.int .i64 x.b), TV.d (.int .i64 W.1), TV.d (.int .i64 x.cb), TV.d (.int .i64 x.cap)] = dd (lks (L.set j ⟨x.a, x.b, W.1, x.cb, x.cap⟩)) := by
         simp [dd, lks, List.map_set, Lk.cs]
        generalize hL2 : L.set j ⟨x.a, x.b, W.1, x.cb, x.cap⟩ = L2 at hrow ⊢
        have hl2 : L2.length = L.length := by rw [← hL2]; simp
        try rw [hrow]
        refine Fin.box (.o 6) rfl ?_
        simp -dsimp [hrow, hl2]
        try and_intros
        all_goals try first | rfl | omega | exact ⟨by kernel_rfl⟩
        all_goals try refine Fin.of ?_
        all_goals try simp [topT, hrow, hl2, hg, hL2]
       ·have hLz : ¬ (0 : Int) < L.length := by omega
        simp only [spM, if_neg hL0]
        simp -dsimp [hLz, hL0]
        refine Fin.box (.o 6) rfl ?_
        simp -dsimp
        refine Fin.of ?_
        simp [topT]
      by_cases k3 : k = 3
      ·subst k3
       simp only [if_true, if_neg k0, if_neg k1, if_neg k2] at hM
       rw [hM]
       by_cases hL0 : 0 < L.length
       ·have hLz : (0 : Int) < L.length := by omega
        simp only [spM, if_pos hL0]
        simp -dsimp [hLz, hL0]
        refine ACall.of (next_c T6 kq L.length ⟨by omega, by omega⟩) [.x 0] 0 ?_
        have w0 := gNext_nonneg T6 L.length
        have w1 := gNext_lt T6 (n := L.length) (by omega)
        have kr : TapeOK (gNext T6 L.length).2 := by simpa using kq
        generalize gNext T6 L.length = Z at w0 w1 kr ⊢
        obtain ⟨jz, T7⟩ := Z
        simp only at w0 w1 kr ⊢
        obtain ⟨j, rfl⟩ : ∃ j : Nat, jz = j := ⟨jz.toNat, by omega⟩
        have hj : j < L.length := by omega
        simp -dsimp [hLz, hL0]
        refine ACall.of (wild_c T7 kr) [.x 0] 0 ?_
        generalize gWild T7 = W
        have hg : L[j]? = some L[j] := List.getElem?_eq_getElem hj
        have hgD : L.getD j ⟨0, 0, 0, 0, 0⟩ = L[j] := by rw [List.getD_eq_getElem?_getD, hg]; rfl
        simp only [Int.toNat_natCast, hgD]
        generalize L[j] = x at hg ⊢
        have hgr : (dd (lks L))[j]? = some [TV.d (.int .i64 x.a), TV.d (.int .i64 x.b), TV.d (.int .i64 x.ca), TV.d (.int .i64 x.cb), TV.d (.int .i64 x.cap)] := by simp [dd, lks, hg, Lk.cs]
        simp -dsimp [hLz, hL0, hgr]
        and_intros
        all_goals try first | rfl | omega | exact ⟨by kernel_rfl⟩
        have hrow : (dd (lks L)).set j [TV.d (.int .i64 x.a), TV.d (.int .i64 x.b), TV.d (.int .i64 x.ca), TV.d (.int .i64 W.1), TV.d (.int .i64 x.cap)] = dd (lks (L.set j ⟨x.a, x.b, x.ca, W.1, x.cap⟩)) := by
         simp [dd, lks, List.map_set, Lk.cs]
        generalize hL2 : L.set j ⟨x.a, x.b, x.ca, W.1, x.cap⟩ = L2 at hrow ⊢
        have hl2 : L2.length = L.length := by rw [← hL2]; simp
        try rw [hrow]
        refine Fin.box (.o 6) rfl ?_
        simp -dsimp [hrow, hl2]
        try and_intros
        all_goals try first | rfl | omega | exact ⟨by kernel_rfl⟩
        all_goals try refine Fin.of ?_
        all_goals try simp [topT, hrow, hl2, hg, hL2]
       ·have hLz : ¬ (0 : Int) < L.length := by omega
        simp only [spM, if_neg hL0]
        simp -dsimp [hLz, hL0]
        refine Fin.box (.o 6) rfl ?_
        simp -dsimp
        refine Fin.of ?_
        simp [topT]
      by_cases k4 : k = 4
      ·subst k4
       simp only [if_true, if_neg k0, if_neg k1, if_neg k2, if_neg k3] at hM
       rw [hM]
       by_cases hL0 : 0 < L.length
       ·have hLz : (0 : Int) < L.length := by omega
        simp only [spM, if_pos hL0]
        simp -dsimp [hLz, hL0]
        refine ACall.of (next_c T6 kq L.length ⟨by omega, by omega⟩) [.x 0] 0 ?_
        have w0 := gNext_nonneg T6 L.length
        have w1 := gNext_lt T6 (n := L.length) (by omega)
        have kr : TapeOK (gNext T6 L.length).2 := by simpa using kq
        generalize gNext T6 L.length = Z at w0 w1 kr ⊢
        obtain ⟨jz, T7⟩ := Z
        simp only at w0 w1 kr ⊢
        obtain ⟨j, rfl⟩ : ∃ j : Nat, jz = j := ⟨jz.toNat, by omega⟩
        have hj : j < L.length := by omega
        simp -dsimp [hLz, hL0]
        refine ACall.of (wild_c T7 kr) [.x 0] 0 ?_
        generalize gWild T7 = W
        have hg : L[j]? = some L[j] := List.getElem?_eq_getElem hj
        have hgD : L.getD j ⟨0, 0, 0, 0, 0⟩ = L[j] := by rw [List.getD_eq_getElem?_getD, hg]; rfl
        simp only [Int.toNat_natCast, hgD]
        generalize L[j] = x at hg ⊢
        have hgr : (dd (lks L))[j]? = some [TV.d (.int .i64 x.a), TV.d (.int .i64 x.b), TV.d (.int .i64 x.ca), TV.d (.int .i64 x.cb), TV.d (.int .i64 x.cap)] := by simp [dd, lks, hg, Lk.cs]
        simp -dsimp [hLz, hL0, hgr]
        and_intros
        all_goals try first | rfl | omega | exact ⟨by kernel_rfl⟩
        have hrow : (dd (lks L)).set j [TV.d (.int .i64 x.a), TV.d (.int .i64 x.b), TV.d (.int .i64 x.ca), TV.d (.int .i64 x.cb), TV.d (.int .i64 W.1)] = dd (lks (L.set j ⟨x.a, x.b, x.ca, x.cb, W.1⟩)) := by
         simp [dd, lks, List.map_set, Lk.cs]
        generalize hL2 : L.set j ⟨x.a, x.b, x.ca, x.cb, W.1⟩ = L2 at hrow ⊢
        have hl2 : L2.length = L.length := by rw [← hL2]; simp
        try rw [hrow]
        refine Fin.box (.o 6) rfl ?_
        simp -dsimp [hrow, hl2]
        try and_intros
        all_goals try first | rfl | omega | exact ⟨by kernel_rfl⟩
        all_goals try refine Fin.of ?_
        all_goals try simp [topT, hrow, hl2, hg, hL2]
       ·have hLz : ¬ (0 : Int) < L.length := by omega
        simp only [spM, if_neg hL0]
        simp -dsimp [hLz, hL0]
        refine Fin.box (.o 6) rfl ?_
        simp -dsimp
        refine Fin.of ?_
        simp [topT]
      by_cases k5 : k = 5
      ·subst k5
       simp only [if_true, if_neg k0, if_neg k1, if_neg k2, if_neg k3, if_neg k4] at hM
       rw [hM]
       by_cases hL0 : 0 < L.length
       ·have hLz : (0 : Int) < L.length := by omega
        simp only [spD, if_pos hL0]
        simp -dsimp [hLz, hL0]
        refine ACall.of (next_c T6 kq L.length ⟨by omega, by omega⟩) [.x 0] 0 ?_
        have w0 := gNext_nonneg T6 L.length
        have w1 := gNext_lt T6 (n := L.length) (by omega)
        generalize gNext T6 L.length = Z at w0 w1 ⊢
        obtain ⟨jz, T7⟩ := Z
        simp only at w0 w1 ⊢
        obtain ⟨j, rfl⟩ : ∃ j : Nat, jz = j := ⟨jz.toNat, by omega⟩
        have hj : j < L.length := by omega
        have hg : L[j]? = some L[j] := List.getElem?_eq_getElem hj
        have hgD : L.getD j ⟨0, 0, 0, 0, 0⟩ = L[j] := by rw [List.getD_eq_getElem?_getD, hg]; rfl
        simp only [Int.toNat_natCast, hgD]
        generalize L[j] = x at hg ⊢
        have hgr : (dd (lks L))[j]? = some [TV.d (.int .i64 x.a), TV.d (.int .i64 x.b), TV.d (.int .i64 x.ca), TV.d (.int .i64 x.cb), TV.d (.int .i64 x.cap)] := by simp [dd, lks, hg, Lk.cs]
        simp -dsimp [hLz, hL0, hgr]
        and_intros
        all_goals try first | rfl | omega | exact ⟨by kernel_rfl⟩
        refine Fin.box (.o 6) rfl ?_
        simp -dsimp
        try and_intros
        all_goals try first | rfl | omega | exact ⟨by kernel_rfl⟩
        all_goals try refine Fin.of ?_
        all_goals try simp [topT, lks, Lk.cs, hg]
       ·have hLz : ¬ (0 : Int) < L.length := by omega
        simp only [spD, if_neg hL0]
        simp -dsimp [hLz, hL0]
        refine Fin.box (.o 6) rfl ?_
        simp -dsimp
        refine Fin.of ?_
        simp [topT]
      simp only [if_neg k0, if_neg k1, if_neg k2, if_neg k3, if_neg k4, if_neg k5] at hM
      rw [hM]
      simp -dsimp [k0, k1, k2, k3, k4, k5]
      have st25 : ∀ k : Nat, gRts i ++ mtR (k + 1) = gRts i ++ mtR k ++ [⟨(k : Int) + 50, false⟩] := fun k => by simp [mtR, List.range_succ]
      have ml : ∀ k : Nat, (mtR k).length = k := fun k => by simp [mtR]
      refine ALoop.of [] (fun k => k==0||k==1||k==2||k==6||k==7||k==8||k==9||k==10||k==11||k==12||k==13||k==14||k==15||k==21||k==36||k==47||k==60||k==87||k==89||k==91||k==101||k==112||k==124||k==129||k==141||k==146||k==158||k==163||k==175||k==180) (ι := { j : Nat // j ≤ 25 }) (fun j => [(Pl.s 0, It.v (.ptr (Pl.x 0) 0)), (Pl.s 1, It.v (.d (.int .i64 most))), (Pl.s 2, It.v (.d (.int .i64 n))), (Pl.x 0, tapeI T6),
       (Pl.o 6, It.box [TV.c (Value.slice none 0 0), TV.c (Value.slice none 0 0)]), (Pl.s 6, It.v (.ptr (Pl.o 6) 0)), (Pl.o 7, It.box [TV.oref 1000 (i + j.1), TV.oref 3 L.length]), (Pl.s 7, It.v (.ptr (Pl.o 7) 0)),
       (Pl.o 1000, .row 81 2 (dd (rts (gRts i ++ mtR j.1))) false), (Pl.o 3, .row 85 5 (dd (lks L)) false), (Pl.s 15, It.v (.d (.int .i64 ((j.1 : Int) + 50))))]) (fun j => 25 - j.1) ⟨0, by omega⟩ ?_ ?_
      ·exact GS.to (by simp [mtR])
      ·rintro ⟨j, hj⟩
       by_cases hj2 : j < 25
       ·have hjz : (j : Int) + 50 < 75 := by omega
        have hwr : IntKind.i64.wrap ((j : Int) + 50 + 1) = (j : Int) + 50 + 1 := wrap_i64 (by omega) (by omega)
        simp -dsimp [hjz, hwr, ml]
        and_intros
        all_goals try first | rfl | omega | exact ⟨by kernel_rfl⟩
        exact ⟨⟨j + 1, by omega⟩, GS.to (by simp [st25, rts, Rt.cs]; omega), by simp; omega⟩
       ·have hj3 : j = 25 := by omega
        subst hj3
        simp -dsimp
        refine Fin.box (.o 6) rfl ?_
        simp -dsimp [ml]
        try and_intros
        all_goals try first | rfl | omega | exact ⟨by kernel_rfl⟩
        refine Fin.of ?_
        simp [topT, ml]
structure Topo.Fit (g : Topo) : Prop where
 r1 : 1 ≤ g.rs.length
 r2 : g.rs.length ≤ 60
 l2 : g.ls.length ≤ 1001
theorem Topo.Fit.sm {g : Topo} (h : g.Fit) : g.Sm := ⟨by have := h.r2; omega, by have := h.l2; omega⟩
theorem gTop_fit (T : Tp) {most : Int} (hm : 1 ≤ most ∧ most ≤ 24) : 1 ≤ (gTop T most).1.rs.length ∧ (gTop T most).1.rs.length ≤ 24 ∧ (gTop T most).1.ls.length ≤ 1000 := by
 have h1 := gMix_small T hm
 have h2 := gRange_lo T 1 most
 have h3 : (gMix T most).1.rs.length = (gTop T most).1.rs.length := by simp [gMix, gMixL_len]
 have h4 : (gMix T most).1.ls = (gTop T most).1.ls := rfl
 refine ⟨?_, by omega, by rw [← h4]; exact h1.2⟩
 simp [gTop, gRts]; omega
theorem gMix_fit (T : Tp) {most : Int} (hm : 1 ≤ most ∧ most ≤ 24) : (gMix T most).1.Fit := by
 have h1 := gTop_fit T hm
 have h3 : (gMix T most).1.rs.length = (gTop T most).1.rs.length := by simp [gMix, gMixL_len]
 have h4 : (gMix T most).1.ls = (gTop T most).1.ls := rfl
 exact ⟨by omega, by omega, by rw [h4]; omega⟩
theorem gTopM_fit (T : Tp) {most : Int} (hm : 1 ≤ most ∧ most ≤ 24) (n : Int) : (gTopM T most n).1.Fit ∧ TapeOK (gTopM T most n).2 = TapeOK T := by
 have h1 := gTop_fit T hm
 have k1 : TapeOK (gTop T most).2 = TapeOK T := by simp
 unfold gTopM
 simp only
 split
 ·unfold gSpo spR spL spM spD
  repeat' split
  all_goals refine ⟨⟨?_, ?_, ?_⟩, ?_⟩
  all_goals first | (simp only [List.length_append, List.length_cons, List.length_nil, List.length_set, mtR, List.length_map, List.length_range]; omega) | (simp only [gOne_ok, gNext_ok, gPick_ok, gWild_ok, k1])
 ·exact ⟨⟨by dsimp only; omega, by dsimp only; omega, by dsimp only; omega⟩, by simp only [gOne_ok, k1]⟩
theorem hops_le (g : Topo) (f t : Int) : (hops g f t).length ≤ g.rs.length :=
 seen_le ((hops_ok g f t).1.imp fun h => by omega) fun x hx => ((hops_ok g f t).2 x hx).1
theorem gRouter_ok (T : Tp) (rs : List Rt) (n : Int) : TapeOK (gRouter T rs n).2 = TapeOK T := by
 unfold gRouter
 simp only
 repeat' split
 all_goals simp
end Go.Proofs

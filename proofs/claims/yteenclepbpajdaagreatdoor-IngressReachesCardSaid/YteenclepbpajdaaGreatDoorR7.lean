/-
  What functions of the program compute, stated as contracts over plain data; the conditions of each stand in its own statement.
-/
import Derived.Test.YteenclepbpajdaaGreatDoorM32
set_option linter.unusedSimpArgs false
set_option maxRecDepth 100000
set_option maxHeartbeats 4000000
namespace Go.Proofs
open Go Go.Tr
theorem around05_c (g : Topo) (hg : g.Ok) (r : Int) (hr : hasR g.rs r = true) : Contract Tryz.prog 92 [topT g, .d (.int .i64 r)] [] (.d (ints (around g r))) [] [] := by
 refine contract_of Tryz.func92 rfl (fun E0 => ?_)
 refine awp.sound (g := .mk) (ow := [12]) (kp := (fun k => k==0||k==1||k==2||k==4||k==5||k==6||k==7||k==8||k==9||k==10||k==16||k==28||k==37||k==48)) ?_
 rw [Tryz.ntmps92]
 simp -dsimp [topT]
 try refine ⟨?_, ⟨by kernel_rfl⟩⟩
 unfold around aroundS
 have hr24 := hg.nr
 as_aux_lemma =>
 refine ALoop.of [12] (fun k => k==0||k==1||k==2||k==4||k==5||k==6||k==7||k==8||k==9||k==10||k==16||k==28||k==37||k==48) (ι := { w : (Nat × List Int) × Bool // w.1.1 ≤ w.1.2.length ∧ w.1.2.Nodup ∧ (∀ x ∈ w.1.2, hasR g.rs x = true) ∧ arL g (g.rs.length + 1) 0 [r] = arL g (g.rs.length + 1 - w.1.1) w.1.1 w.1.2 })
  (fun z => [(Pl.o 2, It.box [TV.d (D.sl (rts g.rs)), TV.d (D.sl (lks g.ls))]), (Pl.s 2, It.v (TV.ptr (Pl.o 2) 0)), (Pl.s 4, It.v (TV.c (Value.slice none 0 0))), (Pl.s 5, It.v (TV.oref 12 z.1.1.2.length)), (Pl.o 12, It.row 3 1 (dd (nrow .i64 z.1.1.2)) z.1.2), (Pl.s 6, It.v (TV.d (D.int IntKind.i64 z.1.1.1)))]) (fun z => g.rs.length + 1 - z.1.1.1) ⟨((0, [r]), false), by simp, by simp, by simpa using hr, rfl⟩ ?_ ?_
 ·exact GS.to (by simp [dd, nrow])
 generalize arL g (g.rs.length + 1) 0 [r] = H
 rintro ⟨⟨⟨i, seen⟩, sh⟩, i1, i2, i3, i5⟩
 simp only at i1 i2 i3 i5
 have hsl := seen_le i2 i3
 by_cases hi : i < seen.length
 ·have hiz : (i : Int) < seen.length := by omega
  have hx : seen[i]? = some seen[i] := List.getElem?_eq_getElem hi
  generalize seen[i] = x at hx
  rw [show g.rs.length + 1 - i = (g.rs.length - i) + 1 by omega, arL, if_pos hi, getD_of hx] at i5
  have hsn := near_len g x
  have hsh : ∀ y ∈ near g x, hasR g.rs y = true := fun y hy => near_has hy
  simp -dsimp [hiz, row_get hx]
  and_intros
  all_goals try first | rfl | omega | exact ⟨by kernel_rfl⟩
  refine ACall.of (near05_c g hg.sm x) [] 0 ?_
  simp -dsimp [topT]
  and_intros
  all_goals try first | rfl | omega | exact ⟨by kernel_rfl⟩
  generalize near g x = n at hsn hsh i5
  refine ALoop.of [12] (fun k => k==0||k==1||k==2||k==4||k==5||k==6||k==7||k==8||k==9||k==10||k==16||k==28||k==37||k==48) (ι := { w : (Nat × List Int) × Bool // w.1.1 ≤ n.length ∧ i < w.1.2.length ∧ w.1.2.Nodup ∧ (∀ x ∈ w.1.2, hasR g.rs x = true) ∧ n.foldl arIn seen = (n.drop w.1.1).foldl arIn w.1.2 })
   (fun z => [(Pl.o 2, It.box [TV.d (D.sl (rts g.rs)), TV.d (D.sl (lks g.ls))]), (Pl.s 2, It.v (TV.ptr (Pl.o 2) 0)), (Pl.s 4, It.v (TV.c (Value.slice none 0 0))), (Pl.s 5, It.v (TV.oref 12 z.1.1.2.length)), (Pl.o 12, It.row 3 1 (dd (nrow .i64 z.1.1.2)) z.1.2), (Pl.s 6, It.v (TV.d (D.int IntKind.i64 i))), (Pl.s 7, It.v (TV.d (ints n))), (Pl.s 8, It.v (TV.d (D.int IntKind.i64 z.1.1.1)))]) (fun z => n.length - z.1.1.1) ⟨((0, seen), sh), by simp, hi, i2, i3, rfl⟩ ?_ ?_
  ·exact GS.to (by simp)
  generalize hR : n.foldl arIn seen = R at i5
  rintro ⟨⟨⟨k, seen⟩, sh⟩, k1, k2, k3, k4, k6⟩
  simp only at k1 k2 k3 k4 k6
  have hsl := seen_le k3 k4
  by_cases hk : k < n.length
  ·have hkz : (k : Int) < n.length := by omega
   have hy : n[k]? = some n[k] := List.getElem?_eq_getElem hk
   have hym := hsh _ (List.getElem_mem hk)
   have hdr : n.drop k = n[k] :: n.drop (k + 1) := List.drop_eq_getElem_cons hk
   generalize n[k] = y at hy hym hdr
   rw [hdr, List.foldl_cons, arIn] at k6
   simp -dsimp [hkz, hy, ints]
   and_intros
   all_goals try first | rfl | omega | exact ⟨by kernel_rfl⟩
   refine ACall.of (has04_c seen (by omega) y) [] 0 ?_
   rcases (Bool.eq_false_or_eq_true (hasI seen y)).symm with c2 | c2
   ·rw [if_neg (by simp [c2])] at k6
    simp -dsimp [c2, ints, hy, hkz, topT, wrap_i64 (n := (k : Int) + 1) (by omega) (by omega)]
    and_intros
    all_goals try first | rfl | omega | exact ⟨by kernel_rfl⟩
    have hnd : (seen ++ [y]).Nodup := by
     rw [List.nodup_append]
     refine ⟨k3, by simp, fun a ha b hb e => ?_⟩
     simp at hb; subst hb; subst e
     simp [hasI, ha] at c2
    exact ⟨⟨((k + 1, seen ++ [y]), true), by simp; omega, by simp; omega, hnd, fun x hx => by
     rcases List.mem_append.1 hx with hx | hx
     ·exact k4 x hx
     ·simp at hx; subst hx; exact hym, k6⟩, GS.to (by simp [nrow, ints]), by simp; omega⟩
   ·rw [if_pos c2] at k6
    simp -dsimp [c2, ints, hy, hkz, topT, wrap_i64 (n := (k : Int) + 1) (by omega) (by omega)]
    and_intros
    all_goals try first | rfl | omega | exact ⟨by kernel_rfl⟩
    exact ⟨⟨((k + 1, seen), true), by simp; omega, k2, k3, k4, k6⟩, GS.to (by simp [ints]), by simp; omega⟩
  ·have hkz : ¬ (k : Int) < n.length := by omega
   rw [List.drop_eq_nil_of_le (by omega), List.foldl_nil] at k6
   simp -dsimp [hkz, ints, wrap_i64 (n := (i : Int) + 1) (by omega) (by omega)]
   try refine ⟨?_, ⟨by kernel_rfl⟩⟩
   exact ⟨⟨((i + 1, seen), sh), by simp; omega, k3, k4, by rw [i5, k6, show g.rs.length + 1 - (i + 1) = g.rs.length - i by omega]⟩, GS.to (by simp [ints]), by simp; omega⟩
 ·have hiz : ¬ (i : Int) < seen.length := by omega
  have e : H = seen := by
   rw [i5]
   cases hm : g.rs.length + 1 - i with
   | zero => rfl
   | succ m => rw [arL, if_neg hi]
  subst e
  simp -dsimp [hiz]
  try refine ⟨?_, ⟨by kernel_rfl⟩⟩
  clear i5 i1 hi hiz
  refine ALoop.of [12] (fun k => k==0||k==1||k==2||k==4||k==5||k==6||k==7||k==8||k==9||k==10||k==16||k==28||k==37||k==48) (ι := { w : Nat × List Int // w.1 ≤ H.length ∧ w.2.length ≤ w.1 ∧ H.foldl insI [] = (H.drop w.1).foldl insI w.2 })
   (fun z => [(Pl.s 4, It.v (TV.c (Value.slice none 0 0))), (Pl.s 5, It.v (TV.oref 12 H.length)), (Pl.o 12, It.row 3 1 (dd (nrow .i64 H)) sh), (Pl.s 9, It.v (TV.d (ints z.1.2))), (Pl.s 10, It.v (TV.d (D.int IntKind.i64 z.1.1)))]) (fun z => H.length - z.1.1) ⟨(0, []), by simp, by simp, rfl⟩ ?_ ?_
  ·exact GS.viewS 9 (by simp [ints])
  generalize H.foldl insI [] = R
  rintro ⟨⟨i, l⟩, i1, i2, i3⟩
  simp only at i1 i2 i3
  by_cases hi : i < H.length
  ·have hiz : (i : Int) < H.length := by omega
   have hx : H[i]? = some H[i] := List.getElem?_eq_getElem hi
   have hdr : H.drop i = H[i] :: H.drop (i + 1) := List.drop_eq_getElem_cons hi
   generalize H[i] = x at hx hdr
   rw [hdr, List.foldl_cons] at i3
   have hl := insI_len l x
   have hins := insert04_c l (by omega) x
   simp only [ints] at hins
   simp -dsimp [hiz, row_get hx, ints]
   and_intros
   all_goals try first | rfl | omega | exact ⟨by kernel_rfl⟩
   refine ACall.of hins [] 0 ?_
   simp -dsimp [wrap_i64 (n := (i : Int) + 1) (by omega) (by omega)]
   and_intros
   all_goals try first | rfl | omega | exact ⟨by kernel_rfl⟩
   exact ⟨⟨(i + 1, insI l x), by simp; omega, by simp; omega, i3⟩, GS.to (by simp [ints]), by simp; omega⟩
  ·have hiz : ¬ (i : Int) < H.length := by omega
   rw [List.drop_eq_nil_of_le (by omega), List.foldl_nil] at i3
   simp -dsimp [hiz]
   try refine ⟨?_, ⟨by kernel_rfl⟩⟩
   refine Fin.view 4 ?_
   simp -dsimp
   refine Fin.of ?_
   simp [i3]
theorem connected05_c (g : Topo) (hg : g.Sm) (a b : Int) : Contract Tryz.prog 44 [topT g, .d (.int .i64 a), .d (.int .i64 b)] [] (.d (.bool (conn g a b))) [] [] := by
 have h1 := has05x_c g hg a
 have h2 := has05x_c g hg b
 simp only [topT] at h1 h2
 refine contract_of Tryz.func44 rfl (fun E0 => ?_)
 refine awp.sound (g := .mk) (ow := []) (kp := (fun k => k==0||k==1||k==2||k==3||k==6)) ?_
 rw [Tryz.ntmps44]
 simp -dsimp [topT]
 try refine ⟨?_, ⟨by kernel_rfl⟩⟩
 refine ACall.of h1 [] 0 ?_
 rcases (Bool.eq_false_or_eq_true (decide (chkT g = 0) && hasR g.rs a)).symm with a1 | a1
 ·have e : conn g a b = false := by simp only [conn, a1, Bool.false_and]
  simp -dsimp [a1]
  try refine ⟨?_, ⟨by kernel_rfl⟩⟩
  refine Fin.of ?_
  simp [e]
 rcases (Bool.eq_false_or_eq_true (decide (chkT g = 0) && hasR g.rs b)).symm with a2 | a2
 ·have e : conn g a b = false := by
   simp only [Bool.and_eq_true, decide_eq_true_eq] at a1
   simp only [a1.1, decide_true, Bool.true_and] at a2
   simp only [conn, a2, Bool.and_false, Bool.false_and]
  simp -dsimp [a1]
  try refine ⟨?_, ⟨by kernel_rfl⟩⟩
  refine ACall.of h2 [] 0 ?_
  simp -dsimp [a2]
  try refine ⟨?_, ⟨by kernel_rfl⟩⟩
  refine Fin.of ?_
  simp [e]
 have hc : chkT g = 0 := by simp at a1; exact a1.1
 have ha : hasR g.rs a = true := by simp at a1; exact a1.2
 have hb : hasR g.rs b = true := by simp at a2; exact a2.2
 have h3 := around05_c g (chkT_zero hc) a ha
 have hl : (around g a).length ≤ 1000000 := by
  have h4 := (chkT_zero hc).nr
  have h5 := (insFold (aroundS g a) [] (by simp)).1
  have h6 : ∀ x ∈ around g a, hasR g.rs x = true := fun x hx => by
   obtain ⟨k, v, hw⟩ := (mem_around (chkT_zero hc) ha).1 hx
   exact hw.has (chkT_zero hc) ha
  have := seen_le (g := g) (l := around g a) (h5.imp fun h => by omega) h6
  omega
 have h7 := has04_c (around g a) hl b
 have e : conn g a b = hasI (around g a) b := by simp [conn, hc, ha, hb]
 rw [e]
 simp only [topT, ints] at h3 h7
 simp -dsimp [a1]
 try refine ⟨?_, ⟨by kernel_rfl⟩⟩
 refine ACall.of h2 [] 0 ?_
 simp -dsimp [a2]
 try refine ⟨?_, ⟨by kernel_rfl⟩⟩
 refine ACall.of h3 [] 0 ?_
 simp -dsimp
 try refine ⟨?_, ⟨by kernel_rfl⟩⟩
 refine ACall.of h7 [] 0 ?_
 simp -dsimp
 try refine ⟨?_, ⟨by kernel_rfl⟩⟩
 refine Fin.of ?_
 simp
end Go.Proofs

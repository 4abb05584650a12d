/-
  What functions of the program compute, stated as contracts over plain data; the conditions of each stand in its own statement.
-/
import Derived.Test.YtjgeggdefiejbaaGreatDoorW24
set_option linter.unusedSimpArgs false
set_option maxRecDepth 100000
set_option maxHeartbeats 2000000
namespace Go.Proofs
open Go Go.Tr
structure Topo.Sm (g : Topo) : Prop where
 r : g.rs.length ≤ 1000000
 l : g.ls.length ≤ 1000000
theorem has05x_c (g : Topo) (hg : g.Sm) (r : Int) : Contract Tryz.prog 100 [topT g, .d (.int .i64 r)] [] (.d (.bool (decide (chkT g = 0) && hasR g.rs r))) [] [] := by
 refine contract_of Tryz.func100 rfl (fun E0 => ?_)
 refine awp.sound (g := .mk) (ow := []) (kp := (fun k => k==0||k==1||k==2||k==4)) ?_
 rw [Tryz.ntmps100]
 simp -dsimp [topT]
 refine ACall.of (check05_c g hg.r hg.l) [] 0 ?_
 by_cases h : chkT g = 0
 ·simp -dsimp [eq_true h, topT]
  refine ACall.of (has05_c g hg.r r) [] 0 ?_
  simp -dsimp [eq_true h, topT]
  and_intros
  all_goals try first | rfl | omega | exact ⟨by kernel_rfl⟩
  refine Fin.of ?_
  simp [h]
 ·simp -dsimp [eq_false h, topT]
  and_intros
  all_goals try first | rfl | omega | exact ⟨by kernel_rfl⟩
  refine Fin.of ?_
  simp [h]
def rtOf (l : List Rt) (r : Int) : Option Rt := l.find? fun x => decide (x.id = r)
def capR (l : List Rt) (r : Int) : Bool := ((rtOf l r).getD ⟨0, false⟩).cap
theorem capable05_c (g : Topo) (hg : g.Sm) (r : Int) : Contract Tryz.prog 119 [topT g, .d (.int .i64 r)] [] (.d (.bool (decide (chkT g = 0) && capR g.rs r))) [] [] := by
 have hr := hg.r
 refine contract_of Tryz.func119 rfl (fun E0 => ?_)
 refine awp.sound (g := .mk) (ow := []) (kp := (fun k => k==0||k==1||k==2||k==4||k==5||k==8||k==13||k==23)) ?_
 rw [Tryz.ntmps119]
 simp -dsimp [topT]
 refine ACall.of (check05_c g hg.r hg.l) [] 0 ?_
 by_cases h : chkT g = 0
 ·simp -dsimp [eq_true h, topT]
  refine ALoop.of [] (fun k => k==0||k==1||k==2||k==4||k==5||k==8||k==13||k==23) (ι := { i : Nat // i ≤ g.rs.length ∧ rtOf g.rs r = rtOf (g.rs.drop i) r }) (fun z => [(Pl.s 0, It.v (.agg [TV.d (.sl (rts g.rs)), TV.d (.sl (lks g.ls))])), (Pl.s 1, It.v (.d (.int .i64 r))), (Pl.o 2, It.box [TV.d (.sl (rts g.rs)), TV.d (.sl (lks g.ls))]), (Pl.s 2, It.v (.ptr (Pl.o 2) 0)), (Pl.s 4, It.v (.d (.bool false))), (Pl.s 5, It.v (.d (.int .i64 z.1)))]) (fun z => g.rs.length - z.1) ⟨0, by omega, rfl⟩ ?_ ?_
  ·exact GS.to (by simp)
  ·rintro ⟨i, i1, i2⟩
   by_cases hi : i < g.rs.length
   ·have hiz : (i : Int) < g.rs.length := by omega
    have hx : g.rs[i]? = some g.rs[i] := List.getElem?_eq_getElem hi
    generalize g.rs[i] = x at hx
    have hx' := rts_get hx
    by_cases a : x.id = r
    ·simp -dsimp [hiz, hx', Rt.cs, eq_true a]
     and_intros
     all_goals try first | rfl | omega | exact ⟨by kernel_rfl⟩
     refine Fin.of ?_
     have e : rtOf g.rs r = some x := find_hit hx i2 (by simp [a])
     simp [h, capR, e]
    ·simp -dsimp [hiz, hx', Rt.cs, eq_false a, wrap_i64 (n := (i : Int) + 1) (by omega) (by omega)]
     and_intros
     all_goals try first | rfl | omega | exact ⟨by kernel_rfl⟩
     exact ⟨⟨i + 1, by omega, find_step hx i2 (by simp [a])⟩, GS.to (by simp []), by simp; omega⟩
   ·have hiz : ¬ (i : Int) < g.rs.length := by omega
    simp -dsimp [hiz]
    refine Fin.of ?_
    have e : rtOf g.rs r = none := find_end i2 hi
    simp [h, capR, e]
 ·simp -dsimp [eq_false h, topT]
  refine Fin.of ?_
  simp [h]
def price : List Lk → Int → Int → Option Int
 | [], _, _ => none
 | x :: l, f, t => if x.a = f ∧ x.b = t then some x.ca else if x.b = f ∧ x.a = t then some x.cb else price l f t
def priceT (o : Option Int) : TV := .tup [.d (.int .i64 (o.getD 0)), .d (.bool o.isSome)]
theorem price05_c (g : Topo) (hg : g.Sm) (f t : Int) : Contract Tryz.prog 52 [topT g, .d (.int .i64 f), .d (.int .i64 t)] [] (priceT (price g.ls f t)) [] [] := by
 have hl := hg.l
 refine contract_of Tryz.func52 rfl (fun E0 => ?_)
 refine awp.sound (g := .mk) (ow := []) (kp := (fun k => k==0||k==1||k==2||k==3||k==6||k==7||k==8||k==9||k==14||k==31||k==43)) ?_
 rw [Tryz.ntmps52]
 simp -dsimp [topT]
 refine ALoop.of [] (fun k => k==0||k==1||k==2||k==3||k==6||k==7||k==8||k==9||k==14||k==31||k==43) (ι := { i : Nat // i ≤ g.ls.length ∧ price g.ls f t = price (g.ls.drop i) f t }) (fun z => [(Pl.s 0, It.v (.agg [TV.d (.sl (rts g.rs)), TV.d (.sl (lks g.ls))])), (Pl.s 1, It.v (.d (.int .i64 f))), (Pl.s 2, It.v (.d (.int .i64 t))), (Pl.o 3, It.box [TV.d (.sl (rts g.rs)), TV.d (.sl (lks g.ls))]), (Pl.s 3, It.v (.ptr (Pl.o 3) 0)), (Pl.s 6, It.v (.d (.int .i64 0))), (Pl.s 7, It.v (.d (.bool false))), (Pl.s 8, It.v (.d (.int .i64 z.1)))]) (fun z => g.ls.length - z.1) ⟨0, by omega, rfl⟩ ?_ ?_
 ·exact GS.to (by simp)
 ·rintro ⟨i, i1, i2⟩
  by_cases hi : i < g.ls.length
  ·have hiz : (i : Int) < g.ls.length := by omega
   have hx : g.ls[i]? = some g.ls[i] := List.getElem?_eq_getElem hi
   have hd : g.ls.drop i = g.ls[i] :: g.ls.drop (i + 1) := List.drop_eq_getElem_cons hi
   generalize g.ls[i] = x at hx hd
   have hx' := lks_get hx
   rw [hd, price] at i2
   by_cases a1 : x.a = f
   ·by_cases a2 : x.b = t
    ·simp -dsimp [hiz, hx', Lk.cs, eq_true a1, eq_true a2]
     and_intros
     all_goals try first | rfl | omega | exact ⟨by kernel_rfl⟩
     refine Fin.of ?_
     rw [if_pos ⟨a1, a2⟩] at i2
     simp [i2, priceT]
    ·by_cases a3 : x.b = f
     ·by_cases a4 : x.a = t
      ·exfalso; omega
      ·simp -dsimp [hiz, hx', Lk.cs, eq_true a1, eq_false a2, eq_true a3, eq_false a4, wrap_i64 (n := (i : Int) + 1) (by omega) (by omega)]
       and_intros
       all_goals try first | rfl | omega | exact ⟨by kernel_rfl⟩
       exact ⟨⟨i + 1, by omega, by rw [i2, if_neg (by omega), if_neg (by omega)]⟩, GS.to (by simp []), by simp; omega⟩
     ·simp -dsimp [hiz, hx', Lk.cs, eq_true a1, eq_false a2, eq_false a3, wrap_i64 (n := (i : Int) + 1) (by omega) (by omega)]
      and_intros
      all_goals try first | rfl | omega | exact ⟨by kernel_rfl⟩
      exact ⟨⟨i + 1, by omega, by rw [i2, if_neg (by omega), if_neg (by omega)]⟩, GS.to (by simp []), by simp; omega⟩
   ·by_cases a3 : x.b = f
    ·by_cases a4 : x.a = t
     ·simp -dsimp [hiz, hx', Lk.cs, eq_false a1, eq_true a3, eq_true a4]
      and_intros
      all_goals try first | rfl | omega | exact ⟨by kernel_rfl⟩
      refine Fin.of ?_
      rw [if_neg (by omega), if_pos ⟨a3, a4⟩] at i2
      simp [i2, priceT]
     ·simp -dsimp [hiz, hx', Lk.cs, eq_false a1, eq_true a3, eq_false a4, wrap_i64 (n := (i : Int) + 1) (by omega) (by omega)]
      and_intros
      all_goals try first | rfl | omega | exact ⟨by kernel_rfl⟩
      exact ⟨⟨i + 1, by omega, by rw [i2, if_neg (by omega), if_neg (by omega)]⟩, GS.to (by simp []), by simp; omega⟩
    ·simp -dsimp [hiz, hx', Lk.cs, eq_false a1, eq_false a3, wrap_i64 (n := (i : Int) + 1) (by omega) (by omega)]
     and_intros
     all_goals try first | rfl | omega | exact ⟨by kernel_rfl⟩
     exact ⟨⟨i + 1, by omega, by rw [i2, if_neg (by omega), if_neg (by omega)]⟩, GS.to (by simp []), by simp; omega⟩
  ·have hiz : ¬ (i : Int) < g.ls.length := by omega
   simp -dsimp [hiz]
   refine Fin.of ?_
   rw [List.drop_eq_nil_of_le (by omega), price] at i2
   simp [i2, priceT]
def near (g : Topo) (r : Int) : List Int := (g.rs.filter fun x => (price g.ls r x.id).isSome).map (·.id)
theorem near05_c (g : Topo) (hg : g.Sm) (r : Int) : Contract Tryz.prog 193 [topT g, .d (.int .i64 r)] [] (.d (ints (near g r))) [] [] := by
 have hl := hg.r
 refine contract_of Tryz.func193 rfl (fun E0 => ?_)
 refine awp.sound (g := .mk) (ow := []) (kp := (fun k => k==0||k==1||k==2||k==4||k==5||k==6||k==8||k==13||k==28)) ?_
 rw [Tryz.ntmps193]
 simp -dsimp [topT]
 refine ALoop.of [] (fun k => k==0||k==1||k==2||k==4||k==5||k==6||k==8||k==13||k==28) (ι := { i : Nat // i ≤ g.rs.length ∧ True }) (fun z => [(Pl.s 0, It.v (.agg [TV.d (.sl (rts g.rs)), TV.d (.sl (lks g.ls))])), (Pl.s 1, It.v (.d (.int .i64 r))), (Pl.o 2, It.box [TV.d (.sl (rts g.rs)), TV.d (.sl (lks g.ls))]), (Pl.s 2, It.v (.ptr (Pl.o 2) 0)), (Pl.s 4, It.v (.c (Value.slice none 0 0))), (Pl.s 5, It.v (.oref 5 (near ⟨g.rs.take z.1, g.ls⟩ r).length)), (Pl.o 5, It.row 3 1 (dd (nrow .i64 (near ⟨g.rs.take z.1, g.ls⟩ r))) false), (Pl.s 6, It.v (.d (.int .i64 z.1)))]) (fun z => g.rs.length - z.1) ⟨0, by omega, trivial⟩ ?_ ?_
 ·exact GS.own' (k := 5) 3 1 (by simp) (by simp) (by simp [ints, nrow, near])
 ·rintro ⟨i, i1, i2⟩
  by_cases hi : i < g.rs.length
  ·have hiz : (i : Int) < g.rs.length := by omega
   have hx : g.rs[i]? = some g.rs[i] := List.getElem?_eq_getElem hi
   have ht : g.rs.take (i + 1) = g.rs.take i ++ [g.rs[i]] := by rw [List.take_add_one, List.getElem?_eq_getElem hi]; rfl
   generalize g.rs[i] = x at hx ht
   have hx' := rts_get hx
   simp -dsimp [hiz, hx', Rt.cs, topT]
   refine ACall.of (price05_c g hg r x.id) [] 0 ?_
   have hn : (near ⟨g.rs.take i, g.ls⟩ r).length ≤ 1000000 := by
    simp only [near, List.length_map]
    exact Nat.le_trans (List.length_filter_le _ _) (by simp; omega)
   have dl : dLen 1 ((near ⟨g.rs.take i, g.ls⟩ r).map fun x => [D.int .i64 x]) := dLen_map 1 _ _ fun _ => rfl
   rcases (Bool.eq_false_or_eq_true (price g.ls r x.id).isSome).symm with h | h
   ·simp -dsimp [hiz, hx', Rt.cs, topT, priceT, h, wrap_i64 (n := (i : Int) + 1) (by omega) (by omega)]
    and_intros
    all_goals try first | rfl | omega | exact ⟨by kernel_rfl⟩
    exact ⟨⟨i + 1, by omega, trivial⟩, GS.to (by simp [near, ht, h]), by simp; omega⟩
   ·simp -dsimp [hiz, hx', Rt.cs, topT, priceT, h, ints, wrap_i64 (n := (i : Int) + 1) (by omega) (by omega)]
    and_intros
    all_goals try first | rfl | omega | exact ⟨by kernel_rfl⟩
    exact ⟨⟨i + 1, by omega, trivial⟩, GS.to (by simp [near, ht, h, nrow]), by simp; omega⟩
  ·have hiz : ¬ (i : Int) < g.rs.length := by omega
   simp -dsimp [hiz]
   refine Fin.view 4 ?_
   simp -dsimp
   refine Fin.of ?_
   simp [List.take_of_length_le (show g.rs.length ≤ i by omega), ints, nrow]
def placeR : List Rt → Int → Option Nat
 | [], _ => none
 | x :: l, r => if x.id = r then some 0 else (placeR l r).map (· + 1)
theorem placeR_lt : ∀ {l : List Rt} {r : Int} {i : Nat}, placeR l r = some i → i < l.length
 | [], _, _, h => by simp [placeR] at h
 | x :: l, r, i, h => by
   rw [placeR] at h
   split at h
   ·simp at h; subst h; simp
   ·cases hp : placeR l r with
    | none => simp [hp] at h
    | some j => simp [hp] at h; subst h; have := placeR_lt hp; simp; omega
def plc (g : Topo) (r : Int) : Nat := (placeR g.rs r).getD 0
theorem plc_lt {g : Topo} (r : Int) (h : 0 < g.rs.length) : plc g r < g.rs.length := by
 unfold plc
 cases hp : placeR g.rs r with
 | none => simpa using h
 | some i => simpa using placeR_lt hp
theorem placeR_step {l : List Rt} {r : Int} {i : Nat} {x : Rt} (hx : l[i]? = some x) (h : placeR l r = (placeR (l.drop i) r).map (· + i)) (hq : ¬ x.id = r) : placeR l r = (placeR (l.drop (i + 1)) r).map (· + (i + 1)) := by
 obtain ⟨hi, rfl⟩ := List.getElem?_eq_some_iff.1 hx
 rw [h, List.drop_eq_getElem_cons hi, placeR, if_neg hq, Option.map_map]
 congr 1; funext k; simp only [Function.comp_apply]; omega
theorem placeR_hit {l : List Rt} {r : Int} {i : Nat} {x : Rt} (hx : l[i]? = some x) (h : placeR l r = (placeR (l.drop i) r).map (· + i)) (hq : x.id = r) : placeR l r = some i := by
 obtain ⟨hi, rfl⟩ := List.getElem?_eq_some_iff.1 hx
 rw [h, List.drop_eq_getElem_cons hi, placeR, if_pos hq]; simp
theorem placeR_end {l : List Rt} {r : Int} {i : Nat} (h : placeR l r = (placeR (l.drop i) r).map (· + i)) (hi : ¬ i < l.length) : placeR l r = none := by
 rw [h, List.drop_eq_nil_of_le (by omega)]; rfl
theorem place06_c (g : Topo) (hg : g.Sm) (r : Int) : Contract Tryz.prog 141 [topT g, .d (.int .i64 r)] [] (.d (.int .i64 (plc g r))) [] [] := by
 have hr := hg.r
 refine contract_of Tryz.func141 rfl (fun E0 => ?_)
 refine awp.sound (g := .mk) (ow := []) (kp := (fun k => k==0||k==1||k==2||k==4||k==5||k==10||k==20)) ?_
 rw [Tryz.ntmps141]
 simp -dsimp [topT]
 refine ALoop.of [] (fun k => k==0||k==1||k==2||k==4||k==5||k==10||k==20) (ι := { i : Nat // i ≤ g.rs.length ∧ placeR g.rs r = (placeR (g.rs.drop i) r).map (· + i) }) (fun z => [(Pl.s 0, It.v (.agg [TV.d (.sl (rts g.rs)), TV.d (.sl (lks g.ls))])), (Pl.s 1, It.v (.d (.int .i64 r))), (Pl.o 2, It.box [TV.d (.sl (rts g.rs)), TV.d (.sl (lks g.ls))]), (Pl.s 2, It.v (.ptr (Pl.o 2) 0)), (Pl.s 4, It.v (.d (.int .i64 0))), (Pl.s 5, It.v (.d (.int .i64 z.1)))]) (fun z => g.rs.length - z.1) ⟨0, by omega, by simp⟩ ?_ ?_
 ·exact GS.to (by simp)
 ·rintro ⟨i, i1, i2⟩
  by_cases hi : i < g.rs.length
  ·have hiz : (i : Int) < g.rs.length := by omega
   have hx : g.rs[i]? = some g.rs[i] := List.getElem?_eq_getElem hi
   generalize g.rs[i] = x at hx
   have hx' := rts_get hx
   by_cases h : x.id = r
   ·simp -dsimp [hiz, hx', Rt.cs, eq_true h]
    and_intros
    all_goals try first | rfl | omega | exact ⟨by kernel_rfl⟩
    refine Fin.of ?_
    simp [plc, placeR_hit hx i2 h]
   ·simp -dsimp [hiz, hx', Rt.cs, eq_false h, wrap_i64 (n := (i : Int) + 1) (by omega) (by omega)]
    and_intros
    all_goals try first | rfl | omega | exact ⟨by kernel_rfl⟩
    exact ⟨⟨i + 1, by omega, placeR_step hx i2 h⟩, GS.to (by simp []), by simp; omega⟩
  ·have hiz : ¬ (i : Int) < g.rs.length := by omega
   simp -dsimp [hiz]
   refine Fin.of ?_
   simp [plc, placeR_end i2 hi]
def atR (g : Topo) (d : List Int) (r : Int) : Int := match placeR g.rs r with | some i => d.getD i 0 | none => 1073741824
theorem at06_c (g : Topo) (hg : g.Sm) (d : List Int) (hd : g.rs.length ≤ d.length) (r : Int) : Contract Tryz.prog 101 [topT g, .d (ints d), .d (.int .i64 r)] [] (.d (.int .i64 (atR g d r))) [] [] := by
 have hr := hg.r
 refine contract_of Tryz.func101 rfl (fun E0 => ?_)
 refine awp.sound (g := .mk) (ow := []) (kp := (fun k => k==0||k==1||k==2||k==3||k==6||k==7||k==12||k==22)) ?_
 rw [Tryz.ntmps101]
 simp -dsimp [topT]
 refine ALoop.of [] (fun k => k==0||k==1||k==2||k==3||k==6||k==7||k==12||k==22) (ι := { i : Nat // i ≤ g.rs.length ∧ placeR g.rs r = (placeR (g.rs.drop i) r).map (· + i) }) (fun z => [(Pl.s 0, It.v (.agg [TV.d (.sl (rts g.rs)), TV.d (.sl (lks g.ls))])), (Pl.s 1, It.v (.d (ints d))), (Pl.s 2, It.v (.d (.int .i64 r))), (Pl.o 3, It.box [TV.d (.sl (rts g.rs)), TV.d (.sl (lks g.ls))]), (Pl.s 3, It.v (.ptr (Pl.o 3) 0)), (Pl.s 6, It.v (.d (.int .i64 0))), (Pl.s 7, It.v (.d (.int .i64 z.1)))]) (fun z => g.rs.length - z.1) ⟨0, by omega, by simp⟩ ?_ ?_
 ·exact GS.to (by simp)
 ·rintro ⟨i, i1, i2⟩
  by_cases hi : i < g.rs.length
  ·have hiz : (i : Int) < g.rs.length := by omega
   have hx : g.rs[i]? = some g.rs[i] := List.getElem?_eq_getElem hi
   generalize g.rs[i] = x at hx
   have hx' := rts_get hx
   by_cases h : x.id = r
   ·have hq : d[i]? = some d[i] := List.getElem?_eq_getElem (by omega)
    generalize d[i] = y at hq
    simp -dsimp [hiz, hx', Rt.cs, eq_true h, ints, hq]
    and_intros
    all_goals try first | rfl | omega | exact ⟨by kernel_rfl⟩
    refine Fin.of ?_
    simp [atR, placeR_hit hx i2 h, hq]
   ·simp -dsimp [hiz, hx', Rt.cs, eq_false h, wrap_i64 (n := (i : Int) + 1) (by omega) (by omega)]
    and_intros
    all_goals try first | rfl | omega | exact ⟨by kernel_rfl⟩
    exact ⟨⟨i + 1, by omega, placeR_step hx i2 h⟩, GS.to (by simp []), by simp; omega⟩
  ·have hiz : ¬ (i : Int) < g.rs.length := by omega
   simp -dsimp [hiz]
   refine Fin.of ?_
   simp [atR, placeR_end i2 hi]
theorem firstE_zero : ∀ {l : List (Bool × Int)}, (∀ x ∈ l, x.2 ≠ 0) → firstE l = 0 → ∀ x ∈ l, x.1 = false
 | [], _, _ => by simp
 | (c, e) :: l, h, h0 => by
   cases c with
   | true => exact absurd h0 (h (true, e) (by simp))
   | false =>
     intro x hx
     rcases List.mem_cons.1 hx with rfl | hx
     ·rfl
     ·exact firstE_zero (l := l) (fun y hy => h y (by simp [hy])) h0 x hx
structure Topo.Ok (g : Topo) : Prop where
 nr : g.rs.length ≤ 24
 nl : g.ls.length ≤ 60
 ids : (g.rs.any fun x => !inB x.id 1 99) = false
 ord : adjB (fun x y => decide (y.id ≤ x.id)) g.rs = false
 cost : g.ls.any Lk.bad = false
 ends : (g.ls.any fun x => !hasR g.rs x.a || !hasR g.rs x.b) = false
 ab : (g.ls.any fun x => decide (x.b ≤ x.a)) = false
 lord : adjB (fun x y => decide (y.a < x.a) || decide (x.a = y.a) && decide (y.b ≤ x.b)) g.ls = false
theorem chkT_zero {g : Topo} (h : chkT g = 0) : g.Ok := by
 have := firstE_zero (l := _) (by simp) h
 simp only [List.mem_cons, List.not_mem_nil, or_false, forall_eq_or_imp, forall_eq] at this
 obtain ⟨h1, h2, h3, h4, h5, h6, h7, h8⟩ := this
 exact ⟨by simpa using h1, by simpa using h2, h3, h4, h5, h6, h7, h8⟩
theorem Topo.Ok.sm {g : Topo} (h : g.Ok) : g.Sm := ⟨by have := h.nr; omega, by have := h.nl; omega⟩
theorem Topo.Ok.c {g : Topo} (h : g.Ok) {x : Lk} (hx : x ∈ g.ls) : (1 ≤ x.ca ∧ x.ca ≤ 1000) ∧ 1 ≤ x.cb ∧ x.cb ≤ 1000 := by
 have := List.any_eq_false.1 h.cost x hx
 simp [Lk.bad, inB] at this
 omega
def far : Int := 1073741824
def relax (g : Topo) (d : List Int) (l : Lk) : List Int :=
 let a := plc g l.a
 let b := plc g l.b
 let d1 := if d.getD b 0 < far then d.set a (min (d.getD a 0) (l.ca + d.getD b 0)) else d
 if d1.getD a 0 < far then d1.set b (min (d1.getD b 0) (l.cb + d1.getD a 0)) else d1
theorem relax_len (g : Topo) (d : List Int) (l : Lk) : (relax g d l).length = d.length := by
 unfold relax
 simp only
 split <;> split <;> simp
def Bd (d : List Int) : Prop := ∀ v ∈ d, 0 ≤ v ∧ v ≤ far
theorem Bd.get {d : List Int} (h : Bd d) {i : Nat} {v : Int} (hv : d[i]? = some v) : 0 ≤ v ∧ v ≤ far := h v (List.mem_of_getElem? hv)
theorem Bd.set {d : List Int} (h : Bd d) (i : Nat) {v : Int} (hv : 0 ≤ v ∧ v ≤ far) : Bd (d.set i v) := fun x hx => by
 rcases List.mem_or_eq_of_mem_set hx with hx | rfl
 ·exact h x hx
 ·exact hv
theorem Bd.getD {d : List Int} (h : Bd d) (i : Nat) : 0 ≤ d.getD i 0 ∧ d.getD i 0 ≤ far := by
 rw [List.getD_eq_getElem?_getD]
 cases hv : d[i]? with
 | none => simp [far]
 | some v => exact h.get hv
theorem Bd.relax {g : Topo} {d : List Int} (h : Bd d) {l : Lk} (h1 : 1 ≤ l.ca) (h2 : 1 ≤ l.cb) : Bd (relax g d l) := by
 unfold Proofs.relax
 simp only
 have e : Bd (if d.getD (plc g l.b) 0 < far then d.set (plc g l.a) (min (d.getD (plc g l.a) 0) (l.ca + d.getD (plc g l.b) 0)) else d) := by
  split
  ·have := h.getD (plc g l.a); have := h.getD (plc g l.b)
   exact h.set _ (by omega)
  ·exact h
 generalize (if d.getD (plc g l.b) 0 < far then d.set (plc g l.a) (min (d.getD (plc g l.a) 0) (l.ca + d.getD (plc g l.b) 0)) else d) = d1 at e ⊢
 split
 ·have := e.getD (plc g l.a); have := e.getD (plc g l.b)
  exact e.set _ (by omega)
 ·exact e
def roundD (g : Topo) (d : List Int) : List Int := g.ls.foldl (relax g) d
def roundsD (g : Topo) : Nat → List Int → List Int
 | 0, d => d
 | n + 1, d => roundsD g n (roundD g d)
def dist0 (g : Topo) (to : Int) : List Int := g.rs.map fun x => if x.id = to then 0 else far
def dist (g : Topo) (to : Int) : List Int := roundsD g g.rs.length (dist0 g to)
theorem minI_eq (k : IntKind) (a b : Int) : minI k a b = .d (.int k (min a b)) := by
 unfold minI
 by_cases h : b < a
 ·rw [if_pos h, Int.min_eq_right (by omega)]
 ·rw [if_neg h, Int.min_eq_left (by omega)]
@[simp] theorem far_def : far = 1073741824 := rfl
theorem row_get {d : List Int} {i : Nat} {v : Int} (h : d[i]? = some v) : (dd (nrow .i64 d))[i]? = some [TV.d (.int .i64 v)] := by simp [dd, nrow, h]
theorem row_set (d : List Int) (i : Nat) (v : Int) : (dd (nrow .i64 d)).set i [TV.d (.int .i64 v)] = dd (nrow .i64 (d.set i v)) := by simp [dd, nrow, List.map_set]
theorem getD_of {d : List Int} {i : Nat} {v : Int} (h : d[i]? = some v) : d.getD i 0 = v := by rw [List.getD_eq_getElem?_getD, h]; rfl
theorem to06_c (g : Topo) (hg : g.Ok) (to : Int) : Contract Tryz.prog 102 [topT g, .d (.int .i64 to)] [] (.d (ints (dist g to))) [] [] := by
 have hr := hg.sm.r
 have hl := hg.sm.l
 have hsm := hg.sm
 refine contract_of Tryz.func102 rfl (fun E0 => ?_)
 refine awp.sound (g := .mk) (ow := []) (kp := (fun k => k==0||k==1||k==2||k==4||k==5||k==6||k==7||k==8||k==9||k==10||k==11||k==19||k==32||k==39||k==46||k==66||k==86)) ?_
 rw [Tryz.ntmps102]
 simp -dsimp [topT]
 refine ⟨by omega, by omega, ?_⟩
 rw [show List.replicate g.rs.length [TV.d (.int .i64 0)] = dd (nrow .i64 (List.replicate g.rs.length 0)) by simp [dd, nrow]]
 refine ALoop.of [] (fun k => k==0||k==1||k==2||k==4||k==5||k==6||k==7||k==8||k==9||k==10||k==11||k==19||k==32||k==39||k==46||k==66||k==86) (ι := { z : Nat × List Int // z.1 ≤ g.rs.length ∧ z.2.length = g.rs.length ∧ ∀ k, k < z.1 → z.2[k]? = (dist0 g to)[k]? }) (fun z => [(Pl.s 0, It.v (.agg [TV.d (.sl (rts g.rs)), TV.d (.sl (lks g.ls))])), (Pl.s 1, It.v (.d (.int .i64 to))), (Pl.o 2, It.box [TV.d (.sl (rts g.rs)), TV.d (.sl (lks g.ls))]), (Pl.s 2, It.v (.ptr (Pl.o 2) 0)), (Pl.s 4, It.v (.c (Value.slice none 0 0))), (Pl.s 5, It.v (.oref 15 g.rs.length)), (Pl.o 15, It.row 3 1 (dd (nrow .i64 z.1.2)) false), (Pl.s 6, It.v (.d (.int .i64 z.1.1)))]) (fun z => g.rs.length - z.1.1) ⟨(0, List.replicate g.rs.length 0), by simp, by simp, by simp⟩ ?_ ?_
 ·exact GS.to (by simp)
 ·rintro ⟨⟨i, d⟩, i1, i2, i3⟩
  simp only at i1 i2 i3
  by_cases hi : i < g.rs.length
  ·have hiz : (i : Int) < g.rs.length := by omega
   have hx : g.rs[i]? = some g.rs[i] := List.getElem?_eq_getElem hi
   generalize g.rs[i] = x at hx
   have hx' := rts_get hx
   obtain ⟨v, hv⟩ : ∃ v, d[i]? = some v := ⟨d[i], List.getElem?_eq_getElem (by omega)⟩
   have hw := row_get hv
   have hu : (dd (nrow .i64 (d.set i 1073741824)))[i]? = some [TV.d (.int .i64 1073741824)] := row_get (by rw [List.getElem?_set]; simp; omega)
   by_cases h : x.id = to
   ·simp -dsimp [hiz, i2, hw, row_set, hu, hx', Rt.cs, eq_true h, wrap_i64 (n := (i : Int) + 1) (by omega) (by omega)]
    and_intros
    all_goals try first | rfl | omega | exact ⟨by kernel_rfl⟩
    refine ⟨⟨(i + 1, (d.set i far).set i 0), by omega, by simp [i2], fun k hk => ?_⟩, GS.to (by simp [row_set, far]), by simp; omega⟩
    by_cases e : k = i
    ·subst e; rw [List.getElem?_set_self (by simp; omega)]; simp [dist0, hx, h]
    ·rw [List.getElem?_set_ne (by omega), List.getElem?_set_ne (by omega)]; exact i3 k (by omega)
   ·simp -dsimp [hiz, i2, hw, row_set, hu, hx', Rt.cs, eq_false h, wrap_i64 (n := (i : Int) + 1) (by omega) (by omega)]
    and_intros
    all_goals try first | rfl | omega | exact ⟨by kernel_rfl⟩
    refine ⟨⟨(i + 1, d.set i far), by omega, by simp [i2], fun k hk => ?_⟩, GS.to (by simp [row_set, far]), by simp; omega⟩
    by_cases e : k = i
    ·subst e; rw [List.getElem?_set_self (by omega)]; simp [dist0, hx, h]
    ·rw [List.getElem?_set_ne (by omega)]; exact i3 k (by omega)
  have hiz : ¬ (i : Int) < g.rs.length := by omega
  have hd : d = dist0 g to := List.ext_getElem? fun k => by
   by_cases hk : k < i
   ·exact i3 k hk
   ·rw [List.getElem?_eq_none (by omega), List.getElem?_eq_none (by simp [dist0]; omega)]
  simp -dsimp [hiz]
  refine ⟨by omega, ?_⟩
  as_aux_lemma =>
  have hd0 : d.length = g.rs.length := i2
  have hb0 : Bd d := by
   rw [hd]; intro v hv
   obtain ⟨x, _, rfl⟩ := List.mem_map.1 hv
   split <;> simp
  refine ALoop.of [] (fun k => k==0||k==1||k==2||k==4||k==5||k==6||k==7||k==8||k==9||k==10||k==11||k==19||k==32||k==39||k==46||k==66||k==86) (ι := { z : Nat × List Int // z.1 ≤ g.rs.length ∧ z.2.length = g.rs.length ∧ Bd z.2 ∧ dist g to = roundsD g (g.rs.length - z.1) z.2 }) (fun z => [(Pl.s 0, It.v (.agg [TV.d (.sl (rts g.rs)), TV.d (.sl (lks g.ls))])), (Pl.s 1, It.v (.d (.int .i64 to))), (Pl.o 2, It.box [TV.d (.sl (rts g.rs)), TV.d (.sl (lks g.ls))]), (Pl.s 2, It.v (.ptr (Pl.o 2) 0)), (Pl.s 4, It.v (.c (Value.slice none 0 0))), (Pl.s 5, It.v (.oref 15 g.rs.length)), (Pl.o 15, It.row 3 1 (dd (nrow .i64 z.1.2)) false), (Pl.s 7, It.v (.d (.int .i64 z.1.1)))]) (fun z => g.rs.length - z.1.1) ⟨(0, d), by simp, hd0, hb0, by simp [dist, hd]⟩ ?_ ?_
  ·exact GS.to (by simp)
  clear i1 i3 hi hiz hd hd0 hb0 i2
  rintro ⟨⟨k, d⟩, k1, k2, k3, k4⟩
  simp only at k1 k2 k3 k4
  by_cases hk : k < g.rs.length
  ·have hkz : (k : Int) < g.rs.length := by omega
   simp -dsimp [hkz, k2]
   refine ALoop.of [] (fun k => k==0||k==1||k==2||k==4||k==5||k==6||k==7||k==8||k==9||k==10||k==11||k==19||k==32||k==39||k==46||k==66||k==86) (ι := { z : Nat × List Int // z.1 ≤ g.ls.length ∧ z.2.length = g.rs.length ∧ Bd z.2 ∧ roundD g d = (g.ls.drop z.1).foldl (relax g) z.2 }) (fun z => [(Pl.s 0, It.v (.agg [TV.d (.sl (rts g.rs)), TV.d (.sl (lks g.ls))])), (Pl.s 1, It.v (.d (.int .i64 to))), (Pl.o 2, It.box [TV.d (.sl (rts g.rs)), TV.d (.sl (lks g.ls))]), (Pl.s 2, It.v (.ptr (Pl.o 2) 0)), (Pl.s 4, It.v (.c (Value.slice none 0 0))), (Pl.s 5, It.v (.oref 15 g.rs.length)), (Pl.o 15, It.row 3 1 (dd (nrow .i64 z.1.2)) false), (Pl.s 7, It.v (.d (.int .i64 k))), (Pl.s 8, It.v (.d (.int .i64 z.1.1)))]) (fun z => g.ls.length - z.1.1) ⟨(0, d), by simp, k2, k3, rfl⟩ ?_ ?_
   ·exact GS.to (by simp)
   rintro ⟨⟨i, e⟩, j1, j2, j3, j4⟩
   simp only at j1 j2 j3 j4
   by_cases hi : i < g.ls.length
   ·have hiz : (i : Int) < g.ls.length := by omega
    have hx : g.ls[i]? = some g.ls[i] := List.getElem?_eq_getElem hi
    have hm : g.ls[i] ∈ g.ls := List.getElem_mem hi
    have hdr : g.ls.drop i = g.ls[i] :: g.ls.drop (i + 1) := List.drop_eq_getElem_cons hi
    generalize g.ls[i] = x at hx hm hdr
    have hx' := lks_get hx
    have hc := hg.c hm
    have pa := plc_lt (g := g) x.a (by omega)
    have pb := plc_lt (g := g) x.b (by omega)
    simp -dsimp [hiz, hx', Lk.cs]
    refine ACall.of (place06_c g hsm x.a) [] 0 ?_
    simp -dsimp [topT]
    refine ACall.of (place06_c g hsm x.b) [] 0 ?_
    obtain ⟨va, hva⟩ : ∃ v, e[plc g x.a]? = some v := ⟨e[plc g x.a], List.getElem?_eq_getElem (by omega)⟩
    obtain ⟨vb, hvb⟩ : ∃ v, e[plc g x.b]? = some v := ⟨e[plc g x.b], List.getElem?_eq_getElem (by omega)⟩
    have wa := row_get hva
    have wb := row_get hvb
    have ba := j3.get hva
    have bb := j3.get hvb
    rw [far_def] at ba bb
    have hrx : relax g e x = (let d1 := if vb < 1073741824 then e.set (plc g x.a) (min va (x.ca + vb)) else e
     if d1.getD (plc g x.a) 0 < 1073741824 then d1.set (plc g x.b) (min (d1.getD (plc g x.b) 0) (x.cb + d1.getD (plc g x.a) 0)) else d1) := by
     rw [relax, far_def, getD_of hva, getD_of hvb]
    have hnl := relax_len g e x
    have hnb := j3.relax (g := g) (l := x) hc.1.1 hc.2.1
    rw [hdr, List.foldl_cons] at j4
    generalize relax g e x = e2 at hrx hnl hnb j4
    clear hdr hm hx
    generalize plc g x.a = a at *
    generalize plc g x.b = b at *
    have nx : ∀ e', e' = e2 → (⟨i + 1, e'⟩ : Nat × List Int).1 ≤ g.ls.length ∧ e'.length = g.rs.length ∧ Bd e' ∧ roundD g d = (g.ls.drop (i + 1)).foldl (relax g) e' := fun e' h => by subst h; exact ⟨by simp; omega, by omega, hnb, j4⟩
    by_cases c1 : vb < 1073741824
    ·have wv : x.ca + vb = IntKind.i64.wrap (x.ca + vb) := (wrap_i64 (by omega) (by omega)).symm
     have hs1 : (e.set a (min va (x.ca + vb)))[a]? = some (min va (x.ca + vb)) := by rw [List.getElem?_set_self (by omega)]
     obtain ⟨v2, hv2⟩ : ∃ v, (e.set a (min va (x.ca + vb)))[b]? = some v := ⟨(e.set a (min va (x.ca + vb)))[b]'(by simp; omega), List.getElem?_eq_getElem (by simp; omega)⟩
     have ws1 := row_get hs1
     have ws2 := row_get hv2
     simp only [if_pos c1, getD_of hs1, getD_of hv2] at hrx
     simp -dsimp [wa, wb, j2, topT, c1, minI_eq, row_set, ws1, ws2, wrap_i64 (n := x.ca + vb) (by omega) (by omega)]
     by_cases c2 : min va (x.ca + vb) < 1073741824
     ·rw [if_pos c2] at hrx
      and_intros
      all_goals try first | rfl | omega | exact ⟨by kernel_rfl⟩
      simp -dsimp [wa, wb, j2, topT, c1, c2, minI_eq, row_set, ws1, ws2, wrap_i64 (n := x.cb + min va (x.ca + vb)) (by omega) (by omega), wrap_i64 (n := (i : Int) + 1) (by omega) (by omega)]
      and_intros
      all_goals try first | rfl | omega | exact ⟨by kernel_rfl⟩
      exact ⟨⟨(i + 1, ((e.set a (min va (x.ca + vb))).set b (min v2 (x.cb + min va (x.ca + vb))))), nx _ hrx.symm⟩, GS.to (by simp), by simp; omega⟩
     ·rw [if_neg c2] at hrx
      and_intros
      all_goals try first | rfl | omega | exact ⟨by kernel_rfl⟩
      simp -dsimp [wa, wb, j2, topT, c1, c2, minI_eq, row_set, ws1, ws2, wrap_i64 (n := (i : Int) + 1) (by omega) (by omega)]
      and_intros
      all_goals try first | rfl | omega | exact ⟨by kernel_rfl⟩
      exact ⟨⟨(i + 1, (e.set a (min va (x.ca + vb)))), nx _ hrx.symm⟩, GS.to (by simp), by simp; omega⟩
    ·simp only [if_neg c1, getD_of hva, getD_of hvb] at hrx
     by_cases c2 : va < 1073741824
     ·rw [if_pos c2] at hrx
      simp -dsimp [wa, wb, j2, topT, c1, c2, minI_eq, row_set, wrap_i64 (n := x.cb + va) (by omega) (by omega), wrap_i64 (n := (i : Int) + 1) (by omega) (by omega)]
      and_intros
      all_goals try first | rfl | omega | exact ⟨by kernel_rfl⟩
      exact ⟨⟨(i + 1, (e.set b (min vb (x.cb + va)))), nx _ hrx.symm⟩, GS.to (by simp), by simp; omega⟩
     ·rw [if_neg c2] at hrx
      simp -dsimp [wa, wb, j2, topT, c1, c2, wrap_i64 (n := (i : Int) + 1) (by omega) (by omega)]
      and_intros
      all_goals try first | rfl | omega | exact ⟨by kernel_rfl⟩
      exact ⟨⟨(i + 1, e), nx _ hrx.symm⟩, GS.to (by simp), by simp; omega⟩
   ·have hiz : ¬ (i : Int) < g.ls.length := by omega
    simp -dsimp [hiz, wrap_i64 (n := (k : Int) + 1) (by omega) (by omega)]
    rw [List.drop_eq_nil_of_le (by omega), List.foldl_nil] at j4
    exact ⟨⟨(k + 1, e), by simp; omega, j2, j3, by rw [k4, show g.rs.length - k = (g.rs.length - (k + 1)) + 1 by omega, roundsD, j4]⟩, GS.to (by simp), by simp; omega⟩
  ·have hkz : ¬ (k : Int) < g.rs.length := by omega
   rw [show g.rs.length - k = 0 by omega, roundsD] at k4
   simp -dsimp [hkz, k2]
   refine Fin.view 4 ?_
   simp -dsimp [k2]
   refine Fin.of ?_
   simp [k4, ints, nrow]
theorem near_len (g : Topo) (r : Int) : (near g r).length ≤ g.rs.length := by
 simp only [near, List.length_map]
 exact List.length_filter_le _ _
theorem atR_bd {g : Topo} {d : List Int} (h : Bd d) (r : Int) : 0 ≤ atR g d r ∧ atR g d r ≤ 1073741824 := by
 unfold atR
 split
 ·exact h.getD _
 ·omega
theorem price_bd {g : Topo} (hg : g.Ok) (f t : Int) : 0 ≤ (price g.ls f t).getD 0 ∧ (price g.ls f t).getD 0 ≤ 1000 := by
 have : ∀ l : List Lk, (∀ x ∈ l, x ∈ g.ls) → 0 ≤ (price l f t).getD 0 ∧ (price l f t).getD 0 ≤ 1000 := by
  intro l
  induction l with
  | nil => intro _; simp [price]
  | cons x l ih =>
    intro hm
    have hc := hg.c (hm x (by simp))
    rw [price]
    split
    ·simp; omega
    ·split
     ·simp; omega
     ·exact ih fun y hy => hm y (by simp [hy])
 exact this g.ls fun _ h => h
def stepOK (g : Topo) (d : List Int) (f n : Int) : Bool := decide (atR g d n < 1073741824) && decide ((price g.ls f n).getD 0 + atR g d n = atR g d f)
def steps (g : Topo) (d : List Int) (f : Int) : List Int := if atR g d f = 1073741824 ∨ atR g d f = 0 then [] else (near g f).filter (stepOK g d f)
theorem steps_len (g : Topo) (d : List Int) (f : Int) : (steps g d f).length ≤ g.rs.length := by
 unfold steps
 split
 ·simp
 ·exact Nat.le_trans (List.length_filter_le _ _) (near_len g f)
theorem steps06_c (g : Topo) (hg : g.Ok) (d : List Int) (hd : g.rs.length ≤ d.length) (hb : Bd d) (f : Int) : Contract Tryz.prog 150 [topT g, .d (ints d), .d (.int .i64 f)] [] (.d (ints (steps g d f))) [] [] := by
 have hr := hg.sm.r
 have hsm := hg.sm
 refine contract_of Tryz.func150 rfl (fun E0 => ?_)
 refine awp.sound (g := .mk) (ow := []) (kp := (fun k => k==0||k==1||k==2||k==3||k==6||k==7||k==8||k==9||k==10||k==11||k==22||k==29||k==62)) ?_
 rw [Tryz.ntmps150]
 simp -dsimp [topT]
 refine ACall.of (at06_c g hsm d hd f) [] 0 ?_
 by_cases c1 : atR g d f = 1073741824
 ·simp -dsimp [topT, eq_true c1]
  and_intros
  all_goals try first | rfl | omega | exact ⟨by kernel_rfl⟩
  refine Fin.view 6 ?_
  simp -dsimp
  refine Fin.of ?_
  simp [steps, c1, ints]
 by_cases c2 : atR g d f = 0
 ·simp -dsimp [topT, eq_false c1, eq_true c2]
  and_intros
  all_goals try first | rfl | omega | exact ⟨by kernel_rfl⟩
  refine Fin.view 6 ?_
  simp -dsimp
  refine Fin.of ?_
  simp [steps, c2, ints]
 simp -dsimp [topT, eq_false c1, eq_false c2]
 refine ACall.of (near05_c g hsm f) [] 0 ?_
 simp -dsimp [topT]
 have hst : steps g d f = (near g f).filter (stepOK g d f) := by rw [steps, if_neg (by omega)]
 have hnl := near_len g f
 rw [hst]
 clear hst
 generalize near g f = n at hnl
 have hn1 : n.length ≤ 1000000 := by omega
 refine ALoop.of [] (fun k => k==0||k==1||k==2||k==3||k==6||k==7||k==8||k==9||k==10||k==11||k==22||k==29||k==62) (ι := { i : Nat // i ≤ n.length ∧ True }) (fun z => [(Pl.s 0, It.v (.agg [TV.d (.sl (rts g.rs)), TV.d (.sl (lks g.ls))])), (Pl.s 1, It.v (.d (ints d))), (Pl.s 2, It.v (.d (.int .i64 f))), (Pl.o 3, It.box [TV.d (.sl (rts g.rs)), TV.d (.sl (lks g.ls))]), (Pl.s 3, It.v (.ptr (Pl.o 3) 0)), (Pl.s 6, It.v (.c (Value.slice none 0 0))), (Pl.s 8, It.v (.d (.int .i64 (atR g d f)))), (Pl.s 7, It.v (.oref 7 ((n.take z.1).filter (stepOK g d f)).length)), (Pl.o 7, It.row 3 1 (dd (nrow .i64 ((n.take z.1).filter (stepOK g d f)))) false), (Pl.s 9, It.v (.d (ints n))), (Pl.s 10, It.v (.d (.int .i64 z.1)))]) (fun z => n.length - z.1) ⟨0, by omega, trivial⟩ ?_ ?_
 ·exact GS.own' (k := 7) 3 1 (by simp) (by simp) (by simp [ints, nrow])
 ·rintro ⟨i, i1, i2⟩
  by_cases hi : i < n.length
  ·have hiz : (i : Int) < n.length := by omega
   have hx : n[i]? = some n[i] := List.getElem?_eq_getElem hi
   have ht : n.take (i + 1) = n.take i ++ [n[i]] := by rw [List.take_add_one, List.getElem?_eq_getElem hi]; rfl
   generalize n[i] = x at hx ht
   have hp := price_bd hg f x
   have hfl : ((n.take i).filter (stepOK g d f)).length ≤ 1000000 := Nat.le_trans (List.length_filter_le _ _) (by simp; omega)
   have ha := atR_bd (g := g) hb x
   simp -dsimp [hiz, ints, hx]
   refine ACall.of (price05_c g hsm f x) [] 0 ?_
   simp -dsimp [priceT, topT, hx, ints]
   and_intros
   all_goals try first | rfl | omega | exact ⟨by kernel_rfl⟩
   refine ACall.of (at06_c g hsm d hd x) [] 0 ?_
   by_cases b1 : atR g d x < 1073741824
   ·simp -dsimp [priceT, topT, hx, ints, b1]
    and_intros
    all_goals try first | rfl | omega | exact ⟨by kernel_rfl⟩
    refine ACall.of (at06_c g hsm d hd x) [] 0 ?_
    by_cases b2 : (price g.ls f x).getD 0 + atR g d x = atR g d f
    ·simp -dsimp [priceT, topT, hx, ints, b1, eq_true b2, wrap_i64 (n := (price g.ls f x).getD 0 + atR g d x) (by omega) (by omega), wrap_i64 (n := (i : Int) + 1) (by omega) (by omega)]
     and_intros
     all_goals try first | rfl | omega | exact ⟨by kernel_rfl⟩
     exact ⟨⟨i + 1, by omega, trivial⟩, GS.to (by simp [ht, stepOK, b1, b2, nrow, ints]), by simp; omega⟩
    ·simp -dsimp [priceT, topT, hx, ints, b1, eq_false b2, wrap_i64 (n := (price g.ls f x).getD 0 + atR g d x) (by omega) (by omega), wrap_i64 (n := (i : Int) + 1) (by omega) (by omega)]
     and_intros
     all_goals try first | rfl | omega | exact ⟨by kernel_rfl⟩
     exact ⟨⟨i + 1, by omega, trivial⟩, GS.to (by simp [ht, stepOK, b1, b2, nrow, ints]), by simp; omega⟩
   ·simp -dsimp [priceT, topT, hx, ints, b1, wrap_i64 (n := (i : Int) + 1) (by omega) (by omega)]
    and_intros
    all_goals try first | rfl | omega | exact ⟨by kernel_rfl⟩
    exact ⟨⟨i + 1, by omega, trivial⟩, GS.to (by simp [ht, stepOK, b1, nrow, ints]), by simp; omega⟩
  ·have hiz : ¬ (i : Int) < n.length := by omega
   simp -dsimp [hiz, ints]
   refine Fin.view 6 ?_
   simp -dsimp
   refine Fin.of ?_
   simp [List.take_of_length_le (show n.length ≤ i by omega), ints, nrow]
end Go.Proofs

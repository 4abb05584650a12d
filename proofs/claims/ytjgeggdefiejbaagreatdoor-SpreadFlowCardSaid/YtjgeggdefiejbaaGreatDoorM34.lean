/-
  What functions of the program compute, stated as contracts over plain data; the conditions of each stand in its own statement.
-/
import Derived.Test.YtjgeggdefiejbaaGreatDoorM33
import Derived.Test.YtjgeggdefiejbaaGreatDoorM27
import Derived.Test.YtjgeggdefiejbaaGreatDoorM22
import Derived.Test.YtjgeggdefiejbaaGreatDoorRows
import Derived.Test.YtjgeggdefiejbaaGreatDoorM12
import Derived.OpenShut
import Derived.MakeChecks
import Derived.FnData
import Derived.LaidMore
import Derived.Test.YtjgeggdefiejbaaGreatDoorM32
import Derived.Test.YtjgeggdefiejbaaGreatDoorM13
set_option linter.unusedSimpArgs false
set_option maxRecDepth 100000
set_option maxHeartbeats 8000000
namespace Go.Proofs
open Go Go.Tr
def ps (l : List (List Int)) : D := .sl (l.map fun x => [ints x])
def pgo (l : List Tb) (r id : Int) : Nat → Nat → List (List Int) → List (List Int) × Int
 | 0, _, acc => (acc, 0)
 | n + 1, k, acc => if (pathV l r id k).2 = 0 then pgo l r id n (k + 1) (acc ++ [(pathV l r id k).1]) else ([], (pathV l r id k).2)
def spathR (l : List Tb) (r id : Int) : List (List Int) × Int := pgo l r id 8 0 []
theorem pgo_len (l : List Tb) (r id : Int) : ∀ (n k : Nat) (acc : List (List Int)), (pgo l r id n k acc).1.length ≤ acc.length + n
 | 0, k, acc => by simp [pgo]
 | n + 1, k, acc => by
   have := pgo_len l r id n (k + 1) (acc ++ [(pathV l r id k).1])
   rw [pgo]
   split
   ·simp at this; omega
   ·simp
theorem spathR_len (l : List Tb) (r id : Int) : (spathR l r id).1.length ≤ 8 := by
 have := pgo_len l r id 8 0 []
 simpa [spathR] using this
theorem paths_c (l : List Tb) (hl : SmL l) (r id : Int) : Contract Tryz.prog 43 [.d (.sl (tbs l)), .d (.int .i64 r), .d (.int .i64 id)] [] (.tup [.d (ps (spathR l r id).1), .d (.int .i64 (spathR l r id).2)]) [] [] := by
 obtain ⟨G, hG⟩ : ∃ G, G = spathR l r id := ⟨_, rfl⟩
 rw [← hG]
 refine contract_of Tryz.func43 rfl (fun E0 => ?_)
 refine awp.sound (g := .mk) (ow := []) (kp := (fun k => k==0||k==1||k==2||k==6||k==7||k==8||k==9||k==10||k==11||k==12||k==13||k==24)) ?_
 rw [Tryz.ntmps43]
 simp -dsimp
 try refine ⟨?_, ⟨by kernel_rfl⟩⟩
 refine ALoop.of [] (fun k => k==0||k==1||k==2||k==6||k==7||k==8||k==9||k==10||k==11||k==12||k==13||k==24) (ι := { z : Nat × List (List Int) // z.1 ≤ 8 ∧ z.2.length = z.1 ∧ G = pgo l r id (8 - z.1) z.1 z.2 })
  (fun z => [(Pl.s 0, It.v (TV.d (D.sl (tbs l)))), (Pl.s 1, It.v (TV.d (D.int IntKind.i64 r))), (Pl.s 2, It.v (TV.d (D.int IntKind.i64 id))), (Pl.s 6, It.v (TV.c (Value.slice none 0 0))), (Pl.s 7, It.v (TV.d (D.int IntKind.i64 0))), (Pl.s 8, It.v (TV.oref 8 z.1.2.length)), (Pl.o 8, It.row 22 1 (dd (z.1.2.map fun x => [ints x])) false), (Pl.s 12, It.v (TV.d (D.int IntKind.i64 z.1.1)))])
  (fun z => 8 - z.1.1) ⟨(0, []), by omega, rfl, hG⟩ ?_ ?_
 ·exact GS.own' (k := 8) 22 1 (by simp) (by simp) (by simp)
 ·rintro ⟨⟨k, acc⟩, i1, i2, i3⟩
  simp only at i1 i2 i3
  by_cases hk : k < 8
  ·have hkz : (k : Int) < 8 := by omega
   have h1 := path_c l hl r id k
   rw [show 8 - k = (8 - (k + 1)) + 1 by omega, pgo] at i3
   generalize pathV l r id k = U at h1 i3
   obtain ⟨x, e⟩ := U
   simp only at i3
   simp only [pathT] at h1
   simp -dsimp [hkz]
   and_intros
   all_goals try first | omega | exact ⟨by kernel_rfl⟩
   refine ACall.of h1 [] 0 ?_
   by_cases he : e = 0
   ·rw [if_pos he] at i3
    simp -dsimp [he, wrap_i64 (n := (k : Int) + 1) (by omega) (by omega)]
    and_intros
    all_goals try first | omega | exact ⟨by kernel_rfl⟩
    have hrow : dd (acc.map (fun x => [ints x]) ++ [[ints x]]) = dd (acc.map fun x => [ints x]) ++ [[TV.d (ints x)]] := by simp [dd]
    exact ⟨⟨(k + 1, acc ++ [x]), by omega, by simp [i2], i3⟩, GS.to (by simp [hrow]), by simp; omega⟩
   ·rw [if_neg he] at i3
    subst i3
    simp -dsimp [he]
    and_intros
    all_goals try first | omega | exact ⟨by kernel_rfl⟩
    refine Fin.view 6 ?_
    simp -dsimp
    refine Fin.of ?_
    simp [ps]
  ·have hkz : ¬ (k : Int) < 8 := by omega
   obtain rfl : k = 8 := by omega
   rw [show 8 - 8 = 0 from rfl, pgo] at i3
   subst i3
   simp -dsimp [hkz]
   refine Fin.view 6 ?_
   simp -dsimp
   refine Fin.of ?_
   simp [ps]
theorem paths15_c (l : List Tb) (hl : SmL l) (r id : Int) : Contract Tryz.prog 44 [.d (.sl (tbs l)), .d (.int .i64 r), .d (.int .i64 id)] [] (.tup [.d (ps (spathR l r id).1), .d (.int .i64 (spathR l r id).2)]) [] [] := by
 obtain ⟨G, hG⟩ : ∃ G, G = spathR l r id := ⟨_, rfl⟩
 rw [← hG]
 refine contract_of Tryz.func44 rfl (fun E0 => ?_)
 refine awp.sound (g := .mk) (ow := []) (kp := (fun k => k==0||k==1||k==2||k==6||k==7||k==8||k==9||k==10||k==11||k==13||k==25)) ?_
 rw [Tryz.ntmps44]
 simp -dsimp
 try refine ⟨?_, ⟨by kernel_rfl⟩⟩
 refine ALoop.of [] (fun k => k==0||k==1||k==2||k==6||k==7||k==8||k==9||k==10||k==11||k==13||k==25) (ι := { z : Nat × List (List Int) // z.1 ≤ 8 ∧ z.2.length = z.1 ∧ G = pgo l r id (8 - z.1) z.1 z.2 })
  (fun z => [(Pl.s 0, It.v (TV.d (D.sl (tbs l)))), (Pl.s 1, It.v (TV.d (D.int IntKind.i64 r))), (Pl.s 2, It.v (TV.d (D.int IntKind.i64 id))), (Pl.s 6, It.v (TV.c (Value.slice none 0 0))), (Pl.s 7, It.v (TV.d (D.int IntKind.i64 0))), (Pl.s 8, It.v (TV.oref 8 z.1.2.length)), (Pl.o 8, It.row 22 1 (dd (z.1.2.map fun x => [ints x])) false), (Pl.s 9, It.v (TV.d (D.int IntKind.i64 z.1.1)))])
  (fun z => 8 - z.1.1) ⟨(0, []), by omega, rfl, hG⟩ ?_ ?_
 ·exact GS.own' (k := 8) 22 1 (by simp) (by simp) (by simp)
 ·rintro ⟨⟨k, acc⟩, i1, i2, i3⟩
  simp only at i1 i2 i3
  by_cases hk : k < 8
  ·have hkz : (k : Int) < 8 := by omega
   have h1 := path14_c l hl r id k
   rw [show 8 - k = (8 - (k + 1)) + 1 by omega, pgo] at i3
   generalize pathV l r id k = U at h1 i3
   obtain ⟨x, e⟩ := U
   simp only at i3
   simp only [pathT] at h1
   simp -dsimp [hkz]
   and_intros
   all_goals try first | omega | exact ⟨by kernel_rfl⟩
   refine ACall.of h1 [] 0 ?_
   by_cases he : e = 0
   ·rw [if_pos he] at i3
    simp -dsimp [he, wrap_i64 (n := (k : Int) + 1) (by omega) (by omega)]
    and_intros
    all_goals try first | omega | exact ⟨by kernel_rfl⟩
    have hrow : dd (acc.map (fun x => [ints x]) ++ [[ints x]]) = dd (acc.map fun x => [ints x]) ++ [[TV.d (ints x)]] := by simp [dd]
    exact ⟨⟨(k + 1, acc ++ [x]), by omega, by simp [i2], i3⟩, GS.to (by simp [hrow]), by simp; omega⟩
   ·rw [if_neg he] at i3
    subst i3
    simp -dsimp [he]
    and_intros
    all_goals try first | omega | exact ⟨by kernel_rfl⟩
    refine Fin.view 6 ?_
    simp -dsimp
    refine Fin.of ?_
    simp [ps]
  ·have hkz : ¬ (k : Int) < 8 := by omega
   obtain rfl : k = 8 := by omega
   rw [show 8 - 8 = 0 from rfl, pgo] at i3
   subst i3
   simp -dsimp [hkz]
   refine Fin.view 6 ?_
   simp -dsimp
   refine Fin.of ?_
   simp [ps]
end Go.Proofs

set_option linter.unusedSimpArgs false
set_option maxRecDepth 100000
set_option maxHeartbeats 8000000
namespace Go.Proofs
open Go Go.Tr
theorem equalI_c (a b : List Int) (hl : a.length ≤ 1000000) : Contract Tryz.prog 97 [.d (ints a), .d (ints b)] [] (.d (.bool (decide (a = b)))) [] [] := by
 refine contract_of Tryz.func97 rfl (fun E0 => ?_)
 refine awp.sound (g := .mk) (ow := []) (kp := (fun k => k==0||k==1||k==4||k==5||k==10||k==12||k==13||k==14||k==24)) ?_
 rw [Tryz.ntmps97]
 by_cases hlen : a.length = b.length
 ·simp -dsimp [ints, hlen]
  refine ALoop.of [] (fun k => k==0||k==1||k==4||k==5||k==10||k==12||k==13||k==14||k==24) (ι := { i : Nat // i ≤ b.length ∧ ∀ j, j < i → a[j]? = b[j]? }) (fun z => [(Pl.s 0, It.v (.d (ints a))), (Pl.s 1, It.v (.d (ints b))), (Pl.s 4, It.v (.d (.bool false))), (Pl.s 10, It.v (.d (.bool false))),
   (Pl.s 12, It.v (TV.d (D.int IntKind.i64 b.length))), (Pl.s 13, It.v (TV.d (D.int IntKind.i64 z.1)))]) (fun z => b.length - z.1) ⟨0, by omega, fun j h => by omega⟩ ?_ ?_
  ·exact GS.to (by simp [ints])
  ·rintro ⟨i, i1, i2⟩
   by_cases hi' : i < b.length
   ·have hi : i < a.length := by omega
    by_cases h : a[i] = b[i]
    ·simp -dsimp [ints, hi, hi', h, wrap_i64 (n := (i : Int) + 1) (by omega) (by omega)]
     try refine ⟨?_, ⟨by kernel_rfl⟩⟩
     exact ⟨⟨i + 1, by omega, fun j hj => by
      by_cases e : j = i
      ·subst e; rw [List.getElem?_eq_getElem hi, List.getElem?_eq_getElem hi', h]
      ·exact i2 j (by omega)⟩, GS.to (by simp [ints]), by simp; omega⟩
    ·simp -dsimp [ints, hi, hi', h, wrap_i64 (n := (i : Int) + 1) (by omega) (by omega)]
     try refine ⟨?_, ⟨by kernel_rfl⟩⟩
     refine Fin.of ?_
     have : a ≠ b := fun e => by subst e; exact h rfl
     simp [this]
   ·simp -dsimp [ints, hi']
    refine Fin.of ?_
    have : a = b := List.ext_getElem? fun j => by
     by_cases hj : j < i
     ·exact i2 j hj
     ·rw [List.getElem?_eq_none (by omega), List.getElem?_eq_none (by omega)]
    simp [this]
 ·have hlen' : ¬ (a.length : Int) = b.length := by omega
  simp -dsimp [ints, hlen, hlen']
  refine Fin.of ?_
  have : a ≠ b := fun e => hlen (by rw [e])
  simp [this]
theorem indexP1_c (l : List (List Int)) (hl : l.length ≤ 1000000) (f : FuncId) (ds : List D) (q : List Int → Bool) (hf : ∀ x, x ∈ l → Contract Tryz.prog f [.d (ints x), .ptr (.x 0) 0] [.box (ds.map .d)] (.d (.bool (q x))) [.box (ds.map .d)] []) (hok : fnOK Tryz.prog f = true) :
  Contract Tryz.prog 140 [.d (ps l), .clo f [.ptr (.x 0) 0]] [.box (ds.map .d)] (.d (.int .i64 (idxR q l))) [.box (ds.map .d)] [] := by
 refine contract_of Tryz.func140 rfl (fun E0 => ?_)
 refine awp.sound (g := .mk) (ow := []) (kp := (fun k => k==0||k==1||k==4||k==5||k==7||k==8||k==9||k==16)) ?_
 rw [Tryz.ntmps140]
 simp -dsimp [ps]
 refine ALoop.of [] (fun k => k==0||k==1||k==4||k==5||k==7||k==8||k==9||k==16) (ι := { i : Nat // i ≤ l.length ∧ ∀ a, a < i → ∀ x, l[a]? = some x → q x = false })
  (fun z => [(Pl.s 0, It.v (TV.d (ps l))), (Pl.s 1, It.v (TV.clo f [TV.ptr (Pl.x 0) 0])), (Pl.x 0, It.box (List.map TV.d ds)), (Pl.s 4, It.v (TV.d (D.int IntKind.i64 0))), (Pl.s 7, It.v (TV.d (D.int IntKind.i64 l.length))), (Pl.s 8, It.v (TV.d (D.int IntKind.i64 z.1)))]) (fun z => l.length - z.1) ⟨0, by omega, fun a h => by omega⟩ ?_ ?_
 ·exact GS.to (by simp [ps])
 ·rintro ⟨i, i1, i2⟩
  by_cases hi : i < l.length
  ·have hiz : (i : Int) < l.length := by omega
   have hx : l[i]? = some l[i] := List.getElem?_eq_getElem hi
   have hm : l[i] ∈ l := List.getElem_mem hi
   generalize l[i] = x at hx hm
   simp -dsimp [hiz, hx, ps, wrap_i64 (n := (i : Int) + 1) (by omega) (by omega)]
   and_intros
   all_goals try first | rfl | omega | exact ⟨by kernel_rfl⟩
   refine ACall.of (hf x hm) [.x 0] 0 ?_
   rcases (Bool.eq_false_or_eq_true (q x)).symm with h | h
   ·simp -dsimp [h, hok, wrap_i64 (n := (i : Int) + 1) (by omega) (by omega)]
    and_intros
    all_goals try first | rfl | omega | exact ⟨by kernel_rfl⟩
    exact ⟨⟨i + 1, by omega, fun a ha y hy => by
     by_cases e : a = i
     ·subst e; rw [hx] at hy; simp only [Option.some.injEq] at hy; subst hy; exact h
     ·exact i2 a (by omega) y hy⟩, GS.to (by simp [ps]), by simp; omega⟩
   ·simp -dsimp [h, hok]
    and_intros
    all_goals try first | rfl | omega | exact ⟨by kernel_rfl⟩
    refine Fin.of ?_
    simp [idx_at hx h i2]
  ·have hiz : ¬ (i : Int) < l.length := by omega
   simp -dsimp [hi, hiz, ps]
   refine Fin.of ?_
   simp
   exact (idx_no fun a ha => i2 a (by omega)).symm
theorem containsP1_c (l : List (List Int)) (hl : l.length ≤ 1000000) (f : FuncId) (ds : List D) (q : List Int → Bool) (hf : ∀ x, x ∈ l → Contract Tryz.prog f [.d (ints x), .ptr (.x 0) 0] [.box (ds.map .d)] (.d (.bool (q x))) [.box (ds.map .d)] []) (hok : fnOK Tryz.prog f = true) :
  Contract Tryz.prog 95 [.d (ps l), .clo f [.ptr (.x 0) 0]] [.box (ds.map .d)] (.d (.bool (l.any q))) [.box (ds.map .d)] [] := by
 refine contract_of Tryz.func95 rfl (fun E0 => ?_)
 refine awp.sound (g := .mk) (ow := []) (kp := (fun k => k==0||k==1||k==4)) ?_
 rw [Tryz.ntmps95]
 simp -dsimp
 refine ACall.of (indexP1_c l hl f ds q hf hok) [.x 0] 0 ?_
 simp -dsimp
 refine Fin.of ?_
 simp [idx_any]
theorem dist1_c (p q : List Int) (hp : p.length ≤ 1000000) : Contract Tryz.prog 96 [.d (ints q), .ptr (.x 0) 0] [.box ([ints p].map .d)] (.d (.bool (decide (p = q)))) [.box ([ints p].map .d)] [] := by
 refine contract_of Tryz.func96 rfl (fun E0 => ?_)
 refine awp.sound (g := .mk) (ow := []) (kp := (fun k => k==0||k==1||k==3)) ?_
 rw [Tryz.ntmps96]
 simp -dsimp
 refine ACall.of (equalI_c p q hp) [] 0 ?_
 simp -dsimp
 refine Fin.of ?_
 simp
def grtL (zs : List (List Int)) : Int := zs.foldl (fun m z => max m (z.getD 2 0)) 0
theorem greatest_c (zs : List (List Int)) (hz : ∀ z ∈ zs, z.length = 3) (hl : zs.length ≤ 1000000000) : Contract Tryz.prog 99 [.d (.sl (irow zs))] [] (.d (.int .i64 (grtL zs))) [] [] := by
 refine contract_of Tryz.func99 rfl (fun E0 => ?_)
 refine awp.sound (g := .mk) (ow := []) (kp := (fun k => k==0||k==2||k==3||k==5||k==6||k==7||k==8||k==9)) ?_
 rw [Tryz.ntmps99]
 simp -dsimp
 try refine ⟨?_, ⟨by kernel_rfl⟩⟩
 refine ALoop.of [] (fun k => k==0||k==2||k==3||k==5||k==6||k==7||k==8||k==9) (ι := { i : Nat // i ≤ zs.length })
  (fun z => [(Pl.s 3, It.v (TV.d (D.int IntKind.i64 (grtL (zs.take z.1))))), (Pl.s 6, It.v (TV.d (D.sl (irow zs)))), (Pl.s 7, It.v (TV.d (D.int IntKind.i64 zs.length))), (Pl.s 8, It.v (TV.d (D.int IntKind.i64 z.1)))])
  (fun z => zs.length - z.1) ⟨0, by omega⟩ ?_ ?_
 ·exact GS.to (by simp [grtL])
 ·rintro ⟨i, i1⟩
  by_cases hi : i < zs.length
  ·have hiz : (i : Int) < zs.length := by omega
   have hg : zs[i]? = some zs[i] := List.getElem?_eq_getElem hi
   have hm : zs[i].length = 3 := hz _ (List.getElem_mem hi)
   generalize zs[i] = y at hg hm
   obtain ⟨a, b, c, rfl⟩ : ∃ a b c, y = [a, b, c] := by
    match y, hm with
    | [a, b, c], _ => exact ⟨a, b, c, rfl⟩
   have hn : grtL (zs.take (i + 1)) = if c > grtL (zs.take i) then c else grtL (zs.take i) := by
    unfold grtL
    rw [List.take_add_one, hg]
    simp only [Option.toList_some, List.foldl_append, List.foldl_cons, List.foldl_nil]
    generalize (zs.take i).foldl (fun m z => max m (z.getD 2 0)) 0 = m
    show max m c = _
    split <;> omega
   have hgr : (irow zs)[i]? = some [D.int .i64 a, D.int .i64 b, D.int .i64 c] := by simp [irow, hg]
   simp -dsimp [hiz, hgr, wrap_i64 (n := (i : Int) + 1) (by omega) (by omega)]
   and_intros
   all_goals try first | omega | exact ⟨by kernel_rfl⟩
   exact ⟨⟨i + 1, by omega⟩, GS.to (by simp [hn, maxI]), by simp; omega⟩
  ·have hiz : ¬ (i : Int) < zs.length := by omega
   obtain rfl : i = zs.length := by omega
   simp -dsimp [hiz]
   refine Fin.of ?_
   simp
def dcnt (P : List (List Int)) : Nat → Int
 | 0 => 0
 | n + 1 => dcnt P n + if ((P.take n).any fun q => decide (P.getD n [] = q)) then 0 else 1
theorem dcnt_le (P : List (List Int)) : ∀ n : Nat, 0 ≤ dcnt P n ∧ dcnt P n ≤ n
 | 0 => by simp [dcnt]
 | n + 1 => by
   have := dcnt_le P n
   rw [dcnt]; split <;> push_cast <;> omega
theorem pgo_nil (l : List Tb) (r id : Int) : ∀ (n k : Nat) (acc : List (List Int)), (pgo l r id n k acc).2 ≠ 0 → (pgo l r id n k acc).1 = []
 | 0, k, acc, h => absurd rfl h
 | n + 1, k, acc, h => by
   rw [pgo] at h ⊢
   split
   ·rename_i h1; rw [if_pos h1] at h; exact pgo_nil l r id n (k + 1) _ h
   ·rfl
theorem pgo_mem (l : List Tb) (r id : Int) : ∀ (n k : Nat) (acc : List (List Int)), (∀ x ∈ acc, x.length ≤ l.length + 1) → ∀ x ∈ (pgo l r id n k acc).1, x.length ≤ l.length + 1
 | 0, k, acc, h => h
 | n + 1, k, acc, h => by
   rw [pgo]
   split
   ·refine pgo_mem l r id n (k + 1) _ fun x hx => ?_
    rcases List.mem_append.1 hx with hx | hx
    ·exact h x hx
    ·rw [List.mem_singleton] at hx; rw [hx]; exact pathV_len l r id k
   ·simp
theorem dist_c (l : List Tb) (hl : SmL l) (r id : Int) : Contract Tryz.prog 46 [.d (.sl (tbs l)), .d (.int .i64 r), .d (.int .i64 id)] [] (.tup [.d (.int .i64 (dcnt (spathR l r id).1 (spathR l r id).1.length)), .d (.int .i64 (spathR l r id).2)]) [] [] := by
 have h1 := paths_c l hl r id
 have h2 := spathR_len l r id
 have h3 := pgo_nil l r id 8 0 []
 have h4 := pgo_mem l r id 8 0 [] (by simp)
 have hn := hl.n
 change (spathR l r id).2 ≠ 0 → _ at h3
 change ∀ x ∈ (spathR l r id).1, _ at h4
 change _ → (spathR l r id).1 = [] at h3
 generalize spathR l r id = G at h1 h2 h3 h4
 obtain ⟨G, e⟩ := G
 simp only at h2 h3 h4
 refine contract_of Tryz.func46 rfl (fun E0 => ?_)
 refine awp.sound (g := .mk) (ow := []) (kp := (fun k => k==0||k==1||k==2||k==6||k==7||k==8||k==9||k==10||k==11||k==12||k==21||k==23||k==24||k==25||k==26||k==35)) ?_
 rw [Tryz.ntmps46]
 simp -dsimp
 try refine ⟨?_, ⟨by kernel_rfl⟩⟩
 refine ACall.of h1 [] 0 ?_
 by_cases he : e = 0
 ·simp -dsimp [he, ps]
  and_intros
  all_goals try first | omega | exact ⟨by kernel_rfl⟩
  refine ALoop.of [] (fun k => k==0||k==1||k==2||k==6||k==7||k==8||k==9||k==10||k==11||k==12||k==21||k==23||k==24||k==25||k==26||k==35) (ι := { i : Nat // i ≤ G.length })
   (fun z => [(Pl.s 7, It.v (TV.d (D.int IntKind.i64 0))), (Pl.s 8, It.v (TV.d (ps G))), (Pl.s 10, It.v (TV.d (D.int IntKind.i64 (dcnt G z.1)))), (Pl.s 23, It.v (TV.d (ps G))), (Pl.s 24, It.v (TV.d (D.int IntKind.i64 G.length))), (Pl.s 25, It.v (TV.d (D.int IntKind.i64 z.1)))])
   (fun z => G.length - z.1) ⟨0, by omega⟩ ?_ ?_
  ·exact GS.to (by simp [ps, dcnt])
  ·rintro ⟨i, i1⟩
   by_cases hi : i < G.length
   ·have hiz : (i : Int) < G.length := by omega
    have hg : G[i]? = some G[i] := List.getElem?_eq_getElem hi
    have hgl := h4 G[i] (List.getElem_mem hi)
    generalize G[i] = p at hg hgl
    have hgd : G.getD i [] = p := by rw [List.getD_eq_getElem?_getD, hg]; rfl
    have hds : dcnt G (i + 1) = dcnt G i + if ((G.take i).any fun q => decide (p = q)) then 0 else 1 := by rw [dcnt, hgd]
    have hdl := dcnt_le G i
    have hc := containsP1_c (G.take i) (by rw [List.length_take]; omega) 96 [ints p] (fun q => decide (p = q)) (fun x _ => dist1_c p x (by omega)) (by simp)
    simp only [ps, List.map_take] at hc
    simp -dsimp [hiz, hg, ps]
    and_intros
    all_goals try first | omega | exact ⟨by kernel_rfl⟩
    refine ACall.of hc [.o 12] 0 ?_
    rcases (Bool.eq_false_or_eq_true ((G.take i).any fun q => decide (p = q))).symm with hb | hb
    ·rw [hb] at hds
     simp -dsimp [hb, wrap_i64 (n := (i : Int) + 1) (by omega) (by omega), wrap_i64 (n := dcnt G i + 1) (by omega) (by omega)]
     and_intros
     all_goals try first | omega | exact ⟨by kernel_rfl⟩
     exact ⟨⟨i + 1, by omega⟩, GS.to (by simp [hds, ps]), by simp; omega⟩
    ·rw [hb] at hds
     simp -dsimp [hb, wrap_i64 (n := (i : Int) + 1) (by omega) (by omega)]
     and_intros
     all_goals try first | omega | exact ⟨by kernel_rfl⟩
     exact ⟨⟨i + 1, by omega⟩, GS.to (by simp [hds, ps]), by simp; omega⟩
   ·have hiz : ¬ (i : Int) < G.length := by omega
    obtain rfl : i = G.length := by omega
    simp -dsimp [hiz]
    refine Fin.of ?_
    simp [he]
 ·obtain rfl : G = [] := h3 he
  simp -dsimp [he, ps]
  and_intros
  all_goals try first | omega | exact ⟨by kernel_rfl⟩
  refine Fin.of ?_
  simp [dcnt]
end Go.Proofs

set_option linter.unusedSimpArgs false
set_option maxRecDepth 100000
set_option maxHeartbeats 8000000
namespace Go.Proofs
open Go Go.Tr
def entV (s g : Int) : Int := IntKind.i64.wrap (shrI IntKind.u32 (IntKind.u32.wrap (IntKind.u32.wrap (IntKind.u32.wrap (IntKind.u32.wrap s * 31) + IntKind.u32.wrap g) * 2654435761)) 22)
theorem entV_le (s g : Int) : 0 ≤ entV s g ∧ entV s g ≤ 1023 := by
 unfold entV
 generalize IntKind.u32.wrap (IntKind.u32.wrap (IntKind.u32.wrap s * 31) + IntKind.u32.wrap g) * 2654435761 = x
 have h1 : IntKind.u32.wrap x = x % 4294967296 := by
  unfold IntKind.wrap
  simp [IntKind.signed, IntKind.bits]
 have h2 : 0 ≤ x % 4294967296 ∧ x % 4294967296 < 4294967296 := by omega
 have h3 : shrI IntKind.u32 (x % 4294967296) 22 = (x % 4294967296) / 4194304 := by
  unfold shrI
  have : (2 : Int) ^ min (Int.toNat 22) IntKind.u32.bits = 4194304 := by decide
  rw [this]
  exact Int.fdiv_eq_ediv_of_nonneg _ (by omega)
 rw [h1, h3, wrap_i64 (by omega) (by omega)]
 omega
theorem entropy_c (s g : Int) : Contract Tryz.prog 57 [.d (.int .i64 s), .d (.int .i64 g)] [] (.d (.int .i64 (entV s g))) [] [] := by
 refine contract_of Tryz.func57 rfl (fun E0 => ?_)
 refine awp.sound (g := .mk) (ow := []) (kp := (fun k => k==0||k==1||k==4)) ?_
 rw [Tryz.ntmps57]
 simp -dsimp
 refine Fin.of ?_
 simp [entV]
theorem entropy15_c (s g : Int) : Contract Tryz.prog 58 [.d (.int .i64 s), .d (.int .i64 g)] [] (.d (.int .i64 (entV s g))) [] [] := by
 refine contract_of Tryz.func58 rfl (fun E0 => ?_)
 refine awp.sound (g := .mk) (ow := []) (kp := (fun k => k==0||k==1||k==4||k==5)) ?_
 rw [Tryz.ntmps58]
 simp -dsimp
 refine Fin.of ?_
 simp [entV]
def sqG : Topo := ⟨[⟨1, true⟩, ⟨2, true⟩, ⟨3, true⟩, ⟨4, true⟩], [⟨1, 2, 1, 1, 0⟩, ⟨1, 3, 1, 1, 0⟩, ⟨2, 4, 1, 1, 0⟩, ⟨3, 4, 1, 1, 0⟩]⟩
def sqP : Pn := ⟨0, 8, [⟨4, 1⟩]⟩
def sqL : List Tb := tabs sqG sqP sqG.rs
def sqQ : Pk := ⟨1, 0, 0, 8, 9, 0, 0, 0, 1#64, ⟨#[]⟩⟩
theorem sqP_ok : planB sqP = true := planB_ok (by decide) (by decide) (fun i j hj hi => by
 have hi : i < 1 := hi
 omega)
theorem sqG_ok : chkT sqG = 0 := by decide +kernel
theorem square_c : Contract Tryz.prog 98 [] [] (.d (.sl (tbs sqL))) [] [] := by
 have ha := all11_c sqG ⟨by simp [sqG], by simp [sqG]⟩ sqP (by simp [sqP])
 rw [all11_eq sqG_ok sqP_ok] at ha
 change Contract _ _ _ _ (allT sqL 0) _ _ at ha
 simp only [allT, topT, planT] at ha
 rw [show List.map Tb.cs sqL = tbs sqL from rfl] at ha
 generalize sqL = L at ha ⊢
 simp only [sqG, sqP, rts, lks, eds, List.map, Rt.cs, Lk.cs, Ed.cs] at ha
 refine contract_of Tryz.func98 rfl (fun E0 => ?_)
 refine awp.sound (g := .mk) (ow := []) (kp := (fun k => k==0||k==1||k==2)) ?_
 rw [Tryz.ntmps98]
 simp -dsimp
 try refine ⟨?_, ⟨by kernel_rfl⟩⟩
 refine ACall.of ha [] 0 ?_
 simp -dsimp
 try refine ⟨?_, ⟨by kernel_rfl⟩⟩
 refine Fin.of ?_
 simp
theorem sqS : SmL sqL := ⟨by decide +kernel, fun b hb => chk_sm (tabs_chk sqG_ok sqP_ok b hb)⟩
def sqPs : List (List Int) := [[2, 4], [3, 4], [2, 4], [3, 4], [2, 4], [3, 4], [2, 4], [3, 4]]
theorem sq_paths : spathR sqL 1 1 = (sqPs, 0) := by kernel_rfl
def sqA : List (List Int × Int) := [([1, 2], 4), ([2, 4], 4), ([1, 3], 4), ([3, 4], 4)]
theorem sq_lgo : lgo sqL 1 sqQ 8 0 [] = (sqA, 0) := by kernel_rfl
def sqLd : List (List Int) := [[1, 2, 4], [1, 3, 4], [2, 4, 4], [3, 4, 4]]
theorem sq_ld : ldR sqA = sqLd := by
 have hu : AccOK sqA 100 := ⟨by decide, by decide, by decide, by decide⟩
 have hp : (sqA.map rowK).Perm sqLd := by decide
 have h1 : ldR sqA = (sqA.map rowK).mergeSort leL := rfl
 rw [h1, sort_leL hp (row_one hu), List.mergeSort_of_pairwise (by decide)]
theorem sq_loads : loadsR sqL 1 sqQ = (sqLd, 0) := by
 unfold loadsR
 rw [sq_lgo]
 simp only [if_true, sq_ld]
theorem awake15_c : Contract Tryz.prog 48 [] [] (.d (.bool true)) [] [] := by
 have h1 := paths_c sqL sqS 1 1
 have h2 := dist_c sqL sqS 1 1
 have h3 := loads_c sqL sqS 1 sqQ
 rw [sq_paths] at h1 h2
 rw [sq_loads] at h3
 have e2 : dcnt sqPs sqPs.length = 2 := by decide +kernel
 rw [show dcnt (sqPs, (0 : Int)).1 (sqPs, (0 : Int)).1.length = 2 from e2] at h2
 have h4 := greatest_c sqLd (by decide) (by decide)
 rw [show grtL sqLd = 4 by decide +kernel] at h4
 have h5 := ints04_c [2, 4] [2, 4] (by simp)
 have h6 := ints04_c [3, 4] [3, 4] (by simp)
 simp only [pkT, sqQ, Pk.cs, List.map, sqPs, ps, sqLd, irow, ints] at h1 h2 h3 h4 h5 h6
 have hs := square_c
 generalize sqL = L at h1 h2 h3 hs
 refine contract_of Tryz.func48 rfl (fun E0 => ?_)
 refine awp.sound (g := .mk) (ow := []) (kp := (fun k => k==0||k==1||k==2||k==3||k==4||k==5||k==6)) ?_
 rw [Tryz.ntmps48]
 simp -dsimp
 try refine ⟨?_, ⟨by kernel_rfl⟩⟩
 refine ACall.of hs [] 0 ?_
 simp -dsimp
 try refine ⟨?_, ⟨by kernel_rfl⟩⟩
 refine ACall.of h1 [] 0 ?_
 simp -dsimp
 and_intros
 all_goals try first | omega | exact ⟨by kernel_rfl⟩ | rfl
 refine ACall.of hs [] 0 ?_
 simp -dsimp
 and_intros
 all_goals try first | omega | exact ⟨by kernel_rfl⟩ | rfl
 refine ACall.of h2 [] 0 ?_
 simp -dsimp
 and_intros
 all_goals try first | omega | exact ⟨by kernel_rfl⟩ | rfl
 refine ACall.of hs [] 0 ?_
 simp -dsimp
 and_intros
 all_goals try first | omega | exact ⟨by kernel_rfl⟩ | rfl
 refine ACall.of h3 [] 0 ?_
 as_aux_lemma =>
 simp -dsimp
 and_intros
 all_goals try first | omega | exact ⟨by kernel_rfl⟩ | rfl
 refine ACall.of h5 [] 0 ?_
 simp -dsimp
 and_intros
 all_goals try first | omega | exact ⟨by kernel_rfl⟩ | rfl
 refine ACall.of h6 [] 0 ?_
 simp -dsimp
 and_intros
 all_goals try first | omega | exact ⟨by kernel_rfl⟩ | rfl
 refine ACall.of h4 [] 0 ?_
 simp -dsimp
 and_intros
 all_goals try first | omega | exact ⟨by kernel_rfl⟩ | rfl
 refine Fin.of ?_
 simp
theorem sentropy_law (s g : Int) : Contract Tryz.prog 10 [.d (.int .i64 s), .d (.int .i64 g)] [] (.d (.bool true)) [] [] := by
 have h1 := entropy_c s g
 have h2 := entropy15_c s g
 obtain ⟨h3, h4⟩ := entV_le s g
 generalize entV s g = v at h1 h2 h3 h4
 refine contract_of Tryz.func10 rfl (fun E0 => ?_)
 refine awp.sound (g := .mk) (ow := []) (kp := (fun k => k==0||k==1||k==4||k==5)) ?_
 rw [Tryz.ntmps10]
 simp -dsimp
 and_intros
 all_goals try first | omega | exact ⟨by kernel_rfl⟩ | rfl
 refine ACall.of h1 [] 0 ?_
 simp -dsimp
 and_intros
 all_goals try first | omega | exact ⟨by kernel_rfl⟩ | rfl
 refine ACall.of h2 [] 0 ?_
 simp -dsimp [h3, h4]
 and_intros
 all_goals try first | omega | exact ⟨by kernel_rfl⟩ | rfl
 refine ACall.of awake15_c [] 0 ?_
 simp -dsimp
 and_intros
 all_goals try first | omega | exact ⟨by kernel_rfl⟩ | rfl
 refine Fin.of ?_
 simp
end Go.Proofs

set_option linter.unusedSimpArgs false
namespace Go.Proofs.YtjgeggdefiejbaaGreatDoor
open Go Go.Tr
set_option maxRecDepth 100000
def laidT : List (String × DataW Unit) := [("math/bits.deBruijn64tab", Rows.laid_math_bits_deBruijn64tab)]
theorem gDeb : Tryz.prog.globalNamed "math/bits.deBruijn64tab" = some 0 := by kernel_rfl
theorem tDeb : (Tryz.prog.globals[0]?).map (·.type) = some 191 := by kernel_rfl
theorem uDeb : Tryz.prog.underlying 191 = some (.array 64 5) := by kernel_rfl
theorem uByte : Tryz.prog.underlying 5 = some (.int .u8) := by kernel_rfl
theorem cByte : Tryz.prog.cellsOf 5 = 1 := by kernel_rfl
theorem debData {H : Type} : (Rows.laid_math_bits_deBruijn64tab : DataW H) = .agg (deb.map fun n => .lit (.int .u8 n)) := rfl
theorem glob_of_laid {W : World} (h : laidMetH Tryz.prog laidT W) : GlobW W := by
 rw [MakeChecks.laidMetH_plain _ _ _ (by kernel_rfl)] at h
 obtain ⟨ps, ⟨g0, t0, cs0, f0, p0, q0, hg0, ht0, hv0, hd0, _⟩, _, _⟩ := h
 obtain rfl := Option.some.inj (gDeb.symm.trans hg0)
 obtain rfl := Option.some.inj (tDeb.symm.trans ht0)
 obtain ⟨xs, m1, rfl, hx1, hlen, hn, hel⟩ := DataW.trod_array uDeb hd0
 simp only [Prod.mk.injEq, debData, DataW.agg.injEq] at hx1
 have hcell : ∀ i : Nat, i < 64 → cs0[i]? = some (.int .u8 (deb.getD i 0)) := fun i hi => by
  have h1 := hel i hi
  rw [cByte, Nat.mul_one] at h1
  have h2 : xs[i]? = some xs[i] := List.getElem?_eq_getElem (by omega)
  rw [h2] at h1
  obtain ⟨n, e1, e2, _⟩ := DataW.trod_int uByte h1
  have h3 : (xs.map (·.1))[i]? = (deb.map fun n => (DataW.lit (Lit.int .u8 n) : DataW Unit))[i]? := by rw [← hx1.1]
  rw [List.getElem?_map, h2, Option.map_some, e2, List.getElem?_map] at h3
  have h4 : deb[i]? = some n := by
   cases hd : deb[i]? with
   | none => rw [hd] at h3; simp at h3
   | some k => rw [hd] at h3; simp at h3; rw [h3]
  have h5 : cs0.toList[i]? = some (.int .u8 n) := by
   have := congrArg (fun l => l[0]?) e1
   simp only [List.getElem?_take, List.getElem?_drop] at this
   simpa using this
  rw [List.getD_eq_getElem?_getD, h4, Option.getD_some]
  simpa using h5
 have hbl : 0 < W.heap.size := by
  have := World.var?_cell hg0 hv0 0
  rw [hcell 0 (by omega)] at this
  exact World.block_lt_of_cell? W ⟨0, 0, none⟩ this
 intro y hy
 simp only [globs, List.mem_singleton] at hy
 subst hy
 refine RepCells.of_get fun i x hx => ?_
 simp only [List.getElem?_map, Option.map_eq_some_iff] at hx
 obtain ⟨n, h1, rfl⟩ := hx
 have hi : i < 64 := (List.getElem?_eq_some_iff.1 h1).1
 refine ⟨hbl, .int .u8 n, ?_, by simp only [Rep]⟩
 have := World.var?_cell hg0 hv0 i
 rw [hcell i hi, List.getD_eq_getElem?_getD, h1, Option.getD_some] at this
 rw [Nat.zero_add]
 exact this
end Go.Proofs.YtjgeggdefiejbaaGreatDoor

namespace Go.Proofs
open Go Go.Tr
theorem has_int {ds : List D} (h : (Ty.int .i64).has ds) : ∃ n, ds = [.int .i64 n] := by
 simp only [Ty.has] at h
 obtain ⟨n, rfl, _⟩ := h
 exact ⟨n, rfl⟩
end Go.Proofs

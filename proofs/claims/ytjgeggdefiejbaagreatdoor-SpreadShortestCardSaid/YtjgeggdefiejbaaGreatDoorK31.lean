/-
  What functions of the program compute, stated as contracts over plain data; the conditions of each stand in its own statement.
-/
import Derived.Test.YtjgeggdefiejbaaGreatDoorK30
import Derived.Test.YtjgeggdefiejbaaGreatDoorK29
set_option linter.unusedSimpArgs false
set_option maxRecDepth 100000
set_option maxHeartbeats 8000000
namespace Go.Proofs
open Go Go.Tr
theorem equalI_c (a b : List Int) (hl : a.length ≤ 1000000) : Contract Tryz.prog 97 [.d (ints a), .d (ints b)] [] (.d (.bool (decide (a = b)))) [] [] := by
 refine contract_of Tryz.func97 rfl (fun E0 => ?_)
 refine awp.sound (g := .mk) (ow := []) (kp := (fun k => k==0||k==1||k==4||k==5||k==10||k==12||k==13||k==14||k==24)) ?_
 rw [Tryz.ntmps97]
 by_cases hlen : a.length = b.length
 ·simp -dsimp [ints, hlen]
  refine ALoop.of [] (fun k => k==0||k==1||k==4||k==5||k==10||k==12||k==13||k==14||k==24) (ι := { i : Nat // i ≤ b.length ∧ ∀ j, j < i → a[j]? = b[j]? }) (fun z => [(Pl.s 0, It.v (.d (ints a))), (Pl.s 1, It.v (.d (ints b))), (Pl.s 4, It.v (.d (.bool false))), (Pl.s 10, It.v (.d (.bool false))),
   (Pl.s 12, It.v (TV.d (D.int IntKind.i64 b.length))), (Pl.s 13, It.v (TV.d (D.int IntKind.i64 z.1)))]) (fun z => b.length - z.1) ⟨0, by omega, fun j h => by omega⟩ ?_ ?_
  ·exact GS.to (by simp [ints])
  ·rintro ⟨i, i1, i2⟩
   by_cases hi' : i < b.length
   ·have hi : i < a.length := by omega
    by_cases h : a[i] = b[i]
    ·simp -dsimp [ints, hi, hi', h, wrap_i64 (n := (i : Int) + 1) (by omega) (by omega)]
     try refine ⟨?_, ⟨by kernel_rfl⟩⟩
     exact ⟨⟨i + 1, by omega, fun j hj => by
      by_cases e : j = i
      ·subst e; rw [List.getElem?_eq_getElem hi, List.getElem?_eq_getElem hi', h]
      ·exact i2 j (by omega)⟩, GS.to (by simp [ints]), by simp; omega⟩
    ·simp -dsimp [ints, hi, hi', h, wrap_i64 (n := (i : Int) + 1) (by omega) (by omega)]
     try refine ⟨?_, ⟨by kernel_rfl⟩⟩
     refine Fin.of ?_
     have : a ≠ b := fun e => by subst e; exact h rfl
     simp [this]
   ·simp -dsimp [ints, hi']
    refine Fin.of ?_
    have : a = b := List.ext_getElem? fun j => by
     by_cases hj : j < i
     ·exact i2 j hj
     ·rw [List.getElem?_eq_none (by omega), List.getElem?_eq_none (by omega)]
    simp [this]
 ·have hlen' : ¬ (a.length : Int) = b.length := by omega
  simp -dsimp [ints, hlen, hlen']
  refine Fin.of ?_
  have : a ≠ b := fun e => hlen (by rw [e])
  simp [this]
theorem indexP1_c (l : List (List Int)) (hl : l.length ≤ 1000000) (f : FuncId) (ds : List D) (q : List Int → Bool) (hf : ∀ x, x ∈ l → Contract Tryz.prog f [.d (ints x), .ptr (.x 0) 0] [.box (ds.map .d)] (.d (.bool (q x))) [.box (ds.map .d)] []) (hok : fnOK Tryz.prog f = true) :
  Contract Tryz.prog 140 [.d (ps l), .clo f [.ptr (.x 0) 0]] [.box (ds.map .d)] (.d (.int .i64 (idxR q l))) [.box (ds.map .d)] [] := by
 refine contract_of Tryz.func140 rfl (fun E0 => ?_)
 refine awp.sound (g := .mk) (ow := []) (kp := (fun k => k==0||k==1||k==4||k==5||k==7||k==8||k==9||k==16)) ?_
 rw [Tryz.ntmps140]
 simp -dsimp [ps]
 refine ALoop.of [] (fun k => k==0||k==1||k==4||k==5||k==7||k==8||k==9||k==16) (ι := { i : Nat // i ≤ l.length ∧ ∀ a, a < i → ∀ x, l[a]? = some x → q x = false })
  (fun z => [(Pl.s 0, It.v (TV.d (ps l))), (Pl.s 1, It.v (TV.clo f [TV.ptr (Pl.x 0) 0])), (Pl.x 0, It.box (List.map TV.d ds)), (Pl.s 4, It.v (TV.d (D.int IntKind.i64 0))), (Pl.s 7, It.v (TV.d (D.int IntKind.i64 l.length))), (Pl.s 8, It.v (TV.d (D.int IntKind.i64 z.1)))]) (fun z => l.length - z.1) ⟨0, by omega, fun a h => by omega⟩ ?_ ?_
 ·exact GS.to (by simp [ps])
 ·rintro ⟨i, i1, i2⟩
  by_cases hi : i < l.length
  ·have hiz : (i : Int) < l.length := by omega
   have hx : l[i]? = some l[i] := List.getElem?_eq_getElem hi
   have hm : l[i] ∈ l := List.getElem_mem hi
   generalize l[i] = x at hx hm
   simp -dsimp [hiz, hx, ps, wrap_i64 (n := (i : Int) + 1) (by omega) (by omega)]
   and_intros
   all_goals try first | rfl | omega | exact ⟨by kernel_rfl⟩
   refine ACall.of (hf x hm) [.x 0] 0 ?_
   rcases (Bool.eq_false_or_eq_true (q x)).symm with h | h
   ·simp -dsimp [h, hok, wrap_i64 (n := (i : Int) + 1) (by omega) (by omega)]
    and_intros
    all_goals try first | rfl | omega | exact ⟨by kernel_rfl⟩
    exact ⟨⟨i + 1, by omega, fun a ha y hy => by
     by_cases e : a = i
     ·subst e; rw [hx] at hy; simp only [Option.some.injEq] at hy; subst hy; exact h
     ·exact i2 a (by omega) y hy⟩, GS.to (by simp [ps]), by simp; omega⟩
   ·simp -dsimp [h, hok]
    and_intros
    all_goals try first | rfl | omega | exact ⟨by kernel_rfl⟩
    refine Fin.of ?_
    simp [idx_at hx h i2]
  ·have hiz : ¬ (i : Int) < l.length := by omega
   simp -dsimp [hi, hiz, ps]
   refine Fin.of ?_
   simp
   exact (idx_no fun a ha => i2 a (by omega)).symm
theorem containsP1_c (l : List (List Int)) (hl : l.length ≤ 1000000) (f : FuncId) (ds : List D) (q : List Int → Bool) (hf : ∀ x, x ∈ l → Contract Tryz.prog f [.d (ints x), .ptr (.x 0) 0] [.box (ds.map .d)] (.d (.bool (q x))) [.box (ds.map .d)] []) (hok : fnOK Tryz.prog f = true) :
  Contract Tryz.prog 95 [.d (ps l), .clo f [.ptr (.x 0) 0]] [.box (ds.map .d)] (.d (.bool (l.any q))) [.box (ds.map .d)] [] := by
 refine contract_of Tryz.func95 rfl (fun E0 => ?_)
 refine awp.sound (g := .mk) (ow := []) (kp := (fun k => k==0||k==1||k==4)) ?_
 rw [Tryz.ntmps95]
 simp -dsimp
 refine ACall.of (indexP1_c l hl f ds q hf hok) [.x 0] 0 ?_
 simp -dsimp
 refine Fin.of ?_
 simp [idx_any]
theorem dist1_c (p q : List Int) (hp : p.length ≤ 1000000) : Contract Tryz.prog 96 [.d (ints q), .ptr (.x 0) 0] [.box ([ints p].map .d)] (.d (.bool (decide (p = q)))) [.box ([ints p].map .d)] [] := by
 refine contract_of Tryz.func96 rfl (fun E0 => ?_)
 refine awp.sound (g := .mk) (ow := []) (kp := (fun k => k==0||k==1||k==3)) ?_
 rw [Tryz.ntmps96]
 simp -dsimp
 refine ACall.of (equalI_c p q hp) [] 0 ?_
 simp -dsimp
 refine Fin.of ?_
 simp
def grtL (zs : List (List Int)) : Int := zs.foldl (fun m z => max m (z.getD 2 0)) 0
theorem greatest_c (zs : List (List Int)) (hz : ∀ z ∈ zs, z.length = 3) (hl : zs.length ≤ 1000000000) : Contract Tryz.prog 99 [.d (.sl (irow zs))] [] (.d (.int .i64 (grtL zs))) [] [] := by
 refine contract_of Tryz.func99 rfl (fun E0 => ?_)
 refine awp.sound (g := .mk) (ow := []) (kp := (fun k => k==0||k==2||k==3||k==5||k==6||k==7||k==8||k==9)) ?_
 rw [Tryz.ntmps99]
 simp -dsimp
 try refine ⟨?_, ⟨by kernel_rfl⟩⟩
 refine ALoop.of [] (fun k => k==0||k==2||k==3||k==5||k==6||k==7||k==8||k==9) (ι := { i : Nat // i ≤ zs.length })
  (fun z => [(Pl.s 3, It.v (TV.d (D.int IntKind.i64 (grtL (zs.take z.1))))), (Pl.s 6, It.v (TV.d (D.sl (irow zs)))), (Pl.s 7, It.v (TV.d (D.int IntKind.i64 zs.length))), (Pl.s 8, It.v (TV.d (D.int IntKind.i64 z.1)))])
  (fun z => zs.length - z.1) ⟨0, by omega⟩ ?_ ?_
 ·exact GS.to (by simp [grtL])
 ·rintro ⟨i, i1⟩
  by_cases hi : i < zs.length
  ·have hiz : (i : Int) < zs.length := by omega
   have hg : zs[i]? = some zs[i] := List.getElem?_eq_getElem hi
   have hm : zs[i].length = 3 := hz _ (List.getElem_mem hi)
   generalize zs[i] = y at hg hm
   obtain ⟨a, b, c, rfl⟩ : ∃ a b c, y = [a, b, c] := by
    match y, hm with
    | [a, b, c], _ => exact ⟨a, b, c, rfl⟩
   have hn : grtL (zs.take (i + 1)) = if c > grtL (zs.take i) then c else grtL (zs.take i) := by
    unfold grtL
    rw [List.take_add_one, hg]
    simp only [Option.toList_some, List.foldl_append, List.foldl_cons, List.foldl_nil]
    generalize (zs.take i).foldl (fun m z => max m (z.getD 2 0)) 0 = m
    show max m c = _
    split <;> omega
   have hgr : (irow zs)[i]? = some [D.int .i64 a, D.int .i64 b, D.int .i64 c] := by simp [irow, hg]
   simp -dsimp [hiz, hgr, wrap_i64 (n := (i : Int) + 1) (by omega) (by omega)]
   and_intros
   all_goals try first | omega | exact ⟨by kernel_rfl⟩
   exact ⟨⟨i + 1, by omega⟩, GS.to (by simp [hn, maxI]), by simp; omega⟩
  ·have hiz : ¬ (i : Int) < zs.length := by omega
   obtain rfl : i = zs.length := by omega
   simp -dsimp [hiz]
   refine Fin.of ?_
   simp
def dcnt (P : List (List Int)) : Nat → Int
 | 0 => 0
 | n + 1 => dcnt P n + if ((P.take n).any fun q => decide (P.getD n [] = q)) then 0 else 1
theorem dcnt_le (P : List (List Int)) : ∀ n : Nat, 0 ≤ dcnt P n ∧ dcnt P n ≤ n
 | 0 => by simp [dcnt]
 | n + 1 => by
   have := dcnt_le P n
   rw [dcnt]; split <;> push_cast <;> omega
theorem pgo_nil (l : List Tb) (r id : Int) : ∀ (n k : Nat) (acc : List (List Int)), (pgo l r id n k acc).2 ≠ 0 → (pgo l r id n k acc).1 = []
 | 0, k, acc, h => absurd rfl h
 | n + 1, k, acc, h => by
   rw [pgo] at h ⊢
   split
   ·rename_i h1; rw [if_pos h1] at h; exact pgo_nil l r id n (k + 1) _ h
   ·rfl
theorem pgo_mem (l : List Tb) (r id : Int) : ∀ (n k : Nat) (acc : List (List Int)), (∀ x ∈ acc, x.length ≤ l.length + 1) → ∀ x ∈ (pgo l r id n k acc).1, x.length ≤ l.length + 1
 | 0, k, acc, h => h
 | n + 1, k, acc, h => by
   rw [pgo]
   split
   ·refine pgo_mem l r id n (k + 1) _ fun x hx => ?_
    rcases List.mem_append.1 hx with hx | hx
    ·exact h x hx
    ·rw [List.mem_singleton] at hx; rw [hx]; exact pathV_len l r id k
   ·simp
theorem dist_c (l : List Tb) (hl : SmL l) (r id : Int) : Contract Tryz.prog 46 [.d (.sl (tbs l)), .d (.int .i64 r), .d (.int .i64 id)] [] (.tup [.d (.int .i64 (dcnt (spathR l r id).1 (spathR l r id).1.length)), .d (.int .i64 (spathR l r id).2)]) [] [] := by
 have h1 := paths_c l hl r id
 have h2 := spathR_len l r id
 have h3 := pgo_nil l r id 8 0 []
 have h4 := pgo_mem l r id 8 0 [] (by simp)
 have hn := hl.n
 change (spathR l r id).2 ≠ 0 → _ at h3
 change ∀ x ∈ (spathR l r id).1, _ at h4
 change _ → (spathR l r id).1 = [] at h3
 generalize spathR l r id = G at h1 h2 h3 h4
 obtain ⟨G, e⟩ := G
 simp only at h2 h3 h4
 refine contract_of Tryz.func46 rfl (fun E0 => ?_)
 refine awp.sound (g := .mk) (ow := []) (kp := (fun k => k==0||k==1||k==2||k==6||k==7||k==8||k==9||k==10||k==11||k==12||k==21||k==23||k==24||k==25||k==26||k==35)) ?_
 rw [Tryz.ntmps46]
 simp -dsimp
 try refine ⟨?_, ⟨by kernel_rfl⟩⟩
 refine ACall.of h1 [] 0 ?_
 by_cases he : e = 0
 ·simp -dsimp [he, ps]
  and_intros
  all_goals try first | omega | exact ⟨by kernel_rfl⟩
  refine ALoop.of [] (fun k => k==0||k==1||k==2||k==6||k==7||k==8||k==9||k==10||k==11||k==12||k==21||k==23||k==24||k==25||k==26||k==35) (ι := { i : Nat // i ≤ G.length })
   (fun z => [(Pl.s 7, It.v (TV.d (D.int IntKind.i64 0))), (Pl.s 8, It.v (TV.d (ps G))), (Pl.s 10, It.v (TV.d (D.int IntKind.i64 (dcnt G z.1)))), (Pl.s 23, It.v (TV.d (ps G))), (Pl.s 24, It.v (TV.d (D.int IntKind.i64 G.length))), (Pl.s 25, It.v (TV.d (D.int IntKind.i64 z.1)))])
   (fun z => G.length - z.1) ⟨0, by omega⟩ ?_ ?_
  ·exact GS.to (by simp [ps, dcnt])
  ·rintro ⟨i, i1⟩
   by_cases hi : i < G.length
   ·have hiz : (i : Int) < G.length := by omega
    have hg : G[i]? = some G[i] := List.getElem?_eq_getElem hi
    have hgl := h4 G[i] (List.getElem_mem hi)
    generalize G[i] = p at hg hgl
    have hgd : G.getD i [] = p := by rw [List.getD_eq_getElem?_getD, hg]; rfl
    have hds : dcnt G (i + 1) = dcnt G i + if ((G.take i).any fun q => decide (p = q)) then 0 else 1 := by rw [dcnt, hgd]
    have hdl := dcnt_le G i
    have hc := containsP1_c (G.take i) (by rw [List.length_take]; omega) 96 [ints p] (fun q => decide (p = q)) (fun x _ => dist1_c p x (by omega)) (by simp)
    simp only [ps, List.map_take] at hc
    simp -dsimp [hiz, hg, ps]
    and_intros
    all_goals try first | omega | exact ⟨by kernel_rfl⟩
    refine ACall.of hc [.o 12] 0 ?_
    rcases (Bool.eq_false_or_eq_true ((G.take i).any fun q => decide (p = q))).symm with hb | hb
    ·rw [hb] at hds
     simp -dsimp [hb, wrap_i64 (n := (i : Int) + 1) (by omega) (by omega), wrap_i64 (n := dcnt G i + 1) (by omega) (by omega)]
     and_intros
     all_goals try first | omega | exact ⟨by kernel_rfl⟩
     exact ⟨⟨i + 1, by omega⟩, GS.to (by simp [hds, ps]), by simp; omega⟩
    ·rw [hb] at hds
     simp -dsimp [hb, wrap_i64 (n := (i : Int) + 1) (by omega) (by omega)]
     and_intros
     all_goals try first | omega | exact ⟨by kernel_rfl⟩
     exact ⟨⟨i + 1, by omega⟩, GS.to (by simp [hds, ps]), by simp; omega⟩
   ·have hiz : ¬ (i : Int) < G.length := by omega
    obtain rfl : i = G.length := by omega
    simp -dsimp [hiz]
    refine Fin.of ?_
    simp [he]
 ·obtain rfl : G = [] := h3 he
  simp -dsimp [he, ps]
  and_intros
  all_goals try first | omega | exact ⟨by kernel_rfl⟩
  refine Fin.of ?_
  simp [dcnt]
end Go.Proofs

set_option linter.unusedSimpArgs false
set_option maxRecDepth 100000
set_option maxHeartbeats 8000000
namespace Go.Proofs
open Go Go.Tr
def sqG : Topo := ⟨[⟨1, true⟩, ⟨2, true⟩, ⟨3, true⟩, ⟨4, true⟩], [⟨1, 2, 1, 1, 0⟩, ⟨1, 3, 1, 1, 0⟩, ⟨2, 4, 1, 1, 0⟩, ⟨3, 4, 1, 1, 0⟩]⟩
def sqP : Pn := ⟨0, 8, [⟨4, 1⟩]⟩
def sqL : List Tb := tabs sqG sqP sqG.rs
def sqQ : Pk := ⟨1, 0, 0, 8, 9, 0, 0, 0, 1#64, ⟨#[]⟩⟩
theorem sqP_ok : planB sqP = true := planB_ok (by decide) (by decide) (fun i j hj hi => by
 have hi : i < 1 := hi
 omega)
theorem sqG_ok : chkT sqG = 0 := by decide +kernel
theorem square_c : Contract Tryz.prog 98 [] [] (.d (.sl (tbs sqL))) [] [] := by
 have ha := all11_c sqG ⟨by simp [sqG], by simp [sqG]⟩ sqP (by simp [sqP])
 rw [all11_eq sqG_ok sqP_ok] at ha
 change Contract _ _ _ _ (allT sqL 0) _ _ at ha
 simp only [allT, topT, planT] at ha
 rw [show List.map Tb.cs sqL = tbs sqL from rfl] at ha
 generalize sqL = L at ha ⊢
 simp only [sqG, sqP, rts, lks, eds, List.map, Rt.cs, Lk.cs, Ed.cs] at ha
 refine contract_of Tryz.func98 rfl (fun E0 => ?_)
 refine awp.sound (g := .mk) (ow := []) (kp := (fun k => k==0||k==1||k==2)) ?_
 rw [Tryz.ntmps98]
 simp -dsimp
 try refine ⟨?_, ⟨by kernel_rfl⟩⟩
 refine ACall.of ha [] 0 ?_
 simp -dsimp
 try refine ⟨?_, ⟨by kernel_rfl⟩⟩
 refine Fin.of ?_
 simp
theorem sqS : SmL sqL := ⟨by decide +kernel, fun b hb => chk_sm (tabs_chk sqG_ok sqP_ok b hb)⟩
def sqPs : List (List Int) := [[2, 4], [3, 4], [2, 4], [3, 4], [2, 4], [3, 4], [2, 4], [3, 4]]
theorem sq_paths : spathR sqL 1 1 = (sqPs, 0) := by kernel_rfl
def sqA : List (List Int × Int) := [([1, 2], 4), ([2, 4], 4), ([1, 3], 4), ([3, 4], 4)]
theorem sq_lgo : lgo sqL 1 sqQ 8 0 [] = (sqA, 0) := by kernel_rfl
def sqLd : List (List Int) := [[1, 2, 4], [1, 3, 4], [2, 4, 4], [3, 4, 4]]
theorem sq_ld : ldR sqA = sqLd := by
 have hu : AccOK sqA 100 := ⟨by decide, by decide, by decide, by decide⟩
 have hp : (sqA.map rowK).Perm sqLd := by decide
 have h1 : ldR sqA = (sqA.map rowK).mergeSort leL := rfl
 rw [h1, sort_leL hp (row_one hu), List.mergeSort_of_pairwise (by decide)]
theorem sq_loads : loadsR sqL 1 sqQ = (sqLd, 0) := by
 unfold loadsR
 rw [sq_lgo]
 simp only [if_true, sq_ld]
theorem awake15_c : Contract Tryz.prog 48 [] [] (.d (.bool true)) [] [] := by
 have h1 := paths_c sqL sqS 1 1
 have h2 := dist_c sqL sqS 1 1
 have h3 := loads_c sqL sqS 1 sqQ
 rw [sq_paths] at h1 h2
 rw [sq_loads] at h3
 have e2 : dcnt sqPs sqPs.length = 2 := by decide +kernel
 rw [show dcnt (sqPs, (0 : Int)).1 (sqPs, (0 : Int)).1.length = 2 from e2] at h2
 have h4 := greatest_c sqLd (by decide) (by decide)
 rw [show grtL sqLd = 4 by decide +kernel] at h4
 have h5 := ints04_c [2, 4] [2, 4] (by simp)
 have h6 := ints04_c [3, 4] [3, 4] (by simp)
 simp only [pkT, sqQ, Pk.cs, List.map, sqPs, ps, sqLd, irow, ints] at h1 h2 h3 h4 h5 h6
 have hs := square_c
 generalize sqL = L at h1 h2 h3 hs
 refine contract_of Tryz.func48 rfl (fun E0 => ?_)
 refine awp.sound (g := .mk) (ow := []) (kp := (fun k => k==0||k==1||k==2||k==3||k==4||k==5||k==6)) ?_
 rw [Tryz.ntmps48]
 simp -dsimp
 try refine ⟨?_, ⟨by kernel_rfl⟩⟩
 refine ACall.of hs [] 0 ?_
 simp -dsimp
 try refine ⟨?_, ⟨by kernel_rfl⟩⟩
 refine ACall.of h1 [] 0 ?_
 simp -dsimp
 and_intros
 all_goals try first | omega | exact ⟨by kernel_rfl⟩ | rfl
 refine ACall.of hs [] 0 ?_
 simp -dsimp
 and_intros
 all_goals try first | omega | exact ⟨by kernel_rfl⟩ | rfl
 refine ACall.of h2 [] 0 ?_
 simp -dsimp
 and_intros
 all_goals try first | omega | exact ⟨by kernel_rfl⟩ | rfl
 refine ACall.of hs [] 0 ?_
 simp -dsimp
 and_intros
 all_goals try first | omega | exact ⟨by kernel_rfl⟩ | rfl
 refine ACall.of h3 [] 0 ?_
 as_aux_lemma =>
 simp -dsimp
 and_intros
 all_goals try first | omega | exact ⟨by kernel_rfl⟩ | rfl
 refine ACall.of h5 [] 0 ?_
 simp -dsimp
 and_intros
 all_goals try first | omega | exact ⟨by kernel_rfl⟩ | rfl
 refine ACall.of h6 [] 0 ?_
 simp -dsimp
 and_intros
 all_goals try first | omega | exact ⟨by kernel_rfl⟩ | rfl
 refine ACall.of h4 [] 0 ?_
 simp -dsimp
 and_intros
 all_goals try first | omega | exact ⟨by kernel_rfl⟩ | rfl
 refine Fin.of ?_
 simp
end Go.Proofs

set_option linter.unusedSimpArgs false
set_option maxRecDepth 100000
set_option maxHeartbeats 8000000
namespace Go.Proofs
open Go Go.Tr
end Go.Proofs

set_option linter.unusedSimpArgs false
set_option maxRecDepth 100000
set_option maxHeartbeats 8000000
namespace Go.Proofs
open Go Go.Tr
end Go.Proofs

set_option linter.unusedSimpArgs false
set_option maxRecDepth 100000
set_option maxHeartbeats 4000000
namespace Go.Proofs
open Go Go.Tr
def fldB (en ig pr : Int) (py : ByteArray) : Bool := insB en 1023 && (insB ig 256 && (insB pr 7 && decide (py.size ≤ 64)))
structure FldOK (e0 : Int) (p : Pk) : Prop where
 f : fldB p.ent p.ing p.proto p.pay = true
 e : p.ent = e0
section
variable {en ig pr e0 : Int} {py : ByteArray} (hc : fldB en ig pr py = true)
include hc
omit hc in
theorem FldOK.setB {p : Pk} (h : FldOK e0 p) (R : BitVec 64) : FldOK e0 (p.setB R) := ⟨h.f, h.e⟩
omit hc in
theorem FldOK.mask {p : Pk} (h : FldOK e0 p) (m : BitVec 64) : FldOK e0 (pkMask p m) := ⟨h.f, h.e⟩
end
end Go.Proofs

set_option linter.unusedSimpArgs false
set_option linter.unusedVariables false
set_option maxRecDepth 100000
namespace Go.Proofs
open Go Go.Tr
structure ForV (p : Pn) (q : Pk) : Prop where
 ok : q.ok = true
 mode : q.mode = 1
 subd : q.subd = p.subd
 len : q.len = p.len
theorem TabV.fit {p : Pn} {rs : List Int} {l : List Tb} (h : TabV p rs l) {q : Pk} (hq : ForV p q) : FitL l q :=
 ⟨hq.ok, fun b hb => ⟨h.ck b hb, (h.sd b hb).1.trans hq.subd.symm, (h.sd b hb).2.trans hq.len.symm, hq.ok, by rw [hq.mode]; decide⟩⟩
theorem TabV.run {p : Pn} {rs : List Int} {l : List Tb} (h : TabV p rs l) {q : Pk} (hq : ForV p q) {r : Int} (hr : r ∈ rs) : runR l q r = (runG l (wt q) [(r, q)] tr0, 0) ∧ (findT l r).isSome := by
 have hs := (h.rs r).2 hr
 refine ⟨?_, hs⟩
 obtain ⟨b, hb⟩ := Option.isSome_iff_exists.1 hs
 have hsd := h.sd b (findT_mem hb).1
 unfold runR
 rw [if_neg (by simp [h.all, hq.ok]), hb]
 simp only
 rw [if_neg (by rw [hq.mode]; decide), if_neg (by rw [hsd.1, hsd.2, hq.subd, hq.len]; simp)]
theorem TabV.sm {p : Pn} {rs : List Int} {l : List Tb} (h : TabV p rs l) : SmL l := ⟨by have := h.n; omega, fun b hb => chk_sm (h.ck b hb)⟩
end Go.Proofs

set_option linter.unusedSimpArgs false
set_option maxRecDepth 100000
set_option maxHeartbeats 4000000
namespace Go.Proofs
open Go Go.Tr
end Go.Proofs

set_option linter.unusedSimpArgs false
set_option maxRecDepth 100000
set_option maxHeartbeats 8000000
namespace Go.Proofs
open Go Go.Tr
end Go.Proofs

set_option linter.unusedSimpArgs false
set_option maxRecDepth 100000
set_option maxHeartbeats 4000000
namespace Go.Proofs
open Go Go.Tr
end Go.Proofs

set_option linter.unusedSimpArgs false
namespace Go.Proofs
open Go Go.Tr
end Go.Proofs

set_option linter.unusedSimpArgs false
set_option maxRecDepth 100000
set_option maxHeartbeats 4000000
namespace Go.Proofs
open Go Go.Tr
open Classical in
noncomputable def costR (g : Topo) (f t : Int) : Option Int := if chkT g = 0 ∧ hasR g.rs f = true ∧ hasR g.rs t = true ∧ dst g t f ≠ far then some (dst g t f) else none
theorem cost06_c (g : Topo) (hg : g.Sm) (f t : Int) : Contract Tryz.prog 50 [topT g, .d (.int .i64 f), .d (.int .i64 t)] [] (priceT (costR g f t)) [] [] := by
 have h1 := has05x_c g hg f
 have h2 := has05x_c g hg t
 simp only [topT] at h1 h2
 refine contract_of Tryz.func50 rfl (fun E0 => ?_)
 refine awp.sound (g := .mk) (ow := []) (kp := (fun k => k==0||k==1||k==2||k==3||k==6||k==7||k==8||k==18||k==26)) ?_
 rw [Tryz.ntmps50]
 simp -dsimp [topT]
 try refine ⟨?_, ⟨by kernel_rfl⟩⟩
 refine ACall.of h1 [] 0 ?_
 rcases (Bool.eq_false_or_eq_true (decide (chkT g = 0) && hasR g.rs f)).symm with a1 | a1
 ·have e : costR g f t = none := by
   rw [costR, if_neg]; rintro ⟨h1, h2, _⟩; simp [h1, h2] at a1
  rw [e]
  simp -dsimp [a1]
  try refine ⟨?_, ⟨by kernel_rfl⟩⟩
  refine Fin.of ?_
  simp [priceT]
 have hc : chkT g = 0 := by simp at a1; exact a1.1
 have hf : hasR g.rs f = true := by simp at a1; exact a1.2
 rcases (Bool.eq_false_or_eq_true (decide (chkT g = 0) && hasR g.rs t)).symm with a2 | a2
 ·have e : costR g f t = none := by
   rw [costR, if_neg]; rintro ⟨h1, _, h2, _⟩; simp [h1, h2] at a2
  rw [e]
  simp -dsimp [a1]
  try refine ⟨?_, ⟨by kernel_rfl⟩⟩
  refine ACall.of h2 [] 0 ?_
  simp -dsimp [a2]
  try refine ⟨?_, ⟨by kernel_rfl⟩⟩
  refine Fin.of ?_
  simp [priceT]
 have ht : hasR g.rs t = true := by simp at a2; exact a2.2
 have hO := chkT_zero hc
 have h3 := to06_c g hO t
 have h4 := at06_c g hg (dist g t) (by rw [dist_len]; exact Nat.le_refl _) f
 have e3 : atR g (dist g t) f = dst g t f := rfl
 rw [e3] at h4
 simp only [topT, ints] at h3 h4
 simp -dsimp [a1]
 try refine ⟨?_, ⟨by kernel_rfl⟩⟩
 refine ACall.of h2 [] 0 ?_
 simp -dsimp [a2]
 try refine ⟨?_, ⟨by kernel_rfl⟩⟩
 refine ACall.of h3 [] 0 ?_
 simp -dsimp
 try refine ⟨?_, ⟨by kernel_rfl⟩⟩
 refine ACall.of h4 [] 0 ?_
 by_cases hd : dst g t f = 1073741824
 ·have e : costR g f t = none := by
   rw [costR, if_neg]; rintro ⟨_, _, _, h⟩; exact h hd
  rw [e]
  simp -dsimp [eq_true hd]
  try refine ⟨?_, ⟨by kernel_rfl⟩⟩
  refine Fin.of ?_
  simp [priceT]
 ·have e : costR g f t = some (dst g t f) := by rw [costR, if_pos ⟨hc, hf, ht, hd⟩]
  rw [e]
  simp -dsimp [eq_false hd]
  try refine ⟨?_, ⟨by kernel_rfl⟩⟩
  refine Fin.of ?_
  simp [priceT]
end Go.Proofs

set_option linter.unusedSimpArgs false
namespace Go.Proofs
open Go Go.Tr
theorem path_dom {g : Topo} (hg : chkT g = 0) (hA : AllCap g) {p : Pn} (hp : planB p = true) {e : Ed} (he : e ∈ p.es) {r : Int} (hr : hasR g.rs r = true) (her : hasR g.rs e.r = true) {pl : Int} (hpl : 0 ≤ pl ∧ pl ≤ 7) :
  (costR g r e.r = some (dst g e.r r) ∧ ∃ ws, pathV (tabs g p g.rs) r e.id pl = (ws, 0) ∧ lastR r ws = e.r ∧ costW g r ws = some (dst g e.r r)) ∨
  (costR g r e.r = none ∧ e.r ≠ r ∧ pathV (tabs g p g.rs) r e.id pl = ([], 9)) := by
 have hO := chkT_zero hg
 have hall := tabs_all hg hp
 have cr := hA.cap hO hr
 have ce := hA.cap hO her
 by_cases hd : dst g e.r r < far
 ·refine .inl ⟨by unfold costR; rw [if_pos ⟨hg, hr, her, by omega⟩], ?_⟩
  obtain ⟨ws, hD⟩ := (dl_iff (pl := pl) hg hp he).2 ⟨ce, cr, hd⟩
  obtain ⟨e', he', hid, hl, hc⟩ := dl_cost hg hA hp hD
  obtain ⟨e2, he2, hid2, hl2, _, _, _⟩ := dl_wrong hg hp hD
  refine ⟨ws, path_of_dl hall hpl hD, ?_⟩
  obtain rfl : e' = e := plan_inj hp he' he hid
  exact ⟨hl, hc⟩
 ·have hf : dst g e.r r = far := by have := dst_bd hO e.r r; omega
  refine .inr ⟨by unfold costR; rw [if_neg (fun h => h.2.2.2 hf)], ?_⟩
  rcases build_hop hg hp he hr pl with ⟨a1, a2⟩ | ⟨a1, a2, a3, a4⟩ | ⟨a1, a2, a3⟩
  ·rw [a1, dst_self hO hr] at hd
   exact absurd (by decide) hd
  ·exact absurd a3 hd
  ·refine ⟨a1, ?_⟩
   unfold pathV
   rw [if_neg (by simp [hall]), if_neg (by simp [hpl]), pathG, if_neg (by simp), tabs_find hO, if_pos cr]
   simp only
   rw [if_pos a3]
end Go.Proofs

set_option linter.unusedSimpArgs false
namespace Go.Proofs
open Go Go.Tr
theorem begun_row {x : Rw} (h0 : 0 < x.nx.length) (h8 : x.nx.length ≤ 8) (ha : x.nx.Pairwise (· < ·)) : ((List.range 8).map fun k : Nat => hopR x k).foldl insI [] = x.nx := by
 have h1 := insFold ((List.range 8).map fun k : Nat => hopR x k) [] List.Pairwise.nil
 refine asc_ext h1.1 ha fun y => ?_
 rw [h1.2]
 simp only [List.not_mem_nil, false_or, List.mem_map, List.mem_range]
 have hne : ¬ x.nx.length = 0 := by omega
 constructor
 ·rintro ⟨k, hk, rfl⟩
  unfold hopR
  rw [if_neg hne]
  have hlt : ((k : Int) % x.nx.length).toNat < x.nx.length := by
   have := Int.emod_lt_of_pos (k : Int) (show (0 : Int) < x.nx.length by omega)
   have := Int.emod_nonneg (k : Int) (show (x.nx.length : Int) ≠ 0 by omega)
   omega
  rw [List.getD_eq_getElem?_getD, List.getElem?_eq_getElem hlt]
  exact List.getElem_mem hlt
 ·intro hy
  obtain ⟨i, hi, rfl⟩ := List.getElem_of_mem hy
  refine ⟨i, by omega, ?_⟩
  unfold hopR
  rw [if_neg hne]
  have : ((i : Int) % x.nx.length).toNat = i := by
   rw [Int.emod_eq_of_lt (by omega) (by omega)]; omega
  rw [this, List.getD_eq_getElem?_getD, List.getElem?_eq_getElem hi]
  rfl
theorem dl_first {l : List Tb} {id pl r : Int} {ws : List Int} (h : Dl l id pl r ws) {b : Tb} (hb : findT l r = some b) {y : Int} {us : List Int} (hw : ws = y :: us) : y = hopB b id pl := by
 cases h with
 | here h1 h2 h3 => simp at hw
 | next h1 h2 h3 h4 h5 =>
   rw [hb] at h1
   obtain rfl := Option.some.inj h1
   simp only [List.cons.injEq] at hw
   rw [← hw.1, h2]
end Go.Proofs

set_option linter.unusedSimpArgs false
namespace Go.Proofs
open Go Go.Tr
theorem path_dom' {g : Topo} (hg : chkT g = 0) (hA : AllCap g) {p : Pn} (hp : planB p = true) {e : Ed} (he : e ∈ p.es) {r : Int} (hr : hasR g.rs r = true) {pl : Int} (hpl : 0 ≤ pl ∧ pl ≤ 7) :
  (costR g r e.r = some (dst g e.r r) ∧ ∃ ws, pathV (tabs g p g.rs) r e.id pl = (ws, 0) ∧ lastR r ws = e.r ∧ costW g r ws = some (dst g e.r r) ∧ Dl (tabs g p g.rs) e.id pl r ws) ∨
  (costR g r e.r = none ∧ e.r ≠ r ∧ pathV (tabs g p g.rs) r e.id pl = ([], 9)) := by
 have hO := chkT_zero hg
 have hall := tabs_all hg hp
 have cr := hA.cap hO hr
 by_cases her : hasR g.rs e.r = true
 ·rcases path_dom hg hA hp he hr her hpl with ⟨h1, ws, h2, h3, h4⟩ | h
  ·refine .inl ⟨h1, ws, h2, h3, h4, ?_⟩
   have h0 : (pathV (tabs g p g.rs) r e.id pl).2 = 0 := by rw [h2]
   have hr0 : r ≠ 0 := by
    obtain ⟨x, hx, rfl, _⟩ := (capR_iff hO).1 cr
    have h1 := List.any_eq_false.1 hO.ids x hx
    rw [inB_dec] at h1
    have h2 : inR x.id 1 99 := by simpa using h1
    have h3 : 1 ≤ x.id := h2.1
    omega
   obtain ⟨us, hD, hu⟩ := dl_of_path h0 hr0
   rw [h2] at hu
   obtain rfl := (Prod.mk.inj hu).1
   exact hD
  ·exact .inr h
 ·have hne : e.r ≠ r := fun h => her (h ▸ hr)
  refine .inr ⟨by unfold costR; rw [if_neg (fun h => her h.2.2.1)], hne, ?_⟩
  rcases build_hop hg hp he hr pl with ⟨a1, a2⟩ | ⟨a1, a2, a3, a4⟩ | ⟨a1, a2, a3⟩
  ·exact absurd a1 hne
  ·exact absurd (cap_has hO a2) her
  ·unfold pathV
   rw [if_neg (by simp [hall]), if_neg (by simp [hpl]), pathG, if_neg (by simp), tabs_find hO, if_pos cr]
   simp only
   rw [if_pos a3]
end Go.Proofs

set_option linter.unusedSimpArgs false
namespace Go.Proofs
open Go Go.Tr
theorem pgo_all {l : List Tb} {r id : Int} : ∀ (n k : Nat) (acc : List (List Int)), (∀ i : Nat, k ≤ i → i < k + n → (pathV l r id i).2 = 0) → pgo l r id n k acc = (acc ++ (List.range' k n).map (fun i : Nat => (pathV l r id i).1), 0)
 | 0, k, acc, _ => by simp [pgo]
 | n + 1, k, acc, h => by
   rw [pgo, if_pos (h k (Nat.le_refl _) (by omega)), pgo_all n (k + 1) _ fun i h1 h2 => h i (by omega) (by omega), List.range'_succ]
   simp
theorem paths_dom {g : Topo} (hg : chkT g = 0) (hA : AllCap g) {p : Pn} (hp : planB p = true) {e : Ed} (he : e ∈ p.es) {r : Int} (hr : hasR g.rs r = true) :
  (costR g r e.r = some (dst g e.r r) ∧ (spathR (tabs g p g.rs) r e.id).2 = 0 ∧ (spathR (tabs g p g.rs) r e.id).1.length = 8 ∧
   ∀ k : Nat, k < 8 → ∃ ws, (spathR (tabs g p g.rs) r e.id).1[k]? = some ws ∧ lastR r ws = e.r ∧ costW g r ws = some (dst g e.r r) ∧ Dl (tabs g p g.rs) e.id k r ws) ∨
  (costR g r e.r = none ∧ e.r ≠ r ∧ spathR (tabs g p g.rs) r e.id = ([], 9)) := by
 rcases path_dom' hg hA hp he hr (pl := 0) ⟨by omega, by omega⟩ with ⟨h1, h2⟩ | ⟨h1, h2, h3⟩
 ·have hk : ∀ k : Nat, k < 8 → ∃ ws, pathV (tabs g p g.rs) r e.id k = (ws, 0) ∧ lastR r ws = e.r ∧ costW g r ws = some (dst g e.r r) ∧ Dl (tabs g p g.rs) e.id k r ws := fun k hk => by
   rcases path_dom' hg hA hp he hr (pl := (k : Int)) ⟨by omega, by omega⟩ with ⟨_, h⟩ | ⟨h, _⟩
   ·exact h
   ·rw [h1] at h; simp at h
  have hs : spathR (tabs g p g.rs) r e.id = ([] ++ (List.range' 0 8).map (fun i : Nat => (pathV (tabs g p g.rs) r e.id i).1), 0) := pgo_all 8 0 [] fun i _ hi => by
   obtain ⟨ws, h, _⟩ := hk i (by omega)
   rw [h]
  refine .inl ⟨h1, by rw [hs], by rw [hs]; simp, fun k hk8 => ?_⟩
  obtain ⟨ws, a1, a2, a3, a4⟩ := hk k hk8
  refine ⟨ws, ?_, a2, a3, a4⟩
  rw [hs, List.nil_append, List.getElem?_map, List.getElem?_range' (by omega)]
  simp [a1]
 ·refine .inr ⟨h1, h2, ?_⟩
  unfold spathR
  rw [show (8 : Nat) = 7 + 1 from rfl, pgo, if_neg (by rw [show ((0 : Nat) : Int) = 0 from rfl, h3]; decide)]
  rw [show ((0 : Nat) : Int) = 0 from rfl, h3]
end Go.Proofs

set_option linter.unusedSimpArgs false
set_option linter.unusedVariables false
namespace Go.Proofs
open Go Go.Tr
theorem costW_at {g : Topo} (hg : g.Ok) : ∀ {ws : List Int} {r v : Int} {j : Nat} {w : Int}, costW g r ws = some v → ws[j]? = some w →
  ∃ c q, costW g r (ws.take j) = some c ∧ price g.ls (lastR r (ws.take j)) w = some q ∧ costW g r (ws.take (j + 1)) = some (c + q) ∧ lastR r (ws.take (j + 1)) = w ∧ 0 ≤ c ∧ 1 ≤ q ∧ c + q ≤ v
 | [], _, _, _, _, _, hj => by simp at hj
 | h :: ws, r, v, j, w, hc, hj => by
   rw [costW] at hc
   cases hp : price g.ls r h with
   | none => simp [hp] at hc
   | some a =>
     cases hq : costW g h ws with
     | none => simp [hp, hq] at hc
     | some b =>
       simp only [hp, hq, Option.some.injEq] at hc
       have ha := price_le hg hp
       have hb := (costW_walk hq).nonneg hg
       cases j with
       | zero =>
         obtain rfl : h = w := by simpa using hj
         refine ⟨0, a, by simp [costW], by simpa [lastR] using hp, by simp [costW, hp], by simp [lastR], by omega, by omega, by omega⟩
       | succ j =>
         obtain ⟨c, q, h1, h2, h3, h4, h5, h6, h7⟩ := costW_at hg hq (show ws[j]? = some w by simpa using hj)
         refine ⟨a + c, q, ?_, ?_, ?_, ?_, by omega, by omega, by omega⟩
         ·simp [costW, hp, h1]
         ·simpa [lastR] using h2
         ·rw [List.take_succ_cons, costW, hp, h3]; simp only [Option.some.injEq]; omega
         ·rw [List.take_succ_cons, lastR]; exact h4
def stp (b : List Int) (ws : List Int) : List Int := match ws with
 | [] => b
 | y :: _ => insI b y
def bgn (l : List (List Int)) : List Int := l.foldl stp []
theorem bgn_take {l : List (List Int)} {k : Nat} {ws : List Int} (h : l[k]? = some ws) : bgn (l.take (k + 1)) = stp (bgn (l.take k)) ws := by
 rw [bgn, bgn, List.take_add_one, h]; simp
theorem bgn_len (l : List (List Int)) : (bgn l).length ≤ l.length := by
 have : ∀ (l : List (List Int)) (b : List Int), (l.foldl stp b).length ≤ b.length + l.length := by
  intro l
  induction l with
  | nil => intro b; simp
  | cons w l ih =>
    intro b
    have h1 := ih (stp b w)
    have h2 : (stp b w).length ≤ b.length + 1 := by
     cases w with
     | nil => simp [stp]
     | cons y w => exact insI_len b y
    simp only [List.foldl_cons, List.length_cons]
    omega
 have h := this l []
 simpa [bgn] using h
theorem bgn_map {l : List (List Int)} {f : Nat → Int} (h : ∀ k, k < l.length → ∃ ws, l[k]? = some ws ∧ ws.head? = some (f k)) : bgn l = ((List.range l.length).map f).foldl insI [] := by
 have : ∀ n, n ≤ l.length → bgn (l.take n) = ((List.range n).map f).foldl insI [] := by
  intro n
  induction n with
  | zero => intro _; simp [bgn]
  | succ n ih =>
    intro hn
    obtain ⟨ws, h1, h2⟩ := h n (by omega)
    rw [bgn_take h1, ih (by omega), List.range_succ, List.map_append, List.foldl_append]
    cases ws with
    | nil => simp at h2
    | cons y ws =>
      obtain rfl : y = f n := by simpa using h2
      simp [stp]
 have h2 := this l.length (Nat.le_refl _)
 rwa [List.take_length] at h2
theorem short_edge {g : Topo} (hg : chkT g = 0) (hA : AllCap g) {p : Pn} (hp : planB p = true) {e : Ed} (he : e ∈ p.es) {r : Int} (hr : hasR g.rs r = true) :
  (∃ d : Int, costR g r e.r = some d ∧ d ≤ 1073741824 ∧ (spathR (tabs g p g.rs) r e.id).2 = 0 ∧ (spathR (tabs g p g.rs) r e.id).1.length = 8 ∧
   (∀ k : Nat, k < 8 → ∃ ws, (spathR (tabs g p g.rs) r e.id).1[k]? = some ws ∧ lastR r ws = e.r ∧ costW g r ws = some d) ∧
   (e.r ≠ r → (bRow g r e).nx.length ≤ 8 → bgn (spathR (tabs g p g.rs) r e.id).1 = (bRow g r e).nx)) ∨
  (costR g r e.r = none ∧ e.r ≠ r ∧ spathR (tabs g p g.rs) r e.id = ([], 9)) := by
 have hO := chkT_zero hg
 rcases paths_dom hg hA hp he hr with ⟨h1, h2, h3, h4⟩ | h
 ·refine .inl ⟨dst g e.r r, h1, ?_, h2, h3, fun k hk => ?_, fun hne h8 => ?_⟩
  ·have := (dst_bd hO e.r r).2
   unfold far at this
   omega
  ·obtain ⟨ws, a1, a2, a3, _⟩ := h4 k hk
   exact ⟨ws, a1, a2, a3⟩
  ·have cr := hA.cap hO hr
   have hf : findT (tabs g p g.rs) r = some (buildT g p r) := by rw [tabs_find hO, if_pos cr]
   have hb := bgn_map (l := (spathR (tabs g p g.rs) r e.id).1) (f := fun k => hopR (bRow g r e) k) fun k hk => by
    rw [h3] at hk
    obtain ⟨ws, a1, a2, a3, a4⟩ := h4 k hk
    refine ⟨ws, a1, ?_⟩
    cases hw : ws with
    | nil => subst hw; simp only [lastR] at a2; exact absurd a2.symm hne
    | cons y us =>
      have := dl_first a4 hf hw
      rw [this, hopB, build_row hp he, Option.getD_some]
      rfl
   rw [hb, h3]
   have hrow : (bRow g r e).nx = if chkT g = 0 ∧ capR g.rs e.r = true then hops g r e.r else [] := by simp only [bRow, if_neg hne]
   have hn0 : 0 < (bRow g r e).nx.length := by
    obtain ⟨ws, a1, a2, a3, a4⟩ := h4 0 (by omega)
    cases a4 with
    | here b1 b2 b3 => simp only [lastR] at a2; exact absurd a2.symm hne
    | next b1 b2 b3 b4 b5 =>
      rw [hf] at b1
      obtain rfl := Option.some.inj b1
      rw [hopB, build_row hp he, Option.getD_some] at b2
      refine Nat.pos_of_ne_zero fun e0 => b3 ?_
      rw [← b2, hopR, if_pos e0]
   refine begun_row hn0 h8 ?_
   rw [hrow]
   split
   ·exact (hops_ok g r e.r).1
   ·exact List.Pairwise.nil
 ·exact .inr h
end Go.Proofs

/-
  What functions of the program compute, stated as contracts over plain data; the conditions of each stand in its own statement.
-/
import Derived.Test.YtffjbciladpdlaaGreatZN30
import Derived.Test.YtffjbciladpdlaaGreatZN31
import Derived.Test.YtffjbciladpdlaaGreatZN14
import Derived.Shelf.SlGeneric
import Derived.Shelf.SortM.SortNone
import Derived.Shelf.SortM.Plain
import Derived.Shelf.SlicesG.CompactI
import Derived.Ground.SlgmProg
import Derived.Test.YtffjbciladpdlaaGreatChecked
import Derived.Test.YtffjbciladpdlaaGreatZN24
set_option linter.unusedSimpArgs false
set_option linter.unusedVariables false
set_option maxRecDepth 100000
set_option maxHeartbeats 16000000
namespace Go.Proofs
open Go Go.Tr
def bm (l : List Int) : List (List Int × TV) := l.map fun n => ([n], TV.d (.bool true))
theorem kget_bm : ∀ (l : List Int) (n : Int), kget (bm l) [n] = if n ∈ l then some (TV.d (.bool true)) else none
 | [], _ => rfl
 | x :: l, n => by
   have ih := kget_bm l n
   simp only [bm] at ih
   by_cases h : n = x
   ·simp [bm, kget, h]
   ·simp [bm, kget, h, ih]
theorem kput_bm {l : List Int} {n : Int} (h : n ∉ l) : kput (bm l) [n] (TV.d (.bool true)) = bm (l ++ [n]) := by
 have : kput (bm l) [n] (TV.d (.bool true)) = bm l ++ [([n], TV.d (.bool true))] := kput_new fun y hy e => by
  obtain ⟨x, hx, rfl⟩ := List.mem_map.1 hy
  simp only [List.cons.injEq, and_true] at e
  exact h (e ▸ hx)
 rw [this]; simp [bm]
theorem klen_bm (l : List Int) : klen 1 (bm l) := fun y hy => by
 obtain ⟨x, hx, rfl⟩ := List.mem_map.1 hy
 rfl
@[simp] theorem only_bm {po : Nat → Prop} {l : List Int} {c : Nat} {pd : Option (List Int)} {s : Option Snap} : It.only po (It.mpk (bm l) c pd s) := by
 intro x hx
 obtain ⟨y, _, rfl⟩ := List.mem_map.1 hx
 exact trivial
@[simp] theorem passK3_bm (ν : List Pl) (rs : List (Nat × Nat)) (l : List Int) : passK3 ν rs (bm l) = some (bm l) := passK3_map ν rs (fun n => [n]) (fun _ => D.bool true) l
@[simp] theorem bm_back (ν : List Pl) (b : Nat) (l : List Int) : ((bm l).map fun x => (x.1, x.2.back ν b)) = bm l := by
 simp [bm, List.map_map, TV.back]
@[simp] theorem bm_ren (a b : Nat) (l : List Int) : ((bm l).map fun x => (x.1, x.2.ren a b)) = bm l := by
 simp [bm, List.map_map, TV.ren]
theorem kget_tw (g : Topo) (to x : Int) : ∀ L : IM, kget (kzip ((twE g to L).map (·.1)) ((twE g to L).map (·.2))) [x] = if x ∈ L.map (·.1) then some (.d (ints (steps g (dist g to) x))) else none
 | [] => rfl
 | y :: L => by
   have ih := kget_tw g to x L
   have e : kzip ((twE g to (y :: L)).map (·.1)) ((twE g to (y :: L)).map (·.2)) = ([y.1], TV.d (ints (steps g (dist g to) y.1))) :: kzip ((twE g to L).map (·.1)) ((twE g to L).map (·.2)) := rfl
   rw [e, kget, ih]
   by_cases h : x = y.1
   ·subst h; simp
   ·have : (x ∈ (y :: L).map (·.1)) = (x ∈ L.map (·.1)) := by simp [h]
    simp only [List.cons.injEq, and_true, h, if_false, this]
theorem klen_tw (g : Topo) (to : Int) : ∀ L : IM, klen 1 (kzip ((twE g to L).map (·.1)) ((twE g to L).map (·.2))) := fun L y hy => by
 simp only [kzip, List.mem_map] at hy
 obtain ⟨x, hx, rfl⟩ := hy
 obtain ⟨h1, h2⟩ := List.of_mem_zip (show (x.1, x.2) ∈ _ from hx)
 simp only [twE, List.map_map, List.mem_map] at h1
 obtain ⟨r, _, e⟩ := h1
 simp only
 rw [← e]; rfl
theorem steps_has2 {g : Topo} (hg : g.Ok) {to x y : Int} (h : y ∈ steps g (dist g to) x) : hasR g.rs x = true ∧ hasR g.rs y = true := by
 obtain ⟨_, _, _, c, hp, _⟩ := (mem_steps hg).1 h
 exact price_has hg hp
theorem steps_none {g : Topo} (hg : g.Ok) {to x : Int} (hto : hasR g.rs to = true) (h : x ∉ (DM g to).map (·.1)) : steps g (dist g to) x = [] := by
 refine List.eq_nil_iff_forall_not_mem.2 fun y hy => h ?_
 obtain ⟨h1, _⟩ := (mem_steps hg).1 hy
 have hb := (dst_bd hg to x).2
 exact List.mem_map.2 ⟨(x, dst g to x), (dm_mem hto).2 ⟨(steps_has2 hg hy).1, by omega, rfl⟩, rfl⟩
structure DInv (g : Topo) (s : List Int × List Int) : Prop where
 nd : s.1.Nodup
 has : ∀ x ∈ s.1, hasR g.rs x = true
 len : s.2.length ≤ s.1.length
theorem DInv.le {g : Topo} (hg : g.Ok) {s : List Int × List Int} (h : DInv g s) : s.1.length ≤ 24 ∧ s.2.length ≤ 24 := by
 have h1 := len_sub h.nd (b := g.rs.map Rt.id) fun x hx => hasR_mem.1 (h.has x hx)
 rw [List.length_map] at h1
 have := hg.nr
 have := h.len
 omega
theorem DInv.ok {g : Topo} {nx : Int → List Int} {cp : Int → Bool} {ns : List Int} {s s' : List Int × List Int} (h : DInv g s) (k : DfsOk nx cp (fun n => hasR g.rs n = true) ns s s') : DInv g s' := by
 refine ⟨k.nd h.nd, fun x hx => ?_, by have := k.len; have := h.len; omega⟩
 rcases k.via x hx with h1 | h1
 ·exact h.has x h1
 ·exact h1
theorem dfs_inv {g : Topo} (hg : g.Ok) {to : Int} (k : Nat) (r : Int) (hk : (dst g to r).toNat < k) (s : List Int × List Int) : DfsOk (steps g (dist g to)) (capR g.rs) (fun n => hasR g.rs n = true) (steps g (dist g to) r) s (dfs (steps g (dist g to)) (capR g.rs) k r s) :=
 dfs_ok (fun x => (dst g to x).toNat) (fun r n hn => by
  have h1 := (steps_dst hg hn).1
  have h2 := (dst_bd hg to n).1
  omega) (fun n _ _ m hm => (steps_has2 hg hm).2) k r hk (fun n hn => (steps_has2 hg hn).2) s
theorem hwalk_c (g : Topo) (h0 : chkT g = 0) (to : Int) (hto : hasR g.rs to = true) : ∀ (k : Nat) (r : Int), (dst g to r).toNat < k → ∀ s : List Int × List Int, DInv g s →
  Contract2 Tryz.prog 112 [.d (.int .i64 r), .ptr (.x 0) 0, .ptr (.x 1) 0, .ptr (.x 2) 0, .ptr (.x 3) 0, .ptr (.x 4) 0] [.box [.d (twD g to)], .box [.mref 901], It.box [TV.d (.sl (rts g.rs)), TV.d (.sl (lks g.ls))], .box [.oref 900 s.2.length], .box [TV.clo 112 [TV.ptr (Pl.x 0) 0, TV.ptr (Pl.x 1) 0, TV.ptr (Pl.x 2) 0, TV.ptr (Pl.x 3) 0, TV.ptr (Pl.x 4) 0]]]
   [(900, .row 3 1 (dd (nrow .i64 s.2)) false), (901, .mpk (bm s.1) 0 none none)] (.tup [])
   [.box [.d (twD g to)], .box [.mref 901], It.box [TV.d (.sl (rts g.rs)), TV.d (.sl (lks g.ls))], .box [.oref 900 (dfs (steps g (dist g to)) (capR g.rs) k r s).2.length], .box [TV.clo 112 [TV.ptr (Pl.x 0) 0, TV.ptr (Pl.x 1) 0, TV.ptr (Pl.x 2) 0, TV.ptr (Pl.x 3) 0, TV.ptr (Pl.x 4) 0]]]
   [(900, .row 3 1 (dd (nrow .i64 (dfs (steps g (dist g to)) (capR g.rs) k r s).2)) false), (901, .mpk (bm (dfs (steps g (dist g to)) (capR g.rs) k r s).1) 0 none none)]
 | 0, _, h, _, _ => by omega
 | k + 1, r, hk, s, hI => by
   have hg := chkT_zero h0
   have IH := hwalk_c g h0 to hto k
   obtain ⟨ks, vs, hD, hget, hkl⟩ : ∃ ks vs, twD g to = .mp ks vs ∧ (∀ x, kget (kzip ks vs) [x] = if x ∈ (DM g to).map (·.1) then some (.d (ints (steps g (dist g to) x))) else none) ∧ klen 1 (kzip ks vs) :=
    ⟨_, _, by unfold twD; rw [if_pos h0]; rfl, fun x => kget_tw g to x (DM g to), klen_tw g to (DM g to)⟩
   have hok : fnOK Tryz.prog 112 = true := by kernel_rfl
   simp only [hD] at IH ⊢
   obtain ⟨l, hl⟩ : ∃ l, l = steps g (dist g to) r := ⟨_, rfl⟩
   have hll : l.length ≤ 1000000 := by
    rw [hl]
    have : (steps g (dist g to) r).length ≤ g.rs.length := by
     unfold steps
     split
     ·simp
     ·refine Nat.le_trans (List.length_filter_le _ _) ?_
      unfold near
      rw [List.length_map]
      exact List.length_filter_le _ _
    have := hg.nr
    omega
   have hlm : ∀ n ∈ l, (dst g to n).toNat < k ∧ hasR g.rs n = true := fun n hn => by
    rw [hl] at hn
    have h1 := (steps_dst hg hn).1
    have h2 := (dst_bd hg to n).1
    exact ⟨by omega, (steps_has2 hg hn).2⟩
   obtain ⟨F, hF⟩ : ∃ F : List Int × List Int → Int → List Int × List Int, F = dfs1 (capR g.rs) (dfs (steps g (dist g to)) (capR g.rs) k) := ⟨_, rfl⟩
   have hS : dfs (steps g (dist g to)) (capR g.rs) (k + 1) r s = l.foldl F s := by rw [dfs, ← hl, ← hF]
   rw [hS]
   have hinv : ∀ i, DInv g ((l.take i).foldl F s) := fun i => by
    rw [hF]
    exact hI.ok (DfsOk.fold fun n hn => ⟨(hlm n (List.mem_of_mem_take hn)).2, fun _ s => dfs_inv hg k n (hlm n (List.mem_of_mem_take hn)).1 s⟩)
   refine contract2_of Tryz.func112 rfl (fun E0 => ?_)
   refine awp.sound (g := .mk) (ow := [4000029]) (kp := (fun k => k==0||k==1||k==2||k==3||k==4||k==5||k==8||k==11||k==12||k==13||k==14||k==19||k==24)) ?_
   rw [Tryz.ntmps112]
   by_cases hr : r ∈ (DM g to).map (·.1)
   ·simp -dsimp [hget, hkl, hr, ← hl, ints]
    and_intros
    all_goals try first | omega | exact ⟨by kernel_rfl⟩ | rfl
    refine ALoop.of [4000029] (fun k => k==0||k==1||k==2||k==3||k==4||k==5||k==8||k==11||k==12||k==13||k==14||k==19||k==24) (ι := { i : Nat // i ≤ l.length })
     (fun z => [(Pl.s 0, It.v (.d (.int .i64 r))), (Pl.s 1, It.v (.ptr (Pl.x 0) 0)), (Pl.s 2, It.v (.ptr (Pl.x 1) 0)), (Pl.s 3, It.v (.ptr (Pl.x 2) 0)), (Pl.s 4, It.v (.ptr (Pl.x 3) 0)), (Pl.s 5, It.v (.ptr (Pl.x 4) 0)),
      (Pl.x 0, It.box [.d (.mp ks vs)]), (Pl.x 1, It.box [.mref 901]), (Pl.x 2, It.box [TV.d (.sl (rts g.rs)), TV.d (.sl (lks g.ls))]), (Pl.x 3, It.box [.oref 900 ((l.take z.1).foldl F s).2.length]), (Pl.x 4, It.box [TV.clo 112 [TV.ptr (Pl.x 0) 0, TV.ptr (Pl.x 1) 0, TV.ptr (Pl.x 2) 0, TV.ptr (Pl.x 3) 0, TV.ptr (Pl.x 4) 0]]),
      (Pl.o 900, .row 3 1 (dd (nrow .i64 ((l.take z.1).foldl F s).2)) false), (Pl.o 901, .mpk (bm ((l.take z.1).foldl F s).1) 0 none none),
      (Pl.s 11, It.v (.d (ints l))), (Pl.s 12, It.v (.d (.int .i64 l.length))), (Pl.s 13, It.v (.d (.int .i64 z.1)))])
     (fun z => l.length - z.1) ⟨0, by omega⟩ ?_ ?_
    ·exact GS.to (by simp [ints])
    ·rintro ⟨i, i1⟩
     have hi2 := hinv i
     by_cases hi : i < l.length
     ·have hiz : (i : Int) < l.length := by omega
      have hx : l[i]? = some l[i] := List.getElem?_eq_getElem hi
      have hm := hlm l[i] (List.getElem_mem hi)
      have ht : (l.take (i + 1)).foldl F s = F ((l.take i).foldl F s) l[i] := by
       rw [List.take_add_one, hx, Option.toList_some, List.foldl_append]; rfl
      have hi3 := hinv (i + 1)
      rw [ht] at hi3
      generalize l[i] = n at hx hm ht hi3
      generalize (l.take i).foldl F s = S at hi2 ht hi3
      obtain ⟨sn, ou⟩ := S
      have w1 : IntKind.i64.wrap ((i : Int) + 1) = (i : Int) + 1 := wrap_i64 (by omega) (by omega)
      have hgb := kget_bm sn n
      have hkb := klen_bm sn
      by_cases hs : n ∈ sn
      ·have hf : F (sn, ou) n = (sn, ou) := by rw [hF]; simp [dfs1, hs]
       simp -dsimp [hiz, hx, ints, hgb, hkb, hs, w1]
       and_intros
       all_goals try first | omega | exact ⟨by kernel_rfl⟩ | rfl
       refine ⟨⟨i + 1, by omega⟩, GS.to (by simp [ht, hf, ints]), by simp; omega⟩
      ·have hpb := kput_bm hs
       simp -dsimp [hiz, hx, ints, hgb, hkb, hs, hpb, w1]
       and_intros
       all_goals try first | omega | exact ⟨by kernel_rfl⟩ | rfl
       refine ACall.of (tcapable_c g hg.sm n) [] 0 ?_
       rcases (Bool.eq_false_or_eq_true (capR g.rs n)).symm with hc | hc
       ·have hf : F (sn, ou) n = dfs (steps g (dist g to)) (capR g.rs) k n (sn ++ [n], ou) := by rw [hF]; simp [dfs1, hs, hc]
        rw [hf] at ht
        have hI' : DInv g (sn ++ [n], ou) := ⟨nodup_snoc hi2.nd hs, fun x hx => by
         rcases List.mem_append.1 hx with h | h
         ·exact hi2.has x h
         ·rw [List.mem_singleton.1 h]; exact hm.2, by have := hi2.len; simp at this ⊢; omega⟩
        have hcal := IH n hm.1 (sn ++ [n], ou) hI'
        obtain ⟨S', hS'⟩ : ∃ S', S' = dfs (steps g (dist g to)) (capR g.rs) k n (sn ++ [n], ou) := ⟨_, rfl⟩
        rw [← hS'] at hcal ht
        simp -dsimp [h0, hc]
        refine ⟨rfl, ?_⟩
        refine ANon.of3 hcal [.x 0, .x 1, .x 2, .x 3, .x 4] [(900, 900), (901, 901)] 1000 ?_
        simp -dsimp [hok, w1]
        refine ⟨⟨i + 1, by omega⟩, (GS.to (l' := [(Pl.s 0, It.v (.d (.int .i64 r))), (Pl.s 1, It.v (.ptr (Pl.x 0) 0)), (Pl.s 2, It.v (.ptr (Pl.x 1) 0)), (Pl.s 3, It.v (.ptr (Pl.x 2) 0)), (Pl.s 4, It.v (.ptr (Pl.x 3) 0)), (Pl.s 5, It.v (.ptr (Pl.x 4) 0)), (Pl.x 0, It.box [.d (.mp ks vs)]), (Pl.x 1, It.box [.mref 1901]), (Pl.x 2, It.box [TV.d (.sl (rts g.rs)), TV.d (.sl (lks g.ls))]), (Pl.x 3, It.box [.oref 1900 S'.2.length]), (Pl.x 4, It.box [TV.clo 112 [TV.ptr (Pl.x 0) 0, TV.ptr (Pl.x 1) 0, TV.ptr (Pl.x 2) 0, TV.ptr (Pl.x 3) 0, TV.ptr (Pl.x 4) 0]]), (Pl.o 1900, .row 3 1 (dd (nrow .i64 S'.2)) false), (Pl.o 1901, .mpk (bm S'.1) 0 none none), (Pl.s 11, It.v (.d (ints l))), (Pl.s 12, It.v (.d (.int .i64 l.length))), (Pl.s 13, It.v (.d (.int .i64 ((i : Int) + 1))))]) (by simp [ints])).trans
         ((GS.ren' (l' := [(Pl.s 0, It.v (.d (.int .i64 r))), (Pl.s 1, It.v (.ptr (Pl.x 0) 0)), (Pl.s 2, It.v (.ptr (Pl.x 1) 0)), (Pl.s 3, It.v (.ptr (Pl.x 2) 0)), (Pl.s 4, It.v (.ptr (Pl.x 3) 0)), (Pl.s 5, It.v (.ptr (Pl.x 4) 0)), (Pl.x 0, It.box [.d (.mp ks vs)]), (Pl.x 1, It.box [.mref 1901]), (Pl.x 2, It.box [TV.d (.sl (rts g.rs)), TV.d (.sl (lks g.ls))]), (Pl.x 3, It.box [.oref 900 S'.2.length]), (Pl.x 4, It.box [TV.clo 112 [TV.ptr (Pl.x 0) 0, TV.ptr (Pl.x 1) 0, TV.ptr (Pl.x 2) 0, TV.ptr (Pl.x 3) 0, TV.ptr (Pl.x 4) 0]]), (Pl.o 900, .row 3 1 (dd (nrow .i64 S'.2)) false), (Pl.o 1901, .mpk (bm S'.1) 0 none none), (Pl.s 11, It.v (.d (ints l))), (Pl.s 12, It.v (.d (.int .i64 l.length))), (Pl.s 13, It.v (.d (.int .i64 ((i : Int) + 1))))]) 1900 900 (by decide) (by simp) (by simp)).trans
         (GS.ren' 1901 901 (by decide) (by simp) (by simp [ht]))), by simp; omega⟩
       ·have hf : F (sn, ou) n = (sn ++ [n], ou ++ [n]) := by rw [hF]; simp [dfs1, hs, hc]
        have hle := hi2.le hg
        simp -dsimp [h0, hc, w1]
        refine ⟨rfl, by simp at hle; omega, by simp at hle; omega, ⟨i + 1, by omega⟩, GS.to (by simp [ht, hf, ints, nrow]), by simp; omega⟩
     ·have hiz : ¬ (i : Int) < l.length := by omega
      obtain rfl : i = l.length := by omega
      rw [List.take_length]
      simp -dsimp [hiz]
      refine Fin.of ?_
      simp
   ·have hl0 : l = [] := hl.trans (steps_none hg hto hr)
    subst hl0
    simp -dsimp [hget, hkl, hr]
    and_intros
    all_goals try first | omega | exact ⟨by kernel_rfl⟩ | rfl
    refine ALoop.of [4000029] (fun k => k==0||k==1||k==2||k==3||k==4||k==5||k==8||k==11||k==12||k==13||k==14||k==19||k==24) (ι := Unit)
     (fun z => [(Pl.s 0, It.v (.d (.int .i64 r))), (Pl.s 1, It.v (.ptr (Pl.x 0) 0)), (Pl.s 2, It.v (.ptr (Pl.x 1) 0)), (Pl.s 3, It.v (.ptr (Pl.x 2) 0)), (Pl.s 4, It.v (.ptr (Pl.x 3) 0)), (Pl.s 5, It.v (.ptr (Pl.x 4) 0)), (Pl.x 0, It.box [.d (.mp ks vs)]), (Pl.x 1, It.box [.mref 901]), (Pl.x 2, It.box [TV.d (.sl (rts g.rs)), TV.d (.sl (lks g.ls))]), (Pl.x 3, It.box [.oref 900 s.2.length]), (Pl.x 4, It.box [TV.clo 112 [TV.ptr (Pl.x 0) 0, TV.ptr (Pl.x 1) 0, TV.ptr (Pl.x 2) 0, TV.ptr (Pl.x 3) 0, TV.ptr (Pl.x 4) 0]]), (Pl.o 900, .row 3 1 (dd (nrow .i64 s.2)) false), (Pl.o 901, .mpk (bm s.1) 0 none none), (Pl.s 12, It.v (.d (.int .i64 0))), (Pl.s 13, It.v (.d (.int .i64 0)))])
     (fun z => 0) () ?_ ?_
    ·exact GS.to (by simp)
    ·rintro ⟨⟩
     simp -dsimp
     refine Fin.of ?_
     simp
end Go.Proofs

namespace Go.Proofs
open Go.Shelf
def Tryz.lSort_ren : Go.Shelf.Ren := ⟨fun | 5 => 113 | 8 => 130 | 7 => 129 | 19 => 143 | 20 => 144 | 10 => 134 | 11 => 135 | 12 => 136 | 13 => 137 | 14 => 138 | 15 => 139 | 16 => 140 | 17 => 141 | 18 => 142 | 30 => 153 | 31 => 154 | 32 => 155 | 33 => 156 | 34 => 157 | 35 => 132 | 40 => 161 | n => n, fun | 23 => 22 | 25 => 3 | 3 => 3 | 32 => 142 | 22 => 22 | 0 => 0 | 44 => 158 | 46 => 160 | 4 => 4 | 36 => 152 | 35 => 151 | 41 => 60 | 5 => 5 | 9 => 9 | 53 => 166 | 57 => 170 | 63 => 174 | 64 => 175 | n => n, fun | n => n⟩
theorem Tryz.lSort : Go.Proofs.SlLaysM.n5 Tryz.prog Tryz.lSort_ren := {
 mixed := by kernel_rfl
 f5 := ⟨Tryz.f113.name, by decide, Tryz.func113.trans (congrArg some (by kernel_rfl))⟩
 f7 := ⟨Tryz.f129.name, by decide, Tryz.func129.trans (congrArg some (by kernel_rfl))⟩
 f8 := Tryz.func130.trans (congrArg some (by kernel_rfl))
 f10 := ⟨Tryz.f134.name, by decide, Tryz.func134.trans (congrArg some (by kernel_rfl))⟩
 f11 := ⟨Tryz.f135.name, by decide, Tryz.func135.trans (congrArg some (by kernel_rfl))⟩
 f12 := ⟨Tryz.f136.name, by decide, Tryz.func136.trans (congrArg some (by kernel_rfl))⟩
 f13 := ⟨Tryz.f137.name, by decide, Tryz.func137.trans (congrArg some (by kernel_rfl))⟩
 f14 := ⟨Tryz.f138.name, by decide, Tryz.func138.trans (congrArg some (by kernel_rfl))⟩
 f15 := ⟨Tryz.f139.name, by decide, Tryz.func139.trans (congrArg some (by kernel_rfl))⟩
 f16 := ⟨Tryz.f140.name, by decide, Tryz.func140.trans (congrArg some (by kernel_rfl))⟩
 f17 := ⟨Tryz.f141.name, by decide, Tryz.func141.trans (congrArg some (by kernel_rfl))⟩
 f18 := ⟨Tryz.f142.name, by decide, Tryz.func142.trans (congrArg some (by kernel_rfl))⟩
 f19 := Tryz.func143.trans (congrArg some (by kernel_rfl))
 f20 := Tryz.func144.trans (congrArg some (by kernel_rfl))
 f30 := ⟨Tryz.f153.name, by decide, Tryz.func153.trans (congrArg some (by kernel_rfl))⟩
 f31 := Tryz.func154.trans (congrArg some (by kernel_rfl))
 f32 := Tryz.func155.trans (congrArg some (by kernel_rfl))
 f33 := ⟨Tryz.f156.name, by decide, Tryz.func156.trans (congrArg some (by kernel_rfl))⟩
 f34 := ⟨Tryz.f157.name, by decide, Tryz.func157.trans (congrArg some (by kernel_rfl))⟩
 f35 := ⟨Tryz.f132.name, by decide, Tryz.func132.trans (congrArg some (by kernel_rfl))⟩
 f40 := ⟨Tryz.f161.name, by decide, Tryz.func161.trans (congrArg some (by kernel_rfl))⟩
 t0 := Tryz.underlying0
 a0 := Tryz.isAgg0
 z0 := Tryz.sizeOf0
 v0 := Tryz.zeroValue0
 t3 := Tryz.underlying3
 a3 := Tryz.isAgg3
 z3 := Tryz.sizeOf3
 v3 := Tryz.zeroValue3
 t4 := Tryz.underlying4
 a4 := Tryz.isAgg4
 z4 := Tryz.sizeOf4
 v4 := Tryz.zeroValue4
 t5 := Tryz.underlying5
 a5 := Tryz.isAgg5
 z5 := Tryz.sizeOf5
 v5 := Tryz.zeroValue5
 t9 := Tryz.underlying9
 a9 := Tryz.isAgg9
 z9 := Tryz.sizeOf9
 v9 := Tryz.zeroValue9
 t22 := Tryz.underlying22
 a22 := Tryz.isAgg22
 z22 := Tryz.sizeOf22
 v22 := Tryz.zeroValue22
 t23 := Tryz.underlying22
 a23 := Tryz.isAgg22
 z23 := Tryz.sizeOf22
 v23 := Tryz.zeroValue22
 t25 := Tryz.underlying3
 a25 := Tryz.isAgg3
 z25 := Tryz.sizeOf3
 v25 := Tryz.zeroValue3
 t32 := Tryz.underlying142
 a32 := Tryz.isAgg142
 z32 := Tryz.sizeOf142
 v32 := Tryz.zeroValue142
 t35 := Tryz.underlying151
 a35 := Tryz.isAgg151
 z35 := Tryz.sizeOf151
 v35 := Tryz.zeroValue151
 t36 := Tryz.underlying152
 a36 := Tryz.isAgg152
 z36 := Tryz.sizeOf152
 v36 := Tryz.zeroValue152
 t41 := Tryz.underlying60
 a41 := Tryz.isAgg60
 z41 := Tryz.sizeOf60
 v41 := Tryz.zeroValue60
 t44 := Tryz.underlying158
 a44 := Tryz.isAgg158
 z44 := Tryz.sizeOf158
 v44 := Tryz.zeroValue158
 t46 := Tryz.underlying160
 a46 := Tryz.isAgg160
 z46 := Tryz.sizeOf160
 v46 := Tryz.zeroValue160
 t53 := Tryz.underlying166
 a53 := Tryz.isAgg166
 z53 := Tryz.sizeOf166
 v53 := Tryz.zeroValue166
 t57 := Tryz.underlying170
 a57 := Tryz.isAgg170
 z57 := Tryz.sizeOf170
 v57 := Tryz.zeroValue170
 t63 := Tryz.underlying174
 a63 := Tryz.isAgg174
 z63 := Tryz.sizeOf174
 v63 := Tryz.zeroValue174
 t64 := Tryz.underlying175
 a64 := Tryz.isAgg175
 z64 := Tryz.sizeOf175
 v64 := Tryz.zeroValue175 }
open Go.Tr
theorem sort_i : InplC Tryz.prog 113 .i64 (fun zs => zs.mergeSort fun x y => decide (x ≤ y)) none := InplC.sort Tryz.lSort
end Go.Proofs

namespace Go.Proofs
open Go Go.Tr
theorem hwalk0_c (g : Topo) (h0 : chkT g = 0) (to : Int) (hto : hasR g.rs to = true) (k : Nat) (r : Int) (hk : (dst g to r).toNat < k + 1) :
  Contract2 Tryz.prog 112 [.d (.int .i64 r), .ptr (.x 0) 0, .ptr (.x 1) 0, .ptr (.x 2) 0, .ptr (.x 3) 0, .ptr (.x 4) 0] [.box [.d (twD g to)], .box [.mref 901], It.box [TV.d (.sl (rts g.rs)), TV.d (.sl (lks g.ls))], .box [.c (.slice none 0 0)], .box [TV.clo 112 [TV.ptr (Pl.x 0) 0, TV.ptr (Pl.x 1) 0, TV.ptr (Pl.x 2) 0, TV.ptr (Pl.x 3) 0, TV.ptr (Pl.x 4) 0]]]
   [(901, .mpk [] 0 none none)] (.tup [])
   [.box [.d (twD g to)], .box [.mref 901], It.box [TV.d (.sl (rts g.rs)), TV.d (.sl (lks g.ls))], .box [.oref 900 (dfs (steps g (dist g to)) (capR g.rs) (k + 1) r ([], [])).2.length], .box [TV.clo 112 [TV.ptr (Pl.x 0) 0, TV.ptr (Pl.x 1) 0, TV.ptr (Pl.x 2) 0, TV.ptr (Pl.x 3) 0, TV.ptr (Pl.x 4) 0]]]
   [(900, .row 3 1 (dd (nrow .i64 (dfs (steps g (dist g to)) (capR g.rs) (k + 1) r ([], [])).2)) false), (901, .mpk (bm (dfs (steps g (dist g to)) (capR g.rs) (k + 1) r ([], [])).1) 0 none none)] := by
  obtain ⟨s, hs0⟩ : ∃ s : List Int × List Int, s = ([], []) := ⟨_, rfl⟩
  have hI : DInv g s := by subst hs0; exact ⟨by simp, by simp, by simp⟩
  rw [← hs0]
  have hg := chkT_zero h0
  have IH := hwalk_c g h0 to hto k
  obtain ⟨ks, vs, hD, hget, hkl⟩ : ∃ ks vs, twD g to = .mp ks vs ∧ (∀ x, kget (kzip ks vs) [x] = if x ∈ (DM g to).map (·.1) then some (.d (ints (steps g (dist g to) x))) else none) ∧ klen 1 (kzip ks vs) :=
   ⟨_, _, by unfold twD; rw [if_pos h0]; rfl, fun x => kget_tw g to x (DM g to), klen_tw g to (DM g to)⟩
  have hok : fnOK Tryz.prog 112 = true := by kernel_rfl
  simp only [hD] at IH ⊢
  obtain ⟨l, hl⟩ : ∃ l, l = steps g (dist g to) r := ⟨_, rfl⟩
  have hll : l.length ≤ 1000000 := by
   rw [hl]
   have : (steps g (dist g to) r).length ≤ g.rs.length := by
    unfold steps
    split
    ·simp
    ·refine Nat.le_trans (List.length_filter_le _ _) ?_
     unfold near
     rw [List.length_map]
     exact List.length_filter_le _ _
   have := hg.nr
   omega
  have hlm : ∀ n ∈ l, (dst g to n).toNat < k ∧ hasR g.rs n = true := fun n hn => by
   rw [hl] at hn
   have h1 := (steps_dst hg hn).1
   have h2 := (dst_bd hg to n).1
   exact ⟨by omega, (steps_has2 hg hn).2⟩
  obtain ⟨F, hF⟩ : ∃ F : List Int × List Int → Int → List Int × List Int, F = dfs1 (capR g.rs) (dfs (steps g (dist g to)) (capR g.rs) k) := ⟨_, rfl⟩
  have hS : dfs (steps g (dist g to)) (capR g.rs) (k + 1) r s = l.foldl F s := by rw [dfs, ← hl, ← hF]
  rw [hS]
  have hinv : ∀ i, DInv g ((l.take i).foldl F s) := fun i => by
   rw [hF]
   exact hI.ok (DfsOk.fold fun n hn => ⟨(hlm n (List.mem_of_mem_take hn)).2, fun _ s => dfs_inv hg k n (hlm n (List.mem_of_mem_take hn)).1 s⟩)
  refine contract2_of Tryz.func112 rfl (fun E0 => ?_)
  refine awp.sound (g := .mk) (ow := [4000029]) (kp := (fun k => k==0||k==1||k==2||k==3||k==4||k==5||k==8||k==11||k==12||k==13||k==14||k==19||k==24)) ?_
  rw [Tryz.ntmps112]
  by_cases hr : r ∈ (DM g to).map (·.1)
  ·simp -dsimp [hget, hkl, hr, ← hl, ints]
   and_intros
   all_goals try first | omega | exact ⟨by kernel_rfl⟩ | rfl
   refine ALoop.of [4000029] (fun k => k==0||k==1||k==2||k==3||k==4||k==5||k==8||k==11||k==12||k==13||k==14||k==19||k==24) (ι := { i : Nat // i ≤ l.length })
    (fun z => [(Pl.s 0, It.v (.d (.int .i64 r))), (Pl.s 1, It.v (.ptr (Pl.x 0) 0)), (Pl.s 2, It.v (.ptr (Pl.x 1) 0)), (Pl.s 3, It.v (.ptr (Pl.x 2) 0)), (Pl.s 4, It.v (.ptr (Pl.x 3) 0)), (Pl.s 5, It.v (.ptr (Pl.x 4) 0)),
     (Pl.x 0, It.box [.d (.mp ks vs)]), (Pl.x 1, It.box [.mref 901]), (Pl.x 2, It.box [TV.d (.sl (rts g.rs)), TV.d (.sl (lks g.ls))]), (Pl.x 3, It.box [.oref 900 ((l.take z.1).foldl F s).2.length]), (Pl.x 4, It.box [TV.clo 112 [TV.ptr (Pl.x 0) 0, TV.ptr (Pl.x 1) 0, TV.ptr (Pl.x 2) 0, TV.ptr (Pl.x 3) 0, TV.ptr (Pl.x 4) 0]]),
     (Pl.o 900, .row 3 1 (dd (nrow .i64 ((l.take z.1).foldl F s).2)) false), (Pl.o 901, .mpk (bm ((l.take z.1).foldl F s).1) 0 none none),
     (Pl.s 11, It.v (.d (ints l))), (Pl.s 12, It.v (.d (.int .i64 l.length))), (Pl.s 13, It.v (.d (.int .i64 z.1)))])
    (fun z => l.length - z.1) ⟨0, by omega⟩ ?_ ?_
   ·exact GS.ownB' (cs := [.c (.slice none 0 0)]) (.x 3) 0 900 3 1 rfl (by simp) (by simp) (by simp) (by simp [ints, bm, nrow, hs0])
   ·rintro ⟨i, i1⟩
    have hi2 := hinv i
    by_cases hi : i < l.length
    ·have hiz : (i : Int) < l.length := by omega
     have hx : l[i]? = some l[i] := List.getElem?_eq_getElem hi
     have hm := hlm l[i] (List.getElem_mem hi)
     have ht : (l.take (i + 1)).foldl F s = F ((l.take i).foldl F s) l[i] := by
      rw [List.take_add_one, hx, Option.toList_some, List.foldl_append]; rfl
     have hi3 := hinv (i + 1)
     rw [ht] at hi3
     generalize l[i] = n at hx hm ht hi3
     generalize (l.take i).foldl F s = S at hi2 ht hi3
     obtain ⟨sn, ou⟩ := S
     have w1 : IntKind.i64.wrap ((i : Int) + 1) = (i : Int) + 1 := wrap_i64 (by omega) (by omega)
     have hgb := kget_bm sn n
     have hkb := klen_bm sn
     by_cases hs : n ∈ sn
     ·have hf : F (sn, ou) n = (sn, ou) := by rw [hF]; simp [dfs1, hs]
      simp -dsimp [hiz, hx, ints, hgb, hkb, hs, w1]
      and_intros
      all_goals try first | omega | exact ⟨by kernel_rfl⟩ | rfl
      refine ⟨⟨i + 1, by omega⟩, GS.to (by simp [ht, hf, ints]), by simp; omega⟩
     ·have hpb := kput_bm hs
      simp -dsimp [hiz, hx, ints, hgb, hkb, hs, hpb, w1]
      and_intros
      all_goals try first | omega | exact ⟨by kernel_rfl⟩ | rfl
      refine ACall.of (tcapable_c g hg.sm n) [] 0 ?_
      rcases (Bool.eq_false_or_eq_true (capR g.rs n)).symm with hc | hc
      ·have hf : F (sn, ou) n = dfs (steps g (dist g to)) (capR g.rs) k n (sn ++ [n], ou) := by rw [hF]; simp [dfs1, hs, hc]
       rw [hf] at ht
       have hI' : DInv g (sn ++ [n], ou) := ⟨nodup_snoc hi2.nd hs, fun x hx => by
        rcases List.mem_append.1 hx with h | h
        ·exact hi2.has x h
        ·rw [List.mem_singleton.1 h]; exact hm.2, by have := hi2.len; simp at this ⊢; omega⟩
       have hcal := IH n hm.1 (sn ++ [n], ou) hI'
       obtain ⟨S', hS'⟩ : ∃ S', S' = dfs (steps g (dist g to)) (capR g.rs) k n (sn ++ [n], ou) := ⟨_, rfl⟩
       rw [← hS'] at hcal ht
       simp -dsimp [h0, hc]
       refine ⟨rfl, ?_⟩
       refine ANon.of3 hcal [.x 0, .x 1, .x 2, .x 3, .x 4] [(900, 900), (901, 901)] 1000 ?_
       simp -dsimp [hok, w1]
       refine ⟨⟨i + 1, by omega⟩, (GS.to (l' := [(Pl.s 0, It.v (.d (.int .i64 r))), (Pl.s 1, It.v (.ptr (Pl.x 0) 0)), (Pl.s 2, It.v (.ptr (Pl.x 1) 0)), (Pl.s 3, It.v (.ptr (Pl.x 2) 0)), (Pl.s 4, It.v (.ptr (Pl.x 3) 0)), (Pl.s 5, It.v (.ptr (Pl.x 4) 0)), (Pl.x 0, It.box [.d (.mp ks vs)]), (Pl.x 1, It.box [.mref 1901]), (Pl.x 2, It.box [TV.d (.sl (rts g.rs)), TV.d (.sl (lks g.ls))]), (Pl.x 3, It.box [.oref 1900 S'.2.length]), (Pl.x 4, It.box [TV.clo 112 [TV.ptr (Pl.x 0) 0, TV.ptr (Pl.x 1) 0, TV.ptr (Pl.x 2) 0, TV.ptr (Pl.x 3) 0, TV.ptr (Pl.x 4) 0]]), (Pl.o 1900, .row 3 1 (dd (nrow .i64 S'.2)) false), (Pl.o 1901, .mpk (bm S'.1) 0 none none), (Pl.s 11, It.v (.d (ints l))), (Pl.s 12, It.v (.d (.int .i64 l.length))), (Pl.s 13, It.v (.d (.int .i64 ((i : Int) + 1))))]) (by simp [ints])).trans
        ((GS.ren' (l' := [(Pl.s 0, It.v (.d (.int .i64 r))), (Pl.s 1, It.v (.ptr (Pl.x 0) 0)), (Pl.s 2, It.v (.ptr (Pl.x 1) 0)), (Pl.s 3, It.v (.ptr (Pl.x 2) 0)), (Pl.s 4, It.v (.ptr (Pl.x 3) 0)), (Pl.s 5, It.v (.ptr (Pl.x 4) 0)), (Pl.x 0, It.box [.d (.mp ks vs)]), (Pl.x 1, It.box [.mref 1901]), (Pl.x 2, It.box [TV.d (.sl (rts g.rs)), TV.d (.sl (lks g.ls))]), (Pl.x 3, It.box [.oref 900 S'.2.length]), (Pl.x 4, It.box [TV.clo 112 [TV.ptr (Pl.x 0) 0, TV.ptr (Pl.x 1) 0, TV.ptr (Pl.x 2) 0, TV.ptr (Pl.x 3) 0, TV.ptr (Pl.x 4) 0]]), (Pl.o 900, .row 3 1 (dd (nrow .i64 S'.2)) false), (Pl.o 1901, .mpk (bm S'.1) 0 none none), (Pl.s 11, It.v (.d (ints l))), (Pl.s 12, It.v (.d (.int .i64 l.length))), (Pl.s 13, It.v (.d (.int .i64 ((i : Int) + 1))))]) 1900 900 (by decide) (by simp) (by simp)).trans
        (GS.ren' 1901 901 (by decide) (by simp) (by simp [ht]))), by simp; omega⟩
      ·have hf : F (sn, ou) n = (sn ++ [n], ou ++ [n]) := by rw [hF]; simp [dfs1, hs, hc]
       have hle := hi2.le hg
       simp -dsimp [h0, hc, w1]
       refine ⟨rfl, by simp at hle; omega, by simp at hle; omega, ⟨i + 1, by omega⟩, GS.to (by simp [ht, hf, ints, nrow]), by simp; omega⟩
    ·have hiz : ¬ (i : Int) < l.length := by omega
     obtain rfl : i = l.length := by omega
     rw [List.take_length]
     simp -dsimp [hiz]
     refine Fin.of ?_
     simp
  ·have hl0 : l = [] := hl.trans (steps_none hg hto hr)
   subst hl0
   simp -dsimp [hget, hkl, hr]
   and_intros
   all_goals try first | omega | exact ⟨by kernel_rfl⟩ | rfl
   refine ALoop.of [4000029] (fun k => k==0||k==1||k==2||k==3||k==4||k==5||k==8||k==11||k==12||k==13||k==14||k==19||k==24) (ι := Unit)
    (fun z => [(Pl.s 0, It.v (.d (.int .i64 r))), (Pl.s 1, It.v (.ptr (Pl.x 0) 0)), (Pl.s 2, It.v (.ptr (Pl.x 1) 0)), (Pl.s 3, It.v (.ptr (Pl.x 2) 0)), (Pl.s 4, It.v (.ptr (Pl.x 3) 0)), (Pl.s 5, It.v (.ptr (Pl.x 4) 0)), (Pl.x 0, It.box [.d (.mp ks vs)]), (Pl.x 1, It.box [.mref 901]), (Pl.x 2, It.box [TV.d (.sl (rts g.rs)), TV.d (.sl (lks g.ls))]), (Pl.x 3, It.box [.oref 900 s.2.length]), (Pl.x 4, It.box [TV.clo 112 [TV.ptr (Pl.x 0) 0, TV.ptr (Pl.x 1) 0, TV.ptr (Pl.x 2) 0, TV.ptr (Pl.x 3) 0, TV.ptr (Pl.x 4) 0]]), (Pl.o 900, .row 3 1 (dd (nrow .i64 s.2)) false), (Pl.o 901, .mpk (bm s.1) 0 none none), (Pl.s 12, It.v (.d (.int .i64 0))), (Pl.s 13, It.v (.d (.int .i64 0)))])
    (fun z => 0) () ?_ ?_
   ·exact GS.ownB' (cs := [.c (.slice none 0 0)]) (.x 3) 0 900 3 1 rfl (by simp) (by simp) (by simp) (by simp [ints, bm, nrow, hs0])
   ·rintro ⟨⟩
    simp -dsimp
    refine Fin.of ?_
    simp
theorem asc_mergeSort {l m : List Int} (hl : l.Nodup) (hm : m.Pairwise (· < ·)) (h : ∀ x, x ∈ l ↔ x ∈ m) : (l.mergeSort fun x y => decide (x ≤ y)) = m := by
 refine asc_ext ?_ hm fun x => by rw [List.mem_mergeSort]; exact h x
 have h1 : (l.mergeSort fun x y => decide (x ≤ y)).Pairwise fun x y => decide (x ≤ y) = true := List.pairwise_mergeSort (fun a b c => by simp; omega) (fun a b => by simp; omega) l
 have h2 : (l.mergeSort fun x y => decide (x ≤ y)).Nodup := (List.mergeSort_perm l _).symm.nodup hl
 exact (h1.and (List.nodup_iff_pairwise_ne.1 h2)).imp fun {a b} h => by simp at h; omega
theorem thops_c (g : Topo) (h0 : chkT g = 0) (f t : Int) (hf : hasR g.rs f = true) (ht : hasR g.rs t = true) (hne : f ≠ t) : Contract Tryz.prog 59 [topT g, .d (twD g t), .d (.int .i64 f)] [] (.d (ints (hops g f t))) [] [] := by
 have hg := chkT_zero h0
 obtain ⟨k, hk⟩ : ∃ k, k = (dst g t f).toNat := ⟨_, rfl⟩
 have hw := hwalk0_c g h0 t ht k f (by omega)
 obtain ⟨h1, h2⟩ := dfs_hops hg (t := t) (f := f) (k := k + 1) (by omega)
 have hS := asc_mergeSort h1 (hops_ok g f t).1 fun n => (h2 n).trans (mem_hops h0 hf ht hne).symm
 have hI := (show DInv g ([], []) from ⟨by simp, by simp, by simp⟩).ok (dfs_inv hg (to := t) (k + 1) f (by omega) ([], []))
 have hle := (hI.le hg).2
 generalize dfs (steps g (dist g t)) (capR g.rs) (k + 1) f ([], []) = S at hw hS hle
 obtain ⟨ks, vs, hD⟩ : ∃ ks vs, twD g t = .mp ks vs := ⟨_, _, by unfold twD; rw [if_pos h0]; rfl⟩
 rw [hD] at hw ⊢
 have hok : fnOK Tryz.prog 112 = true := by kernel_rfl
 refine contract_of Tryz.func59 rfl (fun E0 => ?_)
 refine awp.sound (g := .mk) (ow := [3000010, 4000012, 1000113]) (kp := (fun k => k==0||k==1||k==2||k==3||k==4||k==6||k==7||k==8||k==9)) ?_
 rw [Tryz.ntmps59]
 simp -dsimp [topT]
 refine ANon.of3 hw [.o 4, .o 8, .o 3, .o 7, .o 9] [(901, 10)] 1000 ?_
 simp -dsimp [hok]
 refine ACall.inpl sort_i S.2 ?_
 simp -dsimp [hS]
 and_intros
 all_goals try first | omega | exact ⟨by kernel_rfl⟩ | rfl
 have hlen : S.2.length = (hops g f t).length := by rw [← hS, List.length_mergeSort]
 rw [hlen]
 refine Fin.view 6 ?_
 simp -dsimp
 refine Fin.of ?_
 simp [ints, nrow]
theorem tHops_c (g : Topo) (hs : g.Sm) (f t : Int) : Contract Tryz.prog 21 [topT g, .d (.int .i64 f), .d (.int .i64 t)] [] (.d (ints (hops g f t))) [] [] := by
 have h1 := thas_c g hs f
 have h2 := thas_c g hs t
 have h3 := toward_c g hs t
 by_cases h0 : chkT g = 0
 ·simp only [h0, decide_true, Bool.true_and] at h1 h2
  rcases (Bool.eq_false_or_eq_true (hasR g.rs f)).symm with hf | hf
  ·have e : hops g f t = [] := by unfold hops; rw [if_neg (by simp [hf])]
   rw [e]
   rw [hf] at h1
   refine contract_of Tryz.func21 rfl (fun E0 => ?_)
   refine awp.sound (g := .mk) (ow := []) (kp := (fun k => k==0||k==1||k==2||k==3||k==6||k==21)) ?_
   rw [Tryz.ntmps21]
   simp -dsimp [topT]
   refine ACall.of h1 [] 0 ?_
   simp -dsimp [topT]
   and_intros
   all_goals try first | omega | exact ⟨by kernel_rfl⟩ | rfl
   refine Fin.view 6 ?_
   simp -dsimp
   refine Fin.of ?_
   simp [ints]
  rcases (Bool.eq_false_or_eq_true (hasR g.rs t)).symm with ht | ht
  ·have e : hops g f t = [] := by unfold hops; rw [if_neg (by simp [ht])]
   rw [e]
   rw [hf] at h1
   rw [ht] at h2
   refine contract_of Tryz.func21 rfl (fun E0 => ?_)
   refine awp.sound (g := .mk) (ow := []) (kp := (fun k => k==0||k==1||k==2||k==3||k==6||k==21)) ?_
   rw [Tryz.ntmps21]
   simp -dsimp [topT]
   refine ACall.of h1 [] 0 ?_
   simp -dsimp [topT]
   refine ACall.of h2 [] 0 ?_
   simp -dsimp [topT]
   and_intros
   all_goals try first | omega | exact ⟨by kernel_rfl⟩ | rfl
   refine Fin.view 6 ?_
   simp -dsimp
   refine Fin.of ?_
   simp [ints]
  rw [hf] at h1
  rw [ht] at h2
  by_cases hne : f = t
  ·have e : hops g f t = [] := by unfold hops; rw [if_neg (by simp [hne])]
   rw [e]
   refine contract_of Tryz.func21 rfl (fun E0 => ?_)
   refine awp.sound (g := .mk) (ow := []) (kp := (fun k => k==0||k==1||k==2||k==3||k==6||k==21)) ?_
   rw [Tryz.ntmps21]
   simp -dsimp [topT]
   refine ACall.of h1 [] 0 ?_
   simp -dsimp [topT]
   refine ACall.of h2 [] 0 ?_
   simp -dsimp [topT, hne]
   and_intros
   all_goals try first | omega | exact ⟨by kernel_rfl⟩ | rfl
   refine Fin.view 6 ?_
   simp -dsimp
   refine Fin.of ?_
   simp [ints]
  ·have h4 := thops_c g h0 f t hf ht hne
   simp only [topT] at h1 h2 h3 h4
   refine contract_of Tryz.func21 rfl (fun E0 => ?_)
   refine awp.sound (g := .mk) (ow := []) (kp := (fun k => k==0||k==1||k==2||k==3||k==6||k==21)) ?_
   rw [Tryz.ntmps21]
   simp -dsimp [topT]
   refine ACall.of h1 [] 0 ?_
   simp -dsimp [topT]
   refine ACall.of h2 [] 0 ?_
   simp -dsimp [topT, hne]
   refine ACall.of h3 [] 0 ?_
   simp -dsimp [topT]
   refine ACall.of h4 [] 0 ?_
   simp -dsimp [topT]
   and_intros
   all_goals try first | omega | exact ⟨by kernel_rfl⟩ | rfl
   refine Fin.of ?_
   simp
 ·have e : hops g f t = [] := by unfold hops; rw [if_neg (by simp [h0])]
  rw [e]
  simp only [h0, decide_false, Bool.false_and] at h1
  refine contract_of Tryz.func21 rfl (fun E0 => ?_)
  refine awp.sound (g := .mk) (ow := []) (kp := (fun k => k==0||k==1||k==2||k==3||k==6||k==21)) ?_
  rw [Tryz.ntmps21]
  simp -dsimp [topT]
  refine ACall.of h1 [] 0 ?_
  simp -dsimp [topT]
  and_intros
  all_goals try first | omega | exact ⟨by kernel_rfl⟩ | rfl
  refine Fin.view 6 ?_
  simp -dsimp
  refine Fin.of ?_
  simp [ints]
end Go.Proofs

namespace Go.Tr
open Go
section
variable {A : Actv}
theorem GS.ownR {t : S} {id0 e0 k0 : Nat} {es0 : List (List TV)} {sh0 : Bool} {i j id : Nat} {r : List TV} (e z : Nat) (h0 : t (.o id0) = .row e0 k0 es0 sh0) (hr : es0[i]? = some r) (hj : r[j]? = some (.c (.slice none 0 0))) (ho : t (.o id) = .none) :
  GS A t (upd (upd t (.o id) (.row e z [] false)) (.o id0) (.row e0 k0 (es0.set i (r.set j (.oref id 0))) sh0)) := fun a w ⟨E, hw, hE⟩ => by
 obtain ⟨E', hw', x, hi', hv⟩ := hE.newRow ho e z
 have hne : id0 ≠ id := fun e => by subst e; rw [h0] at ho; simp at ho
 have hil : i < es0.length := (List.getElem?_eq_some_iff.1 hr).1
 refine ⟨E', hw'.trans hw, hi'.rowSee (es := es0) (by simp only [upd, Pl.o.injEq, if_neg hne]; exact h0) (by simp) fun us hrel => RowRel.of_get fun i' el hel => ?_⟩
 rw [listSet_get hil] at hel
 by_cases ei : i' = i
 ·subst ei
  rw [if_pos rfl] at hel
  simp only [Option.some.injEq] at hel
  subst hel
  obtain ⟨g1, g2⟩ := hrel.get hr
  have hjl : j < r.length := (List.getElem?_eq_some_iff.1 hj).1
  refine ⟨by simpa using g1, CellsRel.of_get fun m tv hm => ?_⟩
  rw [listSet_get hjl] at hm
  by_cases em : m = j
  ·subst em
   rw [if_pos rfl] at hm
   simp only [Option.some.injEq] at hm
   subst hm
   obtain ⟨u, k1, k2, k3⟩ := g2.get hj
   refine ⟨u, k1, k2, ?_⟩
   simp only [RelV] at k3 ⊢
   exact ⟨by rw [k3]; rfl, z, 0, _, hv, Nat.le_refl _, fun _ => k3⟩
  ·rw [if_neg em] at hm
   exact g2.get hm
 ·rw [if_neg ei] at hel
  exact hrel.get hel
theorem GS.ownR' {l l' : List (Pl × It)} (id0 i j id : Nat) {e0 k0 : Nat} {es0 : List (List TV)} {sh0 : Bool} {r : List TV} (e z : Nat) (h0 : look l (.o id0) = .row e0 k0 es0 sh0) (hr : es0[i]? = some r) (hj : r[j]? = some (.c (.slice none 0 0))) (ho : look l (.o id) = .none)
  (h : Sub (look (put1 (.o id0) (.row e0 k0 (es0.set i (r.set j (.oref id 0))) sh0) (put1 (.o id) (.row e z [] false) l))) l' ∧ xIds l' = xIds (put1 (.o id0) (.row e0 k0 (es0.set i (r.set j (.oref id 0))) sh0) (put1 (.o id) (.row e z [] false) l))) : GS A (look l) (look l') := by
 have := GS.ownR (A := A) (id := id) e z h0 hr hj ho
 rw [upd_look, upd_look] at this
 exact this.trans (GS.forget h.1 h.2)
def seeR (t : S) (id0 e0 z0 b n m : Nat) (pre : Nat → List TV) (xs : Nat → List (List D)) : S := fun p =>
 if p = .o id0 then .row e0 z0 ((List.range n).map fun i => pre i ++ [if i < m then TV.d (.sl (xs i)) else TV.oref (b + i) (xs i).length]) false
 else match p with
 | .o q => if b ≤ q ∧ q < b + m then (t p).shd else t p
 | p => t p
theorem seeR_zero {t : S} {id0 e0 z0 b n : Nat} {pre : Nat → List TV} {xs : Nat → List (List D)} (h0 : t (.o id0) = .row e0 z0 ((List.range n).map fun i => pre i ++ [TV.oref (b + i) (xs i).length]) false) : seeR t id0 e0 z0 b n 0 pre xs = t := by
 funext p
 unfold seeR
 by_cases e : p = .o id0
 ·subst e; rw [if_pos rfl, h0]; simp
 ·rw [if_neg e]
  split
  ·rw [if_neg (by omega)]
  ·rfl
theorem GS.seeNextR {t : S} {id0 e0 z0 b n m e z : Nat} {pre : Nat → List TV} {xs : Nat → List (List D)} (hm : m < n) (hr : t (.o (b + m)) = .row e z (dd (xs m)) false) (hb : id0 < b) :
  GS A (seeR t id0 e0 z0 b n m pre xs) (seeR t id0 e0 z0 b n (m + 1) pre xs) := by
 have h0 : seeR t id0 e0 z0 b n m pre xs (.o id0) = .row e0 z0 ((List.range n).map fun i => pre i ++ [if i < m then TV.d (.sl (xs i)) else TV.oref (b + i) (xs i).length]) false := by
  unfold seeR; rw [if_pos rfl]
 have hi : ((List.range n).map fun i => pre i ++ [if i < m then TV.d (.sl (xs i)) else TV.oref (b + i) (xs i).length])[m]? = some (pre m ++ [.oref (b + m) (xs m).length]) := by
  rw [List.getElem?_map, List.getElem?_range hm]; simp
 have hj : (pre m ++ [TV.oref (b + m) (xs m).length])[(pre m).length]? = some (.oref (b + m) (xs m).length) := by simp
 have ht : seeR t id0 e0 z0 b n m pre xs (.o (b + m)) = .row e z (dd (xs m)) false := by
  unfold seeR
  rw [if_neg (by simp; omega)]
  simp [hr]
 have g := GS.seeRow (A := A) (xs := xs m) h0 (by omega) hi hj ht (by simp [dd]) (toDss_dd _)
 have hset : (pre m ++ [TV.oref (b + m) (xs m).length]).set (pre m).length (TV.d (.sl (xs m))) = pre m ++ [TV.d (.sl (xs m))] := by
  rw [List.set_append_right _ _ (Nat.le_refl _)]; simp
 rw [hset] at g
 refine (show upd (upd (seeR t id0 e0 z0 b n m pre xs) (.o (b + m)) (.row e z (dd (xs m)) true)) (.o id0) (.row e0 z0 (((List.range n).map fun i => pre i ++ [if i < m then TV.d (.sl (xs i)) else TV.oref (b + i) (xs i).length]).set m (pre m ++ [TV.d (.sl (xs m))])) false) = seeR t id0 e0 z0 b n (m + 1) pre xs from ?_) ▸ g
 funext p
 by_cases e0' : p = .o id0
 ·subst e0'
  simp only [upd, if_true]
  unfold seeR
  rw [if_pos rfl]
  congr 1
  refine List.ext_getElem? fun i => ?_
  rw [List.getElem?_set, List.getElem?_map, List.getElem?_map, List.length_map, List.length_range]
  by_cases hin : i < n
  ·rw [List.getElem?_range hin]
   by_cases him : m = i
   ·subst him; simp [hin]
   ·simp only [if_neg him, Option.map_some]
    by_cases h1 : i < m
    ·simp [h1, show i < m + 1 by omega]
    ·simp [h1, show ¬ i < m + 1 by omega]
  ·have : (List.range n)[i]? = none := by simp; omega
   rw [this, if_neg (by omega)]; rfl
 ·simp only [upd, if_neg e0']
  by_cases e1 : p = .o (b + m)
  ·subst e1
   rw [if_pos rfl]
   unfold seeR
   rw [if_neg e0']
   simp only
   rw [if_pos (by omega), hr]; rfl
  ·rw [if_neg e1]
   unfold seeR
   rw [if_neg e0', if_neg e0']
   cases p with
   | o q =>
     simp only
     by_cases h1 : b ≤ q ∧ q < b + m
     ·rw [if_pos h1, if_pos (by omega)]
     ·rw [if_neg h1, if_neg (by intro h; exact e1 (by rw [show q = b + m by omega]))]
   | s q => rfl
   | x q => rfl
theorem GS.seeAllR {t : S} {id0 e0 z0 b n e z : Nat} {pre : Nat → List TV} {xs : Nat → List (List D)} (h0 : t (.o id0) = .row e0 z0 ((List.range n).map fun i => pre i ++ [TV.oref (b + i) (xs i).length]) false) (hr : ∀ i, i < n → t (.o (b + i)) = .row e z (dd (xs i)) false) (hb : id0 < b) :
  GS A t (seeR t id0 e0 z0 b n n pre xs) := by
 have h : ∀ m, m ≤ n → GS A t (seeR t id0 e0 z0 b n m pre xs) := by
  intro m
  induction m with
  | zero => intro _; rw [seeR_zero h0]; exact GS.refl _
  | succ m ih => intro hm; exact (ih (by omega)).trans (GS.seeNextR (by omega) (hr m (by omega)) hb)
 exact h n (Nat.le_refl _)
theorem seeR_row {t : S} {id0 e0 z0 b n : Nat} {pre : Nat → List TV} {xs : Nat → List (List D)} : seeR t id0 e0 z0 b n n pre xs (.o id0) = .row e0 z0 ((List.range n).map fun i => pre i ++ [.d (.sl (xs i))]) false := by
 unfold seeR
 rw [if_pos rfl]
 congr 1
 exact List.map_congr_left fun i hi => by rw [if_pos (List.mem_range.1 hi)]
theorem seeR_s {t : S} {id0 e0 z0 b n : Nat} {pre : Nat → List TV} {xs : Nat → List (List D)} {q : Nat} : seeR t id0 e0 z0 b n n pre xs (.s q) = t (.s q) := by
 unfold seeR
 rw [if_neg (by simp)]
theorem seeR_x {t : S} {id0 e0 z0 b n : Nat} {pre : Nat → List TV} {xs : Nat → List (List D)} {q : Nat} : seeR t id0 e0 z0 b n n pre xs (.x q) = t (.x q) := by
 unfold seeR
 rw [if_neg (by simp)]
end
end Go.Tr

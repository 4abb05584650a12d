/-
  What functions of the program compute, stated as contracts over plain data; the conditions of each stand in its own statement.
-/
import Derived.Test.YtffjbciladpdlaaGreatZM26
import Derived.Test.YtffjbciladpdlaaGreatZM27
import Derived.Test.YtffjbciladpdlaaGreatZM33
set_option linter.unusedSimpArgs false
set_option maxRecDepth 100000
set_option maxHeartbeats 16000000
namespace Go.Proofs
open Go Go.Tr
theorem index_e_c (l : List Ed) (hl : l.length ≤ 1000000) (f : FuncId) (ds : List D) (q : Ed → Bool) (hf : ∀ x, Contract Tryz.prog f [.agg (x.cs.map .d), .ptr (.x 0) 0] [.box (ds.map .d)] (.d (.bool (q x))) [.box (ds.map .d)] []) (hok : fnOK Tryz.prog f = true) :
  Contract Tryz.prog 128 [.d (.sl (eds l)), .clo f [.ptr (.x 0) 0]] [.box (ds.map .d)] (.d (.int .i64 (idxR q l))) [.box (ds.map .d)] [] := by
 refine contract_of Tryz.func128 rfl (fun E0 => ?_)
 refine awp.sound (g := .mk) (ow := []) (kp := (fun k => k==0||k==1||k==4||k==5||k==7||k==8||k==9||k==16)) ?_
 rw [Tryz.ntmps128]
 simp -dsimp
 refine ALoop.of [] (fun k => k==0||k==1||k==4||k==5||k==7||k==8||k==9||k==16) (ι := { i : Nat // i ≤ l.length ∧ ∀ a, a < i → ∀ x, l[a]? = some x → q x = false })
  (fun z => [(Pl.s 0, It.v (.d (.sl (eds l)))), (Pl.s 1, It.v (.clo f [TV.ptr (Pl.x 0) 0])), (Pl.x 0, It.box (List.map TV.d ds)), (Pl.s 4, It.v (.d (.int .i64 0))), (Pl.s 7, It.v (.d (.int .i64 l.length))), (Pl.s 8, It.v (.d (.int .i64 z.1)))]) (fun z => l.length - z.1) ⟨0, by omega, fun a h => by omega⟩ ?_ ?_
 ·exact GS.to (by simp)
 ·rintro ⟨i, i1, i2⟩
  by_cases hi : i < l.length
  ·obtain ⟨x, hx⟩ : ∃ x, l[i]? = some x := ⟨l[i], List.getElem?_eq_getElem hi⟩
   simp -dsimp [hi, eds_get' hx, Ed.cs, wrap_i64 (n := (i : Int) + 1) (by omega) (by omega)]
   refine ACall.of (hf x) [.x 0] 0 ?_
   rcases (Bool.eq_false_or_eq_true (q x)).symm with h | h
   ·simp -dsimp [h, hok, Ed.cs, wrap_i64 (n := (i : Int) + 1) (by omega) (by omega)]
    exact ⟨⟨i + 1, by omega, fun a ha y hy => by
     by_cases e : a = i
     ·subst e; rw [hx] at hy; simp only [Option.some.injEq] at hy; subst hy; exact h
     ·exact i2 a (by omega) y hy⟩, GS.to (by simp), by simp; omega⟩
   ·simp -dsimp [h, hok, Ed.cs]
    refine Fin.of ?_
    simp [idx_at hx h i2]
  ·simp -dsimp [hi]
   refine Fin.of ?_
   simp
   exact (idx_no fun a ha => i2 a (by omega)).symm
theorem contains_e_c (l : List Ed) (hl : l.length ≤ 1000000) (f : FuncId) (ds : List D) (q : Ed → Bool) (hf : ∀ x, Contract Tryz.prog f [.agg (x.cs.map .d), .ptr (.x 0) 0] [.box (ds.map .d)] (.d (.bool (q x))) [.box (ds.map .d)] []) (hok : fnOK Tryz.prog f = true) :
  Contract Tryz.prog 104 [.d (.sl (eds l)), .clo f [.ptr (.x 0) 0]] [.box (ds.map .d)] (.d (.bool (l.any q))) [.box (ds.map .d)] [] := by
 refine contract_of Tryz.func104 rfl (fun E0 => ?_)
 refine awp.sound (g := .mk) (ow := []) (kp := (fun k => k==0||k==1||k==4)) ?_
 rw [Tryz.ntmps104]
 simp -dsimp
 refine ACall.of (index_e_c l hl f ds q hf hok) [.x 0] 0 ?_
 simp -dsimp
 refine Fin.of ?_
 simp [idx_any]
theorem vp1_c (x y : Ed) : Contract Tryz.prog 105 [.agg (y.cs.map .d), .ptr (.x 0) 0] [.box (x.cs.map .d)] (.d (.bool (decide (y.r = x.r)))) [.box (x.cs.map .d)] [] := by
 refine contract_of Tryz.func105 rfl (fun E0 => ?_)
 refine awp.sound (g := .mk) (ow := []) (kp := (fun k => k==0||k==1||k==2||k==3)) ?_
 rw [Tryz.ntmps105]
 simp -dsimp [Ed.cs]
 refine Fin.of ?_
 simp
theorem validPlan_c (p : Pn) (hp : p.es.length ≤ 1000) : Contract Tryz.prog 51 [planT p] [] (.d (.bool (planB p))) [] [] := by
 refine contract_of Tryz.func51 rfl (fun E0 => ?_)
 refine awp.sound (g := .mk) (ow := []) (kp := (fun k => k==0||k==1||k==2||k==3||k==4||k==5||k==32||k==34||k==35||k==36||k==37||k==75)) ?_
 rw [Tryz.ntmps51]
 simp -dsimp [planT]
 refine ACall.of (in10_c p.subd 0 7) [] 0 ?_
 rcases (Bool.eq_false_or_eq_true (inB p.subd 0 7)).symm with a1 | a1
 ·simp -dsimp [a1]
  refine Fin.of ?_
  simp
  exact planB_base (by simp [baseB, a1])
 ·simp -dsimp [a1]
  refine ACall.of (validLength_c2 p.len) [] 0 ?_
  rcases (Bool.eq_false_or_eq_true (validLen p.len)).symm with a2 | a2
  ·by_cases a3 : p.len = 0
   ·by_cases a4 : p.es.length = 0
    ·have hb : baseB p = true := by simp [baseB, a1, a2, a3, a4, show validLen 0 = false from rfl]
     simp -dsimp [a1, a2, a3, a4, show validLen 0 = false from rfl]
     refine ALoop.of [] (fun k => k==0||k==1||k==2||k==3||k==4||k==5||k==32||k==34||k==35||k==36||k==37||k==75) (ι := Unit)
      (fun z => [(Pl.s 0, It.v (.agg [TV.d (.int .i64 p.subd), TV.d (.int .i64 p.len), TV.d (.sl (eds p.es))])), (Pl.o 1, It.box [TV.d (.int .i64 p.subd), TV.d (.int .i64 p.len), TV.d (.sl (eds p.es))]),
       (Pl.s 1, It.v (.ptr (Pl.o 1) 0)), (Pl.s 2, It.v (.d (.bool false))), (Pl.s 34, It.v (.d (.sl (eds p.es)))), (Pl.s 35, It.v (.d (.int .i64 0))), (Pl.s 36, It.v (.d (.int .i64 0)))])
      (fun z => 0) () ?_ ?_
     ·exact GS.to (by simp [a3, a4])
     ·rintro ⟨⟩
      simp -dsimp [a4]
      refine Fin.of ?_
      simp
      exact planB_ok hb (fun i hi => by omega) (fun i j hj hi => by omega)
    ·have a5 : 0 < p.es.length := by omega
     simp -dsimp [a1, a2, a3, a4, a5, show validLen 0 = false from rfl]
     refine Fin.of ?_
     simp
     exact planB_base (by simp [baseB, a1, a2, a3, a4, show validLen 0 = false from rfl])
   ·simp -dsimp [a1, a2, a3]
    refine Fin.of ?_
    simp
    exact planB_base (by simp [baseB, a1, a2, a3])
  ·by_cases a6 : p.es.length ≤ 24
   ·have a7 : ¬ (24 : Int) < p.es.length := by omega
    have hb : baseB p = true := by simp [baseB, a1, a2, a6]
    simp -dsimp [a1, a2, a7]
    refine ALoop.of [] (fun k => k==0||k==1||k==2||k==3||k==4||k==5||k==32||k==34||k==35||k==36||k==37||k==75) (ι := { i : Nat // i ≤ p.es.length ∧ (∀ a, a < i → edB p.es a = true) ∧ ∀ a b, b < a → a < i → grt p.es a ≠ grt p.es b })
     (fun z => [(Pl.s 0, It.v (.agg [TV.d (.int .i64 p.subd), TV.d (.int .i64 p.len), TV.d (.sl (eds p.es))])), (Pl.o 1, It.box [TV.d (.int .i64 p.subd), TV.d (.int .i64 p.len), TV.d (.sl (eds p.es))]),
      (Pl.s 1, It.v (.ptr (Pl.o 1) 0)), (Pl.s 2, It.v (.d (.bool false))), (Pl.s 34, It.v (.d (.sl (eds p.es)))), (Pl.s 35, It.v (.d (.int .i64 p.es.length))), (Pl.s 36, It.v (.d (.int .i64 z.1)))])
     (fun z => p.es.length - z.1) ⟨0, by omega, fun a h => by omega, fun a b _ h => by omega⟩ ?_ ?_
    ·exact GS.to (by simp)
    ·rintro ⟨i, i1, i2, i3⟩
     by_cases hi : i < p.es.length
     ·obtain ⟨x, hx⟩ : ∃ x, p.es[i]? = some x := ⟨p.es[i], List.getElem?_eq_getElem hi⟩
      have gx : gid p.es i = x.id ∧ grt p.es i = x.r := by simp [gid, grt, List.getD, hx]
      simp -dsimp [hi, eds_get' hx, Ed.cs, eds_take, wrap_i64 (n := (i : Int) + 1) (by omega) (by omega)]
      refine ⟨i1, ?_, ?_⟩
      ·intro e he
       obtain ⟨w, _, rfl⟩ := List.mem_map.1 he
       rfl
      refine ACall.of (contains_e_c (p.es.take i) (by simp; omega) 105 x.cs (fun y => decide (y.r = x.r)) (vp1_c x) (by simp)) [.o 4] 0 ?_
      simp -dsimp [Ed.cs]
      refine ACall.of (in10_c x.id 1 256) [] 0 ?_
      rcases (Bool.eq_false_or_eq_true (inB x.id 1 256)).symm with b1 | b1
      ·simp -dsimp [b1]
       try refine ⟨?_, ⟨by kernel_rfl⟩⟩
       refine Fin.of ?_
       simp
       exact planB_ed hi (by simp [edB, gx, b1])
      ·simp -dsimp [b1]
       refine ACall.of (in10_c x.r 1 99) [] 0 ?_
       rcases (Bool.eq_false_or_eq_true (inB x.r 1 99)).symm with b2 | b2
       ·simp -dsimp [b1, b2]
        try refine ⟨?_, ⟨by kernel_rfl⟩⟩
        refine Fin.of ?_
        simp
        exact planB_ed hi (by simp [edB, gx, b1, b2])
       ·rcases (Bool.eq_false_or_eq_true ((p.es.take i).any fun y => decide (y.r = x.r))).symm with b8 | b8
        ·have hne : ∀ b, b < i → grt p.es i ≠ grt p.es b := fun b hb => by
          rw [List.any_eq_false] at b8
          obtain ⟨y, hy⟩ : ∃ y, p.es[b]? = some y := ⟨p.es[b], List.getElem?_eq_getElem (by omega)⟩
          have := b8 y (by
           refine List.mem_of_getElem? (i := b) ?_
           rw [List.getElem?_take, if_pos hb]; exact hy)
          have gb : grt p.es b = y.r := by simp [grt, List.getD, hy]
          rw [gx.2, gb]
          intro h; rw [h] at this; simp at this
         by_cases b3 : 0 < i
         ·obtain ⟨y, hy⟩ : ∃ y, p.es[i - 1]? = some y := ⟨p.es[i - 1], List.getElem?_eq_getElem (by omega)⟩
          have gy : gid p.es (i - 1) = y.id := by simp [gid, List.getD, hy]
          have b5 : (1 : Int) ≤ i := by omega
          have b6 : (i : Int) - 1 < p.es.length := by omega
          have b7 : i ≠ 0 := by omega
          by_cases b4 : x.id ≤ y.id
          ·simp -dsimp [b1, b2, b8, b3, b4, b5, b6, eds_get hy, Ed.cs, wrap_i64 (n := (i : Int) - 1) (by omega) (by omega)]
           refine ⟨?_, ⟨by kernel_rfl⟩⟩
           refine Fin.of ?_
           simp
           exact planB_ed hi (by simp [edB, gx, gy, b1, b2, b7] <;> omega)
          ·simp -dsimp [b1, b2, b8, b3, b4, b5, b6, eds_get hy, Ed.cs, wrap_i64 (n := (i : Int) - 1) (by omega) (by omega), wrap_i64 (n := (i : Int) + 1) (by omega) (by omega)]
           try refine ⟨?_, ⟨by kernel_rfl⟩⟩
           exact ⟨⟨i + 1, by omega, fun a ha => by
            by_cases e : a = i
            ·subst e; simp [edB, gx, gy, b1, b2] <;> omega
            ·exact i2 a (by omega), fun a b h1 h2 => by
            by_cases e : a = i
            ·subst e; exact hne b h1
            ·exact i3 a b h1 (by omega)⟩, GS.to (by simp), by simp; omega⟩
         ·obtain rfl : i = 0 := by omega
          simp -dsimp [b1, b2, b8, wrap_i64 (n := 1) (by omega) (by omega)]
          try refine ⟨?_, ⟨by kernel_rfl⟩⟩
          exact ⟨⟨1, by omega, fun a ha => by
           obtain rfl : a = 0 := by omega
           simp [edB, gx, b1, b2], fun a b h1 h2 => by omega⟩, GS.to (by simp), by simp; omega⟩
        ·simp -dsimp [b1, b2, b8]
         try refine ⟨?_, ⟨by kernel_rfl⟩⟩
         refine Fin.of ?_
         simp
         rw [List.any_eq_true] at b8
         obtain ⟨y, hy, he⟩ := b8
         obtain ⟨b, hb⟩ := List.getElem?_of_mem hy
         have hbi : b < i := by have := (List.getElem?_eq_some_iff.1 hb).1; simp at this; omega
         rw [List.getElem?_take, if_pos hbi] at hb
         have gb : grt p.es b = y.r := by simp [grt, List.getD, hb]
         exact planB_rt hbi hi (by rw [gx.2, gb]; simp at he; exact he.symm)
     ·simp -dsimp [hi]
      refine Fin.of ?_
      simp
      exact planB_ok hb (fun a ha => i2 a (by omega)) (fun a b h1 h2 => i3 a b h1 (by omega))
   ·have a7 : (24 : Int) < p.es.length := by omega
    simp -dsimp [a1, a2, a7]
    refine Fin.of ?_
    simp
    exact planB_base (by simp [baseB, a1, a2, a6])
end Go.Proofs

set_option linter.unusedVariables false
namespace Go.Proofs
def arIn (s : List Int) (n : Int) : List Int := if hasI s n = true then s else s ++ [n]
def arL (g : Topo) : Nat → Nat → List Int → List Int
 | 0, _, s => s
 | k + 1, i, s => if i < s.length then arL g k (i + 1) ((near g (s.getD i 0)).foldl arIn s) else s
def aroundS (g : Topo) (r : Int) : List Int := arL g (g.rs.length + 1) 0 [r]
def around (g : Topo) (r : Int) : List Int := (aroundS g r).foldl insI []
open Classical in
noncomputable def conn (g : Topo) (a b : Int) : Bool := decide (chkT g = 0) && hasR g.rs a && hasR g.rs b && hasI (around g a) b
theorem arIn_pre (s : List Int) (n : Int) : ∃ r, arIn s n = s ++ r := by
 unfold arIn
 split
 ·exact ⟨[], by simp⟩
 ·exact ⟨[n], rfl⟩
theorem arFold_pre : ∀ (l s : List Int), ∃ r, l.foldl arIn s = s ++ r
 | [], s => ⟨[], by simp⟩
 | n :: l, s => by
   obtain ⟨r1, h1⟩ := arIn_pre s n
   obtain ⟨r2, h2⟩ := arFold_pre l (arIn s n)
   exact ⟨r1 ++ r2, by rw [List.foldl_cons, h2, h1, List.append_assoc]⟩
theorem arFold_mem : ∀ (l s : List Int), ∀ n ∈ l, n ∈ l.foldl arIn s
 | [], _, n, h => by simp at h
 | m :: l, s, n, h => by
   rw [List.foldl_cons]
   rcases List.mem_cons.1 h with rfl | h
   ·obtain ⟨r, hr⟩ := arFold_pre l (arIn s n)
    rw [hr]
    refine List.mem_append.2 (.inl ?_)
    unfold arIn
    split
    ·rename_i a; simpa [hasI] using a
    ·simp
   ·exact arFold_mem l _ n h
structure ArI (g : Topo) (r : Int) (s : List Int) : Prop where
 nd : s.Nodup
 all : ∀ x ∈ s, hasR g.rs x = true ∧ ∃ k v, Wk g r k x v
theorem ArI.fold {g : Topo} (hg : g.Ok) {r : Int} {x : Int} {k : Nat} {v : Int} (hw : Wk g r k x v) : ∀ (l s : List Int), (∀ n ∈ l, n ∈ near g x) → ArI g r s → ArI g r (l.foldl arIn s)
 | [], _, _, h => h
 | n :: l, s, hl, h => by
   rw [List.foldl_cons]
   refine ArI.fold hg hw l _ (fun m hm => hl m (by simp [hm])) ?_
   unfold arIn
   split
   ·exact h
   ·rename_i hn
    have hni : n ∉ s := by simpa [hasI] using hn
    refine ⟨List.nodup_append.2 ⟨h.nd, by simp, fun a ha b hb => by simp at hb; subst hb; exact fun e => hni (e ▸ ha)⟩, fun y hy => ?_⟩
    rcases List.mem_append.1 hy with hy | hy
    ·exact h.all y hy
    ·simp at hy; subst hy
     have hnr := hl y (by simp)
     obtain ⟨c, hc⟩ := (near_iff hg).1 hnr
     obtain ⟨c', hc'⟩ := price_sym hg hc
     exact ⟨near_has hnr, k + 1, _, .cons hc' hw⟩
theorem arL_spec {g : Topo} (hg : g.Ok) {r : Int} : ∀ (k i : Nat) (s : List Int), ArI g r s → (∀ j < i, ∀ x, s[j]? = some x → ∀ n ∈ near g x, n ∈ s) → i ≤ s.length → g.rs.length + 1 ≤ k + i →
  ArI g r (arL g k i s) ∧ (∀ x ∈ s, x ∈ arL g k i s) ∧ ∀ x ∈ arL g k i s, ∀ n ∈ near g x, n ∈ arL g k i s
 | 0, i, s, h, _, hi, hk => by
   have := seen_le h.nd (fun x hx => (h.all x hx).1)
   omega
 | k + 1, i, s, h, hc, hi, hk => by
   rw [arL]
   split
   ·rename_i hlt
    have hx : s[i]? = some s[i] := List.getElem?_eq_getElem hlt
    have hxm := h.all _ (List.getElem_mem hlt)
    have e : s.getD i 0 = s[i] := by rw [List.getD_eq_getElem?_getD, hx]; rfl
    rw [e]
    generalize s[i] = x at hx hxm
    obtain ⟨_, m, v, hw⟩ := hxm
    obtain ⟨q, hq⟩ := arFold_pre (near g x) s
    have hsub : ∀ y ∈ s, y ∈ (near g x).foldl arIn s := fun y hy => by rw [hq]; exact List.mem_append.2 (.inl hy)
    obtain ⟨h4, h5, h6⟩ := arL_spec hg k (i + 1) ((near g x).foldl arIn s) (ArI.fold hg hw _ _ (fun _ h => h) h) (fun j hj y hy n hn => by
     rw [hq, List.getElem?_append_left (by omega)] at hy
     by_cases ej : j = i
     ·subst ej
      rw [hx] at hy; simp at hy; subst hy
      exact arFold_mem _ _ n hn
     ·exact hsub n (hc j (by omega) y hy n hn)) (by rw [hq, List.length_append]; omega) (by omega)
    exact ⟨h4, fun y hy => h5 y (hsub y hy), h6⟩
   ·rename_i hlt
    refine ⟨h, fun _ h => h, fun x hx n hn => ?_⟩
    obtain ⟨j, hj, rfl⟩ := List.mem_iff_getElem.1 hx
    exact hc j (by omega) _ (List.getElem?_eq_getElem hj) n hn
theorem mem_around {g : Topo} (hg : g.Ok) {r x : Int} (hr : hasR g.rs r = true) : x ∈ around g r ↔ ∃ k v, Wk g r k x v := by
 obtain ⟨h1, h2, h3⟩ := arL_spec hg (r := r) (g.rs.length + 1) 0 [r] ⟨by simp, fun y hy => by simp at hy; subst hy; exact ⟨hr, 0, 0, .nil⟩⟩ (fun j hj => by omega) (by simp) (by omega)
 have e : x ∈ around g r ↔ x ∈ aroundS g r := by
  unfold around
  rw [(insFold (aroundS g r) [] (by simp)).2 x]
  simp
 rw [e]
 constructor
 ·intro h; exact (h1.all x h).2
 ·rintro ⟨k, v, hw⟩
  have key : ∀ {k : Nat} {y v : Int}, Wk g r k y v → y ∈ arL g (g.rs.length + 1) 0 [r] := fun hw => by
   induction hw with
   | nil => exact h2 r (by simp)
   | cons hp _ ih =>
     obtain ⟨c', hc'⟩ := price_sym hg hp
     exact h3 _ ih _ ((near_iff hg).2 ⟨c', hc'⟩)
  exact key hw
theorem Wk.app {g : Topo} {a b : Int} {j k : Nat} {x v w : Int} (h1 : Wk g a j x v) (h2 : Wk g b k a w) : ∃ u, Wk g b (j + k) x u := by
 induction h1 with
 | nil => exact ⟨w, by rw [Nat.zero_add]; exact h2⟩
 | @cons k' x y c v hp _ ih =>
   obtain ⟨u, hu⟩ := ih
   exact ⟨c + u, by rw [show k' + 1 + k = k' + k + 1 by omega]; exact .cons hp hu⟩
theorem Wk.rev {g : Topo} (hg : g.Ok) {a : Int} {k : Nat} {x v : Int} (h : Wk g a k x v) : ∃ u, Wk g x k a u := by
 induction h with
 | nil => exact ⟨0, .nil⟩
 | @cons k x y c v hp _ ih =>
   obtain ⟨u, hu⟩ := ih
   obtain ⟨c', hc'⟩ := price_sym hg hp
   have := hu.app (.cons hc' .nil)
   exact this
theorem dst_iff {g : Topo} (hg : g.Ok) {to x : Int} (hto : hasR g.rs to = true) (hx : hasR g.rs x = true) : dst g to x < far ↔ ∃ k v, Wk g to k x v := by
 constructor
 ·intro h
  obtain ⟨k, hk⟩ := dst_real hg hto hx h
  exact ⟨k, _, hk⟩
 ·rintro ⟨k, v, h⟩
  exact (dst_walk hg hto h).2
theorem conn_iff {g : Topo} (hg : chkT g = 0) {a b : Int} : conn g a b = true ↔ hasR g.rs a = true ∧ hasR g.rs b = true ∧ dst g b a < far := by
 have hO := chkT_zero hg
 simp only [conn, hg, decide_true, Bool.true_and, Bool.and_eq_true]
 constructor
 ·rintro ⟨⟨h1, h2⟩, h3⟩
  refine ⟨h1, h2, ?_⟩
  obtain ⟨k, v, hw⟩ := (mem_around hO h1).1 (by simpa [hasI] using h3)
  obtain ⟨u, hu⟩ := hw.rev hO
  exact (dst_iff hO h2 h1).2 ⟨k, u, hu⟩
 ·rintro ⟨h1, h2, h3⟩
  refine ⟨⟨h1, h2⟩, ?_⟩
  obtain ⟨k, v, hw⟩ := (dst_iff hO h2 h1).1 h3
  obtain ⟨u, hu⟩ := hw.rev hO
  simpa [hasI] using (mem_around hO h1).2 ⟨k, u, hu⟩
open Go Go.Tr
theorem around05_c (g : Topo) (hg : g.Ok) (r : Int) (hr : hasR g.rs r = true) : Contract Tryz.prog 69 [topT g, .d (.int .i64 r)] [] (.d (ints (around g r))) [] [] := by
 refine contract_of Tryz.func69 rfl (fun E0 => ?_)
 refine awp.sound (g := .mk) (ow := [12]) (kp := (fun k => k==0||k==1||k==2||k==4||k==5||k==6||k==7||k==8||k==9||k==10||k==16||k==28||k==37||k==48)) ?_
 rw [Tryz.ntmps69]
 simp -dsimp [topT]
 try refine ⟨?_, ⟨by kernel_rfl⟩⟩
 unfold around aroundS
 have hr24 := hg.nr
 as_aux_lemma =>
 refine ALoop.of [12] (fun k => k==0||k==1||k==2||k==4||k==5||k==6||k==7||k==8||k==9||k==10||k==16||k==28||k==37||k==48) (ι := { w : (Nat × List Int) × Bool // w.1.1 ≤ w.1.2.length ∧ w.1.2.Nodup ∧ (∀ x ∈ w.1.2, hasR g.rs x = true) ∧ arL g (g.rs.length + 1) 0 [r] = arL g (g.rs.length + 1 - w.1.1) w.1.1 w.1.2 })
  (fun z => [(Pl.o 2, It.box [TV.d (.sl (rts g.rs)), TV.d (.sl (lks g.ls))]), (Pl.s 2, It.v (.ptr (Pl.o 2) 0)), (Pl.s 4, It.v (.c (Value.slice none 0 0))), (Pl.s 5, It.v (.oref 12 z.1.1.2.length)), (Pl.o 12, It.row 3 1 (dd (nrow .i64 z.1.1.2)) z.1.2), (Pl.s 6, It.v (.d (.int .i64 z.1.1.1)))]) (fun z => g.rs.length + 1 - z.1.1.1) ⟨((0, [r]), false), by simp, by simp, by simpa using hr, rfl⟩ ?_ ?_
 ·exact GS.to (by simp [dd, nrow])
 generalize arL g (g.rs.length + 1) 0 [r] = H
 rintro ⟨⟨⟨i, seen⟩, sh⟩, i1, i2, i3, i5⟩
 simp only at i1 i2 i3 i5
 have hsl := seen_le i2 i3
 by_cases hi : i < seen.length
 ·have hiz : (i : Int) < seen.length := by omega
  have hx : seen[i]? = some seen[i] := List.getElem?_eq_getElem hi
  generalize seen[i] = x at hx
  rw [show g.rs.length + 1 - i = (g.rs.length - i) + 1 by omega, arL, if_pos hi, getD_of hx] at i5
  have hsn := near_len g x
  have hsh : ∀ y ∈ near g x, hasR g.rs y = true := fun y hy => near_has hy
  simp -dsimp [hiz, row_get hx]
  and_intros
  all_goals try first | rfl | omega | exact ⟨by kernel_rfl⟩
  refine ACall.of (near05_c g hg.sm x) [] 0 ?_
  simp -dsimp [topT]
  and_intros
  all_goals try first | rfl | omega | exact ⟨by kernel_rfl⟩
  generalize near g x = n at hsn hsh i5
  refine ALoop.of [12] (fun k => k==0||k==1||k==2||k==4||k==5||k==6||k==7||k==8||k==9||k==10||k==16||k==28||k==37||k==48) (ι := { w : (Nat × List Int) × Bool // w.1.1 ≤ n.length ∧ i < w.1.2.length ∧ w.1.2.Nodup ∧ (∀ x ∈ w.1.2, hasR g.rs x = true) ∧ n.foldl arIn seen = (n.drop w.1.1).foldl arIn w.1.2 })
   (fun z => [(Pl.o 2, It.box [TV.d (.sl (rts g.rs)), TV.d (.sl (lks g.ls))]), (Pl.s 2, It.v (.ptr (Pl.o 2) 0)), (Pl.s 4, It.v (.c (Value.slice none 0 0))), (Pl.s 5, It.v (.oref 12 z.1.1.2.length)), (Pl.o 12, It.row 3 1 (dd (nrow .i64 z.1.1.2)) z.1.2), (Pl.s 6, It.v (.d (.int .i64 i))), (Pl.s 7, It.v (.d (ints n))), (Pl.s 8, It.v (.d (.int .i64 z.1.1.1)))]) (fun z => n.length - z.1.1.1) ⟨((0, seen), sh), by simp, hi, i2, i3, rfl⟩ ?_ ?_
  ·exact GS.to (by simp)
  generalize hR : n.foldl arIn seen = R at i5
  rintro ⟨⟨⟨k, seen⟩, sh⟩, k1, k2, k3, k4, k6⟩
  simp only at k1 k2 k3 k4 k6
  have hsl := seen_le k3 k4
  by_cases hk : k < n.length
  ·have hkz : (k : Int) < n.length := by omega
   have hy : n[k]? = some n[k] := List.getElem?_eq_getElem hk
   have hym := hsh _ (List.getElem_mem hk)
   have hdr : n.drop k = n[k] :: n.drop (k + 1) := List.drop_eq_getElem_cons hk
   generalize n[k] = y at hy hym hdr
   rw [hdr, List.foldl_cons, arIn] at k6
   simp -dsimp [hkz, hy, ints]
   and_intros
   all_goals try first | rfl | omega | exact ⟨by kernel_rfl⟩
   refine ACall.of (has04_c seen (by omega) y) [] 0 ?_
   rcases (Bool.eq_false_or_eq_true (hasI seen y)).symm with c2 | c2
   ·rw [if_neg (by simp [c2])] at k6
    simp -dsimp [c2, ints, hy, hkz, topT, wrap_i64 (n := (k : Int) + 1) (by omega) (by omega)]
    and_intros
    all_goals try first | rfl | omega | exact ⟨by kernel_rfl⟩
    have hnd : (seen ++ [y]).Nodup := by
     rw [List.nodup_append]
     refine ⟨k3, by simp, fun a ha b hb e => ?_⟩
     simp at hb; subst hb; subst e
     simp [hasI, ha] at c2
    exact ⟨⟨((k + 1, seen ++ [y]), true), by simp; omega, by simp; omega, hnd, fun x hx => by
     rcases List.mem_append.1 hx with hx | hx
     ·exact k4 x hx
     ·simp at hx; subst hx; exact hym, k6⟩, GS.to (by simp [nrow, ints]), by simp; omega⟩
   ·rw [if_pos c2] at k6
    simp -dsimp [c2, ints, hy, hkz, topT, wrap_i64 (n := (k : Int) + 1) (by omega) (by omega)]
    and_intros
    all_goals try first | rfl | omega | exact ⟨by kernel_rfl⟩
    exact ⟨⟨((k + 1, seen), true), by simp; omega, k2, k3, k4, k6⟩, GS.to (by simp [ints]), by simp; omega⟩
  ·have hkz : ¬ (k : Int) < n.length := by omega
   rw [List.drop_eq_nil_of_le (by omega), List.foldl_nil] at k6
   simp -dsimp [hkz, ints, wrap_i64 (n := (i : Int) + 1) (by omega) (by omega)]
   try refine ⟨?_, ⟨by kernel_rfl⟩⟩
   exact ⟨⟨((i + 1, seen), sh), by simp; omega, k3, k4, by rw [i5, k6, show g.rs.length + 1 - (i + 1) = g.rs.length - i by omega]⟩, GS.to (by simp [ints]), by simp; omega⟩
 ·have hiz : ¬ (i : Int) < seen.length := by omega
  have e : H = seen := by
   rw [i5]
   cases hm : g.rs.length + 1 - i with
   | zero => rfl
   | succ m => rw [arL, if_neg hi]
  subst e
  simp -dsimp [hiz]
  try refine ⟨?_, ⟨by kernel_rfl⟩⟩
  clear i5 i1 hi hiz
  refine ALoop.of [12] (fun k => k==0||k==1||k==2||k==4||k==5||k==6||k==7||k==8||k==9||k==10||k==16||k==28||k==37||k==48) (ι := { w : Nat × List Int // w.1 ≤ H.length ∧ w.2.length ≤ w.1 ∧ H.foldl insI [] = (H.drop w.1).foldl insI w.2 })
   (fun z => [(Pl.s 4, It.v (.c (Value.slice none 0 0))), (Pl.s 5, It.v (.oref 12 H.length)), (Pl.o 12, It.row 3 1 (dd (nrow .i64 H)) sh), (Pl.s 9, It.v (.d (ints z.1.2))), (Pl.s 10, It.v (.d (.int .i64 z.1.1)))]) (fun z => H.length - z.1.1) ⟨(0, []), by simp, by simp, rfl⟩ ?_ ?_
  ·exact GS.viewS 9 (by simp [ints])
  generalize H.foldl insI [] = R
  rintro ⟨⟨i, l⟩, i1, i2, i3⟩
  simp only at i1 i2 i3
  by_cases hi : i < H.length
  ·have hiz : (i : Int) < H.length := by omega
   have hx : H[i]? = some H[i] := List.getElem?_eq_getElem hi
   have hdr : H.drop i = H[i] :: H.drop (i + 1) := List.drop_eq_getElem_cons hi
   generalize H[i] = x at hx hdr
   rw [hdr, List.foldl_cons] at i3
   have hl := insI_len l x
   have hins := insert04_c l (by omega) x
   simp only [ints] at hins
   simp -dsimp [hiz, row_get hx, ints]
   and_intros
   all_goals try first | rfl | omega | exact ⟨by kernel_rfl⟩
   refine ACall.of hins [] 0 ?_
   simp -dsimp [wrap_i64 (n := (i : Int) + 1) (by omega) (by omega)]
   and_intros
   all_goals try first | rfl | omega | exact ⟨by kernel_rfl⟩
   exact ⟨⟨(i + 1, insI l x), by simp; omega, by simp; omega, i3⟩, GS.to (by simp [ints]), by simp; omega⟩
  ·have hiz : ¬ (i : Int) < H.length := by omega
   rw [List.drop_eq_nil_of_le (by omega), List.foldl_nil] at i3
   simp -dsimp [hiz]
   try refine ⟨?_, ⟨by kernel_rfl⟩⟩
   refine Fin.view 4 ?_
   simp -dsimp
   refine Fin.of ?_
   simp [i3]
theorem connected05_c (g : Topo) (hg : g.Sm) (a b : Int) : Contract Tryz.prog 24 [topT g, .d (.int .i64 a), .d (.int .i64 b)] [] (.d (.bool (conn g a b))) [] [] := by
 have h1 := has05x_c g hg a
 have h2 := has05x_c g hg b
 simp only [topT] at h1 h2
 refine contract_of Tryz.func24 rfl (fun E0 => ?_)
 refine awp.sound (g := .mk) (ow := []) (kp := (fun k => k==0||k==1||k==2||k==3||k==6)) ?_
 rw [Tryz.ntmps24]
 simp -dsimp [topT]
 try refine ⟨?_, ⟨by kernel_rfl⟩⟩
 refine ACall.of h1 [] 0 ?_
 rcases (Bool.eq_false_or_eq_true (decide (chkT g = 0) && hasR g.rs a)).symm with a1 | a1
 ·have e : conn g a b = false := by simp only [conn, a1, Bool.false_and]
  simp -dsimp [a1]
  try refine ⟨?_, ⟨by kernel_rfl⟩⟩
  refine Fin.of ?_
  simp [e]
 rcases (Bool.eq_false_or_eq_true (decide (chkT g = 0) && hasR g.rs b)).symm with a2 | a2
 ·have e : conn g a b = false := by
   simp only [Bool.and_eq_true, decide_eq_true_eq] at a1
   simp only [a1.1, decide_true, Bool.true_and] at a2
   simp only [conn, a2, Bool.and_false, Bool.false_and]
  simp -dsimp [a1]
  try refine ⟨?_, ⟨by kernel_rfl⟩⟩
  refine ACall.of h2 [] 0 ?_
  simp -dsimp [a2]
  try refine ⟨?_, ⟨by kernel_rfl⟩⟩
  refine Fin.of ?_
  simp [e]
 have hc : chkT g = 0 := by simp at a1; exact a1.1
 have ha : hasR g.rs a = true := by simp at a1; exact a1.2
 have hb : hasR g.rs b = true := by simp at a2; exact a2.2
 have h3 := around05_c g (chkT_zero hc) a ha
 have hl : (around g a).length ≤ 1000000 := by
  have h4 := (chkT_zero hc).nr
  have h5 := (insFold (aroundS g a) [] (by simp)).1
  have h6 : ∀ x ∈ around g a, hasR g.rs x = true := fun x hx => by
   obtain ⟨k, v, hw⟩ := (mem_around (chkT_zero hc) ha).1 hx
   exact hw.has (chkT_zero hc) ha
  have := seen_le (g := g) (l := around g a) (h5.imp fun h => by omega) h6
  omega
 have h7 := has04_c (around g a) hl b
 have e : conn g a b = hasI (around g a) b := by simp [conn, hc, ha, hb]
 rw [e]
 simp only [topT, ints] at h3 h7
 simp -dsimp [a1]
 try refine ⟨?_, ⟨by kernel_rfl⟩⟩
 refine ACall.of h2 [] 0 ?_
 simp -dsimp [a2]
 try refine ⟨?_, ⟨by kernel_rfl⟩⟩
 refine ACall.of h3 [] 0 ?_
 simp -dsimp
 try refine ⟨?_, ⟨by kernel_rfl⟩⟩
 refine ACall.of h7 [] 0 ?_
 simp -dsimp
 try refine ⟨?_, ⟨by kernel_rfl⟩⟩
 refine Fin.of ?_
 simp
end Go.Proofs

namespace Go.Proofs
open Go Go.Tr
open Classical in
noncomputable def costR (g : Topo) (f t : Int) : Option Int := if chkT g = 0 ∧ hasR g.rs f = true ∧ hasR g.rs t = true ∧ dst g t f ≠ far then some (dst g t f) else none
theorem cost06_c (g : Topo) (hg : g.Sm) (f t : Int) : Contract Tryz.prog 27 [topT g, .d (.int .i64 f), .d (.int .i64 t)] [] (priceT (costR g f t)) [] [] := by
 have h1 := has05x_c g hg f
 have h2 := has05x_c g hg t
 simp only [topT] at h1 h2
 refine contract_of Tryz.func27 rfl (fun E0 => ?_)
 refine awp.sound (g := .mk) (ow := []) (kp := (fun k => k==0||k==1||k==2||k==3||k==6||k==7||k==8||k==18||k==26)) ?_
 rw [Tryz.ntmps27]
 simp -dsimp [topT]
 try refine ⟨?_, ⟨by kernel_rfl⟩⟩
 refine ACall.of h1 [] 0 ?_
 rcases (Bool.eq_false_or_eq_true (decide (chkT g = 0) && hasR g.rs f)).symm with a1 | a1
 ·have e : costR g f t = none := by
   rw [costR, if_neg]; rintro ⟨h1, h2, _⟩; simp [h1, h2] at a1
  rw [e]
  simp -dsimp [a1]
  try refine ⟨?_, ⟨by kernel_rfl⟩⟩
  refine Fin.of ?_
  simp [priceT]
 have hc : chkT g = 0 := by simp at a1; exact a1.1
 have hf : hasR g.rs f = true := by simp at a1; exact a1.2
 rcases (Bool.eq_false_or_eq_true (decide (chkT g = 0) && hasR g.rs t)).symm with a2 | a2
 ·have e : costR g f t = none := by
   rw [costR, if_neg]; rintro ⟨h1, _, h2, _⟩; simp [h1, h2] at a2
  rw [e]
  simp -dsimp [a1]
  try refine ⟨?_, ⟨by kernel_rfl⟩⟩
  refine ACall.of h2 [] 0 ?_
  simp -dsimp [a2]
  try refine ⟨?_, ⟨by kernel_rfl⟩⟩
  refine Fin.of ?_
  simp [priceT]
 have ht : hasR g.rs t = true := by simp at a2; exact a2.2
 have hO := chkT_zero hc
 have h3 := to06_c g hO t
 have h4 := at06_c g hg (dist g t) (by rw [dist_len]; exact Nat.le_refl _) f
 have e3 : atR g (dist g t) f = dst g t f := rfl
 rw [e3] at h4
 simp only [topT, ints] at h3 h4
 simp -dsimp [a1]
 try refine ⟨?_, ⟨by kernel_rfl⟩⟩
 refine ACall.of h2 [] 0 ?_
 simp -dsimp [a2]
 try refine ⟨?_, ⟨by kernel_rfl⟩⟩
 refine ACall.of h3 [] 0 ?_
 simp -dsimp
 try refine ⟨?_, ⟨by kernel_rfl⟩⟩
 refine ACall.of h4 [] 0 ?_
 by_cases hd : dst g t f = 1073741824
 ·have e : costR g f t = none := by
   rw [costR, if_neg]; rintro ⟨_, _, _, h⟩; exact h hd
  rw [e]
  simp -dsimp [eq_true hd]
  try refine ⟨?_, ⟨by kernel_rfl⟩⟩
  refine Fin.of ?_
  simp [priceT]
 ·have e : costR g f t = some (dst g t f) := by rw [costR, if_pos ⟨hc, hf, ht, hd⟩]
  rw [e]
  simp -dsimp [eq_false hd]
  try refine ⟨?_, ⟨by kernel_rfl⟩⟩
  refine Fin.of ?_
  simp [priceT]
open Classical in
noncomputable def sameTB (a b : Tb) : Bool := decide (a = b)
open Classical in
noncomputable def sameRs (a b : List Rw) : Bool := decide (a = b)
theorem sameTB_t {a b : Tb} (h : a = b) : sameTB a b = true := by simp [sameTB, h]
theorem sameTB_f {a b : Tb} (h : a ≠ b) : sameTB a b = false := by simp [sameTB, h]
theorem sameRs_t {a b : List Rw} (h : a = b) : sameRs a b = true := by simp [sameRs, h]
theorem sameRs_f {a b : List Rw} (h : a ≠ b) : sameRs a b = false := by simp [sameRs, h]
theorem Rw.ext' {x y : Rw} (h1 : x.id = y.id) (h2 : x.nx = y.nx) : x = y := by cases x; cases y; simp_all
theorem Tb.ext' {x y : Tb} (h1 : x.r = y.r) (h2 : x.sd = y.sd) (h3 : x.len = y.len) (h4 : x.rows = y.rows) : x = y := by cases x; cases y; simp_all
theorem same11_c (a b : Tb) (ha : a.Sm) : Contract Tryz.prog 18 [tblT a, tblT b] [] (.d (.bool (sameTB a b))) [] [] := by
 refine contract_of Tryz.func18 rfl (fun E0 => ?_)
 refine awp.sound (g := .mk) (ow := []) (kp := (fun k => k==0||k==1||k==2||k==3||k==4||k==5||k==33||k==38||k==69)) ?_
 rw [Tryz.ntmps18]
 by_cases h1 : a.r = b.r
 case neg =>
  simp -dsimp [tblT, rwsD_eq, h1]
  and_intros
  all_goals try first | rfl | omega | exact ⟨by kernel_rfl⟩
  refine Fin.of ?_
  simp [sameTB_f (a := a) (b := b) fun e => h1 (by rw [e])]
 by_cases h2 : a.sd = b.sd
 case neg =>
  simp -dsimp [tblT, rwsD_eq, h1, h2]
  and_intros
  all_goals try first | rfl | omega | exact ⟨by kernel_rfl⟩
  refine Fin.of ?_
  simp [sameTB_f (a := a) (b := b) fun e => h2 (by rw [e])]
 by_cases h3 : a.len = b.len
 case neg =>
  simp -dsimp [tblT, rwsD_eq, h1, h2, h3]
  and_intros
  all_goals try first | rfl | omega | exact ⟨by kernel_rfl⟩
  refine Fin.of ?_
  simp [sameTB_f (a := a) (b := b) fun e => h3 (by rw [e])]
 by_cases h4 : a.rows.length = b.rows.length
 case neg =>
  have h4z : ¬ (a.rows.length : Int) = b.rows.length := by omega
  simp -dsimp [tblT, rwsD_eq, h1, h2, h3, h4z, h4]
  and_intros
  all_goals try first | rfl | omega | exact ⟨by kernel_rfl⟩
  refine Fin.of ?_
  simp [sameTB_f (a := a) (b := b) fun e => h4 (by rw [e])]
 have ha1 := ha.rows
 simp -dsimp [tblT, rwsD_eq, h1, h2, h3, h4]
 and_intros
 all_goals try first | rfl | omega | exact ⟨by kernel_rfl⟩
 refine ALoop.of [] (fun k => k==0||k==1||k==2||k==3||k==4||k==5||k==33||k==38||k==69) (ι := { i : Nat // i ≤ a.rows.length ∧ ∀ j, j < i → a.rows[j]? = b.rows[j]? })
  (fun z => [(Pl.o 2, It.box [.d (.int .i64 a.r), .d (.int .i64 a.sd), .d (.int .i64 a.len), .d (.sl (rws a.rows))]), (Pl.s 2, It.v (.ptr (.o 2) 0)), (Pl.o 3, It.box [.d (.int .i64 b.r), .d (.int .i64 b.sd), .d (.int .i64 b.len), .d (.sl (rws b.rows))]), (Pl.s 3, It.v (.ptr (.o 3) 0)), (Pl.s 4, It.v (.d (.bool false))), (Pl.s 5, It.v (.d (.int .i64 z.1)))])
  (fun z => a.rows.length - z.1) ⟨0, by omega, fun j h => by omega⟩ ?_ ?_
 ·exact GS.to (by simp [h1, h2, h3])
 ·rintro ⟨i, i1, i2⟩
  by_cases hi : i < a.rows.length
  ·have hi' : i < b.rows.length := by omega
   have hiz : (i : Int) < a.rows.length := by omega
   have hiz' : (i : Int) < b.rows.length := by omega
   have hx : a.rows[i]? = some a.rows[i] := List.getElem?_eq_getElem hi
   have hy : b.rows[i]? = some b.rows[i] := List.getElem?_eq_getElem hi'
   have hxl := ha.nx a.rows[i] (List.getElem_mem hi)
   generalize a.rows[i] = x at hx hxl
   generalize b.rows[i] = y at hy
   have hx' := rws_get hx
   have hy' := rws_get hy
   have hc := ints04_c x.nx y.nx hxl
   have w1 : IntKind.i64.wrap ((i : Int) + 1) = (i : Int) + 1 := wrap_i64 (by omega) (by omega)
   have hne : x ≠ y → a ≠ b := fun h e => h (by subst e; rw [hx] at hy; exact Option.some.inj hy)
   by_cases c1 : x.id = y.id
   ·simp -dsimp [hiz, hiz', hx', hy', c1]
    and_intros
    all_goals try first | rfl | omega | exact ⟨by kernel_rfl⟩
    refine ACall.of hc [] 0 ?_
    by_cases c2 : x.nx = y.nx
    ·simp -dsimp [c2, w1]
     and_intros
     all_goals try first | rfl | omega | exact ⟨by kernel_rfl⟩
     exact ⟨⟨i + 1, by omega, fun j hj => by
      by_cases e : j = i
      ·subst e; rw [hx, hy, Rw.ext' c1 c2]
      ·exact i2 j (by omega)⟩, GS.to (by simp), by simp; omega⟩
    ·simp -dsimp [c2]
     and_intros
     all_goals try first | rfl | omega | exact ⟨by kernel_rfl⟩
     refine Fin.of ?_
     simp [sameTB_f (hne fun e => c2 (by rw [e]))]
   ·simp -dsimp [hiz, hiz', hx', hy', c1]
    and_intros
    all_goals try first | rfl | omega | exact ⟨by kernel_rfl⟩
    refine Fin.of ?_
    simp [sameTB_f (hne fun e => c1 (by rw [e]))]
  ·have hiz : ¬ (i : Int) < a.rows.length := by omega
   simp -dsimp [hiz]
   and_intros
   all_goals try first | rfl | omega | exact ⟨by kernel_rfl⟩
   refine Fin.of ?_
   have : a = b := Tb.ext' h1 h2 h3 (List.ext_getElem? fun j => by
    by_cases hj : j < i
    ·exact i2 j hj
    ·rw [List.getElem?_eq_none (by omega), List.getElem?_eq_none (by omega)])
   simp [sameTB_t this]
noncomputable def bldR (g : Topo) (p : Pn) (r : Int) : Tb × Int :=
 if chkT g = 0 ∧ planB p = true then (if hasR g.rs r = true then (if capR g.rs r = true then (buildT g p r, 0) else (tb0, 26)) else (tb0, 4)) else (tb0, 1)
def bldT (x : Tb × Int) : TV := .tup [tblT x.1, .d (.int .i64 x.2)]
theorem planB_len {p : Pn} (h : planB p = true) : p.es.length ≤ 24 := by
 simp only [planB, decide_eq_true_eq] at h
 have := h.1
 simp [baseB, inB] at this
 omega
theorem tbuildT_c (g : Topo) (hs : g.Sm) (p : Pn) (hp : p.es.length ≤ 1000) (r : Int) : Contract Tryz.prog 16 [topT g, planT p, .d (.int .i64 r)] [] (bldT (bldR g p r)) [] [] := by
 have k1 := tpcheck_c g hs.r hs.l
 have k2 := validPlan_c p hp
 have k3 := thas_c g hs r
 have k4 := tcapable_c g hs r
 simp only [topT, planT] at k1 k2 k3 k4
 by_cases h0 : chkT g = 0
 case neg =>
  have e : bldR g p r = (tb0, 1) := by unfold bldR; rw [if_neg (fun h => h0 h.1)]
  rw [e]
  refine contract_of Tryz.func16 rfl (fun E0 => ?_)
  refine awp.sound (g := .mk) (ow := []) (kp := (fun k => k==0||k==1||k==2||k==3||k==4||k==6||k==7||k==8||k==18||k==24)) ?_
  rw [Tryz.ntmps16]
  simp -dsimp [topT, planT]
  refine ACall.of k1 [] 0 ?_
  simp -dsimp [h0]
  and_intros
  all_goals try first | rfl | omega | exact ⟨by kernel_rfl⟩
  refine Fin.box (.o 6) rfl ?_
  simp -dsimp
  refine Fin.of ?_
  simp [bldT, tb0, tblT, rwsD]
 simp only [h0, decide_true, Bool.true_and] at k1 k3 k4
 rcases (Bool.eq_false_or_eq_true (planB p)).symm with hp2 | hp2
 ·have e : bldR g p r = (tb0, 1) := by unfold bldR; rw [if_neg (by simp [hp2])]
  rw [e]
  rw [hp2] at k2
  refine contract_of Tryz.func16 rfl (fun E0 => ?_)
  refine awp.sound (g := .mk) (ow := []) (kp := (fun k => k==0||k==1||k==2||k==3||k==4||k==6||k==7||k==8||k==18||k==24)) ?_
  rw [Tryz.ntmps16]
  simp -dsimp [topT, planT]
  refine ACall.of k1 [] 0 ?_
  simp -dsimp
  refine ACall.of k2 [] 0 ?_
  simp -dsimp
  and_intros
  all_goals try first | rfl | omega | exact ⟨by kernel_rfl⟩
  refine Fin.box (.o 6) rfl ?_
  simp -dsimp
  refine Fin.of ?_
  simp [bldT, tb0, tblT, rwsD]
 rw [hp2] at k2
 rcases (Bool.eq_false_or_eq_true (hasR g.rs r)).symm with hh | hh
 ·have e : bldR g p r = (tb0, 4) := by unfold bldR; rw [if_pos ⟨h0, hp2⟩, if_neg (by simp [hh])]
  rw [e]
  rw [hh] at k3
  refine contract_of Tryz.func16 rfl (fun E0 => ?_)
  refine awp.sound (g := .mk) (ow := []) (kp := (fun k => k==0||k==1||k==2||k==3||k==4||k==6||k==7||k==8||k==18||k==24)) ?_
  rw [Tryz.ntmps16]
  simp -dsimp [topT, planT]
  refine ACall.of k1 [] 0 ?_
  simp -dsimp
  refine ACall.of k2 [] 0 ?_
  simp -dsimp
  try refine ⟨?_, ⟨by kernel_rfl⟩⟩
  refine ACall.of k3 [] 0 ?_
  simp -dsimp
  and_intros
  all_goals try first | rfl | omega | exact ⟨by kernel_rfl⟩
  refine Fin.box (.o 6) rfl ?_
  simp -dsimp
  refine Fin.of ?_
  simp [bldT, tb0, tblT, rwsD]
 rw [hh] at k3
 rcases (Bool.eq_false_or_eq_true (capR g.rs r)).symm with hc | hc
 ·have e : bldR g p r = (tb0, 26) := by unfold bldR; rw [if_pos ⟨h0, hp2⟩, if_pos hh, if_neg (by simp [hc])]
  rw [e]
  rw [hc] at k4
  refine contract_of Tryz.func16 rfl (fun E0 => ?_)
  refine awp.sound (g := .mk) (ow := []) (kp := (fun k => k==0||k==1||k==2||k==3||k==4||k==6||k==7||k==8||k==18||k==24)) ?_
  rw [Tryz.ntmps16]
  simp -dsimp [topT, planT]
  refine ACall.of k1 [] 0 ?_
  simp -dsimp
  refine ACall.of k2 [] 0 ?_
  simp -dsimp
  try refine ⟨?_, ⟨by kernel_rfl⟩⟩
  refine ACall.of k3 [] 0 ?_
  simp -dsimp
  try refine ⟨?_, ⟨by kernel_rfl⟩⟩
  refine ACall.of k4 [] 0 ?_
  simp -dsimp
  and_intros
  all_goals try first | rfl | omega | exact ⟨by kernel_rfl⟩
  refine Fin.box (.o 6) rfl ?_
  simp -dsimp
  refine Fin.of ?_
  simp [bldT, tb0, tblT, rwsD]
 have e : bldR g p r = (buildT g p r, 0) := by unfold bldR; rw [if_pos ⟨h0, hp2⟩, if_pos hh, if_pos hc]
 rw [e]
 rw [hc] at k4
 have k5 := tbuild_c g h0 p (by have := planB_len hp2; omega) [r] (by simp) (by simpa using hh)
 simp only [topT, planT, ints, List.map, tbs, Tb.cs, rwsD_eq] at k5
 refine contract_of Tryz.func16 rfl (fun E0 => ?_)
 refine awp.sound (g := .mk) (ow := []) (kp := (fun k => k==0||k==1||k==2||k==3||k==4||k==6||k==7||k==8||k==18||k==24)) ?_
 rw [Tryz.ntmps16]
 simp -dsimp [topT, planT]
 refine ACall.of k1 [] 0 ?_
 simp -dsimp
 refine ACall.of k2 [] 0 ?_
 simp -dsimp
 try refine ⟨?_, ⟨by kernel_rfl⟩⟩
 refine ACall.of k3 [] 0 ?_
 simp -dsimp
 try refine ⟨?_, ⟨by kernel_rfl⟩⟩
 refine ACall.of k4 [] 0 ?_
 simp -dsimp
 try refine ⟨?_, ⟨by kernel_rfl⟩⟩
 refine ACall.of k5 [] 0 ?_
 simp -dsimp
 and_intros
 all_goals try first | rfl | omega | exact ⟨by kernel_rfl⟩
 refine Fin.of ?_
 simp [bldT, tblT, rwsD_eq]
def capI (l : List Rt) : List Int := (l.filter fun x => x.cap).map (·.id)
theorem capI_len (l : List Rt) : (capI l).length ≤ l.length := by
 unfold capI; rw [List.length_map]; exact List.length_filter_le _ _
theorem tabs_eq (g : Topo) (p : Pn) : tabs g p g.rs = (capI g.rs).map (buildT g p) := by
 simp [tabs, capI, List.map_map, Function.comp_def]
theorem tall_c (g : Topo) (hs : g.Sm) (p : Pn) (hp : p.es.length ≤ 1000) : Contract Tryz.prog 25 [topT g, planT p] [] (allT (all11 g p).1 (all11 g p).2) [] [] := by
 have k1 := tpcheck_c g hs.r hs.l
 have k2 := validPlan_c p hp
 simp only [topT, planT] at k1 k2
 by_cases h0 : chkT g = 0
 case neg =>
  have e : all11 g p = ([], 1) := by unfold all11; rw [if_neg (fun h => h0 h.1)]
  rw [e]
  refine contract_of Tryz.func25 rfl (fun E0 => ?_)
  refine awp.sound (g := .mk) (ow := []) (kp := (fun k => k==0||k==1||k==2||k==3||k==4||k==5||k==6||k==8||k==16||k==18||k==19||k==20||k==21||k==25)) ?_
  rw [Tryz.ntmps25]
  simp -dsimp [topT, planT]
  refine ACall.of k1 [] 0 ?_
  simp -dsimp [h0]
  and_intros
  all_goals try first | rfl | omega | exact ⟨by kernel_rfl⟩
  refine Fin.view 4 ?_
  simp -dsimp
  refine Fin.of ?_
  simp [allT]
 rw [h0] at k1
 rcases (Bool.eq_false_or_eq_true (planB p)).symm with hp2 | hp2
 ·have e : all11 g p = ([], 1) := by unfold all11; rw [if_neg (by simp [hp2])]
  rw [e]
  rw [hp2] at k2
  refine contract_of Tryz.func25 rfl (fun E0 => ?_)
  refine awp.sound (g := .mk) (ow := []) (kp := (fun k => k==0||k==1||k==2||k==3||k==4||k==5||k==6||k==8||k==16||k==18||k==19||k==20||k==21||k==25)) ?_
  rw [Tryz.ntmps25]
  simp -dsimp [topT, planT]
  refine ACall.of k1 [] 0 ?_
  simp -dsimp
  refine ACall.of k2 [] 0 ?_
  simp -dsimp
  and_intros
  all_goals try first | rfl | omega | exact ⟨by kernel_rfl⟩
  refine Fin.view 4 ?_
  simp -dsimp
  refine Fin.of ?_
  simp [allT]
 rw [hp2] at k2
 have hg := chkT_zero h0
 have hnr := hg.nr
 have e : all11 g p = ((capI g.rs).map (buildT g p), 0) := by unfold all11; rw [if_pos ⟨h0, hp2⟩, tabs_eq]
 rw [e]
 have hcl := capI_len g.rs
 have k5 := tbuild_c g h0 p (by have := planB_len hp2; omega) (capI g.rs) (by omega) (fun r hr => by
  obtain ⟨x, hx, rfl⟩ := List.mem_map.1 hr
  exact hasR_mem.2 (List.mem_map.2 ⟨x, (List.mem_filter.1 hx).1, rfl⟩))
 simp only [topT, planT] at k5
 refine contract_of Tryz.func25 rfl (fun E0 => ?_)
 refine awp.sound (g := .mk) (ow := []) (kp := (fun k => k==0||k==1||k==2||k==3||k==4||k==5||k==6||k==8||k==16||k==18||k==19||k==20||k==21||k==25)) ?_
 rw [Tryz.ntmps25]
 simp -dsimp [topT, planT]
 refine ACall.of k1 [] 0 ?_
 simp -dsimp
 refine ACall.of k2 [] 0 ?_
 simp -dsimp
 try refine ⟨?_, ⟨by kernel_rfl⟩⟩
 refine ALoop.of [] (fun k => k==0||k==1||k==2||k==3||k==4||k==5||k==6||k==8||k==16||k==18||k==19||k==20||k==21||k==25) (ι := { i : Nat // i ≤ g.rs.length })
  (fun z => [(Pl.o 2, It.box [TV.d (.sl (rts g.rs)), TV.d (.sl (lks g.ls))]), (Pl.s 2, It.v (.ptr (.o 2) 0)), (Pl.o 3, It.box [TV.d (.int .i64 p.subd), TV.d (.int .i64 p.len), TV.d (.sl (eds p.es))]), (Pl.s 3, It.v (.ptr (.o 3) 0)), (Pl.s 4, It.v (.c (.slice none 0 0))), (Pl.s 5, It.v (.d (.int .i64 0))), (Pl.s 6, It.v (.oref 6 (capI (g.rs.take z.1)).length)), (Pl.o 6, It.row 3 1 (dd (nrow .i64 (capI (g.rs.take z.1)))) false),
   (Pl.s 18, It.v (.d (.sl (rts g.rs)))), (Pl.s 19, It.v (.d (.int .i64 g.rs.length))), (Pl.s 20, It.v (.d (.int .i64 z.1)))])
  (fun z => g.rs.length - z.1) ⟨0, by omega⟩ ?_ ?_
 ·exact GS.own' (k := 6) 3 1 (by simp) (by simp) (by simp [capI, nrow])
 ·rintro ⟨i, i1⟩
  by_cases hi : i < g.rs.length
  ·have hiz : (i : Int) < g.rs.length := by omega
   have hx : g.rs[i]? = some g.rs[i] := List.getElem?_eq_getElem hi
   have ht : g.rs.take (i + 1) = g.rs.take i ++ [g.rs[i]] := by rw [List.take_add_one, List.getElem?_eq_getElem hi]; rfl
   generalize g.rs[i] = x at hx ht
   have hx' := rts_get hx
   have hcl2 := capI_len (g.rs.take i)
   rw [List.length_take] at hcl2
   have w1 : IntKind.i64.wrap ((i : Int) + 1) = (i : Int) + 1 := wrap_i64 (by omega) (by omega)
   rcases (Bool.eq_false_or_eq_true x.cap).symm with h | h
   ·have hn : capI (g.rs.take (i + 1)) = capI (g.rs.take i) := by simp [capI, ht, h]
    simp -dsimp [hiz, hx', Rt.cs, h, w1]
    and_intros
    all_goals try first | rfl | omega | exact ⟨by kernel_rfl⟩
    exact ⟨⟨i + 1, by omega⟩, GS.to (by simp [hn]), by simp; omega⟩
   ·have hn : capI (g.rs.take (i + 1)) = capI (g.rs.take i) ++ [x.id] := by simp [capI, ht, h]
    simp -dsimp [hiz, hx', Rt.cs, h, w1]
    and_intros
    all_goals try first | rfl | omega | exact ⟨by kernel_rfl⟩
    exact ⟨⟨i + 1, by omega⟩, GS.to (by simp [hn, nrow]), by simp; omega⟩
  ·have hiz : ¬ (i : Int) < g.rs.length := by omega
   obtain rfl : i = g.rs.length := by omega
   rw [List.take_length]
   simp only [ints] at k5
   simp -dsimp [hiz, nrow]
   and_intros
   all_goals try first | rfl | omega | exact ⟨by kernel_rfl⟩
   refine ACall.of k5 [] 0 ?_
   simp -dsimp
   and_intros
   all_goals try first | rfl | omega | exact ⟨by kernel_rfl⟩
   refine Fin.of ?_
   simp [allT_eq]
end Go.Proofs

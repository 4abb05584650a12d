/-
  What functions of the program compute, stated as contracts over plain data; the conditions of each stand in its own statement.
-/
import Derived.Test.YtffjbciladpdlaaGreatZN27
import Derived.Test.YtffjbciladpdlaaGreatZN33
set_option linter.unusedSimpArgs false
set_option maxRecDepth 100000
set_option maxHeartbeats 16000000
namespace Go.Proofs
open Go Go.Tr
theorem index_e_c (l : List Ed) (hl : l.length ≤ 1000000) (f : FuncId) (ds : List D) (q : Ed → Bool) (hf : ∀ x, Contract Tryz.prog f [.agg (x.cs.map .d), .ptr (.x 0) 0] [.box (ds.map .d)] (.d (.bool (q x))) [.box (ds.map .d)] []) (hok : fnOK Tryz.prog f = true) :
  Contract Tryz.prog 128 [.d (.sl (eds l)), .clo f [.ptr (.x 0) 0]] [.box (ds.map .d)] (.d (.int .i64 (idxR q l))) [.box (ds.map .d)] [] := by
 refine contract_of Tryz.func128 rfl (fun E0 => ?_)
 refine awp.sound (g := .mk) (ow := []) (kp := (fun k => k==0||k==1||k==4||k==5||k==7||k==8||k==9||k==16)) ?_
 rw [Tryz.ntmps128]
 simp -dsimp
 refine ALoop.of [] (fun k => k==0||k==1||k==4||k==5||k==7||k==8||k==9||k==16) (ι := { i : Nat // i ≤ l.length ∧ ∀ a, a < i → ∀ x, l[a]? = some x → q x = false })
  (fun z => [(Pl.s 0, It.v (.d (.sl (eds l)))), (Pl.s 1, It.v (.clo f [TV.ptr (Pl.x 0) 0])), (Pl.x 0, It.box (List.map TV.d ds)), (Pl.s 4, It.v (.d (.int .i64 0))), (Pl.s 7, It.v (.d (.int .i64 l.length))), (Pl.s 8, It.v (.d (.int .i64 z.1)))]) (fun z => l.length - z.1) ⟨0, by omega, fun a h => by omega⟩ ?_ ?_
 ·exact GS.to (by simp)
 ·rintro ⟨i, i1, i2⟩
  by_cases hi : i < l.length
  ·obtain ⟨x, hx⟩ : ∃ x, l[i]? = some x := ⟨l[i], List.getElem?_eq_getElem hi⟩
   simp -dsimp [hi, eds_get' hx, Ed.cs, wrap_i64 (n := (i : Int) + 1) (by omega) (by omega)]
   refine ACall.of (hf x) [.x 0] 0 ?_
   rcases (Bool.eq_false_or_eq_true (q x)).symm with h | h
   ·simp -dsimp [h, hok, Ed.cs, wrap_i64 (n := (i : Int) + 1) (by omega) (by omega)]
    exact ⟨⟨i + 1, by omega, fun a ha y hy => by
     by_cases e : a = i
     ·subst e; rw [hx] at hy; simp only [Option.some.injEq] at hy; subst hy; exact h
     ·exact i2 a (by omega) y hy⟩, GS.to (by simp), by simp; omega⟩
   ·simp -dsimp [h, hok, Ed.cs]
    refine Fin.of ?_
    simp [idx_at hx h i2]
  ·simp -dsimp [hi]
   refine Fin.of ?_
   simp
   exact (idx_no fun a ha => i2 a (by omega)).symm
theorem contains_e_c (l : List Ed) (hl : l.length ≤ 1000000) (f : FuncId) (ds : List D) (q : Ed → Bool) (hf : ∀ x, Contract Tryz.prog f [.agg (x.cs.map .d), .ptr (.x 0) 0] [.box (ds.map .d)] (.d (.bool (q x))) [.box (ds.map .d)] []) (hok : fnOK Tryz.prog f = true) :
  Contract Tryz.prog 104 [.d (.sl (eds l)), .clo f [.ptr (.x 0) 0]] [.box (ds.map .d)] (.d (.bool (l.any q))) [.box (ds.map .d)] [] := by
 refine contract_of Tryz.func104 rfl (fun E0 => ?_)
 refine awp.sound (g := .mk) (ow := []) (kp := (fun k => k==0||k==1||k==4)) ?_
 rw [Tryz.ntmps104]
 simp -dsimp
 refine ACall.of (index_e_c l hl f ds q hf hok) [.x 0] 0 ?_
 simp -dsimp
 refine Fin.of ?_
 simp [idx_any]
theorem vp1_c (x y : Ed) : Contract Tryz.prog 105 [.agg (y.cs.map .d), .ptr (.x 0) 0] [.box (x.cs.map .d)] (.d (.bool (decide (y.r = x.r)))) [.box (x.cs.map .d)] [] := by
 refine contract_of Tryz.func105 rfl (fun E0 => ?_)
 refine awp.sound (g := .mk) (ow := []) (kp := (fun k => k==0||k==1||k==2||k==3)) ?_
 rw [Tryz.ntmps105]
 simp -dsimp [Ed.cs]
 refine Fin.of ?_
 simp
theorem validPlan_c (p : Pn) (hp : p.es.length ≤ 1000) : Contract Tryz.prog 51 [planT p] [] (.d (.bool (planB p))) [] [] := by
 refine contract_of Tryz.func51 rfl (fun E0 => ?_)
 refine awp.sound (g := .mk) (ow := []) (kp := (fun k => k==0||k==1||k==2||k==3||k==4||k==5||k==32||k==34||k==35||k==36||k==37||k==75)) ?_
 rw [Tryz.ntmps51]
 simp -dsimp [planT]
 refine ACall.of (in10_c p.subd 0 7) [] 0 ?_
 rcases (Bool.eq_false_or_eq_true (inB p.subd 0 7)).symm with a1 | a1
 ·simp -dsimp [a1]
  refine Fin.of ?_
  simp
  exact planB_base (by simp [baseB, a1])
 ·simp -dsimp [a1]
  refine ACall.of (validLength_c2 p.len) [] 0 ?_
  rcases (Bool.eq_false_or_eq_true (validLen p.len)).symm with a2 | a2
  ·by_cases a3 : p.len = 0
   ·by_cases a4 : p.es.length = 0
    ·have hb : baseB p = true := by simp [baseB, a1, a2, a3, a4, show validLen 0 = false from rfl]
     simp -dsimp [a1, a2, a3, a4, show validLen 0 = false from rfl]
     refine ALoop.of [] (fun k => k==0||k==1||k==2||k==3||k==4||k==5||k==32||k==34||k==35||k==36||k==37||k==75) (ι := Unit)
      (fun z => [(Pl.s 0, It.v (.agg [TV.d (.int .i64 p.subd), TV.d (.int .i64 p.len), TV.d (.sl (eds p.es))])), (Pl.o 1, It.box [TV.d (.int .i64 p.subd), TV.d (.int .i64 p.len), TV.d (.sl (eds p.es))]),
       (Pl.s 1, It.v (.ptr (Pl.o 1) 0)), (Pl.s 2, It.v (.d (.bool false))), (Pl.s 34, It.v (.d (.sl (eds p.es)))), (Pl.s 35, It.v (.d (.int .i64 0))), (Pl.s 36, It.v (.d (.int .i64 0)))])
      (fun z => 0) () ?_ ?_
     ·exact GS.to (by simp [a3, a4])
     ·rintro ⟨⟩
      simp -dsimp [a4]
      refine Fin.of ?_
      simp
      exact planB_ok hb (fun i hi => by omega) (fun i j hj hi => by omega)
    ·have a5 : 0 < p.es.length := by omega
     simp -dsimp [a1, a2, a3, a4, a5, show validLen 0 = false from rfl]
     refine Fin.of ?_
     simp
     exact planB_base (by simp [baseB, a1, a2, a3, a4, show validLen 0 = false from rfl])
   ·simp -dsimp [a1, a2, a3]
    refine Fin.of ?_
    simp
    exact planB_base (by simp [baseB, a1, a2, a3])
  ·by_cases a6 : p.es.length ≤ 24
   ·have a7 : ¬ (24 : Int) < p.es.length := by omega
    have hb : baseB p = true := by simp [baseB, a1, a2, a6]
    simp -dsimp [a1, a2, a7]
    refine ALoop.of [] (fun k => k==0||k==1||k==2||k==3||k==4||k==5||k==32||k==34||k==35||k==36||k==37||k==75) (ι := { i : Nat // i ≤ p.es.length ∧ (∀ a, a < i → edB p.es a = true) ∧ ∀ a b, b < a → a < i → grt p.es a ≠ grt p.es b })
     (fun z => [(Pl.s 0, It.v (.agg [TV.d (.int .i64 p.subd), TV.d (.int .i64 p.len), TV.d (.sl (eds p.es))])), (Pl.o 1, It.box [TV.d (.int .i64 p.subd), TV.d (.int .i64 p.len), TV.d (.sl (eds p.es))]),
      (Pl.s 1, It.v (.ptr (Pl.o 1) 0)), (Pl.s 2, It.v (.d (.bool false))), (Pl.s 34, It.v (.d (.sl (eds p.es)))), (Pl.s 35, It.v (.d (.int .i64 p.es.length))), (Pl.s 36, It.v (.d (.int .i64 z.1)))])
     (fun z => p.es.length - z.1) ⟨0, by omega, fun a h => by omega, fun a b _ h => by omega⟩ ?_ ?_
    ·exact GS.to (by simp)
    ·rintro ⟨i, i1, i2, i3⟩
     by_cases hi : i < p.es.length
     ·obtain ⟨x, hx⟩ : ∃ x, p.es[i]? = some x := ⟨p.es[i], List.getElem?_eq_getElem hi⟩
      have gx : gid p.es i = x.id ∧ grt p.es i = x.r := by simp [gid, grt, List.getD, hx]
      simp -dsimp [hi, eds_get' hx, Ed.cs, eds_take, wrap_i64 (n := (i : Int) + 1) (by omega) (by omega)]
      refine ⟨i1, ?_, ?_⟩
      ·intro e he
       obtain ⟨w, _, rfl⟩ := List.mem_map.1 he
       rfl
      refine ACall.of (contains_e_c (p.es.take i) (by simp; omega) 105 x.cs (fun y => decide (y.r = x.r)) (vp1_c x) (by simp)) [.o 4] 0 ?_
      simp -dsimp [Ed.cs]
      refine ACall.of (in10_c x.id 1 256) [] 0 ?_
      rcases (Bool.eq_false_or_eq_true (inB x.id 1 256)).symm with b1 | b1
      ·simp -dsimp [b1]
       try refine ⟨?_, ⟨by kernel_rfl⟩⟩
       refine Fin.of ?_
       simp
       exact planB_ed hi (by simp [edB, gx, b1])
      ·simp -dsimp [b1]
       refine ACall.of (in10_c x.r 1 99) [] 0 ?_
       rcases (Bool.eq_false_or_eq_true (inB x.r 1 99)).symm with b2 | b2
       ·simp -dsimp [b1, b2]
        try refine ⟨?_, ⟨by kernel_rfl⟩⟩
        refine Fin.of ?_
        simp
        exact planB_ed hi (by simp [edB, gx, b1, b2])
       ·rcases (Bool.eq_false_or_eq_true ((p.es.take i).any fun y => decide (y.r = x.r))).symm with b8 | b8
        ·have hne : ∀ b, b < i → grt p.es i ≠ grt p.es b := fun b hb => by
          rw [List.any_eq_false] at b8
          obtain ⟨y, hy⟩ : ∃ y, p.es[b]? = some y := ⟨p.es[b], List.getElem?_eq_getElem (by omega)⟩
          have := b8 y (by
           refine List.mem_of_getElem? (i := b) ?_
           rw [List.getElem?_take, if_pos hb]; exact hy)
          have gb : grt p.es b = y.r := by simp [grt, List.getD, hy]
          rw [gx.2, gb]
          intro h; rw [h] at this; simp at this
         by_cases b3 : 0 < i
         ·obtain ⟨y, hy⟩ : ∃ y, p.es[i - 1]? = some y := ⟨p.es[i - 1], List.getElem?_eq_getElem (by omega)⟩
          have gy : gid p.es (i - 1) = y.id := by simp [gid, List.getD, hy]
          have b5 : (1 : Int) ≤ i := by omega
          have b6 : (i : Int) - 1 < p.es.length := by omega
          have b7 : i ≠ 0 := by omega
          by_cases b4 : x.id ≤ y.id
          ·simp -dsimp [b1, b2, b8, b3, b4, b5, b6, eds_get hy, Ed.cs, wrap_i64 (n := (i : Int) - 1) (by omega) (by omega)]
           refine ⟨?_, ⟨by kernel_rfl⟩⟩
           refine Fin.of ?_
           simp
           exact planB_ed hi (by simp [edB, gx, gy, b1, b2, b7] <;> omega)
          ·simp -dsimp [b1, b2, b8, b3, b4, b5, b6, eds_get hy, Ed.cs, wrap_i64 (n := (i : Int) - 1) (by omega) (by omega), wrap_i64 (n := (i : Int) + 1) (by omega) (by omega)]
           try refine ⟨?_, ⟨by kernel_rfl⟩⟩
           exact ⟨⟨i + 1, by omega, fun a ha => by
            by_cases e : a = i
            ·subst e; simp [edB, gx, gy, b1, b2] <;> omega
            ·exact i2 a (by omega), fun a b h1 h2 => by
            by_cases e : a = i
            ·subst e; exact hne b h1
            ·exact i3 a b h1 (by omega)⟩, GS.to (by simp), by simp; omega⟩
         ·obtain rfl : i = 0 := by omega
          simp -dsimp [b1, b2, b8, wrap_i64 (n := 1) (by omega) (by omega)]
          try refine ⟨?_, ⟨by kernel_rfl⟩⟩
          exact ⟨⟨1, by omega, fun a ha => by
           obtain rfl : a = 0 := by omega
           simp [edB, gx, b1, b2], fun a b h1 h2 => by omega⟩, GS.to (by simp), by simp; omega⟩
        ·simp -dsimp [b1, b2, b8]
         try refine ⟨?_, ⟨by kernel_rfl⟩⟩
         refine Fin.of ?_
         simp
         rw [List.any_eq_true] at b8
         obtain ⟨y, hy, he⟩ := b8
         obtain ⟨b, hb⟩ := List.getElem?_of_mem hy
         have hbi : b < i := by have := (List.getElem?_eq_some_iff.1 hb).1; simp at this; omega
         rw [List.getElem?_take, if_pos hbi] at hb
         have gb : grt p.es b = y.r := by simp [grt, List.getD, hb]
         exact planB_rt hbi hi (by rw [gx.2, gb]; simp at he; exact he.symm)
     ·simp -dsimp [hi]
      refine Fin.of ?_
      simp
      exact planB_ok hb (fun a ha => i2 a (by omega)) (fun a b h1 h2 => i3 a b h1 (by omega))
   ·have a7 : (24 : Int) < p.es.length := by omega
    simp -dsimp [a1, a2, a7]
    refine Fin.of ?_
    simp
    exact planB_base (by simp [baseB, a1, a2, a6])
end Go.Proofs

set_option linter.unusedVariables false
namespace Go.Proofs
def arIn (s : List Int) (n : Int) : List Int := if hasI s n = true then s else s ++ [n]
structure ArI (g : Topo) (r : Int) (s : List Int) : Prop where
 nd : s.Nodup
 all : ∀ x ∈ s, hasR g.rs x = true ∧ ∃ k v, Wk g r k x v
theorem ArI.fold {g : Topo} (hg : g.Ok) {r : Int} {x : Int} {k : Nat} {v : Int} (hw : Wk g r k x v) : ∀ (l s : List Int), (∀ n ∈ l, n ∈ near g x) → ArI g r s → ArI g r (l.foldl arIn s)
 | [], _, _, h => h
 | n :: l, s, hl, h => by
   rw [List.foldl_cons]
   refine ArI.fold hg hw l _ (fun m hm => hl m (by simp [hm])) ?_
   unfold arIn
   split
   ·exact h
   ·rename_i hn
    have hni : n ∉ s := by simpa [hasI] using hn
    refine ⟨List.nodup_append.2 ⟨h.nd, by simp, fun a ha b hb => by simp at hb; subst hb; exact fun e => hni (e ▸ ha)⟩, fun y hy => ?_⟩
    rcases List.mem_append.1 hy with hy | hy
    ·exact h.all y hy
    ·simp at hy; subst hy
     have hnr := hl y (by simp)
     obtain ⟨c, hc⟩ := (near_iff hg).1 hnr
     obtain ⟨c', hc'⟩ := price_sym hg hc
     exact ⟨near_has hnr, k + 1, _, .cons hc' hw⟩
theorem Wk.app {g : Topo} {a b : Int} {j k : Nat} {x v w : Int} (h1 : Wk g a j x v) (h2 : Wk g b k a w) : ∃ u, Wk g b (j + k) x u := by
 induction h1 with
 | nil => exact ⟨w, by rw [Nat.zero_add]; exact h2⟩
 | @cons k' x y c v hp _ ih =>
   obtain ⟨u, hu⟩ := ih
   exact ⟨c + u, by rw [show k' + 1 + k = k' + k + 1 by omega]; exact .cons hp hu⟩
open Go Go.Tr
end Go.Proofs

namespace Go.Proofs
open Go Go.Tr
open Classical in
noncomputable def sameTB (a b : Tb) : Bool := decide (a = b)
open Classical in
noncomputable def sameTs (a b : List Tb) : Bool := decide (a = b)
theorem sameTB_t {a b : Tb} (h : a = b) : sameTB a b = true := by simp [sameTB, h]
theorem sameTB_f {a b : Tb} (h : a ≠ b) : sameTB a b = false := by simp [sameTB, h]
theorem sameTs_t {a b : List Tb} (h : a = b) : sameTs a b = true := by simp [sameTs, h]
theorem sameTs_f {a b : List Tb} (h : a ≠ b) : sameTs a b = false := by simp [sameTs, h]
theorem Rw.ext' {x y : Rw} (h1 : x.id = y.id) (h2 : x.nx = y.nx) : x = y := by cases x; cases y; simp_all
theorem Tb.ext' {x y : Tb} (h1 : x.r = y.r) (h2 : x.sd = y.sd) (h3 : x.len = y.len) (h4 : x.rows = y.rows) : x = y := by cases x; cases y; simp_all
theorem same11_c (a b : Tb) (ha : a.Sm) : Contract Tryz.prog 18 [tblT a, tblT b] [] (.d (.bool (sameTB a b))) [] [] := by
 refine contract_of Tryz.func18 rfl (fun E0 => ?_)
 refine awp.sound (g := .mk) (ow := []) (kp := (fun k => k==0||k==1||k==2||k==3||k==4||k==5||k==33||k==38||k==69)) ?_
 rw [Tryz.ntmps18]
 by_cases h1 : a.r = b.r
 case neg =>
  simp -dsimp [tblT, rwsD_eq, h1]
  and_intros
  all_goals try first | rfl | omega | exact ⟨by kernel_rfl⟩
  refine Fin.of ?_
  simp [sameTB_f (a := a) (b := b) fun e => h1 (by rw [e])]
 by_cases h2 : a.sd = b.sd
 case neg =>
  simp -dsimp [tblT, rwsD_eq, h1, h2]
  and_intros
  all_goals try first | rfl | omega | exact ⟨by kernel_rfl⟩
  refine Fin.of ?_
  simp [sameTB_f (a := a) (b := b) fun e => h2 (by rw [e])]
 by_cases h3 : a.len = b.len
 case neg =>
  simp -dsimp [tblT, rwsD_eq, h1, h2, h3]
  and_intros
  all_goals try first | rfl | omega | exact ⟨by kernel_rfl⟩
  refine Fin.of ?_
  simp [sameTB_f (a := a) (b := b) fun e => h3 (by rw [e])]
 by_cases h4 : a.rows.length = b.rows.length
 case neg =>
  have h4z : ¬ (a.rows.length : Int) = b.rows.length := by omega
  simp -dsimp [tblT, rwsD_eq, h1, h2, h3, h4z, h4]
  and_intros
  all_goals try first | rfl | omega | exact ⟨by kernel_rfl⟩
  refine Fin.of ?_
  simp [sameTB_f (a := a) (b := b) fun e => h4 (by rw [e])]
 have ha1 := ha.rows
 simp -dsimp [tblT, rwsD_eq, h1, h2, h3, h4]
 and_intros
 all_goals try first | rfl | omega | exact ⟨by kernel_rfl⟩
 refine ALoop.of [] (fun k => k==0||k==1||k==2||k==3||k==4||k==5||k==33||k==38||k==69) (ι := { i : Nat // i ≤ a.rows.length ∧ ∀ j, j < i → a.rows[j]? = b.rows[j]? })
  (fun z => [(Pl.o 2, It.box [.d (.int .i64 a.r), .d (.int .i64 a.sd), .d (.int .i64 a.len), .d (.sl (rws a.rows))]), (Pl.s 2, It.v (.ptr (.o 2) 0)), (Pl.o 3, It.box [.d (.int .i64 b.r), .d (.int .i64 b.sd), .d (.int .i64 b.len), .d (.sl (rws b.rows))]), (Pl.s 3, It.v (.ptr (.o 3) 0)), (Pl.s 4, It.v (.d (.bool false))), (Pl.s 5, It.v (.d (.int .i64 z.1)))])
  (fun z => a.rows.length - z.1) ⟨0, by omega, fun j h => by omega⟩ ?_ ?_
 ·exact GS.to (by simp [h1, h2, h3])
 ·rintro ⟨i, i1, i2⟩
  by_cases hi : i < a.rows.length
  ·have hi' : i < b.rows.length := by omega
   have hiz : (i : Int) < a.rows.length := by omega
   have hiz' : (i : Int) < b.rows.length := by omega
   have hx : a.rows[i]? = some a.rows[i] := List.getElem?_eq_getElem hi
   have hy : b.rows[i]? = some b.rows[i] := List.getElem?_eq_getElem hi'
   have hxl := ha.nx a.rows[i] (List.getElem_mem hi)
   generalize a.rows[i] = x at hx hxl
   generalize b.rows[i] = y at hy
   have hx' := rws_get hx
   have hy' := rws_get hy
   have hc := ints04_c x.nx y.nx hxl
   have w1 : IntKind.i64.wrap ((i : Int) + 1) = (i : Int) + 1 := wrap_i64 (by omega) (by omega)
   have hne : x ≠ y → a ≠ b := fun h e => h (by subst e; rw [hx] at hy; exact Option.some.inj hy)
   by_cases c1 : x.id = y.id
   ·simp -dsimp [hiz, hiz', hx', hy', c1]
    and_intros
    all_goals try first | rfl | omega | exact ⟨by kernel_rfl⟩
    refine ACall.of hc [] 0 ?_
    by_cases c2 : x.nx = y.nx
    ·simp -dsimp [c2, w1]
     and_intros
     all_goals try first | rfl | omega | exact ⟨by kernel_rfl⟩
     exact ⟨⟨i + 1, by omega, fun j hj => by
      by_cases e : j = i
      ·subst e; rw [hx, hy, Rw.ext' c1 c2]
      ·exact i2 j (by omega)⟩, GS.to (by simp), by simp; omega⟩
    ·simp -dsimp [c2]
     and_intros
     all_goals try first | rfl | omega | exact ⟨by kernel_rfl⟩
     refine Fin.of ?_
     simp [sameTB_f (hne fun e => c2 (by rw [e]))]
   ·simp -dsimp [hiz, hiz', hx', hy', c1]
    and_intros
    all_goals try first | rfl | omega | exact ⟨by kernel_rfl⟩
    refine Fin.of ?_
    simp [sameTB_f (hne fun e => c1 (by rw [e]))]
  ·have hiz : ¬ (i : Int) < a.rows.length := by omega
   simp -dsimp [hiz]
   and_intros
   all_goals try first | rfl | omega | exact ⟨by kernel_rfl⟩
   refine Fin.of ?_
   have : a = b := Tb.ext' h1 h2 h3 (List.ext_getElem? fun j => by
    by_cases hj : j < i
    ·exact i2 j hj
    ·rw [List.getElem?_eq_none (by omega), List.getElem?_eq_none (by omega)])
   simp [sameTB_t this]
theorem sameAll11_c (a b : List Tb) (ha : SmL a) : Contract Tryz.prog 30 [.d (.sl (tbs a)), .d (.sl (tbs b))] [] (.d (.bool (sameTs a b))) [] [] := by
 have han := ha.n
 refine contract_of Tryz.func30 rfl (fun E0 => ?_)
 refine awp.sound (g := .mk) (ow := []) (kp := (fun k => k==0||k==1||k==4||k==5||k==10||k==14||k==26)) ?_
 rw [Tryz.ntmps30]
 by_cases h4 : a.length = b.length
 case neg =>
  have h4z : ¬ (a.length : Int) = b.length := by omega
  simp -dsimp [h4z, h4]
  and_intros
  all_goals try first | rfl | omega | exact ⟨by kernel_rfl⟩
  refine Fin.of ?_
  simp [sameTs_f (a := a) (b := b) fun e => h4 (by rw [e])]
 simp -dsimp [h4]
 and_intros
 all_goals try first | rfl | omega | exact ⟨by kernel_rfl⟩
 refine ALoop.of [] (fun k => k==0||k==1||k==4||k==5||k==10||k==14||k==26) (ι := { i : Nat // i ≤ a.length ∧ ∀ j, j < i → a[j]? = b[j]? })
  (fun z => [(Pl.s 0, It.v (.d (.sl (tbs a)))), (Pl.s 1, It.v (.d (.sl (tbs b)))), (Pl.s 4, It.v (.d (.bool false))), (Pl.s 5, It.v (.d (.int .i64 z.1)))])
  (fun z => a.length - z.1) ⟨0, by omega, fun j h => by omega⟩ ?_ ?_
 ·exact GS.to (by simp)
 ·rintro ⟨i, i1, i2⟩
  by_cases hi : i < a.length
  ·have hi' : i < b.length := by omega
   have hiz : (i : Int) < a.length := by omega
   have hiz' : (i : Int) < b.length := by omega
   have hx : a[i]? = some a[i] := List.getElem?_eq_getElem hi
   have hy : b[i]? = some b[i] := List.getElem?_eq_getElem hi'
   have hxs := ha.t a[i] (List.getElem_mem hi)
   generalize a[i] = x at hx hxs
   generalize b[i] = y at hy
   have hx' := tbs_get hx
   have hy' := tbs_get hy
   have hc := same11_c x y hxs
   simp only [tblT, rwsD_eq] at hc
   have w1 : IntKind.i64.wrap ((i : Int) + 1) = (i : Int) + 1 := wrap_i64 (by omega) (by omega)
   simp -dsimp [hiz, hiz', hx', hy']
   and_intros
   all_goals try first | rfl | omega | exact ⟨by kernel_rfl⟩
   refine ACall.of hc [] 0 ?_
   by_cases c2 : x = y
   ·simp -dsimp [sameTB_t c2, w1]
    and_intros
    all_goals try first | rfl | omega | exact ⟨by kernel_rfl⟩
    exact ⟨⟨i + 1, by omega, fun j hj => by
     by_cases e : j = i
     ·subst e; rw [hx, hy, c2]
     ·exact i2 j (by omega)⟩, GS.to (by simp), by simp; omega⟩
   ·simp -dsimp [sameTB_f c2]
    and_intros
    all_goals try first | rfl | omega | exact ⟨by kernel_rfl⟩
    refine Fin.of ?_
    have : a ≠ b := fun e => c2 (by subst e; rw [hx] at hy; exact Option.some.inj hy)
    simp [sameTs_f this]
  ·have hiz : ¬ (i : Int) < a.length := by omega
   simp -dsimp [hiz]
   and_intros
   all_goals try first | rfl | omega | exact ⟨by kernel_rfl⟩
   refine Fin.of ?_
   have : a = b := List.ext_getElem? fun j => by
    by_cases hj : j < i
    ·exact i2 j hj
    ·rw [List.getElem?_eq_none (by omega), List.getElem?_eq_none (by omega)]
   simp [sameTs_t this]
noncomputable def bldR (g : Topo) (p : Pn) (r : Int) : Tb × Int :=
 if chkT g = 0 ∧ planB p = true then (if hasR g.rs r = true then (if capR g.rs r = true then (buildT g p r, 0) else (tb0, 26)) else (tb0, 4)) else (tb0, 1)
def bldT (x : Tb × Int) : TV := .tup [tblT x.1, .d (.int .i64 x.2)]
theorem planB_len {p : Pn} (h : planB p = true) : p.es.length ≤ 24 := by
 simp only [planB, decide_eq_true_eq] at h
 have := h.1
 simp [baseB, inB] at this
 omega
theorem build11T_c (g : Topo) (hs : g.Sm) (p : Pn) (hp : p.es.length ≤ 1000) (r : Int) : Contract Tryz.prog 17 [topT g, planT p, .d (.int .i64 r)] [] (bldT (bldR g p r)) [] [] := by
 have k1 := check05_c g hs.r hs.l
 have k2 := validPlan10_c p hp
 have k3 := has05x_c g hs r
 have k4 := capable05_c g hs r
 have k5 := build11_c g hs p (by omega) r
 simp only [topT, planT] at k1 k2 k3 k4 k5
 by_cases h0 : chkT g = 0
 case neg =>
  have e : bldR g p r = (tb0, 1) := by unfold bldR; rw [if_neg (fun h => h0 h.1)]
  rw [e]
  refine contract_of Tryz.func17 rfl (fun E0 => ?_)
  refine awp.sound (g := .mk) (ow := []) (kp := (fun k => k==0||k==1||k==2||k==3||k==4||k==6||k==7||k==15||k==20||k==25)) ?_
  rw [Tryz.ntmps17]
  simp -dsimp [topT, planT]
  refine ACall.of k1 [] 0 ?_
  simp -dsimp [h0]
  and_intros
  all_goals try first | rfl | omega | exact ⟨by kernel_rfl⟩
  refine Fin.box (.o 6) rfl ?_
  simp -dsimp
  refine Fin.of ?_
  simp [bldT, tb0, tblT, rwsD]
 simp only [h0, decide_true, Bool.true_and] at k1 k3 k4
 rcases (Bool.eq_false_or_eq_true (planB p)).symm with hp2 | hp2
 ·have e : bldR g p r = (tb0, 1) := by unfold bldR; rw [if_neg (by simp [hp2])]
  rw [e]
  rw [hp2] at k2
  refine contract_of Tryz.func17 rfl (fun E0 => ?_)
  refine awp.sound (g := .mk) (ow := []) (kp := (fun k => k==0||k==1||k==2||k==3||k==4||k==6||k==7||k==15||k==20||k==25)) ?_
  rw [Tryz.ntmps17]
  simp -dsimp [topT, planT]
  refine ACall.of k1 [] 0 ?_
  simp -dsimp
  refine ACall.of k2 [] 0 ?_
  simp -dsimp
  and_intros
  all_goals try first | rfl | omega | exact ⟨by kernel_rfl⟩
  refine Fin.box (.o 6) rfl ?_
  simp -dsimp
  refine Fin.of ?_
  simp [bldT, tb0, tblT, rwsD]
 rw [hp2] at k2
 rcases (Bool.eq_false_or_eq_true (hasR g.rs r)).symm with hh | hh
 ·have e : bldR g p r = (tb0, 4) := by unfold bldR; rw [if_pos ⟨h0, hp2⟩, if_neg (by simp [hh])]
  rw [e]
  rw [hh] at k3
  refine contract_of Tryz.func17 rfl (fun E0 => ?_)
  refine awp.sound (g := .mk) (ow := []) (kp := (fun k => k==0||k==1||k==2||k==3||k==4||k==6||k==7||k==15||k==20||k==25)) ?_
  rw [Tryz.ntmps17]
  simp -dsimp [topT, planT]
  refine ACall.of k1 [] 0 ?_
  simp -dsimp
  refine ACall.of k2 [] 0 ?_
  simp -dsimp
  refine ACall.of k3 [] 0 ?_
  simp -dsimp
  and_intros
  all_goals try first | rfl | omega | exact ⟨by kernel_rfl⟩
  refine Fin.box (.o 6) rfl ?_
  simp -dsimp
  refine Fin.of ?_
  simp [bldT, tb0, tblT, rwsD]
 rw [hh] at k3
 rcases (Bool.eq_false_or_eq_true (capR g.rs r)).symm with hc | hc
 ·have e : bldR g p r = (tb0, 26) := by unfold bldR; rw [if_pos ⟨h0, hp2⟩, if_pos hh, if_neg (by simp [hc])]
  rw [e]
  rw [hc] at k4
  refine contract_of Tryz.func17 rfl (fun E0 => ?_)
  refine awp.sound (g := .mk) (ow := []) (kp := (fun k => k==0||k==1||k==2||k==3||k==4||k==6||k==7||k==15||k==20||k==25)) ?_
  rw [Tryz.ntmps17]
  simp -dsimp [topT, planT]
  refine ACall.of k1 [] 0 ?_
  simp -dsimp
  refine ACall.of k2 [] 0 ?_
  simp -dsimp
  refine ACall.of k3 [] 0 ?_
  simp -dsimp
  refine ACall.of k4 [] 0 ?_
  simp -dsimp
  and_intros
  all_goals try first | rfl | omega | exact ⟨by kernel_rfl⟩
  refine Fin.box (.o 6) rfl ?_
  simp -dsimp
  refine Fin.of ?_
  simp [bldT, tb0, tblT, rwsD]
 have e : bldR g p r = (buildT g p r, 0) := by unfold bldR; rw [if_pos ⟨h0, hp2⟩, if_pos hh, if_pos hc]
 rw [e]
 rw [hc] at k4
 simp only [tblT] at k5
 refine contract_of Tryz.func17 rfl (fun E0 => ?_)
 refine awp.sound (g := .mk) (ow := []) (kp := (fun k => k==0||k==1||k==2||k==3||k==4||k==6||k==7||k==15||k==20||k==25)) ?_
 rw [Tryz.ntmps17]
 simp -dsimp [topT, planT]
 refine ACall.of k1 [] 0 ?_
 simp -dsimp
 refine ACall.of k2 [] 0 ?_
 simp -dsimp
 refine ACall.of k3 [] 0 ?_
 simp -dsimp
 refine ACall.of k4 [] 0 ?_
 simp -dsimp
 refine ACall.of k5 [] 0 ?_
 simp -dsimp
 and_intros
 all_goals try first | rfl | omega | exact ⟨by kernel_rfl⟩
 refine Fin.of ?_
 simp [bldT, tblT]
theorem tbuildT_c (g : Topo) (hs : g.Sm) (p : Pn) (hp : p.es.length ≤ 1000) (r : Int) : Contract Tryz.prog 16 [topT g, planT p, .d (.int .i64 r)] [] (bldT (bldR g p r)) [] [] := by
 have k1 := tpcheck_c g hs.r hs.l
 have k2 := validPlan_c p hp
 have k3 := thas_c g hs r
 have k4 := tcapable_c g hs r
 simp only [topT, planT] at k1 k2 k3 k4
 by_cases h0 : chkT g = 0
 case neg =>
  have e : bldR g p r = (tb0, 1) := by unfold bldR; rw [if_neg (fun h => h0 h.1)]
  rw [e]
  refine contract_of Tryz.func16 rfl (fun E0 => ?_)
  refine awp.sound (g := .mk) (ow := []) (kp := (fun k => k==0||k==1||k==2||k==3||k==4||k==6||k==7||k==8||k==18||k==24)) ?_
  rw [Tryz.ntmps16]
  simp -dsimp [topT, planT]
  refine ACall.of k1 [] 0 ?_
  simp -dsimp [h0]
  and_intros
  all_goals try first | rfl | omega | exact ⟨by kernel_rfl⟩
  refine Fin.box (.o 6) rfl ?_
  simp -dsimp
  refine Fin.of ?_
  simp [bldT, tb0, tblT, rwsD]
 simp only [h0, decide_true, Bool.true_and] at k1 k3 k4
 rcases (Bool.eq_false_or_eq_true (planB p)).symm with hp2 | hp2
 ·have e : bldR g p r = (tb0, 1) := by unfold bldR; rw [if_neg (by simp [hp2])]
  rw [e]
  rw [hp2] at k2
  refine contract_of Tryz.func16 rfl (fun E0 => ?_)
  refine awp.sound (g := .mk) (ow := []) (kp := (fun k => k==0||k==1||k==2||k==3||k==4||k==6||k==7||k==8||k==18||k==24)) ?_
  rw [Tryz.ntmps16]
  simp -dsimp [topT, planT]
  refine ACall.of k1 [] 0 ?_
  simp -dsimp
  refine ACall.of k2 [] 0 ?_
  simp -dsimp
  and_intros
  all_goals try first | rfl | omega | exact ⟨by kernel_rfl⟩
  refine Fin.box (.o 6) rfl ?_
  simp -dsimp
  refine Fin.of ?_
  simp [bldT, tb0, tblT, rwsD]
 rw [hp2] at k2
 rcases (Bool.eq_false_or_eq_true (hasR g.rs r)).symm with hh | hh
 ·have e : bldR g p r = (tb0, 4) := by unfold bldR; rw [if_pos ⟨h0, hp2⟩, if_neg (by simp [hh])]
  rw [e]
  rw [hh] at k3
  refine contract_of Tryz.func16 rfl (fun E0 => ?_)
  refine awp.sound (g := .mk) (ow := []) (kp := (fun k => k==0||k==1||k==2||k==3||k==4||k==6||k==7||k==8||k==18||k==24)) ?_
  rw [Tryz.ntmps16]
  simp -dsimp [topT, planT]
  refine ACall.of k1 [] 0 ?_
  simp -dsimp
  refine ACall.of k2 [] 0 ?_
  simp -dsimp
  try refine ⟨?_, ⟨by kernel_rfl⟩⟩
  refine ACall.of k3 [] 0 ?_
  simp -dsimp
  and_intros
  all_goals try first | rfl | omega | exact ⟨by kernel_rfl⟩
  refine Fin.box (.o 6) rfl ?_
  simp -dsimp
  refine Fin.of ?_
  simp [bldT, tb0, tblT, rwsD]
 rw [hh] at k3
 rcases (Bool.eq_false_or_eq_true (capR g.rs r)).symm with hc | hc
 ·have e : bldR g p r = (tb0, 26) := by unfold bldR; rw [if_pos ⟨h0, hp2⟩, if_pos hh, if_neg (by simp [hc])]
  rw [e]
  rw [hc] at k4
  refine contract_of Tryz.func16 rfl (fun E0 => ?_)
  refine awp.sound (g := .mk) (ow := []) (kp := (fun k => k==0||k==1||k==2||k==3||k==4||k==6||k==7||k==8||k==18||k==24)) ?_
  rw [Tryz.ntmps16]
  simp -dsimp [topT, planT]
  refine ACall.of k1 [] 0 ?_
  simp -dsimp
  refine ACall.of k2 [] 0 ?_
  simp -dsimp
  try refine ⟨?_, ⟨by kernel_rfl⟩⟩
  refine ACall.of k3 [] 0 ?_
  simp -dsimp
  try refine ⟨?_, ⟨by kernel_rfl⟩⟩
  refine ACall.of k4 [] 0 ?_
  simp -dsimp
  and_intros
  all_goals try first | rfl | omega | exact ⟨by kernel_rfl⟩
  refine Fin.box (.o 6) rfl ?_
  simp -dsimp
  refine Fin.of ?_
  simp [bldT, tb0, tblT, rwsD]
 have e : bldR g p r = (buildT g p r, 0) := by unfold bldR; rw [if_pos ⟨h0, hp2⟩, if_pos hh, if_pos hc]
 rw [e]
 rw [hc] at k4
 have k5 := tbuild_c g h0 p (by have := planB_len hp2; omega) [r] (by simp) (by simpa using hh)
 simp only [topT, planT, ints, List.map, tbs, Tb.cs, rwsD_eq] at k5
 refine contract_of Tryz.func16 rfl (fun E0 => ?_)
 refine awp.sound (g := .mk) (ow := []) (kp := (fun k => k==0||k==1||k==2||k==3||k==4||k==6||k==7||k==8||k==18||k==24)) ?_
 rw [Tryz.ntmps16]
 simp -dsimp [topT, planT]
 refine ACall.of k1 [] 0 ?_
 simp -dsimp
 refine ACall.of k2 [] 0 ?_
 simp -dsimp
 try refine ⟨?_, ⟨by kernel_rfl⟩⟩
 refine ACall.of k3 [] 0 ?_
 simp -dsimp
 try refine ⟨?_, ⟨by kernel_rfl⟩⟩
 refine ACall.of k4 [] 0 ?_
 simp -dsimp
 try refine ⟨?_, ⟨by kernel_rfl⟩⟩
 refine ACall.of k5 [] 0 ?_
 simp -dsimp
 and_intros
 all_goals try first | rfl | omega | exact ⟨by kernel_rfl⟩
 refine Fin.of ?_
 simp [bldT, tblT, rwsD_eq]
def capI (l : List Rt) : List Int := (l.filter fun x => x.cap).map (·.id)
theorem capI_len (l : List Rt) : (capI l).length ≤ l.length := by
 unfold capI; rw [List.length_map]; exact List.length_filter_le _ _
theorem tabs_eq (g : Topo) (p : Pn) : tabs g p g.rs = (capI g.rs).map (buildT g p) := by
 simp [tabs, capI, List.map_map, Function.comp_def]
theorem tall_c (g : Topo) (hs : g.Sm) (p : Pn) (hp : p.es.length ≤ 1000) : Contract Tryz.prog 25 [topT g, planT p] [] (allT (all11 g p).1 (all11 g p).2) [] [] := by
 have k1 := tpcheck_c g hs.r hs.l
 have k2 := validPlan_c p hp
 simp only [topT, planT] at k1 k2
 by_cases h0 : chkT g = 0
 case neg =>
  have e : all11 g p = ([], 1) := by unfold all11; rw [if_neg (fun h => h0 h.1)]
  rw [e]
  refine contract_of Tryz.func25 rfl (fun E0 => ?_)
  refine awp.sound (g := .mk) (ow := []) (kp := (fun k => k==0||k==1||k==2||k==3||k==4||k==5||k==6||k==8||k==16||k==18||k==19||k==20||k==21||k==25)) ?_
  rw [Tryz.ntmps25]
  simp -dsimp [topT, planT]
  refine ACall.of k1 [] 0 ?_
  simp -dsimp [h0]
  and_intros
  all_goals try first | rfl | omega | exact ⟨by kernel_rfl⟩
  refine Fin.view 4 ?_
  simp -dsimp
  refine Fin.of ?_
  simp [allT]
 rw [h0] at k1
 rcases (Bool.eq_false_or_eq_true (planB p)).symm with hp2 | hp2
 ·have e : all11 g p = ([], 1) := by unfold all11; rw [if_neg (by simp [hp2])]
  rw [e]
  rw [hp2] at k2
  refine contract_of Tryz.func25 rfl (fun E0 => ?_)
  refine awp.sound (g := .mk) (ow := []) (kp := (fun k => k==0||k==1||k==2||k==3||k==4||k==5||k==6||k==8||k==16||k==18||k==19||k==20||k==21||k==25)) ?_
  rw [Tryz.ntmps25]
  simp -dsimp [topT, planT]
  refine ACall.of k1 [] 0 ?_
  simp -dsimp
  refine ACall.of k2 [] 0 ?_
  simp -dsimp
  and_intros
  all_goals try first | rfl | omega | exact ⟨by kernel_rfl⟩
  refine Fin.view 4 ?_
  simp -dsimp
  refine Fin.of ?_
  simp [allT]
 rw [hp2] at k2
 have hg := chkT_zero h0
 have hnr := hg.nr
 have e : all11 g p = ((capI g.rs).map (buildT g p), 0) := by unfold all11; rw [if_pos ⟨h0, hp2⟩, tabs_eq]
 rw [e]
 have hcl := capI_len g.rs
 have k5 := tbuild_c g h0 p (by have := planB_len hp2; omega) (capI g.rs) (by omega) (fun r hr => by
  obtain ⟨x, hx, rfl⟩ := List.mem_map.1 hr
  exact hasR_mem.2 (List.mem_map.2 ⟨x, (List.mem_filter.1 hx).1, rfl⟩))
 simp only [topT, planT] at k5
 refine contract_of Tryz.func25 rfl (fun E0 => ?_)
 refine awp.sound (g := .mk) (ow := []) (kp := (fun k => k==0||k==1||k==2||k==3||k==4||k==5||k==6||k==8||k==16||k==18||k==19||k==20||k==21||k==25)) ?_
 rw [Tryz.ntmps25]
 simp -dsimp [topT, planT]
 refine ACall.of k1 [] 0 ?_
 simp -dsimp
 refine ACall.of k2 [] 0 ?_
 simp -dsimp
 try refine ⟨?_, ⟨by kernel_rfl⟩⟩
 refine ALoop.of [] (fun k => k==0||k==1||k==2||k==3||k==4||k==5||k==6||k==8||k==16||k==18||k==19||k==20||k==21||k==25) (ι := { i : Nat // i ≤ g.rs.length })
  (fun z => [(Pl.o 2, It.box [TV.d (.sl (rts g.rs)), TV.d (.sl (lks g.ls))]), (Pl.s 2, It.v (.ptr (.o 2) 0)), (Pl.o 3, It.box [TV.d (.int .i64 p.subd), TV.d (.int .i64 p.len), TV.d (.sl (eds p.es))]), (Pl.s 3, It.v (.ptr (.o 3) 0)), (Pl.s 4, It.v (.c (.slice none 0 0))), (Pl.s 5, It.v (.d (.int .i64 0))), (Pl.s 6, It.v (.oref 6 (capI (g.rs.take z.1)).length)), (Pl.o 6, It.row 3 1 (dd (nrow .i64 (capI (g.rs.take z.1)))) false),
   (Pl.s 18, It.v (.d (.sl (rts g.rs)))), (Pl.s 19, It.v (.d (.int .i64 g.rs.length))), (Pl.s 20, It.v (.d (.int .i64 z.1)))])
  (fun z => g.rs.length - z.1) ⟨0, by omega⟩ ?_ ?_
 ·exact GS.own' (k := 6) 3 1 (by simp) (by simp) (by simp [capI, nrow])
 ·rintro ⟨i, i1⟩
  by_cases hi : i < g.rs.length
  ·have hiz : (i : Int) < g.rs.length := by omega
   have hx : g.rs[i]? = some g.rs[i] := List.getElem?_eq_getElem hi
   have ht : g.rs.take (i + 1) = g.rs.take i ++ [g.rs[i]] := by rw [List.take_add_one, List.getElem?_eq_getElem hi]; rfl
   generalize g.rs[i] = x at hx ht
   have hx' := rts_get hx
   have hcl2 := capI_len (g.rs.take i)
   rw [List.length_take] at hcl2
   have w1 : IntKind.i64.wrap ((i : Int) + 1) = (i : Int) + 1 := wrap_i64 (by omega) (by omega)
   rcases (Bool.eq_false_or_eq_true x.cap).symm with h | h
   ·have hn : capI (g.rs.take (i + 1)) = capI (g.rs.take i) := by simp [capI, ht, h]
    simp -dsimp [hiz, hx', Rt.cs, h, w1]
    and_intros
    all_goals try first | rfl | omega | exact ⟨by kernel_rfl⟩
    exact ⟨⟨i + 1, by omega⟩, GS.to (by simp [hn]), by simp; omega⟩
   ·have hn : capI (g.rs.take (i + 1)) = capI (g.rs.take i) ++ [x.id] := by simp [capI, ht, h]
    simp -dsimp [hiz, hx', Rt.cs, h, w1]
    and_intros
    all_goals try first | rfl | omega | exact ⟨by kernel_rfl⟩
    exact ⟨⟨i + 1, by omega⟩, GS.to (by simp [hn, nrow]), by simp; omega⟩
  ·have hiz : ¬ (i : Int) < g.rs.length := by omega
   obtain rfl : i = g.rs.length := by omega
   rw [List.take_length]
   simp only [ints] at k5
   simp -dsimp [hiz, nrow]
   and_intros
   all_goals try first | rfl | omega | exact ⟨by kernel_rfl⟩
   refine ACall.of k5 [] 0 ?_
   simp -dsimp
   and_intros
   all_goals try first | rfl | omega | exact ⟨by kernel_rfl⟩
   refine Fin.of ?_
   simp [allT_eq]
end Go.Proofs

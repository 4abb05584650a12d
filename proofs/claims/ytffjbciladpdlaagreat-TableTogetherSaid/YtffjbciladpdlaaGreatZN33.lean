/-
  What functions of the program compute, stated as contracts over plain data; the conditions of each stand in its own statement.
-/
import Derived.Test.YtffjbciladpdlaaGreatZN32
import Derived.Test.YtffjbciladpdlaaGreatZN23
import Derived.Test.YtffjbciladpdlaaGreatZN27
import Derived.Test.YtffjbciladpdlaaGreatZN16
set_option linter.unusedSimpArgs false
set_option linter.unusedVariables false
set_option maxRecDepth 100000
set_option maxHeartbeats 16000000
namespace Go.Proofs
open Go Go.Tr
def rtI (l : List Int) (i : Nat) : Int := l.getD i 0
def mtC (rr : Nat → Int) (sd len : Int) (i : Nat) : List TV := [.d (.int .i64 (rr i)), .d (.int .i64 sd), .d (.int .i64 len)]
def mtF (n : Nat) (rr : Nat → Int) (sd len : Int) (f : Nat → Nat) : List (List TV) := (List.range n).map fun i => [.d (.int .i64 (rr i)), .d (.int .i64 sd), .d (.int .i64 len), .oref (9000 + i) (f i)]
@[simp] theorem mtF_len (n : Nat) (rr : Nat → Int) (sd len : Int) (f : Nat → Nat) : (mtF n rr sd len f).length = n := by simp [mtF]
theorem mtF_get {n : Nat} {rr : Nat → Int} {sd len : Int} {f : Nat → Nat} {i : Nat} (h : i < n) : (mtF n rr sd len f)[i]? = some [.d (.int .i64 (rr i)), .d (.int .i64 sd), .d (.int .i64 len), .oref (9000 + i) (f i)] := by
 rw [mtF, List.getElem?_map, List.getElem?_range h]; rfl
theorem mtF_set {n : Nat} {rr : Nat → Int} {sd len : Int} {f : Nat → Nat} {i m : Nat} : (mtF n rr sd len f).set i [.d (.int .i64 (rr i)), .d (.int .i64 sd), .d (.int .i64 len), .oref (9000 + i) m] = mtF n rr sd len fun j => if j = i then m else f j := by
 refine List.ext_getElem? fun j => ?_
 rw [List.getElem?_set, mtF, mtF, List.getElem?_map, List.getElem?_map, List.length_map, List.length_range]
 by_cases hj : j < n
 ·rw [List.getElem?_range hj]
  by_cases e : i = j
  ·subst e; simp [hj]
  ·rw [if_neg e]
   simp [show ¬ j = i from fun h => e h.symm]
 ·have : (List.range n)[j]? = none := by simp; omega
  rw [this]
  by_cases e : i = j
  ·subst e; simp [hj]
  ·simp [e]
theorem mtF_snoc {n : Nat} {rr : Nat → Int} {sd len : Int} {f : Nat → Nat} : mtF (n + 1) rr sd len f = mtF n rr sd len f ++ [[.d (.int .i64 (rr n)), .d (.int .i64 sd), .d (.int .i64 len), .oref (9000 + n) (f n)]] := by
 simp [mtF, List.range_succ]
theorem mtF_add {n : Nat} {rr : Nat → Int} {sd len : Int} {f : Nat → Nat} {v : TV} (h : f n = 0) : (mtF n rr sd len f ++ [[.d (.int .i64 (rr n)), .d (.int .i64 sd), .d (.int .i64 len), v]]).set n [.d (.int .i64 (rr n)), .d (.int .i64 sd), .d (.int .i64 len), .oref (9000 + n) 0] = mtF (n + 1) rr sd len f := by
 rw [mtF_snoc, List.set_append_right _ _ (by simp), h]; simp
theorem mtF_last {n : Nat} {rr : Nat → Int} {sd len : Int} {f : Nat → Nat} {v : List TV} : (mtF n rr sd len f ++ [v])[n]? = some v := by
 rw [List.getElem?_append_right (by simp)]; simp
theorem mtF_congr {n : Nat} {rr : Nat → Int} {sd len : Int} {f f' : Nat → Nat} (h : ∀ i, i < n → f i = f' i) : mtF n rr sd len f = mtF n rr sd len f' :=
 List.map_congr_left fun i hi => by rw [h i (List.mem_range.1 hi)]
@[simp] theorem only_mtF {po : Nat → Prop} {n : Nat} {rr : Nat → Int} {sd len : Int} {f : Nat → Nat} : rowsOnly po (mtF n rr sd len f) ↔ ∀ i, i < n → po (9000 + i) := by
 constructor
 ·intro h i hi
  have := h _ (List.mem_map.2 ⟨i, List.mem_range.2 hi, rfl⟩)
  simp only [TV.onlys, TV.only, and_true, true_and] at this
  exact this
 ·intro h x hx
  obtain ⟨i, hi, rfl⟩ := List.mem_map.1 hx
  simp only [TV.onlys, TV.only, and_true, true_and]
  exact h i (List.mem_range.1 hi)
theorem bRws_small (g : Topo) (r : Int) (es : List Ed) (k : Nat) (h : es.length ≤ 1000) : (bRws g r (es.take k)).length ≤ 1000 := by
 rw [bRws_len, List.length_take]; omega
theorem range_rtI {α : Type} (F : Int → α) (l : List Int) : (List.range l.length).map (fun i => F (rtI l i)) = l.map F := by
 refine List.ext_getElem (by simp) fun i h1 h2 => ?_
 simp only [List.length_map, List.length_range] at h1
 simp [rtI, h1]
theorem mt_tbs (g : Topo) (p : Pn) (rs : List Int) : ((List.range rs.length).map fun i => mtC (rtI rs) p.subd p.len i ++ [TV.d (.sl (bRws g (rtI rs i) p.es))]) = dd (tbs (rs.map (buildT g p))) := by
 refine (range_rtI (fun r => [TV.d (.int .i64 r), TV.d (.int .i64 p.subd), TV.d (.int .i64 p.len), TV.d (.sl (bRws g r p.es))]) rs).trans ?_
 simp [dd, tbs, Tb.cs, buildT, rwsD, bRws]
theorem capR_has {l : List Rt} {r : Int} (h : capR l r = true) : hasR l r = true := by
 unfold capR at h
 cases hr : rtOf l r with
 | none => rw [hr] at h; simp at h
 | some x =>
   unfold rtOf at hr
   have h1 := List.mem_of_find?_eq_some hr
   have h2 := List.find?_some hr
   exact List.any_eq_true.2 ⟨x, h1, h2⟩
theorem tbuild_c (g : Topo) (h0 : chkT g = 0) (p : Pn) (hp : p.es.length ≤ 1000) (rs : List Int) (hrs : rs.length ≤ 24) (hr : ∀ r ∈ rs, hasR g.rs r = true) :
  Contract Tryz.prog 54 [topT g, planT p, .d (ints rs)] [] (.d (.sl (tbs (rs.map (buildT g p))))) [] [] := by
 have hg := chkT_zero h0
 refine contract_of Tryz.func54 rfl (fun E0 => ?_)
 refine awp.sound (g := .mk) (ow := [29, 2000028]) (kp := (fun k => k==0||k==1||k==2||k==3||k==4||k==6||k==7||k==9||k==11||k==12||k==13||k==14||k==15||k==16||k==17||k==18||k==19||k==33||k==34||k==35||k==36||k==43||k==44||k==45||k==46||k==53||k==61)) ?_
 rw [Tryz.ntmps54]
 simp -dsimp [topT, planT, ints]
 refine ALoop.of [29, 2000028] (fun k => k==0||k==1||k==2||k==3||k==4||k==6||k==7||k==9||k==11||k==12||k==13||k==14||k==15||k==16||k==17||k==18||k==19||k==33||k==34||k==35||k==36||k==43||k==44||k==45||k==46||k==53||k==61) (ι := { i : Nat // i ≤ rs.length })
  (fun z => fam 9000 z.1 (fun _ => It.row 52 2 [] false) [(Pl.s 2, It.v (.d (ints rs))), (Pl.o 3, It.box [TV.d (.sl (rts g.rs)), TV.d (.sl (lks g.ls))]), (Pl.s 3, It.v (.ptr (Pl.o 3) 0)), (Pl.o 4, It.box [TV.d (.int .i64 p.subd), TV.d (.int .i64 p.len), TV.d (.sl (eds p.es))]), (Pl.s 4, It.v (.ptr (Pl.o 4) 0)), (Pl.s 6, It.v (.c (Value.slice none 0 0))), (Pl.s 7, It.v (.oref 7 z.1)), (Pl.o 7, It.row 39 4 (mtF z.1 (rtI rs) p.subd p.len fun _ => 0) false), (Pl.s 16, It.v (.d (ints rs))), (Pl.s 17, It.v (.d (.int .i64 rs.length))), (Pl.s 18, It.v (.d (.int .i64 z.1)))])
  (fun z => rs.length - z.1) ⟨0, by omega⟩ ?_ ?_
 ·exact GS.own' (k := 7) 39 4 (by simp) (by simp) (by simp [fam_zero, mtF, ints])
 ·rintro ⟨i, i1⟩
  by_cases hi : i < rs.length
  ·have hiz : (i : Int) < rs.length := by omega
   have hx : rs[i]? = some rs[i] := List.getElem?_eq_getElem hi
   have hri : rs[i] = rtI rs i := by simp [rtI, hi]
   generalize rs[i] = x at hx hri
   subst hri
   have w1 : IntKind.i64.wrap ((i : Int) + 1) = (i : Int) + 1 := wrap_i64 (by omega) (by omega)
   simp -dsimp [hiz, hx, ints, w1]
   and_intros
   all_goals try first | omega | exact ⟨by kernel_rfl⟩ | rfl
   refine ⟨⟨i + 1, by omega⟩, ?_, by simp; omega⟩
   refine GS.ownR' (e0 := 39) (k0 := 4) (sh0 := false) (es0 := (mtF i (rtI rs) p.subd p.len fun _ => 0) ++ [[.d (.int .i64 (rtI rs i)), .d (.int .i64 p.subd), .d (.int .i64 p.len), .c (.slice none 0 0)]]) (r := [.d (.int .i64 (rtI rs i)), .d (.int .i64 p.subd), .d (.int .i64 p.len), .c (.slice none 0 0)]) 7 i 3 (9000 + i) 52 2 (by simp) mtF_last (by simp) (by simp (disch := omega) [fam_ne, ne_fam]) ⟨Sub.fam (n := i + 1) (fun j hj => ?_) ?_ ?_ ?_, ?_⟩
   ·rcases (by omega : j < i ∨ j = i) with h | h
    ·simp (disch := omega) [fam_ne, ne_fam, h]
    ·subst h; simp (disch := omega) [fam_ne, ne_fam]
   ·simp (disch := omega) [fam_ne, ne_fam, ints, mtF_add]
   ·simp
   ·simp (disch := omega)
    exact fun j hj => by omega
   ·simp (disch := omega) [fam_ne, ne_fam]
  ·have hiz : ¬ (i : Int) < rs.length := by omega
   obtain rfl : i = rs.length := by omega
   have hri : ∀ i, i < rs.length → hasR g.rs (rtI rs i) = true := fun i hi => by
    have : rtI rs i = rs[i]'(by omega) := by simp [rtI, show i < rs.length by omega]
    rw [this]; exact hr _ (List.getElem_mem _)
   simp -dsimp [hiz]
   refine ALoop.of [29, 2000028] (fun k => k==0||k==1||k==2||k==3||k==4||k==6||k==7||k==9||k==11||k==12||k==13||k==14||k==15||k==16||k==17||k==18||k==19||k==33||k==34||k==35||k==36||k==43||k==44||k==45||k==46||k==53||k==61) (ι := { k : Nat // k ≤ p.es.length })
    (fun z => fam 9000 rs.length (fun j => It.row 52 2 (dd (bRws g (rtI rs j) (p.es.take z.1))) false) [(Pl.s 2, It.v (.d (ints rs))), (Pl.o 3, It.box [TV.d (.sl (rts g.rs)), TV.d (.sl (lks g.ls))]), (Pl.s 3, It.v (.ptr (Pl.o 3) 0)), (Pl.o 4, It.box [TV.d (.int .i64 p.subd), TV.d (.int .i64 p.len), TV.d (.sl (eds p.es))]), (Pl.s 4, It.v (.ptr (Pl.o 4) 0)), (Pl.s 6, It.v (.c (Value.slice none 0 0))), (Pl.s 7, It.v (.oref 7 rs.length)), (Pl.o 7, It.row 39 4 (mtF rs.length (rtI rs) p.subd p.len fun _ => z.1) false), (Pl.s 33, It.v (.d (.sl (eds p.es)))), (Pl.s 34, It.v (.d (.int .i64 p.es.length))), (Pl.s 35, It.v (.d (.int .i64 z.1)))])
    (fun z => p.es.length - z.1) ⟨0, by omega⟩ ?_ ?_
   ·refine GS.to ⟨Sub.fam (n := rs.length) (fun j hj => ?_) ?_ ?_ ?_, ?_⟩
    ·simp (disch := omega) [hj, bRws]
    ·simp (disch := omega) [eds]
    ·simp
    ·simp (disch := omega)
     exact fun j hj => by omega
    ·simp
   ·rintro ⟨k, k1⟩
    by_cases hk : k < p.es.length
    ·have hkz : (k : Int) < p.es.length := by omega
     have hx : p.es[k]? = some p.es[k] := List.getElem?_eq_getElem hk
     have ht : p.es.take (k + 1) = p.es.take k ++ [p.es[k]] := by rw [List.take_add_one, List.getElem?_eq_getElem hk]; rfl
     generalize p.es[k] = x at hx ht
     have hx' := eds_get hx
     have htw := toward_c g hg.sm x.r
     simp only [topT] at htw
     have w1 : IntKind.i64.wrap ((k : Int) + 1) = (k : Int) + 1 := wrap_i64 (by omega) (by omega)
     simp -dsimp [hkz, hx', Ed.cs]
     refine ACall.of htw [] 0 ?_
     simp -dsimp [hkz, hx', Ed.cs, ints]
     and_intros
     all_goals try first | omega | exact ⟨by kernel_rfl⟩ | rfl
     refine ALoop.of [29, 2000028] (fun k => k==0||k==1||k==2||k==3||k==4||k==6||k==7||k==9||k==11||k==12||k==13||k==14||k==15||k==16||k==17||k==18||k==19||k==33||k==34||k==35||k==36||k==43||k==44||k==45||k==46||k==53||k==61) (ι := { i : Nat // i ≤ rs.length })
      (fun z => fam 9000 rs.length (fun j => It.row 52 2 (dd (bRws g (rtI rs j) (p.es.take (if j < z.1 then k + 1 else k)))) false) [(Pl.s 2, It.v (.d (ints rs))), (Pl.o 3, It.box [TV.d (.sl (rts g.rs)), TV.d (.sl (lks g.ls))]), (Pl.s 3, It.v (.ptr (Pl.o 3) 0)), (Pl.o 4, It.box [TV.d (.int .i64 p.subd), TV.d (.int .i64 p.len), TV.d (.sl (eds p.es))]), (Pl.s 4, It.v (.ptr (Pl.o 4) 0)), (Pl.s 6, It.v (.c (Value.slice none 0 0))), (Pl.s 7, It.v (.oref 7 rs.length)), (Pl.o 7, It.row 39 4 (mtF rs.length (rtI rs) p.subd p.len fun j => if j < z.1 then k + 1 else k) false), (Pl.s 33, It.v (.d (.sl (eds p.es)))), (Pl.s 34, It.v (.d (.int .i64 p.es.length))), (Pl.s 35, It.v (.d (.int .i64 k))),
       (Pl.o 11, It.box [.d (.int .i64 x.r), .d (.int .i64 x.id)]), (Pl.s 11, It.v (.ptr (Pl.o 11) 0)), (Pl.s 12, It.v (.d (twD g x.r))), (Pl.s 43, It.v (.d (ints rs))), (Pl.s 44, It.v (.d (.int .i64 rs.length))), (Pl.s 45, It.v (.d (.int .i64 z.1)))])
      (fun z => rs.length - z.1) ⟨0, by omega⟩ ?_ ?_
     ·refine GS.to ⟨Sub.fam (n := rs.length) (fun j hj => ?_) ?_ ?_ ?_, ?_⟩
      ·simp (disch := omega) [hj]
      ·simp (disch := omega) [ints, eds]
      ·simp
      ·simp (disch := omega)
       exact fun j hj => by omega
      ·simp
     ·rintro ⟨i, i1⟩
      by_cases hi : i < rs.length
      ·have hiz : (i : Int) < rs.length := by omega
       have hy : rs[i]? = some (rtI rs i) := by simp [rtI, hi]
       have hri := hri i hi
       have w2 : IntKind.i64.wrap ((i : Int) + 1) = (i : Int) + 1 := wrap_i64 (by omega) (by omega)
       have hmg : (mtF rs.length (rtI rs) p.subd p.len fun j => if j < i then k + 1 else k)[i]? = some [.d (.int .i64 (rtI rs i)), .d (.int .i64 p.subd), .d (.int .i64 p.len), .oref (9000 + i) k] := by
        rw [mtF_get hi]; simp
       have hbl := bRws_small g (rtI rs i) p.es k hp
       obtain ⟨r, hr0⟩ : ∃ r, rtI rs i = r := ⟨_, rfl⟩
       rw [hr0] at hy hri hmg hbl
       have hmg2 : (mtF rs.length (rtI rs) p.subd p.len fun j => if j < i then k + 1 else k)[i]'(by simp [hi]) = [.d (.int .i64 r), .d (.int .i64 p.subd), .d (.int .i64 p.len), .oref (9000 + i) k] := (List.getElem_eq_iff _).2 hmg
       have hrs2 : rs[i] = r := by rw [← hr0]; simp [rtI, hi]
       have hms : ((mtF rs.length (rtI rs) p.subd p.len fun j => if j < i then k + 1 else k).set i [.d (.int .i64 r), .d (.int .i64 p.subd), .d (.int .i64 p.len), .oref (9000 + i) (k + 1)]) = mtF rs.length (rtI rs) p.subd p.len fun j => if j < i + 1 then k + 1 else k := by
        rw [← hr0, mtF_set]
        refine mtF_congr fun j hj => ?_
        by_cases e : j = i
        ·subst e; simp
        ·have e2 : (j < i + 1) = (j < i) := propext ⟨fun h => by omega, fun h => by omega⟩
         simp [e, e2]
       have hB : bRws g r (p.es.take (k + 1)) = bRws g r (p.es.take k) ++ [(bRow g r x).cs] := by rw [ht, bRws_app]
       have hmin : min k p.es.length = k := by omega
       by_cases c1 : r = x.r
       ·have hRc : (bRow g r x).cs = [.int .i64 x.id, .sl [[.int .i64 r]]] := by simp [bRow, Rw.cs, c1, ints]
        subst c1
        simp -dsimp (maxSteps := 1000000) [hi, hrs2, ints, w2, hmg2, hr0, fam_ne, ne_fam, hmin]
        refine ⟨by omega, by omega, ⟨⟨i + 1, by omega⟩, GS.to ⟨Sub.fam (n := rs.length) (fun j hj => ?_) ?_ ?_ ?_, ?_⟩, by simp; omega⟩, ?_⟩
        ·by_cases e : j = i
         ·subst e
          simp (disch := omega) [hj, hr0, hB, hRc, ints]
         ·have e2 : (j < i + 1) = (j < i) := propext ⟨fun h => by omega, fun h => by omega⟩
          simp (disch := omega) [hj, e, e2]
        ·simp (disch := omega) [ints, eds, hms]
        ·simp
        ·simp (disch := omega)
         exact fun j hj => by omega
        ·simp
        ·refine ADraw.ren (fun p => if p = .o (9000 + i) then .o 9000 else p) ?_
         conv => lhs; arg 2; simp [renP2, fam_ne, ne_fam]
         kernel_rfl
       ·have hcp := tcapable_c g hg.sm x.r
        simp only [h0, decide_true, Bool.true_and] at hcp
        rcases (Bool.eq_false_or_eq_true (capR g.rs x.r)).symm with hc | hc
        ·rw [hc] at hcp
         have hRc : (bRow g r x).cs = [.int .i64 x.id, .sl []] := by simp [bRow, Rw.cs, show ¬ x.r = r from fun h => c1 h.symm, hc, ints]
         simp -dsimp (maxSteps := 1000000) [hi, hrs2, ints, w2, c1, hmg2, hr0, fam_ne, ne_fam, hmin]
         refine ACall.of hcp [] 0 ?_
         simp -dsimp (maxSteps := 1000000) [hi, hrs2, ints, w2, c1, hmg2, hr0, fam_ne, ne_fam, hmin]
         refine ⟨rfl, ?_⟩
         refine ⟨by omega, by omega, ⟨⟨i + 1, by omega⟩, GS.to ⟨Sub.fam (n := rs.length) (fun j hj => ?_) ?_ ?_ ?_, ?_⟩, by simp; omega⟩, ?_⟩
         ·by_cases e : j = i
          ·subst e
           simp (disch := omega) [hj, hr0, hB, hRc, ints]
          ·have e2 : (j < i + 1) = (j < i) := propext ⟨fun h => by omega, fun h => by omega⟩
           simp (disch := omega) [hj, e, e2]
         ·simp (disch := omega) [ints, eds, hms]
         ·simp
         ·simp (disch := omega)
          exact fun j hj => by omega
         ·simp
         ·refine ADraw.ren (fun p => if p = .o (9000 + i) then .o 9000 else p) ?_
          conv => lhs; arg 2; simp [renP2, fam_ne, ne_fam]
          kernel_rfl
        ·rw [hc] at hcp
         have hhp := thops_c g h0 r x.r hri (capR_has hc) c1
         simp only [topT] at hhp
         have hRc : (bRow g r x).cs = [.int .i64 x.id, ints (hops g r x.r)] := by simp [bRow, Rw.cs, show ¬ x.r = r from fun h => c1 h.symm, hc, h0]
         simp -dsimp (maxSteps := 1000000) [hi, hrs2, ints, w2, c1, hmg2, hr0, fam_ne, ne_fam, hmin]
         refine ACall.of hcp [] 0 ?_
         simp -dsimp (maxSteps := 1000000) [hi, hrs2, ints, w2, c1, hmg2, hr0, fam_ne, ne_fam, hmin]
         refine ⟨rfl, ?_⟩
         refine ACall.of hhp [] 0 ?_
         simp -dsimp (maxSteps := 1000000) [hi, hrs2, ints, w2, c1, hmg2, hr0, fam_ne, ne_fam, hmin]
         refine ⟨by omega, by omega, ⟨⟨i + 1, by omega⟩, GS.to ⟨Sub.fam (n := rs.length) (fun j hj => ?_) ?_ ?_ ?_, ?_⟩, by simp; omega⟩, ?_⟩
         ·by_cases e : j = i
          ·subst e
           simp (disch := omega) [hj, hr0, hB, hRc, ints]
          ·have e2 : (j < i + 1) = (j < i) := propext ⟨fun h => by omega, fun h => by omega⟩
           simp (disch := omega) [hj, e, e2]
         ·simp (disch := omega) [ints, eds, hms]
         ·simp
         ·simp (disch := omega)
          exact fun j hj => by omega
         ·simp
         ·refine ADraw.ren (fun p => if p = .o (9000 + i) then .o 9000 else p) ?_
          conv => lhs; arg 2; simp [renP2, fam_ne, ne_fam]
          kernel_rfl
      ·have hiz : ¬ (i : Int) < rs.length := by omega
       obtain rfl : i = rs.length := by omega
       simp -dsimp [hiz, w1]
       refine ⟨⟨k + 1, by omega⟩, GS.to ⟨Sub.fam (n := rs.length) (fun j hj => ?_) ?_ ?_ ?_, ?_⟩, by simp; omega⟩
       ·simp (disch := omega) [hj]
       ·simp (disch := omega) [mtF_congr (n := rs.length) (f := fun j => if j < rs.length then k + 1 else k) (f' := fun _ => k + 1) (fun i hi => if_pos hi)]
       ·simp
       ·simp (disch := omega)
        exact fun j hj => by omega
       ·simp
    ·have hkz : ¬ (k : Int) < p.es.length := by omega
     obtain rfl : k = p.es.length := by omega
     rw [List.take_length]
     simp -dsimp [hkz]
     refine Fin.ghost (t' := Tr.look [(Pl.s 6, It.v (.oref 7 rs.length)), (Pl.o 7, It.row 39 4 (dd (tbs (rs.map (buildT g p)))) false)]) ?_
      ((GS.seeAllR (id0 := 7) (e0 := 39) (z0 := 4) (b := 9000) (n := rs.length) (e := 52) (z := 2) (pre := mtC (rtI rs) p.subd p.len) (xs := fun i => bRws g (rtI rs i) p.es) (by simp [mtF, mtC]) (fun i hi => by simp [hi]) (by omega)).trans (GS.forgetF ⟨?_, ?_⟩ ?_))
     ·refine Fin.view 6 ?_
      simp -dsimp [tbs]
      refine Fin.of ?_
      simp [tbs]
     ·simp only [List.forall_mem_cons, List.not_mem_nil, false_imp_iff, implies_true, and_true]
      refine ⟨?_, ?_⟩
      ·rw [seeR_s]; simp
      ·rw [seeR_row, mt_tbs]; simp
     ·simp
     ·intro i
      rw [seeR_x]; simp
theorem mixed_c (T : Tp) (hT : TapeOK T) (most : Int) (hm : 1 ≤ most ∧ most ≤ 24) : Contract Tryz.prog 11 [.ptr (.x 0) 0, .d (.int .i64 most)] [tapeI T] (topT (gMix T most).1) [tapeI (gMix T most).2] [] := by
 refine contract_of Tryz.func11 rfl (fun E0 => ?_)
 refine awp.sound (g := .mk) (ow := []) (kp := (fun k => k==0||k==1||k==4||k==5||k==6||k==14)) ?_
 rw [Tryz.ntmps11]
 simp -dsimp
 refine ACall.of (topoO_c T hT most hm) [.x 0] 1000 ?_
 have kG : TapeOK (gTop T most).2 := by simpa using hT
 have hlen : (gTop T most).1.rs.length ≤ 24 := by
  have := gRange_hi T (a := 1) (b := most) (by omega)
  simp [gTop, gRts]; omega
 generalize hG : gTop T most = G at kG hlen ⊢
 simp -dsimp
 refine ALoop.of [] (fun k => k==0||k==1||k==4||k==5||k==6||k==14) (ι := { z : Nat × Tp × List Rt // z.1 ≤ G.1.rs.length ∧ TapeOK z.2.1 ∧ z.2.2.length = G.1.rs.length ∧ gMixL G.1.rs G.2 = (z.2.2.take z.1 ++ (gMixL (z.2.2.drop z.1) z.2.1).1, (gMixL (z.2.2.drop z.1) z.2.1).2) })
  (fun z => [(Pl.s 0, It.v (.ptr (Pl.x 0) 0)), (Pl.s 1, It.v (.d (.int .i64 most))), (Pl.x 0, tapeI z.1.2.1),
   (Pl.o 4, It.box [TV.c (Value.slice none 0 0), TV.c (Value.slice none 0 0)]), (Pl.s 4, It.v (.ptr (Pl.o 4) 0)),
   (Pl.o 2000, It.row 81 2 (dd (rts z.1.2.2)) false), (Pl.o 5, It.box [TV.oref 2000 G.1.rs.length, TV.d (.sl (lks G.1.ls))]), (Pl.s 5, It.v (.ptr (Pl.o 5) 0)),
   (Pl.s 6, It.v (.d (.int .i64 z.1.1)))]) (fun z => G.1.rs.length - z.1.1) ⟨(0, G.2, G.1.rs), by simp, kG, rfl, by simp⟩ ?_ ?_
 ·exact GS.to (by simp)
 ·rintro ⟨⟨i, T1, L⟩, i1, i2, i3, i4⟩
  simp only at i1 i2 i3 i4
  have hrl : (rts L).length = G.1.rs.length := by simp [rts, i3]
  by_cases hi : i < G.1.rs.length
  ·have hiz : (i : Int) < G.1.rs.length := by omega
   have hil : i < L.length := by omega
   have hg : L[i]? = some L[i] := List.getElem?_eq_getElem hil
   have hd : L.drop i = L[i] :: L.drop (i + 1) := List.drop_eq_getElem_cons _
   generalize L[i] = x at hg hd
   have hgr : (dd (rts L))[i]? = some [TV.d (.int .i64 x.id), TV.d (.bool x.cap)] := by simp [dd, rts, hg, Rt.cs]
   simp -dsimp [hiz, i3, hrl]
   and_intros
   all_goals try first | rfl | omega | exact ⟨by kernel_rfl⟩
   refine ACall.of (one_c T1 i2 3 ⟨by omega, by omega⟩ ⟨by omega, by omega⟩) [.x 0] 0 ?_
   generalize ho : gOne T1 3 = o
   have ko : TapeOK o.2 := by rw [← ho]; simpa using i2
   simp -dsimp [hiz, i3, hrl, hgr, wrap_i64 (n := (i : Int) + 1) (by omega) (by omega)]
   and_intros
   all_goals try first | rfl | omega | exact ⟨by kernel_rfl⟩
   have hrow : (dd (rts L)).set i [TV.d (.int .i64 x.id), TV.d (.bool !o.1)] = dd (rts (L.set i ⟨x.id, !o.1⟩)) := by
    simp [dd, rts, List.map_set, Rt.cs]
   refine ⟨⟨(i + 1, o.2, L.set i ⟨x.id, !o.1⟩), by dsimp only; omega, ko, by simpa using i3, ?_⟩, GS.to (by simp [hrow]), by simp; omega⟩
   rw [i4, hd, gMixL]
   simp only [ho]
   have e1 : (L.set i ⟨x.id, !o.1⟩).take (i + 1) = L.take i ++ [⟨x.id, !o.1⟩] := by
    rw [List.take_add_one, List.getElem?_set_self hil, List.take_set_of_le (Nat.le_refl _)]; rfl
   have e2 : (L.set i ⟨x.id, !o.1⟩).drop (i + 1) = L.drop (i + 1) := List.drop_set_of_lt (by omega)
   rw [e1, e2]
   simp
  ·obtain rfl : i = G.1.rs.length := by omega
   simp -dsimp [hrl]
   refine Fin.box (.o 4) rfl ?_
   simp -dsimp [hrl]
   refine Fin.of ?_
   have e0 : L.drop G.1.rs.length = [] := List.drop_eq_nil_of_le (by omega)
   have e1 : L.take G.1.rs.length = L := List.take_of_length_le (by omega)
   simp only [e0, e1, gMixL, List.append_nil] at i4
   simp [gMix, hG, i4, topT]
theorem toDss_set {es : List (List TV)} {xs : List (List D)} {k : Nat} {r : List TV} {x : List D} (h : toDss es = some xs) (hr : toDs r = some x) : toDss (es.set k r) = some (xs.set k x) := by
 induction es generalizing xs k with
 | nil => simp [toDss] at h; subst h; rfl
 | cons e es ih =>
   simp only [toDss] at h
   split at h
   ·rename_i x' xs' h1 h2
    simp only [Option.some.injEq] at h; subst h
    cases k with
    | zero => simp only [List.set_cons_zero, toDss, hr, h2]
    | succ k => simp only [List.set_cons_succ, toDss, h1, ih h2]
   ·simp at h
theorem bendP_c (T : Tp) (hT : TapeOK T) (b : Tb) (hb : b.rows.length ≤ 1000) (hn : bendAt T b = none) : Contract2 Tryz.prog 75 [.ptr (.x 0) 0, .agg [TV.d (.int .i64 b.r), TV.d (.int .i64 b.sd), TV.d (.int .i64 b.len), .oref 900 b.rows.length]] [tapeI T] [(900, .row 52 2 (dd (rws b.rows)) false)] (tblT (gBend T b).1) [tapeI (gBend T b).2] [] := by
 refine contract2_of Tryz.func75 rfl (fun E0 => ?_)
 refine awp.sound (g := .mk) (ow := []) (kp := (fun k => k==0||k==1||k==3||k==4||k==5||k==7||k==11||k==21||k==31||k==45||k==58||k==63||k==69||k==74||k==80)) ?_
 rw [Tryz.ntmps75]
 simp -dsimp
 refine ACall.of (next_c T hT 8 ⟨by omega, by omega⟩) [.x 0] 0 ?_
 have m1 := gNext_nonneg T 8
 have m2 := gNext_lt T (n := 8) (by omega)
 have kN : TapeOK (gNext T 8).2 := by simpa using hT
 unfold bendAt at hn
 unfold gBend
 generalize gNext T 8 = s at m1 m2 kN hn ⊢
 simp only at hn ⊢
 have hrb : (dd (rws b.rows)).length = b.rows.length := by simp
 by_cases c0 : s.1 = 0
 ·rw [if_pos c0]
  simp -dsimp [eq_true c0]
  refine ACall.of (pick_c s.2 kN [0, 1, 2, 99, 100] (by simp) (by simp)) [.x 0] 0 ?_
  generalize gPick s.2 [0, 1, 2, 99, 100] = p
  simp -dsimp [eq_true c0, ints]
  refine Fin.box (.o 4) rfl ?_
  simp -dsimp
  refine Fin.of ?_
  simp [tblT, rwsD_eq]
 by_cases c1 : s.1 = 1
 ·rw [if_neg c0, if_pos c1]
  simp -dsimp [eq_false c0, eq_true c1]
  refine ACall.of (wild_c s.2 kN) [.x 0] 0 ?_
  generalize gWild s.2 = p
  simp -dsimp [eq_false c0, eq_true c1]
  refine Fin.box (.o 4) rfl ?_
  simp -dsimp
  refine Fin.of ?_
  simp [tblT, rwsD_eq]
 by_cases c2 : s.1 = 2
 ·rw [if_neg c0, if_neg c1, if_pos c2]
  simp -dsimp [eq_false c0, eq_false c1, eq_true c2]
  refine ACall.of (pick_c s.2 kN [0, 8, 16, 24, 64] (by simp) (by simp)) [.x 0] 0 ?_
  generalize gPick s.2 [0, 8, 16, 24, 64] = p
  simp -dsimp [eq_false c0, eq_false c1, eq_true c2, ints]
  refine Fin.box (.o 4) rfl ?_
  simp -dsimp
  refine Fin.of ?_
  simp [tblT, rwsD_eq]
 by_cases c3 : s.1 = 3
 ·rw [if_neg c0, if_neg c1, if_neg c2, if_pos c3]
  simp -dsimp [eq_false c0, eq_false c1, eq_false c2, eq_true c3]
  refine ACall.of (pick_c s.2 kN [0, 1, 256, 257] (by simp) (by simp)) [.x 0] 0 ?_
  generalize gPick s.2 [0, 1, 256, 257] = p
  simp -dsimp [eq_false c0, eq_false c1, eq_false c2, eq_true c3, ints]
  and_intros
  all_goals try first | rfl | omega | exact ⟨by kernel_rfl⟩
  refine Fin.box (.o 4) rfl ?_
  simp -dsimp
  refine Fin.of ?_
  simp [tblT, rwsD_eq, rws_app, ints]
 rw [if_neg (by omega)] at hn
 rw [if_neg c0, if_neg c1, if_neg c2, if_neg c3]
 by_cases ce : b.rows = []
 ·rw [if_pos ce]
  have hl0 : ¬ 0 < b.rows.length := by simp [ce]
  simp -dsimp [eq_false c0, eq_false c1, eq_false c2, eq_false c3, hl0]
  refine Fin.box (.o 4) rfl ?_
  simp -dsimp
  refine Fin.of ?_
  simp [tblT, rwsD_eq]
 rw [if_neg ce] at hn ⊢
 have hl0 : 0 < b.rows.length := List.length_pos_iff.2 ce
 simp -dsimp [eq_false c0, eq_false c1, eq_false c2, eq_false c3, hl0]
 refine ACall.of (next_c s.2 kN b.rows.length ⟨by omega, by omega⟩) [.x 0] 0 ?_
 have k1 := gNext_nonneg s.2 b.rows.length
 have k2 := gNext_lt s.2 (n := b.rows.length) (by omega)
 have kK : TapeOK (gNext s.2 b.rows.length).2 := by simpa using kN
 generalize gNext s.2 b.rows.length = q at k1 k2 kK hn ⊢
 obtain ⟨k, hk⟩ : ∃ k : Nat, q.1 = k := ⟨q.1.toNat, by omega⟩
 have hkl : k < b.rows.length := by omega
 simp only [hk, Int.toNat_natCast] at hn ⊢
 have hg : b.rows[k]? = some b.rows[k] := List.getElem?_eq_getElem hkl
 have hgd : b.rows.getD k ⟨0, []⟩ = b.rows[k] := by rw [List.getD_eq_getElem?_getD, hg]; rfl
 simp only [rowW, hgd]
 generalize b.rows[k] = y at hg
 have hgr : (dd (rws b.rows))[k]? = some [TV.d (.int .i64 y.id), TV.d (ints y.nx)] := by simp [dd, rws, hg, Rw.cs]
 simp -dsimp [eq_false c0, eq_false c1, eq_false c2, eq_false c3, hl0, hrb]
 and_intros
 all_goals try first | rfl | omega | exact ⟨by kernel_rfl⟩
 refine ACall.of (next_c q.2 kK 4 ⟨by omega, by omega⟩) [.x 0] 0 ?_
 have n1 := gNext_nonneg q.2 4
 have n2 := gNext_lt q.2 (n := 4) (by omega)
 have kM : TapeOK (gNext q.2 4).2 := by simpa using kK
 generalize gNext q.2 4 = m at n1 n2 kM hn ⊢
 have hm : ¬ m.1 ≤ 1 := fun h => by rw [if_pos h] at hn; simp at hn
 have hset : ∀ l : List Int, (dd (rws b.rows)).set k [TV.d (.int .i64 y.id), TV.d (ints l)] = dd (rws (b.rows.set k ⟨y.id, l⟩)) := fun l => by
  simp [dd, rws, List.map_set, Rw.cs]
 have hm0 : ¬ m.1 = 0 := by omega
 have hm1 : ¬ m.1 = 1 := by omega
 have hgl : ((dd (rws b.rows)).getD k []) = [TV.d (.int .i64 y.id), TV.d (ints y.nx)] := by rw [List.getD_eq_getElem?_getD, hgr]; rfl
 rw [if_neg hm0, if_neg hm1]
 by_cases hm2 : m.1 = 2
 ·rw [if_pos hm2]
  have h0 := hset []
  simp only [ints, List.map_nil] at h0
  have hnl : toDss ((dd (rws b.rows)).set k [TV.d (.int .i64 y.id), TV.c (Value.slice none 0 0)]) = some (rws (b.rows.set k ⟨y.id, []⟩)) := by
   rw [toDss_set (toDss_dd _) (x := [.int .i64 y.id, .sl []]) rfl]
   simp [rws, List.map_set, Rw.cs, ints]
  simp -dsimp [eq_false hm0, eq_false hm1, eq_true hm2, hrb, hgr, hgl]
  and_intros
  all_goals try first | rfl | omega | exact ⟨by kernel_rfl⟩
  refine Fin.box (.o 4) rfl ?_
  simp -dsimp [hnl, hrb]
  refine Fin.of ?_
  simp [tblT, rwsD_eq, hk, hg]
 ·rw [if_neg hm2]
  have h0 := hset [(gPick m.2 [1, 2, 3, 9, b.r]).1]
  simp only [ints, List.map_nil, List.map_cons] at h0
  simp -dsimp [eq_false hm0, eq_false hm1, eq_false hm2, hrb, hgr, hgl]
  refine ACall.of (pick_c m.2 kM [1, 2, 3, 9, b.r] (by simp) (by simp)) [.x 0] 0 ?_
  generalize gPick m.2 [1, 2, 3, 9, b.r] = p at h0 ⊢
  simp -dsimp [eq_false hm0, eq_false hm1, eq_false hm2, hrb, hgr, hgl, ints, h0]
  and_intros
  all_goals try first | rfl | omega | exact ⟨by kernel_rfl⟩
  refine Fin.box (.o 4) rfl ?_
  simp -dsimp [hrb]
  refine Fin.of ?_
  simp [tblT, rwsD_eq, hk, hg]
theorem bendI_c (T : Tp) (hT : TapeOK T) (b : Tb) (hb : b.rows.length ≤ 1000) (k : Nat) (hn : bendAt T b = some k) (y : Rw) (hy : b.rows[k]? = some y) (hyl : y.nx.length ≤ 1000) : Contract2 Tryz.prog 75 [.ptr (.x 0) 0, .agg [TV.d (.int .i64 b.r), TV.d (.int .i64 b.sd), TV.d (.int .i64 b.len), .oref 900 b.rows.length]] [tapeI T] [(900, .row 52 2 (mixR b.rows k y 901) false), (901, .row 3 1 (dd (nrow .i64 y.nx)) false)] (tblT (gBend T b).1) [tapeI (gBend T b).2] [] := by
 refine contract2_of Tryz.func75 rfl (fun E0 => ?_)
 refine awp.sound (g := .mk) (ow := []) (kp := (fun k => k==0||k==1||k==3||k==4||k==5||k==7||k==11||k==21||k==31||k==45||k==58||k==63||k==69||k==74||k==80)) ?_
 rw [Tryz.ntmps75]
 simp -dsimp
 refine ACall.of (next_c T hT 8 ⟨by omega, by omega⟩) [.x 0] 0 ?_
 have m1 := gNext_nonneg T 8
 have m2 := gNext_lt T (n := 8) (by omega)
 have kN : TapeOK (gNext T 8).2 := by simpa using hT
 unfold bendAt at hn
 unfold gBend
 generalize gNext T 8 = s at m1 m2 kN hn ⊢
 simp only at hn ⊢
 have c3' : ¬ s.1 ≤ 3 := fun h => by rw [if_pos h] at hn; simp at hn
 have c0 : ¬ s.1 = 0 := by omega
 have c1 : ¬ s.1 = 1 := by omega
 have c2 : ¬ s.1 = 2 := by omega
 have c3 : ¬ s.1 = 3 := by omega
 have hkl : k < b.rows.length := (List.getElem?_eq_some_iff.1 hy).1
 have ce : ¬ b.rows = [] := fun h => by simp [h] at hkl
 rw [if_neg c3', if_neg ce] at hn
 rw [if_neg c0, if_neg c1, if_neg c2, if_neg c3, if_neg ce]
 have hl0 : 0 < b.rows.length := List.length_pos_iff.2 ce
 have hrb := mixR_len y 901 hkl
 simp -dsimp [eq_false c0, eq_false c1, eq_false c2, eq_false c3, hl0, hrb]
 refine ACall.of (next_c s.2 kN b.rows.length ⟨by omega, by omega⟩) [.x 0] 0 ?_
 have k1 := gNext_nonneg s.2 b.rows.length
 have k2 := gNext_lt s.2 (n := b.rows.length) (by omega)
 have kK : TapeOK (gNext s.2 b.rows.length).2 := by simpa using kN
 generalize gNext s.2 b.rows.length = q at k1 k2 kK hn ⊢
 have n1 := gNext_nonneg q.2 4
 have n2 := gNext_lt q.2 (n := 4) (by omega)
 have kM : TapeOK (gNext q.2 4).2 := by simpa using kK
 have hq : q.1.toNat = k ∧ (gNext q.2 4).1 ≤ 1 := by
  split at hn
  ·rename_i h; simp only [Option.some.injEq] at hn; exact ⟨hn, h⟩
  ·simp at hn
 have hk : q.1 = k := by omega
 have hgd : b.rows.getD k ⟨0, []⟩ = y := by rw [List.getD_eq_getElem?_getD, hy]; rfl
 simp only [rowW, hq.1, hgd]
 rw [hk]
 have htk : (dd (rws (b.rows.take k))).length = k := by simp; omega
 have hgr : (mixR b.rows k y 901)[k]? = some [TV.d (.int .i64 y.id), TV.oref 901 y.nx.length] := by
  rw [mixR, List.getElem?_append_right (by omega), htk]; simp
 have hgl : ((mixR b.rows k y 901).getD k []) = [TV.d (.int .i64 y.id), TV.oref 901 y.nx.length] := by rw [List.getD_eq_getElem?_getD, hgr]; rfl
 simp -dsimp [eq_false c0, eq_false c1, eq_false c2, eq_false c3, hl0, hrb]
 and_intros
 all_goals try first | rfl | omega | exact ⟨by kernel_rfl⟩
 refine ACall.of (next_c q.2 kK 4 ⟨by omega, by omega⟩) [.x 0] 0 ?_
 generalize gNext q.2 4 = m at n1 n2 kM hq ⊢
 by_cases hm0 : m.1 = 0
 ·rw [if_pos hm0]
  simp -dsimp [eq_true hm0, hrb, hgr, hgl]
  and_intros
  all_goals try first | rfl | omega | exact ⟨by kernel_rfl⟩
  refine ACall.of (pick_c m.2 kM [0, 1, 6, 99, 100] (by simp) (by simp)) [.x 0] 0 ?_
  generalize gPick m.2 [0, 1, 6, 99, 100] = p
  simp -dsimp [eq_true hm0, hrb, hgr, hgl, ints]
  and_intros
  all_goals try first | rfl | omega | exact ⟨by kernel_rfl⟩
  have hmg := mix_get (y := y) (id := 901) (m := y.nx.length + 1) hkl
  have hms := mix_set (y := y) (id := 901) (m := y.nx.length + 1) hkl (y.nx ++ [p.1])
  generalize (mixR b.rows k y 901).set k [TV.d (.int .i64 y.id), TV.oref 901 (y.nx.length + 1)] = EE at hmg hms ⊢
  refine Fin.seeRow 900 k 1 901 (e0 := 52) (k0 := 2) (es0 := EE) (sh0 := false) (n := y.nx.length + 1) (e := 3) (k := 1) (es := dd (nrow .i64 y.nx) ++ [[TV.d (.int .i64 p.1)]]) (sh := false) (xs := nrow .i64 (y.nx ++ [p.1])) (by simp) (by omega) hmg (by simp) (by simp [nrow]) (by simp [nrow]) (by simp [nrow, toDss, toDs]) ?_
  simp only [ints, nrow] at hms
  simp [nrow] at hms ⊢
  simp only [hms]
  refine Fin.box (.o 4) rfl ?_
  simp -dsimp
  refine Fin.of ?_
  simp [tblT, rwsD_eq, hy]
 ·have hm1 : m.1 = 1 := by omega
  rw [if_neg hm0, if_pos hm1]
  simp -dsimp [eq_false hm0, eq_true hm1, hrb, hgr, hgl]
  and_intros
  all_goals try first | rfl | omega | exact ⟨by kernel_rfl⟩
  have hmg := mix_get (y := y) (id := 901) (m := y.nx.length + 1) hkl
  have hms := mix_set (y := y) (id := 901) (m := y.nx.length + 1) hkl (y.nx ++ [b.r])
  generalize (mixR b.rows k y 901).set k [TV.d (.int .i64 y.id), TV.oref 901 (y.nx.length + 1)] = EE at hmg hms ⊢
  refine Fin.seeRow 900 k 1 901 (e0 := 52) (k0 := 2) (es0 := EE) (sh0 := false) (n := y.nx.length + 1) (e := 3) (k := 1) (es := dd (nrow .i64 y.nx) ++ [[TV.d (.int .i64 b.r)]]) (sh := false) (xs := nrow .i64 (y.nx ++ [b.r])) (by simp) (by omega) hmg (by simp) (by simp [nrow]) (by simp [nrow]) (by simp [nrow, toDss, toDs]) ?_
  simp only [ints, nrow] at hms
  simp [nrow] at hms ⊢
  simp only [hms]
  refine Fin.box (.o 4) rfl ?_
  simp -dsimp
  refine Fin.of ?_
  simp [tblT, rwsD_eq, hy]
theorem table_c (T : Tp) (hT : TapeOK T) (n : Int) (hn : 1 ≤ n ∧ n ≤ 1000) : Contract Tryz.prog 33 [.ptr (.x 0) 0, .d (.int .i64 n)] [tapeI T] (tblT (gTab T n).1) [tapeI (gTab T n).2] [] := by
 have hn0 : 0 < n := by omega
 refine contract_of Tryz.func33 rfl (fun E0 => ?_)
 refine awp.sound (g := .mk) (ow := [1000075]) (kp := (fun k => k==0||k==1||k==4||k==5||k==6||k==7||k==9||k==23||k==39)) ?_
 rw [Tryz.ntmps33]
 simp -dsimp
 refine ACall.of (mixed_c T hT 6 (by omega)) [.x 0] 0 ?_
 have kG : TapeOK (gMix T 6).2 := by simpa using hT
 have hsm := gMix_small T (most := 6) (by omega)
 have e0 : gTab T n = gTab T n := rfl
 conv at e0 => rhs; unfold gTab
 simp only at e0
 generalize hG : gMix T 6 = G at kG hsm e0 ⊢
 simp -dsimp [topT]
 refine ACall.of (plan_c G.2 kG G.1.rs G.1.ls (by omega) 0 (by omega)) [.x 0] 0 ?_
 obtain ⟨kP, lP⟩ := gPlan_zero G.2 G.1.rs
 have kG : TapeOK (gPlan G.2 G.1.rs 0).2 := kP.symm ▸ kG
 clear kP
 generalize hP : gPlan G.2 G.1.rs 0 = p at kG lP e0 ⊢
 simp -dsimp [topT, planT]
 refine ACall.of (all11_c G.1 ⟨by omega, by omega⟩ p.1 (by omega)) [] 0 ?_
 have hlen := all11_len G.1 p.1
 have hok := all11_ok G.1 p.1
 generalize (all11 G.1 p.1).1 = l at hlen hok e0 ⊢
 generalize (all11 G.1 p.1).2 = er
 simp -dsimp [topT, planT, allT_eq]
 by_cases hl : l = []
 ·simp -dsimp [eq_true hl]
  refine Fin.box (.o 4) rfl ?_
  simp -dsimp
  refine Fin.of ?_
  rw [if_pos (by simp [hl])] at e0
  simp [e0, tblT, rwsD]
 have hlz : 0 < l.length := List.length_pos_iff.2 hl
 rw [if_neg (by omega)] at e0
 simp -dsimp [eq_false hl]
 refine ACall.of (next_c p.2 kG l.length ⟨by omega, by omega⟩) [.x 0] 0 ?_
 have m1 := gNext_nonneg p.2 l.length
 have m2 := gNext_lt p.2 (n := l.length) (by omega)
 have kN : TapeOK (gNext p.2 l.length).2 := by simpa using kG
 generalize gNext p.2 l.length = q at m1 m2 kN e0 ⊢
 obtain ⟨i, hi⟩ : ∃ i : Nat, q.1 = i := ⟨q.1.toNat, by omega⟩
 have hil : i < l.length := by omega
 have hx : l[i]? = some l[i] := List.getElem?_eq_getElem hil
 have hxo := hok l[i] (List.getElem_mem hil)
 have hxs := chk_sm hxo
 obtain ⟨_, hx1, hx2, _⟩ := chk_parts hxo
 rw [hi, Int.toNat_natCast, List.getD_eq_getElem?_getD, hx] at e0
 simp only [Option.getD_some] at e0
 generalize l[i] = b at hx hxo hxs hx1 hx2 e0
 have hx' := tbs_get hx
 rw [hi]
 have kO : TapeOK (gOne q.2 n).2 := by simpa using kN
 have hone := one_c q.2 kN n ⟨by omega, by omega⟩ ⟨by omega, by omega⟩
 generalize gOne q.2 n = o at kO hone e0
 have key : o.1 = true → (bendAt o.2 b = none ∨ ∃ k y, bendAt o.2 b = some k ∧ b.rows[k]? = some y) := fun _ => by
  cases h : bendAt o.2 b with
  | none => exact .inl rfl
  | some k => exact .inr ⟨k, _, rfl, List.getElem?_eq_getElem (bendAt_lt h)⟩
 rcases (Bool.eq_false_or_eq_true o.1).symm with ho | ho
 ·rw [if_neg (by simp [ho])] at e0
  simp -dsimp [eq_false hl, hx']
  and_intros
  all_goals try first | rfl | omega | exact ⟨by kernel_rfl⟩
  refine ACall.of (copied_c b hxs.rows hxs.nx) [] 2000 ?_
  simp -dsimp [eq_false hl, hx', tblT, rwsD_eq, hn0]
  refine ACall.of hone [.x 0] 0 ?_
  simp -dsimp [ho]
  refine Fin.box (.o 4) rfl ?_
  simp -dsimp
  refine Fin.of ?_
  simp [e0, tblT, rwsD_eq]
 rw [if_pos ho] at e0
 rcases key ho with hb | ⟨k, y, hb, hy⟩
 ·simp -dsimp [eq_false hl, hx']
  and_intros
  all_goals try first | rfl | omega | exact ⟨by kernel_rfl⟩
  refine ACall.of (copied_c b hxs.rows hxs.nx) [] 2000 ?_
  simp -dsimp [eq_false hl, hx', tblT, rwsD_eq, hn0]
  refine ACall.of hone [.x 0] 0 ?_
  simp -dsimp [ho]
  refine ACall.of2 (bendP_c o.2 kO b (by omega) hb) [.x 0] [(900, 2003)] 0 ?_
  rw [← e0]
  generalize gTab T n = X
  simp -dsimp [tblT, rwsD_eq]
  refine Fin.box (.o 4) rfl ?_
  simp -dsimp
  refine Fin.of ?_
  simp
 ·simp -dsimp [eq_false hl, hx']
  and_intros
  all_goals try first | rfl | omega | exact ⟨by kernel_rfl⟩
  refine ACall.of (copiedI_c b hxs.rows hxs.nx k y hy) [] 2000 ?_
  simp -dsimp [eq_false hl, hx', tblT, rwsD_eq, hn0]
  refine ACall.of hone [.x 0] 0 ?_
  simp -dsimp [ho]
  refine ACall.of2 (bendI_c o.2 kO b (by omega) k hb y hy (by have := hx2 y (List.mem_of_getElem? hy); omega)) [.x 0] [(900, 2003), (901, 3001)] 0 ?_
  rw [← e0]
  generalize gTab T n = X
  have hpm := passEs_mix [.x 0] [(900, 2003), (901, 3001)] b.rows k y 3001 901 rfl
  simp -dsimp [hpm, tblT, rwsD_eq]
  refine Fin.box (.o 4) rfl ?_
  simp -dsimp
  refine Fin.of ?_
  simp
end Go.Proofs

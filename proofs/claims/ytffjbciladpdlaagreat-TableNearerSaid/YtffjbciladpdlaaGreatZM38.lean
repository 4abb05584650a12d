/-
  What functions of the program compute, stated as contracts over plain data; the conditions of each stand in its own statement.
-/
import Derived.Test.YtffjbciladpdlaaGreatZM35
set_option linter.unusedSimpArgs false
set_option linter.unusedVariables false
set_option maxRecDepth 100000
set_option maxHeartbeats 16000000
namespace Go.Proofs
open Go Go.Tr
def edOf (p : Pn) (id : Int) : Option Ed := p.es.find? fun x => decide (x.id = id)
def edT (o : Option Ed) : TV := .tup [.agg ((o.getD ⟨0, 0⟩).cs.map .d), .d (.bool o.isSome)]
theorem edge10_c (p : Pn) (hp : p.es.length ≤ 1000000) (id : Int) : Contract Tryz.prog 26 [planT p, .d (.int .i64 id)] [] (edT (edOf p id)) [] [] := by
 refine contract_of Tryz.func26 rfl (fun E0 => ?_)
 refine awp.sound (g := .mk) (ow := []) (kp := (fun k => k==0||k==1||k==2||k==4||k==5||k==6||k==11||k==21)) ?_
 rw [Tryz.ntmps26]
 simp -dsimp [planT]
 refine ALoop.of [] (fun k => k==0||k==1||k==2||k==4||k==5||k==6||k==11||k==21) (ι := { i : Nat // i ≤ p.es.length ∧ edOf p id = (p.es.drop i).find? fun x => decide (x.id = id) })
  (fun z => [(Pl.s 1, It.v (.d (.int .i64 id))), (Pl.o 2, It.box [TV.d (.int .i64 p.subd), TV.d (.int .i64 p.len), TV.d (.sl (eds p.es))]), (Pl.s 2, It.v (.ptr (.o 2) 0)), (Pl.o 4, It.box [.d (.int .i64 0), .d (.int .i64 0)]), (Pl.s 4, It.v (.ptr (.o 4) 0)), (Pl.s 5, It.v (.d (.bool false))), (Pl.s 6, It.v (.d (.int .i64 z.1)))])
  (fun z => p.es.length - z.1) ⟨0, by omega, rfl⟩ ?_ ?_
 ·exact GS.to (by simp)
 ·rintro ⟨i, i1, i2⟩
  by_cases hi : i < p.es.length
  ·have hiz : (i : Int) < p.es.length := by omega
   have hx : p.es[i]? = some p.es[i] := List.getElem?_eq_getElem hi
   generalize p.es[i] = x at hx
   have hx' := eds_get hx
   by_cases a : x.id = id
   ·simp -dsimp [hiz, hx', Ed.cs, eq_true a]
    and_intros
    all_goals try first | rfl | omega | exact ⟨by kernel_rfl⟩
    refine Fin.of ?_
    have e : edOf p id = some x := find_hit hx i2 (by simp [a])
    simp [edT, e, Ed.cs]
   ·simp -dsimp [hiz, hx', Ed.cs, eq_false a, wrap_i64 (n := (i : Int) + 1) (by omega) (by omega)]
    and_intros
    all_goals try first | rfl | omega | exact ⟨by kernel_rfl⟩
    exact ⟨⟨i + 1, by omega, find_step hx i2 (by simp [a])⟩, GS.to (by simp), by simp; omega⟩
  ·have hiz : ¬ (i : Int) < p.es.length := by omega
   simp -dsimp [hiz]
   and_intros
   all_goals try first | rfl | omega | exact ⟨by kernel_rfl⟩
   refine Fin.of ?_
   have e : edOf p id = none := find_end i2 hi
   simp [edT, e, Ed.cs]
theorem edOf_of {p : Pn} (h : p.es.Pairwise fun a b => a.id < b.id) {e : Ed} (he : e ∈ p.es) : edOf p e.id = some e := by
 obtain ⟨i, hi, rfl⟩ := List.mem_iff_getElem.1 he
 unfold edOf
 rw [List.find?_eq_some_iff_getElem]
 have hp := List.pairwise_iff_getElem.1 h
 refine ⟨by simp, i, hi, rfl, fun j hj => ?_⟩
 have := hp j i (by omega) hi hj
 simp; omega
theorem near_ok {g : Topo} (h0 : chkT g = 0) {r : Int} (hr : hasR g.rs r = true) {e : Ed} (hne : r ≠ e.r) :
  decide (0 < (bRow g r e).nx.length) = ((costR g r e.r).isSome && capR g.rs e.r) ∧ ∀ n ∈ (bRow g r e).nx, ∃ d d', costR g r e.r = some d ∧ costR g n e.r = some d' ∧ d' < d ∧ capR g.rs n = true := by
 have hg := chkT_zero h0
 rcases (Bool.eq_false_or_eq_true (capR g.rs e.r)).symm with hc | hc
 ·have hb : (bRow g r e).nx = [] := by
   unfold bRow
   simp only
   rw [if_neg (fun h => hne h.symm), if_neg (by simp [hc])]
  rw [hb, hc]; simp
 ·have ht := capR_has hc
  have hb : (bRow g r e).nx = hops g r e.r := by
   unfold bRow
   simp only
   rw [if_neg (fun h => hne h.symm), if_pos ⟨h0, hc⟩]
  have hbd := (dst_bd hg e.r r).2
  have hco : ∀ x, hasR g.rs x = true → dst g e.r x < far → costR g x e.r = some (dst g e.r x) := fun x hx hd => by
   unfold costR
   rw [if_pos ⟨h0, hx, ht, by omega⟩]
  refine ⟨?_, fun n hn => ?_⟩
  ·rw [hb, hc, Bool.and_true]
   by_cases hd : dst g e.r r < far
   ·rw [hco r hr hd]
    obtain ⟨n, hn⟩ := HopR.some hg hr ht hc hne hd
    have := List.length_pos_of_mem ((mem_hops h0 hr ht hne).2 hn)
    simpa using this
   ·have h2 : costR g r e.r = none := by
     unfold costR
     rw [if_neg (fun h => hd (by have := h.2.2.2; omega))]
    rw [h2]
    simp only [Option.isSome_none, decide_eq_false_iff_not]
    intro h
    obtain ⟨n, hn⟩ := List.exists_mem_of_length_pos h
    exact hd (HopR.near hg ((mem_hops h0 hr ht hne).1 hn)).2.1
  ·rw [hb] at hn
   obtain ⟨h1, h2, h3, h4, h5⟩ := HopR.near hg ((mem_hops h0 hr ht hne).1 hn)
   exact ⟨_, _, hco r hr h2, hco n h5 h3, h1, h4⟩
theorem nearer_law (L : List Int) (hL : ∀ x ∈ L, I64 x) : Contract Tryz.prog 6 [.d (ints L)] [] (.d (.bool true)) [] [] := by
 refine contract_of Tryz.func6 rfl (fun E0 => ?_)
 refine awp.sound (g := .mk) (ow := []) (kp := (fun k => k==0||k==2||k==3||k==4||k==5||k==6||k==7||k==8||k==9||k==10||k==11||k==12||k==13||k==14||k==15||k==16||k==17||k==32||k==36||k==46||k==64||k==106||k==120||k==149)) ?_
 rw [Tryz.ntmps6]
 simp -dsimp [ints]
 refine ACall.of (new_c L) [] 3000 ?_
 simp -dsimp [ints]
 have kT : TapeOK (L.take 600, 0) := tape_new L hL
 generalize (L.take 600, 0) = T0 at kT ⊢
 try refine ⟨rfl, ?_⟩
 refine ACall.of (mixed_c T0 kT 7 (by omega)) [.o 3010] 0 ?_
 have hV := gMix_valid T0 (most := 7) (by omega)
 have k1 : TapeOK (gMix T0 7).2 := by
  have : TapeOK (gMixL (gTop T0 7).1.rs (gTop T0 7).2).2 = TapeOK (gTop T0 7).2 := gMixL_tape _ _
  show TapeOK (gMixL (gTop T0 7).1.rs (gTop T0 7).2).2
  rw [this]; simpa using kT
 generalize gMix T0 7 = G at hV k1 ⊢
 obtain ⟨g, T1⟩ := G
 simp only at hV k1 ⊢
 have hn := hV.n
 have h0 := hV.ok
 have hg := chkT_zero h0
 have hsm := hg.sm
 have hP := plan_valid hV (by omega) T1
 have hPb := planB_of hP
 have hPl := planB_len hPb
 simp -dsimp [topT]
 refine ACall.of (plan_c T1 k1 g.rs g.ls (by omega) 0 (by omega)) [.o 3010] 0 ?_
 generalize gPlan T1 g.rs 0 = P at hP hPb hPl ⊢
 obtain ⟨p, T2⟩ := P
 simp only at hP hPb hPl ⊢
 have hal := tall_c g hsm p (by omega)
 rw [all11_eq h0 hPb, allT_eq] at hal
 simp only [topT, planT] at hal
 have hT : ∀ b ∈ tabs g p g.rs, ∃ r, hasR g.rs r = true ∧ b = buildT g p r := fun b hb => by
  obtain ⟨x, hx, _, rfl⟩ := tabs_mem hb
  exact ⟨x.id, hasR_mem.2 (List.mem_map.2 ⟨x, hx, rfl⟩), rfl⟩
 have hTl := tabs_len g p
 generalize tabs g p g.rs = l at hal hT hTl
 simp -dsimp [planT]
 refine ACall.of hal [] 0 ?_
 simp -dsimp
 try refine ⟨?_, ⟨by kernel_rfl⟩⟩
 refine ALoop.of [] (fun k => k==0||k==2||k==3||k==4||k==5||k==6||k==7||k==8||k==9||k==10||k==11||k==12||k==13||k==14||k==15||k==16||k==17||k==32||k==36||k==46||k==64||k==106||k==120||k==149) (ι := { i : Nat // i ≤ l.length })
  (fun z => [(Pl.s 2, It.v (.d (.bool false))), (Pl.o 4, It.box [TV.d (.sl (rts g.rs)), TV.d (.sl (lks g.ls))]), (Pl.s 4, It.v (.ptr (.o 4) 0)), (Pl.o 5, It.box [TV.d (.int .i64 p.subd), TV.d (.int .i64 p.len), TV.d (.sl (eds p.es))]), (Pl.s 5, It.v (.ptr (.o 5) 0)), (Pl.s 6, It.v (.d (.sl (tbs l)))), (Pl.s 8, It.v (.d (.int .i64 z.1)))]) (fun z => l.length - z.1) ⟨0, by omega⟩ ?_ ?_
 ·exact GS.to (by simp)
 ·rintro ⟨i, i1⟩
  by_cases hi : i < l.length
  ·have hiz : (i : Int) < l.length := by omega
   have hx : l[i]? = some l[i] := List.getElem?_eq_getElem hi
   obtain ⟨r, hr, hb⟩ := hT l[i] (List.getElem_mem hi)
   rw [hb] at hx
   have hx' := tbs_get hx
   have hbr : (buildT g p r).r = r := rfl
   have hbl : (buildT g p r).rows.length = p.es.length := by simp [buildT]
   have hR : ∀ i, (h : i < p.es.length) → (rws (buildT g p r).rows)[i]? = some (bRow g r p.es[i]).cs := fun i h => by simp [rws, buildT, h]
   have hrow : ∀ e ∈ p.es, (bRow g r e).nx.length ≤ 24 := fun e he => (chk_parts (buildT_ok h0 hPb hr)).2.2.1 _ (List.mem_map.2 ⟨e, he, rfl⟩)
   generalize buildT g p r = b at hx' hbr hbl hR
   have w1 : IntKind.i64.wrap ((i : Int) + 1) = (i : Int) + 1 := wrap_i64 (by omega) (by omega)
   simp -dsimp [hiz]
   refine ALoop.of [] (fun k => k==0||k==2||k==3||k==4||k==5||k==6||k==7||k==8||k==9||k==10||k==11||k==12||k==13||k==14||k==15||k==16||k==17||k==32||k==36||k==46||k==64||k==106||k==120||k==149) (ι := { k : Nat // k ≤ p.es.length })
    (fun z => [(Pl.s 2, It.v (.d (.bool false))), (Pl.o 4, It.box [TV.d (.sl (rts g.rs)), TV.d (.sl (lks g.ls))]), (Pl.s 4, It.v (.ptr (.o 4) 0)), (Pl.o 5, It.box [TV.d (.int .i64 p.subd), TV.d (.int .i64 p.len), TV.d (.sl (eds p.es))]), (Pl.s 5, It.v (.ptr (.o 5) 0)), (Pl.s 6, It.v (.d (.sl (tbs l)))), (Pl.s 8, It.v (.d (.int .i64 i))), (Pl.s 9, It.v (.d (.int .i64 z.1)))]) (fun z => p.es.length - z.1) ⟨0, by omega⟩ ?_ ?_
   ·exact GS.to (by simp)
   ·rintro ⟨k, k1⟩
    by_cases hk : k < p.es.length
    ·have hkz : (k : Int) < b.rows.length := by omega
     have hRk := hR k hk
     have hrk := hrow p.es[k] (List.getElem_mem hk)
     have hed := edge10_c p (by omega) p.es[k].id
     rw [edOf_of hP.asc (List.getElem_mem hk)] at hed
     generalize p.es[k] = e at hRk hrk hed
     have hid : (bRow g r e).id = e.id := rfl
     have w2 : IntKind.i64.wrap ((k : Int) + 1) = (k : Int) + 1 := wrap_i64 (by omega) (by omega)
     have hc1 := cost06_c g hsm r e.r
     have hc2 := capable05_c g hsm e.r
     simp only [planT, edT, Option.getD_some, Ed.cs, List.map, Option.isSome_some] at hed
     simp only [topT, priceT] at hc1 hc2
     simp only [h0, decide_true, Bool.true_and] at hc2
     simp -dsimp [hiz, hkz, hx', hRk, Rw.cs, hid]
     and_intros
     all_goals try first | omega | exact ⟨by kernel_rfl⟩ | rfl
     refine ACall.of hed [] 0 ?_
     simp -dsimp [hiz, hkz, hx', hRk, Rw.cs, hid, hbr]
     and_intros
     all_goals try first | omega | exact ⟨by kernel_rfl⟩ | rfl
     refine ACall.of hc1 [] 0 ?_
     obtain ⟨nx, hnx⟩ : ∃ nx, nx = (bRow g r e).nx := ⟨_, rfl⟩
     rw [← hnx] at hrk
     by_cases hne : r = e.r
     ·have hn1 : nx = [r] := by rw [hnx]; simp [bRow, hne]
      simp -dsimp [hiz, hkz, hx', hRk, Rw.cs, hid, hbr, ← hne, ← hnx]
      and_intros
      all_goals try first | omega | exact ⟨by kernel_rfl⟩ | rfl
      refine ALoop.of [] (fun k => k==0||k==2||k==3||k==4||k==5||k==6||k==7||k==8||k==9||k==10||k==11||k==12||k==13||k==14||k==15||k==16||k==17||k==32||k==36||k==46||k==64||k==106||k==120||k==149) (ι := Unit)
       (fun z => [(Pl.s 2, It.v (.d (.bool false))), (Pl.o 4, It.box [TV.d (.sl (rts g.rs)), TV.d (.sl (lks g.ls))]), (Pl.s 4, It.v (.ptr (.o 4) 0)), (Pl.o 5, It.box [TV.d (.int .i64 p.subd), TV.d (.int .i64 p.len), TV.d (.sl (eds p.es))]), (Pl.s 5, It.v (.ptr (.o 5) 0)), (Pl.s 6, It.v (.d (.sl (tbs l)))), (Pl.s 8, It.v (.d (.int .i64 i))), (Pl.s 9, It.v (.d (.int .i64 k))), (Pl.o 10, It.box [.d (.int .i64 e.r), .d (.int .i64 e.id)]), (Pl.s 10, It.v (.ptr (.o 10) 0)), (Pl.s 12, It.v (.d (ints nx))), (Pl.s 15, It.v (.d (.int .i64 0)))]) (fun z => 0) () ?_ ?_
      ·exact GS.to (by simp [← hne])
      ·rintro ⟨⟩
       simp -dsimp [hiz, hkz, hx', hRk, Rw.cs, hid, hbr, ← hne, hn1, ints, w2]
       and_intros
       all_goals try first | omega | exact ⟨by kernel_rfl⟩ | rfl
       exact ⟨⟨k + 1, by omega⟩, GS.to (by simp), by simp; omega⟩
     ·obtain ⟨m1, m2⟩ := near_ok h0 hr hne
      rw [← hnx] at m1 m2
      have hloop : True := trivial
      cases hcr : costR g r e.r with
      | none =>
        have hn0 : nx = [] := by
         rw [hcr] at m1
         simp only [Option.isSome_none, Bool.false_and, decide_eq_false_iff_not] at m1
         exact List.length_eq_zero_iff.1 (by omega)
        simp -dsimp [hiz, hkz, hx', hRk, Rw.cs, hid, hbr, hne, hcr, ← hnx, hn0, ints]
        and_intros
        all_goals try first | omega | exact ⟨by kernel_rfl⟩ | rfl
        refine ALoop.of [] (fun k => k==0||k==2||k==3||k==4||k==5||k==6||k==7||k==8||k==9||k==10||k==11||k==12||k==13||k==14||k==15||k==16||k==17||k==32||k==36||k==46||k==64||k==106||k==120||k==149) (ι := Unit)
         (fun z => [(Pl.s 2, It.v (.d (.bool false))), (Pl.o 4, It.box [TV.d (.sl (rts g.rs)), TV.d (.sl (lks g.ls))]), (Pl.s 4, It.v (.ptr (.o 4) 0)), (Pl.o 5, It.box [TV.d (.int .i64 p.subd), TV.d (.int .i64 p.len), TV.d (.sl (eds p.es))]), (Pl.s 5, It.v (.ptr (.o 5) 0)), (Pl.s 6, It.v (.d (.sl (tbs l)))), (Pl.s 8, It.v (.d (.int .i64 i))), (Pl.s 9, It.v (.d (.int .i64 k))), (Pl.o 10, It.box [.d (.int .i64 e.r), .d (.int .i64 e.id)]), (Pl.s 10, It.v (.ptr (.o 10) 0)), (Pl.s 12, It.v (.d (.sl []))), (Pl.s 15, It.v (.d (.int .i64 0)))]) (fun z => 0) () ?_ ?_
        ·exact GS.to (by simp)
        ·rintro ⟨⟩
         simp -dsimp [hiz, hkz, hx', hRk, Rw.cs, hid, hbr, hne, ints, w2]
         and_intros
         all_goals try first | omega | exact ⟨by kernel_rfl⟩ | rfl
         exact ⟨⟨k + 1, by omega⟩, GS.to (by simp), by simp; omega⟩
      | some d =>
        rw [hcr] at m1
        simp only [Option.isSome_some, Bool.true_and] at m1
        rw [← m1] at hc2
        simp -dsimp [hiz, hkz, hx', hRk, Rw.cs, hid, hbr, hne, hcr, ← hnx, ints]
        and_intros
        all_goals try first | omega | exact ⟨by kernel_rfl⟩ | rfl
        refine ACall.of hc2 [] 0 ?_
        simp -dsimp [hiz, hkz, hx', hRk, Rw.cs, hid, hbr, hne]
        and_intros
        all_goals try first | omega | exact ⟨by kernel_rfl⟩ | rfl
        refine ALoop.of [] (fun k => k==0||k==2||k==3||k==4||k==5||k==6||k==7||k==8||k==9||k==10||k==11||k==12||k==13||k==14||k==15||k==16||k==17||k==32||k==36||k==46||k==64||k==106||k==120||k==149) (ι := { j : Nat // j ≤ nx.length })
         (fun z => [(Pl.s 2, It.v (.d (.bool false))), (Pl.o 4, It.box [TV.d (.sl (rts g.rs)), TV.d (.sl (lks g.ls))]), (Pl.s 4, It.v (.ptr (.o 4) 0)), (Pl.o 5, It.box [TV.d (.int .i64 p.subd), TV.d (.int .i64 p.len), TV.d (.sl (eds p.es))]), (Pl.s 5, It.v (.ptr (.o 5) 0)), (Pl.s 6, It.v (.d (.sl (tbs l)))), (Pl.s 8, It.v (.d (.int .i64 i))), (Pl.s 9, It.v (.d (.int .i64 k))), (Pl.o 10, It.box [.d (.int .i64 e.r), .d (.int .i64 e.id)]), (Pl.s 10, It.v (.ptr (.o 10) 0)), (Pl.s 12, It.v (.d (ints nx))), (Pl.s 13, It.v (.d (.int .i64 d))), (Pl.s 15, It.v (.d (.int .i64 z.1)))]) (fun z => nx.length - z.1) ⟨0, by omega⟩ ?_ ?_
        ·exact GS.to (by simp [ints])
        ·rintro ⟨j, j1⟩
         by_cases hj : j < nx.length
         ·have hjz : (j : Int) < nx.length := by omega
          have hy : nx[j]? = some nx[j] := List.getElem?_eq_getElem hj
          obtain ⟨d0, d', q1, q2, q3, q4⟩ := m2 nx[j] (List.getElem_mem hj)
          generalize nx[j] = y at hy q2 q4
          rw [hcr] at q1
          obtain rfl := Option.some.inj q1
          have hy' : (nx.map fun n => [D.int .i64 n])[j]? = some [.int .i64 y] := by simp [hy]
          have hc3 := cost06_c g hsm y e.r
          have hc4 := capable05_c g hsm y
          rw [q2] at hc3
          simp only [topT, priceT, Option.getD_some, Option.isSome_some] at hc3 hc4
          simp only [h0, q4, decide_true, Bool.true_and] at hc4
          have q3' : ¬ d ≤ d' := by omega
          have w3 : IntKind.i64.wrap ((j : Int) + 1) = (j : Int) + 1 := wrap_i64 (by omega) (by omega)
          simp -dsimp [hiz, hjz, hx', hbr, hne, ints, hy]
          and_intros
          all_goals try first | omega | exact ⟨by kernel_rfl⟩ | rfl
          refine ACall.of hc3 [] 0 ?_
          simp -dsimp [hjz, q3', ints, hy]
          and_intros
          all_goals try first | omega | exact ⟨by kernel_rfl⟩ | rfl
          refine ACall.of hc4 [] 0 ?_
          simp -dsimp [w3]
          and_intros
          all_goals try first | omega | exact ⟨by kernel_rfl⟩ | rfl
          exact ⟨⟨j + 1, by omega⟩, GS.to (by simp [ints]), by simp; omega⟩
         ·have hjz : ¬ (j : Int) < nx.length := by omega
          simp -dsimp [hiz, hjz, hx', hbr, hne, ints, w2]
          and_intros
          all_goals try first | omega | exact ⟨by kernel_rfl⟩ | rfl
          exact ⟨⟨k + 1, by omega⟩, GS.to (by simp), by simp; omega⟩
    ·have hkz : ¬ (k : Int) < b.rows.length := by omega
     simp -dsimp [hiz, hkz, hx', w1]
     and_intros
     all_goals try first | omega | exact ⟨by kernel_rfl⟩ | rfl
     exact ⟨⟨i + 1, by omega⟩, GS.to (by simp), by simp; omega⟩
  ·have hiz : ¬ (i : Int) < l.length := by omega
   simp -dsimp [hiz]
   refine ACall.of awake11_c [] 0 ?_
   simp -dsimp
   and_intros
   all_goals try first | rfl | omega | exact ⟨by kernel_rfl⟩
   refine Fin.of ?_
   simp
end Go.Proofs

/-
  What functions of the program compute, stated as contracts over plain data; the conditions of each stand in its own statement.
-/
import Derived.Test.YtjgeggdefiejbaaGreatDoorN35
import Derived.Test.YtjgeggdefiejbaaGreatDoorN37
set_option linter.unusedSimpArgs false
set_option linter.unusedVariables false
set_option maxRecDepth 100000
set_option maxHeartbeats 4000000
namespace Go.Proofs
open Go Go.Tr
def wSet (p : Pn) (set : Int) (i : Nat) : List Ed := (p.es.take i).filter fun e => decide (plSet e.id p.len = set)
def wBit (len : Int) (W : List Ed) : BitVec 64 := W.foldl (fun B e => B ||| bitB (plBit e.id len)) 0#64
def wAns (l : List Tb) (r en : Int) (W : List Ed) : List (List Int) := W.map fun e => ansE (endE l e.id (en % 8) 63 r) e.id
def pkSet (p : Pn) (set en : Int) (B : BitVec 64) : Pk := ⟨3, p.subd, set, p.len, 63, en, 0, 0, B, ByteArray.empty⟩
theorem wSet_yes {p : Pn} {set : Int} {i : Nat} {e : Ed} (h : p.es[i]? = some e) (g : plSet e.id p.len = set) : wSet p set (i + 1) = wSet p set i ++ [e] := by
 unfold wSet
 rw [List.take_add_one, h, List.filter_append]
 simp [g]
theorem wSet_no {p : Pn} {set : Int} {i : Nat} {e : Ed} (h : p.es[i]? = some e) (g : plSet e.id p.len ≠ set) : wSet p set (i + 1) = wSet p set i := by
 unfold wSet
 rw [List.take_add_one, h, List.filter_append]
 simp [g]
theorem wSet_len (p : Pn) (set : Int) (i : Nat) : (wSet p set i).length ≤ i := Nat.le_trans (List.length_filter_le _ _) (by rw [List.length_take]; omega)
theorem wBit_app (len : Int) (W : List Ed) (e : Ed) : wBit len (W ++ [e]) = wBit len W ||| bitB (plBit e.id len) := by
 unfold wBit
 rw [List.foldl_append]; rfl
theorem wBit_iff (len : Int) (W : List Ed) {k : Nat} (hk : k < 64) : (wBit len W).getLsbD k = true ↔ ∃ e ∈ W, (k : Int) = plBit e.id len := by
 have : ∀ (W : List Ed) (B : BitVec 64), (W.foldl (fun B e => B ||| bitB (plBit e.id len)) B).getLsbD k = true ↔ B.getLsbD k = true ∨ ∃ e ∈ W, (k : Int) = plBit e.id len := by
  intro W
  induction W with
  | nil => intro B; simp
  | cons e W ih =>
    intro B
    rw [List.foldl_cons, ih, or_bit, bitB_iff hk]
    simp [or_assoc]
 have h := this W 0#64
 rw [wBit, h]; simp
theorem place_sum {id len : Int} (hv : validLen len = true) (hid : 1 ≤ id ∧ id ≤ 256) : plSet id len * len + plBit id len + 1 = id := by
 have hb : (validLen len && inB id 1 256) = true := by rw [hv, inB_true hid]; rfl
 unfold plSet plBit
 rw [if_pos hb, if_pos hb]
 have := Int.mul_ediv_add_emod (id - 1) len
 rw [Int.mul_comm] at this
 omega
theorem probe_set {g : Topo} {p : Pn} (hg : chkT g = 0) (hA : AllCap g) (hp : planB p = true) (hv : validLen p.len = true) (hsd : 0 ≤ p.subd ∧ p.subd ≤ 2) {r : Int} (hr : hasR g.rs r = true) {set en : Int} (hs : 0 ≤ set ∧ set ≤ 4) (hen : 0 ≤ en ∧ en ≤ 1023) :
  sendP (tabs g p g.rs) (pkSet p set en (wBit p.len (wSet p set p.es.length))) r = (wAns (tabs g p g.rs) r en (wSet p set p.es.length), 0) := by
 have hO := chkT_zero hg
 have hcs := validLen_cases hv
 have hW : ∀ e ∈ wSet p set p.es.length, e ∈ p.es ∧ plSet e.id p.len = set := fun e he => by
  obtain ⟨h1, h2⟩ := List.mem_filter.1 he
  exact ⟨List.mem_of_mem_take h1, of_decide_eq_true h2⟩
 have hbit := fun k hk => wBit_iff p.len (wSet p set p.es.length) (k := k) hk
 have hlt : ∀ e : Ed, 0 ≤ plBit e.id p.len ∧ plBit e.id p.len < p.len ∧ plBit e.id p.len < 64 := fun e => by
  have h1 := plBit_lt (id := e.id) hv
  have h2 := plB e.id p.len
  omega
 have hok : (pkSet p set en (wBit p.len (wSet p set p.es.length))).ok = true := by
  refine (ok_iff _).2 ⟨⟨by simp [pkSet], by simp [pkSet]⟩, ⟨by simp only [pkSet]; omega, by simp only [pkSet]; omega⟩, ⟨by simp only [pkSet]; omega, by simp only [pkSet]; omega⟩, ?_, by simp [pkSet], hen, by simp [pkSet], by simp [pkSet], by simp [pkSet]⟩
  refine validB_of hv fun k hk hb => ?_
  obtain ⟨e, _, h2⟩ := (hbit k hk).1 hb
  have := hlt e
  show (k : Int) < p.len
  omega
 have hfd : findT (tabs g p g.rs) r = some (buildT g p r) := by rw [tabs_find hO, if_pos (hA.cap hO hr)]
 have hall := tabs_all hg hp
 have hpl : plnP (pkSet p set en (wBit p.len (wSet p set p.es.length))) = en % 8 := by
  unfold plnP; rw [if_pos hok]; rfl
 have hat : ∀ k : Nat, k < 64 → (wBit p.len (wSet p set p.es.length)).getLsbD k = true → ∃ e ∈ wSet p set p.es.length, (k : Int) = plBit e.id p.len ∧ atB set k p.len = true ∧ idAt (pkSet p set en (wBit p.len (wSet p set p.es.length))) k = e.id := fun k hk hb => by
  obtain ⟨e, h1, h2⟩ := (hbit k hk).1 hb
  obtain ⟨h3, h4⟩ := hW e h1
  have hid := plan_id hp h3
  have hsum := place_sum hv hid
  have hl := hlt e
  rw [h4] at hsum
  have ha : atB set k p.len = true := by
   unfold atB
   simp only [hv, inB, Bool.and_eq_true, decide_eq_true_eq]
   refine ⟨trivial, ⟨by omega, by omega⟩, ⟨by omega, by omega⟩, by omega⟩
  refine ⟨e, h1, h2, ha, ?_⟩
  unfold idAt
  rw [if_pos (show atB (pkSet p set en (wBit p.len (wSet p set p.es.length))).set k (pkSet p set en (wBit p.len (wSet p set p.es.length))).len = true from ha)]
  show set * p.len + k + 1 = e.id
  omega
 have hrun : (runR (tabs g p g.rs) (pkSet p set en (wBit p.len (wSet p set p.es.length))) r).2 = 0 := by
  unfold runR
  rw [if_neg (by simp [hall, hok]), hfd]
  simp only
  rw [if_neg (by simp [pkSet]), if_neg (by simp [pkSet, buildT])]
 have hatA : atAll (pkSet p set en (wBit p.len (wSet p set p.es.length))) = true := List.all_eq_true.2 fun k hk => by
  obtain ⟨h1, h2⟩ := mem_bitsL.1 hk
  obtain ⟨e, _, _, h3, _⟩ := hat k h1 h2
  exact h3
 unfold sendP
 rw [if_neg (by simp [hrun]), if_neg (by simp [pkSet]), if_pos hatA]
 congr 1
 refine key_eq (ansL_asc hatA) ?_ fun x => ?_
 ·unfold wAns
  rw [List.pairwise_map]
  refine List.Pairwise.imp ?_ (((plan_asc hp).sublist (List.take_sublist _ _)).filter _)
  intro a b h
  rw [ansE_id, ansE_id]; exact h
 ·unfold ansL wAns
  rw [List.mem_map, List.mem_map]
  constructor
  ·rintro ⟨k, hk, rfl⟩
   obtain ⟨h1, h2⟩ := mem_bitsL.1 hk
   obtain ⟨e, h3, _, _, h4⟩ := hat k h1 h2
   exact ⟨e, h3, by unfold ansK; rw [h4, hpl]; rfl⟩
  ·rintro ⟨e, he, rfl⟩
   have hl := hlt e
   have hk : (plBit e.id p.len).toNat < 64 := by omega
   have hb : (wBit p.len (wSet p set p.es.length)).getLsbD (plBit e.id p.len).toNat = true := (hbit _ hk).2 ⟨e, he, by omega⟩
   obtain ⟨e', h3, h5, _, h4⟩ := hat _ hk hb
   obtain ⟨a1, a2⟩ := hW e he
   obtain ⟨b1, b2⟩ := hW e' h3
   have s1 := place_sum hv (plan_id hp a1)
   have s2 := place_sum hv (plan_id hp b1)
   rw [a2] at s1
   rw [b2] at s2
   have : e'.id = e.id := by omega
   exact ⟨_, mem_bitsL.2 ⟨hk, hb⟩, by unfold ansK; rw [h4, hpl, this]; rfl⟩
theorem right_end {g : Topo} {p : Pn} (hg : chkT g = 0) (hp : planB p = true) {e : Ed} (he : e ∈ p.es) {r : Int} (hr : r ≠ 0) {pl : Int} (hn : (tabs g p g.rs).length ≤ 24) (h : (pathV (tabs g p g.rs) r e.id pl).2 = 0) :
  endE (tabs g p g.rs) e.id pl 63 r = (true, e.r, 63 - (pathV (tabs g p g.rs) r e.id pl).1.length) ∧ (pathV (tabs g p g.rs) r e.id pl).1.length ≤ 25 := by
 have hl := pathV_len (tabs g p g.rs) r e.id pl
 obtain ⟨ws, hD, hw⟩ := dl_of_path h hr
 obtain ⟨e', he', hid, hl2, _⟩ := dl_wrong hg hp hD
 obtain rfl : e' = e := plan_inj hp he' he hid
 have hE := endE_dl hD 63
 rw [hw] at hl ⊢
 have hl3 : ws.length ≤ (tabs g p g.rs).length + 1 := hl
 rw [if_pos (by omega), hl2] at hE
 exact ⟨hE, by show ws.length ≤ 25; omega⟩
end Go.Proofs

set_option linter.unusedSimpArgs false
set_option linter.unusedVariables false
set_option maxRecDepth 100000
set_option maxHeartbeats 8000000
namespace Go.Proofs
open Go Go.Tr
theorem four_of {x : List Int} (h : x.length = 4) : ∃ a b c d, x = [a, b, c, d] := by
 match x, h with
 | [a, b, c, d], _ => exact ⟨a, b, c, d, rfl⟩
theorem same35_c (a b : List (List Int)) (ha : ∀ x ∈ a, x.length = 4) (hb : ∀ x ∈ b, x.length = 4) (hl : a.length ≤ 1000000) : Contract Tryz.prog 26 [.d (.sl (irow a)), .d (.sl (irow b))] [] (.d (.bool (decide (a = b)))) [] [] := by
 refine contract_of Tryz.func26 rfl (fun E0 => ?_)
 refine awp.sound (g := .mk) (ow := []) (kp := (fun k => k==0||k==1||k==4||k==5||k==10||k==12||k==13||k==14||k==24)) ?_
 rw [Tryz.ntmps26]
 have la : (irow a).length = a.length := by simp [irow]
 have lb : (irow b).length = b.length := by simp [irow]
 by_cases hlen : a.length = b.length
 ·have hlz : (a.length : Int) = b.length := by omega
  simp -dsimp [la, lb, hlen]
  and_intros
  all_goals try first | omega | exact ⟨by kernel_rfl⟩ | rfl
  refine ALoop.of [] (fun k => k==0||k==1||k==4||k==5||k==10||k==12||k==13||k==14||k==24) (ι := { i : Nat // i ≤ b.length ∧ ∀ j, j < i → a[j]? = b[j]? }) (fun z => [(Pl.s 0, It.v (.d (.sl (irow a)))), (Pl.s 1, It.v (.d (.sl (irow b)))), (Pl.s 4, It.v (.d (.bool false))), (Pl.s 12, It.v (TV.d (D.int IntKind.i64 b.length))), (Pl.s 13, It.v (TV.d (D.int IntKind.i64 z.1)))]) (fun z => b.length - z.1) ⟨0, by omega, fun j h => by omega⟩ ?_ ?_
  ·exact GS.to (by simp)
  ·rintro ⟨i, i1, i2⟩
   by_cases hi' : i < b.length
   ·have hi : i < a.length := by omega
    have ga : a[i]? = some a[i] := List.getElem?_eq_getElem hi
    have gb : b[i]? = some b[i] := List.getElem?_eq_getElem hi'
    have hiz : (i : Int) < b.length := by omega
    have h4a := ha a[i] (List.getElem_mem hi)
    have h4b := hb b[i] (List.getElem_mem hi')
    generalize a[i] = x at ga h4a
    generalize b[i] = y at gb h4b
    obtain ⟨x0, x1, x2, x3, rfl⟩ := four_of h4a
    obtain ⟨y0, y1, y2, y3, rfl⟩ := four_of h4b
    have ga2 : (irow a)[i]? = some [D.int .i64 x0, D.int .i64 x1, D.int .i64 x2, D.int .i64 x3] := by simp [irow, ga]
    have gb2 : (irow b)[i]? = some [D.int .i64 y0, D.int .i64 y1, D.int .i64 y2, D.int .i64 y3] := by simp [irow, gb]
    have hc : (!decide (x0 = y0) || (!decide (x1 = y1) || (!decide (x2 = y2) || !decide (x3 = y3)))) = !decide (([x0, x1, x2, x3] : List Int) = [y0, y1, y2, y3]) := by
     by_cases c0 : x0 = y0 <;> by_cases c1 : x1 = y1 <;> by_cases c2 : x2 = y2 <;> by_cases c3 : x3 = y3 <;> simp [c0, c1, c2, c3]
    by_cases hxy : ([x0, x1, x2, x3] : List Int) = [y0, y1, y2, y3]
    ·obtain ⟨rfl, rfl, rfl, rfl⟩ : x0 = y0 ∧ x1 = y1 ∧ x2 = y2 ∧ x3 = y3 := by simpa using hxy
     simp -dsimp [hiz, ga2, gb2, wrap_i64 (n := (i : Int) + 1) (by omega) (by omega)]
     and_intros
     all_goals try first | omega | exact ⟨by kernel_rfl⟩ | rfl
     exact ⟨⟨i + 1, by omega, fun j hj => by
      by_cases e : j = i
      ·subst e; rw [ga, gb]
      ·exact i2 j (by omega)⟩, GS.to (by simp), by simp; omega⟩
    ·simp only [hxy, decide_false, Bool.not_false] at hc
     simp -dsimp [hiz, ga2, gb2, hc]
     and_intros
     all_goals try first | omega | exact ⟨by kernel_rfl⟩ | rfl
     refine Fin.of ?_
     have : a ≠ b := fun e => by
      subst e
      rw [ga] at gb
      exact hxy (Option.some.inj gb)
     simp [this]
   ·have hiz : ¬ (i : Int) < b.length := by omega
    simp -dsimp [hiz]
    refine Fin.of ?_
    have : a = b := List.ext_getElem? fun j => by
     by_cases hj : j < i
     ·exact i2 j hj
     ·rw [List.getElem?_eq_none (by omega), List.getElem?_eq_none (by omega)]
    simp [this]
 ·have hlen' : ¬ (a.length : Int) = b.length := by omega
  simp -dsimp [la, lb, hlen, hlen']
  refine Fin.of ?_
  have : a ≠ b := fun e => hlen (by rw [e])
  simp [this]
end Go.Proofs

set_option linter.unusedSimpArgs false
set_option linter.unusedVariables false
set_option maxRecDepth 100000
set_option maxHeartbeats 16000000
namespace Go.Proofs
open Go Go.Tr
theorem wAns_len4 (l : List Tb) (r en : Int) (W : List Ed) : ∀ x ∈ wAns l r en W, x.length = 4 := by
 intro x hx
 obtain ⟨e, _, rfl⟩ := List.mem_map.1 hx
 exact ansE_len _ _
theorem ponce_law (L : List Int) (hL : ∀ x ∈ L, I64 x) : Contract Tryz.prog 4 [.d (ints L)] [] (.d (.bool true)) [] [] := by
 refine contract_of Tryz.func4 rfl (fun E0 => ?_)
 refine awp.sound (g := .mk) (ow := []) (kp := (fun k => k==0||k==2||k==3||k==4||k==5||k==6||k==8||k==9||k==10||k==11||k==12||k==14||k==15||k==16||k==18||k==19||k==20||k==21||k==22||k==23||k==51||k==54||k==65||k==66||k==67||k==68||k==82||k==100||k==132||k==152)) ?_
 rw [Tryz.ntmps4]
 simp -dsimp [ints]
 refine ACall.of (newF_c L) [] 3000 ?_
 simp -dsimp [ints]
 have kT : TapeF (L.take 2000, 0) := tape_newF L hL
 generalize (L.take 2000, 0) = T0 at kT ⊢
 obtain ⟨h1, h2, h3, h4⟩ := gNet_valid T0 (most := 7) (by omega)
 obtain ⟨p1, p2, p3, p4, p5, p6⟩ := gPlanN_valid h1 (by omega) (gNet T0 7).2
 have hc1 := netTop_c T0 kT 7 (by omega)
 have kA : TapeF (gNet T0 7).2 := by simpa using kT
 generalize gNet T0 7 = A at h1 h2 h3 h4 p1 p2 p3 p4 p5 p6 hc1 kA
 obtain ⟨g, T1⟩ := A
 simp only at h1 h2 h3 h4 p1 p2 p3 p4 p5 p6 hc1 kA
 have hc2 := planN_c T1 kA g (by omega)
 have kB : TapeF (gPlanN g.rs T1).2 := by simpa using kA
 generalize gPlanN g.rs T1 = B at p1 p2 p3 p4 p5 p6 hc2 kB
 obtain ⟨p, T2⟩ := B
 simp only at p1 p2 p3 p4 p5 p6 hc2 kB
 have hc3 := all11_c g (chkT_zero h1).sm p (by omega)
 have ha : all11 g p = (tabs g p g.rs, 0) := by unfold all11; rw [if_pos ⟨h1, p1⟩]
 rw [ha] at hc3
 have hc4 := nextF_c T2 kB g.rs.length ⟨by omega, by omega⟩
 have q1 := gNext_nonneg T2 g.rs.length
 have q2 := gNext_lt T2 (n := g.rs.length) (by omega)
 have kN : TapeF (gNext T2 g.rs.length).2 := by simpa using kB
 generalize gNext T2 (g.rs.length : Int) = N at hc4 q1 q2 kN
 obtain ⟨n', T3⟩ := N
 simp only at hc4 q1 q2 kN
 obtain ⟨n, rfl⟩ : ∃ n : Nat, n' = n := ⟨n'.toNat, by omega⟩
 have hnr : n < g.rs.length := by omega
 have hkr : g.rs[n]? = some g.rs[n] := List.getElem?_eq_getElem hnr
 obtain ⟨x0, hx0⟩ : ∃ x0, g.rs[n] = x0 := ⟨_, rfl⟩
 have hr : hasR g.rs x0.id = true := hasR_mem.2 (List.mem_map.2 ⟨x0, hx0 ▸ List.getElem_mem hnr, rfl⟩)
 rw [hx0] at hkr
 have hc5 := nextF_c T3 kN 1024 ⟨by omega, by omega⟩
 have n1 := gNext_nonneg T3 1024
 have n2 := gNext_lt T3 (n := 1024) (by omega)
 generalize gNext T3 1024 = M at hc5 n1 n2
 obtain ⟨en, T4⟩ := M
 simp only at hc5 n1 n2
 simp only [topT, planT, allT] at hc1 hc2 hc3
 have et : List.map Tb.cs (tabs g p g.rs) = tbs (tabs g p g.rs) := rfl
 rw [et] at hc3
 have hV : GenV g p (tabs g p g.rs) := ⟨h1, h2, ⟨h3, by omega⟩, p1, p4, p6, ⟨p2, p3⟩, p5, SplV.init h1 p1⟩
 have hO := chkT_zero h1
 have hsm := hV.sm
 have hX24 := (hV.tab.tabV hV.ok).n
 have hfd : findT (tabs g p g.rs) x0.id = some (buildT g p x0.id) := by rw [tabs_find hO, if_pos (h2.cap hO hr)]
 have hbm := (findT_mem hfd).1
 have hr0 : x0.id ≠ 0 := hV.rpos hbm
 have hone : ∀ e ∈ p.es, oneB (tabs g p g.rs) x0.id e.id en 63 = 0 := fun e he => hV.one hbm he ⟨by omega, by omega⟩ ⟨by omega, by omega⟩
 have hPS := fun (hv : validLen p.len = true) (set : Int) (hs : 0 ≤ set ∧ set ≤ 4) => probe_set h1 h2 p1 hv ⟨p2, p3⟩ hr hs (en := en) ⟨n1, by omega⟩
 have hRE := fun (e : Ed) (he : e ∈ p.es) => right_end h1 p1 he hr0 (pl := en % 8) hX24
 have htm : en.tmod 8 = en % 8 := Int.tmod_eq_emod_of_nonneg n1
 obtain ⟨r, rc⟩ := x0
 simp only at hr hfd hbm hr0 hone hPS hRE
 generalize tabs g p g.rs = X at hc3 hsm hX24 hone hPS hRE
 refine ACall.of hc1 [.o 3009] 0 ?_
 simp -dsimp [topT]
 and_intros
 all_goals try first | omega | exact ⟨by kernel_rfl⟩ | rfl
 refine ACall.of hc2 [.o 3009] 0 ?_
 simp -dsimp [topT, planT]
 and_intros
 all_goals try first | omega | exact ⟨by kernel_rfl⟩ | rfl
 refine ACall.of hc3 [] 0 ?_
 simp -dsimp [topT, planT]
 and_intros
 all_goals try first | omega | exact ⟨by kernel_rfl⟩ | rfl
 refine ACall.of hc4 [.o 3009] 0 ?_
 simp -dsimp [hkr, rts, Rt.cs]
 and_intros
 all_goals try first | omega | exact ⟨by kernel_rfl⟩ | rfl
 refine ACall.of hc5 [.o 3009] 0 ?_
 by_cases h0 : p.len = 0
 ·simp -dsimp [h0]
  and_intros
  all_goals try first | omega | exact ⟨by kernel_rfl⟩ | rfl
  refine ACall.of awake35_c [] 0 ?_
  simp -dsimp
  and_intros
  all_goals try first | omega | exact ⟨by kernel_rfl⟩ | rfl
  refine Fin.of ?_
  simp
 have hv : validLen p.len = true := p6.resolve_left h0
 simp -dsimp [h0]
 and_intros
 all_goals try first | omega | exact ⟨by kernel_rfl⟩ | rfl
 refine ALoop.of [] (fun k => k==0||k==2||k==3||k==4||k==5||k==6||k==8||k==9||k==10||k==11||k==12||k==14||k==15||k==16||k==18||k==19||k==20||k==21||k==22||k==23||k==51||k==54||k==65||k==66||k==67||k==68||k==82||k==100||k==132||k==152) (ι := { i : Nat // i ≤ 5 })
  (fun z => [(Pl.o 4, It.box [TV.d (D.sl (rts g.rs)), TV.d (D.sl (lks g.ls))]), (Pl.s 4, It.v (TV.ptr (Pl.o 4) 0)), (Pl.o 5, It.box [TV.d (D.int IntKind.i64 p.subd), TV.d (D.int IntKind.i64 p.len), TV.d (D.sl (eds p.es))]), (Pl.s 5, It.v (TV.ptr (Pl.o 5) 0)), (Pl.s 6, It.v (TV.d (D.sl (tbs X)))), (Pl.s 8, It.v (TV.d (D.int IntKind.i64 r))), (Pl.s 9, It.v (TV.d (D.int IntKind.i64 en))), (Pl.s 10, It.v (TV.d (D.int IntKind.i64 z.1)))]) (fun z => 5 - z.1) ⟨0, by omega⟩ ?_ ?_
 ·exact GS.to (by simp [rts])
 rintro ⟨st', i1⟩
 by_cases hi : st' < 5
 ·have hiz : (st' : Int) ≤ 4 := by omega
  obtain ⟨st, hst⟩ : ∃ st : Int, (st' : Int) = st := ⟨_, rfl⟩
  have hsP := hPS hv st ⟨by omega, by omega⟩
  have hW0 : wSet p st 0 = [] := rfl
  simp -dsimp [hiz]
  and_intros
  all_goals try first | omega | exact ⟨by kernel_rfl⟩ | rfl
  rw [hst]
  refine ALoop.of [12] (fun k => k==0||k==2||k==3||k==4||k==5||k==6||k==8||k==9||k==10||k==11||k==12||k==14||k==15||k==16||k==18||k==19||k==20||k==21||k==22||k==23||k==51||k==54||k==65||k==66||k==67||k==68||k==82||k==100||k==132||k==152) (ι := { k : Nat // k ≤ p.es.length })
   (fun z => [(Pl.o 4, It.box [TV.d (D.sl (rts g.rs)), TV.d (D.sl (lks g.ls))]), (Pl.s 4, It.v (TV.ptr (Pl.o 4) 0)), (Pl.o 5, It.box [TV.d (D.int IntKind.i64 p.subd), TV.d (D.int IntKind.i64 p.len), TV.d (D.sl (eds p.es))]), (Pl.s 5, It.v (TV.ptr (Pl.o 5) 0)), (Pl.s 6, It.v (TV.d (D.sl (tbs X)))), (Pl.s 8, It.v (TV.d (D.int IntKind.i64 r))), (Pl.s 9, It.v (TV.d (D.int IntKind.i64 en))), (Pl.s 10, It.v (TV.d (D.int IntKind.i64 st))), (Pl.o 11, It.box ((pkSet p st en (wBit p.len (wSet p st z.1))).cs.map .d)), (Pl.s 11, It.v (TV.ptr (Pl.o 11) 0)), (Pl.s 12, It.v (TV.oref 12 (wAns X r en (wSet p st z.1)).length)), (Pl.o 12, It.row 61 4 (dd (irow (wAns X r en (wSet p st z.1)))) false), (Pl.s 65, It.v (TV.d (D.sl (eds p.es)))), (Pl.s 66, It.v (TV.d (D.int IntKind.i64 p.es.length))), (Pl.s 67, It.v (TV.d (D.int IntKind.i64 z.1)))]) (fun z => p.es.length - z.1) ⟨0, by omega⟩ ?_ ?_
  ·refine GS.own' (k := 12) 61 4 (by simp) (by simp) ?_
   simp [hW0, wAns, wBit, pkSet, Pk.cs, irow, bv, eds, hst]
   rfl
  rintro ⟨k, k1⟩
  by_cases hk : k < p.es.length
  ·have hkz : (k : Int) < p.es.length := by omega
   have hke : p.es[k]? = some p.es[k] := List.getElem?_eq_getElem hk
   have hem : p.es[k] ∈ p.es := List.getElem_mem hk
   obtain ⟨e, he0⟩ : ∃ e, p.es[k] = e := ⟨_, rfl⟩
   rw [he0] at hke hem
   have hpl := place10_c e.id p.len
   simp only [placeT] at hpl
   have hpb := plB e.id p.len
   have hWl := wSet_len p st k
   have hwl : (wAns X r en (wSet p st k)).length = (wSet p st k).length := by simp [wAns]
   simp -dsimp [hkz, hk, hke, he0, eds, Ed.cs, pkSet, Pk.cs, bv]
   and_intros
   all_goals try first | omega | exact ⟨by kernel_rfl⟩ | rfl
   refine ACall.of hpl [] 0 ?_
   by_cases hset : plSet e.id p.len = st
   ·have hs := wSet_yes (p := p) hke hset
    have hB : wBit p.len (wSet p st (k + 1)) = wBit p.len (wSet p st k) ||| bitB (plBit e.id p.len) := by rw [hs, wBit_app]
    have hAn : wAns X r en (wSet p st (k + 1)) = wAns X r en (wSet p st k) ++ [ansE (endE X e.id (en % 8) 63 r) e.id] := by rw [hs]; simp [wAns]
    have hsh : (1#64 <<< (plBit e.id p.len).toNat) = bitB (plBit e.id p.len) := by
     unfold bitB
     rw [if_neg (by omega), wrap_u64 (by omega) (by omega)]
    have hq1 := probe1_c X hsm r e.id en 63
    rw [hone e hem, show (63 : Int).toNat = 63 from rfl] at hq1
    simp only [decide_true, ansT, if_true] at hq1
    have hq2 := path14_c X hsm r e.id (en % 8)
    have hre := hRE e hem
    rw [ansE_eq] at hAn
    generalize pathV X r e.id (en % 8) = V at hq2 hre
    generalize endE X e.id (en % 8) 63 r = E at hq1 hAn hre
    obtain ⟨V, er⟩ := V
    simp only [pathT, ints] at hq2 hre
    simp -dsimp [hset, wrap_u64 (n := plBit e.id p.len) (by omega) (by omega), hsh]
    and_intros
    all_goals try first | omega | exact ⟨by kernel_rfl⟩ | rfl
    refine ACall.of hq1 [] 0 ?_
    simp -dsimp [htm]
    and_intros
    all_goals try first | omega | exact ⟨by kernel_rfl⟩ | rfl
    refine ACall.of hq2 [] 0 ?_
    by_cases her : er = 0
    ·obtain ⟨hE1, hE2⟩ := hre her
     have hkd : kdE E = 1 := by rw [hE1]; rfl
     have hrt : E.2.1 = e.r := by rw [hE1]
     have hlt : ltE E = 63 - V.length := by rw [hE1]; simp only [ltE, if_true]; omega
     rw [hkd, hrt, hlt] at hAn
     simp -dsimp [her, hkd, hrt, hlt, wrap_i64 (n := (63 : Int) - V.length) (by omega) (by omega), wrap_i64 (n := (k : Int) + 1) (by omega) (by omega)]
     and_intros
     all_goals try first | omega | exact ⟨by kernel_rfl⟩ | rfl | (simp [irow]; done) | (simp [irow]; omega)
     exact ⟨⟨k + 1, by omega⟩, GS.to (by simp [hB, hAn, pkSet, Pk.cs, bv, eds, irow, hkd, hrt, hlt]), by simp; omega⟩
    ·have hkd : True := trivial
     have hrt : True := trivial
     have hlt : True := trivial
     simp -dsimp [her, wrap_i64 (n := (k : Int) + 1) (by omega) (by omega)]
     and_intros
     all_goals try first | omega | exact ⟨by kernel_rfl⟩ | rfl | (simp [irow]; done) | (simp [irow]; omega)
     exact ⟨⟨k + 1, by omega⟩, GS.to (by simp [hB, hAn, pkSet, Pk.cs, bv, eds, irow, hkd, hrt, hlt]), by simp; omega⟩
   ·have hs := wSet_no (p := p) hke hset
    simp -dsimp [hset, wrap_i64 (n := (k : Int) + 1) (by omega) (by omega)]
    and_intros
    all_goals try first | omega | exact ⟨by kernel_rfl⟩ | rfl
    exact ⟨⟨k + 1, by omega⟩, GS.to (by simp [hs, pkSet, Pk.cs, bv, eds]), by simp; omega⟩
  ·have hkz : ¬ (k : Int) < p.es.length := by omega
   obtain rfl : k = p.es.length := by omega
   have hS := send_c X hsm (pkSet p st en (wBit p.len (wSet p st p.es.length))) r
   rw [hsP] at hS
   have hw4 := wAns_len4 X r en (wSet p st p.es.length)
   have hWl := wSet_len p st p.es.length
   have hwl : (wAns X r en (wSet p st p.es.length)).length = (wSet p st p.es.length).length := by simp [wAns]
   have hSa := same35_c (wAns X r en (wSet p st p.es.length)) (wAns X r en (wSet p st p.es.length)) hw4 hw4 (by omega)
   simp only [decide_true] at hSa
   simp only [pkT, pkSet, Pk.cs, List.map, bv] at hS
   generalize wAns X r en (wSet p st p.es.length) = W at hS hSa hwl
   simp -dsimp [hkz, pkSet, Pk.cs, bv]
   and_intros
   all_goals try first | omega | exact ⟨by kernel_rfl⟩ | rfl
   refine ACall.of hS [] 0 ?_
   simp -dsimp
   and_intros
   all_goals try first | omega | exact ⟨by kernel_rfl⟩ | rfl
   refine ACall.of hSa [] 0 ?_
   simp -dsimp [wrap_i64 (n := st + 1) (by omega) (by omega)]
   and_intros
   all_goals try first | omega | exact ⟨by kernel_rfl⟩ | rfl
   exact ⟨⟨st' + 1, by omega⟩, GS.to (by simp [hst, eds, irow]), by simp; omega⟩
 ·have hiz : ¬ (st' : Int) ≤ 4 := by omega
  obtain rfl : st' = 5 := by omega
  simp -dsimp [hiz]
  and_intros
  all_goals try first | omega | exact ⟨by kernel_rfl⟩ | rfl
  refine ACall.of awake35_c [] 0 ?_
  simp -dsimp
  and_intros
  all_goals try first | omega | exact ⟨by kernel_rfl⟩ | rfl
  refine Fin.of ?_
  simp
end Go.Proofs

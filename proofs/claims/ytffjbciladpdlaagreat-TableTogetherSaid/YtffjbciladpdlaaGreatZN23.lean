/-
  What functions of the program compute, stated as contracts over plain data; the conditions of each stand in its own statement.
-/
import Derived.Test.YtffjbciladpdlaaGreatZN22
set_option linter.unusedSimpArgs false
set_option maxRecDepth 100000
set_option maxHeartbeats 2000000
namespace Go.Proofs
open Go Go.Tr
def bRow (g : Topo) (r : Int) (e : Ed) : Rw := ⟨e.id, if e.r = r then [r] else if chkT g = 0 ∧ capR g.rs e.r = true then hops g r e.r else []⟩
def buildT (g : Topo) (p : Pn) (r : Int) : Tb := ⟨r, p.subd, p.len, p.es.map (bRow g r)⟩
def bRws (g : Topo) (r : Int) (es : List Ed) : List (List D) := (es.map (bRow g r)).map Rw.cs
@[simp] theorem bRws_len (g : Topo) (r : Int) (es : List Ed) : (bRws g r es).length = es.length := by simp [bRws]
theorem bRws_app (g : Topo) (r : Int) (es : List Ed) (x : Ed) : bRws g r (es ++ [x]) = bRws g r es ++ [(bRow g r x).cs] := by simp [bRws]
theorem build11_c (g : Topo) (hg : g.Sm) (p : Pn) (hp : p.es.length ≤ 1000000) (r : Int) : Contract Tryz.prog 58 [topT g, planT p, .d (.int .i64 r)] [] (tblT (buildT g p r)) [] [] := by
 have hr := hg.r
 refine contract_of Tryz.func58 rfl (fun E0 => ?_)
 refine awp.sound (g := .mk) (ow := []) (kp := (fun k => k==0||k==1||k==2||k==3||k==4||k==6||k==7||k==8||k==9||k==20||k==37||k==48)) ?_
 rw [Tryz.ntmps58]
 simp -dsimp [topT, planT]
 refine ALoop.of [] (fun k => k==0||k==1||k==2||k==3||k==4||k==6||k==7||k==8||k==9||k==20||k==37||k==48) (ι := { i : Nat // i ≤ p.es.length }) (fun z => [(Pl.s 0, It.v (.agg [TV.d (.sl (rts g.rs)), TV.d (.sl (lks g.ls))])), (Pl.s 1, It.v (.agg [TV.d (.int .i64 p.subd), TV.d (.int .i64 p.len), TV.d (.sl (eds p.es))])), (Pl.s 2, It.v (.d (.int .i64 r))), (Pl.o 3, It.box [TV.d (.sl (rts g.rs)), TV.d (.sl (lks g.ls))]), (Pl.s 3, It.v (.ptr (Pl.o 3) 0)), (Pl.o 4, It.box [TV.d (.int .i64 p.subd), TV.d (.int .i64 p.len), TV.d (.sl (eds p.es))]), (Pl.s 4, It.v (.ptr (Pl.o 4) 0)), (Pl.o 6, It.box [TV.d (.int .i64 0), TV.d (.int .i64 0), TV.d (.int .i64 0), TV.c (Value.slice none 0 0)]), (Pl.s 6, It.v (.ptr (Pl.o 6) 0)), (Pl.s 7, It.v (.ptr (Pl.o 7) 0)), (Pl.o 7, It.box [TV.d (.int .i64 r), TV.d (.int .i64 p.subd), TV.d (.int .i64 p.len), TV.oref 1000 z.1]), (Pl.o 1000, It.row 52 2 (dd (bRws g r (p.es.take z.1))) false), (Pl.s 8, It.v (.d (.int .i64 z.1)))]) (fun z => p.es.length - z.1) ⟨0, by omega⟩ ?_ ?_
 ·exact GS.ownB' (.o 7) 3 1000 (cs := [TV.d (.int .i64 r), TV.d (.int .i64 p.subd), TV.d (.int .i64 p.len), TV.c (Value.slice none 0 0)]) 52 2 (by simp) (by simp) (by simp) (by simp) (by simp [bRws])
 rintro ⟨i, i1⟩
 by_cases hi : i < p.es.length
 ·have hiz : (i : Int) < p.es.length := by omega
  have hx : p.es[i]? = some p.es[i] := List.getElem?_eq_getElem hi
  have ht : p.es.take (i + 1) = p.es.take i ++ [p.es[i]] := by rw [List.take_add_one, List.getElem?_eq_getElem hi]; rfl
  generalize p.es[i] = x at hx ht
  have hx' := eds_get hx
  by_cases a1 : x.r = r
  ·simp -dsimp [hiz, hx', Ed.cs, eq_true a1, wrap_i64 (n := (i : Int) + 1) (by omega) (by omega)]
   and_intros
   all_goals try first | rfl | omega | exact ⟨by kernel_rfl⟩
   have hb : bRow g r x = ⟨x.id, [r]⟩ := by simp [bRow, a1]
   exact ⟨⟨i + 1, by omega⟩, GS.to (by simp [ht, bRws_app, hb, Rw.cs, ints]), by simp; omega⟩
  simp -dsimp [hiz, hx', Ed.cs, eq_false a1, topT]
  refine ACall.of (capable05_c g hg x.r) [] 0 ?_
  rcases (Bool.eq_false_or_eq_true (decide (chkT g = 0) && capR g.rs x.r)).symm with a2 | a2
  ·simp -dsimp [hiz, hx', Ed.cs, eq_false a1, topT, a2, wrap_i64 (n := (i : Int) + 1) (by omega) (by omega)]
   and_intros
   all_goals try first | rfl | omega | exact ⟨by kernel_rfl⟩
   have hb : bRow g r x = ⟨x.id, []⟩ := by simp [bRow, a1]; intro h1 h2; simp [h1, h2] at a2
   exact ⟨⟨i + 1, by omega⟩, GS.to (by simp [ht, bRws_app, hb, Rw.cs, ints]), by simp; omega⟩
  ·simp -dsimp [hiz, hx', Ed.cs, eq_false a1, topT, a2]
   and_intros
   all_goals try first | rfl | omega | exact ⟨by kernel_rfl⟩
   refine ACall.of (hops11_c g hg r x.r) [] 0 ?_
   simp -dsimp [hiz, hx', Ed.cs, eq_false a1, topT, a2, wrap_i64 (n := (i : Int) + 1) (by omega) (by omega)]
   and_intros
   all_goals try first | rfl | omega | exact ⟨by kernel_rfl⟩
   have hb : bRow g r x = ⟨x.id, hops g r x.r⟩ := by simp at a2; simp [bRow, a1, a2]
   exact ⟨⟨i + 1, by omega⟩, GS.to (by simp [ht, bRws_app, hb, Rw.cs, ints]), by simp; omega⟩
 ·have hiz : ¬ (i : Int) < p.es.length := by omega
  obtain rfl : i = p.es.length := by omega
  simp -dsimp [hiz]
  refine Fin.box (.o 6) rfl ?_
  simp -dsimp
  refine Fin.of ?_
  simp [tblT, buildT, rwsD, bRws]
def Tb.cs (b : Tb) : List D := [.int .i64 b.r, .int .i64 b.sd, .int .i64 b.len, rwsD b.rows]
def tabs (g : Topo) (p : Pn) (rs : List Rt) : List Tb := (rs.filter (·.cap)).map fun x => buildT g p x.id
def tabD (g : Topo) (p : Pn) (rs : List Rt) : List (List D) := (tabs g p rs).map Tb.cs
theorem tabD_len (g : Topo) (p : Pn) (rs : List Rt) : (tabD g p rs).length ≤ rs.length := by
 simp only [tabD, tabs, List.length_map]
 exact List.length_filter_le _ _
theorem tabD_app (g : Topo) (p : Pn) (rs : List Rt) (x : Rt) : tabD g p (rs ++ [x]) = if x.cap then tabD g p rs ++ [(buildT g p x.id).cs] else tabD g p rs := by
 simp only [tabD, tabs, List.filter_append, List.map_append]
 cases h : x.cap <;> simp [h]
def allT (l : List Tb) (e : Int) : TV := .tup [.d (.sl (l.map Tb.cs)), .d (.int .i64 e)]
open Classical in
noncomputable def all11 (g : Topo) (p : Pn) : List Tb × Int := if chkT g = 0 ∧ planB p = true then (tabs g p g.rs, 0) else ([], 1)
theorem all11_c (g : Topo) (hg : g.Sm) (p : Pn) (hp : p.es.length ≤ 1000) : Contract Tryz.prog 29 [topT g, planT p] [] (allT (all11 g p).1 (all11 g p).2) [] [] := by
 have hr := hg.r
 refine contract_of Tryz.func29 rfl (fun E0 => ?_)
 refine awp.sound (g := .mk) (ow := []) (kp := (fun k => k==0||k==1||k==2||k==3||k==4||k==5||k==6||k==7||k==15||k==20||k==28)) ?_
 rw [Tryz.ntmps29]
 simp -dsimp [topT, planT]
 refine ACall.of (check05_c g hg.r hg.l) [] 0 ?_
 by_cases hc : chkT g = 0
 ·simp -dsimp [eq_true hc, topT]
  refine ACall.of (validPlan10_c p hp) [] 0 ?_
  rcases (Bool.eq_false_or_eq_true (planB p)).symm with a1 | a1
  ·simp -dsimp [eq_true hc, a1, planT]
   and_intros
   all_goals try first | rfl | omega | exact ⟨by kernel_rfl⟩
   refine Fin.view 4 ?_
   simp -dsimp
   refine Fin.of ?_
   simp [all11, a1, allT]
  ·have he : all11 g p = (tabs g p g.rs, 0) := by rw [all11, if_pos ⟨hc, a1⟩]
   have hn : g.rs.length ≤ 24 := (chkT_zero hc).nr
   rw [he]
   clear he
   simp -dsimp [eq_true hc, a1, planT]
   and_intros
   all_goals try first | rfl | omega | exact ⟨by kernel_rfl⟩
   as_aux_lemma =>
   refine ALoop.of [] (fun k => k==0||k==1||k==2||k==3||k==4||k==5||k==6||k==7||k==15||k==20||k==28) (ι := { i : Nat // i ≤ g.rs.length ∧ True }) (fun z => [(Pl.s 0, It.v (.agg [TV.d (.sl (rts g.rs)), TV.d (.sl (lks g.ls))])), (Pl.s 1, It.v (.agg [TV.d (.int .i64 p.subd), TV.d (.int .i64 p.len), TV.d (.sl (eds p.es))])), (Pl.o 2, It.box [TV.d (.sl (rts g.rs)), TV.d (.sl (lks g.ls))]), (Pl.s 2, It.v (.ptr (Pl.o 2) 0)), (Pl.o 3, It.box [TV.d (.int .i64 p.subd), TV.d (.int .i64 p.len), TV.d (.sl (eds p.es))]), (Pl.s 3, It.v (.ptr (Pl.o 3) 0)), (Pl.s 4, It.v (.c (Value.slice none 0 0))), (Pl.s 5, It.v (.d (.int .i64 0))), (Pl.s 6, It.v (.oref 6 (tabD g p (g.rs.take z.1)).length)), (Pl.o 6, It.row 39 4 (dd (tabD g p (g.rs.take z.1))) false), (Pl.s 7, It.v (.d (.int .i64 z.1)))]) (fun z => g.rs.length - z.1) ⟨0, by omega, trivial⟩ ?_ ?_
   ·exact GS.own' (k := 6) 39 4 (by simp) (by simp) (by simp [tabD, tabs])
   rintro ⟨i, i1, i2⟩
   by_cases hi : i < g.rs.length
   ·have hiz : (i : Int) < g.rs.length := by omega
    have hx : g.rs[i]? = some g.rs[i] := List.getElem?_eq_getElem hi
    have ht : g.rs.take (i + 1) = g.rs.take i ++ [g.rs[i]] := by rw [List.take_add_one, List.getElem?_eq_getElem hi]; rfl
    generalize g.rs[i] = x at hx ht
    have hx' := rts_get hx
    have hta := tabD_app g p (g.rs.take i) x
    have htl := tabD_len g p (g.rs.take i)
    rw [← ht] at hta
    simp at htl
    rcases (Bool.eq_false_or_eq_true x.cap).symm with c1 | c1
    ·rw [if_neg (by simp [c1])] at hta
     simp -dsimp [hiz, hx', Rt.cs, c1, wrap_i64 (n := (i : Int) + 1) (by omega) (by omega)]
     and_intros
     all_goals try first | rfl | omega | exact ⟨by kernel_rfl⟩
     exact ⟨⟨i + 1, by omega, trivial⟩, GS.to (by simp [hta]), by simp; omega⟩
    ·rw [if_pos c1] at hta
     simp -dsimp [hiz, hx', Rt.cs, c1]
     refine ACall.of (build11_c g hg p (by omega) x.id) [] 0 ?_
     simp -dsimp [hiz, hx', Rt.cs, c1, topT, planT, tblT, rwsD, wrap_i64 (n := (i : Int) + 1) (by omega) (by omega)]
     and_intros
     all_goals try first | rfl | omega | exact ⟨by kernel_rfl⟩
     exact ⟨⟨i + 1, by omega, trivial⟩, GS.to (by simp [hta, Tb.cs, rwsD]), by simp; omega⟩
   ·have hiz : ¬ (i : Int) < g.rs.length := by omega
    obtain rfl : i = g.rs.length := by omega
    simp -dsimp [hiz]
    refine Fin.view 4 ?_
    simp -dsimp
    refine Fin.of ?_
    simp [allT, tabD]
 ·simp -dsimp [eq_false hc, topT]
  and_intros
  all_goals try first | rfl | omega | exact ⟨by kernel_rfl⟩
  refine Fin.view 4 ?_
  simp -dsimp
  refine Fin.of ?_
  simp [all11, hc, allT]
theorem price_pos {g : Topo} (hg : g.Ok) {f t c : Int} (h : price g.ls f t = some c) : 1 ≤ c := by
 have : ∀ l : List Lk, (∀ x ∈ l, x ∈ g.ls) → price l f t = some c → 1 ≤ c := by
  intro l
  induction l with
  | nil => intro _ h; simp [price] at h
  | cons x l ih =>
    intro hm h
    have hc := hg.c (hm x (by simp))
    rw [price] at h
    split at h
    ·simp at h; omega
    ·split at h
     ·simp at h; omega
     ·exact ih (fun y hy => hm y (by simp [hy])) h
 exact this g.ls (fun _ h => h) h
theorem steps_lt {g : Topo} (hg : g.Ok) {d : List Int} {f x : Int} (h : x ∈ steps g d f) : atR g d x < atR g d f := by
 unfold steps at h
 split at h
 ·simp at h
 ·obtain ⟨h1, h2⟩ := List.mem_filter.1 h
  simp only [near, List.mem_map, List.mem_filter] at h1
  obtain ⟨y, ⟨_, hy⟩, rfl⟩ := h1
  obtain ⟨c, hc⟩ := Option.isSome_iff_exists.1 hy
  have := price_pos hg hc
  simp only [stepOK, hc, Option.getD_some, Bool.and_eq_true, decide_eq_true_eq] at h2
  omega
structure HopI (g : Topo) (d : List Int) (a : Int) (s : List Int × List Int) : Prop where
 seen : ∀ x ∈ s.1, atR g d x ≤ a
 asc : s.2.Pairwise (· < ·)
 out : ∀ x ∈ s.2, atR g d x < a ∧ hasR g.rs x = true ∧ capR g.rs x = true
theorem HopI.step {g : Topo} {d : List Int} {a n : Int} {s : List Int × List Int} (h : HopI g d a s) (h1 : atR g d n < a) (h2 : hasR g.rs n = true) : HopI g d a (hopIn g s n) := by
 unfold hopIn
 split
 ·rename_i hc
  obtain ⟨h3, h4⟩ := insI_asc n h.asc
  refine ⟨h.seen, h3, fun x hx => ?_⟩
  rcases (h4 x).1 hx with hx | rfl
  ·exact h.out x hx
  ·exact ⟨h1, h2, hc⟩
 ·split
  ·exact h
  ·refine ⟨fun x hx => ?_, h.asc, h.out⟩
   rcases List.mem_append.1 hx with hx | hx
   ·exact h.seen x hx
   ·simp at hx; subst hx; omega
theorem HopI.steps {g : Topo} {d : List Int} {a : Int} : ∀ (l : List Int) (s : List Int × List Int), (∀ x ∈ l, atR g d x < a ∧ hasR g.rs x = true) → HopI g d a s → HopI g d a (l.foldl (hopIn g) s)
 | [], _, _, h => h
 | n :: l, s, hl, h => by
   rw [List.foldl_cons]
   exact HopI.steps l _ (fun x hx => hl x (by simp [hx])) (h.step (hl n (by simp)).1 (hl n (by simp)).2)
theorem HopI.all {g : Topo} (hg : g.Ok) {d : List Int} {a : Int} : ∀ (k i : Nat) (s : List Int × List Int), HopI g d a s → HopI g d a (hopsL g d k i s)
 | 0, _, _, h => h
 | k + 1, i, s, h => by
   rw [hopsL]
   split
   ·rename_i hi
    refine HopI.all hg k (i + 1) _ (HopI.steps _ _ (fun x hx => ?_) h)
    have h1 := steps_lt hg hx
    have h2 := h.seen (s.1.getD i 0) (by rw [List.getD_eq_getElem?_getD, List.getElem?_eq_getElem hi]; exact List.getElem_mem hi)
    exact ⟨by omega, steps_has hx⟩
   ·exact h
theorem hops_ok (g : Topo) (f t : Int) : (hops g f t).Pairwise (· < ·) ∧ ∀ x ∈ hops g f t, hasR g.rs x = true ∧ capR g.rs x = true ∧ x ≠ f := by
 unfold hops
 split
 ·rename_i h
  have := HopI.all (chkT_zero h.1) (d := dist g t) (a := atR g (dist g t) f) (g.rs.length + 1) 0 ([f], []) ⟨by simp, by simp, by simp⟩
  exact ⟨this.asc, fun x hx => ⟨(this.out x hx).2.1, (this.out x hx).2.2, fun e => by have := (this.out x hx).1; subst e; omega⟩⟩
 ·simp
theorem Topo.Ok.id {g : Topo} (h : g.Ok) {r : Int} (hr : hasR g.rs r = true) : inR r 1 99 := by
 obtain ⟨x, hx, rfl⟩ := List.mem_map.1 (hasR_mem.1 hr)
 have := List.any_eq_false.1 h.ids x hx
 simp [inB] at this
 exact this
theorem buildT_ok {g : Topo} (hg : chkT g = 0) {p : Pn} (hp : planB p = true) {r : Int} (hr : hasR g.rs r = true) : chk (buildT g p r) = 0 := by
 have hO := chkT_zero hg
 have hri := hO.id hr
 simp only [planB, decide_eq_true_eq] at hp
 obtain ⟨hb, he, _⟩ := hp
 simp only [baseB, inB, Bool.and_eq_true, Bool.or_eq_true, decide_eq_true_eq] at hb
 obtain ⟨b1, b2, b3⟩ := hb
 have hed : ∀ {i : Nat} {e : Ed}, p.es[i]? = some e → inR e.id 1 256 ∧ (i = 0 ∨ ∃ e', p.es[i - 1]? = some e' ∧ e'.id < e.id) := fun {i e} hi => by
  obtain ⟨h1, h2⟩ := List.getElem?_eq_some_iff.1 hi
  have h3 := he i h1
  have g1 : p.es.getD i ⟨0, 0⟩ = e := by rw [List.getD_eq_getElem?_getD, hi]; rfl
  simp only [edB, gid, grt, g1, inB, Bool.and_eq_true, Bool.or_eq_true, decide_eq_true_eq] at h3
  refine ⟨h3.1, h3.2.2.imp id fun h => ?_⟩
  have h4 : i - 1 < p.es.length := by omega
  rw [List.getD_eq_getElem?_getD, List.getElem?_eq_getElem h4] at h
  exact ⟨_, List.getElem?_eq_getElem h4, h⟩
 have hnx : ∀ e : Ed, (∀ n ∈ (bRow g r e).nx, inR n 1 99) ∧ (bRow g r e).nx.Pairwise (· < ·) ∧ (bRow g r e).nx.length ≤ 24 ∧ ¬ (1 < (bRow g r e).nx.length ∧ r ∈ (bRow g r e).nx) := fun e => by
  unfold bRow
  simp only
  split
  ·exact ⟨by simpa using hri, by simp, by simp, by simp⟩
  ·split
   ·obtain ⟨h1, h2⟩ := hops_ok g r e.r
    refine ⟨fun n hn => hO.id (h2 n hn).1, h1, ?_, fun h => (h2 r h.2).2.2 rfl⟩
    exact Nat.le_trans (seen_le (h1.imp fun h => by omega) fun x hx => (h2 x hx).1) hO.nr
   ·simp
 have hmem : ∀ {x : Rw}, x ∈ (buildT g p r).rows → ∃ (i : Nat) (e : Ed), p.es[i]? = some e ∧ x = bRow g r e := fun {x} hx => by
  obtain ⟨e, he, rfl⟩ := List.mem_map.1 hx
  obtain ⟨i, hi⟩ := List.getElem?_of_mem he
  exact ⟨i, e, hi, rfl⟩
 refine chk_ok ⟨hri, b1, b2.imp id fun h => ⟨h.1, by simp [buildT, h.2]⟩⟩ ?_ (by simp [buildT]; omega) ?_ (asc_of (fun a x y hx hy => ?_) fun x hx => ?_) ?_
 ·rintro ⟨x, hx, ho⟩
  obtain ⟨i, e, hi, rfl⟩ := hmem hx
  rcases ho with ho | ⟨n, hn, ho⟩
  ·exact ho (hed hi).1
  ·exact ho ((hnx e).1 n hn)
 ·rintro ⟨x, hx, ho⟩
  obtain ⟨i, e, hi, rfl⟩ := hmem hx
  have := (hnx e).2.2.1
  omega
 ·simp only [buildT, List.getElem?_map, Option.map_eq_some_iff] at hx hy
  obtain ⟨e, h1, rfl⟩ := hx
  obtain ⟨e', h2, rfl⟩ := hy
  rcases (hed h2).2 with h | ⟨e2, h3, h4⟩
  ·simp at h
  ·simp only [Nat.add_sub_cancel] at h3
   rw [h1] at h3
   simp only [Option.some.injEq] at h3
   subst h3
   exact h4
 ·obtain ⟨i, e, hi, rfl⟩ := hmem hx
  exact (hnx e).2.1
 ·rintro ⟨x, hx, h1, h2⟩
  obtain ⟨i, e, hi, rfl⟩ := hmem hx
  exact (hnx e).2.2.2 ⟨h1, h2⟩
theorem all11_ok (g : Topo) (p : Pn) : ∀ b ∈ (all11 g p).1, chk b = 0 := fun b hb => by
 unfold all11 at hb
 split at hb
 ·rename_i h
  simp only [tabs, List.mem_map, List.mem_filter] at hb
  obtain ⟨x, ⟨hx, _⟩, rfl⟩ := hb
  exact buildT_ok h.1 h.2 (hasR_mem.2 (List.mem_map_of_mem hx))
 ·simp at hb
theorem all11_len (g : Topo) (p : Pn) : (all11 g p).1.length ≤ 24 := by
 unfold all11
 split
 ·rename_i h
  simp only [tabs, List.length_map]
  exact Nat.le_trans (List.length_filter_le _ _) (chkT_zero h.1).nr
 ·simp
theorem indexT0_c (l : List Tb) (hl : l.length ≤ 1000000) (f : FuncId) (q : Tb → Bool) (hf : ∀ x, x ∈ l → Contract Tryz.prog f [tblT x] [] (.d (.bool (q x))) [] []) (hok : fnOK Tryz.prog f = true) :
  Contract Tryz.prog 120 [.d (.sl (l.map Tb.cs)), .clo f []] [] (.d (.int .i64 (idxR q l))) [] [] := by
 refine contract_of Tryz.func120 rfl (fun E0 => ?_)
 refine awp.sound (g := .mk) (ow := []) (kp := (fun k => k==0||k==1||k==4||k==5||k==7||k==8||k==9||k==16)) ?_
 rw [Tryz.ntmps120]
 simp -dsimp
 refine ALoop.of [] (fun k => k==0||k==1||k==4||k==5||k==7||k==8||k==9||k==16) (ι := { i : Nat // i ≤ l.length ∧ ∀ a, a < i → ∀ x, l[a]? = some x → q x = false })
  (fun z => [(Pl.s 0, It.v (.d (.sl (l.map Tb.cs)))), (Pl.s 1, It.v (.clo f [])), (Pl.s 4, It.v (.d (.int .i64 0))), (Pl.s 7, It.v (.d (.int .i64 l.length))), (Pl.s 8, It.v (.d (.int .i64 z.1)))]) (fun z => l.length - z.1) ⟨0, by omega, fun a h => by omega⟩ ?_ ?_
 ·exact GS.to (by simp)
 ·rintro ⟨i, i1, i2⟩
  by_cases hi : i < l.length
  ·have hiz : (i : Int) < l.length := by omega
   have hx : l[i]? = some l[i] := List.getElem?_eq_getElem hi
   have hm : l[i] ∈ l := List.getElem_mem hi
   generalize l[i] = x at hx hm
   simp -dsimp [hiz, hx, Tb.cs, rwsD, wrap_i64 (n := (i : Int) + 1) (by omega) (by omega)]
   and_intros
   all_goals try first | rfl | omega | exact ⟨by kernel_rfl⟩
   refine ACall.of (hf x hm) [] 0 ?_
   rcases (Bool.eq_false_or_eq_true (q x)).symm with h | h
   ·simp -dsimp [h, hok, tblT, rwsD, wrap_i64 (n := (i : Int) + 1) (by omega) (by omega)]
    and_intros
    all_goals try first | rfl | omega | exact ⟨by kernel_rfl⟩
    exact ⟨⟨i + 1, by omega, fun a ha y hy => by
     by_cases e : a = i
     ·subst e; rw [hx] at hy; simp only [Option.some.injEq] at hy; subst hy; exact h
     ·exact i2 a (by omega) y hy⟩, GS.to (by simp), by simp; omega⟩
   ·simp -dsimp [h, hok, tblT, rwsD]
    and_intros
    all_goals try first | rfl | omega | exact ⟨by kernel_rfl⟩
    refine Fin.of ?_
    simp [idx_at hx h i2]
  ·simp -dsimp [hi]
   refine Fin.of ?_
   simp
   exact (idx_no fun a ha => i2 a (by omega)).symm
theorem containsFT0_c (l : List Tb) (hl : l.length ≤ 1000000) (f : FuncId) (q : Tb → Bool) (hf : ∀ x, x ∈ l → Contract Tryz.prog f [tblT x] [] (.d (.bool (q x))) [] []) (hok : fnOK Tryz.prog f = true) :
  Contract Tryz.prog 71 [.d (.sl (l.map Tb.cs)), .clo f []] [] (.d (.bool (l.any q))) [] [] := by
 refine contract_of Tryz.func71 rfl (fun E0 => ?_)
 refine awp.sound (g := .mk) (ow := []) (kp := (fun k => k==0||k==1||k==4)) ?_
 rw [Tryz.ntmps71]
 simp -dsimp
 refine ACall.of (indexT0_c l hl f q hf hok) [] 0 ?_
 simp -dsimp
 refine Fin.of ?_
 simp [idx_any]
theorem indexT1_c (l : List Tb) (hl : l.length ≤ 1000000) (f : FuncId) (ds : List D) (q : Tb → Bool) (hf : ∀ x, x ∈ l → Contract Tryz.prog f [tblT x, .ptr (.x 0) 0] [.box (ds.map .d)] (.d (.bool (q x))) [.box (ds.map .d)] []) (hok : fnOK Tryz.prog f = true) :
  Contract Tryz.prog 120 [.d (.sl (l.map Tb.cs)), .clo f [.ptr (.x 0) 0]] [.box (ds.map .d)] (.d (.int .i64 (idxR q l))) [.box (ds.map .d)] [] := by
 refine contract_of Tryz.func120 rfl (fun E0 => ?_)
 refine awp.sound (g := .mk) (ow := []) (kp := (fun k => k==0||k==1||k==4||k==5||k==7||k==8||k==9||k==16)) ?_
 rw [Tryz.ntmps120]
 simp -dsimp
 refine ALoop.of [] (fun k => k==0||k==1||k==4||k==5||k==7||k==8||k==9||k==16) (ι := { i : Nat // i ≤ l.length ∧ ∀ a, a < i → ∀ x, l[a]? = some x → q x = false })
  (fun z => [(Pl.s 0, It.v (.d (.sl (l.map Tb.cs)))), (Pl.s 1, It.v (.clo f [TV.ptr (Pl.x 0) 0])), (Pl.x 0, It.box (List.map TV.d ds)), (Pl.s 4, It.v (.d (.int .i64 0))), (Pl.s 7, It.v (.d (.int .i64 l.length))), (Pl.s 8, It.v (.d (.int .i64 z.1)))]) (fun z => l.length - z.1) ⟨0, by omega, fun a h => by omega⟩ ?_ ?_
 ·exact GS.to (by simp)
 ·rintro ⟨i, i1, i2⟩
  by_cases hi : i < l.length
  ·have hiz : (i : Int) < l.length := by omega
   have hx : l[i]? = some l[i] := List.getElem?_eq_getElem hi
   have hm : l[i] ∈ l := List.getElem_mem hi
   generalize l[i] = x at hx hm
   simp -dsimp [hiz, hx, Tb.cs, rwsD, wrap_i64 (n := (i : Int) + 1) (by omega) (by omega)]
   and_intros
   all_goals try first | rfl | omega | exact ⟨by kernel_rfl⟩
   refine ACall.of (hf x hm) [.x 0] 0 ?_
   rcases (Bool.eq_false_or_eq_true (q x)).symm with h | h
   ·simp -dsimp [h, hok, tblT, rwsD, wrap_i64 (n := (i : Int) + 1) (by omega) (by omega)]
    and_intros
    all_goals try first | rfl | omega | exact ⟨by kernel_rfl⟩
    exact ⟨⟨i + 1, by omega, fun a ha y hy => by
     by_cases e : a = i
     ·subst e; rw [hx] at hy; simp only [Option.some.injEq] at hy; subst hy; exact h
     ·exact i2 a (by omega) y hy⟩, GS.to (by simp), by simp; omega⟩
   ·simp -dsimp [h, hok, tblT, rwsD]
    and_intros
    all_goals try first | rfl | omega | exact ⟨by kernel_rfl⟩
    refine Fin.of ?_
    simp [idx_at hx h i2]
  ·simp -dsimp [hi]
   refine Fin.of ?_
   simp
   exact (idx_no fun a ha => i2 a (by omega)).symm
theorem containsFT1_c (l : List Tb) (hl : l.length ≤ 1000000) (f : FuncId) (ds : List D) (q : Tb → Bool) (hf : ∀ x, x ∈ l → Contract Tryz.prog f [tblT x, .ptr (.x 0) 0] [.box (ds.map .d)] (.d (.bool (q x))) [.box (ds.map .d)] []) (hok : fnOK Tryz.prog f = true) :
  Contract Tryz.prog 71 [.d (.sl (l.map Tb.cs)), .clo f [.ptr (.x 0) 0]] [.box (ds.map .d)] (.d (.bool (l.any q))) [.box (ds.map .d)] [] := by
 refine contract_of Tryz.func71 rfl (fun E0 => ?_)
 refine awp.sound (g := .mk) (ow := []) (kp := (fun k => k==0||k==1||k==4)) ?_
 rw [Tryz.ntmps71]
 simp -dsimp
 refine ACall.of (indexT1_c l hl f ds q hf hok) [.x 0] 0 ?_
 simp -dsimp
 refine Fin.of ?_
 simp [idx_any]
def tbs (l : List Tb) : List (List D) := l.map Tb.cs
def rws (l : List Rw) : List (List D) := l.map Rw.cs
theorem rws_get {l : List Rw} {i : Nat} {x : Rw} (h : l[i]? = some x) : (rws l)[i]? = some [.int .i64 x.id, ints x.nx] := by simp [rws, h, Rw.cs]
@[simp] theorem rws_len (l : List Rw) : (rws l).length = l.length := by simp [rws]
theorem rws_app (l : List Rw) (x : Rw) : rws (l ++ [x]) = rws l ++ [[.int .i64 x.id, ints x.nx]] := by simp [rws, Rw.cs]
theorem rwsD_eq (l : List Rw) : rwsD l = .sl (rws l) := rfl
theorem tbs_get {l : List Tb} {i : Nat} {b : Tb} (h : l[i]? = some b) : (tbs l)[i]? = some [.int .i64 b.r, .int .i64 b.sd, .int .i64 b.len, .sl (rws b.rows)] := by simp [tbs, h, Tb.cs, rwsD_eq]
@[simp] theorem tbs_len (l : List Tb) : (tbs l).length = l.length := by simp [tbs]
structure SmL (l : List Tb) : Prop where
 n : l.length ≤ 1000
 t : ∀ b ∈ l, b.Sm
structure Tb.SmB (b : Tb) : Prop where
 rows : b.rows.length ≤ 9223372036854775807
 nx : ∀ x ∈ b.rows, x.nx.length ≤ 9223372036854775807
theorem Tb.Sm.big {b : Tb} (h : b.Sm) : b.SmB := ⟨Nat.le_trans h.rows (by decide), fun x hx => Nat.le_trans (h.nx x hx) (by decide)⟩
structure SmLB (l : List Tb) : Prop where
 n : l.length ≤ 1000
 t : ∀ b ∈ l, b.SmB
theorem SmL.big {l : List Tb} (h : SmL l) : SmLB l := ⟨h.n, fun b hb => (h.t b hb).big⟩
def tb0 : Tb := ⟨0, 0, 0, []⟩
def chkA (l : List Tb) : Int := firstE [(decide (24 < l.length), 3), (l.any fun b => decide (chk b ≠ 0), 1), (adjB (fun x y => decide (y.r ≤ x.r)) l, 25),
 (l.any fun b => decide (b.sd ≠ (l.headD tb0).sd) || decide (b.len ≠ (l.headD tb0).len), 8)]
def findT (l : List Tb) (r : Int) : Option Tb := l.find? fun b => decide (b.r = r)
def foundT (o : Option Tb) : TV := .tup [tblT (o.getD tb0), .d (.bool o.isSome)]
theorem find11_c (l : List Tb) (hl : SmL l) (r : Int) : Contract Tryz.prog 38 [.d (.sl (tbs l)), .d (.int .i64 r)] [] (foundT (findT l r)) [] [] := by
 have hn := hl.n
 refine contract_of Tryz.func38 rfl (fun E0 => ?_)
 refine awp.sound (g := .mk) (ow := []) (kp := (fun k => k==0||k==1||k==4||k==5||k==6||k==10||k==19)) ?_
 rw [Tryz.ntmps38]
 simp -dsimp
 refine ALoop.of [] (fun k => k==0||k==1||k==4||k==5||k==6||k==10||k==19) (ι := { i : Nat // i ≤ l.length ∧ findT l r = findT (l.drop i) r }) (fun z => [(Pl.s 0, It.v (.d (.sl (tbs l)))), (Pl.s 1, It.v (.d (.int .i64 r))), (Pl.o 4, It.box [TV.d (.int .i64 0), TV.d (.int .i64 0), TV.d (.int .i64 0), TV.c (Value.slice none 0 0)]), (Pl.s 4, It.v (.ptr (Pl.o 4) 0)), (Pl.s 5, It.v (.d (.bool false))), (Pl.s 6, It.v (.d (.int .i64 z.1)))]) (fun z => l.length - z.1) ⟨0, by omega, rfl⟩ ?_ ?_
 ·exact GS.to (by simp)
 rintro ⟨i, i1, i2⟩
 by_cases hi : i < l.length
 ·have hiz : (i : Int) < l.length := by omega
  have hx : l[i]? = some l[i] := List.getElem?_eq_getElem hi
  generalize l[i] = b at hx
  have hx' := tbs_get hx
  by_cases hr : b.r = r
  ·have e : findT l r = some b := find_hit hx i2 (by simpa using hr)
   simp -dsimp [hiz, hx', eq_true hr]
   and_intros
   all_goals try first | rfl | omega | exact ⟨by kernel_rfl⟩
   refine Fin.of ?_
   simp [foundT, e, tblT, rwsD_eq]
  ·have e : findT l r = findT (l.drop (i + 1)) r := find_step hx i2 (by simpa using hr)
   simp -dsimp [hiz, hx', eq_false hr, wrap_i64 (n := (i : Int) + 1) (by omega) (by omega)]
   and_intros
   all_goals try first | rfl | omega | exact ⟨by kernel_rfl⟩
   exact ⟨⟨i + 1, by omega, e⟩, GS.to (by simp []), by simp; omega⟩
 ·have e : findT l r = none := find_end i2 hi
  have hiz : ¬ (i : Int) < l.length := by omega
  simp -dsimp [hiz]
  refine Fin.box (.o 4) rfl ?_
  simp -dsimp
  refine Fin.of ?_
  simp [foundT, e, tblT, rwsD_eq, tb0, rws]
theorem checkA11_cL (l : List Tb) (hl : SmLB l) : Contract Tryz.prog 35 [.d (.sl (tbs l))] [] (.d (.int .i64 (chkA l))) [] [] := by
 have hn := hl.n
 refine contract_of Tryz.func35 rfl (fun E0 => ?_)
 refine awp.sound (g := .mk) (ow := []) (kp := (fun k => k==0||k==2||k==3||k==4||k==5||k==8||k==12||k==20||k==24||k==38||k==42||k==66)) ?_
 rw [Tryz.ntmps35]
 by_cases c1 : 24 < l.length
 ·have c1z : (24 : Int) < l.length := by omega
  simp -dsimp [c1z]
  refine Fin.of ?_
  simp [chkA, firstE, c1]
 have c1z : ¬ (24 : Int) < l.length := by omega
 simp -dsimp [c1z]
 clear c1z
 refine ALoop.of [] (fun k => k==0||k==2||k==3||k==4||k==5||k==8||k==12||k==20||k==24||k==38||k==42||k==66) (ι := { i : Nat // i ≤ l.length ∧ (l.any fun b => decide (chk b ≠ 0)) = (l.drop i).any fun b => decide (chk b ≠ 0) }) (fun z => [(Pl.s 0, It.v (.d (.sl (tbs l)))), (Pl.s 2, It.v (.d (.int .i64 0))), (Pl.s 3, It.v (.d (.int .i64 z.1)))]) (fun z => l.length - z.1) ⟨0, by omega, rfl⟩ ?_ ?_
 ·exact GS.to (by simp)
 rintro ⟨i, i1, i2⟩
 by_cases hi : i < l.length
 ·have hiz : (i : Int) < l.length := by omega
  have hx : l[i]? = some l[i] := List.getElem?_eq_getElem hi
  have hm := hl.t l[i] (List.getElem_mem hi)
  generalize l[i] = b at hx hm
  have hx' := tbs_get hx
  simp -dsimp [hiz, hx']
  and_intros
  all_goals try first | rfl | omega | exact ⟨by kernel_rfl⟩
  refine ACall.of (check11_cL b hm.rows hm.nx) [] 0 ?_
  by_cases a1 : chk b = 0
  ·simp -dsimp [hiz, hx', tblT, rwsD_eq, eq_true a1, wrap_i64 (n := (i : Int) + 1) (by omega) (by omega)]
   and_intros
   all_goals try first | rfl | omega | exact ⟨by kernel_rfl⟩
   exact ⟨⟨i + 1, by omega, any_step hx i2 (by simpa using a1)⟩, GS.to (by simp []), by simp; omega⟩
  ·simp -dsimp [hiz, hx', tblT, rwsD_eq, eq_false a1]
   and_intros
   all_goals try first | rfl | omega | exact ⟨by kernel_rfl⟩
   refine Fin.of ?_
   have e : (l.any fun b => decide (chk b ≠ 0)) = true := any_hit hx (by simpa using a1)
   simp only [chkA, firstE, cond_true, cond_false, decide_eq_false c1, e]; simp
 have e1 := any_end i2 hi
 have hiz : ¬ (i : Int) < l.length := by omega
 simp -dsimp [hiz]
 as_aux_lemma =>
 refine ALoop.of [] (fun k => k==0||k==2||k==3||k==4||k==5||k==8||k==12||k==20||k==24||k==38||k==42||k==66) (ι := { i : Nat // i ≤ l.length ∧ adjB (fun x y => decide (y.r ≤ x.r)) l = adjB (fun (x y : Tb) => decide (y.r ≤ x.r)) (l.drop i) }) (fun z => [(Pl.s 0, It.v (.d (.sl (tbs l)))), (Pl.s 2, It.v (.d (.int .i64 0))), (Pl.s 4, It.v (.d (.int .i64 ((z.1 : Int) + 1))))]) (fun z => l.length - z.1) ⟨0, by omega, rfl⟩ ?_ ?_
 ·exact GS.to (by simp)
 rintro ⟨i, i1, i2⟩
 by_cases hi : i + 1 < l.length
 ·have hi0 : i < l.length := by omega
  have hiz : (i : Int) + 1 < l.length := by omega
  have hx : l[i]? = some l[i] := List.getElem?_eq_getElem hi0
  have hy : l[i + 1]? = some l[i + 1] := List.getElem?_eq_getElem hi
  generalize l[i] = x at hx
  generalize l[i + 1] = y at hy
  have hx' := tbs_get hx
  have hy' := tbs_get hy
  by_cases a1 : y.r ≤ x.r
  ·simp -dsimp [hiz, hx', hy', a1, toNat_succ, wrap_i64 (n := (i : Int)) (by omega) (by omega)]
   and_intros
   all_goals try first | rfl | omega | exact ⟨by kernel_rfl⟩
   refine Fin.of ?_
   have e := adj_hit hx hy i2 (by simpa using a1)
   simp only [chkA, firstE, cond_true, cond_false, decide_eq_false c1, e1, e]; simp
  ·simp -dsimp [hiz, hx', hy', a1, toNat_succ, wrap_i64 (n := (i : Int)) (by omega) (by omega), wrap_i64 (n := (i : Int) + 1 + 1) (by omega) (by omega)]
   and_intros
   all_goals try first | rfl | omega | exact ⟨by kernel_rfl⟩
   exact ⟨⟨i + 1, by omega, adj_step hx hy i2 (by simpa using a1)⟩, GS.to (by simp []), by simp; omega⟩
 have e2 := adj_end i2 hi
 have hiz : ¬ (i : Int) + 1 < l.length := by omega
 simp -dsimp [hiz]
 as_aux_lemma =>
 have hcf : (l.any fun b => decide (b.sd ≠ (l.headD tb0).sd) || decide (b.len ≠ (l.headD tb0).len)) = ((l.drop 1).any fun b => decide (b.sd ≠ (l.headD tb0).sd) || decide (b.len ≠ (l.headD tb0).len)) := by
  cases l with
  | nil => rfl
  | cons c m =>
    have : (decide (c.sd ≠ c.sd) || decide (c.len ≠ c.len)) = false := by simp
    exact (congrArg (· || _) this).trans (Bool.false_or _)
 have hget : ∀ (i : Nat) (b : Tb), l[i]? = some b → l[0]? = some (l.headD tb0) := fun i b h => by
  have hi := (List.getElem?_eq_some_iff.1 h).1
  obtain ⟨c, m, e⟩ := List.exists_cons_of_length_pos (show 0 < l.length by omega)
  rw [e]; rfl
 have hck : chkA l = bif (l.any fun b => decide (b.sd ≠ (l.headD tb0).sd) || decide (b.len ≠ (l.headD tb0).len)) then 8 else 0 := by
  simp only [chkA, firstE, cond_true, cond_false, decide_eq_false c1, e1, e2]
 generalize l.headD tb0 = c at hcf hget hck
 refine ALoop.of [] (fun k => k==0||k==2||k==3||k==4||k==5||k==8||k==12||k==20||k==24||k==38||k==42||k==66) (ι := { i : Nat // (l.any fun b => decide (b.sd ≠ c.sd) || decide (b.len ≠ c.len)) = (l.drop (i + 1)).any fun b => decide (b.sd ≠ c.sd) || decide (b.len ≠ c.len) }) (fun z => [(Pl.s 0, It.v (.d (.sl (tbs l)))), (Pl.s 2, It.v (.d (.int .i64 0))), (Pl.s 5, It.v (.d (.int .i64 ((z.1 : Int) + 1))))]) (fun z => l.length - z.1) ⟨0, hcf⟩ ?_ ?_
 ·exact GS.to (by simp)
 rintro ⟨i, i2⟩
 by_cases hi : i + 1 < l.length
 ·have hiz : (i : Int) + 1 < l.length := by omega
  have hx : l[i + 1]? = some l[i + 1] := List.getElem?_eq_getElem hi
  have h0 := hget _ _ hx
  generalize l[i + 1] = b at hx
  have hx' := tbs_get hx
  have h0' := tbs_get h0
  by_cases a1 : b.sd = c.sd
  ·by_cases a2 : b.len = c.len
   ·simp -dsimp [hiz, hx', h0', eq_true a1, eq_true a2, toNat_succ, wrap_i64 (n := (i : Int) + 1 + 1) (by omega) (by omega)]
    and_intros
    all_goals try first | rfl | omega | exact ⟨by kernel_rfl⟩
    exact ⟨⟨i + 1, any_step hx i2 (by simp [a1, a2])⟩, GS.to (by simp), by simp; omega⟩
   ·simp -dsimp [hiz, hx', h0', eq_true a1, eq_false a2, toNat_succ]
    and_intros
    all_goals try first | rfl | omega | exact ⟨by kernel_rfl⟩
    refine Fin.of ?_
    have e := any_hit (q := fun b => decide (b.sd ≠ c.sd) || decide (b.len ≠ c.len)) hx (by simp [a2])
    rw [hck, e]; simp
  ·simp -dsimp [hiz, hx', h0', eq_false a1, toNat_succ]
   and_intros
   all_goals try first | rfl | omega | exact ⟨by kernel_rfl⟩
   refine Fin.of ?_
   have e := any_hit (q := fun b => decide (b.sd ≠ c.sd) || decide (b.len ≠ c.len)) hx (by simp [a1])
   rw [hck, e]; simp
 ·have e3 := any_end i2 hi
  have hiz : ¬ (i : Int) + 1 < l.length := by omega
  simp -dsimp [hiz]
  refine Fin.of ?_
  rw [hck, e3]; simp
theorem checkA11_c (l : List Tb) (hl : SmL l) : Contract Tryz.prog 35 [.d (.sl (tbs l))] [] (.d (.int .i64 (chkA l))) [] [] := checkA11_cL l hl.big
theorem ck1_cL (b : Tb) (hb : b.SmB) : Contract Tryz.prog 72 [tblT b] [] (.d (.bool (decide (chk b ≠ 0)))) [] [] := by
 refine contract_of Tryz.func72 rfl (fun E0 => ?_)
 refine awp.sound (g := .mk) (ow := []) (kp := (fun k => k==0||k==1||k==2)) ?_
 rw [Tryz.ntmps72]
 simp -dsimp [tblT]
 refine ACall.of (tcheck_cL b hb.rows hb.nx) [] 0 ?_
 simp -dsimp [tblT]
 refine Fin.of ?_
 simp
theorem ck2_c (l : List Tb) (c : Tb) (h0 : l[0]? = some c) (b : Tb) : Contract Tryz.prog 73 [tblT b, .ptr (.x 0) 0] [.box ([D.sl (tbs l)].map .d)] (.d (.bool (decide (b.sd ≠ c.sd) || decide (b.len ≠ c.len)))) [.box ([D.sl (tbs l)].map .d)] [] := by
 have h0' := tbs_get h0
 have hl : 0 < l.length := (List.getElem?_eq_some_iff.1 h0).1
 refine contract_of Tryz.func73 rfl (fun E0 => ?_)
 refine awp.sound (g := .mk) (ow := []) (kp := (fun k => k==0||k==1||k==2||k==3)) ?_
 rw [Tryz.ntmps73]
 by_cases a1 : b.sd = c.sd
 ·simp -dsimp [tblT, h0', eq_true a1]
  and_intros
  all_goals try first | rfl | omega | exact ⟨by kernel_rfl⟩
  refine Fin.of ?_
  simp
 ·simp -dsimp [tblT, h0', eq_false a1]
  and_intros
  all_goals try first | rfl | omega | exact ⟨by kernel_rfl⟩
  refine Fin.of ?_
  simp [a1]
theorem checkA_cL (l : List Tb) (hl : SmLB l) : Contract Tryz.prog 31 [.d (.sl (tbs l))] [] (.d (.int .i64 (chkA l))) [] [] := by
 have hn := hl.n
 refine contract_of Tryz.func31 rfl (fun E0 => ?_)
 refine awp.sound (g := .mk) (ow := []) (kp := (fun k => k==0||k==1||k==2||k==3||k==4||k==8||k==12||k==13||k==14||k==31||k==35)) ?_
 rw [Tryz.ntmps31]
 by_cases c1 : 24 < l.length
 ·have c1z : (24 : Int) < l.length := by omega
  simp -dsimp [c1z]
  refine Fin.of ?_
  simp [chkA, firstE, c1]
 have c1z : ¬ (24 : Int) < l.length := by omega
 simp -dsimp [c1z]
 have hA := containsFT0_c l (by omega) 72 (fun b => decide (chk b ≠ 0)) (fun b hb => ck1_cL b (hl.t b hb)) (by simp)
 refine ACall.of hA [] 0 ?_
 rcases Bool.eq_false_or_eq_true (l.any fun b => decide (chk b ≠ 0)) with e1 | e1
 ·rw [e1]
  simp -dsimp [c1z, tbs]
  refine Fin.of ?_
  simp only [chkA, firstE, cond_true, cond_false, decide_eq_false c1, e1]; simp
 rw [e1]
 simp -dsimp [c1z, tbs]
 as_aux_lemma =>
 refine ALoop.of [] (fun k => k==0||k==1||k==2||k==3||k==4||k==8||k==12||k==13||k==14||k==31||k==35) (ι := { i : Nat // i ≤ l.length ∧ adjB (fun x y => decide (y.r ≤ x.r)) l = adjB (fun (x y : Tb) => decide (y.r ≤ x.r)) (l.drop (i - 1)) }) (fun z => [(Pl.s 0, It.v (.d (.sl (tbs l)))), (Pl.o 1, It.box [TV.d (.sl (tbs l))]), (Pl.s 1, It.v (.ptr (Pl.o 1) 0)), (Pl.s 2, It.v (.d (.int .i64 0))), (Pl.s 12, It.v (.d (.int .i64 l.length))), (Pl.s 13, It.v (.d (.int .i64 z.1)))]) (fun z => l.length - z.1) ⟨0, by omega, rfl⟩ ?_ ?_
 ·exact GS.to (by simp [tbs])
 rintro ⟨i, i1, i2⟩
 by_cases hi : i < l.length
 ·have hiz : (i : Int) < l.length := by omega
  have hy : l[i]? = some l[i] := List.getElem?_eq_getElem hi
  generalize l[i] = y at hy
  have hy' := tbs_get hy
  by_cases h0 : i = 0
  ·have h0z : ¬ 0 < i := by omega
   simp -dsimp [hiz, hy', h0z, wrap_i64 (n := (i : Int) + 1) (by omega) (by omega)]
   and_intros
   all_goals try first | rfl | omega | exact ⟨by kernel_rfl⟩
   exact ⟨⟨i + 1, by omega, by simp [h0]⟩, GS.to (by simp), by simp; omega⟩
  ·have h0z : 0 < i := by omega
   have hx : l[i - 1]? = some l[i - 1] := List.getElem?_eq_getElem (by omega)
   have hi1 : ((i : Int) - 1).toNat = i - 1 := by omega
   have hy2 : l[i - 1 + 1]? = some y := by rw [show i - 1 + 1 = i by omega]; exact hy
   generalize l[i - 1] = x at hx
   have hx' := tbs_get hx
   by_cases a1 : y.r ≤ x.r
   ·simp -dsimp [hiz, hx', hy', h0z, hi1, a1, wrap_i64 (n := (i : Int) - 1) (by omega) (by omega)]
    and_intros
    all_goals try first | rfl | omega | exact ⟨by kernel_rfl⟩
    refine Fin.of ?_
    have e := adj_hit hx hy2 i2 (by simpa using a1)
    simp only [chkA, firstE, cond_true, cond_false, decide_eq_false c1, e1, e]; simp
   ·simp -dsimp [hiz, hx', hy', h0z, hi1, a1, wrap_i64 (n := (i : Int) - 1) (by omega) (by omega), wrap_i64 (n := (i : Int) + 1) (by omega) (by omega)]
    and_intros
    all_goals try first | rfl | omega | exact ⟨by kernel_rfl⟩
    have e := adj_step hx hy2 i2 (by simpa using a1)
    rw [show i - 1 + 1 = i by omega] at e
    exact ⟨⟨i + 1, by omega, e⟩, GS.to (by simp), by simp; omega⟩
 have e2 : adjB (fun x y => decide (y.r ≤ x.r)) l = false := adj_end i2 (by omega)
 have hiz : ¬ (i : Int) < l.length := by omega
 simp -dsimp [hiz]
 have hget : ∀ b ∈ l, l[0]? = some (l.headD tb0) := fun b h => by
  have hi := List.length_pos_of_mem h
  obtain ⟨c, m, e⟩ := List.exists_cons_of_length_pos hi
  rw [e]; rfl
 have hck : chkA l = bif (l.any fun b => decide (b.sd ≠ (l.headD tb0).sd) || decide (b.len ≠ (l.headD tb0).len)) then 8 else 0 := by
  simp only [chkA, firstE, cond_true, cond_false, decide_eq_false c1, e1, e2]
 have hB := containsFT1_c l (by omega) 73 [D.sl (tbs l)] (fun b => decide (b.sd ≠ (l.headD tb0).sd) || decide (b.len ≠ (l.headD tb0).len)) (fun b hb => ck2_c l _ (hget b hb) b) (by simp)
 rw [hck]
 generalize (l.any fun b => decide (b.sd ≠ (l.headD tb0).sd) || decide (b.len ≠ (l.headD tb0).len)) = B at hB ⊢
 have hT : l.map Tb.cs = tbs l := rfl
 rw [hT] at hB
 refine ACall.of hB [.o 1] 0 ?_
 cases B
 ·simp -dsimp
  refine Fin.of ?_
  simp
 ·simp -dsimp
  refine Fin.of ?_
  simp
theorem checkA_c (l : List Tb) (hl : SmL l) : Contract Tryz.prog 31 [.d (.sl (tbs l))] [] (.d (.int .i64 (chkA l))) [] [] := checkA_cL l hl.big
theorem find_c (l : List Tb) (hl : SmL l) (r : Int) : Contract Tryz.prog 37 [.d (.sl (tbs l)), .d (.int .i64 r)] [] (foundT (findT l r)) [] [] := by
 have hn := hl.n
 refine contract_of Tryz.func37 rfl (fun E0 => ?_)
 refine awp.sound (g := .mk) (ow := []) (kp := (fun k => k==0||k==1||k==4||k==5||k==7||k==8||k==10||k==11||k==12||k==13||k==14||k==20||k==24||k==25||k==26||k==27)) ?_
 rw [Tryz.ntmps37]
 simp -dsimp
 refine ALoop.of [] (fun k => k==0||k==1||k==4||k==5||k==7||k==8||k==10||k==11||k==12||k==13||k==14||k==20||k==24||k==25||k==26||k==27) (ι := { i : Nat // i ≤ l.length ∧ findT l r = findT (l.drop i) r }) (fun z => [(Pl.s 0, It.v (.d (.sl (tbs l)))), (Pl.s 1, It.v (.d (.int .i64 r))), (Pl.o 4, It.box [TV.d (.int .i64 0), TV.d (.int .i64 0), TV.d (.int .i64 0), TV.c (Value.slice none 0 0)]), (Pl.s 4, It.v (.ptr (Pl.o 4) 0)), (Pl.s 5, It.v (.d (.bool false))), (Pl.s 11, It.v (.d (.sl (tbs l)))), (Pl.s 12, It.v (.d (.int .i64 l.length))), (Pl.s 13, It.v (.d (.int .i64 z.1)))]) (fun z => l.length - z.1) ⟨0, by omega, rfl⟩ ?_ ?_
 ·exact GS.to (by simp)
 rintro ⟨i, i1, i2⟩
 by_cases hi : i < l.length
 ·have hiz : (i : Int) < l.length := by omega
  have hx : l[i]? = some l[i] := List.getElem?_eq_getElem hi
  have hm := hl.t l[i] (List.getElem_mem hi)
  generalize l[i] = b at hx hm
  have hx' := tbs_get hx
  by_cases hr : b.r = r
  ·have e : findT l r = some b := find_hit hx i2 (by simpa using hr)
   have hrl := hm.rows
   simp -dsimp [hiz, hx', eq_true hr]
   and_intros
   all_goals try first | rfl | omega | exact ⟨by kernel_rfl⟩
   as_aux_lemma =>
   refine ALoop.of [] (fun k => k==0||k==1||k==4||k==5||k==7||k==8||k==10||k==11||k==12||k==13||k==14||k==20||k==24||k==25||k==26||k==27) (ι := { k : Nat // k ≤ b.rows.length }) (fun z => [(Pl.o 4, It.box [TV.d (.int .i64 0), TV.d (.int .i64 0), TV.d (.int .i64 0), TV.c (Value.slice none 0 0)]), (Pl.s 4, It.v (.ptr (Pl.o 4) 0)), (Pl.s 5, It.v (.d (.bool false))), (Pl.o 8, It.box [TV.d (.int .i64 b.r), TV.d (.int .i64 b.sd), TV.d (.int .i64 b.len), TV.oref 1000 z.1]), (Pl.s 8, It.v (.ptr (Pl.o 8) 0)), (Pl.o 1000, .row 52 2 (dd (rws (b.rows.take z.1))) false), (Pl.s 24, It.v (.d (.sl (rws b.rows)))), (Pl.s 25, It.v (.d (.int .i64 b.rows.length))), (Pl.s 26, It.v (.d (.int .i64 z.1)))]) (fun z => b.rows.length - z.1) ⟨0, by omega⟩ ?_ ?_
   ·exact GS.ownB' (.o 8) 3 1000 (cs := [TV.d (.int .i64 b.r), TV.d (.int .i64 b.sd), TV.d (.int .i64 b.len), TV.c (Value.slice none 0 0)]) 52 2 (by simp) (by simp) (by simp) (by simp) (by simp [rws])
   rintro ⟨k, k1⟩
   by_cases hk : k < b.rows.length
   ·have hkz : (k : Int) < b.rows.length := by omega
    have hy : b.rows[k]? = some b.rows[k] := List.getElem?_eq_getElem hk
    have ht : b.rows.take (k + 1) = b.rows.take k ++ [b.rows[k]] := by rw [List.take_add_one, List.getElem?_eq_getElem hk]; rfl
    have hnx := hm.nx b.rows[k] (List.getElem_mem hk)
    generalize b.rows[k] = y at hy ht hnx
    have hy' := rws_get hy
    simp -dsimp [hkz, hy']
    and_intros
    all_goals try first | rfl | omega | exact ⟨by kernel_rfl⟩
    refine ACall.of (clone_c y.nx (by omega)) [] 0 ?_
    simp -dsimp [hkz, hy', ints, wrap_i64 (n := (k : Int) + 1) (by omega) (by omega)]
    and_intros
    all_goals try first | rfl | omega | exact ⟨by kernel_rfl⟩
    exact ⟨⟨k + 1, by omega⟩, GS.to (by simp [ht, rws_app, ints]), by simp; omega⟩
   ·have hkz : ¬ (k : Int) < b.rows.length := by omega
    obtain rfl : k = b.rows.length := by omega
    simp -dsimp [hkz]
    refine Fin.box (.o 4) rfl ?_
    simp -dsimp
    refine Fin.of ?_
    simp [foundT, e, tblT, rwsD_eq]
  ·have e : findT l r = findT (l.drop (i + 1)) r := find_step hx i2 (by simpa using hr)
   simp -dsimp [hiz, hx', eq_false hr, wrap_i64 (n := (i : Int) + 1) (by omega) (by omega)]
   and_intros
   all_goals try first | rfl | omega | exact ⟨by kernel_rfl⟩
   exact ⟨⟨i + 1, by omega, e⟩, GS.to (by simp []), by simp; omega⟩
 ·have e : findT l r = none := find_end i2 hi
  have hiz : ¬ (i : Int) < l.length := by omega
  simp -dsimp [hiz]
  refine Fin.box (.o 4) rfl ?_
  simp -dsimp
  refine Fin.of ?_
  simp [foundT, e, tblT, rwsD_eq, tb0, rws]
end Go.Proofs

/-
  What functions of the program compute, stated as contracts over plain data; the conditions of each stand in its own statement.
-/
import Derived.Test.YtffjbciladpdlaaGreatZM25
set_option linter.unusedSimpArgs false
set_option maxRecDepth 100000
set_option maxHeartbeats 2000000
namespace Go.Proofs
open Go Go.Tr
def bRow (g : Topo) (r : Int) (e : Ed) : Rw := ⟨e.id, if e.r = r then [r] else if chkT g = 0 ∧ capR g.rs e.r = true then hops g r e.r else []⟩
def buildT (g : Topo) (p : Pn) (r : Int) : Tb := ⟨r, p.subd, p.len, p.es.map (bRow g r)⟩
def bRws (g : Topo) (r : Int) (es : List Ed) : List (List D) := (es.map (bRow g r)).map Rw.cs
@[simp] theorem bRws_len (g : Topo) (r : Int) (es : List Ed) : (bRws g r es).length = es.length := by simp [bRws]
theorem bRws_app (g : Topo) (r : Int) (es : List Ed) (x : Ed) : bRws g r (es ++ [x]) = bRws g r es ++ [(bRow g r x).cs] := by simp [bRws]
theorem build11_c (g : Topo) (hg : g.Sm) (p : Pn) (hp : p.es.length ≤ 1000000) (r : Int) : Contract Tryz.prog 58 [topT g, planT p, .d (.int .i64 r)] [] (tblT (buildT g p r)) [] [] := by
 have hr := hg.r
 refine contract_of Tryz.func58 rfl (fun E0 => ?_)
 refine awp.sound (g := .mk) (ow := []) (kp := (fun k => k==0||k==1||k==2||k==3||k==4||k==6||k==7||k==8||k==9||k==20||k==37||k==48)) ?_
 rw [Tryz.ntmps58]
 simp -dsimp [topT, planT]
 refine ALoop.of [] (fun k => k==0||k==1||k==2||k==3||k==4||k==6||k==7||k==8||k==9||k==20||k==37||k==48) (ι := { i : Nat // i ≤ p.es.length }) (fun z => [(Pl.s 0, It.v (.agg [TV.d (.sl (rts g.rs)), TV.d (.sl (lks g.ls))])), (Pl.s 1, It.v (.agg [TV.d (.int .i64 p.subd), TV.d (.int .i64 p.len), TV.d (.sl (eds p.es))])), (Pl.s 2, It.v (.d (.int .i64 r))), (Pl.o 3, It.box [TV.d (.sl (rts g.rs)), TV.d (.sl (lks g.ls))]), (Pl.s 3, It.v (.ptr (Pl.o 3) 0)), (Pl.o 4, It.box [TV.d (.int .i64 p.subd), TV.d (.int .i64 p.len), TV.d (.sl (eds p.es))]), (Pl.s 4, It.v (.ptr (Pl.o 4) 0)), (Pl.o 6, It.box [TV.d (.int .i64 0), TV.d (.int .i64 0), TV.d (.int .i64 0), TV.c (Value.slice none 0 0)]), (Pl.s 6, It.v (.ptr (Pl.o 6) 0)), (Pl.s 7, It.v (.ptr (Pl.o 7) 0)), (Pl.o 7, It.box [TV.d (.int .i64 r), TV.d (.int .i64 p.subd), TV.d (.int .i64 p.len), TV.oref 1000 z.1]), (Pl.o 1000, It.row 52 2 (dd (bRws g r (p.es.take z.1))) false), (Pl.s 8, It.v (.d (.int .i64 z.1)))]) (fun z => p.es.length - z.1) ⟨0, by omega⟩ ?_ ?_
 ·exact GS.ownB' (.o 7) 3 1000 (cs := [TV.d (.int .i64 r), TV.d (.int .i64 p.subd), TV.d (.int .i64 p.len), TV.c (Value.slice none 0 0)]) 52 2 (by simp) (by simp) (by simp) (by simp) (by simp [bRws])
 rintro ⟨i, i1⟩
 by_cases hi : i < p.es.length
 ·have hiz : (i : Int) < p.es.length := by omega
  have hx : p.es[i]? = some p.es[i] := List.getElem?_eq_getElem hi
  have ht : p.es.take (i + 1) = p.es.take i ++ [p.es[i]] := by rw [List.take_add_one, List.getElem?_eq_getElem hi]; rfl
  generalize p.es[i] = x at hx ht
  have hx' := eds_get hx
  by_cases a1 : x.r = r
  ·simp -dsimp [hiz, hx', Ed.cs, eq_true a1, wrap_i64 (n := (i : Int) + 1) (by omega) (by omega)]
   and_intros
   all_goals try first | rfl | omega | exact ⟨by kernel_rfl⟩
   have hb : bRow g r x = ⟨x.id, [r]⟩ := by simp [bRow, a1]
   exact ⟨⟨i + 1, by omega⟩, GS.to (by simp [ht, bRws_app, hb, Rw.cs, ints]), by simp; omega⟩
  simp -dsimp [hiz, hx', Ed.cs, eq_false a1, topT]
  refine ACall.of (capable05_c g hg x.r) [] 0 ?_
  rcases (Bool.eq_false_or_eq_true (decide (chkT g = 0) && capR g.rs x.r)).symm with a2 | a2
  ·simp -dsimp [hiz, hx', Ed.cs, eq_false a1, topT, a2, wrap_i64 (n := (i : Int) + 1) (by omega) (by omega)]
   and_intros
   all_goals try first | rfl | omega | exact ⟨by kernel_rfl⟩
   have hb : bRow g r x = ⟨x.id, []⟩ := by simp [bRow, a1]; intro h1 h2; simp [h1, h2] at a2
   exact ⟨⟨i + 1, by omega⟩, GS.to (by simp [ht, bRws_app, hb, Rw.cs, ints]), by simp; omega⟩
  ·simp -dsimp [hiz, hx', Ed.cs, eq_false a1, topT, a2]
   and_intros
   all_goals try first | rfl | omega | exact ⟨by kernel_rfl⟩
   refine ACall.of (hops11_c g hg r x.r) [] 0 ?_
   simp -dsimp [hiz, hx', Ed.cs, eq_false a1, topT, a2, wrap_i64 (n := (i : Int) + 1) (by omega) (by omega)]
   and_intros
   all_goals try first | rfl | omega | exact ⟨by kernel_rfl⟩
   have hb : bRow g r x = ⟨x.id, hops g r x.r⟩ := by simp at a2; simp [bRow, a1, a2]
   exact ⟨⟨i + 1, by omega⟩, GS.to (by simp [ht, bRws_app, hb, Rw.cs, ints]), by simp; omega⟩
 ·have hiz : ¬ (i : Int) < p.es.length := by omega
  obtain rfl : i = p.es.length := by omega
  simp -dsimp [hiz]
  refine Fin.box (.o 6) rfl ?_
  simp -dsimp
  refine Fin.of ?_
  simp [tblT, buildT, rwsD, bRws]
def Tb.cs (b : Tb) : List D := [.int .i64 b.r, .int .i64 b.sd, .int .i64 b.len, rwsD b.rows]
def tabs (g : Topo) (p : Pn) (rs : List Rt) : List Tb := (rs.filter (·.cap)).map fun x => buildT g p x.id
def tabD (g : Topo) (p : Pn) (rs : List Rt) : List (List D) := (tabs g p rs).map Tb.cs
theorem tabD_len (g : Topo) (p : Pn) (rs : List Rt) : (tabD g p rs).length ≤ rs.length := by
 simp only [tabD, tabs, List.length_map]
 exact List.length_filter_le _ _
theorem tabD_app (g : Topo) (p : Pn) (rs : List Rt) (x : Rt) : tabD g p (rs ++ [x]) = if x.cap then tabD g p rs ++ [(buildT g p x.id).cs] else tabD g p rs := by
 simp only [tabD, tabs, List.filter_append, List.map_append]
 cases h : x.cap <;> simp [h]
def allT (l : List Tb) (e : Int) : TV := .tup [.d (.sl (l.map Tb.cs)), .d (.int .i64 e)]
open Classical in
noncomputable def all11 (g : Topo) (p : Pn) : List Tb × Int := if chkT g = 0 ∧ planB p = true then (tabs g p g.rs, 0) else ([], 1)
theorem all11_c (g : Topo) (hg : g.Sm) (p : Pn) (hp : p.es.length ≤ 1000) : Contract Tryz.prog 29 [topT g, planT p] [] (allT (all11 g p).1 (all11 g p).2) [] [] := by
 have hr := hg.r
 refine contract_of Tryz.func29 rfl (fun E0 => ?_)
 refine awp.sound (g := .mk) (ow := []) (kp := (fun k => k==0||k==1||k==2||k==3||k==4||k==5||k==6||k==7||k==15||k==20||k==28)) ?_
 rw [Tryz.ntmps29]
 simp -dsimp [topT, planT]
 refine ACall.of (check05_c g hg.r hg.l) [] 0 ?_
 by_cases hc : chkT g = 0
 ·simp -dsimp [eq_true hc, topT]
  refine ACall.of (validPlan10_c p hp) [] 0 ?_
  rcases (Bool.eq_false_or_eq_true (planB p)).symm with a1 | a1
  ·simp -dsimp [eq_true hc, a1, planT]
   and_intros
   all_goals try first | rfl | omega | exact ⟨by kernel_rfl⟩
   refine Fin.view 4 ?_
   simp -dsimp
   refine Fin.of ?_
   simp [all11, a1, allT]
  ·have he : all11 g p = (tabs g p g.rs, 0) := by rw [all11, if_pos ⟨hc, a1⟩]
   have hn : g.rs.length ≤ 24 := (chkT_zero hc).nr
   rw [he]
   clear he
   simp -dsimp [eq_true hc, a1, planT]
   and_intros
   all_goals try first | rfl | omega | exact ⟨by kernel_rfl⟩
   as_aux_lemma =>
   refine ALoop.of [] (fun k => k==0||k==1||k==2||k==3||k==4||k==5||k==6||k==7||k==15||k==20||k==28) (ι := { i : Nat // i ≤ g.rs.length ∧ True }) (fun z => [(Pl.s 0, It.v (.agg [TV.d (.sl (rts g.rs)), TV.d (.sl (lks g.ls))])), (Pl.s 1, It.v (.agg [TV.d (.int .i64 p.subd), TV.d (.int .i64 p.len), TV.d (.sl (eds p.es))])), (Pl.o 2, It.box [TV.d (.sl (rts g.rs)), TV.d (.sl (lks g.ls))]), (Pl.s 2, It.v (.ptr (Pl.o 2) 0)), (Pl.o 3, It.box [TV.d (.int .i64 p.subd), TV.d (.int .i64 p.len), TV.d (.sl (eds p.es))]), (Pl.s 3, It.v (.ptr (Pl.o 3) 0)), (Pl.s 4, It.v (.c (Value.slice none 0 0))), (Pl.s 5, It.v (.d (.int .i64 0))), (Pl.s 6, It.v (.oref 6 (tabD g p (g.rs.take z.1)).length)), (Pl.o 6, It.row 39 4 (dd (tabD g p (g.rs.take z.1))) false), (Pl.s 7, It.v (.d (.int .i64 z.1)))]) (fun z => g.rs.length - z.1) ⟨0, by omega, trivial⟩ ?_ ?_
   ·exact GS.own' (k := 6) 39 4 (by simp) (by simp) (by simp [tabD, tabs])
   rintro ⟨i, i1, i2⟩
   by_cases hi : i < g.rs.length
   ·have hiz : (i : Int) < g.rs.length := by omega
    have hx : g.rs[i]? = some g.rs[i] := List.getElem?_eq_getElem hi
    have ht : g.rs.take (i + 1) = g.rs.take i ++ [g.rs[i]] := by rw [List.take_add_one, List.getElem?_eq_getElem hi]; rfl
    generalize g.rs[i] = x at hx ht
    have hx' := rts_get hx
    have hta := tabD_app g p (g.rs.take i) x
    have htl := tabD_len g p (g.rs.take i)
    rw [← ht] at hta
    simp at htl
    rcases (Bool.eq_false_or_eq_true x.cap).symm with c1 | c1
    ·rw [if_neg (by simp [c1])] at hta
     simp -dsimp [hiz, hx', Rt.cs, c1, wrap_i64 (n := (i : Int) + 1) (by omega) (by omega)]
     and_intros
     all_goals try first | rfl | omega | exact ⟨by kernel_rfl⟩
     exact ⟨⟨i + 1, by omega, trivial⟩, GS.to (by simp [hta]), by simp; omega⟩
    ·rw [if_pos c1] at hta
     simp -dsimp [hiz, hx', Rt.cs, c1]
     refine ACall.of (build11_c g hg p (by omega) x.id) [] 0 ?_
     simp -dsimp [hiz, hx', Rt.cs, c1, topT, planT, tblT, rwsD, wrap_i64 (n := (i : Int) + 1) (by omega) (by omega)]
     and_intros
     all_goals try first | rfl | omega | exact ⟨by kernel_rfl⟩
     exact ⟨⟨i + 1, by omega, trivial⟩, GS.to (by simp [hta, Tb.cs, rwsD]), by simp; omega⟩
   ·have hiz : ¬ (i : Int) < g.rs.length := by omega
    obtain rfl : i = g.rs.length := by omega
    simp -dsimp [hiz]
    refine Fin.view 4 ?_
    simp -dsimp
    refine Fin.of ?_
    simp [allT, tabD]
 ·simp -dsimp [eq_false hc, topT]
  and_intros
  all_goals try first | rfl | omega | exact ⟨by kernel_rfl⟩
  refine Fin.view 4 ?_
  simp -dsimp
  refine Fin.of ?_
  simp [all11, hc, allT]
theorem price_pos {g : Topo} (hg : g.Ok) {f t c : Int} (h : price g.ls f t = some c) : 1 ≤ c := by
 have : ∀ l : List Lk, (∀ x ∈ l, x ∈ g.ls) → price l f t = some c → 1 ≤ c := by
  intro l
  induction l with
  | nil => intro _ h; simp [price] at h
  | cons x l ih =>
    intro hm h
    have hc := hg.c (hm x (by simp))
    rw [price] at h
    split at h
    ·simp at h; omega
    ·split at h
     ·simp at h; omega
     ·exact ih (fun y hy => hm y (by simp [hy])) h
 exact this g.ls (fun _ h => h) h
theorem steps_lt {g : Topo} (hg : g.Ok) {d : List Int} {f x : Int} (h : x ∈ steps g d f) : atR g d x < atR g d f := by
 unfold steps at h
 split at h
 ·simp at h
 ·obtain ⟨h1, h2⟩ := List.mem_filter.1 h
  simp only [near, List.mem_map, List.mem_filter] at h1
  obtain ⟨y, ⟨_, hy⟩, rfl⟩ := h1
  obtain ⟨c, hc⟩ := Option.isSome_iff_exists.1 hy
  have := price_pos hg hc
  simp only [stepOK, hc, Option.getD_some, Bool.and_eq_true, decide_eq_true_eq] at h2
  omega
structure HopI (g : Topo) (d : List Int) (a : Int) (s : List Int × List Int) : Prop where
 seen : ∀ x ∈ s.1, atR g d x ≤ a
 asc : s.2.Pairwise (· < ·)
 out : ∀ x ∈ s.2, atR g d x < a ∧ hasR g.rs x = true ∧ capR g.rs x = true
theorem HopI.step {g : Topo} {d : List Int} {a n : Int} {s : List Int × List Int} (h : HopI g d a s) (h1 : atR g d n < a) (h2 : hasR g.rs n = true) : HopI g d a (hopIn g s n) := by
 unfold hopIn
 split
 ·rename_i hc
  obtain ⟨h3, h4⟩ := insI_asc n h.asc
  refine ⟨h.seen, h3, fun x hx => ?_⟩
  rcases (h4 x).1 hx with hx | rfl
  ·exact h.out x hx
  ·exact ⟨h1, h2, hc⟩
 ·split
  ·exact h
  ·refine ⟨fun x hx => ?_, h.asc, h.out⟩
   rcases List.mem_append.1 hx with hx | hx
   ·exact h.seen x hx
   ·simp at hx; subst hx; omega
theorem HopI.steps {g : Topo} {d : List Int} {a : Int} : ∀ (l : List Int) (s : List Int × List Int), (∀ x ∈ l, atR g d x < a ∧ hasR g.rs x = true) → HopI g d a s → HopI g d a (l.foldl (hopIn g) s)
 | [], _, _, h => h
 | n :: l, s, hl, h => by
   rw [List.foldl_cons]
   exact HopI.steps l _ (fun x hx => hl x (by simp [hx])) (h.step (hl n (by simp)).1 (hl n (by simp)).2)
theorem HopI.all {g : Topo} (hg : g.Ok) {d : List Int} {a : Int} : ∀ (k i : Nat) (s : List Int × List Int), HopI g d a s → HopI g d a (hopsL g d k i s)
 | 0, _, _, h => h
 | k + 1, i, s, h => by
   rw [hopsL]
   split
   ·rename_i hi
    refine HopI.all hg k (i + 1) _ (HopI.steps _ _ (fun x hx => ?_) h)
    have h1 := steps_lt hg hx
    have h2 := h.seen (s.1.getD i 0) (by rw [List.getD_eq_getElem?_getD, List.getElem?_eq_getElem hi]; exact List.getElem_mem hi)
    exact ⟨by omega, steps_has hx⟩
   ·exact h
theorem hops_ok (g : Topo) (f t : Int) : (hops g f t).Pairwise (· < ·) ∧ ∀ x ∈ hops g f t, hasR g.rs x = true ∧ capR g.rs x = true ∧ x ≠ f := by
 unfold hops
 split
 ·rename_i h
  have := HopI.all (chkT_zero h.1) (d := dist g t) (a := atR g (dist g t) f) (g.rs.length + 1) 0 ([f], []) ⟨by simp, by simp, by simp⟩
  exact ⟨this.asc, fun x hx => ⟨(this.out x hx).2.1, (this.out x hx).2.2, fun e => by have := (this.out x hx).1; subst e; omega⟩⟩
 ·simp
theorem Topo.Ok.id {g : Topo} (h : g.Ok) {r : Int} (hr : hasR g.rs r = true) : inR r 1 99 := by
 obtain ⟨x, hx, rfl⟩ := List.mem_map.1 (hasR_mem.1 hr)
 have := List.any_eq_false.1 h.ids x hx
 simp [inB] at this
 exact this
theorem buildT_ok {g : Topo} (hg : chkT g = 0) {p : Pn} (hp : planB p = true) {r : Int} (hr : hasR g.rs r = true) : chk (buildT g p r) = 0 := by
 have hO := chkT_zero hg
 have hri := hO.id hr
 simp only [planB, decide_eq_true_eq] at hp
 obtain ⟨hb, he, _⟩ := hp
 simp only [baseB, inB, Bool.and_eq_true, Bool.or_eq_true, decide_eq_true_eq] at hb
 obtain ⟨b1, b2, b3⟩ := hb
 have hed : ∀ {i : Nat} {e : Ed}, p.es[i]? = some e → inR e.id 1 256 ∧ (i = 0 ∨ ∃ e', p.es[i - 1]? = some e' ∧ e'.id < e.id) := fun {i e} hi => by
  obtain ⟨h1, h2⟩ := List.getElem?_eq_some_iff.1 hi
  have h3 := he i h1
  have g1 : p.es.getD i ⟨0, 0⟩ = e := by rw [List.getD_eq_getElem?_getD, hi]; rfl
  simp only [edB, gid, grt, g1, inB, Bool.and_eq_true, Bool.or_eq_true, decide_eq_true_eq] at h3
  refine ⟨h3.1, h3.2.2.imp id fun h => ?_⟩
  have h4 : i - 1 < p.es.length := by omega
  rw [List.getD_eq_getElem?_getD, List.getElem?_eq_getElem h4] at h
  exact ⟨_, List.getElem?_eq_getElem h4, h⟩
 have hnx : ∀ e : Ed, (∀ n ∈ (bRow g r e).nx, inR n 1 99) ∧ (bRow g r e).nx.Pairwise (· < ·) ∧ (bRow g r e).nx.length ≤ 24 ∧ ¬ (1 < (bRow g r e).nx.length ∧ r ∈ (bRow g r e).nx) := fun e => by
  unfold bRow
  simp only
  split
  ·exact ⟨by simpa using hri, by simp, by simp, by simp⟩
  ·split
   ·obtain ⟨h1, h2⟩ := hops_ok g r e.r
    refine ⟨fun n hn => hO.id (h2 n hn).1, h1, ?_, fun h => (h2 r h.2).2.2 rfl⟩
    exact Nat.le_trans (seen_le (h1.imp fun h => by omega) fun x hx => (h2 x hx).1) hO.nr
   ·simp
 have hmem : ∀ {x : Rw}, x ∈ (buildT g p r).rows → ∃ (i : Nat) (e : Ed), p.es[i]? = some e ∧ x = bRow g r e := fun {x} hx => by
  obtain ⟨e, he, rfl⟩ := List.mem_map.1 hx
  obtain ⟨i, hi⟩ := List.getElem?_of_mem he
  exact ⟨i, e, hi, rfl⟩
 refine chk_ok ⟨hri, b1, b2.imp id fun h => ⟨h.1, by simp [buildT, h.2]⟩⟩ ?_ (by simp [buildT]; omega) ?_ (asc_of (fun a x y hx hy => ?_) fun x hx => ?_) ?_
 ·rintro ⟨x, hx, ho⟩
  obtain ⟨i, e, hi, rfl⟩ := hmem hx
  rcases ho with ho | ⟨n, hn, ho⟩
  ·exact ho (hed hi).1
  ·exact ho ((hnx e).1 n hn)
 ·rintro ⟨x, hx, ho⟩
  obtain ⟨i, e, hi, rfl⟩ := hmem hx
  have := (hnx e).2.2.1
  omega
 ·simp only [buildT, List.getElem?_map, Option.map_eq_some_iff] at hx hy
  obtain ⟨e, h1, rfl⟩ := hx
  obtain ⟨e', h2, rfl⟩ := hy
  rcases (hed h2).2 with h | ⟨e2, h3, h4⟩
  ·simp at h
  ·simp only [Nat.add_sub_cancel] at h3
   rw [h1] at h3
   simp only [Option.some.injEq] at h3
   subst h3
   exact h4
 ·obtain ⟨i, e, hi, rfl⟩ := hmem hx
  exact (hnx e).2.1
 ·rintro ⟨x, hx, h1, h2⟩
  obtain ⟨i, e, hi, rfl⟩ := hmem hx
  exact (hnx e).2.2.2 ⟨h1, h2⟩
theorem all11_ok (g : Topo) (p : Pn) : ∀ b ∈ (all11 g p).1, chk b = 0 := fun b hb => by
 unfold all11 at hb
 split at hb
 ·rename_i h
  simp only [tabs, List.mem_map, List.mem_filter] at hb
  obtain ⟨x, ⟨hx, _⟩, rfl⟩ := hb
  exact buildT_ok h.1 h.2 (hasR_mem.2 (List.mem_map_of_mem hx))
 ·simp at hb
theorem all11_len (g : Topo) (p : Pn) : (all11 g p).1.length ≤ 24 := by
 unfold all11
 split
 ·rename_i h
  simp only [tabs, List.length_map]
  exact Nat.le_trans (List.length_filter_le _ _) (chkT_zero h.1).nr
 ·simp
def tbs (l : List Tb) : List (List D) := l.map Tb.cs
def rws (l : List Rw) : List (List D) := l.map Rw.cs
theorem rws_get {l : List Rw} {i : Nat} {x : Rw} (h : l[i]? = some x) : (rws l)[i]? = some [.int .i64 x.id, ints x.nx] := by simp [rws, h, Rw.cs]
@[simp] theorem rws_len (l : List Rw) : (rws l).length = l.length := by simp [rws]
theorem rws_app (l : List Rw) (x : Rw) : rws (l ++ [x]) = rws l ++ [[.int .i64 x.id, ints x.nx]] := by simp [rws, Rw.cs]
theorem rwsD_eq (l : List Rw) : rwsD l = .sl (rws l) := rfl
theorem tbs_get {l : List Tb} {i : Nat} {b : Tb} (h : l[i]? = some b) : (tbs l)[i]? = some [.int .i64 b.r, .int .i64 b.sd, .int .i64 b.len, .sl (rws b.rows)] := by simp [tbs, h, Tb.cs, rwsD_eq]
@[simp] theorem tbs_len (l : List Tb) : (tbs l).length = l.length := by simp [tbs]
def tb0 : Tb := ⟨0, 0, 0, []⟩
theorem chk_parts {b : Tb} (h : chk b = 0) : b.head ∧ b.rows.length ≤ 256 ∧ (∀ x ∈ b.rows, x.nx.length ≤ 24) ∧ ∀ x ∈ b.rows, ¬ (1 < x.nx.length ∧ b.r ∈ x.nx) := by
 unfold chk at h
 split at h
 ·simp at h
 rename_i h1
 split at h
 ·simp at h
 split at h
 ·simp at h
 rename_i h2
 split at h
 ·simp at h
 rename_i h3
 split at h
 ·simp at h
 split at h
 ·simp at h
 rename_i h4
 exact ⟨Classical.byContradiction fun g => h1 g, by omega, fun x hx => Nat.le_of_not_lt fun g => h3 ⟨x, hx, g⟩, fun x hx g => h4 ⟨x, hx, g⟩⟩
theorem chk_sm {b : Tb} (h : chk b = 0) : b.Sm := ⟨by have := (chk_parts h).2.1; omega, fun x hx => by have := (chk_parts h).2.2.1 x hx; omega⟩
theorem copied_c (b : Tb) (hb : b.rows.length ≤ 1000000) (hn : ∀ x ∈ b.rows, x.nx.length ≤ 1000000) : Contract Tryz.prog 74 [tblT b] [] (.agg [TV.d (.int .i64 b.r), TV.d (.int .i64 b.sd), TV.d (.int .i64 b.len), .oref 3 b.rows.length]) [] [(3, .row 52 2 (dd (rws b.rows)) false)] := by
 refine contract_of Tryz.func74 rfl (fun E0 => ?_)
 refine awp.sound (g := .mk) (ow := [19]) (kp := (fun k => k==0||k==1||k==2||k==3||k==4||k==9)) ?_
 rw [Tryz.ntmps74]
 simp -dsimp [tblT, rwsD_eq]
 refine ALoop.of [19] (fun k => k==0||k==1||k==2||k==3||k==4||k==9) (ι := { i : Nat // i ≤ b.rows.length }) (fun z => [(Pl.s 0, It.v (.agg [TV.d (.int .i64 b.r), TV.d (.int .i64 b.sd), TV.d (.int .i64 b.len), TV.d (.sl (rws b.rows))])), (Pl.o 1, It.box [TV.d (.int .i64 b.r), TV.d (.int .i64 b.sd), TV.d (.int .i64 b.len), TV.d (.sl (rws b.rows))]), (Pl.s 1, It.v (.ptr (Pl.o 1) 0)), (Pl.o 2, It.box [TV.d (.int .i64 0), TV.d (.int .i64 0), TV.d (.int .i64 0), TV.c (Value.slice none 0 0)]), (Pl.s 2, It.v (.ptr (Pl.o 2) 0)), (Pl.s 3, It.v (.oref 3 z.1)), (Pl.o 3, It.row 52 2 (dd (rws (b.rows.take z.1))) false), (Pl.s 4, It.v (.d (.int .i64 z.1)))]) (fun z => b.rows.length - z.1) ⟨0, by omega⟩ ?_ ?_
 ·exact GS.own' (k := 3) 52 2 (by simp) (by simp) (by simp [rws])
 rintro ⟨i, i1⟩
 by_cases hi : i < b.rows.length
 ·have hiz : (i : Int) < b.rows.length := by omega
  have hx : b.rows[i]? = some b.rows[i] := List.getElem?_eq_getElem hi
  have ht : b.rows.take (i + 1) = b.rows.take i ++ [b.rows[i]] := by rw [List.take_add_one, List.getElem?_eq_getElem hi]; rfl
  have hnx := hn b.rows[i] (List.getElem_mem hi)
  generalize b.rows[i] = x at hx ht hnx
  have hx' := rws_get hx
  simp -dsimp [hiz, hx', ints, wrap_i64 (n := (i : Int) + 1) (by omega) (by omega)]
  and_intros
  all_goals try first | rfl | omega | exact ⟨by kernel_rfl⟩ | exact dLen_map 1 _ _ fun _ => rfl
  exact ⟨⟨i + 1, by omega⟩, GS.to (by simp [ht, rws_app, ints]), by simp; omega⟩
 ·have hiz : ¬ (i : Int) < b.rows.length := by omega
  obtain rfl : i = b.rows.length := by omega
  simp -dsimp [hiz]
  refine Fin.of ?_
  simp
theorem gTopA_len (cost tree : Int) (skip : Bool) (b : Int) : ∀ (n : Nat) (a : Int) (T : Tp) (l : List Lk), (gTopA cost tree skip b n a T l).1.length ≤ l.length + n
 | 0, _, _, _ => Nat.le_refl _
 | n + 1, a, T, l => by
   have h1 := gTopA_len cost tree skip b n (a + 1) (gTopS cost tree skip b a T l).2 (gTopS cost tree skip b a T l).1
   have h2 := gTopS_len cost tree skip b a T l
   rw [gTopA]
   omega
theorem gTopB_len (cost : Int) : ∀ (n : Nat) (b : Int) (T : Tp) (l : List Lk), 0 ≤ b → (gTopB cost n b T l).1.length ≤ l.length + n * (b + n).toNat
 | 0, _, _, _, _ => by simp [gTopB]
 | n + 1, b, T, l, hb => by
   have h1 := gTopB_len cost n (b + 1) (gTopR cost b T l).2 (gTopR cost b T l).1 (by omega)
   have h2 : (gTopR cost b T l).1.length ≤ l.length + (b - 1).toNat := gTopA_len _ _ _ _ _ _ _ _
   rw [gTopB]
   have e : (b + 1 + n).toNat = (b + (n + 1 : Nat)).toNat := by omega
   rw [e] at h1
   have h3 : (n + 1) * (b + (n + 1 : Nat)).toNat = n * (b + (n + 1 : Nat)).toNat + (b + (n + 1 : Nat)).toNat := Nat.succ_mul _ _
   omega
theorem ordL_len : ∀ (l out : List Lk), (ordL l out).length = l.length + out.length
 | [], _ => by simp [ordL]
 | x :: l, out => by
   rw [ordL, ordL_len l]
   simp
   omega
theorem gTop_small (T : Tp) {most : Int} (hm : 1 ≤ most ∧ most ≤ 24) : (gTop T most).1.rs.length ≤ 24 ∧ (gTop T most).1.ls.length ≤ 1000 := by
 have b1 := gRange_lo T 1 most
 have b2 := gRange_hi T (a := 1) (b := most) (by omega)
 simp only [gTop, ordL_len]
 generalize gRange T 1 most = R at b1 b2 ⊢
 have h := gTopB_len (gPick R.2 [1, 2, 2, 5]).1 (R.1 + 1 - 2).toNat 2 (gPick R.2 [1, 2, 2, 5]).2 [] (by omega)
 have h1 : (R.1 + 1 - 2).toNat ≤ 23 := by omega
 have h2 : (2 + ((R.1 + 1 - 2).toNat : Int)).toNat ≤ 25 := by omega
 have h3 := Nat.mul_le_mul h1 h2
 simp only [List.length_nil] at h ⊢
 exact ⟨by simp [gRts]; omega, by omega⟩
theorem gMixL_tape : ∀ (l : List Rt) (T : Tp), TapeOK (gMixL l T).2 = TapeOK T
 | [], _ => rfl
 | x :: l, T => by simp [gMixL, gMixL_tape l]
@[simp] theorem gMix_tape (T : Tp) (most : Int) : TapeOK (gMix T most).2 = TapeOK T := by simp [gMix, gMixL_tape]
theorem gMix_small (T : Tp) {most : Int} (hm : 1 ≤ most ∧ most ≤ 24) : (gMix T most).1.rs.length ≤ 24 ∧ (gMix T most).1.ls.length ≤ 1000 := by
 have := gTop_small T hm
 simpa [gMix, gMixL_len] using this
theorem gPlanS_ok (rs : List Rt) (len x : Int) (T : Tp) (id : Int) (l : List Ed) : TapeOK (gPlanS rs len x T id l).2.2 = TapeOK T ∧ (gPlanS rs len x T id l).1.length ≤ l.length + 1 := by
 unfold gPlanS
 simp only
 split
 ·simp
 ·split <;> simp
theorem gPlanL_ok2 (rs : List Rt) (len : Int) : ∀ (o : List Int) (T : Tp) (id : Int) (l : List Ed), TapeOK (gPlanL rs len o T id l).2.2 = TapeOK T ∧ (gPlanL rs len o T id l).1.length ≤ l.length + o.length
 | [], _, _, _ => ⟨rfl, Nat.le_refl _⟩
 | x :: o, T, id, l => by
   rw [gPlanL]
   obtain ⟨h1, h2⟩ := gPlanS_ok rs len x T id l
   obtain ⟨h3, h4⟩ := gPlanL_ok2 rs len o (gPlanS rs len x T id l).2.2 (gPlanS rs len x T id l).2.1 (gPlanS rs len x T id l).1
   exact ⟨h3.trans h1, by simp only [List.length_cons]; omega⟩
theorem gPlan_zero (T : Tp) (rs : List Rt) : TapeOK (gPlan T rs 0).2 = TapeOK T ∧ (gPlan T rs 0).1.es.length ≤ rs.length := by
 have h := gPlanL_ok2 rs (gPick (gNext T 3).2 [8, 8, 16, 32, 64]).1 (gOrder (gPick (gNext T 3).2 [8, 8, 16, 32, 64]).2 rs.length).1 (gOrder (gPick (gNext T 3).2 [8, 8, 16, 32, 64]).2 rs.length).2 0 []
 simp only [gPlan, gPlan0, Int.lt_irrefl, if_false]
 refine ⟨h.1.trans (by simp), ?_⟩
 have h2 := h.2
 rw [gOrder_len] at h2
 simpa using h2
theorem allT_eq (l : List Tb) (e : Int) : allT l e = .tup [.d (.sl (tbs l)), .d (.int .i64 e)] := rfl
theorem dflt_ok : chk ⟨1, 0, 8, []⟩ = 0 := by decide
noncomputable def gTab0 (T : Tp) : Tb × Tp :=
 let g := gMix T 6
 let p := gPlan g.2 g.1.rs 0
 let l := (all11 g.1 p.1).1
 if l.length = 0 then (⟨1, 0, 8, []⟩, p.2) else (l.getD (gNext p.2 l.length).1.toNat ⟨1, 0, 8, []⟩, (gNext p.2 l.length).2)
theorem gTab0_ok (T : Tp) : chk (gTab0 T).1 = 0 := by
 unfold gTab0
 simp only
 split
 ·exact dflt_ok
 ·rename_i h
  have m1 := gNext_nonneg (gPlan (gMix T 6).2 (gMix T 6).1.rs 0).2 (all11 (gMix T 6).1 (gPlan (gMix T 6).2 (gMix T 6).1.rs 0).1).1.length
  have m2 := gNext_lt (gPlan (gMix T 6).2 (gMix T 6).1.rs 0).2 (n := (all11 (gMix T 6).1 (gPlan (gMix T 6).2 (gMix T 6).1.rs 0).1).1.length) (by omega)
  rw [List.getD_eq_getElem?_getD, List.getElem?_eq_getElem (by omega)]
  exact all11_ok _ _ _ (List.getElem_mem _)
theorem gTab0_tape (T : Tp) : TapeOK (gTab0 T).2 = TapeOK T := by
 unfold gTab0
 simp only
 split
 ·exact (gPlan_zero _ _).1.trans (by simp)
 ·simp only [gNext_ok]
  exact (gPlan_zero _ _).1.trans (by simp)
def mixR (l : List Rw) (k : Nat) (y : Rw) (id : Nat) : List (List TV) := dd (rws (l.take k)) ++ [TV.d (.int .i64 y.id), TV.oref id y.nx.length] :: dd (rws (l.drop (k + 1)))
@[simp] theorem only_mix (po : Nat → Prop) (l : List Rw) (k : Nat) (y : Rw) (id : Nat) : rowsOnly po (mixR l k y id) = po id := by simp [mixR, TV.onlys, TV.only]
theorem mixR_len {l : List Rw} {k : Nat} (y : Rw) (id : Nat) (h : k < l.length) : (mixR l k y id).length = l.length := by
 simp [mixR]
 omega
theorem mixR_app {l : List Rw} {k : Nat} (y x : Rw) (id : Nat) (h : k < l.length) : mixR (l ++ [x]) k y id = mixR l k y id ++ dd (rws [x]) := by
 have h1 : (l ++ [x]).take k = l.take k := List.take_append_of_le_length (by omega)
 have h2 : (l ++ [x]).drop (k + 1) = l.drop (k + 1) ++ [x] := List.drop_append_of_le_length (by omega)
 simp [mixR, h1, h2, rws]
theorem mixR_last {l : List Rw} (x : Rw) (id : Nat) : mixR (l ++ [x]) l.length x id = dd (rws l) ++ [[TV.d (.int .i64 x.id), TV.oref id x.nx.length]] := by
 simp [mixR, rws]
theorem set_last {α : Type} {l : List α} {i : Nat} (h : l.length = i) (x y : α) : (l ++ [x]).set i y = l ++ [y] := by
 subst h; simp
theorem get_last {α : Type} {l : List α} {i : Nat} (h : l.length = i) (x : α) : (l ++ [x])[i]? = some x := by
 subst h; simp
theorem copiedI_c (b : Tb) (hb : b.rows.length ≤ 1000000) (hn : ∀ x ∈ b.rows, x.nx.length ≤ 1000000) (k : Nat) (y : Rw) (hk : b.rows[k]? = some y) :
  Contract Tryz.prog 74 [tblT b] [] (.agg [TV.d (.int .i64 b.r), TV.d (.int .i64 b.sd), TV.d (.int .i64 b.len), .oref 3 b.rows.length]) [] [(3, .row 52 2 (mixR b.rows k y 1001) false), (1001, .row 3 1 (dd (nrow .i64 y.nx)) false)] := by
 have hkl : k < b.rows.length := (List.getElem?_eq_some_iff.1 hk).1
 refine contract_of Tryz.func74 rfl (fun E0 => ?_)
 refine awp.sound (g := .mk) (ow := [19, 28, 2000027]) (kp := (fun k => k==0||k==1||k==2||k==3||k==4||k==9)) ?_
 rw [Tryz.ntmps74]
 simp -dsimp [tblT, rwsD_eq]
 refine ALoop.of [19, 28, 2000027] (fun k => k==0||k==1||k==2||k==3||k==4||k==9) (ι := { i : Nat // i ≤ b.rows.length }) (fun z => if z.1 ≤ k then [(Pl.s 0, It.v (.agg [TV.d (.int .i64 b.r), TV.d (.int .i64 b.sd), TV.d (.int .i64 b.len), TV.d (.sl (rws b.rows))])), (Pl.o 1, It.box [TV.d (.int .i64 b.r), TV.d (.int .i64 b.sd), TV.d (.int .i64 b.len), TV.d (.sl (rws b.rows))]), (Pl.s 1, It.v (.ptr (Pl.o 1) 0)), (Pl.o 2, It.box [TV.d (.int .i64 0), TV.d (.int .i64 0), TV.d (.int .i64 0), TV.c (Value.slice none 0 0)]), (Pl.s 2, It.v (.ptr (Pl.o 2) 0)), (Pl.s 3, It.v (.oref 3 z.1)), (Pl.o 3, It.row 52 2 (dd (rws (b.rows.take z.1))) false), (Pl.s 4, It.v (.d (.int .i64 z.1)))]
  else [(Pl.s 0, It.v (.agg [TV.d (.int .i64 b.r), TV.d (.int .i64 b.sd), TV.d (.int .i64 b.len), TV.d (.sl (rws b.rows))])), (Pl.o 1, It.box [TV.d (.int .i64 b.r), TV.d (.int .i64 b.sd), TV.d (.int .i64 b.len), TV.d (.sl (rws b.rows))]), (Pl.s 1, It.v (.ptr (Pl.o 1) 0)), (Pl.o 2, It.box [TV.d (.int .i64 0), TV.d (.int .i64 0), TV.d (.int .i64 0), TV.c (Value.slice none 0 0)]), (Pl.s 2, It.v (.ptr (Pl.o 2) 0)), (Pl.s 3, It.v (.oref 3 z.1)), (Pl.o 3, It.row 52 2 (mixR (b.rows.take z.1) k y 1001) false), (Pl.o 1001, .row 3 1 (dd (nrow .i64 y.nx)) false), (Pl.s 4, It.v (.d (.int .i64 z.1)))]) (fun z => b.rows.length - z.1) ⟨0, by omega⟩ ?_ ?_
 ·rw [if_pos (by simp)]
  exact GS.own' (k := 3) 52 2 (by simp) (by simp) (by simp [rws])
 rintro ⟨i, i1⟩
 by_cases hi : i < b.rows.length
 ·have hiz : (i : Int) < b.rows.length := by omega
  have hx : b.rows[i]? = some b.rows[i] := List.getElem?_eq_getElem hi
  have ht : b.rows.take (i + 1) = b.rows.take i ++ [b.rows[i]] := by rw [List.take_add_one, List.getElem?_eq_getElem hi]; rfl
  have hnx := hn b.rows[i] (List.getElem_mem hi)
  generalize b.rows[i] = x at hx ht hnx
  have hx' := rws_get hx
  by_cases hik : i ≤ k
  ·simp only [if_pos hik]
   simp -dsimp [hiz, hx', ints, wrap_i64 (n := (i : Int) + 1) (by omega) (by omega)]
   and_intros
   all_goals try first | rfl | omega | exact ⟨by kernel_rfl⟩ | exact dLen_map 1 _ _ fun _ => rfl
   have htl : (dd (rws (b.rows.take i))).length = i := by simp; omega
   by_cases hek : i = k
   ·subst hek
    rw [hk] at hx
    simp only [Option.some.injEq] at hx
    subst hx
    have hm : mixR (b.rows.take (i + 1)) i y 1001 = dd (rws (b.rows.take i)) ++ [[TV.d (.int .i64 y.id), TV.oref 1001 y.nx.length]] := by
     rw [ht]
     have := mixR_last (l := b.rows.take i) y 1001
     rw [List.length_take, Nat.min_eq_left (by omega)] at this
     exact this
    refine ⟨⟨⟨i + 1, by omega⟩, ?_, by simp; omega⟩⟩
    simp only [if_neg (show ¬ i + 1 ≤ i by omega)]
    exact GS.ren' 19 1001 (by omega) (by simp) (by simp [hm, nrow])
   ·have hs := set_last htl [TV.d (.int .i64 x.id), TV.oref 19 x.nx.length] [TV.d (.int .i64 x.id), TV.d (ints x.nx)]
    have hg := get_last htl [TV.d (.int .i64 x.id), TV.oref 19 x.nx.length]
    have he : dd (rws (b.rows.take i)) ++ [[TV.d (.int .i64 x.id), TV.d (ints x.nx)]] = dd (rws (b.rows.take (i + 1))) := by rw [ht, rws_app]; simp
    rw [he] at hs
    generalize dd (rws (b.rows.take i)) ++ [[TV.d (.int .i64 x.id), TV.oref 19 x.nx.length]] = EE at hs hg ⊢
    refine ⟨⟨⟨i + 1, by omega⟩, ?_, by simp; omega⟩⟩
    simp only [if_pos (show i + 1 ≤ k by omega)]
    exact GS.seeRow' 3 i 1 19 (e0 := 52) (k0 := 2) (es0 := EE) (sh0 := false) (n := x.nx.length) (e := 3) (k := 1) (es := dd (nrow .i64 x.nx)) (sh := false) (xs := nrow .i64 x.nx) (by simp) (by omega) hg (by simp) (by simp [nrow]) (by simp [nrow]) (by simp) (by simp [ints] at hs; simp [hs, nrow])
  ·simp only [if_neg hik]
   have hmix : mixR b.rows k y 1001 = mixR b.rows k y 1001 := rfl
   simp -dsimp [hiz, hx', ints, wrap_i64 (n := (i : Int) + 1) (by omega) (by omega)]
   and_intros
   all_goals try first | rfl | omega | exact ⟨by kernel_rfl⟩ | exact dLen_map 1 _ _ fun _ => rfl | (rw [mixR_len _ _ (by simp; omega)]; simp; omega)
   have htl : (mixR (b.rows.take i) k y 1001).length = i := by rw [mixR_len _ _ (by simp; omega)]; simp; omega
   have hs := set_last htl [TV.d (.int .i64 x.id), TV.oref 19 x.nx.length] [TV.d (.int .i64 x.id), TV.d (ints x.nx)]
   have hg := get_last htl [TV.d (.int .i64 x.id), TV.oref 19 x.nx.length]
   have he : mixR (b.rows.take i) k y 1001 ++ [[TV.d (.int .i64 x.id), TV.d (ints x.nx)]] = mixR (b.rows.take (i + 1)) k y 1001 := by
    rw [ht, mixR_app _ _ _ (by simp; omega)]
    simp [rws, Rw.cs]
   rw [he] at hs
   generalize mixR (b.rows.take i) k y 1001 ++ [[TV.d (.int .i64 x.id), TV.oref 19 x.nx.length]] = EE at hs hg ⊢
   refine ⟨⟨⟨i + 1, by omega⟩, ?_, by simp; omega⟩⟩
   simp only [if_neg (show ¬ i + 1 ≤ k by omega)]
   exact GS.seeRow' 3 i 1 19 (e0 := 52) (k0 := 2) (es0 := EE) (sh0 := false) (n := x.nx.length) (e := 3) (k := 1) (es := dd (nrow .i64 x.nx)) (sh := false) (xs := nrow .i64 x.nx) (by simp) (by omega) hg (by simp) (by simp [nrow]) (by simp [nrow]) (by simp) (by simp [ints] at hs; simp [hs, nrow])
 ·have hiz : ¬ (i : Int) < b.rows.length := by omega
  obtain rfl : i = b.rows.length := by omega
  simp only [if_neg (show ¬ b.rows.length ≤ k by omega), List.take_length]
  simp -dsimp [hiz]
  refine Fin.of ?_
  simp
def rowW (b : Tb) (k : Nat) (f : List Int → List Int) : Tb := ⟨b.r, b.sd, b.len, b.rows.set k ⟨(b.rows.getD k ⟨0, []⟩).id, f (b.rows.getD k ⟨0, []⟩).nx⟩⟩
def gBend (T : Tp) (b : Tb) : Tb × Tp :=
 let s := gNext T 8
 if s.1 = 0 then (⟨(gPick s.2 [0, 1, 2, 99, 100]).1, b.sd, b.len, b.rows⟩, (gPick s.2 [0, 1, 2, 99, 100]).2)
 else if s.1 = 1 then (⟨b.r, (gWild s.2).1, b.len, b.rows⟩, (gWild s.2).2)
 else if s.1 = 2 then (⟨b.r, b.sd, (gPick s.2 [0, 8, 16, 24, 64]).1, b.rows⟩, (gPick s.2 [0, 8, 16, 24, 64]).2)
 else if s.1 = 3 then (⟨b.r, b.sd, b.len, b.rows ++ [⟨(gPick s.2 [0, 1, 256, 257]).1, [1]⟩]⟩, (gPick s.2 [0, 1, 256, 257]).2)
 else if b.rows = [] then (b, s.2)
 else
  let k := gNext s.2 b.rows.length
  let m := gNext k.2 4
  if m.1 = 0 then (rowW b k.1.toNat (· ++ [(gPick m.2 [0, 1, 6, 99, 100]).1]), (gPick m.2 [0, 1, 6, 99, 100]).2)
  else if m.1 = 1 then (rowW b k.1.toNat (· ++ [b.r]), m.2)
  else if m.1 = 2 then (rowW b k.1.toNat (fun _ => []), m.2)
  else (rowW b k.1.toNat (fun _ => [(gPick m.2 [1, 2, 3, 9, b.r]).1]), (gPick m.2 [1, 2, 3, 9, b.r]).2)
def bendAt (T : Tp) (b : Tb) : Option Nat :=
 let s := gNext T 8
 if s.1 ≤ 3 then none else if b.rows = [] then none else
  let k := gNext s.2 b.rows.length
  if (gNext k.2 4).1 ≤ 1 then some k.1.toNat else none
theorem mix_get {l : List Rw} {k : Nat} {y : Rw} {id m : Nat} (h : k < l.length) : ((mixR l k y id).set k [TV.d (.int .i64 y.id), TV.oref id m])[k]? = some [TV.d (.int .i64 y.id), TV.oref id m] := by
 rw [List.getElem?_set_self (by rw [mixR_len y id h]; exact h)]
theorem mix_set {l : List Rw} {k : Nat} {y : Rw} {id m : Nat} (h : k < l.length) (z : List Int) : ((mixR l k y id).set k [TV.d (.int .i64 y.id), TV.oref id m]).set k [TV.d (.int .i64 y.id), TV.d (ints z)] = dd (rws (l.set k ⟨y.id, z⟩)) := by
 have htk : (dd (rws (l.take k))).length = k := by simp; omega
 rw [List.set_set, mixR, List.set_append_right _ _ (by omega), htk, Nat.sub_self, List.set_cons_zero, List.set_eq_take_append_cons_drop, if_pos h]
 simp [rws, Rw.cs]
noncomputable def gTab (T : Tp) (n : Int) : Tb × Tp :=
 let g := gMix T 6
 let p := gPlan g.2 g.1.rs 0
 let l := (all11 g.1 p.1).1
 if l.length = 0 then (⟨1, 0, 8, []⟩, p.2)
 else
  let i := gNext p.2 l.length
  let o := gOne i.2 n
  if o.1 = true then gBend o.2 (l.getD i.1.toNat ⟨1, 0, 8, []⟩) else (l.getD i.1.toNat ⟨1, 0, 8, []⟩, o.2)
@[simp] theorem passI2_tape (ν : List Pl) (rs : List (Nat × Nat)) (T : Tp) : passI2 ν rs (tapeI T) = some (tapeI T) := by simp [tapeI, ints, passI2_box]
@[simp] theorem backs_mix (ν : List Pl) (c : Nat) (l : List Rw) (k : Nat) (y : Rw) (id : Nat) : (mixR l k y id).map (TV.backs ν c) = mixR l k y (c + id) := by simp [mixR]
theorem passEs_mix (ν : List Pl) (rs : List (Nat × Nat)) (l : List Rw) (k : Nat) (y : Rw) (id j : Nat) (h : rsOf rs id = some j) : passEs ν rs (mixR l k y id) = some (mixR l k y j) := by simp [mixR, h]
theorem bendAt_lt {T : Tp} {b : Tb} {k : Nat} (h : bendAt T b = some k) : k < b.rows.length := by
 unfold bendAt at h
 simp only at h
 split at h
 ·simp at h
 ·split at h
  ·simp at h
  ·rename_i ce
   split at h
   ·simp only [Option.some.injEq] at h
    have hl := List.length_pos_iff.2 ce
    have k1 := gNext_nonneg (gNext T 8).2 b.rows.length
    have k2 := gNext_lt (gNext T 8).2 (n := b.rows.length) (by omega)
    omega
   ·simp at h
theorem rowW_sm {b : Tb} {k : Nat} {f : List Int → List Int} (h1 : b.rows.length ≤ 256) (h2 : ∀ x ∈ b.rows, x.nx.length ≤ 24) (hf : ∀ l : List Int, (f l).length ≤ l.length + 1) : (rowW b k f).rows.length ≤ 256 ∧ ∀ x ∈ (rowW b k f).rows, x.nx.length ≤ 25 := by
 refine ⟨by simpa [rowW] using h1, fun x hx => ?_⟩
 simp only [rowW] at hx
 rcases List.mem_or_eq_of_mem_set hx with hx | rfl
 ·have := h2 x hx; omega
 ·have h3 := hf (b.rows.getD k ⟨0, []⟩).nx
  have : (b.rows.getD k ⟨0, []⟩).nx.length ≤ 24 := by
   rw [List.getD_eq_getElem?_getD]
   cases hg : b.rows[k]? with
   | none => simp
   | some y => exact h2 y (List.mem_of_getElem? hg)
  simp only
  omega
theorem gBend_sm (T : Tp) {b : Tb} (h1 : b.rows.length ≤ 256) (h2 : ∀ x ∈ b.rows, x.nx.length ≤ 24) : (gBend T b).1.rows.length ≤ 257 ∧ ∀ x ∈ (gBend T b).1.rows, x.nx.length ≤ 25 := by
 have h0 : b.rows.length ≤ 257 ∧ ∀ x ∈ b.rows, x.nx.length ≤ 25 := ⟨by omega, fun x hx => by have := h2 x hx; omega⟩
 have hw : ∀ (k : Nat) (f : List Int → List Int), (∀ l : List Int, (f l).length ≤ l.length + 1) → (rowW b k f).rows.length ≤ 257 ∧ ∀ x ∈ (rowW b k f).rows, x.nx.length ≤ 25 := fun k f hf => ⟨by have := (rowW_sm (k := k) h1 h2 hf).1; omega, (rowW_sm h1 h2 hf).2⟩
 unfold gBend
 simp only
 split
 ·exact h0
 split
 ·exact h0
 split
 ·exact h0
 split
 ·refine ⟨by simp; omega, fun x hx => ?_⟩
  rcases List.mem_append.1 hx with hx | hx
  ·exact h0.2 x hx
  ·simp at hx; subst hx; simp
 split
 ·exact h0
 split
 ·exact hw _ _ fun l => by simp
 split
 ·exact hw _ _ fun l => by simp
 split
 ·exact hw _ _ fun l => by simp
 ·exact hw _ _ fun l => by simp
theorem gTab_sm (T : Tp) (n : Int) : (gTab T n).1.Sm := by
 have key : ∀ b : Tb, chk b = 0 → b.Sm ∧ ∀ T', (gBend T' b).1.Sm := fun b hb => by
  obtain ⟨_, h1, h2, _⟩ := chk_parts hb
  refine ⟨chk_sm hb, fun T' => ?_⟩
  obtain ⟨g1, g2⟩ := gBend_sm T' h1 h2
  exact ⟨by omega, fun x hx => by have := g2 x hx; omega⟩
 unfold gTab
 simp only
 split
 ·exact (key _ dflt_ok).1
 ·rename_i h
  generalize hP : gPlan (gMix T 6).2 (gMix T 6).1.rs 0 = p at h ⊢
  have m1 := gNext_nonneg p.2 (all11 (gMix T 6).1 p.1).1.length
  have m2 := gNext_lt p.2 (n := (all11 (gMix T 6).1 p.1).1.length) (by omega)
  have hk : chk ((all11 (gMix T 6).1 p.1).1.getD (gNext p.2 (all11 (gMix T 6).1 p.1).1.length).1.toNat ⟨1, 0, 8, []⟩) = 0 := by
   rw [List.getD_eq_getElem?_getD, List.getElem?_eq_getElem (by omega)]
   exact all11_ok _ _ _ (List.getElem_mem _)
  obtain ⟨g1, g2⟩ := key _ hk
  split
  ·exact g2 _
  ·exact g1
theorem gBend_tape (T : Tp) (b : Tb) : TapeOK (gBend T b).2 = TapeOK T := by
 unfold gBend
 simp only
 split
 ·simp
 split
 ·simp [gWild]
 split
 ·simp
 split
 ·simp
 split
 ·simp
 split
 ·simp
 split
 ·simp
 split <;> simp
theorem gTab_tape (T : Tp) (n : Int) : TapeOK (gTab T n).2 = TapeOK T := by
 unfold gTab
 simp only
 split
 ·exact (gPlan_zero _ _).1.trans (by simp)
 ·split
  ·rw [gBend_tape]
   simp only [gOne_ok, gNext_ok]
   exact (gPlan_zero _ _).1.trans (by simp)
  ·simp only [gOne_ok, gNext_ok]
   exact (gPlan_zero _ _).1.trans (by simp)
end Go.Proofs

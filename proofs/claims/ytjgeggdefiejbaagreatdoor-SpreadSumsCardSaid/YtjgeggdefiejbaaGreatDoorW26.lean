/-
  What functions of the program compute, stated as contracts over plain data; the conditions of each stand in its own statement.
-/
import Derived.Test.YtjgeggdefiejbaaGreatDoorW25
set_option linter.unusedSimpArgs false
set_option maxRecDepth 100000
set_option maxHeartbeats 2000000
namespace Go.Proofs
open Go Go.Tr
theorem nodup_le : ∀ {l m : List Int}, l.Nodup → (∀ x ∈ l, x ∈ m) → l.length ≤ m.length
 | [], _, _, _ => by simp
 | x :: l, m, h, hs => by
   have h1 := List.nodup_cons.1 h
   have := nodup_le (l := l) (m := m.erase x) h1.2 fun y hy => (List.mem_erase_of_ne (fun e => by subst e; exact h1.1 hy)).2 (hs y (by simp [hy]))
   rw [List.length_erase_of_mem (hs x (by simp))] at this
   have := List.length_pos_of_mem (hs x (by simp))
   simp; omega
theorem hasR_mem {l : List Rt} {r : Int} : hasR l r = true ↔ r ∈ l.map (·.id) := by simp [hasR]
theorem seen_le {g : Topo} {l : List Int} (h : l.Nodup) (hs : ∀ x ∈ l, hasR g.rs x = true) : l.length ≤ g.rs.length := by
 have := nodup_le h fun x hx => hasR_mem.1 (hs x hx)
 simpa using this
theorem near_has {g : Topo} {r x : Int} (h : x ∈ near g r) : hasR g.rs x = true := by
 simp only [near, List.mem_map, List.mem_filter] at h
 obtain ⟨y, ⟨hy, _⟩, rfl⟩ := h
 exact hasR_mem.2 (List.mem_map_of_mem hy)
theorem steps_has {g : Topo} {d : List Int} {r x : Int} (h : x ∈ steps g d r) : hasR g.rs x = true := by
 unfold steps at h
 split at h
 ·simp at h
 ·exact near_has (List.mem_filter.1 h).1
def hopIn (g : Topo) (s : List Int × List Int) (n : Int) : List Int × List Int :=
 if capR g.rs n = true then (s.1, insI s.2 n) else if hasI s.1 n = true then s else (s.1 ++ [n], s.2)
def hopsL (g : Topo) (d : List Int) : Nat → Nat → List Int × List Int → List Int × List Int
 | 0, _, s => s
 | k + 1, i, s => if i < s.1.length then hopsL g d k (i + 1) ((steps g d (s.1.getD i 0)).foldl (hopIn g) s) else s
def hops (g : Topo) (f t : Int) : List Int :=
 if chkT g = 0 ∧ hasR g.rs f = true ∧ hasR g.rs t = true ∧ ¬ f = t then (hopsL g (dist g t) (g.rs.length + 1) 0 ([f], [])).2 else []
theorem insI_len (l : List Int) (n : Int) : (insI l n).length ≤ l.length + 1 := by
 unfold insI
 split <;> simp <;> omega
theorem roundsD_prop {g : Topo} {p : List Int → Prop} (h : ∀ d l, l ∈ g.ls → p d → p (relax g d l)) : ∀ (n : Nat) (d : List Int), p d → p (roundsD g n d)
 | 0, _, hd => hd
 | n + 1, d, hd => by
   have : ∀ (ls : List Lk) (d : List Int), (∀ x ∈ ls, x ∈ g.ls) → p d → p (ls.foldl (relax g) d) := by
    intro ls
    induction ls with
    | nil => intro d _ hd; exact hd
    | cons x ls ih => intro d hm hd; exact ih _ (fun y hy => hm y (by simp [hy])) (h d x (hm x (by simp)) hd)
   exact roundsD_prop h n _ (this g.ls d (fun _ hx => hx) hd)
theorem dist_len (g : Topo) (t : Int) : (dist g t).length = g.rs.length := by
 refine roundsD_prop (p := fun d => d.length = g.rs.length) (fun d l _ h => by rw [relax_len, h]) _ _ (by simp [dist0])
theorem dist_bd {g : Topo} (hg : g.Ok) (t : Int) : Bd (dist g t) := by
 refine roundsD_prop (p := Bd) (fun d l hl h => h.relax (hg.c hl).1.1 (hg.c hl).2.1) _ _ ?_
 intro v hv
 obtain ⟨x, _, rfl⟩ := List.mem_map.1 hv
 split <;> simp
theorem hops11_c (g : Topo) (hg : g.Sm) (f t : Int) : Contract Tryz.prog 120 [topT g, .d (.int .i64 f), .d (.int .i64 t)] [] (.d (ints (hops g f t))) [] [] := by
 have hr := hg.r
 refine contract_of Tryz.func120 rfl (fun E0 => ?_)
 refine awp.sound (g := .mk) (ow := [32]) (kp := (fun k => k==0||k==1||k==2||k==3||k==6||k==7||k==8||k==9||k==10||k==11||k==12||k==27||k==36||k==49||k==57||k==70)) ?_
 rw [Tryz.ntmps120]
 simp -dsimp [topT]
 refine ACall.of (has05x_c g hg f) [] 0 ?_
 rcases (Bool.eq_false_or_eq_true (decide (chkT g = 0) && hasR g.rs f)).symm with a1 | a1
 ·simp -dsimp [a1, topT]
  refine Fin.view 6 ?_
  simp -dsimp
  refine Fin.of ?_
  have e : hops g f t = [] := by
   rw [hops, if_neg]; rintro ⟨h1, h2, _⟩; simp [h1, h2] at a1
  simp [e, ints]
 have hc : chkT g = 0 := by simp at a1; exact a1.1
 have hf : hasR g.rs f = true := by simp at a1; exact a1.2
 have hO := chkT_zero hc
 simp -dsimp [a1, topT]
 refine ACall.of (has05x_c g hg t) [] 0 ?_
 rcases (Bool.eq_false_or_eq_true (decide (chkT g = 0) && hasR g.rs t)).symm with a2 | a2
 ·simp -dsimp [a1, a2, topT]
  refine Fin.view 6 ?_
  simp -dsimp
  refine Fin.of ?_
  have e : hops g f t = [] := by
   rw [hops, if_neg]; rintro ⟨h1, _, h2, _⟩; simp [h1, h2] at a2
  simp [e, ints]
 have ht : hasR g.rs t = true := by simp at a2; exact a2.2
 by_cases a3 : f = t
 ·simp -dsimp [a1, a2, eq_true a3, topT]
  refine Fin.view 6 ?_
  simp -dsimp
  refine Fin.of ?_
  have e : hops g f t = [] := by
   rw [hops, if_neg]; rintro ⟨_, _, _, h⟩; exact h a3
  simp [e, ints]
 have hh : hops g f t = (hopsL g (dist g t) (g.rs.length + 1) 0 ([f], [])).2 := by rw [hops, if_pos ⟨hc, hf, ht, a3⟩]
 have hdl := dist_len g t
 have hbd := dist_bd hO t
 simp -dsimp [a1, a2, eq_false a3, topT]
 refine ACall.of (to06_c g hO t) [] 0 ?_
 simp -dsimp [a1, a2, a3, topT]
 rw [hh]
 generalize dist g t = d at hdl hbd
 have hr24 := hO.nr
 as_aux_lemma =>
 refine ALoop.of [32] (fun k => k==0||k==1||k==2||k==3||k==6||k==7||k==8||k==9||k==10||k==11||k==12||k==27||k==36||k==49||k==57||k==70) (ι := { w : (Nat × List Int × List Int) × Bool // w.1.1 ≤ w.1.2.1.length ∧ w.1.2.1.Nodup ∧ (∀ x ∈ w.1.2.1, hasR g.rs x = true) ∧ w.1.2.2.length ≤ 24 * w.1.1 ∧ hopsL g d (g.rs.length + 1) 0 ([f], []) = hopsL g d (g.rs.length + 1 - w.1.1) w.1.1 w.1.2 })
  (fun z => [(Pl.s 0, It.v (.agg [TV.d (.sl (rts g.rs)), TV.d (.sl (lks g.ls))])), (Pl.s 1, It.v (.d (.int .i64 f))), (Pl.s 2, It.v (.d (.int .i64 t))), (Pl.o 3, It.box [TV.d (.sl (rts g.rs)), TV.d (.sl (lks g.ls))]), (Pl.s 3, It.v (.ptr (Pl.o 3) 0)), (Pl.s 6, It.v (.c (Value.slice none 0 0))), (Pl.s 7, It.v (.d (ints d))), (Pl.s 8, It.v (.oref 32 z.1.1.2.1.length)), (Pl.o 32, It.row 3 1 (dd (nrow .i64 z.1.1.2.1)) z.1.2), (Pl.s 9, It.v (.d (ints z.1.1.2.2))), (Pl.s 10, It.v (.d (.int .i64 z.1.1.1)))]) (fun z => g.rs.length + 1 - z.1.1.1) ⟨((0, [f], []), false), by simp, by simp, by simpa using hf, by simp, rfl⟩ ?_ ?_
 ·exact GS.viewS 9 (by simp [ints, dd, nrow])
 generalize hopsL g d (g.rs.length + 1) 0 ([f], []) = H
 rintro ⟨⟨⟨i, seen, out⟩, sh⟩, i1, i2, i3, i4, i5⟩
 simp only at i1 i2 i3 i4 i5
 have hsl := seen_le i2 i3
 by_cases hi : i < seen.length
 ·have hiz : (i : Int) < seen.length := by omega
  have hx : seen[i]? = some seen[i] := List.getElem?_eq_getElem hi
  generalize seen[i] = x at hx
  rw [show g.rs.length + 1 - i = (g.rs.length - i) + 1 by omega, hopsL, if_pos hi, getD_of hx] at i5
  have hsn := steps_len g d x
  have hsh : ∀ y ∈ steps g d x, hasR g.rs y = true := fun y hy => steps_has hy
  simp -dsimp [hiz, row_get hx]
  and_intros
  all_goals try first | rfl | omega | exact ⟨by kernel_rfl⟩
  refine ACall.of (steps06_c g hO d (by omega) hbd x) [] 0 ?_
  simp -dsimp [topT]
  and_intros
  all_goals try first | rfl | omega | exact ⟨by kernel_rfl⟩
  generalize steps g d x = n at hsn hsh i5
  refine ALoop.of [32] (fun k => k==0||k==1||k==2||k==3||k==6||k==7||k==8||k==9||k==10||k==11||k==12||k==27||k==36||k==49||k==57||k==70) (ι := { w : (Nat × List Int × List Int) × Bool // w.1.1 ≤ n.length ∧ i < w.1.2.1.length ∧ w.1.2.1.Nodup ∧ (∀ x ∈ w.1.2.1, hasR g.rs x = true) ∧ w.1.2.2.length ≤ 24 * i + w.1.1 ∧ n.foldl (hopIn g) (seen, out) = (n.drop w.1.1).foldl (hopIn g) w.1.2 })
   (fun z => [(Pl.s 0, It.v (.agg [TV.d (.sl (rts g.rs)), TV.d (.sl (lks g.ls))])), (Pl.s 1, It.v (.d (.int .i64 f))), (Pl.s 2, It.v (.d (.int .i64 t))), (Pl.o 3, It.box [TV.d (.sl (rts g.rs)), TV.d (.sl (lks g.ls))]), (Pl.s 3, It.v (.ptr (Pl.o 3) 0)), (Pl.s 6, It.v (.c (Value.slice none 0 0))), (Pl.s 7, It.v (.d (ints d))), (Pl.s 8, It.v (.oref 32 z.1.1.2.1.length)), (Pl.o 32, It.row 3 1 (dd (nrow .i64 z.1.1.2.1)) z.1.2), (Pl.s 9, It.v (.d (ints z.1.1.2.2))), (Pl.s 10, It.v (.d (.int .i64 i))), (Pl.s 11, It.v (.d (ints n))), (Pl.s 12, It.v (.d (.int .i64 z.1.1.1)))]) (fun z => n.length - z.1.1.1) ⟨((0, seen, out), sh), by simp, hi, i2, i3, by simpa using i4, rfl⟩ ?_ ?_
  ·exact GS.to (by simp)
  generalize hR : n.foldl (hopIn g) (seen, out) = R at i5
  rintro ⟨⟨⟨k, seen, out⟩, sh⟩, k1, k2, k3, k4, k5, k6⟩
  simp only at k1 k2 k3 k4 k5 k6
  have hsl := seen_le k3 k4
  by_cases hk : k < n.length
  ·have hkz : (k : Int) < n.length := by omega
   have hy : n[k]? = some n[k] := List.getElem?_eq_getElem hk
   have hym := hsh _ (List.getElem_mem hk)
   have hdr : n.drop k = n[k] :: n.drop (k + 1) := List.drop_eq_getElem_cons hk
   generalize n[k] = y at hy hym hdr
   rw [hdr, List.foldl_cons, hopIn] at k6
   simp -dsimp [hkz, hy, ints]
   refine ACall.of (capable05_c g hg y) [] 0 ?_
   rcases (Bool.eq_false_or_eq_true (capR g.rs y)).symm with c1 | c1
   ·rw [if_neg (by simp [c1])] at k6
    simp -dsimp [eq_true hc, c1, ints, hy, topT]
    and_intros
    all_goals try first | rfl | omega | exact ⟨by kernel_rfl⟩
    refine ACall.of (has04_c seen (by omega) y) [] 0 ?_
    rcases (Bool.eq_false_or_eq_true (hasI seen y)).symm with c2 | c2
    ·rw [if_neg (by simp [c2])] at k6
     simp -dsimp [eq_true hc, c1, c2, ints, hy, topT, wrap_i64 (n := (k : Int) + 1) (by omega) (by omega)]
     and_intros
     all_goals try first | rfl | omega | exact ⟨by kernel_rfl⟩
     have hnd : (seen ++ [y]).Nodup := by
      rw [List.nodup_append]
      refine ⟨k3, by simp, fun a ha b hb e => ?_⟩
      simp at hb; subst hb; subst e
      simp [hasI, ha] at c2
     exact ⟨⟨((k + 1, seen ++ [y], out), true), by simp; omega, by simp; omega, hnd, fun x hx => by
      rcases List.mem_append.1 hx with hx | hx
      ·exact k4 x hx
      ·simp at hx; subst hx; exact hym, by simp; omega, k6⟩, GS.to (by simp [nrow, ints]), by simp; omega⟩
    ·rw [if_pos c2] at k6
     simp -dsimp [eq_true hc, c1, c2, ints, hy, topT, wrap_i64 (n := (k : Int) + 1) (by omega) (by omega)]
     and_intros
     all_goals try first | rfl | omega | exact ⟨by kernel_rfl⟩
     exact ⟨⟨((k + 1, seen, out), true), by simp; omega, k2, k3, k4, by simp; omega, k6⟩, GS.to (by simp [ints]), by simp; omega⟩
   ·rw [if_pos c1] at k6
    simp -dsimp [eq_true hc, c1, ints, hy, topT]
    and_intros
    all_goals try first | rfl | omega | exact ⟨by kernel_rfl⟩
    refine ACall.of (insert04_c out (by omega) y) [] 0 ?_
    simp -dsimp [eq_true hc, c1, ints, hy, topT, wrap_i64 (n := (k : Int) + 1) (by omega) (by omega)]
    and_intros
    all_goals try first | rfl | omega | exact ⟨by kernel_rfl⟩
    have := insI_len out y
    exact ⟨⟨((k + 1, seen, insI out y), sh), by simp; omega, k2, k3, k4, by simp; omega, k6⟩, GS.to (by simp [ints]), by simp; omega⟩
  ·have hkz : ¬ (k : Int) < n.length := by omega
   rw [List.drop_eq_nil_of_le (by omega), List.foldl_nil] at k6
   simp -dsimp [hkz, ints, wrap_i64 (n := (i : Int) + 1) (by omega) (by omega)]
   exact ⟨⟨((i + 1, seen, out), sh), by simp; omega, k3, k4, by simp; omega, by rw [i5, k6, show g.rs.length + 1 - (i + 1) = g.rs.length - i by omega]⟩, GS.to (by simp [ints]), by simp; omega⟩
 ·have hiz : ¬ (i : Int) < seen.length := by omega
  have e : H = (seen, out) := by
   rw [i5]
   cases g.rs.length + 1 - i with
   | zero => rfl
   | succ k => rw [hopsL, if_neg hi]
  simp -dsimp [hiz]
  refine Fin.of ?_
  simp [e]
def bRow (g : Topo) (r : Int) (e : Ed) : Rw := ⟨e.id, if e.r = r then [r] else if chkT g = 0 ∧ capR g.rs e.r = true then hops g r e.r else []⟩
def buildT (g : Topo) (p : Pn) (r : Int) : Tb := ⟨r, p.subd, p.len, p.es.map (bRow g r)⟩
def bRws (g : Topo) (r : Int) (es : List Ed) : List (List D) := (es.map (bRow g r)).map Rw.cs
@[simp] theorem bRws_len (g : Topo) (r : Int) (es : List Ed) : (bRws g r es).length = es.length := by simp [bRws]
theorem bRws_app (g : Topo) (r : Int) (es : List Ed) (x : Ed) : bRws g r (es ++ [x]) = bRws g r es ++ [(bRow g r x).cs] := by simp [bRws]
theorem build11_c (g : Topo) (hg : g.Sm) (p : Pn) (hp : p.es.length ≤ 1000000) (r : Int) : Contract Tryz.prog 73 [topT g, planT p, .d (.int .i64 r)] [] (tblT (buildT g p r)) [] [] := by
 have hr := hg.r
 refine contract_of Tryz.func73 rfl (fun E0 => ?_)
 refine awp.sound (g := .mk) (ow := []) (kp := (fun k => k==0||k==1||k==2||k==3||k==4||k==6||k==7||k==8||k==9||k==20||k==37||k==48)) ?_
 rw [Tryz.ntmps73]
 simp -dsimp [topT, planT]
 refine ALoop.of [] (fun k => k==0||k==1||k==2||k==3||k==4||k==6||k==7||k==8||k==9||k==20||k==37||k==48) (ι := { i : Nat // i ≤ p.es.length }) (fun z => [(Pl.s 0, It.v (.agg [TV.d (.sl (rts g.rs)), TV.d (.sl (lks g.ls))])), (Pl.s 1, It.v (.agg [TV.d (.int .i64 p.subd), TV.d (.int .i64 p.len), TV.d (.sl (eds p.es))])), (Pl.s 2, It.v (.d (.int .i64 r))), (Pl.o 3, It.box [TV.d (.sl (rts g.rs)), TV.d (.sl (lks g.ls))]), (Pl.s 3, It.v (.ptr (Pl.o 3) 0)), (Pl.o 4, It.box [TV.d (.int .i64 p.subd), TV.d (.int .i64 p.len), TV.d (.sl (eds p.es))]), (Pl.s 4, It.v (.ptr (Pl.o 4) 0)), (Pl.o 6, It.box [TV.d (.int .i64 0), TV.d (.int .i64 0), TV.d (.int .i64 0), TV.c (Value.slice none 0 0)]), (Pl.s 6, It.v (.ptr (Pl.o 6) 0)), (Pl.s 7, It.v (.ptr (Pl.o 7) 0)), (Pl.o 7, It.box [TV.d (.int .i64 r), TV.d (.int .i64 p.subd), TV.d (.int .i64 p.len), TV.oref 1000 z.1]), (Pl.o 1000, It.row 95 2 (dd (bRws g r (p.es.take z.1))) false), (Pl.s 8, It.v (.d (.int .i64 z.1)))]) (fun z => p.es.length - z.1) ⟨0, by omega⟩ ?_ ?_
 ·exact GS.ownB' (.o 7) 3 1000 (cs := [TV.d (.int .i64 r), TV.d (.int .i64 p.subd), TV.d (.int .i64 p.len), TV.c (Value.slice none 0 0)]) 95 2 (by simp) (by simp) (by simp) (by simp) (by simp [bRws])
 rintro ⟨i, i1⟩
 by_cases hi : i < p.es.length
 ·have hiz : (i : Int) < p.es.length := by omega
  have hx : p.es[i]? = some p.es[i] := List.getElem?_eq_getElem hi
  have ht : p.es.take (i + 1) = p.es.take i ++ [p.es[i]] := by rw [List.take_add_one, List.getElem?_eq_getElem hi]; rfl
  generalize p.es[i] = x at hx ht
  have hx' := eds_get hx
  by_cases a1 : x.r = r
  ·simp -dsimp [hiz, hx', Ed.cs, eq_true a1, wrap_i64 (n := (i : Int) + 1) (by omega) (by omega)]
   and_intros
   all_goals try first | rfl | omega | exact ⟨by kernel_rfl⟩
   have hb : bRow g r x = ⟨x.id, [r]⟩ := by simp [bRow, a1]
   exact ⟨⟨i + 1, by omega⟩, GS.to (by simp [ht, bRws_app, hb, Rw.cs, ints]), by simp; omega⟩
  simp -dsimp [hiz, hx', Ed.cs, eq_false a1, topT]
  refine ACall.of (capable05_c g hg x.r) [] 0 ?_
  rcases (Bool.eq_false_or_eq_true (decide (chkT g = 0) && capR g.rs x.r)).symm with a2 | a2
  ·simp -dsimp [hiz, hx', Ed.cs, eq_false a1, topT, a2, wrap_i64 (n := (i : Int) + 1) (by omega) (by omega)]
   and_intros
   all_goals try first | rfl | omega | exact ⟨by kernel_rfl⟩
   have hb : bRow g r x = ⟨x.id, []⟩ := by simp [bRow, a1]; intro h1 h2; simp [h1, h2] at a2
   exact ⟨⟨i + 1, by omega⟩, GS.to (by simp [ht, bRws_app, hb, Rw.cs, ints]), by simp; omega⟩
  ·simp -dsimp [hiz, hx', Ed.cs, eq_false a1, topT, a2]
   and_intros
   all_goals try first | rfl | omega | exact ⟨by kernel_rfl⟩
   refine ACall.of (hops11_c g hg r x.r) [] 0 ?_
   simp -dsimp [hiz, hx', Ed.cs, eq_false a1, topT, a2, wrap_i64 (n := (i : Int) + 1) (by omega) (by omega)]
   and_intros
   all_goals try first | rfl | omega | exact ⟨by kernel_rfl⟩
   have hb : bRow g r x = ⟨x.id, hops g r x.r⟩ := by simp at a2; simp [bRow, a1, a2]
   exact ⟨⟨i + 1, by omega⟩, GS.to (by simp [ht, bRws_app, hb, Rw.cs, ints]), by simp; omega⟩
 ·have hiz : ¬ (i : Int) < p.es.length := by omega
  obtain rfl : i = p.es.length := by omega
  simp -dsimp [hiz]
  refine Fin.box (.o 6) rfl ?_
  simp -dsimp
  refine Fin.of ?_
  simp [tblT, buildT, rwsD, bRws]
def Tb.cs (b : Tb) : List D := [.int .i64 b.r, .int .i64 b.sd, .int .i64 b.len, rwsD b.rows]
def tabs (g : Topo) (p : Pn) (rs : List Rt) : List Tb := (rs.filter (·.cap)).map fun x => buildT g p x.id
def tabD (g : Topo) (p : Pn) (rs : List Rt) : List (List D) := (tabs g p rs).map Tb.cs
theorem tabD_len (g : Topo) (p : Pn) (rs : List Rt) : (tabD g p rs).length ≤ rs.length := by
 simp only [tabD, tabs, List.length_map]
 exact List.length_filter_le _ _
theorem tabD_app (g : Topo) (p : Pn) (rs : List Rt) (x : Rt) : tabD g p (rs ++ [x]) = if x.cap then tabD g p rs ++ [(buildT g p x.id).cs] else tabD g p rs := by
 simp only [tabD, tabs, List.filter_append, List.map_append]
 cases h : x.cap <;> simp [h]
def allT (l : List Tb) (e : Int) : TV := .tup [.d (.sl (l.map Tb.cs)), .d (.int .i64 e)]
open Classical in
noncomputable def all11 (g : Topo) (p : Pn) : List Tb × Int := if chkT g = 0 ∧ planB p = true then (tabs g p g.rs, 0) else ([], 1)
theorem all11_c (g : Topo) (hg : g.Sm) (p : Pn) (hp : p.es.length ≤ 1000) : Contract Tryz.prog 22 [topT g, planT p] [] (allT (all11 g p).1 (all11 g p).2) [] [] := by
 have hr := hg.r
 refine contract_of Tryz.func22 rfl (fun E0 => ?_)
 refine awp.sound (g := .mk) (ow := []) (kp := (fun k => k==0||k==1||k==2||k==3||k==4||k==5||k==6||k==7||k==15||k==20||k==28)) ?_
 rw [Tryz.ntmps22]
 simp -dsimp [topT, planT]
 refine ACall.of (check05_c g hg.r hg.l) [] 0 ?_
 by_cases hc : chkT g = 0
 ·simp -dsimp [eq_true hc, topT]
  refine ACall.of (validPlan10_c p hp) [] 0 ?_
  rcases (Bool.eq_false_or_eq_true (planB p)).symm with a1 | a1
  ·simp -dsimp [eq_true hc, a1, planT]
   and_intros
   all_goals try first | rfl | omega | exact ⟨by kernel_rfl⟩
   refine Fin.view 4 ?_
   simp -dsimp
   refine Fin.of ?_
   simp [all11, a1, allT]
  ·have he : all11 g p = (tabs g p g.rs, 0) := by rw [all11, if_pos ⟨hc, a1⟩]
   have hn : g.rs.length ≤ 24 := (chkT_zero hc).nr
   rw [he]
   clear he
   simp -dsimp [eq_true hc, a1, planT]
   and_intros
   all_goals try first | rfl | omega | exact ⟨by kernel_rfl⟩
   as_aux_lemma =>
   refine ALoop.of [] (fun k => k==0||k==1||k==2||k==3||k==4||k==5||k==6||k==7||k==15||k==20||k==28) (ι := { i : Nat // i ≤ g.rs.length ∧ True }) (fun z => [(Pl.s 0, It.v (.agg [TV.d (.sl (rts g.rs)), TV.d (.sl (lks g.ls))])), (Pl.s 1, It.v (.agg [TV.d (.int .i64 p.subd), TV.d (.int .i64 p.len), TV.d (.sl (eds p.es))])), (Pl.o 2, It.box [TV.d (.sl (rts g.rs)), TV.d (.sl (lks g.ls))]), (Pl.s 2, It.v (.ptr (Pl.o 2) 0)), (Pl.o 3, It.box [TV.d (.int .i64 p.subd), TV.d (.int .i64 p.len), TV.d (.sl (eds p.es))]), (Pl.s 3, It.v (.ptr (Pl.o 3) 0)), (Pl.s 4, It.v (.c (Value.slice none 0 0))), (Pl.s 5, It.v (.d (.int .i64 0))), (Pl.s 6, It.v (.oref 6 (tabD g p (g.rs.take z.1)).length)), (Pl.o 6, It.row 37 4 (dd (tabD g p (g.rs.take z.1))) false), (Pl.s 7, It.v (.d (.int .i64 z.1)))]) (fun z => g.rs.length - z.1) ⟨0, by omega, trivial⟩ ?_ ?_
   ·exact GS.own' (k := 6) 37 4 (by simp) (by simp) (by simp [tabD, tabs])
   rintro ⟨i, i1, i2⟩
   by_cases hi : i < g.rs.length
   ·have hiz : (i : Int) < g.rs.length := by omega
    have hx : g.rs[i]? = some g.rs[i] := List.getElem?_eq_getElem hi
    have ht : g.rs.take (i + 1) = g.rs.take i ++ [g.rs[i]] := by rw [List.take_add_one, List.getElem?_eq_getElem hi]; rfl
    generalize g.rs[i] = x at hx ht
    have hx' := rts_get hx
    have hta := tabD_app g p (g.rs.take i) x
    have htl := tabD_len g p (g.rs.take i)
    rw [← ht] at hta
    simp at htl
    rcases (Bool.eq_false_or_eq_true x.cap).symm with c1 | c1
    ·rw [if_neg (by simp [c1])] at hta
     simp -dsimp [hiz, hx', Rt.cs, c1, wrap_i64 (n := (i : Int) + 1) (by omega) (by omega)]
     and_intros
     all_goals try first | rfl | omega | exact ⟨by kernel_rfl⟩
     exact ⟨⟨i + 1, by omega, trivial⟩, GS.to (by simp [hta]), by simp; omega⟩
    ·rw [if_pos c1] at hta
     simp -dsimp [hiz, hx', Rt.cs, c1]
     refine ACall.of (build11_c g hg p (by omega) x.id) [] 0 ?_
     simp -dsimp [hiz, hx', Rt.cs, c1, topT, planT, tblT, rwsD, wrap_i64 (n := (i : Int) + 1) (by omega) (by omega)]
     and_intros
     all_goals try first | rfl | omega | exact ⟨by kernel_rfl⟩
     exact ⟨⟨i + 1, by omega, trivial⟩, GS.to (by simp [hta, Tb.cs, rwsD]), by simp; omega⟩
   ·have hiz : ¬ (i : Int) < g.rs.length := by omega
    obtain rfl : i = g.rs.length := by omega
    simp -dsimp [hiz]
    refine Fin.view 4 ?_
    simp -dsimp
    refine Fin.of ?_
    simp [allT, tabD]
 ·simp -dsimp [eq_false hc, topT]
  and_intros
  all_goals try first | rfl | omega | exact ⟨by kernel_rfl⟩
  refine Fin.view 4 ?_
  simp -dsimp
  refine Fin.of ?_
  simp [all11, hc, allT]
theorem price_pos {g : Topo} (hg : g.Ok) {f t c : Int} (h : price g.ls f t = some c) : 1 ≤ c := by
 have : ∀ l : List Lk, (∀ x ∈ l, x ∈ g.ls) → price l f t = some c → 1 ≤ c := by
  intro l
  induction l with
  | nil => intro _ h; simp [price] at h
  | cons x l ih =>
    intro hm h
    have hc := hg.c (hm x (by simp))
    rw [price] at h
    split at h
    ·simp at h; omega
    ·split at h
     ·simp at h; omega
     ·exact ih (fun y hy => hm y (by simp [hy])) h
 exact this g.ls (fun _ h => h) h
theorem steps_lt {g : Topo} (hg : g.Ok) {d : List Int} {f x : Int} (h : x ∈ steps g d f) : atR g d x < atR g d f := by
 unfold steps at h
 split at h
 ·simp at h
 ·obtain ⟨h1, h2⟩ := List.mem_filter.1 h
  simp only [near, List.mem_map, List.mem_filter] at h1
  obtain ⟨y, ⟨_, hy⟩, rfl⟩ := h1
  obtain ⟨c, hc⟩ := Option.isSome_iff_exists.1 hy
  have := price_pos hg hc
  simp only [stepOK, hc, Option.getD_some, Bool.and_eq_true, decide_eq_true_eq] at h2
  omega
structure HopI (g : Topo) (d : List Int) (a : Int) (s : List Int × List Int) : Prop where
 seen : ∀ x ∈ s.1, atR g d x ≤ a
 asc : s.2.Pairwise (· < ·)
 out : ∀ x ∈ s.2, atR g d x < a ∧ hasR g.rs x = true ∧ capR g.rs x = true
theorem HopI.step {g : Topo} {d : List Int} {a n : Int} {s : List Int × List Int} (h : HopI g d a s) (h1 : atR g d n < a) (h2 : hasR g.rs n = true) : HopI g d a (hopIn g s n) := by
 unfold hopIn
 split
 ·rename_i hc
  obtain ⟨h3, h4⟩ := insI_asc n h.asc
  refine ⟨h.seen, h3, fun x hx => ?_⟩
  rcases (h4 x).1 hx with hx | rfl
  ·exact h.out x hx
  ·exact ⟨h1, h2, hc⟩
 ·split
  ·exact h
  ·refine ⟨fun x hx => ?_, h.asc, h.out⟩
   rcases List.mem_append.1 hx with hx | hx
   ·exact h.seen x hx
   ·simp at hx; subst hx; omega
theorem HopI.steps {g : Topo} {d : List Int} {a : Int} : ∀ (l : List Int) (s : List Int × List Int), (∀ x ∈ l, atR g d x < a ∧ hasR g.rs x = true) → HopI g d a s → HopI g d a (l.foldl (hopIn g) s)
 | [], _, _, h => h
 | n :: l, s, hl, h => by
   rw [List.foldl_cons]
   exact HopI.steps l _ (fun x hx => hl x (by simp [hx])) (h.step (hl n (by simp)).1 (hl n (by simp)).2)
theorem HopI.all {g : Topo} (hg : g.Ok) {d : List Int} {a : Int} : ∀ (k i : Nat) (s : List Int × List Int), HopI g d a s → HopI g d a (hopsL g d k i s)
 | 0, _, _, h => h
 | k + 1, i, s, h => by
   rw [hopsL]
   split
   ·rename_i hi
    refine HopI.all hg k (i + 1) _ (HopI.steps _ _ (fun x hx => ?_) h)
    have h1 := steps_lt hg hx
    have h2 := h.seen (s.1.getD i 0) (by rw [List.getD_eq_getElem?_getD, List.getElem?_eq_getElem hi]; exact List.getElem_mem hi)
    exact ⟨by omega, steps_has hx⟩
   ·exact h
theorem hops_ok (g : Topo) (f t : Int) : (hops g f t).Pairwise (· < ·) ∧ ∀ x ∈ hops g f t, hasR g.rs x = true ∧ capR g.rs x = true ∧ x ≠ f := by
 unfold hops
 split
 ·rename_i h
  have := HopI.all (chkT_zero h.1) (d := dist g t) (a := atR g (dist g t) f) (g.rs.length + 1) 0 ([f], []) ⟨by simp, by simp, by simp⟩
  exact ⟨this.asc, fun x hx => ⟨(this.out x hx).2.1, (this.out x hx).2.2, fun e => by have := (this.out x hx).1; subst e; omega⟩⟩
 ·simp
theorem Topo.Ok.id {g : Topo} (h : g.Ok) {r : Int} (hr : hasR g.rs r = true) : inR r 1 99 := by
 obtain ⟨x, hx, rfl⟩ := List.mem_map.1 (hasR_mem.1 hr)
 have := List.any_eq_false.1 h.ids x hx
 simp [inB] at this
 exact this
theorem buildT_ok {g : Topo} (hg : chkT g = 0) {p : Pn} (hp : planB p = true) {r : Int} (hr : hasR g.rs r = true) : chk (buildT g p r) = 0 := by
 have hO := chkT_zero hg
 have hri := hO.id hr
 simp only [planB, decide_eq_true_eq] at hp
 obtain ⟨hb, he, _⟩ := hp
 simp only [baseB, inB, Bool.and_eq_true, Bool.or_eq_true, decide_eq_true_eq] at hb
 obtain ⟨b1, b2, b3⟩ := hb
 have hed : ∀ {i : Nat} {e : Ed}, p.es[i]? = some e → inR e.id 1 256 ∧ (i = 0 ∨ ∃ e', p.es[i - 1]? = some e' ∧ e'.id < e.id) := fun {i e} hi => by
  obtain ⟨h1, h2⟩ := List.getElem?_eq_some_iff.1 hi
  have h3 := he i h1
  have g1 : p.es.getD i ⟨0, 0⟩ = e := by rw [List.getD_eq_getElem?_getD, hi]; rfl
  simp only [edB, gid, grt, g1, inB, Bool.and_eq_true, Bool.or_eq_true, decide_eq_true_eq] at h3
  refine ⟨h3.1, h3.2.2.imp id fun h => ?_⟩
  have h4 : i - 1 < p.es.length := by omega
  rw [List.getD_eq_getElem?_getD, List.getElem?_eq_getElem h4] at h
  exact ⟨_, List.getElem?_eq_getElem h4, h⟩
 have hnx : ∀ e : Ed, (∀ n ∈ (bRow g r e).nx, inR n 1 99) ∧ (bRow g r e).nx.Pairwise (· < ·) ∧ (bRow g r e).nx.length ≤ 24 ∧ ¬ (1 < (bRow g r e).nx.length ∧ r ∈ (bRow g r e).nx) := fun e => by
  unfold bRow
  simp only
  split
  ·exact ⟨by simpa using hri, by simp, by simp, by simp⟩
  ·split
   ·obtain ⟨h1, h2⟩ := hops_ok g r e.r
    refine ⟨fun n hn => hO.id (h2 n hn).1, h1, ?_, fun h => (h2 r h.2).2.2 rfl⟩
    exact Nat.le_trans (seen_le (h1.imp fun h => by omega) fun x hx => (h2 x hx).1) hO.nr
   ·simp
 have hmem : ∀ {x : Rw}, x ∈ (buildT g p r).rows → ∃ (i : Nat) (e : Ed), p.es[i]? = some e ∧ x = bRow g r e := fun {x} hx => by
  obtain ⟨e, he, rfl⟩ := List.mem_map.1 hx
  obtain ⟨i, hi⟩ := List.getElem?_of_mem he
  exact ⟨i, e, hi, rfl⟩
 refine chk_ok ⟨hri, b1, b2.imp id fun h => ⟨h.1, by simp [buildT, h.2]⟩⟩ ?_ (by simp [buildT]; omega) ?_ (asc_of (fun a x y hx hy => ?_) fun x hx => ?_) ?_
 ·rintro ⟨x, hx, ho⟩
  obtain ⟨i, e, hi, rfl⟩ := hmem hx
  rcases ho with ho | ⟨n, hn, ho⟩
  ·exact ho (hed hi).1
  ·exact ho ((hnx e).1 n hn)
 ·rintro ⟨x, hx, ho⟩
  obtain ⟨i, e, hi, rfl⟩ := hmem hx
  have := (hnx e).2.2.1
  omega
 ·simp only [buildT, List.getElem?_map, Option.map_eq_some_iff] at hx hy
  obtain ⟨e, h1, rfl⟩ := hx
  obtain ⟨e', h2, rfl⟩ := hy
  rcases (hed h2).2 with h | ⟨e2, h3, h4⟩
  ·simp at h
  ·simp only [Nat.add_sub_cancel] at h3
   rw [h1] at h3
   simp only [Option.some.injEq] at h3
   subst h3
   exact h4
 ·obtain ⟨i, e, hi, rfl⟩ := hmem hx
  exact (hnx e).2.1
 ·rintro ⟨x, hx, h1, h2⟩
  obtain ⟨i, e, hi, rfl⟩ := hmem hx
  exact (hnx e).2.2.2 ⟨h1, h2⟩
theorem all11_ok (g : Topo) (p : Pn) : ∀ b ∈ (all11 g p).1, chk b = 0 := fun b hb => by
 unfold all11 at hb
 split at hb
 ·rename_i h
  simp only [tabs, List.mem_map, List.mem_filter] at hb
  obtain ⟨x, ⟨hx, _⟩, rfl⟩ := hb
  exact buildT_ok h.1 h.2 (hasR_mem.2 (List.mem_map_of_mem hx))
 ·simp at hb
theorem all11_len (g : Topo) (p : Pn) : (all11 g p).1.length ≤ 24 := by
 unfold all11
 split
 ·rename_i h
  simp only [tabs, List.length_map]
  exact Nat.le_trans (List.length_filter_le _ _) (chkT_zero h.1).nr
 ·simp
end Go.Proofs

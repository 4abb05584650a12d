/-
  What functions of the program compute, stated as contracts over plain data; the conditions of each stand in its own statement.
-/
import Derived.Test.YteenclepbpajdaaE3
set_option linter.unusedSimpArgs false
set_option maxRecDepth 100000
set_option maxHeartbeats 2000000
namespace Go.Proofs
open Go Go.Tr
theorem firstE_zero : ∀ {l : List (Bool × Int)}, (∀ x ∈ l, x.2 ≠ 0) → firstE l = 0 → ∀ x ∈ l, x.1 = false
  | [], _, _ => by simp
  | (c, e) :: l, h, h0 => by
    cases c with
    | true => exact absurd h0 (h (true, e) (by simp))
    | false =>
      intro x hx
      rcases List.mem_cons.1 hx with rfl | hx
      · rfl
      · exact firstE_zero (l := l) (fun y hy => h y (by simp [hy])) h0 x hx
/-- what a valid topology is -/
structure Topo.Ok (g : Topo) : Prop where
  nr : g.rs.length ≤ 24
  nl : g.ls.length ≤ 60
  ids : (g.rs.any fun x => !inB x.id 1 99) = false
  ord : adjB (fun x y => decide (y.id ≤ x.id)) g.rs = false
  cost : g.ls.any Lk.bad = false
  ends : (g.ls.any fun x => !hasR g.rs x.a || !hasR g.rs x.b) = false
  ab : (g.ls.any fun x => decide (x.b ≤ x.a)) = false
  lord : adjB (fun x y => decide (y.a < x.a) || decide (x.a = y.a) && decide (y.b ≤ x.b)) g.ls = false
theorem chkT_zero {g : Topo} (h : chkT g = 0) : g.Ok := by
  have := firstE_zero (l := _) (by simp) h
  simp only [List.mem_cons, List.not_mem_nil, or_false, forall_eq_or_imp, forall_eq] at this
  obtain ⟨h1, h2, h3, h4, h5, h6, h7, h8⟩ := this
  exact ⟨by simpa using h1, by simpa using h2, h3, h4, h5, h6, h7, h8⟩
theorem Topo.Ok.sm {g : Topo} (h : g.Ok) : g.Sm := ⟨by have := h.nr; omega, by have := h.nl; omega⟩
theorem Topo.Ok.c {g : Topo} (h : g.Ok) {x : Lk} (hx : x ∈ g.ls) : (1 ≤ x.ca ∧ x.ca ≤ 1000) ∧ 1 ≤ x.cb ∧ x.cb ≤ 1000 := by
  have := List.any_eq_false.1 h.cost x hx
  simp [Lk.bad, inB] at this
  omega

def far : Int := 1073741824
/-- a link makes two distances shorter -/
def relax (g : Topo) (d : List Int) (l : Lk) : List Int :=
  let a := plc g l.a
  let b := plc g l.b
  let d1 := if d.getD b 0 < far then d.set a (min (d.getD a 0) (l.ca + d.getD b 0)) else d
  if d1.getD a 0 < far then d1.set b (min (d1.getD b 0) (l.cb + d1.getD a 0)) else d1
theorem relax_len (g : Topo) (d : List Int) (l : Lk) : (relax g d l).length = d.length := by
  unfold relax
  simp only
  split <;> split <;> simp
def Bd (d : List Int) : Prop := ∀ v ∈ d, 0 ≤ v ∧ v ≤ far
theorem Bd.get {d : List Int} (h : Bd d) {i : Nat} {v : Int} (hv : d[i]? = some v) : 0 ≤ v ∧ v ≤ far := h v (List.mem_of_getElem? hv)
theorem Bd.set {d : List Int} (h : Bd d) (i : Nat) {v : Int} (hv : 0 ≤ v ∧ v ≤ far) : Bd (d.set i v) := fun x hx => by
  rcases List.mem_or_eq_of_mem_set hx with hx | rfl
  · exact h x hx
  · exact hv
theorem Bd.getD {d : List Int} (h : Bd d) (i : Nat) : 0 ≤ d.getD i 0 ∧ d.getD i 0 ≤ far := by
  rw [List.getD_eq_getElem?_getD]
  cases hv : d[i]? with
  | none => simp [far]
  | some v => exact h.get hv
theorem Bd.relax {g : Topo} {d : List Int} (h : Bd d) {l : Lk} (h1 : 1 ≤ l.ca) (h2 : 1 ≤ l.cb) : Bd (relax g d l) := by
  unfold Proofs.relax
  simp only
  have e : Bd (if d.getD (plc g l.b) 0 < far then d.set (plc g l.a) (min (d.getD (plc g l.a) 0) (l.ca + d.getD (plc g l.b) 0)) else d) := by
    split
    · have := h.getD (plc g l.a); have := h.getD (plc g l.b)
      exact h.set _ (by omega)
    · exact h
  generalize (if d.getD (plc g l.b) 0 < far then d.set (plc g l.a) (min (d.getD (plc g l.a) 0) (l.ca + d.getD (plc g l.b) 0)) else d) = d1 at e ⊢
  split
  · have := e.getD (plc g l.a); have := e.getD (plc g l.b)
    exact e.set _ (by omega)
  · exact e
def roundD (g : Topo) (d : List Int) : List Int := g.ls.foldl (relax g) d
def roundsD (g : Topo) : Nat → List Int → List Int
  | 0, d => d
  | n + 1, d => roundsD g n (roundD g d)
def dist0 (g : Topo) (to : Int) : List Int := g.rs.map fun x => if x.id = to then 0 else far
def dist (g : Topo) (to : Int) : List Int := roundsD g g.rs.length (dist0 g to)
theorem minI_eq (k : IntKind) (a b : Int) : minI k a b = .d (.int k (min a b)) := by
  unfold minI
  by_cases h : b < a
  · rw [if_pos h, Int.min_eq_right (by omega)]
  · rw [if_neg h, Int.min_eq_left (by omega)]
@[simp] theorem far_def : far = 1073741824 := rfl
theorem row_get {d : List Int} {i : Nat} {v : Int} (h : d[i]? = some v) : (dd (nrow .i64 d))[i]? = some [TV.d (D.int .i64 v)] := by simp [dd, nrow, h]
theorem row_set (d : List Int) (i : Nat) (v : Int) : (dd (nrow .i64 d)).set i [TV.d (D.int .i64 v)] = dd (nrow .i64 (d.set i v)) := by simp [dd, nrow, List.map_set]
theorem getD_of {d : List Int} {i : Nat} {v : Int} (h : d[i]? = some v) : d.getD i 0 = v := by rw [List.getD_eq_getElem?_getD, h]; rfl
theorem to06_c (g : Topo) (hg : g.Ok) (to : Int) : Contract Try.prog 66 [topT g, .d (.int .i64 to)] [] (.d (ints (dist g to))) [] [] := by
  have hr := hg.sm.r
  have hl := hg.sm.l
  have hsm := hg.sm
  refine contract_of Try.func66 rfl (fun E0 => ?_)
  refine awp.sound (g := .mk) (ow := []) (kp := (fun k => k == 0 || k == 1 || k == 2 || k == 4 || k == 5 || k == 6 || k == 7 || k == 8 || k == 9 || k == 10 || k == 11 || k == 19 || k == 32 || k == 39 || k == 46 || k == 66 || k == 86)) ?_
  rw [Try.ntmps66]
  simp -dsimp [topT]
  refine ⟨by omega, by omega, ?_⟩
  rw [show List.replicate g.rs.length [TV.d (D.int IntKind.i64 0)] = dd (nrow .i64 (List.replicate g.rs.length 0)) by simp [dd, nrow]]
  refine ALoop.of [] (fun k => k == 0 || k == 1 || k == 2 || k == 4 || k == 5 || k == 6 || k == 7 || k == 8 || k == 9 || k == 10 || k == 11 || k == 19 || k == 32 || k == 39 || k == 46 || k == 66 || k == 86) (ι := { z : Nat × List Int // z.1 ≤ g.rs.length ∧ z.2.length = g.rs.length ∧ ∀ k, k < z.1 → z.2[k]? = (dist0 g to)[k]? }) (fun z => [(Pl.s 0, It.v (TV.agg [TV.d (D.sl (rts g.rs)), TV.d (D.sl (lks g.ls))])), (Pl.s 1, It.v (TV.d (D.int IntKind.i64 to))), (Pl.o 2, It.box [TV.d (D.sl (rts g.rs)), TV.d (D.sl (lks g.ls))]), (Pl.s 2, It.v (TV.ptr (Pl.o 2) 0)), (Pl.s 4, It.v (TV.c (Value.slice none 0 0))), (Pl.s 5, It.v (TV.oref 15 g.rs.length)), (Pl.o 15, It.row 3 1 (dd (nrow .i64 z.1.2)) false), (Pl.s 6, It.v (TV.d (D.int IntKind.i64 z.1.1)))]) (fun z => g.rs.length - z.1.1) ⟨(0, List.replicate g.rs.length 0), by simp, by simp, by simp⟩ ?_ ?_
  · exact GS.to (by simp)
  · rintro ⟨⟨i, d⟩, i1, i2, i3⟩
    simp only at i1 i2 i3
    by_cases hi : i < g.rs.length
    · have hiz : (i : Int) < g.rs.length := by omega
      have hx : g.rs[i]? = some g.rs[i] := List.getElem?_eq_getElem hi
      generalize g.rs[i] = x at hx
      have hx' := rts_get hx
      obtain ⟨v, hv⟩ : ∃ v, d[i]? = some v := ⟨d[i], List.getElem?_eq_getElem (by omega)⟩
      have hw := row_get hv
      have hu : (dd (nrow .i64 (d.set i 1073741824)))[i]? = some [TV.d (D.int .i64 1073741824)] := row_get (by rw [List.getElem?_set]; simp; omega)
      by_cases h : x.id = to
      · simp -dsimp [hiz, i2, hw, row_set, hu, hx', Rt.cs, eq_true h, wrap_i64 (n := (i : Int) + 1) (by omega) (by omega)]
        and_intros
        all_goals try first | rfl | omega | exact ⟨by kernel_rfl⟩
        refine ⟨⟨(i + 1, (d.set i far).set i 0), by omega, by simp [i2], fun k hk => ?_⟩, GS.to (by simp [row_set, far]), by simp; omega⟩
        by_cases e : k = i
        · subst e; rw [List.getElem?_set_self (by simp; omega)]; simp [dist0, hx, h]
        · rw [List.getElem?_set_ne (by omega), List.getElem?_set_ne (by omega)]; exact i3 k (by omega)
      · simp -dsimp [hiz, i2, hw, row_set, hu, hx', Rt.cs, eq_false h, wrap_i64 (n := (i : Int) + 1) (by omega) (by omega)]
        and_intros
        all_goals try first | rfl | omega | exact ⟨by kernel_rfl⟩
        refine ⟨⟨(i + 1, d.set i far), by omega, by simp [i2], fun k hk => ?_⟩, GS.to (by simp [row_set, far]), by simp; omega⟩
        by_cases e : k = i
        · subst e; rw [List.getElem?_set_self (by omega)]; simp [dist0, hx, h]
        · rw [List.getElem?_set_ne (by omega)]; exact i3 k (by omega)
    have hiz : ¬ (i : Int) < g.rs.length := by omega
    have hd : d = dist0 g to := List.ext_getElem? fun k => by
      by_cases hk : k < i
      · exact i3 k hk
      · rw [List.getElem?_eq_none (by omega), List.getElem?_eq_none (by simp [dist0]; omega)]
    simp -dsimp [hiz]
    refine ⟨by omega, ?_⟩
    as_aux_lemma =>
    have hd0 : d.length = g.rs.length := i2
    have hb0 : Bd d := by
      rw [hd]; intro v hv
      obtain ⟨x, _, rfl⟩ := List.mem_map.1 hv
      split <;> simp
    refine ALoop.of [] (fun k => k == 0 || k == 1 || k == 2 || k == 4 || k == 5 || k == 6 || k == 7 || k == 8 || k == 9 || k == 10 || k == 11 || k == 19 || k == 32 || k == 39 || k == 46 || k == 66 || k == 86) (ι := { z : Nat × List Int // z.1 ≤ g.rs.length ∧ z.2.length = g.rs.length ∧ Bd z.2 ∧ dist g to = roundsD g (g.rs.length - z.1) z.2 }) (fun z => [(Pl.s 0, It.v (TV.agg [TV.d (D.sl (rts g.rs)), TV.d (D.sl (lks g.ls))])), (Pl.s 1, It.v (TV.d (D.int IntKind.i64 to))), (Pl.o 2, It.box [TV.d (D.sl (rts g.rs)), TV.d (D.sl (lks g.ls))]), (Pl.s 2, It.v (TV.ptr (Pl.o 2) 0)), (Pl.s 4, It.v (TV.c (Value.slice none 0 0))), (Pl.s 5, It.v (TV.oref 15 g.rs.length)), (Pl.o 15, It.row 3 1 (dd (nrow .i64 z.1.2)) false), (Pl.s 7, It.v (TV.d (D.int IntKind.i64 z.1.1)))]) (fun z => g.rs.length - z.1.1) ⟨(0, d), by simp, hd0, hb0, by simp [dist, hd]⟩ ?_ ?_
    · exact GS.to (by simp)
    clear i1 i3 hi hiz hd hd0 hb0 i2
    rintro ⟨⟨k, d⟩, k1, k2, k3, k4⟩
    simp only at k1 k2 k3 k4
    by_cases hk : k < g.rs.length
    · have hkz : (k : Int) < g.rs.length := by omega
      simp -dsimp [hkz, k2]
      refine ALoop.of [] (fun k => k == 0 || k == 1 || k == 2 || k == 4 || k == 5 || k == 6 || k == 7 || k == 8 || k == 9 || k == 10 || k == 11 || k == 19 || k == 32 || k == 39 || k == 46 || k == 66 || k == 86) (ι := { z : Nat × List Int // z.1 ≤ g.ls.length ∧ z.2.length = g.rs.length ∧ Bd z.2 ∧ roundD g d = (g.ls.drop z.1).foldl (relax g) z.2 }) (fun z => [(Pl.s 0, It.v (TV.agg [TV.d (D.sl (rts g.rs)), TV.d (D.sl (lks g.ls))])), (Pl.s 1, It.v (TV.d (D.int IntKind.i64 to))), (Pl.o 2, It.box [TV.d (D.sl (rts g.rs)), TV.d (D.sl (lks g.ls))]), (Pl.s 2, It.v (TV.ptr (Pl.o 2) 0)), (Pl.s 4, It.v (TV.c (Value.slice none 0 0))), (Pl.s 5, It.v (TV.oref 15 g.rs.length)), (Pl.o 15, It.row 3 1 (dd (nrow .i64 z.1.2)) false), (Pl.s 7, It.v (TV.d (D.int IntKind.i64 k))), (Pl.s 8, It.v (TV.d (D.int IntKind.i64 z.1.1)))]) (fun z => g.ls.length - z.1.1) ⟨(0, d), by simp, k2, k3, rfl⟩ ?_ ?_
      · exact GS.to (by simp)
      rintro ⟨⟨i, e⟩, j1, j2, j3, j4⟩
      simp only at j1 j2 j3 j4
      by_cases hi : i < g.ls.length
      · have hiz : (i : Int) < g.ls.length := by omega
        have hx : g.ls[i]? = some g.ls[i] := List.getElem?_eq_getElem hi
        have hm : g.ls[i] ∈ g.ls := List.getElem_mem hi
        have hdr : g.ls.drop i = g.ls[i] :: g.ls.drop (i + 1) := List.drop_eq_getElem_cons hi
        generalize g.ls[i] = x at hx hm hdr
        have hx' := lks_get hx
        have hc := hg.c hm
        have pa := plc_lt (g := g) x.a (by omega)
        have pb := plc_lt (g := g) x.b (by omega)
        simp -dsimp [hiz, hx', Lk.cs]
        refine ACall.of (place06_c g hsm x.a) [] 0 ?_
        simp -dsimp [topT]
        refine ACall.of (place06_c g hsm x.b) [] 0 ?_
        obtain ⟨va, hva⟩ : ∃ v, e[plc g x.a]? = some v := ⟨e[plc g x.a], List.getElem?_eq_getElem (by omega)⟩
        obtain ⟨vb, hvb⟩ : ∃ v, e[plc g x.b]? = some v := ⟨e[plc g x.b], List.getElem?_eq_getElem (by omega)⟩
        have wa := row_get hva
        have wb := row_get hvb
        have ba := j3.get hva
        have bb := j3.get hvb
        rw [far_def] at ba bb
        have hrx : relax g e x = (let d1 := if vb < 1073741824 then e.set (plc g x.a) (min va (x.ca + vb)) else e
          if d1.getD (plc g x.a) 0 < 1073741824 then d1.set (plc g x.b) (min (d1.getD (plc g x.b) 0) (x.cb + d1.getD (plc g x.a) 0)) else d1) := by
          rw [relax, far_def, getD_of hva, getD_of hvb]
        have hnl := relax_len g e x
        have hnb := j3.relax (g := g) (l := x) hc.1.1 hc.2.1
        rw [hdr, List.foldl_cons] at j4
        generalize relax g e x = e2 at hrx hnl hnb j4
        clear hdr hm hx
        generalize plc g x.a = a at *
        generalize plc g x.b = b at *
        have nx : ∀ e', e' = e2 → (⟨i + 1, e'⟩ : Nat × List Int).1 ≤ g.ls.length ∧ e'.length = g.rs.length ∧ Bd e' ∧ roundD g d = (g.ls.drop (i + 1)).foldl (relax g) e' := fun e' h => by subst h; exact ⟨by simp; omega, by omega, hnb, j4⟩
        by_cases c1 : vb < 1073741824
        · have wv : x.ca + vb = IntKind.i64.wrap (x.ca + vb) := (wrap_i64 (by omega) (by omega)).symm
          have hs1 : (e.set a (min va (x.ca + vb)))[a]? = some (min va (x.ca + vb)) := by rw [List.getElem?_set_self (by omega)]
          obtain ⟨v2, hv2⟩ : ∃ v, (e.set a (min va (x.ca + vb)))[b]? = some v := ⟨(e.set a (min va (x.ca + vb)))[b]'(by simp; omega), List.getElem?_eq_getElem (by simp; omega)⟩
          have ws1 := row_get hs1
          have ws2 := row_get hv2
          simp only [if_pos c1, getD_of hs1, getD_of hv2] at hrx
          simp -dsimp [wa, wb, j2, topT, c1, minI_eq, row_set, ws1, ws2, wrap_i64 (n := x.ca + vb) (by omega) (by omega)]
          by_cases c2 : min va (x.ca + vb) < 1073741824
          · rw [if_pos c2] at hrx
            and_intros
            all_goals try first | rfl | omega | exact ⟨by kernel_rfl⟩
            simp -dsimp [wa, wb, j2, topT, c1, c2, minI_eq, row_set, ws1, ws2, wrap_i64 (n := x.cb + min va (x.ca + vb)) (by omega) (by omega), wrap_i64 (n := (i : Int) + 1) (by omega) (by omega)]
            and_intros
            all_goals try first | rfl | omega | exact ⟨by kernel_rfl⟩
            exact ⟨⟨(i + 1, ((e.set a (min va (x.ca + vb))).set b (min v2 (x.cb + min va (x.ca + vb))))), nx _ hrx.symm⟩, GS.to (by simp), by simp; omega⟩
          · rw [if_neg c2] at hrx
            and_intros
            all_goals try first | rfl | omega | exact ⟨by kernel_rfl⟩
            simp -dsimp [wa, wb, j2, topT, c1, c2, minI_eq, row_set, ws1, ws2, wrap_i64 (n := (i : Int) + 1) (by omega) (by omega)]
            and_intros
            all_goals try first | rfl | omega | exact ⟨by kernel_rfl⟩
            exact ⟨⟨(i + 1, (e.set a (min va (x.ca + vb)))), nx _ hrx.symm⟩, GS.to (by simp), by simp; omega⟩
        · simp only [if_neg c1, getD_of hva, getD_of hvb] at hrx
          by_cases c2 : va < 1073741824
          · rw [if_pos c2] at hrx
            simp -dsimp [wa, wb, j2, topT, c1, c2, minI_eq, row_set, wrap_i64 (n := x.cb + va) (by omega) (by omega), wrap_i64 (n := (i : Int) + 1) (by omega) (by omega)]
            and_intros
            all_goals try first | rfl | omega | exact ⟨by kernel_rfl⟩
            exact ⟨⟨(i + 1, (e.set b (min vb (x.cb + va)))), nx _ hrx.symm⟩, GS.to (by simp), by simp; omega⟩
          · rw [if_neg c2] at hrx
            simp -dsimp [wa, wb, j2, topT, c1, c2, wrap_i64 (n := (i : Int) + 1) (by omega) (by omega)]
            and_intros
            all_goals try first | rfl | omega | exact ⟨by kernel_rfl⟩
            exact ⟨⟨(i + 1, e), nx _ hrx.symm⟩, GS.to (by simp), by simp; omega⟩
      · have hiz : ¬ (i : Int) < g.ls.length := by omega
        simp -dsimp [hiz, wrap_i64 (n := (k : Int) + 1) (by omega) (by omega)]
        rw [List.drop_eq_nil_of_le (by omega), List.foldl_nil] at j4
        exact ⟨⟨(k + 1, e), by simp; omega, j2, j3, by rw [k4, show g.rs.length - k = (g.rs.length - (k + 1)) + 1 by omega, roundsD, j4]⟩, GS.to (by simp), by simp; omega⟩
    · have hkz : ¬ (k : Int) < g.rs.length := by omega
      rw [show g.rs.length - k = 0 by omega, roundsD] at k4
      simp -dsimp [hkz, k2]
      refine Fin.view 4 ?_
      simp -dsimp [k2]
      refine Fin.of ?_
      simp [k4, ints, nrow]
end Go.Proofs

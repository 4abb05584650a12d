/-
  What functions of the program compute, stated as contracts over plain data; the conditions of each stand in its own statement.
-/
import Derived.Test.YtbjbhnidedfcfaaH2
set_option linter.unusedSimpArgs false
set_option maxRecDepth 100000
set_option maxHeartbeats 2000000
namespace Go.Proofs
open Go Go.Tr

def edgeT (p : Pn) (id : Int) : TV := .tup (match p.es.find? (fun e => decide (e.id = id)) with | some e => [.agg (e.cs.map .d), .d (.bool true)] | none => [.agg [.d (.int .i64 0), .d (.int .i64 0)], .d (.bool false)])
theorem find_at {es : List Ed} {id : Int} {i : Nat} {x : Ed} (hx : es[i]? = some x) (hid : x.id = id) (h : ∀ a, a < i → gid es a ≠ id) : es.find? (fun e => decide (e.id = id)) = some x := by
  induction es generalizing i with
  | nil => simp at hx
  | cons e es ih =>
    cases i with
    | zero =>
      simp at hx; subst hx
      simp [hid]
    | succ i =>
      have h0 := h 0 (by omega)
      simp [gid] at h0
      rw [List.find?_cons_of_neg (by simpa using h0)]
      exact ih (by simpa using hx) fun a ha => by
        have := h (a + 1) (by omega)
        simpa [gid] using this
theorem find_no {es : List Ed} {id : Int} (h : ∀ a, a < es.length → gid es a ≠ id) : es.find? (fun e => decide (e.id = id)) = none := by
  rw [List.find?_eq_none]
  intro e he
  obtain ⟨i, hi⟩ := List.getElem?_of_mem he
  have := h i (List.getElem?_eq_some_iff.1 hi).1
  simpa [gid, List.getD, hi] using this

theorem edge10_c (p : Pn) (hp : p.es.length ≤ 1000) (id : Int) : Contract Try.prog 54 [planT p, .d (.int .i64 id)] [] (edgeT p id) [] [] := by
  refine contract_of Try.func54 rfl (fun E0 => ?_)
  refine awp.sound (g := .mk) (ow := []) (kp := (fun k => k == 0 || k == 1 || k == 2 || k == 4 || k == 5 || k == 6 || k == 11 || k == 21)) ?_
  rw [Try.ntmps54]
  simp -dsimp [planT]
  refine ALoop.of [] (fun k => k == 0 || k == 1 || k == 2 || k == 4 || k == 5 || k == 6 || k == 11 || k == 21) (ι := { i : Nat // i ≤ p.es.length ∧ ∀ a, a < i → gid p.es a ≠ id })
    (fun z => [(Pl.s 0, It.v (TV.agg [TV.d (D.int IntKind.i64 p.subd), TV.d (D.int IntKind.i64 p.len), TV.d (D.sl (eds p.es))])), (Pl.s 1, It.v (TV.d (D.int IntKind.i64 id))),
      (Pl.o 2, It.box [TV.d (D.int IntKind.i64 p.subd), TV.d (D.int IntKind.i64 p.len), TV.d (D.sl (eds p.es))]),
      (Pl.s 2, It.v (TV.ptr (Pl.o 2) 0)), (Pl.o 4, It.box [TV.d (D.int IntKind.i64 0), TV.d (D.int IntKind.i64 0)]),
      (Pl.s 4, It.v (TV.ptr (Pl.o 4) 0)), (Pl.s 5, It.v (TV.d (D.bool false))), (Pl.s 6, It.v (TV.d (D.int IntKind.i64 z.1)))])
    (fun z => p.es.length - z.1) ⟨0, by omega, fun a h => by omega⟩ ?_ ?_
  · exact GS.to (by simp)
  · rintro ⟨i, i1, i2⟩
    by_cases hi : i < p.es.length
    · obtain ⟨x, hx⟩ : ∃ x, p.es[i]? = some x := ⟨p.es[i], List.getElem?_eq_getElem hi⟩
      have gx : gid p.es i = x.id := by simp [gid, List.getD, hx]
      by_cases h : x.id = id
      · simp -dsimp [hi, eds_get' hx, Ed.cs, h]
        try refine ⟨?_, ⟨by kernel_rfl⟩⟩
        refine Fin.of ?_
        simp [edgeT, find_at hx h i2, Ed.cs, h]
      · simp -dsimp [hi, eds_get' hx, Ed.cs, h, wrap_i64 (n := (i : Int) + 1) (by omega) (by omega)]
        try refine ⟨?_, ⟨by kernel_rfl⟩⟩
        exact ⟨⟨i + 1, by omega, fun a ha => by
          by_cases e : a = i
          · subst e; rw [gx]; exact h
          · exact i2 a (by omega)⟩, GS.to (by simp), by simp; omega⟩
    · simp -dsimp [hi]
      refine Fin.of ?_
      have hn := find_no (es := p.es) (id := id) fun a ha => i2 a (by omega)
      simp [edgeT, hn]

structure Sb where
  set : Int
  bits : BitVec 64
def Sb.cs (x : Sb) : List D := [.int .i64 x.set, bv x.bits]
def sbs (l : List Sb) : List (List D) := l.map Sb.cs
@[simp] theorem sbs_len (l : List Sb) : (sbs l).length = l.length := by simp [sbs]
theorem sbs_get {l : List Sb} {i : Nat} {x : Sb} (h : l[i]? = some x) : (sbs l)[i]? = some x.cs := by simp [sbs, h]
theorem sbs_get' {l : List Sb} {i : Nat} {x : Sb} (h : l[i]? = some x) (hi : i < (sbs l).length) : (sbs l)[i] = x.cs := by
  have := sbs_get h
  rw [List.getElem?_eq_getElem hi] at this
  simpa using this
/-- one more bit -/
def sbPut (l : List Sb) (s : Int) (b : BitVec 64) : List Sb :=
  match l.getLast? with
  | none => [⟨s, b⟩]
  | some x => if x.set = s then l.dropLast ++ [⟨x.set, x.bits ||| b⟩] else l ++ [⟨s, b⟩]
theorem sbPut_nil (s : Int) (b : BitVec 64) : sbPut [] s b = [⟨s, b⟩] := rfl
theorem sbPut_same (pre : List Sb) (y : Sb) (b : BitVec 64) : sbPut (pre ++ [y]) y.set b = pre ++ [⟨y.set, y.bits ||| b⟩] := by simp [sbPut]
theorem sbPut_new (pre : List Sb) (y : Sb) {s : Int} (h : y.set ≠ s) (b : BitVec 64) : sbPut (pre ++ [y]) s b = pre ++ [y] ++ [⟨s, b⟩] := by simp [sbPut, h]
theorem sbPut_len (l : List Sb) (s : Int) (b : BitVec 64) : (sbPut l s b).length ≤ l.length + 1 := by
  rcases List.eq_nil_or_concat l with rfl | ⟨pre, y, rfl⟩
  · simp [sbPut_nil]
  · rw [List.concat_eq_append]
    by_cases h : y.set = s
    · subst h; rw [sbPut_same]; simp
    · rw [sbPut_new _ _ h]; simp
def sbAll (len : Int) : List Int → List Sb → List Sb
  | [], l => l
  | id :: ids, l => sbAll len ids (sbPut l (plSet id len) (bitB (plBit id len)))
open Classical in
noncomputable def ascB (l : List Int) : Bool := decide (∀ i, 0 < i → i < l.length → l.getD (i - 1) 0 < l.getD i 0)
def knownB (p : Pn) (id : Int) : Bool := (p.es.find? (fun e => decide (e.id = id))).isSome
noncomputable def setsR (p : Pn) (ids : List Int) : List Sb × Int :=
  if planB p = true then
    if ascB ids = true then
      if ids.all (knownB p) = true then (sbAll p.len ids [], 0) else ([], 4)
    else ([], 25)
  else ([], 1)
def setsT (r : List Sb × Int) : TV := .tup [.d (.sl (sbs r.1)), .d (.int .i64 r.2)]
theorem sets10_c (p : Pn) (hp : p.es.length ≤ 1000) (ids : List Int) (hi : ids.length ≤ 100000) : Contract Try.prog 48 [planT p, .d (ints ids)] [] (setsT (setsR p ids)) [] [] := by
  refine contract_of Try.func48 rfl (fun E0 => ?_)
  refine awp.sound (g := .mk) (ow := []) (kp := (fun k => k == 0 || k == 1 || k == 2 || k == 4 || k == 5 || k == 6 || k == 7 || k == 9 || k == 10 || k == 11 || k == 12 || k == 13 || k == 17 || k == 21 || k == 33 || k == 37 || k == 50 || k == 54 || k == 81)) ?_
  rw [Try.ntmps48]
  simp -dsimp [planT]
  refine ACall.of (validPlan10_c p hp) [] 0 ?_
  rcases (Bool.eq_false_or_eq_true (planB p)).symm with a1 | a1
  · simp -dsimp [a1, planT]
    refine Fin.view 4 ?_
    simp -dsimp
    refine Fin.of ?_
    simp [setsT, setsR, a1, sbs]
  · simp -dsimp [a1, planT]
    refine ALoop.of [] (fun k => k == 0 || k == 1 || k == 2 || k == 4 || k == 5 || k == 6 || k == 7 || k == 9 || k == 10 || k == 11 || k == 12 || k == 13 || k == 17 || k == 21 || k == 33 || k == 37 || k == 50 || k == 54 || k == 81) (ι := { i : Nat // 1 ≤ i ∧ i ≤ max 1 ids.length ∧ ∀ a, 0 < a → a < i → ids.getD (a - 1) 0 < ids.getD a 0 })
      (fun z => [(Pl.s 0, It.v (TV.agg [TV.d (D.int IntKind.i64 p.subd), TV.d (D.int IntKind.i64 p.len), TV.d (D.sl (eds p.es))])), (Pl.s 1, It.v (TV.d (ints ids))),
        (Pl.o 2, It.box [TV.d (D.int IntKind.i64 p.subd), TV.d (D.int IntKind.i64 p.len), TV.d (D.sl (eds p.es))]),
        (Pl.s 2, It.v (TV.ptr (Pl.o 2) 0)), (Pl.s 4, It.v (TV.c (Value.slice none 0 0))), (Pl.s 5, It.v (TV.d (D.int IntKind.i64 0))), (Pl.s 6, It.v (TV.d (D.int IntKind.i64 z.1)))])
      (fun z => ids.length - z.1) ⟨1, by omega, by omega, fun a h => by omega⟩ ?_ ?_
    · exact GS.to (by simp)
    · rintro ⟨i, i0, i1, i2⟩
      by_cases hi : i < ids.length
      · have hi1 : i - 1 < ids.length := by omega
        have g1 : ids.getD i 0 = ids[i] := by simp [List.getD, hi]
        have g2 : ids.getD (i - 1) 0 = ids[i - 1] := by simp [List.getD, hi1]
        have b5 : (1 : Int) ≤ i := by omega
        have b6 : (i : Int) - 1 < ids.length := by omega
        have b7 : i - 1 < ids.length := by omega
        by_cases h : ids[i] ≤ ids[i - 1]
        · simp -dsimp [ints, hi, hi1, b5, b6, b7, h, wrap_i64 (n := (i : Int) - 1) (by omega) (by omega)]
          refine ⟨?_, ⟨by kernel_rfl⟩⟩
          refine Fin.view 4 ?_
          simp -dsimp
          refine Fin.of ?_
          have hasc : ascB ids = false := by
            simp only [ascB, decide_eq_false_iff_not]
            exact fun hc => by have := hc i (by omega) hi; rw [g1, g2] at this; omega
          simp [setsT, setsR, a1, hasc, sbs]
        · simp -dsimp [ints, hi, hi1, b5, b6, b7, h, wrap_i64 (n := (i : Int) - 1) (by omega) (by omega), wrap_i64 (n := (i : Int) + 1) (by omega) (by omega)]
          refine ⟨?_, ⟨by kernel_rfl⟩⟩
          exact ⟨⟨i + 1, by omega, by omega, fun a h0 ha => by
            by_cases e : a = i
            · subst e; rw [g1, g2]; omega
            · exact i2 a h0 (by omega)⟩, GS.to (by simp [ints]), by simp; omega⟩
      · have hasc : ascB ids = true := by
          simp only [ascB, decide_eq_true_eq]
          exact fun a h0 ha => i2 a h0 (by omega)
        simp -dsimp [ints, hi]
        refine ALoop.of [] (fun k => k == 0 || k == 1 || k == 2 || k == 4 || k == 5 || k == 6 || k == 7 || k == 9 || k == 10 || k == 11 || k == 12 || k == 13 || k == 17 || k == 21 || k == 33 || k == 37 || k == 50 || k == 54 || k == 81) (ι := { k : Nat // k ≤ ids.length ∧ ∀ a, a < k → knownB p (ids.getD a 0) = true })
          (fun z => [(Pl.s 0, It.v (TV.agg [TV.d (D.int IntKind.i64 p.subd), TV.d (D.int IntKind.i64 p.len), TV.d (D.sl (eds p.es))])), (Pl.s 1, It.v (TV.d (ints ids))),
            (Pl.o 2, It.box [TV.d (D.int IntKind.i64 p.subd), TV.d (D.int IntKind.i64 p.len), TV.d (D.sl (eds p.es))]),
            (Pl.s 2, It.v (TV.ptr (Pl.o 2) 0)), (Pl.s 4, It.v (TV.c (Value.slice none 0 0))), (Pl.s 5, It.v (TV.d (D.int IntKind.i64 0))), (Pl.s 7, It.v (TV.d (D.int IntKind.i64 z.1)))])
          (fun z => ids.length - z.1) ⟨0, by omega, fun a h => by omega⟩ ?_ ?_
        · exact GS.to (by simp [ints])
        · rintro ⟨k, k1, k2⟩
          by_cases hk : k < ids.length
          · have gk : ids.getD k 0 = ids[k] := by simp [List.getD, hk]
            simp -dsimp [ints, hk]
            refine ACall.of (edge10_c p hp ids[k]) [] 0 ?_
            cases hf : p.es.find? (fun e => decide (e.id = ids[k])) with
            | none =>
              simp -dsimp [edgeT, hf, planT]
              refine ⟨?_, ⟨by kernel_rfl⟩⟩
              refine Fin.view 4 ?_
              simp -dsimp
              refine Fin.of ?_
              have hkn : ids.all (knownB p) = false := by
                rw [List.all_eq_false]
                exact ⟨ids[k], List.getElem_mem hk, by simp [knownB, hf]⟩
              simp [setsT, setsR, a1, hasc, hkn, sbs]
            | some x =>
              simp -dsimp [edgeT, hf, planT, Ed.cs, wrap_i64 (n := (k : Int) + 1) (by omega) (by omega)]
              try refine ⟨?_, ⟨by kernel_rfl⟩⟩
              exact ⟨⟨k + 1, by omega, fun a ha => by
                by_cases e : a = k
                · subst e; rw [gk]; simp [knownB, hf]
                · exact k2 a (by omega)⟩, GS.to (by simp [ints]), by simp; omega⟩
          · have hkn : ids.all (knownB p) = true := by
              rw [List.all_eq_true]
              intro x hx
              obtain ⟨a, ha⟩ := List.getElem?_of_mem hx
              have := k2 a (by have := (List.getElem?_eq_some_iff.1 ha).1; omega)
              simpa [List.getD, ha] using this
            simp -dsimp [ints, hk]
            refine ALoop.of [] (fun k => k == 0 || k == 1 || k == 2 || k == 4 || k == 5 || k == 6 || k == 7 || k == 9 || k == 10 || k == 11 || k == 12 || k == 13 || k == 17 || k == 21 || k == 33 || k == 37 || k == 50 || k == 54 || k == 81) (ι := { z : Nat × List Sb // z.1 ≤ ids.length ∧ z.2.length ≤ z.1 ∧ sbAll p.len ids [] = sbAll p.len (ids.drop z.1) z.2 })
              (fun z => [(Pl.s 0, It.v (TV.agg [TV.d (D.int IntKind.i64 p.subd), TV.d (D.int IntKind.i64 p.len), TV.d (D.sl (eds p.es))])), (Pl.s 1, It.v (TV.d (ints ids))),
            (Pl.o 2, It.box [TV.d (D.int IntKind.i64 p.subd), TV.d (D.int IntKind.i64 p.len), TV.d (D.sl (eds p.es))]),
            (Pl.s 2, It.v (TV.ptr (Pl.o 2) 0)), (Pl.s 4, It.v (TV.c (Value.slice none 0 0))), (Pl.s 5, It.v (TV.d (D.int IntKind.i64 0))), (Pl.s 10, It.v (TV.oref 10 z.1.2.length)), (Pl.o 10, .row 58 2 (dd (sbs z.1.2)) false), (Pl.s 11, It.v (TV.d (D.int IntKind.i64 z.1.1)))])
              (fun z => ids.length - z.1.1) ⟨(0, []), by simp, by simp, rfl⟩ ?_ ?_
            · exact GS.own' (k := 10) 58 2 (by simp) (by simp) (by simp [ints, sbs])
            · rintro ⟨⟨i, l⟩, q1, q2, q3⟩
              simp only at q1 q2 q3
              by_cases hq : i < ids.length
              · have hd : ids.drop i = ids[i] :: ids.drop (i + 1) := List.drop_eq_getElem_cons _
                have hB := plB ids[i] p.len
                simp -dsimp [ints, hq]
                refine ACall.of (place10_c ids[i] p.len) [] 0 ?_
                rcases List.eq_nil_or_concat l with rfl | ⟨pre, y, rfl⟩
                · simp -dsimp [placeT, planT, sbs, wrap_i64 (n := 0) (by omega) (by omega), wrap_i64 (n := (i : Int) + 1) (by omega) (by omega)]
                  refine ⟨?_, ⟨by kernel_rfl⟩⟩
                  refine ACall.of (bit_c (plBit ids[i] p.len)) [] 0 ?_
                  simp -dsimp [bv, wrap_i64 (n := 0) (by omega) (by omega), wrap_i64 (n := (i : Int) + 1) (by omega) (by omega)]
                  refine ⟨?_, ⟨by kernel_rfl⟩⟩
                  exact ⟨⟨(i + 1, [⟨plSet ids[i] p.len, bitB (plBit ids[i] p.len)⟩]), by dsimp only; omega, by simp, by dsimp only; rw [q3, hd, sbAll, sbPut_nil]⟩, GS.to (by simp [ints, sbs, Sb.cs, bv]), by simp; omega⟩
                · rw [List.concat_eq_append] at *
                  have hlen : pre.length + 1 ≤ i := by simpa using q2
                  have d1 : ∀ x, (dd (List.map Sb.cs pre) ++ [x])[pre.length]? = some x := fun x => by simp [dd]
                  have d2 : ∀ x y, (dd (List.map Sb.cs pre) ++ [x]).set pre.length y = dd (List.map Sb.cs pre) ++ [y] := fun x y => by simp [dd, List.set_append_right]
                  have d3 : ∀ x y, (dd (List.map Sb.cs pre) ++ [x, y])[pre.length + 1]? = some y := fun x y => by simp [dd, List.getElem?_append_right]
                  have d4 : ∀ x y z, (dd (List.map Sb.cs pre) ++ [x, y]).set (pre.length + 1) z = dd (List.map Sb.cs pre) ++ [x, z] := fun x y z => by simp [dd, List.set_append_right]
                  have n0 : ¬ (pre.length : Int) + 1 = 0 := by omega
                  by_cases hs : y.set = plSet ids[i] p.len
                  · simp -dsimp [placeT, hs, sbs, Sb.cs, n0, d1, d2, d3, d4, wrap_i64 (n := (pre.length : Int)) (by omega) (by omega), wrap_i64 (n := (pre.length : Int) + 1) (by omega) (by omega)]
                    and_intros
                    all_goals try first | omega | exact ⟨by kernel_rfl⟩
                    refine ACall.of (bit_c (plBit ids[i] p.len)) [] 0 ?_
                    simp -dsimp [bv, d1, d2, d3, d4, wrap_i64 (n := (pre.length : Int)) (by omega) (by omega), wrap_i64 (n := (pre.length : Int) + 1) (by omega) (by omega), wrap_i64 (n := (i : Int) + 1) (by omega) (by omega)]
                    and_intros
                    all_goals try first | omega | exact ⟨by kernel_rfl⟩
                    exact ⟨⟨(i + 1, pre ++ [⟨y.set, y.bits ||| bitB (plBit ids[i] p.len)⟩]), by dsimp only; omega, by simp; omega, by dsimp only; rw [q3, hd, sbAll, ← hs, sbPut_same]⟩, GS.to (by simp [ints, sbs, Sb.cs, bv, hs]), by simp; omega⟩
                  · simp -dsimp [placeT, hs, sbs, Sb.cs, n0, d1, d2, d3, d4, wrap_i64 (n := (pre.length : Int)) (by omega) (by omega), wrap_i64 (n := (pre.length : Int) + 1) (by omega) (by omega)]
                    and_intros
                    all_goals try first | omega | exact ⟨by kernel_rfl⟩
                    refine ACall.of (bit_c (plBit ids[i] p.len)) [] 0 ?_
                    simp -dsimp [bv, d1, d2, d3, d4, wrap_i64 (n := (pre.length : Int)) (by omega) (by omega), wrap_i64 (n := (pre.length : Int) + 1) (by omega) (by omega), wrap_i64 (n := (i : Int) + 1) (by omega) (by omega)]
                    and_intros
                    all_goals try first | omega | exact ⟨by kernel_rfl⟩
                    exact ⟨⟨(i + 1, pre ++ [y] ++ [⟨plSet ids[i] p.len, bitB (plBit ids[i] p.len)⟩]), by dsimp only; omega, by simp; omega, by dsimp only; rw [q3, hd, sbAll, sbPut_new _ _ hs]⟩, GS.to (by simp [ints, sbs, Sb.cs, bv]), by simp; omega⟩
              · simp -dsimp [ints, hq]
                refine Fin.view 4 ?_
                simp -dsimp
                refine Fin.of ?_
                have hX : sbAll p.len ids [] = l := by rw [q3, List.drop_eq_nil_of_le (by omega)]; rfl
                simp [setsT, setsR, a1, hasc, hkn, hX]
end Go.Proofs

/-
  What functions of the program compute, stated as contracts over plain data; the conditions of each stand in its own statement.
-/
import Derived.Test.YteenclepbpajdaaH1
set_option linter.unusedSimpArgs false
set_option maxRecDepth 100000
set_option maxHeartbeats 2000000
namespace Go.Proofs
open Go Go.Tr

def gid (es : List Ed) (i : Nat) : Int := (es.getD i ⟨0, 0⟩).id
def grt (es : List Ed) (i : Nat) : Int := (es.getD i ⟨0, 0⟩).r
def baseB (p : Pn) : Bool := inB p.subd 0 7 && ((validLen p.len || (decide (p.len = 0) && decide (p.es.length = 0))) && decide (p.es.length ≤ 24))
def edB (es : List Ed) (i : Nat) : Bool := inB (gid es i) 1 256 && (inB (grt es i) 1 99 && (decide (i = 0) || decide (gid es (i - 1) < gid es i)))
open Classical in
noncomputable def planB (p : Pn) : Bool := decide (baseB p = true ∧ (∀ i, i < p.es.length → edB p.es i = true) ∧ ∀ i j, j < i → i < p.es.length → grt p.es i ≠ grt p.es j)

theorem planB_base {p : Pn} (h : baseB p = false) : planB p = false := by
  simp only [planB, decide_eq_false_iff_not]
  rintro ⟨h1, _⟩; rw [h] at h1; simp at h1
theorem planB_ed {p : Pn} {i : Nat} (hi : i < p.es.length) (h : edB p.es i = false) : planB p = false := by
  simp only [planB, decide_eq_false_iff_not]
  rintro ⟨_, h1, _⟩; have := h1 i hi; rw [h] at this; simp at this
theorem planB_rt {p : Pn} {i j : Nat} (hj : j < i) (hi : i < p.es.length) (h : grt p.es i = grt p.es j) : planB p = false := by
  simp only [planB, decide_eq_false_iff_not]
  rintro ⟨_, _, h1⟩; exact h1 i j hj hi h
theorem planB_ok {p : Pn} (h : baseB p = true) (h1 : ∀ i, i < p.es.length → edB p.es i = true) (h2 : ∀ i j, j < i → i < p.es.length → grt p.es i ≠ grt p.es j) : planB p = true := by
  simp only [planB, decide_eq_true_eq]
  exact ⟨h, h1, h2⟩
theorem planB_rep {p : Pn} (h : baseB p = true) (h1 : ∀ i, i < p.es.length → edB p.es i = true) : planB p = !(repB (p.es.map (·.r))) := by
  have hg : ∀ i, i < p.es.length → (p.es.map (·.r)).getD i 0 = grt p.es i := fun i hi => by simp [grt, List.getD, hi]
  by_cases h2 : ∀ i j, j < i → i < p.es.length → grt p.es i ≠ grt p.es j
  · rw [planB_ok h h1 h2, repB_false fun i j hj hi => by simp at hi; rw [hg i hi, hg j (by omega)]; exact h2 i j hj hi]; rfl
  · have : ∃ i j, j < i ∧ i < p.es.length ∧ grt p.es i = grt p.es j := Classical.byContradiction fun hc => h2 fun i j hj hi he => hc ⟨i, j, hj, hi, he⟩
    obtain ⟨i, j, hj, hi, he⟩ := this
    rw [planB_rt hj hi he, repB_true (l := p.es.map (·.r)) hj (by simpa using hi) (by rw [hg i hi, hg j (by omega)]; exact he)]; rfl

theorem validPlan10_c (p : Pn) (hp : p.es.length ≤ 1000) : Contract Try.prog 28 [planT p] [] (.d (.bool (planB p))) [] [] := by
  refine contract_of Try.func28 rfl (fun E0 => ?_)
  refine awp.sound (g := .mk) (ow := []) (kp := (fun k => k == 0 || k == 1 || k == 2 || k == 3 || k == 4 || k == 5 || k == 32 || k == 37 || k == 70)) ?_
  rw [Try.ntmps28]
  simp -dsimp [planT]
  refine ACall.of (inside10_c p.subd 0 7) [] 0 ?_
  rcases (Bool.eq_false_or_eq_true (inB p.subd 0 7)).symm with a1 | a1
  · simp -dsimp [a1]
    refine Fin.of ?_
    simp
    exact planB_base (by simp [baseB, a1])
  · simp -dsimp [a1]
    refine ACall.of (validLength_c p.len) [] 0 ?_
    rcases (Bool.eq_false_or_eq_true (validLen p.len)).symm with a2 | a2
    · by_cases a3 : p.len = 0
      · by_cases a4 : p.es.length = 0
        · have hb : baseB p = true := by simp [baseB, a1, a2, a3, a4, show validLen 0 = false from rfl]
          simp -dsimp [a1, a2, a3, a4, show validLen 0 = false from rfl]
          refine ALoop.of [] (fun k => k == 0 || k == 1 || k == 2 || k == 3 || k == 4 || k == 5 || k == 32 || k == 37 || k == 70) (ι := { i : Nat // i ≤ p.es.length ∧ ∀ a, a < i → edB p.es a = true })
            (fun z => [(Pl.s 0, It.v (TV.agg [TV.d (D.int IntKind.i64 p.subd), TV.d (D.int IntKind.i64 p.len), TV.d (D.sl (eds p.es))])), (Pl.o 1, It.box [TV.d (D.int IntKind.i64 p.subd), TV.d (D.int IntKind.i64 p.len), TV.d (D.sl (eds p.es))]),
              (Pl.s 1, It.v (TV.ptr (Pl.o 1) 0)), (Pl.s 2, It.v (TV.d (D.bool false))), (Pl.s 3, It.v (TV.oref 3 z.1)), (Pl.o 3, .row 3 1 (dd ((p.es.take z.1).map fun e => [.int .i64 e.r])) false), (Pl.s 4, It.v (TV.d (D.int IntKind.i64 z.1)))])
            (fun z => p.es.length - z.1) ⟨0, by omega, fun a h => by omega⟩ ?_ ?_
          · exact GS.own' (k := 3) 3 1 (by simp) (by simp) (by simp [a1, a2, a3, a4, show validLen 0 = false from rfl])
          · rintro ⟨i, i1, i2⟩
            have hi : ¬ i < p.es.length := by omega
            obtain rfl : i = p.es.length := by omega
            simp -dsimp [hi]
            refine ACall.of (repeats_c (p.es.map (·.r)) (by simp; omega)) [] 0 ?_
            simp -dsimp [ints, List.map_map, Function.comp_def]
            refine Fin.of ?_
            simp [planB_rep hb i2]
        · have a5 : 0 < p.es.length := by omega
          simp -dsimp [a1, a2, a3, a4, a5, show validLen 0 = false from rfl]
          refine Fin.of ?_
          simp
          exact planB_base (by simp [baseB, a1, a2, a3, a4, show validLen 0 = false from rfl])
      · simp -dsimp [a1, a2, a3]
        refine Fin.of ?_
        simp
        exact planB_base (by simp [baseB, a1, a2, a3])
    · by_cases a6 : p.es.length ≤ 24
      · have a7 : ¬ (24 : Int) < p.es.length := by omega
        have hb : baseB p = true := by simp [baseB, a1, a2, a6]
        simp -dsimp [a1, a2, a7]
        refine ALoop.of [] (fun k => k == 0 || k == 1 || k == 2 || k == 3 || k == 4 || k == 5 || k == 32 || k == 37 || k == 70) (ι := { i : Nat // i ≤ p.es.length ∧ ∀ a, a < i → edB p.es a = true })
          (fun z => [(Pl.s 0, It.v (TV.agg [TV.d (D.int IntKind.i64 p.subd), TV.d (D.int IntKind.i64 p.len), TV.d (D.sl (eds p.es))])), (Pl.o 1, It.box [TV.d (D.int IntKind.i64 p.subd), TV.d (D.int IntKind.i64 p.len), TV.d (D.sl (eds p.es))]),
            (Pl.s 1, It.v (TV.ptr (Pl.o 1) 0)), (Pl.s 2, It.v (TV.d (D.bool false))), (Pl.s 3, It.v (TV.oref 3 z.1)), (Pl.o 3, .row 3 1 (dd ((p.es.take z.1).map fun e => [.int .i64 e.r])) false), (Pl.s 4, It.v (TV.d (D.int IntKind.i64 z.1)))])
          (fun z => p.es.length - z.1) ⟨0, by omega, fun a h => by omega⟩ ?_ ?_
        · exact GS.own' (k := 3) 3 1 (by simp) (by simp) (by simp [a1, a2])
        · rintro ⟨i, i1, i2⟩
          by_cases hi : i < p.es.length
          · obtain ⟨x, hx⟩ : ∃ x, p.es[i]? = some x := ⟨p.es[i], List.getElem?_eq_getElem hi⟩
            have gx : gid p.es i = x.id ∧ grt p.es i = x.r := by simp [gid, grt, List.getD, hx]
            simp -dsimp [hi, eds_get' hx, Ed.cs]
            refine ACall.of (inside10_c x.id 1 256) [] 0 ?_
            rcases (Bool.eq_false_or_eq_true (inB x.id 1 256)).symm with b1 | b1
            · simp -dsimp [b1]
              refine ⟨?_, ⟨by kernel_rfl⟩⟩
              refine Fin.of ?_
              simp
              exact planB_ed hi (by simp [edB, gx, b1])
            · simp -dsimp [b1]
              refine ACall.of (inside10_c x.r 1 99) [] 0 ?_
              rcases (Bool.eq_false_or_eq_true (inB x.r 1 99)).symm with b2 | b2
              · simp -dsimp [b1, b2]
                refine ⟨?_, ⟨by kernel_rfl⟩⟩
                refine Fin.of ?_
                simp
                exact planB_ed hi (by simp [edB, gx, b1, b2])
              · by_cases b3 : 0 < i
                · obtain ⟨y, hy⟩ : ∃ y, p.es[i - 1]? = some y := ⟨p.es[i - 1], List.getElem?_eq_getElem (by omega)⟩
                  have gy : gid p.es (i - 1) = y.id := by simp [gid, List.getD, hy]
                  have b5 : (1 : Int) ≤ i := by omega
                  have b6 : (i : Int) - 1 < p.es.length := by omega
                  have b7 : i ≠ 0 := by omega
                  by_cases b4 : x.id ≤ y.id
                  · simp -dsimp [b1, b2, b3, b4, b5, b6, eds_get hy, Ed.cs, wrap_i64 (n := (i : Int) - 1) (by omega) (by omega)]
                    refine ⟨?_, ⟨by kernel_rfl⟩⟩
                    refine Fin.of ?_
                    simp
                    exact planB_ed hi (by simp [edB, gx, gy, b1, b2, b7] <;> omega)
                  · simp -dsimp [b1, b2, b3, b4, b5, b6, eds_get hy, Ed.cs, wrap_i64 (n := (i : Int) - 1) (by omega) (by omega), wrap_i64 (n := (i : Int) + 1) (by omega) (by omega)]
                    and_intros
                    all_goals try first | omega | exact ⟨by kernel_rfl⟩
                    exact ⟨⟨i + 1, by omega, fun a ha => by
                      by_cases e : a = i
                      · subst e; simp [edB, gx, gy, b1, b2] <;> omega
                      · exact i2 a (by omega)⟩, GS.to (by simp [List.take_add_one, hx]), by simp; omega⟩
                · obtain rfl : i = 0 := by omega
                  simp -dsimp [b1, b2, wrap_i64 (n := 1) (by omega) (by omega)]
                  and_intros
                  all_goals try first | omega | exact ⟨by kernel_rfl⟩
                  exact ⟨⟨1, by omega, fun a ha => by
                    obtain rfl : a = 0 := by omega
                    simp [edB, gx, b1, b2]⟩, GS.to (by simp [List.take_add_one, hx]), by simp; omega⟩
          · obtain rfl : i = p.es.length := by omega
            simp -dsimp [hi]
            refine ACall.of (repeats_c (p.es.map (·.r)) (by simp; omega)) [] 0 ?_
            simp -dsimp [ints, List.map_map, Function.comp_def]
            refine Fin.of ?_
            simp [planB_rep hb i2]
      · have a7 : (24 : Int) < p.es.length := by omega
        simp -dsimp [a1, a2, a7]
        refine Fin.of ?_
        simp
        exact planB_base (by simp [baseB, a1, a2, a6])
def plSet (id len : Int) : Int := if validLen len && inB id 1 256 then (id - 1) / len else 0
def plBit (id len : Int) : Int := if validLen len && inB id 1 256 then (id - 1) % len else 0
theorem plB (id len : Int) : 0 ≤ plSet id len ∧ plSet id len ≤ 255 ∧ 0 ≤ plBit id len ∧ plBit id len < 64 := by
  unfold plSet plBit
  split
  · rename_i h
    simp [validLen, inB] at h
    obtain ⟨((h | h) | h) | h, h1, h2⟩ := h <;> subst h <;> omega
  · omega
def placeT (id len : Int) : TV := .tup [.d (.int .i64 (plSet id len)), .d (.int .i64 (plBit id len)), .d (.bool (validLen len && inB id 1 256))]
theorem place10_c2 (id len : Int) : Contract Try.prog 62 [.d (.int .i64 id), .d (.int .i64 len)] [] (placeT id len) [] [] := by
  refine contract_of Try.func62 rfl (fun E0 => ?_)
  refine awp.sound (g := .mk) (ow := []) (kp := (fun k => k == 0 || k == 1 || k == 4 || k == 5 || k == 6 || k == 14)) ?_
  rw [Try.ntmps62]
  simp -dsimp
  refine ACall.of (validLength_c2 len) [] 0 ?_
  rcases (Bool.eq_false_or_eq_true (validLen len)).symm with a1 | a1
  · simp -dsimp [a1]
    refine Fin.of ?_
    simp [placeT, plSet, plBit, a1]
  · have hl : len = 8 ∨ len = 16 ∨ len = 32 ∨ len = 64 := by simp [validLen] at a1; omega
    simp -dsimp [a1]
    refine ACall.of (in10_c id 1 256) [] 0 ?_
    rcases (Bool.eq_false_or_eq_true (inB id 1 256)).symm with a2 | a2
    · simp -dsimp [a1, a2]
      refine Fin.of ?_
      simp [placeT, plSet, plBit, a1, a2]
    · have hi : 1 ≤ id ∧ id ≤ 256 := by simpa [inB] using a2
      have e1 : (id - 1).tdiv len = (id - 1) / len := Int.tdiv_eq_ediv_of_nonneg (by omega)
      have e2 : (id - 1).tmod len = (id - 1) % len := Int.tmod_eq_emod_of_nonneg (by omega)
      have d1 : 0 ≤ (id - 1) / len ∧ (id - 1) / len ≤ 255 := by rcases hl with rfl | rfl | rfl | rfl <;> omega
      simp -dsimp [a1, a2, e1, e2, wrap_i64 (n := id - 1) (by omega) (by omega), wrap_i64 (n := (id - 1) / len) (by omega) (by omega)]
      refine ⟨by omega, ?_, ⟨by kernel_rfl⟩⟩
      refine Fin.of ?_
      simp [placeT, plSet, plBit, a1, a2]
end Go.Proofs

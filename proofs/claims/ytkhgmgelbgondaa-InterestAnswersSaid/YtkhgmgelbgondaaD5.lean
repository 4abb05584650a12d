/-
  What functions of the program compute, stated as contracts over plain data; the conditions of each stand in its own statement.
-/
import Derived.Test.YtkhgmgelbgondaaD4
set_option linter.unusedSimpArgs false
set_option maxRecDepth 100000
set_option maxHeartbeats 8000000
namespace Go.Proofs
open Go Go.Tr

def idxR {α : Type} (q : α → Bool) (l : List α) : Int := match l.findIdx? q with | some i => i | none => -1
theorem idx_at {α : Type} {q : α → Bool} {l : List α} {i : Nat} {x : α} (hx : l[i]? = some x) (hq : q x = true) (h : ∀ a, a < i → ∀ y, l[a]? = some y → q y = false) : idxR q l = i := by
  unfold idxR
  obtain ⟨hi, rfl⟩ := List.getElem?_eq_some_iff.1 hx
  have : l.findIdx? q = some i := by
    rw [List.findIdx?_eq_some_iff_getElem]
    exact ⟨hi, hq, fun j hj => by have := h j hj _ (List.getElem?_eq_getElem (by omega)); simp [this]⟩
  rw [this]
theorem idx_no {α : Type} {q : α → Bool} {l : List α} (h : ∀ a, a < l.length → ∀ y, l[a]? = some y → q y = false) : idxR q l = -1 := by
  unfold idxR
  have : l.findIdx? q = none := by
    rw [List.findIdx?_eq_none_iff]
    intro x hx
    obtain ⟨i, hi⟩ := List.getElem?_of_mem hx
    exact h i (List.getElem?_eq_some_iff.1 hi).1 x hi
  rw [this]
theorem idx_any {α : Type} (q : α → Bool) (l : List α) : decide (0 ≤ idxR q l) = l.any q := by
  unfold idxR
  cases h : l.findIdx? q with
  | none =>
    have := List.findIdx?_eq_none_iff.1 h
    simp
    intro x hx
    exact this x hx
  | some i =>
    have := List.findIdx?_eq_some_iff_getElem.1 h
    obtain ⟨hi, h1, _⟩ := this
    simp
    exact ⟨_, List.getElem_mem hi, h1⟩

def wnT (w : Wnt) : TV := .agg [.d (.int .i64 w.g), .d (.int .i64 w.f.m), .d (ints w.f.s)]
theorem indexW_c (l : List Wnt) (hl : l.length ≤ 1000000) (f : FuncId) (ds : List D) (q : Wnt → Bool) (hf : ∀ x, x ∈ l → Contract Try.prog f [wnT x, .ptr (.x 0) 0] [.box (ds.map .d)] (.d (.bool (q x))) [.box (ds.map .d)] []) (hok : fnOK Try.prog f = true) :
    Contract Try.prog 78 [.d (.sl (l.map wntC)), .clo f [.ptr (.x 0) 0]] [.box (ds.map .d)] (.d (.int .i64 (idxR q l))) [.box (ds.map .d)] [] := by
  refine contract_of Try.func78 rfl (fun E0 => ?_)
  refine awp.sound (g := .mk) (ow := []) (kp := (fun k => k == 0 || k == 1 || k == 4 || k == 5 || k == 7 || k == 8 || k == 9 || k == 16)) ?_
  rw [Try.ntmps78]
  simp -dsimp
  refine ALoop.of [] (fun k => k == 0 || k == 1 || k == 4 || k == 5 || k == 7 || k == 8 || k == 9 || k == 16) (ι := { i : Nat // i ≤ l.length ∧ ∀ a, a < i → ∀ x, l[a]? = some x → q x = false })
    (fun z => [(Pl.s 0, It.v (TV.d (D.sl (l.map wntC)))), (Pl.s 1, It.v (TV.clo f [TV.ptr (Pl.x 0) 0])), (Pl.x 0, It.box (List.map TV.d ds)), (Pl.s 4, It.v (TV.d (D.int IntKind.i64 0))), (Pl.s 7, It.v (TV.d (D.int IntKind.i64 l.length))), (Pl.s 8, It.v (TV.d (D.int IntKind.i64 z.1)))]) (fun z => l.length - z.1) ⟨0, by omega, fun a h => by omega⟩ ?_ ?_
  · exact GS.to (by simp)
  · rintro ⟨i, i1, i2⟩
    by_cases hi : i < l.length
    · have hiz : (i : Int) < l.length := by omega
      have hx : l[i]? = some l[i] := List.getElem?_eq_getElem hi
      have hm : l[i] ∈ l := List.getElem_mem hi
      generalize l[i] = x at hx hm
      simp -dsimp [hiz, hx, wntC, wrap_i64 (n := (i : Int) + 1) (by omega) (by omega)]
      and_intros
      all_goals try first | rfl | omega | exact ⟨by kernel_rfl⟩
      refine ACall.of (hf x hm) [.x 0] 0 ?_
      rcases (Bool.eq_false_or_eq_true (q x)).symm with h | h
      · simp -dsimp [h, hok, wnT, wrap_i64 (n := (i : Int) + 1) (by omega) (by omega)]
        and_intros
        all_goals try first | rfl | omega | exact ⟨by kernel_rfl⟩
        exact ⟨⟨i + 1, by omega, fun a ha y hy => by
          by_cases e : a = i
          · subst e; rw [hx] at hy; simp only [Option.some.injEq] at hy; subst hy; exact h
          · exact i2 a (by omega) y hy⟩, GS.to (by simp), by simp; omega⟩
      · simp -dsimp [h, hok, wnT]
        and_intros
        all_goals try first | rfl | omega | exact ⟨by kernel_rfl⟩
        refine Fin.of ?_
        simp [idx_at hx h i2]
    · simp -dsimp [hi]
      refine Fin.of ?_
      simp
      exact (idx_no fun a ha => i2 a (by omega)).symm
theorem containsW_c (l : List Wnt) (hl : l.length ≤ 1000000) (f : FuncId) (ds : List D) (q : Wnt → Bool) (hf : ∀ x, x ∈ l → Contract Try.prog f [wnT x, .ptr (.x 0) 0] [.box (ds.map .d)] (.d (.bool (q x))) [.box (ds.map .d)] []) (hok : fnOK Try.prog f = true) :
    Contract Try.prog 45 [.d (.sl (l.map wntC)), .clo f [.ptr (.x 0) 0]] [.box (ds.map .d)] (.d (.bool (l.any q))) [.box (ds.map .d)] [] := by
  refine contract_of Try.func45 rfl (fun E0 => ?_)
  refine awp.sound (g := .mk) (ow := []) (kp := (fun k => k == 0 || k == 1 || k == 4)) ?_
  rw [Try.ntmps45]
  simp -dsimp
  refine ACall.of (indexW_c l hl f ds q hf hok) [.x 0] 0 ?_
  simp -dsimp
  refine Fin.of ?_
  simp [idx_any]
instance : DecidableEq Flt := fun a b => decidable_of_iff (a.m = b.m ∧ a.s = b.s) (by cases a; cases b; simp)
instance : DecidableEq Wnt := fun a b => decidable_of_iff (a.g = b.g ∧ a.f = b.f) (by cases a; cases b; simp)
structure Flw where
  s : Int
  g : Int
def flwC (f : Flw) : List D := [.int .i64 f.s, .int .i64 f.g]
def flwT (f : Flw) : TV := .agg [.d (.int .i64 f.s), .d (.int .i64 f.g)]
theorem iwants1_c (f : Flw) (x : Wnt) (hx : x.f.s.length ≤ 1000000) : Contract Try.prog 46 [wnT x, .ptr (.x 0) 0] [.box ((flwC f).map .d)] (.d (.bool (decide (x.g = f.g) && wntV x.f f.s))) [.box ((flwC f).map .d)] [] := by
  refine contract_of Try.func46 rfl (fun E0 => ?_)
  refine awp.sound (g := .mk) (ow := []) (kp := (fun k => k == 0 || k == 1 || k == 2 || k == 3)) ?_
  rw [Try.ntmps46]
  have hw := fwants_c x.f hx f.s
  simp only [fltT] at hw
  by_cases h : x.g = f.g
  · simp -dsimp [wnT, flwC, eq_true h]
    refine ACall.of hw [] 0 ?_
    simp -dsimp [h]
    and_intros
    all_goals try first | rfl | omega | exact ⟨by kernel_rfl⟩
    refine Fin.of ?_
    simp [h, flwC]
  · simp -dsimp [wnT, flwC, h]
    and_intros
    all_goals try first | rfl | omega | exact ⟨by kernel_rfl⟩
    refine Fin.of ?_
    simp [h, flwC]
def wantsV (l : List Wnt) (f : Flw) : Bool := decide (vldW l false = 0) && l.any fun x => decide (x.g = f.g) && wntV x.f f.s
theorem ivalidate_cL (l : List Wnt) (hl : l.length ≤ 1000000) (hf : ∀ x ∈ l, x.f.s.length ≤ 9223372036854775807) : Contract Try.prog 10 [.d (wntD l)] [] (.d (.int .i64 (vldW l false))) [] [] := by
  refine contract_of Try.func10 rfl (fun E0 => ?_)
  refine awp.sound (g := .mk) (ow := []) (kp := (fun k => k == 0 || k == 2)) ?_
  rw [Try.ntmps10]
  simp -dsimp
  refine ACall.of (icheck_cL l false hl hf) [] 0 ?_
  simp -dsimp
  refine Fin.of ?_
  simp
theorem ivalidate_c (l : List Wnt) (hl : l.length ≤ 1000000) (hf : ∀ x ∈ l, x.f.s.length ≤ 1000000) : Contract Try.prog 10 [.d (wntD l)] [] (.d (.int .i64 (vldW l false))) [] [] := ivalidate_cL l hl (fun x hx => Nat.le_trans (hf x hx) (by decide))
theorem iwants_cL (l : List Wnt) (hl : l.length ≤ 1000000) (hf : ∀ x ∈ l, x.f.s.length ≤ 9223372036854775807) (f : Flw) : Contract Try.prog 13 [.d (wntD l), flwT f] [] (.d (.bool (wantsV l f))) [] [] := by
  refine contract_of Try.func13 rfl (fun E0 => ?_)
  refine awp.sound (g := .mk) (ow := []) (kp := (fun k => k == 0 || k == 1 || k == 3 || k == 4)) ?_
  rw [Try.ntmps13]
  have hv := ivalidate_cL l hl hf
  simp -dsimp [flwT]
  refine ACall.of hv [] 0 ?_
  by_cases h : vldW l false = 0
  · have hc := containsW_c l hl 46 (flwC f) (fun x => decide (x.g = f.g) && wntV x.f f.s) (fun x hx => iwants1_c f x (by have := ok_len ((vldW_zero h).2.2.1 x hx); omega)) (by simp)
    simp only [flwC, List.map] at hc
    simp -dsimp [h, wntD]
    refine ACall.of hc [.o 3] 0 ?_
    simp -dsimp [h]
    and_intros
    all_goals try first | rfl | omega | exact ⟨by kernel_rfl⟩
    refine Fin.of ?_
    simp [wantsV, h]
  · simp -dsimp [h]
    and_intros
    all_goals try first | rfl | omega | exact ⟨by kernel_rfl⟩
    refine Fin.of ?_
    simp [wantsV, h]
theorem iwants_c (l : List Wnt) (hl : l.length ≤ 1000000) (hf : ∀ x ∈ l, x.f.s.length ≤ 1000000) (f : Flw) : Contract Try.prog 13 [.d (wntD l), flwT f] [] (.d (.bool (wantsV l f))) [] [] := iwants_cL l hl (fun x hx => Nat.le_trans (hf x hx) (by decide)) f
def hostQ (f : Flw) (x : Mem) : Bool := decide (x.g = f.g) && (!decide (x.h = f.s) && wntV x.f f.s)
def hostL (f : Flw) (l : List Mem) : List Int := (l.filter (hostQ f)).map (·.h)
theorem hostL_next {f : Flw} {l : List Mem} {i : Nat} {y : Mem} (h : l[i]? = some y) : hostL f (l.take (i + 1)) = hostL f (l.take i) ++ (if hostQ f y = true then [y.h] else []) := by
  unfold hostL
  rw [List.take_add_one, h, List.filter_append, List.map_append]
  cases hq : hostQ f y <;> simp [hq]
theorem hostL_len (f : Flw) (l : List Mem) (i : Nat) : (hostL f (l.take i)).length ≤ i := by
  unfold hostL
  rw [List.length_map]
  exact Nat.le_trans (List.length_filter_le _ _) (by simp; omega)
def hostsV (m : Mbs) (f : Flw) : List Int := if vldM m = 0 then hostL f m.l else []
theorem ihosts_cL (m : Mbs) (hl : m.l.length ≤ 1000000) (hf : ∀ x ∈ m.l, x.f.s.length ≤ 9223372036854775807) (f : Flw) : Contract Try.prog 15 [mbsT m, flwT f] [] (.d (ints (hostsV m f))) [] [] := by
  have hv := mvalidate_cL m hl hf
  simp only [mbsT] at hv
  refine contract_of Try.func15 rfl (fun E0 => ?_)
  refine awp.sound (g := .mk) (ow := []) (kp := (fun k => k == 0 || k == 1 || k == 2 || k == 3 || k == 4 || k == 5 || k == 7 || k == 10 || k == 12 || k == 13 || k == 14 || k == 15 || k == 36)) ?_
  rw [Try.ntmps15]
  simp -dsimp [mbsT, flwT]
  refine ACall.of hv [] 0 ?_
  by_cases h1 : vldM m = 0
  · simp -dsimp [h1, mems]
    refine ALoop.of [] (fun k => k == 0 || k == 1 || k == 2 || k == 3 || k == 4 || k == 5 || k == 7 || k == 10 || k == 12 || k == 13 || k == 14 || k == 15 || k == 36) (ι := { i : Nat // i ≤ m.l.length })
      (fun z => [(Pl.o 2, It.box [TV.d (D.int IntKind.i64 m.now), TV.d (D.sl (List.map memC m.l))]), (Pl.s 2, It.v (TV.ptr (Pl.o 2) 0)), (Pl.o 3, It.box [TV.d (D.int IntKind.i64 f.s), TV.d (D.int IntKind.i64 f.g)]),
        (Pl.s 3, It.v (TV.ptr (Pl.o 3) 0)), (Pl.s 4, It.v (TV.c (Value.slice none 0 0))),
        (Pl.o 5, It.row 3 1 (dd (nrow .i64 (hostL f (m.l.take z.1)))) false), (Pl.s 5, It.v (TV.oref 5 (hostL f (m.l.take z.1)).length)),
        (Pl.s 12, It.v (TV.d (D.sl (List.map memC m.l)))), (Pl.s 13, It.v (TV.d (D.int IntKind.i64 m.l.length))), (Pl.s 14, It.v (TV.d (D.int IntKind.i64 z.1)))])
      (fun z => m.l.length - z.1) ⟨0, by omega⟩ ?_ ?_
    · exact GS.own' (k := 5) 3 1 (by simp) (by simp) (by simp [nrow, hostL])
    · rintro ⟨i, i1⟩
      have hll := hostL_len f m.l i
      by_cases hi : i < m.l.length
      · have hiz : (i : Int) < m.l.length := by omega
        have hg : m.l[i]? = some m.l[i] := List.getElem?_eq_getElem hi
        have hm : m.l[i] ∈ m.l := List.getElem_mem hi
        generalize m.l[i] = y at hg hm
        have hn := hostL_next (f := f) hg
        have hw := fwants_c y.f (by have := ok_len ((vldM_zero h1).2.2.2.1 y hm); omega) f.s
        simp only [fltT] at hw
        have no : hostQ f y = false → dd (nrow .i64 (hostL f (m.l.take (i + 1)))) = dd (nrow .i64 (hostL f (m.l.take i))) ∧ (hostL f (m.l.take (i + 1))).length = (hostL f (m.l.take i)).length := fun h => by rw [hn, h]; simp
        have yes : hostQ f y = true → dd (nrow .i64 (hostL f (m.l.take (i + 1)))) = dd (nrow .i64 (hostL f (m.l.take i))) ++ [[TV.d (.int .i64 y.h)]] ∧ (hostL f (m.l.take (i + 1))).length = (hostL f (m.l.take i)).length + 1 := fun h => by rw [hn, h]; simp [nrow, dd]
        by_cases b1 : y.g = f.g
        · by_cases b2 : y.h = f.s
          · obtain ⟨n1, n2⟩ := no (by simp [hostQ, b2])
            simp -dsimp [hg, memC, hiz, eq_true b1, eq_true b2, wrap_i64 (n := (i : Int) + 1) (by omega) (by omega)]
            and_intros
            all_goals try first | rfl | omega | exact ⟨by kernel_rfl⟩
            exact ⟨⟨i + 1, by omega⟩, GS.to (by simp [n1, n2]), by simp; omega⟩
          · simp -dsimp [hg, memC, hiz, eq_true b1, b2]
            refine ACall.of hw [] 0 ?_
            rcases (Bool.eq_false_or_eq_true (wntV y.f f.s)).symm with b3 | b3
            · obtain ⟨n1, n2⟩ := no (by simp [hostQ, b3])
              simp -dsimp [b3, wrap_i64 (n := (i : Int) + 1) (by omega) (by omega)]
              and_intros
              all_goals try first | rfl | omega | exact ⟨by kernel_rfl⟩
              exact ⟨⟨i + 1, by omega⟩, GS.to (by simp [n1, n2]), by simp; omega⟩
            · obtain ⟨n1, n2⟩ := yes (by simp [hostQ, b1, b2, b3])
              simp -dsimp [b3, wrap_i64 (n := (i : Int) + 1) (by omega) (by omega)]
              and_intros
              all_goals try first | rfl | omega | exact ⟨by kernel_rfl⟩
              exact ⟨⟨i + 1, by omega⟩, GS.to (by simp [n1, n2]), by simp; omega⟩
        · obtain ⟨n1, n2⟩ := no (by simp [hostQ, b1])
          simp -dsimp [hg, memC, hiz, b1, wrap_i64 (n := (i : Int) + 1) (by omega) (by omega)]
          and_intros
          all_goals try first | rfl | omega | exact ⟨by kernel_rfl⟩
          exact ⟨⟨i + 1, by omega⟩, GS.to (by simp [n1, n2]), by simp; omega⟩
      · have hiz : ¬ (i : Int) < m.l.length := by omega
        obtain rfl : i = m.l.length := by omega
        simp -dsimp [hiz]
        refine Fin.view 4 ?_
        simp -dsimp
        refine Fin.of ?_
        simp [hostsV, h1, ints, nrow]
  · simp -dsimp [h1]
    and_intros
    all_goals try first | rfl | omega | exact ⟨by kernel_rfl⟩
    refine Fin.view 4 ?_
    simp -dsimp
    refine Fin.of ?_
    simp [hostsV, h1, ints]
theorem ihosts_c (m : Mbs) (hl : m.l.length ≤ 1000000) (hf : ∀ x ∈ m.l, x.f.s.length ≤ 1000000) (f : Flw) : Contract Try.prog 15 [mbsT m, flwT f] [] (.d (ints (hostsV m f))) [] [] := ihosts_cL m hl (fun x hx => Nat.le_trans (hf x hx) (by decide)) f
def samW (a b : List Wnt) : Bool := decide (a = b)
theorem r24same_cL (a b : List Wnt) (hl : a.length ≤ 1000000) (hf : ∀ x ∈ a, x.f.s.length ≤ 9223372036854775807) : Contract Try.prog 26 [.d (wntD a), .d (wntD b)] [] (.d (.bool (decide (a = b)))) [] [] := by
  refine contract_of Try.func26 rfl (fun E0 => ?_)
  refine awp.sound (g := .mk) (ow := []) (kp := (fun k => k == 0 || k == 1 || k == 4 || k == 5 || k == 10 || k == 14 || k == 41)) ?_
  rw [Try.ntmps26]
  by_cases hlen : a.length = b.length
  · have hlz : (a.length : Int) = b.length := by omega
    simp -dsimp [wntD, hlz, hlen]
    refine ALoop.of [] (fun k => k == 0 || k == 1 || k == 4 || k == 5 || k == 10 || k == 14 || k == 41) (ι := { i : Nat // i ≤ a.length ∧ ∀ j, j < i → a[j]? = b[j]? })
      (fun z => [(Pl.s 0, It.v (TV.d (D.sl (List.map wntC a)))), (Pl.s 1, It.v (TV.d (D.sl (List.map wntC b)))),
        (Pl.s 4, It.v (TV.d (D.bool false))), (Pl.s 5, It.v (TV.d (D.int IntKind.i64 z.1)))])
      (fun z => a.length - z.1) ⟨0, by omega, fun a h => by omega⟩ ?_ ?_
    · exact GS.to (by simp)
    · rintro ⟨i, i1, i2⟩
      by_cases hi : i < a.length
      · have hiz : (i : Int) < b.length := by omega
        have hiz' : (i : Int) < a.length := by omega
        have hg : a[i]? = some a[i] := List.getElem?_eq_getElem hi
        have hg' : b[i]? = some b[i] := List.getElem?_eq_getElem (by omega)
        have hm : a[i] ∈ a := List.getElem_mem hi
        generalize a[i] = x at hg hm
        generalize b[i] = y at hg'
        have ne : x ≠ y → ¬ a = b := fun h e => by subst e; rw [hg] at hg'; exact h (by simpa using hg')
        have hs := rsame_cL x.f y.f (hf x hm)
        simp only [fltT] at hs
        by_cases b1 : x.g = y.g
        · simp -dsimp [hg, hg', wntC, hiz, hiz', eq_true b1]
          refine ACall.of hs [] 0 ?_
          by_cases b2 : x.f.m = y.f.m ∧ x.f.s = y.f.s
          · simp -dsimp [b2, wrap_i64 (n := (i : Int) + 1) (by omega) (by omega)]
            and_intros
            all_goals try first | rfl | omega | exact ⟨by kernel_rfl⟩
            exact ⟨⟨i + 1, by omega, fun j hj => by
              by_cases e : j = i
              · subst e
                rw [hg, hg']
                obtain ⟨xg, xm, xs⟩ := x
                obtain ⟨yg, ym, ys⟩ := y
                simp only at b1 b2
                rw [b1, b2.1, b2.2]
              · exact i2 j (by omega)⟩, GS.to (by simp), by simp; omega⟩
          · have b2' : (decide (x.f.m = y.f.m) && decide (x.f.s = y.f.s)) = false := by simpa using b2
            simp -dsimp [b2']
            and_intros
            all_goals try first | rfl | omega | exact ⟨by kernel_rfl⟩
            refine Fin.of ?_
            simp [ne (fun e => b2 (by rw [e]; simp))]
        · simp -dsimp [hg, hg', wntC, hiz, hiz', b1]
          and_intros
          all_goals try first | rfl | omega | exact ⟨by kernel_rfl⟩
          refine Fin.of ?_
          simp [ne (fun e => b1 (by rw [e]))]
      · have hiz : ¬ (i : Int) < b.length := by omega
        have hiz' : ¬ (i : Int) < a.length := by omega
        simp -dsimp [hiz, hiz']
        refine Fin.of ?_
        have : a = b := List.ext_getElem? fun j => by
          by_cases hj : j < i
          · exact i2 j hj
          · rw [List.getElem?_eq_none (by omega), List.getElem?_eq_none (by omega)]
        simp [this]
  · have hlz : ¬ (a.length : Int) = b.length := by omega
    simp -dsimp [wntD, hlz, hlen]
    refine Fin.of ?_
    have : ¬ a = b := fun e => hlen (by rw [e])
    simp [this]
theorem r24same_c (a b : List Wnt) (hl : a.length ≤ 1000000) (hf : ∀ x ∈ a, x.f.s.length ≤ 1000000) : Contract Try.prog 26 [.d (wntD a), .d (wntD b)] [] (.d (.bool (decide (a = b)))) [] [] := r24same_cL a b hl (fun x hx => Nat.le_trans (hf x hx) (by decide))
end Go.Proofs

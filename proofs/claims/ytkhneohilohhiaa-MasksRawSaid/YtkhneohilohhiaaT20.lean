/-
  Laws of the layer between the model and plain data (states, operations, calls, loops); none has a condition beyond those that stand in its own statement.
-/
import Derived.Test.YtkhneohilohhiaaT19
set_option linter.unusedSimpArgs false
namespace Go.Tr
open Go

def entL : List TV → Nat → List (Pl × It)
  | [], _ => []
  | a :: l, k => (.s k, .v a) :: entL l (k + 1)

def xL : List It → Nat → List (Pl × It)
  | [], _ => []
  | i :: l, k => (.x k, i) :: xL l (k + 1)

def oL (ro : List (Nat × It)) : List (Pl × It) := ro.map fun x => (.o x.1, x.2)

theorem look_app_none {l m : List (Pl × It)} {p : Pl} (h : ∀ x ∈ l, x.1 ≠ p) : look (l ++ m) p = look m p := by
  induction l with
  | nil => rfl
  | cons x l ih =>
    obtain ⟨q, i⟩ := x
    simp only [List.cons_append, look]
    rw [if_neg (fun e => h (q, i) (by simp) e.symm)]
    exact ih fun x hx => h x (by simp [hx])

theorem entL_s {k : Nat} : ∀ {l : List TV} {n : Nat} {m : List (Pl × It)}, look (entL l n ++ m) (.s k) = if n ≤ k ∧ k < n + l.length then (match l[k - n]? with | some a => .v a | none => .none) else look m (.s k)
  | [], n, m => by simp [entL]; intros; omega
  | a :: l, n, m => by
    simp only [entL, List.cons_append, look, Pl.s.injEq]
    by_cases e : k = n
    · subst e; simp
    · rw [if_neg e, entL_s (l := l) (n := n + 1)]
      by_cases h : n + 1 ≤ k ∧ k < n + 1 + l.length
      · rw [if_pos h, if_pos ⟨by omega, by simp; omega⟩, show k - n = (k - (n + 1)) + 1 by omega]
        simp
      · rw [if_neg h, if_neg (by simp; omega)]

theorem entL_other {l : List TV} {n : Nat} {m : List (Pl × It)} {p : Pl} (h : ∀ k, p ≠ .s k) : look (entL l n ++ m) p = look m p := by
  refine look_app_none ?_
  induction l generalizing n with
  | nil => simp [entL]
  | cons a l ih =>
    intro x hx
    simp only [entL, List.mem_cons] at hx
    rcases hx with rfl | hx
    · exact fun e => h _ e.symm
    · exact ih x hx

theorem xL_x {i : Nat} : ∀ {l : List It} {n : Nat} {m : List (Pl × It)}, look (xL l n ++ m) (.x i) = if n ≤ i ∧ i < n + l.length then l.getD (i - n) .none else look m (.x i)
  | [], n, m => by simp [xL]; intros; omega
  | a :: l, n, m => by
    simp only [xL, List.cons_append, look, Pl.x.injEq]
    by_cases e : i = n
    · subst e; simp
    · rw [if_neg e, xL_x (l := l) (n := n + 1)]
      by_cases h : n + 1 ≤ i ∧ i < n + 1 + l.length
      · rw [if_pos h, if_pos ⟨by omega, by simp; omega⟩, show i - n = (i - (n + 1)) + 1 by omega]
        simp
      · rw [if_neg h, if_neg (by simp; omega)]

theorem xL_other {l : List It} {n : Nat} {m : List (Pl × It)} {p : Pl} (h : ∀ k, p ≠ .x k) : look (xL l n ++ m) p = look m p := by
  refine look_app_none ?_
  induction l generalizing n with
  | nil => simp [xL]
  | cons a l ih =>
    intro x hx
    simp only [xL, List.mem_cons] at hx
    rcases hx with rfl | hx
    · exact fun e => h _ e.symm
    · exact ih x hx

theorem oL_o {k : Nat} : ∀ {ro : List (Nat × It)}, look (oL ro) (.o k) = lookI ro k
  | [] => rfl
  | (j, i) :: ro => by
    have ih := oL_o (k := k) (ro := ro)
    simp only [oL] at ih
    simp only [oL, List.map_cons, look, Pl.o.injEq, lookI, ih]

theorem oL_other {ro : List (Nat × It)} {p : Pl} (h : ∀ k, p ≠ .o k) : look (oL ro) p = .none := by
  have := look_app_none (l := oL ro) (m := []) (p := p) (fun x hx => by
    simp only [oL, List.mem_map] at hx
    obtain ⟨y, _, rfl⟩ := hx
    exact fun e => h _ e.symm)
  simpa [look] using this

theorem HInv.congr {E : En} {H H' : S} (h : HInv E H) (he : ∀ p, (∀ k, p ≠ .s k) → H' p = H p) : HInv E H' :=
  ⟨fun p hp => by rw [he p hp]; exact h.item p hp, h.frees, h.inj, h.size, h.stsz, fun b o h1 p h2 => by
    obtain ⟨e, k, es, h3, h4⟩ := h.sep b o h1 p h2
    refine ⟨e, k, es, ?_, h4⟩
    rw [he p ?_]
    · exact h3
    · rintro k rfl
      simp [En.own, h.frees k] at h2⟩

/-! ### the end of an activation -/
def resV (P : Program) (t : S) : ResultVar → Option (Prop × TV)
  | .tmp k => match t (.s k) with
    | .v x => some (True, x)
    | _ => none
  | .cell k ty => match ev t (.tmp k) with
    | .ptr p q => match t p with
      | .box cs => cellsOf P ty cs q
      | _ => none
    | _ => none

def resVs (P : Program) (t : S) : List ResultVar → Option (Prop × List TV)
  | [] => some (True, [])
  | x :: l => match resV P t x, resVs P t l with
    | some (C, v), some (C', vs) => some (C ∧ C', v :: vs)
    | _, _ => none

def resT (P : Program) (t : S) (l : List ResultVar) : Option (Prop × TV) :=
  match resVs P t l with
  | some (C, [v]) => some (C, v)
  | some (C, vs) => some (C, .tup vs)
  | none => none

def Fin (P : Program) (A : Actv) (fn : Func) (r : TV) (xs : List It) (ro : List (Nat × It)) (t : S) : Prop :=
  ∀ a w, Inv A t a w → ∃ u E', (results fn a.tmps).run P w = .ok u w ∧ E'.w = w ∧ Post A.E0 xs ro r u E'

def fin (P : Program) (A : Actv) (fn : Func) (r : TV) (xs : List It) (ro : List (Nat × It)) : Exit → S → Prop
  | .normal, t => Fin P A fn r xs ro t
  | .ret, t => Fin P A fn r xs ro t
  | _, _ => False

section
variable {P : Program} {A : Actv}

theorem Fin.ghost {fn : Func} {r : TV} {xs : List It} {ro : List (Nat × It)} {t t' : S} (h : Fin P A fn r xs ro t') (g : GS A t t') : Fin P A fn r xs ro t := fun a w hi => h a w (g a w hi)

def resR (a : Act) : ResultVar → Sem Value
  | .tmp t => Pure.pure (a.tmps.getD t undef)
  | .cell b t => do loadVar t (← asAddr (a.tmps.getD b undef))

theorem results_eq (fn : Func) (a : Act) : results fn a.tmps = (do
    let vs ← fn.results.mapM (resR a)
    pure (if h : vs.size = 1 then vs[0] else .tuple vs)) := rfl

theorem resV_run {t : S} {a : Act} {E : En} (hi : InvE A t a E) {x : ResultVar} {C : Prop} {v : TV} (h : resV P t x = some (C, v)) (hC : C) :
    ∃ u, (resR a x).run P E.w = .ok u E.w ∧ RelV E v u := by
  unfold resR
  cases x with
  | tmp k =>
    simp only [resV] at h
    split at h
    · rename_i tv ht
      simp only [Option.some.injEq, Prod.mk.injEq] at h
      obtain ⟨_, rfl⟩ := h
      obtain ⟨u, h1, h2⟩ := hi.sl k tv ht
      exact ⟨u, by simp [Array.getD_eq_getD_getElem?, h1], h2⟩
    · simp at h
  | cell k ty =>
    simp only [resV] at h
    have hr := ev_rel hi (.tmp k)
    split at h
    · rename_i p q hp
      split at h
      · rename_i cs ht
        rw [hp] at hr
        obtain ⟨b, ty', us, hu, hb, hh, hs, hc⟩ := box_cur hi ht hr
        have hu' : a.tmps.getD k undef = .pointer (some ⟨b, q, none⟩) := hu
        unfold cellsOf at h
        split at h
        · rename_i hsh
          split at h
          · rename_i tv hv
            simp only [Option.some.injEq, Prod.mk.injEq] at h
            obtain ⟨_, rfl⟩ := h
            obtain ⟨u, h1, _, h2⟩ := hc.get hv
            have hcell : E.w.cell? ⟨b, q, none⟩ = some u := by rw [cell_heap hh]; simpa using h1
            exact ⟨u, by simp only [hu', asAddr, Sem.run_bind, Sem.run_pure, Result.andThen_ok, run_load_one hsh hcell], h2⟩
          · simp at h
        · rename_i hsh
          split at h
          · rename_i z hz
            simp only [Option.some.injEq, Prod.mk.injEq] at h
            obtain ⟨rfl, rfl⟩ := h
            have hc' := (hc.sub q z).vals
            simp only [Nat.zero_add] at hc'
            have hl : ((cs.drop q).take z).length = z := by simp; omega
            rw [hl] at hc'
            have := run_load_agg (P := P) hsh hz hc'.2 (w := E.w) (rangeAt_list (b := b) (fun j u hj => by rw [cell_heap hh]; simpa using hj) q z)
            exact ⟨.agg ((us.toList.drop q).take z).toArray, by simp only [hu', asAddr, Sem.run_bind, Sem.run_pure, Result.andThen_ok, this], by simp only [RelV]; exact ⟨_, rfl, hc'.1⟩⟩
          · simp at h
        · simp at h
      · simp at h
    · simp at h

theorem resVs_run {t : S} {a : Act} {E : En} (hi : InvE A t a E) : ∀ {l : List ResultVar} {C : Prop} {vs : List TV}, resVs P t l = some (C, vs) → C →
    ∃ us, (l.mapM (resR a)).run P E.w = .ok us E.w ∧ RelVs E vs us
  | [], C, vs, h, _ => by
    simp only [resVs, Option.some.injEq, Prod.mk.injEq] at h
    obtain ⟨_, rfl⟩ := h
    exact ⟨[], by simp, by simp only [RelVs]⟩
  | x :: l, C, vs, h, hC => by
    simp only [resVs] at h
    split at h
    · rename_i C1 v C2 vs' h1 h2
      simp only [Option.some.injEq, Prod.mk.injEq] at h
      obtain ⟨rfl, rfl⟩ := h
      obtain ⟨u, g1, g2⟩ := resV_run hi h1 hC.1
      obtain ⟨us, g3, g4⟩ := resVs_run hi h2 hC.2
      refine ⟨u :: us, ?_, by simp only [RelVs]; exact ⟨u, us, rfl, g2, g4⟩⟩
      rw [List.mapM_cons, Sem.run_bind, g1]
      simp only [Result.andThen_ok, Sem.run_bind, g3, Sem.run_pure]
    · simp at h

/-- The end: the result, the outer objects, the new objects. -/
theorem Fin.done {fn : Func} {r : TV} {xs : List It} {ro : List (Nat × It)} {l : List (Pl × It)} {C : Prop} (hres : resT P (look l) fn.results.toList = some (C, r)) (hC : C) (hr : r.only (· ∈ oIds (oL ro)))
    (hs : Sub (look l) (xL xs 0 ++ oL ro)) (hx : xIds (xL xs 0 ++ oL ro) = xIds l) (ho : oIds (xL xs 0 ++ oL ro) = oIds (oL ro)) : Fin P A fn r xs ro (look l) := fun a w ⟨E, hw, hi⟩ => by
  subst hw
  have hi2 := hi.forget hs (x_same hs.1 hx)
  rw [ho] at hi2
  have hH : HInv (E.res (oIds (oL ro))) (rlook xs ro) := hi2.h.congr fun p hp => by
    cases p with
    | s k => exact absurd rfl (hp k)
    | x i =>
      rw [xL_x]
      simp only [rlook, Nat.zero_le, true_and, Nat.zero_add, Nat.sub_zero]
      split
      · rfl
      · rename_i h
        rw [oL_other (fun k e => by simp at e), List.getD, List.getElem?_eq_none (by omega)]; rfl
    | o k => rw [xL_other (fun j e => by simp at e), oL_o]; rfl
  have hrun : ∃ u, (results fn a.tmps).run P E.w = .ok u E.w ∧ RelV E r u := by
    unfold resT at hres
    rw [results_eq]
    have hm : ∀ l : List ResultVar, l.toArray.mapM (resR a) = Functor.map List.toArray (l.mapM (resR a)) := fun l => List.mapM_toArray
    have hfn : fn.results = fn.results.toList.toArray := by simp
    rw [hfn, hm]
    split at hres
    · rename_i C' v hv
      simp only [Option.some.injEq, Prod.mk.injEq] at hres
      obtain ⟨rfl, rfl⟩ := hres
      obtain ⟨us, g1, g2⟩ := resVs_run hi hv hC
      simp only [RelVs] at g2
      obtain ⟨u, _, rfl, g3, rfl⟩ := g2
      refine ⟨u, ?_, g3⟩
      rw [Sem.run_bind, Sem.run_map, g1]
      simp
    · rename_i C' vs hne hv
      simp only [Option.some.injEq, Prod.mk.injEq] at hres
      obtain ⟨rfl, rfl⟩ := hres
      obtain ⟨us, g1, g2⟩ := resVs_run hi hv hC
      refine ⟨.tuple us.toArray, ?_, by simp only [RelV]; exact ⟨us.toArray, rfl, by simpa using g2⟩⟩
      have hl := g2.length
      have hl1 : vs.length ≠ 1 := fun h => by
        match vs, h with
        | [v], _ => exact hne _ rfl
      rw [Sem.run_bind, Sem.run_map, g1]
      have : ¬ (us.length = 1) := by omega
      simp [this]
    · simp at hres
  obtain ⟨u, h1, h2⟩ := hrun
  exact ⟨u, E.res (oIds (oL ro)), h1, rfl, hH, hi2.fr, RelV.ext (En.res_ext E _) _ _ hr h2⟩

/-- A function's contract, from its text. -/
theorem contract_of {f : FuncId} {fn : Func} {c : Code} {args : List TV} {xs : List It} {r : TV} {xs' : List It} {ro : List (Nat × It)} (hf : P.funcs[f]? = some fn) (hb : fn.body = some c)
    (h : ∀ E0, AW P ⟨E0, fn.ntmps⟩ c (fin P ⟨E0, fn.ntmps⟩ fn r xs' ro) (look (entL args 0 ++ xL xs 0))) : Contract P f args xs r xs' ro := fun E us hH hargs => by
  refine calls_of_wp hf hb (Code.wp_mono (fun e a w hq => ?_) (h E { tmps := us.toArray ++ Array.replicate (fn.ntmps - us.toArray.size) undef, defers := [] } E.w ⟨E, rfl, ⟨?_, ?_, ?_, rfl, ?_⟩⟩))
  · obtain ⟨t, hi, hq⟩ := hq
    have key : Fin P ⟨E, fn.ntmps⟩ fn r xs' ro t → a.defers = [] ∧ ∃ v, (results fn a.tmps).run P w = .ok v w ∧ ∃ u E', Ending.returned v = .returned u ∧ E'.w = w ∧ Post E xs' ro r u E' := fun hF => by
      obtain ⟨u, E', h1, h2, h3⟩ := hF a w hi
      obtain ⟨E1, _, hi1⟩ := hi
      exact ⟨hi1.defers, u, h1, u, E', rfl, h2, h3⟩
    cases e <;> first
      | exact hq.elim
      | exact key hq
  · refine hH.congr fun p hp => ?_
    rw [entL_other hp]
    cases p with
    | s k => exact absurd rfl (hp k)
    | x i =>
      have := xL_x (i := i) (l := xs) (n := 0) (m := [])
      rw [List.append_nil] at this
      rw [this]
      simp only [xlook, Nat.zero_le, true_and, Nat.zero_add, Nat.sub_zero]
      split
      · rfl
      · rename_i h
        rw [List.getD, List.getElem?_eq_none (by omega)]; rfl
    | o k =>
      have := xL_other (l := xs) (n := 0) (m := []) (p := .o k) (fun j e => by simp at e)
      rw [List.append_nil] at this
      rw [this]; rfl
  · have hno : ∀ id, E.own (.o id) = none := fun id => by
      have := hH.item (.o id) (by simp)
      obtain ⟨h1, h2⟩ := this id rfl
      simp [En.own, h1, h2]
    exact ⟨rfl, rfl, rfl, Nat.le_refl _, fun _ _ _ => rfl, fun _ => rfl, fun id b hb => by rw [hno] at hb; simp at hb, fun _ _ h => h, fun _ _ h => .inl h⟩
  · intro k tv hk
    rw [entL_s] at hk
    simp only [Nat.zero_le, true_and, Nat.zero_add, Nat.sub_zero] at hk
    have hx : look (xL xs 0) (.s k) = .none := by
      have := xL_other (l := xs) (n := 0) (m := []) (p := .s k) (fun j e => by simp at e)
      rw [List.append_nil] at this
      rw [this]; rfl
    split at hk
    · rename_i hlt
      have hak : args[k]? = some args[k] := List.getElem?_eq_getElem hlt
      rw [hak] at hk
      simp only [It.v.injEq] at hk
      subst hk
      obtain ⟨u, h1, h2⟩ := hargs.get hak
      refine ⟨u, ?_, h2⟩
      have hl : k < us.length := by rw [hargs.length]; exact hlt
      rw [Array.getElem?_append_left (by simpa using hl)]
      simpa using h1
    · rw [hx] at hk; simp at hk
  · simp; omega

end
end Go.Tr

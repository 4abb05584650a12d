/-
  What functions of the program compute, stated as contracts over plain data; the conditions of each stand in its own statement.
-/
import Derived.Test.YtffjbciladpdlaaGreatZN10
set_option linter.unusedSimpArgs false
namespace Go.Tr
open Go
section
variable {P : Program} {A : Actv} {ops : Array Oper}
theorem pass_rows {t : S} {ν : List Pl} : ∀ {v v' : TV}, v.pass t ν = some v' → ∀ id ∈ v.rows, ∃ e k es xs, t (.o id) = .row e k es true ∧ toDss es = some xs := by
 intro v
 exact (TV.rec (motive_1 := fun v => ∀ {v' : TV}, v.pass t ν = some v' → ∀ id ∈ v.rows, ∃ e k es xs, t (.o id) = .row e k es true ∧ toDss es = some xs)
  (motive_2 := fun vs => ∀ {vs' : List TV}, TV.passs t ν vs = some vs' → ∀ id ∈ TV.rowss vs, ∃ e k es xs, t (.o id) = .row e k es true ∧ toDss es = some xs)
  (by intro _ _ id h; simp [TV.rows] at h) (by intro _ _ _ id h; simp [TV.rows] at h) (by intro _ _ _ id h; simp [TV.rows] at h)
  (by
   intro vs ih v' h id hid
   simp only [TV.pass] at h
   split at h
   ·rename_i hv; exact ih hv id (by simpa only [TV.rows] using hid)
   ·simp at h)
  (by intro vs ih v' h; simp [TV.pass] at h)
  (by
   intro i n v' h id hid
   simp only [TV.rows, List.mem_singleton] at hid
   subst hid
   simp only [TV.pass] at h
   split at h
   ·rename_i e k es ht
    split at h
    ·rename_i xs hx; exact ⟨e, k, es, xs, ht, hx⟩
    ·simp at h
   ·simp at h)
  (by intro _ _ _ _ id h; simp [TV.rows] at h) (by intro _ _ _ _ id h; simp [TV.rows] at h) (by intro _ _ _ _ _ h; simp [TV.pass] at h)
  (by
   intro f vs ih v' h id hid
   simp only [TV.pass] at h
   split at h
   ·rename_i hv; exact ih hv id (by simpa only [TV.rows] using hid)
   ·simp at h)
  (by intro _ _ h; simp [TV.pass] at h)
  (by intro _ _ h; simp [TV.pass] at h)
  (by intro _ _ _ _ h; simp [TV.pass] at h)
  (by intro _ _ id h; simp [TV.rowss] at h)
  (by
   intro v vs ih1 ih2 vs' h id hid
   simp only [TV.passs] at h
   split at h
   ·rename_i h1 h2
    simp only [TV.rowss, List.mem_append] at hid
    rcases hid with hid | hid
    ·exact ih1 h1 id hid
    ·exact ih2 h2 id hid
   ·simp at h) v)
theorem passs_rows {t : S} {ν : List Pl} : ∀ {vs vs' : List TV}, TV.passs t ν vs = some vs' → ∀ id ∈ TV.rowss vs, ∃ e k es xs, t (.o id) = .row e k es true ∧ toDss es = some xs
 | [], _, _, id, hid => by simp [TV.rowss] at hid
 | v :: vs, vs', h, id, hid => by
   simp only [TV.passs] at h
   split at h
   ·rename_i h1 h2
    simp only [TV.rowss, List.mem_append] at hid
    rcases hid with hid | hid
    ·exact pass_rows h1 id hid
    ·exact passs_rows h2 id hid
   ·simp at h
theorem HInv.callee {t : S} {a : Act} {E : En} (hi : InvE A t a E) {ν : List Pl} {cxs : List It} (hν : ν.Nodup) (hI : passIs t ν ν = some cxs) (hIC : ∀ p ∈ ν, passCI t (t p))
  (hf : ∀ p ∈ ν, ∀ id ∈ rowsI (t p), ∀ e k es xs, t (.o id) = .row e k es true → toDss es = some xs → ∀ u, RelV E (.oref id es.length) u → Rep E (.sl xs) u) (hνp : ∀ p ∈ ν, isPl p = true) :
  HInv (E.callee ν) (xlook cxs) := by
 obtain ⟨hl0, hIs⟩ := passIs_spec hI
 have hxblk : ∀ {i b'}, (E.callee ν).blk (.x i) = some b' → ∃ p, ν[i]? = some p ∧ E.blk p = some b' ∧ E.own p = some b' := fun {i b'} h => by
  have h : (ν[i]?).bind E.blk = some b' := h
  cases hp : ν[i]? with
  | none => simp [hp] at h
  | some p =>
    simp only [hp, Option.bind_some] at h
    exact ⟨p, rfl, h, by simp [En.own, h]⟩
 have hown : ∀ {p b'}, (E.callee ν).own p = some b' → ∃ i, p = .x i ∧ (E.callee ν).blk (.x i) = some b' := fun {p b'} h => by
  cases p with
  | s k => simp [En.own, En.callee] at h
  | o k => simp [En.own, En.callee] at h
  | x i =>
    refine ⟨i, rfl, ?_⟩
    unfold En.own at h
    split at h
    ·rename_i b2 hb; simp only [Option.some.injEq] at h; subst h; exact hb
    ·simp at h
 refine ⟨fun p hps => ?_, fun k => rfl, fun p q b' h1 h2 => ?_, fun p b' h1 => ?_, fun b' o h => hi.h.stsz b' o h, fun b' o h p hp => ?_, fun y hy => RepCells.ext (E := E) (E' := E.callee ν) ⟨fun _ _ h => h, fun _ _ _ => rfl⟩ _ _ _ (hi.h.gl y hy)⟩
 ·cases p with
  | s k => exact absurd rfl (hps k)
  | o k => exact fun id _ => ⟨rfl, rfl⟩
  | x i =>
    cases hp : ν[i]? with
    | none =>
      have : cxs.length ≤ i := by rw [hl0]; exact List.getElem?_eq_none_iff.1 hp
      simp only [xlook, List.getD, List.getElem?_eq_none this, Option.getD_none]
      exact fun id h => by simp at h
    | some p =>
      obtain ⟨cs, cs', h1, h2, h3⟩ := hIs i p hp
      have hpm := List.mem_of_getElem? hp
      simp only [xlook, List.getD, h3, Option.getD_some]
      have hps' : ∀ k, p ≠ .s k := fun k e => by subst e; have := hνp _ hpm; simp [isPl] at this
      have hit := hi.h.item p hps'
      rw [h1] at hit
      obtain ⟨_, b', ty, us, g1, g2, g3, g4⟩ := hit
      have hfc := hf p hpm
      have hcc := hIC p hpm
      rw [h1] at hfc hcc
      refine ⟨fun id h => by simp at h, b', ty, us, ?_, g2, by rw [g3, passs_one h2], passCells hfc h2 hcc g4⟩
      show (ν[i]?).bind E.blk = some b'
      rw [hp]; exact g1
 ·obtain ⟨i, rfl, g1⟩ := hown h1
  obtain ⟨j, rfl, g2⟩ := hown h2
  obtain ⟨p, k1, _, k2⟩ := hxblk g1
  obtain ⟨q, k3, _, k4⟩ := hxblk g2
  have := hi.h.inj p q b' k2 k4
  subst this
  have hil := (List.getElem?_eq_some_iff.1 k1).1
  have hjl := (List.getElem?_eq_some_iff.1 k3).1
  have : i = j := by
   have e1 := (List.getElem?_eq_some_iff.1 k1).2
   have e2 := (List.getElem?_eq_some_iff.1 k3).2
   exact (List.getElem_inj hν).1 (e1.trans e2.symm)
  rw [this]
 ·obtain ⟨i, rfl, g1⟩ := hown h1
  obtain ⟨p, _, _, k2⟩ := hxblk g1
  exact hi.h.size p b' k2
 ·obtain ⟨i, rfl, g1⟩ := hown hp
  obtain ⟨p, k1, _, k2⟩ := hxblk g1
  obtain ⟨e, k, es, k3, _⟩ := hi.h.sep b' o h p k2
  obtain ⟨cs, _, h1, _⟩ := hIs i p k1
  rw [h1] at k3; simp at k3
def fnOK (P : Program) (f : FuncId) : Bool :=
 match P.funcs[f]? with
 | some fn => fn.body.isSome && !(fn.name == "runtime.NumGoroutine")
 | none => false
theorem run_callFunc {f : FuncId} (h : fnOK P f = true) (args : Array Value) (w : World) : (callFunc f args).run P w = .ok (.enter f args) w := by
 unfold fnOK at h
 cases hf : P.funcs[f]? with
 | none => simp [hf] at h
 | some fn =>
   simp only [hf, Bool.and_eq_true, Bool.not_eq_true'] at h
   have h1 : fn.body.isNone = false := by cases hb : fn.body <;> simp [hb] at h ⊢
   simp only [callFunc, Sem.run_bind, run_program, Result.andThen_ok, hf, h.2, h1, Bool.false_eq_true, if_false, Sem.run_pure]
theorem Sum.call {t : S} {i : Nat} {o : Oper} {gp : List Pl} {fo : Operand} {xs : List Operand} {tys : Array TypeId} {f : FuncId} {caps cargs : List TV} {cxs cxs' : List It} {r : TV} {ro : List (Nat × It)}
  (ho : ops[i]? = some o) (hg : gv ops t o = some (gp, true)) (hd : dstOK A.N o = true) (hop : o.op = .call { callee := .value fo, args := xs.toArray, argTypes := tys }) (hf : ev t fo = .clo f caps) (hfn : fnOK P f = true)
  (C : Contract P f cargs cxs r cxs' ro) (ν : List Pl) (b : Nat) (hν : ν.Nodup) (hνp : ∀ p ∈ ν, isPl p = true) (hp : TV.passs t ν (xs.map (ev t) ++ caps) = some cargs) (hc : TV.passCs t (xs.map (ev t) ++ caps)) (hI : passIs t ν ν = some cxs) (hIC : ∀ p ∈ ν, passCI t (t p))
  (hl : cxs'.length = ν.length) (hbox : ∀ i ∈ cxs', isBox i = true) (hobj : ∀ x ∈ ro, isObj x.2 = true) (hfree : ∀ x ∈ ro, t (.o (b + x.1)) = .none) :
  Sum P A ops i t (gp ++ (pl fo ++ (xs.flatMap pl ++ (ν ++ ((TV.rowss (xs.map (ev t) ++ caps) ++ ν.flatMap (fun p => rowsI (t p))).map .o ++ ro.map fun x => .o (b + x.1))))))
   (dstW o (r.back ν b) (wx ν b ν cxs' ++ wo ν b ro)) := fun t' hr a w ⟨E, hw, hi⟩ K Q hK => by
 subst hw
 have hwant := gv_wanted hg (pl_left hr) hi
 have hr1 := pl_right hr
 have hr2 := pl_right hr1
 have hr3 := pl_right hr2
 have hr4 := pl_right hr3
 have hfo : ev t' fo = .clo f caps := (ev_eq (pl_left hr1)).trans hf
 have hxs : xs.map (ev t') = xs.map (ev t) := evs_eq (pl_left hr2)
 have hνt : ∀ p ∈ ν, t' p = t p := pl_left hr3
 have hrows : ∀ id, id ∈ TV.rowss (xs.map (ev t) ++ caps) ++ ν.flatMap (fun p => rowsI (t p)) → t' (.o id) = t (.o id) := fun id hid =>
  (pl_left hr4) (.o id) (List.mem_map.2 ⟨id, hid, rfl⟩)
 have hnewt : ∀ x ∈ ro, t' (.o (b + x.1)) = .none := fun x hx => ((pl_right hr4) (.o (b + x.1)) (List.mem_map.2 ⟨x, hx, rfl⟩)).trans (hfree x hx)
 have cong : ∀ {v v' : TV}, (∀ id ∈ v.rows, t' (.o id) = t (.o id)) → v.pass t ν = some v' → v.pass t' ν = some v' ∧ (v.passC t → v.passC t') := by
  intro v
  exact (TV.rec (motive_1 := fun v => ∀ {v' : TV}, (∀ id ∈ v.rows, t' (.o id) = t (.o id)) → v.pass t ν = some v' → v.pass t' ν = some v' ∧ (v.passC t → v.passC t'))
   (motive_2 := fun vs => ∀ {vs' : List TV}, (∀ id ∈ TV.rowss vs, t' (.o id) = t (.o id)) → TV.passs t ν vs = some vs' → TV.passs t' ν vs = some vs' ∧ (TV.passCs t vs → TV.passCs t' vs))
   (by intro _ _ h; exact ⟨h, fun h => h⟩) (by intro _ _ _ h; exact ⟨h, fun h => h⟩) (by intro _ _ _ h; exact ⟨h, fun h => h⟩)
   (by
    intro vs ih v' hr h
    simp only [TV.pass] at h ⊢
    split at h
    ·rename_i hv
     obtain ⟨h1, h2⟩ := ih (by simpa only [TV.rows] using hr) hv
     rw [h1]
     exact ⟨h, by simpa only [TV.passC] using h2⟩
    ·simp at h)
   (by intro vs _ v' _ h; simp [TV.pass] at h)
   (by
    intro i n v' hr h
    have := hr i (by simp [TV.rows])
    simp only [TV.pass, TV.passC, this] at h ⊢
    exact ⟨h, fun h => h⟩)
   (by intro _ _ _ _ h; exact ⟨h, fun h => h⟩) (by intro _ _ _ _ h; exact ⟨h, fun h => h⟩) (by intro _ _ _ _ _ _ h; simp [TV.pass] at h)
   (by
    intro f vs ih v' hr h
    simp only [TV.pass] at h ⊢
    split at h
    ·rename_i hv
     obtain ⟨h1, h2⟩ := ih (by simpa only [TV.rows] using hr) hv
     rw [h1]
     exact ⟨h, by simpa only [TV.passC] using h2⟩
    ·simp at h)
   (by intro _ _ _ h; simp [TV.pass] at h)
   (by intro _ _ _ h; simp [TV.pass] at h)
   (by intro _ _ _ _ _ h; simp [TV.pass] at h)
   (by intro _ _ h; exact ⟨h, fun h => h⟩)
   (by
    intro v vs ih1 ih2 vs' hr h
    simp only [TV.passs] at h ⊢
    simp only [TV.rowss, List.mem_append] at hr
    split at h
    ·rename_i g1 g2
     obtain ⟨h1, h2⟩ := ih1 (fun id hid => hr id (.inl hid)) g1
     obtain ⟨h3, h4⟩ := ih2 (fun id hid => hr id (.inr hid)) g2
     rw [h1, h3]
     exact ⟨h, by simp only [TV.passCs]; exact fun h => ⟨h2 h.1, h4 h.2⟩⟩
    ·simp at h) v)
 have congs : ∀ {vs vs' : List TV}, (∀ id ∈ TV.rowss vs, t' (.o id) = t (.o id)) → TV.passs t ν vs = some vs' → TV.passs t' ν vs = some vs' ∧ (TV.passCs t vs → TV.passCs t' vs) := by
  intro vs
  induction vs with
  | nil => exact fun _ h => ⟨h, fun h => h⟩
  | cons v vs ih =>
    intro vs' hr h
    simp only [TV.passs] at h ⊢
    simp only [TV.rowss, List.mem_append] at hr
    split at h
    ·rename_i g1 g2
     obtain ⟨h1, h2⟩ := cong (fun id hid => hr id (.inl hid)) g1
     obtain ⟨h3, h4⟩ := ih (fun id hid => hr id (.inr hid)) g2
     rw [h1, h3]
     exact ⟨h, by simp only [TV.passCs]; exact fun h => ⟨h2 h.1, h4 h.2⟩⟩
    ·simp at h
 obtain ⟨hp', hc'⟩ := congs (fun id hid => hrows id (List.mem_append_left _ hid)) hp
 have hrowsI : ∀ p ∈ ν, ∀ id ∈ rowsI (t p), t' (.o id) = t (.o id) := fun p hp id hid => hrows id (List.mem_append_right _ (List.mem_flatMap.2 ⟨p, hp, hid⟩))
 have hI' : passIs t' ν ν = some cxs := by
  have go : ∀ {l : List Pl} {xs : List It}, (∀ p ∈ l, p ∈ ν) → passIs t ν l = some xs → passIs t' ν l = some xs := by
   intro l
   induction l with
   | nil => exact fun _ h => h
   | cons p l ih =>
     intro xs hm h
     simp only [passIs] at h ⊢
     split at h
     ·rename_i g1 g2
      rw [ih (fun q hq => hm q (by simp [hq])) g2, hνt p (hm p (by simp))]
      have : passI t' ν (t p) = passI t ν (t p) := by
       unfold passI at g1 ⊢
       split
       ·rename_i cs hcs
        rw [hcs] at g1
        simp only at g1
        split at g1
        ·rename_i g3
         rw [(congs (fun id hid => hrowsI p (hm p (by simp)) id (by rw [hcs]; exact hid)) g3).1]
        ·simp at g1
       ·rfl
      rw [this, g1]
      exact h
     ·simp at h
  exact go (fun p hp => hp) hI
 have hIC' : ∀ p ∈ ν, passCI t' (t' p) := fun p hpν => by
  rw [hνt p hpν]
  have h1 := hIC p hpν
  unfold passCI at h1 ⊢
  split
  ·rename_i cs hcs
   rw [hcs] at h1
   obtain ⟨i, hi'⟩ := List.getElem?_of_mem hpν
   obtain ⟨cs0, cs', g1, g2, _⟩ := (passIs_spec hI).2 i p hi'
   rw [hcs] at g1; simp only [It.box.injEq] at g1; subst g1
   exact (congs (fun id hid => hrowsI p hpν id (by rw [hcs]; exact hid)) g2).2 h1
  ·trivial
 have hsh : ∀ id ∈ TV.rowss (xs.map (ev t) ++ caps) ++ ν.flatMap (fun p => rowsI (t p)), ∃ e k es xs, t' (.o id) = .row e k es true ∧ toDss es = some xs := fun id hid => by
  rw [hrows id hid]
  rcases List.mem_append.1 hid with h | h
  ·exact passs_rows hp id h
  ·obtain ⟨p, hpν, h⟩ := List.mem_flatMap.1 h
   obtain ⟨i, hi'⟩ := List.getElem?_of_mem hpν
   obtain ⟨cs0, cs', g1, g2, _⟩ := (passIs_spec hI).2 i p hi'
   rw [g1] at h
   exact passs_rows g2 id h
 obtain ⟨E1, hw1, x1, hb1, hv1, hi1, hfz⟩ := hi.freezeAll _ hsh
 have hfr := ev_rel hi1 fo
 rw [hfo] at hfr
 simp only [RelV] at hfr
 obtain ⟨ucap, hufo, hucap⟩ := hfr
 have hxr := evs_rel hi1 xs
 rw [hxs] at hxr
 have happ : ∀ {ts ts' : List TV} {us us' : List Value}, RelVs E1 ts us → RelVs E1 ts' us' → RelVs E1 (ts ++ ts') (us ++ us') := by
  intro ts
  induction ts with
  | nil => intro ts' us us' h g; simp only [RelVs] at h; subst h; simpa using g
  | cons v ts ih =>
    intro ts' us us' h g
    simp only [RelVs] at h
    obtain ⟨u, us0, rfl, h1, h2⟩ := h
    simp only [List.cons_append, RelVs]
    exact ⟨u, us0 ++ us', rfl, h1, ih h2 g⟩
 have hargs := happ hxr hucap
 have hfz1 : ∀ id, id ∈ TV.rowss (xs.map (ev t) ++ caps) ++ ν.flatMap (fun p => rowsI (t p)) → ∀ e k es xs, t' (.o id) = .row e k es true → toDss es = some xs → ∀ u, RelV E1 (.oref id es.length) u → Rep E1 (.sl xs) u := hfz
 have hcargs : RelVs (E1.callee ν) cargs (xs.map a.eval ++ ucap.toList) := passs_rel (fun id hid => hfz1 id (List.mem_append_left _ hid)) hp' (hc' hc) hargs
 have hH0 : HInv (E1.callee ν) (xlook cxs) := HInv.callee hi1 hν hI' hIC' (fun p hpν id hid => hfz1 id (List.mem_append_right _ (List.mem_flatMap.2 ⟨p, hpν, by rw [← hνt p hpν]; exact hid⟩))) hνp
 have hcall := C (E1.callee ν) _ hH0 hcargs
 have hwc : (E1.callee ν).w = E.w := hw1
 rw [hwc] at hcall
 unfold wpOp
 simp only [ho, hwant, if_true]
 refine .inl ?_
 unfold Oper.wp
 have hrun : (execOp a.eval o).run P E.w = .ok (.enter f (xs.map a.eval ++ ucap.toList).toArray) E.w := by
  have harr : (List.map a.eval xs ++ ucap.toList).toArray = (List.map a.eval xs).toArray ++ ucap := by simp
  simp only [execOp, hop, resolve, hufo, Deferred.ofValue, invoke, Sem.run_bind, Sem.run_pure, Result.andThen_ok, List.map_toArray, Array.empty_append, run_callFunc hfn, harr]
 rw [hrun]
 simp only [Oper.upon]
 refine hcall.mono fun e w' ⟨u, E', he, hw', hpost⟩ => ?_
 subst he
 have hnewt' : ∀ x ∈ ro, t' (.o (b + x.1)) = .none := hnewt
 obtain ⟨E2, hw2, hi2, hr2⟩ := hi1.called hν hνp hI' hl hbox hobj hnewt' hpost
 refine hK _ _ ⟨E2, hw2.trans hw', InvE.dst ?_ hd hr2⟩
 exact hi2
end
end Go.Tr

namespace Go.Tr
open Go
def look : List (Pl × It) → S
 | [], _ => .none
 | (q, i) :: l, p => if p = q then i else look l p
def put1 (p : Pl) (i : It) : List (Pl × It) → List (Pl × It)
 | [] => [(p, i)]
 | (q, j) :: l => if p = q then (p, i) :: l else (q, j) :: put1 p i l
theorem upd_look (p : Pl) (i : It) : ∀ l : List (Pl × It), upd (look l) p i = look (put1 p i l)
 | [] => by funext q; simp [upd, look, put1]
 | (q, j) :: l => by
   funext r
   have ih := congrFun (upd_look p i l) r
   simp only [upd] at ih
   simp only [put1, upd, look]
   by_cases e : p = q
   ·subst e
    simp only [if_true, look]
    by_cases h : r = p
    ·simp [h]
    ·simp [h]
   ·simp only [if_neg e, look]
    by_cases h : r = q
    ·subst h
     rw [if_neg (fun h => e h.symm)]; simp
    ·rw [if_neg h, if_neg h]
     exact ih
def keptL (kp : Nat → Bool) : List (Pl × It) → List (Pl × It)
 | [] => []
 | (.s k, i) :: l => if kp k then (.s k, i) :: keptL kp l else keptL kp l
 | x :: l => x :: keptL kp l
theorem kept_look (kp : Nat → Bool) : ∀ l : List (Pl × It), kept kp (look l) = look (keptL kp l)
 | [] => by funext q; cases q <;> simp [kept, look, keptL]
 | (.s k, i) :: l => by
   funext r
   have ih := congrFun (kept_look kp l) r
   cases r with
   | s j =>
     simp only [kept] at ih
     simp only [keptL, kept, look]
     by_cases hk : kp k
     ·rw [if_pos hk]
      simp only [look]
      by_cases hj : Pl.s j = Pl.s k
      ·simp only [Pl.s.injEq] at hj; subst hj; simp [hk]
      ·rw [if_neg hj, if_neg hj]; exact ih
     ·rw [if_neg hk]
      by_cases hj : Pl.s j = Pl.s k
      ·simp only [Pl.s.injEq] at hj; subst hj
       rw [if_neg hk] at ih
       rw [if_neg hk, ← ih]
      ·rw [if_neg hj]; exact ih
   | o j =>
     simp only [kept] at ih ⊢
     simp only [keptL, look, reduceCtorEq, if_false]
     split
     ·simp only [look, reduceCtorEq, if_false]; exact ih
     ·exact ih
   | x j =>
     simp only [kept] at ih ⊢
     simp only [keptL, look, reduceCtorEq, if_false]
     split
     ·simp only [look, reduceCtorEq, if_false]; exact ih
     ·exact ih
 | (.o k, i) :: l => by
   funext r
   have ih := congrFun (kept_look kp l) r
   cases r with
   | s j => simp only [keptL, kept, look] at ih ⊢; simpa using ih
   | o j => simp only [keptL, kept, look] at ih ⊢; rw [ih]
   | x j => simp only [keptL, kept, look] at ih ⊢; simpa using ih
 | (.x k, i) :: l => by
   funext r
   have ih := congrFun (kept_look kp l) r
   cases r with
   | s j => simp only [keptL, kept, look] at ih ⊢; simpa using ih
   | o j => simp only [keptL, kept, look] at ih ⊢; simpa using ih
   | x j => simp only [keptL, kept, look] at ih ⊢; rw [ih]
def It.only (po : Nat → Prop) : It → Prop
 | .none => True
 | .v t => t.only po
 | .box cs => TV.onlys po cs
 | .row _ _ es _ => ∀ e ∈ es, TV.onlys po e
 | .que _ _ es => ∀ e ∈ es, TV.onlys po e
 | .mp _ => True
 | .mpk es _ _ _ => ∀ x ∈ es, x.2.only po
 | .mit _ _ _ _ => True
 | .mpz es _ => ∀ x ∈ es, x.2.only po
def En.res (E : En) (ids : List Nat) : En :=
 { E with blk := fun p => match p with | .o k => if k ∈ ids then E.blk (.o k) else none | p => E.blk p, val := fun k => if k ∈ ids then E.val k else none }
theorem En.res_ext (E : En) (ids : List Nat) : Ext (· ∈ ids) E (E.res ids) :=
 ⟨fun _ _ h => h, fun _ _ _ => rfl, fun id b h hb => by simp only [En.res, if_pos h]; exact hb, fun _ _ h => h, fun _ _ h => h, fun id k c v h hv => ⟨c, v, by simp only [En.res, if_pos h]; exact hv, Nat.le_refl _, fun _ => rfl⟩⟩
theorem En.res_own {E : En} {ids : List Nat} {p : Pl} {b : Nat} (h : (E.res ids).own p = some b) : E.own p = some b ∧ ∀ k, p = .o k → k ∈ ids := by
 cases p with
 | o k =>
   by_cases hk : k ∈ ids
   ·refine ⟨?_, fun j e => by simp only [Pl.o.injEq] at e; subst e; exact hk⟩
    have : (E.res ids).own (.o k) = E.own (.o k) := En.own_eq (by simp only [En.res, if_pos hk]) (fun id e => by simp only [Pl.o.injEq] at e; subst e; simp only [En.res, if_pos hk])
    rwa [this] at h
   ·simp [En.own, En.res, hk] at h
 | s k => exact ⟨h, fun _ e => by simp at e⟩
 | x k => exact ⟨h, fun _ e => by simp at e⟩
theorem CellsRel.ext {po : Nat → Prop} {E E' : En} (h : Ext po E E') {us : List Value} : ∀ {o : Nat} {ts : List TV}, TV.onlys po ts → CellsRel E us o ts → CellsRel E' us o ts
 | _, [], _, _ => trivial
 | _, _ :: _, hp, ⟨⟨u, h1, h2, h3⟩, r⟩ => by
   simp only [TV.onlys] at hp
   exact ⟨⟨u, h1, h2, RelV.ext h _ _ hp.1 h3⟩, CellsRel.ext h hp.2 r⟩
theorem RowRel.ext {po : Nat → Prop} {E E' : En} (h : Ext po E E') {us : List Value} {k : Nat} : ∀ {o : Nat} {es : List (List TV)}, (∀ e ∈ es, TV.onlys po e) → RowRel E us k o es → RowRel E' us k o es
 | _, [], _, _ => trivial
 | _, _ :: _, hp, ⟨h1, h2, r⟩ => ⟨h1, CellsRel.ext h (hp _ (by simp)) h2, RowRel.ext h (fun e he => hp e (by simp [he])) r⟩
theorem HInv.res {E : En} {t t' : S} {ids : List Nat} (h : HInv E t) (ho : ∀ id, id ∈ ids → t' (.o id) = t (.o id)) (hn : ∀ id, id ∉ ids → t' (.o id) = .none) (hx : ∀ i, t' (.x i) = t (.x i))
  (hc : ∀ p, (∀ k, p ≠ .s k) → (t' p).only (· ∈ ids)) : HInv (E.res ids) t' := by
 have x := En.res_ext E ids
 refine ⟨fun p hp => ?_, fun k => h.frees k, fun p q b h1 h2 => h.inj p q b (En.res_own h1).1 (En.res_own h2).1, fun p b h1 => h.size p b (En.res_own h1).1, fun b o h1 => h.stsz b o h1, fun b o h1 p h2 => ?_, fun y hy => RepCells.ext x.r _ _ _ (h.gl y hy)⟩
 ·have hcp := hc p hp
  have hit := h.item p hp
  cases p with
  | s k => exact absurd rfl (hp k)
  | o k =>
    by_cases hk : k ∈ ids
    ·rw [ho k hk] at hcp ⊢
     have hb : (E.res ids).blk (.o k) = E.blk (.o k) := by simp only [En.res, if_pos hk]
     have hv : (E.res ids).val k = E.val k := by simp only [En.res, if_pos hk]
     cases hi : t (.o k) with
     | none => rw [hi] at hit; exact fun id e => by simp only [Pl.o.injEq] at e; subst e; rw [hb, hv]; exact hit k rfl
     | v _ => rw [hi] at hit; exact (En.own_eq hb (fun id e => by simp only [Pl.o.injEq] at e; subst e; exact hv)).trans hit
     | box cs =>
       rw [hi] at hit hcp
       obtain ⟨h0, b, ty, us, h1, h2, h3, h4⟩ := hit
       exact ⟨fun id e => by simp only [Pl.o.injEq] at e; subst e; rw [hv]; exact h0 k rfl, b, ty, us, hb.trans h1, h2, h3, CellsRel.ext x hcp h4⟩
     | row e k' es sh =>
       rw [hi] at hit hcp
       obtain ⟨h0, id, v, us, e1, h1, h2, h3⟩ := hit
       simp only [Pl.o.injEq] at e1; subst e1
       exact ⟨hb.trans h0, k, v, us, rfl, hv.trans h1, h2, RowRel.ext x hcp h3⟩
     | que e k' es =>
       rw [hi] at hit hcp
       obtain ⟨h0, id, v, us, e1, h1, h2, h3⟩ := hit
       simp only [Pl.o.injEq] at e1; subst e1
       exact ⟨hb.trans h0, k, v, us, rfl, hv.trans h1, h2, RowRel.ext x hcp h3⟩
     | mp es =>
       rw [hi] at hit
       obtain ⟨h0, b, l, clock, h1, h2, h3, h4⟩ := hit
       exact ⟨fun id e => by simp only [Pl.o.injEq] at e; subst e; rw [hv]; exact h0 k rfl, b, l, clock, hb.trans h1, h2, h3.ext x.r, h4⟩
     | mpk es c pd s =>
       rw [hi] at hit hcp
       obtain ⟨id, b, l, clock, l', ty, v, e1, h1, h2, h3, h4, h5, h6, h7, h8⟩ := hit
       simp only [Pl.o.injEq] at e1; subst e1
       exact ⟨k, b, l, clock, l', ty, v, rfl, hb.trans h1, h2, h3, KRel.ext x hcp h4, h5, hv.trans h6, h7, h8⟩
     | mpz es s =>
       rw [hi] at hit hcp
       obtain ⟨h0, h1, h2, h3, l', h4, h5⟩ := hit
       exact ⟨(En.own_eq hb (fun id e => by simp only [Pl.o.injEq] at e; subst e; exact hv)).trans h0, h1, h2, h3, l', h4, KRel.ext x hcp h5⟩
     | mit m s left cur =>
       rw [hi] at hit
       obtain ⟨h0, r, seen, h1, h2, h3⟩ := hit
       exact ⟨fun id e => by simp only [Pl.o.injEq] at e; subst e; rw [hv]; exact h0 k rfl, r, seen, hb.trans h1, h2, h3⟩
    ·rw [hn k hk]
     exact fun id e => by simp only [Pl.o.injEq] at e; subst e; simp [En.res, hk]
  | x k =>
    rw [hx k] at hcp ⊢
    cases hi : t (.x k) with
    | none => exact fun id e => by simp at e
    | v _ => rw [hi] at hit; exact hit
    | box cs =>
      rw [hi] at hit hcp
      obtain ⟨h0, b, ty, us, h1, h2, h3, h4⟩ := hit
      exact ⟨fun id e => by simp at e, b, ty, us, h1, h2, h3, CellsRel.ext x hcp h4⟩
    | row e k' es sh =>
      rw [hi] at hit
      obtain ⟨_, id, _, _, e1, _⟩ := hit
      simp at e1
    | que e k' es =>
      rw [hi] at hit
      obtain ⟨_, id, _, _, e1, _⟩ := hit
      simp at e1
    | mp es =>
      rw [hi] at hit
      obtain ⟨h0, b, l, clock, h1, h2, h3, h4⟩ := hit
      exact ⟨fun id e => by simp at e, b, l, clock, h1, h2, h3.ext x.r, h4⟩
    | mpk es c pd s =>
      rw [hi] at hit
      obtain ⟨id, _, _, _, _, _, _, e1, _⟩ := hit
      simp at e1
    | mpz es s =>
      rw [hi] at hit hcp
      obtain ⟨h0, h1, h2, h3, l', h4, h5⟩ := hit
      exact ⟨h0, h1, h2, h3, l', h4, KRel.ext x hcp h5⟩
    | mit m s left cur =>
      rw [hi] at hit
      obtain ⟨h0, r, seen, h1, h2, h3⟩ := hit
      exact ⟨fun id e => by simp at e, r, seen, h1, h2, h3⟩
 ·obtain ⟨g1, g2⟩ := En.res_own h2
  obtain ⟨e, k, es, g3, g4⟩ := h.sep b o h1 p g1
  refine ⟨e, k, es, ?_, g4⟩
  cases p with
  | o j => rw [ho j (g2 j rfl)]; exact g3
  | x j => rw [hx j]; exact g3
  | s j => have := h.frees j; simp [En.own, this] at g1
section
variable {P : Program} {A : Actv}
theorem Fr.res {E0 E : En} (h : Fr E0 E) (ids : List Nat) : Fr E0 (E.res ids) :=
 ⟨h.os, h.tape, h.output, h.size, h.old, h.xb, fun id b hb => h.new id b (En.res_own hb).1, h.st, h.newst⟩
def oIds : List (Pl × It) → List Nat
 | [] => []
 | (.o k, _) :: l => k :: oIds l
 | _ :: l => oIds l
def xIds : List (Pl × It) → List Nat
 | [] => []
 | (.x k, _) :: l => k :: xIds l
 | _ :: l => xIds l
theorem look_o {l : List (Pl × It)} {k : Nat} : k ∉ oIds l → look l (.o k) = .none := by
 induction l with
 | nil => intro _; rfl
 | cons x l ih =>
   obtain ⟨p, i⟩ := x
   intro h
   cases p with
   | o j =>
     simp only [oIds, List.mem_cons, not_or] at h
     simp only [look, Pl.o.injEq, if_neg h.1]
     exact ih h.2
   | s j => simp only [oIds] at h; simp only [look, reduceCtorEq, if_false]; exact ih h
   | x j => simp only [oIds] at h; simp only [look, reduceCtorEq, if_false]; exact ih h
theorem look_x {l : List (Pl × It)} {k : Nat} : k ∉ xIds l → look l (.x k) = .none := by
 induction l with
 | nil => intro _; rfl
 | cons x l ih =>
   obtain ⟨p, i⟩ := x
   intro h
   cases p with
   | x j =>
     simp only [xIds, List.mem_cons, not_or] at h
     simp only [look, Pl.x.injEq, if_neg h.1]
     exact ih h.2
   | s j => simp only [xIds] at h; simp only [look, reduceCtorEq, if_false]; exact ih h
   | o j => simp only [xIds] at h; simp only [look, reduceCtorEq, if_false]; exact ih h
theorem look_mem {l : List (Pl × It)} {p : Pl} : look l p = .none ∨ (p, look l p) ∈ l := by
 induction l with
 | nil => exact .inl rfl
 | cons x l ih =>
   obtain ⟨q, i⟩ := x
   simp only [look]
   by_cases e : p = q
   ·subst e; simp
   ·rw [if_neg e]
    exact ih.imp id fun h => List.mem_cons_of_mem _ h
theorem mem_xIds {l : List (Pl × It)} {k : Nat} (h : k ∈ xIds l) : ∃ i, (Pl.x k, i) ∈ l := by
 induction l with
 | nil => simp [xIds] at h
 | cons x l ih =>
   obtain ⟨q, j⟩ := x
   cases q with
   | x m =>
     simp only [xIds, List.mem_cons] at h
     rcases h with rfl | h
     ·exact ⟨j, by simp⟩
     ·obtain ⟨i, hi⟩ := ih h; exact ⟨i, by simp [hi]⟩
   | s m => simp only [xIds] at h; obtain ⟨i, hi⟩ := ih h; exact ⟨i, by simp [hi]⟩
   | o m => simp only [xIds] at h; obtain ⟨i, hi⟩ := ih h; exact ⟨i, by simp [hi]⟩
def Sub (t : S) (l' : List (Pl × It)) : Prop := (∀ x ∈ l', look l' x.1 = t x.1) ∧ ∀ x ∈ l', x.2.only (· ∈ oIds l')
theorem InvE.forget {t : S} {l' : List (Pl × It)} {a : Act} {E : En} (hi : InvE A t a E) (h : Sub t l') (hx : ∀ i, look l' (.x i) = t (.x i)) : InvE A (look l') a (E.res (oIds l')) := by
 have hget : ∀ p, look l' p = .none ∨ look l' p = t p := fun p => by
  rcases look_mem (l := l') (p := p) with h1 | h1
  ·exact .inl h1
  ·exact .inr (h.1 _ h1)
 have honly : ∀ p, (look l' p).only (· ∈ oIds l') := fun p => by
  rcases look_mem (l := l') (p := p) with h1 | h1
  ·rw [h1]; trivial
  ·exact h.2 _ h1
 have hoin : ∀ {k : Nat} {i : It} {l : List (Pl × It)}, k ∈ oIds l → ∃ i, (Pl.o k, i) ∈ l := by
  intro k i l
  induction l with
  | nil => intro h; simp [oIds] at h
  | cons x l ih =>
    obtain ⟨q, j⟩ := x
    intro h
    cases q with
    | o m =>
      simp only [oIds, List.mem_cons] at h
      rcases h with rfl | h
      ·exact ⟨j, by simp⟩
      ·obtain ⟨i, hi⟩ := ih h; exact ⟨i, by simp [hi]⟩
    | s m => simp only [oIds] at h; obtain ⟨i, hi⟩ := ih h; exact ⟨i, by simp [hi]⟩
    | x m => simp only [oIds] at h; obtain ⟨i, hi⟩ := ih h; exact ⟨i, by simp [hi]⟩
 refine ⟨hi.h.res (fun id hid => ?_) (fun id hid => look_o hid) hx (fun p _ => honly p), hi.fr.res _, fun k tv hk => ?_, hi.defers, hi.size⟩
 ·obtain ⟨i, hm⟩ := hoin (i := .none) hid
  exact h.1 _ hm
 ·have h1 := hget (.s k)
  rw [hk] at h1
  rcases h1 with h1 | h1
  ·simp at h1
  ·obtain ⟨u, h2, h3⟩ := hi.sl k tv h1.symm
   have h4 := honly (.s k)
   rw [hk] at h4
   exact ⟨u, h2, RelV.ext (En.res_ext E _) _ _ h4 h3⟩
theorem x_same {l l' : List (Pl × It)} (hs : ∀ x ∈ l', look l' x.1 = look l x.1) (hx : xIds l' = xIds l) (i : Nat) : look l' (.x i) = look l (.x i) := by
 by_cases h : i ∈ xIds l'
 ·obtain ⟨it, hm⟩ := mem_xIds h
  exact hs _ hm
 ·rw [look_x h, look_x (by rwa [← hx])]
theorem GS.forget {l l' : List (Pl × It)} (h : Sub (look l) l') (hx : xIds l' = xIds l) : GS A (look l) (look l') := fun _ _ ⟨E, hw, hi⟩ =>
 ⟨E.res (oIds l'), hw, hi.forget h (x_same h.1 hx)⟩
theorem GS.own {t : S} {k : Nat} (e z : Nat) (hk : t (.s k) = .v (.c (.slice none 0 0))) (ho : t (.o k) = .none) : GS A t (upd (upd t (.o k) (.row e z [] false)) (.s k) (.v (.oref k 0))) := fun a w ⟨E, hw, hi⟩ => by
 obtain ⟨u, h1, h2⟩ := hi.sl k _ hk
 obtain ⟨E', hw', x, hi', hv⟩ := hi.newRow ho e z
 simp only [RelV] at h2
 refine ⟨E', hw'.trans hw, ⟨hi'.h.slot k _, hi'.fr, fun j tv hj => ?_, hi'.defers, hi'.size⟩⟩
 by_cases ej : j = k
 ·subst ej
  simp only [upd, if_true, It.v.injEq] at hj
  subst hj
  exact ⟨u, h1, by simp only [RelV]; exact ⟨by rw [h2]; rfl, z, 0, _, hv, Nat.le_refl _, fun _ => h2⟩⟩
 ·simp only [upd, Pl.s.injEq, ej, if_false, reduceCtorEq] at hj
  exact hi'.sl j tv (by simpa [upd] using hj)
theorem GS.view {t : S} {s id n e k : Nat} {es : List (List TV)} {sh : Bool} {xs : List (List D)} (hs : t (.s s) = .v (.oref id n)) (ht : t (.o id) = .row e k es sh) (hn : n = es.length) (hx : toDss es = some xs) :
  GS A t (upd (upd t (.o id) (.row e k es true)) (.s s) (.v (.d (.sl xs)))) := fun a w ⟨E, hw, hi⟩ => by
 obtain ⟨u, h1, h2⟩ := hi.sl s _ hs
 obtain ⟨E', hw', x, _, _, hi', hr, _⟩ := hi.freeze ht hx
 subst hn
 refine ⟨E', hw'.trans hw, ⟨hi'.h.slot s _, hi'.fr, fun j tv hj => ?_, hi'.defers, hi'.size⟩⟩
 by_cases ej : j = s
 ·subst ej
  simp only [upd, if_true, It.v.injEq] at hj
  subst hj
  exact ⟨u, h1, by simp only [RelV]; exact hr u h2⟩
 ·simp only [upd, Pl.s.injEq, ej, if_false, reduceCtorEq] at hj
  exact hi'.sl j tv (by simpa [upd] using hj)
end
end Go.Tr

namespace Go.Tr
open Go
def entL : List TV → Nat → List (Pl × It)
 | [], _ => []
 | a :: l, k => (.s k, .v a) :: entL l (k + 1)
def xL : List It → Nat → List (Pl × It)
 | [], _ => []
 | i :: l, k => (.x k, i) :: xL l (k + 1)
def oL (ro : List (Nat × It)) : List (Pl × It) := ro.map fun x => (.o x.1, x.2)
theorem look_app_none {l m : List (Pl × It)} {p : Pl} (h : ∀ x ∈ l, x.1 ≠ p) : look (l ++ m) p = look m p := by
 induction l with
 | nil => rfl
 | cons x l ih =>
   obtain ⟨q, i⟩ := x
   simp only [List.cons_append, look]
   rw [if_neg (fun e => h (q, i) (by simp) e.symm)]
   exact ih fun x hx => h x (by simp [hx])
theorem entL_s {k : Nat} : ∀ {l : List TV} {n : Nat} {m : List (Pl × It)}, look (entL l n ++ m) (.s k) = if n ≤ k ∧ k < n + l.length then (match l[k - n]? with | some a => .v a | none => .none) else look m (.s k)
 | [], n, m => by simp [entL]; intros; omega
 | a :: l, n, m => by
   simp only [entL, List.cons_append, look, Pl.s.injEq]
   by_cases e : k = n
   ·subst e; simp
   ·rw [if_neg e, entL_s (l := l) (n := n + 1)]
    by_cases h : n + 1 ≤ k ∧ k < n + 1 + l.length
    ·rw [if_pos h, if_pos ⟨by omega, by simp; omega⟩, show k - n = (k - (n + 1)) + 1 by omega]
     simp
    ·rw [if_neg h, if_neg (by simp; omega)]
theorem entL_other {l : List TV} {n : Nat} {m : List (Pl × It)} {p : Pl} (h : ∀ k, p ≠ .s k) : look (entL l n ++ m) p = look m p := by
 refine look_app_none ?_
 induction l generalizing n with
 | nil => simp [entL]
 | cons a l ih =>
   intro x hx
   simp only [entL, List.mem_cons] at hx
   rcases hx with rfl | hx
   ·exact fun e => h _ e.symm
   ·exact ih x hx
theorem xL_x {i : Nat} : ∀ {l : List It} {n : Nat} {m : List (Pl × It)}, look (xL l n ++ m) (.x i) = if n ≤ i ∧ i < n + l.length then l.getD (i - n) .none else look m (.x i)
 | [], n, m => by simp [xL]; intros; omega
 | a :: l, n, m => by
   simp only [xL, List.cons_append, look, Pl.x.injEq]
   by_cases e : i = n
   ·subst e; simp
   ·rw [if_neg e, xL_x (l := l) (n := n + 1)]
    by_cases h : n + 1 ≤ i ∧ i < n + 1 + l.length
    ·rw [if_pos h, if_pos ⟨by omega, by simp; omega⟩, show i - n = (i - (n + 1)) + 1 by omega]
     simp
    ·rw [if_neg h, if_neg (by simp; omega)]
theorem xL_other {l : List It} {n : Nat} {m : List (Pl × It)} {p : Pl} (h : ∀ k, p ≠ .x k) : look (xL l n ++ m) p = look m p := by
 refine look_app_none ?_
 induction l generalizing n with
 | nil => simp [xL]
 | cons a l ih =>
   intro x hx
   simp only [xL, List.mem_cons] at hx
   rcases hx with rfl | hx
   ·exact fun e => h _ e.symm
   ·exact ih x hx
theorem oL_o {k : Nat} : ∀ {ro : List (Nat × It)}, look (oL ro) (.o k) = lookI ro k
 | [] => rfl
 | (j, i) :: ro => by
   have ih := oL_o (k := k) (ro := ro)
   simp only [oL] at ih
   simp only [oL, List.map_cons, look, Pl.o.injEq, lookI, ih]
theorem oL_other {ro : List (Nat × It)} {p : Pl} (h : ∀ k, p ≠ .o k) : look (oL ro) p = .none := by
 have := look_app_none (l := oL ro) (m := []) (p := p) (fun x hx => by
  simp only [oL, List.mem_map] at hx
  obtain ⟨y, _, rfl⟩ := hx
  exact fun e => h _ e.symm)
 simpa [look] using this
theorem HInv.congr {E : En} {H H' : S} (h : HInv E H) (he : ∀ p, (∀ k, p ≠ .s k) → H' p = H p) : HInv E H' :=
 ⟨fun p hp => by rw [he p hp]; exact h.item p hp, h.frees, h.inj, h.size, h.stsz, fun b o h1 p h2 => by
  obtain ⟨e, k, es, h3, h4⟩ := h.sep b o h1 p h2
  refine ⟨e, k, es, ?_, h4⟩
  rw [he p ?_]
  ·exact h3
  ·rintro k rfl
   simp [En.own, h.frees k] at h2, h.gl⟩
def resV (P : Program) (t : S) : ResultVar → Option (Prop × TV)
 | .tmp k => match t (.s k) with
   | .v x => some (True, x)
   | _ => none
 | .cell k ty => match ev t (.tmp k) with
   | .ptr p q => match t p with
     | .box cs => cellsOf P ty cs q
     | _ => none
   | _ => none
def resVs (P : Program) (t : S) : List ResultVar → Option (Prop × List TV)
 | [] => some (True, [])
 | x :: l => match resV P t x, resVs P t l with
   | some (C, v), some (C', vs) => some (C ∧ C', v :: vs)
   | _, _ => none
def resT (P : Program) (t : S) (l : List ResultVar) : Option (Prop × TV) :=
 match resVs P t l with
 | some (C, [v]) => some (C, v)
 | some (C, vs) => some (C, .tup vs)
 | none => none
def Fin (P : Program) (A : Actv) (fn : Func) (r : TV) (xs : List It) (ro : List (Nat × It)) (t : S) : Prop :=
 ∀ a w, Inv A t a w → ∃ u E', (results fn a.tmps).run P w = .ok u w ∧ E'.w = w ∧ Post A.E0 xs ro r u E'
def fin (P : Program) (A : Actv) (fn : Func) (r : TV) (xs : List It) (ro : List (Nat × It)) : Exit → S → Prop
 | .normal, t => Fin P A fn r xs ro t
 | .ret, t => Fin P A fn r xs ro t
 | _, _ => False
section
variable {P : Program} {A : Actv}
theorem Fin.ghost {fn : Func} {r : TV} {xs : List It} {ro : List (Nat × It)} {t t' : S} (h : Fin P A fn r xs ro t') (g : GS A t t') : Fin P A fn r xs ro t := fun a w hi => h a w (g a w hi)
def resR (a : Act) : ResultVar → Sem Value
 | .tmp t => Pure.pure (a.tmps.getD t undef)
 | .cell b t => do loadVar t (← asAddr (a.tmps.getD b undef))
theorem results_eq (fn : Func) (a : Act) : results fn a.tmps = (do
  let vs ← fn.results.mapM (resR a)
  pure (if h : vs.size = 1 then vs[0] else .tuple vs)) := rfl
theorem resV_run {t : S} {a : Act} {E : En} (hi : InvE A t a E) {x : ResultVar} {C : Prop} {v : TV} (h : resV P t x = some (C, v)) (hC : C) :
  ∃ u, (resR a x).run P E.w = .ok u E.w ∧ RelV E v u := by
 unfold resR
 cases x with
 | tmp k =>
   simp only [resV] at h
   split at h
   ·rename_i tv ht
    simp only [Option.some.injEq, Prod.mk.injEq] at h
    obtain ⟨_, rfl⟩ := h
    obtain ⟨u, h1, h2⟩ := hi.sl k tv ht
    exact ⟨u, by simp [Array.getD_eq_getD_getElem?, h1], h2⟩
   ·simp at h
 | cell k ty =>
   simp only [resV] at h
   have hr := ev_rel hi (.tmp k)
   split at h
   ·rename_i p q hp
    split at h
    ·rename_i cs ht
     rw [hp] at hr
     obtain ⟨b, ty', us, hu, hb, hh, hs, hc⟩ := box_cur hi ht hr
     have hu' : a.tmps.getD k undef = .pointer (some ⟨b, q, none⟩) := hu
     unfold cellsOf at h
     split at h
     ·rename_i hsh
      split at h
      ·rename_i tv hv
       simp only [Option.some.injEq, Prod.mk.injEq] at h
       obtain ⟨_, rfl⟩ := h
       obtain ⟨u, h1, _, h2⟩ := hc.get hv
       have hcell : E.w.cell? ⟨b, q, none⟩ = some u := by rw [cell_heap hh]; simpa using h1
       exact ⟨u, by simp only [hu', asAddr, Sem.run_bind, Sem.run_pure, Result.andThen_ok, run_load_one hsh hcell], h2⟩
      ·simp at h
     ·rename_i hsh
      split at h
      ·rename_i z hz
       simp only [Option.some.injEq, Prod.mk.injEq] at h
       obtain ⟨rfl, rfl⟩ := h
       have hc' := (hc.sub q z).vals
       simp only [Nat.zero_add] at hc'
       have hl : ((cs.drop q).take z).length = z := by simp; omega
       rw [hl] at hc'
       have := run_load_agg (P := P) hsh hz hc'.2 (w := E.w) (rangeAt_list (b := b) (fun j u hj => by rw [cell_heap hh]; simpa using hj) q z)
       exact ⟨.agg ((us.toList.drop q).take z).toArray, by simp only [hu', asAddr, Sem.run_bind, Sem.run_pure, Result.andThen_ok, this], by simp only [RelV]; exact ⟨_, rfl, hc'.1⟩⟩
      ·simp at h
     ·simp at h
    ·simp at h
   ·simp at h
theorem resVs_run {t : S} {a : Act} {E : En} (hi : InvE A t a E) : ∀ {l : List ResultVar} {C : Prop} {vs : List TV}, resVs P t l = some (C, vs) → C →
  ∃ us, (l.mapM (resR a)).run P E.w = .ok us E.w ∧ RelVs E vs us
 | [], C, vs, h, _ => by
   simp only [resVs, Option.some.injEq, Prod.mk.injEq] at h
   obtain ⟨_, rfl⟩ := h
   exact ⟨[], by simp, by simp only [RelVs]⟩
 | x :: l, C, vs, h, hC => by
   simp only [resVs] at h
   split at h
   ·rename_i C1 v C2 vs' h1 h2
    simp only [Option.some.injEq, Prod.mk.injEq] at h
    obtain ⟨rfl, rfl⟩ := h
    obtain ⟨u, g1, g2⟩ := resV_run hi h1 hC.1
    obtain ⟨us, g3, g4⟩ := resVs_run hi h2 hC.2
    refine ⟨u :: us, ?_, by simp only [RelVs]; exact ⟨u, us, rfl, g2, g4⟩⟩
    rw [List.mapM_cons, Sem.run_bind, g1]
    simp only [Result.andThen_ok, Sem.run_bind, g3, Sem.run_pure]
   ·simp at h
theorem Fin.done {fn : Func} {r : TV} {xs : List It} {ro : List (Nat × It)} {l : List (Pl × It)} {C : Prop} (hres : resT P (look l) fn.results.toList = some (C, r)) (hC : C) (hr : r.only (· ∈ oIds (oL ro)))
  (hs : Sub (look l) (xL xs 0 ++ oL ro)) (hx : xIds (xL xs 0 ++ oL ro) = xIds l) (ho : oIds (xL xs 0 ++ oL ro) = oIds (oL ro)) : Fin P A fn r xs ro (look l) := fun a w ⟨E, hw, hi⟩ => by
 subst hw
 have hi2 := hi.forget hs (x_same hs.1 hx)
 rw [ho] at hi2
 have hH : HInv (E.res (oIds (oL ro))) (rlook xs ro) := hi2.h.congr fun p hp => by
  cases p with
  | s k => exact absurd rfl (hp k)
  | x i =>
    rw [xL_x]
    simp only [rlook, Nat.zero_le, true_and, Nat.zero_add, Nat.sub_zero]
    split
    ·rfl
    ·rename_i h
     rw [oL_other (fun k e => by simp at e), List.getD, List.getElem?_eq_none (by omega)]; rfl
  | o k => rw [xL_other (fun j e => by simp at e), oL_o]; rfl
 have hrun : ∃ u, (results fn a.tmps).run P E.w = .ok u E.w ∧ RelV E r u := by
  unfold resT at hres
  rw [results_eq]
  have hm : ∀ l : List ResultVar, l.toArray.mapM (resR a) = Functor.map List.toArray (l.mapM (resR a)) := fun l => List.mapM_toArray
  have hfn : fn.results = fn.results.toList.toArray := by simp
  rw [hfn, hm]
  split at hres
  ·rename_i C' v hv
   simp only [Option.some.injEq, Prod.mk.injEq] at hres
   obtain ⟨rfl, rfl⟩ := hres
   obtain ⟨us, g1, g2⟩ := resVs_run hi hv hC
   simp only [RelVs] at g2
   obtain ⟨u, _, rfl, g3, rfl⟩ := g2
   refine ⟨u, ?_, g3⟩
   rw [Sem.run_bind, Sem.run_map, g1]
   simp
  ·rename_i C' vs hne hv
   simp only [Option.some.injEq, Prod.mk.injEq] at hres
   obtain ⟨rfl, rfl⟩ := hres
   obtain ⟨us, g1, g2⟩ := resVs_run hi hv hC
   refine ⟨.tuple us.toArray, ?_, by simp only [RelV]; exact ⟨us.toArray, rfl, by simpa using g2⟩⟩
   have hl := g2.length
   have hl1 : vs.length ≠ 1 := fun h => by
    match vs, h with
    | [v], _ => exact hne _ rfl
   rw [Sem.run_bind, Sem.run_map, g1]
   have : ¬ (us.length = 1) := by omega
   simp [this]
  ·simp at hres
 obtain ⟨u, h1, h2⟩ := hrun
 exact ⟨u, E.res (oIds (oL ro)), h1, rfl, hH, hi2.fr, RelV.ext (En.res_ext E _) _ _ hr h2⟩
theorem contract_of {f : FuncId} {fn : Func} {c : Code} {args : List TV} {xs : List It} {r : TV} {xs' : List It} {ro : List (Nat × It)} (hf : P.funcs[f]? = some fn) (hb : fn.body = some c)
  (h : ∀ E0, AW P ⟨E0, fn.ntmps⟩ c (fin P ⟨E0, fn.ntmps⟩ fn r xs' ro) (look (entL args 0 ++ xL xs 0))) : Contract P f args xs r xs' ro := fun E us hH hargs => by
 refine calls_of_wp hf hb (Code.wp_mono (fun e a w hq => ?_) (h E { tmps := us.toArray ++ Array.replicate (fn.ntmps - us.toArray.size) undef, defers := [] } E.w ⟨E, rfl, ⟨?_, ?_, ?_, rfl, ?_⟩⟩))
 ·obtain ⟨t, hi, hq⟩ := hq
  have key : Fin P ⟨E, fn.ntmps⟩ fn r xs' ro t → a.defers = [] ∧ ∃ v, (results fn a.tmps).run P w = .ok v w ∧ ∃ u E', Ending.returned v = .returned u ∧ E'.w = w ∧ Post E xs' ro r u E' := fun hF => by
   obtain ⟨u, E', h1, h2, h3⟩ := hF a w hi
   obtain ⟨E1, _, hi1⟩ := hi
   exact ⟨hi1.defers, u, h1, u, E', rfl, h2, h3⟩
  cases e <;> first
   | exact hq.elim
   | exact key hq
 ·refine hH.congr fun p hp => ?_
  rw [entL_other hp]
  cases p with
  | s k => exact absurd rfl (hp k)
  | x i =>
    have := xL_x (i := i) (l := xs) (n := 0) (m := [])
    rw [List.append_nil] at this
    rw [this]
    simp only [xlook, Nat.zero_le, true_and, Nat.zero_add, Nat.sub_zero]
    split
    ·rfl
    ·rename_i h
     rw [List.getD, List.getElem?_eq_none (by omega)]; rfl
  | o k =>
    have := xL_other (l := xs) (n := 0) (m := []) (p := .o k) (fun j e => by simp at e)
    rw [List.append_nil] at this
    rw [this]; rfl
 ·have hno : ∀ id, E.own (.o id) = none := fun id => by
   have := hH.item (.o id) (by simp)
   obtain ⟨h1, h2⟩ := this id rfl
   simp [En.own, h1, h2]
  exact ⟨rfl, rfl, rfl, Nat.le_refl _, fun _ _ _ _ => rfl, fun _ => rfl, fun id b hb => by rw [hno] at hb; simp at hb, fun _ _ h => h, fun _ _ h => .inl h⟩
 ·intro k tv hk
  rw [entL_s] at hk
  simp only [Nat.zero_le, true_and, Nat.zero_add, Nat.sub_zero] at hk
  have hx : look (xL xs 0) (.s k) = .none := by
   have := xL_other (l := xs) (n := 0) (m := []) (p := .s k) (fun j e => by simp at e)
   rw [List.append_nil] at this
   rw [this]; rfl
  split at hk
  ·rename_i hlt
   have hak : args[k]? = some args[k] := List.getElem?_eq_getElem hlt
   rw [hak] at hk
   simp only [It.v.injEq] at hk
   subst hk
   obtain ⟨u, h1, h2⟩ := hargs.get hak
   refine ⟨u, ?_, h2⟩
   have hl : k < us.length := by rw [hargs.length]; exact hlt
   rw [Array.getElem?_append_left (by simpa using hl)]
   simpa using h1
  ·rw [hx] at hk; simp at hk
 ·simp; omega
end
end Go.Tr

/-
  What functions of the program compute, stated as contracts over plain data; the conditions of each stand in its own statement.
-/
import Derived.Test.YtffjbciladpdlaaGreatZN04
set_option linter.unusedSimpArgs false
namespace Go.Tr
open Go
section
variable {P : Program} {A : Actv}
theorem InvE.newRowV {t : S} {a : Act} {E : En} (h : InvE A t a E) {d : Nat} (hd : t (.o d) = .none) {e k : Nat} {es : List (List TV)} {w' : World} {v : Value} {us : List Value} (hg : E.w.grownBy w' none)
  (hown : w'.ownsRow E.w.heap.size e k v es.length us) (hrel : ∀ E' : En, E'.w = w' → ExtA E E' → RowRel E' us k 0 es) :
  ∃ E' : En, E'.w = w' ∧ ExtA E E' ∧ InvE A (upd t (.o d) (.row e k es false)) a E' ∧ E'.val d = some (k, es.length, v) := by
 have hfree := h.h.item (.o d) (by simp)
 rw [hd] at hfree
 obtain ⟨hb0, hv0⟩ := hfree d rfl
 let E' : En := { E with w := w', val := fun i => if i = d then some (k, es.length, v) else E.val i }
 have hv' : E'.val d = some (k, es.length, v) := by simp [E']
 have hown' : E'.own (.o d) = v.ownBlock := by simp [En.own, E', hb0]
 have hold : ∀ b, b < E.w.heap.size → E'.w.heap[b]? = E.w.heap[b]? := fun b hb => hg.block b hb (by simp)
 have x : ExtA E E' := by
  refine ⟨fun _ _ h => h, fun b o hst => atW_of_block (hold b (h.h.stsz b o hst)), fun _ _ _ h => h, fun _ _ h => h, fun _ _ h => h, fun i k' c u _ hu => ?_⟩
  by_cases e : i = d
  ·subst e; rw [hv0] at hu; simp at hu
  ·exact ⟨c, u, by simp [E', e, hu], Nat.le_refl _, fun _ => rfl⟩
 have hH : HInv E' (upd t (.o d) (.row e k es false)) := by
  refine h.h.change (by simp) x (fun b o h => .inl h) (fun q hq => rfl) (fun i hne => ?_) hg.size (fun q b hq hb => hold b (h.h.size q b hb)) (fun b hb => ?_) ⟨hb0, d, v, us, rfl, hv', ⟨hown.1, hown.2.imp (fun h => h) fun ⟨g, cap, cur, h1, _, h3⟩ => ⟨g, cap, cur, h1, Nat.zero_le _, h3⟩⟩, hrel E' rfl x⟩ (fun b o hs hb => ?_)
  ·have hne' : i ≠ d := fun e => hne (by rw [e])
   simp [E', hne']
  ·rw [hown'] at hb
   exact ⟨(hown.lt b hb).2, .inr (hown.lt b hb).1⟩
  ·rw [hown'] at hb
   have := (hown.lt b hb).1
   have := h.h.stsz _ _ hs
   omega
 refine ⟨E', rfl, x, h.step hH x (h.fr.next hg.os hg.tape hg.output hg.size (fun b hb _ _ => hold b (Nat.lt_of_lt_of_le hb h.fr.size)) (fun _ => rfl) (fun i b hb => ?_) (fun _ _ h => h) (fun _ _ h => .inl h)) (fun k => upd_s (by simp) k), hv'⟩
 by_cases e : i = d
 ·subst e
  rw [hown'] at hb
  exact .inr (hown.lt b hb).1
 ·have : E'.own (.o i) = E.own (.o i) := En.own_eq rfl (fun j hj => by simp only [Pl.o.injEq] at hj; subst hj; simp [E', e])
  rw [this] at hb; exact .inl hb
theorem eff_makeSlice {o : Oper} {t : S} {ty e : TypeId} {k b d : Nat} {n : Int} {z : Value} {lx cx : Operand} (ho : o.op = .makeSlice ty lx cx) (he : slE P ty = some e) (hk : szO P e = some k) (hb : byO P e = some b) (hz : zrO P e = some z)
  (hl : ev t lx = .d (.int .i64 n)) (hc : ev t cx = .d (.int .i64 n)) :
  EffOK P A o t ⟨t (.o d) = .none ∧ 0 ≤ n ∧ n ≤ 1000000 ∧ b * n ≤ 281474976710656 ∧ (zcells z).length = k ∧ 0 < k ∧ (zcells z).all (·.oneCell') = true, pl lx ++ (pl cx ++ [.o d]),
   [(.o d, .row e k (List.replicate n.toNat ((zcells z).map ofCell)) false)], .oref d n.toNat⟩ := fun ⟨hd, hn0, hn1, hnb, hzl, hk0, hz1⟩ t' hr a E hi => by
 have hd' : t' (.o d) = .none := (pl_right (pl_right hr) _ (by simp)).trans hd
 have hl' : ev t' lx = .d (.int .i64 n) := (ev_eq (pl_left hr)).trans hl
 have hc' : ev t' cx = .d (.int .i64 n) := (ev_eq (pl_left (pl_right hr))).trans hc
 have h1 := ev_rel hi lx
 rw [hl'] at h1
 simp only [RelV, Rep] at h1
 have h2 := ev_rel hi cx
 rw [hc'] at h2
 simp only [RelV, Rep] at h2
 rw [zcells_eq] at hzl hz1
 obtain ⟨m, hm⟩ : ∃ m : Nat, n = m := ⟨n.toNat, by omega⟩
 subst hm
 rw [Int.toNat_natCast]
 let ru : Array Value := (Array.range (m * k)).map fun i => z.cells[i % z.cells.size]!
 have hrs : ru.size = m * k := by simp [ru]
 have hln : (List.replicate m ((zcells z).map ofCell)).length = m := by simp
 have hzs : z.cells.size = k := by simpa using hzl
 obtain ⟨E', hw', x, hinv, hval⟩ := hi.newRowV hd' (es := List.replicate m ((zcells z).map ofCell)) (v := .slice (some ⟨E.w.heap.size, 0, none⟩) m m) (us := ru.toList) (e := e) (k := k) (w' := E.w.alloc (.cells ru e))
  (World.grownBy_alloc _ _ _)
  (by
   rw [hln]
   refine ⟨by simp [hrs], .inr ⟨E.w.heap.size, m, ru, rfl, Nat.le_refl _, heap_alloc_new E.w _, Nat.le_refl _, by simp only [maxLen]; omega, by rw [hrs], ?_⟩⟩
   rw [List.take_of_length_le (by simp [hrs])])
  (fun E' hw' x => by
   refine RowRel.of_get fun i el hel => ?_
   rw [List.getElem?_replicate] at hel
   split at hel
   ·rename_i him
    simp only [Option.some.injEq] at hel
    subst hel
    refine ⟨by rw [List.length_map, zcells_eq]; exact hzl, CellsRel.of_get fun j tv hj => ?_⟩
    rw [zcells_eq, List.getElem?_map] at hj
    obtain ⟨u, hu, rfl⟩ := Option.map_eq_some_iff.1 hj
    have hjk : j < k := by have := (List.getElem?_eq_some_iff.1 hu).1; omega
    have hlt : i * k + j < m * k := by
     have : (i + 1) * k ≤ m * k := Nat.mul_le_mul_right k him
     rw [Nat.add_mul, Nat.one_mul] at this; omega
    have hmod : (i * k + j) % k = j := by rw [Nat.add_comm, Nat.add_mul_mod_self_right, Nat.mod_eq_of_lt hjk]
    have hu' : z.cells[j]? = some u := by simpa using hu
    refine ⟨u, ?_, List.all_eq_true.1 hz1 u (List.mem_of_getElem? hu), ofCell_rel E' u⟩
    simp [ru, hlt, hzs, hmod]
    simp [getElem!_def, hu']
   ·simp at hel)
 refine ⟨_, .slice (some ⟨E.w.heap.size, 0, none⟩) m m, E', ?_, .inl rfl, hinv, ?_⟩
 ·unfold slE at he
  split at he
  rotate_left
  ·simp at he
  rename_i e' hu
  simp only [Option.some.injEq] at he; subst he
  unfold szO at hk; unfold zrO at hz; unfold byO at hb
  cases hinf : P.info? e' with
  | none => simp [hinf] at hk
  | some inf =>
  simp only [hinf, Option.map_some, Option.some.injEq, Option.bind_some] at hk hz hb
  have hw : IntKind.i64.wrap (m : Int) = m := by rw [IntKind.wrap_i64]; omega
  have hc1 : ¬ ((m : Int) < 0) := by omega
  have hc2 : ¬ (281474976710656 < (b : Int) * (m : Int)) := by omega
  by_cases hmk : m * k = 0
  ·have hru : ru = #[] := Array.size_eq_zero_iff.1 (by rw [hrs, hmk])
   rw [hru] at hw'
   simp only [execOp, ho, h1, h2, Instr.makeSlice, Sem.run_bind, run_underlying hu, Result.andThen_ok, asInt, asIntOf, Sem.run_pure, typeInfo, sizeOf, run_program, hinf, hk, hb, hw, Int.reducePow, gt_iff_lt, hc1, hc2, Int.lt_irrefl, decide_false, Bool.or_self, Bool.false_eq_true, if_false, run_askRoom, Int.toNat_natCast, hmk, if_true, newRow, run_newObj]
   rw [hw']
   exact congrArg (fun r => Result.ok _ (E.w.alloc (.cells r e'))) (by simp)
  ·simp only [execOp, ho, h1, h2, Instr.makeSlice, Sem.run_bind, run_underlying hu, Result.andThen_ok, asInt, asIntOf, Sem.run_pure, typeInfo, sizeOf, run_program, hinf, hk, hb, hw, Int.reducePow, gt_iff_lt, hc1, hc2, Int.lt_irrefl, decide_false, Bool.or_self, Bool.false_eq_true, if_false, run_askRoom, Int.toNat_natCast, hmk, zeroValue, hz, newRow, run_newObj]
   rw [hw']
   rfl
 ·simp only [RelV]
  rw [hln] at hval
  exact ⟨rfl, k, m, _, hval, Nat.le_refl _, fun _ => rfl⟩
end
end Go.Tr

namespace Go.Tr
open Go
def dLen (k : Nat) (ys : List (List D)) : Prop := ∀ e ∈ ys, e.length = k
section
variable {P : Program} {A : Actv}
theorem eff_slice3 {o : Oper} {t : S} {ty e k : Nat} {x hi mx : Operand} {xs : List (List D)} {kh km : IntKind} {h m : Int} (ho : o.op = .slice ty x none (some hi) (some mx)) (he : slE P ty = some e) (hk : szO P e = some k) (hx : ev t x = .d (.sl xs))
  (hh : ev t hi = .d (.int kh h)) (hm : ev t mx = .d (.int km m)) : EffOK P A o t ⟨(0 ≤ h ∧ h ≤ xs.length ∧ m = h) ∧ ∀ e ∈ xs, e.length = k, pl x ++ (pl hi ++ pl mx), [], .sx (xs.take h.toNat)⟩ :=
 .pure fun ⟨⟨hC1, hC2, hC3⟩, hlen⟩ t' hr a E hin => by
  subst hC3
  have hx' := ev_rel hin x
  rw [ev_eq (pl_left hr), hx] at hx'
  have hhi := ev_rel hin hi
  rw [ev_eq (pl_left (pl_right hr)), hh] at hhi
  have hmx := ev_rel hin mx
  rw [ev_eq (pl_right (pl_right hr)), hm] at hmx
  simp only [RelV, Rep] at hhi hmx
  unfold slE at he
  split at he
  rotate_left
  ·simp at he
  rename_i e' hu
  simp only [Option.some.injEq] at he; subst he
  unfold szO at hk
  cases hinf : P.info? e' with
  | none => simp [hinf] at hk
  | some inf =>
  simp only [hinf, Option.map_some, Option.some.injEq] at hk
  obtain ⟨n, rfl⟩ : ∃ n : Nat, m = n := ⟨m.toNat, by omega⟩
  have hbd : ∀ len c : Nat, n ≤ c → (Instr.sliceBounds true len c none (some (.int kh n)) (some (.int km n))).run P E.w = .ok (0, n, n) E.w := fun len c hc => by
   have : (n : Int) ≤ (c : Int) := by omega
   have h0 : (0 : Int) ≤ (n : Int) := by omega
   simp only [Instr.sliceBounds, Instr.sliceBound, asIntOf, Sem.run_bind, Sem.run_pure, Result.andThen_ok, Sem.run_ite, h0, this, and_self, if_true, pure_bind, Int.toNat_natCast, Int.le_refl]
  simp only [RelV, Rep] at hx'
  simp only [Int.toNat_natCast] at hC2 ⊢
  have htl : (xs.take n).length = n := by simp; omega
  rcases hx' with ⟨h0, ad, c, hux⟩ | ⟨b, of, c, k', hux, hcc, hrows⟩
  ·have hn0 : n = 0 := by omega
   subst hn0
   refine ⟨.slice ad 0 0, ?_, ?_⟩
   ·simp only [execOp, ho, Instr.sliceAt, Sem.run_bind, run_underlying hu, Result.andThen_ok, hux, Option.map_none, Option.map_some, Instr.slice, hhi, hmx, hbd _ _ (Nat.zero_le _), sizeOf, typeInfo, run_program, hinf, Sem.run_pure, hk, Nat.sub_zero, if_true]
   ·simp only [RelV, Rep]
    exact ⟨.inl ⟨by simp, _, _, rfl⟩, ad, by simp⟩
  ·refine ⟨.slice (some ⟨b, of, none⟩) n n, ?_, ?_⟩
   ·have hadd : (some (⟨b, of, none⟩ : Addr)).map (·.add (0 * k)) = some ⟨b, of, none⟩ := by simp [add_lit']
    simp only [execOp, ho, Instr.sliceAt, Sem.run_bind, run_underlying hu, Result.andThen_ok, hux, Option.map_none, Option.map_some, Instr.slice, hhi, hmx, hbd _ c (by omega), sizeOf, typeInfo, run_program, hinf, Sem.run_pure, hk, Nat.sub_zero]
    simp [add_lit']
   ·simp only [RelV, Rep]
    refine ⟨?_, some ⟨b, of, none⟩, by rw [htl]⟩
    by_cases hz : n = 0
    ·exact .inl ⟨by omega, _, _, by rw [hz]⟩
    ·refine .inr ⟨b, of, n, k', by rw [htl], by omega, RepRows.of_get fun i el hel => ?_⟩
     have hel' : xs[i]? = some el := by
      rw [List.getElem?_take] at hel
      split at hel
      ·exact hel
      ·simp at hel
     exact hrows.get hel'
theorem eff_append_sx {o : Oper} {t : S} {x y : Operand} {sty : TypeId} {d e k b : Nat} {xs : List (List D)} {ys : List (List TV)} {rp : List Pl} {z : Value}
  (ho : o.op = .call { callee := .builtin .append, args := #[x, y], argTypes := #[sty, sty] }) (hx : ev t x = .sx xs) (hs : Src t (ev t y) rp ys)
  (he : slE P sty = some e) (hk : szO P e = some k) (hb : byO P e = some b) (hz : zrO P e = some z) (hzs : (zcells z).length = k) (_hk0 : 0 < k) :
  EffOK P A o t ⟨(t (.o d) = .none ∧ dLen k xs) ∧ 0 < ys.length ∧ appOK k b xs.length ys, pl x ++ (pl y ++ (.o d :: rp)), [(.o d, .row e k (dd xs ++ ys) false)], .oref d (xs.length + ys.length)⟩ := fun ⟨⟨hd, hxl0⟩, hpos, hlen, hroom, hroom2⟩ t' hr a E hi => by
 have hxl : ∀ e ∈ dd xs, e.length = k := fun e he => by
  simp only [dd, List.mem_map] at he
  obtain ⟨e0, h0, rfl⟩ := he
  simpa using hxl0 e0 h0
 have hx' := ev_rel hi x
 rw [ev_eq (pl_left hr), hx] at hx'
 simp only [RelV] at hx'
 obtain ⟨hx1, ad1, hux⟩ := hx'
 have hy' := ev_rel hi y
 rw [ev_eq (pl_left (pl_right hr))] at hy'
 have hr3 := pl_right (pl_right hr)
 have hd' : t' (.o d) = .none := (hr3 _ (by simp)).trans hd
 obtain ⟨ad, c, news, hu, hnl, hrow, hone, hsrc⟩ := hs.rel hlen (fun p hp => hr3 p (by simp [hp])) hi hy'
 obtain ⟨ad2, c2, olds, hu2, hol, hrow2, _, hsrc2⟩ := (Src.sl (t := t') xs).rel hxl (fun p hp => by simp at hp) hi (u := a.eval x) (by simp only [RelV]; exact hx1)
 have hxn : (xs.map (·.map TV.d)).length = xs.length := by simp
 rw [hxn] at hol hu2 hsrc2
 have had : ad2 = ad1 := by rw [hux] at hu2; simp only [Value.slice.injEq] at hu2; exact hu2.1.symm
 subst had
 rcases hsrc with h0 | ⟨a0, rfl, hcells⟩
 ·omega
 unfold slE at he
 split at he
 rotate_left
 ·simp at he
 rename_i e' hun
 simp only [Option.some.injEq] at he
 subst he
 unfold szO at hk; unfold byO at hb; unfold zrO at hz
 cases hinf : P.info? e' with
 | none => simp [hinf] at hk
 | some inf =>
 simp only [hinf, Option.map_some, Option.some.injEq, Option.bind_some] at hk hb hz
 subst hk hb
 have hzc : z.cells.size = inf.size := by rw [← hzs, zcells_eq]; simp
 let cap := grownCap E.w (xs.length + ys.length) xs.length e'
 let w' := E.w.drew.alloc (.cells (olds.toArray ++ news.toArray ++ Builtin.zeroCells z.cells (cap - (xs.length + ys.length))) e')
 have hge : xs.length + ys.length ≤ cap := grownCap_ge E.w _ _ e'
 have hcm : cap ≤ maxLen := grownCap_le_maxLen E.w _ _ e' (by simp only [maxLen]; omega)
 have hrun : (Builtin.append_ #[sty, sty] o.type #[a.eval x, a.eval y]).run P E.w = .ok (.slice (some ⟨E.w.heap.size, 0, none⟩) (xs.length + ys.length) cap) w' := by
  rw [hux, hu]
  cases ad2 with
  | none =>
    have h0 : xs.length = 0 := by
     rcases hsrc2 with h | ⟨a1, h, _⟩
     ·exact h
     ·simp at h
    have ho0 : olds = [] := List.eq_nil_of_length_eq_zero (by rw [hol, h0]; simp)
    have hr0 : ys.length * inf.bytes ≤ 140737488355328 := by rw [h0, Nat.zero_add] at hroom; exact hroom
    have := run_append_nil (P := P) E.w sty o.type e' inf z hun hinf hz a0 ys.length c news hnl hcells hpos (by omega) (by omega)
    rw [h0, this]
    simp only [w', cap, h0, ho0, Nat.zero_add, Array.empty_append]
  | some a1 =>
    have holds : ∀ j v, olds[j]? = some v → E.w.cell? (a1.add j) = some v := by
     rcases hsrc2 with h | ⟨a2, h1, h2⟩
     ·intro j v hj
      rw [h] at hol
      have e0 : olds = [] := List.eq_nil_of_length_eq_zero (by rw [hol]; simp)
      rw [e0] at hj
      simp at hj
     ·simp only [Option.some.injEq] at h1; subst h1; exact h2
    exact run_append_grow (P := P) E.w sty o.type e' inf z hun hinf hz a1 xs.length xs.length olds hol holds a0 ys.length c news hnl hcells (by omega) (by omega) (growslice_fits (by omega) hroom)
 have hgr : E.w.grownBy w' none := ⟨rfl, rfl, rfl, by simp [w'], fun k hk _ => heap_alloc_old E.w.drew _ k hk⟩
 have hdl : (dd xs ++ ys).length = xs.length + ys.length := by simp [dd]
 obtain ⟨E', hw', x', hinv, hval⟩ := hi.newRowV hd' (es := dd xs ++ ys) (v := .slice (some ⟨E.w.heap.size, 0, none⟩) (xs.length + ys.length) cap) (us := olds ++ news) (e := e') (k := inf.size) (w' := w') hgr
  (by
   rw [hdl]
   refine ⟨by rw [List.length_append, hol, hnl, Nat.add_mul], .inr ⟨E.w.heap.size, cap, _, rfl, Nat.le_refl _, heap_alloc_new E.w.drew _, hge, hcm, ?_, ?_⟩⟩
   ·simp only [Array.size_append, List.size_toArray, size_zeroCells, hzc, hol, hnl, ← Nat.add_mul]
    congr 1
    omega
   ·simp only [Array.toList_append, List.append_assoc]
    rw [← List.append_assoc, Nat.add_mul, ← hol, ← hnl, ← List.length_append]
    exact List.take_left)
  (fun E' hw' x' => RowRel.app (by rw [hol]; simp [dd]) (hrow2.up x') (hrow.up x'))
 refine ⟨_, .slice (some ⟨E.w.heap.size, 0, none⟩) (xs.length + ys.length) cap, E', run_app_op ho (by rw [hw']; exact hrun), .inl rfl, hinv, ?_⟩
 simp only [RelV]
 rw [hdl] at hval
 exact ⟨rfl, inf.size, _, _, hval, Nat.le_refl _, fun _ => rfl⟩
theorem eff_append_sx0 {o : Oper} {t : S} {x y : Operand} {sty : TypeId} {e k : Nat} {xs : List (List D)} {ys : List (List TV)} {rp : List Pl}
  (ho : o.op = .call { callee := .builtin .append, args := #[x, y], argTypes := #[sty, sty] }) (hx : ev t x = .sx xs) (hs : Src t (ev t y) rp ys)
  (he : slE P sty = some e) (hk : szO P e = some k) : EffOK P A o t ⟨ys.length = 0, pl x ++ (pl y ++ rp), [], .d (.sl xs)⟩ := .pure fun h0 t' hr a E hi => by
 have hx' := ev_rel hi x
 rw [ev_eq (pl_left hr), hx] at hx'
 simp only [RelV] at hx'
 obtain ⟨hx1, ad1, hux⟩ := hx'
 have hy' := ev_rel hi y
 rw [ev_eq (pl_left (pl_right hr))] at hy'
 have hys : ys = [] := List.eq_nil_of_length_eq_zero h0
 obtain ⟨ad, c, news, hu, hnl, _, _, _⟩ := hs.rel (k := k) (fun e he => by subst hys; simp at he) (fun p hp => pl_right (pl_right hr) p hp) hi hy'
 rw [h0] at hu
 unfold slE at he
 split at he
 rotate_left
 ·simp at he
 rename_i e' hun
 simp only [Option.some.injEq] at he
 subst he
 unfold szO at hk
 cases hinf : P.info? e' with
 | none => simp [hinf] at hk
 | some inf =>
 refine ⟨.slice ad1 xs.length xs.length, run_app_op ho ?_, by simp only [RelV]; rw [← hux]; exact hx1⟩
 rw [hux, hu]
 cases ad <;> cases ad1 <;> simp [Builtin.append_, run_underlying hun, sizeOf, typeInfo, hinf, Builtin.lenOf, Builtin.firstCells, storeCells, loadCells, loadCellsFrom]
theorem eff_buildSlice_row {o : Oper} {t : S} {ty e k n d : Nat} {ps : List (Nat × Operand)} {z : Value} (ho : o.op = .buildSlice ty n ps.toArray) (he : slE P ty = some e) (hk : szO P e = some k) (hz : zrO P e = some z)
  (hseq : seqParts ps n = true) :
  EffOK P A o t ⟨t (.o d) = .none ∧ (∀ e ∈ ps.map (fun x => (ev t x.2).cells), e.length = k ∧ ∀ c ∈ e, c.one = true) ∧ n * k ≤ 16777216 ∧ 0 < k, ps.flatMap (fun x => pl x.2) ++ [.o d], [(.o d, .row e k (ps.map fun x => (ev t x.2).cells) false)], .oref d n⟩ := fun ⟨hd, hC, hsm, hk0⟩ t' hr a E hi => by
 have hseq' : ps.map (·.1) = List.range n := by simpa [seqParts] using hseq
 have hn : ps.length = n := by have := congrArg List.length hseq'; simpa using this
 rw [List.range_eq_range', ← hn] at hseq'
 have hd' : t' (.o d) = .none := (pl_right hr _ (by simp)).trans hd
 have hr1 := pl_left hr
 have hev : (ps.map fun x => ev t' x.2) = ps.map fun x => ev t x.2 :=
  List.map_congr_left fun x hx => ev_eq fun p hp => hr1 p (List.mem_flatMap.2 ⟨x, hx, hp⟩)
 let vs := ps.map fun x => ev t x.2
 let us := ps.map fun x => a.eval x.2
 have hrel : RelVs E vs us := by
  have := evs_rel hi (ps.map (·.2))
  simp only [List.map_map] at this
  have h2 : (List.map (ev t' ∘ fun x => x.2) ps) = vs := hev
  rw [h2] at this
  exact this
 have hCm : ∀ v ∈ vs, v.cells.length = k ∧ ∀ c ∈ v.cells, c.one = true := fun v hv => by
  simp only [vs, List.mem_map] at hv
  obtain ⟨x, hx, rfl⟩ := hv
  exact hC _ (List.mem_map.2 ⟨x, hx, rfl⟩)
 have hvl : vs.length = n := by simp [vs, hn]
 obtain ⟨ru, hrun, hsz, hrel2⟩ := run_buildSlice (P := P) he hk hz hrel (fun v hv => (hCm v hv).1) (fun v hv => (hCm v hv).2) (by rw [hvl]; exact hsm)
 have hmap : ps.map (fun x => (ev t x.2).cells) = vs.map TV.cells := by simp [vs, Function.comp_def]
 have hln : (vs.map TV.cells).length = n := by simp [hvl]
 have hnk : n ≤ 16777216 := Nat.le_trans (Nat.le_mul_of_pos_right n hk0) hsm
 obtain ⟨E', hw', x, hinv, hval⟩ := hi.newRowV hd' (es := vs.map TV.cells) (v := .slice (some ⟨E.w.heap.size, 0, none⟩) n n) (us := ru.toList) (e := e) (k := k) (w' := E.w.alloc (.cells ru e)) (World.grownBy_alloc _ _ _)
  (by
   rw [hln]
   refine ⟨by simp [hsz, hvl], .inr ⟨E.w.heap.size, n, ru, rfl, Nat.le_refl _, heap_alloc_new E.w _, Nat.le_refl _, by simp only [maxLen]; omega, by rw [hsz, hvl], ?_⟩⟩
   rw [List.take_of_length_le (by simp [hsz, hvl])])
  (fun E' hw' x => by
   refine RowRel.of_get fun i el hel => ?_
   simp only [List.getElem?_map, Option.map_eq_some_iff] at hel
   obtain ⟨v, h3, rfl⟩ := hel
   refine ⟨(hCm v (List.mem_of_getElem? h3)).1, CellsRel.of_get fun j tv hj => ?_⟩
   have hfl : (vs.flatMap TV.cells)[i * k + j]? = some tv := flat_get (fun v hv => (hCm v hv).1) h3 hj
   obtain ⟨u, h6, h7⟩ := hrel2.get hfl
   refine ⟨u, by simpa using h6, h7.one ((hCm v (List.mem_of_getElem? h3)).2 tv (List.mem_of_getElem? hj)), h7.up x⟩)
 refine ⟨_, .slice (some ⟨E.w.heap.size, 0, none⟩) n n, E', ?_, .inl rfl, by rw [hmap]; exact hinv, ?_⟩
 ·have hz2 := parts_zip (fun x => a.eval x) ps 0 hseq'
  simp only [execOp, ho, List.map_toArray, hz2, Sem.run_bind, hw']
  rw [← hvl, hrun]
  rfl
 ·simp only [RelV]
  rw [hln] at hval
  exact ⟨rfl, k, n, _, hval, Nat.le_refl _, fun _ => rfl⟩
end
end Go.Tr

namespace Go.Tr
open Go
section
variable {P : Program} {A : Actv}
theorem que_cur {t : S} {a : Act} {E : En} (hi : InvE A t a E) {id k : Nat} {e : TypeId} {es : List (List TV)} (ht : t (.o id) = .que e k es) :
  E.blk (.o id) = none ∧ ∃ v us, E.val id = some (k, es.length, v) ∧ ownsQ E.w e k v es.length us ∧ RowRel E us k 0 es ∧ (∀ u, RelV E (.oref id es.length) u → u = v) := by
 have := hi.h.item (.o id) (by simp)
 rw [ht] at this
 obtain ⟨h0, id', v, us, hid, h1, h2, h3⟩ := this
 simp only [Pl.o.injEq] at hid
 subst hid
 refine ⟨h0, v, us, h1, h2, h3, fun u hu => ?_⟩
 simp only [RelV] at hu
 obtain ⟨_, k', c, v', hv, _, he⟩ := hu
 rw [h1] at hv
 simp only [Option.some.injEq, Prod.mk.injEq] at hv
 obtain ⟨rfl, rfl, rfl⟩ := hv
 exact he rfl
theorem q_cell {w : World} {e : TypeId} {k n g o : Nat} {cur : Array Value} {us : List Value} (hg : w.heap[g]? = some (.cells cur e (0, 0))) (ht : (cur.toList.drop o).take (n * k) = us) :
  ∀ j u, us[j]? = some u → w.cell? ⟨g, o + j, none⟩ = some u := fun j u hj => by
 rw [cell_of_row w g (o + j) cur e (0, 0) hg]
 rw [← ht, List.getElem?_take] at hj
 split at hj
 ·rw [List.getElem?_drop] at hj
  simpa using hj
 ·simp at hj
theorem eff_len_que {o : Oper} {t : S} {x : Operand} {ty e : TypeId} {id n k : Nat} {e' : TypeId} {es : List (List TV)} (ho : o.op = .call { callee := .builtin .len, args := #[x], argTypes := #[ty] }) (he : slE P ty = some e) (hx : ev t x = .oref id n)
  (ht : t (.o id) = .que e' k es) : EffOK P A o t ⟨n = es.length, pl x ++ [.o id], [], .d (.int .i64 n)⟩ :=
 .pure fun hC t' hr a E hi => by
  have hx' := ev_rel hi x
  rw [ev_eq (pl_left hr), hx] at hx'
  have ht' : t' (.o id) = .que e' k es := (pl_right hr _ (by simp)).trans ht
  subst hC
  obtain ⟨_, v, us, h2, h3, h4, h5⟩ := que_cur hi ht'
  have hv := h5 _ hx'
  unfold slE at he
  split at he
  ·rename_i e' hu
   obtain ⟨_, g, of, cap, cur, rfl, _⟩ := h3
   refine ⟨_, ?_, rfl⟩
   simp [execOp, ho, resolve, invoke, builtin, hv, Builtin.len_, run_underlying hu, goInt]
  ·simp at he
theorem eff_indexAddr_que {o : Oper} {t : S} {ty : TypeId} {x ix : Operand} {e k id n : Nat} {e' : TypeId} {es : List (List TV)} {ik : IntKind} {i : Int} (ho : o.op = .indexAddr ty x ix) (he : slE P ty = some e) (hk : szO P e = some k)
  (hx : ev t x = .oref id n) (hix : ev t ix = .d (.int ik i)) (ht : t (.o id) = .que e' k es) :
  EffOK P A o t ⟨n = es.length ∧ 0 ≤ i ∧ i < es.length, pl x ++ (pl ix ++ [.o id]), [], .eptr id n i.toNat 0⟩ :=
 .pure fun ⟨hn, h0, h1⟩ t' hr a E hi => by
  have hx' := ev_rel hi x
  rw [ev_eq (pl_left hr), hx] at hx'
  have hix' := ev_rel hi ix
  rw [ev_eq (pl_left (pl_right hr)), hix] at hix'
  simp only [RelV, Rep] at hix'
  subst hn
  have ht' : t' (.o id) = .que e' k es := (pl_right (pl_right hr) _ (by simp)).trans ht
  obtain ⟨_, v, us, h2, h3, h4, h5⟩ := que_cur hi ht'
  have hu := h5 _ hx'
  obtain ⟨_, g, of, cap, cur, rfl, _⟩ := h3
  refine ⟨.pointer (some ⟨g, of + i.toNat * k, none⟩), ?_, ?_⟩
  ·simp [execOp, ho, hu, hix', run_indexAt_sl he hk _ _ _ _ _ h0 h1, add_lit']
  ·simp only [RelV]
   exact ⟨rfl, k, _, _, h2, Nat.le_refl _, fun _ => ⟨g, of, cap, rfl, by simp⟩⟩
theorem eff_load_que {o : Oper} {t : S} {ty : TypeId} {x : Operand} {id n i q k : Nat} {e : TypeId} {es : List (List TV)} {v : TV} (ho : o.op = .load ty x) (hx : ev t x = .eptr id n i q) (ht : t (.o id) = .que e k es)
  (h : (shp P ty = some false ∧ (es.getD i [])[q]? = some v) ∨ (∃ z, shp P ty = some true ∧ szO P ty = some z ∧ q + z ≤ (es.getD i []).length ∧ v = .agg (((es.getD i []).drop q).take z))) :
  EffOK P A o t ⟨n = es.length ∧ i < es.length, pl x ++ [.o id], [], v⟩ :=
 .pure fun ⟨hn, hil⟩ t' hr a E hi => by
  have hx' := ev_rel hi x
  rw [ev_eq (pl_left hr), hx] at hx'
  have ht' : t' (.o id) = .que e k es := (pl_right hr _ (by simp)).trans ht
  subst hn
  obtain ⟨_, v0, us, h1, h2, h3, _⟩ := que_cur hi ht'
  simp only [RelV] at hx'
  obtain ⟨_, k', c, v', hv, _, he⟩ := hx'
  rw [h1] at hv
  simp only [Option.some.injEq, Prod.mk.injEq] at hv
  obtain ⟨rfl, rfl, rfl⟩ := hv
  obtain ⟨b, of, cp, rfl, hu⟩ := he rfl
  obtain ⟨hl0, g, of', cap, cur, hval, hg, hnc, hcm, hcs, htk⟩ := h2
  simp only [Value.slice.injEq, Option.some.injEq, Addr.mk.injEq] at hval
  obtain ⟨⟨rfl, rfl, _⟩, _, rfl⟩ := hval
  have hgt : es[i]? = some (es.getD i []) := by simp [List.getD, hil]
  obtain ⟨h4, h5⟩ := h3.get hgt
  simp only [Nat.zero_add] at h5
  have hcell := q_cell (n := es.length) (k := k) hg htk
  rcases h with ⟨h6, h7⟩ | ⟨z, h6, h7, h8, rfl⟩
  ·obtain ⟨u, h8, h9, h10⟩ := h5.get h7
   refine ⟨u, ?_, h10⟩
   have hc1 := hcell _ _ h8
   rw [← Nat.add_assoc] at hc1
   simp [execOp, ho, hu, Instr.loadAt, Instr.sureAddr, run_load_one h6 hc1]
  ·have hc' := (h5.sub q z).vals
   have hl : (((es.getD i []).drop q).take z).length = z := by simp at h8 ⊢; omega
   rw [hl] at hc'
   refine ⟨.agg ((us.drop (i * k + q)).take z).toArray, ?_, ?_⟩
   ·have hra : E.w.rangeAt b (of + i * k + q) ((us.drop (i * k + q)).take z) := fun j v hj => by
     rw [List.getElem?_take] at hj
     split at hj
     ·rw [List.getElem?_drop] at hj
      have := hcell _ _ hj
      rw [show of + i * k + q + j = of + (i * k + q + j) by omega]
      exact this
     ·simp at hj
    simp only [execOp, ho, hu, Instr.loadAt, Instr.sureAddr, Sem.run_bind, Sem.run_pure, Result.andThen_ok, run_load_agg h6 h7 hc'.2 hra]
   ·simp only [RelV]; exact ⟨_, rfl, hc'.1⟩
theorem eff_slice_que {o : Oper} {t : S} {ty e k id n : Nat} {e' : TypeId} {x lo : Operand} {es : List (List TV)} {ik : IntKind} {l : Int} (ho : o.op = .slice ty x (some lo) none none) (he : slE P ty = some e) (hk : szO P e = some k)
  (hx : ev t x = .oref id n) (hl : ev t lo = .d (.int ik l)) (ht : t (.o id) = .que e' k es) :
  EffOK P A o t ⟨n = es.length ∧ 0 ≤ l ∧ l ≤ es.length, pl x ++ (pl lo ++ [.o id]), [], .osl id n l.toNat⟩ :=
 .pure fun ⟨hn, h0, h1⟩ t' hr a E hi => by
  have hx' := ev_rel hi x
  rw [ev_eq (pl_left hr), hx] at hx'
  have hlo := ev_rel hi lo
  rw [ev_eq (pl_left (pl_right hr)), hl] at hlo
  subst hn
  have ht' : t' (.o id) = .que e' k es := (pl_right (pl_right hr) _ (by simp)).trans ht
  obtain ⟨_, v, us, h2, h3, h4, h5⟩ := que_cur hi ht'
  have hu := h5 _ hx'
  obtain ⟨hl0, g, of, cap, cur, rfl, hg, hnc, hcm, hcs, htk⟩ := h3
  unfold slE at he
  split at he
  rotate_left
  ·simp at he
  rename_i e' hun
  simp only [Option.some.injEq] at he; subst he
  unfold szO at hk
  cases hinf : P.info? e' with
  | none => simp [hinf] at hk
  | some inf =>
  simp only [hinf, Option.map_some, Option.some.injEq] at hk
  have hcut : cutB es.length (some (.d (.int ik l))) none = some (0 ≤ l ∧ l ≤ es.length, l.toNat, es.length) := by
   simp [cutB, asInt?]
  obtain ⟨hb, _, _⟩ := run_sliceBounds_eq (P := P) (isS := true) (cap := cap) hcut ⟨h0, by omega⟩ hnc (E := E) (ulo := some (a.eval lo)) (uhi := none)
   (fun v hv => ⟨_, rfl, by simp only [Option.some.injEq] at hv; subst hv; exact hlo⟩) (fun h => by simp at h) (fun v hv => by simp at hv) (fun _ => rfl) E.w
  refine ⟨.slice (some ⟨g, if cap - l.toNat = 0 then of else of + l.toNat * k, none⟩) (es.length - l.toNat) (cap - l.toNat), ?_, ?_⟩
  ·simp only [execOp, ho, Instr.sliceAt, Sem.run_bind, run_underlying hun, Result.andThen_ok, hu, Option.map_none, Option.map_some, Instr.slice, hb, sizeOf, typeInfo, run_program, hinf, Sem.run_pure, hk]
   by_cases hne : cap - l.toNat = 0
   ·simp [hne]
    intro hc
    omega
   ·simp [hne, add_lit']
    intro hc
    omega
  ·simp only [RelV]
   refine ⟨rfl, k, _, _, h2, Nat.le_refl _, fun _ => ⟨g, of, cap, _, rfl, by omega, ?_, rfl⟩⟩
   by_cases hne : cap - l.toNat = 0
   ·exact .inr ⟨by rw [if_pos hne], hne⟩
   ·exact .inl (by rw [if_neg hne])
end
end Go.Tr

namespace Go.Tr
open Go
section
variable {P : Program} {A : Actv}
theorem ownsQ.lt {w : World} {e : TypeId} {k n : Nat} {v : Value} {xs : List Value} (h : ownsQ w e k v n xs) : ∀ b, v.ownBlock = some b → b < w.heap.size := by
 obtain ⟨_, g, o, cap, cur, rfl, hg, _⟩ := h
 intro b hb
 simp only [Value.ownBlock, Option.some.injEq] at hb
 subst hb
 exact (Array.getElem?_eq_some_iff.1 hg).1
theorem que_no_st {t : S} {a : Act} {E : En} (hi : InvE A t a E) {id k : Nat} {e : TypeId} {es : List (List TV)} (ht : t (.o id) = .que e k es) {b o : Nat} (h : E.St b o) : E.own (.o id) ≠ some b := fun h2 => by
 obtain ⟨e2, k2, es2, h1, _⟩ := hi.h.sep b o h _ h2
 rw [ht] at h1; simp at h1
theorem InvE.queStep {t : S} {a : Act} {E : En} (hi : InvE A t a E) {id k : Nat} {e : TypeId} {es es' : List (List TV)} (ht : t (.o id) = .que e k es)
  {v v' : Value} {us' : List Value} {w' : World} (hval : E.val id = some (k, es.length, v)) (hg : E.w.grownBy w' v.ownBlock) (hown : ownsQ w' e k v' es'.length us')
  (hle : es.length ≤ es'.length) (heq : es.length = es'.length → v' = v) (hob : v'.ownBlock = v.ownBlock ∨ v'.ownBlock = some E.w.heap.size)
  (hrel : ∀ E' : En, E'.w = w' → ExtA E E' → RowRel E' us' k 0 es') :
  ∃ E' : En, E'.w = w' ∧ ExtA E E' ∧ InvE A (upd t (.o id) (.que e k es')) a E' ∧ E'.val id = some (k, es'.length, v') := by
 have hit := hi.h.item (.o id) (by simp)
 rw [ht] at hit
 obtain ⟨hb0, _⟩ := hit
 have hownp : E.own (.o id) = v.ownBlock := by simp [En.own, hb0, hval]
 have hst : ∀ b o, E.St b o → atW w' b o = atW E.w b o := fun b o hs =>
  atW_of_block (hg.block b (hi.h.stsz _ _ hs) (fun e' => que_no_st hi ht hs (hownp.trans e'.symm)))
 let E' : En := { E with w := w', val := fun i => if i = id then some (k, es'.length, v') else E.val i }
 have hv' : E'.val id = some (k, es'.length, v') := by simp [E']
 have hownp' : E'.own (.o id) = v'.ownBlock := by simp [En.own, E', hb0]
 have x : ExtA E E' := by
  refine ⟨fun _ _ h => h, hst, fun _ _ _ h => h, fun _ _ h => h, fun _ _ h => h, fun i k' c u _ hu => ?_⟩
  by_cases e : i = id
  ·subst e
   rw [hval] at hu
   simp only [Option.some.injEq, Prod.mk.injEq] at hu
   obtain ⟨rfl, rfl, rfl⟩ := hu
   exact ⟨_, _, hv', hle, heq⟩
  ·exact ⟨c, u, by simp [E', e, hu], Nat.le_refl _, fun _ => rfl⟩
 have hothb : ∀ q b, q ≠ .o id → E.own q = some b → w'.heap[b]? = E.w.heap[b]? := fun q b hq hb => by
  refine hg.block b (hi.h.size q b hb) (fun e => hq (hi.h.inj _ _ b hb ?_))
  rw [hownp, ← e]
 have hH : HInv E' (upd t (.o id) (.que e k es')) := by
  refine hi.h.change (by simp) x (fun b o h => .inl h) (fun q hq => rfl) (fun i hne => ?_) hg.size hothb (fun b hb => ?_) ⟨hb0, id, v', us', rfl, hv', hown, hrel E' rfl x⟩ (fun b o hs hb => ?_)
  ·have hne' : i ≠ id := fun e => hne (by rw [e])
   simp [E', hne']
  ·rw [hownp'] at hb
   rw [hownp]
   exact ⟨hown.lt b hb, hob.elim (fun e => .inl (e ▸ hb)) (fun e => .inr (by rw [e] at hb; simp at hb; omega))⟩
  ·rw [hownp'] at hb
   rcases hob with e' | e'
   ·exact absurd (by rw [hownp, ← e', hb]) (que_no_st hi ht hs)
   ·rw [e'] at hb; simp at hb
    have := hi.h.stsz _ _ hs
    omega
 refine ⟨E', rfl, x, hi.step hH x (hi.fr.next hg.os hg.tape hg.output hg.size (fun b h1 h2 h3 => hg.block b (Nat.lt_of_lt_of_le h1 hi.fr.size) (fun e => ?_)) (fun _ => rfl) (fun i b hb => ?_) (fun _ _ h => h) (fun _ _ h => .inl h)) (fun k => upd_s (by simp) k), hv'⟩
 ·exact (hi.fr.new id b (by rw [hownp, ← e])).elim (fun h => by omega) (fun ⟨j, h⟩ => h3 j h)
 ·by_cases e : i = id
  ·subst e
   rw [hownp'] at hb
   rw [hownp]
   exact hob.elim (fun e => .inl (e ▸ hb)) (fun e => .inr (by rw [e] at hb; simp at hb; omega))
  ·have : E'.own (.o i) = E.own (.o i) := En.own_eq rfl (fun j hj => by simp only [Pl.o.injEq] at hj; subst hj; simp [E', e])
   rw [this] at hb; exact .inl hb
theorem run_append_q {w : World} {t e : Nat} {ty : TypeId} {inf : TypeInfo} {z : Value} {size bytes : Nat} (ht : P.underlying t = some (.slice e)) (hi : P.info? e = some inf) (hz : inf.zero = some z)
  (hsize : inf.size = size) (hby : inf.bytes = bytes) (hzs : z.cells.size = size) {v : Value} {n : Nat} {xs : List Value} (hown : ownsQ w e size v n xs)
  {a : Addr} {m c : Nat} {news : List Value} (hl : news.length = m * size) (hnews : ∀ j u, news[j]? = some u → w.cell? (a.add j) = some u) (h1 : ∀ u ∈ news, u.oneCell' = true)
  (h63 : n + m ≤ maxLen) (hbytes : (n + m) * bytes ≤ 140737488355328) :
  ∃ v' w', (Builtin.append_ #[t, t] ty #[v, .slice (some a) m c]).run P w = .ok v' w' ∧ ownsQ w' e size v' (n + m) (xs ++ news) ∧ v'.oneCell' = true ∧
   ((v'.ownBlock = v.ownBlock ∧ w.grownBy w' v.ownBlock) ∨ (v'.ownBlock = some w.heap.size ∧ w.grownBy w' none)) := by
 subst hsize
 subst hby
 have hsmall : n + m ≤ 9223372036854775807 := by simp only [maxLen] at h63; omega
 have hlen : (xs ++ news).length = (n + m) * inf.size := by rw [List.length_append, hown.1, hl, Nat.add_mul]
 obtain ⟨hx0, g, o, cap, cur, rfl, hg, hnc, hcm, hcs, htake⟩ := hown
 by_cases hroom : n + m ≤ cap
 ·have hm : (n + m) * inf.size ≤ cap * inf.size := Nat.mul_le_mul_right _ hroom
  rw [Nat.add_mul] at hm
  have hfit : (o + n * inf.size) + 0 + news.length ≤ cur.size := by rw [hl]; omega
  have hf := run_firstCells_some (P := P) w inf.size m a m c news hl hnews
  have hst := run_storeCells_at P g (o + n * inf.size) e news 0 cur w hg hfit h1
  simp only [Nat.add_zero] at hst
  refine ⟨.slice (some ⟨g, o, none⟩) (n + m) cap, w.setRow g (cur.toList.take (o + n * inf.size) ++ news ++ cur.toList.drop (o + n * inf.size + news.length)).toArray, ?_, ⟨hlen, g, o, cap, _, rfl, setRow_heap w g cur _ e _ hg, hroom, hcm, ?_, ?_⟩, rfl, .inl ⟨rfl, ⟨rfl, rfl, rfl, by simp, fun k _ hk => setRow_other w g k _ (fun e => hk (by simp [Value.ownBlock, e]))⟩⟩⟩
  ·simp [Builtin.append_, run_underlying ht, sizeOf, typeInfo, hi, Builtin.lenOf, hroom, hf, add_lit', hst]
  ·simp only [List.size_toArray, List.length_append, List.length_take, List.length_drop, Array.length_toList]
   omega
  ·have e1 : (cur.toList.take (o + n * inf.size)).drop o = xs := by
    rw [List.drop_take, ← htake]; congr 1; omega
   have e2 : o ≤ (cur.toList.take (o + n * inf.size)).length := by
    simp only [List.length_take, Array.length_toList]; omega
   simp only [List.append_assoc]
   rw [List.drop_append_of_le_length e2, e1, ← List.append_assoc, ← hlen]
   exact List.take_left
 ·have holds : ∀ j u, xs[j]? = some u → w.cell? ((⟨g, o, none⟩ : Addr).add j) = some u := fun j u hj => by
   rw [add_lit']; exact q_cell hg htake j u hj
  have hr := run_append_grow (P := P) w t ty e inf z ht hi hz ⟨g, o, none⟩ n cap xs hx0 holds a m c news hl hnews (by omega) (by omega) (growslice_fits (by omega) hbytes)
  have hge := grownCap_ge w (n + m) cap e
  have hcm' : grownCap w (n + m) cap e ≤ maxLen := grownCap_le_maxLen w (n + m) cap e h63
  refine ⟨_, _, hr, ⟨hlen, w.heap.size, 0, _, _, rfl, heap_alloc_new w.drew _, hge, hcm', ?_, ?_⟩, rfl, .inr ⟨rfl, ⟨rfl, rfl, rfl, by simp, fun k hk _ => heap_alloc_old w.drew _ k hk⟩⟩⟩
  ·simp only [Array.size_append, List.size_toArray, size_zeroCells, hzs, hx0, hl, ← Nat.add_mul, Nat.zero_add]
   exact Nat.mul_le_mul_right _ (by omega)
  ·simp only [Array.toList_append, List.append_assoc, List.drop_zero]
   rw [← List.append_assoc, ← hlen]
   exact List.take_left
theorem run_append_q0 {w : World} {t e : Nat} {ty : TypeId} {inf : TypeInfo} (ht : P.underlying t = some (.slice e)) (hi : P.info? e = some inf) {v : Value} {n size : Nat} {xs : List Value}
  (hown : ownsQ w e size v n xs) (ad : Option Addr) (c : Nat) : (Builtin.append_ #[t, t] ty #[v, .slice ad 0 c]).run P w = .ok v w := by
 obtain ⟨_, g, o, cap, cur, rfl, _, hnc, _⟩ := hown
 cases ad <;> simp [Builtin.append_, run_underlying ht, sizeOf, typeInfo, hi, Builtin.lenOf, Builtin.firstCells, hnc, storeCells, loadCells, loadCellsFrom]
theorem InvE.appendQ {t : S} {a : Act} {E : En} (hi : InvE A t a E) {id e k b : Nat} {es : List (List TV)} (ht : t (.o id) = .que e k es) {sty ty : TypeId} (he : slE P sty = some e) (hk : szO P e = some k) (hb : byO P e = some b)
  {z : Value} (hz : zrO P e = some z) (hzs : (zcells z).length = k) (_hk0 : 0 < k) {u : Value} (hu : RelV E (.oref id es.length) u)
  {ys : List (List TV)} {ad : Option Addr} {c : Nat} {news : List Value} (hnl : news.length = ys.length * k) (hrow : RowRel E news k 0 ys) (hone : ∀ v ∈ news, v.oneCell' = true)
  (hsrc : ys.length = 0 ∨ ∃ a0, ad = some a0 ∧ ∀ j v, news[j]? = some v → E.w.cell? (a0.add j) = some v)
  (hroom : (es.length + ys.length) * b ≤ 140737488355328) (hroom2 : es.length + ys.length ≤ 9223372036854775807) :
  ∃ (v' : Value) (E' : En), (Builtin.append_ #[sty, sty] ty #[u, .slice ad ys.length c]).run P E.w = .ok v' E'.w ∧ InvE A (upd t (.o id) (.que e k (es ++ ys))) a E' ∧ RelV E' (.oref id (es.length + ys.length)) v' := by
 obtain ⟨hblk, v, us, hval, hown, hrel, hcur⟩ := que_cur hi ht
 have hv := hcur _ hu
 subst hv
 unfold slE at he
 split at he
 rotate_left
 ·simp at he
 rename_i e' hun
 simp only [Option.some.injEq] at he
 subst he
 unfold szO at hk; unfold byO at hb; unfold zrO at hz
 cases hinf : P.info? e' with
 | none => simp [hinf] at hk
 | some inf =>
 simp only [hinf, Option.map_some, Option.some.injEq, Option.bind_some] at hk hb hz
 have hzc : z.cells.size = k := by rw [← hzs, zcells_eq]; simp
 have hone' : ∀ (E' : En) (v' : Value), E'.val id = some (k, (es ++ ys).length, v') → v'.oneCell' = true → RelV E' (.oref id (es.length + ys.length)) v' := fun E' v' h1 h2 => by
  simp only [RelV]
  exact ⟨h2, k, _, v', h1, by simp, fun _ => rfl⟩
 rcases Nat.eq_zero_or_pos ys.length with h0 | hpos
 ·have hys : ys = [] := List.eq_nil_of_length_eq_zero h0
  subst hys
  refine ⟨u, E, by simpa using run_append_q0 (P := P) (ty := ty) hun hinf hown ad c, ?_, by simpa using hu⟩
  have : upd t (.o id) (.que e' k (es ++ [])) = t := by
   funext p; by_cases hp : p = .o id
   ·subst hp; simp [upd, ht]
   ·simp [upd, hp]
  rw [this]; exact hi
 ·rcases hsrc with h0 | ⟨a0, rfl, hcells⟩
  ·omega
  obtain ⟨v', w', hrun, hown', hv1, hob⟩ := run_append_q (P := P) (ty := ty) (c := c) hun hinf hz hk hb hzc hown hnl hcells hone
   (by simp only [maxLen]; omega) hroom
  have hgrown : E.w.grownBy w' u.ownBlock := hob.elim (fun h => h.2) (fun h => ⟨h.2.os, h.2.tape, h.2.output, h.2.size, fun i hi _ => h.2.block i hi (by simp)⟩)
  obtain ⟨E', hw', x, hinv, hval'⟩ := hi.queStep ht (es' := es ++ ys) hval hgrown (by simpa using hown') (by simp) (fun h => by simp at h; subst h; simp at hpos) (hob.imp (fun h => h.1) (fun h => h.1))
   (fun E' _ x => RowRel.app (by simpa using hown.1) (hrel.up x) (hrow.up x))
  exact ⟨v', E', by rw [hw']; exact hrun, hinv, hone' E' v' hval' hv1⟩
theorem eff_append_que {o : Oper} {t : S} {x y : Operand} {sty : TypeId} {id n e k b : Nat} {es ys : List (List TV)} {rp : List Pl} {z : Value}
  (ho : o.op = .call { callee := .builtin .append, args := #[x, y], argTypes := #[sty, sty] }) (hx : ev t x = .oref id n) (ht : t (.o id) = .que e k es) (hs : Src t (ev t y) rp ys)
  (he : slE P sty = some e) (hk : szO P e = some k) (hb : byO P e = some b) (hz : zrO P e = some z) (hzs : (zcells z).length = k) (hk0 : 0 < k) :
  EffOK P A o t ⟨n = es.length ∧ appOK k b n ys, pl x ++ (pl y ++ (.o id :: rp)), [(.o id, .que e k (es ++ ys))], .oref id (n + ys.length)⟩ := fun ⟨hn, hlen, hroom, hroom2⟩ t' hr a E hi => by
 have hx' := ev_rel hi x
 rw [ev_eq (pl_left hr), hx] at hx'
 have hy' := ev_rel hi y
 rw [ev_eq (pl_left (pl_right hr))] at hy'
 have hr3 := pl_right (pl_right hr)
 have ht' : t' (.o id) = .que e k es := (hr3 _ (by simp)).trans ht
 subst hn
 obtain ⟨ad, c, news, hu, hnl, hrow, hone, hsrc⟩ := hs.rel hlen (fun p hp => hr3 p (by simp [hp])) hi hy'
 obtain ⟨v', E', hrun, hinv, hrel⟩ := hi.appendQ ht' he hk hb hz hzs hk0 hx' (ty := o.type) (c := c) hnl hrow hone hsrc hroom hroom2
 exact ⟨_, v', E', run_app_op ho (by rw [hu]; exact hrun), .inl rfl, hinv, hrel⟩
end
end Go.Tr

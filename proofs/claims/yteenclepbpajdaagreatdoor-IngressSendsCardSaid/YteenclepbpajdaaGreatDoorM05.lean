/-
  What functions of the program compute, stated as contracts over plain data; the conditions of each stand in its own statement.
-/
import Derived.Test.YteenclepbpajdaaGreatDoorM04
set_option linter.unusedSimpArgs false
namespace Go.Tr
open Go
section
variable {P : Program} {A : Actv}
theorem que_cur {t : S} {a : Act} {E : En} (hi : InvE A t a E) {id k : Nat} {e : TypeId} {es : List (List TV)} (ht : t (.o id) = .que e k es) :
  E.blk (.o id) = none ∧ ∃ v us, E.val id = some (k, es.length, v) ∧ ownsQ E.w e k v es.length us ∧ RowRel E us k 0 es ∧ (∀ u, RelV E (.oref id es.length) u → u = v) := by
 have := hi.h.item (.o id) (by simp)
 rw [ht] at this
 obtain ⟨h0, id', v, us, hid, h1, h2, h3⟩ := this
 simp only [Pl.o.injEq] at hid
 subst hid
 refine ⟨h0, v, us, h1, h2, h3, fun u hu => ?_⟩
 simp only [RelV] at hu
 obtain ⟨_, k', c, v', hv, _, he⟩ := hu
 rw [h1] at hv
 simp only [Option.some.injEq, Prod.mk.injEq] at hv
 obtain ⟨rfl, rfl, rfl⟩ := hv
 exact he rfl
theorem q_cell {w : World} {e : TypeId} {k n g o : Nat} {cur : Array Value} {us : List Value} (hg : w.heap[g]? = some (.cells cur e (0, 0))) (ht : (cur.toList.drop o).take (n * k) = us) :
  ∀ j u, us[j]? = some u → w.cell? ⟨g, o + j, none⟩ = some u := fun j u hj => by
 rw [cell_of_row w g (o + j) cur e (0, 0) hg]
 rw [← ht, List.getElem?_take] at hj
 split at hj
 ·rw [List.getElem?_drop] at hj
  simpa using hj
 ·simp at hj
theorem eff_len_que {o : Oper} {t : S} {x : Operand} {ty e : TypeId} {id n k : Nat} {e' : TypeId} {es : List (List TV)} (ho : o.op = .call { callee := .builtin .len, args := #[x], argTypes := #[ty] }) (he : slE P ty = some e) (hx : ev t x = .oref id n)
  (ht : t (.o id) = .que e' k es) : EffOK P A o t ⟨n = es.length, pl x ++ [.o id], [], .d (.int .i64 n)⟩ :=
 .pure fun hC t' hr a E hi => by
  have hx' := ev_rel hi x
  rw [ev_eq (pl_left hr), hx] at hx'
  have ht' : t' (.o id) = .que e' k es := (pl_right hr _ (by simp)).trans ht
  subst hC
  obtain ⟨_, v, us, h2, h3, h4, h5⟩ := que_cur hi ht'
  have hv := h5 _ hx'
  unfold slE at he
  split at he
  ·rename_i e' hu
   obtain ⟨_, g, of, cap, cur, rfl, _⟩ := h3
   refine ⟨_, ?_, rfl⟩
   simp [execOp, ho, resolve, invoke, builtin, hv, Builtin.len_, run_underlying hu, goInt]
  ·simp at he
theorem eff_indexAddr_que {o : Oper} {t : S} {ty : TypeId} {x ix : Operand} {e k id n : Nat} {e' : TypeId} {es : List (List TV)} {ik : IntKind} {i : Int} (ho : o.op = .indexAddr ty x ix) (he : slE P ty = some e) (hk : szO P e = some k)
  (hx : ev t x = .oref id n) (hix : ev t ix = .d (.int ik i)) (ht : t (.o id) = .que e' k es) :
  EffOK P A o t ⟨n = es.length ∧ 0 ≤ i ∧ i < es.length, pl x ++ (pl ix ++ [.o id]), [], .eptr id n i.toNat 0⟩ :=
 .pure fun ⟨hn, h0, h1⟩ t' hr a E hi => by
  have hx' := ev_rel hi x
  rw [ev_eq (pl_left hr), hx] at hx'
  have hix' := ev_rel hi ix
  rw [ev_eq (pl_left (pl_right hr)), hix] at hix'
  simp only [RelV, Rep] at hix'
  subst hn
  have ht' : t' (.o id) = .que e' k es := (pl_right (pl_right hr) _ (by simp)).trans ht
  obtain ⟨_, v, us, h2, h3, h4, h5⟩ := que_cur hi ht'
  have hu := h5 _ hx'
  obtain ⟨_, g, of, cap, cur, rfl, _⟩ := h3
  refine ⟨.pointer (some ⟨g, of + i.toNat * k, none⟩), ?_, ?_⟩
  ·simp [execOp, ho, hu, hix', run_indexAt_sl he hk _ _ _ _ _ h0 h1, add_lit']
  ·simp only [RelV]
   exact ⟨rfl, k, _, _, h2, Nat.le_refl _, fun _ => ⟨g, of, cap, rfl, by simp⟩⟩
theorem eff_load_que {o : Oper} {t : S} {ty : TypeId} {x : Operand} {id n i q k : Nat} {e : TypeId} {es : List (List TV)} {v : TV} (ho : o.op = .load ty x) (hx : ev t x = .eptr id n i q) (ht : t (.o id) = .que e k es)
  (h : (shp P ty = some false ∧ (es.getD i [])[q]? = some v) ∨ (∃ z, shp P ty = some true ∧ szO P ty = some z ∧ q + z ≤ (es.getD i []).length ∧ v = .agg (((es.getD i []).drop q).take z))) :
  EffOK P A o t ⟨n = es.length ∧ i < es.length, pl x ++ [.o id], [], v⟩ :=
 .pure fun ⟨hn, hil⟩ t' hr a E hi => by
  have hx' := ev_rel hi x
  rw [ev_eq (pl_left hr), hx] at hx'
  have ht' : t' (.o id) = .que e k es := (pl_right hr _ (by simp)).trans ht
  subst hn
  obtain ⟨_, v0, us, h1, h2, h3, _⟩ := que_cur hi ht'
  simp only [RelV] at hx'
  obtain ⟨_, k', c, v', hv, _, he⟩ := hx'
  rw [h1] at hv
  simp only [Option.some.injEq, Prod.mk.injEq] at hv
  obtain ⟨rfl, rfl, rfl⟩ := hv
  obtain ⟨b, of, cp, rfl, hu⟩ := he rfl
  obtain ⟨hl0, g, of', cap, cur, hval, hg, hnc, hcm, hcs, htk⟩ := h2
  simp only [Value.slice.injEq, Option.some.injEq, Addr.mk.injEq] at hval
  obtain ⟨⟨rfl, rfl, _⟩, _, rfl⟩ := hval
  have hgt : es[i]? = some (es.getD i []) := by simp [List.getD, hil]
  obtain ⟨h4, h5⟩ := h3.get hgt
  simp only [Nat.zero_add] at h5
  have hcell := q_cell (n := es.length) (k := k) hg htk
  rcases h with ⟨h6, h7⟩ | ⟨z, h6, h7, h8, rfl⟩
  ·obtain ⟨u, h8, h9, h10⟩ := h5.get h7
   refine ⟨u, ?_, h10⟩
   have hc1 := hcell _ _ h8
   rw [← Nat.add_assoc] at hc1
   simp [execOp, ho, hu, Instr.loadAt, Instr.sureAddr, run_load_one h6 hc1]
  ·have hc' := (h5.sub q z).vals
   have hl : (((es.getD i []).drop q).take z).length = z := by simp at h8 ⊢; omega
   rw [hl] at hc'
   refine ⟨.agg ((us.drop (i * k + q)).take z).toArray, ?_, ?_⟩
   ·have hra : E.w.rangeAt b (of + i * k + q) ((us.drop (i * k + q)).take z) := fun j v hj => by
     rw [List.getElem?_take] at hj
     split at hj
     ·rw [List.getElem?_drop] at hj
      have := hcell _ _ hj
      rw [show of + i * k + q + j = of + (i * k + q + j) by omega]
      exact this
     ·simp at hj
    simp only [execOp, ho, hu, Instr.loadAt, Instr.sureAddr, Sem.run_bind, Sem.run_pure, Result.andThen_ok, run_load_agg h6 h7 hc'.2 hra]
   ·simp only [RelV]; exact ⟨_, rfl, hc'.1⟩
theorem eff_slice_que {o : Oper} {t : S} {ty e k id n : Nat} {e' : TypeId} {x lo : Operand} {es : List (List TV)} {ik : IntKind} {l : Int} (ho : o.op = .slice ty x (some lo) none none) (he : slE P ty = some e) (hk : szO P e = some k)
  (hx : ev t x = .oref id n) (hl : ev t lo = .d (.int ik l)) (ht : t (.o id) = .que e' k es) :
  EffOK P A o t ⟨n = es.length ∧ 0 ≤ l ∧ l ≤ es.length, pl x ++ (pl lo ++ [.o id]), [], .osl id n l.toNat⟩ :=
 .pure fun ⟨hn, h0, h1⟩ t' hr a E hi => by
  have hx' := ev_rel hi x
  rw [ev_eq (pl_left hr), hx] at hx'
  have hlo := ev_rel hi lo
  rw [ev_eq (pl_left (pl_right hr)), hl] at hlo
  subst hn
  have ht' : t' (.o id) = .que e' k es := (pl_right (pl_right hr) _ (by simp)).trans ht
  obtain ⟨_, v, us, h2, h3, h4, h5⟩ := que_cur hi ht'
  have hu := h5 _ hx'
  obtain ⟨hl0, g, of, cap, cur, rfl, hg, hnc, hcm, hcs, htk⟩ := h3
  unfold slE at he
  split at he
  rotate_left
  ·simp at he
  rename_i e' hun
  simp only [Option.some.injEq] at he; subst he
  unfold szO at hk
  cases hinf : P.info? e' with
  | none => simp [hinf] at hk
  | some inf =>
  simp only [hinf, Option.map_some, Option.some.injEq] at hk
  have hcut : cutB es.length (some (.d (.int ik l))) none = some (0 ≤ l ∧ l ≤ es.length, l.toNat, es.length) := by
   simp [cutB, asInt?]
  obtain ⟨hb, _, _⟩ := run_sliceBounds_eq (P := P) (isS := true) (cap := cap) hcut ⟨h0, by omega⟩ hnc (E := E) (ulo := some (a.eval lo)) (uhi := none)
   (fun v hv => ⟨_, rfl, by simp only [Option.some.injEq] at hv; subst hv; exact hlo⟩) (fun h => by simp at h) (fun v hv => by simp at hv) (fun _ => rfl) E.w
  refine ⟨.slice (some ⟨g, if cap - l.toNat = 0 then of else of + l.toNat * k, none⟩) (es.length - l.toNat) (cap - l.toNat), ?_, ?_⟩
  ·simp only [execOp, ho, Instr.sliceAt, Sem.run_bind, run_underlying hun, Result.andThen_ok, hu, Option.map_none, Option.map_some, Instr.slice, hb, sizeOf, typeInfo, run_program, hinf, Sem.run_pure, hk]
   by_cases hne : cap - l.toNat = 0
   ·simp [hne]
    intro hc
    omega
   ·simp [hne, add_lit']
    intro hc
    omega
  ·simp only [RelV]
   refine ⟨rfl, k, _, _, h2, Nat.le_refl _, fun _ => ⟨g, of, cap, _, rfl, by omega, ?_, rfl⟩⟩
   by_cases hne : cap - l.toNat = 0
   ·exact .inr ⟨by rw [if_pos hne], hne⟩
   ·exact .inl (by rw [if_neg hne])
end
end Go.Tr

set_option linter.unusedSimpArgs false
namespace Go.Tr
open Go
section
variable {P : Program} {A : Actv}
theorem ownsQ.lt {w : World} {e : TypeId} {k n : Nat} {v : Value} {xs : List Value} (h : ownsQ w e k v n xs) : ∀ b, v.ownBlock = some b → b < w.heap.size := by
 obtain ⟨_, g, o, cap, cur, rfl, hg, _⟩ := h
 intro b hb
 simp only [Value.ownBlock, Option.some.injEq] at hb
 subst hb
 exact (Array.getElem?_eq_some_iff.1 hg).1
theorem que_no_st {t : S} {a : Act} {E : En} (hi : InvE A t a E) {id k : Nat} {e : TypeId} {es : List (List TV)} (ht : t (.o id) = .que e k es) {b o : Nat} (h : E.St b o) : E.own (.o id) ≠ some b := fun h2 => by
 obtain ⟨e2, k2, es2, h1, _⟩ := hi.h.sep b o h _ h2
 rw [ht] at h1; simp at h1
theorem InvE.queStep {t : S} {a : Act} {E : En} (hi : InvE A t a E) {id k : Nat} {e : TypeId} {es es' : List (List TV)} (ht : t (.o id) = .que e k es)
  {v v' : Value} {us' : List Value} {w' : World} (hval : E.val id = some (k, es.length, v)) (hg : E.w.grownBy w' v.ownBlock) (hown : ownsQ w' e k v' es'.length us')
  (hle : es.length ≤ es'.length) (heq : es.length = es'.length → v' = v) (hob : v'.ownBlock = v.ownBlock ∨ v'.ownBlock = some E.w.heap.size)
  (hrel : ∀ E' : En, E'.w = w' → ExtA E E' → RowRel E' us' k 0 es') :
  ∃ E' : En, E'.w = w' ∧ ExtA E E' ∧ InvE A (upd t (.o id) (.que e k es')) a E' ∧ E'.val id = some (k, es'.length, v') := by
 have hit := hi.h.item (.o id) (by simp)
 rw [ht] at hit
 obtain ⟨hb0, _⟩ := hit
 have hownp : E.own (.o id) = v.ownBlock := by simp [En.own, hb0, hval]
 have hst : ∀ b o, E.St b o → w'.cell? ⟨b, o, none⟩ = E.w.cell? ⟨b, o, none⟩ := fun b o hs =>
  World.cell?_of_block (hg.block b (hi.h.stsz _ _ hs) (fun e' => que_no_st hi ht hs (hownp.trans e'.symm)))
 let E' : En := { E with w := w', val := fun i => if i = id then some (k, es'.length, v') else E.val i }
 have hv' : E'.val id = some (k, es'.length, v') := by simp [E']
 have hownp' : E'.own (.o id) = v'.ownBlock := by simp [En.own, E', hb0]
 have x : ExtA E E' := by
  refine ⟨fun _ _ h => h, hst, fun _ _ _ h => h, fun _ _ h => h, fun _ _ h => h, fun i k' c u _ hu => ?_⟩
  by_cases e : i = id
  ·subst e
   rw [hval] at hu
   simp only [Option.some.injEq, Prod.mk.injEq] at hu
   obtain ⟨rfl, rfl, rfl⟩ := hu
   exact ⟨_, _, hv', hle, heq⟩
  ·exact ⟨c, u, by simp [E', e, hu], Nat.le_refl _, fun _ => rfl⟩
 have hothb : ∀ q b, q ≠ .o id → E.own q = some b → w'.heap[b]? = E.w.heap[b]? := fun q b hq hb => by
  refine hg.block b (hi.h.size q b hb) (fun e => hq (hi.h.inj _ _ b hb ?_))
  rw [hownp, ← e]
 have hH : HInv E' (upd t (.o id) (.que e k es')) := by
  refine hi.h.change (by simp) x (fun b o h => .inl h) (fun q hq => rfl) (fun i hne => ?_) hg.size hothb (fun b hb => ?_) ⟨hb0, id, v', us', rfl, hv', hown, hrel E' rfl x⟩ (fun b o hs hb => ?_)
  ·have hne' : i ≠ id := fun e => hne (by rw [e])
   simp [E', hne']
  ·rw [hownp'] at hb
   rw [hownp]
   exact ⟨hown.lt b hb, hob.elim (fun e => .inl (e ▸ hb)) (fun e => .inr (by rw [e] at hb; simp at hb; omega))⟩
  ·rw [hownp'] at hb
   rcases hob with e' | e'
   ·exact absurd (by rw [hownp, ← e', hb]) (que_no_st hi ht hs)
   ·rw [e'] at hb; simp at hb
    have := hi.h.stsz _ _ hs
    omega
 refine ⟨E', rfl, x, hi.step hH x (hi.fr.next hg.os hg.tape hg.output hg.size (fun b h1 h2 h3 => hg.block b (Nat.lt_of_lt_of_le h1 hi.fr.size) (fun e => ?_)) (fun _ => rfl) (fun i b hb => ?_) (fun _ _ h => h) (fun _ _ h => .inl h)) (fun k => upd_s (by simp) k), hv'⟩
 ·exact (hi.fr.new id b (by rw [hownp, ← e])).elim (fun h => by omega) (fun ⟨j, h⟩ => h3 j h)
 ·by_cases e : i = id
  ·subst e
   rw [hownp'] at hb
   rw [hownp]
   exact hob.elim (fun e => .inl (e ▸ hb)) (fun e => .inr (by rw [e] at hb; simp at hb; omega))
  ·have : E'.own (.o i) = E.own (.o i) := En.own_eq rfl (fun j hj => by simp only [Pl.o.injEq] at hj; subst hj; simp [E', e])
   rw [this] at hb; exact .inl hb
theorem run_append_q {w : World} {t e : Nat} {ty : TypeId} {inf : TypeInfo} {z : Value} {size bytes : Nat} (ht : P.underlying t = some (.slice e)) (hi : P.info? e = some inf) (hz : inf.zero = some z)
  (hsize : inf.size = size) (hby : inf.bytes = bytes) (hzs : z.cells.size = size) {v : Value} {n : Nat} {xs : List Value} (hown : ownsQ w e size v n xs)
  {a : Addr} {m c : Nat} {news : List Value} (hl : news.length = m * size) (hnews : ∀ j u, news[j]? = some u → w.cell? (a.add j) = some u) (h1 : ∀ u ∈ news, u.oneCell' = true)
  (h63 : n + m ≤ maxLen) (hbytes : (n + m) * bytes ≤ 140737488355328) :
  ∃ v' w', (Builtin.append_ #[t, t] ty #[v, .slice (some a) m c]).run P w = .ok v' w' ∧ ownsQ w' e size v' (n + m) (xs ++ news) ∧ v'.oneCell' = true ∧
   ((v'.ownBlock = v.ownBlock ∧ w.grownBy w' v.ownBlock) ∨ (v'.ownBlock = some w.heap.size ∧ w.grownBy w' none)) := by
 subst hsize
 subst hby
 have hsmall : n + m ≤ 9223372036854775807 := by simp only [maxLen] at h63; omega
 have hlen : (xs ++ news).length = (n + m) * inf.size := by rw [List.length_append, hown.1, hl, Nat.add_mul]
 obtain ⟨hx0, g, o, cap, cur, rfl, hg, hnc, hcm, hcs, htake⟩ := hown
 by_cases hroom : n + m ≤ cap
 ·have hm : (n + m) * inf.size ≤ cap * inf.size := Nat.mul_le_mul_right _ hroom
  rw [Nat.add_mul] at hm
  have hfit : (o + n * inf.size) + 0 + news.length ≤ cur.size := by rw [hl]; omega
  have hf := run_firstCells_some (P := P) w inf.size m a m c news hl hnews
  have hst := run_storeCells_at P g (o + n * inf.size) e news 0 cur w hg hfit h1
  simp only [Nat.add_zero] at hst
  refine ⟨.slice (some ⟨g, o, none⟩) (n + m) cap, w.setRow g (cur.toList.take (o + n * inf.size) ++ news ++ cur.toList.drop (o + n * inf.size + news.length)).toArray, ?_, ⟨hlen, g, o, cap, _, rfl, setRow_heap w g cur _ e _ hg, hroom, hcm, ?_, ?_⟩, rfl, .inl ⟨rfl, ⟨rfl, rfl, rfl, by simp, fun k _ hk => setRow_other w g k _ (fun e => hk (by simp [Value.ownBlock, e]))⟩⟩⟩
  ·simp [Builtin.append_, run_underlying ht, sizeOf, typeInfo, hi, Builtin.lenOf, hroom, hf, add_lit', hst]
  ·simp only [List.size_toArray, List.length_append, List.length_take, List.length_drop, Array.length_toList]
   omega
  ·have e1 : (cur.toList.take (o + n * inf.size)).drop o = xs := by
    rw [List.drop_take, ← htake]; congr 1; omega
   have e2 : o ≤ (cur.toList.take (o + n * inf.size)).length := by
    simp only [List.length_take, Array.length_toList]; omega
   simp only [List.append_assoc]
   rw [List.drop_append_of_le_length e2, e1, ← List.append_assoc, ← hlen]
   exact List.take_left
 ·have holds : ∀ j u, xs[j]? = some u → w.cell? ((⟨g, o, none⟩ : Addr).add j) = some u := fun j u hj => by
   rw [add_lit']; exact q_cell hg htake j u hj
  have hr := run_append_grow (P := P) w t ty e inf z ht hi hz ⟨g, o, none⟩ n cap xs hx0 holds a m c news hl hnews (by omega) (by omega) (growslice_fits (by omega) hbytes)
  have hge := grownCap_ge w (n + m) cap e
  have hcm' : grownCap w (n + m) cap e ≤ maxLen := grownCap_le_maxLen w (n + m) cap e h63
  refine ⟨_, _, hr, ⟨hlen, w.heap.size, 0, _, _, rfl, heap_alloc_new w.drew _, hge, hcm', ?_, ?_⟩, rfl, .inr ⟨rfl, ⟨rfl, rfl, rfl, by simp, fun k hk _ => heap_alloc_old w.drew _ k hk⟩⟩⟩
  ·simp only [Array.size_append, List.size_toArray, size_zeroCells, hzs, hx0, hl, ← Nat.add_mul, Nat.zero_add]
   exact Nat.mul_le_mul_right _ (by omega)
  ·simp only [Array.toList_append, List.append_assoc, List.drop_zero]
   rw [← List.append_assoc, ← hlen]
   exact List.take_left
theorem run_append_q0 {w : World} {t e : Nat} {ty : TypeId} {inf : TypeInfo} (ht : P.underlying t = some (.slice e)) (hi : P.info? e = some inf) {v : Value} {n size : Nat} {xs : List Value}
  (hown : ownsQ w e size v n xs) (ad : Option Addr) (c : Nat) : (Builtin.append_ #[t, t] ty #[v, .slice ad 0 c]).run P w = .ok v w := by
 obtain ⟨_, g, o, cap, cur, rfl, _, hnc, _⟩ := hown
 cases ad <;> simp [Builtin.append_, run_underlying ht, sizeOf, typeInfo, hi, Builtin.lenOf, Builtin.firstCells, hnc, storeCells, loadCells, loadCellsFrom]
theorem InvE.appendQ {t : S} {a : Act} {E : En} (hi : InvE A t a E) {id e k b : Nat} {es : List (List TV)} (ht : t (.o id) = .que e k es) {sty ty : TypeId} (he : slE P sty = some e) (hk : szO P e = some k) (hb : byO P e = some b)
  {z : Value} (hz : zrO P e = some z) (hzs : (zcells z).length = k) (_hk0 : 0 < k) {u : Value} (hu : RelV E (.oref id es.length) u)
  {ys : List (List TV)} {ad : Option Addr} {c : Nat} {news : List Value} (hnl : news.length = ys.length * k) (hrow : RowRel E news k 0 ys) (hone : ∀ v ∈ news, v.oneCell' = true)
  (hsrc : ys.length = 0 ∨ ∃ a0, ad = some a0 ∧ ∀ j v, news[j]? = some v → E.w.cell? (a0.add j) = some v)
  (hroom : (es.length + ys.length) * b ≤ 140737488355328) (hroom2 : es.length + ys.length ≤ 9223372036854775807) :
  ∃ (v' : Value) (E' : En), (Builtin.append_ #[sty, sty] ty #[u, .slice ad ys.length c]).run P E.w = .ok v' E'.w ∧ InvE A (upd t (.o id) (.que e k (es ++ ys))) a E' ∧ RelV E' (.oref id (es.length + ys.length)) v' := by
 obtain ⟨hblk, v, us, hval, hown, hrel, hcur⟩ := que_cur hi ht
 have hv := hcur _ hu
 subst hv
 unfold slE at he
 split at he
 rotate_left
 ·simp at he
 rename_i e' hun
 simp only [Option.some.injEq] at he
 subst he
 unfold szO at hk; unfold byO at hb; unfold zrO at hz
 cases hinf : P.info? e' with
 | none => simp [hinf] at hk
 | some inf =>
 simp only [hinf, Option.map_some, Option.some.injEq, Option.bind_some] at hk hb hz
 have hzc : z.cells.size = k := by rw [← hzs, zcells_eq]; simp
 have hone' : ∀ (E' : En) (v' : Value), E'.val id = some (k, (es ++ ys).length, v') → v'.oneCell' = true → RelV E' (.oref id (es.length + ys.length)) v' := fun E' v' h1 h2 => by
  simp only [RelV]
  exact ⟨h2, k, _, v', h1, by simp, fun _ => rfl⟩
 rcases Nat.eq_zero_or_pos ys.length with h0 | hpos
 ·have hys : ys = [] := List.eq_nil_of_length_eq_zero h0
  subst hys
  refine ⟨u, E, by simpa using run_append_q0 (P := P) (ty := ty) hun hinf hown ad c, ?_, by simpa using hu⟩
  have : upd t (.o id) (.que e' k (es ++ [])) = t := by
   funext p; by_cases hp : p = .o id
   ·subst hp; simp [upd, ht]
   ·simp [upd, hp]
  rw [this]; exact hi
 ·rcases hsrc with h0 | ⟨a0, rfl, hcells⟩
  ·omega
  obtain ⟨v', w', hrun, hown', hv1, hob⟩ := run_append_q (P := P) (ty := ty) (c := c) hun hinf hz hk hb hzc hown hnl hcells hone
   (by simp only [maxLen]; omega) hroom
  have hgrown : E.w.grownBy w' u.ownBlock := hob.elim (fun h => h.2) (fun h => ⟨h.2.os, h.2.tape, h.2.output, h.2.size, fun i hi _ => h.2.block i hi (by simp)⟩)
  obtain ⟨E', hw', x, hinv, hval'⟩ := hi.queStep ht (es' := es ++ ys) hval hgrown (by simpa using hown') (by simp) (fun h => by simp at h; subst h; simp at hpos) (hob.imp (fun h => h.1) (fun h => h.1))
   (fun E' _ x => RowRel.app (by simpa using hown.1) (hrel.up x) (hrow.up x))
  exact ⟨v', E', by rw [hw']; exact hrun, hinv, hone' E' v' hval' hv1⟩
theorem eff_append_que {o : Oper} {t : S} {x y : Operand} {sty : TypeId} {id n e k b : Nat} {es ys : List (List TV)} {rp : List Pl} {z : Value}
  (ho : o.op = .call { callee := .builtin .append, args := #[x, y], argTypes := #[sty, sty] }) (hx : ev t x = .oref id n) (ht : t (.o id) = .que e k es) (hs : Src t (ev t y) rp ys)
  (he : slE P sty = some e) (hk : szO P e = some k) (hb : byO P e = some b) (hz : zrO P e = some z) (hzs : (zcells z).length = k) (hk0 : 0 < k) :
  EffOK P A o t ⟨n = es.length ∧ appOK k b n ys, pl x ++ (pl y ++ (.o id :: rp)), [(.o id, .que e k (es ++ ys))], .oref id (n + ys.length)⟩ := fun ⟨hn, hlen, hroom, hroom2⟩ t' hr a E hi => by
 have hx' := ev_rel hi x
 rw [ev_eq (pl_left hr), hx] at hx'
 have hy' := ev_rel hi y
 rw [ev_eq (pl_left (pl_right hr))] at hy'
 have hr3 := pl_right (pl_right hr)
 have ht' : t' (.o id) = .que e k es := (hr3 _ (by simp)).trans ht
 subst hn
 obtain ⟨ad, c, news, hu, hnl, hrow, hone, hsrc⟩ := hs.rel hlen (fun p hp => hr3 p (by simp [hp])) hi hy'
 obtain ⟨v', E', hrun, hinv, hrel⟩ := hi.appendQ ht' he hk hb hz hzs hk0 hx' (ty := o.type) (c := c) hnl hrow hone hsrc hroom hroom2
 exact ⟨_, v', E', run_app_op ho (by rw [hu]; exact hrun), .inl rfl, hinv, hrel⟩
end
end Go.Tr

/-
  What functions of the program compute, stated as contracts over plain data; the conditions of each stand in its own statement.
-/
import Derived.Test.YtffjbciladpdlaaGreatZN06
import Derived.Maps.RangeRun
set_option linter.unusedSimpArgs false
namespace Go.Tr
open Go
def klen (n : Nat) (es : List (List Int × TV)) : Prop := ∀ y ∈ es, y.1.length = n
section
variable {P : Program} {A : Actv}
theorem eff_lookupK {o : Oper} {t : S} {ty e : TypeId} {x ix : Operand} {ck : Bool} {id c : Nat} {es : List (List Int × TV)} {pd : Option (List Int)} {s : Option Snap} {k : List Int} {z : Value} (ho : o.op = .lookup ty x ix ck) (hm : mpK P ty k.length = some e) (hz : zrO P e = some z)
  (hx : ev t x = .mref id) (ht : t (.o id) = .mpk es c pd s) (hix : toKey (ev t ix) = some k) : EffOK P A o t ⟨klen k.length es, pl x ++ (pl ix ++ [.o id]), [], lkK ck (kget es k) (ofCell z)⟩ :=
 .pure fun hC t' hr a E hi => by
  have hx' : ev t' x = .mref id := (ev_eq (pl_left hr)).trans hx
  have hix' : toKey (ev t' ix) = some k := by rw [ev_eq (pl_left (pl_right hr))]; exact hix
  have ht' : t' (.o id) = .mpk es c pd s := (pl_right (pl_right hr) _ (by simp)).trans ht
  obtain ⟨kt, hu, hkt⟩ := mpK_spec hm
  obtain ⟨b, l, clock, l', ty', v, hu1, hu2, hb, hg, hp, hrel, hs, hv, hpd, hf⟩ := mapK_args hi hx' ht' hix' hkt hC
  have hzero := zero_run hz E.w
  have hck := run_checkKeyV hkt l.isEmpty E.w
  rcases hf with ⟨g1, g2, g3, _⟩ | ⟨j, a', v0, g1, g2, g3, g4, g5, _⟩
  ·refine ⟨match ck with | true => .tuple #[z, .bool false] | false => z, ?_, ?_⟩
   ·cases ck <;> simp [execOp, ho, hu1, hu2, Instr.lookup, Sem.run_bind, run_underlying hu, MapKept.run_getObj_map hg, hck, g1, hzero]
   ·rw [g2]
    cases ck with
    | true =>
      simp only [lkK, RelV]
      exact ⟨#[z, .bool false], rfl, by simp only [RelVs]; exact ⟨_, _, rfl, ofCell_rel E z, _, _, rfl, by simp [RelV, Rep], rfl⟩⟩
    | false => simp only [lkK]; exact ofCell_rel E z
  ·refine ⟨match ck with | true => .tuple #[a'.val, .bool true] | false => a'.val, ?_, ?_⟩
   ·cases ck <;> simp [execOp, ho, hu1, hu2, Instr.lookup, Sem.run_bind, run_underlying hu, MapKept.run_getObj_map hg, hck, g1]
   ·rw [g4]
    cases ck with
    | true =>
      simp only [lkK, RelV]
      exact ⟨#[a'.val, .bool true], rfl, by simp only [RelVs]; exact ⟨_, _, rfl, g5, _, _, rfl, by simp [RelV, Rep], rfl⟩⟩
    | false => simp only [lkK]; exact g5
theorem modify_setE {l : Array MapEntry} {clock : Nat} (hs : MapKept.Stamped l clock) {j : Nat} {a : MapEntry} (hj : l[j]? = some a) {kv : Value} (ha : a.key = kv) (f : MapEntry → MapEntry) : (l.modify j f).toList = setE kv f l.toList := by
 have hnd : (l.toList.map (·.key)).Nodup := hs.2.2
 have hj' : l.toList[j]? = some a := by simpa using hj
 rw [Array.toList_modify]
 clear hj hs
 generalize l.toList = L at hnd hj'
 induction L generalizing j with
 | nil => simp at hj'
 | cons b L ih =>
   obtain ⟨n1, n2⟩ := nodup_tail hnd
   cases j with
   | zero =>
     simp at hj'; subst hj'
     rw [List.modify_zero_cons, setE_at ha fun c hc => by rw [← ha]; exact n1 c hc]
   | succ j =>
     have hj2 : L[j]? = some a := by simpa using hj'
     have hne : ¬ b.key = kv := fun e => n1 a (List.mem_of_getElem? hj2) (ha.trans e.symm)
     rw [List.modify_succ_cons, setE_cons hne, ih n2 hj2]
theorem setE_perm {kv : Value} {f : MapEntry → MapEntry} {l l' : List MapEntry} (h : l.Perm l') : (setE kv f l).Perm (setE kv f l') := h.map _
theorem upd_ok {E : En} {es : List (List Int × TV)} {k : List Int} {v : TV} {u : Value} (hr : RelV E v u) {l : Array MapEntry} {l' : List MapEntry} {clock : Nat} (hp : l'.Perm l.toList) (hm : KRel E es l') (hs : MapKept.Stamped l clock) {j : Nat} {a : MapEntry} (hj : l[j]? = some a) (ha : a.key = keyV k) :
  (setE (keyV k) (fun e => { e with key := keyV k, val := u }) l').Perm (l.modify j fun e => { e with key := keyV k, val := u }).toList ∧ KRel E (kput es k v) (setE (keyV k) (fun e => { e with key := keyV k, val := u }) l') ∧ MapKept.Stamped (l.modify j fun e => { e with key := keyV k, val := u }) clock := by
 refine ⟨?_, ?_, ?_⟩
 ·rw [modify_setE hs hj ha]; exact setE_perm hp
 ·refine krel_put (E := E) (k := k) (v := v) (u := u) (f := fun e => { e with key := keyV k, val := u }) hr (fun a => And.intro rfl rfl) hm ((hp.map _).nodup_iff.2 hs.2.2) ⟨a, hp.mem_iff.2 (List.mem_of_getElem? (by simpa using hj)), ha⟩
 ·exact MapKept.stamped_modify hs j _ (fun _ _ => rfl) (fun e _ he => by rw [hj] at he; simp only [Option.some.injEq] at he; subst he; exact ha.symm)
theorem push_ok {E : En} {es : List (List Int × TV)} {k : List Int} {v : TV} {u : Value} (hr : RelV E v u) {l : Array MapEntry} {l' : List MapEntry} {clock : Nat} (hp : l'.Perm l.toList) (hm : KRel E es l') (hs : MapKept.Stamped l clock) (h1 : ∀ b ∈ l.toList, b.key ≠ keyV k) (h2 : ∀ b ∈ l', b.key ≠ keyV k) :
  (l' ++ [(⟨keyV k, u, clock⟩ : MapEntry)]).Perm (l.push ⟨keyV k, u, clock⟩).toList ∧ KRel E (kput es k v) (l' ++ [⟨keyV k, u, clock⟩]) ∧ MapKept.Stamped (l.push ⟨keyV k, u, clock⟩) (clock + 1) := by
 refine ⟨?_, krel_new rfl hr hm h2, MapKept.stamped_push hs h1⟩
 rw [Array.toList_push]
 exact List.Perm.append_right _ hp
theorem eff_mapUpdateK {o : Oper} {t : S} {ty e : TypeId} {x ix y : Operand} {id c : Nat} {es : List (List Int × TV)} {pd : Option (List Int)} {s : Option Snap} {k : List Int} {vy : TV} (ho : o.op = .mapUpdate ty x ix y ∨ o.op = .insert ty x ix y) (hm : mpK P ty k.length = some e)
  (hx : ev t x = .mref id) (ht : t (.o id) = .mpk es c pd s) (hix : toKey (ev t ix) = some k) (hy : ev t y = vy) : EffOK P A o t ⟨klen k.length es, pl x ++ (pl ix ++ (pl y ++ [.o id])), [(.o id, .mpk (kput es k vy) c none none)], .junk⟩ := fun hC t' hr a E hi => by
 have hx' : ev t' x = .mref id := (ev_eq (pl_left hr)).trans hx
 have hix' : toKey (ev t' ix) = some k := by rw [ev_eq (pl_left (pl_right hr))]; exact hix
 have hy' : ev t' y = vy := (ev_eq (pl_left (pl_right (pl_right hr)))).trans hy
 have ht' : t' (.o id) = .mpk es c pd s := (pl_right (pl_right (pl_right hr)) _ (by simp)).trans ht
 obtain ⟨kt, hu, hkt⟩ := mpK_spec hm
 obtain ⟨b, l, clock, l', ty', v, hu1, hu2, hb, hg, hp, hrel, hs, hv, hpd, hf⟩ := mapK_args hi hx' ht' hix' hkt hC
 have h3 := ev_rel hi y
 rw [hy'] at h3
 have hck := run_checkKeyV hkt false E.w
 rcases hf with ⟨g1, g2, g3, g4⟩ | ⟨j, a', v0, g1, g2, g3, g4, g5, g6⟩
 ·obtain ⟨q1, q2, q3⟩ := push_ok h3 hp hrel hs g3 g4
  obtain ⟨E', hw', x', hinv, _⟩ := hi.kStep (l2 := l.push ⟨keyV k, a.eval y, clock⟩) (clock2 := clock + 1) (c' := c) (v' := v) (pd' := none) ht' hb hg hv q1 q2 q3 (Nat.le_refl _) (fun _ => rfl) trivial
  refine ⟨.skip, undef, E', ?_, .inr ⟨rfl, rfl⟩, hinv, by simp only [RelV]⟩
  rcases ho with ho | ho <;> simp [execOp, ho, hu1, hu2, Instr.mapUpdate, Sem.run_bind, run_underlying hu, MapKept.run_getObj_map hg, MapKept.run_setObj_map _ hg, hck, g1, hw']
 ·obtain ⟨q1, q2, q3⟩ := upd_ok h3 hp hrel hs g2 g3
  obtain ⟨E', hw', x', hinv, _⟩ := hi.kStep (l2 := l.modify j fun e => { e with key := keyV k, val := a.eval y }) (clock2 := clock) (c' := c) (v' := v) (pd' := none) ht' hb hg hv q1 q2 q3 (Nat.le_refl _) (fun _ => rfl) trivial
  refine ⟨.skip, undef, E', ?_, .inr ⟨rfl, rfl⟩, hinv, by simp only [RelV]⟩
  have hst : (Instr.keyThatStays (keyV k) (keyV k)).run P E.w = .ok (keyV k) E.w := by
   simp [Instr.keyThatStays, sameBits_keyV]
  rcases ho with ho | ho <;> simp [execOp, ho, hu1, hu2, Instr.mapUpdate, Sem.run_bind, run_underlying hu, MapKept.run_getObj_map hg, MapKept.run_setObj_map _ hg, hck, g1, g2, g3, hst, hw']
theorem eff_mapEntryK {o : Oper} {t : S} {ty e : TypeId} {x ix : Operand} {id c : Nat} {es : List (List Int × TV)} {pd : Option (List Int)} {s : Option Snap} {k : List Int} {z : Value} (ho : o.op = .mapEntry ty x ix) (hm : mpK P ty k.length = some e) (hz : zrO P e = some z)
  (hx : ev t x = .mref id) (ht : t (.o id) = .mpk es c pd s) (hix : toKey (ev t ix) = some k) : EffOK P A o t ⟨klen k.length es, pl x ++ (pl ix ++ [.o id]), [(.o id, .mpk (kput es k (lkK false (kget es k) (ofCell z))) (c + 1) (some k) none)], .tup [lkK false (kget es k) (ofCell z), .oref id (c + 1)]⟩ := fun hC t' hr a E hi => by
 have hx' : ev t' x = .mref id := (ev_eq (pl_left hr)).trans hx
 have hix' : toKey (ev t' ix) = some k := by rw [ev_eq (pl_left (pl_right hr))]; exact hix
 have ht' : t' (.o id) = .mpk es c pd s := (pl_right (pl_right hr) _ (by simp)).trans ht
 obtain ⟨kt, hu, hkt⟩ := mpK_spec hm
 obtain ⟨b, l, clock, l', ty', v, hu1, hu2, hb, hg, hp, hrel, hs, hv, hpd, hf⟩ := mapK_args hi hx' ht' hix' hkt hC
 have hck := run_checkKeyV hkt false E.w
 have hzero := zero_run hz E.w
 rcases hf with ⟨g1, g2, g3, g4⟩ | ⟨j, a', v0, g1, g2, g3, g4, g5, g6⟩
 ·obtain ⟨q1, q2, q3⟩ := push_ok (ofCell_rel E z) hp hrel hs g3 g4
  obtain ⟨E', hw', x', hinv, hval⟩ := hi.kStep (l2 := l.push ⟨keyV k, z, clock⟩) (clock2 := clock + 1) (c' := c + 1) (v' := .int .i64 clock) (pd' := some k) ht' hb hg hv q1 q2 q3 (by omega) (fun h => by omega) ⟨⟨keyV k, z, clock⟩, by simp, rfl, rfl⟩
  refine ⟨.value (.tuple #[z, .int .i64 clock]), _, E', ?_, .inl rfl, by simpa only [over, g2, lkK] using hinv, ?_⟩
  ·simp [execOp, ho, hu1, hu2, Instr.mapEntry, Sem.run_bind, run_underlying hu, MapKept.run_getObj_map hg, MapKept.run_setObj_map _ hg, hck, g1, hw', hzero, goInt]
  ·simp only [g2, lkK, RelV]
   refine ⟨_, rfl, ?_⟩
   simp only [RelVs]
   exact ⟨_, _, rfl, ofCell_rel E' z, _, _, rfl, by simp only [RelV]; exact ⟨rfl, _, _, _, hval, Nat.le_refl _, fun _ => rfl⟩, rfl⟩
 ·have hst : (Instr.keyThatStays (keyV k) (keyV k)).run P E.w = .ok (keyV k) E.w := by
   simp [Instr.keyThatStays, sameBits_keyV]
  have hf : (l.modify j fun e => { e with key := keyV k }) = l.modify j fun e => { e with key := keyV k, val := a'.val } := by
   apply Array.ext_getElem?
   intro i
   simp only [Array.getElem?_modify]
   by_cases hij : j = i
   ·subst hij; simp [g2]
   ·simp [hij]
  obtain ⟨q1, q2, q3⟩ := upd_ok g5 hp hrel hs g2 g3
  obtain ⟨E', hw', x', hinv, hval⟩ := hi.kStep (l2 := l.modify j fun e => { e with key := keyV k, val := a'.val }) (clock2 := clock) (c' := c + 1) (v' := .int .i64 a'.born) (pd' := some k) ht' hb hg hv q1 q2 q3 (by omega) (fun h => by omega)
   ⟨⟨keyV k, a'.val, a'.born⟩, by
     rw [modify_setE hs g2 g3]
     unfold setE
     exact List.mem_map.2 ⟨a', List.mem_of_getElem? (by simpa using g2), by simp [g3]⟩, rfl, rfl⟩
  refine ⟨.value (.tuple #[a'.val, .int .i64 a'.born]), _, E', ?_, .inl rfl, by simpa only [over, g4, lkK] using hinv, ?_⟩
  ·simp [execOp, ho, hu1, hu2, Instr.mapEntry, Sem.run_bind, run_underlying hu, MapKept.run_getObj_map hg, MapKept.run_setObj_map _ hg, hck, g1, g2, g3, hst, hw', hf, goInt]
  ·simp only [g4, lkK, RelV]
   refine ⟨_, rfl, ?_⟩
   simp only [RelVs]
   exact ⟨_, _, rfl, g5.up x', _, _, rfl, by simp only [RelV]; exact ⟨rfl, _, _, _, hval, Nat.le_refl _, fun _ => rfl⟩, rfl⟩
theorem born_inj2 : ∀ {l : List MapEntry}, (l.map (·.born)).Nodup → ∀ {x y : MapEntry}, x ∈ l → y ∈ l → x.born = y.born → x = y
 | [], _, _, _, hx, _, _ => by simp at hx
 | a :: r, hn, x, y, hx, hy, h => by
   rw [List.map_cons, List.nodup_cons] at hn
   rcases List.mem_cons.1 hx with ex | hx'
   ·rcases List.mem_cons.1 hy with ey | hy'
    ·rw [ex, ey]
    ·exact absurd (List.mem_map.2 ⟨y, hy', by rw [← h, ex]⟩) hn.1
   ·rcases List.mem_cons.1 hy with ey | hy'
    ·exact absurd (List.mem_map.2 ⟨x, hx', by rw [h, ey]⟩) hn.1
    ·exact born_inj2 hn.2 hx' hy' h
theorem eff_entryStoreK {o : Oper} {t : S} {ty : TypeId} {x ix y : Operand} {id c n : Nat} {es : List (List Int × TV)} {s : Option Snap} {k : List Int} {vy : TV} (ho : o.op = .entryStore ty x ix y)
  (hx : ev t x = .mref id) (ht : t (.o id) = .mpk es c (some k) s) (hix : ev t ix = .oref id n) (hy : ev t y = vy) : EffOK P A o t ⟨n = c, pl x ++ (pl ix ++ (pl y ++ [.o id])), [(.o id, .mpk (kput es k vy) c (some k) none)], .junk⟩ := fun hC t' hr a E hi => by
 have hx' : ev t' x = .mref id := (ev_eq (pl_left hr)).trans hx
 have hix' : ev t' ix = .oref id n := (ev_eq (pl_left (pl_right hr))).trans hix
 have hy' : ev t' y = vy := (ev_eq (pl_left (pl_right (pl_right hr)))).trans hy
 have ht' : t' (.o id) = .mpk es c (some k) s := (pl_right (pl_right (pl_right hr)) _ (by simp)).trans ht
 subst hC
 have h1 := ev_rel hi x
 rw [hx'] at h1
 simp only [RelV] at h1
 obtain ⟨b0, hb0, hu1⟩ := h1
 have h2 := ev_rel hi ix
 rw [hix'] at h2
 obtain ⟨b, l, clock, l', ty', v, hb, hg, hp, hrel, hs, hv, ⟨a', ha1, ha2, ha3⟩, _⟩ := mapK_cur hi ht'
 rw [hb] at hb0
 simp only [Option.some.injEq] at hb0
 subst hb0
 simp only [RelV] at h2
 obtain ⟨_, k2, c2, v2, hv2, _, hcv⟩ := h2
 rw [hv] at hv2
 simp only [Option.some.injEq, Prod.mk.injEq] at hv2
 obtain ⟨rfl, rfl, rfl⟩ := hv2
 have hu2 : a.eval ix = .int .i64 a'.born := (hcv rfl).trans ha3
 have h3 := ev_rel hi y
 rw [hy'] at h3
 have hfi : ∃ j, l.findIdx? (fun e => (e.born : Int) == (a'.born : Int)) = some j ∧ l[j]? = some a' := by
  cases hj : l.findIdx? (fun e => (e.born : Int) == (a'.born : Int)) with
  | none =>
    rw [Array.findIdx?_eq_none_iff] at hj
    have := hj a' (by simpa using ha1)
    simp at this
  | some j =>
    obtain ⟨h4, h5, _⟩ := Array.findIdx?_eq_some_iff_getElem.1 hj
    refine ⟨j, rfl, ?_⟩
    have h6 : (l[j]).born = a'.born := by
     have : ((l[j]).born : Int) = a'.born := by simpa using h5
     omega
    have h7 := hs.2.1
    have h8 : l[j] = a' := by
     have hm : l[j] ∈ l.toList := by simp
     exact born_inj2 h7 hm ha1 h6
    rw [Array.getElem?_eq_getElem h4, h8]
 obtain ⟨j, hj1, hj2⟩ := hfi
 have hf : (l.modify j fun e => { e with val := a.eval y }) = l.modify j fun e => { e with key := keyV k, val := a.eval y } := by
  apply Array.ext_getElem?
  intro i
  simp only [Array.getElem?_modify]
  by_cases hij : j = i
  ·subst hij; simp [hj2, ← ha2]
  ·simp [hij]
 obtain ⟨q1, q2, q3⟩ := upd_ok h3 hp hrel hs hj2 ha2
 obtain ⟨E', hw', x', hinv, hval⟩ := hi.kStep (l2 := l.modify j fun e => { e with key := keyV k, val := a.eval y }) (clock2 := clock) (c' := n) (v' := v) (pd' := some k) ht' hb hg hv q1 q2 q3 (Nat.le_refl _) (fun _ => rfl)
  ⟨⟨keyV k, a.eval y, a'.born⟩, by
    rw [modify_setE hs hj2 ha2]
    unfold setE
    exact List.mem_map.2 ⟨a', ha1, by simp [ha2]⟩, rfl, ha3⟩
 refine ⟨.skip, undef, E', ?_, .inr ⟨rfl, rfl⟩, hinv, by simp only [RelV]⟩
 simp [execOp, ho, hu1, hu2, Instr.entryStore, Sem.run_bind, MapKept.run_getObj_map hg, MapKept.run_setObj_map _ hg, asInt, asIntOf, hj1, hw', hf]
theorem eff_lenK {o : Oper} {t : S} {x : Operand} {ty kt e : TypeId} {id c : Nat} {es : List (List Int × TV)} {pd : Option (List Int)} {s : Option Snap} (ho : o.op = .call { callee := .builtin .len, args := #[x], argTypes := #[ty] }) (he : P.underlying ty = some (.map kt e)) (hx : ev t x = .mref id)
  (ht : t (.o id) = .mpk es c pd s) : EffOK P A o t ⟨True, pl x ++ [.o id], [], .d (.int .i64 es.length)⟩ :=
 .pure fun hC t' hr a E hi => by
  have hx' := ev_rel hi x
  rw [ev_eq (pl_left hr), hx] at hx'
  have ht' : t' (.o id) = .mpk es c pd s := (pl_right hr _ (by simp)).trans ht
  simp only [RelV] at hx'
  obtain ⟨b0, hb0, hu1⟩ := hx'
  obtain ⟨b, l, clock, l', ty', v, hb, hg, hp, hrel, hs, hv, _⟩ := mapK_cur hi ht'
  rw [hb] at hb0
  simp only [Option.some.injEq] at hb0
  subst hb0
  have hl : l.size = es.length := by rw [← krel_len hrel, hp.length_eq]; simp
  refine ⟨.int .i64 es.length, ?_, by simp [RelV, Rep]⟩
  simp [execOp, ho, resolve, invoke, builtin, Builtin.len_, hu1, Sem.run_bind, run_underlying he, MapKept.run_getObj_map hg, hl, goInt]
open Classical in
theorem erase_filter {l : Array MapEntry} {clock : Nat} (hs : MapKept.Stamped l clock) {j : Nat} {a : MapEntry} (hj : l[j]? = some a) {kv : Value} (ha : a.key = kv) : (l.eraseIdxIfInBounds j).toList = l.toList.filter fun e => decide (e.key ≠ kv) := by
 have hnd : (l.toList.map (·.key)).Nodup := hs.2.2
 have hlt : j < l.size := (Array.getElem?_eq_some_iff.1 hj).1
 have hj' : l.toList[j]? = some a := by simpa using hj
 unfold Array.eraseIdxIfInBounds
 rw [dif_pos hlt, Array.toList_eraseIdx]
 generalize l.toList = L at hnd hj'
 clear hlt hj
 induction L generalizing j with
 | nil => simp at hj'
 | cons b L ih =>
   obtain ⟨n1, n2⟩ := nodup_tail hnd
   cases j with
   | zero =>
     simp at hj'; subst hj'
     rw [List.eraseIdx_cons_zero, List.filter_cons, if_neg (by simp [ha])]
     rw [List.filter_eq_self.2 fun c hc => by simpa using fun e : c.key = kv => n1 c hc (e.trans ha.symm)]
   | succ j =>
     have hj2 : L[j]? = some a := by simpa using hj'
     have hne : ¬ b.key = kv := fun e => n1 a (List.mem_of_getElem? hj2) (ha.trans e.symm)
     rw [List.eraseIdx_cons_succ, ih n2 hj2, List.filter_cons, if_pos (by simpa using hne)]
theorem eff_deleteK {o : Oper} {t : S} {ty e kty : TypeId} {x ix : Operand} {id c : Nat} {es : List (List Int × TV)} {pd : Option (List Int)} {s : Option Snap} {k : List Int} (ho : o.op = .call { callee := .builtin .delete, args := #[x, ix], argTypes := #[ty, kty] }) (hm : mpK P ty k.length = some e)
  (hx : ev t x = .mref id) (ht : t (.o id) = .mpk es c pd s) (hix : toKey (ev t ix) = some k) : EffOK P A o t ⟨klen k.length es, pl x ++ (pl ix ++ [.o id]), [(.o id, .mpk (kdel es k) c none none)], .tup []⟩ := fun hC t' hr a E hi => by
 classical
 have hx' : ev t' x = .mref id := (ev_eq (pl_left hr)).trans hx
 have hix' : toKey (ev t' ix) = some k := by rw [ev_eq (pl_left (pl_right hr))]; exact hix
 have ht' : t' (.o id) = .mpk es c pd s := (pl_right (pl_right hr) _ (by simp)).trans ht
 obtain ⟨kt, hu, hkt⟩ := mpK_spec hm
 obtain ⟨b, l, clock, l', ty', v, hu1, hu2, hb, hg, hp, hrel, hs, hv, hpd, hf⟩ := mapK_args hi hx' ht' hix' hkt hC
 have hck := run_checkKeyV hkt l.isEmpty E.w
 have hdel := krel_del (k := k) hrel
 rcases hf with ⟨g1, g2, g3, g4⟩ | ⟨j, a', v0, g1, g2, g3, g4, g5, g6⟩
 ·have e1 : l'.filter (fun a => decide (a.key ≠ keyV k)) = l' := List.filter_eq_self.2 fun a ha => by simpa using g4 a ha
  rw [e1] at hdel
  obtain ⟨E', hw', x', hinv, _⟩ := hi.kStep (l2 := l) (clock2 := clock) (c' := c) (v' := v) (pd' := none) ht' hb hg hv hp hdel hs (Nat.le_refl _) (fun _ => rfl) trivial
  refine ⟨.value (.tuple #[]), _, E', ?_, .inl rfl, hinv, by simp only [RelV]; exact ⟨#[], rfl, by simp [RelVs]⟩⟩
  simp [execOp, ho, resolve, invoke, builtin, Builtin.delete_, hu1, hu2, Sem.run_bind, run_underlying hu, MapKept.run_getObj_map hg, MapKept.run_setObj_map _ hg, hck, g1, hw']
 ·have hpf : (l'.filter fun a => decide (a.key ≠ keyV k)).Perm (l.eraseIdxIfInBounds j).toList := by
   rw [erase_filter hs g2 g3]; exact hp.filter _
  obtain ⟨E', hw', x', hinv, _⟩ := hi.kStep (l2 := l.eraseIdxIfInBounds j) (clock2 := clock) (c' := c) (v' := v) (pd' := none) ht' hb hg hv hpf hdel (MapKept.stamped_erase hs j) (Nat.le_refl _) (fun _ => rfl) trivial
  refine ⟨.value (.tuple #[]), _, E', ?_, .inl rfl, hinv, by simp only [RelV]; exact ⟨#[], rfl, by simp [RelVs]⟩⟩
  simp [execOp, ho, resolve, invoke, builtin, Builtin.delete_, hu1, hu2, Sem.run_bind, run_underlying hu, MapKept.run_getObj_map hg, MapKept.run_setObj_map _ hg, hck, g1, hw']
end
end Go.Tr

namespace Go.Tr
open Go
section
variable {P : Program} {A : Actv}
theorem InvE.snap {t : S} {a : Act} {E : En} (hi : InvE A t a E) {id c : Nat} {es : List (List Int × TV)} {pd : Option (List Int)} {s0 : Option Snap} (ht : t (.o id) = .mpk es c pd s0) :
  ∃ s : Snap, InvE A (upd t (.o id) (.mpk es c pd (some s))) a E ∧ E.blk (.o id) = some s.m ∧ E.w.heap[s.m]? = some (.map s.l s.clock) ∧ MapKept.Stamped s.l s.clock ∧ ∃ l', l'.Perm s.l.toList ∧ KRel E es l' := by
 obtain ⟨b, l, clock, l', ty, v, hb, hg, hp, hrel, hs, hv, hpd, _⟩ := mapK_cur hi ht
 have hownp : E.own (.o id) = some b := by simp [En.own, hb]
 have hst : ∀ b' o', E.St b' o' → b' ≠ b := fun b' o' h e => by
  subst e
  obtain ⟨e2, k2, es2, h1, _⟩ := hi.h.sep _ o' h _ hownp
  rw [ht] at h1; simp at h1
 have hH : HInv E (upd t (.o id) (.mpk es c pd (some ⟨b, l, clock⟩))) := by
  refine hi.h.change (by simp) (Ext.refl _ _) (fun b o h => .inl h) (fun _ _ => rfl) (fun _ _ => rfl) (Nat.le_refl _) (fun _ _ _ _ => rfl) (fun b' hb' => ⟨hi.h.size _ _ hb', .inl hb'⟩) ?_ (fun b' o' hs hb' => ?_)
  ·exact ⟨id, b, l, clock, l', ty, v, rfl, hb, hg, hp, hrel, hs, hv, hpd, fun x hx => by simpa using hx.symm⟩
  ·rw [hownp] at hb'; simp only [Option.some.injEq] at hb'
   exact absurd hb'.symm (hst b' o' hs)
 exact ⟨⟨b, l, clock⟩, ⟨hH, hi.fr, fun k tv hk => hi.sl k tv (by simpa [upd] using hk), hi.defers, hi.size⟩, hb, hg, hs, l', hp, hrel⟩
theorem InvE.newIter {t : S} {a : Act} {E : En} (h : InvE A t a E) {d id : Nat} (hd : t (.o d) = .none) {s : Snap} (hs : MapKept.Stamped s.l s.clock) {es : List (List Int × TV)} {l' : List MapEntry} (hp : l'.Perm s.l.toList) (hrel : KRel E es l') :
  ∃ E' : En, E'.w = E.w.alloc (.mapIter (some s.m) s.clock #[] s.clock) ∧ InvE A (upd t (.o d) (.mit id s (es.map (·.1)) none)) a E' ∧ RelV E' (.ptr (.o d) 0) (.pointer (some ⟨E.w.heap.size, 0, none⟩)) := by
 have hfree := h.h.item (.o d) (by simp)
 rw [hd] at hfree
 obtain ⟨hb0, hv0⟩ := hfree d rfl
 let E' : En := { w := E.w.alloc (.mapIter (some s.m) s.clock #[] s.clock), St := E.St, blk := fun p => if p = .o d then some E.w.heap.size else E.blk p, val := E.val }
 have hold : ∀ b, b < E.w.heap.size → E'.w.heap[b]? = E.w.heap[b]? := fun b hb => (MapKept.heap_alloc E.w _).2 b hb
 have x : ExtA E E' := by
  refine ⟨fun _ _ h => h, fun b o hst => atW_of_block (hold b (h.h.stsz b o hst)), fun id b _ he => ?_, fun i b he => by simpa [E'] using he, fun i b he => by simpa [E'] using he, fun _ _ c v _ hv => ⟨c, v, hv, Nat.le_refl _, fun _ => rfl⟩⟩
  by_cases e : id = d
  ·subst e; rw [hb0] at he; simp at he
  ·simpa [E', e] using he
 have hown : E'.own (.o d) = some E.w.heap.size := by simp [En.own, E']
 have hownq : ∀ q, q ≠ .o d → E'.own q = E.own q := fun q hq => En.own_eq (by simp [E', hq]) (fun _ _ => rfl)
 have hH : HInv E' (upd t (.o d) (.mit id s (es.map (·.1)) none)) := by
  refine h.h.change (by simp) x (fun b o hst => .inl hst) (fun q hq => by simp [E', hq]) (fun id hid => rfl) (by simp [E']) (fun q b hq hb => hold b (h.h.size q b hb)) (fun b hb => ?_) ?_ (fun b o hst hb => ?_)
  ·rw [hown] at hb; simp at hb; subst hb; exact ⟨by simp [E'], .inr (Nat.le_refl _)⟩
  ·refine ⟨fun id hid => ?_, E.w.heap.size, #[], by simp [E'], (MapKept.heap_alloc E.w _).1, ?_, hs.1, by simp⟩
   ·simp only [Pl.o.injEq] at hid; subst hid; exact hv0
   ·have h1 := (hp.map (·.key)).symm
    rw [krel_keys hrel] at h1
    have e1 : (s.l.toList.filter fun x => !(#[] : Array Nat).contains x.born) = s.l.toList := List.filter_eq_self.2 fun _ _ => by simp
    rw [e1, List.map_map]
    exact h1
  ·rw [hown] at hb; simp at hb; subst hb
   exact absurd (h.h.stsz _ _ hst) (by omega)
 refine ⟨E', rfl, h.step hH x (h.fr.next rfl rfl rfl (by simp [E']) (fun b hb _ _ => hold b (Nat.lt_of_lt_of_le hb h.fr.size)) (fun i => by simp [E']) (fun id b hb => ?_) (fun _ _ h => h) (fun _ _ h => .inl h)) (fun k => upd_s (by simp) k), ?_⟩
 ·by_cases e : id = d
  ·subst e; rw [hown] at hb; simp at hb; subst hb; exact .inr (Nat.le_refl _)
  ·rw [hownq _ (by simpa using e)] at hb; exact .inl hb
 ·simp only [RelV]; exact ⟨E.w.heap.size, by simp [E'], rfl⟩
def mview (es : List (List Int × TV)) (s : Snap) : It → Prop
 | .mpk es' _ _ (some s') => es' = es ∧ s' = s
 | .mpz es' s' => es' = es ∧ s' = s
 | _ => False
theorem mview_cur {t : S} {a : Act} {E : En} (hi : InvE A t a E) {id : Nat} {es : List (List Int × TV)} {s : Snap} (h : mview es s (t (.o id))) :
  E.w.heap[s.m]? = some (.map s.l s.clock) ∧ MapKept.Stamped s.l s.clock ∧ ∃ l', l'.Perm s.l.toList ∧ KRel E es l' := by
 unfold mview at h
 split at h
 ·rename_i ht
  obtain ⟨rfl, rfl⟩ := h
  obtain ⟨b, l, clock, l', ty, v, hb, hg, hp, hrel, hs, hv, hpd, hsn⟩ := mapK_cur hi ht
  obtain rfl := hsn _ rfl
  exact ⟨hg, hs, l', hp, hrel⟩
 ·rename_i ht
  obtain ⟨rfl, rfl⟩ := h
  have := hi.h.item (.o id) (by simp)
  rw [ht] at this
  exact ⟨this.2.2.1, this.2.2.2.1, this.2.2.2.2⟩
 ·exact h.elim
theorem range_ok {o : Oper} {t : S} {ty kt e : TypeId} {x : Operand} {id c d : Nat} {es : List (List Int × TV)} {pd : Option (List Int)} {s0 : Option Snap} (ho : o.op = .range ty x) (hty : P.underlying ty = some (.map kt e)) (hx : ev t x = .mref id) (ht : t (.o id) = .mpk es c pd s0) (hd : t (.o d) = .none) :
  ∀ t', (∀ p ∈ pl x ++ [.o id, .o d], t' p = t p) → ∀ a E, InvE A t' a E → ∃ (s : Snap) (u : Value) (E' : En), (execOp a.eval o).run P E.w = .ok (.value u) E'.w ∧ InvE A (over t' [(.o d, .mit id s (es.map (·.1)) none), (.o id, .mpk es c pd (some s))]) a E' ∧ RelV E' (.ptr (.o d) 0) u := fun t' hr a E hi => by
 have hx' : ev t' x = .mref id := (ev_eq (pl_left hr)).trans hx
 have ht' : t' (.o id) = .mpk es c pd s0 := (pl_right hr _ (by simp)).trans ht
 have hd' : t' (.o d) = .none := (pl_right hr _ (by simp)).trans hd
 have h1 := ev_rel hi x
 rw [hx'] at h1
 simp only [RelV] at h1
 obtain ⟨b0, hb0, hu1⟩ := h1
 obtain ⟨s, hi2, hb, hg, hs, l', hp, hrel⟩ := hi.snap ht'
 rw [hb] at hb0
 simp only [Option.some.injEq] at hb0
 subst hb0
 have hne : Pl.o d ≠ .o id := fun e => by rw [e, ht'] at hd'; simp at hd'
 obtain ⟨E', hw', hi3, hrl⟩ := hi2.newIter (d := d) (id := id) (by simp [upd, hne, hd']) hs hp hrel
 refine ⟨s, _, E', ?_, hi3, hrl⟩
 have := run_range_map (P := P) E.w ty kt e s.m s.l s.clock hty hg
 simp [execOp, ho, hu1, Sem.run_bind, this, hw']
theorem iter_cur {t : S} {a : Act} {E : En} (hi : InvE A t a E) {d id : Nat} {s : Snap} {left : List (List Int)} {cur : Option (List Int)} (ht : t (.o d) = .mit id s left cur) : E.val d = none ∧ ∃ r seen, E.blk (.o d) = some r ∧ E.w.heap[r]? = some (.mapIter (some s.m) s.clock seen s.clock) ∧ itOK s left cur seen := by
 have := hi.h.item (.o d) (by simp)
 rw [ht] at this
 exact ⟨this.1 d rfl, this.2⟩
theorem InvE.iterStep {t : S} {a : Act} {E : En} (hi : InvE A t a E) {d id r : Nat} {s : Snap} {left left' : List (List Int)} {cur cur' : Option (List Int)} {seen seen' : Array Nat} {w1 : World} (ht : t (.o d) = .mit id s left cur) (hb : E.blk (.o d) = some r) (hg : E.w.heap[r]? = some (.mapIter (some s.m) s.clock seen s.clock))
  (hw1 : w1 = E.w ∨ w1 = E.w.drew) (hok : itOK s left' cur' seen') :
  ∃ E' : En, E'.w = ChangeMaps.setBlock w1 r (.mapIter (some s.m) s.clock seen' s.clock) ∧ ExtA E E' ∧ InvE A (upd t (.o d) (.mit id s left' cur')) a E' := by
 obtain ⟨hv0, _⟩ := iter_cur hi ht
 have hlt : r < E.w.heap.size := (Array.getElem?_eq_some_iff.1 hg).1
 have hownp : E.own (.o d) = some r := by simp [En.own, hb]
 have hh : w1.heap = E.w.heap := by rcases hw1 with rfl | rfl <;> rfl
 let E' : En := { E with w := ChangeMaps.setBlock w1 r (.mapIter (some s.m) s.clock seen' s.clock) }
 have hheap : E'.w.heap = E.w.heap.setIfInBounds r (.mapIter (some s.m) s.clock seen' s.clock) := by simp [E', ChangeMaps.setBlock, hh]
 have hoth : ∀ b', b' ≠ r → E'.w.heap[b']? = E.w.heap[b']? := fun b' hne => by rw [hheap]; simp [Array.getElem?_setIfInBounds, show ¬ r = b' from fun e => hne e.symm]
 have hst : ∀ b' o', E.St b' o' → b' ≠ r := fun b' o' h e => by
  subst e
  obtain ⟨e2, k2, es2, h1, _⟩ := hi.h.sep _ o' h _ hownp
  rw [ht] at h1; simp at h1
 have x : ExtA E E' := ⟨fun _ _ h => h, fun b' o' h => atW_of_block (hoth b' (hst b' o' h)), fun _ _ _ h => h, fun _ _ h => h, fun _ _ h => h, fun _ _ c v _ h => ⟨c, v, h, Nat.le_refl _, fun _ => rfl⟩⟩
 have hown : ∀ q, E'.own q = E.own q := fun q => En.own_eq rfl (fun _ _ => rfl)
 have hsz : E'.w.heap.size = E.w.heap.size := by rw [hheap]; simp
 have hH : HInv E' (upd t (.o d) (.mit id s left' cur')) := by
  refine hi.h.change (by simp) x (fun b o h => .inl h) (fun _ _ => rfl) (fun _ _ => rfl) (by omega) (fun q b' hq hb' => hoth b' fun e => hq (by subst e; exact hi.h.inj _ _ _ hb' hownp)) (fun b' hb' => ?_) ?_ (fun b' o' hs hb' => ?_)
  ·rw [hown] at hb'; exact ⟨by have := hi.h.size _ _ hb'; omega, .inl hb'⟩
  ·exact ⟨fun j hj => by simp only [Pl.o.injEq] at hj; subst hj; exact hv0, r, seen', hb, by rw [hheap]; simp [hlt], hok⟩
  ·rw [hown, hownp] at hb'; simp only [Option.some.injEq] at hb'
   exact absurd hb'.symm (hst b' o' hs)
 have hos : E'.w.os = E.w.os ∧ E'.w.tape = E.w.tape ∧ E'.w.output = E.w.output := by rcases hw1 with rfl | rfl <;> exact ⟨rfl, rfl, rfl⟩
 refine ⟨E', rfl, x, hi.step hH x (hi.fr.next hos.1 hos.2.1 hos.2.2 (by omega) (fun b' h1 _ h3 => hoth b' fun e => ?_) (fun _ => rfl) (fun j b' h => .inl (by rwa [hown] at h)) (fun _ _ h => h) (fun _ _ h => .inl h)) (fun k => upd_s (by simp) k)⟩
 subst e
 exact (hi.fr.new d b' hownp).elim (fun h => by omega) (fun ⟨j, h⟩ => h3 j h)
def nextW (d id : Nat) (s : Snap) (left : List (List Int)) : Option (List Int) → List (Pl × It)
 | none => []
 | some k => [(.o d, .mit id s (left.erase k) (some k))]
def nextV : Option (List Int) → TV
 | none => .tup [.d (.bool false)]
 | some _ => .tup [.d (.bool true), .junk, .junk]
def nextOK (left : List (List Int)) : Option (List Int) → Prop
 | none => left = []
 | some k => k ∈ left
theorem erase_keys {left : List (List Int)} {L : List MapEntry} (h : (L.map (·.key)).Perm (left.map keyV)) {e : MapEntry} (he : e ∈ L) (hb : (L.map (·.born)).Nodup) : ∃ k ∈ left, e.key = keyV k ∧ ((L.filter fun x => !(x.born == e.born)).map (·.key)).Perm ((left.erase k).map keyV) := by
 obtain ⟨k, hk, hke⟩ := List.mem_map.1 (h.mem_iff.1 (List.mem_map.2 ⟨e, he, rfl⟩))
 refine ⟨k, hk, hke.symm, ?_⟩
 have hL : L.Perm (e :: L.filter fun x => !(x.born == e.born)) := by
  clear h
  induction L with
  | nil => simp at he
  | cons a L ih =>
    rw [List.map_cons, List.nodup_cons] at hb
    rcases List.mem_cons.1 he with rfl | he
    ·rw [List.filter_cons, if_neg (by simp)]
     rw [List.filter_eq_self.2 fun x hx => by simpa using fun e2 : x.born = e.born => hb.1 (List.mem_map.2 ⟨x, hx, e2⟩)]
    ·have hne : a.born ≠ e.born := fun e2 => hb.1 (List.mem_map.2 ⟨e, he, e2.symm⟩)
     rw [List.filter_cons, if_pos (by simpa using hne)]
     exact ((ih he hb.2).cons a).trans (List.Perm.swap _ _ _)
 have hR : left.Perm (k :: left.erase k) := List.perm_cons_erase hk
 have h2 := (hL.map (·.key)).symm.trans (h.trans (hR.map keyV))
 rw [List.map_cons, List.map_cons, hke] at h2
 exact h2.cons_inv
theorem next_ok {o : Oper} {t : S} {x : Operand} {d id : Nat} {es : List (List Int × TV)} {s : Snap} {left : List (List Int)} {cur : Option (List Int)} (ho : o.op = .next x false) (hx : ev t x = .ptr (.o d) 0) (hd : t (.o d) = .mit id s left cur) (hm : mview es s (t (.o id))) :
  ∀ t', (∀ p ∈ pl x ++ [.o d, .o id], t' p = t p) → ∀ a E, InvE A t' a E → ∃ (k : Option (List Int)) (u : Value) (E' : En), nextOK left k ∧ (execOp a.eval o).run P E.w = .ok (.value u) E'.w ∧ InvE A (over t' (nextW d id s left k)) a E' ∧ RelV E' (nextV k) u := fun t' hr a E hi => by
 have hx' : ev t' x = .ptr (.o d) 0 := (ev_eq (pl_left hr)).trans hx
 have hd' : t' (.o d) = .mit id s left cur := (pl_right hr _ (by simp)).trans hd
 have hm' : mview es s (t' (.o id)) := by rw [pl_right hr (.o id) (by simp)]; exact hm
 have h1 := ev_rel hi x
 rw [hx'] at h1
 simp only [RelV] at h1
 obtain ⟨r0, hr0, hu1⟩ := h1
 obtain ⟨_, r, seen, hb, hg, ⟨o1, o2, o3⟩⟩ := iter_cur hi hd'
 rw [hb] at hr0
 simp only [Option.some.injEq] at hr0
 subst hr0
 obtain ⟨hmg, hs, l', hp, hrel⟩ := mview_cur hi hm'
 obtain ⟨b, l, clock⟩ := s
 simp only at o1 o2 o3 hg hmg hs hp
 rcases run_next_at (P := P) E.w o.type r b clock clock seen l clock hg hmg o2 (Nat.le_refl _) with ⟨q1, q2⟩ | ⟨e, q1, w1, q2, q3⟩
 ·refine ⟨none, .tuple #[.bool false], E, ?_, ?_, hi, by simp only [nextV, RelV]; exact ⟨_, rfl, by simp [RelVs, RelV, Rep]⟩⟩
  ·have h0 : (l.toList.filter fun x => !seen.contains x.born) = [] := by
    have : (leftOf l seen).toList = [] := by simpa using Array.eq_empty_of_size_eq_zero q1
    simpa [leftOf] using this
   rw [h0] at o1
   have := o1.length_eq
   simpa [nextOK] using this.symm
  ·simp [execOp, ho, hu1, Sem.run_bind, q2]
 ·have heL : e ∈ l.toList.filter fun x => !seen.contains x.born := by simpa [leftOf] using q1
  have hel := (List.mem_filter.1 heL).1
  have hnb : ((l.toList.filter fun x => !seen.contains x.born).map (·.born)).Nodup := hs.2.1.sublist (List.filter_sublist.map _)
  obtain ⟨k, hk, hke, hperm⟩ := erase_keys o1 heL hnb
  have hok : itOK ⟨b, l, clock⟩ (left.erase k) (some k) (seen.push e.born) := by
   refine ⟨?_, o2, fun k' hk' => ?_⟩
   ·have : (l.toList.filter fun x => !(seen.push e.born).contains x.born) = (l.toList.filter fun x => !seen.contains x.born).filter fun x => !(x.born == e.born) := by
     rw [List.filter_filter]
     refine List.filter_congr fun x _ => ?_
     rw [Array.contains_push, Bool.not_or, Bool.and_comm]
    simp only at this ⊢
    rw [this]; exact hperm
   ·simp only [Option.some.injEq] at hk'; subst hk'
    exact ⟨e, hel, hke, by simp⟩
  obtain ⟨E', hw', x', hi2⟩ := hi.iterStep hd' hb hg q2 hok
  refine ⟨some k, .tuple #[.bool true, e.key, e.val], E', hk, ?_, hi2, by simp only [nextV, RelV]; exact ⟨_, rfl, by simp only [RelVs, RelV, Rep]; exact ⟨_, _, rfl, rfl, _, _, rfl, trivial, _, _, rfl, trivial, rfl⟩⟩⟩
  simp [execOp, ho, hu1, Sem.run_bind, q3, hw']
theorem eff_entry {o : Oper} {t : S} {x : Operand} {d id : Nat} {es : List (List Int × TV)} {s : Snap} {left : List (List Int)} {k : List Int} {v : TV} (ho : o.op = .entry x) (hx : ev t x = .ptr (.o d) 0) (hd : t (.o d) = .mit id s left (some k)) (hm : mview es s (t (.o id))) (hk : kget es k = some v) :
  EffOK P A o t ⟨True, pl x ++ [.o d, .o id], [], .tup [keyTV k, v]⟩ :=
 .pure fun _ t' hr a E hi => by
  have hx' : ev t' x = .ptr (.o d) 0 := (ev_eq (pl_left hr)).trans hx
  have hd' : t' (.o d) = .mit id s left (some k) := (pl_right hr _ (by simp)).trans hd
  have hm' : mview es s (t' (.o id)) := by rw [pl_right hr (.o id) (by simp)]; exact hm
  have h1 := ev_rel hi x
  rw [hx'] at h1
  simp only [RelV] at h1
  obtain ⟨r0, hr0, hu1⟩ := h1
  obtain ⟨_, r, seen, hb, hg, ⟨o1, o2, o3⟩⟩ := iter_cur hi hd'
  rw [hb] at hr0
  simp only [Option.some.injEq] at hr0
  subst hr0
  obtain ⟨hmg, hs, l', hp, hrel⟩ := mview_cur hi hm'
  obtain ⟨b, l, clock⟩ := s
  simp only at o1 o2 o3 hg hmg hs hp
  obtain ⟨e, he1, he2, he3⟩ := o3 k rfl
  obtain ⟨seen0, hseen⟩ : ∃ q : Array Nat, seen = q.push e.born := by
   refine ⟨seen.pop, ?_⟩
   have hne : 0 < seen.size := by
    cases h0 : seen.size with
    | zero => rw [Array.eq_empty_of_size_eq_zero h0] at he3; simp at he3
    | succ n => omega
   rw [Array.back?_eq_getElem?, Array.getElem?_eq_some_iff] at he3
   obtain ⟨h1, h2⟩ := he3
   apply Array.ext
   ·simp; omega
   ·intro i h3 h4
    rw [Array.getElem_push]
    split
    ·simp
    ·rename_i h5
     have : i = seen.size - 1 := by simp at h5; omega
     subst this; exact h2
  subst hseen
  have hrun := run_entry_at (P := P) E.w r b clock seen0 l clock e hg hmg he1 hs.2.1
  rcases krel_get (k := k) hrel with ⟨g1, _⟩ | ⟨v0, a0, g1, g2, g3, g4⟩
  ·rw [hk] at g1; simp at g1
  ·rw [hk] at g1
   simp only [Option.some.injEq] at g1
   subst g1
   have : a0 = e := entry_eq_of_key2 ((MapKept.stamped_iff l clock).1 hs).2.2 (hp.mem_iff.1 g2) he1 (g3.trans he2.symm)
   subst this
   refine ⟨.tuple #[a0.key, a0.val], by simp [execOp, ho, hu1, Sem.run_bind, hrun], ?_⟩
   simp only [RelV]
   refine ⟨_, rfl, ?_⟩
   simp only [RelVs]
   exact ⟨_, _, rfl, by rw [he2]; exact keyTV_rel E k, _, _, rfl, g4, rfl⟩
end
end Go.Tr

namespace Go.Tr
open Go
def kzip (ks : List (List Int)) (vs : List D) : List (List Int × TV) := (ks.zip vs).map fun x => (x.1, .d x.2)
theorem repEs_krel {E : En} : ∀ {ks : List (List Int)} {vs : List D} {l : List MapEntry}, l.map (·.key) = ks.map keyV → RepEs E vs l → KRel E (kzip ks vs) l
 | [], vs, l, h1, h2 => by
   obtain rfl : l = [] := by cases l <;> simp at h1 ⊢
   simp [kzip, KRel]
 | k :: ks, vs, l, h1, h2 => by
   obtain ⟨a, l', rfl⟩ : ∃ a l', l = a :: l' := by cases l with
    | nil => simp at h1
    | cons a l' => exact ⟨a, l', rfl⟩
   simp only [List.map_cons, List.cons.injEq] at h1
   cases vs with
   | nil => simp [RepEs] at h2
   | cons d vs =>
     simp only [RepEs] at h2
     obtain ⟨a', l'', h3, h4, h5⟩ := h2
     simp only [List.cons.injEq] at h3
     obtain ⟨rfl, rfl⟩ := h3
     exact ⟨a, l', rfl, h1.1, by simp only [RelV]; exact h4, repEs_krel h1.2 h5⟩
theorem krel_repEs {E : En} : ∀ {es : List (List Int × D)} {l : List MapEntry}, KRel E (es.map fun x => (x.1, .d x.2)) l → l.map (·.key) = (es.map (·.1)).map keyV ∧ RepEs E (es.map (·.2)) l
 | [], l, h => by simp only [List.map_nil, KRel] at h; subst h; exact ⟨rfl, by simp [RepEs]⟩
 | (k, d) :: es, l, h => by
   obtain ⟨a, l', rfl, h1, h2, h3⟩ := h
   obtain ⟨h4, h5⟩ := krel_repEs h3
   refine ⟨by simp [h1, h4], ?_⟩
   simp only [List.map_cons, RepEs]
   exact ⟨a, l', rfl, by simpa only [RelV] using h2, h5⟩
section
variable {P : Program} {A : Actv}
theorem rep_map {E : En} {ks : List (List Int)} {vs : List D} {u : Value} (h : Rep E (.mp ks vs) u) :
  ∃ (s : Snap) (l' : List MapEntry), u = .map (some s.m) ∧ E.St s.m 0 ∧ E.w.heap[s.m]? = some (.map s.l s.clock) ∧ MapKept.Stamped s.l s.clock ∧ l'.Perm s.l.toList ∧ KRel E (kzip ks vs) l' ∧ l'.length = ks.length := by
 simp only [Rep] at h
 obtain ⟨b, l, clock, l', rfl, h1, h2, h3, h4, h5, h6⟩ := h
 exact ⟨⟨b, l, clock⟩, l', rfl, h1, h2, h4, h3, repEs_krel h5 h6, by have := congrArg List.length h5; simpa using this⟩
theorem eff_lookupZ {o : Oper} {t : S} {ty e : TypeId} {x ix : Operand} {ck : Bool} {ks : List (List Int)} {vs : List D} {k : List Int} {z : Value} (ho : o.op = .lookup ty x ix ck) (hm : mpK P ty k.length = some e) (hz : zrO P e = some z)
  (hx : ev t x = .d (.mp ks vs)) (hix : toKey (ev t ix) = some k) : EffOK P A o t ⟨klen k.length (kzip ks vs), pl x ++ pl ix, [], lkK ck (kget (kzip ks vs) k) (ofCell z)⟩ :=
 .pure fun hC t' hr a E hi => by
  have hx' : ev t' x = .d (.mp ks vs) := (ev_eq (pl_left hr)).trans hx
  have hix' : toKey (ev t' ix) = some k := by rw [ev_eq (pl_right hr)]; exact hix
  obtain ⟨kt, hu, hkt⟩ := mpK_spec hm
  have h1 := ev_rel hi x
  rw [hx'] at h1
  simp only [RelV] at h1
  obtain ⟨⟨b, l, clock⟩, l', hu1, _, hg, hs, hp, hrel, _⟩ := rep_map h1
  simp only at hu1 hg hs hp
  have hu2 := toKey_rel hix' (ev_rel hi ix)
  have hzero := zero_run hz E.w
  have hck := run_checkKeyV hkt l.isEmpty E.w
  have hall : ∀ e ∈ l.toList, ∃ k' : List Int, k'.length = k.length ∧ e.key = keyV k' := fun e he => by
   obtain ⟨k', v', g1, g2, _⟩ := krel_mem hrel e (hp.mem_iff.2 he)
   exact ⟨k', hC _ g1, g2⟩
  rcases run_findV hkt rfl E.w l.toList hall with ⟨g1, g2⟩ | ⟨j, a', g1, g2, g3⟩
  ·rcases krel_get (k := k) hrel with ⟨q1, _⟩ | ⟨v0, e, q1, q2, q3, _⟩
   ·refine ⟨match ck with | true => .tuple #[z, .bool false] | false => z, ?_, ?_⟩
    ·cases ck <;> simp [execOp, ho, hu1, hu2, Instr.lookup, Sem.run_bind, run_underlying hu, MapKept.run_getObj_map hg, hck, g1, hzero]
    ·rw [q1]
     cases ck with
     | true =>
       simp only [lkK, RelV]
       exact ⟨#[z, .bool false], rfl, by simp only [RelVs]; exact ⟨_, _, rfl, ofCell_rel E z, _, _, rfl, by simp [RelV, Rep], rfl⟩⟩
     | false => simp only [lkK]; exact ofCell_rel E z
   ·exact absurd q3 (g2 e (hp.mem_iff.1 q2))
  ·have hel : a' ∈ l.toList := List.mem_of_getElem? g2
   rcases krel_get (k := k) hrel with ⟨q1, q2⟩ | ⟨v0, e2, q1, q2, q3, q4⟩
   ·exact absurd g3 (q2 a' (hp.mem_iff.2 hel))
   ·have : e2 = a' := entry_eq_of_key2 ((MapKept.stamped_iff l clock).1 hs).2.2 (hp.mem_iff.1 q2) hel (q3.trans g3.symm)
    subst this
    refine ⟨match ck with | true => .tuple #[e2.val, .bool true] | false => e2.val, ?_, ?_⟩
    ·cases ck <;> simp [execOp, ho, hu1, hu2, Instr.lookup, Sem.run_bind, run_underlying hu, MapKept.run_getObj_map hg, hck, g1]
    ·rw [q1]
     cases ck with
     | true =>
       simp only [lkK, RelV]
       exact ⟨#[e2.val, .bool true], rfl, by simp only [RelVs]; exact ⟨_, _, rfl, q4, _, _, rfl, by simp [RelV, Rep], rfl⟩⟩
     | false => simp only [lkK]; exact q4
theorem eff_lenZ {o : Oper} {t : S} {x : Operand} {ty kt e : TypeId} {ks : List (List Int)} {vs : List D} (ho : o.op = .call { callee := .builtin .len, args := #[x], argTypes := #[ty] }) (he : P.underlying ty = some (.map kt e)) (hx : ev t x = .d (.mp ks vs)) :
  EffOK P A o t ⟨True, pl x, [], .d (.int .i64 ks.length)⟩ :=
 .pure fun hC t' hr a E hi => by
  have hx' := ev_rel hi x
  rw [ev_eq hr, hx] at hx'
  simp only [RelV] at hx'
  obtain ⟨⟨b, l, clock⟩, l', hu1, _, hg, hs, hp, hrel, hl⟩ := rep_map hx'
  simp only at hu1 hg hp
  have hl : l.size = ks.length := by rw [← hl, hp.length_eq]; simp
  refine ⟨.int .i64 ks.length, ?_, by simp [RelV, Rep]⟩
  simp [execOp, ho, resolve, invoke, builtin, Builtin.len_, hu1, Sem.run_bind, run_underlying he, MapKept.run_getObj_map hg, hl, goInt]
theorem rangeZ_ok {o : Oper} {t : S} {ty kt e : TypeId} {x : Operand} {d z : Nat} {ks : List (List Int)} {vs : List D} (ho : o.op = .range ty x) (hty : P.underlying ty = some (.map kt e)) (hx : ev t x = .d (.mp ks vs)) (hd : t (.o d) = .none) (hz : t (.o z) = .none) (hdz : d ≠ z) :
  ∀ t', (∀ p ∈ pl x ++ [.o z, .o d], t' p = t p) → ∀ a E, InvE A t' a E → ∃ (s : Snap) (u : Value) (E' : En), (execOp a.eval o).run P E.w = .ok (.value u) E'.w ∧ InvE A (over t' [(.o d, .mit z s ((kzip ks vs).map (·.1)) none), (.o z, .mpz (kzip ks vs) s)]) a E' ∧ RelV E' (.ptr (.o d) 0) u := fun t' hr a E hi => by
 have hx' : ev t' x = .d (.mp ks vs) := (ev_eq (pl_left hr)).trans hx
 have hz' : t' (.o z) = .none := (pl_right hr _ (by simp)).trans hz
 have hd' : t' (.o d) = .none := (pl_right hr _ (by simp)).trans hd
 have h1 := ev_rel hi x
 rw [hx'] at h1
 simp only [RelV] at h1
 obtain ⟨s, l', hu1, hst, hg, hs, hp, hrel, _⟩ := rep_map h1
 have hfree := hi.h.item (.o z) (by simp)
 rw [hz'] at hfree
 obtain ⟨hb0, hv0⟩ := hfree z rfl
 have hown : E.own (.o z) = none := by simp [En.own, hb0, hv0]
 have hH : HInv E (upd t' (.o z) (.mpz (kzip ks vs) s)) := by
  refine hi.h.change (by simp) (Ext.refl _ _) (fun b o h => .inl h) (fun _ _ => rfl) (fun _ _ => rfl) (Nat.le_refl _) (fun _ _ _ _ => rfl) (fun b' hb' => by rw [hown] at hb'; simp at hb') ?_ (fun b' o' hs hb' => by rw [hown] at hb'; simp at hb')
  exact ⟨hown, hst, hg, hs, l', hp, hrel⟩
 have hi2 : InvE A (upd t' (.o z) (.mpz (kzip ks vs) s)) a E := ⟨hH, hi.fr, fun k tv hk => hi.sl k tv (by simpa [upd] using hk), hi.defers, hi.size⟩
 obtain ⟨E', hw', hi3, hrl⟩ := hi2.newIter (d := d) (id := z) (by simp [upd, hdz, hd']) hs hp hrel
 refine ⟨s, _, E', ?_, hi3, hrl⟩
 have := run_range_map (P := P) E.w ty kt e s.m s.l s.clock hty hg
 simp [execOp, ho, hu1, Sem.run_bind, this, hw']
end
end Go.Tr

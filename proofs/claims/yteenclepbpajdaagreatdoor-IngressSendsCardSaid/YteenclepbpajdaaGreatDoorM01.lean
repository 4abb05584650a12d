/-
  What functions of the program compute, stated as contracts over plain data; the conditions of each stand in its own statement.
-/
import Derived.Test.YteenclepbpajdaaGreatDoorM00
import Derived.Deep.MidRow
set_option linter.unusedSimpArgs false
namespace Go.Tr
open Go
section
variable {P : Program} {A : Actv}
theorem eff_move {o : Oper} {t : S} {x : Operand} (ho : o.op = .move x ∨ o.op = .assign x) : EffOK P A o t ⟨True, pl x, [], ev t x⟩ :=
 .pure fun _ t' hr a E hi => ⟨a.eval x, by rcases ho with ho | ho <;> simp [execOp, ho], ev_eq hr ▸ ev_rel hi x⟩
theorem eff_pick {o : Oper} {t : S} {c x y : Operand} {g : Bool} (ho : o.op = .pick c x y) (hg : ev t c = .d (.bool g)) :
  EffOK P A o t ⟨True, pl c ++ (pl x ++ pl y), [], bif g then ev t x else ev t y⟩ :=
 .pure fun _ t' hr a E hi => by
  have hc := ev_rel hi c
  rw [ev_eq (pl_left hr), hg] at hc
  simp only [RelV, Rep] at hc
  have hx := ev_rel hi x
  rw [ev_eq (pl_left (pl_right hr))] at hx
  have hy := ev_rel hi y
  rw [ev_eq (pl_right (pl_right hr))] at hy
  cases g
  ·exact ⟨a.eval y, by simp [execOp, ho, hc, asBool], hy⟩
  ·exact ⟨a.eval x, by simp [execOp, ho, hc, asBool], hx⟩
theorem eff_bin {o : Oper} {t : S} {op : BinOp} {ty ty' : TypeId} {x y : Operand} {C : Prop} {v : TV} (ho : o.op = .binOp op ty x y ty') (h : binD P op ty (ev t x) (ev t y) = some (C, v)) :
  EffOK P A o t ⟨C, pl x ++ pl y, [], v⟩ :=
 .pure fun hC t' hr a E hi => by
  have hx := ev_rel hi x
  rw [ev_eq (pl_left hr)] at hx
  have hy := ev_rel hi y
  rw [ev_eq (pl_right hr)] at hy
  obtain ⟨r, h1, h2⟩ := binD_ok h hC hx hy x y E.w
  refine ⟨r, ?_, h2⟩
  simp only [execOp, ho]
  rw [Sem.run_bind, h1]
  rfl
def unD (op : UnOp) : TV → Option TV
 | .d (.int k n) => match op with
   | .neg => some (.d (.int k (k.wrap (0 - n))))
   | .xor => some (.d (.int k (notI k n)))
   | _ => none
 | .d (.bool b) => match op with
   | .not => some (.d (.bool !b))
   | _ => none
 | _ => none
theorem eff_un {o : Oper} {t : S} {op : UnOp} {ty : TypeId} {x : Operand} {v : TV} (ho : o.op = .unOp op ty x) (h : unD op (ev t x) = some v) : EffOK P A o t ⟨True, pl x, [], v⟩ :=
 .pure fun _ t' hr a E hi => by
  have hx := ev_rel hi x
  rw [ev_eq hr] at hx
  revert hx h
  generalize ev t x = tx
  intro h hx
  unfold unD at h
  split at h
  ·simp only [RelV, Rep] at hx
   split at h
   ·simp only [Option.some.injEq] at h; subst h
    refine ⟨_, ?_, rfl⟩
    simp [execOp, ho, hx, Op.unary, Op.intArith]
   ·simp only [Option.some.injEq] at h; subst h
    refine ⟨_, ?_, rfl⟩
    simp only [execOp, ho, hx, Op.unary, Op.intBits, Sem.run_bind, Sem.run_pure, Result.andThen_ok, notI]
   ·simp at h
  ·simp only [RelV, Rep] at hx
   split at h
   ·simp only [Option.some.injEq] at h; subst h
    refine ⟨_, ?_, rfl⟩
    simp [execOp, ho, hx, Op.unary]
   ·simp at h
  ·simp at h
theorem eff_conv {o : Oper} {t : S} {sr ds : TypeId} {x : Operand} {k k' : IntKind} {n : Int} (ho : o.op = .convert sr ds x) (hs : (shp P sr).isSome = true) (hd : knd P ds = some k') (hx : ev t x = .d (.int k n)) :
  EffOK P A o t ⟨True, pl x, [], .d (.int k' (k'.wrap n))⟩ :=
 .pure fun _ t' hr a E hi => by
  have hx' := ev_rel hi x
  rw [ev_eq hr, hx] at hx'
  simp only [RelV, Rep] at hx'
  refine ⟨_, ?_, rfl⟩
  unfold knd at hd
  split at hd
  ·rename_i q hq
   simp only [Option.some.injEq] at hd; subst hd
   unfold shp at hs
   cases hu : P.underlying sr with
   | none => simp [hu] at hs
   | some d =>
     simp only [execOp, ho, hx', convert, Sem.run_bind, run_underlying hu, run_underlying hq, Result.andThen_ok, Conv.intToInt, Sem.run_pure]
  ·simp at hd
theorem eff_nil {o : Oper} {t : S} {x : Operand} (ho : o.op = .nilCheck x) (h : (∃ p off, ev t x = .ptr p off) ∨ (∃ e off, ev t x = .ep e off) ∨ (∃ f c, ev t x = .clo f c)) :
  EffOK P A o t ⟨True, pl x, [], ev t x⟩ :=
 .pure fun _ t' hr a E hi => by
  have hx := ev_rel hi x
  rw [ev_eq hr] at hx
  refine ⟨a.eval x, ?_, hx⟩
  rcases h with ⟨p, off, h⟩ | ⟨e, off, h⟩ | ⟨f, c, h⟩ <;> rw [h] at hx <;> simp only [RelV] at hx
  ·obtain ⟨b, _, hu⟩ := hx; simp [execOp, ho, hu]
  ·obtain ⟨b, _, hu, _⟩ := hx; simp [execOp, ho, hu]
  ·obtain ⟨us, hu, _⟩ := hx; simp [execOp, ho, hu]
theorem run_fieldAt {s f : Nat} {off : Nat} {ft : TypeId} (hf : fld P s f = some (off, ft)) {z : Nat} (hz : szO P ft = some z) (hz0 : z ≠ 0) (b o : Nat) (w : World) :
  (Instr.fieldAt s (.pointer (some ⟨b, o, none⟩)) f).run P w = .ok (.pointer (some ⟨b, o + off, none⟩)) w := by
 unfold fld at hf
 split at hf
 ·rename_i fs hfs
  cases hff : fs[f]? with
  | none => simp [hff] at hf
  | some g =>
    simp only [hff, Option.map_some, Option.some.injEq, Prod.mk.injEq] at hf
    obtain ⟨rfl, rfl⟩ := hf
    unfold szO at hz
    cases hi : P.info? g.type with
    | none => simp [hi] at hz
    | some i =>
      simp only [hi, Option.map_some, Option.some.injEq] at hz
      simp [Instr.fieldAt, run_underlying hfs, hff, Instr.sureAddr, fieldPlace, sizeOf, typeInfo, hi, hz, hz0, add_lit']
 ·simp at hf
theorem eff_fieldAddr {o : Oper} {t : S} {s f : Nat} {x : Operand} {off : Nat} {ft : TypeId} {z : Nat} {v : TV} (ho : o.op = .fieldAddr s x f) (hf : fld P s f = some (off, ft)) (hz : szO P ft = some z) (hz0 : z ≠ 0)
  (h : (∃ p q, ev t x = .ptr p q ∧ v = .ptr p (q + off)) ∨ (∃ e q, ev t x = .ep e q ∧ v = .ep e (q + off))) : EffOK P A o t ⟨True, pl x, [], v⟩ :=
 .pure fun _ t' hr a E hi => by
  have hx := ev_rel hi x
  rw [ev_eq hr] at hx
  rcases h with ⟨p, q, h, rfl⟩ | ⟨e, q, h, rfl⟩ <;> rw [h] at hx <;> simp only [RelV] at hx
  ·obtain ⟨b, hb, hu⟩ := hx
   refine ⟨.pointer (some ⟨b, q + off, none⟩), ?_, ?_⟩
   ·simp [execOp, ho, hu, run_fieldAt hf hz hz0]
   ·simp only [RelV]; exact ⟨b, hb, rfl⟩
  ·obtain ⟨b, p, hu, hc⟩ := hx
   refine ⟨.pointer (some ⟨b, p + q + off, none⟩), ?_, ?_⟩
   ·simp [execOp, ho, hu, run_fieldAt hf hz hz0]
   ·simp only [RelV]; exact ⟨b, p, by rw [Nat.add_assoc], hc⟩
theorem row_cur {t : S} {a : Act} {E : En} (hi : InvE A t a E) {id k : Nat} {e : TypeId} {es : List (List TV)} {sh : Bool} (ht : t (.o id) = .row e k es sh) :
  E.blk (.o id) = none ∧ ∃ v us, E.val id = some (k, es.length, v) ∧ E.w.ownsRow 0 e k v es.length us ∧ RowRel E us k 0 es ∧ (∀ u, RelV E (.oref id es.length) u → u = v) := by
 have := hi.h.item (.o id) (by simp)
 rw [ht] at this
 obtain ⟨h0, id', v, us, hid, h1, h2, h3⟩ := this
 simp only [Pl.o.injEq] at hid
 subst hid
 refine ⟨h0, v, us, h1, h2, h3, fun u hu => ?_⟩
 simp only [RelV] at hu
 obtain ⟨_, k', c, v', hv, _, he⟩ := hu
 rw [h1] at hv
 simp only [Option.some.injEq, Prod.mk.injEq] at hv
 obtain ⟨rfl, rfl, rfl⟩ := hv
 exact he rfl
theorem eptr_cur {t : S} {a : Act} {E : En} (hi : InvE A t a E) {id k i off : Nat} {e : TypeId} {es : List (List TV)} {sh : Bool} (ht : t (.o id) = .row e k es sh) {u : Value}
  (hu : RelV E (.eptr id es.length i off) u) : ∃ g cap us, E.val id = some (k, es.length, .slice (some ⟨g, 0, none⟩) es.length cap) ∧ u = .pointer (some ⟨g, i * k + off, none⟩) ∧
   E.w.ownsRow 0 e k (.slice (some ⟨g, 0, none⟩) es.length cap) es.length us ∧ RowRel E us k 0 es := by
 obtain ⟨_, v, us, h1, h2, h3, _⟩ := row_cur hi ht
 simp only [RelV] at hu
 obtain ⟨_, k', c, v', hv, _, he⟩ := hu
 rw [h1] at hv
 simp only [Option.some.injEq, Prod.mk.injEq] at hv
 obtain ⟨rfl, rfl, rfl⟩ := hv
 obtain ⟨b, o, cp, rfl, hu⟩ := he rfl
 rcases h2.2 with ⟨h4, _⟩ | ⟨g, cap, cur, h4, rest⟩
 ·simp at h4
 ·simp only [Value.slice.injEq, Option.some.injEq, Addr.mk.injEq] at h4
  obtain ⟨⟨rfl, rfl, _⟩, _, rfl⟩ := h4
  exact ⟨b, cp, us, h1, by simpa using hu, h2, h3⟩
theorem eff_nil_row {o : Oper} {t : S} {x : Operand} {id n i q k : Nat} {e : TypeId} {es : List (List TV)} {sh : Bool} (ho : o.op = .nilCheck x) (hx : ev t x = .eptr id n i q) (ht : t (.o id) = .row e k es sh) :
  EffOK P A o t ⟨n = es.length, pl x ++ [.o id], [], .eptr id n i q⟩ := .pure fun hn t' hr a E hi => by
 have hu := ev_rel hi x
 rw [ev_eq (pl_left hr), hx] at hu
 have ht' : t' (.o id) = .row e k es sh := (pl_right hr _ (by simp)).trans ht
 subst hn
 obtain ⟨g, cap, us, _, hu', _⟩ := eptr_cur hi ht' hu
 exact ⟨a.eval x, by simp [execOp, ho, hu'], hu⟩
theorem eff_fieldAddr_row {o : Oper} {t : S} {s f : Nat} {x : Operand} {off : Nat} {ft : TypeId} {z : Nat} {id n i q k : Nat} {e : TypeId} {es : List (List TV)} {sh : Bool}
  (ho : o.op = .fieldAddr s x f) (hf : fld P s f = some (off, ft)) (hz : szO P ft = some z) (hz0 : z ≠ 0)
  (h : ev t x = .eptr id n i q) (ht : t (.o id) = .row e k es sh) : EffOK P A o t ⟨n = es.length, pl x ++ [.o id], [], .eptr id n i (q + off)⟩ :=
 .pure fun hC t' hr a E hi => by
  have hx := ev_rel hi x
  rw [ev_eq (pl_left hr), h] at hx
  have ht' : t' (.o id) = .row e k es sh := (pl_right hr _ (by simp)).trans ht
  subst hC
  obtain ⟨g, cap, us, h1, rfl', h2, h3⟩ := eptr_cur hi ht' hx
  refine ⟨.pointer (some ⟨g, i * k + q + off, none⟩), ?_, ?_⟩
  ·simp [execOp, ho, rfl', run_fieldAt hf hz hz0]
  ·simp only [RelV]
   exact ⟨rfl, k, _, _, h1, Nat.le_refl _, fun _ => ⟨g, 0, cap, rfl, by simp [Nat.add_assoc]⟩⟩
theorem run_indexAt_sl {ty e k : Nat} (he : slE P ty = some e) (hk : szO P e = some k) (a : Addr) (len cap : Nat) (ik : IntKind) (i : Int) (h0 : 0 ≤ i) (h1 : i < len) (w : World) :
  (Instr.indexAt ty (.slice (some a) len cap) (.int ik i)).run P w = .ok (.pointer (some (a.add (i.toNat * k)))) w := by
 unfold slE at he
 split at he
 ·rename_i e' hu
  simp only [Option.some.injEq] at he
  subst he
  unfold szO at hk
  cases hi : P.info? e' with
  | none => simp [hi] at hk
  | some inf =>
    simp only [hi, Option.map_some, Option.some.injEq] at hk
    simp [Instr.indexAt, run_underlying hu, asIntOf, h0, h1, sizeOf, typeInfo, hi, hk]
 ·simp at he
theorem eff_indexAddr {o : Oper} {t : S} {ty : TypeId} {x ix : Operand} {e k : Nat} {xs : List (List D)} {ik : IntKind} {i : Int} (ho : o.op = .indexAddr ty x ix) (he : slE P ty = some e) (hk : szO P e = some k)
  (hx : ev t x = .d (.sl xs)) (hix : ev t ix = .d (.int ik i)) :
  EffOK P A o t ⟨0 ≤ i ∧ i < xs.length ∧ (xs.getD i.toNat []).length = k, pl x ++ pl ix, [], .ep (xs.getD i.toNat []) 0⟩ :=
 .pure fun ⟨h0, h1, h2⟩ t' hr a E hi => by
  have hx' := ev_rel hi x
  rw [ev_eq (pl_left hr), hx] at hx'
  have hix' := ev_rel hi ix
  rw [ev_eq (pl_right hr), hix] at hix'
  simp only [RelV, Rep] at hx' hix'
  have hlt : i.toNat < xs.length := by omega
  have hg : xs[i.toNat]? = some (xs.getD i.toNat []) := by simp [List.getD, hlt]
  rcases hx' with ⟨h3, _⟩ | ⟨b, of, c, k', hu, hc, hrows⟩
  ·omega
  ·obtain ⟨h4, h5⟩ := hrows.get hg
   have hkk : k' = k := by omega
   subst hkk
   refine ⟨.pointer (some ⟨b, of + i.toNat * k', none⟩), ?_, ?_⟩
   ·simp [execOp, ho, hu, hix', run_indexAt_sl he hk _ _ _ _ _ h0 h1, add_lit']
   ·simp only [RelV]
    exact ⟨b, of + i.toNat * k', by simp, h5⟩
theorem eff_indexAddr_row {o : Oper} {t : S} {ty : TypeId} {x ix : Operand} {e k id n : Nat} {e' : TypeId} {es : List (List TV)} {sh : Bool} {ik : IntKind} {i : Int} (ho : o.op = .indexAddr ty x ix) (he : slE P ty = some e) (hk : szO P e = some k)
  (hx : ev t x = .oref id n) (hix : ev t ix = .d (.int ik i)) (ht : t (.o id) = .row e' k es sh) :
  EffOK P A o t ⟨n = es.length ∧ 0 ≤ i ∧ i < es.length, pl x ++ (pl ix ++ [.o id]), [], .eptr id n i.toNat 0⟩ :=
 .pure fun ⟨hn, h0, h1⟩ t' hr a E hi => by
  have hx' := ev_rel hi x
  rw [ev_eq (pl_left hr), hx] at hx'
  have hix' := ev_rel hi ix
  rw [ev_eq (pl_left (pl_right hr)), hix] at hix'
  simp only [RelV, Rep] at hix'
  subst hn
  have ht' : t' (.o id) = .row e' k es sh := (pl_right (pl_right hr) _ (by simp)).trans ht
  obtain ⟨_, v, us, h2, h3, h4, h5⟩ := row_cur hi ht'
  have hu := h5 _ hx'
  rcases h3.2 with ⟨_, h6⟩ | ⟨g, cap, cur, h6, _⟩
  ·omega
  ·subst h6
   refine ⟨.pointer (some ⟨g, i.toNat * k, none⟩), ?_, ?_⟩
   ·simp [execOp, ho, hu, hix', run_indexAt_sl he hk _ _ _ _ _ h0 h1, add_lit']
   ·simp only [RelV]
    exact ⟨rfl, k, _, _, h2, Nat.le_refl _, fun _ => ⟨g, 0, cap, rfl, by simp⟩⟩
theorem eff_indexAddr_arr {o : Oper} {t : S} {ty : TypeId} {x ix : Operand} {n e k : Nat} {p : Pl} {q : Nat} {ik : IntKind} {i : Int} (ho : o.op = .indexAddr ty x ix) (he : arE P ty = some (n, e)) (hk : szO P e = some k)
  (hx : ev t x = .ptr p q) (hix : ev t ix = .d (.int ik i)) : EffOK P A o t ⟨0 ≤ i ∧ i < n, pl x ++ pl ix, [], .ptr p (q + i.toNat * k)⟩ :=
 .pure fun ⟨h0, h1⟩ t' hr a E hi => by
  have hx' := ev_rel hi x
  rw [ev_eq (pl_left hr), hx] at hx'
  have hix' := ev_rel hi ix
  rw [ev_eq (pl_right hr), hix] at hix'
  simp only [RelV, Rep] at hx' hix'
  obtain ⟨b, hb, hu⟩ := hx'
  unfold arE at he
  split at he
  ·rename_i n' e' hun
   simp only [Option.some.injEq, Prod.mk.injEq] at he
   obtain ⟨rfl, rfl⟩ := he
   unfold szO at hk
   cases hinf : P.info? e' with
   | none => simp [hinf] at hk
   | some inf =>
     simp only [hinf, Option.map_some, Option.some.injEq] at hk
     refine ⟨.pointer (some ⟨b, q + i.toNat * k, none⟩), ?_, ?_⟩
     ·simp [execOp, ho, hu, hix', Instr.indexAt, run_underlying hun, asIntOf, Instr.sureAddr, h0, h1, sizeOf, typeInfo, hinf, hk, add_lit']
     ·simp only [RelV]; exact ⟨b, hb, rfl⟩
  ·simp at he
theorem eff_indexAddr_ep {o : Oper} {t : S} {ty : TypeId} {x ix : Operand} {n e k : Nat} {ds : List D} {q : Nat} {ik : IntKind} {i : Int} (ho : o.op = .indexAddr ty x ix) (he : arE P ty = some (n, e)) (hk : szO P e = some k)
  (hx : ev t x = .ep ds q) (hix : ev t ix = .d (.int ik i)) : EffOK P A o t ⟨0 ≤ i ∧ i < n, pl x ++ pl ix, [], .ep ds (q + i.toNat * k)⟩ :=
 .pure fun ⟨h0, h1⟩ t' hr a E hi => by
  have hx' := ev_rel hi x
  rw [ev_eq (pl_left hr), hx] at hx'
  have hix' := ev_rel hi ix
  rw [ev_eq (pl_right hr), hix] at hix'
  simp only [RelV, Rep] at hx' hix'
  obtain ⟨b, o', hu, hc⟩ := hx'
  unfold arE at he
  split at he
  ·rename_i n' e' hun
   simp only [Option.some.injEq, Prod.mk.injEq] at he
   obtain ⟨rfl, rfl⟩ := he
   unfold szO at hk
   cases hinf : P.info? e' with
   | none => simp [hinf] at hk
   | some inf =>
     simp only [hinf, Option.map_some, Option.some.injEq] at hk
     refine ⟨.pointer (some ⟨b, o' + q + i.toNat * k, none⟩), ?_, ?_⟩
     ·simp [execOp, ho, hu, hix', Instr.indexAt, run_underlying hun, asIntOf, Instr.sureAddr, h0, h1, sizeOf, typeInfo, hinf, hk, add_lit']
     ·simp only [RelV]; exact ⟨b, o', by rw [Nat.add_assoc], hc⟩
  ·simp at he
theorem eff_extract {o : Oper} {t : S} {x : Operand} {i : Nat} {vs : List TV} {v : TV} (ho : o.op = .extract x i) (hx : ev t x = .tup vs) (hv : vs[i]? = some v) : EffOK P A o t ⟨True, pl x, [], v⟩ :=
 .pure fun _ t' hr a E hi => by
  have hx' := ev_rel hi x
  rw [ev_eq hr, hx] at hx'
  simp only [RelV] at hx'
  obtain ⟨us, hu, hs⟩ := hx'
  obtain ⟨u, h1, h2⟩ := hs.get hv
  have h1' : us[i]? = some u := by simpa using h1
  exact ⟨u, by simp [execOp, ho, hu, Instr.extract, h1'], h2⟩
theorem evs_rel {t : S} {a : Act} {E : En} (hi : InvE A t a E) : ∀ xs : List Operand, RelVs E (xs.map (ev t)) (xs.map a.eval)
 | [] => by simp only [List.map_nil, RelVs]
 | x :: xs => by simp only [List.map_cons, RelVs]; exact ⟨_, _, rfl, ev_rel hi x, evs_rel hi xs⟩
theorem evs_eq {t t' : S} : ∀ {xs : List Operand}, (∀ p ∈ xs.flatMap pl, t' p = t p) → xs.map (ev t') = xs.map (ev t)
 | [], _ => rfl
 | x :: xs, h => by
   simp only [List.map_cons]
   rw [ev_eq (fun p hp => h p (by simp [hp])), evs_eq (fun p hp => h p (by simp only [List.flatMap_cons]; exact List.mem_append_right _ hp))]
theorem eff_makeFunc {o : Oper} {t : S} {f : FuncId} {caps : List Operand} (ho : o.op = .makeFunc (.func f) #[] caps.toArray) : EffOK P A o t ⟨True, caps.flatMap pl, [], .clo f (caps.map (ev t))⟩ :=
 .pure fun _ t' hr a E hi => by
  have h := evs_rel hi caps
  rw [evs_eq hr] at h
  refine ⟨.func (.func f) #[] (caps.map a.eval).toArray, by simp [execOp, ho, Instr.makeFunc], ?_⟩
  simp only [RelV]
  exact ⟨_, rfl, by simpa using h⟩
end
end Go.Tr

set_option linter.unusedSimpArgs false
namespace Go.Tr
open Go
section
variable {P : Program} {A : Actv}
theorem run_load_one {ty : TypeId} (h : shp P ty = some false) {a : Addr} {u : Value} {w : World} (hc : w.cell? a = some u) : (loadVar ty a).run P w = .ok u w := by
 unfold shp at h
 cases hu : P.underlying ty with
 | none => simp [hu] at h
 | some d =>
   have : (isAgg ty).run P w = .ok false w := by
    unfold isAgg
    rw [Sem.run_bind, run_underlying hu w]
    cases d <;> simp_all
   simp [loadVar, this, hc]
theorem run_load_agg {ty z : Nat} (h : shp P ty = some true) (hz : szO P ty = some z) {b o : Nat} {cs : List Value} (hl : cs.length = z) {w : World} (hc : w.rangeAt b o cs) :
  (loadVar ty ⟨b, o, none⟩).run P w = .ok (.agg cs.toArray) w := by
 unfold shp at h
 cases hu : P.underlying ty with
 | none => simp [hu] at h
 | some d =>
   refine run_loadVar_mid w b o ty cs d hc hu ?_ ?_
   ·cases d <;> simp_all
   ·subst hl; exact hz
theorem RepCells.range {E : En} {b o : Nat} {xs : List D} (h : RepCells E b o xs) : ∃ us : List Value, us.length = xs.length ∧ E.w.rangeAt b o us ∧ RelVs E (xs.map .d) us := by
 induction xs generalizing o with
 | nil => exact ⟨[], rfl, fun j v hv => by simp at hv, by simp only [List.map_nil, RelVs]⟩
 | cons x xs ih =>
   simp only [RepCells] at h
   obtain ⟨⟨_, u, hu, hr⟩, h2⟩ := h
   obtain ⟨us, h3, h4, h5⟩ := ih h2
   refine ⟨u :: us, by simp [h3], fun j v hv => ?_, ?_⟩
   ·cases j with
    | zero => simp at hv; subst hv; simpa using hu
    | succ j =>
      have := h4 j v (by simpa using hv)
      rwa [show o + (j + 1) = o + 1 + j by omega]
   ·simp only [List.map_cons, RelVs, RelV]
    exact ⟨u, us, rfl, hr, h5⟩
theorem RepCells.sub {E : En} {b o : Nat} {xs : List D} (h : RepCells E b o xs) (q z : Nat) : RepCells E b (o + q) ((xs.drop q).take z) :=
 RepCells.of_get fun i x hx => by
  have hx' : xs[q + i]? = some x := by
   rw [List.getElem?_take] at hx
   split at hx
   ·simpa using hx
   ·simp at hx
  have := h.get hx'
  rwa [← Nat.add_assoc] at this
theorem CellsRel.sub {E : En} {us : List Value} {o : Nat} {ts : List TV} (h : CellsRel E us o ts) (q z : Nat) : CellsRel E us (o + q) ((ts.drop q).take z) :=
 CellsRel.of_get fun i x hx => by
  have hx' : ts[q + i]? = some x := by
   rw [List.getElem?_take] at hx
   split at hx
   ·simpa using hx
   ·simp at hx
  have := h.get hx'
  rwa [← Nat.add_assoc] at this
theorem CellsRel.vals {E : En} {us : List Value} {o : Nat} {ts : List TV} (h : CellsRel E us o ts) : RelVs E ts ((us.drop o).take ts.length) ∧ ((us.drop o).take ts.length).length = ts.length := by
 have hl : ((us.drop o).take ts.length).length = ts.length := by
  cases ts with
  | nil => simp
  | cons t ts =>
    have := h.get (i := ts.length) (t := (t :: ts)[ts.length]) (by simp)
    obtain ⟨u, hu, _⟩ := this
    have := (List.getElem?_eq_some_iff.1 hu).1
    simp only [List.length_take, List.length_drop, List.length_cons]
    omega
 refine ⟨RelVs.of_get hl fun i t u ht hu => ?_, hl⟩
 obtain ⟨u', h1, _, h2⟩ := h.get ht
 rw [List.getElem?_take] at hu
 split at hu
 ·rw [List.getElem?_drop, h1] at hu
  simp at hu; subst hu; exact h2
 ·simp at hu
theorem rangeAt_list {w : World} {b : Nat} {us : List Value} (h : ∀ j u, us[j]? = some u → w.cell? ⟨b, j, none⟩ = some u) (o n : Nat) : w.rangeAt b o ((us.drop o).take n) := fun j v hv => by
 rw [List.getElem?_take] at hv
 split at hv
 ·exact h _ _ (by simpa using hv)
 ·simp at hv
theorem box_cur {t : S} {a : Act} {E : En} (hi : InvE A t a E) {p : Pl} {cs : List TV} (ht : t p = .box cs) {q : Nat} {u : Value} (hu : RelV E (.ptr p q) u) :
  ∃ b ty us, u = .pointer (some ⟨b, q, none⟩) ∧ E.blk p = some b ∧ E.w.heap[b]? = some (.cells us ty (0, 0)) ∧ us.size = cs.length ∧ CellsRel E us.toList 0 cs := by
 simp only [RelV] at hu
 obtain ⟨b, hb, hu⟩ := hu
 have hp : ∀ k, p ≠ .s k := by
  rintro k rfl
  rw [hi.h.frees k] at hb; simp at hb
 have := hi.h.item p hp
 rw [ht] at this
 obtain ⟨_, b', ty, us, h1, h2, h3, h4⟩ := this
 rw [hb] at h1
 simp only [Option.some.injEq] at h1
 subst h1
 exact ⟨b, ty, us, hu, hb, h2, h3, h4⟩
theorem cell_heap {w : World} {b : Nat} {us : Array Value} {ty : TypeId} {f : Nat × Nat} (h : w.heap[b]? = some (.cells us ty f)) (j : Nat) : w.cell? ⟨b, j, none⟩ = us[j]? := by
 simp [World.cell?, h]
theorem eff_load_box {o : Oper} {t : S} {ty : TypeId} {x : Operand} {p : Pl} {q : Nat} {cs : List TV} {v : TV} (ho : o.op = .load ty x) (hx : ev t x = .ptr p q) (ht : t p = .box cs)
  (h : (shp P ty = some false ∧ cs[q]? = some v) ∨ (∃ z, shp P ty = some true ∧ szO P ty = some z ∧ q + z ≤ cs.length ∧ v = .agg ((cs.drop q).take z))) :
  EffOK P A o t ⟨True, pl x ++ [p], [], v⟩ :=
 .pure fun _ t' hr a E hi => by
  have hx' := ev_rel hi x
  rw [ev_eq (pl_left hr), hx] at hx'
  have ht' : t' p = .box cs := (pl_right hr _ (by simp)).trans ht
  obtain ⟨b, ty', us, hu, hb, hh, hs, hc⟩ := box_cur hi ht' hx'
  rcases h with ⟨h1, h2⟩ | ⟨z, h1, h2, h3, rfl⟩
  ·obtain ⟨u, h4, h5, h6⟩ := hc.get h2
   refine ⟨u, ?_, h6⟩
   have hcell : E.w.cell? ⟨b, q, none⟩ = some u := by rw [cell_heap hh]; simpa using h4
   simp [execOp, ho, hu, Instr.loadAt, Instr.sureAddr, run_load_one h1 hcell]
  ·have hc' := (hc.sub q z).vals
   simp only [Nat.zero_add] at hc'
   have hl : ((cs.drop q).take z).length = z := by simp; omega
   rw [hl] at hc'
   refine ⟨.agg ((us.toList.drop q).take z).toArray, ?_, ?_⟩
   ·have := run_load_agg h1 h2 hc'.2 (w := E.w) (rangeAt_list (b := b) (fun j u hj => by rw [cell_heap hh]; simpa using hj) q z)
    simp only [execOp, ho, hu, Instr.loadAt, Instr.sureAddr, Sem.run_bind, Sem.run_pure, Result.andThen_ok, this]
   ·simp only [RelV]; exact ⟨_, rfl, hc'.1⟩
theorem eff_load_ep {o : Oper} {t : S} {ty : TypeId} {x : Operand} {e : List D} {q : Nat} {v : TV} (ho : o.op = .load ty x) (hx : ev t x = .ep e q)
  (h : (shp P ty = some false ∧ ∃ y, e[q]? = some y ∧ v = .d y) ∨ (∃ z, shp P ty = some true ∧ szO P ty = some z ∧ q + z ≤ e.length ∧ v = .agg (((e.drop q).take z).map .d))) :
  EffOK P A o t ⟨True, pl x, [], v⟩ :=
 .pure fun _ t' hr a E hi => by
  have hx' := ev_rel hi x
  rw [ev_eq hr, hx] at hx'
  simp only [RelV] at hx'
  obtain ⟨b, of, hu, hc⟩ := hx'
  rcases h with ⟨h1, y, h2, rfl⟩ | ⟨z, h1, h2, h3, rfl⟩
  ·obtain ⟨_, u, h4, h5⟩ := hc.get h2
   refine ⟨u, ?_, ?_⟩
   ·simp [execOp, ho, hu, Instr.loadAt, Instr.sureAddr, run_load_one h1 h4]
   ·simp only [RelV]; exact h5
  ·obtain ⟨us, h4, h5, h6⟩ := (hc.sub q z).range
   have hl : us.length = z := by rw [h4]; simp; omega
   refine ⟨.agg us.toArray, ?_, ?_⟩
   ·simp only [execOp, ho, hu, Instr.loadAt, Instr.sureAddr, Sem.run_bind, Sem.run_pure, Result.andThen_ok, run_load_agg h1 h2 hl h5]
   ·simp only [RelV]; exact ⟨_, rfl, h6⟩
theorem eff_load_row {o : Oper} {t : S} {ty : TypeId} {x : Operand} {id n i q k : Nat} {e : TypeId} {es : List (List TV)} {sh : Bool} {v : TV} (ho : o.op = .load ty x) (hx : ev t x = .eptr id n i q) (ht : t (.o id) = .row e k es sh)
  (h : (shp P ty = some false ∧ (es.getD i [])[q]? = some v) ∨ (∃ z, shp P ty = some true ∧ szO P ty = some z ∧ q + z ≤ (es.getD i []).length ∧ v = .agg (((es.getD i []).drop q).take z))) :
  EffOK P A o t ⟨n = es.length ∧ i < es.length, pl x ++ [.o id], [], v⟩ :=
 .pure fun ⟨hn, hil⟩ t' hr a E hi => by
  have hx' := ev_rel hi x
  rw [ev_eq (pl_left hr), hx] at hx'
  have ht' : t' (.o id) = .row e k es sh := (pl_right hr _ (by simp)).trans ht
  subst hn
  obtain ⟨g, cap, us, h1, hu, h2, h3⟩ := eptr_cur hi ht' hx'
  have hg : es[i]? = some (es.getD i []) := by simp [List.getD, hil]
  obtain ⟨h4, h5⟩ := h3.get hg
  simp only [Nat.zero_add] at h5
  have hcell : ∀ j u, us[j]? = some u → E.w.cell? ⟨g, j, none⟩ = some u := fun j u hj => by
   rw [h2.cellAt j (by rw [← h2.1]; exact (List.getElem?_eq_some_iff.1 hj).1)]; exact hj
  rcases h with ⟨h6, h7⟩ | ⟨z, h6, h7, h8, rfl⟩
  ·obtain ⟨u, h8, h9, h10⟩ := h5.get h7
   refine ⟨u, ?_, h10⟩
   simp [execOp, ho, hu, Instr.loadAt, Instr.sureAddr, run_load_one h6 (hcell _ _ h8)]
  ·have hc' := (h5.sub q z).vals
   have hl : (((es.getD i []).drop q).take z).length = z := by simp at h8 ⊢; omega
   rw [hl] at hc'
   refine ⟨.agg ((us.drop (i * k + q)).take z).toArray, ?_, ?_⟩
   ·simp only [execOp, ho, hu, Instr.loadAt, Instr.sureAddr, Sem.run_bind, Sem.run_pure, Result.andThen_ok, run_load_agg h6 h7 hc'.2 (rangeAt_list hcell _ z)]
   ·simp only [RelV]; exact ⟨_, rfl, hc'.1⟩
theorem eff_len_sl {o : Oper} {t : S} {x : Operand} {ty e : TypeId} {xs : List (List D)} (ho : o.op = .call { callee := .builtin .len, args := #[x], argTypes := #[ty] }) (he : slE P ty = some e) (hx : ev t x = .d (.sl xs)) :
  EffOK P A o t ⟨True, pl x, [], .d (.int .i64 xs.length)⟩ :=
 .pure fun _ t' hr a E hi => by
  have hx' := ev_rel hi x
  rw [ev_eq hr, hx] at hx'
  simp only [RelV, Rep] at hx'
  unfold slE at he
  split at he
  ·rename_i e' hu
   have hlen : ∃ ad c, a.eval x = .slice ad xs.length c := by
    rcases hx' with ⟨h0, ad, c, h⟩ | ⟨b, of, c, k, h, _⟩
    ·exact ⟨ad, c, by rw [h, h0]⟩
    ·exact ⟨_, c, h⟩
   obtain ⟨ad, c, h⟩ := hlen
   refine ⟨_, ?_, rfl⟩
   simp [execOp, ho, resolve, invoke, builtin, h, Builtin.len_, run_underlying hu, goInt]
  ·simp at he
theorem eff_len_nil {o : Oper} {t : S} {x : Operand} {ty e : TypeId} {ad : Option Addr} {n c : Nat} (ho : o.op = .call { callee := .builtin .len, args := #[x], argTypes := #[ty] }) (he : slE P ty = some e) (hx : ev t x = .c (.slice ad n c)) :
  EffOK P A o t ⟨True, pl x, [], .d (.int .i64 n)⟩ :=
 .pure fun _ t' hr a E hi => by
  have hx' := ev_rel hi x
  rw [ev_eq hr, hx] at hx'
  simp only [RelV] at hx'
  unfold slE at he
  split at he
  ·rename_i e' hu
   refine ⟨_, ?_, rfl⟩
   simp [execOp, ho, resolve, invoke, builtin, hx', Builtin.len_, run_underlying hu, goInt]
  ·simp at he
theorem eff_len_row {o : Oper} {t : S} {x : Operand} {ty e : TypeId} {id n k : Nat} {e' : TypeId} {es : List (List TV)} {sh : Bool} (ho : o.op = .call { callee := .builtin .len, args := #[x], argTypes := #[ty] }) (he : slE P ty = some e) (hx : ev t x = .oref id n)
  (ht : t (.o id) = .row e' k es sh) : EffOK P A o t ⟨n = es.length, pl x ++ [.o id], [], .d (.int .i64 n)⟩ :=
 .pure fun hC t' hr a E hi => by
  have hx' := ev_rel hi x
  rw [ev_eq (pl_left hr), hx] at hx'
  have ht' : t' (.o id) = .row e' k es sh := (pl_right hr _ (by simp)).trans ht
  subst hC
  obtain ⟨_, v, us, h2, h3, h4, h5⟩ := row_cur hi ht'
  have hv := h5 _ hx'
  unfold slE at he
  split at he
  ·rename_i e' hu
   have hlen : ∃ ad c, a.eval x = .slice ad es.length c := by
    rcases h3.2 with ⟨rfl, h0⟩ | ⟨g, cap, cur, rfl, _⟩
    ·exact ⟨none, 0, by rw [hv, h0]⟩
    ·exact ⟨_, cap, hv⟩
   obtain ⟨ad, c, h⟩ := hlen
   refine ⟨_, ?_, rfl⟩
   simp [execOp, ho, resolve, invoke, builtin, h, Builtin.len_, run_underlying hu, goInt]
  ·simp at he
theorem eff_len_str {o : Oper} {t : S} {x : Operand} {ty : TypeId} {s : ByteArray} (ho : o.op = .call { callee := .builtin .len, args := #[x], argTypes := #[ty] }) (he : isStr P ty = true) (hx : ev t x = .d (.str s)) :
  EffOK P A o t ⟨True, pl x, [], .d (.int .i64 s.size)⟩ :=
 .pure fun _ t' hr a E hi => by
  have hx' := ev_rel hi x
  rw [ev_eq hr, hx] at hx'
  simp only [RelV, Rep] at hx'
  unfold isStr at he
  split at he
  ·rename_i hu
   refine ⟨_, ?_, rfl⟩
   simp [execOp, ho, resolve, invoke, builtin, hx', Builtin.len_, run_underlying hu, goInt]
  ·simp at he
end
end Go.Tr

set_option linter.unusedSimpArgs false
namespace Go.Tr
open Go
section
variable {P : Program} {A : Actv}
theorem Fr.next {E0 E E' : En} (f : Fr E0 E) (os : E'.w.os = E.w.os) (tape : E'.w.tape = E.w.tape) (output : E'.w.output = E.w.output) (size : E.w.heap.size ≤ E'.w.heap.size)
  (old : ∀ b, b < E0.w.heap.size → (∀ i, E0.blk (.x i) ≠ some b) → (∀ j, E0.own (.o j) ≠ some b) → E'.w.heap[b]? = E.w.heap[b]?) (xb : ∀ i, E'.blk (.x i) = E.blk (.x i))
  (new : ∀ id b, E'.own (.o id) = some b → E.own (.o id) = some b ∨ E.w.heap.size ≤ b) (st : ∀ b o, E.St b o → E'.St b o)
  (newst : ∀ b o, E'.St b o → E.St b o ∨ (E0.w.heap.size ≤ b ∨ ∃ j, E0.own (.o j) = some b)) : Fr E0 E' :=
 ⟨os.trans f.os, tape.trans f.tape, output.trans f.output, Nat.le_trans f.size size, fun b h1 h2 h3 => (old b h1 h2 h3).trans (f.old b h1 h2 h3), fun i => (xb i).trans (f.xb i),
  fun id b h => (new id b h).elim (f.new id b) (fun h => .inl (Nat.le_trans f.size h)), fun b o h => st b o (f.st b o h), fun b o h => (newst b o h).elim (f.newst b o) .inr⟩
theorem InvE.step {t t' : S} {a : Act} {E E' : En} (h : InvE A t a E) (hH : HInv E' t') (x : ExtA E E') (fr : Fr A.E0 E') (hs : ∀ k, t' (.s k) = t (.s k)) : InvE A t' a E' :=
 ⟨hH, fr, fun k tv hk => by
  obtain ⟨u, h1, h2⟩ := h.sl k tv (by rw [← hs]; exact hk)
  exact ⟨u, h1, h2.up x⟩, h.defers, h.size⟩
theorem upd_s {t : S} {p : Pl} {i : It} (hp : ∀ k, p ≠ .s k) (k : Nat) : upd t p i (.s k) = t (.s k) := by
 rw [upd, if_neg (fun e => hp k e.symm)]
theorem InvE.put {t : S} {a : Act} {E : En} (h : InvE A t a E) {d : Nat} (hd : d < A.N) {tv : TV} {u : Value} (hr : RelV E tv u) : InvE A (upd t (.s d) (.v tv)) (a.put (some d) u) E := by
 have hsz := h.size
 refine ⟨h.h.slot d _, h.fr, fun k tv' hk => ?_, h.defers, by simpa [Act.put] using hsz⟩
 by_cases e : k = d
 ·subst e
  simp only [upd, if_true, It.v.injEq] at hk
  subst hk
  have hlt : k < a.tmps.size := by omega
  exact ⟨u, by simp [Act.put, hlt], hr⟩
 ·simp only [upd, Pl.s.injEq, e, if_false] at hk
  obtain ⟨u', h1, h2⟩ := h.sl k tv' hk
  exact ⟨u', by simp [Act.put, Array.getElem?_setIfInBounds, show ¬ d = k from fun h => e h.symm, h1], h2⟩
theorem upd_same (t : S) (p : Pl) (i : It) : upd t p i p = i := by simp [upd]
theorem InvE.newBox {t : S} {a : Act} {E : En} (h : InvE A t a E) {d : Nat} (hd : t (.o d) = .none) {us : Array Value} {cs : List TV} (hs : us.size = cs.length) (hc : CellsRel E us.toList 0 cs) (ty : TypeId) :
  ∃ E' : En, E'.w = E.w.alloc (.cells us ty) ∧ InvE A (upd t (.o d) (.box cs)) a E' ∧ RelV E' (.ptr (.o d) 0) (.pointer (some ⟨E.w.heap.size, 0, none⟩)) := by
 have hfree := h.h.item (.o d) (by simp)
 rw [hd] at hfree
 obtain ⟨hb0, hv0⟩ := hfree d rfl
 let E' : En := { w := E.w.alloc (.cells us ty), St := E.St, blk := fun p => if p = .o d then some E.w.heap.size else E.blk p, val := E.val }
 have hold : ∀ b, b < E.w.heap.size → E'.w.heap[b]? = E.w.heap[b]? := fun b hb => heap_alloc_old E.w _ b hb
 have x : ExtA E E' := by
  refine ⟨fun _ _ h => h, fun b o hst => World.cell?_of_block (hold b (h.h.stsz b o hst)), fun id b _ he => ?_, fun i b he => by simpa [E'] using he, fun i b he => by simpa [E'] using he, fun _ _ c v _ hv => ⟨c, v, hv, Nat.le_refl _, fun _ => rfl⟩⟩
  by_cases e : id = d
  ·subst e; rw [hb0] at he; simp at he
  ·simpa [E', e] using he
 have hown : E'.own (.o d) = some E.w.heap.size := by simp [En.own, E']
 have hownq : ∀ q, q ≠ .o d → E'.own q = E.own q := fun q hq => En.own_eq (by simp [E', hq]) (fun _ _ => rfl)
 have hH : HInv E' (upd t (.o d) (.box cs)) := by
  refine h.h.change (by simp) x (fun b o hst => .inl hst) (fun q hq => by simp [E', hq]) (fun id hid => rfl) (by simp [E']) (fun q b hq hb => hold b (h.h.size q b hb)) (fun b hb => ?_) ?_ (fun b o hst hb => ?_)
  ·rw [hown] at hb; simp at hb; subst hb; exact ⟨by simp [E'], .inr (Nat.le_refl _)⟩
  ·refine ⟨fun id hid => ?_, E.w.heap.size, ty, us, by simp [E'], heap_alloc_new E.w _, hs, hc.up x⟩
   simp only [Pl.o.injEq] at hid; subst hid; exact hv0
  ·rw [hown] at hb; simp at hb; subst hb
   exact absurd (h.h.stsz _ _ hst) (by omega)
 refine ⟨E', rfl, h.step hH x (h.fr.next rfl rfl rfl (by simp [E']) (fun b hb _ _ => hold b (Nat.lt_of_lt_of_le hb h.fr.size)) (fun i => by simp [E']) (fun id b hb => ?_) (fun _ _ h => h) (fun _ _ h => .inl h)) (fun k => upd_s (by simp) k), ?_⟩
 ·by_cases e : id = d
  ·subst e; rw [hown] at hb; simp at hb; subst hb; exact .inr (Nat.le_refl _)
  ·rw [hownq _ (by simpa using e)] at hb; exact .inl hb
 ·simp only [RelV]; exact ⟨E.w.heap.size, by simp [E'], rfl⟩
theorem cells_ofCell (E : En) (us : List Value) (h : us.all (·.oneCell') = true) : CellsRel E us 0 (us.map ofCell) :=
 (ofCells_rel E us).cells (fun t ht => by
  obtain ⟨v, hv, rfl⟩ := List.mem_map.1 ht
  have := List.all_eq_true.1 h v hv
  unfold ofCell; split <;> first | rfl | exact this)
def zcells : Value → List Value
 | .agg cs => cs.toList
 | v => [v]
theorem zcells_eq (v : Value) : zcells v = v.cells.toList := by cases v <;> rfl
theorem eff_alloc {o : Oper} {t : S} {ty d : Nat} {z : Value} (ho : o.op = .alloc ty) (hz : zrO P ty = some z) (h1 : (zcells z).all (·.oneCell') = true) :
  EffOK P A o t ⟨t (.o d) = .none, [.o d], [(.o d, .box ((zcells z).map ofCell))], .ptr (.o d) 0⟩ := fun hC t' hr a E hi => by
 have ht' : t' (.o d) = .none := (hr _ (by simp)).trans hC
 rw [zcells_eq] at h1
 obtain ⟨E', hw, hinv, hrel⟩ := hi.newBox ht' (us := z.cells) (cs := (zcells z).map ofCell) (by simp [zcells_eq]) (by rw [zcells_eq]; exact cells_ofCell E _ h1) ty
 refine ⟨_, _, E', ?_, .inl rfl, hinv, hrel⟩
 unfold zrO at hz
 cases hinf : P.info? ty with
 | none => simp [hinf] at hz
 | some inf =>
   simp only [hinf, Option.bind_some] at hz
   simp [execOp, ho, Instr.alloc, zeroValue, typeInfo, hinf, hz, newVar, newRow, hw]
theorem cells_rel {E : En} : ∀ {v : TV} {u : Value}, RelV E v u → (∀ c ∈ v.cells, c.one = true) → u.cells.size = v.cells.length ∧ CellsRel E u.cells.toList 0 v.cells := by
 intro v u hr h1
 have single : v.cells = [v] → u.cells.size = v.cells.length ∧ CellsRel E u.cells.toList 0 v.cells := by
  intro hv
  rw [hv] at h1 ⊢
  have ho := hr.one (h1 v (by simp))
  have hu : u.cells = #[u] := by cases u <;> first | rfl | simp [Value.oneCell'] at ho
  rw [hu]
  exact ⟨rfl, ⟨u, rfl, ho, hr⟩, trivial⟩
 cases v with
 | agg vs =>
   simp only [RelV] at hr
   obtain ⟨us, rfl, hs⟩ := hr
   exact ⟨by simpa [Value.cells, TV.cells] using hs.length, hs.cells h1⟩
 | _ => exact single rfl
theorem eff_box {o : Oper} {t : S} {ty d : Nat} {x : Operand} (ho : o.op = .box ty x) :
  EffOK P A o t ⟨t (.o d) = .none ∧ ∀ c ∈ (ev t x).cells, c.one = true, pl x ++ [.o d], [(.o d, .box (ev t x).cells)], .ptr (.o d) 0⟩ := fun ⟨hC, h1⟩ t' hr a E hi => by
 have hx := ev_rel hi x
 rw [ev_eq (pl_left hr)] at hx
 have ht' : t' (.o d) = .none := (pl_right hr _ (by simp)).trans hC
 obtain ⟨hs, hc⟩ := cells_rel hx h1
 obtain ⟨E', hw, hinv, hrel⟩ := hi.newBox ht' hs hc ty
 refine ⟨_, _, E', ?_, .inl rfl, hinv, hrel⟩
 simp [execOp, ho, Instr.box, newVar, newRow, hw]
def setAt (cs : List TV) (q : Nat) (vs : List TV) : List TV := cs.take q ++ (vs ++ cs.drop (q + vs.length))
theorem setAt_length {cs vs : List TV} {q : Nat} (h : q + vs.length ≤ cs.length) : (setAt cs q vs).length = cs.length := by
 simp [setAt]; omega
theorem setAt_get {cs vs : List TV} {q : Nat} (h : q + vs.length ≤ cs.length) (i : Nat) : (setAt cs q vs)[i]? = if i < q then cs[i]? else if i < q + vs.length then vs[i - q]? else cs[i]? := by
 unfold setAt
 by_cases h1 : i < q
 ·rw [List.getElem?_append_left (by simp; omega), List.getElem?_take, if_pos h1, if_pos h1]
 ·rw [List.getElem?_append_right (by simp; omega), if_neg h1]
  have hl : (cs.take q).length = q := by simp; omega
  rw [hl]
  by_cases h2 : i < q + vs.length
  ·rw [List.getElem?_append_left (by omega), if_pos h2]
  ·rw [List.getElem?_append_right (by omega), if_neg h2, List.getElem?_drop]
   congr 1
   omega
theorem run_store_row {w : World} {b q : Nat} {ty : TypeId} {cur : Array Value} {e : TypeId} (hh : w.heap[b]? = some (.cells cur e (0, 0))) {v : Value} {z : Nat} (hz : szO P ty = some z) (hs : v.cells.size = z)
  (hl : q + z ≤ cur.size) (h1 : ∀ u ∈ v.cells.toList, u.oneCell' = true) :
  (storeVar ty ⟨b, q, none⟩ v).run P w = .ok () (w.setRow b (cur.toList.take q ++ v.cells.toList ++ cur.toList.drop (q + v.cells.size)).toArray) := by
 have hst := run_storeCells_at P b q e v.cells.toList 0 cur w hh (by simp; omega) h1
 simp only [Nat.add_zero, Array.length_toList] at hst
 unfold szO at hz
 cases hinf : P.info? ty with
 | none => simp [hinf] at hz
 | some inf =>
   simp only [hinf, Option.map_some, Option.some.injEq] at hz
   simp only [storeVar, sizeOf, typeInfo, Sem.run_bind, run_program, Result.andThen_ok, hinf, Sem.run_pure, hs, hz, ne_eq, not_true_eq_false, if_false, pure_bind]
   simpa [hs] using hst
theorem get_put {α : Type} {cur vs : List α} {q : Nat} (h : q + vs.length ≤ cur.length) (i : Nat) : (cur.take q ++ vs ++ cur.drop (q + vs.length))[i]? = if i < q then cur[i]? else if i < q + vs.length then vs[i - q]? else cur[i]? := by
 rw [List.append_assoc]
 by_cases h1 : i < q
 ·rw [List.getElem?_append_left (by simp; omega), List.getElem?_take, if_pos h1, if_pos h1]
 ·rw [List.getElem?_append_right (by simp; omega), if_neg h1]
  have hl : (cur.take q).length = q := by simp; omega
  rw [hl]
  by_cases h2 : i < q + vs.length
  ·rw [List.getElem?_append_left (by omega), if_pos h2]
  ·rw [List.getElem?_append_right (by omega), if_neg h2, List.getElem?_drop]
   congr 1
   omega
theorem setRow_heap_self {w : World} {b : Nat} {cur : Array Value} {e : TypeId} (hh : w.heap[b]? = some (.cells cur e (0, 0))) (cs : Array Value) : (w.setRow b cs).heap[b]? = some (.cells cs e (0, 0)) :=
 setRow_heap w b cur cs e (0, 0) hh
theorem eff_store_box {o : Oper} {t : S} {ty : TypeId} {x y : Operand} {p : Pl} {q : Nat} {cs vs : List TV} (ho : o.op = .store ty x y) (hx : ev t x = .ptr p q) (ht : t p = .box cs) (hv : (ev t y).cells = vs) (hz : szO P ty = some vs.length) :
  EffOK P A o t ⟨q + vs.length ≤ cs.length ∧ ∀ c ∈ vs, c.one = true, pl x ++ (pl y ++ [p]), [(p, .box (setAt cs q vs))], .junk⟩ := fun ⟨hl, h1⟩ t' hr a E hi => by
 have hx' := ev_rel hi x
 rw [ev_eq (pl_left hr), hx] at hx'
 have hy' := ev_rel hi y
 rw [ev_eq (pl_left (pl_right hr))] at hy'
 have ht' : t' p = .box cs := (pl_right (pl_right hr) _ (by simp)).trans ht
 obtain ⟨hs, hc⟩ := cells_rel hy' (by rw [hv]; exact h1)
 rw [hv] at hs hc
 obtain ⟨b, ty', us, hu, hb, hh, hus, hcs⟩ := box_cur hi ht' hx'
 have hp : ∀ k, p ≠ .s k := by
  rintro k rfl
  rw [hi.h.frees k] at hb; simp at hb
 have hob : E.own p = some b := by simp [En.own, hb]
 have hone : ∀ u ∈ (a.eval y).cells.toList, u.oneCell' = true := fun u hu => by
  obtain ⟨i, hi', rfl⟩ := List.getElem_of_mem hu
  have hlt : i < vs.length := by rw [← hs]; simpa using hi'
  obtain ⟨u', h2, h3, _⟩ := hc.get (i := i) (t := vs[i]) (by simp [hlt])
  simp only [Nat.zero_add, List.getElem?_eq_getElem hi', Option.some.injEq] at h2
  subst h2; exact h3
 let arr : Array Value := (us.toList.take q ++ (a.eval y).cells.toList ++ us.toList.drop (q + (a.eval y).cells.size)).toArray
 have hrun := run_store_row (P := P) hh (b := b) (q := q) (v := a.eval y) hz hs (by omega) hone
 let E' : En := { E with w := E.w.setRow b arr }
 have hother : ∀ b', b' ≠ b → E'.w.heap[b']? = E.w.heap[b']? := fun b' hne => setRow_other E.w b b' _ hne
 have hstb : ∀ b' o', E.St b' o' → b' ≠ b := fun b' o' hst e => by
  subst e
  obtain ⟨e', k', es', h2, _⟩ := hi.h.sep _ _ hst p hob
  rw [ht'] at h2; simp at h2
 have x : ExtA E E' := ⟨fun _ _ h => h, fun b' o' hst => World.cell?_of_block (hother b' (hstb b' o' hst)), fun _ _ _ h => h, fun _ _ h => h, fun _ _ h => h, fun _ _ c v _ hv => ⟨c, v, hv, Nat.le_refl _, fun _ => rfl⟩⟩
 have harr : arr.size = us.size := by simp [arr]; omega
 have hsz : E'.w.heap.size = E.w.heap.size := by simp [E', World.setRow]
 have hH : HInv E' (upd t' p (.box (setAt cs q vs))) := by
  refine hi.h.change hp x (fun b o hst => .inl hst) (fun q hq => rfl) (fun id hid => rfl) (by rw [hsz]; exact Nat.le_refl _) (fun q' b' hq hb' => hother b' (fun e => hq (hi.h.inj _ _ _ (e ▸ hb') hob)))
   (fun b' hb' => ?_) ?_ (fun b' o' hst hb' => ?_)
  ·have : E'.own p = E.own p := rfl
   rw [this] at hb'
   exact ⟨by rw [hsz]; exact hi.h.size _ _ hb', .inl hb'⟩
  ·have hold := hi.h.item p hp
   rw [ht'] at hold
   refine ⟨hold.1, b, ty', arr, hb, setRow_heap_self hh arr, by rw [harr, hus, setAt_length hl], CellsRel.of_get fun i tv hi' => ?_⟩
   rw [setAt_get hl] at hi'
   have hget := get_put (cur := us.toList) (vs := (a.eval y).cells.toList) (q := q) (by simp; omega) i
   simp only [Array.length_toList, hs] at hget
   simp only [arr, Nat.zero_add, List.toList_toArray, hs, hget]
   by_cases h2 : i < q
   ·rw [if_pos h2] at hi' ⊢
    obtain ⟨u, h3, h4, h5⟩ := hcs.get hi'
    exact ⟨u, by simpa using h3, h4, h5.up x⟩
   ·rw [if_neg h2] at hi' ⊢
    by_cases h3 : i < q + vs.length
    ·rw [if_pos h3] at hi' ⊢
     obtain ⟨u, h3, h4, h5⟩ := hc.get hi'
     exact ⟨u, by simpa using h3, h4, h5.up x⟩
    ·rw [if_neg h3] at hi' ⊢
     obtain ⟨u, h3, h4, h5⟩ := hcs.get hi'
     exact ⟨u, by simpa using h3, h4, h5.up x⟩
  ·have he : E'.own p = E.own p := rfl
   rw [he, hob] at hb'
   exact absurd (Option.some.inj hb').symm (hstb b' o' hst)
 refine ⟨.skip, undef, E', ?_, .inr ⟨rfl, rfl⟩, hi.step hH x (hi.fr.next rfl rfl rfl (by rw [hsz]; exact Nat.le_refl _) (fun b' h2 h3 h4 => hother b' (fun e => ?_)) (fun _ => rfl) (fun id b' hb' => .inl hb') (fun _ _ h => h) (fun _ _ h => .inl h)) (fun k => upd_s hp k), by simp only [RelV]⟩
 ·simp only [execOp, ho, hu, Instr.storeAt, Instr.sureAddr, Sem.run_bind, Sem.run_pure, Result.andThen_ok, hrun, E', arr]
 ·subst e
  cases p with
  | s k => exact hp k rfl
  | x k => exact h3 k ((hi.fr.xb k).symm.trans hb)
  | o id => exact (hi.fr.new id b' hob).elim (fun h => by omega) (fun ⟨j, h⟩ => h4 j h)
end
end Go.Tr

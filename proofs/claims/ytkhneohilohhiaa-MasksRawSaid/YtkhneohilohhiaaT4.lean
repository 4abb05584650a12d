/-
  Laws of the layer between the model and plain data (states, operations, calls, loops); none has a condition beyond those that stand in its own statement.
-/
import Derived.Test.YtkhneohilohhiaaT3
import Derived.Deep.MidRow
set_option linter.unusedSimpArgs false
namespace Go.Tr
open Go

section
variable {P : Program} {A : Actv}

/-! ### what only computes -/
theorem eff_move {o : Oper} {t : S} {x : Operand} (ho : o.op = .move x ∨ o.op = .assign x) : EffOK P A o t ⟨True, pl x, [], ev t x⟩ :=
  .pure fun _ t' hr a E hi => ⟨a.eval x, by rcases ho with ho | ho <;> simp [execOp, ho], ev_eq hr ▸ ev_rel hi x⟩

theorem eff_pick {o : Oper} {t : S} {c x y : Operand} {g : Bool} (ho : o.op = .pick c x y) (hg : ev t c = .d (.bool g)) :
    EffOK P A o t ⟨True, pl c ++ (pl x ++ pl y), [], bif g then ev t x else ev t y⟩ :=
  .pure fun _ t' hr a E hi => by
    have hc := ev_rel hi c
    rw [ev_eq (pl_left hr), hg] at hc
    simp only [RelV, Rep] at hc
    have hx := ev_rel hi x
    rw [ev_eq (pl_left (pl_right hr))] at hx
    have hy := ev_rel hi y
    rw [ev_eq (pl_right (pl_right hr))] at hy
    cases g
    · exact ⟨a.eval y, by simp [execOp, ho, hc, asBool], hy⟩
    · exact ⟨a.eval x, by simp [execOp, ho, hc, asBool], hx⟩

theorem eff_bin {o : Oper} {t : S} {op : BinOp} {ty ty' : TypeId} {x y : Operand} {C : Prop} {v : TV} (ho : o.op = .binOp op ty x y ty') (h : binD P op ty (ev t x) (ev t y) = some (C, v)) :
    EffOK P A o t ⟨C, pl x ++ pl y, [], v⟩ :=
  .pure fun hC t' hr a E hi => by
    have hx := ev_rel hi x
    rw [ev_eq (pl_left hr)] at hx
    have hy := ev_rel hi y
    rw [ev_eq (pl_right hr)] at hy
    obtain ⟨r, h1, h2⟩ := binD_ok h hC hx hy x y E.w
    refine ⟨r, ?_, h2⟩
    simp only [execOp, ho]
    rw [Sem.run_bind, h1]
    rfl

def unD (op : UnOp) : TV → Option TV
  | .d (.int k n) => match op with
    | .neg => some (.d (.int k (k.wrap (0 - n))))
    | .xor => some (.d (.int k (notI k n)))
    | _ => none
  | .d (.bool b) => match op with
    | .not => some (.d (.bool !b))
    | _ => none
  | _ => none

theorem eff_un {o : Oper} {t : S} {op : UnOp} {ty : TypeId} {x : Operand} {v : TV} (ho : o.op = .unOp op ty x) (h : unD op (ev t x) = some v) : EffOK P A o t ⟨True, pl x, [], v⟩ :=
  .pure fun _ t' hr a E hi => by
    have hx := ev_rel hi x
    rw [ev_eq hr] at hx
    revert hx h
    generalize ev t x = tx
    intro h hx
    unfold unD at h
    split at h
    · simp only [RelV, Rep] at hx
      split at h
      · simp only [Option.some.injEq] at h; subst h
        refine ⟨_, ?_, rfl⟩
        simp [execOp, ho, hx, Op.unary, Op.intArith]
      · simp only [Option.some.injEq] at h; subst h
        refine ⟨_, ?_, rfl⟩
        simp only [execOp, ho, hx, Op.unary, Op.intBits, Sem.run_bind, Sem.run_pure, Result.andThen_ok, notI]
      · simp at h
    · simp only [RelV, Rep] at hx
      split at h
      · simp only [Option.some.injEq] at h; subst h
        refine ⟨_, ?_, rfl⟩
        simp [execOp, ho, hx, Op.unary]
      · simp at h
    · simp at h

theorem eff_conv {o : Oper} {t : S} {sr ds : TypeId} {x : Operand} {k k' : IntKind} {n : Int} (ho : o.op = .convert sr ds x) (hs : (shp P sr).isSome = true) (hd : knd P ds = some k') (hx : ev t x = .d (.int k n)) :
    EffOK P A o t ⟨True, pl x, [], .d (.int k' (k'.wrap n))⟩ :=
  .pure fun _ t' hr a E hi => by
    have hx' := ev_rel hi x
    rw [ev_eq hr, hx] at hx'
    simp only [RelV, Rep] at hx'
    refine ⟨_, ?_, rfl⟩
    unfold knd at hd
    split at hd
    · rename_i q hq
      simp only [Option.some.injEq] at hd; subst hd
      unfold shp at hs
      cases hu : P.underlying sr with
      | none => simp [hu] at hs
      | some d =>
        simp only [execOp, ho, hx', convert, Sem.run_bind, run_underlying hu, run_underlying hq, Result.andThen_ok, Conv.intToInt, Sem.run_pure]
    · simp at hd

theorem eff_nil {o : Oper} {t : S} {x : Operand} (ho : o.op = .nilCheck x) (h : (∃ p off, ev t x = .ptr p off) ∨ (∃ e off, ev t x = .ep e off) ∨ (∃ f c, ev t x = .clo f c)) :
    EffOK P A o t ⟨True, pl x, [], ev t x⟩ :=
  .pure fun _ t' hr a E hi => by
    have hx := ev_rel hi x
    rw [ev_eq hr] at hx
    refine ⟨a.eval x, ?_, hx⟩
    rcases h with ⟨p, off, h⟩ | ⟨e, off, h⟩ | ⟨f, c, h⟩ <;> rw [h] at hx <;> simp only [RelV] at hx
    · obtain ⟨b, _, hu⟩ := hx; simp [execOp, ho, hu]
    · obtain ⟨b, _, hu, _⟩ := hx; simp [execOp, ho, hu]
    · obtain ⟨us, hu, _⟩ := hx; simp [execOp, ho, hu]

theorem run_fieldAt {s f : Nat} {off : Nat} {ft : TypeId} (hf : fld P s f = some (off, ft)) {z : Nat} (hz : szO P ft = some z) (hz0 : z ≠ 0) (b o : Nat) (w : World) :
    (Instr.fieldAt s (.pointer (some ⟨b, o, none⟩)) f).run P w = .ok (.pointer (some ⟨b, o + off, none⟩)) w := by
  unfold fld at hf
  split at hf
  · rename_i fs hfs
    cases hff : fs[f]? with
    | none => simp [hff] at hf
    | some g =>
      simp only [hff, Option.map_some, Option.some.injEq, Prod.mk.injEq] at hf
      obtain ⟨rfl, rfl⟩ := hf
      unfold szO at hz
      cases hi : P.info? g.type with
      | none => simp [hi] at hz
      | some i =>
        simp only [hi, Option.map_some, Option.some.injEq] at hz
        simp [Instr.fieldAt, run_underlying hfs, hff, Instr.sureAddr, fieldPlace, sizeOf, typeInfo, hi, hz, hz0, add_lit']
  · simp at hf

theorem eff_fieldAddr {o : Oper} {t : S} {s f : Nat} {x : Operand} {off : Nat} {ft : TypeId} {z : Nat} {v : TV} (ho : o.op = .fieldAddr s x f) (hf : fld P s f = some (off, ft)) (hz : szO P ft = some z) (hz0 : z ≠ 0)
    (h : (∃ p q, ev t x = .ptr p q ∧ v = .ptr p (q + off)) ∨ (∃ e q, ev t x = .ep e q ∧ v = .ep e (q + off))) : EffOK P A o t ⟨True, pl x, [], v⟩ :=
  .pure fun _ t' hr a E hi => by
    have hx := ev_rel hi x
    rw [ev_eq hr] at hx
    rcases h with ⟨p, q, h, rfl⟩ | ⟨e, q, h, rfl⟩ <;> rw [h] at hx <;> simp only [RelV] at hx
    · obtain ⟨b, hb, hu⟩ := hx
      refine ⟨.pointer (some ⟨b, q + off, none⟩), ?_, ?_⟩
      · simp [execOp, ho, hu, run_fieldAt hf hz hz0]
      · simp only [RelV]; exact ⟨b, hb, rfl⟩
    · obtain ⟨b, p, hu, hc⟩ := hx
      refine ⟨.pointer (some ⟨b, p + q + off, none⟩), ?_, ?_⟩
      · simp [execOp, ho, hu, run_fieldAt hf hz hz0]
      · simp only [RelV]; exact ⟨b, p, by rw [Nat.add_assoc], hc⟩

/-- A row as it stands. -/
theorem row_cur {t : S} {a : Act} {E : En} (hi : InvE A t a E) {id k : Nat} {e : TypeId} {es : List (List TV)} {sh : Bool} (ht : t (.o id) = .row e k es sh) :
    E.blk (.o id) = none ∧ ∃ v us, E.val id = some (k, es.length, v) ∧ E.w.ownsRow 0 e k v es.length us ∧ RowRel E us k 0 es ∧ (∀ u, RelV E (.oref id es.length) u → u = v) := by
  have := hi.h.item (.o id) (by simp)
  rw [ht] at this
  obtain ⟨h0, id', v, us, hid, h1, h2, h3⟩ := this
  simp only [Pl.o.injEq] at hid
  subst hid
  refine ⟨h0, v, us, h1, h2, h3, fun u hu => ?_⟩
  simp only [RelV] at hu
  obtain ⟨_, k', c, v', hv, _, he⟩ := hu
  rw [h1] at hv
  simp only [Option.some.injEq, Prod.mk.injEq] at hv
  obtain ⟨rfl, rfl, rfl⟩ := hv
  exact he rfl

theorem eptr_cur {t : S} {a : Act} {E : En} (hi : InvE A t a E) {id k i off : Nat} {e : TypeId} {es : List (List TV)} {sh : Bool} (ht : t (.o id) = .row e k es sh) {u : Value}
    (hu : RelV E (.eptr id es.length i off) u) : ∃ g cap us, E.val id = some (k, es.length, .slice (some ⟨g, 0, none⟩) es.length cap) ∧ u = .pointer (some ⟨g, i * k + off, none⟩) ∧
      E.w.ownsRow 0 e k (.slice (some ⟨g, 0, none⟩) es.length cap) es.length us ∧ RowRel E us k 0 es := by
  obtain ⟨_, v, us, h1, h2, h3, _⟩ := row_cur hi ht
  simp only [RelV] at hu
  obtain ⟨_, k', c, v', hv, _, he⟩ := hu
  rw [h1] at hv
  simp only [Option.some.injEq, Prod.mk.injEq] at hv
  obtain ⟨rfl, rfl, rfl⟩ := hv
  obtain ⟨b, o, cp, rfl, hu⟩ := he rfl
  rcases h2.2 with ⟨h4, _⟩ | ⟨g, cap, cur, h4, rest⟩
  · simp at h4
  · simp only [Value.slice.injEq, Option.some.injEq, Addr.mk.injEq] at h4
    obtain ⟨⟨rfl, rfl, _⟩, _, rfl⟩ := h4
    exact ⟨b, cp, us, h1, by simpa using hu, h2, h3⟩

theorem eff_fieldAddr_row {o : Oper} {t : S} {s f : Nat} {x : Operand} {off : Nat} {ft : TypeId} {z : Nat} {id n i q k : Nat} {e : TypeId} {es : List (List TV)} {sh : Bool}
    (ho : o.op = .fieldAddr s x f) (hf : fld P s f = some (off, ft)) (hz : szO P ft = some z) (hz0 : z ≠ 0)
    (h : ev t x = .eptr id n i q) (ht : t (.o id) = .row e k es sh) : EffOK P A o t ⟨n = es.length, pl x ++ [.o id], [], .eptr id n i (q + off)⟩ :=
  .pure fun hC t' hr a E hi => by
    have hx := ev_rel hi x
    rw [ev_eq (pl_left hr), h] at hx
    have ht' : t' (.o id) = .row e k es sh := (pl_right hr _ (by simp)).trans ht
    subst hC
    obtain ⟨g, cap, us, h1, rfl', h2, h3⟩ := eptr_cur hi ht' hx
    refine ⟨.pointer (some ⟨g, i * k + q + off, none⟩), ?_, ?_⟩
    · simp [execOp, ho, rfl', run_fieldAt hf hz hz0]
    · simp only [RelV]
      exact ⟨rfl, k, _, _, h1, Nat.le_refl _, fun _ => ⟨g, 0, cap, rfl, by simp [Nat.add_assoc]⟩⟩

theorem run_indexAt_sl {ty e k : Nat} (he : slE P ty = some e) (hk : szO P e = some k) (a : Addr) (len cap : Nat) (ik : IntKind) (i : Int) (h0 : 0 ≤ i) (h1 : i < len) (w : World) :
    (Instr.indexAt ty (.slice (some a) len cap) (.int ik i)).run P w = .ok (.pointer (some (a.add (i.toNat * k)))) w := by
  unfold slE at he
  split at he
  · rename_i e' hu
    simp only [Option.some.injEq] at he
    subst he
    unfold szO at hk
    cases hi : P.info? e' with
    | none => simp [hi] at hk
    | some inf =>
      simp only [hi, Option.map_some, Option.some.injEq] at hk
      simp [Instr.indexAt, run_underlying hu, asIntOf, h0, h1, sizeOf, typeInfo, hi, hk]
  · simp at he

/-- xs[i], xs plain data -/
theorem eff_indexAddr {o : Oper} {t : S} {ty : TypeId} {x ix : Operand} {e k : Nat} {xs : List (List D)} {ik : IntKind} {i : Int} (ho : o.op = .indexAddr ty x ix) (he : slE P ty = some e) (hk : szO P e = some k)
    (hx : ev t x = .d (.sl xs)) (hix : ev t ix = .d (.int ik i)) :
    EffOK P A o t ⟨0 ≤ i ∧ i < xs.length ∧ (xs.getD i.toNat []).length = k, pl x ++ pl ix, [], .ep (xs.getD i.toNat []) 0⟩ :=
  .pure fun ⟨h0, h1, h2⟩ t' hr a E hi => by
    have hx' := ev_rel hi x
    rw [ev_eq (pl_left hr), hx] at hx'
    have hix' := ev_rel hi ix
    rw [ev_eq (pl_right hr), hix] at hix'
    simp only [RelV, Rep] at hx' hix'
    have hlt : i.toNat < xs.length := by omega
    have hg : xs[i.toNat]? = some (xs.getD i.toNat []) := by simp [List.getD, hlt]
    rcases hx' with ⟨h3, _⟩ | ⟨b, of, c, k', hu, hc, hrows⟩
    · omega
    · obtain ⟨h4, h5⟩ := hrows.get hg
      have hkk : k' = k := by omega
      subst hkk
      refine ⟨.pointer (some ⟨b, of + i.toNat * k', none⟩), ?_, ?_⟩
      · simp [execOp, ho, hu, hix', run_indexAt_sl he hk _ _ _ _ _ h0 h1, add_lit']
      · simp only [RelV]
        exact ⟨b, of + i.toNat * k', by simp, h5⟩

theorem eff_indexAddr_row {o : Oper} {t : S} {ty : TypeId} {x ix : Operand} {e k id n : Nat} {e' : TypeId} {es : List (List TV)} {sh : Bool} {ik : IntKind} {i : Int} (ho : o.op = .indexAddr ty x ix) (he : slE P ty = some e) (hk : szO P e = some k)
    (hx : ev t x = .oref id n) (hix : ev t ix = .d (.int ik i)) (ht : t (.o id) = .row e' k es sh) :
    EffOK P A o t ⟨n = es.length ∧ 0 ≤ i ∧ i < es.length, pl x ++ (pl ix ++ [.o id]), [], .eptr id n i.toNat 0⟩ :=
  .pure fun ⟨hn, h0, h1⟩ t' hr a E hi => by
    have hx' := ev_rel hi x
    rw [ev_eq (pl_left hr), hx] at hx'
    have hix' := ev_rel hi ix
    rw [ev_eq (pl_left (pl_right hr)), hix] at hix'
    simp only [RelV, Rep] at hix'
    subst hn
    have ht' : t' (.o id) = .row e' k es sh := (pl_right (pl_right hr) _ (by simp)).trans ht
    obtain ⟨_, v, us, h2, h3, h4, h5⟩ := row_cur hi ht'
    have hu := h5 _ hx'
    rcases h3.2 with ⟨_, h6⟩ | ⟨g, cap, cur, h6, _⟩
    · omega
    · subst h6
      refine ⟨.pointer (some ⟨g, i.toNat * k, none⟩), ?_, ?_⟩
      · simp [execOp, ho, hu, hix', run_indexAt_sl he hk _ _ _ _ _ h0 h1, add_lit']
      · simp only [RelV]
        exact ⟨rfl, k, _, _, h2, Nat.le_refl _, fun _ => ⟨g, 0, cap, rfl, by simp⟩⟩

/-- arr[i], arr an array in a box -/
theorem eff_indexAddr_arr {o : Oper} {t : S} {ty : TypeId} {x ix : Operand} {n e k : Nat} {p : Pl} {q : Nat} {ik : IntKind} {i : Int} (ho : o.op = .indexAddr ty x ix) (he : arE P ty = some (n, e)) (hk : szO P e = some k)
    (hx : ev t x = .ptr p q) (hix : ev t ix = .d (.int ik i)) : EffOK P A o t ⟨0 ≤ i ∧ i < n, pl x ++ pl ix, [], .ptr p (q + i.toNat * k)⟩ :=
  .pure fun ⟨h0, h1⟩ t' hr a E hi => by
    have hx' := ev_rel hi x
    rw [ev_eq (pl_left hr), hx] at hx'
    have hix' := ev_rel hi ix
    rw [ev_eq (pl_right hr), hix] at hix'
    simp only [RelV, Rep] at hx' hix'
    obtain ⟨b, hb, hu⟩ := hx'
    unfold arE at he
    split at he
    · rename_i n' e' hun
      simp only [Option.some.injEq, Prod.mk.injEq] at he
      obtain ⟨rfl, rfl⟩ := he
      unfold szO at hk
      cases hinf : P.info? e' with
      | none => simp [hinf] at hk
      | some inf =>
        simp only [hinf, Option.map_some, Option.some.injEq] at hk
        refine ⟨.pointer (some ⟨b, q + i.toNat * k, none⟩), ?_, ?_⟩
        · simp [execOp, ho, hu, hix', Instr.indexAt, run_underlying hun, asIntOf, Instr.sureAddr, h0, h1, sizeOf, typeInfo, hinf, hk, add_lit']
        · simp only [RelV]; exact ⟨b, hb, rfl⟩
    · simp at he

theorem eff_extract {o : Oper} {t : S} {x : Operand} {i : Nat} {vs : List TV} {v : TV} (ho : o.op = .extract x i) (hx : ev t x = .tup vs) (hv : vs[i]? = some v) : EffOK P A o t ⟨True, pl x, [], v⟩ :=
  .pure fun _ t' hr a E hi => by
    have hx' := ev_rel hi x
    rw [ev_eq hr, hx] at hx'
    simp only [RelV] at hx'
    obtain ⟨us, hu, hs⟩ := hx'
    obtain ⟨u, h1, h2⟩ := hs.get hv
    have h1' : us[i]? = some u := by simpa using h1
    exact ⟨u, by simp [execOp, ho, hu, Instr.extract, h1'], h2⟩

theorem evs_rel {t : S} {a : Act} {E : En} (hi : InvE A t a E) : ∀ xs : List Operand, RelVs E (xs.map (ev t)) (xs.map a.eval)
  | [] => by simp only [List.map_nil, RelVs]
  | x :: xs => by simp only [List.map_cons, RelVs]; exact ⟨_, _, rfl, ev_rel hi x, evs_rel hi xs⟩

theorem evs_eq {t t' : S} : ∀ {xs : List Operand}, (∀ p ∈ xs.flatMap pl, t' p = t p) → xs.map (ev t') = xs.map (ev t)
  | [], _ => rfl
  | x :: xs, h => by
    simp only [List.map_cons]
    rw [ev_eq (fun p hp => h p (by simp [hp])), evs_eq (fun p hp => h p (by simp only [List.flatMap_cons]; exact List.mem_append_right _ hp))]

theorem eff_makeFunc {o : Oper} {t : S} {f : FuncId} {caps : List Operand} (ho : o.op = .makeFunc (.func f) #[] caps.toArray) : EffOK P A o t ⟨True, caps.flatMap pl, [], .clo f (caps.map (ev t))⟩ :=
  .pure fun _ t' hr a E hi => by
    have h := evs_rel hi caps
    rw [evs_eq hr] at h
    refine ⟨.func (.func f) #[] (caps.map a.eval).toArray, by simp [execOp, ho, Instr.makeFunc], ?_⟩
    simp only [RelV]
    exact ⟨_, rfl, by simpa using h⟩

end
end Go.Tr

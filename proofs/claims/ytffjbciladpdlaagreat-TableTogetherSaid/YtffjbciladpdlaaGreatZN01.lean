/-
  What functions of the program compute, stated as contracts over plain data; the conditions of each stand in its own statement.
-/
import Derived.Test.YtffjbciladpdlaaGreatZN00
import Derived.Laws.StructEq
import Derived.Deep.MidRow
set_option linter.unusedSimpArgs false
namespace Go.Tr
open Go
def shp (P : Program) (t : TypeId) : Option Bool := (P.underlying t).map fun | .struct _ | .array _ _ => true | _ => false
def fld (P : Program) (t : TypeId) (f : Nat) : Option (Nat × TypeId) := match P.underlying t with | some (.struct fs) => (fs[f]?).map fun f => (f.offset, f.type) | _ => none
def slE (P : Program) (t : TypeId) : Option TypeId := match P.underlying t with | some (.slice e) => some e | _ => none
def arE (P : Program) (t : TypeId) : Option (Nat × TypeId) := match P.underlying t with | some (.array n e) => some (n, e) | _ => none
def szO (P : Program) (t : TypeId) : Option Nat := (P.info? t).map (·.size)
def byO (P : Program) (t : TypeId) : Option Nat := (P.info? t).map (·.bytes)
def zrO (P : Program) (t : TypeId) : Option Value := (P.info? t).bind (·.zero)
def knd (P : Program) (t : TypeId) : Option IntKind := match P.underlying t with | some (.int k) => some k | _ => none
def isStr (P : Program) (t : TypeId) : Bool := match P.underlying t with | some .string => true | _ => false
def ofCell : Value → TV
 | .int k n => .d (.int k n)
 | .bool b => .d (.bool b)
 | .string s => .d (.str s)
 | v => .c v
def ofVal : Value → TV
 | .agg cs => .agg (cs.toList.map ofCell)
 | v => ofCell v
theorem ofCell_rel (E : En) (v : Value) : RelV E (ofCell v) v := by
 unfold ofCell
 split <;> simp only [RelV, Rep]
theorem ofCells_rel (E : En) : ∀ vs : List Value, RelVs E (vs.map ofCell) vs
 | [] => by simp only [List.map_nil, RelVs]
 | v :: vs => by simp only [List.map_cons, RelVs]; exact ⟨v, vs, rfl, ofCell_rel E v, ofCells_rel E vs⟩
theorem ofVal_rel (E : En) (v : Value) : RelV E (ofVal v) v := by
 unfold ofVal
 split
 ·simp only [RelV]; exact ⟨_, rfl, ofCells_rel E _⟩
 ·exact ofCell_rel E _
def gev (g : Nat) : TV := match globs.find? (fun y => y.1 == g) with | some y => .ep y.2 0 | none => .junk
def ev (t : S) : Operand → TV
 | .tmp k => match t (.s k) with | .v x => x | _ => .junk
 | .const v => ofVal v
 | .func f => .clo f []
 | .global g => gev g
def pl : Operand → List Pl
 | .tmp k => [.s k]
 | _ => []
theorem ev_rel {A : Actv} {t : S} {a : Act} {E : En} (h : InvE A t a E) (x : Operand) : RelV E (ev t x) (a.eval x) := by
 cases x with
 | tmp k =>
   simp only [ev]
   split
   ·rename_i tv ht
    obtain ⟨u, hu, hr⟩ := h.sl k tv ht
    simpa only [Act.eval, Array.getD_eq_getD_getElem?, hu, Option.getD_some] using hr
   ·simp only [RelV]
 | const v => exact ofVal_rel E v
 | global g =>
   simp only [ev, gev]
   split
   ·rename_i y hy
    have h1 := h.h.gl y (List.mem_of_find?_eq_some hy)
    have h2 := List.find?_some hy
    simp only [beq_iff_eq] at h2
    simp only [RelV, Act.eval]
    exact ⟨g, 0, rfl, h2 ▸ h1⟩
   ·simp only [RelV]
 | func f => simp only [ev, RelV, RelVs, Act.eval]; exact ⟨#[], rfl, rfl⟩
theorem ev_eq {t t' : S} {x : Operand} (h : ∀ p ∈ pl x, t' p = t p) : ev t' x = ev t x := by
 cases x <;> simp only [ev]
 rename_i k
 rw [h (.s k) (by simp [pl])]
structure Eff where
 C : Prop
 rp : List Pl
 W : List (Pl × It)
 v : TV
def IsNx (nx : Next) (u : Value) : Prop := nx = .value u ∨ (nx = .skip ∧ u = undef)
def EffOK (P : Program) (A : Actv) (o : Oper) (t : S) (e : Eff) : Prop :=
 e.C → ∀ t', (∀ p ∈ e.rp, t' p = t p) → ∀ a E, InvE A t' a E →
  ∃ nx u E', (execOp a.eval o).run P E.w = .ok nx E'.w ∧ IsNx nx u ∧ InvE A (over t' e.W) a E' ∧ RelV E' e.v u
theorem EffOK.pure {P : Program} {A : Actv} {o : Oper} {t : S} {C : Prop} {rp : List Pl} {v : TV}
  (h : C → ∀ t', (∀ p ∈ rp, t' p = t p) → ∀ a E, InvE A t' a E → ∃ u, (execOp a.eval o).run P E.w = .ok (.value u) E.w ∧ RelV E v u) :
  EffOK P A o t ⟨C, rp, [], v⟩ := fun hC t' hr a E hi => by
 obtain ⟨u, h1, h2⟩ := h hC t' hr a E hi
 exact ⟨_, u, E, h1, .inl rfl, hi, h2⟩
theorem pl_left {l r : List Pl} {t t' : S} (h : ∀ p ∈ l ++ r, t' p = t p) : ∀ p ∈ l, t' p = t p := fun p hp => h p (List.mem_append_left _ hp)
theorem pl_right {l r : List Pl} {t t' : S} (h : ∀ p ∈ l ++ r, t' p = t p) : ∀ p ∈ r, t' p = t p := fun p hp => h p (List.mem_append_right _ hp)
def TV.cells : TV → List TV
 | .agg vs => vs
 | v => [v]
def andI (k : IntKind) (a b : Int) : Int := k.wrap (BitVec.ofInt k.bits a &&& BitVec.ofInt k.bits b).toNat
def orI (k : IntKind) (a b : Int) : Int := k.wrap (BitVec.ofInt k.bits a ||| BitVec.ofInt k.bits b).toNat
def xorI (k : IntKind) (a b : Int) : Int := k.wrap (BitVec.ofInt k.bits a ^^^ BitVec.ofInt k.bits b).toNat
def andNotI (k : IntKind) (a b : Int) : Int := k.wrap (BitVec.ofInt k.bits a &&& ~~~ BitVec.ofInt k.bits b).toNat
def notI (k : IntKind) (n : Int) : Int := k.wrap (BitVec.ofInt k.bits (if k.signed then -1 else k.max) ^^^ BitVec.ofInt k.bits n).toNat
def shlI (k : IntKind) (a b : Int) : Int := k.wrap (a * 2 ^ (min b.toNat k.bits))
def shrI (k : IntKind) (a b : Int) : Int := a.fdiv (2 ^ (min b.toNat k.bits))
def binI (op : BinOp) (k : IntKind) (a b : Int) : Option (Prop × TV) :=
 match op with
 | .add => some (True, .d (.int k (k.wrap (a + b))))
 | .sub => some (True, .d (.int k (k.wrap (a - b))))
 | .mul => some (True, .d (.int k (k.wrap (a * b))))
 | .quo => some (b ≠ 0, .d (.int k (k.wrap (a.tdiv b))))
 | .rem => some (b ≠ 0, .d (.int k (a.tmod b)))
 | .and => some (True, .d (.int k (andI k a b)))
 | .or => some (True, .d (.int k (orI k a b)))
 | .xor => some (True, .d (.int k (xorI k a b)))
 | .andNot => some (True, .d (.int k (andNotI k a b)))
 | .eql => some (True, .d (.bool (a == b)))
 | .neq => some (True, .d (.bool (a != b)))
 | .lss => some (True, .d (.bool (a < b)))
 | .leq => some (True, .d (.bool (a ≤ b)))
 | .gtr => some (True, .d (.bool (a > b)))
 | .geq => some (True, .d (.bool (a ≥ b)))
 | _ => none
def binS (op : BinOp) (k : IntKind) (a b : Int) : Option (Prop × TV) :=
 match op with
 | .shl => some (0 ≤ b, .d (.int k (shlI k a b)))
 | .shr => some (0 ≤ b, .d (.int k (shrI k a b)))
 | _ => none
def binStr (op : BinOp) (a b : ByteArray) : Option (Prop × TV) :=
 match op with
 | .add => some (a.size + b.size ≤ 9223372036854775807, .d (.str (a ++ b)))
 | .eql => some (True, .d (.bool (a.toList == b.toList)))
 | .neq => some (True, .d (.bool (!(a.toList == b.toList))))
 | .lss => some (True, .d (.bool (Op.bytesLess a.toList b.toList)))
 | .gtr => some (True, .d (.bool (!(Op.bytesLess a.toList b.toList || a.toList == b.toList))))
 | .leq => some (True, .d (.bool (Op.bytesLess a.toList b.toList || a.toList == b.toList)))
 | .geq => some (True, .d (.bool (!Op.bytesLess a.toList b.toList)))
 | _ => none
def isShift : BinOp → Bool
 | .shl | .shr => true
 | _ => false
def binD (P : Program) (op : BinOp) (ty : TypeId) : TV → TV → Option (Prop × TV)
 | .d (.int k a), .d (.int k' b) => if isShift op then binS op k a b else if k = k' then binI op k a b else none
 | .d (.str a), .d (.str b) => binStr op a b
 | .d (.bool a), .d (.bool b) => match P.underlying ty, op with
   | some .bool, .eql => some (True, .d (.bool (a == b)))
   | some .bool, .neq => some (True, .d (.bool (!(a == b))))
   | _, _ => none
 | .d (.sl xs), .c (.slice none 0 0) => match P.underlying ty, op with
   | some (.slice _), .eql => some (0 < xs.length, .d (.bool false))
   | some (.slice _), .neq => some (0 < xs.length, .d (.bool true))
   | _, _ => none
 | .c (.slice a _ _), .c (.slice none 0 0) => match P.underlying ty, op with
   | some (.slice _), .eql => some (True, .d (.bool a.isNone))
   | some (.slice _), .neq => some (True, .d (.bool (!a.isNone)))
   | _, _ => none
 | .ep _ _, .c (.pointer none) => match P.underlying ty, op with
   | some (.pointer _), .eql => some (True, .d (.bool false))
   | some (.pointer _), .neq => some (True, .d (.bool true))
   | _, _ => none
 | .ptr _ _, .c (.pointer none) => match P.underlying ty, op with
   | some (.pointer _), .eql => some (True, .d (.bool false))
   | some (.pointer _), .neq => some (True, .d (.bool true))
   | _, _ => none
 | .c (.pointer a), .c (.pointer none) => match P.underlying ty, op with
   | some (.pointer _), .eql => some (True, .d (.bool a.isNone))
   | some (.pointer _), .neq => some (True, .d (.bool (!a.isNone)))
   | _, _ => none
 | _, _ => none
theorem run_equal_nil {P : Program} {ty e : TypeId} (h : P.underlying ty = some (.slice e)) (a : Option Addr) (n c m d k : Nat) (w : World) : (Op.equalIn (k + 1) ty (.slice a n c) (.slice none m d)).run P w = .ok a.isNone w := by
 cases a <;> simp [Op.equalIn, Sem.run_bind, run_underlying h]
theorem run_equal_ptr {P : Program} {ty e : TypeId} (h : P.underlying ty = some (.pointer e)) (a : Option Addr) (k : Nat) (w : World) : (Op.equalIn (k + 1) ty (.pointer a) (.pointer none)).run P w = .ok a.isNone w := by
 cases a <;> simp [Op.equalIn, Sem.run_bind, run_underlying h]
theorem binD_ok {P : Program} {op : BinOp} {ty : TypeId} {x y v : TV} {C : Prop} (h : binD P op ty x y = some (C, v)) (hC : C) {E : En} {u u' : Value} (hx : RelV E x u) (hy : RelV E y u')
  (xo yo : Operand) (w : World) : ∃ r, ((do eqGuard op ty xo yo u u'; binOp op ty u u' : Sem Value)).run P w = .ok r w ∧ RelV E v r := by
 unfold binD at h
 split at h
 ·rename_i k a k' b
  simp only [RelV, Rep] at hx hy
  subst hx; subst hy
  rw [eqGuard_at_int]
  split at h
  ·rename_i hs
   cases op <;> first
    | (simp only [isShift, Bool.false_eq_true] at hs; done)
    | (simp only [binS, Option.some.injEq, Prod.mk.injEq] at h
       obtain ⟨rfl, rfl⟩ := h
       simp [binOp, Op.shift, show ¬ b < 0 by omega, RelV, Rep, shlI, shrI])
  ·rename_i hs
   split at h
   ·rename_i hk
    subst hk
    cases op <;> first
     | (simp only [isShift, not_true_eq_false] at hs; done)
     | (simp only [binI, Option.some.injEq, Prod.mk.injEq] at h
        obtain ⟨rfl, rfl⟩ := h
        simp [binOp, Op.intArith, Op.intDiv, Op.intBits, Op.intCmp, RelV, Rep, andI, orI, xorI, andNotI]
        done)
     | (simp only [binI, Option.some.injEq, Prod.mk.injEq] at h
        obtain ⟨rfl, rfl⟩ := h
        simp [binOp, Op.intArith, Op.intDiv, Op.intBits, Op.intCmp, RelV, Rep, hC])
   ·simp at h
 ·rename_i a b
  simp only [RelV, Rep] at hx hy
  subst hx; subst hy
  rw [eqGuard_at_string]
  cases op <;> first
   | (simp only [binStr, reduceCtorEq] at h; done)
   | (simp only [binStr, Option.some.injEq, Prod.mk.injEq] at h
      obtain ⟨rfl, rfl⟩ := h
      simp [binOp, Op.stringOp, RelV, Rep]
      done)
   | (simp only [binStr, Option.some.injEq, Prod.mk.injEq] at h
      obtain ⟨rfl, rfl⟩ := h
      have h1 : ¬ (9223372036854775807 < (a.size : Int) + (b.size : Int)) := by omega
      simp [binOp, Op.stringOp, RelV, Rep, h1])
 ·rename_i a b
  simp only [RelV, Rep] at hx hy
  subst hx; subst hy
  rw [eqGuard_at_bool]
  split at h
  ·rename_i hu
   simp only [Option.some.injEq, Prod.mk.injEq] at h
   obtain ⟨rfl, rfl⟩ := h
   have hb := run_equalIn_bool (P := P) w 9999 ty a b hu
   simp only [binOp, Op.equal, Op.maxDepth, Sem.run_bind, Sem.run_pure, Result.andThen_ok, hb, Result.ok.injEq, and_true, exists_eq_left', RelV, Rep]
  ·rename_i hu
   simp only [Option.some.injEq, Prod.mk.injEq] at h
   obtain ⟨rfl, rfl⟩ := h
   have hb := run_equalIn_bool (P := P) w 9999 ty a b hu
   simp only [binOp, Op.equal, Op.maxDepth, Sem.run_bind, Sem.run_pure, Result.andThen_ok, hb, Result.ok.injEq, and_true, exists_eq_left', RelV, Rep]
  ·simp at h
 ·rename_i xs
  simp only [RelV, Rep] at hx hy
  subst hy
  split at h
  all_goals first
   | (simp at h; done)
   | (rename_i hu
      simp only [Option.some.injEq, Prod.mk.injEq] at h
      obtain ⟨rfl, rfl⟩ := h
      rcases hx with ⟨h0, _⟩ | ⟨b, o, c, k, rfl, _⟩
      ·omega
      ·have hb := run_equal_nil hu (some ⟨b, o, none⟩) xs.length c 0 0 9999 w
       rw [eqGuard_at_slice]
       simp only [binOp, Op.equal, Op.maxDepth, Sem.run_bind, Sem.run_pure, Result.andThen_ok, hb, Result.ok.injEq, and_true, exists_eq_left', RelV, Rep]
       rfl)
 ·rename_i a n c
  simp only [RelV] at hx hy
  subst hx; subst hy
  split at h
  all_goals first
   | (simp at h; done)
   | (rename_i hu
      simp only [Option.some.injEq, Prod.mk.injEq] at h
      obtain ⟨rfl, rfl⟩ := h
      have hb := run_equal_nil hu a n c 0 0 9999 w
      rw [eqGuard_at_slice]
      simp only [binOp, Op.equal, Op.maxDepth, Sem.run_bind, Sem.run_pure, Result.andThen_ok, hb, Result.ok.injEq, and_true, exists_eq_left', RelV, Rep])
 ·simp only [RelV] at hx hy
  subst hy
  obtain ⟨b, o, rfl, _⟩ := hx
  split at h
  all_goals first
   | (simp at h; done)
   | (rename_i hu
      simp only [Option.some.injEq, Prod.mk.injEq] at h
      obtain ⟨rfl, rfl⟩ := h
      have hb := fun a => run_equal_ptr hu a 9999 w
      rw [eqGuard_at_pointer]
      simp only [binOp, Op.equal, Op.maxDepth, Sem.run_bind, Sem.run_pure, Result.andThen_ok, hb, Result.ok.injEq, and_true, exists_eq_left', RelV, Rep]
      rfl)
 ·simp only [RelV] at hx hy
  subst hy
  obtain ⟨b, _, rfl⟩ := hx
  split at h
  all_goals first
   | (simp at h; done)
   | (rename_i hu
      simp only [Option.some.injEq, Prod.mk.injEq] at h
      obtain ⟨rfl, rfl⟩ := h
      have hb := fun a => run_equal_ptr hu a 9999 w
      rw [eqGuard_at_pointer]
      simp only [binOp, Op.equal, Op.maxDepth, Sem.run_bind, Sem.run_pure, Result.andThen_ok, hb, Result.ok.injEq, and_true, exists_eq_left', RelV, Rep]
      rfl)
 ·rename_i a
  simp only [RelV] at hx hy
  subst hx; subst hy
  split at h
  all_goals first
   | (simp at h; done)
   | (rename_i hu
      simp only [Option.some.injEq, Prod.mk.injEq] at h
      obtain ⟨rfl, rfl⟩ := h
      have hb := run_equal_ptr hu a 9999 w
      rw [eqGuard_at_pointer]
      simp only [binOp, Op.equal, Op.maxDepth, Sem.run_bind, Sem.run_pure, Result.andThen_ok, hb, Result.ok.injEq, and_true, exists_eq_left', RelV, Rep])
 ·simp at h
section
variable {P : Program} {A : Actv}
theorem eff_move {o : Oper} {t : S} {x : Operand} (ho : o.op = .move x ∨ o.op = .assign x) : EffOK P A o t ⟨True, pl x, [], ev t x⟩ :=
 .pure fun _ t' hr a E hi => ⟨a.eval x, by rcases ho with ho | ho <;> simp [execOp, ho], ev_eq hr ▸ ev_rel hi x⟩
theorem eff_pick {o : Oper} {t : S} {c x y : Operand} {g : Bool} (ho : o.op = .pick c x y) (hg : ev t c = .d (.bool g)) :
  EffOK P A o t ⟨True, pl c ++ (pl x ++ pl y), [], bif g then ev t x else ev t y⟩ :=
 .pure fun _ t' hr a E hi => by
  have hc := ev_rel hi c
  rw [ev_eq (pl_left hr), hg] at hc
  simp only [RelV, Rep] at hc
  have hx := ev_rel hi x
  rw [ev_eq (pl_left (pl_right hr))] at hx
  have hy := ev_rel hi y
  rw [ev_eq (pl_right (pl_right hr))] at hy
  cases g
  ·exact ⟨a.eval y, by simp [execOp, ho, hc, asBool], hy⟩
  ·exact ⟨a.eval x, by simp [execOp, ho, hc, asBool], hx⟩
theorem eff_bin {o : Oper} {t : S} {op : BinOp} {ty ty' : TypeId} {x y : Operand} {C : Prop} {v : TV} (ho : o.op = .binOp op ty x y ty') (h : binD P op ty (ev t x) (ev t y) = some (C, v)) :
  EffOK P A o t ⟨C, pl x ++ pl y, [], v⟩ :=
 .pure fun hC t' hr a E hi => by
  have hx := ev_rel hi x
  rw [ev_eq (pl_left hr)] at hx
  have hy := ev_rel hi y
  rw [ev_eq (pl_right hr)] at hy
  obtain ⟨r, h1, h2⟩ := binD_ok h hC hx hy x y E.w
  refine ⟨r, ?_, h2⟩
  simp only [execOp, ho]
  rw [Sem.run_bind, h1]
  rfl
def unD (op : UnOp) : TV → Option TV
 | .d (.int k n) => match op with
   | .neg => some (.d (.int k (k.wrap (0 - n))))
   | .xor => some (.d (.int k (notI k n)))
   | _ => none
 | .d (.bool b) => match op with
   | .not => some (.d (.bool !b))
   | _ => none
 | _ => none
theorem eff_un {o : Oper} {t : S} {op : UnOp} {ty : TypeId} {x : Operand} {v : TV} (ho : o.op = .unOp op ty x) (h : unD op (ev t x) = some v) : EffOK P A o t ⟨True, pl x, [], v⟩ :=
 .pure fun _ t' hr a E hi => by
  have hx := ev_rel hi x
  rw [ev_eq hr] at hx
  revert hx h
  generalize ev t x = tx
  intro h hx
  unfold unD at h
  split at h
  ·simp only [RelV, Rep] at hx
   split at h
   ·simp only [Option.some.injEq] at h; subst h
    refine ⟨_, ?_, rfl⟩
    simp [execOp, ho, hx, Op.unary, Op.intArith]
   ·simp only [Option.some.injEq] at h; subst h
    refine ⟨_, ?_, rfl⟩
    simp only [execOp, ho, hx, Op.unary, Op.intBits, Sem.run_bind, Sem.run_pure, Result.andThen_ok, notI]
   ·simp at h
  ·simp only [RelV, Rep] at hx
   split at h
   ·simp only [Option.some.injEq] at h; subst h
    refine ⟨_, ?_, rfl⟩
    simp [execOp, ho, hx, Op.unary]
   ·simp at h
  ·simp at h
theorem eff_conv {o : Oper} {t : S} {sr ds : TypeId} {x : Operand} {k k' : IntKind} {n : Int} (ho : o.op = .convert sr ds x) (hs : (shp P sr).isSome = true) (hd : knd P ds = some k') (hx : ev t x = .d (.int k n)) :
  EffOK P A o t ⟨True, pl x, [], .d (.int k' (k'.wrap n))⟩ :=
 .pure fun _ t' hr a E hi => by
  have hx' := ev_rel hi x
  rw [ev_eq hr, hx] at hx'
  simp only [RelV, Rep] at hx'
  refine ⟨_, ?_, rfl⟩
  unfold knd at hd
  split at hd
  ·rename_i q hq
   simp only [Option.some.injEq] at hd; subst hd
   unfold shp at hs
   cases hu : P.underlying sr with
   | none => simp [hu] at hs
   | some d =>
     simp only [execOp, ho, hx', convert, Sem.run_bind, run_underlying hu, run_underlying hq, Result.andThen_ok, Conv.intToInt, Sem.run_pure]
  ·simp at hd
theorem eff_nil {o : Oper} {t : S} {x : Operand} (ho : o.op = .nilCheck x) (h : (∃ p off, ev t x = .ptr p off) ∨ (∃ e off, ev t x = .ep e off) ∨ (∃ f c, ev t x = .clo f c)) :
  EffOK P A o t ⟨True, pl x, [], ev t x⟩ :=
 .pure fun _ t' hr a E hi => by
  have hx := ev_rel hi x
  rw [ev_eq hr] at hx
  refine ⟨a.eval x, ?_, hx⟩
  rcases h with ⟨p, off, h⟩ | ⟨e, off, h⟩ | ⟨f, c, h⟩ <;> rw [h] at hx <;> simp only [RelV] at hx
  ·obtain ⟨b, _, hu⟩ := hx; simp [execOp, ho, hu]
  ·obtain ⟨b, _, hu, _⟩ := hx; simp [execOp, ho, hu]
  ·obtain ⟨us, hu, _⟩ := hx; simp [execOp, ho, hu]
theorem run_fieldAt {s f : Nat} {off : Nat} {ft : TypeId} (hf : fld P s f = some (off, ft)) {z : Nat} (hz : szO P ft = some z) (hz0 : z ≠ 0) (b o : Nat) (w : World) :
  (Instr.fieldAt s (.pointer (some ⟨b, o, none⟩)) f).run P w = .ok (.pointer (some ⟨b, o + off, none⟩)) w := by
 unfold fld at hf
 split at hf
 ·rename_i fs hfs
  cases hff : fs[f]? with
  | none => simp [hff] at hf
  | some g =>
    simp only [hff, Option.map_some, Option.some.injEq, Prod.mk.injEq] at hf
    obtain ⟨rfl, rfl⟩ := hf
    unfold szO at hz
    cases hi : P.info? g.type with
    | none => simp [hi] at hz
    | some i =>
      simp only [hi, Option.map_some, Option.some.injEq] at hz
      simp [Instr.fieldAt, run_underlying hfs, hff, Instr.sureAddr, fieldPlace, sizeOf, typeInfo, hi, hz, hz0, add_lit']
 ·simp at hf
theorem eff_fieldAddr {o : Oper} {t : S} {s f : Nat} {x : Operand} {off : Nat} {ft : TypeId} {z : Nat} {v : TV} (ho : o.op = .fieldAddr s x f) (hf : fld P s f = some (off, ft)) (hz : szO P ft = some z) (hz0 : z ≠ 0)
  (h : (∃ p q, ev t x = .ptr p q ∧ v = .ptr p (q + off)) ∨ (∃ e q, ev t x = .ep e q ∧ v = .ep e (q + off))) : EffOK P A o t ⟨True, pl x, [], v⟩ :=
 .pure fun _ t' hr a E hi => by
  have hx := ev_rel hi x
  rw [ev_eq hr] at hx
  rcases h with ⟨p, q, h, rfl⟩ | ⟨e, q, h, rfl⟩ <;> rw [h] at hx <;> simp only [RelV] at hx
  ·obtain ⟨b, hb, hu⟩ := hx
   refine ⟨.pointer (some ⟨b, q + off, none⟩), ?_, ?_⟩
   ·simp [execOp, ho, hu, run_fieldAt hf hz hz0]
   ·simp only [RelV]; exact ⟨b, hb, rfl⟩
  ·obtain ⟨b, p, hu, hc⟩ := hx
   refine ⟨.pointer (some ⟨b, p + q + off, none⟩), ?_, ?_⟩
   ·simp [execOp, ho, hu, run_fieldAt hf hz hz0]
   ·simp only [RelV]; exact ⟨b, p, by rw [Nat.add_assoc], hc⟩
theorem row_cur {t : S} {a : Act} {E : En} (hi : InvE A t a E) {id k : Nat} {e : TypeId} {es : List (List TV)} {sh : Bool} (ht : t (.o id) = .row e k es sh) :
  E.blk (.o id) = none ∧ ∃ v us, E.val id = some (k, es.length, v) ∧ E.w.ownsRow 0 e k v es.length us ∧ RowRel E us k 0 es ∧ (∀ u, RelV E (.oref id es.length) u → u = v) := by
 have := hi.h.item (.o id) (by simp)
 rw [ht] at this
 obtain ⟨h0, id', v, us, hid, h1, h2, h3⟩ := this
 simp only [Pl.o.injEq] at hid
 subst hid
 refine ⟨h0, v, us, h1, h2, h3, fun u hu => ?_⟩
 simp only [RelV] at hu
 obtain ⟨_, k', c, v', hv, _, he⟩ := hu
 rw [h1] at hv
 simp only [Option.some.injEq, Prod.mk.injEq] at hv
 obtain ⟨rfl, rfl, rfl⟩ := hv
 exact he rfl
theorem eptr_cur {t : S} {a : Act} {E : En} (hi : InvE A t a E) {id k i off : Nat} {e : TypeId} {es : List (List TV)} {sh : Bool} (ht : t (.o id) = .row e k es sh) {u : Value}
  (hu : RelV E (.eptr id es.length i off) u) : ∃ g cap us, E.val id = some (k, es.length, .slice (some ⟨g, 0, none⟩) es.length cap) ∧ u = .pointer (some ⟨g, i * k + off, none⟩) ∧
   E.w.ownsRow 0 e k (.slice (some ⟨g, 0, none⟩) es.length cap) es.length us ∧ RowRel E us k 0 es := by
 obtain ⟨_, v, us, h1, h2, h3, _⟩ := row_cur hi ht
 simp only [RelV] at hu
 obtain ⟨_, k', c, v', hv, _, he⟩ := hu
 rw [h1] at hv
 simp only [Option.some.injEq, Prod.mk.injEq] at hv
 obtain ⟨rfl, rfl, rfl⟩ := hv
 obtain ⟨b, o, cp, rfl, hu⟩ := he rfl
 rcases h2.2 with ⟨h4, _⟩ | ⟨g, cap, cur, h4, rest⟩
 ·simp at h4
 ·simp only [Value.slice.injEq, Option.some.injEq, Addr.mk.injEq] at h4
  obtain ⟨⟨rfl, rfl, _⟩, _, rfl⟩ := h4
  exact ⟨b, cp, us, h1, by simpa using hu, h2, h3⟩
theorem eff_nil_row {o : Oper} {t : S} {x : Operand} {id n i q k : Nat} {e : TypeId} {es : List (List TV)} {sh : Bool} (ho : o.op = .nilCheck x) (hx : ev t x = .eptr id n i q) (ht : t (.o id) = .row e k es sh) :
  EffOK P A o t ⟨n = es.length, pl x ++ [.o id], [], .eptr id n i q⟩ := .pure fun hn t' hr a E hi => by
 have hu := ev_rel hi x
 rw [ev_eq (pl_left hr), hx] at hu
 have ht' : t' (.o id) = .row e k es sh := (pl_right hr _ (by simp)).trans ht
 subst hn
 obtain ⟨g, cap, us, _, hu', _⟩ := eptr_cur hi ht' hu
 exact ⟨a.eval x, by simp [execOp, ho, hu'], hu⟩
theorem eff_fieldAddr_row {o : Oper} {t : S} {s f : Nat} {x : Operand} {off : Nat} {ft : TypeId} {z : Nat} {id n i q k : Nat} {e : TypeId} {es : List (List TV)} {sh : Bool}
  (ho : o.op = .fieldAddr s x f) (hf : fld P s f = some (off, ft)) (hz : szO P ft = some z) (hz0 : z ≠ 0)
  (h : ev t x = .eptr id n i q) (ht : t (.o id) = .row e k es sh) : EffOK P A o t ⟨n = es.length, pl x ++ [.o id], [], .eptr id n i (q + off)⟩ :=
 .pure fun hC t' hr a E hi => by
  have hx := ev_rel hi x
  rw [ev_eq (pl_left hr), h] at hx
  have ht' : t' (.o id) = .row e k es sh := (pl_right hr _ (by simp)).trans ht
  subst hC
  obtain ⟨g, cap, us, h1, rfl', h2, h3⟩ := eptr_cur hi ht' hx
  refine ⟨.pointer (some ⟨g, i * k + q + off, none⟩), ?_, ?_⟩
  ·simp [execOp, ho, rfl', run_fieldAt hf hz hz0]
  ·simp only [RelV]
   exact ⟨rfl, k, _, _, h1, Nat.le_refl _, fun _ => ⟨g, 0, cap, rfl, by simp [Nat.add_assoc]⟩⟩
theorem run_indexAt_sl {ty e k : Nat} (he : slE P ty = some e) (hk : szO P e = some k) (a : Addr) (len cap : Nat) (ik : IntKind) (i : Int) (h0 : 0 ≤ i) (h1 : i < len) (w : World) :
  (Instr.indexAt ty (.slice (some a) len cap) (.int ik i)).run P w = .ok (.pointer (some (a.add (i.toNat * k)))) w := by
 unfold slE at he
 split at he
 ·rename_i e' hu
  simp only [Option.some.injEq] at he
  subst he
  unfold szO at hk
  cases hi : P.info? e' with
  | none => simp [hi] at hk
  | some inf =>
    simp only [hi, Option.map_some, Option.some.injEq] at hk
    simp [Instr.indexAt, run_underlying hu, asIntOf, h0, h1, sizeOf, typeInfo, hi, hk]
 ·simp at he
theorem eff_indexAddr {o : Oper} {t : S} {ty : TypeId} {x ix : Operand} {e k : Nat} {xs : List (List D)} {ik : IntKind} {i : Int} (ho : o.op = .indexAddr ty x ix) (he : slE P ty = some e) (hk : szO P e = some k)
  (hx : ev t x = .d (.sl xs)) (hix : ev t ix = .d (.int ik i)) :
  EffOK P A o t ⟨0 ≤ i ∧ i < xs.length ∧ (xs.getD i.toNat []).length = k, pl x ++ pl ix, [], .ep (xs.getD i.toNat []) 0⟩ :=
 .pure fun ⟨h0, h1, h2⟩ t' hr a E hi => by
  have hx' := ev_rel hi x
  rw [ev_eq (pl_left hr), hx] at hx'
  have hix' := ev_rel hi ix
  rw [ev_eq (pl_right hr), hix] at hix'
  simp only [RelV, Rep] at hx' hix'
  have hlt : i.toNat < xs.length := by omega
  have hg : xs[i.toNat]? = some (xs.getD i.toNat []) := by simp [List.getD, hlt]
  rcases hx' with ⟨h3, _⟩ | ⟨b, of, c, k', hu, hc, hrows⟩
  ·omega
  ·obtain ⟨h4, h5⟩ := hrows.get hg
   have hkk : k' = k := by omega
   subst hkk
   refine ⟨.pointer (some ⟨b, of + i.toNat * k', none⟩), ?_, ?_⟩
   ·simp [execOp, ho, hu, hix', run_indexAt_sl he hk _ _ _ _ _ h0 h1, add_lit']
   ·simp only [RelV]
    exact ⟨b, of + i.toNat * k', by simp, h5⟩
theorem eff_indexAddr_row {o : Oper} {t : S} {ty : TypeId} {x ix : Operand} {e k id n : Nat} {e' : TypeId} {es : List (List TV)} {sh : Bool} {ik : IntKind} {i : Int} (ho : o.op = .indexAddr ty x ix) (he : slE P ty = some e) (hk : szO P e = some k)
  (hx : ev t x = .oref id n) (hix : ev t ix = .d (.int ik i)) (ht : t (.o id) = .row e' k es sh) :
  EffOK P A o t ⟨n = es.length ∧ 0 ≤ i ∧ i < es.length, pl x ++ (pl ix ++ [.o id]), [], .eptr id n i.toNat 0⟩ :=
 .pure fun ⟨hn, h0, h1⟩ t' hr a E hi => by
  have hx' := ev_rel hi x
  rw [ev_eq (pl_left hr), hx] at hx'
  have hix' := ev_rel hi ix
  rw [ev_eq (pl_left (pl_right hr)), hix] at hix'
  simp only [RelV, Rep] at hix'
  subst hn
  have ht' : t' (.o id) = .row e' k es sh := (pl_right (pl_right hr) _ (by simp)).trans ht
  obtain ⟨_, v, us, h2, h3, h4, h5⟩ := row_cur hi ht'
  have hu := h5 _ hx'
  rcases h3.2 with ⟨_, h6⟩ | ⟨g, cap, cur, h6, _⟩
  ·omega
  ·subst h6
   refine ⟨.pointer (some ⟨g, i.toNat * k, none⟩), ?_, ?_⟩
   ·simp [execOp, ho, hu, hix', run_indexAt_sl he hk _ _ _ _ _ h0 h1, add_lit']
   ·simp only [RelV]
    exact ⟨rfl, k, _, _, h2, Nat.le_refl _, fun _ => ⟨g, 0, cap, rfl, by simp⟩⟩
theorem eff_indexAddr_arr {o : Oper} {t : S} {ty : TypeId} {x ix : Operand} {n e k : Nat} {p : Pl} {q : Nat} {ik : IntKind} {i : Int} (ho : o.op = .indexAddr ty x ix) (he : arE P ty = some (n, e)) (hk : szO P e = some k)
  (hx : ev t x = .ptr p q) (hix : ev t ix = .d (.int ik i)) : EffOK P A o t ⟨0 ≤ i ∧ i < n, pl x ++ pl ix, [], .ptr p (q + i.toNat * k)⟩ :=
 .pure fun ⟨h0, h1⟩ t' hr a E hi => by
  have hx' := ev_rel hi x
  rw [ev_eq (pl_left hr), hx] at hx'
  have hix' := ev_rel hi ix
  rw [ev_eq (pl_right hr), hix] at hix'
  simp only [RelV, Rep] at hx' hix'
  obtain ⟨b, hb, hu⟩ := hx'
  unfold arE at he
  split at he
  ·rename_i n' e' hun
   simp only [Option.some.injEq, Prod.mk.injEq] at he
   obtain ⟨rfl, rfl⟩ := he
   unfold szO at hk
   cases hinf : P.info? e' with
   | none => simp [hinf] at hk
   | some inf =>
     simp only [hinf, Option.map_some, Option.some.injEq] at hk
     refine ⟨.pointer (some ⟨b, q + i.toNat * k, none⟩), ?_, ?_⟩
     ·simp [execOp, ho, hu, hix', Instr.indexAt, run_underlying hun, asIntOf, Instr.sureAddr, h0, h1, sizeOf, typeInfo, hinf, hk, add_lit']
     ·simp only [RelV]; exact ⟨b, hb, rfl⟩
  ·simp at he
theorem eff_indexAddr_ep {o : Oper} {t : S} {ty : TypeId} {x ix : Operand} {n e k : Nat} {ds : List D} {q : Nat} {ik : IntKind} {i : Int} (ho : o.op = .indexAddr ty x ix) (he : arE P ty = some (n, e)) (hk : szO P e = some k)
  (hx : ev t x = .ep ds q) (hix : ev t ix = .d (.int ik i)) : EffOK P A o t ⟨0 ≤ i ∧ i < n, pl x ++ pl ix, [], .ep ds (q + i.toNat * k)⟩ :=
 .pure fun ⟨h0, h1⟩ t' hr a E hi => by
  have hx' := ev_rel hi x
  rw [ev_eq (pl_left hr), hx] at hx'
  have hix' := ev_rel hi ix
  rw [ev_eq (pl_right hr), hix] at hix'
  simp only [RelV, Rep] at hx' hix'
  obtain ⟨b, o', hu, hc⟩ := hx'
  unfold arE at he
  split at he
  ·rename_i n' e' hun
   simp only [Option.some.injEq, Prod.mk.injEq] at he
   obtain ⟨rfl, rfl⟩ := he
   unfold szO at hk
   cases hinf : P.info? e' with
   | none => simp [hinf] at hk
   | some inf =>
     simp only [hinf, Option.map_some, Option.some.injEq] at hk
     refine ⟨.pointer (some ⟨b, o' + q + i.toNat * k, none⟩), ?_, ?_⟩
     ·simp [execOp, ho, hu, hix', Instr.indexAt, run_underlying hun, asIntOf, Instr.sureAddr, h0, h1, sizeOf, typeInfo, hinf, hk, add_lit']
     ·simp only [RelV]; exact ⟨b, o', by rw [Nat.add_assoc], hc⟩
  ·simp at he
theorem eff_extract {o : Oper} {t : S} {x : Operand} {i : Nat} {vs : List TV} {v : TV} (ho : o.op = .extract x i) (hx : ev t x = .tup vs) (hv : vs[i]? = some v) : EffOK P A o t ⟨True, pl x, [], v⟩ :=
 .pure fun _ t' hr a E hi => by
  have hx' := ev_rel hi x
  rw [ev_eq hr, hx] at hx'
  simp only [RelV] at hx'
  obtain ⟨us, hu, hs⟩ := hx'
  obtain ⟨u, h1, h2⟩ := hs.get hv
  have h1' : us[i]? = some u := by simpa using h1
  exact ⟨u, by simp [execOp, ho, hu, Instr.extract, h1'], h2⟩
theorem evs_rel {t : S} {a : Act} {E : En} (hi : InvE A t a E) : ∀ xs : List Operand, RelVs E (xs.map (ev t)) (xs.map a.eval)
 | [] => by simp only [List.map_nil, RelVs]
 | x :: xs => by simp only [List.map_cons, RelVs]; exact ⟨_, _, rfl, ev_rel hi x, evs_rel hi xs⟩
theorem evs_eq {t t' : S} : ∀ {xs : List Operand}, (∀ p ∈ xs.flatMap pl, t' p = t p) → xs.map (ev t') = xs.map (ev t)
 | [], _ => rfl
 | x :: xs, h => by
   simp only [List.map_cons]
   rw [ev_eq (fun p hp => h p (by simp [hp])), evs_eq (fun p hp => h p (by simp only [List.flatMap_cons]; exact List.mem_append_right _ hp))]
theorem eff_makeFunc {o : Oper} {t : S} {f : FuncId} {caps : List Operand} (ho : o.op = .makeFunc (.func f) #[] caps.toArray) : EffOK P A o t ⟨True, caps.flatMap pl, [], .clo f (caps.map (ev t))⟩ :=
 .pure fun _ t' hr a E hi => by
  have h := evs_rel hi caps
  rw [evs_eq hr] at h
  refine ⟨.func (.func f) #[] (caps.map a.eval).toArray, by simp [execOp, ho, Instr.makeFunc], ?_⟩
  simp only [RelV]
  exact ⟨_, rfl, by simpa using h⟩
end
end Go.Tr

namespace Go.Tr
open Go
section
variable {P : Program} {A : Actv}
theorem run_load_one {ty : TypeId} (h : shp P ty = some false) {a : Addr} {u : Value} {w : World} (hc : w.cell? a = some u) : (loadVar ty a).run P w = .ok u w := by
 unfold shp at h
 cases hu : P.underlying ty with
 | none => simp [hu] at h
 | some d =>
   have : (isAgg ty).run P w = .ok false w := by
    unfold isAgg
    rw [Sem.run_bind, run_underlying hu w]
    cases d <;> simp_all
   simp [loadVar, this, hc]
theorem run_load_agg {ty z : Nat} (h : shp P ty = some true) (hz : szO P ty = some z) {b o : Nat} {cs : List Value} (hl : cs.length = z) {w : World} (hc : w.rangeAt b o cs) :
  (loadVar ty ⟨b, o, none⟩).run P w = .ok (.agg cs.toArray) w := by
 unfold shp at h
 cases hu : P.underlying ty with
 | none => simp [hu] at h
 | some d =>
   refine run_loadVar_mid w b o ty cs d hc hu ?_ ?_
   ·cases d <;> simp_all
   ·subst hl; exact hz
theorem RepCells.range {E : En} {b o : Nat} {xs : List D} (h : RepCells E b o xs) : ∃ us : List Value, us.length = xs.length ∧ E.w.rangeAt b o us ∧ RelVs E (xs.map .d) us := by
 induction xs generalizing o with
 | nil => exact ⟨[], rfl, fun j v hv => by simp at hv, by simp only [List.map_nil, RelVs]⟩
 | cons x xs ih =>
   simp only [RepCells] at h
   obtain ⟨⟨_, u, hu, hr⟩, h2⟩ := h
   obtain ⟨us, h3, h4, h5⟩ := ih h2
   refine ⟨u :: us, by simp [h3], fun j v hv => ?_, ?_⟩
   ·cases j with
    | zero => simp at hv; subst hv; simpa using hu
    | succ j =>
      have := h4 j v (by simpa using hv)
      rwa [show o + (j + 1) = o + 1 + j by omega]
   ·simp only [List.map_cons, RelVs, RelV]
    exact ⟨u, us, rfl, hr, h5⟩
theorem RepCells.sub {E : En} {b o : Nat} {xs : List D} (h : RepCells E b o xs) (q z : Nat) : RepCells E b (o + q) ((xs.drop q).take z) :=
 RepCells.of_get fun i x hx => by
  have hx' : xs[q + i]? = some x := by
   rw [List.getElem?_take] at hx
   split at hx
   ·simpa using hx
   ·simp at hx
  have := h.get hx'
  rwa [← Nat.add_assoc] at this
theorem CellsRel.sub {E : En} {us : List Value} {o : Nat} {ts : List TV} (h : CellsRel E us o ts) (q z : Nat) : CellsRel E us (o + q) ((ts.drop q).take z) :=
 CellsRel.of_get fun i x hx => by
  have hx' : ts[q + i]? = some x := by
   rw [List.getElem?_take] at hx
   split at hx
   ·simpa using hx
   ·simp at hx
  have := h.get hx'
  rwa [← Nat.add_assoc] at this
theorem CellsRel.vals {E : En} {us : List Value} {o : Nat} {ts : List TV} (h : CellsRel E us o ts) : RelVs E ts ((us.drop o).take ts.length) ∧ ((us.drop o).take ts.length).length = ts.length := by
 have hl : ((us.drop o).take ts.length).length = ts.length := by
  cases ts with
  | nil => simp
  | cons t ts =>
    have := h.get (i := ts.length) (t := (t :: ts)[ts.length]) (by simp)
    obtain ⟨u, hu, _⟩ := this
    have := (List.getElem?_eq_some_iff.1 hu).1
    simp only [List.length_take, List.length_drop, List.length_cons]
    omega
 refine ⟨RelVs.of_get hl fun i t u ht hu => ?_, hl⟩
 obtain ⟨u', h1, _, h2⟩ := h.get ht
 rw [List.getElem?_take] at hu
 split at hu
 ·rw [List.getElem?_drop, h1] at hu
  simp at hu; subst hu; exact h2
 ·simp at hu
theorem rangeAt_list {w : World} {b : Nat} {us : List Value} (h : ∀ j u, us[j]? = some u → w.cell? ⟨b, j, none⟩ = some u) (o n : Nat) : w.rangeAt b o ((us.drop o).take n) := fun j v hv => by
 rw [List.getElem?_take] at hv
 split at hv
 ·exact h _ _ (by simpa using hv)
 ·simp at hv
theorem box_cur {t : S} {a : Act} {E : En} (hi : InvE A t a E) {p : Pl} {cs : List TV} (ht : t p = .box cs) {q : Nat} {u : Value} (hu : RelV E (.ptr p q) u) :
  ∃ b ty us, u = .pointer (some ⟨b, q, none⟩) ∧ E.blk p = some b ∧ E.w.heap[b]? = some (.cells us ty (0, 0)) ∧ us.size = cs.length ∧ CellsRel E us.toList 0 cs := by
 simp only [RelV] at hu
 obtain ⟨b, hb, hu⟩ := hu
 have hp : ∀ k, p ≠ .s k := by
  rintro k rfl
  rw [hi.h.frees k] at hb; simp at hb
 have := hi.h.item p hp
 rw [ht] at this
 obtain ⟨_, b', ty, us, h1, h2, h3, h4⟩ := this
 rw [hb] at h1
 simp only [Option.some.injEq] at h1
 subst h1
 exact ⟨b, ty, us, hu, hb, h2, h3, h4⟩
theorem cell_heap {w : World} {b : Nat} {us : Array Value} {ty : TypeId} {f : Nat × Nat} (h : w.heap[b]? = some (.cells us ty f)) (j : Nat) : w.cell? ⟨b, j, none⟩ = us[j]? := by
 simp [World.cell?, h]
theorem eff_load_box {o : Oper} {t : S} {ty : TypeId} {x : Operand} {p : Pl} {q : Nat} {cs : List TV} {v : TV} (ho : o.op = .load ty x) (hx : ev t x = .ptr p q) (ht : t p = .box cs)
  (h : (shp P ty = some false ∧ cs[q]? = some v) ∨ (∃ z, shp P ty = some true ∧ szO P ty = some z ∧ q + z ≤ cs.length ∧ v = .agg ((cs.drop q).take z))) :
  EffOK P A o t ⟨True, pl x ++ [p], [], v⟩ :=
 .pure fun _ t' hr a E hi => by
  have hx' := ev_rel hi x
  rw [ev_eq (pl_left hr), hx] at hx'
  have ht' : t' p = .box cs := (pl_right hr _ (by simp)).trans ht
  obtain ⟨b, ty', us, hu, hb, hh, hs, hc⟩ := box_cur hi ht' hx'
  rcases h with ⟨h1, h2⟩ | ⟨z, h1, h2, h3, rfl⟩
  ·obtain ⟨u, h4, h5, h6⟩ := hc.get h2
   refine ⟨u, ?_, h6⟩
   have hcell : E.w.cell? ⟨b, q, none⟩ = some u := by rw [cell_heap hh]; simpa using h4
   simp [execOp, ho, hu, Instr.loadAt, Instr.sureAddr, run_load_one h1 hcell]
  ·have hc' := (hc.sub q z).vals
   simp only [Nat.zero_add] at hc'
   have hl : ((cs.drop q).take z).length = z := by simp; omega
   rw [hl] at hc'
   refine ⟨.agg ((us.toList.drop q).take z).toArray, ?_, ?_⟩
   ·have := run_load_agg h1 h2 hc'.2 (w := E.w) (rangeAt_list (b := b) (fun j u hj => by rw [cell_heap hh]; simpa using hj) q z)
    simp only [execOp, ho, hu, Instr.loadAt, Instr.sureAddr, Sem.run_bind, Sem.run_pure, Result.andThen_ok, this]
   ·simp only [RelV]; exact ⟨_, rfl, hc'.1⟩
theorem eff_load_ep {o : Oper} {t : S} {ty : TypeId} {x : Operand} {e : List D} {q : Nat} {v : TV} (ho : o.op = .load ty x) (hx : ev t x = .ep e q)
  (h : (shp P ty = some false ∧ ∃ y, e[q]? = some y ∧ v = .d y) ∨ (∃ z, shp P ty = some true ∧ szO P ty = some z ∧ q + z ≤ e.length ∧ v = .agg (((e.drop q).take z).map .d))) :
  EffOK P A o t ⟨True, pl x, [], v⟩ :=
 .pure fun _ t' hr a E hi => by
  have hx' := ev_rel hi x
  rw [ev_eq hr, hx] at hx'
  simp only [RelV] at hx'
  obtain ⟨b, of, hu, hc⟩ := hx'
  rcases h with ⟨h1, y, h2, rfl⟩ | ⟨z, h1, h2, h3, rfl⟩
  ·obtain ⟨_, u, h4, h5⟩ := hc.get h2
   refine ⟨u, ?_, ?_⟩
   ·simp [execOp, ho, hu, Instr.loadAt, Instr.sureAddr, run_load_one h1 h4]
   ·simp only [RelV]; exact h5
  ·obtain ⟨us, h4, h5, h6⟩ := (hc.sub q z).range
   have hl : us.length = z := by rw [h4]; simp; omega
   refine ⟨.agg us.toArray, ?_, ?_⟩
   ·simp only [execOp, ho, hu, Instr.loadAt, Instr.sureAddr, Sem.run_bind, Sem.run_pure, Result.andThen_ok, run_load_agg h1 h2 hl h5]
   ·simp only [RelV]; exact ⟨_, rfl, h6⟩
theorem eff_load_row {o : Oper} {t : S} {ty : TypeId} {x : Operand} {id n i q k : Nat} {e : TypeId} {es : List (List TV)} {sh : Bool} {v : TV} (ho : o.op = .load ty x) (hx : ev t x = .eptr id n i q) (ht : t (.o id) = .row e k es sh)
  (h : (shp P ty = some false ∧ (es.getD i [])[q]? = some v) ∨ (∃ z, shp P ty = some true ∧ szO P ty = some z ∧ q + z ≤ (es.getD i []).length ∧ v = .agg (((es.getD i []).drop q).take z))) :
  EffOK P A o t ⟨n = es.length ∧ i < es.length, pl x ++ [.o id], [], v⟩ :=
 .pure fun ⟨hn, hil⟩ t' hr a E hi => by
  have hx' := ev_rel hi x
  rw [ev_eq (pl_left hr), hx] at hx'
  have ht' : t' (.o id) = .row e k es sh := (pl_right hr _ (by simp)).trans ht
  subst hn
  obtain ⟨g, cap, us, h1, hu, h2, h3⟩ := eptr_cur hi ht' hx'
  have hg : es[i]? = some (es.getD i []) := by simp [List.getD, hil]
  obtain ⟨h4, h5⟩ := h3.get hg
  simp only [Nat.zero_add] at h5
  have hcell : ∀ j u, us[j]? = some u → E.w.cell? ⟨g, j, none⟩ = some u := fun j u hj => by
   rw [h2.cellAt j (by rw [← h2.1]; exact (List.getElem?_eq_some_iff.1 hj).1)]; exact hj
  rcases h with ⟨h6, h7⟩ | ⟨z, h6, h7, h8, rfl⟩
  ·obtain ⟨u, h8, h9, h10⟩ := h5.get h7
   refine ⟨u, ?_, h10⟩
   simp [execOp, ho, hu, Instr.loadAt, Instr.sureAddr, run_load_one h6 (hcell _ _ h8)]
  ·have hc' := (h5.sub q z).vals
   have hl : (((es.getD i []).drop q).take z).length = z := by simp at h8 ⊢; omega
   rw [hl] at hc'
   refine ⟨.agg ((us.drop (i * k + q)).take z).toArray, ?_, ?_⟩
   ·simp only [execOp, ho, hu, Instr.loadAt, Instr.sureAddr, Sem.run_bind, Sem.run_pure, Result.andThen_ok, run_load_agg h6 h7 hc'.2 (rangeAt_list hcell _ z)]
   ·simp only [RelV]; exact ⟨_, rfl, hc'.1⟩
theorem eff_len_sl {o : Oper} {t : S} {x : Operand} {ty e : TypeId} {xs : List (List D)} (ho : o.op = .call { callee := .builtin .len, args := #[x], argTypes := #[ty] }) (he : slE P ty = some e) (hx : ev t x = .d (.sl xs)) :
  EffOK P A o t ⟨True, pl x, [], .d (.int .i64 xs.length)⟩ :=
 .pure fun _ t' hr a E hi => by
  have hx' := ev_rel hi x
  rw [ev_eq hr, hx] at hx'
  simp only [RelV, Rep] at hx'
  unfold slE at he
  split at he
  ·rename_i e' hu
   have hlen : ∃ ad c, a.eval x = .slice ad xs.length c := by
    rcases hx' with ⟨h0, ad, c, h⟩ | ⟨b, of, c, k, h, _⟩
    ·exact ⟨ad, c, by rw [h, h0]⟩
    ·exact ⟨_, c, h⟩
   obtain ⟨ad, c, h⟩ := hlen
   refine ⟨_, ?_, rfl⟩
   simp [execOp, ho, resolve, invoke, builtin, h, Builtin.len_, run_underlying hu, goInt]
  ·simp at he
theorem eff_len_nil {o : Oper} {t : S} {x : Operand} {ty e : TypeId} {ad : Option Addr} {n c : Nat} (ho : o.op = .call { callee := .builtin .len, args := #[x], argTypes := #[ty] }) (he : slE P ty = some e) (hx : ev t x = .c (.slice ad n c)) :
  EffOK P A o t ⟨True, pl x, [], .d (.int .i64 n)⟩ :=
 .pure fun _ t' hr a E hi => by
  have hx' := ev_rel hi x
  rw [ev_eq hr, hx] at hx'
  simp only [RelV] at hx'
  unfold slE at he
  split at he
  ·rename_i e' hu
   refine ⟨_, ?_, rfl⟩
   simp [execOp, ho, resolve, invoke, builtin, hx', Builtin.len_, run_underlying hu, goInt]
  ·simp at he
theorem eff_len_row {o : Oper} {t : S} {x : Operand} {ty e : TypeId} {id n k : Nat} {e' : TypeId} {es : List (List TV)} {sh : Bool} (ho : o.op = .call { callee := .builtin .len, args := #[x], argTypes := #[ty] }) (he : slE P ty = some e) (hx : ev t x = .oref id n)
  (ht : t (.o id) = .row e' k es sh) : EffOK P A o t ⟨n = es.length, pl x ++ [.o id], [], .d (.int .i64 n)⟩ :=
 .pure fun hC t' hr a E hi => by
  have hx' := ev_rel hi x
  rw [ev_eq (pl_left hr), hx] at hx'
  have ht' : t' (.o id) = .row e' k es sh := (pl_right hr _ (by simp)).trans ht
  subst hC
  obtain ⟨_, v, us, h2, h3, h4, h5⟩ := row_cur hi ht'
  have hv := h5 _ hx'
  unfold slE at he
  split at he
  ·rename_i e' hu
   have hlen : ∃ ad c, a.eval x = .slice ad es.length c := by
    rcases h3.2 with ⟨rfl, h0⟩ | ⟨g, cap, cur, rfl, _⟩
    ·exact ⟨none, 0, by rw [hv, h0]⟩
    ·exact ⟨_, cap, hv⟩
   obtain ⟨ad, c, h⟩ := hlen
   refine ⟨_, ?_, rfl⟩
   simp [execOp, ho, resolve, invoke, builtin, h, Builtin.len_, run_underlying hu, goInt]
  ·simp at he
theorem eff_len_str {o : Oper} {t : S} {x : Operand} {ty : TypeId} {s : ByteArray} (ho : o.op = .call { callee := .builtin .len, args := #[x], argTypes := #[ty] }) (he : isStr P ty = true) (hx : ev t x = .d (.str s)) :
  EffOK P A o t ⟨True, pl x, [], .d (.int .i64 s.size)⟩ :=
 .pure fun _ t' hr a E hi => by
  have hx' := ev_rel hi x
  rw [ev_eq hr, hx] at hx'
  simp only [RelV, Rep] at hx'
  unfold isStr at he
  split at he
  ·rename_i hu
   refine ⟨_, ?_, rfl⟩
   simp [execOp, ho, resolve, invoke, builtin, hx', Builtin.len_, run_underlying hu, goInt]
  ·simp at he
end
end Go.Tr

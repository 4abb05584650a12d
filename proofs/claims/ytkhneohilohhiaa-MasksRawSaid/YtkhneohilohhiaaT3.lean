/-
  Laws of the layer between the model and plain data (states, operations, calls, loops); none has a condition beyond those that stand in its own statement.
-/
import Derived.Test.YtkhneohilohhiaaT2
import Derived.Laws.StructEq
set_option linter.unusedSimpArgs false
namespace Go.Tr
open Go

/- what is asked of the program's table of types -/
def shp (P : Program) (t : TypeId) : Option Bool := (P.underlying t).map fun | .struct _ | .array _ _ => true | _ => false
def fld (P : Program) (t : TypeId) (f : Nat) : Option (Nat × TypeId) := match P.underlying t with | some (.struct fs) => (fs[f]?).map fun f => (f.offset, f.type) | _ => none
def slE (P : Program) (t : TypeId) : Option TypeId := match P.underlying t with | some (.slice e) => some e | _ => none
def arE (P : Program) (t : TypeId) : Option (Nat × TypeId) := match P.underlying t with | some (.array n e) => some (n, e) | _ => none
def szO (P : Program) (t : TypeId) : Option Nat := (P.info? t).map (·.size)
def byO (P : Program) (t : TypeId) : Option Nat := (P.info? t).map (·.bytes)
def zrO (P : Program) (t : TypeId) : Option Value := (P.info? t).bind (·.zero)
def knd (P : Program) (t : TypeId) : Option IntKind := match P.underlying t with | some (.int k) => some k | _ => none
def isStr (P : Program) (t : TypeId) : Bool := match P.underlying t with | some .string => true | _ => false

def ofCell : Value → TV
  | .int k n => .d (.int k n)
  | .bool b => .d (.bool b)
  | .string s => .d (.str s)
  | v => .c v

def ofVal : Value → TV
  | .agg cs => .agg (cs.toList.map ofCell)
  | v => ofCell v

theorem ofCell_rel (E : En) (v : Value) : RelV E (ofCell v) v := by
  unfold ofCell
  split <;> simp only [RelV, Rep]

theorem ofCells_rel (E : En) : ∀ vs : List Value, RelVs E (vs.map ofCell) vs
  | [] => by simp only [List.map_nil, RelVs]
  | v :: vs => by simp only [List.map_cons, RelVs]; exact ⟨v, vs, rfl, ofCell_rel E v, ofCells_rel E vs⟩

theorem ofVal_rel (E : En) (v : Value) : RelV E (ofVal v) v := by
  unfold ofVal
  split
  · simp only [RelV]; exact ⟨_, rfl, ofCells_rel E _⟩
  · exact ofCell_rel E _

def ev (t : S) : Operand → TV
  | .tmp k => match t (.s k) with | .v x => x | _ => .junk
  | .const v => ofVal v
  | .func f => .clo f []
  | .global _ => .junk

def pl : Operand → List Pl
  | .tmp k => [.s k]
  | _ => []

theorem ev_rel {A : Actv} {t : S} {a : Act} {E : En} (h : InvE A t a E) (x : Operand) : RelV E (ev t x) (a.eval x) := by
  cases x with
  | tmp k =>
    simp only [ev]
    split
    · rename_i tv ht
      obtain ⟨u, hu, hr⟩ := h.sl k tv ht
      simpa only [Act.eval, Array.getD_eq_getD_getElem?, hu, Option.getD_some] using hr
    · simp only [RelV]
  | const v => exact ofVal_rel E v
  | global g => simp only [ev, RelV]
  | func f => simp only [ev, RelV, RelVs, Act.eval]; exact ⟨#[], rfl, rfl⟩

theorem ev_eq {t t' : S} {x : Operand} (h : ∀ p ∈ pl x, t' p = t p) : ev t' x = ev t x := by
  cases x <;> simp only [ev]
  rename_i k
  rw [h (.s k) (by simp [pl])]

structure Eff where
  C : Prop
  rp : List Pl
  W : List (Pl × It)
  v : TV

def IsNx (nx : Next) (u : Value) : Prop := nx = .value u ∨ (nx = .skip ∧ u = undef)

/-- The effect of an operation, from every state that agrees with t on what is read. -/
def EffOK (P : Program) (A : Actv) (o : Oper) (t : S) (e : Eff) : Prop :=
  e.C → ∀ t', (∀ p ∈ e.rp, t' p = t p) → ∀ a E, InvE A t' a E →
    ∃ nx u E', (execOp a.eval o).run P E.w = .ok nx E'.w ∧ IsNx nx u ∧ InvE A (over t' e.W) a E' ∧ RelV E' e.v u

/-- An operation that only computes. -/
theorem EffOK.pure {P : Program} {A : Actv} {o : Oper} {t : S} {C : Prop} {rp : List Pl} {v : TV}
    (h : C → ∀ t', (∀ p ∈ rp, t' p = t p) → ∀ a E, InvE A t' a E → ∃ u, (execOp a.eval o).run P E.w = .ok (.value u) E.w ∧ RelV E v u) :
    EffOK P A o t ⟨C, rp, [], v⟩ := fun hC t' hr a E hi => by
  obtain ⟨u, h1, h2⟩ := h hC t' hr a E hi
  exact ⟨_, u, E, h1, .inl rfl, hi, h2⟩

theorem pl_left {l r : List Pl} {t t' : S} (h : ∀ p ∈ l ++ r, t' p = t p) : ∀ p ∈ l, t' p = t p := fun p hp => h p (List.mem_append_left _ hp)
theorem pl_right {l r : List Pl} {t t' : S} (h : ∀ p ∈ l ++ r, t' p = t p) : ∀ p ∈ r, t' p = t p := fun p hp => h p (List.mem_append_right _ hp)

/-- The cells of a value. -/
def TV.cells : TV → List TV
  | .agg vs => vs
  | v => [v]

def andI (k : IntKind) (a b : Int) : Int := k.wrap (BitVec.ofInt k.bits a &&& BitVec.ofInt k.bits b).toNat
def orI (k : IntKind) (a b : Int) : Int := k.wrap (BitVec.ofInt k.bits a ||| BitVec.ofInt k.bits b).toNat
def xorI (k : IntKind) (a b : Int) : Int := k.wrap (BitVec.ofInt k.bits a ^^^ BitVec.ofInt k.bits b).toNat
def andNotI (k : IntKind) (a b : Int) : Int := k.wrap (BitVec.ofInt k.bits a &&& ~~~ BitVec.ofInt k.bits b).toNat
def notI (k : IntKind) (n : Int) : Int := k.wrap (BitVec.ofInt k.bits (if k.signed then -1 else k.max) ^^^ BitVec.ofInt k.bits n).toNat
def shlI (k : IntKind) (a b : Int) : Int := k.wrap (a * 2 ^ (min b.toNat k.bits))
def shrI (k : IntKind) (a b : Int) : Int := a.fdiv (2 ^ (min b.toNat k.bits))

def binI (op : BinOp) (k : IntKind) (a b : Int) : Option (Prop × TV) :=
  match op with
  | .add => some (True, .d (.int k (k.wrap (a + b))))
  | .sub => some (True, .d (.int k (k.wrap (a - b))))
  | .mul => some (True, .d (.int k (k.wrap (a * b))))
  | .quo => some (b ≠ 0, .d (.int k (k.wrap (a.tdiv b))))
  | .rem => some (b ≠ 0, .d (.int k (a.tmod b)))
  | .and => some (True, .d (.int k (andI k a b)))
  | .or => some (True, .d (.int k (orI k a b)))
  | .xor => some (True, .d (.int k (xorI k a b)))
  | .andNot => some (True, .d (.int k (andNotI k a b)))
  | .eql => some (True, .d (.bool (a == b)))
  | .neq => some (True, .d (.bool (a != b)))
  | .lss => some (True, .d (.bool (a < b)))
  | .leq => some (True, .d (.bool (a ≤ b)))
  | .gtr => some (True, .d (.bool (a > b)))
  | .geq => some (True, .d (.bool (a ≥ b)))
  | _ => none

def binS (op : BinOp) (k : IntKind) (a b : Int) : Option (Prop × TV) :=
  match op with
  | .shl => some (0 ≤ b, .d (.int k (shlI k a b)))
  | .shr => some (0 ≤ b, .d (.int k (shrI k a b)))
  | _ => none

def binStr (op : BinOp) (a b : ByteArray) : Option (Prop × TV) :=
  match op with
  | .add => some (a.size + b.size ≤ 9223372036854775807, .d (.str (a ++ b)))
  | .eql => some (True, .d (.bool (a.toList == b.toList)))
  | .neq => some (True, .d (.bool (!(a.toList == b.toList))))
  | .lss => some (True, .d (.bool (Op.bytesLess a.toList b.toList)))
  | .gtr => some (True, .d (.bool (!(Op.bytesLess a.toList b.toList || a.toList == b.toList))))
  | .leq => some (True, .d (.bool (Op.bytesLess a.toList b.toList || a.toList == b.toList)))
  | .geq => some (True, .d (.bool (!Op.bytesLess a.toList b.toList)))
  | _ => none

def isShift : BinOp → Bool
  | .shl | .shr => true
  | _ => false

/-- x op y, on plain values -/
def binD (P : Program) (op : BinOp) (ty : TypeId) : TV → TV → Option (Prop × TV)
  | .d (.int k a), .d (.int k' b) => if isShift op then binS op k a b else if k = k' then binI op k a b else none
  | .d (.str a), .d (.str b) => binStr op a b
  | .d (.bool a), .d (.bool b) => match P.underlying ty, op with
    | some .bool, .eql => some (True, .d (.bool (a == b)))
    | some .bool, .neq => some (True, .d (.bool (!(a == b))))
    | _, _ => none
  | .d (.sl xs), .c (.slice none 0 0) => match P.underlying ty, op with
    | some (.slice _), .eql => some (0 < xs.length, .d (.bool false))
    | some (.slice _), .neq => some (0 < xs.length, .d (.bool true))
    | _, _ => none
  | .c (.slice a _ _), .c (.slice none 0 0) => match P.underlying ty, op with
    | some (.slice _), .eql => some (True, .d (.bool a.isNone))
    | some (.slice _), .neq => some (True, .d (.bool (!a.isNone)))
    | _, _ => none
  | _, _ => none

theorem run_equal_nil {P : Program} {ty e : TypeId} (h : P.underlying ty = some (.slice e)) (a : Option Addr) (n c m d k : Nat) (w : World) : (Op.equalIn (k + 1) ty (.slice a n c) (.slice none m d)).run P w = .ok a.isNone w := by
  cases a <;> simp [Op.equalIn, Sem.run_bind, run_underlying h]

theorem binD_ok {P : Program} {op : BinOp} {ty : TypeId} {x y v : TV} {C : Prop} (h : binD P op ty x y = some (C, v)) (hC : C) {E : En} {u u' : Value} (hx : RelV E x u) (hy : RelV E y u')
    (xo yo : Operand) (w : World) : ∃ r, ((do eqGuard op ty xo yo u u'; binOp op ty u u' : Sem Value)).run P w = .ok r w ∧ RelV E v r := by
  unfold binD at h
  split at h
  · rename_i k a k' b
    simp only [RelV, Rep] at hx hy
    subst hx; subst hy
    rw [eqGuard_at_int]
    split at h
    · rename_i hs
      cases op <;> first
        | (simp only [isShift, Bool.false_eq_true] at hs; done)
        | (simp only [binS, Option.some.injEq, Prod.mk.injEq] at h
           obtain ⟨rfl, rfl⟩ := h
           simp [binOp, Op.shift, show ¬ b < 0 by omega, RelV, Rep, shlI, shrI])
    · rename_i hs
      split at h
      · rename_i hk
        subst hk
        cases op <;> first
          | (simp only [isShift, not_true_eq_false] at hs; done)
          | (simp only [binI, Option.some.injEq, Prod.mk.injEq] at h
             obtain ⟨rfl, rfl⟩ := h
             simp [binOp, Op.intArith, Op.intDiv, Op.intBits, Op.intCmp, RelV, Rep, andI, orI, xorI, andNotI]
             done)
          | (simp only [binI, Option.some.injEq, Prod.mk.injEq] at h
             obtain ⟨rfl, rfl⟩ := h
             simp [binOp, Op.intArith, Op.intDiv, Op.intBits, Op.intCmp, RelV, Rep, hC])
      · simp at h
  · rename_i a b
    simp only [RelV, Rep] at hx hy
    subst hx; subst hy
    rw [eqGuard_at_string]
    cases op <;> first
      | (simp only [binStr, reduceCtorEq] at h; done)
      | (simp only [binStr, Option.some.injEq, Prod.mk.injEq] at h
         obtain ⟨rfl, rfl⟩ := h
         simp [binOp, Op.stringOp, RelV, Rep]
         done)
      | (simp only [binStr, Option.some.injEq, Prod.mk.injEq] at h
         obtain ⟨rfl, rfl⟩ := h
         have h1 : ¬ (9223372036854775807 < (a.size : Int) + (b.size : Int)) := by omega
         simp [binOp, Op.stringOp, RelV, Rep, h1])
  · rename_i a b
    simp only [RelV, Rep] at hx hy
    subst hx; subst hy
    rw [eqGuard_at_bool]
    split at h
    · rename_i hu
      simp only [Option.some.injEq, Prod.mk.injEq] at h
      obtain ⟨rfl, rfl⟩ := h
      have hb := run_equalIn_bool (P := P) w 9999 ty a b hu
      simp only [binOp, Op.equal, Op.maxDepth, Sem.run_bind, Sem.run_pure, Result.andThen_ok, hb, Result.ok.injEq, and_true, exists_eq_left', RelV, Rep]
    · rename_i hu
      simp only [Option.some.injEq, Prod.mk.injEq] at h
      obtain ⟨rfl, rfl⟩ := h
      have hb := run_equalIn_bool (P := P) w 9999 ty a b hu
      simp only [binOp, Op.equal, Op.maxDepth, Sem.run_bind, Sem.run_pure, Result.andThen_ok, hb, Result.ok.injEq, and_true, exists_eq_left', RelV, Rep]
    · simp at h
  · rename_i xs
    simp only [RelV, Rep] at hx hy
    subst hy
    split at h
    all_goals first
      | (simp at h; done)
      | (rename_i hu
         simp only [Option.some.injEq, Prod.mk.injEq] at h
         obtain ⟨rfl, rfl⟩ := h
         rcases hx with ⟨h0, _⟩ | ⟨b, o, c, k, rfl, _⟩
         · omega
         · have hb := run_equal_nil hu (some ⟨b, o, none⟩) xs.length c 0 0 9999 w
           rw [eqGuard_at_slice]
           simp only [binOp, Op.equal, Op.maxDepth, Sem.run_bind, Sem.run_pure, Result.andThen_ok, hb, Result.ok.injEq, and_true, exists_eq_left', RelV, Rep]
           rfl)
  · rename_i a n c
    simp only [RelV] at hx hy
    subst hx; subst hy
    split at h
    all_goals first
      | (simp at h; done)
      | (rename_i hu
         simp only [Option.some.injEq, Prod.mk.injEq] at h
         obtain ⟨rfl, rfl⟩ := h
         have hb := run_equal_nil hu a n c 0 0 9999 w
         rw [eqGuard_at_slice]
         simp only [binOp, Op.equal, Op.maxDepth, Sem.run_bind, Sem.run_pure, Result.andThen_ok, hb, Result.ok.injEq, and_true, exists_eq_left', RelV, Rep])
  · simp at h

end Go.Tr

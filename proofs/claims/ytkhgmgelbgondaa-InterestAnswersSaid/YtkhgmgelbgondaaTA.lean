/-
  Laws of the layer between the model and plain data (states, operations, calls, loops); none has a condition beyond those that stand in its own statement.
-/
import Derived.Orders
import Derived.Below
import Derived.Tactics
import Derived.MapKept
import Derived.Maps.AppendAt
import Derived.Laws.OwnMore
import Derived.Laws.StructEq
import Derived.Deep.MidRow
namespace Go.Tr
open Go

/-- Plain data. -/
inductive D where
  | int (k : IntKind) (n : Int)
  | bool (b : Bool)
  | str (s : ByteArray)
  | sl (xs : List (List D))

/-- The package-level variables that the program reads, and what they hold. -/
def globs : List (Nat × List D) := []
end Go.Tr

namespace Go.Tr
open Go

/-- Places of an abstract state: slots, objects of the activation, objects that came in. -/
inductive Pl where
  | s (k : Nat)
  | o (k : Nat)
  | x (k : Nat)
  deriving DecidableEq

inductive TV where
  | junk
  | d (x : D)
  | c (v : Value)
  | agg (vs : List TV)
  | tup (vs : List TV)
  | oref (id n : Nat)
  | ptr (p : Pl) (off : Nat)
  | ep (e : List D) (off : Nat)
  | eptr (id n i off : Nat)
  | clo (f : FuncId) (caps : List TV)
  | mref (id : Nat)
  | sx (xs : List (List D))

inductive It where
  | none
  | v (t : TV)
  | box (cs : List TV)
  | row (e : TypeId) (k : Nat) (es : List (List TV)) (sh : Bool)
  | mp (es : List (Int × D))

abbrev S := Pl → It

structure En where
  w : World
  St : Nat → Nat → Prop
  blk : Pl → Option Nat
  val : Nat → Option (Nat × Nat × Value)

mutual
def Rep (E : En) : D → Value → Prop
  | .int k n, u => u = .int k n
  | .bool b, u => u = .bool b
  | .str s, u => u = .string s
  | .sl xs, u => (xs.length = 0 ∧ ∃ a c, u = .slice a 0 c) ∨ ∃ b o c k, u = .slice (some ⟨b, o, none⟩) xs.length c ∧ xs.length ≤ c ∧ RepRows E b k o xs
def RepRows (E : En) (b k : Nat) : Nat → List (List D) → Prop
  | _, [] => True
  | o, e :: es => e.length = k ∧ RepCells E b o e ∧ RepRows E b k (o + k) es
def RepCells (E : En) (b : Nat) : Nat → List D → Prop
  | _, [] => True
  | o, x :: ds => (E.St b o ∧ ∃ u, E.w.cell? ⟨b, o, none⟩ = some u ∧ Rep E x u) ∧ RepCells E b (o + 1) ds
end

mutual
def RelV (E : En) : TV → Value → Prop
  | .junk, _ => True
  | .d x, u => Rep E x u
  | .c v, u => u = v
  | .agg vs, u => ∃ us : Array Value, u = .agg us ∧ RelVs E vs us.toList
  | .tup vs, u => ∃ us : Array Value, u = .tuple us ∧ RelVs E vs us.toList
  | .oref id n, u => u.oneCell' = true ∧ ∃ k c v, E.val id = some (k, c, v) ∧ n ≤ c ∧ (n = c → u = v)
  | .ptr p off, u => ∃ b, E.blk p = some b ∧ u = .pointer (some ⟨b, off, none⟩)
  | .ep e off, u => ∃ b o, u = .pointer (some ⟨b, o + off, none⟩) ∧ RepCells E b o e
  | .eptr id n i off, u => u.oneCell' = true ∧ ∃ k c v, E.val id = some (k, c, v) ∧ n ≤ c ∧
      (n = c → ∃ b o cp, v = .slice (some ⟨b, o, none⟩) c cp ∧ u = .pointer (some ⟨b, o + i * k + off, none⟩))
  | .clo f caps, u => ∃ us : Array Value, u = .func (.func f) #[] us ∧ RelVs E caps us.toList
  | .mref id, u => ∃ b, E.blk (.o id) = some b ∧ u = .map (some b)
  | .sx xs, u => Rep E (.sl xs) u ∧ ∃ ad, u = .slice ad xs.length xs.length
def RelVs (E : En) : List TV → List Value → Prop
  | [], us => us = []
  | v :: vs, us => ∃ u us', us = u :: us' ∧ RelV E v u ∧ RelVs E vs us'
end

mutual
/-- All objects that a value mentions lie in 'po'. -/
def TV.only (po : Nat → Prop) : TV → Prop
  | .agg vs | .tup vs | .clo _ vs => TV.onlys po vs
  | .oref id _ | .eptr id _ _ _ | .mref id => po id
  | .ptr (.o id) _ => po id
  | _ => True
def TV.onlys (po : Nat → Prop) : List TV → Prop
  | [] => True
  | v :: vs => v.only po ∧ TV.onlys po vs
end

/-- E' knows of the objects in 'po' at least what E knows. -/
structure Ext (po : Nat → Prop) (E E' : En) : Prop where
  st : ∀ b o, E.St b o → E'.St b o
  cell : ∀ b o, E.St b o → E'.w.cell? ⟨b, o, none⟩ = E.w.cell? ⟨b, o, none⟩
  blko : ∀ id b, po id → E.blk (.o id) = some b → E'.blk (.o id) = some b
  blkx : ∀ i b, E.blk (.x i) = some b → E'.blk (.x i) = some b
  blks : ∀ i b, E.blk (.s i) = some b → E'.blk (.s i) = some b
  val : ∀ id k c v, po id → E.val id = some (k, c, v) → ∃ c' v', E'.val id = some (k, c', v') ∧ c ≤ c' ∧ (c = c' → v' = v)

theorem Ext.refl (po : Nat → Prop) (E : En) : Ext po E E :=
  ⟨fun _ _ h => h, fun _ _ _ => rfl, fun _ _ _ h => h, fun _ _ h => h, fun _ _ h => h, fun _ _ c v _ h => ⟨c, v, h, Nat.le_refl _, fun _ => rfl⟩⟩

theorem Ext.trans {po : Nat → Prop} {A B C : En} (h : Ext po A B) (g : Ext po B C) : Ext po A C :=
  ⟨fun b o x => g.st _ _ (h.st _ _ x), fun b o x => (g.cell _ _ (h.st _ _ x)).trans (h.cell _ _ x), fun id b p x => g.blko _ _ p (h.blko _ _ p x),
    fun i b x => g.blkx _ _ (h.blkx _ _ x), fun i b x => g.blks _ _ (h.blks _ _ x), fun id k c v p x => by
      obtain ⟨c', v', h1, h2, h3⟩ := h.val _ _ _ _ p x
      obtain ⟨c'', v'', g1, g2, g3⟩ := g.val _ _ _ _ p h1
      exact ⟨c'', v'', g1, Nat.le_trans h2 g2, fun e => by rw [g3 (by omega), h3 (by omega)]⟩⟩

/-- What was stable is stable still, and reads as it did. -/
structure ExtR (E E' : En) : Prop where
  st : ∀ b o, E.St b o → E'.St b o
  cell : ∀ b o, E.St b o → E'.w.cell? ⟨b, o, none⟩ = E.w.cell? ⟨b, o, none⟩

theorem Ext.r {po : Nat → Prop} {E E' : En} (h : Ext po E E') : ExtR E E' := ⟨h.st, h.cell⟩

mutual
theorem Rep.ext {E E' : En} (h : ExtR E E') : ∀ (x : D) (u : Value), Rep E x u → Rep E' x u
  | .int k n, u, r => by simpa only [Rep] using r
  | .bool b, u, r => by simpa only [Rep] using r
  | .str s, u, r => by simpa only [Rep] using r
  | .sl xs, u, r => by
    simp only [Rep] at r ⊢
    rcases r with r | ⟨b, o, c, k, hu, hc, hr⟩
    · exact .inl r
    · exact .inr ⟨b, o, c, k, hu, hc, RepRows.ext h b k o xs hr⟩
theorem RepRows.ext {E E' : En} (h : ExtR E E') (b k : Nat) : ∀ (o : Nat) (xs : List (List D)), RepRows E b k o xs → RepRows E' b k o xs
  | _, [], _ => by simp only [RepRows]
  | o, e :: es, r => by
    simp only [RepRows] at r ⊢
    exact ⟨r.1, RepCells.ext h b o e r.2.1, RepRows.ext h b k (o + k) es r.2.2⟩
theorem RepCells.ext {E E' : En} (h : ExtR E E') (b : Nat) : ∀ (o : Nat) (xs : List D), RepCells E b o xs → RepCells E' b o xs
  | _, [], _ => by simp only [RepCells]
  | o, x :: ds, r => by
    simp only [RepCells] at r ⊢
    obtain ⟨⟨hs, u, hc, hr⟩, r2⟩ := r
    exact ⟨⟨h.st _ _ hs, u, (h.cell _ _ hs).trans hc, Rep.ext h x u hr⟩, RepCells.ext h b (o + 1) ds r2⟩
end

mutual
theorem RelV.ext {po : Nat → Prop} {E E' : En} (h : Ext po E E') : ∀ (t : TV) (u : Value), t.only po → RelV E t u → RelV E' t u
  | .junk, _, _, _ => by simp only [RelV]
  | .d x, u, _, r => by
    simp only [RelV] at r ⊢
    exact Rep.ext h.r x u r
  | .c v, u, _, r => by simpa only [RelV] using r
  | .agg vs, u, p, r => by
    simp only [RelV, TV.only] at r p ⊢
    obtain ⟨us, hu, hr⟩ := r
    exact ⟨us, hu, RelVs.ext h vs _ p hr⟩
  | .tup vs, u, p, r => by
    simp only [RelV, TV.only] at r p ⊢
    obtain ⟨us, hu, hr⟩ := r
    exact ⟨us, hu, RelVs.ext h vs _ p hr⟩
  | .oref id n, u, p, r => by
    simp only [RelV, TV.only] at r p ⊢
    obtain ⟨h1, k, c, v, hv, hn, hu⟩ := r
    obtain ⟨c', v', hv', hle, he⟩ := h.val id k c v p hv
    exact ⟨h1, k, c', v', hv', by omega, fun e => by rw [he (by omega)]; exact hu (by omega)⟩
  | .ptr (.o id) off, u, p, r => by
    simp only [RelV, TV.only] at r p ⊢
    obtain ⟨b, hb, hu⟩ := r
    exact ⟨b, h.blko _ _ p hb, hu⟩
  | .ptr (.x id) off, u, p, r => by
    simp only [RelV] at r ⊢
    obtain ⟨b, hb, hu⟩ := r
    exact ⟨b, h.blkx _ _ hb, hu⟩
  | .ptr (.s id) off, u, p, r => by
    simp only [RelV] at r ⊢
    obtain ⟨b, hb, hu⟩ := r
    exact ⟨b, h.blks _ _ hb, hu⟩
  | .ep e off, u, _, r => by
    simp only [RelV] at r ⊢
    obtain ⟨b, o, hu, hr⟩ := r
    exact ⟨b, o, hu, RepCells.ext h.r b o e hr⟩
  | .eptr id n i off, u, p, r => by
    simp only [RelV, TV.only] at r p ⊢
    obtain ⟨h1, k, c, v, hv, hn, hu⟩ := r
    obtain ⟨c', v', hv', hle, he⟩ := h.val id k c v p hv
    refine ⟨h1, k, c', v', hv', by omega, fun e => ?_⟩
    have hcc : c = c' := by omega
    rw [he hcc, ← hcc]
    exact hu (by omega)
  | .clo f caps, u, p, r => by
    simp only [RelV, TV.only] at r p ⊢
    obtain ⟨us, hu, hr⟩ := r
    exact ⟨us, hu, RelVs.ext h caps _ p hr⟩
  | .mref id, u, p, r => by
    simp only [RelV, TV.only] at r p ⊢
    obtain ⟨b, hb, hu⟩ := r
    exact ⟨b, h.blko _ _ p hb, hu⟩
  | .sx xs, u, _, r => by
    simp only [RelV] at r ⊢
    exact ⟨Rep.ext h.r (.sl xs) u r.1, r.2⟩
theorem RelVs.ext {po : Nat → Prop} {E E' : En} (h : Ext po E E') : ∀ (ts : List TV) (us : List Value), TV.onlys po ts → RelVs E ts us → RelVs E' ts us
  | [], us, _, r => by simpa only [RelVs] using r
  | t :: ts, us, p, r => by
    simp only [RelVs, TV.onlys] at r p ⊢
    obtain ⟨u, us', hu, h1, h2⟩ := r
    exact ⟨u, us', hu, RelV.ext h t u p.1 h1, RelVs.ext h ts us' p.2 h2⟩
end

mutual
theorem TV.only_true : ∀ t : TV, t.only (fun _ => True)
  | .junk => by simp only [TV.only]
  | .d x => by simp only [TV.only]
  | .c v => by simp only [TV.only]
  | .agg vs => by simp only [TV.only]; exact TV.onlys_true vs
  | .tup vs => by simp only [TV.only]; exact TV.onlys_true vs
  | .oref id n => by simp only [TV.only]
  | .ptr (.o id) off => by simp only [TV.only]
  | .ptr (.x id) off => by simp only [TV.only]
  | .ptr (.s id) off => by simp only [TV.only]
  | .ep e off => by simp only [TV.only]
  | .eptr id n i off => by simp only [TV.only]
  | .clo f caps => by simp only [TV.only]; exact TV.onlys_true caps
  | .mref id => by simp only [TV.only]
  | .sx xs => by simp only [TV.only]
theorem TV.onlys_true : ∀ ts : List TV, TV.onlys (fun _ => True) ts
  | [] => by simp only [TV.onlys]
  | t :: ts => by simp only [TV.onlys]; exact ⟨TV.only_true t, TV.onlys_true ts⟩
end

abbrev ExtA := Ext (fun _ => True)

theorem RelV.up {E E' : En} {t : TV} {u : Value} (r : RelV E t u) (h : ExtA E E') : RelV E' t u := RelV.ext h t u (TV.only_true t) r
theorem RelVs.up {E E' : En} {t : List TV} {u : List Value} (r : RelVs E t u) (h : ExtA E E') : RelVs E' t u := RelVs.ext h t u (TV.onlys_true t) r
theorem Rep.up {E E' : En} {t : D} {u : Value} (r : Rep E t u) (h : ExtA E E') : Rep E' t u := Rep.ext h.r t u r

/- rows of cells of the activation's own -/
def CellsRel (E : En) (us : List Value) : Nat → List TV → Prop
  | _, [] => True
  | o, t :: ts => (∃ u, us[o]? = some u ∧ u.oneCell' = true ∧ RelV E t u) ∧ CellsRel E us (o + 1) ts

def RowRel (E : En) (us : List Value) (k : Nat) : Nat → List (List TV) → Prop
  | _, [] => True
  | o, e :: es => e.length = k ∧ CellsRel E us o e ∧ RowRel E us k (o + k) es

/-- The block that an object of the activation lies in. -/
def En.own (E : En) (p : Pl) : Option Nat :=
  match E.blk p with
  | some b => some b
  | none => match p with
    | .o id => (E.val id).bind fun x => x.2.2.ownBlock
    | _ => none

/-- the entries of a map -/
def MapRel (E : En) : List (Int × D) → List MapEntry → Prop
  | [], l => l = []
  | (k, d) :: es, l => ∃ a l', l = a :: l' ∧ a.key = .int .i64 k ∧ a.val.oneCell' = true ∧ Rep E d a.val ∧ MapRel E es l'

theorem MapRel.ext {E E' : En} (h : ExtR E E') : ∀ {es : List (Int × D)} {l : List MapEntry}, MapRel E es l → MapRel E' es l
  | [], _, r => r
  | (_, d) :: _, _, ⟨a, l', h1, h2, h3, h4, h5⟩ => ⟨a, l', h1, h2, h3, Rep.ext h d _ h4, MapRel.ext h h5⟩

def ItemOK (E : En) (p : Pl) : It → Prop
  | .none => ∀ id, p = .o id → E.blk p = none ∧ E.val id = none
  | .v _ => E.own p = none
  | .box cs => (∀ id, p = .o id → E.val id = none) ∧ ∃ b ty us, E.blk p = some b ∧ E.w.heap[b]? = some (.cells us ty (0, 0)) ∧ us.size = cs.length ∧ CellsRel E us.toList 0 cs
  | .row e k es _ => E.blk p = none ∧ ∃ id v us, p = .o id ∧ E.val id = some (k, es.length, v) ∧ E.w.ownsRow 0 e k v es.length us ∧ RowRel E us k 0 es
  | .mp es => (∀ id, p = .o id → E.val id = none) ∧ ∃ b l clock, E.blk p = some b ∧ E.w.heap[b]? = some (.map l clock) ∧ MapRel E es l.toList ∧ MapKept.Stamped l clock

structure HInv (E : En) (H : S) : Prop where
  item : ∀ p, (∀ k, p ≠ .s k) → ItemOK E p (H p)
  frees : ∀ k, E.blk (.s k) = none
  inj : ∀ p q b, E.own p = some b → E.own q = some b → p = q
  size : ∀ p b, E.own p = some b → b < E.w.heap.size
  stsz : ∀ b o, E.St b o → b < E.w.heap.size
  sep : ∀ b o, E.St b o → ∀ p, E.own p = some b → ∃ e k es, H p = .row e k es true ∧ o < es.length * k
  gl : ∀ y ∈ globs, RepCells E y.1 0 y.2

/-- What an activation that began in E0 keeps. -/
structure Fr (E0 E : En) : Prop where
  os : E.w.os = E0.w.os
  tape : E.w.tape = E0.w.tape
  output : E.w.output = E0.w.output
  size : E0.w.heap.size ≤ E.w.heap.size
  old : ∀ b, b < E0.w.heap.size → (∀ i, E0.blk (.x i) ≠ some b) → (∀ j, E0.own (.o j) ≠ some b) → E.w.heap[b]? = E0.w.heap[b]?
  xb : ∀ i, E.blk (.x i) = E0.blk (.x i)
  new : ∀ id b, E.own (.o id) = some b → E0.w.heap.size ≤ b ∨ ∃ j, E0.own (.o j) = some b
  st : ∀ b o, E0.St b o → E.St b o
  newst : ∀ b o, E.St b o → E0.St b o ∨ (E0.w.heap.size ≤ b ∨ ∃ j, E0.own (.o j) = some b)

structure Actv where
  E0 : En
  N : Nat

structure InvE (A : Actv) (t : S) (a : Act) (E : En) : Prop where
  h : HInv E t
  fr : Fr A.E0 E
  sl : ∀ k tv, t (.s k) = .v tv → ∃ u, a.tmps[k]? = some u ∧ RelV E tv u
  defers : a.defers = []
  size : A.N ≤ a.tmps.size

def Inv (A : Actv) (t : S) (a : Act) (w : World) : Prop := ∃ E : En, E.w = w ∧ InvE A t a E

def upd (t : S) (p : Pl) (i : It) : S := fun q => if q = p then i else t q

def over (t : S) : List (Pl × It) → S
  | [] => t
  | (p, i) :: W => upd (over t W) p i

end Go.Tr

namespace Go.Tr
open Go

theorem add_lit' (b o n : Nat) : (⟨b, o, none⟩ : Addr).add n = ⟨b, o + n, none⟩ := by unfold Addr.add; split <;> simp_all

theorem CellsRel.up {E E' : En} (h : ExtA E E') {us : List Value} : ∀ {o : Nat} {ts : List TV}, CellsRel E us o ts → CellsRel E' us o ts
  | _, [], _ => trivial
  | _, _ :: _, ⟨⟨u, h1, h2, h3⟩, r⟩ => ⟨⟨u, h1, h2, h3.up h⟩, r.up h⟩

theorem RowRel.up {E E' : En} (h : ExtA E E') {us : List Value} {k : Nat} : ∀ {o : Nat} {es : List (List TV)}, RowRel E us k o es → RowRel E' us k o es
  | _, [], _ => trivial
  | _, _ :: _, ⟨h1, h2, r⟩ => ⟨h1, h2.up h, r.up h⟩

theorem CellsRel.get {E : En} {us : List Value} : ∀ {o : Nat} {ts : List TV} (_ : CellsRel E us o ts) {i : Nat} {t : TV}, ts[i]? = some t →
    ∃ u, us[o + i]? = some u ∧ u.oneCell' = true ∧ RelV E t u
  | _, [], _, _, _, h => by simp at h
  | o, t :: ts, ⟨h, r⟩, 0, t', e => by simp at e; subst e; simpa using h
  | o, t :: ts, ⟨_, r⟩, i + 1, t', e => by
    have := CellsRel.get r (i := i) (t := t') (by simpa using e)
    rwa [show o + (i + 1) = o + 1 + i by omega]

theorem CellsRel.of_get {E : En} {us : List Value} : ∀ {o : Nat} {ts : List TV}, (∀ i t, ts[i]? = some t → ∃ u, us[o + i]? = some u ∧ u.oneCell' = true ∧ RelV E t u) → CellsRel E us o ts
  | _, [], _ => trivial
  | o, t :: ts, h => ⟨by simpa using h 0 t rfl, CellsRel.of_get fun i t' e => by
      have := h (i + 1) t' (by simpa using e)
      rwa [show o + (i + 1) = o + 1 + i by omega] at this⟩

theorem RowRel.get {E : En} {us : List Value} {k : Nat} : ∀ {o : Nat} {es : List (List TV)} (_ : RowRel E us k o es) {i : Nat} {e : List TV}, es[i]? = some e →
    e.length = k ∧ CellsRel E us (o + i * k) e
  | _, [], _, _, _, h => by simp at h
  | o, e :: es, ⟨h1, h2, r⟩, 0, e', he => by simp at he; subst he; exact ⟨h1, by simpa using h2⟩
  | o, e :: es, ⟨_, _, r⟩, i + 1, e', he => by
    have := RowRel.get r (i := i) (e := e') (by simpa using he)
    refine ⟨this.1, ?_⟩
    have h := this.2
    rwa [show o + k + i * k = o + (i + 1) * k by rw [Nat.add_mul]; omega] at h

theorem RowRel.of_get {E : En} {us : List Value} {k : Nat} : ∀ {o : Nat} {es : List (List TV)}, (∀ i e, es[i]? = some e → e.length = k ∧ CellsRel E us (o + i * k) e) → RowRel E us k o es
  | _, [], _ => trivial
  | o, e :: es, h => ⟨(h 0 e rfl).1, by simpa using (h 0 e rfl).2, RowRel.of_get fun i e' he => by
      have := h (i + 1) e' (by simpa using he)
      refine ⟨this.1, ?_⟩
      have h2 := this.2
      rwa [show o + (i + 1) * k = o + k + i * k by rw [Nat.add_mul]; omega] at h2⟩

theorem RepRows.get {E : En} {b k : Nat} : ∀ {o : Nat} {xs : List (List D)} (_ : RepRows E b k o xs) {i : Nat} {e : List D}, xs[i]? = some e →
    e.length = k ∧ RepCells E b (o + i * k) e
  | _, [], _, _, _, h => by simp at h
  | o, e :: es, h, 0, e', he => by simp only [RepRows] at h; simp at he; subst he; exact ⟨h.1, by simpa using h.2.1⟩
  | o, e :: es, h, i + 1, e', he => by
    simp only [RepRows] at h
    have := RepRows.get h.2.2 (i := i) (e := e') (by simpa using he)
    refine ⟨this.1, ?_⟩
    have h := this.2
    rwa [show o + k + i * k = o + (i + 1) * k by rw [Nat.add_mul]; omega] at h

theorem RepRows.of_get {E : En} {b k : Nat} : ∀ {o : Nat} {xs : List (List D)}, (∀ i e, xs[i]? = some e → e.length = k ∧ RepCells E b (o + i * k) e) → RepRows E b k o xs
  | _, [], _ => by simp only [RepRows]
  | o, e :: es, h => by
    simp only [RepRows]
    exact ⟨(h 0 e rfl).1, by simpa using (h 0 e rfl).2, RepRows.of_get fun i e' he => by
      have := h (i + 1) e' (by simpa using he)
      refine ⟨this.1, ?_⟩
      have h2 := this.2
      rwa [show o + (i + 1) * k = o + k + i * k by rw [Nat.add_mul]; omega] at h2⟩

theorem RepCells.get {E : En} {b : Nat} : ∀ {o : Nat} {xs : List D} (_ : RepCells E b o xs) {i : Nat} {x : D}, xs[i]? = some x →
    E.St b (o + i) ∧ ∃ u, E.w.cell? ⟨b, o + i, none⟩ = some u ∧ Rep E x u
  | _, [], _, _, _, h => by simp at h
  | o, x :: ds, h, 0, x', he => by simp only [RepCells] at h; simp at he; subst he; simpa using h.1
  | o, x :: ds, h, i + 1, x', he => by
    simp only [RepCells] at h
    have := RepCells.get h.2 (i := i) (x := x') (by simpa using he)
    rwa [show o + (i + 1) = o + 1 + i by omega]

theorem RepCells.of_get {E : En} {b : Nat} : ∀ {o : Nat} {xs : List D}, (∀ i x, xs[i]? = some x → E.St b (o + i) ∧ ∃ u, E.w.cell? ⟨b, o + i, none⟩ = some u ∧ Rep E x u) → RepCells E b o xs
  | _, [], _ => by simp only [RepCells]
  | o, x :: ds, h => by
    simp only [RepCells]
    exact ⟨by simpa using h 0 x rfl, RepCells.of_get fun i x' he => by
      have := h (i + 1) x' (by simpa using he)
      rwa [show o + (i + 1) = o + 1 + i by omega] at this⟩

theorem Rep.one {E : En} : ∀ {x : D} {u : Value}, Rep E x u → u.oneCell' = true
  | .int k n, u, h => by simp only [Rep] at h; subst h; rfl
  | .bool b, u, h => by simp only [Rep] at h; subst h; rfl
  | .str s, u, h => by simp only [Rep] at h; subst h; rfl
  | .sl xs, u, h => by
    simp only [Rep] at h
    rcases h with ⟨_, a, c, rfl⟩ | ⟨b, o, c, k, rfl, _⟩ <;> rfl

/-- Values of one cell. -/
def TV.one : TV → Bool
  | .d _ | .oref _ _ | .ptr _ _ | .ep _ _ | .eptr _ _ _ _ | .clo _ _ | .mref _ | .sx _ => true
  | .c v => v.oneCell'
  | _ => false

theorem RelV.one {E : En} : ∀ {t : TV} {u : Value}, t.one = true → RelV E t u → u.oneCell' = true
  | .d x, u, _, h => by simp only [RelV] at h; exact h.one
  | .c v, u, h1, h => by simp only [RelV] at h; subst h; simpa only [TV.one] using h1
  | .oref id n, u, _, h => by simp only [RelV] at h; exact h.1
  | .ptr p off, u, _, h => by simp only [RelV] at h; obtain ⟨b, _, rfl⟩ := h; rfl
  | .ep e off, u, _, h => by simp only [RelV] at h; obtain ⟨b, o, rfl, _⟩ := h; rfl
  | .eptr id n i off, u, _, h => by simp only [RelV] at h; exact h.1
  | .mref id, u, _, h => by simp only [RelV] at h; obtain ⟨b, _, rfl⟩ := h; rfl
  | .sx xs, u, _, h => by simp only [RelV] at h; obtain ⟨_, b, rfl⟩ := h; rfl
  | .clo f caps, u, _, h => by simp only [RelV] at h; obtain ⟨us, rfl, _⟩ := h; rfl
  | .junk, _, h, _ => by simp [TV.one] at h
  | .agg _, _, h, _ => by simp [TV.one] at h
  | .tup _, _, h, _ => by simp [TV.one] at h

theorem RelVs.length {E : En} : ∀ {ts : List TV} {us : List Value}, RelVs E ts us → us.length = ts.length
  | [], us, h => by simp only [RelVs] at h; subst h; rfl
  | t :: ts, us, h => by
    simp only [RelVs] at h
    obtain ⟨u, us', rfl, _, h2⟩ := h
    simp [h2.length]

theorem RelVs.get {E : En} : ∀ {ts : List TV} {us : List Value}, RelVs E ts us → ∀ {i : Nat} {t : TV}, ts[i]? = some t → ∃ u, us[i]? = some u ∧ RelV E t u
  | [], us, h, i, t, e => by simp at e
  | t :: ts, us, h, i, t', e => by
    simp only [RelVs] at h
    obtain ⟨u, us', rfl, h1, h2⟩ := h
    cases i with
    | zero => simp at e; subst e; exact ⟨u, rfl, h1⟩
    | succ i => simpa using h2.get (i := i) (by simpa using e)

theorem RelVs.of_get {E : En} : ∀ {ts : List TV} {us : List Value}, us.length = ts.length → (∀ (i : Nat) (t : TV) (u : Value), ts[i]? = some t → us[i]? = some u → RelV E t u) → RelVs E ts us
  | [], us, hl, _ => by simp only [RelVs]; exact List.eq_nil_of_length_eq_zero hl
  | t :: ts, [], hl, _ => by simp at hl
  | t :: ts, u :: us, hl, h => by
    simp only [RelVs]
    exact ⟨u, us, rfl, h 0 t u rfl rfl, RelVs.of_get (by simpa using hl) fun i t' u' e e' => h (i + 1) t' u' (by simpa using e) (by simpa using e')⟩

theorem RelVs.cells {E : En} {ts : List TV} {us : List Value} (h : RelVs E ts us) (h1 : ∀ t ∈ ts, t.one = true) : CellsRel E us 0 ts :=
  CellsRel.of_get fun i t e => by
    obtain ⟨u, hu, hr⟩ := h.get e
    exact ⟨u, by simpa using hu, hr.one (h1 t (List.mem_of_getElem? e)), hr⟩

theorem HInv.slot {E : En} {H : S} (h : HInv E H) (k : Nat) (i : It) : HInv E (upd H (.s k) i) where
  item p hp := by rw [upd, if_neg (hp k)]; exact h.item p hp
  frees := h.frees
  inj := h.inj
  size := h.size
  stsz := h.stsz
  gl := h.gl
  sep b o hst p hp := by
    obtain ⟨e, k', es, h1, h2⟩ := h.sep b o hst p hp
    refine ⟨e, k', es, ?_, h2⟩
    rw [upd, if_neg]
    · exact h1
    · rintro rfl
      simp [En.own, h.frees k] at hp

theorem En.own_eq {E E' : En} {p : Pl} (hb : E'.blk p = E.blk p) (hv : ∀ id, p = .o id → E'.val id = E.val id) : E'.own p = E.own p := by
  unfold En.own
  rw [hb]
  cases p with
  | o id => simp [hv id rfl]
  | s k => rfl
  | x k => rfl

theorem ItemOK.up {E E' : En} {p : Pl} {it : It} (h : ItemOK E p it) (x : ExtA E E') (hb : E'.blk p = E.blk p) (hv : ∀ id, p = .o id → E'.val id = E.val id)
    (hh : ∀ b, E.own p = some b → E'.w.heap[b]? = E.w.heap[b]?) : ItemOK E' p it := by
  cases it with
  | none => exact fun id e => by rw [hb, hv id e]; exact h id e
  | v t => exact (En.own_eq hb hv).trans h
  | box cs =>
    obtain ⟨h0, b, ty, us, h1, h2, h3, h4⟩ := h
    exact ⟨fun id e => by rw [hv id e]; exact h0 id e, b, ty, us, hb.trans h1, (hh b (by simp [En.own, h1])).trans h2, h3, h4.up x⟩
  | row e k es sh =>
    obtain ⟨h0, id, v, us, rfl, h1, h2, h3⟩ := h
    refine ⟨hb.trans h0, id, v, us, rfl, (hv id rfl).trans h1, ⟨h2.1, ?_⟩, h3.up x⟩
    rcases h2.2 with hn | ⟨g, cap, cur, rfl, hg, hgg, rest⟩
    · exact .inl hn
    · exact .inr ⟨g, cap, cur, rfl, hg, (hh g (by simp [En.own, h0, h1, Value.ownBlock])).trans hgg, rest⟩
  | mp es =>
    obtain ⟨h0, b, l, clock, h1, h2, h3, h4⟩ := h
    exact ⟨fun id e => by rw [hv id e]; exact h0 id e, b, l, clock, hb.trans h1, (hh b (by simp [En.own, h1])).trans h2, h3.ext x.r, h4⟩

/-- One object changes (and its block, or a new one); all else stays. -/
theorem HInv.change {E E' : En} {H : S} {p : Pl} {it : It} (h : HInv E H) (hp : ∀ k, p ≠ .s k) (x : ExtA E E')
    (hSt : ∀ b o, E'.St b o → E.St b o ∨ (E'.own p ≠ some b ∧ E.w.heap.size ≤ b ∧ b < E'.w.heap.size)) (hblk : ∀ q, q ≠ p → E'.blk q = E.blk q) (hval : ∀ id, p ≠ .o id → E'.val id = E.val id)
    (hs : E.w.heap.size ≤ E'.w.heap.size) (hoth : ∀ q b, q ≠ p → E.own q = some b → E'.w.heap[b]? = E.w.heap[b]?)
    (hown : ∀ b, E'.own p = some b → b < E'.w.heap.size ∧ (E.own p = some b ∨ E.w.heap.size ≤ b))
    (hit : ItemOK E' p it) (hsep : ∀ b o, E.St b o → E'.own p = some b → ∃ e k es, it = .row e k es true ∧ o < es.length * k) : HInv E' (upd H p it) := by
  have hq : ∀ q, q ≠ p → E'.own q = E.own q := fun q hne => En.own_eq (hblk q hne) (fun id e => hval id (fun e' => hne (e.trans e'.symm)))
  refine ⟨fun q hqs => ?_, fun k => ?_, fun q r b h1 h2 => ?_, fun q b h1 => ?_, fun b o h1 => ?_, fun b o h1 q h2 => ?_, fun y hy => RepCells.ext x.r _ _ _ (h.gl y hy)⟩
  · by_cases e : q = p
    · subst e; simpa only [upd, if_true] using hit
    · rw [upd, if_neg e]
      exact (h.item q hqs).up x (hblk q e) (fun id e' => hval id (fun e'' => e (e'.trans e''.symm))) (fun b hb => hoth q b e hb)
  · rw [hblk _ (fun e => hp k e.symm)]; exact h.frees k
  · by_cases e1 : q = p <;> by_cases e2 : r = p
    · rw [e1, e2]
    · subst e1
      rw [hq r e2] at h2
      rcases (hown b h1).2 with h3 | h3
      · exact h.inj _ _ b h3 h2
      · have := h.size r b h2; omega
    · subst e2
      rw [hq q e1] at h1
      rcases (hown b h2).2 with h3 | h3
      · exact h.inj _ _ b h1 h3
      · have := h.size q b h1; omega
    · rw [hq q e1] at h1; rw [hq r e2] at h2; exact h.inj _ _ b h1 h2
  · by_cases e : q = p
    · subst e; exact (hown b h1).1
    · rw [hq q e] at h1; exact Nat.lt_of_lt_of_le (h.size q b h1) hs
  · rcases hSt b o h1 with h2 | ⟨_, _, h2⟩
    · exact Nat.lt_of_lt_of_le (h.stsz b o h2) hs
    · exact h2
  · rcases hSt b o h1 with h3 | ⟨hb, h3, _⟩
    · by_cases e : q = p
      · subst e
        obtain ⟨e', k, es, h4, h5⟩ := hsep b o h3 h2
        exact ⟨e', k, es, by simpa only [upd, if_true] using h4, h5⟩
      · rw [hq q e] at h2
        obtain ⟨e', k, es, h4, h5⟩ := h.sep b o h3 q h2
        exact ⟨e', k, es, by rw [upd, if_neg e]; exact h4, h5⟩
    · by_cases e : q = p
      · subst e; exact absurd h2 hb
      · rw [hq q e] at h2
        have := h.size q b h2
        omega

/-- New stable memory alone (a literal; what a row shows is handed on). -/
theorem HInv.more {E E' : En} {H : S} (h : HInv E H) (x : ExtA E E') (hblk : E'.blk = E.blk) (hval : E'.val = E.val) (hs : E.w.heap.size ≤ E'.w.heap.size)
    (hoth : ∀ b, b < E.w.heap.size → E'.w.heap[b]? = E.w.heap[b]?)
    (hSt : ∀ b o, E'.St b o → E.St b o ∨ (b < E'.w.heap.size ∧ ∀ p, E.own p = some b → ∃ e k es, H p = .row e k es true ∧ o < es.length * k)) : HInv E' H := by
  have hq : ∀ q, E'.own q = E.own q := fun q => En.own_eq (by rw [hblk]) (fun id _ => by rw [hval])
  refine ⟨fun q hqs => (h.item q hqs).up x (by rw [hblk]) (fun id _ => by rw [hval]) (fun b hb => hoth b (h.size q b hb)), fun k => by rw [hblk]; exact h.frees k,
    fun q r b h1 h2 => h.inj q r b (by rwa [hq] at h1) (by rwa [hq] at h2), fun q b h1 => Nat.lt_of_lt_of_le (h.size q b (by rwa [hq] at h1)) hs, fun b o h1 => ?_, fun b o h1 q h2 => ?_, fun y hy => RepCells.ext x.r _ _ _ (h.gl y hy)⟩
  · rcases hSt b o h1 with h2 | h2
    · exact Nat.lt_of_lt_of_le (h.stsz b o h2) hs
    · exact h2.1
  · rcases hSt b o h1 with h3 | h3
    · exact h.sep b o h3 q (by rwa [hq] at h2)
    · exact h3.2 q (by rwa [hq] at h2)

end Go.Tr

set_option linter.unusedSimpArgs false
namespace Go.Tr
open Go

/- what is asked of the program's table of types -/
def shp (P : Program) (t : TypeId) : Option Bool := (P.underlying t).map fun | .struct _ | .array _ _ => true | _ => false
def fld (P : Program) (t : TypeId) (f : Nat) : Option (Nat × TypeId) := match P.underlying t with | some (.struct fs) => (fs[f]?).map fun f => (f.offset, f.type) | _ => none
def slE (P : Program) (t : TypeId) : Option TypeId := match P.underlying t with | some (.slice e) => some e | _ => none
def arE (P : Program) (t : TypeId) : Option (Nat × TypeId) := match P.underlying t with | some (.array n e) => some (n, e) | _ => none
def szO (P : Program) (t : TypeId) : Option Nat := (P.info? t).map (·.size)
def byO (P : Program) (t : TypeId) : Option Nat := (P.info? t).map (·.bytes)
def zrO (P : Program) (t : TypeId) : Option Value := (P.info? t).bind (·.zero)
def knd (P : Program) (t : TypeId) : Option IntKind := match P.underlying t with | some (.int k) => some k | _ => none
def isStr (P : Program) (t : TypeId) : Bool := match P.underlying t with | some .string => true | _ => false

def ofCell : Value → TV
  | .int k n => .d (.int k n)
  | .bool b => .d (.bool b)
  | .string s => .d (.str s)
  | v => .c v

def ofVal : Value → TV
  | .agg cs => .agg (cs.toList.map ofCell)
  | v => ofCell v

theorem ofCell_rel (E : En) (v : Value) : RelV E (ofCell v) v := by
  unfold ofCell
  split <;> simp only [RelV, Rep]

theorem ofCells_rel (E : En) : ∀ vs : List Value, RelVs E (vs.map ofCell) vs
  | [] => by simp only [List.map_nil, RelVs]
  | v :: vs => by simp only [List.map_cons, RelVs]; exact ⟨v, vs, rfl, ofCell_rel E v, ofCells_rel E vs⟩

theorem ofVal_rel (E : En) (v : Value) : RelV E (ofVal v) v := by
  unfold ofVal
  split
  · simp only [RelV]; exact ⟨_, rfl, ofCells_rel E _⟩
  · exact ofCell_rel E _

/-- a package-level variable as an operand -/
def gev (g : Nat) : TV := match globs.find? (fun y => y.1 == g) with | some y => .ep y.2 0 | none => .junk

def ev (t : S) : Operand → TV
  | .tmp k => match t (.s k) with | .v x => x | _ => .junk
  | .const v => ofVal v
  | .func f => .clo f []
  | .global g => gev g

def pl : Operand → List Pl
  | .tmp k => [.s k]
  | _ => []

theorem ev_rel {A : Actv} {t : S} {a : Act} {E : En} (h : InvE A t a E) (x : Operand) : RelV E (ev t x) (a.eval x) := by
  cases x with
  | tmp k =>
    simp only [ev]
    split
    · rename_i tv ht
      obtain ⟨u, hu, hr⟩ := h.sl k tv ht
      simpa only [Act.eval, Array.getD_eq_getD_getElem?, hu, Option.getD_some] using hr
    · simp only [RelV]
  | const v => exact ofVal_rel E v
  | global g =>
    simp only [ev, gev]
    split
    · rename_i y hy
      have h1 := h.h.gl y (List.mem_of_find?_eq_some hy)
      have h2 := List.find?_some hy
      simp only [beq_iff_eq] at h2
      simp only [RelV, Act.eval]
      exact ⟨g, 0, rfl, h2 ▸ h1⟩
    · simp only [RelV]
  | func f => simp only [ev, RelV, RelVs, Act.eval]; exact ⟨#[], rfl, rfl⟩

theorem ev_eq {t t' : S} {x : Operand} (h : ∀ p ∈ pl x, t' p = t p) : ev t' x = ev t x := by
  cases x <;> simp only [ev]
  rename_i k
  rw [h (.s k) (by simp [pl])]

structure Eff where
  C : Prop
  rp : List Pl
  W : List (Pl × It)
  v : TV

def IsNx (nx : Next) (u : Value) : Prop := nx = .value u ∨ (nx = .skip ∧ u = undef)

/-- The effect of an operation, from every state that agrees with t on what is read. -/
def EffOK (P : Program) (A : Actv) (o : Oper) (t : S) (e : Eff) : Prop :=
  e.C → ∀ t', (∀ p ∈ e.rp, t' p = t p) → ∀ a E, InvE A t' a E →
    ∃ nx u E', (execOp a.eval o).run P E.w = .ok nx E'.w ∧ IsNx nx u ∧ InvE A (over t' e.W) a E' ∧ RelV E' e.v u

/-- An operation that only computes. -/
theorem EffOK.pure {P : Program} {A : Actv} {o : Oper} {t : S} {C : Prop} {rp : List Pl} {v : TV}
    (h : C → ∀ t', (∀ p ∈ rp, t' p = t p) → ∀ a E, InvE A t' a E → ∃ u, (execOp a.eval o).run P E.w = .ok (.value u) E.w ∧ RelV E v u) :
    EffOK P A o t ⟨C, rp, [], v⟩ := fun hC t' hr a E hi => by
  obtain ⟨u, h1, h2⟩ := h hC t' hr a E hi
  exact ⟨_, u, E, h1, .inl rfl, hi, h2⟩

theorem pl_left {l r : List Pl} {t t' : S} (h : ∀ p ∈ l ++ r, t' p = t p) : ∀ p ∈ l, t' p = t p := fun p hp => h p (List.mem_append_left _ hp)
theorem pl_right {l r : List Pl} {t t' : S} (h : ∀ p ∈ l ++ r, t' p = t p) : ∀ p ∈ r, t' p = t p := fun p hp => h p (List.mem_append_right _ hp)

/-- The cells of a value. -/
def TV.cells : TV → List TV
  | .agg vs => vs
  | v => [v]

def andI (k : IntKind) (a b : Int) : Int := k.wrap (BitVec.ofInt k.bits a &&& BitVec.ofInt k.bits b).toNat
def orI (k : IntKind) (a b : Int) : Int := k.wrap (BitVec.ofInt k.bits a ||| BitVec.ofInt k.bits b).toNat
def xorI (k : IntKind) (a b : Int) : Int := k.wrap (BitVec.ofInt k.bits a ^^^ BitVec.ofInt k.bits b).toNat
def andNotI (k : IntKind) (a b : Int) : Int := k.wrap (BitVec.ofInt k.bits a &&& ~~~ BitVec.ofInt k.bits b).toNat
def notI (k : IntKind) (n : Int) : Int := k.wrap (BitVec.ofInt k.bits (if k.signed then -1 else k.max) ^^^ BitVec.ofInt k.bits n).toNat
def shlI (k : IntKind) (a b : Int) : Int := k.wrap (a * 2 ^ (min b.toNat k.bits))
def shrI (k : IntKind) (a b : Int) : Int := a.fdiv (2 ^ (min b.toNat k.bits))

def binI (op : BinOp) (k : IntKind) (a b : Int) : Option (Prop × TV) :=
  match op with
  | .add => some (True, .d (.int k (k.wrap (a + b))))
  | .sub => some (True, .d (.int k (k.wrap (a - b))))
  | .mul => some (True, .d (.int k (k.wrap (a * b))))
  | .quo => some (b ≠ 0, .d (.int k (k.wrap (a.tdiv b))))
  | .rem => some (b ≠ 0, .d (.int k (a.tmod b)))
  | .and => some (True, .d (.int k (andI k a b)))
  | .or => some (True, .d (.int k (orI k a b)))
  | .xor => some (True, .d (.int k (xorI k a b)))
  | .andNot => some (True, .d (.int k (andNotI k a b)))
  | .eql => some (True, .d (.bool (a == b)))
  | .neq => some (True, .d (.bool (a != b)))
  | .lss => some (True, .d (.bool (a < b)))
  | .leq => some (True, .d (.bool (a ≤ b)))
  | .gtr => some (True, .d (.bool (a > b)))
  | .geq => some (True, .d (.bool (a ≥ b)))
  | _ => none

def binS (op : BinOp) (k : IntKind) (a b : Int) : Option (Prop × TV) :=
  match op with
  | .shl => some (0 ≤ b, .d (.int k (shlI k a b)))
  | .shr => some (0 ≤ b, .d (.int k (shrI k a b)))
  | _ => none

def binStr (op : BinOp) (a b : ByteArray) : Option (Prop × TV) :=
  match op with
  | .add => some (a.size + b.size ≤ 9223372036854775807, .d (.str (a ++ b)))
  | .eql => some (True, .d (.bool (a.toList == b.toList)))
  | .neq => some (True, .d (.bool (!(a.toList == b.toList))))
  | .lss => some (True, .d (.bool (Op.bytesLess a.toList b.toList)))
  | .gtr => some (True, .d (.bool (!(Op.bytesLess a.toList b.toList || a.toList == b.toList))))
  | .leq => some (True, .d (.bool (Op.bytesLess a.toList b.toList || a.toList == b.toList)))
  | .geq => some (True, .d (.bool (!Op.bytesLess a.toList b.toList)))
  | _ => none

def isShift : BinOp → Bool
  | .shl | .shr => true
  | _ => false

/-- x op y, on plain values -/
def binD (P : Program) (op : BinOp) (ty : TypeId) : TV → TV → Option (Prop × TV)
  | .d (.int k a), .d (.int k' b) => if isShift op then binS op k a b else if k = k' then binI op k a b else none
  | .d (.str a), .d (.str b) => binStr op a b
  | .d (.bool a), .d (.bool b) => match P.underlying ty, op with
    | some .bool, .eql => some (True, .d (.bool (a == b)))
    | some .bool, .neq => some (True, .d (.bool (!(a == b))))
    | _, _ => none
  | .d (.sl xs), .c (.slice none 0 0) => match P.underlying ty, op with
    | some (.slice _), .eql => some (0 < xs.length, .d (.bool false))
    | some (.slice _), .neq => some (0 < xs.length, .d (.bool true))
    | _, _ => none
  | .c (.slice a _ _), .c (.slice none 0 0) => match P.underlying ty, op with
    | some (.slice _), .eql => some (True, .d (.bool a.isNone))
    | some (.slice _), .neq => some (True, .d (.bool (!a.isNone)))
    | _, _ => none
  | .ep _ _, .c (.pointer none) => match P.underlying ty, op with
    | some (.pointer _), .eql => some (True, .d (.bool false))
    | some (.pointer _), .neq => some (True, .d (.bool true))
    | _, _ => none
  | .ptr _ _, .c (.pointer none) => match P.underlying ty, op with
    | some (.pointer _), .eql => some (True, .d (.bool false))
    | some (.pointer _), .neq => some (True, .d (.bool true))
    | _, _ => none
  | .c (.pointer a), .c (.pointer none) => match P.underlying ty, op with
    | some (.pointer _), .eql => some (True, .d (.bool a.isNone))
    | some (.pointer _), .neq => some (True, .d (.bool (!a.isNone)))
    | _, _ => none
  | _, _ => none

theorem run_equal_nil {P : Program} {ty e : TypeId} (h : P.underlying ty = some (.slice e)) (a : Option Addr) (n c m d k : Nat) (w : World) : (Op.equalIn (k + 1) ty (.slice a n c) (.slice none m d)).run P w = .ok a.isNone w := by
  cases a <;> simp [Op.equalIn, Sem.run_bind, run_underlying h]

theorem run_equal_ptr {P : Program} {ty e : TypeId} (h : P.underlying ty = some (.pointer e)) (a : Option Addr) (k : Nat) (w : World) : (Op.equalIn (k + 1) ty (.pointer a) (.pointer none)).run P w = .ok a.isNone w := by
  cases a <;> simp [Op.equalIn, Sem.run_bind, run_underlying h]

theorem binD_ok {P : Program} {op : BinOp} {ty : TypeId} {x y v : TV} {C : Prop} (h : binD P op ty x y = some (C, v)) (hC : C) {E : En} {u u' : Value} (hx : RelV E x u) (hy : RelV E y u')
    (xo yo : Operand) (w : World) : ∃ r, ((do eqGuard op ty xo yo u u'; binOp op ty u u' : Sem Value)).run P w = .ok r w ∧ RelV E v r := by
  unfold binD at h
  split at h
  · rename_i k a k' b
    simp only [RelV, Rep] at hx hy
    subst hx; subst hy
    rw [eqGuard_at_int]
    split at h
    · rename_i hs
      cases op <;> first
        | (simp only [isShift, Bool.false_eq_true] at hs; done)
        | (simp only [binS, Option.some.injEq, Prod.mk.injEq] at h
           obtain ⟨rfl, rfl⟩ := h
           simp [binOp, Op.shift, show ¬ b < 0 by omega, RelV, Rep, shlI, shrI])
    · rename_i hs
      split at h
      · rename_i hk
        subst hk
        cases op <;> first
          | (simp only [isShift, not_true_eq_false] at hs; done)
          | (simp only [binI, Option.some.injEq, Prod.mk.injEq] at h
             obtain ⟨rfl, rfl⟩ := h
             simp [binOp, Op.intArith, Op.intDiv, Op.intBits, Op.intCmp, RelV, Rep, andI, orI, xorI, andNotI]
             done)
          | (simp only [binI, Option.some.injEq, Prod.mk.injEq] at h
             obtain ⟨rfl, rfl⟩ := h
             simp [binOp, Op.intArith, Op.intDiv, Op.intBits, Op.intCmp, RelV, Rep, hC])
      · simp at h
  · rename_i a b
    simp only [RelV, Rep] at hx hy
    subst hx; subst hy
    rw [eqGuard_at_string]
    cases op <;> first
      | (simp only [binStr, reduceCtorEq] at h; done)
      | (simp only [binStr, Option.some.injEq, Prod.mk.injEq] at h
         obtain ⟨rfl, rfl⟩ := h
         simp [binOp, Op.stringOp, RelV, Rep]
         done)
      | (simp only [binStr, Option.some.injEq, Prod.mk.injEq] at h
         obtain ⟨rfl, rfl⟩ := h
         have h1 : ¬ (9223372036854775807 < (a.size : Int) + (b.size : Int)) := by omega
         simp [binOp, Op.stringOp, RelV, Rep, h1])
  · rename_i a b
    simp only [RelV, Rep] at hx hy
    subst hx; subst hy
    rw [eqGuard_at_bool]
    split at h
    · rename_i hu
      simp only [Option.some.injEq, Prod.mk.injEq] at h
      obtain ⟨rfl, rfl⟩ := h
      have hb := run_equalIn_bool (P := P) w 9999 ty a b hu
      simp only [binOp, Op.equal, Op.maxDepth, Sem.run_bind, Sem.run_pure, Result.andThen_ok, hb, Result.ok.injEq, and_true, exists_eq_left', RelV, Rep]
    · rename_i hu
      simp only [Option.some.injEq, Prod.mk.injEq] at h
      obtain ⟨rfl, rfl⟩ := h
      have hb := run_equalIn_bool (P := P) w 9999 ty a b hu
      simp only [binOp, Op.equal, Op.maxDepth, Sem.run_bind, Sem.run_pure, Result.andThen_ok, hb, Result.ok.injEq, and_true, exists_eq_left', RelV, Rep]
    · simp at h
  · rename_i xs
    simp only [RelV, Rep] at hx hy
    subst hy
    split at h
    all_goals first
      | (simp at h; done)
      | (rename_i hu
         simp only [Option.some.injEq, Prod.mk.injEq] at h
         obtain ⟨rfl, rfl⟩ := h
         rcases hx with ⟨h0, _⟩ | ⟨b, o, c, k, rfl, _⟩
         · omega
         · have hb := run_equal_nil hu (some ⟨b, o, none⟩) xs.length c 0 0 9999 w
           rw [eqGuard_at_slice]
           simp only [binOp, Op.equal, Op.maxDepth, Sem.run_bind, Sem.run_pure, Result.andThen_ok, hb, Result.ok.injEq, and_true, exists_eq_left', RelV, Rep]
           rfl)
  · rename_i a n c
    simp only [RelV] at hx hy
    subst hx; subst hy
    split at h
    all_goals first
      | (simp at h; done)
      | (rename_i hu
         simp only [Option.some.injEq, Prod.mk.injEq] at h
         obtain ⟨rfl, rfl⟩ := h
         have hb := run_equal_nil hu a n c 0 0 9999 w
         rw [eqGuard_at_slice]
         simp only [binOp, Op.equal, Op.maxDepth, Sem.run_bind, Sem.run_pure, Result.andThen_ok, hb, Result.ok.injEq, and_true, exists_eq_left', RelV, Rep])
  · simp only [RelV] at hx hy
    subst hy
    obtain ⟨b, o, rfl, _⟩ := hx
    split at h
    all_goals first
      | (simp at h; done)
      | (rename_i hu
         simp only [Option.some.injEq, Prod.mk.injEq] at h
         obtain ⟨rfl, rfl⟩ := h
         have hb := fun a => run_equal_ptr hu a 9999 w
         rw [eqGuard_at_pointer]
         simp only [binOp, Op.equal, Op.maxDepth, Sem.run_bind, Sem.run_pure, Result.andThen_ok, hb, Result.ok.injEq, and_true, exists_eq_left', RelV, Rep]
         rfl)
  · simp only [RelV] at hx hy
    subst hy
    obtain ⟨b, _, rfl⟩ := hx
    split at h
    all_goals first
      | (simp at h; done)
      | (rename_i hu
         simp only [Option.some.injEq, Prod.mk.injEq] at h
         obtain ⟨rfl, rfl⟩ := h
         have hb := fun a => run_equal_ptr hu a 9999 w
         rw [eqGuard_at_pointer]
         simp only [binOp, Op.equal, Op.maxDepth, Sem.run_bind, Sem.run_pure, Result.andThen_ok, hb, Result.ok.injEq, and_true, exists_eq_left', RelV, Rep]
         rfl)
  · rename_i a
    simp only [RelV] at hx hy
    subst hx; subst hy
    split at h
    all_goals first
      | (simp at h; done)
      | (rename_i hu
         simp only [Option.some.injEq, Prod.mk.injEq] at h
         obtain ⟨rfl, rfl⟩ := h
         have hb := run_equal_ptr hu a 9999 w
         rw [eqGuard_at_pointer]
         simp only [binOp, Op.equal, Op.maxDepth, Sem.run_bind, Sem.run_pure, Result.andThen_ok, hb, Result.ok.injEq, and_true, exists_eq_left', RelV, Rep])
  · simp at h

end Go.Tr

set_option linter.unusedSimpArgs false
namespace Go.Tr
open Go

section
variable {P : Program} {A : Actv}

/-! ### what only computes -/
theorem eff_move {o : Oper} {t : S} {x : Operand} (ho : o.op = .move x ∨ o.op = .assign x) : EffOK P A o t ⟨True, pl x, [], ev t x⟩ :=
  .pure fun _ t' hr a E hi => ⟨a.eval x, by rcases ho with ho | ho <;> simp [execOp, ho], ev_eq hr ▸ ev_rel hi x⟩

theorem eff_pick {o : Oper} {t : S} {c x y : Operand} {g : Bool} (ho : o.op = .pick c x y) (hg : ev t c = .d (.bool g)) :
    EffOK P A o t ⟨True, pl c ++ (pl x ++ pl y), [], bif g then ev t x else ev t y⟩ :=
  .pure fun _ t' hr a E hi => by
    have hc := ev_rel hi c
    rw [ev_eq (pl_left hr), hg] at hc
    simp only [RelV, Rep] at hc
    have hx := ev_rel hi x
    rw [ev_eq (pl_left (pl_right hr))] at hx
    have hy := ev_rel hi y
    rw [ev_eq (pl_right (pl_right hr))] at hy
    cases g
    · exact ⟨a.eval y, by simp [execOp, ho, hc, asBool], hy⟩
    · exact ⟨a.eval x, by simp [execOp, ho, hc, asBool], hx⟩

theorem eff_bin {o : Oper} {t : S} {op : BinOp} {ty ty' : TypeId} {x y : Operand} {C : Prop} {v : TV} (ho : o.op = .binOp op ty x y ty') (h : binD P op ty (ev t x) (ev t y) = some (C, v)) :
    EffOK P A o t ⟨C, pl x ++ pl y, [], v⟩ :=
  .pure fun hC t' hr a E hi => by
    have hx := ev_rel hi x
    rw [ev_eq (pl_left hr)] at hx
    have hy := ev_rel hi y
    rw [ev_eq (pl_right hr)] at hy
    obtain ⟨r, h1, h2⟩ := binD_ok h hC hx hy x y E.w
    refine ⟨r, ?_, h2⟩
    simp only [execOp, ho]
    rw [Sem.run_bind, h1]
    rfl

def unD (op : UnOp) : TV → Option TV
  | .d (.int k n) => match op with
    | .neg => some (.d (.int k (k.wrap (0 - n))))
    | .xor => some (.d (.int k (notI k n)))
    | _ => none
  | .d (.bool b) => match op with
    | .not => some (.d (.bool !b))
    | _ => none
  | _ => none

theorem eff_un {o : Oper} {t : S} {op : UnOp} {ty : TypeId} {x : Operand} {v : TV} (ho : o.op = .unOp op ty x) (h : unD op (ev t x) = some v) : EffOK P A o t ⟨True, pl x, [], v⟩ :=
  .pure fun _ t' hr a E hi => by
    have hx := ev_rel hi x
    rw [ev_eq hr] at hx
    revert hx h
    generalize ev t x = tx
    intro h hx
    unfold unD at h
    split at h
    · simp only [RelV, Rep] at hx
      split at h
      · simp only [Option.some.injEq] at h; subst h
        refine ⟨_, ?_, rfl⟩
        simp [execOp, ho, hx, Op.unary, Op.intArith]
      · simp only [Option.some.injEq] at h; subst h
        refine ⟨_, ?_, rfl⟩
        simp only [execOp, ho, hx, Op.unary, Op.intBits, Sem.run_bind, Sem.run_pure, Result.andThen_ok, notI]
      · simp at h
    · simp only [RelV, Rep] at hx
      split at h
      · simp only [Option.some.injEq] at h; subst h
        refine ⟨_, ?_, rfl⟩
        simp [execOp, ho, hx, Op.unary]
      · simp at h
    · simp at h

theorem eff_conv {o : Oper} {t : S} {sr ds : TypeId} {x : Operand} {k k' : IntKind} {n : Int} (ho : o.op = .convert sr ds x) (hs : (shp P sr).isSome = true) (hd : knd P ds = some k') (hx : ev t x = .d (.int k n)) :
    EffOK P A o t ⟨True, pl x, [], .d (.int k' (k'.wrap n))⟩ :=
  .pure fun _ t' hr a E hi => by
    have hx' := ev_rel hi x
    rw [ev_eq hr, hx] at hx'
    simp only [RelV, Rep] at hx'
    refine ⟨_, ?_, rfl⟩
    unfold knd at hd
    split at hd
    · rename_i q hq
      simp only [Option.some.injEq] at hd; subst hd
      unfold shp at hs
      cases hu : P.underlying sr with
      | none => simp [hu] at hs
      | some d =>
        simp only [execOp, ho, hx', convert, Sem.run_bind, run_underlying hu, run_underlying hq, Result.andThen_ok, Conv.intToInt, Sem.run_pure]
    · simp at hd

theorem eff_nil {o : Oper} {t : S} {x : Operand} (ho : o.op = .nilCheck x) (h : (∃ p off, ev t x = .ptr p off) ∨ (∃ e off, ev t x = .ep e off) ∨ (∃ f c, ev t x = .clo f c)) :
    EffOK P A o t ⟨True, pl x, [], ev t x⟩ :=
  .pure fun _ t' hr a E hi => by
    have hx := ev_rel hi x
    rw [ev_eq hr] at hx
    refine ⟨a.eval x, ?_, hx⟩
    rcases h with ⟨p, off, h⟩ | ⟨e, off, h⟩ | ⟨f, c, h⟩ <;> rw [h] at hx <;> simp only [RelV] at hx
    · obtain ⟨b, _, hu⟩ := hx; simp [execOp, ho, hu]
    · obtain ⟨b, _, hu, _⟩ := hx; simp [execOp, ho, hu]
    · obtain ⟨us, hu, _⟩ := hx; simp [execOp, ho, hu]

theorem run_fieldAt {s f : Nat} {off : Nat} {ft : TypeId} (hf : fld P s f = some (off, ft)) {z : Nat} (hz : szO P ft = some z) (hz0 : z ≠ 0) (b o : Nat) (w : World) :
    (Instr.fieldAt s (.pointer (some ⟨b, o, none⟩)) f).run P w = .ok (.pointer (some ⟨b, o + off, none⟩)) w := by
  unfold fld at hf
  split at hf
  · rename_i fs hfs
    cases hff : fs[f]? with
    | none => simp [hff] at hf
    | some g =>
      simp only [hff, Option.map_some, Option.some.injEq, Prod.mk.injEq] at hf
      obtain ⟨rfl, rfl⟩ := hf
      unfold szO at hz
      cases hi : P.info? g.type with
      | none => simp [hi] at hz
      | some i =>
        simp only [hi, Option.map_some, Option.some.injEq] at hz
        simp [Instr.fieldAt, run_underlying hfs, hff, Instr.sureAddr, fieldPlace, sizeOf, typeInfo, hi, hz, hz0, add_lit']
  · simp at hf

theorem eff_fieldAddr {o : Oper} {t : S} {s f : Nat} {x : Operand} {off : Nat} {ft : TypeId} {z : Nat} {v : TV} (ho : o.op = .fieldAddr s x f) (hf : fld P s f = some (off, ft)) (hz : szO P ft = some z) (hz0 : z ≠ 0)
    (h : (∃ p q, ev t x = .ptr p q ∧ v = .ptr p (q + off)) ∨ (∃ e q, ev t x = .ep e q ∧ v = .ep e (q + off))) : EffOK P A o t ⟨True, pl x, [], v⟩ :=
  .pure fun _ t' hr a E hi => by
    have hx := ev_rel hi x
    rw [ev_eq hr] at hx
    rcases h with ⟨p, q, h, rfl⟩ | ⟨e, q, h, rfl⟩ <;> rw [h] at hx <;> simp only [RelV] at hx
    · obtain ⟨b, hb, hu⟩ := hx
      refine ⟨.pointer (some ⟨b, q + off, none⟩), ?_, ?_⟩
      · simp [execOp, ho, hu, run_fieldAt hf hz hz0]
      · simp only [RelV]; exact ⟨b, hb, rfl⟩
    · obtain ⟨b, p, hu, hc⟩ := hx
      refine ⟨.pointer (some ⟨b, p + q + off, none⟩), ?_, ?_⟩
      · simp [execOp, ho, hu, run_fieldAt hf hz hz0]
      · simp only [RelV]; exact ⟨b, p, by rw [Nat.add_assoc], hc⟩

/-- A row as it stands. -/
theorem row_cur {t : S} {a : Act} {E : En} (hi : InvE A t a E) {id k : Nat} {e : TypeId} {es : List (List TV)} {sh : Bool} (ht : t (.o id) = .row e k es sh) :
    E.blk (.o id) = none ∧ ∃ v us, E.val id = some (k, es.length, v) ∧ E.w.ownsRow 0 e k v es.length us ∧ RowRel E us k 0 es ∧ (∀ u, RelV E (.oref id es.length) u → u = v) := by
  have := hi.h.item (.o id) (by simp)
  rw [ht] at this
  obtain ⟨h0, id', v, us, hid, h1, h2, h3⟩ := this
  simp only [Pl.o.injEq] at hid
  subst hid
  refine ⟨h0, v, us, h1, h2, h3, fun u hu => ?_⟩
  simp only [RelV] at hu
  obtain ⟨_, k', c, v', hv, _, he⟩ := hu
  rw [h1] at hv
  simp only [Option.some.injEq, Prod.mk.injEq] at hv
  obtain ⟨rfl, rfl, rfl⟩ := hv
  exact he rfl

theorem eptr_cur {t : S} {a : Act} {E : En} (hi : InvE A t a E) {id k i off : Nat} {e : TypeId} {es : List (List TV)} {sh : Bool} (ht : t (.o id) = .row e k es sh) {u : Value}
    (hu : RelV E (.eptr id es.length i off) u) : ∃ g cap us, E.val id = some (k, es.length, .slice (some ⟨g, 0, none⟩) es.length cap) ∧ u = .pointer (some ⟨g, i * k + off, none⟩) ∧
      E.w.ownsRow 0 e k (.slice (some ⟨g, 0, none⟩) es.length cap) es.length us ∧ RowRel E us k 0 es := by
  obtain ⟨_, v, us, h1, h2, h3, _⟩ := row_cur hi ht
  simp only [RelV] at hu
  obtain ⟨_, k', c, v', hv, _, he⟩ := hu
  rw [h1] at hv
  simp only [Option.some.injEq, Prod.mk.injEq] at hv
  obtain ⟨rfl, rfl, rfl⟩ := hv
  obtain ⟨b, o, cp, rfl, hu⟩ := he rfl
  rcases h2.2 with ⟨h4, _⟩ | ⟨g, cap, cur, h4, rest⟩
  · simp at h4
  · simp only [Value.slice.injEq, Option.some.injEq, Addr.mk.injEq] at h4
    obtain ⟨⟨rfl, rfl, _⟩, _, rfl⟩ := h4
    exact ⟨b, cp, us, h1, by simpa using hu, h2, h3⟩

theorem eff_nil_row {o : Oper} {t : S} {x : Operand} {id n i q k : Nat} {e : TypeId} {es : List (List TV)} {sh : Bool} (ho : o.op = .nilCheck x) (hx : ev t x = .eptr id n i q) (ht : t (.o id) = .row e k es sh) :
    EffOK P A o t ⟨n = es.length, pl x ++ [.o id], [], .eptr id n i q⟩ := .pure fun hn t' hr a E hi => by
  have hu := ev_rel hi x
  rw [ev_eq (pl_left hr), hx] at hu
  have ht' : t' (.o id) = .row e k es sh := (pl_right hr _ (by simp)).trans ht
  subst hn
  obtain ⟨g, cap, us, _, hu', _⟩ := eptr_cur hi ht' hu
  exact ⟨a.eval x, by simp [execOp, ho, hu'], hu⟩

theorem eff_fieldAddr_row {o : Oper} {t : S} {s f : Nat} {x : Operand} {off : Nat} {ft : TypeId} {z : Nat} {id n i q k : Nat} {e : TypeId} {es : List (List TV)} {sh : Bool}
    (ho : o.op = .fieldAddr s x f) (hf : fld P s f = some (off, ft)) (hz : szO P ft = some z) (hz0 : z ≠ 0)
    (h : ev t x = .eptr id n i q) (ht : t (.o id) = .row e k es sh) : EffOK P A o t ⟨n = es.length, pl x ++ [.o id], [], .eptr id n i (q + off)⟩ :=
  .pure fun hC t' hr a E hi => by
    have hx := ev_rel hi x
    rw [ev_eq (pl_left hr), h] at hx
    have ht' : t' (.o id) = .row e k es sh := (pl_right hr _ (by simp)).trans ht
    subst hC
    obtain ⟨g, cap, us, h1, rfl', h2, h3⟩ := eptr_cur hi ht' hx
    refine ⟨.pointer (some ⟨g, i * k + q + off, none⟩), ?_, ?_⟩
    · simp [execOp, ho, rfl', run_fieldAt hf hz hz0]
    · simp only [RelV]
      exact ⟨rfl, k, _, _, h1, Nat.le_refl _, fun _ => ⟨g, 0, cap, rfl, by simp [Nat.add_assoc]⟩⟩

theorem run_indexAt_sl {ty e k : Nat} (he : slE P ty = some e) (hk : szO P e = some k) (a : Addr) (len cap : Nat) (ik : IntKind) (i : Int) (h0 : 0 ≤ i) (h1 : i < len) (w : World) :
    (Instr.indexAt ty (.slice (some a) len cap) (.int ik i)).run P w = .ok (.pointer (some (a.add (i.toNat * k)))) w := by
  unfold slE at he
  split at he
  · rename_i e' hu
    simp only [Option.some.injEq] at he
    subst he
    unfold szO at hk
    cases hi : P.info? e' with
    | none => simp [hi] at hk
    | some inf =>
      simp only [hi, Option.map_some, Option.some.injEq] at hk
      simp [Instr.indexAt, run_underlying hu, asIntOf, h0, h1, sizeOf, typeInfo, hi, hk]
  · simp at he

/-- xs[i], xs plain data -/
theorem eff_indexAddr {o : Oper} {t : S} {ty : TypeId} {x ix : Operand} {e k : Nat} {xs : List (List D)} {ik : IntKind} {i : Int} (ho : o.op = .indexAddr ty x ix) (he : slE P ty = some e) (hk : szO P e = some k)
    (hx : ev t x = .d (.sl xs)) (hix : ev t ix = .d (.int ik i)) :
    EffOK P A o t ⟨0 ≤ i ∧ i < xs.length ∧ (xs.getD i.toNat []).length = k, pl x ++ pl ix, [], .ep (xs.getD i.toNat []) 0⟩ :=
  .pure fun ⟨h0, h1, h2⟩ t' hr a E hi => by
    have hx' := ev_rel hi x
    rw [ev_eq (pl_left hr), hx] at hx'
    have hix' := ev_rel hi ix
    rw [ev_eq (pl_right hr), hix] at hix'
    simp only [RelV, Rep] at hx' hix'
    have hlt : i.toNat < xs.length := by omega
    have hg : xs[i.toNat]? = some (xs.getD i.toNat []) := by simp [List.getD, hlt]
    rcases hx' with ⟨h3, _⟩ | ⟨b, of, c, k', hu, hc, hrows⟩
    · omega
    · obtain ⟨h4, h5⟩ := hrows.get hg
      have hkk : k' = k := by omega
      subst hkk
      refine ⟨.pointer (some ⟨b, of + i.toNat * k', none⟩), ?_, ?_⟩
      · simp [execOp, ho, hu, hix', run_indexAt_sl he hk _ _ _ _ _ h0 h1, add_lit']
      · simp only [RelV]
        exact ⟨b, of + i.toNat * k', by simp, h5⟩

theorem eff_indexAddr_row {o : Oper} {t : S} {ty : TypeId} {x ix : Operand} {e k id n : Nat} {e' : TypeId} {es : List (List TV)} {sh : Bool} {ik : IntKind} {i : Int} (ho : o.op = .indexAddr ty x ix) (he : slE P ty = some e) (hk : szO P e = some k)
    (hx : ev t x = .oref id n) (hix : ev t ix = .d (.int ik i)) (ht : t (.o id) = .row e' k es sh) :
    EffOK P A o t ⟨n = es.length ∧ 0 ≤ i ∧ i < es.length, pl x ++ (pl ix ++ [.o id]), [], .eptr id n i.toNat 0⟩ :=
  .pure fun ⟨hn, h0, h1⟩ t' hr a E hi => by
    have hx' := ev_rel hi x
    rw [ev_eq (pl_left hr), hx] at hx'
    have hix' := ev_rel hi ix
    rw [ev_eq (pl_left (pl_right hr)), hix] at hix'
    simp only [RelV, Rep] at hix'
    subst hn
    have ht' : t' (.o id) = .row e' k es sh := (pl_right (pl_right hr) _ (by simp)).trans ht
    obtain ⟨_, v, us, h2, h3, h4, h5⟩ := row_cur hi ht'
    have hu := h5 _ hx'
    rcases h3.2 with ⟨_, h6⟩ | ⟨g, cap, cur, h6, _⟩
    · omega
    · subst h6
      refine ⟨.pointer (some ⟨g, i.toNat * k, none⟩), ?_, ?_⟩
      · simp [execOp, ho, hu, hix', run_indexAt_sl he hk _ _ _ _ _ h0 h1, add_lit']
      · simp only [RelV]
        exact ⟨rfl, k, _, _, h2, Nat.le_refl _, fun _ => ⟨g, 0, cap, rfl, by simp⟩⟩

/-- arr[i], arr an array in a box -/
theorem eff_indexAddr_arr {o : Oper} {t : S} {ty : TypeId} {x ix : Operand} {n e k : Nat} {p : Pl} {q : Nat} {ik : IntKind} {i : Int} (ho : o.op = .indexAddr ty x ix) (he : arE P ty = some (n, e)) (hk : szO P e = some k)
    (hx : ev t x = .ptr p q) (hix : ev t ix = .d (.int ik i)) : EffOK P A o t ⟨0 ≤ i ∧ i < n, pl x ++ pl ix, [], .ptr p (q + i.toNat * k)⟩ :=
  .pure fun ⟨h0, h1⟩ t' hr a E hi => by
    have hx' := ev_rel hi x
    rw [ev_eq (pl_left hr), hx] at hx'
    have hix' := ev_rel hi ix
    rw [ev_eq (pl_right hr), hix] at hix'
    simp only [RelV, Rep] at hx' hix'
    obtain ⟨b, hb, hu⟩ := hx'
    unfold arE at he
    split at he
    · rename_i n' e' hun
      simp only [Option.some.injEq, Prod.mk.injEq] at he
      obtain ⟨rfl, rfl⟩ := he
      unfold szO at hk
      cases hinf : P.info? e' with
      | none => simp [hinf] at hk
      | some inf =>
        simp only [hinf, Option.map_some, Option.some.injEq] at hk
        refine ⟨.pointer (some ⟨b, q + i.toNat * k, none⟩), ?_, ?_⟩
        · simp [execOp, ho, hu, hix', Instr.indexAt, run_underlying hun, asIntOf, Instr.sureAddr, h0, h1, sizeOf, typeInfo, hinf, hk, add_lit']
        · simp only [RelV]; exact ⟨b, hb, rfl⟩
    · simp at he

/-- arr[i], arr a package-level array -/
theorem eff_indexAddr_ep {o : Oper} {t : S} {ty : TypeId} {x ix : Operand} {n e k : Nat} {ds : List D} {q : Nat} {ik : IntKind} {i : Int} (ho : o.op = .indexAddr ty x ix) (he : arE P ty = some (n, e)) (hk : szO P e = some k)
    (hx : ev t x = .ep ds q) (hix : ev t ix = .d (.int ik i)) : EffOK P A o t ⟨0 ≤ i ∧ i < n, pl x ++ pl ix, [], .ep ds (q + i.toNat * k)⟩ :=
  .pure fun ⟨h0, h1⟩ t' hr a E hi => by
    have hx' := ev_rel hi x
    rw [ev_eq (pl_left hr), hx] at hx'
    have hix' := ev_rel hi ix
    rw [ev_eq (pl_right hr), hix] at hix'
    simp only [RelV, Rep] at hx' hix'
    obtain ⟨b, o', hu, hc⟩ := hx'
    unfold arE at he
    split at he
    · rename_i n' e' hun
      simp only [Option.some.injEq, Prod.mk.injEq] at he
      obtain ⟨rfl, rfl⟩ := he
      unfold szO at hk
      cases hinf : P.info? e' with
      | none => simp [hinf] at hk
      | some inf =>
        simp only [hinf, Option.map_some, Option.some.injEq] at hk
        refine ⟨.pointer (some ⟨b, o' + q + i.toNat * k, none⟩), ?_, ?_⟩
        · simp [execOp, ho, hu, hix', Instr.indexAt, run_underlying hun, asIntOf, Instr.sureAddr, h0, h1, sizeOf, typeInfo, hinf, hk, add_lit']
        · simp only [RelV]; exact ⟨b, o', by rw [Nat.add_assoc], hc⟩
    · simp at he

theorem eff_extract {o : Oper} {t : S} {x : Operand} {i : Nat} {vs : List TV} {v : TV} (ho : o.op = .extract x i) (hx : ev t x = .tup vs) (hv : vs[i]? = some v) : EffOK P A o t ⟨True, pl x, [], v⟩ :=
  .pure fun _ t' hr a E hi => by
    have hx' := ev_rel hi x
    rw [ev_eq hr, hx] at hx'
    simp only [RelV] at hx'
    obtain ⟨us, hu, hs⟩ := hx'
    obtain ⟨u, h1, h2⟩ := hs.get hv
    have h1' : us[i]? = some u := by simpa using h1
    exact ⟨u, by simp [execOp, ho, hu, Instr.extract, h1'], h2⟩

theorem evs_rel {t : S} {a : Act} {E : En} (hi : InvE A t a E) : ∀ xs : List Operand, RelVs E (xs.map (ev t)) (xs.map a.eval)
  | [] => by simp only [List.map_nil, RelVs]
  | x :: xs => by simp only [List.map_cons, RelVs]; exact ⟨_, _, rfl, ev_rel hi x, evs_rel hi xs⟩

theorem evs_eq {t t' : S} : ∀ {xs : List Operand}, (∀ p ∈ xs.flatMap pl, t' p = t p) → xs.map (ev t') = xs.map (ev t)
  | [], _ => rfl
  | x :: xs, h => by
    simp only [List.map_cons]
    rw [ev_eq (fun p hp => h p (by simp [hp])), evs_eq (fun p hp => h p (by simp only [List.flatMap_cons]; exact List.mem_append_right _ hp))]

theorem eff_makeFunc {o : Oper} {t : S} {f : FuncId} {caps : List Operand} (ho : o.op = .makeFunc (.func f) #[] caps.toArray) : EffOK P A o t ⟨True, caps.flatMap pl, [], .clo f (caps.map (ev t))⟩ :=
  .pure fun _ t' hr a E hi => by
    have h := evs_rel hi caps
    rw [evs_eq hr] at h
    refine ⟨.func (.func f) #[] (caps.map a.eval).toArray, by simp [execOp, ho, Instr.makeFunc], ?_⟩
    simp only [RelV]
    exact ⟨_, rfl, by simpa using h⟩

end
end Go.Tr

set_option linter.unusedSimpArgs false
namespace Go.Tr
open Go

section
variable {P : Program} {A : Actv}

theorem run_load_one {ty : TypeId} (h : shp P ty = some false) {a : Addr} {u : Value} {w : World} (hc : w.cell? a = some u) : (loadVar ty a).run P w = .ok u w := by
  unfold shp at h
  cases hu : P.underlying ty with
  | none => simp [hu] at h
  | some d =>
    have : (isAgg ty).run P w = .ok false w := by
      unfold isAgg
      rw [Sem.run_bind, run_underlying hu w]
      cases d <;> simp_all
    simp [loadVar, this, hc]

theorem run_load_agg {ty z : Nat} (h : shp P ty = some true) (hz : szO P ty = some z) {b o : Nat} {cs : List Value} (hl : cs.length = z) {w : World} (hc : w.rangeAt b o cs) :
    (loadVar ty ⟨b, o, none⟩).run P w = .ok (.agg cs.toArray) w := by
  unfold shp at h
  cases hu : P.underlying ty with
  | none => simp [hu] at h
  | some d =>
    refine run_loadVar_mid w b o ty cs d hc hu ?_ ?_
    · cases d <;> simp_all
    · subst hl; exact hz

theorem RepCells.range {E : En} {b o : Nat} {xs : List D} (h : RepCells E b o xs) : ∃ us : List Value, us.length = xs.length ∧ E.w.rangeAt b o us ∧ RelVs E (xs.map .d) us := by
  induction xs generalizing o with
  | nil => exact ⟨[], rfl, fun j v hv => by simp at hv, by simp only [List.map_nil, RelVs]⟩
  | cons x xs ih =>
    simp only [RepCells] at h
    obtain ⟨⟨_, u, hu, hr⟩, h2⟩ := h
    obtain ⟨us, h3, h4, h5⟩ := ih h2
    refine ⟨u :: us, by simp [h3], fun j v hv => ?_, ?_⟩
    · cases j with
      | zero => simp at hv; subst hv; simpa using hu
      | succ j =>
        have := h4 j v (by simpa using hv)
        rwa [show o + (j + 1) = o + 1 + j by omega]
    · simp only [List.map_cons, RelVs, RelV]
      exact ⟨u, us, rfl, hr, h5⟩

theorem RepCells.sub {E : En} {b o : Nat} {xs : List D} (h : RepCells E b o xs) (q z : Nat) : RepCells E b (o + q) ((xs.drop q).take z) :=
  RepCells.of_get fun i x hx => by
    have hx' : xs[q + i]? = some x := by
      rw [List.getElem?_take] at hx
      split at hx
      · simpa using hx
      · simp at hx
    have := h.get hx'
    rwa [← Nat.add_assoc] at this

theorem CellsRel.sub {E : En} {us : List Value} {o : Nat} {ts : List TV} (h : CellsRel E us o ts) (q z : Nat) : CellsRel E us (o + q) ((ts.drop q).take z) :=
  CellsRel.of_get fun i x hx => by
    have hx' : ts[q + i]? = some x := by
      rw [List.getElem?_take] at hx
      split at hx
      · simpa using hx
      · simp at hx
    have := h.get hx'
    rwa [← Nat.add_assoc] at this

theorem CellsRel.vals {E : En} {us : List Value} {o : Nat} {ts : List TV} (h : CellsRel E us o ts) : RelVs E ts ((us.drop o).take ts.length) ∧ ((us.drop o).take ts.length).length = ts.length := by
  have hl : ((us.drop o).take ts.length).length = ts.length := by
    cases ts with
    | nil => simp
    | cons t ts =>
      have := h.get (i := ts.length) (t := (t :: ts)[ts.length]) (by simp)
      obtain ⟨u, hu, _⟩ := this
      have := (List.getElem?_eq_some_iff.1 hu).1
      simp only [List.length_take, List.length_drop, List.length_cons]
      omega
  refine ⟨RelVs.of_get hl fun i t u ht hu => ?_, hl⟩
  obtain ⟨u', h1, _, h2⟩ := h.get ht
  rw [List.getElem?_take] at hu
  split at hu
  · rw [List.getElem?_drop, h1] at hu
    simp at hu; subst hu; exact h2
  · simp at hu

theorem rangeAt_list {w : World} {b : Nat} {us : List Value} (h : ∀ j u, us[j]? = some u → w.cell? ⟨b, j, none⟩ = some u) (o n : Nat) : w.rangeAt b o ((us.drop o).take n) := fun j v hv => by
  rw [List.getElem?_take] at hv
  split at hv
  · exact h _ _ (by simpa using hv)
  · simp at hv

/-- A box as it stands. -/
theorem box_cur {t : S} {a : Act} {E : En} (hi : InvE A t a E) {p : Pl} {cs : List TV} (ht : t p = .box cs) {q : Nat} {u : Value} (hu : RelV E (.ptr p q) u) :
    ∃ b ty us, u = .pointer (some ⟨b, q, none⟩) ∧ E.blk p = some b ∧ E.w.heap[b]? = some (.cells us ty (0, 0)) ∧ us.size = cs.length ∧ CellsRel E us.toList 0 cs := by
  simp only [RelV] at hu
  obtain ⟨b, hb, hu⟩ := hu
  have hp : ∀ k, p ≠ .s k := by
    rintro k rfl
    rw [hi.h.frees k] at hb; simp at hb
  have := hi.h.item p hp
  rw [ht] at this
  obtain ⟨_, b', ty, us, h1, h2, h3, h4⟩ := this
  rw [hb] at h1
  simp only [Option.some.injEq] at h1
  subst h1
  exact ⟨b, ty, us, hu, hb, h2, h3, h4⟩

theorem cell_heap {w : World} {b : Nat} {us : Array Value} {ty : TypeId} {f : Nat × Nat} (h : w.heap[b]? = some (.cells us ty f)) (j : Nat) : w.cell? ⟨b, j, none⟩ = us[j]? := by
  simp [World.cell?, h]

theorem eff_load_box {o : Oper} {t : S} {ty : TypeId} {x : Operand} {p : Pl} {q : Nat} {cs : List TV} {v : TV} (ho : o.op = .load ty x) (hx : ev t x = .ptr p q) (ht : t p = .box cs)
    (h : (shp P ty = some false ∧ cs[q]? = some v) ∨ (∃ z, shp P ty = some true ∧ szO P ty = some z ∧ q + z ≤ cs.length ∧ v = .agg ((cs.drop q).take z))) :
    EffOK P A o t ⟨True, pl x ++ [p], [], v⟩ :=
  .pure fun _ t' hr a E hi => by
    have hx' := ev_rel hi x
    rw [ev_eq (pl_left hr), hx] at hx'
    have ht' : t' p = .box cs := (pl_right hr _ (by simp)).trans ht
    obtain ⟨b, ty', us, hu, hb, hh, hs, hc⟩ := box_cur hi ht' hx'
    rcases h with ⟨h1, h2⟩ | ⟨z, h1, h2, h3, rfl⟩
    · obtain ⟨u, h4, h5, h6⟩ := hc.get h2
      refine ⟨u, ?_, h6⟩
      have hcell : E.w.cell? ⟨b, q, none⟩ = some u := by rw [cell_heap hh]; simpa using h4
      simp [execOp, ho, hu, Instr.loadAt, Instr.sureAddr, run_load_one h1 hcell]
    · have hc' := (hc.sub q z).vals
      simp only [Nat.zero_add] at hc'
      have hl : ((cs.drop q).take z).length = z := by simp; omega
      rw [hl] at hc'
      refine ⟨.agg ((us.toList.drop q).take z).toArray, ?_, ?_⟩
      · have := run_load_agg h1 h2 hc'.2 (w := E.w) (rangeAt_list (b := b) (fun j u hj => by rw [cell_heap hh]; simpa using hj) q z)
        simp only [execOp, ho, hu, Instr.loadAt, Instr.sureAddr, Sem.run_bind, Sem.run_pure, Result.andThen_ok, this]
      · simp only [RelV]; exact ⟨_, rfl, hc'.1⟩

theorem eff_load_ep {o : Oper} {t : S} {ty : TypeId} {x : Operand} {e : List D} {q : Nat} {v : TV} (ho : o.op = .load ty x) (hx : ev t x = .ep e q)
    (h : (shp P ty = some false ∧ ∃ y, e[q]? = some y ∧ v = .d y) ∨ (∃ z, shp P ty = some true ∧ szO P ty = some z ∧ q + z ≤ e.length ∧ v = .agg (((e.drop q).take z).map .d))) :
    EffOK P A o t ⟨True, pl x, [], v⟩ :=
  .pure fun _ t' hr a E hi => by
    have hx' := ev_rel hi x
    rw [ev_eq hr, hx] at hx'
    simp only [RelV] at hx'
    obtain ⟨b, of, hu, hc⟩ := hx'
    rcases h with ⟨h1, y, h2, rfl⟩ | ⟨z, h1, h2, h3, rfl⟩
    · obtain ⟨_, u, h4, h5⟩ := hc.get h2
      refine ⟨u, ?_, ?_⟩
      · simp [execOp, ho, hu, Instr.loadAt, Instr.sureAddr, run_load_one h1 h4]
      · simp only [RelV]; exact h5
    · obtain ⟨us, h4, h5, h6⟩ := (hc.sub q z).range
      have hl : us.length = z := by rw [h4]; simp; omega
      refine ⟨.agg us.toArray, ?_, ?_⟩
      · simp only [execOp, ho, hu, Instr.loadAt, Instr.sureAddr, Sem.run_bind, Sem.run_pure, Result.andThen_ok, run_load_agg h1 h2 hl h5]
      · simp only [RelV]; exact ⟨_, rfl, h6⟩

theorem eff_load_row {o : Oper} {t : S} {ty : TypeId} {x : Operand} {id n i q k : Nat} {e : TypeId} {es : List (List TV)} {sh : Bool} {v : TV} (ho : o.op = .load ty x) (hx : ev t x = .eptr id n i q) (ht : t (.o id) = .row e k es sh)
    (h : (shp P ty = some false ∧ (es.getD i [])[q]? = some v) ∨ (∃ z, shp P ty = some true ∧ szO P ty = some z ∧ q + z ≤ (es.getD i []).length ∧ v = .agg (((es.getD i []).drop q).take z))) :
    EffOK P A o t ⟨n = es.length ∧ i < es.length, pl x ++ [.o id], [], v⟩ :=
  .pure fun ⟨hn, hil⟩ t' hr a E hi => by
    have hx' := ev_rel hi x
    rw [ev_eq (pl_left hr), hx] at hx'
    have ht' : t' (.o id) = .row e k es sh := (pl_right hr _ (by simp)).trans ht
    subst hn
    obtain ⟨g, cap, us, h1, hu, h2, h3⟩ := eptr_cur hi ht' hx'
    have hg : es[i]? = some (es.getD i []) := by simp [List.getD, hil]
    obtain ⟨h4, h5⟩ := h3.get hg
    simp only [Nat.zero_add] at h5
    have hcell : ∀ j u, us[j]? = some u → E.w.cell? ⟨g, j, none⟩ = some u := fun j u hj => by
      rw [h2.cellAt j (by rw [← h2.1]; exact (List.getElem?_eq_some_iff.1 hj).1)]; exact hj
    rcases h with ⟨h6, h7⟩ | ⟨z, h6, h7, h8, rfl⟩
    · obtain ⟨u, h8, h9, h10⟩ := h5.get h7
      refine ⟨u, ?_, h10⟩
      simp [execOp, ho, hu, Instr.loadAt, Instr.sureAddr, run_load_one h6 (hcell _ _ h8)]
    · have hc' := (h5.sub q z).vals
      have hl : (((es.getD i []).drop q).take z).length = z := by simp at h8 ⊢; omega
      rw [hl] at hc'
      refine ⟨.agg ((us.drop (i * k + q)).take z).toArray, ?_, ?_⟩
      · simp only [execOp, ho, hu, Instr.loadAt, Instr.sureAddr, Sem.run_bind, Sem.run_pure, Result.andThen_ok, run_load_agg h6 h7 hc'.2 (rangeAt_list hcell _ z)]
      · simp only [RelV]; exact ⟨_, rfl, hc'.1⟩

/-! ### len -/
theorem eff_len_sl {o : Oper} {t : S} {x : Operand} {ty e : TypeId} {xs : List (List D)} (ho : o.op = .call { callee := .builtin .len, args := #[x], argTypes := #[ty] }) (he : slE P ty = some e) (hx : ev t x = .d (.sl xs)) :
    EffOK P A o t ⟨True, pl x, [], .d (.int .i64 xs.length)⟩ :=
  .pure fun _ t' hr a E hi => by
    have hx' := ev_rel hi x
    rw [ev_eq hr, hx] at hx'
    simp only [RelV, Rep] at hx'
    unfold slE at he
    split at he
    · rename_i e' hu
      have hlen : ∃ ad c, a.eval x = .slice ad xs.length c := by
        rcases hx' with ⟨h0, ad, c, h⟩ | ⟨b, of, c, k, h, _⟩
        · exact ⟨ad, c, by rw [h, h0]⟩
        · exact ⟨_, c, h⟩
      obtain ⟨ad, c, h⟩ := hlen
      refine ⟨_, ?_, rfl⟩
      simp [execOp, ho, resolve, invoke, builtin, h, Builtin.len_, run_underlying hu, goInt]
    · simp at he

theorem eff_len_nil {o : Oper} {t : S} {x : Operand} {ty e : TypeId} {ad : Option Addr} {n c : Nat} (ho : o.op = .call { callee := .builtin .len, args := #[x], argTypes := #[ty] }) (he : slE P ty = some e) (hx : ev t x = .c (.slice ad n c)) :
    EffOK P A o t ⟨True, pl x, [], .d (.int .i64 n)⟩ :=
  .pure fun _ t' hr a E hi => by
    have hx' := ev_rel hi x
    rw [ev_eq hr, hx] at hx'
    simp only [RelV] at hx'
    unfold slE at he
    split at he
    · rename_i e' hu
      refine ⟨_, ?_, rfl⟩
      simp [execOp, ho, resolve, invoke, builtin, hx', Builtin.len_, run_underlying hu, goInt]
    · simp at he

theorem eff_len_row {o : Oper} {t : S} {x : Operand} {ty e : TypeId} {id n k : Nat} {e' : TypeId} {es : List (List TV)} {sh : Bool} (ho : o.op = .call { callee := .builtin .len, args := #[x], argTypes := #[ty] }) (he : slE P ty = some e) (hx : ev t x = .oref id n)
    (ht : t (.o id) = .row e' k es sh) : EffOK P A o t ⟨n = es.length, pl x ++ [.o id], [], .d (.int .i64 n)⟩ :=
  .pure fun hC t' hr a E hi => by
    have hx' := ev_rel hi x
    rw [ev_eq (pl_left hr), hx] at hx'
    have ht' : t' (.o id) = .row e' k es sh := (pl_right hr _ (by simp)).trans ht
    subst hC
    obtain ⟨_, v, us, h2, h3, h4, h5⟩ := row_cur hi ht'
    have hv := h5 _ hx'
    unfold slE at he
    split at he
    · rename_i e' hu
      have hlen : ∃ ad c, a.eval x = .slice ad es.length c := by
        rcases h3.2 with ⟨rfl, h0⟩ | ⟨g, cap, cur, rfl, _⟩
        · exact ⟨none, 0, by rw [hv, h0]⟩
        · exact ⟨_, cap, hv⟩
      obtain ⟨ad, c, h⟩ := hlen
      refine ⟨_, ?_, rfl⟩
      simp [execOp, ho, resolve, invoke, builtin, h, Builtin.len_, run_underlying hu, goInt]
    · simp at he

theorem eff_len_str {o : Oper} {t : S} {x : Operand} {ty : TypeId} {s : ByteArray} (ho : o.op = .call { callee := .builtin .len, args := #[x], argTypes := #[ty] }) (he : isStr P ty = true) (hx : ev t x = .d (.str s)) :
    EffOK P A o t ⟨True, pl x, [], .d (.int .i64 s.size)⟩ :=
  .pure fun _ t' hr a E hi => by
    have hx' := ev_rel hi x
    rw [ev_eq hr, hx] at hx'
    simp only [RelV, Rep] at hx'
    unfold isStr at he
    split at he
    · rename_i hu
      refine ⟨_, ?_, rfl⟩
      simp [execOp, ho, resolve, invoke, builtin, hx', Builtin.len_, run_underlying hu, goInt]
    · simp at he

end
end Go.Tr

set_option linter.unusedSimpArgs false
namespace Go.Tr
open Go

section
variable {P : Program} {A : Actv}

theorem Fr.next {E0 E E' : En} (f : Fr E0 E) (os : E'.w.os = E.w.os) (tape : E'.w.tape = E.w.tape) (output : E'.w.output = E.w.output) (size : E.w.heap.size ≤ E'.w.heap.size)
    (old : ∀ b, b < E0.w.heap.size → (∀ i, E0.blk (.x i) ≠ some b) → (∀ j, E0.own (.o j) ≠ some b) → E'.w.heap[b]? = E.w.heap[b]?) (xb : ∀ i, E'.blk (.x i) = E.blk (.x i))
    (new : ∀ id b, E'.own (.o id) = some b → E.own (.o id) = some b ∨ E.w.heap.size ≤ b) (st : ∀ b o, E.St b o → E'.St b o)
    (newst : ∀ b o, E'.St b o → E.St b o ∨ (E0.w.heap.size ≤ b ∨ ∃ j, E0.own (.o j) = some b)) : Fr E0 E' :=
  ⟨os.trans f.os, tape.trans f.tape, output.trans f.output, Nat.le_trans f.size size, fun b h1 h2 h3 => (old b h1 h2 h3).trans (f.old b h1 h2 h3), fun i => (xb i).trans (f.xb i),
    fun id b h => (new id b h).elim (f.new id b) (fun h => .inl (Nat.le_trans f.size h)), fun b o h => st b o (f.st b o h), fun b o h => (newst b o h).elim (f.newst b o) .inr⟩

theorem InvE.step {t t' : S} {a : Act} {E E' : En} (h : InvE A t a E) (hH : HInv E' t') (x : ExtA E E') (fr : Fr A.E0 E') (hs : ∀ k, t' (.s k) = t (.s k)) : InvE A t' a E' :=
  ⟨hH, fr, fun k tv hk => by
    obtain ⟨u, h1, h2⟩ := h.sl k tv (by rw [← hs]; exact hk)
    exact ⟨u, h1, h2.up x⟩, h.defers, h.size⟩

theorem upd_s {t : S} {p : Pl} {i : It} (hp : ∀ k, p ≠ .s k) (k : Nat) : upd t p i (.s k) = t (.s k) := by
  rw [upd, if_neg (fun e => hp k e.symm)]

theorem InvE.put {t : S} {a : Act} {E : En} (h : InvE A t a E) {d : Nat} (hd : d < A.N) {tv : TV} {u : Value} (hr : RelV E tv u) : InvE A (upd t (.s d) (.v tv)) (a.put (some d) u) E := by
  have hsz := h.size
  refine ⟨h.h.slot d _, h.fr, fun k tv' hk => ?_, h.defers, by simpa [Act.put] using hsz⟩
  by_cases e : k = d
  · subst e
    simp only [upd, if_true, It.v.injEq] at hk
    subst hk
    have hlt : k < a.tmps.size := by omega
    exact ⟨u, by simp [Act.put, hlt], hr⟩
  · simp only [upd, Pl.s.injEq, e, if_false] at hk
    obtain ⟨u', h1, h2⟩ := h.sl k tv' hk
    exact ⟨u', by simp [Act.put, Array.getElem?_setIfInBounds, show ¬ d = k from fun h => e h.symm, h1], h2⟩

theorem upd_same (t : S) (p : Pl) (i : It) : upd t p i p = i := by simp [upd]
theorem upd_other (t : S) {p q : Pl} (i : It) (h : q ≠ p) : upd t p i q = t q := by simp [upd, h]

/-- A new box. -/
theorem InvE.newBox {t : S} {a : Act} {E : En} (h : InvE A t a E) {d : Nat} (hd : t (.o d) = .none) {us : Array Value} {cs : List TV} (hs : us.size = cs.length) (hc : CellsRel E us.toList 0 cs) (ty : TypeId) :
    ∃ E' : En, E'.w = E.w.alloc (.cells us ty) ∧ InvE A (upd t (.o d) (.box cs)) a E' ∧ RelV E' (.ptr (.o d) 0) (.pointer (some ⟨E.w.heap.size, 0, none⟩)) := by
  have hfree := h.h.item (.o d) (by simp)
  rw [hd] at hfree
  obtain ⟨hb0, hv0⟩ := hfree d rfl
  let E' : En := { w := E.w.alloc (.cells us ty), St := E.St, blk := fun p => if p = .o d then some E.w.heap.size else E.blk p, val := E.val }
  have hold : ∀ b, b < E.w.heap.size → E'.w.heap[b]? = E.w.heap[b]? := fun b hb => heap_alloc_old E.w _ b hb
  have x : ExtA E E' := by
    refine ⟨fun _ _ h => h, fun b o hst => World.cell?_of_block (hold b (h.h.stsz b o hst)), fun id b _ he => ?_, fun i b he => by simpa [E'] using he, fun i b he => by simpa [E'] using he, fun _ _ c v _ hv => ⟨c, v, hv, Nat.le_refl _, fun _ => rfl⟩⟩
    by_cases e : id = d
    · subst e; rw [hb0] at he; simp at he
    · simpa [E', e] using he
  have hown : E'.own (.o d) = some E.w.heap.size := by simp [En.own, E']
  have hownq : ∀ q, q ≠ .o d → E'.own q = E.own q := fun q hq => En.own_eq (by simp [E', hq]) (fun _ _ => rfl)
  have hH : HInv E' (upd t (.o d) (.box cs)) := by
    refine h.h.change (by simp) x (fun b o hst => .inl hst) (fun q hq => by simp [E', hq]) (fun id hid => rfl) (by simp [E']) (fun q b hq hb => hold b (h.h.size q b hb)) (fun b hb => ?_) ?_ (fun b o hst hb => ?_)
    · rw [hown] at hb; simp at hb; subst hb; exact ⟨by simp [E'], .inr (Nat.le_refl _)⟩
    · refine ⟨fun id hid => ?_, E.w.heap.size, ty, us, by simp [E'], heap_alloc_new E.w _, hs, hc.up x⟩
      simp only [Pl.o.injEq] at hid; subst hid; exact hv0
    · rw [hown] at hb; simp at hb; subst hb
      exact absurd (h.h.stsz _ _ hst) (by omega)
  refine ⟨E', rfl, h.step hH x (h.fr.next rfl rfl rfl (by simp [E']) (fun b hb _ _ => hold b (Nat.lt_of_lt_of_le hb h.fr.size)) (fun i => by simp [E']) (fun id b hb => ?_) (fun _ _ h => h) (fun _ _ h => .inl h)) (fun k => upd_s (by simp) k), ?_⟩
  · by_cases e : id = d
    · subst e; rw [hown] at hb; simp at hb; subst hb; exact .inr (Nat.le_refl _)
    · rw [hownq _ (by simpa using e)] at hb; exact .inl hb
  · simp only [RelV]; exact ⟨E.w.heap.size, by simp [E'], rfl⟩

theorem cells_ofCell (E : En) (us : List Value) (h : us.all (·.oneCell') = true) : CellsRel E us 0 (us.map ofCell) :=
  (ofCells_rel E us).cells (fun t ht => by
    obtain ⟨v, hv, rfl⟩ := List.mem_map.1 ht
    have := List.all_eq_true.1 h v hv
    unfold ofCell; split <;> first | rfl | exact this)

def zcells : Value → List Value
  | .agg cs => cs.toList
  | v => [v]

theorem zcells_eq (v : Value) : zcells v = v.cells.toList := by cases v <;> rfl

theorem eff_alloc {o : Oper} {t : S} {ty d : Nat} {z : Value} (ho : o.op = .alloc ty) (hz : zrO P ty = some z) (h1 : (zcells z).all (·.oneCell') = true) :
    EffOK P A o t ⟨t (.o d) = .none, [.o d], [(.o d, .box ((zcells z).map ofCell))], .ptr (.o d) 0⟩ := fun hC t' hr a E hi => by
  have ht' : t' (.o d) = .none := (hr _ (by simp)).trans hC
  rw [zcells_eq] at h1
  obtain ⟨E', hw, hinv, hrel⟩ := hi.newBox ht' (us := z.cells) (cs := (zcells z).map ofCell) (by simp [zcells_eq]) (by rw [zcells_eq]; exact cells_ofCell E _ h1) ty
  refine ⟨_, _, E', ?_, .inl rfl, hinv, hrel⟩
  unfold zrO at hz
  cases hinf : P.info? ty with
  | none => simp [hinf] at hz
  | some inf =>
    simp only [hinf, Option.bind_some] at hz
    simp [execOp, ho, Instr.alloc, zeroValue, typeInfo, hinf, hz, newVar, newRow, hw]

theorem cells_rel {E : En} : ∀ {v : TV} {u : Value}, RelV E v u → (∀ c ∈ v.cells, c.one = true) → u.cells.size = v.cells.length ∧ CellsRel E u.cells.toList 0 v.cells := by
  intro v u hr h1
  have single : v.cells = [v] → u.cells.size = v.cells.length ∧ CellsRel E u.cells.toList 0 v.cells := by
    intro hv
    rw [hv] at h1 ⊢
    have ho := hr.one (h1 v (by simp))
    have hu : u.cells = #[u] := by cases u <;> first | rfl | simp [Value.oneCell'] at ho
    rw [hu]
    exact ⟨rfl, ⟨u, rfl, ho, hr⟩, trivial⟩
  cases v with
  | agg vs =>
    simp only [RelV] at hr
    obtain ⟨us, rfl, hs⟩ := hr
    exact ⟨by simpa [Value.cells, TV.cells] using hs.length, hs.cells h1⟩
  | _ => exact single rfl

theorem eff_box {o : Oper} {t : S} {ty d : Nat} {x : Operand} (ho : o.op = .box ty x) :
    EffOK P A o t ⟨t (.o d) = .none ∧ ∀ c ∈ (ev t x).cells, c.one = true, pl x ++ [.o d], [(.o d, .box (ev t x).cells)], .ptr (.o d) 0⟩ := fun ⟨hC, h1⟩ t' hr a E hi => by
  have hx := ev_rel hi x
  rw [ev_eq (pl_left hr)] at hx
  have ht' : t' (.o d) = .none := (pl_right hr _ (by simp)).trans hC
  obtain ⟨hs, hc⟩ := cells_rel hx h1
  obtain ⟨E', hw, hinv, hrel⟩ := hi.newBox ht' hs hc ty
  refine ⟨_, _, E', ?_, .inl rfl, hinv, hrel⟩
  simp [execOp, ho, Instr.box, newVar, newRow, hw]

/-! ### stores -/
def setAt (cs : List TV) (q : Nat) (vs : List TV) : List TV := cs.take q ++ (vs ++ cs.drop (q + vs.length))

theorem setAt_length {cs vs : List TV} {q : Nat} (h : q + vs.length ≤ cs.length) : (setAt cs q vs).length = cs.length := by
  simp [setAt]; omega

theorem setAt_get {cs vs : List TV} {q : Nat} (h : q + vs.length ≤ cs.length) (i : Nat) : (setAt cs q vs)[i]? = if i < q then cs[i]? else if i < q + vs.length then vs[i - q]? else cs[i]? := by
  unfold setAt
  by_cases h1 : i < q
  · rw [List.getElem?_append_left (by simp; omega), List.getElem?_take, if_pos h1, if_pos h1]
  · rw [List.getElem?_append_right (by simp; omega), if_neg h1]
    have hl : (cs.take q).length = q := by simp; omega
    rw [hl]
    by_cases h2 : i < q + vs.length
    · rw [List.getElem?_append_left (by omega), if_pos h2]
    · rw [List.getElem?_append_right (by omega), if_neg h2, List.getElem?_drop]
      congr 1
      omega

theorem run_store_row {w : World} {b q : Nat} {ty : TypeId} {cur : Array Value} {e : TypeId} (hh : w.heap[b]? = some (.cells cur e (0, 0))) {v : Value} {z : Nat} (hz : szO P ty = some z) (hs : v.cells.size = z)
    (hl : q + z ≤ cur.size) (h1 : ∀ u ∈ v.cells.toList, u.oneCell' = true) :
    (storeVar ty ⟨b, q, none⟩ v).run P w = .ok () (w.setRow b (cur.toList.take q ++ v.cells.toList ++ cur.toList.drop (q + v.cells.size)).toArray) := by
  have hst := run_storeCells_at P b q e v.cells.toList 0 cur w hh (by simp; omega) h1
  simp only [Nat.add_zero, Array.length_toList] at hst
  unfold szO at hz
  cases hinf : P.info? ty with
  | none => simp [hinf] at hz
  | some inf =>
    simp only [hinf, Option.map_some, Option.some.injEq] at hz
    simp only [storeVar, sizeOf, typeInfo, Sem.run_bind, run_program, Result.andThen_ok, hinf, Sem.run_pure, hs, hz, ne_eq, not_true_eq_false, if_false, pure_bind]
    simpa [hs] using hst

theorem get_put {α : Type} {cur vs : List α} {q : Nat} (h : q + vs.length ≤ cur.length) (i : Nat) : (cur.take q ++ vs ++ cur.drop (q + vs.length))[i]? = if i < q then cur[i]? else if i < q + vs.length then vs[i - q]? else cur[i]? := by
  rw [List.append_assoc]
  by_cases h1 : i < q
  · rw [List.getElem?_append_left (by simp; omega), List.getElem?_take, if_pos h1, if_pos h1]
  · rw [List.getElem?_append_right (by simp; omega), if_neg h1]
    have hl : (cur.take q).length = q := by simp; omega
    rw [hl]
    by_cases h2 : i < q + vs.length
    · rw [List.getElem?_append_left (by omega), if_pos h2]
    · rw [List.getElem?_append_right (by omega), if_neg h2, List.getElem?_drop]
      congr 1
      omega

theorem setRow_heap_self {w : World} {b : Nat} {cur : Array Value} {e : TypeId} (hh : w.heap[b]? = some (.cells cur e (0, 0))) (cs : Array Value) : (w.setRow b cs).heap[b]? = some (.cells cs e (0, 0)) :=
  setRow_heap w b cur cs e (0, 0) hh

theorem eff_store_box {o : Oper} {t : S} {ty : TypeId} {x y : Operand} {p : Pl} {q : Nat} {cs vs : List TV} (ho : o.op = .store ty x y) (hx : ev t x = .ptr p q) (ht : t p = .box cs) (hv : (ev t y).cells = vs) (hz : szO P ty = some vs.length) :
    EffOK P A o t ⟨q + vs.length ≤ cs.length ∧ ∀ c ∈ vs, c.one = true, pl x ++ (pl y ++ [p]), [(p, .box (setAt cs q vs))], .junk⟩ := fun ⟨hl, h1⟩ t' hr a E hi => by
  have hx' := ev_rel hi x
  rw [ev_eq (pl_left hr), hx] at hx'
  have hy' := ev_rel hi y
  rw [ev_eq (pl_left (pl_right hr))] at hy'
  have ht' : t' p = .box cs := (pl_right (pl_right hr) _ (by simp)).trans ht
  obtain ⟨hs, hc⟩ := cells_rel hy' (by rw [hv]; exact h1)
  rw [hv] at hs hc
  obtain ⟨b, ty', us, hu, hb, hh, hus, hcs⟩ := box_cur hi ht' hx'
  have hp : ∀ k, p ≠ .s k := by
    rintro k rfl
    rw [hi.h.frees k] at hb; simp at hb
  have hob : E.own p = some b := by simp [En.own, hb]
  have hone : ∀ u ∈ (a.eval y).cells.toList, u.oneCell' = true := fun u hu => by
    obtain ⟨i, hi', rfl⟩ := List.getElem_of_mem hu
    have hlt : i < vs.length := by rw [← hs]; simpa using hi'
    obtain ⟨u', h2, h3, _⟩ := hc.get (i := i) (t := vs[i]) (by simp [hlt])
    simp only [Nat.zero_add, List.getElem?_eq_getElem hi', Option.some.injEq] at h2
    subst h2; exact h3
  let arr : Array Value := (us.toList.take q ++ (a.eval y).cells.toList ++ us.toList.drop (q + (a.eval y).cells.size)).toArray
  have hrun := run_store_row (P := P) hh (b := b) (q := q) (v := a.eval y) hz hs (by omega) hone
  let E' : En := { E with w := E.w.setRow b arr }
  have hother : ∀ b', b' ≠ b → E'.w.heap[b']? = E.w.heap[b']? := fun b' hne => setRow_other E.w b b' _ hne
  have hstb : ∀ b' o', E.St b' o' → b' ≠ b := fun b' o' hst e => by
    subst e
    obtain ⟨e', k', es', h2, _⟩ := hi.h.sep _ _ hst p hob
    rw [ht'] at h2; simp at h2
  have x : ExtA E E' := ⟨fun _ _ h => h, fun b' o' hst => World.cell?_of_block (hother b' (hstb b' o' hst)), fun _ _ _ h => h, fun _ _ h => h, fun _ _ h => h, fun _ _ c v _ hv => ⟨c, v, hv, Nat.le_refl _, fun _ => rfl⟩⟩
  have harr : arr.size = us.size := by simp [arr]; omega
  have hsz : E'.w.heap.size = E.w.heap.size := by simp [E', World.setRow]
  have hH : HInv E' (upd t' p (.box (setAt cs q vs))) := by
    refine hi.h.change hp x (fun b o hst => .inl hst) (fun q hq => rfl) (fun id hid => rfl) (by rw [hsz]; exact Nat.le_refl _) (fun q' b' hq hb' => hother b' (fun e => hq (hi.h.inj _ _ _ (e ▸ hb') hob)))
      (fun b' hb' => ?_) ?_ (fun b' o' hst hb' => ?_)
    · have : E'.own p = E.own p := rfl
      rw [this] at hb'
      exact ⟨by rw [hsz]; exact hi.h.size _ _ hb', .inl hb'⟩
    · have hold := hi.h.item p hp
      rw [ht'] at hold
      refine ⟨hold.1, b, ty', arr, hb, setRow_heap_self hh arr, by rw [harr, hus, setAt_length hl], CellsRel.of_get fun i tv hi' => ?_⟩
      rw [setAt_get hl] at hi'
      have hget := get_put (cur := us.toList) (vs := (a.eval y).cells.toList) (q := q) (by simp; omega) i
      simp only [Array.length_toList, hs] at hget
      simp only [arr, Nat.zero_add, List.toList_toArray, hs, hget]
      by_cases h2 : i < q
      · rw [if_pos h2] at hi' ⊢
        obtain ⟨u, h3, h4, h5⟩ := hcs.get hi'
        exact ⟨u, by simpa using h3, h4, h5.up x⟩
      · rw [if_neg h2] at hi' ⊢
        by_cases h3 : i < q + vs.length
        · rw [if_pos h3] at hi' ⊢
          obtain ⟨u, h3, h4, h5⟩ := hc.get hi'
          exact ⟨u, by simpa using h3, h4, h5.up x⟩
        · rw [if_neg h3] at hi' ⊢
          obtain ⟨u, h3, h4, h5⟩ := hcs.get hi'
          exact ⟨u, by simpa using h3, h4, h5.up x⟩
    · have he : E'.own p = E.own p := rfl
      rw [he, hob] at hb'
      exact absurd (Option.some.inj hb').symm (hstb b' o' hst)
  refine ⟨.skip, undef, E', ?_, .inr ⟨rfl, rfl⟩, hi.step hH x (hi.fr.next rfl rfl rfl (by rw [hsz]; exact Nat.le_refl _) (fun b' h2 h3 h4 => hother b' (fun e => ?_)) (fun _ => rfl) (fun id b' hb' => .inl hb') (fun _ _ h => h) (fun _ _ h => .inl h)) (fun k => upd_s hp k), by simp only [RelV]⟩
  · simp only [execOp, ho, hu, Instr.storeAt, Instr.sureAddr, Sem.run_bind, Sem.run_pure, Result.andThen_ok, hrun, E', arr]
  · subst e
    cases p with
    | s k => exact hp k rfl
    | x k => exact h3 k ((hi.fr.xb k).symm.trans hb)
    | o id => exact (hi.fr.new id b' hob).elim (fun h => by omega) (fun ⟨j, h⟩ => h4 j h)

end
end Go.Tr

set_option linter.unusedSimpArgs false
namespace Go.Tr
open Go

section
variable {P : Program} {A : Actv}

/-- A row changes (its value, its cells; perhaps its block). -/
theorem InvE.rowStep {t : S} {a : Act} {E : En} (hi : InvE A t a E) {id k : Nat} {e : TypeId} {es es' : List (List TV)} {sh sh' : Bool} (ht : t (.o id) = .row e k es sh)
    {v v' : Value} {us' : List Value} {w' : World} (hval : E.val id = some (k, es.length, v)) (hg : E.w.grownBy w' v.ownBlock) (hown : w'.ownsRow 0 e k v' es'.length us')
    (hle : es.length ≤ es'.length) (heq : es.length = es'.length → v' = v) (hob : v'.ownBlock = v.ownBlock ∨ v'.ownBlock = some E.w.heap.size)
    (hst : ∀ b o, E.St b o → w'.cell? ⟨b, o, none⟩ = E.w.cell? ⟨b, o, none⟩) (hsh : sh = true → sh' = true)
    (hrel : ∀ E' : En, E'.w = w' → ExtA E E' → RowRel E' us' k 0 es') :
    ∃ E' : En, E'.w = w' ∧ ExtA E E' ∧ InvE A (upd t (.o id) (.row e k es' sh')) a E' ∧ E'.val id = some (k, es'.length, v') := by
  have hit := hi.h.item (.o id) (by simp)
  rw [ht] at hit
  obtain ⟨hb0, _⟩ := hit
  have hownp : E.own (.o id) = v.ownBlock := by simp [En.own, hb0, hval]
  let E' : En := { E with w := w', val := fun i => if i = id then some (k, es'.length, v') else E.val i }
  have hv' : E'.val id = some (k, es'.length, v') := by simp [E']
  have hownp' : E'.own (.o id) = v'.ownBlock := by simp [En.own, E', hb0]
  have x : ExtA E E' := by
    refine ⟨fun _ _ h => h, hst, fun _ _ _ h => h, fun _ _ h => h, fun _ _ h => h, fun i k' c u _ hu => ?_⟩
    by_cases e : i = id
    · subst e
      rw [hval] at hu
      simp only [Option.some.injEq, Prod.mk.injEq] at hu
      obtain ⟨rfl, rfl, rfl⟩ := hu
      exact ⟨_, _, hv', hle, heq⟩
    · exact ⟨c, u, by simp [E', e, hu], Nat.le_refl _, fun _ => rfl⟩
  have hothb : ∀ q b, q ≠ .o id → E.own q = some b → w'.heap[b]? = E.w.heap[b]? := fun q b hq hb => by
    refine hg.block b (hi.h.size q b hb) (fun e => hq (hi.h.inj _ _ b hb ?_))
    rw [hownp, ← e]
  have hH : HInv E' (upd t (.o id) (.row e k es' sh')) := by
    refine hi.h.change (by simp) x (fun b o h => .inl h) (fun q hq => rfl) (fun i hne => ?_) hg.size hothb (fun b hb => ?_) ⟨hb0, id, v', us', rfl, hv', hown, hrel E' rfl x⟩ (fun b o hs hb => ?_)
    · have hne' : i ≠ id := fun e => hne (by rw [e])
      simp [E', hne']
    · rw [hownp'] at hb
      rw [hownp]
      exact ⟨(hown.lt b hb).2, hob.elim (fun e => .inl (e ▸ hb)) (fun e => .inr (by rw [e] at hb; simp at hb; omega))⟩
    · rw [hownp'] at hb
      rcases hob with e' | e'
      · obtain ⟨e2, k2, es2, h1, h2⟩ := hi.h.sep b o hs (.o id) (by rw [hownp, ← e', hb])
        rw [ht] at h1
        simp only [It.row.injEq] at h1
        obtain ⟨rfl, rfl, rfl, hs1⟩ := h1
        exact ⟨e, k, es', by rw [hsh hs1], Nat.lt_of_lt_of_le h2 (Nat.mul_le_mul_right _ hle)⟩
      · rw [e'] at hb; simp at hb
        have := hi.h.stsz _ _ hs
        omega
  refine ⟨E', rfl, x, hi.step hH x (hi.fr.next hg.os hg.tape hg.output hg.size (fun b h1 h2 h3 => hg.block b (Nat.lt_of_lt_of_le h1 hi.fr.size) (fun e => ?_)) (fun _ => rfl) (fun i b hb => ?_) (fun _ _ h => h) (fun _ _ h => .inl h)) (fun k => upd_s (by simp) k), hv'⟩
  · exact (hi.fr.new id b (by rw [hownp, ← e])).elim (fun h => by omega) (fun ⟨j, h⟩ => h3 j h)
  · by_cases e : i = id
    · subst e
      rw [hownp'] at hb
      rw [hownp]
      exact hob.elim (fun e => .inl (e ▸ hb)) (fun e => .inr (by rw [e] at hb; simp at hb; omega))
    · have : E'.own (.o i) = E.own (.o i) := En.own_eq rfl (fun j hj => by simp only [Pl.o.injEq] at hj; subst hj; simp [E', e])
      rw [this] at hb; exact .inl hb

theorem listSet_get {α : Type} {l : List α} {i : Nat} (h : i < l.length) (v : α) (j : Nat) : (l.set i v)[j]? = if j = i then some v else l[j]? := by
  rw [List.getElem?_set]
  by_cases e : i = j
  · subst e; simp [h]
  · simp [e, show ¬ j = i from fun h => e h.symm]

theorem eff_store_row {o : Oper} {t : S} {ty : TypeId} {x y : Operand} {id n i q k : Nat} {e : TypeId} {es : List (List TV)} {vs : List TV} (ho : o.op = .store ty x y) (hx : ev t x = .eptr id n i q) (ht : t (.o id) = .row e k es false)
    (hv : (ev t y).cells = vs) (hz : szO P ty = some vs.length) :
    EffOK P A o t ⟨n = es.length ∧ i < es.length ∧ q + vs.length ≤ (es.getD i []).length ∧ ∀ c ∈ vs, c.one = true, pl x ++ (pl y ++ [.o id]), [(.o id, .row e k (es.set i (setAt (es.getD i []) q vs)) false)], .junk⟩ := fun ⟨hn, hil, hl, h1⟩ t' hr a E hi => by
  have hx' := ev_rel hi x
  rw [ev_eq (pl_left hr), hx] at hx'
  have hy' := ev_rel hi y
  rw [ev_eq (pl_left (pl_right hr))] at hy'
  have ht' : t' (.o id) = .row e k es false := (pl_right (pl_right hr) _ (by simp)).trans ht
  subst hn
  obtain ⟨hs, hc⟩ := cells_rel hy' (by rw [hv]; exact h1)
  rw [hv] at hs hc
  obtain ⟨g, cap, us, hval, hu, hown, hrow⟩ := eptr_cur hi ht' hx'
  have hone : ∀ u ∈ (a.eval y).cells.toList, u.oneCell' = true := fun u hu => by
    obtain ⟨i, hi', rfl⟩ := List.getElem_of_mem hu
    have hlt : i < vs.length := by rw [← hs]; simpa using hi'
    obtain ⟨u', h2, h3, _⟩ := hc.get (i := i) (t := vs[i]) (by simp [hlt])
    simp only [Nat.zero_add, List.getElem?_eq_getElem hi', Option.some.injEq] at h2
    subst h2; exact h3
  have hgel : es[i]? = some (es.getD i []) := by simp [List.getD, hil]
  obtain ⟨hlen, hcell⟩ := hrow.get hgel
  simp only [Nat.zero_add] at hcell
  rcases hown.2 with ⟨h4, _⟩ | ⟨g', cap', cur, h4, hg0, hgg, hnc, hcm, hcs, htake⟩
  · simp at h4
  simp only [Value.slice.injEq, Option.some.injEq, Addr.mk.injEq, true_and, and_true] at h4
  obtain ⟨rfl, rfl⟩ := h4
  have hmul : i * k + k ≤ es.length * k := by
    have : (i + 1) * k ≤ es.length * k := Nat.mul_le_mul_right k hil
    rwa [Nat.add_mul, Nat.one_mul] at this
  have hmul2 : es.length * k ≤ cap * k := Nat.mul_le_mul_right k hnc
  let arr : Array Value := (cur.toList.take (i * k + q) ++ (a.eval y).cells.toList ++ cur.toList.drop (i * k + q + (a.eval y).cells.size)).toArray
  have hrun := run_store_row (P := P) hgg (q := i * k + q) (v := a.eval y) hz hs (by omega) hone
  have harr : arr.size = cur.size := by simp [arr]; omega
  have hget := get_put (cur := cur.toList) (vs := (a.eval y).cells.toList) (q := i * k + q) (by simp; omega)
  simp only [Array.length_toList, hs] at hget
  let us' := arr.toList.take (es.length * k)
  have hus' : ∀ j, j < es.length * k → us'[j]? = if j < i * k + q then us[j]? else if j < i * k + q + vs.length then (a.eval y).cells.toList[j - (i * k + q)]? else us[j]? := fun j hj => by
    have h6 : us[j]? = cur.toList[j]? := by rw [← htake, List.getElem?_take, if_pos hj]
    simp only [us', arr, List.toList_toArray, List.getElem?_take, if_pos hj, hs, hget, h6]
  have hgrown : E.w.grownBy (E.w.setRow g arr) (Value.ownBlock (.slice (some ⟨g, 0, none⟩) es.length cap)) :=
    ⟨rfl, rfl, rfl, by simp [World.setRow], fun b _ hne => setRow_other E.w g b _ (fun e => hne (by simp [Value.ownBlock, e]))⟩
  have hes : (es.set i (setAt (es.getD i []) q vs)).length = es.length := by simp
  have hblkown : E.own (.o id) = some g := by
    have hit := hi.h.item (.o id) (by simp)
    rw [ht'] at hit
    simp [En.own, hit.1, hval, Value.ownBlock]
  obtain ⟨E', hw', x, hinv, hval'⟩ := hi.rowStep ht' (v' := .slice (some ⟨g, 0, none⟩) es.length cap) (us' := us') (es' := es.set i (setAt (es.getD i []) q vs)) (sh' := false) hval hgrown
    (by
      rw [hes]
      refine ⟨by simp [us', harr]; omega, .inr ⟨g, cap, arr, rfl, hg0, setRow_heap_self hgg arr, hnc, hcm, by rw [harr, hcs], rfl⟩⟩)
    (by rw [hes]; exact Nat.le_refl _) (fun _ => rfl) (.inl rfl)
    (fun b o' hst => by
      by_cases e : b = g
      · subst e
        obtain ⟨e', k', es', h2, _⟩ := hi.h.sep _ _ hst _ hblkown
        rw [ht'] at h2; simp at h2
      · exact World.cell?_of_block (setRow_other E.w g b _ e))
    (fun h => h)
    (fun E' hw' x => RowRel.of_get fun i' el hel => by
      rw [listSet_get hil] at hel
      have hlt : i' < es.length := by
        by_cases e : i' = i
        · omega
        · rw [if_neg e] at hel; exact (List.getElem?_eq_some_iff.1 hel).1
      have hm' : i' * k + k ≤ es.length * k := by
        have : (i' + 1) * k ≤ es.length * k := Nat.mul_le_mul_right k hlt
        rwa [Nat.add_mul, Nat.one_mul] at this
      by_cases e : i' = i
      · subst e
        rw [if_pos rfl] at hel
        simp only [Option.some.injEq] at hel
        subst hel
        refine ⟨by rw [setAt_length hl, hlen], CellsRel.of_get fun j tv hj => ?_⟩
        rw [setAt_get hl] at hj
        have hjk : j < k := by
          by_cases h2 : j < q
          · omega
          · rw [if_neg h2] at hj
            by_cases h3 : j < q + vs.length
            · omega
            · rw [if_neg h3] at hj; have := (List.getElem?_eq_some_iff.1 hj).1; omega
        rw [Nat.zero_add, hus' _ (by omega)]
        by_cases h2 : j < q
        · rw [if_pos h2] at hj
          rw [if_pos (by omega)]
          obtain ⟨u, h5, h6, h7⟩ := hcell.get hj
          exact ⟨u, h5, h6, h7.up x⟩
        · rw [if_neg h2] at hj
          rw [if_neg (by omega)]
          by_cases h3 : j < q + vs.length
          · rw [if_pos h3] at hj
            rw [if_pos (by omega)]
            obtain ⟨u, h5, h6, h7⟩ := hc.get hj
            refine ⟨u, ?_, h6, h7.up x⟩
            rw [show i' * k + j - (i' * k + q) = j - q by omega]
            simpa using h5
          · rw [if_neg h3] at hj
            rw [if_neg (by omega)]
            obtain ⟨u, h5, h6, h7⟩ := hcell.get hj
            exact ⟨u, h5, h6, h7.up x⟩
      · rw [if_neg e] at hel
        obtain ⟨h8, h9⟩ := hrow.get hel
        refine ⟨h8, CellsRel.of_get fun j tv hj => ?_⟩
        have hjk : j < k := by have := (List.getElem?_eq_some_iff.1 hj).1; omega
        rw [Nat.zero_add, hus' _ (by omega)]
        obtain ⟨u, h5, h6, h7⟩ := h9.get hj
        simp only [Nat.zero_add] at h5
        refine ⟨u, ?_, h6, h7.up x⟩
        by_cases h2 : i' * k + j < i * k + q
        · rw [if_pos h2]; exact h5
        · rw [if_neg h2, if_neg ?_]
          · exact h5
          · intro h3
            rcases Nat.lt_or_gt_of_ne e with h4 | h4
            · have : (i' + 1) * k ≤ i * k := Nat.mul_le_mul_right k h4
              rw [Nat.add_mul, Nat.one_mul] at this; omega
            · have : (i + 1) * k ≤ i' * k := Nat.mul_le_mul_right k h4
              rw [Nat.add_mul, Nat.one_mul] at this; omega)
  refine ⟨.skip, undef, E', ?_, .inr ⟨rfl, rfl⟩, hinv, by simp only [RelV]⟩
  simp only [execOp, ho, hu, Instr.storeAt, Instr.sureAddr, Sem.run_bind, Sem.run_pure, Result.andThen_ok, hrun, hw', arr]

end
end Go.Tr

set_option linter.unusedSimpArgs false
namespace Go.Tr
open Go

section
variable {P : Program} {A : Actv}

/-- An empty row: nothing in memory yet. -/
theorem InvE.newRow {t : S} {a : Act} {E : En} (hi : InvE A t a E) {d : Nat} (hd : t (.o d) = .none) (e k : Nat) :
    ∃ E' : En, E'.w = E.w ∧ ExtA E E' ∧ InvE A (upd t (.o d) (.row e k [] false)) a E' ∧ E'.val d = some (k, 0, .slice none 0 0) := by
  have hfree := hi.h.item (.o d) (by simp)
  rw [hd] at hfree
  obtain ⟨hb0, hv0⟩ := hfree d rfl
  let E' : En := { E with val := fun i => if i = d then some (k, 0, .slice none 0 0) else E.val i }
  have hv' : E'.val d = some (k, 0, .slice none 0 0) := by simp [E']
  have x : ExtA E E' := by
    refine ⟨fun _ _ h => h, fun _ _ _ => rfl, fun _ _ _ h => h, fun _ _ h => h, fun _ _ h => h, fun i k' c u _ hu => ?_⟩
    by_cases e : i = d
    · subst e; rw [hv0] at hu; simp at hu
    · exact ⟨c, u, by simp [E', e, hu], Nat.le_refl _, fun _ => rfl⟩
  have hown : E'.own (.o d) = none := by simp [En.own, E', hb0, Value.ownBlock]
  have hH : HInv E' (upd t (.o d) (.row e k [] false)) := by
    refine hi.h.change (by simp) x (fun b o h => .inl h) (fun q hq => rfl) (fun i hne => ?_) (Nat.le_refl _) (fun q b hq hb => rfl) (fun b hb => ?_) ⟨hb0, d, .slice none 0 0, [], rfl, hv', World.ownsRow_nil _ _ _ _, trivial⟩ (fun b o hs hb => ?_)
    · have hne' : i ≠ d := fun e => hne (by rw [e])
      simp [E', hne']
    · rw [hown] at hb; simp at hb
    · rw [hown] at hb; simp at hb
  refine ⟨E', rfl, x, hi.step hH x (hi.fr.next rfl rfl rfl (Nat.le_refl _) (fun _ _ _ _ => rfl) (fun _ => rfl) (fun i b hb => ?_) (fun _ _ h => h) (fun _ _ h => .inl h)) (fun k => upd_s (by simp) k), hv'⟩
  by_cases e : i = d
  · subst e; rw [hown] at hb; simp at hb
  · have : E'.own (.o i) = E.own (.o i) := En.own_eq rfl (fun j hj => by simp only [Pl.o.injEq] at hj; subst hj; simp [E', e])
    rw [this] at hb; exact .inl hb

theorem run_append_zero {w : World} {base t e : Nat} {ty : TypeId} {inf : TypeInfo} (ht : P.underlying t = some (.slice e)) (hi : P.info? e = some inf) {v : Value} {n size : Nat} {xs : List Value}
    (hown : w.ownsRow base e size v n xs) (ad : Option Addr) (c : Nat) : (Builtin.append_ #[t, t] ty #[v, .slice ad 0 c]).run P w = .ok v w := by
  rcases hown.2 with ⟨rfl, rfl⟩ | ⟨g, cap, cur, rfl, _, _, hnc, _⟩
  · cases ad <;> simp [Builtin.append_, run_underlying ht, sizeOf, typeInfo, hi, Builtin.lenOf, Builtin.firstCells, loadCells, loadCellsFrom]
  · cases ad <;> simp [Builtin.append_, run_underlying ht, sizeOf, typeInfo, hi, Builtin.lenOf, Builtin.firstCells, hnc, storeCells, loadCells, loadCellsFrom]

/-- What an append reads: plain data, or a row. -/
inductive Src (t : S) : TV → List Pl → List (List TV) → Prop
  | sl (ys : List (List D)) : Src t (.d (.sl ys)) [] (ys.map (·.map .d))
  | nil (ad : Option Addr) (c : Nat) : Src t (.c (.slice ad 0 c)) [] []
  | row (id e k : Nat) (es : List (List TV)) (sh : Bool) (h : t (.o id) = .row e k es sh) : Src t (.oref id es.length) [.o id] es

theorem Src.rel {t : S} {y : TV} {rp : List Pl} {ys : List (List TV)} (h : Src t y rp ys) {k : Nat} (hk : ∀ e ∈ ys, e.length = k) {t' : S} (hr : ∀ p ∈ rp, t' p = t p) {a : Act} {E : En} (hi : InvE A t' a E) {u : Value} (hu : RelV E y u) :
    ∃ ad c news, u = .slice ad ys.length c ∧ news.length = ys.length * k ∧ RowRel E news k 0 ys ∧ (∀ v ∈ news, v.oneCell' = true) ∧
      (ys.length = 0 ∨ ∃ a0, ad = some a0 ∧ ∀ j v, news[j]? = some v → E.w.cell? (a0.add j) = some v) := by
  cases h with
  | sl ys =>
    simp only [RelV, Rep] at hu
    rcases hu with ⟨h0, ad, c, rfl⟩ | ⟨b, o, c, k', rfl, hc, hrows⟩
    · have : ys = [] := List.eq_nil_of_length_eq_zero h0
      subst this
      exact ⟨ad, c, [], rfl, by simp, trivial, by simp, .inl rfl⟩
    · -- gather the values
      have key : ∀ (ys : List (List D)) (o : Nat), (∀ e ∈ ys, e.length = k) → RepRows E b k' o ys → ∃ news : List Value, news.length = ys.length * k ∧ E.w.rangeAt b o news ∧
          (∀ us o', (∀ j v, news[j]? = some v → us[o' + j]? = some v) → RowRel E us k o' (ys.map (·.map .d))) ∧ (∀ v ∈ news, v.oneCell' = true) := by
        intro ys
        induction ys with
        | nil => exact fun o _ _ => ⟨[], by simp, fun j v h => by simp at h, fun us o' _ => trivial, by simp⟩
        | cons y ys ih =>
          intro o hl hrow
          simp only [RepRows] at hrow
          obtain ⟨hy, hcell, hrest⟩ := hrow
          have hyk : y.length = k := hl y (by simp)
          obtain ⟨us0, h1, h2, h3⟩ := hcell.range
          obtain ⟨news, h4, h5, h6, h7⟩ := ih (o + k') (fun e he => hl e (by simp [he])) hrest
          refine ⟨us0 ++ news, by simp [h1, h4, hyk, Nat.add_mul]; omega, fun j v hj => ?_, fun us o' hus => ⟨by simp [hyk], ?_, ?_⟩, fun v hv => ?_⟩
          · by_cases hlt : j < us0.length
            · rw [List.getElem?_append_left hlt] at hj; exact h2 j v hj
            · rw [List.getElem?_append_right (by omega)] at hj
              have := h5 _ _ hj
              rwa [show o + k' + (j - us0.length) = o + j by omega] at this
          · refine CellsRel.of_get fun i tv hi' => ?_
            obtain ⟨u, h8, h9⟩ := h3.get hi'
            have hone : tv.one = true := by
              simp only [List.getElem?_map, Option.map_eq_some_iff] at hi'
              obtain ⟨x, _, rfl⟩ := hi'; rfl
            exact ⟨u, hus i u (by rw [List.getElem?_append_left (List.getElem?_eq_some_iff.1 h8).1]; exact h8), h9.one hone, h9⟩
          · refine h6 us (o' + k) fun j v hj => ?_
            have := hus (us0.length + j) v (by rw [List.getElem?_append_right (by omega)]; simpa using hj)
            rwa [h1, hyk, ← Nat.add_assoc] at this
          · rcases List.mem_append.1 hv with hv | hv
            · obtain ⟨i, hi', rfl⟩ := List.getElem_of_mem hv
              have hlt : i < (y.map TV.d).length := by rw [List.length_map, ← h1]; exact hi'
              obtain ⟨u, h8, h9⟩ := h3.get (i := i) (t := (y.map TV.d)[i]) (by rw [List.getElem?_eq_getElem hlt])
              rw [List.getElem?_eq_getElem hi'] at h8
              simp only [Option.some.injEq] at h8
              subst h8
              exact h9.one (by simp [TV.one])
            · exact h7 v hv
      obtain ⟨news, h4, h5, h6, h7⟩ := key ys o (fun e he => by simpa using hk (e.map .d) (by simp; exact ⟨e, he, rfl⟩)) hrows
      refine ⟨some ⟨b, o, none⟩, c, news, by simp, by simpa using h4, h6 news 0 (fun j v h => by simpa using h), h7, .inr ⟨_, rfl, fun j v hj => ?_⟩⟩
      rw [add_lit']; exact h5 j v hj
  | nil ad c =>
    simp only [RelV] at hu
    exact ⟨ad, c, [], hu, by simp, trivial, by simp, .inl rfl⟩
  | row id e k' es sh h =>
    have ht' : t' (.o id) = .row e k' ys sh := (hr _ (by simp)).trans h
    obtain ⟨_, v, us, h1, h2, h3, h4⟩ := row_cur hi ht'
    have hv := h4 _ hu
    subst hv
    rcases h2.2 with ⟨rfl, h5⟩ | ⟨g, cap, cur, h6, hb, hg, hnc, hcm, hcs, htake⟩
    · have : ys = [] := List.eq_nil_of_length_eq_zero h5
      subst this
      exact ⟨none, 0, [], rfl, by simp, trivial, by simp, .inl rfl⟩
    · subst h6
      by_cases h0 : ys.length = 0
      · have : ys = [] := List.eq_nil_of_length_eq_zero h0
        subst this
        exact ⟨_, cap, [], rfl, by simp, trivial, by simp, .inl rfl⟩
      · have hkk : k' = k := by
          have hm : 0 < ys.length := by omega
          have := (h3.get (i := 0) (e := ys[0]) (by simp [hm])).1
          rw [← this]; exact hk _ (by simp)
        subst hkk
        refine ⟨_, cap, us, rfl, h2.1, h3, fun u hu' => ?_, .inr ⟨_, rfl, fun j v hj => ?_⟩⟩
        · obtain ⟨j, hj, rfl⟩ := List.getElem_of_mem hu'
          have hjl : j < ys.length * k' := by rw [← h2.1]; exact hj
          have hk0 : 0 < k' := by
            rcases Nat.eq_zero_or_pos k' with h | h
            · subst h; simp at hjl
            · exact h
          have hdiv : j / k' < ys.length := (Nat.div_lt_iff_lt_mul hk0).2 hjl
          obtain ⟨hl, hc⟩ := h3.get (i := j / k') (e := ys[j / k']) (by simp [hdiv])
          have hmod : j % k' < (ys[j / k']).length := by rw [hl]; exact Nat.mod_lt _ hk0
          obtain ⟨u, h7, h8, _⟩ := hc.get (i := j % k') (t := (ys[j / k'])[j % k']) (by simp [hmod])
          rw [show 0 + j / k' * k' + j % k' = j by rw [Nat.zero_add, Nat.mul_comm]; exact Nat.div_add_mod j k'] at h7
          rw [List.getElem?_eq_getElem hj] at h7
          simp only [Option.some.injEq] at h7
          rw [h7]; exact h8
        · exact h2.cells (g := g) (by simp [Value.ownBlock]) j v hj

theorem RowRel.app {E : En} {us vs : List Value} {k : Nat} : ∀ {o : Nat} {es ys : List (List TV)}, us.length = o + es.length * k → RowRel E us k o es → RowRel E vs k 0 ys → RowRel E (us ++ vs) k o (es ++ ys) := by
  intro o es ys hl h1 h2
  refine RowRel.of_get fun i e he => ?_
  by_cases hi : i < es.length
  · rw [List.getElem?_append_left hi] at he
    obtain ⟨h3, h4⟩ := h1.get he
    refine ⟨h3, CellsRel.of_get fun j tv hj => ?_⟩
    obtain ⟨u, h5, h6⟩ := h4.get hj
    exact ⟨u, by rw [List.getElem?_append_left (List.getElem?_eq_some_iff.1 h5).1]; exact h5, h6⟩
  · rw [List.getElem?_append_right (by omega)] at he
    obtain ⟨h3, h4⟩ := h2.get he
    refine ⟨h3, CellsRel.of_get fun j tv hj => ?_⟩
    obtain ⟨u, h5, h6⟩ := h4.get hj
    refine ⟨u, ?_, h6⟩
    have hm : i * k = es.length * k + (i - es.length) * k := by rw [← Nat.add_mul]; congr 1; omega
    rw [List.getElem?_append_right (by rw [hl, hm]; omega), hl, hm]
    simp only [Nat.zero_add] at h5
    rw [← h5]; congr 1; omega

/-- append of one element or more onto an owned row: in its place, or in a new block (then the old one stands). -/
theorem run_append_own2 {w : World} {base t e : Nat} {ty : TypeId} {inf : TypeInfo} {z : Value} {size bytes : Nat} (ht : P.underlying t = some (.slice e)) (hi : P.info? e = some inf) (hz : inf.zero = some z)
    (hsize : inf.size = size) (hby : inf.bytes = bytes) (hzs : z.cells.size = size) {v : Value} {n : Nat} {xs : List Value} (hown : w.ownsRow base e size v n xs)
    {a : Addr} {m c : Nat} {news : List Value} (hm : 0 < m) (hl : news.length = m * size) (hnews : ∀ j u, news[j]? = some u → w.cell? (a.add j) = some u) (h1 : ∀ u ∈ news, u.oneCell' = true)
    (h63 : n + m ≤ maxLen) (hbytes : (n + m) * bytes ≤ 140737488355328) (hbase : base ≤ w.heap.size) :
    ∃ v' w', (Builtin.append_ #[t, t] ty #[v, .slice (some a) m c]).run P w = .ok v' w' ∧ w'.ownsRow base e size v' (n + m) (xs ++ news) ∧ v'.oneCell' = true ∧
      ((v'.ownBlock = v.ownBlock ∧ w.grownBy w' v.ownBlock) ∨ (v'.ownBlock = some w.heap.size ∧ w.grownBy w' none)) := by
  subst hsize
  subst hby
  have hsmall : n + m ≤ 9223372036854775807 := by simp only [maxLen] at h63; omega
  have hlen : (xs ++ news).length = (n + m) * inf.size := by rw [List.length_append, hown.1, hl, Nat.add_mul]
  have grown : ∀ (old : Nat), old < n + m →
      (w.drew.alloc (.cells (xs.toArray ++ news.toArray ++ Builtin.zeroCells z.cells (grownCap w (n + m) old e - (n + m))) e)).ownsRow base e inf.size
        (.slice (some ⟨w.heap.size, 0, none⟩) (n + m) (grownCap w (n + m) old e)) (n + m) (xs ++ news) ∧
      w.grownBy (w.drew.alloc (.cells (xs.toArray ++ news.toArray ++ Builtin.zeroCells z.cells (grownCap w (n + m) old e - (n + m))) e)) none := by
    intro old ho
    have hge := grownCap_ge w (n + m) old e
    have hcm : grownCap w (n + m) old e ≤ maxLen := grownCap_le_maxLen w (n + m) old e h63
    refine ⟨⟨hlen, .inr ⟨w.heap.size, _, _, rfl, hbase, heap_alloc_new w.drew _, hge, hcm, ?_, ?_⟩⟩, ⟨rfl, rfl, rfl, by simp, fun k hk _ => heap_alloc_old w.drew _ k hk⟩⟩
    · simp only [Array.size_append, List.size_toArray, size_zeroCells, hzs, hown.1, hl, ← Nat.add_mul]
      congr 1
      omega
    · simp only [Array.toList_append, List.append_assoc]
      rw [← List.append_assoc, ← hlen]
      exact List.take_left
  rcases hown.2 with ⟨rfl, rfl⟩ | ⟨g, cap, cur, rfl, hbg, hg, hnc, hcm, hcs, htake⟩
  · have hx : xs = [] := List.eq_nil_of_length_eq_zero (by simpa using hown.1)
    subst hx
    have hr := run_append_nil (P := P) w t ty e inf z ht hi hz a m c news hl hnews (by omega) (by omega) (by have hb := hbytes; simp only [Nat.zero_add] at hb; omega)
    have hgr := grown 0 (by omega)
    simp only [Nat.zero_add, List.nil_append, Array.empty_append] at hgr ⊢
    exact ⟨_, _, hr, hgr.1, rfl, .inr ⟨rfl, hgr.2⟩⟩
  · by_cases hroom : n + m ≤ cap
    · have hfit : n * inf.size + news.length ≤ cur.size := by rw [hl, hcs, ← Nat.add_mul]; exact Nat.mul_le_mul_right _ hroom
      have hr := run_append_room (P := P) w t ty e inf ht hi g n cap cur hg a m c news hl hnews h1 hroom hfit
      refine ⟨_, _, hr, ⟨hlen, .inr ⟨g, cap, _, rfl, hbg, setRow_heap w g cur _ e _ hg, hroom, hcm, ?_, ?_⟩⟩, rfl, .inl ⟨rfl, ⟨rfl, rfl, rfl, by simp, fun k _ hk => setRow_other w g k _ (fun e => hk (by simp [Value.ownBlock, e]))⟩⟩⟩
      · simp only [List.size_toArray, List.length_append, List.length_take, List.length_drop, Array.length_toList]
        omega
      · rw [htake, ← hlen]
        exact List.take_left
    · have holds : ∀ j u, xs[j]? = some u → w.cell? ((⟨g, 0, none⟩ : Addr).add j) = some u := hown.cells (g := g) rfl
      have hr := run_append_grow (P := P) w t ty e inf z ht hi hz ⟨g, 0, none⟩ n cap xs hown.1 holds a m c news hl hnews (by omega) (by omega) (growslice_fits (by omega) hbytes)
      have hgr := grown cap (by omega)
      exact ⟨_, _, hr, hgr.1, rfl, .inr ⟨rfl, hgr.2⟩⟩

/-- append onto a row of the activation's own -/
theorem InvE.append {t : S} {a : Act} {E : En} (hi : InvE A t a E) {id e k b : Nat} {es : List (List TV)} {sh : Bool} (ht : t (.o id) = .row e k es sh) {sty ty : TypeId} (he : slE P sty = some e) (hk : szO P e = some k) (hb : byO P e = some b)
    {z : Value} (hz : zrO P e = some z) (hzs : (zcells z).length = k) (_hk0 : 0 < k) {u : Value} (hu : RelV E (.oref id es.length) u)
    {ys : List (List TV)} {ad : Option Addr} {c : Nat} {news : List Value} (hnl : news.length = ys.length * k) (hrow : RowRel E news k 0 ys) (hone : ∀ v ∈ news, v.oneCell' = true)
    (hsrc : ys.length = 0 ∨ ∃ a0, ad = some a0 ∧ ∀ j v, news[j]? = some v → E.w.cell? (a0.add j) = some v)
    (hroom : (es.length + ys.length) * b ≤ 140737488355328) (hroom2 : es.length + ys.length ≤ 9223372036854775807) :
    ∃ (v' : Value) (E' : En), (Builtin.append_ #[sty, sty] ty #[u, .slice ad ys.length c]).run P E.w = .ok v' E'.w ∧ InvE A (upd t (.o id) (.row e k (es ++ ys) sh)) a E' ∧ RelV E' (.oref id (es.length + ys.length)) v' := by
  obtain ⟨hblk, v, us, hval, hown, hrel, hcur⟩ := row_cur hi ht
  have hv := hcur _ hu
  subst hv
  unfold slE at he
  split at he
  rotate_left
  · simp at he
  rename_i e' hun
  simp only [Option.some.injEq] at he
  subst he
  unfold szO at hk; unfold byO at hb; unfold zrO at hz
  cases hinf : P.info? e' with
  | none => simp [hinf] at hk
  | some inf =>
  simp only [hinf, Option.map_some, Option.some.injEq, Option.bind_some] at hk hb hz
  have hzc : z.cells.size = k := by rw [← hzs, zcells_eq]; simp
  have hownp : E.own (.o id) = u.ownBlock := by simp [En.own, hblk, hval]
  have hone' : ∀ (E' : En) (v' : Value), E'.val id = some (k, (es ++ ys).length, v') → v'.oneCell' = true → RelV E' (.oref id (es.length + ys.length)) v' := fun E' v' h1 h2 => by
    simp only [RelV]
    exact ⟨h2, k, _, v', h1, by simp, fun _ => rfl⟩
  rcases Nat.eq_zero_or_pos ys.length with h0 | hpos
  · have hys : ys = [] := List.eq_nil_of_length_eq_zero h0
    subst hys
    refine ⟨u, E, by simpa using run_append_zero (P := P) (ty := ty) hun hinf hown ad c, ?_, by simpa using hu⟩
    have : upd t (.o id) (.row e' k (es ++ []) sh) = t := by
      funext p; by_cases hp : p = .o id
      · subst hp; simp [upd, ht]
      · simp [upd, hp]
    rw [this]; exact hi
  · rcases hsrc with h0 | ⟨a0, rfl, hcells⟩
    · omega
    obtain ⟨v', w', hrun, hown', hv1, hob⟩ := run_append_own2 (P := P) (ty := ty) (c := c) hun hinf hz hk hb hzc hown hpos hnl hcells hone
      (by simp only [maxLen]; omega) hroom (Nat.zero_le _)
    have hgrown : E.w.grownBy w' u.ownBlock := hob.elim (fun h => h.2) (fun h => ⟨h.2.os, h.2.tape, h.2.output, h.2.size, fun i hi _ => h.2.block i hi (by simp)⟩)
    have hstab : ∀ b o, E.St b o → w'.cell? ⟨b, o, none⟩ = E.w.cell? ⟨b, o, none⟩ := fun b o hst => by
      rcases hob with ⟨hb', _⟩ | ⟨_, hg⟩
      · by_cases e : E.own (.o id) = some b
        · obtain ⟨e2, k2, es2, h1, h2⟩ := hi.h.sep _ _ hst _ e
          rw [ht] at h1
          simp only [It.row.injEq] at h1
          obtain ⟨rfl, rfl, rfl, _⟩ := h1
          rw [hownp] at e
          have hlt : o < us.length := by rw [hown.1]; exact h2
          have hold := hown.cells e o _ (List.getElem?_eq_getElem hlt)
          rw [add_lit', Nat.zero_add] at hold
          have hnew := hown'.cells (hb'.trans e) o us[o] (by rw [List.getElem?_append_left hlt]; exact List.getElem?_eq_getElem hlt)
          rw [add_lit', Nat.zero_add] at hnew
          rw [hold, hnew]
        · rw [hownp] at e
          exact World.cell?_of_block (hgrown.block b (hi.h.stsz _ _ hst) (fun e' => e e'.symm))
      · exact World.cell?_of_block (hg.block b (hi.h.stsz _ _ hst) (by simp))
    obtain ⟨E', hw', x, hinv, hval'⟩ := hi.rowStep ht (es' := es ++ ys) (sh' := sh) hval hgrown (by simpa using hown') (by simp) (fun h => by simp at h; subst h; simp at hpos) (hob.imp (fun h => h.1) (fun h => h.1))
      hstab (fun h => h) (fun E' _ x => RowRel.app (by simpa using hown.1) (hrel.up x) (hrow.up x))
    exact ⟨v', E', by rw [hw']; exact hrun, hinv, hone' E' v' hval' hv1⟩

end
end Go.Tr

/-
  Laws of the layer between the model and plain data (states, operations, calls, loops); none has a condition beyond those that stand in its own statement.
-/
import Derived.Orders
import Derived.Below
import Derived.Tactics
import Derived.MapKept
namespace Go.Tr
open Go

/-- Plain data. -/
inductive D where
  | int (k : IntKind) (n : Int)
  | bool (b : Bool)
  | str (s : ByteArray)
  | sl (xs : List (List D))

/-- Places of an abstract state: slots, objects of the activation, objects that came in. -/
inductive Pl where
  | s (k : Nat)
  | o (k : Nat)
  | x (k : Nat)
  deriving DecidableEq

inductive TV where
  | junk
  | d (x : D)
  | c (v : Value)
  | agg (vs : List TV)
  | tup (vs : List TV)
  | oref (id n : Nat)
  | ptr (p : Pl) (off : Nat)
  | ep (e : List D) (off : Nat)
  | eptr (id n i off : Nat)
  | clo (f : FuncId) (caps : List TV)
  | mref (id : Nat)
  | sx (xs : List (List D))

inductive It where
  | none
  | v (t : TV)
  | box (cs : List TV)
  | row (e : TypeId) (k : Nat) (es : List (List TV)) (sh : Bool)
  | mp (es : List (Int × D))

abbrev S := Pl → It

structure En where
  w : World
  St : Nat → Nat → Prop
  blk : Pl → Option Nat
  val : Nat → Option (Nat × Nat × Value)

mutual
def Rep (E : En) : D → Value → Prop
  | .int k n, u => u = .int k n
  | .bool b, u => u = .bool b
  | .str s, u => u = .string s
  | .sl xs, u => (xs.length = 0 ∧ ∃ a c, u = .slice a 0 c) ∨ ∃ b o c k, u = .slice (some ⟨b, o, none⟩) xs.length c ∧ xs.length ≤ c ∧ RepRows E b k o xs
def RepRows (E : En) (b k : Nat) : Nat → List (List D) → Prop
  | _, [] => True
  | o, e :: es => e.length = k ∧ RepCells E b o e ∧ RepRows E b k (o + k) es
def RepCells (E : En) (b : Nat) : Nat → List D → Prop
  | _, [] => True
  | o, x :: ds => (E.St b o ∧ ∃ u, E.w.cell? ⟨b, o, none⟩ = some u ∧ Rep E x u) ∧ RepCells E b (o + 1) ds
end

mutual
def RelV (E : En) : TV → Value → Prop
  | .junk, _ => True
  | .d x, u => Rep E x u
  | .c v, u => u = v
  | .agg vs, u => ∃ us : Array Value, u = .agg us ∧ RelVs E vs us.toList
  | .tup vs, u => ∃ us : Array Value, u = .tuple us ∧ RelVs E vs us.toList
  | .oref id n, u => u.oneCell' = true ∧ ∃ k c v, E.val id = some (k, c, v) ∧ n ≤ c ∧ (n = c → u = v)
  | .ptr p off, u => ∃ b, E.blk p = some b ∧ u = .pointer (some ⟨b, off, none⟩)
  | .ep e off, u => ∃ b o, u = .pointer (some ⟨b, o + off, none⟩) ∧ RepCells E b o e
  | .eptr id n i off, u => u.oneCell' = true ∧ ∃ k c v, E.val id = some (k, c, v) ∧ n ≤ c ∧
      (n = c → ∃ b o cp, v = .slice (some ⟨b, o, none⟩) c cp ∧ u = .pointer (some ⟨b, o + i * k + off, none⟩))
  | .clo f caps, u => ∃ us : Array Value, u = .func (.func f) #[] us ∧ RelVs E caps us.toList
  | .mref id, u => ∃ b, E.blk (.o id) = some b ∧ u = .map (some b)
  | .sx xs, u => Rep E (.sl xs) u ∧ ∃ ad, u = .slice ad xs.length xs.length
def RelVs (E : En) : List TV → List Value → Prop
  | [], us => us = []
  | v :: vs, us => ∃ u us', us = u :: us' ∧ RelV E v u ∧ RelVs E vs us'
end

mutual
/-- All objects that a value mentions lie in 'po'. -/
def TV.only (po : Nat → Prop) : TV → Prop
  | .agg vs | .tup vs | .clo _ vs => TV.onlys po vs
  | .oref id _ | .eptr id _ _ _ | .mref id => po id
  | .ptr (.o id) _ => po id
  | _ => True
def TV.onlys (po : Nat → Prop) : List TV → Prop
  | [] => True
  | v :: vs => v.only po ∧ TV.onlys po vs
end

/-- E' knows of the objects in 'po' at least what E knows. -/
structure Ext (po : Nat → Prop) (E E' : En) : Prop where
  st : ∀ b o, E.St b o → E'.St b o
  cell : ∀ b o, E.St b o → E'.w.cell? ⟨b, o, none⟩ = E.w.cell? ⟨b, o, none⟩
  blko : ∀ id b, po id → E.blk (.o id) = some b → E'.blk (.o id) = some b
  blkx : ∀ i b, E.blk (.x i) = some b → E'.blk (.x i) = some b
  blks : ∀ i b, E.blk (.s i) = some b → E'.blk (.s i) = some b
  val : ∀ id k c v, po id → E.val id = some (k, c, v) → ∃ c' v', E'.val id = some (k, c', v') ∧ c ≤ c' ∧ (c = c' → v' = v)

theorem Ext.refl (po : Nat → Prop) (E : En) : Ext po E E :=
  ⟨fun _ _ h => h, fun _ _ _ => rfl, fun _ _ _ h => h, fun _ _ h => h, fun _ _ h => h, fun _ _ c v _ h => ⟨c, v, h, Nat.le_refl _, fun _ => rfl⟩⟩

theorem Ext.trans {po : Nat → Prop} {A B C : En} (h : Ext po A B) (g : Ext po B C) : Ext po A C :=
  ⟨fun b o x => g.st _ _ (h.st _ _ x), fun b o x => (g.cell _ _ (h.st _ _ x)).trans (h.cell _ _ x), fun id b p x => g.blko _ _ p (h.blko _ _ p x),
    fun i b x => g.blkx _ _ (h.blkx _ _ x), fun i b x => g.blks _ _ (h.blks _ _ x), fun id k c v p x => by
      obtain ⟨c', v', h1, h2, h3⟩ := h.val _ _ _ _ p x
      obtain ⟨c'', v'', g1, g2, g3⟩ := g.val _ _ _ _ p h1
      exact ⟨c'', v'', g1, Nat.le_trans h2 g2, fun e => by rw [g3 (by omega), h3 (by omega)]⟩⟩

/-- What was stable is stable still, and reads as it did. -/
structure ExtR (E E' : En) : Prop where
  st : ∀ b o, E.St b o → E'.St b o
  cell : ∀ b o, E.St b o → E'.w.cell? ⟨b, o, none⟩ = E.w.cell? ⟨b, o, none⟩

theorem Ext.r {po : Nat → Prop} {E E' : En} (h : Ext po E E') : ExtR E E' := ⟨h.st, h.cell⟩

mutual
theorem Rep.ext {E E' : En} (h : ExtR E E') : ∀ (x : D) (u : Value), Rep E x u → Rep E' x u
  | .int k n, u, r => by simpa only [Rep] using r
  | .bool b, u, r => by simpa only [Rep] using r
  | .str s, u, r => by simpa only [Rep] using r
  | .sl xs, u, r => by
    simp only [Rep] at r ⊢
    rcases r with r | ⟨b, o, c, k, hu, hc, hr⟩
    · exact .inl r
    · exact .inr ⟨b, o, c, k, hu, hc, RepRows.ext h b k o xs hr⟩
theorem RepRows.ext {E E' : En} (h : ExtR E E') (b k : Nat) : ∀ (o : Nat) (xs : List (List D)), RepRows E b k o xs → RepRows E' b k o xs
  | _, [], _ => by simp only [RepRows]
  | o, e :: es, r => by
    simp only [RepRows] at r ⊢
    exact ⟨r.1, RepCells.ext h b o e r.2.1, RepRows.ext h b k (o + k) es r.2.2⟩
theorem RepCells.ext {E E' : En} (h : ExtR E E') (b : Nat) : ∀ (o : Nat) (xs : List D), RepCells E b o xs → RepCells E' b o xs
  | _, [], _ => by simp only [RepCells]
  | o, x :: ds, r => by
    simp only [RepCells] at r ⊢
    obtain ⟨⟨hs, u, hc, hr⟩, r2⟩ := r
    exact ⟨⟨h.st _ _ hs, u, (h.cell _ _ hs).trans hc, Rep.ext h x u hr⟩, RepCells.ext h b (o + 1) ds r2⟩
end

mutual
theorem RelV.ext {po : Nat → Prop} {E E' : En} (h : Ext po E E') : ∀ (t : TV) (u : Value), t.only po → RelV E t u → RelV E' t u
  | .junk, _, _, _ => by simp only [RelV]
  | .d x, u, _, r => by
    simp only [RelV] at r ⊢
    exact Rep.ext h.r x u r
  | .c v, u, _, r => by simpa only [RelV] using r
  | .agg vs, u, p, r => by
    simp only [RelV, TV.only] at r p ⊢
    obtain ⟨us, hu, hr⟩ := r
    exact ⟨us, hu, RelVs.ext h vs _ p hr⟩
  | .tup vs, u, p, r => by
    simp only [RelV, TV.only] at r p ⊢
    obtain ⟨us, hu, hr⟩ := r
    exact ⟨us, hu, RelVs.ext h vs _ p hr⟩
  | .oref id n, u, p, r => by
    simp only [RelV, TV.only] at r p ⊢
    obtain ⟨h1, k, c, v, hv, hn, hu⟩ := r
    obtain ⟨c', v', hv', hle, he⟩ := h.val id k c v p hv
    exact ⟨h1, k, c', v', hv', by omega, fun e => by rw [he (by omega)]; exact hu (by omega)⟩
  | .ptr (.o id) off, u, p, r => by
    simp only [RelV, TV.only] at r p ⊢
    obtain ⟨b, hb, hu⟩ := r
    exact ⟨b, h.blko _ _ p hb, hu⟩
  | .ptr (.x id) off, u, p, r => by
    simp only [RelV] at r ⊢
    obtain ⟨b, hb, hu⟩ := r
    exact ⟨b, h.blkx _ _ hb, hu⟩
  | .ptr (.s id) off, u, p, r => by
    simp only [RelV] at r ⊢
    obtain ⟨b, hb, hu⟩ := r
    exact ⟨b, h.blks _ _ hb, hu⟩
  | .ep e off, u, _, r => by
    simp only [RelV] at r ⊢
    obtain ⟨b, o, hu, hr⟩ := r
    exact ⟨b, o, hu, RepCells.ext h.r b o e hr⟩
  | .eptr id n i off, u, p, r => by
    simp only [RelV, TV.only] at r p ⊢
    obtain ⟨h1, k, c, v, hv, hn, hu⟩ := r
    obtain ⟨c', v', hv', hle, he⟩ := h.val id k c v p hv
    refine ⟨h1, k, c', v', hv', by omega, fun e => ?_⟩
    have hcc : c = c' := by omega
    rw [he hcc, ← hcc]
    exact hu (by omega)
  | .clo f caps, u, p, r => by
    simp only [RelV, TV.only] at r p ⊢
    obtain ⟨us, hu, hr⟩ := r
    exact ⟨us, hu, RelVs.ext h caps _ p hr⟩
  | .mref id, u, p, r => by
    simp only [RelV, TV.only] at r p ⊢
    obtain ⟨b, hb, hu⟩ := r
    exact ⟨b, h.blko _ _ p hb, hu⟩
  | .sx xs, u, _, r => by
    simp only [RelV] at r ⊢
    exact ⟨Rep.ext h.r (.sl xs) u r.1, r.2⟩
theorem RelVs.ext {po : Nat → Prop} {E E' : En} (h : Ext po E E') : ∀ (ts : List TV) (us : List Value), TV.onlys po ts → RelVs E ts us → RelVs E' ts us
  | [], us, _, r => by simpa only [RelVs] using r
  | t :: ts, us, p, r => by
    simp only [RelVs, TV.onlys] at r p ⊢
    obtain ⟨u, us', hu, h1, h2⟩ := r
    exact ⟨u, us', hu, RelV.ext h t u p.1 h1, RelVs.ext h ts us' p.2 h2⟩
end

mutual
theorem TV.only_true : ∀ t : TV, t.only (fun _ => True)
  | .junk => by simp only [TV.only]
  | .d x => by simp only [TV.only]
  | .c v => by simp only [TV.only]
  | .agg vs => by simp only [TV.only]; exact TV.onlys_true vs
  | .tup vs => by simp only [TV.only]; exact TV.onlys_true vs
  | .oref id n => by simp only [TV.only]
  | .ptr (.o id) off => by simp only [TV.only]
  | .ptr (.x id) off => by simp only [TV.only]
  | .ptr (.s id) off => by simp only [TV.only]
  | .ep e off => by simp only [TV.only]
  | .eptr id n i off => by simp only [TV.only]
  | .clo f caps => by simp only [TV.only]; exact TV.onlys_true caps
  | .mref id => by simp only [TV.only]
  | .sx xs => by simp only [TV.only]
theorem TV.onlys_true : ∀ ts : List TV, TV.onlys (fun _ => True) ts
  | [] => by simp only [TV.onlys]
  | t :: ts => by simp only [TV.onlys]; exact ⟨TV.only_true t, TV.onlys_true ts⟩
end

abbrev ExtA := Ext (fun _ => True)

theorem RelV.up {E E' : En} {t : TV} {u : Value} (r : RelV E t u) (h : ExtA E E') : RelV E' t u := RelV.ext h t u (TV.only_true t) r
theorem RelVs.up {E E' : En} {t : List TV} {u : List Value} (r : RelVs E t u) (h : ExtA E E') : RelVs E' t u := RelVs.ext h t u (TV.onlys_true t) r
theorem Rep.up {E E' : En} {t : D} {u : Value} (r : Rep E t u) (h : ExtA E E') : Rep E' t u := Rep.ext h.r t u r

/- rows of cells of the activation's own -/
def CellsRel (E : En) (us : List Value) : Nat → List TV → Prop
  | _, [] => True
  | o, t :: ts => (∃ u, us[o]? = some u ∧ u.oneCell' = true ∧ RelV E t u) ∧ CellsRel E us (o + 1) ts

def RowRel (E : En) (us : List Value) (k : Nat) : Nat → List (List TV) → Prop
  | _, [] => True
  | o, e :: es => e.length = k ∧ CellsRel E us o e ∧ RowRel E us k (o + k) es

/-- The block that an object of the activation lies in. -/
def En.own (E : En) (p : Pl) : Option Nat :=
  match E.blk p with
  | some b => some b
  | none => match p with
    | .o id => (E.val id).bind fun x => x.2.2.ownBlock
    | _ => none

/-- the entries of a map -/
def MapRel (E : En) : List (Int × D) → List MapEntry → Prop
  | [], l => l = []
  | (k, d) :: es, l => ∃ a l', l = a :: l' ∧ a.key = .int .i64 k ∧ a.val.oneCell' = true ∧ Rep E d a.val ∧ MapRel E es l'

theorem MapRel.ext {E E' : En} (h : ExtR E E') : ∀ {es : List (Int × D)} {l : List MapEntry}, MapRel E es l → MapRel E' es l
  | [], _, r => r
  | (_, d) :: _, _, ⟨a, l', h1, h2, h3, h4, h5⟩ => ⟨a, l', h1, h2, h3, Rep.ext h d _ h4, MapRel.ext h h5⟩

def ItemOK (E : En) (p : Pl) : It → Prop
  | .none => ∀ id, p = .o id → E.blk p = none ∧ E.val id = none
  | .v _ => False
  | .box cs => (∀ id, p = .o id → E.val id = none) ∧ ∃ b ty us, E.blk p = some b ∧ E.w.heap[b]? = some (.cells us ty (0, 0)) ∧ us.size = cs.length ∧ CellsRel E us.toList 0 cs
  | .row e k es _ => E.blk p = none ∧ ∃ id v us, p = .o id ∧ E.val id = some (k, es.length, v) ∧ E.w.ownsRow 0 e k v es.length us ∧ RowRel E us k 0 es
  | .mp es => (∀ id, p = .o id → E.val id = none) ∧ ∃ b l clock, E.blk p = some b ∧ E.w.heap[b]? = some (.map l clock) ∧ MapRel E es l.toList ∧ MapKept.Stamped l clock

structure HInv (E : En) (H : S) : Prop where
  item : ∀ p, (∀ k, p ≠ .s k) → ItemOK E p (H p)
  frees : ∀ k, E.blk (.s k) = none
  inj : ∀ p q b, E.own p = some b → E.own q = some b → p = q
  size : ∀ p b, E.own p = some b → b < E.w.heap.size
  stsz : ∀ b o, E.St b o → b < E.w.heap.size
  sep : ∀ b o, E.St b o → ∀ p, E.own p = some b → ∃ e k es, H p = .row e k es true ∧ o < es.length * k

/-- What an activation that began in E0 keeps. -/
structure Fr (E0 E : En) : Prop where
  os : E.w.os = E0.w.os
  tape : E.w.tape = E0.w.tape
  output : E.w.output = E0.w.output
  size : E0.w.heap.size ≤ E.w.heap.size
  old : ∀ b, b < E0.w.heap.size → (∀ i, E0.blk (.x i) ≠ some b) → E.w.heap[b]? = E0.w.heap[b]?
  xb : ∀ i, E.blk (.x i) = E0.blk (.x i)
  new : ∀ id b, E.own (.o id) = some b → E0.w.heap.size ≤ b
  st : ∀ b o, E0.St b o → E.St b o
  newst : ∀ b o, E.St b o → E0.St b o ∨ E0.w.heap.size ≤ b

structure Actv where
  E0 : En
  N : Nat

structure InvE (A : Actv) (t : S) (a : Act) (E : En) : Prop where
  h : HInv E t
  fr : Fr A.E0 E
  sl : ∀ k tv, t (.s k) = .v tv → ∃ u, a.tmps[k]? = some u ∧ RelV E tv u
  defers : a.defers = []
  size : A.N ≤ a.tmps.size

def Inv (A : Actv) (t : S) (a : Act) (w : World) : Prop := ∃ E : En, E.w = w ∧ InvE A t a E

def upd (t : S) (p : Pl) (i : It) : S := fun q => if q = p then i else t q

def over (t : S) : List (Pl × It) → S
  | [] => t
  | (p, i) :: W => upd (over t W) p i

end Go.Tr

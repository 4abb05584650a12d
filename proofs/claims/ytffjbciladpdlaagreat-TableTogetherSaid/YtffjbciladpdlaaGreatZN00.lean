/-
  What functions of the program compute, stated as contracts over plain data; the conditions of each stand in its own statement.
-/
import Derived.Orders
import Derived.Below
import Derived.Tactics
import Derived.MapKept
import Derived.Maps.AppendAt
import Derived.Laws.OwnMore
namespace Go.Tr
open Go
inductive D where
 | int (k : IntKind) (n : Int)
 | bool (b : Bool)
 | str (s : ByteArray)
 | sl (xs : List (List D))
 | mp (ks : List (List Int)) (vs : List D)
def globs : List (Nat × List D) := []
inductive Pl where
 | s (k : Nat)
 | o (k : Nat)
 | x (k : Nat)
 deriving DecidableEq
inductive TV where
 | junk
 | d (x : D)
 | c (v : Value)
 | agg (vs : List TV)
 | tup (vs : List TV)
 | oref (id n : Nat)
 | ptr (p : Pl) (off : Nat)
 | ep (e : List D) (off : Nat)
 | eptr (id n i off : Nat)
 | clo (f : FuncId) (caps : List TV)
 | mref (id : Nat)
 | sx (xs : List (List D))
 | osl (id n j : Nat)
structure Snap where
 m : Nat
 l : Array MapEntry
 clock : Nat
inductive It where
 | none
 | v (t : TV)
 | box (cs : List TV)
 | row (e : TypeId) (k : Nat) (es : List (List TV)) (sh : Bool)
 | mp (es : List (Int × D))
 | que (e : TypeId) (k : Nat) (es : List (List TV))
 | mpk (es : List (List Int × TV)) (c : Nat) (pd : Option (List Int)) (s : Option Snap)
 | mit (m : Nat) (s : Snap) (left : List (List Int)) (cur : Option (List Int))
 | mpz (es : List (List Int × TV)) (s : Snap)
abbrev S := Pl → It
structure En where
 w : World
 St : Nat → Nat → Prop
 blk : Pl → Option Nat
 val : Nat → Option (Nat × Nat × Value)
def keyV : List Int → Value
 | [k] => .int .i64 k
 | ks => .agg (ks.map (Value.int .i64)).toArray
def atW (w : World) (b o : Nat) : Option (Value ⊕ (Array MapEntry × Nat)) :=
 match w.heap[b]? with
 | some (.map l c) => some (.inr (l, c))
 | _ => (w.cell? ⟨b, o, none⟩).map .inl
theorem atW_of_block {w w' : World} {b o : Nat} (h : w'.heap[b]? = w.heap[b]?) : atW w' b o = atW w b o := by
 have := World.cell?_of_block (w := w) (w' := w') (a := ⟨b, o, none⟩) h
 simp only [atW, h, this]
theorem cell_of_at {w w' : World} {b o : Nat} (h : atW w' b o = atW w b o) : w'.cell? ⟨b, o, none⟩ = w.cell? ⟨b, o, none⟩ := by
 unfold atW at h
 split at h <;> split at h
 ·simp [World.cell?, *]
 ·cases hc : w.cell? ⟨b, o, none⟩ <;> simp [hc] at h
 ·cases hc : w'.cell? ⟨b, o, none⟩ <;> simp [hc] at h
 ·cases hc : w.cell? ⟨b, o, none⟩ <;> cases hc' : w'.cell? ⟨b, o, none⟩ <;> simp [hc, hc'] at h
  ·rfl
  ·subst h; rfl
theorem map_of_at {w w' : World} {b o c : Nat} {l : Array MapEntry} (h : atW w' b o = atW w b o) (hm : w.heap[b]? = some (.map l c)) : w'.heap[b]? = some (.map l c) := by
 unfold atW at h
 rw [hm] at h
 simp only at h
 split at h
 ·rename_i h1
  simp only [Option.some.injEq, Sum.inr.injEq, Prod.mk.injEq] at h
  obtain ⟨rfl, rfl⟩ := h
  exact h1
 ·cases hc : w'.cell? ⟨b, o, none⟩ <;> simp [hc] at h
theorem at_of_cells {w w' : World} {b o : Nat} {us us' : Array Value} {e e' : TypeId} {f f' : Nat × Nat} (h1 : w.heap[b]? = some (.cells us e f)) (h2 : w'.heap[b]? = some (.cells us' e' f')) (h : w'.cell? ⟨b, o, none⟩ = w.cell? ⟨b, o, none⟩) : atW w' b o = atW w b o := by
 simp only [atW, h1, h2, h]
mutual
def Rep (E : En) : D → Value → Prop
 | .int k n, u => u = .int k n
 | .bool b, u => u = .bool b
 | .str s, u => u = .string s
 | .sl xs, u => (xs.length = 0 ∧ ∃ a c, u = .slice a 0 c) ∨ ∃ b o c k, u = .slice (some ⟨b, o, none⟩) xs.length c ∧ xs.length ≤ c ∧ RepRows E b k o xs
 | .mp ks vs, u => ∃ b l clock l', u = .map (some b) ∧ E.St b 0 ∧ E.w.heap[b]? = some (.map l clock) ∧ l'.Perm l.toList ∧ MapKept.Stamped l clock ∧ l'.map (·.key) = ks.map keyV ∧ RepEs E vs l'
def RepEs (E : En) : List D → List MapEntry → Prop
 | [], l => l = []
 | d :: ds, l => ∃ a l', l = a :: l' ∧ Rep E d a.val ∧ RepEs E ds l'
def RepRows (E : En) (b k : Nat) : Nat → List (List D) → Prop
 | _, [] => True
 | o, e :: es => e.length = k ∧ RepCells E b o e ∧ RepRows E b k (o + k) es
def RepCells (E : En) (b : Nat) : Nat → List D → Prop
 | _, [] => True
 | o, x :: ds => (E.St b o ∧ ∃ u, E.w.cell? ⟨b, o, none⟩ = some u ∧ Rep E x u) ∧ RepCells E b (o + 1) ds
end
mutual
def RelV (E : En) : TV → Value → Prop
 | .junk, _ => True
 | .d x, u => Rep E x u
 | .c v, u => u = v
 | .agg vs, u => ∃ us : Array Value, u = .agg us ∧ RelVs E vs us.toList
 | .tup vs, u => ∃ us : Array Value, u = .tuple us ∧ RelVs E vs us.toList
 | .oref id n, u => u.oneCell' = true ∧ ∃ k c v, E.val id = some (k, c, v) ∧ n ≤ c ∧ (n = c → u = v)
 | .ptr p off, u => ∃ b, E.blk p = some b ∧ u = .pointer (some ⟨b, off, none⟩)
 | .ep e off, u => ∃ b o, u = .pointer (some ⟨b, o + off, none⟩) ∧ RepCells E b o e
 | .eptr id n i off, u => u.oneCell' = true ∧ ∃ k c v, E.val id = some (k, c, v) ∧ n ≤ c ∧
   (n = c → ∃ b o cp, v = .slice (some ⟨b, o, none⟩) c cp ∧ u = .pointer (some ⟨b, o + i * k + off, none⟩))
 | .clo f caps, u => ∃ us : Array Value, u = .func (.func f) #[] us ∧ RelVs E caps us.toList
 | .mref id, u => ∃ b, E.blk (.o id) = some b ∧ u = .map (some b)
 | .sx xs, u => Rep E (.sl xs) u ∧ ∃ ad, u = .slice ad xs.length xs.length
 | .osl id n j, u => u.oneCell' = true ∧ ∃ k c v, E.val id = some (k, c, v) ∧ n ≤ c ∧
   (n = c → ∃ b o cp o', v = .slice (some ⟨b, o, none⟩) c cp ∧ j ≤ c ∧ (o' = o + j * k ∨ (o' = o ∧ cp - j = 0)) ∧ u = .slice (some ⟨b, o', none⟩) (c - j) (cp - j))
def RelVs (E : En) : List TV → List Value → Prop
 | [], us => us = []
 | v :: vs, us => ∃ u us', us = u :: us' ∧ RelV E v u ∧ RelVs E vs us'
end
mutual
def TV.only (po : Nat → Prop) : TV → Prop
 | .agg vs | .tup vs | .clo _ vs => TV.onlys po vs
 | .oref id _ | .eptr id _ _ _ | .mref id | .osl id _ _ => po id
 | .ptr (.o id) _ => po id
 | _ => True
def TV.onlys (po : Nat → Prop) : List TV → Prop
 | [] => True
 | v :: vs => v.only po ∧ TV.onlys po vs
end
structure Ext (po : Nat → Prop) (E E' : En) : Prop where
 st : ∀ b o, E.St b o → E'.St b o
 cell : ∀ b o, E.St b o → atW E'.w b o = atW E.w b o
 blko : ∀ id b, po id → E.blk (.o id) = some b → E'.blk (.o id) = some b
 blkx : ∀ i b, E.blk (.x i) = some b → E'.blk (.x i) = some b
 blks : ∀ i b, E.blk (.s i) = some b → E'.blk (.s i) = some b
 val : ∀ id k c v, po id → E.val id = some (k, c, v) → ∃ c' v', E'.val id = some (k, c', v') ∧ c ≤ c' ∧ (c = c' → v' = v)
theorem Ext.refl (po : Nat → Prop) (E : En) : Ext po E E :=
 ⟨fun _ _ h => h, fun _ _ _ => rfl, fun _ _ _ h => h, fun _ _ h => h, fun _ _ h => h, fun _ _ c v _ h => ⟨c, v, h, Nat.le_refl _, fun _ => rfl⟩⟩
theorem Ext.trans {po : Nat → Prop} {A B C : En} (h : Ext po A B) (g : Ext po B C) : Ext po A C :=
 ⟨fun b o x => g.st _ _ (h.st _ _ x), fun b o x => (g.cell _ _ (h.st _ _ x)).trans (h.cell _ _ x), fun id b p x => g.blko _ _ p (h.blko _ _ p x),
  fun i b x => g.blkx _ _ (h.blkx _ _ x), fun i b x => g.blks _ _ (h.blks _ _ x), fun id k c v p x => by
   obtain ⟨c', v', h1, h2, h3⟩ := h.val _ _ _ _ p x
   obtain ⟨c'', v'', g1, g2, g3⟩ := g.val _ _ _ _ p h1
   exact ⟨c'', v'', g1, Nat.le_trans h2 g2, fun e => by rw [g3 (by omega), h3 (by omega)]⟩⟩
structure ExtR (E E' : En) : Prop where
 st : ∀ b o, E.St b o → E'.St b o
 cell : ∀ b o, E.St b o → atW E'.w b o = atW E.w b o
theorem Ext.r {po : Nat → Prop} {E E' : En} (h : Ext po E E') : ExtR E E' := ⟨h.st, h.cell⟩
mutual
theorem Rep.ext {E E' : En} (h : ExtR E E') : ∀ (x : D) (u : Value), Rep E x u → Rep E' x u
 | .int k n, u, r => by simpa only [Rep] using r
 | .bool b, u, r => by simpa only [Rep] using r
 | .str s, u, r => by simpa only [Rep] using r
 | .sl xs, u, r => by
   simp only [Rep] at r ⊢
   rcases r with r | ⟨b, o, c, k, hu, hc, hr⟩
   ·exact .inl r
   ·exact .inr ⟨b, o, c, k, hu, hc, RepRows.ext h b k o xs hr⟩
 | .mp ks vs, u, r => by
   simp only [Rep] at r ⊢
   obtain ⟨b, l, clock, l', hu, hs, hb, hp, hst, hk, hv⟩ := r
   exact ⟨b, l, clock, l', hu, h.st _ _ hs, map_of_at (h.cell _ _ hs) hb, hp, hst, hk, RepEs.ext h vs l' hv⟩
theorem RepEs.ext {E E' : En} (h : ExtR E E') : ∀ (ds : List D) (l : List MapEntry), RepEs E ds l → RepEs E' ds l
 | [], _, r => by simpa only [RepEs] using r
 | d :: ds, l, r => by
   simp only [RepEs] at r ⊢
   obtain ⟨a, l', hl, h1, h2⟩ := r
   exact ⟨a, l', hl, Rep.ext h d _ h1, RepEs.ext h ds l' h2⟩
theorem RepRows.ext {E E' : En} (h : ExtR E E') (b k : Nat) : ∀ (o : Nat) (xs : List (List D)), RepRows E b k o xs → RepRows E' b k o xs
 | _, [], _ => by simp only [RepRows]
 | o, e :: es, r => by
   simp only [RepRows] at r ⊢
   exact ⟨r.1, RepCells.ext h b o e r.2.1, RepRows.ext h b k (o + k) es r.2.2⟩
theorem RepCells.ext {E E' : En} (h : ExtR E E') (b : Nat) : ∀ (o : Nat) (xs : List D), RepCells E b o xs → RepCells E' b o xs
 | _, [], _ => by simp only [RepCells]
 | o, x :: ds, r => by
   simp only [RepCells] at r ⊢
   obtain ⟨⟨hs, u, hc, hr⟩, r2⟩ := r
   exact ⟨⟨h.st _ _ hs, u, (cell_of_at (h.cell _ _ hs)).trans hc, Rep.ext h x u hr⟩, RepCells.ext h b (o + 1) ds r2⟩
end
mutual
theorem RelV.ext {po : Nat → Prop} {E E' : En} (h : Ext po E E') : ∀ (t : TV) (u : Value), t.only po → RelV E t u → RelV E' t u
 | .junk, _, _, _ => by simp only [RelV]
 | .d x, u, _, r => by
   simp only [RelV] at r ⊢
   exact Rep.ext h.r x u r
 | .c v, u, _, r => by simpa only [RelV] using r
 | .agg vs, u, p, r => by
   simp only [RelV, TV.only] at r p ⊢
   obtain ⟨us, hu, hr⟩ := r
   exact ⟨us, hu, RelVs.ext h vs _ p hr⟩
 | .tup vs, u, p, r => by
   simp only [RelV, TV.only] at r p ⊢
   obtain ⟨us, hu, hr⟩ := r
   exact ⟨us, hu, RelVs.ext h vs _ p hr⟩
 | .oref id n, u, p, r => by
   simp only [RelV, TV.only] at r p ⊢
   obtain ⟨h1, k, c, v, hv, hn, hu⟩ := r
   obtain ⟨c', v', hv', hle, he⟩ := h.val id k c v p hv
   exact ⟨h1, k, c', v', hv', by omega, fun e => by rw [he (by omega)]; exact hu (by omega)⟩
 | .ptr (.o id) off, u, p, r => by
   simp only [RelV, TV.only] at r p ⊢
   obtain ⟨b, hb, hu⟩ := r
   exact ⟨b, h.blko _ _ p hb, hu⟩
 | .ptr (.x id) off, u, p, r => by
   simp only [RelV] at r ⊢
   obtain ⟨b, hb, hu⟩ := r
   exact ⟨b, h.blkx _ _ hb, hu⟩
 | .ptr (.s id) off, u, p, r => by
   simp only [RelV] at r ⊢
   obtain ⟨b, hb, hu⟩ := r
   exact ⟨b, h.blks _ _ hb, hu⟩
 | .ep e off, u, _, r => by
   simp only [RelV] at r ⊢
   obtain ⟨b, o, hu, hr⟩ := r
   exact ⟨b, o, hu, RepCells.ext h.r b o e hr⟩
 | .eptr id n i off, u, p, r => by
   simp only [RelV, TV.only] at r p ⊢
   obtain ⟨h1, k, c, v, hv, hn, hu⟩ := r
   obtain ⟨c', v', hv', hle, he⟩ := h.val id k c v p hv
   refine ⟨h1, k, c', v', hv', by omega, fun e => ?_⟩
   have hcc : c = c' := by omega
   rw [he hcc, ← hcc]
   exact hu (by omega)
 | .clo f caps, u, p, r => by
   simp only [RelV, TV.only] at r p ⊢
   obtain ⟨us, hu, hr⟩ := r
   exact ⟨us, hu, RelVs.ext h caps _ p hr⟩
 | .mref id, u, p, r => by
   simp only [RelV, TV.only] at r p ⊢
   obtain ⟨b, hb, hu⟩ := r
   exact ⟨b, h.blko _ _ p hb, hu⟩
 | .sx xs, u, _, r => by
   simp only [RelV] at r ⊢
   exact ⟨Rep.ext h.r (.sl xs) u r.1, r.2⟩
 | .osl id n j, u, p, r => by
   simp only [RelV, TV.only] at r p ⊢
   obtain ⟨h1, k, c, v, hv, hn, hu⟩ := r
   obtain ⟨c', v', hv', hle, he⟩ := h.val id k c v p hv
   refine ⟨h1, k, c', v', hv', by omega, fun e => ?_⟩
   have hcc : c = c' := by omega
   rw [he hcc, ← hcc]
   exact hu (by omega)
theorem RelVs.ext {po : Nat → Prop} {E E' : En} (h : Ext po E E') : ∀ (ts : List TV) (us : List Value), TV.onlys po ts → RelVs E ts us → RelVs E' ts us
 | [], us, _, r => by simpa only [RelVs] using r
 | t :: ts, us, p, r => by
   simp only [RelVs, TV.onlys] at r p ⊢
   obtain ⟨u, us', hu, h1, h2⟩ := r
   exact ⟨u, us', hu, RelV.ext h t u p.1 h1, RelVs.ext h ts us' p.2 h2⟩
end
mutual
theorem TV.only_true : ∀ t : TV, t.only (fun _ => True)
 | .junk => by simp only [TV.only]
 | .d x => by simp only [TV.only]
 | .c v => by simp only [TV.only]
 | .agg vs => by simp only [TV.only]; exact TV.onlys_true vs
 | .tup vs => by simp only [TV.only]; exact TV.onlys_true vs
 | .oref id n => by simp only [TV.only]
 | .ptr (.o id) off => by simp only [TV.only]
 | .ptr (.x id) off => by simp only [TV.only]
 | .ptr (.s id) off => by simp only [TV.only]
 | .ep e off => by simp only [TV.only]
 | .eptr id n i off => by simp only [TV.only]
 | .clo f caps => by simp only [TV.only]; exact TV.onlys_true caps
 | .mref id => by simp only [TV.only]
 | .sx xs => by simp only [TV.only]
 | .osl id n j => by simp only [TV.only]
theorem TV.onlys_true : ∀ ts : List TV, TV.onlys (fun _ => True) ts
 | [] => by simp only [TV.onlys]
 | t :: ts => by simp only [TV.onlys]; exact ⟨TV.only_true t, TV.onlys_true ts⟩
end
abbrev ExtA := Ext (fun _ => True)
theorem RelV.up {E E' : En} {t : TV} {u : Value} (r : RelV E t u) (h : ExtA E E') : RelV E' t u := RelV.ext h t u (TV.only_true t) r
theorem RelVs.up {E E' : En} {t : List TV} {u : List Value} (r : RelVs E t u) (h : ExtA E E') : RelVs E' t u := RelVs.ext h t u (TV.onlys_true t) r
theorem Rep.up {E E' : En} {t : D} {u : Value} (r : Rep E t u) (h : ExtA E E') : Rep E' t u := Rep.ext h.r t u r
def CellsRel (E : En) (us : List Value) : Nat → List TV → Prop
 | _, [] => True
 | o, t :: ts => (∃ u, us[o]? = some u ∧ u.oneCell' = true ∧ RelV E t u) ∧ CellsRel E us (o + 1) ts
def RowRel (E : En) (us : List Value) (k : Nat) : Nat → List (List TV) → Prop
 | _, [] => True
 | o, e :: es => e.length = k ∧ CellsRel E us o e ∧ RowRel E us k (o + k) es
def En.own (E : En) (p : Pl) : Option Nat :=
 match E.blk p with
 | some b => some b
 | none => match p with
   | .o id => (E.val id).bind fun x => x.2.2.ownBlock
   | _ => none
def MapRel (E : En) : List (Int × D) → List MapEntry → Prop
 | [], l => l = []
 | (k, d) :: es, l => ∃ a l', l = a :: l' ∧ a.key = .int .i64 k ∧ a.val.oneCell' = true ∧ Rep E d a.val ∧ MapRel E es l'
theorem MapRel.ext {E E' : En} (h : ExtR E E') : ∀ {es : List (Int × D)} {l : List MapEntry}, MapRel E es l → MapRel E' es l
 | [], _, r => r
 | (_, d) :: _, _, ⟨a, l', h1, h2, h3, h4, h5⟩ => ⟨a, l', h1, h2, h3, Rep.ext h d _ h4, MapRel.ext h h5⟩
def KRel (E : En) : List (List Int × TV) → List MapEntry → Prop
 | [], l => l = []
 | (k, v) :: es, l => ∃ a l', l = a :: l' ∧ a.key = keyV k ∧ RelV E v a.val ∧ KRel E es l'
theorem KRel.up {E E' : En} (h : ExtA E E') : ∀ {es : List (List Int × TV)} {l : List MapEntry}, KRel E es l → KRel E' es l
 | [], _, r => r
 | (_, _) :: _, _, ⟨a, l', h1, h2, h3, h4⟩ => ⟨a, l', h1, h2, h3.up h, KRel.up h h4⟩
theorem KRel.ext {po : Nat → Prop} {E E' : En} (h : Ext po E E') : ∀ {es : List (List Int × TV)} {l : List MapEntry}, (∀ x ∈ es, x.2.only po) → KRel E es l → KRel E' es l
 | [], _, _, r => r
 | (_, v) :: _, _, p, ⟨a, l', h1, h2, h3, h4⟩ => ⟨a, l', h1, h2, RelV.ext h v _ (p _ (List.mem_cons_self ..)) h3, KRel.ext h (fun x hx => p x (List.mem_cons_of_mem _ hx)) h4⟩
def pdOK (l : Array MapEntry) : Option (List Int) → Value → Prop
 | none, _ => True
 | some k, v => ∃ a ∈ l.toList, a.key = keyV k ∧ v = .int .i64 a.born
def itOK (s : Snap) (left : List (List Int)) (cur : Option (List Int)) (seen : Array Nat) : Prop :=
 ((s.l.toList.filter fun x => !seen.contains x.born).map (·.key)).Perm (left.map keyV) ∧ (∀ x ∈ s.l.toList, x.born < s.clock) ∧ ∀ k, cur = some k → ∃ x ∈ s.l.toList, x.key = keyV k ∧ seen.back? = some x.born
def ownsQ (w : World) (e : TypeId) (k : Nat) (v : Value) (n : Nat) (xs : List Value) : Prop :=
 xs.length = n * k ∧ ∃ g o cap cur, v = .slice (some ⟨g, o, none⟩) n cap ∧ w.heap[g]? = some (.cells cur e (0, 0)) ∧ n ≤ cap ∧ cap ≤ maxLen ∧ o + cap * k ≤ cur.size ∧ (cur.toList.drop o).take (n * k) = xs
def ItemOK (E : En) (p : Pl) : It → Prop
 | .none => ∀ id, p = .o id → E.blk p = none ∧ E.val id = none
 | .v _ => E.own p = none
 | .box cs => (∀ id, p = .o id → E.val id = none) ∧ ∃ b ty us, E.blk p = some b ∧ E.w.heap[b]? = some (.cells us ty (0, 0)) ∧ us.size = cs.length ∧ CellsRel E us.toList 0 cs
 | .row e k es _ => E.blk p = none ∧ ∃ id v us, p = .o id ∧ E.val id = some (k, es.length, v) ∧ E.w.ownsRow 0 e k v es.length us ∧ RowRel E us k 0 es
 | .que e k es => E.blk p = none ∧ ∃ id v us, p = .o id ∧ E.val id = some (k, es.length, v) ∧ ownsQ E.w e k v es.length us ∧ RowRel E us k 0 es
 | .mp es => (∀ id, p = .o id → E.val id = none) ∧ ∃ b l clock, E.blk p = some b ∧ E.w.heap[b]? = some (.map l clock) ∧ MapRel E es l.toList ∧ MapKept.Stamped l clock
 | .mpk es c pd s => ∃ id b l clock l' ty v, p = .o id ∧ E.blk p = some b ∧ E.w.heap[b]? = some (.map l clock) ∧ l'.Perm l.toList ∧ KRel E es l' ∧ MapKept.Stamped l clock ∧ E.val id = some (ty, c, v) ∧ pdOK l pd v ∧ ∀ x, s = some x → x = ⟨b, l, clock⟩
 | .mpz es s => E.own p = none ∧ E.St s.m 0 ∧ E.w.heap[s.m]? = some (.map s.l s.clock) ∧ MapKept.Stamped s.l s.clock ∧ ∃ l', l'.Perm s.l.toList ∧ KRel E es l'
 | .mit _ s left cur => (∀ id, p = .o id → E.val id = none) ∧ ∃ r seen, E.blk p = some r ∧ E.w.heap[r]? = some (.mapIter (some s.m) s.clock seen s.clock) ∧ itOK s left cur seen
structure HInv (E : En) (H : S) : Prop where
 item : ∀ p, (∀ k, p ≠ .s k) → ItemOK E p (H p)
 frees : ∀ k, E.blk (.s k) = none
 inj : ∀ p q b, E.own p = some b → E.own q = some b → p = q
 size : ∀ p b, E.own p = some b → b < E.w.heap.size
 stsz : ∀ b o, E.St b o → b < E.w.heap.size
 sep : ∀ b o, E.St b o → ∀ p, E.own p = some b → ∃ e k es, H p = .row e k es true ∧ o < es.length * k
 gl : ∀ y ∈ globs, RepCells E y.1 0 y.2
structure Fr (E0 E : En) : Prop where
 os : E.w.os = E0.w.os
 tape : E.w.tape = E0.w.tape
 output : E.w.output = E0.w.output
 size : E0.w.heap.size ≤ E.w.heap.size
 old : ∀ b, b < E0.w.heap.size → (∀ i, E0.blk (.x i) ≠ some b) → (∀ j, E0.own (.o j) ≠ some b) → E.w.heap[b]? = E0.w.heap[b]?
 xb : ∀ i, E.blk (.x i) = E0.blk (.x i)
 new : ∀ id b, E.own (.o id) = some b → E0.w.heap.size ≤ b ∨ ∃ j, E0.own (.o j) = some b
 st : ∀ b o, E0.St b o → E.St b o
 newst : ∀ b o, E.St b o → E0.St b o ∨ (E0.w.heap.size ≤ b ∨ ∃ j, E0.own (.o j) = some b)
structure Actv where
 E0 : En
 N : Nat
structure InvE (A : Actv) (t : S) (a : Act) (E : En) : Prop where
 h : HInv E t
 fr : Fr A.E0 E
 sl : ∀ k tv, t (.s k) = .v tv → ∃ u, a.tmps[k]? = some u ∧ RelV E tv u
 defers : a.defers = []
 size : A.N ≤ a.tmps.size
def Inv (A : Actv) (t : S) (a : Act) (w : World) : Prop := ∃ E : En, E.w = w ∧ InvE A t a E
def upd (t : S) (p : Pl) (i : It) : S := fun q => if q = p then i else t q
def over (t : S) : List (Pl × It) → S
 | [] => t
 | (p, i) :: W => upd (over t W) p i
end Go.Tr

namespace Go.Tr
open Go
theorem add_lit' (b o n : Nat) : (⟨b, o, none⟩ : Addr).add n = ⟨b, o + n, none⟩ := by unfold Addr.add; split <;> simp_all
theorem CellsRel.up {E E' : En} (h : ExtA E E') {us : List Value} : ∀ {o : Nat} {ts : List TV}, CellsRel E us o ts → CellsRel E' us o ts
 | _, [], _ => trivial
 | _, _ :: _, ⟨⟨u, h1, h2, h3⟩, r⟩ => ⟨⟨u, h1, h2, h3.up h⟩, r.up h⟩
theorem RowRel.up {E E' : En} (h : ExtA E E') {us : List Value} {k : Nat} : ∀ {o : Nat} {es : List (List TV)}, RowRel E us k o es → RowRel E' us k o es
 | _, [], _ => trivial
 | _, _ :: _, ⟨h1, h2, r⟩ => ⟨h1, h2.up h, r.up h⟩
theorem CellsRel.get {E : En} {us : List Value} : ∀ {o : Nat} {ts : List TV} (_ : CellsRel E us o ts) {i : Nat} {t : TV}, ts[i]? = some t →
  ∃ u, us[o + i]? = some u ∧ u.oneCell' = true ∧ RelV E t u
 | _, [], _, _, _, h => by simp at h
 | o, t :: ts, ⟨h, r⟩, 0, t', e => by simp at e; subst e; simpa using h
 | o, t :: ts, ⟨_, r⟩, i + 1, t', e => by
   have := CellsRel.get r (i := i) (t := t') (by simpa using e)
   rwa [show o + (i + 1) = o + 1 + i by omega]
theorem CellsRel.of_get {E : En} {us : List Value} : ∀ {o : Nat} {ts : List TV}, (∀ i t, ts[i]? = some t → ∃ u, us[o + i]? = some u ∧ u.oneCell' = true ∧ RelV E t u) → CellsRel E us o ts
 | _, [], _ => trivial
 | o, t :: ts, h => ⟨by simpa using h 0 t rfl, CellsRel.of_get fun i t' e => by
   have := h (i + 1) t' (by simpa using e)
   rwa [show o + (i + 1) = o + 1 + i by omega] at this⟩
theorem RowRel.get {E : En} {us : List Value} {k : Nat} : ∀ {o : Nat} {es : List (List TV)} (_ : RowRel E us k o es) {i : Nat} {e : List TV}, es[i]? = some e →
  e.length = k ∧ CellsRel E us (o + i * k) e
 | _, [], _, _, _, h => by simp at h
 | o, e :: es, ⟨h1, h2, r⟩, 0, e', he => by simp at he; subst he; exact ⟨h1, by simpa using h2⟩
 | o, e :: es, ⟨_, _, r⟩, i + 1, e', he => by
   have := RowRel.get r (i := i) (e := e') (by simpa using he)
   refine ⟨this.1, ?_⟩
   have h := this.2
   rwa [show o + k + i * k = o + (i + 1) * k by rw [Nat.add_mul]; omega] at h
theorem RowRel.of_get {E : En} {us : List Value} {k : Nat} : ∀ {o : Nat} {es : List (List TV)}, (∀ i e, es[i]? = some e → e.length = k ∧ CellsRel E us (o + i * k) e) → RowRel E us k o es
 | _, [], _ => trivial
 | o, e :: es, h => ⟨(h 0 e rfl).1, by simpa using (h 0 e rfl).2, RowRel.of_get fun i e' he => by
   have := h (i + 1) e' (by simpa using he)
   refine ⟨this.1, ?_⟩
   have h2 := this.2
   rwa [show o + (i + 1) * k = o + k + i * k by rw [Nat.add_mul]; omega] at h2⟩
theorem RepRows.get {E : En} {b k : Nat} : ∀ {o : Nat} {xs : List (List D)} (_ : RepRows E b k o xs) {i : Nat} {e : List D}, xs[i]? = some e →
  e.length = k ∧ RepCells E b (o + i * k) e
 | _, [], _, _, _, h => by simp at h
 | o, e :: es, h, 0, e', he => by simp only [RepRows] at h; simp at he; subst he; exact ⟨h.1, by simpa using h.2.1⟩
 | o, e :: es, h, i + 1, e', he => by
   simp only [RepRows] at h
   have := RepRows.get h.2.2 (i := i) (e := e') (by simpa using he)
   refine ⟨this.1, ?_⟩
   have h := this.2
   rwa [show o + k + i * k = o + (i + 1) * k by rw [Nat.add_mul]; omega] at h
theorem RepRows.of_get {E : En} {b k : Nat} : ∀ {o : Nat} {xs : List (List D)}, (∀ i e, xs[i]? = some e → e.length = k ∧ RepCells E b (o + i * k) e) → RepRows E b k o xs
 | _, [], _ => by simp only [RepRows]
 | o, e :: es, h => by
   simp only [RepRows]
   exact ⟨(h 0 e rfl).1, by simpa using (h 0 e rfl).2, RepRows.of_get fun i e' he => by
    have := h (i + 1) e' (by simpa using he)
    refine ⟨this.1, ?_⟩
    have h2 := this.2
    rwa [show o + (i + 1) * k = o + k + i * k by rw [Nat.add_mul]; omega] at h2⟩
theorem RepCells.get {E : En} {b : Nat} : ∀ {o : Nat} {xs : List D} (_ : RepCells E b o xs) {i : Nat} {x : D}, xs[i]? = some x →
  E.St b (o + i) ∧ ∃ u, E.w.cell? ⟨b, o + i, none⟩ = some u ∧ Rep E x u
 | _, [], _, _, _, h => by simp at h
 | o, x :: ds, h, 0, x', he => by simp only [RepCells] at h; simp at he; subst he; simpa using h.1
 | o, x :: ds, h, i + 1, x', he => by
   simp only [RepCells] at h
   have := RepCells.get h.2 (i := i) (x := x') (by simpa using he)
   rwa [show o + (i + 1) = o + 1 + i by omega]
theorem RepCells.of_get {E : En} {b : Nat} : ∀ {o : Nat} {xs : List D}, (∀ i x, xs[i]? = some x → E.St b (o + i) ∧ ∃ u, E.w.cell? ⟨b, o + i, none⟩ = some u ∧ Rep E x u) → RepCells E b o xs
 | _, [], _ => by simp only [RepCells]
 | o, x :: ds, h => by
   simp only [RepCells]
   exact ⟨by simpa using h 0 x rfl, RepCells.of_get fun i x' he => by
    have := h (i + 1) x' (by simpa using he)
    rwa [show o + (i + 1) = o + 1 + i by omega] at this⟩
theorem Rep.one {E : En} : ∀ {x : D} {u : Value}, Rep E x u → u.oneCell' = true
 | .int k n, u, h => by simp only [Rep] at h; subst h; rfl
 | .bool b, u, h => by simp only [Rep] at h; subst h; rfl
 | .str s, u, h => by simp only [Rep] at h; subst h; rfl
 | .sl xs, u, h => by
   simp only [Rep] at h
   rcases h with ⟨_, a, c, rfl⟩ | ⟨b, o, c, k, rfl, _⟩ <;> rfl
 | .mp ks vs, u, h => by
   simp only [Rep] at h
   obtain ⟨b, l, clock, l', rfl, _⟩ := h
   rfl
def TV.one : TV → Bool
 | .d _ | .oref _ _ | .ptr _ _ | .ep _ _ | .eptr _ _ _ _ | .clo _ _ | .mref _ | .sx _ | .osl _ _ _ => true
 | .c v => v.oneCell'
 | _ => false
theorem RelV.one {E : En} : ∀ {t : TV} {u : Value}, t.one = true → RelV E t u → u.oneCell' = true
 | .d x, u, _, h => by simp only [RelV] at h; exact h.one
 | .c v, u, h1, h => by simp only [RelV] at h; subst h; simpa only [TV.one] using h1
 | .oref id n, u, _, h => by simp only [RelV] at h; exact h.1
 | .ptr p off, u, _, h => by simp only [RelV] at h; obtain ⟨b, _, rfl⟩ := h; rfl
 | .ep e off, u, _, h => by simp only [RelV] at h; obtain ⟨b, o, rfl, _⟩ := h; rfl
 | .eptr id n i off, u, _, h => by simp only [RelV] at h; exact h.1
 | .osl id n j, u, _, h => by simp only [RelV] at h; exact h.1
 | .mref id, u, _, h => by simp only [RelV] at h; obtain ⟨b, _, rfl⟩ := h; rfl
 | .sx xs, u, _, h => by simp only [RelV] at h; obtain ⟨_, b, rfl⟩ := h; rfl
 | .clo f caps, u, _, h => by simp only [RelV] at h; obtain ⟨us, rfl, _⟩ := h; rfl
 | .junk, _, h, _ => by simp [TV.one] at h
 | .agg _, _, h, _ => by simp [TV.one] at h
 | .tup _, _, h, _ => by simp [TV.one] at h
theorem RelVs.length {E : En} : ∀ {ts : List TV} {us : List Value}, RelVs E ts us → us.length = ts.length
 | [], us, h => by simp only [RelVs] at h; subst h; rfl
 | t :: ts, us, h => by
   simp only [RelVs] at h
   obtain ⟨u, us', rfl, _, h2⟩ := h
   simp [h2.length]
theorem RelVs.get {E : En} : ∀ {ts : List TV} {us : List Value}, RelVs E ts us → ∀ {i : Nat} {t : TV}, ts[i]? = some t → ∃ u, us[i]? = some u ∧ RelV E t u
 | [], us, h, i, t, e => by simp at e
 | t :: ts, us, h, i, t', e => by
   simp only [RelVs] at h
   obtain ⟨u, us', rfl, h1, h2⟩ := h
   cases i with
   | zero => simp at e; subst e; exact ⟨u, rfl, h1⟩
   | succ i => simpa using h2.get (i := i) (by simpa using e)
theorem RelVs.of_get {E : En} : ∀ {ts : List TV} {us : List Value}, us.length = ts.length → (∀ (i : Nat) (t : TV) (u : Value), ts[i]? = some t → us[i]? = some u → RelV E t u) → RelVs E ts us
 | [], us, hl, _ => by simp only [RelVs]; exact List.eq_nil_of_length_eq_zero hl
 | t :: ts, [], hl, _ => by simp at hl
 | t :: ts, u :: us, hl, h => by
   simp only [RelVs]
   exact ⟨u, us, rfl, h 0 t u rfl rfl, RelVs.of_get (by simpa using hl) fun i t' u' e e' => h (i + 1) t' u' (by simpa using e) (by simpa using e')⟩
theorem RelVs.cells {E : En} {ts : List TV} {us : List Value} (h : RelVs E ts us) (h1 : ∀ t ∈ ts, t.one = true) : CellsRel E us 0 ts :=
 CellsRel.of_get fun i t e => by
  obtain ⟨u, hu, hr⟩ := h.get e
  exact ⟨u, by simpa using hu, hr.one (h1 t (List.mem_of_getElem? e)), hr⟩
theorem HInv.slot {E : En} {H : S} (h : HInv E H) (k : Nat) (i : It) : HInv E (upd H (.s k) i) where
 item p hp := by rw [upd, if_neg (hp k)]; exact h.item p hp
 frees := h.frees
 inj := h.inj
 size := h.size
 stsz := h.stsz
 gl := h.gl
 sep b o hst p hp := by
  obtain ⟨e, k', es, h1, h2⟩ := h.sep b o hst p hp
  refine ⟨e, k', es, ?_, h2⟩
  rw [upd, if_neg]
  ·exact h1
  ·rintro rfl
   simp [En.own, h.frees k] at hp
theorem En.own_eq {E E' : En} {p : Pl} (hb : E'.blk p = E.blk p) (hv : ∀ id, p = .o id → E'.val id = E.val id) : E'.own p = E.own p := by
 unfold En.own
 rw [hb]
 cases p with
 | o id => simp [hv id rfl]
 | s k => rfl
 | x k => rfl
theorem ItemOK.up {E E' : En} {p : Pl} {it : It} (h : ItemOK E p it) (x : ExtA E E') (hb : E'.blk p = E.blk p) (hv : ∀ id, p = .o id → E'.val id = E.val id)
  (hh : ∀ b, E.own p = some b → E'.w.heap[b]? = E.w.heap[b]?) : ItemOK E' p it := by
 cases it with
 | none => exact fun id e => by rw [hb, hv id e]; exact h id e
 | v t => exact (En.own_eq hb hv).trans h
 | box cs =>
   obtain ⟨h0, b, ty, us, h1, h2, h3, h4⟩ := h
   exact ⟨fun id e => by rw [hv id e]; exact h0 id e, b, ty, us, hb.trans h1, (hh b (by simp [En.own, h1])).trans h2, h3, h4.up x⟩
 | row e k es sh =>
   obtain ⟨h0, id, v, us, rfl, h1, h2, h3⟩ := h
   refine ⟨hb.trans h0, id, v, us, rfl, (hv id rfl).trans h1, ⟨h2.1, ?_⟩, h3.up x⟩
   rcases h2.2 with hn | ⟨g, cap, cur, rfl, hg, hgg, rest⟩
   ·exact .inl hn
   ·exact .inr ⟨g, cap, cur, rfl, hg, (hh g (by simp [En.own, h0, h1, Value.ownBlock])).trans hgg, rest⟩
 | que e k es =>
   obtain ⟨h0, id, v, us, rfl, h1, h2, h3⟩ := h
   obtain ⟨h4, g, o, cap, cur, rfl, hgg, rest⟩ := h2
   exact ⟨hb.trans h0, id, _, us, rfl, (hv id rfl).trans h1, ⟨h4, g, o, cap, cur, rfl, (hh g (by simp [En.own, h0, h1, Value.ownBlock])).trans hgg, rest⟩, h3.up x⟩
 | mp es =>
   obtain ⟨h0, b, l, clock, h1, h2, h3, h4⟩ := h
   exact ⟨fun id e => by rw [hv id e]; exact h0 id e, b, l, clock, hb.trans h1, (hh b (by simp [En.own, h1])).trans h2, h3.ext x.r, h4⟩
 | mpk es c pd s =>
   obtain ⟨id, b, l, clock, l', ty, v, rfl, h1, h2, h3, h4, h5, h6, h7, h8⟩ := h
   exact ⟨id, b, l, clock, l', ty, v, rfl, hb.trans h1, (hh b (by simp [En.own, h1])).trans h2, h3, h4.up x, h5, (hv id rfl).trans h6, h7, h8⟩
 | mpz es s =>
   obtain ⟨h0, h1, h2, h3, l', h4, h5⟩ := h
   exact ⟨(En.own_eq hb hv).trans h0, x.st _ _ h1, map_of_at (x.cell _ _ h1) h2, h3, l', h4, h5.up x⟩
 | mit m s left cur =>
   obtain ⟨h0, r, seen, h1, h2, h3⟩ := h
   exact ⟨fun id e => by rw [hv id e]; exact h0 id e, r, seen, hb.trans h1, (hh r (by simp [En.own, h1])).trans h2, h3⟩
theorem HInv.change {E E' : En} {H : S} {p : Pl} {it : It} (h : HInv E H) (hp : ∀ k, p ≠ .s k) (x : ExtA E E')
  (hSt : ∀ b o, E'.St b o → E.St b o ∨ (E'.own p ≠ some b ∧ E.w.heap.size ≤ b ∧ b < E'.w.heap.size)) (hblk : ∀ q, q ≠ p → E'.blk q = E.blk q) (hval : ∀ id, p ≠ .o id → E'.val id = E.val id)
  (hs : E.w.heap.size ≤ E'.w.heap.size) (hoth : ∀ q b, q ≠ p → E.own q = some b → E'.w.heap[b]? = E.w.heap[b]?)
  (hown : ∀ b, E'.own p = some b → b < E'.w.heap.size ∧ (E.own p = some b ∨ E.w.heap.size ≤ b))
  (hit : ItemOK E' p it) (hsep : ∀ b o, E.St b o → E'.own p = some b → ∃ e k es, it = .row e k es true ∧ o < es.length * k) : HInv E' (upd H p it) := by
 have hq : ∀ q, q ≠ p → E'.own q = E.own q := fun q hne => En.own_eq (hblk q hne) (fun id e => hval id (fun e' => hne (e.trans e'.symm)))
 refine ⟨fun q hqs => ?_, fun k => ?_, fun q r b h1 h2 => ?_, fun q b h1 => ?_, fun b o h1 => ?_, fun b o h1 q h2 => ?_, fun y hy => RepCells.ext x.r _ _ _ (h.gl y hy)⟩
 ·by_cases e : q = p
  ·subst e; simpa only [upd, if_true] using hit
  ·rw [upd, if_neg e]
   exact (h.item q hqs).up x (hblk q e) (fun id e' => hval id (fun e'' => e (e'.trans e''.symm))) (fun b hb => hoth q b e hb)
 ·rw [hblk _ (fun e => hp k e.symm)]; exact h.frees k
 ·by_cases e1 : q = p <;> by_cases e2 : r = p
  ·rw [e1, e2]
  ·subst e1
   rw [hq r e2] at h2
   rcases (hown b h1).2 with h3 | h3
   ·exact h.inj _ _ b h3 h2
   ·have := h.size r b h2; omega
  ·subst e2
   rw [hq q e1] at h1
   rcases (hown b h2).2 with h3 | h3
   ·exact h.inj _ _ b h1 h3
   ·have := h.size q b h1; omega
  ·rw [hq q e1] at h1; rw [hq r e2] at h2; exact h.inj _ _ b h1 h2
 ·by_cases e : q = p
  ·subst e; exact (hown b h1).1
  ·rw [hq q e] at h1; exact Nat.lt_of_lt_of_le (h.size q b h1) hs
 ·rcases hSt b o h1 with h2 | ⟨_, _, h2⟩
  ·exact Nat.lt_of_lt_of_le (h.stsz b o h2) hs
  ·exact h2
 ·rcases hSt b o h1 with h3 | ⟨hb, h3, _⟩
  ·by_cases e : q = p
   ·subst e
    obtain ⟨e', k, es, h4, h5⟩ := hsep b o h3 h2
    exact ⟨e', k, es, by simpa only [upd, if_true] using h4, h5⟩
   ·rw [hq q e] at h2
    obtain ⟨e', k, es, h4, h5⟩ := h.sep b o h3 q h2
    exact ⟨e', k, es, by rw [upd, if_neg e]; exact h4, h5⟩
  ·by_cases e : q = p
   ·subst e; exact absurd h2 hb
   ·rw [hq q e] at h2
    have := h.size q b h2
    omega
theorem HInv.more {E E' : En} {H : S} (h : HInv E H) (x : ExtA E E') (hblk : E'.blk = E.blk) (hval : E'.val = E.val) (hs : E.w.heap.size ≤ E'.w.heap.size)
  (hoth : ∀ b, b < E.w.heap.size → E'.w.heap[b]? = E.w.heap[b]?)
  (hSt : ∀ b o, E'.St b o → E.St b o ∨ (b < E'.w.heap.size ∧ ∀ p, E.own p = some b → ∃ e k es, H p = .row e k es true ∧ o < es.length * k)) : HInv E' H := by
 have hq : ∀ q, E'.own q = E.own q := fun q => En.own_eq (by rw [hblk]) (fun id _ => by rw [hval])
 refine ⟨fun q hqs => (h.item q hqs).up x (by rw [hblk]) (fun id _ => by rw [hval]) (fun b hb => hoth b (h.size q b hb)), fun k => by rw [hblk]; exact h.frees k,
  fun q r b h1 h2 => h.inj q r b (by rwa [hq] at h1) (by rwa [hq] at h2), fun q b h1 => Nat.lt_of_lt_of_le (h.size q b (by rwa [hq] at h1)) hs, fun b o h1 => ?_, fun b o h1 q h2 => ?_, fun y hy => RepCells.ext x.r _ _ _ (h.gl y hy)⟩
 ·rcases hSt b o h1 with h2 | h2
  ·exact Nat.lt_of_lt_of_le (h.stsz b o h2) hs
  ·exact h2.1
 ·rcases hSt b o h1 with h3 | h3
  ·exact h.sep b o h3 q (by rwa [hq] at h2)
  ·exact h3.2 q (by rwa [hq] at h2)
end Go.Tr

/-
  What functions of the program compute, stated as contracts over plain data; the conditions of each stand in its own statement.
-/
import Derived.Test.YtjgeggdefiejbaaGreatDoorZM30
import Derived.Test.YtjgeggdefiejbaaGreatDoorZM29
import Derived.Shelf.SlGeneric
import Derived.Shelf.SlSortCmp.NoneTotal
import Derived.Shelf.SlicesG.Cmp
import Derived.Ground.SlsfProg
import Derived.Ground.SlgcProg
import Derived.Test.YtjgeggdefiejbaaGreatDoorChecked
import Derived.WalkKit
import Derived.StillTailTactics
import Derived.Deep.QuietTactic
import Derived.BigQuiet
import Derived.LoopN
import Derived.KernelRfl
import Derived.Handy
set_option linter.unusedSimpArgs false
namespace Go.Tr
open Go
def ANo {ι : Type} (k : List Pl → List (Pl × It) → Prop) (_ : Tg k) (X : ι → Prop) : Option (Prop × (ι → List (Pl × It))) → Prop
 | some (C, W) => C ∧ ∀ c, X c → k [] (W c)
 | none => False
section
variable {P : Program} {A : Actv} {ops : Array Oper}
def rangeO (P : Program) (N : Nat) (t : S) (ops : Array Oper) : Option Oper → Option (Prop × (Snap → List (Pl × It)))
 | some o => match gv ops t o with
   | some (_, g) => match o.op with
     | .range ty x => match ev t x with
       | .mref id => match t (.o id) with
         | .mpk es c pd _ => some (g = true ∧ dstOK N o = true ∧ mapTy P ty = true ∧ t (.o (o.dst.getD 0)) = .none, fun s => dstW o (.ptr (.o (o.dst.getD 0)) 0) [(.o (o.dst.getD 0), .mit id s (es.map (·.1)) none), (.o id, .mpk es c pd (some s))])
         | _ => none
       | .d (.mp ks vs) => some (g = true ∧ dstOK N o = true ∧ mapTy P ty = true ∧ t (.o (o.dst.getD 0)) = .none ∧ t (.o (o.dst.getD 0 + 4000000)) = .none,
         fun s => dstW o (.ptr (.o (o.dst.getD 0)) 0) [(.o (o.dst.getD 0), .mit (o.dst.getD 0 + 4000000) s ((kzip ks vs).map (·.1)) none), (.o (o.dst.getD 0 + 4000000), .mpz (kzip ks vs) s)])
       | _ => none
     | _ => none
   | none => none
 | none => none
theorem ANon.range {i : Nat} {t : S} {k : List Pl → List (Pl × It) → Prop} {g : Tg k} (h : ANo k g (fun _ => True) (rangeO P A.N t ops ops[i]?)) : ANon P A ops i t k g := by
 unfold ANo at h
 split at h
 ·rename_i C W hc
  obtain ⟨h1, h2⟩ := h
  refine ⟨Snap, fun _ => [], W, ?_, fun s => h2 s trivial⟩
  unfold rangeO at hc
  split at hc
  ·rename_i o ho
   split at hc
   ·rename_i gp g0 hg
    split at hc
    ·rename_i ty x hop
     split at hc
     ·rename_i id hx
      split at hc
      ·rename_i es c pd s0 ht
       simp only [Option.some.injEq, Prod.mk.injEq] at hc
       obtain ⟨rfl, rfl⟩ := hc
       obtain ⟨rfl, q1, q2, q3⟩ := h1
       intro a w hinv K Q hK
       obtain ⟨E, hw, hi⟩ := hinv
       subst hw
       have hwant := gv_wanted hg (fun _ _ => rfl) hi
       obtain ⟨kt, e, hu⟩ : ∃ kt e, P.underlying ty = some (.map kt e) := by
        unfold mapTy at q2
        split at q2
        ·rename_i kt e hu; exact ⟨kt, e, hu⟩
        ·simp at q2
       obtain ⟨s, u, E', r1, r2, r3⟩ := range_ok hop hu hx ht q3 t (fun _ _ => rfl) a E hi
       unfold wpOp
       simp only [ho, hwant, if_true]
       refine .inl ?_
       unfold Oper.wp
       rw [r1]
       exact hK s _ _ ⟨E', rfl, r2.dst q1 r3⟩
      ·simp at hc
     ·rename_i ks vs hx
      simp only [Option.some.injEq, Prod.mk.injEq] at hc
      obtain ⟨rfl, rfl⟩ := hc
      obtain ⟨rfl, q1, q2, q3, q4⟩ := h1
      intro a w hinv K Q hK
      obtain ⟨E, hw, hi⟩ := hinv
      subst hw
      have hwant := gv_wanted hg (fun _ _ => rfl) hi
      obtain ⟨kt, e, hu⟩ : ∃ kt e, P.underlying ty = some (.map kt e) := by
       unfold mapTy at q2
       split at q2
       ·rename_i kt e hu; exact ⟨kt, e, hu⟩
       ·simp at q2
      obtain ⟨s, u, E', r1, r2, r3⟩ := rangeZ_ok hop hu hx q3 q4 (by omega) t (fun _ _ => rfl) a E hi
      unfold wpOp
      simp only [ho, hwant, if_true]
      refine .inl ?_
      unfold Oper.wp
      rw [r1]
      exact hK s _ _ ⟨E', rfl, r2.dst q1 r3⟩
     ·simp at hc
    ·simp at hc
   ·simp at hc
  ·simp at hc
 ·exact h.elim
def nextO (N : Nat) (t : S) (ops : Array Oper) : Option Oper → Option (List (List Int) × (Prop × (Option (List Int) → List (Pl × It))))
 | some o => match gv ops t o with
   | some (_, g) => match o.op with
     | .next x false => match ev t x with
       | .ptr (.o d) off => match t (.o d) with
         | .mit id s left _ => match t (.o id) with
           | .mpk _ _ _ (some s') => some (left, (g = true ∧ dstOK N o = true ∧ off = 0 ∧ s' = s, fun k => dstW o (nextV k) (nextW d id s left k)))
           | .mpz _ s' => some (left, (g = true ∧ dstOK N o = true ∧ off = 0 ∧ s' = s, fun k => dstW o (nextV k) (nextW d id s left k)))
           | _ => none
         | _ => none
       | _ => none
     | _ => none
   | none => none
 | none => none
def ANn (k : List Pl → List (Pl × It) → Prop) (_ : Tg k) : Option (List (List Int) × (Prop × (Option (List Int) → List (Pl × It)))) → Prop
 | some (left, (C, W)) => C ∧ (left = [] → k [] (W none)) ∧ ∀ x, x ∈ left → k [] (W (some x))
 | none => False
theorem SumN.next {i d id off : Nat} {t : S} {o : Oper} {gp : List Pl} {x : Operand} {es : List (List Int × TV)} {s : Snap} {left : List (List Int)} {cur : Option (List Int)} (ho : ops[i]? = some o) (hg : gv ops t o = some (gp, true)) (hop : o.op = .next x false) (hx : ev t x = .ptr (.o d) off) (hd : t (.o d) = .mit id s left cur)
  (hm : mview es s (t (.o id))) (q1 : dstOK A.N o = true) (q2 : off = 0) : SumN P A ops i t (ι := { k // nextOK left k }) fun k => dstW o (nextV k.1) (nextW d id s left k.1) := fun a w hinv K Q hK => by
 subst q2
 obtain ⟨E, hw, hi⟩ := hinv
 subst hw
 have hwant := gv_wanted hg (fun _ _ => rfl) hi
 obtain ⟨k, u, E', hk, r1, r2, r3⟩ := next_ok (P := P) hop hx hd hm t (fun _ _ => rfl) a E hi
 unfold wpOp
 simp only [ho, hwant, if_true]
 refine .inl ?_
 unfold Oper.wp
 rw [r1]
 exact hK ⟨k, hk⟩ _ _ ⟨E', rfl, r2.dst q1 r3⟩
theorem ANon.next {i : Nat} {t : S} {k : List Pl → List (Pl × It) → Prop} {g : Tg k} (h : ANn k g (nextO A.N t ops ops[i]?)) : ANon P A ops i t k g := by
 unfold ANn at h
 split at h
 ·rename_i left C W hc
  obtain ⟨h1, h2, h3⟩ := h
  refine ⟨{ k // nextOK left k }, fun _ => [], fun k => W k.1, ?_, fun ⟨k, hk⟩ => ?_⟩
  ·unfold nextO at hc
   split at hc
   ·rename_i o ho
    split at hc
    ·rename_i gp g0 hg
     split at hc
     ·rename_i x hop
      split at hc
      ·rename_i d off hx
       split at hc
       ·rename_i id s left' cur hd
        split at hc
        ·rename_i es c pd s' hm
         simp only [Option.some.injEq, Prod.mk.injEq] at hc
         obtain ⟨rfl, rfl, rfl⟩ := hc
         obtain ⟨rfl, q1, q2, rfl⟩ := h1
         exact SumN.next ho hg hop hx hd (es := es) (by rw [hm]; exact ⟨rfl, rfl⟩) q1 q2
        ·rename_i es s' hm
         simp only [Option.some.injEq, Prod.mk.injEq] at hc
         obtain ⟨rfl, rfl, rfl⟩ := hc
         obtain ⟨rfl, q1, q2, rfl⟩ := h1
         exact SumN.next ho hg hop hx hd (es := es) (by rw [hm]; exact ⟨rfl, rfl⟩) q1 q2
        ·simp at hc
       ·simp at hc
      ·simp at hc
     ·simp at hc
    ·simp at hc
   ·simp at hc
  ·cases k with
   | none => exact h2 hk
   | some x => exact h3 x hk
 ·exact h.elim
attribute [simp] nextV
end
mutual
def TV.frz (id : Nat) (v : D) : TV → TV
 | .agg vs => .agg (TV.frzs id v vs)
 | .tup vs => .tup (TV.frzs id v vs)
 | .clo f vs => .clo f (TV.frzs id v vs)
 | .oref i n => if i = id then .junk else .oref i n
 | .eptr i n j q => if i = id then .junk else .eptr i n j q
 | .mref i => if i = id then .d v else .mref i
 | .osl i n j => if i = id then .junk else .osl i n j
 | .ptr p q => if p = .o id then .junk else .ptr p q
 | t => t
def TV.frzs (id : Nat) (v : D) : List TV → List TV
 | [] => []
 | t :: ts => t.frz id v :: TV.frzs id v ts
end
def frzI (id : Nat) (v : D) : It → It
 | .v t => .v (t.frz id v)
 | .box cs => .box (TV.frzs id v cs)
 | .row e k es sh => .row e k (es.map (TV.frzs id v)) sh
 | .que e k es => .que e k (es.map (TV.frzs id v))
 | .mpk es c pd s => .mpk (es.map fun x => (x.1, x.2.frz id v)) c pd s
 | .mpz es s => .mpz (es.map fun x => (x.1, x.2.frz id v)) s
 | i => i
def En.frz (E : En) (id b : Nat) : En :=
 { E with St := fun b' o => E.St b' o ∨ (b' = b ∧ o = 0), blk := fun p => if p = .o id then none else E.blk p, val := fun k => if k = id then none else E.val k }
theorem frz_r (E : En) (id b : Nat) : ExtR E (E.frz id b) := ⟨fun _ _ h => .inl h, fun _ _ _ => rfl⟩
section
variable {E : En} {id b : Nat} {v : D}
mutual
theorem frz_rel (hb : E.blk (.o id) = some b) (hv : Rep (E.frz id b) v (.map (some b))) : ∀ {t : TV} {u : Value}, RelV E t u → RelV (E.frz id b) (t.frz id v) u
 | .junk, u, _ => by simp only [TV.frz, RelV]
 | .d x, u, h => by simp only [TV.frz, RelV] at h ⊢; exact Rep.ext (frz_r E id b) x u h
 | .c w, u, h => by simp only [TV.frz, RelV] at h ⊢; exact h
 | .agg vs, u, h => by
   simp only [TV.frz, RelV] at h ⊢
   obtain ⟨us, hu, h⟩ := h
   exact ⟨us, hu, frzs_rel hb hv h⟩
 | .tup vs, u, h => by
   simp only [TV.frz, RelV] at h ⊢
   obtain ⟨us, hu, h⟩ := h
   exact ⟨us, hu, frzs_rel hb hv h⟩
 | .oref i n, u, h => by
   simp only [TV.frz]
   split
   ·simp only [RelV]
   ·rename_i e
    simp only [RelV] at h ⊢
    obtain ⟨h1, k, c, w, h2, h3⟩ := h
    exact ⟨h1, k, c, w, by simp only [En.frz, if_neg e]; exact h2, h3⟩
 | .ptr p q, u, h => by
   simp only [TV.frz]
   split
   ·simp only [RelV]
   ·rename_i e
    simp only [RelV] at h ⊢
    obtain ⟨b', h1, h2⟩ := h
    exact ⟨b', by simp only [En.frz, if_neg e]; exact h1, h2⟩
 | .ep e q, u, h => by
   simp only [TV.frz, RelV] at h ⊢
   obtain ⟨b', o, hu, hc⟩ := h
   exact ⟨b', o, hu, RepCells.ext (frz_r E id b) b' o e hc⟩
 | .eptr i n j q, u, h => by
   simp only [TV.frz]
   split
   ·simp only [RelV]
   ·rename_i e
    simp only [RelV] at h ⊢
    obtain ⟨h1, k, c, w, h2, h3⟩ := h
    exact ⟨h1, k, c, w, by simp only [En.frz, if_neg e]; exact h2, h3⟩
 | .osl i n j, u, h => by
   simp only [TV.frz]
   split
   ·simp only [RelV]
   ·rename_i e
    simp only [RelV] at h ⊢
    obtain ⟨h1, k, c, w, h2, h3⟩ := h
    exact ⟨h1, k, c, w, by simp only [En.frz, if_neg e]; exact h2, h3⟩
 | .mref i, u, h => by
   simp only [TV.frz]
   simp only [RelV] at h
   obtain ⟨b', h1, h2⟩ := h
   split
   ·rename_i e
    subst e
    rw [hb] at h1
    simp only [Option.some.injEq] at h1
    subst h1; subst h2
    simp only [RelV]; exact hv
   ·rename_i e
    simp only [RelV]
    exact ⟨b', by simp only [En.frz]; rw [if_neg (by simpa using e)]; exact h1, h2⟩
 | .sx xs, u, h => by
   simp only [TV.frz, RelV] at h ⊢
   exact ⟨Rep.ext (frz_r E id b) (.sl xs) u h.1, h.2⟩
 | .clo f vs, u, h => by
   simp only [TV.frz, RelV] at h ⊢
   obtain ⟨us, hu, h⟩ := h
   exact ⟨us, hu, frzs_rel hb hv h⟩
theorem frzs_rel (hb : E.blk (.o id) = some b) (hv : Rep (E.frz id b) v (.map (some b))) : ∀ {ts : List TV} {us : List Value}, RelVs E ts us → RelVs (E.frz id b) (TV.frzs id v ts) us
 | [], us, h => by simpa only [TV.frzs, RelVs] using h
 | t :: ts, us, h => by
   simp only [TV.frzs, RelVs] at h ⊢
   obtain ⟨u, us', hu, h1, h2⟩ := h
   exact ⟨u, us', hu, frz_rel hb hv h1, frzs_rel hb hv h2⟩
end
theorem frzs_length : ∀ ts : List TV, (TV.frzs id v ts).length = ts.length
 | [] => by simp only [TV.frzs]
 | t :: ts => by simp only [TV.frzs, List.length_cons, frzs_length ts]
theorem frzCells (hb : E.blk (.o id) = some b) (hv : Rep (E.frz id b) v (.map (some b))) {us : List Value} : ∀ {o : Nat} {cs : List TV}, CellsRel E us o cs → CellsRel (E.frz id b) us o (TV.frzs id v cs)
 | _, [], _ => by simp only [TV.frzs]; trivial
 | _, _ :: _, ⟨⟨u, h1, h2, h3⟩, r⟩ => by simp only [TV.frzs]; exact ⟨⟨u, h1, h2, frz_rel hb hv h3⟩, frzCells hb hv r⟩
theorem frzRow (hb : E.blk (.o id) = some b) (hv : Rep (E.frz id b) v (.map (some b))) {us : List Value} {k : Nat} : ∀ {o : Nat} {es : List (List TV)}, RowRel E us k o es → RowRel (E.frz id b) us k o (es.map (TV.frzs id v))
 | _, [], _ => trivial
 | _, _ :: _, ⟨h1, h2, r⟩ => ⟨(frzs_length _).trans h1, frzCells hb hv h2, frzRow hb hv r⟩
theorem frzK (hb : E.blk (.o id) = some b) (hv : Rep (E.frz id b) v (.map (some b))) : ∀ {es : List (List Int × TV)} {l : List MapEntry}, KRel E es l → KRel (E.frz id b) (es.map fun x => (x.1, x.2.frz id v)) l
 | [], _, h => h
 | _ :: _, _, ⟨e, l', rfl, h1, h2, h3⟩ => ⟨e, l', rfl, h1, frz_rel hb hv h2, frzK hb hv h3⟩
theorem frz_item (hb : E.blk (.o id) = some b) (hv : Rep (E.frz id b) v (.map (some b))) {p : Pl} (hp : p ≠ .o id) {i : It} (h : ItemOK E p i) : ItemOK (E.frz id b) p (frzI id v i) := by
 have hblk : (E.frz id b).blk p = E.blk p := by simp only [En.frz, if_neg hp]
 have hval : ∀ k, p = .o k → (E.frz id b).val k = E.val k := fun k e => by
  have : k ≠ id := fun e2 => hp (by rw [e, e2])
  simp only [En.frz, if_neg this]
 cases i with
 | none => exact fun k e => by rw [hblk, hval k e]; exact h k e
 | v t => exact (En.own_eq hblk hval).trans h
 | box cs =>
   obtain ⟨h0, b', ty, us, g1, g2, g3, g4⟩ := h
   exact ⟨fun k e => by rw [hval k e]; exact h0 k e, b', ty, us, hblk.trans g1, g2, by rw [frzs_length]; exact g3, frzCells hb hv g4⟩
 | row e k es sh =>
   obtain ⟨h0, i, w, us, rfl, g2, g3, g4⟩ := h
   exact ⟨hblk.trans h0, i, w, us, rfl, by rw [hval i rfl, List.length_map]; exact g2, by rw [List.length_map]; exact g3, frzRow hb hv g4⟩
 | que e k es =>
   obtain ⟨h0, i, w, us, rfl, g2, g3, g4⟩ := h
   exact ⟨hblk.trans h0, i, w, us, rfl, by rw [hval i rfl, List.length_map]; exact g2, by rw [List.length_map]; exact g3, frzRow hb hv g4⟩
 | mp es =>
   obtain ⟨h0, b', l, clock, g1, g2, g3, g4⟩ := h
   exact ⟨fun k e => by rw [hval k e]; exact h0 k e, b', l, clock, hblk.trans g1, g2, g3.ext (frz_r E id b), g4⟩
 | mpk es c pd s =>
   obtain ⟨i, b', l, clock, l', ty, w, rfl, g1, g2, g3, g4, g5, g6, g7, g8⟩ := h
   exact ⟨i, b', l, clock, l', ty, w, rfl, hblk.trans g1, g2, g3, frzK hb hv g4, g5, (hval i rfl).trans g6, g7, g8⟩
 | mit m s left cur =>
   obtain ⟨h0, r, seen, g1, g2, g3⟩ := h
   exact ⟨fun k e => by rw [hval k e]; exact h0 k e, r, seen, hblk.trans g1, g2, g3⟩
 | mpz es s =>
   obtain ⟨h0, g1, g2, g3, l', g4, g5⟩ := h
   exact ⟨(En.own_eq hblk hval).trans h0, .inl g1, g2, g3, l', g4, frzK hb hv g5⟩
end
def frzS (id : Nat) (v : D) (t : S) : S := fun p => if p = .o id then .none else frzI id v (t p)
def frzV (es : List (List Int × D)) : D := .mp (es.map (·.1)) (es.map (·.2))
theorem GS.frz {A : Actv} {t : S} {id c : Nat} {es : List (List Int × D)} {pd : Option (List Int)} {s : Option Snap} (ht : t (.o id) = .mpk (es.map fun x => (x.1, .d x.2)) c pd s) : GS A t (frzS id (frzV es) t) := fun a w ⟨E, hw, hi⟩ => by
 obtain ⟨b, l, clock, l', ty, w0, hb, hg, hp, hrel, hs, hval, _⟩ := mapK_cur hi ht
 have hownp : E.own (.o id) = some b := by simp [En.own, hb]
 have hrep : Rep (E.frz id b) (frzV es) (.map (some b)) := by
  have h1 := krel_repEs hrel
  simp only [frzV, Rep]
  exact ⟨b, l, clock, l', rfl, .inr ⟨rfl, rfl⟩, hg, hp, hs, h1.1, RepEs.ext (frz_r E id b) _ _ h1.2⟩
 have hown : ∀ {p q}, (E.frz id b).own p = some q → E.own p = some q ∧ p ≠ .o id := fun {p q} h => by
  by_cases e : p = .o id
  ·subst e; simp [En.own, En.frz] at h
  ·rw [En.own_eq (E := E) (by simp only [En.frz, if_neg e]) (fun k e2 => by
    have : k ≠ id := fun e3 => e (by rw [e2, e3])
    simp only [En.frz, if_neg this])] at h
   exact ⟨h, e⟩
 refine ⟨E.frz id b, hw, ⟨⟨fun p hp => ?_, fun k => ?_, fun p q r h1 h2 => hi.h.inj p q r (hown h1).1 (hown h2).1, fun p r h => hi.h.size p r (hown h).1, fun r o h => ?_, fun r o h1 p h2 => ?_, fun y hy => RepCells.ext (frz_r E id b) _ _ _ (hi.h.gl y hy)⟩, ?_, fun k tv hk => ?_, hi.defers, hi.size⟩⟩
 ·unfold frzS
  by_cases e : p = .o id
  ·subst e
   simp only [if_true]
   exact fun k e => by simp only [Pl.o.injEq] at e; subst e; simp [En.frz]
  ·rw [if_neg e]
   exact frz_item hb hrep e (hi.h.item p hp)
 ·simp only [En.frz]; rw [if_neg (by simp)]; exact hi.h.frees k
 ·rcases h with h | ⟨rfl, _⟩
  ·exact hi.h.stsz r o h
  ·exact (Array.getElem?_eq_some_iff.1 hg).1
 ·obtain ⟨g1, g2⟩ := hown h2
  rcases h1 with h1 | ⟨rfl, _⟩
  ·obtain ⟨e, k, es', g3, g4⟩ := hi.h.sep r o h1 p g1
   refine ⟨e, k, es'.map (TV.frzs id (frzV es)), ?_, by simpa using g4⟩
   simp only [frzS, if_neg g2, g3]; rfl
  ·exact absurd (hi.h.inj _ _ _ g1 hownp) g2
 ·refine ⟨hi.fr.os, hi.fr.tape, hi.fr.output, hi.fr.size, hi.fr.old, fun i => ?_, fun i r h => hi.fr.new i r (hown h).1, fun r o h => .inl (hi.fr.st r o h), fun r o h => ?_⟩
  ·simp only [En.frz]; rw [if_neg (by simp)]; exact hi.fr.xb i
  ·rcases h with h | ⟨rfl, _⟩
   ·exact hi.fr.newst r o h
   ·exact .inr (hi.fr.new id r hownp)
 ·unfold frzS at hk
  rw [if_neg (by simp)] at hk
  cases hsk : t (.s k) with
  | v tv' =>
    rw [hsk] at hk
    simp only [frzI, It.v.injEq] at hk
    subst hk
    obtain ⟨u, h1, h2⟩ := hi.sl k tv' hsk
    exact ⟨u, h1, frz_rel hb hrep h2⟩
  | none => rw [hsk] at hk; simp [frzI] at hk
  | box _ => rw [hsk] at hk; simp [frzI] at hk
  | row _ _ _ _ => rw [hsk] at hk; simp [frzI] at hk
  | que _ _ _ => rw [hsk] at hk; simp [frzI] at hk
  | mp _ => rw [hsk] at hk; simp [frzI] at hk
  | mpk _ _ _ _ => rw [hsk] at hk; simp [frzI] at hk
  | mit _ _ _ _ => rw [hsk] at hk; simp [frzI] at hk
  | mpz _ _ => rw [hsk] at hk; simp [frzI] at hk
def frzL (id : Nat) (v : D) : List (Pl × It) → List (Pl × It)
 | [] => []
 | (p, i) :: l => if p = .o id then frzL id v l else (p, frzI id v i) :: frzL id v l
theorem frzL_o (id : Nat) (v : D) : ∀ l : List (Pl × It), look (frzL id v l) (.o id) = .none
 | [] => rfl
 | (p, i) :: l => by
   by_cases e : p = .o id
   ·simp only [frzL, if_pos e]; exact frzL_o id v l
   ·simp only [frzL, if_neg e, look]; rw [if_neg (fun h : Pl.o id = p => e h.symm)]; exact frzL_o id v l
theorem frzS_look (id : Nat) (v : D) : ∀ (l : List (Pl × It)), frzS id v (look l) = look (frzL id v l)
 | [] => by funext p; unfold frzS; split <;> rfl
 | (q, i) :: l => by
   have ih := fun p => congrFun (frzS_look id v l) p
   funext p
   by_cases hp : p = .o id
   ·subst hp; rw [frzL_o]; simp [frzS]
   ·have h1 := ih p
    simp only [frzS, if_neg hp] at h1 ⊢
    by_cases hq : q = .o id
    ·simp only [frzL, if_pos hq, look]
     rw [if_neg (fun h => hp (h.trans hq))]; exact h1
    ·simp only [frzL, if_neg hq, look]
     by_cases e : p = q
     ·simp [e]
     ·simp only [if_neg e]; exact h1
theorem Fin.frz {P : Program} {A : Actv} {fn : Func} {r : TV} {xs : List It} {ro : List (Nat × It)} {l : List (Pl × It)} (id : Nat) (es : List (List Int × D)) {c : Nat} {pd : Option (List Int)} {s : Option Snap} (ht : look l (.o id) = .mpk (es.map fun x => (x.1, .d x.2)) c pd s)
  (h : Fin P A fn r xs ro (look (frzL id (frzV es) l))) : Fin P A fn r xs ro (look l) := by
 have := GS.frz (A := A) ht
 rw [frzS_look] at this
 exact h.ghost this
attribute [simp] frzL frzI TV.frz TV.frzs
end Go.Tr

namespace Go.Proofs
open Go.Shelf
def Tryz.sortAns_ren : Go.Shelf.Ren := ⟨fun | 6 => 84 | 15 => 132 | 14 => 131 | 28 => 175 | 29 => 176 | 20 => 167 | 21 => 168 | 22 => 169 | 23 => 170 | 24 => 171 | 25 => 172 | 26 => 173 | 27 => 174 | 46 => 200 | 47 => 201 | 48 => 202 | 49 => 203 | 50 => 204 | 57 => 210 | n => n, fun | 22 => 56 | 24 => 61 | 25 => 142 | 3 => 3 | 39 => 59 | 0 => 0 | 53 => 173 | 55 => 53 | 4 => 4 | 46 => 212 | 45 => 211 | 50 => 92 | 5 => 5 | 9 => 9 | 66 => 231 | 70 => 235 | 76 => 240 | 77 => 241 | n => n, fun | n => n⟩
theorem Tryz.sortAns : Go.Proofs.SlLaysF0.n6 Tryz.prog Tryz.sortAns_ren := {
 mixed := by kernel_rfl
 f6 := ⟨Tryz.f84.name, by decide, Tryz.func84.trans (congrArg some (by kernel_rfl))⟩
 f14 := ⟨Tryz.f131.name, by decide, Tryz.func131.trans (congrArg some (by kernel_rfl))⟩
 f15 := Tryz.func132.trans (congrArg some (by kernel_rfl))
 f20 := ⟨Tryz.f167.name, by decide, Tryz.func167.trans (congrArg some (by kernel_rfl))⟩
 f21 := ⟨Tryz.f168.name, by decide, Tryz.func168.trans (congrArg some (by kernel_rfl))⟩
 f22 := ⟨Tryz.f169.name, by decide, Tryz.func169.trans (congrArg some (by kernel_rfl))⟩
 f23 := ⟨Tryz.f170.name, by decide, Tryz.func170.trans (congrArg some (by kernel_rfl))⟩
 f24 := ⟨Tryz.f171.name, by decide, Tryz.func171.trans (congrArg some (by kernel_rfl))⟩
 f25 := ⟨Tryz.f172.name, by decide, Tryz.func172.trans (congrArg some (by kernel_rfl))⟩
 f26 := ⟨Tryz.f173.name, by decide, Tryz.func173.trans (congrArg some (by kernel_rfl))⟩
 f27 := ⟨Tryz.f174.name, by decide, Tryz.func174.trans (congrArg some (by kernel_rfl))⟩
 f28 := Tryz.func175.trans (congrArg some (by kernel_rfl))
 f29 := Tryz.func176.trans (congrArg some (by kernel_rfl))
 f46 := ⟨Tryz.f200.name, by decide, Tryz.func200.trans (congrArg some (by kernel_rfl))⟩
 f47 := Tryz.func201.trans (congrArg some (by kernel_rfl))
 f48 := Tryz.func202.trans (congrArg some (by kernel_rfl))
 f49 := ⟨Tryz.f203.name, by decide, Tryz.func203.trans (congrArg some (by kernel_rfl))⟩
 f50 := ⟨Tryz.f204.name, by decide, Tryz.func204.trans (congrArg some (by kernel_rfl))⟩
 f57 := ⟨Tryz.f210.name, by decide, Tryz.func210.trans (congrArg some (by kernel_rfl))⟩
 t0 := Tryz.underlying0
 a0 := Tryz.isAgg0
 z0 := Tryz.sizeOf0
 v0 := Tryz.zeroValue0
 t3 := Tryz.underlying3
 a3 := Tryz.isAgg3
 z3 := Tryz.sizeOf3
 v3 := Tryz.zeroValue3
 t4 := Tryz.underlying4
 a4 := Tryz.isAgg4
 z4 := Tryz.sizeOf4
 v4 := Tryz.zeroValue4
 t5 := Tryz.underlying5
 a5 := Tryz.isAgg5
 z5 := Tryz.sizeOf5
 v5 := Tryz.zeroValue5
 t9 := Tryz.underlying9
 a9 := Tryz.isAgg9
 z9 := Tryz.sizeOf9
 v9 := Tryz.zeroValue9
 t22 := Tryz.underlying56
 a22 := Tryz.isAgg56
 z22 := Tryz.sizeOf56
 v22 := Tryz.zeroValue56
 t25 := Tryz.underlying142
 a25 := Tryz.isAgg142
 z25 := Tryz.sizeOf142
 v25 := Tryz.zeroValue142
 t39 := Tryz.underlying59
 a39 := Tryz.isAgg59
 z39 := Tryz.sizeOf59
 v39 := Tryz.zeroValue59
 t45 := Tryz.underlying211
 a45 := Tryz.isAgg211
 z45 := Tryz.sizeOf211
 v45 := Tryz.zeroValue211
 t46 := Tryz.underlying212
 a46 := Tryz.isAgg212
 z46 := Tryz.sizeOf212
 v46 := Tryz.zeroValue212
 t50 := Tryz.underlying92
 a50 := Tryz.isAgg92
 z50 := Tryz.sizeOf92
 v50 := Tryz.zeroValue92
 t53 := Tryz.underlying173
 a53 := Tryz.isAgg173
 z53 := Tryz.sizeOf173
 v53 := Tryz.zeroValue173
 t55 := Tryz.underlying53
 a55 := Tryz.isAgg53
 z55 := Tryz.sizeOf53
 v55 := Tryz.zeroValue53
 t66 := Tryz.underlying231
 a66 := Tryz.isAgg231
 z66 := Tryz.sizeOf231
 v66 := Tryz.zeroValue231
 t70 := Tryz.underlying235
 a70 := Tryz.isAgg235
 z70 := Tryz.sizeOf235
 v70 := Tryz.zeroValue235
 t76 := Tryz.underlying240
 a76 := Tryz.isAgg240
 z76 := Tryz.sizeOf240
 v76 := Tryz.zeroValue240
 t77 := Tryz.underlying241
 a77 := Tryz.isAgg241
 z77 := Tryz.sizeOf241
 v77 := Tryz.zeroValue241 }
def Tryz.cmpInt_ren : Go.Shelf.Ren := ⟨fun | 5 => 86 | 7 => 133 | n => n, fun | 22 => 3 | 3 => 3 | 4 => 4 | n => n, fun | n => n⟩
theorem Tryz.cmpInt : Go.Proofs.SlLaysC2.n5 Tryz.prog Tryz.cmpInt_ren := {
 mixed := by kernel_rfl
 f5 := ⟨Tryz.f86.name, by decide, Tryz.func86.trans (congrArg some (by kernel_rfl))⟩
 f7 := ⟨Tryz.f133.name, by decide, Tryz.func133.trans (congrArg some (by kernel_rfl))⟩
 t3 := Tryz.underlying3
 a3 := Tryz.isAgg3
 z3 := Tryz.sizeOf3
 v3 := Tryz.zeroValue3
 t4 := Tryz.underlying4
 a4 := Tryz.isAgg4
 z4 := Tryz.sizeOf4
 v4 := Tryz.zeroValue4
 t22 := Tryz.underlying3
 a22 := Tryz.isAgg3
 z22 := Tryz.sizeOf3
 v22 := Tryz.zeroValue3 }
end Go.Proofs

set_option linter.unusedVariables false
set_option maxRecDepth 100000
set_option maxHeartbeats 2000000
namespace Go.Proofs
open Go.Shelf Go.RowKit Go.Lib Go.Sort
theorem send2_k (x y : List Int) (W : World) (hx : x.length = 4) (hy : y.length = 4) : Calls Tryz.prog 85 #[.agg (x.map (Value.int .i64)).toArray, .agg (y.map (Value.int .i64)).toArray] W fun e w' => e = .returned (.int .i64 (Lib.compareInt (x.getD 2 0) (y.getD 2 0))) ∧ ∃ q os', w' = Go.Sort.grow (W.drewN q) os' := by
 obtain ⟨x0, x1, x2, x3, rfl⟩ : ∃ a b c d, x = [a, b, c, d] := by
  match x, hx with
  | [a, b, c, d], _ => exact ⟨a, b, c, d, rfl⟩
 obtain ⟨y0, y1, y2, y3, rfl⟩ : ∃ a b c d, y = [a, b, c, d] := by
  match y, hy with
  | [a, b, c, d], _ => exact ⟨a, b, c, d, rfl⟩
 have hcon := fun W' => AnyG.cmp_Compare_int Tryz.cmpInt x2 y2 W'
 change ∀ W', Calls Tryz.prog 86 _ _ _ at hcon
 change Calls Tryz.prog 85 #[.agg #[.int .i64 x0, .int .i64 x1, .int .i64 x2, .int .i64 x3], .agg #[.int .i64 y0, .int .i64 y1, .int .i64 y2, .int .i64 y3]] W fun e w' => e = .returned (.int .i64 (Lib.compareInt x2 y2)) ∧ ∃ q os', w' = Go.Sort.grow (W.drewN q) os'
 generalize Lib.compareInt x2 y2 = r at hcon ⊢
 go_enter Tryz.func85, Tryz.ntmps85
 go_wp2_with (go_at_call 86; refine (hcon _).mono ?_; rintro e w' ⟨rfl, rfl⟩)
 go_ret
 exact ⟨rfl, 0, _, by rw [alloc_eq_grow, alloc_eq_grow, grow_grow]; rfl⟩
set_option maxHeartbeats 4000000
end Go.Proofs

namespace Go.Proofs
open Go Go.Tr Go.Shelf
def cfA (x y : List Int) : Int := Lib.compareInt (x.getD 2 0) (y.getD 2 0)
theorem sortAns_c : SortC Tryz.prog 84 85 4 (Parts2 cfA) (fun zs => zs.mergeSort fun x y => !decide (cfA y x < 0)) :=
 SortC.of Tryz.sortAns (by omega) (fun w => by kernel_rfl) (fun w => by kernel_rfl) cfA 85 (enters_of Tryz.func85 (by kernel_rfl) rfl) (fun x y W hx hy => send2_k x y W hx hy)
theorem cmpI_lt (x y : Int) : Lib.compareInt x y < 0 ↔ x < y := by
 unfold Lib.compareInt
 split <;> (try split) <;> omega
theorem cfA_lt (x y : List Int) : cfA x y < 0 ↔ x.getD 2 0 < y.getD 2 0 := cmpI_lt _ _
theorem parts_cfA {zs : List (List Int)} (h : ∀ x ∈ zs, ∀ y ∈ zs, x.getD 2 0 = y.getD 2 0 → x = y) : Parts2 cfA zs :=
 ⟨fun x _ => by rw [cfA_lt]; omega, fun x _ y _ z _ => by rw [cfA_lt, cfA_lt, cfA_lt]; omega, fun x _ y _ z _ => by rw [cfA_lt, cfA_lt, cfA_lt]; omega,
  fun x hx y hy => by
   rw [cfA_lt, cfA_lt]
   intro h1 h2
   exact h x hx y hy (by omega)⟩
end Go.Proofs

set_option maxHeartbeats 4000000
namespace Go.Proofs
open Go Go.Tr
def gotL (p : Pk) (kd rt tl : Int) (L : List Nat) : List (List Int) := (L.takeWhile fun k : Nat => atB p.set k p.len).map fun k => [kd, rt, idAt p k, tl]
theorem ans_c (p : Pk) (zs : List (List Int)) (hz : zs.length ≤ 1000000) (kd rt tl : Int) (B : BitVec 64) :
  Contract2 Tryz.prog 81 [.d (.int .i64 kd), .d (.int .i64 rt), .d (.int .i64 tl), .d (bv B), .ptr (.x 0) 0, .ptr (.x 1) 0] [.box (p.cs.map .d), .box [.oref 900 zs.length]] [(900, .row 61 4 (dd (irow zs)) false)]
   (.d (.bool ((bitsL B).all fun k : Nat => atB p.set k p.len))) [.box (p.cs.map .d), .box [.oref 900 (zs ++ gotL p kd rt tl (bitsL B)).length]] [(900, .row 61 4 (dd (irow (zs ++ gotL p kd rt tl (bitsL B)))) false)] := by
 have hBl := bitsL_len B
 refine contract2_of Tryz.func81 rfl (fun E0 => ?_)
 refine awp.sound (g := .mk) (ow := []) (kp := (fun k => k==0||k==1||k==2||k==3||k==4||k==5||k==10||k==11||k==12||k==14||k==30)) ?_
 rw [Tryz.ntmps81]
 simp -dsimp [bv, Pk.cs]
 refine ALoop.of [] (fun k => k==0||k==1||k==2||k==3||k==4||k==5||k==10||k==11||k==12||k==14||k==30) (ι := { z : BitVec 64 × List (List Int) // zs ++ gotL p kd rt tl (bitsL B) = z.2 ++ gotL p kd rt tl (bitsL z.1) ∧ (bitsL B).all (fun k : Nat => atB p.set k p.len) = (bitsL z.1).all (fun k : Nat => atB p.set k p.len) ∧ z.2.length + (bitsL z.1).length ≤ zs.length + (bitsL B).length })
  (fun z => [(Pl.s 0, It.v (.d (.int .i64 kd))), (Pl.s 1, It.v (.d (.int .i64 rt))), (Pl.s 2, It.v (.d (.int .i64 tl))), (Pl.s 3, It.v (.d (.int IntKind.u64 (tn z.1.1)))), (Pl.s 4, It.v (.ptr (Pl.x 0) 0)), (Pl.s 5, It.v (.ptr (Pl.x 1) 0)), (Pl.x 0, It.box (p.cs.map .d)), (Pl.x 1, It.box [TV.oref 900 z.1.2.length]), (Pl.o 900, It.row 61 4 (dd (irow z.1.2)) false), (Pl.s 10, It.v (.d (.bool false)))])
  (fun z => (bitsL z.1.1).length) ⟨(B, zs), rfl, rfl, Nat.le_refl _⟩ ?_ ?_
 ·exact GS.to (by simp [Pk.cs, bv])
 rintro ⟨⟨R, ys⟩, h1, h2, h3⟩
 simp only at h1 h2 h3
 by_cases h0 : R = 0#64
 ·subst h0
  have e1 : zs ++ gotL p kd rt tl (bitsL B) = ys := by rw [h1]; simp [bitsL_zero, gotL]
  have e2 : ((bitsL B).all fun k : Nat => atB p.set k p.len) = true := by rw [h2]; simp [bitsL_zero]
  simp -dsimp
  and_intros
  all_goals try first | omega | exact ⟨by kernel_rfl⟩ | rfl
  refine Fin.of ?_
  have e3 := congrArg List.length e1
  simp only [List.length_append] at e3
  simp only [e1, e2]
  simp [Pk.cs, e3]
 ·have hs := bitsL_step h0
  have ht := (tz_spec h0).1
  have hf := tz64_c R
  simp only [bv] at hf
  have ha := atP_c p.set (tz R) p.len
  rw [hs] at h1 h2 h3
  simp only [List.length_cons] at h3
  simp -dsimp [h0, Pk.cs]
  and_intros
  all_goals try first | omega | exact ⟨by kernel_rfl⟩ | rfl
  refine ACall.of hf [] 0 ?_
  simp -dsimp [h0, Pk.cs]
  and_intros
  all_goals try first | omega | exact ⟨by kernel_rfl⟩ | rfl
  refine ACall.of ha [] 0 ?_
  rcases (Bool.eq_false_or_eq_true (atB p.set (tz R) p.len)).symm with hat | hat
  ·have e1 : zs ++ gotL p kd rt tl (bitsL B) = ys := by rw [h1]; simp [gotL, hat]
   have e2 : ((bitsL B).all fun k : Nat => atB p.set k p.len) = false := by rw [h2]; simp [hat]
   simp -dsimp [h0, hat, atT, Pk.cs]
   and_intros
   all_goals try first | omega | exact ⟨by kernel_rfl⟩ | rfl
   refine Fin.of ?_
   have e3 := congrArg List.length e1
   simp only [List.length_append] at e3
   simp only [e1, e2]
   simp [Pk.cs, e3]
  ·have hid : idAt p (tz R) = p.set * p.len + (tz R : Int) + 1 := by unfold idAt; rw [if_pos hat]
   simp -dsimp [h0, hat, atT, Pk.cs]
   and_intros
   all_goals try first | omega | exact ⟨by kernel_rfl⟩ | rfl | (simp [irow]; omega)
   refine ⟨⟨(R &&& wu (tn R - 1), ys ++ [[kd, rt, idAt p (tz R), tl]]), ?_, ?_, ?_⟩, GS.to (by simp [irow, wrap_tn, Pk.cs, hid]), by simp [hs]⟩
   ·rw [h1]; simp [gotL, hat]
   ·rw [h2]; simp [hat]
   ·simp; omega
variable {l : List Tb} {p : Pk} {r : Int}
theorem col_len (hF : FitL l p) : (colA p (runG l (wt p) [(r, p)] tr0)).length ≤ 64 := by
 have h := congrArg List.length (col_ids p (runG l (wt p) [(r, p)] tr0))
 rw [List.length_map, List.length_map] at h
 rw [h]
 have hn := bits_nodup _ fun k hk => by rw [cnt_one (r := r) hF k hk]; split <;> omega
 generalize ((runG l (wt p) [(r, p)] tr0).dl.map (fun d => d.2.bits) ++ (runG l (wt p) [(r, p)] tr0).ls.map (fun x => x.2)) = L at hn
 have hn2 : ((L.flatMap bitsL).map fun k : Nat => (k : Int)).Nodup := by
  unfold List.Nodup at hn ⊢
  rw [List.pairwise_map]
  exact hn.imp fun h e => h (by omega)
 have := nodup_le (m := (List.range 64).map fun k : Nat => (k : Int)) hn2 fun k hk => by
  obtain ⟨j, hj, rfl⟩ := List.mem_map.1 hk
  obtain ⟨B, _, hB⟩ := List.mem_flatMap.1 hj
  exact List.mem_map.2 ⟨j, List.mem_range.2 (mem_bitsL.1 hB).1, rfl⟩
 simpa using this
theorem col_at (hF : FitL l p) : atAll p = true ↔ (∀ d ∈ (runG l (wt p) [(r, p)] tr0).dl, (bitsL d.2.bits).all (fun k => atB p.set k p.len) = true) ∧ ∀ x ∈ (runG l (wt p) [(r, p)] tr0).ls, (bitsL x.2).all (fun k => atB p.set k p.len) = true := by
 have hb := col_bits (r := r) hF
 constructor
 ·intro h
  have hk : ∀ k, k ∈ bitsL p.bits → atB p.set k p.len = true := fun k hk => List.all_eq_true.1 h k hk
  refine ⟨fun d hd => List.all_eq_true.2 fun k hkd => hk k ((hb k).1 ?_), fun x hx => List.all_eq_true.2 fun k hkd => hk k ((hb k).1 ?_)⟩
  ·exact List.mem_flatMap.2 ⟨d.2.bits, List.mem_append.2 (.inl (List.mem_map_of_mem hd)), hkd⟩
  ·exact List.mem_flatMap.2 ⟨x.2, List.mem_append.2 (.inr (List.mem_map_of_mem hx)), hkd⟩
 ·rintro ⟨h1, h2⟩
  refine List.all_eq_true.2 fun k hk => ?_
  obtain ⟨B, hB, hkB⟩ := List.mem_flatMap.1 ((hb k).2 hk)
  rcases List.mem_append.1 hB with hB | hB
  ·obtain ⟨d, hd, rfl⟩ := List.mem_map.1 hB
   exact List.all_eq_true.1 (h1 d hd) k hkB
  ·obtain ⟨x, hx, rfl⟩ := List.mem_map.1 hB
   exact List.all_eq_true.1 (h2 x hx) k hkB
theorem byId_cfA (x y : List Int) : decide (byId x y < 0) = decide (cfA x y < 0) := by
 rw [Bool.eq_iff_iff, decide_eq_true_eq, decide_eq_true_eq, byId_lt, cfA_lt]
theorem col_sorted2 (hF : FitL l p) (hs : (findT l r).isSome) (hA : atAll p = true) : (colA p (runG l (wt p) [(r, p)] tr0)).mergeSort (fun x y => !decide (cfA y x < 0)) = ansL l p r := by
 have := col_sorted hF hs hA
 have e : (fun x y : List Int => !decide (byId y x < 0)) = fun x y => !decide (cfA y x < 0) := by funext x y; rw [byId_cfA]
 rw [e] at this
 exact this
end Go.Proofs

namespace Go.Proofs
open Go Go.Tr
def Good (l : List Tb) : Prop := SmL l ∨ (SmLB l ∧ chkA l ≠ 0)
theorem Good.big {l : List Tb} (h : Good l) : SmLB l := h.elim SmL.big And.left
theorem Good.sm {l : List Tb} (h : Good l) (hA : chkA l = 0) : SmL l := h.elim id fun g => absurd hA g.2
theorem run_g (l : List Tb) (hl : Good l) (p : Pk) (r : Int) : Contract Tryz.prog 80 [.d (.sl (tbs l)), pkT p, .d (.int .i64 r)] [] (.tup [trcT (runR l p r).1, .d (.int .i64 (runR l p r).2)]) [] [] := by
 rcases hl with hl | ⟨hb, hA⟩
 ·exact run_c l hl p r
 have hck := checkA_cL l hb
 have hR : runR l p r = (tr0, 1) := by unfold runR; rw [if_pos (.inl hA)]
 rw [hR]
 refine contract_of Tryz.func80 rfl (fun E0 => ?_)
 refine awp.sound (g := .mk) (ow := [60]) (kp := (fun k => k==0||k==1||k==2||k==4||k==6||k==7||k==8||k==9||k==10||k==11||k==12||k==13||k==14||k==15||k==18||k==26||k==34||k==38||k==43||k==63||k==77||k==109||k==121||k==122||k==123||k==124)) ?_
 rw [Tryz.ntmps80]
 simp -dsimp [pkT, Pk.cs]
 try refine ⟨?_, ⟨by kernel_rfl⟩⟩
 refine ACall.of hck [] 0 ?_
 simp -dsimp [hA]
 try refine ⟨?_, ⟨by kernel_rfl⟩⟩
 refine Fin.box (.o 6) rfl ?_
 simp -dsimp
 refine Fin.of ?_
 simp [trcT, tr0]
theorem run14_g (l : List Tb) (hl : Good l) (p : Pk) (r : Int) : Contract Tryz.prog 56 [.d (.sl (tbs l)), pkT p, .d (.int .i64 r)] [] (.tup [trcT (runR l p r).1, .d (.int .i64 (runR l p r).2)]) [] [] := by
 rcases hl with hl | ⟨hb, hA⟩
 ·exact run14_c l hl p r
 have hck := checkA11_cL l hb
 have hR : runR l p r = (tr0, 1) := by unfold runR; rw [if_pos (.inl hA)]
 have hfi : Contract Tryz.prog 108 [.d (.sl (tbs l)), pkT p, .d (.int .i64 r)] [] (.d (.int .i64 1)) [] [] := by
  refine contract_of Tryz.func108 rfl (fun E0 => ?_)
  refine awp.sound (g := .mk) (ow := []) (kp := (fun k => k==0||k==1||k==2||k==4||k==6||k==7||k==8||k==16||k==24||k==27||k==39)) ?_
  rw [Tryz.ntmps108]
  simp -dsimp [pkT, Pk.cs]
  try refine ⟨?_, ⟨by kernel_rfl⟩⟩
  refine ACall.of hck [] 0 ?_
  simp -dsimp [hA]
  try refine ⟨?_, ⟨by kernel_rfl⟩⟩
  refine Fin.of ?_
  simp
 rw [hR]
 simp only [pkT, Pk.cs, List.map] at hfi
 refine contract_of Tryz.func56 rfl (fun E0 => ?_)
 refine awp.sound (g := .mk) (ow := [29, 1000110]) (kp := (fun k => k==0||k==1||k==2||k==4||k==6||k==7||k==8||k==9||k==10||k==11||k==12||k==13||k==14||k==15||k==16||k==22||k==33||k==56)) ?_
 rw [Tryz.ntmps56]
 simp -dsimp [pkT, Pk.cs]
 try refine ⟨?_, ⟨by kernel_rfl⟩⟩
 refine ACall.of hfi [] 0 ?_
 simp -dsimp
 try refine ⟨?_, ⟨by kernel_rfl⟩⟩
 refine Fin.box (.o 6) rfl ?_
 simp -dsimp
 refine Fin.of ?_
 simp [trcT, tr0]
end Go.Proofs

/-
  What functions of the program compute, stated as contracts over plain data; the conditions of each stand in its own statement.
-/
import Derived.Test.YtjgeggdefiejbaaGreatDoorW13
import Derived.Test.YtjgeggdefiejbaaGreatDoorW15
import Derived.Shelf.SlGeneric
import Derived.Shelf.SlSortCmp.NoneTotal
import Derived.Shelf.SlicesG.Cmp
import Derived.Ground.SlsfProg
import Derived.Ground.SlgcProg
import Derived.Test.YtjgeggdefiejbaaGreatDoorChecked
import Derived.WalkKit
import Derived.StillTailTactics
import Derived.Deep.QuietTactic
import Derived.BigQuiet
import Derived.LoopN
import Derived.KernelRfl
import Derived.Handy
set_option linter.unusedSimpArgs false
namespace Go.Tr
open Go
def ANo {ι : Type} (k : List Pl → List (Pl × It) → Prop) (_ : Tg k) (X : ι → Prop) : Option (Prop × (ι → List (Pl × It))) → Prop
 | some (C, W) => C ∧ ∀ c, X c → k [] (W c)
 | none => False
theorem ANo_some {ι : Type} {k : List Pl → List (Pl × It) → Prop} {g : Tg k} {X : ι → Prop} {C : Prop} {W : ι → List (Pl × It)} : ANo k g X (some (C, W)) = (C ∧ ∀ c, X c → k [] (W c)) := rfl
section
variable {P : Program} {A : Actv} {ops : Array Oper}
def rangeO (P : Program) (N : Nat) (t : S) (ops : Array Oper) : Option Oper → Option (Prop × (Snap → List (Pl × It)))
 | some o => match gv ops t o with
   | some (_, g) => match o.op with
     | .range ty x => match ev t x with
       | .mref id => match t (.o id) with
         | .mpk es c pd _ => some (g = true ∧ dstOK N o = true ∧ mapTy P ty = true ∧ t (.o (o.dst.getD 0)) = .none, fun s => dstW o (.ptr (.o (o.dst.getD 0)) 0) [(.o (o.dst.getD 0), .mit id s (es.map (·.1)) none), (.o id, .mpk es c pd (some s))])
         | _ => none
       | .d (.mp ks vs) => some (g = true ∧ dstOK N o = true ∧ mapTy P ty = true ∧ t (.o (o.dst.getD 0)) = .none ∧ t (.o (o.dst.getD 0 + 4000000)) = .none,
         fun s => dstW o (.ptr (.o (o.dst.getD 0)) 0) [(.o (o.dst.getD 0), .mit (o.dst.getD 0 + 4000000) s ((kzip ks vs).map (·.1)) none), (.o (o.dst.getD 0 + 4000000), .mpz (kzip ks vs) s)])
       | _ => none
     | _ => none
   | none => none
 | none => none
theorem ANon.range {i : Nat} {t : S} {k : List Pl → List (Pl × It) → Prop} {g : Tg k} (h : ANo k g (fun _ => True) (rangeO P A.N t ops ops[i]?)) : ANon P A ops i t k g := by
 unfold ANo at h
 split at h
 ·rename_i C W hc
  obtain ⟨h1, h2⟩ := h
  refine ⟨Snap, fun _ => [], W, ?_, fun s => h2 s trivial⟩
  unfold rangeO at hc
  split at hc
  ·rename_i o ho
   split at hc
   ·rename_i gp g0 hg
    split at hc
    ·rename_i ty x hop
     split at hc
     ·rename_i id hx
      split at hc
      ·rename_i es c pd s0 ht
       simp only [Option.some.injEq, Prod.mk.injEq] at hc
       obtain ⟨rfl, rfl⟩ := hc
       obtain ⟨rfl, q1, q2, q3⟩ := h1
       intro a w hinv K Q hK
       obtain ⟨E, hw, hi⟩ := hinv
       subst hw
       have hwant := gv_wanted hg (fun _ _ => rfl) hi
       obtain ⟨kt, e, hu⟩ : ∃ kt e, P.underlying ty = some (.map kt e) := by
        unfold mapTy at q2
        split at q2
        ·rename_i kt e hu; exact ⟨kt, e, hu⟩
        ·simp at q2
       obtain ⟨s, u, E', r1, r2, r3⟩ := range_ok hop hu hx ht q3 t (fun _ _ => rfl) a E hi
       unfold wpOp
       simp only [ho, hwant, if_true]
       refine .inl ?_
       unfold Oper.wp
       rw [r1]
       exact hK s _ _ ⟨E', rfl, r2.dst q1 r3⟩
      ·simp at hc
     ·rename_i ks vs hx
      simp only [Option.some.injEq, Prod.mk.injEq] at hc
      obtain ⟨rfl, rfl⟩ := hc
      obtain ⟨rfl, q1, q2, q3, q4⟩ := h1
      intro a w hinv K Q hK
      obtain ⟨E, hw, hi⟩ := hinv
      subst hw
      have hwant := gv_wanted hg (fun _ _ => rfl) hi
      obtain ⟨kt, e, hu⟩ : ∃ kt e, P.underlying ty = some (.map kt e) := by
       unfold mapTy at q2
       split at q2
       ·rename_i kt e hu; exact ⟨kt, e, hu⟩
       ·simp at q2
      obtain ⟨s, u, E', r1, r2, r3⟩ := rangeZ_ok hop hu hx q3 q4 (by omega) t (fun _ _ => rfl) a E hi
      unfold wpOp
      simp only [ho, hwant, if_true]
      refine .inl ?_
      unfold Oper.wp
      rw [r1]
      exact hK s _ _ ⟨E', rfl, r2.dst q1 r3⟩
     ·simp at hc
    ·simp at hc
   ·simp at hc
  ·simp at hc
 ·exact h.elim
def nextO (N : Nat) (t : S) (ops : Array Oper) : Option Oper → Option (List (List Int) × (Prop × (Option (List Int) → List (Pl × It))))
 | some o => match gv ops t o with
   | some (_, g) => match o.op with
     | .next x false => match ev t x with
       | .ptr (.o d) off => match t (.o d) with
         | .mit id s left _ => match t (.o id) with
           | .mpk _ _ _ (some s') => some (left, (g = true ∧ dstOK N o = true ∧ off = 0 ∧ s' = s, fun k => dstW o (nextV k) (nextW d id s left k)))
           | .mpz _ s' => some (left, (g = true ∧ dstOK N o = true ∧ off = 0 ∧ s' = s, fun k => dstW o (nextV k) (nextW d id s left k)))
           | _ => none
         | _ => none
       | _ => none
     | _ => none
   | none => none
 | none => none
def ANn (k : List Pl → List (Pl × It) → Prop) (_ : Tg k) : Option (List (List Int) × (Prop × (Option (List Int) → List (Pl × It)))) → Prop
 | some (left, (C, W)) => C ∧ (left = [] → k [] (W none)) ∧ ∀ x, x ∈ left → k [] (W (some x))
 | none => False
theorem ANn_some {k : List Pl → List (Pl × It) → Prop} {g : Tg k} {left : List (List Int)} {C : Prop} {W : Option (List Int) → List (Pl × It)} : ANn k g (some (left, (C, W))) = (C ∧ (left = [] → k [] (W none)) ∧ ∀ x, x ∈ left → k [] (W (some x))) := rfl
theorem SumN.next {i d id off : Nat} {t : S} {o : Oper} {gp : List Pl} {x : Operand} {es : List (List Int × TV)} {s : Snap} {left : List (List Int)} {cur : Option (List Int)} (ho : ops[i]? = some o) (hg : gv ops t o = some (gp, true)) (hop : o.op = .next x false) (hx : ev t x = .ptr (.o d) off) (hd : t (.o d) = .mit id s left cur)
  (hm : mview es s (t (.o id))) (q1 : dstOK A.N o = true) (q2 : off = 0) : SumN P A ops i t (ι := { k // nextOK left k }) fun k => dstW o (nextV k.1) (nextW d id s left k.1) := fun a w hinv K Q hK => by
 subst q2
 obtain ⟨E, hw, hi⟩ := hinv
 subst hw
 have hwant := gv_wanted hg (fun _ _ => rfl) hi
 obtain ⟨k, u, E', hk, r1, r2, r3⟩ := next_ok (P := P) hop hx hd hm t (fun _ _ => rfl) a E hi
 unfold wpOp
 simp only [ho, hwant, if_true]
 refine .inl ?_
 unfold Oper.wp
 rw [r1]
 exact hK ⟨k, hk⟩ _ _ ⟨E', rfl, r2.dst q1 r3⟩
theorem ANon.next {i : Nat} {t : S} {k : List Pl → List (Pl × It) → Prop} {g : Tg k} (h : ANn k g (nextO A.N t ops ops[i]?)) : ANon P A ops i t k g := by
 unfold ANn at h
 split at h
 ·rename_i left C W hc
  obtain ⟨h1, h2, h3⟩ := h
  refine ⟨{ k // nextOK left k }, fun _ => [], fun k => W k.1, ?_, fun ⟨k, hk⟩ => ?_⟩
  ·unfold nextO at hc
   split at hc
   ·rename_i o ho
    split at hc
    ·rename_i gp g0 hg
     split at hc
     ·rename_i x hop
      split at hc
      ·rename_i d off hx
       split at hc
       ·rename_i id s left' cur hd
        split at hc
        ·rename_i es c pd s' hm
         simp only [Option.some.injEq, Prod.mk.injEq] at hc
         obtain ⟨rfl, rfl, rfl⟩ := hc
         obtain ⟨rfl, q1, q2, rfl⟩ := h1
         exact SumN.next ho hg hop hx hd (es := es) (by rw [hm]; exact ⟨rfl, rfl⟩) q1 q2
        ·rename_i es s' hm
         simp only [Option.some.injEq, Prod.mk.injEq] at hc
         obtain ⟨rfl, rfl, rfl⟩ := hc
         obtain ⟨rfl, q1, q2, rfl⟩ := h1
         exact SumN.next ho hg hop hx hd (es := es) (by rw [hm]; exact ⟨rfl, rfl⟩) q1 q2
        ·simp at hc
       ·simp at hc
      ·simp at hc
     ·simp at hc
    ·simp at hc
   ·simp at hc
  ·cases k with
   | none => exact h2 hk
   | some x => exact h3 x hk
 ·exact h.elim
attribute [simp] ANo_some ANn_some rangeO nextO nextV nextW
end
mutual
def TV.frz (id : Nat) (v : D) : TV → TV
 | .agg vs => .agg (TV.frzs id v vs)
 | .tup vs => .tup (TV.frzs id v vs)
 | .clo f vs => .clo f (TV.frzs id v vs)
 | .oref i n => if i = id then .junk else .oref i n
 | .eptr i n j q => if i = id then .junk else .eptr i n j q
 | .mref i => if i = id then .d v else .mref i
 | .osl i n j => if i = id then .junk else .osl i n j
 | .ptr p q => if p = .o id then .junk else .ptr p q
 | t => t
def TV.frzs (id : Nat) (v : D) : List TV → List TV
 | [] => []
 | t :: ts => t.frz id v :: TV.frzs id v ts
end
def frzI (id : Nat) (v : D) : It → It
 | .v t => .v (t.frz id v)
 | .box cs => .box (TV.frzs id v cs)
 | .row e k es sh => .row e k (es.map (TV.frzs id v)) sh
 | .que e k es => .que e k (es.map (TV.frzs id v))
 | .mpk es c pd s => .mpk (es.map fun x => (x.1, x.2.frz id v)) c pd s
 | .mpz es s => .mpz (es.map fun x => (x.1, x.2.frz id v)) s
 | i => i
def En.frz (E : En) (id b : Nat) : En :=
 { E with St := fun b' o => E.St b' o ∨ (b' = b ∧ o = 0), blk := fun p => if p = .o id then none else E.blk p, val := fun k => if k = id then none else E.val k }
theorem frz_r (E : En) (id b : Nat) : ExtR E (E.frz id b) := ⟨fun _ _ h => .inl h, fun _ _ _ => rfl⟩
section
variable {E : En} {id b : Nat} {v : D}
mutual
theorem frz_rel (hb : E.blk (.o id) = some b) (hv : Rep (E.frz id b) v (.map (some b))) : ∀ {t : TV} {u : Value}, RelV E t u → RelV (E.frz id b) (t.frz id v) u
 | .junk, u, _ => by simp only [TV.frz, RelV]
 | .d x, u, h => by simp only [TV.frz, RelV] at h ⊢; exact Rep.ext (frz_r E id b) x u h
 | .c w, u, h => by simp only [TV.frz, RelV] at h ⊢; exact h
 | .agg vs, u, h => by
   simp only [TV.frz, RelV] at h ⊢
   obtain ⟨us, hu, h⟩ := h
   exact ⟨us, hu, frzs_rel hb hv h⟩
 | .tup vs, u, h => by
   simp only [TV.frz, RelV] at h ⊢
   obtain ⟨us, hu, h⟩ := h
   exact ⟨us, hu, frzs_rel hb hv h⟩
 | .oref i n, u, h => by
   simp only [TV.frz]
   split
   ·simp only [RelV]
   ·rename_i e
    simp only [RelV] at h ⊢
    obtain ⟨h1, k, c, w, h2, h3⟩ := h
    exact ⟨h1, k, c, w, by simp only [En.frz, if_neg e]; exact h2, h3⟩
 | .ptr p q, u, h => by
   simp only [TV.frz]
   split
   ·simp only [RelV]
   ·rename_i e
    simp only [RelV] at h ⊢
    obtain ⟨b', h1, h2⟩ := h
    exact ⟨b', by simp only [En.frz, if_neg e]; exact h1, h2⟩
 | .ep e q, u, h => by
   simp only [TV.frz, RelV] at h ⊢
   obtain ⟨b', o, hu, hc⟩ := h
   exact ⟨b', o, hu, RepCells.ext (frz_r E id b) b' o e hc⟩
 | .eptr i n j q, u, h => by
   simp only [TV.frz]
   split
   ·simp only [RelV]
   ·rename_i e
    simp only [RelV] at h ⊢
    obtain ⟨h1, k, c, w, h2, h3⟩ := h
    exact ⟨h1, k, c, w, by simp only [En.frz, if_neg e]; exact h2, h3⟩
 | .osl i n j, u, h => by
   simp only [TV.frz]
   split
   ·simp only [RelV]
   ·rename_i e
    simp only [RelV] at h ⊢
    obtain ⟨h1, k, c, w, h2, h3⟩ := h
    exact ⟨h1, k, c, w, by simp only [En.frz, if_neg e]; exact h2, h3⟩
 | .mref i, u, h => by
   simp only [TV.frz]
   simp only [RelV] at h
   obtain ⟨b', h1, h2⟩ := h
   split
   ·rename_i e
    subst e
    rw [hb] at h1
    simp only [Option.some.injEq] at h1
    subst h1; subst h2
    simp only [RelV]; exact hv
   ·rename_i e
    simp only [RelV]
    exact ⟨b', by simp only [En.frz]; rw [if_neg (by simpa using e)]; exact h1, h2⟩
 | .sx xs, u, h => by
   simp only [TV.frz, RelV] at h ⊢
   exact ⟨Rep.ext (frz_r E id b) (.sl xs) u h.1, h.2⟩
 | .clo f vs, u, h => by
   simp only [TV.frz, RelV] at h ⊢
   obtain ⟨us, hu, h⟩ := h
   exact ⟨us, hu, frzs_rel hb hv h⟩
theorem frzs_rel (hb : E.blk (.o id) = some b) (hv : Rep (E.frz id b) v (.map (some b))) : ∀ {ts : List TV} {us : List Value}, RelVs E ts us → RelVs (E.frz id b) (TV.frzs id v ts) us
 | [], us, h => by simpa only [TV.frzs, RelVs] using h
 | t :: ts, us, h => by
   simp only [TV.frzs, RelVs] at h ⊢
   obtain ⟨u, us', hu, h1, h2⟩ := h
   exact ⟨u, us', hu, frz_rel hb hv h1, frzs_rel hb hv h2⟩
end
theorem frzs_length : ∀ ts : List TV, (TV.frzs id v ts).length = ts.length
 | [] => by simp only [TV.frzs]
 | t :: ts => by simp only [TV.frzs, List.length_cons, frzs_length ts]
theorem frzCells (hb : E.blk (.o id) = some b) (hv : Rep (E.frz id b) v (.map (some b))) {us : List Value} : ∀ {o : Nat} {cs : List TV}, CellsRel E us o cs → CellsRel (E.frz id b) us o (TV.frzs id v cs)
 | _, [], _ => by simp only [TV.frzs]; trivial
 | _, _ :: _, ⟨⟨u, h1, h2, h3⟩, r⟩ => by simp only [TV.frzs]; exact ⟨⟨u, h1, h2, frz_rel hb hv h3⟩, frzCells hb hv r⟩
theorem frzRow (hb : E.blk (.o id) = some b) (hv : Rep (E.frz id b) v (.map (some b))) {us : List Value} {k : Nat} : ∀ {o : Nat} {es : List (List TV)}, RowRel E us k o es → RowRel (E.frz id b) us k o (es.map (TV.frzs id v))
 | _, [], _ => trivial
 | _, _ :: _, ⟨h1, h2, r⟩ => ⟨(frzs_length _).trans h1, frzCells hb hv h2, frzRow hb hv r⟩
theorem frzK (hb : E.blk (.o id) = some b) (hv : Rep (E.frz id b) v (.map (some b))) : ∀ {es : List (List Int × TV)} {l : List MapEntry}, KRel E es l → KRel (E.frz id b) (es.map fun x => (x.1, x.2.frz id v)) l
 | [], _, h => h
 | _ :: _, _, ⟨e, l', rfl, h1, h2, h3⟩ => ⟨e, l', rfl, h1, frz_rel hb hv h2, frzK hb hv h3⟩
theorem frz_item (hb : E.blk (.o id) = some b) (hv : Rep (E.frz id b) v (.map (some b))) {p : Pl} (hp : p ≠ .o id) {i : It} (h : ItemOK E p i) : ItemOK (E.frz id b) p (frzI id v i) := by
 have hblk : (E.frz id b).blk p = E.blk p := by simp only [En.frz, if_neg hp]
 have hval : ∀ k, p = .o k → (E.frz id b).val k = E.val k := fun k e => by
  have : k ≠ id := fun e2 => hp (by rw [e, e2])
  simp only [En.frz, if_neg this]
 cases i with
 | none => exact fun k e => by rw [hblk, hval k e]; exact h k e
 | v t => exact (En.own_eq hblk hval).trans h
 | box cs =>
   obtain ⟨h0, b', ty, us, g1, g2, g3, g4⟩ := h
   exact ⟨fun k e => by rw [hval k e]; exact h0 k e, b', ty, us, hblk.trans g1, g2, by rw [frzs_length]; exact g3, frzCells hb hv g4⟩
 | row e k es sh =>
   obtain ⟨h0, i, w, us, rfl, g2, g3, g4⟩ := h
   exact ⟨hblk.trans h0, i, w, us, rfl, by rw [hval i rfl, List.length_map]; exact g2, by rw [List.length_map]; exact g3, frzRow hb hv g4⟩
 | que e k es =>
   obtain ⟨h0, i, w, us, rfl, g2, g3, g4⟩ := h
   exact ⟨hblk.trans h0, i, w, us, rfl, by rw [hval i rfl, List.length_map]; exact g2, by rw [List.length_map]; exact g3, frzRow hb hv g4⟩
 | mp es =>
   obtain ⟨h0, b', l, clock, g1, g2, g3, g4⟩ := h
   exact ⟨fun k e => by rw [hval k e]; exact h0 k e, b', l, clock, hblk.trans g1, g2, g3.ext (frz_r E id b), g4⟩
 | mpk es c pd s =>
   obtain ⟨i, b', l, clock, l', ty, w, rfl, g1, g2, g3, g4, g5, g6, g7, g8⟩ := h
   exact ⟨i, b', l, clock, l', ty, w, rfl, hblk.trans g1, g2, g3, frzK hb hv g4, g5, (hval i rfl).trans g6, g7, g8⟩
 | mit m s left cur =>
   obtain ⟨h0, r, seen, g1, g2, g3⟩ := h
   exact ⟨fun k e => by rw [hval k e]; exact h0 k e, r, seen, hblk.trans g1, g2, g3⟩
 | mpz es s =>
   obtain ⟨h0, g1, g2, g3, l', g4, g5⟩ := h
   exact ⟨(En.own_eq hblk hval).trans h0, .inl g1, g2, g3, l', g4, frzK hb hv g5⟩
end
def frzS (id : Nat) (v : D) (t : S) : S := fun p => if p = .o id then .none else frzI id v (t p)
def frzV (es : List (List Int × D)) : D := .mp (es.map (·.1)) (es.map (·.2))
theorem GS.frz {A : Actv} {t : S} {id c : Nat} {es : List (List Int × D)} {pd : Option (List Int)} {s : Option Snap} (ht : t (.o id) = .mpk (es.map fun x => (x.1, .d x.2)) c pd s) : GS A t (frzS id (frzV es) t) := fun a w ⟨E, hw, hi⟩ => by
 obtain ⟨b, l, clock, l', ty, w0, hb, hg, hp, hrel, hs, hval, _⟩ := mapK_cur hi ht
 have hownp : E.own (.o id) = some b := by simp [En.own, hb]
 have hrep : Rep (E.frz id b) (frzV es) (.map (some b)) := by
  have h1 := krel_repEs hrel
  simp only [frzV, Rep]
  exact ⟨b, l, clock, l', rfl, .inr ⟨rfl, rfl⟩, hg, hp, hs, h1.1, RepEs.ext (frz_r E id b) _ _ h1.2⟩
 have hown : ∀ {p q}, (E.frz id b).own p = some q → E.own p = some q ∧ p ≠ .o id := fun {p q} h => by
  by_cases e : p = .o id
  ·subst e; simp [En.own, En.frz] at h
  ·rw [En.own_eq (E := E) (by simp only [En.frz, if_neg e]) (fun k e2 => by
    have : k ≠ id := fun e3 => e (by rw [e2, e3])
    simp only [En.frz, if_neg this])] at h
   exact ⟨h, e⟩
 refine ⟨E.frz id b, hw, ⟨⟨fun p hp => ?_, fun k => ?_, fun p q r h1 h2 => hi.h.inj p q r (hown h1).1 (hown h2).1, fun p r h => hi.h.size p r (hown h).1, fun r o h => ?_, fun r o h1 p h2 => ?_, fun y hy => RepCells.ext (frz_r E id b) _ _ _ (hi.h.gl y hy)⟩, ?_, fun k tv hk => ?_, hi.defers, hi.size⟩⟩
 ·unfold frzS
  by_cases e : p = .o id
  ·subst e
   simp only [if_true]
   exact fun k e => by simp only [Pl.o.injEq] at e; subst e; simp [En.frz]
  ·rw [if_neg e]
   exact frz_item hb hrep e (hi.h.item p hp)
 ·simp only [En.frz]; rw [if_neg (by simp)]; exact hi.h.frees k
 ·rcases h with h | ⟨rfl, _⟩
  ·exact hi.h.stsz r o h
  ·exact (Array.getElem?_eq_some_iff.1 hg).1
 ·obtain ⟨g1, g2⟩ := hown h2
  rcases h1 with h1 | ⟨rfl, _⟩
  ·obtain ⟨e, k, es', g3, g4⟩ := hi.h.sep r o h1 p g1
   refine ⟨e, k, es'.map (TV.frzs id (frzV es)), ?_, by simpa using g4⟩
   simp only [frzS, if_neg g2, g3]; rfl
  ·exact absurd (hi.h.inj _ _ _ g1 hownp) g2
 ·refine ⟨hi.fr.os, hi.fr.tape, hi.fr.output, hi.fr.size, hi.fr.old, fun i => ?_, fun i r h => hi.fr.new i r (hown h).1, fun r o h => .inl (hi.fr.st r o h), fun r o h => ?_⟩
  ·simp only [En.frz]; rw [if_neg (by simp)]; exact hi.fr.xb i
  ·rcases h with h | ⟨rfl, _⟩
   ·exact hi.fr.newst r o h
   ·exact .inr (hi.fr.new id r hownp)
 ·unfold frzS at hk
  rw [if_neg (by simp)] at hk
  cases hsk : t (.s k) with
  | v tv' =>
    rw [hsk] at hk
    simp only [frzI, It.v.injEq] at hk
    subst hk
    obtain ⟨u, h1, h2⟩ := hi.sl k tv' hsk
    exact ⟨u, h1, frz_rel hb hrep h2⟩
  | none => rw [hsk] at hk; simp [frzI] at hk
  | box _ => rw [hsk] at hk; simp [frzI] at hk
  | row _ _ _ _ => rw [hsk] at hk; simp [frzI] at hk
  | que _ _ _ => rw [hsk] at hk; simp [frzI] at hk
  | mp _ => rw [hsk] at hk; simp [frzI] at hk
  | mpk _ _ _ _ => rw [hsk] at hk; simp [frzI] at hk
  | mit _ _ _ _ => rw [hsk] at hk; simp [frzI] at hk
  | mpz _ _ => rw [hsk] at hk; simp [frzI] at hk
def frzL (id : Nat) (v : D) : List (Pl × It) → List (Pl × It)
 | [] => []
 | (p, i) :: l => if p = .o id then frzL id v l else (p, frzI id v i) :: frzL id v l
theorem frzL_o (id : Nat) (v : D) : ∀ l : List (Pl × It), look (frzL id v l) (.o id) = .none
 | [] => rfl
 | (p, i) :: l => by
   by_cases e : p = .o id
   ·simp only [frzL, if_pos e]; exact frzL_o id v l
   ·simp only [frzL, if_neg e, look]; rw [if_neg (fun h : Pl.o id = p => e h.symm)]; exact frzL_o id v l
theorem frzS_look (id : Nat) (v : D) : ∀ (l : List (Pl × It)), frzS id v (look l) = look (frzL id v l)
 | [] => by funext p; unfold frzS; split <;> rfl
 | (q, i) :: l => by
   have ih := fun p => congrFun (frzS_look id v l) p
   funext p
   by_cases hp : p = .o id
   ·subst hp; rw [frzL_o]; simp [frzS]
   ·have h1 := ih p
    simp only [frzS, if_neg hp] at h1 ⊢
    by_cases hq : q = .o id
    ·simp only [frzL, if_pos hq, look]
     rw [if_neg (fun h => hp (h.trans hq))]; exact h1
    ·simp only [frzL, if_neg hq, look]
     by_cases e : p = q
     ·simp [e]
     ·simp only [if_neg e]; exact h1
theorem Fin.frz {P : Program} {A : Actv} {fn : Func} {r : TV} {xs : List It} {ro : List (Nat × It)} {l : List (Pl × It)} (id : Nat) (es : List (List Int × D)) {c : Nat} {pd : Option (List Int)} {s : Option Snap} (ht : look l (.o id) = .mpk (es.map fun x => (x.1, .d x.2)) c pd s)
  (h : Fin P A fn r xs ro (look (frzL id (frzV es) l))) : Fin P A fn r xs ro (look l) := by
 have := GS.frz (A := A) ht
 rw [frzS_look] at this
 exact h.ghost this
attribute [simp] frzL frzI TV.frz TV.frzs
end Go.Tr

namespace Go.Proofs
open Go.Shelf
def Tryz.sortAns_ren : Go.Shelf.Ren := ⟨fun | 6 => 84 | 15 => 132 | 14 => 131 | 28 => 175 | 29 => 176 | 20 => 167 | 21 => 168 | 22 => 169 | 23 => 170 | 24 => 171 | 25 => 172 | 26 => 173 | 27 => 174 | 46 => 200 | 47 => 201 | 48 => 202 | 49 => 203 | 50 => 204 | 57 => 210 | n => n, fun | 22 => 56 | 24 => 61 | 25 => 142 | 3 => 3 | 39 => 59 | 0 => 0 | 53 => 173 | 55 => 53 | 4 => 4 | 46 => 212 | 45 => 211 | 50 => 92 | 5 => 5 | 9 => 9 | 66 => 231 | 70 => 235 | 76 => 240 | 77 => 241 | n => n, fun | n => n⟩
def Tryz.sortLoad_ren : Go.Shelf.Ren := ⟨fun | 6 => 105 | 15 => 132 | 14 => 142 | 28 => 175 | 29 => 176 | 20 => 180 | 21 => 181 | 22 => 182 | 23 => 183 | 24 => 184 | 25 => 185 | 26 => 186 | 27 => 187 | 46 => 205 | 47 => 201 | 48 => 202 | 49 => 206 | 50 => 207 | 57 => 211 | n => n, fun | 22 => 100 | 24 => 104 | 25 => 162 | 3 => 3 | 39 => 59 | 0 => 0 | 53 => 173 | 55 => 53 | 4 => 4 | 46 => 212 | 45 => 211 | 50 => 92 | 5 => 5 | 9 => 9 | 66 => 231 | 70 => 235 | 76 => 240 | 77 => 241 | n => n, fun | n => n⟩
theorem Tryz.sortLoad : Go.Proofs.SlLaysF0.n6 Tryz.prog Tryz.sortLoad_ren := {
 mixed := by kernel_rfl
 f6 := ⟨Tryz.f105.name, by decide, Tryz.func105.trans (congrArg some (by kernel_rfl))⟩
 f14 := ⟨Tryz.f142.name, by decide, Tryz.func142.trans (congrArg some (by kernel_rfl))⟩
 f15 := Tryz.func132.trans (congrArg some (by kernel_rfl))
 f20 := ⟨Tryz.f180.name, by decide, Tryz.func180.trans (congrArg some (by kernel_rfl))⟩
 f21 := ⟨Tryz.f181.name, by decide, Tryz.func181.trans (congrArg some (by kernel_rfl))⟩
 f22 := ⟨Tryz.f182.name, by decide, Tryz.func182.trans (congrArg some (by kernel_rfl))⟩
 f23 := ⟨Tryz.f183.name, by decide, Tryz.func183.trans (congrArg some (by kernel_rfl))⟩
 f24 := ⟨Tryz.f184.name, by decide, Tryz.func184.trans (congrArg some (by kernel_rfl))⟩
 f25 := ⟨Tryz.f185.name, by decide, Tryz.func185.trans (congrArg some (by kernel_rfl))⟩
 f26 := ⟨Tryz.f186.name, by decide, Tryz.func186.trans (congrArg some (by kernel_rfl))⟩
 f27 := ⟨Tryz.f187.name, by decide, Tryz.func187.trans (congrArg some (by kernel_rfl))⟩
 f28 := Tryz.func175.trans (congrArg some (by kernel_rfl))
 f29 := Tryz.func176.trans (congrArg some (by kernel_rfl))
 f46 := ⟨Tryz.f205.name, by decide, Tryz.func205.trans (congrArg some (by kernel_rfl))⟩
 f47 := Tryz.func201.trans (congrArg some (by kernel_rfl))
 f48 := Tryz.func202.trans (congrArg some (by kernel_rfl))
 f49 := ⟨Tryz.f206.name, by decide, Tryz.func206.trans (congrArg some (by kernel_rfl))⟩
 f50 := ⟨Tryz.f207.name, by decide, Tryz.func207.trans (congrArg some (by kernel_rfl))⟩
 f57 := ⟨Tryz.f211.name, by decide, Tryz.func211.trans (congrArg some (by kernel_rfl))⟩
 t0 := Tryz.underlying0
 a0 := Tryz.isAgg0
 z0 := Tryz.sizeOf0
 v0 := Tryz.zeroValue0
 t3 := Tryz.underlying3
 a3 := Tryz.isAgg3
 z3 := Tryz.sizeOf3
 v3 := Tryz.zeroValue3
 t4 := Tryz.underlying4
 a4 := Tryz.isAgg4
 z4 := Tryz.sizeOf4
 v4 := Tryz.zeroValue4
 t5 := Tryz.underlying5
 a5 := Tryz.isAgg5
 z5 := Tryz.sizeOf5
 v5 := Tryz.zeroValue5
 t9 := Tryz.underlying9
 a9 := Tryz.isAgg9
 z9 := Tryz.sizeOf9
 v9 := Tryz.zeroValue9
 t22 := Tryz.underlying100
 a22 := Tryz.isAgg100
 z22 := Tryz.sizeOf100
 v22 := Tryz.zeroValue100
 t25 := Tryz.underlying162
 a25 := Tryz.isAgg162
 z25 := Tryz.sizeOf162
 v25 := Tryz.zeroValue162
 t39 := Tryz.underlying59
 a39 := Tryz.isAgg59
 z39 := Tryz.sizeOf59
 v39 := Tryz.zeroValue59
 t45 := Tryz.underlying211
 a45 := Tryz.isAgg211
 z45 := Tryz.sizeOf211
 v45 := Tryz.zeroValue211
 t46 := Tryz.underlying212
 a46 := Tryz.isAgg212
 z46 := Tryz.sizeOf212
 v46 := Tryz.zeroValue212
 t50 := Tryz.underlying92
 a50 := Tryz.isAgg92
 z50 := Tryz.sizeOf92
 v50 := Tryz.zeroValue92
 t53 := Tryz.underlying173
 a53 := Tryz.isAgg173
 z53 := Tryz.sizeOf173
 v53 := Tryz.zeroValue173
 t55 := Tryz.underlying53
 a55 := Tryz.isAgg53
 z55 := Tryz.sizeOf53
 v55 := Tryz.zeroValue53
 t66 := Tryz.underlying231
 a66 := Tryz.isAgg231
 z66 := Tryz.sizeOf231
 v66 := Tryz.zeroValue231
 t70 := Tryz.underlying235
 a70 := Tryz.isAgg235
 z70 := Tryz.sizeOf235
 v70 := Tryz.zeroValue235
 t76 := Tryz.underlying240
 a76 := Tryz.isAgg240
 z76 := Tryz.sizeOf240
 v76 := Tryz.zeroValue240
 t77 := Tryz.underlying241
 a77 := Tryz.isAgg241
 z77 := Tryz.sizeOf241
 v77 := Tryz.zeroValue241 }
def Tryz.cmpInt_ren : Go.Shelf.Ren := ⟨fun | 5 => 86 | 7 => 133 | n => n, fun | 22 => 3 | 3 => 3 | 4 => 4 | n => n, fun | n => n⟩
theorem Tryz.cmpInt : Go.Proofs.SlLaysC2.n5 Tryz.prog Tryz.cmpInt_ren := {
 mixed := by kernel_rfl
 f5 := ⟨Tryz.f86.name, by decide, Tryz.func86.trans (congrArg some (by kernel_rfl))⟩
 f7 := ⟨Tryz.f133.name, by decide, Tryz.func133.trans (congrArg some (by kernel_rfl))⟩
 t3 := Tryz.underlying3
 a3 := Tryz.isAgg3
 z3 := Tryz.sizeOf3
 v3 := Tryz.zeroValue3
 t4 := Tryz.underlying4
 a4 := Tryz.isAgg4
 z4 := Tryz.sizeOf4
 v4 := Tryz.zeroValue4
 t22 := Tryz.underlying3
 a22 := Tryz.isAgg3
 z22 := Tryz.sizeOf3
 v22 := Tryz.zeroValue3 }
end Go.Proofs

set_option linter.unusedVariables false
set_option maxRecDepth 100000
set_option maxHeartbeats 2000000
namespace Go.Proofs
open Go.Shelf Go.RowKit Go.Lib Go.Sort
theorem or2_k (b : Nat) (x y : Int) (W : World) (h0 : W.cell? ⟨b, 0, none⟩ = some (.int .i64 x)) (h1 : W.cell? ⟨b, 1, none⟩ = some (.int .i64 y)) : Calls Tryz.prog 107 #[.slice (some ⟨b, 0, none⟩) 2 2] W fun e w' => e = .returned (.int .i64 (if x = 0 then y else x)) ∧ w' = W := by
 go_enter Tryz.func107, Tryz.ntmps107
 by_cases hx : x = 0
 ·by_cases hy : y = 0
  ·go_wp2
   refine wp_loop_rounds 3 ?_
   rw [rounds_succ]
   go_wp2
   rw [rounds_succ]
   go_wp2
   rw [rounds_succ]
   go_wp2
   go_ret
   simp [hx, hy]
  ·go_wp2
   refine wp_loop_rounds 3 ?_
   rw [rounds_succ]
   go_wp2
   rw [rounds_succ]
   go_wp2
   go_ret
   simp [hx, hy]
 ·go_wp2
  refine wp_loop_rounds 3 ?_
  rw [rounds_succ]
  go_wp2
  go_ret
  simp [hx]
set_option maxHeartbeats 4000000
theorem cell_alloc1 (W : World) (o o2 : Obj) (i : Nat) : (World.alloc (World.alloc W o) o2).cell? ⟨W.heap.size, i, none⟩ = (World.alloc W o).cell? ⟨W.heap.size, i, none⟩ := by
 unfold World.cell? World.alloc
 simp only [Array.getElem?_push, Array.size_push]
 rw [if_neg (by omega)]
theorem cell_alloc2 (W : World) (vs : Array Value) (t i : Nat) (v : Value) (h : vs[i]? = some v) : (World.alloc W (.cells vs t)).cell? ⟨W.heap.size, i, none⟩ = some v := by
 unfold World.cell? World.alloc
 simp only [Array.getElem?_push, if_true]
 simpa using h
theorem loads1_k (x y : List Int) (W : World) (hx : x.length = 3) (hy : y.length = 3) : Calls Tryz.prog 106 #[.agg (x.map (Value.int .i64)).toArray, .agg (y.map (Value.int .i64)).toArray] W fun e w' => e = .returned (.int .i64 (if Lib.compareInt (x.getD 0 0) (y.getD 0 0) = 0 then Lib.compareInt (x.getD 1 0) (y.getD 1 0) else Lib.compareInt (x.getD 0 0) (y.getD 0 0))) ∧ ∃ q os', w' = Go.Sort.grow (W.drewN q) os' := by
 obtain ⟨x0, x1, x2, rfl⟩ : ∃ a b c, x = [a, b, c] := by
  match x, hx with
  | [a, b, c], _ => exact ⟨a, b, c, rfl⟩
 obtain ⟨y0, y1, y2, rfl⟩ : ∃ a b c, y = [a, b, c] := by
  match y, hy with
  | [a, b, c], _ => exact ⟨a, b, c, rfl⟩
 have hcon := fun W' => AnyG.cmp_Compare_int Tryz.cmpInt x0 y0 W'
 have hcon2 := fun W' => AnyG.cmp_Compare_int Tryz.cmpInt x1 y1 W'
 change ∀ W', Calls Tryz.prog 86 _ _ _ at hcon
 change ∀ W', Calls Tryz.prog 86 _ _ _ at hcon2
 change Calls Tryz.prog 106 #[.agg #[.int .i64 x0, .int .i64 x1, .int .i64 x2], .agg #[.int .i64 y0, .int .i64 y1, .int .i64 y2]] W fun e w' => e = .returned (.int .i64 (if Lib.compareInt x0 y0 = 0 then Lib.compareInt x1 y1 else Lib.compareInt x0 y0)) ∧ ∃ q os', w' = Go.Sort.grow (W.drewN q) os'
 generalize Lib.compareInt x0 y0 = r at hcon ⊢
 generalize Lib.compareInt x1 y1 = s at hcon2 ⊢
 have hor := fun (b : Nat) (W' : World) (h0 : W'.cell? ⟨b, 0, none⟩ = some (.int .i64 r)) (h1 : W'.cell? ⟨b, 1, none⟩ = some (.int .i64 s)) => or2_k b r s W' h0 h1
 generalize (if r = 0 then s else r) = v at hor ⊢
 go_enter Tryz.func106, Tryz.ntmps106
 go_wp2_with fail
 obtain ⟨W2, hW2⟩ : ∃ W2, W2 = ((W.alloc (Obj.cells #[Value.int IntKind.i64 x0, Value.int IntKind.i64 x1, Value.int IntKind.i64 x2] 104)).alloc (Obj.cells #[Value.int IntKind.i64 y0, Value.int IntKind.i64 y1, Value.int IntKind.i64 y2] 104)) := ⟨_, rfl⟩
 have hs1 : (W.alloc (Obj.cells #[Value.int IntKind.i64 x0, Value.int IntKind.i64 x1, Value.int IntKind.i64 x2] 104)).heap.size = W.heap.size + 1 := Array.size_push _
 have cx0 : W2.cell? ⟨W.heap.size, 0, none⟩ = some (.int .i64 x0) := by subst hW2; rw [cell_alloc1]; exact cell_alloc2 _ _ _ _ _ rfl
 have cx1 : W2.cell? ⟨W.heap.size, 1, none⟩ = some (.int .i64 x1) := by subst hW2; rw [cell_alloc1]; exact cell_alloc2 _ _ _ _ _ rfl
 have cy0 : W2.cell? ⟨W.heap.size + 1, 0, none⟩ = some (.int .i64 y0) := by subst hW2; rw [← hs1]; exact cell_alloc2 _ _ _ _ _ rfl
 have cy1 : W2.cell? ⟨W.heap.size + 1, 1, none⟩ = some (.int .i64 y1) := by subst hW2; rw [← hs1]; exact cell_alloc2 _ _ _ _ _ rfl
 have hsz : W2.heap.size = W.heap.size + 2 := by subst hW2; exact (Array.size_push _).trans (congrArg (· + 1) (Array.size_push _))
 rw [← hW2]
 have HD : Hid (W2 = ((W.alloc (Obj.cells #[Value.int IntKind.i64 x0, Value.int IntKind.i64 x1, Value.int IntKind.i64 x2] 104)).alloc (Obj.cells #[Value.int IntKind.i64 y0, Value.int IntKind.i64 y1, Value.int IntKind.i64 y2] 104))) := hW2
 clear hW2 hs1
 refine wp_region_still_tail 10 (by kernel_rfl) (by kernel_rfl) ?_
 simp only [List.take_succ_cons, List.take_zero, List.drop_succ_cons, List.drop_zero]
 iterate 4 still_step
 refine wpStill_step (fun K hK => ?_)
 go_simp
 refine ⟨_, hcon _, hK _ ?_⟩
 clear hK K
 iterate 4 still_step
 refine wpStill_step (fun K hK => ?_)
 go_simp
 refine ⟨_, hcon2 _, hK _ ?_⟩
 clear hK K
 refine wpStill_nil ?_
 change wpList _ _ _ _ _ W2.drew
 obtain ⟨W3, hW3⟩ : ∃ W3, W3 = W2.drew := ⟨_, rfl⟩
 have HE : Hid (W3 = W2.drew) := hW3
 rw [← hW3]
 clear hW3
 go_wp2_with fail
 refine (hor _ _ (cell_alloc2 _ _ _ _ _ rfl) (cell_alloc2 _ _ _ _ _ rfl)).mono ?_
 rintro e w' ⟨rfl, rfl⟩
 go_wp2_with fail
 go_ret
 refine ⟨rfl, ?_⟩
 have e3 := HE.out
 have e2 := HD.out
 subst e3 e2
 refine ⟨1, #[Obj.cells #[Value.int IntKind.i64 x0, Value.int IntKind.i64 x1, Value.int IntKind.i64 x2] 104, Obj.cells #[Value.int IntKind.i64 y0, Value.int IntKind.i64 y1, Value.int IntKind.i64 y2] 104, Obj.cells #[Value.int IntKind.i64 r, Value.int IntKind.i64 s] 3], ?_⟩
 rw [alloc_eq_grow, alloc_eq_grow, alloc_eq_grow, grow_grow]
 exact (grow_grow (W.drewN 1) #[_, _] #[_])
end Go.Proofs

namespace Go.Proofs
open Go Go.Tr Go.Shelf
def cfL (x y : List Int) : Int := if Lib.compareInt (x.getD 0 0) (y.getD 0 0) = 0 then Lib.compareInt (x.getD 1 0) (y.getD 1 0) else Lib.compareInt (x.getD 0 0) (y.getD 0 0)
theorem sortLoads_c : SortC Tryz.prog 105 106 3 (Parts2 cfL) (fun zs => zs.mergeSort fun x y => !decide (cfL y x < 0)) :=
 SortC.of Tryz.sortLoad (by omega) (fun w => by kernel_rfl) (fun w => by kernel_rfl) cfL 106 (enters_of Tryz.func106 (by kernel_rfl) rfl) (fun x y W hx hy => loads1_k x y W hx hy)
theorem cmpI_lt (x y : Int) : Lib.compareInt x y < 0 ↔ x < y := by
 unfold Lib.compareInt
 split <;> (try split) <;> omega
theorem cmpI_eq (x y : Int) : Lib.compareInt x y = 0 ↔ x = y := by
 unfold Lib.compareInt
 split <;> (try split) <;> omega
theorem cfL_lt (x y : List Int) : cfL x y < 0 ↔ x.getD 0 0 < y.getD 0 0 ∨ x.getD 0 0 = y.getD 0 0 ∧ x.getD 1 0 < y.getD 1 0 := by
 have h1 := cmpI_lt (x.getD 0 0) (y.getD 0 0)
 have h2 := cmpI_eq (x.getD 0 0) (y.getD 0 0)
 have h3 := cmpI_lt (x.getD 1 0) (y.getD 1 0)
 unfold cfL
 split
 ·rw [h3]; have := h2.1 ‹_›; omega
 ·rw [h1]; have : ¬ x.getD 0 0 = y.getD 0 0 := fun h => absurd (h2.2 h) ‹_›; omega
theorem parts_cfL {zs : List (List Int)} (h : ∀ x ∈ zs, ∀ y ∈ zs, x.getD 0 0 = y.getD 0 0 → x.getD 1 0 = y.getD 1 0 → x = y) : Parts2 cfL zs :=
 ⟨fun x _ => by rw [cfL_lt]; omega, fun x _ y _ z _ => by rw [cfL_lt, cfL_lt, cfL_lt]; omega, fun x _ y _ z _ => by rw [cfL_lt, cfL_lt, cfL_lt]; omega,
  fun x hx y hy => by
   rw [cfL_lt, cfL_lt]
   intro h1 h2
   exact h x hx y hy (by omega) (by omega)⟩
end Go.Proofs

/-
  What functions of the program compute, stated as contracts over plain data; the conditions of each stand in its own statement.
-/
import Derived.Test.YteenclepbpajdaaGreatDoorM03
import Derived.Laws.IdiomStrings
import Derived.Laws.StructEq
import Derived.MapKept
set_option linter.unusedSimpArgs false
namespace Go.Tr
open Go
def u8s : List (List D) → Option (List Int)
 | [] => some []
 | [.int .u8 n] :: l => match u8s l with
   | some ns => some (n :: ns)
   | none => none
 | _ => none
def strOf (ns : List Int) : ByteArray := ns.foldl (fun r n => r.push (UInt8.ofNat n.toNat)) ByteArray.empty
def u8K (P : Program) (ty : TypeId) : Bool :=
 match P.underlying ty with
 | some (.int .u8) => true
 | _ => false
section
variable {P : Program} {A : Actv}
theorem u8s_cells {E : En} {b k : Nat} : ∀ {xs : List (List D)} {ns : List Int} {o : Nat}, u8s xs = some ns → RepRows E b k o xs → xs.length = ns.length ∧ ∀ j n, ns[j]? = some n → E.w.cell? ⟨b, o + j, none⟩ = some (.int .u8 n)
 | [], ns, o, h, _ => by simp only [u8s, Option.some.injEq] at h; subst h; simp
 | e :: l, ns, o, h, hr => by
   unfold u8s at h
   split at h
   ·simp at *
   ·rename_i n l' heq
    simp only [List.cons.injEq] at heq
    obtain ⟨rfl, rfl⟩ := heq
    split at h
    ·rename_i ns' h'
     simp only [Option.some.injEq] at h; subst h
     simp only [RepRows] at hr
     obtain ⟨h1, h2, h3⟩ := hr
     simp only [List.length_cons, List.length_nil, Nat.zero_add] at h1
     subst h1
     obtain ⟨g1, g2⟩ := u8s_cells h' h3
     refine ⟨by simp [g1], fun j m hj => ?_⟩
     cases j with
     | zero =>
       simp only [List.getElem?_cons_zero, Option.some.injEq] at hj; subst hj
       simp only [RepCells] at h2
       obtain ⟨⟨_, u, h4, h5⟩, _⟩ := h2
       simp only [Rep] at h5; subst h5
       simpa using h4
     | succ j =>
       simp only [List.getElem?_cons_succ] at hj
       have := g2 j m hj
       rwa [show o + 1 + j = o + (j + 1) by omega] at this
    ·simp at h
   ·simp at h
theorem eff_convS {o : Oper} {t : S} {sr ds e : TypeId} {x : Operand} {xs : List (List D)} {ns : List Int} (ho : o.op = .convert sr ds x) (hs : slE P sr = some e) (he : u8K P e = true) (hd : isStr P ds = true) (hx : ev t x = .d (.sl xs)) (hn : u8s xs = some ns) :
  EffOK P A o t ⟨True, pl x, [], .d (.str (strOf ns))⟩ :=
 .pure fun _ t' hr a E hi => by
  have hx' := ev_rel hi x
  rw [ev_eq hr, hx] at hx'
  unfold slE at hs
  split at hs
  rotate_left
  ·simp at hs
  rename_i e' hu
  simp only [Option.some.injEq] at hs; subst hs
  unfold u8K at he
  split at he
  rotate_left
  ·simp at he
  rename_i he'
  have hd' : P.underlying ds = some .string := by
   unfold isStr at hd
   split at hd
   ·assumption
   ·simp at hd
  refine ⟨.string (strOf ns), ?_, by simp only [RelV, Rep]⟩
  simp only [execOp, ho, Sem.run_bind]
  simp only [RelV, Rep] at hx'
  rcases hx' with ⟨h0, ad, c, hux⟩ | ⟨b, of, c, k', hux, hcc, hrows⟩
  ·have hxs : xs = [] := List.eq_nil_of_length_eq_zero h0
   subst hxs
   simp only [u8s, Option.some.injEq] at hn; subst hn
   rw [hux, run_convert_bytes_string E.w sr ds e' ad 0 c hu he' hd']
   cases ad with
   | none => simp [Conv.bytesToString, strOf]
   | some a =>
     have hl := run_loadCells_list (P := P) E.w a [] (fun j v hj => by simp at hj)
     rw [run_bytesToString E.w a 0 c [] (by simpa using hl)]
     simp [strOf]
  ·obtain ⟨h1, h2⟩ := u8s_cells hn hrows
   rw [hux, run_convert_bytes_string E.w sr ds e' _ _ c hu he' hd']
   have hl := run_loadCells_list (P := P) E.w ⟨b, of, none⟩ (ns.map (Value.int .u8)) (fun j v hj => by
    rw [List.getElem?_map] at hj
    cases hnj : ns[j]? with
    | none => simp [hnj] at hj
    | some n =>
      simp only [hnj, Option.map_some, Option.some.injEq] at hj
      subst hj
      rw [add_lit']
      exact h2 j n hnj)
   rw [List.length_map, ← h1] at hl
   rw [run_bytesToString E.w _ _ c ns hl]
   rfl
def lf (P : Program) (ty : TypeId) : Option Nat :=
 match P.underlying ty with
 | some (.int _) => some 0
 | some .bool => some 1
 | some .string => some 2
 | _ => none
def eqFs (P : Program) (ty : TypeId) : Option (List (Nat × TypeId)) :=
 match P.underlying ty with
 | some (.struct fs) => if P.stoodInHeld ty = false ∧ (fs.toList.all fun f => f.name != "_") = true then some (fs.toList.map fun f => (f.offset, f.type)) else none
 | _ => none
def eqGd (P : Program) (ty : TypeId) : Bool := !P.eqGuardType P.depth ty
def eqL (g : Nat × TypeId → Option Bool) : List (Nat × TypeId) → Option Bool
 | [] => some true
 | f :: l => match g f, eqL g l with
   | some a, some b => some (a && b)
   | _, _ => none
def eqT (P : Program) : Nat → TypeId → TV → TV → Option Bool
 | 0, _, _, _ => none
 | d + 1, ty, x, y => match x, y with
   | .d (.int k a), .d (.int k' b) => if lf P ty = some 0 ∧ k = k' then some (a == b) else none
   | .d (.bool a), .d (.bool b) => if lf P ty = some 1 then some (a == b) else none
   | .d (.str a), .d (.str b) => if lf P ty = some 2 then some (a.toList == b.toList) else none
   | .agg vs, .agg ws => match eqFs P ty with
     | some fs => eqL (fun f => match partT P f.2 vs f.1, partT P f.2 ws f.1 with
       | some a, some b => eqT P d f.2 a b
       | _, _ => none) fs
     | none => none
   | _, _ => none
theorem lf_spec {ty : TypeId} : (lf P ty = some 0 → ∃ k, P.underlying ty = some (.int k)) ∧ (lf P ty = some 1 → P.underlying ty = some .bool) ∧ (lf P ty = some 2 → P.underlying ty = some .string) := by
 unfold lf
 split
 ·rename_i k h; exact ⟨fun _ => ⟨k, h⟩, fun e => by simp at e, fun e => by simp at e⟩
 ·rename_i h; exact ⟨fun e => by simp at e, fun _ => h, fun e => by simp at e⟩
 ·rename_i h; exact ⟨fun e => by simp at e, fun e => by simp at e, fun _ => h⟩
 ·exact ⟨fun e => by simp at e, fun e => by simp at e, fun e => by simp at e⟩
theorem eqT_ok : ∀ {d : Nat} {ty : TypeId} {x y : TV} {r : Bool}, eqT P d ty x y = some r → ∀ {E : En} {u u' : Value}, RelV E x u → RelV E y u' → ∀ D, d ≤ D → (Op.equalIn D ty u u').run P E.w = .ok r E.w
 | 0, _, _, _, _, h, _, _, _, _, _, _, _ => by simp [eqT] at h
 | d + 1, ty, x, y, r, h, E, u, u', hu, hu', D, hD => by
   obtain ⟨D, rfl⟩ : ∃ D', D = D' + 1 := ⟨D - 1, by omega⟩
   unfold eqT at h
   split at h
   ·split at h
    ·rename_i k a k' b hc
     simp only [Option.some.injEq] at h; subst h
     obtain ⟨h1, rfl⟩ := hc
     obtain ⟨q, hq⟩ := lf_spec.1 h1
     simp only [RelV, Rep] at hu hu'
     subst hu; subst hu'
     exact run_equalIn_int E.w D ty k q a b hq
    ·simp at h
   ·split at h
    ·rename_i hc
     simp only [Option.some.injEq] at h; subst h
     simp only [RelV, Rep] at hu hu'
     subst hu; subst hu'
     exact run_equalIn_bool' E.w D ty _ _ (lf_spec.2.1 hc)
    ·simp at h
   ·split at h
    ·rename_i hc
     simp only [Option.some.injEq] at h; subst h
     simp only [RelV, Rep] at hu hu'
     subst hu; subst hu'
     exact run_equalIn_string E.w D ty _ _ (lf_spec.2.2 hc)
    ·simp at h
   ·rename_i vs ws
    split at h
    ·rename_i fs hfs
     simp only [RelV] at hu hu'
     obtain ⟨us, rfl, hus⟩ := hu
     obtain ⟨us', rfl, hus'⟩ := hu'
     unfold eqFs at hfs
     split at hfs
     ·rename_i fs0 hund
      split at hfs
      ·rename_i hc
       simp only [Option.some.injEq] at hfs; subst hfs
       have hfo : P.fieldsOf ty = fs0 := by simp [Program.fieldsOf, hund]
       rw [run_equalIn_agg E.w D ty us us' (by rw [hfo]; exact hund) hc.1, hfo]
       have hnm := hc.2
       clear hund hc hfo
       generalize fs0.toList = l at hnm h
       induction l generalizing r with
       | nil => simp only [List.map_nil, eqL, Option.some.injEq] at h; subst h; simp [Op.eqFields]
       | cons f l ih =>
         simp only [List.all_cons, Bool.and_eq_true, bne_iff_ne, ne_eq] at hnm
         simp only [List.map_cons, eqL] at h
         split at h
         ·rename_i a b h1 h2
          simp only [Option.some.injEq] at h; subst h
          split at h1
          ·rename_i p q hp hq
           obtain ⟨v, g1, g2⟩ := partT_rel hp hus
           obtain ⟨v', g3, g4⟩ := partT_rel hq hus'
           have g5 := eqT_ok h1 g2 g4 D (by omega)
           have g6 := ih _ hnm.2 h2
           cases a
           ·simp [Op.eqFields, hnm.1, g1, g3, g5]
           ·simp [Op.eqFields, hnm.1, g1, g3, g5, g6]
          ·simp at h1
         ·simp at h
      ·simp at hfs
     ·simp at hfs
    ·simp at h
   ·simp at h
theorem eff_eqs {o : Oper} {t : S} {op : BinOp} {ty ty' : TypeId} {x y : Operand} {vs ws : List TV} {r : Bool} (ho : o.op = .binOp op ty x y ty') (hop : op = .eql ∨ op = .neq) (hg : eqGd P ty = true) (hx : ev t x = .agg vs) (hy : ev t y = .agg ws) (h : eqT P 4 ty (.agg vs) (.agg ws) = some r) :
  EffOK P A o t ⟨True, pl x ++ pl y, [], .d (.bool (if op = .eql then r else !r))⟩ :=
 .pure fun _ t' hr a E hi => by
  have hx' := ev_rel hi x
  rw [ev_eq (pl_left hr), hx] at hx'
  have hy' := ev_rel hi y
  rw [ev_eq (pl_right hr), hy] at hy'
  have hq := eqT_ok h hx' hy' 10000 (by omega)
  simp only [RelV] at hx' hy'
  obtain ⟨us, hux, hus⟩ := hx'
  obtain ⟨us', huy, hus'⟩ := hy'
  rw [hux, huy] at hq
  have hgd : P.eqGuardType P.depth ty = false := by simpa [eqGd] using hg
  rcases hop with rfl | rfl
  ·refine ⟨.bool r, ?_, by simp only [if_true, RelV, Rep]⟩
   simp only [execOp, ho, Sem.run_bind, hux, huy, run_eqGuard_agg E.w _ ty x y us us' hgd, Result.andThen_ok, run_eql_struct, hq, Sem.run_pure]
  ·refine ⟨.bool (!r), ?_, by simp [RelV, Rep]⟩
   simp only [execOp, ho, Sem.run_bind, hux, huy, run_eqGuard_agg E.w _ ty x y us us' hgd, Result.andThen_ok, run_neq_struct, hq, Sem.run_pure]
end
end Go.Tr

set_option linter.unusedSimpArgs false
namespace Go.Tr
open Go
def mget : List (Int × D) → Int → Option D
 | [], _ => none
 | (k', d) :: es, k => if k = k' then some d else mget es k
def mput : List (Int × D) → Int → D → List (Int × D)
 | [], k, d => [(k, d)]
 | (k', d') :: es, k, d => if k = k' then (k, d) :: es else (k', d') :: mput es k d
theorem find_rel {E : En} {k : Int} {kd : IntKind} : ∀ {es : List (Int × D)} {l : List MapEntry} {i : Nat}, MapRel E es l →
  (mget es k = none ∧ Instr.findNow (.int kd) (.int .i64 k) l i = some none ∧ ∀ d u born, u.oneCell' = true → Rep E d u → MapRel E (mput es k d) (l ++ [⟨.int .i64 k, u, born⟩])) ∨
  ∃ d j a, mget es k = some d ∧ Instr.findNow (.int kd) (.int .i64 k) l i = some (some (i + j, a.val)) ∧ l[j]? = some a ∧ a.key = .int .i64 k ∧ a.val.oneCell' = true ∧ Rep E d a.val ∧
   ∀ d' u, u.oneCell' = true → Rep E d' u → MapRel E (mput es k d') (l.modify j fun e => { e with key := .int .i64 k, val := u })
 | [], l, i, h => by
   simp only [MapRel] at h
   subst h
   exact .inl ⟨rfl, rfl, fun d u born h1 h2 => ⟨_, [], rfl, rfl, h1, h2, rfl⟩⟩
 | (k', d) :: es, l, i, h => by
   simp only [MapRel] at h
   obtain ⟨a, l', rfl, h1, h2, h3, h4⟩ := h
   by_cases e : k = k'
   ·subst e
    refine .inr ⟨d, 0, a, by simp [mget], by simp [Instr.findNow, Instr.sameNow, h1], rfl, h1, h2, h3, fun d' u g1 g2 => ?_⟩
    simp only [mput, if_true, List.modify_zero_cons]
    exact ⟨_, l', rfl, rfl, g1, g2, h4⟩
   ·have hne : (k == k') = false := by simpa using e
    rcases find_rel (k := k) (kd := kd) (i := i + 1) h4 with ⟨g1, g2, g3⟩ | ⟨d2, j, b, g1, g2, g3, g4, g5, g6, g7⟩
    ·refine .inl ⟨by simp [mget, e, g1], by simp [Instr.findNow, Instr.sameNow, h1, hne, g2], fun d2 u born q1 q2 => ?_⟩
     simp only [mput, if_neg e]
     exact ⟨a, _, rfl, h1, h2, h3, g3 d2 u born q1 q2⟩
    ·refine .inr ⟨d2, j + 1, b, by simp [mget, e, g1], ?_, by simpa using g3, g4, g5, g6, fun d' u q1 q2 => ?_⟩
     ·simp [Instr.findNow, Instr.sameNow, h1, hne, g2]
      omega
     ·simp only [mput, if_neg e, List.modify_succ_cons]
      exact ⟨a, _, rfl, h1, h2, h3, g7 d' u q1 q2⟩
theorem find_none {k : Int} {kd : IntKind} : ∀ {l : List MapEntry} {i : Nat}, Instr.findNow (.int kd) (.int .i64 k) l i = some none → ∀ x ∈ l, x.key ≠ .int .i64 k
 | [], _, _, x, hx => by simp at hx
 | a :: l, i, h, x, hx => by
   intro e
   rcases List.mem_cons.1 hx with rfl | hx
   ·simp [Instr.findNow, Instr.sameNow, e] at h
   ·unfold Instr.findNow at h
    cases hs : Instr.sameNow (.int kd) (.int .i64 k) a.key with
    | none => simp [hs] at h
    | some b => cases b with
      | true => simp [hs] at h
      | false => simp only [hs] at h; exact find_none h x hx e
section
variable {P : Program} {A : Actv}
theorem InvE.newMap {t : S} {a : Act} {E : En} (h : InvE A t a E) {d : Nat} (hd : t (.o d) = .none) :
  ∃ E' : En, E'.w = E.w.alloc (.map #[] 0) ∧ InvE A (upd t (.o d) (.mp [])) a E' ∧ RelV E' (.mref d) (.map (some E.w.heap.size)) := by
 have hfree := h.h.item (.o d) (by simp)
 rw [hd] at hfree
 obtain ⟨hb0, hv0⟩ := hfree d rfl
 let E' : En := { w := E.w.alloc (.map #[] 0), St := E.St, blk := fun p => if p = .o d then some E.w.heap.size else E.blk p, val := E.val }
 have hold : ∀ b, b < E.w.heap.size → E'.w.heap[b]? = E.w.heap[b]? := fun b hb => heap_alloc_old E.w _ b hb
 have x : ExtA E E' := by
  refine ⟨fun _ _ h => h, fun b o hst => World.cell?_of_block (hold b (h.h.stsz b o hst)), fun id b _ he => ?_, fun i b he => by simpa [E'] using he, fun i b he => by simpa [E'] using he, fun _ _ c v _ hv => ⟨c, v, hv, Nat.le_refl _, fun _ => rfl⟩⟩
  by_cases e : id = d
  ·subst e; rw [hb0] at he; simp at he
  ·simpa [E', e] using he
 have hown : E'.own (.o d) = some E.w.heap.size := by simp [En.own, E']
 have hownq : ∀ q, q ≠ .o d → E'.own q = E.own q := fun q hq => En.own_eq (by simp [E', hq]) (fun _ _ => rfl)
 have hH : HInv E' (upd t (.o d) (.mp [])) := by
  refine h.h.change (by simp) x (fun b o hst => .inl hst) (fun q hq => by simp [E', hq]) (fun id hid => rfl) (by simp [E']) (fun q b hq hb => hold b (h.h.size q b hb)) (fun b hb => ?_) ?_ (fun b o hst hb => ?_)
  ·rw [hown] at hb; simp at hb; subst hb; exact ⟨by simp [E'], .inr (Nat.le_refl _)⟩
  ·refine ⟨fun id hid => ?_, E.w.heap.size, #[], 0, by simp [E'], heap_alloc_new E.w _, rfl, MapKept.stamped_empty 0⟩
   simp only [Pl.o.injEq] at hid; subst hid; exact hv0
  ·rw [hown] at hb; simp at hb; subst hb
   exact absurd (h.h.stsz _ _ hst) (by omega)
 refine ⟨E', rfl, h.step hH x (h.fr.next rfl rfl rfl (by simp [E']) (fun b hb _ _ => hold b (Nat.lt_of_lt_of_le hb h.fr.size)) (fun i => by simp [E']) (fun id b hb => ?_) (fun _ _ h => h) (fun _ _ h => .inl h)) (fun k => upd_s (by simp) k), ?_⟩
 ·by_cases e : id = d
  ·subst e; rw [hown] at hb; simp at hb; subst hb; exact .inr (Nat.le_refl _)
  ·rw [hownq _ (by simpa using e)] at hb; exact .inl hb
 ·simp only [RelV]; exact ⟨E.w.heap.size, by simp [E'], rfl⟩
theorem eff_makeMap {o : Oper} {t : S} {ty d : Nat} (ho : o.op = .makeMap ty none) : EffOK P A o t ⟨t (.o d) = .none, [.o d], [(.o d, .mp [])], .mref d⟩ := fun hC t' hr a E hi => by
 have ht' : t' (.o d) = .none := (hr _ (by simp)).trans hC
 obtain ⟨E', hw, hinv, hrel⟩ := hi.newMap ht'
 refine ⟨_, _, E', ?_, .inl rfl, hinv, hrel⟩
 simp [execOp, ho, Instr.makeMap, hw]
theorem map_cur {t : S} {a : Act} {E : En} (hi : InvE A t a E) {id : Nat} {es : List (Int × D)} (ht : t (.o id) = .mp es) : E.val id = none ∧ ∃ b l clock, E.blk (.o id) = some b ∧ E.w.heap[b]? = some (.map l clock) ∧ MapRel E es l.toList ∧ MapKept.Stamped l clock := by
 have := hi.h.item (.o id) (by simp)
 rw [ht] at this
 exact ⟨this.1 id rfl, this.2⟩
theorem InvE.mapStep {t : S} {a : Act} {E : En} (hi : InvE A t a E) {id b : Nat} {es es' : List (Int × D)} {l l' : Array MapEntry} {clock clock' : Nat} (ht : t (.o id) = .mp es) (hb : E.blk (.o id) = some b) (hg : E.w.heap[b]? = some (.map l clock)) (hm : MapRel E es' l'.toList) (hs : MapKept.Stamped l' clock') :
  ∃ E' : En, E'.w = { E.w with heap := E.w.heap.setIfInBounds b (.map l' clock') } ∧ ExtA E E' ∧ InvE A (upd t (.o id) (.mp es')) a E' := by
 obtain ⟨hv0, _⟩ := map_cur hi ht
 have hlt : b < E.w.heap.size := (Array.getElem?_eq_some_iff.1 hg).1
 have hownp : E.own (.o id) = some b := by simp [En.own, hb]
 let E' : En := { E with w := { E.w with heap := E.w.heap.setIfInBounds b (.map l' clock') } }
 have hoth : ∀ b', b' ≠ b → E'.w.heap[b']? = E.w.heap[b']? := fun b' hne => by simp [E', Array.getElem?_setIfInBounds, show ¬ b = b' from fun e => hne e.symm]
 have hst : ∀ b' o', E.St b' o' → b' ≠ b := fun b' o' h e => by
  subst e
  obtain ⟨e2, k2, es2, h1, _⟩ := hi.h.sep _ o' h _ hownp
  rw [ht] at h1; simp at h1
 have x : ExtA E E' := ⟨fun _ _ h => h, fun b' o' h => World.cell?_of_block (hoth b' (hst b' o' h)), fun _ _ _ h => h, fun _ _ h => h, fun _ _ h => h, fun _ _ c v _ h => ⟨c, v, h, Nat.le_refl _, fun _ => rfl⟩⟩
 have hown : ∀ q, E'.own q = E.own q := fun q => En.own_eq rfl (fun _ _ => rfl)
 have hH : HInv E' (upd t (.o id) (.mp es')) := by
  refine hi.h.change (by simp) x (fun b o h => .inl h) (fun _ _ => rfl) (fun _ _ => rfl) (by simp [E']) (fun q b' hq hb' => hoth b' fun e => hq (by subst e; exact hi.h.inj _ _ _ hb' hownp)) (fun b' hb' => ?_) ?_ (fun b' o' hs hb' => ?_)
  ·rw [hown] at hb'; exact ⟨by simpa [E'] using hi.h.size _ _ hb', .inl hb'⟩
  ·exact ⟨fun j hj => by simp only [Pl.o.injEq] at hj; subst hj; exact hv0, b, l', clock', hb, by simp [E', hlt], hm.ext x.r, hs⟩
  ·rw [hown, hownp] at hb'; simp only [Option.some.injEq] at hb'
   exact absurd hb'.symm (hst b' o' hs)
 refine ⟨E', rfl, x, hi.step hH x (hi.fr.next rfl rfl rfl (by simp [E']) (fun b' h1 _ h3 => hoth b' fun e => ?_) (fun _ => rfl) (fun j b' h => .inl (by rwa [hown] at h)) (fun _ _ h => h) (fun _ _ h => .inl h)) (fun k => upd_s (by simp) k)⟩
 subst e
 exact (hi.fr.new id b' hownp).elim (fun h => by omega) (fun ⟨j, h⟩ => h3 j h)
def lkV (ck : Bool) (m : Option D) (z : TV) : TV :=
 match ck with
 | true => .tup [match m with | some d => .d d | none => z, .d (.bool m.isSome)]
 | false => match m with | some d => .d d | none => z
theorem eff_lookup {o : Oper} {t : S} {ty kt e : TypeId} {x ix : Operand} {ck : Bool} {id : Nat} {es : List (Int × D)} {k : Int} {kd : IntKind} {z : Value} (ho : o.op = .lookup ty x ix ck) (hm : P.underlying ty = some (.map kt e)) (hk : P.underlying kt = some (.int kd)) (hz : zrO P e = some z)
  (hx : ev t x = .mref id) (ht : t (.o id) = .mp es) (hix : ev t ix = .d (.int .i64 k)) : EffOK P A o t ⟨True, pl x ++ (pl ix ++ [.o id]), [], lkV ck (mget es k) (ofCell z)⟩ :=
 .pure fun _ t' hr a E hi => by
  have hx' : ev t' x = .mref id := (ev_eq (pl_left hr)).trans hx
  have hix' : ev t' ix = .d (.int .i64 k) := (ev_eq (pl_left (pl_right hr))).trans hix
  have ht' : t' (.o id) = .mp es := (pl_right (pl_right hr) _ (by simp)).trans ht
  have h1 := ev_rel hi x
  rw [hx'] at h1
  simp only [RelV] at h1
  obtain ⟨b, hb, hu⟩ := h1
  have h2 := ev_rel hi ix
  rw [hix'] at h2
  simp only [RelV, Rep] at h2
  obtain ⟨_, b', l, clock, hb', hg, hrel, _⟩ := map_cur hi ht'
  rw [hb] at hb'
  simp only [Option.some.injEq] at hb'
  subst hb'
  have hzero : (zeroValue e).run P E.w = .ok z E.w := by
   unfold zrO at hz
   cases hinf : P.info? e with
   | none => simp [hinf] at hz
   | some inf =>
     simp only [hinf, Option.bind_some] at hz
     simp [zeroValue, typeInfo, hinf, hz]
  have hck : (Instr.checkKey l.isEmpty 10000 kt (.int .i64 k)).run P E.w = .ok () E.w := by
   unfold Instr.checkKey
   simp [Sem.run_bind, run_underlying hk]
  rcases find_rel (k := k) (kd := kd) (i := 0) hrel with ⟨g1, g2, _⟩ | ⟨d, j, a', g1, g2, _, _, _, g6, _⟩
  ·refine ⟨match ck with | true => .tuple #[z, .bool false] | false => z, ?_, ?_⟩
   ·cases ck <;> simp [execOp, ho, hu, h2, Instr.lookup, Sem.run_bind, run_underlying hm, run_underlying hk, MapKept.run_getObj_map hg, hck, Instr.findKey, g2, hzero]
   ·rw [g1]
    cases ck with
    | true =>
      simp only [lkV, RelV]
      exact ⟨#[z, .bool false], rfl, by simp only [RelVs]; exact ⟨_, _, rfl, ofCell_rel E z, _, _, rfl, by simp [RelV, Rep], rfl⟩⟩
    | false => simp only [lkV]; exact ofCell_rel E z
  ·refine ⟨match ck with | true => .tuple #[a'.val, .bool true] | false => a'.val, ?_, ?_⟩
   ·cases ck <;> simp [execOp, ho, hu, h2, Instr.lookup, Sem.run_bind, run_underlying hm, run_underlying hk, MapKept.run_getObj_map hg, hck, Instr.findKey, g2, hzero]
   ·rw [g1]
    cases ck with
    | true =>
      simp only [lkV, RelV]
      exact ⟨#[a'.val, .bool true], rfl, by simp only [RelVs]; exact ⟨_, _, rfl, by simpa only [RelV] using g6, _, _, rfl, by simp [RelV, Rep], rfl⟩⟩
    | false => simp only [lkV, RelV]; exact g6
theorem eff_mapUpdate {o : Oper} {t : S} {ty kt e : TypeId} {x ix y : Operand} {id : Nat} {es : List (Int × D)} {k : Int} {kd : IntKind} {d : D} (ho : o.op = .mapUpdate ty x ix y) (hm : P.underlying ty = some (.map kt e)) (hk : P.underlying kt = some (.int kd))
  (hx : ev t x = .mref id) (ht : t (.o id) = .mp es) (hix : ev t ix = .d (.int .i64 k)) (hy : ev t y = .d d) : EffOK P A o t ⟨True, pl x ++ (pl ix ++ (pl y ++ [.o id])), [(.o id, .mp (mput es k d))], .junk⟩ := fun _ t' hr a E hi => by
 have hx' : ev t' x = .mref id := (ev_eq (pl_left hr)).trans hx
 have hix' : ev t' ix = .d (.int .i64 k) := (ev_eq (pl_left (pl_right hr))).trans hix
 have hy' : ev t' y = .d d := (ev_eq (pl_left (pl_right (pl_right hr)))).trans hy
 have ht' : t' (.o id) = .mp es := (pl_right (pl_right (pl_right hr)) _ (by simp)).trans ht
 have h1 := ev_rel hi x
 rw [hx'] at h1
 simp only [RelV] at h1
 obtain ⟨b, hb, hu⟩ := h1
 have h2 := ev_rel hi ix
 rw [hix'] at h2
 simp only [RelV, Rep] at h2
 have h3 := ev_rel hi y
 rw [hy'] at h3
 have hone : (a.eval y).oneCell' = true := h3.one (by rfl)
 simp only [RelV] at h3
 obtain ⟨_, b', l, clock, hb', hg, hrel, hstm⟩ := map_cur hi ht'
 rw [hb] at hb'
 simp only [Option.some.injEq] at hb'
 subst hb'
 have hck : (Instr.checkKey false 10000 kt (.int .i64 k)).run P E.w = .ok () E.w := by
  unfold Instr.checkKey
  simp [Sem.run_bind, run_underlying hk]
 rcases find_rel (k := k) (kd := kd) (i := 0) hrel with ⟨_, g2, g3⟩ | ⟨d', j, a', _, g2, g4, g5, _, _, g7⟩
 ·obtain ⟨E', hw', x', hinv⟩ := hi.mapStep (l' := l.push ⟨.int .i64 k, a.eval y, clock⟩) (clock' := clock + 1) ht' hb hg (by rw [Array.toList_push]; exact g3 d (a.eval y) clock hone h3) (MapKept.stamped_push hstm (find_none g2))
  refine ⟨.skip, undef, E', ?_, .inr ⟨rfl, rfl⟩, hinv, by simp only [RelV]⟩
  simp [execOp, ho, hu, h2, Instr.mapUpdate, Sem.run_bind, run_underlying hm, run_underlying hk, MapKept.run_getObj_map hg, MapKept.run_setObj_map _ hg, hck, Instr.findKey, g2, hw']
 ·obtain ⟨E', hw', x', hinv⟩ := hi.mapStep (l' := l.modify j fun e => { e with key := .int .i64 k, val := a.eval y }) (clock' := clock) ht' hb hg (by rw [Array.toList_modify]; exact g7 d (a.eval y) hone h3) (MapKept.stamped_modify hstm j _ (fun _ _ => rfl) (fun e _ he => by rw [show l[j]? = some a' by simpa using g4] at he; simp only [Option.some.injEq] at he; subst he; exact g5.symm))
  refine ⟨.skip, undef, E', ?_, .inr ⟨rfl, rfl⟩, hinv, by simp only [RelV]⟩
  have g4' : l[j]? = some a' := by simpa using g4
  have hst : (Instr.keyThatStays (.int .i64 k) (.int .i64 k)).run P E.w = .ok (.int .i64 k) E.w := by
   simp [Instr.keyThatStays, Instr.sameBits]
  simp [execOp, ho, hu, h2, Instr.mapUpdate, Sem.run_bind, run_underlying hm, run_underlying hk, MapKept.run_getObj_map hg, MapKept.run_setObj_map _ hg, hck, Instr.findKey, g2, g4', g5, hst, hw']
end
end Go.Tr

set_option linter.unusedSimpArgs false
namespace Go.Tr
open Go
section
variable {P : Program} {A : Actv}
theorem InvE.newRowV {t : S} {a : Act} {E : En} (h : InvE A t a E) {d : Nat} (hd : t (.o d) = .none) {e k : Nat} {es : List (List TV)} {w' : World} {v : Value} {us : List Value} (hg : E.w.grownBy w' none)
  (hown : w'.ownsRow E.w.heap.size e k v es.length us) (hrel : ∀ E' : En, E'.w = w' → ExtA E E' → RowRel E' us k 0 es) :
  ∃ E' : En, E'.w = w' ∧ ExtA E E' ∧ InvE A (upd t (.o d) (.row e k es false)) a E' ∧ E'.val d = some (k, es.length, v) := by
 have hfree := h.h.item (.o d) (by simp)
 rw [hd] at hfree
 obtain ⟨hb0, hv0⟩ := hfree d rfl
 let E' : En := { E with w := w', val := fun i => if i = d then some (k, es.length, v) else E.val i }
 have hv' : E'.val d = some (k, es.length, v) := by simp [E']
 have hown' : E'.own (.o d) = v.ownBlock := by simp [En.own, E', hb0]
 have hold : ∀ b, b < E.w.heap.size → E'.w.heap[b]? = E.w.heap[b]? := fun b hb => hg.block b hb (by simp)
 have x : ExtA E E' := by
  refine ⟨fun _ _ h => h, fun b o hst => World.cell?_of_block (hold b (h.h.stsz b o hst)), fun _ _ _ h => h, fun _ _ h => h, fun _ _ h => h, fun i k' c u _ hu => ?_⟩
  by_cases e : i = d
  ·subst e; rw [hv0] at hu; simp at hu
  ·exact ⟨c, u, by simp [E', e, hu], Nat.le_refl _, fun _ => rfl⟩
 have hH : HInv E' (upd t (.o d) (.row e k es false)) := by
  refine h.h.change (by simp) x (fun b o h => .inl h) (fun q hq => rfl) (fun i hne => ?_) hg.size (fun q b hq hb => hold b (h.h.size q b hb)) (fun b hb => ?_) ⟨hb0, d, v, us, rfl, hv', ⟨hown.1, hown.2.imp (fun h => h) fun ⟨g, cap, cur, h1, _, h3⟩ => ⟨g, cap, cur, h1, Nat.zero_le _, h3⟩⟩, hrel E' rfl x⟩ (fun b o hs hb => ?_)
  ·have hne' : i ≠ d := fun e => hne (by rw [e])
   simp [E', hne']
  ·rw [hown'] at hb
   exact ⟨(hown.lt b hb).2, .inr (hown.lt b hb).1⟩
  ·rw [hown'] at hb
   have := (hown.lt b hb).1
   have := h.h.stsz _ _ hs
   omega
 refine ⟨E', rfl, x, h.step hH x (h.fr.next hg.os hg.tape hg.output hg.size (fun b hb _ _ => hold b (Nat.lt_of_lt_of_le hb h.fr.size)) (fun _ => rfl) (fun i b hb => ?_) (fun _ _ h => h) (fun _ _ h => .inl h)) (fun k => upd_s (by simp) k), hv'⟩
 by_cases e : i = d
 ·subst e
  rw [hown'] at hb
  exact .inr (hown.lt b hb).1
 ·have : E'.own (.o i) = E.own (.o i) := En.own_eq rfl (fun j hj => by simp only [Pl.o.injEq] at hj; subst hj; simp [E', e])
  rw [this] at hb; exact .inl hb
theorem eff_makeSlice {o : Oper} {t : S} {ty e : TypeId} {k b d : Nat} {n : Int} {z : Value} {lx cx : Operand} (ho : o.op = .makeSlice ty lx cx) (he : slE P ty = some e) (hk : szO P e = some k) (hb : byO P e = some b) (hz : zrO P e = some z)
  (hl : ev t lx = .d (.int .i64 n)) (hc : ev t cx = .d (.int .i64 n)) :
  EffOK P A o t ⟨t (.o d) = .none ∧ 0 ≤ n ∧ n ≤ 1000000 ∧ b * n ≤ 281474976710656 ∧ (zcells z).length = k ∧ 0 < k ∧ (zcells z).all (·.oneCell') = true, pl lx ++ (pl cx ++ [.o d]),
   [(.o d, .row e k (List.replicate n.toNat ((zcells z).map ofCell)) false)], .oref d n.toNat⟩ := fun ⟨hd, hn0, hn1, hnb, hzl, hk0, hz1⟩ t' hr a E hi => by
 have hd' : t' (.o d) = .none := (pl_right (pl_right hr) _ (by simp)).trans hd
 have hl' : ev t' lx = .d (.int .i64 n) := (ev_eq (pl_left hr)).trans hl
 have hc' : ev t' cx = .d (.int .i64 n) := (ev_eq (pl_left (pl_right hr))).trans hc
 have h1 := ev_rel hi lx
 rw [hl'] at h1
 simp only [RelV, Rep] at h1
 have h2 := ev_rel hi cx
 rw [hc'] at h2
 simp only [RelV, Rep] at h2
 rw [zcells_eq] at hzl hz1
 obtain ⟨m, hm⟩ : ∃ m : Nat, n = m := ⟨n.toNat, by omega⟩
 subst hm
 rw [Int.toNat_natCast]
 let ru : Array Value := (Array.range (m * k)).map fun i => z.cells[i % z.cells.size]!
 have hrs : ru.size = m * k := by simp [ru]
 have hln : (List.replicate m ((zcells z).map ofCell)).length = m := by simp
 have hzs : z.cells.size = k := by simpa using hzl
 obtain ⟨E', hw', x, hinv, hval⟩ := hi.newRowV hd' (es := List.replicate m ((zcells z).map ofCell)) (v := .slice (some ⟨E.w.heap.size, 0, none⟩) m m) (us := ru.toList) (e := e) (k := k) (w' := E.w.alloc (.cells ru e))
  (World.grownBy_alloc _ _ _)
  (by
   rw [hln]
   refine ⟨by simp [hrs], .inr ⟨E.w.heap.size, m, ru, rfl, Nat.le_refl _, heap_alloc_new E.w _, Nat.le_refl _, by simp only [maxLen]; omega, by rw [hrs], ?_⟩⟩
   rw [List.take_of_length_le (by simp [hrs])])
  (fun E' hw' x => by
   refine RowRel.of_get fun i el hel => ?_
   rw [List.getElem?_replicate] at hel
   split at hel
   ·rename_i him
    simp only [Option.some.injEq] at hel
    subst hel
    refine ⟨by rw [List.length_map, zcells_eq]; exact hzl, CellsRel.of_get fun j tv hj => ?_⟩
    rw [zcells_eq, List.getElem?_map] at hj
    obtain ⟨u, hu, rfl⟩ := Option.map_eq_some_iff.1 hj
    have hjk : j < k := by have := (List.getElem?_eq_some_iff.1 hu).1; omega
    have hlt : i * k + j < m * k := by
     have : (i + 1) * k ≤ m * k := Nat.mul_le_mul_right k him
     rw [Nat.add_mul, Nat.one_mul] at this; omega
    have hmod : (i * k + j) % k = j := by rw [Nat.add_comm, Nat.add_mul_mod_self_right, Nat.mod_eq_of_lt hjk]
    have hu' : z.cells[j]? = some u := by simpa using hu
    refine ⟨u, ?_, List.all_eq_true.1 hz1 u (List.mem_of_getElem? hu), ofCell_rel E' u⟩
    simp [ru, hlt, hzs, hmod]
    simp [getElem!_def, hu']
   ·simp at hel)
 refine ⟨_, .slice (some ⟨E.w.heap.size, 0, none⟩) m m, E', ?_, .inl rfl, hinv, ?_⟩
 ·unfold slE at he
  split at he
  rotate_left
  ·simp at he
  rename_i e' hu
  simp only [Option.some.injEq] at he; subst he
  unfold szO at hk; unfold zrO at hz; unfold byO at hb
  cases hinf : P.info? e' with
  | none => simp [hinf] at hk
  | some inf =>
  simp only [hinf, Option.map_some, Option.some.injEq, Option.bind_some] at hk hz hb
  have hw : IntKind.i64.wrap (m : Int) = m := by rw [IntKind.wrap_i64]; omega
  have hc1 : ¬ ((m : Int) < 0) := by omega
  have hc2 : ¬ (281474976710656 < (b : Int) * (m : Int)) := by omega
  by_cases hmk : m * k = 0
  ·have hru : ru = #[] := Array.size_eq_zero_iff.1 (by rw [hrs, hmk])
   rw [hru] at hw'
   simp only [execOp, ho, h1, h2, Instr.makeSlice, Sem.run_bind, run_underlying hu, Result.andThen_ok, asInt, asIntOf, Sem.run_pure, typeInfo, sizeOf, run_program, hinf, hk, hb, hw, Int.reducePow, gt_iff_lt, hc1, hc2, Int.lt_irrefl, decide_false, Bool.or_self, Bool.false_eq_true, if_false, run_askRoom, Int.toNat_natCast, hmk, if_true, newRow, run_newObj]
   rw [hw']
   exact congrArg (fun r => Result.ok _ (E.w.alloc (.cells r e'))) (by simp)
  ·simp only [execOp, ho, h1, h2, Instr.makeSlice, Sem.run_bind, run_underlying hu, Result.andThen_ok, asInt, asIntOf, Sem.run_pure, typeInfo, sizeOf, run_program, hinf, hk, hb, hw, Int.reducePow, gt_iff_lt, hc1, hc2, Int.lt_irrefl, decide_false, Bool.or_self, Bool.false_eq_true, if_false, run_askRoom, Int.toNat_natCast, hmk, zeroValue, hz, newRow, run_newObj]
   rw [hw']
   rfl
 ·simp only [RelV]
  rw [hln] at hval
  exact ⟨rfl, k, m, _, hval, Nat.le_refl _, fun _ => rfl⟩
end
end Go.Tr

set_option linter.unusedSimpArgs false
namespace Go.Tr
open Go
def dLen (k : Nat) (ys : List (List D)) : Prop := ∀ e ∈ ys, e.length = k
section
variable {P : Program} {A : Actv}
theorem eff_slice3 {o : Oper} {t : S} {ty e k : Nat} {x hi mx : Operand} {xs : List (List D)} {kh km : IntKind} {h m : Int} (ho : o.op = .slice ty x none (some hi) (some mx)) (he : slE P ty = some e) (hk : szO P e = some k) (hx : ev t x = .d (.sl xs))
  (hh : ev t hi = .d (.int kh h)) (hm : ev t mx = .d (.int km m)) : EffOK P A o t ⟨(0 ≤ h ∧ h ≤ xs.length ∧ m = h) ∧ ∀ e ∈ xs, e.length = k, pl x ++ (pl hi ++ pl mx), [], .sx (xs.take h.toNat)⟩ :=
 .pure fun ⟨⟨hC1, hC2, hC3⟩, hlen⟩ t' hr a E hin => by
  subst hC3
  have hx' := ev_rel hin x
  rw [ev_eq (pl_left hr), hx] at hx'
  have hhi := ev_rel hin hi
  rw [ev_eq (pl_left (pl_right hr)), hh] at hhi
  have hmx := ev_rel hin mx
  rw [ev_eq (pl_right (pl_right hr)), hm] at hmx
  simp only [RelV, Rep] at hhi hmx
  unfold slE at he
  split at he
  rotate_left
  ·simp at he
  rename_i e' hu
  simp only [Option.some.injEq] at he; subst he
  unfold szO at hk
  cases hinf : P.info? e' with
  | none => simp [hinf] at hk
  | some inf =>
  simp only [hinf, Option.map_some, Option.some.injEq] at hk
  obtain ⟨n, rfl⟩ : ∃ n : Nat, m = n := ⟨m.toNat, by omega⟩
  have hbd : ∀ len c : Nat, n ≤ c → (Instr.sliceBounds true len c none (some (.int kh n)) (some (.int km n))).run P E.w = .ok (0, n, n) E.w := fun len c hc => by
   have : (n : Int) ≤ (c : Int) := by omega
   have h0 : (0 : Int) ≤ (n : Int) := by omega
   simp only [Instr.sliceBounds, Instr.sliceBound, asIntOf, Sem.run_bind, Sem.run_pure, Result.andThen_ok, Sem.run_ite, h0, this, and_self, if_true, pure_bind, Int.toNat_natCast, Int.le_refl]
  simp only [RelV, Rep] at hx'
  simp only [Int.toNat_natCast] at hC2 ⊢
  have htl : (xs.take n).length = n := by simp; omega
  rcases hx' with ⟨h0, ad, c, hux⟩ | ⟨b, of, c, k', hux, hcc, hrows⟩
  ·have hn0 : n = 0 := by omega
   subst hn0
   refine ⟨.slice ad 0 0, ?_, ?_⟩
   ·simp only [execOp, ho, Instr.sliceAt, Sem.run_bind, run_underlying hu, Result.andThen_ok, hux, Option.map_none, Option.map_some, Instr.slice, hhi, hmx, hbd _ _ (Nat.zero_le _), sizeOf, typeInfo, run_program, hinf, Sem.run_pure, hk, Nat.sub_zero, if_true]
   ·simp only [RelV, Rep]
    exact ⟨.inl ⟨by simp, _, _, rfl⟩, ad, by simp⟩
  ·refine ⟨.slice (some ⟨b, of, none⟩) n n, ?_, ?_⟩
   ·have hadd : (some (⟨b, of, none⟩ : Addr)).map (·.add (0 * k)) = some ⟨b, of, none⟩ := by simp [add_lit']
    simp only [execOp, ho, Instr.sliceAt, Sem.run_bind, run_underlying hu, Result.andThen_ok, hux, Option.map_none, Option.map_some, Instr.slice, hhi, hmx, hbd _ c (by omega), sizeOf, typeInfo, run_program, hinf, Sem.run_pure, hk, Nat.sub_zero]
    simp [add_lit']
   ·simp only [RelV, Rep]
    refine ⟨?_, some ⟨b, of, none⟩, by rw [htl]⟩
    by_cases hz : n = 0
    ·exact .inl ⟨by omega, _, _, by rw [hz]⟩
    ·refine .inr ⟨b, of, n, k', by rw [htl], by omega, RepRows.of_get fun i el hel => ?_⟩
     have hel' : xs[i]? = some el := by
      rw [List.getElem?_take] at hel
      split at hel
      ·exact hel
      ·simp at hel
     exact hrows.get hel'
theorem eff_append_sx {o : Oper} {t : S} {x y : Operand} {sty : TypeId} {d e k b : Nat} {xs : List (List D)} {ys : List (List TV)} {rp : List Pl} {z : Value}
  (ho : o.op = .call { callee := .builtin .append, args := #[x, y], argTypes := #[sty, sty] }) (hx : ev t x = .sx xs) (hs : Src t (ev t y) rp ys)
  (he : slE P sty = some e) (hk : szO P e = some k) (hb : byO P e = some b) (hz : zrO P e = some z) (hzs : (zcells z).length = k) (_hk0 : 0 < k) :
  EffOK P A o t ⟨(t (.o d) = .none ∧ dLen k xs) ∧ 0 < ys.length ∧ appOK k b xs.length ys, pl x ++ (pl y ++ (.o d :: rp)), [(.o d, .row e k (dd xs ++ ys) false)], .oref d (xs.length + ys.length)⟩ := fun ⟨⟨hd, hxl0⟩, hpos, hlen, hroom, hroom2⟩ t' hr a E hi => by
 have hxl : ∀ e ∈ dd xs, e.length = k := fun e he => by
  simp only [dd, List.mem_map] at he
  obtain ⟨e0, h0, rfl⟩ := he
  simpa using hxl0 e0 h0
 have hx' := ev_rel hi x
 rw [ev_eq (pl_left hr), hx] at hx'
 simp only [RelV] at hx'
 obtain ⟨hx1, ad1, hux⟩ := hx'
 have hy' := ev_rel hi y
 rw [ev_eq (pl_left (pl_right hr))] at hy'
 have hr3 := pl_right (pl_right hr)
 have hd' : t' (.o d) = .none := (hr3 _ (by simp)).trans hd
 obtain ⟨ad, c, news, hu, hnl, hrow, hone, hsrc⟩ := hs.rel hlen (fun p hp => hr3 p (by simp [hp])) hi hy'
 obtain ⟨ad2, c2, olds, hu2, hol, hrow2, _, hsrc2⟩ := (Src.sl (t := t') xs).rel hxl (fun p hp => by simp at hp) hi (u := a.eval x) (by simp only [RelV]; exact hx1)
 have hxn : (xs.map (·.map TV.d)).length = xs.length := by simp
 rw [hxn] at hol hu2 hsrc2
 have had : ad2 = ad1 := by rw [hux] at hu2; simp only [Value.slice.injEq] at hu2; exact hu2.1.symm
 subst had
 rcases hsrc with h0 | ⟨a0, rfl, hcells⟩
 ·omega
 unfold slE at he
 split at he
 rotate_left
 ·simp at he
 rename_i e' hun
 simp only [Option.some.injEq] at he
 subst he
 unfold szO at hk; unfold byO at hb; unfold zrO at hz
 cases hinf : P.info? e' with
 | none => simp [hinf] at hk
 | some inf =>
 simp only [hinf, Option.map_some, Option.some.injEq, Option.bind_some] at hk hb hz
 subst hk hb
 have hzc : z.cells.size = inf.size := by rw [← hzs, zcells_eq]; simp
 let cap := grownCap E.w (xs.length + ys.length) xs.length e'
 let w' := E.w.drew.alloc (.cells (olds.toArray ++ news.toArray ++ Builtin.zeroCells z.cells (cap - (xs.length + ys.length))) e')
 have hge : xs.length + ys.length ≤ cap := grownCap_ge E.w _ _ e'
 have hcm : cap ≤ maxLen := grownCap_le_maxLen E.w _ _ e' (by simp only [maxLen]; omega)
 have hrun : (Builtin.append_ #[sty, sty] o.type #[a.eval x, a.eval y]).run P E.w = .ok (.slice (some ⟨E.w.heap.size, 0, none⟩) (xs.length + ys.length) cap) w' := by
  rw [hux, hu]
  cases ad2 with
  | none =>
    have h0 : xs.length = 0 := by
     rcases hsrc2 with h | ⟨a1, h, _⟩
     ·exact h
     ·simp at h
    have ho0 : olds = [] := List.eq_nil_of_length_eq_zero (by rw [hol, h0]; simp)
    have hr0 : ys.length * inf.bytes ≤ 140737488355328 := by rw [h0, Nat.zero_add] at hroom; exact hroom
    have := run_append_nil (P := P) E.w sty o.type e' inf z hun hinf hz a0 ys.length c news hnl hcells hpos (by omega) (by omega)
    rw [h0, this]
    simp only [w', cap, h0, ho0, Nat.zero_add, Array.empty_append]
  | some a1 =>
    have holds : ∀ j v, olds[j]? = some v → E.w.cell? (a1.add j) = some v := by
     rcases hsrc2 with h | ⟨a2, h1, h2⟩
     ·intro j v hj
      rw [h] at hol
      have e0 : olds = [] := List.eq_nil_of_length_eq_zero (by rw [hol]; simp)
      rw [e0] at hj
      simp at hj
     ·simp only [Option.some.injEq] at h1; subst h1; exact h2
    exact run_append_grow (P := P) E.w sty o.type e' inf z hun hinf hz a1 xs.length xs.length olds hol holds a0 ys.length c news hnl hcells (by omega) (by omega) (growslice_fits (by omega) hroom)
 have hgr : E.w.grownBy w' none := ⟨rfl, rfl, rfl, by simp [w'], fun k hk _ => heap_alloc_old E.w.drew _ k hk⟩
 have hdl : (dd xs ++ ys).length = xs.length + ys.length := by simp [dd]
 obtain ⟨E', hw', x', hinv, hval⟩ := hi.newRowV hd' (es := dd xs ++ ys) (v := .slice (some ⟨E.w.heap.size, 0, none⟩) (xs.length + ys.length) cap) (us := olds ++ news) (e := e') (k := inf.size) (w' := w') hgr
  (by
   rw [hdl]
   refine ⟨by rw [List.length_append, hol, hnl, Nat.add_mul], .inr ⟨E.w.heap.size, cap, _, rfl, Nat.le_refl _, heap_alloc_new E.w.drew _, hge, hcm, ?_, ?_⟩⟩
   ·simp only [Array.size_append, List.size_toArray, size_zeroCells, hzc, hol, hnl, ← Nat.add_mul]
    congr 1
    omega
   ·simp only [Array.toList_append, List.append_assoc]
    rw [← List.append_assoc, Nat.add_mul, ← hol, ← hnl, ← List.length_append]
    exact List.take_left)
  (fun E' hw' x' => RowRel.app (by rw [hol]; simp [dd]) (hrow2.up x') (hrow.up x'))
 refine ⟨_, .slice (some ⟨E.w.heap.size, 0, none⟩) (xs.length + ys.length) cap, E', run_app_op ho (by rw [hw']; exact hrun), .inl rfl, hinv, ?_⟩
 simp only [RelV]
 rw [hdl] at hval
 exact ⟨rfl, inf.size, _, _, hval, Nat.le_refl _, fun _ => rfl⟩
theorem eff_append_sx0 {o : Oper} {t : S} {x y : Operand} {sty : TypeId} {e k : Nat} {xs : List (List D)} {ys : List (List TV)} {rp : List Pl}
  (ho : o.op = .call { callee := .builtin .append, args := #[x, y], argTypes := #[sty, sty] }) (hx : ev t x = .sx xs) (hs : Src t (ev t y) rp ys)
  (he : slE P sty = some e) (hk : szO P e = some k) : EffOK P A o t ⟨ys.length = 0, pl x ++ (pl y ++ rp), [], .d (.sl xs)⟩ := .pure fun h0 t' hr a E hi => by
 have hx' := ev_rel hi x
 rw [ev_eq (pl_left hr), hx] at hx'
 simp only [RelV] at hx'
 obtain ⟨hx1, ad1, hux⟩ := hx'
 have hy' := ev_rel hi y
 rw [ev_eq (pl_left (pl_right hr))] at hy'
 have hys : ys = [] := List.eq_nil_of_length_eq_zero h0
 obtain ⟨ad, c, news, hu, hnl, _, _, _⟩ := hs.rel (k := k) (fun e he => by subst hys; simp at he) (fun p hp => pl_right (pl_right hr) p hp) hi hy'
 rw [h0] at hu
 unfold slE at he
 split at he
 rotate_left
 ·simp at he
 rename_i e' hun
 simp only [Option.some.injEq] at he
 subst he
 unfold szO at hk
 cases hinf : P.info? e' with
 | none => simp [hinf] at hk
 | some inf =>
 refine ⟨.slice ad1 xs.length xs.length, run_app_op ho ?_, by simp only [RelV]; rw [← hux]; exact hx1⟩
 rw [hux, hu]
 cases ad <;> cases ad1 <;> simp [Builtin.append_, run_underlying hun, sizeOf, typeInfo, hinf, Builtin.lenOf, Builtin.firstCells, storeCells, loadCells, loadCellsFrom]
theorem eff_buildSlice_row {o : Oper} {t : S} {ty e k n d : Nat} {ps : List (Nat × Operand)} {z : Value} (ho : o.op = .buildSlice ty n ps.toArray) (he : slE P ty = some e) (hk : szO P e = some k) (hz : zrO P e = some z)
  (hseq : seqParts ps n = true) :
  EffOK P A o t ⟨t (.o d) = .none ∧ (∀ e ∈ ps.map (fun x => (ev t x.2).cells), e.length = k ∧ ∀ c ∈ e, c.one = true) ∧ n * k ≤ 16777216 ∧ 0 < k, ps.flatMap (fun x => pl x.2) ++ [.o d], [(.o d, .row e k (ps.map fun x => (ev t x.2).cells) false)], .oref d n⟩ := fun ⟨hd, hC, hsm, hk0⟩ t' hr a E hi => by
 have hseq' : ps.map (·.1) = List.range n := by simpa [seqParts] using hseq
 have hn : ps.length = n := by have := congrArg List.length hseq'; simpa using this
 rw [List.range_eq_range', ← hn] at hseq'
 have hd' : t' (.o d) = .none := (pl_right hr _ (by simp)).trans hd
 have hr1 := pl_left hr
 have hev : (ps.map fun x => ev t' x.2) = ps.map fun x => ev t x.2 :=
  List.map_congr_left fun x hx => ev_eq fun p hp => hr1 p (List.mem_flatMap.2 ⟨x, hx, hp⟩)
 let vs := ps.map fun x => ev t x.2
 let us := ps.map fun x => a.eval x.2
 have hrel : RelVs E vs us := by
  have := evs_rel hi (ps.map (·.2))
  simp only [List.map_map] at this
  have h2 : (List.map (ev t' ∘ fun x => x.2) ps) = vs := hev
  rw [h2] at this
  exact this
 have hCm : ∀ v ∈ vs, v.cells.length = k ∧ ∀ c ∈ v.cells, c.one = true := fun v hv => by
  simp only [vs, List.mem_map] at hv
  obtain ⟨x, hx, rfl⟩ := hv
  exact hC _ (List.mem_map.2 ⟨x, hx, rfl⟩)
 have hvl : vs.length = n := by simp [vs, hn]
 obtain ⟨ru, hrun, hsz, hrel2⟩ := run_buildSlice (P := P) he hk hz hrel (fun v hv => (hCm v hv).1) (fun v hv => (hCm v hv).2) (by rw [hvl]; exact hsm)
 have hmap : ps.map (fun x => (ev t x.2).cells) = vs.map TV.cells := by simp [vs, Function.comp_def]
 have hln : (vs.map TV.cells).length = n := by simp [hvl]
 have hnk : n ≤ 16777216 := Nat.le_trans (Nat.le_mul_of_pos_right n hk0) hsm
 obtain ⟨E', hw', x, hinv, hval⟩ := hi.newRowV hd' (es := vs.map TV.cells) (v := .slice (some ⟨E.w.heap.size, 0, none⟩) n n) (us := ru.toList) (e := e) (k := k) (w' := E.w.alloc (.cells ru e)) (World.grownBy_alloc _ _ _)
  (by
   rw [hln]
   refine ⟨by simp [hsz, hvl], .inr ⟨E.w.heap.size, n, ru, rfl, Nat.le_refl _, heap_alloc_new E.w _, Nat.le_refl _, by simp only [maxLen]; omega, by rw [hsz, hvl], ?_⟩⟩
   rw [List.take_of_length_le (by simp [hsz, hvl])])
  (fun E' hw' x => by
   refine RowRel.of_get fun i el hel => ?_
   simp only [List.getElem?_map, Option.map_eq_some_iff] at hel
   obtain ⟨v, h3, rfl⟩ := hel
   refine ⟨(hCm v (List.mem_of_getElem? h3)).1, CellsRel.of_get fun j tv hj => ?_⟩
   have hfl : (vs.flatMap TV.cells)[i * k + j]? = some tv := flat_get (fun v hv => (hCm v hv).1) h3 hj
   obtain ⟨u, h6, h7⟩ := hrel2.get hfl
   refine ⟨u, by simpa using h6, h7.one ((hCm v (List.mem_of_getElem? h3)).2 tv (List.mem_of_getElem? hj)), h7.up x⟩)
 refine ⟨_, .slice (some ⟨E.w.heap.size, 0, none⟩) n n, E', ?_, .inl rfl, by rw [hmap]; exact hinv, ?_⟩
 ·have hz2 := parts_zip (fun x => a.eval x) ps 0 hseq'
  simp only [execOp, ho, List.map_toArray, hz2, Sem.run_bind, hw']
  rw [← hvl, hrun]
  rfl
 ·simp only [RelV]
  rw [hln] at hval
  exact ⟨rfl, k, n, _, hval, Nat.le_refl _, fun _ => rfl⟩
end
end Go.Tr

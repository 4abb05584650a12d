/-
  Laws of the layer between the model and plain data (states, operations, calls, loops); none has a condition beyond those that stand in its own statement.
-/
import Derived.Test.YtkhneohilohhiaaT12
import Derived.Laws.IdiomStrings
import Derived.Laws.StructEq
set_option linter.unusedSimpArgs false
namespace Go.Tr
open Go

/-! ### bytes to a string -/
def u8s : List (List D) → Option (List Int)
  | [] => some []
  | [.int .u8 n] :: l => match u8s l with
    | some ns => some (n :: ns)
    | none => none
  | _ => none

def strOf (ns : List Int) : ByteArray := ns.foldl (fun r n => r.push (UInt8.ofNat n.toNat)) ByteArray.empty

def u8K (P : Program) (ty : TypeId) : Bool :=
  match P.underlying ty with
  | some (.int .u8) => true
  | _ => false

section
variable {P : Program} {A : Actv}

theorem u8s_cells {E : En} {b k : Nat} : ∀ {xs : List (List D)} {ns : List Int} {o : Nat}, u8s xs = some ns → RepRows E b k o xs → xs.length = ns.length ∧ ∀ j n, ns[j]? = some n → E.w.cell? ⟨b, o + j, none⟩ = some (.int .u8 n)
  | [], ns, o, h, _ => by simp only [u8s, Option.some.injEq] at h; subst h; simp
  | e :: l, ns, o, h, hr => by
    unfold u8s at h
    split at h
    · simp at *
    · rename_i n l' heq
      simp only [List.cons.injEq] at heq
      obtain ⟨rfl, rfl⟩ := heq
      split at h
      · rename_i ns' h'
        simp only [Option.some.injEq] at h; subst h
        simp only [RepRows] at hr
        obtain ⟨h1, h2, h3⟩ := hr
        simp only [List.length_cons, List.length_nil, Nat.zero_add] at h1
        subst h1
        obtain ⟨g1, g2⟩ := u8s_cells h' h3
        refine ⟨by simp [g1], fun j m hj => ?_⟩
        cases j with
        | zero =>
          simp only [List.getElem?_cons_zero, Option.some.injEq] at hj; subst hj
          simp only [RepCells] at h2
          obtain ⟨⟨_, u, h4, h5⟩, _⟩ := h2
          simp only [Rep] at h5; subst h5
          simpa using h4
        | succ j =>
          simp only [List.getElem?_cons_succ] at hj
          have := g2 j m hj
          rwa [show o + 1 + j = o + (j + 1) by omega] at this
      · simp at h
    · simp at h

theorem eff_convS {o : Oper} {t : S} {sr ds e : TypeId} {x : Operand} {xs : List (List D)} {ns : List Int} (ho : o.op = .convert sr ds x) (hs : slE P sr = some e) (he : u8K P e = true) (hd : isStr P ds = true) (hx : ev t x = .d (.sl xs)) (hn : u8s xs = some ns) :
    EffOK P A o t ⟨True, pl x, [], .d (.str (strOf ns))⟩ :=
  .pure fun _ t' hr a E hi => by
    have hx' := ev_rel hi x
    rw [ev_eq hr, hx] at hx'
    unfold slE at hs
    split at hs
    rotate_left
    · simp at hs
    rename_i e' hu
    simp only [Option.some.injEq] at hs; subst hs
    unfold u8K at he
    split at he
    rotate_left
    · simp at he
    rename_i he'
    have hd' : P.underlying ds = some .string := by
      unfold isStr at hd
      split at hd
      · assumption
      · simp at hd
    refine ⟨.string (strOf ns), ?_, by simp only [RelV, Rep]⟩
    simp only [execOp, ho, Sem.run_bind]
    simp only [RelV, Rep] at hx'
    rcases hx' with ⟨h0, ad, c, hux⟩ | ⟨b, of, c, k', hux, hcc, hrows⟩
    · have hxs : xs = [] := List.eq_nil_of_length_eq_zero h0
      subst hxs
      simp only [u8s, Option.some.injEq] at hn; subst hn
      rw [hux, run_convert_bytes_string E.w sr ds e' ad 0 c hu he' hd']
      cases ad with
      | none => simp [Conv.bytesToString, strOf]
      | some a =>
        have hl := run_loadCells_list (P := P) E.w a [] (fun j v hj => by simp at hj)
        rw [run_bytesToString E.w a 0 c [] (by simpa using hl)]
        simp [strOf]
    · obtain ⟨h1, h2⟩ := u8s_cells hn hrows
      rw [hux, run_convert_bytes_string E.w sr ds e' _ _ c hu he' hd']
      have hl := run_loadCells_list (P := P) E.w ⟨b, of, none⟩ (ns.map (Value.int .u8)) (fun j v hj => by
        rw [List.getElem?_map] at hj
        cases hnj : ns[j]? with
        | none => simp [hnj] at hj
        | some n =>
          simp only [hnj, Option.map_some, Option.some.injEq] at hj
          subst hj
          rw [add_lit']
          exact h2 j n hnj)
      rw [List.length_map, ← h1] at hl
      rw [run_bytesToString E.w _ _ c ns hl]
      rfl

/-! ### equality of structures -/
def lf (P : Program) (ty : TypeId) : Option Nat :=
  match P.underlying ty with
  | some (.int _) => some 0
  | some .bool => some 1
  | some .string => some 2
  | _ => none

def eqFs (P : Program) (ty : TypeId) : Option (List (Nat × TypeId)) :=
  match P.underlying ty with
  | some (.struct fs) => if P.stoodInHeld ty = false ∧ (fs.toList.all fun f => f.name != "_") = true then some (fs.toList.map fun f => (f.offset, f.type)) else none
  | _ => none

def eqGd (P : Program) (ty : TypeId) : Bool := !P.eqGuardType P.depth ty

def eqL (g : Nat × TypeId → Option Bool) : List (Nat × TypeId) → Option Bool
  | [] => some true
  | f :: l => match g f, eqL g l with
    | some a, some b => some (a && b)
    | _, _ => none

def eqT (P : Program) : Nat → TypeId → TV → TV → Option Bool
  | 0, _, _, _ => none
  | d + 1, ty, x, y => match x, y with
    | .d (.int k a), .d (.int k' b) => if lf P ty = some 0 ∧ k = k' then some (a == b) else none
    | .d (.bool a), .d (.bool b) => if lf P ty = some 1 then some (a == b) else none
    | .d (.str a), .d (.str b) => if lf P ty = some 2 then some (a.toList == b.toList) else none
    | .agg vs, .agg ws => match eqFs P ty with
      | some fs => eqL (fun f => match partT P f.2 vs f.1, partT P f.2 ws f.1 with
        | some a, some b => eqT P d f.2 a b
        | _, _ => none) fs
      | none => none
    | _, _ => none

theorem lf_spec {ty : TypeId} : (lf P ty = some 0 → ∃ k, P.underlying ty = some (.int k)) ∧ (lf P ty = some 1 → P.underlying ty = some .bool) ∧ (lf P ty = some 2 → P.underlying ty = some .string) := by
  unfold lf
  split
  · rename_i k h; exact ⟨fun _ => ⟨k, h⟩, fun e => by simp at e, fun e => by simp at e⟩
  · rename_i h; exact ⟨fun e => by simp at e, fun _ => h, fun e => by simp at e⟩
  · rename_i h; exact ⟨fun e => by simp at e, fun e => by simp at e, fun _ => h⟩
  · exact ⟨fun e => by simp at e, fun e => by simp at e, fun e => by simp at e⟩

theorem eqT_ok : ∀ {d : Nat} {ty : TypeId} {x y : TV} {r : Bool}, eqT P d ty x y = some r → ∀ {E : En} {u u' : Value}, RelV E x u → RelV E y u' → ∀ D, d ≤ D → (Op.equalIn D ty u u').run P E.w = .ok r E.w
  | 0, _, _, _, _, h, _, _, _, _, _, _, _ => by simp [eqT] at h
  | d + 1, ty, x, y, r, h, E, u, u', hu, hu', D, hD => by
    obtain ⟨D, rfl⟩ : ∃ D', D = D' + 1 := ⟨D - 1, by omega⟩
    unfold eqT at h
    split at h
    · split at h
      · rename_i k a k' b hc
        simp only [Option.some.injEq] at h; subst h
        obtain ⟨h1, rfl⟩ := hc
        obtain ⟨q, hq⟩ := lf_spec.1 h1
        simp only [RelV, Rep] at hu hu'
        subst hu; subst hu'
        exact run_equalIn_int E.w D ty k q a b hq
      · simp at h
    · split at h
      · rename_i hc
        simp only [Option.some.injEq] at h; subst h
        simp only [RelV, Rep] at hu hu'
        subst hu; subst hu'
        exact run_equalIn_bool' E.w D ty _ _ (lf_spec.2.1 hc)
      · simp at h
    · split at h
      · rename_i hc
        simp only [Option.some.injEq] at h; subst h
        simp only [RelV, Rep] at hu hu'
        subst hu; subst hu'
        exact run_equalIn_string E.w D ty _ _ (lf_spec.2.2 hc)
      · simp at h
    · rename_i vs ws
      split at h
      · rename_i fs hfs
        simp only [RelV] at hu hu'
        obtain ⟨us, rfl, hus⟩ := hu
        obtain ⟨us', rfl, hus'⟩ := hu'
        unfold eqFs at hfs
        split at hfs
        · rename_i fs0 hund
          split at hfs
          · rename_i hc
            simp only [Option.some.injEq] at hfs; subst hfs
            have hfo : P.fieldsOf ty = fs0 := by simp [Program.fieldsOf, hund]
            rw [run_equalIn_agg E.w D ty us us' (by rw [hfo]; exact hund) hc.1, hfo]
            have hnm := hc.2
            clear hund hc hfo
            generalize fs0.toList = l at hnm h
            induction l generalizing r with
            | nil => simp only [List.map_nil, eqL, Option.some.injEq] at h; subst h; simp [Op.eqFields]
            | cons f l ih =>
              simp only [List.all_cons, Bool.and_eq_true, bne_iff_ne, ne_eq] at hnm
              simp only [List.map_cons, eqL] at h
              split at h
              · rename_i a b h1 h2
                simp only [Option.some.injEq] at h; subst h
                split at h1
                · rename_i p q hp hq
                  obtain ⟨v, g1, g2⟩ := partT_rel hp hus
                  obtain ⟨v', g3, g4⟩ := partT_rel hq hus'
                  have g5 := eqT_ok h1 g2 g4 D (by omega)
                  have g6 := ih _ hnm.2 h2
                  cases a
                  · simp [Op.eqFields, hnm.1, g1, g3, g5]
                  · simp [Op.eqFields, hnm.1, g1, g3, g5, g6]
                · simp at h1
              · simp at h
          · simp at hfs
        · simp at hfs
      · simp at h
    · simp at h

theorem eff_eqs {o : Oper} {t : S} {op : BinOp} {ty ty' : TypeId} {x y : Operand} {vs ws : List TV} {r : Bool} (ho : o.op = .binOp op ty x y ty') (hop : op = .eql ∨ op = .neq) (hg : eqGd P ty = true) (hx : ev t x = .agg vs) (hy : ev t y = .agg ws) (h : eqT P 4 ty (.agg vs) (.agg ws) = some r) :
    EffOK P A o t ⟨True, pl x ++ pl y, [], .d (.bool (if op = .eql then r else !r))⟩ :=
  .pure fun _ t' hr a E hi => by
    have hx' := ev_rel hi x
    rw [ev_eq (pl_left hr), hx] at hx'
    have hy' := ev_rel hi y
    rw [ev_eq (pl_right hr), hy] at hy'
    have hq := eqT_ok h hx' hy' 10000 (by omega)
    simp only [RelV] at hx' hy'
    obtain ⟨us, hux, hus⟩ := hx'
    obtain ⟨us', huy, hus'⟩ := hy'
    rw [hux, huy] at hq
    have hgd : P.eqGuardType P.depth ty = false := by simpa [eqGd] using hg
    rcases hop with rfl | rfl
    · refine ⟨.bool r, ?_, by simp only [if_true, RelV, Rep]⟩
      simp only [execOp, ho, Sem.run_bind, hux, huy, run_eqGuard_agg E.w _ ty x y us us' hgd, Result.andThen_ok, run_eql_struct, hq, Sem.run_pure]
    · refine ⟨.bool (!r), ?_, by simp [RelV, Rep]⟩
      simp only [execOp, ho, Sem.run_bind, hux, huy, run_eqGuard_agg E.w _ ty x y us us' hgd, Result.andThen_ok, run_neq_struct, hq, Sem.run_pure]
end
end Go.Tr

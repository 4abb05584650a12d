/-
  What functions of the program compute, stated as contracts over plain data; the conditions of each stand in its own statement.
-/
import Derived.Test.YtjgeggdefiejbaaGreatDoorM16
import Derived.Test.YtjgeggdefiejbaaGreatDoorM28
import Derived.Test.YtjgeggdefiejbaaGreatDoorM07
import Derived.Test.YtjgeggdefiejbaaGreatDoorM32
set_option linter.unusedSimpArgs false
set_option maxRecDepth 100000
set_option maxHeartbeats 4000000
namespace Go.Proofs
open Go Go.Tr
def cm (acc : List (List Int × Int)) : List (List Int × TV) := acc.map fun x => (x.1, .d (.int .i64 x.2))
def cntI : List (List Int × Int) → List Int → Int
 | [], _ => 0
 | (a, n) :: es, k => if k = a then n else cntI es k
def incK : List (List Int × Int) → List Int → List (List Int × Int)
 | [], k => [(k, 1)]
 | (a, n) :: es, k => if k = a then (k, n + 1) :: es else (a, n) :: incK es k
theorem lk_cm : ∀ (acc : List (List Int × Int)) (k : List Int), lkK false (kget (cm acc) k) (TV.d (D.int .i64 0)) = TV.d (D.int .i64 (cntI acc k))
 | [], k => rfl
 | (a, n) :: es, k => by
   have ih := lk_cm es k
   simp only [cm, List.map_cons, kget, cntI] at ih ⊢
   by_cases h : k = a
   ·simp [h, lkK]
   ·rw [if_neg h, if_neg h]; exact ih
theorem kput_kput : ∀ (es : List (List Int × TV)) (k : List Int) (v w : TV), kput (kput es k v) k w = kput es k w
 | [], k, v, w => by simp [kput]
 | (a, x) :: es, k, v, w => by
   have ih := kput_kput es k v w
   simp only [kput]
   by_cases h : k = a
   ·simp [h, kput]
   ·rw [if_neg h, if_neg h]; simp only [kput]; rw [if_neg h, ih]
theorem kput_cm : ∀ (acc : List (List Int × Int)) (k : List Int), kput (cm acc) k (TV.d (D.int .i64 (cntI acc k + 1))) = cm (incK acc k)
 | [], k => rfl
 | (a, n) :: es, k => by
   have ih := kput_cm es k
   simp only [cm, List.map_cons, kput, cntI, incK] at ih ⊢
   by_cases h : k = a
   ·simp [h]
   ·rw [if_neg h, if_neg h, if_neg h, ih]; rfl
theorem klen_cm {n : Nat} {acc : List (List Int × Int)} (h : ∀ x ∈ acc, x.1.length = n) : klen n (cm acc) := fun y hy => by
 simp only [cm, List.mem_map] at hy
 obtain ⟨x, hx, rfl⟩ := hy
 exact h x hx
theorem cm_keys (acc : List (List Int × Int)) : (cm acc).map (·.1) = acc.map (·.1) := by simp [cm]
theorem incK_mem : ∀ {acc : List (List Int × Int)} {k : List Int} {x : List Int × Int}, x ∈ incK acc k → x ∈ acc ∨ x.1 = k
 | [], k, x, h => by simp [incK] at h; exact .inr (by rw [h])
 | (a, n) :: es, k, x, h => by
   simp only [incK] at h
   split at h
   ·rcases List.mem_cons.1 h with rfl | h
    ·exact .inr rfl
    ·exact .inl (List.mem_cons_of_mem _ h)
   ·rcases List.mem_cons.1 h with rfl | h
    ·exact .inl List.mem_cons_self
    ·rcases incK_mem h with h | h
     ·exact .inl (List.mem_cons_of_mem _ h)
     ·exact .inr h
theorem incK_keys : ∀ {acc : List (List Int × Int)} (k : List Int), (acc.map (·.1)).Nodup → ((incK acc k).map (·.1)).Nodup
 | [], k, _ => by simp [incK]
 | (a, n) :: es, k, h => by
   simp only [List.map_cons, List.nodup_cons] at h
   simp only [incK]
   split
   ·rename_i e; subst e
    simp only [List.map_cons, List.nodup_cons]; exact h
   ·rename_i e
    simp only [List.map_cons, List.nodup_cons]
    refine ⟨fun hm => ?_, incK_keys k h.2⟩
    obtain ⟨x, hx, hxa⟩ := List.mem_map.1 hm
    rcases incK_mem hx with hx | hx
    ·exact h.1 (List.mem_map.2 ⟨x, hx, hxa⟩)
    ·exact e (hx.symm.trans hxa)
theorem incK_len : ∀ (acc : List (List Int × Int)) (k : List Int), (incK acc k).length ≤ acc.length + 1
 | [], k => by simp [incK]
 | (a, n) :: es, k => by
   have := incK_len es k
   simp only [incK]; split <;> simp <;> omega
theorem cntI_le : ∀ {acc : List (List Int × Int)} {m : Int} (_ : ∀ x ∈ acc, 1 ≤ x.2 ∧ x.2 ≤ m) (_ : 0 ≤ m) (k : List Int), 0 ≤ cntI acc k ∧ cntI acc k ≤ m
 | [], m, _, hm, k => by simp [cntI]; omega
 | (a, n) :: es, m, h, hm, k => by
   simp only [cntI]
   split
   ·have := h (a, n) (by simp); omega
   ·exact cntI_le (fun x hx => h x (List.mem_cons_of_mem _ hx)) hm k
theorem incK_le : ∀ {acc : List (List Int × Int)} {m : Int} (_ : ∀ x ∈ acc, 1 ≤ x.2 ∧ x.2 ≤ m) (_ : 0 ≤ m) (k : List Int), ∀ x ∈ incK acc k, 1 ≤ x.2 ∧ x.2 ≤ m + 1
 | [], m, _, hm, k => by simp [incK]; omega
 | (a, n) :: es, m, h, hm, k => by
   intro x hx
   simp only [incK] at hx
   split at hx
   ·rcases List.mem_cons.1 hx with rfl | hx
    ·have := h (a, n) (by simp); simp at this ⊢; omega
    ·have := h x (List.mem_cons_of_mem _ hx); omega
   ·rcases List.mem_cons.1 hx with rfl | hx
    ·have := h (a, n) (by simp); simp at this ⊢; omega
    ·exact incK_le (fun x hx => h x (List.mem_cons_of_mem _ hx)) hm k x hx
structure AccOK (acc : List (List Int × Int)) (m : Nat) : Prop where
 two : ∀ x ∈ acc, x.1.length = 2
 nd : (acc.map (·.1)).Nodup
 le : ∀ x ∈ acc, 1 ≤ x.2 ∧ x.2 ≤ m
 len : acc.length ≤ m
theorem AccOK.nil : AccOK [] 0 := ⟨by simp, by simp, by simp, by simp⟩
theorem AccOK.mono {acc : List (List Int × Int)} {m n : Nat} (h : AccOK acc m) (hn : m ≤ n) : AccOK acc n := ⟨h.two, h.nd, fun x hx => by have := h.le x hx; omega, by have := h.len; omega⟩
theorem AccOK.inc {acc : List (List Int × Int)} {m : Nat} (h : AccOK acc m) (a b : Int) : AccOK (incK acc [a, b]) (m + 1) :=
 ⟨fun x hx => by rcases incK_mem hx with hx | hx; exact h.two x hx; rw [hx]; rfl, incK_keys _ h.nd, fun x hx => by
  have := incK_le h.le (by omega) [a, b] x hx
  push_cast; exact this, by have := incK_len acc [a, b]; have := h.len; omega⟩
def crK (c : Int × Int × BitVec 64) : List Int := [c.1, c.2.1]
def addH (acc : List (List Int × Int)) (cr : List (Int × Int × BitVec 64)) : List (List Int × Int) := cr.foldl (fun a c => incK a (crK c)) acc
theorem addH_ok : ∀ (cr : List (Int × Int × BitVec 64)) {acc : List (List Int × Int)} {m : Nat}, AccOK acc m → AccOK (addH acc cr) (m + cr.length)
 | [], acc, m, h => by simpa [addH] using h
 | c :: cr, acc, m, h => by
   have := addH_ok cr (h.inc c.1 c.2.1)
   simp only [List.length_cons]
   rw [show m + (cr.length + 1) = m + 1 + cr.length by omega]
   exact this
theorem addH_take {cr : List (Int × Int × BitVec 64)} {j : Nat} {c : Int × Int × BitVec 64} (h : cr[j]? = some c) (acc : List (List Int × Int)) : addH acc (cr.take (j + 1)) = incK (addH acc (cr.take j)) [c.1, c.2.1] := by
 unfold addH
 rw [List.take_add_one, h]; simp [crK]
def entP (p : Pk) (k : Int) : Pk := ⟨p.mode, p.subd, p.set, p.len, p.ttl, k, p.ing, p.proto, p.bits, p.pay⟩
def lgo (l : List Tb) (r : Int) (p : Pk) : Nat → Nat → List (List Int × Int) → List (List Int × Int) × Int
 | 0, _, acc => (acc, 0)
 | n + 1, k, acc => if (runR l (entP p k) r).2 = 0 then lgo l r p n (k + 1) (addH acc (runR l (entP p k) r).1.cr) else ([], (runR l (entP p k) r).2)
def leL (x y : List Int) : Bool := !decide (cfL y x < 0)
def ldR (acc : List (List Int × Int)) : List (List Int) := (acc.map fun x => x.1 ++ [x.2]).mergeSort leL
def loadsR (l : List Tb) (r : Int) (p : Pk) : List (List Int) × Int :=
 if (lgo l r p 8 0 []).2 = 0 then (ldR (lgo l r p 8 0 []).1, 0) else ([], (lgo l r p 8 0 []).2)
theorem leL_iff (x y : List Int) : leL x y = true ↔ ¬ (y.getD 0 0 < x.getD 0 0 ∨ y.getD 0 0 = x.getD 0 0 ∧ y.getD 1 0 < x.getD 1 0) := by
 unfold leL; rw [← cfL_lt]; simp
theorem leL_sorted (zs : List (List Int)) : (zs.mergeSort leL).Pairwise (fun a b => leL a b = true) :=
 List.pairwise_mergeSort (fun a b c => by rw [leL_iff, leL_iff, leL_iff]; omega) (fun a b => by rw [Bool.or_eq_true, leL_iff, leL_iff]; omega) zs
theorem sort_leL {zs ys : List (List Int)} (h : zs.Perm ys) (hu : ∀ x ∈ zs, ∀ y ∈ zs, x.getD 0 0 = y.getD 0 0 → x.getD 1 0 = y.getD 1 0 → x = y) : zs.mergeSort leL = ys.mergeSort leL := by
 refine List.Perm.eq_of_pairwise ?_ (leL_sorted zs) (leL_sorted ys) (((List.mergeSort_perm zs leL).trans h).trans (List.mergeSort_perm ys leL).symm)
 intro a b ha hb h1 h2
 rw [leL_iff] at h1 h2
 exact hu a ((List.mergeSort_perm zs leL).mem_iff.1 ha) b (h.mem_iff.2 ((List.mergeSort_perm ys leL).mem_iff.1 hb)) (by omega) (by omega)
def rowK (x : List Int × Int) : List Int := x.1 ++ [x.2]
theorem row_one {acc : List (List Int × Int)} {m : Nat} (h : AccOK acc m) : ∀ x ∈ acc.map rowK, ∀ y ∈ acc.map rowK, x.getD 0 0 = y.getD 0 0 → x.getD 1 0 = y.getD 1 0 → x = y := by
 intro x hx y hy h0 h1
 obtain ⟨⟨a, n⟩, ha, rfl⟩ := List.mem_map.1 hx
 obtain ⟨⟨b, m'⟩, hb, rfl⟩ := List.mem_map.1 hy
 have la := h.two _ ha
 have lb := h.two _ hb
 match a, b, la, lb with
 | [a0, a1], [b0, b1], _, _ =>
   simp [rowK] at h0 h1
   subst h0 h1
   have := h.nd
   have hp : ∀ {l : List (List Int × Int)}, (l.map (·.1)).Nodup → ∀ {k : List Int} {u v : Int}, (k, u) ∈ l → (k, v) ∈ l → u = v := by
    intro l
    induction l with
    | nil => intro _ k u v h; simp at h
    | cons z l ih =>
      intro hn k u v h1 h2
      simp only [List.map_cons, List.nodup_cons] at hn
      rcases List.mem_cons.1 h1 with e1 | h1 <;> rcases List.mem_cons.1 h2 with e2 | h2
      ·rw [← e1] at e2; exact (Prod.mk.inj e2).2.symm
      ·exact absurd (List.mem_map.2 ⟨_, h2, by rw [← e1]⟩) hn.1
      ·exact absurd (List.mem_map.2 ⟨_, h1, by rw [← e2]⟩) hn.1
      ·exact ih hn.2 h1 h2
   rw [hp this ha hb]
end Go.Proofs

set_option linter.unusedSimpArgs false
namespace Go.Tr
open Go
def strikeS (p : Pl) (i : Nat) (L : List (List Pl × List Pl)) : List (List Pl × List Pl) := L.modify i fun x => (x.1.filter (fun q => decide (q ≠ p)), x.2)
def strikeL (p : Pl) (i : Nat) (L : Log) : Log := L.modify i fun x => (x.1.filter (fun q => decide (q ≠ p)), x.2)
theorem strikeL_get (p : Pl) (i : Nat) (L : Log) (k : Nat) : ((strikeL p i L)[k]?).map (·.2) = (L[k]?).map (·.2) := by
 unfold strikeL
 rw [List.getElem?_modify]
 cases L[k]? with
 | none => rfl
 | some x => by_cases e : i = k <;> simp [e]
theorem part_strike (p : Pl) (i : Nat) (L : Log) (X : Nat → Bool) (t : S) : ∀ k, part (strikeL p i L) X t k = part L X t k
 | 0 => rfl
 | k + 1 => by
   have ih := part_strike p i L X t k
   have hg := strikeL_get p i L k
   rw [part, part, ih]
   cases h1 : (strikeL p i L)[k]? with
   | none => cases h2 : L[k]? with
     | none => rfl
     | some y => rw [h1, h2] at hg; simp at hg
   | some x => cases h2 : L[k]? with
     | none => rw [h1, h2] at hg; simp at hg
     | some y =>
       rw [h1, h2] at hg
       simp only [Option.map_some, Option.some.injEq] at hg
       obtain ⟨x1, x2⟩ := x
       obtain ⟨y1, y2⟩ := y
       simp only at hg
       subst hg
       rfl
theorem drawOKs_map {ops : Array Oper} (L : Log) : drawOKs ops (L.map fun x => (x.1, x.2.map (·.1))) = drawOK ops L := by
 have := drawOKs_eq (ops := ops) L.reverse
 rw [shapes_eq, List.reverse_reverse, List.append_nil] at this
 exact this
theorem strike_map (p : Pl) (i : Nat) (L : Log) : strikeS p i (L.map fun x => (x.1, x.2.map (·.1))) = (strikeL p i L).map fun x => (x.1, x.2.map (·.1)) := by
 apply List.ext_getElem?
 intro k
 unfold strikeS strikeL
 rw [List.getElem?_modify, List.getElem?_map, List.getElem?_map, List.getElem?_modify]
 cases L[k]? with
 | none => rfl
 | some x => by_cases e : i = k <;> simp [e]
section
variable {P : Program} {A : Actv} {ops : Array Oper} {ow : List Nat}
theorem region_tol {Q : Exit → Act → World → Prop} {id : Nat} {t t' : S} {L : Log} {i0 : Nat} {p0 : Pl} {rp0 : List Pl} {W0 : List (Pl × It)} (alt : It) (hm : P.follows .mixedOrders = true) (c : Chain P A ops 0 t L t') (hl : L.length = ops.size) (hd : drawOK ops (strikeL p0 i0 L) = true) (hr0 : L[i0]? = some (rp0, W0)) (halt : Sum P A ops i0 (upd (part L (fun _ => true) t i0) p0 alt) rp0 W0)
  (hreach : ∀ X, DownClosed ops X → X i0 = false → part L X t ops.size p0 = part L (fun _ => true) t i0 p0 ∨ part L X t ops.size p0 = alt)
  (hQ : ∀ a w, Inv A t' a w → Q .normal a w) (a : Act) (w : World) (hi : Inv A t a w) : (Code.region id ops true).wp P Q a w := by
 have hD := drawOK_spec hd
 obtain ⟨hs, ht'⟩ := c.sums
 rw [hl] at ht'
 have key : ∀ (fuel : Nat) (listed : Array Bool), listed.size = ops.size → DownClosed ops (fun i => listed.getD i false) → todo (fun i => listed.getD i false) ops.size ≤ fuel →
   ∀ a w, Inv A (part L (fun i => listed.getD i false) t ops.size) a w → wpAny P .any ops Q fuel listed a w := by
  intro fuel
  have full : ∀ (listed : Array Bool), (∀ k, k < ops.size → listed.getD k false = true) → ∀ m, m ≤ ops.size → part L (fun i => listed.getD i false) t m = part L (fun _ => true) t m := by
   intro listed h m
   induction m with
   | zero => intro _; rfl
   | succ m ih =>
     intro hm
     have h1 := h m (by omega)
     have h2 := ih (by omega)
     simp only [part, h1, if_true, h2]
  have last : ∀ (listed : Array Bool), listed.size = ops.size → Region.ready .any ops listed = [] → ∀ k, k < ops.size → listed.getD k false = true := by
   intro listed hsz hr k
   induction k using Nat.strongRecOn with
   | _ k ih =>
     intro hk
     rcases hx : listed.getD k false with _ | _
     ·exfalso
      have hmem : k ∈ Region.ready .any ops listed := by
       unfold Region.ready
       rw [List.mem_filter]
       refine ⟨by simpa using hk, ?_⟩
       have ho : ops[k]? = some ops[k] := Array.getElem?_eq_getElem hk
       have hk' : k < listed.size := by omega
       have hx' : listed[k] = false := by simpa [Array.getD, hk'] using hx
       simp only [ho, Option.map_some, Option.getD_some, Bool.and_eq_true, Array.all_eq_true_iff_forall_mem, Bool.or_eq_true, Bool.not_eq_true']
       refine ⟨by simp [Array.getD, hk', hx'], fun e he => ?_⟩
       rcases hb : Region.binds .any e with _ | _
       ·exact .inl rfl
       ·have hlt := hD.lt k _ ho e he hb
        exact .inr (ih e.on hlt (by omega))
      rw [hr] at hmem; simp at hmem
     ·rfl
  induction fuel with
  | zero =>
    intro listed hsz hdc hle a w hi
    have hall := todo_zero (X := fun i => listed.getD i false) (n := ops.size) (by omega)
    refine ⟨?_, ?_⟩
    ·unfold Region.ready
     rw [List.filter_eq_nil_iff]
     intro k hk
     have hk' : k < ops.size := by simpa using hk
     have := hall k hk'
     have hkl : k < listed.size := by omega
     simp [Array.getD, hkl] at this ⊢
     simp [this]
    ·rw [full listed hall _ (Nat.le_refl _)] at hi
     exact hQ a w (ht' ▸ hi)
  | succ fuel ih =>
    intro listed hsz hdc hle a w hi
    refine ⟨fun hr => ?_, fun i hir => ?_⟩
    ·rw [full listed (last listed hsz hr) _ (Nat.le_refl _)] at hi
     exact hQ a w (ht' ▸ hi)
    ·unfold Region.ready at hir
     rw [List.mem_filter] at hir
     obtain ⟨h1, h2⟩ := hir
     have hin : i < ops.size := by simpa using h1
     have ho : ops[i]? = some ops[i] := Array.getElem?_eq_getElem hin
     have hil : i < listed.size := by omega
     simp only [ho, Option.map_some, Option.getD_some, Bool.and_eq_true, Array.all_eq_true_iff_forall_mem, Bool.or_eq_true, Bool.not_eq_true'] at h2
     obtain ⟨h3, h4⟩ := h2
     have hxi : listed.getD i false = false := by simpa [Array.getD, hil] using h3
     have hready : ∀ e ∈ (ops[i]).after, Region.binds .any e = true → (fun i => listed.getD i false) e.on = true := fun e he hb => by
      rcases h4 e he with h5 | h5
      ·rw [hb] at h5; simp at h5
      ·exact h5
     have hLi : i < L.length := by omega
     have hLg : L[i]? = some (L[i].1, L[i].2) := List.getElem?_eq_getElem hLi
     have hsum := hs i _ _ hLg
     rw [Nat.zero_add] at hsum
     have hLm : (strikeL p0 i0 L)[i]? = some (if i = i0 then L[i].1.filter (fun q => decide (q ≠ p0)) else L[i].1, L[i].2) := by
      unfold strikeL
      rw [List.getElem?_modify, hLg]
      by_cases e : i0 = i
      ·simp [e]
      ·simp [e, show ¬ i = i0 from fun h => e h.symm]
     have hrd : ∀ q, q ∈ L[i].1 → (i = i0 → q ≠ p0) → part L (fun i => listed.getD i false) t ops.size q = part L (fun _ => true) t i q := fun q hq hne => by
      obtain ⟨g1, g2⟩ := part_reads (t := t) hD hdc ho hready hxi hLm (p := q) (.inl (by
       split
       ·rename_i e
        simp only [List.mem_filter, decide_eq_true_eq]
        exact ⟨hq, hne e⟩
       ·exact hq))
      simp only [part_strike] at g1 g2
      rw [g2 ops.size (by omega) (Nat.le_refl _), g1 i (Nat.le_refl _)]
     have hsum' : ∀ (K : Act → World → Prop) (Q' : Exit → Act → World → Prop), (∀ a' w', Inv A (over (part L (fun i => listed.getD i false) t ops.size) L[i].2) a' w' → K a' w') → wpOp P ops Q' i K a w := by
      intro K Q' hK
      by_cases e : i = i0
      ·subst e
       rcases hreach _ hdc hxi with h | h
       ·refine hsum _ (fun q hq => ?_) a w hi K Q' hK
        by_cases eq : q = p0
        ·rw [eq]; exact h
        ·exact hrd q hq fun _ => eq
       ·rw [hLg] at hr0
        obtain ⟨rfl, rfl⟩ := Prod.mk.inj (Option.some.inj hr0)
        refine halt _ (fun q hq => ?_) a w hi K Q' hK
        unfold upd
        by_cases eq : q = p0
        ·rw [if_pos eq, eq]; exact h
        ·rw [if_neg eq]; exact hrd q hq fun _ => eq
      ·exact hsum _ (fun q hq => hrd q hq fun h => absurd h e) a w hi K Q' hK
     refine hsum' _ Q fun a' w' hi' => ?_
     ·have hnx := part_next (t := t) hD hdc hin hxi hLm ops.size (Nat.le_refl _)
      simp only [part_strike] at hnx
      have hset : (fun j => (listed.setIfInBounds i true).getD j false) = fun j => if j = i then true else listed.getD j false := by
       funext j
       by_cases e : j = i
       ·subst e; simp [Array.getD, hil]
       ·by_cases hj : j < listed.size
        ·simp [Array.getD, hj, e, Array.getElem_setIfInBounds, show ¬ i = j from fun h => e h.symm]
        ·simp [Array.getD, hj, e]
      refine ih (listed.setIfInBounds i true) (by simpa using hsz) ?_ ?_ a' w' ?_
      ·rw [hset]
       intro j o' ho' hxj e he hb
       by_cases ej : j = i
       ·subst ej
        rw [ho] at ho'; simp only [Option.some.injEq] at ho'; subst ho'
        have := hready e he hb
        by_cases ee : e.on = j
        ·simp [ee]
        ·simpa [ee] using this
       ·simp only [ej, if_false] at hxj
        have := hdc j o' ho' hxj e he hb
        by_cases ee : e.on = i
        ·simp [ee]
        ·simpa [ee] using this
      ·rw [hset]
       have := (todo_set (X := fun i => listed.getD i false) hxi (n := ops.size)).2 hin
       omega
      ·rw [hset, hnx, if_pos hin]
       exact hi'
 refine wp_region_any hm ?_
 have hinit : (fun i => (Array.replicate ops.size false).getD i false) = fun _ => false := by
  funext i
  by_cases h : i < ops.size <;> simp [Array.getD, h]
 refine key ops.size (Array.replicate ops.size false) (by simp) ?_ ?_ a _ ?_
 ·rw [hinit]; intro j o _ hx; simp at hx
 ·rw [hinit]
  have : ∀ n, todo (fun _ => false) n = n := fun n => by induction n with
   | zero => rfl
   | succ n ih => simp [todo, ih]
  rw [this]; exact Nat.le_refl _
 ·rw [hinit]
  have : ∀ n, part L (fun _ => false) t n = t := fun n => by induction n with
   | zero => rfl
   | succ n ih => rw [part]; simpa using ih
  rw [this]
  obtain ⟨E, hw, hE⟩ := hi
  subst hw
  let E' : En := { E with w := { E.w with drawn := E.w.drawn + 1 } }
  have x : ExtA E E' := ⟨fun _ _ h => h, fun _ _ _ => rfl, fun _ _ _ h => h, fun _ _ h => h, fun _ _ h => h, fun _ _ c v _ h => ⟨c, v, h, Nat.le_refl _, fun _ => rfl⟩⟩
  exact ⟨E', rfl, hE.step (hE.h.more x rfl rfl (Nat.le_refl _) (fun _ _ => rfl) (fun b o h => .inl h)) x
   (hE.fr.next rfl rfl rfl (Nat.le_refl _) (fun _ _ _ _ => rfl) (fun _ => rfl) (fun _ _ h => .inl h) (fun _ _ h => h) (fun _ _ h => .inl h)) (fun _ => rfl)⟩
def tolB (ops : Array Oper) (L : List (List Pl × List Pl)) (i0 j0 : Nat) (p : Pl) : Bool :=
 drawF ops (strikeS p i0 L) && (decide (i0 < ops.size) && (!((L.getD i0 ([], [])).2.contains p) &&
  (List.range ops.size).all fun k => !((L.getD k ([], [])).2.contains p) || ((k == j0 && decide (i0 < j0)) || (decide (i0 < k) && ((ancs ops.toList []).getD k []).contains i0))))
theorem reach_of {L : Log} {t : S} {i0 j0 : Nat} {p : Pl} (hD : DOK ops (strikeL p i0 L) (fun j => (ancs ops.toList []).getD j [])) (hl : L.length = ops.size)
  (hk : ∀ k, k < ops.size → p ∈ (L.getD k ([], [])).2.map (·.1) → (k = j0 ∧ i0 < j0) ∨ (i0 < k ∧ i0 ∈ (ancs ops.toList []).getD k [])) (h0 : i0 < ops.size)
  (X : Nat → Bool) (hx : DownClosed ops X) (hxi : X i0 = false) : part L X t ops.size p = part L (fun _ => true) t i0 p ∨ part L X t ops.size p = over t (L.getD j0 ([], [])).2 p := by
 have hpre : ∀ k, k ≤ i0 → part L (fun _ => true) t k p = t p := by
  intro k
  induction k with
  | zero => intro _; rfl
  | succ k ih =>
    intro hle
    rw [part_step L _ t k fun _ hp => ?_]
    ·exact ih (by omega)
    ·rcases hk k (by omega) hp with h | h <;> omega
 rw [hpre i0 (Nat.le_refl _)]
 have key : ∀ m, m ≤ ops.size → part L X t m p = t p ∨ part L X t m p = over t (L.getD j0 ([], [])).2 p := by
  intro m
  induction m with
  | zero => intro _; exact .inl rfl
  | succ m ih =>
    intro hm
    by_cases hp : X m = true ∧ p ∈ (L.getD m ([], [])).2.map (·.1)
    ·rcases hk m (by omega) hp.2 with h | h
     ·obtain ⟨rfl, _⟩ := h
      refine .inr ?_
      rw [part, hp.1]
      simp only [if_true]
      have hg : L[m]? = some (L.getD m ([], [])) := by
       rw [List.getD_eq_getElem?_getD, List.getElem?_eq_getElem (by omega : m < L.length)]; rfl
      rw [hg]
      exact over_same hp.2
     ·exfalso
      have := hx.anc hD m (by omega) hp.1 i0 h.2
      rw [hxi] at this; simp at this
    ·rw [part_step L X t m fun hxm hpm => hp ⟨hxm, hpm⟩]
     exact ih (by omega)
 exact key _ (Nat.le_refl _)
structure ADrawT (P : Program) (A : Actv) (ow : List Nat) (ops : Array Oper) (L : Log) (t : S) : Prop where
 ok : drawF ops (shapes L []) = true ∨ ∃ (i0 j0 : Nat) (p : Pl), tolB ops (shapes L []) i0 j0 p = true ∧
  Sum P A ops i0 (upd (part L.reverse (fun _ => true) t i0) p (over t (L.reverse.getD j0 ([], [])).2 p)) (L.reverse.getD i0 ([], [])).1 (L.reverse.getD i0 ([], [])).2
theorem region_drawT {Q : Exit → Act → World → Prop} {id : Nat} {t t' : S} {L : Log} (hm : P.follows .mixedOrders = true) (c : Chain P A ops 0 t L t') (hl : L.length = ops.size) (hd : ADrawT P A ow ops L.reverse t)
  (hQ : ∀ a w, Inv A t' a w → Q .normal a w) (a : Act) (w : World) (hi : Inv A t a w) : (Code.region id ops true).wp P Q a w := by
 rcases hd.ok with h | ⟨i0, j0, p, h1, h2⟩
 ·have h7 := drawF_ok h
  rw [drawOKs_eq, List.reverse_reverse] at h7
  exact region_draw hm c hl h7 hQ a w hi
 ·rw [List.reverse_reverse] at h2
  unfold tolB at h1
  rw [shapes_eq, List.reverse_reverse, List.append_nil] at h1
  simp only [Bool.and_eq_true, decide_eq_true_eq, Bool.not_eq_true', List.all_eq_true, Bool.or_eq_true, beq_iff_eq, List.mem_range] at h1
  obtain ⟨k1, k2, k3, k4⟩ := h1
  have k5 := drawF_ok k1
  rw [strike_map, drawOKs_map] at k5
  have hgd : ∀ k, ((L.map fun x => (x.1, x.2.map (·.1))).getD k ([], [])).2 = (L.getD k ([], [])).2.map (·.1) := fun k => by
   rw [List.getD_eq_getElem?_getD, List.getElem?_map, List.getD_eq_getElem?_getD]
   cases L[k]? <;> rfl
  have hg0 : L[i0]? = some ((L.getD i0 ([], [])).1, (L.getD i0 ([], [])).2) := by
   rw [List.getD_eq_getElem?_getD, List.getElem?_eq_getElem (by omega : i0 < L.length)]; rfl
  refine region_tol (over t (L.getD j0 ([], [])).2 p) hm c hl k5 hg0 h2 (fun X hx hxi => reach_of (drawOK_spec k5) hl (fun k hk hp => ?_) k2 X hx hxi) hQ a w hi
  have := k4 k hk
  rw [hgd] at this
  rcases this with (h | h)
  ·rw [List.contains_eq_mem, decide_eq_false_iff_not] at h
   exact absurd hp h
  ·rcases h with h | h
   ·exact .inl h
   ·exact .inr ⟨h.1, by simpa using h.2⟩
end
end Go.Tr

set_option linter.unusedSimpArgs false
namespace Go.Tr
open Go
def AEndT (P : Program) (A : Actv) (ow : List Nat) (ops : Array Oper) (L : Log) (t : S) (X : Prop) : Bool → Prop
 | true => X ∧ (P.follows .mixedOrders = true ∧ ADrawT P A ow ops L t)
 | false => X
theorem AEndT_true {P : Program} {A : Actv} {ow : List Nat} {ops : Array Oper} {L : Log} {t : S} {X : Prop} : AEndT P A ow ops L t X true = (X ∧ (P.follows .mixedOrders = true ∧ ADrawT P A ow ops L t)) := rfl
theorem AEndT_false {P : Program} {A : Actv} {ow : List Nat} {ops : Array Oper} {L : Log} {t : S} {X : Prop} : AEndT P A ow ops L t X false = X := rfl
def awpT (P : Program) (A : Actv) (ow : List Nat) (kp : Nat → Bool) : Code → (Q : Exit → S → Prop) → Tg Q → S → Prop
 | .skip, Q, _, t => Q .normal t
 | .label _, Q, _, t => Q .normal t
 | .seq x y, Q, g, t => awpT P A ow kp x (thn (awpT P A ow kp y Q g) Q) .mk t
 | .cond c x y, Q, g, t => ACond (condB (ev t c)) (awpT P A ow kp x Q g t) (awpT P A ow kp y Q g t) .mk .mk
 | .block id c, Q, _, t => awpT P A ow kp c (blkQ id Q) .mk t
 | .exit id, Q, _, t => Q (.exit id) t
 | .goto l, Q, _, t => Q (.goto l) t
 | .ret, Q, _, t => Q .ret t
 | .region _ ops draw, Q, _, t => ANoN ops (AOps P A ow ops ops.toList 0 [] .mk t (fun L t' => AEndT P A ow ops L t (Q .normal (kept kp t')) draw) .mk) draw
 | .loop c, Q, g, t => ALoop P A c Q g t
 | .scope c, Q, _, t => awpT P A ow kp c (scpQ Q) .mk t
 | _, _, _, _ => False
section
variable {P : Program} {A : Actv}
theorem awpT.sound {ow : List Nat} {kp : Nat → Bool} : ∀ {c : Code} {Q : Exit → S → Prop} {g : Tg Q} {t : S}, awpT P A ow kp c Q g t → AW P A c Q t
 | .skip, Q, _, t, h => fun a w hi => wp_skip ⟨t, hi, by simpa only [awpT] using h⟩
 | .label _, Q, _, t, h => fun a w hi => wp_label ⟨t, hi, by simpa only [awpT] using h⟩
 | .seq x y, Q, _, t, h => fun a w hi => by
   simp only [awpT] at h
   refine wp_seq (Code.wp_mono (fun e a w ⟨t', h1, h2⟩ => ?_) (awpT.sound (c := x) h a w hi))
   cases e <;> first
    | exact awpT.sound (c := y) h2 a w h1
    | exact ⟨t', h1, h2⟩
 | .cond c x y, Q, _, t, h => fun a w hi => by
   simp only [awpT] at h
   obtain ⟨E, hw, hE⟩ := hi
   have hr := ev_rel hE c
   unfold condB at h
   split at h
   ·rename_i b hb
    rw [hb] at hr
    simp only [RelV, Rep] at hr
    unfold ACond at h
    cases b
    ·exact wp_cond_false hr (awpT.sound (c := y) (h.no rfl) a w ⟨E, hw, hE⟩)
    ·exact wp_cond_true hr (awpT.sound (c := x) (h.yes rfl) a w ⟨E, hw, hE⟩)
   ·exact h.elim
 | .block id c, Q, _, t, h => fun a w hi => by
   simp only [awpT] at h
   refine wp_block (Code.wp_mono (fun e a w ⟨t', h1, h2⟩ => ?_) (awpT.sound (c := c) h a w hi))
   cases e <;> first
    | exact ⟨t', h1, h2⟩
    | (simp only [Exit.inBlock]
       simp only [blkQ] at h2
       split
       ·rename_i he; rw [if_pos he] at h2; exact ⟨t', h1, h2⟩
       ·rename_i he; rw [if_neg he] at h2; exact ⟨t', h1, h2⟩)
 | .exit id, Q, _, t, h => fun a w hi => wp_exit ⟨t, hi, by simpa only [awpT] using h⟩
 | .goto l, Q, _, t, h => fun a w hi => wp_goto ⟨t, hi, by simpa only [awpT] using h⟩
 | .ret, Q, _, t, h => fun a w hi => wp_ret ⟨t, hi, by simpa only [awpT] using h⟩
 | .region id ops draw, Q, _, t, h => fun a w hi => by
   simp only [awpT] at h
   cases draw
   ·rw [ANoN_false] at h
    refine wp_region ?_
    have := AOps.wps (Q := lift A Q) (fun j => by simp) h (fun L t' h3 a w hi' => ⟨_, hi'.kept kp, h3⟩) a w hi
    rwa [Array.length_toList, ← List.range_eq_range'] at this
   ·rw [ANoN_true] at h
    obtain ⟨hn, h⟩ := h
    obtain ⟨L, t', h1, h2, h3⟩ := AOps.sound (fun o ho => by
     have := List.all_eq_true.1 hn o ho
     simpa using this) (fun j => by simp) h
    rw [Array.length_toList] at h2
    obtain ⟨h4, h5, h6⟩ := h3
    simp only [List.append_nil] at h6
    exact region_drawT h5 h1 h2 h6 (fun a w hi' => ⟨_, hi'.kept kp, h4⟩) a w hi
 | .loop c, Q, _, t, h => by simp only [awpT] at h; exact h.aw
 | .rangeFunc .., _, _, _, h => by simp only [awpT] at h
 | .scope c, Q, _, t, h => fun a w hi => by
   simp only [awpT] at h
   refine wp_scope_straight (Code.wp_mono (fun e a w ⟨t', h1, h2⟩ => ?_) (awpT.sound (c := c) h a w hi))
   cases e <;> first
    | exact ⟨t', h1, h2⟩
    | exact h2.elim
 | .refuse _, _, _, _, h => by simp only [awpT] at h
theorem ALoop.ofT {ι : Type} {c : Code} {Q : Exit → S → Prop} {g : Tg Q} {t : S} (ow : List Nat) (kp : Nat → Bool) (st : ι → List (Pl × It)) (μ : ι → Nat) (i0 : ι) (h0 : GS A t (look (st i0)))
  (round : ∀ i, awpT P A ow kp c (thn (ANext A st μ (μ i) .mk .mk) Q) .mk (look (st i))) : ALoop P A c Q g t :=
 ⟨AW.loop (fun i => look (st i)) μ i0 h0 fun i => (awpT.sound (round i)).mono fun e t h => by cases e <;> first | exact h.ex | exact h⟩
theorem ADrawT.plain {ow : List Nat} {ops : Array Oper} {L : Log} {t : S} (h : drawF ops (shapes L []) = true) : ADrawT P A ow ops L t := ⟨.inl h⟩
theorem ADrawT.tol {ow : List Nat} {ops : Array Oper} {L : Log} {t : S} (i0 j0 : Nat) (p : Pl) (h : tolB ops (shapes L []) i0 j0 p = true) {o : Oper} {gp : List Pl} {e : Eff} (ho : ops[i0]? = some o)
  (hg : gv ops (upd (part L.reverse (fun _ => true) t i0) p (over t (L.reverse.getD j0 ([], [])).2 p)) o = some (gp, true)) (hd : dstOK A.N o = true)
  (he : eff P ow (upd (part L.reverse (fun _ => true) t i0) p (over t (L.reverse.getD j0 ([], [])).2 p)) o = some e) (hC : e.C)
  (hr : L.reverse.getD i0 ([], []) = (gp ++ e.rp, dstW o e.v e.W)) : ADrawT P A ow ops L t :=
 ⟨.inr ⟨i0, j0, p, h, by rw [hr]; exact Sum.of_eff ho hg hd he hC⟩⟩
end
attribute [simp] awpT AEndT_true AEndT_false
end Go.Tr

set_option linter.unusedSimpArgs false
namespace Go.Tr
open Go
theorem ADrawT.tol' {P : Program} {A : Actv} {ow : List Nat} {ops : Array Oper} {L : Log} {t : S} (i0 j0 : Nat) (p : Pl) (h : tolB ops (shapes L []) i0 j0 p = true) {o : Oper} (ho : ops[i0]? = some o)
  (hx : AGv A.N o (gv ops (upd (part L.reverse (fun _ => true) t i0) p (over t (L.reverse.getD j0 ([], [])).2 p)) o)
   (fun gp => AEff A.N o gp (eff P ow (upd (part L.reverse (fun _ => true) t i0) p (over t (L.reverse.getD j0 ([], [])).2 p)) o) (fun rp W => L.reverse.getD i0 ([], []) = (rp, W)) .mk) (fun _ _ => False) .mk .mk) : ADrawT P A ow ops L t := by
 unfold AGv at hx
 split at hx
 ·exact hx.elim
 ·rename_i gp g hg
  cases g
  ·rw [AIf_false] at hx; exact hx.2.elim
  ·rw [AIf_true] at hx
   unfold AEff at hx
   split at hx
   ·rename_i e he
    exact ADrawT.tol i0 j0 p h ho hg hx.1 he hx.2.1 hx.2.2
   ·exact hx.elim
theorem kget_kput : ∀ (es : List (List Int × TV)) (k : List Int) (v : TV), kget (kput es k v) k = some v
 | [], k, v => by simp [kput, kget]
 | (a, x) :: es, k, v => by
   simp only [kput]
   split
   ·simp [kget]
   ·rename_i h; simp only [kget]; rw [if_neg h]; exact kget_kput es k v
theorem klen_kput {n : Nat} : ∀ {es : List (List Int × TV)} {k : List Int} {v : TV}, klen n es → k.length = n → klen n (kput es k v)
 | [], k, v, _, hk => fun y hy => by simp [kput] at hy; rw [hy]; exact hk
 | (a, x) :: es, k, v, h, hk => fun y hy => by
   simp only [kput] at hy
   split at hy
   ·rcases List.mem_cons.1 hy with rfl | hy
    ·exact hk
    ·exact h y (List.mem_cons_of_mem _ hy)
   ·rcases List.mem_cons.1 hy with rfl | hy
    ·exact h _ List.mem_cons_self
    ·exact klen_kput (fun z hz => h z (List.mem_cons_of_mem _ hz)) hk y hy
end Go.Tr

set_option linter.unusedSimpArgs false
set_option maxRecDepth 100000
set_option maxHeartbeats 8000000
namespace Go.Proofs
open Go Go.Tr
theorem perm_of : ∀ {dn acc : List (List Int × Int)}, (dn.map (·.1)).Perm (acc.map (·.1)) → (∀ x ∈ dn, x ∈ acc) → (acc.map (·.1)).Nodup → dn.Perm acc
 | [], acc, h, _, _ => by
   have := h.length_eq
   simp at this
   have : acc = [] := List.length_eq_zero_iff.1 this.symm
   rw [this]
 | x :: dn, acc, h, hs, nd => by
   have hx : x ∈ acc := hs x (by simp)
   have h1 : acc.Perm (x :: acc.erase x) := List.perm_cons_erase hx
   have h2 : (dn.map (·.1)).Perm ((acc.erase x).map (·.1)) := by
    have := h.trans (h1.map (·.1))
    simp only [List.map_cons] at this
    exact (List.perm_cons _).1 this
   have nd2 : ((x :: dn).map (·.1)).Nodup := h.symm.nodup nd
   simp only [List.map_cons, List.nodup_cons] at nd2
   have nd3 : ((acc.erase x).map (·.1)).Nodup := h2.nodup nd2.2
   refine ((perm_of h2 (fun y hy => ?_) nd3).cons x).trans h1.symm
   have hy' := hs y (List.mem_cons_of_mem _ hy)
   have : y ≠ x := fun e => nd2.1 (List.mem_map.2 ⟨y, hy, by rw [e]⟩)
   exact (List.mem_erase_of_ne this).2 hy'
theorem two_of {x : List Int} (h : x.length = 2) : ∃ a b, x = [a, b] := by
 match x, h with
 | [a, b], _ => exact ⟨a, b, rfl⟩
theorem cm_nil : cm [] = [] := rfl
@[simp] theorem only_cm {po : Nat → Prop} {acc : List (List Int × Int)} {c : Nat} {pd : Option (List Int)} {s : Option Snap} : It.only po (It.mpk (cm acc) c pd s) := by
 intro x hx
 obtain ⟨y, _, rfl⟩ := List.mem_map.1 hx
 exact True.intro
@[simp] theorem only_mit {po : Nat → Prop} {m : Nat} {s : Snap} {left : List (List Int)} {cur : Option (List Int)} : It.only po (It.mit m s left cur) := trivial
theorem loads_c (l : List Tb) (hl : SmL l) (r : Int) (p : Pk) : Contract Tryz.prog 55 [.d (.sl (tbs l)), .d (.int .i64 r), pkT p] [] (.tup [.d (.sl (irow (loadsR l r p).1)), .d (.int .i64 (loadsR l r p).2)]) [] [] := by
 obtain ⟨G, hG⟩ : ∃ G, G = lgo l r p 8 0 [] := ⟨_, rfl⟩
 have hL : loadsR l r p = if G.2 = 0 then (ldR G.1, 0) else ([], G.2) := by rw [hG]; rfl
 rw [hL]
 refine contract_of Tryz.func55 rfl (fun E0 => ?_)
 refine awp.sound (g := .mk) (ow := [3000017, 1000105]) (kp := (fun k => k==0||k==1||k==2||k==5||k==6||k==7||k==8||k==9||k==10||k==11||k==13||k==14||k==15||k==16||k==18||k==19||k==31||k==34||k==35||k==36||k==37||k==53||k==55)) ?_
 rw [Tryz.ntmps55]
 simp -dsimp [pkT, Pk.cs]
 try refine ⟨?_, ⟨by kernel_rfl⟩⟩
 refine ALoop.of [3000017, 1000105] (fun k => k==0||k==1||k==2||k==5||k==6||k==7||k==8||k==9||k==10||k==11||k==13||k==14||k==15||k==16||k==18||k==19||k==31||k==34||k==35||k==36||k==37||k==53||k==55) (ι := { z : Nat × List (List Int × Int) × Int × Nat × Option (List Int) // z.1 ≤ 8 ∧ AccOK z.2.1 (z.1 * 1000000) ∧ G = lgo l r p (8 - z.1) z.1 z.2.1 })
  (fun z => [(Pl.s 0, It.v (TV.d (D.sl (tbs l)))), (Pl.s 1, It.v (TV.d (D.int IntKind.i64 r))), (Pl.o 5, It.box ((entP p z.1.2.2.1).cs.map .d)), (Pl.s 5, It.v (TV.ptr (Pl.o 5) 0)), (Pl.s 6, It.v (TV.c (Value.slice none 0 0))), (Pl.s 7, It.v (TV.d (D.int IntKind.i64 0))), (Pl.s 8, It.v (TV.mref 17)), (Pl.o 17, It.mpk (cm z.1.2.1) z.1.2.2.2.1 z.1.2.2.2.2 none), (Pl.s 18, It.v (TV.d (D.int IntKind.i64 z.1.1)))])
  (fun z => 8 - z.1.1) ⟨(0, [], p.ent, 0, none), by omega, by simpa using AccOK.nil, hG⟩ ?_ ?_
 ·exact GS.to (by simp [Pk.cs, entP, ← cm_nil])
 ·rintro ⟨⟨k, acc, en, c, pd⟩, i1, i2, i3⟩
  simp only at i1 i2 i3
  by_cases hk : k < 8
  ·have hkz : (k : Int) < 8 := by omega
   have h1 := run_c l hl (entP p k) r
   obtain ⟨s1, s2, s3⟩ := run_small l (entP p k) r
   rw [show 8 - k = (8 - (k + 1)) + 1 by omega, lgo] at i3
   generalize runR l (entP p k) r = U at h1 s1 s2 s3 i3
   obtain ⟨U, e⟩ := U
   simp only at s1 s2 s3 i3
   simp only [pkT, Pk.cs, entP, List.map, trcT] at h1
   simp -dsimp [hkz, Pk.cs, entP]
   and_intros
   all_goals try first | omega | exact ⟨by kernel_rfl⟩
   refine ACall.of h1 [] 0 ?_
   by_cases he : e = 0
   ·rw [if_pos he] at i3
    simp -dsimp [he]
    and_intros
    all_goals try first | omega | exact ⟨by kernel_rfl⟩
    refine ALoop.ofT [3000017, 1000105] (fun k => k==0||k==1||k==2||k==5||k==6||k==7||k==8||k==9||k==10||k==11||k==13||k==14||k==15||k==16||k==18||k==19||k==31||k==34||k==35||k==36||k==37||k==53||k==55) (ι := { z : Nat × Nat × Option (List Int) // z.1 ≤ U.cr.length })
     (fun z => [(Pl.s 0, It.v (TV.d (D.sl (tbs l)))), (Pl.s 1, It.v (TV.d (D.int IntKind.i64 r))), (Pl.o 5, It.box ((entP p k).cs.map .d)), (Pl.s 5, It.v (TV.ptr (Pl.o 5) 0)), (Pl.s 6, It.v (TV.c (Value.slice none 0 0))), (Pl.s 7, It.v (TV.d (D.int IntKind.i64 0))), (Pl.s 8, It.v (TV.mref 17)), (Pl.o 17, It.mpk (cm (addH acc (U.cr.take z.1.1))) z.1.2.1 z.1.2.2 none), (Pl.s 18, It.v (TV.d (D.int IntKind.i64 k))),
      (Pl.s 34, It.v (TV.d (D.sl (U.cr.map crC)))), (Pl.s 35, It.v (TV.d (D.int IntKind.i64 U.cr.length))), (Pl.s 36, It.v (TV.d (D.int IntKind.i64 z.1.1)))])
     (fun z => U.cr.length - z.1.1) ⟨(0, c, pd), by omega⟩ ?_ ?_
    ·exact GS.to (by simp [Pk.cs, entP, addH])
    ·rintro ⟨⟨j, c, pd⟩, j1⟩
     simp only at j1
     have hA := addH_ok (U.cr.take j) i2
     rw [List.length_take, Nat.min_eq_left j1] at hA
     by_cases hj : j < U.cr.length
     ·have hjz : (j : Int) < U.cr.length := by omega
      have hg : U.cr[j]? = some U.cr[j] := List.getElem?_eq_getElem hj
      generalize U.cr[j] = y at hg
      have hn := addH_take hg acc
      generalize addH acc (U.cr.take j) = B at hA hn
      have hB2 := klen_cm (n := 2) hA.two
      have hcl := cntI_le hA.le (by omega) [y.1, y.2.1]
      have hw : IntKind.i64.wrap (cntI B [y.1, y.2.1] + 1) = cntI B [y.1, y.2.1] + 1 := wrap_i64 (by omega) (by omega)
      have hlk := lk_cm B [y.1, y.2.1]
      simp only [lkK] at hlk
      simp -dsimp [hjz, hg, crC, hlk, hw, kput_kput, kput_cm, hB2, wrap_i64 (n := (j : Int) + 1) (by omega) (by omega)]
      refine ⟨?_, ?_⟩
      ·exact ⟨⟨(j + 1, c + 1, some [y.1, y.2.1]), by omega⟩, GS.to (by simp [hn, Pk.cs, entP]), by simp; omega⟩
      ·have hB3 := klen_kput (k := [y.1, y.2.1]) (v := TV.d (D.int .i64 (cntI B [y.1, y.2.1]))) hB2 rfl
       refine ADrawT.tol' 6 8 (Pl.o 17) (by kernel_rfl) rfl ?_
       simp -dsimp [Tr.part, kget_kput, hB3]
     ·have hjz : ¬ (j : Int) < U.cr.length := by omega
      obtain rfl : j = U.cr.length := by omega
      rw [List.take_length] at hA
      simp -dsimp [hjz, wrap_i64 (n := (k : Int) + 1) (by omega) (by omega)]
      and_intros
      all_goals try first | omega | exact ⟨by kernel_rfl⟩
      refine ⟨⟨(k + 1, addH acc U.cr, k, c, pd), by omega, hA.mono (by omega), i3⟩, GS.to (by simp [Pk.cs, entP]), by simp; omega⟩
   ·rw [if_neg he] at i3
    subst i3
    simp -dsimp [he]
    and_intros
    all_goals try first | omega | exact ⟨by kernel_rfl⟩
    refine Fin.view 6 ?_
    simp
    refine Fin.of ?_
    simp [he, irow]
  ·have hkz : ¬ (k : Int) < 8 := by omega
   obtain rfl : k = 8 := by omega
   rw [show 8 - 8 = 0 from rfl, lgo] at i3
   subst i3
   rw [if_pos rfl]
   simp -dsimp [hkz]
   refine ANon.range ?_
   simp -dsimp [ANo_some, rangeO]
   intro sn
   have i2n := i2.nd
   have i2l := i2.len
   refine ALoop.ofT [3000017, 1000105] (fun k => k==0||k==1||k==2||k==5||k==6||k==7||k==8||k==9||k==10||k==11||k==13||k==14||k==15||k==16||k==18||k==19||k==31||k==34||k==35||k==36||k==37||k==53||k==55) (ι := { z : List (List Int × Int) × List (List Int) × Option (List Int) // (z.1.map (·.1) ++ z.2.1).Perm (acc.map (·.1)) ∧ ∀ x ∈ z.1, x ∈ acc })
    (fun z => [(Pl.s 6, It.v (TV.c (Value.slice none 0 0))), (Pl.s 7, It.v (TV.d (D.int IntKind.i64 0))), (Pl.s 8, It.v (TV.mref 17)), (Pl.o 17, It.mpk (cm acc) c pd (some sn)),
     (Pl.s 53, It.v (TV.ptr (Pl.o 53) 0)), (Pl.o 53, It.mit 17 sn z.1.2.1 z.1.2.2), (Pl.s 14, It.v (TV.oref 14 z.1.1.length)), (Pl.o 14, It.row 104 3 (dd (irow (z.1.1.map rowK))) false)])
    (fun z => z.1.2.1.length) ⟨([], acc.map (·.1), none), by simp, by simp⟩ ?_ ?_
   ·exact GS.own' (k := 14) 104 3 (by simp) (by simp) (by simp [irow, cm_keys])
   ·rintro ⟨⟨dn, left, cur⟩, j1, j2⟩
    simp only at j1 j2
    simp -dsimp
    refine ANon.next ?_
    simp -dsimp [nextO]
    refine ⟨fun hl0 => ?_, fun x hx => ?_⟩
    ·subst hl0
     rw [List.append_nil] at j1
     have hp := perm_of j1 j2 i2n
     have hS : (dn.map rowK).mergeSort (fun x y => !decide (cfL y x < 0)) = ldR acc := sort_leL (hp.map rowK) fun x hx y hy => row_one i2 x ((hp.map rowK).mem_iff.1 hx) y ((hp.map rowK).mem_iff.1 hy)
     have hlen := hp.length_eq
     have hpre : Parts2 cfL (dn.map rowK) := parts_cfL fun x hx y hy => row_one i2 x ((hp.map rowK).mem_iff.1 hx) y ((hp.map rowK).mem_iff.1 hy)
     refine ACall.sortF sortLoads_c (dn.map rowK) ?_
     simp -dsimp [hpre, hS]
     and_intros
     all_goals try first | omega | exact ⟨by kernel_rfl⟩
     have hll : (ldR acc).length = dn.length := by rw [← hS, List.length_mergeSort, List.length_map]
     refine Fin.view 6 ?_
     simp -dsimp [hll]
     refine Fin.of ?_
     simp
    ·have hxa : x ∈ acc.map (·.1) := j1.mem_iff.1 (List.mem_append_right _ hx)
     obtain ⟨⟨x', n⟩, hm, rfl⟩ := List.mem_map.1 hxa
     obtain ⟨x0, x1, rfl⟩ := two_of (i2.two _ hm)
     have hkg : kget (cm acc) [x0, x1] = some (TV.d (D.int .i64 n)) := kget_mem (by rw [cm_keys]; exact i2n) (List.mem_map.2 ⟨_, hm, rfl⟩)
     have hdl : dn.length ≤ 8000000 := by
      have := j1.length_eq
      simp at this
      omega
     simp -dsimp [hkg]
     and_intros
     all_goals try first | omega | exact ⟨by kernel_rfl⟩
     have hrow : dd (irow (dn.map rowK ++ [rowK ([x0, x1], n)])) = dd (irow (dn.map rowK)) ++ [[TV.d (D.int IntKind.i64 x0), TV.d (D.int IntKind.i64 x1), TV.d (D.int IntKind.i64 n)]] := by simp [irow, dd, rowK]
     refine ⟨⟨(dn ++ [([x0, x1], n)], left.erase [x0, x1], some [x0, x1]), ?_, ?_⟩, GS.to (by simp [hrow]), ?_⟩
     ·refine List.Perm.trans ?_ j1
      simp only [List.map_append, List.map_cons, List.map_nil, List.append_assoc, List.singleton_append]
      exact List.Perm.append_left _ (List.perm_cons_erase hx).symm
     ·intro y hy
      rcases List.mem_append.1 hy with hy | hy
      ·exact j2 y hy
      ·rw [List.mem_singleton] at hy; rw [hy]; exact hm
     ·simp only [List.length_erase_of_mem hx]
      have := List.length_pos_of_mem hx
      omega
end Go.Proofs

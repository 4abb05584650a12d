/-
  What functions of the program compute, stated as contracts over plain data; the conditions of each stand in its own statement.
-/
import Derived.Test.YtjgeggdefiejbaaGreatDoorZM28
import Derived.Test.YtjgeggdefiejbaaGreatDoorZM16
import Derived.Test.YtjgeggdefiejbaaGreatDoorZM26
import Derived.Test.YtjgeggdefiejbaaGreatDoorZM25
set_option linter.unusedSimpArgs false
set_option linter.unusedVariables false
set_option maxRecDepth 100000
set_option maxHeartbeats 4000000
namespace Go.Proofs
open Go Go.Tr
def endE (l : List Tb) (id pl : Int) : Nat → Int → Bool × Int × Nat
 | 0, r => match findT l r with
   | none => (false, r, 0)
   | some b => if hopB b id pl = 0 then (false, r, 0) else if hopB b id pl = r then (true, r, 0) else (false, r, 0)
 | t + 1, r => match findT l r with
   | none => (false, r, t + 1)
   | some b => if hopB b id pl = 0 then (false, r, t + 1) else if hopB b id pl = r then (true, r, t + 1) else endE l id pl t (hopB b id pl)
theorem endE_le (l : List Tb) (id pl : Int) : ∀ (t : Nat) (r : Int), (endE l id pl t r).2.2 ≤ t
 | 0, r => by
   rw [endE]
   cases findT l r with
   | none => simp
   | some b => simp only; split <;> (try split) <;> simp
 | t + 1, r => by
   rw [endE]
   cases findT l r with
   | none => simp
   | some b =>
     have := endE_le l id pl t (hopB b id pl)
     simp only; split
     ·simp
     ·split
      ·simp
      ·omega
structure WayE (k : Nat) (p : Pk) (e : Bool × Int × Nat) (t : Trc) : Prop where
 yes : e.1 = true → t.dl = [(e.2.1, pkD p k (p.ttl - e.2.2))] ∧ t.ls = []
 no : e.1 = false → t.dl = [] ∧ ∃ B, t.ls = [(e.2.1, B)]
theorem way_endE {l : List Tb} {k : Nat} (hk : k < 64) {id pl : Int} : ∀ (n : Nat) {p : Pk} {r : Int}, p.ttl.toNat + 1 ≤ n → FitL l p → p.bits.getLsbD k = true → idAt p k = id → plnP p = pl → WayE k p (endE l id pl p.ttl.toNat r) (way l k n (r, p))
 | 0, p, r, hn, _, _, _, _ => by omega
 | n + 1, p, r, hn, hF, hb, hid, hpl => by
   have ht := ok_ttl hF.ok
   obtain ⟨m, hm⟩ : ∃ m : Nat, p.ttl = m := ⟨p.ttl.toNat, by omega⟩
   have hm2 : p.ttl.toNat = m := by omega
   rw [way, hm2]
   cases h1 : findT l r with
   | none =>
     have e : endE l id pl m r = (false, r, m) := by cases m <;> simp [endE, h1]
     rw [e]
     exact ⟨fun h => by simp at h, fun _ => ⟨rfl, _, rfl⟩⟩
   | some b =>
     have hbr := (findT_mem h1).2
     have hB := hF.all b (findT_mem h1).1
     have e : hopAt b p k = hopB b id pl := by rw [hopAt_eq hB.ck, hid, hpl]
     simp only
     by_cases c0 : hopAt b p k = 0
     ·have e2 : endE l id pl m r = (false, r, m) := by cases m <;> simp [endE, h1, ← e, c0]
      rw [if_pos c0, e2]
      exact ⟨fun h => by simp at h, fun _ => ⟨rfl, _, rfl⟩⟩
     by_cases c1 : hopAt b p k = b.r
     ·have e2 : endE l id pl m r = (true, r, m) := by
       have : hopB b id pl = r := by rw [← e, c1, hbr]
       have h0 : ¬ hopB b id pl = 0 := by rw [← e]; exact c0
       cases m <;> simp only [endE, h1] <;> rw [if_neg h0, if_pos this]
      rw [if_neg c0, if_pos c1, e2]
      refine ⟨fun _ => ⟨?_, rfl⟩, fun h => by simp at h⟩
      rw [onlyR_eq hF.ok hk hb]
      simp [pkD, hm]
     by_cases c2 : p.ttl = 0
     ·obtain rfl : m = 0 := by omega
      have e2 : endE l id pl 0 r = (false, r, 0) := by
       simp only [endE, h1]
       rw [← e, if_neg c0, if_neg (by rw [← hbr]; exact c1)]
      rw [if_neg c0, if_neg c1, if_pos c2, e2]
      exact ⟨fun h => by simp at h, fun _ => ⟨rfl, _, rfl⟩⟩
     rw [if_neg c0, if_neg c1, if_neg c2]
     obtain ⟨j, rfl⟩ : ∃ j, m = j + 1 := ⟨m - 1, by omega⟩
     have e2 : endE l id pl (j + 1) r = endE l id pl j (hopAt b p k) := by
      simp only [endE, h1]
      rw [← e, if_neg c0, if_neg (by rw [← hbr]; exact c1)]
     have hr := (hopAt_at hB.ck c0).2
     have et : (cpk b p (hopAt b p k)).ttl = p.ttl - 1 := rfl
     have ih := way_endE hk n (p := cpk b p (hopAt b p k)) (r := hopAt b p k) (by rw [et]; omega) (hF.mask c2 _) ((cpk_bit hB hk hr).2 ⟨hb, rfl⟩) (id := id) (pl := pl) (by rw [cpk, idAt_mask]; exact hid) (by rw [cpk, plnP_mask hF.ok c2]; exact hpl)
     rw [show (cpk b p (hopAt b p k)).ttl.toNat = j by rw [et]; omega] at ih
     rw [e2]
     refine ⟨fun h => ?_, fun h => ?_⟩
     ·obtain ⟨a1, a2⟩ := ih.yes h
      refine ⟨?_, by simp [Trc.app, a2]⟩
      simp only [Trc.app, List.nil_append, a1]
      rw [cpk, pkD_mask, show (pkMask p (maskP b (plnP p) p.set (hopAt b p k))).ttl = p.ttl - 1 from rfl]
      congr 3
      omega
     ·obtain ⟨a1, B, a2⟩ := ih.no h
      exact ⟨by simp [Trc.app, a1], B, by simp [Trc.app, a2]⟩
theorem run_endE {l : List Tb} {p : Pk} (hF : FitL l p) (r : Int) {k : Nat} (hk : k < 64) (hb : p.bits.getLsbD k = true) :
  WayE k p (endE l (idAt p k) (plnP p) p.ttl.toNat r) ((runG l (wt p) [(r, p)] tr0).at k) := by
 rw [run_at hF r hk hb]
 exact way_endE hk _ (Nat.le_refl _) hF hb rfl rfl
def ansE (e : Bool × Int × Nat) (id : Int) : List Int := if e.1 = true then [1, e.2.1, id, (e.2.2 : Int)] else [2, e.2.1, id, 0]
theorem ansE_len (e : Bool × Int × Nat) (id : Int) : (ansE e id).length = 4 := by unfold ansE; split <;> rfl
theorem ansE_id (e : Bool × Int × Nat) (id : Int) : (ansE e id).getD 2 0 = id := by unfold ansE; split <;> rfl
def ansK (l : List Tb) (p : Pk) (r : Int) (k : Nat) : List Int := ansE (endE l (idAt p k) (plnP p) p.ttl.toNat r) (idAt p k)
def ansL (l : List Tb) (p : Pk) (r : Int) : List (List Int) := (bitsL p.bits).map (ansK l p r)
def atAll (p : Pk) : Bool := (bitsL p.bits).all fun k => atB p.set k p.len
def sendP (l : List Tb) (p : Pk) (r : Int) : List (List Int) × Int :=
 if (runR l p r).2 ≠ 0 then ([], (runR l p r).2) else if p.mode ≠ 3 then ([], 7) else if atAll p = true then (ansL l p r, 0) else ([], 2)
def colD (p : Pk) (U : Trc) : List (List Int) := U.dl.flatMap fun d => (bitsL d.2.bits).map fun k => [1, d.1, idAt p k, d.2.ttl]
def colS (p : Pk) (U : Trc) : List (List Int) := U.ls.flatMap fun x => (bitsL x.2).map fun k => [2, x.1, idAt p k, 0]
def colA (p : Pk) (U : Trc) : List (List Int) := colD p U ++ colS p U
def byId (x y : List Int) : Int := if x.getD 2 0 < y.getD 2 0 then -1 else if y.getD 2 0 < x.getD 2 0 then 1 else 0
theorem byId_lt (x y : List Int) : byId x y < 0 ↔ x.getD 2 0 < y.getD 2 0 := by
 unfold byId
 by_cases h : x.getD 2 0 < y.getD 2 0
 ·rw [if_pos h]; exact ⟨fun _ => h, fun _ => by omega⟩
 ·rw [if_neg h]
  split
  ·exact ⟨fun h1 => by omega, fun h1 => absurd h1 h⟩
  ·exact ⟨fun h1 => by omega, fun h1 => absurd h1 h⟩
theorem bits_nodup : ∀ (L : List (BitVec 64)), (∀ k < 64, (L.filter fun B => B.getLsbD k).length ≤ 1) → (L.flatMap bitsL).Nodup
 | [], _ => by simp
 | B :: L, h => by
   have hr : ∀ k < 64, (L.filter fun B => B.getLsbD k).length ≤ 1 := fun k hk => by
    have := h k hk
    rw [List.filter_cons] at this
    split at this
    ·rw [List.length_cons] at this; omega
    ·exact this
   rw [List.flatMap_cons, List.nodup_append]
   refine ⟨bitsL_nodup B, bits_nodup L hr, fun k hk j hj e => ?_⟩
   subst e
   obtain ⟨h1, h2⟩ := mem_bitsL.1 hk
   obtain ⟨C, hC, hkC⟩ := List.mem_flatMap.1 hj
   have h3 := (mem_bitsL.1 hkC).2
   have := h k h1
   rw [List.filter_cons, if_pos h2, List.length_cons] at this
   have h0 : L.filter (fun B => B.getLsbD k) = [] := List.length_eq_zero_iff.1 (by omega)
   have : C ∈ L.filter fun B => B.getLsbD k := List.mem_filter.2 ⟨hC, h3⟩
   rw [h0] at this; simp at this
theorem key_eq : ∀ {a b : List (List Int)}, a.Pairwise (fun x y => x.getD 2 0 < y.getD 2 0) → b.Pairwise (fun x y => x.getD 2 0 < y.getD 2 0) → (∀ x, x ∈ a ↔ x ∈ b) → a = b
 | [], [], _, _, _ => rfl
 | [], y :: b, _, _, h => by have := (h y).2 (by simp); simp at this
 | x :: a, [], _, _, h => by have := (h x).1 (by simp); simp at this
 | x :: a, y :: b, ha, hb, h => by
   rw [List.pairwise_cons] at ha hb
   have e : x = y := by
    rcases List.mem_cons.1 ((h x).1 (by simp)) with e | e
    ·exact e
    ·rcases List.mem_cons.1 ((h y).2 (by simp)) with e2 | e2
     ·exact e2.symm
     ·have := hb.1 x e; have := ha.1 y e2; omega
   subst e
   rw [key_eq ha.2 hb.2 fun z => ?_]
   constructor
   ·intro hz
    rcases List.mem_cons.1 ((h z).1 (by simp [hz])) with e | e
    ·subst e; have := ha.1 z hz; omega
    ·exact e
   ·intro hz
    rcases List.mem_cons.1 ((h z).2 (by simp [hz])) with e | e
    ·subst e; have := hb.1 z hz; omega
    ·exact e
section
variable {l : List Tb} {p : Pk} {r : Int}
theorem idAt_lt {p : Pk} (hA : atAll p = true) {j k : Nat} (hj : j ∈ bitsL p.bits) (hk : k ∈ bitsL p.bits) (h : j < k) : idAt p j < idAt p k := by
 have h1 := List.all_eq_true.1 hA j hj
 have h2 := List.all_eq_true.1 hA k hk
 unfold idAt
 rw [if_pos h1, if_pos h2]; omega
theorem ansL_asc (hA : atAll p = true) : (ansL l p r).Pairwise fun x y => x.getD 2 0 < y.getD 2 0 := by
 unfold ansL
 rw [List.pairwise_map]
 refine (List.Pairwise.imp_of_mem (fun {a b} ha hb hab => ?_) (List.Pairwise.sublist List.filter_sublist List.pairwise_lt_range : (bitsL p.bits).Pairwise fun a b => a < b))
 rw [ansK, ansK, ansE_id, ansE_id]
 exact idAt_lt hA ha hb hab
theorem cnt_one (hF : FitL l p) (k : Nat) (hk : k < 64) : (((runG l (wt p) [(r, p)] tr0).dl.map (fun d => d.2.bits) ++ (runG l (wt p) [(r, p)] tr0).ls.map (fun x => x.2)).filter fun B => B.getLsbD k).length = if p.bits.getLsbD k = true then 1 else 0 := by
 have h := (run_bit hF r hk).1
 rw [List.filter_append, List.length_append, List.filter_map, List.filter_map, List.length_map, List.length_map]
 exact h
theorem mem_col (hF : FitL l p) (hs : (findT l r).isSome) (x : List Int) : x ∈ colA p (runG l (wt p) [(r, p)] tr0) ↔ x ∈ ansL l p r := by
 unfold colA colD colS ansL
 rw [List.mem_append, List.mem_flatMap, List.mem_flatMap, List.mem_map]
 constructor
 ·rintro (⟨d, hd, hx⟩ | ⟨s, hs', hx⟩)
  ·obtain ⟨k, hk, rfl⟩ := List.mem_map.1 hx
   obtain ⟨hk64, hdk⟩ := mem_bitsL.1 hk
   have hp := ((run_dl hF r hk64 d).1 ⟨hd, hdk⟩).1
   have hW := run_endE hF r hk64 hp
   have hm : d ∈ ((runG l (wt p) [(r, p)] tr0).at k).dl := List.mem_filter.2 ⟨hd, hdk⟩
   refine ⟨k, mem_bitsL.2 ⟨hk64, hp⟩, ?_⟩
   cases he : (endE l (idAt p k) (plnP p) p.ttl.toNat r).1 with
   | false => rw [(hW.no he).1] at hm; simp at hm
   | true =>
     rw [(hW.yes he).1] at hm
     simp only [List.mem_singleton] at hm
     subst hm
     rw [ansK, ansE, if_pos he]
     have ht := ok_ttl hF.ok
     have hle := endE_le l (idAt p k) (plnP p) p.ttl.toNat r
     have hz : p.ttl - (p.ttl - ((endE l (idAt p k) (plnP p) p.ttl.toNat r).2.2 : Int)) = (endE l (idAt p k) (plnP p) p.ttl.toNat r).2.2 := by omega
     simp [pkD, hz]
  ·obtain ⟨k, hk, rfl⟩ := List.mem_map.1 hx
   obtain ⟨hk64, hdk⟩ := mem_bitsL.1 hk
   have hcnt := (run_bit hF r hk64).1
   have hm : s ∈ (runG l (wt p) [(r, p)] tr0).ls.filter fun x => x.2.getLsbD k := List.mem_filter.2 ⟨hs', hdk⟩
   have hp : p.bits.getLsbD k = true := by
    cases hb : p.bits.getLsbD k with
    | true => rfl
    | false =>
      rw [hb, if_neg (by simp)] at hcnt
      have : (runG l (wt p) [(r, p)] tr0).ls.filter (fun x => x.2.getLsbD k) = [] := List.length_eq_zero_iff.1 (by omega)
      rw [this] at hm; simp at hm
   have hW := run_endE hF r hk64 hp
   have hm2 : s ∈ ((runG l (wt p) [(r, p)] tr0).at k).ls := hm
   refine ⟨k, mem_bitsL.2 ⟨hk64, hp⟩, ?_⟩
   cases he : (endE l (idAt p k) (plnP p) p.ttl.toNat r).1 with
   | true => rw [(hW.yes he).2] at hm2; simp at hm2
   | false =>
     obtain ⟨B, hB⟩ := (hW.no he).2
     rw [hB] at hm2
     simp only [List.mem_singleton] at hm2
     subst hm2
     rw [ansK, ansE, if_neg (by rw [he]; simp)]
 ·rintro ⟨k, hk, rfl⟩
  obtain ⟨hk64, hp⟩ := mem_bitsL.1 hk
  have hW := run_endE hF r hk64 hp
  cases he : (endE l (idAt p k) (plnP p) p.ttl.toNat r).1 with
  | true =>
    have hm : ((endE l (idAt p k) (plnP p) p.ttl.toNat r).2.1, pkD p k (p.ttl - (endE l (idAt p k) (plnP p) p.ttl.toNat r).2.2)) ∈ ((runG l (wt p) [(r, p)] tr0).at k).dl := by rw [(hW.yes he).1]; simp
    obtain ⟨h1, h2⟩ := List.mem_filter.1 hm
    refine .inl ⟨_, h1, List.mem_map.2 ⟨k, mem_bitsL.2 ⟨hk64, h2⟩, ?_⟩⟩
    rw [ansK, ansE, if_pos he]
    have ht := ok_ttl hF.ok
    have hle := endE_le l (idAt p k) (plnP p) p.ttl.toNat r
    have hz : p.ttl - (p.ttl - ((endE l (idAt p k) (plnP p) p.ttl.toNat r).2.2 : Int)) = (endE l (idAt p k) (plnP p) p.ttl.toNat r).2.2 := by omega
    simp [pkD, hz]
  | false =>
    obtain ⟨B, hB⟩ := (hW.no he).2
    have hm : ((endE l (idAt p k) (plnP p) p.ttl.toNat r).2.1, B) ∈ ((runG l (wt p) [(r, p)] tr0).at k).ls := by rw [hB]; simp
    obtain ⟨h1, h2⟩ := List.mem_filter.1 hm
    refine .inr ⟨_, h1, List.mem_map.2 ⟨k, mem_bitsL.2 ⟨hk64, h2⟩, ?_⟩⟩
    rw [ansK, ansE, if_neg (by rw [he]; simp)]
theorem col_bits (hF : FitL l p) (k : Nat) : k ∈ (((runG l (wt p) [(r, p)] tr0).dl.map (fun d => d.2.bits) ++ (runG l (wt p) [(r, p)] tr0).ls.map (fun x => x.2)).flatMap bitsL) ↔ k ∈ bitsL p.bits := by
 rw [List.mem_flatMap]
 constructor
 ·rintro ⟨B, hB, hk⟩
  obtain ⟨hk64, hb⟩ := mem_bitsL.1 hk
  have h := cnt_one (r := r) hF k hk64
  refine mem_bitsL.2 ⟨hk64, ?_⟩
  cases hp : p.bits.getLsbD k with
  | true => rfl
  | false =>
    rw [hp, if_neg (by simp)] at h
    have h0 := List.length_eq_zero_iff.1 h
    have : B ∈ (((runG l (wt p) [(r, p)] tr0).dl.map (fun d => d.2.bits) ++ (runG l (wt p) [(r, p)] tr0).ls.map (fun x => x.2)).filter fun B => B.getLsbD k) := List.mem_filter.2 ⟨hB, hb⟩
    rw [h0] at this; simp at this
 ·intro hk
  obtain ⟨hk64, hp⟩ := mem_bitsL.1 hk
  have h := cnt_one (r := r) hF k hk64
  rw [if_pos hp] at h
  obtain ⟨B, hB⟩ := List.exists_mem_of_length_pos (l := (((runG l (wt p) [(r, p)] tr0).dl.map (fun d => d.2.bits) ++ (runG l (wt p) [(r, p)] tr0).ls.map (fun x => x.2)).filter fun B => B.getLsbD k)) (by omega)
  obtain ⟨h1, h2⟩ := List.mem_filter.1 hB
  exact ⟨B, h1, mem_bitsL.2 ⟨hk64, h2⟩⟩
theorem col_ids (p : Pk) (U : Trc) : (colA p U).map (fun x => x.getD 2 0) = ((U.dl.map (fun d => d.2.bits) ++ U.ls.map (fun x => x.2)).flatMap bitsL).map (idAt p) := by
 unfold colA colD colS
 rw [List.map_append, List.map_flatMap, List.map_flatMap, List.flatMap_append, List.map_append, List.map_flatMap, List.map_flatMap, List.flatMap_map, List.flatMap_map]
 simp [List.map_map, Function.comp_def]
theorem col_nodup (hF : FitL l p) (hA : atAll p = true) : ((colA p (runG l (wt p) [(r, p)] tr0)).map fun x => x.getD 2 0).Nodup := by
 rw [col_ids]
 have hn := bits_nodup _ fun k hk => by rw [cnt_one (r := r) hF k hk]; split <;> omega
 unfold List.Nodup at hn ⊢
 rw [List.pairwise_map]
 refine hn.imp_of_mem fun {a b} ha hb hab e => ?_
 have h1 := (col_bits hF a).1 ha
 have h2 := (col_bits hF b).1 hb
 rcases Nat.lt_or_gt_of_ne hab with h | h
 ·have := idAt_lt hA h1 h2 h; omega
 ·have := idAt_lt hA h2 h1 h; omega
theorem col_pre (hF : FitL l p) (hA : atAll p = true) : ∀ x ∈ colA p (runG l (wt p) [(r, p)] tr0), ∀ y ∈ colA p (runG l (wt p) [(r, p)] tr0), x.getD 2 0 = y.getD 2 0 → x = y := by
 have hn := col_nodup (r := r) hF hA
 generalize colA p (runG l (wt p) [(r, p)] tr0) = L at hn
 induction L with
 | nil => simp
 | cons z L ih =>
   rw [List.map_cons, List.nodup_cons] at hn
   intro x hx y hy e
   rcases List.mem_cons.1 hx with rfl | hx <;> rcases List.mem_cons.1 hy with rfl | hy
   ·rfl
   ·exact absurd (List.mem_map.2 ⟨y, hy, e.symm⟩) hn.1
   ·exact absurd (List.mem_map.2 ⟨x, by assumption, e⟩) hn.1
   ·exact ih hn.2 x hx y hy e
theorem col_sorted (hF : FitL l p) (hs : (findT l r).isSome) (hA : atAll p = true) : (colA p (runG l (wt p) [(r, p)] tr0)).mergeSort (fun x y => !decide (byId y x < 0)) = ansL l p r := by
 have hn := col_nodup (r := r) hF hA
 have hm := mem_col hF hs
 generalize colA p (runG l (wt p) [(r, p)] tr0) = L at hn hm
 have h1 := List.pairwise_mergeSort (le := fun x y : List Int => !decide (byId y x < 0)) (fun a b c h1 h2 => by simp [byId_lt] at *; omega) (fun a b => by simp [byId_lt]; omega) L
 have hp := List.mergeSort_perm L (fun x y : List Int => !decide (byId y x < 0))
 have h2 : ((L.mergeSort (fun x y => !decide (byId y x < 0))).map fun x => x.getD 2 0).Nodup := (hp.map _).nodup_iff.2 hn
 unfold List.Nodup at h2
 rw [List.pairwise_map] at h2
 refine key_eq ((h1.and h2).imp fun h => ?_) (ansL_asc hA) fun x => ?_
 ·have h3 := h.1
  have h4 := h.2
  rw [Bool.not_eq_true', decide_eq_false_iff_not, byId_lt] at h3
  omega
 ·rw [hp.mem_iff]; exact hm x
end
end Go.Proofs

namespace Go.Proofs
open Go Go.Tr
theorem chkA_like {l : List Tb} (h : chkA l = 0) : ∀ b ∈ l, ∀ c ∈ l, b.sd = c.sd ∧ b.len = c.len := fun b hb c hc => by
 have := firstE_zero (l := _) (by simp) h
 simp only [List.mem_cons, List.not_mem_nil, or_false, forall_eq_or_imp, forall_eq] at this
 have h1 := List.any_eq_false.1 this.2.2.2 b hb
 have h2 := List.any_eq_false.1 this.2.2.2 c hc
 simp at h1 h2
 exact ⟨h1.1.trans h2.1.symm, h1.2.trans h2.2.symm⟩
theorem run_fitL {l : List Tb} {p : Pk} {r : Int} (h : (runR l p r).2 = 0) : FitL l p ∧ (findT l r).isSome ∧ runR l p r = (runG l (wt p) [(r, p)] tr0, 0) := by
 unfold runR at h ⊢
 split at h
 ·simp at h
 rename_i h1
 have hA : chkA l = 0 := Classical.byContradiction fun g => h1 (.inl g)
 have hp : p.ok = true := by
  cases e : p.ok with
  | true => rfl
  | false => exact absurd (.inr e) h1
 cases hf : findT l r with
 | none => simp [hf] at h
 | some b =>
   simp only [hf] at h ⊢
   split at h
   ·simp at h
   rename_i h2
   split at h
   ·simp at h
   rename_i h3
   have hb := (findT_mem hf).1
   have e1 : p.subd = b.sd := Classical.byContradiction fun g => h3 (.inl g)
   have e2 : p.len = b.len := Classical.byContradiction fun g => h3 (.inr g)
   refine ⟨⟨hp, fun c hc => ?_⟩, rfl, ?_⟩
   ·have hl := chkA_like hA c hc b hb
    exact ⟨chkA_all hA c hc, by rw [hl.1, e1], by rw [hl.2, e2], hp, h2⟩
   ·rw [if_neg h1, if_neg h2, if_neg h3]
def pkOne (b : Tb) (id en ttl : Int) : Pk := ⟨3, b.sd, plSet id b.len, b.len, ttl, en, 0, 0, bitB (plBit id b.len), ByteArray.empty⟩
def a0 : List Int := [0, 0, 0, 0]
theorem bitsL_one {k : Nat} (hk : k < 64) : bitsL (bitB k) = [k] := by
 have h : ∀ i, i ∈ bitsL (bitB k) ↔ i = k := fun i => by
  unfold bitsL
  rw [List.mem_filter, List.mem_range]
  constructor
  ·rintro ⟨h1, h2⟩
   have := (bitB_iff h1).1 h2
   omega
  ·rintro rfl
   exact ⟨hk, (bitB_iff hk).2 rfl⟩
 have nd : (bitsL (bitB k)).Nodup := List.Pairwise.filter _ List.nodup_range
 have h2 : bitsL (bitB k) ≠ [] := fun e => by have := (h k).2 rfl; rw [e] at this; simp at this
 match hb : bitsL (bitB k), h, nd, h2 with
 | [], _, _, h2 => exact absurd rfl h2
 | [x], h, _, _ => rw [(h x).1 (by simp)]
 | x :: y :: L, h, nd, _ =>
   have e1 := (h x).1 (by simp)
   have e2 := (h y).1 (by simp)
   rw [List.nodup_cons] at nd
   exact absurd (by simp [e1, e2]) nd.1
theorem one_ok {l : List Tb} {r id en ttl : Int} {b : Tb} (hA : chkA l = 0) (hf : findT l r = some b) (hv : (validLen b.len && inB id 1 256) = true) (he : 0 ≤ en ∧ en ≤ 1023) (ht : 0 ≤ ttl ∧ ttl ≤ 63) :
  sendP l (pkOne b id en ttl) r = ([ansE (endE l id (en % 8) ttl.toNat r) id], 0) := by
 have hb := (findT_mem hf).1
 have hvl : validLen b.len = true := (Bool.and_eq_true_iff.1 hv).1
 have hid : 1 ≤ id ∧ id ≤ 256 := by
  have := (Bool.and_eq_true_iff.1 hv).2
  simpa [inB] using this
 have hset := plSet_le (id := id) hvl
 have hbit := plBit_lt (id := id) hvl
 have hcs := validLen_cases hvl
 obtain ⟨k, hk⟩ : ∃ k : Nat, plBit id b.len = k := ⟨(plBit id b.len).toNat, by omega⟩
 have hk64 : k < 64 := by rcases hcs with h | h | h | h <;> omega
 have hsum : plSet id b.len * b.len + k + 1 = id := by
  rw [← hk]
  unfold plSet plBit
  rw [if_pos hv, if_pos hv]
  have := Int.mul_ediv_add_emod (id - 1) b.len
  rw [Int.mul_comm] at this
  omega
 have hck := chkA_all hA b hb
 have hhd := (chk_parts hck).1
 have hB : bitsL (pkOne b id en ttl).bits = [k] := by
  show bitsL (bitB (plBit id b.len)) = [k]
  rw [hk]; exact bitsL_one hk64
 have hok : (pkOne b id en ttl).ok = true := by
  refine (ok_iff _).2 ⟨⟨by simp [pkOne], by simp [pkOne]⟩, ?_, ⟨hset.1, hset.2⟩, ?_, ht, he, by simp [pkOne], by simp [pkOne], by simp [pkOne]⟩
  ·have := hhd.2.1
   unfold inR at this
   exact this
  ·exact validB_of hvl fun j hj hjb => by
    have : (bitB (plBit id b.len)).getLsbD j = true := hjb
    rw [hk] at this
    have h2 := (bitB_iff hj).1 this
    show (j : Int) < b.len
    omega
 have hat : atB (plSet id b.len) k b.len = true := by
  unfold atB
  simp only [hvl, inB, Bool.and_eq_true, decide_eq_true_eq]
  refine ⟨trivial, ⟨by omega, by omega⟩, ⟨by omega, by omega⟩, by omega⟩
 have hidA : idAt (pkOne b id en ttl) k = id := by
  unfold idAt
  rw [if_pos (show atB (pkOne b id en ttl).set k (pkOne b id en ttl).len = true from hat)]; exact hsum
 have hpl : plnP (pkOne b id en ttl) = en % 8 := by
  unfold plnP
  rw [if_pos hok]; rfl
 have hall : atAll (pkOne b id en ttl) = true := by
  unfold atAll
  rw [hB]
  simp only [List.all_cons, List.all_nil, Bool.and_true]
  exact hat
 have hrun : (runR l (pkOne b id en ttl) r).2 = 0 := by
  unfold runR
  rw [if_neg (by simp [hA, hok]), hf]
  simp only
  rw [if_neg (by simp [pkOne]), if_neg (by simp [pkOne])]
 unfold sendP
 rw [if_neg (by simp [hrun]), if_neg (by simp [pkOne]), if_pos hall, ansL, hB]
 simp only [List.map_cons, List.map_nil, ansK, hidA, hpl]
 rfl
def fitsR (l : List Tb) (p : Pk) (r : Int) : Int := (runR l p r).2
theorem fits14_c (l : List Tb) (hl : SmL l) (p : Pk) (r : Int) : Contract Tryz.prog 108 [.d (.sl (tbs l)), pkT p, .d (.int .i64 r)] [] (.d (.int .i64 (fitsR l p r))) [] [] := by
 have hck := checkA11_c l hl
 have hv := valid_c p
 have hf := find11_c l hl r
 simp only [pkT, Pk.cs, List.map] at hv
 refine contract_of Tryz.func108 rfl (fun E0 => ?_)
 refine awp.sound (g := .mk) (ow := []) (kp := (fun k => k==0||k==1||k==2||k==4||k==6||k==7||k==8||k==16||k==24||k==27||k==39)) ?_
 rw [Tryz.ntmps108]
 simp -dsimp [pkT, Pk.cs]
 try refine ⟨?_, ⟨by kernel_rfl⟩⟩
 refine ACall.of hck [] 0 ?_
 by_cases h1 : chkA l = 0
 rotate_left
 ·simp -dsimp [h1]
  try refine ⟨?_, ⟨by kernel_rfl⟩⟩
  refine Fin.of ?_
  simp [fitsR, runR, h1]
 rcases (Bool.eq_false_or_eq_true p.ok).symm with h2 | h2
 ·simp -dsimp [h1]
  try refine ⟨?_, ⟨by kernel_rfl⟩⟩
  refine ACall.of hv [] 0 ?_
  simp -dsimp [h2]
  try refine ⟨?_, ⟨by kernel_rfl⟩⟩
  refine Fin.of ?_
  simp [fitsR, runR, h1, h2]
 simp -dsimp [h1]
 try refine ⟨?_, ⟨by kernel_rfl⟩⟩
 refine ACall.of hv [] 0 ?_
 cases hfd : findT l r with
 | none =>
   rw [hfd] at hf
   simp only [foundT, Option.getD_none, Option.isSome_none, tb0, tblT] at hf
   simp -dsimp [h2]
   try refine ⟨?_, ⟨by kernel_rfl⟩⟩
   refine ACall.of hf [] 0 ?_
   simp -dsimp
   try refine ⟨?_, ⟨by kernel_rfl⟩⟩
   refine Fin.of ?_
   simp [fitsR, runR, h1, h2, hfd]
 | some b =>
   rw [hfd] at hf
   simp only [foundT, Option.getD_some, Option.isSome_some, tblT] at hf
   simp -dsimp [h2]
   try refine ⟨?_, ⟨by kernel_rfl⟩⟩
   refine ACall.of hf [] 0 ?_
   by_cases h3 : p.mode = 2
   ·simp -dsimp [eq_true h3]
    try refine ⟨?_, ⟨by kernel_rfl⟩⟩
    refine Fin.of ?_
    simp [fitsR, runR, h1, h2, hfd, h3]
   by_cases h4 : p.subd = b.sd
   rotate_left
   ·simp -dsimp [h3, h4]
    try refine ⟨?_, ⟨by kernel_rfl⟩⟩
    refine Fin.of ?_
    simp [fitsR, runR, h1, h2, hfd, h3, h4]
   by_cases h5 : p.len = b.len
   rotate_left
   ·simp -dsimp [h3, eq_true h4, h5]
    try refine ⟨?_, ⟨by kernel_rfl⟩⟩
    refine Fin.of ?_
    simp [fitsR, runR, h1, h2, hfd, h3, h4, h5]
   simp -dsimp [h3, eq_true h4, eq_true h5]
   try refine ⟨?_, ⟨by kernel_rfl⟩⟩
   refine Fin.of ?_
   simp [fitsR, runR, h1, h2, hfd, h3, h4, h5]
def rowT3 (t : Trc) : List (Nat × It) := [(900, .row 138 11 (dd (t.dl.map dlC)) false), (901, .row 158 3 (dd (t.cr.map crC)) false), (902, .row 140 2 (dd (t.ls.map lsC)) false)]
def noteR (t : Trc) (r : Int) (p : Pk) (o : Out) : Trc := ⟨t.dl ++ locV r o p, t.cr ++ o.cps.map (fun c => (r, c.1, c.2.bits)), if o.lost = 0#64 then t.ls else t.ls ++ [(r, o.lost)]⟩
theorem note14_c (t : Trc) (h1 : t.dl.length ≤ 1000000) (h2 : t.cr.length ≤ 1000000) (h3 : t.ls.length ≤ 1000000) (r : Int) (p : Pk) (o : Out) (ho : o.cps.length ≤ 64) :
  Contract2 Tryz.prog 110 [.agg [.oref 900 t.dl.length, .oref 901 t.cr.length, .oref 902 t.ls.length], .d (.int .i64 r), pkT p, outT o] [] (rowT3 t) (.agg [.oref 900 (noteR t r p o).dl.length, .oref 901 (noteR t r p o).cr.length, .oref 902 (noteR t r p o).ls.length]) [] (rowT3 (noteR t r p o)) := by
 have hlc := local13_c r o p
 simp only [outT, pkT, Pk.cs, List.map] at hlc
 refine contract2_of Tryz.func110 rfl (fun E0 => ?_)
 refine awp.sound (g := .mk) (ow := []) (kp := (fun k => k==0||k==1||k==2||k==3||k==4||k==6||k==7||k==8||k==9||k==20||k==34)) ?_
 rw [Tryz.ntmps110]
 simp -dsimp [pkT, Pk.cs, outT, rowT3]
 try refine ⟨?_, ⟨by kernel_rfl⟩⟩
 refine ACall.of hlc [] 0 ?_
 have hll : (locV r o p).length ≤ 64 := by unfold locV; rw [List.length_map]; exact bitsI_len _
 have hn0 : noteR t r p o = ⟨t.dl ++ locV r o p, t.cr ++ o.cps.map (fun c => (r, c.1, c.2.bits)), if o.lost = 0#64 then t.ls else t.ls ++ [(r, o.lost)]⟩ := rfl
 rw [hn0]
 clear hn0
 generalize locV r o p = LV at hll ⊢
 have hdl : dLen 11 (LV.map dlC) := dLen_map 11 _ _ fun _ => rfl
 obtain ⟨oloc, olost, ocps⟩ := o
 simp only at ho ⊢
 have hCl : (ocps.map fun c => (r, c.1, c.2.bits)).length = ocps.length := by simp
 have hCg : ∀ (j : Nat) (c : Int × Pk), ocps[j]? = some c → (ocps.map fun c => (r, c.1, c.2.bits))[j]? = some (r, c.1, c.2.bits) := fun j c h => by simp [h]
 generalize (ocps.map fun c => (r, c.1, c.2.bits)) = CRL at hCl hCg ⊢
 by_cases c0 : olost = 0#64
 ·simp -dsimp [c0, bv]
  and_intros
  all_goals try first | omega | exact hdl | exact rfl | exact ⟨by kernel_rfl⟩
  refine ALoop.of [] (fun k => k==0||k==1||k==2||k==3||k==4||k==6||k==7||k==8||k==9||k==20||k==34) (ι := { j : Nat // j ≤ ocps.length })
   (fun j => [(Pl.s 1, It.v (.d (.int .i64 r))),
    (Pl.o 900, It.row 138 11 (dd (t.dl.map dlC) ++ dd (LV.map dlC)) false), (Pl.o 901, It.row 158 3 (dd (t.cr.map crC) ++ dd (List.take j.1 (CRL.map crC))) false), (Pl.o 902, It.row 140 2 (dd (t.ls.map lsC)) false),
    (Pl.o 4, It.box [TV.oref 900 (t.dl.length + LV.length), TV.oref 901 (t.cr.length + j.1), TV.oref 902 (t.ls.length)]), (Pl.s 4, It.v (.ptr (Pl.o 4) 0)),
    (Pl.o 7, It.box [TV.d (.int IntKind.u64 (tn oloc)), TV.d (.int IntKind.u64 (tn olost)), TV.d (.sl (List.map cpC ocps))]), (Pl.s 7, It.v (.ptr (Pl.o 7) 0)),
    (Pl.o 8, It.box [TV.c (Value.slice none 0 0), TV.c (Value.slice none 0 0), TV.c (Value.slice none 0 0)]), (Pl.s 8, It.v (.ptr (Pl.o 8) 0)), (Pl.s 9, It.v (.d (.int .i64 j.1)))])
   (fun j => ocps.length - j.1) ⟨0, by omega⟩ ?_ ?_
  ·exact GS.to (by simp [c0])
  ·rintro ⟨j, j1⟩
   by_cases hj : j < ocps.length
   ·have hjz : (j : Int) < ocps.length := by omega
    have hg : ocps[j]? = some ocps[j] := List.getElem?_eq_getElem hj
    have hcg := hCg j _ hg
    generalize ocps[j] = c at hg hcg
    obtain ⟨c1, c2⟩ := c
    have hn1 : dd (List.take (j + 1) (CRL.map crC)) = dd (List.take j (CRL.map crC)) ++ [[TV.d (.int .i64 r), TV.d (.int .i64 c1), TV.d (bv c2.bits)]] := by
     rw [List.take_add_one, List.getElem?_map, hcg]; simp [dd, crC]
    have hm1 : min j CRL.length = j := by omega
    simp -dsimp [hg, hjz, cpC, Pk.cs, bv, hm1, wrap_i64 (n := (j : Int) + 1) (by omega) (by omega)]
    and_intros
    all_goals try first | omega | exact ⟨by kernel_rfl⟩
    exact ⟨⟨j + 1, by omega⟩, GS.to (by simp [hn1, bv, Nat.add_assoc]), by simp; omega⟩
   ·have hjz : ¬ (j : Int) < ocps.length := by omega
    obtain rfl : j = ocps.length := by omega
    have ht1 : List.take ocps.length (CRL.map crC) = CRL.map crC := List.take_of_length_le (by simp; omega)
    simp -dsimp [hjz]
    try refine ⟨?_, ⟨by kernel_rfl⟩⟩
    refine Fin.of ?_
    simp [ht1, c0, hCl, lsC, bv, rowT3]
 ·simp -dsimp [c0, bv]
  and_intros
  all_goals try first | omega | exact hdl | exact rfl | exact ⟨by kernel_rfl⟩
  refine ALoop.of [] (fun k => k==0||k==1||k==2||k==3||k==4||k==6||k==7||k==8||k==9||k==20||k==34) (ι := { j : Nat // j ≤ ocps.length })
   (fun j => [(Pl.s 1, It.v (.d (.int .i64 r))),
    (Pl.o 900, It.row 138 11 (dd (t.dl.map dlC) ++ dd (LV.map dlC)) false), (Pl.o 901, It.row 158 3 (dd (t.cr.map crC) ++ dd (List.take j.1 (CRL.map crC))) false), (Pl.o 902, It.row 140 2 (dd (t.ls.map lsC) ++ [[TV.d (.int .i64 r), TV.d (.int .u64 (tn olost))]]) false),
    (Pl.o 4, It.box [TV.oref 900 (t.dl.length + LV.length), TV.oref 901 (t.cr.length + j.1), TV.oref 902 (t.ls.length + 1)]), (Pl.s 4, It.v (.ptr (Pl.o 4) 0)),
    (Pl.o 7, It.box [TV.d (.int IntKind.u64 (tn oloc)), TV.d (.int IntKind.u64 (tn olost)), TV.d (.sl (List.map cpC ocps))]), (Pl.s 7, It.v (.ptr (Pl.o 7) 0)),
    (Pl.o 8, It.box [TV.c (Value.slice none 0 0), TV.c (Value.slice none 0 0), TV.c (Value.slice none 0 0)]), (Pl.s 8, It.v (.ptr (Pl.o 8) 0)), (Pl.s 9, It.v (.d (.int .i64 j.1)))])
   (fun j => ocps.length - j.1) ⟨0, by omega⟩ ?_ ?_
  ·exact GS.to (by simp [c0])
  ·rintro ⟨j, j1⟩
   by_cases hj : j < ocps.length
   ·have hjz : (j : Int) < ocps.length := by omega
    have hg : ocps[j]? = some ocps[j] := List.getElem?_eq_getElem hj
    have hcg := hCg j _ hg
    generalize ocps[j] = c at hg hcg
    obtain ⟨c1, c2⟩ := c
    have hn1 : dd (List.take (j + 1) (CRL.map crC)) = dd (List.take j (CRL.map crC)) ++ [[TV.d (.int .i64 r), TV.d (.int .i64 c1), TV.d (bv c2.bits)]] := by
     rw [List.take_add_one, List.getElem?_map, hcg]; simp [dd, crC]
    have hm1 : min j CRL.length = j := by omega
    simp -dsimp [hg, hjz, cpC, Pk.cs, bv, hm1, wrap_i64 (n := (j : Int) + 1) (by omega) (by omega)]
    and_intros
    all_goals try first | omega | exact ⟨by kernel_rfl⟩
    exact ⟨⟨j + 1, by omega⟩, GS.to (by simp [hn1, bv, Nat.add_assoc]), by simp; omega⟩
   ·have hjz : ¬ (j : Int) < ocps.length := by omega
    obtain rfl : j = ocps.length := by omega
    have ht1 : List.take ocps.length (CRL.map crC) = CRL.map crC := List.take_of_length_le (by simp; omega)
    simp -dsimp [hjz]
    try refine ⟨?_, ⟨by kernel_rfl⟩⟩
    refine Fin.of ?_
    simp [ht1, c0, hCl, lsC, bv, rowT3]
end Go.Proofs

namespace Go.Tr
open Go
theorem ACall.view {P : Program} {A : Actv} {ops : Array Oper} {i : Nat} {t : S} {k : List Pl → List (Pl × It) → Prop} {g : Tg k} (ss : List Nat)
  (h : (viewL t (ss.map .tmp)).C ∧ ACall P A ops i (over t (viewL t (ss.map .tmp)).W) (fun rp W => k ((viewL t (ss.map .tmp)).rp ++ rp) (W ++ (viewL t (ss.map .tmp)).W)) .mk) : ACall P A ops i t k g := by
 obtain ⟨h0, ⟨rp, W, h1, h2⟩⟩ := h
 exact ⟨⟨_, _, h1.viewed _ h0, h2⟩⟩
end Go.Tr

set_option maxHeartbeats 8000000
namespace Go.Proofs
open Go Go.Tr
theorem noteR_step {l : List Tb} {q : Int × Pk} {b : Tb} (hf : findT l q.1 = some b) (t : Trc) : stepT l q t = noteR t q.1 q.2 (fwdR b q.2).1 := by
 simp [stepT, hf, noteR]
theorem noteR_none {l : List Tb} {q : Int × Pk} (hf : findT l q.1 = none) (hq : q.2.bits ≠ 0#64) (t : Trc) : stepT l q t = noteR t q.1 q.2 ⟨0#64, q.2.bits, []⟩ := by
 simp [stepT, hf, noteR, hq, locV, bitsI_zero]
theorem fits_fit {l : List Tb} {p : Pk} {r : Int} (h : fitsR l p r = 0) : FitL l p ∧ (findT l r).isSome ∧ runR l p r = (runG l (wt p) [(r, p)] tr0, 0) := by
 unfold fitsR runR at h
 unfold runR
 split at h
 ·simp at h
 rename_i h0
 rw [if_neg h0]
 have h1 : chkA l = 0 := Classical.byContradiction fun a => h0 (.inl a)
 have h2 : p.ok = true := by
  cases hp : p.ok with
  | true => rfl
  | false => exact absurd (.inr hp) h0
 cases hf : findT l r with
 | none => rw [hf] at h; simp at h
 | some b =>
   rw [hf] at h
   simp only at h ⊢
   split at h
   ·simp at h
   rename_i h3
   rw [if_neg h3]
   split at h
   ·simp at h
   rename_i h4
   rw [if_neg h4]
   have e1 : p.subd = b.sd := Classical.byContradiction fun a => h4 (.inl a)
   have e2 : p.len = b.len := Classical.byContradiction fun a => h4 (.inr a)
   have hall := firstE_zero (l := _) (by simp) h1
   simp only [List.mem_cons, List.not_mem_nil, or_false, forall_eq_or_imp, forall_eq] at hall
   have hd : ∀ c ∈ l, c.sd = (l.headD tb0).sd ∧ c.len = (l.headD tb0).len := fun c hc => by
    have := List.any_eq_false.1 hall.2.2.2 c hc
    simpa using this
   have hb := hd b (findT_mem hf).1
   refine ⟨⟨h2, fun c hc => ⟨chkA_all h1 c hc, ?_, ?_, h2, h3⟩⟩, rfl, rfl⟩
   ·rw [(hd c hc).1, ← hb.1, e1]
   ·rw [(hd c hc).2, ← hb.2, e2]
theorem fits_not {l : List Tb} {p : Pk} {r : Int} (h : fitsR l p r ≠ 0) : runR l p r = (tr0, fitsR l p r) := by
 unfold fitsR runR at h ⊢
 split
 ·rfl
 rename_i h0
 rw [if_neg h0] at h
 cases hf : findT l r with
 | none => rfl
 | some b =>
   rw [hf] at h
   simp only at h ⊢
   split
   ·rfl
   rename_i h3
   rw [if_neg h3] at h
   split
   ·rfl
   rename_i h4
   rw [if_neg h4] at h
   simp at h
theorem run14_c (l : List Tb) (hl : SmL l) (p : Pk) (r : Int) : Contract Tryz.prog 56 [.d (.sl (tbs l)), pkT p, .d (.int .i64 r)] [] (.tup [trcT (runR l p r).1, .d (.int .i64 (runR l p r).2)]) [] [] := by
 have hfi := fits14_c l hl p r
 simp only [pkT, Pk.cs, List.map] at hfi
 refine contract_of Tryz.func56 rfl (fun E0 => ?_)
 refine awp.sound (g := .mk) (ow := [29, 1000110]) (kp := (fun k => k==0||k==1||k==2||k==4||k==6||k==7||k==8||k==9||k==10||k==11||k==12||k==13||k==14||k==15||k==16||k==22||k==33||k==56)) ?_
 rw [Tryz.ntmps56]
 simp -dsimp [pkT, Pk.cs]
 try refine ⟨?_, ⟨by kernel_rfl⟩⟩
 refine ACall.of hfi [] 0 ?_
 by_cases h1 : fitsR l p r = 0
 rotate_left
 ·simp -dsimp [h1]
  try refine ⟨?_, ⟨by kernel_rfl⟩⟩
  refine Fin.box (.o 6) rfl ?_
  simp -dsimp
  refine Fin.of ?_
  simp [fits_not h1, trcT, tr0]
 simp -dsimp [h1]
 try refine ⟨?_, ⟨by kernel_rfl⟩⟩
 obtain ⟨hF, hfr, hr⟩ := fits_fit h1
 have hwt := wt_le hF.ok
 rw [hr]
 have hsum1 : wsum [(r, p)] = wt p := by simp [wsum]
 refine ALoop.of [29, 1000110] (fun k => k==0||k==1||k==2||k==4||k==6||k==7||k==8||k==9||k==10||k==11||k==12||k==13||k==14||k==15||k==16||k==22||k==33||k==56) (ι := { z : Nat × Nat × List (Int × Pk) × Trc // runG l (wt p) [(r, p)] tr0 = runG l z.1 (z.2.2.1.drop z.2.1) z.2.2.2 ∧ wsum (z.2.2.1.drop z.2.1) ≤ z.1 ∧ z.2.1 + z.1 ≤ 8129 ∧ z.2.1 ≤ z.2.2.1.length ∧ (∀ q ∈ z.2.2.1.drop z.2.1, FitL l q.2 ∧ (findT l q.1 = none → q.2.bits ≠ 0#64)) ∧ z.2.2.2.dl.length + 64 * z.1 ≤ 600000 ∧ z.2.2.2.cr.length + 64 * z.1 ≤ 600000 ∧ z.2.2.2.ls.length + z.1 ≤ 600000 })
  (fun z => [(Pl.s 0, It.v (.d (.sl (tbs l)))), (Pl.o 6, It.box [TV.c (Value.slice none 0 0), TV.c (Value.slice none 0 0), TV.c (Value.slice none 0 0)]), (Pl.s 6, It.v (.ptr (Pl.o 6) 0)), (Pl.s 7, It.v (.d (.int .i64 0))),
   (Pl.o 10, It.box [TV.oref 70 z.1.2.2.2.dl.length, TV.oref 71 z.1.2.2.2.cr.length, TV.oref 72 z.1.2.2.2.ls.length]), (Pl.s 10, It.v (.ptr (Pl.o 10) 0)),
   (Pl.o 70, It.row 138 11 (dd (z.1.2.2.2.dl.map dlC)) false), (Pl.o 71, It.row 158 3 (dd (z.1.2.2.2.cr.map crC)) false), (Pl.o 72, It.row 140 2 (dd (z.1.2.2.2.ls.map lsC)) false),
   (Pl.o 29, It.row 167 12 (dd (z.1.2.2.1.map cpC)) false), (Pl.s 9, It.v (.oref 29 z.1.2.2.1.length)), (Pl.s 11, It.v (.d (.int .i64 z.1.2.1)))])
  (fun z => z.1.1) ⟨(wt p, 0, [(r, p)], tr0), rfl, by simp only [List.drop_zero, hsum1]; omega, by simp only; omega, by simp, by intro q hq; simp at hq; subst hq; exact ⟨hF, fun e => by simp [e] at hfr⟩, by simp [tr0]; omega, by simp [tr0]; omega, by simp [tr0]; omega⟩ ?_ ?_
 ·refine (GS.ownBp (.o 10) 0 70 (cs := [.c (.slice none 0 0), .c (.slice none 0 0), .c (.slice none 0 0)]) 138 11 (by simp) (by simp) (by simp) (by simp)).trans ?_
  simp only [put1, Pl.o.injEq, reduceCtorEq, if_false, if_true, Nat.reduceEqDiff, List.set]
  refine (GS.ownBp (.o 10) 1 71 (cs := [.oref 70 0, .c (.slice none 0 0), .c (.slice none 0 0)]) 158 3 (by simp) (by simp) (by simp) (by simp)).trans ?_
  simp only [put1, Pl.o.injEq, reduceCtorEq, if_false, if_true, Nat.reduceEqDiff, List.set]
  exact GS.ownB' (.o 10) 2 72 (cs := [.oref 70 0, .oref 71 0, .c (.slice none 0 0)]) 140 2 (by simp) (by simp) (by simp) (by simp) (by simp [tr0, cpC, Pk.cs])
 ·rintro ⟨⟨n, i, Q, t⟩, i1, i2, i3, i4, i5, i6, i7, i8⟩
  simp only at i1 i2 i3 i4 i5 i6 i7 i8
  by_cases hi : i < Q.length
  ·have hiz : (i : Int) < Q.length := by omega
   have hg : Q[i]? = some Q[i] := List.getElem?_eq_getElem hi
   have hd : Q.drop i = Q[i] :: Q.drop (i + 1) := List.drop_eq_getElem_cons hi
   generalize Q[i] = q at hg hd
   obtain ⟨q1, q2⟩ := q
   rw [hd] at i1 i2 i5
   rw [wsum_cons] at i2
   have hq := nextQ_wt l (q1, q2)
   have hQl := len_wsum (Q.drop (i + 1))
   rw [List.length_drop] at hQl
   have hw1 : 1 ≤ wt q2 := by unfold wt; omega
   simp only at i2 hq
   obtain ⟨n, rfl⟩ : ∃ j, n = j + 1 := ⟨n - 1, by omega⟩
   rw [runG] at i1
   have hFq := (i5 (q1, q2) (by simp)).1
   have hFb := (i5 (q1, q2) (by simp)).2
   have hfq := find11_c l hl q1
   have hgr : (dd (Q.map cpC))[i]? = some (TV.d (.int .i64 q1) :: TV.d (.sl []) :: q2.cs.map .d) := by simp [dd, hg, cpC]
   simp -dsimp [hiz, hgr, Pk.cs]
   and_intros
   all_goals try first | omega | exact ⟨by kernel_rfl⟩
   have step : ∀ (o : Out) (Q' : List (Int × Pk)) (i' : Int), GS { E0 := E0, N := 70 }
     (Tr.look [(Pl.s 0, It.v (.d (.sl (tbs l)))), (Pl.o 6, It.box [TV.c (Value.slice none 0 0), TV.c (Value.slice none 0 0), TV.c (Value.slice none 0 0)]), (Pl.s 6, It.v (.ptr (Pl.o 6) 0)), (Pl.s 7, It.v (.d (.int .i64 0))),
      (Pl.o 10, It.box [TV.oref 1900 (noteR t q1 q2 o).dl.length, TV.oref 1901 (noteR t q1 q2 o).cr.length, TV.oref 1902 (noteR t q1 q2 o).ls.length]), (Pl.s 10, It.v (.ptr (Pl.o 10) 0)),
      (Pl.o 1900, It.row 138 11 (dd ((noteR t q1 q2 o).dl.map dlC)) false), (Pl.o 1901, It.row 158 3 (dd ((noteR t q1 q2 o).cr.map crC)) false), (Pl.o 1902, It.row 140 2 (dd ((noteR t q1 q2 o).ls.map lsC)) false),
      (Pl.o 29, It.row 167 12 (dd (Q'.map cpC)) false), (Pl.s 9, It.v (.oref 29 Q'.length)), (Pl.s 11, It.v (.d (.int .i64 i')))])
     (Tr.look [(Pl.s 0, It.v (.d (.sl (tbs l)))), (Pl.o 6, It.box [TV.c (Value.slice none 0 0), TV.c (Value.slice none 0 0), TV.c (Value.slice none 0 0)]), (Pl.s 6, It.v (.ptr (Pl.o 6) 0)), (Pl.s 7, It.v (.d (.int .i64 0))),
      (Pl.o 10, It.box [TV.oref 70 (noteR t q1 q2 o).dl.length, TV.oref 71 (noteR t q1 q2 o).cr.length, TV.oref 72 (noteR t q1 q2 o).ls.length]), (Pl.s 10, It.v (.ptr (Pl.o 10) 0)),
      (Pl.o 70, It.row 138 11 (dd ((noteR t q1 q2 o).dl.map dlC)) false), (Pl.o 71, It.row 158 3 (dd ((noteR t q1 q2 o).cr.map crC)) false), (Pl.o 72, It.row 140 2 (dd ((noteR t q1 q2 o).ls.map lsC)) false),
      (Pl.o 29, It.row 167 12 (dd (Q'.map cpC)) false), (Pl.s 9, It.v (.oref 29 Q'.length)), (Pl.s 11, It.v (.d (.int .i64 i')))]) := fun o Q' i' => by
    refine GS.trans (GS.ren (a := 1900) (b := 70) (by decide) (by rw [Tr.look_o]; simp)) ?_
    rw [renS_look (by decide) (by simp)]
    refine GS.trans (GS.ren (a := 1901) (b := 71) (by decide) (by rw [Tr.look_o]; simp)) ?_
    rw [renS_look (by decide) (by simp)]
    exact GS.ren' 1902 72 (by decide) (by simp) (by simp)
   have rest : ∀ o : Out, o.cps.length ≤ 64 → runG l (wt p) [(r, p)] tr0 = runG l n (Q.drop (i + 1) ++ o.cps) (noteR t q1 q2 o) → wsum o.cps + 1 ≤ wt q2 → (∀ c ∈ o.cps, FitL l c.2 ∧ (findT l c.1 = none → c.2.bits ≠ 0#64)) →
     ∃ j : { z : Nat × Nat × List (Int × Pk) × Trc // runG l (wt p) [(r, p)] tr0 = runG l z.1 (z.2.2.1.drop z.2.1) z.2.2.2 ∧ wsum (z.2.2.1.drop z.2.1) ≤ z.1 ∧ z.2.1 + z.1 ≤ 8129 ∧ z.2.1 ≤ z.2.2.1.length ∧ (∀ q ∈ z.2.2.1.drop z.2.1, FitL l q.2 ∧ (findT l q.1 = none → q.2.bits ≠ 0#64)) ∧ z.2.2.2.dl.length + 64 * z.1 ≤ 600000 ∧ z.2.2.2.cr.length + 64 * z.1 ≤ 600000 ∧ z.2.2.2.ls.length + z.1 ≤ 600000 }, j.1 = (n, i + 1, Q ++ o.cps, noteR t q1 q2 o) := fun o ho e1 e2 e3 => by
    have hdrop : (Q ++ o.cps).drop (i + 1) = Q.drop (i + 1) ++ o.cps := List.drop_append_of_le_length (by omega)
    have hlv : (locV q1 o q2).length ≤ 64 := by unfold locV; rw [List.length_map]; exact bitsI_len _
    refine ⟨⟨(n, i + 1, Q ++ o.cps, noteR t q1 q2 o), by simp only [hdrop]; exact e1, by simp only [hdrop, wsum_app]; omega, by simp only; omega, by simp only [List.length_append]; omega, ?_, ?_, ?_, ?_⟩, rfl⟩
    ·intro q hq
     simp only [hdrop] at hq
     rcases List.mem_append.1 hq with hq | hq
     ·exact i5 q (by simp [hq])
     ·exact e3 q hq
    ·simp only [noteR, List.length_append]; omega
    ·simp only [noteR, List.length_append, List.length_map]; omega
    ·simp only [noteR]; split <;> (try simp only [List.length_append, List.length_cons, List.length_nil]) <;> omega
   cases hfd : findT l q1 with
   | none =>
     have eN : nextQ l (q1, q2) = [] := by simp [nextQ, hfd]
     have eS := noteR_none (q := (q1, q2)) hfd (hFb hfd) t
     rw [eN, eS] at i1
     obtain ⟨jj, hjj⟩ := rest ⟨0#64, q2.bits, []⟩ (by simp) i1 (by simp [wsum]; omega) (by simp)
     rw [hfd] at hfq
     simp only [foundT, Option.getD_none, Option.isSome_none, tb0, tblT] at hfq
     have hnt := note14_c t (by omega) (by omega) (by omega) q1 q2 ⟨0#64, q2.bits, []⟩ (by simp)
     simp only [pkT, Pk.cs, List.map, outT, rowT3] at hnt
     refine ACall.of hfq [] 0 ?_
     simp -dsimp [hiz]
     try refine ⟨?_, ⟨by kernel_rfl⟩⟩
     refine ACall.view [63] ?_
     simp -dsimp
     try refine ⟨?_, ⟨by kernel_rfl⟩⟩
     refine ACall.of2 hnt [] [(900, 70), (901, 71), (902, 72)] 1000 ?_
     simp -dsimp [bv, wrap_i64 (n := (i : Int) + 1) (by omega) (by omega)]
     and_intros
     all_goals try first | omega | exact ⟨by kernel_rfl⟩
     refine ⟨jj, ?_, by rw [hjj]; simp⟩
     rw [hjj]
     refine (GS.to ?_).trans (step ⟨0#64, q2.bits, []⟩ (Q ++ []) ((i : Int) + 1))
     simp [bv, Pk.cs]
   | some b2 =>
     have hb2 : b2.Sm := hl.t b2 (List.mem_of_find?_eq_some hfd)
     have hB2 := hFq.all b2 (findT_mem hfd).1
     obtain ⟨hV1, hV2⟩ := fwd_spec hB2
     have eN : nextQ l (q1, q2) = (fwdV b2 q2).cps := by simp [nextQ, hfd, hV1]
     have eS := noteR_step (q := (q1, q2)) hfd t
     have hnf := next_fit (q := (q1, q2)) hFq
     have hRI := (RunI.step (l := l) (q := (q1, q2)) (Q := []) (t := tr0) ⟨fun c hc => by simp at hc; subst hc; exact ⟨hFq, hFb⟩, by simp [tr0], by simp [tr0], by simp [tr0]⟩).fit
     rw [List.nil_append] at hRI
     rw [eN] at i1 hq hRI
     rw [eS, hV1] at i1
     have hcl := fwdR_len b2 q2
     rw [hV1] at hcl
     simp only at hcl i1
     have hdo := do13_c b2 hb2 q2 hB2.ck hFq.ok hB2.len
     rw [hfd] at hfq
     simp only [foundT, Option.getD_some, Option.isSome_some, tblT] at hfq
     clear hV1 hV2 eN eS hnf
     generalize fwdV b2 q2 = o at i1 hq hRI hcl hdo
     obtain ⟨jj, hjj⟩ := rest o hcl i1 hq hRI
     have hnt := note14_c t (by omega) (by omega) (by omega) q1 q2 o hcl
     simp only [pkT, Pk.cs, List.map, outT, rowT3, tblT] at hnt hdo
     have hdl : dLen 12 (o.cps.map cpC) := dLen_map 12 _ _ fun _ => rfl
     refine ACall.of hfq [] 0 ?_
     simp -dsimp [hiz]
     try refine ⟨?_, ⟨by kernel_rfl⟩⟩
     refine ACall.of hdo [] 0 ?_
     simp -dsimp
     try refine ⟨?_, ⟨by kernel_rfl⟩⟩
     refine ACall.of2 hnt [] [(900, 70), (901, 71), (902, 72)] 1000 ?_
     simp -dsimp [bv, wrap_i64 (n := (i : Int) + 1) (by omega) (by omega)]
     and_intros
     all_goals try first | omega | exact hdl | exact ⟨by kernel_rfl⟩
     refine ⟨jj, ?_, by rw [hjj]; simp⟩
     rw [hjj]
     refine (GS.to ?_).trans (step o (Q ++ o.cps) ((i : Int) + 1))
     simp [bv, Pk.cs]
  ·have hiz : ¬ (i : Int) < Q.length := by omega
   have e0 : Q.drop i = [] := List.drop_eq_nil_of_le (by omega)
   rw [e0, runG_nil] at i1
   simp -dsimp [hiz]
   try refine ⟨?_, ⟨by kernel_rfl⟩⟩
   refine Fin.box (.o 6) rfl ?_
   simp -dsimp
   refine Fin.of ?_
   simp [trcT, i1]
end Go.Proofs

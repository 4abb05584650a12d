/-
  What functions of the program compute, stated as contracts over plain data; the conditions of each stand in its own statement.
-/
import Derived.Test.YtjgeggdefiejbaaGreatDoorN28
import Derived.Test.YtjgeggdefiejbaaGreatDoorN16
import Derived.Test.YtjgeggdefiejbaaGreatDoorN26
import Derived.Test.YtjgeggdefiejbaaGreatDoorN25
set_option linter.unusedSimpArgs false
set_option linter.unusedVariables false
set_option maxRecDepth 100000
set_option maxHeartbeats 4000000
namespace Go.Proofs
open Go Go.Tr
def endE (l : List Tb) (id pl : Int) : Nat → Int → Bool × Int × Nat
 | 0, r => match findT l r with
   | none => (false, r, 0)
   | some b => if hopB b id pl = 0 then (false, r, 0) else if hopB b id pl = r then (true, r, 0) else (false, r, 0)
 | t + 1, r => match findT l r with
   | none => (false, r, t + 1)
   | some b => if hopB b id pl = 0 then (false, r, t + 1) else if hopB b id pl = r then (true, r, t + 1) else endE l id pl t (hopB b id pl)
theorem endE_le (l : List Tb) (id pl : Int) : ∀ (t : Nat) (r : Int), (endE l id pl t r).2.2 ≤ t
 | 0, r => by
   rw [endE]
   cases findT l r with
   | none => simp
   | some b => simp only; split <;> (try split) <;> simp
 | t + 1, r => by
   rw [endE]
   cases findT l r with
   | none => simp
   | some b =>
     have := endE_le l id pl t (hopB b id pl)
     simp only; split
     ·simp
     ·split
      ·simp
      ·omega
structure WayE (k : Nat) (p : Pk) (e : Bool × Int × Nat) (t : Trc) : Prop where
 yes : e.1 = true → t.dl = [(e.2.1, pkD p k (p.ttl - e.2.2))] ∧ t.ls = []
 no : e.1 = false → t.dl = [] ∧ ∃ B, t.ls = [(e.2.1, B)]
theorem way_endE {l : List Tb} {k : Nat} (hk : k < 64) {id pl : Int} : ∀ (n : Nat) {p : Pk} {r : Int}, p.ttl.toNat + 1 ≤ n → FitL l p → p.bits.getLsbD k = true → idAt p k = id → plnP p = pl → WayE k p (endE l id pl p.ttl.toNat r) (way l k n (r, p))
 | 0, p, r, hn, _, _, _, _ => by omega
 | n + 1, p, r, hn, hF, hb, hid, hpl => by
   have ht := ok_ttl hF.ok
   obtain ⟨m, hm⟩ : ∃ m : Nat, p.ttl = m := ⟨p.ttl.toNat, by omega⟩
   have hm2 : p.ttl.toNat = m := by omega
   rw [way, hm2]
   cases h1 : findT l r with
   | none =>
     have e : endE l id pl m r = (false, r, m) := by cases m <;> simp [endE, h1]
     rw [e]
     exact ⟨fun h => by simp at h, fun _ => ⟨rfl, _, rfl⟩⟩
   | some b =>
     have hbr := (findT_mem h1).2
     have hB := hF.all b (findT_mem h1).1
     have e : hopAt b p k = hopB b id pl := by rw [hopAt_eq hB.ck, hid, hpl]
     simp only
     by_cases c0 : hopAt b p k = 0
     ·have e2 : endE l id pl m r = (false, r, m) := by cases m <;> simp [endE, h1, ← e, c0]
      rw [if_pos c0, e2]
      exact ⟨fun h => by simp at h, fun _ => ⟨rfl, _, rfl⟩⟩
     by_cases c1 : hopAt b p k = b.r
     ·have e2 : endE l id pl m r = (true, r, m) := by
       have : hopB b id pl = r := by rw [← e, c1, hbr]
       have h0 : ¬ hopB b id pl = 0 := by rw [← e]; exact c0
       cases m <;> simp only [endE, h1] <;> rw [if_neg h0, if_pos this]
      rw [if_neg c0, if_pos c1, e2]
      refine ⟨fun _ => ⟨?_, rfl⟩, fun h => by simp at h⟩
      rw [onlyR_eq hF.ok hk hb]
      simp [pkD, hm]
     by_cases c2 : p.ttl = 0
     ·obtain rfl : m = 0 := by omega
      have e2 : endE l id pl 0 r = (false, r, 0) := by
       simp only [endE, h1]
       rw [← e, if_neg c0, if_neg (by rw [← hbr]; exact c1)]
      rw [if_neg c0, if_neg c1, if_pos c2, e2]
      exact ⟨fun h => by simp at h, fun _ => ⟨rfl, _, rfl⟩⟩
     rw [if_neg c0, if_neg c1, if_neg c2]
     obtain ⟨j, rfl⟩ : ∃ j, m = j + 1 := ⟨m - 1, by omega⟩
     have e2 : endE l id pl (j + 1) r = endE l id pl j (hopAt b p k) := by
      simp only [endE, h1]
      rw [← e, if_neg c0, if_neg (by rw [← hbr]; exact c1)]
     have hr := (hopAt_at hB.ck c0).2
     have et : (cpk b p (hopAt b p k)).ttl = p.ttl - 1 := rfl
     have ih := way_endE hk n (p := cpk b p (hopAt b p k)) (r := hopAt b p k) (by rw [et]; omega) (hF.mask c2 _) ((cpk_bit hB hk hr).2 ⟨hb, rfl⟩) (id := id) (pl := pl) (by rw [cpk, idAt_mask]; exact hid) (by rw [cpk, plnP_mask hF.ok c2]; exact hpl)
     rw [show (cpk b p (hopAt b p k)).ttl.toNat = j by rw [et]; omega] at ih
     rw [e2]
     refine ⟨fun h => ?_, fun h => ?_⟩
     ·obtain ⟨a1, a2⟩ := ih.yes h
      refine ⟨?_, by simp [Trc.app, a2]⟩
      simp only [Trc.app, List.nil_append, a1]
      rw [cpk, pkD_mask, show (pkMask p (maskP b (plnP p) p.set (hopAt b p k))).ttl = p.ttl - 1 from rfl]
      congr 3
      omega
     ·obtain ⟨a1, B, a2⟩ := ih.no h
      exact ⟨by simp [Trc.app, a1], B, by simp [Trc.app, a2]⟩
theorem run_endE {l : List Tb} {p : Pk} (hF : FitL l p) (r : Int) {k : Nat} (hk : k < 64) (hb : p.bits.getLsbD k = true) :
  WayE k p (endE l (idAt p k) (plnP p) p.ttl.toNat r) ((runG l (wt p) [(r, p)] tr0).at k) := by
 rw [run_at hF r hk hb]
 exact way_endE hk _ (Nat.le_refl _) hF hb rfl rfl
def ansE (e : Bool × Int × Nat) (id : Int) : List Int := if e.1 = true then [1, e.2.1, id, (e.2.2 : Int)] else [2, e.2.1, id, 0]
theorem ansE_len (e : Bool × Int × Nat) (id : Int) : (ansE e id).length = 4 := by unfold ansE; split <;> rfl
theorem ansE_id (e : Bool × Int × Nat) (id : Int) : (ansE e id).getD 2 0 = id := by unfold ansE; split <;> rfl
def ansK (l : List Tb) (p : Pk) (r : Int) (k : Nat) : List Int := ansE (endE l (idAt p k) (plnP p) p.ttl.toNat r) (idAt p k)
def ansL (l : List Tb) (p : Pk) (r : Int) : List (List Int) := (bitsL p.bits).map (ansK l p r)
def atAll (p : Pk) : Bool := (bitsL p.bits).all fun k => atB p.set k p.len
def sendP (l : List Tb) (p : Pk) (r : Int) : List (List Int) × Int :=
 if (runR l p r).2 ≠ 0 then ([], (runR l p r).2) else if p.mode ≠ 3 then ([], 7) else if atAll p = true then (ansL l p r, 0) else ([], 2)
def colD (p : Pk) (U : Trc) : List (List Int) := U.dl.flatMap fun d => (bitsL d.2.bits).map fun k => [1, d.1, idAt p k, d.2.ttl]
def colS (p : Pk) (U : Trc) : List (List Int) := U.ls.flatMap fun x => (bitsL x.2).map fun k => [2, x.1, idAt p k, 0]
def colA (p : Pk) (U : Trc) : List (List Int) := colD p U ++ colS p U
def byId (x y : List Int) : Int := if x.getD 2 0 < y.getD 2 0 then -1 else if y.getD 2 0 < x.getD 2 0 then 1 else 0
theorem byId_lt (x y : List Int) : byId x y < 0 ↔ x.getD 2 0 < y.getD 2 0 := by
 unfold byId
 by_cases h : x.getD 2 0 < y.getD 2 0
 ·rw [if_pos h]; exact ⟨fun _ => h, fun _ => by omega⟩
 ·rw [if_neg h]
  split
  ·exact ⟨fun h1 => by omega, fun h1 => absurd h1 h⟩
  ·exact ⟨fun h1 => by omega, fun h1 => absurd h1 h⟩
theorem bits_nodup : ∀ (L : List (BitVec 64)), (∀ k < 64, (L.filter fun B => B.getLsbD k).length ≤ 1) → (L.flatMap bitsL).Nodup
 | [], _ => by simp
 | B :: L, h => by
   have hr : ∀ k < 64, (L.filter fun B => B.getLsbD k).length ≤ 1 := fun k hk => by
    have := h k hk
    rw [List.filter_cons] at this
    split at this
    ·rw [List.length_cons] at this; omega
    ·exact this
   rw [List.flatMap_cons, List.nodup_append]
   refine ⟨bitsL_nodup B, bits_nodup L hr, fun k hk j hj e => ?_⟩
   subst e
   obtain ⟨h1, h2⟩ := mem_bitsL.1 hk
   obtain ⟨C, hC, hkC⟩ := List.mem_flatMap.1 hj
   have h3 := (mem_bitsL.1 hkC).2
   have := h k h1
   rw [List.filter_cons, if_pos h2, List.length_cons] at this
   have h0 : L.filter (fun B => B.getLsbD k) = [] := List.length_eq_zero_iff.1 (by omega)
   have : C ∈ L.filter fun B => B.getLsbD k := List.mem_filter.2 ⟨hC, h3⟩
   rw [h0] at this; simp at this
theorem key_eq : ∀ {a b : List (List Int)}, a.Pairwise (fun x y => x.getD 2 0 < y.getD 2 0) → b.Pairwise (fun x y => x.getD 2 0 < y.getD 2 0) → (∀ x, x ∈ a ↔ x ∈ b) → a = b
 | [], [], _, _, _ => rfl
 | [], y :: b, _, _, h => by have := (h y).2 (by simp); simp at this
 | x :: a, [], _, _, h => by have := (h x).1 (by simp); simp at this
 | x :: a, y :: b, ha, hb, h => by
   rw [List.pairwise_cons] at ha hb
   have e : x = y := by
    rcases List.mem_cons.1 ((h x).1 (by simp)) with e | e
    ·exact e
    ·rcases List.mem_cons.1 ((h y).2 (by simp)) with e2 | e2
     ·exact e2.symm
     ·have := hb.1 x e; have := ha.1 y e2; omega
   subst e
   rw [key_eq ha.2 hb.2 fun z => ?_]
   constructor
   ·intro hz
    rcases List.mem_cons.1 ((h z).1 (by simp [hz])) with e | e
    ·subst e; have := ha.1 z hz; omega
    ·exact e
   ·intro hz
    rcases List.mem_cons.1 ((h z).2 (by simp [hz])) with e | e
    ·subst e; have := hb.1 z hz; omega
    ·exact e
section
variable {l : List Tb} {p : Pk} {r : Int}
theorem idAt_lt {p : Pk} (hA : atAll p = true) {j k : Nat} (hj : j ∈ bitsL p.bits) (hk : k ∈ bitsL p.bits) (h : j < k) : idAt p j < idAt p k := by
 have h1 := List.all_eq_true.1 hA j hj
 have h2 := List.all_eq_true.1 hA k hk
 unfold idAt
 rw [if_pos h1, if_pos h2]; omega
theorem ansL_asc (hA : atAll p = true) : (ansL l p r).Pairwise fun x y => x.getD 2 0 < y.getD 2 0 := by
 unfold ansL
 rw [List.pairwise_map]
 refine (List.Pairwise.imp_of_mem (fun {a b} ha hb hab => ?_) (List.Pairwise.sublist List.filter_sublist List.pairwise_lt_range : (bitsL p.bits).Pairwise fun a b => a < b))
 rw [ansK, ansK, ansE_id, ansE_id]
 exact idAt_lt hA ha hb hab
theorem cnt_one (hF : FitL l p) (k : Nat) (hk : k < 64) : (((runG l (wt p) [(r, p)] tr0).dl.map (fun d => d.2.bits) ++ (runG l (wt p) [(r, p)] tr0).ls.map (fun x => x.2)).filter fun B => B.getLsbD k).length = if p.bits.getLsbD k = true then 1 else 0 := by
 have h := (run_bit hF r hk).1
 rw [List.filter_append, List.length_append, List.filter_map, List.filter_map, List.length_map, List.length_map]
 exact h
theorem mem_col (hF : FitL l p) (hs : (findT l r).isSome) (x : List Int) : x ∈ colA p (runG l (wt p) [(r, p)] tr0) ↔ x ∈ ansL l p r := by
 unfold colA colD colS ansL
 rw [List.mem_append, List.mem_flatMap, List.mem_flatMap, List.mem_map]
 constructor
 ·rintro (⟨d, hd, hx⟩ | ⟨s, hs', hx⟩)
  ·obtain ⟨k, hk, rfl⟩ := List.mem_map.1 hx
   obtain ⟨hk64, hdk⟩ := mem_bitsL.1 hk
   have hp := ((run_dl hF r hk64 d).1 ⟨hd, hdk⟩).1
   have hW := run_endE hF r hk64 hp
   have hm : d ∈ ((runG l (wt p) [(r, p)] tr0).at k).dl := List.mem_filter.2 ⟨hd, hdk⟩
   refine ⟨k, mem_bitsL.2 ⟨hk64, hp⟩, ?_⟩
   cases he : (endE l (idAt p k) (plnP p) p.ttl.toNat r).1 with
   | false => rw [(hW.no he).1] at hm; simp at hm
   | true =>
     rw [(hW.yes he).1] at hm
     simp only [List.mem_singleton] at hm
     subst hm
     rw [ansK, ansE, if_pos he]
     have ht := ok_ttl hF.ok
     have hle := endE_le l (idAt p k) (plnP p) p.ttl.toNat r
     have hz : p.ttl - (p.ttl - ((endE l (idAt p k) (plnP p) p.ttl.toNat r).2.2 : Int)) = (endE l (idAt p k) (plnP p) p.ttl.toNat r).2.2 := by omega
     simp [pkD, hz]
  ·obtain ⟨k, hk, rfl⟩ := List.mem_map.1 hx
   obtain ⟨hk64, hdk⟩ := mem_bitsL.1 hk
   have hcnt := (run_bit hF r hk64).1
   have hm : s ∈ (runG l (wt p) [(r, p)] tr0).ls.filter fun x => x.2.getLsbD k := List.mem_filter.2 ⟨hs', hdk⟩
   have hp : p.bits.getLsbD k = true := by
    cases hb : p.bits.getLsbD k with
    | true => rfl
    | false =>
      rw [hb, if_neg (by simp)] at hcnt
      have : (runG l (wt p) [(r, p)] tr0).ls.filter (fun x => x.2.getLsbD k) = [] := List.length_eq_zero_iff.1 (by omega)
      rw [this] at hm; simp at hm
   have hW := run_endE hF r hk64 hp
   have hm2 : s ∈ ((runG l (wt p) [(r, p)] tr0).at k).ls := hm
   refine ⟨k, mem_bitsL.2 ⟨hk64, hp⟩, ?_⟩
   cases he : (endE l (idAt p k) (plnP p) p.ttl.toNat r).1 with
   | true => rw [(hW.yes he).2] at hm2; simp at hm2
   | false =>
     obtain ⟨B, hB⟩ := (hW.no he).2
     rw [hB] at hm2
     simp only [List.mem_singleton] at hm2
     subst hm2
     rw [ansK, ansE, if_neg (by rw [he]; simp)]
 ·rintro ⟨k, hk, rfl⟩
  obtain ⟨hk64, hp⟩ := mem_bitsL.1 hk
  have hW := run_endE hF r hk64 hp
  cases he : (endE l (idAt p k) (plnP p) p.ttl.toNat r).1 with
  | true =>
    have hm : ((endE l (idAt p k) (plnP p) p.ttl.toNat r).2.1, pkD p k (p.ttl - (endE l (idAt p k) (plnP p) p.ttl.toNat r).2.2)) ∈ ((runG l (wt p) [(r, p)] tr0).at k).dl := by rw [(hW.yes he).1]; simp
    obtain ⟨h1, h2⟩ := List.mem_filter.1 hm
    refine .inl ⟨_, h1, List.mem_map.2 ⟨k, mem_bitsL.2 ⟨hk64, h2⟩, ?_⟩⟩
    rw [ansK, ansE, if_pos he]
    have ht := ok_ttl hF.ok
    have hle := endE_le l (idAt p k) (plnP p) p.ttl.toNat r
    have hz : p.ttl - (p.ttl - ((endE l (idAt p k) (plnP p) p.ttl.toNat r).2.2 : Int)) = (endE l (idAt p k) (plnP p) p.ttl.toNat r).2.2 := by omega
    simp [pkD, hz]
  | false =>
    obtain ⟨B, hB⟩ := (hW.no he).2
    have hm : ((endE l (idAt p k) (plnP p) p.ttl.toNat r).2.1, B) ∈ ((runG l (wt p) [(r, p)] tr0).at k).ls := by rw [hB]; simp
    obtain ⟨h1, h2⟩ := List.mem_filter.1 hm
    refine .inr ⟨_, h1, List.mem_map.2 ⟨k, mem_bitsL.2 ⟨hk64, h2⟩, ?_⟩⟩
    rw [ansK, ansE, if_neg (by rw [he]; simp)]
theorem col_bits (hF : FitL l p) (k : Nat) : k ∈ (((runG l (wt p) [(r, p)] tr0).dl.map (fun d => d.2.bits) ++ (runG l (wt p) [(r, p)] tr0).ls.map (fun x => x.2)).flatMap bitsL) ↔ k ∈ bitsL p.bits := by
 rw [List.mem_flatMap]
 constructor
 ·rintro ⟨B, hB, hk⟩
  obtain ⟨hk64, hb⟩ := mem_bitsL.1 hk
  have h := cnt_one (r := r) hF k hk64
  refine mem_bitsL.2 ⟨hk64, ?_⟩
  cases hp : p.bits.getLsbD k with
  | true => rfl
  | false =>
    rw [hp, if_neg (by simp)] at h
    have h0 := List.length_eq_zero_iff.1 h
    have : B ∈ (((runG l (wt p) [(r, p)] tr0).dl.map (fun d => d.2.bits) ++ (runG l (wt p) [(r, p)] tr0).ls.map (fun x => x.2)).filter fun B => B.getLsbD k) := List.mem_filter.2 ⟨hB, hb⟩
    rw [h0] at this; simp at this
 ·intro hk
  obtain ⟨hk64, hp⟩ := mem_bitsL.1 hk
  have h := cnt_one (r := r) hF k hk64
  rw [if_pos hp] at h
  obtain ⟨B, hB⟩ := List.exists_mem_of_length_pos (l := (((runG l (wt p) [(r, p)] tr0).dl.map (fun d => d.2.bits) ++ (runG l (wt p) [(r, p)] tr0).ls.map (fun x => x.2)).filter fun B => B.getLsbD k)) (by omega)
  obtain ⟨h1, h2⟩ := List.mem_filter.1 hB
  exact ⟨B, h1, mem_bitsL.2 ⟨hk64, h2⟩⟩
theorem col_ids (p : Pk) (U : Trc) : (colA p U).map (fun x => x.getD 2 0) = ((U.dl.map (fun d => d.2.bits) ++ U.ls.map (fun x => x.2)).flatMap bitsL).map (idAt p) := by
 unfold colA colD colS
 rw [List.map_append, List.map_flatMap, List.map_flatMap, List.flatMap_append, List.map_append, List.map_flatMap, List.map_flatMap, List.flatMap_map, List.flatMap_map]
 simp [List.map_map, Function.comp_def]
theorem col_nodup (hF : FitL l p) (hA : atAll p = true) : ((colA p (runG l (wt p) [(r, p)] tr0)).map fun x => x.getD 2 0).Nodup := by
 rw [col_ids]
 have hn := bits_nodup _ fun k hk => by rw [cnt_one (r := r) hF k hk]; split <;> omega
 unfold List.Nodup at hn ⊢
 rw [List.pairwise_map]
 refine hn.imp_of_mem fun {a b} ha hb hab e => ?_
 have h1 := (col_bits hF a).1 ha
 have h2 := (col_bits hF b).1 hb
 rcases Nat.lt_or_gt_of_ne hab with h | h
 ·have := idAt_lt hA h1 h2 h; omega
 ·have := idAt_lt hA h2 h1 h; omega
theorem col_pre (hF : FitL l p) (hA : atAll p = true) : ∀ x ∈ colA p (runG l (wt p) [(r, p)] tr0), ∀ y ∈ colA p (runG l (wt p) [(r, p)] tr0), x.getD 2 0 = y.getD 2 0 → x = y := by
 have hn := col_nodup (r := r) hF hA
 generalize colA p (runG l (wt p) [(r, p)] tr0) = L at hn
 induction L with
 | nil => simp
 | cons z L ih =>
   rw [List.map_cons, List.nodup_cons] at hn
   intro x hx y hy e
   rcases List.mem_cons.1 hx with rfl | hx <;> rcases List.mem_cons.1 hy with rfl | hy
   ·rfl
   ·exact absurd (List.mem_map.2 ⟨y, hy, e.symm⟩) hn.1
   ·exact absurd (List.mem_map.2 ⟨x, by assumption, e⟩) hn.1
   ·exact ih hn.2 x hx y hy e
theorem col_sorted (hF : FitL l p) (hs : (findT l r).isSome) (hA : atAll p = true) : (colA p (runG l (wt p) [(r, p)] tr0)).mergeSort (fun x y => !decide (byId y x < 0)) = ansL l p r := by
 have hn := col_nodup (r := r) hF hA
 have hm := mem_col hF hs
 generalize colA p (runG l (wt p) [(r, p)] tr0) = L at hn hm
 have h1 := List.pairwise_mergeSort (le := fun x y : List Int => !decide (byId y x < 0)) (fun a b c h1 h2 => by simp [byId_lt] at *; omega) (fun a b => by simp [byId_lt]; omega) L
 have hp := List.mergeSort_perm L (fun x y : List Int => !decide (byId y x < 0))
 have h2 : ((L.mergeSort (fun x y => !decide (byId y x < 0))).map fun x => x.getD 2 0).Nodup := (hp.map _).nodup_iff.2 hn
 unfold List.Nodup at h2
 rw [List.pairwise_map] at h2
 refine key_eq ((h1.and h2).imp fun h => ?_) (ansL_asc hA) fun x => ?_
 ·have h3 := h.1
  have h4 := h.2
  rw [Bool.not_eq_true', decide_eq_false_iff_not, byId_lt] at h3
  omega
 ·rw [hp.mem_iff]; exact hm x
end
end Go.Proofs

set_option linter.unusedSimpArgs false
set_option linter.unusedVariables false
set_option maxRecDepth 100000
set_option maxHeartbeats 4000000
namespace Go.Proofs
open Go Go.Tr
theorem chkA_like {l : List Tb} (h : chkA l = 0) : ∀ b ∈ l, ∀ c ∈ l, b.sd = c.sd ∧ b.len = c.len := fun b hb c hc => by
 have := firstE_zero (l := _) (by simp) h
 simp only [List.mem_cons, List.not_mem_nil, or_false, forall_eq_or_imp, forall_eq] at this
 have h1 := List.any_eq_false.1 this.2.2.2 b hb
 have h2 := List.any_eq_false.1 this.2.2.2 c hc
 simp at h1 h2
 exact ⟨h1.1.trans h2.1.symm, h1.2.trans h2.2.symm⟩
theorem run_fitL {l : List Tb} {p : Pk} {r : Int} (h : (runR l p r).2 = 0) : FitL l p ∧ (findT l r).isSome ∧ runR l p r = (runG l (wt p) [(r, p)] tr0, 0) := by
 unfold runR at h ⊢
 split at h
 ·simp at h
 rename_i h1
 have hA : chkA l = 0 := Classical.byContradiction fun g => h1 (.inl g)
 have hp : p.ok = true := by
  cases e : p.ok with
  | true => rfl
  | false => exact absurd (.inr e) h1
 cases hf : findT l r with
 | none => simp [hf] at h
 | some b =>
   simp only [hf] at h ⊢
   split at h
   ·simp at h
   rename_i h2
   split at h
   ·simp at h
   rename_i h3
   have hb := (findT_mem hf).1
   have e1 : p.subd = b.sd := Classical.byContradiction fun g => h3 (.inl g)
   have e2 : p.len = b.len := Classical.byContradiction fun g => h3 (.inr g)
   refine ⟨⟨hp, fun c hc => ?_⟩, rfl, ?_⟩
   ·have hl := chkA_like hA c hc b hb
    exact ⟨chkA_all hA c hc, by rw [hl.1, e1], by rw [hl.2, e2], hp, h2⟩
   ·rw [if_neg h1, if_neg h2, if_neg h3]
def pkOne (b : Tb) (id en ttl : Int) : Pk := ⟨3, b.sd, plSet id b.len, b.len, ttl, en, 0, 0, bitB (plBit id b.len), ByteArray.empty⟩
def a0 : List Int := [0, 0, 0, 0]
theorem bitsL_one {k : Nat} (hk : k < 64) : bitsL (bitB k) = [k] := by
 have h : ∀ i, i ∈ bitsL (bitB k) ↔ i = k := fun i => by
  unfold bitsL
  rw [List.mem_filter, List.mem_range]
  constructor
  ·rintro ⟨h1, h2⟩
   have := (bitB_iff h1).1 h2
   omega
  ·rintro rfl
   exact ⟨hk, (bitB_iff hk).2 rfl⟩
 have nd : (bitsL (bitB k)).Nodup := List.Pairwise.filter _ List.nodup_range
 have h2 : bitsL (bitB k) ≠ [] := fun e => by have := (h k).2 rfl; rw [e] at this; simp at this
 match hb : bitsL (bitB k), h, nd, h2 with
 | [], _, _, h2 => exact absurd rfl h2
 | [x], h, _, _ => rw [(h x).1 (by simp)]
 | x :: y :: L, h, nd, _ =>
   have e1 := (h x).1 (by simp)
   have e2 := (h y).1 (by simp)
   rw [List.nodup_cons] at nd
   exact absurd (by simp [e1, e2]) nd.1
theorem one_ok {l : List Tb} {r id en ttl : Int} {b : Tb} (hA : chkA l = 0) (hf : findT l r = some b) (hv : (validLen b.len && inB id 1 256) = true) (he : 0 ≤ en ∧ en ≤ 1023) (ht : 0 ≤ ttl ∧ ttl ≤ 63) :
  sendP l (pkOne b id en ttl) r = ([ansE (endE l id (en % 8) ttl.toNat r) id], 0) := by
 have hb := (findT_mem hf).1
 have hvl : validLen b.len = true := (Bool.and_eq_true_iff.1 hv).1
 have hid : 1 ≤ id ∧ id ≤ 256 := by
  have := (Bool.and_eq_true_iff.1 hv).2
  simpa [inB] using this
 have hset := plSet_le (id := id) hvl
 have hbit := plBit_lt (id := id) hvl
 have hcs := validLen_cases hvl
 obtain ⟨k, hk⟩ : ∃ k : Nat, plBit id b.len = k := ⟨(plBit id b.len).toNat, by omega⟩
 have hk64 : k < 64 := by rcases hcs with h | h | h | h <;> omega
 have hsum : plSet id b.len * b.len + k + 1 = id := by
  rw [← hk]
  unfold plSet plBit
  rw [if_pos hv, if_pos hv]
  have := Int.mul_ediv_add_emod (id - 1) b.len
  rw [Int.mul_comm] at this
  omega
 have hck := chkA_all hA b hb
 have hhd := (chk_parts hck).1
 have hB : bitsL (pkOne b id en ttl).bits = [k] := by
  show bitsL (bitB (plBit id b.len)) = [k]
  rw [hk]; exact bitsL_one hk64
 have hok : (pkOne b id en ttl).ok = true := by
  refine (ok_iff _).2 ⟨⟨by simp [pkOne], by simp [pkOne]⟩, ?_, ⟨hset.1, hset.2⟩, ?_, ht, he, by simp [pkOne], by simp [pkOne], by simp [pkOne]⟩
  ·have := hhd.2.1
   unfold inR at this
   exact this
  ·exact validB_of hvl fun j hj hjb => by
    have : (bitB (plBit id b.len)).getLsbD j = true := hjb
    rw [hk] at this
    have h2 := (bitB_iff hj).1 this
    show (j : Int) < b.len
    omega
 have hat : atB (plSet id b.len) k b.len = true := by
  unfold atB
  simp only [hvl, inB, Bool.and_eq_true, decide_eq_true_eq]
  refine ⟨trivial, ⟨by omega, by omega⟩, ⟨by omega, by omega⟩, by omega⟩
 have hidA : idAt (pkOne b id en ttl) k = id := by
  unfold idAt
  rw [if_pos (show atB (pkOne b id en ttl).set k (pkOne b id en ttl).len = true from hat)]; exact hsum
 have hpl : plnP (pkOne b id en ttl) = en % 8 := by
  unfold plnP
  rw [if_pos hok]; rfl
 have hall : atAll (pkOne b id en ttl) = true := by
  unfold atAll
  rw [hB]
  simp only [List.all_cons, List.all_nil, Bool.and_true]
  exact hat
 have hrun : (runR l (pkOne b id en ttl) r).2 = 0 := by
  unfold runR
  rw [if_neg (by simp [hA, hok]), hf]
  simp only
  rw [if_neg (by simp [pkOne]), if_neg (by simp [pkOne])]
 unfold sendP
 rw [if_neg (by simp [hrun]), if_neg (by simp [pkOne]), if_pos hall, ansL, hB]
 simp only [List.map_cons, List.map_nil, ansK, hidA, hpl]
 rfl
end Go.Proofs

set_option linter.unusedSimpArgs false
set_option maxRecDepth 100000
set_option maxHeartbeats 4000000
namespace Go.Proofs
open Go Go.Tr
def fitsR (l : List Tb) (p : Pk) (r : Int) : Int := (runR l p r).2
end Go.Proofs

set_option linter.unusedSimpArgs false
namespace Go.Tr
open Go
theorem ACall.view {P : Program} {A : Actv} {ops : Array Oper} {i : Nat} {t : S} {k : List Pl → List (Pl × It) → Prop} {g : Tg k} (ss : List Nat)
  (h : (viewL t (ss.map .tmp)).C ∧ ACall P A ops i (over t (viewL t (ss.map .tmp)).W) (fun rp W => k ((viewL t (ss.map .tmp)).rp ++ rp) (W ++ (viewL t (ss.map .tmp)).W)) .mk) : ACall P A ops i t k g := by
 obtain ⟨h0, ⟨rp, W, h1, h2⟩⟩ := h
 exact ⟨⟨_, _, h1.viewed _ h0, h2⟩⟩
end Go.Tr

set_option linter.unusedSimpArgs false
set_option maxRecDepth 100000
set_option maxHeartbeats 8000000
namespace Go.Proofs
open Go Go.Tr
theorem fits_fit {l : List Tb} {p : Pk} {r : Int} (h : fitsR l p r = 0) : FitL l p ∧ (findT l r).isSome ∧ runR l p r = (runG l (wt p) [(r, p)] tr0, 0) := by
 unfold fitsR runR at h
 unfold runR
 split at h
 ·simp at h
 rename_i h0
 rw [if_neg h0]
 have h1 : chkA l = 0 := Classical.byContradiction fun a => h0 (.inl a)
 have h2 : p.ok = true := by
  cases hp : p.ok with
  | true => rfl
  | false => exact absurd (.inr hp) h0
 cases hf : findT l r with
 | none => rw [hf] at h; simp at h
 | some b =>
   rw [hf] at h
   simp only at h ⊢
   split at h
   ·simp at h
   rename_i h3
   rw [if_neg h3]
   split at h
   ·simp at h
   rename_i h4
   rw [if_neg h4]
   have e1 : p.subd = b.sd := Classical.byContradiction fun a => h4 (.inl a)
   have e2 : p.len = b.len := Classical.byContradiction fun a => h4 (.inr a)
   have hall := firstE_zero (l := _) (by simp) h1
   simp only [List.mem_cons, List.not_mem_nil, or_false, forall_eq_or_imp, forall_eq] at hall
   have hd : ∀ c ∈ l, c.sd = (l.headD tb0).sd ∧ c.len = (l.headD tb0).len := fun c hc => by
    have := List.any_eq_false.1 hall.2.2.2 c hc
    simpa using this
   have hb := hd b (findT_mem hf).1
   refine ⟨⟨h2, fun c hc => ⟨chkA_all h1 c hc, ?_, ?_, h2, h3⟩⟩, rfl, rfl⟩
   ·rw [(hd c hc).1, ← hb.1, e1]
   ·rw [(hd c hc).2, ← hb.2, e2]
theorem fits_not {l : List Tb} {p : Pk} {r : Int} (h : fitsR l p r ≠ 0) : runR l p r = (tr0, fitsR l p r) := by
 unfold fitsR runR at h ⊢
 split
 ·rfl
 rename_i h0
 rw [if_neg h0] at h
 cases hf : findT l r with
 | none => rfl
 | some b =>
   rw [hf] at h
   simp only at h ⊢
   split
   ·rfl
   rename_i h3
   rw [if_neg h3] at h
   split
   ·rfl
   rename_i h4
   rw [if_neg h4] at h
   simp at h
end Go.Proofs

set_option linter.unusedSimpArgs false
set_option maxRecDepth 100000
set_option maxHeartbeats 4000000
namespace Go.Proofs
open Go Go.Tr
end Go.Proofs

set_option linter.unusedSimpArgs false
set_option maxRecDepth 100000
set_option maxHeartbeats 4000000
namespace Go.Proofs
open Go Go.Tr
end Go.Proofs

set_option linter.unusedSimpArgs false
set_option maxRecDepth 100000
set_option maxHeartbeats 4000000
namespace Go.Proofs
open Go Go.Tr
@[simp] theorem isObj_tape (T : Tp) : isObj (tapeI T) = true := rfl
theorem locV_len (r : Int) (o : Out) (p : Pk) : (locV r o p).length ≤ 64 := by unfold locV; rw [List.length_map]; exact bitsI_len _
theorem stepT_len (l : List Tb) (q : Int × Pk) (t : Trc) : (stepT l q t).dl.length ≤ t.dl.length + 64 ∧ (stepT l q t).cr.length ≤ t.cr.length + 64 ∧ (stepT l q t).ls.length ≤ t.ls.length + 64 := by
 unfold stepT
 split
 ·simp
 ·rename_i b _
  have h1 := locV_len q.1 (fwdR b q.2).1 q.2
  have h2 := fwdR_len b q.2
  refine ⟨by simp only [List.length_append]; omega, by simp only [List.length_append, List.length_map]; omega, ?_⟩
  simp only
  split
  ·omega
  ·simp
theorem runG_len (l : List Tb) : ∀ (n : Nat) (Q : List (Int × Pk)) (t : Trc), (runG l n Q t).dl.length ≤ t.dl.length + 64 * n ∧ (runG l n Q t).cr.length ≤ t.cr.length + 64 * n ∧ (runG l n Q t).ls.length ≤ t.ls.length + 64 * n
 | 0, Q, t => by simp [runG]
 | n + 1, [], t => by rw [runG_nil]; omega
 | n + 1, q :: Q, t => by
   have h1 := runG_len l n (Q ++ nextQ l q) (stepT l q t)
   have h2 := stepT_len l q t
   rw [runG]; omega
theorem run_small (l : List Tb) (p : Pk) (r : Int) : (runR l p r).1.dl.length ≤ 1000000 ∧ (runR l p r).1.cr.length ≤ 1000000 ∧ (runR l p r).1.ls.length ≤ 1000000 := by
 by_cases h : fitsR l p r = 0
 ·obtain ⟨h1, _, h2⟩ := fits_fit h
  rw [h2]
  have h3 := runG_len l (wt p) [(r, p)] tr0
  have h4 := wt_le h1.ok
  simp only [tr0, List.length_nil] at h3 ⊢
  omega
 ·rw [fits_not h]; simp [tr0]
end Go.Proofs

set_option linter.unusedSimpArgs false
set_option maxRecDepth 100000
set_option maxHeartbeats 4000000
namespace Go.Proofs
open Go Go.Tr
end Go.Proofs

set_option linter.unusedSimpArgs false
set_option linter.unusedVariables false
namespace Go.Tr
open Go
def fam (b n : Nat) (f : Nat → It) (l : List (Pl × It)) : List (Pl × It) := (List.range n).map (fun i => (Pl.o (b + i), f i)) ++ l
theorem look_map_not {b : Nat} {f : Nat → It} {l : List (Pl × It)} {p : Pl} : ∀ {ks : List Nat}, (∀ i ∈ ks, p ≠ .o (b + i)) → look (ks.map (fun i => (Pl.o (b + i), f i)) ++ l) p = look l p
 | [], _ => rfl
 | k :: ks, h => by
   rw [List.map_cons, List.cons_append, look, if_neg (h k (by simp))]
   exact look_map_not fun i hi => h i (by simp [hi])
theorem look_map_in {b : Nat} {f : Nat → It} {l : List (Pl × It)} {i : Nat} : ∀ {ks : List Nat}, i ∈ ks → look (ks.map (fun i => (Pl.o (b + i), f i)) ++ l) (.o (b + i)) = f i
 | [], h => by simp at h
 | k :: ks, h => by
   rw [List.map_cons, List.cons_append, look]
   by_cases e : i = k
   ·subst e; rw [if_pos rfl]
   ·rw [if_neg (by simpa using e)]
    exact look_map_in (by simpa [e] using h)
theorem put1_map_not {b : Nat} {f : Nat → It} {l : List (Pl × It)} {p : Pl} {v : It} : ∀ {ks : List Nat}, (∀ i ∈ ks, p ≠ .o (b + i)) → put1 p v (ks.map (fun i => (Pl.o (b + i), f i)) ++ l) = ks.map (fun i => (Pl.o (b + i), f i)) ++ put1 p v l
 | [], _ => rfl
 | k :: ks, h => by
   rw [List.map_cons, List.cons_append, put1, if_neg (h k (by simp)), put1_map_not fun i hi => h i (by simp [hi])]
   rfl
theorem put1_map_in {b : Nat} {f : Nat → It} {l : List (Pl × It)} {v : It} {i : Nat} : ∀ {ks : List Nat}, i ∈ ks → ks.Nodup → put1 (.o (b + i)) v (ks.map (fun i => (Pl.o (b + i), f i)) ++ l) = ks.map (fun j => (Pl.o (b + j), if j = i then v else f j)) ++ l
 | [], h, _ => by simp at h
 | k :: ks, h, nd => by
   have nd' := List.nodup_cons.1 nd
   rw [List.map_cons, List.cons_append, put1, List.map_cons, List.cons_append]
   by_cases e : i = k
   ·subst e
    rw [if_pos rfl, if_pos rfl]
    congr 2
    refine List.map_congr_left fun j hj => ?_
    rw [if_neg (fun e => nd'.1 (by rw [← e]; exact hj))]
   ·rw [if_neg (by simpa using e), if_neg (fun h => e h.symm), put1_map_in (by simpa [e] using h) nd'.2]
variable {b n : Nat} {f : Nat → It} {l : List (Pl × It)}
theorem look_fam_s (k : Nat) : look (fam b n f l) (.s k) = look l (.s k) := look_map_not (by simp)
theorem look_fam_x (k : Nat) : look (fam b n f l) (.x k) = look l (.x k) := look_map_not (by simp)
theorem look_fam_o {k : Nat} (h : k < b) : look (fam b n f l) (.o k) = look l (.o k) := look_map_not (by intro i _ e; simp only [Pl.o.injEq] at e; omega)
theorem look_fam_o' {k : Nat} (h : b + n ≤ k) : look (fam b n f l) (.o k) = look l (.o k) := look_map_not (by intro i hi e; simp only [Pl.o.injEq] at e; have := List.mem_range.1 hi; omega)
theorem look_fam_in {i : Nat} (h : i < n) : look (fam b n f l) (.o (b + i)) = f i := look_map_in (List.mem_range.2 h)
theorem put1_fam_s (k : Nat) (v : It) : put1 (.s k) v (fam b n f l) = fam b n f (put1 (.s k) v l) := put1_map_not (by simp)
theorem put1_fam_x (k : Nat) (v : It) : put1 (.x k) v (fam b n f l) = fam b n f (put1 (.x k) v l) := put1_map_not (by simp)
theorem put1_fam_o {k : Nat} (v : It) (h : k < b) : put1 (.o k) v (fam b n f l) = fam b n f (put1 (.o k) v l) := put1_map_not (by intro i _ e; simp only [Pl.o.injEq] at e; omega)
theorem put1_fam_o' {k : Nat} (v : It) (h : b + n ≤ k) : put1 (.o k) v (fam b n f l) = fam b n f (put1 (.o k) v l) := put1_map_not (by intro i hi e; simp only [Pl.o.injEq] at e; have := List.mem_range.1 hi; omega)
theorem put1_fam_in {i : Nat} (v : It) (h : i < n) : put1 (.o (b + i)) v (fam b n f l) = fam b n (fun j => if j = i then v else f j) l := put1_map_in (List.mem_range.2 h) List.nodup_range
theorem ball_fam {P : Pl × It → Prop} : (∀ x ∈ fam b n f l, P x) ↔ (∀ i, i < n → P (.o (b + i), f i)) ∧ ∀ x ∈ l, P x := by
 unfold fam
 constructor
 ·intro h
  exact ⟨fun i hi => h _ (List.mem_append.2 (.inl (List.mem_map.2 ⟨i, List.mem_range.2 hi, rfl⟩))), fun x hx => h x (List.mem_append.2 (.inr hx))⟩
 ·rintro ⟨h1, h2⟩ x hx
  rcases List.mem_append.1 hx with hx | hx
  ·obtain ⟨i, hi, rfl⟩ := List.mem_map.1 hx
   exact h1 i (List.mem_range.1 hi)
  ·exact h2 x hx
theorem ball_fam2 {P : Pl → It → Prop} : (∀ p i, (p, i) ∈ fam b n f l → P p i) ↔ (∀ i, i < n → P (.o (b + i)) (f i)) ∧ ∀ p i, (p, i) ∈ l → P p i := by
 have h := ball_fam (b := b) (n := n) (f := f) (l := l) (P := fun x => P x.1 x.2)
 constructor
 ·intro g
  have := h.1 fun x hx => g x.1 x.2 hx
  exact ⟨this.1, fun p i hx => this.2 _ hx⟩
 ·intro g p i hx
  exact h.2 ⟨g.1, fun x hx => g.2 _ _ hx⟩ _ hx
theorem oIds_app : ∀ (a c : List (Pl × It)), oIds (a ++ c) = oIds a ++ oIds c
 | [], _ => rfl
 | (.o k, i) :: a, c => by simp [oIds, oIds_app a c]
 | (.s k, i) :: a, c => by simp [oIds, oIds_app a c]
 | (.x k, i) :: a, c => by simp [oIds, oIds_app a c]
theorem xIds_app : ∀ (a c : List (Pl × It)), xIds (a ++ c) = xIds a ++ xIds c
 | [], _ => rfl
 | (.o k, i) :: a, c => by simp [xIds, xIds_app a c]
 | (.s k, i) :: a, c => by simp [xIds, xIds_app a c]
 | (.x k, i) :: a, c => by simp [xIds, xIds_app a c]
theorem keptL_app (kp : Nat → Bool) : ∀ (a c : List (Pl × It)), keptL kp (a ++ c) = keptL kp a ++ keptL kp c
 | [], _ => rfl
 | (.o k, i) :: a, c => by simp [keptL_o, keptL_app kp a c]
 | (.s k, i) :: a, c => by
   simp only [List.cons_append, keptL_s, keptL_app kp a c]
   split <;> rfl
 | (.x k, i) :: a, c => by simp [keptL_x, keptL_app kp a c]
theorem oIds_map (b : Nat) (f : Nat → It) : ∀ ks : List Nat, oIds (ks.map fun i => (Pl.o (b + i), f i)) = ks.map (b + ·)
 | [] => rfl
 | k :: ks => by simp [oIds, oIds_map b f ks]
theorem xIds_map (b : Nat) (f : Nat → It) : ∀ ks : List Nat, xIds (ks.map fun i => (Pl.o (b + i), f i)) = []
 | [] => rfl
 | k :: ks => by simp [xIds, xIds_map b f ks]
theorem keptL_map (kp : Nat → Bool) (b : Nat) (f : Nat → It) : ∀ ks : List Nat, keptL kp (ks.map fun i => (Pl.o (b + i), f i)) = ks.map fun i => (Pl.o (b + i), f i)
 | [] => rfl
 | k :: ks => by simp [keptL_o, keptL_map kp b f ks]
theorem oIds_fam {k : Nat} : k ∈ oIds (fam b n f l) ↔ (b ≤ k ∧ k < b + n) ∨ k ∈ oIds l := by
 rw [fam, oIds_app, oIds_map, List.mem_append]
 refine or_congr ?_ Iff.rfl
 rw [List.mem_map]
 constructor
 ·rintro ⟨i, hi, rfl⟩
  have := List.mem_range.1 hi
  omega
 ·intro h
  exact ⟨k - b, List.mem_range.2 (by omega), by omega⟩
theorem xIds_fam : xIds (fam b n f l) = xIds l := by rw [fam, xIds_app, xIds_map, List.nil_append]
theorem keptL_fam (kp : Nat → Bool) : keptL kp (fam b n f l) = fam b n f (keptL kp l) := by rw [fam, keptL_app, keptL_map, fam]
theorem fam_snoc : fam b (n + 1) f l = fam b n f ((.o (b + n), f n) :: l) := by
 simp [fam, List.range_succ]
theorem fam_zero : fam b 0 f l = l := rfl
theorem renL_fam {a c : Nat} (h : a < b) : renL a c (fam b n f l) = fam b n (fun i => renI a c (f i)) (renL a c l) := by
 unfold renL fam
 rw [List.map_append, List.map_map]
 congr 1
 refine List.map_congr_left fun i _ => ?_
 simp only [Function.comp, renP, Prod.mk.injEq, and_true]
 simp only [renN, if_neg (show ¬ b + i = a by omega)]
theorem renL_nil (a c : Nat) : renL a c [] = [] := rfl
theorem renL_cons (a c : Nat) (x : Pl × It) (l : List (Pl × It)) : renL a c (x :: l) = (renP a c x.1, renI a c x.2) :: renL a c l := rfl
theorem fam_ne {a i k : Nat} (h : k < a) : ¬ a + i = k := by omega
theorem ne_fam {a i k : Nat} (h : k < a) : ¬ k = a + i := by omega
theorem rowsOnly_rep (po : Nat → Prop) (n : Nat) (x : D) : rowsOnly po (List.replicate n [TV.d x]) = True := by
 simp only [rowsOnly, eq_iff_iff, iff_true]
 intro e he
 rw [List.eq_of_mem_replicate he]
 exact ⟨trivial, trivial⟩
theorem Sub.fam {t : S} (h1 : ∀ j, j < n → f j = t (.o (b + j))) (h2 : ∀ x ∈ l, look (Tr.fam b n f l) x.1 = t x.1) (h3 : ∀ j, j < n → (f j).only (· ∈ oIds (Tr.fam b n f l))) (h4 : ∀ x ∈ l, x.2.only (· ∈ oIds (Tr.fam b n f l))) : Sub t (Tr.fam b n f l) :=
 ⟨ball_fam.2 ⟨fun j hj => by rw [look_fam_in hj]; exact h1 j hj, h2⟩, ball_fam.2 ⟨h3, h4⟩⟩
attribute [simp] look_fam_s look_fam_x look_fam_o look_fam_o' look_fam_in put1_fam_s put1_fam_x put1_fam_o put1_fam_o' put1_fam_in ball_fam ball_fam2 oIds_fam xIds_fam keptL_fam
end Go.Tr

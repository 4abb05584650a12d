/-
  What functions of the program compute, stated as contracts over plain data; the conditions of each stand in its own statement.
-/
import Derived.Test.YtjgeggdefiejbaaGreatDoorZM28
import Derived.Test.YtjgeggdefiejbaaGreatDoorZM30
set_option linter.unusedSimpArgs false
set_option linter.unusedVariables false
namespace Go.Proofs
open Go Go.Tr
def idPicks : List Int := [1, 1, 1, 2, 5]
def nIds (T : Tp) : Nat → Tp × Int × List Rt
 | 0 => (T, 0, [])
 | i + 1 => let s := nIds T i; let w := gPick s.1 idPicks; (w.2, s.2.1 + w.1, s.2.2 ++ [⟨s.2.1 + w.1, true⟩])
abbrev Mx := Nat → Nat → Bool
def mset (M : Mx) (a b : Nat) : Mx := fun i j => if i = a ∧ j = b then true else M i j
def nTree (T : Tp) : Nat → Tp × Mx
 | 0 => (T, fun _ _ => false)
 | i + 1 => let s := nTree T i; let w := gNext s.1 12
   if w.1 < 11 then (let v := gNext w.2 ((i : Int) + 1); (v.2, mset s.2 v.1.toNat (i + 1))) else (w.2, s.2)
def nMore (n : Nat) (T : Tp) (M : Mx) : Nat → Tp × Mx
 | 0 => (T, M)
 | k + 1 => let s := nMore n T M k; let a := gNext s.1 n; let b := gNext a.2 n
   (b.2, if a.1 = b.1 then s.2 else mset s.2 (min a.1 b.1).toNat (max a.1 b.1).toNat)
def capPicks : List Int := [0, 1, 2, 3, 5, 10, 1000]
def gLnk (flat : Bool) (x y : Int) (T : Tp) : Lk × Tp :=
 let c := gPick T capPicks
 if flat then (⟨x, y, 1, 1, c.1⟩, c.2) else
 let u := gRange c.2 1 20
 let v := gPick u.2 [1, 2, 3, u.1, 1000]
 let w := gRange v.2 1 20
 let z := gPick w.2 [v.1, v.1, w.1]
 (⟨x, y, v.1, z.1, c.1⟩, z.2)
def rid (rs : List Rt) (i : Nat) : Int := (rs.getD i ⟨0, false⟩).id
def pushK (flat : Bool) (rs : List Rt) (s : List Lk × Tp) (q : Nat × Nat) : List Lk × Tp :=
 let r := gLnk flat (rid rs q.1) (rid rs q.2) s.2; (s.1 ++ [r.1], r.2)
def rowP (M : Mx) (a m : Nat) : List (Nat × Nat) := ((List.range m).filter (M a)).map fun b => (a, b)
def prs (M : Mx) (n a b : Nat) : List (Nat × Nat) := ((List.range a).flatMap fun x => rowP M x n) ++ rowP M a b
def nLnk (flat : Bool) (rs : List Rt) (M : Mx) (T : Tp) (n a b : Nat) : List Lk × Tp := (prs M n a b).foldl (pushK flat rs) ([], T)
theorem rowP_succ (M : Mx) (a m : Nat) : rowP M a (m + 1) = rowP M a m ++ if M a m = true then [(a, m)] else [] := by
 unfold rowP
 rw [List.range_succ, List.filter_append, List.map_append]
 congr 1
 by_cases h : M a m = true
 ·simp [h]
 ·simp [h]
theorem nLnk_skip {flat : Bool} {rs : List Rt} {M : Mx} {T : Tp} {n a b : Nat} (h : M a b = false) : nLnk flat rs M T n a (b + 1) = nLnk flat rs M T n a b := by
 unfold nLnk prs
 rw [rowP_succ, h]; simp
theorem nLnk_push {flat : Bool} {rs : List Rt} {M : Mx} {T : Tp} {n a b : Nat} (h : M a b = true) : nLnk flat rs M T n a (b + 1) = pushK flat rs (nLnk flat rs M T n a b) (a, b) := by
 unfold nLnk prs
 rw [rowP_succ, h, if_pos rfl, ← List.append_assoc, List.foldl_append]; rfl
theorem nLnk_row {flat : Bool} {rs : List Rt} {M : Mx} {T : Tp} {n a : Nat} : nLnk flat rs M T n a n = nLnk flat rs M T n (a + 1) 0 := by
 unfold nLnk prs
 congr 1
 rw [List.range_succ, List.flatMap_append]
 simp [rowP]
structure NetP where
 n : Nat
 T1 : Tp
 rs : List Rt
 T2 : Tp
 M : Mx
 k : Nat
 T3 : Tp
 M2 : Mx
 flat : Bool
 T4 : Tp
def gNetP (T : Tp) (most : Int) : NetP :=
 let a := gRange T 1 most
 let n := a.1.toNat
 let r := nIds a.2 n
 let t := nTree r.1 (n - 1)
 let k := gNext t.1 ((n : Int) + 2)
 let m := nMore n k.2 t.2 k.1.toNat
 let f := gNext m.1 3
 ⟨n, a.2, r.2.2, r.1, t.2, k.1.toNat, k.2, m.2, decide (f.1 = 0), f.2⟩
def gNet (T : Tp) (most : Int) : Topo × Tp :=
 let P := gNetP T most
 (⟨P.rs, (nLnk P.flat P.rs P.M2 P.T4 P.n P.n 0).1⟩, (nLnk P.flat P.rs P.M2 P.T4 P.n P.n 0).2)
theorem pick_mem (T : Tp) {l : List Int} (h : 0 < l.length) : (gPick T l).1 ∈ l := by
 have h1 := gNext_nonneg T l.length
 have h2 := gNext_lt T (n := l.length) (by omega)
 unfold gPick
 rw [List.getD_eq_getElem?_getD, List.getElem?_eq_getElem (by omega)]
 exact List.getElem_mem _
theorem idPicks_r (T : Tp) : 1 ≤ (gPick T idPicks).1 ∧ (gPick T idPicks).1 ≤ 5 := by
 have := pick_mem T (l := idPicks) (by simp [idPicks])
 generalize (gPick T idPicks).1 = y at this ⊢
 simp [idPicks] at this; omega
theorem nIds_ok (T : Tp) : ∀ i : Nat, (nIds T i).2.2.length = i ∧ (i : Int) ≤ (nIds T i).2.1 ∧ (nIds T i).2.1 ≤ 5 * i ∧ (∀ x ∈ (nIds T i).2.2, 1 ≤ x.id ∧ x.id ≤ (nIds T i).2.1 ∧ x.cap = true) ∧ (nIds T i).2.2.Pairwise fun x y => x.id < y.id
 | 0 => by simp [nIds]
 | i + 1 => by
   obtain ⟨h1, h2, h3, h4, h5⟩ := nIds_ok T i
   have hp := idPicks_r (nIds T i).1
   simp only [nIds]
   refine ⟨by simp [h1], by omega, by omega, fun x hx => ?_, ?_⟩
   ·rcases List.mem_append.1 hx with hx | hx
    ·have := h4 x hx
     exact ⟨this.1, by omega, this.2.2⟩
    ·obtain rfl := List.mem_singleton.1 hx
     exact ⟨by simp only; omega, by simp only; omega, rfl⟩
   ·rw [List.pairwise_append]
    refine ⟨h5, List.pairwise_singleton _ _, fun x hx y hy => ?_⟩
    obtain rfl := List.mem_singleton.1 hy
    have := h4 x hx
    simp only; omega
def Up (n : Nat) (M : Mx) : Prop := ∀ i j, M i j = true → i < j ∧ j < n
theorem Up.set {n : Nat} {M : Mx} (h : Up n M) {a b : Nat} (hab : a < b) (hb : b < n) : Up n (mset M a b) := by
 intro i j e
 unfold mset at e
 split at e
 ·rename_i g; omega
 ·exact h i j e
theorem nTree_up (T : Tp) (n : Nat) : ∀ i : Nat, i ≤ n - 1 → Up n (nTree T i).2
 | 0, _ => fun i j e => by simp [nTree] at e
 | i + 1, h => by
   have ih := nTree_up T n i (by omega)
   simp only [nTree]
   split
   ·have h1 := gNext_nonneg (gNext (nTree T i).1 12).2 ((i : Int) + 1)
    have h2 := gNext_lt (gNext (nTree T i).1 12).2 (n := (i : Int) + 1) (by omega)
    exact ih.set (by omega) (by omega)
   ·exact ih
theorem nMore_up {n : Nat} (hn : 0 < n) (T : Tp) {M : Mx} (hM : Up n M) : ∀ k : Nat, Up n (nMore n T M k).2
 | 0 => hM
 | k + 1 => by
   have ih := nMore_up hn T hM k
   simp only [nMore]
   split
   ·exact ih
   ·have h1 := gNext_nonneg (nMore n T M k).1 n
    have h2 := gNext_lt (nMore n T M k).1 (n := n) (by omega)
    have h3 := gNext_nonneg (gNext (nMore n T M k).1 n).2 n
    have h4 := gNext_lt (gNext (nMore n T M k).1 n).2 (n := n) (by omega)
    exact ih.set (by omega) (by omega)
theorem capPicks_r (T : Tp) : 0 ≤ (gPick T capPicks).1 ∧ (gPick T capPicks).1 ≤ 1000 := by
 have := pick_mem T (l := capPicks) (by simp [capPicks])
 generalize (gPick T capPicks).1 = y at this ⊢
 simp [capPicks] at this; omega
theorem gLnk_ok (flat : Bool) (x y : Int) (T : Tp) : (gLnk flat x y T).1.a = x ∧ (gLnk flat x y T).1.b = y ∧ (1 ≤ (gLnk flat x y T).1.ca ∧ (gLnk flat x y T).1.ca ≤ 1000) ∧ (1 ≤ (gLnk flat x y T).1.cb ∧ (gLnk flat x y T).1.cb ≤ 1000) ∧ 0 ≤ (gLnk flat x y T).1.cap ∧ (gLnk flat x y T).1.cap ≤ 1000 := by
 have hc := capPicks_r T
 unfold gLnk
 simp only
 split
 ·exact ⟨rfl, rfl, by simp, by simp, hc.1, hc.2⟩
 ·generalize (gPick T capPicks).2 = T1
  have u1 := gRange_lo T1 1 20
  have u2 := gRange_hi T1 (a := 1) (b := 20) (by omega)
  generalize gRange T1 1 20 = u at u1 u2 ⊢
  have v1 := pick_mem u.2 (l := [1, 2, 3, u.1, 1000]) (by simp)
  generalize gPick u.2 [1, 2, 3, u.1, 1000] = v at v1 ⊢
  have v2 : 1 ≤ v.1 ∧ v.1 ≤ 1000 := by simp at v1; omega
  have w1 := gRange_lo v.2 1 20
  have w2 := gRange_hi v.2 (a := 1) (b := 20) (by omega)
  generalize gRange v.2 1 20 = w at w1 w2 ⊢
  have z1 := pick_mem w.2 (l := [v.1, v.1, w.1]) (by simp)
  generalize gPick w.2 [v.1, v.1, w.1] = z at z1 ⊢
  have z2 : 1 ≤ z.1 ∧ z.1 ≤ 1000 := by simp at z1; omega
  exact ⟨rfl, rfl, v2, z2, hc.1, hc.2⟩
theorem push_all (flat : Bool) (rs : List Rt) : ∀ (ps : List (Nat × Nat)) (s : List Lk × Tp), (ps.foldl (pushK flat rs) s).1.map (fun x => (x.a, x.b)) = s.1.map (fun x => (x.a, x.b)) ++ ps.map (fun q => (rid rs q.1, rid rs q.2)) ∧
  ((∀ x ∈ s.1, (1 ≤ x.ca ∧ x.ca ≤ 1000) ∧ (1 ≤ x.cb ∧ x.cb ≤ 1000) ∧ 0 ≤ x.cap ∧ x.cap ≤ 1000) → ∀ x ∈ (ps.foldl (pushK flat rs) s).1, (1 ≤ x.ca ∧ x.ca ≤ 1000) ∧ (1 ≤ x.cb ∧ x.cb ≤ 1000) ∧ 0 ≤ x.cap ∧ x.cap ≤ 1000)
 | [], s => ⟨by simp, fun h => h⟩
 | q :: ps, s => by
   obtain ⟨h1, h2⟩ := push_all flat rs ps (pushK flat rs s q)
   have hk := gLnk_ok flat (rid rs q.1) (rid rs q.2) s.2
   rw [List.foldl_cons]
   refine ⟨?_, fun h => h2 fun x hx => ?_⟩
   ·rw [h1]; simp [pushK, hk.1, hk.2.1]
   ·rcases List.mem_append.1 hx with hx | hx
    ·exact h x hx
    ·obtain rfl := List.mem_singleton.1 hx
     exact hk.2.2
theorem mem_rowP {M : Mx} {a m : Nat} {q : Nat × Nat} : q ∈ rowP M a m ↔ q.1 = a ∧ q.2 < m ∧ M q.1 q.2 = true := by
 obtain ⟨x, y⟩ := q
 simp only [rowP, List.mem_map, List.mem_filter, List.mem_range, Prod.mk.injEq]
 constructor
 ·rintro ⟨b, ⟨h1, h2⟩, rfl, rfl⟩; simp [h1, h2]
 ·rintro ⟨rfl, h1, h2⟩; simp [h1, h2]
theorem mem_prs {M : Mx} {n a : Nat} {q : Nat × Nat} (h : q ∈ prs M n a 0) : q.1 < a ∧ q.2 < n ∧ M q.1 q.2 = true := by
 simp only [prs, rowP, List.range_zero, List.filter_nil, List.map_nil, List.append_nil, List.mem_flatMap, List.mem_range] at h
 obtain ⟨x, hx, h⟩ := h
 have := mem_rowP.1 (show q ∈ rowP M x n from h)
 exact ⟨by omega, this.2⟩
theorem prs_pw (M : Mx) (n a : Nat) : (prs M n a 0).Pairwise fun q s => q.1 < s.1 ∨ (q.1 = s.1 ∧ q.2 < s.2) := by
 simp only [prs]
 rw [show rowP M a 0 = [] from rfl, List.append_nil]
 induction a with
 | zero => simp
 | succ a ih =>
   rw [List.range_succ, List.flatMap_append, List.pairwise_append]
   refine ⟨ih, ?_, fun q hq s hs => ?_⟩
   ·simp only [List.flatMap_cons, List.flatMap_nil, List.append_nil, rowP, List.pairwise_map]
    refine List.Pairwise.imp ?_ ((List.pairwise_lt_range (n := n)).filter _)
    intro x y h; exact .inr ⟨by first | rfl | trivial, h⟩
   ·obtain ⟨x, hx, hq⟩ := List.mem_flatMap.1 hq
    obtain ⟨y, hy, hs⟩ := List.mem_flatMap.1 hs
    have h1 := mem_rowP.1 hq
    have h2 := mem_rowP.1 hs
    have h3 := List.mem_range.1 hx
    have h4 := List.mem_singleton.1 hy
    left; omega
theorem rowP_len (M : Mx) (a m : Nat) : (rowP M a m).length ≤ m := by
 unfold rowP
 rw [List.length_map]
 exact Nat.le_trans (List.length_filter_le _ _) (by simp)
theorem prs_len (M : Mx) (n a : Nat) : (prs M n a 0).length ≤ a * n := by
 simp only [prs]
 rw [show rowP M a 0 = [] from rfl, List.append_nil]
 induction a with
 | zero => simp
 | succ a ih =>
   rw [List.range_succ, List.flatMap_append, List.length_append]
   have := rowP_len M a n
   simp only [List.flatMap_cons, List.flatMap_nil, List.append_nil]
   rw [Nat.succ_mul]; omega
theorem rid_lt {rs : List Rt} (h : rs.Pairwise fun x y => x.id < y.id) {i j : Nat} (hij : i < j) (hj : j < rs.length) : rid rs i < rid rs j := by
 unfold rid
 rw [List.getD_eq_getElem?_getD, List.getD_eq_getElem?_getD, List.getElem?_eq_getElem hj, List.getElem?_eq_getElem (by omega)]
 exact List.pairwise_iff_getElem.1 h i j (by omega) hj hij
theorem rid_has {rs : List Rt} {i : Nat} (hi : i < rs.length) : hasR rs (rid rs i) = true := by
 refine hasR_mem.2 (List.mem_map.2 ⟨rs[i], List.getElem_mem hi, ?_⟩)
 unfold rid
 rw [List.getD_eq_getElem?_getD, List.getElem?_eq_getElem hi]; rfl
theorem gNet_valid (T : Tp) {most : Int} (hm : 1 ≤ most ∧ most ≤ 7) : chkT (gNet T most).1 = 0 ∧ AllCap (gNet T most).1 ∧ 1 ≤ (gNet T most).1.rs.length ∧ ((gNet T most).1.rs.length : Int) ≤ most := by
 have a1 := gRange_lo T 1 most
 have a2 := gRange_hi T (a := 1) (b := most) (by omega)
 obtain ⟨r1, r2, r3, r4, r5⟩ := nIds_ok (gRange T 1 most).2 (gRange T 1 most).1.toNat
 have hn : 0 < (gRange T 1 most).1.toNat := by omega
 have hup : Up (gRange T 1 most).1.toNat (gNetP T most).M2 := nMore_up hn _ (nTree_up _ _ _ (Nat.le_refl _)) _
 have hrs : (gNetP T most).rs = (nIds (gRange T 1 most).2 (gRange T 1 most).1.toNat).2.2 := rfl
 have hnn : (gNetP T most).n = (gRange T 1 most).1.toNat := rfl
 have e1 : (gNet T most).1.rs = (gNetP T most).rs := rfl
 have e2 : (gNet T most).1.ls = ((prs (gNetP T most).M2 (gNetP T most).n (gNetP T most).n 0).foldl (pushK (gNetP T most).flat (gNetP T most).rs) ([], (gNetP T most).T4)).1 := rfl
 obtain ⟨g1, g2⟩ := push_all (gNetP T most).flat (gNetP T most).rs (prs (gNetP T most).M2 (gNetP T most).n (gNetP T most).n 0) ([], (gNetP T most).T4)
 rw [← e2] at g1 g2
 simp only [List.map_nil, List.nil_append] at g1
 have hlen : (gNet T most).1.ls.length = (prs (gNetP T most).M2 (gNetP T most).n (gNetP T most).n 0).length := by
  have := congrArg List.length g1; simpa using this
 have hpl := prs_len (gNetP T most).M2 (gNetP T most).n (gNetP T most).n
 have hn7 : (gNetP T most).n ≤ 7 := by rw [hnn]; omega
 have hmul : (gNetP T most).n * (gNetP T most).n ≤ 49 := Nat.mul_le_mul hn7 hn7
 have hmem : ∀ x ∈ (gNet T most).1.ls, ∃ q ∈ prs (gNetP T most).M2 (gNetP T most).n (gNetP T most).n 0, x.a = rid (gNetP T most).rs q.1 ∧ x.b = rid (gNetP T most).rs q.2 := fun x hx => by
  have : (x.a, x.b) ∈ (gNet T most).1.ls.map fun x => (x.a, x.b) := List.mem_map_of_mem hx
  rw [g1] at this
  obtain ⟨q, hq, e⟩ := List.mem_map.1 this
  simp only [Prod.mk.injEq] at e
  exact ⟨q, hq, e.1.symm, e.2.symm⟩
 have hq' : ∀ q ∈ prs (gNetP T most).M2 (gNetP T most).n (gNetP T most).n 0, q.1 < q.2 ∧ q.2 < (gNetP T most).rs.length := fun q hq => by
  have := mem_prs hq
  have h2 := hup q.1 q.2 this.2.2
  rw [hrs, r1]; exact h2
 have hpw : (gNetP T most).rs.Pairwise fun x y => x.id < y.id := by rw [hrs]; exact r5
 refine ⟨chkT_of (by rw [e1, hrs, r1]; omega) (by rw [hlen]; omega) (fun x hx => ?_) (by rw [e1]; exact hpw) (g2 (by simp)) (fun x hx => ?_) (fun x hx => ?_) ?_, fun x hx => ?_, by rw [e1, hrs, r1]; omega, by rw [e1, hrs, r1]; omega⟩
 ·rw [e1, hrs] at hx
  have := r4 x hx
  omega
 ·obtain ⟨q, hq, h1, h2⟩ := hmem x hx
  have := hq' q hq
  rw [e1, h1, h2]
  exact ⟨rid_has (by omega), rid_has this.2⟩
 ·obtain ⟨q, hq, h1, h2⟩ := hmem x hx
  have := hq' q hq
  rw [h1, h2]
  exact rid_lt hpw this.1 this.2
 ·have hpp : ((gNet T most).1.ls.map fun x => (x.a, x.b)).Pairwise fun u v => u.1 < v.1 ∨ (u.1 = v.1 ∧ u.2 < v.2) := by
   rw [g1, List.pairwise_map]
   refine List.Pairwise.imp_of_mem ?_ (prs_pw _ _ _)
   intro q s hq hs h
   have h1 := hq' q hq
   have h2 := hq' s hs
   rcases h with h | ⟨h, h'⟩
   ·exact .inl (rid_lt hpw h (by omega))
   ·exact .inr ⟨by simp only [h], rid_lt hpw h' h2.2⟩
  rw [List.pairwise_map] at hpp
  exact hpp
 ·rw [e1, hrs] at hx
  exact (r4 x hx).2.2
theorem insI_lenF (l : List Int) (n : Int) : (insI l n).length ≤ l.length + 1 := by
 unfold insI
 split
 ·omega
 ·simp; omega
def planPicks : List Int := [1, 1, 1, 2, 7, 9]
def nPlan (rs : List Rt) (ord : List Int) (T : Tp) : Nat → Tp × Int × List Ed
 | 0 => (T, 0, [])
 | i + 1 => let s := nPlan rs ord T i; let a := gNext s.1 4
   if a.1 = 0 then (a.2, s.2) else (let w := gPick a.2 planPicks; (w.2, s.2.1 + w.1, s.2.2 ++ [⟨rid rs (ord.getD i 0).toNat, s.2.1 + w.1⟩]))
def lenPicks : List Int := [8, 8, 16, 32, 64]
def gPlanN (rs : List Rt) (T : Tp) : Pn × Tp :=
 let a := gNext T 3
 let o := gOrder a.2 rs.length
 let s := nPlan rs o.1 o.2 rs.length
 if 0 < s.2.2.length then (let w := gPick s.1 lenPicks; (⟨a.1, w.1, s.2.2⟩, w.2)) else (⟨a.1, 0, s.2.2⟩, s.1)
theorem planPicks_r (T : Tp) : 1 ≤ (gPick T planPicks).1 ∧ (gPick T planPicks).1 ≤ 9 := by
 have := pick_mem T (l := planPicks) (by simp [planPicks])
 generalize (gPick T planPicks).1 = y at this ⊢
 simp [planPicks] at this; omega
theorem nPlan_ok (rs : List Rt) (ord : List Int) (T : Tp) (ho : ∀ x ∈ ord, 0 ≤ x ∧ x < (rs.length : Int)) (hn : ord.Nodup) : ∀ i : Nat, i ≤ ord.length →
  (nPlan rs ord T i).2.2.length ≤ i ∧ 0 ≤ (nPlan rs ord T i).2.1 ∧ (nPlan rs ord T i).2.1 ≤ 9 * i ∧ (∀ x ∈ (nPlan rs ord T i).2.2, (1 ≤ x.id ∧ x.id ≤ (nPlan rs ord T i).2.1) ∧ ∃ k : Nat, k < i ∧ x.r = rid rs (ord.getD k 0).toNat) ∧ (nPlan rs ord T i).2.2.Pairwise (fun x y => x.id < y.id) ∧
  (nPlan rs ord T i).2.2.Pairwise (fun x y => ∃ j k : Nat, j < k ∧ k < i ∧ x.r = rid rs (ord.getD j 0).toNat ∧ y.r = rid rs (ord.getD k 0).toNat)
 | 0, _ => by simp [nPlan]
 | i + 1, hi => by
   obtain ⟨h1, h2, h3, h4, h5, h6⟩ := nPlan_ok rs ord T ho hn i (by omega)
   simp only [nPlan]
   split
   ·refine ⟨by simp only; omega, h2, by simp only; omega, fun x hx => ?_, h5, h6.imp ?_⟩
    ·obtain ⟨a, k, hk, e⟩ := h4 x hx
     exact ⟨a, k, by omega, e⟩
    ·rintro x y ⟨j, k, a, b, c⟩
     exact ⟨j, k, a, by omega, c⟩
   ·have hp := planPicks_r (gNext (nPlan rs ord T i).1 4).2
    refine ⟨by simp; omega, by simp only; omega, by simp only; omega, fun x hx => ?_, ?_, ?_⟩
    ·rcases List.mem_append.1 hx with hx | hx
     ·obtain ⟨a, k, hk, e⟩ := h4 x hx
      exact ⟨⟨a.1, by simp only; omega⟩, k, by omega, e⟩
     ·obtain rfl := List.mem_singleton.1 hx
      exact ⟨⟨by simp only; omega, by simp only; omega⟩, i, by omega, rfl⟩
    ·rw [List.pairwise_append]
     refine ⟨h5, List.pairwise_singleton _ _, fun x hx y hy => ?_⟩
     obtain rfl := List.mem_singleton.1 hy
     have := (h4 x hx).1
     simp only; omega
    ·rw [List.pairwise_append]
     refine ⟨h6.imp ?_, List.pairwise_singleton _ _, fun x hx y hy => ?_⟩
     ·rintro x y ⟨j, k, a, b, c⟩
      exact ⟨j, k, a, by omega, c⟩
     ·obtain rfl := List.mem_singleton.1 hy
      obtain ⟨_, k, hk, e⟩ := h4 x hx
      exact ⟨k, i, hk, by omega, e, rfl⟩
theorem gPlanN_valid {g : Topo} (hg : chkT g = 0) (h7 : g.rs.length ≤ 7) (T : Tp) : planB (gPlanN g.rs T).1 = true ∧ 0 ≤ (gPlanN g.rs T).1.subd ∧ (gPlanN g.rs T).1.subd ≤ 2 ∧ ((gPlanN g.rs T).1.len = 0 ↔ (gPlanN g.rs T).1.es = []) ∧ (gPlanN g.rs T).1.es.length ≤ 7 ∧ ((gPlanN g.rs T).1.len = 0 ∨ validLen (gPlanN g.rs T).1.len = true) := by
 have hO := chkT_zero hg
 have hpw : g.rs.Pairwise fun x y => x.id < y.id := hO.rpw
 have s1 := gNext_nonneg T 3
 have s2 := gNext_lt T (n := 3) (by omega)
 generalize he : gNext T 3 = a at s1 s2
 have om := gOrder_mem a.2 g.rs.length
 have ol := gOrder_len a.2 g.rs.length
 have on : (gOrder a.2 (g.rs.length : Int)).1.Nodup := gOrderL_nodup _ _ _ _ List.nodup_nil (by simp)
 generalize ho : gOrder a.2 (g.rs.length : Int) = o at om ol on
 obtain ⟨h1, h2, h3, h4, h5, h6⟩ := nPlan_ok g.rs o.1 o.2 om on g.rs.length (by omega)
 generalize hs : nPlan g.rs o.1 o.2 g.rs.length = s at h1 h2 h3 h4 h5 h6
 have key : ∀ (len : Int), (validLen len = true ∨ (len = 0 ∧ s.2.2.length = 0)) → planB ⟨a.1, len, s.2.2⟩ = true := fun len hl => by
  have gi : ∀ i (hi : i < s.2.2.length), gid s.2.2 i = s.2.2[i].id ∧ grt s.2.2 i = s.2.2[i].r := fun i hi => by simp [gid, grt, List.getD, hi]
  have hb : ∀ i (hi : i < s.2.2.length), (1 ≤ s.2.2[i].id ∧ s.2.2[i].id ≤ 63) ∧ 1 ≤ s.2.2[i].r ∧ s.2.2[i].r ≤ 99 := fun i hi => by
   obtain ⟨e1, k, e2, e3⟩ := h4 _ (List.getElem_mem hi)
   refine ⟨by omega, ?_⟩
   have hkm := om (o.1.getD k 0) (by
    rw [List.getD_eq_getElem?_getD, List.getElem?_eq_getElem (by omega)]; exact List.getElem_mem _)
   have := rid_has (rs := g.rs) (i := (o.1.getD k 0).toNat) (by omega)
   have := hO.id this
   unfold inR at this
   omega
  refine planB_ok ?_ (fun i hi => ?_) (fun i j hj hi => ?_)
  ·rcases hl with hl | ⟨hl, hz⟩
   ·simp [baseB, inB, hl]; omega
   ·simp [baseB, inB, hl, hz]; omega
  ·have hi' : i < s.2.2.length := hi
   have b := hb i hi'
   have h3 := gi i hi'
   by_cases h0 : i = 0
   ·subst h0
    simp only [edB, inB, h3.1, h3.2, Bool.and_eq_true, Bool.or_eq_true, decide_eq_true_eq]
    simp; omega
   ·have h4 := gi (i - 1) (by omega)
    have h5 := List.pairwise_iff_getElem.1 h5 (i - 1) i (by omega) hi' (by omega)
    simp only [edB, inB, h3.1, h3.2, h4.1, Bool.and_eq_true, Bool.or_eq_true, decide_eq_true_eq]
    simp; omega
  ·have hi' : i < s.2.2.length := hi
   show grt s.2.2 i ≠ grt s.2.2 j
   rw [(gi i hi').2, (gi j (by omega)).2]
   obtain ⟨u, v, huv, hv, e1, e2⟩ := List.pairwise_iff_getElem.1 h6 j i (by omega) hi' hj
   rw [e1, e2]
   have gu : o.1.getD u 0 = o.1[u]'(by omega) := by rw [List.getD_eq_getElem?_getD, List.getElem?_eq_getElem (by omega)]; rfl
   have gv : o.1.getD v 0 = o.1[v]'(by omega) := by rw [List.getD_eq_getElem?_getD, List.getElem?_eq_getElem (by omega)]; rfl
   rw [gu, gv]
   have mu := om _ (List.getElem_mem (show u < o.1.length by omega))
   have mv := om _ (List.getElem_mem (show v < o.1.length by omega))
   have hne : o.1[u]'(by omega) ≠ o.1[v]'(by omega) := List.pairwise_iff_getElem.1 on u v (by omega) (by omega) huv
   rcases Int.lt_or_gt_of_ne hne with h | h
   ·have := rid_lt hpw (i := (o.1[u]'(by omega)).toNat) (j := (o.1[v]'(by omega)).toNat) (by omega) (by omega)
    omega
   ·have := rid_lt hpw (i := (o.1[v]'(by omega)).toNat) (j := (o.1[u]'(by omega)).toNat) (by omega) (by omega)
    omega
 unfold gPlanN
 simp only [he, ho, hs]
 split
 ·rename_i hp
  have hv := pick_mem s.1 (l := lenPicks) (by simp [lenPicks])
  have hl : validLen (gPick s.1 lenPicks).1 = true := by
   simp only [lenPicks, List.mem_cons, List.not_mem_nil, or_false] at hv
   rcases hv with h | h | h | h | h <;> rw [show (gPick s.1 lenPicks).1 = _ from h] <;> rfl
  have hz : (gPick s.1 lenPicks).1 ≠ 0 := fun e => by rw [e] at hl; simp [validLen] at hl
  refine ⟨key _ (.inl hl), s1, by simp only; omega, ?_, by simp only; omega, .inr hl⟩
  simp only
  constructor
  ·intro e; exact absurd e hz
  ·intro e; rw [e] at hp; simp at hp
 ·rename_i hp
  refine ⟨key 0 (.inr ⟨rfl, by omega⟩), s1, by simp only; omega, ?_, by simp only; omega, .inl rfl⟩
  simp only
  constructor
  ·intro _; exact List.length_eq_zero_iff.1 (by omega)
  ·intro _; first | rfl | trivial
set_option maxRecDepth 100000
set_option maxHeartbeats 4000000
@[simp] theorem nPlan_okF (rs : List Rt) (ord : List Int) (T : Tp) : ∀ i : Nat, TapeF (nPlan rs ord T i).1 = TapeF T
 | 0 => rfl
 | i + 1 => by
   have ih := nPlan_okF rs ord T i
   simp only [nPlan]
   split <;> simp [ih]
@[simp] theorem gPlanN_okF (rs : List Rt) (T : Tp) : TapeF (gPlanN rs T).2 = TapeF T := by
 unfold gPlanN
 simp only
 split <;> simp
theorem nPlan_len (rs : List Rt) (ord : List Int) (T : Tp) : ∀ i : Nat, (nPlan rs ord T i).2.2.length ≤ i ∧ 0 ≤ (nPlan rs ord T i).2.1 ∧ (nPlan rs ord T i).2.1 ≤ 9 * i
 | 0 => by simp [nPlan]
 | i + 1 => by
   have ih := nPlan_len rs ord T i
   have hp := planPicks_r (gNext (nPlan rs ord T i).1 4).2
   simp only [nPlan]
   split
   ·simp only; omega
   ·simp; omega
theorem planN_c (T : Tp) (hT : TapeF T) (g : Topo) (hg : g.rs.length ≤ 100) : Contract Tryz.prog 21 [.ptr (.x 0) 0, topT g] [tapeI T] (planT (gPlanN g.rs T).1) [tapeI (gPlanN g.rs T).2] [] := by
 refine contract_of Tryz.func21 rfl (fun E0 => ?_)
 refine awp.sound (g := .mk) (ow := []) (kp := (fun k => k==0||k==1||k==3||k==4||k==5||k==6||k==8||k==16||k==17||k==18||k==19||k==24||k==47)) ?_
 rw [Tryz.ntmps21]
 simp -dsimp [topT]
 try refine ⟨?_, ⟨by kernel_rfl⟩⟩
 refine ACall.of (nextF_c T hT 3 ⟨by omega, by omega⟩) [.x 0] 0 ?_
 have kA : TapeF (gNext T 3).2 := by simpa using hT
 generalize hA : gNext T 3 = a at kA
 simp -dsimp [topT]
 refine ACall.of (orderF_c a.2 kA g.rs.length (by omega)) [.x 0] 0 ?_
 have kO : TapeF (gOrder a.2 g.rs.length).2 := by simpa using kA
 have om := gOrder_mem a.2 g.rs.length
 have ol := gOrder_len a.2 g.rs.length
 generalize hO : gOrder a.2 (g.rs.length : Int) = o at kO om ol
 obtain ⟨ord, T1⟩ := o
 simp only at kO om ol
 simp -dsimp [ints]
 refine ALoop.of [] (fun k => k==0||k==1||k==3||k==4||k==5||k==6||k==8||k==16||k==17||k==18||k==19||k==24||k==47) (ι := { i : Nat // i ≤ ord.length })
  (fun z => [(Pl.s 0, It.v (.ptr (Pl.x 0) 0)), (Pl.o 3, It.box [TV.d (.sl (rts g.rs)), TV.d (.sl (lks g.ls))]), (Pl.s 3, It.v (.ptr (Pl.o 3) 0)), (Pl.o 4, It.box [TV.d (.int .i64 0), TV.d (.int .i64 0), TV.c (Value.slice none 0 0)]), (Pl.s 4, It.v (.ptr (Pl.o 4) 0)), (Pl.x 0, tapeI (nPlan g.rs ord T1 z.1).1), (Pl.o 5, It.box [TV.d (.int .i64 a.1), TV.d (.int .i64 0), TV.oref 700 (nPlan g.rs ord T1 z.1).2.2.length]), (Pl.s 5, It.v (.ptr (Pl.o 5) 0)), (Pl.o 700, It.row 39 2 (dd (eds (nPlan g.rs ord T1 z.1).2.2)) false), (Pl.s 6, It.v (.d (.int .i64 (nPlan g.rs ord T1 z.1).2.1))), (Pl.s 16, It.v (.d (ints ord))), (Pl.s 17, It.v (.d (.int .i64 ord.length))), (Pl.s 18, It.v (.d (.int .i64 z.1)))])
  (fun z => ord.length - z.1) ⟨0, by omega⟩ ?_ ?_
 ·exact GS.ownB' (.o 5) 2 700 (cs := [TV.d (.int .i64 a.1), TV.d (.int .i64 0), TV.c (Value.slice none 0 0)]) 39 2 rfl (by simp) (by simp) (by simp) (by simp [nPlan, eds, ints])
 rintro ⟨i, i1⟩
 have kI : TapeF (nPlan g.rs ord T1 i).1 := by simpa using kO
 obtain ⟨b1, b2, b3⟩ := nPlan_len g.rs ord T1 i
 by_cases hi : i < ord.length
 ·have hiz : (i : Int) < ord.length := by omega
  have hge : ord[i]? = some ord[i] := List.getElem?_eq_getElem hi
  have hgd : ord.getD i 0 = ord[i] := by rw [List.getD_eq_getElem?_getD, hge]; rfl
  have hk := om _ (List.getElem_mem hi)
  generalize ord[i] = k' at hge hgd hk
  obtain ⟨k, rfl⟩ : ∃ k : Nat, k' = k := ⟨k'.toNat, by omega⟩
  have hkr : g.rs[k]? = some (g.rs[k]'(by omega)) := List.getElem?_eq_getElem (by omega)
  have hrid : rid g.rs k = (g.rs[k]'(by omega)).id := by unfold rid; rw [List.getD_eq_getElem?_getD, hkr]; rfl
  have hs : nPlan g.rs ord T1 (i + 1) = if (gNext (nPlan g.rs ord T1 i).1 4).1 = 0 then ((gNext (nPlan g.rs ord T1 i).1 4).2, (nPlan g.rs ord T1 i).2) else ((gPick (gNext (nPlan g.rs ord T1 i).1 4).2 planPicks).2, (nPlan g.rs ord T1 i).2.1 + (gPick (gNext (nPlan g.rs ord T1 i).1 4).2 planPicks).1, (nPlan g.rs ord T1 i).2.2 ++ [⟨rid g.rs (ord.getD i 0).toNat, (nPlan g.rs ord T1 i).2.1 + (gPick (gNext (nPlan g.rs ord T1 i).1 4).2 planPicks).1⟩]) := rfl
  rw [hgd, Int.toNat_natCast, hrid] at hs
  generalize g.rs[k]'(by omega) = x at hkr hs
  simp -dsimp [hiz, hge, ints]
  try refine ⟨?_, ⟨by kernel_rfl⟩⟩
  refine ACall.of (nextF_c (nPlan g.rs ord T1 i).1 kI 4 ⟨by omega, by omega⟩) [.x 0] 0 ?_
  have kB : TapeF (gNext (nPlan g.rs ord T1 i).1 4).2 := by simpa using kI
  generalize gNext (nPlan g.rs ord T1 i).1 4 = b at kB hs
  by_cases hb : b.1 = 0
  ·rw [if_pos hb] at hs
   simp -dsimp [hb, wrap_i64 (n := (i : Int) + 1) (by omega) (by omega)]
   and_intros
   all_goals try first | omega | exact ⟨by kernel_rfl⟩ | rfl
   exact ⟨⟨i + 1, by omega⟩, GS.to (by simp [hs, ints]), by simp; omega⟩
  ·rw [if_neg hb] at hs
   have hp := planPicks_r b.2
   have hc := pickF_c b.2 kB planPicks (by simp [planPicks]) (by simp [planPicks])
   generalize gPick b.2 planPicks = w at hc hp hs
   simp only [ints, planPicks, List.map] at hc
   simp -dsimp [hb]
   and_intros
   all_goals try first | omega | exact ⟨by kernel_rfl⟩ | rfl
   refine ACall.of hc [.x 0] 0 ?_
   have hl1 : (eds (nPlan g.rs ord T1 i).2.2).length = (nPlan g.rs ord T1 i).2.2.length := by simp [eds]
   simp -dsimp [hkr, rts, Rt.cs, hl1, wrap_i64 (n := (i : Int) + 1) (by omega) (by omega), wrap_i64 (n := (nPlan g.rs ord T1 i).2.1 + w.1) (by omega) (by omega)]
   and_intros
   all_goals try first | omega | exact ⟨by kernel_rfl⟩ | rfl | (simp; omega)
   exact ⟨⟨i + 1, by omega⟩, GS.to (by simp [hs, ints, eds, Ed.cs, rts, Rt.cs]), by simp; omega⟩
 have hiz : ¬ (i : Int) < ord.length := by omega
 obtain rfl : i = ord.length := by omega
 have hG : gPlanN g.rs T = if 0 < (nPlan g.rs ord T1 ord.length).2.2.length then (⟨a.1, (gPick (nPlan g.rs ord T1 ord.length).1 lenPicks).1, (nPlan g.rs ord T1 ord.length).2.2⟩, (gPick (nPlan g.rs ord T1 ord.length).1 lenPicks).2) else (⟨a.1, 0, (nPlan g.rs ord T1 ord.length).2.2⟩, (nPlan g.rs ord T1 ord.length).1) := by
  unfold gPlanN
  simp only [hA, hO]
  rw [← ol]
 generalize nPlan g.rs ord T1 ord.length = s at kI b1 b2 b3 hG ⊢
 by_cases hz : 0 < s.2.2.length
 ·rw [if_pos hz] at hG
  rw [hG]
  have hzz : (0 : Int) < s.2.2.length := by omega
  have hc := pickF_c s.1 kI lenPicks (by simp [lenPicks]) (by simp [lenPicks])
  generalize gPick s.1 lenPicks = w at hc ⊢
  simp only [ints, lenPicks, List.map] at hc
  simp -dsimp [hiz, hz, hzz]
  and_intros
  all_goals try first | omega | exact ⟨by kernel_rfl⟩ | rfl
  refine ACall.of hc [.x 0] 0 ?_
  simp -dsimp
  and_intros
  all_goals try first | omega | exact ⟨by kernel_rfl⟩ | rfl
  refine Fin.box (.o 4) rfl ?_
  simp -dsimp
  and_intros
  all_goals try first | omega | exact ⟨by kernel_rfl⟩ | rfl
  refine Fin.of ?_
  simp [planT]
 ·rw [if_neg hz] at hG
  rw [hG]
  have hzz : ¬ (0 : Int) < s.2.2.length := by omega
  simp -dsimp [hiz, hz, hzz]
  and_intros
  all_goals try first | omega | exact ⟨by kernel_rfl⟩ | rfl
  refine Fin.box (.o 4) rfl ?_
  simp -dsimp
  and_intros
  all_goals try first | omega | exact ⟨by kernel_rfl⟩ | rfl
  refine Fin.of ?_
  simp [planT]
def nSome (rs : List Rt) (T : Tp) : Nat → Tp × List Int
 | 0 => (T, [])
 | i + 1 => let s := nSome rs T i; let v := gNext s.1 rs.length; (v.2, insI s.2 (rid rs v.1.toNat))
def gSome (rs : List Rt) (T : Tp) (n : Int) : List Int × Tp :=
 let k := gNext T (n + 1)
 let s := nSome rs k.2 k.1.toNat
 (s.2, s.1)
@[simp] theorem nSome_okF (rs : List Rt) (T : Tp) : ∀ i : Nat, TapeF (nSome rs T i).1 = TapeF T
 | 0 => rfl
 | i + 1 => by simp only [nSome, gNext_okF]; exact nSome_okF rs T i
@[simp] theorem gSome_okF (rs : List Rt) (T : Tp) (n : Int) : TapeF (gSome rs T n).2 = TapeF T := by simp [gSome]
theorem nSome_len (rs : List Rt) (T : Tp) : ∀ i : Nat, (nSome rs T i).2.length ≤ i
 | 0 => by simp [nSome]
 | i + 1 => by
   have ih := nSome_len rs T i
   have := insI_lenF (nSome rs T i).2 (rid rs (gNext (nSome rs T i).1 rs.length).1.toNat)
   simp only [nSome]; omega
theorem some_c (T : Tp) (hT : TapeF T) (g : Topo) (hg : 0 < g.rs.length ∧ g.rs.length ≤ 100) (n : Int) (hn : 0 ≤ n ∧ n ≤ 100) : Contract Tryz.prog 115 [.ptr (.x 0) 0, topT g, .d (.int .i64 n)] [tapeI T] (.d (ints (gSome g.rs T n).1)) [tapeI (gSome g.rs T n).2] [] := by
 refine contract_of Tryz.func115 rfl (fun E0 => ?_)
 refine awp.sound (g := .mk) (ow := []) (kp := (fun k => k==0||k==1||k==2||k==4||k==6||k==7||k==8||k==20)) ?_
 rw [Tryz.ntmps115]
 simp -dsimp [topT, wrap_i64 (n := n + 1) (by omega) (by omega)]
 try refine ⟨?_, ⟨by kernel_rfl⟩⟩
 refine ACall.of (nextF_c T hT (n + 1) ⟨by omega, by omega⟩) [.x 0] 0 ?_
 have kA : TapeF (gNext T (n + 1)).2 := by simpa using hT
 have a1 := gNext_nonneg T (n + 1)
 have a2 := gNext_lt T (n := n + 1) (by omega)
 generalize hA : gNext T (n + 1) = a at kA a1 a2
 obtain ⟨m', T1⟩ := a
 simp only at kA a1 a2
 obtain ⟨m, rfl⟩ : ∃ m : Nat, m' = m := ⟨m'.toNat, by omega⟩
 have hgl : (0 : Int) < g.rs.length := by omega
 simp -dsimp [topT]
 refine ALoop.of [] (fun k => k==0||k==1||k==2||k==4||k==6||k==7||k==8||k==20) (ι := { i : Nat // i ≤ m })
  (fun z => [(Pl.s 0, It.v (.ptr (Pl.x 0) 0)), (Pl.s 2, It.v (.d (.int .i64 n))), (Pl.o 4, It.box [TV.d (.sl (rts g.rs)), TV.d (.sl (lks g.ls))]), (Pl.s 4, It.v (.ptr (Pl.o 4) 0)), (Pl.s 6, It.v (.c (Value.slice none 0 0))), (Pl.x 0, tapeI (nSome g.rs T1 z.1).1), (Pl.s 7, It.v (.d (ints (nSome g.rs T1 z.1).2))), (Pl.s 8, It.v (.d (.int .i64 ((m : Int) - z.1))))])
  (fun z => m - z.1) ⟨0, by omega⟩ ?_ ?_
 ·exact GS.viewS 7 (by simp [nSome, ints])
 rintro ⟨i, i1⟩
 have kI : TapeF (nSome g.rs T1 i).1 := by simpa using kA
 have hl := nSome_len g.rs T1 i
 by_cases hi : i < m
 ·have hiz : (0 : Int) < (m : Int) - i := by omega
  have hp := putF_c (nSome g.rs T1 i).2 (by omega)
  have v1 := gNext_nonneg (nSome g.rs T1 i).1 g.rs.length
  have v2 := gNext_lt (nSome g.rs T1 i).1 (n := g.rs.length) (by omega)
  have hs : nSome g.rs T1 (i + 1) = ((gNext (nSome g.rs T1 i).1 g.rs.length).2, insI (nSome g.rs T1 i).2 (rid g.rs (gNext (nSome g.rs T1 i).1 g.rs.length).1.toNat)) := rfl
  have hc := nextF_c (nSome g.rs T1 i).1 kI g.rs.length ⟨by omega, by omega⟩
  generalize gNext (nSome g.rs T1 i).1 (g.rs.length : Int) = v at v1 v2 hs hc
  obtain ⟨k', T2⟩ := v
  simp only at v1 v2 hs hc
  obtain ⟨k, rfl⟩ : ∃ k : Nat, k' = k := ⟨k'.toNat, by omega⟩
  have hkr : g.rs[k]? = some (g.rs[k]'(by omega)) := List.getElem?_eq_getElem (by omega)
  have hrid : rid g.rs k = (g.rs[k]'(by omega)).id := by unfold rid; rw [List.getD_eq_getElem?_getD, hkr]; rfl
  rw [Int.toNat_natCast, hrid] at hs
  generalize g.rs[k]'(by omega) = x at hkr hs
  simp -dsimp [hiz, hi, hgl, hg.1, topT, ints]
  and_intros
  all_goals try first | omega | exact ⟨by kernel_rfl⟩ | rfl
  refine ACall.of hc [.x 0] 0 ?_
  simp -dsimp [hkr, rts, Rt.cs]
  and_intros
  all_goals try first | omega | exact ⟨by kernel_rfl⟩ | rfl
  refine ACall.of (hp x.id) [] 0 ?_
  simp -dsimp [hkr, rts, Rt.cs, wrap_i64 (n := (m : Int) - i - 1) (by omega) (by omega)]
  and_intros
  all_goals try first | omega | exact ⟨by kernel_rfl⟩ | rfl
  exact ⟨⟨i + 1, by omega⟩, GS.to (by simp [hs, ints, rts]; omega), by simp; omega⟩
 have hiz : ¬ (0 : Int) < (m : Int) - i := by omega
 obtain rfl : i = m := by omega
 simp -dsimp [hiz, hgl, hg.1]
 and_intros
 all_goals try first | omega | exact ⟨by kernel_rfl⟩ | rfl
 refine Fin.of ?_
 simp [gSome, hA]
def gRouterN (rs : List Rt) (T : Tp) : Int × Tp :=
 let a := gNext T 40
 if a.1 = 39 then gPick a.2 [0, 98, 100] else (let v := gNext a.2 rs.length; (rid rs v.1.toNat, v.2))
@[simp] theorem gRouterN_okF (rs : List Rt) (T : Tp) : TapeF (gRouterN rs T).2 = TapeF T := by
 unfold gRouterN
 simp only
 split <;> simp
theorem routerN_c (T : Tp) (hT : TapeF T) (g : Topo) (hg : 0 < g.rs.length ∧ g.rs.length ≤ 100) : Contract Tryz.prog 30 [.ptr (.x 0) 0, topT g] [tapeI T] (.d (.int .i64 (gRouterN g.rs T).1)) [tapeI (gRouterN g.rs T).2] [] := by
 refine contract_of Tryz.func30 rfl (fun E0 => ?_)
 refine awp.sound (g := .mk) (ow := []) (kp := (fun k => k==0||k==1||k==3||k==4||k==13)) ?_
 rw [Tryz.ntmps30]
 have hg0 : ¬ g.rs.length = 0 := by omega
 have hgz : ¬ (g.rs.length : Int) = 0 := by omega
 simp -dsimp [topT, hg0, hgz]
 try refine ⟨?_, ⟨by kernel_rfl⟩⟩
 refine ACall.of (nextF_c T hT 40 ⟨by omega, by omega⟩) [.x 0] 0 ?_
 have kA : TapeF (gNext T 40).2 := by simpa using hT
 have hG : gRouterN g.rs T = if (gNext T 40).1 = 39 then gPick (gNext T 40).2 [0, 98, 100] else (rid g.rs (gNext (gNext T 40).2 g.rs.length).1.toNat, (gNext (gNext T 40).2 g.rs.length).2) := rfl
 rw [hG]
 generalize gNext T 40 = a at kA ⊢
 by_cases ha : a.1 = 39
 ·rw [if_pos ha]
  have hc := pickF_c a.2 kA [0, 98, 100] (by simp) (by simp)
  generalize gPick a.2 [0, 98, 100] = w at hc ⊢
  simp only [ints, List.map] at hc
  simp -dsimp [ha]
  and_intros
  all_goals try first | omega | exact ⟨by kernel_rfl⟩ | rfl
  refine ACall.of hc [.x 0] 0 ?_
  simp -dsimp
  and_intros
  all_goals try first | omega | exact ⟨by kernel_rfl⟩ | rfl
  refine Fin.of ?_
  simp
 ·rw [if_neg ha]
  have v1 := gNext_nonneg a.2 g.rs.length
  have v2 := gNext_lt a.2 (n := g.rs.length) (by omega)
  have hc := nextF_c a.2 kA g.rs.length ⟨by omega, by omega⟩
  generalize gNext a.2 (g.rs.length : Int) = v at v1 v2 hc ⊢
  obtain ⟨k', T2⟩ := v
  simp only at v1 v2 hc ⊢
  obtain ⟨k, rfl⟩ : ∃ k : Nat, k' = k := ⟨k'.toNat, by omega⟩
  have hkr : g.rs[k]? = some (g.rs[k]'(by omega)) := List.getElem?_eq_getElem (by omega)
  have hrid : rid g.rs k = (g.rs[k]'(by omega)).id := by unfold rid; rw [List.getD_eq_getElem?_getD, hkr]; rfl
  rw [Int.toNat_natCast, hrid]
  generalize g.rs[k]'(by omega) = x at hkr ⊢
  simp -dsimp [ha, topT]
  and_intros
  all_goals try first | omega | exact ⟨by kernel_rfl⟩ | rfl
  refine ACall.of hc [.x 0] 0 ?_
  simp -dsimp [hkr, rts, Rt.cs]
  and_intros
  all_goals try first | omega | exact ⟨by kernel_rfl⟩ | rfl
  refine Fin.of ?_
  simp
end Go.Proofs

/-
  What functions of the program compute, stated as contracts over plain data; the conditions of each stand in its own statement.
-/
import Derived.Test.YteenclepbpajdaaN2
set_option linter.unusedSimpArgs false
set_option maxRecDepth 100000
set_option maxHeartbeats 2000000
namespace Go.Proofs
open Go Go.Tr
/-- the way from a router, behind others -/
def pathG (l : List Tb) (id p : Int) : Nat → List Int → Int → List Int × Int
  | 0, _, _ => ([], 10)
  | k + 1, pr, r => if r ∈ pr then ([], 10) else match findT l r with
    | none => ([], 4)
    | some b => if hopB b id p = 0 then ([], 9) else if hopB b id p = r then ((pr ++ [r]).tail, 0) else pathG l id p k (pr ++ [r]) (hopB b id p)
def pathV (l : List Tb) (r id p : Int) : List Int × Int :=
  if chkA l ≠ 0 then ([], 1) else if ¬ (0 ≤ p ∧ p ≤ 7) then ([], 2) else pathG l id p (l.length + 1) [] r
def pathT (x : List Int × Int) : TV := .tup [.d (ints x.1), .d (.int .i64 x.2)]
def mpS (pr : List Int) : List (Int × D) := pr.map fun x => (x, D.bool true)
theorem pathG_in {l : List Tb} {id p : Int} {pr : List Int} {w : Int} (h : w ∈ pr) : ∀ k : Nat, pathG l id p k pr w = ([], 10)
  | 0 => rfl
  | k + 1 => by rw [pathG, if_pos h]
theorem mget_mp (k : Int) : ∀ pr : List Int, mget (mpS pr) k = if k ∈ pr then some (.bool true) else none
  | [] => rfl
  | x :: pr => by
    have ih := mget_mp k pr
    simp only [mpS] at ih
    simp only [mpS, List.map_cons, mget, ih, List.mem_cons]
    by_cases e : k = x
    · simp [e]
    · simp [e]
theorem mput_mp (k : Int) : ∀ pr : List Int, k ∉ pr → mput (mpS pr) k (.bool true) = mpS (pr ++ [k])
  | [], _ => rfl
  | x :: pr, h => by
    simp only [List.mem_cons, not_or] at h
    have ih := mput_mp k pr h.2
    simp only [mpS] at ih
    simp only [mpS, List.map_cons, List.cons_append, mput, ih, if_neg h.1]
theorem mpS_len (pr : List Int) : (mpS pr).length = pr.length := by simp [mpS]
theorem findT_mem {l : List Tb} {r : Int} {b : Tb} (h : findT l r = some b) : b ∈ l ∧ b.r = r := ⟨List.mem_of_find?_eq_some h, by simpa using List.find?_some h⟩
theorem chkA_all {l : List Tb} (h : chkA l = 0) : ∀ b ∈ l, chk b = 0 := fun b hb => by
  have := firstE_zero (l := _) (by simp) h
  simp only [List.mem_cons, List.not_mem_nil, or_false, forall_eq_or_imp, forall_eq] at this
  have h2 := List.any_eq_false.1 this.2.1 b hb
  simpa using h2
theorem path_n {l : List Tb} {pr : List Int} (h : pr.Nodup) (hf : ∀ x ∈ pr, (findT l x).isSome) : pr.length ≤ l.length := by
  have := nodup_le (m := l.map (·.r)) h fun x hx => by
    obtain ⟨b, hb⟩ := Option.isSome_iff_exists.1 (hf x hx)
    obtain ⟨h1, h2⟩ := findT_mem hb
    exact List.mem_map.2 ⟨b, h1, h2⟩
  simpa using this
theorem nextV_hop {b : Tb} {id p : Int} (hc : chk b = 0) (hp : 0 ≤ p ∧ p ≤ 7) : nextV b id p = hopB b id p := by
  rw [nextV, if_pos (valB_iff.2 ⟨hc, hp, by omega⟩)]
theorem path_c (l : List Tb) (hl : SmL l) (r id p : Int) : Contract Try.prog 20 [.d (.sl (tbs l)), .d (.int .i64 r), .d (.int .i64 id), .d (.int .i64 p)] [] (pathT (pathV l r id p)) [] [] := by
  have hn := hl.n
  refine contract_of Try.func20 rfl (fun E0 => ?_)
  refine awp.sound (g := .mk) (ow := []) (kp := (fun k => k == 0 || k == 1 || k == 2 || k == 3 || k == 8 || k == 9 || k == 10 || k == 11 || k == 12 || k == 13 || k == 14 || k == 15 || k == 16 || k == 20 || k == 31 || k == 41 || k == 46 || k == 47 || k == 49)) ?_
  rw [Try.ntmps20]
  simp -dsimp
  refine ACall.of (checkA_c l hl) [] 0 ?_
  by_cases hA : ¬ chkA l = 0
  · simp -dsimp [eq_false hA]
    refine Fin.view 8 ?_
    simp -dsimp
    refine Fin.of ?_
    simp [pathV, hA, pathT, ints]
  replace hA : chkA l = 0 := Classical.not_not.1 hA
  by_cases p1 : p < 0
  · simp -dsimp [eq_true hA, p1]
    and_intros
    all_goals try first | rfl | omega | exact ⟨by kernel_rfl⟩
    refine Fin.view 8 ?_
    simp -dsimp
    refine Fin.of ?_
    have : ¬ (0 ≤ p ∧ p ≤ 7) := by omega
    simp only [pathV, hA, pathT, ints]; simp [this]
  by_cases p2 : 8 ≤ p
  · simp -dsimp [eq_true hA, p1, p2]
    and_intros
    all_goals try first | rfl | omega | exact ⟨by kernel_rfl⟩
    refine Fin.view 8 ?_
    simp -dsimp
    refine Fin.of ?_
    have : ¬ (0 ≤ p ∧ p ≤ 7) := by omega
    simp only [pathV, hA, pathT, ints]; simp [this]
  have hV : pathV l r id p = pathG l id p (l.length + 1) [] r := by rw [pathV, if_neg (by simp [hA]), if_neg (by omega)]
  simp -dsimp [eq_true hA, p1, p2]
  rw [hV]
  have hch := chkA_all hA
  refine ALoop.of [] (fun k => k == 0 || k == 1 || k == 2 || k == 3 || k == 8 || k == 9 || k == 10 || k == 11 || k == 12 || k == 13 || k == 14 || k == 15 || k == 16 || k == 20 || k == 31 || k == 41 || k == 46 || k == 47 || k == 49) (ι := { z : List Int × Int // z.1.Nodup ∧ (∀ x ∈ z.1, (findT l x).isSome) ∧ pathG l id p (l.length + 1) [] r = pathG l id p (l.length + 1 - z.1.length) z.1 z.2 })
    (fun z => [(Pl.s 0, It.v (TV.d (D.sl (tbs l)))), (Pl.s 1, It.v (TV.d (D.int IntKind.i64 r))), (Pl.s 2, It.v (TV.d (D.int IntKind.i64 id))), (Pl.s 3, It.v (TV.d (D.int IntKind.i64 p))), (Pl.s 8, It.v (TV.c (Value.slice none 0 0))), (Pl.s 9, It.v (TV.d (D.int IntKind.i64 0))), (Pl.s 10, It.v (TV.oref 10 z.1.1.length)), (Pl.o 10, It.row 3 1 (dd (nrow .i64 (z.1.1 ++ [z.1.2]).tail)) false), (Pl.o 27, It.mp (mpS z.1.1)), (Pl.s 11, It.v (TV.mref 27)), (Pl.s 12, It.v (TV.d (D.int IntKind.i64 z.1.2)))]) (fun z => l.length + 1 - z.1.1.length) ⟨([], r), by simp, by simp, rfl⟩ ?_ ?_
  · exact GS.own' (k := 10) 3 1 (by simp) (by simp) (by simp [nrow, mpS])
  generalize pathG l id p (l.length + 1) [] r = G
  rintro ⟨⟨pr, at_⟩, i1, i2, i3⟩
  simp only at i1 i2 i3
  have hpl := path_n i1 i2
  rw [show l.length + 1 - pr.length = (l.length - pr.length) + 1 by omega, pathG] at i3
  have hmg := mget_mp at_ pr
  have htl : (pr ++ [at_]).tail.length = pr.length := by simp
  by_cases hin : at_ ∈ pr
  · rw [if_pos hin] at i3 hmg
    simp -dsimp [hmg]
    refine Fin.view 8 ?_
    simp -dsimp
    refine Fin.of ?_
    simp [i3, pathT, ints]
  rw [if_neg hin] at i3 hmg
  have hmp := mput_mp at_ pr hin
  simp -dsimp [hmg, hmp]
  and_intros
  all_goals try first | rfl | omega | exact ⟨by kernel_rfl⟩
  refine ACall.of (find_c l hl at_) [] 0 ?_
  cases hf : findT l at_ with
  | none =>
    simp only [hf] at i3
    simp -dsimp [foundT, tb0, tblT, rwsD_eq, rws]
    refine Fin.view 8 ?_
    simp -dsimp
    refine Fin.of ?_
    simp [i3, pathT, ints]
  | some b =>
    simp only [hf] at i3
    obtain ⟨hbm, hbr⟩ := findT_mem hf
    have hbs := hl.t b hbm
    have hv := nextV_hop (id := id) (hch b hbm) (p := p) ⟨by omega, by omega⟩
    simp -dsimp [foundT, tblT, rwsD_eq]
    refine ACall.of (mnext_c b hbs id p) [] 0 ?_
    rw [hv]
    generalize hopB b id p = w at i3 ⊢
    have hnt : (nrow .i64 (pr ++ [at_]).tail).length = pr.length := by simp [nrow]
    by_cases w0 : w = 0
    · rw [if_pos w0] at i3
      simp -dsimp [foundT, tblT, rwsD_eq, eq_true w0]
      and_intros
      all_goals try first | rfl | omega | exact ⟨by kernel_rfl⟩
      refine Fin.view 8 ?_
      simp -dsimp
      refine Fin.of ?_
      simp [i3, pathT, ints]
    rw [if_neg w0] at i3
    by_cases w1 : w = at_
    · rw [if_pos w1] at i3
      simp -dsimp [foundT, tblT, rwsD_eq, eq_false w0, eq_true w1]
      and_intros
      all_goals try first | rfl | omega | exact ⟨by kernel_rfl⟩
      refine Fin.view 8 ?_
      simp -dsimp [hnt]
      refine Fin.of ?_
      simp [i3, pathT, ints, nrow]
    rw [if_neg w1] at i3
    have ht2 : (pr ++ [at_] ++ [w]).tail = (pr ++ [at_]).tail ++ [w] := by
      rw [List.tail_append_of_ne_nil (by simp)]
    have hnod : (pr ++ [at_]).Nodup := by
      rw [List.nodup_append]
      exact ⟨i1, by simp, fun a ha b hb e => by simp at hb; subst hb; subst e; exact hin ha⟩
    have hfd : ∀ x ∈ pr ++ [at_], (findT l x).isSome := fun x hx => by
      rcases List.mem_append.1 hx with hx | hx
      · exact i2 x hx
      · simp at hx; subst hx; simp [hf]
    have hpl2 := path_n hnod hfd
    have hk : l.length - pr.length = l.length + 1 - (pr ++ [at_]).length := by simp
    rw [hk] at i3
    simp -dsimp [foundT, tblT, rwsD_eq, eq_false w0, eq_false w1, hnt]
    and_intros
    all_goals try first | rfl | omega | exact ⟨by kernel_rfl⟩
    exact ⟨⟨(pr ++ [at_], w), hnod, hfd, i3⟩, GS.to (by simp only [ht2]; simp [nrow]), by simp at hpl2 ⊢; omega⟩
theorem path14_c (l : List Tb) (hl : SmL l) (r id p : Int) : Contract Try.prog 21 [.d (.sl (tbs l)), .d (.int .i64 r), .d (.int .i64 id), .d (.int .i64 p)] [] (pathT (pathV l r id p)) [] [] := by
  have hn := hl.n
  refine contract_of Try.func21 rfl (fun E0 => ?_)
  refine awp.sound (g := .mk) (ow := [25]) (kp := (fun k => k == 0 || k == 1 || k == 2 || k == 3 || k == 8 || k == 9 || k == 10 || k == 11 || k == 12 || k == 13 || k == 14 || k == 17 || k == 23 || k == 39 || k == 45 || k == 48 || k == 53)) ?_
  rw [Try.ntmps21]
  simp -dsimp
  refine ACall.of (checkA11_c l hl) [] 0 ?_
  by_cases hA : ¬ chkA l = 0
  · simp -dsimp [eq_false hA]
    refine Fin.view 8 ?_
    simp -dsimp
    refine Fin.of ?_
    simp [pathV, hA, pathT, ints]
  replace hA : chkA l = 0 := Classical.not_not.1 hA
  by_cases p1 : p < 0
  · simp -dsimp [eq_true hA, p1]
    and_intros
    all_goals try first | rfl | omega | exact ⟨by kernel_rfl⟩
    refine Fin.view 8 ?_
    simp -dsimp
    refine Fin.of ?_
    have : ¬ (0 ≤ p ∧ p ≤ 7) := by omega
    simp only [pathV, hA, pathT, ints]; simp [this]
  by_cases p2 : 8 ≤ p
  · simp -dsimp [eq_true hA, p1, p2]
    and_intros
    all_goals try first | rfl | omega | exact ⟨by kernel_rfl⟩
    refine Fin.view 8 ?_
    simp -dsimp
    refine Fin.of ?_
    have : ¬ (0 ≤ p ∧ p ≤ 7) := by omega
    simp only [pathV, hA, pathT, ints]; simp [this]
  have hV : pathV l r id p = pathG l id p (l.length + 1) [] r := by rw [pathV, if_neg (by simp [hA]), if_neg (by omega)]
  simp -dsimp [eq_true hA, p1, p2]
  rw [hV]
  have hch := chkA_all hA
  refine ALoop.of [25] (fun k => k == 0 || k == 1 || k == 2 || k == 3 || k == 8 || k == 9 || k == 10 || k == 11 || k == 12 || k == 13 || k == 14 || k == 17 || k == 23 || k == 39 || k == 45 || k == 48 || k == 53) (ι := { z : (List Int × Int) × Bool // z.1.1.Nodup ∧ z.1.2 ∉ z.1.1 ∧ (∀ x ∈ z.1.1, (findT l x).isSome) ∧ pathG l id p (l.length + 1) [] r = pathG l id p (l.length + 1 - z.1.1.length) z.1.1 z.1.2 })
    (fun z => [(Pl.s 0, It.v (TV.d (D.sl (tbs l)))), (Pl.s 1, It.v (TV.d (D.int IntKind.i64 r))), (Pl.s 2, It.v (TV.d (D.int IntKind.i64 id))), (Pl.s 3, It.v (TV.d (D.int IntKind.i64 p))), (Pl.s 8, It.v (TV.c (Value.slice none 0 0))), (Pl.s 9, It.v (TV.d (D.int IntKind.i64 0))), (Pl.s 10, It.v (TV.oref 25 (z.1.1.1.length + 1))), (Pl.o 25, It.row 3 1 (dd (nrow .i64 (z.1.1.1 ++ [z.1.1.2]))) z.1.2)]) (fun z => l.length + 1 - z.1.1.1.length) ⟨(([], r), false), by simp, by simp, by simp, rfl⟩ ?_ ?_
  · exact GS.to (by simp [nrow])
  generalize pathG l id p (l.length + 1) [] r = G
  rintro ⟨⟨⟨pr, at_⟩, sh⟩, i1, i0, i2, i3⟩
  simp only at i1 i0 i2 i3
  have hpl := path_n i1 i2
  rw [show l.length + 1 - pr.length = (l.length - pr.length) + 1 by omega, pathG, if_neg i0] at i3
  have hnt : (nrow .i64 (pr ++ [at_])).length = pr.length + 1 := by simp [nrow]
  have hgr : (dd (nrow .i64 (pr ++ [at_])))[pr.length]? = some [TV.d (.int .i64 at_)] := by simp [dd, nrow]
  have hgl : (dd (nrow .i64 (pr ++ [at_]))).getD pr.length [] = [TV.d (.int .i64 at_)] := by rw [List.getD_eq_getElem?_getD, hgr]; rfl
  have hi1 : ((pr.length : Int) + 1 - 1).toNat = pr.length := by omega
  have hdl : (dd (nrow .i64 (pr ++ [at_]))).length = pr.length + 1 := by simp [nrow]
  have hge : ∀ h : pr.length < (dd (nrow .i64 (pr ++ [at_]))).length, (dd (nrow .i64 (pr ++ [at_])))[pr.length]'h = [TV.d (.int .i64 at_)] := fun h => by
    rw [List.getElem?_eq_getElem h] at hgr; exact Option.some.inj hgr
  have hd1 : dLen 1 (nrow .i64 (pr ++ [at_])) := dLen_map 1 _ _ fun _ => rfl
  generalize hN : nrow .i64 (pr ++ [at_]) = N at hd1 hnt hgr hgl hdl hge
  have hwl : IntKind.i64.wrap (pr.length : Int) = pr.length := wrap_i64 (by omega) (by omega)
  simp -dsimp [hnt, hgr, hgl, hge, hdl, hwl]
  and_intros
  all_goals try first | rfl | omega | exact ⟨by kernel_rfl⟩
  refine ACall.of (find11_c l hl at_) [] 0 ?_
  cases hf : findT l at_ with
  | none =>
    simp only [hf] at i3
    simp -dsimp [foundT, tb0, tblT, rwsD_eq, rws]
    refine Fin.view 8 ?_
    simp -dsimp
    refine Fin.of ?_
    simp [i3, pathT, ints]
  | some b =>
    simp only [hf] at i3
    obtain ⟨hbm, hbr⟩ := findT_mem hf
    have hbs := hl.t b hbm
    simp -dsimp [foundT, tblT, rwsD_eq]
    refine ACall.of (hop12_c b hbs id p ⟨by omega, by omega⟩) [] 0 ?_
    generalize hopB b id p = w at i3 ⊢
    by_cases w0 : w = 0
    · rw [if_pos w0] at i3
      simp -dsimp [foundT, tblT, rwsD_eq, eq_true w0]
      and_intros
      all_goals try first | rfl | omega | exact ⟨by kernel_rfl⟩
      refine Fin.view 8 ?_
      simp -dsimp
      refine Fin.of ?_
      simp [i3, pathT, ints]
    rw [if_neg w0] at i3
    by_cases w1 : w = at_
    · rw [if_pos w1] at i3
      simp -dsimp [foundT, tblT, rwsD_eq, eq_false w0, eq_true w1, hnt, hdl]
      and_intros
      all_goals try first | rfl | omega | exact ⟨by kernel_rfl⟩ | exact hd1
      refine Fin.of ?_
      have e : (N.take (pr.length + 1)).tail = nrow .i64 (pr ++ [at_]).tail := by
        rw [List.take_of_length_le (by omega), ← hN]; simp [nrow]
      simp [i3, pathT, ints, e]
      simp [nrow]
    rw [if_neg w1] at i3
    have hnod : (pr ++ [at_]).Nodup := by
      rw [List.nodup_append]
      exact ⟨i1, by simp, fun a ha b hb e => by simp at hb; subst hb; subst e; exact i0 ha⟩
    have hfd : ∀ x ∈ pr ++ [at_], (findT l x).isSome := fun x hx => by
      rcases List.mem_append.1 hx with hx | hx
      · exact i2 x hx
      · simp at hx; subst hx; simp [hf]
    have hpl2 := path_n hnod hfd
    have hk : l.length - pr.length = l.length + 1 - (pr ++ [at_]).length := by simp
    have hh := has04_c (pr ++ [at_]) (by simp; omega) w
    have hNi : ints (pr ++ [at_]) = .sl N := by rw [← hN]; rfl
    rw [hNi] at hh
    simp -dsimp [foundT, tblT, rwsD_eq, eq_false w0, eq_false w1, hnt, hdl]
    and_intros
    all_goals try first | rfl | omega | exact ⟨by kernel_rfl⟩
    refine ACall.of hh [] 0 ?_
    by_cases hin : w ∈ pr ++ [at_]
    · have hI : hasI (pr ++ [at_]) w = true := by simpa [hasI] using hin
      rw [hI]
      rw [pathG_in hin] at i3
      simp -dsimp [hnt, hdl]
      and_intros
      all_goals try first | rfl | omega | exact ⟨by kernel_rfl⟩
      refine Fin.view 8 ?_
      simp -dsimp
      refine Fin.of ?_
      simp [i3, pathT, ints]
    · have hI : hasI (pr ++ [at_]) w = false := by simpa [hasI] using hin
      rw [hI]
      rw [hk] at i3
      simp -dsimp [hnt, hdl]
      and_intros
      all_goals try first | rfl | omega | exact ⟨by kernel_rfl⟩
      exact ⟨⟨((pr ++ [at_], w), true), hnod, hin, hfd, i3⟩, GS.to (by simp [← hN, nrow]), by simp at hpl2 ⊢; omega⟩
end Go.Proofs

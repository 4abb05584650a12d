/-
  What functions of the program compute, stated as contracts over plain data; the conditions of each stand in its own statement.
-/
import Derived.Test.YtffjbciladpdlaaGreatZM20
set_option linter.unusedSimpArgs false
set_option maxRecDepth 100000
set_option maxHeartbeats 2000000
namespace Go.Proofs
open Go Go.Tr
def e0 : ByteArray := ⟨#[]⟩
theorem gPlanL_len (rs : List Rt) (len : Int) : ∀ (o : List Int) (T : Tp) (id : Int) (l : List Ed), (gPlanL rs len o T id l).1.length ≤ l.length + o.length
 | [], _, _, _ => by simp [gPlanL]
 | x :: o, T, id, l => by
   have h1 := gPlanL_len rs len o (gPlanS rs len x T id l).2.2 (gPlanS rs len x T id l).2.1 (gPlanS rs len x T id l).1
   have h2 : (gPlanS rs len x T id l).1.length ≤ l.length + 1 := by
    unfold gPlanS
    simp only
    split
    ·simp
    ·simp only
     split <;> simp
   simp only [gPlanL, List.length_cons]
   omega
theorem gPlan0_len (T : Tp) (rs : List Rt) : (gPlan0 T rs).1.es.length ≤ rs.length := by
 have := gPlanL_len rs (gPick (gNext T 3).2 [8, 8, 16, 32, 64]).1 (gOrder (gPick (gNext T 3).2 [8, 8, 16, 32, 64]).2 rs.length).1 (gOrder (gPick (gNext T 3).2 [8, 8, 16, 32, 64]).2 rs.length).2 0 []
 rw [gOrder_len] at this
 simpa [gPlan0] using this
theorem gTopA_ok (cost tree : Int) (skip : Bool) (b : Int) : ∀ (n : Nat) (a : Int) (T : Tp) (l : List Lk), TapeOK (gTopA cost tree skip b n a T l).2 = TapeOK T
 | 0, _, _, _ => rfl
 | n + 1, a, T, l => by rw [gTopA, gTopA_ok cost tree skip b n, gTopS_ok]
theorem gTopB_ok (cost : Int) : ∀ (n : Nat) (b : Int) (T : Tp) (l : List Lk), TapeOK (gTopB cost n b T l).2 = TapeOK T
 | 0, _, _, _ => rfl
 | n + 1, b, T, l => by
   rw [gTopB, gTopB_ok cost n]
   simp only [gTopR]
   rw [gTopA_ok]; simp
@[simp] theorem gTop_ok (T : Tp) (most : Int) : TapeOK (gTop T most).2 = TapeOK T := by
 simp only [gTop]; rw [gTopB_ok]; simp
@[simp] theorem gWild_ok (T : Tp) : TapeOK (gWild T).2 = TapeOK T := by simp [gWild]
@[simp] theorem gPk0_ok (T : Tp) : TapeOK (gPk0 T).2 = TapeOK T := by simp [gPk0]
theorem inside11_c (n lo hi : Int) : Contract Tryz.prog 85 [.d (.int .i64 n), .d (.int .i64 lo), .d (.int .i64 hi)] [] (.d (.bool (inB n lo hi))) [] [] := by
 refine contract_of Tryz.func85 rfl (fun E0 => ?_)
 refine awp.sound (g := .mk) (ow := []) (kp := (fun k => k==0||k==1||k==2||k==6)) ?_
 rw [Tryz.ntmps85]
 by_cases h : lo ≤ n
 ·simp -dsimp [h]
  refine Fin.of ?_
  simp [inB, h]
 ·simp -dsimp [h]
  refine Fin.of ?_
  simp [inB, h]
theorem in11_c (n lo hi : Int) : Contract Tryz.prog 77 [.d (.int .i64 n), .d (.int .i64 lo), .d (.int .i64 hi)] [] (.d (.bool (inB n lo hi))) [] [] := by
 refine contract_of Tryz.func77 rfl (fun E0 => ?_)
 refine awp.sound (g := .mk) (ow := []) (kp := (fun k => k==0||k==1||k==2||k==6)) ?_
 rw [Tryz.ntmps77]
 by_cases h : lo ≤ n
 ·simp -dsimp [h]
  refine Fin.of ?_
  simp [inB, h]
 ·simp -dsimp [h]
  refine Fin.of ?_
  simp [inB, h]
def hasI (l : List Int) (n : Int) : Bool := decide (n ∈ l)
theorem has04_cL (l : List Int) (hl : l.length ≤ 9223372036854775807) (n : Int) : Contract Tryz.prog 64 [.d (ints l), .d (.int .i64 n)] [] (.d (.bool (hasI l n))) [] [] := by
 refine contract_of Tryz.func64 rfl (fun E0 => ?_)
 refine awp.sound (g := .mk) (ow := []) (kp := (fun k => k==0||k==1||k==4||k==5||k==9||k==17)) ?_
 rw [Tryz.ntmps64]
 simp -dsimp [ints]
 refine ALoop.of [] (fun k => k==0||k==1||k==4||k==5||k==9||k==17) (ι := { i : Nat // i ≤ l.length ∧ ∀ a, a < i → ∀ x, l[a]? = some x → x ≠ n }) (fun z => [(Pl.s 0, It.v (.d (ints l))), (Pl.s 1, It.v (.d (.int .i64 n))), (Pl.s 4, It.v (.d (.bool false))), (Pl.s 5, It.v (.d (.int .i64 z.1)))]) (fun z => l.length - z.1) ⟨0, by omega, fun a h => by omega⟩ ?_ ?_
 ·exact GS.to (by simp [ints])
 ·rintro ⟨i, i1, i2⟩
  by_cases hi : i < l.length
  ·by_cases h : l[i] = n
   ·simp -dsimp [ints, hi, h]
    try refine ⟨?_, ⟨by kernel_rfl⟩⟩
    refine Fin.of ?_
    have : hasI l n = true := by simp only [hasI, decide_eq_true_eq]; rw [← h]; exact List.getElem_mem hi
    simp [this]
   ·simp -dsimp [ints, hi, h, wrap_i64 (n := (i : Int) + 1) (by omega) (by omega)]
    try refine ⟨?_, ⟨by kernel_rfl⟩⟩
    exact ⟨⟨i + 1, by omega, fun a ha x hx => by
     by_cases e : a = i
     ·subst e; rw [List.getElem?_eq_getElem hi] at hx; simp only [Option.some.injEq] at hx; rw [← hx]; exact h
     ·exact i2 a (by omega) x hx⟩, GS.to (by simp [ints]), by simp; omega⟩
  ·simp -dsimp [ints, hi]
   refine Fin.of ?_
   have : hasI l n = false := by
    simp only [hasI, decide_eq_false_iff_not]
    intro hm
    obtain ⟨a, ha⟩ := List.getElem?_of_mem hm
    exact i2 a (by have := (List.getElem?_eq_some_iff.1 ha).1; omega) n ha rfl
   simp [this]
theorem has04_c (l : List Int) (hl : l.length ≤ 1000000) (n : Int) : Contract Tryz.prog 64 [.d (ints l), .d (.int .i64 n)] [] (.d (.bool (hasI l n))) [] [] := has04_cL l (Nat.le_trans hl (by decide)) n
theorem ints04_c (a b : List Int) (hl : a.length ≤ 1000000) : Contract Tryz.prog 20 [.d (ints a), .d (ints b)] [] (.d (.bool (decide (a = b)))) [] [] := by
 refine contract_of Tryz.func20 rfl (fun E0 => ?_)
 refine awp.sound (g := .mk) (ow := []) (kp := (fun k => k==0||k==1||k==4||k==5||k==10||k==14||k==25)) ?_
 rw [Tryz.ntmps20]
 by_cases hlen : a.length = b.length
 ·simp -dsimp [ints, hlen]
  refine ALoop.of [] (fun k => k==0||k==1||k==4||k==5||k==10||k==14||k==25) (ι := { i : Nat // i ≤ a.length ∧ ∀ j, j < i → a[j]? = b[j]? }) (fun z => [(Pl.s 0, It.v (.d (ints a))), (Pl.s 1, It.v (.d (ints b))), (Pl.s 4, It.v (.d (.bool false))), (Pl.s 5, It.v (.d (.int .i64 z.1)))]) (fun z => a.length - z.1) ⟨0, by omega, fun j h => by omega⟩ ?_ ?_
  ·exact GS.to (by simp [ints])
  ·rintro ⟨i, i1, i2⟩
   by_cases hi : i < a.length
   ·have hi' : i < b.length := by omega
    by_cases h : a[i] = b[i]
    ·simp -dsimp [ints, hi, hi', h, wrap_i64 (n := (i : Int) + 1) (by omega) (by omega)]
     try refine ⟨?_, ⟨by kernel_rfl⟩⟩
     exact ⟨⟨i + 1, by omega, fun j hj => by
      by_cases e : j = i
      ·subst e; rw [List.getElem?_eq_getElem hi, List.getElem?_eq_getElem hi', h]
      ·exact i2 j (by omega)⟩, GS.to (by simp [ints]), by simp; omega⟩
    ·simp -dsimp [ints, hi, hi', h]
     try refine ⟨?_, ⟨by kernel_rfl⟩⟩
     refine Fin.of ?_
     have : a ≠ b := fun e => by subst e; exact h rfl
     simp [this]
   ·simp -dsimp [ints, hi]
    refine Fin.of ?_
    have : a = b := List.ext_getElem? fun j => by
     by_cases hj : j < i
     ·exact i2 j hj
     ·rw [List.getElem?_eq_none (by omega), List.getElem?_eq_none (by omega)]
    simp [this]
 ·have hlen' : ¬ (a.length : Int) = b.length := by omega
  simp -dsimp [ints, hlen, hlen']
  refine Fin.of ?_
  have : a ≠ b := fun e => hlen (by rw [e])
  simp [this]
theorem insert04_c (l : List Int) (hl : l.length ≤ 1000000) (n : Int) : Contract Tryz.prog 63 [.d (ints l), .d (.int .i64 n)] [] (.d (ints (insI l n))) [] [] := by
 refine contract_of Tryz.func63 rfl (fun E0 => ?_)
 refine awp.sound (g := .mk) (ow := []) (kp := (fun k => k==0||k==1||k==4||k==5||k==6||k==18||k==32)) ?_
 rw [Tryz.ntmps63]
 simp -dsimp [ints]
 refine ALoop.of [] (fun k => k==0||k==1||k==4||k==5||k==6||k==18||k==32) (ι := { p : Nat // p ≤ l.length ∧ insPos n l = p + insPos n (l.drop p) }) (fun z => [(Pl.s 0, It.v (.d (ints l))), (Pl.s 1, It.v (.d (.int .i64 n))), (Pl.s 4, It.v (.c (Value.slice none 0 0))), (Pl.s 5, It.v (.d (.int .i64 z.1)))]) (fun z => l.length - z.1) ⟨0, by omega, by simp⟩ ?_ ?_
 ·exact GS.to (by simp [ints])
 ·rintro ⟨p, p1, p2⟩
  by_cases hp : p < l.length
  ·have hd : l.drop p = l[p] :: l.drop (p + 1) := List.drop_eq_getElem_cons _
   by_cases h : l[p] < n
   ·simp -dsimp [ints, hp, h, wrap_i64 (n := (p : Int) + 1) (by omega) (by omega)]
    try refine ⟨?_, ⟨by kernel_rfl⟩⟩
    exact ⟨⟨p + 1, by omega, by rw [p2, hd, insPos, if_pos h]; omega⟩, GS.to (by simp [ints]), by simp; omega⟩
   ·have hq : insPos n l = p := by rw [p2, hd, insPos, if_neg h]; omega
    by_cases he : l[p] = n
    ·simp -dsimp [ints, hp, h, he]
     try refine ⟨?_, ⟨by kernel_rfl⟩⟩
     refine Fin.of ?_
     have hI : insI l n = l := by rw [insI, if_pos (by rw [hq, List.getElem?_eq_getElem hp, he])]
     simp [hI]
    ·simp -dsimp [ints, hp, h, he]
     have dl : dLen 1 (l.map fun x => [D.int .i64 x]) := dLen_map 1 _ _ fun _ => rfl
     and_intros
     all_goals try first | omega | exact ⟨by kernel_rfl⟩ | exact dLen_take dl | exact dLen_drop (dLen_take dl) | (simp; omega)
     refine Fin.view 4 ?_
     simp -dsimp
     and_intros
     all_goals try first | omega | exact ⟨by kernel_rfl⟩ | (simp; omega)
     refine Fin.of ?_
     have hI : insI l n = l.take p ++ [n] ++ l.drop p := by rw [insI, hq, if_neg (by rw [List.getElem?_eq_getElem hp]; simpa using he)]
     simp [hI, ints, List.take_of_length_le]
  ·have hq : insPos n l = p := by rw [p2, List.drop_eq_nil_of_le (by omega), insPos]; omega
   simp -dsimp [ints, hp]
   have dl : dLen 1 (l.map fun x => [D.int .i64 x]) := dLen_map 1 _ _ fun _ => rfl
   and_intros
   all_goals try first | omega | exact ⟨by kernel_rfl⟩ | exact dLen_take dl | exact dLen_drop (dLen_take dl) | (simp; omega)
   refine Fin.view 4 ?_
   simp -dsimp
   and_intros
   all_goals try first | omega | exact ⟨by kernel_rfl⟩ | (simp; omega)
   refine Fin.of ?_
   have hI : insI l n = l.take p ++ [n] ++ l.drop p := by rw [insI, hq, if_neg (by rw [List.getElem?_eq_none (by omega)]; simp)]
   simp [hI, ints, List.take_of_length_le]
def idxV (v : Int) (l : List Int) : Int := match l.findIdx? (fun x => decide (x = v)) with | some i => i | none => -1
theorem idxV_at {v : Int} {l : List Int} {i : Nat} (hx : l[i]? = some v) (h : ∀ a, a < i → ∀ y, l[a]? = some y → y ≠ v) : idxV v l = i := by
 unfold idxV
 obtain ⟨hi, hv⟩ := List.getElem?_eq_some_iff.1 hx
 have : l.findIdx? (fun x => decide (x = v)) = some i := by
  rw [List.findIdx?_eq_some_iff_getElem]
  exact ⟨hi, by simp [hv], fun j hj => by have := h j hj _ (List.getElem?_eq_getElem (by omega)); simpa using this⟩
 rw [this]
theorem idxV_no {v : Int} {l : List Int} (h : ∀ a, a < l.length → ∀ y, l[a]? = some y → y ≠ v) : idxV v l = -1 := by
 unfold idxV
 have : l.findIdx? (fun x => decide (x = v)) = none := by
  rw [List.findIdx?_eq_none_iff]
  intro x hx
  obtain ⟨i, hi⟩ := List.getElem?_of_mem hx
  simpa using h i (List.getElem?_eq_some_iff.1 hi).1 x hi
 rw [this]
theorem idxV_has (v : Int) (l : List Int) : decide (0 ≤ idxV v l) = hasI l v := by
 unfold idxV hasI
 cases h : l.findIdx? (fun x => decide (x = v)) with
 | none =>
   have := List.findIdx?_eq_none_iff.1 h
   simp
   intro hm
   simpa using this v hm
 | some i =>
   obtain ⟨hi, h1, _⟩ := List.findIdx?_eq_some_iff_getElem.1 h
   simp at h1
   simp
   rw [← h1]; exact List.getElem_mem hi
theorem index_cL (l : List Int) (hl : l.length ≤ 9223372036854775807) (v : Int) : Contract Tryz.prog 124 [.d (ints l), .d (.int .i64 v)] [] (.d (.int .i64 (idxV v l))) [] [] := by
 refine contract_of Tryz.func124 rfl (fun E0 => ?_)
 refine awp.sound (g := .mk) (ow := []) (kp := (fun k => k==0||k==1||k==4||k==5||k==7||k==8||k==9||k==16)) ?_
 rw [Tryz.ntmps124]
 simp -dsimp [ints]
 refine ALoop.of [] (fun k => k==0||k==1||k==4||k==5||k==7||k==8||k==9||k==16) (ι := { i : Nat // i ≤ l.length ∧ ∀ a, a < i → ∀ x, l[a]? = some x → x ≠ v }) (fun z => [(Pl.s 0, It.v (.d (ints l))), (Pl.s 1, It.v (.d (.int .i64 v))), (Pl.s 4, It.v (.d (.int .i64 0))), (Pl.s 7, It.v (.d (.int .i64 l.length))), (Pl.s 8, It.v (.d (.int .i64 z.1)))]) (fun z => l.length - z.1) ⟨0, by omega, fun a h => by omega⟩ ?_ ?_
 ·exact GS.to (by simp [ints])
 ·rintro ⟨i, i1, i2⟩
  by_cases hi : i < l.length
  ·by_cases h : l[i] = v
   ·have h' : v = l[i] := h.symm
    simp -dsimp [ints, hi, h, wrap_i64 (n := (i : Int) + 1) (by omega) (by omega)]
    try refine ⟨?_, ⟨by kernel_rfl⟩⟩
    refine Fin.of ?_
    simp [idxV_at (v := v) (l := l) (i := i) (by rw [List.getElem?_eq_getElem hi, h]) i2]
   ·have h' : ¬ v = l[i] := fun e => h e.symm
    simp -dsimp [ints, hi, h, h', wrap_i64 (n := (i : Int) + 1) (by omega) (by omega)]
    try refine ⟨?_, ⟨by kernel_rfl⟩⟩
    exact ⟨⟨i + 1, by omega, fun a ha x hx => by
     by_cases e : a = i
     ·subst e; rw [List.getElem?_eq_getElem hi] at hx; simp only [Option.some.injEq] at hx; rw [← hx]; exact h
     ·exact i2 a (by omega) x hx⟩, GS.to (by simp [ints]), by simp; omega⟩
  ·simp -dsimp [ints, hi]
   refine Fin.of ?_
   simp [idxV_no (v := v) (l := l) fun a ha => i2 a (by omega)]
theorem contains_cL (l : List Int) (hl : l.length ≤ 9223372036854775807) (v : Int) : Contract Tryz.prog 84 [.d (ints l), .d (.int .i64 v)] [] (.d (.bool (hasI l v))) [] [] := by
 refine contract_of Tryz.func84 rfl (fun E0 => ?_)
 refine awp.sound (g := .mk) (ow := []) (kp := (fun k => k==0||k==1||k==4)) ?_
 rw [Tryz.ntmps84]
 simp -dsimp
 refine ACall.of (index_cL l hl v) [] 0 ?_
 simp -dsimp
 refine Fin.of ?_
 simp [idxV_has]
end Go.Proofs

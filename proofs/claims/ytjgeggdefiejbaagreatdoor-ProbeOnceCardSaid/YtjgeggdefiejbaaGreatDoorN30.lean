/-
  What functions of the program compute, stated as contracts over plain data; the conditions of each stand in its own statement.
-/
import Derived.Test.YtjgeggdefiejbaaGreatDoorN29
import Derived.Test.YtjgeggdefiejbaaGreatDoorN28
import Derived.Shelf.SlSortCmp.NoneTotal
import Derived.Shelf.SlGeneric
import Derived.Shelf.SlicesG.Cmp
import Derived.Ground.SlsfProg
import Derived.Ground.SlgcProg
import Derived.Test.YtjgeggdefiejbaaGreatDoorChecked
set_option linter.unusedSimpArgs false
set_option maxRecDepth 100000
set_option maxHeartbeats 2000000
namespace Go.Proofs
open Go Go.Tr
def TapeF (T : Tp) : Prop := T.1.length ≤ 2000 ∧ ∀ x ∈ T.1, I64 x
@[simp] theorem gRaw_okF (T : Tp) : TapeF (gRaw T).2 = TapeF T := by simp [TapeF, gRaw_tape]
@[simp] theorem gNext_okF (T : Tp) (n : Int) : TapeF (gNext T n).2 = TapeF T := gRaw_okF T
@[simp] theorem gRange_okF (T : Tp) (a b : Int) : TapeF (gRange T a b).2 = TapeF T := gRaw_okF T
@[simp] theorem gPick_okF (T : Tp) (l : List Int) : TapeF (gPick T l).2 = TapeF T := gRaw_okF T
theorem tape_newF (L : List Int) (hL : ∀ x ∈ L, I64 x) : TapeF (L.take 2000, 0) := ⟨by simp; omega, fun x hx => hL x (List.mem_of_mem_take hx)⟩
theorem cutF_c (x n : Int) (hn : I64 n) : Contract Tryz.prog 65 [.d (.int .i64 x), .d (.int .i64 n)] [] (.d (.int .i64 (gCut x n))) [] [] := by
 refine contract_of Tryz.func65 rfl (fun E0 => ?_)
 refine awp.sound (g := .mk) (ow := []) (kp := (fun k => k==0||k==1||k==4||k==6||k==11)) ?_
 rw [Tryz.ntmps65]
 obtain ⟨h1, h2⟩ := hn
 simp -dsimp
 refine AIf.dec (fun h => ?_) (fun h => ?_)
 ·simp -dsimp
  refine Fin.of ?_
  simp [gCut, h]
 ·simp -dsimp
  refine ⟨by omega, AIf.dec (fun g => ?_) (fun g => ?_)⟩
  ·have := tmod_lt0 (by omega) g
   have := Int.emod_nonneg x (b := n) (by omega)
   have := Int.emod_lt_of_pos x (b := n) (by omega)
   simp -dsimp (disch := omega) [wrap_i64]
   refine Fin.of ?_
   simp [gCut, h]
   omega
  ·simp -dsimp
   refine Fin.of ?_
   simp [gCut, h]
   exact tmod_ge0 (by omega) g
theorem rawF_c (T : Tp) (hT : TapeF T) : Contract Tryz.prog 66 [.ptr (.x 0) 0] [tapeI T] (.d (.int .i64 (gRaw T).1)) [tapeI (gRaw T).2] [] := by
 obtain ⟨l, i⟩ := T
 have hi : l.length ≤ 2000 := hT.1
 refine contract_of Tryz.func66 rfl (fun E0 => ?_)
 refine awp.sound (g := .mk) (ow := []) (kp := (fun k => k==0||k==2||k==12)) ?_
 rw [Tryz.ntmps66]
 simp -dsimp [tapeI, ints]
 refine ⟨AIf.dec (fun h => ?_) (fun h => ?_), ⟨by kernel_rfl⟩⟩
 ·simp -dsimp
  refine Fin.of ?_
  simp [tapeI, ints, h, gRaw]
 ·have h1 : i < l.length := by omega
  simp -dsimp (disch := omega) [wrap_i64, List.getElem?_eq_getElem h1]
  refine ⟨h1, ?_, ⟨by kernel_rfl⟩⟩
  refine Fin.of ?_
  simp [tapeI, ints, gRaw, h, List.getElem?_eq_getElem h1]
theorem nextF_c (T : Tp) (hT : TapeF T) (n : Int) (hn : I64 n) : Contract Tryz.prog 15 [.ptr (.x 0) 0, .d (.int .i64 n)] [tapeI T] (.d (.int .i64 (gNext T n).1)) [tapeI (gNext T n).2] [] := by
 refine contract_of Tryz.func15 rfl (fun E0 => ?_)
 refine awp.sound (g := .mk) (ow := []) (kp := (fun k => k==0||k==1||k==4)) ?_
 rw [Tryz.ntmps15]
 simp -dsimp
 refine ACall.of (rawF_c T hT) [.x 0] 0 ?_
 simp -dsimp
 refine ACall.of (cutF_c (gRaw T).1 n hn) [] 0 ?_
 simp -dsimp
 refine Fin.of ?_
 simp [gNext]
theorem rangeF_c (T : Tp) (hT : TapeF T) (a b : Int) (_ha : I64 a) (hn : I64 (b - a)) (hn1 : I64 (b - a + 1)) (hb : I64 (gRange T a b).1) : Contract Tryz.prog 29 [.ptr (.x 0) 0, .d (.int .i64 a), .d (.int .i64 b)] [tapeI T] (.d (.int .i64 (gRange T a b).1)) [tapeI (gRange T a b).2] [] := by
 refine contract_of Tryz.func29 rfl (fun E0 => ?_)
 refine awp.sound (g := .mk) (ow := []) (kp := (fun k => k==0||k==1||k==2||k==6)) ?_
 rw [Tryz.ntmps29]
 simp -dsimp [wrap_i64 hn.1 hn.2, wrap_i64 hn1.1 hn1.2]
 refine ACall.of (nextF_c T hT (b - a + 1) hn1) [.x 0] 0 ?_
 have hb' : I64 (a + (gNext T (b - a + 1)).1) := hb
 simp -dsimp [wrap_i64 hb'.1 hb'.2]
 refine Fin.of ?_
 simp [gRange]
theorem pickF_c (T : Tp) (hT : TapeF T) (l : List Int) (hl : 0 < l.length) (hl2 : l.length < 1000) : Contract Tryz.prog 28 [.ptr (.x 0) 0, .d (ints l)] [tapeI T] (.d (.int .i64 (gPick T l).1)) [tapeI (gPick T l).2] [] := by
 refine contract_of Tryz.func28 rfl (fun E0 => ?_)
 refine awp.sound (g := .mk) (ow := []) (kp := (fun k => k==0||k==1||k==4)) ?_
 rw [Tryz.ntmps28]
 simp -dsimp [ints]
 refine ACall.of (nextF_c T hT l.length ⟨by omega, by omega⟩) [.x 0] 0 ?_
 have h1 := gNext_nonneg T l.length
 have h2 := gNext_lt T (n := l.length) (by omega)
 have h3 : (gNext T l.length).1.toNat < l.length := by omega
 simp -dsimp [List.getElem?_eq_getElem h3]
 refine ⟨by omega, by omega, ?_⟩
 refine Fin.of ?_
 simp [gPick, ints, List.getElem?_eq_getElem h3]
theorem newF_c (l : List Int) : Contract Tryz.prog 13 [.d (ints l)] [] (.ptr (.o 9) 0) [] [(9, tapeI (l.take 2000, 0))] := by
 have hm : minI IntKind.i64 l.length 2000 = .d (.int .i64 (min l.length 2000 : Nat)) := by simp [minI]; omega
 refine contract_of Tryz.func13 rfl (fun E0 => ?_)
 refine awp.sound (g := .mk) (ow := []) (kp := (fun k => k==0||k==2)) ?_
 rw [Tryz.ntmps13]
 simp -dsimp [ints, hm]
 refine ⟨by omega, ?_⟩
 refine Fin.of ?_
 simp [tapeI, ints]
 exact Nat.min_comm _ _
theorem intsF_c (a b : List Int) (hl : a.length ≤ 1000000) : Contract Tryz.prog 18 [.d (ints a), .d (ints b)] [] (.d (.bool (decide (a = b)))) [] [] := by
 refine contract_of Tryz.func18 rfl (fun E0 => ?_)
 refine awp.sound (g := .mk) (ow := []) (kp := (fun k => k==0||k==1||k==4||k==5||k==10||k==14||k==25)) ?_
 rw [Tryz.ntmps18]
 by_cases hlen : a.length = b.length
 ·simp -dsimp [ints, hlen]
  refine ALoop.of [] (fun k => k==0||k==1||k==4||k==5||k==10||k==14||k==25) (ι := { i : Nat // i ≤ a.length ∧ ∀ j, j < i → a[j]? = b[j]? }) (fun z => [(Pl.s 0, It.v (.d (ints a))), (Pl.s 1, It.v (.d (ints b))), (Pl.s 4, It.v (.d (.bool false))), (Pl.s 5, It.v (TV.d (D.int IntKind.i64 z.1)))]) (fun z => a.length - z.1) ⟨0, by omega, fun j h => by omega⟩ ?_ ?_
  ·exact GS.to (by simp [ints])
  ·rintro ⟨i, i1, i2⟩
   by_cases hi : i < a.length
   ·have hi' : i < b.length := by omega
    by_cases h : a[i] = b[i]
    ·simp -dsimp [ints, hi, hi', h, wrap_i64 (n := (i : Int) + 1) (by omega) (by omega)]
     try refine ⟨?_, ⟨by kernel_rfl⟩⟩
     exact ⟨⟨i + 1, by omega, fun j hj => by
      by_cases e : j = i
      ·subst e; rw [List.getElem?_eq_getElem hi, List.getElem?_eq_getElem hi', h]
      ·exact i2 j (by omega)⟩, GS.to (by simp [ints]), by simp; omega⟩
    ·simp -dsimp [ints, hi, hi', h]
     try refine ⟨?_, ⟨by kernel_rfl⟩⟩
     refine Fin.of ?_
     have : a ≠ b := fun e => by subst e; exact h rfl
     simp [this]
   ·simp -dsimp [ints, hi]
    refine Fin.of ?_
    have : a = b := List.ext_getElem? fun j => by
     by_cases hj : j < i
     ·exact i2 j hj
     ·rw [List.getElem?_eq_none (by omega), List.getElem?_eq_none (by omega)]
    simp [this]
 ·have hlen' : ¬ (a.length : Int) = b.length := by omega
  simp -dsimp [ints, hlen, hlen']
  refine Fin.of ?_
  have : a ≠ b := fun e => hlen (by rw [e])
  simp [this]
theorem gOrderL_tape : ∀ (n i : Nat) (T : Tp) (l : List Int), (gOrderL n i T l).2.1 = T.1
 | 0, _, _, _ => rfl
 | n + 1, i, T, l => by rw [gOrderL, gOrderL_tape]; exact gRaw_tape T
@[simp] theorem gOrder_okF (T : Tp) (n : Int) : TapeF (gOrder T n).2 = TapeF T := by unfold gOrder TapeF; rw [gOrderL_tape]
theorem orderF_c (T : Tp) (hT : TapeF T) (n : Int) (hn : n ≤ 1000) : Contract Tryz.prog 70 [.ptr (.x 0) 0, .d (.int .i64 n)] [tapeI T] (.d (ints (gOrder T n).1)) [tapeI (gOrder T n).2] [] := by
 refine contract_of Tryz.func70 rfl (fun E0 => ?_)
 refine awp.sound (g := .mk) (ow := [20]) (kp := (fun k => k==0||k==1||k==4||k==5||k==6||k==7||k==8||k==11)) ?_
 rw [Tryz.ntmps70]
 simp -dsimp
 refine ALoop.of [20] (fun k => k==0||k==1||k==4||k==5||k==6||k==7||k==8||k==11) (ι := { i : Nat × Tp × List Int // TapeF i.2.1 ∧ i.2.2.length = i.1 ∧ (i.1 : Int) ≤ max n 0 ∧ gOrder T n = gOrderL (n.toNat - i.1) i.1 i.2.1 i.2.2 }) (fun i => [(Pl.s 0, It.v (TV.ptr (Pl.x 0) 0)), (Pl.s 1, It.v (TV.d (D.int IntKind.i64 n))), (Pl.x 0, tapeI i.1.2.1), (Pl.s 4, It.v (TV.c (Value.slice none 0 0))), (Pl.s 5, It.v (.d (ints i.1.2.2))), (Pl.s 6, It.v (TV.d (D.int IntKind.i64 i.1.1)))]) (fun i => n.toNat - i.1.1) ⟨(0, T, []), hT, rfl, by simp; omega, rfl⟩ ?_ ?_
 ·exact GS.viewS 5 (by simp [ints])
 ·rintro ⟨⟨i, T', out⟩, h1, h2, h3, h4⟩
  simp only at h1 h2 h3 h4
  simp -dsimp [ints]
  refine AIf.dec (fun h => ?_) (fun h => ?_)
  ·simp -dsimp [h2, wrap_i64 (n := (i : Int) + 1) (by omega) (by omega)]
   refine ACall.of (nextF_c T' h1 (i + 1) ⟨by omega, by omega⟩) [.x 0] 0 ?_
   have g1 := gNext_nonneg T' (i + 1)
   have g2 := gNext_lt T' (n := i + 1) (by omega)
   simp -dsimp [h2, wrap_i64 (n := (i : Int) + 1) (by omega) (by omega)]
   have dl : dLen 1 (out.map fun x => [D.int .i64 x]) := dLen_map 1 _ _ fun _ => rfl
   and_intros
   all_goals try first | omega | exact ⟨by kernel_rfl⟩ | exact dLen_take dl | exact dLen_drop (dLen_take dl) | (simp; omega)
   refine ⟨⟨(i + 1, (gNext T' (i + 1)).2, out.take (gNext T' (i + 1)).1.toNat ++ [(i : Int)] ++ out.drop (gNext T' (i + 1)).1.toNat), by simpa using h1, by simp; omega, by simp; omega, ?_⟩, GS.viewS 5 ?_, by simp; omega⟩
   ·rw [h4, show n.toNat - i = n.toNat - (i + 1) + 1 by omega]; rfl
   ·simp [ints]
    exact ⟨by omega, by rw [List.take_of_length_le (by simp; omega)]⟩
  ·simp -dsimp
   refine Fin.view 4 ?_
   simp -dsimp
   refine Fin.of ?_
   have : n.toNat - i = 0 := by omega
   simp [h4, this, gOrderL, ints]
theorem putF_c (l : List Int) (hl : l.length ≤ 1000000) (n : Int) : Contract Tryz.prog 149 [.d (ints l), .d (.int .i64 n)] [] (.d (ints (insI l n))) [] [] := by
 refine contract_of Tryz.func149 rfl (fun E0 => ?_)
 refine awp.sound (g := .mk) (ow := [35]) (kp := (fun k => k==0||k==1||k==4||k==5||k==6||k==18||k==32)) ?_
 rw [Tryz.ntmps149]
 simp -dsimp [ints]
 refine ALoop.of [] (fun k => k==0||k==1||k==4||k==5||k==6||k==18||k==32) (ι := { p : Nat // p ≤ l.length ∧ insPos n l = p + insPos n (l.drop p) }) (fun z => [(Pl.s 0, It.v (.d (ints l))), (Pl.s 1, It.v (.d (.int .i64 n))), (Pl.s 4, It.v (TV.c (Value.slice none 0 0))), (Pl.s 5, It.v (TV.d (D.int IntKind.i64 z.1)))]) (fun z => l.length - z.1) ⟨0, by omega, by simp⟩ ?_ ?_
 ·exact GS.to (by simp [ints])
 ·rintro ⟨p, p1, p2⟩
  by_cases hp : p < l.length
  ·have hd : l.drop p = l[p] :: l.drop (p + 1) := List.drop_eq_getElem_cons _
   by_cases h : l[p] < n
   ·simp -dsimp [ints, hp, h, wrap_i64 (n := (p : Int) + 1) (by omega) (by omega)]
    try refine ⟨?_, ⟨by kernel_rfl⟩⟩
    exact ⟨⟨p + 1, by omega, by rw [p2, hd, insPos, if_pos h]; omega⟩, GS.to (by simp [ints]), by simp; omega⟩
   ·have hq : insPos n l = p := by rw [p2, hd, insPos, if_neg h]; omega
    by_cases he : l[p] = n
    ·simp -dsimp [ints, hp, h, he]
     try refine ⟨?_, ⟨by kernel_rfl⟩⟩
     refine Fin.of ?_
     have hI : insI l n = l := by rw [insI, if_pos (by rw [hq, List.getElem?_eq_getElem hp, he])]
     simp [hI]
    ·simp -dsimp [ints, hp, h, he]
     have dl : dLen 1 (l.map fun x => [D.int .i64 x]) := dLen_map 1 _ _ fun _ => rfl
     and_intros
     all_goals try first | omega | exact ⟨by kernel_rfl⟩ | exact dLen_take dl | exact dLen_drop (dLen_take dl) | (simp; omega)
     refine Fin.view 4 ?_
     simp -dsimp
     and_intros
     all_goals try first | omega | exact ⟨by kernel_rfl⟩ | (simp; omega)
     refine Fin.of ?_
     have hI : insI l n = l.take p ++ [n] ++ l.drop p := by rw [insI, hq, if_neg (by rw [List.getElem?_eq_getElem hp]; simpa using he)]
     simp [hI, ints, List.take_of_length_le]
  ·have hq : insPos n l = p := by rw [p2, List.drop_eq_nil_of_le (by omega), insPos]; omega
   simp -dsimp [ints, hp]
   have dl : dLen 1 (l.map fun x => [D.int .i64 x]) := dLen_map 1 _ _ fun _ => rfl
   and_intros
   all_goals try first | omega | exact ⟨by kernel_rfl⟩ | exact dLen_take dl | exact dLen_drop (dLen_take dl) | (simp; omega)
   refine Fin.view 4 ?_
   simp -dsimp
   and_intros
   all_goals try first | omega | exact ⟨by kernel_rfl⟩ | (simp; omega)
   refine Fin.of ?_
   have hI : insI l n = l.take p ++ [n] ++ l.drop p := by rw [insI, hq, if_neg (by rw [List.getElem?_eq_none (by omega)]; simp)]
   simp [hI, ints, List.take_of_length_le]
end Go.Proofs

set_option linter.unusedSimpArgs false
set_option linter.unusedSectionVars false
namespace Go.Tr
open Go Go.Proofs Go.Shelf Go.Sort Go.Lib
abbrev KL (zs : List (List Int)) := { l : List Int // l ∈ zs }
def encKL (zs : List (List Int)) (x : KL zs) : List Value := x.1.map (Value.int .i64)
section
variable {zs : List (List Int)} [Inhabited (KL zs)] {k : Nat}
theorem encKL_len (hz : ∀ z ∈ zs, z.length = k) (x : KL zs) : (encKL zs x).length = k := by simp [encKL, hz x.1 x.2]
theorem flat_getK (hz : ∀ z ∈ zs, z.length = k) (hk : 0 < k) : ∀ {ys : List (KL zs)} {t : Nat}, t < ys.length * k → (flat (ys.map (·.1)))[t]? = some ((encKL zs ys[t / k]!)[t % k]!)
 | [], t, h => by simp at h
 | z :: ys, t, h => by
   have hz2 := hz z.1 z.2
   rw [List.map_cons, flat_cons]
   by_cases ht : t < k
   ·rw [List.getElem?_append_left (by simp [hz2]; exact ht), Nat.div_eq_of_lt ht, Nat.mod_eq_of_lt ht]
    have : t < (z.1.map (Value.int .i64)).length := by simp [hz2]; exact ht
    rw [List.getElem?_eq_getElem this]
    show _ = some ((encKL zs z)[t]!)
    rw [getElem!_pos (encKL zs z) t (by rw [encKL_len hz]; exact ht)]
    rfl
   ·obtain ⟨s, rfl⟩ : ∃ s, t = s + k := ⟨t - k, by omega⟩
    rw [List.getElem?_append_right (by simp [hz2])]
    rw [List.length_map, hz2, Nat.add_sub_cancel]
    have h2 : s < ys.length * k := by rw [List.length_cons, Nat.add_mul] at h; omega
    rw [flat_getK hz hk h2, Nat.add_div_right _ hk, Nat.add_mod_right]
    rfl
theorem flatK_eq (hz : ∀ z ∈ zs, z.length = k) (hk : 0 < k) (ys : List (KL zs)) : (flatK (encKL zs) k ys.toArray).toList = flat (ys.map (·.1)) := by
 apply List.ext_getElem?
 intro t
 have hl : (flat (ys.map (·.1))).length = ys.length * k := by
  rw [flat_len (k := k) fun z hz' => by obtain ⟨y, _, rfl⟩ := List.mem_map.1 hz'; exact hz y.1 y.2]; simp
 by_cases ht : t < ys.length * k
 ·rw [flat_getK hz hk ht]
  have h2 : t < (flatK (encKL zs) k ys.toArray).size := by simpa using ht
  have := get_flatK (encKL zs) k ys.toArray t (by simpa using ht)
  rw [getElem!_pos _ t h2] at this
  rw [Array.getElem?_toList, Array.getElem?_eq_getElem h2, this]
  simp
 ·rw [List.getElem?_eq_none (by simpa using ht), List.getElem?_eq_none (by omega)]
theorem holdsK_row (hz : ∀ z ∈ zs, z.length = k) (hk : 0 < k) {w : World} {b : Nat} {ys : List (KL zs)} {cur : Array Value} {e : TypeId} (h1 : w.heap[b]? = some (.cells cur e (0, 0))) (h2 : cur.toList.take (ys.length * k) = flat (ys.map (·.1))) : HoldsK (encKL zs) k w b 0 ys.toArray := fun j hj => by
 have hj' : j < ys.length * k := by simpa using hj
 have h3 : cur[j]? = some ((flatK (encKL zs) k ys.toArray)[j]!) := by
  have h4 : (cur.toList.take (ys.length * k))[j]? = some ((flatK (encKL zs) k ys.toArray)[j]!) := by
   rw [h2, ← flatK_eq hz hk ys, Array.getElem?_toList, Array.getElem?_eq_getElem hj, getElem!_pos _ j hj]
  rw [List.getElem?_take, if_pos hj'] at h4
  simpa using h4
 constructor
 ·simp [World.cell?, h1, h3]
 ·simp [World.frozen?, h1]
theorem rowK_put (hz : ∀ z ∈ zs, z.length = k) (hk : 0 < k) {w : World} {b : Nat} {ys : List (KL zs)} {cur : Array Value} {e : TypeId} (n : Nat) (os : Array Obj) (h1 : w.heap[b]? = some (.cells cur e (0, 0))) (hc : ys.length * k ≤ cur.size) :
  w.grownBy (sortWorldK (encKL zs) k w b 0 n ys.toArray os) (some b) ∧
   ∃ cur', (sortWorldK (encKL zs) k w b 0 n ys.toArray os).heap[b]? = some (.cells cur' e (0, 0)) ∧ cur'.size = cur.size ∧ cur'.toList.take (ys.length * k) = flat (ys.map (·.1)) := by
 have hg : b < w.heap.size := (Array.getElem?_eq_some_iff.1 h1).1
 have hsz : (putRowK (encKL zs) k (Sort.ahead w n) b 0 ys.toArray).heap.size = w.heap.size := by simp [Sort.ahead, putRowK]
 unfold sortWorldK
 refine ⟨⟨rfl, rfl, rfl, by rw [size_grow, hsz]; omega, fun j hj hne => ?_⟩, putCells id 0 (flatK (encKL zs) k ys.toArray) cur, ?_, by simp [putCells], ?_⟩
 ·rw [heap_grow_old _ _ (by rw [hsz]; exact hj)]
  have : ¬ b = j := fun e => hne (by rw [e])
  simp [putRowK, putRow, mapBlock, Sort.ahead, Array.getElem?_modify, this]
 ·rw [heap_grow_old _ _ (by rw [hsz]; exact hg)]
  simp [putRowK, putRow, mapBlock, Sort.ahead, Array.getElem?_modify, h1, onCells]
 ·rw [← flatK_eq hz hk ys]
  apply List.ext_getElem?
  intro i
  rw [List.getElem?_take]
  by_cases hi : i < ys.length * k
  ·rw [if_pos hi]
   have hi3 : i < cur.size := by omega
   have hi4 : i < (flatK (encKL zs) k ys.toArray).size := by simpa using hi
   simp only [putCells, Array.getElem?_toList, Array.getElem?_mapIdx]
   rw [Array.getElem?_eq_getElem hi3, Array.getElem?_eq_getElem hi4]
   simp [hi4, hi]
  ·rw [if_neg hi, List.getElem?_eq_none (by simpa using hi)]
end
theorem mkKL {zs : List (List Int)} : ∀ (xs : List (List Int)), (∀ z ∈ xs, z ∈ zs) → ∃ ys : List (KL zs), ys.map (·.1) = xs
 | [], _ => ⟨[], rfl⟩
 | z :: xs, h => by
   obtain ⟨ys, hy⟩ := mkKL xs fun y hy => h y (by simp [hy])
   exact ⟨⟨z, h z (by simp)⟩ :: ys, by simp [hy]⟩
structure Parts2 (cf : List Int → List Int → Int) (zs : List (List Int)) : Prop where
 irr : ∀ x ∈ zs, ¬ cf x x < 0
 tr : ∀ x ∈ zs, ∀ y ∈ zs, ∀ z ∈ zs, cf x y < 0 → cf y z < 0 → cf x z < 0
 ntr : ∀ x ∈ zs, ∀ y ∈ zs, ∀ z ∈ zs, ¬ cf x y < 0 → ¬ cf y z < 0 → ¬ cf x z < 0
 one : ∀ x ∈ zs, ∀ y ∈ zs, ¬ cf x y < 0 → ¬ cf y x < 0 → x = y
theorem SortC.of {P : Program} {ρ : Ren} (L : SlLaysF0.n6 P ρ) {k : Nat} (hk : 0 < k) (aE : ∀ w, (isAgg (ρ.t 24)).run P w = .ok true w) (zE : ∀ w, (Go.sizeOf (ρ.t 24)).run P w = .ok k w) (cf : List Int → List Int → Int) (g : Nat)
  (eg : ∀ args w, (callFunc g args).run P w = .ok (.enter g args) w)
  (hcmp : ∀ (x y : List Int) (W : World), x.length = k → y.length = k → Calls P g #[.agg (x.map (Value.int .i64)).toArray, .agg (y.map (Value.int .i64)).toArray] W fun e w' => e = .returned (.int .i64 (cf x y)) ∧ ∃ q os', w' = grow (W.drewN q) os') :
  SortC P (ρ.f 6) g k (Parts2 cf) (fun zs => zs.mergeSort fun x y => !decide (cf y x < 0)) := by
 refine ⟨fun zs => List.length_mergeSort _, fun zs h z hz => h z (List.mem_mergeSort.1 hz), fun w b cap zs cur e h1 h2 h3 h4 h5 h6 hp h7 h8 => ?_, fun p cap w => AnyF.slices_SortFunc_none L p cap _ w⟩
 obtain ⟨ys, hys⟩ := mkKL (zs := zs) zs fun _ h => h
 have hl : ys.length = zs.length := by
  have := congrArg List.length hys
  simpa using this
 have inh : Inhabited (KL zs) := ⟨⟨zs[0], List.getElem_mem h7⟩⟩
 have hO : SWO (ltOf fun x y : KL zs => cf x.1 y.1) :=
  ⟨fun x => by have := hp.irr x.1 x.2; simpa [ltOf] using this, fun x y z h1 h2 => by
   have := hp.tr x.1 x.2 y.1 y.2 z.1 z.2
   simp only [ltOf, decide_eq_true_eq] at h1 h2 ⊢
   exact this h1 h2, fun x y z h1 h2 => by
   have := hp.ntr x.1 x.2 y.1 y.2 z.1 z.2
   simp only [ltOf, decide_eq_false_iff_not] at h1 h2 ⊢
   exact this h1 h2⟩
 have hT : ∀ x y : KL zs, (ltOf fun x y : KL zs => cf x.1 y.1) x y = false → (ltOf fun x y : KL zs => cf x.1 y.1) y x = false → x = y := fun x y h1 h2 => by
  simp only [ltOf, decide_eq_false_iff_not] at h1 h2
  exact Subtype.ext (hp.one x.1 x.2 y.1 y.2 h1 h2)
 rw [← hl] at h2 h5 h7 h8 ⊢
 have h5' : cur.toList.take (ys.length * k) = flat (ys.map (·.1)) := by rw [h5, hys]
 have hcl : CmpLays P g #[] (encKL zs) k (fun x y => cf x.1 y.1) b 0 ys.toArray.size w := fun m os dk _ x y => by
  have := hcmp x.1 y.1 (sortWorldK (encKL zs) k w b 0 m dk os) (h6 _ x.2) (h6 _ y.2)
  simpa [encKL] using this
 have hs := AnyQ.slices_SortFunc_total L k aE zE (encKL zs) (encKL_len h6) (fun x v hv => by simp only [encKL, List.mem_map] at hv; obtain ⟨n, _, rfl⟩ := hv; rfl) (fun x y => cf x.1 y.1) hO g #[] b 0 cap ys.toArray w eg hcl (holdsK_row h6 hk h1 h5') (Array.getElem?_eq_some_iff.1 h1).1 (by simpa using h8) hT
 rw [show ys.toArray.size = ys.length from rfl] at hs
 refine hs.mono fun e' w' ⟨he, n, os, hw⟩ => ?_
 subst hw
 have hm : ((ys.toArray.toList.mergeSort fun x y => !(ltOf fun x y : KL zs => cf x.1 y.1) y x).map (·.1)) = zs.mergeSort fun x y => !decide (cf y x < 0) := by
  have := List.map_mergeSort (f := fun x : KL zs => x.1) (l := ys) (r := fun x y => !(ltOf fun x y : KL zs => cf x.1 y.1) y x) (s := fun x y => !decide (cf y x < 0)) fun a _ b _ => rfl
  rw [hys] at this
  exact this
 have hml : (ys.toArray.toList.mergeSort fun x y => !(ltOf fun x y : KL zs => cf x.1 y.1) y x).length = ys.length := List.length_mergeSort _
 obtain ⟨k1, cur', k2, k3, k4⟩ := rowK_put h6 hk (ys := ys.toArray.toList.mergeSort fun x y => !(ltOf fun x y : KL zs => cf x.1 y.1) y x) n os h1 (by rw [hml, h4]; exact Nat.mul_le_mul_right k h2)
 rw [hml, hm] at k4
 exact ⟨he, k1, cur', k2, by omega, k4⟩
end Go.Tr

set_option linter.unusedSimpArgs false
namespace Go.Tr
open Go
def ANo {ι : Type} (k : List Pl → List (Pl × It) → Prop) (_ : Tg k) (X : ι → Prop) : Option (Prop × (ι → List (Pl × It))) → Prop
 | some (C, W) => C ∧ ∀ c, X c → k [] (W c)
 | none => False
theorem ANo_some {ι : Type} {k : List Pl → List (Pl × It) → Prop} {g : Tg k} {X : ι → Prop} {C : Prop} {W : ι → List (Pl × It)} : ANo k g X (some (C, W)) = (C ∧ ∀ c, X c → k [] (W c)) := rfl
section
variable {P : Program} {A : Actv} {ops : Array Oper}
def rangeO (P : Program) (N : Nat) (t : S) (ops : Array Oper) : Option Oper → Option (Prop × (Snap → List (Pl × It)))
 | some o => match gv ops t o with
   | some (_, g) => match o.op with
     | .range ty x => match ev t x with
       | .mref id => match t (.o id) with
         | .mpk es c pd _ => some (g = true ∧ dstOK N o = true ∧ mapTy P ty = true ∧ t (.o (o.dst.getD 0)) = .none, fun s => dstW o (.ptr (.o (o.dst.getD 0)) 0) [(.o (o.dst.getD 0), .mit id s (es.map (·.1)) none), (.o id, .mpk es c pd (some s))])
         | _ => none
       | .d (.mp ks vs) => some (g = true ∧ dstOK N o = true ∧ mapTy P ty = true ∧ t (.o (o.dst.getD 0)) = .none ∧ t (.o (o.dst.getD 0 + 4000000)) = .none,
         fun s => dstW o (.ptr (.o (o.dst.getD 0)) 0) [(.o (o.dst.getD 0), .mit (o.dst.getD 0 + 4000000) s ((kzip ks vs).map (·.1)) none), (.o (o.dst.getD 0 + 4000000), .mpz (kzip ks vs) s)])
       | _ => none
     | _ => none
   | none => none
 | none => none
theorem ANon.range {i : Nat} {t : S} {k : List Pl → List (Pl × It) → Prop} {g : Tg k} (h : ANo k g (fun _ => True) (rangeO P A.N t ops ops[i]?)) : ANon P A ops i t k g := by
 unfold ANo at h
 split at h
 ·rename_i C W hc
  obtain ⟨h1, h2⟩ := h
  refine ⟨Snap, fun _ => [], W, ?_, fun s => h2 s trivial⟩
  unfold rangeO at hc
  split at hc
  ·rename_i o ho
   split at hc
   ·rename_i gp g0 hg
    split at hc
    ·rename_i ty x hop
     split at hc
     ·rename_i id hx
      split at hc
      ·rename_i es c pd s0 ht
       simp only [Option.some.injEq, Prod.mk.injEq] at hc
       obtain ⟨rfl, rfl⟩ := hc
       obtain ⟨rfl, q1, q2, q3⟩ := h1
       intro a w hinv K Q hK
       obtain ⟨E, hw, hi⟩ := hinv
       subst hw
       have hwant := gv_wanted hg (fun _ _ => rfl) hi
       obtain ⟨kt, e, hu⟩ : ∃ kt e, P.underlying ty = some (.map kt e) := by
        unfold mapTy at q2
        split at q2
        ·rename_i kt e hu; exact ⟨kt, e, hu⟩
        ·simp at q2
       obtain ⟨s, u, E', r1, r2, r3⟩ := range_ok hop hu hx ht q3 t (fun _ _ => rfl) a E hi
       unfold wpOp
       simp only [ho, hwant, if_true]
       refine .inl ?_
       unfold Oper.wp
       rw [r1]
       exact hK s _ _ ⟨E', rfl, r2.dst q1 r3⟩
      ·simp at hc
     ·rename_i ks vs hx
      simp only [Option.some.injEq, Prod.mk.injEq] at hc
      obtain ⟨rfl, rfl⟩ := hc
      obtain ⟨rfl, q1, q2, q3, q4⟩ := h1
      intro a w hinv K Q hK
      obtain ⟨E, hw, hi⟩ := hinv
      subst hw
      have hwant := gv_wanted hg (fun _ _ => rfl) hi
      obtain ⟨kt, e, hu⟩ : ∃ kt e, P.underlying ty = some (.map kt e) := by
       unfold mapTy at q2
       split at q2
       ·rename_i kt e hu; exact ⟨kt, e, hu⟩
       ·simp at q2
      obtain ⟨s, u, E', r1, r2, r3⟩ := rangeZ_ok hop hu hx q3 q4 (by omega) t (fun _ _ => rfl) a E hi
      unfold wpOp
      simp only [ho, hwant, if_true]
      refine .inl ?_
      unfold Oper.wp
      rw [r1]
      exact hK s _ _ ⟨E', rfl, r2.dst q1 r3⟩
     ·simp at hc
    ·simp at hc
   ·simp at hc
  ·simp at hc
 ·exact h.elim
def nextO (N : Nat) (t : S) (ops : Array Oper) : Option Oper → Option (List (List Int) × (Prop × (Option (List Int) → List (Pl × It))))
 | some o => match gv ops t o with
   | some (_, g) => match o.op with
     | .next x false => match ev t x with
       | .ptr (.o d) off => match t (.o d) with
         | .mit id s left _ => match t (.o id) with
           | .mpk _ _ _ (some s') => some (left, (g = true ∧ dstOK N o = true ∧ off = 0 ∧ s' = s, fun k => dstW o (nextV k) (nextW d id s left k)))
           | .mpz _ s' => some (left, (g = true ∧ dstOK N o = true ∧ off = 0 ∧ s' = s, fun k => dstW o (nextV k) (nextW d id s left k)))
           | _ => none
         | _ => none
       | _ => none
     | _ => none
   | none => none
 | none => none
def ANn (k : List Pl → List (Pl × It) → Prop) (_ : Tg k) : Option (List (List Int) × (Prop × (Option (List Int) → List (Pl × It)))) → Prop
 | some (left, (C, W)) => C ∧ (left = [] → k [] (W none)) ∧ ∀ x, x ∈ left → k [] (W (some x))
 | none => False
theorem ANn_some {k : List Pl → List (Pl × It) → Prop} {g : Tg k} {left : List (List Int)} {C : Prop} {W : Option (List Int) → List (Pl × It)} : ANn k g (some (left, (C, W))) = (C ∧ (left = [] → k [] (W none)) ∧ ∀ x, x ∈ left → k [] (W (some x))) := rfl
theorem SumN.next {i d id off : Nat} {t : S} {o : Oper} {gp : List Pl} {x : Operand} {es : List (List Int × TV)} {s : Snap} {left : List (List Int)} {cur : Option (List Int)} (ho : ops[i]? = some o) (hg : gv ops t o = some (gp, true)) (hop : o.op = .next x false) (hx : ev t x = .ptr (.o d) off) (hd : t (.o d) = .mit id s left cur)
  (hm : mview es s (t (.o id))) (q1 : dstOK A.N o = true) (q2 : off = 0) : SumN P A ops i t (ι := { k // nextOK left k }) fun k => dstW o (nextV k.1) (nextW d id s left k.1) := fun a w hinv K Q hK => by
 subst q2
 obtain ⟨E, hw, hi⟩ := hinv
 subst hw
 have hwant := gv_wanted hg (fun _ _ => rfl) hi
 obtain ⟨k, u, E', hk, r1, r2, r3⟩ := next_ok (P := P) hop hx hd hm t (fun _ _ => rfl) a E hi
 unfold wpOp
 simp only [ho, hwant, if_true]
 refine .inl ?_
 unfold Oper.wp
 rw [r1]
 exact hK ⟨k, hk⟩ _ _ ⟨E', rfl, r2.dst q1 r3⟩
theorem ANon.next {i : Nat} {t : S} {k : List Pl → List (Pl × It) → Prop} {g : Tg k} (h : ANn k g (nextO A.N t ops ops[i]?)) : ANon P A ops i t k g := by
 unfold ANn at h
 split at h
 ·rename_i left C W hc
  obtain ⟨h1, h2, h3⟩ := h
  refine ⟨{ k // nextOK left k }, fun _ => [], fun k => W k.1, ?_, fun ⟨k, hk⟩ => ?_⟩
  ·unfold nextO at hc
   split at hc
   ·rename_i o ho
    split at hc
    ·rename_i gp g0 hg
     split at hc
     ·rename_i x hop
      split at hc
      ·rename_i d off hx
       split at hc
       ·rename_i id s left' cur hd
        split at hc
        ·rename_i es c pd s' hm
         simp only [Option.some.injEq, Prod.mk.injEq] at hc
         obtain ⟨rfl, rfl, rfl⟩ := hc
         obtain ⟨rfl, q1, q2, rfl⟩ := h1
         exact SumN.next ho hg hop hx hd (es := es) (by rw [hm]; exact ⟨rfl, rfl⟩) q1 q2
        ·rename_i es s' hm
         simp only [Option.some.injEq, Prod.mk.injEq] at hc
         obtain ⟨rfl, rfl, rfl⟩ := hc
         obtain ⟨rfl, q1, q2, rfl⟩ := h1
         exact SumN.next ho hg hop hx hd (es := es) (by rw [hm]; exact ⟨rfl, rfl⟩) q1 q2
        ·simp at hc
       ·simp at hc
      ·simp at hc
     ·simp at hc
    ·simp at hc
   ·simp at hc
  ·cases k with
   | none => exact h2 hk
   | some x => exact h3 x hk
 ·exact h.elim
attribute [simp] ANo_some ANn_some rangeO nextO nextV nextW
end
mutual
def TV.frz (id : Nat) (v : D) : TV → TV
 | .agg vs => .agg (TV.frzs id v vs)
 | .tup vs => .tup (TV.frzs id v vs)
 | .clo f vs => .clo f (TV.frzs id v vs)
 | .oref i n => if i = id then .junk else .oref i n
 | .eptr i n j q => if i = id then .junk else .eptr i n j q
 | .mref i => if i = id then .d v else .mref i
 | .osl i n j => if i = id then .junk else .osl i n j
 | .ptr p q => if p = .o id then .junk else .ptr p q
 | t => t
def TV.frzs (id : Nat) (v : D) : List TV → List TV
 | [] => []
 | t :: ts => t.frz id v :: TV.frzs id v ts
end
def frzI (id : Nat) (v : D) : It → It
 | .v t => .v (t.frz id v)
 | .box cs => .box (TV.frzs id v cs)
 | .row e k es sh => .row e k (es.map (TV.frzs id v)) sh
 | .que e k es => .que e k (es.map (TV.frzs id v))
 | .mpk es c pd s => .mpk (es.map fun x => (x.1, x.2.frz id v)) c pd s
 | .mpz es s => .mpz (es.map fun x => (x.1, x.2.frz id v)) s
 | i => i
def En.frz (E : En) (id b : Nat) : En :=
 { E with St := fun b' o => E.St b' o ∨ (b' = b ∧ o = 0), blk := fun p => if p = .o id then none else E.blk p, val := fun k => if k = id then none else E.val k }
theorem frz_r (E : En) (id b : Nat) : ExtR E (E.frz id b) := ⟨fun _ _ h => .inl h, fun _ _ _ => rfl⟩
section
variable {E : En} {id b : Nat} {v : D}
mutual
theorem frz_rel (hb : E.blk (.o id) = some b) (hv : Rep (E.frz id b) v (.map (some b))) : ∀ {t : TV} {u : Value}, RelV E t u → RelV (E.frz id b) (t.frz id v) u
 | .junk, u, _ => by simp only [TV.frz, RelV]
 | .d x, u, h => by simp only [TV.frz, RelV] at h ⊢; exact Rep.ext (frz_r E id b) x u h
 | .c w, u, h => by simp only [TV.frz, RelV] at h ⊢; exact h
 | .agg vs, u, h => by
   simp only [TV.frz, RelV] at h ⊢
   obtain ⟨us, hu, h⟩ := h
   exact ⟨us, hu, frzs_rel hb hv h⟩
 | .tup vs, u, h => by
   simp only [TV.frz, RelV] at h ⊢
   obtain ⟨us, hu, h⟩ := h
   exact ⟨us, hu, frzs_rel hb hv h⟩
 | .oref i n, u, h => by
   simp only [TV.frz]
   split
   ·simp only [RelV]
   ·rename_i e
    simp only [RelV] at h ⊢
    obtain ⟨h1, k, c, w, h2, h3⟩ := h
    exact ⟨h1, k, c, w, by simp only [En.frz, if_neg e]; exact h2, h3⟩
 | .ptr p q, u, h => by
   simp only [TV.frz]
   split
   ·simp only [RelV]
   ·rename_i e
    simp only [RelV] at h ⊢
    obtain ⟨b', h1, h2⟩ := h
    exact ⟨b', by simp only [En.frz, if_neg e]; exact h1, h2⟩
 | .ep e q, u, h => by
   simp only [TV.frz, RelV] at h ⊢
   obtain ⟨b', o, hu, hc⟩ := h
   exact ⟨b', o, hu, RepCells.ext (frz_r E id b) b' o e hc⟩
 | .eptr i n j q, u, h => by
   simp only [TV.frz]
   split
   ·simp only [RelV]
   ·rename_i e
    simp only [RelV] at h ⊢
    obtain ⟨h1, k, c, w, h2, h3⟩ := h
    exact ⟨h1, k, c, w, by simp only [En.frz, if_neg e]; exact h2, h3⟩
 | .osl i n j, u, h => by
   simp only [TV.frz]
   split
   ·simp only [RelV]
   ·rename_i e
    simp only [RelV] at h ⊢
    obtain ⟨h1, k, c, w, h2, h3⟩ := h
    exact ⟨h1, k, c, w, by simp only [En.frz, if_neg e]; exact h2, h3⟩
 | .mref i, u, h => by
   simp only [TV.frz]
   simp only [RelV] at h
   obtain ⟨b', h1, h2⟩ := h
   split
   ·rename_i e
    subst e
    rw [hb] at h1
    simp only [Option.some.injEq] at h1
    subst h1; subst h2
    simp only [RelV]; exact hv
   ·rename_i e
    simp only [RelV]
    exact ⟨b', by simp only [En.frz]; rw [if_neg (by simpa using e)]; exact h1, h2⟩
 | .sx xs, u, h => by
   simp only [TV.frz, RelV] at h ⊢
   exact ⟨Rep.ext (frz_r E id b) (.sl xs) u h.1, h.2⟩
 | .clo f vs, u, h => by
   simp only [TV.frz, RelV] at h ⊢
   obtain ⟨us, hu, h⟩ := h
   exact ⟨us, hu, frzs_rel hb hv h⟩
theorem frzs_rel (hb : E.blk (.o id) = some b) (hv : Rep (E.frz id b) v (.map (some b))) : ∀ {ts : List TV} {us : List Value}, RelVs E ts us → RelVs (E.frz id b) (TV.frzs id v ts) us
 | [], us, h => by simpa only [TV.frzs, RelVs] using h
 | t :: ts, us, h => by
   simp only [TV.frzs, RelVs] at h ⊢
   obtain ⟨u, us', hu, h1, h2⟩ := h
   exact ⟨u, us', hu, frz_rel hb hv h1, frzs_rel hb hv h2⟩
end
theorem frzs_length : ∀ ts : List TV, (TV.frzs id v ts).length = ts.length
 | [] => by simp only [TV.frzs]
 | t :: ts => by simp only [TV.frzs, List.length_cons, frzs_length ts]
theorem frzCells (hb : E.blk (.o id) = some b) (hv : Rep (E.frz id b) v (.map (some b))) {us : List Value} : ∀ {o : Nat} {cs : List TV}, CellsRel E us o cs → CellsRel (E.frz id b) us o (TV.frzs id v cs)
 | _, [], _ => by simp only [TV.frzs]; trivial
 | _, _ :: _, ⟨⟨u, h1, h2, h3⟩, r⟩ => by simp only [TV.frzs]; exact ⟨⟨u, h1, h2, frz_rel hb hv h3⟩, frzCells hb hv r⟩
theorem frzRow (hb : E.blk (.o id) = some b) (hv : Rep (E.frz id b) v (.map (some b))) {us : List Value} {k : Nat} : ∀ {o : Nat} {es : List (List TV)}, RowRel E us k o es → RowRel (E.frz id b) us k o (es.map (TV.frzs id v))
 | _, [], _ => trivial
 | _, _ :: _, ⟨h1, h2, r⟩ => ⟨(frzs_length _).trans h1, frzCells hb hv h2, frzRow hb hv r⟩
theorem frzK (hb : E.blk (.o id) = some b) (hv : Rep (E.frz id b) v (.map (some b))) : ∀ {es : List (List Int × TV)} {l : List MapEntry}, KRel E es l → KRel (E.frz id b) (es.map fun x => (x.1, x.2.frz id v)) l
 | [], _, h => h
 | _ :: _, _, ⟨e, l', rfl, h1, h2, h3⟩ => ⟨e, l', rfl, h1, frz_rel hb hv h2, frzK hb hv h3⟩
theorem frz_item (hb : E.blk (.o id) = some b) (hv : Rep (E.frz id b) v (.map (some b))) {p : Pl} (hp : p ≠ .o id) {i : It} (h : ItemOK E p i) : ItemOK (E.frz id b) p (frzI id v i) := by
 have hblk : (E.frz id b).blk p = E.blk p := by simp only [En.frz, if_neg hp]
 have hval : ∀ k, p = .o k → (E.frz id b).val k = E.val k := fun k e => by
  have : k ≠ id := fun e2 => hp (by rw [e, e2])
  simp only [En.frz, if_neg this]
 cases i with
 | none => exact fun k e => by rw [hblk, hval k e]; exact h k e
 | v t => exact (En.own_eq hblk hval).trans h
 | box cs =>
   obtain ⟨h0, b', ty, us, g1, g2, g3, g4⟩ := h
   exact ⟨fun k e => by rw [hval k e]; exact h0 k e, b', ty, us, hblk.trans g1, g2, by rw [frzs_length]; exact g3, frzCells hb hv g4⟩
 | row e k es sh =>
   obtain ⟨h0, i, w, us, rfl, g2, g3, g4⟩ := h
   exact ⟨hblk.trans h0, i, w, us, rfl, by rw [hval i rfl, List.length_map]; exact g2, by rw [List.length_map]; exact g3, frzRow hb hv g4⟩
 | que e k es =>
   obtain ⟨h0, i, w, us, rfl, g2, g3, g4⟩ := h
   exact ⟨hblk.trans h0, i, w, us, rfl, by rw [hval i rfl, List.length_map]; exact g2, by rw [List.length_map]; exact g3, frzRow hb hv g4⟩
 | mp es =>
   obtain ⟨h0, b', l, clock, g1, g2, g3, g4⟩ := h
   exact ⟨fun k e => by rw [hval k e]; exact h0 k e, b', l, clock, hblk.trans g1, g2, g3.ext (frz_r E id b), g4⟩
 | mpk es c pd s =>
   obtain ⟨i, b', l, clock, l', ty, w, rfl, g1, g2, g3, g4, g5, g6, g7, g8⟩ := h
   exact ⟨i, b', l, clock, l', ty, w, rfl, hblk.trans g1, g2, g3, frzK hb hv g4, g5, (hval i rfl).trans g6, g7, g8⟩
 | mit m s left cur =>
   obtain ⟨h0, r, seen, g1, g2, g3⟩ := h
   exact ⟨fun k e => by rw [hval k e]; exact h0 k e, r, seen, hblk.trans g1, g2, g3⟩
 | mpz es s =>
   obtain ⟨h0, g1, g2, g3, l', g4, g5⟩ := h
   exact ⟨(En.own_eq hblk hval).trans h0, .inl g1, g2, g3, l', g4, frzK hb hv g5⟩
end
def frzS (id : Nat) (v : D) (t : S) : S := fun p => if p = .o id then .none else frzI id v (t p)
def frzV (es : List (List Int × D)) : D := .mp (es.map (·.1)) (es.map (·.2))
theorem GS.frz {A : Actv} {t : S} {id c : Nat} {es : List (List Int × D)} {pd : Option (List Int)} {s : Option Snap} (ht : t (.o id) = .mpk (es.map fun x => (x.1, .d x.2)) c pd s) : GS A t (frzS id (frzV es) t) := fun a w ⟨E, hw, hi⟩ => by
 obtain ⟨b, l, clock, l', ty, w0, hb, hg, hp, hrel, hs, hval, _⟩ := mapK_cur hi ht
 have hownp : E.own (.o id) = some b := by simp [En.own, hb]
 have hrep : Rep (E.frz id b) (frzV es) (.map (some b)) := by
  have h1 := krel_repEs hrel
  simp only [frzV, Rep]
  exact ⟨b, l, clock, l', rfl, .inr ⟨rfl, rfl⟩, hg, hp, hs, h1.1, RepEs.ext (frz_r E id b) _ _ h1.2⟩
 have hown : ∀ {p q}, (E.frz id b).own p = some q → E.own p = some q ∧ p ≠ .o id := fun {p q} h => by
  by_cases e : p = .o id
  ·subst e; simp [En.own, En.frz] at h
  ·rw [En.own_eq (E := E) (by simp only [En.frz, if_neg e]) (fun k e2 => by
    have : k ≠ id := fun e3 => e (by rw [e2, e3])
    simp only [En.frz, if_neg this])] at h
   exact ⟨h, e⟩
 refine ⟨E.frz id b, hw, ⟨⟨fun p hp => ?_, fun k => ?_, fun p q r h1 h2 => hi.h.inj p q r (hown h1).1 (hown h2).1, fun p r h => hi.h.size p r (hown h).1, fun r o h => ?_, fun r o h1 p h2 => ?_, fun y hy => RepCells.ext (frz_r E id b) _ _ _ (hi.h.gl y hy)⟩, ?_, fun k tv hk => ?_, hi.defers, hi.size⟩⟩
 ·unfold frzS
  by_cases e : p = .o id
  ·subst e
   simp only [if_true]
   exact fun k e => by simp only [Pl.o.injEq] at e; subst e; simp [En.frz]
  ·rw [if_neg e]
   exact frz_item hb hrep e (hi.h.item p hp)
 ·simp only [En.frz]; rw [if_neg (by simp)]; exact hi.h.frees k
 ·rcases h with h | ⟨rfl, _⟩
  ·exact hi.h.stsz r o h
  ·exact (Array.getElem?_eq_some_iff.1 hg).1
 ·obtain ⟨g1, g2⟩ := hown h2
  rcases h1 with h1 | ⟨rfl, _⟩
  ·obtain ⟨e, k, es', g3, g4⟩ := hi.h.sep r o h1 p g1
   refine ⟨e, k, es'.map (TV.frzs id (frzV es)), ?_, by simpa using g4⟩
   simp only [frzS, if_neg g2, g3]; rfl
  ·exact absurd (hi.h.inj _ _ _ g1 hownp) g2
 ·refine ⟨hi.fr.os, hi.fr.tape, hi.fr.output, hi.fr.size, hi.fr.old, fun i => ?_, fun i r h => hi.fr.new i r (hown h).1, fun r o h => .inl (hi.fr.st r o h), fun r o h => ?_⟩
  ·simp only [En.frz]; rw [if_neg (by simp)]; exact hi.fr.xb i
  ·rcases h with h | ⟨rfl, _⟩
   ·exact hi.fr.newst r o h
   ·exact .inr (hi.fr.new id r hownp)
 ·unfold frzS at hk
  rw [if_neg (by simp)] at hk
  cases hsk : t (.s k) with
  | v tv' =>
    rw [hsk] at hk
    simp only [frzI, It.v.injEq] at hk
    subst hk
    obtain ⟨u, h1, h2⟩ := hi.sl k tv' hsk
    exact ⟨u, h1, frz_rel hb hrep h2⟩
  | none => rw [hsk] at hk; simp [frzI] at hk
  | box _ => rw [hsk] at hk; simp [frzI] at hk
  | row _ _ _ _ => rw [hsk] at hk; simp [frzI] at hk
  | que _ _ _ => rw [hsk] at hk; simp [frzI] at hk
  | mp _ => rw [hsk] at hk; simp [frzI] at hk
  | mpk _ _ _ _ => rw [hsk] at hk; simp [frzI] at hk
  | mit _ _ _ _ => rw [hsk] at hk; simp [frzI] at hk
  | mpz _ _ => rw [hsk] at hk; simp [frzI] at hk
def frzL (id : Nat) (v : D) : List (Pl × It) → List (Pl × It)
 | [] => []
 | (p, i) :: l => if p = .o id then frzL id v l else (p, frzI id v i) :: frzL id v l
theorem frzL_o (id : Nat) (v : D) : ∀ l : List (Pl × It), look (frzL id v l) (.o id) = .none
 | [] => rfl
 | (p, i) :: l => by
   by_cases e : p = .o id
   ·simp only [frzL, if_pos e]; exact frzL_o id v l
   ·simp only [frzL, if_neg e, look]; rw [if_neg (fun h : Pl.o id = p => e h.symm)]; exact frzL_o id v l
theorem frzS_look (id : Nat) (v : D) : ∀ (l : List (Pl × It)), frzS id v (look l) = look (frzL id v l)
 | [] => by funext p; unfold frzS; split <;> rfl
 | (q, i) :: l => by
   have ih := fun p => congrFun (frzS_look id v l) p
   funext p
   by_cases hp : p = .o id
   ·subst hp; rw [frzL_o]; simp [frzS]
   ·have h1 := ih p
    simp only [frzS, if_neg hp] at h1 ⊢
    by_cases hq : q = .o id
    ·simp only [frzL, if_pos hq, look]
     rw [if_neg (fun h => hp (h.trans hq))]; exact h1
    ·simp only [frzL, if_neg hq, look]
     by_cases e : p = q
     ·simp [e]
     ·simp only [if_neg e]; exact h1
theorem Fin.frz {P : Program} {A : Actv} {fn : Func} {r : TV} {xs : List It} {ro : List (Nat × It)} {l : List (Pl × It)} (id : Nat) (es : List (List Int × D)) {c : Nat} {pd : Option (List Int)} {s : Option Snap} (ht : look l (.o id) = .mpk (es.map fun x => (x.1, .d x.2)) c pd s)
  (h : Fin P A fn r xs ro (look (frzL id (frzV es) l))) : Fin P A fn r xs ro (look l) := by
 have := GS.frz (A := A) ht
 rw [frzS_look] at this
 exact h.ghost this
attribute [simp] frzL frzI TV.frz TV.frzs
end Go.Tr

namespace Go.Proofs
open Go.Shelf
def Tryz.sortAns_ren : Go.Shelf.Ren := ⟨fun | 6 => 84 | 15 => 132 | 14 => 131 | 28 => 175 | 29 => 176 | 20 => 167 | 21 => 168 | 22 => 169 | 23 => 170 | 24 => 171 | 25 => 172 | 26 => 173 | 27 => 174 | 46 => 200 | 47 => 201 | 48 => 202 | 49 => 203 | 50 => 204 | 57 => 210 | n => n, fun | 22 => 56 | 24 => 61 | 25 => 142 | 3 => 3 | 39 => 59 | 0 => 0 | 53 => 173 | 55 => 53 | 4 => 4 | 46 => 212 | 45 => 211 | 50 => 92 | 5 => 5 | 9 => 9 | 66 => 231 | 70 => 235 | 76 => 240 | 77 => 241 | n => n, fun | n => n⟩
theorem Tryz.sortAns : Go.Proofs.SlLaysF0.n6 Tryz.prog Tryz.sortAns_ren := {
 mixed := by kernel_rfl
 f6 := ⟨Tryz.f84.name, by decide, Tryz.func84.trans (congrArg some (by kernel_rfl))⟩
 f14 := ⟨Tryz.f131.name, by decide, Tryz.func131.trans (congrArg some (by kernel_rfl))⟩
 f15 := Tryz.func132.trans (congrArg some (by kernel_rfl))
 f20 := ⟨Tryz.f167.name, by decide, Tryz.func167.trans (congrArg some (by kernel_rfl))⟩
 f21 := ⟨Tryz.f168.name, by decide, Tryz.func168.trans (congrArg some (by kernel_rfl))⟩
 f22 := ⟨Tryz.f169.name, by decide, Tryz.func169.trans (congrArg some (by kernel_rfl))⟩
 f23 := ⟨Tryz.f170.name, by decide, Tryz.func170.trans (congrArg some (by kernel_rfl))⟩
 f24 := ⟨Tryz.f171.name, by decide, Tryz.func171.trans (congrArg some (by kernel_rfl))⟩
 f25 := ⟨Tryz.f172.name, by decide, Tryz.func172.trans (congrArg some (by kernel_rfl))⟩
 f26 := ⟨Tryz.f173.name, by decide, Tryz.func173.trans (congrArg some (by kernel_rfl))⟩
 f27 := ⟨Tryz.f174.name, by decide, Tryz.func174.trans (congrArg some (by kernel_rfl))⟩
 f28 := Tryz.func175.trans (congrArg some (by kernel_rfl))
 f29 := Tryz.func176.trans (congrArg some (by kernel_rfl))
 f46 := ⟨Tryz.f200.name, by decide, Tryz.func200.trans (congrArg some (by kernel_rfl))⟩
 f47 := Tryz.func201.trans (congrArg some (by kernel_rfl))
 f48 := Tryz.func202.trans (congrArg some (by kernel_rfl))
 f49 := ⟨Tryz.f203.name, by decide, Tryz.func203.trans (congrArg some (by kernel_rfl))⟩
 f50 := ⟨Tryz.f204.name, by decide, Tryz.func204.trans (congrArg some (by kernel_rfl))⟩
 f57 := ⟨Tryz.f210.name, by decide, Tryz.func210.trans (congrArg some (by kernel_rfl))⟩
 t0 := Tryz.underlying0
 a0 := Tryz.isAgg0
 z0 := Tryz.sizeOf0
 v0 := Tryz.zeroValue0
 t3 := Tryz.underlying3
 a3 := Tryz.isAgg3
 z3 := Tryz.sizeOf3
 v3 := Tryz.zeroValue3
 t4 := Tryz.underlying4
 a4 := Tryz.isAgg4
 z4 := Tryz.sizeOf4
 v4 := Tryz.zeroValue4
 t5 := Tryz.underlying5
 a5 := Tryz.isAgg5
 z5 := Tryz.sizeOf5
 v5 := Tryz.zeroValue5
 t9 := Tryz.underlying9
 a9 := Tryz.isAgg9
 z9 := Tryz.sizeOf9
 v9 := Tryz.zeroValue9
 t22 := Tryz.underlying56
 a22 := Tryz.isAgg56
 z22 := Tryz.sizeOf56
 v22 := Tryz.zeroValue56
 t25 := Tryz.underlying142
 a25 := Tryz.isAgg142
 z25 := Tryz.sizeOf142
 v25 := Tryz.zeroValue142
 t39 := Tryz.underlying59
 a39 := Tryz.isAgg59
 z39 := Tryz.sizeOf59
 v39 := Tryz.zeroValue59
 t45 := Tryz.underlying211
 a45 := Tryz.isAgg211
 z45 := Tryz.sizeOf211
 v45 := Tryz.zeroValue211
 t46 := Tryz.underlying212
 a46 := Tryz.isAgg212
 z46 := Tryz.sizeOf212
 v46 := Tryz.zeroValue212
 t50 := Tryz.underlying92
 a50 := Tryz.isAgg92
 z50 := Tryz.sizeOf92
 v50 := Tryz.zeroValue92
 t53 := Tryz.underlying173
 a53 := Tryz.isAgg173
 z53 := Tryz.sizeOf173
 v53 := Tryz.zeroValue173
 t55 := Tryz.underlying53
 a55 := Tryz.isAgg53
 z55 := Tryz.sizeOf53
 v55 := Tryz.zeroValue53
 t66 := Tryz.underlying231
 a66 := Tryz.isAgg231
 z66 := Tryz.sizeOf231
 v66 := Tryz.zeroValue231
 t70 := Tryz.underlying235
 a70 := Tryz.isAgg235
 z70 := Tryz.sizeOf235
 v70 := Tryz.zeroValue235
 t76 := Tryz.underlying240
 a76 := Tryz.isAgg240
 z76 := Tryz.sizeOf240
 v76 := Tryz.zeroValue240
 t77 := Tryz.underlying241
 a77 := Tryz.isAgg241
 z77 := Tryz.sizeOf241
 v77 := Tryz.zeroValue241 }
def Tryz.cmpInt_ren : Go.Shelf.Ren := ⟨fun | 5 => 86 | 7 => 133 | n => n, fun | 22 => 3 | 3 => 3 | 4 => 4 | n => n, fun | n => n⟩
theorem Tryz.cmpInt : Go.Proofs.SlLaysC2.n5 Tryz.prog Tryz.cmpInt_ren := {
 mixed := by kernel_rfl
 f5 := ⟨Tryz.f86.name, by decide, Tryz.func86.trans (congrArg some (by kernel_rfl))⟩
 f7 := ⟨Tryz.f133.name, by decide, Tryz.func133.trans (congrArg some (by kernel_rfl))⟩
 t3 := Tryz.underlying3
 a3 := Tryz.isAgg3
 z3 := Tryz.sizeOf3
 v3 := Tryz.zeroValue3
 t4 := Tryz.underlying4
 a4 := Tryz.isAgg4
 z4 := Tryz.sizeOf4
 v4 := Tryz.zeroValue4
 t22 := Tryz.underlying3
 a22 := Tryz.isAgg3
 z22 := Tryz.sizeOf3
 v22 := Tryz.zeroValue3 }
end Go.Proofs

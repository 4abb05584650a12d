/-
  What functions of the program compute, stated as contracts over plain data; the conditions of each stand in its own statement.
-/
import Derived.Test.YtkhneohilohhiaaC6
set_option linter.unusedSimpArgs false
set_option maxRecDepth 100000
set_option maxHeartbeats 2000000
namespace Go.Proofs
open Go Go.Tr
/-- put x at a place -/
def gOrderL : Nat → Nat → Tp → List Int → List Int × Tp
  | 0, _, T, out => (out, T)
  | n + 1, i, T, out => gOrderL n (i + 1) (gNext T (i + 1)).2 (out.take (gNext T (i + 1)).1.toNat ++ [(i : Int)] ++ out.drop (gNext T (i + 1)).1.toNat)
def gOrder (T : Tp) (n : Int) : List Int × Tp := gOrderL n.toNat 0 T []
theorem order_c (T : Tp) (hT : TapeOK T) (n : Int) (hn : n ≤ 1000) : Contract Try.prog 56 [.ptr (.x 0) 0, .d (.int .i64 n)] [tapeI T] (.d (ints (gOrder T n).1)) [tapeI (gOrder T n).2] [] := by
  refine contract_of Try.func56 rfl (fun E0 => ?_)
  refine awp.sound (g := .mk) (ow := []) (kp := (fun k => k == 0 || k == 1 || k == 4 || k == 5 || k == 6 || k == 7 || k == 8 || k == 11)) ?_
  rw [Try.ntmps56]
  simp -dsimp
  refine ALoop.of [] (fun k => k == 0 || k == 1 || k == 4 || k == 5 || k == 6 || k == 7 || k == 8 || k == 11) (ι := { i : Nat × Tp × List Int // TapeOK i.2.1 ∧ i.2.2.length = i.1 ∧ (i.1 : Int) ≤ max n 0 ∧ gOrder T n = gOrderL (n.toNat - i.1) i.1 i.2.1 i.2.2 }) (fun i => [(Pl.s 0, It.v (TV.ptr (Pl.x 0) 0)), (Pl.s 1, It.v (TV.d (D.int IntKind.i64 n))), (Pl.x 0, tapeI i.1.2.1),
        (Pl.s 4, It.v (TV.c (Value.slice none 0 0))), (Pl.s 5, It.v (.d (ints i.1.2.2))),
        (Pl.s 6, It.v (TV.d (D.int IntKind.i64 i.1.1)))]) (fun i => n.toNat - i.1.1) ⟨(0, T, []), hT, rfl, by simp; omega, rfl⟩ ?_ ?_
  · exact GS.viewS 5 (by simp [ints])
  · rintro ⟨⟨i, T', out⟩, h1, h2, h3, h4⟩
    simp only at h1 h2 h3 h4
    simp -dsimp [ints]
    refine AIf.dec (fun h => ?_) (fun h => ?_)
    · simp -dsimp [wrap_i64 (n := (i : Int) + 1) (by omega) (by omega)]
      refine ACall.of (next_c T' h1 (i + 1) ⟨by omega, by omega⟩) [.x 0] 0 ?_
      have g1 := gNext_nonneg T' (i + 1)
      have g2 := gNext_lt T' (n := i + 1) (by omega)
      simp -dsimp [wrap_i64 (n := (i : Int) + 1) (by omega) (by omega)]
      have dl : dLen 1 (out.map fun x => [D.int .i64 x]) := dLen_map 1 _ _ fun _ => rfl
      and_intros
      all_goals try first | omega | exact dLen_take dl | exact dLen_drop (dLen_take dl) | (simp; omega)
      refine ⟨⟨(i + 1, (gNext T' (i + 1)).2, out.take (gNext T' (i + 1)).1.toNat ++ [(i : Int)] ++ out.drop (gNext T' (i + 1)).1.toNat), by simpa using h1, by simp; omega, by simp; omega, ?_⟩, GS.viewS 5 ?_, by simp; omega⟩
      · rw [h4, show n.toNat - i = n.toNat - (i + 1) + 1 by omega]; rfl
      · simp [ints]
        exact ⟨by omega, by rw [List.take_of_length_le (by simp)]⟩
    · simp -dsimp
      refine Fin.view 4 ?_
      simp -dsimp
      refine Fin.of ?_
      have : n.toNat - i = 0 := by omega
      simp [h4, this, gOrderL, ints]


structure Lk where
  a : Int
  b : Int
  ca : Int
  cb : Int
  cap : Int
def Lk.cs (x : Lk) : List D := [.int .i64 x.a, .int .i64 x.b, .int .i64 x.ca, .int .i64 x.cb, .int .i64 x.cap]
def lks (l : List Lk) : List (List D) := l.map Lk.cs
def Lk.before (y x : Lk) : Bool := decide (y.a < x.a) || (decide (y.a = x.a) && decide (y.b < x.b))
def lkPos (x : Lk) : List Lk → Nat
  | [] => 0
  | y :: r => if y.before x then lkPos x r + 1 else 0
def ordL : List Lk → List Lk → List Lk
  | [], out => out
  | x :: l, out => ordL l (out.take (lkPos x out) ++ [x] ++ out.drop (lkPos x out))

@[simp] theorem lks_len (l : List Lk) : (lks l).length = l.length := by simp [lks]
theorem lks_get {l : List Lk} {i : Nat} {x : Lk} (h : l[i]? = some x) : (lks l)[i]? = some x.cs := by simp [lks, h]
theorem lks_get' {l : List Lk} {i : Nat} {x : Lk} (h : l[i]? = some x) (hi : i < (lks l).length) : (lks l)[i] = x.cs := by
  have := lks_get h
  rw [List.getElem?_eq_getElem hi] at this
  simpa using this
theorem dLen_lks (l : List Lk) : dLen 5 (lks l) := dLen_map 5 _ _ fun _ => rfl
theorem lkPos_le (x : Lk) : ∀ l : List Lk, lkPos x l ≤ l.length
  | [] => Nat.le_refl _
  | y :: r => by
    have := lkPos_le x r
    simp only [lkPos, List.length_cons]
    split <;> omega

theorem ord_c (l : List Lk) (hl : l.length ≤ 1000) : Contract Try.prog 71 [.d (.sl (lks l))] [] (.d (.sl (lks (ordL l [])))) [] [] := by
  refine contract_of Try.func71 rfl (fun E0 => ?_)
  refine awp.sound (g := .mk) (ow := []) (kp := (fun k => k == 0 || k == 2 || k == 3 || k == 4 || k == 5 || k == 6 || k == 10 || k == 55)) ?_
  rw [Try.ntmps71]
  simp -dsimp
  refine ALoop.of [] (fun k => k == 0 || k == 2 || k == 3 || k == 4 || k == 5 || k == 6 || k == 10 || k == 55) (ι := { i : Nat × List Lk // i.1 ≤ l.length ∧ i.2.length = i.1 ∧ ordL l [] = ordL (l.drop i.1) i.2 }) (fun i => [(Pl.s 0, It.v (.d (.sl (lks l)))),
        (Pl.s 2, It.v (TV.c (Value.slice none 0 0))), (Pl.s 3, It.v (.d (.sl (lks i.1.2)))),
        (Pl.s 4, It.v (TV.d (D.int IntKind.i64 i.1.1)))]) (fun i => l.length - i.1.1) ⟨(0, []), by simp, rfl, rfl⟩ ?_ ?_
  · exact GS.viewS 3 (by simp [lks])
  · rintro ⟨⟨i, out⟩, h1, h2, h3⟩
    simp only at h1 h2 h3
    simp -dsimp
    refine AIf.dec (fun h => ?_) (fun h => ?_)
    · have hi : i < l.length := by simpa using h
      obtain ⟨x, hx⟩ : ∃ x, l[i]? = some x := ⟨l[i], List.getElem?_eq_getElem hi⟩
      have hx' := lks_get' hx
      have hdl : l.drop i = x :: l.drop (i + 1) := by rw [List.getElem?_eq_some_iff] at hx; obtain ⟨_, rfl⟩ := hx; exact List.drop_eq_getElem_cons _
      simp -dsimp
      refine ALoop.of [] (fun k => k == 0 || k == 2 || k == 3 || k == 4 || k == 5 || k == 6 || k == 10 || k == 55) (ι := { p : Nat // p ≤ out.length ∧ lkPos x out = p + lkPos x (out.drop p) }) (fun p => [(Pl.s 0, It.v (.d (.sl (lks l)))),
        (Pl.s 2, It.v (TV.c (Value.slice none 0 0))), (Pl.s 3, It.v (.d (.sl (lks out)))), (Pl.s 4, It.v (TV.d (D.int IntKind.i64 i))), (Pl.s 5, It.v (TV.d (D.int IntKind.i64 p.1)))]) (fun p => out.length - p.1) ⟨0, by omega, by simp⟩ ?_ ?_
      · exact GS.to (by simp)
      · rintro ⟨p, p1, p2⟩
        by_cases hp : p < out.length
        · obtain ⟨y, hy⟩ : ∃ y, out[p]? = some y := ⟨out[p], List.getElem?_eq_getElem hp⟩
          have hy' := lks_get' hy
          have hd : out.drop p = y :: out.drop (p + 1) := by rw [List.getElem?_eq_some_iff] at hy; obtain ⟨_, rfl⟩ := hy; exact List.drop_eq_getElem_cons _
          by_cases c1 : y.a < x.a
          · simp -dsimp [hp, hi, hy', hx', Lk.cs, c1, wrap_i64 (n := (p : Int) + 1) (by omega) (by omega)]
            refine ⟨⟨⟨p + 1, by omega, ?_⟩, GS.to (by simp), by simp; omega⟩, ⟨by kernel_rfl⟩⟩
            rw [p2, hd, lkPos, if_pos (by simp [Lk.before, c1])]; omega
          · by_cases c2 : y.a = x.a
            · by_cases c3 : y.b < x.b
              · simp -dsimp [hp, hi, hy', hx', Lk.cs, c1, c2, c3, wrap_i64 (n := (p : Int) + 1) (by omega) (by omega)]
                refine ⟨⟨⟨p + 1, by omega, ?_⟩, GS.to (by simp), by simp; omega⟩, ⟨by kernel_rfl⟩⟩
                rw [p2, hd, lkPos, if_pos (by simp [Lk.before, c2, c3])]; omega
              · have hq : lkPos x out = p := by rw [p2, hd, lkPos, if_neg (by simp [Lk.before, c2, c3])]; omega
                simp -dsimp [hp, hi, hy', c1, c2, c3, hx', Lk.cs, wrap_i64 (n := (i : Int) + 1) (by omega) (by omega)]
                and_intros
                all_goals try first | omega | exact ⟨by kernel_rfl⟩ | exact dLen_lks out | exact dLen_take (dLen_lks out) | exact dLen_drop (dLen_lks out) | exact dLen_drop (dLen_take (dLen_lks out)) | (simp; omega)
                refine ⟨⟨(i + 1, out.take p ++ [x] ++ out.drop p), by omega, by simp; omega, ?_⟩, GS.viewS 3 ?_, by simp; omega⟩
                · rw [h3, hdl, ordL, hq]
                · simp
                  refine ⟨by omega, ?_⟩
                  simp [lks, Lk.cs, List.take_of_length_le]
            · have hq : lkPos x out = p := by rw [p2, hd, lkPos, if_neg (by simp [Lk.before, c1, c2])]; omega
              simp -dsimp [hp, hi, hy', c1, c2, hx', Lk.cs, wrap_i64 (n := (i : Int) + 1) (by omega) (by omega)]
              and_intros
              all_goals try first | omega | exact ⟨by kernel_rfl⟩ | exact dLen_lks out | exact dLen_take (dLen_lks out) | exact dLen_drop (dLen_lks out) | exact dLen_drop (dLen_take (dLen_lks out)) | (simp; omega)
              refine ⟨⟨(i + 1, out.take p ++ [x] ++ out.drop p), by omega, by simp; omega, ?_⟩, GS.viewS 3 ?_, by simp; omega⟩
              · rw [h3, hdl, ordL, hq]
              · simp
                refine ⟨by omega, ?_⟩
                simp [lks, Lk.cs, List.take_of_length_le]
        · have hq : lkPos x out = p := by rw [p2, List.drop_eq_nil_of_le (by omega), lkPos]; omega
          simp -dsimp [hp, hi, hx', Lk.cs, wrap_i64 (n := (i : Int) + 1) (by omega) (by omega)]
          and_intros
          all_goals try first | omega | exact ⟨by kernel_rfl⟩ | exact dLen_lks out | exact dLen_take (dLen_lks out) | exact dLen_drop (dLen_lks out) | exact dLen_drop (dLen_take (dLen_lks out)) | (simp; omega)
          refine ⟨⟨(i + 1, out.take p ++ [x] ++ out.drop p), by omega, by simp; omega, ?_⟩, GS.viewS 3 ?_, by simp; omega⟩
          · rw [h3, hdl, ordL, hq]
          · simp
            refine ⟨by omega, ?_⟩
            simp [lks, Lk.cs, List.take_of_length_le]
    · simp -dsimp
      refine Fin.of ?_
      have : l.drop i = [] := List.drop_eq_nil_of_le (by simpa using h)
      simp [h3, this, ordL]


structure Rt where
  id : Int
  cap : Bool
def Rt.cs (x : Rt) : List D := [.int .i64 x.id, .bool x.cap]
def rts (l : List Rt) : List (List D) := l.map Rt.cs
@[simp] theorem rts_len (l : List Rt) : (rts l).length = l.length := by simp [rts]
def gRts (k : Nat) : List Rt := (List.range k).map fun (i : Nat) => ⟨(i : Int) + 1, true⟩
@[simp] theorem gRts_len (k : Nat) : (gRts k).length = k := by simp [gRts]

/-- one place of the inner loop -/
def gTopS (cost tree : Int) (skip : Bool) (b a : Int) (T : Tp) (l : List Lk) : List Lk × Tp :=
  let c := if decide (a = tree) && !skip then (true, T) else gOne T 3
  if c.1 then
    let x := gRange c.2 1 cost
    let y := gRange x.2 1 cost
    let z := gNext y.2 4
    (l ++ [⟨a, b, x.1, y.1, z.1⟩], z.2)
  else (l, c.2)
def gTopA (cost tree : Int) (skip : Bool) (b : Int) : Nat → Int → Tp → List Lk → List Lk × Tp
  | 0, _, T, l => (l, T)
  | n + 1, a, T, l => gTopA cost tree skip b n (a + 1) (gTopS cost tree skip b a T l).2 (gTopS cost tree skip b a T l).1
def gTopR (cost b : Int) (T : Tp) (l : List Lk) : List Lk × Tp :=
  let t := gRange T 1 (b - 1)
  let s := gOne t.2 9
  gTopA cost t.1 s.1 b (b - 1).toNat 1 s.2 l
def gTopB (cost : Int) : Nat → Int → Tp → List Lk → List Lk × Tp
  | 0, _, T, l => (l, T)
  | n + 1, b, T, l => gTopB cost n (b + 1) (gTopR cost b T l).2 (gTopR cost b T l).1
structure Topo where
  rs : List Rt
  ls : List Lk
def topT (g : Topo) : TV := .agg [.d (.sl (rts g.rs)), .d (.sl (lks g.ls))]
def gTop (T : Tp) (most : Int) : Topo × Tp :=
  let R := gRange T 1 most
  let C := gPick R.2 [1, 2, 2, 5]
  let X := gTopB C.1 (R.1 + 1 - 2).toNat 2 C.2 []
  (⟨gRts R.1.toNat, ordL X.1 []⟩, X.2)

theorem gPick_all {T : Tp} {l : List Int} {p : Int → Prop} (h0 : 0 < l.length) (h : ∀ x ∈ l, p x) : p (gPick T l).1 := by
  unfold gPick
  have h1 := gNext_nonneg T l.length
  have h2 := gNext_lt T (n := l.length) (by omega)
  have h3 : (gNext T l.length).1.toNat < l.length := by omega
  rw [List.getD_eq_getElem?_getD, List.getElem?_eq_getElem h3]
  exact h _ (List.getElem_mem _)
theorem gTopS_ok (cost tree : Int) (skip : Bool) (b a : Int) (T : Tp) (l : List Lk) : TapeOK (gTopS cost tree skip b a T l).2 = TapeOK T := by
  unfold gTopS
  simp only
  split <;> split <;> simp
theorem gTopS_len (cost tree : Int) (skip : Bool) (b a : Int) (T : Tp) (l : List Lk) : (gTopS cost tree skip b a T l).1.length ≤ l.length + 1 := by
  unfold gTopS
  simp only
  split <;> split <;> simp

theorem topo_c (T : Tp) (hT : TapeOK T) (most : Int) (hm : 1 ≤ most ∧ most ≤ 24) : Contract Try.prog 54 [.ptr (.x 0) 0, .d (.int .i64 most), .d (.int .i64 0)] [tapeI T] (topT (gTop T most).1) [tapeI (gTop T most).2] [] := by
  have b1 := gRange_lo T 1 most
  have b2 := gRange_hi T (a := 1) (b := most) (by omega)
  refine contract_of Try.func54 rfl (fun E0 => ?_)
  refine awp.sound (g := .mk) (ow := []) (kp := (fun k => k == 0 || k == 1 || k == 2 || k == 6 || k == 7 || k == 8 || k == 9 || k == 10 || k == 11 || k == 12 || k == 13 || k == 14 || k == 15 || k == 21 || k == 36 || k == 47 || k == 60 || k == 87 || k == 89 || k == 91 || k == 101 || k == 112 || k == 124 || k == 129 || k == 141 || k == 146 || k == 158 || k == 163 || k == 175 || k == 180)) ?_
  rw [Try.ntmps54]
  simp -dsimp
  refine ACall.of (range_c T hT 1 most ⟨by omega, by omega⟩ ⟨by omega, by omega⟩ ⟨by omega, by omega⟩ ⟨by omega, by omega⟩) [.x 0] 0 ?_
  simp -dsimp
  generalize hR : gRange T 1 most = R at b1 b2 ⊢
  have kR : TapeOK R.2 := by rw [← hR]; simpa using hT
  refine ALoop.of [] (fun k => k == 0 || k == 1 || k == 2 || k == 6 || k == 7 || k == 8 || k == 9 || k == 10 || k == 11 || k == 12 || k == 13 || k == 14 || k == 15 || k == 21 || k == 36 || k == 47 || k == 60 || k == 87 || k == 89 || k == 91 || k == 101 || k == 112 || k == 124 || k == 129 || k == 141 || k == 146 || k == 158 || k == 163 || k == 175 || k == 180) (ι := { i : Nat // (i : Int) ≤ R.1 }) (fun i => [(Pl.s 0, It.v (TV.ptr (Pl.x 0) 0)), (Pl.s 1, It.v (TV.d (D.int IntKind.i64 most))), (Pl.s 2, It.v (TV.d (D.int IntKind.i64 0))), (Pl.x 0, tapeI R.2),
    (Pl.o 6, It.box [TV.c (Value.slice none 0 0), TV.c (Value.slice none 0 0)]), (Pl.s 6, It.v (TV.ptr (Pl.o 6) 0)), (Pl.o 7, It.box [TV.oref 1000 i.1, TV.c (Value.slice none 0 0)]), (Pl.s 7, It.v (TV.ptr (Pl.o 7) 0)),
    (Pl.s 8, It.v (TV.d (D.int IntKind.i64 R.1))), (Pl.s 9, It.v (TV.d (D.int IntKind.i64 (i.1 + 1)))), (Pl.o 1000, .row 90 2 (dd (rts (gRts i.1))) false)]) (fun i => R.1.toNat - i.1) ⟨0, by omega⟩ ?_ ?_
  · exact GS.ownB' (.o 7) 0 1000 (cs := [TV.c (Value.slice none 0 0), TV.c (Value.slice none 0 0)]) 90 2 (by simp) (by simp) (by simp) (by simp) (by simp [gRts, rts])
  · rintro ⟨i, hi⟩
    simp -dsimp
    refine AIf.dec (fun h => ?_) (fun h => ?_)
    · simp -dsimp [wrap_i64 (n := (i : Int) + 1 + 1) (by omega) (by omega)]
      and_intros
      all_goals try omega
      exact ⟨⟨⟨i + 1, by omega⟩, GS.to (by simp [gRts, rts, List.range_succ, Rt.cs]), by simp; omega⟩⟩
    · have hk : R.1 = i := by omega
      simp -dsimp
      refine ACall.of (pick_c R.2 kR [1, 2, 2, 5] (by simp) (by simp)) [.x 0] 0 ?_
      simp -dsimp [ints]
      generalize hC : gPick R.2 [1, 2, 2, 5] = C
      have kC : TapeOK C.2 := by rw [← hC]; simpa using kR
      have bC : 1 ≤ C.1 ∧ C.1 ≤ 5 := by rw [← hC]; exact gPick_all (p := fun x => 1 ≤ x ∧ x ≤ 5) (by simp) (by simp)
      refine ALoop.of [] (fun k => k == 0 || k == 1 || k == 2 || k == 6 || k == 7 || k == 8 || k == 9 || k == 10 || k == 11 || k == 12 || k == 13 || k == 14 || k == 15 || k == 21 || k == 36 || k == 47 || k == 60 || k == 87 || k == 89 || k == 91 || k == 101 || k == 112 || k == 124 || k == 129 || k == 141 || k == 146 || k == 158 || k == 163 || k == 175 || k == 180) (ι := { z : Int × Tp × List Lk // 2 ≤ z.1 ∧ z.1 ≤ R.1 + 1 ∧ TapeOK z.2.1 ∧ z.2.2.length ≤ 24 * (z.1.toNat - 2) ∧ gTopB C.1 (R.1 + 1 - 2).toNat 2 C.2 [] = gTopB C.1 (R.1 + 1 - z.1).toNat z.1 z.2.1 z.2.2 })
        (fun z => [(Pl.s 0, It.v (TV.ptr (Pl.x 0) 0)), (Pl.s 1, It.v (TV.d (D.int IntKind.i64 most))), (Pl.s 2, It.v (TV.d (D.int IntKind.i64 0))), (Pl.x 0, tapeI z.1.2.1),
          (Pl.o 6, It.box [TV.c (Value.slice none 0 0), TV.c (Value.slice none 0 0)]), (Pl.s 6, It.v (TV.ptr (Pl.o 6) 0)), (Pl.o 7, It.box [TV.oref 1000 i, TV.oref 1001 z.1.2.2.length]), (Pl.s 7, It.v (TV.ptr (Pl.o 7) 0)),
          (Pl.s 8, It.v (TV.d (D.int IntKind.i64 R.1))), (Pl.o 1000, .row 90 2 (dd (rts (gRts i))) false), (Pl.o 1001, .row 104 5 (dd (lks z.1.2.2)) false),
          (Pl.s 10, It.v (TV.d (D.int IntKind.i64 C.1))), (Pl.s 11, It.v (TV.d (D.int IntKind.i64 z.1.1)))]) (fun z => (R.1 + 1 - z.1.1).toNat) ⟨(2, C.2, []), by omega, by omega, kC, by simp, rfl⟩ ?_ ?_
      · exact GS.ownB' (.o 7) 1 1001 (cs := [TV.oref 1000 i, TV.c (Value.slice none 0 0)]) 104 5 (by simp) (by simp) (by simp) (by simp) (by simp [lks])
      · rintro ⟨⟨b, T0, l0⟩, i1, i2, i3, i4, i5⟩
        simp only at i1 i2 i3 i4 i5
        simp -dsimp
        refine AIf.dec (fun hb => ?_) (fun hb => ?_)
        · have t1 := gRange_lo T0 1 (b - 1)
          have t2 := gRange_hi T0 (a := 1) (b := b - 1) (by omega)
          simp -dsimp [wrap_i64 (n := b - 1) (by omega) (by omega)]
          refine ACall.of (range_c T0 i3 1 (b - 1) ⟨by omega, by omega⟩ ⟨by omega, by omega⟩ ⟨by omega, by omega⟩ ⟨by omega, by omega⟩) [.x 0] 0 ?_
          simp -dsimp
          generalize ht : gRange T0 1 (b - 1) = t at t1 t2 ⊢
          have kt : TapeOK t.2 := by rw [← ht]; simpa using i3
          refine ACall.of (one_c t.2 kt 9 ⟨by omega, by omega⟩ ⟨by omega, by omega⟩) [.x 0] 0 ?_
          simp -dsimp
          generalize hs : gOne t.2 9 = s
          have ks : TapeOK s.2 := by rw [← hs]; simpa using kt
          refine ALoop.of [] (fun k => k == 0 || k == 1 || k == 2 || k == 6 || k == 7 || k == 8 || k == 9 || k == 10 || k == 11 || k == 12 || k == 13 || k == 14 || k == 15 || k == 21 || k == 36 || k == 47 || k == 60 || k == 87 || k == 89 || k == 91 || k == 101 || k == 112 || k == 124 || k == 129 || k == 141 || k == 146 || k == 158 || k == 163 || k == 175 || k == 180) (ι := { z : Int × Tp × List Lk // 1 ≤ z.1 ∧ z.1 ≤ b ∧ TapeOK z.2.1 ∧ z.2.2.length ≤ 24 * (b.toNat - 2) + (z.1.toNat - 1) ∧ gTopA C.1 t.1 s.1 b (b - 1).toNat 1 s.2 l0 = gTopA C.1 t.1 s.1 b (b - z.1).toNat z.1 z.2.1 z.2.2 })
            (fun z => [(Pl.s 0, It.v (TV.ptr (Pl.x 0) 0)), (Pl.s 1, It.v (TV.d (D.int IntKind.i64 most))), (Pl.s 2, It.v (TV.d (D.int IntKind.i64 0))), (Pl.x 0, tapeI z.1.2.1),
              (Pl.o 6, It.box [TV.c (Value.slice none 0 0), TV.c (Value.slice none 0 0)]), (Pl.s 6, It.v (TV.ptr (Pl.o 6) 0)), (Pl.o 7, It.box [TV.oref 1000 i, TV.oref 1001 z.1.2.2.length]), (Pl.s 7, It.v (TV.ptr (Pl.o 7) 0)),
              (Pl.s 8, It.v (TV.d (D.int IntKind.i64 R.1))), (Pl.o 1000, .row 90 2 (dd (rts (gRts i))) false), (Pl.o 1001, .row 104 5 (dd (lks z.1.2.2)) false),
              (Pl.s 10, It.v (TV.d (D.int IntKind.i64 C.1))), (Pl.s 11, It.v (TV.d (D.int IntKind.i64 b))), (Pl.s 12, It.v (TV.d (D.int IntKind.i64 t.1))), (Pl.s 13, It.v (TV.d (D.bool s.1))), (Pl.s 14, It.v (TV.d (D.int IntKind.i64 z.1.1)))]) (fun z => (b - z.1.1).toNat) ⟨(1, s.2, l0), by omega, by omega, ks, by simpa using i4, rfl⟩ ?_ ?_
          · exact GS.to (by simp)
          · rintro ⟨⟨a, T1, l⟩, j1, j2, j3, j4, j5⟩
            simp only at j1 j2 j3 j4 j5
            by_cases hab : a < b
            · have hab' : decide (a < b) = true := by simpa using hab
              by_cases ha : a = t.1
              · have ha' : decide (a = t.1) = true := by simpa using ha
                rcases (Bool.eq_false_or_eq_true s.1).symm with hs1 | hs1
                · simp -dsimp [hab', ha', hs1]
                  have x1 := gRange_lo T1 1 C.1
                  have x2 := gRange_hi T1 (a := 1) (b := C.1) (by omega)
                  refine ACall.of (range_c T1 j3 1 C.1 ⟨by omega, by omega⟩ ⟨by omega, by omega⟩ ⟨by omega, by omega⟩ ⟨by omega, by omega⟩) [.x 0] 0 ?_
                  simp -dsimp
                  generalize hx : gRange T1 1 C.1 = x at x1 x2 ⊢
                  have kx : TapeOK x.2 := by rw [← hx]; simpa using j3
                  have y1 := gRange_lo x.2 1 C.1
                  have y2 := gRange_hi x.2 (a := 1) (b := C.1) (by omega)
                  refine ACall.of (range_c x.2 kx 1 C.1 ⟨by omega, by omega⟩ ⟨by omega, by omega⟩ ⟨by omega, by omega⟩ ⟨by omega, by omega⟩) [.x 0] 0 ?_
                  simp -dsimp
                  generalize hy : gRange x.2 1 C.1 = y at y1 y2 ⊢
                  have ky : TapeOK y.2 := by rw [← hy]; simpa using kx
                  refine ACall.of (next_c y.2 ky 4 ⟨by omega, by omega⟩) [.x 0] 0 ?_
                  simp -dsimp [wrap_i64 (n := a + 1) (by omega) (by omega)]
                  have e : gTopS C.1 t.1 s.1 b a T1 l = (l ++ [⟨a, b, x.1, y.1, (gNext y.2 4).1⟩], (gNext y.2 4).2) := by simp [gTopS, ha', hs1, hx, hy]
                  and_intros
                  all_goals try first | omega | exact ⟨by kernel_rfl⟩ | (simp; omega)
                  exact ⟨⟨(a + 1, (gNext y.2 4).2, l ++ [⟨a, b, x.1, y.1, (gNext y.2 4).1⟩]), by omega, by omega, by simpa using ky, by simp; omega, by rw [j5, show (b - a).toNat = (b - (a + 1)).toNat + 1 by omega, gTopA, e]⟩, GS.to (by simp [lks, Lk.cs, ha', hs1]), by simp; omega⟩
                · simp -dsimp [hab', ha', hs1]
                  refine ACall.of (one_c T1 j3 3 ⟨by omega, by omega⟩ ⟨by omega, by omega⟩) [.x 0] 0 ?_
                  generalize ho : gOne T1 3 = o
                  have ko : TapeOK o.2 := by rw [← ho]; simpa using j3
                  rcases (Bool.eq_false_or_eq_true o.1).symm with ho1 | ho1
                  · simp -dsimp [ho1, wrap_i64 (n := a + 1) (by omega) (by omega)]
                    have e : gTopS C.1 t.1 s.1 b a T1 l = (l, o.2) := by simp [gTopS, ha', hs1, ho, ho1]
                    and_intros
                    all_goals try first | omega | exact ⟨by kernel_rfl⟩ | (simp; omega)
                    exact ⟨⟨(a + 1, o.2, l), by omega, by omega, ko, by simp; omega, by rw [j5, show (b - a).toNat = (b - (a + 1)).toNat + 1 by omega, gTopA, e]⟩, GS.to (by simp [ha', hs1]), by simp; omega⟩
                  · simp -dsimp [ho1]
                    have x1 := gRange_lo o.2 1 C.1
                    have x2 := gRange_hi o.2 (a := 1) (b := C.1) (by omega)
                    refine ACall.of (range_c o.2 ko 1 C.1 ⟨by omega, by omega⟩ ⟨by omega, by omega⟩ ⟨by omega, by omega⟩ ⟨by omega, by omega⟩) [.x 0] 0 ?_
                    simp -dsimp
                    generalize hx : gRange o.2 1 C.1 = x at x1 x2 ⊢
                    have kx : TapeOK x.2 := by rw [← hx]; simpa using ko
                    have y1 := gRange_lo x.2 1 C.1
                    have y2 := gRange_hi x.2 (a := 1) (b := C.1) (by omega)
                    refine ACall.of (range_c x.2 kx 1 C.1 ⟨by omega, by omega⟩ ⟨by omega, by omega⟩ ⟨by omega, by omega⟩ ⟨by omega, by omega⟩) [.x 0] 0 ?_
                    simp -dsimp
                    generalize hy : gRange x.2 1 C.1 = y at y1 y2 ⊢
                    have ky : TapeOK y.2 := by rw [← hy]; simpa using kx
                    refine ACall.of (next_c y.2 ky 4 ⟨by omega, by omega⟩) [.x 0] 0 ?_
                    simp -dsimp [wrap_i64 (n := a + 1) (by omega) (by omega)]
                    have e : gTopS C.1 t.1 s.1 b a T1 l = (l ++ [⟨a, b, x.1, y.1, (gNext y.2 4).1⟩], (gNext y.2 4).2) := by simp [gTopS, ha', hs1, ho, ho1, hx, hy]
                    and_intros
                    all_goals try first | omega | exact ⟨by kernel_rfl⟩ | (simp; omega)
                    exact ⟨⟨(a + 1, (gNext y.2 4).2, l ++ [⟨a, b, x.1, y.1, (gNext y.2 4).1⟩]), by omega, by omega, by simpa using ky, by simp; omega, by rw [j5, show (b - a).toNat = (b - (a + 1)).toNat + 1 by omega, gTopA, e]⟩, GS.to (by simp [lks, Lk.cs, ha', hs1, ho, ho1]), by simp; omega⟩
              · have ha' : decide (a = t.1) = false := by simpa using ha
                simp -dsimp [hab', ha']
                refine ACall.of (one_c T1 j3 3 ⟨by omega, by omega⟩ ⟨by omega, by omega⟩) [.x 0] 0 ?_
                generalize ho : gOne T1 3 = o
                have ko : TapeOK o.2 := by rw [← ho]; simpa using j3
                rcases (Bool.eq_false_or_eq_true o.1).symm with ho1 | ho1
                · simp -dsimp [ho1, wrap_i64 (n := a + 1) (by omega) (by omega)]
                  have e : gTopS C.1 t.1 s.1 b a T1 l = (l, o.2) := by simp [gTopS, ha', ho, ho1]
                  and_intros
                  all_goals try first | omega | exact ⟨by kernel_rfl⟩ | (simp; omega)
                  exact ⟨⟨(a + 1, o.2, l), by omega, by omega, ko, by simp; omega, by rw [j5, show (b - a).toNat = (b - (a + 1)).toNat + 1 by omega, gTopA, e]⟩, GS.to (by simp [ha']), by simp; omega⟩
                · simp -dsimp [ho1]
                  have x1 := gRange_lo o.2 1 C.1
                  have x2 := gRange_hi o.2 (a := 1) (b := C.1) (by omega)
                  refine ACall.of (range_c o.2 ko 1 C.1 ⟨by omega, by omega⟩ ⟨by omega, by omega⟩ ⟨by omega, by omega⟩ ⟨by omega, by omega⟩) [.x 0] 0 ?_
                  simp -dsimp
                  generalize hx : gRange o.2 1 C.1 = x at x1 x2 ⊢
                  have kx : TapeOK x.2 := by rw [← hx]; simpa using ko
                  have y1 := gRange_lo x.2 1 C.1
                  have y2 := gRange_hi x.2 (a := 1) (b := C.1) (by omega)
                  refine ACall.of (range_c x.2 kx 1 C.1 ⟨by omega, by omega⟩ ⟨by omega, by omega⟩ ⟨by omega, by omega⟩ ⟨by omega, by omega⟩) [.x 0] 0 ?_
                  simp -dsimp
                  generalize hy : gRange x.2 1 C.1 = y at y1 y2 ⊢
                  have ky : TapeOK y.2 := by rw [← hy]; simpa using kx
                  refine ACall.of (next_c y.2 ky 4 ⟨by omega, by omega⟩) [.x 0] 0 ?_
                  simp -dsimp [wrap_i64 (n := a + 1) (by omega) (by omega)]
                  have e : gTopS C.1 t.1 s.1 b a T1 l = (l ++ [⟨a, b, x.1, y.1, (gNext y.2 4).1⟩], (gNext y.2 4).2) := by simp [gTopS, ha', ho, ho1, hx, hy]
                  and_intros
                  all_goals try first | omega | exact ⟨by kernel_rfl⟩ | (simp; omega)
                  exact ⟨⟨(a + 1, (gNext y.2 4).2, l ++ [⟨a, b, x.1, y.1, (gNext y.2 4).1⟩]), by omega, by omega, by simpa using ky, by simp; omega, by rw [j5, show (b - a).toNat = (b - (a + 1)).toNat + 1 by omega, gTopA, e]⟩, GS.to (by simp [lks, Lk.cs, ha', ho, ho1]), by simp; omega⟩
            · have hab' : decide (a < b) = false := by simpa using hab
              obtain rfl : a = b := by omega
              simp -dsimp [hab', wrap_i64 (n := a + 1) (by omega) (by omega)]
              have e : gTopR C.1 a T0 l0 = (l, T1) := by unfold gTopR; simp only [ht, hs]; rw [j5]; simp [gTopA]
              exact ⟨⟨(a + 1, T1, l), by omega, by omega, j3, by simp; omega, by rw [i5, show (R.1 + 1 - a).toNat = (R.1 + 1 - (a + 1)).toNat + 1 by omega, gTopB, e]⟩, GS.to (by simp), by simp; omega⟩
        · obtain rfl : b = R.1 + 1 := by omega
          simp -dsimp
          refine ACall.of (ord_c l0 (by omega)) [] 0 ?_
          simp -dsimp
          refine Fin.box (.o 6) rfl ?_
          simp -dsimp
          refine Fin.of ?_
          have hX : gTopB C.1 (R.1 + 1 - 2).toNat 2 C.2 [] = (l0, T0) := by rw [i5]; simp [gTopB]
          simp only [gTop, hR, hC, hX]
          simp [topT, hk]
end Go.Proofs

/-
  What functions of the program compute, stated as contracts over plain data; the conditions of each stand in its own statement.
-/
import Derived.Test.YteenclepbpajdaaGreatDoorM23
set_option linter.unusedSimpArgs false
set_option maxRecDepth 100000
set_option maxHeartbeats 2000000
namespace Go.Proofs
open Go Go.Tr
def mixR (l : List Rw) (k : Nat) (y : Rw) (id : Nat) : List (List TV) := dd (rws (l.take k)) ++ [TV.d (.int .i64 y.id), TV.oref id y.nx.length] :: dd (rws (l.drop (k + 1)))
@[simp] theorem only_mix (po : Nat → Prop) (l : List Rw) (k : Nat) (y : Rw) (id : Nat) : rowsOnly po (mixR l k y id) = po id := by simp [mixR, TV.onlys, TV.only]
theorem mixR_len {l : List Rw} {k : Nat} (y : Rw) (id : Nat) (h : k < l.length) : (mixR l k y id).length = l.length := by
 simp [mixR]
 omega
theorem mixR_app {l : List Rw} {k : Nat} (y x : Rw) (id : Nat) (h : k < l.length) : mixR (l ++ [x]) k y id = mixR l k y id ++ dd (rws [x]) := by
 have h1 : (l ++ [x]).take k = l.take k := List.take_append_of_le_length (by omega)
 have h2 : (l ++ [x]).drop (k + 1) = l.drop (k + 1) ++ [x] := List.drop_append_of_le_length (by omega)
 simp [mixR, h1, h2, rws]
theorem mixR_last {l : List Rw} (x : Rw) (id : Nat) : mixR (l ++ [x]) l.length x id = dd (rws l) ++ [[TV.d (.int .i64 x.id), TV.oref id x.nx.length]] := by
 simp [mixR, rws]
theorem set_last {α : Type} {l : List α} {i : Nat} (h : l.length = i) (x y : α) : (l ++ [x]).set i y = l ++ [y] := by
 subst h; simp
theorem get_last {α : Type} {l : List α} {i : Nat} (h : l.length = i) (x : α) : (l ++ [x])[i]? = some x := by
 subst h; simp
theorem copiedI_c (b : Tb) (hb : b.rows.length ≤ 1000000) (hn : ∀ x ∈ b.rows, x.nx.length ≤ 1000000) (k : Nat) (y : Rw) (hk : b.rows[k]? = some y) :
  Contract Tryz.prog 66 [tblT b] [] (.agg [TV.d (D.int IntKind.i64 b.r), TV.d (D.int IntKind.i64 b.sd), TV.d (D.int IntKind.i64 b.len), .oref 3 b.rows.length]) [] [(3, .row 116 2 (mixR b.rows k y 1001) false), (1001, .row 3 1 (dd (nrow .i64 y.nx)) false)] := by
 have hkl : k < b.rows.length := (List.getElem?_eq_some_iff.1 hk).1
 refine contract_of Tryz.func66 rfl (fun E0 => ?_)
 refine awp.sound (g := .mk) (ow := [19, 28, 2000027]) (kp := (fun k => k==0||k==1||k==2||k==3||k==4||k==9)) ?_
 rw [Tryz.ntmps66]
 simp -dsimp [tblT, rwsD_eq]
 refine ALoop.of [19, 28, 2000027] (fun k => k==0||k==1||k==2||k==3||k==4||k==9) (ι := { i : Nat // i ≤ b.rows.length }) (fun z => if z.1 ≤ k then [(Pl.s 0, It.v (TV.agg [TV.d (D.int IntKind.i64 b.r), TV.d (D.int IntKind.i64 b.sd), TV.d (D.int IntKind.i64 b.len), TV.d (D.sl (rws b.rows))])), (Pl.o 1, It.box [TV.d (D.int IntKind.i64 b.r), TV.d (D.int IntKind.i64 b.sd), TV.d (D.int IntKind.i64 b.len), TV.d (D.sl (rws b.rows))]), (Pl.s 1, It.v (TV.ptr (Pl.o 1) 0)), (Pl.o 2, It.box [TV.d (D.int IntKind.i64 0), TV.d (D.int IntKind.i64 0), TV.d (D.int IntKind.i64 0), TV.c (Value.slice none 0 0)]), (Pl.s 2, It.v (TV.ptr (Pl.o 2) 0)), (Pl.s 3, It.v (TV.oref 3 z.1)), (Pl.o 3, It.row 116 2 (dd (rws (b.rows.take z.1))) false), (Pl.s 4, It.v (TV.d (D.int IntKind.i64 z.1)))]
  else [(Pl.s 0, It.v (TV.agg [TV.d (D.int IntKind.i64 b.r), TV.d (D.int IntKind.i64 b.sd), TV.d (D.int IntKind.i64 b.len), TV.d (D.sl (rws b.rows))])), (Pl.o 1, It.box [TV.d (D.int IntKind.i64 b.r), TV.d (D.int IntKind.i64 b.sd), TV.d (D.int IntKind.i64 b.len), TV.d (D.sl (rws b.rows))]), (Pl.s 1, It.v (TV.ptr (Pl.o 1) 0)), (Pl.o 2, It.box [TV.d (D.int IntKind.i64 0), TV.d (D.int IntKind.i64 0), TV.d (D.int IntKind.i64 0), TV.c (Value.slice none 0 0)]), (Pl.s 2, It.v (TV.ptr (Pl.o 2) 0)), (Pl.s 3, It.v (TV.oref 3 z.1)), (Pl.o 3, It.row 116 2 (mixR (b.rows.take z.1) k y 1001) false), (Pl.o 1001, .row 3 1 (dd (nrow .i64 y.nx)) false), (Pl.s 4, It.v (TV.d (D.int IntKind.i64 z.1)))]) (fun z => b.rows.length - z.1) ⟨0, by omega⟩ ?_ ?_
 ·rw [if_pos (by simp)]
  exact GS.own' (k := 3) 116 2 (by simp) (by simp) (by simp [rws])
 rintro ⟨i, i1⟩
 by_cases hi : i < b.rows.length
 ·have hiz : (i : Int) < b.rows.length := by omega
  have hx : b.rows[i]? = some b.rows[i] := List.getElem?_eq_getElem hi
  have ht : b.rows.take (i + 1) = b.rows.take i ++ [b.rows[i]] := by rw [List.take_add_one, List.getElem?_eq_getElem hi]; rfl
  have hnx := hn b.rows[i] (List.getElem_mem hi)
  generalize b.rows[i] = x at hx ht hnx
  have hx' := rws_get hx
  by_cases hik : i ≤ k
  ·simp only [if_pos hik]
   simp -dsimp [hiz, hx', ints, wrap_i64 (n := (i : Int) + 1) (by omega) (by omega)]
   and_intros
   all_goals try first | rfl | omega | exact ⟨by kernel_rfl⟩ | exact dLen_map 1 _ _ fun _ => rfl
   have htl : (dd (rws (b.rows.take i))).length = i := by simp; omega
   by_cases hek : i = k
   ·subst hek
    rw [hk] at hx
    simp only [Option.some.injEq] at hx
    subst hx
    have hm : mixR (b.rows.take (i + 1)) i y 1001 = dd (rws (b.rows.take i)) ++ [[TV.d (.int .i64 y.id), TV.oref 1001 y.nx.length]] := by
     rw [ht]
     have := mixR_last (l := b.rows.take i) y 1001
     rw [List.length_take, Nat.min_eq_left (by omega)] at this
     exact this
    refine ⟨⟨⟨i + 1, by omega⟩, ?_, by simp; omega⟩⟩
    simp only [if_neg (show ¬ i + 1 ≤ i by omega)]
    exact GS.ren' 19 1001 (by omega) (by simp) (by simp [hm, nrow])
   ·have hs := set_last htl [TV.d (D.int IntKind.i64 x.id), TV.oref 19 x.nx.length] [TV.d (.int .i64 x.id), TV.d (ints x.nx)]
    have hg := get_last htl [TV.d (D.int IntKind.i64 x.id), TV.oref 19 x.nx.length]
    have he : dd (rws (b.rows.take i)) ++ [[TV.d (.int .i64 x.id), TV.d (ints x.nx)]] = dd (rws (b.rows.take (i + 1))) := by rw [ht, rws_app]; simp
    rw [he] at hs
    generalize dd (rws (b.rows.take i)) ++ [[TV.d (D.int IntKind.i64 x.id), TV.oref 19 x.nx.length]] = EE at hs hg ⊢
    refine ⟨⟨⟨i + 1, by omega⟩, ?_, by simp; omega⟩⟩
    simp only [if_pos (show i + 1 ≤ k by omega)]
    exact GS.seeRow' 3 i 1 19 (e0 := 116) (k0 := 2) (es0 := EE) (sh0 := false) (n := x.nx.length) (e := 3) (k := 1) (es := dd (nrow .i64 x.nx)) (sh := false) (xs := nrow .i64 x.nx) (by simp) (by omega) hg (by simp) (by simp [nrow]) (by simp [nrow]) (by simp) (by simp [ints] at hs; simp [hs, nrow])
  ·simp only [if_neg hik]
   have hmix : mixR b.rows k y 1001 = mixR b.rows k y 1001 := rfl
   simp -dsimp [hiz, hx', ints, wrap_i64 (n := (i : Int) + 1) (by omega) (by omega)]
   and_intros
   all_goals try first | rfl | omega | exact ⟨by kernel_rfl⟩ | exact dLen_map 1 _ _ fun _ => rfl | (rw [mixR_len _ _ (by simp; omega)]; simp; omega)
   have htl : (mixR (b.rows.take i) k y 1001).length = i := by rw [mixR_len _ _ (by simp; omega)]; simp; omega
   have hs := set_last htl [TV.d (D.int IntKind.i64 x.id), TV.oref 19 x.nx.length] [TV.d (.int .i64 x.id), TV.d (ints x.nx)]
   have hg := get_last htl [TV.d (D.int IntKind.i64 x.id), TV.oref 19 x.nx.length]
   have he : mixR (b.rows.take i) k y 1001 ++ [[TV.d (.int .i64 x.id), TV.d (ints x.nx)]] = mixR (b.rows.take (i + 1)) k y 1001 := by
    rw [ht, mixR_app _ _ _ (by simp; omega)]
    simp [rws, Rw.cs]
   rw [he] at hs
   generalize mixR (b.rows.take i) k y 1001 ++ [[TV.d (D.int IntKind.i64 x.id), TV.oref 19 x.nx.length]] = EE at hs hg ⊢
   refine ⟨⟨⟨i + 1, by omega⟩, ?_, by simp; omega⟩⟩
   simp only [if_neg (show ¬ i + 1 ≤ k by omega)]
   exact GS.seeRow' 3 i 1 19 (e0 := 116) (k0 := 2) (es0 := EE) (sh0 := false) (n := x.nx.length) (e := 3) (k := 1) (es := dd (nrow .i64 x.nx)) (sh := false) (xs := nrow .i64 x.nx) (by simp) (by omega) hg (by simp) (by simp [nrow]) (by simp [nrow]) (by simp) (by simp [ints] at hs; simp [hs, nrow])
 ·have hiz : ¬ (i : Int) < b.rows.length := by omega
  obtain rfl : i = b.rows.length := by omega
  simp only [if_neg (show ¬ b.rows.length ≤ k by omega), List.take_length]
  simp -dsimp [hiz]
  refine Fin.of ?_
  simp
end Go.Proofs

set_option linter.unusedSimpArgs false
set_option maxRecDepth 100000
set_option maxHeartbeats 2000000
namespace Go.Proofs
open Go Go.Tr
def rowW (b : Tb) (k : Nat) (f : List Int → List Int) : Tb := ⟨b.r, b.sd, b.len, b.rows.set k ⟨(b.rows.getD k ⟨0, []⟩).id, f (b.rows.getD k ⟨0, []⟩).nx⟩⟩
def gBend (T : Tp) (b : Tb) : Tb × Tp :=
 let s := gNext T 8
 if s.1 = 0 then (⟨(gPick s.2 [0, 1, 2, 99, 100]).1, b.sd, b.len, b.rows⟩, (gPick s.2 [0, 1, 2, 99, 100]).2)
 else if s.1 = 1 then (⟨b.r, (gWild s.2).1, b.len, b.rows⟩, (gWild s.2).2)
 else if s.1 = 2 then (⟨b.r, b.sd, (gPick s.2 [0, 8, 16, 24, 64]).1, b.rows⟩, (gPick s.2 [0, 8, 16, 24, 64]).2)
 else if s.1 = 3 then (⟨b.r, b.sd, b.len, b.rows ++ [⟨(gPick s.2 [0, 1, 256, 257]).1, [1]⟩]⟩, (gPick s.2 [0, 1, 256, 257]).2)
 else if b.rows = [] then (b, s.2)
 else
  let k := gNext s.2 b.rows.length
  let m := gNext k.2 4
  if m.1 = 0 then (rowW b k.1.toNat (· ++ [(gPick m.2 [0, 1, 6, 99, 100]).1]), (gPick m.2 [0, 1, 6, 99, 100]).2)
  else if m.1 = 1 then (rowW b k.1.toNat (· ++ [b.r]), m.2)
  else if m.1 = 2 then (rowW b k.1.toNat (fun _ => []), m.2)
  else (rowW b k.1.toNat (fun _ => [(gPick m.2 [1, 2, 3, 9, b.r]).1]), (gPick m.2 [1, 2, 3, 9, b.r]).2)
def bendAt (T : Tp) (b : Tb) : Option Nat :=
 let s := gNext T 8
 if s.1 ≤ 3 then none else if b.rows = [] then none else
  let k := gNext s.2 b.rows.length
  if (gNext k.2 4).1 ≤ 1 then some k.1.toNat else none
theorem bendP_c (T : Tp) (hT : TapeOK T) (b : Tb) (hb : b.rows.length ≤ 1000) (hn : bendAt T b = none) : Contract2 Tryz.prog 67 [.ptr (.x 0) 0, .agg [TV.d (D.int IntKind.i64 b.r), TV.d (D.int IntKind.i64 b.sd), TV.d (D.int IntKind.i64 b.len), .oref 900 b.rows.length]] [tapeI T] [(900, .row 116 2 (dd (rws b.rows)) false)] (tblT (gBend T b).1) [tapeI (gBend T b).2] [] := by
 refine contract2_of Tryz.func67 rfl (fun E0 => ?_)
 refine awp.sound (g := .mk) (ow := []) (kp := (fun k => k==0||k==1||k==3||k==4||k==5||k==7||k==11||k==21||k==31||k==45||k==58||k==63||k==69||k==74||k==80)) ?_
 rw [Tryz.ntmps67]
 simp -dsimp
 refine ACall.of (next_c T hT 8 ⟨by omega, by omega⟩) [.x 0] 0 ?_
 have m1 := gNext_nonneg T 8
 have m2 := gNext_lt T (n := 8) (by omega)
 have kN : TapeOK (gNext T 8).2 := by simpa using hT
 unfold bendAt at hn
 unfold gBend
 generalize gNext T 8 = s at m1 m2 kN hn ⊢
 simp only at hn ⊢
 have hrb : (dd (rws b.rows)).length = b.rows.length := by simp
 by_cases c0 : s.1 = 0
 ·rw [if_pos c0]
  simp -dsimp [eq_true c0]
  refine ACall.of (pick_c s.2 kN [0, 1, 2, 99, 100] (by simp) (by simp)) [.x 0] 0 ?_
  generalize gPick s.2 [0, 1, 2, 99, 100] = p
  simp -dsimp [eq_true c0, ints]
  refine Fin.box (.o 4) rfl ?_
  simp -dsimp
  refine Fin.of ?_
  simp [tblT, rwsD_eq]
 by_cases c1 : s.1 = 1
 ·rw [if_neg c0, if_pos c1]
  simp -dsimp [eq_false c0, eq_true c1]
  refine ACall.of (wild_c s.2 kN) [.x 0] 0 ?_
  generalize gWild s.2 = p
  simp -dsimp [eq_false c0, eq_true c1]
  refine Fin.box (.o 4) rfl ?_
  simp -dsimp
  refine Fin.of ?_
  simp [tblT, rwsD_eq]
 by_cases c2 : s.1 = 2
 ·rw [if_neg c0, if_neg c1, if_pos c2]
  simp -dsimp [eq_false c0, eq_false c1, eq_true c2]
  refine ACall.of (pick_c s.2 kN [0, 8, 16, 24, 64] (by simp) (by simp)) [.x 0] 0 ?_
  generalize gPick s.2 [0, 8, 16, 24, 64] = p
  simp -dsimp [eq_false c0, eq_false c1, eq_true c2, ints]
  refine Fin.box (.o 4) rfl ?_
  simp -dsimp
  refine Fin.of ?_
  simp [tblT, rwsD_eq]
 by_cases c3 : s.1 = 3
 ·rw [if_neg c0, if_neg c1, if_neg c2, if_pos c3]
  simp -dsimp [eq_false c0, eq_false c1, eq_false c2, eq_true c3]
  refine ACall.of (pick_c s.2 kN [0, 1, 256, 257] (by simp) (by simp)) [.x 0] 0 ?_
  generalize gPick s.2 [0, 1, 256, 257] = p
  simp -dsimp [eq_false c0, eq_false c1, eq_false c2, eq_true c3, ints]
  and_intros
  all_goals try first | rfl | omega | exact ⟨by kernel_rfl⟩
  refine Fin.box (.o 4) rfl ?_
  simp -dsimp
  refine Fin.of ?_
  simp [tblT, rwsD_eq, rws_app, ints]
 rw [if_neg (by omega)] at hn
 rw [if_neg c0, if_neg c1, if_neg c2, if_neg c3]
 by_cases ce : b.rows = []
 ·rw [if_pos ce]
  have hl0 : ¬ 0 < b.rows.length := by simp [ce]
  simp -dsimp [eq_false c0, eq_false c1, eq_false c2, eq_false c3, hl0]
  refine Fin.box (.o 4) rfl ?_
  simp -dsimp
  refine Fin.of ?_
  simp [tblT, rwsD_eq]
 rw [if_neg ce] at hn ⊢
 have hl0 : 0 < b.rows.length := List.length_pos_iff.2 ce
 simp -dsimp [eq_false c0, eq_false c1, eq_false c2, eq_false c3, hl0]
 refine ACall.of (next_c s.2 kN b.rows.length ⟨by omega, by omega⟩) [.x 0] 0 ?_
 have k1 := gNext_nonneg s.2 b.rows.length
 have k2 := gNext_lt s.2 (n := b.rows.length) (by omega)
 have kK : TapeOK (gNext s.2 b.rows.length).2 := by simpa using kN
 generalize gNext s.2 b.rows.length = q at k1 k2 kK hn ⊢
 obtain ⟨k, hk⟩ : ∃ k : Nat, q.1 = k := ⟨q.1.toNat, by omega⟩
 have hkl : k < b.rows.length := by omega
 simp only [hk, Int.toNat_natCast] at hn ⊢
 have hg : b.rows[k]? = some b.rows[k] := List.getElem?_eq_getElem hkl
 have hgd : b.rows.getD k ⟨0, []⟩ = b.rows[k] := by rw [List.getD_eq_getElem?_getD, hg]; rfl
 simp only [rowW, hgd]
 generalize b.rows[k] = y at hg
 have hgr : (dd (rws b.rows))[k]? = some [TV.d (.int .i64 y.id), TV.d (ints y.nx)] := by simp [dd, rws, hg, Rw.cs]
 simp -dsimp [eq_false c0, eq_false c1, eq_false c2, eq_false c3, hl0, hrb]
 and_intros
 all_goals try first | rfl | omega | exact ⟨by kernel_rfl⟩
 refine ACall.of (next_c q.2 kK 4 ⟨by omega, by omega⟩) [.x 0] 0 ?_
 have n1 := gNext_nonneg q.2 4
 have n2 := gNext_lt q.2 (n := 4) (by omega)
 have kM : TapeOK (gNext q.2 4).2 := by simpa using kK
 generalize gNext q.2 4 = m at n1 n2 kM hn ⊢
 have hm : ¬ m.1 ≤ 1 := fun h => by rw [if_pos h] at hn; simp at hn
 have hset : ∀ l : List Int, (dd (rws b.rows)).set k [TV.d (.int .i64 y.id), TV.d (ints l)] = dd (rws (b.rows.set k ⟨y.id, l⟩)) := fun l => by
  simp [dd, rws, List.map_set, Rw.cs]
 have hm0 : ¬ m.1 = 0 := by omega
 have hm1 : ¬ m.1 = 1 := by omega
 have hgl : ((dd (rws b.rows)).getD k []) = [TV.d (.int .i64 y.id), TV.d (ints y.nx)] := by rw [List.getD_eq_getElem?_getD, hgr]; rfl
 rw [if_neg hm0, if_neg hm1]
 by_cases hm2 : m.1 = 2
 ·rw [if_pos hm2]
  have h0 := hset []
  simp only [ints, List.map_nil] at h0
  have hnl : toDss ((dd (rws b.rows)).set k [TV.d (.int .i64 y.id), TV.c (Value.slice none 0 0)]) = some (rws (b.rows.set k ⟨y.id, []⟩)) := by
   rw [toDss_set (toDss_dd _) (x := [.int .i64 y.id, .sl []]) rfl]
   simp [rws, List.map_set, Rw.cs, ints]
  simp -dsimp [eq_false hm0, eq_false hm1, eq_true hm2, hrb, hgr, hgl]
  and_intros
  all_goals try first | rfl | omega | exact ⟨by kernel_rfl⟩
  refine Fin.box (.o 4) rfl ?_
  simp -dsimp [hnl, hrb]
  refine Fin.of ?_
  simp [tblT, rwsD_eq, hk, hg]
 ·rw [if_neg hm2]
  have h0 := hset [(gPick m.2 [1, 2, 3, 9, b.r]).1]
  simp only [ints, List.map_nil, List.map_cons] at h0
  simp -dsimp [eq_false hm0, eq_false hm1, eq_false hm2, hrb, hgr, hgl]
  refine ACall.of (pick_c m.2 kM [1, 2, 3, 9, b.r] (by simp) (by simp)) [.x 0] 0 ?_
  generalize gPick m.2 [1, 2, 3, 9, b.r] = p at h0 ⊢
  simp -dsimp [eq_false hm0, eq_false hm1, eq_false hm2, hrb, hgr, hgl, ints, h0]
  and_intros
  all_goals try first | rfl | omega | exact ⟨by kernel_rfl⟩
  refine Fin.box (.o 4) rfl ?_
  simp -dsimp [hrb]
  refine Fin.of ?_
  simp [tblT, rwsD_eq, hk, hg]
end Go.Proofs

set_option linter.unusedSimpArgs false
set_option maxRecDepth 100000
set_option maxHeartbeats 2000000
namespace Go.Proofs
open Go Go.Tr
theorem mix_get {l : List Rw} {k : Nat} {y : Rw} {id m : Nat} (h : k < l.length) : ((mixR l k y id).set k [TV.d (.int .i64 y.id), TV.oref id m])[k]? = some [TV.d (.int .i64 y.id), TV.oref id m] := by
 rw [List.getElem?_set_self (by rw [mixR_len y id h]; exact h)]
theorem mix_set {l : List Rw} {k : Nat} {y : Rw} {id m : Nat} (h : k < l.length) (z : List Int) : ((mixR l k y id).set k [TV.d (.int .i64 y.id), TV.oref id m]).set k [TV.d (.int .i64 y.id), TV.d (ints z)] = dd (rws (l.set k ⟨y.id, z⟩)) := by
 have htk : (dd (rws (l.take k))).length = k := by simp; omega
 rw [List.set_set, mixR, List.set_append_right _ _ (by omega), htk, Nat.sub_self, List.set_cons_zero, List.set_eq_take_append_cons_drop, if_pos h]
 simp [rws, Rw.cs]
theorem bendI_c (T : Tp) (hT : TapeOK T) (b : Tb) (hb : b.rows.length ≤ 1000) (k : Nat) (hn : bendAt T b = some k) (y : Rw) (hy : b.rows[k]? = some y) (hyl : y.nx.length ≤ 1000) : Contract2 Tryz.prog 67 [.ptr (.x 0) 0, .agg [TV.d (D.int IntKind.i64 b.r), TV.d (D.int IntKind.i64 b.sd), TV.d (D.int IntKind.i64 b.len), .oref 900 b.rows.length]] [tapeI T] [(900, .row 116 2 (mixR b.rows k y 901) false), (901, .row 3 1 (dd (nrow .i64 y.nx)) false)] (tblT (gBend T b).1) [tapeI (gBend T b).2] [] := by
 refine contract2_of Tryz.func67 rfl (fun E0 => ?_)
 refine awp.sound (g := .mk) (ow := []) (kp := (fun k => k==0||k==1||k==3||k==4||k==5||k==7||k==11||k==21||k==31||k==45||k==58||k==63||k==69||k==74||k==80)) ?_
 rw [Tryz.ntmps67]
 simp -dsimp
 refine ACall.of (next_c T hT 8 ⟨by omega, by omega⟩) [.x 0] 0 ?_
 have m1 := gNext_nonneg T 8
 have m2 := gNext_lt T (n := 8) (by omega)
 have kN : TapeOK (gNext T 8).2 := by simpa using hT
 unfold bendAt at hn
 unfold gBend
 generalize gNext T 8 = s at m1 m2 kN hn ⊢
 simp only at hn ⊢
 have c3' : ¬ s.1 ≤ 3 := fun h => by rw [if_pos h] at hn; simp at hn
 have c0 : ¬ s.1 = 0 := by omega
 have c1 : ¬ s.1 = 1 := by omega
 have c2 : ¬ s.1 = 2 := by omega
 have c3 : ¬ s.1 = 3 := by omega
 have hkl : k < b.rows.length := (List.getElem?_eq_some_iff.1 hy).1
 have ce : ¬ b.rows = [] := fun h => by simp [h] at hkl
 rw [if_neg c3', if_neg ce] at hn
 rw [if_neg c0, if_neg c1, if_neg c2, if_neg c3, if_neg ce]
 have hl0 : 0 < b.rows.length := List.length_pos_iff.2 ce
 have hrb := mixR_len y 901 hkl
 simp -dsimp [eq_false c0, eq_false c1, eq_false c2, eq_false c3, hl0, hrb]
 refine ACall.of (next_c s.2 kN b.rows.length ⟨by omega, by omega⟩) [.x 0] 0 ?_
 have k1 := gNext_nonneg s.2 b.rows.length
 have k2 := gNext_lt s.2 (n := b.rows.length) (by omega)
 have kK : TapeOK (gNext s.2 b.rows.length).2 := by simpa using kN
 generalize gNext s.2 b.rows.length = q at k1 k2 kK hn ⊢
 have n1 := gNext_nonneg q.2 4
 have n2 := gNext_lt q.2 (n := 4) (by omega)
 have kM : TapeOK (gNext q.2 4).2 := by simpa using kK
 have hq : q.1.toNat = k ∧ (gNext q.2 4).1 ≤ 1 := by
  split at hn
  ·rename_i h; simp only [Option.some.injEq] at hn; exact ⟨hn, h⟩
  ·simp at hn
 have hk : q.1 = k := by omega
 have hgd : b.rows.getD k ⟨0, []⟩ = y := by rw [List.getD_eq_getElem?_getD, hy]; rfl
 simp only [rowW, hq.1, hgd]
 rw [hk]
 have htk : (dd (rws (b.rows.take k))).length = k := by simp; omega
 have hgr : (mixR b.rows k y 901)[k]? = some [TV.d (.int .i64 y.id), TV.oref 901 y.nx.length] := by
  rw [mixR, List.getElem?_append_right (by omega), htk]; simp
 have hgl : ((mixR b.rows k y 901).getD k []) = [TV.d (.int .i64 y.id), TV.oref 901 y.nx.length] := by rw [List.getD_eq_getElem?_getD, hgr]; rfl
 simp -dsimp [eq_false c0, eq_false c1, eq_false c2, eq_false c3, hl0, hrb]
 and_intros
 all_goals try first | rfl | omega | exact ⟨by kernel_rfl⟩
 refine ACall.of (next_c q.2 kK 4 ⟨by omega, by omega⟩) [.x 0] 0 ?_
 generalize gNext q.2 4 = m at n1 n2 kM hq ⊢
 by_cases hm0 : m.1 = 0
 ·rw [if_pos hm0]
  simp -dsimp [eq_true hm0, hrb, hgr, hgl]
  and_intros
  all_goals try first | rfl | omega | exact ⟨by kernel_rfl⟩
  refine ACall.of (pick_c m.2 kM [0, 1, 6, 99, 100] (by simp) (by simp)) [.x 0] 0 ?_
  generalize gPick m.2 [0, 1, 6, 99, 100] = p
  simp -dsimp [eq_true hm0, hrb, hgr, hgl, ints]
  and_intros
  all_goals try first | rfl | omega | exact ⟨by kernel_rfl⟩
  have hmg := mix_get (y := y) (id := 901) (m := y.nx.length + 1) hkl
  have hms := mix_set (y := y) (id := 901) (m := y.nx.length + 1) hkl (y.nx ++ [p.1])
  generalize (mixR b.rows k y 901).set k [TV.d (.int .i64 y.id), TV.oref 901 (y.nx.length + 1)] = EE at hmg hms ⊢
  refine Fin.seeRow 900 k 1 901 (e0 := 116) (k0 := 2) (es0 := EE) (sh0 := false) (n := y.nx.length + 1) (e := 3) (k := 1) (es := dd (nrow .i64 y.nx) ++ [[TV.d (D.int IntKind.i64 p.1)]]) (sh := false) (xs := nrow .i64 (y.nx ++ [p.1])) (by simp) (by omega) hmg (by simp) (by simp [nrow]) (by simp [nrow]) (by simp [nrow, toDss, toDs]) ?_
  simp only [ints, nrow] at hms
  simp [nrow] at hms ⊢
  simp only [hms]
  refine Fin.box (.o 4) rfl ?_
  simp -dsimp
  refine Fin.of ?_
  simp [tblT, rwsD_eq, hy]
 ·have hm1 : m.1 = 1 := by omega
  rw [if_neg hm0, if_pos hm1]
  simp -dsimp [eq_false hm0, eq_true hm1, hrb, hgr, hgl]
  and_intros
  all_goals try first | rfl | omega | exact ⟨by kernel_rfl⟩
  have hmg := mix_get (y := y) (id := 901) (m := y.nx.length + 1) hkl
  have hms := mix_set (y := y) (id := 901) (m := y.nx.length + 1) hkl (y.nx ++ [b.r])
  generalize (mixR b.rows k y 901).set k [TV.d (.int .i64 y.id), TV.oref 901 (y.nx.length + 1)] = EE at hmg hms ⊢
  refine Fin.seeRow 900 k 1 901 (e0 := 116) (k0 := 2) (es0 := EE) (sh0 := false) (n := y.nx.length + 1) (e := 3) (k := 1) (es := dd (nrow .i64 y.nx) ++ [[TV.d (D.int IntKind.i64 b.r)]]) (sh := false) (xs := nrow .i64 (y.nx ++ [b.r])) (by simp) (by omega) hmg (by simp) (by simp [nrow]) (by simp [nrow]) (by simp [nrow, toDss, toDs]) ?_
  simp only [ints, nrow] at hms
  simp [nrow] at hms ⊢
  simp only [hms]
  refine Fin.box (.o 4) rfl ?_
  simp -dsimp
  refine Fin.of ?_
  simp [tblT, rwsD_eq, hy]
end Go.Proofs

set_option linter.unusedSimpArgs false
set_option maxRecDepth 100000
set_option maxHeartbeats 2000000
namespace Go.Proofs
open Go Go.Tr
noncomputable def gTab (T : Tp) (n : Int) : Tb × Tp :=
 let g := gMix T 6
 let p := gPlan g.2 g.1.rs 0
 let l := (all11 g.1 p.1).1
 if l.length = 0 then (⟨1, 0, 8, []⟩, p.2)
 else
  let i := gNext p.2 l.length
  let o := gOne i.2 n
  if o.1 = true then gBend o.2 (l.getD i.1.toNat ⟨1, 0, 8, []⟩) else (l.getD i.1.toNat ⟨1, 0, 8, []⟩, o.2)
@[simp] theorem passI2_tape (ν : List Pl) (rs : List (Nat × Nat)) (T : Tp) : passI2 ν rs (tapeI T) = some (tapeI T) := by simp [tapeI, ints, passI2_box]
@[simp] theorem backs_mix (ν : List Pl) (c : Nat) (l : List Rw) (k : Nat) (y : Rw) (id : Nat) : (mixR l k y id).map (TV.backs ν c) = mixR l k y (c + id) := by simp [mixR]
theorem passEs_mix (ν : List Pl) (rs : List (Nat × Nat)) (l : List Rw) (k : Nat) (y : Rw) (id j : Nat) (h : rsOf rs id = some j) : passEs ν rs (mixR l k y id) = some (mixR l k y j) := by simp [mixR, h]
theorem bendAt_lt {T : Tp} {b : Tb} {k : Nat} (h : bendAt T b = some k) : k < b.rows.length := by
 unfold bendAt at h
 simp only at h
 split at h
 ·simp at h
 ·split at h
  ·simp at h
  ·rename_i ce
   split at h
   ·simp only [Option.some.injEq] at h
    have hl := List.length_pos_iff.2 ce
    have k1 := gNext_nonneg (gNext T 8).2 b.rows.length
    have k2 := gNext_lt (gNext T 8).2 (n := b.rows.length) (by omega)
    omega
   ·simp at h
theorem table_c (T : Tp) (hT : TapeOK T) (n : Int) (hn : 1 ≤ n ∧ n ≤ 1000) : Contract Tryz.prog 28 [.ptr (.x 0) 0, .d (.int .i64 n)] [tapeI T] (tblT (gTab T n).1) [tapeI (gTab T n).2] [] := by
 have hn0 : 0 < n := by omega
 refine contract_of Tryz.func28 rfl (fun E0 => ?_)
 refine awp.sound (g := .mk) (ow := [1000067]) (kp := (fun k => k==0||k==1||k==4||k==5||k==6||k==7||k==9||k==23||k==39)) ?_
 rw [Tryz.ntmps28]
 simp -dsimp
 refine ACall.of (mixed_c T hT 6 (by omega)) [.x 0] 0 ?_
 have kG : TapeOK (gMix T 6).2 := by simpa using hT
 have hsm := gMix_small T (most := 6) (by omega)
 have e0 : gTab T n = gTab T n := rfl
 conv at e0 => rhs; unfold gTab
 simp only at e0
 generalize hG : gMix T 6 = G at kG hsm e0 ⊢
 simp -dsimp [topT]
 refine ACall.of (plan_c G.2 kG G.1.rs G.1.ls (by omega) 0 (by omega)) [.x 0] 0 ?_
 obtain ⟨kP, lP⟩ := gPlan_zero G.2 G.1.rs
 have kG : TapeOK (gPlan G.2 G.1.rs 0).2 := kP.symm ▸ kG
 clear kP
 generalize hP : gPlan G.2 G.1.rs 0 = p at kG lP e0 ⊢
 simp -dsimp [topT, planT]
 refine ACall.of (all11_c G.1 ⟨by omega, by omega⟩ p.1 (by omega)) [] 0 ?_
 have hlen := all11_len G.1 p.1
 have hok := all11_ok G.1 p.1
 generalize (all11 G.1 p.1).1 = l at hlen hok e0 ⊢
 generalize (all11 G.1 p.1).2 = er
 simp -dsimp [topT, planT, allT_eq]
 by_cases hl : l = []
 ·simp -dsimp [eq_true hl]
  refine Fin.box (.o 4) rfl ?_
  simp -dsimp
  refine Fin.of ?_
  rw [if_pos (by simp [hl])] at e0
  simp [e0, tblT, rwsD]
 have hlz : 0 < l.length := List.length_pos_iff.2 hl
 rw [if_neg (by omega)] at e0
 simp -dsimp [eq_false hl]
 refine ACall.of (next_c p.2 kG l.length ⟨by omega, by omega⟩) [.x 0] 0 ?_
 have m1 := gNext_nonneg p.2 l.length
 have m2 := gNext_lt p.2 (n := l.length) (by omega)
 have kN : TapeOK (gNext p.2 l.length).2 := by simpa using kG
 generalize gNext p.2 l.length = q at m1 m2 kN e0 ⊢
 obtain ⟨i, hi⟩ : ∃ i : Nat, q.1 = i := ⟨q.1.toNat, by omega⟩
 have hil : i < l.length := by omega
 have hx : l[i]? = some l[i] := List.getElem?_eq_getElem hil
 have hxo := hok l[i] (List.getElem_mem hil)
 have hxs := chk_sm hxo
 obtain ⟨_, hx1, hx2, _⟩ := chk_parts hxo
 rw [hi, Int.toNat_natCast, List.getD_eq_getElem?_getD, hx] at e0
 simp only [Option.getD_some] at e0
 generalize l[i] = b at hx hxo hxs hx1 hx2 e0
 have hx' := tbs_get hx
 rw [hi]
 have kO : TapeOK (gOne q.2 n).2 := by simpa using kN
 have hone := one_c q.2 kN n ⟨by omega, by omega⟩ ⟨by omega, by omega⟩
 generalize gOne q.2 n = o at kO hone e0
 have key : o.1 = true → (bendAt o.2 b = none ∨ ∃ k y, bendAt o.2 b = some k ∧ b.rows[k]? = some y) := fun _ => by
  cases h : bendAt o.2 b with
  | none => exact .inl rfl
  | some k => exact .inr ⟨k, _, rfl, List.getElem?_eq_getElem (bendAt_lt h)⟩
 rcases (Bool.eq_false_or_eq_true o.1).symm with ho | ho
 ·rw [if_neg (by simp [ho])] at e0
  simp -dsimp [eq_false hl, hx']
  and_intros
  all_goals try first | rfl | omega | exact ⟨by kernel_rfl⟩
  refine ACall.of (copied_c b hxs.rows hxs.nx) [] 2000 ?_
  simp -dsimp [eq_false hl, hx', tblT, rwsD_eq, hn0]
  refine ACall.of hone [.x 0] 0 ?_
  simp -dsimp [ho]
  refine Fin.box (.o 4) rfl ?_
  simp -dsimp
  refine Fin.of ?_
  simp [e0, tblT, rwsD_eq]
 rw [if_pos ho] at e0
 rcases key ho with hb | ⟨k, y, hb, hy⟩
 ·simp -dsimp [eq_false hl, hx']
  and_intros
  all_goals try first | rfl | omega | exact ⟨by kernel_rfl⟩
  refine ACall.of (copied_c b hxs.rows hxs.nx) [] 2000 ?_
  simp -dsimp [eq_false hl, hx', tblT, rwsD_eq, hn0]
  refine ACall.of hone [.x 0] 0 ?_
  simp -dsimp [ho]
  refine ACall.of2 (bendP_c o.2 kO b (by omega) hb) [.x 0] [(900, 2003)] 0 ?_
  rw [← e0]
  generalize gTab T n = X
  simp -dsimp [tblT, rwsD_eq]
  refine Fin.box (.o 4) rfl ?_
  simp -dsimp
  refine Fin.of ?_
  simp
 ·simp -dsimp [eq_false hl, hx']
  and_intros
  all_goals try first | rfl | omega | exact ⟨by kernel_rfl⟩
  refine ACall.of (copiedI_c b hxs.rows hxs.nx k y hy) [] 2000 ?_
  simp -dsimp [eq_false hl, hx', tblT, rwsD_eq, hn0]
  refine ACall.of hone [.x 0] 0 ?_
  simp -dsimp [ho]
  refine ACall.of2 (bendI_c o.2 kO b (by omega) k hb y hy (by have := hx2 y (List.mem_of_getElem? hy); omega)) [.x 0] [(900, 2003), (901, 3001)] 0 ?_
  rw [← e0]
  generalize gTab T n = X
  have hpm := passEs_mix [.x 0] [(900, 2003), (901, 3001)] b.rows k y 3001 901 rfl
  simp -dsimp [hpm, tblT, rwsD_eq]
  refine Fin.box (.o 4) rfl ?_
  simp -dsimp
  refine Fin.of ?_
  simp
theorem rowW_sm {b : Tb} {k : Nat} {f : List Int → List Int} (h1 : b.rows.length ≤ 256) (h2 : ∀ x ∈ b.rows, x.nx.length ≤ 24) (hf : ∀ l : List Int, (f l).length ≤ l.length + 1) : (rowW b k f).rows.length ≤ 256 ∧ ∀ x ∈ (rowW b k f).rows, x.nx.length ≤ 25 := by
 refine ⟨by simpa [rowW] using h1, fun x hx => ?_⟩
 simp only [rowW] at hx
 rcases List.mem_or_eq_of_mem_set hx with hx | rfl
 ·have := h2 x hx; omega
 ·have h3 := hf (b.rows.getD k ⟨0, []⟩).nx
  have : (b.rows.getD k ⟨0, []⟩).nx.length ≤ 24 := by
   rw [List.getD_eq_getElem?_getD]
   cases hg : b.rows[k]? with
   | none => simp
   | some y => exact h2 y (List.mem_of_getElem? hg)
  simp only
  omega
theorem gBend_sm (T : Tp) {b : Tb} (h1 : b.rows.length ≤ 256) (h2 : ∀ x ∈ b.rows, x.nx.length ≤ 24) : (gBend T b).1.rows.length ≤ 257 ∧ ∀ x ∈ (gBend T b).1.rows, x.nx.length ≤ 25 := by
 have h0 : b.rows.length ≤ 257 ∧ ∀ x ∈ b.rows, x.nx.length ≤ 25 := ⟨by omega, fun x hx => by have := h2 x hx; omega⟩
 have hw : ∀ (k : Nat) (f : List Int → List Int), (∀ l : List Int, (f l).length ≤ l.length + 1) → (rowW b k f).rows.length ≤ 257 ∧ ∀ x ∈ (rowW b k f).rows, x.nx.length ≤ 25 := fun k f hf => ⟨by have := (rowW_sm (k := k) h1 h2 hf).1; omega, (rowW_sm h1 h2 hf).2⟩
 unfold gBend
 simp only
 split
 ·exact h0
 split
 ·exact h0
 split
 ·exact h0
 split
 ·refine ⟨by simp; omega, fun x hx => ?_⟩
  rcases List.mem_append.1 hx with hx | hx
  ·exact h0.2 x hx
  ·simp at hx; subst hx; simp
 split
 ·exact h0
 split
 ·exact hw _ _ fun l => by simp
 split
 ·exact hw _ _ fun l => by simp
 split
 ·exact hw _ _ fun l => by simp
 ·exact hw _ _ fun l => by simp
theorem gTab_sm (T : Tp) (n : Int) : (gTab T n).1.Sm := by
 have key : ∀ b : Tb, chk b = 0 → b.Sm ∧ ∀ T', (gBend T' b).1.Sm := fun b hb => by
  obtain ⟨_, h1, h2, _⟩ := chk_parts hb
  refine ⟨chk_sm hb, fun T' => ?_⟩
  obtain ⟨g1, g2⟩ := gBend_sm T' h1 h2
  exact ⟨by omega, fun x hx => by have := g2 x hx; omega⟩
 unfold gTab
 simp only
 split
 ·exact (key _ dflt_ok).1
 ·rename_i h
  generalize hP : gPlan (gMix T 6).2 (gMix T 6).1.rs 0 = p at h ⊢
  have m1 := gNext_nonneg p.2 (all11 (gMix T 6).1 p.1).1.length
  have m2 := gNext_lt p.2 (n := (all11 (gMix T 6).1 p.1).1.length) (by omega)
  have hk : chk ((all11 (gMix T 6).1 p.1).1.getD (gNext p.2 (all11 (gMix T 6).1 p.1).1.length).1.toNat ⟨1, 0, 8, []⟩) = 0 := by
   rw [List.getD_eq_getElem?_getD, List.getElem?_eq_getElem (by omega)]
   exact all11_ok _ _ _ (List.getElem_mem _)
  obtain ⟨g1, g2⟩ := key _ hk
  split
  ·exact g2 _
  ·exact g1
theorem gBend_tape (T : Tp) (b : Tb) : TapeOK (gBend T b).2 = TapeOK T := by
 unfold gBend
 simp only
 split
 ·simp
 split
 ·simp [gWild]
 split
 ·simp
 split
 ·simp
 split
 ·simp
 split
 ·simp
 split
 ·simp
 split <;> simp
theorem gTab_tape (T : Tp) (n : Int) : TapeOK (gTab T n).2 = TapeOK T := by
 unfold gTab
 simp only
 split
 ·exact (gPlan_zero _ _).1.trans (by simp)
 ·split
  ·rw [gBend_tape]
   simp only [gOne_ok, gNext_ok]
   exact (gPlan_zero _ _).1.trans (by simp)
  ·simp only [gOne_ok, gNext_ok]
   exact (gPlan_zero _ _).1.trans (by simp)
end Go.Proofs

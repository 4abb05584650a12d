/-
  What functions of the program compute, stated as contracts over plain data; the conditions of each stand in its own statement.
-/
import Derived.Test.YtffjbciladpdlaaGreatZN28
import Derived.Test.YtffjbciladpdlaaGreatZN21
set_option linter.unusedSimpArgs false
set_option linter.unusedVariables false
set_option maxRecDepth 100000
set_option maxHeartbeats 16000000
namespace Go.Proofs
open Go Go.Tr
theorem kzip_im : ∀ l : IM, kzip (l.map fun x => [x.1]) (l.map fun x => D.int .i64 x.2) = im l
 | [] => rfl
 | x :: l => by
   have ih := kzip_im l
   unfold kzip im at ih
   simp only [kzip, im, List.map_cons, List.zip_cons_cons, ih]
def nxF (costs : IM) (all : Int) (ls : IM) : List Int := (ls.filter fun s => match gI costs s.1 with
  | some c => decide (s.2 + c = all)
  | none => false).map (·.1)
theorem nxF_snoc (costs : IM) (all : Int) (ls : IM) (s : Int × Int) : nxF costs all (ls ++ [s]) = nxF costs all ls ++ (match gI costs s.1 with | some c => if s.2 + c = all then [s.1] else [] | none => []) := by
 unfold nxF
 rw [List.filter_append, List.map_append]
 congr 1
 cases h : gI costs s.1 with
 | none => simp [List.filter, h]
 | some c => by_cases e : s.2 + c = all <;> simp [List.filter, h, e]
theorem nxF_le (costs : IM) (all : Int) (ls : IM) : (nxF costs all ls).length ≤ ls.length := by
 unfold nxF
 rw [List.length_map]
 exact List.length_filter_le _ _
theorem dm_bd {g : Topo} (hg : g.Ok) {to x c : Int} (h : gI (DM g to) x = some c) : hasR g.rs x = true ∧ 0 ≤ c ∧ c < far := by
 by_cases hto : hasR g.rs to = true
 ·obtain ⟨h1, h2, rfl⟩ := (dm_mem hto).1 (gI_mem h)
  exact ⟨h1, (dst_bd hg to x).1, h2⟩
 ·unfold DM at h
  rw [if_neg hto] at h
  simp [gI] at h
theorem nextS_c (g : Topo) (hg : g.Ok) (to x : Int) : Contract Tryz.prog 67 [grT g, .d (imD (DM g to)), .d (.int .i64 x)] [] (.d (ints (nxG (DM g to) (ouL g.ls x) x))) [] [] := by
 have hbd := fun x c => dm_bd (g := g) hg (to := to) (x := x) (c := c)
 generalize DM g to = L at hbd ⊢
 have hget : ∀ k, kget (kzip (L.map fun x => [x.1]) (L.map fun x => D.int .i64 x.2)) [k] = (gI L k).map fun v => TV.d (.int .i64 v) := fun k => by rw [kzip_im]; exact kget_im L k
 have hkl : klen 1 (kzip (L.map fun x => [x.1]) (L.map fun x => D.int .i64 x.2)) := by rw [kzip_im]; exact klen_im L
 have hgetO : ∀ x, kget (kzip (g.rs.map fun r => [r.id]) (g.rs.map fun r => D.sl (stR (ouL g.ls r.id)))) [x] = if hasR g.rs x then some (.d (.sl (stR (ouL g.ls x)))) else none := fun x => kget_rs (fun x => .sl (stR (ouL g.ls x))) x g.rs
 have hklO : klen 1 (kzip (g.rs.map fun r => [r.id]) (g.rs.map fun r => D.sl (stR (ouL g.ls r.id)))) := klen_rs (fun x => .sl (stR (ouL g.ls x))) g.rs
 cases hc : gI L x with
 | none =>
   refine contract_of Tryz.func67 rfl (fun E0 => ?_)
   refine awp.sound (g := .mk) (ow := []) (kp := (fun k => k==0||k==1||k==2||k==3||k==6||k==7||k==8||k==9||k==11||k==12||k==13||k==21||k==25||k==26||k==27||k==28||k==46)) ?_
   rw [Tryz.ntmps67]
   simp -dsimp [grT, imD, hget, hkl, hc]
   and_intros
   all_goals try first | omega | exact ⟨by kernel_rfl⟩ | rfl
   refine Fin.view 6 ?_
   simp -dsimp
   refine Fin.of ?_
   simp [nxG, hc, ints]
 | some all =>
   obtain ⟨hx, b1, b2⟩ := hbd x all hc
   have hle := ouL_le x g.ls
   have hls := hg.nl
   obtain ⟨O, hO⟩ : ∃ O, O = ouL g.ls x := ⟨_, rfl⟩
   have hpr : ∀ s ∈ O, 1 ≤ s.2 ∧ s.2 ≤ 1000 := fun s hs => price_le hg ((ouL_price hg (y := s.1) (q := s.2)).1 (by rw [← hO]; exact hs))
   have hnx : nxG L O x = nxF L all O := by unfold nxG nxF; rw [hc]; try rfl
   rw [← hO] at hle ⊢
   rw [hnx]
   refine contract_of Tryz.func67 rfl (fun E0 => ?_)
   refine awp.sound (g := .mk) (ow := []) (kp := (fun k => k==0||k==1||k==2||k==3||k==6||k==7||k==8||k==9||k==11||k==12||k==13||k==21||k==25||k==26||k==27||k==28||k==46)) ?_
   rw [Tryz.ntmps67]
   simp -dsimp [grT, imD, ouM, hget, hkl, hc, hgetO, hklO, hx, ← hO]
   and_intros
   all_goals try first | omega | exact ⟨by kernel_rfl⟩ | rfl
   refine ALoop.of [] (fun k => k==0||k==1||k==2||k==3||k==6||k==7||k==8||k==9||k==11||k==12||k==13||k==21||k==25||k==26||k==27||k==28||k==46) (ι := { i : Nat // i ≤ O.length })
    (fun z => [(Pl.s 1, It.v (.d (imD L))), (Pl.o 3, It.box [.d (ouM g), .d (inM g)]), (Pl.s 3, It.v (.ptr (Pl.o 3) 0)), (Pl.s 6, It.v (.c (Value.slice none 0 0))), (Pl.s 7, It.v (.oref 7 (nxF L all (O.take z.1)).length)), (Pl.o 7, It.row 3 1 (dd ((nxF L all (O.take z.1)).map fun x => [D.int .i64 x])) false), (Pl.s 8, It.v (.d (.int .i64 all))),
     (Pl.s 25, It.v (.d (.sl (stR O)))), (Pl.s 26, It.v (.d (.int .i64 O.length))), (Pl.s 27, It.v (.d (.int .i64 z.1)))])
    (fun z => O.length - z.1) ⟨0, by omega⟩ ?_ ?_
   ·exact GS.own' (k := 7) 3 1 (by simp) (by simp) (by simp [nxF, imD, ouM, inM])
   ·rintro ⟨i, i1⟩
    by_cases hi : i < O.length
    ·have hiz : (i : Int) < O.length := by omega
     have hs : O[i]? = some O[i] := List.getElem?_eq_getElem hi
     have hm := hpr O[i] (List.getElem_mem hi)
     have ht : O.take (i + 1) = O.take i ++ [O[i]] := by rw [List.take_add_one, List.getElem?_eq_getElem hi]; rfl
     generalize O[i] = s at hs hm ht
     have hs' : (stR O)[i]? = some [.int .i64 s.1, .int .i64 s.2] := by simp [stR, hs]
     have hn := nxF_snoc L all (O.take i) s
     rw [← ht] at hn
     have hnl := nxF_le L all (O.take i)
     rw [List.length_take] at hnl
     have w1 : IntKind.i64.wrap ((i : Int) + 1) = (i : Int) + 1 := wrap_i64 (by omega) (by omega)
     cases hcs : gI L s.1 with
     | none =>
       rw [hcs] at hn
       simp -dsimp [hiz, hs', imD, hget, hkl, hcs, w1]
       and_intros
       all_goals try first | omega | exact ⟨by kernel_rfl⟩ | rfl
       exact ⟨⟨i + 1, by omega⟩, GS.to (by simp [hn, imD]), by simp; omega⟩
     | some c =>
       obtain ⟨_, c1, c2⟩ := hbd s.1 c hcs
       unfold far at c2
       rw [hcs] at hn
       simp only at hn
       have w2 : IntKind.i64.wrap (s.2 + c) = s.2 + c := wrap_i64 (by omega) (by omega)
       by_cases he : s.2 + c = all
       ·rw [if_pos he] at hn
        have w3 : IntKind.i64.wrap all = all := by rw [he] at w2; exact w2
        simp -dsimp [hiz, hs', imD, hget, hkl, hcs, w1, w2, he, w3]
        and_intros
        all_goals try first | omega | exact ⟨by kernel_rfl⟩ | rfl
        exact ⟨⟨i + 1, by omega⟩, GS.to (by simp [hn, imD]), by simp; omega⟩
       ·rw [if_neg he] at hn
        simp -dsimp [hiz, hs', imD, hget, hkl, hcs, w1, w2, he]
        and_intros
        all_goals try first | omega | exact ⟨by kernel_rfl⟩ | rfl
        exact ⟨⟨i + 1, by omega⟩, GS.to (by simp [hn, imD]), by simp; omega⟩
    ·have hiz : ¬ (i : Int) < O.length := by omega
     simp -dsimp [hiz]
     refine Fin.view 6 ?_
     simp -dsimp
     refine Fin.of ?_
     simp [List.take_of_length_le (show O.length ≤ i by omega), ints, nrow]
def rtT (x : Rt) : TV := .agg (x.cs.map .d)
def lkT (x : Lk) : TV := .agg (x.cs.map .d)
theorem indexQ0_cL (l : List Rt) (hl : l.length ≤ 9223372036854775807) (f : FuncId) (q : Rt → Bool) (hf : ∀ x, x ∈ l → Contract Tryz.prog f [rtT x] [] (.d (.bool (q x))) [] []) (hok : fnOK Tryz.prog f = true) :
  Contract Tryz.prog 125 [.d (.sl (l.map Rt.cs)), .clo f []] [] (.d (.int .i64 (idxR q l))) [] [] := by
 refine contract_of Tryz.func125 rfl (fun E0 => ?_)
 refine awp.sound (g := .mk) (ow := []) (kp := (fun k => k==0||k==1||k==4||k==5||k==7||k==8||k==9||k==16)) ?_
 rw [Tryz.ntmps125]
 simp -dsimp
 refine ALoop.of [] (fun k => k==0||k==1||k==4||k==5||k==7||k==8||k==9||k==16) (ι := { i : Nat // i ≤ l.length ∧ ∀ a, a < i → ∀ x, l[a]? = some x → q x = false })
  (fun z => [(Pl.s 0, It.v (.d (.sl (l.map Rt.cs)))), (Pl.s 1, It.v (.clo f [])), (Pl.s 4, It.v (.d (.int .i64 0))), (Pl.s 7, It.v (.d (.int .i64 l.length))), (Pl.s 8, It.v (.d (.int .i64 z.1)))]) (fun z => l.length - z.1) ⟨0, by omega, fun a h => by omega⟩ ?_ ?_
 ·exact GS.to (by simp)
 ·rintro ⟨i, i1, i2⟩
  by_cases hi : i < l.length
  ·have hiz : (i : Int) < l.length := by omega
   have hx : l[i]? = some l[i] := List.getElem?_eq_getElem hi
   have hm : l[i] ∈ l := List.getElem_mem hi
   generalize l[i] = x at hx hm
   simp -dsimp [hiz, hx, Rt.cs, wrap_i64 (n := (i : Int) + 1) (by omega) (by omega)]
   and_intros
   all_goals try first | rfl | omega | exact ⟨by kernel_rfl⟩
   refine ACall.of (hf x hm) [] 0 ?_
   rcases (Bool.eq_false_or_eq_true (q x)).symm with h | h
   ·simp -dsimp [h, hok, rtT, wrap_i64 (n := (i : Int) + 1) (by omega) (by omega)]
    and_intros
    all_goals try first | rfl | omega | exact ⟨by kernel_rfl⟩
    exact ⟨⟨i + 1, by omega, fun a ha y hy => by
     by_cases e : a = i
     ·subst e; rw [hx] at hy; simp only [Option.some.injEq] at hy; subst hy; exact h
     ·exact i2 a (by omega) y hy⟩, GS.to (by simp), by simp; omega⟩
   ·simp -dsimp [h, hok, rtT]
    and_intros
    all_goals try first | rfl | omega | exact ⟨by kernel_rfl⟩
    refine Fin.of ?_
    simp [idx_at hx h i2]
  ·simp -dsimp [hi]
   refine Fin.of ?_
   simp
   exact (idx_no fun a ha => i2 a (by omega)).symm
theorem containsFQ0_cL (l : List Rt) (hl : l.length ≤ 9223372036854775807) (f : FuncId) (q : Rt → Bool) (hf : ∀ x, x ∈ l → Contract Tryz.prog f [rtT x] [] (.d (.bool (q x))) [] []) (hok : fnOK Tryz.prog f = true) :
  Contract Tryz.prog 92 [.d (.sl (l.map Rt.cs)), .clo f []] [] (.d (.bool (l.any q))) [] [] := by
 refine contract_of Tryz.func92 rfl (fun E0 => ?_)
 refine awp.sound (g := .mk) (ow := []) (kp := (fun k => k==0||k==1||k==4)) ?_
 rw [Tryz.ntmps92]
 simp -dsimp
 refine ACall.of (indexQ0_cL l hl f q hf hok) [] 0 ?_
 simp -dsimp
 refine Fin.of ?_
 simp [idx_any]
theorem indexK0_cL (l : List Lk) (hl : l.length ≤ 9223372036854775807) (f : FuncId) (q : Lk → Bool) (hf : ∀ x, x ∈ l → Contract Tryz.prog f [lkT x] [] (.d (.bool (q x))) [] []) (hok : fnOK Tryz.prog f = true) :
  Contract Tryz.prog 126 [.d (.sl (l.map Lk.cs)), .clo f []] [] (.d (.int .i64 (idxR q l))) [] [] := by
 refine contract_of Tryz.func126 rfl (fun E0 => ?_)
 refine awp.sound (g := .mk) (ow := []) (kp := (fun k => k==0||k==1||k==4||k==5||k==7||k==8||k==9||k==16)) ?_
 rw [Tryz.ntmps126]
 simp -dsimp
 refine ALoop.of [] (fun k => k==0||k==1||k==4||k==5||k==7||k==8||k==9||k==16) (ι := { i : Nat // i ≤ l.length ∧ ∀ a, a < i → ∀ x, l[a]? = some x → q x = false })
  (fun z => [(Pl.s 0, It.v (.d (.sl (l.map Lk.cs)))), (Pl.s 1, It.v (.clo f [])), (Pl.s 4, It.v (.d (.int .i64 0))), (Pl.s 7, It.v (.d (.int .i64 l.length))), (Pl.s 8, It.v (.d (.int .i64 z.1)))]) (fun z => l.length - z.1) ⟨0, by omega, fun a h => by omega⟩ ?_ ?_
 ·exact GS.to (by simp)
 ·rintro ⟨i, i1, i2⟩
  by_cases hi : i < l.length
  ·have hiz : (i : Int) < l.length := by omega
   have hx : l[i]? = some l[i] := List.getElem?_eq_getElem hi
   have hm : l[i] ∈ l := List.getElem_mem hi
   generalize l[i] = x at hx hm
   simp -dsimp [hiz, hx, Lk.cs, wrap_i64 (n := (i : Int) + 1) (by omega) (by omega)]
   and_intros
   all_goals try first | rfl | omega | exact ⟨by kernel_rfl⟩
   refine ACall.of (hf x hm) [] 0 ?_
   rcases (Bool.eq_false_or_eq_true (q x)).symm with h | h
   ·simp -dsimp [h, hok, lkT, wrap_i64 (n := (i : Int) + 1) (by omega) (by omega)]
    and_intros
    all_goals try first | rfl | omega | exact ⟨by kernel_rfl⟩
    exact ⟨⟨i + 1, by omega, fun a ha y hy => by
     by_cases e : a = i
     ·subst e; rw [hx] at hy; simp only [Option.some.injEq] at hy; subst hy; exact h
     ·exact i2 a (by omega) y hy⟩, GS.to (by simp), by simp; omega⟩
   ·simp -dsimp [h, hok, lkT]
    and_intros
    all_goals try first | rfl | omega | exact ⟨by kernel_rfl⟩
    refine Fin.of ?_
    simp [idx_at hx h i2]
  ·simp -dsimp [hi]
   refine Fin.of ?_
   simp
   exact (idx_no fun a ha => i2 a (by omega)).symm
theorem containsFK0_cL (l : List Lk) (hl : l.length ≤ 9223372036854775807) (f : FuncId) (q : Lk → Bool) (hf : ∀ x, x ∈ l → Contract Tryz.prog f [lkT x] [] (.d (.bool (q x))) [] []) (hok : fnOK Tryz.prog f = true) :
  Contract Tryz.prog 98 [.d (.sl (l.map Lk.cs)), .clo f []] [] (.d (.bool (l.any q))) [] [] := by
 refine contract_of Tryz.func98 rfl (fun E0 => ?_)
 refine awp.sound (g := .mk) (ow := []) (kp := (fun k => k==0||k==1||k==4)) ?_
 rw [Tryz.ntmps98]
 simp -dsimp
 refine ACall.of (indexK0_cL l hl f q hf hok) [] 0 ?_
 simp -dsimp
 refine Fin.of ?_
 simp [idx_any]
theorem indexK2_cL (l : List Lk) (hl : l.length ≤ 9223372036854775807) (f : FuncId) (u : FuncId) (ds : List D) (q : Lk → Bool) (hf : ∀ x, x ∈ l → Contract Tryz.prog f [lkT x, .ptr (.x 0) 0] [.box [.clo u [.ptr (.x 1) 0]], .box (ds.map .d)] (.d (.bool (q x))) [.box [.clo u [.ptr (.x 1) 0]], .box (ds.map .d)] []) (hok : fnOK Tryz.prog f = true) :
  Contract Tryz.prog 126 [.d (.sl (l.map Lk.cs)), .clo f [.ptr (.x 0) 0]] [.box [.clo u [.ptr (.x 1) 0]], .box (ds.map .d)] (.d (.int .i64 (idxR q l))) [.box [.clo u [.ptr (.x 1) 0]], .box (ds.map .d)] [] := by
 refine contract_of Tryz.func126 rfl (fun E0 => ?_)
 refine awp.sound (g := .mk) (ow := []) (kp := (fun k => k==0||k==1||k==4||k==5||k==7||k==8||k==9||k==16)) ?_
 rw [Tryz.ntmps126]
 simp -dsimp
 refine ALoop.of [] (fun k => k==0||k==1||k==4||k==5||k==7||k==8||k==9||k==16) (ι := { i : Nat // i ≤ l.length ∧ ∀ a, a < i → ∀ x, l[a]? = some x → q x = false })
  (fun z => [(Pl.s 0, It.v (.d (.sl (l.map Lk.cs)))), (Pl.s 1, It.v (.clo f [TV.ptr (Pl.x 0) 0])), (Pl.x 0, It.box [TV.clo u [TV.ptr (Pl.x 1) 0]]), (Pl.x 1, It.box (List.map TV.d ds)), (Pl.s 4, It.v (.d (.int .i64 0))), (Pl.s 7, It.v (.d (.int .i64 l.length))), (Pl.s 8, It.v (.d (.int .i64 z.1)))]) (fun z => l.length - z.1) ⟨0, by omega, fun a h => by omega⟩ ?_ ?_
 ·exact GS.to (by simp)
 ·rintro ⟨i, i1, i2⟩
  by_cases hi : i < l.length
  ·have hiz : (i : Int) < l.length := by omega
   have hx : l[i]? = some l[i] := List.getElem?_eq_getElem hi
   have hm : l[i] ∈ l := List.getElem_mem hi
   generalize l[i] = x at hx hm
   simp -dsimp [hiz, hx, Lk.cs, wrap_i64 (n := (i : Int) + 1) (by omega) (by omega)]
   and_intros
   all_goals try first | rfl | omega | exact ⟨by kernel_rfl⟩
   refine ACall.of (hf x hm) [.x 0, .x 1] 0 ?_
   rcases (Bool.eq_false_or_eq_true (q x)).symm with h | h
   ·simp -dsimp [h, hok, lkT, wrap_i64 (n := (i : Int) + 1) (by omega) (by omega)]
    and_intros
    all_goals try first | rfl | omega | exact ⟨by kernel_rfl⟩
    exact ⟨⟨i + 1, by omega, fun a ha y hy => by
     by_cases e : a = i
     ·subst e; rw [hx] at hy; simp only [Option.some.injEq] at hy; subst hy; exact h
     ·exact i2 a (by omega) y hy⟩, GS.to (by simp), by simp; omega⟩
   ·simp -dsimp [h, hok, lkT]
    and_intros
    all_goals try first | rfl | omega | exact ⟨by kernel_rfl⟩
    refine Fin.of ?_
    simp [idx_at hx h i2]
  ·simp -dsimp [hi]
   refine Fin.of ?_
   simp
   exact (idx_no fun a ha => i2 a (by omega)).symm
theorem containsFK2_cL (l : List Lk) (hl : l.length ≤ 9223372036854775807) (f : FuncId) (u : FuncId) (ds : List D) (q : Lk → Bool) (hf : ∀ x, x ∈ l → Contract Tryz.prog f [lkT x, .ptr (.x 0) 0] [.box [.clo u [.ptr (.x 1) 0]], .box (ds.map .d)] (.d (.bool (q x))) [.box [.clo u [.ptr (.x 1) 0]], .box (ds.map .d)] []) (hok : fnOK Tryz.prog f = true) :
  Contract Tryz.prog 98 [.d (.sl (l.map Lk.cs)), .clo f [.ptr (.x 0) 0]] [.box [.clo u [.ptr (.x 1) 0]], .box (ds.map .d)] (.d (.bool (l.any q))) [.box [.clo u [.ptr (.x 1) 0]], .box (ds.map .d)] [] := by
 refine contract_of Tryz.func98 rfl (fun E0 => ?_)
 refine awp.sound (g := .mk) (ow := []) (kp := (fun k => k==0||k==1||k==4)) ?_
 rw [Tryz.ntmps98]
 simp -dsimp
 refine ACall.of (indexK2_cL l hl f u ds q hf hok) [.x 0, .x 1] 0 ?_
 simp -dsimp
 refine Fin.of ?_
 simp [idx_any]
def bsGo (p : Nat → Bool) : Nat → Nat → Nat → Nat
 | 0, i, _ => i
 | k + 1, i, j => if i < j then (if p ((i + j) / 2) = true then bsGo p k ((i + j) / 2 + 1) j else bsGo p k i ((i + j) / 2)) else i
theorem bsGo_fuel {p : Nat → Bool} : ∀ (k i j : Nat), j - i ≤ k → bsGo p (k + 1) i j = bsGo p k i j
 | 0, i, j, h => by
   rw [show 0 + 1 = Nat.succ 0 from rfl, bsGo, bsGo, if_neg (by omega)]
 | k + 1, i, j, h => by
   rw [bsGo]
   conv => rhs; rw [bsGo]
   split
   ·split
    ·exact bsGo_fuel k _ _ (by omega)
    ·exact bsGo_fuel k _ _ (by omega)
   ·rfl
theorem bsGo_more {p : Nat → Bool} (i j : Nat) : ∀ m k, j - i ≤ k → bsGo p (k + m) i j = bsGo p k i j
 | 0, _, _ => rfl
 | m + 1, k, h => (bsGo_fuel (k + m) i j (by omega)).trans (bsGo_more i j m k h)
theorem bsGo_step {p : Nat → Bool} {i j : Nat} (h : i < j) : bsGo p (j - i) i j = if p ((i + j) / 2) = true then bsGo p (j - ((i + j) / 2 + 1)) ((i + j) / 2 + 1) j else bsGo p ((i + j) / 2 - i) i ((i + j) / 2) := by
 obtain ⟨k, hk⟩ : ∃ k, j - i = k + 1 := ⟨j - i - 1, by omega⟩
 rw [hk, bsGo, if_pos h]
 split
 ·rw [show k = (j - ((i + j) / 2 + 1)) + (k - (j - ((i + j) / 2 + 1))) by omega]
  exact bsGo_more _ _ _ _ (by omega)
 ·rw [show k = ((i + j) / 2 - i) + (k - ((i + j) / 2 - i)) by omega]
  exact bsGo_more _ _ _ _ (by omega)
theorem bsGo_end {p : Nat → Bool} {i j : Nat} (h : ¬ i < j) : bsGo p (j - i) i j = i := by
 rw [show j - i = 0 by omega, bsGo]
def bsI (p : Nat → Bool) (n : Nat) : Nat := bsGo p n 0 n
theorem bsGo_spec {p : Nat → Bool} (hp : ∀ a b, a ≤ b → p b = true → p a = true) : ∀ (k i j : Nat), i ≤ j → j - i ≤ k → (∀ a, a < i → p a = true) → (i ≤ bsGo p k i j ∧ bsGo p k i j ≤ j) ∧ (∀ a, a < bsGo p k i j → p a = true) ∧ ∀ a, bsGo p k i j ≤ a → a < j → p a = false
 | 0, i, j, h1, h2, h3 => by
   rw [bsGo]
   exact ⟨⟨by omega, by omega⟩, h3, fun a _ _ => by omega⟩
 | k + 1, i, j, h1, h2, h3 => by
   rw [bsGo]
   split
   ·rename_i h
    split
    ·rename_i hm
     obtain ⟨g1, g2, g3⟩ := bsGo_spec hp k ((i + j) / 2 + 1) j (by omega) (by omega) fun a ha => hp a _ (by omega) hm
     exact ⟨⟨by omega, by omega⟩, g2, g3⟩
    ·rename_i hm
     obtain ⟨g1, g2, g3⟩ := bsGo_spec hp k i ((i + j) / 2) (by omega) (by omega) h3
     refine ⟨⟨by omega, by omega⟩, g2, fun a ha hj => ?_⟩
     by_cases e : a < (i + j) / 2
     ·exact g3 a ha e
     ·refine Bool.eq_false_iff.2 fun e2 => hm (hp _ a (by omega) e2)
   ·rename_i h
    exact ⟨⟨by omega, by omega⟩, h3, fun a _ _ => by omega⟩
def ridN (l : List Rt) (i : Nat) : Int := (l.getD i ⟨0, false⟩).id
def cmpV (a b : Int) : Int := if a < b then -1 else if b < a then 1 else 0
theorem cmpV_lt (a b : Int) : (cmpV a b < 0) = (a < b) := by unfold cmpV; apply propext; split <;> (try split) <;> omega
theorem cmpV_eq (a b : Int) : (cmpV a b = 0) = (a = b) := by unfold cmpV; apply propext; split <;> (try split) <;> omega
theorem isNaN_c (a : Int) : Contract Tryz.prog 132 [.d (.int .i64 a)] [] (.d (.bool false)) [] [] := by
 refine contract_of Tryz.func132 rfl (fun E0 => ?_)
 refine awp.sound (g := .mk) (ow := []) (kp := (fun k => k==0||k==2)) ?_
 rw [Tryz.ntmps132]
 simp -dsimp
 refine Fin.of ?_
 simp
theorem compare_c (a b : Int) : Contract Tryz.prog 119 [.d (.int .i64 a), .d (.int .i64 b)] [] (.d (.int .i64 (cmpV a b))) [] [] := by
 refine contract_of Tryz.func119 rfl (fun E0 => ?_)
 refine awp.sound (g := .mk) (ow := []) (kp := (fun k => k==0||k==1||k==4||k==5||k==6||k==11||k==12||k==13||k==16||k==19)) ?_
 rw [Tryz.ntmps119]
 simp -dsimp
 refine ACall.of (isNaN_c a) [] 0 ?_
 simp -dsimp
 refine ACall.of (isNaN_c b) [] 0 ?_
 by_cases h1 : a < b
 ·simp -dsimp [h1]
  refine Fin.of ?_
  simp [cmpV, h1]
 ·by_cases h2 : b < a
  ·simp -dsimp [h1, h2]
   refine Fin.of ?_
   simp [cmpV, h1, h2]
  ·simp -dsimp [h1, h2]
   refine Fin.of ?_
   simp [cmpV, h1, h2]
theorem byID_c (x : Rt) (id : Int) : Contract Tryz.prog 97 [rtT x, .d (.int .i64 id)] [] (.d (.int .i64 (cmpV x.id id))) [] [] := by
 refine contract_of Tryz.func97 rfl (fun E0 => ?_)
 refine awp.sound (g := .mk) (ow := []) (kp := (fun k => k==0||k==1||k==2||k==4)) ?_
 rw [Tryz.ntmps97]
 simp -dsimp [rtT, Rt.cs]
 refine ACall.of (compare_c x.id id) [] 0 ?_
 simp -dsimp
 and_intros
 all_goals try first | rfl | omega | exact ⟨by kernel_rfl⟩
 refine Fin.of ?_
 simp
theorem shr_one (n : Nat) : shrI .u64 (n : Int) 1 = ((n / 2 : Nat) : Int) := by
 rw [shrI]
 have : min (Int.toNat 1) (IntKind.u64.bits) = 1 := by decide
 rw [this, Int.fdiv_eq_ediv_of_nonneg _ (by decide)]
 omega
theorem mid_eq {i j : Nat} (h : i + j ≤ 2000000) : IntKind.i64.wrap (shrI .u64 (IntKind.u64.wrap (IntKind.i64.wrap ((i : Int) + j))) 1) = (((i + j) / 2 : Nat) : Int) := by
 rw [show (i : Int) + j = ((i + j : Nat) : Int) by omega, wrap_i64 (n := ((i + j : Nat) : Int)) (by omega) (by omega), wrap_u64 (n := ((i + j : Nat) : Int)) (by omega) (by omega), shr_one, wrap_i64 (n := (((i + j) / 2 : Nat) : Int)) (by omega) (by omega)]
theorem bsearch_c (l : List Rt) (hl : l.length ≤ 1000000) (id : Int) : Contract Tryz.prog 96 [.d (.sl (rts l)), .d (.int .i64 id), .clo 97 []] []
  (.tup [.d (.int .i64 (bsI (fun a => decide (ridN l a < id)) l.length)), .d (.bool (decide (bsI (fun a => decide (ridN l a < id)) l.length < l.length) && decide (ridN l (bsI (fun a => decide (ridN l a < id)) l.length) = id)))]) [] [] := by
 obtain ⟨p, hp⟩ : ∃ p : Nat → Bool, p = fun a => decide (ridN l a < id) := ⟨_, rfl⟩
 rw [← hp]
 have hok : fnOK Tryz.prog 97 = true := by kernel_rfl
 refine contract_of Tryz.func96 rfl (fun E0 => ?_)
 refine awp.sound (g := .mk) (ow := []) (kp := (fun k => k==0||k==1||k==2||k==6||k==7||k==8||k==9||k==10||k==11||k==17||k==31)) ?_
 rw [Tryz.ntmps96]
 simp -dsimp [rts]
 refine ALoop.of [] (fun k => k==0||k==1||k==2||k==6||k==7||k==8||k==9||k==10||k==11||k==17||k==31) (ι := { z : Nat × Nat // z.1 ≤ z.2 ∧ z.2 ≤ l.length ∧ bsI p l.length = bsGo p (z.2 - z.1) z.1 z.2 })
  (fun z => [(Pl.s 0, It.v (.d (.sl (rts l)))), (Pl.s 1, It.v (.d (.int .i64 id))), (Pl.s 2, It.v (.clo 97 [])), (Pl.s 8, It.v (.d (.int .i64 l.length))), (Pl.s 9, It.v (.d (.int .i64 z.1.1))), (Pl.s 10, It.v (.d (.int .i64 z.1.2)))])
  (fun z => z.1.2 - z.1.1) ⟨(0, l.length), by omega, by omega, rfl⟩ ?_ ?_
 ·exact GS.to (by simp [rts])
 ·rintro ⟨⟨i, j⟩, j1, j2, j3⟩
  simp only at j1 j2 j3
  by_cases hi : i < j
  ·have hiz : (i : Int) < j := by omega
   rw [bsGo_step hi] at j3
   have hm : (i + j) / 2 < l.length := by omega
   have hx : l[(i + j) / 2]? = some l[(i + j) / 2] := List.getElem?_eq_getElem hm
   have hpm : p ((i + j) / 2) = decide (l[(i + j) / 2].id < id) := by rw [hp]; simp [ridN, hm]
   generalize l[(i + j) / 2] = x at hx hpm
   have hx' := rts_get hx
   have hmd := mid_eq (i := i) (j := j) (by omega)
   have hij : i ≤ (i + j) / 2 ∧ (i + j) / 2 < j := by omega
   generalize (i + j) / 2 = m at hx hpm hm hmd j3 hx' hij
   have hmz : (m : Int) < l.length := by omega
   have hb := byID_c x id
   simp only [rtT, Rt.cs, List.map] at hb
   simp -dsimp [hiz, hmd, hx', Rt.cs, hmz]
   refine ACall.of hb [] 0 ?_
   by_cases hc : x.id < id
   ·rw [hpm, decide_eq_true hc, if_pos rfl] at j3
    simp -dsimp [hok, cmpV_lt, hc, wrap_i64 (n := (m : Int) + 1) (by omega) (by omega)]
    and_intros
    all_goals try first | rfl | omega | exact ⟨by kernel_rfl⟩
    exact ⟨⟨(m + 1, j), by omega, by omega, j3⟩, GS.to (by simp), by simp; omega⟩
   ·rw [hpm, decide_eq_false hc, if_neg (by simp)] at j3
    simp -dsimp [hok, cmpV_lt, hc]
    and_intros
    all_goals try first | rfl | omega | exact ⟨by kernel_rfl⟩
    exact ⟨⟨(i, m), by omega, by omega, j3⟩, GS.to (by simp), by simp; omega⟩
  ·have hiz : ¬ (i : Int) < j := by omega
   obtain rfl : i = j := by omega
   rw [bsGo_end hi] at j3
   by_cases hl2 : i < l.length
   ·have hlz : (i : Int) < l.length := by omega
    have hx : l[i]? = some l[i] := List.getElem?_eq_getElem hl2
    have hr : ridN l i = l[i].id := by simp [ridN, hl2]
    generalize l[i] = x at hx hr
    have hx' := rts_get hx
    have hb := byID_c x id
    simp only [rtT, Rt.cs, List.map] at hb
    simp -dsimp [hiz, hlz, hx', Rt.cs, j3]
    refine ACall.of hb [] 0 ?_
    simp -dsimp [hok, cmpV_eq, hl2, hlz, j3]
    and_intros
    all_goals try first | rfl | omega | exact ⟨by kernel_rfl⟩
    refine Fin.of ?_
    simp [cmpV_eq, hl2, j3, hr]
   ·have hlz : ¬ (i : Int) < l.length := by omega
    simp -dsimp [hiz, hlz, j3]
    and_intros
    all_goals try first | rfl | omega | exact ⟨by kernel_rfl⟩
    refine Fin.of ?_
    simp [hl2, j3]
def bsR (l : List Rt) (id : Int) : Nat := bsI (fun a => decide (ridN l a < id)) l.length
def bsF (l : List Rt) (id : Int) : Bool := decide (bsR l id < l.length) && decide (ridN l (bsR l id) = id)
theorem bsF_lt {l : List Rt} {id : Int} (h : bsF l id = true) : bsR l id < l.length := by
 simp only [bsF, Bool.and_eq_true, decide_eq_true_eq] at h
 exact h.1
def bsX (l : List Rt) (id : Int) : Rt := if bsF l id = true then l.getD (bsR l id) ⟨0, false⟩ else ⟨0, false⟩
theorem adj_pw2 {α : Type} {q : α → α → Bool} {r : α → α → Prop} (hr : ∀ x y, q x y = false → r x y) (ht : ∀ x y z, r x y → r y z → r x z) : ∀ {l : List α}, adjB q l = false → l.Pairwise r
 | [], _ => .nil
 | [x], _ => by simp
 | x :: y :: l, h => by
   simp only [adjB, Bool.or_eq_false_iff] at h
   have ih := adj_pw2 hr ht (l := y :: l) h.2
   refine List.pairwise_cons.2 ⟨fun z hz => ?_, ih⟩
   rcases List.mem_cons.1 hz with rfl | hz
   ·exact hr _ _ h.1
   ·exact ht _ _ _ (hr _ _ h.1) ((List.pairwise_cons.1 ih).1 z hz)
theorem rpw_of {l : List Rt} (h : adjB (fun (x y : Rt) => decide (y.id ≤ x.id)) l = false) : l.Pairwise (fun x y => x.id < y.id) :=
 adj_pw2 (r := fun x y => x.id < y.id) (fun x y h => by simpa using h) (fun _ _ _ => Int.lt_trans) h
theorem bs_sorted {l : List Rt} (h : l.Pairwise fun x y => x.id < y.id) (id : Int) : bsF l id = hasR l id ∧ bsX l id = (rtOf l id).getD ⟨0, false⟩ := by
 have hp := List.pairwise_iff_getElem.1 h
 have hr : ∀ a, (ha : a < l.length) → ridN l a = l[a].id := fun a ha => by simp [ridN, ha]
 have h0 : ∀ a, l.length ≤ a → ridN l a = 0 := fun a ha => by simp [ridN, List.getD_eq_getElem?_getD, List.getElem?_eq_none ha]
 obtain ⟨p, hpd⟩ : ∃ p : Nat → Bool, p = fun a => decide (a < l.length ∧ ridN l a < id) := ⟨_, rfl⟩
 have hcong : ∀ (q q' : Nat → Bool) (n : Nat), (∀ a, a < n → q a = q' a) → ∀ k i j, j ≤ n → bsGo q k i j = bsGo q' k i j := by
  intro q q' n hq k
  induction k with
  | zero => intro i j _; rfl
  | succ k ih =>
    intro i j hj
    rw [bsGo, bsGo]
    split
    ·rw [hq ((i + j) / 2) (by omega), ih _ _ hj, ih i ((i + j) / 2) (by omega)]
    ·rfl
 have hb : bsR l id = bsGo p l.length 0 l.length := hcong _ _ l.length (fun a ha => by rw [hpd]; simp [ha]) _ _ _ (Nat.le_refl _)
 obtain ⟨g1, g2, g3⟩ := bsGo_spec (p := p) (fun a b hab hb => by
  rw [hpd] at hb ⊢
  simp only [decide_eq_true_eq] at hb ⊢
  obtain ⟨h1, h2⟩ := hb
  rcases Nat.eq_or_lt_of_le hab with e | e
  ·subst e; exact ⟨h1, h2⟩
  ·have := hp a b (by omega) h1 e
   rw [hr b h1] at h2
   exact ⟨by omega, by rw [hr a (by omega)]; omega⟩) l.length 0 l.length (by omega) (by omega) (fun a ha => by omega)
 rw [← hb] at g1 g2 g3
 have key : ∀ a, (ha : a < l.length) → l[a].id = id → a = bsR l id := fun a ha e => by
  rcases Nat.lt_trichotomy a (bsR l id) with c | c | c
  ·have := g2 a c
   rw [hpd] at this
   simp only [decide_eq_true_eq] at this
   rw [hr a ha] at this; omega
  ·exact c
  ·have := g3 (bsR l id) (Nat.le_refl _) (by omega)
   rw [hpd] at this
   simp only [decide_eq_false_iff_not, not_and] at this
   have h1 := this (by omega)
   rw [hr _ (by omega)] at h1
   have := hp (bsR l id) a (by omega) ha c
   omega
 by_cases hh : hasR l id = true
 ·obtain ⟨x, hx, e⟩ := List.any_eq_true.1 hh
  obtain ⟨a, ha, rfl⟩ := List.mem_iff_getElem.1 hx
  simp only [decide_eq_true_eq] at e
  obtain rfl := key a ha e
  have hF : bsF l id = true := by
   simp only [bsF, Bool.and_eq_true, decide_eq_true_eq]
   exact ⟨ha, by rw [hr _ ha]; exact e⟩
  refine ⟨hF.trans hh.symm, ?_⟩
  unfold bsX
  rw [if_pos hF]
  have : rtOf l id = some l[bsR l id] := by
   unfold rtOf
   rw [List.find?_eq_some_iff_getElem]
   refine ⟨by simpa using e, bsR l id, ha, rfl, fun j hj => ?_⟩
   have := hp j (bsR l id) (by omega) ha hj
   simp; omega
  rw [this]
  simp [ha]
 ·have hh' : hasR l id = false := by simpa using hh
  have hF : bsF l id = false := by
   refine Bool.eq_false_iff.2 fun e => hh ?_
   simp only [bsF, Bool.and_eq_true, decide_eq_true_eq] at e
   rw [hr _ e.1] at e
   exact List.any_eq_true.2 ⟨_, List.getElem_mem e.1, by simpa using e.2⟩
  refine ⟨hF.trans hh'.symm, ?_⟩
  unfold bsX
  rw [hF]
  have : rtOf l id = none := by
   unfold rtOf
   rw [List.find?_eq_none]
   intro x hx
   have := List.any_eq_false.1 hh' x hx
   simpa using this
  rw [this]; simp
theorem find_c0 (g : Topo) (hs : g.Sm) (id : Int) : Contract Tryz.prog 106 [topT g, .d (.int .i64 id)] [] (.tup [rtT (bsX g.rs id), .d (.bool (bsF g.rs id))]) [] [] := by
 have hb := bsearch_c g.rs hs.r id
 have hlt := bsF_lt (l := g.rs) (id := id)
 simp only [bsX]
 change Contract Tryz.prog _ _ _ (.tup [.d (.int .i64 (bsR g.rs id)), .d (.bool (bsF g.rs id))]) [] [] at hb
 refine contract_of Tryz.func106 rfl (fun E0 => ?_)
 refine awp.sound (g := .mk) (ow := []) (kp := (fun k => k==0||k==1||k==2||k==4||k==5||k==6||k==7||k==16)) ?_
 rw [Tryz.ntmps106]
 simp -dsimp [topT]
 refine ACall.of hb [] 0 ?_
 rcases (Bool.eq_false_or_eq_true (bsF g.rs id)).symm with h | h
 ·simp -dsimp [h]
  and_intros
  all_goals try first | rfl | omega | exact ⟨by kernel_rfl⟩
  refine Fin.of ?_
  simp [h, rtT, Rt.cs]
 ·have hl := hlt h
  have hx : g.rs[bsR g.rs id]? = some g.rs[bsR g.rs id] := List.getElem?_eq_getElem hl
  have hgd : g.rs.getD (bsR g.rs id) ⟨0, false⟩ = g.rs[bsR g.rs id] := by simp [hl]
  rw [hgd]
  generalize g.rs[bsR g.rs id] = x at hx
  have hx' := rts_get hx
  have hlz : (bsR g.rs id : Int) < g.rs.length := by omega
  simp -dsimp [h, hx', Rt.cs, hlz]
  and_intros
  all_goals try first | rfl | omega | exact ⟨by kernel_rfl⟩
  refine Fin.of ?_
  simp [h, rtT, Rt.cs]
theorem tin_c (n lo hi : Int) : Contract Tryz.prog 94 [.d (.int .i64 n), .d (.int .i64 lo), .d (.int .i64 hi)] [] (.d (.bool (inB n lo hi))) [] [] := by
 refine contract_of Tryz.func94 rfl (fun E0 => ?_)
 refine awp.sound (g := .mk) (ow := []) (kp := (fun k => k==0||k==1||k==2||k==6)) ?_
 rw [Tryz.ntmps94]
 by_cases h : lo ≤ n
 ·simp -dsimp [h]
  refine Fin.of ?_
  simp [inB, h]
 ·simp -dsimp [h]
  refine Fin.of ?_
  simp [inB, h]
theorem tck1_c (x : Rt) : Contract Tryz.prog 93 [rtT x] [] (.d (.bool (!inB x.id 1 99))) [] [] := by
 refine contract_of Tryz.func93 rfl (fun E0 => ?_)
 refine awp.sound (g := .mk) (ow := []) (kp := (fun k => k==0||k==1||k==2)) ?_
 rw [Tryz.ntmps93]
 simp -dsimp [rtT, Rt.cs]
 refine ACall.of (tin_c x.id 1 99) [] 0 ?_
 simp -dsimp
 and_intros
 all_goals try first | rfl | omega | exact ⟨by kernel_rfl⟩
 refine Fin.of ?_
 simp
theorem tck3_c (x : Lk) : Contract Tryz.prog 99 [lkT x] [] (.d (.bool x.bad)) [] [] := by
 refine contract_of Tryz.func99 rfl (fun E0 => ?_)
 refine awp.sound (g := .mk) (ow := []) (kp := (fun k => k==0||k==1||k==2)) ?_
 rw [Tryz.ntmps99]
 simp -dsimp [lkT, Lk.cs]
 refine ACall.of (tin_c x.ca 1 1000) [] 0 ?_
 rcases (Bool.eq_false_or_eq_true (inB x.ca 1 1000)).symm with b1 | b1
 ·simp -dsimp [b1]
  and_intros
  all_goals try first | rfl | omega | exact ⟨by kernel_rfl⟩
  refine Fin.of ?_
  simp [Lk.bad, b1]
 simp -dsimp [b1]
 refine ACall.of (tin_c x.cb 1 1000) [] 0 ?_
 rcases (Bool.eq_false_or_eq_true (inB x.cb 1 1000)).symm with b2 | b2
 ·simp -dsimp [b2]
  and_intros
  all_goals try first | rfl | omega | exact ⟨by kernel_rfl⟩
  refine Fin.of ?_
  simp [Lk.bad, b1, b2]
 simp -dsimp [b2]
 refine ACall.of (tin_c x.cap 0 1000) [] 0 ?_
 simp -dsimp
 and_intros
 all_goals try first | rfl | omega | exact ⟨by kernel_rfl⟩
 refine Fin.of ?_
 simp [Lk.bad, b1, b2]
theorem tck5_c (x : Lk) : Contract Tryz.prog 101 [lkT x] [] (.d (.bool (decide (x.b ≤ x.a)))) [] [] := by
 refine contract_of Tryz.func101 rfl (fun E0 => ?_)
 refine awp.sound (g := .mk) (ow := []) (kp := (fun k => k==0||k==1||k==2)) ?_
 rw [Tryz.ntmps101]
 simp -dsimp [lkT, Lk.cs]
 and_intros
 all_goals try first | rfl | omega | exact ⟨by kernel_rfl⟩
 refine Fin.of ?_
 simp
theorem tck2_c (g : Topo) (hs : g.Sm) (hp : g.rs.Pairwise fun x y => x.id < y.id) (id : Int) : Contract Tryz.prog 95 [.d (.int .i64 id), .ptr (.x 0) 0] [.box ([D.sl (rts g.rs), D.sl (lks g.ls)].map .d)] (.d (.bool (!hasR g.rs id))) [.box ([D.sl (rts g.rs), D.sl (lks g.ls)].map .d)] [] := by
 have hb := bsearch_c g.rs hs.r id
 change Contract Tryz.prog _ _ _ (.tup [.d (.int .i64 (bsR g.rs id)), .d (.bool (bsF g.rs id))]) [] [] at hb
 rw [(bs_sorted hp id).1] at hb
 refine contract_of Tryz.func95 rfl (fun E0 => ?_)
 refine awp.sound (g := .mk) (ow := []) (kp := (fun k => k==0||k==1||k==3||k==5)) ?_
 rw [Tryz.ntmps95]
 simp -dsimp
 refine ACall.of hb [] 0 ?_
 simp -dsimp
 and_intros
 all_goals try first | rfl | omega | exact ⟨by kernel_rfl⟩
 refine Fin.of ?_
 simp
theorem tck4_c (g : Topo) (hs : g.Sm) (hp : g.rs.Pairwise fun x y => x.id < y.id) (x : Lk) : Contract Tryz.prog 100 [lkT x, .ptr (.x 0) 0] [.box [.clo 95 [.ptr (.x 1) 0]], .box ([D.sl (rts g.rs), D.sl (lks g.ls)].map .d)] (.d (.bool (!hasR g.rs x.a || !hasR g.rs x.b)))
  [.box [.clo 95 [.ptr (.x 1) 0]], .box ([D.sl (rts g.rs), D.sl (lks g.ls)].map .d)] [] := by
 have hok : fnOK Tryz.prog 95 = true := by kernel_rfl
 refine contract_of Tryz.func100 rfl (fun E0 => ?_)
 refine awp.sound (g := .mk) (ow := []) (kp := (fun k => k==0||k==1||k==2||k==3)) ?_
 rw [Tryz.ntmps100]
 simp -dsimp [lkT, Lk.cs]
 try refine ⟨?_, ⟨by kernel_rfl⟩⟩
 refine ACall.of (tck2_c g hs hp x.a) [.x 1] 0 ?_
 rcases (Bool.eq_false_or_eq_true (hasR g.rs x.a)).symm with b1 | b1
 ·simp -dsimp [b1, hok]
  and_intros
  all_goals try first | rfl | omega | exact ⟨by kernel_rfl⟩
  refine Fin.of ?_
  simp [b1]
 simp -dsimp [b1, hok]
 refine ACall.of (tck2_c g hs hp x.b) [.x 1] 0 ?_
 simp -dsimp [b1, hok]
 and_intros
 all_goals try first | rfl | omega | exact ⟨by kernel_rfl⟩
 refine Fin.of ?_
 simp [b1]
def corV (x y : Int) : Int := if x ≠ 0 then x else y
theorem cor_c (x y : Int) : Contract Tryz.prog 127 [.d (ints [x, y])] [] (.d (.int .i64 (corV x y))) [] [] := by
 refine contract_of Tryz.func127 rfl (fun E0 => ?_)
 refine awp.sound (g := .mk) (ow := []) (kp := (fun k => k==0||k==2||k==3||k==5||k==6||k==7||k==8||k==9||k==14)) ?_
 rw [Tryz.ntmps127]
 simp -dsimp [ints]
 refine ALoop.of [] (fun k => k==0||k==2||k==3||k==5||k==6||k==7||k==8||k==9||k==14) (ι := { i : Nat // i ≤ 2 ∧ (0 < i → x = 0) ∧ (1 < i → y = 0) })
  (fun z => [(Pl.s 0, It.v (.d (.sl [[D.int .i64 x], [D.int .i64 y]]))), (Pl.s 2, It.v (.d (.int .i64 0))), (Pl.s 3, It.v (.d (.int .i64 0))),
   (Pl.s 6, It.v (.d (.sl [[D.int .i64 x], [D.int .i64 y]]))), (Pl.s 7, It.v (.d (.int .i64 2))), (Pl.s 8, It.v (.d (.int .i64 z.1)))]) (fun z => 2 - z.1) ⟨0, by omega, by omega, by omega⟩ ?_ ?_
 ·exact GS.to (by simp)
 ·rintro ⟨i, i1, i2, i3⟩
  rcases (by omega : i = 0 ∨ i = 1 ∨ i = 2) with rfl | rfl | rfl
  ·by_cases h : x = 0
   ·simp -dsimp [h]
    try refine ⟨?_, ⟨by kernel_rfl⟩⟩
    exact ⟨⟨1, by omega, fun _ => h, by omega⟩, GS.to (by simp [h, wrap_i64 (n := 1) (by omega) (by omega)]), by simp⟩
   ·simp -dsimp [h]
    try refine ⟨?_, ⟨by kernel_rfl⟩⟩
    refine Fin.of ?_
    simp [corV, h]
  ·have hx := i2 (by omega)
   by_cases h : y = 0
   ·simp -dsimp [h]
    try refine ⟨?_, ⟨by kernel_rfl⟩⟩
    exact ⟨⟨2, by omega, fun _ => hx, fun _ => h⟩, GS.to (by simp [h, wrap_i64 (n := 2) (by omega) (by omega)]), by simp⟩
   ·simp -dsimp [h]
    try refine ⟨?_, ⟨by kernel_rfl⟩⟩
    refine Fin.of ?_
    simp [corV, hx]
  ·have hx := i2 (by omega)
   have hy := i3 (by omega)
   simp -dsimp
   refine Fin.of ?_
   simp [corV, hx, hy]
def cmpL (a b : Lk) : Int := corV (cmpV a.a b.a) (cmpV a.b b.b)
theorem cmpL_ge (a b : Lk) : decide (0 ≤ cmpL a b) = (decide (b.a < a.a) || decide (a.a = b.a) && decide (b.b ≤ a.b)) := by
 unfold cmpL corV cmpV
 rcases Int.lt_trichotomy a.a b.a with h | h | h
 ·have e1 : ¬ b.a < a.a := by omega
  have e2 : ¬ a.a = b.a := by omega
  simp [h, e1, e2]
 ·rcases Int.lt_trichotomy a.b b.b with k | k | k
  ·have e1 : ¬ b.b ≤ a.b := by omega
   simp [h, k, e1]
  ·simp [h, k]
  ·have e1 : b.b ≤ a.b := by omega
   have e2 : ¬ a.b < b.b := by omega
   simp [h, k, e1, e2]
 ·have e1 : ¬ a.a < b.a := by omega
  simp [h, e1]
theorem tcompare_c (a b : Lk) : Contract Tryz.prog 102 [lkT a, lkT b] [] (.d (.int .i64 (cmpL a b))) [] [] := by
 refine contract_of Tryz.func102 rfl (fun E0 => ?_)
 refine awp.sound (g := .mk) (ow := []) (kp := (fun k => k==0||k==1||k==2||k==3||k==4)) ?_
 rw [Tryz.ntmps102]
 simp -dsimp [lkT, Lk.cs]
 refine ACall.of (compare_c a.a b.a) [] 0 ?_
 simp -dsimp
 refine ACall.of (compare_c a.b b.b) [] 0 ?_
 simp -dsimp
 have hc := cor_c (cmpV a.a b.a) (cmpV a.b b.b)
 simp only [ints, List.map] at hc
 refine ACall.of hc [] 0 ?_
 simp -dsimp
 and_intros
 all_goals try first | rfl | omega | exact ⟨by kernel_rfl⟩
 refine Fin.of ?_
 simp [cmpL]
end Go.Proofs

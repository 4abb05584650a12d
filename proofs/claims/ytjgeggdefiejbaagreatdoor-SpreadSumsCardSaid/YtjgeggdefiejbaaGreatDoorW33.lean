/-
  What functions of the program compute, stated as contracts over plain data; the conditions of each stand in its own statement.
-/
import Derived.Test.YtjgeggdefiejbaaGreatDoorW32
import Derived.Test.YtjgeggdefiejbaaGreatDoorW27
import Derived.Test.YtjgeggdefiejbaaGreatDoorW22
set_option linter.unusedSimpArgs false
namespace Go.Tr
open Go
def AEndT (P : Program) (A : Actv) (ow : List Nat) (ops : Array Oper) (L : Log) (t : S) (X : Prop) : Bool → Prop
 | true => X ∧ (P.follows .mixedOrders = true ∧ ADrawT P A ow ops L t)
 | false => X
theorem AEndT_true {P : Program} {A : Actv} {ow : List Nat} {ops : Array Oper} {L : Log} {t : S} {X : Prop} : AEndT P A ow ops L t X true = (X ∧ (P.follows .mixedOrders = true ∧ ADrawT P A ow ops L t)) := rfl
theorem AEndT_false {P : Program} {A : Actv} {ow : List Nat} {ops : Array Oper} {L : Log} {t : S} {X : Prop} : AEndT P A ow ops L t X false = X := rfl
def awpT (P : Program) (A : Actv) (ow : List Nat) (kp : Nat → Bool) : Code → (Q : Exit → S → Prop) → Tg Q → S → Prop
 | .skip, Q, _, t => Q .normal t
 | .label _, Q, _, t => Q .normal t
 | .seq x y, Q, g, t => awpT P A ow kp x (thn (awpT P A ow kp y Q g) Q) .mk t
 | .cond c x y, Q, g, t => ACond (condB (ev t c)) (awpT P A ow kp x Q g t) (awpT P A ow kp y Q g t) .mk .mk
 | .block id c, Q, _, t => awpT P A ow kp c (blkQ id Q) .mk t
 | .exit id, Q, _, t => Q (.exit id) t
 | .goto l, Q, _, t => Q (.goto l) t
 | .ret, Q, _, t => Q .ret t
 | .region _ ops draw, Q, _, t => ANoN ops (AOps P A ow ops ops.toList 0 [] .mk t (fun L t' => AEndT P A ow ops L t (Q .normal (kept kp t')) draw) .mk) draw
 | .loop c, Q, g, t => ALoop P A c Q g t
 | .scope c, Q, _, t => awpT P A ow kp c (scpQ Q) .mk t
 | _, _, _, _ => False
section
variable {P : Program} {A : Actv}
theorem awpT.sound {ow : List Nat} {kp : Nat → Bool} : ∀ {c : Code} {Q : Exit → S → Prop} {g : Tg Q} {t : S}, awpT P A ow kp c Q g t → AW P A c Q t
 | .skip, Q, _, t, h => fun a w hi => wp_skip ⟨t, hi, by simpa only [awpT] using h⟩
 | .label _, Q, _, t, h => fun a w hi => wp_label ⟨t, hi, by simpa only [awpT] using h⟩
 | .seq x y, Q, _, t, h => fun a w hi => by
   simp only [awpT] at h
   refine wp_seq (Code.wp_mono (fun e a w ⟨t', h1, h2⟩ => ?_) (awpT.sound (c := x) h a w hi))
   cases e <;> first
    | exact awpT.sound (c := y) h2 a w h1
    | exact ⟨t', h1, h2⟩
 | .cond c x y, Q, _, t, h => fun a w hi => by
   simp only [awpT] at h
   obtain ⟨E, hw, hE⟩ := hi
   have hr := ev_rel hE c
   unfold condB at h
   split at h
   ·rename_i b hb
    rw [hb] at hr
    simp only [RelV, Rep] at hr
    unfold ACond at h
    cases b
    ·exact wp_cond_false hr (awpT.sound (c := y) (h.no rfl) a w ⟨E, hw, hE⟩)
    ·exact wp_cond_true hr (awpT.sound (c := x) (h.yes rfl) a w ⟨E, hw, hE⟩)
   ·exact h.elim
 | .block id c, Q, _, t, h => fun a w hi => by
   simp only [awpT] at h
   refine wp_block (Code.wp_mono (fun e a w ⟨t', h1, h2⟩ => ?_) (awpT.sound (c := c) h a w hi))
   cases e <;> first
    | exact ⟨t', h1, h2⟩
    | (simp only [Exit.inBlock]
       simp only [blkQ] at h2
       split
       ·rename_i he; rw [if_pos he] at h2; exact ⟨t', h1, h2⟩
       ·rename_i he; rw [if_neg he] at h2; exact ⟨t', h1, h2⟩)
 | .exit id, Q, _, t, h => fun a w hi => wp_exit ⟨t, hi, by simpa only [awpT] using h⟩
 | .goto l, Q, _, t, h => fun a w hi => wp_goto ⟨t, hi, by simpa only [awpT] using h⟩
 | .ret, Q, _, t, h => fun a w hi => wp_ret ⟨t, hi, by simpa only [awpT] using h⟩
 | .region id ops draw, Q, _, t, h => fun a w hi => by
   simp only [awpT] at h
   cases draw
   ·rw [ANoN_false] at h
    refine wp_region ?_
    have := AOps.wps (Q := lift A Q) (fun j => by simp) h (fun L t' h3 a w hi' => ⟨_, hi'.kept kp, h3⟩) a w hi
    rwa [Array.length_toList, ← List.range_eq_range'] at this
   ·rw [ANoN_true] at h
    obtain ⟨hn, h⟩ := h
    obtain ⟨L, t', h1, h2, h3⟩ := AOps.sound (fun o ho => by
     have := List.all_eq_true.1 hn o ho
     simpa using this) (fun j => by simp) h
    rw [Array.length_toList] at h2
    obtain ⟨h4, h5, h6⟩ := h3
    simp only [List.append_nil] at h6
    exact region_drawT h5 h1 h2 h6 (fun a w hi' => ⟨_, hi'.kept kp, h4⟩) a w hi
 | .loop c, Q, _, t, h => by simp only [awpT] at h; exact h.aw
 | .rangeFunc .., _, _, _, h => by simp only [awpT] at h
 | .scope c, Q, _, t, h => fun a w hi => by
   simp only [awpT] at h
   refine wp_scope_straight (Code.wp_mono (fun e a w ⟨t', h1, h2⟩ => ?_) (awpT.sound (c := c) h a w hi))
   cases e <;> first
    | exact ⟨t', h1, h2⟩
    | exact h2.elim
 | .refuse _, _, _, _, h => by simp only [awpT] at h
theorem ALoop.ofT {ι : Type} {c : Code} {Q : Exit → S → Prop} {g : Tg Q} {t : S} (ow : List Nat) (kp : Nat → Bool) (st : ι → List (Pl × It)) (μ : ι → Nat) (i0 : ι) (h0 : GS A t (look (st i0)))
  (round : ∀ i, awpT P A ow kp c (thn (ANext A st μ (μ i) .mk .mk) Q) .mk (look (st i))) : ALoop P A c Q g t :=
 ⟨AW.loop (fun i => look (st i)) μ i0 h0 fun i => (awpT.sound (round i)).mono fun e t h => by cases e <;> first | exact h.ex | exact h⟩
theorem ADrawT.plain {ow : List Nat} {ops : Array Oper} {L : Log} {t : S} (h : drawF ops (shapes L []) = true) : ADrawT P A ow ops L t := ⟨.inl h⟩
theorem ADrawT.tol {ow : List Nat} {ops : Array Oper} {L : Log} {t : S} (i0 j0 : Nat) (p : Pl) (h : tolB ops (shapes L []) i0 j0 p = true) {o : Oper} {gp : List Pl} {e : Eff} (ho : ops[i0]? = some o)
  (hg : gv ops (upd (part L.reverse (fun _ => true) t i0) p (over t (L.reverse.getD j0 ([], [])).2 p)) o = some (gp, true)) (hd : dstOK A.N o = true)
  (he : eff P ow (upd (part L.reverse (fun _ => true) t i0) p (over t (L.reverse.getD j0 ([], [])).2 p)) o = some e) (hC : e.C)
  (hr : L.reverse.getD i0 ([], []) = (gp ++ e.rp, dstW o e.v e.W)) : ADrawT P A ow ops L t :=
 ⟨.inr ⟨i0, j0, p, h, by rw [hr]; exact Sum.of_eff ho hg hd he hC⟩⟩
end
attribute [simp] awpT AEndT_true AEndT_false
end Go.Tr

namespace Go.Tr
open Go
theorem ADrawT.tol' {P : Program} {A : Actv} {ow : List Nat} {ops : Array Oper} {L : Log} {t : S} (i0 j0 : Nat) (p : Pl) (h : tolB ops (shapes L []) i0 j0 p = true) {o : Oper} (ho : ops[i0]? = some o)
  (hx : AGv A.N o (gv ops (upd (part L.reverse (fun _ => true) t i0) p (over t (L.reverse.getD j0 ([], [])).2 p)) o)
   (fun gp => AEff A.N o gp (eff P ow (upd (part L.reverse (fun _ => true) t i0) p (over t (L.reverse.getD j0 ([], [])).2 p)) o) (fun rp W => L.reverse.getD i0 ([], []) = (rp, W)) .mk) (fun _ _ => False) .mk .mk) : ADrawT P A ow ops L t := by
 unfold AGv at hx
 split at hx
 ·exact hx.elim
 ·rename_i gp g hg
  cases g
  ·rw [AIf_false] at hx; exact hx.2.elim
  ·rw [AIf_true] at hx
   unfold AEff at hx
   split at hx
   ·rename_i e he
    exact ADrawT.tol i0 j0 p h ho hg hx.1 he hx.2.1 hx.2.2
   ·exact hx.elim
theorem kget_kput : ∀ (es : List (List Int × TV)) (k : List Int) (v : TV), kget (kput es k v) k = some v
 | [], k, v => by simp [kput, kget]
 | (a, x) :: es, k, v => by
   simp only [kput]
   split
   ·simp [kget]
   ·rename_i h; simp only [kget]; rw [if_neg h]; exact kget_kput es k v
theorem klen_kput {n : Nat} : ∀ {es : List (List Int × TV)} {k : List Int} {v : TV}, klen n es → k.length = n → klen n (kput es k v)
 | [], k, v, _, hk => fun y hy => by simp [kput] at hy; rw [hy]; exact hk
 | (a, x) :: es, k, v, h, hk => fun y hy => by
   simp only [kput] at hy
   split at hy
   ·rcases List.mem_cons.1 hy with rfl | hy
    ·exact hk
    ·exact h y (List.mem_cons_of_mem _ hy)
   ·rcases List.mem_cons.1 hy with rfl | hy
    ·exact h _ List.mem_cons_self
    ·exact klen_kput (fun z hz => h z (List.mem_cons_of_mem _ hz)) hk y hy
end Go.Tr

set_option maxRecDepth 100000
set_option maxHeartbeats 8000000
namespace Go.Proofs
open Go Go.Tr
theorem perm_of : ∀ {dn acc : List (List Int × Int)}, (dn.map (·.1)).Perm (acc.map (·.1)) → (∀ x ∈ dn, x ∈ acc) → (acc.map (·.1)).Nodup → dn.Perm acc
 | [], acc, h, _, _ => by
   have := h.length_eq
   simp at this
   have : acc = [] := List.length_eq_zero_iff.1 this.symm
   rw [this]
 | x :: dn, acc, h, hs, nd => by
   have hx : x ∈ acc := hs x (by simp)
   have h1 : acc.Perm (x :: acc.erase x) := List.perm_cons_erase hx
   have h2 : (dn.map (·.1)).Perm ((acc.erase x).map (·.1)) := by
    have := h.trans (h1.map (·.1))
    simp only [List.map_cons] at this
    exact (List.perm_cons _).1 this
   have nd2 : ((x :: dn).map (·.1)).Nodup := h.symm.nodup nd
   simp only [List.map_cons, List.nodup_cons] at nd2
   have nd3 : ((acc.erase x).map (·.1)).Nodup := h2.nodup nd2.2
   refine ((perm_of h2 (fun y hy => ?_) nd3).cons x).trans h1.symm
   have hy' := hs y (List.mem_cons_of_mem _ hy)
   have : y ≠ x := fun e => nd2.1 (List.mem_map.2 ⟨y, hy, by rw [e]⟩)
   exact (List.mem_erase_of_ne this).2 hy'
theorem two_of {x : List Int} (h : x.length = 2) : ∃ a b, x = [a, b] := by
 match x, h with
 | [a, b], _ => exact ⟨a, b, rfl⟩
theorem cm_nil : cm [] = [] := rfl
@[simp] theorem only_cm {po : Nat → Prop} {acc : List (List Int × Int)} {c : Nat} {pd : Option (List Int)} {s : Option Snap} : It.only po (It.mpk (cm acc) c pd s) := by
 intro x hx
 obtain ⟨y, _, rfl⟩ := List.mem_map.1 hx
 exact True.intro
@[simp] theorem only_mit {po : Nat → Prop} {m : Nat} {s : Snap} {left : List (List Int)} {cur : Option (List Int)} : It.only po (It.mit m s left cur) := trivial
theorem loads_c (l : List Tb) (hl : SmL l) (r : Int) (p : Pk) : Contract Tryz.prog 55 [.d (.sl (tbs l)), .d (.int .i64 r), pkT p] [] (.tup [.d (.sl (irow (loadsR l r p).1)), .d (.int .i64 (loadsR l r p).2)]) [] [] := by
 obtain ⟨G, hG⟩ : ∃ G, G = lgo l r p 8 0 [] := ⟨_, rfl⟩
 have hL : loadsR l r p = if G.2 = 0 then (ldR G.1, 0) else ([], G.2) := by rw [hG]; rfl
 rw [hL]
 refine contract_of Tryz.func55 rfl (fun E0 => ?_)
 refine awp.sound (g := .mk) (ow := [3000017, 1000105]) (kp := (fun k => k==0||k==1||k==2||k==5||k==6||k==7||k==8||k==9||k==10||k==11||k==13||k==14||k==15||k==16||k==18||k==19||k==31||k==34||k==35||k==36||k==37||k==53||k==55)) ?_
 rw [Tryz.ntmps55]
 simp -dsimp [pkT, Pk.cs]
 try refine ⟨?_, ⟨by kernel_rfl⟩⟩
 refine ALoop.of [3000017, 1000105] (fun k => k==0||k==1||k==2||k==5||k==6||k==7||k==8||k==9||k==10||k==11||k==13||k==14||k==15||k==16||k==18||k==19||k==31||k==34||k==35||k==36||k==37||k==53||k==55) (ι := { z : Nat × List (List Int × Int) × Int × Nat × Option (List Int) // z.1 ≤ 8 ∧ AccOK z.2.1 (z.1 * 1000000) ∧ G = lgo l r p (8 - z.1) z.1 z.2.1 })
  (fun z => [(Pl.s 0, It.v (.d (.sl (tbs l)))), (Pl.s 1, It.v (.d (.int .i64 r))), (Pl.o 5, It.box ((entP p z.1.2.2.1).cs.map .d)), (Pl.s 5, It.v (.ptr (Pl.o 5) 0)), (Pl.s 6, It.v (.c (Value.slice none 0 0))), (Pl.s 7, It.v (.d (.int .i64 0))), (Pl.s 8, It.v (.mref 17)), (Pl.o 17, It.mpk (cm z.1.2.1) z.1.2.2.2.1 z.1.2.2.2.2 none), (Pl.s 18, It.v (.d (.int .i64 z.1.1)))])
  (fun z => 8 - z.1.1) ⟨(0, [], p.ent, 0, none), by omega, by simpa using AccOK.nil, hG⟩ ?_ ?_
 ·exact GS.to (by simp [Pk.cs, entP, ← cm_nil])
 ·rintro ⟨⟨k, acc, en, c, pd⟩, i1, i2, i3⟩
  simp only at i1 i2 i3
  by_cases hk : k < 8
  ·have hkz : (k : Int) < 8 := by omega
   have h1 := run_c l hl (entP p k) r
   obtain ⟨s1, s2, s3⟩ := run_small l (entP p k) r
   rw [show 8 - k = (8 - (k + 1)) + 1 by omega, lgo] at i3
   generalize runR l (entP p k) r = U at h1 s1 s2 s3 i3
   obtain ⟨U, e⟩ := U
   simp only at s1 s2 s3 i3
   simp only [pkT, Pk.cs, entP, List.map, trcT] at h1
   simp -dsimp [hkz, Pk.cs, entP]
   and_intros
   all_goals try first | omega | exact ⟨by kernel_rfl⟩
   refine ACall.of h1 [] 0 ?_
   by_cases he : e = 0
   ·rw [if_pos he] at i3
    simp -dsimp [he]
    and_intros
    all_goals try first | omega | exact ⟨by kernel_rfl⟩
    refine ALoop.ofT [3000017, 1000105] (fun k => k==0||k==1||k==2||k==5||k==6||k==7||k==8||k==9||k==10||k==11||k==13||k==14||k==15||k==16||k==18||k==19||k==31||k==34||k==35||k==36||k==37||k==53||k==55) (ι := { z : Nat × Nat × Option (List Int) // z.1 ≤ U.cr.length })
     (fun z => [(Pl.s 0, It.v (.d (.sl (tbs l)))), (Pl.s 1, It.v (.d (.int .i64 r))), (Pl.o 5, It.box ((entP p k).cs.map .d)), (Pl.s 5, It.v (.ptr (Pl.o 5) 0)), (Pl.s 6, It.v (.c (Value.slice none 0 0))), (Pl.s 7, It.v (.d (.int .i64 0))), (Pl.s 8, It.v (.mref 17)), (Pl.o 17, It.mpk (cm (addH acc (U.cr.take z.1.1))) z.1.2.1 z.1.2.2 none), (Pl.s 18, It.v (.d (.int .i64 k))),
      (Pl.s 34, It.v (.d (.sl (U.cr.map crC)))), (Pl.s 35, It.v (.d (.int .i64 U.cr.length))), (Pl.s 36, It.v (.d (.int .i64 z.1.1)))])
     (fun z => U.cr.length - z.1.1) ⟨(0, c, pd), by omega⟩ ?_ ?_
    ·exact GS.to (by simp [Pk.cs, entP, addH])
    ·rintro ⟨⟨j, c, pd⟩, j1⟩
     simp only at j1
     have hA := addH_ok (U.cr.take j) i2
     rw [List.length_take, Nat.min_eq_left j1] at hA
     by_cases hj : j < U.cr.length
     ·have hjz : (j : Int) < U.cr.length := by omega
      have hg : U.cr[j]? = some U.cr[j] := List.getElem?_eq_getElem hj
      generalize U.cr[j] = y at hg
      have hn := addH_take hg acc
      generalize addH acc (U.cr.take j) = B at hA hn
      have hB2 := klen_cm (n := 2) hA.two
      have hcl := cntI_le hA.le (by omega) [y.1, y.2.1]
      have hw : IntKind.i64.wrap (cntI B [y.1, y.2.1] + 1) = cntI B [y.1, y.2.1] + 1 := wrap_i64 (by omega) (by omega)
      have hlk := lk_cm B [y.1, y.2.1]
      simp only [lkK] at hlk
      simp -dsimp [hjz, hg, crC, hlk, hw, kput_kput, kput_cm, hB2, wrap_i64 (n := (j : Int) + 1) (by omega) (by omega)]
      refine ⟨?_, ?_⟩
      ·exact ⟨⟨(j + 1, c + 1, some [y.1, y.2.1]), by omega⟩, GS.to (by simp [hn, Pk.cs, entP]), by simp; omega⟩
      ·have hB3 := klen_kput (k := [y.1, y.2.1]) (v := TV.d (.int .i64 (cntI B [y.1, y.2.1]))) hB2 rfl
       refine ADrawT.tol' 6 8 (Pl.o 17) (by kernel_rfl) rfl ?_
       simp -dsimp [Tr.part, kget_kput, hB3]
     ·have hjz : ¬ (j : Int) < U.cr.length := by omega
      obtain rfl : j = U.cr.length := by omega
      rw [List.take_length] at hA
      simp -dsimp [hjz, wrap_i64 (n := (k : Int) + 1) (by omega) (by omega)]
      and_intros
      all_goals try first | omega | exact ⟨by kernel_rfl⟩
      refine ⟨⟨(k + 1, addH acc U.cr, k, c, pd), by omega, hA.mono (by omega), i3⟩, GS.to (by simp [Pk.cs, entP]), by simp; omega⟩
   ·rw [if_neg he] at i3
    subst i3
    simp -dsimp [he]
    and_intros
    all_goals try first | omega | exact ⟨by kernel_rfl⟩
    refine Fin.view 6 ?_
    simp
    refine Fin.of ?_
    simp [he, irow]
  ·have hkz : ¬ (k : Int) < 8 := by omega
   obtain rfl : k = 8 := by omega
   rw [show 8 - 8 = 0 from rfl, lgo] at i3
   subst i3
   rw [if_pos rfl]
   simp -dsimp [hkz]
   refine ANon.range ?_
   simp -dsimp [ANo_some, rangeO]
   intro sn
   have i2n := i2.nd
   have i2l := i2.len
   refine ALoop.ofT [3000017, 1000105] (fun k => k==0||k==1||k==2||k==5||k==6||k==7||k==8||k==9||k==10||k==11||k==13||k==14||k==15||k==16||k==18||k==19||k==31||k==34||k==35||k==36||k==37||k==53||k==55) (ι := { z : List (List Int × Int) × List (List Int) × Option (List Int) // (z.1.map (·.1) ++ z.2.1).Perm (acc.map (·.1)) ∧ ∀ x ∈ z.1, x ∈ acc })
    (fun z => [(Pl.s 6, It.v (.c (Value.slice none 0 0))), (Pl.s 7, It.v (.d (.int .i64 0))), (Pl.s 8, It.v (.mref 17)), (Pl.o 17, It.mpk (cm acc) c pd (some sn)),
     (Pl.s 53, It.v (.ptr (Pl.o 53) 0)), (Pl.o 53, It.mit 17 sn z.1.2.1 z.1.2.2), (Pl.s 14, It.v (.oref 14 z.1.1.length)), (Pl.o 14, It.row 104 3 (dd (irow (z.1.1.map rowK))) false)])
    (fun z => z.1.2.1.length) ⟨([], acc.map (·.1), none), by simp, by simp⟩ ?_ ?_
   ·exact GS.own' (k := 14) 104 3 (by simp) (by simp) (by simp [irow, cm_keys])
   ·rintro ⟨⟨dn, left, cur⟩, j1, j2⟩
    simp only at j1 j2
    simp -dsimp
    refine ANon.next ?_
    simp -dsimp [nextO]
    refine ⟨fun hl0 => ?_, fun x hx => ?_⟩
    ·subst hl0
     rw [List.append_nil] at j1
     have hp := perm_of j1 j2 i2n
     have hS : (dn.map rowK).mergeSort (fun x y => !decide (cfL y x < 0)) = ldR acc := sort_leL (hp.map rowK) fun x hx y hy => row_one i2 x ((hp.map rowK).mem_iff.1 hx) y ((hp.map rowK).mem_iff.1 hy)
     have hlen := hp.length_eq
     have hpre : Parts2 cfL (dn.map rowK) := parts_cfL fun x hx y hy => row_one i2 x ((hp.map rowK).mem_iff.1 hx) y ((hp.map rowK).mem_iff.1 hy)
     refine ACall.sortF sortLoads_c (dn.map rowK) ?_
     simp -dsimp [hpre, hS]
     and_intros
     all_goals try first | omega | exact ⟨by kernel_rfl⟩
     have hll : (ldR acc).length = dn.length := by rw [← hS, List.length_mergeSort, List.length_map]
     refine Fin.view 6 ?_
     simp -dsimp [hll]
     refine Fin.of ?_
     simp
    ·have hxa : x ∈ acc.map (·.1) := j1.mem_iff.1 (List.mem_append_right _ hx)
     obtain ⟨⟨x', n⟩, hm, rfl⟩ := List.mem_map.1 hxa
     obtain ⟨x0, x1, rfl⟩ := two_of (i2.two _ hm)
     have hkg : kget (cm acc) [x0, x1] = some (TV.d (.int .i64 n)) := kget_mem (by rw [cm_keys]; exact i2n) (List.mem_map.2 ⟨_, hm, rfl⟩)
     have hdl : dn.length ≤ 8000000 := by
      have := j1.length_eq
      simp at this
      omega
     simp -dsimp [hkg]
     and_intros
     all_goals try first | omega | exact ⟨by kernel_rfl⟩
     have hrow : dd (irow (dn.map rowK ++ [rowK ([x0, x1], n)])) = dd (irow (dn.map rowK)) ++ [[TV.d (.int .i64 x0), TV.d (.int .i64 x1), TV.d (.int .i64 n)]] := by simp [irow, dd, rowK]
     refine ⟨⟨(dn ++ [([x0, x1], n)], left.erase [x0, x1], some [x0, x1]), ?_, ?_⟩, GS.to (by simp [hrow]), ?_⟩
     ·refine List.Perm.trans ?_ j1
      simp only [List.map_append, List.map_cons, List.map_nil, List.append_assoc, List.singleton_append]
      exact List.Perm.append_left _ (List.perm_cons_erase hx).symm
     ·intro y hy
      rcases List.mem_append.1 hy with hy | hy
      ·exact j2 y hy
      ·rw [List.mem_singleton] at hy; rw [hy]; exact hm
     ·simp only [List.length_erase_of_mem hx]
      have := List.length_pos_of_mem hx
      omega
def ps (l : List (List Int)) : D := .sl (l.map fun x => [ints x])
def pgo (l : List Tb) (r id : Int) : Nat → Nat → List (List Int) → List (List Int) × Int
 | 0, _, acc => (acc, 0)
 | n + 1, k, acc => if (pathV l r id k).2 = 0 then pgo l r id n (k + 1) (acc ++ [(pathV l r id k).1]) else ([], (pathV l r id k).2)
def spathR (l : List Tb) (r id : Int) : List (List Int) × Int := pgo l r id 8 0 []
theorem pgo_len (l : List Tb) (r id : Int) : ∀ (n k : Nat) (acc : List (List Int)), (pgo l r id n k acc).1.length ≤ acc.length + n
 | 0, k, acc => by simp [pgo]
 | n + 1, k, acc => by
   have := pgo_len l r id n (k + 1) (acc ++ [(pathV l r id k).1])
   rw [pgo]
   split
   ·simp at this; omega
   ·simp
theorem spathR_len (l : List Tb) (r id : Int) : (spathR l r id).1.length ≤ 8 := by
 have := pgo_len l r id 8 0 []
 simpa [spathR] using this
theorem paths_c (l : List Tb) (hl : SmL l) (r id : Int) : Contract Tryz.prog 43 [.d (.sl (tbs l)), .d (.int .i64 r), .d (.int .i64 id)] [] (.tup [.d (ps (spathR l r id).1), .d (.int .i64 (spathR l r id).2)]) [] [] := by
 obtain ⟨G, hG⟩ : ∃ G, G = spathR l r id := ⟨_, rfl⟩
 rw [← hG]
 refine contract_of Tryz.func43 rfl (fun E0 => ?_)
 refine awp.sound (g := .mk) (ow := []) (kp := (fun k => k==0||k==1||k==2||k==6||k==7||k==8||k==9||k==10||k==11||k==12||k==13||k==24)) ?_
 rw [Tryz.ntmps43]
 simp -dsimp
 try refine ⟨?_, ⟨by kernel_rfl⟩⟩
 refine ALoop.of [] (fun k => k==0||k==1||k==2||k==6||k==7||k==8||k==9||k==10||k==11||k==12||k==13||k==24) (ι := { z : Nat × List (List Int) // z.1 ≤ 8 ∧ z.2.length = z.1 ∧ G = pgo l r id (8 - z.1) z.1 z.2 })
  (fun z => [(Pl.s 0, It.v (.d (.sl (tbs l)))), (Pl.s 1, It.v (.d (.int .i64 r))), (Pl.s 2, It.v (.d (.int .i64 id))), (Pl.s 6, It.v (.c (Value.slice none 0 0))), (Pl.s 7, It.v (.d (.int .i64 0))), (Pl.s 8, It.v (.oref 8 z.1.2.length)), (Pl.o 8, It.row 22 1 (dd (z.1.2.map fun x => [ints x])) false), (Pl.s 12, It.v (.d (.int .i64 z.1.1)))])
  (fun z => 8 - z.1.1) ⟨(0, []), by omega, rfl, hG⟩ ?_ ?_
 ·exact GS.own' (k := 8) 22 1 (by simp) (by simp) (by simp)
 ·rintro ⟨⟨k, acc⟩, i1, i2, i3⟩
  simp only at i1 i2 i3
  by_cases hk : k < 8
  ·have hkz : (k : Int) < 8 := by omega
   have h1 := path_c l hl r id k
   rw [show 8 - k = (8 - (k + 1)) + 1 by omega, pgo] at i3
   generalize pathV l r id k = U at h1 i3
   obtain ⟨x, e⟩ := U
   simp only at i3
   simp only [pathT] at h1
   simp -dsimp [hkz]
   and_intros
   all_goals try first | omega | exact ⟨by kernel_rfl⟩
   refine ACall.of h1 [] 0 ?_
   by_cases he : e = 0
   ·rw [if_pos he] at i3
    simp -dsimp [he, wrap_i64 (n := (k : Int) + 1) (by omega) (by omega)]
    and_intros
    all_goals try first | omega | exact ⟨by kernel_rfl⟩
    have hrow : dd (acc.map (fun x => [ints x]) ++ [[ints x]]) = dd (acc.map fun x => [ints x]) ++ [[TV.d (ints x)]] := by simp [dd]
    exact ⟨⟨(k + 1, acc ++ [x]), by omega, by simp [i2], i3⟩, GS.to (by simp [hrow]), by simp; omega⟩
   ·rw [if_neg he] at i3
    subst i3
    simp -dsimp [he]
    and_intros
    all_goals try first | omega | exact ⟨by kernel_rfl⟩
    refine Fin.view 6 ?_
    simp -dsimp
    refine Fin.of ?_
    simp [ps]
  ·have hkz : ¬ (k : Int) < 8 := by omega
   obtain rfl : k = 8 := by omega
   rw [show 8 - 8 = 0 from rfl, pgo] at i3
   subst i3
   simp -dsimp [hkz]
   refine Fin.view 6 ?_
   simp -dsimp
   refine Fin.of ?_
   simp [ps]
theorem equalI_c (a b : List Int) (hl : a.length ≤ 1000000) : Contract Tryz.prog 97 [.d (ints a), .d (ints b)] [] (.d (.bool (decide (a = b)))) [] [] := by
 refine contract_of Tryz.func97 rfl (fun E0 => ?_)
 refine awp.sound (g := .mk) (ow := []) (kp := (fun k => k==0||k==1||k==4||k==5||k==10||k==12||k==13||k==14||k==24)) ?_
 rw [Tryz.ntmps97]
 by_cases hlen : a.length = b.length
 ·simp -dsimp [ints, hlen]
  refine ALoop.of [] (fun k => k==0||k==1||k==4||k==5||k==10||k==12||k==13||k==14||k==24) (ι := { i : Nat // i ≤ b.length ∧ ∀ j, j < i → a[j]? = b[j]? }) (fun z => [(Pl.s 0, It.v (.d (ints a))), (Pl.s 1, It.v (.d (ints b))), (Pl.s 4, It.v (.d (.bool false))), (Pl.s 10, It.v (.d (.bool false))),
   (Pl.s 12, It.v (.d (.int .i64 b.length))), (Pl.s 13, It.v (.d (.int .i64 z.1)))]) (fun z => b.length - z.1) ⟨0, by omega, fun j h => by omega⟩ ?_ ?_
  ·exact GS.to (by simp [ints])
  ·rintro ⟨i, i1, i2⟩
   by_cases hi' : i < b.length
   ·have hi : i < a.length := by omega
    by_cases h : a[i] = b[i]
    ·simp -dsimp [ints, hi, hi', h, wrap_i64 (n := (i : Int) + 1) (by omega) (by omega)]
     try refine ⟨?_, ⟨by kernel_rfl⟩⟩
     exact ⟨⟨i + 1, by omega, fun j hj => by
      by_cases e : j = i
      ·subst e; rw [List.getElem?_eq_getElem hi, List.getElem?_eq_getElem hi', h]
      ·exact i2 j (by omega)⟩, GS.to (by simp [ints]), by simp; omega⟩
    ·simp -dsimp [ints, hi, hi', h, wrap_i64 (n := (i : Int) + 1) (by omega) (by omega)]
     try refine ⟨?_, ⟨by kernel_rfl⟩⟩
     refine Fin.of ?_
     have : a ≠ b := fun e => by subst e; exact h rfl
     simp [this]
   ·simp -dsimp [ints, hi']
    refine Fin.of ?_
    have : a = b := List.ext_getElem? fun j => by
     by_cases hj : j < i
     ·exact i2 j hj
     ·rw [List.getElem?_eq_none (by omega), List.getElem?_eq_none (by omega)]
    simp [this]
 ·have hlen' : ¬ (a.length : Int) = b.length := by omega
  simp -dsimp [ints, hlen, hlen']
  refine Fin.of ?_
  have : a ≠ b := fun e => hlen (by rw [e])
  simp [this]
theorem indexP1_c (l : List (List Int)) (hl : l.length ≤ 1000000) (f : FuncId) (ds : List D) (q : List Int → Bool) (hf : ∀ x, x ∈ l → Contract Tryz.prog f [.d (ints x), .ptr (.x 0) 0] [.box (ds.map .d)] (.d (.bool (q x))) [.box (ds.map .d)] []) (hok : fnOK Tryz.prog f = true) :
  Contract Tryz.prog 140 [.d (ps l), .clo f [.ptr (.x 0) 0]] [.box (ds.map .d)] (.d (.int .i64 (idxR q l))) [.box (ds.map .d)] [] := by
 refine contract_of Tryz.func140 rfl (fun E0 => ?_)
 refine awp.sound (g := .mk) (ow := []) (kp := (fun k => k==0||k==1||k==4||k==5||k==7||k==8||k==9||k==16)) ?_
 rw [Tryz.ntmps140]
 simp -dsimp [ps]
 refine ALoop.of [] (fun k => k==0||k==1||k==4||k==5||k==7||k==8||k==9||k==16) (ι := { i : Nat // i ≤ l.length ∧ ∀ a, a < i → ∀ x, l[a]? = some x → q x = false })
  (fun z => [(Pl.s 0, It.v (.d (ps l))), (Pl.s 1, It.v (.clo f [TV.ptr (Pl.x 0) 0])), (Pl.x 0, It.box (List.map TV.d ds)), (Pl.s 4, It.v (.d (.int .i64 0))), (Pl.s 7, It.v (.d (.int .i64 l.length))), (Pl.s 8, It.v (.d (.int .i64 z.1)))]) (fun z => l.length - z.1) ⟨0, by omega, fun a h => by omega⟩ ?_ ?_
 ·exact GS.to (by simp [ps])
 ·rintro ⟨i, i1, i2⟩
  by_cases hi : i < l.length
  ·have hiz : (i : Int) < l.length := by omega
   have hx : l[i]? = some l[i] := List.getElem?_eq_getElem hi
   have hm : l[i] ∈ l := List.getElem_mem hi
   generalize l[i] = x at hx hm
   simp -dsimp [hiz, hx, ps, wrap_i64 (n := (i : Int) + 1) (by omega) (by omega)]
   and_intros
   all_goals try first | rfl | omega | exact ⟨by kernel_rfl⟩
   refine ACall.of (hf x hm) [.x 0] 0 ?_
   rcases (Bool.eq_false_or_eq_true (q x)).symm with h | h
   ·simp -dsimp [h, hok, wrap_i64 (n := (i : Int) + 1) (by omega) (by omega)]
    and_intros
    all_goals try first | rfl | omega | exact ⟨by kernel_rfl⟩
    exact ⟨⟨i + 1, by omega, fun a ha y hy => by
     by_cases e : a = i
     ·subst e; rw [hx] at hy; simp only [Option.some.injEq] at hy; subst hy; exact h
     ·exact i2 a (by omega) y hy⟩, GS.to (by simp [ps]), by simp; omega⟩
   ·simp -dsimp [h, hok]
    and_intros
    all_goals try first | rfl | omega | exact ⟨by kernel_rfl⟩
    refine Fin.of ?_
    simp [idx_at hx h i2]
  ·have hiz : ¬ (i : Int) < l.length := by omega
   simp -dsimp [hi, hiz, ps]
   refine Fin.of ?_
   simp
   exact (idx_no fun a ha => i2 a (by omega)).symm
theorem containsP1_c (l : List (List Int)) (hl : l.length ≤ 1000000) (f : FuncId) (ds : List D) (q : List Int → Bool) (hf : ∀ x, x ∈ l → Contract Tryz.prog f [.d (ints x), .ptr (.x 0) 0] [.box (ds.map .d)] (.d (.bool (q x))) [.box (ds.map .d)] []) (hok : fnOK Tryz.prog f = true) :
  Contract Tryz.prog 95 [.d (ps l), .clo f [.ptr (.x 0) 0]] [.box (ds.map .d)] (.d (.bool (l.any q))) [.box (ds.map .d)] [] := by
 refine contract_of Tryz.func95 rfl (fun E0 => ?_)
 refine awp.sound (g := .mk) (ow := []) (kp := (fun k => k==0||k==1||k==4)) ?_
 rw [Tryz.ntmps95]
 simp -dsimp
 refine ACall.of (indexP1_c l hl f ds q hf hok) [.x 0] 0 ?_
 simp -dsimp
 refine Fin.of ?_
 simp [idx_any]
theorem dist1_c (p q : List Int) (hp : p.length ≤ 1000000) : Contract Tryz.prog 96 [.d (ints q), .ptr (.x 0) 0] [.box ([ints p].map .d)] (.d (.bool (decide (p = q)))) [.box ([ints p].map .d)] [] := by
 refine contract_of Tryz.func96 rfl (fun E0 => ?_)
 refine awp.sound (g := .mk) (ow := []) (kp := (fun k => k==0||k==1||k==3)) ?_
 rw [Tryz.ntmps96]
 simp -dsimp
 refine ACall.of (equalI_c p q hp) [] 0 ?_
 simp -dsimp
 refine Fin.of ?_
 simp
def grtL (zs : List (List Int)) : Int := zs.foldl (fun m z => max m (z.getD 2 0)) 0
theorem greatest_c (zs : List (List Int)) (hz : ∀ z ∈ zs, z.length = 3) (hl : zs.length ≤ 1000000000) : Contract Tryz.prog 99 [.d (.sl (irow zs))] [] (.d (.int .i64 (grtL zs))) [] [] := by
 refine contract_of Tryz.func99 rfl (fun E0 => ?_)
 refine awp.sound (g := .mk) (ow := []) (kp := (fun k => k==0||k==2||k==3||k==5||k==6||k==7||k==8||k==9)) ?_
 rw [Tryz.ntmps99]
 simp -dsimp
 try refine ⟨?_, ⟨by kernel_rfl⟩⟩
 refine ALoop.of [] (fun k => k==0||k==2||k==3||k==5||k==6||k==7||k==8||k==9) (ι := { i : Nat // i ≤ zs.length })
  (fun z => [(Pl.s 3, It.v (.d (.int .i64 (grtL (zs.take z.1))))), (Pl.s 6, It.v (.d (.sl (irow zs)))), (Pl.s 7, It.v (.d (.int .i64 zs.length))), (Pl.s 8, It.v (.d (.int .i64 z.1)))])
  (fun z => zs.length - z.1) ⟨0, by omega⟩ ?_ ?_
 ·exact GS.to (by simp [grtL])
 ·rintro ⟨i, i1⟩
  by_cases hi : i < zs.length
  ·have hiz : (i : Int) < zs.length := by omega
   have hg : zs[i]? = some zs[i] := List.getElem?_eq_getElem hi
   have hm : zs[i].length = 3 := hz _ (List.getElem_mem hi)
   generalize zs[i] = y at hg hm
   obtain ⟨a, b, c, rfl⟩ : ∃ a b c, y = [a, b, c] := by
    match y, hm with
    | [a, b, c], _ => exact ⟨a, b, c, rfl⟩
   have hn : grtL (zs.take (i + 1)) = if c > grtL (zs.take i) then c else grtL (zs.take i) := by
    unfold grtL
    rw [List.take_add_one, hg]
    simp only [Option.toList_some, List.foldl_append, List.foldl_cons, List.foldl_nil]
    generalize (zs.take i).foldl (fun m z => max m (z.getD 2 0)) 0 = m
    show max m c = _
    split <;> omega
   have hgr : (irow zs)[i]? = some [D.int .i64 a, D.int .i64 b, D.int .i64 c] := by simp [irow, hg]
   simp -dsimp [hiz, hgr, wrap_i64 (n := (i : Int) + 1) (by omega) (by omega)]
   and_intros
   all_goals try first | omega | exact ⟨by kernel_rfl⟩
   exact ⟨⟨i + 1, by omega⟩, GS.to (by simp [hn, maxI]), by simp; omega⟩
  ·have hiz : ¬ (i : Int) < zs.length := by omega
   obtain rfl : i = zs.length := by omega
   simp -dsimp [hiz]
   refine Fin.of ?_
   simp
def dcnt (P : List (List Int)) : Nat → Int
 | 0 => 0
 | n + 1 => dcnt P n + if ((P.take n).any fun q => decide (P.getD n [] = q)) then 0 else 1
theorem dcnt_le (P : List (List Int)) : ∀ n : Nat, 0 ≤ dcnt P n ∧ dcnt P n ≤ n
 | 0 => by simp [dcnt]
 | n + 1 => by
   have := dcnt_le P n
   rw [dcnt]; split <;> push_cast <;> omega
theorem pgo_nil (l : List Tb) (r id : Int) : ∀ (n k : Nat) (acc : List (List Int)), (pgo l r id n k acc).2 ≠ 0 → (pgo l r id n k acc).1 = []
 | 0, k, acc, h => absurd rfl h
 | n + 1, k, acc, h => by
   rw [pgo] at h ⊢
   split
   ·rename_i h1; rw [if_pos h1] at h; exact pgo_nil l r id n (k + 1) _ h
   ·rfl
theorem pgo_mem (l : List Tb) (r id : Int) : ∀ (n k : Nat) (acc : List (List Int)), (∀ x ∈ acc, x.length ≤ l.length + 1) → ∀ x ∈ (pgo l r id n k acc).1, x.length ≤ l.length + 1
 | 0, k, acc, h => h
 | n + 1, k, acc, h => by
   rw [pgo]
   split
   ·refine pgo_mem l r id n (k + 1) _ fun x hx => ?_
    rcases List.mem_append.1 hx with hx | hx
    ·exact h x hx
    ·rw [List.mem_singleton] at hx; rw [hx]; exact pathV_len l r id k
   ·simp
theorem dist_c (l : List Tb) (hl : SmL l) (r id : Int) : Contract Tryz.prog 46 [.d (.sl (tbs l)), .d (.int .i64 r), .d (.int .i64 id)] [] (.tup [.d (.int .i64 (dcnt (spathR l r id).1 (spathR l r id).1.length)), .d (.int .i64 (spathR l r id).2)]) [] [] := by
 have h1 := paths_c l hl r id
 have h2 := spathR_len l r id
 have h3 := pgo_nil l r id 8 0 []
 have h4 := pgo_mem l r id 8 0 [] (by simp)
 have hn := hl.n
 change (spathR l r id).2 ≠ 0 → _ at h3
 change ∀ x ∈ (spathR l r id).1, _ at h4
 change _ → (spathR l r id).1 = [] at h3
 generalize spathR l r id = G at h1 h2 h3 h4
 obtain ⟨G, e⟩ := G
 simp only at h2 h3 h4
 refine contract_of Tryz.func46 rfl (fun E0 => ?_)
 refine awp.sound (g := .mk) (ow := []) (kp := (fun k => k==0||k==1||k==2||k==6||k==7||k==8||k==9||k==10||k==11||k==12||k==21||k==23||k==24||k==25||k==26||k==35)) ?_
 rw [Tryz.ntmps46]
 simp -dsimp
 try refine ⟨?_, ⟨by kernel_rfl⟩⟩
 refine ACall.of h1 [] 0 ?_
 by_cases he : e = 0
 ·simp -dsimp [he, ps]
  and_intros
  all_goals try first | omega | exact ⟨by kernel_rfl⟩
  refine ALoop.of [] (fun k => k==0||k==1||k==2||k==6||k==7||k==8||k==9||k==10||k==11||k==12||k==21||k==23||k==24||k==25||k==26||k==35) (ι := { i : Nat // i ≤ G.length })
   (fun z => [(Pl.s 7, It.v (.d (.int .i64 0))), (Pl.s 8, It.v (.d (ps G))), (Pl.s 10, It.v (.d (.int .i64 (dcnt G z.1)))), (Pl.s 23, It.v (.d (ps G))), (Pl.s 24, It.v (.d (.int .i64 G.length))), (Pl.s 25, It.v (.d (.int .i64 z.1)))])
   (fun z => G.length - z.1) ⟨0, by omega⟩ ?_ ?_
  ·exact GS.to (by simp [ps, dcnt])
  ·rintro ⟨i, i1⟩
   by_cases hi : i < G.length
   ·have hiz : (i : Int) < G.length := by omega
    have hg : G[i]? = some G[i] := List.getElem?_eq_getElem hi
    have hgl := h4 G[i] (List.getElem_mem hi)
    generalize G[i] = p at hg hgl
    have hgd : G.getD i [] = p := by rw [List.getD_eq_getElem?_getD, hg]; rfl
    have hds : dcnt G (i + 1) = dcnt G i + if ((G.take i).any fun q => decide (p = q)) then 0 else 1 := by rw [dcnt, hgd]
    have hdl := dcnt_le G i
    have hc := containsP1_c (G.take i) (by rw [List.length_take]; omega) 96 [ints p] (fun q => decide (p = q)) (fun x _ => dist1_c p x (by omega)) (by simp)
    simp only [ps, List.map_take] at hc
    simp -dsimp [hiz, hg, ps]
    and_intros
    all_goals try first | omega | exact ⟨by kernel_rfl⟩
    refine ACall.of hc [.o 12] 0 ?_
    rcases (Bool.eq_false_or_eq_true ((G.take i).any fun q => decide (p = q))).symm with hb | hb
    ·rw [hb] at hds
     simp -dsimp [hb, wrap_i64 (n := (i : Int) + 1) (by omega) (by omega), wrap_i64 (n := dcnt G i + 1) (by omega) (by omega)]
     and_intros
     all_goals try first | omega | exact ⟨by kernel_rfl⟩
     exact ⟨⟨i + 1, by omega⟩, GS.to (by simp [hds, ps]), by simp; omega⟩
    ·rw [hb] at hds
     simp -dsimp [hb, wrap_i64 (n := (i : Int) + 1) (by omega) (by omega)]
     and_intros
     all_goals try first | omega | exact ⟨by kernel_rfl⟩
     exact ⟨⟨i + 1, by omega⟩, GS.to (by simp [hds, ps]), by simp; omega⟩
   ·have hiz : ¬ (i : Int) < G.length := by omega
    obtain rfl : i = G.length := by omega
    simp -dsimp [hiz]
    refine Fin.of ?_
    simp [he]
 ·obtain rfl : G = [] := h3 he
  simp -dsimp [he, ps]
  and_intros
  all_goals try first | omega | exact ⟨by kernel_rfl⟩
  refine Fin.of ?_
  simp [dcnt]
def sqG : Topo := ⟨[⟨1, true⟩, ⟨2, true⟩, ⟨3, true⟩, ⟨4, true⟩], [⟨1, 2, 1, 1, 0⟩, ⟨1, 3, 1, 1, 0⟩, ⟨2, 4, 1, 1, 0⟩, ⟨3, 4, 1, 1, 0⟩]⟩
def sqP : Pn := ⟨0, 8, [⟨4, 1⟩]⟩
def sqL : List Tb := tabs sqG sqP sqG.rs
def sqQ : Pk := ⟨1, 0, 0, 8, 9, 0, 0, 0, 1#64, ⟨#[]⟩⟩
theorem sqP_ok : planB sqP = true := planB_ok (by decide) (by decide) (fun i j hj hi => by
 have hi : i < 1 := hi
 omega)
theorem sqG_ok : chkT sqG = 0 := by decide +kernel
theorem square_c : Contract Tryz.prog 98 [] [] (.d (.sl (tbs sqL))) [] [] := by
 have ha := all11_c sqG ⟨by simp [sqG], by simp [sqG]⟩ sqP (by simp [sqP])
 rw [all11_eq sqG_ok sqP_ok] at ha
 change Contract _ _ _ _ (allT sqL 0) _ _ at ha
 simp only [allT, topT, planT] at ha
 rw [show List.map Tb.cs sqL = tbs sqL from rfl] at ha
 generalize sqL = L at ha ⊢
 simp only [sqG, sqP, rts, lks, eds, List.map, Rt.cs, Lk.cs, Ed.cs] at ha
 refine contract_of Tryz.func98 rfl (fun E0 => ?_)
 refine awp.sound (g := .mk) (ow := []) (kp := (fun k => k==0||k==1||k==2)) ?_
 rw [Tryz.ntmps98]
 simp -dsimp
 try refine ⟨?_, ⟨by kernel_rfl⟩⟩
 refine ACall.of ha [] 0 ?_
 simp -dsimp
 try refine ⟨?_, ⟨by kernel_rfl⟩⟩
 refine Fin.of ?_
 simp
theorem sqS : SmL sqL := ⟨by decide +kernel, fun b hb => chk_sm (tabs_chk sqG_ok sqP_ok b hb)⟩
def sqPs : List (List Int) := [[2, 4], [3, 4], [2, 4], [3, 4], [2, 4], [3, 4], [2, 4], [3, 4]]
theorem sq_paths : spathR sqL 1 1 = (sqPs, 0) := by kernel_rfl
def sqA : List (List Int × Int) := [([1, 2], 4), ([2, 4], 4), ([1, 3], 4), ([3, 4], 4)]
theorem sq_lgo : lgo sqL 1 sqQ 8 0 [] = (sqA, 0) := by kernel_rfl
def sqLd : List (List Int) := [[1, 2, 4], [1, 3, 4], [2, 4, 4], [3, 4, 4]]
theorem sq_ld : ldR sqA = sqLd := by
 have hu : AccOK sqA 100 := ⟨by decide, by decide, by decide, by decide⟩
 have hp : (sqA.map rowK).Perm sqLd := by decide
 have h1 : ldR sqA = (sqA.map rowK).mergeSort leL := rfl
 rw [h1, sort_leL hp (row_one hu), List.mergeSort_of_pairwise (by decide)]
theorem sq_loads : loadsR sqL 1 sqQ = (sqLd, 0) := by
 unfold loadsR
 rw [sq_lgo]
 simp only [if_true, sq_ld]
theorem awake15_c : Contract Tryz.prog 48 [] [] (.d (.bool true)) [] [] := by
 have h1 := paths_c sqL sqS 1 1
 have h2 := dist_c sqL sqS 1 1
 have h3 := loads_c sqL sqS 1 sqQ
 rw [sq_paths] at h1 h2
 rw [sq_loads] at h3
 have e2 : dcnt sqPs sqPs.length = 2 := by decide +kernel
 rw [show dcnt (sqPs, (0 : Int)).1 (sqPs, (0 : Int)).1.length = 2 from e2] at h2
 have h4 := greatest_c sqLd (by decide) (by decide)
 rw [show grtL sqLd = 4 by decide +kernel] at h4
 have h5 := ints04_c [2, 4] [2, 4] (by simp)
 have h6 := ints04_c [3, 4] [3, 4] (by simp)
 simp only [pkT, sqQ, Pk.cs, List.map, sqPs, ps, sqLd, irow, ints] at h1 h2 h3 h4 h5 h6
 have hs := square_c
 generalize sqL = L at h1 h2 h3 hs
 refine contract_of Tryz.func48 rfl (fun E0 => ?_)
 refine awp.sound (g := .mk) (ow := []) (kp := (fun k => k==0||k==1||k==2||k==3||k==4||k==5||k==6)) ?_
 rw [Tryz.ntmps48]
 simp -dsimp
 try refine ⟨?_, ⟨by kernel_rfl⟩⟩
 refine ACall.of hs [] 0 ?_
 simp -dsimp
 try refine ⟨?_, ⟨by kernel_rfl⟩⟩
 refine ACall.of h1 [] 0 ?_
 simp -dsimp
 and_intros
 all_goals try first | omega | exact ⟨by kernel_rfl⟩ | rfl
 refine ACall.of hs [] 0 ?_
 simp -dsimp
 and_intros
 all_goals try first | omega | exact ⟨by kernel_rfl⟩ | rfl
 refine ACall.of h2 [] 0 ?_
 simp -dsimp
 and_intros
 all_goals try first | omega | exact ⟨by kernel_rfl⟩ | rfl
 refine ACall.of hs [] 0 ?_
 simp -dsimp
 and_intros
 all_goals try first | omega | exact ⟨by kernel_rfl⟩ | rfl
 refine ACall.of h3 [] 0 ?_
 as_aux_lemma =>
 simp -dsimp
 and_intros
 all_goals try first | omega | exact ⟨by kernel_rfl⟩ | rfl
 refine ACall.of h5 [] 0 ?_
 simp -dsimp
 and_intros
 all_goals try first | omega | exact ⟨by kernel_rfl⟩ | rfl
 refine ACall.of h6 [] 0 ?_
 simp -dsimp
 and_intros
 all_goals try first | omega | exact ⟨by kernel_rfl⟩ | rfl
 refine ACall.of h4 [] 0 ?_
 simp -dsimp
 and_intros
 all_goals try first | omega | exact ⟨by kernel_rfl⟩ | rfl
 refine Fin.of ?_
 simp
end Go.Proofs

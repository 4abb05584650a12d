/-
  What functions of the program compute, stated as contracts over plain data; the conditions of each stand in its own statement.
-/
import Derived.Test.YtjgeggdefiejbaaGreatDoorZM36
import Derived.Test.YtjgeggdefiejbaaGreatDoorZM13
import Derived.Test.YtjgeggdefiejbaaGreatDoorRows
import Derived.Test.YtjgeggdefiejbaaGreatDoorZM12
import Derived.OpenShut
import Derived.MakeChecks
import Derived.FnData
import Derived.LaidMore
import Derived.Test.YtjgeggdefiejbaaGreatDoorZM29
set_option linter.unusedSimpArgs false
set_option linter.unusedVariables false
set_option maxRecDepth 100000
set_option maxHeartbeats 16000000
namespace Go.Proofs
open Go Go.Tr
def smR : List Rw → Int → Int
 | [], n => n
 | x :: xs, n => if n < 900 then smR xs (IntKind.i64.wrap (n + x.nx.length)) else n
def smT : List Tb → Int → Int
 | [], n => n
 | b :: l, n => if n < 900 then smT l (smR b.rows (IntKind.i64.wrap (n + b.rows.length))) else n
def smallV (l : List Tb) : Bool := decide (smT l l.length ≤ 600)
theorem smT_ge : ∀ {l : List Tb} {n : Int}, ¬ n < 900 → smT l n = n
 | [], _, _ => rfl
 | x :: xs, n, h => by rw [smT, if_neg h]
theorem small_c (l : List Tb) (hl : l.length ≤ 9223372036854775807) (hr : ∀ b ∈ l, b.rows.length ≤ 9223372036854775807 ∧ ∀ x ∈ b.rows, x.nx.length ≤ 9223372036854775807) : Contract Tryz.prog 27 [.d (.sl (tbs l))] [] (.d (.bool (smallV l))) [] [] := by
 have hS : smallV l = decide (smT l l.length ≤ 600) := rfl
 rw [hS]
 have ltb : (tbs l).length = l.length := by simp [tbs]
 refine contract_of Tryz.func27 rfl (fun E0 => ?_)
 refine awp.sound (g := .mk) (ow := []) (kp := (fun k => k==0||k==2||k==3||k==4||k==5||k==15||k==37)) ?_
 rw [Tryz.ntmps27]
 simp -dsimp [ltb]
 and_intros
 all_goals try first | omega | exact ⟨by kernel_rfl⟩ | rfl | (show List.length _ = _; simp [tbs, Tb.cs, rws, Rw.cs]; done)
 refine ALoop.of [] (fun k => k==0||k==2||k==3||k==4||k==5||k==15||k==37) (ι := { z : Nat × Int // z.1 ≤ l.length ∧ smT l l.length = smT (l.drop z.1) z.2 })
  (fun z => [(Pl.s 0, It.v (.d (.sl (tbs l)))), (Pl.s 2, It.v (.d (.bool false))), (Pl.s 3, It.v (.d (.int .i64 z.1.2))), (Pl.s 4, It.v (.d (.int .i64 z.1.1)))])
  (fun z => l.length - z.1.1) ⟨(0, l.length), by omega, by simp⟩ ?_ ?_
 ·exact GS.to (by simp)
 rintro ⟨⟨i, n⟩, i1, i2⟩
 simp only at i1 i2
 by_cases hi : i < l.length
 ·have hiz : (i : Int) < l.length := by omega
  have hge : l[i]? = some l[i] := List.getElem?_eq_getElem hi
  have hbm : l[i] ∈ l := List.getElem_mem hi
  have hd : l.drop i = l[i] :: l.drop (i + 1) := List.drop_eq_getElem_cons _
  obtain ⟨b, hb0⟩ : ∃ b, l[i] = b := ⟨_, rfl⟩
  rw [hb0] at hge hbm hd
  obtain ⟨hbr, hbx⟩ := hr b hbm
  rw [hd, smT] at i2
  have hg2 : (tbs l)[i]? = some [D.int .i64 b.r, D.int .i64 b.sd, D.int .i64 b.len, rwsD b.rows] := by simp [tbs, Tb.cs, hge]
  have hg4 : ∀ h : i < (tbs l).length, (tbs l)[i] = [D.int .i64 b.r, D.int .i64 b.sd, D.int .i64 b.len, rwsD b.rows] := fun h => by simp [tbs, Tb.cs, hb0]
  have lrw : (rws b.rows).length = b.rows.length := by simp [rws]
  by_cases hn : n < 900
  ·rw [if_pos hn] at i2
   simp -dsimp [hi, hiz, hn, hg2, hg4, ltb, rwsD_eq, lrw]
   and_intros
   all_goals try first | omega | exact ⟨by kernel_rfl⟩ | rfl | (show List.length _ = _; simp [tbs, Tb.cs, rws, Rw.cs]; done)
   refine ALoop.of [] (fun k => k==0||k==2||k==3||k==4||k==5||k==15||k==37) (ι := { z : Nat × Int // z.1 ≤ b.rows.length ∧ smR b.rows (IntKind.i64.wrap (n + b.rows.length)) = smR (b.rows.drop z.1) z.2 })
    (fun z => [(Pl.s 0, It.v (.d (.sl (tbs l)))), (Pl.s 2, It.v (.d (.bool false))), (Pl.s 3, It.v (.d (.int .i64 z.1.2))), (Pl.s 4, It.v (.d (.int .i64 i))), (Pl.s 5, It.v (.d (.int .i64 z.1.1)))])
    (fun z => b.rows.length - z.1.1) ⟨(0, IntKind.i64.wrap (n + b.rows.length)), by omega, by simp⟩ ?_ ?_
   ·exact GS.to (by simp)
   rintro ⟨⟨k, m⟩, k1, k2⟩
   simp only at k1 k2
   by_cases hk : k < b.rows.length
   ·have hkz : (k : Int) < b.rows.length := by omega
    have hke : b.rows[k]? = some b.rows[k] := List.getElem?_eq_getElem hk
    have hxm : b.rows[k] ∈ b.rows := List.getElem_mem hk
    have hd2 : b.rows.drop k = b.rows[k] :: b.rows.drop (k + 1) := List.drop_eq_getElem_cons _
    obtain ⟨x, hx0⟩ : ∃ x, b.rows[k] = x := ⟨_, rfl⟩
    rw [hx0] at hke hxm hd2
    have hxl := hbx x hxm
    rw [hd2, smR] at k2
    have hg3 : (rws b.rows)[k]? = some [D.int .i64 x.id, ints x.nx] := by simp [rws, Rw.cs, hke]
    have hg5 : ∀ h : k < (rws b.rows).length, (rws b.rows)[k] = [D.int .i64 x.id, ints x.nx] := fun h => by simp [rws, Rw.cs, hx0]
    have lin : (x.nx.map fun n => [D.int .i64 n]).length = x.nx.length := by simp
    by_cases hm : m < 900
    ·rw [if_pos hm] at k2
     simp -dsimp [hk, hkz, hm, hg2, hg4, hg3, hg5, hi, hiz, rwsD_eq, lrw, ltb, ints, wrap_i64 (n := (k : Int) + 1) (by omega) (by omega)]
     and_intros
     all_goals try first | omega | exact ⟨by kernel_rfl⟩ | rfl | (show List.length _ = _; simp [tbs, Tb.cs, rws, Rw.cs]; done)
     exact ⟨⟨(k + 1, IntKind.i64.wrap (m + x.nx.length)), by omega, k2⟩, GS.to (by simp), by simp; omega⟩
    ·rw [if_neg hm] at k2
     have i3 : smT l l.length = smT (l.drop (i + 1)) m := by rw [i2, k2]
     simp -dsimp [hk, hkz, hm, hg2, hg4, hg3, hg5, hi, hiz, rwsD_eq, lrw, ltb, ints, wrap_i64 (n := (i : Int) + 1) (by omega) (by omega)]
     and_intros
     all_goals try first | omega | exact ⟨by kernel_rfl⟩ | rfl | (show List.length _ = _; simp [tbs, Tb.cs, rws, Rw.cs]; done)
     exact ⟨⟨(i + 1, m), by omega, i3⟩, GS.to (by simp), by simp; omega⟩
   ·have hkz : ¬ (k : Int) < b.rows.length := by omega
    obtain rfl : k = b.rows.length := by omega
    rw [List.drop_eq_nil_of_le (Nat.le_refl _), smR] at k2
    have i3 : smT l l.length = smT (l.drop (i + 1)) m := by rw [i2, k2]
    simp -dsimp [hkz, hg2, hg4, hi, hiz, rwsD_eq, lrw, ltb, wrap_i64 (n := (i : Int) + 1) (by omega) (by omega)]
    and_intros
    all_goals try first | omega | exact ⟨by kernel_rfl⟩ | rfl | (show List.length _ = _; simp [tbs, Tb.cs, rws, Rw.cs]; done)
    exact ⟨⟨(i + 1, m), by omega, i3⟩, GS.to (by simp), by simp; omega⟩
  ·rw [if_neg hn] at i2
   simp -dsimp [hi, hiz, hn, ltb]
   and_intros
   all_goals try first | omega | exact ⟨by kernel_rfl⟩ | rfl | (show List.length _ = _; simp [tbs, Tb.cs, rws, Rw.cs]; done)
   refine Fin.of ?_
   simp [i2]
 ·have hiz : ¬ (i : Int) < l.length := by omega
  obtain rfl : i = l.length := by omega
  rw [List.drop_eq_nil_of_le (Nat.le_refl _), smT] at i2
  simp -dsimp [hiz, ltb]
  and_intros
  all_goals try first | omega | exact ⟨by kernel_rfl⟩ | rfl | (show List.length _ = _; simp [tbs, Tb.cs, rws, Rw.cs]; done)
  refine Fin.of ?_
  simp [i2]
end Go.Proofs

namespace Go.Proofs.YtjgeggdefiejbaaGreatDoor
open Go Go.Tr
set_option maxRecDepth 100000
def laidT : List (String × DataW Unit) := [("math/bits.deBruijn64tab", Rows.laid_math_bits_deBruijn64tab)]
theorem gDeb : Tryz.prog.globalNamed "math/bits.deBruijn64tab" = some 0 := by kernel_rfl
theorem tDeb : (Tryz.prog.globals[0]?).map (·.type) = some 191 := by kernel_rfl
theorem uDeb : Tryz.prog.underlying 191 = some (.array 64 5) := by kernel_rfl
theorem uByte : Tryz.prog.underlying 5 = some (.int .u8) := by kernel_rfl
theorem cByte : Tryz.prog.cellsOf 5 = 1 := by kernel_rfl
theorem debData {H : Type} : (Rows.laid_math_bits_deBruijn64tab : DataW H) = .agg (deb.map fun n => .lit (.int .u8 n)) := rfl
theorem glob_of_laid {W : World} (h : laidMetH Tryz.prog laidT W) : GlobW W := by
 rw [MakeChecks.laidMetH_plain _ _ _ (by kernel_rfl)] at h
 obtain ⟨ps, ⟨g0, t0, cs0, f0, p0, q0, hg0, ht0, hv0, hd0, _⟩, _, _⟩ := h
 obtain rfl := Option.some.inj (gDeb.symm.trans hg0)
 obtain rfl := Option.some.inj (tDeb.symm.trans ht0)
 obtain ⟨xs, m1, rfl, hx1, hlen, hn, hel⟩ := DataW.trod_array uDeb hd0
 simp only [Prod.mk.injEq, debData, DataW.agg.injEq] at hx1
 have hcell : ∀ i : Nat, i < 64 → cs0[i]? = some (.int .u8 (deb.getD i 0)) := fun i hi => by
  have h1 := hel i hi
  rw [cByte, Nat.mul_one] at h1
  have h2 : xs[i]? = some xs[i] := List.getElem?_eq_getElem (by omega)
  rw [h2] at h1
  obtain ⟨n, e1, e2, _⟩ := DataW.trod_int uByte h1
  have h3 : (xs.map (·.1))[i]? = (deb.map fun n => (DataW.lit (Lit.int .u8 n) : DataW Unit))[i]? := by rw [← hx1.1]
  rw [List.getElem?_map, h2, Option.map_some, e2, List.getElem?_map] at h3
  have h4 : deb[i]? = some n := by
   cases hd : deb[i]? with
   | none => rw [hd] at h3; simp at h3
   | some k => rw [hd] at h3; simp at h3; rw [h3]
  have h5 : cs0.toList[i]? = some (.int .u8 n) := by
   have := congrArg (fun l => l[0]?) e1
   simp only [List.getElem?_take, List.getElem?_drop] at this
   simpa using this
  rw [List.getD_eq_getElem?_getD, h4, Option.getD_some]
  simpa using h5
 have hbl : 0 < W.heap.size := by
  have := World.var?_cell hg0 hv0 0
  rw [hcell 0 (by omega)] at this
  exact World.block_lt_of_cell? W ⟨0, 0, none⟩ this
 intro y hy
 simp only [globs, List.mem_singleton] at hy
 subst hy
 refine RepCells.of_get fun i x hx => ?_
 simp only [List.getElem?_map, Option.map_eq_some_iff] at hx
 obtain ⟨n, h1, rfl⟩ := hx
 have hi : i < 64 := (List.getElem?_eq_some_iff.1 h1).1
 refine ⟨hbl, .int .u8 n, ?_, by simp only [Rep]⟩
 have := World.var?_cell hg0 hv0 i
 rw [hcell i hi, List.getD_eq_getElem?_getD, h1, Option.getD_some] at this
 rw [Nat.zero_add]
 exact this
end Go.Proofs.YtjgeggdefiejbaaGreatDoor

namespace Go.Proofs
open Go Go.Tr
theorem has_int {ds : List D} (h : (Ty.int .i64).has ds) : ∃ n, ds = [.int .i64 n] := by
 simp only [Ty.has] at h
 obtain ⟨n, rfl, _⟩ := h
 exact ⟨n, rfl⟩
theorem has_rw {ds : List D} (h : (Ty.st [.int .i64, .sl (.int .i64)]).has ds) : ∃ x : Rw, ds = x.cs ∧ x.nx.length ≤ maxLen := by
 simp only [Ty.has, Ty.hass] at h
 obtain ⟨_, _, rfl, ⟨m, rfl, _⟩, d2, _, rfl, h2, rfl⟩ := h
 have h3 : (Ty.sl (.int .i64)).has d2 := by
  simp only [Ty.has]
  exact h2
 obtain ⟨l, hl, h4, _⟩ := has_ints h3
 subst hl
 exact ⟨⟨m, l⟩, by simp [Rw.cs, ints], h4⟩
theorem map_of {α : Type} (g : α → List D) (P : α → Prop) : ∀ {xs : List (List D)}, (∀ x ∈ xs, ∃ a, x = g a ∧ P a) → ∃ l : List α, xs = l.map g ∧ ∀ a ∈ l, P a
 | [], _ => ⟨[], rfl, by simp⟩
 | x :: xs, h => by
   obtain ⟨a, rfl, ha⟩ := h x (by simp)
   obtain ⟨l, e, hl⟩ := map_of g P (xs := xs) fun y hy => h y (List.mem_cons_of_mem _ hy)
   subst e
   exact ⟨a :: l, rfl, fun b hb => (List.mem_cons.1 hb).elim (fun e => e ▸ ha) (hl b)⟩
def tyT : Ty := .st [.int .i64, .int .i64, .int .i64, .sl (.st [.int .i64, .sl (.int .i64)])]
theorem has_tbl {ds : List D} (h : tyT.has ds) : ∃ b : Tb, ds = b.cs ∧ b.rows.length ≤ maxLen ∧ ∀ x ∈ b.rows, x.nx.length ≤ maxLen := by
 simp only [tyT, Ty.has.eq_5, Ty.hass, Ty.has.eq_1, Ty.has.eq_4] at h
 obtain ⟨_, _, rfl, ⟨r, rfl, _⟩, _, _, rfl, ⟨sd, rfl, _⟩, _, _, rfl, ⟨len, rfl, _⟩, _, _, rfl, ⟨xs, rfl, h1, h2⟩, rfl⟩ := h
 obtain ⟨l, rfl, h3⟩ := map_of Rw.cs (fun x => x.nx.length ≤ maxLen) fun x hx => has_rw (by
  simp only [Ty.has.eq_5, Ty.hass, Ty.has.eq_1, Ty.has.eq_4]
  exact h2 x hx)
 exact ⟨⟨r, sd, len, l⟩, by simp [Tb.cs, rwsD], by simpa using h1, h3⟩
theorem has_tbls {ds : List D} (h : (Ty.sl tyT).has ds) : ∃ l : List Tb, ds = [.sl (tbs l)] ∧ l.length ≤ maxLen ∧ ∀ b ∈ l, b.rows.length ≤ maxLen ∧ ∀ x ∈ b.rows, x.nx.length ≤ maxLen := by
 simp only [Ty.has.eq_4] at h
 obtain ⟨xs, rfl, h1, h2⟩ := h
 obtain ⟨l, rfl, hl⟩ := map_of Tb.cs (fun b => b.rows.length ≤ maxLen ∧ ∀ x ∈ b.rows, x.nx.length ≤ maxLen) fun x hx => has_tbl (h2 x hx)
 exact ⟨l, rfl, by simpa using h1, hl⟩
def tyP : Ty := .st [.int .i64, .int .i64, .int .i64, .int .i64, .int .i64, .int .i64, .int .i64, .int .i64, .int .u64, .str]
theorem has_pk {ds : List D} (h : tyP.has ds) : ∃ p : Pk, ds = p.cs := by
 simp only [tyP, Ty.has, Ty.hass] at h
 obtain ⟨_, _, rfl, ⟨a, rfl, _⟩, _, _, rfl, ⟨b, rfl, _⟩, _, _, rfl, ⟨c, rfl, _⟩, _, _, rfl, ⟨d, rfl, _⟩, _, _, rfl, ⟨e, rfl, _⟩, _, _, rfl, ⟨f, rfl, _⟩, _, _, rfl, ⟨g, rfl, _⟩, _, _, rfl, ⟨i, rfl, _⟩, _, _, rfl, ⟨n, rfl, hw⟩, _, _, rfl, ⟨s, rfl, _⟩, rfl⟩ := h
 obtain ⟨B, rfl⟩ := wf_u64 hw
 exact ⟨⟨a, b, c, d, e, f, g, i, B, s⟩, by simp [Pk.cs, bv]⟩
theorem good_of {l : List Tb} (h : smallV l = true) (hb : ∀ b ∈ l, b.rows.length ≤ 9223372036854775807 ∧ ∀ x ∈ b.rows, x.nx.length ≤ 9223372036854775807) : Good l := by
 have hn : l.length ≤ 1000 := by
  by_cases g : (l.length : Int) < 900
  ·omega
  ·have h1 : smT l l.length ≤ 600 := of_decide_eq_true h
   rw [smT_ge g] at h1
   omega
 by_cases hS : SmL l
 ·exact .inl hS
 ·refine .inr ⟨⟨hn, fun b hm => ⟨(hb b hm).1, (hb b hm).2⟩⟩, fun hA => hS ⟨hn, fun b hm => ?_⟩⟩
  obtain ⟨_, p2, p3, _⟩ := chk_parts (chkA_all hA b hm)
  exact ⟨by omega, fun x hx => by have := p3 x hx; omega⟩
theorem sendP_len4 (l : List Tb) (p : Pk) (r : Int) : ∀ x ∈ (sendP l p r).1, x.length = 4 := by
 unfold sendP
 split
 ·simp
 ·split
  ·simp
  ·split
   ·intro x hx
    obtain ⟨k, _, rfl⟩ := List.mem_map.1 hx
    exact ansE_len _ _
   ·simp
theorem sendP_le (l : List Tb) (p : Pk) (r : Int) : (sendP l p r).1.length ≤ 64 := by
 unfold sendP
 split
 ·simp
 ·split
  ·simp
  ·split
   ·show ((bitsL p.bits).map _).length ≤ 64
    rw [List.length_map]; exact bitsL_len _
   ·simp
theorem ansT_agg (b : Bool) (e : Bool × Int × Nat) (id : Int) : ∃ a0 a1 a2 a3 : Int, ansT b e id = .agg [.d (.int .i64 a0), .d (.int .i64 a1), .d (.int .i64 a2), .d (.int .i64 a3)] := by
 unfold ansT
 split
 ·exact ⟨_, _, _, _, rfl⟩
 ·exact ⟨_, _, _, _, rfl⟩
theorem rtP_le (l : List Tb) (r id en : Int) : (rtP l r id en).1.length ≤ 63 := by
 unfold rtP
 split
 ·simp
 ·show (rtR l r id en).length ≤ 63
  unfold rtR
  split
  ·simp
  ·have := rtL_len l r id (en % 8) 63 1 r []
   simpa using this
set_option maxHeartbeats 32000000
theorem panswers_law (L : List Int) (hL : ∀ x ∈ L, I64 x) (raw : List Tb) (hr1 : raw.length ≤ 9223372036854775807) (hr2 : ∀ b ∈ raw, b.rows.length ≤ 9223372036854775807 ∧ ∀ x ∈ b.rows, x.nx.length ≤ 9223372036854775807) (p : Pk) (r id en tt : Int) :
  Contract Tryz.prog 5 [.d (ints L), .d (.sl (tbs raw)), pkT p, .d (.int .i64 r), .d (.int .i64 id), .d (.int .i64 en), .d (.int .i64 tt)] [] (.d (.bool true)) [] [] := by
 have hsm := small_c raw hr1 hr2
 refine contract_of Tryz.func5 rfl (fun E0 => ?_)
 refine awp.sound (g := .mk) (ow := []) (kp := (fun k => k==0||k==1||k==2||k==3||k==4||k==5||k==6||k==9||k==14||k==15||k==16||k==17||k==18||k==19||k==21||k==22||k==23||k==25||k==27||k==28||k==29||k==30||k==31||k==32||k==34||k==35||k==36||k==37||k==38||k==39||k==40||k==41||k==42||k==43||k==44||k==45||k==46||k==47||k==48||k==49||k==50||k==53||k==76||k==77||k==78||k==79||k==99||k==122||k==123||k==124||k==125||k==129||k==137||k==150||k==151||k==152||k==153||k==178||k==260)) ?_
 rw [Tryz.ntmps5]
 simp -dsimp [ints, pkT, Pk.cs, bv]
 and_intros
 all_goals try first | omega | exact ⟨by kernel_rfl⟩ | rfl | (show _ ≤ List.length _; simp [Pk.cs]; done) | (show List.length _ = _; simp [Pk.cs]; done)
 refine ACall.of hsm [] 0 ?_
 rcases (Bool.eq_false_or_eq_true (smallV raw)).symm with hS | hS
 ·simp -dsimp [hS]
  and_intros
  all_goals try first | omega | exact ⟨by kernel_rfl⟩ | rfl | (show _ ≤ List.length _; simp [Pk.cs]; done) | (show List.length _ = _; simp [Pk.cs]; done)
  refine ACall.of awake35_c [] 0 ?_
  simp -dsimp
  and_intros
  all_goals try first | omega | exact ⟨by kernel_rfl⟩ | rfl | (show _ ≤ List.length _; simp [Pk.cs]; done) | (show List.length _ = _; simp [Pk.cs]; done)
  refine Fin.of ?_
  simp
 have hGr := good_of hS hr2
 simp -dsimp [hS]
 and_intros
 all_goals try first | omega | exact ⟨by kernel_rfl⟩ | rfl | (show _ ≤ List.length _; simp [Pk.cs]; done) | (show List.length _ = _; simp [Pk.cs]; done)
 refine ACall.of (newF_c L) [] 3000 ?_
 have kT : TapeF (L.take 2000, 0) := tape_newF L hL
 generalize (L.take 2000, 0) = T0 at kT ⊢
 have hc := tables_c T0 kT
 have hV := gTabs_v T0
 have kG : TapeF (gTabs T0).2.2.2 := by simpa using kT
 generalize gTabs T0 = G at hc hV kG
 obtain ⟨g, q, l, T1⟩ := G
 simp only [topT, planT] at hc hV kG
 have hGl : Good l := .inl hV.sm
 have hqe := hV.es
 have hgn := hV.n
 simp -dsimp
 and_intros
 all_goals try first | omega | exact ⟨by kernel_rfl⟩ | rfl | (show _ ≤ List.length _; simp [Pk.cs]; done) | (show List.length _ = _; simp [Pk.cs]; done)
 refine ACall.of hc [.o 3009] 0 ?_
 have c1 := pickF_c T1 kG [63, 9, 2, 1, 0] (by simp) (by simp)
 have k1 : TapeF (gPick T1 [63, 9, 2, 1, 0]).2 := by simpa using kG
 generalize gPick T1 [63, 9, 2, 1, 0] = P1 at c1 k1
 obtain ⟨tl, T2⟩ := P1
 simp only at c1 k1
 have c2 := nextF_c T2 k1 1024 ⟨by omega, by omega⟩
 have k2 : TapeF (gNext T2 1024).2 := by simpa using k1
 generalize gNext T2 1024 = P2 at c2 k2
 obtain ⟨es, T3⟩ := P2
 simp only at c2 k2
 have c3 := nextF_c T3 k2 3 ⟨by omega, by omega⟩
 have k3 : TapeF (gNext T3 3).2 := by simpa using k2
 generalize gNext T3 3 = P3 at c3 k3
 obtain ⟨st, T4⟩ := P3
 simp only [ints, List.map] at c1 c2 c3 k3
 simp -dsimp
 and_intros
 all_goals try first | omega | exact ⟨by kernel_rfl⟩ | rfl | (show _ ≤ List.length _; simp [Pk.cs]; done) | (show List.length _ = _; simp [Pk.cs]; done)
 refine ACall.of c1 [.o 3009] 0 ?_
 simp -dsimp
 and_intros
 all_goals try first | omega | exact ⟨by kernel_rfl⟩ | rfl | (show _ ≤ List.length _; simp [Pk.cs]; done) | (show List.length _ = _; simp [Pk.cs]; done)
 refine ACall.of c2 [.o 3009] 0 ?_
 simp -dsimp
 and_intros
 all_goals try first | omega | exact ⟨by kernel_rfl⟩ | rfl | (show _ ≤ List.length _; simp [Pk.cs]; done) | (show List.length _ = _; simp [Pk.cs]; done)
 refine ACall.of c3 [.o 3009] 0 ?_
 simp -dsimp
 and_intros
 all_goals try first | omega | exact ⟨by kernel_rfl⟩ | rfl | (show _ ≤ List.length _; simp [Pk.cs]; done) | (show List.length _ = _; simp [Pk.cs]; done)
 refine ALoop.of [] (fun k => k==0||k==1||k==2||k==3||k==4||k==5||k==6||k==9||k==14||k==15||k==16||k==17||k==18||k==19||k==21||k==22||k==23||k==25||k==27||k==28||k==29||k==30||k==31||k==32||k==34||k==35||k==36||k==37||k==38||k==39||k==40||k==41||k==42||k==43||k==44||k==45||k==46||k==47||k==48||k==49||k==50||k==53||k==76||k==77||k==78||k==79||k==99||k==122||k==123||k==124||k==125||k==129||k==137||k==150||k==151||k==152||k==153||k==178||k==260) (ι := { z : Nat × Tp × BitVec 64 // z.1 ≤ q.es.length ∧ TapeF z.2.1 })
  (fun z => [(Pl.s 1, It.v (.d (.sl (tbs raw)))), (Pl.s 3, It.v (.d (.int .i64 r))), (Pl.s 4, It.v (.d (.int .i64 id))), (Pl.s 5, It.v (.d (.int .i64 en))), (Pl.s 6, It.v (.d (.int .i64 tt))), (Pl.o 9, It.box (p.cs.map .d)), (Pl.s 9, It.v (.ptr (Pl.o 9) 0)), (Pl.s 15, It.v (.ptr (Pl.o 3009) 0)), (Pl.o 16, It.box [TV.d (.sl (rts g.rs)), TV.d (.sl (lks g.ls))]), (Pl.s 16, It.v (.ptr (Pl.o 16) 0)), (Pl.o 17, It.box [TV.d (.int .i64 q.subd), TV.d (.int .i64 q.len), TV.d (.sl (eds q.es))]), (Pl.s 17, It.v (.ptr (Pl.o 17) 0)), (Pl.s 18, It.v (.d (.sl (tbs l)))), (Pl.o 3009, tapeI z.1.2.1), (Pl.o 19, It.box ((Pk.mk 3 q.subd st q.len tl es 0 0 z.1.2.2 ByteArray.empty).cs.map .d)), (Pl.s 19, It.v (.ptr (Pl.o 19) 0)), (Pl.s 76, It.v (.d (.sl (eds q.es)))), (Pl.s 77, It.v (.d (.int .i64 q.es.length))), (Pl.s 78, It.v (.d (.int .i64 z.1.1)))])
  (fun z => q.es.length - z.1.1) ⟨(0, T4, 0#64), by omega, k3⟩ ?_ ?_
 ·refine GS.to ?_
  simp [Pk.cs, bv, eds]
  rfl
 rintro ⟨⟨m, T5, B⟩, m1, m2⟩
 simp only at m1 m2
 by_cases hm : m < q.es.length
 ·have hmz : (m : Int) < q.es.length := by omega
  have hme : q.es[m]? = some q.es[m] := List.getElem?_eq_getElem hm
  obtain ⟨e, he0⟩ : ∃ e, q.es[m] = e := ⟨_, rfl⟩
  rw [he0] at hme
  have hpl := place10_c e.id q.len
  have hpb := plB e.id q.len
  simp only [placeT] at hpl
  have c4 := nextF_c T5 m2 3 ⟨by omega, by omega⟩
  have k4 : TapeF (gNext T5 3).2 := by simpa using m2
  generalize gNext T5 3 = P4 at c4 k4
  obtain ⟨v, T6⟩ := P4
  simp only at c4 k4
  simp -dsimp [hm, hmz, hme, he0, eds, Ed.cs, Pk.cs, bv]
  and_intros
  all_goals try first | omega | exact ⟨by kernel_rfl⟩ | rfl | (show _ ≤ List.length _; simp [Pk.cs]; done) | (show List.length _ = _; simp [Pk.cs]; done)
  refine ACall.of hpl [] 0 ?_
  by_cases hs1 : plSet e.id q.len = st
  ·simp -dsimp [hs1]
   and_intros
   all_goals try first | omega | exact ⟨by kernel_rfl⟩ | rfl | (show _ ≤ List.length _; simp [Pk.cs]; done) | (show List.length _ = _; simp [Pk.cs]; done)
   refine ACall.of c4 [.o 3009] 0 ?_
   by_cases hv0 : 0 < v
   ·simp -dsimp [hv0, wrap_u64 (n := plBit e.id q.len) (by omega) (by omega), wrap_i64 (n := (m : Int) + 1) (by omega) (by omega)]
    and_intros
    all_goals try first | omega | exact ⟨by kernel_rfl⟩ | rfl | (show _ ≤ List.length _; simp [Pk.cs]; done) | (show List.length _ = _; simp [Pk.cs]; done)
    exact ⟨⟨(m + 1, T6, B ||| (1#64 <<< (plBit e.id q.len).toNat)), by omega, k4⟩, GS.to (by simp [Pk.cs, bv, eds]), by simp; omega⟩
   ·simp -dsimp [hv0, wrap_i64 (n := (m : Int) + 1) (by omega) (by omega)]
    and_intros
    all_goals try first | omega | exact ⟨by kernel_rfl⟩ | rfl | (show _ ≤ List.length _; simp [Pk.cs]; done) | (show List.length _ = _; simp [Pk.cs]; done)
    exact ⟨⟨(m + 1, T6, B), by omega, k4⟩, GS.to (by simp [Pk.cs, bv, eds]), by simp; omega⟩
  ·simp -dsimp [hs1, wrap_i64 (n := (m : Int) + 1) (by omega) (by omega)]
   and_intros
   all_goals try first | omega | exact ⟨by kernel_rfl⟩ | rfl | (show _ ≤ List.length _; simp [Pk.cs]; done) | (show List.length _ = _; simp [Pk.cs]; done)
   exact ⟨⟨(m + 1, T5, B), by omega, m2⟩, GS.to (by simp [Pk.cs, bv, eds]), by simp; omega⟩
 have hmz : ¬ (m : Int) < q.es.length := by omega
 have c5 := rangeF_c T5 m2 0 3 ⟨by omega, by omega⟩ ⟨by omega, by omega⟩ ⟨by omega, by omega⟩ ⟨by have := gRange_lo T5 0 3; omega, by have := gRange_hi T5 (a := 0) (b := 3) (by omega); omega⟩
 have k5 : TapeF (gRange T5 0 3).2 := by simpa using m2
 generalize gRange T5 0 3 = P5 at c5 k5
 obtain ⟨md, T7⟩ := P5
 simp only at c5 k5
 have c6 := nextF_c T7 k5 64 ⟨by omega, by omega⟩
 have k6 : TapeF (gNext T7 64).2 := by simpa using k5
 have w1 := gNext_nonneg T7 64
 have w2 := gNext_lt T7 (n := 64) (by omega)
 generalize gNext T7 64 = P6 at c6 k6 w1 w2
 obtain ⟨vb, T8⟩ := P6
 simp only at c6 k6 w1 w2
 simp -dsimp [hmz, Pk.cs, bv]
 and_intros
 all_goals try first | omega | exact ⟨by kernel_rfl⟩ | rfl | (show _ ≤ List.length _; simp [Pk.cs]; done) | (show List.length _ = _; simp [Pk.cs]; done)
 refine ACall.of c5 [.o 3009] 0 ?_
 simp -dsimp
 and_intros
 all_goals try first | omega | exact ⟨by kernel_rfl⟩ | rfl | (show _ ≤ List.length _; simp [Pk.cs]; done) | (show List.length _ = _; simp [Pk.cs]; done)
 refine ACall.of c6 [.o 3009] 0 ?_
 simp -dsimp [wrap_u64 (n := vb) (by omega) (by omega)]
 and_intros
 all_goals try first | omega | exact ⟨by kernel_rfl⟩ | rfl | (show _ ≤ List.length _; simp [Pk.cs]; done) | (show List.length _ = _; simp [Pk.cs]; done)
 obtain ⟨pa, hpa⟩ : ∃ pa : Pk, pa = ⟨3, q.subd, st, q.len, tl, es, 0, 0, B, ByteArray.empty⟩ := ⟨_, rfl⟩
 obtain ⟨po, hpo⟩ : ∃ po : Pk, po = ⟨md, q.subd, st, q.len, tl, es, 0, 0, B ^^^ (1#64 <<< vb.toNat), ByteArray.empty⟩ := ⟨_, rfl⟩
 refine ALoop.of [] (fun k => k==0||k==1||k==2||k==3||k==4||k==5||k==6||k==9||k==14||k==15||k==16||k==17||k==18||k==19||k==21||k==22||k==23||k==25||k==27||k==28||k==29||k==30||k==31||k==32||k==34||k==35||k==36||k==37||k==38||k==39||k==40||k==41||k==42||k==43||k==44||k==45||k==46||k==47||k==48||k==49||k==50||k==53||k==76||k==77||k==78||k==79||k==99||k==122||k==123||k==124||k==125||k==129||k==137||k==150||k==151||k==152||k==153||k==178||k==260) (ι := { z : Nat × Tp // z.1 ≤ 2 ∧ TapeF z.2 })
  (fun z => [(Pl.s 3, It.v (.d (.int .i64 r))), (Pl.s 4, It.v (.d (.int .i64 id))), (Pl.s 5, It.v (.d (.int .i64 en))), (Pl.s 6, It.v (.d (.int .i64 tt))), (Pl.o 9, It.box (p.cs.map .d)), (Pl.s 9, It.v (.ptr (Pl.o 9) 0)), (Pl.s 15, It.v (.ptr (Pl.o 3009) 0)), (Pl.o 16, It.box [TV.d (.sl (rts g.rs)), TV.d (.sl (lks g.ls))]), (Pl.s 16, It.v (.ptr (Pl.o 16) 0)), (Pl.o 19, It.box (pa.cs.map .d)), (Pl.s 19, It.v (.ptr (Pl.o 19) 0)), (Pl.o 25, It.box (po.cs.map .d)), (Pl.s 25, It.v (.ptr (Pl.o 25) 0)), (Pl.s 122, It.v (.d (.sl [[D.sl (tbs raw)], [D.sl (tbs l)]]))), (Pl.s 123, It.v (.d (.int .i64 2))), (Pl.o 3009, tapeI z.1.2), (Pl.s 124, It.v (.d (.int .i64 z.1.1)))]) (fun z => 2 - z.1.1) ⟨(0, T8), by omega, k6⟩ ?_ ?_
 ·exact GS.to (by simp [Pk.cs, bv, hpa, hpo])
 clear hpa hpo
 rintro ⟨⟨j, T9⟩, j1, j2⟩
 simp only at j1 j2
 by_cases hj : j < 2
 ·have hjz : (j : Int) < 2 := by omega
  obtain ⟨x, hx, hgx⟩ : ∃ x : List Tb, ([[D.sl (tbs raw)], [D.sl (tbs l)]] : List (List D))[j]? = some [D.sl (tbs x)] ∧ Good x := by
   rcases (show j = 0 ∨ j = 1 by omega) with e | e <;> subst e
   ·exact ⟨raw, rfl, hGr⟩
   ·exact ⟨l, rfl, hGl⟩
  have hx2 : ∀ h : j < ([[D.sl (tbs raw)], [D.sl (tbs l)]] : List (List D)).length, ([[D.sl (tbs raw)], [D.sl (tbs l)]] : List (List D))[j] = [D.sl (tbs x)] := fun h => by
   rw [List.getElem?_eq_getElem h] at hx; exact Option.some.inj hx
  generalize hXL : ([[D.sl (tbs raw)], [D.sl (tbs l)]] : List (List D)) = XL at hx hx2
  have hXLl : XL.length = 2 := by rw [← hXL]; rfl
  simp -dsimp [hjz, hj, hx, hx2, hXLl]
  and_intros
  all_goals try first | omega | exact ⟨by kernel_rfl⟩ | rfl | (show _ ≤ List.length _; simp [Pk.cs]; done) | (show List.length _ = _; simp [Pk.cs]; done)
  rw [← hXL]
  clear hx hx2 hXL hXLl
  refine ALoop.of [] (fun k => k==0||k==1||k==2||k==3||k==4||k==5||k==6||k==9||k==14||k==15||k==16||k==17||k==18||k==19||k==21||k==22||k==23||k==25||k==27||k==28||k==29||k==30||k==31||k==32||k==34||k==35||k==36||k==37||k==38||k==39||k==40||k==41||k==42||k==43||k==44||k==45||k==46||k==47||k==48||k==49||k==50||k==53||k==76||k==77||k==78||k==79||k==99||k==122||k==123||k==124||k==125||k==129||k==137||k==150||k==151||k==152||k==153||k==178||k==260) (ι := { z : Nat × Tp // z.1 ≤ 2 ∧ TapeF z.2 })
   (fun z => [(Pl.s 3, It.v (.d (.int .i64 r))), (Pl.s 4, It.v (.d (.int .i64 id))), (Pl.s 5, It.v (.d (.int .i64 en))), (Pl.s 6, It.v (.d (.int .i64 tt))), (Pl.o 9, It.box (p.cs.map .d)), (Pl.s 9, It.v (.ptr (Pl.o 9) 0)), (Pl.s 15, It.v (.ptr (Pl.o 3009) 0)), (Pl.o 16, It.box [TV.d (.sl (rts g.rs)), TV.d (.sl (lks g.ls))]), (Pl.s 16, It.v (.ptr (Pl.o 16) 0)), (Pl.o 19, It.box (pa.cs.map .d)), (Pl.s 19, It.v (.ptr (Pl.o 19) 0)), (Pl.o 25, It.box (po.cs.map .d)), (Pl.s 25, It.v (.ptr (Pl.o 25) 0)), (Pl.s 122, It.v (.d (.sl [[D.sl (tbs raw)], [D.sl (tbs l)]]))), (Pl.s 123, It.v (.d (.int .i64 2))), (Pl.s 124, It.v (.d (.int .i64 j))), (Pl.s 27, It.v (.d (.sl (tbs x)))), (Pl.o 3009, tapeI z.1.2), (Pl.s 28, It.v (.d (.int .i64 z.1.1)))]) (fun z => 2 - z.1.1) ⟨(0, T9), by omega, j2⟩ ?_ ?_
  ·exact GS.to (by simp [Pk.cs, bv])
  rintro ⟨⟨i, TA⟩, i1, i2⟩
  simp only at i1 i2
  by_cases hi : i < 2
  ·have hiz : (i : Int) < 2 := by omega
   by_cases hi1 : i = 1
   ·have hi1z : (i : Int) = 1 := by omega
    have d1 := routerN_c TA i2 g ⟨by omega, by omega⟩
    have e1 : TapeF (gRouterN g.rs TA).2 := by simpa using i2
    generalize gRouterN g.rs TA = Q1 at d1 e1
    obtain ⟨r', TB⟩ := Q1
    simp only [topT] at d1 e1
    have d2 := rangeF_c TB e1 0 12 ⟨by omega, by omega⟩ ⟨by omega, by omega⟩ ⟨by omega, by omega⟩ ⟨by have := gRange_lo TB 0 12; omega, by have := gRange_hi TB (a := 0) (b := 12) (by omega); omega⟩
    have e2 : TapeF (gRange TB 0 12).2 := by simpa using e1
    generalize gRange TB 0 12 = Q2 at d2 e2
    obtain ⟨n', TC⟩ := Q2
    simp only at d2 e2
    have d3 := nextF_c TC e2 1024 ⟨by omega, by omega⟩
    have e3 : TapeF (gNext TC 1024).2 := by simpa using e2
    generalize gNext TC 1024 = Q3 at d3 e3
    obtain ⟨en', TD⟩ := Q3
    simp only at d3 e3
    have d4 := nextF_c TD e3 8 ⟨by omega, by omega⟩
    have e4 : TapeF (gNext TD 8).2 := by simpa using e3
    generalize gNext TD 8 = Q4 at d4 e4
    obtain ⟨tt', TE⟩ := Q4
    simp only at d4 e4
    simp -dsimp [hi, hiz, hi1, hi1z]
    and_intros
    all_goals try first | omega | exact ⟨by kernel_rfl⟩ | rfl | (show _ ≤ List.length _; simp [Pk.cs]; done) | (show List.length _ = _; simp [Pk.cs]; done)
    refine ACall.of d1 [.o 3009] 0 ?_
    simp -dsimp
    and_intros
    all_goals try first | omega | exact ⟨by kernel_rfl⟩ | rfl | (show _ ≤ List.length _; simp [Pk.cs]; done) | (show List.length _ = _; simp [Pk.cs]; done)
    refine ACall.of d2 [.o 3009] 0 ?_
    simp -dsimp
    and_intros
    all_goals try first | omega | exact ⟨by kernel_rfl⟩ | rfl | (show _ ≤ List.length _; simp [Pk.cs]; done) | (show List.length _ = _; simp [Pk.cs]; done)
    refine ACall.of d3 [.o 3009] 0 ?_
    simp -dsimp
    and_intros
    all_goals try first | omega | exact ⟨by kernel_rfl⟩ | rfl | (show _ ≤ List.length _; simp [Pk.cs]; done) | (show List.length _ = _; simp [Pk.cs]; done)
    refine ACall.of d4 [.o 3009] 0 ?_
    simp -dsimp [Pk.cs, bv]
    and_intros
    all_goals try first | omega | exact ⟨by kernel_rfl⟩ | rfl | (show _ ≤ List.length _; simp [Pk.cs]; done) | (show List.length _ = _; simp [Pk.cs]; done)
    refine ALoop.of [] (fun k => k==0||k==1||k==2||k==3||k==4||k==5||k==6||k==9||k==14||k==15||k==16||k==17||k==18||k==19||k==21||k==22||k==23||k==25||k==27||k==28||k==29||k==30||k==31||k==32||k==34||k==35||k==36||k==37||k==38||k==39||k==40||k==41||k==42||k==43||k==44||k==45||k==46||k==47||k==48||k==49||k==50||k==53||k==76||k==77||k==78||k==79||k==99||k==122||k==123||k==124||k==125||k==129||k==137||k==150||k==151||k==152||k==153||k==178||k==260) (ι := { k : Nat // k ≤ 3 })
     (fun z => [(Pl.s 3, It.v (.d (.int .i64 r))), (Pl.s 4, It.v (.d (.int .i64 id))), (Pl.s 5, It.v (.d (.int .i64 en))), (Pl.s 6, It.v (.d (.int .i64 tt))), (Pl.o 9, It.box (p.cs.map .d)), (Pl.s 9, It.v (.ptr (Pl.o 9) 0)), (Pl.s 15, It.v (.ptr (Pl.o 3009) 0)), (Pl.o 16, It.box [TV.d (.sl (rts g.rs)), TV.d (.sl (lks g.ls))]), (Pl.s 16, It.v (.ptr (Pl.o 16) 0)), (Pl.o 19, It.box (pa.cs.map .d)), (Pl.s 19, It.v (.ptr (Pl.o 19) 0)), (Pl.o 25, It.box (po.cs.map .d)), (Pl.s 25, It.v (.ptr (Pl.o 25) 0)), (Pl.s 122, It.v (.d (.sl [[D.sl (tbs raw)], [D.sl (tbs l)]]))), (Pl.s 123, It.v (.d (.int .i64 2))), (Pl.s 124, It.v (.d (.int .i64 j))), (Pl.s 27, It.v (.d (.sl (tbs x)))), (Pl.s 28, It.v (.d (.int .i64 i))), (Pl.s 29, It.v (.d (.int .i64 r'))), (Pl.s 30, It.v (.d (.int .i64 n'))), (Pl.s 31, It.v (.d (.int .i64 en'))), (Pl.s 32, It.v (.d (.int .i64 tt'))), (Pl.o 3009, tapeI TE), (Pl.s 150, It.v (.d (.sl [p.cs, pa.cs, po.cs]))), (Pl.s 151, It.v (.d (.int .i64 3))), (Pl.s 152, It.v (.d (.int .i64 z.1)))]) (fun z => 3 - z.1) ⟨0, by omega⟩ ?_ ?_
    ·exact GS.to (by simp [Pk.cs, bv, hi1z])
    rintro ⟨k, k1⟩
    by_cases hk : k < 3
    ·have hkz : (k : Int) < 3 := by omega
     obtain ⟨y, hy⟩ : ∃ y : Pk, ([p.cs, pa.cs, po.cs] : List (List D))[k]? = some y.cs := by
      rcases (show k = 0 ∨ k = 1 ∨ k = 2 by omega) with e | e | e <;> subst e <;> exact ⟨_, rfl⟩
     have hy2 : ∀ h : k < ([p.cs, pa.cs, po.cs] : List (List D)).length, ([p.cs, pa.cs, po.cs] : List (List D))[k] = y.cs := fun h => by
      rw [List.getElem?_eq_getElem h] at hy; exact Option.some.inj hy
     have s1 := send_c x hgx y r'
     have s2 := send35_c x hgx y r'
     have s3 := same35_c (sendP x y r').1 (sendP x y r').1 (sendP_len4 x y r') (sendP_len4 x y r') (by have := sendP_le x y r'; omega)
     simp only [decide_true] at s3
     generalize sendP x y r' = W at s1 s2 s3
     generalize hPL : ([p.cs, pa.cs, po.cs] : List (List D)) = PL at hy hy2
     have hPLl : PL.length = 3 := by rw [← hPL]; rfl
     simp only [pkT, Pk.cs, List.map, bv] at s1 s2
     simp only [Pk.cs, bv] at hy hy2
     simp -dsimp [hkz, hk, hy, hy2, hPLl]
     and_intros
     all_goals try first | omega | exact ⟨by kernel_rfl⟩ | rfl | (show _ ≤ List.length _; simp [Pk.cs]; done) | (show List.length _ = _; simp [Pk.cs]; done)
     refine ACall.of s1 [] 0 ?_
     simp -dsimp
     and_intros
     all_goals try first | omega | exact ⟨by kernel_rfl⟩ | rfl | (show _ ≤ List.length _; simp [Pk.cs]; done) | (show List.length _ = _; simp [Pk.cs]; done)
     refine ACall.of s2 [] 0 ?_
     simp -dsimp
     and_intros
     all_goals try first | omega | exact ⟨by kernel_rfl⟩ | rfl | (show _ ≤ List.length _; simp [Pk.cs]; done) | (show List.length _ = _; simp [Pk.cs]; done)
     refine ACall.of s3 [] 0 ?_
     simp -dsimp [wrap_i64 (n := (k : Int) + 1) (by omega) (by omega)]
     and_intros
     all_goals try first | omega | exact ⟨by kernel_rfl⟩ | rfl | (show _ ≤ List.length _; simp [Pk.cs]; done) | (show List.length _ = _; simp [Pk.cs]; done)
     exact ⟨⟨k + 1, by omega⟩, GS.to (by simp [Pk.cs, bv]), by simp; omega⟩
    have hkz : ¬ (k : Int) < 3 := by omega
    obtain rfl : k = 3 := by omega
    have o1 := probe1_c x hgx r' n' en' tt'
    have o2 := one35_c x hgx r' n' en' tt'
    obtain ⟨a0, a1, a2, a3, hag⟩ := ansT_agg (decide (oneB x r' n' en' tt' = 0)) (endE x n' (en' % 8) (tt').toNat r') n'
    rw [hag] at o1 o2
    generalize oneB x r' n' en' tt' = ob at o1 o2
    have o3 := pnext_c x hgx r' n' ((en').tmod 12)
    have o4 := next35_c x hgx r' n' ((en').tmod 12)
    generalize nxtP x r' n' ((en').tmod 12) = nb at o3 o4
    have o5 := proute_c x hgx r' n' en'
    have o6 := route35_c x hgx r' n' en'
    have o7 := intsF_c (rtP x r' n' en').1 (rtP x r' n' en').1 (by have := rtP_le x r' n' en'; omega)
    generalize rtP x r' n' en' = rb at o5 o6 o7
    simp only [decide_true, ints] at o5 o6 o7
    simp -dsimp [hkz]
    and_intros
    all_goals try first | omega | exact ⟨by kernel_rfl⟩ | rfl | (show _ ≤ List.length _; simp [Pk.cs]; done) | (show List.length _ = _; simp [Pk.cs]; done)
    refine ACall.of o1 [] 0 ?_
    simp -dsimp
    and_intros
    all_goals try first | omega | exact ⟨by kernel_rfl⟩ | rfl | (show _ ≤ List.length _; simp [Pk.cs]; done) | (show List.length _ = _; simp [Pk.cs]; done)
    refine ACall.of o2 [] 0 ?_
    simp -dsimp
    and_intros
    all_goals try first | omega | exact ⟨by kernel_rfl⟩ | rfl | (show _ ≤ List.length _; simp [Pk.cs]; done) | (show List.length _ = _; simp [Pk.cs]; done)
    refine ACall.of o3 [] 0 ?_
    simp -dsimp
    and_intros
    all_goals try first | omega | exact ⟨by kernel_rfl⟩ | rfl | (show _ ≤ List.length _; simp [Pk.cs]; done) | (show List.length _ = _; simp [Pk.cs]; done)
    refine ACall.of o4 [] 0 ?_
    simp -dsimp
    and_intros
    all_goals try first | omega | exact ⟨by kernel_rfl⟩ | rfl | (show _ ≤ List.length _; simp [Pk.cs]; done) | (show List.length _ = _; simp [Pk.cs]; done)
    refine ACall.of o5 [] 0 ?_
    simp -dsimp
    and_intros
    all_goals try first | omega | exact ⟨by kernel_rfl⟩ | rfl | (show _ ≤ List.length _; simp [Pk.cs]; done) | (show List.length _ = _; simp [Pk.cs]; done)
    refine ACall.of o6 [] 0 ?_
    simp -dsimp
    and_intros
    all_goals try first | omega | exact ⟨by kernel_rfl⟩ | rfl | (show _ ≤ List.length _; simp [Pk.cs]; done) | (show List.length _ = _; simp [Pk.cs]; done)
    refine ACall.of o7 [] 0 ?_
    simp -dsimp [wrap_i64 (n := (i : Int) + 1) (by omega) (by omega)]
    and_intros
    all_goals try first | omega | exact ⟨by kernel_rfl⟩ | rfl | (show _ ≤ List.length _; simp [Pk.cs]; done) | (show List.length _ = _; simp [Pk.cs]; done)
    exact ⟨⟨(i + 1, TE), by omega, e4⟩, GS.to (by simp [Pk.cs, bv]), by simp; omega⟩
   ·have hi1z : ¬ (i : Int) = 1 := by omega
    simp -dsimp [hi, hiz, hi1, hi1z, Pk.cs, bv]
    and_intros
    all_goals try first | omega | exact ⟨by kernel_rfl⟩ | rfl | (show _ ≤ List.length _; simp [Pk.cs]; done) | (show List.length _ = _; simp [Pk.cs]; done)
    refine ALoop.of [] (fun k => k==0||k==1||k==2||k==3||k==4||k==5||k==6||k==9||k==14||k==15||k==16||k==17||k==18||k==19||k==21||k==22||k==23||k==25||k==27||k==28||k==29||k==30||k==31||k==32||k==34||k==35||k==36||k==37||k==38||k==39||k==40||k==41||k==42||k==43||k==44||k==45||k==46||k==47||k==48||k==49||k==50||k==53||k==76||k==77||k==78||k==79||k==99||k==122||k==123||k==124||k==125||k==129||k==137||k==150||k==151||k==152||k==153||k==178||k==260) (ι := { k : Nat // k ≤ 3 })
     (fun z => [(Pl.s 3, It.v (.d (.int .i64 r))), (Pl.s 4, It.v (.d (.int .i64 id))), (Pl.s 5, It.v (.d (.int .i64 en))), (Pl.s 6, It.v (.d (.int .i64 tt))), (Pl.o 9, It.box (p.cs.map .d)), (Pl.s 9, It.v (.ptr (Pl.o 9) 0)), (Pl.s 15, It.v (.ptr (Pl.o 3009) 0)), (Pl.o 16, It.box [TV.d (.sl (rts g.rs)), TV.d (.sl (lks g.ls))]), (Pl.s 16, It.v (.ptr (Pl.o 16) 0)), (Pl.o 19, It.box (pa.cs.map .d)), (Pl.s 19, It.v (.ptr (Pl.o 19) 0)), (Pl.o 25, It.box (po.cs.map .d)), (Pl.s 25, It.v (.ptr (Pl.o 25) 0)), (Pl.s 122, It.v (.d (.sl [[D.sl (tbs raw)], [D.sl (tbs l)]]))), (Pl.s 123, It.v (.d (.int .i64 2))), (Pl.s 124, It.v (.d (.int .i64 j))), (Pl.s 27, It.v (.d (.sl (tbs x)))), (Pl.s 28, It.v (.d (.int .i64 i))), (Pl.s 29, It.v (.d (.int .i64 r))), (Pl.s 30, It.v (.d (.int .i64 id))), (Pl.s 31, It.v (.d (.int .i64 en))), (Pl.s 32, It.v (.d (.int .i64 tt))), (Pl.o 3009, tapeI TA), (Pl.s 150, It.v (.d (.sl [p.cs, pa.cs, po.cs]))), (Pl.s 151, It.v (.d (.int .i64 3))), (Pl.s 152, It.v (.d (.int .i64 z.1)))]) (fun z => 3 - z.1) ⟨0, by omega⟩ ?_ ?_
    ·exact GS.to (by simp [Pk.cs, bv, hi1z])
    rintro ⟨k, k1⟩
    by_cases hk : k < 3
    ·have hkz : (k : Int) < 3 := by omega
     obtain ⟨y, hy⟩ : ∃ y : Pk, ([p.cs, pa.cs, po.cs] : List (List D))[k]? = some y.cs := by
      rcases (show k = 0 ∨ k = 1 ∨ k = 2 by omega) with e | e | e <;> subst e <;> exact ⟨_, rfl⟩
     have hy2 : ∀ h : k < ([p.cs, pa.cs, po.cs] : List (List D)).length, ([p.cs, pa.cs, po.cs] : List (List D))[k] = y.cs := fun h => by
      rw [List.getElem?_eq_getElem h] at hy; exact Option.some.inj hy
     have s1 := send_c x hgx y r
     have s2 := send35_c x hgx y r
     have s3 := same35_c (sendP x y r).1 (sendP x y r).1 (sendP_len4 x y r) (sendP_len4 x y r) (by have := sendP_le x y r; omega)
     simp only [decide_true] at s3
     generalize sendP x y r = W at s1 s2 s3
     generalize hPL : ([p.cs, pa.cs, po.cs] : List (List D)) = PL at hy hy2
     have hPLl : PL.length = 3 := by rw [← hPL]; rfl
     simp only [pkT, Pk.cs, List.map, bv] at s1 s2
     simp only [Pk.cs, bv] at hy hy2
     simp -dsimp [hkz, hk, hy, hy2, hPLl]
     and_intros
     all_goals try first | omega | exact ⟨by kernel_rfl⟩ | rfl | (show _ ≤ List.length _; simp [Pk.cs]; done) | (show List.length _ = _; simp [Pk.cs]; done)
     refine ACall.of s1 [] 0 ?_
     simp -dsimp
     and_intros
     all_goals try first | omega | exact ⟨by kernel_rfl⟩ | rfl | (show _ ≤ List.length _; simp [Pk.cs]; done) | (show List.length _ = _; simp [Pk.cs]; done)
     refine ACall.of s2 [] 0 ?_
     simp -dsimp
     and_intros
     all_goals try first | omega | exact ⟨by kernel_rfl⟩ | rfl | (show _ ≤ List.length _; simp [Pk.cs]; done) | (show List.length _ = _; simp [Pk.cs]; done)
     refine ACall.of s3 [] 0 ?_
     simp -dsimp [wrap_i64 (n := (k : Int) + 1) (by omega) (by omega)]
     and_intros
     all_goals try first | omega | exact ⟨by kernel_rfl⟩ | rfl | (show _ ≤ List.length _; simp [Pk.cs]; done) | (show List.length _ = _; simp [Pk.cs]; done)
     exact ⟨⟨k + 1, by omega⟩, GS.to (by simp [Pk.cs, bv]), by simp; omega⟩
    have hkz : ¬ (k : Int) < 3 := by omega
    obtain rfl : k = 3 := by omega
    have o1 := probe1_c x hgx r id en tt
    have o2 := one35_c x hgx r id en tt
    obtain ⟨a0, a1, a2, a3, hag⟩ := ansT_agg (decide (oneB x r id en tt = 0)) (endE x id (en % 8) (tt).toNat r) id
    rw [hag] at o1 o2
    generalize oneB x r id en tt = ob at o1 o2
    have o3 := pnext_c x hgx r id ((en).tmod 12)
    have o4 := next35_c x hgx r id ((en).tmod 12)
    generalize nxtP x r id ((en).tmod 12) = nb at o3 o4
    have o5 := proute_c x hgx r id en
    have o6 := route35_c x hgx r id en
    have o7 := intsF_c (rtP x r id en).1 (rtP x r id en).1 (by have := rtP_le x r id en; omega)
    generalize rtP x r id en = rb at o5 o6 o7
    simp only [decide_true, ints] at o5 o6 o7
    simp -dsimp [hkz]
    and_intros
    all_goals try first | omega | exact ⟨by kernel_rfl⟩ | rfl | (show _ ≤ List.length _; simp [Pk.cs]; done) | (show List.length _ = _; simp [Pk.cs]; done)
    refine ACall.of o1 [] 0 ?_
    simp -dsimp
    and_intros
    all_goals try first | omega | exact ⟨by kernel_rfl⟩ | rfl | (show _ ≤ List.length _; simp [Pk.cs]; done) | (show List.length _ = _; simp [Pk.cs]; done)
    refine ACall.of o2 [] 0 ?_
    simp -dsimp
    and_intros
    all_goals try first | omega | exact ⟨by kernel_rfl⟩ | rfl | (show _ ≤ List.length _; simp [Pk.cs]; done) | (show List.length _ = _; simp [Pk.cs]; done)
    refine ACall.of o3 [] 0 ?_
    simp -dsimp
    and_intros
    all_goals try first | omega | exact ⟨by kernel_rfl⟩ | rfl | (show _ ≤ List.length _; simp [Pk.cs]; done) | (show List.length _ = _; simp [Pk.cs]; done)
    refine ACall.of o4 [] 0 ?_
    simp -dsimp
    and_intros
    all_goals try first | omega | exact ⟨by kernel_rfl⟩ | rfl | (show _ ≤ List.length _; simp [Pk.cs]; done) | (show List.length _ = _; simp [Pk.cs]; done)
    refine ACall.of o5 [] 0 ?_
    simp -dsimp
    and_intros
    all_goals try first | omega | exact ⟨by kernel_rfl⟩ | rfl | (show _ ≤ List.length _; simp [Pk.cs]; done) | (show List.length _ = _; simp [Pk.cs]; done)
    refine ACall.of o6 [] 0 ?_
    simp -dsimp
    and_intros
    all_goals try first | omega | exact ⟨by kernel_rfl⟩ | rfl | (show _ ≤ List.length _; simp [Pk.cs]; done) | (show List.length _ = _; simp [Pk.cs]; done)
    refine ACall.of o7 [] 0 ?_
    simp -dsimp [wrap_i64 (n := (i : Int) + 1) (by omega) (by omega)]
    and_intros
    all_goals try first | omega | exact ⟨by kernel_rfl⟩ | rfl | (show _ ≤ List.length _; simp [Pk.cs]; done) | (show List.length _ = _; simp [Pk.cs]; done)
    exact ⟨⟨(i + 1, TA), by omega, i2⟩, GS.to (by simp [Pk.cs, bv]), by simp; omega⟩
  have hiz : ¬ (i : Int) < 2 := by omega
  simp -dsimp [hiz, wrap_i64 (n := (j : Int) + 1) (by omega) (by omega)]
  and_intros
  all_goals try first | omega | exact ⟨by kernel_rfl⟩ | rfl | (show _ ≤ List.length _; simp [Pk.cs]; done) | (show List.length _ = _; simp [Pk.cs]; done)
  exact ⟨⟨(j + 1, TA), by omega, i2⟩, GS.to (by simp [Pk.cs, bv]), by simp; omega⟩
 have hjz : ¬ (j : Int) < 2 := by omega
 simp -dsimp [hjz]
 and_intros
 all_goals try first | omega | exact ⟨by kernel_rfl⟩ | rfl | (show _ ≤ List.length _; simp [Pk.cs]; done) | (show List.length _ = _; simp [Pk.cs]; done)
 refine ACall.of awake35_c [] 0 ?_
 simp -dsimp
 and_intros
 all_goals try first | omega | exact ⟨by kernel_rfl⟩ | rfl | (show _ ≤ List.length _; simp [Pk.cs]; done) | (show List.length _ = _; simp [Pk.cs]; done)
 refine Fin.of ?_
 simp
end Go.Proofs

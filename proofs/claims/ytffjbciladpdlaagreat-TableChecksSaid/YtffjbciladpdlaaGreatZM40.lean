/-
  What functions of the program compute, stated as contracts over plain data; the conditions of each stand in its own statement.
-/
import Derived.Test.YtffjbciladpdlaaGreatZM34
import Derived.Test.YtffjbciladpdlaaGreatZM35
import Derived.Test.YtffjbciladpdlaaGreatZM13
import Derived.Test.YtffjbciladpdlaaGreatZM18
set_option linter.unusedSimpArgs false
set_option linter.unusedVariables false
set_option maxRecDepth 100000
set_option maxHeartbeats 16000000
namespace Go.Proofs
open Go Go.Tr
theorem equalI_c (a b : List Int) (hl : a.length ≤ 1000000) : Contract Tryz.prog 89 [.d (ints a), .d (ints b)] [] (.d (.bool (decide (a = b)))) [] [] := by
 refine contract_of Tryz.func89 rfl (fun E0 => ?_)
 refine awp.sound (g := .mk) (ow := []) (kp := (fun k => k==0||k==1||k==4||k==5||k==10||k==12||k==13||k==14||k==24)) ?_
 rw [Tryz.ntmps89]
 by_cases hlen : a.length = b.length
 ·simp -dsimp [ints, hlen]
  refine ALoop.of [] (fun k => k==0||k==1||k==4||k==5||k==10||k==12||k==13||k==14||k==24) (ι := { i : Nat // i ≤ b.length ∧ ∀ j, j < i → a[j]? = b[j]? }) (fun z => [(Pl.s 0, It.v (.d (ints a))), (Pl.s 1, It.v (.d (ints b))), (Pl.s 4, It.v (.d (.bool false))), (Pl.s 10, It.v (.d (.bool false))),
   (Pl.s 12, It.v (.d (.int .i64 b.length))), (Pl.s 13, It.v (.d (.int .i64 z.1)))]) (fun z => b.length - z.1) ⟨0, by omega, fun j h => by omega⟩ ?_ ?_
  ·exact GS.to (by simp [ints])
  ·rintro ⟨i, i1, i2⟩
   by_cases hi' : i < b.length
   ·have hi : i < a.length := by omega
    by_cases h : a[i] = b[i]
    ·simp -dsimp [ints, hi, hi', h, wrap_i64 (n := (i : Int) + 1) (by omega) (by omega)]
     try refine ⟨?_, ⟨by kernel_rfl⟩⟩
     exact ⟨⟨i + 1, by omega, fun j hj => by
      by_cases e : j = i
      ·subst e; rw [List.getElem?_eq_getElem hi, List.getElem?_eq_getElem hi', h]
      ·exact i2 j (by omega)⟩, GS.to (by simp [ints]), by simp; omega⟩
    ·simp -dsimp [ints, hi, hi', h, wrap_i64 (n := (i : Int) + 1) (by omega) (by omega)]
     try refine ⟨?_, ⟨by kernel_rfl⟩⟩
     refine Fin.of ?_
     have : a ≠ b := fun e => by subst e; exact h rfl
     simp [this]
   ·simp -dsimp [ints, hi']
    refine Fin.of ?_
    have : a = b := List.ext_getElem? fun j => by
     by_cases hj : j < i
     ·exact i2 j hj
     ·rw [List.getElem?_eq_none (by omega), List.getElem?_eq_none (by omega)]
    simp [this]
 ·have hlen' : ¬ (a.length : Int) = b.length := by omega
  simp -dsimp [ints, hlen, hlen']
  refine Fin.of ?_
  have : a ≠ b := fun e => hlen (by rw [e])
  simp [this]
theorem has_int {ds : List D} (h : (Ty.int .i64).has ds) : ∃ n, ds = [.int .i64 n] := by
 simp only [Ty.has] at h
 obtain ⟨n, rfl, _⟩ := h
 exact ⟨n, rfl⟩
theorem map_of {α : Type} (g : α → List D) (P : α → Prop) : ∀ {xs : List (List D)}, (∀ x ∈ xs, ∃ a, x = g a ∧ P a) → ∃ l : List α, xs = l.map g ∧ ∀ a ∈ l, P a
 | [], _ => ⟨[], rfl, by simp⟩
 | x :: xs, h => by
   obtain ⟨a, rfl, ha⟩ := h x (by simp)
   obtain ⟨l, e, hl⟩ := map_of g P (xs := xs) fun y hy => h y (List.mem_cons_of_mem _ hy)
   subst e
   exact ⟨a :: l, rfl, fun b hb => (List.mem_cons.1 hb).elim (fun e => e ▸ ha) (hl b)⟩
theorem has_rw {ds : List D} (h : (Ty.st [.int .i64, .sl (.int .i64)]).has ds) : ∃ x : Rw, ds = x.cs ∧ x.nx.length ≤ maxLen := by
 simp only [Ty.has, Ty.hass] at h
 obtain ⟨_, _, rfl, ⟨m, rfl, _⟩, d2, _, rfl, h2, rfl⟩ := h
 have h3 : (Ty.sl (.int .i64)).has d2 := by
  simp only [Ty.has]
  exact h2
 obtain ⟨l, hl, h4, _⟩ := has_ints h3
 subst hl
 exact ⟨⟨m, l⟩, by simp [Rw.cs, ints], h4⟩
def tyT : Ty := .st [.int .i64, .int .i64, .int .i64, .sl (.st [.int .i64, .sl (.int .i64)])]
theorem has_tbl {ds : List D} (h : tyT.has ds) : ∃ b : Tb, ds = b.cs ∧ b.rows.length ≤ maxLen ∧ ∀ x ∈ b.rows, x.nx.length ≤ maxLen := by
 simp only [tyT, Ty.has.eq_5, Ty.hass, Ty.has.eq_1, Ty.has.eq_4] at h
 obtain ⟨_, _, rfl, ⟨r, rfl, _⟩, _, _, rfl, ⟨sd, rfl, _⟩, _, _, rfl, ⟨len, rfl, _⟩, _, _, rfl, ⟨xs, rfl, h1, h2⟩, rfl⟩ := h
 obtain ⟨l, rfl, h3⟩ := map_of Rw.cs (fun x => x.nx.length ≤ maxLen) fun x hx => has_rw (by
  simp only [Ty.has.eq_5, Ty.hass, Ty.has.eq_1, Ty.has.eq_4]
  exact h2 x hx)
 exact ⟨⟨r, sd, len, l⟩, by simp [Tb.cs, rwsD], by simpa using h1, h3⟩
theorem same1_c (x y : Rw) (hx : x.nx.length ≤ 1000000) : Contract Tryz.prog 88 [rwT x, rwT y] [] (.d (.bool (decide (x.id = y.id) && decide (x.nx = y.nx)))) [] [] := by
 have k := equalI_c x.nx y.nx hx
 refine contract_of Tryz.func88 rfl (fun E0 => ?_)
 refine awp.sound (g := .mk) (ow := []) (kp := (fun k => k==0||k==1||k==2||k==3||k==4)) ?_
 rw [Tryz.ntmps88]
 by_cases h : x.id = y.id
 ·simp -dsimp [rwT, h]
  refine ACall.of k [] 0 ?_
  simp -dsimp
  and_intros
  all_goals try first | rfl | omega | exact ⟨by kernel_rfl⟩
  refine Fin.of ?_
  simp [h]
 ·simp -dsimp [rwT, h]
  and_intros
  all_goals try first | rfl | omega | exact ⟨by kernel_rfl⟩
  refine Fin.of ?_
  simp [h]
theorem eqRows_c (a b : List Rw) (ha : a.length ≤ 1000000) (hn : ∀ x ∈ a, x.nx.length ≤ 1000000) : Contract Tryz.prog 87 [.d (.sl (rws a)), .d (.sl (rws b)), .clo 88 []] [] (.d (.bool (sameRs a b))) [] [] := by
 have hok : fnOK Tryz.prog 88 = true := by kernel_rfl
 by_cases h4 : a.length = b.length
 case neg =>
  have h4z : ¬ (a.length : Int) = b.length := by omega
  refine contract_of Tryz.func87 rfl (fun E0 => ?_)
  refine awp.sound (g := .mk) (ow := []) (kp := (fun k => k==0||k==1||k==2||k==6||k==7||k==8||k==9||k==14||k==15||k==16||k==17||k==18||k==30)) ?_
  rw [Tryz.ntmps87]
  simp -dsimp [h4z, h4]
  and_intros
  all_goals try first | rfl | omega | exact ⟨by kernel_rfl⟩
  refine Fin.of ?_
  simp [sameRs_f (a := a) (b := b) fun e => h4 (by rw [e])]
 refine contract_of Tryz.func87 rfl (fun E0 => ?_)
 refine awp.sound (g := .mk) (ow := []) (kp := (fun k => k==0||k==1||k==2||k==6||k==7||k==8||k==9||k==14||k==15||k==16||k==17||k==18||k==30)) ?_
 rw [Tryz.ntmps87]
 simp -dsimp [h4]
 and_intros
 all_goals try first | rfl | omega | exact ⟨by kernel_rfl⟩
 refine ALoop.of [] (fun k => k==0||k==1||k==2||k==6||k==7||k==8||k==9||k==14||k==15||k==16||k==17||k==18||k==30) (ι := { i : Nat // i ≤ b.length ∧ ∀ j, j < i → a[j]? = b[j]? })
  (fun z => [(Pl.s 0, It.v (.d (.sl (rws a)))), (Pl.s 1, It.v (.d (.sl (rws b)))), (Pl.s 2, It.v (.clo 88 [])), (Pl.s 6, It.v (.d (.bool false))), (Pl.s 15, It.v (.d (.sl (rws a)))), (Pl.s 16, It.v (.d (.int .i64 b.length))), (Pl.s 17, It.v (.d (.int .i64 z.1)))])
  (fun z => b.length - z.1) ⟨0, by omega, fun j h => by omega⟩ ?_ ?_
 ·exact GS.to (by simp)
 ·rintro ⟨i, i1, i2⟩
  by_cases hi' : i < b.length
  ·have hi : i < a.length := by omega
   have hiz : (i : Int) < a.length := by omega
   have hiz' : (i : Int) < b.length := by omega
   have hx : a[i]? = some a[i] := List.getElem?_eq_getElem hi
   have hy : b[i]? = some b[i] := List.getElem?_eq_getElem hi'
   have hxl := hn a[i] (List.getElem_mem hi)
   generalize a[i] = x at hx hxl
   generalize b[i] = y at hy
   have hx' := rws_get hx
   have hy' := rws_get hy
   have hc := same1_c x y hxl
   simp only [rwT] at hc
   have w1 : IntKind.i64.wrap ((i : Int) + 1) = (i : Int) + 1 := wrap_i64 (by omega) (by omega)
   simp -dsimp [hiz, hiz', hx', hy']
   and_intros
   all_goals try first | rfl | omega | exact ⟨by kernel_rfl⟩
   refine ACall.of hc [] 0 ?_
   by_cases c2 : x = y
   ·subst c2
    simp -dsimp [hok, w1]
    and_intros
    all_goals try first | rfl | omega | exact ⟨by kernel_rfl⟩
    exact ⟨⟨i + 1, by omega, fun j hj => by
     by_cases e : j = i
     ·subst e; rw [hx, hy]
     ·exact i2 j (by omega)⟩, GS.to (by simp), by simp; omega⟩
   ·have c3 : (decide (x.id = y.id) && decide (x.nx = y.nx)) = false := Bool.eq_false_iff.2 fun h => c2 (by
     simp only [Bool.and_eq_true, decide_eq_true_eq] at h
     exact Rw.ext' h.1 h.2)
    rw [c3]
    simp -dsimp [hok]
    and_intros
    all_goals try first | rfl | omega | exact ⟨by kernel_rfl⟩
    refine Fin.of ?_
    have : a ≠ b := fun e => c2 (by subst e; rw [hx] at hy; exact Option.some.inj hy)
    simp [sameRs_f this]
  ·have hiz : ¬ (i : Int) < b.length := by omega
   simp -dsimp [hiz]
   and_intros
   all_goals try first | rfl | omega | exact ⟨by kernel_rfl⟩
   refine Fin.of ?_
   have : a = b := List.ext_getElem? fun j => by
    by_cases hj : j < i
    ·exact i2 j hj
    ·rw [List.getElem?_eq_none (by omega), List.getElem?_eq_none (by omega)]
   simp [sameRs_t this]
theorem tsame_c (a b : Tb) (ha : a.Sm) : Contract Tryz.prog 41 [tblT a, tblT b] [] (.d (.bool (sameTB a b))) [] [] := by
 have k := eqRows_c a.rows b.rows ha.rows ha.nx
 refine contract_of Tryz.func41 rfl (fun E0 => ?_)
 refine awp.sound (g := .mk) (ow := []) (kp := (fun k => k==0||k==1||k==2||k==3||k==4)) ?_
 rw [Tryz.ntmps41]
 by_cases h1 : a.r = b.r
 case neg =>
  simp -dsimp [tblT, rwsD_eq, h1]
  and_intros
  all_goals try first | rfl | omega | exact ⟨by kernel_rfl⟩
  refine Fin.of ?_
  simp [sameTB_f (a := a) (b := b) fun e => h1 (by rw [e])]
 by_cases h2 : a.sd = b.sd
 case neg =>
  simp -dsimp [tblT, rwsD_eq, h1, h2]
  and_intros
  all_goals try first | rfl | omega | exact ⟨by kernel_rfl⟩
  refine Fin.of ?_
  simp [sameTB_f (a := a) (b := b) fun e => h2 (by rw [e])]
 by_cases h3 : a.len = b.len
 case neg =>
  simp -dsimp [tblT, rwsD_eq, h1, h2, h3]
  and_intros
  all_goals try first | rfl | omega | exact ⟨by kernel_rfl⟩
  refine Fin.of ?_
  simp [sameTB_f (a := a) (b := b) fun e => h3 (by rw [e])]
 simp -dsimp [tblT, rwsD_eq, h1, h2, h3]
 refine ACall.of k [] 0 ?_
 by_cases h4 : a.rows = b.rows
 ·simp -dsimp [sameRs_t h4]
  and_intros
  all_goals try first | rfl | omega | exact ⟨by kernel_rfl⟩
  refine Fin.of ?_
  simp [sameTB_t (Tb.ext' h1 h2 h3 h4)]
 ·simp -dsimp [sameRs_f h4]
  and_intros
  all_goals try first | rfl | omega | exact ⟨by kernel_rfl⟩
  refine Fin.of ?_
  simp [sameTB_f (a := a) (b := b) fun e => h4 (by rw [e])]
def bigB (b : Tb) : Bool := (b.rows.any fun x => decide (60 < x.nx.length)) || decide (300 < b.rows.length)
theorem big_c (b : Tb) (h1 : b.rows.length ≤ 9223372036854775807) (h2 : ∀ x ∈ b.rows, x.nx.length ≤ 9223372036854775807) : Contract Tryz.prog 34 [tblT b] [] (.d (.bool (bigB b))) [] [] := by
 refine contract_of Tryz.func34 rfl (fun E0 => ?_)
 refine awp.sound (g := .mk) (ow := []) (kp := (fun k => k==0||k==1||k==2||k==3||k==8||k==18)) ?_
 rw [Tryz.ntmps34]
 simp -dsimp [tblT, rwsD_eq]
 refine ALoop.of [] (fun k => k==0||k==1||k==2||k==3||k==8||k==18) (ι := { i : Nat // i ≤ b.rows.length ∧ (b.rows.any fun x => decide (60 < x.nx.length)) = (b.rows.drop i).any fun x => decide (60 < x.nx.length) })
  (fun z => [(Pl.o 1, It.box [.d (.int .i64 b.r), .d (.int .i64 b.sd), .d (.int .i64 b.len), .d (.sl (rws b.rows))]), (Pl.s 1, It.v (.ptr (.o 1) 0)), (Pl.s 2, It.v (.d (.bool false))), (Pl.s 3, It.v (.d (.int .i64 z.1)))])
  (fun z => b.rows.length - z.1) ⟨0, by omega, rfl⟩ ?_ ?_
 ·exact GS.to (by simp)
 ·rintro ⟨i, i1, i2⟩
  by_cases hi : i < b.rows.length
  ·have hiz : (i : Int) < b.rows.length := by omega
   have hx : b.rows[i]? = some b.rows[i] := List.getElem?_eq_getElem hi
   generalize b.rows[i] = x at hx
   have hx' := rws_get hx
   have w1 : IntKind.i64.wrap ((i : Int) + 1) = (i : Int) + 1 := wrap_i64 (by omega) (by omega)
   by_cases h : 60 < x.nx.length
   ·have hz : (60 : Int) < x.nx.length := by omega
    simp -dsimp [hiz, hx', hz, ints, h]
    and_intros
    all_goals try first | rfl | omega | exact ⟨by kernel_rfl⟩
    refine Fin.of ?_
    have e := any_hit (q := fun x : Rw => decide (60 < x.nx.length)) hx (by simpa using h)
    simp only [bigB, e]; simp
   ·have hz : ¬ (60 : Int) < x.nx.length := by omega
    simp -dsimp [hiz, hx', hz, ints, h, w1]
    and_intros
    all_goals try first | rfl | omega | exact ⟨by kernel_rfl⟩
    exact ⟨⟨i + 1, by omega, any_step hx i2 (by simpa using h)⟩, GS.to (by simp), by simp; omega⟩
  ·have hiz : ¬ (i : Int) < b.rows.length := by omega
   have e := any_end i2 hi
   by_cases h : 300 < b.rows.length
   ·have hz : (300 : Int) < b.rows.length := by omega
    simp -dsimp [hiz, hz, h]
    and_intros
    all_goals try first | rfl | omega | exact ⟨by kernel_rfl⟩
    refine Fin.of ?_
    simp [bigB, h]
   ·have hz : ¬ (300 : Int) < b.rows.length := by omega
    simp -dsimp [hiz, hz, h]
    and_intros
    all_goals try first | rfl | omega | exact ⟨by kernel_rfl⟩
    refine Fin.of ?_
    simp only [bigB, e, h]; simp
theorem bigB_sm {b : Tb} (h : bigB b = false) : b.Sm := by
 unfold bigB at h
 simp only [Bool.or_eq_false_iff, decide_eq_false_iff_not, List.any_eq_false, decide_eq_true_eq] at h
 exact ⟨by omega, fun x hx => by have := h.1 x hx; omega⟩
theorem checks_law (L : List Int) (hL : ∀ x ∈ L, I64 x) (raw : Tb) (hr1 : raw.rows.length ≤ 9223372036854775807) (hr2 : ∀ x ∈ raw.rows, x.nx.length ≤ 9223372036854775807) (id : Int) :
  Contract Tryz.prog 9 [.d (ints L), tblT raw, .d (.int .i64 id)] [] (.d (.bool true)) [] [] := by
 have hbig := big_c raw hr1 hr2
 refine contract_of Tryz.func9 rfl (fun E0 => ?_)
 refine awp.sound (g := .mk) (ow := []) (kp := (fun k => k==0||k==1||k==2||k==4||k==6||k==7||k==8||k==9||k==10||k==11||k==12||k==13||k==14||k==15||k==16||k==33||k==46||k==50||k==71||k==77||k==121)) ?_
 rw [Tryz.ntmps9]
 simp -dsimp [ints, tblT, rwsD_eq]
 refine ACall.of (new_c L) [] 3000 ?_
 simp -dsimp [ints]
 have kT : TapeOK (L.take 600, 0) := tape_new L hL
 generalize (L.take 600, 0) = T0 at kT ⊢
 try refine ⟨rfl, ?_⟩
 refine ACall.of (table_c T0 kT 2 (by omega)) [.o 3010] 0 ?_
 have s1 := gTab_sm T0 2
 have k1 : TapeOK (gTab T0 2).2 := by rw [gTab_tape]; exact kT
 generalize gTab T0 2 = A at s1 k1 ⊢
 obtain ⟨A, T1⟩ := A
 simp only at s1 k1 ⊢
 simp -dsimp [tblT, rwsD_eq]
 refine ACall.of (table0_c T1 k1) [.o 3010] 0 ?_
 have s2 : (gTab0 T1).1.Sm := chk_sm (gTab0_ok T1)
 have k2 : TapeOK (gTab0 T1).2 := by rw [gTab0_tape]; exact k1
 generalize gTab0 T1 = B at s2 k2 ⊢
 obtain ⟨B, T2⟩ := B
 simp only at s2 k2 ⊢
 simp -dsimp [tblT, rwsD_eq]
 and_intros
 all_goals try first | omega | exact ⟨by kernel_rfl⟩ | rfl
 obtain ⟨l, hl⟩ : ∃ l : List Tb, l = [A, B, raw] := ⟨_, rfl⟩
 simp only [tblT, rwsD_eq] at hbig
 refine ALoop.of [] (fun k => k==0||k==1||k==2||k==4||k==6||k==7||k==8||k==9||k==10||k==11||k==12||k==13||k==14||k==15||k==16||k==33||k==46||k==50||k==71||k==77||k==121) (ι := { z : Nat × Tp // z.1 ≤ 3 ∧ TapeOK z.2 })
  (fun z => [(Pl.s 0, It.v (.d (ints L))), (Pl.s 2, It.v (.d (.int .i64 id))), (Pl.o 4, It.box [.d (.int .i64 raw.r), .d (.int .i64 raw.sd), .d (.int .i64 raw.len), .d (.sl (rws raw.rows))]), (Pl.s 4, It.v (.ptr (.o 4) 0)), (Pl.s 6, It.v (.d (.bool false))), (Pl.s 7, It.v (.ptr (.o 3010) 0)), (Pl.s 8, It.v (.d (.sl (tbs l)))), (Pl.o 3010, tapeI z.1.2), (Pl.s 9, It.v (.d (.int .i64 z.1.1)))]) (fun z => 3 - z.1.1) ⟨(0, T2), by omega, k2⟩ ?_ ?_
 ·exact GS.to (by simp [hl, tbs, Tb.cs, rwsD_eq, ints])
 ·rintro ⟨⟨i, T⟩, i1, kT⟩
  simp only at i1 kT
  have hll : l.length = 3 := by rw [hl]; rfl
  by_cases hi : i < 3
  case neg =>
   have hiz : ¬ (i : Int) < 3 := by omega
   simp -dsimp [hiz, hll]
   and_intros
   all_goals try first | omega | exact ⟨by kernel_rfl⟩ | rfl
   refine ACall.of awake11_c [] 0 ?_
   simp -dsimp
   and_intros
   all_goals try first | rfl | omega | exact ⟨by kernel_rfl⟩
   refine Fin.of ?_
   simp
  have hiz : (i : Int) < 3 := by omega
  rcases (Bool.eq_false_or_eq_true (bigB raw)).symm with hb | hb
  case inr =>
   rw [hb] at hbig
   simp -dsimp [hiz, hll]
   refine ACall.of hbig [] 0 ?_
   simp -dsimp
   and_intros
   all_goals try first | omega | exact ⟨by kernel_rfl⟩ | rfl
   refine ACall.of awake11_c [] 0 ?_
   simp -dsimp
   and_intros
   all_goals try first | rfl | omega | exact ⟨by kernel_rfl⟩
   refine Fin.of ?_
   simp
  rw [hb] at hbig
  have s3 := bigB_sm hb
  have hS : ∀ b ∈ l, b.Sm := fun b h => by
   rw [hl] at h
   simp only [List.mem_cons, List.not_mem_nil, or_false] at h
   rcases h with rfl | rfl | rfl
   ·exact s1
   ·exact s2
   ·exact s3
  have hx : l[i]? = some (l[i]'(by omega)) := List.getElem?_eq_getElem (by omega)
  have hxs := hS _ (List.getElem_mem (show i < l.length by omega))
  generalize l[i]'(by omega) = x at hx hxs
  have hx' := tbs_get hx
  have c1 := tcheck_c x hxs.rows hxs.nx
  have c2 := check11_c x hxs.rows hxs.nx
  simp only [tblT, rwsD_eq] at c1 c2
  have w1 : IntKind.i64.wrap ((i : Int) + 1) = (i : Int) + 1 := wrap_i64 (by omega) (by omega)
  simp -dsimp [hiz, hll]
  refine ACall.of hbig [] 0 ?_
  simp -dsimp [hiz, hll, hx']
  and_intros
  all_goals try first | omega | exact ⟨by kernel_rfl⟩ | rfl
  refine ACall.of c1 [] 0 ?_
  simp -dsimp [hiz, hll, hx']
  refine ACall.of c2 [] 0 ?_
  simp -dsimp [hiz, hll, hx']
  and_intros
  all_goals try first | omega | exact ⟨by kernel_rfl⟩ | rfl
  refine ALoop.of [] (fun k => k==0||k==1||k==2||k==4||k==6||k==7||k==8||k==9||k==10||k==11||k==12||k==13||k==14||k==15||k==16||k==33||k==46||k==50||k==71||k==77||k==121) (ι := { k : Nat // k ≤ 3 })
   (fun z => [(Pl.s 0, It.v (.d (ints L))), (Pl.s 2, It.v (.d (.int .i64 id))), (Pl.o 4, It.box [.d (.int .i64 raw.r), .d (.int .i64 raw.sd), .d (.int .i64 raw.len), .d (.sl (rws raw.rows))]), (Pl.s 4, It.v (.ptr (.o 4) 0)), (Pl.s 6, It.v (.d (.bool false))), (Pl.s 7, It.v (.ptr (.o 3010) 0)), (Pl.s 8, It.v (.d (.sl (tbs l)))), (Pl.o 3010, tapeI T), (Pl.s 9, It.v (.d (.int .i64 i))), (Pl.s 10, It.v (.d (.int .i64 z.1)))]) (fun z => 3 - z.1) ⟨0, by omega⟩ ?_ ?_
  ·exact GS.to (by simp)
  ·rintro ⟨k, k1⟩
   by_cases hk : k < 3
   ·have hkz : (k : Int) < 3 := by omega
    have hy : l[k]? = some (l[k]'(by omega)) := List.getElem?_eq_getElem (by omega)
    generalize l[k]'(by omega) = y at hy
    have hy' := tbs_get hy
    have d1 := tsame_c x y hxs
    have d2 := same11_c x y hxs
    simp only [tblT, rwsD_eq] at d1 d2
    have w2 : IntKind.i64.wrap ((k : Int) + 1) = (k : Int) + 1 := wrap_i64 (by omega) (by omega)
    simp -dsimp [hiz, hkz, hll, hx', hy']
    and_intros
    all_goals try first | omega | exact ⟨by kernel_rfl⟩ | rfl
    refine ACall.of d1 [] 0 ?_
    simp -dsimp [hiz, hkz, hll, hx', hy']
    refine ACall.of d2 [] 0 ?_
    simp -dsimp [hiz, hkz, hll, hx', hy', w2]
    and_intros
    all_goals try first | omega | exact ⟨by kernel_rfl⟩ | rfl
    exact ⟨⟨k + 1, by omega⟩, GS.to (by simp), by simp; omega⟩
   ·have hkz : ¬ (k : Int) < 3 := by omega
    simp -dsimp [hkz, hll]
    have t1 := gRange_lo T 0 9
    have t2 := gRange_hi T (a := 0) (b := 9) (by omega)
    refine ACall.of (range_c T kT 0 9 ⟨by omega, by omega⟩ ⟨by omega, by omega⟩ ⟨by omega, by omega⟩ ⟨by omega, by omega⟩) [.o 3010] 0 ?_
    have kR : TapeOK (gRange T 0 9).2 := by simpa using kT
    generalize gRange T 0 9 = V at kR ⊢
    obtain ⟨v, T'⟩ := V
    simp only at kR ⊢
    simp -dsimp
    try refine ⟨?_, ⟨by kernel_rfl⟩⟩
    obtain ⟨q, hq⟩ : ∃ q : List Int, q = [id, v] := ⟨_, rfl⟩
    have hql : q.length = 2 := by rw [hq]; rfl
    refine ALoop.of [] (fun k => k==0||k==1||k==2||k==4||k==6||k==7||k==8||k==9||k==10||k==11||k==12||k==13||k==14||k==15||k==16||k==33||k==46||k==50||k==71||k==77||k==121) (ι := { j : Nat // j ≤ 2 })
     (fun z => [(Pl.s 0, It.v (.d (ints L))), (Pl.s 2, It.v (.d (.int .i64 id))), (Pl.o 4, It.box [.d (.int .i64 raw.r), .d (.int .i64 raw.sd), .d (.int .i64 raw.len), .d (.sl (rws raw.rows))]), (Pl.s 4, It.v (.ptr (.o 4) 0)), (Pl.s 6, It.v (.d (.bool false))), (Pl.s 7, It.v (.ptr (.o 3010) 0)), (Pl.s 8, It.v (.d (.sl (tbs l)))), (Pl.o 3010, tapeI T'), (Pl.s 9, It.v (.d (.int .i64 i))), (Pl.s 11, It.v (.d (ints q))), (Pl.s 12, It.v (.d (.int .i64 z.1)))]) (fun z => 2 - z.1) ⟨0, by omega⟩ ?_ ?_
    ·exact GS.to (by simp [hq, ints])
    ·rintro ⟨j, j1⟩
     by_cases hj : j < 2
     ·have hjz : (j : Int) < 2 := by omega
      have hz : q[j]? = some (q[j]'(by omega)) := List.getElem?_eq_getElem (by omega)
      generalize q[j]'(by omega) = n at hz
      have hz' : (q.map fun n => [D.int .i64 n])[j]? = some [.int .i64 n] := by simp [hz]
      have d1 := trow_c x hxs.rows hxs.nx n
      have d2 := row11_c x hxs.rows hxs.nx n
      have hnl : ((rowOf x n).getD ⟨0, []⟩).nx.length ≤ 1000000 := by
       cases hrw : rowOf x n with
       | none => simp
       | some y =>
         unfold rowOf at hrw
         exact hxs.nx y (List.mem_of_find?_eq_some hrw)
      have d3 := ints04_c ((rowOf x n).getD ⟨0, []⟩).nx ((rowOf x n).getD ⟨0, []⟩).nx hnl
      simp only [tblT, rwsD_eq, rowT, rwT] at d1 d2
      generalize (rowOf x n).getD ⟨0, []⟩ = y at d1 d2 d3
      generalize (rowOf x n).isSome = yb at d1 d2
      have w2 : IntKind.i64.wrap ((j : Int) + 1) = (j : Int) + 1 := wrap_i64 (by omega) (by omega)
      simp -dsimp [hiz, hjz, hll, hql, hx', hz', hz, ints]
      and_intros
      all_goals try first | omega | exact ⟨by kernel_rfl⟩ | rfl
      refine ACall.of d1 [] 0 ?_
      simp -dsimp [hiz, hjz, hll, hql, hx', hz', hz, ints]
      and_intros
      all_goals try first | omega | exact ⟨by kernel_rfl⟩ | rfl
      refine ACall.of d2 [] 0 ?_
      simp -dsimp [hiz, hjz, hll, hql, hx', hz', hz, ints]
      and_intros
      all_goals try first | omega | exact ⟨by kernel_rfl⟩ | rfl
      refine ACall.of d3 [] 0 ?_
      simp -dsimp [w2]
      and_intros
      all_goals try first | omega | exact ⟨by kernel_rfl⟩ | rfl
      exact ⟨⟨j + 1, by omega⟩, GS.to (by simp [ints]), by simp; omega⟩
     ·have hjz : ¬ (j : Int) < 2 := by omega
      simp -dsimp [hjz, w1]
      and_intros
      all_goals try first | omega | exact ⟨by kernel_rfl⟩ | rfl
      exact ⟨⟨(i + 1, T'), by omega, kR⟩, GS.to (by simp), by simp; omega⟩
end Go.Proofs

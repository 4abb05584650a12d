/-
  What functions of the program compute, stated as contracts over plain data; the conditions of each stand in its own statement.
-/
import Derived.Test.YtffjbciladpdlaaGreatZN43
set_option linter.unusedSimpArgs false
set_option linter.unusedVariables false
set_option maxRecDepth 100000
set_option maxHeartbeats 32000000
namespace Go.Proofs
open Go Go.Tr
theorem SmL.app {l : List Tb} {t : Tb} (h : SmL l) (hl : l.length ≤ 500) (ht : t.Sm) : SmL (l ++ [t]) := ⟨by simp; omega, fun b hb => by
 rcases List.mem_append.1 hb with hb | hb
 ·exact h.t b hb
 ·rw [List.mem_singleton.1 hb]; exact ht⟩
theorem SmL.swp {a b : Tb} {l : List Tb} (h : SmL (a :: b :: l)) : SmL (b :: a :: l) := ⟨by simpa using h.n, fun x hx => h.t x (by
 simp only [List.mem_cons] at hx ⊢
 rcases hx with h | h | h
 ·exact .inr (.inl h)
 ·exact .inl h
 ·exact .inr (.inr h))⟩
theorem findT_sm {l : List Tb} (h : SmL l) (r : Int) : ((findT l r).getD tb0).Sm := by
 cases hf : findT l r with
 | none => exact ⟨by simp [tb0], by simp [tb0]⟩
 | some b =>
   unfold findT at hf
   exact h.t b (List.mem_of_find?_eq_some hf)
theorem together_law (L : List Int) (hL : ∀ x ∈ L, I64 x) (raw : List Tb) (hr0 : raw.length ≤ 9223372036854775807) (hr1 : ∀ b ∈ raw, b.rows.length ≤ 9223372036854775807 ∧ ∀ x ∈ b.rows, x.nx.length ≤ 9223372036854775807) (r : Int) :
  Contract Tryz.prog 8 [.d (ints L), .d (.sl (tbs raw)), .d (.int .i64 r)] [] (.d (.bool true)) [] [] := by
 refine contract_of Tryz.func8 rfl (fun E0 => ?_)
 refine awp.sound (g := .mk) (ow := []) (kp := (fun k => k==0||k==1||k==2||k==6||k==7||k==10||k==11||k==12||k==13||k==14||k==15||k==16||k==17||k==18||k==19||k==29||k==41||k==61||k==67||k==74||k==86||k==92||k==127)) ?_
 rw [Tryz.ntmps8]
 simp -dsimp [ints]
 refine ACall.of (new_c L) [] 3000 ?_
 simp -dsimp [ints]
 have kT : TapeOK (L.take 600, 0) := tape_new L hL
 generalize (L.take 600, 0) = T0 at kT ⊢
 try refine ⟨rfl, ?_⟩
 refine ACall.of (domainO_c T0 kT 5 (by omega)) [.o 3010] 2000 ?_
 have hDV := (gDom_valid T0 (most := 5) (by omega)).1
 have kD : TapeOK (gDom T0 5).2.2.2 := by
  show TapeOK (gPlan (gTop T0 5).2 (gTop T0 5).1.rs 0).2
  rw [(gPlan_zero _ _).1]; simpa using kT
 generalize gDom T0 5 = D0 at hDV kD ⊢
 obtain ⟨g, p, X, T1⟩ := D0
 simp only at hDV kD ⊢
 have h0 := hDV.top.ok
 have hXl : X.length ≤ 24 := by rw [hDV.tab]; have := tabs_len g p; have := (chkT_zero h0).nr; omega
 have hXs : SmL X := ⟨by omega, fun b hb => by
  rw [hDV.tab] at hb
  exact chk_sm (tabs_chk h0 hDV.plan b hb)⟩
 have ho1 := one_c T1 kD 2 ⟨by omega, by omega⟩ ⟨by omega, by omega⟩
 have kO : TapeOK (gOne T1 2).2 := by simpa using kD
 generalize gOne T1 2 = O at ho1 kO
 obtain ⟨ob, T2⟩ := O
 simp only at ho1 kO
 simp -dsimp [topT, planT]
 refine ACall.of ho1 [.o 3010] 0 ?_
 have key : ∀ X1 : List Tb, ∀ T : Tp, TapeOK T → (1 < X1.length → ∃ ob T', TapeOK T' ∧ Contract Tryz.prog 12 [.ptr (.x 0) 0, .d (.int .i64 4)] [tapeI T] (.d (.bool ob)) [tapeI T'] []) := fun X1 T hT _ =>
  ⟨(gOne T 4).1, (gOne T 4).2, by simpa using hT, one_c T hT 4 ⟨by omega, by omega⟩ ⟨by omega, by omega⟩⟩
 rcases (Bool.eq_false_or_eq_true ob).symm with hob | hob
 ·rw [hob]
  by_cases hl1 : 1 < (X).length
  ·obtain ⟨ob2, T3, kT3, ho2⟩ := key (X) T2 kO hl1
   have hlz : (1 : Int) < (X.length : Int) := by omega
   simp -dsimp [hlz, hl1]
   refine ACall.of ho2 [.o 3010] 0 ?_
   rcases (Bool.eq_false_or_eq_true ob2).symm with h2 | h2
   ·rw [h2]
    simp -dsimp
    try and_intros
    all_goals try first | omega | exact ⟨by kernel_rfl⟩ | rfl
    obtain ⟨l, hl, hsl⟩ : ∃ l, l = X ∧ SmL l := ⟨_, rfl, hXs⟩
    obtain ⟨Tf, hTf, kTf⟩ : ∃ Tf, Tf = T3 ∧ TapeOK Tf := ⟨_, rfl, kT3⟩
    refine ALoop.of [] (fun k => k==0||k==1||k==2||k==6||k==7||k==10||k==11||k==12||k==13||k==14||k==15||k==16||k==17||k==18||k==19||k==29||k==41||k==61||k==67||k==74||k==86||k==92||k==127) (ι := { z : Nat × Tp // z.1 ≤ 2 ∧ TapeOK z.2 })
     (fun z => [(Pl.s 1, It.v (.d (.sl (tbs raw)))), (Pl.s 2, It.v (.d (.int .i64 r))), (Pl.s 6, It.v (.d (.bool false))), (Pl.s 7, It.v (.ptr (.o 3010) 0)), (Pl.s 11, It.v (.d (.sl [[.sl (tbs l)], [.sl (tbs raw)]]))), (Pl.o 3010, tapeI z.1.2), (Pl.s 12, It.v (.d (.int .i64 z.1.1)))]) (fun z => 2 - z.1.1) ⟨(0, Tf), by omega, kTf⟩ ?_ ?_
    ·exact GS.to (by simp [hl, hTf, tbs, Tb.cs, rwsD_eq, ints])
    ·rintro ⟨⟨i, T⟩, i1, kT⟩
     simp only at i1 kT
     by_cases hi : i < 2 ∧ raw.length ≤ 60
     case neg =>
      have key2 : ¬ (i : Int) < 2 ∨ ((i : Int) < 2 ∧ ¬ (raw.length : Int) ≤ 60) := by omega
      rcases key2 with hiz | ⟨hiz, hrz⟩
      ·simp -dsimp [hiz]
       and_intros
       all_goals try first | omega | exact ⟨by kernel_rfl⟩ | rfl
       refine ACall.of awake11_c [] 0 ?_
       simp -dsimp
       and_intros
       all_goals try first | rfl | omega | exact ⟨by kernel_rfl⟩
       refine Fin.of ?_
       simp
      ·have hrz' : ¬ raw.length ≤ 60 := by omega
       simp -dsimp [hiz, hrz, hrz']
       and_intros
       all_goals try first | omega | exact ⟨by kernel_rfl⟩ | rfl
       refine ACall.of awake11_c [] 0 ?_
       simp -dsimp
       and_intros
       all_goals try first | rfl | omega | exact ⟨by kernel_rfl⟩
       refine Fin.of ?_
       simp
     have hiz : (i : Int) < 2 := by omega
     have hrz : (raw.length : Int) ≤ 60 := by omega
     have hrz' := hi.2
     have w1 : IntKind.i64.wrap ((i : Int) + 1) = (i : Int) + 1 := wrap_i64 (by omega) (by omega)
     simp -dsimp [hiz, hrz, hrz']
     and_intros
     all_goals try first | omega | exact ⟨by kernel_rfl⟩ | rfl
     refine ALoop.of [] (fun k => k==0||k==1||k==2||k==6||k==7||k==10||k==11||k==12||k==13||k==14||k==15||k==16||k==17||k==18||k==19||k==29||k==41||k==61||k==67||k==74||k==86||k==92||k==127) (ι := { k : Nat // k ≤ raw.length ∧ ∀ a, a < k → ∀ b, raw[a]? = some b → bigB b = false })
      (fun z => [(Pl.s 1, It.v (.d (.sl (tbs raw)))), (Pl.s 2, It.v (.d (.int .i64 r))), (Pl.s 6, It.v (.d (.bool false))), (Pl.s 7, It.v (.ptr (.o 3010) 0)), (Pl.s 11, It.v (.d (.sl [[.sl (tbs l)], [.sl (tbs raw)]]))), (Pl.o 3010, tapeI T), (Pl.s 12, It.v (.d (.int .i64 i))), (Pl.s 13, It.v (.d (.int .i64 z.1)))]) (fun z => raw.length - z.1) ⟨0, by omega, fun a h => by omega⟩ ?_ ?_
     ·exact GS.to (by simp)
     ·rintro ⟨k, k1, k2⟩
      by_cases hk : k < raw.length
      case pos =>
       have hkz : (k : Int) < raw.length := by omega
       have hy : raw[k]? = some raw[k] := List.getElem?_eq_getElem hk
       have hb := hr1 raw[k] (List.getElem_mem hk)
       generalize raw[k] = b at hy hb
       have hy' := tbs_get hy
       have hbig := big_c b hb.1 hb.2
       simp only [tblT, rwsD_eq] at hbig
       have w2 : IntKind.i64.wrap ((k : Int) + 1) = (k : Int) + 1 := wrap_i64 (by omega) (by omega)
       rcases (Bool.eq_false_or_eq_true (bigB b)).symm with hbb | hbb
       ·rw [hbb] at hbig
        simp -dsimp [hkz, hy']
        refine ACall.of hbig [] 0 ?_
        simp -dsimp [w2]
        and_intros
        all_goals try first | omega | exact ⟨by kernel_rfl⟩ | rfl
        exact ⟨⟨k + 1, by omega, fun a ha c hc => by
         by_cases e : a = k
         ·subst e; rw [hy] at hc; rw [← Option.some.inj hc]; exact hbb
         ·exact k2 a (by omega) c hc⟩, GS.to (by simp), by simp; omega⟩
       ·rw [hbb] at hbig
        simp -dsimp [hkz, hy']
        refine ACall.of hbig [] 0 ?_
        simp -dsimp
        and_intros
        all_goals try first | omega | exact ⟨by kernel_rfl⟩ | rfl
        refine ACall.of awake11_c [] 0 ?_
        simp -dsimp
        and_intros
        all_goals try first | rfl | omega | exact ⟨by kernel_rfl⟩
        refine Fin.of ?_
        simp
      have hkz : ¬ (k : Int) < raw.length := by omega
      have hsr : SmL raw := ⟨by omega, fun b hb => by
       obtain ⟨a, ha, rfl⟩ := List.mem_iff_getElem.1 hb
       exact bigB_sm (k2 a (by omega) _ (List.getElem?_eq_getElem ha))⟩
      obtain ⟨y, hyl, hys⟩ : ∃ y : List Tb, [[D.sl (tbs l)], [D.sl (tbs raw)]][i]? = some [D.sl (tbs y)] ∧ SmL y := by
       rcases (by omega : i = 0 ∨ i = 1) with rfl | rfl
       ·exact ⟨l, rfl, hsl⟩
       ·exact ⟨raw, rfl, hsr⟩
      have c1 := checkA_c y hys
      have c2 := checkA11_c y hys
      simp -dsimp [hkz]
      simp -dsimp [hiz, hyl]
      and_intros
      all_goals try first | omega | exact ⟨by kernel_rfl⟩ | rfl
      refine ACall.of c1 [] 0 ?_
      simp -dsimp [hiz, hyl]
      refine ACall.of c2 [] 0 ?_
      simp -dsimp
      and_intros
      all_goals try first | omega | exact ⟨by kernel_rfl⟩ | rfl
      refine ACall.of (range_c T kT 0 6 ⟨by omega, by omega⟩ ⟨by omega, by omega⟩ ⟨by omega, by omega⟩ (by
       have t1 := gRange_lo T 0 6
       have t2 := gRange_hi T (a := 0) (b := 6) (by omega)
       exact ⟨by omega, by omega⟩)) [.o 3010] 0 ?_
      have kR : TapeOK (gRange T 0 6).2 := by simpa using kT
      generalize gRange T 0 6 = V at kR ⊢
      obtain ⟨v, T'⟩ := V
      simp only at kR ⊢
      simp -dsimp
      try refine ⟨?_, ⟨by kernel_rfl⟩⟩
      obtain ⟨q, hq⟩ : ∃ q : List Int, q = [r, v] := ⟨_, rfl⟩
      have hql : q.length = 2 := by rw [hq]; rfl
      refine ALoop.of [] (fun k => k==0||k==1||k==2||k==6||k==7||k==10||k==11||k==12||k==13||k==14||k==15||k==16||k==17||k==18||k==19||k==29||k==41||k==61||k==67||k==74||k==86||k==92||k==127) (ι := { j : Nat // j ≤ 2 })
       (fun z => [(Pl.s 1, It.v (.d (.sl (tbs raw)))), (Pl.s 2, It.v (.d (.int .i64 r))), (Pl.s 6, It.v (.d (.bool false))), (Pl.s 7, It.v (.ptr (.o 3010) 0)), (Pl.s 11, It.v (.d (.sl [[.sl (tbs l)], [.sl (tbs raw)]]))), (Pl.o 3010, tapeI T'), (Pl.s 12, It.v (.d (.int .i64 i))), (Pl.s 14, It.v (.d (ints q))), (Pl.s 15, It.v (.d (.int .i64 z.1)))]) (fun z => 2 - z.1) ⟨0, by omega⟩ ?_ ?_
      ·exact GS.to (by simp [hq, ints])
      ·rintro ⟨j, j1⟩
       by_cases hj : j < 2
       ·have hjz : (j : Int) < 2 := by omega
        have hz : q[j]? = some (q[j]'(by omega)) := List.getElem?_eq_getElem (by omega)
        generalize q[j]'(by omega) = n at hz
        have hz' : (q.map fun n => [D.int .i64 n])[j]? = some [.int .i64 n] := by simp [hz]
        have d1 := find_c y hys n
        have d2 := find11_c y hys n
        have d3 := same11_c ((findT y n).getD tb0) ((findT y n).getD tb0) (findT_sm hys n)
        rw [sameTB_t rfl] at d3
        simp only [tblT, rwsD_eq, foundT] at d1 d2 d3
        generalize (findT y n).getD tb0 = b at d1 d2 d3
        generalize (findT y n).isSome = bb at d1 d2
        have w2 : IntKind.i64.wrap ((j : Int) + 1) = (j : Int) + 1 := wrap_i64 (by omega) (by omega)
        simp -dsimp [hiz, hjz, hql, hyl, hz', hz, ints]
        and_intros
        all_goals try first | omega | exact ⟨by kernel_rfl⟩ | rfl
        refine ACall.of d1 [] 0 ?_
        simp -dsimp [hiz, hjz, hql, hyl, hz', hz, ints]
        and_intros
        all_goals try first | omega | exact ⟨by kernel_rfl⟩ | rfl
        refine ACall.of d2 [] 0 ?_
        simp -dsimp [hiz, hjz, hql, hyl, hz', hz, ints]
        and_intros
        all_goals try first | omega | exact ⟨by kernel_rfl⟩ | rfl
        refine ACall.of d3 [] 0 ?_
        simp -dsimp [w2]
        and_intros
        all_goals try first | omega | exact ⟨by kernel_rfl⟩ | rfl
        exact ⟨⟨j + 1, by omega⟩, GS.to (by simp [ints]), by simp; omega⟩
       ·have hjz : ¬ (j : Int) < 2 := by omega
        simp -dsimp [hjz, w1]
        and_intros
        all_goals try first | omega | exact ⟨by kernel_rfl⟩ | rfl
        exact ⟨⟨(i + 1, T'), by omega, kR⟩, GS.to (by simp), by simp; omega⟩
   ·rw [h2]
    obtain ⟨a, b, X2, hX2⟩ : ∃ a b X2, X = a :: b :: X2 := by
     match X, hl1 with
     | a :: b :: X2, _ => exact ⟨a, b, X2, rfl⟩
    subst hX2
    simp -dsimp [tbs, Tb.cs]
    and_intros
    all_goals try first | omega | exact ⟨by kernel_rfl⟩ | rfl
    obtain ⟨l, hl, hsl⟩ : ∃ l, l = b :: a :: X2 ∧ SmL l := ⟨_, rfl, SmL.swp hXs⟩
    obtain ⟨Tf, hTf, kTf⟩ : ∃ Tf, Tf = T3 ∧ TapeOK Tf := ⟨_, rfl, kT3⟩
    refine ALoop.of [] (fun k => k==0||k==1||k==2||k==6||k==7||k==10||k==11||k==12||k==13||k==14||k==15||k==16||k==17||k==18||k==19||k==29||k==41||k==61||k==67||k==74||k==86||k==92||k==127) (ι := { z : Nat × Tp // z.1 ≤ 2 ∧ TapeOK z.2 })
     (fun z => [(Pl.s 1, It.v (.d (.sl (tbs raw)))), (Pl.s 2, It.v (.d (.int .i64 r))), (Pl.s 6, It.v (.d (.bool false))), (Pl.s 7, It.v (.ptr (.o 3010) 0)), (Pl.s 11, It.v (.d (.sl [[.sl (tbs l)], [.sl (tbs raw)]]))), (Pl.o 3010, tapeI z.1.2), (Pl.s 12, It.v (.d (.int .i64 z.1.1)))]) (fun z => 2 - z.1.1) ⟨(0, Tf), by omega, kTf⟩ ?_ ?_
    ·exact GS.to (by simp [hl, hTf, tbs, Tb.cs, rwsD_eq, ints])
    ·rintro ⟨⟨i, T⟩, i1, kT⟩
     simp only at i1 kT
     by_cases hi : i < 2 ∧ raw.length ≤ 60
     case neg =>
      have key2 : ¬ (i : Int) < 2 ∨ ((i : Int) < 2 ∧ ¬ (raw.length : Int) ≤ 60) := by omega
      rcases key2 with hiz | ⟨hiz, hrz⟩
      ·simp -dsimp [hiz]
       and_intros
       all_goals try first | omega | exact ⟨by kernel_rfl⟩ | rfl
       refine ACall.of awake11_c [] 0 ?_
       simp -dsimp
       and_intros
       all_goals try first | rfl | omega | exact ⟨by kernel_rfl⟩
       refine Fin.of ?_
       simp
      ·have hrz' : ¬ raw.length ≤ 60 := by omega
       simp -dsimp [hiz, hrz, hrz']
       and_intros
       all_goals try first | omega | exact ⟨by kernel_rfl⟩ | rfl
       refine ACall.of awake11_c [] 0 ?_
       simp -dsimp
       and_intros
       all_goals try first | rfl | omega | exact ⟨by kernel_rfl⟩
       refine Fin.of ?_
       simp
     have hiz : (i : Int) < 2 := by omega
     have hrz : (raw.length : Int) ≤ 60 := by omega
     have hrz' := hi.2
     have w1 : IntKind.i64.wrap ((i : Int) + 1) = (i : Int) + 1 := wrap_i64 (by omega) (by omega)
     simp -dsimp [hiz, hrz, hrz']
     and_intros
     all_goals try first | omega | exact ⟨by kernel_rfl⟩ | rfl
     refine ALoop.of [] (fun k => k==0||k==1||k==2||k==6||k==7||k==10||k==11||k==12||k==13||k==14||k==15||k==16||k==17||k==18||k==19||k==29||k==41||k==61||k==67||k==74||k==86||k==92||k==127) (ι := { k : Nat // k ≤ raw.length ∧ ∀ a, a < k → ∀ b, raw[a]? = some b → bigB b = false })
      (fun z => [(Pl.s 1, It.v (.d (.sl (tbs raw)))), (Pl.s 2, It.v (.d (.int .i64 r))), (Pl.s 6, It.v (.d (.bool false))), (Pl.s 7, It.v (.ptr (.o 3010) 0)), (Pl.s 11, It.v (.d (.sl [[.sl (tbs l)], [.sl (tbs raw)]]))), (Pl.o 3010, tapeI T), (Pl.s 12, It.v (.d (.int .i64 i))), (Pl.s 13, It.v (.d (.int .i64 z.1)))]) (fun z => raw.length - z.1) ⟨0, by omega, fun a h => by omega⟩ ?_ ?_
     ·exact GS.to (by simp)
     ·rintro ⟨k, k1, k2⟩
      by_cases hk : k < raw.length
      case pos =>
       have hkz : (k : Int) < raw.length := by omega
       have hy : raw[k]? = some raw[k] := List.getElem?_eq_getElem hk
       have hb := hr1 raw[k] (List.getElem_mem hk)
       generalize raw[k] = b at hy hb
       have hy' := tbs_get hy
       have hbig := big_c b hb.1 hb.2
       simp only [tblT, rwsD_eq] at hbig
       have w2 : IntKind.i64.wrap ((k : Int) + 1) = (k : Int) + 1 := wrap_i64 (by omega) (by omega)
       rcases (Bool.eq_false_or_eq_true (bigB b)).symm with hbb | hbb
       ·rw [hbb] at hbig
        simp -dsimp [hkz, hy']
        refine ACall.of hbig [] 0 ?_
        simp -dsimp [w2]
        and_intros
        all_goals try first | omega | exact ⟨by kernel_rfl⟩ | rfl
        exact ⟨⟨k + 1, by omega, fun a ha c hc => by
         by_cases e : a = k
         ·subst e; rw [hy] at hc; rw [← Option.some.inj hc]; exact hbb
         ·exact k2 a (by omega) c hc⟩, GS.to (by simp), by simp; omega⟩
       ·rw [hbb] at hbig
        simp -dsimp [hkz, hy']
        refine ACall.of hbig [] 0 ?_
        simp -dsimp
        and_intros
        all_goals try first | omega | exact ⟨by kernel_rfl⟩ | rfl
        refine ACall.of awake11_c [] 0 ?_
        simp -dsimp
        and_intros
        all_goals try first | rfl | omega | exact ⟨by kernel_rfl⟩
        refine Fin.of ?_
        simp
      have hkz : ¬ (k : Int) < raw.length := by omega
      have hsr : SmL raw := ⟨by omega, fun b hb => by
       obtain ⟨a, ha, rfl⟩ := List.mem_iff_getElem.1 hb
       exact bigB_sm (k2 a (by omega) _ (List.getElem?_eq_getElem ha))⟩
      obtain ⟨y, hyl, hys⟩ : ∃ y : List Tb, [[D.sl (tbs l)], [D.sl (tbs raw)]][i]? = some [D.sl (tbs y)] ∧ SmL y := by
       rcases (by omega : i = 0 ∨ i = 1) with rfl | rfl
       ·exact ⟨l, rfl, hsl⟩
       ·exact ⟨raw, rfl, hsr⟩
      have c1 := checkA_c y hys
      have c2 := checkA11_c y hys
      simp -dsimp [hkz]
      simp -dsimp [hiz, hyl]
      and_intros
      all_goals try first | omega | exact ⟨by kernel_rfl⟩ | rfl
      refine ACall.of c1 [] 0 ?_
      simp -dsimp [hiz, hyl]
      refine ACall.of c2 [] 0 ?_
      simp -dsimp
      and_intros
      all_goals try first | omega | exact ⟨by kernel_rfl⟩ | rfl
      refine ACall.of (range_c T kT 0 6 ⟨by omega, by omega⟩ ⟨by omega, by omega⟩ ⟨by omega, by omega⟩ (by
       have t1 := gRange_lo T 0 6
       have t2 := gRange_hi T (a := 0) (b := 6) (by omega)
       exact ⟨by omega, by omega⟩)) [.o 3010] 0 ?_
      have kR : TapeOK (gRange T 0 6).2 := by simpa using kT
      generalize gRange T 0 6 = V at kR ⊢
      obtain ⟨v, T'⟩ := V
      simp only at kR ⊢
      simp -dsimp
      try refine ⟨?_, ⟨by kernel_rfl⟩⟩
      obtain ⟨q, hq⟩ : ∃ q : List Int, q = [r, v] := ⟨_, rfl⟩
      have hql : q.length = 2 := by rw [hq]; rfl
      refine ALoop.of [] (fun k => k==0||k==1||k==2||k==6||k==7||k==10||k==11||k==12||k==13||k==14||k==15||k==16||k==17||k==18||k==19||k==29||k==41||k==61||k==67||k==74||k==86||k==92||k==127) (ι := { j : Nat // j ≤ 2 })
       (fun z => [(Pl.s 1, It.v (.d (.sl (tbs raw)))), (Pl.s 2, It.v (.d (.int .i64 r))), (Pl.s 6, It.v (.d (.bool false))), (Pl.s 7, It.v (.ptr (.o 3010) 0)), (Pl.s 11, It.v (.d (.sl [[.sl (tbs l)], [.sl (tbs raw)]]))), (Pl.o 3010, tapeI T'), (Pl.s 12, It.v (.d (.int .i64 i))), (Pl.s 14, It.v (.d (ints q))), (Pl.s 15, It.v (.d (.int .i64 z.1)))]) (fun z => 2 - z.1) ⟨0, by omega⟩ ?_ ?_
      ·exact GS.to (by simp [hq, ints])
      ·rintro ⟨j, j1⟩
       by_cases hj : j < 2
       ·have hjz : (j : Int) < 2 := by omega
        have hz : q[j]? = some (q[j]'(by omega)) := List.getElem?_eq_getElem (by omega)
        generalize q[j]'(by omega) = n at hz
        have hz' : (q.map fun n => [D.int .i64 n])[j]? = some [.int .i64 n] := by simp [hz]
        have d1 := find_c y hys n
        have d2 := find11_c y hys n
        have d3 := same11_c ((findT y n).getD tb0) ((findT y n).getD tb0) (findT_sm hys n)
        rw [sameTB_t rfl] at d3
        simp only [tblT, rwsD_eq, foundT] at d1 d2 d3
        generalize (findT y n).getD tb0 = b at d1 d2 d3
        generalize (findT y n).isSome = bb at d1 d2
        have w2 : IntKind.i64.wrap ((j : Int) + 1) = (j : Int) + 1 := wrap_i64 (by omega) (by omega)
        simp -dsimp [hiz, hjz, hql, hyl, hz', hz, ints]
        and_intros
        all_goals try first | omega | exact ⟨by kernel_rfl⟩ | rfl
        refine ACall.of d1 [] 0 ?_
        simp -dsimp [hiz, hjz, hql, hyl, hz', hz, ints]
        and_intros
        all_goals try first | omega | exact ⟨by kernel_rfl⟩ | rfl
        refine ACall.of d2 [] 0 ?_
        simp -dsimp [hiz, hjz, hql, hyl, hz', hz, ints]
        and_intros
        all_goals try first | omega | exact ⟨by kernel_rfl⟩ | rfl
        refine ACall.of d3 [] 0 ?_
        simp -dsimp [w2]
        and_intros
        all_goals try first | omega | exact ⟨by kernel_rfl⟩ | rfl
        exact ⟨⟨j + 1, by omega⟩, GS.to (by simp [ints]), by simp; omega⟩
       ·have hjz : ¬ (j : Int) < 2 := by omega
        simp -dsimp [hjz, w1]
        and_intros
        all_goals try first | omega | exact ⟨by kernel_rfl⟩ | rfl
        exact ⟨⟨(i + 1, T'), by omega, kR⟩, GS.to (by simp), by simp; omega⟩
  ·have hlz : ¬ (1 : Int) < (X.length : Int) := by omega
   simp -dsimp [hlz, hl1]
   try and_intros
   all_goals try first | omega | exact ⟨by kernel_rfl⟩ | rfl
   obtain ⟨l, hl, hsl⟩ : ∃ l, l = X ∧ SmL l := ⟨_, rfl, hXs⟩
   obtain ⟨Tf, hTf, kTf⟩ : ∃ Tf, Tf = T2 ∧ TapeOK Tf := ⟨_, rfl, kO⟩
   refine ALoop.of [] (fun k => k==0||k==1||k==2||k==6||k==7||k==10||k==11||k==12||k==13||k==14||k==15||k==16||k==17||k==18||k==19||k==29||k==41||k==61||k==67||k==74||k==86||k==92||k==127) (ι := { z : Nat × Tp // z.1 ≤ 2 ∧ TapeOK z.2 })
    (fun z => [(Pl.s 1, It.v (.d (.sl (tbs raw)))), (Pl.s 2, It.v (.d (.int .i64 r))), (Pl.s 6, It.v (.d (.bool false))), (Pl.s 7, It.v (.ptr (.o 3010) 0)), (Pl.s 11, It.v (.d (.sl [[.sl (tbs l)], [.sl (tbs raw)]]))), (Pl.o 3010, tapeI z.1.2), (Pl.s 12, It.v (.d (.int .i64 z.1.1)))]) (fun z => 2 - z.1.1) ⟨(0, Tf), by omega, kTf⟩ ?_ ?_
   ·exact GS.to (by simp [hl, hTf, tbs, Tb.cs, rwsD_eq, ints])
   ·rintro ⟨⟨i, T⟩, i1, kT⟩
    simp only at i1 kT
    by_cases hi : i < 2 ∧ raw.length ≤ 60
    case neg =>
     have key2 : ¬ (i : Int) < 2 ∨ ((i : Int) < 2 ∧ ¬ (raw.length : Int) ≤ 60) := by omega
     rcases key2 with hiz | ⟨hiz, hrz⟩
     ·simp -dsimp [hiz]
      and_intros
      all_goals try first | omega | exact ⟨by kernel_rfl⟩ | rfl
      refine ACall.of awake11_c [] 0 ?_
      simp -dsimp
      and_intros
      all_goals try first | rfl | omega | exact ⟨by kernel_rfl⟩
      refine Fin.of ?_
      simp
     ·have hrz' : ¬ raw.length ≤ 60 := by omega
      simp -dsimp [hiz, hrz, hrz']
      and_intros
      all_goals try first | omega | exact ⟨by kernel_rfl⟩ | rfl
      refine ACall.of awake11_c [] 0 ?_
      simp -dsimp
      and_intros
      all_goals try first | rfl | omega | exact ⟨by kernel_rfl⟩
      refine Fin.of ?_
      simp
    have hiz : (i : Int) < 2 := by omega
    have hrz : (raw.length : Int) ≤ 60 := by omega
    have hrz' := hi.2
    have w1 : IntKind.i64.wrap ((i : Int) + 1) = (i : Int) + 1 := wrap_i64 (by omega) (by omega)
    simp -dsimp [hiz, hrz, hrz']
    and_intros
    all_goals try first | omega | exact ⟨by kernel_rfl⟩ | rfl
    refine ALoop.of [] (fun k => k==0||k==1||k==2||k==6||k==7||k==10||k==11||k==12||k==13||k==14||k==15||k==16||k==17||k==18||k==19||k==29||k==41||k==61||k==67||k==74||k==86||k==92||k==127) (ι := { k : Nat // k ≤ raw.length ∧ ∀ a, a < k → ∀ b, raw[a]? = some b → bigB b = false })
     (fun z => [(Pl.s 1, It.v (.d (.sl (tbs raw)))), (Pl.s 2, It.v (.d (.int .i64 r))), (Pl.s 6, It.v (.d (.bool false))), (Pl.s 7, It.v (.ptr (.o 3010) 0)), (Pl.s 11, It.v (.d (.sl [[.sl (tbs l)], [.sl (tbs raw)]]))), (Pl.o 3010, tapeI T), (Pl.s 12, It.v (.d (.int .i64 i))), (Pl.s 13, It.v (.d (.int .i64 z.1)))]) (fun z => raw.length - z.1) ⟨0, by omega, fun a h => by omega⟩ ?_ ?_
    ·exact GS.to (by simp)
    ·rintro ⟨k, k1, k2⟩
     by_cases hk : k < raw.length
     case pos =>
      have hkz : (k : Int) < raw.length := by omega
      have hy : raw[k]? = some raw[k] := List.getElem?_eq_getElem hk
      have hb := hr1 raw[k] (List.getElem_mem hk)
      generalize raw[k] = b at hy hb
      have hy' := tbs_get hy
      have hbig := big_c b hb.1 hb.2
      simp only [tblT, rwsD_eq] at hbig
      have w2 : IntKind.i64.wrap ((k : Int) + 1) = (k : Int) + 1 := wrap_i64 (by omega) (by omega)
      rcases (Bool.eq_false_or_eq_true (bigB b)).symm with hbb | hbb
      ·rw [hbb] at hbig
       simp -dsimp [hkz, hy']
       refine ACall.of hbig [] 0 ?_
       simp -dsimp [w2]
       and_intros
       all_goals try first | omega | exact ⟨by kernel_rfl⟩ | rfl
       exact ⟨⟨k + 1, by omega, fun a ha c hc => by
        by_cases e : a = k
        ·subst e; rw [hy] at hc; rw [← Option.some.inj hc]; exact hbb
        ·exact k2 a (by omega) c hc⟩, GS.to (by simp), by simp; omega⟩
      ·rw [hbb] at hbig
       simp -dsimp [hkz, hy']
       refine ACall.of hbig [] 0 ?_
       simp -dsimp
       and_intros
       all_goals try first | omega | exact ⟨by kernel_rfl⟩ | rfl
       refine ACall.of awake11_c [] 0 ?_
       simp -dsimp
       and_intros
       all_goals try first | rfl | omega | exact ⟨by kernel_rfl⟩
       refine Fin.of ?_
       simp
     have hkz : ¬ (k : Int) < raw.length := by omega
     have hsr : SmL raw := ⟨by omega, fun b hb => by
      obtain ⟨a, ha, rfl⟩ := List.mem_iff_getElem.1 hb
      exact bigB_sm (k2 a (by omega) _ (List.getElem?_eq_getElem ha))⟩
     obtain ⟨y, hyl, hys⟩ : ∃ y : List Tb, [[D.sl (tbs l)], [D.sl (tbs raw)]][i]? = some [D.sl (tbs y)] ∧ SmL y := by
      rcases (by omega : i = 0 ∨ i = 1) with rfl | rfl
      ·exact ⟨l, rfl, hsl⟩
      ·exact ⟨raw, rfl, hsr⟩
     have c1 := checkA_c y hys
     have c2 := checkA11_c y hys
     simp -dsimp [hkz]
     simp -dsimp [hiz, hyl]
     and_intros
     all_goals try first | omega | exact ⟨by kernel_rfl⟩ | rfl
     refine ACall.of c1 [] 0 ?_
     simp -dsimp [hiz, hyl]
     refine ACall.of c2 [] 0 ?_
     simp -dsimp
     and_intros
     all_goals try first | omega | exact ⟨by kernel_rfl⟩ | rfl
     refine ACall.of (range_c T kT 0 6 ⟨by omega, by omega⟩ ⟨by omega, by omega⟩ ⟨by omega, by omega⟩ (by
      have t1 := gRange_lo T 0 6
      have t2 := gRange_hi T (a := 0) (b := 6) (by omega)
      exact ⟨by omega, by omega⟩)) [.o 3010] 0 ?_
     have kR : TapeOK (gRange T 0 6).2 := by simpa using kT
     generalize gRange T 0 6 = V at kR ⊢
     obtain ⟨v, T'⟩ := V
     simp only at kR ⊢
     simp -dsimp
     try refine ⟨?_, ⟨by kernel_rfl⟩⟩
     obtain ⟨q, hq⟩ : ∃ q : List Int, q = [r, v] := ⟨_, rfl⟩
     have hql : q.length = 2 := by rw [hq]; rfl
     refine ALoop.of [] (fun k => k==0||k==1||k==2||k==6||k==7||k==10||k==11||k==12||k==13||k==14||k==15||k==16||k==17||k==18||k==19||k==29||k==41||k==61||k==67||k==74||k==86||k==92||k==127) (ι := { j : Nat // j ≤ 2 })
      (fun z => [(Pl.s 1, It.v (.d (.sl (tbs raw)))), (Pl.s 2, It.v (.d (.int .i64 r))), (Pl.s 6, It.v (.d (.bool false))), (Pl.s 7, It.v (.ptr (.o 3010) 0)), (Pl.s 11, It.v (.d (.sl [[.sl (tbs l)], [.sl (tbs raw)]]))), (Pl.o 3010, tapeI T'), (Pl.s 12, It.v (.d (.int .i64 i))), (Pl.s 14, It.v (.d (ints q))), (Pl.s 15, It.v (.d (.int .i64 z.1)))]) (fun z => 2 - z.1) ⟨0, by omega⟩ ?_ ?_
     ·exact GS.to (by simp [hq, ints])
     ·rintro ⟨j, j1⟩
      by_cases hj : j < 2
      ·have hjz : (j : Int) < 2 := by omega
       have hz : q[j]? = some (q[j]'(by omega)) := List.getElem?_eq_getElem (by omega)
       generalize q[j]'(by omega) = n at hz
       have hz' : (q.map fun n => [D.int .i64 n])[j]? = some [.int .i64 n] := by simp [hz]
       have d1 := find_c y hys n
       have d2 := find11_c y hys n
       have d3 := same11_c ((findT y n).getD tb0) ((findT y n).getD tb0) (findT_sm hys n)
       rw [sameTB_t rfl] at d3
       simp only [tblT, rwsD_eq, foundT] at d1 d2 d3
       generalize (findT y n).getD tb0 = b at d1 d2 d3
       generalize (findT y n).isSome = bb at d1 d2
       have w2 : IntKind.i64.wrap ((j : Int) + 1) = (j : Int) + 1 := wrap_i64 (by omega) (by omega)
       simp -dsimp [hiz, hjz, hql, hyl, hz', hz, ints]
       and_intros
       all_goals try first | omega | exact ⟨by kernel_rfl⟩ | rfl
       refine ACall.of d1 [] 0 ?_
       simp -dsimp [hiz, hjz, hql, hyl, hz', hz, ints]
       and_intros
       all_goals try first | omega | exact ⟨by kernel_rfl⟩ | rfl
       refine ACall.of d2 [] 0 ?_
       simp -dsimp [hiz, hjz, hql, hyl, hz', hz, ints]
       and_intros
       all_goals try first | omega | exact ⟨by kernel_rfl⟩ | rfl
       refine ACall.of d3 [] 0 ?_
       simp -dsimp [w2]
       and_intros
       all_goals try first | omega | exact ⟨by kernel_rfl⟩ | rfl
       exact ⟨⟨j + 1, by omega⟩, GS.to (by simp [ints]), by simp; omega⟩
      ·have hjz : ¬ (j : Int) < 2 := by omega
       simp -dsimp [hjz, w1]
       and_intros
       all_goals try first | omega | exact ⟨by kernel_rfl⟩ | rfl
       exact ⟨⟨(i + 1, T'), by omega, kR⟩, GS.to (by simp), by simp; omega⟩
 ·rw [hob]
  simp -dsimp
  refine ACall.of (table_c T2 kO 2 (by omega)) [.o 3010] 0 ?_
  have s1 := gTab_sm T2 2
  have k1 : TapeOK (gTab T2 2).2 := by rw [gTab_tape]; exact kO
  generalize gTab T2 2 = A at s1 k1 ⊢
  obtain ⟨t, T4⟩ := A
  simp only at s1 k1 ⊢
  have hX5 := hXs.app (t := t) (by omega) s1
  simp -dsimp [tblT, rwsD_eq]
  and_intros
  all_goals try first | omega | exact ⟨by kernel_rfl⟩ | rfl
  by_cases hl1 : 1 < (X ++ [t]).length
  ·obtain ⟨a, b, X2, hX2⟩ : ∃ a b X2, X ++ [t] = a :: b :: X2 := by
    match X ++ [t], hl1 with
    | a :: b :: X2, _ => exact ⟨a, b, X2, rfl⟩
   have hE : dd (tbs X) ++ [[TV.d (.int .i64 t.r), TV.d (.int .i64 t.sd), TV.d (.int .i64 t.len), TV.d (.sl (rws t.rows))]] = dd (tbs (a :: b :: X2)) := by
    rw [← hX2]; simp [dd, tbs, Tb.cs, rwsD_eq]; try rfl
   have hLn : X.length = X2.length + 1 := by
    have := congrArg List.length hX2
    simp at this
    omega
   rw [hX2] at hX5
   obtain ⟨ob2, T3, kT3, ho2⟩ := key (a :: b :: X2) T4 k1 (by simp)
   have hlz : (1 : Int) < ((X2.length + 1 : Nat) : Int) + 1 := by omega
   have hl2 : (1 : Int) < (X2.length : Int) + 1 + 1 := by omega
   simp -dsimp [tblT, rwsD_eq, hE, hLn, hlz, hl2]
   refine ACall.of ho2 [.o 3010] 0 ?_
   rcases (Bool.eq_false_or_eq_true ob2).symm with h2 | h2
   ·rw [h2]
    simp -dsimp [hE, hLn, hlz, hl2]
    try and_intros
    all_goals try first | omega | exact ⟨by kernel_rfl⟩ | rfl
    obtain ⟨l, hl, hsl⟩ : ∃ l, l = a :: b :: X2 ∧ SmL l := ⟨_, rfl, hX5⟩
    obtain ⟨Tf, hTf, kTf⟩ : ∃ Tf, Tf = T3 ∧ TapeOK Tf := ⟨_, rfl, kT3⟩
    refine ALoop.of [] (fun k => k==0||k==1||k==2||k==6||k==7||k==10||k==11||k==12||k==13||k==14||k==15||k==16||k==17||k==18||k==19||k==29||k==41||k==61||k==67||k==74||k==86||k==92||k==127) (ι := { z : Nat × Tp // z.1 ≤ 2 ∧ TapeOK z.2 })
     (fun z => [(Pl.s 1, It.v (.d (.sl (tbs raw)))), (Pl.s 2, It.v (.d (.int .i64 r))), (Pl.s 6, It.v (.d (.bool false))), (Pl.s 7, It.v (.ptr (.o 3010) 0)), (Pl.s 11, It.v (.d (.sl [[.sl (tbs l)], [.sl (tbs raw)]]))), (Pl.o 3010, tapeI z.1.2), (Pl.s 12, It.v (.d (.int .i64 z.1.1)))]) (fun z => 2 - z.1.1) ⟨(0, Tf), by omega, kTf⟩ ?_ ?_
    ·exact GS.to (by simp [hl, hTf, tbs, Tb.cs, rwsD_eq, ints])
    ·rintro ⟨⟨i, T⟩, i1, kT⟩
     simp only at i1 kT
     by_cases hi : i < 2 ∧ raw.length ≤ 60
     case neg =>
      have key2 : ¬ (i : Int) < 2 ∨ ((i : Int) < 2 ∧ ¬ (raw.length : Int) ≤ 60) := by omega
      rcases key2 with hiz | ⟨hiz, hrz⟩
      ·simp -dsimp [hiz]
       and_intros
       all_goals try first | omega | exact ⟨by kernel_rfl⟩ | rfl
       refine ACall.of awake11_c [] 0 ?_
       simp -dsimp
       and_intros
       all_goals try first | rfl | omega | exact ⟨by kernel_rfl⟩
       refine Fin.of ?_
       simp
      ·have hrz' : ¬ raw.length ≤ 60 := by omega
       simp -dsimp [hiz, hrz, hrz']
       and_intros
       all_goals try first | omega | exact ⟨by kernel_rfl⟩ | rfl
       refine ACall.of awake11_c [] 0 ?_
       simp -dsimp
       and_intros
       all_goals try first | rfl | omega | exact ⟨by kernel_rfl⟩
       refine Fin.of ?_
       simp
     have hiz : (i : Int) < 2 := by omega
     have hrz : (raw.length : Int) ≤ 60 := by omega
     have hrz' := hi.2
     have w1 : IntKind.i64.wrap ((i : Int) + 1) = (i : Int) + 1 := wrap_i64 (by omega) (by omega)
     simp -dsimp [hiz, hrz, hrz']
     and_intros
     all_goals try first | omega | exact ⟨by kernel_rfl⟩ | rfl
     refine ALoop.of [] (fun k => k==0||k==1||k==2||k==6||k==7||k==10||k==11||k==12||k==13||k==14||k==15||k==16||k==17||k==18||k==19||k==29||k==41||k==61||k==67||k==74||k==86||k==92||k==127) (ι := { k : Nat // k ≤ raw.length ∧ ∀ a, a < k → ∀ b, raw[a]? = some b → bigB b = false })
      (fun z => [(Pl.s 1, It.v (.d (.sl (tbs raw)))), (Pl.s 2, It.v (.d (.int .i64 r))), (Pl.s 6, It.v (.d (.bool false))), (Pl.s 7, It.v (.ptr (.o 3010) 0)), (Pl.s 11, It.v (.d (.sl [[.sl (tbs l)], [.sl (tbs raw)]]))), (Pl.o 3010, tapeI T), (Pl.s 12, It.v (.d (.int .i64 i))), (Pl.s 13, It.v (.d (.int .i64 z.1)))]) (fun z => raw.length - z.1) ⟨0, by omega, fun a h => by omega⟩ ?_ ?_
     ·exact GS.to (by simp)
     ·rintro ⟨k, k1, k2⟩
      by_cases hk : k < raw.length
      case pos =>
       have hkz : (k : Int) < raw.length := by omega
       have hy : raw[k]? = some raw[k] := List.getElem?_eq_getElem hk
       have hb := hr1 raw[k] (List.getElem_mem hk)
       generalize raw[k] = b at hy hb
       have hy' := tbs_get hy
       have hbig := big_c b hb.1 hb.2
       simp only [tblT, rwsD_eq] at hbig
       have w2 : IntKind.i64.wrap ((k : Int) + 1) = (k : Int) + 1 := wrap_i64 (by omega) (by omega)
       rcases (Bool.eq_false_or_eq_true (bigB b)).symm with hbb | hbb
       ·rw [hbb] at hbig
        simp -dsimp [hkz, hy']
        refine ACall.of hbig [] 0 ?_
        simp -dsimp [w2]
        and_intros
        all_goals try first | omega | exact ⟨by kernel_rfl⟩ | rfl
        exact ⟨⟨k + 1, by omega, fun a ha c hc => by
         by_cases e : a = k
         ·subst e; rw [hy] at hc; rw [← Option.some.inj hc]; exact hbb
         ·exact k2 a (by omega) c hc⟩, GS.to (by simp), by simp; omega⟩
       ·rw [hbb] at hbig
        simp -dsimp [hkz, hy']
        refine ACall.of hbig [] 0 ?_
        simp -dsimp
        and_intros
        all_goals try first | omega | exact ⟨by kernel_rfl⟩ | rfl
        refine ACall.of awake11_c [] 0 ?_
        simp -dsimp
        and_intros
        all_goals try first | rfl | omega | exact ⟨by kernel_rfl⟩
        refine Fin.of ?_
        simp
      have hkz : ¬ (k : Int) < raw.length := by omega
      have hsr : SmL raw := ⟨by omega, fun b hb => by
       obtain ⟨a, ha, rfl⟩ := List.mem_iff_getElem.1 hb
       exact bigB_sm (k2 a (by omega) _ (List.getElem?_eq_getElem ha))⟩
      obtain ⟨y, hyl, hys⟩ : ∃ y : List Tb, [[D.sl (tbs l)], [D.sl (tbs raw)]][i]? = some [D.sl (tbs y)] ∧ SmL y := by
       rcases (by omega : i = 0 ∨ i = 1) with rfl | rfl
       ·exact ⟨l, rfl, hsl⟩
       ·exact ⟨raw, rfl, hsr⟩
      have c1 := checkA_c y hys
      have c2 := checkA11_c y hys
      simp -dsimp [hkz]
      simp -dsimp [hiz, hyl]
      and_intros
      all_goals try first | omega | exact ⟨by kernel_rfl⟩ | rfl
      refine ACall.of c1 [] 0 ?_
      simp -dsimp [hiz, hyl]
      refine ACall.of c2 [] 0 ?_
      simp -dsimp
      and_intros
      all_goals try first | omega | exact ⟨by kernel_rfl⟩ | rfl
      refine ACall.of (range_c T kT 0 6 ⟨by omega, by omega⟩ ⟨by omega, by omega⟩ ⟨by omega, by omega⟩ (by
       have t1 := gRange_lo T 0 6
       have t2 := gRange_hi T (a := 0) (b := 6) (by omega)
       exact ⟨by omega, by omega⟩)) [.o 3010] 0 ?_
      have kR : TapeOK (gRange T 0 6).2 := by simpa using kT
      generalize gRange T 0 6 = V at kR ⊢
      obtain ⟨v, T'⟩ := V
      simp only at kR ⊢
      simp -dsimp
      try refine ⟨?_, ⟨by kernel_rfl⟩⟩
      obtain ⟨q, hq⟩ : ∃ q : List Int, q = [r, v] := ⟨_, rfl⟩
      have hql : q.length = 2 := by rw [hq]; rfl
      refine ALoop.of [] (fun k => k==0||k==1||k==2||k==6||k==7||k==10||k==11||k==12||k==13||k==14||k==15||k==16||k==17||k==18||k==19||k==29||k==41||k==61||k==67||k==74||k==86||k==92||k==127) (ι := { j : Nat // j ≤ 2 })
       (fun z => [(Pl.s 1, It.v (.d (.sl (tbs raw)))), (Pl.s 2, It.v (.d (.int .i64 r))), (Pl.s 6, It.v (.d (.bool false))), (Pl.s 7, It.v (.ptr (.o 3010) 0)), (Pl.s 11, It.v (.d (.sl [[.sl (tbs l)], [.sl (tbs raw)]]))), (Pl.o 3010, tapeI T'), (Pl.s 12, It.v (.d (.int .i64 i))), (Pl.s 14, It.v (.d (ints q))), (Pl.s 15, It.v (.d (.int .i64 z.1)))]) (fun z => 2 - z.1) ⟨0, by omega⟩ ?_ ?_
      ·exact GS.to (by simp [hq, ints])
      ·rintro ⟨j, j1⟩
       by_cases hj : j < 2
       ·have hjz : (j : Int) < 2 := by omega
        have hz : q[j]? = some (q[j]'(by omega)) := List.getElem?_eq_getElem (by omega)
        generalize q[j]'(by omega) = n at hz
        have hz' : (q.map fun n => [D.int .i64 n])[j]? = some [.int .i64 n] := by simp [hz]
        have d1 := find_c y hys n
        have d2 := find11_c y hys n
        have d3 := same11_c ((findT y n).getD tb0) ((findT y n).getD tb0) (findT_sm hys n)
        rw [sameTB_t rfl] at d3
        simp only [tblT, rwsD_eq, foundT] at d1 d2 d3
        generalize (findT y n).getD tb0 = b at d1 d2 d3
        generalize (findT y n).isSome = bb at d1 d2
        have w2 : IntKind.i64.wrap ((j : Int) + 1) = (j : Int) + 1 := wrap_i64 (by omega) (by omega)
        simp -dsimp [hiz, hjz, hql, hyl, hz', hz, ints]
        and_intros
        all_goals try first | omega | exact ⟨by kernel_rfl⟩ | rfl
        refine ACall.of d1 [] 0 ?_
        simp -dsimp [hiz, hjz, hql, hyl, hz', hz, ints]
        and_intros
        all_goals try first | omega | exact ⟨by kernel_rfl⟩ | rfl
        refine ACall.of d2 [] 0 ?_
        simp -dsimp [hiz, hjz, hql, hyl, hz', hz, ints]
        and_intros
        all_goals try first | omega | exact ⟨by kernel_rfl⟩ | rfl
        refine ACall.of d3 [] 0 ?_
        simp -dsimp [w2]
        and_intros
        all_goals try first | omega | exact ⟨by kernel_rfl⟩ | rfl
        exact ⟨⟨j + 1, by omega⟩, GS.to (by simp [ints]), by simp; omega⟩
       ·have hjz : ¬ (j : Int) < 2 := by omega
        simp -dsimp [hjz, w1]
        and_intros
        all_goals try first | omega | exact ⟨by kernel_rfl⟩ | rfl
        exact ⟨⟨(i + 1, T'), by omega, kR⟩, GS.to (by simp), by simp; omega⟩
   ·rw [h2]
    simp -dsimp [hE, hLn, hlz, hl2]
    try simp -dsimp [tbs, Tb.cs, hlz, hl2]
    and_intros
    all_goals try first | omega | exact ⟨by kernel_rfl⟩ | rfl
    obtain ⟨l, hl, hsl⟩ : ∃ l, l = b :: a :: X2 ∧ SmL l := ⟨_, rfl, SmL.swp hX5⟩
    obtain ⟨Tf, hTf, kTf⟩ : ∃ Tf, Tf = T3 ∧ TapeOK Tf := ⟨_, rfl, kT3⟩
    refine ALoop.of [] (fun k => k==0||k==1||k==2||k==6||k==7||k==10||k==11||k==12||k==13||k==14||k==15||k==16||k==17||k==18||k==19||k==29||k==41||k==61||k==67||k==74||k==86||k==92||k==127) (ι := { z : Nat × Tp // z.1 ≤ 2 ∧ TapeOK z.2 })
     (fun z => [(Pl.s 1, It.v (.d (.sl (tbs raw)))), (Pl.s 2, It.v (.d (.int .i64 r))), (Pl.s 6, It.v (.d (.bool false))), (Pl.s 7, It.v (.ptr (.o 3010) 0)), (Pl.s 11, It.v (.d (.sl [[.sl (tbs l)], [.sl (tbs raw)]]))), (Pl.o 3010, tapeI z.1.2), (Pl.s 12, It.v (.d (.int .i64 z.1.1)))]) (fun z => 2 - z.1.1) ⟨(0, Tf), by omega, kTf⟩ ?_ ?_
    ·exact GS.to (by simp [hl, hTf, tbs, Tb.cs, rwsD_eq, ints])
    ·rintro ⟨⟨i, T⟩, i1, kT⟩
     simp only at i1 kT
     by_cases hi : i < 2 ∧ raw.length ≤ 60
     case neg =>
      have key2 : ¬ (i : Int) < 2 ∨ ((i : Int) < 2 ∧ ¬ (raw.length : Int) ≤ 60) := by omega
      rcases key2 with hiz | ⟨hiz, hrz⟩
      ·simp -dsimp [hiz]
       and_intros
       all_goals try first | omega | exact ⟨by kernel_rfl⟩ | rfl
       refine ACall.of awake11_c [] 0 ?_
       simp -dsimp
       and_intros
       all_goals try first | rfl | omega | exact ⟨by kernel_rfl⟩
       refine Fin.of ?_
       simp
      ·have hrz' : ¬ raw.length ≤ 60 := by omega
       simp -dsimp [hiz, hrz, hrz']
       and_intros
       all_goals try first | omega | exact ⟨by kernel_rfl⟩ | rfl
       refine ACall.of awake11_c [] 0 ?_
       simp -dsimp
       and_intros
       all_goals try first | rfl | omega | exact ⟨by kernel_rfl⟩
       refine Fin.of ?_
       simp
     have hiz : (i : Int) < 2 := by omega
     have hrz : (raw.length : Int) ≤ 60 := by omega
     have hrz' := hi.2
     have w1 : IntKind.i64.wrap ((i : Int) + 1) = (i : Int) + 1 := wrap_i64 (by omega) (by omega)
     simp -dsimp [hiz, hrz, hrz']
     and_intros
     all_goals try first | omega | exact ⟨by kernel_rfl⟩ | rfl
     refine ALoop.of [] (fun k => k==0||k==1||k==2||k==6||k==7||k==10||k==11||k==12||k==13||k==14||k==15||k==16||k==17||k==18||k==19||k==29||k==41||k==61||k==67||k==74||k==86||k==92||k==127) (ι := { k : Nat // k ≤ raw.length ∧ ∀ a, a < k → ∀ b, raw[a]? = some b → bigB b = false })
      (fun z => [(Pl.s 1, It.v (.d (.sl (tbs raw)))), (Pl.s 2, It.v (.d (.int .i64 r))), (Pl.s 6, It.v (.d (.bool false))), (Pl.s 7, It.v (.ptr (.o 3010) 0)), (Pl.s 11, It.v (.d (.sl [[.sl (tbs l)], [.sl (tbs raw)]]))), (Pl.o 3010, tapeI T), (Pl.s 12, It.v (.d (.int .i64 i))), (Pl.s 13, It.v (.d (.int .i64 z.1)))]) (fun z => raw.length - z.1) ⟨0, by omega, fun a h => by omega⟩ ?_ ?_
     ·exact GS.to (by simp)
     ·rintro ⟨k, k1, k2⟩
      by_cases hk : k < raw.length
      case pos =>
       have hkz : (k : Int) < raw.length := by omega
       have hy : raw[k]? = some raw[k] := List.getElem?_eq_getElem hk
       have hb := hr1 raw[k] (List.getElem_mem hk)
       generalize raw[k] = b at hy hb
       have hy' := tbs_get hy
       have hbig := big_c b hb.1 hb.2
       simp only [tblT, rwsD_eq] at hbig
       have w2 : IntKind.i64.wrap ((k : Int) + 1) = (k : Int) + 1 := wrap_i64 (by omega) (by omega)
       rcases (Bool.eq_false_or_eq_true (bigB b)).symm with hbb | hbb
       ·rw [hbb] at hbig
        simp -dsimp [hkz, hy']
        refine ACall.of hbig [] 0 ?_
        simp -dsimp [w2]
        and_intros
        all_goals try first | omega | exact ⟨by kernel_rfl⟩ | rfl
        exact ⟨⟨k + 1, by omega, fun a ha c hc => by
         by_cases e : a = k
         ·subst e; rw [hy] at hc; rw [← Option.some.inj hc]; exact hbb
         ·exact k2 a (by omega) c hc⟩, GS.to (by simp), by simp; omega⟩
       ·rw [hbb] at hbig
        simp -dsimp [hkz, hy']
        refine ACall.of hbig [] 0 ?_
        simp -dsimp
        and_intros
        all_goals try first | omega | exact ⟨by kernel_rfl⟩ | rfl
        refine ACall.of awake11_c [] 0 ?_
        simp -dsimp
        and_intros
        all_goals try first | rfl | omega | exact ⟨by kernel_rfl⟩
        refine Fin.of ?_
        simp
      have hkz : ¬ (k : Int) < raw.length := by omega
      have hsr : SmL raw := ⟨by omega, fun b hb => by
       obtain ⟨a, ha, rfl⟩ := List.mem_iff_getElem.1 hb
       exact bigB_sm (k2 a (by omega) _ (List.getElem?_eq_getElem ha))⟩
      obtain ⟨y, hyl, hys⟩ : ∃ y : List Tb, [[D.sl (tbs l)], [D.sl (tbs raw)]][i]? = some [D.sl (tbs y)] ∧ SmL y := by
       rcases (by omega : i = 0 ∨ i = 1) with rfl | rfl
       ·exact ⟨l, rfl, hsl⟩
       ·exact ⟨raw, rfl, hsr⟩
      have c1 := checkA_c y hys
      have c2 := checkA11_c y hys
      simp -dsimp [hkz]
      simp -dsimp [hiz, hyl]
      and_intros
      all_goals try first | omega | exact ⟨by kernel_rfl⟩ | rfl
      refine ACall.of c1 [] 0 ?_
      simp -dsimp [hiz, hyl]
      refine ACall.of c2 [] 0 ?_
      simp -dsimp
      and_intros
      all_goals try first | omega | exact ⟨by kernel_rfl⟩ | rfl
      refine ACall.of (range_c T kT 0 6 ⟨by omega, by omega⟩ ⟨by omega, by omega⟩ ⟨by omega, by omega⟩ (by
       have t1 := gRange_lo T 0 6
       have t2 := gRange_hi T (a := 0) (b := 6) (by omega)
       exact ⟨by omega, by omega⟩)) [.o 3010] 0 ?_
      have kR : TapeOK (gRange T 0 6).2 := by simpa using kT
      generalize gRange T 0 6 = V at kR ⊢
      obtain ⟨v, T'⟩ := V
      simp only at kR ⊢
      simp -dsimp
      try refine ⟨?_, ⟨by kernel_rfl⟩⟩
      obtain ⟨q, hq⟩ : ∃ q : List Int, q = [r, v] := ⟨_, rfl⟩
      have hql : q.length = 2 := by rw [hq]; rfl
      refine ALoop.of [] (fun k => k==0||k==1||k==2||k==6||k==7||k==10||k==11||k==12||k==13||k==14||k==15||k==16||k==17||k==18||k==19||k==29||k==41||k==61||k==67||k==74||k==86||k==92||k==127) (ι := { j : Nat // j ≤ 2 })
       (fun z => [(Pl.s 1, It.v (.d (.sl (tbs raw)))), (Pl.s 2, It.v (.d (.int .i64 r))), (Pl.s 6, It.v (.d (.bool false))), (Pl.s 7, It.v (.ptr (.o 3010) 0)), (Pl.s 11, It.v (.d (.sl [[.sl (tbs l)], [.sl (tbs raw)]]))), (Pl.o 3010, tapeI T'), (Pl.s 12, It.v (.d (.int .i64 i))), (Pl.s 14, It.v (.d (ints q))), (Pl.s 15, It.v (.d (.int .i64 z.1)))]) (fun z => 2 - z.1) ⟨0, by omega⟩ ?_ ?_
      ·exact GS.to (by simp [hq, ints])
      ·rintro ⟨j, j1⟩
       by_cases hj : j < 2
       ·have hjz : (j : Int) < 2 := by omega
        have hz : q[j]? = some (q[j]'(by omega)) := List.getElem?_eq_getElem (by omega)
        generalize q[j]'(by omega) = n at hz
        have hz' : (q.map fun n => [D.int .i64 n])[j]? = some [.int .i64 n] := by simp [hz]
        have d1 := find_c y hys n
        have d2 := find11_c y hys n
        have d3 := same11_c ((findT y n).getD tb0) ((findT y n).getD tb0) (findT_sm hys n)
        rw [sameTB_t rfl] at d3
        simp only [tblT, rwsD_eq, foundT] at d1 d2 d3
        generalize (findT y n).getD tb0 = b at d1 d2 d3
        generalize (findT y n).isSome = bb at d1 d2
        have w2 : IntKind.i64.wrap ((j : Int) + 1) = (j : Int) + 1 := wrap_i64 (by omega) (by omega)
        simp -dsimp [hiz, hjz, hql, hyl, hz', hz, ints]
        and_intros
        all_goals try first | omega | exact ⟨by kernel_rfl⟩ | rfl
        refine ACall.of d1 [] 0 ?_
        simp -dsimp [hiz, hjz, hql, hyl, hz', hz, ints]
        and_intros
        all_goals try first | omega | exact ⟨by kernel_rfl⟩ | rfl
        refine ACall.of d2 [] 0 ?_
        simp -dsimp [hiz, hjz, hql, hyl, hz', hz, ints]
        and_intros
        all_goals try first | omega | exact ⟨by kernel_rfl⟩ | rfl
        refine ACall.of d3 [] 0 ?_
        simp -dsimp [w2]
        and_intros
        all_goals try first | omega | exact ⟨by kernel_rfl⟩ | rfl
        exact ⟨⟨j + 1, by omega⟩, GS.to (by simp [ints]), by simp; omega⟩
       ·have hjz : ¬ (j : Int) < 2 := by omega
        simp -dsimp [hjz, w1]
        and_intros
        all_goals try first | omega | exact ⟨by kernel_rfl⟩ | rfl
        exact ⟨⟨(i + 1, T'), by omega, kR⟩, GS.to (by simp), by simp; omega⟩
  ·have hlz : ¬ (1 : Int) < (X.length : Int) + 1 := by have := hl1; simp only [List.length_append, List.length_singleton] at this; omega
   simp -dsimp [tblT, rwsD_eq, hlz, hl1]
   try and_intros
   all_goals try first | omega | exact ⟨by kernel_rfl⟩ | rfl
   obtain ⟨l, hl, hsl⟩ : ∃ l, l = X ++ [t] ∧ SmL l := ⟨_, rfl, hX5⟩
   obtain ⟨Tf, hTf, kTf⟩ : ∃ Tf, Tf = T4 ∧ TapeOK Tf := ⟨_, rfl, k1⟩
   refine ALoop.of [] (fun k => k==0||k==1||k==2||k==6||k==7||k==10||k==11||k==12||k==13||k==14||k==15||k==16||k==17||k==18||k==19||k==29||k==41||k==61||k==67||k==74||k==86||k==92||k==127) (ι := { z : Nat × Tp // z.1 ≤ 2 ∧ TapeOK z.2 })
    (fun z => [(Pl.s 1, It.v (.d (.sl (tbs raw)))), (Pl.s 2, It.v (.d (.int .i64 r))), (Pl.s 6, It.v (.d (.bool false))), (Pl.s 7, It.v (.ptr (.o 3010) 0)), (Pl.s 11, It.v (.d (.sl [[.sl (tbs l)], [.sl (tbs raw)]]))), (Pl.o 3010, tapeI z.1.2), (Pl.s 12, It.v (.d (.int .i64 z.1.1)))]) (fun z => 2 - z.1.1) ⟨(0, Tf), by omega, kTf⟩ ?_ ?_
   ·exact GS.to (by simp [hl, hTf, tbs, Tb.cs, rwsD_eq, ints])
   ·rintro ⟨⟨i, T⟩, i1, kT⟩
    simp only at i1 kT
    by_cases hi : i < 2 ∧ raw.length ≤ 60
    case neg =>
     have key2 : ¬ (i : Int) < 2 ∨ ((i : Int) < 2 ∧ ¬ (raw.length : Int) ≤ 60) := by omega
     rcases key2 with hiz | ⟨hiz, hrz⟩
     ·simp -dsimp [hiz]
      and_intros
      all_goals try first | omega | exact ⟨by kernel_rfl⟩ | rfl
      refine ACall.of awake11_c [] 0 ?_
      simp -dsimp
      and_intros
      all_goals try first | rfl | omega | exact ⟨by kernel_rfl⟩
      refine Fin.of ?_
      simp
     ·have hrz' : ¬ raw.length ≤ 60 := by omega
      simp -dsimp [hiz, hrz, hrz']
      and_intros
      all_goals try first | omega | exact ⟨by kernel_rfl⟩ | rfl
      refine ACall.of awake11_c [] 0 ?_
      simp -dsimp
      and_intros
      all_goals try first | rfl | omega | exact ⟨by kernel_rfl⟩
      refine Fin.of ?_
      simp
    have hiz : (i : Int) < 2 := by omega
    have hrz : (raw.length : Int) ≤ 60 := by omega
    have hrz' := hi.2
    have w1 : IntKind.i64.wrap ((i : Int) + 1) = (i : Int) + 1 := wrap_i64 (by omega) (by omega)
    simp -dsimp [hiz, hrz, hrz']
    and_intros
    all_goals try first | omega | exact ⟨by kernel_rfl⟩ | rfl
    refine ALoop.of [] (fun k => k==0||k==1||k==2||k==6||k==7||k==10||k==11||k==12||k==13||k==14||k==15||k==16||k==17||k==18||k==19||k==29||k==41||k==61||k==67||k==74||k==86||k==92||k==127) (ι := { k : Nat // k ≤ raw.length ∧ ∀ a, a < k → ∀ b, raw[a]? = some b → bigB b = false })
     (fun z => [(Pl.s 1, It.v (.d (.sl (tbs raw)))), (Pl.s 2, It.v (.d (.int .i64 r))), (Pl.s 6, It.v (.d (.bool false))), (Pl.s 7, It.v (.ptr (.o 3010) 0)), (Pl.s 11, It.v (.d (.sl [[.sl (tbs l)], [.sl (tbs raw)]]))), (Pl.o 3010, tapeI T), (Pl.s 12, It.v (.d (.int .i64 i))), (Pl.s 13, It.v (.d (.int .i64 z.1)))]) (fun z => raw.length - z.1) ⟨0, by omega, fun a h => by omega⟩ ?_ ?_
    ·exact GS.to (by simp)
    ·rintro ⟨k, k1, k2⟩
     by_cases hk : k < raw.length
     case pos =>
      have hkz : (k : Int) < raw.length := by omega
      have hy : raw[k]? = some raw[k] := List.getElem?_eq_getElem hk
      have hb := hr1 raw[k] (List.getElem_mem hk)
      generalize raw[k] = b at hy hb
      have hy' := tbs_get hy
      have hbig := big_c b hb.1 hb.2
      simp only [tblT, rwsD_eq] at hbig
      have w2 : IntKind.i64.wrap ((k : Int) + 1) = (k : Int) + 1 := wrap_i64 (by omega) (by omega)
      rcases (Bool.eq_false_or_eq_true (bigB b)).symm with hbb | hbb
      ·rw [hbb] at hbig
       simp -dsimp [hkz, hy']
       refine ACall.of hbig [] 0 ?_
       simp -dsimp [w2]
       and_intros
       all_goals try first | omega | exact ⟨by kernel_rfl⟩ | rfl
       exact ⟨⟨k + 1, by omega, fun a ha c hc => by
        by_cases e : a = k
        ·subst e; rw [hy] at hc; rw [← Option.some.inj hc]; exact hbb
        ·exact k2 a (by omega) c hc⟩, GS.to (by simp), by simp; omega⟩
      ·rw [hbb] at hbig
       simp -dsimp [hkz, hy']
       refine ACall.of hbig [] 0 ?_
       simp -dsimp
       and_intros
       all_goals try first | omega | exact ⟨by kernel_rfl⟩ | rfl
       refine ACall.of awake11_c [] 0 ?_
       simp -dsimp
       and_intros
       all_goals try first | rfl | omega | exact ⟨by kernel_rfl⟩
       refine Fin.of ?_
       simp
     have hkz : ¬ (k : Int) < raw.length := by omega
     have hsr : SmL raw := ⟨by omega, fun b hb => by
      obtain ⟨a, ha, rfl⟩ := List.mem_iff_getElem.1 hb
      exact bigB_sm (k2 a (by omega) _ (List.getElem?_eq_getElem ha))⟩
     obtain ⟨y, hyl, hys⟩ : ∃ y : List Tb, [[D.sl (tbs l)], [D.sl (tbs raw)]][i]? = some [D.sl (tbs y)] ∧ SmL y := by
      rcases (by omega : i = 0 ∨ i = 1) with rfl | rfl
      ·exact ⟨l, rfl, hsl⟩
      ·exact ⟨raw, rfl, hsr⟩
     have c1 := checkA_c y hys
     have c2 := checkA11_c y hys
     simp -dsimp [hkz]
     simp -dsimp [hiz, hyl]
     and_intros
     all_goals try first | omega | exact ⟨by kernel_rfl⟩ | rfl
     refine ACall.of c1 [] 0 ?_
     simp -dsimp [hiz, hyl]
     refine ACall.of c2 [] 0 ?_
     simp -dsimp
     and_intros
     all_goals try first | omega | exact ⟨by kernel_rfl⟩ | rfl
     refine ACall.of (range_c T kT 0 6 ⟨by omega, by omega⟩ ⟨by omega, by omega⟩ ⟨by omega, by omega⟩ (by
      have t1 := gRange_lo T 0 6
      have t2 := gRange_hi T (a := 0) (b := 6) (by omega)
      exact ⟨by omega, by omega⟩)) [.o 3010] 0 ?_
     have kR : TapeOK (gRange T 0 6).2 := by simpa using kT
     generalize gRange T 0 6 = V at kR ⊢
     obtain ⟨v, T'⟩ := V
     simp only at kR ⊢
     simp -dsimp
     try refine ⟨?_, ⟨by kernel_rfl⟩⟩
     obtain ⟨q, hq⟩ : ∃ q : List Int, q = [r, v] := ⟨_, rfl⟩
     have hql : q.length = 2 := by rw [hq]; rfl
     refine ALoop.of [] (fun k => k==0||k==1||k==2||k==6||k==7||k==10||k==11||k==12||k==13||k==14||k==15||k==16||k==17||k==18||k==19||k==29||k==41||k==61||k==67||k==74||k==86||k==92||k==127) (ι := { j : Nat // j ≤ 2 })
      (fun z => [(Pl.s 1, It.v (.d (.sl (tbs raw)))), (Pl.s 2, It.v (.d (.int .i64 r))), (Pl.s 6, It.v (.d (.bool false))), (Pl.s 7, It.v (.ptr (.o 3010) 0)), (Pl.s 11, It.v (.d (.sl [[.sl (tbs l)], [.sl (tbs raw)]]))), (Pl.o 3010, tapeI T'), (Pl.s 12, It.v (.d (.int .i64 i))), (Pl.s 14, It.v (.d (ints q))), (Pl.s 15, It.v (.d (.int .i64 z.1)))]) (fun z => 2 - z.1) ⟨0, by omega⟩ ?_ ?_
     ·exact GS.to (by simp [hq, ints])
     ·rintro ⟨j, j1⟩
      by_cases hj : j < 2
      ·have hjz : (j : Int) < 2 := by omega
       have hz : q[j]? = some (q[j]'(by omega)) := List.getElem?_eq_getElem (by omega)
       generalize q[j]'(by omega) = n at hz
       have hz' : (q.map fun n => [D.int .i64 n])[j]? = some [.int .i64 n] := by simp [hz]
       have d1 := find_c y hys n
       have d2 := find11_c y hys n
       have d3 := same11_c ((findT y n).getD tb0) ((findT y n).getD tb0) (findT_sm hys n)
       rw [sameTB_t rfl] at d3
       simp only [tblT, rwsD_eq, foundT] at d1 d2 d3
       generalize (findT y n).getD tb0 = b at d1 d2 d3
       generalize (findT y n).isSome = bb at d1 d2
       have w2 : IntKind.i64.wrap ((j : Int) + 1) = (j : Int) + 1 := wrap_i64 (by omega) (by omega)
       simp -dsimp [hiz, hjz, hql, hyl, hz', hz, ints]
       and_intros
       all_goals try first | omega | exact ⟨by kernel_rfl⟩ | rfl
       refine ACall.of d1 [] 0 ?_
       simp -dsimp [hiz, hjz, hql, hyl, hz', hz, ints]
       and_intros
       all_goals try first | omega | exact ⟨by kernel_rfl⟩ | rfl
       refine ACall.of d2 [] 0 ?_
       simp -dsimp [hiz, hjz, hql, hyl, hz', hz, ints]
       and_intros
       all_goals try first | omega | exact ⟨by kernel_rfl⟩ | rfl
       refine ACall.of d3 [] 0 ?_
       simp -dsimp [w2]
       and_intros
       all_goals try first | omega | exact ⟨by kernel_rfl⟩ | rfl
       exact ⟨⟨j + 1, by omega⟩, GS.to (by simp [ints]), by simp; omega⟩
      ·have hjz : ¬ (j : Int) < 2 := by omega
       simp -dsimp [hjz, w1]
       and_intros
       all_goals try first | omega | exact ⟨by kernel_rfl⟩ | rfl
       exact ⟨⟨(i + 1, T'), by omega, kR⟩, GS.to (by simp), by simp; omega⟩
end Go.Proofs

/-
  What functions of the program compute, stated as contracts over plain data; the conditions of each stand in its own statement.
-/
import Derived.Test.YtkhgmgelbgondaaD15
import Derived.Test.YtkhgmgelbgondaaD10
import Derived.Test.YtkhgmgelbgondaaD7
set_option linter.unusedSimpArgs false
set_option maxRecDepth 100000
set_option maxHeartbeats 8000000
namespace Go.Proofs
open Go Go.Tr

theorem gMemL_ok : ∀ (n : Nat) (T : Tp) (w : Int) (l : List Mem), TapeOK (gMemL n T w l).2 = TapeOK T
  | 0, _, _, _ => rfl
  | n + 1, T, w, l => by simp only [gMemL]; rw [gMemL_ok n, gMem_ok]
@[simp] theorem gMbs_ok (T : Tp) (n : Int) : TapeOK (gMbs T n).2 = TapeOK T := by simp [gMbs, gMemL_ok]
theorem fnd_cons (x : Wnt) (l : List Wnt) (g : Int) : fnd (x :: l) g = if x.g = g then x.f else fnd l g := by
  unfold fnd
  rw [opt_cons]
  split <;> rfl
theorem fnd_at : ∀ {l : List Wnt} {g : Int} {i : Nat} {x : Wnt}, l[i]? = some x → x.g = g → (∀ a, a < i → ∀ y, l[a]? = some y → ¬ y.g = g) → fnd l g = x.f
  | [], _, _, _, hx, _, _ => by simp at hx
  | y :: l, g, 0, x, hx, hq, _ => by
    simp at hx; subst hx; rw [fnd_cons, if_pos hq]
  | y :: l, g, i + 1, x, hx, hq, h => by
    rw [fnd_cons, if_neg (h 0 (by omega) y rfl)]
    exact fnd_at (by simpa using hx) hq fun a ha z hz => h (a + 1) (by omega) z (by simpa using hz)
theorem fnd_no : ∀ {l : List Wnt} {g : Int}, (∀ y ∈ l, ¬ y.g = g) → fnd l g = nF
  | [], _, _ => rfl
  | y :: l, g, h => by rw [fnd_cons, if_neg (h y (by simp)), fnd_no fun z hz => h z (by simp [hz])]
theorem rfind24_c (l : List Wnt) (hl : l.length ≤ 1000000) (g : Int) : Contract Try.prog 23 [.d (wntD l), .d (.int .i64 g)] [] (fltT (fnd l g)) [] [] := by
  have hN := nothing_c
  simp only [fltT] at hN
  refine contract_of Try.func23 rfl (fun E0 => ?_)
  refine awp.sound (g := .mk) (ow := []) (kp := (fun k => k == 0 || k == 1 || k == 4 || k == 6 || k == 7 || k == 8 || k == 9 || k == 10 || k == 16)) ?_
  rw [Try.ntmps23]
  simp -dsimp [wntD]
  refine ALoop.of [] (fun k => k == 0 || k == 1 || k == 4 || k == 6 || k == 7 || k == 8 || k == 9 || k == 10 || k == 16) (ι := { i : Nat // i ≤ l.length ∧ ∀ a, a < i → ∀ y, l[a]? = some y → ¬ y.g = g })
    (fun z => [(Pl.s 1, It.v (TV.d (D.int IntKind.i64 g))), (Pl.o 4, It.box [TV.d (D.int IntKind.i64 0), TV.c (Value.slice none 0 0)]), (Pl.s 4, It.v (TV.ptr (Pl.o 4) 0)),
      (Pl.s 7, It.v (TV.d (D.sl (List.map wntC l)))), (Pl.s 8, It.v (TV.d (D.int IntKind.i64 l.length))), (Pl.s 9, It.v (TV.d (D.int IntKind.i64 z.1)))])
    (fun z => l.length - z.1) ⟨0, by omega, fun a h => by omega⟩ ?_ ?_
  · exact GS.to (by simp)
  · rintro ⟨i, i1, i2⟩
    by_cases hi : i < l.length
    · have hiz : (i : Int) < l.length := by omega
      have hg : l[i]? = some l[i] := List.getElem?_eq_getElem hi
      have hm : l[i] ∈ l := List.getElem_mem hi
      generalize l[i] = y at hg hm
      have nx : ¬ y.g = g → ∀ a, a < i + 1 → ∀ y, l[a]? = some y → ¬ y.g = g := fun hb a ha z hz => by
        by_cases e : a = i
        · subst e; rw [hg] at hz; simp only [Option.some.injEq] at hz; subst hz; exact hb
        · exact i2 a (by omega) z hz
      by_cases b1 : y.g = g
      · have hfd := fnd_at hg b1 i2
        rw [hfd]
        simp -dsimp [hg, wntC, hiz, eq_true b1]
        and_intros
        all_goals try first | rfl | omega | exact ⟨by kernel_rfl⟩
        refine Fin.of ?_
        simp [fltT]
      · simp -dsimp [hg, wntC, hiz, b1, wrap_i64 (n := (i : Int) + 1) (by omega) (by omega)]
        and_intros
        all_goals try first | rfl | omega | exact ⟨by kernel_rfl⟩
        exact ⟨⟨i + 1, by omega, nx b1⟩, GS.to (by simp), by simp; omega⟩
    · have hiz : ¬ (i : Int) < l.length := by omega
      have all : ∀ y ∈ l, ¬ y.g = g := fun y hy => by
        obtain ⟨a, ha⟩ := List.getElem?_of_mem hy
        exact i2 a (by have := (List.getElem?_eq_some_iff.1 ha).1; omega) y ha
      rw [fnd_no all]
      simp -dsimp [hiz]
      refine ACall.of hN [] 0 ?_
      simp -dsimp
      and_intros
      all_goals try first | rfl | omega | exact ⟨by kernel_rfl⟩
      refine Fin.of ?_
      simp [fltT, nF]
theorem members_law (t : List Int) (ht : ∀ x ∈ t, I64 x) : Contract Try.prog 4 [.d (ints t)] [] (.d (.bool true)) [] [] := by
  refine contract_of Try.func4 rfl (fun E0 => ?_)
  refine awp.sound (g := .mk) (ow := []) (kp := (fun k => k == 0 || k == 2 || k == 3 || k == 4 || k == 5 || k == 6 || k == 7 || k == 8 || k == 9 || k == 10 || k == 11 || k == 12 || k == 13 || k == 14 || k == 15 || k == 16 || k == 17 || k == 18 || k == 20 || k == 85 || k == 94 || k == 106 || k == 108 || k == 109 || k == 110 || k == 111 || k == 121)) ?_
  rw [Try.ntmps4]
  simp -dsimp
  try refine ⟨?_, ⟨by kernel_rfl⟩⟩
  refine ACall.of (new_c t) [] 2000 ?_
  simp -dsimp
  have k0 : TapeOK (t.take 2000, 0) := ⟨by simp; omega, fun x hx => ht x (List.mem_of_mem_take hx)⟩
  generalize (t.take 2000, 0) = T0 at k0 ⊢
  refine ACall.of (members_c T0 k0 8 (by omega)) [.o 2009] 0 ?_
  have hm := gMbs_all T0 (n := 8) (by omega)
  have hv := gMbs_vld T0 (n := 8) (by omega)
  have km : TapeOK (gMbs T0 8).2 := by simpa using k0
  generalize gMbs T0 8 = R0 at hm hv km ⊢
  obtain ⟨m, T1⟩ := R0
  simp only at hm hv km ⊢
  have hlen : m.l.length ≤ 8 := by have := hm.2.2.1; omega
  obtain ⟨v1, v2, v3, v4, v5, v6⟩ := vldM_zero hv
  have hfl : ∀ x ∈ m.l, x.f.s.length ≤ 1000000 := fun x hx => by have := ok_len (v4 x hx); omega
  simp -dsimp [mbsT]
  try refine ⟨?_, ⟨by kernel_rfl⟩⟩
  refine ACall.of (range_c T1 km 1 8 ⟨by omega, by omega⟩ ⟨by omega, by omega⟩ ⟨by omega, by omega⟩ ⟨by have := gRange_lo T1 1 8; omega, by have := gRange_hi T1 (a := 1) (b := 8) (by omega); omega⟩) [.o 2009] 0 ?_
  have h1 := gRange_lo T1 1 8
  have h2 := gRange_hi T1 (a := 1) (b := 8) (by omega)
  have kh : TapeOK (gRange T1 1 8).2 := by simpa using km
  generalize gRange T1 1 8 = R1 at h1 h2 kh ⊢
  obtain ⟨h, T2⟩ := R1
  simp only at h1 h2 kh ⊢
  simp -dsimp
  try refine ⟨?_, ⟨by kernel_rfl⟩⟩
  refine ACall.of (range_c T2 kh 1 4 ⟨by omega, by omega⟩ ⟨by omega, by omega⟩ ⟨by omega, by omega⟩ ⟨by have := gRange_lo T2 1 4; omega, by have := gRange_hi T2 (a := 1) (b := 4) (by omega); omega⟩) [.o 2009] 0 ?_
  have g1 := gRange_lo T2 1 4
  have g2 := gRange_hi T2 (a := 1) (b := 4) (by omega)
  have kg : TapeOK (gRange T2 1 4).2 := by simpa using kh
  generalize gRange T2 1 4 = R2 at g1 g2 kg ⊢
  obtain ⟨g, T3⟩ := R2
  simp only at g1 g2 kg ⊢
  simp -dsimp
  try refine ⟨?_, ⟨by kernel_rfl⟩⟩
  refine ACall.of (filter_c T3 kg) [.o 2009] 0 ?_
  have hf := gFlt_flt T3
  generalize gFlt T3 = R3 at hf ⊢
  obtain ⟨f, T4⟩ := R3
  simp only at hf ⊢
  have hR := report_c m hv h g (by omega) (by omega) f hf 20 (by omega) (by omega)
  have hrv := rep_vld (m := m) hv (by omega) (h := h) (g := g) (by omega) (by omega) hf (life := 20) (by omega)
  obtain ⟨c, hc, hc1, hc2⟩ := rep_chg (m := m) hv (by omega) (h := h) (g := g) (by omega) (by omega) hf (life := 20) (by omega)
  have hnl : (repL m h g f 20).l.length ≤ 9 := by
    have hl' : (woM h g m.l).length ≤ m.l.length := List.length_filter_le _ _
    unfold repL; simp only; split
    · omega
    · rw [wiM_len]; omega
  generalize repL m h g f 20 = n at hR hrv hc hnl
  obtain ⟨n1, n2, n3, n4, n5, n6⟩ := vldM_zero hrv
  have hnf : ∀ x ∈ n.l, x.f.s.length ≤ 1000000 := fun x hx => by have := ok_len (n4 x hx); omega
  have hOa := iof_c m (by omega) hfl
  have ga := gs_len m.l
  have gn := gs_len n.l
  have eA : ofR m = (ofL m.l, 0) := by unfold ofR; rw [if_neg (by simp [hv]), if_neg (by omega)]
  rw [eA] at hOa
  have hOb := iof_c n (by omega) hnf
  have eB : ofR n = (ofL n.l, 0) := by unfold ofR; rw [if_neg (by simp [hrv]), if_neg (by omega)]
  rw [eB] at hOb
  have wla : (ofL m.l).length ≤ 1000000 := by simp only [ofL, List.length_map]; omega
  have wlb : (ofL n.l).length ≤ 1000000 := by simp only [ofL, List.length_map]; omega
  have wfa : ∀ x ∈ ofL m.l, x.f.s.length ≤ 1000000 := fun w hw => by
    obtain ⟨x, hx, rfl⟩ := (ofL_mem v6).1 hw
    have := ok_len (uni_ok v4 x.g); simp only; omega
  have wfb : ∀ x ∈ ofL n.l, x.f.s.length ≤ 1000000 := fun w hw => by
    obtain ⟨x, hx, rfl⟩ := (ofL_mem n6).1 hw
    have := ok_len (uni_ok n4 x.g); simp only; omega
  have hCh := ichanges_c (ofL m.l) (ofL n.l) wla wlb wfa wfb
  rw [hc] at hCh
  simp only [mbsT, fltT] at hR hOa hOb
  simp -dsimp [fltT]
  try refine ⟨?_, ⟨by kernel_rfl⟩⟩
  refine ACall.of hR [] 0 ?_
  simp -dsimp
  try refine ⟨?_, ⟨by kernel_rfl⟩⟩
  refine ACall.of hOa [] 0 ?_
  simp -dsimp
  try refine ⟨?_, ⟨by kernel_rfl⟩⟩
  refine ACall.of hOb [] 0 ?_
  simp -dsimp
  try refine ⟨?_, ⟨by kernel_rfl⟩⟩
  refine ACall.of hCh [] 0 ?_
  have hLv := leave_c n hrv h g
  have hany : ∃ b : Bool, b = n.l.any fun x => !woQ h g x := ⟨_, rfl⟩
  obtain ⟨b, hb⟩ := hany
  rw [← hb] at hLv
  have hov := wo_vld hrv h g
  have hol : (woM h g n.l).length ≤ n.l.length := List.length_filter_le _ _
  have hcc : ∃ w : Wnt, w.g = g ∧ (c = [] ∨ c = [w]) := by
    match c, hc1, hc2 with
    | [], _, _ => exact ⟨⟨g, nF⟩, rfl, .inl rfl⟩
    | [w], _, h2 => exact ⟨w, h2 w (by simp), .inr rfl⟩
    | _ :: _ :: _, h1, _ => simp at h1
  obtain ⟨w, hw, hcc⟩ := hcc
  cases b with
  | false =>
    simp only [mbsT, Bool.false_eq_true, if_false] at hLv
    rcases hcc with rfl | rfl
    all_goals
      simp -dsimp [wntD, wntC, hw]
      try refine ⟨?_, ⟨by kernel_rfl⟩⟩
      refine ACall.of hLv [] 0 ?_
      simp -dsimp
      try refine ⟨?_, ⟨by kernel_rfl⟩⟩
      refine ACall.of awake_c [] 0 ?_
      simp -dsimp
      and_intros
      all_goals try first | rfl | omega | exact ⟨by kernel_rfl⟩
      refine Fin.of ?_
      simp
  | true =>
    simp only [if_true] at hLv
    generalize ho : (⟨n.now, woM h g n.l⟩ : Mbs) = o at hLv hov
    have hol' : o.l.length ≤ 9 := by rw [← ho]; simp only; omega
    obtain ⟨o1, o2, o3, o4, o5, o6⟩ := vldM_zero hov
    have hof : ∀ x ∈ o.l, x.f.s.length ≤ 1000000 := fun x hx => by have := ok_len (o4 x hx); omega
    have go := gs_len o.l
    have hOc := iof_c o (by omega) hof
    have eC : ofR o = (ofL o.l, 0) := by unfold ofR; rw [if_neg (by simp [hov]), if_neg (by omega)]
    rw [eC] at hOc
    have wlc : (ofL o.l).length ≤ 1000000 := by simp only [ofL, List.length_map]; omega
    have hFd := fun x : Mem => rfind24_c (ofL o.l) wlc x.g
    have hFe := fun (x : Mem) (hx : x ∈ o.l) => fnd_ofL o6 hx
    have hWi := fun (x : Mem) (hx : x ∈ o.l) => of_within o4 hx
    simp only [mbsT, wntD] at hLv hOc hFd
    generalize ofL o.l = W at hOc hFd hFe
    have hEl := fun (x : Mem) (hx : x ∈ o.l) => ok_len (uni_ok o4 x.g)
    rcases hcc with rfl | rfl
    all_goals
      simp -dsimp [wntD, wntC, hw]
      try refine ⟨?_, ⟨by kernel_rfl⟩⟩
      refine ACall.of hLv [] 0 ?_
      simp -dsimp
      try refine ⟨?_, ⟨by kernel_rfl⟩⟩
      refine ACall.of hOc [] 0 ?_
      simp -dsimp [mems]
      try refine ⟨?_, ⟨by kernel_rfl⟩⟩
      refine ALoop.of [] (fun k => k == 0 || k == 2 || k == 3 || k == 4 || k == 5 || k == 6 || k == 7 || k == 8 || k == 9 || k == 10 || k == 11 || k == 12 || k == 13 || k == 14 || k == 15 || k == 16 || k == 17 || k == 18 || k == 20 || k == 85 || k == 94 || k == 106 || k == 108 || k == 109 || k == 110 || k == 111 || k == 121) (ι := { i : Nat // i ≤ o.l.length })
        (fun z => [(Pl.s 2, It.v (TV.d (D.bool false))), (Pl.s 17, It.v (TV.d (D.sl (List.map wntC W)))),
          (Pl.s 108, It.v (TV.d (D.sl (List.map memC o.l)))), (Pl.s 109, It.v (TV.d (D.int IntKind.i64 o.l.length))), (Pl.s 110, It.v (TV.d (D.int IntKind.i64 z.1)))])
        (fun z => o.l.length - z.1) ⟨0, by omega⟩ ?_ ?_
      · exact GS.to (by simp)
      · rintro ⟨i, i1⟩
        by_cases hi : i < o.l.length
        · have hiz : (i : Int) < o.l.length := by omega
          have hg' : o.l[i]? = some o.l[i] := List.getElem?_eq_getElem hi
          have hm' : o.l[i] ∈ o.l := List.getElem_mem hi
          generalize o.l[i] = y at hg' hm'
          have hF1 := hFd y
          rw [hFe y hm'] at hF1
          have hw1 := rwithin_c y.f (uniF (grp o.l y.g)) (hof y hm') (by have := hEl y hm'; omega)
          rw [hWi y hm'] at hw1
          simp only [fltT] at hF1 hw1
          simp -dsimp [hg', memC, hiz]
          try refine ⟨?_, ⟨by kernel_rfl⟩⟩
          refine ACall.of hF1 [] 0 ?_
          simp -dsimp
          try refine ⟨?_, ⟨by kernel_rfl⟩⟩
          refine ACall.of hw1 [] 0 ?_
          simp -dsimp [wrap_i64 (n := (i : Int) + 1) (by omega) (by omega)]
          and_intros
          all_goals try first | rfl | omega | exact ⟨by kernel_rfl⟩
          exact ⟨⟨i + 1, by omega⟩, GS.to (by simp), by simp; omega⟩
        · have hiz : ¬ (i : Int) < o.l.length := by omega
          simp -dsimp [hiz]
          refine ACall.of awake_c [] 0 ?_
          simp -dsimp
          and_intros
          all_goals try first | rfl | omega | exact ⟨by kernel_rfl⟩
          refine Fin.of ?_
          simp
end Go.Proofs

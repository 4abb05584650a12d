/-
  What functions of the program compute, stated as contracts over plain data; the conditions of each stand in its own statement.
-/
import Derived.Test.YtkhgmgelbgondaaD6
set_option linter.unusedSimpArgs false
set_option maxRecDepth 100000
set_option maxHeartbeats 8000000
namespace Go.Proofs
open Go Go.Tr

def awMs : Mbs := ⟨0, [⟨7, 4, ⟨1, [1]⟩, 9⟩, ⟨8, 4, ⟨1, [2]⟩, 9⟩]⟩
theorem okF1 (x : Int) (h : 1 ≤ x ∧ x ≤ 99) : Flt.Ok ⟨1, [x]⟩ := ⟨.inl rfl, by simpa using h, by simp⟩
theorem awMs_vld : vldM awMs = 0 := by
  refine vldM_ok (by simp [awMs]) (by simp [awMs]) ?_ ?_ ?_ ?_
  · simp [awMs, rgM]
  · intro x hx
    simp only [awMs, List.mem_cons, List.not_mem_nil, or_false] at hx
    rcases hx with rfl | rfl
    · exact okF1 1 (by omega)
    · exact okF1 2 (by omega)
  · simp [awMs, Flt.non]
  · simp [AscM, awMs, befM]
theorem awMs_gs : gsM awMs.l = [4] := by
  have h := (vldM_zero awMs_vld).2.2.2.2.2
  refine asc_ext (gs_asc h) (by simp) fun x => ?_
  rw [gs_mem h]
  simp [awMs]
  exact eq_comm
theorem awMs_uni : uniF (grp awMs.l 4) = ⟨1, [1, 2]⟩ := by
  have h := (vldM_zero awMs_vld).2.2.2.1
  refine Flt.ext_w (uni_ok h 4) ⟨.inl rfl, by simp, by simp⟩ fun s _ _ => ?_
  rw [uni_wnt h]
  by_cases h1 : s = 1
  · subst h1; simp [wnt, awMs]
  · by_cases h2 : s = 2
    · subst h2; simp [wnt, awMs]
    · simp [wnt, awMs, h1, h2]
theorem awMs_of : ofR awMs = ([⟨4, ⟨1, [1, 2]⟩⟩], 0) := by
  simp [ofR, awMs_vld, awMs_gs, ofL, awMs_uni]
theorem aw_small : (∀ x ∈ awMs.l, x.f.s.length ≤ 1000000) := by simp [awMs]
theorem awake_c : Contract Try.prog 16 [] [] (.d (.bool true)) [] [] := by
  have hO := iof_c awMs (by simp [awMs]) aw_small
  rw [awMs_of] at hO
  have hS := r24same_c [⟨4, ⟨1, [1, 2]⟩⟩] [⟨4, ⟨1, [1, 2]⟩⟩] (by simp) (by simp)
  have hH := ihosts_c awMs (by simp [awMs]) aw_small ⟨1, 4⟩
  have eH : hostsV awMs ⟨1, 4⟩ = [7] := by
    rw [hostsV, if_pos awMs_vld]
    simp [hostL, awMs, hostQ, wntV_ok (okF1 1 (by omega)) (show (0 : Int) < 1 by omega), wntV_ok (okF1 2 (by omega)) (show (0 : Int) < 1 by omega), wnt]
  rw [eH] at hH
  have hW := iwants_c [⟨4, ⟨1, [1, 2]⟩⟩] (by simp) (by simp) ⟨2, 4⟩
  have eW : wantsV [⟨4, ⟨1, [1, 2]⟩⟩] ⟨2, 4⟩ = true := by
    have h1 : Flt.Ok ⟨1, [1, 2]⟩ := ⟨.inl rfl, by simp, by simp⟩
    have h2 : vldW [⟨4, ⟨1, [1, 2]⟩⟩] false = 0 := vldW_ok (by simp) (by simp) (by simpa using h1) (by simp [Flt.non]) (by simp [AscW])
    simp [wantsV, h2, wntV_ok h1 (show (0 : Int) < 2 by omega), wnt]
  rw [eW] at hW
  have hI := ints_c [7] [7] (by simp)
  simp only [mbsT, awMs, mems, memC, wntD, wntC, ints, flwT, List.map, decide_true] at hO hS hH hW hI
  refine contract_of Try.func16 rfl (fun E0 => ?_)
  refine awp.sound (g := .mk) (ow := []) (kp := (fun k => k == 0 || k == 1 || k == 2 || k == 3 || k == 4 || k == 5)) ?_
  rw [Try.ntmps16]
  simp -dsimp
  refine ACall.of hO [] 0 ?_
  simp -dsimp
  refine ACall.of hS [] 0 ?_
  simp -dsimp
  refine ACall.of hH [] 0 ?_
  simp -dsimp
  refine ACall.of hI [] 0 ?_
  simp -dsimp
  refine ACall.of hW [] 0 ?_
  simp -dsimp
  and_intros
  all_goals try first | rfl | omega | exact ⟨by kernel_rfl⟩
  refine Fin.of ?_
  simp
theorem hosts_c (t : List Int) (ht : ∀ x ∈ t, I64 x) : Contract Try.prog 3 [.d (ints t)] [] (.d (.bool true)) [] [] := by
  refine contract_of Try.func3 rfl (fun E0 => ?_)
  refine awp.sound (g := .mk) (ow := []) (kp := (fun k => k == 0 || k == 2 || k == 3 || k == 4 || k == 5 || k == 6 || k == 7 || k == 8 || k == 9 || k == 10 || k == 11 || k == 13 || k == 29 || k == 31 || k == 35 || k == 42 || k == 43 || k == 44 || k == 45 || k == 57 || k == 61 || k == 79)) ?_
  rw [Try.ntmps3]
  simp -dsimp
  refine ACall.of (new_c t) [] 2000 ?_
  simp -dsimp
  have k0 : TapeOK (t.take 2000, 0) := ⟨by simp; omega, fun x hx => ht x (List.mem_of_mem_take hx)⟩
  generalize (t.take 2000, 0) = T0 at k0 ⊢
  refine ACall.of (members_c T0 k0 10 (by omega)) [.o 2009] 0 ?_
  have hm := gMbs_all T0 (n := 10) (by omega)
  have hv := gMbs_vld T0 (n := 10) (by omega)
  generalize gMbs T0 10 = R0 at hm hv ⊢
  obtain ⟨m, T1⟩ := R0
  simp only at hm hv ⊢
  have hlen : m.l.length ≤ 10 := by have := hm.2.2.1; omega
  obtain ⟨v1, v2, v3, v4, v5, v6⟩ := vldM_zero hv
  have hfl : ∀ x ∈ m.l, x.f.s.length ≤ 1000000 := fun x hx => by have := ok_len (v4 x hx); omega
  have hgl : (gsM m.l).length ≤ 32 := by have := cpt_len (m.l.map (·.g)); simp only [List.length_map] at this; simp only [gsM]; omega
  have hO := iof_c m (by omega) hfl
  have eO : ofR m = (ofL m.l, 0) := by
    unfold ofR
    rw [if_neg (by simp [hv]), if_neg (by omega)]
  rw [eO] at hO
  have hwl : (ofL m.l).length ≤ 1000000 := by simp only [ofL, List.length_map]; omega
  have hwf : ∀ x ∈ ofL m.l, x.f.s.length ≤ 1000000 := fun w hw => by
    obtain ⟨x, hx, rfl⟩ := (ofL_mem v6).1 hw
    have := ok_len (uni_ok v4 x.g); simp only; omega
  have hV := ivalidate_c (ofL m.l) hwl hwf
  rw [ofL_vld hv hgl] at hV
  have hWa := fun f => ofL_wants hv hgl f
  have hWc := fun f => iwants_c (ofL m.l) hwl hwf f
  generalize ofL m.l = W at hO hV hwl hwf hWa hWc
  simp -dsimp [mbsT]
  simp only [mbsT] at hO
  refine ACall.of hO [] 0 ?_
  simp -dsimp
  refine ACall.of hV [] 0 ?_
  simp -dsimp
  refine ALoop.of [] (fun k => k == 0 || k == 2 || k == 3 || k == 4 || k == 5 || k == 6 || k == 7 || k == 8 || k == 9 || k == 10 || k == 11 || k == 13 || k == 29 || k == 31 || k == 35 || k == 42 || k == 43 || k == 44 || k == 45 || k == 57 || k == 61 || k == 79) (ι := { z : Nat // z ≤ 5 })
    (fun z => [(Pl.s 2, It.v (TV.d (D.bool false))), (Pl.o 4, It.box [TV.d (D.int IntKind.i64 m.now), TV.d (mems m.l)]), (Pl.s 4, It.v (TV.ptr (Pl.o 4) 0)), (Pl.s 5, It.v (TV.d (wntD W))), (Pl.s 7, It.v (TV.d (D.int IntKind.i64 ((z.1 : Int) + 1))))])
    (fun z => 5 - z.1) ⟨0, by omega⟩ ?_ ?_
  · exact GS.to (by simp)
  · rintro ⟨g, g1⟩
    by_cases hg : g < 5
    · have hgz : (g : Int) + 1 ≤ 5 := by omega
      simp -dsimp [hgz]
      refine ALoop.of [] (fun k => k == 0 || k == 2 || k == 3 || k == 4 || k == 5 || k == 6 || k == 7 || k == 8 || k == 9 || k == 10 || k == 11 || k == 13 || k == 29 || k == 31 || k == 35 || k == 42 || k == 43 || k == 44 || k == 45 || k == 57 || k == 61 || k == 79) (ι := { z : Nat // z ≤ 9 })
        (fun z => [(Pl.s 2, It.v (TV.d (D.bool false))), (Pl.o 4, It.box [TV.d (D.int IntKind.i64 m.now), TV.d (mems m.l)]), (Pl.s 4, It.v (TV.ptr (Pl.o 4) 0)), (Pl.s 5, It.v (TV.d (wntD W))), (Pl.s 7, It.v (TV.d (D.int IntKind.i64 ((g : Int) + 1)))), (Pl.s 8, It.v (TV.d (D.int IntKind.i64 ((z.1 : Int) + 1))))])
        (fun z => 9 - z.1) ⟨0, by omega⟩ ?_ ?_
      · exact GS.to (by simp)
      · rintro ⟨s, s1⟩
        by_cases hs : s < 9
        · have hsz : (s : Int) + 1 ≤ 9 := by omega
          simp -dsimp [hsz, mems]
          obtain ⟨F, hF⟩ : ∃ F : Flw, F = ⟨(s : Int) + 1, (g : Int) + 1⟩ := ⟨_, rfl⟩
          have hFs : F.s = (s : Int) + 1 := by rw [hF]
          have hFg : F.g = (g : Int) + 1 := by rw [hF]
          refine ALoop.of [] (fun k => k == 0 || k == 2 || k == 3 || k == 4 || k == 5 || k == 6 || k == 7 || k == 8 || k == 9 || k == 10 || k == 11 || k == 13 || k == 29 || k == 31 || k == 35 || k == 42 || k == 43 || k == 44 || k == 45 || k == 57 || k == 61 || k == 79) (ι := { z : Nat // z ≤ m.l.length })
            (fun z => [(Pl.s 2, It.v (TV.d (D.bool false))), (Pl.o 4, It.box [TV.d (D.int IntKind.i64 m.now), TV.d (D.sl (List.map memC m.l))]), (Pl.s 4, It.v (TV.ptr (Pl.o 4) 0)), (Pl.s 5, It.v (TV.d (wntD W))), (Pl.s 7, It.v (TV.d (D.int IntKind.i64 ((g : Int) + 1)))), (Pl.s 8, It.v (TV.d (D.int IntKind.i64 ((s : Int) + 1)))),
              (Pl.o 9, It.box [TV.d (D.int IntKind.i64 ((s : Int) + 1)), TV.d (D.int IntKind.i64 ((g : Int) + 1))]), (Pl.s 9, It.v (TV.ptr (Pl.o 9) 0)),
              (Pl.s 10, It.v (TV.d (D.bool ((m.l.take z.1).any (smQ F))))), (Pl.s 11, It.v (TV.d (ints (putH F (m.l.take z.1))))),
              (Pl.s 42, It.v (TV.d (D.sl (List.map memC m.l)))), (Pl.s 43, It.v (TV.d (D.int IntKind.i64 m.l.length))), (Pl.s 44, It.v (TV.d (D.int IntKind.i64 z.1)))])
            (fun z => m.l.length - z.1) ⟨0, by omega⟩ ?_ ?_
          · refine GS.viewS 11 ?_
            simp [putH, hostL, ints]
          · rintro ⟨i, i1⟩
            have hpl := putH_len F m.l i
            by_cases hi : i < m.l.length
            · have hiz : (i : Int) < m.l.length := by omega
              have hg : m.l[i]? = some m.l[i] := List.getElem?_eq_getElem hi
              have hm' : m.l[i] ∈ m.l := List.getElem_mem hi
              generalize m.l[i] = y at hg hm'
              have hn := putH_next (f := F) hg
              have ha := any_next (smQ F) hg
              have hw := rwants_c y.f (hfl y hm') ((s : Int) + 1)
              have hput := put_c (putH F (m.l.take i)) (by omega) y.h
              simp only [fltT] at hw
              by_cases b1 : y.g = (g : Int) + 1
              · simp -dsimp [hg, memC, hiz, eq_true b1]
                refine ACall.of hw [] 0 ?_
                rcases (Bool.eq_false_or_eq_true (wntV y.f ((s : Int) + 1))).symm with b3 | b3
                · have q1 : smQ F y = false := by simp [smQ, hFs, b3]
                  have q2 : hostQ F y = false := by simp [hostQ, hFs, b3]
                  rw [q1, Bool.or_false] at ha
                  rw [q2, if_neg (by simp)] at hn
                  simp -dsimp [b3, wrap_i64 (n := (i : Int) + 1) (by omega) (by omega)]
                  and_intros
                  all_goals try first | rfl | omega | exact ⟨by kernel_rfl⟩
                  exact ⟨⟨i + 1, by omega⟩, GS.to (by simp [ha, hn]), by simp; omega⟩
                · have q1 : smQ F y = true := by simp [smQ, hFs, hFg, b1, b3]
                  rw [q1, Bool.or_true] at ha
                  by_cases b2 : y.h = (s : Int) + 1
                  · have q2 : hostQ F y = false := by simp [hostQ, hFs, b2]
                    rw [q2, if_neg (by simp)] at hn
                    simp -dsimp [b3, eq_true b2, wrap_i64 (n := (i : Int) + 1) (by omega) (by omega)]
                    and_intros
                    all_goals try first | rfl | omega | exact ⟨by kernel_rfl⟩
                    exact ⟨⟨i + 1, by omega⟩, GS.to (by simp [ha, hn]), by simp; omega⟩
                  · have q2 : hostQ F y = true := by simp [hostQ, hFs, hFg, b1, b2, b3]
                    rw [q2, if_pos rfl] at hn
                    simp -dsimp [b3, b2]
                    refine ACall.of hput [] 0 ?_
                    simp -dsimp [wrap_i64 (n := (i : Int) + 1) (by omega) (by omega)]
                    and_intros
                    all_goals try first | rfl | omega | exact ⟨by kernel_rfl⟩
                    exact ⟨⟨i + 1, by omega⟩, GS.to (by simp [ha, hn]), by simp; omega⟩
              · have q1 : smQ F y = false := by simp [smQ, hFg, b1]
                have q2 : hostQ F y = false := by simp [hostQ, hFg, b1]
                rw [q1, Bool.or_false] at ha
                rw [q2, if_neg (by simp)] at hn
                simp -dsimp [hg, memC, hiz, b1, wrap_i64 (n := (i : Int) + 1) (by omega) (by omega)]
                and_intros
                all_goals try first | rfl | omega | exact ⟨by kernel_rfl⟩
                exact ⟨⟨i + 1, by omega⟩, GS.to (by simp [ha, hn]), by simp; omega⟩
            · have hiz : ¬ (i : Int) < m.l.length := by omega
              obtain rfl : i = m.l.length := by omega
              simp -dsimp [hiz]
              have hw := hWc F
              rw [hWa F] at hw
              have hh := ihosts_c m (by omega) hfl F
              rw [show hostsV m F = hostL F m.l by rw [hostsV, if_pos hv], ← putH_eq v6] at hh
              have hi := ints_c (putH F m.l) (putH F m.l) (by rw [List.take_length] at hpl; omega)
              rw [decide_eq_true rfl] at hi
              have hsm : (m.l.any fun x => decide (x.g = F.g) && wntV x.f F.s) = m.l.any (smQ F) := rfl
              rw [hsm] at hw
              simp only [flwT, hFs, hFg, mbsT, mems] at hw hh
              refine ACall.of hw [] 0 ?_
              simp -dsimp
              refine ACall.of hh [] 0 ?_
              simp -dsimp
              refine ACall.of hi [] 0 ?_
              simp -dsimp [wrap_i64 (n := (s : Int) + 1 + 1) (by omega) (by omega)]
              and_intros
              all_goals try first | rfl | omega | exact ⟨by kernel_rfl⟩
              exact ⟨⟨s + 1, by omega⟩, GS.to (by simp [mems]), by simp; omega⟩
        · have hsz : ¬ (s : Int) + 1 ≤ 9 := by omega
          simp -dsimp [hsz, wrap_i64 (n := (g : Int) + 1 + 1) (by omega) (by omega)]
          and_intros
          all_goals try first | rfl | omega | exact ⟨by kernel_rfl⟩
          exact ⟨⟨g + 1, by omega⟩, GS.to (by simp), by simp; omega⟩
    · have hgz : ¬ (g : Int) + 1 ≤ 5 := by omega
      simp -dsimp [hgz]
      refine ACall.of awake_c [] 0 ?_
      simp -dsimp
      and_intros
      all_goals try first | rfl | omega | exact ⟨by kernel_rfl⟩
      refine Fin.of ?_
      simp
end Go.Proofs

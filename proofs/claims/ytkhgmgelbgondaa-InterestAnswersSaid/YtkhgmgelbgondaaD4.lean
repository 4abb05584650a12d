/-
  What functions of the program compute, stated as contracts over plain data; the conditions of each stand in its own statement.
-/
import Derived.Test.YtkhgmgelbgondaaD3
set_option linter.unusedSimpArgs false
set_option maxRecDepth 100000
set_option maxHeartbeats 8000000
namespace Go.Proofs
open Go Go.Tr

def uniF (l : List Mem) : Flt := l.foldl (fun f x => combR kOr f x.f) nF
def grp (l : List Mem) (g : Int) : List Mem := l.filter fun x => decide (x.g = g)
def gsM (l : List Mem) : List Int := Lib.compact (l.map (·.g))
def ofL (l : List Mem) : List Wnt := (gsM l).map fun g => ⟨g, uniF (grp l g)⟩
def ofR (m : Mbs) : List Wnt × Int := if vldM m ≠ 0 then ([], vldM m) else if 32 < (gsM m.l).length then ([], 3) else (ofL m.l, 0)
theorem vldM_zero {m : Mbs} (h : vldM m = 0) : (0 ≤ m.now ∧ m.now ≤ 1000000) ∧ m.l.length ≤ 64 ∧ (∀ x ∈ m.l, rgM m.now x = true) ∧ (∀ x ∈ m.l, x.f.Ok) ∧ (∀ x ∈ m.l, x.f.non = false) ∧ AscM m.l := by
  unfold vldM at h
  split at h; · simp at h
  rename_i h1
  split at h; · simp at h
  rename_i h2
  split at h; · simp at h
  rename_i h3
  split at h; · rename_i h4; exact absurd h h4
  rename_i h4
  split at h; · simp at h
  rename_i h5
  split at h
  · rename_i h6
    refine ⟨Classical.not_not.1 h1, by omega, fun x hx => by
      cases hr : rgM m.now x with
      | true => rfl
      | false => exact absurd ⟨x, hx, hr⟩ h3, fun x hx => ?_, fun x hx => by
      cases hr : x.f.non with
      | false => rfl
      | true => exact absurd ⟨x, hx, hr⟩ h5, h6⟩
    have h4' : ferr (m.l.map (·.f)) = 0 := Classical.not_not.1 h4
    have : ∀ {l : List Flt}, ferr l = 0 → ∀ f ∈ l, vld f = 0 := by
      intro l
      induction l with
      | nil => simp
      | cons g r ih =>
        intro h f hf
        simp only [ferr] at h
        split at h
        · rename_i hg; exact absurd h hg
        · rename_i hg
          rcases List.mem_cons.1 hf with rfl | hf
          · exact Classical.not_not.1 hg
          · exact ih h f hf
    exact vld_zero.1 (this h4' x.f (List.mem_map.2 ⟨x, hx, rfl⟩))
  · simp at h
theorem nF_ok : nF.Ok := ⟨.inl rfl, by simp [nF], by simp [nF]⟩
theorem uniF_ok : ∀ {l : List Mem} {f : Flt}, f.Ok → (∀ x ∈ l, x.f.Ok) → (l.foldl (fun f x => combR kOr f x.f) f).Ok
  | [], _, h, _ => h
  | y :: r, f, h, h2 => uniF_ok (l := r) (combR_ok h (h2 y (by simp))) fun x hx => h2 x (by simp [hx])
def z0W : List TV := [.d (.int .i64 0), .d (.int .i64 0), .c (Value.slice none 0 0)]
def wnG (l : List Mem) (g : Int) : Wnt := ⟨g, uniF (grp l g)⟩
def rowG (l : List Mem) (gs : List Int) (k : Nat) : List (List TV) := dd ((gs.take k).map fun g => wntC (wnG l g)) ++ List.replicate (gs.length - k) z0W
@[simp] theorem rowsOnly_z (po : Nat → Prop) (n : Nat) : rowsOnly po (List.replicate n z0W) = True := by
  simp only [rowsOnly, List.mem_replicate, eq_iff_iff, iff_true]
  rintro e ⟨_, rfl⟩
  simp [z0W]
def cel (i j : Nat) (f : Flt) : TV := if j = i then .c (Value.slice none 0 0) else .d (ints f.s)
@[simp] theorem cel_only (po : Nat → Prop) (i j : Nat) (f : Flt) : (cel i j f).only po = True := by
  unfold cel; split <;> simp
def curF (l : List Mem) (i j : Nat) : Flt := uniF ((l.take j).drop i)
theorem curF_self (l : List Mem) (i : Nat) : curF l i i = nF := by
  unfold curF; rw [List.drop_eq_nil_of_le (by simp; omega)]; rfl
theorem curF_succ {l : List Mem} {i j : Nat} {y : Mem} (h : i ≤ j) (hy : l[j]? = some y) : curF l i (j + 1) = combR kOr (curF l i j) y.f := by
  have hj : j < l.length := (List.getElem?_eq_some_iff.1 hy).1
  unfold curF uniF
  rw [List.take_add_one, hy, List.drop_append_of_le_length (by simp; omega)]
  simp
theorem gs_le {l : List Mem} (h : AscM l) : (l.map (·.g)).Pairwise (· ≤ ·) := by
  rw [List.pairwise_map]
  exact List.Pairwise.imp (fun {a b} hb => by rw [befM_iff] at hb; omega) h
theorem gs_asc {l : List Mem} (h : AscM l) : (gsM l).Pairwise (· < ·) := (compact_sorted (gs_le h)).1
theorem gs_mem {l : List Mem} (h : AscM l) (g : Int) : g ∈ gsM l ↔ ∃ x ∈ l, x.g = g := by
  rw [gsM, (compact_sorted (gs_le h)).2, List.mem_map]
theorem of_exit {l : List Mem} {gs : List Int} {k i j : Nat} {g0 : Int} (hs : AscM l) (hgs : gs = gsM l) (hdk : gs.drop k = g0 :: gs.drop (k + 1)) (j0 : i ≤ j) (j1 : j ≤ l.length)
    (i2 : ∀ y ∈ l.take i, ∀ g ∈ gs.drop k, y.g < g) (i3 : ∀ y ∈ l.drop i, y.g ∈ gs.drop k) (j2 : ∀ y ∈ (l.take j).drop i, y.g = g0) (he : ∀ y, l[j]? = some y → y.g ≠ g0) :
    j ≠ i ∧ grp l g0 = (l.take j).drop i ∧ (∀ y ∈ l.take j, ∀ g ∈ gs.drop (k + 1), y.g < g) ∧ ∀ y ∈ l.drop j, y.g ∈ gs.drop (k + 1) := by
  have hasc : (gs.drop k).Pairwise (· < ·) := List.Pairwise.sublist (List.drop_sublist _ _) (hgs ▸ gs_asc hs)
  rw [hdk] at hasc i2 i3
  obtain ⟨ha1, ha2⟩ := List.pairwise_cons.1 hasc
  have ht : l.take j = l.take i ++ (l.take j).drop i := by
    conv => lhs; rw [← List.take_append_drop i (l.take j)]
    rw [List.take_take, Nat.min_eq_left j0]
  have hsub : ∀ y ∈ l.drop j, y ∈ l.drop i := fun y hy => by
    have : l.drop j = (l.drop i).drop (j - i) := by rw [List.drop_drop]; congr 1; omega
    rw [this] at hy
    exact List.mem_of_mem_drop hy
  have hne : ∀ y ∈ l.drop j, g0 < y.g := fun y hy => by
    have hj : j < l.length := by
      have := List.length_pos_of_mem hy
      simp at this; omega
    have hc : l.drop j = l[j] :: l.drop (j + 1) := List.drop_eq_getElem_cons hj
    have h0 := he l[j] (List.getElem?_eq_getElem hj)
    have h1 : l[j].g ∈ g0 :: gs.drop (k + 1) := i3 _ (hsub _ (by rw [hc]; exact List.mem_cons_self))
    have h2 : g0 < l[j].g := by
      rcases List.mem_cons.1 h1 with h1 | h1
      · exact absurd h1 h0
      · exact ha1 _ h1
    have hp : (l.drop j).Pairwise fun x y => befM x y = true := List.Pairwise.sublist (List.drop_sublist _ _) hs
    rw [hc] at hp hy
    rcases List.mem_cons.1 hy with rfl | hy
    · exact h2
    · have := (List.pairwise_cons.1 hp).1 y hy
      rw [befM_iff] at this; omega
  have hg : g0 ∈ gsM l := by
    rw [← hgs]
    exact List.mem_of_mem_drop (i := k) (by rw [hdk]; simp)
  have hfil : grp l g0 = (l.take j).drop i := by
    have h1 : l = l.take i ++ ((l.take j).drop i ++ l.drop j) := by rw [← List.append_assoc, ← ht, List.take_append_drop]
    unfold grp
    conv => lhs; rw [h1]
    rw [List.filter_append, List.filter_append]
    have e1 : (l.take i).filter (fun x => decide (x.g = g0)) = [] := by
      rw [List.filter_eq_nil_iff]; intro y hy; have := i2 y hy g0 (by simp); simp; omega
    have e2 : ((l.take j).drop i).filter (fun x => decide (x.g = g0)) = (l.take j).drop i := by
      rw [List.filter_eq_self]; intro y hy; simpa using j2 y hy
    have e3 : (l.drop j).filter (fun x => decide (x.g = g0)) = [] := by
      rw [List.filter_eq_nil_iff]; intro y hy; have := hne y hy; simp; omega
    rw [e1, e2, e3]; simp
  refine ⟨fun e => ?_, hfil, fun y hy g hgm => ?_, fun y hy => ?_⟩
  · subst e
    obtain ⟨x, hx, hxg⟩ := (gs_mem hs g0).1 hg
    have : x ∈ grp l g0 := by simp [grp, hx, hxg]
    rw [hfil, List.drop_eq_nil_of_le (by simp; omega)] at this
    simp at this
  · rw [ht] at hy
    rcases List.mem_append.1 hy with hy | hy
    · exact i2 y hy g (by simp [hgm])
    · rw [j2 y hy]; exact ha1 g hgm
  · have h1 : y.g ∈ g0 :: gs.drop (k + 1) := i3 y (hsub y hy)
    have h2 := hne y hy
    rcases List.mem_cons.1 h1 with h1 | h1
    · omega
    · exact h1
theorem iof_cL (m : Mbs) (hl : m.l.length ≤ 1000000) (hf : ∀ x ∈ m.l, x.f.s.length ≤ 9223372036854775807) : Contract Try.prog 9 [mbsT m] [] (.tup [.d (wntD (ofR m).1), .d (.int .i64 (ofR m).2)]) [] [] := by
  have hv := mvalidate_cL m hl hf
  have hgr := mgroups_cL m hl hf
  simp only [mbsT] at hv hgr
  refine contract_of Try.func9 rfl (fun E0 => ?_)
  refine awp.sound (g := .mk) (ow := []) (kp := (fun k => k == 0 || k == 1 || k == 2 || k == 3 || k == 4 || k == 5 || k == 6 || k == 7 || k == 8 || k == 9 || k == 13 || k == 19 || k == 23 || k == 24 || k == 25 || k == 26 || k == 50)) ?_
  rw [Try.ntmps9]
  simp -dsimp [mbsT]
  refine ACall.of hv [] 0 ?_
  by_cases h1 : vldM m = 0
  · obtain ⟨v1, v2, v3, v4, v5, v6⟩ := vldM_zero h1
    simp only [h1, if_true] at hgr
    have hgl := cpt_len (m.l.map (·.g))
    simp only [List.length_map] at hgl
    have hG : gsM m.l = Lib.compact (m.l.map (·.g)) := rfl
    rw [← hG] at hgr hgl
    obtain ⟨gs, hgs⟩ : ∃ gs, gs = gsM m.l := ⟨_, rfl⟩
    rw [← hgs] at hgr hgl
    simp -dsimp [h1]
    refine ACall.of hgr [] 0 ?_
    by_cases h2 : 32 < gs.length
    · have h2z : (32 : Int) < gs.length := by omega
      simp -dsimp [ints, h2z]
      refine Fin.view 2 ?_
      simp -dsimp
      refine Fin.of ?_
      simp [ofR, h1, ← hgs, h2, wntD]
    · have h2z : ¬ (32 : Int) < gs.length := by omega
      simp -dsimp [ints, h2z]
      refine ⟨by omega, by omega, ?_⟩
      refine ALoop.of [] (fun k => k == 0 || k == 1 || k == 2 || k == 3 || k == 4 || k == 5 || k == 6 || k == 7 || k == 8 || k == 9 || k == 13 || k == 19 || k == 23 || k == 24 || k == 25 || k == 26 || k == 50) (ι := { z : Nat × Nat // z.1 ≤ gs.length ∧ z.2 ≤ m.l.length ∧ (∀ y ∈ m.l.take z.2, ∀ g ∈ gs.drop z.1, y.g < g) ∧ ∀ y ∈ m.l.drop z.2, y.g ∈ gs.drop z.1 })
        (fun z => [(Pl.o 1, It.box [TV.d (D.int IntKind.i64 m.now), TV.d (mems m.l)]), (Pl.s 1, It.v (TV.ptr (Pl.o 1) 0)),
          (Pl.s 2, It.v (TV.c (Value.slice none 0 0))), (Pl.s 3, It.v (TV.d (D.int IntKind.i64 0))),
          (Pl.o 22, It.row 53 3 (rowG m.l gs z.1.1) false),
          (Pl.s 6, It.v (TV.oref 22 gs.length)), (Pl.s 7, It.v (TV.d (D.int IntKind.i64 z.1.2))),
          (Pl.s 23, It.v (TV.d (D.sl (List.map (fun n => [D.int IntKind.i64 n]) gs)))),
          (Pl.s 24, It.v (TV.d (D.int IntKind.i64 gs.length))), (Pl.s 25, It.v (TV.d (D.int IntKind.i64 z.1.1)))])
        (fun z => gs.length - z.1.1) ⟨(0, 0), by omega, by omega, by simp, ?_⟩ ?_ ?_
      · intro y hy; rw [List.drop_zero] at hy ⊢; rw [hgs]; exact (gs_mem v6 _).2 ⟨y, hy, rfl⟩
      · exact GS.to (by simp only [rowG, List.take_zero, List.map_nil, dd_nil, List.nil_append, Nat.sub_zero]; simp [show [TV.d (D.int IntKind.i64 0), TV.d (D.int IntKind.i64 0), TV.c (Value.slice none 0 0)] = z0W from rfl])
      · have hRo : ∀ po k, rowsOnly po (rowG m.l gs k) = True := fun po k => by simp [rowG]
        rintro ⟨⟨k, i⟩, k1, i1, i2, i3⟩
        simp only at k1 i1 i2 i3
        by_cases hk : k < gs.length
        · have hkz : (k : Int) < gs.length := by omega
          have hgk : gs[k]? = some gs[k] := List.getElem?_eq_getElem hk
          have hdk : gs.drop k = gs[k] :: gs.drop (k + 1) := List.drop_eq_getElem_cons _
          generalize gs[k] = g0 at hgk hdk
          have hr : rowG m.l gs k = dd ((gs.take k).map fun g => wntC (wnG m.l g)) ++ z0W :: List.replicate (gs.length - (k + 1)) z0W := by
            unfold rowG
            rw [show gs.length - k = (gs.length - (k + 1)) + 1 by omega, List.replicate_succ]
          have hAl : (dd ((gs.take k).map fun g => wntC (wnG m.l g))).length = k := by simp; omega
          obtain ⟨A, hA⟩ : ∃ A, A = dd ((gs.take k).map fun g => wntC (wnG m.l g)) := ⟨_, rfl⟩
          rw [← hA] at hr hAl
          rw [hr]
          have hset : ∀ x y : List TV, ∀ B : List (List TV), (A ++ x :: B).set k y = A ++ y :: B := fun x y B => by rw [List.set_append_right _ _ (by omega), hAl, Nat.sub_self]; rfl
          have hget : ∀ x : List TV, ∀ B : List (List TV), (A ++ x :: B)[k]? = some x := fun x B => by rw [List.getElem?_append_right (by omega), hAl, Nat.sub_self]; rfl
          have hAo : ∀ po, rowsOnly po A = True := fun po => by rw [hA]; exact rowsOnly_dd po _
          obtain ⟨B, hB⟩ : ∃ B, B = List.replicate (gs.length - (k + 1)) z0W := ⟨_, rfl⟩
          have hBl : B.length = gs.length - (k + 1) := by rw [hB]; simp
          have hBo : ∀ po, rowsOnly po B = True := fun po => by rw [hB]; exact rowsOnly_z po _
          rw [← hB]
          simp -dsimp [hgk, hkz, hset, hget, z0W, hBl]
          refine ⟨by omega, by omega, by omega, by omega, ?_⟩
          refine ALoop.of [] (fun k => k == 0 || k == 1 || k == 2 || k == 3 || k == 4 || k == 5 || k == 6 || k == 7 || k == 8 || k == 9 || k == 13 || k == 19 || k == 23 || k == 24 || k == 25 || k == 26 || k == 50) (ι := { j : Nat // i ≤ j ∧ j ≤ m.l.length ∧ ∀ y ∈ (m.l.take j).drop i, y.g = g0 })
            (fun j => [(Pl.o 1, It.box [TV.d (D.int IntKind.i64 m.now), TV.d (mems m.l)]), (Pl.s 1, It.v (TV.ptr (Pl.o 1) 0)),
              (Pl.s 2, It.v (TV.c (Value.slice none 0 0))), (Pl.s 3, It.v (TV.d (D.int IntKind.i64 0))),
              (Pl.o 22, It.row 53 3 (A ++ [TV.d (D.int IntKind.i64 g0), TV.d (D.int IntKind.i64 (curF m.l i j.1).m), cel i j.1 (curF m.l i j.1)] :: B) false),
              (Pl.s 6, It.v (TV.oref 22 gs.length)), (Pl.s 7, It.v (TV.d (D.int IntKind.i64 j.1))),
              (Pl.s 23, It.v (TV.d (D.sl (List.map (fun n => [D.int IntKind.i64 n]) gs)))),
              (Pl.s 24, It.v (TV.d (D.int IntKind.i64 gs.length))), (Pl.s 25, It.v (TV.d (D.int IntKind.i64 k))),
              (Pl.s 8, It.v (TV.d (D.int IntKind.i64 k))), (Pl.s 9, It.v (TV.d (D.int IntKind.i64 g0)))])
            (fun j => m.l.length - j.1) ⟨i, by omega, by omega, by simp⟩ ?_ ?_
          · exact GS.to (by simp [hAo, hBo, curF_self, nF, cel])
          · rintro ⟨j, j0, j1, j2⟩
            have exit : (∀ y, m.l[j]? = some y → y.g ≠ g0) → (A ++ [TV.d (D.int IntKind.i64 g0), TV.d (D.int IntKind.i64 (curF m.l i j).m), cel i j (curF m.l i j)] :: B = rowG m.l gs (k + 1)) ∧ (∀ y ∈ m.l.take j, ∀ g ∈ gs.drop (k + 1), y.g < g) ∧ ∀ y ∈ m.l.drop j, y.g ∈ gs.drop (k + 1) := fun he => by
              obtain ⟨x1, x2, x3, x4⟩ := of_exit v6 hgs hdk j0 j1 i2 i3 j2 he
              refine ⟨?_, x3, x4⟩
              have hc : cel i j (curF m.l i j) = .d (ints (curF m.l i j).s) := by simp [cel, x1]
              rw [hc]
              unfold rowG
              rw [List.take_add_one, hgk, ← hB, List.map_append, dd_append, ← hA]
              simp [wnG, x2, curF, wntC, dd]
            by_cases hj : j < m.l.length
            · have hjz : (j : Int) < m.l.length := by omega
              have hg : m.l[j]? = some m.l[j] := List.getElem?_eq_getElem hj
              have hm : m.l[j] ∈ m.l := List.getElem_mem hj
              generalize m.l[j] = y at hg hm
              by_cases b1 : y.g = g0
              · have hyo := v4 y hm
                have hco : (curF m.l i j).Ok := uniF_ok nF_ok fun x hx => v4 x (List.mem_of_mem_take (List.mem_of_mem_drop hx))
                have hu := union_ok hco hyo
                have hcs := curF_succ j0 hg
                rw [← hcs] at hu
                have nx : ∀ x ∈ (m.l.take (j + 1)).drop i, x.g = g0 := fun x hx => by
                  rw [List.take_add_one, hg, List.drop_append_of_le_length (by simp; omega)] at hx
                  rcases List.mem_append.1 hx with hx | hx
                  · exact j2 x hx
                  · simp at hx; rw [hx]; exact b1
                have hji : ¬ j + 1 = i := by omega
                by_cases e : j = i
                · subst e
                  rw [curF_self] at hu
                  simp only [fltT, nF, ints, List.map_nil] at hu
                  rw [curF_self]
                  simp -dsimp [hg, memC, mems, hjz, eq_true b1, hset, hget, nF, cel]
                  refine ⟨by omega, by omega, by omega, by omega, ?_⟩
                  refine ACall.of hu [] 0 ?_
                  simp -dsimp [hset, hget, wrap_i64 (n := (j : Int) + 1) (by omega) (by omega)]
                  and_intros
                  all_goals try first | rfl | omega | exact ⟨by kernel_rfl⟩
                  exact ⟨⟨j + 1, by omega, by omega, nx⟩, GS.to (by simp [hAo, hBo, cel, ints, mems]), by simp; omega⟩
                · have hc : cel i j (curF m.l i j) = .d (ints (curF m.l i j).s) := by simp [cel, e]
                  simp only [fltT] at hu
                  simp -dsimp [hg, memC, mems, hjz, eq_true b1, hset, hget, hc]
                  refine ⟨by omega, by omega, by omega, by omega, ?_⟩
                  refine ACall.of hu [] 0 ?_
                  simp -dsimp [hset, hget, wrap_i64 (n := (j : Int) + 1) (by omega) (by omega)]
                  and_intros
                  all_goals try first | rfl | omega | exact ⟨by kernel_rfl⟩
                  exact ⟨⟨j + 1, by omega, by omega, nx⟩, GS.to (by simp [hAo, hBo, cel, hji, mems]), by simp; omega⟩
              · obtain ⟨x1, x2, x3⟩ := exit fun z hz => by rw [hg] at hz; simp only [Option.some.injEq] at hz; subst hz; exact b1
                rw [x1]
                simp -dsimp [hg, memC, mems, hjz, b1, wrap_i64 (n := (k : Int) + 1) (by omega) (by omega)]
                and_intros
                all_goals try first | rfl | omega | exact ⟨by kernel_rfl⟩
                exact ⟨⟨(k + 1, j), by dsimp only; omega, j1, x2, x3⟩, GS.to (by simp [mems, hRo]), by simp; omega⟩
            · obtain ⟨x1, x2, x3⟩ := exit fun z hz => by rw [List.getElem?_eq_none (by omega)] at hz; simp at hz
              have hjz : ¬ (j : Int) < m.l.length := by omega
              rw [x1]
              simp -dsimp [mems, hjz, wrap_i64 (n := (k : Int) + 1) (by omega) (by omega)]
              and_intros
              all_goals try first | rfl | omega | exact ⟨by kernel_rfl⟩
              exact ⟨⟨(k + 1, j), by dsimp only; omega, j1, x2, x3⟩, GS.to (by simp [mems, hRo]), by simp; omega⟩
        · obtain rfl : k = gs.length := by omega
          have hkz : ¬ (gs.length : Int) < gs.length := by omega
          have hrow : rowG m.l gs gs.length = dd (gs.map fun g => wntC (wnG m.l g)) := by simp [rowG]
          rw [hrow]
          simp -dsimp [hkz]
          refine Fin.view 2 ?_
          simp -dsimp
          refine Fin.of ?_
          simp [ofR, h1, ← hgs, h2, wntD, ofL, wnG, Function.comp_def]
  · simp -dsimp [h1]
    and_intros
    all_goals try first | rfl | omega | exact ⟨by kernel_rfl⟩
    refine Fin.view 2 ?_
    simp -dsimp
    refine Fin.of ?_
    simp [ofR, h1, wntD]
theorem iof_c (m : Mbs) (hl : m.l.length ≤ 1000000) (hf : ∀ x ∈ m.l, x.f.s.length ≤ 1000000) : Contract Try.prog 9 [mbsT m] [] (.tup [.d (wntD (ofR m).1), .d (.int .i64 (ofR m).2)]) [] [] := iof_cL m hl (fun x hx => Nat.le_trans (hf x hx) (by decide))
end Go.Proofs

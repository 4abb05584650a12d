/-
  What functions of the program compute, stated as contracts over plain data; the conditions of each stand in its own statement.
-/
import Derived.Test.YtkhgmgelbgondaaD10
set_option linter.unusedSimpArgs false
set_option maxRecDepth 100000
set_option maxHeartbeats 8000000
namespace Go.Proofs
open Go Go.Tr

@[simp] theorem undP : (Try.prog).underlying 83 = some (.pointer 53) := by kernel_rfl
theorem clone_nil_c (ad : Option Addr) (c : Nat) : Contract Try.prog 83 [.c (.slice ad 0 c)] [] (.d (ints [])) [] [] := by
  refine contract_of Try.func83 rfl (fun E0 => ?_)
  refine awp.sound (g := .mk) (ow := [5]) (kp := (fun k => k == 0 || k == 2 || k == 4)) ?_
  rw [Try.ntmps83]
  cases ad with
  | none =>
    simp -dsimp [ints]
    and_intros
    all_goals try first | rfl | omega | exact ⟨by kernel_rfl⟩
    refine Fin.view 2 ?_
    simp -dsimp
    refine Fin.of ?_
    simp [ints]
  | some ad =>
    simp -dsimp [ints]
    and_intros
    all_goals try first | rfl | omega | exact ⟨by kernel_rfl⟩
    refine Fin.view 2 ?_
    simp -dsimp
    refine Fin.of ?_
    simp [ints]
theorem clone_c (l : List Int) (hl : l.length ≤ 1000000) : Contract Try.prog 83 [.d (ints l)] [] (.d (ints l)) [] [] := by
  by_cases h0 : l.length = 0
  · obtain rfl : l = [] := List.length_eq_zero_iff.1 h0
    refine Contract.cases fun E us ha => ?_
    simp only [RelVs, RelV, Rep, ints] at ha
    obtain ⟨u, us', rfl, hu, rfl⟩ := ha
    rcases hu with ⟨_, ad, c, rfl⟩ | ⟨b, o, c, k, rfl, _⟩
    · exact ⟨[.c (.slice ad 0 c)], by simp [RelVs, RelV], clone_nil_c ad c⟩
    · exact ⟨[.c (.slice (some ⟨b, o, none⟩) 0 c)], by simp [RelVs, RelV], clone_nil_c _ c⟩
  · have dl : dLen 1 (l.map fun x => [D.int .i64 x]) := dLen_map 1 _ _ fun _ => rfl
    refine contract_of Try.func83 rfl (fun E0 => ?_)
    refine awp.sound (g := .mk) (ow := [5]) (kp := (fun k => k == 0 || k == 2 || k == 4)) ?_
    rw [Try.ntmps83]
    simp -dsimp [ints]
    and_intros
    all_goals try first | rfl | omega | exact dl | exact ⟨by kernel_rfl⟩
    refine Fin.view 2 ?_
    simp -dsimp
    refine Fin.of ?_
    simp [ints]
theorem icopied_c (x : Wnt) (hx : x.f.s.length ≤ 1000000) : Contract Try.prog 58 [wnT x] [] (wnT x) [] [] := by
  refine contract_of Try.func58 rfl (fun E0 => ?_)
  refine awp.sound (g := .mk) (ow := []) (kp := (fun k => k == 0 || k == 1 || k == 2)) ?_
  rw [Try.ntmps58]
  simp -dsimp [wnT]
  refine ACall.of (clone_c x.f.s hx) [] 0 ?_
  simp -dsimp
  and_intros
  all_goals try first | rfl | omega | exact ⟨by kernel_rfl⟩
  refine Fin.of ?_
  simp [wnT]
theorem limited_c (l : List Wnt) : Contract Try.prog 59 [.d (wntD l)] [] (.tup [.d (wntD (if 32 < l.length then [] else l)), .d (.int .i64 (if 32 < l.length then 3 else 0))]) [] [] := by
  refine contract_of Try.func59 rfl (fun E0 => ?_)
  refine awp.sound (g := .mk) (ow := []) (kp := (fun k => k == 0 || k == 2 || k == 3 || k == 6)) ?_
  rw [Try.ntmps59]
  by_cases h : 32 < l.length
  · have hz : (32 : Int) < l.length := by omega
    simp -dsimp [wntD, hz]
    refine Fin.view 2 ?_
    simp -dsimp
    refine Fin.of ?_
    simp [h, wntD]
  · have hz : ¬ (32 : Int) < l.length := by omega
    simp -dsimp [wntD, hz]
    refine Fin.of ?_
    simp [h, wntD]
theorem samF (x y : Flt) : (decide (x.m = y.m) && decide (x.s = y.s)) = decide (x = y) := by
  obtain ⟨a, b⟩ := x
  obtain ⟨c, d⟩ := y
  by_cases h1 : a = c <;> by_cases h2 : b = d <;> simp [h1, h2]
theorem changesA_c (l : List Wnt) (hl : l.length ≤ 1000000) (x : Wnt) : Contract2 Try.prog 56 [.ep (wntC x) 0, .c (.pointer none), .ptr (.x 0) 0] [.box [.oref 900 l.length]] [(900, .row 53 3 (dd (l.map wntC)) false)] (.tup [])
    [.box [.oref 900 (l ++ [(⟨x.g, nF⟩ : Wnt)]).length]] [(900, .row 53 3 (dd ((l ++ [(⟨x.g, nF⟩ : Wnt)]).map wntC)) false)] := by
  refine contract2_of Try.func56 rfl (fun E0 => ?_)
  refine awp.sound (g := .mk) (ow := []) (kp := (fun k => k == 0 || k == 1 || k == 2 || k == 5 || k == 17)) ?_
  rw [Try.ntmps56]
  simp -dsimp [wntC]
  and_intros
  all_goals try first | rfl | omega | exact ⟨by kernel_rfl⟩
  refine Fin.of ?_
  simp [wntC, nF, ints]
theorem changesB_c (l : List Wnt) (hl : l.length ≤ 1000000) (y : Wnt) (hy : y.f.s.length ≤ 1000000) : Contract2 Try.prog 56 [.c (.pointer none), .ep (wntC y) 0, .ptr (.x 0) 0] [.box [.oref 900 l.length]] [(900, .row 53 3 (dd (l.map wntC)) false)] (.tup [])
    [.box [.oref 900 (l ++ [y]).length]] [(900, .row 53 3 (dd ((l ++ [y]).map wntC)) false)] := by
  have hc := icopied_c y hy
  simp only [wnT] at hc
  refine contract2_of Try.func56 rfl (fun E0 => ?_)
  refine awp.sound (g := .mk) (ow := []) (kp := (fun k => k == 0 || k == 1 || k == 2 || k == 5 || k == 17)) ?_
  rw [Try.ntmps56]
  simp -dsimp [wntC]
  try refine ⟨?_, ⟨by kernel_rfl⟩⟩
  refine ACall.of hc [] 0 ?_
  simp -dsimp
  and_intros
  all_goals try first | rfl | omega | exact ⟨by kernel_rfl⟩
  refine Fin.of ?_
  simp [wntC, ints]
theorem changesC_c (l : List Wnt) (hl : l.length ≤ 1000000) (x y : Wnt) (hx : x.f.s.length ≤ 1000000) (hy : y.f.s.length ≤ 1000000) : Contract2 Try.prog 56 [.ep (wntC x) 0, .ep (wntC y) 0, .ptr (.x 0) 0] [.box [.oref 900 l.length]] [(900, .row 53 3 (dd (l.map wntC)) false)] (.tup [])
    [.box [.oref 900 (if x.f = y.f then l else l ++ [y]).length]] [(900, .row 53 3 (dd ((if x.f = y.f then l else l ++ [y]).map wntC)) false)] := by
  have hc := icopied_c y hy
  simp only [wnT] at hc
  have hs := same_c x.f y.f hx
  rw [samF] at hs
  simp only [fltT] at hs
  refine contract2_of Try.func56 rfl (fun E0 => ?_)
  refine awp.sound (g := .mk) (ow := []) (kp := (fun k => k == 0 || k == 1 || k == 2 || k == 5 || k == 17)) ?_
  rw [Try.ntmps56]
  simp -dsimp [wntC]
  try refine ⟨?_, ⟨by kernel_rfl⟩⟩
  refine ACall.of hs [] 0 ?_
  by_cases h : x.f = y.f
  · rw [decide_eq_true h, if_pos h]
    simp -dsimp
    and_intros
    all_goals try first | rfl | omega | exact ⟨by kernel_rfl⟩
    refine Fin.of ?_
    simp
  · rw [decide_eq_false h, if_neg h]
    simp -dsimp
    try refine ⟨?_, ⟨by kernel_rfl⟩⟩
    refine ACall.of hc [] 0 ?_
    simp -dsimp
    and_intros
    all_goals try first | rfl | omega | exact ⟨by kernel_rfl⟩
    refine Fin.of ?_
    simp [wntC, ints]
theorem applyA_c (l : List Wnt) (hl : l.length ≤ 1000000) (x : Wnt) (hx : x.f.s.length ≤ 1000000) : Contract2 Try.prog 61 [.ep (wntC x) 0, .c (.pointer none), .ptr (.x 0) 0] [.box [.oref 900 l.length]] [(900, .row 53 3 (dd (l.map wntC)) false)] (.tup [])
    [.box [.oref 900 (l ++ [x]).length]] [(900, .row 53 3 (dd ((l ++ [x]).map wntC)) false)] := by
  have hc := icopied_c x hx
  simp only [wnT] at hc
  refine contract2_of Try.func61 rfl (fun E0 => ?_)
  refine awp.sound (g := .mk) (ow := []) (kp := (fun k => k == 0 || k == 1 || k == 2 || k == 5 || k == 15)) ?_
  rw [Try.ntmps61]
  simp -dsimp [wntC]
  try refine ⟨?_, ⟨by kernel_rfl⟩⟩
  refine ACall.of hc [] 0 ?_
  simp -dsimp
  and_intros
  all_goals try first | rfl | omega | exact ⟨by kernel_rfl⟩
  refine Fin.of ?_
  simp [wntC, ints]
theorem applyB_c (l : List Wnt) (hl : l.length ≤ 1000000) (y : Wnt) (hy : y.f.s.length ≤ 1000000) : Contract2 Try.prog 61 [.c (.pointer none), .ep (wntC y) 0, .ptr (.x 0) 0] [.box [.oref 900 l.length]] [(900, .row 53 3 (dd (l.map wntC)) false)] (.tup [])
    [.box [.oref 900 (if y.f.non = true then l else l ++ [y]).length]] [(900, .row 53 3 (dd ((if y.f.non = true then l else l ++ [y]).map wntC)) false)] := by
  have hc := icopied_c y hy
  simp only [wnT] at hc
  have hn := inothing_c y.f
  simp only [fltT] at hn
  refine contract2_of Try.func61 rfl (fun E0 => ?_)
  refine awp.sound (g := .mk) (ow := []) (kp := (fun k => k == 0 || k == 1 || k == 2 || k == 5 || k == 15)) ?_
  rw [Try.ntmps61]
  simp -dsimp [wntC]
  try refine ⟨?_, ⟨by kernel_rfl⟩⟩
  refine ACall.of hn [] 0 ?_
  cases h : y.f.non with
  | true =>
    simp -dsimp
    and_intros
    all_goals try first | rfl | omega | exact ⟨by kernel_rfl⟩
    refine Fin.of ?_
    simp
  | false =>
    simp -dsimp
    try refine ⟨?_, ⟨by kernel_rfl⟩⟩
    refine ACall.of hc [] 0 ?_
    simp -dsimp
    and_intros
    all_goals try first | rfl | omega | exact ⟨by kernel_rfl⟩
    refine Fin.of ?_
    simp [wntC, ints]
theorem applyC_c (l : List Wnt) (hl : l.length ≤ 1000000) (x y : Wnt) (hy : y.f.s.length ≤ 1000000) : Contract2 Try.prog 61 [.ep (wntC x) 0, .ep (wntC y) 0, .ptr (.x 0) 0] [.box [.oref 900 l.length]] [(900, .row 53 3 (dd (l.map wntC)) false)] (.tup [])
    [.box [.oref 900 (if y.f.non = true then l else l ++ [y]).length]] [(900, .row 53 3 (dd ((if y.f.non = true then l else l ++ [y]).map wntC)) false)] := by
  have hc := icopied_c y hy
  simp only [wnT] at hc
  have hn := inothing_c y.f
  simp only [fltT] at hn
  refine contract2_of Try.func61 rfl (fun E0 => ?_)
  refine awp.sound (g := .mk) (ow := []) (kp := (fun k => k == 0 || k == 1 || k == 2 || k == 5 || k == 15)) ?_
  rw [Try.ntmps61]
  simp -dsimp [wntC]
  try refine ⟨?_, ⟨by kernel_rfl⟩⟩
  refine ACall.of hn [] 0 ?_
  cases h : y.f.non with
  | true =>
    simp -dsimp
    and_intros
    all_goals try first | rfl | omega | exact ⟨by kernel_rfl⟩
    refine Fin.of ?_
    simp
  | false =>
    simp -dsimp
    try refine ⟨?_, ⟨by kernel_rfl⟩⟩
    refine ACall.of hc [] 0 ?_
    simp -dsimp
    and_intros
    all_goals try first | rfl | omega | exact ⟨by kernel_rfl⟩
    refine Fin.of ?_
    simp [wntC, ints]
end Go.Proofs

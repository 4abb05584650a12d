/-
  What functions of the program compute, stated as contracts over plain data; the conditions of each stand in its own statement.
-/
import Derived.Test.YtkhneohilohhiaaC9
import Derived.Test.YtkhneohilohhiaaT30
import Derived.Test.YtkhneohilohhiaaF
set_option linter.unusedSimpArgs false
namespace Go.Proofs
open Go Go.Tr Go.RowKit Go.Maps Go.Sort Go.Shelf

theorem sorts_s (m : Nat) : AnyZI.SortsIn Try.prog Try.lSorted_ren Fence.wide m :=
  ⟨fun blk off cap ss W hH hblk hsz => callsIn_wide.2 (AnyM.slices_Sort_int Try.lSort blk off cap ss W hH hblk hsz),
   fun p cap W => callsIn_wide.2 (AnyM.slices_Sort_int_none Try.lSort p cap W)⟩
def anyR : Value → Option (DataW Unit × List MemPlace) := fun _ => some (.nil, [])
theorem map_rd {k : TypeId} (hk : Try.prog.underlying k = some (.int .i64)) : ∀ {l : List MapEntry} {ks : List Int}, l.map (·.key) = ks.map (Value.int .i64) → (∀ k ∈ ks, (Lit.int .i64 k).wf = true) →
    (∀ x ∈ l, ∃ y, Go.WideElems.rd Try.prog k anyR x = some y) ∧ l.map (Go.WideElems.rg Try.prog k anyR) = ks.map fun n => (Lit.int .i64 n, DataW.nil)
  | [], [], _, _ => ⟨by simp, rfl⟩
  | [], _ :: _, h, _ => by simp at h
  | _ :: _, [], h, _ => by simp at h
  | a :: l, n :: ks, h, hw => by
    simp only [List.map_cons, List.cons.injEq] at h
    obtain ⟨ih1, ih2⟩ := map_rd hk h.2 fun k hk => hw k (List.mem_cons_of_mem _ hk)
    have hr : Go.WideElems.rd Try.prog k anyR a = some (Lit.int .i64 n, DataW.nil) := by
      unfold Go.WideElems.rd
      rw [h.1, keyOf_int_mk hk (hw n (by simp))]
      rfl
    refine ⟨fun x hx => ?_, ?_⟩
    · rcases List.mem_cons.1 hx with rfl | hx
      · exact ⟨_, hr⟩
      · exact ih1 x hx
    · simp only [List.map_cons, ih2, Go.WideElems.rg_of hr]
theorem keys_s : KeysC Try.prog 42 41 66 3 := by
  refine ⟨fun b w => (callsIn_wide.1 (AnyZI.keys_in Try.lKeys Fence.wide 5 trivial rfl (some b) w)).mono fun e' w' ⟨h1, h2⟩ => ⟨_, h1, h2⟩, fun Bm b l clock ks w hlt hcell hh hst hkeys hwf hlen => ?_⟩
  obtain ⟨hrd, hrg⟩ := map_rd (k := 3) Try.underlying3 hkeys hwf
  have hl : l.size = ks.length := by
    have := congrArg List.length hkeys
    simpa using this
  let D0 : DataW Unit := .map ((l.toList.map (Go.WideElems.rg Try.prog 3 anyR)).foldr DataW.insert [])
  have hperm : (intKeys D0).Perm ks := by
    have h1 := (Go.WideShapes.sorted_perm (l.toList.map (Go.WideElems.rg Try.prog 3 anyR))).map fun p : Lit × DataW Unit => Go.intOf p.1
    rw [hrg] at h1
    simp only [List.map_map] at h1
    have h2 : ks.map ((fun p : Lit × DataW Unit => Go.intOf p.1) ∘ fun n => (Lit.int .i64 n, DataW.nil)) = ks := by
      conv => rhs; rw [← List.map_id ks]
      exact List.map_congr_left fun _ _ => rfl
    rw [h2] at h1
    show (List.map (fun p : Lit × DataW Unit => Go.intOf p.1) ((l.toList.map (Go.WideElems.rg Try.prog 3 anyR)).foldr DataW.insert [])).Perm ks
    rw [hrg]
    exact h1
  have hsz : Maps.size D0 = ks.length := by
    show ((l.toList.map (Go.WideElems.rg Try.prog 3 anyR)).foldr DataW.insert []).length = _
    rw [length_sorted]; simp [hl]
  have hown : w.ownsMap Try.prog 3 anyR b l.size D0 := ⟨l, clock, hh, ⟨by simp only [maxLen]; omega, hst, hrd⟩, Nat.le_refl _, rfl⟩
  have hseq : SeqGives Fence.wide 2 Try.prog 66 #[.pointer (some ⟨Bm, 0, none⟩)] encZ (fun ss => ss.Perm (intKeys D0)) (Maps.size D0) w :=
    AnyZI.keys_gives (ρ := Try.lKeys_ren) { Try.lKeys with } Fence.wide _ trivial rfl (by omega) Bm b l.size D0 _ hlt hcell hown
  have cS := AnyZI.sorted_in Try.lSorted Fence.wide 5 trivial trivial trivial trivial rfl (by omega) (sorts_s _) (enters_of Try.func65 (by kernel_rfl) rfl) 66 #[.pointer (some ⟨Bm, 0, none⟩)] trivial (enters_of Try.func66 (by kernel_rfl) rfl) _ _ (by rw [hsz]; simp only [maxLen]; omega) (by rw [hsz]; omega) _ hseq
  refine (callsIn_wide.1 cS).mono fun e' w' ⟨v, ss, he, hS, hrow, _, hb⟩ => ⟨v, he, ?_, hb⟩
  have hp : ss.Perm ks := hS.trans hperm
  have hm : (ss.mergeSort fun x y => decide (x ≤ y)) = ks.mergeSort fun x y => decide (x ≤ y) := mergeSort_of_perm_i hp
  rw [hp.length_eq, hm] at hrow
  exact hrow
end Go.Proofs

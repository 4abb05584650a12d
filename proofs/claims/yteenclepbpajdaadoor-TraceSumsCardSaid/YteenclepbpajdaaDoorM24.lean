/-
  What functions of the program compute, stated as contracts over plain data; the conditions of each stand in its own statement.
-/
import Derived.Test.YteenclepbpajdaaDoorM23
import Derived.Test.YteenclepbpajdaaDoorM15
import Derived.Test.YteenclepbpajdaaDoorM22
set_option linter.unusedSimpArgs false
set_option linter.unusedVariables false
namespace Go.Proofs
/-! ### what one router makes of a packet, bit by bit -/
/-- a table and a packet that fit -/
structure Fits (b : Tb) (p : Pk) : Prop where
  ck : chk b = 0
  sd : b.sd = p.subd
  len : b.len = p.len
  ok : p.ok = true
  mode : p.mode ≠ 2
theorem Fits.bit {b : Tb} {p : Pk} (h : Fits b p) {k : Nat} (hk : k < 64) (hb : p.bits.getLsbD k = true) : (k : Int) < p.len := (ok_bits h.ok).2 k hk hb
theorem hopAt_eq {b : Tb} {p : Pk} (hc : chk b = 0) (k : Nat) : hopAt b p k = hopB b (idAt p k) (plnP p) := hop_eq hc p _
theorem hopAt_at {b : Tb} {p : Pk} (hc : chk b = 0) {k : Nat} (h0 : hopAt b p k ≠ 0) : atB p.set k p.len = true ∧ 1 ≤ hopAt b p k ∧ hopAt b p k ≤ 99 := by
  rw [hopAt_eq hc] at h0 ⊢
  refine ⟨Classical.byContradiction fun g => h0 (by rw [idAt, if_neg g]; exact hop_zero hc _), hop_range hc h0⟩
theorem mask_bit {b : Tb} {p : Pk} (h : Fits b p) {k : Nat} (hk : k < 64) (hb : p.bits.getLsbD k = true) {n : Int} (hn : 1 ≤ n ∧ n ≤ 99) : (maskP b (plnP p) p.set n).getLsbD k = true ↔ hopAt b p k = n := by
  have hl := (ok_bits h.ok).1
  have hlen : b.len ≤ 64 := by
    rw [h.len]; simp [validLen] at hl; omega
  have hkl := h.bit hk hb
  rw [mask_eq h.ck h.ok hn, bitsR_bit b _ _ _ hk _ (by omega), h.len]
  constructor
  · rintro ⟨h1, h2, h3, h4⟩
    rw [hopAt_eq h.ck, idAt, if_pos h2]; exact h4
  · intro e
    have h2 := hopAt_at h.ck (k := k) (p := p) (by omega)
    rw [hopAt_eq h.ck, idAt, if_pos h2.1] at e
    exact ⟨by omega, h2.1, by omega, e⟩
/-- the copy for a neighbour -/
noncomputable def cpk (b : Tb) (p : Pk) (h : Int) : Pk := pkMask p (maskP b (plnP p) p.set h)
theorem cpk_bit {b : Tb} {p : Pk} (h : Fits b p) {k : Nat} (hk : k < 64) {n : Int} (hn : 1 ≤ n ∧ n ≤ 99) : (cpk b p n).bits.getLsbD k = true ↔ p.bits.getLsbD k = true ∧ hopAt b p k = n := by
  simp only [cpk, pkMask, BitVec.getLsbD_and, Bool.and_eq_true]
  constructor
  · rintro ⟨h1, h2⟩; exact ⟨h1, (mask_bit h hk h1 hn).1 h2⟩
  · rintro ⟨h1, h2⟩; exact ⟨h1, (mask_bit h hk h1 hn).2 h2⟩
theorem mask_ok {p : Pk} (h : p.ok = true) (ht : p.ttl ≠ 0) (m : BitVec 64) : (pkMask p m).ok = true := by
  have h2 := ok_ttl h
  cases p
  simp only [pkMask] at *
  simp only [Pk.ok, Bool.and_eq_true, validB, decide_eq_true_eq, insB] at h ⊢
  obtain ⟨a1, a2, a3, a4, ⟨b1, b2⟩, a5, a6⟩ := h
  refine ⟨a1, a2, a3, a4, ⟨b1, ?_⟩, ⟨by omega, by omega⟩, a6⟩
  apply BitVec.eq_of_getLsbD_eq
  intro k hk
  have h3 := congrArg (fun z => z.getLsbD k) b2
  simp only [BitVec.getLsbD_and, BitVec.getLsbD_not, hk, decide_true, Bool.true_and, BitVec.getLsbD_zero] at h3 ⊢
  revert h3
  generalize BitVec.getLsbD _ k = x
  generalize BitVec.getLsbD _ k = y
  generalize BitVec.getLsbD _ k = z
  cases x <;> cases y <;> cases z <;> simp
theorem Fits.mask {b c : Tb} {p : Pk} (h : Fits b p) (hc : Fits c p) (ht : p.ttl ≠ 0) (m : BitVec 64) : Fits c (pkMask p m) :=
  ⟨hc.ck, hc.sd, hc.len, mask_ok h.ok ht m, h.mode⟩
theorem andNot_bit (R M : BitVec 64) {k : Nat} (hk : k < 64) : (R &&& ~~~ M).getLsbD k = true ↔ R.getLsbD k = true ∧ M.getLsbD k = false := by
  simp [hk]
theorem or_bit (R M : BitVec 64) {k : Nat} : (R ||| M).getLsbD k = true ↔ R.getLsbD k = true ∨ M.getLsbD k = true := by
  simp
theorem one_bit {j k : Nat} (hj : j < 64) (hk : k < 64) : (1#64 <<< j).getLsbD k = true ↔ k = j := by rw [bit_one hj hk]; simp
/-- what is left of a packet is whole for each neighbour -/
def Whole (b : Tb) (p : Pk) (R : BitVec 64) : Prop := (∀ k < 64, R.getLsbD k = true → p.bits.getLsbD k = true) ∧
  ∀ j k, j < 64 → k < 64 → p.bits.getLsbD j = true → hopAt b p j = hopAt b p k → hopAt b p k ≠ 0 → hopAt b p k ≠ b.r → R.getLsbD k = true → R.getLsbD j = true
structure FwdI (b : Tb) (p : Pk) (o o' : Out) (R : BitVec 64) : Prop where
  loc : ∀ k < 64, o'.loc.getLsbD k = true ↔ o.loc.getLsbD k = true ∨ (R.getLsbD k = true ∧ hopAt b p k ≠ 0 ∧ hopAt b p k = b.r)
  lost : ∀ k < 64, o'.lost.getLsbD k = true ↔ o.lost.getLsbD k = true ∨ (R.getLsbD k = true ∧ (hopAt b p k = 0 ∨ (hopAt b p k ≠ b.r ∧ p.ttl = 0)))
  cps : ∃ H : List Int, o'.cps = o.cps ++ H.map (fun h => (h, cpk b p h)) ∧ H.Nodup ∧ ∀ h, h ∈ H ↔ p.ttl ≠ 0 ∧ h ≠ 0 ∧ h ≠ b.r ∧ ∃ k < 64, R.getLsbD k = true ∧ hopAt b p k = h
theorem FwdI.nil {b : Tb} {p : Pk} (o : Out) : FwdI b p o o 0#64 := ⟨by simp, by simp, [], by simp, by simp, by simp⟩
theorem fwdG_spec {b : Tb} {p : Pk} (h : Fits b p) : ∀ (n : Nat) (o : Out) (R : BitVec 64), (bitsL R).length ≤ n → Whole b p R → FwdI b p o (fwdG b p n o R) R
  | 0, o, R, hn, _ => by
    obtain rfl := pop_zero (R := R) (by omega)
    exact .nil o
  | n + 1, o, R, hn, hW => by
    rw [fwdG]
    by_cases h0 : R = 0#64
    · subst h0; rw [if_pos rfl]; exact .nil o
    rw [if_neg h0]
    obtain ⟨t1, t2, t3⟩ := tz_spec h0
    have hmb := fwdM_bit h.ck h.ok h.len hW.1 h0
    have hpop := pop_less t1 t2 hmb
    have hpz := hW.1 _ t1 t2
    generalize hj : tz R = j at t1 t2 t3 hmb hpop hpz
    by_cases c0 : hopAt b p j = 0
    · have eM : fwdM b p R = 1#64 <<< j := by rw [fwdM, hj, if_pos (.inl c0)]
      have eO : fwdO b p o R = ⟨o.loc, o.lost ||| 1#64 <<< j, o.cps⟩ := by rw [fwdO, hj, if_pos c0]
      rw [eM] at hpop
      rw [eM, eO]
      have hb : ∀ k < 64, (R &&& ~~~ (1#64 <<< j)).getLsbD k = true ↔ R.getLsbD k = true ∧ k ≠ j := fun k hk => by rw [andNot_bit _ _ hk, bit_one t1 hk]; simp
      have ih := fwdG_spec h n ⟨o.loc, o.lost ||| 1#64 <<< j, o.cps⟩ (R &&& ~~~ (1#64 <<< j)) (by omega)
        ⟨fun k hk hb' => hW.1 k hk ((hb k hk).1 hb').1, fun i k hi hk hpi e e0 er hr => (hb i hi).2 ⟨hW.2 i k hi hk hpi e e0 er ((hb k hk).1 hr).1, fun e' => by subst e'; rw [c0] at e; exact e0 e.symm⟩⟩
      refine ⟨fun k hk => ?_, fun k hk => ?_, ?_⟩
      · rw [ih.loc k hk, hb k hk]
        constructor
        · rintro (a | ⟨⟨a1, a2⟩, a3⟩)
          · exact .inl a
          · exact .inr ⟨a1, a3⟩
        · rintro (a | ⟨a1, a3⟩)
          · exact .inl a
          · exact .inr ⟨⟨a1, fun e => by subst e; exact a3.1 c0⟩, a3⟩
      · rw [ih.lost k hk, hb k hk, or_bit, one_bit t1 hk]
        constructor
        · rintro ((a | rfl) | ⟨⟨a1, a2⟩, a3⟩)
          · exact .inl a
          · exact .inr ⟨t2, .inl c0⟩
          · exact .inr ⟨a1, a3⟩
        · rintro (a | ⟨a1, a3⟩)
          · exact .inl (.inl a)
          · by_cases e : k = j
            · exact .inl (.inr e)
            · exact .inr ⟨⟨a1, e⟩, a3⟩
      · obtain ⟨H, h1, h2, h3⟩ := ih.cps
        refine ⟨H, h1, h2, fun x => ?_⟩
        rw [h3]
        constructor
        · rintro ⟨a1, a2, a3, k, hk, a4, a5⟩
          exact ⟨a1, a2, a3, k, hk, ((hb k hk).1 a4).1, a5⟩
        · rintro ⟨a1, a2, a3, k, hk, a4, a5⟩
          exact ⟨a1, a2, a3, k, hk, (hb k hk).2 ⟨a4, fun e => by subst e; rw [c0] at a5; exact a2 a5.symm⟩, a5⟩
    by_cases c1 : hopAt b p j = b.r
    · have eM : fwdM b p R = 1#64 <<< j := by rw [fwdM, hj, if_pos (.inr c1)]
      have eO : fwdO b p o R = ⟨o.loc ||| 1#64 <<< j, o.lost, o.cps⟩ := by rw [fwdO, hj, if_neg c0, if_pos c1]
      rw [eM] at hpop
      rw [eM, eO]
      have hb : ∀ k < 64, (R &&& ~~~ (1#64 <<< j)).getLsbD k = true ↔ R.getLsbD k = true ∧ k ≠ j := fun k hk => by rw [andNot_bit _ _ hk, bit_one t1 hk]; simp
      have ih := fwdG_spec h n ⟨o.loc ||| 1#64 <<< j, o.lost, o.cps⟩ (R &&& ~~~ (1#64 <<< j)) (by omega)
        ⟨fun k hk hb' => hW.1 k hk ((hb k hk).1 hb').1, fun i k hi hk hpi e e0 er hr => (hb i hi).2 ⟨hW.2 i k hi hk hpi e e0 er ((hb k hk).1 hr).1, fun e' => by subst e'; rw [c1] at e; exact er e.symm⟩⟩
      refine ⟨fun k hk => ?_, fun k hk => ?_, ?_⟩
      · rw [ih.loc k hk, hb k hk, or_bit, one_bit t1 hk]
        constructor
        · rintro ((a | rfl) | ⟨⟨a1, a2⟩, a3⟩)
          · exact .inl a
          · exact .inr ⟨t2, c0, c1⟩
          · exact .inr ⟨a1, a3⟩
        · rintro (a | ⟨a1, a3⟩)
          · exact .inl (.inl a)
          · by_cases e : k = j
            · exact .inl (.inr e)
            · exact .inr ⟨⟨a1, e⟩, a3⟩
      · rw [ih.lost k hk, hb k hk]
        constructor
        · rintro (a | ⟨⟨a1, a2⟩, a3⟩)
          · exact .inl a
          · exact .inr ⟨a1, a3⟩
        · rintro (a | ⟨a1, a3⟩)
          · exact .inl a
          · exact .inr ⟨⟨a1, fun e => by subst e; exact a3.elim c0 fun a => a.1 c1⟩, a3⟩
      · obtain ⟨H, h1, h2, h3⟩ := ih.cps
        refine ⟨H, h1, h2, fun x => ?_⟩
        rw [h3]
        constructor
        · rintro ⟨a1, a2, a3, k, hk, a4, a5⟩
          exact ⟨a1, a2, a3, k, hk, ((hb k hk).1 a4).1, a5⟩
        · rintro ⟨a1, a2, a3, k, hk, a4, a5⟩
          exact ⟨a1, a2, a3, k, hk, (hb k hk).2 ⟨a4, fun e => by subst e; rw [c1] at a5; exact a3 a5.symm⟩, a5⟩
    have hr := (hopAt_at h.ck c0).2
    have eM : fwdM b p R = togR b p R (hopAt b p j) := by rw [fwdM, hj, if_neg (fun h => h.elim c0 c1)]
    rw [eM] at hpop ⊢
    have htog : ∀ k < 64, (togR b p R (hopAt b p j)).getLsbD k = true ↔ R.getLsbD k = true ∧ hopAt b p k = hopAt b p j := fun k hk => by
      rw [togR, BitVec.getLsbD_and, Bool.and_eq_true]
      constructor
      · rintro ⟨a1, a2⟩; exact ⟨a1, (mask_bit h hk (hW.1 k hk a1) hr).1 a2⟩
      · rintro ⟨a1, a2⟩; exact ⟨a1, (mask_bit h hk (hW.1 k hk a1) hr).2 a2⟩
    have hb : ∀ k < 64, (R &&& ~~~ togR b p R (hopAt b p j)).getLsbD k = true ↔ R.getLsbD k = true ∧ hopAt b p k ≠ hopAt b p j := fun k hk => by
      rw [andNot_bit _ _ hk]
      constructor
      · rintro ⟨a1, a2⟩; exact ⟨a1, fun e => by rw [(htog k hk).2 ⟨a1, e⟩] at a2; simp at a2⟩
      · rintro ⟨a1, a2⟩
        refine ⟨a1, ?_⟩
        cases ht : (togR b p R (hopAt b p j)).getLsbD k with
        | false => rfl
        | true => exact absurd ((htog k hk).1 ht).2 a2
    have hW' : Whole b p (R &&& ~~~ togR b p R (hopAt b p j)) := ⟨fun k hk hb' => hW.1 k hk ((hb k hk).1 hb').1, fun i k hi hk hpi e e0 er hr => (hb i hi).2 ⟨hW.2 i k hi hk hpi e e0 er ((hb k hk).1 hr).1, by rw [e]; exact ((hb k hk).1 hr).2⟩⟩
    have hbits : (p.setB R).bits &&& togR b p R (hopAt b p j) = p.bits &&& maskP b (plnP p) p.set (hopAt b p j) := by
      apply BitVec.eq_of_getLsbD_eq
      intro k hk
      show (R &&& togR b p R (hopAt b p j)).getLsbD k = _
      rw [Bool.eq_iff_iff, BitVec.getLsbD_and, Bool.and_eq_true, htog k hk, BitVec.getLsbD_and, Bool.and_eq_true]
      constructor
      · rintro ⟨_, a1, a2⟩
        have := hW.1 k hk a1
        exact ⟨this, (mask_bit h hk this hr).2 a2⟩
      · rintro ⟨a1, a2⟩
        have e := (mask_bit h hk a1 hr).1 a2
        have := hW.2 k j hk t1 a1 e c0 c1 t2
        exact ⟨this, this, e⟩
    have hnz : (p.setB R).bits &&& togR b p R (hopAt b p j) ≠ 0#64 := fun e => by
      have := congrArg (fun z => z.getLsbD j) e
      simp only [BitVec.getLsbD_zero] at this
      change (R &&& togR b p R (hopAt b p j)).getLsbD j = false at this
      rw [BitVec.getLsbD_and, t2, (htog j t1).2 ⟨t2, rfl⟩] at this
      simp at this
    have hok := ok_setB h.ok hW.1
    by_cases ht : p.ttl = 0
    · have eC : (pkmR (p.setB R) (togR b p R (hopAt b p j))).2 = false := by
        rw [pkmR, if_neg (fun a => a.2.1 ht)]
      have eO : fwdO b p o R = ⟨o.loc, o.lost ||| togR b p R (hopAt b p j), o.cps⟩ := by
        rw [fwdO, hj, if_neg c0, if_neg c1, if_neg (by rw [eC]; simp)]
      rw [eO]
      have ih := fwdG_spec h n ⟨o.loc, o.lost ||| togR b p R (hopAt b p j), o.cps⟩ _ (by omega) hW'
      refine ⟨fun k hk => ?_, fun k hk => ?_, ?_⟩
      · rw [ih.loc k hk, hb k hk]
        constructor
        · rintro (a | ⟨⟨a1, a2⟩, a3⟩)
          · exact .inl a
          · exact .inr ⟨a1, a3⟩
        · rintro (a | ⟨a1, a3⟩)
          · exact .inl a
          · exact .inr ⟨⟨a1, fun e => c1 (by rw [← e]; exact a3.2)⟩, a3⟩
      · rw [ih.lost k hk, hb k hk, or_bit, htog k hk]
        constructor
        · rintro ((a | ⟨a1, a2⟩) | ⟨⟨a1, a2⟩, a3⟩)
          · exact .inl a
          · exact .inr ⟨a1, .inr ⟨by rw [a2]; exact c1, ht⟩⟩
          · exact .inr ⟨a1, a3⟩
        · rintro (a | ⟨a1, a3⟩)
          · exact .inl (.inl a)
          · by_cases e : hopAt b p k = hopAt b p j
            · exact .inl (.inr ⟨a1, e⟩)
            · exact .inr ⟨⟨a1, e⟩, a3⟩
      · obtain ⟨H, h1, h2, h3⟩ := ih.cps
        refine ⟨H, h1, h2, fun x => ?_⟩
        rw [h3]
        exact ⟨fun a => absurd ht a.1, fun a => absurd ht a.1⟩
    · have eC : pkmR (p.setB R) (togR b p R (hopAt b p j)) = (cpk b p (hopAt b p j), true) := by
        rw [pkmR, if_pos ⟨hok, ht, hnz⟩, pkMask, hbits]; rfl
      have eO : fwdO b p o R = ⟨o.loc, o.lost, o.cps ++ [(hopAt b p j, cpk b p (hopAt b p j))]⟩ := by
        rw [fwdO, hj, if_neg c0, if_neg c1, eC]; rfl
      rw [eO]
      have ih := fwdG_spec h n ⟨o.loc, o.lost, o.cps ++ [(hopAt b p j, cpk b p (hopAt b p j))]⟩ _ (by omega) hW'
      refine ⟨fun k hk => ?_, fun k hk => ?_, ?_⟩
      · rw [ih.loc k hk, hb k hk]
        constructor
        · rintro (a | ⟨⟨a1, a2⟩, a3⟩)
          · exact .inl a
          · exact .inr ⟨a1, a3⟩
        · rintro (a | ⟨a1, a3⟩)
          · exact .inl a
          · exact .inr ⟨⟨a1, fun e => c1 (by rw [← e]; exact a3.2)⟩, a3⟩
      · rw [ih.lost k hk, hb k hk]
        constructor
        · rintro (a | ⟨⟨a1, a2⟩, a3⟩)
          · exact .inl a
          · exact .inr ⟨a1, a3⟩
        · rintro (a | ⟨a1, a3⟩)
          · exact .inl a
          · refine .inr ⟨⟨a1, fun e => ?_⟩, a3⟩
            rcases a3 with a3 | a3
            · exact c0 (by rw [← e]; exact a3)
            · exact ht a3.2
      · obtain ⟨H, h1, h2, h3⟩ := ih.cps
        refine ⟨hopAt b p j :: H, by rw [h1]; simp, List.nodup_cons.2 ⟨fun hm => ?_, h2⟩, fun x => ?_⟩
        · obtain ⟨_, _, _, k, hk, a4, a5⟩ := (h3 _).1 hm
          exact ((hb k hk).1 a4).2 a5
        · rw [List.mem_cons, h3]
          constructor
          · rintro (rfl | ⟨a1, a2, a3, k, hk, a4, a5⟩)
            · exact ⟨ht, c0, c1, j, t1, t2, rfl⟩
            · exact ⟨a1, a2, a3, k, hk, ((hb k hk).1 a4).1, a5⟩
          · rintro ⟨a1, a2, a3, k, hk, a4, a5⟩
            by_cases e : x = hopAt b p j
            · exact .inl e
            · exact .inr ⟨a1, a2, a3, k, hk, (hb k hk).2 ⟨a4, fun e' => e (by rw [← a5, e'])⟩, a5⟩
theorem fwd_spec {b : Tb} {p : Pk} (h : Fits b p) : fwdR b p = (fwdV b p, 0) ∧ FwdI b p out0 (fwdV b p) p.bits := by
  refine ⟨?_, fwdG_spec h 64 out0 p.bits (bitsL_len _) ⟨fun _ _ h => h, fun j k _ _ h _ _ _ _ => h⟩⟩
  rw [fwdR, if_neg (by simp [h.ck, h.ok]), if_neg h.mode, if_neg (by simp [h.sd, h.len])]
end Go.Proofs

set_option linter.unusedSimpArgs false
set_option linter.unusedVariables false
namespace Go.Proofs
/-! ### a packet's run, bit by bit -/
/-- what of a trace is about a bit -/
def Trc.at (t : Trc) (k : Nat) : Trc := ⟨t.dl.filter fun d => d.2.bits.getLsbD k, t.cr.filter fun c => c.2.2.getLsbD k, t.ls.filter fun x => x.2.getLsbD k⟩
def Trc.app (t u : Trc) : Trc := ⟨t.dl ++ u.dl, t.cr ++ u.cr, t.ls ++ u.ls⟩
/-- all tables fit a packet -/
structure FitL (l : List Tb) (p : Pk) : Prop where
  ok : p.ok = true
  all : ∀ b ∈ l, Fits b p
theorem FitL.mask {l : List Tb} {p : Pk} (h : FitL l p) (ht : p.ttl ≠ 0) (m : BitVec 64) : FitL l (pkMask p m) := ⟨mask_ok h.ok ht m, fun b hb => (h.all b hb).mask (h.all b hb) ht m⟩
/-- the way of a bit -/
noncomputable def way (l : List Tb) (k : Nat) : Nat → Int × Pk → Trc
  | 0, _ => tr0
  | n + 1, q => match findT l q.1 with
    | none => ⟨[], [], [(q.1, q.2.bits)]⟩
    | some b => if hopAt b q.2 k = 0 then ⟨[], [], [(q.1, (fwdV b q.2).lost)]⟩
      else if hopAt b q.2 k = b.r then ⟨[(q.1, onlyR q.2 k)], [], []⟩
      else if q.2.ttl = 0 then ⟨[], [], [(q.1, (fwdV b q.2).lost)]⟩
      else (⟨[], [(q.1, hopAt b q.2 k, (cpk b q.2 (hopAt b q.2 k)).bits)], []⟩ : Trc).app (way l k n (hopAt b q.2 k, cpk b q.2 (hopAt b q.2 k)))
theorem filter_nodup {α : Type} [DecidableEq α] {l : List α} (h : l.Nodup) (a : α) : l.filter (fun x => decide (x = a)) = if a ∈ l then [a] else [] := by
  induction l with
  | nil => simp
  | cons x l ih =>
    rw [List.nodup_cons] at h
    rw [List.filter_cons, ih h.2]
    by_cases e : x = a
    · subst e; simp [h.1]
    · simp [e, Ne.symm e]
theorem mem_bitsL {B : BitVec 64} {k : Nat} : k ∈ bitsL B ↔ k < 64 ∧ B.getLsbD k = true := by simp [bitsL]
theorem onlyR_eq {p : Pk} (h : p.ok = true) {j : Nat} (hj : j < 64) (hb : p.bits.getLsbD j = true) : onlyR p j = ⟨p.mode, p.subd, p.set, p.len, p.ttl, p.ent, p.ing, p.proto, 1#64 <<< j, p.pay⟩ := by
  rw [onlyR, if_pos ⟨h, by omega, by omega, by simpa using hb⟩]; simp
theorem FwdI.hop {b : Tb} {p : Pk} (h : Fits b p) {o : Out} (hF : FwdI b p out0 o p.bits) {k : Nat} (hk : k < 64) :
    o.cps.filter (fun c => c.2.bits.getLsbD k) = if p.bits.getLsbD k = true ∧ p.ttl ≠ 0 ∧ hopAt b p k ≠ 0 ∧ hopAt b p k ≠ b.r then [(hopAt b p k, cpk b p (hopAt b p k))] else [] := by
  obtain ⟨H, h1, h2, h3⟩ := hF.cps
  rw [h1]
  simp only [out0, List.nil_append]
  rw [List.filter_map]
  by_cases hb : p.bits.getLsbD k = true
  · have e : H.filter ((fun c : Int × Pk => c.2.bits.getLsbD k) ∘ fun x => (x, cpk b p x)) = H.filter fun x => decide (x = hopAt b p k) := by
      apply List.filter_congr
      intro x hx
      obtain ⟨_, a1, a2, j, hj, a3, a4⟩ := (h3 x).1 hx
      have hr := (hopAt_at h.ck (k := j) (p := p) (by rw [a4]; exact a1)).2
      rw [a4] at hr
      show (cpk b p x).bits.getLsbD k = _
      rw [Bool.eq_iff_iff, cpk_bit h hk hr]
      simp [hb, eq_comm]
    rw [e, filter_nodup h2]
    by_cases hc : p.ttl ≠ 0 ∧ hopAt b p k ≠ 0 ∧ hopAt b p k ≠ b.r
    · rw [if_pos ((h3 _).2 ⟨hc.1, hc.2.1, hc.2.2, k, hk, hb, rfl⟩), if_pos ⟨hb, hc⟩]; rfl
    · rw [if_neg (fun a => hc ⟨((h3 _).1 a).1, ((h3 _).1 a).2.1, ((h3 _).1 a).2.2.1⟩), if_neg (fun a => hc a.2)]; rfl
  · rw [if_neg (fun a => hb a.1)]
    simp only [List.map_eq_nil_iff, List.filter_eq_nil_iff]
    intro x hx hc
    obtain ⟨_, a1, a2, j, hj, a3, a4⟩ := (h3 x).1 hx
    have hr := (hopAt_at h.ck (k := j) (p := p) (by rw [a4]; exact a1)).2
    rw [a4] at hr
    exact hb ((cpk_bit h hk hr).1 hc).1
theorem next_fit {l : List Tb} {q : Int × Pk} (hF : FitL l q.2) : ∀ c ∈ nextQ l q, FitL l c.2 := fun c hc => by
  cases hf : findT l q.1 with
  | none => simp [nextQ, hf] at hc
  | some b =>
    have hb := hF.all b (findT_mem hf).1
    obtain ⟨h1, h2⟩ := fwd_spec hb
    have hn : nextQ l q = (fwdV b q.2).cps := by simp [nextQ, hf, h1]
    obtain ⟨H, h3, h4, h5⟩ := h2.cps
    rw [hn, h3] at hc
    simp only [out0, List.nil_append, List.mem_map] at hc
    obtain ⟨x, hx, rfl⟩ := hc
    exact hF.mask ((h5 x).1 hx).1 _
end Go.Proofs

set_option linter.unusedSimpArgs false
set_option linter.unusedVariables false
namespace Go.Proofs
/-- a way that ends with a delivery -/
inductive Dl (l : List Tb) (id pl : Int) : Int → List Int → Prop
  | here {r : Int} {b : Tb} : findT l r = some b → hopB b id pl = r → r ≠ 0 → Dl l id pl r []
  | next {r h : Int} {b : Tb} {ws : List Int} : findT l r = some b → hopB b id pl = h → h ≠ 0 → h ≠ r → Dl l id pl h ws → Dl l id pl r (h :: ws)
theorem Dl.det {l : List Tb} {id pl r : Int} {ws : List Int} (h : Dl l id pl r ws) : ∀ {us : List Int}, Dl l id pl r us → ws = us := by
  induction h with
  | here h1 h2 h3 =>
    intro us g
    cases g with
    | here => rfl
    | next g1 g2 g3 g4 _ =>
      rw [h1] at g1; simp at g1; subst g1
      exact absurd (g2.symm.trans h2) g4
  | next h1 h2 h3 h4 _ ih =>
    intro us g
    cases g with
    | here g1 g2 g3 =>
      rw [h1] at g1; simp at g1; subst g1
      exact absurd (h2.symm.trans g2) h4
    | next g1 g2 g3 g4 g5 =>
      rw [h1] at g1; simp at g1; subst g1
      have e := h2.symm.trans g2
      subst e
      rw [ih g5]
/-- the rest of a way is a way -/
theorem Dl.rest {l : List Tb} {id pl r : Int} {ws : List Int} (h : Dl l id pl r ws) : ∀ {x : Int}, x ∈ ws → ∃ us, Dl l id pl x us ∧ us.length < ws.length := by
  induction h with
  | here => intro x hx; simp at hx
  | next h1 h2 h3 h4 h5 ih =>
    intro x hx
    rcases List.mem_cons.1 hx with rfl | hx
    · exact ⟨_, h5, by simp⟩
    · obtain ⟨us, g1, g2⟩ := ih hx
      exact ⟨us, g1, by simp; omega⟩
theorem Dl.nodup {l : List Tb} {id pl r : Int} {ws : List Int} (h : Dl l id pl r ws) : (r :: ws).Nodup := by
  induction h with
  | here => simp
  | @next r h b ws h1 h2 h3 h4 h5 ih =>
    refine List.nodup_cons.2 ⟨fun hm => ?_, ih⟩
    have hD := Dl.next h1 h2 h3 h4 h5
    obtain ⟨us, g1, g2⟩ := hD.rest hm
    have := hD.det g1
    rw [← this] at g2; omega
theorem Dl.found {l : List Tb} {id pl r : Int} {ws : List Int} (h : Dl l id pl r ws) : ∀ x ∈ r :: ws, (findT l x).isSome := by
  induction h with
  | here h1 => intro x hx; simp at hx; subst hx; simp [h1]
  | next h1 _ _ _ _ ih =>
    intro x hx
    rcases List.mem_cons.1 hx with rfl | hx
    · simp [h1]
    · exact ih x hx
theorem Dl.len {l : List Tb} {id pl r : Int} {ws : List Int} (h : Dl l id pl r ws) : ws.length + 1 ≤ l.length := by
  have := path_n h.nodup h.found
  simpa using this
end Go.Proofs

set_option linter.unusedSimpArgs false
set_option linter.unusedVariables false
namespace Go.Proofs
/-! ### ways through right tables -/
theorem find_uniq {α : Type} {q : α → Bool} : ∀ {l : List α} {x : α}, x ∈ l → q x = true → (∀ y ∈ l, q y = true → y = x) → l.find? q = some x
  | [], x, h, _, _ => by simp at h
  | a :: l, x, h, hq, hu => by
    rw [List.find?_cons]
    cases ha : q a with
    | true => rw [hu a (by simp) ha]
    | false =>
      rcases List.mem_cons.1 h with rfl | h
      · rw [hq] at ha; simp at ha
      · exact find_uniq h hq (fun y hy => hu y (by simp [hy]))
theorem rt_inj {g : Topo} (hg : g.Ok) {x y : Rt} (hx : x ∈ g.rs) (hy : y ∈ g.rs) (e : x.id = y.id) : x = y := by
  obtain ⟨i, hi, rfl⟩ := List.mem_iff_getElem.1 hx
  obtain ⟨j, hj, rfl⟩ := List.mem_iff_getElem.1 hy
  have hp := List.pairwise_iff_getElem.1 hg.rpw
  rcases Nat.lt_trichotomy i j with hlt | rfl | hlt
  · have := hp i j hi hj hlt; omega
  · rfl
  · have := hp j i hj hi hlt; omega
theorem rtOf_some {g : Topo} (hg : g.Ok) {x : Rt} (hx : x ∈ g.rs) : rtOf g.rs x.id = some x :=
  find_uniq hx (by simp) (fun y hy e => rt_inj hg hy hx (by simpa using e))
theorem capR_iff {g : Topo} (hg : g.Ok) {r : Int} : capR g.rs r = true ↔ ∃ x ∈ g.rs, x.id = r ∧ x.cap = true := by
  constructor
  · intro h
    unfold capR at h
    cases hr : rtOf g.rs r with
    | none => simp [hr] at h
    | some x =>
      simp only [hr, Option.getD_some] at h
      exact ⟨x, List.mem_of_find?_eq_some hr, by simpa using List.find?_some hr, h⟩
  · rintro ⟨x, hx, rfl, hc⟩
    simp [capR, rtOf_some hg hx, hc]
theorem tabs_mem {g : Topo} {p : Pn} {b : Tb} (h : b ∈ tabs g p g.rs) : ∃ x ∈ g.rs, x.cap = true ∧ b = buildT g p x.id := by
  obtain ⟨z, hz, rfl⟩ := List.mem_map.1 h
  obtain ⟨h1, h2⟩ := List.mem_filter.1 hz
  exact ⟨z, h1, h2, rfl⟩
end Go.Proofs

set_option linter.unusedSimpArgs false
set_option linter.unusedVariables false
namespace Go.Proofs
/-! ### who is connected -/
/-- walks can be turned round -/
theorem Wk.app {g : Topo} {a b : Int} {j k : Nat} {x v w : Int} (h1 : Wk g a j x v) (h2 : Wk g b k a w) : ∃ u, Wk g b (j + k) x u := by
  induction h1 with
  | nil => exact ⟨w, by rw [Nat.zero_add]; exact h2⟩
  | @cons k' x y c v hp _ ih =>
    obtain ⟨u, hu⟩ := ih
    exact ⟨c + u, by rw [show k' + 1 + k = k' + k + 1 by omega]; exact .cons hp hu⟩
end Go.Proofs

set_option linter.unusedSimpArgs false
set_option linter.unusedVariables false
namespace Go.Proofs
/-! ### the generator's topologies are valid -/
def lkNe (x y : Lk) : Prop := ¬ (x.a = y.a ∧ x.b = y.b)
structure LkI (b a : Int) (l : List Lk) : Prop where
  all : ∀ x ∈ l, (1 ≤ x.a ∧ x.a < x.b ∧ (x.b < b ∨ (x.b = b ∧ x.a < a))) ∧ (1 ≤ x.ca ∧ x.ca ≤ 1000) ∧ (1 ≤ x.cb ∧ x.cb ≤ 1000) ∧ 0 ≤ x.cap ∧ x.cap ≤ 1000
  ne : l.Pairwise lkNe
theorem LkI.step {b a cost tree : Int} {skip : Bool} {T : Tp} {l : List Lk} (h : LkI b a l) (ha : 1 ≤ a) (hab : a < b) (hc : 1 ≤ cost ∧ cost ≤ 1000) : LkI b (a + 1) (gTopS cost tree skip b a T l).1 := by
  have hw : LkI b (a + 1) l := ⟨fun x hx => by have := h.all x hx; omega, h.ne⟩
  unfold gTopS
  simp only
  generalize (if (decide (a = tree) && !skip) = true then (true, T) else gOne T 3) = c
  cases c.1 with
  | false => simpa using hw
  | true =>
    simp only [if_true]
    have r1 := gRange_lo c.2 1 cost
    have r2 := gRange_hi c.2 (a := 1) (b := cost) hc.1
    generalize gRange c.2 1 cost = X at r1 r2
    have r3 := gRange_lo X.2 1 cost
    have r4 := gRange_hi X.2 (a := 1) (b := cost) hc.1
    generalize gRange X.2 1 cost = Y at r3 r4
    have r5 := gNext_nonneg Y.2 4
    have r6 := gNext_lt Y.2 (n := 4) (by omega)
    generalize gNext Y.2 4 = Z at r5 r6
    refine ⟨fun x hx => ?_, ?_⟩
    · rcases List.mem_append.1 hx with hx | hx
      · exact hw.all x hx
      · simp at hx; subst hx
        exact ⟨⟨ha, hab, .inr ⟨rfl, by show a < a + 1; omega⟩⟩, ⟨r1, Int.le_trans r2 hc.2⟩, ⟨r3, Int.le_trans r4 hc.2⟩, r5, by show Z.1 ≤ 1000; omega⟩
    · rw [List.pairwise_append]
      refine ⟨h.ne, by simp, fun x hx y hy => ?_⟩
      simp at hy; subst hy
      have := h.all x hx
      unfold lkNe; simp only; omega
theorem LkI.row {b cost tree : Int} {skip : Bool} (hc : 1 ≤ cost ∧ cost ≤ 1000) : ∀ (n : Nat) (a : Int) (T : Tp) (l : List Lk), LkI b a l → 1 ≤ a → a + n ≤ b → LkI b (a + n) (gTopA cost tree skip b n a T l).1
  | 0, a, T, l, h, _, _ => by simpa [gTopA] using h
  | n + 1, a, T, l, h, h1, h2 => by
    rw [gTopA]
    have := LkI.row (tree := tree) (skip := skip) hc n (a + 1) (gTopS cost tree skip b a T l).2 _ (h.step (tree := tree) (skip := skip) (T := T) h1 (by omega) hc) (by omega) (by omega)
    rw [show a + ((n + 1 : Nat) : Int) = a + 1 + n by omega]
    exact this
end Go.Proofs

set_option linter.unusedSimpArgs false
set_option linter.unusedVariables false
namespace Go.Proofs
/-! ### what holds along a run -/
/-- what all parts of a run's trace are -/
structure RunI (l : List Tb) (Q : List (Int × Pk)) (t : Trc) : Prop where
  fit : ∀ q ∈ Q, FitL l q.2 ∧ (findT l q.1 = none → q.2.bits ≠ 0#64)
  dl : ∀ d ∈ t.dl, ∃ k < 64, d.2.bits = 1#64 <<< k
  ls : ∀ x ∈ t.ls, x.2 ≠ 0#64
  cr : ∀ c ∈ t.cr, c.2.2 ≠ 0#64
theorem RunI.step {l : List Tb} {q : Int × Pk} {Q : List (Int × Pk)} {t : Trc} (h : RunI l (q :: Q) t) : RunI l (Q ++ nextQ l q) (stepT l q t) := by
  have hq := h.fit q (by simp)
  have hQ : ∀ c ∈ Q, FitL l c.2 ∧ (findT l c.1 = none → c.2.bits ≠ 0#64) := fun c hc => h.fit c (by simp [hc])
  cases hf : findT l q.1 with
  | none =>
    have hn : nextQ l q = [] := by simp [nextQ, hf]
    rw [hn, List.append_nil]
    refine ⟨hQ, ?_, ?_, ?_⟩ <;> simp only [stepT, hf]
    · exact h.dl
    · intro x hx
      rcases List.mem_append.1 hx with hx | hx
      · exact h.ls x hx
      · simp at hx; subst hx; exact hq.2 hf
    · exact h.cr
  | some b =>
    have hb := hq.1.all b (findT_mem hf).1
    obtain ⟨h1, h2⟩ := fwd_spec hb
    have hn : nextQ l q = (fwdV b q.2).cps := by simp [nextQ, hf, h1]
    obtain ⟨H, h3, h4, h5⟩ := h2.cps
    have hc : ∀ c ∈ (fwdV b q.2).cps, c.2.bits ≠ 0#64 := fun c hc => by
      rw [h3] at hc
      simp only [out0, List.nil_append, List.mem_map] at hc
      obtain ⟨x, hx, rfl⟩ := hc
      obtain ⟨_, a1, a2, k, hk, a3, a4⟩ := (h5 x).1 hx
      have hr := (hopAt_at hb.ck (k := k) (p := q.2) (by rw [a4]; exact a1)).2
      rw [a4] at hr
      have := (cpk_bit hb hk hr).2 ⟨a3, a4⟩
      intro e
      simp only at e
      rw [e] at this; simp at this
    refine ⟨fun c hm => ?_, ?_, ?_, ?_⟩
    · rcases List.mem_append.1 hm with hm | hm
      · exact hQ c hm
      · exact ⟨next_fit hq.1 c hm, fun _ => hc c (by rw [← hn]; exact hm)⟩
    · simp only [stepT, hf, h1]
      intro d hd
      rcases List.mem_append.1 hd with hd | hd
      · exact h.dl d hd
      · simp only [locV, bitsI, List.map_map, List.mem_map] at hd
        obtain ⟨k, hk, rfl⟩ := hd
        obtain ⟨k1, k2⟩ := mem_bitsL.1 hk
        have hpb : q.2.bits.getLsbD k = true := by
          rcases (h2.loc k k1).1 k2 with a | a
          · simp [out0] at a
          · exact a.1
        refine ⟨k, k1, ?_⟩
        show (onlyR q.2 (Int.ofNat k)).bits = _
        have := onlyR_eq hq.1.ok k1 hpb
        rw [Int.ofNat_eq_natCast, this]
    · simp only [stepT, hf, h1]
      intro x hx
      split at hx
      · exact h.ls x hx
      · rename_i hne
        rcases List.mem_append.1 hx with hx | hx
        · exact h.ls x hx
        · simp at hx; subst hx; exact hne
    · simp only [stepT, hf, h1]
      intro c hm
      rcases List.mem_append.1 hm with hm | hm
      · exact h.cr c hm
      · obtain ⟨x, hx, rfl⟩ := List.mem_map.1 hm
        exact hc x hx
/-! ### each bit ends once -/
end Go.Proofs

set_option linter.unusedSimpArgs false
set_option linter.unusedVariables false
namespace Go.Proofs
/-! ### what is delivered -/
/-! ### a packet's bits in two packets -/
end Go.Proofs

set_option linter.unusedSimpArgs false
set_option linter.unusedVariables false
namespace Go.Proofs
/-! ### paths -/
def AllCap (g : Topo) : Prop := ∀ x ∈ g.rs, x.cap = true
theorem AllCap.cap {g : Topo} (hg : g.Ok) (h : AllCap g) {r : Int} (hr : hasR g.rs r = true) : capR g.rs r = true := by
  obtain ⟨x, hx, rfl⟩ := List.mem_map.1 (hasR_mem.1 hr)
  exact (capR_iff hg).2 ⟨x, hx, rfl, h x hx⟩
end Go.Proofs

set_option linter.unusedSimpArgs false
set_option linter.unusedVariables false
namespace Go.Proofs
/-! ### the number of shortest paths -/
/-! ### unique shortest paths -/
end Go.Proofs

set_option linter.unusedSimpArgs false
set_option maxRecDepth 100000
set_option maxHeartbeats 2000000
namespace Go.Proofs
open Go Go.Tr
/-! ### the generated plan is valid -/
/-! the order is one of all numbers, each once -/
/-! ### the chosen ones -/
end Go.Proofs

set_option linter.unusedSimpArgs false
set_option linter.unusedVariables false
set_option maxRecDepth 100000
namespace Go.Proofs
open Go Go.Tr
/-! ### domains of the generator -/
theorem all11_eq {g : Topo} (hg : chkT g = 0) {p : Pn} (hp : planB p = true) : all11 g p = (tabs g p g.rs, 0) := by
  unfold all11
  rw [if_pos ⟨hg, hp⟩]
theorem tabs_chk {g : Topo} (hg : chkT g = 0) {p : Pn} (hp : planB p = true) : ∀ b ∈ tabs g p g.rs, chk b = 0 := fun b hb => by
  obtain ⟨x, hx, _, rfl⟩ := tabs_mem hb
  exact buildT_ok hg hp (hasR_mem.2 (List.mem_map_of_mem hx))
/-! ### wrong tables are valid, too -/
/-! ### packets for a plan -/
end Go.Proofs

set_option linter.unusedSimpArgs false
set_option maxRecDepth 100000
set_option maxHeartbeats 4000000
namespace Go.Proofs
open Go Go.Tr
end Go.Proofs

set_option linter.unusedSimpArgs false
set_option maxRecDepth 100000
set_option maxHeartbeats 4000000
namespace Go.Proofs
open Go Go.Tr
/-! ### a packet for a plan -/
def Pk.for (q : Pk) (subd len set : Int) (B : BitVec 64) : Pk := ⟨1, subd, set, len, q.ttl, q.ent, q.ing, q.proto, B, q.pay⟩
end Go.Proofs

set_option linter.unusedSimpArgs false
set_option maxRecDepth 100000
set_option maxHeartbeats 4000000
namespace Go.Proofs
open Go Go.Tr
end Go.Proofs

set_option linter.unusedSimpArgs false
namespace Go.Tr
open Go
/-- slots, seen as plain data ahead of a call -/
theorem ACall.view {P : Program} {A : Actv} {ops : Array Oper} {i : Nat} {t : S} {k : List Pl → List (Pl × It) → Prop} {g : Tg k} (ss : List Nat)
    (h : (viewL t (ss.map .tmp)).C ∧ ACall P A ops i (over t (viewL t (ss.map .tmp)).W) (fun rp W => k ((viewL t (ss.map .tmp)).rp ++ rp) (W ++ (viewL t (ss.map .tmp)).W)) .mk) : ACall P A ops i t k g := by
  obtain ⟨h0, ⟨rp, W, h1, h2⟩⟩ := h
  exact ⟨⟨_, _, h1.viewed _ h0, h2⟩⟩
end Go.Tr

set_option linter.unusedSimpArgs false
set_option maxRecDepth 100000
set_option maxHeartbeats 8000000
namespace Go.Proofs
open Go Go.Tr
end Go.Proofs

set_option linter.unusedSimpArgs false
set_option maxRecDepth 100000
set_option maxHeartbeats 4000000
namespace Go.Proofs
open Go Go.Tr
end Go.Proofs

set_option linter.unusedSimpArgs false
set_option maxRecDepth 100000
set_option maxHeartbeats 4000000
namespace Go.Proofs
open Go Go.Tr
def chG : Topo := ⟨[⟨1, true⟩, ⟨2, true⟩, ⟨3, true⟩], [⟨1, 2, 1, 1, 0⟩, ⟨2, 3, 1, 1, 0⟩]⟩
def chP : Pn := ⟨0, 8, [⟨2, 1⟩, ⟨3, 2⟩]⟩
def chL : List Tb := tabs chG chP chG.rs
def chQ : Pk := ⟨1, 0, 0, 8, 9, 0, 0, 0, 3#64, ⟨#[]⟩⟩
theorem chP_ok : planB chP = true := planB_ok (by decide) (by decide) (fun i j hj hi => by
  have hi : i < 2 := hi
  obtain ⟨rfl, rfl⟩ : i = 1 ∧ j = 0 := by omega
  decide)
theorem chG_ok : chkT chG = 0 := by decide +kernel
theorem chain_c : Contract Tryd.prog 13 [] [] (.d (.sl (tbs chL))) [] [] := by
  have ha := all11_c chG ⟨by simp [chG], by simp [chG]⟩ chP (by simp [chP])
  rw [all11_eq chG_ok chP_ok] at ha
  change Contract _ _ _ _ (allT chL 0) _ _ at ha
  simp only [allT, topT, planT] at ha
  rw [show List.map Tb.cs chL = tbs chL from rfl] at ha
  generalize chL = L at ha ⊢
  simp only [chG, chP, rts, lks, eds, List.map, Rt.cs, Lk.cs, Ed.cs] at ha
  refine contract_of Tryd.func13 rfl (fun E0 => ?_)
  refine awp.sound (g := .mk) (ow := []) (kp := (fun k => k == 0 || k == 1 || k == 2)) ?_
  rw [Tryd.ntmps13]
  simp -dsimp
  try refine ⟨?_, ⟨by kernel_rfl⟩⟩
  refine ACall.of ha [] 0 ?_
  simp -dsimp
  try refine ⟨?_, ⟨by kernel_rfl⟩⟩
  refine Fin.of ?_
  simp
def chT : Trc := ⟨[(2, ⟨1, 0, 0, 8, 8, 0, 0, 0, 1#64, ⟨#[]⟩⟩), (3, ⟨1, 0, 0, 8, 7, 0, 0, 0, 2#64, ⟨#[]⟩⟩)], [(1, 2, 3#64), (2, 3, 2#64)], []⟩
theorem ch_run : runR chL chQ 1 = (chT, 0) := by kernel_rfl
theorem awake14_c : Contract Tryd.prog 4 [] [] (.d (.bool true)) [] [] := by
  have hS : SmL chL := ⟨by decide +kernel, fun b hb => chk_sm (tabs_chk chG_ok chP_ok b hb)⟩
  have hr := run_c chL hS chQ 1
  rw [ch_run] at hr
  have hro := routers_c chT (by simp [chT])
  have hre := received_c chT (by simp [chT])
  have e1 : rtsR chT = [2, 3] := by
    have : (chT.dl.map fun d => d.1) = [2, 3] := rfl
    rw [rtsR, this, List.mergeSort_of_pairwise (by simp)]
    decide +kernel
  have e2 : recV chT.dl = 3#64 := by decide +kernel
  rw [e1] at hro
  rw [e2] at hre
  have hi := ints04_c [2, 3] [2, 3] (by simp)
  simp only [pkT, chQ, Pk.cs, List.map, trcT, chT, dlC, crC, lsC, bv, ints] at hr hro hre hi
  simp only [show tn 3#64 = 3 from rfl, show tn 2#64 = 2 from rfl, show tn 1#64 = 1 from rfl] at hr hro hre
  obtain ⟨L, hL⟩ : ∃ L, chL = L := ⟨_, rfl⟩
  have hch := chain_c
  rw [hL] at hr hch
  refine contract_of Tryd.func4 rfl (fun E0 => ?_)
  refine awp.sound (g := .mk) (ow := []) (kp := (fun k => k == 0 || k == 1 || k == 2)) ?_
  rw [Tryd.ntmps4]
  simp -dsimp
  try refine ⟨?_, ⟨by kernel_rfl⟩⟩
  refine ACall.of hch [] 0 ?_
  simp -dsimp
  try refine ⟨?_, ⟨by kernel_rfl⟩⟩
  refine ACall.of hr [] 0 ?_
  simp -dsimp
  try refine ⟨?_, ⟨by kernel_rfl⟩⟩
  refine ACall.of hro [] 0 ?_
  simp -dsimp
  try refine ⟨?_, ⟨by kernel_rfl⟩⟩
  refine ACall.of hi [] 0 ?_
  simp -dsimp
  try refine ⟨?_, ⟨by kernel_rfl⟩⟩
  refine ACall.of hre [] 0 ?_
  simp -dsimp
  try refine ⟨?_, ⟨by kernel_rfl⟩⟩
  refine Fin.of ?_
  simp
end Go.Proofs

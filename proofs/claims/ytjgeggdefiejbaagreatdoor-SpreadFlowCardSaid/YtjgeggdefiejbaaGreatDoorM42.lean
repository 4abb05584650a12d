/-
  What functions of the program compute, stated as contracts over plain data; the conditions of each stand in its own statement.
-/
import Derived.Test.YtjgeggdefiejbaaGreatDoorM39
import Derived.Test.YtjgeggdefiejbaaGreatDoorM31
set_option linter.unusedSimpArgs false
set_option maxRecDepth 100000
set_option maxHeartbeats 4000000
namespace Go.Proofs
open Go Go.Tr
def altP (en ig pr : Int) (py : ByteArray) (p : Pk) : Pk := ⟨p.mode, p.subd, p.set, p.len, p.ttl, en, ig, pr, p.bits, py⟩
def fldB (en ig pr : Int) (py : ByteArray) : Bool := insB en 1023 && (insB ig 256 && (insB pr 7 && decide (py.size ≤ 64)))
structure FldOK (e0 : Int) (p : Pk) : Prop where
 f : fldB p.ent p.ing p.proto p.pay = true
 e : p.ent = e0
section
variable {en ig pr e0 : Int} {py : ByteArray} (hc : fldB en ig pr py = true)
include hc
theorem ok_ch {p : Pk} (h : FldOK e0 p) : (altP en ig pr py p).ok = p.ok := by
 have h1 := h.f
 have hc1 := hc
 unfold fldB at h1 hc1
 simp only [Bool.and_eq_true] at h1 hc1
 obtain ⟨a1, a2, a3, a4⟩ := h1
 obtain ⟨b1, b2, b3, b4⟩ := hc1
 simp only [Pk.ok, altP, a1, a2, a3, a4, b1, b2, b3]
 simp [of_decide_eq_true b4]
 rfl
structure AlkT (b : Tb) (pl pl' : Int) : Prop where
 nx : ∀ id, nextV b id pl = nextV b id pl'
 ms : ∀ s n, maskP b pl s n = maskP b pl' s n
omit hc in
theorem FldOK.setB {p : Pk} (h : FldOK e0 p) (R : BitVec 64) : FldOK e0 (p.setB R) := ⟨h.f, h.e⟩
omit hc in
theorem FldOK.mask {p : Pk} (h : FldOK e0 p) (m : BitVec 64) : FldOK e0 (pkMask p m) := ⟨h.f, h.e⟩
def ch2 (en ig pr : Int) (py : ByteArray) (q : Int × Pk) : Int × Pk := (q.1, altP en ig pr py q.2)
def chO (en ig pr : Int) (py : ByteArray) (o : Out) : Out := ⟨o.loc, o.lost, o.cps.map (ch2 en ig pr py)⟩
theorem pln_ch {p : Pk} (h : FldOK e0 p) (ho : p.ok = true) : plnP p = e0 % 8 ∧ plnP (altP en ig pr py p) = en % 8 := by
 have h2 : (altP en ig pr py p).ok = true := (ok_ch hc h).trans ho
 unfold plnP
 rw [if_pos ho, if_pos h2, h.e]
 exact ⟨rfl, rfl⟩
theorem hop_ch {b : Tb} (hB : AlkT b (e0 % 8) (en % 8)) {p : Pk} (h : FldOK e0 p) (ho : p.ok = true) (k : Nat) : hopAt b (altP en ig pr py p) k = hopAt b p k := by
 obtain ⟨h1, h2⟩ := pln_ch hc h ho
 unfold hopAt
 rw [h1, h2, hB.nx]
 rfl
theorem tog_ch {b : Tb} (hB : AlkT b (e0 % 8) (en % 8)) {p : Pk} (h : FldOK e0 p) (ho : p.ok = true) (R : BitVec 64) (n : Int) : togR b (altP en ig pr py p) R n = togR b p R n := by
 obtain ⟨h1, h2⟩ := pln_ch hc h ho
 unfold togR
 rw [h1, h2, hB.ms]
 rfl
theorem pkm_ch {p : Pk} (h : FldOK e0 p) (m : BitVec 64) : (pkmR (altP en ig pr py p) m).2 = (pkmR p m).2 ∧ ((pkmR p m).2 = true → (pkmR (altP en ig pr py p) m).1 = altP en ig pr py (pkmR p m).1 ∧ FldOK e0 (pkmR p m).1) := by
 have h1 := ok_ch hc h
 unfold pkmR
 rw [h1]
 by_cases hx : p.ok = true ∧ p.ttl ≠ 0 ∧ p.bits &&& m ≠ 0#64
 ·rw [if_pos hx, if_pos (show p.ok = true ∧ (altP en ig pr py p).ttl ≠ 0 ∧ (altP en ig pr py p).bits &&& m ≠ 0#64 from hx)]
  exact ⟨rfl, fun _ => ⟨rfl, h.mask m⟩⟩
 ·rw [if_neg hx, if_neg (show ¬ (p.ok = true ∧ (altP en ig pr py p).ttl ≠ 0 ∧ (altP en ig pr py p).bits &&& m ≠ 0#64) from hx)]
  exact ⟨rfl, fun h => by simp at h⟩
theorem fwdO_ch {b : Tb} (hB : AlkT b (e0 % 8) (en % 8)) {p : Pk} (h : FldOK e0 p) (ho : p.ok = true) {o : Out} (hoF : ∀ c ∈ o.cps, FldOK e0 c.2) (R : BitVec 64) :
  fwdO b (altP en ig pr py p) (chO en ig pr py o) R = chO en ig pr py (fwdO b p o R) ∧ ∀ c ∈ (fwdO b p o R).cps, FldOK e0 c.2 := by
 have h1 := hop_ch hc hB h ho (tz R)
 have h2 := tog_ch hc hB h ho R (hopAt b p (tz R))
 have h3 := pkm_ch hc (h.setB R) (togR b p R (hopAt b p (tz R)))
 have h4 : (altP en ig pr py p).setB R = altP en ig pr py (p.setB R) := rfl
 unfold fwdO
 rw [h1, h2, h4, h3.1]
 by_cases c1 : hopAt b p (tz R) = 0
 ·rw [if_pos c1, if_pos c1]; exact ⟨rfl, hoF⟩
 ·rw [if_neg c1, if_neg c1]
  by_cases c2 : hopAt b p (tz R) = b.r
  ·rw [if_pos c2, if_pos c2]; exact ⟨rfl, hoF⟩
  ·rw [if_neg c2, if_neg c2]
   by_cases c3 : (pkmR (p.setB R) (togR b p R (hopAt b p (tz R)))).2 = true
   ·rw [if_pos c3, if_pos c3]
    obtain ⟨k1, k2⟩ := h3.2 c3
    refine ⟨?_, fun c hcm => ?_⟩
    ·simp only [chO, List.map_append, List.map_cons, List.map_nil, k1]
     rfl
    ·rcases List.mem_append.1 hcm with hcm | hcm
     ·exact hoF c hcm
     ·rw [List.mem_singleton] at hcm; rw [hcm]; exact k2
   ·rw [if_neg c3, if_neg c3]; exact ⟨rfl, hoF⟩
theorem fwdM_ch {b : Tb} (hB : AlkT b (e0 % 8) (en % 8)) {p : Pk} (h : FldOK e0 p) (ho : p.ok = true) (R : BitVec 64) : fwdM b (altP en ig pr py p) R = fwdM b p R := by
 unfold fwdM
 rw [hop_ch hc hB h ho, tog_ch hc hB h ho]
theorem fwdG_ch {b : Tb} (hB : AlkT b (e0 % 8) (en % 8)) {p : Pk} (h : FldOK e0 p) (ho : p.ok = true) : ∀ (n : Nat) {o : Out}, (∀ c ∈ o.cps, FldOK e0 c.2) → ∀ R : BitVec 64,
  fwdG b (altP en ig pr py p) n (chO en ig pr py o) R = chO en ig pr py (fwdG b p n o R) ∧ ∀ c ∈ (fwdG b p n o R).cps, FldOK e0 c.2
 | 0, o, hoF, R => ⟨rfl, hoF⟩
 | n + 1, o, hoF, R => by
   obtain ⟨k1, k2⟩ := fwdO_ch hc hB h ho hoF R
   rw [fwdG, fwdG]
   by_cases hR : R = 0#64
   ·rw [if_pos hR, if_pos hR]; exact ⟨rfl, hoF⟩
   ·rw [if_neg hR, if_neg hR, k1, fwdM_ch hc hB h ho]
    exact fwdG_ch hB h ho n k2 _
theorem fwdR_ch {b : Tb} (hB : AlkT b (e0 % 8) (en % 8)) {p : Pk} (h : FldOK e0 p) : (fwdR b (altP en ig pr py p)).1 = chO en ig pr py (fwdR b p).1 ∧ ∀ c ∈ (fwdR b p).1.cps, FldOK e0 c.2 := by
 have h1 := ok_ch hc h
 unfold fwdR
 rw [h1]
 by_cases c1 : chk b ≠ 0 ∨ p.ok = false
 ·rw [if_pos c1, if_pos c1]; exact ⟨rfl, by simp [out0]⟩
 ·rw [if_neg c1, if_neg c1]
  have ho : p.ok = true := by
   cases hx : p.ok
   ·exact absurd (.inr hx) c1
   ·rfl
  by_cases c2 : p.mode = 2
  ·rw [if_pos c2, if_pos (show (altP en ig pr py p).mode = 2 from c2)]; exact ⟨rfl, by simp [out0]⟩
  ·rw [if_neg c2, if_neg (show ¬ (altP en ig pr py p).mode = 2 from c2)]
   by_cases c3 : b.sd ≠ p.subd ∨ b.len ≠ p.len
   ·rw [if_pos c3, if_pos (show b.sd ≠ (altP en ig pr py p).subd ∨ b.len ≠ (altP en ig pr py p).len from c3)]; exact ⟨rfl, by simp [out0]⟩
   ·rw [if_neg c3, if_neg (show ¬ (b.sd ≠ (altP en ig pr py p).subd ∨ b.len ≠ (altP en ig pr py p).len) from c3)]
    exact fwdG_ch hc hB h ho 64 (o := out0) (by simp [out0]) p.bits
theorem next_ch {l : List Tb} (hl : ∀ b ∈ l, AlkT b (e0 % 8) (en % 8)) {q : Int × Pk} (h : FldOK e0 q.2) : nextQ l (ch2 en ig pr py q) = (nextQ l q).map (ch2 en ig pr py) ∧ ∀ c ∈ nextQ l q, FldOK e0 c.2 := by
 unfold nextQ
 show (match findT l q.1 with | none => [] | some b => (fwdR b (altP en ig pr py q.2)).1.cps) = _ ∧ _
 cases hf : findT l q.1 with
 | none => exact ⟨rfl, by simp⟩
 | some b =>
   obtain ⟨k1, k2⟩ := fwdR_ch hc (hl b (findT_mem hf).1) h
   simp only
   rw [k1]
   exact ⟨rfl, k2⟩
theorem step_ch {l : List Tb} (hl : ∀ b ∈ l, AlkT b (e0 % 8) (en % 8)) {q : Int × Pk} (h : FldOK e0 q.2) {t t' : Trc} (ht : t'.cr = t.cr) : (stepT l (ch2 en ig pr py q) t').cr = (stepT l q t).cr := by
 unfold stepT
 show (match findT l q.1 with | none => _ | some b => _ : Trc).cr = _
 cases hf : findT l q.1 with
 | none => exact ht
 | some b =>
   obtain ⟨k1, k2⟩ := fwdR_ch hc (hl b (findT_mem hf).1) h
   simp only
   show t'.cr ++ (fwdR b (altP en ig pr py q.2)).1.cps.map (fun c => (q.1, c.1, c.2.bits)) = _
   rw [k1, ht]
   simp only [chO, List.map_map]
   rfl
theorem runG_ch {l : List Tb} (hl : ∀ b ∈ l, AlkT b (e0 % 8) (en % 8)) : ∀ (n : Nat) (Q : List (Int × Pk)) {t t' : Trc}, (∀ q ∈ Q, FldOK e0 q.2) → t'.cr = t.cr → (runG l n (Q.map (ch2 en ig pr py)) t').cr = (runG l n Q t).cr
 | 0, Q, t, t', _, ht => by simpa [runG] using ht
 | n + 1, [], t, t', _, ht => by simpa [runG] using ht
 | n + 1, q :: Q, t, t', hq, ht => by
   obtain ⟨k1, k2⟩ := next_ch hc hl (hq q (by simp))
   rw [List.map_cons, runG, runG, k1, ← List.map_append]
   refine runG_ch hl n _ (fun x hx => ?_) (step_ch hc hl (hq q (by simp)) ht)
   rcases List.mem_append.1 hx with hx | hx
   ·exact hq x (List.mem_cons_of_mem _ hx)
   ·exact k2 x hx
theorem runR_ch {l : List Tb} (hl : ∀ b ∈ l, AlkT b (e0 % 8) (en % 8)) {p : Pk} (h : FldOK e0 p) (r : Int) : (runR l (altP en ig pr py p) r).2 = (runR l p r).2 ∧ (runR l (altP en ig pr py p) r).1.cr = (runR l p r).1.cr := by
 have h1 := ok_ch hc h
 unfold runR
 rw [h1]
 by_cases c1 : chkA l ≠ 0 ∨ p.ok = false
 ·rw [if_pos c1, if_pos c1]; exact ⟨rfl, rfl⟩
 ·rw [if_neg c1, if_neg c1]
  cases hf : findT l r with
  | none => exact ⟨rfl, rfl⟩
  | some b =>
    simp only
    by_cases c2 : p.mode = 2
    ·rw [if_pos c2, if_pos (show (altP en ig pr py p).mode = 2 from c2)]; exact ⟨rfl, rfl⟩
    ·rw [if_neg c2, if_neg (show ¬ (altP en ig pr py p).mode = 2 from c2)]
     by_cases c3 : p.subd ≠ b.sd ∨ p.len ≠ b.len
     ·rw [if_pos c3, if_pos (show (altP en ig pr py p).subd ≠ b.sd ∨ (altP en ig pr py p).len ≠ b.len from c3)]; exact ⟨rfl, rfl⟩
     ·rw [if_neg c3, if_neg (show ¬ ((altP en ig pr py p).subd ≠ b.sd ∨ (altP en ig pr py p).len ≠ b.len) from c3)]
      exact ⟨rfl, runG_ch hc hl (wt p) [(r, p)] (t := tr0) (t' := tr0) (fun q hq => by rw [List.mem_singleton] at hq; rw [hq]; exact h) rfl⟩
end
end Go.Proofs

set_option linter.unusedSimpArgs false
set_option maxRecDepth 100000
set_option maxHeartbeats 8000000
namespace Go.Proofs
open Go Go.Tr
theorem flow_same {l : List Tb} {r : Int} {q : Pk} {n pr ig : Int} {x : List Int} (hok : q.ok = true) (hn : 0 ≤ n ∧ n ≤ 99) (hp : 0 ≤ pr ∧ pr ≤ 7) (hi : 0 ≤ ig ∧ ig ≤ 256) (hx : (strOf x).size ≤ 64) :
  sameV l r q ⟨q.mode, q.subd, q.set, q.len, q.ttl, q.ent.tmod 8 + 8 * n, ig, pr, q.bits, strOf x⟩ = decide ((runR l q r).2 = 0) := by
 have he := ok_ent hok
 have ht : q.ent.tmod 8 = q.ent % 8 := Int.tmod_eq_emod_of_nonneg he.1
 have hE : 0 ≤ q.ent.tmod 8 + 8 * n ∧ q.ent.tmod 8 + 8 * n ≤ 1023 := by rw [ht]; omega
 have hc : fldB (q.ent.tmod 8 + 8 * n) ig pr (strOf x) = true := by
  unfold fldB insB
  simp only [Bool.and_eq_true, decide_eq_true_eq]
  omega
 have hF : FldOK q.ent q := ⟨by
  unfold fldB
  simp only [Pk.ok, Bool.and_eq_true] at hok
  obtain ⟨_, _, _, _, _, _, h7, h8, h9, h10⟩ := hok
  simp [h7, h8, h9, of_decide_eq_true h10], rfl⟩
 have hpl : (q.ent.tmod 8 + 8 * n) % 8 = q.ent % 8 := by rw [ht]; omega
 have hA : ∀ b ∈ l, AlkT b (q.ent % 8) ((q.ent.tmod 8 + 8 * n) % 8) := fun b _ => by rw [hpl]; exact ⟨fun _ => rfl, fun _ _ => rfl⟩
 obtain ⟨k1, k2⟩ := runR_ch hc hA hF r
 have hB : altP (q.ent.tmod 8 + 8 * n) ig pr (strOf x) q = ⟨q.mode, q.subd, q.set, q.len, q.ttl, q.ent.tmod 8 + 8 * n, ig, pr, q.bits, strOf x⟩ := rfl
 rw [hB] at k1 k2
 have hm : q.ent.tmod 8 = (q.ent.tmod 8 + 8 * n).tmod 8 := by rw [Int.tmod_eq_emod_of_nonneg hE.1, hpl, ht]
 unfold sameV
 rw [k1, k2]
 by_cases h0 : (runR l q r).2 = 0
 ·simp [flowB, h0, ← hm]
 ·simp [h0]
theorem sflow_law (L : List Int) (hL : ∀ x ∈ L, I64 x) (n0 : Int) (hn0 : 0 ≤ n0 ∧ n0 ≤ 255) : Contract Tryz.prog 12 [.d (ints L), .d (.int .u8 n0)] [] (.d (.bool true)) [] [] := by
 refine contract_of Tryz.func12 rfl (fun E0 => ?_)
 refine awp.sound (g := .mk) (ow := []) (kp := (fun k => k==0||k==1||k==4||k==5||k==6||k==7||k==8||k==9||k==10||k==11||k==13)) ?_
 rw [Tryz.ntmps12]
 simp -dsimp [ints]
 refine ACall.of (new_c L) [] 3000 ?_
 simp -dsimp [ints]
 have kT : TapeOK (L.take 600, 0) := tape_new L hL
 generalize (L.take 600, 0) = T0 at kT ⊢
 refine ACall.of (domainO_c T0 kT 6 (by omega)) [.o 3010] 2000 ?_
 obtain ⟨d1, d2, d3, d4, d5, d6⟩ := gDom_ok T0 (most := 6) (by omega)
 have hDV := (gDom_valid T0 (most := 6) (by omega)).1
 have kD : TapeOK (gDom T0 6).2.2.2 := d3.symm ▸ kT
 clear d3
 generalize gDom T0 6 = D0 at d1 d2 d4 d5 d6 kD hDV ⊢
 obtain ⟨g, p, X, T1⟩ := D0
 simp only at d1 d2 d4 d5 d6 kD hDV
 have hlen := hDV.len
 have hl0 : p.len ≠ 0 := fun e => by rw [e] at hlen; simp [validLen] at hlen
 have hlI : I64 p.len := by simp [validLen] at hlen; unfold I64; omega
 have hsX : SmL X := ⟨by omega, fun b hb => chk_sm (d2 b hb)⟩
 simp -dsimp [topT, planT]
 try refine ⟨?_, ⟨by kernel_rfl⟩⟩
 refine ACall.view [8] ?_
 simp -dsimp [topT, planT]
 refine ACall.of (for_c T1 kD p (by omega) hl0 hlI) [.o 3010] 0 ?_
 have kF : TapeOK (gFor T1 p).2 := by rw [gFor_ok]; exact kD
 have hFV := gFor_valid T1 (p := p) hDV.subd hlen
 generalize gFor T1 p = F at kF hFV ⊢
 obtain ⟨q, T2⟩ := F
 simp only at kF hFV ⊢
 simp only [pkT, Pk.cs, List.map]
 simp -dsimp [planT]
 refine ACall.of (text_c T2 kF 4 (by omega)) [.o 3010] 0 ?_
 have kX : TapeOK (gText T2 4).2 := by simpa using kF
 have hxs := gText_size T2 (k := 4) (by omega)
 generalize gText T2 4 = x at kX hxs ⊢
 obtain ⟨x, T3⟩ := x
 simp only at kX hxs ⊢
 simp -dsimp
 refine ACall.of (next_c T3 kX 8 ⟨by omega, by omega⟩) [.o 3010] 0 ?_
 have kN : TapeOK (gNext T3 8).2 := by simpa using kX
 have b1 := gNext_nonneg T3 8
 have b2 := gNext_lt T3 (n := 8) (by omega)
 generalize gNext T3 8 = N at kN b1 b2 ⊢
 obtain ⟨pr, T4⟩ := N
 simp only at kN b1 b2 ⊢
 simp -dsimp
 refine ACall.of (next_c T4 kN 257 ⟨by omega, by omega⟩) [.o 3010] 0 ?_
 have kM : TapeOK (gNext T4 257).2 := by simpa using kN
 have b3 := gNext_nonneg T4 257
 have b4 := gNext_lt T4 (n := 257) (by omega)
 generalize gNext T4 257 = N at kM b3 b4 ⊢
 obtain ⟨ig, T5⟩ := N
 simp only at kM b3 b4 ⊢
 have hok := hFV.ok
 have he := ok_ent hok
 have hn : n0.tmod 100 = n0 % 100 := Int.tmod_eq_emod_of_nonneg hn0.1
 have ht : q.ent.tmod 8 = q.ent % 8 := Int.tmod_eq_emod_of_nonneg he.1
 have w1 : IntKind.i64.wrap (n0.tmod 100) = n0.tmod 100 := wrap_i64 (by omega) (by omega)
 have w2 : IntKind.i64.wrap (8 * n0.tmod 100) = 8 * n0.tmod 100 := wrap_i64 (by omega) (by omega)
 have w3 : IntKind.i64.wrap (q.ent.tmod 8 + 8 * n0.tmod 100) = q.ent.tmod 8 + 8 * n0.tmod 100 := wrap_i64 (by omega) (by omega)
 have hxs2 : (strOf x).size ≤ 64 := by
  have := hxs
  simp at this
  omega
 have hsa := fun r : Int => flow_same (l := X) (r := r) hok (n := n0.tmod 100) (pr := pr) (ig := ig) (x := x) (by omega) (by omega) (by omega) hxs2
 simp -dsimp [topT, w1, w2, w3]
 refine ACall.of (router0_c T5 kM g.rs g.ls ⟨d5, by omega⟩) [.o 3010] 0 ?_
 generalize gNext T5 g.rs.length = A
 obtain ⟨A, T6⟩ := A
 simp only
 generalize (g.rs.getD A.toNat ⟨0, false⟩).id = A
 have h1 := run14_c X hsX q A
 have h2 := same_c X hsX A q ⟨q.mode, q.subd, q.set, q.len, q.ttl, q.ent.tmod 8 + 8 * n0.tmod 100, ig, pr, q.bits, strOf x⟩
 rw [hsa A] at h2
 clear hsa
 generalize runR X q A = U at h1 h2
 obtain ⟨U, e⟩ := U
 simp only [pkT, Pk.cs, List.map, trcT] at h1 h2
 simp -dsimp
 and_intros
 all_goals try first | omega | exact ⟨by kernel_rfl⟩ | rfl
 refine ACall.of h1 [] 0 ?_
 simp -dsimp
 and_intros
 all_goals try first | omega | exact ⟨by kernel_rfl⟩ | rfl
 refine ACall.of h2 [] 0 ?_
 simp -dsimp
 and_intros
 all_goals try first | omega | exact ⟨by kernel_rfl⟩ | rfl
 refine ACall.of awake15_c [] 0 ?_
 simp -dsimp
 and_intros
 all_goals try first | omega | exact ⟨by kernel_rfl⟩ | rfl
 refine Fin.of ?_
 simp
end Go.Proofs

/-
  What functions of the program compute, stated as contracts over plain data; the conditions of each stand in its own statement.
-/
import Derived.Test.YtjgeggdefiejbaaGreatDoorW33
import Derived.Test.YtjgeggdefiejbaaGreatDoorW31
import Derived.Test.YtjgeggdefiejbaaGreatDoorW32
import Derived.Test.YtjgeggdefiejbaaGreatDoorRows
import Derived.Test.YtjgeggdefiejbaaGreatDoorW12
import Derived.OpenShut
import Derived.MakeChecks
import Derived.FnData
import Derived.LaidMore
import Derived.Test.YtjgeggdefiejbaaGreatDoorW13
set_option linter.unusedSimpArgs false
set_option maxRecDepth 100000
set_option maxHeartbeats 4000000
namespace Go.Proofs
open Go Go.Tr
def altP (en ig pr : Int) (py : ByteArray) (p : Pk) : Pk := ⟨p.mode, p.subd, p.set, p.len, p.ttl, en, ig, pr, p.bits, py⟩
def fldB (en ig pr : Int) (py : ByteArray) : Bool := insB en 1023 && (insB ig 256 && (insB pr 7 && decide (py.size ≤ 64)))
structure FldOK (e0 : Int) (p : Pk) : Prop where
 f : fldB p.ent p.ing p.proto p.pay = true
 e : p.ent = e0
section
variable {en ig pr e0 : Int} {py : ByteArray} (hc : fldB en ig pr py = true)
include hc
theorem ok_ch {p : Pk} (h : FldOK e0 p) : (altP en ig pr py p).ok = p.ok := by
 have h1 := h.f
 have hc1 := hc
 unfold fldB at h1 hc1
 simp only [Bool.and_eq_true] at h1 hc1
 obtain ⟨a1, a2, a3, a4⟩ := h1
 obtain ⟨b1, b2, b3, b4⟩ := hc1
 simp only [Pk.ok, altP, a1, a2, a3, a4, b1, b2, b3]
 simp [of_decide_eq_true b4]
 rfl
structure AlkT (b : Tb) (pl pl' : Int) : Prop where
 nx : ∀ id, nextV b id pl = nextV b id pl'
 ms : ∀ s n, maskP b pl s n = maskP b pl' s n
omit hc in
theorem FldOK.setB {p : Pk} (h : FldOK e0 p) (R : BitVec 64) : FldOK e0 (p.setB R) := ⟨h.f, h.e⟩
omit hc in
theorem FldOK.mask {p : Pk} (h : FldOK e0 p) (m : BitVec 64) : FldOK e0 (pkMask p m) := ⟨h.f, h.e⟩
def ch2 (en ig pr : Int) (py : ByteArray) (q : Int × Pk) : Int × Pk := (q.1, altP en ig pr py q.2)
def chO (en ig pr : Int) (py : ByteArray) (o : Out) : Out := ⟨o.loc, o.lost, o.cps.map (ch2 en ig pr py)⟩
theorem pln_ch {p : Pk} (h : FldOK e0 p) (ho : p.ok = true) : plnP p = e0 % 8 ∧ plnP (altP en ig pr py p) = en % 8 := by
 have h2 : (altP en ig pr py p).ok = true := (ok_ch hc h).trans ho
 unfold plnP
 rw [if_pos ho, if_pos h2, h.e]
 exact ⟨rfl, rfl⟩
theorem hop_ch {b : Tb} (hB : AlkT b (e0 % 8) (en % 8)) {p : Pk} (h : FldOK e0 p) (ho : p.ok = true) (k : Nat) : hopAt b (altP en ig pr py p) k = hopAt b p k := by
 obtain ⟨h1, h2⟩ := pln_ch hc h ho
 unfold hopAt
 rw [h1, h2, hB.nx]
 rfl
theorem tog_ch {b : Tb} (hB : AlkT b (e0 % 8) (en % 8)) {p : Pk} (h : FldOK e0 p) (ho : p.ok = true) (R : BitVec 64) (n : Int) : togR b (altP en ig pr py p) R n = togR b p R n := by
 obtain ⟨h1, h2⟩ := pln_ch hc h ho
 unfold togR
 rw [h1, h2, hB.ms]
 rfl
theorem pkm_ch {p : Pk} (h : FldOK e0 p) (m : BitVec 64) : (pkmR (altP en ig pr py p) m).2 = (pkmR p m).2 ∧ ((pkmR p m).2 = true → (pkmR (altP en ig pr py p) m).1 = altP en ig pr py (pkmR p m).1 ∧ FldOK e0 (pkmR p m).1) := by
 have h1 := ok_ch hc h
 unfold pkmR
 rw [h1]
 by_cases hx : p.ok = true ∧ p.ttl ≠ 0 ∧ p.bits &&& m ≠ 0#64
 ·rw [if_pos hx, if_pos (show p.ok = true ∧ (altP en ig pr py p).ttl ≠ 0 ∧ (altP en ig pr py p).bits &&& m ≠ 0#64 from hx)]
  exact ⟨rfl, fun _ => ⟨rfl, h.mask m⟩⟩
 ·rw [if_neg hx, if_neg (show ¬ (p.ok = true ∧ (altP en ig pr py p).ttl ≠ 0 ∧ (altP en ig pr py p).bits &&& m ≠ 0#64) from hx)]
  exact ⟨rfl, fun h => by simp at h⟩
theorem fwdO_ch {b : Tb} (hB : AlkT b (e0 % 8) (en % 8)) {p : Pk} (h : FldOK e0 p) (ho : p.ok = true) {o : Out} (hoF : ∀ c ∈ o.cps, FldOK e0 c.2) (R : BitVec 64) :
  fwdO b (altP en ig pr py p) (chO en ig pr py o) R = chO en ig pr py (fwdO b p o R) ∧ ∀ c ∈ (fwdO b p o R).cps, FldOK e0 c.2 := by
 have h1 := hop_ch hc hB h ho (tz R)
 have h2 := tog_ch hc hB h ho R (hopAt b p (tz R))
 have h3 := pkm_ch hc (h.setB R) (togR b p R (hopAt b p (tz R)))
 have h4 : (altP en ig pr py p).setB R = altP en ig pr py (p.setB R) := rfl
 unfold fwdO
 rw [h1, h2, h4, h3.1]
 by_cases c1 : hopAt b p (tz R) = 0
 ·rw [if_pos c1, if_pos c1]; exact ⟨rfl, hoF⟩
 ·rw [if_neg c1, if_neg c1]
  by_cases c2 : hopAt b p (tz R) = b.r
  ·rw [if_pos c2, if_pos c2]; exact ⟨rfl, hoF⟩
  ·rw [if_neg c2, if_neg c2]
   by_cases c3 : (pkmR (p.setB R) (togR b p R (hopAt b p (tz R)))).2 = true
   ·rw [if_pos c3, if_pos c3]
    obtain ⟨k1, k2⟩ := h3.2 c3
    refine ⟨?_, fun c hcm => ?_⟩
    ·simp only [chO, List.map_append, List.map_cons, List.map_nil, k1]
     rfl
    ·rcases List.mem_append.1 hcm with hcm | hcm
     ·exact hoF c hcm
     ·rw [List.mem_singleton] at hcm; rw [hcm]; exact k2
   ·rw [if_neg c3, if_neg c3]; exact ⟨rfl, hoF⟩
theorem fwdM_ch {b : Tb} (hB : AlkT b (e0 % 8) (en % 8)) {p : Pk} (h : FldOK e0 p) (ho : p.ok = true) (R : BitVec 64) : fwdM b (altP en ig pr py p) R = fwdM b p R := by
 unfold fwdM
 rw [hop_ch hc hB h ho, tog_ch hc hB h ho]
theorem fwdG_ch {b : Tb} (hB : AlkT b (e0 % 8) (en % 8)) {p : Pk} (h : FldOK e0 p) (ho : p.ok = true) : ∀ (n : Nat) {o : Out}, (∀ c ∈ o.cps, FldOK e0 c.2) → ∀ R : BitVec 64,
  fwdG b (altP en ig pr py p) n (chO en ig pr py o) R = chO en ig pr py (fwdG b p n o R) ∧ ∀ c ∈ (fwdG b p n o R).cps, FldOK e0 c.2
 | 0, o, hoF, R => ⟨rfl, hoF⟩
 | n + 1, o, hoF, R => by
   obtain ⟨k1, k2⟩ := fwdO_ch hc hB h ho hoF R
   rw [fwdG, fwdG]
   by_cases hR : R = 0#64
   ·rw [if_pos hR, if_pos hR]; exact ⟨rfl, hoF⟩
   ·rw [if_neg hR, if_neg hR, k1, fwdM_ch hc hB h ho]
    exact fwdG_ch hB h ho n k2 _
theorem fwdR_ch {b : Tb} (hB : AlkT b (e0 % 8) (en % 8)) {p : Pk} (h : FldOK e0 p) : (fwdR b (altP en ig pr py p)).1 = chO en ig pr py (fwdR b p).1 ∧ ∀ c ∈ (fwdR b p).1.cps, FldOK e0 c.2 := by
 have h1 := ok_ch hc h
 unfold fwdR
 rw [h1]
 by_cases c1 : chk b ≠ 0 ∨ p.ok = false
 ·rw [if_pos c1, if_pos c1]; exact ⟨rfl, by simp [out0]⟩
 ·rw [if_neg c1, if_neg c1]
  have ho : p.ok = true := by
   cases hx : p.ok
   ·exact absurd (.inr hx) c1
   ·rfl
  by_cases c2 : p.mode = 2
  ·rw [if_pos c2, if_pos (show (altP en ig pr py p).mode = 2 from c2)]; exact ⟨rfl, by simp [out0]⟩
  ·rw [if_neg c2, if_neg (show ¬ (altP en ig pr py p).mode = 2 from c2)]
   by_cases c3 : b.sd ≠ p.subd ∨ b.len ≠ p.len
   ·rw [if_pos c3, if_pos (show b.sd ≠ (altP en ig pr py p).subd ∨ b.len ≠ (altP en ig pr py p).len from c3)]; exact ⟨rfl, by simp [out0]⟩
   ·rw [if_neg c3, if_neg (show ¬ (b.sd ≠ (altP en ig pr py p).subd ∨ b.len ≠ (altP en ig pr py p).len) from c3)]
    exact fwdG_ch hc hB h ho 64 (o := out0) (by simp [out0]) p.bits
theorem next_ch {l : List Tb} (hl : ∀ b ∈ l, AlkT b (e0 % 8) (en % 8)) {q : Int × Pk} (h : FldOK e0 q.2) : nextQ l (ch2 en ig pr py q) = (nextQ l q).map (ch2 en ig pr py) ∧ ∀ c ∈ nextQ l q, FldOK e0 c.2 := by
 unfold nextQ
 show (match findT l q.1 with | none => [] | some b => (fwdR b (altP en ig pr py q.2)).1.cps) = _ ∧ _
 cases hf : findT l q.1 with
 | none => exact ⟨rfl, by simp⟩
 | some b =>
   obtain ⟨k1, k2⟩ := fwdR_ch hc (hl b (findT_mem hf).1) h
   simp only
   rw [k1]
   exact ⟨rfl, k2⟩
theorem step_ch {l : List Tb} (hl : ∀ b ∈ l, AlkT b (e0 % 8) (en % 8)) {q : Int × Pk} (h : FldOK e0 q.2) {t t' : Trc} (ht : t'.cr = t.cr) : (stepT l (ch2 en ig pr py q) t').cr = (stepT l q t).cr := by
 unfold stepT
 show (match findT l q.1 with | none => _ | some b => _ : Trc).cr = _
 cases hf : findT l q.1 with
 | none => exact ht
 | some b =>
   obtain ⟨k1, k2⟩ := fwdR_ch hc (hl b (findT_mem hf).1) h
   simp only
   show t'.cr ++ (fwdR b (altP en ig pr py q.2)).1.cps.map (fun c => (q.1, c.1, c.2.bits)) = _
   rw [k1, ht]
   simp only [chO, List.map_map]
   rfl
theorem runG_ch {l : List Tb} (hl : ∀ b ∈ l, AlkT b (e0 % 8) (en % 8)) : ∀ (n : Nat) (Q : List (Int × Pk)) {t t' : Trc}, (∀ q ∈ Q, FldOK e0 q.2) → t'.cr = t.cr → (runG l n (Q.map (ch2 en ig pr py)) t').cr = (runG l n Q t).cr
 | 0, Q, t, t', _, ht => by simpa [runG] using ht
 | n + 1, [], t, t', _, ht => by simpa [runG] using ht
 | n + 1, q :: Q, t, t', hq, ht => by
   obtain ⟨k1, k2⟩ := next_ch hc hl (hq q (by simp))
   rw [List.map_cons, runG, runG, k1, ← List.map_append]
   refine runG_ch hl n _ (fun x hx => ?_) (step_ch hc hl (hq q (by simp)) ht)
   rcases List.mem_append.1 hx with hx | hx
   ·exact hq x (List.mem_cons_of_mem _ hx)
   ·exact k2 x hx
theorem runR_ch {l : List Tb} (hl : ∀ b ∈ l, AlkT b (e0 % 8) (en % 8)) {p : Pk} (h : FldOK e0 p) (r : Int) : (runR l (altP en ig pr py p) r).2 = (runR l p r).2 ∧ (runR l (altP en ig pr py p) r).1.cr = (runR l p r).1.cr := by
 have h1 := ok_ch hc h
 unfold runR
 rw [h1]
 by_cases c1 : chkA l ≠ 0 ∨ p.ok = false
 ·rw [if_pos c1, if_pos c1]; exact ⟨rfl, rfl⟩
 ·rw [if_neg c1, if_neg c1]
  cases hf : findT l r with
  | none => exact ⟨rfl, rfl⟩
  | some b =>
    simp only
    by_cases c2 : p.mode = 2
    ·rw [if_pos c2, if_pos (show (altP en ig pr py p).mode = 2 from c2)]; exact ⟨rfl, rfl⟩
    ·rw [if_neg c2, if_neg (show ¬ (altP en ig pr py p).mode = 2 from c2)]
     by_cases c3 : p.subd ≠ b.sd ∨ p.len ≠ b.len
     ·rw [if_pos c3, if_pos (show (altP en ig pr py p).subd ≠ b.sd ∨ (altP en ig pr py p).len ≠ b.len from c3)]; exact ⟨rfl, rfl⟩
     ·rw [if_neg c3, if_neg (show ¬ ((altP en ig pr py p).subd ≠ b.sd ∨ (altP en ig pr py p).len ≠ b.len) from c3)]
      exact ⟨rfl, runG_ch hc hl (wt p) [(r, p)] (t := tr0) (t' := tr0) (fun q hq => by rw [List.mem_singleton] at hq; rw [hq]; exact h) rfl⟩
end
end Go.Proofs

set_option linter.unusedVariables false
namespace Go.Proofs
open Go Go.Tr
theorem validLen_cases {n : Int} (h : validLen n = true) : n = 8 ∨ n = 16 ∨ n = 32 ∨ n = 64 := by
 simp [validLen] at h; omega
theorem fullB_bit' {len : Int} (hl : validLen len = true) {k : Nat} (hk : k < 64) : (fullB len).getLsbD k = decide ((k : Int) < len) := by
 have := validLen_cases hl
 rw [fullB, if_pos hl, fullN_bit hk _ (by omega)]
 congr 1
 rw [eq_iff_iff]; omega
theorem validB_of {B : BitVec 64} {len : Int} (hl : validLen len = true) (h : ∀ k < 64, B.getLsbD k = true → (k : Int) < len) : validB B len = true := by
 simp only [validB, hl, Bool.true_and, decide_eq_true_eq]
 apply BitVec.eq_of_getLsbD_eq
 intro k hk
 rw [BitVec.getLsbD_and, BitVec.getLsbD_not, fullB_bit' hl hk]
 simp only [hk, decide_true, Bool.true_and, BitVec.getLsbD_zero]
 cases hb : B.getLsbD k with
 | false => rfl
 | true => simp [h k hk hb]
theorem bitB_iff {j : Int} {k : Nat} (hk : k < 64) : (bitB j).getLsbD k = true ↔ (k : Int) = j := by
 unfold bitB
 split
 ·rename_i h
  simp; omega
 ·rename_i h
  rw [wrap_u64 (by omega) (by omega), bit_one (by omega) hk]
  simp; omega
theorem plBit_lt {id len : Int} (hl : validLen len = true) : plBit id len < len ∧ 0 ≤ plBit id len := by
 have := validLen_cases hl
 unfold plBit
 split
 ·have h1 := Int.emod_lt_of_pos (id - 1) (b := len) (by omega)
  have h2 := Int.emod_nonneg (id - 1) (b := len) (by omega)
  omega
 ·omega
theorem plSet_le {id len : Int} (hl : validLen len = true) : 0 ≤ plSet id len ∧ plSet id len ≤ 31 := by
 have := validLen_cases hl
 unfold plSet
 split
 ·rename_i h
  simp only [Bool.and_eq_true, inB, decide_eq_true_eq] at h
  have h1 : 0 ≤ (id - 1) / len := Int.ediv_nonneg (by omega) (by omega)
  have h2 : (id - 1) / len ≤ (id - 1) / 8 := by
   rcases this with rfl | rfl | rfl | rfl <;> omega
  omega
 ·omega
theorem forL_bits {len set : Int} (hl : validLen len = true) : ∀ (es : List Ed) (T : Tp) (B : BitVec 64), (∀ k < 64, B.getLsbD k = true → (k : Int) < len) → ∀ k < 64, (forL len set es T B).1.getLsbD k = true → (k : Int) < len
 | [], _, _, h => h
 | e :: es, T, B, h => by
   rw [forL]
   split
   ·split
    ·refine forL_bits hl es _ _ fun k hk hb => ?_
     rcases (or_bit B (bitB (plBit e.id len))).1 hb with hb | hb
     ·exact h k hk hb
     ·have := (bitB_iff hk).1 hb
      have := (plBit_lt (id := e.id) hl).1
      omega
    ·exact forL_bits hl es _ _ h
   ·exact forL_bits hl es _ _ h
theorem gBits_full (T : Tp) {len : Int} (hl : validLen len = true) : ∀ k < 64, (gBits T len).1.getLsbD k = true → (k : Int) < len := fun k hk hb => by
 have key : ∀ X : BitVec 64, (X &&& fullB len).getLsbD k = true → (k : Int) < len := fun X hX => by
  rw [BitVec.getLsbD_and, Bool.and_eq_true, fullB_bit' hl hk] at hX
  simpa using hX.2
 unfold gBits at hb
 dsimp only at hb
 split at hb
 ·simp at hb
 split at hb
 ·exact key _ hb
 split at hb
 ·exact key _ hb
 ·exact key _ hb
theorem ok_iff (p : Pk) : p.ok = true ↔ (1 ≤ p.mode ∧ p.mode ≤ 3) ∧ (0 ≤ p.subd ∧ p.subd ≤ 7) ∧ (0 ≤ p.set ∧ p.set ≤ 31) ∧ validB p.bits p.len = true ∧ (0 ≤ p.ttl ∧ p.ttl ≤ 63) ∧ (0 ≤ p.ent ∧ p.ent ≤ 1023) ∧ (0 ≤ p.ing ∧ p.ing ≤ 256) ∧ (0 ≤ p.proto ∧ p.proto ≤ 7) ∧ p.pay.size ≤ 64 := by
 simp [Pk.ok, insB, and_assoc]
structure ForV (p : Pn) (q : Pk) : Prop where
 ok : q.ok = true
 mode : q.mode = 1
 subd : q.subd = p.subd
 len : q.len = p.len
theorem for_ok {p : Pn} {q : Pk} (hs : 0 ≤ p.subd ∧ p.subd ≤ 7) (hl : validLen p.len = true) (hq : (0 ≤ q.ttl ∧ q.ttl ≤ 63) ∧ (0 ≤ q.ent ∧ q.ent ≤ 1023) ∧ (0 ≤ q.ing ∧ q.ing ≤ 256) ∧ (0 ≤ q.proto ∧ q.proto ≤ 7) ∧ q.pay.size ≤ 64) {set : Int} (hset : 0 ≤ set ∧ set ≤ 31)
  {B : BitVec 64} (hB : ∀ k < 64, B.getLsbD k = true → (k : Int) < p.len) : ForV p (q.for p.subd p.len set B) := by
 have hv := validB_of hl hB
 exact ⟨(ok_iff _).2 ⟨⟨by show (1 : Int) ≤ 1; omega, by show (1 : Int) ≤ 3; omega⟩, hs, hset, hv, hq.1, hq.2.1, hq.2.2.1, hq.2.2.2.1, hq.2.2.2.2⟩, rfl, rfl, rfl⟩
theorem gPacket_zero (T : Tp) : gPacket T 0 = gPk0 T := by
 simp [gPacket]
theorem gFor_valid (T : Tp) {p : Pn} (hs : 0 ≤ p.subd ∧ p.subd ≤ 7) (hl : validLen p.len = true) : ForV p (gFor T p).1 := by
 have hpk : ∀ q, q = (gPacket T 0).1 → (0 ≤ q.ttl ∧ q.ttl ≤ 63) ∧ (0 ≤ q.ent ∧ q.ent ≤ 1023) ∧ (0 ≤ q.ing ∧ q.ing ≤ 256) ∧ (0 ≤ q.proto ∧ q.proto ≤ 7) ∧ q.pay.size ≤ 64 := fun q hq => by
  rw [gPacket_zero] at hq
  obtain ⟨L, m, d, s, t, e, i, pr, y, B, w, T', h1, _, h2, h3, h4, h5, h6, _⟩ := gPk0_parts T
  rw [h1] at hq
  subst hq
  exact ⟨h2, h3, h4, h5, by simp only; omega⟩
 have hset : ∀ T', 0 ≤ (forS T' p).1 ∧ (forS T' p).1 ≤ 31 := fun T' => by
  unfold forS
  split
  ·simp
  ·exact plSet_le hl
 unfold gFor
 simp only
 have hq := hpk _ rfl
 have hb := forL_bits (set := (forS (gPacket T 0).2 p).1) hl p.es (forS (gPacket T 0).2 p).2 0#64 (by simp)
 split
 ·refine for_ok hs hl hq (hset _) fun k hk hk2 => ?_
  rcases (or_bit _ _).1 hk2 with hk2 | hk2
  ·exact hb k hk hk2
  ·exact gBits_full _ hl k hk hk2
 ·exact for_ok hs hl hq (hset _) hb
theorem TabV.fit {p : Pn} {rs : List Int} {l : List Tb} (h : TabV p rs l) {q : Pk} (hq : ForV p q) : FitL l q :=
 ⟨hq.ok, fun b hb => ⟨h.ck b hb, (h.sd b hb).1.trans hq.subd.symm, (h.sd b hb).2.trans hq.len.symm, hq.ok, by rw [hq.mode]; decide⟩⟩
theorem TabV.run {p : Pn} {rs : List Int} {l : List Tb} (h : TabV p rs l) {q : Pk} (hq : ForV p q) {r : Int} (hr : r ∈ rs) : runR l q r = (runG l (wt q) [(r, q)] tr0, 0) ∧ (findT l r).isSome := by
 have hs := (h.rs r).2 hr
 refine ⟨?_, hs⟩
 obtain ⟨b, hb⟩ := Option.isSome_iff_exists.1 hs
 have hsd := h.sd b (findT_mem hb).1
 unfold runR
 rw [if_neg (by simp [h.all, hq.ok]), hb]
 simp only
 rw [if_neg (by rw [hq.mode]; decide), if_neg (by rw [hsd.1, hsd.2, hq.subd, hq.len]; simp)]
theorem TabV.sm {p : Pn} {rs : List Int} {l : List Tb} (h : TabV p rs l) : SmL l := ⟨by have := h.n; omega, fun b hb => chk_sm (h.ck b hb)⟩
set_option maxHeartbeats 8000000
def sumA (acc : List (List Int × Int)) : Int := (acc.map (·.2)).sum
theorem sumA_inc : ∀ (acc : List (List Int × Int)) (k : List Int), sumA (incK acc k) = sumA acc + 1
 | [], k => by simp [incK, sumA]
 | (a, n) :: es, k => by
   have ih := sumA_inc es k
   unfold sumA at ih ⊢
   simp only [incK]
   split
   ·simp; omega
   ·simp only [List.map_cons, List.sum_cons, ih]; omega
theorem sumA_add : ∀ (cr : List (Int × Int × BitVec 64)) (acc : List (List Int × Int)), sumA (addH acc cr) = sumA acc + cr.length
 | [], acc => by simp [addH]
 | c :: cr, acc => by
   have ih := sumA_add cr (incK acc (crK c))
   have h : addH acc (c :: cr) = addH (incK acc (crK c)) cr := rfl
   rw [h, ih, sumA_inc]
   simp only [List.length_cons]; push_cast; omega
def crL (l : List Tb) (r : Int) (p : Pk) : Nat → Nat → Int
 | 0, _ => 0
 | n + 1, k => (runR l (entP p k) r).1.cr.length + crL l r p n (k + 1)
theorem lgo_sum (l : List Tb) (r : Int) (p : Pk) : ∀ (n k : Nat) (acc : List (List Int × Int)), (lgo l r p n k acc).2 = 0 → sumA (lgo l r p n k acc).1 = sumA acc + crL l r p n k ∧ ∀ i, k ≤ i → i < k + n → (runR l (entP p i) r).2 = 0
 | 0, k, acc, _ => ⟨by simp [lgo, crL], fun i h1 h2 => by omega⟩
 | n + 1, k, acc, h => by
   rw [lgo] at h ⊢
   by_cases h0 : (runR l (entP p k) r).2 = 0
   ·rw [if_pos h0] at h ⊢
    obtain ⟨k1, k2⟩ := lgo_sum l r p n (k + 1) _ h
    refine ⟨by rw [k1, sumA_add, crL]; omega, fun i h1 h2 => ?_⟩
    by_cases e : i = k
    ·rw [e]; exact h0
    ·exact k2 i (by omega) (by omega)
   ·rw [if_neg h0] at h; exact absurd h h0
def sumL (zs : List (List Int)) : Int := (zs.map fun z => z.getD 2 0).sum
theorem sum_perm {xs ys : List Int} (h : xs.Perm ys) : xs.sum = ys.sum := by
 induction h with
 | nil => rfl
 | cons x _ ih => simp [ih]
 | swap x y l => simp; omega
 | trans _ _ h1 h2 => exact h1.trans h2
theorem row_third {x : List Int × Int} (h : x.1.length = 2) : (x.1 ++ [x.2]).getD 2 0 = x.2 := by
 obtain ⟨a, n⟩ := x
 match a, h with
 | [a0, a1], _ => rfl
theorem sumL_ld {acc : List (List Int × Int)} {m : Nat} (h : AccOK acc m) : sumL (ldR acc) = sumA acc := by
 unfold sumL ldR sumA
 rw [sum_perm ((List.mergeSort_perm _ leL).map _), List.map_map]
 congr 1
 refine List.map_congr_left fun x hx => ?_
 exact row_third (h.two x hx)
theorem lgo_ok (l : List Tb) (r : Int) (p : Pk) : ∀ (n k : Nat) (acc : List (List Int × Int)) (m : Nat), AccOK acc m → AccOK (lgo l r p n k acc).1 (m + n * 1000000)
 | 0, k, acc, m, h => by simpa [lgo] using h
 | n + 1, k, acc, m, h => by
   rw [lgo]
   split
   ·have h1 := addH_ok (runR l (entP p k) r).1.cr h
    have h2 := (run_small l (entP p k) r).2.1
    exact (lgo_ok l r p n (k + 1) _ _ h1).mono (by rw [Nat.add_mul]; omega)
   ·exact AccOK.nil.mono (by omega)
theorem cnt_inc : ∀ (acc : List (List Int × Int)) (k j : List Int), cntI (incK acc k) j = cntI acc j + if j = k then 1 else 0
 | [], k, j => by
   simp [incK, cntI]
 | (a, n) :: es, k, j => by
   have ih := cnt_inc es k j
   simp only [incK]
   by_cases h : k = a
   ·subst h
    rw [if_pos rfl]
    simp only [cntI]
    by_cases hj : j = k
    ·rw [if_pos hj, if_pos hj, if_pos hj]
    ·rw [if_neg hj, if_neg hj, if_neg hj]; omega
   ·rw [if_neg h]
    simp only [cntI]
    by_cases hj : j = a
    ·rw [if_pos hj, if_pos hj, if_neg (fun e => h (e.symm.trans hj))]; omega
    ·rw [if_neg hj, if_neg hj]; exact ih
theorem cnt_add : ∀ (cr : List (Int × Int × BitVec 64)) (acc : List (List Int × Int)) (j : List Int), cntI (addH acc cr) j = cntI acc j + ((cr.map crK).count j : Nat)
 | [], acc, j => by simp [addH]
 | c :: cr, acc, j => by
   have ih := cnt_add cr (incK acc (crK c)) j
   have h : addH acc (c :: cr) = addH (incK acc (crK c)) cr := rfl
   rw [h, ih, cnt_inc, List.map_cons, List.count_cons]
   by_cases e : j = crK c
   ·rw [if_pos e]; simp [e]; omega
   ·have e' : ¬ crK c = j := fun h => e h.symm
    rw [if_neg e]; simp [e']
theorem lgo_cnt (l : List Tb) (r : Int) (p : Pk) (C : List (Int × Int × BitVec 64)) : ∀ (n k : Nat) (acc : List (List Int × Int)), (lgo l r p n k acc).2 = 0 → (∀ i, k ≤ i → i < k + n → (runR l (entP p i) r).1.cr = C) → ∀ j, cntI (lgo l r p n k acc).1 j = cntI acc j + n * ((C.map crK).count j : Nat)
 | 0, k, acc, _, _, j => by simp [lgo]
 | n + 1, k, acc, h, hC, j => by
   rw [lgo] at h ⊢
   by_cases h0 : (runR l (entP p k) r).2 = 0
   ·rw [if_pos h0] at h ⊢
    rw [lgo_cnt l r p C n (k + 1) _ h (fun i h1 h2 => hC i (by omega) (by omega)) j, hC k (Nat.le_refl _) (by omega), cnt_add]
    push_cast
    rw [Int.add_mul]
    omega
   ·rw [if_neg h0] at h; exact absurd h h0
theorem cnt_mem : ∀ {acc : List (List Int × Int)} {x : List Int × Int}, (acc.map (·.1)).Nodup → x ∈ acc → cntI acc x.1 = x.2
 | [], x, _, h => by simp at h
 | (a, n) :: es, x, nd, h => by
   simp only [List.map_cons, List.nodup_cons] at nd
   simp only [cntI]
   rcases List.mem_cons.1 h with rfl | h
   ·simp
   ·have : ¬ x.1 = a := fun e => nd.1 (List.mem_map.2 ⟨x, h, e⟩)
    rw [if_neg this]; exact cnt_mem nd.2 h
def oneNx (b : Tb) : Prop := ∀ x ∈ b.rows, x.nx.length < 2
theorem hopR_one {x : Rw} (h : x.nx.length < 2) (p q : Int) : hopR x p = hopR x q := by
 unfold hopR
 by_cases h0 : x.nx.length = 0
 ·rw [if_pos h0, if_pos h0]
 ·have h1 : x.nx.length = 1 := by omega
  rw [if_neg h0, if_neg h0, h1]
  simp
theorem alk_one {b : Tb} (h : oneNx b) {p q : Int} (hp : 0 ≤ p ∧ p ≤ 7) (hq : 0 ≤ q ∧ q ≤ 7) : AlkT b p q := by
 have hv : ∀ s, valB b p s = valB b q s := fun s => by
  unfold valB
  simp only [inB_dec]
  have e1 : inR p 0 7 := hp
  have e2 : inR q 0 7 := hq
  simp [e1, e2]
 have hc : ∀ s, coll b p s = coll b q s := fun s => by
  unfold coll
  have : ∀ (rs : List Rw) (m : Mk), (∀ x ∈ rs, x.nx.length < 2) → rs.foldl (colStep b p s) m = rs.foldl (colStep b q s) m := by
   intro rs
   induction rs with
   | nil => intro m _; rfl
   | cons x rs ih =>
     intro m hx
     have e : colStep b p s m x = colStep b q s m x := by
      unfold colStep
      rw [hopR_one (hx x (by simp)) p q]
     rw [List.foldl_cons, List.foldl_cons, e]
     exact ih _ fun y hy => hx y (List.mem_cons_of_mem _ hy)
  exact this _ _ h
 refine ⟨fun id => ?_, fun s n => ?_⟩
 ·unfold nextV
  rw [hv 0]
  split
  ·unfold hopB
   cases hr : rowOf b id with
   | none => rfl
   | some x => exact hopR_one (h x (List.mem_of_find?_eq_some hr)) p q
  ·rfl
 ·unfold maskP
  rw [hv s, hc s]
theorem crL_succ (l : List Tb) (r : Int) (p : Pk) : ∀ (n k : Nat), crL l r p (n + 1) k = crL l r p n k + (runR l (entP p (k + n : Nat)) r).1.cr.length
 | 0, k => by simp [crL]
 | n + 1, k => by
   have ih := crL_succ l r p n (k + 1)
   rw [crL, ih, crL, show k + 1 + n = k + (n + 1) by omega]; omega
theorem crL_le (l : List Tb) (r : Int) (p : Pk) : ∀ (n k : Nat), 0 ≤ crL l r p n k ∧ crL l r p n k ≤ n * 1000000
 | 0, k => by simp [crL]
 | n + 1, k => by
   have ih := crL_le l r p n (k + 1)
   have h := (run_small l (entP p k) r).2.1
   rw [crL]; push_cast; omega
theorem sumL_take {Z : List (List Int)} {i : Nat} {z : List Int} (h : Z[i]? = some z) : sumL (Z.take (i + 1)) = sumL (Z.take i) + z.getD 2 0 := by
 unfold sumL
 rw [List.take_add_one, h]; simp
theorem sumL_le {m : Int} : ∀ {Z : List (List Int)}, (∀ z ∈ Z, 0 ≤ z.getD 2 0 ∧ z.getD 2 0 ≤ m) → 0 ≤ sumL Z ∧ sumL Z ≤ Z.length * m
 | [], _ => by simp [sumL]
 | z :: Z, h => by
   have ih := sumL_le (fun y hy => h y (List.mem_cons_of_mem _ hy) : ∀ y ∈ Z, _)
   have hz := h z (by simp)
   unfold sumL at ih ⊢
   simp only [List.map_cons, List.sum_cons, List.length_cons]
   push_cast
   rw [Int.add_mul]
   omega
theorem ld_mem {acc : List (List Int × Int)} {m : Nat} (h : AccOK acc m) : (ldR acc).length = acc.length ∧ ∀ z ∈ ldR acc, z.length = 3 ∧ ∃ x ∈ acc, z.getD 2 0 = x.2 := by
 refine ⟨by simp [ldR], fun z hz => ?_⟩
 unfold ldR at hz
 obtain ⟨x, hx, rfl⟩ := List.mem_map.1 (List.mem_mergeSort.1 hz)
 exact ⟨by simp [h.two x hx], x, hx, row_third (h.two x hx)⟩
def oneB (b : Tb) : Bool := b.rows.all fun x => decide (x.nx.length < 2)
theorem one_of {b : Tb} (h : oneB b = true) : oneNx b := fun x hx => by
 have := List.all_eq_true.1 h x hx
 simpa using this
theorem all_take {α : Type} {f : α → Bool} {l : List α} {i : Nat} {y : α} (h : l[i]? = some y) : (l.take (i + 1)).all f = ((l.take i).all f && f y) := by
 rw [List.take_add_one, h]; simp
theorem cnt_one {l : List Tb} {r : Int} {q : Pk} (hok : q.ok = true) (hl : ∀ b ∈ l, oneB b = true) (h : (lgo l r q 8 0 []).2 = 0) : ∀ x ∈ (lgo l r q 8 0 []).1, x.2 % 8 = 0 := by
 intro x hx
 have hF : FldOK 0 (entP q 0) := ⟨by
  unfold fldB
  simp only [Pk.ok, Bool.and_eq_true] at hok
  obtain ⟨_, _, _, _, _, _, h7, h8, h9, h10⟩ := hok
  have h7' : insB (entP q 0).ent 1023 = true := by show insB 0 1023 = true; decide
  show (insB (entP q 0).ent 1023 && (insB q.ing 256 && (insB q.proto 7 && decide (q.pay.size ≤ 64)))) = true
  simp [h7', h8, h9, of_decide_eq_true h10], rfl⟩
 have hC : ∀ i : Nat, 0 ≤ i → i < 0 + 8 → (runR l (entP q i) r).1.cr = (runR l (entP q (0 : Nat)) r).1.cr := fun i _ hi => by
  have hc : fldB (i : Int) q.ing q.proto q.pay = true := by
   have h7 : insB (i : Int) 1023 = true := by unfold insB; simp; omega
   unfold fldB
   simp only [Pk.ok, Bool.and_eq_true] at hok
   obtain ⟨_, _, _, _, _, _, _, h8, h9, h10⟩ := hok
   simp [h7, h8, h9, of_decide_eq_true h10]
  exact (runR_ch hc (fun b hb => alk_one (one_of (hl b hb)) (by omega) (by omega)) hF r).2
 have h1 := lgo_cnt l r q _ 8 0 [] h hC x.1
 have h2 := (lgo_ok l r q 8 0 [] 0 AccOK.nil).nd
 rw [cnt_mem h2 hx] at h1
 rw [h1]
 simp only [cntI]
 omega
theorem ssums_law (L : List Int) (hL : ∀ x ∈ L, I64 x) : Contract Tryz.prog 9 [.d (ints L)] [] (.d (.bool true)) [] [] := by
 refine contract_of Tryz.func9 rfl (fun E0 => ?_)
 refine awp.sound (g := .mk) (ow := []) (kp := (fun k => k==0||k==2||k==3||k==4||k==5||k==6||k==7||k==8||k==9||k==10||k==11||k==12||k==13||k==14||k==15||k==16||k==17||k==18||k==19||k==20||k==43||k==48||k==59||k==72||k==81||k==91||k==111||k==123)) ?_
 rw [Tryz.ntmps9]
 simp -dsimp [ints]
 refine ACall.of (new_c L) [] 3000 ?_
 simp -dsimp [ints]
 have kT : TapeOK (L.take 600, 0) := tape_new L hL
 generalize (L.take 600, 0) = T0 at kT ⊢
 refine ACall.of (domainO_c T0 kT 6 (by omega)) [.o 3010] 2000 ?_
 obtain ⟨d1, d2, d3, d4, d5, d6⟩ := gDom_ok T0 (most := 6) (by omega)
 have hDV := (gDom_valid T0 (most := 6) (by omega)).1
 have kD : TapeOK (gDom T0 6).2.2.2 := d3.symm ▸ kT
 clear d3
 generalize gDom T0 6 = D0 at d1 d2 d4 d5 d6 kD hDV ⊢
 obtain ⟨g, p, X, T1⟩ := D0
 simp only at d1 d2 d4 d5 d6 kD hDV
 have hlen := hDV.len
 have hl0 : p.len ≠ 0 := fun e => by rw [e] at hlen; simp [validLen] at hlen
 have hlI : I64 p.len := by simp [validLen] at hlen; unfold I64; omega
 have hsX : SmL X := ⟨by omega, fun b hb => chk_sm (d2 b hb)⟩
 simp -dsimp [topT, planT]
 try refine ⟨?_, ⟨by kernel_rfl⟩⟩
 refine ACall.view [6] ?_
 simp -dsimp [topT, planT]
 refine ACall.of (for_c T1 kD p (by omega) hl0 hlI) [.o 3010] 0 ?_
 have kF : TapeOK (gFor T1 p).2 := by rw [gFor_ok]; exact kD
 have hFV := gFor_valid T1 (p := p) hDV.subd hlen
 generalize gFor T1 p = F at kF hFV ⊢
 obtain ⟨q, T2⟩ := F
 simp only at kF hFV ⊢
 simp only [pkT, Pk.cs, List.map]
 simp -dsimp [topT, planT]
 refine ACall.of (router0_c T2 kF g.rs g.ls ⟨d5, by omega⟩) [.o 3010] 0 ?_
 generalize gNext T2 g.rs.length = A
 obtain ⟨A, T3⟩ := A
 simp only
 generalize (g.rs.getD A.toNat ⟨0, false⟩).id = r
 have h1 := loads_c X hsX r q
 simp only [pkT, Pk.cs, List.map] at h1
 have e1 : (loadsR X r q).2 = (lgo X r q 8 0 []).2 := by unfold loadsR; split <;> simp_all
 have e2 : (lgo X r q 8 0 []).2 = 0 → (loadsR X r q).1 = ldR (lgo X r q 8 0 []).1 := fun h => by unfold loadsR; rw [if_pos h]
 have s1 := lgo_sum X r q 8 0 []
 have s2 := lgo_ok X r q 8 0 [] 0 AccOK.nil
 generalize loadsR X r q = W at h1 e1 e2
 obtain ⟨W, e⟩ := W
 simp only at e1 e2
 subst e1
 simp -dsimp
 try refine ⟨?_, ⟨by kernel_rfl⟩⟩
 refine ACall.of h1 [] 0 ?_
 by_cases he : ¬ (lgo X r q 8 0 []).2 = 0
 ·simp -dsimp [he]
  and_intros
  all_goals try first | omega | exact ⟨by kernel_rfl⟩ | rfl
  refine ACall.of awake15_c [] 0 ?_
  simp -dsimp
  and_intros
  all_goals try first | omega | exact ⟨by kernel_rfl⟩ | rfl
  refine Fin.of ?_
  simp
 ·have he : (lgo X r q 8 0 []).2 = 0 := Decidable.not_not.1 he
  simp -dsimp [he]
  and_intros
  all_goals try first | omega | exact ⟨by kernel_rfl⟩ | rfl
  obtain rfl := e2 he
  obtain ⟨s1, s3⟩ := s1 he
  have hZ := ld_mem s2
  have hsum := sumL_ld s2
  have hone := cnt_one (l := X) (r := r) hFV.ok
  have hok8 := fun h => hone h he
  rw [s1] at hsum
  have hLe := s2.len
  have hAle := s2.le
  generalize lgo X r q 8 0 [] = G at hZ hsum hok8 hLe hAle ⊢
  obtain ⟨acc, e0⟩ := G
  simp only at hZ hsum hok8 hLe hAle ⊢
  generalize ldR acc = Z at hZ hsum ⊢
  obtain ⟨hZ1, hZ2⟩ := hZ
  have hsum2 : sumL Z = crL X r q 8 0 := by rw [hsum]; simp [sumA]
  have hZb : ∀ z ∈ Z, 0 ≤ z.getD 2 0 ∧ z.getD 2 0 ≤ 8000000 := fun z hz => by
   obtain ⟨_, x, hx, hxe⟩ := hZ2 z hz
   have := hAle x hx
   rw [hxe]; omega
  have hZl : Z.length ≤ 8000000 := by omega
  have hZm : (∀ b ∈ X, oneB b = true) → ∀ z ∈ Z, (z.getD 2 0).tmod 8 = 0 := fun h z hz => by
   obtain ⟨_, x, hx, hxe⟩ := hZ2 z hz
   rw [hxe]
   exact Int.tmod_eq_zero_of_dvd (Int.dvd_of_emod_eq_zero (hok8 h x hx))
  refine ALoop.of [] (fun k => k==0||k==2||k==3||k==4||k==5||k==6||k==7||k==8||k==9||k==10||k==11||k==12||k==13||k==14||k==15||k==16||k==17||k==18||k==19||k==20||k==43||k==48||k==59||k==72||k==81||k==91||k==111||k==123) (ι := { i : Nat // i ≤ Z.length })
   (fun z => [(Pl.s 6, It.v (.d (.sl (tbs X)))), (Pl.o 7, It.box (q.cs.map .d)), (Pl.s 7, It.v (.ptr (Pl.o 7) 0)), (Pl.s 8, It.v (.d (.int .i64 r))), (Pl.s 9, It.v (.d (.sl (irow Z)))), (Pl.s 11, It.v (.d (.int .i64 (sumL (Z.take z.1))))), (Pl.s 12, It.v (.d (.int .i64 0))), (Pl.s 13, It.v (.d (.int .i64 z.1)))])
   (fun z => Z.length - z.1) ⟨0, by omega⟩ ?_ ?_
  ·exact GS.to (by simp [Pk.cs, sumL])
  rintro ⟨i, i1⟩
  by_cases hi : i < Z.length
  ·have hiz : (i : Int) < Z.length := by omega
   have hg : Z[i]? = some Z[i] := List.getElem?_eq_getElem hi
   have hm := hZ2 Z[i] (List.getElem_mem hi)
   have hb := hZb Z[i] (List.getElem_mem hi)
   have hsl := sumL_le (m := 8000000) (Z := Z.take i) fun z hz => hZb z (List.mem_of_mem_take hz)
   rw [List.length_take, Nat.min_eq_left i1] at hsl
   generalize Z[i] = y at hg hm hb
   obtain ⟨a, b, c, rfl⟩ : ∃ a b c, y = [a, b, c] := by
    match y, hm.1 with
    | [a, b, c], _ => exact ⟨a, b, c, rfl⟩
   have hn : sumL (Z.take (i + 1)) = sumL (Z.take i) + c := sumL_take hg
   have hb' : 0 ≤ c ∧ c ≤ 8000000 := hb
   have hgr : (irow Z)[i]? = some [D.int .i64 a, D.int .i64 b, D.int .i64 c] := by simp [irow, hg]
   have hw : IntKind.i64.wrap (sumL (Z.take i) + c) = sumL (Z.take i) + c := wrap_i64 (by omega) (by omega)
   simp -dsimp [hiz, hgr, hw, wrap_i64 (n := (i : Int) + 1) (by omega) (by omega)]
   and_intros
   all_goals try first | omega | exact ⟨by kernel_rfl⟩ | rfl
   exact ⟨⟨i + 1, by omega⟩, GS.to (by simp [hn, Pk.cs]), by simp; omega⟩
  have hiz : ¬ (i : Int) < Z.length := by omega
  obtain rfl : i = Z.length := by omega
  rw [List.take_length, hsum2]
  simp -dsimp [hiz]
  and_intros
  all_goals try first | omega | exact ⟨by kernel_rfl⟩ | rfl
  refine ALoop.of [] (fun k => k==0||k==2||k==3||k==4||k==5||k==6||k==7||k==8||k==9||k==10||k==11||k==12||k==13||k==14||k==15||k==16||k==17||k==18||k==19||k==20||k==43||k==48||k==59||k==72||k==81||k==91||k==111||k==123) (ι := { z : Nat × Int // z.1 ≤ 8 })
   (fun z => [(Pl.s 6, It.v (.d (.sl (tbs X)))), (Pl.o 7, It.box ((entP q z.1.2).cs.map .d)), (Pl.s 7, It.v (.ptr (Pl.o 7) 0)), (Pl.s 8, It.v (.d (.int .i64 r))), (Pl.s 9, It.v (.d (.sl (irow Z)))), (Pl.s 11, It.v (.d (.int .i64 (crL X r q 8 0)))), (Pl.s 12, It.v (.d (.int .i64 (crL X r q z.1.1 0)))), (Pl.s 14, It.v (.d (.int .i64 z.1.1)))])
   (fun z => 8 - z.1.1) ⟨(0, q.ent), by omega⟩ ?_ ?_
  ·exact GS.to (by simp [Pk.cs, entP, crL])
  rintro ⟨⟨k, en⟩, k1⟩
  simp only at k1
  by_cases hk : k < 8
  ·have hkz : (k : Int) < 8 := by omega
   have h2 := run14_c X hsX (entP q k) r
   have hs3 := s3 k (by omega) (by omega)
   have hcs := crL_succ X r q k 0
   rw [Nat.zero_add] at hcs
   have hcl := crL_le X r q k 0
   have hr3 := (run_small X (entP q k) r).2.1
   generalize runR X (entP q k) r = U at h2 hs3 hcs hr3
   obtain ⟨U, f⟩ := U
   simp only at hs3 hcs hr3
   subst hs3
   simp only [pkT, Pk.cs, entP, List.map, trcT] at h2
   have hw : IntKind.i64.wrap (crL X r q k 0 + U.cr.length) = crL X r q k 0 + U.cr.length := wrap_i64 (by omega) (by omega)
   simp -dsimp [hkz, Pk.cs, entP]
   and_intros
   all_goals try first | omega | exact ⟨by kernel_rfl⟩ | rfl
   refine ACall.of h2 [] 0 ?_
   simp -dsimp [hw, wrap_i64 (n := (k : Int) + 1) (by omega) (by omega)]
   and_intros
   all_goals try first | omega | exact ⟨by kernel_rfl⟩ | rfl
   exact ⟨⟨(k + 1, k), by omega⟩, GS.to (by simp [hcs, Pk.cs, entP]), by simp; omega⟩
  have hkz : ¬ (k : Int) < 8 := by omega
  obtain rfl : k = 8 := by omega
  generalize crL X r q 8 0 = S
  simp -dsimp [hkz]
  and_intros
  all_goals try first | omega | exact ⟨by kernel_rfl⟩ | rfl
  clear hsum hsum2 s3 hok8 hone
  refine ALoop.of [] (fun k => k==0||k==2||k==3||k==4||k==5||k==6||k==7||k==8||k==9||k==10||k==11||k==12||k==13||k==14||k==15||k==16||k==17||k==18||k==19||k==20||k==43||k==48||k==59||k==72||k==81||k==91||k==111||k==123) (ι := { i : Nat // i ≤ X.length })
   (fun z => [(Pl.s 6, It.v (.d (.sl (tbs X)))), (Pl.s 9, It.v (.d (.sl (irow Z)))), (Pl.s 11, It.v (.d (.int .i64 S))), (Pl.s 12, It.v (.d (.int .i64 S))), (Pl.s 17, It.v (.d (.bool ((X.take z.1).all oneB)))), (Pl.s 18, It.v (.d (.int .i64 z.1)))])
   (fun z => X.length - z.1) ⟨0, by omega⟩ ?_ ?_
  ·exact GS.to (by simp)
  rintro ⟨i, i1⟩
  by_cases hi : i < X.length
  ·have hiz : (i : Int) < X.length := by omega
   have hg : X[i]? = some X[i] := List.getElem?_eq_getElem hi
   have hbm : X[i] ∈ X := List.getElem_mem hi
   generalize X[i] = b at hg hbm
   have hbr := (hsX.t b hbm).rows
   have hgt : (tbs X)[i]? = some b.cs := by simp [tbs, hg]
   have hA := all_take (f := oneB) hg
   generalize (X.take i).all oneB = u at hA
   simp -dsimp [hiz, tbs]
   and_intros
   all_goals try first | omega | exact ⟨by kernel_rfl⟩ | rfl
   refine ALoop.of [] (fun k => k==0||k==2||k==3||k==4||k==5||k==6||k==7||k==8||k==9||k==10||k==11||k==12||k==13||k==14||k==15||k==16||k==17||k==18||k==19||k==20||k==43||k==48||k==59||k==72||k==81||k==91||k==111||k==123) (ι := { j : Nat // j ≤ b.rows.length })
    (fun z => [(Pl.s 6, It.v (.d (.sl (tbs X)))), (Pl.s 9, It.v (.d (.sl (irow Z)))), (Pl.s 11, It.v (.d (.int .i64 S))), (Pl.s 12, It.v (.d (.int .i64 S))), (Pl.s 17, It.v (.d (.bool (u && (b.rows.take z.1).all fun x => decide (x.nx.length < 2))))), (Pl.s 18, It.v (.d (.int .i64 i))), (Pl.s 19, It.v (.d (.int .i64 z.1)))])
    (fun z => b.rows.length - z.1) ⟨0, by omega⟩ ?_ ?_
   ·exact GS.to (by simp [tbs])
   rintro ⟨j, j1⟩
   by_cases hj : j < b.rows.length
   ·have hjz : (j : Int) < b.rows.length := by omega
    have hgj : b.rows[j]? = some b.rows[j] := List.getElem?_eq_getElem hj
    generalize b.rows[j] = x at hgj
    have hB := all_take (f := fun x : Rw => decide (x.nx.length < 2)) hgj
    have hxz : (x.nx.length : Int) < 2 ↔ x.nx.length < 2 := by omega
    rcases (Bool.eq_false_or_eq_true (u && (b.rows.take j).all fun x => decide (x.nx.length < 2))).symm with hb | hb
    ·simp -dsimp [hiz, hjz, hgt, Tb.cs, rwsD, hgj, Rw.cs, ints, hb, wrap_i64 (n := (j : Int) + 1) (by omega) (by omega)]
     and_intros
     all_goals try first | omega | exact ⟨by kernel_rfl⟩ | rfl
     exact ⟨⟨j + 1, by omega⟩, GS.to (by rw [hB, ← Bool.and_assoc, hb]; simp), by simp; omega⟩
    ·simp -dsimp [hiz, hjz, hgt, Tb.cs, rwsD, hgj, Rw.cs, ints, hb, wrap_i64 (n := (j : Int) + 1) (by omega) (by omega)]
     and_intros
     all_goals try first | omega | exact ⟨by kernel_rfl⟩ | rfl
     exact ⟨⟨j + 1, by omega⟩, GS.to (by rw [hB, ← Bool.and_assoc, hb]; simp [hxz]), by simp; omega⟩
   have hjz : ¬ (j : Int) < b.rows.length := by omega
   obtain rfl : j = b.rows.length := by omega
   simp -dsimp [hiz, hjz, hgt, Tb.cs, rwsD, wrap_i64 (n := (i : Int) + 1) (by omega) (by omega)]
   and_intros
   all_goals try first | omega | exact ⟨by kernel_rfl⟩ | rfl
   exact ⟨⟨i + 1, by omega⟩, GS.to (by simp [hA, oneB]), by simp; omega⟩
  have hiz : ¬ (i : Int) < X.length := by omega
  obtain rfl : i = X.length := by omega
  rw [List.take_length]
  have hall : X.all oneB = true → ∀ z ∈ Z, (z.getD 2 0).tmod 8 = 0 := fun h => hZm fun b hb => List.all_eq_true.1 h b hb
  generalize X.all oneB = u at hall
  simp -dsimp [hiz, tbs]
  and_intros
  all_goals try first | omega | exact ⟨by kernel_rfl⟩ | rfl
  refine ALoop.of [] (fun k => k==0||k==2||k==3||k==4||k==5||k==6||k==7||k==8||k==9||k==10||k==11||k==12||k==13||k==14||k==15||k==16||k==17||k==18||k==19||k==20||k==43||k==48||k==59||k==72||k==81||k==91||k==111||k==123) (ι := { i : Nat // i ≤ Z.length })
   (fun z => [(Pl.s 9, It.v (.d (.sl (irow Z)))), (Pl.s 11, It.v (.d (.int .i64 S))), (Pl.s 12, It.v (.d (.int .i64 S))), (Pl.s 17, It.v (.d (.bool u))), (Pl.s 20, It.v (.d (.int .i64 z.1)))])
   (fun z => Z.length - z.1) ⟨0, by omega⟩ ?_ ?_
  ·exact GS.to (by simp)
  rintro ⟨i, i1⟩
  by_cases hi : i < Z.length
  ·have hiz : (i : Int) < Z.length := by omega
   have hg : Z[i]? = some Z[i] := List.getElem?_eq_getElem hi
   have hm := hZ2 Z[i] (List.getElem_mem hi)
   have hz8 := fun h => hall h Z[i] (List.getElem_mem hi)
   generalize Z[i] = y at hg hm hz8
   obtain ⟨a, b, c, rfl⟩ : ∃ a b c, y = [a, b, c] := by
    match y, hm.1 with
    | [a, b, c], _ => exact ⟨a, b, c, rfl⟩
   have hgr : (irow Z)[i]? = some [D.int .i64 a, D.int .i64 b, D.int .i64 c] := by simp [irow, hg]
   cases u
   ·simp -dsimp [hiz, wrap_i64 (n := (i : Int) + 1) (by omega) (by omega)]
    and_intros
    all_goals try first | omega | exact ⟨by kernel_rfl⟩ | rfl
    exact ⟨⟨i + 1, by omega⟩, GS.to (by simp), by simp; omega⟩
   ·have hc8 : c.tmod 8 = 0 := hz8 rfl
    simp -dsimp [hiz, hgr, hc8, wrap_i64 (n := (i : Int) + 1) (by omega) (by omega)]
    and_intros
    all_goals try first | omega | exact ⟨by kernel_rfl⟩ | rfl
    exact ⟨⟨i + 1, by omega⟩, GS.to (by simp), by simp; omega⟩
  have hiz : ¬ (i : Int) < Z.length := by omega
  simp -dsimp [hiz]
  and_intros
  all_goals try first | omega | exact ⟨by kernel_rfl⟩ | rfl
  refine ACall.of awake15_c [] 0 ?_
  simp -dsimp
  and_intros
  all_goals try first | omega | exact ⟨by kernel_rfl⟩ | rfl
  refine Fin.of ?_
  simp
end Go.Proofs

namespace Go.Proofs.YtjgeggdefiejbaaGreatDoor
open Go Go.Tr
set_option maxRecDepth 100000
def laidT : List (String × DataW Unit) := [("math/bits.deBruijn64tab", Rows.laid_math_bits_deBruijn64tab)]
theorem gDeb : Tryz.prog.globalNamed "math/bits.deBruijn64tab" = some 0 := by kernel_rfl
theorem tDeb : (Tryz.prog.globals[0]?).map (·.type) = some 191 := by kernel_rfl
theorem uDeb : Tryz.prog.underlying 191 = some (.array 64 5) := by kernel_rfl
theorem uByte : Tryz.prog.underlying 5 = some (.int .u8) := by kernel_rfl
theorem cByte : Tryz.prog.cellsOf 5 = 1 := by kernel_rfl
theorem debData {H : Type} : (Rows.laid_math_bits_deBruijn64tab : DataW H) = .agg (deb.map fun n => .lit (.int .u8 n)) := rfl
theorem glob_of_laid {W : World} (h : laidMetH Tryz.prog laidT W) : GlobW W := by
 rw [MakeChecks.laidMetH_plain _ _ _ (by kernel_rfl)] at h
 obtain ⟨ps, ⟨g0, t0, cs0, f0, p0, q0, hg0, ht0, hv0, hd0, _⟩, _, _⟩ := h
 obtain rfl := Option.some.inj (gDeb.symm.trans hg0)
 obtain rfl := Option.some.inj (tDeb.symm.trans ht0)
 obtain ⟨xs, m1, rfl, hx1, hlen, hn, hel⟩ := DataW.trod_array uDeb hd0
 simp only [Prod.mk.injEq, debData, DataW.agg.injEq] at hx1
 have hcell : ∀ i : Nat, i < 64 → cs0[i]? = some (.int .u8 (deb.getD i 0)) := fun i hi => by
  have h1 := hel i hi
  rw [cByte, Nat.mul_one] at h1
  have h2 : xs[i]? = some xs[i] := List.getElem?_eq_getElem (by omega)
  rw [h2] at h1
  obtain ⟨n, e1, e2, _⟩ := DataW.trod_int uByte h1
  have h3 : (xs.map (·.1))[i]? = (deb.map fun n => (DataW.lit (Lit.int .u8 n) : DataW Unit))[i]? := by rw [← hx1.1]
  rw [List.getElem?_map, h2, Option.map_some, e2, List.getElem?_map] at h3
  have h4 : deb[i]? = some n := by
   cases hd : deb[i]? with
   | none => rw [hd] at h3; simp at h3
   | some k => rw [hd] at h3; simp at h3; rw [h3]
  have h5 : cs0.toList[i]? = some (.int .u8 n) := by
   have := congrArg (fun l => l[0]?) e1
   simp only [List.getElem?_take, List.getElem?_drop] at this
   simpa using this
  rw [List.getD_eq_getElem?_getD, h4, Option.getD_some]
  simpa using h5
 have hbl : 0 < W.heap.size := by
  have := World.var?_cell hg0 hv0 0
  rw [hcell 0 (by omega)] at this
  exact World.block_lt_of_cell? W ⟨0, 0, none⟩ this
 intro y hy
 simp only [globs, List.mem_singleton] at hy
 subst hy
 refine RepCells.of_get fun i x hx => ?_
 simp only [List.getElem?_map, Option.map_eq_some_iff] at hx
 obtain ⟨n, h1, rfl⟩ := hx
 have hi : i < 64 := (List.getElem?_eq_some_iff.1 h1).1
 refine ⟨hbl, .int .u8 n, ?_, by simp only [Rep]⟩
 have := World.var?_cell hg0 hv0 i
 rw [hcell i hi, List.getD_eq_getElem?_getD, h1, Option.getD_some] at this
 rw [Nat.zero_add]
 exact this
end Go.Proofs.YtjgeggdefiejbaaGreatDoor

namespace Go.Proofs
open Go Go.Tr
end Go.Proofs

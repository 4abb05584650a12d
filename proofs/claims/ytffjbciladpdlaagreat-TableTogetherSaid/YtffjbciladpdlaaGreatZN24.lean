/-
  What functions of the program compute, stated as contracts over plain data; the conditions of each stand in its own statement.
-/
import Derived.Test.YtffjbciladpdlaaGreatZN23
import Derived.Test.YtffjbciladpdlaaGreatZN16
import Derived.Test.YtffjbciladpdlaaGreatZN18
set_option linter.unusedSimpArgs false
set_option maxRecDepth 100000
set_option maxHeartbeats 2000000
namespace Go.Proofs
open Go Go.Tr
theorem chk_parts {b : Tb} (h : chk b = 0) : b.head ∧ b.rows.length ≤ 256 ∧ (∀ x ∈ b.rows, x.nx.length ≤ 24) ∧ ∀ x ∈ b.rows, ¬ (1 < x.nx.length ∧ b.r ∈ x.nx) := by
 unfold chk at h
 split at h
 ·simp at h
 rename_i h1
 split at h
 ·simp at h
 split at h
 ·simp at h
 rename_i h2
 split at h
 ·simp at h
 rename_i h3
 split at h
 ·simp at h
 split at h
 ·simp at h
 rename_i h4
 exact ⟨Classical.byContradiction fun g => h1 g, by omega, fun x hx => Nat.le_of_not_lt fun g => h3 ⟨x, hx, g⟩, fun x hx g => h4 ⟨x, hx, g⟩⟩
theorem chk_sm {b : Tb} (h : chk b = 0) : b.Sm := ⟨by have := (chk_parts h).2.1; omega, fun x hx => by have := (chk_parts h).2.2.1 x hx; omega⟩
theorem copied_c (b : Tb) (hb : b.rows.length ≤ 1000000) (hn : ∀ x ∈ b.rows, x.nx.length ≤ 1000000) : Contract Tryz.prog 74 [tblT b] [] (.agg [TV.d (.int .i64 b.r), TV.d (.int .i64 b.sd), TV.d (.int .i64 b.len), .oref 3 b.rows.length]) [] [(3, .row 52 2 (dd (rws b.rows)) false)] := by
 refine contract_of Tryz.func74 rfl (fun E0 => ?_)
 refine awp.sound (g := .mk) (ow := [19]) (kp := (fun k => k==0||k==1||k==2||k==3||k==4||k==9)) ?_
 rw [Tryz.ntmps74]
 simp -dsimp [tblT, rwsD_eq]
 refine ALoop.of [19] (fun k => k==0||k==1||k==2||k==3||k==4||k==9) (ι := { i : Nat // i ≤ b.rows.length }) (fun z => [(Pl.s 0, It.v (.agg [TV.d (.int .i64 b.r), TV.d (.int .i64 b.sd), TV.d (.int .i64 b.len), TV.d (.sl (rws b.rows))])), (Pl.o 1, It.box [TV.d (.int .i64 b.r), TV.d (.int .i64 b.sd), TV.d (.int .i64 b.len), TV.d (.sl (rws b.rows))]), (Pl.s 1, It.v (.ptr (Pl.o 1) 0)), (Pl.o 2, It.box [TV.d (.int .i64 0), TV.d (.int .i64 0), TV.d (.int .i64 0), TV.c (Value.slice none 0 0)]), (Pl.s 2, It.v (.ptr (Pl.o 2) 0)), (Pl.s 3, It.v (.oref 3 z.1)), (Pl.o 3, It.row 52 2 (dd (rws (b.rows.take z.1))) false), (Pl.s 4, It.v (.d (.int .i64 z.1)))]) (fun z => b.rows.length - z.1) ⟨0, by omega⟩ ?_ ?_
 ·exact GS.own' (k := 3) 52 2 (by simp) (by simp) (by simp [rws])
 rintro ⟨i, i1⟩
 by_cases hi : i < b.rows.length
 ·have hiz : (i : Int) < b.rows.length := by omega
  have hx : b.rows[i]? = some b.rows[i] := List.getElem?_eq_getElem hi
  have ht : b.rows.take (i + 1) = b.rows.take i ++ [b.rows[i]] := by rw [List.take_add_one, List.getElem?_eq_getElem hi]; rfl
  have hnx := hn b.rows[i] (List.getElem_mem hi)
  generalize b.rows[i] = x at hx ht hnx
  have hx' := rws_get hx
  simp -dsimp [hiz, hx', ints, wrap_i64 (n := (i : Int) + 1) (by omega) (by omega)]
  and_intros
  all_goals try first | rfl | omega | exact ⟨by kernel_rfl⟩ | exact dLen_map 1 _ _ fun _ => rfl
  exact ⟨⟨i + 1, by omega⟩, GS.to (by simp [ht, rws_app, ints]), by simp; omega⟩
 ·have hiz : ¬ (i : Int) < b.rows.length := by omega
  obtain rfl : i = b.rows.length := by omega
  simp -dsimp [hiz]
  refine Fin.of ?_
  simp
theorem gTopA_len (cost tree : Int) (skip : Bool) (b : Int) : ∀ (n : Nat) (a : Int) (T : Tp) (l : List Lk), (gTopA cost tree skip b n a T l).1.length ≤ l.length + n
 | 0, _, _, _ => Nat.le_refl _
 | n + 1, a, T, l => by
   have h1 := gTopA_len cost tree skip b n (a + 1) (gTopS cost tree skip b a T l).2 (gTopS cost tree skip b a T l).1
   have h2 := gTopS_len cost tree skip b a T l
   rw [gTopA]
   omega
theorem gTopB_len (cost : Int) : ∀ (n : Nat) (b : Int) (T : Tp) (l : List Lk), 0 ≤ b → (gTopB cost n b T l).1.length ≤ l.length + n * (b + n).toNat
 | 0, _, _, _, _ => by simp [gTopB]
 | n + 1, b, T, l, hb => by
   have h1 := gTopB_len cost n (b + 1) (gTopR cost b T l).2 (gTopR cost b T l).1 (by omega)
   have h2 : (gTopR cost b T l).1.length ≤ l.length + (b - 1).toNat := gTopA_len _ _ _ _ _ _ _ _
   rw [gTopB]
   have e : (b + 1 + n).toNat = (b + (n + 1 : Nat)).toNat := by omega
   rw [e] at h1
   have h3 : (n + 1) * (b + (n + 1 : Nat)).toNat = n * (b + (n + 1 : Nat)).toNat + (b + (n + 1 : Nat)).toNat := Nat.succ_mul _ _
   omega
theorem ordL_len : ∀ (l out : List Lk), (ordL l out).length = l.length + out.length
 | [], _ => by simp [ordL]
 | x :: l, out => by
   rw [ordL, ordL_len l]
   simp
   omega
theorem gTop_small (T : Tp) {most : Int} (hm : 1 ≤ most ∧ most ≤ 24) : (gTop T most).1.rs.length ≤ 24 ∧ (gTop T most).1.ls.length ≤ 1000 := by
 have b1 := gRange_lo T 1 most
 have b2 := gRange_hi T (a := 1) (b := most) (by omega)
 simp only [gTop, ordL_len]
 generalize gRange T 1 most = R at b1 b2 ⊢
 have h := gTopB_len (gPick R.2 [1, 2, 2, 5]).1 (R.1 + 1 - 2).toNat 2 (gPick R.2 [1, 2, 2, 5]).2 [] (by omega)
 have h1 : (R.1 + 1 - 2).toNat ≤ 23 := by omega
 have h2 : (2 + ((R.1 + 1 - 2).toNat : Int)).toNat ≤ 25 := by omega
 have h3 := Nat.mul_le_mul h1 h2
 simp only [List.length_nil] at h ⊢
 exact ⟨by simp [gRts]; omega, by omega⟩
theorem gMixL_tape : ∀ (l : List Rt) (T : Tp), TapeOK (gMixL l T).2 = TapeOK T
 | [], _ => rfl
 | x :: l, T => by simp [gMixL, gMixL_tape l]
@[simp] theorem gMix_tape (T : Tp) (most : Int) : TapeOK (gMix T most).2 = TapeOK T := by simp [gMix, gMixL_tape]
theorem gMix_small (T : Tp) {most : Int} (hm : 1 ≤ most ∧ most ≤ 24) : (gMix T most).1.rs.length ≤ 24 ∧ (gMix T most).1.ls.length ≤ 1000 := by
 have := gTop_small T hm
 simpa [gMix, gMixL_len] using this
theorem gPlanS_ok (rs : List Rt) (len x : Int) (T : Tp) (id : Int) (l : List Ed) : TapeOK (gPlanS rs len x T id l).2.2 = TapeOK T ∧ (gPlanS rs len x T id l).1.length ≤ l.length + 1 := by
 unfold gPlanS
 simp only
 split
 ·simp
 ·split <;> simp
theorem gPlanL_ok2 (rs : List Rt) (len : Int) : ∀ (o : List Int) (T : Tp) (id : Int) (l : List Ed), TapeOK (gPlanL rs len o T id l).2.2 = TapeOK T ∧ (gPlanL rs len o T id l).1.length ≤ l.length + o.length
 | [], _, _, _ => ⟨rfl, Nat.le_refl _⟩
 | x :: o, T, id, l => by
   rw [gPlanL]
   obtain ⟨h1, h2⟩ := gPlanS_ok rs len x T id l
   obtain ⟨h3, h4⟩ := gPlanL_ok2 rs len o (gPlanS rs len x T id l).2.2 (gPlanS rs len x T id l).2.1 (gPlanS rs len x T id l).1
   exact ⟨h3.trans h1, by simp only [List.length_cons]; omega⟩
theorem gPlan_zero (T : Tp) (rs : List Rt) : TapeOK (gPlan T rs 0).2 = TapeOK T ∧ (gPlan T rs 0).1.es.length ≤ rs.length := by
 have h := gPlanL_ok2 rs (gPick (gNext T 3).2 [8, 8, 16, 32, 64]).1 (gOrder (gPick (gNext T 3).2 [8, 8, 16, 32, 64]).2 rs.length).1 (gOrder (gPick (gNext T 3).2 [8, 8, 16, 32, 64]).2 rs.length).2 0 []
 simp only [gPlan, gPlan0, Int.lt_irrefl, if_false]
 refine ⟨h.1.trans (by simp), ?_⟩
 have h2 := h.2
 rw [gOrder_len] at h2
 simpa using h2
theorem allT_eq (l : List Tb) (e : Int) : allT l e = .tup [.d (.sl (tbs l)), .d (.int .i64 e)] := rfl
theorem dflt_ok : chk ⟨1, 0, 8, []⟩ = 0 := by decide
end Go.Proofs

namespace Go.Tr
open Go
theorem ACall.view {P : Program} {A : Actv} {ops : Array Oper} {i : Nat} {t : S} {k : List Pl → List (Pl × It) → Prop} {g : Tg k} (ss : List Nat)
  (h : (viewL t (ss.map .tmp)).C ∧ ACall P A ops i (over t (viewL t (ss.map .tmp)).W) (fun rp W => k ((viewL t (ss.map .tmp)).rp ++ rp) (W ++ (viewL t (ss.map .tmp)).W)) .mk) : ACall P A ops i t k g := by
 obtain ⟨h0, ⟨rp, W, h1, h2⟩⟩ := h
 exact ⟨⟨_, _, h1.viewed _ h0, h2⟩⟩
set_option linter.unusedVariables false
def fam (b n : Nat) (f : Nat → It) (l : List (Pl × It)) : List (Pl × It) := (List.range n).map (fun i => (Pl.o (b + i), f i)) ++ l
theorem look_map_not {b : Nat} {f : Nat → It} {l : List (Pl × It)} {p : Pl} : ∀ {ks : List Nat}, (∀ i ∈ ks, p ≠ .o (b + i)) → look (ks.map (fun i => (Pl.o (b + i), f i)) ++ l) p = look l p
 | [], _ => rfl
 | k :: ks, h => by
   rw [List.map_cons, List.cons_append, look, if_neg (h k (by simp))]
   exact look_map_not fun i hi => h i (by simp [hi])
theorem look_map_in {b : Nat} {f : Nat → It} {l : List (Pl × It)} {i : Nat} : ∀ {ks : List Nat}, i ∈ ks → look (ks.map (fun i => (Pl.o (b + i), f i)) ++ l) (.o (b + i)) = f i
 | [], h => by simp at h
 | k :: ks, h => by
   rw [List.map_cons, List.cons_append, look]
   by_cases e : i = k
   ·subst e; rw [if_pos rfl]
   ·rw [if_neg (by simpa using e)]
    exact look_map_in (by simpa [e] using h)
theorem put1_map_not {b : Nat} {f : Nat → It} {l : List (Pl × It)} {p : Pl} {v : It} : ∀ {ks : List Nat}, (∀ i ∈ ks, p ≠ .o (b + i)) → put1 p v (ks.map (fun i => (Pl.o (b + i), f i)) ++ l) = ks.map (fun i => (Pl.o (b + i), f i)) ++ put1 p v l
 | [], _ => rfl
 | k :: ks, h => by
   rw [List.map_cons, List.cons_append, put1, if_neg (h k (by simp)), put1_map_not fun i hi => h i (by simp [hi])]
   rfl
theorem put1_map_in {b : Nat} {f : Nat → It} {l : List (Pl × It)} {v : It} {i : Nat} : ∀ {ks : List Nat}, i ∈ ks → ks.Nodup → put1 (.o (b + i)) v (ks.map (fun i => (Pl.o (b + i), f i)) ++ l) = ks.map (fun j => (Pl.o (b + j), if j = i then v else f j)) ++ l
 | [], h, _ => by simp at h
 | k :: ks, h, nd => by
   have nd' := List.nodup_cons.1 nd
   rw [List.map_cons, List.cons_append, put1, List.map_cons, List.cons_append]
   by_cases e : i = k
   ·subst e
    rw [if_pos rfl, if_pos rfl]
    congr 2
    refine List.map_congr_left fun j hj => ?_
    rw [if_neg (fun e => nd'.1 (by rw [← e]; exact hj))]
   ·rw [if_neg (by simpa using e), if_neg (fun h => e h.symm), put1_map_in (by simpa [e] using h) nd'.2]
variable {b n : Nat} {f : Nat → It} {l : List (Pl × It)}
theorem look_fam_s (k : Nat) : look (fam b n f l) (.s k) = look l (.s k) := look_map_not (by simp)
theorem look_fam_x (k : Nat) : look (fam b n f l) (.x k) = look l (.x k) := look_map_not (by simp)
theorem look_fam_o {k : Nat} (h : k < b) : look (fam b n f l) (.o k) = look l (.o k) := look_map_not (by intro i _ e; simp only [Pl.o.injEq] at e; omega)
theorem look_fam_o' {k : Nat} (h : b + n ≤ k) : look (fam b n f l) (.o k) = look l (.o k) := look_map_not (by intro i hi e; simp only [Pl.o.injEq] at e; have := List.mem_range.1 hi; omega)
theorem look_fam_in {i : Nat} (h : i < n) : look (fam b n f l) (.o (b + i)) = f i := look_map_in (List.mem_range.2 h)
theorem put1_fam_s (k : Nat) (v : It) : put1 (.s k) v (fam b n f l) = fam b n f (put1 (.s k) v l) := put1_map_not (by simp)
theorem put1_fam_o {k : Nat} (v : It) (h : k < b) : put1 (.o k) v (fam b n f l) = fam b n f (put1 (.o k) v l) := put1_map_not (by intro i _ e; simp only [Pl.o.injEq] at e; omega)
theorem put1_fam_o' {k : Nat} (v : It) (h : b + n ≤ k) : put1 (.o k) v (fam b n f l) = fam b n f (put1 (.o k) v l) := put1_map_not (by intro i hi e; simp only [Pl.o.injEq] at e; have := List.mem_range.1 hi; omega)
theorem put1_fam_in {i : Nat} (v : It) (h : i < n) : put1 (.o (b + i)) v (fam b n f l) = fam b n (fun j => if j = i then v else f j) l := put1_map_in (List.mem_range.2 h) List.nodup_range
theorem ball_fam {P : Pl × It → Prop} : (∀ x ∈ fam b n f l, P x) ↔ (∀ i, i < n → P (.o (b + i), f i)) ∧ ∀ x ∈ l, P x := by
 unfold fam
 constructor
 ·intro h
  exact ⟨fun i hi => h _ (List.mem_append.2 (.inl (List.mem_map.2 ⟨i, List.mem_range.2 hi, rfl⟩))), fun x hx => h x (List.mem_append.2 (.inr hx))⟩
 ·rintro ⟨h1, h2⟩ x hx
  rcases List.mem_append.1 hx with hx | hx
  ·obtain ⟨i, hi, rfl⟩ := List.mem_map.1 hx
   exact h1 i (List.mem_range.1 hi)
  ·exact h2 x hx
theorem ball_fam2 {P : Pl → It → Prop} : (∀ p i, (p, i) ∈ fam b n f l → P p i) ↔ (∀ i, i < n → P (.o (b + i)) (f i)) ∧ ∀ p i, (p, i) ∈ l → P p i := by
 have h := ball_fam (b := b) (n := n) (f := f) (l := l) (P := fun x => P x.1 x.2)
 constructor
 ·intro g
  have := h.1 fun x hx => g x.1 x.2 hx
  exact ⟨this.1, fun p i hx => this.2 _ hx⟩
 ·intro g p i hx
  exact h.2 ⟨g.1, fun x hx => g.2 _ _ hx⟩ _ hx
theorem oIds_app : ∀ (a c : List (Pl × It)), oIds (a ++ c) = oIds a ++ oIds c
 | [], _ => rfl
 | (.o k, i) :: a, c => by simp [oIds, oIds_app a c]
 | (.s k, i) :: a, c => by simp [oIds, oIds_app a c]
 | (.x k, i) :: a, c => by simp [oIds, oIds_app a c]
theorem xIds_app : ∀ (a c : List (Pl × It)), xIds (a ++ c) = xIds a ++ xIds c
 | [], _ => rfl
 | (.o k, i) :: a, c => by simp [xIds, xIds_app a c]
 | (.s k, i) :: a, c => by simp [xIds, xIds_app a c]
 | (.x k, i) :: a, c => by simp [xIds, xIds_app a c]
theorem keptL_app (kp : Nat → Bool) : ∀ (a c : List (Pl × It)), keptL kp (a ++ c) = keptL kp a ++ keptL kp c
 | [], _ => rfl
 | (.o k, i) :: a, c => by simp [keptL_o, keptL_app kp a c]
 | (.s k, i) :: a, c => by
   simp only [List.cons_append, keptL_s, keptL_app kp a c]
   split <;> rfl
 | (.x k, i) :: a, c => by simp [keptL_x, keptL_app kp a c]
theorem oIds_map (b : Nat) (f : Nat → It) : ∀ ks : List Nat, oIds (ks.map fun i => (Pl.o (b + i), f i)) = ks.map (b + ·)
 | [] => rfl
 | k :: ks => by simp [oIds, oIds_map b f ks]
theorem xIds_map (b : Nat) (f : Nat → It) : ∀ ks : List Nat, xIds (ks.map fun i => (Pl.o (b + i), f i)) = []
 | [] => rfl
 | k :: ks => by simp [xIds, xIds_map b f ks]
theorem keptL_map (kp : Nat → Bool) (b : Nat) (f : Nat → It) : ∀ ks : List Nat, keptL kp (ks.map fun i => (Pl.o (b + i), f i)) = ks.map fun i => (Pl.o (b + i), f i)
 | [] => rfl
 | k :: ks => by simp [keptL_o, keptL_map kp b f ks]
theorem oIds_fam {k : Nat} : k ∈ oIds (fam b n f l) ↔ (b ≤ k ∧ k < b + n) ∨ k ∈ oIds l := by
 rw [fam, oIds_app, oIds_map, List.mem_append]
 refine or_congr ?_ Iff.rfl
 rw [List.mem_map]
 constructor
 ·rintro ⟨i, hi, rfl⟩
  have := List.mem_range.1 hi
  omega
 ·intro h
  exact ⟨k - b, List.mem_range.2 (by omega), by omega⟩
theorem xIds_fam : xIds (fam b n f l) = xIds l := by rw [fam, xIds_app, xIds_map, List.nil_append]
theorem keptL_fam (kp : Nat → Bool) : keptL kp (fam b n f l) = fam b n f (keptL kp l) := by rw [fam, keptL_app, keptL_map, fam]
theorem fam_zero : fam b 0 f l = l := rfl
theorem fam_ne {a i k : Nat} (h : k < a) : ¬ a + i = k := by omega
theorem ne_fam {a i k : Nat} (h : k < a) : ¬ k = a + i := by omega
theorem Sub.fam {t : S} (h1 : ∀ j, j < n → f j = t (.o (b + j))) (h2 : ∀ x ∈ l, look (Tr.fam b n f l) x.1 = t x.1) (h3 : ∀ j, j < n → (f j).only (· ∈ oIds (Tr.fam b n f l))) (h4 : ∀ x ∈ l, x.2.only (· ∈ oIds (Tr.fam b n f l))) : Sub t (Tr.fam b n f l) :=
 ⟨ball_fam.2 ⟨fun j hj => by rw [look_fam_in hj]; exact h1 j hj, h2⟩, ball_fam.2 ⟨h3, h4⟩⟩
attribute [simp] look_fam_s look_fam_x look_fam_o look_fam_o' look_fam_in put1_fam_s put1_fam_o put1_fam_o' put1_fam_in ball_fam ball_fam2 oIds_fam xIds_fam keptL_fam
end Go.Tr

set_option linter.unusedVariables false
namespace Go.Tr
open Go
section
variable {A : Actv}
theorem krel_see {E : En} {v v' : TV} (hr : ∀ u, RelV E v u → RelV E v' u) {k : List Int} : ∀ {es : List (List Int × TV)} {i : Nat} {l : List MapEntry}, es[i]? = some (k, v) → KRel E es l → KRel E (es.set i (k, v')) l
 | [], _, _, h, _ => by simp at h
 | x :: es, 0, l, h, hm => by
   simp only [List.getElem?_cons_zero, Option.some.injEq] at h
   subst h
   simp only [KRel] at hm
   simp only [List.set_cons_zero, KRel]
   obtain ⟨a, l', h1, h2, h3, h4⟩ := hm
   exact ⟨a, l', h1, h2, hr _ h3, h4⟩
 | (k', w) :: es, i + 1, l, h, hm => by
   simp only [List.getElem?_cons_succ] at h
   simp only [KRel] at hm
   simp only [List.set_cons_succ, KRel]
   obtain ⟨a, l', h1, h2, h3, h4⟩ := hm
   exact ⟨a, l', h1, h2, h3, krel_see hr h h4⟩
theorem InvE.mapSee {t : S} {a : Act} {E : En} {id c : Nat} {es es' : List (List Int × TV)} {pd : Option (List Int)} {s : Option Snap} (hi : InvE A t a E) (ht : t (.o id) = .mpk es c pd s) (hrel : ∀ l', KRel E es l' → ∃ l2, l2.Perm l' ∧ KRel E es' l2) :
  InvE A (upd t (.o id) (.mpk es' c pd s)) a E := by
 refine ⟨⟨fun q hq => ?_, hi.h.frees, hi.h.inj, hi.h.size, hi.h.stsz, fun b o h1 q h2 => ?_, hi.h.gl⟩, hi.fr, fun j tv hj => ?_, hi.defers, hi.size⟩
 ·by_cases eq : q = .o id
  ·subst eq
   have h := hi.h.item (.o id) hq
   rw [ht] at h
   simp only [upd, if_true]
   obtain ⟨id', b, l, clock, l', ty, v, h1, h2, h3, h4, h5, h6, h7, h8, h9⟩ := h
   obtain ⟨l2, g1, g2⟩ := hrel l' h5
   exact ⟨id', b, l, clock, l2, ty, v, h1, h2, h3, g1.trans h4, g2, h6, h7, h8, h9⟩
  ·simp only [upd, if_neg eq]; exact hi.h.item q hq
 ·obtain ⟨e2, k2, es2, h3, h4⟩ := hi.h.sep b o h1 q h2
  have eq : q ≠ .o id := fun e => by subst e; rw [ht] at h3; simp at h3
  exact ⟨e2, k2, es2, by simp only [upd, if_neg eq]; exact h3, h4⟩
 ·simp only [upd, reduceCtorEq, if_false] at hj
  exact hi.sl j tv hj
theorem GS.ownM {t : S} {id0 c : Nat} {es : List (List Int × TV)} {pd : Option (List Int)} {s : Option Snap} {i id : Nat} {k : List Int} (e z : Nat) (h0 : t (.o id0) = .mpk es c pd s) (hi : es[i]? = some (k, .c (.slice none 0 0))) (ho : t (.o id) = .none) :
  GS A t (upd (upd t (.o id) (.row e z [] false)) (.o id0) (.mpk (es.set i (k, .oref id 0)) c pd s)) := fun a w ⟨E, hw, hE⟩ => by
 obtain ⟨E', hw', x, hi', hv⟩ := hE.newRow ho e z
 have hne : id0 ≠ id := fun e => by subst e; rw [h0] at ho; simp at ho
 refine ⟨E', hw'.trans hw, hi'.mapSee (es := es) (by simp only [upd, Pl.o.injEq, if_neg hne]; exact h0) fun l' hl => ⟨l', .refl _, krel_see (fun u hu => ?_) hi hl⟩⟩
 simp only [RelV] at hu ⊢
 exact ⟨by rw [hu]; rfl, z, 0, _, hv, Nat.le_refl _, fun _ => hu⟩
theorem GS.seeM {t : S} {id0 c : Nat} {es : List (List Int × TV)} {pd : Option (List Int)} {s : Option Snap} {i id n e z : Nat} {rs : List (List TV)} {sh : Bool} {xs : List (List D)} {k : List Int} (h0 : t (.o id0) = .mpk es c pd s) (hi : es[i]? = some (k, .oref id n)) (ht : t (.o id) = .row e z rs sh) (hn : n = rs.length) (hx : toDss rs = some xs) :
  GS A t (upd (upd t (.o id) (.row e z rs true)) (.o id0) (.mpk (es.set i (k, .d (.sl xs))) c pd s)) := fun a w ⟨E, hw, hE⟩ => by
 subst hn
 obtain ⟨E', hw', x, hb, hv, hi', hr', _⟩ := hE.freeze ht hx
 have hne : id0 ≠ id := fun e => by subst e; rw [h0] at ht; simp at ht
 refine ⟨E', hw'.trans hw, hi'.mapSee (es := es) (by simp only [upd, Pl.o.injEq, if_neg hne]; exact h0) fun l' hl => ⟨l', .refl _, krel_see (fun u hu => ?_) hi hl⟩⟩
 simp only [RelV]
 refine hr' u ?_
 simp only [RelV] at hu ⊢
 rw [hv] at hu
 exact hu
theorem krel_perm {E : En} {es es' : List (List Int × TV)} (h : es.Perm es') : ∀ {l : List MapEntry}, KRel E es l → ∃ l2, l2.Perm l ∧ KRel E es' l2 := by
 induction h with
 | nil => intro l h; exact ⟨l, .refl _, h⟩
 | @cons x l1 l2 hp ih =>
   intro l h
   obtain ⟨k, v⟩ := x
   simp only [KRel] at h
   obtain ⟨a, l', rfl, h2, h3, h4⟩ := h
   obtain ⟨m, hm, hk⟩ := ih h4
   exact ⟨a :: m, hm.cons a, by simp only [KRel]; exact ⟨a, m, rfl, h2, h3, hk⟩⟩
 | swap x y l1 =>
   intro l h
   obtain ⟨kx, vx⟩ := x
   obtain ⟨ky, vy⟩ := y
   simp only [KRel] at h
   obtain ⟨a, l', rfl, h2, h3, b, l'', rfl, h5, h6, h7⟩ := h
   exact ⟨b :: a :: l'', List.Perm.swap _ _ _, by simp only [KRel]; exact ⟨b, _, rfl, h5, h6, a, l'', rfl, h2, h3, h7⟩⟩
 | trans _ _ ih1 ih2 =>
   intro l h
   obtain ⟨m, h1, h2⟩ := ih1 h
   obtain ⟨m2, h3, h4⟩ := ih2 h2
   exact ⟨m2, h3.trans h1, h4⟩
theorem GS.permM {t : S} {id0 c : Nat} {es es' : List (List Int × TV)} {pd : Option (List Int)} {s : Option Snap} (h0 : t (.o id0) = .mpk es c pd s) (hp : es.Perm es') : GS A t (upd t (.o id0) (.mpk es' c pd s)) := fun a w ⟨E, hw, hE⟩ =>
 ⟨E, hw, hE.mapSee h0 fun l' hl => krel_perm hp hl⟩
theorem GS.permM' {l l' : List (Pl × It)} (id0 : Nat) {c : Nat} {es es' : List (List Int × TV)} {pd : Option (List Int)} {s : Option Snap} (h0 : look l (.o id0) = .mpk es c pd s) (hp : es.Perm es')
  (h : Sub (look (put1 (.o id0) (.mpk es' c pd s) l)) l' ∧ xIds l' = xIds (put1 (.o id0) (.mpk es' c pd s) l)) : GS A (look l) (look l') := by
 have := GS.permM (A := A) h0 hp
 rw [upd_look] at this
 exact this.trans (GS.forget h.1 h.2)
end
def mapF (n b : Nat) (k : Nat → List Int) (f : Nat → Nat) : List (List Int × TV) := (List.range n).map fun i => (k i, .oref (b + i) (f i))
theorem mapF_get {n b : Nat} {k : Nat → List Int} {f : Nat → Nat} (hk : ∀ i j, i < n → j < n → k i = k j → i = j) {i : Nat} (hi : i < n) : kget (mapF n b k f) (k i) = some (.oref (b + i) (f i)) := by
 refine kget_mem ?_ (List.mem_map.2 ⟨i, List.mem_range.2 hi, rfl⟩)
 rw [mapF, List.map_map, List.nodup_iff_pairwise_ne, List.pairwise_map]
 refine List.Pairwise.imp_of_mem ?_ List.nodup_range
 intro a c ha hc hne e
 exact hne (hk a c (List.mem_range.1 ha) (List.mem_range.1 hc) e)
theorem kput_map {k : Nat → List Int} {f : Nat → TV} {v : TV} {i : Nat} : ∀ {ks : List Nat}, i ∈ ks → (∀ a ∈ ks, ∀ c ∈ ks, k a = k c → a = c) → ks.Nodup → kput (ks.map fun i => (k i, f i)) (k i) v = ks.map fun j => (k j, if j = i then v else f j)
 | [], h, _, _ => by simp at h
 | a :: ks, h, hk, nd => by
   have nd' := List.nodup_cons.1 nd
   rw [List.map_cons, kput, List.map_cons]
   by_cases e : i = a
   ·subst e
    rw [if_pos rfl, if_pos rfl]
    congr 1
    refine List.map_congr_left fun j hj => ?_
    rw [if_neg (fun e => nd'.1 (by rw [← e]; exact hj))]
   ·rw [if_neg (fun g => e (hk i h a (by simp) g)), if_neg (fun h => e h.symm)]
    congr 1
    exact kput_map (by simpa [e] using h) (fun x hx y hy => hk x (by simp [hx]) y (by simp [hy])) nd'.2
theorem mapF_put {n b : Nat} {k : Nat → List Int} {f : Nat → Nat} (hk : ∀ i j, i < n → j < n → k i = k j → i = j) {i m : Nat} (hi : i < n) : kput (mapF n b k f) (k i) (.oref (b + i) m) = mapF n b k fun j => if j = i then m else f j := by
 unfold mapF
 rw [kput_map (List.mem_range.2 hi) (fun a ha c hc => hk a c (List.mem_range.1 ha) (List.mem_range.1 hc)) List.nodup_range]
 refine List.map_congr_left fun j _ => ?_
 by_cases e : j = i
 ·subst e; simp
 ·simp [e]
theorem mapF_snoc (n b : Nat) (k : Nat → List Int) (f : Nat → Nat) : mapF (n + 1) b k f = mapF n b k f ++ [(k n, .oref (b + n) (f n))] := by
 simp [mapF, List.range_succ]
end Go.Tr

namespace Go.Tr
open Go
theorem mask_ren (f : Pl → Pl) {a1 a2 b1 b2 : List Pl} (h : ((mskL (a2.map f) 0 &&& (mskL (b1.map f) 0 ||| mskL (b2.map f) 0)) ||| (mskL (b2.map f) 0 &&& mskL (a1.map f) 0)) = 0) :
  ((mskL a2 0 &&& (mskL b1 0 ||| mskL b2 0)) ||| (mskL b2 0 &&& mskL a1 0)) = 0 := by
 have hb : ∀ n, (((mskL (a2.map f) 0 &&& (mskL (b1.map f) 0 ||| mskL (b2.map f) 0)) ||| (mskL (b2.map f) 0 &&& mskL (a1.map f) 0))).testBit n = false := fun n => by rw [h]; exact Nat.zero_testBit _
 have hm : ∀ {p : Pl} {l : List Pl}, p ∈ l → (mskL (l.map f) 0).testBit (plN (f p)) = true := fun hp => mskL_mem.2 (List.mem_map_of_mem hp)
 have hex : ∀ {l : List Pl} {n : Nat}, (mskL l 0).testBit n = true → ∃ p ∈ l, plN p = n := fun hl => by
  rw [mskL_bit] at hl
  exact hl.resolve_left (by simp)
 refine Nat.eq_of_testBit_eq fun n => ?_
 rw [Nat.zero_testBit]
 cases hn : (((mskL a2 0 &&& (mskL b1 0 ||| mskL b2 0)) ||| (mskL b2 0 &&& mskL a1 0))).testBit n with
 | false => rfl
 | true =>
   exfalso
   rw [Nat.testBit_or, Nat.testBit_and, Nat.testBit_and, Nat.testBit_or, Bool.or_eq_true, Bool.and_eq_true, Bool.and_eq_true, Bool.or_eq_true] at hn
   rcases hn with ⟨h1, h2 | h2⟩ | ⟨h1, h2⟩ <;> obtain ⟨p, hp, e1⟩ := hex h1 <;> obtain ⟨q, hq, e2⟩ := hex h2 <;> obtain rfl : p = q := plN_inj (e1.trans e2.symm)
   ·have := hb (plN (f p))
    rw [Nat.testBit_or, Nat.testBit_and, Nat.testBit_or, hm hp, hm hq] at this
    simp at this
   ·have := hb (plN (f p))
    rw [Nat.testBit_or, Nat.testBit_and, Nat.testBit_or, hm hp, hm hq] at this
    simp at this
   ·have := hb (plN (f p))
    rw [Nat.testBit_or, Nat.testBit_and, Nat.testBit_and, hm hp, hm hq] at this
    simp at this
def msOf (f : Pl → Pl) (X : List (Nat × List Pl × List Pl)) : List (Nat × Nat × Nat) := X.map fun x => (x.1, mskL (x.2.1.map f) 0, mskL (x.2.2.map f) 0)
theorem okRow_ren (f : Pl → Pl) (A : Nat) (R W : List Pl) : ∀ X : List (Nat × List Pl × List Pl), okRow A (mskL (R.map f) 0) (mskL (W.map f) 0) (msOf f X) = true → okRow A (mskL (R.map id) 0) (mskL (W.map id) 0) (msOf id X) = true
 | [], _ => rfl
 | (i, r, w) :: X, h => by
   simp only [msOf, List.map_cons, okRow, Bool.and_eq_true, Bool.or_eq_true, beq_iff_eq] at h ⊢
   refine ⟨h.1.imp id fun g => ?_, okRow_ren f A R W X h.2⟩
   rw [List.map_id, List.map_id, List.map_id, List.map_id]
   exact mask_ren f g
def renP2 (f : Pl → Pl) (x : List Pl × List Pl) : List Pl × List Pl := (x.1.map f, x.2.map f)
theorem drawGo_ren (f : Pl → Pl) : ∀ (ops : List Oper) (L : List (List Pl × List Pl)) (j : Nat) (As : List Nat) (X : List (Nat × List Pl × List Pl)), drawGo ops (L.map (renP2 f)) j As (msOf f X) = true → drawGo ops (L.map (renP2 id)) j As (msOf id X) = true
 | [], _, _, _, _, _ => rfl
 | o :: ops, L, j, As, X, h => by
   have hd : ∀ g : Pl → Pl, (L.map (renP2 g)).headD ([], []) = ((L.headD ([], [])).1.map g, (L.headD ([], [])).2.map g) := fun g => by cases L <;> rfl
   have ht : ∀ g : Pl → Pl, (L.map (renP2 g)).tail = L.tail.map (renP2 g) := fun g => by cases L <;> rfl
   have hc : ∀ g : Pl → Pl, ∀ (A : Nat), (j, mskL ((L.headD ([], [])).1.map g) 0, mskL ((L.headD ([], [])).2.map g) 0) :: msOf g X = msOf g ((j, (L.headD ([], [])).1, (L.headD ([], [])).2) :: X) := fun g A => rfl
   simp only [drawGo, forceN_eq, Bool.and_eq_true, hd, ht] at h ⊢
   refine ⟨h.1, okRow_ren f _ _ _ _ h.2.1, ?_⟩
   rw [hc id 0]
   rw [hc f 0] at h
   exact drawGo_ren f ops L.tail (j + 1) _ _ h.2.2
theorem ADraw.ren (f : Pl → Pl) {ops : Array Oper} {L : List (List Pl × List Pl)} (h : drawF ops (L.map (renP2 f)) = true) : ADraw ops L := by
 have h1 := drawGo_ren f ops.toList L 0 [] [] h
 have e : L.map (renP2 id) = L := by
  conv => rhs; rw [← List.map_id L]
  refine List.map_congr_left fun x _ => ?_
  obtain ⟨a, b⟩ := x
  simp [renP2]
 rw [e] at h1
 exact ⟨h1⟩
end Go.Tr

namespace Go.Proofs
open Go Go.Tr
abbrev IM := List (Int × Int)
def gI : IM → Int → Option Int
 | [], _ => none
 | x :: es, k => if k = x.1 then some x.2 else gI es k
def pI : IM → Int → Int → IM
 | [], k, v => [(k, v)]
 | x :: es, k, v => if k = x.1 then (k, v) :: es else x :: pI es k v
def rI (es : IM) (k : Int) : IM := es.filter fun x => decide (x.1 ≠ k)
def im (es : IM) : List (List Int × TV) := es.map fun x => ([x.1], TV.d (.int .i64 x.2))
theorem kget_im : ∀ (es : IM) (k : Int), kget (im es) [k] = (gI es k).map fun v => TV.d (.int .i64 v)
 | [], _ => rfl
 | x :: es, k => by
   have ih := kget_im es k
   simp only [im] at ih
   by_cases h : k = x.1
   ·simp [im, kget, gI, h]
   ·simp [im, kget, gI, h, ih]
theorem kput_im : ∀ (es : IM) (k v : Int), kput (im es) [k] (TV.d (.int .i64 v)) = im (pI es k v)
 | [], _, _ => rfl
 | x :: es, k, v => by
   have ih := kput_im es k v
   simp only [im] at ih
   by_cases h : k = x.1
   ·simp [im, kput, pI, h]
   ·simp [im, kput, pI, h, ih]
theorem kdel_im (es : IM) (k : Int) : kdel (im es) [k] = im (rI es k) := by
 simp only [kdel, im, rI, List.filter_map]
 congr 1
 refine List.filter_congr fun x _ => ?_
 simp
def inL (ls : List Lk) (x : Int) : IM := ls.flatMap fun l => (if l.b = x then [(l.a, l.ca)] else []) ++ (if l.a = x then [(l.b, l.cb)] else [])
def ouL (ls : List Lk) (x : Int) : IM := ls.flatMap fun l => (if l.a = x then [(l.b, l.ca)] else []) ++ (if l.b = x then [(l.a, l.cb)] else [])
end Go.Proofs

namespace Go.Tr
open Go
@[simp] theorem only_mapF {po : Nat → Prop} {n b : Nat} {k : Nat → List Int} {f : Nat → Nat} {c : Nat} {pd : Option (List Int)} {s : Option Snap} : It.only po (It.mpk (mapF n b k f) c pd s) ↔ ∀ i, i < n → po (b + i) := by
 constructor
 ·intro h i hi
  exact h _ (List.mem_map.2 ⟨i, List.mem_range.2 hi, rfl⟩)
 ·intro h x hx
  obtain ⟨i, hi, rfl⟩ := List.mem_map.1 hx
  exact h i (List.mem_range.1 hi)
@[simp] theorem only_nilM {po : Nat → Prop} {c : Nat} {pd : Option (List Int)} {s : Option Snap} : It.only po (It.mpk [] c pd s) := by
 intro x hx
 simp at hx
theorem kput_new {es : List (List Int × TV)} {k : List Int} {v : TV} (h : ∀ x ∈ es, x.1 ≠ k) : kput es k v = es ++ [(k, v)] := by
 induction es with
 | nil => rfl
 | cons x es ih =>
   rw [kput, if_neg (fun e => h x (by simp) e.symm), ih fun y hy => h y (by simp [hy]), List.cons_append]
theorem mapF_new {n b : Nat} {k : Nat → List Int} {f : Nat → Nat} (hk : ∀ i, i < n → k i ≠ k n) (v : TV) : kput (mapF n b k f) (k n) v = mapF n b k f ++ [(k n, v)] := by
 refine kput_new fun x hx => ?_
 obtain ⟨i, hi, rfl⟩ := List.mem_map.1 hx
 exact hk i (List.mem_range.1 hi)
theorem set_snoc {i b : Nat} {k : Nat → List Int} {f : Nat → Nat} {v : TV} (h : f i = 0) : (mapF i b k f ++ [(k i, v)]).set i (k i, .oref (b + i) 0) = mapF (i + 1) b k f := by
 rw [mapF_snoc, List.set_append_right _ _ (by simp [mapF]), h]
 simp [mapF]
theorem get_snoc {i b : Nat} {k : Nat → List Int} {f : Nat → Nat} {v : List Int × TV} : (mapF i b k f ++ [v])[i]? = some v := by
 simp [mapF]
theorem GS.grow2 {A : Actv} {i c0 c1 : Nat} {pd0 pd1 : Option (List Int)} {s0 s1 : Option Snap} {k : Nat → List Int} {l l' : List (Pl × It)} (id0 id1 b0 b1 e z : Nat)
  (h0 : look l (.o id0) = .mpk (mapF i b0 k (fun _ => 0) ++ [(k i, .c (.slice none 0 0))]) c0 pd0 s0) (h1 : look l (.o id1) = .mpk (mapF i b1 k (fun _ => 0) ++ [(k i, .c (.slice none 0 0))]) c1 pd1 s1)
  (o0 : look l (.o (b0 + i)) = .none) (o1 : look l (.o (b1 + i)) = .none) (n1 : id0 ≠ id1) (n2 : id0 ≠ b0 + i) (n3 : id1 ≠ b0 + i) (n4 : id0 ≠ b1 + i) (n5 : id1 ≠ b1 + i) (n6 : b0 + i ≠ b1 + i)
  (h : Sub (look (put1 (.o id1) (.mpk (mapF (i + 1) b1 k fun _ => 0) c1 pd1 s1) (put1 (.o (b1 + i)) (.row e z [] false) (put1 (.o id0) (.mpk (mapF (i + 1) b0 k fun _ => 0) c0 pd0 s0) (put1 (.o (b0 + i)) (.row e z [] false) l))))) l' ∧
   xIds l' = xIds (put1 (.o id1) (.mpk (mapF (i + 1) b1 k fun _ => 0) c1 pd1 s1) (put1 (.o (b1 + i)) (.row e z [] false) (put1 (.o id0) (.mpk (mapF (i + 1) b0 k fun _ => 0) c0 pd0 s0) (put1 (.o (b0 + i)) (.row e z [] false) l))))) : GS A (look l) (look l') := by
 have a1 := GS.ownM (A := A) (t := look l) (id := b0 + i) e z h0 get_snoc o0
 rw [set_snoc rfl, upd_look, upd_look] at a1
 refine a1.trans ?_
 have a2 := GS.ownM (A := A) (t := look (put1 (.o id0) (.mpk (mapF (i + 1) b0 k fun _ => 0) c0 pd0 s0) (put1 (.o (b0 + i)) (.row e z [] false) l))) (id0 := id1) (id := b1 + i) (es := mapF i b1 k (fun _ => 0) ++ [(k i, .c (.slice none 0 0))]) (i := i) (k := k i) (c := c1) (pd := pd1) (s := s1) e z
  (by rw [← upd_look, ← upd_look]; simp only [upd, Pl.o.injEq, if_neg n1.symm, if_neg n3]; exact h1) get_snoc (by rw [← upd_look, ← upd_look]; simp only [upd, Pl.o.injEq, if_neg n4.symm, if_neg n6.symm]; exact o1)
 rw [set_snoc rfl, upd_look, upd_look] at a2
 exact a2.trans (GS.forget h.1 h.2)
theorem mapF_congr {n b : Nat} {k : Nat → List Int} {f f' : Nat → Nat} (h : ∀ i, i < n → f i = f' i) : mapF n b k f = mapF n b k f' := by
 unfold mapF
 exact List.map_congr_left fun i hi => by rw [h i (List.mem_range.1 hi)]
theorem Sub.fam2 {t : S} {b c n m : Nat} {f f' : Nat → It} {l : List (Pl × It)} (hbc : b + n ≤ c) (h1 : ∀ j, j < n → t (.o (b + j)) = f j) (h2 : ∀ j, j < m → t (.o (c + j)) = f' j)
  (h3 : ∀ x ∈ l, look (Tr.fam b n f (Tr.fam c m f' l)) x.1 = t x.1) (h4 : ∀ j, j < n → (f j).only (· ∈ oIds (Tr.fam b n f (Tr.fam c m f' l)))) (h5 : ∀ j, j < m → (f' j).only (· ∈ oIds (Tr.fam b n f (Tr.fam c m f' l))))
  (h6 : ∀ x ∈ l, x.2.only (· ∈ oIds (Tr.fam b n f (Tr.fam c m f' l)))) : Sub t (Tr.fam b n f (Tr.fam c m f' l)) := by
 refine Sub.fam (fun j hj => (h1 j hj).symm) (ball_fam.2 ⟨fun j hj => ?_, h3⟩) h4 (ball_fam.2 ⟨h5, h6⟩)
 rw [look_fam_o' (by omega), look_fam_in hj, h2 j hj]
theorem GS.forgetF {A : Actv} {t : S} {l' : List (Pl × It)} (h : Sub t l') (hx : ∀ i, look l' (.x i) = t (.x i)) : GS A t (look l') := fun _ _ ⟨E, hw, hi⟩ =>
 ⟨E.res (oIds l'), hw, hi.forget h hx⟩
def It.shd : It → It
 | .row e z rs _ => .row e z rs true
 | x => x
def seeN (t : S) (id0 b n m : Nat) (k : Nat → List Int) (xs : Nat → List (List D)) (c : Nat) (pd : Option (List Int)) (s : Option Snap) : S := fun p =>
 if p = .o id0 then .mpk ((List.range n).map fun i => (k i, if i < m then TV.d (.sl (xs i)) else TV.oref (b + i) (xs i).length)) c pd s
 else match p with
 | .o q => if b ≤ q ∧ q < b + m then (t p).shd else t p
 | p => t p
theorem seeN_zero {t : S} {id0 b n c : Nat} {k : Nat → List Int} {xs : Nat → List (List D)} {pd : Option (List Int)} {s : Option Snap} (h0 : t (.o id0) = .mpk (mapF n b k fun j => (xs j).length) c pd s) : seeN t id0 b n 0 k xs c pd s = t := by
 funext p
 unfold seeN
 by_cases e : p = .o id0
 ·subst e; rw [if_pos rfl, h0]; simp [mapF]
 ·rw [if_neg e]
  split
  ·rw [if_neg (by omega)]
  ·rfl
theorem GS.seeNext {A : Actv} {t : S} {id0 b n m c e z : Nat} {k : Nat → List Int} {xs : Nat → List (List D)} {pd : Option (List Int)} {s : Option Snap} (hm : m < n) (hr : t (.o (b + m)) = .row e z (dd (xs m)) false) (hb : id0 < b) :
  GS A (seeN t id0 b n m k xs c pd s) (seeN t id0 b n (m + 1) k xs c pd s) := by
 have h0 : seeN t id0 b n m k xs c pd s (.o id0) = .mpk ((List.range n).map fun i => (k i, if i < m then TV.d (.sl (xs i)) else TV.oref (b + i) (xs i).length)) c pd s := by
  unfold seeN; rw [if_pos rfl]
 have hi : ((List.range n).map fun i => (k i, if i < m then TV.d (.sl (xs i)) else TV.oref (b + i) (xs i).length))[m]? = some (k m, .oref (b + m) (xs m).length) := by
  rw [List.getElem?_map, List.getElem?_range hm]; simp
 have ht : seeN t id0 b n m k xs c pd s (.o (b + m)) = .row e z (dd (xs m)) false := by
  unfold seeN
  rw [if_neg (by simp; omega)]
  simp [hr]
 have g := GS.seeM (A := A) (xs := xs m) h0 hi ht (by simp [dd]) (toDss_dd _)
 refine (show upd (upd (seeN t id0 b n m k xs c pd s) (.o (b + m)) (.row e z (dd (xs m)) true)) (.o id0) (.mpk (((List.range n).map fun i => (k i, if i < m then TV.d (.sl (xs i)) else TV.oref (b + i) (xs i).length)).set m (k m, .d (.sl (xs m)))) c pd s) = seeN t id0 b n (m + 1) k xs c pd s from ?_) ▸ g
 funext p
 by_cases e0 : p = .o id0
 ·subst e0
  simp only [upd, if_true]
  unfold seeN
  rw [if_pos rfl]
  congr 1
  refine List.ext_getElem? fun i => ?_
  rw [List.getElem?_set, List.getElem?_map, List.getElem?_map, List.length_map, List.length_range]
  by_cases hin : i < n
  ·rw [List.getElem?_range hin]
   by_cases him : m = i
   ·subst him; simp [hin]
   ·simp only [if_neg him, Option.map_some]
    by_cases h1 : i < m
    ·simp [h1, show i < m + 1 by omega]
    ·simp [h1, show ¬ i < m + 1 by omega]
  ·have : (List.range n)[i]? = none := by simp; omega
   rw [this, if_neg (by omega)]; rfl
 ·simp only [upd, if_neg e0]
  by_cases e1 : p = .o (b + m)
  ·subst e1
   rw [if_pos rfl]
   unfold seeN
   rw [if_neg e0]
   simp only
   rw [if_pos (by omega), hr]; rfl
  ·rw [if_neg e1]
   unfold seeN
   rw [if_neg e0, if_neg e0]
   cases p with
   | o q =>
     simp only
     by_cases h1 : b ≤ q ∧ q < b + m
     ·rw [if_pos h1, if_pos (by omega)]
     ·rw [if_neg h1, if_neg (by intro h; exact e1 (by rw [show q = b + m by omega]))]
   | s q => rfl
   | x q => rfl
theorem GS.seeAll {A : Actv} {t : S} {id0 b n c e z : Nat} {k : Nat → List Int} {xs : Nat → List (List D)} {pd : Option (List Int)} {s : Option Snap} (h0 : t (.o id0) = .mpk (mapF n b k fun j => (xs j).length) c pd s) (hr : ∀ i, i < n → t (.o (b + i)) = .row e z (dd (xs i)) false) (hb : id0 < b) :
  GS A t (seeN t id0 b n n k xs c pd s) := by
 have h : ∀ m, m ≤ n → GS A t (seeN t id0 b n m k xs c pd s) := by
  intro m
  induction m with
  | zero => intro _; rw [seeN_zero h0]; exact GS.refl _
  | succ m ih => intro hm; exact (ih (by omega)).trans (GS.seeNext (by omega) (hr m (by omega)) hb)
 exact h n (Nat.le_refl _)
theorem seeN_map {t : S} {id0 b n c : Nat} {k : Nat → List Int} {xs : Nat → List (List D)} {pd : Option (List Int)} {s : Option Snap} : seeN t id0 b n n k xs c pd s (.o id0) = .mpk ((List.range n).map fun i => (k i, .d (.sl (xs i)))) c pd s := by
 unfold seeN
 rw [if_pos rfl]
 congr 1
 exact List.map_congr_left fun i hi => by rw [if_pos (List.mem_range.1 hi)]
theorem seeN_not {t : S} {id0 b n c : Nat} {k : Nat → List Int} {xs : Nat → List (List D)} {pd : Option (List Int)} {s : Option Snap} {q : Nat} (h1 : q ≠ id0) (h2 : q < b ∨ b + n ≤ q) : seeN t id0 b n n k xs c pd s (.o q) = t (.o q) := by
 unfold seeN
 rw [if_neg (by simp [h1])]
 simp only
 rw [if_neg (by omega)]
theorem seeN_s {t : S} {id0 b n c : Nat} {k : Nat → List Int} {xs : Nat → List (List D)} {pd : Option (List Int)} {s : Option Snap} {q : Nat} : seeN t id0 b n n k xs c pd s (.s q) = t (.s q) := by
 unfold seeN
 rw [if_neg (by simp)]
theorem seeN_x {t : S} {id0 b n c : Nat} {k : Nat → List Int} {xs : Nat → List (List D)} {pd : Option (List Int)} {s : Option Snap} {q : Nat} : seeN t id0 b n n k xs c pd s (.x q) = t (.x q) := by
 unfold seeN
 rw [if_neg (by simp)]
@[simp] theorem only_mitM {po : Nat → Prop} {m : Nat} {s : Snap} {left : List (List Int)} {cur : Option (List Int)} : It.only po (It.mit m s left cur) := trivial
@[simp] theorem only_mpd {α : Type} {po : Nat → Prop} {k : α → List Int} {v : α → D} {l : List α} {c : Nat} {pd : Option (List Int)} {s : Option Snap} : It.only po (It.mpk (l.map fun i => (k i, TV.d (v i))) c pd s) := by
 intro x hx
 obtain ⟨i, _, rfl⟩ := List.mem_map.1 hx
 exact trivial
end Go.Tr

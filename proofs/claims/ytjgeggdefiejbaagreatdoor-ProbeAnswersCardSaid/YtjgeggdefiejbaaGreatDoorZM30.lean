/-
  What functions of the program compute, stated as contracts over plain data; the conditions of each stand in its own statement.
-/
import Derived.Test.YtjgeggdefiejbaaGreatDoorZM29
import Derived.Test.YtjgeggdefiejbaaGreatDoorZM28
import Derived.Shelf.SlSortCmp.NoneTotal
set_option linter.unusedSimpArgs false
set_option maxRecDepth 100000
set_option maxHeartbeats 4000000
namespace Go.Proofs
open Go Go.Tr
@[simp] theorem isObj_tape (T : Tp) : isObj (tapeI T) = true := rfl
theorem locV_len (r : Int) (o : Out) (p : Pk) : (locV r o p).length ≤ 64 := by unfold locV; rw [List.length_map]; exact bitsI_len _
theorem stepT_len (l : List Tb) (q : Int × Pk) (t : Trc) : (stepT l q t).dl.length ≤ t.dl.length + 64 ∧ (stepT l q t).cr.length ≤ t.cr.length + 64 ∧ (stepT l q t).ls.length ≤ t.ls.length + 64 := by
 unfold stepT
 split
 ·simp
 ·rename_i b _
  have h1 := locV_len q.1 (fwdR b q.2).1 q.2
  have h2 := fwdR_len b q.2
  refine ⟨by simp only [List.length_append]; omega, by simp only [List.length_append, List.length_map]; omega, ?_⟩
  simp only
  split
  ·omega
  ·simp
theorem runG_len (l : List Tb) : ∀ (n : Nat) (Q : List (Int × Pk)) (t : Trc), (runG l n Q t).dl.length ≤ t.dl.length + 64 * n ∧ (runG l n Q t).cr.length ≤ t.cr.length + 64 * n ∧ (runG l n Q t).ls.length ≤ t.ls.length + 64 * n
 | 0, Q, t => by simp [runG]
 | n + 1, [], t => by rw [runG_nil]; omega
 | n + 1, q :: Q, t => by
   have h1 := runG_len l n (Q ++ nextQ l q) (stepT l q t)
   have h2 := stepT_len l q t
   rw [runG]; omega
theorem run_small (l : List Tb) (p : Pk) (r : Int) : (runR l p r).1.dl.length ≤ 1000000 ∧ (runR l p r).1.cr.length ≤ 1000000 ∧ (runR l p r).1.ls.length ≤ 1000000 := by
 by_cases h : fitsR l p r = 0
 ·obtain ⟨h1, _, h2⟩ := fits_fit h
  rw [h2]
  have h3 := runG_len l (wt p) [(r, p)] tr0
  have h4 := wt_le h1.ok
  simp only [tr0, List.length_nil] at h3 ⊢
  omega
 ·rw [fits_not h]; simp [tr0]
end Go.Proofs

set_option linter.unusedVariables false
namespace Go.Tr
open Go
def fam (b n : Nat) (f : Nat → It) (l : List (Pl × It)) : List (Pl × It) := (List.range n).map (fun i => (Pl.o (b + i), f i)) ++ l
theorem look_map_not {b : Nat} {f : Nat → It} {l : List (Pl × It)} {p : Pl} : ∀ {ks : List Nat}, (∀ i ∈ ks, p ≠ .o (b + i)) → look (ks.map (fun i => (Pl.o (b + i), f i)) ++ l) p = look l p
 | [], _ => rfl
 | k :: ks, h => by
   rw [List.map_cons, List.cons_append, look, if_neg (h k (by simp))]
   exact look_map_not fun i hi => h i (by simp [hi])
theorem look_map_in {b : Nat} {f : Nat → It} {l : List (Pl × It)} {i : Nat} : ∀ {ks : List Nat}, i ∈ ks → look (ks.map (fun i => (Pl.o (b + i), f i)) ++ l) (.o (b + i)) = f i
 | [], h => by simp at h
 | k :: ks, h => by
   rw [List.map_cons, List.cons_append, look]
   by_cases e : i = k
   ·subst e; rw [if_pos rfl]
   ·rw [if_neg (by simpa using e)]
    exact look_map_in (by simpa [e] using h)
theorem put1_map_not {b : Nat} {f : Nat → It} {l : List (Pl × It)} {p : Pl} {v : It} : ∀ {ks : List Nat}, (∀ i ∈ ks, p ≠ .o (b + i)) → put1 p v (ks.map (fun i => (Pl.o (b + i), f i)) ++ l) = ks.map (fun i => (Pl.o (b + i), f i)) ++ put1 p v l
 | [], _ => rfl
 | k :: ks, h => by
   rw [List.map_cons, List.cons_append, put1, if_neg (h k (by simp)), put1_map_not fun i hi => h i (by simp [hi])]
   rfl
theorem put1_map_in {b : Nat} {f : Nat → It} {l : List (Pl × It)} {v : It} {i : Nat} : ∀ {ks : List Nat}, i ∈ ks → ks.Nodup → put1 (.o (b + i)) v (ks.map (fun i => (Pl.o (b + i), f i)) ++ l) = ks.map (fun j => (Pl.o (b + j), if j = i then v else f j)) ++ l
 | [], h, _ => by simp at h
 | k :: ks, h, nd => by
   have nd' := List.nodup_cons.1 nd
   rw [List.map_cons, List.cons_append, put1, List.map_cons, List.cons_append]
   by_cases e : i = k
   ·subst e
    rw [if_pos rfl, if_pos rfl]
    congr 2
    refine List.map_congr_left fun j hj => ?_
    rw [if_neg (fun e => nd'.1 (by rw [← e]; exact hj))]
   ·rw [if_neg (by simpa using e), if_neg (fun h => e h.symm), put1_map_in (by simpa [e] using h) nd'.2]
variable {b n : Nat} {f : Nat → It} {l : List (Pl × It)}
theorem look_fam_s (k : Nat) : look (fam b n f l) (.s k) = look l (.s k) := look_map_not (by simp)
theorem look_fam_x (k : Nat) : look (fam b n f l) (.x k) = look l (.x k) := look_map_not (by simp)
theorem look_fam_o {k : Nat} (h : k < b) : look (fam b n f l) (.o k) = look l (.o k) := look_map_not (by intro i _ e; simp only [Pl.o.injEq] at e; omega)
theorem look_fam_o' {k : Nat} (h : b + n ≤ k) : look (fam b n f l) (.o k) = look l (.o k) := look_map_not (by intro i hi e; simp only [Pl.o.injEq] at e; have := List.mem_range.1 hi; omega)
theorem look_fam_in {i : Nat} (h : i < n) : look (fam b n f l) (.o (b + i)) = f i := look_map_in (List.mem_range.2 h)
theorem put1_fam_s (k : Nat) (v : It) : put1 (.s k) v (fam b n f l) = fam b n f (put1 (.s k) v l) := put1_map_not (by simp)
theorem put1_fam_x (k : Nat) (v : It) : put1 (.x k) v (fam b n f l) = fam b n f (put1 (.x k) v l) := put1_map_not (by simp)
theorem put1_fam_o {k : Nat} (v : It) (h : k < b) : put1 (.o k) v (fam b n f l) = fam b n f (put1 (.o k) v l) := put1_map_not (by intro i _ e; simp only [Pl.o.injEq] at e; omega)
theorem put1_fam_o' {k : Nat} (v : It) (h : b + n ≤ k) : put1 (.o k) v (fam b n f l) = fam b n f (put1 (.o k) v l) := put1_map_not (by intro i hi e; simp only [Pl.o.injEq] at e; have := List.mem_range.1 hi; omega)
theorem put1_fam_in {i : Nat} (v : It) (h : i < n) : put1 (.o (b + i)) v (fam b n f l) = fam b n (fun j => if j = i then v else f j) l := put1_map_in (List.mem_range.2 h) List.nodup_range
theorem ball_fam {P : Pl × It → Prop} : (∀ x ∈ fam b n f l, P x) ↔ (∀ i, i < n → P (.o (b + i), f i)) ∧ ∀ x ∈ l, P x := by
 unfold fam
 constructor
 ·intro h
  exact ⟨fun i hi => h _ (List.mem_append.2 (.inl (List.mem_map.2 ⟨i, List.mem_range.2 hi, rfl⟩))), fun x hx => h x (List.mem_append.2 (.inr hx))⟩
 ·rintro ⟨h1, h2⟩ x hx
  rcases List.mem_append.1 hx with hx | hx
  ·obtain ⟨i, hi, rfl⟩ := List.mem_map.1 hx
   exact h1 i (List.mem_range.1 hi)
  ·exact h2 x hx
theorem ball_fam2 {P : Pl → It → Prop} : (∀ p i, (p, i) ∈ fam b n f l → P p i) ↔ (∀ i, i < n → P (.o (b + i)) (f i)) ∧ ∀ p i, (p, i) ∈ l → P p i := by
 have h := ball_fam (b := b) (n := n) (f := f) (l := l) (P := fun x => P x.1 x.2)
 constructor
 ·intro g
  have := h.1 fun x hx => g x.1 x.2 hx
  exact ⟨this.1, fun p i hx => this.2 _ hx⟩
 ·intro g p i hx
  exact h.2 ⟨g.1, fun x hx => g.2 _ _ hx⟩ _ hx
theorem oIds_app : ∀ (a c : List (Pl × It)), oIds (a ++ c) = oIds a ++ oIds c
 | [], _ => rfl
 | (.o k, i) :: a, c => by simp [oIds, oIds_app a c]
 | (.s k, i) :: a, c => by simp [oIds, oIds_app a c]
 | (.x k, i) :: a, c => by simp [oIds, oIds_app a c]
theorem xIds_app : ∀ (a c : List (Pl × It)), xIds (a ++ c) = xIds a ++ xIds c
 | [], _ => rfl
 | (.o k, i) :: a, c => by simp [xIds, xIds_app a c]
 | (.s k, i) :: a, c => by simp [xIds, xIds_app a c]
 | (.x k, i) :: a, c => by simp [xIds, xIds_app a c]
theorem keptL_app (kp : Nat → Bool) : ∀ (a c : List (Pl × It)), keptL kp (a ++ c) = keptL kp a ++ keptL kp c
 | [], _ => rfl
 | (.o k, i) :: a, c => by simp [keptL_o, keptL_app kp a c]
 | (.s k, i) :: a, c => by
   simp only [List.cons_append, keptL_s, keptL_app kp a c]
   split <;> rfl
 | (.x k, i) :: a, c => by simp [keptL_x, keptL_app kp a c]
theorem oIds_map (b : Nat) (f : Nat → It) : ∀ ks : List Nat, oIds (ks.map fun i => (Pl.o (b + i), f i)) = ks.map (b + ·)
 | [] => rfl
 | k :: ks => by simp [oIds, oIds_map b f ks]
theorem xIds_map (b : Nat) (f : Nat → It) : ∀ ks : List Nat, xIds (ks.map fun i => (Pl.o (b + i), f i)) = []
 | [] => rfl
 | k :: ks => by simp [xIds, xIds_map b f ks]
theorem keptL_map (kp : Nat → Bool) (b : Nat) (f : Nat → It) : ∀ ks : List Nat, keptL kp (ks.map fun i => (Pl.o (b + i), f i)) = ks.map fun i => (Pl.o (b + i), f i)
 | [] => rfl
 | k :: ks => by simp [keptL_o, keptL_map kp b f ks]
theorem oIds_fam {k : Nat} : k ∈ oIds (fam b n f l) ↔ (b ≤ k ∧ k < b + n) ∨ k ∈ oIds l := by
 rw [fam, oIds_app, oIds_map, List.mem_append]
 refine or_congr ?_ Iff.rfl
 rw [List.mem_map]
 constructor
 ·rintro ⟨i, hi, rfl⟩
  have := List.mem_range.1 hi
  omega
 ·intro h
  exact ⟨k - b, List.mem_range.2 (by omega), by omega⟩
theorem xIds_fam : xIds (fam b n f l) = xIds l := by rw [fam, xIds_app, xIds_map, List.nil_append]
theorem keptL_fam (kp : Nat → Bool) : keptL kp (fam b n f l) = fam b n f (keptL kp l) := by rw [fam, keptL_app, keptL_map, fam]
theorem fam_snoc : fam b (n + 1) f l = fam b n f ((.o (b + n), f n) :: l) := by
 simp [fam, List.range_succ]
theorem fam_zero : fam b 0 f l = l := rfl
theorem renL_fam {a c : Nat} (h : a < b) : renL a c (fam b n f l) = fam b n (fun i => renI a c (f i)) (renL a c l) := by
 unfold renL fam
 rw [List.map_append, List.map_map]
 congr 1
 refine List.map_congr_left fun i _ => ?_
 simp only [Function.comp, renP, Prod.mk.injEq, and_true]
 simp only [renN, if_neg (show ¬ b + i = a by omega)]
theorem renL_nil (a c : Nat) : renL a c [] = [] := rfl
theorem renL_cons (a c : Nat) (x : Pl × It) (l : List (Pl × It)) : renL a c (x :: l) = (renP a c x.1, renI a c x.2) :: renL a c l := rfl
theorem fam_ne {a i k : Nat} (h : k < a) : ¬ a + i = k := by omega
theorem ne_fam {a i k : Nat} (h : k < a) : ¬ k = a + i := by omega
theorem rowsOnly_rep (po : Nat → Prop) (n : Nat) (x : D) : rowsOnly po (List.replicate n [TV.d x]) = True := by
 simp only [rowsOnly, eq_iff_iff, iff_true]
 intro e he
 rw [List.eq_of_mem_replicate he]
 exact ⟨trivial, trivial⟩
theorem Sub.fam {t : S} (h1 : ∀ j, j < n → f j = t (.o (b + j))) (h2 : ∀ x ∈ l, look (Tr.fam b n f l) x.1 = t x.1) (h3 : ∀ j, j < n → (f j).only (· ∈ oIds (Tr.fam b n f l))) (h4 : ∀ x ∈ l, x.2.only (· ∈ oIds (Tr.fam b n f l))) : Sub t (Tr.fam b n f l) :=
 ⟨ball_fam.2 ⟨fun j hj => by rw [look_fam_in hj]; exact h1 j hj, h2⟩, ball_fam.2 ⟨h3, h4⟩⟩
attribute [simp] look_fam_s look_fam_x look_fam_o look_fam_o' look_fam_in put1_fam_s put1_fam_x put1_fam_o put1_fam_o' put1_fam_in ball_fam ball_fam2 oIds_fam xIds_fam keptL_fam
end Go.Tr

namespace Go.Proofs
open Go Go.Tr
def TapeF (T : Tp) : Prop := T.1.length ≤ 2000 ∧ ∀ x ∈ T.1, I64 x
@[simp] theorem gRaw_okF (T : Tp) : TapeF (gRaw T).2 = TapeF T := by simp [TapeF, gRaw_tape]
@[simp] theorem gNext_okF (T : Tp) (n : Int) : TapeF (gNext T n).2 = TapeF T := gRaw_okF T
@[simp] theorem gRange_okF (T : Tp) (a b : Int) : TapeF (gRange T a b).2 = TapeF T := gRaw_okF T
@[simp] theorem gPick_okF (T : Tp) (l : List Int) : TapeF (gPick T l).2 = TapeF T := gRaw_okF T
theorem tape_newF (L : List Int) (hL : ∀ x ∈ L, I64 x) : TapeF (L.take 2000, 0) := ⟨by simp; omega, fun x hx => hL x (List.mem_of_mem_take hx)⟩
theorem cutF_c (x n : Int) (hn : I64 n) : Contract Tryz.prog 65 [.d (.int .i64 x), .d (.int .i64 n)] [] (.d (.int .i64 (gCut x n))) [] [] := by
 refine contract_of Tryz.func65 rfl (fun E0 => ?_)
 refine awp.sound (g := .mk) (ow := []) (kp := (fun k => k==0||k==1||k==4||k==6||k==11)) ?_
 rw [Tryz.ntmps65]
 obtain ⟨h1, h2⟩ := hn
 simp -dsimp
 refine AIf.dec (fun h => ?_) (fun h => ?_)
 ·simp -dsimp
  refine Fin.of ?_
  simp [gCut, h]
 ·simp -dsimp
  refine ⟨by omega, AIf.dec (fun g => ?_) (fun g => ?_)⟩
  ·have := tmod_lt0 (by omega) g
   have := Int.emod_nonneg x (b := n) (by omega)
   have := Int.emod_lt_of_pos x (b := n) (by omega)
   simp -dsimp (disch := omega) [wrap_i64]
   refine Fin.of ?_
   simp [gCut, h]
   omega
  ·simp -dsimp
   refine Fin.of ?_
   simp [gCut, h]
   exact tmod_ge0 (by omega) g
theorem rawF_c (T : Tp) (hT : TapeF T) : Contract Tryz.prog 66 [.ptr (.x 0) 0] [tapeI T] (.d (.int .i64 (gRaw T).1)) [tapeI (gRaw T).2] [] := by
 obtain ⟨l, i⟩ := T
 have hi : l.length ≤ 2000 := hT.1
 refine contract_of Tryz.func66 rfl (fun E0 => ?_)
 refine awp.sound (g := .mk) (ow := []) (kp := (fun k => k==0||k==2||k==12)) ?_
 rw [Tryz.ntmps66]
 simp -dsimp [tapeI, ints]
 refine ⟨AIf.dec (fun h => ?_) (fun h => ?_), ⟨by kernel_rfl⟩⟩
 ·simp -dsimp
  refine Fin.of ?_
  simp [tapeI, ints, h, gRaw]
 ·have h1 : i < l.length := by omega
  simp -dsimp (disch := omega) [wrap_i64, List.getElem?_eq_getElem h1]
  refine ⟨h1, ?_, ⟨by kernel_rfl⟩⟩
  refine Fin.of ?_
  simp [tapeI, ints, gRaw, h, List.getElem?_eq_getElem h1]
theorem nextF_c (T : Tp) (hT : TapeF T) (n : Int) (hn : I64 n) : Contract Tryz.prog 15 [.ptr (.x 0) 0, .d (.int .i64 n)] [tapeI T] (.d (.int .i64 (gNext T n).1)) [tapeI (gNext T n).2] [] := by
 refine contract_of Tryz.func15 rfl (fun E0 => ?_)
 refine awp.sound (g := .mk) (ow := []) (kp := (fun k => k==0||k==1||k==4)) ?_
 rw [Tryz.ntmps15]
 simp -dsimp
 refine ACall.of (rawF_c T hT) [.x 0] 0 ?_
 simp -dsimp
 refine ACall.of (cutF_c (gRaw T).1 n hn) [] 0 ?_
 simp -dsimp
 refine Fin.of ?_
 simp [gNext]
theorem rangeF_c (T : Tp) (hT : TapeF T) (a b : Int) (_ha : I64 a) (hn : I64 (b - a)) (hn1 : I64 (b - a + 1)) (hb : I64 (gRange T a b).1) : Contract Tryz.prog 29 [.ptr (.x 0) 0, .d (.int .i64 a), .d (.int .i64 b)] [tapeI T] (.d (.int .i64 (gRange T a b).1)) [tapeI (gRange T a b).2] [] := by
 refine contract_of Tryz.func29 rfl (fun E0 => ?_)
 refine awp.sound (g := .mk) (ow := []) (kp := (fun k => k==0||k==1||k==2||k==6)) ?_
 rw [Tryz.ntmps29]
 simp -dsimp [wrap_i64 hn.1 hn.2, wrap_i64 hn1.1 hn1.2]
 refine ACall.of (nextF_c T hT (b - a + 1) hn1) [.x 0] 0 ?_
 have hb' : I64 (a + (gNext T (b - a + 1)).1) := hb
 simp -dsimp [wrap_i64 hb'.1 hb'.2]
 refine Fin.of ?_
 simp [gRange]
theorem pickF_c (T : Tp) (hT : TapeF T) (l : List Int) (hl : 0 < l.length) (hl2 : l.length < 1000) : Contract Tryz.prog 28 [.ptr (.x 0) 0, .d (ints l)] [tapeI T] (.d (.int .i64 (gPick T l).1)) [tapeI (gPick T l).2] [] := by
 refine contract_of Tryz.func28 rfl (fun E0 => ?_)
 refine awp.sound (g := .mk) (ow := []) (kp := (fun k => k==0||k==1||k==4)) ?_
 rw [Tryz.ntmps28]
 simp -dsimp [ints]
 refine ACall.of (nextF_c T hT l.length ⟨by omega, by omega⟩) [.x 0] 0 ?_
 have h1 := gNext_nonneg T l.length
 have h2 := gNext_lt T (n := l.length) (by omega)
 have h3 : (gNext T l.length).1.toNat < l.length := by omega
 simp -dsimp [List.getElem?_eq_getElem h3]
 refine ⟨by omega, by omega, ?_⟩
 refine Fin.of ?_
 simp [gPick, ints, List.getElem?_eq_getElem h3]
theorem newF_c (l : List Int) : Contract Tryz.prog 13 [.d (ints l)] [] (.ptr (.o 9) 0) [] [(9, tapeI (l.take 2000, 0))] := by
 have hm : minI IntKind.i64 l.length 2000 = .d (.int .i64 (min l.length 2000 : Nat)) := by simp [minI]; omega
 refine contract_of Tryz.func13 rfl (fun E0 => ?_)
 refine awp.sound (g := .mk) (ow := []) (kp := (fun k => k==0||k==2)) ?_
 rw [Tryz.ntmps13]
 simp -dsimp [ints, hm]
 refine ⟨by omega, ?_⟩
 refine Fin.of ?_
 simp [tapeI, ints]
 exact Nat.min_comm _ _
theorem intsF_c (a b : List Int) (hl : a.length ≤ 1000000) : Contract Tryz.prog 18 [.d (ints a), .d (ints b)] [] (.d (.bool (decide (a = b)))) [] [] := by
 refine contract_of Tryz.func18 rfl (fun E0 => ?_)
 refine awp.sound (g := .mk) (ow := []) (kp := (fun k => k==0||k==1||k==4||k==5||k==10||k==14||k==25)) ?_
 rw [Tryz.ntmps18]
 by_cases hlen : a.length = b.length
 ·simp -dsimp [ints, hlen]
  refine ALoop.of [] (fun k => k==0||k==1||k==4||k==5||k==10||k==14||k==25) (ι := { i : Nat // i ≤ a.length ∧ ∀ j, j < i → a[j]? = b[j]? }) (fun z => [(Pl.s 0, It.v (.d (ints a))), (Pl.s 1, It.v (.d (ints b))), (Pl.s 4, It.v (.d (.bool false))), (Pl.s 5, It.v (.d (.int .i64 z.1)))]) (fun z => a.length - z.1) ⟨0, by omega, fun j h => by omega⟩ ?_ ?_
  ·exact GS.to (by simp [ints])
  ·rintro ⟨i, i1, i2⟩
   by_cases hi : i < a.length
   ·have hi' : i < b.length := by omega
    by_cases h : a[i] = b[i]
    ·simp -dsimp [ints, hi, hi', h, wrap_i64 (n := (i : Int) + 1) (by omega) (by omega)]
     try refine ⟨?_, ⟨by kernel_rfl⟩⟩
     exact ⟨⟨i + 1, by omega, fun j hj => by
      by_cases e : j = i
      ·subst e; rw [List.getElem?_eq_getElem hi, List.getElem?_eq_getElem hi', h]
      ·exact i2 j (by omega)⟩, GS.to (by simp [ints]), by simp; omega⟩
    ·simp -dsimp [ints, hi, hi', h]
     try refine ⟨?_, ⟨by kernel_rfl⟩⟩
     refine Fin.of ?_
     have : a ≠ b := fun e => by subst e; exact h rfl
     simp [this]
   ·simp -dsimp [ints, hi]
    refine Fin.of ?_
    have : a = b := List.ext_getElem? fun j => by
     by_cases hj : j < i
     ·exact i2 j hj
     ·rw [List.getElem?_eq_none (by omega), List.getElem?_eq_none (by omega)]
    simp [this]
 ·have hlen' : ¬ (a.length : Int) = b.length := by omega
  simp -dsimp [ints, hlen, hlen']
  refine Fin.of ?_
  have : a ≠ b := fun e => hlen (by rw [e])
  simp [this]
theorem gOrderL_tape : ∀ (n i : Nat) (T : Tp) (l : List Int), (gOrderL n i T l).2.1 = T.1
 | 0, _, _, _ => rfl
 | n + 1, i, T, l => by rw [gOrderL, gOrderL_tape]; exact gRaw_tape T
@[simp] theorem gOrder_okF (T : Tp) (n : Int) : TapeF (gOrder T n).2 = TapeF T := by unfold gOrder TapeF; rw [gOrderL_tape]
theorem orderF_c (T : Tp) (hT : TapeF T) (n : Int) (hn : n ≤ 1000) : Contract Tryz.prog 70 [.ptr (.x 0) 0, .d (.int .i64 n)] [tapeI T] (.d (ints (gOrder T n).1)) [tapeI (gOrder T n).2] [] := by
 refine contract_of Tryz.func70 rfl (fun E0 => ?_)
 refine awp.sound (g := .mk) (ow := [20]) (kp := (fun k => k==0||k==1||k==4||k==5||k==6||k==7||k==8||k==11)) ?_
 rw [Tryz.ntmps70]
 simp -dsimp
 refine ALoop.of [20] (fun k => k==0||k==1||k==4||k==5||k==6||k==7||k==8||k==11) (ι := { i : Nat × Tp × List Int // TapeF i.2.1 ∧ i.2.2.length = i.1 ∧ (i.1 : Int) ≤ max n 0 ∧ gOrder T n = gOrderL (n.toNat - i.1) i.1 i.2.1 i.2.2 }) (fun i => [(Pl.s 0, It.v (.ptr (Pl.x 0) 0)), (Pl.s 1, It.v (.d (.int .i64 n))), (Pl.x 0, tapeI i.1.2.1), (Pl.s 4, It.v (.c (Value.slice none 0 0))), (Pl.s 5, It.v (.d (ints i.1.2.2))), (Pl.s 6, It.v (.d (.int .i64 i.1.1)))]) (fun i => n.toNat - i.1.1) ⟨(0, T, []), hT, rfl, by simp; omega, rfl⟩ ?_ ?_
 ·exact GS.viewS 5 (by simp [ints])
 ·rintro ⟨⟨i, T', out⟩, h1, h2, h3, h4⟩
  simp only at h1 h2 h3 h4
  simp -dsimp [ints]
  refine AIf.dec (fun h => ?_) (fun h => ?_)
  ·simp -dsimp [h2, wrap_i64 (n := (i : Int) + 1) (by omega) (by omega)]
   refine ACall.of (nextF_c T' h1 (i + 1) ⟨by omega, by omega⟩) [.x 0] 0 ?_
   have g1 := gNext_nonneg T' (i + 1)
   have g2 := gNext_lt T' (n := i + 1) (by omega)
   simp -dsimp [h2, wrap_i64 (n := (i : Int) + 1) (by omega) (by omega)]
   have dl : dLen 1 (out.map fun x => [D.int .i64 x]) := dLen_map 1 _ _ fun _ => rfl
   and_intros
   all_goals try first | omega | exact ⟨by kernel_rfl⟩ | exact dLen_take dl | exact dLen_drop (dLen_take dl) | (simp; omega)
   refine ⟨⟨(i + 1, (gNext T' (i + 1)).2, out.take (gNext T' (i + 1)).1.toNat ++ [(i : Int)] ++ out.drop (gNext T' (i + 1)).1.toNat), by simpa using h1, by simp; omega, by simp; omega, ?_⟩, GS.viewS 5 ?_, by simp; omega⟩
   ·rw [h4, show n.toNat - i = n.toNat - (i + 1) + 1 by omega]; rfl
   ·simp [ints]
    exact ⟨by omega, by rw [List.take_of_length_le (by simp; omega)]⟩
  ·simp -dsimp
   refine Fin.view 4 ?_
   simp -dsimp
   refine Fin.of ?_
   have : n.toNat - i = 0 := by omega
   simp [h4, this, gOrderL, ints]
theorem putF_c (l : List Int) (hl : l.length ≤ 1000000) (n : Int) : Contract Tryz.prog 149 [.d (ints l), .d (.int .i64 n)] [] (.d (ints (insI l n))) [] [] := by
 refine contract_of Tryz.func149 rfl (fun E0 => ?_)
 refine awp.sound (g := .mk) (ow := [35]) (kp := (fun k => k==0||k==1||k==4||k==5||k==6||k==18||k==32)) ?_
 rw [Tryz.ntmps149]
 simp -dsimp [ints]
 refine ALoop.of [] (fun k => k==0||k==1||k==4||k==5||k==6||k==18||k==32) (ι := { p : Nat // p ≤ l.length ∧ insPos n l = p + insPos n (l.drop p) }) (fun z => [(Pl.s 0, It.v (.d (ints l))), (Pl.s 1, It.v (.d (.int .i64 n))), (Pl.s 4, It.v (.c (Value.slice none 0 0))), (Pl.s 5, It.v (.d (.int .i64 z.1)))]) (fun z => l.length - z.1) ⟨0, by omega, by simp⟩ ?_ ?_
 ·exact GS.to (by simp [ints])
 ·rintro ⟨p, p1, p2⟩
  by_cases hp : p < l.length
  ·have hd : l.drop p = l[p] :: l.drop (p + 1) := List.drop_eq_getElem_cons _
   by_cases h : l[p] < n
   ·simp -dsimp [ints, hp, h, wrap_i64 (n := (p : Int) + 1) (by omega) (by omega)]
    try refine ⟨?_, ⟨by kernel_rfl⟩⟩
    exact ⟨⟨p + 1, by omega, by rw [p2, hd, insPos, if_pos h]; omega⟩, GS.to (by simp [ints]), by simp; omega⟩
   ·have hq : insPos n l = p := by rw [p2, hd, insPos, if_neg h]; omega
    by_cases he : l[p] = n
    ·simp -dsimp [ints, hp, h, he]
     try refine ⟨?_, ⟨by kernel_rfl⟩⟩
     refine Fin.of ?_
     have hI : insI l n = l := by rw [insI, if_pos (by rw [hq, List.getElem?_eq_getElem hp, he])]
     simp [hI]
    ·simp -dsimp [ints, hp, h, he]
     have dl : dLen 1 (l.map fun x => [D.int .i64 x]) := dLen_map 1 _ _ fun _ => rfl
     and_intros
     all_goals try first | omega | exact ⟨by kernel_rfl⟩ | exact dLen_take dl | exact dLen_drop (dLen_take dl) | (simp; omega)
     refine Fin.view 4 ?_
     simp -dsimp
     and_intros
     all_goals try first | omega | exact ⟨by kernel_rfl⟩ | (simp; omega)
     refine Fin.of ?_
     have hI : insI l n = l.take p ++ [n] ++ l.drop p := by rw [insI, hq, if_neg (by rw [List.getElem?_eq_getElem hp]; simpa using he)]
     simp [hI, ints, List.take_of_length_le]
  ·have hq : insPos n l = p := by rw [p2, List.drop_eq_nil_of_le (by omega), insPos]; omega
   simp -dsimp [ints, hp]
   have dl : dLen 1 (l.map fun x => [D.int .i64 x]) := dLen_map 1 _ _ fun _ => rfl
   and_intros
   all_goals try first | omega | exact ⟨by kernel_rfl⟩ | exact dLen_take dl | exact dLen_drop (dLen_take dl) | (simp; omega)
   refine Fin.view 4 ?_
   simp -dsimp
   and_intros
   all_goals try first | omega | exact ⟨by kernel_rfl⟩ | (simp; omega)
   refine Fin.of ?_
   have hI : insI l n = l.take p ++ [n] ++ l.drop p := by rw [insI, hq, if_neg (by rw [List.getElem?_eq_none (by omega)]; simp)]
   simp [hI, ints, List.take_of_length_le]
end Go.Proofs

set_option linter.unusedSectionVars false
namespace Go.Tr
open Go Go.Proofs Go.Shelf Go.Sort Go.Lib
abbrev KL (zs : List (List Int)) := { l : List Int // l ∈ zs }
def encKL (zs : List (List Int)) (x : KL zs) : List Value := x.1.map (Value.int .i64)
section
variable {zs : List (List Int)} [Inhabited (KL zs)] {k : Nat}
theorem encKL_len (hz : ∀ z ∈ zs, z.length = k) (x : KL zs) : (encKL zs x).length = k := by simp [encKL, hz x.1 x.2]
theorem flat_getK (hz : ∀ z ∈ zs, z.length = k) (hk : 0 < k) : ∀ {ys : List (KL zs)} {t : Nat}, t < ys.length * k → (flat (ys.map (·.1)))[t]? = some ((encKL zs ys[t / k]!)[t % k]!)
 | [], t, h => by simp at h
 | z :: ys, t, h => by
   have hz2 := hz z.1 z.2
   rw [List.map_cons, flat_cons]
   by_cases ht : t < k
   ·rw [List.getElem?_append_left (by simp [hz2]; exact ht), Nat.div_eq_of_lt ht, Nat.mod_eq_of_lt ht]
    have : t < (z.1.map (Value.int .i64)).length := by simp [hz2]; exact ht
    rw [List.getElem?_eq_getElem this]
    show _ = some ((encKL zs z)[t]!)
    rw [getElem!_pos (encKL zs z) t (by rw [encKL_len hz]; exact ht)]
    rfl
   ·obtain ⟨s, rfl⟩ : ∃ s, t = s + k := ⟨t - k, by omega⟩
    rw [List.getElem?_append_right (by simp [hz2])]
    rw [List.length_map, hz2, Nat.add_sub_cancel]
    have h2 : s < ys.length * k := by rw [List.length_cons, Nat.add_mul] at h; omega
    rw [flat_getK hz hk h2, Nat.add_div_right _ hk, Nat.add_mod_right]
    rfl
theorem flatK_eq (hz : ∀ z ∈ zs, z.length = k) (hk : 0 < k) (ys : List (KL zs)) : (flatK (encKL zs) k ys.toArray).toList = flat (ys.map (·.1)) := by
 apply List.ext_getElem?
 intro t
 have hl : (flat (ys.map (·.1))).length = ys.length * k := by
  rw [flat_len (k := k) fun z hz' => by obtain ⟨y, _, rfl⟩ := List.mem_map.1 hz'; exact hz y.1 y.2]; simp
 by_cases ht : t < ys.length * k
 ·rw [flat_getK hz hk ht]
  have h2 : t < (flatK (encKL zs) k ys.toArray).size := by simpa using ht
  have := get_flatK (encKL zs) k ys.toArray t (by simpa using ht)
  rw [getElem!_pos _ t h2] at this
  rw [Array.getElem?_toList, Array.getElem?_eq_getElem h2, this]
  simp
 ·rw [List.getElem?_eq_none (by simpa using ht), List.getElem?_eq_none (by omega)]
theorem holdsK_row (hz : ∀ z ∈ zs, z.length = k) (hk : 0 < k) {w : World} {b : Nat} {ys : List (KL zs)} {cur : Array Value} {e : TypeId} (h1 : w.heap[b]? = some (.cells cur e (0, 0))) (h2 : cur.toList.take (ys.length * k) = flat (ys.map (·.1))) : HoldsK (encKL zs) k w b 0 ys.toArray := fun j hj => by
 have hj' : j < ys.length * k := by simpa using hj
 have h3 : cur[j]? = some ((flatK (encKL zs) k ys.toArray)[j]!) := by
  have h4 : (cur.toList.take (ys.length * k))[j]? = some ((flatK (encKL zs) k ys.toArray)[j]!) := by
   rw [h2, ← flatK_eq hz hk ys, Array.getElem?_toList, Array.getElem?_eq_getElem hj, getElem!_pos _ j hj]
  rw [List.getElem?_take, if_pos hj'] at h4
  simpa using h4
 constructor
 ·simp [World.cell?, h1, h3]
 ·simp [World.frozen?, h1]
theorem rowK_put (hz : ∀ z ∈ zs, z.length = k) (hk : 0 < k) {w : World} {b : Nat} {ys : List (KL zs)} {cur : Array Value} {e : TypeId} (n : Nat) (os : Array Obj) (h1 : w.heap[b]? = some (.cells cur e (0, 0))) (hc : ys.length * k ≤ cur.size) :
  w.grownBy (sortWorldK (encKL zs) k w b 0 n ys.toArray os) (some b) ∧
   ∃ cur', (sortWorldK (encKL zs) k w b 0 n ys.toArray os).heap[b]? = some (.cells cur' e (0, 0)) ∧ cur'.size = cur.size ∧ cur'.toList.take (ys.length * k) = flat (ys.map (·.1)) := by
 have hg : b < w.heap.size := (Array.getElem?_eq_some_iff.1 h1).1
 have hsz : (putRowK (encKL zs) k (Sort.ahead w n) b 0 ys.toArray).heap.size = w.heap.size := by simp [Sort.ahead, putRowK]
 unfold sortWorldK
 refine ⟨⟨rfl, rfl, rfl, by rw [size_grow, hsz]; omega, fun j hj hne => ?_⟩, putCells id 0 (flatK (encKL zs) k ys.toArray) cur, ?_, by simp [putCells], ?_⟩
 ·rw [heap_grow_old _ _ (by rw [hsz]; exact hj)]
  have : ¬ b = j := fun e => hne (by rw [e])
  simp [putRowK, putRow, mapBlock, Sort.ahead, Array.getElem?_modify, this]
 ·rw [heap_grow_old _ _ (by rw [hsz]; exact hg)]
  simp [putRowK, putRow, mapBlock, Sort.ahead, Array.getElem?_modify, h1, onCells]
 ·rw [← flatK_eq hz hk ys]
  apply List.ext_getElem?
  intro i
  rw [List.getElem?_take]
  by_cases hi : i < ys.length * k
  ·rw [if_pos hi]
   have hi3 : i < cur.size := by omega
   have hi4 : i < (flatK (encKL zs) k ys.toArray).size := by simpa using hi
   simp only [putCells, Array.getElem?_toList, Array.getElem?_mapIdx]
   rw [Array.getElem?_eq_getElem hi3, Array.getElem?_eq_getElem hi4]
   simp [hi4, hi]
  ·rw [if_neg hi, List.getElem?_eq_none (by simpa using hi)]
end
theorem mkKL {zs : List (List Int)} : ∀ (xs : List (List Int)), (∀ z ∈ xs, z ∈ zs) → ∃ ys : List (KL zs), ys.map (·.1) = xs
 | [], _ => ⟨[], rfl⟩
 | z :: xs, h => by
   obtain ⟨ys, hy⟩ := mkKL xs fun y hy => h y (by simp [hy])
   exact ⟨⟨z, h z (by simp)⟩ :: ys, by simp [hy]⟩
structure Parts2 (cf : List Int → List Int → Int) (zs : List (List Int)) : Prop where
 irr : ∀ x ∈ zs, ¬ cf x x < 0
 tr : ∀ x ∈ zs, ∀ y ∈ zs, ∀ z ∈ zs, cf x y < 0 → cf y z < 0 → cf x z < 0
 ntr : ∀ x ∈ zs, ∀ y ∈ zs, ∀ z ∈ zs, ¬ cf x y < 0 → ¬ cf y z < 0 → ¬ cf x z < 0
 one : ∀ x ∈ zs, ∀ y ∈ zs, ¬ cf x y < 0 → ¬ cf y x < 0 → x = y
theorem SortC.of {P : Program} {ρ : Ren} (L : SlLaysF0.n6 P ρ) {k : Nat} (hk : 0 < k) (aE : ∀ w, (isAgg (ρ.t 24)).run P w = .ok true w) (zE : ∀ w, (Go.sizeOf (ρ.t 24)).run P w = .ok k w) (cf : List Int → List Int → Int) (g : Nat)
  (eg : ∀ args w, (callFunc g args).run P w = .ok (.enter g args) w)
  (hcmp : ∀ (x y : List Int) (W : World), x.length = k → y.length = k → Calls P g #[.agg (x.map (Value.int .i64)).toArray, .agg (y.map (Value.int .i64)).toArray] W fun e w' => e = .returned (.int .i64 (cf x y)) ∧ ∃ q os', w' = grow (W.drewN q) os') :
  SortC P (ρ.f 6) g k (Parts2 cf) (fun zs => zs.mergeSort fun x y => !decide (cf y x < 0)) := by
 refine ⟨fun zs => List.length_mergeSort _, fun zs h z hz => h z (List.mem_mergeSort.1 hz), fun w b cap zs cur e h1 h2 h3 h4 h5 h6 hp h7 h8 => ?_, fun p cap w => AnyF.slices_SortFunc_none L p cap _ w⟩
 obtain ⟨ys, hys⟩ := mkKL (zs := zs) zs fun _ h => h
 have hl : ys.length = zs.length := by
  have := congrArg List.length hys
  simpa using this
 have inh : Inhabited (KL zs) := ⟨⟨zs[0], List.getElem_mem h7⟩⟩
 have hO : SWO (ltOf fun x y : KL zs => cf x.1 y.1) :=
  ⟨fun x => by have := hp.irr x.1 x.2; simpa [ltOf] using this, fun x y z h1 h2 => by
   have := hp.tr x.1 x.2 y.1 y.2 z.1 z.2
   simp only [ltOf, decide_eq_true_eq] at h1 h2 ⊢
   exact this h1 h2, fun x y z h1 h2 => by
   have := hp.ntr x.1 x.2 y.1 y.2 z.1 z.2
   simp only [ltOf, decide_eq_false_iff_not] at h1 h2 ⊢
   exact this h1 h2⟩
 have hT : ∀ x y : KL zs, (ltOf fun x y : KL zs => cf x.1 y.1) x y = false → (ltOf fun x y : KL zs => cf x.1 y.1) y x = false → x = y := fun x y h1 h2 => by
  simp only [ltOf, decide_eq_false_iff_not] at h1 h2
  exact Subtype.ext (hp.one x.1 x.2 y.1 y.2 h1 h2)
 rw [← hl] at h2 h5 h7 h8 ⊢
 have h5' : cur.toList.take (ys.length * k) = flat (ys.map (·.1)) := by rw [h5, hys]
 have hcl : CmpLays P g #[] (encKL zs) k (fun x y => cf x.1 y.1) b 0 ys.toArray.size w := fun m os dk _ x y => by
  have := hcmp x.1 y.1 (sortWorldK (encKL zs) k w b 0 m dk os) (h6 _ x.2) (h6 _ y.2)
  simpa [encKL] using this
 have hs := AnyQ.slices_SortFunc_total L k aE zE (encKL zs) (encKL_len h6) (fun x v hv => by simp only [encKL, List.mem_map] at hv; obtain ⟨n, _, rfl⟩ := hv; rfl) (fun x y => cf x.1 y.1) hO g #[] b 0 cap ys.toArray w eg hcl (holdsK_row h6 hk h1 h5') (Array.getElem?_eq_some_iff.1 h1).1 (by simpa using h8) hT
 rw [show ys.toArray.size = ys.length from rfl] at hs
 refine hs.mono fun e' w' ⟨he, n, os, hw⟩ => ?_
 subst hw
 have hm : ((ys.toArray.toList.mergeSort fun x y => !(ltOf fun x y : KL zs => cf x.1 y.1) y x).map (·.1)) = zs.mergeSort fun x y => !decide (cf y x < 0) := by
  have := List.map_mergeSort (f := fun x : KL zs => x.1) (l := ys) (r := fun x y => !(ltOf fun x y : KL zs => cf x.1 y.1) y x) (s := fun x y => !decide (cf y x < 0)) fun a _ b _ => rfl
  rw [hys] at this
  exact this
 have hml : (ys.toArray.toList.mergeSort fun x y => !(ltOf fun x y : KL zs => cf x.1 y.1) y x).length = ys.length := List.length_mergeSort _
 obtain ⟨k1, cur', k2, k3, k4⟩ := rowK_put h6 hk (ys := ys.toArray.toList.mergeSort fun x y => !(ltOf fun x y : KL zs => cf x.1 y.1) y x) n os h1 (by rw [hml, h4]; exact Nat.mul_le_mul_right k h2)
 rw [hml, hm] at k4
 exact ⟨he, k1, cur', k2, by omega, k4⟩
end Go.Tr

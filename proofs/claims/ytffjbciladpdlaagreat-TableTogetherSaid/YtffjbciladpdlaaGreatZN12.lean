/-
  What functions of the program compute, stated as contracts over plain data; the conditions of each stand in its own statement.
-/
import Derived.Test.YtffjbciladpdlaaGreatZN11
set_option linter.unusedSimpArgs false
namespace Go.Tr
open Go
theorem AEff_some {N : Nat} {o : Oper} {gp : List Pl} {e : Eff} {k : List Pl → List (Pl × It) → Prop} {g : Tg k} : AEff N o gp (some e) k g = (dstOK N o = true ∧ e.C ∧ k (gp ++ e.rp) (dstW o e.v e.W)) := rfl
theorem AGv_some {N : Nat} {o : Oper} {gp : List Pl} {b : Bool} {X : List Pl → Prop} {k : List Pl → List (Pl × It) → Prop} {x : Tg X} {g : Tg k} : AGv N o (some (gp, b)) X k x g = AIf b (X gp) (dstOK N o = true ∧ k gp (dstW o (.c undef) [])) .mk .mk := rfl
theorem ACond_some {b : Bool} {X Y : Prop} {x : Tg X} {y : Tg Y} : ACond (some b) X Y x y = AIf b X Y .mk .mk := rfl
theorem look_nil (p : Pl) : look [] p = .none := rfl
theorem look_cons (q : Pl) (i : It) (l : List (Pl × It)) (p : Pl) : look ((q, i) :: l) p = if p = q then i else look l p := rfl
theorem keptL_nil (kp : Nat → Bool) : keptL kp [] = [] := rfl
theorem keptL_s (kp : Nat → Bool) (k : Nat) (i : It) (l : List (Pl × It)) : keptL kp ((.s k, i) :: l) = if kp k then (.s k, i) :: keptL kp l else keptL kp l := rfl
theorem keptL_o (kp : Nat → Bool) (k : Nat) (i : It) (l : List (Pl × It)) : keptL kp ((.o k, i) :: l) = (.o k, i) :: keptL kp l := rfl
theorem keptL_x (kp : Nat → Bool) (k : Nat) (i : It) (l : List (Pl × It)) : keptL kp ((.x k, i) :: l) = (.x k, i) :: keptL kp l := rfl
theorem thn_normal (K : S → Prop) (Q : Exit → S → Prop) (t : S) : thn K Q .normal t = K t := rfl
theorem thn_ret (K : S → Prop) (Q : Exit → S → Prop) (t : S) : thn K Q .ret t = Q .ret t := rfl
theorem thn_exit (K : S → Prop) (Q : Exit → S → Prop) (t : S) (n : Nat) : thn K Q (.exit n) t = Q (.exit n) t := rfl
theorem scpQ_ret (Q : Exit → S → Prop) (t : S) : scpQ Q .ret t = Q .ret t := rfl
theorem blkQ_normal (Q : Exit → S → Prop) (t : S) (b : Nat) : blkQ b Q .normal t = Q .normal t := rfl
theorem blkQ_ret (Q : Exit → S → Prop) (t : S) (b : Nat) : blkQ b Q .ret t = Q .ret t := rfl
theorem blkQ_exit (Q : Exit → S → Prop) (t : S) (b n : Nat) : blkQ b Q (.exit n) t = if n = b then Q .normal t else Q (.exit n) t := rfl
theorem AView_none {X : Prop} {Y : List Pl → List (Pl × It) → Prop} {x : Tg X} {y : Tg Y} : AView .none X Y x y = X := rfl
theorem AView_some {C : Prop} {rp : List Pl} {W : List (Pl × It)} {X : Prop} {Y : List Pl → List (Pl × It) → Prop} {x : Tg X} {y : Tg Y} : AView (.some C rp W) X Y x y = (C ∧ Y rp W) := rfl
theorem VR_C_none : VR.none.C = True := rfl
theorem VR_W_none : VR.none.W = [] := rfl
theorem VR_C_some (C : Prop) (rp : List Pl) (W : List (Pl × It)) : (VR.some C rp W).C = C := rfl
theorem VR_W_some (C : Prop) (rp : List Pl) (W : List (Pl × It)) : (VR.some C rp W).W = W := rfl
attribute [simp] AView_none AView_some VR_C_none VR_C_some VR_W_none VR_W_some viewL viewX viewsOf undef seeV seeVs eqT eqL u8s fillT
theorem AEnd_true {P : Program} {ops : Array Oper} {L : Log} {X : Prop} : AEnd P ops L X true = (X ∧ (P.follows .mixedOrders = true ∧ ADraw ops (shapes L []))) := rfl
theorem AEnd_false {P : Program} {ops : Array Oper} {L : Log} {X : Prop} : AEnd P ops L X false = X := rfl
theorem AOp_eq {P : Program} {A : Actv} {ow : List Nat} {ops : Array Oper} {o : Oper} {i : Nat} {t : S} {k : List Pl → List (Pl × It) → Prop} {g : Tg k} : AOp P A ow ops o i t k g =
  AGv A.N o (gv ops t o) (fun gp => AView (viewL t (viewsOf ow o.op)) (AIf (isGo o.op) (AIf (isOC ow o.op) (ANon P A ops i t k .mk) (ACall P A ops i t k .mk) .mk .mk) (AIf (isNx o.op) (ANon P A ops i t k .mk) (AEff A.N o gp (eff P ow t o) k .mk) .mk .mk) .mk .mk)
  (fun rp0 W0 => AIf (isGo o.op) (ACall P A ops i (over t W0) (fun rp W => k (rp0 ++ rp) (W ++ W0)) .mk)
  (AEff A.N o gp (eff P ow (over t W0) o) (fun rp W => k (rp0 ++ rp) (W ++ W0)) .mk) .mk .mk) .mk .mk) k .mk .mk := rfl
attribute [simp] and_assoc List.getElem?_cons_zero List.getElem?_cons_succ AEnd_true AEnd_false shapes AEff_some AGv_some ACond_some AIf_true AIf_false awp AOps AOp_eq gv isGo isNx isOC noNx ANoN_true ANoN_false eff ev pl look_nil look_cons put1 upd_look over dstW dstOK condB thn_normal thn_ret thn_exit blkQ_normal blkQ_ret blkQ_exit scpQ_ret kept_look keptL_nil keptL_s keptL_o keptL_x entL xL gev globs effPick effBin binD binI binS isShift binStr effUn unD effConv effNil effFieldAddr effField effIndexAddr effIndex effExtract cellsOf effLoad effStore effLen srcOf effAppend effAlloc effBox effBuild effBuildSlice effSlice effSlice3 effMinMax effCall effMakeMap effLookup effMapUpdate effInsert effMapEntry effEntryStore effEntry effDelete kget kput lkK keyTV toKey toKs effMakeSlice lkV mget mput effFunc TV.cells TV.one setAt partT ofVal ofCell zcells plO cutB asInt?
set_option linter.unusedVariables false
def AFin (P : Program) (fn : Func) (r : TV) (xs : List It) (ro : List (Nat × It)) (l : List (Pl × It)) : Option (Prop × TV) → Prop
 | some (C, r') => C ∧ r' = r ∧ r.only (· ∈ oIds (oL ro)) ∧ Sub (look l) (xL xs 0 ++ oL ro) ∧ xIds (xL xs 0 ++ oL ro) = xIds l ∧ oIds (xL xs 0 ++ oL ro) = oIds (oL ro)
 | none => False
theorem Fin.of {P : Program} {A : Actv} {fn : Func} {r : TV} {xs : List It} {ro : List (Nat × It)} {l : List (Pl × It)} (h : AFin P fn r xs ro l (resT P (look l) fn.results.toList)) : Fin P A fn r xs ro (look l) := by
 unfold AFin at h
 split at h
 ·rename_i C r' hr
  obtain ⟨h1, rfl, h2, h3, h4, h5⟩ := h
  exact Fin.done hr h1 h2 h3 h4 h5
 ·exact h.elim
theorem fin_ret {P : Program} {A : Actv} {fn : Func} {r : TV} {xs : List It} {ro : List (Nat × It)} {t : S} : fin P A fn r xs ro .ret t = Fin P A fn r xs ro t := rfl
theorem fin_normal {P : Program} {A : Actv} {fn : Func} {r : TV} {xs : List It} {ro : List (Nat × It)} {t : S} : fin P A fn r xs ro .normal t = Fin P A fn r xs ro t := rfl
attribute [simp] fin_ret fin_normal AFin resT resVs resV Sub oIds xIds oL TV.only TV.onlys
theorem AIf.dec {p : Prop} [Decidable p] {X Y : Prop} {x : Tg X} {y : Tg Y} (h : p → X) (g : ¬ p → Y) : AIf (decide p) X Y x y := ⟨fun e => h (by simpa using e), fun e => g (by simpa using e)⟩
theorem wrap_i64 {n : Int} (h1 : -9223372036854775808 ≤ n) (h2 : n ≤ 9223372036854775807) : IntKind.i64.wrap n = n := by
 simp only [IntKind.wrap, show IntKind.i64.bits = 64 from rfl, show IntKind.i64.signed = true from rfl, Bool.true_and]
 simp
 split <;> omega
theorem wrap_u64 {n : Int} (h1 : 0 ≤ n) (h2 : n ≤ 18446744073709551615) : IntKind.u64.wrap n = n := by
 simp only [IntKind.wrap, show IntKind.u64.bits = 64 from rfl, show IntKind.u64.signed = false from rfl, Bool.false_and]
 simp
 omega
def I64 (n : Int) : Prop := -9223372036854775808 ≤ n ∧ n ≤ 9223372036854775807
theorem beqI (a b : Int) : (a == b) = decide (a = b) := by by_cases h : a = b <;> simp [h]
theorem bneI (a b : Int) : (a != b) = !decide (a = b) := by by_cases h : a = b <;> simp [h]
def wu (n : Int) : BitVec 64 := BitVec.ofInt 64 n
def tn (B : BitVec 64) : Int := (B.toNat : Int)
attribute [simp] beqI bneI
def rowsLen (k : Nat) (ys : List (List TV)) : Prop := ∀ e ∈ ys, e.length = k
theorem rowsLen_nil (k : Nat) : rowsLen k [] = True := by simp [rowsLen]
theorem rowsLen_cons (k : Nat) (e : List TV) (es : List (List TV)) : rowsLen k (e :: es) = (e.length = k ∧ rowsLen k es) := by simp [rowsLen]
theorem rowsLen_app (k : Nat) (a b : List (List TV)) : rowsLen k (a ++ b) = (rowsLen k a ∧ rowsLen k b) := by
 simp only [rowsLen, List.mem_append, eq_iff_iff]
 exact ⟨fun h => ⟨fun e he => h e (.inl he), fun e he => h e (.inr he)⟩, fun h e he => he.elim (h.1 e) (h.2 e)⟩
theorem rowsLen_dd (k : Nat) (ys : List (List D)) : rowsLen k (dd ys) = dLen k ys := by simp [rowsLen, dLen, dd]
theorem dLen_map {α : Type} (k : Nat) (f : α → List D) (l : List α) (h : ∀ x, (f x).length = k) : dLen k (l.map f) := by
 intro e he
 obtain ⟨x, _, rfl⟩ := List.mem_map.1 he
 exact h x
theorem dLen_take {k n : Nat} {l : List (List D)} (h : dLen k l) : dLen k (l.take n) := fun e he => h e (List.mem_of_mem_take he)
theorem dLen_drop {k n : Nat} {l : List (List D)} (h : dLen k l) : dLen k (l.drop n) := fun e he => h e (List.mem_of_mem_drop he)
attribute [simp] rowsLen_nil rowsLen_cons rowsLen_app rowsLen_dd
theorem appOK_eq (k b n : Nat) (ys : List (List TV)) : appOK k b n ys = (rowsLen k ys ∧ (n + ys.length) * b ≤ 140737488355328 ∧ n + ys.length ≤ 9223372036854775807) := rfl
attribute [simp] appOK_eq Value.oneCell'
theorem toDs_map : ∀ l : List D, toDs (l.map .d) = some l
 | [] => rfl
 | x :: l => by simp only [List.map_cons, toDs, toDs_map l]; rfl
@[simp] theorem toDss_dd : ∀ l : List (List D), toDss (dd l) = some l
 | [] => rfl
 | x :: l => by
   have := toDss_dd l
   simp only [dd] at this
   simp only [dd, List.map_cons, toDss, toDs_map, this]
@[simp] theorem toDss_append : ∀ a b : List (List TV), toDss (a ++ b) = match toDss a, toDss b with
  | some x, some y => some (x ++ y)
  | _, _ => none
 | [], b => by cases h : toDss b <;> simp [toDss, h]
 | e :: a, b => by
   simp only [List.cons_append, toDss, toDss_append a b]
   cases toDs e <;> cases toDss a <;> cases toDss b <;> rfl
@[simp] theorem dd_length (l : List (List D)) : (dd l).length = l.length := by simp [dd]
@[simp] theorem dd_nil : dd [] = [] := rfl
theorem dd_cons (e : List D) (b : List (List D)) : dd (e :: b) = e.map .d :: dd b := rfl
@[simp] theorem dd_append (a b : List (List D)) : dd (a ++ b) = dd a ++ dd b := by simp [dd]
section
variable {P : Program} {A : Actv} {ops : Array Oper}
def callW (P : Program) (N : Nat) (t : S) (o : Oper) (f : FuncId) (cargs : List TV) (cxs : List It) (r : TV) (cxs' : List It) (ro : List (Nat × It)) (ν : List Pl) (b : Nat) (gp : List Pl) (g : Bool) : Option (Prop × List Pl × List (Pl × It)) :=
 match o.op with
 | .call { callee := .value fo, args := xs, argTypes := _ } =>
   match ev t fo with
   | .clo f' caps =>
     match passIs t ν ν, TV.passs t ν (xs.toList.map (ev t) ++ caps) with
     | some c0, some a0 =>
       some (g = true ∧ dstOK N o = true ∧ f' = f ∧ fnOK P f = true ∧ ν.Nodup ∧ (∀ p ∈ ν, isPl p = true) ∧ a0 = cargs ∧ TV.passCs t (xs.toList.map (ev t) ++ caps) ∧ c0 = cxs ∧ (∀ p ∈ ν, passCI t (t p)) ∧
        cxs'.length = ν.length ∧ (∀ x ∈ cxs', isBox x = true) ∧ (∀ x ∈ ro, isObj x.2 = true) ∧ (∀ x ∈ ro, t (.o (b + x.1)) = .none),
        gp ++ (pl fo ++ (xs.toList.flatMap pl ++ (ν ++ ((TV.rowss (xs.toList.map (ev t) ++ caps) ++ ν.flatMap (fun p => rowsI (t p))).map .o ++ ro.map fun x => .o (b + x.1))))),
        dstW o (r.back ν b) (wx ν b ν cxs' ++ wo ν b ro))
     | _, _ => none
   | _ => none
 | _ => none
def AGo (k : List Pl → List (Pl × It) → Prop) (_ : Tg k) : Option (Prop × List Pl × List (Pl × It)) → Prop
 | some (C, rp, W) => C ∧ k rp W
 | none => False
def callO (P : Program) (N : Nat) (t : S) (ops : Array Oper) (f : FuncId) (cargs : List TV) (cxs : List It) (r : TV) (cxs' : List It) (ro : List (Nat × It)) (ν : List Pl) (b : Nat) : Option Oper → Option (Prop × List Pl × List (Pl × It))
 | some o => match gv ops t o with
   | some (gp, g) => callW P N t o f cargs cxs r cxs' ro ν b gp g
   | none => none
 | none => none
theorem ACall.of {i : Nat} {t : S} {k : List Pl → List (Pl × It) → Prop} {g : Tg k} {f : FuncId} {cargs : List TV} {cxs cxs' : List It} {r : TV} {ro : List (Nat × It)} (C : Contract P f cargs cxs r cxs' ro) (ν : List Pl) (b : Nat)
  (h : AGo k g (callO P A.N t ops f cargs cxs r cxs' ro ν b ops[i]?)) : ACall P A ops i t k g := by
 unfold AGo at h
 split at h
 ·rename_i D rp W hc
  obtain ⟨h1, h2⟩ := h
  refine ⟨rp, W, ?_, h2⟩
  unfold callO at hc
  split at hc
  ·rename_i o ho
   split at hc
   ·rename_i gp g0 hg
    unfold callW at hc
    split at hc
    ·rename_i fo xs tys hop
     split at hc
     ·rename_i f' caps hf
      split at hc
      ·rename_i c0 a0 hI hp
       simp only [Option.some.injEq, Prod.mk.injEq] at hc
       obtain ⟨rfl, rfl, rfl⟩ := hc
       obtain ⟨rfl, q1, rfl, q2, q3, q4, rfl, q5, rfl, q6, q7, q8, q9, q10⟩ := h1
       exact Sum.call (xs := xs.toList) ho hg q1 (by simpa using hop) hf q2 C ν b q3 q4 hp q5 hI q6 q7 q8 q9 q10
      ·simp at hc
     ·simp at hc
    ·simp at hc
   ·simp at hc
  ·simp at hc
 ·exact h.elim
end
theorem AGo_some {k : List Pl → List (Pl × It) → Prop} {g : Tg k} {C : Prop} {rp : List Pl} {W : List (Pl × It)} : AGo k g (some (C, rp, W)) = (C ∧ k rp W) := rfl
structure ANext {ι : Type} (A : Actv) (st : ι → List (Pl × It)) (μ : ι → Nat) (n : Nat) (_g : Tg st) (_f : Tg μ) (t : S) : Prop where
 ex : ∃ j, GS A t (look (st j)) ∧ μ j < n
theorem ALoop.of {P : Program} {A : Actv} {ι : Type} {c : Code} {Q : Exit → S → Prop} {g : Tg Q} {t : S} (ow : List Nat) (kp : Nat → Bool) (st : ι → List (Pl × It)) (μ : ι → Nat) (i0 : ι) (h0 : GS A t (look (st i0)))
  (round : ∀ i, awp P A ow kp c (thn (ANext A st μ (μ i) .mk .mk) Q) .mk (look (st i))) : ALoop P A c Q g t :=
 ⟨AW.loop (fun i => look (st i)) μ i0 h0 fun i => (awp.sound (round i)).mono fun e t h => by cases e <;> first | exact h.ex | exact h⟩
theorem GS.own' {A : Actv} {l l' : List (Pl × It)} {k : Nat} (e z : Nat) (hk : look l (.s k) = .v (.c (.slice none 0 0))) (ho : look l (.o k) = .none)
  (h : Sub (look (put1 (.s k) (.v (.oref k 0)) (put1 (.o k) (.row e z [] false) l))) l' ∧ xIds l' = xIds (put1 (.s k) (.v (.oref k 0)) (put1 (.o k) (.row e z [] false) l))) : GS A (look l) (look l') := by
 have := GS.own (A := A) e z hk ho
 rw [upd_look, upd_look] at this
 exact this.trans (GS.forget h.1 h.2)
def overL : List (Pl × It) → List (Pl × It) → List (Pl × It)
 | [], l => l
 | (p, i) :: W, l => put1 p i (overL W l)
theorem over_look : ∀ (W l : List (Pl × It)), over (look l) W = look (overL W l)
 | [], _ => rfl
 | (p, i) :: W, l => by simp only [over, overL, over_look W l, upd_look]
theorem GS.viewS {A : Actv} {l l' : List (Pl × It)} (s : Nat) (h : (viewX (look l) (.tmp s)).C ∧ Sub (look (overL (viewX (look l) (.tmp s)).W l)) l' ∧ xIds l' = xIds (overL (viewX (look l) (.tmp s)).W l)) : GS A (look l) (look l') :=
 fun a w hi => by
  have := viewX_ok h.1 (fun _ _ => rfl) hi
  rw [over_look] at this
  exact GS.forget h.2.1 h.2.2 a w this
attribute [simp] overL
theorem GS.to {A : Actv} {l l' : List (Pl × It)} (h : Sub (look l) l' ∧ xIds l' = xIds l) : GS A (look l) (look l') := GS.forget h.1 h.2
def rowsOnly (po : Nat → Prop) (es : List (List TV)) : Prop := ∀ e ∈ es, TV.onlys po e
theorem rowsOnly_nil (po : Nat → Prop) : rowsOnly po [] = True := by simp [rowsOnly]
theorem rowsOnly_cons (po : Nat → Prop) (e : List TV) (es : List (List TV)) : rowsOnly po (e :: es) = (TV.onlys po e ∧ rowsOnly po es) := by simp [rowsOnly]
theorem rowsOnly_app (po : Nat → Prop) (a b : List (List TV)) : rowsOnly po (a ++ b) = (rowsOnly po a ∧ rowsOnly po b) := by
 simp only [rowsOnly, List.mem_append, eq_iff_iff]
 exact ⟨fun h => ⟨fun e he => h e (.inl he), fun e he => h e (.inr he)⟩, fun h e he => he.elim (h.1 e) (h.2 e)⟩
theorem onlys_d (po : Nat → Prop) : ∀ l : List D, TV.onlys po (l.map .d) = True
 | [] => by simp [TV.onlys]
 | x :: l => by simp only [List.map_cons, TV.onlys, TV.only, onlys_d po l, and_self]
theorem rowsOnly_dd (po : Nat → Prop) (xs : List (List D)) : rowsOnly po (dd xs) = True := by
 simp only [rowsOnly, dd, List.mem_map, eq_iff_iff, iff_true]
 rintro e ⟨x, _, rfl⟩
 rw [onlys_d]; trivial
attribute [simp] rowsOnly_nil rowsOnly_cons rowsOnly_app rowsOnly_dd onlys_d dd_cons
section
variable (t : S) (ν : List Pl) (b : Nat) (po : Nat → Prop) (cs : List TV) (e k : Nat) (es : List (List TV)) (sh : Bool)
theorem passI_box : passI t ν (.box cs) = match TV.passs t ν cs with | some cs => some (.box cs) | none => none := rfl
theorem passCI_box : passCI t (.box cs) = TV.passCs t cs := rfl
theorem rowsI_box : rowsI (.box cs) = TV.rowss cs := rfl
theorem backI_box : backI ν b (.box cs) = .box (TV.backs ν b cs) := rfl
theorem backI_row : backI ν b (.row e k es sh) = .row e k (es.map (TV.backs ν b)) sh := rfl
theorem isBox_box : isBox (.box cs) = true := rfl
theorem isObj_row : isObj (.row e k es sh) = true := rfl
theorem Fin.view {P : Program} {A : Actv} {fn : Func} {r : TV} {xs : List It} {ro : List (Nat × It)} {l : List (Pl × It)} (s : Nat) (h : (viewX (look l) (.tmp s)).C ∧ Fin P A fn r xs ro (over (look l) (viewX (look l) (.tmp s)).W)) : Fin P A fn r xs ro (look l) :=
 fun a w hi => h.2 a w (viewX_ok h.1 (fun _ _ => rfl) hi)
theorem seqParts_eq (ps : List (Nat × Operand)) (n : Nat) : seqParts ps n = (ps.map (·.1) == List.range' 0 n) := by rw [seqParts, List.range_eq_range']
theorem toD_d (x : D) : toD (.d x) = some x := rfl
theorem only_v (v : TV) : It.only po (.v v) = v.only po := rfl
theorem only_box : It.only po (.box cs) = TV.onlys po cs := rfl
theorem only_row : It.only po (.row e k es sh) = rowsOnly po es := rfl
end
attribute [simp] toD_d passI_box passCI_box rowsI_box backI_box backI_row isBox_box isObj_row only_v only_box only_row
attribute [simp] seqParts_eq List.range'_succ AGo_some callO callW TV.pass TV.passs TV.passC TV.passCs TV.rows TV.rowss TV.back TV.backs passIs idxP isPl wx wo toDss toDs
end Go.Tr

namespace Go.Tr
open Go
section
variable {A : Actv}
theorem InvE.boxCell {t : S} {a : Act} {E : En} {p : Pl} {cs : List TV} {j : Nat} {c c' : TV} (hi : InvE A t a E) (hs : ∀ k, p ≠ .s k) (hp : t p = .box cs) (hj : cs[j]? = some c) (hrel : ∀ u, RelV E c u → RelV E c' u) :
  InvE A (upd t p (.box (cs.set j c'))) a E := by
 refine ⟨⟨fun q hq => ?_, hi.h.frees, hi.h.inj, hi.h.size, hi.h.stsz, fun b o h1 q h2 => ?_, hi.h.gl⟩, hi.fr, fun k tv hk => ?_, hi.defers, hi.size⟩
 ·by_cases e : q = p
  ·subst e
   have h := hi.h.item q hq
   rw [hp] at h
   simp only [upd, if_true]
   obtain ⟨h1, b, ty, us, h2, h3, h4, h5⟩ := h
   refine ⟨h1, b, ty, us, h2, h3, by simpa using h4, CellsRel.of_get fun i x hx => ?_⟩
   by_cases ei : i = j
   ·subst ei
    have hlt : i < cs.length := (List.getElem?_eq_some_iff.1 hj).1
    rw [List.getElem?_set_self hlt] at hx
    simp only [Option.some.injEq] at hx; subst hx
    obtain ⟨u, g1, g2, g3⟩ := h5.get hj
    exact ⟨u, g1, g2, hrel u g3⟩
   ·rw [List.getElem?_set_ne (fun h => ei h.symm)] at hx
    exact h5.get hx
  ·simp only [upd, if_neg e]; exact hi.h.item q hq
 ·obtain ⟨e, k, es, h3, h4⟩ := hi.h.sep b o h1 q h2
  refine ⟨e, k, es, ?_, h4⟩
  have : q ≠ p := fun e => by subst e; rw [hp] at h3; simp at h3
  simp only [upd, if_neg this]; exact h3
 ·have : Pl.s k ≠ p := fun e => hs k e.symm
  simp only [upd, if_neg this] at hk
  exact hi.sl k tv hk
theorem GS.ownB {t : S} {p : Pl} {cs : List TV} {j id : Nat} (e z : Nat) (hs : ∀ k, p ≠ .s k) (hp : t p = .box cs) (hj : cs[j]? = some (.c (.slice none 0 0))) (ho : t (.o id) = .none) :
  GS A t (upd (upd t (.o id) (.row e z [] false)) p (.box (cs.set j (.oref id 0)))) := fun a w ⟨E, hw, hi⟩ => by
 obtain ⟨E', hw', x, hi', hv⟩ := hi.newRow ho e z
 have hne : p ≠ .o id := fun e => by subst e; rw [hp] at ho; simp at ho
 refine ⟨E', hw'.trans hw, hi'.boxCell hs (cs := cs) (by simp only [upd, if_neg hne]; exact hp) hj fun u hu => ?_⟩
 simp only [RelV] at hu ⊢
 exact ⟨by rw [hu]; rfl, z, 0, _, hv, Nat.le_refl _, fun _ => hu⟩
theorem GS.ownB' {l l' : List (Pl × It)} (p : Pl) (j id : Nat) {cs : List TV} (e z : Nat) (hs : isPl p = true) (hp : look l p = .box cs) (hj : cs[j]? = some (.c (.slice none 0 0))) (ho : look l (.o id) = .none)
  (h : Sub (look (put1 p (.box (cs.set j (.oref id 0))) (put1 (.o id) (.row e z [] false) l))) l' ∧ xIds l' = xIds (put1 p (.box (cs.set j (.oref id 0))) (put1 (.o id) (.row e z [] false) l))) : GS A (look l) (look l') := by
 have := GS.ownB (A := A) (id := id) e z (fun k e => by subst e; simp [isPl] at hs) hp hj ho
 rw [upd_look, upd_look] at this
 exact this.trans (GS.forget h.1 h.2)
end
end Go.Tr

namespace Go.Tr
open Go
def inE (w : World) : En := { w := w, St := fun b _ => b < w.heap.size, blk := fun _ => none, val := fun _ => none }
def GlobW (w : World) : Prop := ∀ y ∈ globs, RepCells (inE w) y.1 0 y.2
theorem inE_inv (w : World) (hg : GlobW w) : HInv (inE w) (xlook []) := by
 refine ⟨fun p hp => ?_, fun _ => rfl, fun p q b h => ?_, fun p b h => ?_, fun b o h => h, fun b o h p g => ?_, hg⟩
 ·have : xlook [] p = .none := by cases p <;> simp [xlook]
  rw [this]
  exact fun id _ => ⟨rfl, rfl⟩
 ·cases p <;> simp [En.own, inE] at h
 ·cases p <;> simp [En.own, inE] at h
 ·cases p <;> simp [En.own, inE] at g
theorem Contract.law {P : Program} {f : FuncId} {args : List TV} {r : TV} {ro : List (Nat × It)} (c : Contract P f args [] r [] ro) {w : World} (hg : GlobW w) {us : List Value} (h : RelVs (inE w) args us) :
  Calls P f us.toArray w fun e w' => ∃ u E', e = .returned u ∧ RelV E' r u ∧ RowKit.Below w.heap.size w w' := by
 refine (c (inE w) us (inE_inv w hg) h).mono fun e w' ⟨u, E', he, hw, hp⟩ => ⟨u, E', he, hp.rel, ?_⟩
 subst hw
 exact ⟨hp.fr.os, hp.fr.tape, hp.fr.output, hp.fr.size, fun k hk => hp.fr.old k hk (fun i => by simp [inE]) (fun i => by simp [En.own, inE])⟩
section
variable {A : Actv}
theorem CellsRel.vs {E : En} {us : List Value} : ∀ {ts : List TV} {o : Nat}, CellsRel E us o ts → RelVs E ts ((us.drop o).take ts.length) ∧ (∀ i, o ≤ i → i < o + ts.length → ∃ u, us[i]? = some u ∧ u.oneCell' = true)
 | [], o, _ => ⟨by simp [RelVs], fun i h1 h2 => by simp at h2; omega⟩
 | t :: ts, o, ⟨⟨u, h1, h2, h3⟩, r⟩ => by
   obtain ⟨g1, g2⟩ := CellsRel.vs r
   have hlt : o < us.length := (List.getElem?_eq_some_iff.1 h1).1
   have hu : us[o] = u := by rw [List.getElem?_eq_getElem hlt] at h1; simpa using h1
   refine ⟨?_, fun i i1 i2 => ?_⟩
   ·rw [List.drop_eq_getElem_cons hlt, List.length_cons, List.take_succ_cons, hu]
    simp only [RelVs]
    exact ⟨u, _, rfl, h3, g1⟩
   ·by_cases e : i = o
    ·subst e; exact ⟨u, h1, h2⟩
    ·exact g2 i (by omega) (by simp at i2; omega)
theorem RelVs.len {E : En} : ∀ {ts : List TV} {us : List Value}, RelVs E ts us → us.length = ts.length
 | [], us, h => by simp only [RelVs] at h; subst h; rfl
 | t :: ts, us, h => by
   simp only [RelVs] at h
   obtain ⟨u, us', rfl, _, g⟩ := h
   simp [RelVs.len g]
theorem RelVs.cellsB {E : En} {us : List Value} : ∀ {ts : List TV} {o : Nat}, o + ts.length ≤ us.length → RelVs E ts ((us.drop o).take ts.length) → (∀ i, o ≤ i → i < o + ts.length → ∃ u, us[i]? = some u ∧ u.oneCell' = true) → CellsRel E us o ts
 | [], _, _, _, _ => trivial
 | t :: ts, o, hl, h, h1 => by
   have hlt : o < us.length := by simp at hl; omega
   rw [List.drop_eq_getElem_cons hlt, List.length_cons, List.take_succ_cons] at h
   simp only [RelVs] at h
   obtain ⟨u, us', he, g1, g2⟩ := h
   simp only [List.cons.injEq] at he
   obtain ⟨rfl, rfl⟩ := he
   refine ⟨⟨us[o], List.getElem?_eq_getElem hlt, ?_, g1⟩, RelVs.cellsB (by simp at hl; omega) g2 fun i i1 i2 => h1 i (by omega) (by simp; omega)⟩
   obtain ⟨u, e1, e2⟩ := h1 o (by omega) (by simp)
   rw [List.getElem?_eq_getElem hlt] at e1
   simp only [Option.some.injEq] at e1
   rw [e1]; exact e2
theorem InvE.boxAll {t : S} {a : Act} {E : En} {p : Pl} {cs cs' : List TV} (hi : InvE A t a E) (hs : ∀ k, p ≠ .s k) (hp : t p = .box cs)
  (hrel : ∀ (b : Nat) (ty : TypeId) (us : Array Value), E.blk p = some b → E.w.heap[b]? = some (.cells us ty (0, 0)) → us.size = cs.length → RelVs E cs' us.toList) :
  InvE A (upd t p (.box cs')) a E := by
 refine ⟨⟨fun q hq => ?_, hi.h.frees, hi.h.inj, hi.h.size, hi.h.stsz, fun b o h1 q h2 => ?_, hi.h.gl⟩, hi.fr, fun k tv hk => ?_, hi.defers, hi.size⟩
 ·by_cases e : q = p
  ·subst e
   have h := hi.h.item q hq
   rw [hp] at h
   simp only [upd, if_true]
   obtain ⟨h1, b, ty, us, h2, h3, h4, h5⟩ := h
   obtain ⟨g1, g2⟩ := h5.vs
   have g3 := hrel b ty us h2 h3 h4
   have hl := g3.len
   rw [Array.length_toList] at hl
   refine ⟨h1, b, ty, us, h2, h3, hl, RelVs.cellsB (by simp; omega) ?_ fun i i1 i2 => g2 i i1 (by omega)⟩
   rw [List.drop_zero, List.take_of_length_le (by simp; omega)]
   exact g3
  ·simp only [upd, if_neg e]; exact hi.h.item q hq
 ·obtain ⟨e, k, es, h3, h4⟩ := hi.h.sep b o h1 q h2
  refine ⟨e, k, es, ?_, h4⟩
  have : q ≠ p := fun e => by subst e; rw [hp] at h3; simp at h3
  simp only [upd, if_neg this]; exact h3
 ·have : Pl.s k ≠ p := fun e => hs k e.symm
  simp only [upd, if_neg this] at hk
  exact hi.sl k tv hk
def boxV (t : S) (p : Pl) : VR :=
 match t p with
 | .box cs => match seeVs t cs with
   | some (C, rp, vs', W) => .some C (p :: rp) ((p, .box vs') :: W)
   | none => .none
 | _ => .none
theorem seeV_W {t : S} {c c' : TV} {C : Prop} {rp : List Pl} {W : List (Pl × It)} (h : seeV t c = some (C, rp, c', W)) : ∀ p ∈ W.map (·.1), ∃ e k es sh, t p = .row e k es sh := by
 unfold seeV at h
 split at h
 ·split at h
  ·rename_i ht
   split at h
   ·simp only [Option.some.injEq, Prod.mk.injEq] at h
    obtain ⟨rfl, rfl, rfl, rfl⟩ := h
    intro p hp
    simp at hp; subst hp
    exact ⟨_, _, _, _, ht⟩
   ·simp at h
  ·simp at h
 ·simp only [Option.some.injEq, Prod.mk.injEq] at h
  obtain ⟨rfl, rfl, rfl, rfl⟩ := h
  simp
 ·simp at h
theorem seeV_R {t : S} {c c' : TV} {C : Prop} {rp : List Pl} {W : List (Pl × It)} (h : seeV t c = some (C, rp, c', W)) : ∀ x ∈ W, ∃ e k es sh, x.2 = .row e k es sh := by
 unfold seeV at h
 split at h
 ·split at h
  ·split at h
   ·simp only [Option.some.injEq, Prod.mk.injEq] at h
    obtain ⟨rfl, rfl, rfl, rfl⟩ := h
    intro p hp
    simp at hp; subst hp
    exact ⟨_, _, _, _, rfl⟩
   ·simp at h
  ·simp at h
 ·simp only [Option.some.injEq, Prod.mk.injEq] at h
  obtain ⟨rfl, rfl, rfl, rfl⟩ := h
  simp
 ·simp at h
theorem seeVs_W : ∀ {vs : List TV} {t : S} {vs' : List TV} {C : Prop} {rp : List Pl} {W : List (Pl × It)}, seeVs t vs = some (C, rp, vs', W) → (∀ x ∈ W, ∃ e k es sh, x.2 = .row e k es sh) ∧ ∀ p cs, t p = .box cs → p ∉ W.map (·.1)
 | [], _, _, _, _, _, h => by simp [seeVs] at h
 | c :: l, t, vs', C, rp, W, h => by
   simp only [seeVs] at h
   split at h
   ·split at h
    ·simp at h
    ·rename_i hl
     simp only [Option.some.injEq, Prod.mk.injEq] at h
     obtain ⟨rfl, rfl, rfl, rfl⟩ := h
     exact seeVs_W hl
   ·rename_i C1 rp1 c1 W1 hc
    have hW := seeV_W hc
    have hR := seeV_R hc
    have hn : ∀ p cs, t p = .box cs → p ∉ W1.map (·.1) := fun p cs hp hm => by
     obtain ⟨e, k, es, sh, hr⟩ := hW p hm
     rw [hp] at hr; simp at hr
    split at h
    ·simp only [Option.some.injEq, Prod.mk.injEq] at h
     obtain ⟨rfl, rfl, rfl, rfl⟩ := h
     exact ⟨hR, hn⟩
    ·rename_i hl
     simp only [Option.some.injEq, Prod.mk.injEq] at h
     obtain ⟨rfl, rfl, rfl, rfl⟩ := h
     obtain ⟨g1, g2⟩ := seeVs_W hl
     refine ⟨fun x hx => ?_, fun p cs hp hm => ?_⟩
     ·rcases List.mem_append.1 hx with h | h
      ·exact g1 x h
      ·exact hR x h
     ·rw [List.map_append, List.mem_append] at hm
      rcases hm with h | h
      ·exact g2 p cs (by rw [over_get (hn p cs hp)]; exact hp) h
      ·exact hn p cs hp h
theorem boxV_ok {t : S} {p : Pl} (hs : isPl p = true) (hC : (boxV t p).C) : GS A t (over t (boxV t p).W) := fun a w hi => by
 unfold boxV at hC ⊢
 split
 ·rename_i cs hp
  rw [hp] at hC
  split
  ·rename_i C rp vs' W hv
   simp only [hv, VR.C] at hC
   obtain ⟨E, hw, hi⟩ := hi
   obtain ⟨E', k1, k2, k3, k4⟩ := seeVs_ok hv hC (fun _ _ => rfl) hi
   have hbox : over t W p = .box cs := by rw [over_get ((seeVs_W hv).2 p cs hp)]; exact hp
   simp only [VR.W, over]
   refine ⟨E', k1.trans hw, k3.boxAll (fun k e => by subst e; simp [isPl] at hs) hbox fun b ty us e1 e2 e3 => k4 _ ?_⟩
   have h := hi.h.item p (fun k e => by subst e; simp [isPl] at hs)
   rw [hp] at h
   obtain ⟨h1, b0, ty0, us0, h2, h3, h4, h5⟩ := h
   have hb : E'.blk p = some b0 := by
    cases p with
    | o id => exact k2.blko id b0 trivial h2
    | x id => exact k2.blkx id b0 h2
    | s id => simp [isPl] at hs
   rw [hb] at e1
   simp only [Option.some.injEq] at e1
   subst e1
   rw [k1, h3] at e2
   simp only [Option.some.injEq, Obj.cells.injEq, and_true] at e2
   obtain ⟨rfl, rfl⟩ := e2
   have := h5.vs.1
   rwa [List.drop_zero, List.take_of_length_le (by simp; omega)] at this
  ·exact hi
 ·exact hi
end
section
variable {A : Actv}
attribute [simp] boxV
end
theorem Fin.gs {P : Program} {A : Actv} {fn : Func} {r : TV} {xs : List It} {ro : List (Nat × It)} {l l' : List (Pl × It)} (g : GS A (look l) (look l')) (h : Fin P A fn r xs ro (look l')) : Fin P A fn r xs ro (look l) :=
 fun a w hi => h a w (g a w hi)
theorem Fin.box {P : Program} {A : Actv} {fn : Func} {r : TV} {xs : List It} {ro : List (Nat × It)} {l : List (Pl × It)} (p : Pl) (hs : isPl p = true) (h : (boxV (look l) p).C ∧ Fin P A fn r xs ro (over (look l) (boxV (look l) p).W)) : Fin P A fn r xs ro (look l) :=
 fun a w hi => h.2 a w (boxV_ok hs h.1 a w hi)
end Go.Tr

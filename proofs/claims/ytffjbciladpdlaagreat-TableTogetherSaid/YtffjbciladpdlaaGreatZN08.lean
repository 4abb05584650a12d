/-
  What functions of the program compute, stated as contracts over plain data; the conditions of each stand in its own statement.
-/
import Derived.Test.YtffjbciladpdlaaGreatZN07
set_option linter.unusedSimpArgs false
namespace Go.Tr
open Go
def effBin (P : Program) (t : S) (op : BinOp) (ty : TypeId) (x y : Operand) : Option Eff :=
 match ev t x, ev t y with
 | .agg vs, .agg ws => match eqT P 4 ty (.agg vs) (.agg ws) with
   | some r => match op with
     | .eql => some ⟨eqGd P ty = true, pl x ++ pl y, [], .d (.bool r)⟩
     | .neq => some ⟨eqGd P ty = true, pl x ++ pl y, [], .d (.bool !r)⟩
     | _ => none
   | none => none
 | a, b => match binD P op ty a b with
   | some (C, v) => some ⟨C, pl x ++ pl y, [], v⟩
   | none => none
def effPick (t : S) (c x y : Operand) : TV → Option Eff
 | .d (.bool g) => some ⟨True, pl c ++ (pl x ++ pl y), [], bif g then ev t x else ev t y⟩
 | _ => none
def effUn (t : S) (op : UnOp) (x : Operand) : Option Eff :=
 match unD op (ev t x) with
 | some v => some ⟨True, pl x, [], v⟩
 | none => none
def effConv (P : Program) (sr ds : TypeId) (x : Operand) : TV → Option Eff
 | .d (.int _ n) => match shp P sr, knd P ds with
   | some _, some k => some ⟨True, pl x, [], .d (.int k (k.wrap n))⟩
   | _, _ => none
 | .d (.sl xs) => match slE P sr, u8s xs with
   | some e, some ns => some ⟨u8K P e = true ∧ isStr P ds = true, pl x, [], .d (.str (strOf ns))⟩
   | _, _ => none
 | _ => none
def effNil (t : S) (x : Operand) : TV → Option Eff
 | .ptr p q => some ⟨True, pl x, [], .ptr p q⟩
 | .ep e q => some ⟨True, pl x, [], .ep e q⟩
 | .clo f c => some ⟨True, pl x, [], .clo f c⟩
 | .eptr id n i q => match t (.o id) with
   | .row _ _ es _ => some ⟨n = es.length, pl x ++ [.o id], [], .eptr id n i q⟩
   | _ => none
 | _ => none
def effFieldAddr (P : Program) (t : S) (s : TypeId) (f : Nat) (x : Operand) (v : TV) : Option Eff :=
 match fld P s f with
 | none => none
 | some (off, ft) => match szO P ft with
   | none => none
   | some z => match v with
     | .ptr p q => some ⟨z ≠ 0, pl x, [], .ptr p (q + off)⟩
     | .ep e q => some ⟨z ≠ 0, pl x, [], .ep e (q + off)⟩
     | .eptr id n i q => match t (.o id) with
       | .row _ _ es _ => some ⟨z ≠ 0 ∧ n = es.length, pl x ++ [.o id], [], .eptr id n i (q + off)⟩
       | _ => none
     | _ => none
def effField (P : Program) (ty : TypeId) (f : Nat) (x : Operand) : TV → Option Eff
 | .agg vs => match fld P ty f with
   | some (off, ft) => match partT P ft vs off with
     | some v => some ⟨True, pl x, [], v⟩
     | none => none
   | none => none
 | _ => none
def effIndexAddr (P : Program) (t : S) (ty : TypeId) (x ix : Operand) (v i : TV) : Option Eff :=
 match i with
 | .d (.int _ i) => match v with
   | .d (.sl xs) => match slE P ty with
     | some e => match szO P e with
       | some k => some ⟨0 ≤ i ∧ i < xs.length ∧ (xs.getD i.toNat []).length = k, pl x ++ pl ix, [], .ep (xs.getD i.toNat []) 0⟩
       | none => none
     | none => none
   | .oref id n => match t (.o id) with
     | .row _ k es _ => match slE P ty with
       | some e => some ⟨szO P e = some k ∧ n = es.length ∧ 0 ≤ i ∧ i < es.length, pl x ++ (pl ix ++ [.o id]), [], .eptr id n i.toNat 0⟩
       | none => none
     | .que _ k es => match slE P ty with
       | some e => some ⟨szO P e = some k ∧ n = es.length ∧ 0 ≤ i ∧ i < es.length, pl x ++ (pl ix ++ [.o id]), [], .eptr id n i.toNat 0⟩
       | none => none
     | _ => none
   | .ptr p q => match arE P ty with
     | some (n, e) => match szO P e with
       | some k => some ⟨0 ≤ i ∧ i < n, pl x ++ pl ix, [], .ptr p (q + i.toNat * k)⟩
       | none => none
     | none => none
   | .ep ds q => match arE P ty with
     | some (n, e) => match szO P e with
       | some k => some ⟨0 ≤ i ∧ i < n, pl x ++ pl ix, [], .ep ds (q + i.toNat * k)⟩
       | none => none
     | none => none
   | _ => none
 | _ => none
def effIndex (P : Program) (ty : TypeId) (x ix : Operand) (v i : TV) : Option Eff :=
 match i with
 | .d (.int _ i) => match v with
   | .agg vs => match arE P ty with
     | some (n, e) => match szO P e with
       | some k => match partT P e vs (i.toNat * k) with
         | some v => some ⟨0 ≤ i ∧ i < n, pl x ++ pl ix, [], v⟩
         | none => none
       | none => none
     | none => none
   | .d (.str s) => some ⟨isStr P ty = true ∧ 0 ≤ i ∧ i < s.size, pl x ++ pl ix, [], .d (.int .u8 (s.data.getD i.toNat 0).toNat)⟩
   | _ => none
 | _ => none
def effExtract (x : Operand) (i : Nat) : TV → Option Eff
 | .tup vs => match vs[i]? with
   | some v => some ⟨True, pl x, [], v⟩
   | none => none
 | _ => none
def cellsOf (P : Program) (ty : TypeId) (cs : List TV) (q : Nat) : Option (Prop × TV) :=
 match shp P ty with
 | some false => match cs[q]? with
   | some v => some (True, v)
   | none => none
 | some true => match szO P ty with
   | some z => some (q + z ≤ cs.length, .agg ((cs.drop q).take z))
   | none => none
 | none => none
def effLoad (P : Program) (t : S) (ty : TypeId) (x : Operand) : TV → Option Eff
 | .ptr p q => match t p with
   | .box cs => match cellsOf P ty cs q with
     | some (C, v) => some ⟨C, pl x ++ [p], [], v⟩
     | none => none
   | _ => none
 | .ep e q => match cellsOf P ty (e.map .d) q with
   | some (C, v) => some ⟨C, pl x, [], v⟩
   | none => none
 | .eptr id n i q => match t (.o id) with
   | .row _ _ es _ => match cellsOf P ty (es.getD i []) q with
     | some (C, v) => some ⟨C ∧ n = es.length ∧ i < es.length, pl x ++ [.o id], [], v⟩
     | none => none
   | .que _ _ es => match cellsOf P ty (es.getD i []) q with
     | some (C, v) => some ⟨C ∧ n = es.length ∧ i < es.length, pl x ++ [.o id], [], v⟩
     | none => none
   | _ => none
 | _ => none
def effStore (P : Program) (t : S) (ty : TypeId) (x y : Operand) (vs : List TV) : TV → Option Eff
 | .ptr p q => match t p with
   | .box cs => some ⟨szO P ty = some vs.length ∧ q + vs.length ≤ cs.length ∧ ∀ c ∈ vs, c.one = true, pl x ++ (pl y ++ [p]), [(p, .box (setAt cs q vs))], .junk⟩
   | _ => none
 | .eptr id n i q => match t (.o id) with
   | .row e k es false => some ⟨szO P ty = some vs.length ∧ n = es.length ∧ i < es.length ∧ q + vs.length ≤ (es.getD i []).length ∧ ∀ c ∈ vs, c.one = true, pl x ++ (pl y ++ [.o id]), [(.o id, .row e k (es.set i (setAt (es.getD i []) q vs)) false)], .junk⟩
   | _ => none
 | _ => none
def mapTy (P : Program) (ty : TypeId) : Bool :=
 match P.underlying ty with
 | some (.map _ _) => true
 | _ => false
def effLen (P : Program) (t : S) (ty : TypeId) (x : Operand) : TV → Option Eff
 | .d (.sl xs) => some ⟨(slE P ty).isSome = true, pl x, [], .d (.int .i64 xs.length)⟩
 | .c (.slice _ n _) => some ⟨(slE P ty).isSome = true, pl x, [], .d (.int .i64 n)⟩
 | .d (.str s) => some ⟨isStr P ty = true, pl x, [], .d (.int .i64 s.size)⟩
 | .oref id n => match t (.o id) with
   | .row _ _ es _ => some ⟨(slE P ty).isSome = true ∧ n = es.length, pl x ++ [.o id], [], .d (.int .i64 n)⟩
   | .que _ _ es => some ⟨(slE P ty).isSome = true ∧ n = es.length, pl x ++ [.o id], [], .d (.int .i64 n)⟩
   | _ => none
 | .mref id => match t (.o id) with
   | .mpk es _ _ _ => some ⟨mapTy P ty = true, pl x ++ [.o id], [], .d (.int .i64 es.length)⟩
   | _ => none
 | .d (.mp ks _) => some ⟨mapTy P ty = true, pl x, [], .d (.int .i64 ks.length)⟩
 | _ => none
def srcOf (t : S) : TV → Option (List Pl × List (List TV) × Prop)
 | .d (.sl ys) => some ([], dd ys, True)
 | .c (.slice _ n _) => some ([], [], n = 0)
 | .oref id n => match t (.o id) with
   | .row _ _ es _ => some ([.o id], es, n = es.length)
   | _ => none
 | _ => none
def effAppend (P : Program) (t : S) (d : Nat) (sty : TypeId) (x y : Operand) (v : TV) : Option Eff :=
 match slE P sty with
 | none => none
 | some e => match szO P e, byO P e, zrO P e with
   | some k, some b, some z => match srcOf t (ev t y) with
     | some (rp, ys, Cs) => match v with
       | .c (.slice none 0 0) => some ⟨(Cs ∧ (zcells z).length = k ∧ 0 < k) ∧ t (.o d) = .none ∧ appOK k b 0 ys, pl x ++ (pl y ++ (.o d :: rp)), [(.o d, .row e k ys false)], .oref d ys.length⟩
       | .sx xs => if ys.length = 0 then some ⟨Cs ∧ ys.length = 0, pl x ++ (pl y ++ rp), [], .d (.sl xs)⟩ else some ⟨(Cs ∧ (zcells z).length = k ∧ 0 < k) ∧ (t (.o d) = .none ∧ dLen k xs) ∧ 0 < ys.length ∧ appOK k b xs.length ys, pl x ++ (pl y ++ (.o d :: rp)), [(.o d, .row e k (dd xs ++ ys) false)], .oref d (xs.length + ys.length)⟩
       | .oref id n => match t (.o id) with
         | .row e' k' es sh => some ⟨(Cs ∧ (zcells z).length = k ∧ 0 < k ∧ e' = e ∧ k' = k) ∧ n = es.length ∧ appOK k b n ys, pl x ++ (pl y ++ (.o id :: rp)), [(.o id, .row e k (es ++ ys) sh)], .oref id (n + ys.length)⟩
         | .que e' k' es => some ⟨(Cs ∧ (zcells z).length = k ∧ 0 < k ∧ e' = e ∧ k' = k) ∧ n = es.length ∧ appOK k b n ys, pl x ++ (pl y ++ (.o id :: rp)), [(.o id, .que e k (es ++ ys))], .oref id (n + ys.length)⟩
         | _ => none
       | _ => none
     | none => none
   | _, _, _ => none
def effAlloc (P : Program) (t : S) (d : Nat) (ty : TypeId) : Option Eff :=
 match zrO P ty with
 | some z => some ⟨(zcells z).all (·.oneCell') = true ∧ t (.o d) = .none, [.o d], [(.o d, .box ((zcells z).map ofCell))], .ptr (.o d) 0⟩
 | none => none
def effBox (t : S) (d : Nat) (x : Operand) : Option Eff :=
 some ⟨t (.o d) = .none ∧ ∀ c ∈ (ev t x).cells, c.one = true, pl x ++ [.o d], [(.o d, .box (ev t x).cells)], .ptr (.o d) 0⟩
def effBuild (P : Program) (t : S) (ty : TypeId) (ps : List (Nat × Operand)) : Option Eff :=
 match stF P ty with
 | some fs => match zrO P ty with
   | some z => match fillT (fun i => fs[i]?) ((zcells z).map ofCell) (ps.map fun x => (x.1, ev t x.2)) with
     | some r => some ⟨∀ p ∈ ps.map (fun x => (x.1, ev t x.2)), ∀ c ∈ p.2.cells, c.one = true, ps.flatMap (fun x => pl x.2), [], .agg r⟩
     | none => none
   | none => none
 | none => match arF P ty with
   | some k => match zrO P ty with
     | some z => match fillT (fun i => some (i * k, k)) ((zcells z).map ofCell) (ps.map fun x => (x.1, ev t x.2)) with
       | some r => some ⟨∀ p ∈ ps.map (fun x => (x.1, ev t x.2)), ∀ c ∈ p.2.cells, c.one = true, ps.flatMap (fun x => pl x.2), [], .agg r⟩
       | none => none
     | none => none
   | none => none
def effBuildSlice (P : Program) (ow : List Nat) (t : S) (d : Nat) (ty : TypeId) (n : Nat) (ps : List (Nat × Operand)) : Option Eff :=
 match slE P ty with
 | none => none
 | some e => match szO P e, zrO P e with
   | some k, some _ => if ow.contains d then
     some ⟨seqParts ps n = true ∧ t (.o d) = .none ∧ (∀ e ∈ ps.map (fun x => (ev t x.2).cells), e.length = k ∧ ∀ c ∈ e, c.one = true) ∧ n * k ≤ 16777216 ∧ 0 < k, ps.flatMap (fun x => pl x.2) ++ [.o d], [(.o d, .row e k (ps.map fun x => (ev t x.2).cells) false)], .oref d n⟩
     else match toDss (ps.map fun x => (ev t x.2).cells) with
      | some xss => some ⟨seqParts ps n = true ∧ (∀ e ∈ ps.map (fun x => (ev t x.2).cells), e.length = k ∧ ∀ c ∈ e, c.one = true) ∧ n * k ≤ 16777216, ps.flatMap (fun x => pl x.2), [], .d (.sl xss)⟩
      | none => none
   | _, _ => none
def effSlice (P : Program) (t : S) (ty : TypeId) (x : Operand) (lo hi : Option Operand) : TV → Option Eff
 | .d (.sl xs) => match slE P ty with
   | some e => match szO P e with
     | some k => match cutB xs.length (lo.map (ev t)) (hi.map (ev t)) with
       | some (C, l, h) => some ⟨C ∧ ∀ e ∈ xs, e.length = k, pl x ++ (plO lo ++ plO hi), [], .d (.sl ((xs.take h).drop l))⟩
       | none => none
     | none => none
   | none => none
 | .d (.str s) => match cutB s.size (lo.map (ev t)) (hi.map (ev t)) with
   | some (C, l, h) => some ⟨isStr P ty = true ∧ C, pl x ++ (plO lo ++ plO hi), [], .d (.str (s.extract l h))⟩
   | none => none
 | .oref id n => match t (.o id) with
   | .que _ k es => match slE P ty with
     | some e => match lo, hi with
       | some lo, none => match ev t lo with
         | .d (.int _ l) => some ⟨szO P e = some k ∧ n = es.length ∧ 0 ≤ l ∧ l ≤ es.length, pl x ++ (pl lo ++ [.o id]), [], .osl id n l.toNat⟩
         | _ => none
       | _, _ => none
     | none => none
   | _ => none
 | _ => none
def effSlice3 (P : Program) (ty : TypeId) (x hi mx : Operand) : TV → TV → TV → Option Eff
 | .d (.sl xs), .d (.int _ h), .d (.int _ m) => match slE P ty with
   | some e => match szO P e with
     | some k => some ⟨(0 ≤ h ∧ h ≤ xs.length ∧ m = h) ∧ ∀ e ∈ xs, e.length = k, pl x ++ (pl hi ++ pl mx), [], .sx (xs.take h.toNat)⟩
     | none => none
   | none => none
 | _, _, _ => none
def effMinMax (mx : Bool) (x y : Operand) : TV → TV → Option Eff
 | .d (.int k a), .d (.int _ b) => some ⟨True, pl x ++ pl y, [], if mx then maxI k a b else minI k a b⟩
 | _, _ => none
def effDelete (P : Program) (t : S) (ty : TypeId) (x ix : Operand) (vx vi : TV) : Option Eff :=
 match vx with
 | .mref id => match t (.o id) with
   | .mpk es c _ _ => match toKey vi with
     | some k => match mpK P ty k.length with
       | some _ => some ⟨klen k.length es, pl x ++ (pl ix ++ [.o id]), [(.o id, .mpk (kdel es k) c none none)], .tup []⟩
       | none => none
     | none => none
   | _ => none
 | _ => none
def effCall (P : Program) (t : S) (d : Nat) (c : Call) : Option Eff :=
 match c.callee, c.args.toList, c.argTypes.toList with
 | .builtin .len, [x], [ty] => effLen P t ty x (ev t x)
 | .builtin .append, [x, y], [sty, sty'] => if sty = sty' then effAppend P t d sty x y (ev t x) else none
 | .builtin .min, [x, y], _ => effMinMax false x y (ev t x) (ev t y)
 | .builtin .max, [x, y], _ => effMinMax true x y (ev t x) (ev t y)
 | .builtin .delete, [x, y], [ty, _] => effDelete P t ty x y (ev t x) (ev t y)
 | _, _, _ => none
def effFunc (t : S) (fn : Fn) (first captured : Array Operand) : Option Eff :=
 match fn, first.toList with
 | .func f, [] => some ⟨True, captured.toList.flatMap pl, [], .clo f (captured.toList.map (ev t))⟩
 | _, _ => none
def mpE (P : Program) (ty : TypeId) : Option TypeId :=
 match P.underlying ty with
 | some (.map k e) => match P.underlying k with
   | some (.int _) => some e
   | _ => none
 | _ => none
def effMakeMap (ow : List Nat) (t : S) (d : Nat) : Option Operand → Option Eff
 | none => if (ow.any fun n => n == d + 3000000) = true then some ⟨t (.o d) = .none, [.o d], [(.o d, .mpk [] 0 none none)], .mref d⟩ else some ⟨t (.o d) = .none, [.o d], [(.o d, .mp [])], .mref d⟩
 | some _ => none
def effLookup (P : Program) (t : S) (ty : TypeId) (x ix : Operand) (ck : Bool) (vx vi : TV) : Option Eff :=
 match vx with
 | .mref id => match t (.o id) with
   | .mp es => match vi with
     | .d (.int kd k) => match mpE P ty with
       | some e => match zrO P e with
         | some z => some ⟨kd = .i64, pl x ++ (pl ix ++ [.o id]), [], lkV ck (mget es k) (ofCell z)⟩
         | none => none
       | none => none
     | _ => none
   | .mpk es _ _ _ => match toKey vi with
     | some k => match mpK P ty k.length with
       | some e => match zrO P e with
         | some z => some ⟨klen k.length es, pl x ++ (pl ix ++ [.o id]), [], lkK ck (kget es k) (ofCell z)⟩
         | none => none
       | none => none
     | none => none
   | _ => none
 | .d (.mp ks vs) => match toKey vi with
   | some k => match mpK P ty k.length with
     | some e => match zrO P e with
       | some z => some ⟨klen k.length (kzip ks vs), pl x ++ pl ix, [], lkK ck (kget (kzip ks vs) k) (ofCell z)⟩
       | none => none
     | none => none
   | none => none
 | _ => none
def effMapUpdate (P : Program) (t : S) (ty : TypeId) (x ix y : Operand) (vx vi vy : TV) : Option Eff :=
 match vx with
 | .mref id => match t (.o id) with
   | .mp es => match vi with
     | .d (.int kd k) => match vy with
       | .d d => match mpE P ty with
         | some _ => some ⟨kd = .i64, pl x ++ (pl ix ++ (pl y ++ [.o id])), [(.o id, .mp (mput es k d))], .junk⟩
         | none => none
       | _ => none
     | _ => none
   | .mpk es c _ _ => match toKey vi with
     | some k => match mpK P ty k.length with
       | some _ => some ⟨klen k.length es, pl x ++ (pl ix ++ (pl y ++ [.o id])), [(.o id, .mpk (kput es k vy) c none none)], .junk⟩
       | none => none
     | none => none
   | _ => none
 | _ => none
def effInsert (P : Program) (t : S) (ty : TypeId) (x ix y : Operand) (vx vi vy : TV) : Option Eff :=
 match vx with
 | .mref id => match t (.o id) with
   | .mpk es c _ _ => match toKey vi with
     | some k => match mpK P ty k.length with
       | some _ => some ⟨klen k.length es, pl x ++ (pl ix ++ (pl y ++ [.o id])), [(.o id, .mpk (kput es k vy) c none none)], .junk⟩
       | none => none
     | none => none
   | _ => none
 | _ => none
def effMapEntry (P : Program) (t : S) (ty : TypeId) (x ix : Operand) (vx vi : TV) : Option Eff :=
 match vx with
 | .mref id => match t (.o id) with
   | .mpk es c _ _ => match toKey vi with
     | some k => match mpK P ty k.length with
       | some e => match zrO P e with
         | some z => some ⟨klen k.length es, pl x ++ (pl ix ++ [.o id]), [(.o id, .mpk (kput es k (lkK false (kget es k) (ofCell z))) (c + 1) (some k) none)], .tup [lkK false (kget es k) (ofCell z), .oref id (c + 1)]⟩
         | none => none
       | none => none
     | none => none
   | _ => none
 | _ => none
def effEntryStore (t : S) (x ix y : Operand) (vx vi vy : TV) : Option Eff :=
 match vx with
 | .mref id => match t (.o id) with
   | .mpk es c (some k) _ => match vi with
     | .oref id' n => some ⟨id' = id ∧ n = c, pl x ++ (pl ix ++ (pl y ++ [.o id])), [(.o id, .mpk (kput es k vy) c (some k) none)], .junk⟩
     | _ => none
   | _ => none
 | _ => none
def effEntry (t : S) (x : Operand) (vx : TV) : Option Eff :=
 match vx with
 | .ptr (.o d) off => match t (.o d) with
   | .mit id s _ (some k) => match t (.o id) with
     | .mpk es _ _ (some s') => match kget es k with
       | some v => some ⟨off = 0 ∧ s' = s, pl x ++ [.o d, .o id], [], .tup [keyTV k, v]⟩
       | none => none
     | .mpz es s' => match kget es k with
       | some v => some ⟨off = 0 ∧ s' = s, pl x ++ [.o d, .o id], [], .tup [keyTV k, v]⟩
       | none => none
     | _ => none
   | _ => none
 | _ => none
def effMakeSlice (P : Program) (t : S) (d : Nat) (ty : TypeId) (lx cx : Operand) : TV → TV → Option Eff
 | .d (.int kd n), .d (.int kd' n') => match slE P ty with
   | some e => match szO P e, byO P e, zrO P e with
     | some k, some b, some z => some ⟨(kd = .i64 ∧ kd' = .i64 ∧ n' = n) ∧ t (.o d) = .none ∧ 0 ≤ n ∧ n ≤ 1000000 ∧ b * n ≤ 281474976710656 ∧ (zcells z).length = k ∧ 0 < k ∧ (zcells z).all (·.oneCell') = true, pl lx ++ (pl cx ++ [.o d]),
       [(.o d, .row e k (List.replicate n.toNat ((zcells z).map ofCell)) false)], .oref d n.toNat⟩
     | _, _, _ => none
   | none => none
 | _, _ => none
theorem mpE_spec {P : Program} {ty e : TypeId} (h : mpE P ty = some e) : ∃ k kd, P.underlying ty = some (.map k e) ∧ P.underlying k = some (.int kd) := by
 unfold mpE at h
 split at h
 ·rename_i k e' h1
  split at h
  ·rename_i kd h2
   simp only [Option.some.injEq] at h; subst h
   exact ⟨k, kd, h1, h2⟩
  ·simp at h
 ·simp at h
def eff (P : Program) (ow : List Nat) (t : S) (o : Oper) : Option Eff :=
 match o.op with
 | .move x | .assign x => some ⟨True, pl x, [], ev t x⟩
 | .pick c x y => effPick t c x y (ev t c)
 | .binOp op ty x y _ => effBin P t op ty x y
 | .unOp op _ x => effUn t op x
 | .convert sr ds x => effConv P sr ds x (ev t x)
 | .nilCheck x => effNil t x (ev t x)
 | .fieldAddr s x f => effFieldAddr P t s f x (ev t x)
 | .field ty x f => effField P ty f x (ev t x)
 | .indexAddr ty x ix => effIndexAddr P t ty x ix (ev t x) (ev t ix)
 | .index ty x ix => effIndex P ty x ix (ev t x) (ev t ix)
 | .extract x i => effExtract x i (ev t x)
 | .load ty x => effLoad P t ty x (ev t x)
 | .store ty x y => effStore P t ty x y (ev t y).cells (ev t x)
 | .alloc ty => effAlloc P t (o.dst.getD 0) ty
 | .box _ x => effBox t (o.dst.getD 0) x
 | .build ty ps => effBuild P t ty ps.toList
 | .buildSlice ty n ps => effBuildSlice P ow t (o.dst.getD 0) ty n ps.toList
 | .slice ty x lo hi none => effSlice P t ty x lo hi (ev t x)
 | .slice ty x none (some hi) (some mx) => effSlice3 P ty x hi mx (ev t x) (ev t hi) (ev t mx)
 | .makeFunc fn first captured => effFunc t fn first captured
 | .call c => effCall P t (o.dst.getD 0) c
 | .makeMap _ r => effMakeMap ow t (o.dst.getD 0) r
 | .lookup ty x ix ck => effLookup P t ty x ix ck (ev t x) (ev t ix)
 | .mapUpdate ty x ix y => effMapUpdate P t ty x ix y (ev t x) (ev t ix) (ev t y)
 | .makeSlice ty lx cx => effMakeSlice P t (o.dst.getD 0) ty lx cx (ev t lx) (ev t cx)
 | .insert ty x ix y => effInsert P t ty x ix y (ev t x) (ev t ix) (ev t y)
 | .mapEntry ty x ix => effMapEntry P t ty x ix (ev t x) (ev t ix)
 | .entryStore _ x ix y => effEntryStore t x ix y (ev t x) (ev t ix) (ev t y)
 | .entry x => effEntry t x (ev t x)
 | _ => none
section
variable {P : Program} {A : Actv}
theorem EffOK.weak {o : Oper} {t : S} {C C' : Prop} {rp : List Pl} {W : List (Pl × It)} {v : TV} (h : EffOK P A o t ⟨C', rp, W, v⟩) (hC : C → C') : EffOK P A o t ⟨C, rp, W, v⟩ := fun c => h (hC c)
theorem src_of {t : S} {y : TV} {rp : List Pl} {ys : List (List TV)} {C : Prop} (h : srcOf t y = some (rp, ys, C)) (hC : C) : Src t y rp ys := by
 unfold srcOf at h
 split at h
 ·simp only [Option.some.injEq, Prod.mk.injEq] at h
  obtain ⟨rfl, rfl, rfl⟩ := h
  exact .sl _
 ·simp only [Option.some.injEq, Prod.mk.injEq] at h
  obtain ⟨rfl, rfl, rfl⟩ := h
  subst hC
  exact .nil _ _
 ·split at h
  ·rename_i hr
   simp only [Option.some.injEq, Prod.mk.injEq] at h
   obtain ⟨rfl, rfl, rfl⟩ := h
   subst hC
   exact .row _ _ _ _ _ hr
  ·simp at h
 ·simp at h
theorem isSome_ex {α : Type} {x : Option α} (h : x.isSome = true) : ∃ a, x = some a := Option.isSome_iff_exists.1 h
theorem eff_ok {ow : List Nat} {t : S} {o : Oper} {e : Eff} (h : eff P ow t o = some e) : EffOK P A o t e := by
 unfold eff at h
 split at h
 ·rename_i ho; simp only [Option.some.injEq] at h; subst h; exact eff_move (.inl ho)
 ·rename_i ho; simp only [Option.some.injEq] at h; subst h; exact eff_move (.inr ho)
 ·rename_i ho
  unfold effPick at h
  split at h
  ·rename_i hg; simp only [Option.some.injEq] at h; subst h; exact eff_pick ho hg
  ·simp at h
 ·rename_i ho
  unfold effBin at h
  split at h
  ·rename_i hx hy
   split at h
   ·rename_i r hr
    split at h
    ·simp only [Option.some.injEq] at h; subst h
     exact .of fun hg => by simpa using eff_eqs ho (.inl rfl) hg hx hy hr
    ·simp only [Option.some.injEq] at h; subst h
     exact .of fun hg => by simpa using eff_eqs ho (.inr rfl) hg hx hy hr
    ·simp at h
   ·simp at h
  ·split at h
   ·rename_i hb; simp only [Option.some.injEq] at h; subst h; exact eff_bin ho hb
   ·simp at h
 ·rename_i ho
  unfold effUn at h
  split at h
  ·rename_i hb; simp only [Option.some.injEq] at h; subst h; exact eff_un ho hb
  ·simp at h
 ·rename_i ho
  unfold effConv at h
  split at h
  ·rename_i hx
   split at h
   ·rename_i hs hk; simp only [Option.some.injEq] at h; subst h; exact eff_conv ho (by simp [hs]) hk hx
   ·simp at h
  ·rename_i hx
   split at h
   ·rename_i hs hk; simp only [Option.some.injEq] at h; subst h
    exact .of fun hc => eff_convS ho hs hc.1 hc.2 hx hk
   ·simp at h
  ·simp at h
 ·rename_i ho
  unfold effNil at h
  split at h
  ·rename_i hx; simp only [Option.some.injEq] at h; subst h; exact hx ▸ eff_nil ho (.inl ⟨_, _, hx⟩)
  ·rename_i hx; simp only [Option.some.injEq] at h; subst h; exact hx ▸ eff_nil ho (.inr (.inl ⟨_, _, hx⟩))
  ·rename_i hx; simp only [Option.some.injEq] at h; subst h; exact hx ▸ eff_nil ho (.inr (.inr ⟨_, _, hx⟩))
  ·rename_i hx
   split at h
   ·rename_i ht; simp only [Option.some.injEq] at h; subst h; exact eff_nil_row ho hx ht
   ·simp at h
  ·simp at h
 ·rename_i ho
  unfold effFieldAddr at h
  split at h
  ·simp at h
  ·rename_i hf
   split at h
   ·simp at h
   ·rename_i hz
    split at h
    ·rename_i hx; simp only [Option.some.injEq] at h; subst h
     exact .of fun hz0 => eff_fieldAddr ho hf hz hz0 (.inl ⟨_, _, hx, rfl⟩)
    ·rename_i hx; simp only [Option.some.injEq] at h; subst h
     exact .of fun hz0 => eff_fieldAddr ho hf hz hz0 (.inr ⟨_, _, hx, rfl⟩)
    ·rename_i hx
     split at h
     ·rename_i ht; simp only [Option.some.injEq] at h; subst h
      exact .of fun hc => (eff_fieldAddr_row ho hf hz hc.1 hx ht).weak fun _ => hc.2
     ·simp at h
    ·simp at h
 ·rename_i ho
  unfold effField at h
  split at h
  ·rename_i hx
   split at h
   ·rename_i hf
    split at h
    ·rename_i hp; simp only [Option.some.injEq] at h; subst h; exact eff_field ho hf hx hp
    ·simp at h
   ·simp at h
  ·simp at h
 ·rename_i ho
  unfold effIndexAddr at h
  split at h
  ·rename_i hi
   split at h
   ·rename_i hx
    split at h
    ·rename_i he
     split at h
     ·rename_i hk; simp only [Option.some.injEq] at h; subst h; exact eff_indexAddr ho he hk hx hi
     ·simp at h
    ·simp at h
   ·rename_i hx
    split at h
    ·rename_i ht
     split at h
     ·rename_i he; simp only [Option.some.injEq] at h; subst h
      exact .of fun hc => (eff_indexAddr_row ho he hc.1 hx hi ht).weak fun _ => hc.2
     ·simp at h
    ·rename_i ht
     split at h
     ·rename_i he; simp only [Option.some.injEq] at h; subst h
      exact .of fun hc => (eff_indexAddr_que ho he hc.1 hx hi ht).weak fun _ => hc.2
     ·simp at h
    ·simp at h
   ·rename_i hx
    split at h
    ·rename_i he
     split at h
     ·rename_i hk; simp only [Option.some.injEq] at h; subst h; exact eff_indexAddr_arr ho he hk hx hi
     ·simp at h
    ·simp at h
   ·rename_i hx
    split at h
    ·rename_i he
     split at h
     ·rename_i hk; simp only [Option.some.injEq] at h; subst h; exact eff_indexAddr_ep ho he hk hx hi
     ·simp at h
    ·simp at h
   ·simp at h
  ·simp at h
 ·rename_i ho
  unfold effIndex at h
  split at h
  ·rename_i hi
   split at h
   ·rename_i hx
    split at h
    ·rename_i he
     split at h
     ·rename_i hk
      split at h
      ·rename_i hp; simp only [Option.some.injEq] at h; subst h; exact eff_index_arr ho he hk hx hi hp
      ·simp at h
     ·simp at h
    ·simp at h
   ·rename_i hx; simp only [Option.some.injEq] at h; subst h
    exact .of fun hc => (eff_index_str ho hc.1 hx hi).weak fun _ => hc.2
   ·simp at h
  ·simp at h
 ·rename_i ho
  unfold effExtract at h
  split at h
  ·rename_i hx
   split at h
   ·rename_i hv; simp only [Option.some.injEq] at h; subst h; exact eff_extract ho hx hv
   ·simp at h
  ·simp at h
 ·rename_i ho
  unfold effLoad cellsOf at h
  split at h
  ·rename_i hx
   split at h
   ·rename_i ht
    split at h
    ·rename_i hc
     simp only [Option.some.injEq] at h; subst h
     split at hc
     ·rename_i hs
      split at hc
      ·rename_i hv; simp only [Option.some.injEq, Prod.mk.injEq] at hc
       obtain ⟨rfl, rfl⟩ := hc
       exact eff_load_box ho hx ht (.inl ⟨hs, hv⟩)
      ·simp at hc
     ·rename_i hs
      split at hc
      ·rename_i hz; simp only [Option.some.injEq, Prod.mk.injEq] at hc
       obtain ⟨rfl, rfl⟩ := hc
       exact .of fun hl => eff_load_box ho hx ht (.inr ⟨_, hs, hz, hl, rfl⟩)
      ·simp at hc
     ·simp at hc
    ·simp at h
   ·simp at h
  ·rename_i hx
   split at h
   ·rename_i hc
    simp only [Option.some.injEq] at h; subst h
    split at hc
    ·rename_i hs
     split at hc
     ·rename_i hv; simp only [Option.some.injEq, Prod.mk.injEq] at hc
      obtain ⟨rfl, rfl⟩ := hc
      simp only [List.getElem?_map, Option.map_eq_some_iff] at hv
      obtain ⟨y, h1, h2⟩ := hv
      exact eff_load_ep ho hx (.inl ⟨hs, y, h1, h2.symm⟩)
     ·simp at hc
    ·rename_i hs
     split at hc
     ·rename_i hz; simp only [Option.some.injEq, Prod.mk.injEq] at hc
      obtain ⟨rfl, rfl⟩ := hc
      exact .of fun hl => eff_load_ep ho hx (.inr ⟨_, hs, hz, by simpa using hl, by simp [List.map_take, List.map_drop]⟩)
     ·simp at hc
    ·simp at hc
   ·simp at h
  ·rename_i hx
   split at h
   ·rename_i ht
    split at h
    ·rename_i hc
     simp only [Option.some.injEq] at h; subst h
     split at hc
     ·rename_i hs
      split at hc
      ·rename_i hv; simp only [Option.some.injEq, Prod.mk.injEq] at hc
       obtain ⟨rfl, rfl⟩ := hc
       exact (eff_load_row ho hx ht (.inl ⟨hs, hv⟩)).weak fun h => h.2
      ·simp at hc
     ·rename_i hs
      split at hc
      ·rename_i hz; simp only [Option.some.injEq, Prod.mk.injEq] at hc
       obtain ⟨rfl, rfl⟩ := hc
       exact .of fun hl => (eff_load_row ho hx ht (.inr ⟨_, hs, hz, hl.1, rfl⟩)).weak fun _ => hl.2
      ·simp at hc
     ·simp at hc
    ·simp at h
   ·rename_i ht
    split at h
    ·rename_i hc
     simp only [Option.some.injEq] at h; subst h
     split at hc
     ·rename_i hs
      split at hc
      ·rename_i hv; simp only [Option.some.injEq, Prod.mk.injEq] at hc
       obtain ⟨rfl, rfl⟩ := hc
       exact (eff_load_que ho hx ht (.inl ⟨hs, hv⟩)).weak fun h => h.2
      ·simp at hc
     ·rename_i hs
      split at hc
      ·rename_i hz; simp only [Option.some.injEq, Prod.mk.injEq] at hc
       obtain ⟨rfl, rfl⟩ := hc
       exact .of fun hl => (eff_load_que ho hx ht (.inr ⟨_, hs, hz, hl.1, rfl⟩)).weak fun _ => hl.2
      ·simp at hc
     ·simp at hc
    ·simp at h
   ·simp at h
  ·simp at h
 ·rename_i ho
  unfold effStore at h
  split at h
  ·rename_i hx
   split at h
   ·rename_i ht; simp only [Option.some.injEq] at h; subst h
    exact .of fun hc => (eff_store_box ho hx ht rfl hc.1).weak fun _ => hc.2
   ·simp at h
  ·rename_i hx
   split at h
   ·rename_i ht; simp only [Option.some.injEq] at h; subst h
    exact .of fun hc => (eff_store_row ho hx ht rfl hc.1).weak fun _ => hc.2
   ·simp at h
  ·simp at h
 ·rename_i ho
  unfold effAlloc at h
  split at h
  ·rename_i hz; simp only [Option.some.injEq] at h; subst h
   exact .of fun hc => (eff_alloc ho hz hc.1).weak fun _ => hc.2
  ·simp at h
 ·rename_i ho
  unfold effBox at h
  simp only [Option.some.injEq] at h; subst h
  exact eff_box ho
 ·rename_i ho
  unfold effBuild at h
  split at h
  ·rename_i hf
   split at h
   ·rename_i hz
    split at h
    ·rename_i hr; simp only [Option.some.injEq] at h; subst h
     exact eff_build (by rw [ho]) hf hz hr
    ·simp at h
   ·simp at h
  ·split at h
   ·rename_i hf
    split at h
    ·rename_i hz
     split at h
     ·rename_i hr; simp only [Option.some.injEq] at h; subst h
      exact eff_buildA (by rw [ho]) hf hz hr
     ·simp at h
    ·simp at h
   ·simp at h
 ·rename_i ho
  unfold effBuildSlice at h
  split at h
  ·simp at h
  ·rename_i he
   split at h
   ·rename_i hk hz
    split at h
    ·simp only [Option.some.injEq] at h; subst h
     exact .of fun hc => (eff_buildSlice_row (by rw [ho]) he hk hz hc.1).weak fun _ => hc.2
    ·split at h
     ·rename_i hx; simp only [Option.some.injEq] at h; subst h
      exact .of fun hc => (eff_buildSlice (by rw [ho]) he hk hz hc.1 hx).weak fun _ => hc.2
     ·simp at h
   ·simp at h
 ·rename_i ho
  unfold effSlice at h
  split at h
  ·rename_i hx
   split at h
   ·rename_i he
    split at h
    ·rename_i hk
     split at h
     ·rename_i hc; simp only [Option.some.injEq] at h; subst h; exact eff_slice_sl ho he hk hx hc
     ·simp at h
    ·simp at h
   ·simp at h
  ·rename_i hx
   split at h
   ·rename_i hc; simp only [Option.some.injEq] at h; subst h
    exact .of fun hC => (eff_slice_str ho hC.1 hx hc).weak fun _ => hC.2
   ·simp at h
  ·rename_i hx
   split at h
   ·rename_i ht
    split at h
    ·rename_i he
     split at h
     ·split at h
      ·rename_i hl; simp only [Option.some.injEq] at h; subst h
       exact .of fun hC => (eff_slice_que ho he hC.1 hx hl ht).weak fun _ => hC.2
      ·simp at h
     ·simp at h
    ·simp at h
   ·simp at h
  ·simp at h
 ·rename_i ho
  unfold effSlice3 at h
  split at h
  ·rename_i hx hh hm
   split at h
   ·rename_i he
    split at h
    ·rename_i hk
     simp only [Option.some.injEq] at h; subst h
     exact eff_slice3 ho he hk hx hh hm
    ·simp at h
   ·simp at h
  ·simp at h
 ·rename_i ho
  unfold effFunc at h
  split at h
  ·rename_i caps hf
   simp only [Option.some.injEq] at h; subst h
   refine eff_makeFunc ?_
   rw [ho]
   congr 1
   exact Array.toList_eq_nil_iff.1 hf
  ·simp at h
 ·rename_i c ho
  unfold effCall at h
  split at h
  ·rename_i x ty hc ha ht
   have hcall : o.op = .call { callee := .builtin .len, args := #[x], argTypes := #[ty] } := by
    rw [ho]; congr 1
    obtain ⟨c1, c2, c3⟩ := c
    simp only [Call.mk.injEq]
    exact ⟨hc, Array.toList_inj.1 ha, Array.toList_inj.1 ht⟩
   unfold effLen at h
   split at h
   ·rename_i hx; simp only [Option.some.injEq] at h; subst h
    exact .of fun hs => by obtain ⟨e, he⟩ := isSome_ex hs; exact eff_len_sl hcall he hx
   ·rename_i hx; simp only [Option.some.injEq] at h; subst h
    exact .of fun hs => by obtain ⟨e, he⟩ := isSome_ex hs; exact eff_len_nil hcall he hx
   ·rename_i hx; simp only [Option.some.injEq] at h; subst h
    exact .of fun hs => eff_len_str hcall hs hx
   ·rename_i hx
    split at h
    ·rename_i hr; simp only [Option.some.injEq] at h; subst h
     exact .of fun hs => by obtain ⟨e, he⟩ := isSome_ex hs.1; exact (eff_len_row hcall he hx hr).weak fun _ => hs.2
    ·rename_i hr; simp only [Option.some.injEq] at h; subst h
     exact .of fun hs => by obtain ⟨e, he⟩ := isSome_ex hs.1; exact (eff_len_que hcall he hx hr).weak fun _ => hs.2
    ·simp at h
   ·rename_i hx
    split at h
    ·rename_i hr; simp only [Option.some.injEq] at h; subst h
     exact .of fun hs => by
      unfold mapTy at hs
      split at hs
      ·rename_i hu; exact (eff_lenK hcall hu hx hr).weak fun _ => trivial
      ·simp at hs
    ·simp at h
   ·rename_i hx; simp only [Option.some.injEq] at h; subst h
    exact .of fun hs => by
     unfold mapTy at hs
     split at hs
     ·rename_i hu; exact (eff_lenZ hcall hu hx).weak fun _ => trivial
     ·simp at hs
   ·simp at h
  ·rename_i x y sty sty' hc ha ht
   split at h
   ·rename_i he
    subst he
    have hcall : o.op = .call { callee := .builtin .append, args := #[x, y], argTypes := #[sty, sty] } := by
     rw [ho]; congr 1
     obtain ⟨c1, c2, c3⟩ := c
     simp only [Call.mk.injEq]
     exact ⟨hc, Array.toList_inj.1 ha, Array.toList_inj.1 ht⟩
    unfold effAppend at h
    split at h
    ·simp at h
    ·rename_i he
     split at h
     ·rename_i hk hb hz
      split at h
      ·rename_i hs
       split at h
       ·rename_i hx; simp only [Option.some.injEq] at h; subst h
        exact .of fun hC => (eff_append_nil hcall hx (src_of hs hC.1.1) he hk hb hz hC.1.2.1 hC.1.2.2).weak fun _ => hC.2
       ·rename_i hx
        split at h
        ·simp only [Option.some.injEq] at h; subst h
         exact .of fun hC => (eff_append_sx0 hcall hx (src_of hs hC.1) he hk).weak fun _ => hC.2
        simp only [Option.some.injEq] at h; subst h
        exact .of fun hC => (eff_append_sx hcall hx (src_of hs hC.1.1) he hk hb hz hC.1.2.1 hC.1.2.2).weak fun _ => hC.2
       ·rename_i hx
        split at h
        ·rename_i ht; simp only [Option.some.injEq] at h; subst h
         refine .of fun hC => ?_
         obtain ⟨⟨h1, h2, h3, h4, h5⟩, h6⟩ := hC
         subst h4; subst h5
         exact (eff_append_row hcall hx ht (src_of hs h1) he hk hb hz h2 h3).weak fun _ => h6
        ·rename_i ht; simp only [Option.some.injEq] at h; subst h
         refine .of fun hC => ?_
         obtain ⟨⟨h1, h2, h3, h4, h5⟩, h6⟩ := hC
         subst h4; subst h5
         exact (eff_append_que hcall hx ht (src_of hs h1) he hk hb hz h2 h3).weak fun _ => h6
        ·simp at h
       ·simp at h
      ·simp at h
     ·simp at h
   ·simp at h
  ·rename_i x y hc ha
   have hcall : o.op = .call { callee := .builtin .min, args := #[x, y], argTypes := c.argTypes } := by
    rw [ho]; congr 1
    obtain ⟨c1, c2, c3⟩ := c
    simp only [Call.mk.injEq, and_true]
    exact ⟨hc, Array.toList_inj.1 ha⟩
   unfold effMinMax at h
   split at h
   ·rename_i hx hy; simp only [Option.some.injEq] at h; subst h; exact eff_min hcall hx hy
   ·simp at h
  ·rename_i x y hc ha
   have hcall : o.op = .call { callee := .builtin .max, args := #[x, y], argTypes := c.argTypes } := by
    rw [ho]; congr 1
    obtain ⟨c1, c2, c3⟩ := c
    simp only [Call.mk.injEq, and_true]
    exact ⟨hc, Array.toList_inj.1 ha⟩
   unfold effMinMax at h
   split at h
   ·rename_i hx hy; simp only [Option.some.injEq] at h; subst h; exact eff_max hcall hx hy
   ·simp at h
  ·rename_i x y ty kty hc ha ht
   have hcall : o.op = .call { callee := .builtin .delete, args := #[x, y], argTypes := #[ty, kty] } := by
    rw [ho]; congr 1
    obtain ⟨c1, c2, c3⟩ := c
    simp only [Call.mk.injEq]
    exact ⟨hc, Array.toList_inj.1 ha, Array.toList_inj.1 ht⟩
   unfold effDelete at h
   split at h
   ·rename_i hx
    split at h
    ·rename_i hm
     split at h
     ·rename_i hk
      split at h
      ·rename_i he
       simp only [Option.some.injEq] at h; subst h
       exact eff_deleteK hcall he hx hm hk
      ·simp at h
     ·simp at h
    ·simp at h
   ·simp at h
  ·simp at h
 ·rename_i ho
  unfold effMakeMap at h
  split at h
  ·split at h
   ·simp only [Option.some.injEq] at h; subst h
    exact eff_makeMapK ho
   ·simp only [Option.some.injEq] at h; subst h
    exact eff_makeMap ho
  ·simp at h
 ·rename_i ho
  unfold effLookup at h
  split at h
  ·rename_i hx
   split at h
   ·rename_i ht
    split at h
    ·rename_i hi
     split at h
     ·rename_i he
      split at h
      ·rename_i hz
       simp only [Option.some.injEq] at h; subst h
       obtain ⟨k, kd, h1, h2⟩ := mpE_spec he
       exact .of fun hC => by
        subst hC
        exact (eff_lookup ho h1 h2 hz hx ht hi).weak fun _ => trivial
      ·simp at h
     ·simp at h
    ·simp at h
   ·rename_i ht
    split at h
    ·rename_i hi
     split at h
     ·rename_i he
      split at h
      ·rename_i hz
       simp only [Option.some.injEq] at h; subst h
       exact eff_lookupK ho he hz hx ht hi
      ·simp at h
     ·simp at h
    ·simp at h
   ·simp at h
  ·rename_i hx
   split at h
   ·rename_i hi
    split at h
    ·rename_i he
     split at h
     ·rename_i hz
      simp only [Option.some.injEq] at h; subst h
      exact eff_lookupZ ho he hz hx hi
     ·simp at h
    ·simp at h
   ·simp at h
  ·simp at h
 ·rename_i ho
  unfold effMapUpdate at h
  split at h
  ·rename_i hx
   split at h
   ·rename_i ht
    split at h
    ·rename_i hi
     split at h
     ·rename_i hy
      split at h
      ·rename_i he
       simp only [Option.some.injEq] at h; subst h
       obtain ⟨k, kd, h1, h2⟩ := mpE_spec he
       exact .of fun hC => by
        subst hC
        exact (eff_mapUpdate ho h1 h2 hx ht hi hy).weak fun _ => trivial
      ·simp at h
     ·simp at h
    ·simp at h
   ·rename_i ht
    split at h
    ·rename_i hi
     split at h
     ·rename_i he
      simp only [Option.some.injEq] at h; subst h
      exact eff_mapUpdateK (.inl ho) he hx ht hi rfl
     ·simp at h
    ·simp at h
   ·simp at h
  ·simp at h
 ·rename_i ho
  unfold effMakeSlice at h
  split at h
  ·rename_i hl hc
   split at h
   ·rename_i he
    split at h
    ·rename_i hk hb hz
     simp only [Option.some.injEq] at h; subst h
     exact .of fun hC => by
      obtain ⟨⟨rfl, rfl, rfl⟩, hC'⟩ := hC
      exact (eff_makeSlice ho he hk hb hz hl hc).weak fun _ => hC'
    ·simp at h
   ·simp at h
  ·simp at h
 ·rename_i ho
  unfold effInsert at h
  split at h
  ·rename_i hx
   split at h
   ·rename_i ht
    split at h
    ·rename_i hi
     split at h
     ·rename_i he
      simp only [Option.some.injEq] at h; subst h
      exact eff_mapUpdateK (.inr ho) he hx ht hi rfl
     ·simp at h
    ·simp at h
   ·simp at h
  ·simp at h
 ·rename_i ho
  unfold effMapEntry at h
  split at h
  ·rename_i hx
   split at h
   ·rename_i ht
    split at h
    ·rename_i hi
     split at h
     ·rename_i he
      split at h
      ·rename_i hz
       simp only [Option.some.injEq] at h; subst h
       exact eff_mapEntryK ho he hz hx ht hi
      ·simp at h
     ·simp at h
    ·simp at h
   ·simp at h
  ·simp at h
 ·rename_i ho
  unfold effEntryStore at h
  split at h
  ·rename_i hx
   split at h
   ·rename_i ht
    split at h
    ·rename_i hi
     simp only [Option.some.injEq] at h; subst h
     exact .of fun hC => by
      obtain ⟨rfl, hC'⟩ := hC
      exact (eff_entryStoreK ho hx ht hi rfl).weak fun _ => hC'
    ·simp at h
   ·simp at h
  ·simp at h
 ·rename_i ho
  unfold effEntry at h
  split at h
  ·rename_i hx
   split at h
   ·rename_i hd
    split at h
    ·rename_i hm
     split at h
     ·rename_i hk
      simp only [Option.some.injEq] at h; subst h
      exact .of fun hC => by
       obtain ⟨rfl, rfl⟩ := hC
       exact eff_entry ho hx hd (by rw [hm]; exact ⟨rfl, rfl⟩) hk
     ·simp at h
    ·rename_i hm
     split at h
     ·rename_i hk
      simp only [Option.some.injEq] at h; subst h
      exact .of fun hC => by
       obtain ⟨rfl, rfl⟩ := hC
       exact eff_entry ho hx hd (by rw [hm]; exact ⟨rfl, rfl⟩) hk
     ·simp at h
    ·simp at h
   ·simp at h
  ·simp at h
 ·simp at h
end
end Go.Tr

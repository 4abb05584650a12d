/-
  What functions of the program compute, stated as contracts over plain data; the conditions of each stand in its own statement.
-/
import Derived.Test.YtboimfkommpglaaGreatDoorZA05
set_option linter.unusedSimpArgs false
namespace Go.Tr
open Go
def ZP(P:Program)(t:S)(op:BinOp)(ty:TypeId)(x y:Operand):Option Eff:=
 match ev t x,ev t y with
 | .agg vs,.agg ws=>match eqT P 4 ty (.agg vs) (.agg ws)with
   | some r=>match op with
     | .eql=>some ⟨Yk P ty=true,pl x++pl y,[],.d (.bool r)⟩
     | .neq=>some ⟨Yk P ty=true,pl x++pl y,[],.d (.bool !r)⟩
     | _=>none
   | none=>none
 | a,b=>match ad7 P op ty a b with
   | some (C,v)=>some ⟨C,pl x++pl y,[],v⟩
   | none=>none
def WL(t:S)(c x y:Operand):TV→Option Eff
 | .d (.bool g)=>some ⟨True,pl c++(pl x++pl y),[],bif g then ev t x else ev t y⟩
 | _=>none
def aeu(t:S)(op:UnOp)(x:Operand):Option Eff:=
 match unD op (ev t x)with
 | some v=>some ⟨True,pl x,[],v⟩
 | none=>none
def WH(P:Program)(sr ds:TypeId)(x:Operand):TV→Option Eff
 | .d (.int _ n)=>match uJ P sr,knd P ds with
   | some _,some k=>some ⟨True,pl x,[],.d (.int k (k.wrap n))⟩
   | _,_=>none
 | .d (.sl xs)=>match uY P sr,u8s xs with
   | some e,some ns=>some ⟨u8K P e=true∧isStr P ds=true,pl x,[],.d (.str (strOf ns))⟩
   | _,_=>none
 | _=>none
def ZT(t:S)(x:Operand):TV→Option Eff
 | .ptr p q=>some ⟨True,pl x,[],.ptr p q⟩
 | .ep e q=>some ⟨True,pl x,[],.ep e q⟩
 | .clo f c=>some ⟨True,pl x,[],.clo f c⟩
 | .rQ id n i q=>match t (.o id)with
   | .row _ _ es _=>some ⟨n=es.length,pl x++[.o id],[],.rQ id n i q⟩
   | _=>none
 | _=>none
def Gh(P:Program)(t:S)(s:TypeId)(f:Nat)(x:Operand)(v:TV):Option Eff:=
 match qL P s f with
 | none=>none
 | some (off,ft)=>match lQ P ft with
   | none=>none
   | some z=>match v with
     | .ptr p q=>some ⟨z≠0,pl x,[],.ptr p (q+off)⟩
     | .ep e q=>some ⟨z≠0,pl x,[],.ep e (q+off)⟩
     | .rQ id n i q=>match t (.o id)with
       | .row _ _ es _=>some ⟨z≠0∧n=es.length,pl x++[.o id],[],.rQ id n i (q+off)⟩
       | _=>none
     | _=>none
def Q8(P:Program)(ty:TypeId)(f:Nat)(x:Operand):TV→Option Eff
 | .agg vs=>match qL P ty f with
   | some (off,ft)=>match partT P ft vs off with
     | some v=>some ⟨True,pl x,[],v⟩
     | none=>none
   | none=>none
 | _=>none
def Gi(P:Program)(t:S)(ty:TypeId)(x ix:Operand)(v i:TV):Option Eff:=
 match i with
 | .d (.int _ i)=>match v with
   | .d (.sl xs)=>match uY P ty with
     | some e=>match lQ P e with
       | some k=>some ⟨0≤i∧i<xs.length∧(xs.getD i.toNat []).length=k,pl x++pl ix,[],.ep (xs.getD i.toNat []) 0⟩
       | none=>none
     | none=>none
   | .aB id n=>match t (.o id)with
     | .row _ k es _=>match uY P ty with
       | some e=>some ⟨lQ P e=some k∧n=es.length∧0≤i∧i<es.length,pl x++(pl ix++[.o id]),[],.rQ id n i.toNat 0⟩
       | none=>none
     | .wI _ k es=>match uY P ty with
       | some e=>some ⟨lQ P e=some k∧n=es.length∧0≤i∧i<es.length,pl x++(pl ix++[.o id]),[],.rQ id n i.toNat 0⟩
       | none=>none
     | _=>none
   | .ptr p q=>match kN P ty with
     | some (n,e)=>match lQ P e with
       | some k=>some ⟨0≤i∧i<n,pl x++pl ix,[],.ptr p (q+i.toNat*k)⟩
       | none=>none
     | none=>none
   | .ep ds q=>match kN P ty with
     | some (n,e)=>match lQ P e with
       | some k=>some ⟨0≤i∧i<n,pl x++pl ix,[],.ep ds (q+i.toNat*k)⟩
       | none=>none
     | none=>none
   | _=>none
 | _=>none
def Q9(P:Program)(ty:TypeId)(x ix:Operand)(v i:TV):Option Eff:=
 match i with
 | .d (.int _ i)=>match v with
   | .agg vs=>match kN P ty with
     | some (n,e)=>match lQ P e with
       | some k=>match partT P e vs (i.toNat*k)with
         | some v=>some ⟨0≤i∧i<n,pl x++pl ix,[],v⟩
         | none=>none
       | none=>none
     | none=>none
   | .d (.str s)=>some ⟨isStr P ty=true∧0≤i∧i<s.size,pl x++pl ix,[],.d (.int .u8 (s.data.getD i.toNat 0).toNat)⟩
   | _=>none
 | _=>none
def Kv(x:Operand)(i:Nat):TV→Option Eff
 | .rG vs=>match vs[i]? with
   | some v=>some ⟨True,pl x,[],v⟩
   | none=>none
 | _=>none
def cellsOf(P:Program)(ty:TypeId)(cs:List TV)(q:Nat):Option (Prop×TV):=
 match uJ P ty with
 | some false=>match cs[q]? with
   | some v=>some (True,v)
   | none=>none
 | some true=>match lQ P ty with
   | some z=>some (q+z≤cs.length,.agg ((cs.drop q).take z))
   | none=>none
 | none=>none
def WJ(P:Program)(t:S)(ty:TypeId)(x:Operand):TV→Option Eff
 | .ptr p q=>match t p with
   | .box cs=>match cellsOf P ty cs q with
     | some (C,v)=>some ⟨C,pl x++[p],[],v⟩
     | none=>none
   | _=>none
 | .ep e q=>match cellsOf P ty (e.map .d) q with
   | some (C,v)=>some ⟨C,pl x,[],v⟩
   | none=>none
 | .rQ id n i q=>match t (.o id)with
   | .row _ _ es _=>match cellsOf P ty (es.getD i []) q with
     | some (C,v)=>some ⟨C∧n=es.length∧i<es.length,pl x++[.o id],[],v⟩
     | none=>none
   | .wI _ _ es=>match cellsOf P ty (es.getD i []) q with
     | some (C,v)=>some ⟨C∧n=es.length∧i<es.length,pl x++[.o id],[],v⟩
     | none=>none
   | _=>none
 | _=>none
def Rf(P:Program)(t:S)(ty:TypeId)(x y:Operand)(vs:List TV):TV→Option Eff
 | .ptr p q=>match t p with
   | .box cs=>some ⟨lQ P ty=some vs.length∧q+vs.length≤cs.length∧∀c∈vs,c.one=true,pl x++(pl y++[p]),[(p,.box (setAt cs q vs))],.junk⟩
   | _=>none
 | .rQ id n i q=>match t (.o id)with
   | .row e k es false=>some ⟨lQ P ty=some vs.length∧n=es.length∧i<es.length∧q+vs.length≤(es.getD i []).length∧∀c∈vs,c.one=true,pl x++(pl y++[.o id]),[(.o id,.row e k (es.set i (setAt (es.getD i []) q vs)) false)],.junk⟩
   | _=>none
 | _=>none
def J4(P:Program)(ty:TypeId):Bool:=
 match P.underlying ty with
 | some (.map _ _)=>true
 | _=>false
def ZR(P:Program)(t:S)(ty:TypeId)(x:Operand):TV→Option Eff
 | .d (.sl xs)=>some ⟨(uY P ty).isSome=true,pl x,[],.d (.int .i64 xs.length)⟩
 | .c (.slice _ n _)=>some ⟨(uY P ty).isSome=true,pl x,[],.d (.int .i64 n)⟩
 | .d (.str s)=>some ⟨isStr P ty=true,pl x,[],.d (.int .i64 s.size)⟩
 | .aB id n=>match t (.o id)with
   | .row _ _ es _=>some ⟨(uY P ty).isSome=true∧n=es.length,pl x++[.o id],[],.d (.int .i64 n)⟩
   | .wI _ _ es=>some ⟨(uY P ty).isSome=true∧n=es.length,pl x++[.o id],[],.d (.int .i64 n)⟩
   | _=>none
 | .mref id=>match t (.o id)with
   | .jX es _ _ _=>some ⟨J4 P ty=true,pl x++[.o id],[],.d (.int .i64 es.length)⟩
   | _=>none
 | .d (.mp ks _)=>some ⟨J4 P ty=true,pl x,[],.d (.int .i64 ks.length)⟩
 | _=>none
def aci(t:S):TV→Option (List Pl×List (List TV)×Prop)
 | .d (.sl ys)=>some ([],dd ys,True)
 | .c (.slice _ n _)=>some ([],[],n=0)
 | .aB id n=>match t (.o id)with
   | .row _ _ es _=>some ([.o id],es,n=es.length)
   | _=>none
 | _=>none
def Oi(P:Program)(t:S)(d:Nat)(sty:TypeId)(x y:Operand)(v:TV):Option Eff:=
 match uY P sty with
 | none=>none
 | some e=>match lQ P e,Hy P e,tC P e with
   | some k,some b,some z=>match aci t (ev t y)with
     | some (rp,ys,Cs)=>match v with
       | .c (.slice none 0 0)=>some ⟨(Cs∧(lH z).length=k∧0<k)∧t (.o d) = .none∧Ll k b 0 ys,pl x++(pl y++(.o d::rp)),[(.o d,.row e k ys false)],.aB d ys.length⟩
       | .sx xs=>if ys.length=0 then some ⟨Cs∧ys.length=0,pl x++(pl y++rp),[],.d (.sl xs)⟩else some ⟨(Cs∧(lH z).length=k∧0<k)∧(t (.o d) = .none∧dLen k xs)∧0<ys.length∧Ll k b xs.length ys,pl x++(pl y++(.o d::rp)),[(.o d,.row e k (dd xs++ys) false)],.aB d (xs.length+ys.length)⟩
       | .aB id n=>match t (.o id)with
         | .row e' k' es sh=>some ⟨(Cs∧(lH z).length=k∧0<k∧e'=e∧k'=k)∧n=es.length∧Ll k b n ys,pl x++(pl y++(.o id::rp)),[(.o id,.row e k (es++ys) sh)],.aB id (n+ys.length)⟩
         | .wI e' k' es=>some ⟨(Cs∧(lH z).length=k∧0<k∧e'=e∧k'=k)∧n=es.length∧Ll k b n ys,pl x++(pl y++(.o id::rp)),[(.o id,.wI e k (es++ys))],.aB id (n+ys.length)⟩
         | _=>none
       | _=>none
     | none=>none
   | _,_,_=>none
def QZ(P:Program)(t:S)(d:Nat)(ty:TypeId):Option Eff:=
 match tC P ty with
 | some z=>some ⟨(lH z).all (·.oneCell')=true∧t (.o d) = .none,[.o d],[(.o d,.box ((lH z).map lu))],.ptr (.o d) 0⟩
 | none=>none
def ZQ(t:S)(d:Nat)(x:Operand):Option Eff:=
 some ⟨t (.o d) = .none∧∀c∈(ev t x).cells,c.one=true,pl x++[.o d],[(.o d,.box (ev t x).cells)],.ptr (.o d) 0⟩
def Q5(P:Program)(t:S)(ty:TypeId)(ps:List (Nat×Operand)):Option Eff:=
 match Jd P ty with
 | some fs=>match tC P ty with
   | some z=>match G9 (fun i=>fs[i]?) ((lH z).map lu) (ps.map fun x=>(x.1,ev t x.2))with
     | some r=>some ⟨∀p∈ps.map (fun x=>(x.1,ev t x.2)),∀c∈p.2.cells,c.one=true,ps.flatMap (fun x=>pl x.2),[],.agg r⟩
     | none=>none
   | none=>none
 | none=>match arF P ty with
   | some k=>match tC P ty with
     | some z=>match G9 (fun i=>some (i*k,k)) ((lH z).map lu) (ps.map fun x=>(x.1,ev t x.2))with
       | some r=>some ⟨∀p∈ps.map (fun x=>(x.1,ev t x.2)),∀c∈p.2.cells,c.one=true,ps.flatMap (fun x=>pl x.2),[],.agg r⟩
       | none=>none
     | none=>none
   | none=>none
def Eo(P:Program)(ow:List Nat)(t:S)(d:Nat)(ty:TypeId)(n:Nat)(ps:List (Nat×Operand)):Option Eff:=
 match uY P ty with
 | none=>none
 | some e=>match lQ P e,tC P e with
   | some k,some _=>if ow.contains d then
     some ⟨AX ps n=true∧t (.o d) = .none∧(∀e∈ps.map (fun x=>(ev t x.2).cells),e.length=k∧∀c∈e,c.one=true)∧n*k≤16777216∧0<k,ps.flatMap (fun x=>pl x.2)++[.o d],[(.o d,.row e k (ps.map fun x=>(ev t x.2).cells) false)],.aB d n⟩
     else match eu (ps.map fun x=>(ev t x.2).cells)with
      | some xss=>some ⟨AX ps n=true∧(∀e∈ps.map (fun x=>(ev t x.2).cells),e.length=k∧∀c∈e,c.one=true)∧n*k≤16777216,ps.flatMap (fun x=>pl x.2),[],.d (.sl xss)⟩
      | none=>none
   | _,_=>none
def Q_(P:Program)(t:S)(ty:TypeId)(x:Operand)(lo hi:Option Operand):TV→Option Eff
 | .d (.sl xs)=>match uY P ty with
   | some e=>match lQ P e with
     | some k=>match WB xs.length (lo.map (ev t)) (hi.map (ev t))with
       | some (C,l,h)=>some ⟨C∧∀e∈xs,e.length=k,pl x++(NT lo++NT hi),[],.d (.sl ((xs.take h).drop l))⟩
       | none=>none
     | none=>none
   | none=>none
 | .d (.str s)=>match WB s.size (lo.map (ev t)) (hi.map (ev t))with
   | some (C,l,h)=>some ⟨isStr P ty=true∧C,pl x++(NT lo++NT hi),[],.d (.str (s.extract l h))⟩
   | none=>none
 | .aB id n=>match t (.o id)with
   | .wI _ k es=>match uY P ty with
     | some e=>match lo,hi with
       | some lo,none=>match ev t lo with
         | .d (.int _ l)=>some ⟨lQ P e=some k∧n=es.length∧0≤l∧l≤es.length,pl x++(pl lo++[.o id]),[],.NS id n l.toNat⟩
         | _=>none
       | _,_=>none
     | none=>none
   | _=>none
 | _=>none
def Oo(P:Program)(ty:TypeId)(x hi mx:Operand):TV→TV→TV→Option Eff
 | .d (.sl xs),.d (.int _ h),.d (.int _ m)=>match uY P ty with
   | some e=>match lQ P e with
     | some k=>some ⟨(0≤h∧h≤xs.length∧m=h)∧∀e∈xs,e.length=k,pl x++(pl hi++pl mx),[],.sx (xs.take h.toNat)⟩
     | none=>none
   | none=>none
 | _,_,_=>none
def EK(mx:Bool)(x y:Operand):TV→TV→Option Eff
 | .d (.int k a),.d (.int _ b)=>some ⟨True,pl x++pl y,[],if mx then afn k a b else aaH k a b⟩
 | _,_=>none
def Oj(P:Program)(t:S)(ty:TypeId)(x ix:Operand)(vx vi:TV):Option Eff:=
 match vx with
 | .mref id=>match t (.o id)with
   | .jX es c _ _=>match toKey vi with
     | some k=>match YR P ty k.length with
       | some _=>some ⟨DR k.length es,pl x++(pl ix++[.o id]),[(.o id,.jX (aaB es k) c none none)],.rG []⟩
       | none=>none
     | none=>none
   | _=>none
 | _=>none
def WG(P:Program)(t:S)(d:Nat)(c:Call):Option Eff:=
 match c.callee,c.args.toList,c.argTypes.toList with
 | .builtin .len,[x],[ty]=>ZR P t ty x (ev t x)
 | .builtin .append,[x,y],[sty,alb]=>if sty=alb then Oi P t d sty x y (ev t x)else none
 | .builtin .min,[x,y],_=>EK false x y (ev t x) (ev t y)
 | .builtin .max,[x,y],_=>EK true x y (ev t x) (ev t y)
 | .builtin .delete,[x,y],[ty,_]=>Oj P t ty x y (ev t x) (ev t y)
 | _,_,_=>none
def WI(t:S)(fn:Fn)(first captured:Array Operand):Option Eff:=
 match fn,first.toList with
 | .func f,[]=>some ⟨True,captured.toList.flatMap pl,[],.clo f (captured.toList.map (ev t))⟩
 | _,_=>none
def mpE(P:Program)(ty:TypeId):Option TypeId:=
 match P.underlying ty with
 | some (.map k e)=>match P.underlying k with
   | some (.int _)=>some e
   | _=>none
 | _=>none
def Kw(ow:List Nat)(t:S)(d:Nat):Option Operand→Option Eff
 | none=>if(ow.any fun n=>n==d+3000000)=true then some ⟨t (.o d) = .none,[.o d],[(.o d,.jX [] 0 none none)],.mref d⟩else some ⟨t (.o d) = .none,[.o d],[(.o d,.mp [])],.mref d⟩
 | some _=>none
def Om(P:Program)(t:S)(ty:TypeId)(x ix:Operand)(ck:Bool)(vx vi:TV):Option Eff:=
 match vx with
 | .mref id=>match t (.o id)with
   | .mp es=>match vi with
     | .d (.int kd k)=>match mpE P ty with
       | some e=>match tC P e with
         | some z=>some ⟨kd = .i64,pl x++(pl ix++[.o id]),[],lkV ck (JR es k) (lu z)⟩
         | none=>none
       | none=>none
     | _=>none
   | .jX es _ _ _=>match toKey vi with
     | some k=>match YR P ty k.length with
       | some e=>match tC P e with
         | some z=>some ⟨DR k.length es,pl x++(pl ix++[.o id]),[],UW ck (uq es k) (lu z)⟩
         | none=>none
       | none=>none
     | none=>none
   | _=>none
 | .d (.mp ks vs)=>match toKey vi with
   | some k=>match YR P ty k.length with
     | some e=>match tC P e with
       | some z=>some ⟨DR k.length (vI ks vs),pl x++pl ix,[],UW ck (uq (vI ks vs) k) (lu z)⟩
       | none=>none
     | none=>none
   | none=>none
 | _=>none
def Gl(P:Program)(t:S)(ty:TypeId)(x ix y:Operand)(vx vi vy:TV):Option Eff:=
 match vx with
 | .mref id=>match t (.o id)with
   | .mp es=>match vi with
     | .d (.int kd k)=>match vy with
       | .d d=>match mpE P ty with
         | some _=>some ⟨kd = .i64,pl x++(pl ix++(pl y++[.o id])),[(.o id,.mp (OE es k d))],.junk⟩
         | none=>none
       | _=>none
     | _=>none
   | .jX es c _ _=>match toKey vi with
     | some k=>match YR P ty k.length with
       | some _=>some ⟨DR k.length es,pl x++(pl ix++(pl y++[.o id])),[(.o id,.jX (zu es k vy) c none none)],.junk⟩
       | none=>none
     | none=>none
   | _=>none
 | _=>none
def Ol(P:Program)(t:S)(ty:TypeId)(x ix y:Operand)(vx vi vy:TV):Option Eff:=
 match vx with
 | .mref id=>match t (.o id)with
   | .jX es c _ _=>match toKey vi with
     | some k=>match YR P ty k.length with
       | some _=>some ⟨DR k.length es,pl x++(pl ix++(pl y++[.o id])),[(.o id,.jX (zu es k vy) c none none)],.junk⟩
       | none=>none
     | none=>none
   | _=>none
 | _=>none
def Ia(P:Program)(t:S)(ty:TypeId)(x ix:Operand)(vx vi:TV):Option Eff:=
 match vx with
 | .mref id=>match t (.o id)with
   | .jX es c _ _=>match toKey vi with
     | some k=>match YR P ty k.length with
       | some e=>match tC P e with
         | some z=>some ⟨DR k.length es,pl x++(pl ix++[.o id]),[(.o id,.jX (zu es k (UW false (uq es k) (lu z))) (c+1) (some k) none)],.rG [UW false (uq es k) (lu z),.aB id (c+1)]⟩
         | none=>none
       | none=>none
     | none=>none
   | _=>none
 | _=>none
def Ep(t:S)(x ix y:Operand)(vx vi vy:TV):Option Eff:=
 match vx with
 | .mref id=>match t (.o id)with
   | .jX es c (some k) _=>match vi with
     | .aB id' n=>some ⟨id'=id∧n=c,pl x++(pl ix++(pl y++[.o id])),[(.o id,.jX (zu es k vy) c (some k) none)],.junk⟩
     | _=>none
   | _=>none
 | _=>none
def Q7(t:S)(x:Operand)(vx:TV):Option Eff:=
 match vx with
 | .ptr (.o d) off=>match t (.o d)with
   | .DK id s _ (some k)=>match t (.o id)with
     | .jX es _ _ (some s')=>match uq es k with
       | some v=>some ⟨off=0∧s'=s,pl x++[.o d,.o id],[],.rG [Pz k,v]⟩
       | none=>none
     | .IE es s'=>match uq es k with
       | some v=>some ⟨off=0∧s'=s,pl x++[.o d,.o id],[],.rG [Pz k,v]⟩
       | none=>none
     | _=>none
   | _=>none
 | _=>none
def Gj(P:Program)(t:S)(d:Nat)(ty:TypeId)(lx cx:Operand):TV→TV→Option Eff
 | .d (.int kd n),.d (.int kd' n')=>match uY P ty with
   | some e=>match lQ P e,Hy P e,tC P e with
     | some k,some b,some z=>some ⟨(kd = .i64∧kd' = .i64∧n'=n)∧t (.o d) = .none∧0≤n∧n≤1000000∧b*n≤281474976710656∧(lH z).length=k∧0<k∧(lH z).all (·.oneCell')=true,pl lx++(pl cx++[.o d]),
       [(.o d,.row e k (List.replicate n.toNat ((lH z).map lu)) false)],.aB d n.toNat⟩
     | _,_,_=>none
   | none=>none
 | _,_=>none
theorem YQ{P:Program}{ty e:TypeId}(h:mpE P ty=some e):∃k kd,P.underlying ty=some (.map k e)∧P.underlying k=some (.int kd):=by
 grind[mpE,Option.some.injEq]
def eff(P:Program)(ow:List Nat)(t:S)(o:Oper):Option Eff:=
 match o.op with
 | .move x|.assign x=>some ⟨True,pl x,[],ev t x⟩
 | .pick c x y=>WL t c x y (ev t c)
 | .binOp op ty x y _=>ZP P t op ty x y
 | .unOp op _ x=>aeu t op x
 | .convert sr ds x=>WH P sr ds x (ev t x)
 | .nilCheck x=>ZT t x (ev t x)
 | .fieldAddr s x f=>Gh P t s f x (ev t x)
 | .field ty x f=>Q8 P ty f x (ev t x)
 | .indexAddr ty x ix=>Gi P t ty x ix (ev t x) (ev t ix)
 | .index ty x ix=>Q9 P ty x ix (ev t x) (ev t ix)
 | .extract x i=>Kv x i (ev t x)
 | .load ty x=>WJ P t ty x (ev t x)
 | .store ty x y=>Rf P t ty x y (ev t y).cells (ev t x)
 | .alloc ty=>QZ P t (o.dst.getD 0) ty
 | .box _ x=>ZQ t (o.dst.getD 0) x
 | .build ty ps=>Q5 P t ty ps.toList
 | .buildSlice ty n ps=>Eo P ow t (o.dst.getD 0) ty n ps.toList
 | .slice ty x lo hi none=>Q_ P t ty x lo hi (ev t x)
 | .slice ty x none (some hi) (some mx)=>Oo P ty x hi mx (ev t x) (ev t hi) (ev t mx)
 | .makeFunc fn first captured=>WI t fn first captured
 | .call c=>WG P t (o.dst.getD 0) c
 | .makeMap _ r=>Kw ow t (o.dst.getD 0) r
 | .lookup ty x ix ck=>Om P t ty x ix ck (ev t x) (ev t ix)
 | .mapUpdate ty x ix y=>Gl P t ty x ix y (ev t x) (ev t ix) (ev t y)
 | .makeSlice ty lx cx=>Gj P t (o.dst.getD 0) ty lx cx (ev t lx) (ev t cx)
 | .insert ty x ix y=>Ol P t ty x ix y (ev t x) (ev t ix) (ev t y)
 | .mapEntry ty x ix=>Ia P t ty x ix (ev t x) (ev t ix)
 | .entryStore _ x ix y=>Ep t x ix y (ev t x) (ev t ix) (ev t y)
 | .entry x=>Q7 t x (ev t x)
 | _=>none
section
variable {P:Program} {A:eX}
theorem fG.weak{o:Oper}{t:S}{C C':Prop}{rp:List Pl}{W:List (Pl×It)}{v:TV}(h:fG P A o t ⟨C',rp,W,v⟩)(hC:C→C'):fG P A o t ⟨C,rp,W,v⟩:=fun c=>h (hC c)
theorem src_of{t:S}{y:TV}{rp:List Pl}{ys:List (List TV)}{C:Prop}(h:aci t y=some (rp,ys,C))(hC:C):Src t y rp ys:=by
 unfold aci at h;split at h
 ·obtain⟨rfl,rfl,rfl⟩:=h;exact .sl _
 ·obtain⟨rfl,rfl,rfl⟩:=h;subst hC;exact .nil _ _
 ·split at h
  ·rename_i hr;obtain⟨rfl,rfl,rfl⟩:=h;subst hC;exact .row _ _ _ _ _ hr
  trivial
 trivial
theorem Ju{α:Type}{x:Option α}(h:x.isSome=true):∃a,x=some a:=Option.isSome_iff_exists.1 h
theorem aey{ow:List Nat}{t:S}{o:Oper}{e:Eff}(h:eff P ow t o=some e):fG P A o t e:=by
 unfold eff at h;split at h
 ·grind[Option.some.injEq,Yi]
 ·grind[Option.some.injEq,Yi]
 ·rename_i ho;unfold WL at h
  grind[Option.some.injEq,aez]
 ·rename_i ho;unfold ZP at h;split at h
  ·rename_i hx hy;split at h
   ·rename_i r hr;split at h
    ·simp only[Option.some.injEq]at h;subst h;exact .of fun hg=>by simpa using abz ho (.inl rfl) hg hx hy hr
    ·simp only[Option.some.injEq]at h;subst h;exact .of fun hg=>by simpa using abz ho (.inr rfl) hg hx hy hr
    trivial
   trivial
  grind[Option.some.injEq,agN]
 ·grind[aeu,Option.some.injEq,aiD]
 ·rename_i ho;unfold WH at h;split at h
  ·grind[Option.some.injEq,aev]
  ·rename_i hx;split at h
   ·rename_i hs hk;simp only[Option.some.injEq]at h;subst h;exact .of fun hc=>acQ ho hs hc.1 hc.2 hx hk
   trivial
  trivial
 ·rename_i ho;unfold ZT at h
  grind[Option.some.injEq,WQ,Yj]
 ·rename_i ho;unfold Gh at h;split at h
  ·trivial
  ·rename_i hf;split at h
   ·trivial
   ·rename_i hz;split at h
    ·rename_i hx;simp only[Option.some.injEq]at h;subst h;exact .of fun hz0=>JY ho hf hz hz0 (.inl ⟨_,_,hx,rfl⟩)
    ·rename_i hx;simp only[Option.some.injEq]at h;subst h;exact .of fun hz0=>JY ho hf hz hz0 (.inr ⟨_,_,hx,rfl⟩)
    ·rename_i hx;split at h
     ·rename_i ht;simp only[Option.some.injEq]at h;subst h;exact .of fun hc=>(LG ho hf hz hc.1 hx ht).weak fun _=>hc.2
     trivial
    trivial
 ·rename_i ho;unfold Q8 at h
  grind[Option.some.injEq,acR]
 ·rename_i ho;unfold Gi at h;split at h
  ·rename_i hi;split at h
   ·grind[Option.some.injEq,UC]
   ·rename_i hx;split at h
    ·rename_i ht;split at h
     ·rename_i he;simp only[Option.some.injEq]at h;subst h;exact .of fun hc=>(LK ho he hc.1 hx hi ht).weak fun _=>hc.2
     trivial
    ·rename_i ht;split at h
     ·rename_i he;simp only[Option.some.injEq]at h;subst h;exact .of fun hc=>(LJ ho he hc.1 hx hi ht).weak fun _=>hc.2
     trivial
    trivial
   ·grind[Option.some.injEq,LH]
   ·grind[Option.some.injEq,Oq]
   trivial
  trivial
 ·rename_i ho;unfold Q9 at h;split at h
  ·rename_i hi;split at h
   ·grind[Option.some.injEq,UD]
   ·rename_i hx;simp only[Option.some.injEq]at h;subst h;exact .of fun hc=>(UE ho hc.1 hx hi).weak fun _=>hc.2
   trivial
  trivial
 ·rename_i ho;unfold Kv at h
  grind[Option.some.injEq,Ya]
 ·rename_i ho;unfold WJ cellsOf at h;split at h
  ·rename_i hx;split at h
   ·rename_i ht;split at h
    ·rename_i hc;simp only[Option.some.injEq]at h;subst h;split at hc
     ·rename_i hs;split at hc
      ·rename_i hv;simp only[Option.some.injEq,Prod.mk.injEq]at hc;obtain⟨rfl,rfl⟩:=hc
       simp_all[LM]
      trivial
     ·rename_i hs;split at hc
      ·rename_i hz;simp only[Option.some.injEq,Prod.mk.injEq]at hc;obtain⟨rfl,rfl⟩:=hc;exact .of fun hl=>LM ho hx ht (.inr ⟨_,hs,hz,hl,rfl⟩)
      trivial
     trivial
    trivial
   trivial
  ·rename_i hx;split at h
   ·rename_i hc;simp only[Option.some.injEq]at h;subst h;split at hc
    ·rename_i hs;split at hc
     ·rename_i hv;simp only[Option.some.injEq,Prod.mk.injEq]at hc;obtain⟨rfl,rfl⟩:=hc
      grind[Option.map_eq_some_iff,Pm]
     trivial
    ·rename_i hs;split at hc
     ·rename_i hz;simp only[Option.some.injEq,Prod.mk.injEq]at hc;obtain⟨rfl,rfl⟩:=hc;exact .of fun hl=>Pm ho hx (.inr ⟨_,hs,hz,by simp_all,by simp⟩)
     trivial
    trivial
   trivial
  ·rename_i hx;split at h
   ·rename_i ht;split at h
    ·rename_i hc;simp only[Option.some.injEq]at h;subst h;split at hc
     ·rename_i hs;split at hc
      ·rename_i hv;simp only[Option.some.injEq,Prod.mk.injEq]at hc;obtain⟨rfl,rfl⟩:=hc
       grind[LQ]
      trivial
     ·rename_i hs;split at hc
      ·rename_i hz;simp only[Option.some.injEq,Prod.mk.injEq]at hc;obtain⟨rfl,rfl⟩:=hc;exact .of fun hl=>(LQ ho hx ht (.inr ⟨_,hs,hz,hl.1,rfl⟩)).weak fun _=>hl.2
      trivial
     trivial
    trivial
   ·rename_i ht;split at h
    ·rename_i hc;simp only[Option.some.injEq]at h;subst h;split at hc
     ·rename_i hs;split at hc
      ·rename_i hv;simp only[Option.some.injEq,Prod.mk.injEq]at hc;obtain⟨rfl,rfl⟩:=hc
       grind[LP]
      trivial
     ·rename_i hs;split at hc
      ·rename_i hz;simp only[Option.some.injEq,Prod.mk.injEq]at hc;obtain⟨rfl,rfl⟩:=hc;exact .of fun hl=>(LP ho hx ht (.inr ⟨_,hs,hz,hl.1,rfl⟩)).weak fun _=>hl.2
      trivial
     trivial
    trivial
   trivial
  trivial
 ·rename_i ho;unfold Rf at h;split at h
  ·rename_i hx;split at h
   ·rename_i ht;simp only[Option.some.injEq]at h;subst h;exact .of fun hc=>(UL ho hx ht rfl hc.1).weak fun _=>hc.2
   trivial
  ·rename_i hx;split at h
   ·rename_i ht;simp only[Option.some.injEq]at h;subst h;exact .of fun hc=>(UM ho hx ht rfl hc.1).weak fun _=>hc.2
   trivial
  trivial
 ·rename_i ho;unfold QZ at h;split at h
  ·rename_i hz;simp only[Option.some.injEq]at h;subst h;exact .of fun hc=>(acO ho hz hc.1).weak fun _=>hc.2
  trivial
 ·grind[ZQ,Option.some.injEq,agO]
 ·rename_i ho;unfold Q5 at h;split at h
  ·rename_i hf;split at h
   ·rename_i hz;split at h
    ·rename_i hr;simp only[Option.some.injEq]at h;subst h;exact acP (by rw[ho]) hf hz hr
    ·simp at h
   ·simp at h
  ·split at h
   ·rename_i hf;split at h
    ·rename_i hz;split at h
     ·rename_i hr;simp only[Option.some.injEq]at h;subst h;exact ZU (by rw[ho]) hf hz hr
     ·simp at h
    ·simp at h
   ·simp at h
 ·rename_i ho;unfold Eo at h;split at h
  ·simp at h
  ·rename_i he;split at h
   ·rename_i hk hz;split at h
    ·simp only[Option.some.injEq]at h;subst h;exact .of fun hc=>(Ky (by rw[ho]) he hk hz hc.1).weak fun _=>hc.2
    ·split at h
     ·rename_i hx;simp only[Option.some.injEq]at h;subst h;exact .of fun hc=>(Rl (by rw[ho]) he hk hz hc.1 hx).weak fun _=>hc.2
     ·simp at h
   ·simp at h
 ·rename_i ho;unfold Q_ at h;split at h
  ·rename_i hx;split at h
   ·rename_i he;split at h
    ·rename_i hk;split at h
     ·rename_i hc;simp only[Option.some.injEq]at h;subst h;exact WR ho he hk hx hc
     ·simp at h
    ·simp at h
   ·simp at h
  ·rename_i hx;split at h
   ·rename_i hc;simp only[Option.some.injEq]at h;subst h;exact .of fun hC=>(UK ho hC.1 hx hc).weak fun _=>hC.2
   ·simp at h
  ·rename_i hx;split at h
   ·rename_i ht;split at h
    ·rename_i he;split at h
     ·split at h
      ·rename_i hl;simp only[Option.some.injEq]at h;subst h;exact .of fun hC=>(UJ ho he hC.1 hx hl ht).weak fun _=>hC.2
      ·simp at h
     ·simp at h
    ·simp at h
   ·simp at h
  ·simp at h
 ·rename_i ho;unfold Oo at h;split at h
  ·rename_i hx hh hm;split at h
   ·rename_i he;split at h
    ·rename_i hk;simp only[Option.some.injEq]at h;subst h;exact ZX ho he hk hx hh hm
    ·simp at h
   ·simp at h
  ·simp at h
 ·rename_i ho;unfold WI at h;split at h
  ·rename_i caps hf;simp only[Option.some.injEq]at h;subst h;refine WM ?_;rw[ho]
   congr 1
   exact Array.toList_eq_nil_iff.1 hf
  ·simp at h
 ·rename_i c ho;unfold WG at h;split at h
  ·rename_i x ty hc ha ht;have hcall:o.op = .call {callee:=.builtin .len,args:=#[x],argTypes:=#[ty]}:=by
    rw[ho];congr 1
    obtain⟨c1,c2,c3⟩:=c;simp only[Call.mk.injEq];exact⟨hc,Array.toList_inj.1 ha,Array.toList_inj.1 ht⟩
   unfold ZR at h;split at h
   ·rename_i hx;simp only[Option.some.injEq]at h;subst h;exact .of fun hs=>by obtain⟨e,he⟩:=Ju hs;exact ZV hcall he hx
   ·rename_i hx;simp only[Option.some.injEq]at h;subst h;exact .of fun hs=>by obtain⟨e,he⟩:=Ju hs;exact Yb hcall he hx
   ·rename_i hx;simp only[Option.some.injEq]at h;subst h;exact .of fun hs=>Ye hcall hs hx
   ·rename_i hx;split at h
    ·rename_i hr;simp only[Option.some.injEq]at h;subst h;exact .of fun hs=>by obtain⟨e,he⟩:=Ju hs.1;exact(Yd hcall he hx hr).weak fun _=>hs.2
    ·rename_i hr;simp only[Option.some.injEq]at h;subst h;exact .of fun hs=>by obtain⟨e,he⟩:=Ju hs.1;exact(Yc hcall he hx hr).weak fun _=>hs.2
    ·simp at h
   ·rename_i hx;split at h
    ·rename_i hr;simp only[Option.some.injEq]at h;subst h;exact .of fun hs=>by
      unfold J4 at hs;split at hs
      ·rename_i hu;exact(aew hcall hu hx hr).weak fun _=>trivial
      ·simp at hs
    ·simp at h
   ·rename_i hx;simp only[Option.some.injEq]at h;subst h;exact .of fun hs=>by
     unfold J4 at hs;split at hs
     ·rename_i hu;exact(aex hcall hu hx).weak fun _=>trivial
     ·simp at hs
   ·simp at h
  ·rename_i x y sty alb hc ha ht;split at h
   ·rename_i he;subst he;have hcall:o.op = .call {callee:=.builtin .append,args:=#[x,y],argTypes:=#[sty,sty]}:=by
     rw[ho];congr 1
     obtain⟨c1,c2,c3⟩:=c;simp only[Call.mk.injEq];exact⟨hc,Array.toList_inj.1 ha,Array.toList_inj.1 ht⟩
    unfold Oi at h;split at h
    ·simp at h
    ·rename_i he;split at h
     ·rename_i hk hb hz;split at h
      ·rename_i hs;split at h
       ·rename_i hx;simp only[Option.some.injEq]at h;subst h;exact .of fun hC=>(Rh hcall hx (src_of hs hC.1.1) he hk hb hz hC.1.2.1 hC.1.2.2).weak fun _=>hC.2
       ·rename_i hx;split at h
        ·simp only[Option.some.injEq]at h;subst h;exact .of fun hC=>(Rk hcall hx (src_of hs hC.1) he hk).weak fun _=>hC.2
        simp only[Option.some.injEq]at h;subst h;exact .of fun hC=>(UA hcall hx (src_of hs hC.1.1) he hk hb hz hC.1.2.1 hC.1.2.2).weak fun _=>hC.2
       ·rename_i hx;split at h
        ·rename_i ht;simp only[Option.some.injEq]at h;subst h;refine .of fun hC=>?_
         obtain⟨⟨h1,h2,h3,h4,h5⟩,h6⟩:=hC;subst h4;subst h5;exact(Rj hcall hx ht (src_of hs h1) he hk hb hz h2 h3).weak fun _=>h6
        ·rename_i ht;simp only[Option.some.injEq]at h;subst h;refine .of fun hC=>?_
         obtain⟨⟨h1,h2,h3,h4,h5⟩,h6⟩:=hC;subst h4;subst h5;exact(Ri hcall hx ht (src_of hs h1) he hk hb hz h2 h3).weak fun _=>h6
        ·simp at h
       ·simp at h
      ·simp at h
     ·simp at h
   ·simp at h
  ·rename_i x y hc ha;have hcall:o.op = .call {callee:=.builtin .min,args:=#[x,y],argTypes:=c.argTypes}:=by
    rw[ho];congr 1
    obtain⟨c1,c2,c3⟩:=c;simp only[Call.mk.injEq,and_true];exact⟨hc,Array.toList_inj.1 ha⟩
   unfold EK at h;split at h
   ·rename_i hx hy;simp only[Option.some.injEq]at h;subst h;exact agQ hcall hx hy
   ·simp at h
  ·rename_i x y hc ha;have hcall:o.op = .call {callee:=.builtin .max,args:=#[x,y],argTypes:=c.argTypes}:=by
    rw[ho];congr 1
    obtain⟨c1,c2,c3⟩:=c;simp only[Call.mk.injEq,and_true];exact⟨hc,Array.toList_inj.1 ha⟩
   unfold EK at h;split at h
   ·rename_i hx hy;simp only[Option.some.injEq]at h;subst h;exact agP hcall hx hy
   ·simp at h
  ·rename_i x y ty kty hc ha ht;have hcall:o.op = .call {callee:=.builtin .delete,args:=#[x,y],argTypes:=#[ty,kty]}:=by
    rw[ho];congr 1
    obtain⟨c1,c2,c3⟩:=c;simp only[Call.mk.injEq];exact⟨hc,Array.toList_inj.1 ha,Array.toList_inj.1 ht⟩
   unfold Oj at h;split at h
   ·rename_i hx;split at h
    ·rename_i hm;split at h
     ·rename_i hk;split at h
      ·rename_i he;simp only[Option.some.injEq]at h;subst h;exact X_ hcall he hx hm hk
      ·simp at h
     ·simp at h
    ·simp at h
   ·simp at h
  ·simp at h
 ·rename_i ho;unfold Kw at h;split at h
  ·split at h
   ·simp only[Option.some.injEq]at h;subst h;exact WO ho
   ·simp only[Option.some.injEq]at h;subst h;exact Yh ho
  ·simp at h
 ·rename_i ho;unfold Om at h;split at h
  ·rename_i hx;split at h
   ·rename_i ht;split at h
    ·rename_i hi;split at h
     ·rename_i he;split at h
      ·rename_i hz;simp only[Option.some.injEq]at h;subst h;obtain⟨k,kd,h1,h2⟩:=YQ he;exact .of fun hC=>by
        subst hC;exact(ZW ho h1 h2 hz hx ht hi).weak fun _=>trivial
      ·simp at h
     ·simp at h
    ·simp at h
   ·rename_i ht;split at h
    ·rename_i hi;split at h
     ·rename_i he;split at h
      ·rename_i hz;simp only[Option.some.injEq]at h;subst h;exact Yf ho he hz hx ht hi
      ·simp at h
     ·simp at h
    ·simp at h
   ·simp at h
  ·rename_i hx;split at h
   ·rename_i hi;split at h
    ·rename_i he;split at h
     ·rename_i hz;simp only[Option.some.injEq]at h;subst h;exact Yg ho he hz hx hi
     ·simp at h
    ·simp at h
   ·simp at h
  ·simp at h
 ·rename_i ho;unfold Gl at h;split at h
  ·rename_i hx;split at h
   ·rename_i ht;split at h
    ·rename_i hi;split at h
     ·rename_i hy;split at h
      ·rename_i he;simp only[Option.some.injEq]at h;subst h;obtain⟨k,kd,h1,h2⟩:=YQ he;exact .of fun hC=>by
        subst hC;exact(UH ho h1 h2 hx ht hi hy).weak fun _=>trivial
      ·simp at h
     ·simp at h
    ·simp at h
   ·rename_i ht;split at h
    ·rename_i hi;split at h
     ·rename_i he;simp only[Option.some.injEq]at h;subst h;exact Ib (.inl ho) he hx ht hi rfl
     ·simp at h
    ·simp at h
   ·simp at h
  ·simp at h
 ·rename_i ho;unfold Gj at h;split at h
  ·rename_i hl hc;split at h
   ·rename_i he;split at h
    ·rename_i hk hb hz;simp only[Option.some.injEq]at h;subst h;exact .of fun hC=>by
      obtain⟨⟨rfl,rfl,rfl⟩,hC'⟩:=hC;exact(UF ho he hk hb hz hl hc).weak fun _=>hC'
    ·simp at h
   ·simp at h
  ·simp at h
 ·rename_i ho;unfold Ol at h;split at h
  ·rename_i hx;split at h
   ·rename_i ht;split at h
    ·rename_i hi;split at h
     ·rename_i he;simp only[Option.some.injEq]at h;subst h;exact Ib (.inr ho) he hx ht hi rfl
     ·simp at h
    ·simp at h
   ·simp at h
  ·simp at h
 ·rename_i ho;unfold Ia at h;split at h
  ·rename_i hx;split at h
   ·rename_i ht;split at h
    ·rename_i hi;split at h
     ·rename_i he;split at h
      ·rename_i hz;simp only[Option.some.injEq]at h;subst h;exact UG ho he hz hx ht hi
      ·simp at h
     ·simp at h
    ·simp at h
   ·simp at h
  ·simp at h
 ·rename_i ho;unfold Ep at h;split at h
  ·rename_i hx;split at h
   ·rename_i ht;split at h
    ·rename_i hi;simp only[Option.some.injEq]at h;subst h;exact .of fun hC=>by
      obtain⟨rfl,hC'⟩:=hC;exact(PY ho hx ht hi rfl).weak fun _=>hC'
    ·simp at h
   ·simp at h
  ·simp at h
 ·rename_i ho;unfold Q7 at h;split at h
  ·rename_i hx;split at h
   ·rename_i hd;split at h
    ·rename_i hm;split at h
     ·rename_i hk;simp only[Option.some.injEq]at h;subst h;exact .of fun hC=>by
       obtain⟨rfl,rfl⟩:=hC;exact Vd ho hx hd (by rw[hm];exact⟨rfl,rfl⟩) hk
     ·simp at h
    ·rename_i hm;split at h
     ·rename_i hk;simp only[Option.some.injEq]at h;subst h;exact .of fun hC=>by
       obtain⟨rfl,rfl⟩:=hC;exact Vd ho hx hd (by rw[hm];exact⟨rfl,rfl⟩) hk
     ·simp at h
    ·simp at h
   ·simp at h
  ·simp at h
 trivial
end
end Go.Tr

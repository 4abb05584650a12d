/-
  What functions of the program compute, stated as contracts over plain data; the conditions of each stand in its own statement.
-/
import Derived.Test.YtboimfkommpglaaGreatDoorZB05
set_option linter.unusedSimpArgs false
namespace Go.Tr
open Go
def abd(P:Program)(t:S)(op:BinOp)(ty:TypeId)(x y:Operand):Option Eff:=
 match ev t x,ev t y with
 | .agg vs,.agg ws=>match NH P 4 ty (.agg vs) (.agg ws)with
   | some r=>match op with
     | .eql=>some ⟨Zb P ty=true,pl x++pl y,[],.d (.bool r)⟩
     | .neq=>some ⟨Zb P ty=true,pl x++pl y,[],.d (.bool !r)⟩
     | _=>none
   | none=>none
 | a,b=>match af7 P op ty a b with
   | some (C,v)=>some ⟨C,pl x++pl y,[],v⟩
   | none=>none
def XF(t:S)(c x y:Operand):TV→Option Eff
 | .d (.bool g)=>some ⟨True,pl c++(pl x++pl y),[],bif g then ev t x else ev t y⟩
 | _=>none
def agz(t:S)(op:UnOp)(x:Operand):Option Eff:=
 match unD op (ev t x)with
 | some v=>some ⟨True,pl x,[],v⟩
 | none=>none
def XC(P:Program)(sr ds:TypeId)(x:Operand):TV→Option Eff
 | .d (.int _ n)=>match xW P sr,knd P ds with
   | some _,some k=>some ⟨True,pl x,[],.d (.int k (k.wrap n))⟩
   | _,_=>none
 | .d (.sl xs)=>match wI P sr,u8s xs with
   | some e,some ns=>some ⟨u8K P e=true∧isStr P ds=true,pl x,[],.d (.str (strOf ns))⟩
   | _,_=>none
 | _=>none
def abg(t:S)(x:Operand):TV→Option Eff
 | .ptr p q=>some ⟨True,pl x,[],.ptr p q⟩
 | .ep e q=>some ⟨True,pl x,[],.ep e q⟩
 | .clo f c=>some ⟨True,pl x,[],.clo f c⟩
 | .tV id n i q=>match t (.o id)with
   | .row _ _ es _=>some ⟨n=es.length,pl x++[.o id],[],.tV id n i q⟩
   | _=>none
 | _=>none
def Fz(P:Program)(t:S)(s:TypeId)(f:Nat)(x:Operand)(v:TV):Option Eff:=
 match wL P s f with
 | none=>none
 | some (off,ft)=>match qp P ft with
   | none=>none
   | some z=>match v with
     | .ptr p q=>some ⟨z≠0,pl x,[],.ptr p (q+off)⟩
     | .ep e q=>some ⟨z≠0,pl x,[],.ep e (q+off)⟩
     | .tV id n i q=>match t (.o id)with
       | .row _ _ es _=>some ⟨z≠0∧n=es.length,pl x++[.o id],[],.tV id n i (q+off)⟩
       | _=>none
     | _=>none
def RG(P:Program)(ty:TypeId)(f:Nat)(x:Operand):TV→Option Eff
 | .agg vs=>match wL P ty f with
   | some (off,ft)=>match partT P ft vs off with
     | some v=>some ⟨True,pl x,[],v⟩
     | none=>none
   | none=>none
 | _=>none
def FB(P:Program)(t:S)(ty:TypeId)(x ix:Operand)(v i:TV):Option Eff:=
 match i with
 | .d (.int _ i)=>match v with
   | .d (.sl xs)=>match wI P ty with
     | some e=>match qp P e with
       | some k=>some ⟨0≤i∧i<xs.length∧(xs.getD i.toNat []).length=k,pl x++pl ix,[],.ep (xs.getD i.toNat []) 0⟩
       | none=>none
     | none=>none
   | .bK id n=>match t (.o id)with
     | .row _ k es _=>match wI P ty with
       | some e=>some ⟨qp P e=some k∧n=es.length∧0≤i∧i<es.length,pl x++(pl ix++[.o id]),[],.tV id n i.toNat 0⟩
       | none=>none
     | .yj _ k es=>match wI P ty with
       | some e=>some ⟨qp P e=some k∧n=es.length∧0≤i∧i<es.length,pl x++(pl ix++[.o id]),[],.tV id n i.toNat 0⟩
       | none=>none
     | _=>none
   | .ptr p q=>match arE P ty with
     | some (n,e)=>match qp P e with
       | some k=>some ⟨0≤i∧i<n,pl x++pl ix,[],.ptr p (q+i.toNat*k)⟩
       | none=>none
     | none=>none
   | .ep ds q=>match arE P ty with
     | some (n,e)=>match qp P e with
       | some k=>some ⟨0≤i∧i<n,pl x++pl ix,[],.ep ds (q+i.toNat*k)⟩
       | none=>none
     | none=>none
   | _=>none
 | _=>none
def RH(P:Program)(ty:TypeId)(x ix:Operand)(v i:TV):Option Eff:=
 match i with
 | .d (.int _ i)=>match v with
   | .agg vs=>match arE P ty with
     | some (n,e)=>match qp P e with
       | some k=>match partT P e vs (i.toNat*k)with
         | some v=>some ⟨0≤i∧i<n,pl x++pl ix,[],v⟩
         | none=>none
       | none=>none
     | none=>none
   | .d (.str s)=>some ⟨isStr P ty=true∧0≤i∧i<s.size,pl x++pl ix,[],.d (.int .u8 (s.data.getD i.toNat 0).toNat)⟩
   | _=>none
 | _=>none
def JI(x:Operand)(i:Nat):TV→Option Eff
 | .sZ vs=>match vs[i]? with
   | some v=>some ⟨True,pl x,[],v⟩
   | none=>none
 | _=>none
def cellsOf(P:Program)(ty:TypeId)(cs:List TV)(q:Nat):Option (Prop×TV):=
 match xW P ty with
 | some false=>match cs[q]? with
   | some v=>some (True,v)
   | none=>none
 | some true=>match qp P ty with
   | some z=>some (q+z≤cs.length,.agg ((cs.drop q).take z))
   | none=>none
 | none=>none
def XE(P:Program)(t:S)(ty:TypeId)(x:Operand):TV→Option Eff
 | .ptr p q=>match t p with
   | .box cs=>match cellsOf P ty cs q with
     | some (C,v)=>some ⟨C,pl x++[p],[],v⟩
     | none=>none
   | _=>none
 | .ep e q=>match cellsOf P ty (e.map .d) q with
   | some (C,v)=>some ⟨C,pl x,[],v⟩
   | none=>none
 | .tV id n i q=>match t (.o id)with
   | .row _ _ es _=>match cellsOf P ty (es.getD i []) q with
     | some (C,v)=>some ⟨C∧n=es.length∧i<es.length,pl x++[.o id],[],v⟩
     | none=>none
   | .yj _ _ es=>match cellsOf P ty (es.getD i []) q with
     | some (C,v)=>some ⟨C∧n=es.length∧i<es.length,pl x++[.o id],[],v⟩
     | none=>none
   | _=>none
 | _=>none
def RJ(P:Program)(t:S)(ty:TypeId)(x y:Operand)(vs:List TV):TV→Option Eff
 | .ptr p q=>match t p with
   | .box cs=>some ⟨qp P ty=some vs.length∧q+vs.length≤cs.length∧∀c∈vs,c.one=true,pl x++(pl y++[p]),[(p,.box (setAt cs q vs))],.junk⟩
   | _=>none
 | .tV id n i q=>match t (.o id)with
   | .row e k es false=>some ⟨qp P ty=some vs.length∧n=es.length∧i<es.length∧q+vs.length≤(es.getD i []).length∧∀c∈vs,c.one=true,pl x++(pl y++[.o id]),[(.o id,.row e k (es.set i (setAt (es.getD i []) q vs)) false)],.junk⟩
   | _=>none
 | _=>none
def Jo(P:Program)(ty:TypeId):Bool:=
 match P.underlying ty with
 | some (.map _ _)=>true
 | _=>false
def abf(P:Program)(t:S)(ty:TypeId)(x:Operand):TV→Option Eff
 | .d (.sl xs)=>some ⟨(wI P ty).isSome=true,pl x,[],.d (.int .i64 xs.length)⟩
 | .c (.slice _ n _)=>some ⟨(wI P ty).isSome=true,pl x,[],.d (.int .i64 n)⟩
 | .d (.str s)=>some ⟨isStr P ty=true,pl x,[],.d (.int .i64 s.size)⟩
 | .bK id n=>match t (.o id)with
   | .row _ _ es _=>some ⟨(wI P ty).isSome=true∧n=es.length,pl x++[.o id],[],.d (.int .i64 n)⟩
   | .yj _ _ es=>some ⟨(wI P ty).isSome=true∧n=es.length,pl x++[.o id],[],.d (.int .i64 n)⟩
   | _=>none
 | .mref id=>match t (.o id)with
   | .jA es _ _ _=>some ⟨Jo P ty=true,pl x++[.o id],[],.d (.int .i64 es.length)⟩
   | _=>none
 | .d (.mp ks _)=>some ⟨Jo P ty=true,pl x,[],.d (.int .i64 ks.length)⟩
 | _=>none
def adN(t:S):TV→Option (List Pl×List (List TV)×Prop)
 | .d (.sl ys)=>some ([],dd ys,True)
 | .c (.slice _ n _)=>some ([],[],n=0)
 | .bK id n=>match t (.o id)with
   | .row _ _ es _=>some ([.o id],es,n=es.length)
   | _=>none
 | _=>none
def Og(P:Program)(t:S)(d:Nat)(sty:TypeId)(x y:Operand)(v:TV):Option Eff:=
 match wI P sty with
 | none=>none
 | some e=>match qp P e,Ky P e,wS P e with
   | some k,some b,some z=>match adN t (ev t y)with
     | some (rp,ys,Cs)=>match v with
       | .c (.slice none 0 0)=>some ⟨(Cs∧(o9 z).length=k∧0<k)∧t (.o d) = .none∧KI k b 0 ys,pl x++(pl y++(.o d::rp)),[(.o d,.row e k ys false)],.bK d ys.length⟩
       | .sx xs=>if ys.length=0 then some ⟨Cs∧ys.length=0,pl x++(pl y++rp),[],.d (.sl xs)⟩else some ⟨(Cs∧(o9 z).length=k∧0<k)∧(t (.o d) = .none∧dLen k xs)∧0<ys.length∧KI k b xs.length ys,pl x++(pl y++(.o d::rp)),[(.o d,.row e k (dd xs++ys) false)],.bK d (xs.length+ys.length)⟩
       | .bK id n=>match t (.o id)with
         | .row e' k' es sh=>some ⟨(Cs∧(o9 z).length=k∧0<k∧e'=e∧k'=k)∧n=es.length∧KI k b n ys,pl x++(pl y++(.o id::rp)),[(.o id,.row e k (es++ys) sh)],.bK id (n+ys.length)⟩
         | .yj e' k' es=>some ⟨(Cs∧(o9 z).length=k∧0<k∧e'=e∧k'=k)∧n=es.length∧KI k b n ys,pl x++(pl y++(.o id::rp)),[(.o id,.yj e k (es++ys))],.bK id (n+ys.length)⟩
         | _=>none
       | _=>none
     | none=>none
   | _,_,_=>none
def Ry(P:Program)(t:S)(d:Nat)(ty:TypeId):Option Eff:=
 match wS P ty with
 | some z=>some ⟨(o9 z).all (·.oneCell')=true∧t (.o d) = .none,[.o d],[(.o d,.box ((o9 z).map o7))],.ptr (.o d) 0⟩
 | none=>none
def abe(t:S)(d:Nat)(x:Operand):Option Eff:=
 some ⟨t (.o d) = .none∧∀c∈(ev t x).cells,c.one=true,pl x++[.o d],[(.o d,.box (ev t x).cells)],.ptr (.o d) 0⟩
def Rz(P:Program)(t:S)(ty:TypeId)(ps:List (Nat×Operand)):Option Eff:=
 match PY P ty with
 | some fs=>match wS P ty with
   | some z=>match Gg (fun i=>fs[i]?) ((o9 z).map o7) (ps.map fun x=>(x.1,ev t x.2))with
     | some r=>some ⟨∀p∈ps.map (fun x=>(x.1,ev t x.2)),∀c∈p.2.cells,c.one=true,ps.flatMap (fun x=>pl x.2),[],.agg r⟩
     | none=>none
   | none=>none
 | none=>match arF P ty with
   | some k=>match wS P ty with
     | some z=>match Gg (fun i=>some (i*k,k)) ((o9 z).map o7) (ps.map fun x=>(x.1,ev t x.2))with
       | some r=>some ⟨∀p∈ps.map (fun x=>(x.1,ev t x.2)),∀c∈p.2.cells,c.one=true,ps.flatMap (fun x=>pl x.2),[],.agg r⟩
       | none=>none
     | none=>none
   | none=>none
def DJ(P:Program)(ow:List Nat)(t:S)(d:Nat)(ty:TypeId)(n:Nat)(ps:List (Nat×Operand)):Option Eff:=
 match wI P ty with
 | none=>none
 | some e=>match qp P e,wS P e with
   | some k,some _=>if ow.contains d then
     some ⟨Ap ps n=true∧t (.o d) = .none∧(∀e∈ps.map (fun x=>(ev t x.2).cells),e.length=k∧∀c∈e,c.one=true)∧n*k≤16777216∧0<k,ps.flatMap (fun x=>pl x.2)++[.o d],[(.o d,.row e k (ps.map fun x=>(ev t x.2).cells) false)],.bK d n⟩
     else match iH (ps.map fun x=>(ev t x.2).cells)with
      | some xss=>some ⟨Ap ps n=true∧(∀e∈ps.map (fun x=>(ev t x.2).cells),e.length=k∧∀c∈e,c.one=true)∧n*k≤16777216,ps.flatMap (fun x=>pl x.2),[],.d (.sl xss)⟩
      | none=>none
   | _,_=>none
def RI(P:Program)(t:S)(ty:TypeId)(x:Operand)(lo hi:Option Operand):TV→Option Eff
 | .d (.sl xs)=>match wI P ty with
   | some e=>match qp P e with
     | some k=>match Xx xs.length (lo.map (ev t)) (hi.map (ev t))with
       | some (C,l,h)=>some ⟨C∧∀e∈xs,e.length=k,pl x++(plO lo++plO hi),[],.d (.sl ((xs.take h).drop l))⟩
       | none=>none
     | none=>none
   | none=>none
 | .d (.str s)=>match Xx s.size (lo.map (ev t)) (hi.map (ev t))with
   | some (C,l,h)=>some ⟨isStr P ty=true∧C,pl x++(plO lo++plO hi),[],.d (.str (s.extract l h))⟩
   | none=>none
 | .bK id n=>match t (.o id)with
   | .yj _ k es=>match wI P ty with
     | some e=>match lo,hi with
       | some lo,none=>match ev t lo with
         | .d (.int _ l)=>some ⟨qp P e=some k∧n=es.length∧0≤l∧l≤es.length,pl x++(pl lo++[.o id]),[],.Qg id n l.toNat⟩
         | _=>none
       | _,_=>none
     | none=>none
   | _=>none
 | _=>none
def Ol(P:Program)(ty:TypeId)(x hi mx:Operand):TV→TV→TV→Option Eff
 | .d (.sl xs),.d (.int _ h),.d (.int _ m)=>match wI P ty with
   | some e=>match qp P e with
     | some k=>some ⟨(0≤h∧h≤xs.length∧m=h)∧∀e∈xs,e.length=k,pl x++(pl hi++pl mx),[],.sx (xs.take h.toNat)⟩
     | none=>none
   | none=>none
 | _,_,_=>none
def Eb(mx:Bool)(x y:Operand):TV→TV→Option Eff
 | .d (.int k a),.d (.int _ b)=>some ⟨True,pl x++pl y,[],if mx then abX k a b else TD k a b⟩
 | _,_=>none
def Oh(P:Program)(t:S)(ty:TypeId)(x ix:Operand)(vx vi:TV):Option Eff:=
 match vx with
 | .mref id=>match t (.o id)with
   | .jA es c _ _=>match toKey vi with
     | some k=>match ZR P ty k.length with
       | some _=>some ⟨zh k.length es,pl x++(pl ix++[.o id]),[(.o id,.jA (abP es k) c none none)],.sZ []⟩
       | none=>none
     | none=>none
   | _=>none
 | _=>none
def XB(P:Program)(t:S)(d:Nat)(c:Call):Option Eff:=
 match c.callee,c.args.toList,c.argTypes.toList with
 | .builtin .len,[x],[ty]=>abf P t ty x (ev t x)
 | .builtin .append,[x,y],[sty,anW]=>if sty=anW then Og P t d sty x y (ev t x)else none
 | .builtin .min,[x,y],_=>Eb false x y (ev t x) (ev t y)
 | .builtin .max,[x,y],_=>Eb true x y (ev t x) (ev t y)
 | .builtin .delete,[x,y],[ty,_]=>Oh P t ty x y (ev t x) (ev t y)
 | _,_,_=>none
def XD(t:S)(fn:Fn)(first captured:Array Operand):Option Eff:=
 match fn,first.toList with
 | .func f,[]=>some ⟨True,captured.toList.flatMap pl,[],.clo f (captured.toList.map (ev t))⟩
 | _,_=>none
def mpE(P:Program)(ty:TypeId):Option TypeId:=
 match P.underlying ty with
 | some (.map k e)=>match P.underlying k with
   | some (.int _)=>some e
   | _=>none
 | _=>none
def JJ(ow:List Nat)(t:S)(d:Nat):Option Operand→Option Eff
 | none=>if(ow.any fun n=>n==d+3000000)=true then some ⟨t (.o d) = .none,[.o d],[(.o d,.jA [] 0 none none)],.mref d⟩else some ⟨t (.o d) = .none,[.o d],[(.o d,.mp [])],.mref d⟩
 | some _=>none
def Oj(P:Program)(t:S)(ty:TypeId)(x ix:Operand)(ck:Bool)(vx vi:TV):Option Eff:=
 match vx with
 | .mref id=>match t (.o id)with
   | .mp es=>match vi with
     | .d (.int kd k)=>match mpE P ty with
       | some e=>match wS P e with
         | some z=>some ⟨kd = .i64,pl x++(pl ix++[.o id]),[],lkV ck (L9 es k) (o7 z)⟩
         | none=>none
       | none=>none
     | _=>none
   | .jA es _ _ _=>match toKey vi with
     | some k=>match ZR P ty k.length with
       | some e=>match wS P e with
         | some z=>some ⟨zh k.length es,pl x++(pl ix++[.o id]),[],Vp ck (mJ es k) (o7 z)⟩
         | none=>none
       | none=>none
     | none=>none
   | _=>none
 | .d (.mp ks vs)=>match toKey vi with
   | some k=>match ZR P ty k.length with
     | some e=>match wS P e with
       | some z=>some ⟨zh k.length (wP ks vs),pl x++pl ix,[],Vp ck (mJ (wP ks vs) k) (o7 z)⟩
       | none=>none
     | none=>none
   | none=>none
 | _=>none
def FD(P:Program)(t:S)(ty:TypeId)(x ix y:Operand)(vx vi vy:TV):Option Eff:=
 match vx with
 | .mref id=>match t (.o id)with
   | .mp es=>match vi with
     | .d (.int kd k)=>match vy with
       | .d d=>match mpE P ty with
         | some _=>some ⟨kd = .i64,pl x++(pl ix++(pl y++[.o id])),[(.o id,.mp (OJ es k d))],.junk⟩
         | none=>none
       | _=>none
     | _=>none
   | .jA es c _ _=>match toKey vi with
     | some k=>match ZR P ty k.length with
       | some _=>some ⟨zh k.length es,pl x++(pl ix++(pl y++[.o id])),[(.o id,.jA (vO es k vy) c none none)],.junk⟩
       | none=>none
     | none=>none
   | _=>none
 | _=>none
def Oi(P:Program)(t:S)(ty:TypeId)(x ix y:Operand)(vx vi vy:TV):Option Eff:=
 match vx with
 | .mref id=>match t (.o id)with
   | .jA es c _ _=>match toKey vi with
     | some k=>match ZR P ty k.length with
       | some _=>some ⟨zh k.length es,pl x++(pl ix++(pl y++[.o id])),[(.o id,.jA (vO es k vy) c none none)],.junk⟩
       | none=>none
     | none=>none
   | _=>none
 | _=>none
def GU(P:Program)(t:S)(ty:TypeId)(x ix:Operand)(vx vi:TV):Option Eff:=
 match vx with
 | .mref id=>match t (.o id)with
   | .jA es c _ _=>match toKey vi with
     | some k=>match ZR P ty k.length with
       | some e=>match wS P e with
         | some z=>some ⟨zh k.length es,pl x++(pl ix++[.o id]),[(.o id,.jA (vO es k (Vp false (mJ es k) (o7 z))) (c+1) (some k) none)],.sZ [Vp false (mJ es k) (o7 z),.bK id (c+1)]⟩
         | none=>none
       | none=>none
     | none=>none
   | _=>none
 | _=>none
def DK(t:S)(x ix y:Operand)(vx vi vy:TV):Option Eff:=
 match vx with
 | .mref id=>match t (.o id)with
   | .jA es c (some k) _=>match vi with
     | .bK id' n=>some ⟨id'=id∧n=c,pl x++(pl ix++(pl y++[.o id])),[(.o id,.jA (vO es k vy) c (some k) none)],.junk⟩
     | _=>none
   | _=>none
 | _=>none
def RD(t:S)(x:Operand)(vx:TV):Option Eff:=
 match vx with
 | .ptr (.o d) off=>match t (.o d)with
   | .Fb id s _ (some k)=>match t (.o id)with
     | .jA es _ _ (some s')=>match mJ es k with
       | some v=>some ⟨off=0∧s'=s,pl x++[.o d,.o id],[],.sZ [Pz k,v]⟩
       | none=>none
     | .Mc es s'=>match mJ es k with
       | some v=>some ⟨off=0∧s'=s,pl x++[.o d,.o id],[],.sZ [Pz k,v]⟩
       | none=>none
     | _=>none
   | _=>none
 | _=>none
def FC(P:Program)(t:S)(d:Nat)(ty:TypeId)(lx cx:Operand):TV→TV→Option Eff
 | .d (.int kd n),.d (.int kd' n')=>match wI P ty with
   | some e=>match qp P e,Ky P e,wS P e with
     | some k,some b,some z=>some ⟨(kd = .i64∧kd' = .i64∧n'=n)∧t (.o d) = .none∧0≤n∧n≤1000000∧b*n≤281474976710656∧(o9 z).length=k∧0<k∧(o9 z).all (·.oneCell')=true,pl lx++(pl cx++[.o d]),
       [(.o d,.row e k (List.replicate n.toNat ((o9 z).map o7)) false)],.bK d n.toNat⟩
     | _,_,_=>none
   | none=>none
 | _,_=>none
theorem ZQ{P:Program}{ty e:TypeId}(h:mpE P ty=some e):∃k kd,P.underlying ty=some (.map k e)∧P.underlying k=some (.int kd):=by grind[mpE,Option.some.injEq]
def eff(P:Program)(ow:List Nat)(t:S)(o:Oper):Option Eff:=
 match o.op with
 | .move x|.assign x=>some ⟨True,pl x,[],ev t x⟩
 | .pick c x y=>XF t c x y (ev t c)
 | .binOp op ty x y _=>abd P t op ty x y
 | .unOp op _ x=>agz t op x
 | .convert sr ds x=>XC P sr ds x (ev t x)
 | .nilCheck x=>abg t x (ev t x)
 | .fieldAddr s x f=>Fz P t s f x (ev t x)
 | .field ty x f=>RG P ty f x (ev t x)
 | .indexAddr ty x ix=>FB P t ty x ix (ev t x) (ev t ix)
 | .index ty x ix=>RH P ty x ix (ev t x) (ev t ix)
 | .extract x i=>JI x i (ev t x)
 | .load ty x=>XE P t ty x (ev t x)
 | .store ty x y=>RJ P t ty x y (ev t y).cells (ev t x)
 | .alloc ty=>Ry P t (o.dst.getD 0) ty
 | .box _ x=>abe t (o.dst.getD 0) x
 | .build ty ps=>Rz P t ty ps.toList
 | .buildSlice ty n ps=>DJ P ow t (o.dst.getD 0) ty n ps.toList
 | .slice ty x lo hi none=>RI P t ty x lo hi (ev t x)
 | .slice ty x none (some hi) (some mx)=>Ol P ty x hi mx (ev t x) (ev t hi) (ev t mx)
 | .makeFunc fn first captured=>XD t fn first captured
 | .call c=>XB P t (o.dst.getD 0) c
 | .makeMap _ r=>JJ ow t (o.dst.getD 0) r
 | .lookup ty x ix ck=>Oj P t ty x ix ck (ev t x) (ev t ix)
 | .mapUpdate ty x ix y=>FD P t ty x ix y (ev t x) (ev t ix) (ev t y)
 | .makeSlice ty lx cx=>FC P t (o.dst.getD 0) ty lx cx (ev t lx) (ev t cx)
 | .insert ty x ix y=>Oi P t ty x ix y (ev t x) (ev t ix) (ev t y)
 | .mapEntry ty x ix=>GU P t ty x ix (ev t x) (ev t ix)
 | .entryStore _ x ix y=>DK t x ix y (ev t x) (ev t ix) (ev t y)
 | .entry x=>RD t x (ev t x)
 | _=>none
section
variable {P:Program} {A:jL}
theorem jD.weak{o:Oper}{t:S}{C C':Prop}{rp:List Pl}{W:List (Pl×It)}{v:TV}(h:jD P A o t ⟨C',rp,W,v⟩)(hC:C→C'):jD P A o t ⟨C,rp,W,v⟩:=fun c=>h (hC c)
theorem src_of{t:S}{y:TV}{rp:List Pl}{ys:List (List TV)}{C:Prop}(h:adN t y=some (rp,ys,C))(hC:C):Src t y rp ys:=by
 unfold adN at h;split at h
 ·obtain⟨rfl,rfl,rfl⟩:=h;exact .sl _
 ·obtain⟨rfl,rfl,rfl⟩:=h;subst hC;exact .nil _ _
 ·split at h
  ·rename_i hr;obtain⟨rfl,rfl,rfl⟩:=h;subst hC;exact .row _ _ _ _ _ hr
  trivial
 trivial
theorem IU{α:Type}{x:Option α}(h:x.isSome=true):∃a,x=some a:=nM.1 h
theorem agD{ow:List Nat}{t:S}{o:Oper}{e:Eff}(h:eff P ow t o=some e):jD P A o t e:=by
 unfold eff at h;split at h
 ·grind[Option.some.injEq,Y_]
 ·grind[Option.some.injEq,Y_]
 ·rename_i ho;unfold XF at h
  grind[Option.some.injEq,agE]
 ·rename_i ho;unfold abd at h;split at h
  ·rename_i hx hy;split at h
   ·rename_i r hr;split at h
    ·simp only[aj]at h;subst h;exact .of fun hg=>by simpa using acX ho (.inl rfl) hg hx hy hr
    ·simp only[aj]at h;subst h;exact .of fun hg=>by simpa using acX ho (.inr rfl) hg hx hy hr
    trivial
   trivial
  grind[Option.some.injEq,aiZ]
 ·grind[agz,Option.some.injEq,akG]
 ·rename_i ho;unfold XC at h;split at h
  ·grind[Option.some.injEq,agA]
  ·rename_i hx;split at h
   ·rename_i hs hk;simp only[aj]at h;subst h;exact .of fun hc=>aez ho hs hc.1 hc.2 hx hk
   trivial
  trivial
 ·rename_i ho;unfold abg at h
  grind[Option.some.injEq,XI,Za]
 ·rename_i ho;unfold Fz at h;split at h
  ·trivial
  ·rename_i hf;split at h
   ·trivial
   ·rename_i hz;split at h
    ·rename_i hx;simp only[aj]at h;subst h;exact .of fun hz0=>Ji ho hf hz hz0 (.inl ⟨_,_,hx,rfl⟩)
    ·rename_i hx;simp only[aj]at h;subst h;exact .of fun hz0=>Ji ho hf hz hz0 (.inr ⟨_,_,hx,rfl⟩)
    ·rename_i hx;split at h
     ·rename_i ht;simp only[aj]at h;subst h;exact .of fun hc=>(KZ ho hf hz hc.1 hx ht).weak fun _=>hc.2
     trivial
    trivial
 ·rename_i ho;unfold RG at h
  grind[Option.some.injEq,aeA]
 ·rename_i ho;unfold FB at h;split at h
  ·rename_i hi;split at h
   ·grind[Option.some.injEq,U8]
   ·rename_i hx;split at h
    ·rename_i ht;split at h
     ·rename_i he;simp only[aj]at h;subst h;exact .of fun hc=>(Lc ho he hc.1 hx hi ht).weak fun _=>hc.2
     trivial
    ·rename_i ht;split at h
     ·rename_i he;simp only[aj]at h;subst h;exact .of fun hc=>(La ho he hc.1 hx hi ht).weak fun _=>hc.2
     trivial
    trivial
   ·grind[Option.some.injEq,K_]
   ·grind[Option.some.injEq,Om]
   trivial
  trivial
 ·rename_i ho;unfold RH at h;split at h
  ·rename_i hi;split at h
   ·grind[Option.some.injEq,U9]
   ·rename_i hx;simp only[aj]at h;subst h;exact .of fun hc=>(U_ ho hc.1 hx hi).weak fun _=>hc.2
   trivial
  trivial
 ·rename_i ho;unfold JI at h
  grind[Option.some.injEq,Y2]
 ·rename_i ho;unfold XE cellsOf at h;split at h
  ·rename_i hx;split at h
   ·rename_i ht;split at h
    ·rename_i hc;simp only[aj]at h;subst h;split at hc
     ·rename_i hs;split at hc
      ·rename_i hv;simp only[aj,aK]at hc;obtain⟨rfl,rfl⟩:=hc
       simp_all[Ld]
      trivial
     ·rename_i hs;split at hc
      ·rename_i hz;simp only[aj,aK]at hc;obtain⟨rfl,rfl⟩:=hc;exact .of fun hl=>Ld ho hx ht (.inr ⟨_,hs,hz,hl,rfl⟩)
      trivial
     trivial
    trivial
   trivial
  ·rename_i hx;split at h
   ·rename_i hc;simp only[aj]at h;subst h;split at hc
    ·rename_i hs;split at hc
     ·rename_i hv;simp only[aj,aK]at hc;obtain⟨rfl,rfl⟩:=hc
      grind[Option.map_eq_some_iff,Ph]
     trivial
    ·rename_i hs;split at hc
     ·rename_i hz;simp only[aj,aK]at hc;obtain⟨rfl,rfl⟩:=hc;exact .of fun hl=>Ph ho hx (.inr ⟨_,hs,hz,by simp_all,by simp⟩)
     trivial
    trivial
   trivial
  ·rename_i hx;split at h
   ·rename_i ht;split at h
    ·rename_i hc;simp only[aj]at h;subst h;split at hc
     ·rename_i hs;split at hc
      ·rename_i hv;simp only[aj,aK]at hc;obtain⟨rfl,rfl⟩:=hc
       grind[Lh]
      trivial
     ·rename_i hs;split at hc
      ·rename_i hz;simp only[aj,aK]at hc;obtain⟨rfl,rfl⟩:=hc;exact .of fun hl=>(Lh ho hx ht (.inr ⟨_,hs,hz,hl.1,rfl⟩)).weak fun _=>hl.2
      trivial
     trivial
    trivial
   ·rename_i ht;split at h
    ·rename_i hc;simp only[aj]at h;subst h;split at hc
     ·rename_i hs;split at hc
      ·rename_i hv;simp only[aj,aK]at hc;obtain⟨rfl,rfl⟩:=hc
       grind[Le]
      trivial
     ·rename_i hs;split at hc
      ·rename_i hz;simp only[aj,aK]at hc;obtain⟨rfl,rfl⟩:=hc;exact .of fun hl=>(Le ho hx ht (.inr ⟨_,hs,hz,hl.1,rfl⟩)).weak fun _=>hl.2
      trivial
     trivial
    trivial
   trivial
  trivial
 ·rename_i ho;unfold RJ at h;split at h
  ·rename_i hx;split at h
   ·rename_i ht;simp only[aj]at h;subst h;exact .of fun hc=>(Vg ho hx ht rfl hc.1).weak fun _=>hc.2
   trivial
  ·rename_i hx;split at h
   ·rename_i ht;simp only[aj]at h;subst h;exact .of fun hc=>(Vh ho hx ht rfl hc.1).weak fun _=>hc.2
   trivial
  trivial
 ·rename_i ho;unfold Ry at h;split at h
  ·rename_i hz;simp only[aj]at h;subst h;exact .of fun hc=>(aex ho hz hc.1).weak fun _=>hc.2
  trivial
 ·grind[abe,Option.some.injEq,ai0]
 ·rename_i ho;unfold Rz at h;split at h
  ·rename_i hf;split at h
   ·rename_i hz;split at h
    ·rename_i hr;simp only[aj]at h;subst h;exact aey (by rw[ho]) hf hz hr
    ·simp at h
   ·simp at h
  ·split at h
   ·rename_i hf;split at h
    ·rename_i hz;split at h
     ·rename_i hr;simp only[aj]at h;subst h;exact abh (by rw[ho]) hf hz hr
     ·simp at h
    ·simp at h
   ·simp at h
 ·rename_i ho;unfold DJ at h;split at h
  ·simp at h
  ·rename_i he;split at h
   ·rename_i hk hz;split at h
    ·simp only[aj]at h;subst h;exact .of fun hc=>(JK (by rw[ho]) he hk hz hc.1).weak fun _=>hc.2
    ·split at h
     ·rename_i hx;simp only[aj]at h;subst h;exact .of fun hc=>(RU (by rw[ho]) he hk hz hc.1 hx).weak fun _=>hc.2
     ·simp at h
   ·simp at h
 ·rename_i ho;unfold RI at h;split at h
  ·rename_i hx;split at h
   ·rename_i he;split at h
    ·rename_i hk;split at h
     ·rename_i hc;simp only[aj]at h;subst h;exact XJ ho he hk hx hc
     ·simp at h
    ·simp at h
   ·simp at h
  ·rename_i hx;split at h
   ·rename_i hc;simp only[aj]at h;subst h;exact .of fun hC=>(Vf ho hC.1 hx hc).weak fun _=>hC.2
   ·simp at h
  ·rename_i hx;split at h
   ·rename_i ht;split at h
    ·rename_i he;split at h
     ·split at h
      ·rename_i hl;simp only[aj]at h;subst h;exact .of fun hC=>(Ve ho he hC.1 hx hl ht).weak fun _=>hC.2
      ·simp at h
     ·simp at h
    ·simp at h
   ·simp at h
  ·simp at h
 ·rename_i ho;unfold Ol at h;split at h
  ·rename_i hx hh hm;split at h
   ·rename_i he;split at h
    ·rename_i hk;simp only[aj]at h;subst h;exact abl ho he hk hx hh hm
    ·simp at h
   ·simp at h
  ·simp at h
 ·rename_i ho;unfold XD at h;split at h
  ·rename_i caps hf;simp only[aj]at h;subst h;refine XG ?_;rw[ho]
   congr 1
   exact Array.toList_eq_nil_iff.1 hf
  ·simp at h
 ·rename_i c ho;unfold XB at h;split at h
  ·rename_i x ty hc ha ht;have hcall:o.op = .call {callee:=.builtin .len,args:=#[x],argTypes:=#[ty]}:=by
    rw[ho];congr 1
    obtain⟨c1,c2,c3⟩:=c;simp only[Call.mk.injEq];exact⟨hc,nD.1 ha,nD.1 ht⟩
   unfold abf at h;split at h
   ·rename_i hx;simp only[aj]at h;subst h;exact .of fun hs=>by obtain⟨e,he⟩:=IU hs;exact abj hcall he hx
   ·rename_i hx;simp only[aj]at h;subst h;exact .of fun hs=>by obtain⟨e,he⟩:=IU hs;exact Y3 hcall he hx
   ·rename_i hx;simp only[aj]at h;subst h;exact .of fun hs=>Y6 hcall hs hx
   ·rename_i hx;split at h
    ·rename_i hr;simp only[aj]at h;subst h;exact .of fun hs=>by obtain⟨e,he⟩:=IU hs.1;exact(Y5 hcall he hx hr).weak fun _=>hs.2
    ·rename_i hr;simp only[aj]at h;subst h;exact .of fun hs=>by obtain⟨e,he⟩:=IU hs.1;exact(Y4 hcall he hx hr).weak fun _=>hs.2
    ·simp at h
   ·rename_i hx;split at h
    ·rename_i hr;simp only[aj]at h;subst h;exact .of fun hs=>by
      unfold Jo at hs;split at hs
      ·rename_i hu;exact(agB hcall hu hx hr).weak fun _=>trivial
      ·simp at hs
    ·simp at h
   ·rename_i hx;simp only[aj]at h;subst h;exact .of fun hs=>by
     unfold Jo at hs;split at hs
     ·rename_i hu;exact(agC hcall hu hx).weak fun _=>trivial
     ·simp at hs
   ·simp at h
  ·rename_i x y sty anW hc ha ht;split at h
   ·rename_i he;subst he;have hcall:o.op = .call {callee:=.builtin .append,args:=#[x,y],argTypes:=#[sty,sty]}:=by
     rw[ho];congr 1
     obtain⟨c1,c2,c3⟩:=c;simp only[Call.mk.injEq];exact⟨hc,nD.1 ha,nD.1 ht⟩
    unfold Og at h;split at h
    ·simp at h
    ·rename_i he;split at h
     ·rename_i hk hb hz;split at h
      ·rename_i hs;split at h
       ·rename_i hx;simp only[aj]at h;subst h;exact .of fun hC=>(RN hcall hx (src_of hs hC.1.1) he hk hb hz hC.1.2.1 hC.1.2.2).weak fun _=>hC.2
       ·rename_i hx;split at h
        ·simp only[aj]at h;subst h;exact .of fun hC=>(RS hcall hx (src_of hs hC.1) he hk).weak fun _=>hC.2
        simp only[aj]at h;subst h;exact .of fun hC=>(U7 hcall hx (src_of hs hC.1.1) he hk hb hz hC.1.2.1 hC.1.2.2).weak fun _=>hC.2
       ·rename_i hx;split at h
        ·rename_i ht;simp only[aj]at h;subst h;refine .of fun hC=>?_
         obtain⟨⟨h1,h2,h3,h4,h5⟩,h6⟩:=hC;subst h4;subst h5;exact(RQ hcall hx ht (src_of hs h1) he hk hb hz h2 h3).weak fun _=>h6
        ·rename_i ht;simp only[aj]at h;subst h;refine .of fun hC=>?_
         obtain⟨⟨h1,h2,h3,h4,h5⟩,h6⟩:=hC;subst h4;subst h5;exact(RP hcall hx ht (src_of hs h1) he hk hb hz h2 h3).weak fun _=>h6
        ·simp at h
       ·simp at h
      ·simp at h
     ·simp at h
   ·simp at h
  ·rename_i x y hc ha;have hcall:o.op = .call {callee:=.builtin .min,args:=#[x,y],argTypes:=c.argTypes}:=by
    rw[ho];congr 1
    obtain⟨c1,c2,c3⟩:=c;simp only[Call.mk.injEq,and_true];exact⟨hc,nD.1 ha⟩
   unfold Eb at h;split at h
   ·rename_i hx hy;simp only[aj]at h;subst h;exact ai2 hcall hx hy
   ·simp at h
  ·rename_i x y hc ha;have hcall:o.op = .call {callee:=.builtin .max,args:=#[x,y],argTypes:=c.argTypes}:=by
    rw[ho];congr 1
    obtain⟨c1,c2,c3⟩:=c;simp only[Call.mk.injEq,and_true];exact⟨hc,nD.1 ha⟩
   unfold Eb at h;split at h
   ·rename_i hx hy;simp only[aj]at h;subst h;exact ai1 hcall hx hy
   ·simp at h
  ·rename_i x y ty kty hc ha ht;have hcall:o.op = .call {callee:=.builtin .delete,args:=#[x,y],argTypes:=#[ty,kty]}:=by
    rw[ho];congr 1
    obtain⟨c1,c2,c3⟩:=c;simp only[Call.mk.injEq];exact⟨hc,nD.1 ha,nD.1 ht⟩
   unfold Oh at h;split at h
   ·rename_i hx;split at h
    ·rename_i hm;split at h
     ·rename_i hk;split at h
      ·rename_i he;simp only[aj]at h;subst h;exact Y1 hcall he hx hm hk
      ·simp at h
     ·simp at h
    ·simp at h
   ·simp at h
  ·simp at h
 ·rename_i ho;unfold JJ at h;split at h
  ·split at h
   ·simp only[aj]at h;subst h;exact XH ho
   ·simp only[aj]at h;subst h;exact Y9 ho
  ·simp at h
 ·rename_i ho;unfold Oj at h;split at h
  ·rename_i hx;split at h
   ·rename_i ht;split at h
    ·rename_i hi;split at h
     ·rename_i he;split at h
      ·rename_i hz;simp only[aj]at h;subst h;obtain⟨k,kd,h1,h2⟩:=ZQ he;exact .of fun hC=>by subst hC;exact(abk ho h1 h2 hz hx ht hi).weak fun _=>trivial
      ·simp at h
     ·simp at h
    ·simp at h
   ·rename_i ht;split at h
    ·rename_i hi;split at h
     ·rename_i he;split at h
      ·rename_i hz;simp only[aj]at h;subst h;exact Y7 ho he hz hx ht hi
      ·simp at h
     ·simp at h
    ·simp at h
   ·simp at h
  ·rename_i hx;split at h
   ·rename_i hi;split at h
    ·rename_i he;split at h
     ·rename_i hz;simp only[aj]at h;subst h;exact Y8 ho he hz hx hi
     ·simp at h
    ·simp at h
   ·simp at h
  ·simp at h
 ·rename_i ho;unfold FD at h;split at h
  ·rename_i hx;split at h
   ·rename_i ht;split at h
    ·rename_i hi;split at h
     ·rename_i hy;split at h
      ·rename_i he;simp only[aj]at h;subst h;obtain⟨k,kd,h1,h2⟩:=ZQ he;exact .of fun hC=>by subst hC;exact(Vd ho h1 h2 hx ht hi hy).weak fun _=>trivial
      ·simp at h
     ·simp at h
    ·simp at h
   ·rename_i ht;split at h
    ·rename_i hi;split at h
     ·rename_i he;simp only[aj]at h;subst h;exact GV (.inl ho) he hx ht hi rfl
     ·simp at h
    ·simp at h
   ·simp at h
  ·simp at h
 ·rename_i ho;unfold FC at h;split at h
  ·rename_i hl hc;split at h
   ·rename_i he;split at h
    ·rename_i hk hb hz;simp only[aj]at h;subst h;exact .of fun hC=>by obtain⟨⟨rfl,rfl,rfl⟩,hC'⟩:=hC;exact(Va ho he hk hb hz hl hc).weak fun _=>hC'
    ·simp at h
   ·simp at h
  ·simp at h
 ·rename_i ho;unfold Oi at h;split at h
  ·rename_i hx;split at h
   ·rename_i ht;split at h
    ·rename_i hi;split at h
     ·rename_i he;simp only[aj]at h;subst h;exact GV (.inr ho) he hx ht hi rfl
     ·simp at h
    ·simp at h
   ·simp at h
  ·simp at h
 ·rename_i ho;unfold GU at h;split at h
  ·rename_i hx;split at h
   ·rename_i ht;split at h
    ·rename_i hi;split at h
     ·rename_i he;split at h
      ·rename_i hz;simp only[aj]at h;subst h;exact Vb ho he hz hx ht hi
      ·simp at h
     ·simp at h
    ·simp at h
   ·simp at h
  ·simp at h
 ·rename_i ho;unfold DK at h;split at h
  ·rename_i hx;split at h
   ·rename_i ht;split at h
    ·rename_i hi;simp only[aj]at h;subst h;exact .of fun hC=>by obtain⟨rfl,hC'⟩:=hC;exact(P_ ho hx ht hi rfl).weak fun _=>hC'
    ·simp at h
   ·simp at h
  ·simp at h
 ·rename_i ho;unfold RD at h;split at h
  ·rename_i hx;split at h
   ·rename_i hd;split at h
    ·rename_i hm;split at h
     ·rename_i hk;simp only[aj]at h;subst h;exact .of fun hC=>by obtain⟨rfl,rfl⟩:=hC;exact VK ho hx hd (by rw[hm];exact⟨rfl,rfl⟩) hk
     ·simp at h
    ·rename_i hm;split at h
     ·rename_i hk;simp only[aj]at h;subst h;exact .of fun hC=>by obtain⟨rfl,rfl⟩:=hC;exact VK ho hx hd (by rw[hm];exact⟨rfl,rfl⟩) hk
     ·simp at h
    ·simp at h
   ·simp at h
  ·simp at h
 trivial
end
end Go.Tr

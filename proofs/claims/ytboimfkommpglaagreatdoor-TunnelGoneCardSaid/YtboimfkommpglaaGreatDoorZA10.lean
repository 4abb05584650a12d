/-
  What functions of the program compute, stated as contracts over plain data; the conditions of each stand in its own statement.
-/
import Derived.Test.YtboimfkommpglaaGreatDoorZA09
set_option linter.unusedSimpArgs false
set_option linter.unusedVariables false
namespace Go.Tr
open Go
def aiq(P:Program)(fn:Func)(r:TV)(xs:List It)(ro:List (Nat×It))(l:List (Pl×It)):Option (Prop×TV)→Prop
 | some (C,r')=>C∧r'=r∧r.only (· ∈jy (oL ro))∧Sub (look l) (xL xs 0++oL ro)∧jP (xL xs 0++oL ro)=jP l∧jy (xL xs 0++oL ro)=jy (oL ro)
 | none=>False
theorem Fin.of{P:Program}{A:eX}{fn:Func}{r:TV}{xs:List It}{ro:List (Nat×It)}{l:List (Pl×It)}(h:aiq P fn r xs ro l (ahy P (look l) fn.results.toList)):Fin P A fn r xs ro (look l):=by
 unfold aiq at h;split at h
 ·rename_i C r' hr;obtain⟨h1,rfl,h2,h3,h4,h5⟩:=h;exact Fin.done hr h1 h2 h3 h4 h5
 ·exact h.elim
theorem agR{P:Program}{A:eX}{fn:Func}{r:TV}{xs:List It}{ro:List (Nat×It)}{t:S}:fin P A fn r xs ro .ret t=Fin P A fn r xs ro t:=rfl
theorem Z7{P:Program}{A:eX}{fn:Func}{r:TV}{xs:List It}{ro:List (Nat×It)}{t:S}:fin P A fn r xs ro .normal t=Fin P A fn r xs ro t:=rfl
attribute [simp] agR Z7 aiq ahy VU resV Sub jy jP oL TV.only TV.xE
theorem qM.dec{p:Prop}[Decidable p]{X Y:Prop}{x:Tg X}{y:Tg Y}(h:p→X)(g :¬p→Y):qM (decide p) X Y x y:=⟨fun e=>h (by simpa using e),fun e=>g (by simpa using e)⟩
theorem wrap_i64{n:Int}(h1 :-9223372036854775808≤n)(h2:n≤9223372036854775807):IntKind.i64.wrap n=n:=by
 simp only[IntKind.wrap,show IntKind.i64.bits=64 from rfl,show IntKind.i64.signed=true from rfl,Bool.true_and];simp;split<;>omega
theorem wrap_u64{n:Int}(h1:0≤n)(h2:n≤18446744073709551615):IntKind.u64.wrap n=n:=by
 simp only[IntKind.wrap,show IntKind.u64.bits=64 from rfl,show IntKind.u64.signed=false from rfl,Bool.false_and];simp;omega
theorem wrap_u8{n:Int}(h1:0≤n)(h2:n≤255):IntKind.u8.wrap n=n:=by
 simp only[IntKind.wrap,show IntKind.u8.bits=8 from rfl,show IntKind.u8.signed=false from rfl,Bool.false_and];simp;omega
def I64(n:Int):Prop:=-9223372036854775808≤n∧n≤9223372036854775807
theorem anT(a b:Int):(a==b)=decide (a=b):=by by_cases h:a=b<;>simp[h]
theorem anV(a b:Int):(a != b) = !decide (a=b):=by by_cases h:a=b<;>simp[h]
def wu(n:Int):BitVec 64:=BitVec.ofInt 64 n
theorem JL(n:Int):IntKind.u64.wrap n=((wu n).toNat:Int):=by
 simp only[IntKind.wrap,show IntKind.u64.bits=64 from rfl,show IntKind.u64.signed=false from rfl,Bool.false_and,wu];rw[BitVec.toNat_ofInt];simp;omega
def tn(B:BitVec 64):Int:=(B.toNat:Int)
theorem Hl(B:BitVec 64):wu (tn B)=B:=by
 apply BitVec.eq_of_toNat_eq;simp[BitVec.toNat_ofInt,wu,tn]
theorem xQ(n:Int):IntKind.u64.wrap n=tn (wu n):=JL n
theorem u64_and(a b:Int):agy .u64 a b=tn (wu a&&&wu b):=by
 rw[agy,JL];exact congrArg tn (Hl (wu a&&&wu b))
theorem u64_or(a b:Int):orI .u64 a b=tn (wu a|||wu b):=by
 rw[orI,JL];exact congrArg tn (Hl (wu a|||wu b))
theorem u64_xor(a b:Int):ahW .u64 a b=tn (wu a ^^^ wu b):=by
 rw[ahW,JL];exact congrArg tn (Hl (wu a ^^^ wu b))
theorem u64_andNot(a b:Int):Qa .u64 a b=tn (wu a &&& ~~~ wu b):=by
 rw[Qa,JL];exact congrArg tn (Hl (wu a &&& ~~~ wu b))
theorem yu(x:Int):IntKind.u64.wrap x=x%18446744073709551616:=by
 simp only[IntKind.wrap,show IntKind.u64.bits=64 from rfl,show IntKind.u64.signed=false from rfl,Bool.false_and];simp
theorem agv(x:Int):((wu x).toNat:Int)=x%18446744073709551616:=by rw[←JL,yu]
theorem ahP(a b:Int):ahD .u64 a b=tn (wu a<<<b.toNat):=by
 generalize hn:b.toNat=n;rw[ahD,tn,hn,yu,BitVec.toNat_shiftLeft,Nat.shiftLeft_eq,Int.natCast_emod,Int.natCast_mul,agv,show(((2^64:Nat):Int))=18446744073709551616 by decide,Int.mul_emod (a%18446744073709551616),Int.emod_emod_of_dvd _ (Int.dvd_refl _),←Int.mul_emod,Int.natCast_pow]
 show a*2^min n 64%18446744073709551616=a*2^n%18446744073709551616
 by_cases h:n≤64
 ·rw[Nat.min_eq_left h]
 ·rw[Nat.min_eq_right (by omega),show n=64+(n-64) by omega,Int.pow_add,←Int.mul_assoc];rw[show(2:Int)^64=18446744073709551616 by decide];rw[Int.mul_emod_left,Int.mul_assoc,Int.mul_comm 18446744073709551616,←Int.mul_assoc,Int.mul_emod_left]
theorem acr(B:BitVec 64)(b:Int):Zh .u64 (tn B) b=tn (B>>>b.toNat):=by
 generalize hn:b.toNat=n;rw[Zh,tn,tn,hn,BitVec.toNat_ushiftRight,Nat.shiftRight_eq_div_pow,show IntKind.u64.bits=64 from rfl];have hb:B.toNat<2^64:=B.isLt;rw[show((2:Int)^min n 64)=((2^min n 64:Nat):Int) by simp,Int.fdiv_eq_ediv_of_nonneg _ (Int.natCast_nonneg _),←Int.natCast_ediv]
 congr 1
 by_cases h:n≤64
 ·rw[Nat.min_eq_left h]
 ·rw[Nat.min_eq_right (by omega),Nat.div_eq_of_lt hb,Nat.div_eq_of_lt (Nat.lt_of_lt_of_le hb (Nat.pow_le_pow_right (by omega) (by omega)))]
theorem abg(A B:BitVec 64):(tn A=tn B)=(A=B):=propext ⟨fun h=>by have:=congrArg wu h;rwa [Hl,Hl]at this,fun h=>h▸rfl⟩
theorem aco:tn 0#64=0:=rfl
theorem ajD(A:BitVec 64):(tn A=0)=(A=0#64):=abg A 0#64
theorem ajE(A:BitVec 64):(tn A=1)=(A=1#64):=abg A 1#64
theorem ahU:wu 0=0#64:=rfl
theorem ajL:wu 1=1#64:=rfl
attribute [simp] anT anV Hl u64_and u64_or u64_xor u64_andNot ahP acr abg aco ajD ajE ahU ajL
def xO(k:Nat)(ys:List (List TV)):Prop:=∀e∈ys,e.length=k
theorem Y8(k:Nat):xO k []=True:=by simp[xO]
theorem Xu(k:Nat)(e:List TV)(es:List (List TV)):xO k (e::es)=(e.length=k∧xO k es):=by simp[xO]
theorem Y7(k:Nat)(a b:List (List TV)):xO k (a++b)=(xO k a∧xO k b):=by
 simp only[xO,List.mem_append,eq_iff_iff];exact⟨fun h=>⟨fun e he=>h e (.inl he),fun e he=>h e (.inr he)⟩,fun h e he=>he.elim (h.1 e) (h.2 e)⟩
theorem aa2(k:Nat)(ys:List (List D)):xO k (dd ys)=dLen k ys:=by simp[xO,dLen,dd]
theorem iF{α:Type}(k:Nat)(f:α→List D)(l:List α)(h:∀x,(f x).length=k):dLen k (l.map f):=by
 intro e he;obtain⟨x,_,rfl⟩:=List.mem_map.1 he;exact h x
theorem kJ{k n:Nat}{l:List (List D)}(h:dLen k l):dLen k (l.take n):=fun e he=>h e (List.mem_of_mem_take he)
theorem ni{k n:Nat}{l:List (List D)}(h:dLen k l):dLen k (l.drop n):=fun e he=>h e (List.mem_of_mem_drop he)
attribute [simp] Y8 Xu Y7 aa2
theorem ad4(k b n:Nat)(ys:List (List TV)):Ll k b n ys=(xO k ys∧(n+ys.length)*b≤140737488355328∧n+ys.length≤9223372036854775807):=rfl
theorem ahQ(l:List Int):u8s (l.map fun n=>[D.int .u8 n])=some l:=by
 induction l with
 | nil=>rfl
 | cons n l ih=>simp[u8s,ih]
attribute [simp] ahQ ad4 Value.oneCell'
theorem Zl:∀l:List D,G7 (l.map .d)=some l
 | []=>rfl
 | x::l=>by simp only[List.map_cons,G7,Zl l];rfl
@[simp]theorem Jg:∀l:List (List D),eu (dd l)=some l
 | []=>rfl
 | x::l=>by
   have:=Jg l;simp only[dd]at this;simp only[dd,List.map_cons,eu,Zl,this]
@[simp]theorem XI:∀a b:List (List TV),eu (a++b)=match eu a,eu b with
  | some x,some y=>some (x++y)
  | _,_=>none
 | [],b=>by cases h:eu b<;>simp[eu,h]
 | e::a,b=>by
   simp only[List.cons_append,eu,XI a b];cases G7 e<;>cases eu a<;>cases eu b<;>rfl
@[simp]theorem ajS(l:List (List D)):(dd l).length=l.length:=by simp[dd]
@[simp]theorem an6:dd [] = []:=rfl
theorem agJ(e:List D)(b:List (List D)):dd (e::b)=e.map .d::dd b:=rfl
@[simp]theorem ajR(a b:List (List D)):dd (a++b)=dd a++dd b:=by simp[dd]
section
variable {P:Program} {A:eX} {ops:Array Oper}
def aee(P:Program)(N:Nat)(t:S)(o:Oper)(f:FuncId)(iR:List TV)(qK:List It)(r:TV)(dF:List It)(ro:List (Nat×It))(ν:List Pl)(b:Nat)(gp:List Pl)(g:Bool):Option (Prop×List Pl×List (Pl×It)):=
 match o.op with
 | .call {callee:=.value fo,args:=xs,argTypes:=_}=>
   match ev t fo with
   | .clo f' caps=>
     match zW t ν ν,TV.qQ t ν (xs.toList.map (ev t)++caps)with
     | some c0,some a0=>
       some (g=true∧pz N o=true∧f'=f∧aZ P f=true∧ν.Nodup∧(∀p∈ν,qw p=true)∧a0=iR∧TV.sQ t (xs.toList.map (ev t)++caps)∧c0=qK∧(∀p∈ν,KQ t (t p))∧
        dF.length=ν.length∧(∀x∈dF,gU x=true)∧(∀x∈ro,isObj x.2=true)∧(∀x∈ro,t (.o (b+x.1)) = .none),
        gp++(pl fo++(xs.toList.flatMap pl++(ν++((TV.tX (xs.toList.map (ev t)++caps)++ν.flatMap (fun p=>Nu (t p))).map .o++ro.map fun x=>.o (b+x.1))))),
        xA o (r.back ν b) (wx ν b ν dF++wo ν b ro))
     | _,_=>none
   | _=>none
 | _=>none
def Us(k:List Pl→List (Pl×It)→Prop)(_:Tg k):Option (Prop×List Pl×List (Pl×It))→Prop
 | some (C,rp,W)=>C∧k rp W
 | none=>False
def aed(P:Program)(N:Nat)(t:S)(ops:Array Oper)(f:FuncId)(iR:List TV)(qK:List It)(r:TV)(dF:List It)(ro:List (Nat×It))(ν:List Pl)(b:Nat):Option Oper→Option (Prop×List Pl×List (Pl×It))
 | some o=>match gv ops t o with
   | some (gp,g)=>aee P N t o f iR qK r dF ro ν b gp g
   | none=>none
 | none=>none
theorem ah.of{i:Nat}{t:S}{k:List Pl→List (Pl×It)→Prop}{g:Tg k}{f:FuncId}{iR:List TV}{qK dF:List It}{r:TV}{ro:List (Nat×It)}(C:Contract P f iR qK r dF ro)(ν:List Pl)(b:Nat)
  (h:Us k g (aed P A.N t ops f iR qK r dF ro ν b ops[i]?)):ah P A ops i t k g:=by
 unfold Us at h;split at h
 ·rename_i D rp W hc;obtain⟨h1,h2⟩:=h;refine⟨rp,W,?_,h2⟩;unfold aed at hc;split at hc
  ·rename_i o ho;split at hc
   ·rename_i gp g0 hg;unfold aee at hc;split at hc
    ·rename_i fo xs tys hop;split at hc
     ·rename_i f' caps hf;split at hc
      ·rename_i c0 a0 hI hp;simp only[Option.some.injEq,Prod.mk.injEq]at hc;obtain⟨rfl,rfl,rfl⟩:=hc;obtain⟨rfl,q1,rfl,q2,q3,q4,rfl,q5,rfl,q6,q7,q8,q9,q10⟩:=h1;exact Sum.call (xs:=xs.toList) ho hg q1 (by simpa using hop) hf q2 C ν b q3 q4 hp q5 hI q6 q7 q8 q9 q10
      ·simp at hc
     ·simp at hc
    ·simp at hc
   ·simp at hc
  ·simp at hc
 ·exact h.elim
end
theorem adV{k:List Pl→List (Pl×It)→Prop}{g:Tg k}{C:Prop}{rp:List Pl}{W:List (Pl×It)}:Us k g (some (C,rp,W))=(C∧k rp W):=rfl
structure aj3{ι:Type}(A:eX)(st:ι→List (Pl×It))(μ:ι→Nat)(n:Nat)(_g:Tg st)(_f:Tg μ)(t:S):Prop where
 ex:∃j,GS A t (look (st j))∧μ j<n
theorem aN.of{P:Program}{A:eX}{ι:Type}{c:Code}{Q:Exit→S→Prop}{g:Tg Q}{t:S}(ow:List Nat)(kp:Nat→Bool)(st:ι→List (Pl×It))(μ:ι→Nat)(i0:ι)(h0:GS A t (look (st i0)))
  (round:∀i,cO P A ow kp c (thn (aj3 A st μ (μ i) .mk .mk) Q) .mk (look (st i))):aN P A c Q g t:=
 ⟨AW.loop (fun i=>look (st i)) μ i0 h0 fun i=>(cO.sound (round i)).mono fun e t h=>by cases e<;>first|exact h.ex|exact h⟩
theorem GS.own'{A:eX}{l l':List (Pl×It)}{k:Nat}(e z:Nat)(hk:look l (.s k) = .v (.c (.slice none 0 0)))(ho:look l (.o k) = .none)
  (h:Sub (look (iI (.s k) (.v (.aB k 0)) (iI (.o k) (.row e z [] false) l))) l'∧jP l'=jP (iI (.s k) (.v (.aB k 0)) (iI (.o k) (.row e z [] false) l))):GS A (look l) (look l'):=by
 have:=GS.own (A:=A) e z hk ho;rw[eU,eU]at this
 exact this.trans (GS.forget h.1 h.2)
def PK:List (Pl×It)→List (Pl×It)→List (Pl×It)
 | [],l=>l
 | (p,i)::W,l=>iI p i (PK W l)
theorem OM:∀(W l:List (Pl×It)),over (look l) W=look (PK W l)
 | [],_=>rfl
 | (p,i)::W,l=>by simp only[over,PK,OM W l,eU]
theorem GS.J9{A:eX}{l l':List (Pl×It)}(s:Nat)(h:(Hg (look l) (.tmp s)).C∧Sub (look (PK (Hg (look l) (.tmp s)).W l)) l'∧jP l'=jP (PK (Hg (look l) (.tmp s)).W l)):GS A (look l) (look l'):=
 fun a w hi=>by
  have:=Um h.1 (fun _ _=>rfl) hi;rw[OM]at this
  exact GS.forget h.2.1 h.2.2 a w this
attribute [simp] PK
theorem GS.to{A:eX}{l l':List (Pl×It)}(h:Sub (look l) l'∧jP l'=jP l):GS A (look l) (look l'):=GS.forget h.1 h.2
def rD(po:Nat→Prop)(es:List (List TV)):Prop:=∀e∈es,TV.xE po e
theorem Xw(po:Nat→Prop):rD po []=True:=by simp[rD]
theorem UZ(po:Nat→Prop)(e:List TV)(es:List (List TV)):rD po (e::es)=(TV.xE po e∧rD po es):=by simp[rD]
theorem Xv(po:Nat→Prop)(a b:List (List TV)):rD po (a++b)=(rD po a∧rD po b):=by
 simp only[rD,List.mem_append,eq_iff_iff];exact⟨fun h=>⟨fun e he=>h e (.inl he),fun e he=>h e (.inr he)⟩,fun h e he=>he.elim (h.1 e) (h.2 e)⟩
theorem Xn(po:Nat→Prop):∀l:List D,TV.xE po (l.map .d)=True
 | []=>by simp[TV.xE]
 | x::l=>by simp only[List.map_cons,TV.xE,TV.only,Xn po l,and_self]
theorem Y9(po:Nat→Prop)(xs:List (List D)):rD po (dd xs)=True:=by
 simp only[rD,dd,List.mem_map,eq_iff_iff,iff_true];rintro e ⟨x,_,rfl⟩;rw[Xn];trivial
attribute [simp] Xw UZ Xv Y9 Xn agJ
section
variable (t:S) (ν:List Pl) (b:Nat) (po:Nat→Prop) (cs:List TV) (e k:Nat) (es:List (List TV)) (sh:Bool)
theorem ads:TG t ν (.box cs)=match TV.qQ t ν cs with|some cs=>some (.box cs)|none=>none:=rfl
theorem aaN:KQ t (.box cs)=TV.sQ t cs:=rfl
theorem adC:Nu (.box cs)=TV.tX cs:=rfl
theorem acD:Lr ν b (.box cs) = .box (TV.backs ν b cs):=rfl
theorem acF:Lr ν b (.row e k es sh) = .row e k (es.map (TV.backs ν b)) sh:=rfl
theorem ac4:gU (.box cs)=true:=rfl
theorem ac8:isObj (.row e k es sh)=true:=rfl
theorem Fin.view{P:Program}{A:eX}{fn:Func}{r:TV}{xs:List It}{ro:List (Nat×It)}{l:List (Pl×It)}(s:Nat)(h:(Hg (look l) (.tmp s)).C∧Fin P A fn r xs ro (over (look l) (Hg (look l) (.tmp s)).W)):Fin P A fn r xs ro (look l):=
 fun a w hi=>h.2 a w (Um h.1 (fun _ _=>rfl) hi)
theorem Ze(ps:List (Nat×Operand))(n:Nat):AX ps n=(ps.map (·.1)==List.range' 0 n):=by rw[AX,List.range_eq_range']
theorem ald(x:D):toD (.d x)=some x:=rfl
theorem ai_(v:TV):It.only po (.v v)=v.only po:=rfl
theorem afv:It.only po (.box cs)=TV.xE po cs:=rfl
theorem afx:It.only po (.row e k es sh)=rD po es:=rfl
theorem ahs(m:List (Int×D)):It.only po (.mp m)=True:=rfl
theorem afg(m:List (Int×D)):isObj (.mp m)=true:=rfl
theorem ad5(m:List (Int×D)):Lr ν b (.mp m) = .mp m:=rfl
attribute [simp] ahs afg ad5
end
attribute [simp] ald ads aaN adC acD acF ac4 ac8 ai_ afv afx
attribute [simp] Ze List.range'_succ adV aed aee TV.pass TV.qQ TV.D_ TV.sQ TV.rows TV.tX TV.back TV.backs zW YE qw wx wo eu G7
end Go.Tr

namespace Go.Tr
open Go
section
variable {A:eX}
theorem dL.agF{t:S}{a:Act}{E:En}{p:Pl}{cs:List TV}{j:Nat}{c c':TV}(hi:dL A t a E)(hs:∀k,p≠.s k)(hp:t p = .box cs)(hj:cs[j]? = some c)(hrel:∀u,aA E c u→aA E c' u):
  dL A (upd t p (.box (cs.set j c'))) a E:=by
 refine⟨⟨fun q hq=>?_,hi.h.frees,hi.h.inj,hi.h.size,hi.h.oQ,fun b o h1 q h2=>?_,hi.h.gl⟩,hi.fr,fun k tv hk=>?_,hi.defers,hi.size⟩
 ·by_cases e:q=p
  ·subst e;have h:=hi.h.item q hq;rw[hp]at h
   simp only[upd,if_true];obtain⟨h1,b,ty,us,h2,h3,h4,h5⟩:=h;refine⟨h1,b,ty,us,h2,h3,by simpa using h4,bG.fZ fun i x hx=>?_⟩;by_cases ei:i=j
   ·subst ei;have hlt:i<cs.length:=(List.getElem?_eq_some_iff.1 hj).1;rw[List.getElem?_set_self hlt]at hx
    simp only[Option.some.injEq]at hx;subst hx;obtain⟨u,g1,g2,g3⟩:=h5.get hj;exact⟨u,g1,g2,hrel u g3⟩
   ·rw[List.getElem?_set_ne (fun h=>ei h.symm)]at hx
    exact h5.get hx
  ·simp only[upd,if_neg e];exact hi.h.item q hq
 ·obtain⟨e,k,es,h3,h4⟩:=hi.h.sep b o h1 q h2;refine⟨e,k,es,?_,h4⟩;have:q≠p:=fun e=>by subst e;rw[hp]at h3;simp at h3
  simp only[upd,if_neg this];exact h3
 ·have:Pl.s k≠p:=fun e=>hs k e.symm
  simp only[upd,if_neg this]at hk;exact hi.sl k tv hk
theorem GS.ownB{t:S}{p:Pl}{cs:List TV}{j id:Nat}(e z:Nat)(hs:∀k,p≠.s k)(hp:t p = .box cs)(hj:cs[j]? = some (.c (.slice none 0 0)))(ho:t (.o id) = .none):
  GS A t (upd (upd t (.o id) (.row e z [] false)) p (.box (cs.set j (.aB id 0)))):=fun a w ⟨E,hw,hi⟩=>by
 obtain⟨E',hw',x,hi',hv⟩:=hi.newRow ho e z;have hne:p≠.o id:=fun e=>by subst e;rw[hp]at ho;simp at ho
 refine⟨E',hw'.trans hw,hi'.agF hs (cs:=cs) (by simp only[upd,if_neg hne];exact hp) hj fun u hu=>?_⟩;simp only[aA]at hu⊢;exact⟨by rw[hu];rfl,z,0,_,hv,Nat.le_refl _,fun _=>hu⟩
theorem GS.gq{l l':List (Pl×It)}(p:Pl)(j id:Nat){cs:List TV}(e z:Nat)(hs:qw p=true)(hp:look l p = .box cs)(hj:cs[j]? = some (.c (.slice none 0 0)))(ho:look l (.o id) = .none)
  (h:Sub (look (iI p (.box (cs.set j (.aB id 0))) (iI (.o id) (.row e z [] false) l))) l'∧jP l'=jP (iI p (.box (cs.set j (.aB id 0))) (iI (.o id) (.row e z [] false) l))):GS A (look l) (look l'):=by
 have:=GS.ownB (A:=A) (id:=id) e z (fun k e=>by subst e;simp[qw]at hs) hp hj ho;rw[eU,eU]at this
 exact this.trans (GS.forget h.1 h.2)
end
end Go.Tr

namespace Go.Tr
open Go
def MJ(w:World):En:={w:=w,St:=fun b _=>b<w.heap.size,blk:=fun _=>none,val:=fun _=>none}
def Hz(w:World):Prop:=∀y∈Yx,bQ (MJ w) y.1 0 y.2
theorem ahi(w:World)(hg:Hz w):jQ (MJ w) (NR []):=by
 refine⟨fun p hp=>?_,fun _=>rfl,fun p q b h=>?_,fun p b h=>?_,fun b o h=>h,fun b o h p g=>?_,hg⟩
 ·have:NR [] p = .none:=by cases p<;>simp[NR]
  rw[this];exact fun id _=>⟨rfl,rfl⟩
 ·cases p<;>simp[En.own,MJ]at h
 ·cases p<;>simp[En.own,MJ]at h
 ·cases p<;>simp[En.own,MJ]at g
theorem Contract.law{P:Program}{f:FuncId}{args:List TV}{r:TV}{ro:List (Nat×It)}(c:Contract P f args [] r [] ro){w:World}(hg:Hz w){us:List Value}(h:aP (MJ w) args us):
  Calls P f us.toArray w fun e w'=>∃u E',e = .returned u∧aA E' r u∧RowKit.Below w.heap.size w w':=by
 refine(c (MJ w) us (ahi w hg) h).mono fun e w' ⟨u,E',he,hw,hp⟩=>⟨u,E',he,hp.rel,?_⟩
 subst hw;exact⟨hp.fr.os,hp.fr.tape,hp.fr.output,hp.fr.size,fun k hk=>hp.fr.old k hk (fun i=>by simp[MJ]) (fun i=>by simp[En.own,MJ])⟩
section
variable {A:eX}
theorem bG.vs{E:En}{us:List Value}:∀{ts:List TV} {o:Nat},bG E us o ts→aP E ts ((us.drop o).take ts.length)∧(∀i,o≤i→i<o+ts.length→∃u,us[i]? = some u∧u.oneCell'=true)
 | [],o,_=>⟨by simp[aP],fun i h1 h2=>by simp at h2;omega⟩
 | t::ts,o,⟨⟨u,h1,h2,h3⟩,r⟩=>by
   obtain⟨g1,g2⟩:=bG.vs r;have hlt:o<us.length:=(List.getElem?_eq_some_iff.1 h1).1;have hu:us[o]=u:=by rw[List.getElem?_eq_getElem hlt]at h1;simpa using h1
   refine⟨?_,fun i i1 i2=>?_⟩
   ·rw[List.drop_eq_getElem_cons hlt,List.length_cons,List.take_succ_cons,hu];simp only[aP];exact⟨u,_,rfl,h3,g1⟩
   ·by_cases e:i=o
    ·subst e;exact⟨u,h1,h2⟩
    ·exact g2 i (by omega) (by simp at i2;omega)
theorem aP.len{E:En}:∀{ts:List TV} {us:List Value},aP E ts us→us.length=ts.length
 | [],us,h=>by simp only[aP]at h;subst h;rfl
 | t::ts,us,h=>by
   simp only[aP]at h;obtain⟨u,us',rfl,_,g⟩:=h;simp[aP.len g]
theorem aP.cellsB{E:En}{us:List Value}:∀{ts:List TV} {o:Nat},o+ts.length≤us.length→aP E ts ((us.drop o).take ts.length)→(∀i,o≤i→i<o+ts.length→∃u,us[i]? = some u∧u.oneCell'=true)→bG E us o ts
 | [],_,_,_,_=>trivial
 | t::ts,o,hl,h,h1=>by
   have hlt:o<us.length:=by simp at hl;omega
   rw[List.drop_eq_getElem_cons hlt,List.length_cons,List.take_succ_cons]at h
   simp only[aP]at h;obtain⟨u,us',he,g1,g2⟩:=h;simp only[List.cons.injEq]at he;obtain⟨rfl,rfl⟩:=he;refine⟨⟨us[o],List.getElem?_eq_getElem hlt,?_,g1⟩,aP.cellsB (by simp at hl;omega) g2 fun i i1 i2=>h1 i (by omega) (by simp;omega)⟩;obtain⟨u,e1,e2⟩:=h1 o (by omega) (by simp);rw[List.getElem?_eq_getElem hlt]at e1
   simp only[Option.some.injEq]at e1;rw[e1];exact e2
theorem dL.aiv{t:S}{a:Act}{E:En}{p:Pl}{cs cs':List TV}(hi:dL A t a E)(hs:∀k,p≠.s k)(hp:t p = .box cs)
  (hrel:∀(b:Nat) (ty:TypeId) (us:Array Value),E.blk p=some b→E.w.heap[b]? = some (.cells us ty (0,0))→us.size=cs.length→aP E cs' us.toList) :
  dL A (upd t p (.box cs')) a E:=by
 refine⟨⟨fun q hq=>?_,hi.h.frees,hi.h.inj,hi.h.size,hi.h.oQ,fun b o h1 q h2=>?_,hi.h.gl⟩,hi.fr,fun k tv hk=>?_,hi.defers,hi.size⟩
 ·by_cases e:q=p
  ·subst e;have h:=hi.h.item q hq;rw[hp]at h
   simp only[upd,if_true];obtain⟨h1,b,ty,us,h2,h3,h4,h5⟩:=h;obtain⟨g1,g2⟩:=h5.vs;have g3:=hrel b ty us h2 h3 h4;have hl:=g3.len;rw[Array.length_toList]at hl
   refine⟨h1,b,ty,us,h2,h3,hl,aP.cellsB (by simp;omega) ?_ fun i i1 i2=>g2 i i1 (by omega)⟩;rw[List.drop_zero,List.take_of_length_le (by simp;omega)];exact g3
  ·simp only[upd,if_neg e];exact hi.h.item q hq
 ·obtain⟨e,k,es,h3,h4⟩:=hi.h.sep b o h1 q h2;refine⟨e,k,es,?_,h4⟩;have:q≠p:=fun e=>by subst e;rw[hp]at h3;simp at h3
  simp only[upd,if_neg this];exact h3
 ·have:Pl.s k≠p:=fun e=>hs k e.symm
  simp only[upd,if_neg this]at hk;exact hi.sl k tv hk
def Wp(t:S)(p:Pl):VR:=
 match t p with
 | .box cs=>match Jb t cs with
   | some (C,rp,vs',W)=>.some C (p::rp) ((p,.box vs')::W)
   | none=>.none
 | _=>.none
theorem ajl{t:S}{c c':TV}{C:Prop}{rp:List Pl}{W:List (Pl×It)}(h:Zd t c=some (C,rp,c',W)):∀p∈W.map (·.1),∃e k es sh,t p = .row e k es sh:=by
 unfold Zd at h;split at h
 ·split at h
  ·rename_i ht;split at h
   ·simp only[Option.some.injEq,Prod.mk.injEq]at h;obtain⟨rfl,rfl,rfl,rfl⟩:=h;intro p hp;simp at hp;subst hp;exact⟨_,_,_,_,ht⟩
   ·simp at h
  ·simp at h
 ·simp only[Option.some.injEq,Prod.mk.injEq]at h;obtain⟨rfl,rfl,rfl,rfl⟩:=h;simp
 ·simp at h
theorem ajk{t:S}{c c':TV}{C:Prop}{rp:List Pl}{W:List (Pl×It)}(h:Zd t c=some (C,rp,c',W)):∀x∈W,∃e k es sh,x.2 = .row e k es sh:=by
 unfold Zd at h;split at h
 ·split at h
  ·split at h
   ·simp only[Option.some.injEq,Prod.mk.injEq]at h;obtain⟨rfl,rfl,rfl,rfl⟩:=h;intro p hp;simp at hp;subst hp;exact⟨_,_,_,_,rfl⟩
   ·simp at h
  ·simp at h
 ·simp only[Option.some.injEq,Prod.mk.injEq]at h;obtain⟨rfl,rfl,rfl,rfl⟩:=h;simp
 ·simp at h
theorem XD:∀{vs:List TV} {t:S} {vs':List TV} {C:Prop} {rp:List Pl} {W:List (Pl×It)},Jb t vs=some (C,rp,vs',W)→(∀x∈W,∃e k es sh,x.2 = .row e k es sh)∧∀p cs,t p = .box cs→p∉W.map (·.1)
 | [],_,_,_,_,_,h=>by simp[Jb]at h
 | c::l,t,vs',C,rp,W,h=>by
   simp only[Jb]at h;split at h
   ·split at h
    ·simp at h
    ·rename_i hl;simp only[Option.some.injEq,Prod.mk.injEq]at h;obtain⟨rfl,rfl,rfl,rfl⟩:=h;exact XD hl
   ·rename_i C1 rp1 c1 W1 hc;have hW:=ajl hc;have hR:=ajk hc;have hn:∀p cs,t p = .box cs→p∉W1.map (·.1):=fun p cs hp hm=>by
     obtain⟨e,k,es,sh,hr⟩:=hW p hm;rw[hp]at hr;simp at hr
    split at h
    ·simp only[Option.some.injEq,Prod.mk.injEq]at h;obtain⟨rfl,rfl,rfl,rfl⟩:=h;exact⟨hR,hn⟩
    ·rename_i hl;simp only[Option.some.injEq,Prod.mk.injEq]at h;obtain⟨rfl,rfl,rfl,rfl⟩:=h;obtain⟨g1,g2⟩:=XD hl;refine⟨fun x hx=>?_,fun p cs hp hm=>?_⟩
     ·rcases List.mem_append.1 hx with h|h
      ·exact g1 x h
      ·exact hR x h
     ·rw[List.map_append,List.mem_append]at hm
      rcases hm with h|h
      ·exact g2 p cs (by rw[mW (hn p cs hp)];exact hp) h
      ·exact hn p cs hp h
theorem abv{t:S}{p:Pl}(hs:qw p=true)(hC:(Wp t p).C):GS A t (over t (Wp t p).W):=fun a w hi=>by
 unfold Wp at hC⊢;split
 ·rename_i cs hp;rw[hp]at hC
  split
  ·rename_i C rp vs' W hv;simp only[hv,VR.C]at hC;obtain⟨E,hw,hi⟩:=hi;obtain⟨E',k1,k2,k3,k4⟩:=NC hv hC (fun _ _=>rfl) hi;have hbox:over t W p = .box cs:=by rw[mW ((XD hv).2 p cs hp)];exact hp
   simp only[VR.W,over];refine⟨E',k1.trans hw,k3.aiv (fun k e=>by subst e;simp[qw]at hs) hbox fun b ty us e1 e2 e3=>k4 _ ?_⟩;have h:=hi.h.item p (fun k e=>by subst e;simp[qw]at hs);rw[hp]at h
   obtain⟨h1,b0,ty0,Zq,h2,h3,h4,h5⟩:=h;have hb:E'.blk p=some b0:=by
    cases p with
    | o id=>exact k2.aea id b0 trivial h2
    | x id=>exact k2.agE id b0 h2
    | s id=>simp[qw]at hs
   rw[hb]at e1
   simp only[Option.some.injEq]at e1;subst e1;rw[k1,h3]at e2
   simp only[Option.some.injEq,Obj.cells.injEq,and_true]at e2;obtain⟨rfl,rfl⟩:=e2;have:=h5.vs.1
   rwa [List.drop_zero,List.take_of_length_le (by simp;omega)]at this
  ·exact hi
 ·exact hi
end
section
variable {A:eX}
attribute [simp] Wp
end
theorem Fin.gs{P:Program}{A:eX}{fn:Func}{r:TV}{xs:List It}{ro:List (Nat×It)}{l l':List (Pl×It)}(g:GS A (look l) (look l'))(h:Fin P A fn r xs ro (look l')):Fin P A fn r xs ro (look l):=
 fun a w hi=>h a w (g a w hi)
theorem Fin.box{P:Program}{A:eX}{fn:Func}{r:TV}{xs:List It}{ro:List (Nat×It)}{l:List (Pl×It)}(p:Pl)(hs:qw p=true)(h:(Wp (look l) p).C∧Fin P A fn r xs ro (over (look l) (Wp (look l) p).W)):Fin P A fn r xs ro (look l):=
 fun a w hi=>h.2 a w (abv hs h.1 a w hi)
end Go.Tr

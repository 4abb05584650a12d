/-
  What functions of the program compute, stated as contracts over plain data; the conditions of each stand in its own statement.
-/
import Derived.Test.YtboimfkommpglaaGreatDoorZA13
set_option linter.unusedSimpArgs false
set_option maxRecDepth 100000
set_option maxHeartbeats 2000000
namespace Go.Proofs
open Go Go.Tr
def Pk.with(q:Pk)(p:Pn)(s:Sb):Pk:=⟨q.mode,p.bF,s.set,p.len,q.ttl,q.ent,q.ing,q.proto,s.bits,q.pay⟩
def e0:ByteArray:=⟨#[]⟩
theorem Yt(cost tree:Int)(skip:Bool)(b:Int):∀(n:Nat) (a:Int) (T:Tp) (l:List Lk),ak (dV cost tree skip b n a T l).2=ak T
 | 0,_,_,_=>rfl
 | n+1,a,T,l=>by rw[dV,Yt cost tree skip b n,aeW]
theorem Yu(cost:Int):∀(n:Nat) (b:Int) (T:Tp) (l:List Lk),ak (dS cost n b T l).2=ak T
 | 0,_,_,_=>rfl
 | n+1,b,T,l=>by
   rw[dS,Yu cost n];simp only[gW];rw[Yt];simp
@[simp]theorem anI(T:Tp)(most:Int):ak (dG T most).2=ak T:=by
 simp only[dG];rw[Yu];simp
@[simp]theorem aeX(T:Tp):ak (iY T).2=ak T:=by simp[iY]
@[simp]theorem anH(T:Tp):ak (Bg T).2=ak T:=by simp[Bg]
@[simp]theorem RN(T:Tp)(n:Int):ak (bY T n).2=ak T:=by
 unfold bY;split
 ·split
  ·unfold yP;simp only
   repeat' split
   all_goals simp
  ·simp
 ·simp
theorem wz(n lo hi:Int):Contract Tryz.prog 206 [.d (.int .i64 n),.d (.int .i64 lo),.d (.int .i64 hi)] [] (.d (.bool (inB n lo hi))) [] []:=by
 refine aj Tryz.func206 rfl (fun E0=>?_);refine cO.sound (g:=.mk) (ow:=[]) (kp:=(fun k=>k==0||k==1||k==2||k==6)) ?_;rw[Tryz.ntmps206];by_cases h:lo≤n
 ·simp -dsimp[h];refine Fin.of ?_;simp[inB,h]
 ·simp -dsimp[h];refine Fin.of ?_;simp[inB,h]
theorem Iu(n lo hi:Int):Contract Tryz.prog 229 [.d (.int .i64 n),.d (.int .i64 lo),.d (.int .i64 hi)] [] (.d (.bool (inB n lo hi))) [] []:=by
 refine aj Tryz.func229 rfl (fun E0=>?_);refine cO.sound (g:=.mk) (ow:=[]) (kp:=(fun k=>k==0||k==1||k==2||k==6)) ?_;rw[Tryz.ntmps229];by_cases h:lo≤n
 ·simp -dsimp[h];refine Fin.of ?_;simp[inB,h]
 ·simp -dsimp[h];refine Fin.of ?_;simp[inB,h]
def Ej(set bit len:Int):Bool:=aG len&&(inB bit 0 (len-1)&&(inB set 0 31&&decide (set*len+bit+1≤256)))
def zD(set bit len:Int):TV:=.rG [.d (.int .i64 (if Ej set bit len then set*len+bit+1 else 0)),.d (.bool (Ej set bit len))]
def mF(l:List Int)(n:Int):Bool:=decide (n∈l)
theorem RS(l:List Int)(hl:l.length≤9223372036854775807)(n:Int):Contract Tryz.prog 93 [.d (ints l),.d (.int .i64 n)] [] (.d (.bool (mF l n))) [] []:=by
 refine aj Tryz.func93 rfl (fun E0=>?_);refine cO.sound (g:=.mk) (ow:=[]) (kp:=(fun k=>k==0||k==1||k==4||k==5||k==9||k==17)) ?_;rw[Tryz.ntmps93];simp -dsimp[ints]
 refine aN.of [] (fun k=>k==0||k==1||k==4||k==5||k==9||k==17) (ι:={i:Nat // i≤l.length∧∀a,a<i→∀x,l[a]? = some x→x≠n}) (fun z=>[(Pl.s 0,It.v (.d (ints l))),(Pl.s 1,It.v (.d (.int .i64 n))),(Pl.s 4,It.v (.d (.bool false))),(Pl.s 5,It.v (.d (.int .i64 z.1)))]) (fun z=>l.length-z.1) ⟨0,by omega,fun a h=>by omega⟩ ?_ ?_
 ·exact GS.to (by simp[ints])
 ·rintro⟨i,i1,i2⟩;by_cases hi:i<l.length
  ·by_cases h:l[i]=n
   ·simp -dsimp[ints,hi,h];try refine⟨?_,⟨by kernel_rfl⟩⟩
    refine Fin.of ?_;have:mF l n=true:=by simp only[mF,decide_eq_true_eq];rw[←h];exact List.getElem_mem hi
    simp[this]
   ·simp -dsimp[ints,hi,h,wrap_i64 (n:=(i:Int)+1) (by omega) (by omega)];try refine⟨?_,⟨by kernel_rfl⟩⟩
    exact⟨⟨i+1,by omega,fun a ha x hx=>by
     by_cases e:a=i
     ·subst e;rw[List.getElem?_eq_getElem hi]at hx;simp only[Option.some.injEq]at hx;rw[←hx];exact h
     ·exact i2 a (by omega) x hx⟩,GS.to (by simp[ints]),by simp;omega⟩
  ·simp -dsimp[ints,hi];refine Fin.of ?_;have:mF l n=false:=by
    simp only[mF,decide_eq_false_iff_not];intro hm;obtain⟨a,ha⟩:=List.getElem?_of_mem hm;exact i2 a (by have:=(List.getElem?_eq_some_iff.1 ha).1;omega) n ha rfl
   simp[this]
theorem Qm(l:List Int)(hl:l.length≤1000000)(n:Int):Contract Tryz.prog 93 [.d (ints l),.d (.int .i64 n)] [] (.d (.bool (mF l n))) [] []:=RS l (Nat.le_trans hl (by decide)) n
theorem yU(a b:List Int)(hl:a.length≤1000000):Contract Tryz.prog 20 [.d (ints a),.d (ints b)] [] (.d (.bool (decide (a=b)))) [] []:=by
 refine aj Tryz.func20 rfl (fun E0=>?_);refine cO.sound (g:=.mk) (ow:=[]) (kp:=(fun k=>k==0||k==1||k==4||k==5||k==10||k==14||k==25)) ?_;rw[Tryz.ntmps20];by_cases hlen:a.length=b.length
 ·simp -dsimp[ints,hlen];refine aN.of [] (fun k=>k==0||k==1||k==4||k==5||k==10||k==14||k==25) (ι:={i:Nat // i≤a.length∧∀j,j<i→a[j]? = b[j]? }) (fun z=>[(Pl.s 0,It.v (.d (ints a))),(Pl.s 1,It.v (.d (ints b))),(Pl.s 4,It.v (.d (.bool false))),(Pl.s 5,It.v (.d (.int .i64 z.1)))]) (fun z=>a.length-z.1) ⟨0,by omega,fun j h=>by omega⟩ ?_ ?_
  ·exact GS.to (by simp[ints])
  ·rintro⟨i,i1,i2⟩;by_cases hi:i<a.length
   ·have hi':i<b.length:=by omega
    by_cases h:a[i]=b[i]
    ·simp -dsimp[ints,hi,hi',h,wrap_i64 (n:=(i:Int)+1) (by omega) (by omega)];try refine⟨?_,⟨by kernel_rfl⟩⟩
     exact⟨⟨i+1,by omega,fun j hj=>by
      by_cases e:j=i
      ·subst e;rw[List.getElem?_eq_getElem hi,List.getElem?_eq_getElem hi',h]
      ·exact i2 j (by omega)⟩,GS.to (by simp[ints]),by simp;omega⟩
    ·simp -dsimp[ints,hi,hi',h];try refine⟨?_,⟨by kernel_rfl⟩⟩
     refine Fin.of ?_;have:a≠b:=fun e=>by subst e;exact h rfl
     simp[this]
   ·simp -dsimp[ints,hi];refine Fin.of ?_;have:a=b:=List.ext_getElem? fun j=>by
     by_cases hj:j<i
     ·exact i2 j hj
     ·rw[List.getElem?_eq_none (by omega),List.getElem?_eq_none (by omega)]
    simp[this]
 ·have hlen' :¬(a.length:Int)=b.length:=by omega
  simp -dsimp[ints,hlen,hlen'];refine Fin.of ?_;have:a≠b:=fun e=>hlen (by rw[e])
  simp[this]
theorem aaA(l:List Int)(hl:l.length≤1000000)(n:Int):Contract Tryz.prog 221 [.d (ints l),.d (.int .i64 n)] [] (.d (ints (E8 l n))) [] []:=by
 refine aj Tryz.func221 rfl (fun E0=>?_);refine cO.sound (g:=.mk) (ow:=[]) (kp:=(fun k=>k==0||k==1||k==4||k==5||k==6||k==18||k==32)) ?_;rw[Tryz.ntmps221];simp -dsimp[ints]
 refine aN.of [] (fun k=>k==0||k==1||k==4||k==5||k==6||k==18||k==32) (ι:={p:Nat // p≤l.length∧insPos n l=p+insPos n (l.drop p)}) (fun z=>[(Pl.s 0,It.v (.d (ints l))),(Pl.s 1,It.v (.d (.int .i64 n))),(Pl.s 4,It.v (.c (Value.slice none 0 0))),(Pl.s 5,It.v (.d (.int .i64 z.1)))]) (fun z=>l.length-z.1) ⟨0,by omega,by simp⟩ ?_ ?_
 ·exact GS.to (by simp[ints])
 ·rintro⟨p,p1,p2⟩;by_cases hp:p<l.length
  ·have hd:l.drop p=l[p]::l.drop (p+1):=List.drop_eq_getElem_cons _;by_cases h:l[p]<n
   ·simp -dsimp[ints,hp,h,wrap_i64 (n:=(p:Int)+1) (by omega) (by omega)];try refine⟨?_,⟨by kernel_rfl⟩⟩
    exact⟨⟨p+1,by omega,by rw[p2,hd,insPos,if_pos h];omega⟩,GS.to (by simp[ints]),by simp;omega⟩
   ·have hq:insPos n l=p:=by rw[p2,hd,insPos,if_neg h];omega
    by_cases he:l[p]=n
    ·simp -dsimp[ints,hp,h,he];try refine⟨?_,⟨by kernel_rfl⟩⟩
     refine Fin.of ?_;have hI:E8 l n=l:=by rw[E8,if_pos (by rw[hq,List.getElem?_eq_getElem hp,he])]
     simp[hI]
    ·simp -dsimp[ints,hp,h,he];have dl:dLen 1 (l.map fun x=>[D.int .i64 x]):=iF 1 _ _ fun _=>rfl
     and_intros;all_goals try first|omega|exact⟨by kernel_rfl⟩|exact kJ dl|exact ni (kJ dl)|(simp;omega)
     refine Fin.view 4 ?_;simp -dsimp;and_intros;all_goals try first|omega|exact⟨by kernel_rfl⟩|(simp;omega)
     refine Fin.of ?_;have hI:E8 l n=l.take p++[n]++l.drop p:=by rw[E8,hq,if_neg (by rw[List.getElem?_eq_getElem hp];simpa using he)]
     simp[hI,ints,List.take_of_length_le]
  ·have hq:insPos n l=p:=by rw[p2,List.drop_eq_nil_of_le (by omega),insPos];omega
   simp -dsimp[ints,hp];have dl:dLen 1 (l.map fun x=>[D.int .i64 x]):=iF 1 _ _ fun _=>rfl
   and_intros;all_goals try first|omega|exact⟨by kernel_rfl⟩|exact kJ dl|exact ni (kJ dl)|(simp;omega)
   refine Fin.view 4 ?_;simp -dsimp;and_intros;all_goals try first|omega|exact⟨by kernel_rfl⟩|(simp;omega)
   refine Fin.of ?_;have hI:E8 l n=l.take p++[n]++l.drop p:=by rw[E8,hq,if_neg (by rw[List.getElem?_eq_none (by omega)];simp)]
   simp[hI,ints,List.take_of_length_le]
def aas(v:Int)(l:List Int):Int:=match l.findIdx? (fun x=>decide (x=v))with|some i=>i|none=>-1
theorem ahf{v:Int}{l:List Int}{i:Nat}(hx:l[i]? = some v)(h:∀a,a<i→∀y,l[a]? = some y→y≠v):aas v l=i:=by
 unfold aas;obtain⟨hi,hv⟩:=List.getElem?_eq_some_iff.1 hx;have:l.findIdx? (fun x=>decide (x=v))=some i:=by
  rw[List.findIdx?_eq_some_iff_getElem];exact⟨hi,by simp[hv],fun j hj=>by have:=h j hj _ (List.getElem?_eq_getElem (by omega));simpa using this⟩
 rw[this]
theorem ahg{v:Int}{l:List Int}(h:∀a,a<l.length→∀y,l[a]? = some y→y≠v):aas v l = -1:=by
 unfold aas;have:l.findIdx? (fun x=>decide (x=v))=none:=by
  rw[List.findIdx?_eq_none_iff];intro x hx;obtain⟨i,hi⟩:=List.getElem?_of_mem hx;simpa using h i (List.getElem?_eq_some_iff.1 hi).1 x hi
 rw[this]
theorem afb(v:Int)(l:List Int):decide (0≤aas v l)=mF l v:=by
 unfold aas mF;cases h:l.findIdx? (fun x=>decide (x=v))with
 | none=>
   have:=List.findIdx?_eq_none_iff.1 h;simp;intro hm;simpa using this v hm
 | some i=>
   obtain⟨hi,h1,_⟩:=List.findIdx?_eq_some_iff_getElem.1 h;simp at h1;simp;rw[←h1];exact List.getElem_mem hi
theorem afe(l:List Int)(hl:l.length≤9223372036854775807)(v:Int):Contract Tryz.prog 215 [.d (ints l),.d (.int .i64 v)] [] (.d (.int .i64 (aas v l))) [] []:=by
 refine aj Tryz.func215 rfl (fun E0=>?_);refine cO.sound (g:=.mk) (ow:=[]) (kp:=(fun k=>k==0||k==1||k==4||k==5||k==7||k==8||k==9||k==16)) ?_;rw[Tryz.ntmps215];simp -dsimp[ints]
 refine aN.of [] (fun k=>k==0||k==1||k==4||k==5||k==7||k==8||k==9||k==16) (ι:={i:Nat // i≤l.length∧∀a,a<i→∀x,l[a]? = some x→x≠v}) (fun z=>[(Pl.s 0,It.v (.d (ints l))),(Pl.s 1,It.v (.d (.int .i64 v))),(Pl.s 4,It.v (.d (.int .i64 0))),(Pl.s 7,It.v (.d (.int .i64 l.length))),(Pl.s 8,It.v (.d (.int .i64 z.1)))]) (fun z=>l.length-z.1) ⟨0,by omega,fun a h=>by omega⟩ ?_ ?_
 ·exact GS.to (by simp[ints])
 ·rintro⟨i,i1,i2⟩;by_cases hi:i<l.length
  ·by_cases h:l[i]=v
   ·have h':v=l[i]:=h.symm;simp -dsimp[ints,hi,h,wrap_i64 (n:=(i:Int)+1) (by omega) (by omega)];try refine⟨?_,⟨by kernel_rfl⟩⟩
    refine Fin.of ?_;simp[ahf (v:=v) (l:=l) (i:=i) (by rw[List.getElem?_eq_getElem hi,h]) i2]
   ·have h' :¬v=l[i]:=fun e=>h e.symm
    simp -dsimp[ints,hi,h,h',wrap_i64 (n:=(i:Int)+1) (by omega) (by omega)];try refine⟨?_,⟨by kernel_rfl⟩⟩
    exact⟨⟨i+1,by omega,fun a ha x hx=>by
     by_cases e:a=i
     ·subst e;rw[List.getElem?_eq_getElem hi]at hx;simp only[Option.some.injEq]at hx;rw[←hx];exact h
     ·exact i2 a (by omega) x hx⟩,GS.to (by simp[ints]),by simp;omega⟩
  ·simp -dsimp[ints,hi];refine Fin.of ?_;simp[ahg (v:=v) (l:=l) fun a ha=>i2 a (by omega)]
theorem Ph(l:List Int)(hl:l.length≤9223372036854775807)(v:Int):Contract Tryz.prog 139 [.d (ints l),.d (.int .i64 v)] [] (.d (.bool (mF l v))) [] []:=by
 refine aj Tryz.func139 rfl (fun E0=>?_);refine cO.sound (g:=.mk) (ow:=[]) (kp:=(fun k=>k==0||k==1||k==4)) ?_;rw[Tryz.ntmps139];simp -dsimp;refine ah.of (afe l hl v) [] 0 ?_;simp -dsimp;refine Fin.of ?_;simp[afb]
theorem contains_c(l:List Int)(hl:l.length≤1000000)(v:Int):Contract Tryz.prog 139 [.d (ints l),.d (.int .i64 v)] [] (.d (.bool (mF l v))) [] []:=Ph l (Nat.le_trans hl (by decide)) v
end Go.Proofs

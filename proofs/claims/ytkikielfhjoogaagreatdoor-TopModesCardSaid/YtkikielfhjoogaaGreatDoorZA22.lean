/-
  What functions of the program compute, stated as contracts over plain data; the conditions of each stand in its own statement.
-/
import Derived.Test.YtkikielfhjoogaaGreatDoorZA21
import Derived.Test.YtkikielfhjoogaaGreatDoorZA18
import Derived.Test.YtkikielfhjoogaaGreatDoorZA19
set_option linter.unusedVariables false
set_option linter.unusedSimpArgs false
set_option maxRecDepth 100000
set_option maxHeartbeats 2000000
namespace Go.Proofs
open Go Go.Tr
theorem adM(l:List Tb)(hl:l.length≤1000000)(f:FuncId)(q:Tb→Bool)(hf:∀x,x∈l→Contract Tryz.prog f [mD x] [] (.d (.bool (q x))) [] [])(hok:dB Tryz.prog f=true):
  Contract Tryz.prog 133 [.d (.sl (l.map Tb.cs)),.clo f []] [] (.d (.int .i64 (BK q l))) [] []:=by
 refine ay Tryz.func133 rfl (fun E0=>?_);refine iC.sound (g:=.mk) (ow:=[]) (kp:=(kb 0x103b3)) ?_;rw[Tryz.ntmps133];simp -dsimp;refine dD.of [] (kb 0x103b3) (ι:={i:Nat // i≤l.length∧∀a,a<i→∀x,l[a]? = some x→q x=false})
  (fun z=>[(.s 0,It.v (.d (.sl (l.map Tb.cs)))),(.s 1,It.v (.clo f [])),(.s 4,It.v (.d (.int .i64 0))),(.s 7,It.v (.d (.int .i64 l.length))),(.s 8,It.v (.d (.int .i64 z.1)))]) (fun z=>l.length-z.1) ⟨0,by omega,fun a h=>by omega⟩ ?_ ?_
 ·exact GS.to (by simp)
 ·rintro⟨i,i1,i2⟩;by_cases hi:i<l.length
  ·have hiz:(i:Int)<l.length:=by omega
   have hx:l[i]? = some l[i]:=aj hi;have hm:l[i]∈l:=aJ hi;generalize l[i]=x at hx hm;simp -dsimp[hiz,hx,Tb.cs,jM,wrap_i64 (n:=(i:Int)+1) (by omega) (by omega)];and_intros;all_goals try first|rfl|omega|exact⟨by kernel_rfl⟩
   refine aI.of (hf x hm) [] 0 ?_;rcases (aA (q x)).symm with h|h
   ·simp -dsimp[h,hok,mD,jM,wrap_i64 (n:=(i:Int)+1) (by omega) (by omega)];and_intros;all_goals try first|rfl|omega|exact⟨by kernel_rfl⟩
    exact⟨⟨i+1,by omega,fun a ha y hy=>by
     by_cases e:a=i
     ·subst e;rw[hx]at hy;simp only[ah]at hy;subst hy;exact h
     ·exact i2 a (by omega) y hy⟩,GS.to (by simp),by simp;omega⟩
   ·simp -dsimp[h,hok,mD,jM];and_intros;all_goals try first|rfl|omega|exact⟨by kernel_rfl⟩
    refine Fin.of ?_;simp[xq hx h i2]
  ·simp -dsimp[hi];refine Fin.of ?_;simp;exact(yc fun a ha=>i2 a (by omega)).symm
theorem QO(l:List Tb)(hl:l.length≤1000000)(f:FuncId)(q:Tb→Bool)(hf:∀x,x∈l→Contract Tryz.prog f [mD x] [] (.d (.bool (q x))) [] [])(hok:dB Tryz.prog f=true):
  Contract Tryz.prog 80 [.d (.sl (l.map Tb.cs)),.clo f []] [] (.d (.bool (l.any q))) [] []:=by
 refine ay Tryz.func80 rfl (fun E0=>?_);refine iC.sound (g:=.mk) (ow:=[]) (kp:=(kb 0x13)) ?_;rw[Tryz.ntmps80];simp -dsimp;refine aI.of (adM l hl f q hf hok) [] 0 ?_;simp -dsimp;refine Fin.of ?_;simp[wB]
theorem adN(l:List Tb)(hl:l.length≤1000000)(f:FuncId)(ds:List D)(q:Tb→Bool)(hf:∀x,x∈l→Contract Tryz.prog f [mD x,.ptr (.x 0) 0] [.box (ds.map .d)] (.d (.bool (q x))) [.box (ds.map .d)] [])(hok:dB Tryz.prog f=true):
  Contract Tryz.prog 133 [.d (.sl (l.map Tb.cs)),.clo f [.ptr (.x 0) 0]] [.box (ds.map .d)] (.d (.int .i64 (BK q l))) [.box (ds.map .d)] []:=by
 refine ay Tryz.func133 rfl (fun E0=>?_);refine iC.sound (g:=.mk) (ow:=[]) (kp:=(kb 0x103b3)) ?_;rw[Tryz.ntmps133];simp -dsimp;refine dD.of [] (kb 0x103b3) (ι:={i:Nat // i≤l.length∧∀a,a<i→∀x,l[a]? = some x→q x=false})
  (fun z=>[(.s 0,It.v (.d (.sl (l.map Tb.cs)))),(.s 1,It.v (.clo f [TV.ptr (.x 0) 0])),(.x 0,It.box (List.map TV.d ds)),(.s 4,It.v (.d (.int .i64 0))),(.s 7,It.v (.d (.int .i64 l.length))),(.s 8,It.v (.d (.int .i64 z.1)))]) (fun z=>l.length-z.1) ⟨0,by omega,fun a h=>by omega⟩ ?_ ?_
 ·exact GS.to (by simp)
 ·rintro⟨i,i1,i2⟩;by_cases hi:i<l.length
  ·have hiz:(i:Int)<l.length:=by omega
   have hx:l[i]? = some l[i]:=aj hi;have hm:l[i]∈l:=aJ hi;generalize l[i]=x at hx hm;simp -dsimp[hiz,hx,Tb.cs,jM,wrap_i64 (n:=(i:Int)+1) (by omega) (by omega)];and_intros;all_goals try first|rfl|omega|exact⟨by kernel_rfl⟩
   refine aI.of (hf x hm) [.x 0] 0 ?_;rcases (aA (q x)).symm with h|h
   ·simp -dsimp[h,hok,mD,jM,wrap_i64 (n:=(i:Int)+1) (by omega) (by omega)];and_intros;all_goals try first|rfl|omega|exact⟨by kernel_rfl⟩
    exact⟨⟨i+1,by omega,fun a ha y hy=>by
     by_cases e:a=i
     ·subst e;rw[hx]at hy;simp only[ah]at hy;subst hy;exact h
     ·exact i2 a (by omega) y hy⟩,GS.to (by simp),by simp;omega⟩
   ·simp -dsimp[h,hok,mD,jM];and_intros;all_goals try first|rfl|omega|exact⟨by kernel_rfl⟩
    refine Fin.of ?_;simp[xq hx h i2]
  ·simp -dsimp[hi];refine Fin.of ?_;simp;exact(yc fun a ha=>i2 a (by omega)).symm
theorem QS(l:List Tb)(hl:l.length≤1000000)(f:FuncId)(ds:List D)(q:Tb→Bool)(hf:∀x,x∈l→Contract Tryz.prog f [mD x,.ptr (.x 0) 0] [.box (ds.map .d)] (.d (.bool (q x))) [.box (ds.map .d)] [])(hok:dB Tryz.prog f=true):
  Contract Tryz.prog 80 [.d (.sl (l.map Tb.cs)),.clo f [.ptr (.x 0) 0]] [.box (ds.map .d)] (.d (.bool (l.any q))) [.box (ds.map .d)] []:=by
 refine ay Tryz.func80 rfl (fun E0=>?_);refine iC.sound (g:=.mk) (ow:=[]) (kp:=(kb 0x13)) ?_;rw[Tryz.ntmps80];simp -dsimp;refine aI.of (adN l hl f ds q hf hok) [.x 0] 0 ?_;simp -dsimp;refine Fin.of ?_;simp[wB]
def Gn(l:List Tb):List (List D):=l.map Tb.cs
def rws(l:List Rw):List (List D):=l.map Rw.cs
theorem aj1{l:List Rw}{i:Nat}{x:Rw}(h:l[i]? = some x):(rws l)[i]? = some [.int .i64 x.id,ints x.nx]:=by simp[rws,h,Rw.cs]
@[simp]theorem aqZ(l:List Rw):(rws l).length=l.length:=by simp[rws]
theorem aj0(l:List Rw)(x:Rw):rws (l++[x])=rws l++[[.int .i64 x.id,ints x.nx]]:=by simp[rws,Rw.cs]
theorem VO(l:List Rw):jM l = .sl (rws l):=rfl
theorem Nl{l:List Tb}{i:Nat}{b:Tb}(h:l[i]? = some b):(Gn l)[i]? = some [.int .i64 b.r,.int .i64 b.sd,.int .i64 b.len,.sl (rws b.rows)]:=by simp[Gn,h,Tb.cs,VO]
@[simp]theorem aq3(l:List Tb):(Gn l).length=l.length:=by simp[Gn]
structure SmL(l:List Tb):Prop where
 n:l.length≤1000
 t:∀b∈l,b.Sm
structure Tb.SmB(b:Tb):Prop where
 rows:b.rows.length≤9223372036854775807
 nx:∀x∈b.rows,x.nx.length≤9223372036854775807
theorem Tb.Sm.big{b:Tb}(h:b.Sm):b.SmB:=⟨dw h.rows (by decide),fun x hx=>dw (h.nx x hx) (by decide)⟩
structure am4(l:List Tb):Prop where
 n:l.length≤1000
 t:∀b∈l,b.SmB
theorem SmL.big{l:List Tb}(h:SmL l):am4 l:=⟨h.n,fun b hb=>(h.t b hb).big⟩
def tb0:Tb:=⟨0,0,0,[]⟩
def Jt(l:List Tb):Int:=lG [(decide (24<l.length),3),(l.any fun b=>decide (chk b≠0),1),(o8 (fun x y=>decide (y.r≤x.r)) l,25),
 (l.any fun b=>decide (b.sd≠(l.headD tb0).sd)||decide (b.len≠(l.headD tb0).len),8)]
def lZ(l:List Tb)(r:Int):Option Tb:=l.find? fun b=>decide (b.r=r)
def FB(o:Option Tb):TV:=.qh [mD (o.getD tb0),.d (.bool o.isSome)]
theorem ak_(b:Tb)(hb:b.SmB):Contract Tryz.prog 81 [mD b] [] (.d (.bool (decide (chk b≠0)))) [] []:=by refine ay Tryz.func81 rfl (fun E0=>?_);refine iC.sound (g:=.mk) (ow:=[]) (kp:=(kb 7)) ?_;rw[Tryz.ntmps81];simp -dsimp[mD];refine aI.of (Uu b hb.rows hb.nx) [] 0 ?_;simp -dsimp[mD];refine Fin.of ?_;simp
theorem ane(l:List Tb)(c:Tb)(h0:l[0]? = some c)(b:Tb):Contract Tryz.prog 83 [mD b,.ptr (.x 0) 0] [.box ([D.sl (Gn l)].map .d)] (.d (.bool (decide (b.sd≠c.sd)||decide (b.len≠c.len)))) [.box ([D.sl (Gn l)].map .d)] []:=by
 have h0':=Nl h0;have hl:0<l.length:=(aB.1 h0).1;refine ay Tryz.func83 rfl (fun E0=>?_);refine iC.sound (g:=.mk) (ow:=[]) (kp:=(kb 0xf)) ?_;rw[Tryz.ntmps83];by_cases a1:b.sd=c.sd
 ·simp -dsimp[mD,h0',eq_true a1];and_intros;all_goals try first|rfl|omega|exact⟨by kernel_rfl⟩
  refine Fin.of ?_;simp
 ·simp -dsimp[mD,h0',eq_false a1];and_intros;all_goals try first|rfl|omega|exact⟨by kernel_rfl⟩
  refine Fin.of ?_;simp[a1]
theorem adn(l:List Tb)(hl:am4 l):Contract Tryz.prog 33 [.d (.sl (Gn l))] [] (.d (.int .i64 (Jt l))) [] []:=by
 have hn:=hl.n;refine ay Tryz.func33 rfl (fun E0=>?_);refine iC.sound (g:=.mk) (ow:=[]) (kp:=(kb 0x88000711f)) ?_;rw[Tryz.ntmps33];by_cases c1:24<l.length
 ·have L8:(24:Int)<l.length:=by omega
  simp -dsimp[L8];refine Fin.of ?_;simp[Jt,lG,c1]
 have L8 :¬(24:Int)<l.length:=by omega
 simp -dsimp[L8];have hA:=QO l (by omega) 81 (fun b=>decide (chk b≠0)) (fun b hb=>ak_ b (hl.t b hb)) (by simp);refine aI.of hA [] 0 ?_;rcases aA (l.any fun b=>decide (chk b≠0))with e1|e1
 ·rw[e1];simp -dsimp[L8,Gn];refine Fin.of ?_;simp only[Jt,lG,cond_true,cond_false,decide_eq_false c1,e1];simp
 rw[e1];simp -dsimp[L8,Gn]
 as_aux_lemma=>
 refine dD.of [] (kb 0x88000711f) (ι:={i:Nat // i≤l.length∧o8 (fun x y=>decide (y.r≤x.r)) l=o8 (fun (x y:Tb)=>decide (y.r≤x.r)) (l.drop (i-1))}) (fun z=>[(.s 0,It.v (.d (.sl (Gn l)))),(.o 1,It.box [TV.d (.sl (Gn l))]),(.s 1,It.v (.ptr (.o 1) 0)),(.s 2,It.v (.d (.int .i64 0))),(.s 12,It.v (.d (.int .i64 l.length))),(.s 13,It.v (.d (.int .i64 z.1)))]) (fun z=>l.length-z.1) ⟨0,by omega,rfl⟩ ?_ ?_
 ·exact GS.to (by simp[Gn])
 rintro⟨i,i1,i2⟩;by_cases hi:i<l.length
 ·have hiz:(i:Int)<l.length:=by omega
  have hy:l[i]? = some l[i]:=aj hi;generalize l[i]=y at hy;have hy':=Nl hy;by_cases h0:i=0
  ·have h0z :¬0<i:=by omega
   simp -dsimp[hiz,hy',h0z,wrap_i64 (n:=(i:Int)+1) (by omega) (by omega)];and_intros;all_goals try first|rfl|omega|exact⟨by kernel_rfl⟩
   exact⟨⟨i+1,by omega,by simp[h0]⟩,GS.to (by simp),by simp;omega⟩
  ·have h0z:0<i:=by omega
   have hx:l[i-1]? = some l[i-1]:=aj (by omega);have hi1:((i:Int)-1).toNat=i-1:=by omega
   have hy2:l[i-1+1]? = some y:=by rw[show i-1+1=i by omega];exact hy
   generalize l[i-1]=x at hx;have hx':=Nl hx;by_cases a1:y.r≤x.r
   ·simp -dsimp[hiz,hx',hy',h0z,hi1,a1,wrap_i64 (n:=(i:Int)-1) (by omega) (by omega)];and_intros;all_goals try first|rfl|omega|exact⟨by kernel_rfl⟩
    refine Fin.of ?_;have e:=Gt hx hy2 i2 (by simpa using a1);simp only[Jt,lG,cond_true,cond_false,decide_eq_false c1,e1,e];simp
   ·simp -dsimp[hiz,hx',hy',h0z,hi1,a1,wrap_i64 (n:=(i:Int)-1) (by omega) (by omega),wrap_i64 (n:=(i:Int)+1) (by omega) (by omega)];and_intros;all_goals try first|rfl|omega|exact⟨by kernel_rfl⟩
    have e:=BU hx hy2 i2 (by simpa using a1);rw[show i-1+1=i by omega]at e
    exact⟨⟨i+1,by omega,e⟩,GS.to (by simp),by simp;omega⟩
 have e2:o8 (fun x y=>decide (y.r≤x.r)) l=false:=Gs i2 (by omega);have hiz :¬(i:Int)<l.length:=by omega
 simp -dsimp[hiz];have hget:∀b∈l,l[0]? = some (l.headD tb0):=fun b h=>by have hi:=fZ h;obtain⟨c,m,e⟩:=List.exists_cons_of_length_pos hi;rw[e];rfl
 have hck:Jt l=bif (l.any fun b=>decide (b.sd≠(l.headD tb0).sd)||decide (b.len≠(l.headD tb0).len))then 8 else 0:=by simp only[Jt,lG,cond_true,cond_false,decide_eq_false c1,e1,e2]
 have hB:=QS l (by omega) 83 [D.sl (Gn l)] (fun b=>decide (b.sd≠(l.headD tb0).sd)||decide (b.len≠(l.headD tb0).len)) (fun b hb=>ane l _ (hget b hb) b) (by simp);rw[hck];generalize (l.any fun b=>decide (b.sd≠(l.headD tb0).sd)||decide (b.len≠(l.headD tb0).len))=B at hB⊢;have hT:l.map Tb.cs=Gn l:=rfl;rw[hT]at hB
 refine aI.of hB [.o 1] 0 ?_;cases B
 ·simp -dsimp;refine Fin.of ?_;simp
 ·simp -dsimp;refine Fin.of ?_;simp
theorem afz(l:List Tb)(hl:SmL l):Contract Tryz.prog 33 [.d (.sl (Gn l))] [] (.d (.int .i64 (Jt l))) [] []:=adn l hl.big
theorem afY(l:List Tb)(hl:SmL l)(r:Int):Contract Tryz.prog 34 [.d (.sl (Gn l)),.d (.int .i64 r)] [] (FB (lZ l r)) [] []:=by
 have hn:=hl.n;refine ay Tryz.func34 rfl (fun E0=>?_);refine iC.sound (g:=.mk) (ow:=[]) (kp:=(kb 0xf107db3)) ?_;rw[Tryz.ntmps34];simp -dsimp
 refine dD.of [] (kb 0xf107db3) (ι:={i:Nat // i≤l.length∧lZ l r=lZ (l.drop i) r}) (fun z=>[(.s 0,It.v (.d (.sl (Gn l)))),(.s 1,It.v (.d (.int .i64 r))),(.o 4,It.box [TV.d (.int .i64 0),TV.d (.int .i64 0),TV.d (.int .i64 0),TV.c (Value.slice none 0 0)]),(.s 4,It.v (.ptr (.o 4) 0)),(.s 5,It.v (.d (.bool false))),(.s 11,It.v (.d (.sl (Gn l)))),(.s 12,It.v (.d (.int .i64 l.length))),(.s 13,It.v (.d (.int .i64 z.1)))]) (fun z=>l.length-z.1) ⟨0,by omega,rfl⟩ ?_ ?_
 ·exact GS.to (by simp)
 rintro⟨i,i1,i2⟩;by_cases hi:i<l.length
 ·have hiz:(i:Int)<l.length:=by omega
  have hx:l[i]? = some l[i]:=aj hi;have hm:=hl.t l[i] (aJ hi);generalize l[i]=b at hx hm;have hx':=Nl hx;by_cases hr:b.r=r
  ·have e:lZ l r=some b:=af0 hx i2 (by simpa using hr);have hrl:=hm.rows;simp -dsimp[hiz,hx',eq_true hr];and_intros;all_goals try first|rfl|omega|exact⟨by kernel_rfl⟩
   as_aux_lemma=>
   refine dD.of [] (kb 0xf107db3) (ι:={k:Nat // k≤b.rows.length}) (fun z=>[(.o 4,It.box [TV.d (.int .i64 0),TV.d (.int .i64 0),TV.d (.int .i64 0),TV.c (Value.slice none 0 0)]),(.s 4,It.v (.ptr (.o 4) 0)),(.s 5,It.v (.d (.bool false))),(.o 8,It.box [TV.d (.int .i64 b.r),TV.d (.int .i64 b.sd),TV.d (.int .i64 b.len),TV.aW 1000 z.1]),(.s 8,It.v (.ptr (.o 8) 0)),(.o 1000,.row 174 2 (dd (rws (b.rows.take z.1))) false),(.s 24,It.v (.d (.sl (rws b.rows)))),(.s 25,It.v (.d (.int .i64 b.rows.length))),(.s 26,It.v (.d (.int .i64 z.1)))]) (fun z=>b.rows.length-z.1) ⟨0,by omega⟩ ?_ ?_
   ·exact GS.Df (.o 8) 3 1000 (cs:=[TV.d (.int .i64 b.r),TV.d (.int .i64 b.sd),TV.d (.int .i64 b.len),TV.c (Value.slice none 0 0)]) 174 2 (by simp) (by simp) (by simp) (by simp) (by simp[rws])
   rintro⟨k,k1⟩;by_cases hk:k<b.rows.length
   ·have hkz:(k:Int)<b.rows.length:=by omega
    have hy:b.rows[k]? = some b.rows[k]:=aj hk;have ht:b.rows.take (k+1)=b.rows.take k++[b.rows[k]]:=by rw[aT,aj hk];rfl
    have hnx:=hm.nx b.rows[k] (aJ hk);generalize b.rows[k]=y at hy ht hnx;have hy':=aj1 hy;simp -dsimp[hkz,hy'];and_intros;all_goals try first|rfl|omega|exact⟨by kernel_rfl⟩
    refine aI.of (abA y.nx (by omega)) [] 0 ?_;simp -dsimp[hkz,hy',ints,wrap_i64 (n:=(k:Int)+1) (by omega) (by omega)];and_intros;all_goals try first|rfl|omega|exact⟨by kernel_rfl⟩
    exact⟨⟨k+1,by omega⟩,GS.to (by simp[ht,aj0,ints]),by simp;omega⟩
   ·have hkz :¬(k:Int)<b.rows.length:=by omega
    obtain rfl:k=b.rows.length:=by omega
    simp -dsimp[hkz];refine Fin.box (.o 4) rfl ?_;simp -dsimp;refine Fin.of ?_;simp[FB,e,mD,VO]
  ·have e:lZ l r=lZ (l.drop (i+1)) r:=adz hx i2 (by simpa using hr);simp -dsimp[hiz,hx',eq_false hr,wrap_i64 (n:=(i:Int)+1) (by omega) (by omega)];and_intros;all_goals try first|rfl|omega|exact⟨by kernel_rfl⟩
   exact⟨⟨i+1,by omega,e⟩,GS.to (by simp[]),by simp;omega⟩
 ·have e:lZ l r=none:=afZ i2 hi;have hiz :¬(i:Int)<l.length:=by omega
  simp -dsimp[hiz];refine Fin.box (.o 4) rfl ?_;simp -dsimp;refine Fin.of ?_;simp[FB,e,mD,VO,tb0,rws]
theorem Sj{b:Tb}(h:chk b=0):b.head∧b.rows.length≤256∧(∀x∈b.rows,x.nx.length≤24)∧∀x∈b.rows,¬(1<x.nx.length∧b.r∈x.nx):=by
 unfold chk at h;split at h
 ·simp at h
 rename_i h1;split at h
 ·simp at h
 split at h
 ·simp at h
 rename_i h2;split at h
 ·simp at h
 rename_i h3;split at h
 ·simp at h
 split at h
 ·simp at h
 rename_i h4;exact⟨Classical.byContradiction fun g=>h1 g,by omega,fun x hx=>Nat.le_of_not_lt fun g=>h3 ⟨x,hx,g⟩,fun x hx g=>h4 ⟨x,hx,g⟩⟩
theorem ak9{b:Tb}(h:chk b=0):b.Sm:=⟨by have:=(Sj h).2.1;omega,fun x hx=>by have:=(Sj h).2.2.1 x hx;omega⟩
theorem Oy:∀(l:List Rt) (T:Tp),jh (SI l T).2=jh T
 | [],_=>rfl
 | x::l,T=>by simp[SI,Oy l]
@[simp]theorem amL(T:Tp)(most:Int):jh (anZ T most).2=jh T:=by simp[anZ,Oy]
theorem aiD(l:List Tb)(e:Int):allT l e = .qh [.d (.sl (Gn l)),.d (.int .i64 e)]:=rfl
theorem mO{l:List Tb}{r:Int}{b:Tb}(h:lZ l r=some b):b∈l∧b.r=r:=⟨fG h,by simpa using mX h⟩
theorem al4{l:List Tb}{pr:List Int}(h:pr.Nodup)(hf:∀x∈pr,(lZ l x).isSome):pr.length≤l.length:=by
 have:=Pm (m:=l.map (·.r)) h fun x hx=>by obtain⟨b,hb⟩:=gq.1 (hf x hx);obtain⟨h1,h2⟩:=mO hb;exact ak.2 ⟨b,h1,h2⟩
 simpa using this
def tz(B:BitVec 64):Nat:=((List.range 64).find? fun i=>B.getLsbD i).getD 64
theorem xU{B:BitVec 64}(h:B≠0#64):tz B<64∧B.getLsbD (tz B)=true∧∀i<tz B,B.getLsbD i=false:=by
 unfold tz;cases hf:(List.range 64).find? fun i=>B.getLsbD i with
 | none=>exfalso;apply h;apply fE;intro i hi;have:=jV.1 hf i (by simpa using hi);simpa using this
 | some k=>
   have h1:=mX hf;have h2:=fG hf;refine⟨by simpa using h2,h1,fun i hi=>?_⟩;obtain⟨_,ps,qs,e,ha⟩:=List.find?_eq_some_iff_append.1 hf;have hi':i∈ps:=by
    have hk:ps.length=k:=by
     have h3:(List.range 64)[ps.length]? = some k:=by rw[e];simp
     have h4:ps.length<64:=by have:=congrArg List.length e;simp at this;omega
     rw[lJ h4]at h3
     exact Option.some.inj h3
    have h5:(List.range 64)[i]? = some i:=lJ (by simp at h2 hi;omega);rw[e,bW (by simp at hi;omega)]at h5
    exact bF h5
   simpa using ha i hi'
theorem aju{B:BitVec 64}(h:B≠0#64):B &&& -B=1#64<<<tz B:=by
 obtain⟨h1,h2,h3⟩:=xU h;apply fE;intro i hi;rw[dG,BitVec.getLsbD_neg];simp only[BitVec.getLsbD_shiftLeft,BitVec.getLsbD_one];rcases lq i (tz B)with g|g|g
 ·simp[h3 i g,g]
 ·have :¬∃j<i,B.getLsbD j=true:=fun⟨j,hj,e⟩=>by rw[h3 j (by omega)]at e;cases e
  subst g;rw[h2];simp[this,h1]
 ·have:∃j<i,B.getLsbD j=true:=⟨_,g,h2⟩
  have e :¬i<tz B:=by omega
  have e' :¬i-tz B=0:=by omega
  simp[this,e,e',hi]
theorem ald:∀k:Nat,k<64→deb[(((1#64<<<k)*0x03f79d71b4ca8b09#64)>>>58).toNat]? = some (k:Int):=by decide
theorem amG(X:BitVec 64)(c:Int):wu (tn X*c)=X*wu c:=by rw[wu,BitVec.ofInt_mul];exact congrArg (· * wu c) (E8 X)
theorem amH(X:BitVec 64):wu (tn (wu (-tn X))) = -X:=by rw[E8,wu,BitVec.ofInt_neg];exact congrArg (- ·) (E8 X)
theorem alc{B:BitVec 64}(h:B≠0#64):∃v:Nat,YJ IntKind.u64 (IntKind.u64.wrap (tn (B&&&wu (IntKind.u64.wrap (-tn B)))*285870213051353865)) 58=v∧v<64∧deb[v]? = some (tz B:Int):=by
 refine⟨(((1#64<<<tz B)*0x03f79d71b4ca8b09#64)>>>58).toNat,?_,?_,ald _ (xU h).1⟩
 ·rw[Wh,Wh,amH,aju h,amG,acU];rfl
 ·rw[BitVec.toNat_ushiftRight,Nat.shiftRight_eq_div_pow];have:=((1#64<<<tz B)*0x03f79d71b4ca8b09#64).isLt;omega
theorem amF(B:BitVec 64):Contract Tryz.prog 141 [.d (bv B)] [] (.d (.int .i64 (tz B))) [] []:=by
 refine ay Tryz.func141 rfl (fun E0=>?_);refine iC.sound (g:=.mk) (ow:=[]) (kp:=(kb 0x15)) ?_;rw[Tryz.ntmps141];by_cases h:B=0#64
 ·subst h;simp -dsimp[bv];refine Fin.of ?_;simp;decide
 ·obtain⟨v,e,hv,hd⟩:=alc h;have ht:=(xU h).1;simp -dsimp[bv,h,e,hd];refine⟨by omega,?_⟩;simp -dsimp[bv,h,e,hd,wrap_i64 (n:=(tz B:Int)) (by omega) (by omega)];refine Fin.of ?_;simp
def Fz(B:BitVec 64):Int:=if B=0#64 then -1 else(tz B:Int)
theorem abG(B:BitVec 64):Contract Tryz.prog 86 [.d (bv B)] [] (.d (.int .i64 (Fz B))) [] []:=by
 refine ay Tryz.func86 rfl (fun E0=>?_);refine iC.sound (g:=.mk) (ow:=[]) (kp:=(kb 0x15)) ?_;rw[Tryz.ntmps86];by_cases h:B=0#64
 ·subst h;simp -dsimp[bv];refine Fin.of ?_;simp[Fz]
 ·simp -dsimp[bv,h];refine aI.of (amF B) [] 0 ?_;simp -dsimp;refine⟨rfl,Fin.of ?_⟩;simp[Fz,h]
def pX(B:BitVec 64):List Nat:=(List.range 64).filter fun i=>B.getLsbD i
theorem Ju(B:BitVec 64)(i:Nat)(hi:i<64):(B&&&wu (tn B-1)).getLsbD i=(B.getLsbD i&&decide (∃j<i,B.getLsbD j=true)):=by
 have e:wu (tn B-1) = ~~~(-B):=by rw[BitVec.not_neg,wu,Int.sub_eq_add_neg,BitVec.ofInt_add];rw[show BitVec.ofInt 64 (tn B)=B from E8 B,show BitVec.ofInt 64 (-1) = -1#64 by decide,BitVec.sub_eq_add_neg]
 rw[e,dG,jw,BitVec.getLsbD_neg];cases h:B.getLsbD i
 ·simp
 ·simp[hi]
theorem NI{B:BitVec 64}(h:B≠0#64):pX B=tz B::pX (B&&&wu (tn B-1)):=by
 obtain⟨h1,h2,h3⟩:=xU h;have e:List.range 64=List.range (tz B)++(tz B::(List.range' (tz B+1) (63-tz B))):=by rw[←lS,jD,jD,show 64=tz B+(63-tz B+1) by omega,←List.range'_append_1];simp
 have f1:∀(C:BitVec 64),(∀i<tz B,C.getLsbD i=false)→(List.range (tz B)).filter (fun i=>C.getLsbD i) = []:=fun C hC=>by rw[fJ];intro i hi;simp[hC i (by simpa using hi)]
 have c0:∀i<tz B,(B&&&wu (tn B-1)).getLsbD i=false:=fun i hi=>by rw[Ju B i (by omega),h3 i hi];rfl
 have c1:(B&&&wu (tn B-1)).getLsbD (tz B)=false:=by
  rw[Ju B _ h1,h2];have :¬∃j<tz B,B.getLsbD j=true:=fun⟨j,hj,e⟩=>by rw[h3 j hj]at e;cases e
  simp[this]
 unfold pX;rw[e,fP,fP,f1 B h3,f1 _ c0,dI,dI,h2,c1];simp only[dJ,if_true,eu,if_false,dR,true_and];apply iy;intro i hi;have hi':=List.mem_range'_1.1 hi;rw[Ju B i (by omega)];have:∃j<i,B.getLsbD j=true:=⟨tz B,by omega,h2⟩
 simp[this]
theorem Zk:pX 0#64 = []:=by simp[pX]
theorem DT(B:BitVec 64):(pX B).length≤64:=by have:=dY (fun i=>B.getLsbD i) (List.range 64);simpa[pX]using this
def xX(B:BitVec 64):List Int:=(pX B).map Int.ofNat
theorem Jm(B:BitVec 64):(xX B).length≤64:=by simpa[xX]using DT B
theorem Zi{B:BitVec 64}(h:B≠0#64):xX B=(tz B:Int)::xX (B&&&wu (tn B-1)):=by simp[xX,NI h]
theorem Zj:xX 0#64 = []:=by simp[xX,Zk]
theorem alN(B:BitVec 64):Contract Tryz.prog 91 [.d (bv B)] [] (.d (ints (xX B))) [] []:=by
 have hB:=Jm B;refine ay Tryz.func91 rfl (fun E0=>?_);refine iC.sound (g:=.mk) (ow:=[]) (kp:=(kb 0x2d)) ?_;rw[Tryz.ntmps91];simp -dsimp[bv]
 refine dD.of [3] (kb 0x2d) (ι:={z:BitVec 64×List Int // xX B=z.2++xX z.1}) (fun z=>[(.s 0,It.v (.d (.int IntKind.u64 (tn z.1.1)))),(.s 2,It.v (.c (Value.slice none 0 0))),(.s 3,It.v (.aW 3 z.1.2.length)),(.o 3,.row 3 1 (dd (jR .i64 z.1.2)) false)]) (fun z=>(xX z.1.1).length) ⟨(B,[]),by simp⟩ ?_ ?_
 ·exact GS.own' (k:=3) 3 1 (by simp) (by simp) (by simp[jR])
 ·rintro⟨⟨R,l⟩,h⟩;simp only at h;have hl:=congrArg List.length h;simp only[aU]at hl;simp -dsimp;by_cases h0:R=0#64
  ·subst h0;simp -dsimp;refine Fin.view 2 ?_;simp -dsimp;refine Fin.of ?_;simp[h,Zj,ints,jR]
  ·have hs:=Zi h0;have hf:=abG R;simp only[bv]at hf;have ht:=(xU h0).1;rw[hs]at hl
   simp only[aH]at hl;simp -dsimp[h0];refine aI.of hf [] 0 ?_;have e:Fz R=(tz R:Int):=by simp[Fz,h0]
   rw[e];simp -dsimp[h0];and_intros;all_goals try first|rfl|omega|exact⟨by kernel_rfl⟩
   refine⟨⟨(R&&&wu (tn R-1),l++[(tz R:Int)]),by simp[h,hs]⟩,GS.to (by simp[jR,Wh]),by simp[hs]⟩
theorem am_(set bit len:Int):Contract Tryz.prog 87 [.d (.int .i64 set),.d (.int .i64 bit),.d (.int .i64 len)] [] (atT set bit len) [] []:=by
 refine ay Tryz.func87 rfl (fun E0=>?_);refine iC.sound (g:=.mk) (ow:=[]) (kp:=(kb 0x808001c7)) ?_;rw[Tryz.ntmps87];simp -dsimp;refine aI.of (jY len) [] 0 ?_;rcases (aA (eP len)).symm with a1|a1
 ·simp -dsimp[a1];try refine⟨?_,⟨by kernel_rfl⟩⟩
  refine Fin.of ?_;simp[atT,Y2,a1]
 ·have hl:len=8∨len=16∨len=32∨len=64:=by simp[eP]at a1;omega
  simp -dsimp[a1,wrap_i64 (n:=len-1) (by omega) (by omega)];refine aI.of (JM bit 0 (len-1)) [] 0 ?_;rcases (aA (inB bit 0 (len-1))).symm with a2|a2
  ·simp -dsimp[a1,a2];try refine⟨?_,⟨by kernel_rfl⟩⟩
   refine Fin.of ?_;simp[atT,Y2,a1,a2]
  ·simp -dsimp[a1,a2];refine aI.of (JM set 0 31) [] 0 ?_;rcases (aA (inB set 0 31)).symm with a3|a3
   ·simp -dsimp[a1,a2,a3];try refine⟨?_,⟨by kernel_rfl⟩⟩
    refine Fin.of ?_;simp[atT,Y2,a1,a2,a3]
   ·have b2:0≤bit∧bit≤len-1:=by simpa[inB]using a2
    have b3:0≤set∧set≤31:=by simpa[inB]using a3
    have b4:0≤set*len∧set*len≤1984:=by rcases hl with rfl|rfl|rfl|rfl<;>omega
    by_cases a4:set*len+bit+1≤256
    ·have a5 :¬256<set*len+bit+1:=by omega
     simp -dsimp[a1,a2,a3,a4,a5,wrap_i64 (n:=set*len) (by omega) (by omega),wrap_i64 (n:=set*len+bit) (by omega) (by omega),wrap_i64 (n:=set*len+bit+1) (by omega) (by omega)];try refine⟨?_,⟨by kernel_rfl⟩⟩
     refine Fin.of ?_;simp[atT,Y2,a1,a2,a3,a4]
    ·have a5:256<set*len+bit+1:=by omega
     simp -dsimp[a1,a2,a3,a4,a5,wrap_i64 (n:=set*len) (by omega) (by omega),wrap_i64 (n:=set*len+bit) (by omega) (by omega),wrap_i64 (n:=set*len+bit+1) (by omega) (by omega)];try refine⟨?_,⟨by kernel_rfl⟩⟩
     refine Fin.of ?_;simp[atT,Y2,a1,a2,a3,a4]
def pV(p:Pk):Int:=if p.ok=true then p.ent%8 else 0
theorem alX{p:Pk}(h:p.ok=true):0≤p.ent∧p.ent≤1023:=by simp only[Pk.ok,zh,aG,decide_eq_true_eq]at h;omega
theorem ajO(p:Pk):Contract Tryz.prog 85 [sH p] [] (.d (.int .i64 (pV p))) [] []:=by
 refine ay Tryz.func85 rfl (fun E0=>?_);refine iC.sound (g:=.mk) (ow:=[]) (kp:=(kb 0x27)) ?_;rw[Tryz.ntmps85];have hv:=wY p;simp only[sH,Pk.cs,List.map]at hv;simp -dsimp[sH,Pk.cs];refine aI.of hv [] 0 ?_;rcases (aA p.ok).symm with a1|a1
 ·simp -dsimp[a1];refine Fin.of ?_;simp[pV,a1]
 ·have h:=alX a1;simp -dsimp[a1,wrap_i64 (n:=p.ent%8) (by omega) (by omega),nG h.1];refine Fin.of ?_;simp[pV,a1]
def lX(p:Pk)(m:BitVec 64):Pk:=⟨p.mode,p.jd,p.set,p.len,p.ttl-1,p.ent,p.ing,p.proto,p.bits&&&m,p.pay⟩
def pk0:Pk:=⟨0,0,0,0,0,0,0,0,0#64,⟨#[]⟩⟩
def zX(p:Pk)(m:BitVec 64):Pk×Bool:=if p.ok=true∧p.ttl≠0∧p.bits&&&m≠0#64 then(lX p m,true)else(pk0,false)
theorem AP{p:Pk}(h:p.ok=true):0≤p.ttl∧p.ttl≤63:=by simp only[Pk.ok,zh,aG,decide_eq_true_eq]at h;omega
theorem agU(p:Pk)(m:BitVec 64):Contract Tryz.prog 90 [sH p,.d (bv m)] [] (.qh [sH (zX p m).1,.d (.bool (zX p m).2)]) [] []:=by
 refine ay Tryz.func90 rfl (fun E0=>?_);refine iC.sound (g:=.mk) (ow:=[]) (kp:=(kb 0x100037)) ?_;rw[Tryz.ntmps90];have hv:=wY p;simp only[sH,Pk.cs,List.map,bv]at hv;simp -dsimp[sH,Pk.cs,bv];refine aI.of hv [] 0 ?_;rcases (aA p.ok).symm with a1|a1
 ·simp -dsimp[a1];refine Fin.of ?_;simp[zX,a1,pk0,sH,Pk.cs,bv]
 ·have h:=AP a1;by_cases a2:p.ttl=0
  ·simp -dsimp[a1,a2];refine Fin.of ?_;simp[zX,a2,pk0,sH,Pk.cs,bv]
  by_cases a3:p.bits&&&m=0#64
  ·simp -dsimp[a1,a2,a3];refine Fin.of ?_;simp[zX,a3,pk0,sH,Pk.cs,bv]
  simp -dsimp[a1,a2,a3,wrap_i64 (n:=p.ttl-1) (by omega) (by omega)];refine Fin.of ?_;simp[zX,a1,a2,a3,lX,sH,Pk.cs,bv]
def rY(p:Pk)(k:Int):Pk:=if p.ok=true∧0≤k∧k≤63∧p.bits.getLsbD k.toNat=true then ⟨p.mode,p.jd,p.set,p.len,p.ttl,p.ent,p.ing,p.proto,1#64<<<k.toNat,p.pay⟩else pk0
theorem ahe(p:Pk)(k:Int):Contract Tryz.prog 48 [sH p,.d (.int .i64 k)] [] (sH (rY p k)) [] []:=by
 refine ay Tryz.func48 rfl (fun E0=>?_);refine iC.sound (g:=.mk) (ow:=[]) (kp:=(kb 0x800017)) ?_;rw[Tryz.ntmps48];have hv:=wY p;simp only[sH,Pk.cs,List.map,bv]at hv;simp -dsimp[sH,Pk.cs,bv];refine aI.of hv [] 0 ?_;rcases (aA p.ok).symm with a1|a1
 ·simp -dsimp[a1];refine Fin.of ?_;simp[rY,a1,pk0,sH,Pk.cs,bv]
 ·by_cases a2:k<0
  ·simp -dsimp[a1,a2];refine Fin.of ?_;have :¬0≤k:=by omega
   simp[rY,this,pk0,sH,Pk.cs,bv]
  by_cases a3:63<k
  ·simp -dsimp[a1,a2,a3];refine Fin.of ?_;have :¬k≤63:=by omega
   simp[rY,this,pk0,sH,Pk.cs,bv]
  have a4:0≤k:=by omega
  have a5:k≤63:=by omega
  simp -dsimp[a1,a2,a3,a4];have hb:(p.bits>>>k.toNat&&&1#64=0#64)↔p.bits.getLsbD k.toNat=false:=by rw[BitVec.and_one_eq_setWidth_ofBool_getLsbD,BitVec.getLsbD_ushiftRight,Nat.add_zero];cases p.bits.getLsbD k.toNat<;>decide
  refine QD.dec (fun g=>?_) (fun g=>?_)
  ·simp -dsimp;refine Fin.of ?_;simp[rY,hb.1 g,pk0,sH,Pk.cs,bv]
  ·have g':p.bits.getLsbD k.toNat=true:=by
    cases h:p.bits.getLsbD k.toNat with
    | true=>rfl
    | false=>exact absurd (by simpa using hb.2 h) g
   simp -dsimp[a4];refine Fin.of ?_;simp[rY,a1,a4,a5,g',sH,Pk.cs,bv]
structure Out where
 loc:BitVec 64
 lost:BitVec 64
 uJ:List (Int×Pk)
def wU:Out:=⟨0#64,0#64,[]⟩
def wL(p:Pk)(k:Nat):Int:=if Y2 p.set k p.len=true then p.set*p.len+k+1 else 0
def Pk.setB(p:Pk)(R:BitVec 64):Pk:=⟨p.mode,p.jd,p.set,p.len,p.ttl,p.ent,p.ing,p.proto,R,p.pay⟩
def dL(b:Tb)(p:Pk)(k:Nat):Int:=wR b (wL p k) (pV p)
def vk(b:Tb)(p:Pk)(R:BitVec 64)(n:Int):BitVec 64:=R&&&Bz b (pV p) p.set n
def vP(b:Tb)(p:Pk)(o:Out)(R:BitVec 64):Out:=
 if dL b p (tz R)=0 then ⟨o.loc,o.lost|||1#64<<<tz R,o.uJ⟩
 else if dL b p (tz R)=b.r then ⟨o.loc|||1#64<<<tz R,o.lost,o.uJ⟩
 else if(zX (p.setB R) (vk b p R (dL b p (tz R)))).2=true then ⟨o.loc,o.lost,o.uJ++[(dL b p (tz R),(zX (p.setB R) (vk b p R (dL b p (tz R)))).1)]⟩
 else ⟨o.loc,o.lost|||vk b p R (dL b p (tz R)),o.uJ⟩
def xO(b:Tb)(p:Pk)(R:BitVec 64):BitVec 64:=
 if dL b p (tz R)=0∨dL b p (tz R)=b.r then 1#64<<<tz R else vk b p R (dL b p (tz R))
def H9(b:Tb)(p:Pk):Nat→Out→BitVec 64→Out
 | 0,o,_=>o
 | n+1,o,R=>if R=0#64 then o else H9 b p n (vP b p o R) (R &&& ~~~ xO b p R)
def vG(b:Tb)(p:Pk):Out:=H9 b p 64 wU p.bits
def vS(b:Tb)(p:Pk):Out×Int:=
 if chk b≠0∨p.ok=false then(wU,1)else if p.mode=2 then(wU,7)else if b.sd≠p.jd∨b.len≠p.len then(wU,8)else(vG b p,0)
theorem Ym{R m:BitVec 64}{k:Nat}(hk:k<64)(h1:R.getLsbD k=true)(h2:m.getLsbD k=true):(pX (R &&& ~~~ m)).length<(pX R).length:=by
 have e:pX (R &&& ~~~ m)=(pX R).filter fun i=>!m.getLsbD i:=by
  unfold pX;rw[mF];apply iy;intro i hi;have:i<64:=by simpa using hi
  rw[dG,jw];simp[this,oC]
 rw[e];refine List.length_filter_lt_length_iff_exists.2 ⟨k,?_,by simp[h2]⟩;simp[pX,hk,h1]
theorem Yn{R:BitVec 64}(h:(pX R).length=0):R=0#64:=Classical.byContradiction fun g=>by
 rw[NI g]at h
 simp at h
theorem MX{p:Pk}(h:p.ok=true):eP p.len=true∧∀k<64,p.bits.getLsbD k=true→(k:Int)<p.len:=by
 simp only[Pk.ok,aG,wz,decide_eq_true_eq]at h;obtain⟨_,_,_,_,⟨h1,h2⟩,_⟩:=h;refine⟨h1,fun k hk hb=>?_⟩;have hl:p.len=8∨p.len=16∨p.len=32∨p.len=64:=by simp[eP]at h1;omega
 have h3:=congrArg (fun z=>z.getLsbD k) h2;simp only[dG,jw,hb,hk,decide_true,jq,gQ,Bool.not_eq_false',EP,h1,if_true]at h3;rw[JF hk _ (by omega)]at h3
 have:=of_decide_eq_true h3;omega
theorem XE{b:Tb}(h:chk b=0)(p:Int):xP b 0 p=0:=by
 have:rowOf b 0=none:=by rw[rowOf,jV];intro x hx;have:=(B_ h x hx).1;simp;omega
 simp[xP,this,vT]
theorem SX{b:Tb}(h:chk b=0){id p:Int}(h0:xP b id p≠0):1≤xP b id p∧xP b id p≤99:=by
 unfold xP at h0⊢;have hm:=XD h0;cases hr:rowOf b id with
 | none=>rw[hr]at h0;exact absurd (by simp[vT]) h0
 | some x=>simp only[hr,bZ]at hm⊢;exact(B_ h x (fG hr)).2 _ hm
theorem Xr{b:Tb}{p:Pk}(hc:chk b=0)(hp:p.ok=true)(hl:b.len=p.len){R:BitVec 64}(hR:∀k<64,R.getLsbD k=true→p.bits.getLsbD k=true)(h0:R≠0#64):(xO b p R).getLsbD (tz R)=true:=by
 obtain⟨t1,t2,_⟩:=xU h0;unfold xO;split
 ·rw[Ak t1 t1];simp
 ·rename_i hn;have hn0:dL b p (tz R)≠0:=fun e=>hn (.inl e)
  have hk:((tz R:Nat):Int)<p.len:=(MX hp).2 _ t1 (hR _ t1 t2);have hpl:0≤pV p∧pV p≤7:=by unfold pV;split<;>omega
  have hs:0≤p.set∧p.set≤31:=by simp only[Pk.ok,zh,aG,decide_eq_true_eq]at hp;omega
  have v0:EJ b (pV p) 0=true:=yH.2 ⟨hc,hpl,by omega,by omega⟩;have vs:EJ b (pV p) p.set=true:=yH.2 ⟨hc,hpl,hs⟩;have ha:Y2 p.set (tz R) p.len=true:=Classical.byContradiction fun g=>hn0 (by
   rw[dL,wL,if_neg g,wR,if_pos v0];exact XE hc _)
  have hh:dL b p (tz R)=xP b (p.set*p.len+tz R+1) (pV p):=by rw[dL,wL,if_pos ha,wR,if_pos v0]
  have hr:=SX hc (hh▸hn0);rw[vk,dG,t2,jq,XZ,aci,if_pos ⟨vs,by rw[hh];exact hr⟩];have hlen:b.len≤64:=by
   have:=(MX hp).1;simp[eP]at this
   omega
  rw[DU b _ _ _ t1 _ (by omega)];exact⟨by omega,by rw[hl];exact ha,by rw[hh];omega,by rw[hl,hh]⟩
set_option maxHeartbeats 8000000
def Wi(x:Int×Pk):List D:=.int .i64 x.1 :: .sl []::x.2.cs
def outT(o:Out):TV:=.agg [.d (bv o.loc),.d (bv o.lost),.d (.sl (o.uJ.map Wi))]
theorem adA(b:Tb)(hb:b.Sm)(p:Pk):Contract Tryz.prog 35 [mD b,sH p] [] (.qh [outT (vS b p).1,.d (.int .i64 (vS b p).2)]) [] []:=by
 have hck:=YV b hb.1 hb.2;have hv:=wY p;have hpl:=ajO p;simp only[mD,sH,Pk.cs,List.map]at hck hv hpl;refine ay Tryz.func35 rfl (fun E0=>?_);refine iC.sound (g:=.mk) (ow:=[]) (kp:=(kb 0x4000000200c0001000021007efff)) ?_
 rw[Tryz.ntmps35];simp -dsimp[mD,sH,Pk.cs];try refine⟨?_,⟨by kernel_rfl⟩⟩
 refine aI.of hck [] 0 ?_;by_cases h1:chk b=0
 ·simp -dsimp[h1];try refine⟨?_,⟨by kernel_rfl⟩⟩
  refine aI.of hv [] 0 ?_;rcases (aA p.ok).symm with h2|h2
  ·simp -dsimp[h2];try refine⟨?_,⟨by kernel_rfl⟩⟩
   refine Fin.box (.o 4) rfl ?_;simp -dsimp;refine Fin.of ?_;simp[vS,wU,outT,bv,h1,h2]
  ·by_cases h3:p.mode=2
   ·simp -dsimp[h2,eq_true h3];try refine⟨?_,⟨by kernel_rfl⟩⟩
    refine Fin.box (.o 4) rfl ?_;simp -dsimp;refine Fin.of ?_;simp[vS,wU,outT,bv,h1,h2,h3]
   ·by_cases h4:b.sd=p.jd
    ·by_cases h5:b.len=p.len
     ·simp -dsimp[h2,h3,eq_true h4,eq_true h5];try refine⟨?_,⟨by kernel_rfl⟩⟩
      refine aI.of hpl [] 0 ?_;simp -dsimp;try refine⟨?_,⟨by kernel_rfl⟩⟩
      refine dD.of [] (kb 0x4000000200c0001000021007efff) (ι:={z:Nat×Out×BitVec 64 // vG b p=H9 b p z.1 z.2.1 z.2.2∧(pX z.2.2).length≤z.1∧z.2.1.uJ.length+z.1≤64∧∀k<64,z.2.2.getLsbD k=true→p.bits.getLsbD k=true})
       (fun z=>[(.o 2,It.box [TV.d (.int .i64 b.r),TV.d (.int .i64 b.sd),TV.d (.int .i64 b.len),TV.d (jM b.rows)]),(.s 2,It.v (.ptr (.o 2) 0)),
        (.o 3,It.box (p.cs.map .d)),(.s 3,It.v (.ptr (.o 3) 0)),
        (.o 4,It.box [TV.d (.int IntKind.u64 0),TV.d (.int IntKind.u64 0),TV.c (Value.slice none 0 0)]),(.s 4,It.v (.ptr (.o 4) 0)),(.s 5,It.v (.d (.int .i64 0))),
        (.s 6,It.v (.d (.int .i64 (pV p)))),
        (.o 7,It.box [TV.d (.int IntKind.u64 (tn z.1.2.1.loc)),TV.d (.int IntKind.u64 (tn z.1.2.1.lost)),TV.aW 50 z.1.2.1.uJ.length]),(.s 7,It.v (.ptr (.o 7) 0)),
        (.o 50,It.row 122 12 (dd (z.1.2.1.uJ.map Wi)) false),(.s 8,It.v (.d (.int IntKind.u64 (tn z.1.2.2))))])
       (fun z=>z.1.1) ⟨(64,wU,p.bits),rfl,DT _,by simp[wU],fun _ _ h=>h⟩ ?_ ?_
      ·exact GS.Df (.o 7) 2 50 (cs:=[TV.d (.int IntKind.u64 0),TV.d (.int IntKind.u64 0),TV.c (Value.slice none 0 0)]) 122 12 (by simp) (by simp) (by simp) (by simp) (by simp[wU,Pk.cs,bv])
      ·rintro⟨⟨n,o,R⟩,i1,i2,i3,i4⟩;simp only at i1 i2 i3 i4;by_cases h0:R=0#64
       ·subst h0;have e:vG b p=o:=by rw[i1];cases n<;>simp[H9]
        have e2:vS b p=(o,0):=by simp[vS,h1,h2,h3,h4,h5,e]
        rw[e2];simp -dsimp;try refine⟨?_,⟨by kernel_rfl⟩⟩
        refine Fin.box (.o 4) rfl ?_;simp -dsimp;refine Fin.of ?_;simp[outT,bv]
       ·have hf:=abG R;have e:Fz R=(tz R:Int):=by simp[Fz,h0]
        rw[e]at hf
        simp only[bv]at hf;obtain⟨t1,t2,t3⟩:=xU h0;have hat:=am_ p.set (tz R) p.len;simp only[atT]at hat;have hnx:=ajB b hb (wL p (tz R)) (pV p);have hho:wR b (wL p (tz R)) (pV p)=dL b p (tz R):=rfl;rw[hho]at hnx
        have hid:(if Y2 p.set (tz R) p.len=true then p.set*p.len+(tz R:Int)+1 else 0)=wL p (tz R):=rfl;simp only[hid]at hat;simp only[mD]at hnx;simp -dsimp[h0];try refine⟨?_,⟨by kernel_rfl⟩⟩
        refine aI.of hf [] 0 ?_;have hmb:=Xr h1 h2 h5 i4 h0;have hpop:=Ym t1 t2 hmb;have hmk:=alP b hb (pV p) p.set (dL b p (tz R));have hto:vk b p R (dL b p (tz R))=R&&&Bz b (pV p) p.set (dL b p (tz R)):=rfl;have hms:=agU (p.setB R) (vk b p R (dL b p (tz R)));simp only[mD,bv]at hmk
        obtain⟨Q,hQ⟩:∃Q,zX (p.setB R) (vk b p R (dL b p (tz R)))=Q:=⟨_,rfl⟩
        rw[hQ]at hms
        simp only[sH,Pk.cs,Pk.setB,List.map,bv]at hms;obtain⟨n,rfl⟩:∃j,n=j+1:=⟨n-1,by omega⟩
        have hstep:vG b p=H9 b p n (vP b p o R) (R &&& ~~~ xO b p R):=by rw[i1,H9,if_neg h0]
        have hsub:∀k<64,(R &&& ~~~ xO b p R).getLsbD k=true→p.bits.getLsbD k=true:=fun k hk hb=>by
         rw[dG]at hb
         simp only[aG]at hb;exact i4 k hk hb.1
        simp -dsimp[h0,Pk.cs];try refine⟨?_,⟨by kernel_rfl⟩⟩
        refine aI.of hat [] 0 ?_;simp -dsimp;try refine⟨?_,⟨by kernel_rfl⟩⟩
        refine aI.of hnx [] 0 ?_;by_cases c0:dL b p (tz R)=0
        ·have eM:xO b p R=1#64<<<tz R:=by rw[xO,if_pos (.inl c0)]
         have eO:vP b p o R=⟨o.loc,o.lost|||1#64<<<tz R,o.uJ⟩:=by rw[vP,if_pos c0]
         rw[eM]at hpop hsub hstep
         rw[eO]at hstep
         simp -dsimp[eq_true c0];try refine⟨?_,⟨by kernel_rfl⟩⟩
         exact⟨⟨(n,⟨o.loc,o.lost|||1#64<<<tz R,o.uJ⟩,R &&& ~~~ (1#64<<<tz R)),hstep,by simp only;omega,by simp only;omega,hsub⟩,GS.to (by simp[Pk.cs,bv]),by simp⟩
        by_cases c1:dL b p (tz R)=b.r
        ·have eM:xO b p R=1#64<<<tz R:=by rw[xO,if_pos (.inr c1)]
         have eO:vP b p o R=⟨o.loc|||1#64<<<tz R,o.lost,o.uJ⟩:=by rw[vP,if_neg c0,if_pos c1]
         rw[eM]at hpop hsub hstep
         rw[eO]at hstep
         rw[c1]at c0⊢
         simp -dsimp[c0];try refine⟨?_,⟨by kernel_rfl⟩⟩
         exact⟨⟨(n,⟨o.loc|||1#64<<<tz R,o.lost,o.uJ⟩,R &&& ~~~ (1#64<<<tz R)),hstep,by simp only;omega,by simp only;omega,hsub⟩,GS.to (by simp[Pk.cs,bv]),by simp⟩
        have eM:xO b p R=vk b p R (dL b p (tz R)):=by rw[xO,if_neg (fun h=>h.elim c0 c1)]
        rw[eM]at hpop hsub hstep
        simp -dsimp[c0,c1];try refine⟨?_,⟨by kernel_rfl⟩⟩
        refine aI.of hmk [] 0 ?_;simp -dsimp[←hto];try refine⟨?_,⟨by kernel_rfl⟩⟩
        have eO:vP b p o R=if(zX (p.setB R) (vk b p R (dL b p (tz R)))).2=true then ⟨o.loc,o.lost,o.uJ++[(dL b p (tz R),(zX (p.setB R) (vk b p R (dL b p (tz R)))).1)]⟩else ⟨o.loc,o.lost|||vk b p R (dL b p (tz R)),o.uJ⟩:=by rw[vP,if_neg c0,if_neg c1]
        rw[eO]at hstep
        rw[hQ]at hstep
        clear hQ eO;generalize vk b p R (dL b p (tz R))=M at hms hstep hpop hsub⊢;refine aI.of hms [] 0 ?_;rcases (aA Q.2).symm with q1|q1
        ·rw[if_neg (by rw[q1];simp)]at hstep
         simp -dsimp[q1];try refine⟨?_,⟨by kernel_rfl⟩⟩
         exact⟨⟨(n,⟨o.loc,o.lost|||M,o.uJ⟩,R &&& ~~~ M),hstep,by simp only;omega,by simp only;omega,hsub⟩,GS.to (by simp[Pk.cs,bv]),by simp⟩
        ·rw[if_pos q1]at hstep
         simp -dsimp[q1];and_intros;all_goals try first|omega|exact⟨by kernel_rfl⟩
         exact⟨⟨(n,⟨o.loc,o.lost,o.uJ++[(dL b p (tz R),Q.1)]⟩,R &&& ~~~ M),hstep,by simp only;omega,by simp only[aU,aH,dh];omega,hsub⟩,GS.to (by simp[Pk.cs,bv,Wi]),by simp⟩
     ·simp -dsimp[h2,h3,eq_true h4,h5];try refine⟨?_,⟨by kernel_rfl⟩⟩
      refine Fin.box (.o 4) rfl ?_;simp -dsimp;refine Fin.of ?_;simp[vS,wU,outT,bv,h1,h2,h3,h4,h5]
    ·simp -dsimp[h2,h3,h4];try refine⟨?_,⟨by kernel_rfl⟩⟩
     refine Fin.box (.o 4) rfl ?_;simp -dsimp;refine Fin.of ?_;simp[vS,wU,outT,bv,h1,h2,h3,h4]
 ·simp -dsimp[h1];try refine⟨?_,⟨by kernel_rfl⟩⟩
  refine Fin.box (.o 4) rfl ?_;simp -dsimp;refine Fin.of ?_;simp[vS,wU,outT,bv,h1]
def rF(x:Int×Pk):List D:=.int .i64 x.1::x.2.cs
def O1(r:Int)(o:Out)(p:Pk):List (Int×Pk):=(xX o.loc).map fun k=>(r,rY p k)
theorem af4(b:Tb)(r:Int)(o:Out)(p:Pk):Contract Tryz.prog 36 [mD b,.d (.int .i64 r),outT o,sH p] [] (.d (.sl ((O1 r o p).map rF))) [] []:=by
 have hl:=alN o.loc;simp only[bv]at hl;refine ay Tryz.func36 rfl (fun E0=>?_);refine iC.sound (g:=.mk) (ow:=[]) (kp:=(kb 0x3cbcf)) ?_;rw[Tryz.ntmps36];simp -dsimp[mD,outT,bv,sH,Pk.cs];try refine⟨?_,⟨by kernel_rfl⟩⟩
 refine aI.of hl [] 0 ?_;have hB:=Jm o.loc;unfold O1;generalize xX o.loc=L at hB⊢;simp -dsimp[ints];try refine⟨?_,⟨by kernel_rfl⟩⟩
 refine dD.of [] (kb 0x3cbcf) (ι:={i:Nat // i≤L.length})
  (fun z=>[(.o 7,It.box (p.cs.map .d)),(.s 7,It.v (.ptr (.o 7) 0)),(.s 1,It.v (.d (.int .i64 r))),(.s 8,It.v (.c (Value.slice none 0 0))),
   (.s 9,It.v (.aW 9 z.1)),(.o 9,It.row 87 11 (dd (((L.take z.1).map fun k=>(r,rY p k)).map rF)) false),
   (.s 14,It.v (.d (.sl (L.map fun n=>[D.int .i64 n])))),(.s 15,It.v (.d (.int .i64 L.length))),(.s 16,It.v (.d (.int .i64 z.1)))])
  (fun z=>L.length-z.1) ⟨0,by omega⟩ ?_ ?_
 ·exact GS.own' (k:=9) 87 11 (by simp) (by simp) (by simp[Pk.cs,bv])
 ·rintro⟨i,i1⟩;by_cases hi:i<L.length
  ·have hiz:(i:Int)<L.length:=by omega
   have hg:L[i]? = some L[i]:=aj hi;generalize L[i]=k at hg;have ho:=ahe p k;have hn:dd (((L.take (i+1)).map fun k=>(r,rY p k)).map rF)=dd (((L.take i).map fun k=>(r,rY p k)).map rF)++[TV.d (.int .i64 r)::(rY p k).cs.map .d]:=by rw[aT,hg];simp[dd,rF]
   have hlen:(((L.take i).map fun k=>(r,rY p k)).map rF).length=i:=by simp;omega
   generalize rY p k=q at ho hn;simp[Pk.cs]at hn
   simp only[sH,Pk.cs,List.map]at ho;simp -dsimp[hg,hiz,Pk.cs];try refine⟨?_,⟨by kernel_rfl⟩⟩
   refine aI.of ho [] 0 ?_;simp -dsimp[wrap_i64 (n:=(i:Int)+1) (by omega) (by omega)];and_intros;all_goals try first|omega|exact⟨by kernel_rfl⟩
   exact⟨⟨i+1,by omega⟩,GS.to (by simp[hn,Pk.cs]),by simp;omega⟩
  ·have hiz :¬(i:Int)<L.length:=by omega
   obtain rfl:i=L.length:=by omega
   simp -dsimp[hiz];refine Fin.view 8 ?_;simp -dsimp;refine Fin.of ?_;simp
end Go.Proofs

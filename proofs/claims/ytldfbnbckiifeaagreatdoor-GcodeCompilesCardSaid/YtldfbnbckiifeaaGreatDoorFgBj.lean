/- A part of the proof. -/
import Derived.Test.YtldfbnbckiifeaaGreatDoorFhN
set_option maxHeartbeats 4000000
set_option linter.all false
namespace Go.Fu.X
open Go Go.Mx Go.Fu
set_option maxRecDepth 10000
def PO(us:List Su):Int :=
 dK (us.all fun u=>A Rs u.body [])
  (dK (iQ (FL.map Fd.name++us.map Su.name)||us.any fun u=>iQ u.ps||!A Ro u.body []) 20
   (dK (us.all fun u=>A Rt u.body (us.map Su.name++u.ps)) 0 21)) 1
def Du:fC:=[(IL,zff),(Qw,zcc),(Fg,ZW),(Qu,zbe),(mJ,Wu),(Ff,WX)]
def Yj(k:Int):Env:={slots:=[(4,⟨false,.int .i64 k⟩)],dR:=[],boxes:=[],defers:=[]}
section
variable{C:eV}{n:Nat}{O:Store}
theorem zheb(us:List Su)(al:D)(i:Nat)(h:i<us.length)(hl:us.length<1000)(b:Bool)(hc:C Qw [dM us[i].body] O=some (.ret ⟨false,.bool b⟩,O)):exec C n none Xm (Nw us al i) O=dK (!b) (some (.ret,Yj 1,O)) (some (.normal,Nw us al (i+1),O)):=by
 have hi:((i:Int)<(us.length:Int)):=by omega
 have hx:=zL us i h;have hp:=W9 us[i];have hd:=eO us[i].body;rw[hd]at hc hp;unfold Yj;cases b with
 |true=>simp only[Xm,Nw,sA,seval,kn,nY,hi,hx,Wc,hp,sX,hc,iE (i:=i) (by omega)]
 |false=>simp only[Xm,Nw,sA,seval,kn,nY,hi,hx,Wc,hp,sX,hc]
def Dp(us:List Su)(b:Bool)(i:Nat):Env:={slots:=[(0,⟨false,gJ FL⟩),(1,⟨false,eG us⟩),(6,⟨false,dG (us.map Su.name)⟩),(9,⟨false,.bool b⟩),(10,⟨false,.int .i64 i⟩)],dR:=[],boxes:=[],defers:=[]}
def Ur(us:List Su)(b:Bool)(i:Nat):Env:={slots:=[(0,⟨false,gJ FL⟩),(1,⟨false,eG us⟩),(6,⟨false,dG (us.map Su.name)⟩),(9,⟨false,.bool b⟩),(10,⟨false,.int .i64 i⟩),(44,⟨false,.bool false⟩)],dR:=[],boxes:=[],defers:=[]}
theorem zhfb(us:List Su)(i:Nat)(h:i<us.length)(hl:us.length<1000)(b1 b2:Bool)(ht:C Fg [dG us[i].ps] O=some (.ret ⟨false,.bool b1⟩,O))(hc:C Qu [dM us[i].body] O=some (.ret ⟨false,.bool b2⟩,O)):exec C n none Ia (Dp us false i) O=some (.normal,Dp us (b1||b2) (i+1),O):=by
 have hi:((i:Int)<(us.length:Int)):=by omega
 have hx:=zL us i h;have hp:=W9 us[i];have hd:=eO us[i].body;rw[hd]at hc hp;cases b1 with
 |true=>simp only[Ia,Dp,sA,seval,kn,nY,hi,hx,Wc,hp,lP,sX,ht,hc,iE (i:=i) (by omega)]
 |false=>simp only[Ia,Dp,sA,seval,kn,nY,hi,hx,Wc,hp,lP,sX,ht,hc,iE (i:=i) (by omega)]
theorem zhg(us:List Su)(i:Nat):exec C n none Ia (Dp us (!false) i) O=some (.exit 2,Ur us (!false) i,O):=by
 by_cases hi:((i:Int)<(us.length:Int))
 ·simp only[Ia,Dp,Ur,sA,seval,kn,nY,hi]
 ·simp only[Ia,Dp,Ur,sA,seval,kn,nY,hi]
theorem zkcb(us:List Su):exec C n none Ia (Dp us false us.length) O=some (.exit 2,Ur us false us.length,O):=by
 have hi:¬((us.length:Int)<(us.length:Int)):=by omega
 simp only[Ia,Dp,Ur,sA,seval,kn,nY,hi]
theorem zhgb(us:List Su)(i:Nat)(h:i<us.length)(hl:us.length<1000)(b:Bool)(ht:C mJ [dG (us.map Su.name),dG us[i].ps] O=some (.ret ⟨false,dG (us.map Su.name++us[i].ps)⟩,O))(hc:C Ff [gJ FL,dG (us.map Su.name++us[i].ps),dM us[i].body] O=some (.ret ⟨false,.bool b⟩,O)) :
  exec C n none Xn (Ny us i) O=dK b (some (.ret,Yj 21,O)) (some (.normal,Ny us (i+1),O)):=by
 have hi:((i:Int)<(us.length:Int)):=by omega
 have hx:=zL us i h;have hp:=W9 us[i];have hd:=eO us[i].body;rw[hd]at hc hp;unfold Yj;cases b with
 |true=>simp only[Xn,Ny,sA,seval,kn,nY,hi,hx,Wc,hp,lP,sX,ht,hc]
 |false=>simp only[Xn,Ny,sA,seval,kn,nY,hi,hx,Wc,hp,lP,sX,ht,hc,iE (i:=i) (by omega)]
end
theorem zfx{α:Type}(P:α->Bool):∀l:List α,(l.any fun x=>!P x)=!l.all P
 |[]=>rfl
 |x::r=>by
  rw[List.any_cons,List.all_cons,zfx P r];cases P x<;>rfl
theorem zfw{α:Type}(P:α->Bool):∀l:List α,(l.all fun x=>P x==false)=!l.any P
 |[]=>rfl
 |x::r=>by
  rw[List.any_cons,List.all_cons,zfw P r];cases P x<;>rfl
theorem zdub(us:List Su)(Ey:us.length<1000)(hsz:∀u∈us,u.ps.length+u.body.size<=50000000):eW Qr [gJ FL,eG us] ⟨false,.int .i64 (PO us)⟩:=by
 have hF:FL.length=5:=rfl;refine jH (af:=Si) (n:=us.length+2) (O':=cH) (jG Du 1) rfl rfl (by simp[fO,Jr,uD]) rfl ?_;have h1:=zui (S:=Du) rfl FL us (by omega) 0 cH;have h2:=LP (S:=Du) rfl (FL.map Fd.name++us.map Su.name) (by simp;omega) 0 cH
 have hl0:=A7 (body:=exec (T Du 1) (us.length+2) none Xm) (Nw us (dG (FL.map Fd.name++us.map Su.name))) us (fun u=>!A Rs u.body []) _ (Yj 1) 0 cH (fun i hi=>by
  have hb:=hsz _ (aX hi);exact zheb us _ i hi Ey _ (EM (S:=Du) (v:=fun co=>A Rs co []) rfl rfl _ (zcvb _ us[i].body rfl (by omega)) 0 cH)) (zj8b us _) us [] (us.length+2) rfl (by omega)
 have hl2:=A7 (body:=exec (T Du 1) (us.length+2) none Xn) (Ny us) us (fun u=>!A Rt u.body (us.map Su.name++u.ps)) _ (Yj 21) 4 cH (fun i hi=>by
  have hb:=hsz _ (aX hi);exact zhgb us i hi Ey _ (Vq (S:=Du) rfl _ us[i].ps (by simp;omega) 0 cH) (zu (S:=Du) rfl _ _ (zzs _ us[i].body _ rfl (by simp;omega)) 0 cH)) (zj9b us) us [] (us.length+2) rfl (by omega)
 obtain⟨j,hl1⟩:=NA (body:=exec (T Du 1) (us.length+2) none Ia) false (Dp us) (Ur us) us (fun u=>iQ u.ps||!A Ro u.body []) 2 cH (fun i hi=>by
  have hb:=hsz _ (aX hi);exact zhfb us i hi Ey _ _ (LP (S:=Du) rfl us[i].ps (by omega) 0 cH) (EM (S:=Du) (v:=fun co=>!A Ro co []) rfl rfl _ (zx8 _ us[i].body rfl (by omega)) 0 cH)) (fun i _=>zhg us i) (zkcb us) us [] (us.length+2) rfl (by omega)
 have hst:=rW (n:=us.length+1) (zhg (C:=T Du 1) (n:=us.length+2) (O:=cH) us 0);rw[zfx]at hl0 hl2;rw[zfw,zgo,Bool.not_not]at hl1;unfold PO;generalize(us.all fun u=>A Rs u.body [])=b0 at *
 generalize(us.any fun u=>iQ u.ps||!A Ro u.body [])=b1 at *
 generalize(us.all fun u=>A Rt u.body (us.map Su.name++u.ps))=b2 at *
 generalize iQ (FL.map Fd.name++us.map Su.name)=tw at *
 simp only[Nw,iG,aH]at hl0;simp only[Dp,Ur,iG,aH]at hl1;simp only[Dp,Ur,iG,cC]at hst;simp only[Ny,iG,aH]at hl2;unfold Yj at hl0 hl2;cases b0 with
 |false =>rw[cC,dQ]at hl0;simp only[Si,sA,seval,kn,h1,hl0]
 |true =>
  rw[bZ,dX]at hl0;cases tw with
  |true=>simp only[Si,sA,seval,kn,h1,h2,hl0,hst]
  |false =>
   cases b1 with
   |true=>simp only[Si,sA,seval,kn,h1,h2,hl0,hl1]
   |false =>
    cases b2 with
    |true =>rw[bZ,dX]at hl2;simp only[Si,sA,seval,kn,h1,h2,hl0,hl1,hl2]
    |false =>rw[cC,dQ]at hl2;simp only[Si,sA,seval,kn,h1,h2,hl0,hl1,hl2]
/-! ### It is the same -/
theorem zdr{c:Co}(h:nC c=true):((c.f==8)=false->c.bs=[])/\((c.f==8)=true->c.al=[])/\((c.f==1)=true->c.bs=[]):=by
 have nb:∀{l:List (Tx×Co)},((l.length:Int)==0)=true->l=[]:=fun h=>bL (by simpa using h);have na:∀{l:List (Hd×Co)},((l.length:Int)==0)=true->l=[]:=fun h=>bL (by simpa using h);unfold nC at h;rw[s3,s2]at h;refine⟨fun e8=>?_,fun e8=>?_,fun e1=>?_⟩
 ·rw[e8]at h;cases e0:(c.f==1)||((c.f==2)||((c.f==3)||(c.f==11)))with
  |true =>simp only[e0,dQ,aC]at h;exact nb h.1.2
  |false =>
   simp only[e0,dX]at h;cases e4:c.f==4 with
   |true =>simp only[e4,dQ,aC]at h;exact nb h.2.1
   |false =>
    simp only[e4,dX]at h;cases e10:c.f==10 with
    |true =>simp only[e10,dQ,aC]at h;exact nb h.1.2.1
    |false =>
     simp only[e10,dX]at h;cases e9:c.f==9 with
     |true =>simp only[e9,dQ,aC]at h;exact nb h.1.2
     |false =>simp only[e9,dX]at h;cases h
 ·have hf:c.f=8:=by simpa using e8
  rw[hf]at h;have h':(((c.ks.length:Int)==1)&&((c.al.length:Int)==0))=true:=h;rw[aC]at h';exact na h'.2
 ·rw[e1]at h;simp only[Bool.true_or,dQ,aC]at h;exact nb h.1.2
theorem zg6(c:Co)(P:Co->List Tx->Bool):((nV c).all fun p=>P p.1 p.2)=(c.bs.all (fun b=>P b.2 (dW c))&&(c.ks.all (fun x=>P x (dW c))&&c.al.all fun a=>P a.2 a.1.vars)):=by simp only[nV,List.all_append,List.all_map,Bool.and_assoc];rfl
theorem LC:∀(k:Nat)(c:Co)(g:List Tx),c.size<=k->mN (fun c _=>nC c) k c g=A Rs c []
 |0,c,_,h=>by have:=lT c;omega
 |k+1,c,g,h=>by
  have hse:=jD c;have e:=F6 Rs c [];rw[zg6 c (fun x ns=>A Rs x ([]++ns))]at e;rw[e];simp only[mN];congr 1;congr 1
  ·exact vE _ fun b hb=>by
    have:=xB c.bs b hb;rw[LC k b.2 _ (by omega)];exact FD (R:=nC) _ b.2 rfl _ _
  ·congr 1
   ·exact vE _ fun b hb=>by
     have:=Bn c.ks b hb;rw[LC k b _ (by omega)];exact FD (R:=nC) _ b rfl _ _
   ·exact vE _ fun b hb=>by
     have:=qP c.al b hb;rw[LC k b.2 _ (by omega)];exact FD (R:=nC) _ b.2 rfl _ _
theorem DY{R R':Co->List Tx->Bool}(gl:List Tx)(hR:∀c g,nC c=true->R c (pI c g)=R' c (gl++g)):∀(k:Nat)(c:Co)(g:List Tx),c.size<=k->A Rs c []=true->mN R k c g=A R' c (gl++g)
 |0,c,_,h,_=>by have:=lT c;omega
 |k+1,c,g,h,hs=>by
  have hse:=jD c;have e1:A Rs c []=(nC c&&(eT c).all fun x=>A Rs x []):=ae (R:=nC) c [];rw[hs]at e1;have e1:=e1.symm;rw[aC]at e1;obtain⟨hsc,hsp⟩:=e1;have hsp:=bM.1 hsp;obtain⟨b1,b2,_⟩:=zdr hsc;have hg:pI c g=g++dW c:=by
   unfold pI;cases e8:c.f==8 with
   |true=>rfl
   |false=>simp[dW,b1 e8,dK]
  rw[F6,zg6 c (fun x ns=>A R' x (gl++g++ns))];simp only[mN];rw[hR c g hsc];congr 1;congr 1
  ·exact vE _ fun b hb=>by
    have:=xB c.bs b hb;rw[DY gl hR k b.2 _ (by omega) (hsp _ (by simp only[eT,bJ,bF];exact .inl (.inl ⟨b,hb,rfl⟩))),hg,bR]
  ·congr 1
   ·exact vE _ fun b hb=>by
     have:=Bn c.ks b hb;rw[DY gl hR k b _ (by omega) (hsp _ (by simp only[eT,bJ,bF];exact .inl (.inr hb))),hg,bR]
   ·refine vE _ fun b hb=>?_;have:=qP c.al b hb;have hga:pI c g=g:=by
     unfold pI;cases e8:c.f==8 with
     |true =>have:=b2 e8;rw[this]at hb;cases hb
     |false=>rfl
    rw[DY gl hR k b.2 _ (by omega) (hsp _ (by simp only[eT,bJ,bF];exact .inr ⟨b,hb,rfl⟩)),hga,bR]
theorem zfl(gl:List Tx)(c:Co)(g:List Tx)(h:nC c=true):wA gl c (pI c g)=Rt c (gl++g):=by
 obtain⟨b1,b2,b3⟩:=zdr h;unfold wA Rt;cases e1:c.f==1 with
 |false=>rfl
 |true =>
  have hb:=b3 e1;have e8:(c.f==8)=false:=by
   have:c.f=1:=by simpa using e1
   rw[this];rfl
  have hg:pI c g=g:=by unfold pI;rw[e8];rfl
  have hn:(dW c).any (·==c.s)=false:=by rw[dW,hb];rfl
  rw[hg,hn,List.any_append];cases g.any (·==c.s)<;>cases gl.any (·==c.s)<;>rfl
theorem zxb(us:List Su):PO us=mM us:=by
 have h1:qR (fun c _=>nC c) us=us.all fun u=>A Rs u.body []:=vE _ fun u _=>LC _ _ _ (aM _);unfold PO mM;rw[h1];cases hs:us.all fun u=>A Rs u.body []with
 |false=>rfl
 |true =>
  have hs:=bM.1 hs;have h2:qR (fun c _=>qB c) us=us.all fun u=>A Ro u.body []:=vE _ fun u hu=>by
   rw[DY (R:=fun c _=>qB c) (R':=Ro) [] (fun c g _=>rfl) _ u.body u.ps (aM _) (hs u hu)];exact FD (R:=qB) _ u.body rfl _ _
  have h3:qR (wA (us.map Su.name)) us=us.all fun u=>A Rt u.body (us.map Su.name++u.ps):=vE _ fun u hu=>DY (us.map Su.name) (fun c g h=>zfl _ c g h) _ u.body u.ps (aM _) (hs u hu);rw[h2,h3];have h4:∀l:List Su,(l.any fun u=>iQ u.ps||!A Ro u.body [])=((l.any fun u=>iQ u.ps)||!l.all fun u=>A Ro u.body []):=by
   intro l;induction l with
   |nil=>rfl
   |cons x r ih =>rw[List.any_cons,List.any_cons,List.all_cons,ih];cases iQ x.ps<;>cases A Ro x.body []<;>cases(r.any fun u=>iQ u.ps)<;>rfl
  rw[h4,Bool.or_assoc]
def JP:List D->Cell->Prop:=fun ds c=>∀us,ds=[gJ FL,eG us]->c=⟨false,.int .i64 (mM us)⟩
theorem zfz{S:fC}(hS:dC S Qr=some JP)(us:List Su)(Ey:us.length<1000)(hsz:∀u∈us,u.ps.length+u.body.size<=50000000)(n:Nat)(O:Store):T S (n+1) Qr [gJ FL,eG us] O=some (.ret ⟨false,.int .i64 (mM us)⟩,O):=by
 have hx:=zdub us Ey hsz;rw[zxb]at hx
 obtain⟨c,h1,h2⟩:=lD (S:=S) (f:=Qr) (s:=JP) hS rfl (ds:=[gJ FL,eG us]) (c:=⟨false,.int .i64 (mM us)⟩) (fun vs e=>by
  simp only[aL,and_true,true_and]at e;rw[DX e]) hx
 rw[h2,h1 us rfl]
theorem zs1{us:List Su}(Ey:us.length<1000)(hsz:∀u∈us,u.ps.length+u.body.size<=50000000)(hw:mM us≠0):eW IE [gJ FL,eG us] ⟨false,.fN [.dN,.int .i64 (mM us)]⟩:=by
 have hw3:=zfz (S:=[(Qr,JP)]) rfl us Ey hsz 0 cH;have hb:(mM us != 0)=true:=by simpa using hw
 generalize mM us=w at *
 refine jH (af:=K7) (n:=1) (O':=cH) (jG [(Qr,JP)] 1) rfl rfl (by simp[fO,Jr,uD]) rfl ?_;simp only[K7,sA,seval,kn,hw3,hb]
end Go.Fu.X
namespace Go.Fu
open Go Go.Mx
set_option maxRecDepth 10000
structure IR(d:D)(xs:List Int):Prop where
 len:lenOf d=some xs.length
 idx:∀i (h:i<xs.length),kU 1 d i=some (.gC (.int .i64 xs[i]))
 np:iF d=true
 small:∀x∈xs,Small x
def Qx(x:Int):Nat:=(if x<0 then -(x+1)else x).toNat
def lJ(xs:List Int)(at':Nat):Nat:=if h:at'<xs.length then Qx xs[at']else 0
theorem zcib{x:Int}(h:Small x):Qx x<9223372036854775808:=by
 unfold Qx Small at *
 split<;>omega
theorem Oy{xs:List Int}(h:∀x∈xs,Small x)(i:Nat):lJ xs i<9223372036854775808:=by
 unfold lJ;split
 ·exact zcib (h _ (aX _))
 ·omega
theorem zy9{d:D}{xs:List Int}(hR:IR d xs)(i:Nat)(hi:i<1099511627776):eW wO [d,.int .i64 i] ⟨false,.int .i64 (lJ xs i:Nat)⟩:=by
 refine jH (af:=R3) (n:=1) (O':=cH) (jG [] 0) rfl rfl (by simp[fO,hR.np,iF]) rfl ?_;by_cases h:i<xs.length
 ·have h1:¬((xs.length:Int)<=(i:Int)):=by omega
  have hx:=hR.idx i h;have hs:=hR.small _ (aX h);have hp:lJ xs i=Qx xs[i]:=by simp[lJ,h]
  rw[hp];generalize xs[i]=x at hx hs;unfold Small at hs;by_cases h2:x<0
  ·have e1:IntKind.i64.wrap (x+1)=x+1:=lV (by omega) (by omega);have e2:IntKind.i64.wrap (0-(x+1))=(Qx x:Int):=(by rw[lV (by omega) (by omega)];simp only[Qx,if_pos h2];omega);simp only[R3,sA,Nat.reduceAdd,Nat.reduceBEq,kn,hR.len,h1,hx,h2,e1,e2]
  ·have e2:x=(Qx x:Int):=(by simp only[Qx,if_neg h2];omega);simp only[R3,sA,Nat.reduceAdd,Nat.reduceBEq,kn,hR.len,h1,hx,h2];rw[<-e2]
 ·have h1:((xs.length:Int)<=(i:Int)):=by omega
  have hp:lJ xs i=0:=by simp[lJ,h]
  rw[hp];simp only[R3,sA,Nat.reduceAdd,Nat.reduceBEq,kn,hR.len,h1];rfl
theorem zrv:eW Aa [] ⟨false,gJ FL⟩:=by refine eW.weak (o:=true) rfl (jH (af:=QX) (n:=1) (O':=cH) (jG [] 0) rfl rfl rfl (by simp[Jr]) ?_);simp only[QX,sA,Nat.reduceAdd,Nat.reduceMul,Nat.reduceBEq,Nat.reduceLeDiff,kn];rfl
def y7:List D->Cell->Prop:=fun ds c=>ds=[]->c=⟨false,gJ FL⟩
theorem WL{S:fC}(hS:dC S Aa=some y7)(n:Nat)(O:Store):T S (n+1) Aa [] O=some (.ret ⟨false,gJ FL⟩,O):=by obtain⟨c,h1,h2⟩:=lD (S:=S) hS rfl (c:=⟨false,gJ FL⟩) (fun _=>rfl) zrv;rw[h2,h1 rfl]
theorem rP(a b:Nat):((a:Int)).tmod (b:Int)=((a%b:Nat):Int):=by rw[Int.tmod_eq_emod_of_nonneg (by omega)];omega
theorem X3(a b:Nat):((a:Int)).tdiv (b:Int)=((a / b:Nat):Int):=by rw[Int.tdiv_eq_ediv_of_nonneg (by omega)];omega
def nqB(s:Tx):Bool:=!s.isEmpty&&s.all fun b=>b != 37&&b != 39
def yw(s:Tx):Bool:=decide (s.length<=5)&&nqB s
def Nq(s:Tx):Prop:=nqB s=true
def Nv(s:Tx):Prop:=yw s=true
theorem Nv.len{s:Tx}(h:Nv s):s.length<=5:=by simp only[Nv,yw,aC,cE]at h;exact h.1
theorem Nv.q{s:Tx}(h:Nv s):Nq s:=by simp only[Nv,yw,aC]at h;exact h.2
theorem Nq.no{s:Tx}(h:Nq s):∀b∈s,b≠37/\b≠39:=fun b hb=>by
 have h1:(!s.isEmpty&&s.all fun b=>b != 37&&b != 39)=true:=h;rw[aC]at h1;have:=bM.1 h1.2 b hb;simpa using this
theorem Nq.ne{s:Tx}(h:Nq s):s≠[]:=fun e=>by
 subst e;cases h
def VA(h:Hd):Prop:=h.form=1\/(h.form=2\/h.form=3)/\h.vars=[]
theorem Lm.hf{h:Hd}(k:Lm h):VA h:=by
 rcases k.2.2 with⟨a,_⟩|⟨a,b⟩|⟨a,b⟩
 ·exact .inl a
 ·exact .inr ⟨.inl a,b⟩
 ·exact .inr ⟨.inr a,b⟩
inductive Pl:Co->Prop
 |mk {c}:(c.f=1->c.s≠[]/\∀b∈c.s,b≠39)->(∀p∈c.bs,Nq p.1)->(∀a∈c.al,VA a.1/\∀v∈a.1.vars,Nq v)->(∀b∈c.bs,Pl b.2)->(∀x∈c.ks,Pl x)->(∀a∈c.al,Pl a.2)->Pl c
theorem Pl.out{c:Co}(h:Pl c):(c.f=1->c.s≠[]/\∀b∈c.s,b≠39)/\(∀p∈c.bs,Nq p.1)/\(∀a∈c.al,VA a.1/\∀v∈a.1.vars,Nq v)/\(∀b∈c.bs,Pl b.2)/\(∀x∈c.ks,Pl x)/\∀a∈c.al,Pl a.2:=by
 cases h with
 |mk a b c d e f=>exact⟨a,b,c,d,e,f⟩
def pD(c:Co):Prop:=pU 5 c/\Pl c
theorem pD.leaf{f n:Int}{s:Tx}(h1:f=1\/f=2\/f=3\/f=11)(h2:Small n)(h3:s.length<=5)(h4:f=1->Nv s):pD (.mk f n s [] [] []) :=
 ⟨.leaf h1 h2 h3,Pl.mk (c:=.mk f n s [] [] []) (fun e=>⟨(h4 e).q.ne,fun b hb=>((h4 e).q.no b hb).2⟩) (fun b hb=>by cases hb) (fun b hb=>by cases hb) (fun b hb=>by cases hb) (fun b hb=>by cases hb) (fun b hb=>by cases hb)⟩
theorem pD.app{s:Tx}{a b:Co}(h:s.length<=5)(ha:pD a)(hb:pD b):pD (.mk 4 0 s [a,b] [] []) :=
 ⟨.app h ha.1 hb.1,Pl.mk (c:=.mk 4 0 s [a,b] [] []) (fun h=>absurd h (by simp[Co.f])) (fun b hb=>by cases hb) (fun b hb=>by cases hb) (fun b hb=>by cases hb) (fun x hx=>by
  simp only[Co.ks,aS,aK,or_false]at hx;rcases hx with rfl|rfl
  ·exact ha.2
  ·exact hb.2) (fun b hb=>by cases hb)⟩
theorem pD.rH{s:Tx}{a b:Co}(h:s.length<=5)(ha:pD a)(hb:pD b):pD (.mk 10 0 s [a,b] [] []) :=
 ⟨.rH h ha.1 hb.1,Pl.mk (c:=.mk 10 0 s [a,b] [] []) (fun h=>absurd h (by simp[Co.f])) (fun b hb=>by cases hb) (fun b hb=>by cases hb) (fun b hb=>by cases hb) (fun x hx=>by
  simp only[Co.ks,aS,aK,or_false]at hx;rcases hx with rfl|rfl
  ·exact ha.2
  ·exact hb.2) (fun b hb=>by cases hb)⟩
theorem pD.lt{s:Tx}{b:Co}{bs:List (Tx×Co)}(h:s.length<=5)(h1:∀p∈bs,Nv p.1)(h2:∀p∈bs,pD p.2)(hb:pD b):pD (.mk 8 0 s [b] bs []) :=
 ⟨.lt h (fun p hp=>(h1 p hp).len) (fun p hp=>(h2 p hp).1) hb.1,Pl.mk (c:=.mk 8 0 s [b] bs []) (fun h=>absurd h (by simp[Co.f])) (fun p hp=>(h1 p hp).q) (fun b hb=>by cases hb) (fun p hp=>(h2 p hp).2) (fun x hx=>by
  simp only[Co.ks,aS,aK,or_false]at hx;subst hx;exact hb.2) (fun b hb=>by cases hb)⟩
theorem pD.qX{s:Tx}{x:Co}{al:List (Hd×Co)}(h:s.length<=5)(h0:∀a∈al,Lm a.1)(h1:∀a∈al,Small a.1.num/\a.1.name.length<=5/\∀v∈a.1.vars,Nv v)(hb:pD x)(h2:∀a∈al,pD a.2):pD (.mk 9 0 s [x] [] al) :=
 ⟨.qX h (fun a ha=>⟨(h1 a ha).1,(h1 a ha).2.1,fun v hv=>((h1 a ha).2.2 v hv).len⟩) hb.1 (fun a ha=>(h2 a ha).1),Pl.mk (c:=.mk 9 0 s [x] [] al) (fun h=>absurd h (by simp[Co.f])) (fun b hb=>by cases hb) (fun a ha=>⟨(h0 a ha).hf,fun v hv=>((h1 a ha).2.2 v hv).q⟩) (fun b hb=>by cases hb) (fun y hy=>by
  simp only[Co.ks,aS,aK,or_false]at hy;subst hy;exact hb.2) (fun a ha=>(h2 a ha).2)⟩
theorem iy:∀f∈FL,rB FL f.name (-1)=true/\rB FL f.name f.arity=true/\f.name.length<=5/\(f.arity=0\/f.arity=1\/f.arity=2):=by decide
def X7(f n:Int)(s:Tx):Co:=.mk f n s [] [] []
theorem zfjb(v:Nat)(hv:v<9223372036854775808)(ns:List Tx)(h0:ns≠[])(hn:ns.length<1000)(h5:∀s∈ns,Nv s) :
  ∃c,eW V5 [.int .i64 v,dG ns] ⟨false,dM c⟩/\Good ns c/\pD c/\c.size=1/\kO c=1:=by
 have mk:∀{c:Co}{o:Bool}{O'},nA Ra (fun _ _ _=>none) Sm 0 (exec (T [(Aa,y7)] 1) 1 none Sm.body (mX [.int .i64 v,dG ns]) cH)=some (.ret ⟨o,dM c⟩,O')->eW V5 [.int .i64 v,dG ns] ⟨false,dM c⟩:=fun{c o O'} hr =>
  eW.weak (o:=o) rfl (jH (af:=Sm) (n:=1) (O':=O') (jG [(Aa,y7)] 1) rfl rfl (by simp[fO,iF,jY]) (mL _) hr)
 have hF:=WL (S:=[(Aa,y7)]) rfl 0 cH;have t4:((v:Int)).tmod 4=((v%4:Nat):Int):=rP v 4;have d4:((v:Int)).tdiv 4=((v / 4:Nat):Int):=X3 v 4;have w4:IntKind.i64.wrap ((v / 4:Nat):Int)=((v / 4:Nat):Int):=lV (by omega) (by omega);by_cases c0:v%4=0
 ·have t7:(((v / 4:Nat):Int)).tmod 7=((v / 4%7:Nat):Int):=rP _ 7;have w7:IntKind.i64.wrap (((v / 4%7:Nat):Int)-3)=((v / 4%7:Nat):Int)-3:=lV (by omega) (by omega);have hsm:Small (((v / 4%7:Nat):Int)-3):=by unfold Small;omega
  refine⟨X7 3 (((v / 4%7:Nat):Int)-3) [],mk (o:=false) (O':=cH) ?_,.int hsm,.leaf (.inr (.inr (.inl rfl))) hsm (by simp) (fun h=>absurd h (by decide)),rfl,rfl⟩;simp only[Sm,sA,Nat.reduceAdd,Nat.reduceBEq,Nat.reduceLeDiff,Int.reduceBEq,kn,X7,eO,eX,co,hF,t4,c0,d4,w4,t7,w7];rfl
 ·have ne0:(((v%4:Nat):Int)==0)=false:=by simp;omega
  by_cases c1:v%4=1
  ·have t5:(((v / 4:Nat):Int)).tmod 5=((v / 4%5:Nat):Int):=rP _ 5;have hj:v / 4%5<FL.length:=Nat.mod_lt _ (by decide);have hx:=Hn FL (v / 4%5) hj;have hl:((FL.length:Nat):Int)=5:=rfl;have hnm:=iy _ (aX hj);generalize FL[v / 4%5]=f at hx hnm;simp only[dF]at hx;refine⟨X7 2 0 f.name,mk (o:=false) (O':=cH) ?_,.wu hnm.1,.leaf (.inr (.inl rfl)) zS hnm.2.2.1 (fun h=>absurd h (by decide)),rfl,rfl⟩;simp only[Sm,sA,Nat.reduceAdd,Nat.reduceBEq,Nat.reduceLeDiff,Int.reduceBEq,kn,X7,eO,eX,co,hF,t4,c1,d4,w4,uU,hl,t5,hx];rfl
  ·have ne1:(((v%4:Nat):Int)==1)=false:=by simp;omega
   have hnl:0<ns.length:=List.length_pos_iff.2 h0;have tn:(((v / 4:Nat):Int)).tmod (ns.length:Int)=((v / 4%ns.length:Nat):Int):=rP _ _;have hj:v / 4%ns.length<ns.length:=Nat.mod_lt _ hnl;have hx:=sZ ns (v / 4%ns.length) hj;have hz:((ns.length:Int)==0)=false:=by simp;omega
   have hm:=aX hj;generalize ns[v / 4%ns.length]=s at hx hm;have hany:ns.any (·==s)=true:=List.any_eq_true.2 ⟨s,hm,by simp⟩;refine⟨X7 1 0 s,mk (o:=false) (O':=cH) ?_,.var hany,.leaf (.inl rfl) zS (h5 s hm).len (fun _=>h5 s hm),rfl,rfl⟩;simp only[Sm,sA,Nat.reduceAdd,Nat.reduceBEq,Nat.reduceLeDiff,Int.reduceBEq,kn,X7,eO,eX,co,hF,t4,ne0,ne1,d4,w4,lE,hz,tn,hx];rfl
def sS:Nat->Nat
 |0=>1
 |d+1=>4*sS d+10
def nW:Nat->Nat
 |0=>1
 |d+1=>4*nW d+5
def PT(ns:List Tx)(deep i:Nat):Prop:=ns≠[]/\ns.length+2*deep<=100/\(∀s∈ns,Nv s)/\i+nW deep<=1000000
def Ln(ns:List Tx)(deep i:Nat)(c:Co)(j:Nat):Prop:=Good ns c/\pD c/\c.size<=sS deep/\kO c<=deep+1/\j<=i+nW deep
def PM(d:D)(xs:List Int):List D->Cell->Prop:=fun ds c=>∀i:Nat,ds=[d,.int .i64 i]->c=⟨false,.int .i64 (lJ xs i:Nat)⟩
theorem Gp{S:fC}{d:D}{xs:List Int}(hS:dC S wO=some (PM d xs))(hR:IR d xs)(i:Nat)(hi:i<1099511627776)(n:Nat)(O:Store):T S (n+1) wO [d,.int .i64 i] O=some (.ret ⟨false,.int .i64 (lJ xs i:Nat)⟩,O):=by
 obtain⟨c,h1,h2⟩:=lD (S:=S) hS rfl (c:=⟨false,.int .i64 (lJ xs i:Nat)⟩) (fun j e=>by
  simp only[aL,D.int.injEq,true_and,and_true]at e;rw[show j=i by omega]) (zy9 hR i hi)
 rw[h2,h1 i rfl]
def lS(b:List Tx):D:=.list dY (b.map D.str)
theorem zt9(a b:List Tx)(hl:a.length+b.length<1000000000):eW mJ [dG a,lS b] ⟨false,dG (a++b)⟩:=by
 have hn:iF (lS b)=true:=by rw[lS,iF];exact wX (fun _=>rfl) b
 refine eW.weak (o:=true) rfl (jH (af:=N7) (n:=1) (O':=cH) (jG [] 0) rfl rfl (by simp[fO,jY,hn]) (jY _) ?_);simp only[N7,lS,sA,seval,kn,CO,Kx a false (by omega),UM a b true (fun _=>rfl) hl]
theorem zh1{a b:List Tx}(h:lS a=lS b):a=b:=by simp only[lS,D.list.injEq,true_and]at h;exact Pq (fun h=>by simpa using h) h
theorem zh0{a b:List Tx}(h:lS a=dG b):a=b:=by
 cases b with
 |nil=>cases h
 |cons x r=>exact zh1 (b:=x::r) h
def FB:List D->Cell->Prop:=fun ds c=>∀a b,(ds=[dG a,dG b]\/ds=[dG a,lS b])->c=⟨false,dG (a++b)⟩
theorem zug{S:fC}(hS:dC S mJ=some FB)(a b:List Tx)(hl:a.length+b.length<1000000000)(n:Nat)(O:Store):T S (n+1) mJ [dG a,dG b] O=some (.ret ⟨false,dG (a++b)⟩,O):=by
 obtain⟨c,h1,h2⟩:=lD (S:=S) hS rfl (c:=⟨false,dG (a++b)⟩) (fun a' b' e=>by
  rcases e with e|e
  ·simp only[aL,and_true]at e;rw[lN e.1,lN e.2]
  ·simp only[aL,and_true]at e;rw[lN e.1,zh0 e.2.symm]) (zcs a b hl)
 rw[h2,h1 a b (.inl rfl)]
theorem zbo{S:fC}(hS:dC S mJ=some FB)(a b:List Tx)(hl:a.length+b.length<1000000000)(n:Nat)(O:Store):T S (n+1) mJ [dG a,lS b] O=some (.ret ⟨false,dG (a++b)⟩,O):=by
 obtain⟨c,h1,h2⟩:=lD (S:=S) hS rfl (c:=⟨false,dG (a++b)⟩) (fun a' b' e=>by
  rcases e with e|e
  ·simp only[aL,and_true]at e;rw[lN e.1,zh0 e.2]
  ·simp only[aL,and_true]at e;rw[lN e.1,zh1 e.2]) (zt9 a b hl)
 rw[h2,h1 a b (.inr rfl)]
def UU(d:D)(deep:Nat):List D->Cell->Prop:=fun ds c=>∀(i:Nat) ns,ds=[d,.int .i64 i,dG ns,.int .i64 deep]->PT ns deep i->∃co j,c=⟨false,.fN [dM co,.int .i64 (j:Nat)]⟩/\Ln ns deep i co j
def Qm(d:D)(deep:Nat):Prop:=∀(i:Nat) ns,PT ns deep i->∃co j,eW qF [d,.int .i64 i,dG ns,.int .i64 deep] ⟨false,.fN [dM co,.int .i64 (j:Nat)]⟩/\Ln ns deep i co j
theorem Jw{S:fC}{d:D}{deep:Nat}(hS:dC S qF=some (UU d deep))(hT:Qm d deep)(i:Nat)(ns:List Tx)(hp:PT ns deep i):∃co j,Ln ns deep i co j/\∀n O,T S (n+1) qF [d,.int .i64 i,dG ns,.int .i64 deep] O=some (.ret ⟨false,.fN [dM co,.int .i64 (j:Nat)]⟩,O):=by
 obtain⟨co,j,h1,h2⟩:=hT i ns hp
 obtain⟨c,h3,h4⟩:=lD (S:=S) hS rfl (c:=⟨false,.fN [dM co,.int .i64 (j:Nat)]⟩) (fun i' ns' e _=>by
  simp only[aL,D.int.injEq,true_and,and_true]at e;obtain rfl:i=i':=by omega
  obtain rfl:=lN e.2;exact⟨co,j,rfl,h2⟩) h1
 obtain⟨JX,j',rfl,h5⟩:=h3 i ns rfl hp;exact⟨JX,j',h5,h4⟩
def xO(v:Nat):Hd:=if v / 8%3=1 then⟨2,((v / 24%5:Nat):Int)-2,[],[]⟩else if v / 8%3=2/\v / 24%2=1 then⟨3,0,[],[]⟩else⟨1,0,(FL.getD (v%5) f0).name,[[117],[118]].take (FL.getD (v%5) f0).arity.toNat⟩
theorem zadb:∀f∈FL,rB FL f.name (([[117],[118]]:List Tx).take f.arity.toNat).length=true:=by decide
theorem za9b(v:Nat):Lm (xO v)/\(xO v).name.length<=5/\(∀s∈(xO v).vars,Nv s)/\(xO v).vars.length<=2:=by
 unfold xO;by_cases h1:v / 8%3=1
 ·rw[if_pos h1];exact⟨⟨by unfold Small;simp only;omega,rfl,.inr (.inl ⟨rfl,rfl⟩)⟩,by simp,by simp,by simp⟩
 ·rw[if_neg h1];by_cases h2:v / 8%3=2/\v / 24%2=1
  ·rw[if_pos h2];exact⟨⟨zS,rfl,.inr (.inr ⟨rfl,rfl⟩)⟩,by simp,by simp,by simp⟩
  ·rw[if_neg h2];have hj:v%5<FL.length:=Nat.mod_lt _ (by decide);rw[iU FL _ _ hj];have hm:=aX hj;generalize FL[v%5]=f at hm;have h3:=iy f hm;have h4:=zadb f hm;refine⟨⟨zS,?_,.inl ⟨rfl,h4⟩⟩,h3.2.2.1,?_,?_⟩
   ·rcases h3.2.2.2 with e|e|e<;>rw[e]<;>rfl
   ·intro s hs;have:=bH hs;simp only[aS,aK,or_false]at this;rcases this with rfl|rfl<;>rfl
   ·simp only[bI];simp;omega
section
variable{C:eV}{n:Nat}{O:Store}
def Ag(d:D)(ns:List Tx)(deep N0:Nat)(al:List (Hd×Co))(j k:Nat):Env:={slots:=[(0,⟨false,d⟩),(1,⟨false,.int .i64 j⟩),(2,⟨false,dG ns⟩),(3,⟨false,.int .i64 (deep+1:Nat)⟩),(10,⟨false,.int .i64 N0⟩),(11,⟨false,gJ FL⟩),(12,⟨ow k,pV al⟩),(13,⟨false,.int .i64 k⟩)],dR:=[],boxes:=[],defers:=[]}
end
section
variable{C:eV}{n:Nat}{O:Store}
set_option maxHeartbeats 8000000 in
theorem zebb(d:D)(ns:List Tx)(deep N0:Nat)(al:List (Hd×Co))(j k v j':Nat)(c:Co)(hk:k<N0%4)(hN:N0<9223372036854775808)(hv:v<9223372036854775808)(hj:j<1000000)(hd:deep<1000)(hal:al.length<100)(hne:al≠[]->ow k=true)
  (h1:C wO [d,.int .i64 j] O=some (.ret ⟨false,.int .i64 v⟩,O))
  (h2:C mJ [dG ns,dG (xO v).vars] O=some (.ret ⟨false,dG (ns++(xO v).vars)⟩,O))
  (h3:C qF [d,.int .i64 (j+1:Nat),dG (ns++(xO v).vars),.int .i64 deep] O=some (.ret ⟨false,.fN [dM c,.int .i64 j']⟩,O)) :
  exec C n none Lr (Ag d ns deep N0 al j k) O=some (.normal,Ag d ns deep N0 (al++[(xO v,c)]) j' (k+1),O):=by
 have tN:((N0:Int)).tmod 4=((N0%4:Nat):Int):=rP N0 4;have hlt:((k:Int)<((N0%4:Nat):Int)):=by omega
 have hl5:((FL.length:Nat):Int)=5:=rfl;have t5:((v:Int)).tmod 5=((v%5:Nat):Int):=rP v 5;have d8:((v:Int)).tdiv 8=((v / 8:Nat):Int):=X3 v 8;have w8:IntKind.i64.wrap ((v / 8:Nat):Int)=((v / 8:Nat):Int):=lV (by omega) (by omega);have t3:(((v / 8:Nat):Int)).tmod 3=((v / 8%3:Nat):Int):=rP _ 3;have d24:((v:Int)).tdiv 24=((v / 24:Nat):Int):=X3 v 24;have yz:IntKind.i64.wrap ((v / 24:Nat):Int)=((v / 24:Nat):Int):=lV (by omega) (by omega);have t2:(((v / 24:Nat):Int)).tmod 2=((v / 24%2:Nat):Int):=rP _ 2;have t25:(((v / 24:Nat):Int)).tmod 5=((v / 24%5:Nat):Int):=rP _ 5;have w25:IntKind.i64.wrap (((v / 24%5:Nat):Int)-2)=((v / 24%5:Nat):Int)-2:=lV (by omega) (by omega);have wj:=iE (i:=j) (by omega);have wk:=iE (i:=k) (by omega);have wd:IntKind.i64.wrap (((deep+1:Nat):Int)-1)=(deep:Int):=by rw[lV (by omega) (by omega)];omega
 have xu:v%5<FL.length:=Nat.mod_lt _ (by decide);have hx:=Hn FL (v%5) xu;have KG:=iy _ (aX xu);have hgd:=iU FL (v%5) f0 xu;have ha:=zjt al (xO v,c) (ow k) hne (by omega);have KH:=xM (xO v,c);rw[KH]at ha;unfold xO at h2 h3 ha ⊢;rw[hgd]at h2 h3 ha ⊢;generalize FL[v%5]=f at hx KG h2 h3 ha;have hq:v / 8%3=0\/v / 8%3=1\/v / 8%3=2:=by omega
 have hp:v / 24%2=0\/v / 24%2=1:=by omega
 have VB:lM dY 16 ⟨false,.dN⟩ []=some ⟨true,.dN⟩:=Kx [] false (by decide);have VC:lM dY 16 ⟨false,.dN⟩ [.str [117]]=some ⟨true,.list dY [.str [117]]⟩:=Kx [[117]] false (by decide);have VE:lM dY 16 ⟨false,.dN⟩ [.str [117],.str [118]]=some ⟨true,.list dY [.str [117],.str [118]]⟩:=Kx [[117],[118]] false (by decide);simp only[dF]at hx;have p0:Mx.part none [.str f.name,.int .i64 f.tag,.int .i64 f.many,.int .i64 f.arity,.int .i64 0,.int .i64 0,.str [],.dN] 0=some (.str f.name):=rfl;have p3:Mx.part none [.str f.name,.int .i64 f.tag,.int .i64 f.many,.int .i64 f.arity,.int .i64 0,.int .i64 0,.str [],.dN] 3=some (.int .i64 f.arity):=rfl;simp only[eO,eX]at h3 ha;have s0:xJ 1 (.list dY [.str [117],.str [118]]) 0 (some 0)=some (.list dY []):=rfl;have s1:xJ 1 (.list dY [.str [117],.str [118]]) 0 (some 1)=some (.list dY [.str [117]]):=rfl;have s2:xJ 1 (.list dY [.str [117],.str [118]]) 0 (some 2)=some (.list dY [.str [117],.str [118]]):=rfl;have tk1:([[117],[118]]:List Tx).take (1:Int).toNat=[[117]]:=rfl;have tk2:([[117],[118]]:List Tx).take (2:Int).toNat=[[117],[118]]:=rfl;have tk0:([[117],[118]]:List Tx).take (0:Int).toNat=[]:=rfl;have en0:dG []=.dN:=rfl;have en1:dG [[117]]=.list dY [.str [117]]:=rfl;have en2:dG [[117],[118]]=.list dY [.str [117],.str [118]]:=rfl;have b01:(((0:Nat):Int)==1)=false:=rfl;have b02:(((0:Nat):Int)==2)=false:=rfl;have b11:(((1:Nat):Int)==1)=true:=rfl;have b12:(((1:Nat):Int)==2)=false:=rfl;have b21:(((2:Nat):Int)==1)=false:=rfl
 have b22:(((2:Nat):Int)==2)=true:=rfl;rcases hq with q|q|q
 ·rw[if_neg (by omega),if_neg (by omega)]at h2 h3 ha ⊢;simp only at h2 h3 ha ⊢;rcases KG.2.2.2 with e|e|e
  all_goals
   rw[e]at hx p0 p3 h2 h3 ha;simp only[e,tk0,tk1,tk2,en0,en1,en2,bQ]at h2 h3 ha ⊢;simp only[Lr,Ag,sA,seval,kn,tN,hlt,h1,uU,hl5,t5,hx,p0,p3,s0,s1,s2,VB,VC,VE,d8,w8,t3,q,b01,b02,wj,wd,h2,h3,ha,wk,rA]
 ·rw[if_pos q]at h2 h3 ha ⊢;simp only at h2 h3 ha ⊢;rcases KG.2.2.2 with e|e|e
  all_goals
   rw[e]at hx p0 p3;simp only[en0,bQ]at h2 h3 ha ⊢;simp only[Lr,Ag,sA,seval,kn,tN,hlt,h1,uU,hl5,t5,hx,p0,p3,s0,s1,s2,VB,VC,VE,d8,w8,t3,d24,yz,t25,w25,q,b11,b12,wj,wd,h2,h3,ha,wk,rA]
 ·rw[if_neg (by omega)]at h2 h3 ha ⊢;rcases hp with p|p
  ·rw[if_neg (by omega)]at h2 h3 ha ⊢;simp only at h2 h3 ha ⊢;rcases KG.2.2.2 with e|e|e
   all_goals
    rw[e]at hx p0 p3 h2 h3 ha;simp only[e,tk0,tk1,tk2,en0,en1,en2,bQ]at h2 h3 ha ⊢;simp only[Lr,Ag,sA,seval,kn,tN,hlt,h1,uU,hl5,t5,hx,p0,p3,s0,s1,s2,VB,VC,VE,d8,w8,t3,d24,yz,t2,q,p,b21,b22,b01,wj,wd,h2,h3,ha,wk,rA]
  ·rw[if_pos ⟨q,p⟩]at h2 h3 ha ⊢;simp only at h2 h3 ha ⊢;rcases KG.2.2.2 with e|e|e
   all_goals
    rw[e]at hx p0 p3;simp only[en0,bQ]at h2 h3 ha ⊢;simp only[Lr,Ag,sA,seval,kn,tN,hlt,h1,uU,hl5,t5,hx,p0,p3,s0,s1,s2,VB,VC,VE,d8,w8,t3,d24,yz,t25,w25,t2,q,p,b11,b21,b22,wj,wd,h2,h3,ha,wk,rA]
end
section
variable{C:eV}{n:Nat}{O:Store}
theorem zh1b(d:D)(ns:List Tx)(deep N0:Nat)(al:List (Hd×Co))(j:Nat):exec C n none Lr (Ag d ns deep N0 al j (N0%4)) O=some (.exit 0,{Ag d ns deep N0 al j (N0%4)with slots:=[(0,⟨false,d⟩),(1,⟨false,.int .i64 j⟩),(2,⟨false,dG ns⟩),(3,⟨false,.int .i64 (deep+1:Nat)⟩),(10,⟨false,.int .i64 N0⟩),(11,⟨false,gJ FL⟩),(12,⟨ow (N0%4),pV al⟩),(13,⟨false,.int .i64 (N0%4:Nat)⟩),(28,⟨false,.bool false⟩)]},O):=by
 have tN:((N0:Int)).tmod 4=((N0%4:Nat):Int):=rP N0 4;have hlt:¬(((N0%4:Nat):Int)<((N0%4:Nat):Int)):=by omega
 simp only[Lr,Ag,sA,seval,kn,tN,hlt]
end
theorem zyy(l:List (Hd×Co)):iF (pV l)=true:=by rw[pV,Dz];exact wX zex l
def uy(ns:List Tx)(deep:Nat)(al:List (Hd×Co)):Prop:=∀a∈al,Lm a.1/\a.1.name.length<=5/\(∀s∈a.1.vars,Nv s)/\Good (ns++a.1.vars) a.2/\pD a.2/\kO a.2<=deep+1
def qy(ns:List Tx)(deep i:Nat)(al:List (Hd×Co))(j:Nat):Prop:=uy ns deep al/\gP al<=3*(sS deep+3)/\j<=i+1+3*(1+nW deep)
def Yw(d:D)(xs:List Int)(deep:Nat):fC:=[(wO,PM d xs),(Aa,y7),(mJ,FB),(qF,UU d deep)]
theorem MN{d:D}{xs:List Int}(hR:IR d xs){deep:Nat}(hT:Qm d deep)(hd:deep<1000)(i:Nat)(ns:List Tx)(h0:ns≠[])(hl:ns.length+2*(deep+1)<=100)(h5:∀s∈ns,Nv s)(hi:i+1+3*(1+nW deep)<=1000000) :
  ∃al j,eW II [d,.int .i64 i,dG ns,.int .i64 (deep+1:Nat)] ⟨false,.fN [pV al,.int .i64 (j:Nat)]⟩/\qy ns deep i al j:=by
 have hp:=Gp (S:=Yw d xs deep) rfl hR i (by omega) 0 cH;have hF:=WL (S:=Yw d xs deep) rfl 0 cH;have hv:=Oy hR.small i;generalize lJ xs i=N0 at hp hv;have hN4:N0%4<4:=Nat.mod_lt _ (by decide)
 obtain⟨r,hr,al,j,rfl,q1,q2,q3,q4⟩:=Vu (body:=exec (T (Yw d xs deep) 1) 5 none Lr)
  (fun k e O=>O=cH/\∃al j,e=Ag d ns deep N0 al j k/\uy ns deep al/\al.length=k/\gP al<=k*(sS deep+3)/\j<=i+1+k*(1+nW deep))
  (fun r=>∃al j,r=(.exit 0,{Ag d ns deep N0 al j (N0%4)with slots:=[(0,⟨false,d⟩),(1,⟨false,.int .i64 j⟩),(2,⟨false,dG ns⟩),(3,⟨false,.int .i64 (deep+1:Nat)⟩),(10,⟨false,.int .i64 N0⟩),(11,⟨false,gJ FL⟩),(12,⟨ow (N0%4),pV al⟩),(13,⟨false,.int .i64 (N0%4:Nat)⟩),(28,⟨false,.bool false⟩)]},cH)/\uy ns deep al/\al.length=N0%4/\gP al<=(N0%4)*(sS deep+3)/\j<=i+1+(N0%4)*(1+nW deep)) (N0%4)
  (fun k e O hk ⟨hO,al,j,he,p1,p2,p3,p4⟩=>by
   subst hO he;have xw:(k+1)*(1+nW deep)<=3*(1+nW deep):=Nat.mul_le_mul_right _ (by omega);rw[Nat.succ_mul]at xw;have h1:=Gp (S:=Yw d xs deep) rfl hR j (by omega) 0 cH;have hv1:=Oy hR.small j;generalize lJ xs j=v at h1 hv1;obtain⟨g1,g2,g3,g4⟩:=za9b v;have h2:=zug (S:=Yw d xs deep) rfl ns (xO v).vars (by omega) 0 cH
   obtain⟨c,j',⟨t1,t2,t3,t4,t5⟩,h3⟩:=Jw (S:=Yw d xs deep) rfl hT (j+1) (ns++(xO v).vars) ⟨by simp[h0],by rw[aF];omega,fun s hs=>by
    rcases bJ.1 hs with h|h
    ·exact h5 s h
    ·exact g3 s h,by omega⟩
   refine⟨_,_,zebb d ns deep N0 al j k v j' c hk hv hv1 (by omega) hd (by omega) (fun h=>?_) h1 h2 (h3 0 cH),rfl,_,_,rfl,fun a ha=>?_,by simp;omega,?_,?_⟩
   ·cases k with
    |zero=>exact absurd (aR.1 p2) h
    |succ k=>rfl
   ·rcases bJ.1 ha with h|h
    ·exact p1 a h
    ·rw[bP.1 h];exact⟨g1,g2,g3,t1,t2,t4⟩
   ·rw[MJ,Nat.succ_mul];simp only[gP];omega
   ·rw[Nat.succ_mul];omega)
  (fun e O ⟨hO,al,j,he,p1,p2,p3,p4⟩=>by
   subst hO he;exact⟨_,zh1b d ns deep N0 al j,fun _ _ h=>(by cases h),al,j,rfl,p1,p2,p3,p4⟩) 0 5 (Ag d ns deep N0 [] (i+1) 0) cH (by omega) (by omega)
  ⟨rfl,_,_,rfl,(fun a h=>by cases h),rfl,by simp[gP],by omega⟩
 have hm1:(N0%4)*(sS deep+3)<=3*(sS deep+3):=Nat.mul_le_mul_right _ (by omega);have hm2:(N0%4)*(1+nW deep)<=3*(1+nW deep):=Nat.mul_le_mul_right _ (by omega);refine⟨al,j,jH (af:=RF) (n:=5) (O':=cH) (jG (Yw d xs deep) 1) rfl rfl (by simp[fO,hR.np,iF,jY]) (by simp[iF,fO,zyy]) ?_,q1,by omega,by omega⟩;have wi:=iE (i:=i) (by omega);have e0:ow 0=false:=rfl;have e1:pV []=.dN:=rfl;simp only[Ag,iG,e0,e1]at hr;simp only[RF,sA,seval,kn,hp,hF,wi,hr]
def zk7:List D->Cell->Prop:=fun ds c=>∀(v:Nat) ns,ds=[.int .i64 v,dG ns]->∃co,c=⟨false,dM co⟩/\Good ns co/\pD co/\co.size=1/\kO co=1
theorem zd3b{S:fC}(hS:dC S V5=some zk7)(v:Nat)(hv:v<9223372036854775808)(ns:List Tx)(h0:ns≠[])(hn:ns.length<1000)(h5:∀s∈ns,Nv s):∃co,(Good ns co/\pD co/\co.size=1/\kO co=1)/\∀n O,T S (n+1) V5 [.int .i64 v,dG ns] O=some (.ret ⟨false,dM co⟩,O):=by
 obtain⟨co,h1,h2⟩:=zfjb v hv ns h0 hn h5
 obtain⟨c,h3,h4⟩:=lD (S:=S) hS rfl (c:=⟨false,dM co⟩) (fun v' ns' e=>by
  simp only[aL,D.int.injEq,true_and,and_true]at e;obtain rfl:=lN e.2;exact⟨co,rfl,h2⟩) h1
 obtain⟨JX,rfl,h5⟩:=h3 v ns rfl;exact⟨JX,h5,h4⟩
def zk2(d:D)(deep:Nat):List D->Cell->Prop:=fun ds c=>∀(i:Nat) ns,ds=[d,.int .i64 i,dG ns,.int .i64 (deep+1:Nat)]->∃al j,c=⟨false,.fN [pV al,.int .i64 (j:Nat)]⟩/\qy ns deep i al j
theorem zd1b{S:fC}{d:D}{xs:List Int}{deep:Nat}(hS:dC S II=some (zk2 d deep))(hR:IR d xs)(hT:Qm d deep)(hd:deep<1000)(i:Nat)(ns:List Tx)(h0:ns≠[])(hl:ns.length+2*(deep+1)<=100)(h5:∀s∈ns,Nv s)(hi:i+1+3*(1+nW deep)<=1000000) :
  ∃al j,qy ns deep i al j/\∀n O,T S (n+1) II [d,.int .i64 i,dG ns,.int .i64 (deep+1:Nat)] O=some (.ret ⟨false,.fN [pV al,.int .i64 (j:Nat)]⟩,O):=by
 obtain⟨al,j,h1,h2⟩:=MN hR hT hd i ns h0 hl h5 hi
 obtain⟨c,h3,h4⟩:=lD (S:=S) hS rfl (c:=⟨false,.fN [pV al,.int .i64 (j:Nat)]⟩) (fun i' ns' e=>by
  simp only[aL,D.int.injEq,true_and,and_true]at e;obtain rfl:i=i':=by omega
  obtain rfl:=lN e.2;exact⟨al,j,rfl,h2⟩) h1
 obtain⟨al',j',rfl,h5⟩:=h3 i ns rfl;exact⟨al',j',h5,h4⟩
def sP(d:D)(xs:List Int)(deep:Nat):fC:=[(wO,PM d xs),(V5,zk7),(mJ,FB),(qF,UU d deep),(II,zk2 d deep)]
theorem zgvb:∀d,1<=sS d
 |0=>by simp[sS]
 |d+1=>by simp only[sS];omega
theorem zgub:∀d,1<=nW d
 |0=>by simp[nW]
 |d+1=>by simp only[nW];omega
theorem zhe{d:D}{xs:List Int}(hR:IR d xs)(deep i:Nat)(ns:List Tx)(hp:PT ns deep i)(hc:deep=0\/lJ xs i%8<2)(hd:deep<1000) :
  ∃co j,eW qF [d,.int .i64 i,dG ns,.int .i64 deep] ⟨false,.fN [dM co,.int .i64 (j:Nat)]⟩/\Ln ns deep i co j:=by
 obtain⟨h0,hl,h5,hi⟩:=hp;have h1:=Gp (S:=sP d xs 0) rfl hR i (by omega) 0 cH;have hv:=Oy hR.small i;generalize lJ xs i=v at h1 hv hc;obtain⟨co,⟨g1,g2,g3,g4⟩,h2⟩:=zd3b (S:=sP d xs 0) rfl (v / 8) (by omega) ns h0 (by omega) h5;have h2:=h2 0 cH;have d8:((v:Int)).tdiv 8=((v / 8:Nat):Int):=X3 v 8;have w8:IntKind.i64.wrap ((v / 8:Nat):Int)=((v / 8:Nat):Int):=lV (by omega) (by omega);have t8:((v:Int)).tmod 8=((v%8:Nat):Int):=rP v 8;have wi:=iE (i:=i) (by omega);have hN:=zgub deep;have hT:=zgvb deep;refine⟨co,i+1,jH (af:=xZ) (n:=1) (O':=cH) (jG (sP d xs 0) 1) rfl rfl (by simp[fO,hR.np,iF,jY]) (by simp[iF,fO,mL]) ?_,g1,g2,by omega,by omega,by omega⟩;simp only[eO,eX]at h2 ⊢;by_cases hd0:deep=0
 ·subst hd0;have hle:(((0:Nat):Int)<=0):=by omega
  simp only[xZ,sA,seval,kn,h1,wi,hle,d8,w8,h2]
 ·have hle:¬((deep:Int)<=0):=by omega
  have hlt:(((v%8:Nat):Int)<2):=by omega
  simp only[xZ,sA,seval,kn,h1,wi,hle,t8,hlt,d8,w8,h2]
set_option maxHeartbeats 4000000
theorem zhs{m:Nat}:∀l:List (Tx×Co),(∀x∈l,kO x.2<=m)->Dy l<=m
 |[],_=>by simp[Dy]
 |(s,y)::r,h=>by
  have h1:=h (s,y) (by simp);have h2:=zhs r fun x hx=>h x (aI _ hx);simp only[Dy]at h1 ⊢;omega
theorem zhr{m:Nat}:∀l:List (Hd×Co),(∀x∈l,kO x.2<=m)->Dx l<=m
 |[],_=>by simp[Dx]
 |(s,y)::r,h=>by
  have h1:=h (s,y) (by simp);have h2:=zhr r fun x hx=>h x (aI _ hx);simp only[Dx]at h1 ⊢;omega
theorem CJ{D:Nat}(h:D<1000):IntKind.i64.wrap (((D+1:Nat):Int)-1)=(D:Int):=by rw[lV (by omega) (by omega)];omega
theorem JA{d:D}{xs:List Int}(hR:IR d xs){D i j:Nat}{ns:List Tx}{co:Co}{o:Bool}(hr:nA Ra (fun _ _ _=>none) xZ 0 (exec (T (sP d xs D) 1) 5 none xZ.body (mX [d,.int .i64 i,dG ns,.int .i64 (D+1:Nat)]) cH)=some (.ret ⟨o,.fN [dM co,.int .i64 j]⟩,cH)) :
  eW qF [d,.int .i64 i,dG ns,.int .i64 (D+1:Nat)] ⟨false,.fN [dM co,.int .i64 (j:Nat)]⟩ :=
 eW.weak (o:=o) rfl (jH (af:=xZ) (n:=5) (O':=cH) (jG (sP d xs D) 1) rfl rfl (by simp[fO,hR.np,iF,jY]) (by simp[iF,fO,mL]) hr)
theorem zgyb{d:D}{xs:List Int}(hR:IR d xs)(D i:Nat)(ns:List Tx)(hp:PT ns (D+1) i)(hc:lJ xs i%8=5)(hd:D<1000) :
  ∃co j,eW qF [d,.int .i64 i,dG ns,.int .i64 (D+1:Nat)] ⟨false,.fN [dM co,.int .i64 (j:Nat)]⟩/\Ln ns (D+1) i co j:=by
 obtain⟨h0,hl,h5,hi⟩:=hp;have h1:=Gp (S:=sP d xs D) rfl hR i (by omega) 0 cH;have hv:=Oy hR.small i;generalize lJ xs i=v at h1 hv hc;have t8:((v:Int)).tmod 8=5:=by rw[show((v:Int)).tmod 8=((v%8:Nat):Int)from rP v 8,hc];rfl
 have wi:=iE (i:=i) (by omega);have hle:¬(((D+1:Nat):Int)<=0):=by omega
 refine⟨.mk 11 0 [] [] [] [],i+1,JA hR (o:=false) ?_,.fail,.leaf (.inr (.inr (.inr rfl))) zS (by simp) (fun h=>absurd h (by decide)),by simp only[Co.size,fV,gG,gP,sS];omega,by simp[kO,Jh,Dy,Dx],by simp only[nW];omega⟩;simp only[xZ,sA,seval,kn,h1,wi,hle,t8,eO,eX,co];rfl
theorem zj1b{d:D}{xs:List Int}(hR:IR d xs)(D i:Nat)(hT:Qm d D)(ns:List Tx)(hp:PT ns (D+1) i)(hc:lJ xs i%8=6\/lJ xs i%8=7)(hd:D<1000) :
  ∃co j,eW qF [d,.int .i64 i,dG ns,.int .i64 (D+1:Nat)] ⟨false,.fN [dM co,.int .i64 (j:Nat)]⟩/\Ln ns (D+1) i co j:=by
 obtain⟨h0,hl,h5,hi⟩:=hp;simp only[nW]at hi;have h1:=Gp (S:=sP d xs D) rfl hR i (by omega) 0 cH;have hv:=Oy hR.small i;generalize lJ xs i=v at h1 hv hc;have wi:=iE (i:=i) (by omega);have wd:=CJ hd;have hle:¬(((D+1:Nat):Int)<=0):=by omega
 obtain⟨a,j1,⟨a1,a2,a3,a4,a5⟩,h2⟩:=Jw (S:=sP d xs D) rfl hT (i+1) ns ⟨h0,by omega,h5,by omega⟩;obtain⟨b,j2,⟨b1,b2,b3,b4,b5⟩,h3⟩:=Jw (S:=sP d xs D) rfl hT j1 ns ⟨h0,by omega,h5,by omega⟩;have h2:=h2 0 cH;have h3:=h3 0 cH;have hsz:(Co.mk 4 0 [] [a,b] [] []).size=1+a.size+b.size:=by simp only[Co.size,fV,gG,gP];omega
 refine⟨.mk 4 0 [] [a,b] [] [],j2,JA hR (o:=false) ?_,.app a1 b1,.app (by simp) a2 b2,by rw[hsz];simp only[sS];omega,by simp only[kO,Jh,Dy,Dx];omega,by simp only[nW];omega⟩;have eC:iI [a,b]=.list gV [dM a,dM b]:=rfl;rcases hc with hc|hc
 ·have t8:((v:Int)).tmod 8=6:=by rw[show((v:Int)).tmod 8=((v%8:Nat):Int)from rP v 8,hc];rfl
  rw[eO (.mk 4 0 [] [a,b] [] []),eX];simp only[co,eC];simp only[eO,eX]at h2 h3 ⊢;simp only[xZ,sA,seval,kn,h1,wi,wd,hle,t8,h2,h3];rfl
 ·have t8:((v:Int)).tmod 8=7:=by rw[show((v:Int)).tmod 8=((v%8:Nat):Int)from rP v 8,hc];rfl
  rw[eO (.mk 4 0 [] [a,b] [] []),eX];simp only[co,eC];simp only[eO,eX]at h2 h3 ⊢;simp only[xZ,sA,seval,kn,h1,wi,wd,hle,t8,h2,h3];rfl
def UL:List Tx:=[[97,100,100],[115,117,98],[109,117,108],[100,105,118],[101,113],[108,116]]
theorem zdwb:∀s∈UL,(rF s==[])=false/\s.length<=5:=by decide
theorem zgzb{d:D}{xs:List Int}(hR:IR d xs)(D i:Nat)(hT:Qm d D)(ns:List Tx)(hp:PT ns (D+1) i)(hc:lJ xs i%8=3)(hd:D<1000) :
  ∃co j,eW qF [d,.int .i64 i,dG ns,.int .i64 (D+1:Nat)] ⟨false,.fN [dM co,.int .i64 (j:Nat)]⟩/\Ln ns (D+1) i co j:=by
 obtain⟨h0,hl,h5,hi⟩:=hp;simp only[nW]at hi;have h1:=Gp (S:=sP d xs D) rfl hR i (by omega) 0 cH;have hv:=Oy hR.small i;generalize lJ xs i=v at h1 hv hc;have wi:=iE (i:=i) (by omega);have wd:=CJ hd;have hle:¬(((D+1:Nat):Int)<=0):=by omega
 obtain⟨a,j1,⟨a1,a2,a3,a4,a5⟩,h2⟩:=Jw (S:=sP d xs D) rfl hT (i+1) ns ⟨h0,by omega,h5,by omega⟩;obtain⟨b,j2,⟨b1,b2,b3,b4,b5⟩,h3⟩:=Jw (S:=sP d xs D) rfl hT j1 ns ⟨h0,by omega,h5,by omega⟩;have h2:=h2 0 cH;have h3:=h3 0 cH;have d8:((v:Int)).tdiv 8=((v / 8:Nat):Int):=X3 v 8;have w8:IntKind.i64.wrap ((v / 8:Nat):Int)=((v / 8:Nat):Int):=lV (by omega) (by omega);have t6:(((v / 8:Nat):Int)).tmod 6=((v / 8%6:Nat):Int):=rP _ 6;have hj:v / 8%6<UL.length:=Nat.mod_lt _ (by decide);have hx:=sZ UL _ hj;have hs:=zdwb _ (aX hj);generalize UL[v / 8%6]=s at hx hs;have hx:kU 1 (.list dY [.str [97,100,100],.str [115,117,98],.str [109,117,108],.str [100,105,118],.str [101,113],.str [108,116]]) (v / 8%6)=some (.gC (.str s)):=hx;have hsz:(Co.mk 10 0 s [a,b] [] []).size=1+a.size+b.size:=by simp only[Co.size,fV,gG,gP];omega
 refine⟨.mk 10 0 s [a,b] [] [],j2,JA hR (o:=false) ?_,.rH hs.1 a1 b1,.rH hs.2 a2 b2,by rw[hsz];simp only[sS];omega,by simp only[kO,Jh,Dy,Dx];omega,by simp only[nW];omega⟩;have eC:iI [a,b]=.list gV [dM a,dM b]:=rfl;have t8:((v:Int)).tmod 8=3:=by rw[show((v:Int)).tmod 8=((v%8:Nat):Int)from rP v 8,hc];rfl
 rw[eO (.mk 10 0 s [a,b] [] []),eX];simp only[co,eC];simp only[eO,eX]at h2 h3 ⊢;simp only[xZ,sA,seval,kn,h1,wi,wd,hle,t8,h2,h3,d8,w8,t6,hx];rfl
theorem zgxb{d:D}{xs:List Int}(hR:IR d xs)(D i:Nat)(hT:Qm d D)(ns:List Tx)(hp:PT ns (D+1) i)(hc:lJ xs i%8=2)(hd:D<1000) :
  ∃co j,eW qF [d,.int .i64 i,dG ns,.int .i64 (D+1:Nat)] ⟨false,.fN [dM co,.int .i64 (j:Nat)]⟩/\Ln ns (D+1) i co j:=by
 obtain⟨h0,hl,h5,hi⟩:=hp;simp only[nW]at hi;have h1:=Gp (S:=sP d xs D) rfl hR i (by omega) 0 cH;have hv:=Oy hR.small i;generalize lJ xs i=v at h1 hv hc;have wi:=iE (i:=i) (by omega);have wd:=CJ hd;have hle:¬(((D+1:Nat):Int)<=0):=by omega
 obtain⟨a,j1,⟨a1,a2,a3,a4,a5⟩,h2⟩:=Jw (S:=sP d xs D) rfl hT (i+1) ns ⟨h0,by omega,h5,by omega⟩;obtain⟨al,j2,⟨b1,b2,b3⟩,h3⟩:=zd1b (S:=sP d xs D) rfl hR hT hd j1 ns h0 hl h5 (by omega);have h2:=h2 0 cH;have h3:=h3 0 cH;have hsz:(Co.mk 9 0 [] [a] [] al).size=1+a.size+gP al:=by simp only[Co.size,fV,gG];omega
 have hh:=zhr al fun x hx=>(b1 x hx).2.2.2.2.2;refine⟨.mk 9 0 [] [a] [] al,j2,JA hR (o:=false) ?_,.qX a1 (fun x hx=>(b1 x hx).1) (fun x hx=>(b1 x hx).2.2.2.1),.qX (by simp) (fun x hx=>(b1 x hx).1) (fun x hx=>⟨(b1 x hx).1.1,(b1 x hx).2.1,(b1 x hx).2.2.1⟩) a2 (fun x hx=>(b1 x hx).2.2.2.2.1),by rw[hsz];simp only[sS];omega,by simp only[kO,Jh,Dy];omega,by simp only[nW];omega⟩;have eC:iI [a]=.list gV [dM a]:=rfl;have t8:((v:Int)).tmod 8=2:=by rw[show((v:Int)).tmod 8=((v%8:Nat):Int)from rP v 8,hc];rfl
 rw[eO (.mk 9 0 [] [a] [] al),eX];simp only[co,eC];simp only[eO,eX]at h2 h3 ⊢;simp only[xZ,sA,seval,kn,h1,wi,wd,hle,t8,h2,h3,Aw,zJ];rfl
def iL:List Tx:=[[97],[98]]
theorem zb6(r:Nat)(h:r<3):xJ 1 (.list dY [.str [97],.str [98]]) 0 (some r)=some (lS (iL.take r)):=by
 have:r=0\/r=1\/r=2:=by omega
 rcases this with rfl|rfl|rfl<;>rfl
theorem zy6(r:Nat)(h:r<3):iQ (iL.take r)=false:=by
 have:r=0\/r=1\/r=2:=by omega
 rcases this with rfl|rfl|rfl<;>decide
section
variable{C:eV}{n:Nat}{O:Store}
def rz(o:Bool)(bs:List (Tx×Co)):List Cell:=[⟨false,.int .i64 8⟩,⟨false,.int .i64 0⟩,⟨false,.str []⟩,⟨false,.int .i64 0⟩,⟨false,.int .i64 0⟩,⟨false,.str []⟩,⟨false,.dN⟩,⟨false,.dN⟩,⟨o,lZ bs⟩,⟨false,.dN⟩]
def Iw(d:D)(ns:List Tx)(D r:Nat)(bs:List (Tx×Co))(j k:Nat):Env:={slots:=[(0,⟨false,d⟩),(1,⟨false,.int .i64 j⟩),(2,⟨false,dG ns⟩),(3,⟨false,.int .i64 (D+1:Nat)⟩),(20,⟨true,.list dY [.str [97],.str [98]]⟩),(21,⟨false,.int .i64 r⟩),(23,⟨false,.int .i64 k⟩)],dR:=[(8,8,0),(22,22,0)],boxes:=[(8,Ax),(22,rz (ow k) bs)],defers:=[]}
theorem zfmb(d:D)(ns:List Tx)(D r:Nat)(bs:List (Tx×Co))(j k j':Nat)(c:Co)(hk:k<r)(hr:r<3)(hd:D<1000)(hb:bs.length<100)(hne:bs≠[]->ow k=true)
  (h1:C mJ [dG ns,lS (iL.take r)] O=some (.ret ⟨false,dG (ns++iL.take r)⟩,O))
  (h2:C qF [d,.int .i64 j,dG (ns++iL.take r),.int .i64 D] O=some (.ret ⟨false,.fN [dM c,.int .i64 j']⟩,O)) :
  exec C n none M7 (Iw d ns D r bs j k) O=some (.normal,Iw d ns D r (bs++[(iL.getD k [],c)]) j' (k+1),O):=by
 have hlt:((k:Int)<(r:Int)):=by omega
 have wd:=CJ hd;have wk:=iE (i:=k) (by omega);have hs:=zb6 r hr;have ho:k<iL.length:=by simp[iL];omega
 have hx:=sZ iL k ho;rw[<-iU iL k [] ho]at hx;have ha:=zju bs (iL.getD k [],c) (ow k) hne (by omega);rw[zK]at ha;generalize iL.getD k []=s at hx ha;have hx:kU 1 (.list dY [.str [97],.str [98]]) k=some (.gC (.str s)):=hx;simp only[eO,eX]at h2 ha;simp only[M7,Iw,rz,Ax,sA,seval,kn,hlt,hs,h1,wd,h2,hx,ha,wk,Tt,Aw,zJ,rA]
theorem zi1b(d:D)(ns:List Tx)(D r:Nat)(bs:List (Tx×Co))(j:Nat):exec C n none M7 (Iw d ns D r bs j r) O=some (.exit 1,{Iw d ns D r bs j r with slots:=[(0,⟨false,d⟩),(1,⟨false,.int .i64 j⟩),(2,⟨false,dG ns⟩),(3,⟨false,.int .i64 (D+1:Nat)⟩),(20,⟨true,.list dY [.str [97],.str [98]]⟩),(21,⟨false,.int .i64 r⟩),(23,⟨false,.int .i64 r⟩),(116,⟨false,.bool false⟩)]},O):=by
 have hlt:¬((r:Int)<(r:Int)):=by omega
 simp only[M7,Iw,sA,seval,kn,hlt]
end
theorem zj2b{d:D}{xs:List Int}(hR:IR d xs)(D i:Nat)(hT:Qm d D)(ns:List Tx)(hp:PT ns (D+1) i)(hc:lJ xs i%8=4)(hd:D<1000) :
  ∃co j,eW qF [d,.int .i64 i,dG ns,.int .i64 (D+1:Nat)] ⟨false,.fN [dM co,.int .i64 (j:Nat)]⟩/\Ln ns (D+1) i co j:=by
 obtain⟨h0,hl,h5,hi⟩:=hp;simp only[nW]at hi;have h1:=Gp (S:=sP d xs D) rfl hR i (by omega) 0 cH;have hv:=Oy hR.small i;generalize lJ xs i=v at h1 hv hc;have wi:=iE (i:=i) (by omega);have wd:=CJ hd;have hle:¬(((D+1:Nat):Int)<=0):=by omega
 have d8:((v:Int)).tdiv 8=((v / 8:Nat):Int):=X3 v 8;have w8:IntKind.i64.wrap ((v / 8:Nat):Int)=((v / 8:Nat):Int):=lV (by omega) (by omega);have t3:(((v / 8:Nat):Int)).tmod 3=((v / 8%3:Nat):Int):=rP _ 3;have hr3:v / 8%3<3:=Nat.mod_lt _ (by decide);have t8:((v:Int)).tmod 8=4:=by rw[show((v:Int)).tmod 8=((v%8:Nat):Int)from rP v 8,hc];rfl
 generalize v / 8%3=r at t3 hr3;have hol:(iL.take r).length<=2:=by simp[iL];omega
 have hb:=zbo (S:=sP d xs D) rfl ns (iL.take r) (by omega) 0 cH;have VN:∀s∈ns++iL.take r,Nv s:=fun s hs=>by
  rcases bJ.1 hs with h|h
  ·exact h5 s h
  ·have:=bH h;simp only[iL,aS,aK,or_false]at this;rcases this with rfl|rfl<;>rfl
 have hn0:ns++iL.take r≠[]:=by simp[h0]
 have hnl:(ns++iL.take r).length+2*D<=100:=by rw[aF];omega
 obtain⟨res,hr,bs,j,rfl,q1,q2,q3,q4⟩:=Vu (body:=exec (T (sP d xs D) 1) 5 none M7)
  (fun k e O=>O=cH/\∃bs j,e=Iw d ns D r bs j k/\bs.map Prod.fst=iL.take k/\(∀p∈bs,Good (ns++iL.take r) p.2/\pD p.2/\kO p.2<=D+1)/\gG bs<=k*(sS D+1)/\j<=i+1+k*nW D)
  (fun res=>∃bs j,res=(.exit 1,{Iw d ns D r bs j r with slots:=[(0,⟨false,d⟩),(1,⟨false,.int .i64 j⟩),(2,⟨false,dG ns⟩),(3,⟨false,.int .i64 (D+1:Nat)⟩),(20,⟨true,.list dY [.str [97],.str [98]]⟩),(21,⟨false,.int .i64 r⟩),(23,⟨false,.int .i64 r⟩),(116,⟨false,.bool false⟩)]},cH)/\bs.map Prod.fst=iL.take r/\(∀p∈bs,Good (ns++iL.take r) p.2/\pD p.2/\kO p.2<=D+1)/\gG bs<=r*(sS D+1)/\j<=i+1+r*nW D) r
  (fun k e O hk ⟨hO,bs,j,he,p1,p2,p3,p4⟩=>by
   subst hO he;have xw:(k+1)*nW D<=2*nW D:=Nat.mul_le_mul_right _ (by omega);rw[Nat.succ_mul]at xw;obtain⟨c,j',⟨a1,a2,a3,a4,a5⟩,h2⟩:=Jw (S:=sP d xs D) rfl hT j (ns++iL.take r) ⟨hn0,hnl,VN,by omega⟩;have hlb:bs.length=(iL.take k).length:=by rw[<-p1,aJ]
   have hlk:(iL.take k).length<=2:=by simp[iL];omega
   have hko:k<iL.length:=by simp[iL];omega
   refine⟨_,_,zfmb d ns D r bs j k j' c hk hr3 hd (by omega) (fun h=>?_) hb (h2 0 cH),rfl,_,_,rfl,?_,fun p hp=>?_,?_,?_⟩
   ·cases k with
    |zero=>exact absurd (aR.1 (by rw[hlb];rfl)) h
    |succ k=>rfl
   ·rw[aU,p1,<-mC iL k hko,<-iU iL k [] hko];rfl
   ·rcases bJ.1 hp with h|h
    ·exact p2 p h
    ·rw[bP.1 h];exact⟨a1,a2,a4⟩
   ·rw[MK,Nat.succ_mul];simp only[gG];omega
   ·rw[Nat.succ_mul];omega)
  (fun e O ⟨hO,bs,j,he,p1,p2,p3,p4⟩=>by
   subst hO he;exact⟨_,zi1b d ns D r bs j,fun _ _ h=>(by cases h),bs,j,rfl,p1,p2,p3,p4⟩) 0 5 (Iw d ns D r [] (i+1) 0) cH (by omega) (by omega)
  ⟨rfl,_,_,rfl,rfl,(fun a h=>by cases h),by simp[gG],by omega⟩
 have hm1:r*(sS D+1)<=2*(sS D+1):=Nat.mul_le_mul_right _ (by omega);have hm2:r*nW D<=2*nW D:=Nat.mul_le_mul_right _ (by omega);obtain⟨b,j2,⟨b1,b2,b3,b4,b5⟩,h3⟩:=Jw (S:=sP d xs D) rfl hT j (ns++iL.take r) ⟨hn0,hnl,VN,by omega⟩;have h3:=h3 0 cH;have hsz:(Co.mk 8 0 [] [b] bs []).size=1+b.size+gG bs:=by simp only[Co.size,fV,gP];omega
 have hh:=zhs bs fun x hx=>(q2 x hx).2.2;refine⟨.mk 8 0 [] [b] bs [],j2,JA hR (o:=false) ?_,.lt (by rw[q1];exact zy6 r hr3) (fun p hp=>by rw[q1];exact(q2 p hp).1) (by rw[q1];exact b1),.lt (by simp) (fun p hp=>?_) (fun p hp=>(q2 p hp).2.1) b2,by rw[hsz];simp only[sS];omega,by simp only[kO,Jh,Dx];omega,by simp only[nW];omega⟩
 ·have eC:iI [b]=.list gV [dM b]:=rfl;rw[eO (.mk 8 0 [] [b] bs []),eX];simp only[co,eC];have e0:ow 0=false:=rfl;have e1:lZ []=.dN:=rfl;have hs:=zb6 r hr3;simp only[Iw,rz,Ax,iG,e0,e1]at hr;simp only[eO,eX]at h3 ⊢;simp only[xZ,sA,seval,kn,h1,wi,wd,hle,t8,d8,w8,t3,hr,hs,hb,h3];rfl
 ·have:p.1∈iL.take r:=by rw[<-q1];exact List.mem_map_of_mem hp
  exact VN _ (bJ.2 (.inr this))
end Go.Fu

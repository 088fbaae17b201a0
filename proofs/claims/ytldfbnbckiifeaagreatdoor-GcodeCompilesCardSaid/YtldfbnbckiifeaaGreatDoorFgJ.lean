/- A part of the proof. -/
import Derived.Test.YtldfbnbckiifeaaGreatDoorFgT
set_option maxHeartbeats 4000000
set_option linter.all false
namespace Go.Fu
open Go Go.Mx
set_option maxRecDepth 10000
theorem MB{body:Env->Store->oC}(E:Nat->Env)(O:Store)(k:Nat)(q:Nat->Bool){stop r:rO×Env×Store}(hr:∀e O,r≠(.normal,e,O))(hs:∀e O,stop≠(.normal,e,O))
  (hstep:∀i,i<k->q i=false->body (E i) O=some (.normal,E (i+1),O)) (hstop:∀i,i<k->q i=true->body (E i) O=some stop) (hend:body (E k) O=some r) (n:Nat) (hn:k<n):jI body n (E 0) O=some (dK ((List.range k).any q) stop r):=by
 rcases BC (body:=body) E (fun _=>O) k (fun i=>!q i) (r:=r) (fun _=>stop) hr (fun _=>hs) (fun i hi hq=>hstep i hi (by simpa using hq)) (fun i hi hq=>hstop i hi (by simpa using hq)) hend n 0 (Nat.zero_le _) (by omega)with⟨i,_,hi,hq,_,h⟩|⟨hq,h⟩
 ·have:(List.range k).any q=true:=List.any_eq_true.2 ⟨i,List.mem_range.2 hi,by simpa using hq⟩;rw[h,this];rfl
 ·have:(List.range k).any q=false:=(by rw[List.any_eq_false];intro i hi;have:=hq i (Nat.zero_le _) (List.mem_range.1 hi);simpa using this);rw[h,this];rfl
theorem iU{α:Type}(l:List α)(i:Nat)(d:α)(h:i<l.length):l.getD i d=l[i]:=by simp[List.getD_eq_getElem?_getD,List.getElem?_eq_getElem h]
theorem zcp{α:Type}(l:List α)(d:α)(q:α->Bool):((List.range l.length).any fun i=>q (l.getD i d))=l.any q:=by
 rw[Bool.eq_iff_iff,List.any_eq_true,List.any_eq_true];constructor
 ·rintro⟨i,hi,h⟩;have hi:=List.mem_range.1 hi;rw[iU _ _ _ hi]at h;exact⟨_,aX hi,h⟩
 ·rintro⟨x,hx,h⟩;obtain⟨i,hi,rfl⟩:=List.getElem_of_mem hx;exact⟨i,List.mem_range.2 hi,by rw[iU _ _ _ hi];exact h⟩
section
variable{C:eV}{n:Nat}{O:Store}
def Ir(l:List Tx)(s:Tx)(i:Nat):Env:={slots:=[(0,⟨false,dG l⟩),(1,⟨false,.str s⟩),(5,⟨false,.int .i64 i⟩)],dR:=[],boxes:=[],defers:=[]}
theorem ze5b(l:List Tx)(s:Tx)(i:Nat)(h:i<l.length)(hl:l.length<1000000000)(hq:(l.getD i []==s)=false):exec C n none Sl (Ir l s i) O=some (.normal,Ir l s (i+1),O):=by
 rw[iU _ _ _ h]at hq;have hi:((i:Int)<(l.length:Int)):=by omega
 simp only[Sl,Ir,sA,seval,kn,lE,hi,sZ l i h,hq,iE (i:=i) (by omega)]
theorem ze6b(l:List Tx)(s:Tx)(i:Nat)(h:i<l.length)(hq:(l.getD i []==s)=true):exec C n none Sl (Ir l s i) O=some (.ret,{slots:=[(4,⟨false,.bool true⟩)],dR:=[],boxes:=[],defers:=[]},O):=by
 rw[iU _ _ _ h]at hq;have hi:((i:Int)<(l.length:Int)):=by omega
 simp only[Sl,Ir,sA,seval,kn,lE,hi,sZ l i h,hq]
theorem zisb(l:List Tx)(s:Tx):exec C n none Sl (Ir l s l.length) O=some (.exit 0,{Ir l s l.length with slots:=[(0,⟨false,dG l⟩),(1,⟨false,.str s⟩),(5,⟨false,.int .i64 l.length⟩),(9,⟨false,.bool false⟩)]},O):=by
 have hi:¬((l.length:Int)<(l.length:Int)):=by omega
 simp only[Sl,Ir,sA,seval,kn,lE,hi]
end
theorem ze4b(l:List Tx)(s:Tx)(hl:l.length<1000000000):eW Im [dG l,.str s] ⟨false,.bool (l.any (·==s))⟩:=by
 refine jH (af:=FT) (n:=l.length+1) (O':=cH) (jG [] 0) rfl rfl (by simp[fO,jY,iF]) rfl ?_;have h:=MB (body:=exec (T [] 0) (l.length+1) none Sl) (Ir l s) cH l.length (fun i=>l.getD i []==s) (fun _ _ h=>by cases h) (fun _ _ h=>by cases h) (fun i hi hq=>ze5b l s i hi hl hq) (fun i hi hq=>ze6b l s i hi hq) (zisb l s) (l.length+1) (by omega);rw[zcp l [] (·==s)]at h;simp only[Ir,iG]at h;cases hb:l.any (·==s)with
 |true =>rw[hb]at h;simp only[FT,sA,seval,kn,h]
 |false =>rw[hb]at h;simp only[FT,sA,seval,kn,h]
def ql:List D->Cell->Prop:=fun ds c=>∀l s,ds=[dG l,.str s]->c=⟨false,.bool (l.any (·==s))⟩
theorem DV{S:fC}(hS:dC S Im=some ql)(l:List Tx)(s:Tx)(hl:l.length<1000000000)(n:Nat)(O:Store):T S (n+1) Im [dG l,.str s] O=some (.ret ⟨false,.bool (l.any (·==s))⟩,O):=by
 obtain⟨c,h1,h2⟩:=lD (S:=S) hS rfl (c:=⟨false,.bool (l.any (·==s))⟩) (fun l' s' e=>by
  simp only[aL,D.str.injEq,and_true]at e;obtain⟨e1,rfl⟩:=e;rw[lN e1]) (ze4b l s hl)
 rw[h2,h1 l s rfl]
theorem CO(l:List Tx):nK (dG l)=some (l.map D.str):=Vi
theorem zanb(l:List In):nK (eM l)=some (l.map dI):=Vi
theorem UM(a b:List Tx)(o:Bool)(ho:a≠[]->o=true)(hl:a.length+b.length<1000000000):lM dY 16 ⟨o,dG a⟩ (b.map D.str)=some ⟨true,dG (a++b)⟩:=by rw[dG,LB (fun h=>ho (by simpa using h)) (fun d hd=>by obtain⟨x,_,rfl⟩:=bF.1 hd;exact⟨rfl,rfl⟩) (by simp[iN];omega) (by simp[iN];omega)];rw[dG,aU]
theorem Kx(b:List Tx)(o:Bool)(hl:b.length<1000000000):lM dY 16 ⟨o,.dN⟩ (b.map D.str)=some ⟨true,dG b⟩:=by have:=UM [] b o (fun h=>absurd rfl h) (by simpa using hl);simpa[dG,gX]using this
theorem zmjb(i:In):(dI i).ok=true:=rfl
theorem appI(a b:List In)(o:Bool)(ho:a≠[]->o=true)(hl:a.length+b.length<1000000000):lM fE 48 ⟨o,eM a⟩ (b.map dI)=some ⟨true,eM (a++b)⟩:=by rw[eM,LB (fun h=>ho (by simpa using h)) (fun d hd=>by obtain⟨x,_,rfl⟩:=bF.1 hd;exact⟨rfl,rfl⟩) (by simp[iN];omega) (by simp[iN];omega)];rw[eM,aU]
theorem zk5b(b:List In)(o:Bool)(hl:b.length<1000000000):lM fE 48 ⟨o,.dN⟩ (b.map dI)=some ⟨true,eM b⟩:=by have:=appI [] b o (fun h=>absurd rfl h) (by simpa using hl);simpa[eM,gX]using this
theorem og(a:List In)(x:In)(o:Bool)(ho:a≠[]->o=true)(hl:a.length<1000000000):lM fE 48 ⟨o,eM a⟩ [dI x]=some ⟨true,eM (a++[x])⟩:=Oq zmjb (fun _=>rfl) (by omega) a x o ho hl
theorem zcs(a b:List Tx)(hl:a.length+b.length<1000000000):eW mJ [dG a,dG b] ⟨false,dG (a++b)⟩:=by refine eW.weak (o:=true) rfl (jH (af:=N7) (n:=1) (O':=cH) (jG [] 0) rfl rfl (by simp[fO,jY]) (jY _) ?_);simp only[N7,sA,seval,kn,CO,Kx a false (by omega),UM a b true (fun _=>rfl) hl]
def Wu:List D->Cell->Prop:=fun ds c=>∀a b,ds=[dG a,dG b]->c=⟨false,dG (a++b)⟩
theorem Vq{S:fC}(hS:dC S mJ=some Wu)(a b:List Tx)(hl:a.length+b.length<1000000000)(n:Nat)(O:Store):T S (n+1) mJ [dG a,dG b] O=some (.ret ⟨false,dG (a++b)⟩,O):=by
 obtain⟨c,h1,h2⟩:=lD (S:=S) hS rfl (c:=⟨false,dG (a++b)⟩) (fun a' b' e=>by
  simp only[aL,and_true]at e;rw[lN e.1,lN e.2]) (zcs a b hl)
 rw[h2,h1 a b rfl]
def eJ(s:Tx)(n:Int):In:=⟨s,n,0,[]⟩
theorem zf8b(s:Tx)(x:Int):eW nN [.str s,.int .i64 x] ⟨false,eM [eJ s x]⟩:=by refine eW.weak (o:=true) rfl (jH (af:=P9) (n:=1) (O':=cH) (jG [] 0) rfl rfl rfl rfl ?_);simp only[P9,sA,seval,kn];rfl
def UB:List D->Cell->Prop:=fun ds c=>∀s x,ds=[.str s,.int .i64 x]->c=⟨false,eM [eJ s x]⟩
theorem vF{S:fC}(hS:dC S nN=some UB)(s:Tx)(x:Int)(n:Nat)(O:Store):T S (n+1) nN [.str s,.int .i64 x] O=some (.ret ⟨false,eM [eJ s x]⟩,O):=by
 obtain⟨c,h1,h2⟩:=lD (S:=S) hS rfl (c:=⟨false,eM [eJ s x]⟩) (fun a' b' e=>by
  simp only[aL,D.str.injEq,D.int.injEq,true_and,and_true]at e;rw[e.1,e.2]) (zf8b s x)
 rw[h2,h1 s x rfl]
def wB(s:Tx):Bool:=((s==[84,69,83,84])||(s==[84,69,83,84,73]))||(s==[74,85,77,80])
def lQ(k:Nat)(i:In):In:=dK (wB i.op) {i with n:=IntKind.i64.wrap (i.n+k)} i
def fM(a b:List In):List In:=a++b.map (lQ a.length)
theorem kP(a b:List In):(fM a b).length=a.length+b.length:=by simp[fM]
section
variable{C:eV}{n:Nat}{O:Store}
def Ei(a b:List In)(o:Bool)(i:Nat):Env:={slots:=[(0,⟨false,eM a⟩),(1,⟨false,eM b⟩),(5,⟨o,eM (a++(b.take i).map (lQ a.length))⟩),(6,⟨false,.int .i64 i⟩)],dR:=[],boxes:=[],defers:=[]}
theorem xQ(l:List In):lenOf (eM l)=some l.length:=uK _ l
theorem zj0(l:List In)(i:Nat)(h:i<l.length):kU 4 (eM l) i=some (.gC (dI l[i])):=uJ rfl _ _ _ h
theorem zym(a b:List In)(i:Nat)(h:i<b.length)(hl:a.length+b.length<1000000000):exec C n none Lu (Ei a b true i) O=some (.normal,Ei a b true (i+1),O):=by
 have hi:((i:Int)<(b.length:Int)):=by omega
 have w:=iE (i:=i) (by omega);have ha:=og (a++(b.take i).map (lQ a.length)) (lQ a.length b[i]) true (fun _=>rfl) (by simp;omega);have e:a++(b.take i).map (lQ a.length)++[lQ a.length b[i]]=a++(b.take (i+1)).map (lQ a.length):=by rw[bR,<-mC b i h,aU];rfl
 rw[e]at ha;have hx:=zj0 b i h;cases hb:b[i]with
 |mk op nn mm nm =>
 rw[hb]at ha hx;simp only[lQ,wB]at ha;simp only[dI]at hx ha;cases h1:op==[84,69,83,84]with
 |true =>simp only[h1,Bool.true_or,dQ]at ha;simp only[Lu,Ei,sA,seval,kn,xQ,hi,hx,h1,ha,w]
 |false =>
  cases h2:op==[84,69,83,84,73]with
  |true =>simp only[h1,h2,bY,Bool.true_or,dQ]at ha;simp only[Lu,Ei,sA,seval,kn,xQ,hi,hx,h1,h2,ha,w]
  |false =>
   cases h3:op==[74,85,77,80]with
   |true =>simp only[h1,h2,h3,bY,dQ]at ha;simp only[Lu,Ei,sA,seval,kn,xQ,hi,hx,h1,h2,h3,ha,w]
   |false =>simp only[h1,h2,h3,bY,dX]at ha;simp only[Lu,Ei,sA,seval,kn,xQ,hi,hx,h1,h2,h3,ha,w]
theorem zbgb(a b:List In):exec C n none Lu (Ei a b true b.length) O=some (.exit 0,{Ei a b true b.length with slots:=[(0,⟨false,eM a⟩),(1,⟨false,eM b⟩),(5,⟨true,eM (fM a b)⟩),(6,⟨false,.int .i64 b.length⟩),(13,⟨false,.bool false⟩)]},O):=by
 have hi:¬((b.length:Int)<(b.length:Int)):=by omega
 simp only[Lu,Ei,sA,seval,kn,xQ,hi,aV,fM]
end
theorem zyl(a b:List In)(hl:a.length+b.length<1000000000):eW nG [eM a,eM b] ⟨false,eM (fM a b)⟩:=by refine eW.weak (o:=true) rfl (jH (af:=RH) (n:=b.length+1) (O':=cH) (jG [] 0) rfl rfl (by simp[fO,Gs]) (Gs _) ?_);have h:=nI (body:=exec (T [] 0) (b.length+1) none Lu) (Ei a b true) (fun _=>cH) b.length (r:=_) (fun _ _ h=>by cases h) (fun i hi=>zym a b i hi hl) (zbgb a b) 0 (b.length+1) (by omega) (by omega);simp only[Ei,iG,List.take_zero,aZ,bQ]at h;simp only[RH,sA,seval,kn,zanb,zk5b a false (by omega),h]
def ib:List D->Cell->Prop:=fun ds c=>∀a b,ds=[eM a,eM b]->c=⟨false,eM (fM a b)⟩
theorem uB{S:fC}(hS:dC S nG=some ib)(a b:List In)(hl:a.length+b.length<1000000000)(n:Nat)(O:Store):T S (n+1) nG [eM a,eM b] O=some (.ret ⟨false,eM (fM a b)⟩,O):=by
 obtain⟨c,h1,h2⟩:=lD (S:=S) hS rfl (c:=⟨false,eM (fM a b)⟩) (fun a' b' e=>by
  simp only[aL,and_true]at e;rw[zf7 e.1,zf7 e.2]) (zyl a b hl)
 rw[h2,h1 a b rfl]
mutual
def Co.size:Co->Nat
 |.mk _ _ _ ks bs al=>1+fV ks+gG bs+gP al
def fV:List Co->Nat
 |[]=>0
 |c::r=>c.size+fV r
def gG:List (Tx×Co)->Nat
 |[]=>0
 |(_,c)::r=>1+c.size+gG r
def gP:List (Hd×Co)->Nat
 |[]=>0
 |(h,c)::r=>1+h.vars.length+c.size+gP r
end
theorem jD(c:Co):c.size=1+fV c.ks+gG c.bs+gP c.al:=by cases c;simp only[Co.size,Co.ks,Co.bs,Co.al]
theorem lT(c:Co):1<=c.size:=by rw[jD];omega
theorem yY:∀l:List Co,l.length<=fV l
 |[]=>by simp[fV]
 |c::r=>by
  have:=yY r;have:=lT c;simp only[fV,aG];omega
theorem mY:∀l:List (Tx×Co),l.length<=gG l
 |[]=>by simp[gG]
 |(s,c)::r=>by
  have:=mY r;simp only[gG,aG];omega
theorem pY:∀l:List (Hd×Co),l.length<=gP l
 |[]=>by simp[gP]
 |(s,c)::r=>by
  have:=pY r;simp only[gP,aG];omega
theorem Bn:∀(l:List Co)(x:Co),x∈l->x.size<=fV l
 |c::r,x,h=>by
  simp only[fV];rcases aS.1 h with rfl|h
  ·omega
  ·have:=Bn r x h;omega
theorem xB:∀(l:List (Tx×Co))(x:Tx×Co),x∈l->x.2.size+1<=gG l
 |(s,c)::r,x,h=>by
  simp only[gG];rcases aS.1 h with rfl|h
  ·simp only;omega
  ·have:=xB r x h;omega
theorem qP:∀(l:List (Hd×Co))(x:Hd×Co),x∈l->x.2.size+x.1.vars.length+1<=gP l
 |(s,c)::r,x,h=>by
  simp only[gP];rcases aS.1 h with rfl|h
  ·simp only;omega
  ·have:=qP r x h;omega
theorem Ot(a b:List Co):fV (a++b)=fV a+fV b:=by
 induction a with
 |nil=>simp[fV]
 |cons x r ih=>simp only[aW,fV,ih];omega
theorem MK(a b:List (Tx×Co)):gG (a++b)=gG a+gG b:=by
 induction a with
 |nil=>simp[gG]
 |cons x r ih=>obtain⟨s,c⟩:=x;simp only[aW,gG,ih];omega
theorem MJ(a b:List (Hd×Co)):gP (a++b)=gP a+gP b:=by
 induction a with
 |nil=>simp[gP]
 |cons x r ih=>obtain⟨s,c⟩:=x;simp only[aW,gP,ih];omega
def cB(b:Tx×Co):List D:=.str b.1::.int .i64 0::.int .i64 0::.str []::.dN::pH b.2
def cA(a:Hd×Co):List D:=.int .i64 a.1.form::.int .i64 a.1.num::.str a.1.name::dG a.1.vars::pH a.2
theorem OG(b:Tx×Co):(dB b).sE=some (cB b):=by rw[zK];rfl
theorem Pj(b:Hd×Co):(dA b).sE=some (cA b):=by rw[xM];rfl
theorem jh(c:Co):D.agg (pH c)=dM c:=(eO c).symm
theorem TV(b:Tx×Co):Mx.part none (cB b) 0=some (.str b.1)/\Mx.part (some 10) (cB b) 5=some (dM b.2):=by refine⟨rfl,?_⟩;rw[<-jh];rfl
theorem V9(a:Hd×Co):Mx.part none (cA a) 0=some (.int .i64 a.1.form)/\Mx.part none (cA a) 1=some (.int .i64 a.1.num)/\Mx.part none (cA a) 2=some (.str a.1.name)/\Mx.part none (cA a) 3=some (dG a.1.vars)/\Mx.part (some 10) (cA a) 4=some (dM a.2):=by refine⟨rfl,rfl,rfl,rfl,?_⟩;rw[<-jh];rfl
theorem sX(c:Co):(pH c).length=10:=rfl
theorem zorb(c:Tx×Co):(cB c).length=15:=rfl
theorem lP(l:List Tx):(dG l).one=true:=rX
def iI(l:List Co):D:=gX gV (l.map dM)
def lZ(l:List (Tx×Co)):D:=gX iS (l.map dB)
def pV(l:List (Hd×Co)):D:=gX jC (l.map dA)
theorem nX(l:List Co):lenOf (iI l)=some l.length:=uK _ l
theorem tO(l:List (Tx×Co)):lenOf (lZ l)=some l.length:=uK _ l
theorem mT(l:List (Hd×Co)):lenOf (pV l)=some l.length:=uK _ l
theorem GN(l:List Co)(i:Nat)(h:i<l.length):kU 10 (iI l) i=some (.gC (dM l[i])):=uJ rfl _ _ _ h
theorem SG(l:List (Tx×Co))(i:Nat)(h:i<l.length):kU 15 (lZ l) i=some (.gC (dB l[i])):=uJ rfl _ _ _ h
theorem Hm(l:List (Hd×Co))(i:Nat)(h:i<l.length):kU 14 (pV l) i=some (.gC (dA l[i])):=uJ rfl _ _ _ h
theorem zolb(l:List Co):(iI l).one=true:=rX
theorem zokb(l:List (Tx×Co)):(lZ l).one=true:=rX
theorem zojb(l:List (Hd×Co)):(pV l).one=true:=rX
theorem zamb(l:List Co):nK (iI l)=some (l.map dM):=Vi
theorem nz(a:List Co)(x:Co)(o:Bool)(ho:a≠[]->o=true)(hl:a.length<1000000000):lM gV 160 ⟨o,iI a⟩ [dM x]=some ⟨true,iI (a++[x])⟩:=Oq Eh uC (by omega) a x o ho hl
theorem Df(a b:List Co)(o:Bool)(ho:a≠[]->o=true)(hl:a.length+b.length<1000000000):lM gV 160 ⟨o,iI a⟩ (b.map dM)=some ⟨true,iI (a++b)⟩:=by rw[iI,LB (fun h=>ho (by simpa using h)) (fun d hd=>by obtain⟨x,_,rfl⟩:=bF.1 hd;exact⟨Eh x,uC x⟩) (by simp[iN];omega) (by simp[iN];omega)];rw[iI,aU]
theorem eX(c:Co):pH c=[.int .i64 c.f,.int .i64 c.n,.str c.s,.int .i64 0,.int .i64 0,.str [],.dN,iI c.ks,lZ c.bs,pV c.al]:=rfl
def bC(c:Co):List Cell:=[⟨false,.int .i64 c.f⟩,⟨false,.int .i64 c.n⟩,⟨false,.str c.s⟩,⟨false,.int .i64 0⟩,⟨false,.int .i64 0⟩,⟨false,.str []⟩,⟨false,.dN⟩,⟨false,iI c.ks⟩,⟨false,lZ c.bs⟩,⟨false,pV c.al⟩]
section
variable{C:eV}{n:Nat}{O:Store}
def Rj(c:Co)(i:Nat):Env:={slots:=[(3,⟨ow i,dG ((c.bs.take i).map Prod.fst)⟩),(4,⟨false,.int .i64 i⟩)],dR:=[(1,1,0)],boxes:=[(1,bC c)],defers:=[]}
theorem zt6(c:Co)(i:Nat)(h:i<c.bs.length)(hl:c.size<100000000):exec C n none M9 (Rj c i) O=some (.normal,Rj c (i+1),O):=by
 have hb:=mY c.bs;have hsz:=jD c;have hi:((i:Int)<(c.bs.length:Int)):=by omega
 have ha:=Bf ((c.bs.take i).map Prod.fst) c.bs[i].1 (ow i) (fun h=>Yd (fun e=>h (by rw[e];rfl))) (by simp;omega);have e:(c.bs.take i).map Prod.fst++[c.bs[i].1]=(c.bs.take (i+1)).map Prod.fst:=by rw[<-mC c.bs i h,aU];rfl
 rw[e]at ha;have hp:=TV c.bs[i];simp only[M9,Rj,bC,sA,seval,kn,tO,hi,SG _ i h,OG,hp,ha,iE (i:=i) (by omega),rA]
theorem zxt(c:Co):exec C n none M9 (Rj c c.bs.length) O=some (.exit 0,{Rj c c.bs.length with slots:=[(3,⟨ow c.bs.length,dG (c.bs.map Prod.fst)⟩),(4,⟨false,.int .i64 c.bs.length⟩),(9,⟨false,.bool false⟩)]},O):=by
 have hi:¬((c.bs.length:Int)<(c.bs.length:Int)):=by omega
 simp only[M9,Rj,bC,sA,seval,kn,tO,hi,aV]
end
theorem zt5(c:Co)(hl:c.size<100000000):eW yI [dM c] ⟨false,dG (c.bs.map Prod.fst)⟩:=by refine eW.weak (o:=ow c.bs.length) rfl (jH (af:=RB) (n:=c.bs.length+1) (O':=cH) (jG [] 0) rfl rfl (by simp[fO,mL]) (jY _) ?_);have h:=nI (body:=exec (T [] 0) (c.bs.length+1) none M9) (Rj c) (fun _=>cH) c.bs.length (r:=_) (fun _ _ h=>by cases h) (fun i hi=>zt6 c i hi hl) (zxt c) 0 (c.bs.length+1) (by omega) (by omega);simp only[Rj,bC,iG,List.take_zero,aZ,dG,zcy,yW]at h;simp only[RB,sA,seval,kn,eO,eX,h,dG]
def Wa:List D->Cell->Prop:=fun ds c=>∀a,ds=[dM a]->c=⟨false,dG (a.bs.map Prod.fst)⟩
theorem BI{S:fC}(hS:dC S yI=some Wa)(a:Co)(hl:a.size<100000000)(n:Nat)(O:Store):T S (n+1) yI [dM a] O=some (.ret ⟨false,dG (a.bs.map Prod.fst)⟩,O):=by
 obtain⟨c,h1,h2⟩:=lD (S:=S) hS rfl (c:=⟨false,dG (a.bs.map Prod.fst)⟩) (fun a' e=>by
  simp only[aL,and_true]at e;rw[qO e]) (zt5 a hl)
 rw[h2,h1 a rfl]
def eT(c:Co):List Co:=c.bs.map Prod.snd++c.ks++c.al.map Prod.snd
theorem zqd(l:List (Tx×Co))(i:Nat)(h:i<l.length):(l.take i).map Prod.snd++[l[i].2]=(l.take (i+1)).map Prod.snd:=by rw[<-mC l i h,aU];rfl
theorem zqc(l:List (Hd×Co))(i:Nat)(h:i<l.length):(l.take i).map Prod.snd++[l[i].2]=(l.take (i+1)).map Prod.snd:=by rw[<-mC l i h,aU];rfl
section
variable{C:eV}{n:Nat}{O:Store}
def Um(c:Co)(i:Nat):Env:={slots:=[(3,⟨ow i,iI ((c.bs.take i).map Prod.snd)⟩),(4,⟨false,.int .i64 i⟩)],dR:=[(1,1,0)],boxes:=[(1,bC c)],defers:=[]}
theorem zgdb(c:Co)(i:Nat)(h:i<c.bs.length)(hl:c.size<100000000):exec C n none Q8 (Um c i) O=some (.normal,Um c (i+1),O):=by
 have hb:=mY c.bs;have hsz:=jD c;have hi:((i:Int)<(c.bs.length:Int)):=by omega
 have ha:=nz ((c.bs.take i).map Prod.snd) c.bs[i].2 (ow i) (fun h=>Yd (fun e=>h (by rw[e];rfl))) (by simp;omega);rw[zqd c.bs i h]at ha;have hp:=TV c.bs[i];simp only[Q8,Um,bC,sA,seval,kn,tO,hi,SG _ i h,OG,hp,Ov,sX,Eh,uC,ha,iE (i:=i) (by omega),rA]
theorem zjnb(c:Co):exec C n none Q8 (Um c c.bs.length) O=some (.exit 0,{Um c c.bs.length with slots:=[(3,⟨ow c.bs.length,iI (c.bs.map Prod.snd)⟩),(4,⟨false,.int .i64 c.bs.length⟩),(10,⟨false,.bool false⟩)]},O):=by
 have hi:¬((c.bs.length:Int)<(c.bs.length:Int)):=by omega
 simp only[Q8,Um,bC,sA,seval,kn,tO,hi,aV]
def Un(c:Co)(i:Nat):Env:={slots:=[(3,⟨true,iI (c.bs.map Prod.snd++c.ks++(c.al.take i).map Prod.snd)⟩),(5,⟨false,.int .i64 i⟩)],dR:=[(1,1,0)],boxes:=[(1,bC c)],defers:=[]}
theorem zgfb(c:Co)(i:Nat)(h:i<c.al.length)(hl:c.size<100000000):exec C n none Q9 (Un c i) O=some (.normal,Un c (i+1),O):=by
 have hb:=mY c.bs;have hk:=yY c.ks;have ha:=pY c.al;have hsz:=jD c;have hi:((i:Int)<(c.al.length:Int)):=by omega
 have ha:=nz (c.bs.map Prod.snd++c.ks++(c.al.take i).map Prod.snd) c.al[i].2 true (fun _=>rfl) (by simp;omega);rw[bR (c.bs.map Prod.snd++c.ks),zqc c.al i h]at ha;have hp:=V9 c.al[i];simp only[Q9,Un,bC,sA,seval,kn,mT,hi,Hm _ i h,Pj,hp,Ov,sX,Eh,uC,ha,iE (i:=i) (by omega)]
theorem zjpb(c:Co):exec C n none Q9 (Un c c.al.length) O=some (.exit 2,{Un c c.al.length with slots:=[(3,⟨true,iI (eT c)⟩),(5,⟨false,.int .i64 c.al.length⟩),(30,⟨false,.bool false⟩)]},O):=by
 have hi:¬((c.al.length:Int)<(c.al.length:Int)):=by omega
 simp only[Q9,Un,bC,sA,seval,kn,mT,hi,aV,eT]
end
theorem zyz(l:List Co):iF (iI l)=true:=by rw[iI,Dz];exact wX mL l
theorem zecb{a b:List Co}(h:iI a=iI b):a=b:=Pq qO (Jo h)
theorem zv7(c:Co)(hl:c.size<100000000):eW Fe [dM c] ⟨false,iI (eT c)⟩:=by
 have hb:=mY c.bs;have hk:=yY c.ks;have ha:=pY c.al;have hsz:=jD c;refine eW.weak (o:=true) rfl (jH (af:=RO) (n:=c.size+1) (O':=cH) (jG [] 0) rfl rfl (by simp[fO,mL]) (zyz _) ?_);have h1:=nI (body:=exec (T [] 0) (c.size+1) none Q8) (Um c) (fun _=>cH) c.bs.length (r:=_) (fun _ _ h=>by cases h) (fun i hi=>zgdb c i hi hl) (zjnb c) 0 (c.size+1) (by omega) (by omega);have h2:=nI (body:=exec (T [] 0) (c.size+1) none Q9) (Un c) (fun _=>cH) c.al.length (r:=_) (fun _ _ h=>by cases h) (fun i hi=>zgfb c i hi hl) (zjpb c) 0 (c.size+1) (by omega) (by omega)
 have h3:=Df (c.bs.map Prod.snd) c.ks (ow c.bs.length) (fun h=>by
  cases hb:c.bs with
  |nil=>rw[hb]at h;exact absurd rfl h
  |cons x r=>rfl) (by simp;omega)
 have e0:iI []=.dN:=rfl;simp only[Um,bC,iG,List.take_zero,aZ,e0,yW]at h1;simp only[Un,bC,iG,List.take_zero,aZ,bQ]at h2;simp only[RO,sA,seval,kn,eO,eX,h1,zamb,h3,h2]
def DD:List D->Cell->Prop:=fun ds c=>∀a,ds=[dM a]->c=⟨false,iI (eT a)⟩
theorem LM{S:fC}(hS:dC S Fe=some DD)(a:Co)(hl:a.size<100000000)(n:Nat)(O:Store):T S (n+1) Fe [dM a] O=some (.ret ⟨false,iI (eT a)⟩,O):=by
 obtain⟨c,h1,h2⟩:=lD (S:=S) hS rfl (c:=⟨false,iI (eT a)⟩) (fun a' e=>by
  simp only[aL,and_true]at e;rw[qO e]) (zv7 a hl)
 rw[h2,h1 a rfl]
def lC(c:Co)(i:Nat):List Tx:=if c.bs.length+c.ks.length<=i then(c.al.map fun a=>a.1.vars).getD (i-(c.bs.length+c.ks.length)) []else c.bs.map Prod.fst
theorem Vo(c:Co):(eT c).length=c.bs.length+c.ks.length+c.al.length:=by simp[eT];omega
theorem zva(c:Co)(i:Nat)(h:i<(eT c).length)(hl:c.size<100000000):eW Fb [dM c,.int .i64 i] ⟨false,dG (lC c i)⟩:=by
 have hb:=mY c.bs;have hk:=yY c.ks;have ha:=pY c.al;have hsz:=jD c;rw[Vo]at h;refine jH (af:=FR) (n:=1) (O':=cH) (jG [(yI,Wa)] 1) rfl rfl (by simp[fO,mL,iF]) (jY _) ?_;have hc:=BI (S:=[(yI,Wa)]) rfl c hl 0 cH;have w1:IntKind.i64.wrap ((c.bs.length:Int)+(c.ks.length:Int))=((c.bs.length+c.ks.length:Nat):Int):=by rw[lV (by omega) (by omega)];omega
 simp only[eO,eX]at hc;by_cases hge:c.bs.length+c.ks.length<=i
 ·have c1:((i:Int)≥((c.bs.length+c.ks.length:Nat):Int)):=by omega
  have w2:IntKind.i64.wrap ((i:Int)-((c.bs.length+c.ks.length:Nat):Int))=((i-(c.bs.length+c.ks.length):Nat):Int):=by rw[lV (by omega) (by omega)];omega
  have hx:=Hm c.al (i-(c.bs.length+c.ks.length)) (by omega);have hg:lC c i=c.al[i-(c.bs.length+c.ks.length)].1.vars:=(by rw[lC,if_pos hge,iU _ _ _ (by simp;omega)];simp);have hp:=V9 c.al[i-(c.bs.length+c.ks.length)];simp only[FR,sA,seval,kn,eO,eX,tO,nX,w1,c1,w2,hx,Pj,hp,lP,hg]
 ·have c1:¬((i:Int)≥((c.bs.length+c.ks.length:Nat):Int)):=by omega
  have hg:lC c i=c.bs.map Prod.fst:=by rw[lC,if_neg hge]
  simp only[FR,sA,seval,kn,eO,eX,tO,nX,w1,c1,hc,hg]
def ZV:List D->Cell->Prop:=fun ds c=>∀a (i:Nat),ds=[dM a,.int .i64 i]->c=⟨false,dG (lC a i)⟩
theorem zbq{S:fC}(hS:dC S Fb=some ZV)(a:Co)(i:Nat)(h:i<(eT a).length)(hl:a.size<100000000)(n:Nat)(O:Store):T S (n+1) Fb [dM a,.int .i64 i] O=some (.ret ⟨false,dG (lC a i)⟩,O):=by
 obtain⟨c,h1,h2⟩:=lD (S:=S) hS rfl (c:=⟨false,dG (lC a i)⟩) (fun a' i' e=>by
  simp only[aL,D.int.injEq,true_and,and_true]at e;rw[qO e.1,show i=i' by omega]) (zva a i h hl)
 rw[h2,h1 a i rfl]
theorem zsa{body:Env->Store->oC}(E:Nat->Env)(O:Store)(k:Nat)(q:Nat->Bool)(stop:Nat->rO×Env×Store){r:rO×Env×Store}(hr:∀e O,r≠(.normal,e,O))(hs:∀i e O,stop i≠(.normal,e,O))
  (hstep:∀i,i<k->q i=false->body (E i) O=some (.normal,E (i+1),O)) (hstop:∀i,i<k->q i=true->body (E i) O=some (stop i)) (hend:body (E k) O=some r) (n:Nat) (hn:k<n):jI body n (E 0) O=some (iW ((List.range k).find? q) r stop):=by
 rcases BC (body:=body) E (fun _=>O) k (fun i=>!q i) (r:=r) stop hr hs (fun i hi hq=>hstep i hi (by simpa using hq)) (fun i hi hq=>hstop i hi (by simpa using hq)) hend n 0 (Nat.zero_le _) (by omega)with⟨i,_,hi,hq,hall,h⟩|⟨hq,h⟩
 ·have:(List.range k).find? q=some i:=List.find?_range_eq_some.2 ⟨by simpa using hq,List.mem_range.2 hi,fun j hj=>hall j (Nat.zero_le _) hj⟩;rw[h,this];rfl
 ·have:(List.range k).find? q=none:=List.find?_range_eq_none.2 fun i hi=>hq i (Nat.zero_le _) hi;rw[h,this];rfl
def qE(env:List Tx)(s:Tx):Int:=iW ((List.range env.length).find? fun j=>env.getD (env.length-1-j) []==s) (-1) fun j=>((env.length-1-j:Nat):Int)
section
variable{C:eV}{n:Nat}{O:Store}
def Hy(l:List Tx)(s:Tx)(j:Nat):Env:={slots:=[(0,⟨false,dG l⟩),(1,⟨false,.str s⟩),(5,⟨false,.int .i64 ((l.length:Int)-1-j)⟩)],dR:=[],boxes:=[],defers:=[]}
theorem zbub(l:List Tx)(s:Tx)(j:Nat)(h:j<l.length)(hl:l.length<1000000000)(hq:(l.getD (l.length-1-j) []==s)=false):exec C n none Sr (Hy l s j) O=some (.normal,Hy l s (j+1),O):=by
 have hlt:l.length-1-j<l.length:=by omega
 rw[iU _ _ _ hlt]at hq;have e:((l.length:Int)-1-(j:Int))=((l.length-1-j:Nat):Int):=by omega
 have hge:(((l.length-1-j:Nat):Int)≥0):=by omega
 have w:IntKind.i64.wrap (((l.length-1-j:Nat):Int)-1)=(l.length:Int)-1-((j+1:Nat):Int):=by rw[lV (by omega) (by omega)];omega
 simp only[Sr,Hy,e,sA,seval,kn,hge,sZ l _ hlt,hq,w]
def OP(l:List Tx)(O:Store)(j:Nat):rO×Env×Store:=(.ret,{slots:=[(4,⟨false,.int .i64 ((l.length-1-j:Nat):Int)⟩)],dR:=[],boxes:=[],defers:=[]},O)
theorem zbvb(l:List Tx)(s:Tx)(j:Nat)(h:j<l.length)(hq:(l.getD (l.length-1-j) []==s)=true):exec C n none Sr (Hy l s j) O=some (OP l O j):=by
 have hlt:l.length-1-j<l.length:=by omega
 rw[iU _ _ _ hlt]at hq;have e:((l.length:Int)-1-(j:Int))=((l.length-1-j:Nat):Int):=by omega
 have hge:(((l.length-1-j:Nat):Int)≥0):=by omega
 simp only[Sr,Hy,e,sA,seval,kn,hge,sZ l _ hlt,hq,OP]
theorem zfkb(l:List Tx)(s:Tx):exec C n none Sr (Hy l s l.length) O=some (.exit 0,{Hy l s l.length with slots:=[(0,⟨false,dG l⟩),(1,⟨false,.str s⟩),(5,⟨false,.int .i64 (-1)⟩),(10,⟨false,.bool false⟩)]},O):=by
 have e:((l.length:Int)-1-(l.length:Int))=-1:=by omega
 simp only[Sr,Hy,e,sA,seval,kn]
end
theorem zbtb(l:List Tx)(s:Tx)(hl:l.length<1000000000):eW IK [dG l,.str s] ⟨false,.int .i64 (qE l s)⟩:=by
 refine jH (af:=FU) (n:=l.length+1) (O':=cH) (jG [] 0) rfl rfl (by simp[fO,jY,iF]) rfl ?_;have h:=zsa (body:=exec (T [] 0) (l.length+1) none Sr) (Hy l s) cH l.length (fun j=>l.getD (l.length-1-j) []==s) (OP l cH) (fun _ _ h=>by cases h) (fun _ _ _ h=>by cases h) (fun i hi hq=>zbub l s i hi hl hq) (fun i hi hq=>zbvb l s i hi hq) (zfkb l s) (l.length+1) (by omega);have w:IntKind.i64.wrap ((l.length:Int)-1)=(l.length:Int)-1:=lV (by omega) (by omega);have e0:(l.length:Int)-1-((0:Nat):Int)=(l.length:Int)-1:=by omega
 simp only[Hy,e0]at h;unfold qE;cases hf:(List.range l.length).find? fun j=>l.getD (l.length-1-j) []==s with
 |none =>rw[hf]at h;simp only[qK]at h;simp only[FU,sA,seval,kn,lE,w,h]
 |some j =>rw[hf]at h;simp only[eP,OP]at h;simp only[FU,sA,seval,kn,lE,w,h]
def zic:List D->Cell->Prop:=fun ds c=>∀l s,ds=[dG l,.str s]->c=⟨false,.int .i64 (qE l s)⟩
theorem zasb{S:fC}(hS:dC S IK=some zic)(l:List Tx)(s:Tx)(hl:l.length<1000000000)(n:Nat)(O:Store):T S (n+1) IK [dG l,.str s] O=some (.ret ⟨false,.int .i64 (qE l s)⟩,O):=by
 obtain⟨c,h1,h2⟩:=lD (S:=S) hS rfl (c:=⟨false,.int .i64 (qE l s)⟩) (fun l' s' e=>by
  simp only[aL,D.str.injEq,and_true]at e;obtain⟨e1,rfl⟩:=e;rw[lN e1]) (zbtb l s hl)
 rw[h2,h1 l s rfl]
theorem XM(l:List Tx)(s:Tx):-1<=qE l s/\qE l s<l.length:=by
 unfold qE;cases hf:(List.range l.length).find? fun j=>l.getD (l.length-1-j) []==s with
 |none=>simp only[qK];omega
 |some j =>have:=List.mem_range.1 (List.mem_of_find?_eq_some hf);simp only[eP];omega
def pQ(l:List Tx)(d:Nat):List Tx:=l++List.replicate (d-l.length) []
section
variable{C:eV}{n:Nat}{O:Store}
def Rq(l:List Tx)(d:Nat)(i:Nat):Env:={slots:=[(1,⟨false,.int .i64 d⟩),(5,⟨true,dG (l++List.replicate i [])⟩)],dR:=[],boxes:=[],defers:=[]}
theorem zcfb(l:List Tx)(d i:Nat)(h:i<d-l.length)(hl:l.length+d<1000000000):exec C n none Q0 (Rq l d i) O=some (.normal,Rq l d (i+1),O):=by
 have hi:(((l++List.replicate i ([]:Tx)).length:Int)<(d:Int)):=by simp;omega
 have ha:=Bf (l++List.replicate i []) [] true (fun _=>rfl) (by simp;omega);have e:l++List.replicate i ([]:Tx)++[[]]=l++List.replicate (i+1) []:=by rw[bR,List.replicate_succ']
 rw[e]at ha;simp only[Q0,Rq,sA,seval,kn,lE,hi,ha]
theorem zgeb(l:List Tx)(d:Nat):exec C n none Q0 (Rq l d (d-l.length)) O=some (.exit 0,{Rq l d (d-l.length)with slots:=[(1,⟨false,.int .i64 d⟩),(5,⟨true,dG (pQ l d)⟩),(11,⟨false,.bool false⟩)]},O):=by
 have hi:¬(((l++List.replicate (d-l.length) ([]:Tx)).length:Int)<(d:Int)):=by simp;omega
 simp only[Q0,Rq,sA,seval,kn,lE,hi,pQ]
end
theorem zceb(l:List Tx)(d:Nat)(hl:l.length+d<1000000000):eW Xz [dG l,.int .i64 d] ⟨false,dG (pQ l d)⟩:=by refine eW.weak (o:=true) rfl (jH (af:=RN) (n:=d+1) (O':=cH) (jG [] 0) rfl rfl (by simp[fO,jY,iF]) (jY _) ?_);have h:=nI (body:=exec (T [] 0) (d+1) none Q0) (Rq l d) (fun _=>cH) (d-l.length) (r:=_) (fun _ _ h=>by cases h) (fun i hi=>zcfb l d i hi hl) (zgeb l d) 0 (d+1) (by omega) (by omega);simp only[Rq,List.replicate_zero,bQ]at h;simp only[RN,sA,seval,kn,CO,Kx l false (by omega),h]
def ma:List D->Cell->Prop:=fun ds c=>∀l (d:Nat),ds=[dG l,.int .i64 d]->c=⟨false,dG (pQ l d)⟩
theorem zd9{S:fC}(hS:dC S Xz=some ma)(l:List Tx)(d:Nat)(hl:l.length+d<1000000000)(n:Nat)(O:Store):T S (n+1) Xz [dG l,.int .i64 d] O=some (.ret ⟨false,dG (pQ l d)⟩,O):=by
 obtain⟨c,h1,h2⟩:=lD (S:=S) hS rfl (c:=⟨false,dG (pQ l d)⟩) (fun l' d' e=>by
  simp only[aL,D.int.injEq,true_and,and_true]at e;rw[lN e.1,show d=d' by omega]) (zceb l d hl)
 rw[h2,h1 l d rfl]
section
variable{C:eV}{n:Nat}{O:Store}
def Qk(l:List Tx)(j:Nat):Env:={slots:=[(0,⟨false,dG l⟩),(3,⟨ow j,dG (l.reverse.take j)⟩),(4,⟨false,.int .i64 ((l.length:Int)-1-j)⟩)],dR:=[],boxes:=[],defers:=[]}
theorem zxs(l:List Tx)(j:Nat)(h:j<l.length)(hl:l.length<1000000000):exec C n none M8 (Qk l j) O=some (.normal,Qk l (j+1),O):=by
 have hlt:l.length-1-j<l.length:=by omega
 have e:((l.length:Int)-1-(j:Int))=((l.length-1-j:Nat):Int):=by omega
 have hge:(((l.length-1-j:Nat):Int)≥0):=by omega
 have w:IntKind.i64.wrap (((l.length-1-j:Nat):Int)-1)=(l.length:Int)-1-((j+1:Nat):Int):=by rw[lV (by omega) (by omega)];omega
 have ha:=Bf (l.reverse.take j) l[l.length-1-j] (ow j) Yd (by simp;omega);have e2:l.reverse.take j++[l[l.length-1-j]]=l.reverse.take (j+1):=by rw[<-mC l.reverse j (by simpa using h),List.getElem_reverse]
 rw[e2]at ha;simp only[M8,Qk,e,sA,seval,kn,hge,sZ l _ hlt,ha,w,rA]
theorem zaob(l:List Tx):exec C n none M8 (Qk l l.length) O=some (.exit 0,{Qk l l.length with slots:=[(0,⟨false,dG l⟩),(3,⟨ow l.length,dG l.reverse⟩),(4,⟨false,.int .i64 (-1)⟩),(9,⟨false,.bool false⟩)]},O):=by
 have e:((l.length:Int)-1-(l.length:Int))=-1:=by omega
 have e2:l.reverse.take l.length=l.reverse:=by rw[List.take_of_length_le (by simp)]
 simp only[M8,Qk,e,sA,seval,kn,e2]
end
theorem zxr(l:List Tx)(hl:l.length<1000000000):eW Qs [dG l] ⟨false,dG l.reverse⟩:=by
 refine eW.weak (o:=ow l.length) rfl (jH (af:=RA) (n:=l.length+1) (O':=cH) (jG [] 0) rfl rfl (by simp[fO,jY]) (jY _) ?_);have h:=nI (body:=exec (T [] 0) (l.length+1) none M8) (Qk l) (fun _=>cH) l.length (r:=_) (fun _ _ h=>by cases h) (fun i hi=>zxs l i hi hl) (zaob l) 0 (l.length+1) (by omega) (by omega);have w:IntKind.i64.wrap ((l.length:Int)-1)=(l.length:Int)-1:=lV (by omega) (by omega);have e0:(l.length:Int)-1-((0:Nat):Int)=(l.length:Int)-1:=by omega
 have e1:dG []=.dN:=rfl;simp only[Qk,e0,List.take_zero,e1,yW]at h;simp only[RA,sA,seval,kn,lE,w,h]
def gy:List D->Cell->Prop:=fun ds c=>∀l,ds=[dG l]->c=⟨false,dG l.reverse⟩
theorem Jn{S:fC}(hS:dC S Qs=some gy)(l:List Tx)(hl:l.length<1000000000)(n:Nat)(O:Store):T S (n+1) Qs [dG l] O=some (.ret ⟨false,dG l.reverse⟩,O):=by
 obtain⟨c,h1,h2⟩:=lD (S:=S) hS rfl (c:=⟨false,dG l.reverse⟩) (fun l' e=>by
  simp only[aL,and_true]at e;rw[lN e]) (zxr l hl)
 rw[h2,h1 l rfl]
def rF(s:Tx):Tx:=dK (s==[97,100,100]) [65,68,68] (dK (s==[115,117,98]) [83,85,66] (dK (s==[109,117,108]) [77,85,76] (dK (s==[100,105,118]) [68,73,86] (dK (s==[101,113]) [69,81] (dK (s==[108,116]) [76,84] [])))))
theorem zzd(s:Tx):eW Ya [.str s] ⟨false,.str (rF s)⟩:=by
 refine jH (af:=Ic) (n:=1) (O':=cH) (jG [] 0) rfl rfl rfl rfl ?_;unfold rF;cases h1:s==[97,100,100]with
 |true=>simp only[Ic,sA,seval,kn,h1]
 |false =>
  cases h2:s==[115,117,98]with
  |true=>simp only[Ic,sA,seval,kn,h1,h2]
  |false =>
   cases h3:s==[109,117,108]with
   |true=>simp only[Ic,sA,seval,kn,h1,h2,h3]
   |false =>
    cases h4:s==[100,105,118]with
    |true=>simp only[Ic,sA,seval,kn,h1,h2,h3,h4]
    |false =>
     cases h5:s==[101,113]with
     |true=>simp only[Ic,sA,seval,kn,h1,h2,h3,h4,h5]
     |false =>
      cases h6:s==[108,116]with
      |true=>simp only[Ic,sA,seval,kn,h1,h2,h3,h4,h5,h6]
      |false=>simp only[Ic,sA,seval,kn,h1,h2,h3,h4,h5,h6]
def ig:List D->Cell->Prop:=fun ds c=>∀s,ds=[.str s]->c=⟨false,.str (rF s)⟩
theorem zcu{S:fC}(hS:dC S Ya=some ig)(s:Tx)(n:Nat)(O:Store):T S (n+1) Ya [.str s] O=some (.ret ⟨false,.str (rF s)⟩,O):=by
 obtain⟨c,h1,h2⟩:=lD (S:=S) hS rfl (c:=⟨false,.str (rF s)⟩) (fun s' e=>by
  simp only[aL,D.str.injEq,and_true]at e;rw[e]) (zzd s)
 rw[h2,h1 s rfl]
def iQ(l:List Tx):Bool:=(List.range l.length).any fun i=>(List.range i).any fun k=>l.getD i []==l.getD k []
section
variable{C:eV}{n:Nat}{O:Store}
def Aj(l:List Tx)(i k:Nat):Env:={slots:=[(0,⟨false,dG l⟩),(3,⟨false,.int .i64 i⟩),(4,⟨false,.int .i64 k⟩)],dR:=[],boxes:=[],defers:=[]}
def FC:Env:={slots:=[(2,⟨false,.bool true⟩)],dR:=[],boxes:=[],defers:=[]}
theorem zg0b(l:List Tx)(i k:Nat)(h:i<l.length)(hk:k<i)(hl:l.length<1000000000)(hq:(l.getD i []==l.getD k [])=false):exec C n none Ly (Aj l i k) O=some (.normal,Aj l i (k+1),O):=by
 rw[iU _ _ _ h,iU _ _ _ (by omega)]at hq;have hi:((k:Int)<(i:Int)):=by omega
 simp only[Ly,Aj,sA,seval,kn,hi,sZ l i h,sZ l k (by omega),hq,iE (i:=k) (by omega)]
theorem zg1b(l:List Tx)(i k:Nat)(h:i<l.length)(hk:k<i)(hq:(l.getD i []==l.getD k [])=true):exec C n none Ly (Aj l i k) O=some (.ret,FC,O):=by
 rw[iU _ _ _ h,iU _ _ _ (by omega)]at hq;have hi:((k:Int)<(i:Int)):=by omega
 simp only[Ly,Aj,FC,sA,seval,kn,hi,sZ l i h,sZ l k (by omega),hq]
theorem zj3b(l:List Tx)(i:Nat):exec C n none Ly (Aj l i i) O=some (.exit 2,{Aj l i i with slots:=[(0,⟨false,dG l⟩),(3,⟨false,.int .i64 i⟩),(4,⟨false,.int .i64 i⟩),(13,⟨false,.bool false⟩)]},O):=by
 have hi:¬((i:Int)<(i:Int)):=by omega
 simp only[Ly,Aj,sA,seval,kn,hi]
def Iz(l:List Tx)(i:Nat):Env:={slots:=[(0,⟨false,dG l⟩),(3,⟨false,.int .i64 i⟩)],dR:=[],boxes:=[],defers:=[]}
theorem zkm(l:List Tx)(i:Nat)(h:i<l.length)(hl:l.length<1000000000)(hn:l.length<n):jI (exec C n none Ly) n (Aj l i 0) O=some (dK ((List.range i).any fun k=>l.getD i []==l.getD k []) (.ret,FC,O) (.exit 2,{Aj l i i with slots:=[(0,⟨false,dG l⟩),(3,⟨false,.int .i64 i⟩),(4,⟨false,.int .i64 i⟩),(13,⟨false,.bool false⟩)]},O)) :=
 MB (body:=exec C n none Ly) (Aj l i) O i (fun k=>l.getD i []==l.getD k []) (fun _ _ h=>by cases h) (fun _ _ h=>by cases h) (fun k hk hq=>zg0b l i k h hk hl hq) (fun k hk hq=>zg1b l i k h hk hq) (zj3b l i) n (by omega)
theorem zg2b(l:List Tx)(i:Nat)(h:i<l.length)(hl:l.length<1000000000)(hn:l.length<n)(hq:((List.range i).any fun k=>l.getD i []==l.getD k [])=false):exec C n none Sv (Iz l i) O=some (.normal,Iz l (i+1),O):=by
 have hi:((i:Int)<(l.length:Int)):=by omega
 have hx:=zkm (C:=C) (O:=O) l i h hl hn;rw[hq]at hx;simp only[dX,Aj,iG]at hx;simp only[Sv,Iz,sA,seval,kn,lE,hi,hx,iE (i:=i) (by omega)]
theorem zg3b(l:List Tx)(i:Nat)(h:i<l.length)(hl:l.length<1000000000)(hn:l.length<n)(hq:((List.range i).any fun k=>l.getD i []==l.getD k [])=true):exec C n none Sv (Iz l i) O=some (.ret,FC,O):=by
 have hi:((i:Int)<(l.length:Int)):=by omega
 have hx:=zkm (C:=C) (O:=O) l i h hl hn;rw[hq]at hx;simp only[dQ,Aj,iG]at hx;simp only[Sv,Iz,sA,seval,kn,lE,hi,hx]
theorem zj4b(l:List Tx):exec C n none Sv (Iz l l.length) O=some (.exit 0,{Iz l l.length with slots:=[(0,⟨false,dG l⟩),(3,⟨false,.int .i64 l.length⟩),(8,⟨false,.bool false⟩)]},O):=by
 have hi:¬((l.length:Int)<(l.length:Int)):=by omega
 simp only[Sv,Iz,sA,seval,kn,lE,hi]
end
theorem zwz(l:List Tx)(hl:l.length<1000000000):eW Fg [dG l] ⟨false,.bool (iQ l)⟩:=by
 refine jH (af:=FX) (n:=l.length+1) (O':=cH) (jG [] 0) rfl rfl (by simp[fO,jY]) rfl ?_;have h:=MB (body:=exec (T [] 0) (l.length+1) none Sv) (Iz l) cH l.length (fun i=>(List.range i).any fun k=>l.getD i []==l.getD k []) (fun _ _ h=>by cases h) (fun _ _ h=>by cases h) (fun i hi hq=>zg2b l i hi hl (by omega) hq) (fun i hi hq=>zg3b l i hi hl (by omega) hq) (zj4b l) (l.length+1) (by omega);have ht:((List.range l.length).any fun i=>(List.range i).any fun k=>l.getD i []==l.getD k [])=iQ l:=rfl;rw[ht]at h;simp only[Iz,iG,FC]at h;cases hb:iQ l with
 |true =>rw[hb]at h;simp only[FX,sA,seval,kn,h]
 |false =>rw[hb]at h;simp only[FX,sA,seval,kn,h]
def ZW:List D->Cell->Prop:=fun ds c=>∀l,ds=[dG l]->c=⟨false,.bool (iQ l)⟩
theorem LP{S:fC}(hS:dC S Fg=some ZW)(l:List Tx)(hl:l.length<1000000000)(n:Nat)(O:Store):T S (n+1) Fg [dG l] O=some (.ret ⟨false,.bool (iQ l)⟩,O):=by
 obtain⟨c,h1,h2⟩:=lD (S:=S) hS rfl (c:=⟨false,.bool (iQ l)⟩) (fun l' e=>by
  simp only[aL,and_true]at e;rw[lN e]) (zwz l hl)
 rw[h2,h1 l rfl]
def FL:List Fd:=[⟨[70,97,108,115,101],0,2,0⟩,⟨[84,114,117,101],1,2,0⟩,⟨[78,105,108],0,2,0⟩,⟨[67,111,110,115],1,2,2⟩,⟨[79,110,101],0,1,1⟩]
theorem zho{a b:Fd}(h:dF a=dF b):a=b:=by cases a;cases b;simpa[dF]using h
theorem zmrb{a b:List Fd}(h:gJ a=gJ b):a=b:=Pq zho (Jo h)
theorem uU(l:List Fd):lenOf (gJ l)=some l.length:=uK _ l
theorem Hn(l:List Fd)(i:Nat)(h:i<l.length):kU 8 (gJ l) i=some (.gC (dF l[i])):=uJ rfl _ _ _ h
def Bz(s:Tx)(m:Int)(f:Fd):Bool:=(f.name==s)&&(decide (m<0)||(f.arity==m))
def rB(l:List Fd)(s:Tx)(m:Int):Bool:=l.any (Bz s m)
section
variable{C:eV}{n:Nat}{O:Store}
def Do(l:List Fd)(s:Tx)(m:Int)(i:Nat):Env:={slots:=[(0,⟨false,gJ l⟩),(1,⟨false,.str s⟩),(2,⟨false,.int .i64 m⟩),(7,⟨false,.int .i64 i⟩)],dR:=[],boxes:=[],defers:=[]}
def f0:Fd:=⟨[],0,0,0⟩
theorem zeob(l:List Fd)(s:Tx)(m:Int)(i:Nat)(h:i<l.length)(hl:l.length<1000000000)(hq:Bz s m (l.getD i f0)=false):exec C n none Ib (Do l s m i) O=some (.normal,Do l s m (i+1),O):=by
 rw[iU _ _ _ h]at hq;have hi:((i:Int)<(l.length:Int)):=by omega
 have hx:=Hn l i h;have w:=iE (i:=i) (by omega);cases hf:l[i]with
 |mk nm tg mn ar =>
 rw[hf]at hq hx;simp only[Bz]at hq;simp only[dF]at hx;cases h1:nm==s with
 |false=>simp only[Ib,Do,sA,seval,kn,Mx.part,uU,hi,hx,h1,w]
 |true =>simp only[h1,bX,Bool.or_eq_false_iff,decide_eq_false_iff_not]at hq;simp only[Ib,Do,sA,seval,kn,Mx.part,uU,hi,hx,h1,hq.1,hq.2,w]
theorem zepb(l:List Fd)(s:Tx)(m:Int)(i:Nat)(h:i<l.length)(hq:Bz s m (l.getD i f0)=true):exec C n none Ib (Do l s m i) O=some (.ret,{slots:=[(6,⟨false,.bool true⟩)],dR:=[],boxes:=[],defers:=[]},O):=by
 rw[iU _ _ _ h]at hq;have hi:((i:Int)<(l.length:Int)):=by omega
 have hx:=Hn l i h;cases hf:l[i]with
 |mk nm tg mn ar =>
 rw[hf]at hq hx;simp only[Bz,aC]at hq;simp only[dF]at hx;by_cases h2:m<0
 ·simp only[Ib,Do,sA,seval,kn,Mx.part,uU,hi,hx,hq.1,h2]
 ·have h3:=hq.2;simp only[h2,decide_false,bY]at h3;simp only[Ib,Do,sA,seval,kn,Mx.part,uU,hi,hx,hq.1,h2,h3]
theorem zibb(l:List Fd)(s:Tx)(m:Int):exec C n none Ib (Do l s m l.length) O=some (.exit 0,{Do l s m l.length with slots:=[(0,⟨false,gJ l⟩),(1,⟨false,.str s⟩),(2,⟨false,.int .i64 m⟩),(7,⟨false,.int .i64 l.length⟩),(11,⟨false,.bool false⟩)]},O):=by
 have hi:¬((l.length:Int)<(l.length:Int)):=by omega
 simp only[Ib,Do,sA,seval,kn,uU,hi]
end
theorem zu3(l:List Fd)(s:Tx)(m:Int)(hl:l.length<1000000000):eW Qv [gJ l,.str s,.int .i64 m] ⟨false,.bool (rB l s m)⟩:=by
 refine jH (af:=FQ) (n:=l.length+1) (O':=cH) (jG [] 0) rfl rfl (by simp[fO,Jr,iF]) rfl ?_;have h:=MB (body:=exec (T [] 0) (l.length+1) none Ib) (Do l s m) cH l.length (fun i=>Bz s m (l.getD i f0)) (fun _ _ h=>by cases h) (fun _ _ h=>by cases h) (fun i hi hq=>zeob l s m i hi hl hq) (fun i hi hq=>zepb l s m i hi hq) (zibb l s m) (l.length+1) (by omega);rw[zcp l f0 (Bz s m)]at h;have ht:l.any (Bz s m)=rB l s m:=rfl;rw[ht]at h;simp only[Do,iG]at h;cases hb:rB l s m with
 |true =>rw[hb]at h;simp only[FQ,sA,seval,kn,h]
 |false =>rw[hb]at h;simp only[FQ,sA,seval,kn,h]
def zfd:List D->Cell->Prop:=fun ds c=>∀l s m,ds=[gJ l,.str s,.int .i64 m]->c=⟨false,.bool (rB l s m)⟩
theorem zbp{S:fC}(hS:dC S Qv=some zfd)(l:List Fd)(s:Tx)(m:Int)(hl:l.length<1000000000)(n:Nat)(O:Store):T S (n+1) Qv [gJ l,.str s,.int .i64 m] O=some (.ret ⟨false,.bool (rB l s m)⟩,O):=by
 obtain⟨c,h1,h2⟩:=lD (S:=S) hS rfl (c:=⟨false,.bool (rB l s m)⟩) (fun l' s' m' e=>by
  simp only[aL,D.str.injEq,D.int.injEq,true_and,and_true]at e;rw[zmrb e.1,e.2.1,e.2.2]) (zu3 l s m hl)
 rw[h2,h1 l s m rfl]
def Lm(h:Hd):Prop:=Small h.num/\iQ h.vars=false/\((h.form=1/\rB FL h.name h.vars.length=true)\/(h.form=2/\h.vars=[])\/(h.form=3/\h.vars=[]))
inductive Good:List Tx->Co->Prop
 |int {ns n}:Small n->Good ns (.mk 3 n [] [] [] [])
 |wu {ns s}:rB FL s (-1)=true->Good ns (.mk 2 0 s [] [] [])
 |var {ns s}:ns.any (·==s)=true->Good ns (.mk 1 0 s [] [] [])
 |fail {ns}:Good ns (.mk 11 0 [] [] [] [])
 |app {ns a b}:Good ns a->Good ns b->Good ns (.mk 4 0 [] [a,b] [] [])
 |rH {ns s a b}:(rF s==[])=false->Good ns a->Good ns b->Good ns (.mk 10 0 s [a,b] [] [])
 |lt {ns b bs}:iQ (bs.map Prod.fst)=false->(∀p∈bs,Good (ns++bs.map Prod.fst) p.2)->Good (ns++bs.map Prod.fst) b->Good ns (.mk 8 0 [] [b] bs [])
 |qX {ns x al}:Good ns x->(∀a∈al,Lm a.1)->(∀a∈al,Good (ns++a.1.vars) a.2)->Good ns (.mk 9 0 [] [x] [] al)
section
variable{f n:Int}{s:Tx}{ks:List Co}{bs:List (Tx×Co)}{al:List (Hd×Co)}
theorem co:(Co.mk f n s ks bs al).f=f/\(Co.mk f n s ks bs al).n=n/\(Co.mk f n s ks bs al).s=s/\(Co.mk f n s ks bs al).ks=ks/\(Co.mk f n s ks bs al).bs=bs/\(Co.mk f n s ks bs al).al=al:=⟨rfl,rfl,rfl,rfl,rfl,rfl⟩
end
theorem Vl(c:Co)(x:Co)(h:x∈eT c):x.size<c.size:=by
 have hs:=jD c;simp only[eT,bJ,bF]at h;rcases h with(⟨p,hp,rfl⟩|h)|⟨p,hp,rfl⟩
 ·have:=xB c.bs p hp;omega
 ·have:=Bn c.ks x h;omega
 ·have:=qP c.al p hp;omega
/-! ### Forms -/
def ve:fC:=[(Ya,ig)]
section
variable{C:eV}{n:Nat}{O:Store}
def wS(c:Co)(i:Nat):Env:={slots:=[(4,⟨false,.int .i64 i⟩)],dR:=[(1,1,0)],boxes:=[(1,bC c)],defers:=[]}
theorem zjzb(c:Co):exec C n none zU (wS c c.al.length) O=some (.exit 1,{wS c c.al.length with slots:=[(4,⟨false,.int .i64 c.al.length⟩),(90,⟨false,.bool false⟩)]},O):=by
 have hi:¬((c.al.length:Int)<(c.al.length:Int)):=by omega
 simp only[zU,wS,bC,sA,seval,kn,mT,hi]
end
section
variable{C:eV}{n:Nat}{O:Store}
end
section
variable{C:eV}{n:Nat}{O:Store}
end
theorem zvb{ns:List Tx}{c:Co}(h:Good ns c):iQ (c.bs.map Prod.fst)=false:=by cases h<;>first|rfl|assumption
theorem XI{ns:List Tx}{c:Co}(h:Good ns c):∀a∈c.al,Lm a.1:=by cases h<;>first|(intro a ha;cases ha;done)|assumption
section
variable{C:eV}{n:Nat}{O:Store}
def Iy(ns:List Tx)(c:Co)(i:Nat):Env:={slots:=[(0,⟨false,gJ FL⟩),(1,⟨false,dG ns⟩),(9,⟨false,.int .i64 i⟩)],dR:=[(5,5,0)],boxes:=[(5,bC c)],defers:=[]}
theorem zjvb(ns:List Tx)(c:Co):exec C n none Ss (Iy ns c c.al.length) O=some (.exit 0,{Iy ns c c.al.length with slots:=[(0,⟨false,gJ FL⟩),(1,⟨false,dG ns⟩),(9,⟨false,.int .i64 c.al.length⟩),(50,⟨false,.bool false⟩)]},O):=by
 have hi:¬((c.al.length:Int)<(c.al.length:Int)):=by omega
 simp only[Ss,Iy,bC,sA,seval,kn,mT,hi]
def Nu(ns:List Tx)(c:Co)(i:Nat):Env:={slots:=[(0,⟨false,gJ FL⟩),(1,⟨false,dG ns⟩),(11,⟨false,iI (eT c)⟩),(12,⟨false,.int .i64 i⟩)],dR:=[(5,5,0)],boxes:=[(5,bC c)],defers:=[]}
theorem zjxb(ns:List Tx)(c:Co):exec C n none Xq (Nu ns c (eT c).length) O=some (.exit 2,{Nu ns c (eT c).length with slots:=[(0,⟨false,gJ FL⟩),(1,⟨false,dG ns⟩),(11,⟨false,iI (eT c)⟩),(12,⟨false,.int .i64 (eT c).length⟩),(84,⟨false,.bool false⟩)]},O):=by
 have hi:¬(((eT c).length:Int)<((eT c).length:Int)):=by omega
 simp only[Xq,Nu,bC,sA,seval,kn,nX,hi]
end
theorem zyh{ns:List Tx}{c:Co}(h:Good ns c):(c.f=1/\ns.any (·==c.s)=true)\/(c.f=2/\rB FL c.s (-1)=true)\/((c.f==1)=false/\(c.f==2)=false):=by
 cases h with
 |int _=>exact .inr (.inr ⟨rfl,rfl⟩)
 |wu h=>exact .inr (.inl ⟨rfl,h⟩)
 |var h=>exact .inl ⟨rfl,h⟩
 |fail=>exact .inr (.inr ⟨rfl,rfl⟩)
 |app _ _=>exact .inr (.inr ⟨rfl,rfl⟩)
 |rH _ _ _=>exact .inr (.inr ⟨rfl,rfl⟩)
 |lt _ _ _=>exact .inr (.inr ⟨rfl,rfl⟩)
 |qX _ _ _=>exact .inr (.inr ⟨rfl,rfl⟩)
def cU(u:Su):List D:=.str u.name::dG u.ps::pH u.body
theorem Wc(u:Su):(dU u).sE=some (cU u):=rfl
theorem sY(u:Su):dU u=.agg (cU u):=rfl
theorem W9(u:Su):Mx.part none (cU u) 0=some (.str u.name)/\Mx.part none (cU u) 1=some (dG u.ps)/\Mx.part (some 10) (cU u) 2=some (dM u.body):=by refine⟨rfl,rfl,?_⟩;rw[<-jh];rfl
theorem qi(u:Su):(dU u).ok=true:=by rw[sY];simp only[D.ok]
theorem CQ(u:Su):(dU u).cells.length=12:=rfl
theorem nY(l:List Su):lenOf (eG l)=some l.length:=uK _ l
theorem zL(l:List Su)(i:Nat)(h:i<l.length):kU 12 (eG l) i=some (.gC (dU l[i])):=uJ rfl _ _ _ h
theorem CP(l:List Su):nK (eG l)=some (l.map dU):=Vi
section
variable{C:eV}{n:Nat}{O:Store}
def vC(fs:List Fd)(us:List Su)(i:Nat):Env:={slots:=[(0,⟨false,gJ fs⟩),(1,⟨false,eG us⟩),(6,⟨ow i,dG ((fs.take i).map Fd.name)⟩),(7,⟨false,.dN⟩),(8,⟨false,.int .i64 i⟩)],dR:=[],boxes:=[],defers:=[]}
theorem zfsb(fs:List Fd)(us:List Su)(i:Nat)(h:i<fs.length)(hl:fs.length<100000000):exec C n none P7 (vC fs us i) O=some (.normal,vC fs us (i+1),O):=by
 have hi:((i:Int)<(fs.length:Int)):=by omega
 have hx:=Hn fs i h;have ha:=Bf ((fs.take i).map Fd.name) fs[i].name (ow i) (fun h=>Yd (fun e=>h (by rw[e];rfl))) (by simp;omega);have e:(fs.take i).map Fd.name++[fs[i].name]=(fs.take (i+1)).map Fd.name:=by rw[<-mC fs i h,aU];rfl
 rw[e]at ha;simp only[dF]at hx;simp only[P7,vC,sA,seval,kn,Mx.part,uU,hi,hx,ha,iE (i:=i) (by omega),rA]
theorem zi5b(fs:List Fd)(us:List Su):exec C n none P7 (vC fs us fs.length) O=some (.exit 0,{vC fs us fs.length with slots:=[(0,⟨false,gJ fs⟩),(1,⟨false,eG us⟩),(6,⟨ow fs.length,dG (fs.map Fd.name)⟩),(7,⟨false,.dN⟩),(8,⟨false,.int .i64 fs.length⟩),(13,⟨false,.bool false⟩)]},O):=by
 have hi:¬((fs.length:Int)<(fs.length:Int)):=by omega
 simp only[P7,vC,sA,seval,kn,uU,hi,aV]
def Uk(fs:List Fd)(us:List Su)(i:Nat):Env:={slots:=[(1,⟨false,eG us⟩),(6,⟨ow (fs.length+i),dG (fs.map Fd.name++(us.take i).map Su.name)⟩),(7,⟨ow i,dG ((us.take i).map Su.name)⟩),(9,⟨false,.int .i64 i⟩)],dR:=[],boxes:=[],defers:=[]}
theorem PG{k:Nat}(h:k≠0):ow k=true:=by cases k with
 |zero=>exact absurd rfl h
 |succ k=>rfl
theorem zftb(fs:List Fd)(us:List Su)(i:Nat)(h:i<us.length)(hl:fs.length+us.length<100000000):exec C n none P8 (Uk fs us i) O=some (.normal,Uk fs us (i+1),O):=by
 have hi:((i:Int)<(us.length:Int)):=by omega
 have hx:=zL us i h;have hp:=W9 us[i];have e:(us.take i).map Su.name++[us[i].name]=(us.take (i+1)).map Su.name:=by rw[<-mC us i h,aU];rfl
 have ha:=Bf (fs.map Fd.name++(us.take i).map Su.name) us[i].name (ow (fs.length+i)) (fun h2=>PG (fun e=>by
  have h3:fs.length=0:=by omega
  have h4:i=0:=by omega
  subst h4;have:fs=[]:=bL h3;subst this;exact h2 rfl)) (by simp;omega)
 have hb:=Bf ((us.take i).map Su.name) us[i].name (ow i) (fun h=>Yd (fun e=>h (by rw[e];rfl))) (by simp;omega);rw[bR,e]at ha;rw[e]at hb;have e2:ow (fs.length+(i+1))=true:=rfl;simp only[P8,Uk,sA,seval,kn,nY,hi,hx,Wc,hp,ha,hb,iE (i:=i) (by omega),rA,e2]
theorem zi6b(fs:List Fd)(us:List Su):exec C n none P8 (Uk fs us us.length) O=some (.exit 2,{Uk fs us us.length with slots:=[(1,⟨false,eG us⟩),(6,⟨ow (fs.length+us.length),dG (fs.map Fd.name++us.map Su.name)⟩),(7,⟨ow us.length,dG (us.map Su.name)⟩),(9,⟨false,.int .i64 us.length⟩),(27,⟨false,.bool false⟩)]},O):=by
 have hi:¬((us.length:Int)<(us.length:Int)):=by omega
 simp only[P8,Uk,sA,seval,kn,nY,hi,aV]
end
theorem zvy(fs:List Fd)(us:List Su)(hl:fs.length+us.length<100000000):eW IL [gJ fs,eG us] ⟨false,.fN [dG (fs.map Fd.name++us.map Su.name),dG (us.map Su.name)]⟩:=by refine jH (af:=RJ) (n:=fs.length+us.length+1) (O':=cH) (jG [] 1) rfl rfl (by simp[fO,Jr,uD]) (by simp[iF,fO,jY]) ?_;have h1:=nI (body:=exec (T [] 1) (fs.length+us.length+1) none P7) (vC fs us) (fun _=>cH) fs.length (r:=_) (fun _ _ h=>by cases h) (fun i hi=>zfsb fs us i hi (by omega)) (zi5b fs us) 0 (fs.length+us.length+1) (by omega) (by omega);have h2:=nI (body:=exec (T [] 1) (fs.length+us.length+1) none P8) (Uk fs us) (fun _=>cH) us.length (r:=_) (fun _ _ h=>by cases h) (fun i hi=>zftb fs us i hi (by omega)) (zi6b fs us) 0 (fs.length+us.length+1) (by omega) (by omega);have e1:dG []=.dN:=rfl;simp only[vC,iG,List.take_zero,aZ,e1,yW]at h1;simp only[Uk,iG,List.take_zero,aZ,bQ,e1,yW,Nat.add_zero]at h2;simp only[RJ,sA,seval,kn,h1,h2]
def zff:List D->Cell->Prop:=fun ds c=>∀fs us,ds=[gJ fs,eG us]->c=⟨false,.fN [dG (fs.map Fd.name++us.map Su.name),dG (us.map Su.name)]⟩
theorem zui{S:fC}(hS:dC S IL=some zff)(fs:List Fd)(us:List Su)(hl:fs.length+us.length<100000000)(n:Nat)(O:Store):T S (n+1) IL [gJ fs,eG us] O=some (.ret ⟨false,.fN [dG (fs.map Fd.name++us.map Su.name),dG (us.map Su.name)]⟩,O):=by
 obtain⟨c,h1,h2⟩:=lD (S:=S) hS rfl (c:=⟨false,.fN [dG (fs.map Fd.name++us.map Su.name),dG (us.map Su.name)]⟩) (fun a b e=>by
  simp only[aL,and_true]at e;rw[zmrb e.1,DX e.2]) (zvy fs us hl)
 rw[h2,h1 fs us rfl]
structure FH(us:List Su):Prop where
 few:us.length<1000
 once:iQ (FL.map Fd.name++us.map Su.name)=false
 ps:∀u∈us,iQ u.ps=false/\u.ps.length<1000
 body:∀u∈us,Good (us.map Su.name++u.ps) u.body/\u.body.size<10000000
section
variable{C:eV}{n:Nat}{O:Store}
def Nw(us:List Su)(al:D)(i:Nat):Env:={slots:=[(0,⟨false,gJ FL⟩),(1,⟨false,eG us⟩),(5,⟨false,al⟩),(6,⟨false,dG (us.map Su.name)⟩),(7,⟨false,.int .i64 i⟩)],dR:=[],boxes:=[],defers:=[]}
theorem zj8b(us:List Su)(al:D):exec C n none Xm (Nw us al us.length) O=some (.exit 0,{Nw us al us.length with slots:=[(0,⟨false,gJ FL⟩),(1,⟨false,eG us⟩),(5,⟨false,al⟩),(6,⟨false,dG (us.map Su.name)⟩),(7,⟨false,.int .i64 us.length⟩),(24,⟨false,.bool false⟩)]},O):=by
 have hi:¬((us.length:Int)<(us.length:Int)):=by omega
 simp only[Xm,Nw,sA,seval,kn,nY,hi]
def Ny(us:List Su)(i:Nat):Env:={slots:=[(0,⟨false,gJ FL⟩),(1,⟨false,eG us⟩),(6,⟨false,dG (us.map Su.name)⟩),(13,⟨false,.int .i64 i⟩)],dR:=[],boxes:=[],defers:=[]}
theorem zj9b(us:List Su):exec C n none Xn (Ny us us.length) O=some (.exit 4,{Ny us us.length with slots:=[(0,⟨false,gJ FL⟩),(1,⟨false,eG us⟩),(6,⟨false,dG (us.map Su.name)⟩),(13,⟨false,.int .i64 us.length⟩),(67,⟨false,.bool false⟩)]},O):=by
 have hi:¬((us.length:Int)<(us.length:Int)):=by omega
 simp only[Xn,Ny,sA,seval,kn,nY,hi]
end
end Go.Fu

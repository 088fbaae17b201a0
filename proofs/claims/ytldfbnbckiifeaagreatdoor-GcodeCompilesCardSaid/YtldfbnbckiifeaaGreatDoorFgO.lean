/- A part of the proof. -/
import Derived.Test.YtldfbnbckiifeaaGreatDoorFgJ
set_option maxHeartbeats 4000000
set_option linter.all false
namespace Go.Fu
open Go Go.Mx
set_option maxRecDepth 10000
section
variable{C:eV}{n:Nat}{O:Store}
def vB(x m:Int)(s:Tx):Env:={slots:=[(0,⟨false,.int .i64 x⟩),(3,⟨false,.str s⟩),(4,⟨false,.int .i64 m⟩)],dR:=[],boxes:=[],defers:=[]}
def Fz(d:Nat):UInt8:=UInt8.ofNat (48+d)
theorem zhk(d:Nat)(h:d<10):Jv [.int .u8 (IntKind.u8.wrap (48+(d:Int)))]=some [Fz d]:=by have hw:IntKind.u8.wrap (48+(d:Int))=((48+d:Nat):Int):=(by simp[IntKind.wrap,IntKind.bits,IntKind.signed];omega);rw[hw];have h1:decide ((0:Int)<=((48+d:Nat):Int))=true:=decide_eq_true (by omega);have h2:decide (((48+d:Nat):Int)<256)=true:=decide_eq_true (by omega);simp only[Jv,h1,h2,aY,dQ,dH,eP,Int.toNat_natCast,Fz]
theorem zch(a:Nat):(-(a:Int)).tmod 10=-((a%10:Nat):Int):=by rw[Int.neg_tmod,Int.tmod_eq_emod_of_nonneg (by omega)];omega
theorem zcg(a:Nat):(-(a:Int)).tdiv 10=-((a / 10:Nat):Int):=by rw[Int.neg_tdiv,Int.tdiv_eq_ediv_of_nonneg (by omega)];omega
theorem zwx(a:Nat):((a:Int)).tmod 10=((a%10:Nat):Int):=by rw[Int.tmod_eq_emod_of_nonneg (by omega)];omega
theorem zwu(a:Nat):((a:Int)).tdiv 10=((a / 10:Nat):Int):=by rw[Int.tdiv_eq_ediv_of_nonneg (by omega)];omega
theorem zh7b(x:Int)(a:Nat)(s:Tx)(ha:a<=9223372036854775808)(hs:s.length<1000)(hc:a≠0\/s=[])(hsm:a<=9223372036854775807):exec C n none Ep (vB x a s) O=some (.normal,vB x ((a / 10:Nat):Int) (Fz (a%10)::s),O):=by
 have hb:=zhk (a%10) (by omega);have hlt:¬(((a%10:Nat):Int)<0):=by omega
 have w1:IntKind.i64.wrap (48+((a%10:Nat):Int))=48+((a%10:Nat):Int):=lV (by omega) (by omega);have w2:IntKind.i64.wrap ((a / 10:Nat):Int)=((a / 10:Nat):Int):=lV (by omega) (by omega);have hl:(0+1+s.length<=281474976710656):=by omega
 have hl2:(1+s.length<=281474976710656):=by omega
 by_cases h0:a=0
 ·subst h0;have hs0:s=[]:=hc.resolve_left (by simp);subst hs0;have e1:(((0:Nat):Int) != 0)=false:=rfl;simp only[Nat.zero_mod,Nat.zero_div]at hb hlt w1 w2 ⊢;simp only[Ep,vB,sA,seval,kn,iG,Int.zero_tmod]at hb hlt w1 w2 ⊢;rfl
 ·have e1:((a:Int) != 0)=true:=by simp;omega
  simp only[Ep,vB,sA,seval,kn,e1,zwx,zwu,hlt,w1,w2,hb,hl]
theorem zh6b(x:Int)(a:Nat)(s:Tx)(ha:a<=9223372036854775808)(hs:s.length<1000)(h0:a≠0):exec C n none Ep (vB x (-(a:Int)) s) O=some (.normal,vB x (-((a / 10:Nat):Int)) (Fz (a%10)::s),O):=by
 have hb:=zhk (a%10) (by omega);have w1:IntKind.i64.wrap (48+((a%10:Nat):Int))=48+((a%10:Nat):Int):=lV (by omega) (by omega);have w2:IntKind.i64.wrap (-((a / 10:Nat):Int))=-((a / 10:Nat):Int):=lV (by omega) (by omega);have w3:IntKind.i64.wrap (0 - -((a%10:Nat):Int))=((a%10:Nat):Int):=by rw[lV (by omega) (by omega)];omega
 have hl:(0+1+s.length<=281474976710656):=by omega
 have hl2:(1+s.length<=281474976710656):=by omega
 have e1:((-(a:Int)) != 0)=true:=by simp;omega
 by_cases hlt:(-((a%10:Nat):Int))<0
 ·simp only[Ep,vB,sA,seval,kn,e1,zch,zcg,hlt,w1,w2,w3,hb,hl]
 ·have hz:a%10=0:=by omega
  have e2:-((a%10:Nat):Int)=((a%10:Nat):Int):=by omega
  rw[e2]at hlt;simp only[Ep,vB,sA,seval,kn,e1,zch,zcg,e2,hlt,w1,w2,hb,hl]
theorem zh5b(x:Int)(s:Tx)(h:s≠[]):exec C n none Ep (vB x 0 s) O=some (.exit 0,{vB x 0 s with slots:=[(0,⟨false,.int .i64 x⟩),(3,⟨false,.str s⟩),(4,⟨false,.int .i64 0⟩),(12,⟨false,.bool false⟩)]},O):=by
 have e:(s==[])=false:=by cases s with
  |nil=>exact absurd rfl h
  |cons a b=>rfl
 simp only[Ep,vB,sA,seval,kn,e]
theorem NL:∀(k a:Nat)(s:Tx),(vM k a s).length<=s.length+k
 |0,a,s=>by simp[vM]
 |k+1,a,s=>by
  unfold vM;by_cases h:a<10
  ·rw[decide_eq_true h];simp only[dQ,aG];omega
  ·rw[decide_eq_false h];simp only[dX];have:=NL k (a / 10) (UInt8.ofNat (48+a%10)::s);simp only[aG]at this;omega
theorem bq(x:Int)(neg:Bool):∀(k a:Nat)(s:Tx)(m:Nat),1<=k->a<10^k->(a≠0\/(s=[]/\neg=false))->s.length+k<1000->k<m->a<=9223372036854775808->(neg=false->a<=9223372036854775807) ->
  jI (exec C n none Ep) m (vB x (dK neg (-(a:Int)) a) s) O=some (.exit 0,{vB x 0 s with slots:=[(0,⟨false,.int .i64 x⟩),(3,⟨false,.str (vM k a s)⟩),(4,⟨false,.int .i64 0⟩),(12,⟨false,.bool false⟩)]},O)
 |0,a,s,m,h1,hk,hc,hs,hm,ha,hp=>by omega
 |k+1,a,s,m,h1,hk,hc,hs,hm,ha,hp=>by
  obtain⟨m,rfl⟩:∃m',m=m'+1:=⟨m-1,by omega⟩;have hstep:exec C n none Ep (vB x (dK neg (-(a:Int)) a) s) O=some (.normal,vB x (dK neg (-((a / 10:Nat):Int)) ((a / 10:Nat):Int)) (Fz (a%10)::s),O):=by
   cases neg with
   |false=>exact zh7b x a s ha (by omega) (hc.imp id fun h=>h.1) (hp rfl)
   |true=>exact zh6b x a s ha (by omega) (hc.resolve_right fun h=>by cases h.2)
  rw[rK hstep];by_cases h10:a<10
  ·have e:a / 10=0:=by omega
   have e2:a%10=a:=by omega
   have e3:vM (k+1) a s=Fz a::s:=(by unfold vM;rw[decide_eq_true h10];rfl);have e4:dK neg (-((0:Nat):Int)) ((0:Nat):Int)=0:=by cases neg<;>rfl
   obtain⟨m,rfl⟩:∃m',m=m'+1:=⟨m-1,by omega⟩;rw[e,e2,e3,e4];rw[rW (zh5b x (Fz a::s) (by simp))];rfl
  ·have e3:vM (k+1) a s=vM k (a / 10) (Fz (a%10)::s):=(by rw[vM,decide_eq_false h10];rfl);have hk1:1<=k:=by
    cases k with
    |zero=>simp at hk;omega
    |succ k=>omega
   have ih:=bq x neg k (a / 10) (Fz (a%10)::s) m hk1 (by rw[Nat.pow_succ]at hk;omega) (.inl (by omega)) (by simp;omega) (by omega) (by omega) (fun h=>by have:=hp h;omega);rw[e3,ih];rfl
end
theorem zra(x:Int)(hx:Small x):eW IG [.int .i64 x] ⟨false,.str (sK x)⟩:=by
 refine jH (af:=FN) (n:=30) (O':=cH) (jG [] 1) rfl rfl rfl rfl ?_;unfold Small at hx;cases x with
 |ofNat a =>
  have hx1:(a:Int)<=9223372036854775807:=hx.2;have h:=bq (C:=T [] 1) (n:=30) (O:=cH) (Int.ofNat a) false 20 a [] 30 (by omega) (by omega) (by by_cases h:a=0;exact .inr ⟨rfl,rfl⟩;exact .inl h) (by simp) (by omega) (by omega) (fun _=>by omega);have hlt:¬(Int.ofNat a<0):=by simp
  simp only[vB,dX]at h;have ei:((a:Nat):Int)=Int.ofNat a:=rfl;rw[ei]at h;simp only[FN,sA,seval,kn,h,hlt,sK,Td]
 |negSucc a =>have hx1:-9223372036854775808<=Int.negSucc a:=hx.1;have h:=bq (C:=T [] 1) (n:=30) (O:=cH) (Int.negSucc a) true 20 (a+1) [] 30 (by omega) (by omega) (.inl (by omega)) (by simp) (by omega) (by omega) (fun h=>by cases h);have hlt:(Int.negSucc a<0):=Int.negSucc_lt_zero a;simp only[vB,dQ]at h;have ei:-((a+1:Nat):Int)=Int.negSucc a:=rfl;rw[ei]at h;have hl:(0+1+(vM 20 (a+1) []).length<=281474976710656):=(by have:=NL 20 (a+1) [];simp only[aH]at this;omega);simp only[FN,sA,seval,kn,h,hlt,hl,sK,Td]
def zdt:List D->Cell->Prop:=fun ds c=>∀x,ds=[.int .i64 x]->c=⟨false,.str (sK x)⟩
theorem zri{S:fC}(hS:dC S IG=some zdt)(x:Int)(hx:Small x)(n:Nat)(O:Store):T S (n+1) IG [.int .i64 x] O=some (.ret ⟨false,.str (sK x)⟩,O):=by
 obtain⟨c,h1,h2⟩:=lD (S:=S) hS rfl (c:=⟨false,.str (sK x)⟩) (fun l' e=>by
  simp only[aL,D.int.injEq,true_and,and_true]at e;rw[e]) (zra x hx)
 rw[h2,h1 x rfl]
def gY(s:Tx):Co:=.mk 1 0 s [] [] []
def Df'(a b:Co):Co:=.mk 4 0 [] [a,b] [] []
def pB(c:Co):List Tx->Co
 |[]=>c
 |s::l=>pB (Df' c (gY s)) l
theorem za3(c:Co)(l:List Tx)(s:Tx):pB c (l++[s])=Df' (pB c l) (gY s):=by
 induction l generalizing c with
 |nil=>rfl
 |cons x r ih=>simp only[aW,pB,ih]
theorem zfb(s:Tx):(gY s).size=1:=by simp[gY,Co.size,fV,gG,gP]
theorem zcyb(a b:Co):(Df' a b).size=1+a.size+b.size:=by simp[Df',Co.size,fV,gG,gP];omega
theorem zs6(c:Co)(l:List Tx):(pB c l).size=c.size+2*l.length:=by
 induction l generalizing c with
 |nil=>simp[pB]
 |cons x r ih=>simp only[pB,ih,zcyb,zfb,aG];omega
section
variable{C:eV}{n:Nat}{O:Store}
def Np(s:Tx)(l:List Tx)(i:Nat):Env:={slots:=[(1,⟨false,dG l⟩),(6,⟨false,.int .i64 i⟩)],dR:=[(4,4,0),(5,5,0)],boxes:=[(4,[⟨false,.int .i64 0⟩,⟨false,.int .i64 0⟩,⟨false,.str []⟩,⟨false,.int .i64 0⟩,⟨false,.int .i64 0⟩,⟨false,.str []⟩,⟨false,.dN⟩,⟨false,.dN⟩,⟨false,.dN⟩,⟨false,.dN⟩]),(5,bC (pB (gY s) (l.take i)))],defers:=[]}
theorem zhn:iI []=.dN/\lZ []=.dN/\pV []=.dN:=⟨rfl,rfl,rfl⟩
theorem dCs2(a b:Co):iI [a,b]=.list gV [dM a,dM b]:=rfl
theorem ze2b(s:Tx)(l:List Tx)(i:Nat)(h:i<l.length)(hl:l.length<100000000):exec C n none P5 (Np s l i) O=some (.normal,Np s l (i+1),O):=by
 have hi:((i:Int)<(l.length:Int)):=by omega
 rw[Np,Np,<-mC l i h,za3];have hx:=sZ l i h;simp only[P5,bC,sA,seval,kn,lE,hi,hx,iE (i:=i) (by omega),Df',co,zhn,dCs2,eO,eX,gY]
theorem zimb(s:Tx)(l:List Tx):exec C n none P5 (Np s l l.length) O=some (.exit 0,{Np s l l.length with slots:=[(1,⟨false,dG l⟩),(6,⟨false,.int .i64 l.length⟩),(12,⟨false,.bool false⟩)]},O):=by
 have hi:¬((l.length:Int)<(l.length:Int)):=by omega
 simp only[P5,Np,bC,sA,seval,kn,lE,hi]
end
theorem zu9(s:Tx)(l:List Tx)(hl:l.length<100000000):eW IJ [.str s,dG l] ⟨false,dM (pB (gY s) l)⟩:=by refine jH (af:=RG) (n:=l.length+1) (O':=cH) (jG [] 1) rfl rfl (by simp[fO,iF,jY]) (mL _) ?_;have h1:=nI (body:=exec (T [] 1) (l.length+1) none P5) (Np s l) (fun _=>cH) l.length (r:=_) (fun _ _ h=>by cases h) (fun i hi=>ze2b s l i hi hl) (zimb s l) 0 (l.length+1) (by omega) (by omega);simp only[Np,iG,List.take_zero,pB,gY,bC,co,zhn,aV]at h1;simp only[RG,sA,seval,kn,h1,eO,eX,gY]
def zfe:List D->Cell->Prop:=fun ds c=>∀s l,ds=[.str s,dG l]->c=⟨false,dM (pB (gY s) l)⟩
theorem zuh{S:fC}(hS:dC S IJ=some zfe)(s:Tx)(l:List Tx)(hl:l.length<100000000)(n:Nat)(O:Store):T S (n+1) IJ [.str s,dG l] O=some (.ret ⟨false,dM (pB (gY s) l)⟩,O):=by
 obtain⟨c,h1,h2⟩:=lD (S:=S) hS rfl (c:=⟨false,dM (pB (gY s) l)⟩) (fun s' l' e=>by
  simp only[aL,D.str.injEq,and_true]at e;rw[e.1,lN e.2]) (zu9 s l hl)
 rw[h2,h1 s l rfl]
def wI(l:List Tx)(s:Tx):Bool:=l.any (·==s)
def c0:Co:=.mk 0 0 [] [] [] []
def pP(c:Co)(g s h:List Tx):Bool:=(((c.f==1)&&!wI g c.s)&&wI s c.s)&&!wI h c.s
def jO:Nat->Co->List Tx->List Tx->List Tx->List Tx
 |0,_,_,_,h=>h
 |k+1,c,g,s,h=>dK (pP c g s h) (h++[c.s]) ((List.range (eT c).length).foldl (fun h i=>jO k ((eT c).getD i c0) (g++lC c i) s h) h)
theorem Vn{α β:Type}{f g:β->α->β}:∀(l:List α)(b:β),(∀a∈l,∀b,f b a=g b a)->l.foldl f b=l.foldl g b
 |[],_,_=>rfl
 |a::l,b,h=>by
  simp only[List.foldl_cons];rw[h a (aQ ..) b];exact Vn l _ fun x hx=>h x (aI _ hx)
theorem zu7:∀(m:Nat)(c:Co),c.size=m->∀(k k':Nat)(g s h:List Tx),c.size<=k->c.size<=k'->jO k c g s h=jO k' c g s h:=by
 intro m;induction m using Nat.strongRecOn with
 |ind m ih =>intro c hm k k' g s h hk hk';have hp:=lT c;obtain⟨k,rfl⟩:∃j,k=j+1:=⟨k-1,by omega⟩;obtain⟨k',rfl⟩:∃j,k'=j+1:=⟨k'-1,by omega⟩;simp only[jO];congr 1;refine Vn _ _ fun i hi b=>?_;have hi:=List.mem_range.1 hi;rw[iU _ _ _ hi];have hlt:=Vl c _ (aX hi);exact ih _ (by omega) _ rfl _ _ _ _ _ (by omega) (by omega)
theorem BS:∀(m:Nat)(c:Co)(g s h:List Tx),(jO m c g s h).length<=h.length+c.size
 |0,c,g,s,h=>by simp[jO]
 |m+1,c,g,s,h=>by
  simp only[jO];have hp:=lT c;cases pP c g s h with
  |true=>simp only[dQ,aF,aG,aH];omega
  |false =>
   simp only[dX];have hf:∀(n:Nat)(h:List Tx),n<=(eT c).length->((List.range n).foldl (fun h i=>jO m ((eT c).getD i c0) (g++lC c i) s h) h).length<=h.length+fV ((eT c).take n):=by
    intro n;induction n with
    |zero=>intro h _;simp
    |succ n yn =>intro h hn;rw[List.range_succ,List.foldl_append];simp only[List.foldl_cons,List.foldl_nil];have h1:=BS m ((eT c).getD n c0) (g++lC c n) s ((List.range n).foldl (fun h i=>jO m ((eT c).getD i c0) (g++lC c i) s h) h);have h2:=yn h (by omega);rw[<-mC (eT c) n (by omega),Ot];rw[iU _ _ _ (show n<(eT c).length by omega)]at h1 ⊢;simp only[fV,Nat.add_zero];omega
   have:=hf (eT c).length h (aM _);rw[aV]at this;have hs:fV (eT c)<=c.size:=by
    have hsz:=jD c;have hbs:∀l:List (Tx×Co),fV (l.map Prod.snd)<=gG l:=by
     intro l;induction l with
     |nil=>simp[fV,gG]
     |cons x r ih=>obtain⟨t,d⟩:=x;simp only[aO,fV,gG];omega
    have iV:∀l:List (Hd×Co),fV (l.map Prod.snd)<=gP l:=by
     intro l;induction l with
     |nil=>simp[fV,gP]
     |cons x r ih=>obtain⟨t,d⟩:=x;simp only[aO,fV,gP];omega
    rw[eT,Ot,Ot];have:=hbs c.bs;have:=iV c.al;omega
   omega
def Ak:fC:=[(Im,ql),(Fe,DD),(Fb,ZV),(mJ,Wu),(Il,fun ds c=>∀co g s h,ds=[dM co,dG g,dG s,dG h]->c=⟨false,dG (jO co.size co g s h)⟩)]
def zg9:List D->Cell->Prop:=fun ds c=>∀co g s h,ds=[dM co,dG g,dG s,dG h]->c=⟨false,dG (jO co.size co g s h)⟩
theorem zbn{S:fC}(hS:dC S Il=some zg9)(co:Co)(g s h:List Tx)(hp:eW Il [dM co,dG g,dG s,dG h] ⟨false,dG (jO co.size co g s h)⟩)(n:Nat)(O:Store):T S (n+1) Il [dM co,dG g,dG s,dG h] O=some (.ret ⟨false,dG (jO co.size co g s h)⟩,O):=by
 obtain⟨c,h1,h2⟩:=lD (S:=S) hS rfl (c:=⟨false,dG (jO co.size co g s h)⟩) (fun JX g' s' h' e=>by
  simp only[aL,and_true]at e;rw[qO e.1,lN e.2.1,lN e.2.2.1,lN e.2.2.2]) hp
 rw[h2,h1 co g s h rfl]
section
variable{C:eV}{n:Nat}{O:Store}
def wH(c:Co)(g s h:List Tx)(i:Nat):List Tx:=(List.range i).foldl (fun h i=>jO ((eT c).getD i c0).size ((eT c).getD i c0) (g++lC c i) s h) h
theorem zc4(c:Co)(g s h:List Tx)(i:Nat)(hi:i<(eT c).length):wH c g s h (i+1)=jO (eT c)[i].size (eT c)[i] (g++lC c i) s (wH c g s h i):=by rw[wH,List.range_succ,List.foldl_append];simp only[List.foldl_cons,List.foldl_nil,iU _ _ _ hi];rfl
theorem za7b(c:Co)(g s h:List Tx)(hn:pP c g s h=false):wH c g s h (eT c).length=jO c.size c g s h:=by have hp:=lT c;obtain⟨k,hk⟩:∃k,c.size=k+1:=⟨c.size-1,by omega⟩;rw[hk];simp only[jO,hn,dX,wH];refine Vn _ _ fun i hi b=>?_;have hi:=List.mem_range.1 hi;rw[iU _ _ _ hi];have hlt:=Vl c _ (aX hi);exact zu7 _ _ rfl _ _ _ _ _ (aM _) (by omega)
def Ug(c:Co)(g s h:List Tx)(i:Nat):Env:={slots:=[(1,⟨false,dG g⟩),(2,⟨false,dG s⟩),(3,⟨false,dG (wH c g s h i)⟩),(12,⟨false,iI (eT c)⟩),(13,⟨false,.int .i64 i⟩)],dR:=[(4,4,0)],boxes:=[(4,bC c)],defers:=[]}
theorem zevb(c:Co)(g s h:List Tx)(i:Nat)(hi:i<(eT c).length)(hl:(eT c).length<100000000)(hg:C Fb [dM c,.int .i64 i] O=some (.ret ⟨false,dG (lC c i)⟩,O))(hb:C mJ [dG g,dG (lC c i)] O=some (.ret ⟨false,dG (g++lC c i)⟩,O))
  (hc:C Il [dM (eT c)[i],dG (g++lC c i),dG s,dG (wH c g s h i)] O=some (.ret ⟨false,dG (jO (eT c)[i].size (eT c)[i] (g++lC c i) s (wH c g s h i))⟩,O)):exec C n none L8 (Ug c g s h i) O=some (.normal,Ug c g s h (i+1),O):=by
 have hlt:((i:Int)<((eT c).length:Int)):=by omega
 have hx:=GN (eT c) i hi;have hd:=eO (eT c)[i];rw[<-zc4 c g s h i hi]at hc;rw[hd]at hc hx;rw[eO c,eX]at hg;simp only[L8,Ug,bC,sA,seval,kn,nX,hlt,hx,sX,hg,hb,hc,iE (i:=i) (by omega)]
theorem zifb(c:Co)(g s h:List Tx):exec C n none L8 (Ug c g s h (eT c).length) O=some (.exit 0,{Ug c g s h (eT c).length with slots:=[(1,⟨false,dG g⟩),(2,⟨false,dG s⟩),(3,⟨false,dG (wH c g s h (eT c).length)⟩),(12,⟨false,iI (eT c)⟩),(13,⟨false,.int .i64 (eT c).length⟩),(51,⟨false,.bool false⟩)]},O):=by
 have hi:¬(((eT c).length:Int)<((eT c).length:Int)):=by omega
 simp only[L8,Ug,bC,sA,seval,kn,nX,hi]
end
theorem zei(c:Co)(g s h:List Tx):∀i,i<=(eT c).length->(wH c g s h i).length<=h.length+fV ((eT c).take i)
 |0,_=>by simp[wH]
 |i+1,hi=>by
  rw[zc4 c g s h i (by omega)];have h1:=BS (eT c)[i].size (eT c)[i] (g++lC c i) s (wH c g s h i);have h2:=zei c g s h i (by omega);rw[<-mC (eT c) i (by omega),Ot];simp only[fV,Nat.add_zero];omega
theorem zzt(c:Co):fV (eT c)<=c.size:=by
 have hsz:=jD c;have hbs:∀l:List (Tx×Co),fV (l.map Prod.snd)<=gG l:=by
  intro l;induction l with
  |nil=>simp[fV,gG]
  |cons x r ih=>obtain⟨t,d⟩:=x;simp only[aO,fV,gG];omega
 have iV:∀l:List (Hd×Co),fV (l.map Prod.snd)<=gP l:=by
  intro l;induction l with
  |nil=>simp[fV,gP]
  |cons x r ih=>obtain⟨t,d⟩:=x;simp only[aO,fV,gP];omega
 rw[eT,Ot,Ot];have:=hbs c.bs;have:=iV c.al;omega
theorem zfk(l:List Co)(i:Nat)(h:i<l.length):fV (l.take i)+l[i].size<=fV l:=by
 have:fV l=fV (l.take (i+1))+fV (l.drop (i+1)):=by rw[<-Ot,List.take_append_drop]
 rw[this,<-mC l i h,Ot];simp only[fV];omega
theorem zbw(c:Co)(i:Nat)(hi:i<(eT c).length):(lC c i).length+(eT c)[i].size<=c.size:=by
 have hsz:=jD c;have hlen:=Vo c;have hb:=mY c.bs;unfold lC;split
 ·rw[iU _ _ _ (by simp;omega),List.getElem_map];have hm:=qP c.al _ (aX (show i-(c.bs.length+c.ks.length)<c.al.length by omega));have he:(eT c)[i]=c.al[i-(c.bs.length+c.ks.length)].2:=by
   simp only[eT];rw[bT (by simp;omega),List.getElem_map];congr 2;simp
  rw[he];omega
 ·rename_i hge;have hm:(eT c)[i].size<=gG c.bs-c.bs.length+fV c.ks:=by
   have hin:(eT c)[i]∈c.bs.map Prod.snd++c.ks:=(by simp only[eT];rw[bS (by simp;omega)];exact aX _);have hbl:∀(l:List (Tx×Co))(x:Tx×Co),x∈l->x.2.size+l.length<=gG l:=by
    intro l;induction l with
    |nil=>intro x hx;cases hx
    |cons y r ihl =>
     intro x hx;obtain⟨s,c'⟩:=y;simp only[gG,aG];rcases aS.1 hx with rfl|hx
     ·have:=mY r;simp only;omega
     ·have:=ihl x hx;omega
   rcases bJ.1 hin with h4|h4
   ·obtain⟨p,hp,e⟩:=bF.1 h4;have:=hbl c.bs p hp;rw[<-e];omega
   ·have:=Bn c.ks _ h4;omega
  simp;omega
theorem zxf:∀(k:Nat)(c:Co)(g s h:List Tx),c.size=k->g.length+c.size<100000000->h.length+c.size<100000000->s.length<100000000->eW Il [dM c,dG g,dG s,dG h] ⟨false,dG (jO c.size c g s h)⟩:=by
 intro k;induction k using Nat.strongRecOn with
 |ind k ih =>
  intro c g s h hk hl hlh hls;have hlen:=Vo c;have hsz:=jD c;have hb:=mY c.bs;have hks:=yY c.ks;have ha:=pY c.al;have hsp:=zzt c;have h1:=DV (S:=Ak) rfl g c.s (by omega) 0 cH;have h2:=DV (S:=Ak) rfl s c.s (by omega) 0 cH;have h3:=DV (S:=Ak) rfl h c.s (by omega) 0 cH;have h4:=LM (S:=Ak) rfl c (by omega) 0 cH;have hn1:∀l t,List.any l (fun x=>x==t)=wI l t:=fun _ _=>rfl;rw[hn1]at h1 h2 h3;cases hnew:pP c g s h with
  |true =>have hk2:jO c.size c g s h=h++[c.s]:=(by obtain⟨j,hj⟩:∃j,c.size=j+1:=⟨c.size-1,by have:=lT c;omega⟩;rw[hj,jO,hnew];rfl);rw[hk2];refine eW.weak (o:=true) rfl (jH (af:=Lp) (n:=1) (O':=cH) (jG Ak 1) rfl rfl (by simp[fO,mL,jY]) (jY _) ?_);simp only[pP,aC,Bool.not_eq_true']at hnew;obtain⟨⟨⟨e1,e2⟩,e3⟩,e4⟩:=hnew;rw[e2]at h1;rw[e3]at h2;rw[e4]at h3;have hap:=Bf h c.s true (fun _=>rfl) (by omega);simp only[Lp,sA,seval,kn,eO c,eX,h1,h2,h3,e1,CO,Kx h false (by omega),hap]
  |false =>
   refine jH (af:=Lp) (n:=c.size+1) (O':=cH) (jG Ak 1) rfl rfl (by simp[fO,mL,jY]) (jY _) ?_;have hg:∀i (hi:i<(eT c).length),T Ak 1 Fb [dM c,.int .i64 i] cH=some (.ret ⟨false,dG (lC c i)⟩,cH):=fun i hi=>zbq (S:=Ak) rfl c i hi (by omega) 0 cH;have Uu:∀i (hi:i<(eT c).length),T Ak 1 mJ [dG g,dG (lC c i)] cH=some (.ret ⟨false,dG (g++lC c i)⟩,cH):=fun i hi=>Vq (S:=Ak) rfl g (lC c i) (by have:=zbw c i hi;omega) 0 cH;have hrec:∀i (hi:i<(eT c).length),T Ak 1 Il [dM (eT c)[i],dG (g++lC c i),dG s,dG (wH c g s h i)] cH=some (.ret ⟨false,dG (jO (eT c)[i].size (eT c)[i] (g++lC c i) s (wH c g s h i))⟩,cH):=fun i hi=>by
    have hlt:=Vl c _ (aX hi);have hgs:=zbw c i hi;have hhl:=zei c g s h i (by omega);have htk:=zfk (eT c) i hi;exact zbn (S:=Ak) rfl _ _ _ _ (ih _ (by omega) (eT c)[i] _ _ _ rfl (by simp;omega) (by omega) hls) 0 cH
   have hl0:=nI (body:=exec (T Ak 1) (c.size+1) none L8) (Ug c g s h) (fun _=>cH) (eT c).length (r:=_) (fun _ _ h=>by cases h) (fun i hi=>zevb c g s h i hi (by omega) (hg i hi) (Uu i hi) (hrec i hi)) (zifb c g s h) 0 (c.size+1) (by omega) (by omega);rw[za7b c g s h hnew]at hl0;have hh0:wH c g s h 0=h:=rfl;simp only[Ug,bC,iG,hh0]at hl0;simp only[eO c,eX]at h4;simp only[pP]at hnew;cases e1:(c.f==1)with
   |false=>simp only[Lp,sA,seval,kn,eO c,eX,h1,h2,h3,h4,e1,hl0]
   |true =>
    cases e2:wI g c.s with
    |true =>rw[e2]at h1;simp only[Lp,sA,seval,kn,eO c,eX,h1,h2,h3,h4,e1,hl0]
    |false =>
     rw[e2]at h1;cases e3:wI s c.s with
     |false =>rw[e3]at h2;simp only[Lp,sA,seval,kn,eO c,eX,h1,h2,h3,h4,e1,hl0]
     |true =>rw[e3]at h2;simp only[e1,e2,e3,cC,aY,bX,Bool.not_eq_false']at hnew;rw[hnew]at h3;simp only[Lp,sA,seval,kn,eO c,eX,h1,h2,h3,h4,e1,hl0]
def iP(F:Co->List Su->Co×List Su):List (Tx×Co)->List Su->List (Tx×Co)×List Su
 |[],m=>([],m)
 |p::r,m=>((p.1,(F p.2 m).1)::(iP F r (F p.2 m).2).1,(iP F r (F p.2 m).2).2)
def jL(F:Co->List Su->Co×List Su):List Co->List Su->List Co×List Su
 |[],m=>([],m)
 |p::r,m=>((F p m).1::(jL F r (F p m).2).1,(jL F r (F p m).2).2)
def jT(F:Hd->Co->List Su->Co×List Su):List (Hd×Co)->List Su->List (Hd×Co)×List Su
 |[],m=>([],m)
 |p::r,m=>((p.1,(F p.1 p.2 m).1)::(jT F r (F p.1 p.2 m).2).1,(jT F r (F p.1 p.2 m).2).2)
theorem zdc(F:Co->List Su->Co×List Su)(p:Tx×Co):∀(l:List (Tx×Co))(m:List Su),iP F (l++[p]) m=((iP F l m).1++[(p.1,(F p.2 (iP F l m).2).1)],(F p.2 (iP F l m).2).2)
 |[],m=>rfl
 |q::l,m=>by simp only[aW,iP,zdc F p l]
theorem zdd(F:Co->List Su->Co×List Su)(p:Co):∀(l:List Co)(m:List Su),jL F (l++[p]) m=((jL F l m).1++[(F p (jL F l m).2).1],(F p (jL F l m).2).2)
 |[],m=>rfl
 |q::l,m=>by simp only[aW,jL,zdd F p l]
theorem zdb(F:Hd->Co->List Su->Co×List Su)(p:Hd×Co):∀(l:List (Hd×Co))(m:List Su),jT F (l++[p]) m=((jT F l m).1++[(p.1,(F p.1 p.2 (jT F l m).2).1)],(F p.1 p.2 (jT F l m).2).2)
 |[],m=>rfl
 |q::l,m=>by simp only[aW,jT,zdb F p l]
theorem XO{F G:Co->List Su->Co×List Su}:∀(l:List (Tx×Co))(m:List Su),(∀p∈l,∀m,F p.2 m=G p.2 m)->iP F l m=iP G l m
 |[],m,_=>rfl
 |p::l,m,h=>by
  simp only[iP];rw[h p (aQ ..) m,XO l _ fun q hq=>h q (aI _ hq)]
theorem XP{F G:Co->List Su->Co×List Su}:∀(l:List Co)(m:List Su),(∀p∈l,∀m,F p m=G p m)->jL F l m=jL G l m
 |[],m,_=>rfl
 |p::l,m,h=>by
  simp only[jL];rw[h p (aQ ..) m,XP l _ fun q hq=>h q (aI _ hq)]
theorem XN{F G:Hd->Co->List Su->Co×List Su}:∀(l:List (Hd×Co))(m:List Su),(∀p∈l,∀m,F p.1 p.2 m=G p.1 p.2 m)->jT F l m=jT G l m
 |[],m,_=>rfl
 |p::l,m,h=>by
  simp only[jT];rw[h p (aQ ..) m,XN l _ fun q hq=>h q (aI _ hq)]
theorem NS(F:Co->List Su->Co×List Su):∀(l:List (Tx×Co))(m:List Su),(iP F l m).1.length=l.length
 |[],m=>rfl
 |p::l,m=>by simp only[iP,aG,NS F l]
theorem NT(F:Co->List Su->Co×List Su):∀(l:List Co)(m:List Su),(jL F l m).1.length=l.length
 |[],m=>rfl
 |p::l,m=>by simp only[jL,aG,NT F l]
theorem NR(F:Hd->Co->List Su->Co×List Su):∀(l:List (Hd×Co))(m:List Su),(jT F l m).1.length=l.length
 |[],m=>rfl
 |p::l,m=>by simp only[jT,aG,NR F l]
theorem NC(F:Co->List Su->Co×List Su):∀(l:List (Tx×Co))(m:List Su),(∀p∈l,∀m,(F p.2 m).2.length<=m.length+p.2.size)->(iP F l m).2.length<=m.length+gG l
 |[],m,_=>by simp[iP]
 |(s,c)::l,m,h=>by
  have h1:=h (s,c) (aQ ..) m;have h2:=NC F l (F c m).2 fun q hq=>h q (aI _ hq);simp only[iP,gG]at h1 h2 ⊢;omega
theorem ND(F:Co->List Su->Co×List Su):∀(l:List Co)(m:List Su),(∀p∈l,∀m,(F p m).2.length<=m.length+p.size)->(jL F l m).2.length<=m.length+fV l
 |[],m,_=>by simp[jL]
 |c::l,m,h=>by
  have h1:=h c (aQ ..) m;have h2:=ND F l (F c m).2 fun q hq=>h q (aI _ hq);simp only[jL,fV]at h1 h2 ⊢;omega
theorem YJ(F:Hd->Co->List Su->Co×List Su):∀(l:List (Hd×Co))(m:List Su),(∀p∈l,∀m,(F p.1 p.2 m).2.length<=m.length+p.2.size)->(jT F l m).2.length<=m.length+gP l
 |[],m,_=>by simp[jT]
 |(s,c)::l,m,h=>by
  have h1:=h (s,c) (aQ ..) m;have h2:=YJ F l (F s c m).2 fun q hq=>h q (aI _ hq);simp only[jT,gP]at h1 h2 ⊢;omega
def rC(c:Co)(lz:Bool):Bool:=lz&&(((c.f==9)||(c.f==10))||(c.f==11))
def sL(t:Tx)(m:List Su):Tx:=(t++[37])++sK ((m.length:Int)+1)
def vI(c:Co)(ar:List Tx)(t:Tx)(m:List Su):Co×List Su:=(pB (gY (sL t m)) (jO c.size c [] ar []),m++[⟨sL t m,jO c.size c [] ar [],c⟩])
def kV:Nat->Co->Bool->List Tx->Tx->List Su->Co×List Su
 |0,c,_,_,_,m=>(c,m)
 |k+1,c,lz,ar,t,m=>dK (rC c lz) (vI c ar t m) (
   (.mk c.f c.n c.s (jL (fun x m=>kV k x (lz||(c.f==4)) (ar++c.bs.map Prod.fst) t m) c.ks (iP (fun x m=>kV k x true (ar++c.bs.map Prod.fst) t m) c.bs m).2).1 (iP (fun x m=>kV k x true (ar++c.bs.map Prod.fst) t m) c.bs m).1
    (jT (fun h x m=>kV k x false (ar++h.vars) t m) c.al (jL (fun x m=>kV k x (lz||(c.f==4)) (ar++c.bs.map Prod.fst) t m) c.ks (iP (fun x m=>kV k x true (ar++c.bs.map Prod.fst) t m) c.bs m).2).2).1),
   (jT (fun h x m=>kV k x false (ar++h.vars) t m) c.al (jL (fun x m=>kV k x (lz||(c.f==4)) (ar++c.bs.map Prod.fst) t m) c.ks (iP (fun x m=>kV k x true (ar++c.bs.map Prod.fst) t m) c.bs m).2).2).2)
theorem XE:∀(n:Nat)(c:Co),c.size=n->∀(k k':Nat)(lz:Bool)(ar:List Tx)(t:Tx)(m:List Su),c.size<=k->c.size<=k'->kV k c lz ar t m=kV k' c lz ar t m:=by
 intro n;induction n using Nat.strongRecOn with
 |ind n ih =>
  intro c hn k k' lz ar t m hk hk';have hp:=lT c;have hsz:=jD c;obtain⟨k,rfl⟩:∃j,k=j+1:=⟨k-1,by omega⟩;obtain⟨k',rfl⟩:∃j,k'=j+1:=⟨k'-1,by omega⟩;have hB:∀m,iP (fun x m=>kV k x true (ar++c.bs.map Prod.fst) t m) c.bs m=iP (fun x m=>kV k' x true (ar++c.bs.map Prod.fst) t m) c.bs m:=fun m=>XO _ _ fun p hp m=>by
   have:=xB c.bs p hp;exact ih _ (by omega) _ rfl _ _ _ _ _ _ (by omega) (by omega)
  have hK:∀m,jL (fun x m=>kV k x (lz||(c.f==4)) (ar++c.bs.map Prod.fst) t m) c.ks m=jL (fun x m=>kV k' x (lz||(c.f==4)) (ar++c.bs.map Prod.fst) t m) c.ks m:=fun m=>XP _ _ fun p hp m=>by
   have:=Bn c.ks p hp;exact ih _ (by omega) _ rfl _ _ _ _ _ _ (by omega) (by omega)
  have hA:∀m,jT (fun h x m=>kV k x false (ar++h.vars) t m) c.al m=jT (fun h x m=>kV k' x false (ar++h.vars) t m) c.al m:=fun m=>XN _ _ fun p hp m=>by
   have:=qP c.al p hp;exact ih _ (by omega) _ rfl _ _ _ _ _ _ (by omega) (by omega)
  simp only[kV,hB,hK,hA]
theorem LW:∀(k:Nat)(c:Co)(lz:Bool)(ar:List Tx)(t:Tx)(m:List Su),(kV k c lz ar t m).2.length<=m.length+c.size
 |0,c,lz,ar,t,m=>by simp[kV]
 |k+1,c,lz,ar,t,m=>by
  have hp:=lT c;have hsz:=jD c;simp only[kV];cases rC c lz with
  |true=>simp only[dQ,vI,aF,aG,aH];omega
  |false =>simp only[dX];have h1:=NC (fun x m=>kV k x true (ar++c.bs.map Prod.fst) t m) c.bs m fun p _ m=>LW k p.2 _ _ _ m;have h2:=ND (fun x m=>kV k x (lz||(c.f==4)) (ar++c.bs.map Prod.fst) t m) c.ks (iP (fun x m=>kV k x true (ar++c.bs.map Prod.fst) t m) c.bs m).2 fun p _ m=>LW k p _ _ _ m;have h3:=YJ (fun h x m=>kV k x false (ar++h.vars) t m) c.al (jL (fun x m=>kV k x (lz||(c.f==4)) (ar++c.bs.map Prod.fst) t m) c.ks (iP (fun x m=>kV k x true (ar++c.bs.map Prod.fst) t m) c.bs m).2).2 fun p _ m=>LW k p.2 _ _ _ m;omega
def fS(c:Co)(lz:Bool)(ar:List Tx)(t:Tx)(m:List Su):Co×List Su:=kV c.size c lz ar t m
def fB(c:Co)(ar:List Tx)(t:Tx)(m:List Su)(i:Nat):List (Tx×Co)×List Su:=iP (fun x m=>fS x true (ar++c.bs.map Prod.fst) t m) (c.bs.take i) m
def fK(c:Co)(lz:Bool)(ar:List Tx)(t:Tx)(m:List Su)(i:Nat):List Co×List Su:=jL (fun x m=>fS x (lz||(c.f==4)) (ar++c.bs.map Prod.fst) t m) (c.ks.take i) m
def fA(c:Co)(ar:List Tx)(t:Tx)(m:List Su)(i:Nat):List (Hd×Co)×List Su:=jT (fun h x m=>fS x false (ar++h.vars) t m) (c.al.take i) m
theorem zemb(c:Co)(ar:List Tx)(t:Tx)(m:List Su)(i:Nat)(h:i<c.bs.length):fB c ar t m (i+1)=((fB c ar t m i).1++[(c.bs[i].1,(fS c.bs[i].2 true (ar++c.bs.map Prod.fst) t (fB c ar t m i).2).1)],(fS c.bs[i].2 true (ar++c.bs.map Prod.fst) t (fB c ar t m i).2).2):=by rw[fB,<-mC c.bs i h,zdc];rfl
theorem zenb(c:Co)(lz:Bool)(ar:List Tx)(t:Tx)(m:List Su)(i:Nat)(h:i<c.ks.length):fK c lz ar t m (i+1)=((fK c lz ar t m i).1++[(fS c.ks[i] (lz||(c.f==4)) (ar++c.bs.map Prod.fst) t (fK c lz ar t m i).2).1],(fS c.ks[i] (lz||(c.f==4)) (ar++c.bs.map Prod.fst) t (fK c lz ar t m i).2).2):=by rw[fK,<-mC c.ks i h,zdd];rfl
theorem zelb(c:Co)(ar:List Tx)(t:Tx)(m:List Su)(i:Nat)(h:i<c.al.length):fA c ar t m (i+1)=((fA c ar t m i).1++[(c.al[i].1,(fS c.al[i].2 false (ar++c.al[i].1.vars) t (fA c ar t m i).2).1)],(fS c.al[i].2 false (ar++c.al[i].1.vars) t (fA c ar t m i).2).2):=by rw[fA,<-mC c.al i h,zdb];rfl
theorem Kq(c:Co)(lz:Bool)(ar:List Tx)(t:Tx)(m:List Su)(h:rC c lz=false):fS c lz ar t m=(.mk c.f c.n c.s (fK c lz ar t (fB c ar t m c.bs.length).2 c.ks.length).1 (fB c ar t m c.bs.length).1 (fA c ar t (fK c lz ar t (fB c ar t m c.bs.length).2 c.ks.length).2 c.al.length).1,
  (fA c ar t (fK c lz ar t (fB c ar t m c.bs.length).2 c.ks.length).2 c.al.length).2):=by
 have hp:=lT c;have hsz:=jD c;obtain⟨k,hk⟩:∃j,c.size=j+1:=⟨c.size-1,by omega⟩;have hB:∀m,iP (fun x m=>kV k x true (ar++c.bs.map Prod.fst) t m) c.bs m=iP (fun x m=>fS x true (ar++c.bs.map Prod.fst) t m) c.bs m:=fun m=>XO _ _ fun p hp m=>by
  have:=xB c.bs p hp;exact XE _ _ rfl _ _ _ _ _ _ (by omega) (aM _)
 have hK:∀m,jL (fun x m=>kV k x (lz||(c.f==4)) (ar++c.bs.map Prod.fst) t m) c.ks m=jL (fun x m=>fS x (lz||(c.f==4)) (ar++c.bs.map Prod.fst) t m) c.ks m:=fun m=>XP _ _ fun p hp m=>by
  have:=Bn c.ks p hp;exact XE _ _ rfl _ _ _ _ _ _ (by omega) (aM _)
 have hA:∀m,jT (fun h x m=>kV k x false (ar++h.vars) t m) c.al m=jT (fun h x m=>fS x false (ar++h.vars) t m) c.al m:=fun m=>XN _ _ fun p hp m=>by
  have:=qP c.al p hp;exact XE _ _ rfl _ _ _ _ _ _ (by omega) (aM _)
 rw[fS,hk,kV,h];simp only[dX,hB,hK,hA,fB,fK,fA,aV]
theorem y9(c:Co)(lz:Bool)(ar:List Tx)(t:Tx)(m:List Su)(h:rC c lz=true):fS c lz ar t m=vI c ar t m:=by have hp:=lT c;obtain⟨k,hk⟩:∃j,c.size=j+1:=⟨c.size-1,by omega⟩;rw[fS,hk,kV,h];rfl
theorem Ox(c:Co)(lz:Bool)(ar:List Tx)(t:Tx)(m:List Su):(fS c lz ar t m).2.length<=m.length+c.size:=LW _ _ _ _ _ _
theorem zgg(c:Co)(ar:List Tx)(t:Tx)(m:List Su)(i:Nat):(fB c ar t m i).2.length<=m.length+gG (c.bs.take i):=NC _ _ _ fun p _ m=>Ox _ _ _ _ _
theorem zgh(c:Co)(lz:Bool)(ar:List Tx)(t:Tx)(m:List Su)(i:Nat):(fK c lz ar t m i).2.length<=m.length+fV (c.ks.take i):=ND _ _ _ fun p _ m=>Ox _ _ _ _ _
theorem zekb(c:Co)(ar:List Tx)(t:Tx)(m:List Su)(i:Nat):(fA c ar t m i).2.length<=m.length+gP (c.al.take i):=YJ _ _ _ fun p _ m=>Ox _ _ _ _ _
def gz:List D->Cell->Prop:=fun ds c=>∀co lz ar t m,ds=[dM co,.bool lz,dG ar,.str t,eG m]->c=⟨false,.fN [dM (fS co lz ar t m).1,eG (fS co lz ar t m).2]⟩
theorem MM{S:fC}(hS:dC S Ac=some gz)(co:Co)(lz:Bool)(ar:List Tx)(t:Tx)(m:List Su)(hp:eW Ac [dM co,.bool lz,dG ar,.str t,eG m] ⟨false,.fN [dM (fS co lz ar t m).1,eG (fS co lz ar t m).2]⟩)(n:Nat)(O:Store) :
  T S (n+1) Ac [dM co,.bool lz,dG ar,.str t,eG m] O=some (.ret ⟨false,.fN [dM (fS co lz ar t m).1,eG (fS co lz ar t m).2]⟩,O):=by
 obtain⟨c,h1,h2⟩:=lD (S:=S) hS rfl (c:=⟨false,.fN [dM (fS co lz ar t m).1,eG (fS co lz ar t m).2]⟩) (fun JX lz' ar' t' m' e=>by
  simp only[aL,D.bool.injEq,D.str.injEq,and_true]at e;obtain⟨e1,rfl,e2,rfl,e3⟩:=e;rw[qO e1,lN e2,DX e3]) hp
 rw[h2,h1 co lz ar t m rfl]
def yO:fC:=[(yI,Wa),(mJ,Wu),(Il,zg9),(IG,zdt),(IJ,zfe),(Ac,gz)]
theorem zju(a:List (Tx×Co))(x:Tx×Co)(o:Bool)(ho:a≠[]->o=true)(hl:a.length<1000000000):lM iS 232 ⟨o,lZ a⟩ [dB x]=some ⟨true,lZ (a++[x])⟩:=Oq zj8 Vx (by omega) a x o ho hl
theorem zjt(a:List (Hd×Co))(x:Hd×Co)(o:Bool)(ho:a≠[]->o=true)(hl:a.length<1000000000):lM jC 216 ⟨o,pV a⟩ [dA x]=some ⟨true,pV (a++[x])⟩:=Oq zj7 y8 (by omega) a x o ho hl
theorem oh(a:List Su)(x:Su)(o:Bool)(ho:a≠[]->o=true)(hl:a.length<1000000000):lM jA 200 ⟨o,eG a⟩ [dU x]=some ⟨true,eG (a++[x])⟩:=Oq qi CQ (by omega) a x o ho hl
theorem ry(a b:List Su)(o:Bool)(ho:a≠[]->o=true)(hl:a.length+b.length<1000000000):lM jA 200 ⟨o,eG a⟩ (b.map dU)=some ⟨true,eG (a++b)⟩:=by rw[eG,LB (fun h=>ho (by simpa using h)) (fun d hd=>by obtain⟨x,_,rfl⟩:=bF.1 hd;exact⟨qi x,CQ x⟩) (by simp[iN];omega) (by simp[iN];omega)];rw[eG,aU]
theorem zjv(b:List Su)(o:Bool)(hl:b.length<1000000000):lM jA 200 ⟨o,.dN⟩ (b.map dU)=some ⟨true,eG b⟩:=by have:=ry [] b o (fun h=>absurd rfl h) (by simpa using hl);simpa[eG,gX]using this
theorem Aw:(∀l,(dG l).ok=true)/\(∀l,(iI l).ok=true)/\(∀l,(lZ l).ok=true)/\(∀l,(pV l).ok=true)/\(∀l,(eG l).ok=true)/\(∀l,(eM l).ok=true):=⟨fun _=>qM,fun _=>qM,fun _=>qM,fun _=>qM,fun _=>qM,fun _=>qM⟩
theorem zJ:(∀l,(dG l).cells=[dG l])/\(∀l,(iI l).cells=[iI l])/\(∀l,(lZ l).cells=[lZ l])/\(∀l,(pV l).cells=[pV l])/\(∀l,(eG l).cells=[eG l])/\(∀l,(eM l).cells=[eM l]):=⟨fun _=>qZ,fun _=>qZ,fun _=>qZ,fun _=>qZ,fun _=>qZ,fun _=>qZ⟩
theorem Tt:(∀l,(dG l).one=true)/\(∀l,(iI l).one=true)/\(∀l,(lZ l).one=true)/\(∀l,(pV l).one=true)/\(∀l,(eG l).one=true)/\(∀l,(eM l).one=true):=⟨fun _=>rX,fun _=>rX,fun _=>rX,fun _=>rX,fun _=>rX,fun _=>rX⟩
theorem zjob(b:Tx×Co):Mx.part (some 4) (cB b) 1=some (.agg [.int .i64 0,.int .i64 0,.str [],.dN]):=rfl
theorem YH(x:Int):(sK x).length<=21:=by
 cases x with
 |ofNat a =>have:=NL 20 a [];simp only[sK,Td,aH]at this ⊢;omega
 |negSucc a =>have:=NL 20 (a+1) [];simp only[sK,Td,aH,aG]at this ⊢;omega
theorem Pe:∀(l:List (Tx×Co))(x:Tx×Co),x∈l->x.2.size+l.length<=gG l:=by
 intro l;induction l with
 |nil=>intro x hx;cases hx
 |cons y r ihl =>
  intro x hx;obtain⟨s,c'⟩:=y;simp only[gG,aG];rcases aS.1 hx with rfl|hx
  ·have:=mY r;simp only;omega
  ·have:=ihl x hx;omega
theorem zfj(l:List (Tx×Co))(i:Nat)(h:i<l.length):gG (l.take i)+l[i].2.size+1<=gG l:=by
 have:gG l=gG (l.take (i+1))+gG (l.drop (i+1)):=by rw[<-MK,List.take_append_drop]
 rw[this,<-mC l i h,MK];cases l[i];simp only[gG];omega
theorem zfi(l:List (Hd×Co))(i:Nat)(h:i<l.length):gP (l.take i)+l[i].2.size+l[i].1.vars.length+1<=gP l:=by
 have:gP l=gP (l.take (i+1))+gP (l.drop (i+1)):=by rw[<-MJ,List.take_append_drop]
 rw[this,<-mC l i h,MJ];cases l[i];simp only[gP];omega
section
variable{C:eV}{n:Nat}{O:Store}
def Ax:List Cell:=[⟨false,.int .i64 0⟩,⟨false,.int .i64 0⟩,⟨false,.str []⟩,⟨false,.int .i64 0⟩,⟨false,.int .i64 0⟩,⟨false,.str []⟩,⟨false,.dN⟩,⟨false,.dN⟩,⟨false,.dN⟩,⟨false,.dN⟩]
def bO(c:Co)(k b a:Cell):List Cell:=[⟨false,.int .i64 c.f⟩,⟨false,.int .i64 c.n⟩,⟨false,.str c.s⟩,⟨false,.int .i64 0⟩,⟨false,.int .i64 0⟩,⟨false,.str []⟩,⟨false,.dN⟩,k,b,a]
def Nk(c:Co)(lz:Bool)(ar:List Tx)(t:Tx)(m:List Su)(i:Nat):Env:={slots:=[(1,⟨false,.bool lz⟩),(2,⟨false,dG ar⟩),(3,⟨false,.str t⟩),(4,⟨false,eG (fB c ar t m i).2⟩),(15,⟨false,dG (ar++c.bs.map Prod.fst)⟩),(16,⟨false,.int .i64 i⟩)],dR:=[(5,5,0),(10,10,0),(14,14,0)],boxes:=[(5,bC c),(10,Ax),(14,bO c ⟨false,.dN⟩ ⟨ow i,lZ (fB c ar t m i).1⟩ ⟨false,.dN⟩)],defers:=[]}
theorem zeyb(c:Co)(lz:Bool)(ar:List Tx)(t:Tx)(m:List Su)(i:Nat)(h:i<c.bs.length)(hl:c.size<100000000)
  (hc:C Ac [dM c.bs[i].2,.bool true,dG (ar++c.bs.map Prod.fst),.str t,eG (fB c ar t m i).2] O=some (.ret ⟨false,.fN [dM (fS c.bs[i].2 true (ar++c.bs.map Prod.fst) t (fB c ar t m i).2).1,eG (fS c.bs[i].2 true (ar++c.bs.map Prod.fst) t (fB c ar t m i).2).2]⟩,O)) :
  exec C n none N8 (Nk c lz ar t m i) O=some (.normal,Nk c lz ar t m (i+1),O):=by
 have hb:=mY c.bs;have hsz:=jD c;have hi:((i:Int)<(c.bs.length:Int)):=by omega
 have hx:=SG c.bs i h;have hp:=TV c.bs[i];have hln:(fB c ar t m i).1.length=i:=by rw[fB,NS];simp;omega
 have ha:=zju (fB c ar t m i).1 (c.bs[i].1,(fS c.bs[i].2 true (ar++c.bs.map Prod.fst) t (fB c ar t m i).2).1) (ow i) (fun h=>PG fun e=>h (bL (by omega))) (by omega);rw[Nk,Nk,zemb c ar t m i h];simp only[zK,eX]at ha;simp only[eO,eX]at hc hp;simp only[N8,bC,bO,Ax,sA,seval,kn,tO,hi,hx,OG,hp,zjob,Tt,Aw,zJ,hc,ha,iE (i:=i) (by omega),rA]
theorem ziib(c:Co)(lz:Bool)(ar:List Tx)(t:Tx)(m:List Su):exec C n none N8 (Nk c lz ar t m c.bs.length) O=some (.exit 0,{Nk c lz ar t m c.bs.length with slots:=[(1,⟨false,.bool lz⟩),(2,⟨false,dG ar⟩),(3,⟨false,.str t⟩),(4,⟨false,eG (fB c ar t m c.bs.length).2⟩),(15,⟨false,dG (ar++c.bs.map Prod.fst)⟩),(16,⟨false,.int .i64 c.bs.length⟩),(81,⟨false,.bool false⟩)]},O):=by
 have hi:¬((c.bs.length:Int)<(c.bs.length:Int)):=by omega
 simp only[N8,Nk,bC,sA,seval,kn,tO,hi]
def Nl(c:Co)(lz:Bool)(ar:List Tx)(t:Tx)(m:List Su)(b:Cell)(i:Nat):Env:={slots:=[(1,⟨false,.bool lz⟩),(2,⟨false,dG ar⟩),(3,⟨false,.str t⟩),(4,⟨false,eG (fK c lz ar t m i).2⟩),(15,⟨false,dG (ar++c.bs.map Prod.fst)⟩),(19,⟨false,.int .i64 i⟩)],dR:=[(5,5,0),(10,10,0),(14,14,0)],boxes:=[(5,bC c),(10,Ax),(14,bO c ⟨ow i,iI (fK c lz ar t m i).1⟩ b ⟨false,.dN⟩)],defers:=[]}
theorem zezb(c:Co)(lz:Bool)(ar:List Tx)(t:Tx)(m:List Su)(b:Cell)(i:Nat)(h:i<c.ks.length)(hl:c.size<100000000)
  (hc:C Ac [dM c.ks[i],.bool (lz||(c.f==4)),dG (ar++c.bs.map Prod.fst),.str t,eG (fK c lz ar t m i).2] O=some (.ret ⟨false,.fN [dM (fS c.ks[i] (lz||(c.f==4)) (ar++c.bs.map Prod.fst) t (fK c lz ar t m i).2).1,eG (fS c.ks[i] (lz||(c.f==4)) (ar++c.bs.map Prod.fst) t (fK c lz ar t m i).2).2]⟩,O)) :
  exec C n none Xp (Nl c lz ar t m b i) O=some (.normal,Nl c lz ar t m b (i+1),O):=by
 have hb:=yY c.ks;have hsz:=jD c;have hi:((i:Int)<(c.ks.length:Int)):=by omega
 have hx:=GN c.ks i h;have hln:(fK c lz ar t m i).1.length=i:=by rw[fK,NT];simp;omega
 have ha:=nz (fK c lz ar t m i).1 (fS c.ks[i] (lz||(c.f==4)) (ar++c.bs.map Prod.fst) t (fK c lz ar t m i).2).1 (ow i) (fun h=>PG fun e=>h (bL (by omega))) (by omega);rw[Nl,Nl,zenb c lz ar t m i h];cases lz with
 |true =>simp only[Bool.true_or]at hc ha ⊢;simp only[eO,eX]at hc hx ha;simp only[Xp,bC,bO,Ax,sA,seval,kn,nX,hi,hx,Tt,Aw,zJ,hc,ha,iE (i:=i) (by omega),rA]
 |false =>simp only[bY]at hc ha ⊢;simp only[eO,eX]at hc hx ha;simp only[Xp,bC,bO,Ax,sA,seval,kn,nX,hi,hx,Tt,Aw,zJ,hc,ha,iE (i:=i) (by omega),rA]
theorem zijb(c:Co)(lz:Bool)(ar:List Tx)(t:Tx)(m:List Su)(b:Cell):exec C n none Xp (Nl c lz ar t m b c.ks.length) O=some (.exit 2,{Nl c lz ar t m b c.ks.length with slots:=[(1,⟨false,.bool lz⟩),(2,⟨false,dG ar⟩),(3,⟨false,.str t⟩),(4,⟨false,eG (fK c lz ar t m c.ks.length).2⟩),(15,⟨false,dG (ar++c.bs.map Prod.fst)⟩),(19,⟨false,.int .i64 c.ks.length⟩),(121,⟨false,.bool false⟩)]},O):=by
 have hi:¬((c.ks.length:Int)<(c.ks.length:Int)):=by omega
 simp only[Xp,Nl,bC,sA,seval,kn,nX,hi]
def Nn(c:Co)(ar:List Tx)(t:Tx)(m:List Su)(k b:Cell)(i:Nat):Env:={slots:=[(2,⟨false,dG ar⟩),(3,⟨false,.str t⟩),(4,⟨false,eG (fA c ar t m i).2⟩),(22,⟨false,.int .i64 i⟩)],dR:=[(5,5,0),(10,10,0),(14,14,0)],boxes:=[(5,bC c),(10,Ax),(14,bO c k b ⟨ow i,pV (fA c ar t m i).1⟩)],defers:=[]}
theorem ze0b(c:Co)(ar:List Tx)(t:Tx)(m:List Su)(k b:Cell)(i:Nat)(h:i<c.al.length)(hl:c.size<100000000)(Uu:C mJ [dG ar,dG c.al[i].1.vars] O=some (.ret ⟨false,dG (ar++c.al[i].1.vars)⟩,O))
  (hc:C Ac [dM c.al[i].2,.bool false,dG (ar++c.al[i].1.vars),.str t,eG (fA c ar t m i).2] O=some (.ret ⟨false,.fN [dM (fS c.al[i].2 false (ar++c.al[i].1.vars) t (fA c ar t m i).2).1,eG (fS c.al[i].2 false (ar++c.al[i].1.vars) t (fA c ar t m i).2).2]⟩,O)) :
  exec C n none N9 (Nn c ar t m k b i) O=some (.normal,Nn c ar t m k b (i+1),O):=by
 have hb:=pY c.al;have hsz:=jD c;have hi:((i:Int)<(c.al.length:Int)):=by omega
 have hx:=Hm c.al i h;have hp:=V9 c.al[i];have hln:(fA c ar t m i).1.length=i:=by rw[fA,NR];simp;omega
 have ha:=zjt (fA c ar t m i).1 (c.al[i].1,(fS c.al[i].2 false (ar++c.al[i].1.vars) t (fA c ar t m i).2).1) (ow i) (fun h=>PG fun e=>h (bL (by omega))) (by omega);rw[Nn,Nn,zelb c ar t m i h];have hd:=Pj c.al[i];have hd2:=xM c.al[i];have e4:Mx.part (some 10) (cA c.al[i]) 4=some (dM c.al[i].2):=hp.2.2.2.2;have e3:Mx.part none (cA c.al[i]) 3=some (dG c.al[i].1.vars):=hp.2.2.2.1;simp only[xM,cA,eX]at ha hx e3 e4;simp only[eO,eX]at hc e4;simp only[N9,bC,bO,Ax,sA,seval,kn,mT,hi,hx,e3,e4,Tt,Aw,zJ,Uu,hc,ha,iE (i:=i) (by omega),rA]
theorem zikb(c:Co)(ar:List Tx)(t:Tx)(m:List Su)(k b:Cell):exec C n none N9 (Nn c ar t m k b c.al.length) O=some (.exit 4,{Nn c ar t m k b c.al.length with slots:=[(2,⟨false,dG ar⟩),(3,⟨false,.str t⟩),(4,⟨false,eG (fA c ar t m c.al.length).2⟩),(22,⟨false,.int .i64 c.al.length⟩),(153,⟨false,.bool false⟩)]},O):=by
 have hi:¬((c.al.length:Int)<(c.al.length:Int)):=by omega
 simp only[N9,Nn,bC,sA,seval,kn,mT,hi]
end
theorem zye:∀(k:Nat)(c:Co)(lz:Bool)(ar:List Tx)(t:Tx)(m:List Su),c.size=k->ar.length+c.size<100000000->m.length+c.size<100000000->t.length<100000000 ->
  eW Ac [dM c,.bool lz,dG ar,.str t,eG m] ⟨false,.fN [dM (fS c lz ar t m).1,eG (fS c lz ar t m).2]⟩:=by
 intro k;induction k using Nat.strongRecOn with
 |ind k ih =>
  intro c lz ar t m hk hl hlm hlt;have hsz:=jD c;have hb:=mY c.bs;have hks:=yY c.ks;have ha:=pY c.al;have e1:dG []=.dN:=rfl;cases La:rC c lz with
  |true =>
   rw[y9 c lz ar t m La];refine jH (af:=Lt) (n:=1) (O':=cH) (jG yO 1) rfl rfl (by simp[fO,iF,mL,jY,uD]) (by simp[iF,fO,mL,uD]) ?_;simp only[rC,aC]at La;obtain⟨rfl,hform⟩:=La;have hfr:=zbn (S:=yO) rfl c [] ar [] (zxf _ c [] ar [] rfl (by simp;omega) (by simp;omega) (by omega)) 0 cH;rw[e1]at hfr;have hfl:=BS c.size c [] ar [];simp only[aH,aN]at hfl;have w1:IntKind.i64.wrap ((m.length:Int)+1)=(m.length:Int)+1:=lV (by omega) (by omega);have hdg:=zri (S:=yO) rfl ((m.length:Int)+1) ⟨by omega,by omega⟩ 0 cH;have hgi:=zuh (S:=yO) rfl (sL t m) (jO c.size c [] ar []) (by omega) 0 cH;have hap:=oh m ⟨sL t m,jO c.size c [] ar [],c⟩ true (fun _=>rfl) (by omega);have yD:=zjv m false (by omega);have hil:=YH ((m.length:Int)+1);have hb1:(t.length+(0+1)<=281474976710656):=by omega
   have hb2:((t++[37]).length+(sK ((m.length:Int)+1)).length<=281474976710656):=by simp;omega
   simp only[sY,cU,eX,sL]at hap;simp only[sL,eO,eX]at hgi;simp only[eO,eX]at hfr;cases h1:(c.f==9)with
   |true=>simp only[Lt,sA,seval,kn,eO,eX,Aw,zJ,h1,hfr,nY,w1,hdg,hb1,hb2,hgi,CP,yD,hap,vI,sL]
   |false =>
    cases h2:(c.f==10)with
    |true=>simp only[Lt,sA,seval,kn,eO,eX,Aw,zJ,h1,h2,hfr,nY,w1,hdg,hb1,hb2,hgi,CP,yD,hap,vI,sL]
    |false =>
     have h3:(c.f==11)=true:=by simpa[h1,h2]using hform
     simp only[Lt,sA,seval,kn,eO,eX,Aw,zJ,h1,h2,h3,hfr,nY,w1,hdg,hb1,hb2,hgi,CP,yD,hap,vI,sL]
  |false =>
   rw[Kq c lz ar t m La];refine jH (af:=Lt) (n:=c.size+1) (O':=cH) (jG yO 1) rfl rfl (by simp[fO,iF,mL,jY,uD]) (by simp[iF,fO,mL,uD]) ?_;have hbi:=BI (S:=yO) rfl c (by omega) 0 cH;have Uu:=Vq (S:=yO) rfl ar (c.bs.map Prod.fst) (by simp;omega) 0 cH
   have hl0:=nI (body:=exec (T yO 1) (c.size+1) none N8) (Nk c lz ar t m) (fun _=>cH) c.bs.length (r:=_) (fun _ _ h=>by cases h) (fun i hi=>zeyb c lz ar t m i hi (by omega) (by
    have h1:=zfj c.bs i hi;have h3:=Pe c.bs _ (aX hi);have h2:=zgg c ar t m i;exact MM (S:=yO) rfl _ _ _ _ _ (ih _ (by omega) c.bs[i].2 _ _ _ _ rfl (by simp;omega) (by omega) hlt) 0 cH)) (ziib c lz ar t m) 0 (c.size+1) (by omega) (by omega)
   have hm1:=zgg c ar t m c.bs.length;rw[aV]at hm1
   have hl1:=nI (body:=exec (T yO 1) (c.size+1) none Xp) (Nl c lz ar t (fB c ar t m c.bs.length).2 ⟨ow c.bs.length,lZ (fB c ar t m c.bs.length).1⟩) (fun _=>cH) c.ks.length (r:=_) (fun _ _ h=>by cases h) (fun i hi=>zezb c lz ar t _ _ i hi (by omega) (by
    have h1:=zfk c.ks i hi;have h2:=zgh c lz ar t (fB c ar t m c.bs.length).2 i;exact MM (S:=yO) rfl _ _ _ _ _ (ih _ (by omega) c.ks[i] _ _ _ _ rfl (by simp;omega) (by omega) hlt) 0 cH)) (zijb c lz ar t _ _) 0 (c.size+1) (by omega) (by omega)
   have hm2:=zgh c lz ar t (fB c ar t m c.bs.length).2 c.ks.length;rw[aV]at hm2
   have hl2:=nI (body:=exec (T yO 1) (c.size+1) none N9) (Nn c ar t (fK c lz ar t (fB c ar t m c.bs.length).2 c.ks.length).2 ⟨ow c.ks.length,iI (fK c lz ar t (fB c ar t m c.bs.length).2 c.ks.length).1⟩ ⟨ow c.bs.length,lZ (fB c ar t m c.bs.length).1⟩) (fun _=>cH) c.al.length (r:=_) (fun _ _ h=>by cases h) (fun i hi=>ze0b c ar t _ _ _ i hi (by omega) (by
    have h1:=zfi c.al i hi;exact Vq (S:=yO) rfl _ _ (by omega) 0 cH) (by
    have h1:=zfi c.al i hi;have h2:=zekb c ar t (fK c lz ar t (fB c ar t m c.bs.length).2 c.ks.length).2 i;exact MM (S:=yO) rfl _ _ _ _ _ (ih _ (by omega) c.al[i].2 _ _ _ _ rfl (by simp;omega) (by omega) hlt) 0 cH)) (zikb c ar t _ _ _) 0 (c.size+1) (by omega) (by omega)
   have z1:(fB c ar t m 0)=([],m):=rfl;have z2:∀m,(fK c lz ar t m 0)=([],m):=fun _=>rfl;have z3:∀m,(fA c ar t m 0)=([],m):=fun _=>rfl;have n1:lZ []=.dN:=rfl;have n2:iI []=.dN:=rfl;have n3:pV []=.dN:=rfl;simp only[Nk,bC,bO,Ax,iG,z1,n1,yW]at hl0;simp only[Nl,bC,bO,Ax,iG,z2,n2,yW]at hl1;simp only[Nn,bC,bO,Ax,iG,z3,n3,yW]at hl2;simp only[eO,eX]at hbi;simp only[rC]at La;cases lz with
   |false =>simp only[Lt,sA,seval,kn,eO,eX,co,hbi,Uu,hl0,hl1,hl2]
   |true =>simp only[bX,Bool.or_eq_false_iff]at La;simp only[Lt,sA,seval,kn,eO,eX,co,La.1.1,La.1.2,La.2,hbi,Uu,hl0,hl1,hl2]
end Go.Fu

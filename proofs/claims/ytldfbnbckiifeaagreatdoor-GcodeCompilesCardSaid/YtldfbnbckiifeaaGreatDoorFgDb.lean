/- A part of the proof. -/
import Derived.Test.YtldfbnbckiifeaaGreatDoorFgV
set_option maxHeartbeats 4000000
set_option linter.all false
namespace Go.Fu
open Go Go.Mx Go.Proofs
set_option maxRecDepth 10000
def Γb:FuncId->Option dZ:=fun f=>dK (f==nG) (some BH) (Γa f)
theorem Γb_holds:Holds Tryz.prog Γb:=by
 intro f af h;unfold Γb at h;by_cases e:f=nG
 ·subst e;simp only[bW,dQ,aA]at h;subst h;exact⟨rfl,_,rfl,zqw⟩
 ·have e':(f==nG)=false:=by simpa using e
  rw[e',dX]at h;exact Γa_holds f af h
noncomputable def U(S:fC)(n:Nat):eV:=Iq Tryz.prog κ Γb Ra Xa S n
theorem zdsb(S:fC)(n:Nat):rM Tryz.prog κ (U S n):=(ME Γb_holds Gt CL n).1
theorem FI{S:fC}{f:FuncId}{s:List D->Cell->Prop}{ds:List D}{c:Cell}(hf:dC S f=some s)(hY:jK f=false)(hs:s ds c)(hp:eW f ds c):∃c',s ds c'/\∀n O,U S (n+1) f ds O=some (.ret c',O):=ZR hf hY hs hp
theorem Qc{S:fC}(hs:iV S nG=false){N:Nat}(d:D)(a b:List In)(O:Store)(hlow:∀p∈O.dE,p.1<O.next)(hne:a≠[])(hla:lenOf d=some a.length)(kE:nB O.dE d=some (a.map dI))(hl:a.length+b.length<1000000000)(hn:b.length<N) :
  ∃id O',U S (N+1) nG [d,eM b] O=some (.ret ⟨false,.arr fE id 0 (a.length+b.length)⟩,O')/\AS O.dE O' id (fM a b):=by
 obtain⟨id,O',h1,h2⟩:=zlkb (C:=U S N) (n:=N) (RD:=Ye Tryz.prog κ Γb Ra Xa S N) d a b O hlow hne hla kE hl hn;exact⟨id,O',(OC hs rfl rfl).trans h1,h2⟩
theorem zwa{S:fC}{n m:Nat}{ds:List D}{c:Cell}{O':Store}(hl:ds.length=4)(hd:fO ds=true)(hc:iF c.d=true)
  (hr:nA Ra (fun _ _ _=>none) Ba 0 (exec (U S n) m none Ba.body (mX ds) cH)=some (.ret c,O')):eW Dk ds c:=by
 refine LF (zdsb S n) Gt rfl rfl zpb hl hd hc (n:=m) (O':=O') ?_;unfold nA at hr;exact hr
def zid:List D->Cell->Prop:=fun ds c=>∀s x,ds=[.str s,.int .i64 x]->c=⟨true,eM [eJ s x]⟩
theorem zccb(s:Tx)(x:Int):eW nN [.str s,.int .i64 x] ⟨true,eM [eJ s x]⟩:=by refine jH (af:=P9) (n:=1) (O':=cH) (jG [] 0) rfl rfl rfl rfl ?_;simp only[P9,sA,seval,kn];rfl
theorem rq{S:fC}(hS:dC S nN=some zid)(s:Tx)(x:Int)(n:Nat)(O:Store):U S (n+1) nN [.str s,.int .i64 x] O=some (.ret ⟨true,eM [eJ s x]⟩,O):=by
 obtain⟨c,h1,h2⟩:=FI (S:=S) hS rfl (c:=⟨true,eM [eJ s x]⟩) (fun a' b' e=>by
  simp only[aL,D.str.injEq,D.int.injEq,true_and,and_true]at e;rw[e.1,e.2]) (zccb s x)
 rw[h2,h1 s x rfl]
theorem zil{S:fC}(hS:dC S V4=some zib)(a:Hd×Co)(env:List Tx)(hl:env.length+a.1.vars.length<100000000)(n:Nat)(O:Store):U S (n+1) V4 [dA a,dG env] O=some (.ret ⟨false,.fN [eM (fZ a env).1,dG (fZ a env).2]⟩,O):=by
 obtain⟨c,h1,h2⟩:=FI (S:=S) hS rfl (c:=⟨false,.fN [eM (fZ a env).1,dG (fZ a env).2]⟩) (fun a' b' e=>by
  simp only[aL,and_true]at e;rw[zh2b e.1,lN e.2]) (zajb a env hl)
 rw[h2,h1 a env rfl]
def qH(v:Int):List In->List In
 |[]=>[]
 |i::r=>{i with n:=v}::r
theorem Oz(v:Int):∀l:List In,(qH v l).length=l.length
 |[]=>rfl
 |_::_=>rfl
theorem jm{B n:Nat}{v:Int}{l:List In}(hv:Small v)(h:GC B n l):GC B n (qH v l):=by
 refine⟨?_,by rw[Oz];exact h.2⟩;cases l with
 |nil=>exact h.1
 |cons i r =>
  intro x hx;simp only[qH,aS]at hx;rcases hx with rfl|hx
  ·have:=h.1 i (by simp);exact⟨this.1,hv,this.2.2.1,this.2.2.2⟩
  ·exact h.1 x (by simp[hx])
theorem AS.idx{o:List (Nat×List Cell)}{O:Store}{id:Nat}{l:List In}(_h:AS o O id l)(hne:l≠[]):kU 4 (.arr fE id 0 l.length) 0=some (.ptr id 0):=by
 cases l with
 |nil=>exact absurd rfl hne
 |cons a b =>
  have:decide (0<(a::b).length)=true:=by simp
  simp only[kU,this];rfl
theorem AS.set{o:List (Nat×List Cell)}{O:Store}{id:Nat}{l:List In}(h:AS o O id l)(hne:l≠[])(v:Int):sM ⟨false,.int .i64 v⟩ 1 1 (cI l)=true/\AS o {O with dE:=fF O.dE id (putCells (cI l) 1 (pK ⟨false,.int .i64 v⟩))} id (qH v l):=by
 cases l with
 |nil=>exact absurd rfl hne
 |cons a b =>
  refine⟨?_,?_,h.low,h.fH,h.lt⟩
  ·simp[sM,cI,D.ok,D.cells]
  ·have hb:(id==id)=true:=by simp
   simp only[h.dE,fF,hb,dQ];rfl
theorem Gk{z:Nat}:∀a:List D,(∀d∈a,d.cells.length=z)->(cellsOf a).length=a.length*z
 |[],_=>by simp[cellsOf]
 |d::a,h=>by
  have h1:=h d (by simp);have h2:=Gk a fun x hx=>h x (aI _ hx);simp only[cellsOf,aF,aJ,h1,h2,aG,Nat.succ_mul,Nat.add_comm]
theorem zry{n:Nat}{k:RowK}{id off len:Nat}{os:mU}:kR (n+1) (.arr k id off len) os=dH (dC os id) fun cs=>dK ((k.ag||k.sz==1)&&decide ((off+len)*k.sz<=cs.length)) (dH (Gy (kR n) (Hj k cs off len) (gI os id)) fun r=>some (.list k r.1,r.2)) none:=rfl
theorem Zz{k:RowK}{id n:Nat}{ds:List D}{os os':mU}(ho:dC os id=some (cellsOf ds))(hd:gI os id=os')(hk:(k.ag||k.sz==1)=true)(h:∀d∈ds,d.cells.length=k.sz/\Hq k d.cells=d)(hf:∀d∈ds,kR n d os'=some (d,os')) :
  kR (n+1) (.arr k id 0 ds.length) os=some (.list k ds,os'):=by
 have hl:=Gk ds fun d hd=>(h d hd).1;have e0:decide ((0+ds.length)*k.sz<=(cellsOf ds).length)=true:=by simp;omega
 simp only[zry,ho,dH,eP,hk,e0,aY,dK,WM h,hd,XH ds hf]
theorem AS.Dw{o:List (Nat×List Cell)}{O:Store}{id:Nat}{l:List In}(h:AS o O id l)(hne:l≠[])(s:Nat)(e:Env)(b:Bool)(hs:dC e.slots s=some ⟨b,.arr fE id 0 l.length⟩):∃O' b',tK [.slot s] e O=some ({e with slots:=fF e.slots s ⟨b',eM l⟩},O'):=by
 have hr:=Zz (k:=fE) (id:=id) (n:=39) (ds:=l.map dI) (os:=O.dE) (os':=gI O.dE id) (by rw[h.get,Ej]) rfl rfl (ER l) (fun d hd=>by
  obtain⟨x,_,rfl⟩:=bF.1 hd;rfl)
 rw[aJ]at hr;have hd:eM l=.list fE (l.map dI):=by
  cases l with
  |nil=>exact absurd rfl hne
  |cons a b=>rfl
 refine⟨{O with dE:=gI O.dE id},Cell.keeps ⟨b,.arr fE id 0 l.length⟩,?_⟩;simp only[tK,uI,hs,dH,eP,hr,hd]
open Go Go.Mx
theorem Po{a b:List In}(h:a≠[]):fM a b≠[]:=by simp[fM,h]
theorem AS.JG{o:List (Nat×List Cell)}{O:Store}{id:Nat}{l:List In}(h:AS o O id l)(hne:l≠[]):kR 40 (.arr fE id 0 l.length) O.dE=some (eM l,gI O.dE id):=by
 have hr:=Zz (k:=fE) (id:=id) (n:=39) (ds:=l.map dI) (os:=O.dE) (os':=gI O.dE id) (by rw[h.get,Ej]) rfl rfl (ER l) (fun d hd=>by
  obtain⟨x,_,rfl⟩:=bF.1 hd;rfl)
 rw[aJ]at hr;have hd:eM l=.list fE (l.map dI):=by
  cases l with
  |nil=>exact absurd rfl hne
  |cons a b=>rfl
 rw[hr,hd]
theorem AS.Y4{O:Store}{id:Nat}{o:List (Nat×List Cell)}{l:List In}(h:AS o O id l):∀p∈O.dE,p.1<O.next:=by
 rw[h.dE];intro p hp;rcases aS.1 hp with rfl|hp
 ·exact h.lt
 ·exact Nat.lt_trans (h.low p hp) h.lt
theorem AS.set2{o:List (Nat×List Cell)}{O:Store}{id:Nat}{l:List In}(h:AS o O id l)(hne:l≠[])(v:Int):decide (2<=(cI l).length)=true/\AS o {O with dE:=fF O.dE id (putCells (cI l) 1 [⟨false,.int .i64 v⟩])} id (qH v l) :=
 ⟨by have:=(h.set hne v).1;simpa[sM,D.ok,D.cells]using this,(h.set hne v).2⟩
theorem Gv{C:eV}{n:Nat}{ro:Option Nat}{ts:List X4}{b:eR}{e:Env}{O:Store}:exec C n ro (.Dw ts b) e O=dH (tK ts e O) fun x=>exec C n ro b x.1 x.2:=rfl
theorem BU{k:RowK}{b:Bool}{id n:Nat}:Cell.keeps ⟨b,.arr k id 0 n⟩=false:=rfl
def kX:Tx:=[74,85,77,80]
theorem dh{B:Nat}{n:Int}(h:Small n):GI B ⟨kX,n,0,[]⟩:=⟨by simp[kX],h,zS,by simp⟩
theorem jl{B n:Nat}{l:List In}{x:In}(h:GC B n l)(hx:GI B x):GC B (n+1) (l++[x]):=by
 refine⟨fun y hy=>?_,by have:=h.2;simp;omega⟩;rcases bJ.1 hy with hy|hy
 ·exact h.1 y hy
 ·rw[bP.1 hy];exact hx
abbrev At:=Tx->Option Int
def fQ(x:Int):Int:=IntKind.i64.wrap x
def Y5:At:=fun _=>none
def xW(M:At)(s:Tx)(v:Int):At:=fun x=>dK (x==s) (some v) (M x)
def jE:At->List Tx->Int->Nat->At
 |M,[],_,_=>M
 |M,s::r,d,i=>jE (xW M s (fQ (d+(i:Int)))) r d (i+1)
def kK(L:List In)(k:Nat)(v:Int):List In:=L.modify k fun i=>{i with n:=v}
theorem wZ(L:List In)(k:Nat)(v:Int):(kK L k v).length=L.length:=by simp[kK]
def qU(lz:Co->List In->List In)(k:Nat):List (Tx×Co)->Nat->List In->List In
 |[],_,L=>L
 |b::r,i,L=>qU lz k r (i+1) (lz b.2 L++[eJ nJ (rS k i)])
theorem zcr(lz:Co->List In->List In)(k:Nat)(b:Tx×Co):∀(l:List (Tx×Co))(i:Nat)(L:List In),qU lz k (l++[b]) i L=lz b.2 (qU lz k l i L)++[eJ nJ (rS k ((i+l.length:Nat):Int))]
 |[],i,L=>rfl
 |x::l,i,L=>by
  simp only[aW,qU,aG];rw[zcr lz k b l,show i+1+l.length=i+(l.length+1) by omega]
def Tj(lz go:Co->At->Int->List In->List In)(c:Co)(M:At)(d:Int)(L:List In):List In :=
 go (jX c 0) (jE M (dW c) d 0) (fQ (d+c.bs.length)) (qU (fun b L=>lz b (jE M (dW c) d 0) (fQ (d+c.bs.length)) L) c.bs.length c.bs 0 (L++[eJ sB c.bs.length]))
def kA:Nat->Co->At->Int->List In->List In
 |0,_,_,_,L=>L
 |n+1,c,M,d,L =>
  dK (c.f==1) (iW (M c.s) (L++[⟨vZ,0,0,c.s⟩]) fun a=>L++[eJ Kt (fQ (fQ (d-1)-a))])
   (dK (c.f==2) (L++[⟨vZ,0,0,c.s⟩]) (dK (c.f==3) (L++[eJ Qg c.n]) (dK (c.f==4) (kA n (jX c 0) M (fQ (d+1)) (kA n (jX c 1) M d L)++[eJ Em 0])
    (Tj (kA n) (kA n) c M d L++[eJ lU c.bs.length]))))
def uS(h:Hd):List In:=dK (h.form==1) [⟨Lh,0,0,h.name⟩,eJ Ku h.vars.length] (dK (h.form==2) [⟨Kv,0,h.num,[]⟩,eJ kT 1] [eJ kT 1])
def qT(st:Bool)(h:Hd)(L:List In):List In:=dK st (dK (h.form==1) (L++[eJ lU h.vars.length]) L++[⟨kX,0,0,[]⟩]) L
def lX(st:Bool)(body:Co->At->Int->List In->List In)(M:At)(d:Int)(a:Hd×Co)(s:List In×List Nat):List In×List Nat :=
 (dK (a.1.form==1||a.1.form==2) (kK (qT st a.1 (body a.2 (jE M a.1.vars.reverse d 0) (fQ (d+a.1.vars.length)) (s.1++uS a.1))) s.1.length (qT st a.1 (body a.2 (jE M a.1.vars.reverse d 0) (fQ (d+a.1.vars.length)) (s.1++uS a.1))).length)
  (qT st a.1 (body a.2 (jE M a.1.vars.reverse d 0) (fQ (d+a.1.vars.length)) (s.1++uS a.1))),
  dK st (s.2++[(qT st a.1 (body a.2 (jE M a.1.vars.reverse d 0) (fQ (d+a.1.vars.length)) (s.1++uS a.1))).length-1]) s.2)
def iY(st:Bool)(body:Co->At->Int->List In->List In)(M:At)(d:Int):List (Hd×Co)->List In×List Nat->(List In×List Nat)×Bool
 |[],s=>(s,true)
 |a::r,s=>dK (a.1.form==3) (lX st body M d a s,false) (iY st body M d r (lX st body M d a s))
def wG(st b:Bool)(L:List In):List In:=dK b (dK st (L++[eJ kT 1]++[eJ mO 0]) (L++[eJ mO 0])) L
def tM:List Nat->List In->List In
 |[],L=>L
 |e::r,L=>tM r (kK L e L.length)
theorem LY:∀(l:List Nat)(e:Nat)(L:List In),tM (l++[e]) L=kK (tM l L) e (tM l L).length
 |[],e,L=>rfl
 |x::l,e,L=>by simp only[aW,tM];rw[LY l]
theorem x8:∀(l:List Nat)(L:List In),(tM l L).length=L.length
 |[],L=>rfl
 |x::l,L=>by rw[tM,x8 l,wZ]
def gU:Nat->Co->At->Int->List In->List In
 |0,_,_,_,L=>L
 |n+1,c,M,d,L =>
  dK (c.f==8) (Tj (fun b=>kA b.size b) (gU n) c M d L++[eJ lU c.bs.length])
   (dK (c.f==10) (gU n (jX c 1) M (fQ (d+1)) (gU n (jX c 0) M d L)++[eJ (rF c.s) 0])
    (dK (c.f==11) (L++[eJ mO 0])
     (dK (c.f==9) (tM (iY true (gU n) M d c.al (gU n (jX c 0) M d L,[])).1.2 (wG true (iY true (gU n) M d c.al (gU n (jX c 0) M d L,[])).2 (iY true (gU n) M d c.al (gU n (jX c 0) M d L,[])).1.1))
      (kA c.size c M d L++[eJ Hr 0]))))
def Vb(d:Int)(L:List In):List In:=L++[eJ nJ d]++[eJ kT d]++[eJ yX 0]
def lL:Nat->Co->At->Int->List In->List In
 |0,_,_,_,L=>L
 |n+1,c,M,d,L =>
  dK (c.f==8) (Tj (fun b=>kA b.size b) (lL n) c M d L)
   (dK (c.f==11) (L++[eJ mO 0])
    (dK (c.f==9) (wG false (iY false (lL n) M d c.al (gU n (jX c 0) M d L,[])).2 (iY false (lL n) M d c.al (gU n (jX c 0) M d L,[])).1.1)
     (dK (c.f==10) (Vb d (gU (n+1) c M d L)) (Vb d (kA c.size c M d L)))))
def kH(u:Su):Cd:=⟨u.name,u.ps.length,lL u.body.size u.body (jE Y5 u.ps.reverse 0 0) u.ps.length []⟩
def Zl:eR:=(.block 1 (rg [mo 8 (.load none true (I 2)),mt 9 5,O2 10 dY 9,mo 11 (.qN dY 16 (.mv 8) (I 10)),I3 1 2 11] [2,5,8,9,10,11]))
def KQ:dZ:=⟨2,13,[.tmp 4],(sq [mo 2 (.mF rI (I 0)),mo 4 (.dO I8)] [0,4] (.seq (sq [mt 6 1] [1] (.block 0 (.H5 (I 6) [7] (rg [mt 5 7] [6,7]) Zl))) (sq [mo 12 (.load none true (I 2)),mw 4 12] [2,6,12] .ret))),false⟩
def Oi:dZ:=⟨1,8,[.tmp 2],(sq [mo 2 (.dO I8)] [2] (.seq (sq [mt 3 0,mo 4 (.zG .eql (I 3))] [3] (O7 4 (sq [mo 2 (.dO I8)] [0,4] .ret) .skip)) (sq [mo 5 (.vW dY []),mw 6 0,mo 7 (.qN dY 16 (.mv 5) (I 6)),mw 2 7] [0,4,5,6,7] .ret))),false⟩
theorem zlk:eL Tryz.prog Tryz.f147 KQ=true:=by kernel_rfl
theorem zl2:eL Tryz.prog Tryz.f78 Oi=true:=by kernel_rfl
set_option maxHeartbeats 8000000
def cZ(l:List Int):List Cell:=l.map fun x=>⟨false,.int .i64 x⟩
section
variable{C:eV}{n:Nat}{O:Store}
def Iu(l:List Tx)(s:Tx)(i:Nat):Env:={slots:=[(0,⟨false,dG l⟩),(1,⟨false,.str s⟩),(7,⟨false,.int .i64 l.length⟩),(8,⟨false,.int .i64 i⟩)],dR:=[],boxes:=[],defers:=[]}
theorem zfbb(l:List Tx)(s:Tx)(i:Nat)(h:i<l.length)(hl:l.length<1000000000)(hq:(s==l.getD i [])=false):exec C n none Ta (Iu l s i) O=some (.normal,Iu l s (i+1),O):=by
 rw[iU _ _ _ h]at hq;have hi:((i:Int)<(l.length:Int)):=by omega
 simp only[Ta,Iu,sA,Nat.reduceBEq,kn,hi,sZ l i h,hq,iE (i:=i) (by omega)]
theorem zfcb(l:List Tx)(s:Tx)(i:Nat)(h:i<l.length)(hq:(s==l.getD i [])=true):exec C n none Ta (Iu l s i) O=some (.ret,{slots:=[(4,⟨false,.int .i64 i⟩)],dR:=[],boxes:=[],defers:=[]},O):=by
 rw[iU _ _ _ h]at hq;have hi:((i:Int)<(l.length:Int)):=by omega
 simp only[Ta,Iu,sA,Nat.reduceBEq,kn,hi,sZ l i h,hq]
theorem zitb(l:List Tx)(s:Tx):exec C n none Ta (Iu l s l.length) O=some (.exit 0,{Iu l s l.length with slots:=[(0,⟨false,dG l⟩),(1,⟨false,.str s⟩),(7,⟨false,.int .i64 l.length⟩),(8,⟨false,.int .i64 l.length⟩),(9,⟨false,.bool false⟩)]},O):=by
 have hi:¬((l.length:Int)<(l.length:Int)):=by omega
 simp only[Ta,Iu,sA,Nat.reduceBEq,kn,hi]
end
theorem zd2(l:List Tx)(s:Tx):(l.any fun x=>s==x)=l.any (·==s):=by
 induction l with
 |nil=>rfl
 |cons a r ih =>simp only[List.any_cons,ih];congr 1;rw[Bool.eq_iff_iff,beq_iff_eq,beq_iff_eq];exact eq_comm
theorem zvf(l:List Tx)(s:Tx)(hl:l.length<1000000000):∃v:Int,eW Yb [dG l,.str s] ⟨false,.int .i64 v⟩/\(v≥0↔l.any (·==s)=true):=by
 have hr:=BC (body:=exec (T [] 0) (l.length+1) none Ta) (Iu l s) (fun _=>cH) l.length (fun i=>!(s==l.getD i [])) (r:=_) (fun i=>(.ret,{slots:=[(4,⟨false,.int .i64 i⟩)],dR:=[],boxes:=[],defers:=[]},cH)) (fun _ _ h=>by cases h) (fun _ _ _ h=>by cases h) (fun i hi hq=>zfbb l s i hi hl (by simpa using hq)) (fun i hi hq=>zfcb l s i hi (by simpa using hq)) (zitb l s) (l.length+1) 0 (Nat.zero_le _) (by omega);simp only[Iu,iG]at hr;rcases hr with⟨i,_,hi,hq,_,h⟩|⟨hq,h⟩
 ·refine⟨i,jH (af:=R9) (n:=l.length+1) (O':=cH) (jG [] 0) rfl rfl (by simp[fO,jY,iF]) rfl ?_,?_⟩
  ·simp only[R9,sA,Nat.reduceAdd,Nat.reduceBEq,Int.reduceNeg,kn,lE,h]
  ·refine⟨fun _=>?_,fun _=>by omega⟩;rw[<-zd2,List.any_eq_true];rw[iU _ _ _ hi]at hq;exact⟨_,aX hi,by simpa using hq⟩
 ·refine⟨-1,jH (af:=R9) (n:=l.length+1) (O':=cH) (jG [] 0) rfl rfl (by simp[fO,jY,iF]) rfl ?_,?_⟩
  ·simp only[R9,sA,Nat.reduceAdd,Nat.reduceBEq,Int.reduceNeg,kn,lE,h]
  ·refine⟨fun h=>by omega,fun ha=>?_⟩;rw[<-zd2,List.any_eq_true]at ha;obtain⟨x,hx,hxs⟩:=ha;obtain⟨i,hi,rfl⟩:=List.getElem_of_mem hx;have:=hq i (Nat.zero_le _) hi;rw[iU _ _ _ hi]at this;simp only[hxs]at this;cases this
def ZU:List D->Cell->Prop:=fun ds c=>∀l s,ds=[dG l,.str s]->∃v:Int,c=⟨false,.int .i64 v⟩/\(v≥0↔l.any (·==s)=true)
theorem zue{S:fC}(hS:dC S Yb=some ZU)(l:List Tx)(s:Tx)(hl:l.length<1000000000):∃v:Int,(∀n O,T S (n+1) Yb [dG l,.str s] O=some (.ret ⟨false,.int .i64 v⟩,O))/\(v≥0↔l.any (·==s)=true):=by
 obtain⟨v,hp,hv⟩:=zvf l s hl
 obtain⟨c,h1,h2⟩:=lD (S:=S) hS rfl (c:=⟨false,.int .i64 v⟩) (fun l' s' e=>by
  simp only[aL,D.str.injEq,and_true]at e;obtain⟨e1,rfl⟩:=e;obtain rfl:=lN e1;exact⟨v,rfl,hv⟩) hp
 obtain⟨u,rfl,hu⟩:=h1 l s rfl;exact⟨u,h2,hu⟩
theorem zoq(l:List Tx)(s:Tx)(hl:l.length<1000000000):eW Ad [dG l,.str s] ⟨false,.bool (l.any (·==s))⟩:=by
 obtain⟨v,h1,h2⟩:=zue (S:=[(Yb,ZU)]) rfl l s hl;refine jH (af:=FZ) (n:=1) (O':=cH) (jG [(Yb,ZU)] 1) rfl rfl (by simp[fO,jY,iF]) rfl ?_;have h1:=h1 0 cH;cases hb:l.any (·==s)with
 |true =>have hv:v≥0:=h2.2 hb;simp only[FZ,sA,Nat.reduceAdd,Nat.reduceBEq,kn,h1,hv]
 |false =>
  have hv:¬v≥0:=fun h=>by rw[h2.1 h]at hb;cases hb
  simp only[FZ,sA,Nat.reduceAdd,Nat.reduceBEq,kn,h1,hv]
def WW:List D->Cell->Prop:=fun ds c=>∀l s,ds=[dG l,.str s]->c=⟨false,.bool (l.any (·==s))⟩
section
variable{C:eV}{n:Nat}{O:Store}
end
mutual
def kO:Co->Nat
 |.mk _ _ _ ks bs al=>1+max (Jh ks) (max (Dy bs) (Dx al))
def Jh:List Co->Nat
 |[]=>0
 |c::r=>max (kO c) (Jh r)
def Dy:List (Tx×Co)->Nat
 |[]=>0
 |(_,c)::r=>max (kO c) (Dy r)
def Dx:List (Hd×Co)->Nat
 |[]=>0
 |(_,c)::r=>max (kO c) (Dx r)
end
theorem jo(c:Co):kO c=1+max (Jh c.ks) (max (Dy c.bs) (Dx c.al)):=by cases c;rw[kO];rfl
theorem zgl:∀(l:List Co)(x:Co),x∈l->kO x<=Jh l
 |y::r,x,h=>by
  simp only[Jh];rcases aS.1 h with rfl|h
  ·omega
  ·have:=zgl r x h;omega
theorem zgk:∀(l:List (Tx×Co))(x:Tx×Co),x∈l->kO x.2<=Dy l
 |(s,y)::r,x,h=>by
  simp only[Dy];rcases aS.1 h with rfl|h
  ·simp only;omega
  ·have:=zgk r x h;omega
theorem zgj:∀(l:List (Hd×Co))(x:Hd×Co),x∈l->kO x.2<=Dx l
 |(s,y)::r,x,h=>by
  simp only[Dx];rcases aS.1 h with rfl|h
  ·simp only;omega
  ·have:=zgj r x h;omega
theorem zer{F:Co->List Su->Co×List Su}{Q:Su->Prop}:∀(l:List (Tx×Co))(m:List Su),(∀p∈l,∀m,∀u∈(F p.2 m).2,u∈m\/Q u)->∀u∈(iP F l m).2,u∈m\/Q u
 |[],m,_,u,hu=>.inl hu
 |(s,c)::l,m,h,u,hu=>by
  rcases zer l (F c m).2 (fun q hq=>h q (aI _ hq)) u hu with h1|h1
  ·exact h (s,c) (aQ ..) m u h1
  ·exact .inr h1
theorem zes{F:Co->List Su->Co×List Su}{Q:Su->Prop}:∀(l:List Co)(m:List Su),(∀p∈l,∀m,∀u∈(F p m).2,u∈m\/Q u)->∀u∈(jL F l m).2,u∈m\/Q u
 |[],m,_,u,hu=>.inl hu
 |c::l,m,h,u,hu=>by
  rcases zes l (F c m).2 (fun q hq=>h q (aI _ hq)) u hu with h1|h1
  ·exact h c (aQ ..) m u h1
  ·exact .inr h1
theorem zen{F:Hd->Co->List Su->Co×List Su}{Q:Su->Prop}:∀(l:List (Hd×Co))(m:List Su),(∀p∈l,∀m,∀u∈(F p.1 p.2 m).2,u∈m\/Q u)->∀u∈(jT F l m).2,u∈m\/Q u
 |[],m,_,u,hu=>.inl hu
 |(s,c)::l,m,h,u,hu=>by
  rcases zen l (F s c m).2 (fun q hq=>h q (aI _ hq)) u hu with h1|h1
  ·exact h (s,c) (aQ ..) m u h1
  ·exact .inr h1
theorem zeqb:∀(k:Nat)(c:Co),c.size=k->∀(z:Bool)(ar:List Tx)(t:Tx)(m:List Su),∀u∈(fS c z ar t m).2,u∈m\/(kO u.body<=kO c/\(rC c z=false->kO u.body<kO c)):=by
 intro k;induction k using Nat.strongRecOn with
 |ind k ih =>
  intro c hk z ar t m u hu;have hz:=jD c;have hh:=jo c;cases hl:rC c z with
  |true =>
   rw[y9 _ _ _ _ _ hl]at hu;simp only[vI,bJ,bP]at hu;rcases hu with h|rfl
   ·exact .inl h
   ·exact .inr ⟨aM _,fun h=>by cases h⟩
  |false =>
   rw[Kq _ _ _ _ _ hl]at hu;have key:u∈m\/kO u.body<kO c:=by
    simp only[fA,fK,fB,aV]at hu
    rcases zen (Q:=fun u=>kO u.body<kO c) _ _ (fun p hp m' u' hu'=>by
     have h1:=qP _ _ hp;have h2:=zgj _ _ hp;rcases ih p.2.size (by omega) p.2 rfl _ _ _ _ u' hu' with h|h
     ·exact .inl h
     ·exact .inr (by omega)) u hu with h|h
    ·rcases zes (Q:=fun u=>kO u.body<kO c) _ _ (fun p hp m' u' hu'=>by
      have h1:=Bn _ _ hp;have h2:=zgl _ _ hp;rcases ih p.size (by omega) p rfl _ _ _ _ u' hu' with h|h
      ·exact .inl h
      ·exact .inr (by omega)) u h with h|h
     ·rcases zer (Q:=fun u=>kO u.body<kO c) _ _ (fun p hp m' u' hu'=>by
       have h1:=xB _ _ hp;have h2:=zgk _ _ hp;rcases ih p.2.size (by omega) p.2 rfl _ _ _ _ u' hu' with h|h
       ·exact .inl h
       ·exact .inr (by omega)) u h with h|h
      ·exact .inl h
      ·exact .inr h
     ·exact .inr h
    ·exact .inr h
   rcases key with h|h
   ·exact .inl h
   ·exact .inr ⟨by omega,fun _=>h⟩
theorem zc1(c:Co)(ar:List Tx)(t:Tx):∀u∈(fS c false ar t []).2,kO u.body<kO c:=fun u hu=>by
 rcases zeqb _ c rfl false ar t [] u hu with h|h
 ·cases h
 ·exact h.2 rfl
def Yu(B:Nat)(u:Su):Prop:=Fl B false u.body/\u.name.length<=B/\u.ps.length+u.body.size<1000000
def FO(B n:Nat)(us:List Su):Prop:=(∀u∈us,Yu B u)/\us.length<=n/\mW us<=3*n*n
def Ci(B B':Nat)(s:Su):Prop:=pU B s.body/\s.name.length+22*kO s.body<=B'/\s.ps.length<=100000/\s.body.size<=100000
theorem OU:∀(l:List Su)(x:Su),x∈l->x.body.size<=mW l
 |y::r,x,h=>by
  simp only[mW];rcases aS.1 h with rfl|h
  ·omega
  ·have:=OU r x h;omega
theorem ztn(l:List Su)(i:Nat):mW (l.take i)<=mW l:=by have:=XX (l.take i) (l.drop i);rw[List.take_append_drop]at this;omega
theorem il:∀l:List Su,l.length<=mW l
 |[]=>by simp[mW]
 |y::r=>by
  have:=il r;have:=lT y.body;simp only[mW,aG];omega
section
variable{C:eV}{n:Nat}{O:Store}
def Uf(m acc:List Su)(i:Nat):Env:={slots:=[(4,⟨false,eG m⟩),(5,⟨true,eG acc⟩),(6,⟨false,.int .i64 i⟩)],dR:=[],boxes:=[],defers:=[]}
theorem zerb(m acc us:List Su)(i:Nat)(h:i<m.length)(hm:m.length<100000000)(hl:acc.length+us.length<1000000000)(hc:C yH [dU m[i]] O=some (.ret ⟨false,eG us⟩,O)):exec C n none L6 (Uf m acc i) O=some (.normal,Uf m (acc++us) (i+1),O):=by
 have hi:((i:Int)<(m.length:Int)):=by omega
 have hx:=zL m i h;rw[sY,cU]at hc hx;simp only[eX]at hc hx;simp only[L6,Uf,sA,seval,kn,nY,hi,hx,hc,CP,ry acc us true (fun _=>rfl) hl,iE (i:=i) (by omega)]
theorem zieb(m acc:List Su):exec C n none L6 (Uf m acc m.length) O=some (.exit 0,{Uf m acc m.length with slots:=[(4,⟨false,eG m⟩),(5,⟨true,eG acc⟩),(6,⟨false,.int .i64 m.length⟩),(27,⟨false,.bool false⟩)]},O):=by
 have hi:¬((m.length:Int)<(m.length:Int)):=by omega
 simp only[L6,Uf,sA,seval,kn,nY,hi]
end
def TZ:Tx:=[80,65,67,75]
def lO(f:Fd):Cd:=⟨f.name,f.arity,[⟨TZ,f.arity,f.tag,f.name⟩,⟨nJ,0,0,[]⟩,⟨kT,0,0,[]⟩,⟨yX,0,0,[]⟩]⟩
theorem zmib(c:Cd):(dD c).ok=true:=by simp[dD,D.ok,eM,D.one,rX]
theorem zaub(c:Cd):(dD c).cells.length=3:=rfl
theorem RZ(a:List Cd)(x:Cd)(o:Bool)(ho:a≠[]->o=true)(hl:a.length<1000000000):lM tV 48 ⟨o,kF a⟩ [dD x]=some ⟨true,kF (a++[x])⟩:=Oq zmib zaub (by omega) a x o ho hl
section
variable{C:eV}{n:Nat}{O:Store}
def qW(us:List Su)(i:Nat):Env:={slots:=[(0,⟨false,gJ FL⟩),(1,⟨false,eG us⟩),(7,⟨ow i,kF ((FL.take i).map lO)⟩),(8,⟨false,.int .i64 i⟩)],dR:=[],boxes:=[],defers:=[]}
theorem zd0b(us:List Su)(i:Nat)(h:i<FL.length):exec C n none K8 (qW us i) O=some (.normal,qW us (i+1),O):=by
 have hi:((i:Int)<(FL.length:Int)):=by omega
 have hl:FL.length=5:=rfl;have hx:=Hn FL i h;have ha:=RZ ((FL.take i).map lO) (lO FL[i]) (ow i) (fun h=>Yd (fun e=>h (by rw[e];rfl))) (by simp;omega);have e:(FL.take i).map lO++[lO FL[i]]=(FL.take (i+1)).map lO:=by rw[<-mC FL i h,aU];rfl
 rw[e]at ha;generalize FL[i]=f at hx ha;simp only[dF]at hx;simp only[dD,lO,eM,dI,aO,aZ,gX,TZ,nJ,kT,yX]at ha;simp only[K8,qW,sA,seval,kn,uU,hi,hx,ha,iE (i:=i) (by omega),rA]
theorem zhwb(us:List Su):exec C n none K8 (qW us FL.length) O=some (.exit 0,{qW us FL.length with slots:=[(0,⟨false,gJ FL⟩),(1,⟨false,eG us⟩),(7,⟨true,kF (FL.map lO)⟩),(8,⟨false,.int .i64 FL.length⟩),(23,⟨false,.bool false⟩)]},O):=by
 have hi:¬((FL.length:Int)<(FL.length:Int)):=by omega
 simp only[K8,qW,sA,seval,kn,uU,hi,aV];rfl
def Dn(us:List Su)(cs:List Cd)(k:Nat)(fs:List Su)(i:Nat):Env:={slots:=[(1,⟨false,eG us⟩),(7,⟨true,kF cs⟩),(11,⟨false,.int .i64 k⟩),(12,⟨false,eG fs⟩),(13,⟨false,.int .i64 i⟩)],dR:=[],boxes:=[],defers:=[]}
theorem zd5b(us:List Su)(cs:List Cd)(k:Nat)(fs:List Su)(i:Nat)(is:List In)(h:i<fs.length)(hl:fs.length<100000000)(hc:cs.length<1000000000)(h1:C Qs [dG fs[i].ps] O=some (.ret ⟨false,dG fs[i].ps.reverse⟩,O))(h2:C Ab [dM fs[i].body,dG fs[i].ps.reverse] O=some (.ret ⟨false,eM is⟩,O)) :
  exec C n none Rz (Dn us cs k fs i) O=some (.normal,Dn us (cs++[⟨fs[i].name,fs[i].ps.length,is⟩]) k fs (i+1),O):=by
 have hi:((i:Int)<(fs.length:Int)):=by omega
 have hx:=zL fs i h;have ha:=RZ cs ⟨fs[i].name,fs[i].ps.length,is⟩ true (fun _=>rfl) hc;generalize fs[i]=u at hx ha h1 h2;rw[sY,cU]at hx;have hp:=W9 u;simp only[cU,eX,eO]at hx h2 hp;simp only[dD]at ha;simp only[Rz,Dn,sA,seval,kn,nY,lE,Tt,Aw,zJ,hi,hx,hp,h1,h2,ha,iE (i:=i) (by omega)]
theorem zhxb(us:List Su)(cs:List Cd)(k:Nat)(fs:List Su):exec C n none Rz (Dn us cs k fs fs.length) O=some (.exit 4,{Dn us cs k fs fs.length with slots:=[(1,⟨false,eG us⟩),(7,⟨true,kF cs⟩),(11,⟨false,.int .i64 k⟩),(12,⟨false,eG fs⟩),(13,⟨false,.int .i64 fs.length⟩),(64,⟨false,.bool false⟩)]},O):=by
 have hi:¬((fs.length:Int)<(fs.length:Int)):=by omega
 simp only[Rz,Dn,sA,seval,kn,nY,hi]
end
def wt:List Cd->Nat
 |[]=>0
 |c::r=>c.body.length+1+wt r
section
variable{C:eV}{n:Nat}{O:Store}
def Tz(us:List Su)(cs:List Cd)(k:Nat):Env:={slots:=[(1,⟨false,eG us⟩),(7,⟨true,kF cs⟩),(11,⟨false,.int .i64 k⟩)],dR:=[],boxes:=[],defers:=[]}
theorem zd7b(us:List Su)(cs cs':List Cd)(k:Nat)(fs:List Su)(h:k<us.length)(hl:us.length<1000)(h1:C yH [dU us[k]] O=some (.ret ⟨false,eG fs⟩,O))
  (h2:jI (exec C n none Rz) n (Dn us cs k fs 0) O=some (.exit 4,{Dn us cs' k fs fs.length with slots:=[(1,⟨false,eG us⟩),(7,⟨true,kF cs'⟩),(11,⟨false,.int .i64 k⟩),(12,⟨false,eG fs⟩),(13,⟨false,.int .i64 fs.length⟩),(64,⟨false,.bool false⟩)]},O)) :
  exec C n none K9 (Tz us cs k) O=some (.normal,Tz us cs' (k+1),O):=by
 have hi:((k:Int)<(us.length:Int)):=by omega
 have hx:=zL us k h;rw[sY,cU]at hx h1;simp only[eX]at hx h1;simp only[Dn,iG]at h2;simp only[K9,Tz,sA,seval,kn,nY,hi,hx,h1,h2,iE (i:=k) (by omega)]
theorem zhyb(us:List Su)(cs:List Cd):exec C n none K9 (Tz us cs us.length) O=some (.exit 2,{Tz us cs us.length with slots:=[(1,⟨false,eG us⟩),(7,⟨true,kF cs⟩),(11,⟨false,.int .i64 us.length⟩),(53,⟨false,.bool false⟩)]},O):=by
 have hi:¬((us.length:Int)<(us.length:Int)):=by omega
 simp only[K9,Tz,sA,seval,kn,nY,hi]
end
set_option maxHeartbeats 4000000
section
variable{C:eV}{n:Nat}{O:Store}
end
section
variable{C:eV}{n:Nat}{O:Store}
end
theorem JV{α:Type}(k:Nat)(v:α):∀l:List (Nat×α),dC (fF l k v) k=some v
 |[]=>by simp[fF,dC,dK]
 |(a,x)::r=>by
  rw[fF];cases h:a==k with
  |true=>simp[dC,dK,h]
  |false =>
   cases h2:Nat.ble k a with
   |true=>simp[dC,dK]
   |false=>simp only[dX,dC,h,JV k v r]
theorem vw{α:Type}(k j:Nat)(v:α)(hj:(k==j)=false):∀l:List (Nat×α),dC (fF l k v) j=dC l j
 |[]=>by simp[fF,dC,dK,hj]
 |(a,x)::r=>by
  rw[fF];cases h:a==k with
  |true =>
   have:a=k:=by simpa using h
   subst this;simp[dC,dK,hj]
  |false =>
   cases h2:Nat.ble k a with
   |true=>simp[dC,dK,hj]
   |false=>simp only[dX,dC,vw k j v hj r]
structure KS(O:Store)(m:Nat)(ds:List Int):Prop where
 a:dC O.dE 0=some (cZ ds)
 b:dC O.dE 2=some [⟨false,.arr uT 0 0 m⟩]
 n:3<=O.next
 l:ds.length=m
theorem Fv{α:Type}(k j:Nat)(hj:j≠k):∀l:List (Nat×α),dC (gI l k) j=dC l j
 |[]=>rfl
 |(i,v)::l=>by
  rw[gI];by_cases h:i=k
  ·subst h;have e:(i==i)=true:=by simp
   have e2:(i==j)=false:=beq_false_of_ne (fun h=>hj h.symm);rw[e,dQ,dC,e2,dX,Fv i j hj l]
  ·have e:(i==k)=false:=beq_false_of_ne h;rw[e,dX,dC,dC,Fv k j hj l]
theorem oZ{α:Type}(k j:Nat)(v:α)(l:List (Nat×α))(hj:k≠j):dC ((k,v)::l) j=dC l j:=by have e:(k==j)=false:=beq_false_of_ne hj;rw[dC,e,dX]
theorem oO{α:Type}(k:Nat)(v:α)(l:List (Nat×α)):dC ((k,v)::l) k=some v:=by simp[dC,dK]
abbrev Es:=List (Tx×Int×Nat)
def Au(es:Es):List (D×D×Nat):=es.map fun e=>(.str e.1,.int .i64 e.2.1,e.2.2)
def look:Es->Tx->Option Int
 |[],_=>none
 |e::r,k=>dK (k==e.1) (some e.2.1) (look r k)
def Dv(k:Tx):Es->Option (D×Nat×Nat)
 |[]=>none
 |e::r=>dK (k==e.1) (some (.int .i64 e.2.1,e.2.2,0)) (iW (Dv k r) none fun p=>some (p.1,p.2.1,p.2.2+1))
theorem ZA(k:Tx):∀es:Es,nQ (.str k) (Au es)=some (Dv k es)
 |[]=>rfl
 |e::r=>by
  have h:=ZA k r;unfold Au at h;simp only[Au,aO,nQ,IW,dH,eP,Dv,h];cases k==e.1<;>rfl
theorem ZC(k:Tx):∀es:Es,iW (Dv k es) (look es k=none) fun v=>∃x,v.1=.int .i64 x/\look es k=some x
 |[]=>rfl
 |e::r=>by
  have h:=ZC k r;simp only[Dv,look];cases hk:k==e.1 with
  |true=>exact⟨_,rfl,rfl⟩
  |false =>
   simp only[dX];cases hf:Dv k r with
   |none=>rw[hf]at h;exact h
   |some p=>rw[hf]at h;exact h
theorem zel(k:Tx)(v:Int)(b:Nat):∀es:Es,look es k=none->∀x,look (es++[(k,v,b)]) x=xW (look es) k v x
 |[],_,x=>by
  simp only[bG,look,xW]
 |e::r,h,x=>by
  simp only[look]at h;have hk:(k==e.1)=false:=by
   cases hb:k==e.1 with
   |true=>rw[hb]at h;cases h
   |false=>rfl
  rw[hk,dX]at h;have:=zel k v b r h x;simp only[aW,look,xW]at this ⊢;rw[this];cases hx:x==e.1 with
  |false=>rfl
  |true =>
   have:(x==k)=false:=by
    have h1:x=e.1:=by simpa using hx
    subst h1
    exact beq_false_of_ne fun h=>(by have:k≠e.1:=by simpa using hk
                                     exact this h.symm)
   rw[this];rfl
theorem zem(k:Tx)(v:Int):∀(es:Es)(p:D×Nat×Nat),Dv k es=some p->∀x,look (es.set p.2.2 (k,v,p.2.1)) x=xW (look es) k v x
 |[],p,h,x=>by cases h
 |e::r,p,h,x=>by
  simp only[Dv]at h;cases hk:k==e.1 with
  |true =>
   rw[hk,dQ]at h;cases h;have:k=e.1:=by simpa using hk
   subst this;simp only[List.set_cons_zero,look,xW];cases x==e.1<;>rfl
  |false =>
   rw[hk,dX]at h;cases hf:Dv k r with
   |none=>rw[hf]at h;cases h
   |some q =>
    rw[hf,eP]at h;cases h;have h1:=zem k v r q hf x;simp only[List.set_cons_succ,look,xW]at h1 ⊢;rw[h1];cases hx:x==e.1 with
    |false=>rfl
    |true =>
     have:(x==k)=false:=by
      have h1:x=e.1:=by simpa using hx
      subst h1
      exact beq_false_of_ne fun h=>(by have:k≠e.1:=by simpa using hk
                                       exact this h.symm)
     rw[this];rfl
def qS(a:Nat):List In->D
 |[]=>.dN
 |x::l=>.arr fE a 0 (l.length+1)
theorem zxq(a:Nat)(l:List In)(x:In):qS a (l++[x])=.arr fE a 0 (l.length+1):=by
 cases l with
 |nil=>rfl
 |cons y l=>simp[qS]
theorem DK(a:Nat)(l:List In)(h:l≠[]):qS a l=.arr fE a 0 l.length:=by
 cases l with
 |nil=>exact absurd rfl h
 |cons y l=>rfl
theorem zbrb(a:Nat)(l:List In):lenOf (qS a l)=some l.length:=by cases l<;>rfl
theorem CY(a:Nat)(l:List In):(qS a l).one=true:=by cases l<;>rfl
theorem zum(a:Nat)(l:List In):(qS a l).cells=[qS a l]:=by cases l<;>rfl
theorem zfvb(a:Nat)(l:List In):(qS a l).ok=true:=by cases l<;>rfl
structure CA(O:Store)(p a:Nat)(md:D)(L:List In):Prop where
 obj:dC O.dE p=some [⟨false,qS a L⟩,⟨false,md⟩]
 arr:L≠[]->dC O.dE a=some (cI L)/\dC O.fH a=some ⟨fE.el,fE.sz⟩
 pa:p≠a
 pn:p<O.next
 an:a<O.next
structure CS(O:Store)(p a m:Nat)(L:List In)(M:At):Prop where
 ca:CA O p a (.map m) L
 map:∃es c,dC O.dP m=some (.map (Au es) c)/\∀k,look es k=M k
 mn:m<O.next
structure iD(p a m a' m':Nat)(O O':Store):Prop where
 nx:O.next<=O'.next
 ob:∀j,j<O.next->j≠p->j≠a->dC O'.dE j=dC O.dE j
 ty:∀j,j<O.next->dC O'.fH j=dC O.fH j
 ot:∀j,j<O.next->j≠m->dC O'.dP j=dC O.dP j
 fa:a'=a\/O.next<=a'
 fm:m'=m\/O.next<=m'
theorem iD.refl{p a m:Nat}{O:Store}:iD p a m a m O O:=⟨aM _,fun _ _ _ _=>rfl,fun _ _=>rfl,fun _ _ _=>rfl,.inl rfl,.inl rfl⟩
theorem iD.trans{p a m a1 m1 a2 m2:Nat}{O O1 O2:Store}(h:iD p a m a1 m1 O O1)(k:iD p a1 m1 a2 m2 O1 O2):iD p a m a2 m2 O O2:=by
 have h1:=h.nx;refine⟨Nat.le_trans h.nx k.nx,fun j hj hp ha=>?_,fun j hj=>?_,fun j hj hm=>?_,?_,?_⟩
 ·rw[k.ob j (by omega) hp (fun e=>by rcases h.fa with e2|e2<;>omega),h.ob j hj hp ha]
 ·rw[k.ty j (by omega),h.ty j hj]
 ·rw[k.ot j (by omega) (fun e=>by rcases h.fm with e2|e2<;>omega),h.ot j hj hm]
 ·rcases k.fa with e|e
  ·rw[e];exact h.fa
  ·exact .inr (by omega)
 ·rcases k.fm with e|e
  ·rw[e];exact h.fm
  ·exact .inr (by omega)
theorem iD.get{p a m a' m':Nat}{O O':Store}(h:iD p a m a' m' O O'){j:Nat}{cs:List Cell}(hj:dC O.dE j=some cs)(hn:j<O.next)(hp:j≠p)(ha:j≠a):dC O'.dE j=some cs:=by rw[h.ob j hn hp ha,hj]
def GA(O:Store)(t:Nat)(cs:List Cell):Store:={dE:=(O.next,cs)::O.dE,fH:=(O.next,⟨t,0⟩)::O.fH,dP:=O.dP,next:=O.next+1}
def SO(O:Store)(id:Nat)(cs:List Cell):Store:={O with dE:=fF O.dE id cs}
def SM(O:Store)(id:Nat)(x:rJ):Store:={O with dP:=fF O.dP id x}
def GM(O:Store)(x:rJ):Store:={O with dP:=(O.next,x)::O.dP,next:=O.next+1}
section
variable{O:Store}{t id j:Nat}{cs:List Cell}{x:rJ}
theorem nO:(GA O t cs).next=O.next+1:=rfl
theorem pA:dC (GA O t cs).dE O.next=some cs:=oO _ _ _
theorem F7:(GA O t cs).dP=O.dP:=rfl
theorem nP(h:j≠O.next):dC (GA O t cs).dE j=dC O.dE j:=oZ _ _ _ _ (fun e=>h e.symm)
theorem PQ(h:j≠O.next):dC (GA O t cs).fH j=dC O.fH j:=oZ _ _ _ _ (fun e=>h e.symm)
theorem oJ:(SO O id cs).next=O.next:=rfl
theorem Qb:(SO O id cs).dP=O.dP:=rfl
theorem Ww:(SO O id cs).fH=O.fH:=rfl
theorem rL:dC (SO O id cs).dE id=some cs:=JV _ _ _
theorem mS(h:j≠id):dC (SO O id cs).dE j=dC O.dE j:=vw _ _ _ (beq_false_of_ne fun e=>h e.symm) _
theorem zfs:dC (SM O id x).dP id=some x:=JV _ _ _
theorem zkfb(h:j≠id):dC (SM O id x).dP j=dC O.dP j:=vw _ _ _ (beq_false_of_ne fun e=>h e.symm) _
theorem D5:(GM O x).next=O.next+1:=rfl
theorem zfq:(GM O x).dE=O.dE:=rfl
theorem OE:dC (GM O x).dP O.next=some x:=oO _ _ _
theorem mr(h:j≠O.next):dC (GM O x).dP j=dC O.dP j:=oZ _ _ _ _ (fun e=>h e.symm)
theorem zeub:({dE:=fF O.dE id cs,fH:=O.fH,dP:=O.dP,next:=O.next}:Store)=SO O id cs:=rfl
theorem zfob{z:List D}{e:Env}:mE (.pM t z) e O=some (.ptr O.next 0,GA O t (z.map Cell.of)):=rfl
theorem zlob{y:dS}{e:Env}:mE (.mF t y) e O=dH (eE e y) fun c=>dK c.d.ok (some (.ptr O.next 0,GA O t (c.d.cells.map Cell.of))) none:=rfl
theorem zfpb{k:Nat}{x y:dS}{e:Env}:mE (.nM k x y) e O=dH (kL e x) fun p=>dH (eE e y) fun c=>match p with
  |.ptr id off=>dH (dC O.dE id) fun cs=>dK (sM ⟨false,c.d⟩ k off cs) (some (.undef,SO O id (putCells cs off (pK ⟨false,c.d⟩)))) none
  |_=>none:=rfl
theorem zlmb{k:RowK}{fG:Nat}{x y:dS}{e:Env}:mE (.qN k fG x y) e O=dH (eE e x) fun c=>dH (eE e y) fun d=>dH (nB O.dE d.d) fun ys=>lR O k fG c.d ys:=rfl
theorem zlnb{w:List Nat}{k:RowK}{fG:Nat}{x y:dS}{e:Env}:mE (.Bi w k fG x y) e O=dH (eE e x) fun c=>dH (eE e y) fun d=>dH (nB O.dE d.d) fun ys=>lR O k fG c.d ys:=rfl
theorem mUpd{ks:Bool}{x i y:dS}{e:Env}:mE (.update ks x i y) e O=dH (eE e x) fun c=>dH (eE e i) fun k=>dH (eE e y) fun v=>dH (xT O.dP c.d) fun m=>dK (wJ ks k.d&&v.d.ok) (dH (nQ k.d m.2.1) fun r =>
   some (.undef,SM O m.1 (iW r (.map (m.2.1++[(k.d,v.d,m.2.2)]) (m.2.2+1)) fun p=>.map (m.2.1.set p.2.2 (k.d,v.d,p.2.1)) m.2.2))) none:=rfl
theorem zlpb{e:Env}:mE .makeMap e O=some (.map O.next,GM O (.map [] 0)):=rfl
theorem zfnb{k:RowK}{ps:List dS}{e:Env}:mE (.vW k ps) e O=dH (oI e ps) fun ds=>dK (jZ k.sz ds&&decide (ds.length*k.sz<=16777216)) (some (.arr k O.next 0 ds.length,fR O k (cellsOf ds))) none:=rfl
set_option linter.defProp false in
def mB:=aB @zfob (aB @zlob (aB @zfpb (aB @zlmb (aB @zlnb (aB @mUpd (aB @zlpb (aB @zfnb @zeub)))))))
theorem iD.ga{p a m:Nat}:iD p a m a m O (GA O t cs):=⟨by rw[nO];omega,fun j h _ _=>nP (by omega),fun j h=>PQ (by omega),fun _ _ _=>rfl,.inl rfl,.inl rfl⟩
theorem iD.gm{p a m:Nat}:iD p a m a m O (GM O x):=⟨by rw[D5];omega,fun j h _ _=>rfl,fun j h=>rfl,fun j h _=>mr (by omega),.inl rfl,.inl rfl⟩
end
theorem iD.so{p a m a' m':Nat}{O O':Store}(h:iD p a m a' m' O O'){id:Nat}{cs:List Cell}(hi:O.next<=id\/id=p):iD p a m a' m' O (SO O' id cs) :=
 ⟨h.nx,fun j hj hp ha=>by rw[mS (by rcases hi with hi|hi<;>omega),h.ob j hj hp ha],h.ty,h.ot,h.fa,h.fm⟩
theorem CA.keep{O O':Store}{p a:Nat}{md:D}{L:List In}(h:CA O p a md L)(hn:O.next<=O'.next)(h1:dC O'.dE p=dC O.dE p)(h2:dC O'.dE a=dC O.dE a)(h3:dC O'.fH a=dC O.fH a):CA O' p a md L :=
 ⟨by rw[h1];exact h.obj,fun hL=>by rw[h2,h3];exact h.arr hL,h.pa,aP h.pn hn,aP h.an hn⟩
theorem CA.ga{O:Store}{p a:Nat}{md:D}{L:List In}{t:Nat}{cs:List Cell}(h:CA O p a md L):CA (GA O t cs) p a md L :=
 h.keep (by rw[nO];omega) (nP (by have:=h.pn;omega)) (nP (by have:=h.an;omega)) (PQ (by have:=h.an;omega))
theorem CA.so{O:Store}{p a:Nat}{md:D}{L:List In}{id:Nat}{cs:List Cell}(h:CA O p a md L)(h1:id≠p)(h2:id≠a):CA (SO O id cs) p a md L :=
 h.keep (aM _) (mS (fun e=>h1 e.symm)) (mS (fun e=>h2 e.symm)) rfl
theorem CS.ga{O:Store}{p a m:Nat}{L:List In}{M:At}{t:Nat}{cs:List Cell}(h:CS O p a m L M):CS (GA O t cs) p a m L M:=⟨h.ca.ga,h.map,by rw[nO];have:=h.mn;omega⟩
theorem CS.so{O:Store}{p a m:Nat}{L:List In}{M:At}{id:Nat}{cs:List Cell}(h:CS O p a m L M)(h1:id≠p)(h2:id≠a):CS (SO O id cs) p a m L M:=⟨h.ca.so h1 h2,h.map,h.mn⟩
theorem CS.gm{O:Store}{p a m:Nat}{L:List In}{M:At}{x:rJ}(h:CS O p a m L M):CS (GM O x) p a m L M :=
 ⟨h.ca.keep (by rw[D5];omega) rfl rfl rfl,by
  obtain⟨es,c,h1,h2⟩:=h.map;exact⟨es,c,by rw[mr (by have:=h.mn;omega),h1],h2⟩,by rw[D5];have:=h.mn;omega⟩
theorem CA.app{O:Store}{p a:Nat}{md:D}{L:List In}(h:CA O p a md L)(x:In)(hl:L.length<1000000000):∃O1,lR O fE 48 (qS a L) [dI x]=some (.arr fE O.next 0 (L.length+1),O1)/\dC O1.dE p=some [⟨false,qS a L⟩,⟨false,md⟩] /\
  CA (SO O1 p [⟨false,.arr fE O.next 0 (L.length+1)⟩,⟨false,md⟩]) p O.next md (L++[x])/\(∀m,iD p a m O.next m O (SO O1 p [⟨false,.arr fE O.next 0 (L.length+1)⟩,⟨false,md⟩]))/\O1.dP=O.dP/\O.next<O1.next/\(∀j,j<O.next->j≠a->dC O1.dE j=dC O.dE j):=by
 have hp:=h.pn;have hpn:¬O.next=p:=by omega
 have Og:=h.pa;have h1:jZ fE.sz [dI x]=true:=rfl;have e1:decide ((L.length+1)*48<=iN)=true:=decide_eq_true (show(L.length+1)*48<=1099511627776 by omega);have e2:decide (L.length+1<=iN)=true:=decide_eq_true (show L.length+1<=1099511627776 by omega)
 have fin:∀O1:Store,O1.next=O.next+2->O1.dP=O.dP->O1.fH=(O.next,⟨fE.el,fE.sz⟩)::O.fH->dC O1.dE O.next=some (cI (L++[x]))->(∀j,j<O.next->j≠a->dC O1.dE j=dC O.dE j) ->
   dC O1.dE p=some [⟨false,qS a L⟩,⟨false,md⟩]/\CA (SO O1 p [⟨false,.arr fE O.next 0 (L.length+1)⟩,⟨false,md⟩]) p O.next md (L++[x])/\(∀m,iD p a m O.next m O (SO O1 p [⟨false,.arr fE O.next 0 (L.length+1)⟩,⟨false,md⟩]))/\O1.dP=O.dP/\O.next<O1.next/\(∀j,j<O.next->j≠a->dC O1.dE j=dC O.dE j):=by
  intro O1 hn ho ht hc hj;refine⟨by rw[hj p hp Og];exact h.obj,⟨?_,fun _=>⟨?_,?_⟩,fun e=>hpn e.symm,?_,?_⟩,fun m=>⟨?_,fun j h1 h2 h3=>?_,fun j h1=>?_,fun j _ _=>?_,.inr (aM _),.inl rfl⟩,ho,by omega,hj⟩
  ·rw[rL,zxq]
  ·rw[mS hpn,hc]
  ·rw[Ww,ht,oO]
  ·rw[oJ];omega
  ·rw[oJ];omega
  ·rw[oJ];omega
  ·rw[mS h2,hj j h1 h3]
  ·rw[Ww,ht,oZ _ _ _ _ (by omega)]
  ·rw[Qb,ho]
 cases L with
 |nil =>
  have e:([dI x].isEmpty)=false:=rfl;refine⟨fR O fE (cellsOf [dI x]),?_,?_⟩
  ·simp only[qS,lR,h1,e,dQ,dX,aG,aH,aN]at e1 e2 ⊢;simp only[e1,e2,aY,dQ]
  ·refine fin _ rfl rfl rfl ?_ fun j hj ha=>?_
   ·simp only[fR,oO];rfl
   ·simp only[fR];rw[oZ _ _ _ _ (by omega)]
 |cons y r =>
  obtain⟨g1,g2⟩:=h.arr (by simp);have e0:decide ((r.length+1)*fE.sz<=(cI (y::r)).length)=true:=by rw[Wx];simp[fE]
  have ek:fE.same fE=true:=rfl;have ht:(cI (y::r)).take ((r.length+1)*fE.sz)=cI (y::r):=List.take_of_length_le (by rw[Wx];simp[fE]);have en:(cI (y::r)).map (fun c=>Cell.of c.d)++cellsOf [dI x]=cI (y::r++[x]):=(by rw[Ej,Ej,LQ,aU,AV];rfl);refine⟨fR {O with dE:=gI O.dE a} fE (cI (y::r++[x])),?_,?_⟩
  ·simp only[qS,lR,h1,dQ,g1,g2,dH,eP,ek,bW,aG,aH,aN]at e1 e2 ⊢;simp only[e0,e1,e2,aY,dQ,ht,en]
  ·refine fin _ rfl rfl rfl ?_ fun j hj ha=>?_
   ·simp only[fR,oO]
   ·simp only[fR];rw[oZ _ _ _ _ (by omega),Fv _ _ ha]
theorem CS.upd{O:Store}{p a m:Nat}{L:List In}{M:At}(h:CS O p a m L M)(k:Tx)(v:Int):∃es c r,dC O.dP m=some (.map es c)/\nQ (.str k) es=some r /\
  CS (SM O m (iW r (.map (es++[(.str k,.int .i64 v,c)]) (c+1)) fun p=>.map (es.set p.2.2 (.str k,.int .i64 v,p.2.1)) c)) p a m L (xW M k v) /\
  iD p a m a m O (SM O m (iW r (.map (es++[(.str k,.int .i64 v,c)]) (c+1)) fun p=>.map (es.set p.2.2 (.str k,.int .i64 v,p.2.1)) c)):=by
 obtain⟨es,c,h1,h2⟩:=h.map;refine⟨Au es,c,Dv k es,h1,ZA k es,⟨h.ca.keep (aM _) rfl rfl rfl,?_,h.mn⟩,⟨aM _,fun _ _ _ _=>rfl,fun _ _=>rfl,fun j _ hm=>zkfb hm,.inl rfl,.inl rfl⟩⟩;have hf:=ZC k es;cases hk:Dv k es with
 |none =>
  rw[hk]at hf;refine⟨es++[(k,v,c)],c+1,?_,fun x=>?_⟩
  ·rw[zfs];simp[iW,Au]
  ·rw[zel k v c es hf x];simp only[xW,h2]
 |some q =>
  refine⟨es.set q.2.2 (k,v,q.2.1),c,?_,fun x=>?_⟩
  ·rw[zfs];simp[iW,Au,List.map_set]
  ·rw[zem k v es q hk x];simp only[xW,h2]
theorem CS.look{O:Store}{p a m:Nat}{L:List In}{M:At}(h:CS O p a m L M)(k:Tx):∃es c r,dC O.dP m=some (.map es c)/\nQ (.str k) es=some r/\iW r (M k=none) fun v=>∃x,v.1=.int .i64 x/\M k=some x:=by obtain⟨es,c,h1,h2⟩:=h.map;refine⟨Au es,c,Dv k es,h1,ZA k es,?_⟩;rw[<-h2];exact ZC k es
theorem zhm:∀(L:List In)(k:Nat)(v:Int),k<L.length->putCells (cI L) (k*4+1) [⟨false,.int .i64 v⟩]=cI (kK L k v)
 |[],k,v,h=>by simp at h
 |x::L,0,v,h=>by simp[cI,putCells,kK]
 |x::L,k+1,v,h=>by
  have:=zhm L k v (by simp at h;omega);rw[show(k+1)*4+1=(k*4+1)+1+1+1+1 by omega];simp only[cI,putCells,kK,List.modify_succ_cons]at this ⊢;rw[this]
theorem CS.set{O:Store}{p a m:Nat}{L:List In}{M:At}(h:CS O p a m L M)(k:Nat)(v:Int)(hk:k<L.length) :
  CS (SO O a (putCells (cI L) (k*4+1) [⟨false,.int .i64 v⟩])) p a m (kK L k v) M/\iD p a m a m O (SO O a (putCells (cI L) (k*4+1) [⟨false,.int .i64 v⟩])):=by
 have Og:=h.ca.pa;have hne:L≠[]:=fun e=>by rw[e]at hk;simp at hk
 obtain⟨g1,g2⟩:=h.ca.arr hne;have hl:=wZ L k v;have hn2:kK L k v≠[]:=fun e=>by rw[e]at hl;simp at hl;exact hne (aR.1 hl.symm)
 refine⟨⟨⟨?_,fun _=>⟨?_,g2⟩,h.ca.pa,h.ca.pn,h.ca.an⟩,h.map,h.mn⟩,⟨aM _,fun j _ _ ha=>mS ha,fun _ _=>rfl,fun _ _ _=>rfl,.inl rfl,.inl rfl⟩⟩
 ·rw[mS Og,h.ca.obj,DK _ _ hne,DK _ _ hn2,hl]
 ·rw[rL,zhm L k v hk]
end Go.Fu

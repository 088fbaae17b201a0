/- A part of the proof. -/
import Derived.Test.YtldfbnbckiifeaaGreatDoorFhS
set_option maxHeartbeats 4000000
set_option linter.all false
namespace Go.Fu.X
open Go Go.Mx Go.Fu
set_option maxRecDepth 10000
theorem xU_S{B:Nat}{S:fC}(hS:dC S wN=some (UX B))(a:Co)(env:List Tx)(hp:Dt B a env):∃is,(GC B (8*a.size) is/\XR 0 a 0 env is)/\∀n O,U S (n+1) wN [dM a,dG env] O=some (.ret ⟨false,eM is⟩,O):=by
 obtain⟨js,h1,h2⟩:=hp
 obtain⟨c,h3,h4⟩:=FI (S:=S) hS rfl (c:=⟨false,eM js⟩) (fun a' b' e=>by
  simp only[aL,and_true]at e;obtain rfl:=qO e.1;obtain rfl:=lN e.2;exact⟨js,rfl,h2⟩) h1
 obtain⟨is,rfl,h5⟩:=h3 a env rfl;exact⟨is,h5,h4⟩
theorem xU_T{B:Nat}{S:fC}(hS:dC S Ab=some (JR B))(a:Co)(env:List Tx)(hp:Oa B a env):∃is,(GC B (8*a.size+3) is/\XR 1 a 0 env is)/\∀n O,U S (n+1) Ab [dM a,dG env] O=some (.ret ⟨false,eM is⟩,O):=by
 obtain⟨js,h1,h2⟩:=hp
 obtain⟨c,h3,h4⟩:=FI (S:=S) hS rfl (c:=⟨false,eM js⟩) (fun a' b' e=>by
  simp only[aL,and_true]at e;obtain rfl:=qO e.1;obtain rfl:=lN e.2;exact⟨js,rfl,h2⟩) h1
 obtain⟨is,rfl,h5⟩:=h3 a env rfl;exact⟨is,h5,h4⟩
theorem xU_C{B:Nat}{S:fC}(hS:dC S Dk=some (UW B))(a:Co)(i:Nat)(env:List Tx)(t:Bool)(hp:Nz B a i env t) :
  ∃is,(GC B (2+8*gP (a.al.drop i)) is/\XR (ck t) a i env is)/\∀n O,U S (n+1) Dk [dM a,.int .i64 i,dG env,.bool t] O=some (.ret ⟨false,eM is⟩,O):=by
 obtain⟨js,h1,h2⟩:=hp
 obtain⟨c,h3,h4⟩:=FI (S:=S) hS rfl (c:=⟨false,eM js⟩) (fun a' i' b' t' e=>by
  simp only[aL,D.int.injEq,D.bool.injEq,true_and,and_true]at e;obtain rfl:=qO e.1;obtain rfl:i=i':=by omega
  obtain rfl:=lN e.2.2.1;obtain rfl:=e.2.2.2;exact⟨js,rfl,h2⟩) h1
 obtain⟨is,rfl,h5⟩:=h3 a i env t rfl;exact⟨is,h5,h4⟩
def vA(B:Nat):fC:=[(nN,zid),(V4,zib),(wN,UX B),(Ab,JR B),(Dk,UW B)]
theorem Vv{B N:Nat}{c:Co}{i:Nat}{env:List Tx}{t:Bool}{is:List In}{o:Bool}{O':Store}(hr:nA Ra (fun _ _ _=>none) Ba 0 (exec (U (vA B) (N+1)) 1 none Ba.body (mX [dM c,.int .i64 i,dG env,.bool t]) cH)=some (.ret ⟨o,eM is⟩,O')):eW Dk [dM c,.int .i64 i,dG env,.bool t] ⟨false,eM is⟩ :=
 eW.weak (o:=o) rfl (zwa (n:=N+1) (m:=1) (O':=O') rfl (by simp[fO,mL,jY,iF]) (Gs _) hr)
theorem zcj{B:Nat}(c:Co)(i:Nat)(env:List Tx)(t:Bool)(hi:c.al.length<=i):Nz B c i env t:=by
 have h1:=rq (S:=vA B) rfl mO 0 0 cH;have h2:=rq (S:=vA B) rfl kT 1 0 cH;have hii:((c.al.length:Int)<=(i:Int)):=by omega
 have hap:lM fE 48 ⟨true,eM [eJ kT 1]⟩ [dI (eJ mO 0)]=some ⟨true,eM [eJ kT 1,eJ mO 0]⟩:=og [eJ kT 1] (eJ mO 0) true (fun _=>rfl) (by simp);have iV:nK (eM [eJ mO 0])=some [dI (eJ mO 0)]:=rfl;simp only[mO,kT]at h1 h2 hap iV;cases t with
 |true =>refine⟨[eJ mO 0],Vv (B:=B) (N:=0) (o:=true) (O':=cH) ?_,uR (Hk (by decide) zS) (by omega),.zjy hi⟩;simp only[mO];simp only[Ba,sA,seval,kn,eO,eX,mT,hii,h1]
 |false =>
  refine⟨[eJ kT 1,eJ mO 0],Vv (B:=B) (N:=0) (o:=true) (O':=cH) ?_,uR (n:=2+8*gP (c.al.drop i)) (m:=2) ?_ (by omega),.zjx hi⟩
  ·simp only[mO,kT];simp only[Ba,sA,seval,kn,eO,eX,mT,hii,h1,h2,iV,hap]
  ·refine⟨?_,by simp⟩;intro x hx;simp only[aS,aK,or_false]at hx;rcases hx with rfl|rfl
   ·exact Ek (by decide) zky
   ·exact Ek (by decide) zS
set_option maxHeartbeats 4000000 in
theorem zt0{B:Nat}(c:Co)(i:Nat)(env:List Tx)(t:Bool)(hi:i<c.al.length)(hl:env.length+c.size<10000000)(hg:Small c.al[i].1.num/\c.al[i].1.name.length<=B)
  (hT:∀e:List Tx,e.length<=env.length+c.al[i].1.vars.length->Dt B (c.al[i].2) e/\Oa B (c.al[i].2) e)
  (hC:Nz B c (i+1) env t) :
  Nz B c i env t:=by
 have hsz:=jD c;have hal:=pY c.al;have hd:gP (c.al.drop i)=1+c.al[i].1.vars.length+c.al[i].2.size+gP (c.al.drop (i+1)):=(by rw[bU hi];simp only[gP]);have hd0:gP (c.al.drop i)<=gP c.al:=(by have:=MJ (c.al.take i) (c.al.drop i);rw[List.take_append_drop]at this;omega);have hii:¬((c.al.length:Int)<=(i:Int)):=by omega
 have hx:=Hm c.al i hi;have hai:c.al[i]?=some c.al[i]:=List.getElem?_eq_getElem hi;generalize c.al[i]=a at hx hg hT hd hai;obtain⟨js,⟨gj,xj⟩,h3⟩:=xU_C (S:=vA B) rfl c (i+1) env t hC;have ga:=zxn (B:=B) a env hg.1 hg.2 (by omega);have w:=iE (i:=i) (by omega);have KH:=xM a;have g2:=gj.2;have g3:=ga.2;cases t with
 |true =>
  obtain⟨is,⟨gi,xi⟩,h2⟩:=xU_T (S:=vA B) rfl a.2 (fZ a env).2 (hT _ (Vw a env)).2;obtain⟨N,hN⟩:∃N,is.length+js.length+10<N:=⟨_,Nat.lt_succ_self _⟩;have h1:=zil (S:=vA B) rfl a env (by omega) N cH;have g1:=gi.2;obtain⟨AO,O1,h4,hs1⟩:=Qc (S:=vA B) rfl (N:=N) (eM (fZ a env).1) (fZ a env).1 is cH (fun p hp=>by cases hp) (OH a env) (xQ _) (by rw[eM,Ol]) (by omega) (by omega);have h2:=h2 N cH;have hne1:=Po (b:=is) (OH a env);have hl1:=kP (fZ a env).1 is;cases Ge:a.1.form != 3 with
  |false =>
   obtain⟨Zb,O2,h5,hs2⟩:=Qc (S:=vA B) rfl (N:=N) (.arr fE AO 0 (fM (fZ a env).1 is).length) (fM (fZ a env).1 is) [] O1 hs1.Y4 hne1 rfl hs1.list (by simp;omega) (by simp;omega);have hne2:=Po (b:=[]) hne1;have hz:=hs2.JG hne2;rw[kP (fM (fZ a env).1 is)]at hz;refine⟨fM (fM (fZ a env).1 is) [],Vv (B:=B) (N:=N) (o:=false) (O':={O2 with dE:=gI O2.dE Zb}) ?_,?_⟩
   ·rw[hl1]at h5 hz;simp only[eO,eX,KH]at h1 h2 h3 hx;have en:eM []=.dN:=rfl;simp only[en,aH,Nat.add_zero]at h5 hz;simp only[Ba,sA,seval,kn,eO,eX,mT,hii,hx,h1,h2,Ge,h4,h5,Gv,tK,uI,hz,BU]
   ·exact⟨uR (sH (sH ga gi) (n:=0) ⟨by simp,by simp⟩) (by omega),.cT3 hai Ge xi⟩
  |true =>
   have h3:=h3 N O1;have hst:=hs1.set2 hne1 (fM (fZ a env).1 is).length;have hix:=hs1.idx hne1;have hlen:lenOf (.arr fE AO 0 (fM (fZ a env).1 is).length)=some (fM (fZ a env).1 is).length:=rfl;have kO:=hs1.get;generalize hO:({O1 with dE:=fF O1.dE AO (putCells (cI (fM (fZ a env).1 is)) 1 [⟨false,.int .i64 (fM (fZ a env).1 is).length⟩])}:Store)=Os at hst;have hse:=Oz (fM (fZ a env).1 is).length (fM (fZ a env).1 is);have Ih:qH (fM (fZ a env).1 is).length (fM (fZ a env).1 is)≠[]:=(by intro h;rw[h]at hse;exact hne1 (aR.1 hse.symm));obtain⟨Zb,O2,h5,hs2⟩:=Qc (S:=vA B) rfl (N:=N) (.arr fE AO 0 (qH (fM (fZ a env).1 is).length (fM (fZ a env).1 is)).length) (qH (fM (fZ a env).1 is).length (fM (fZ a env).1 is)) js Os hst.2.Y4 Ih rfl hst.2.list (by omega) (by omega);have hne2:=Po (b:=js) Ih;have hz:=hs2.JG hne2;rw[kP (qH _ _)]at hz;have hf:=hst.1;refine⟨fM (qH (fM (fZ a env).1 is).length (fM (fZ a env).1 is)) js,Vv (B:=B) (N:=N) (o:=false) (O':={O2 with dE:=gI O2.dE Zb}) ?_,?_⟩
   ·rw[hse]at h5 hz;rw[hl1]at h5 hz hix hO;simp only[eO,eX,KH]at h1 h2 h3 hx;simp only[Ba,sA,seval,kn,eO,eX,mT,hii,w,hx,h1,h2,h3,Ge,h4,hix,kO,hf,hO,h5,Gv,tK,uI,hz,BU,hl1]
   ·exact⟨uR (sH (jm (Bd (by omega)) (sH ga gi)) gj) (by omega),.cT hai Ge xi xj⟩
 |false =>
  obtain⟨is,⟨gi,xi⟩,h2⟩:=xU_S (S:=vA B) rfl a.2 (fZ a env).2 (hT _ (Vw a env)).1;obtain⟨N,hN⟩:∃N,is.length+js.length+10<N:=⟨_,Nat.lt_succ_self _⟩;have h1:=zil (S:=vA B) rfl a env (by omega) N cH;have g1:=gi.2;obtain⟨AO,O1,h4,hs1⟩:=Qc (S:=vA B) rfl (N:=N) (eM (fZ a env).1) (fZ a env).1 is cH (fun p hp=>by cases hp) (OH a env) (xQ _) (by rw[eM,Ol]) (by omega) (by omega);have h2:=h2 N cH;have hne1:=Po (b:=is) (OH a env);have hl1:=kP (fZ a env).1 is;have gL:=sH ga gi;rw[<-hl1]at h4;generalize xg:fM (fZ a env).1 is=L at h4 hs1 hne1 hl1 gL;simp only[eO,eX,KH]at h1 h2 h3 hx;cases Z8:a.1.form==1 with
  |true =>
   have hf1:a.1.form=1:=by simpa using Z8
   have Ge:(a.1.form != 3)=true:=by rw[hf1];rfl
   have h6:=rq (S:=vA B) rfl lU a.1.vars.length N O1;obtain⟨Zb,O2,h7,hs2⟩:=Qc (S:=vA B) rfl (N:=N) (.arr fE AO 0 L.length) L [eJ lU a.1.vars.length] O1 hs1.Y4 hne1 rfl hs1.list (by simp;omega) (by simp;omega);have hne2:=Po (b:=[eJ lU a.1.vars.length]) hne1;have hl2:=kP L [eJ lU a.1.vars.length];have gL2:=sH gL (Hk (B:=B) (s:=lU) (x:=a.1.vars.length) (by decide) (Bd (by omega)));rw[<-hl2]at h7;generalize hL2e:fM L [eJ lU a.1.vars.length]=L2 at h7 hs2 hne2 hl2 gL2;simp only[aG,aH]at hl2;have h3:=h3 N O2;have w2:=iE (i:=L2.length) (by omega);have w3:IntKind.i64.wrap (((L2.length+1:Nat):Int)+js.length)=((L2.length+1+js.length:Nat):Int):=by rw[lV (by omega) (by omega)];omega
   obtain⟨O3,h8,hs3⟩:=hs2.more ⟨kX,(L2.length+1+js.length:Nat),0,[]⟩ (by omega);have zY:L2++[(⟨kX,(L2.length+1+js.length:Nat),0,[]⟩:In)]≠[]:=by simp
   have hl3:(L2++[(⟨kX,(L2.length+1+js.length:Nat),0,[]⟩:In)]).length=L2.length+1:=by simp
   have Ut:=jl gL2 (dh (B:=B) (n:=(L2.length+1+js.length:Nat)) (Bd (by omega)));simp only[dI,kX]at h8;generalize JH:L2++[(⟨kX,(L2.length+1+js.length:Nat),0,[]⟩:In)]=L3 at h8 hs3 zY hl3 Ut;have hst:=hs3.set2 zY L3.length;have hix:=hs3.idx zY;have kO:=hs3.get;generalize hO:({O3 with dE:=fF O3.dE O2.next (putCells (cI L3) 1 [⟨false,.int .i64 L3.length⟩])}:Store)=Os at hst;have hse:=Oz L3.length L3;have Ih:qH L3.length L3≠[]:=(by intro h;rw[h]at hse;exact zY (aR.1 hse.symm));have KC:=jm (v:=L3.length) (Bd (by omega)) Ut;have hs4:=hst.2;generalize tu:qH L3.length L3=L4 at hs4 hse Ih KC;obtain⟨KM,O5,h5,hs5⟩:=Qc (S:=vA B) rfl (N:=N) (.arr fE O2.next 0 L4.length) L4 js Os hs4.Y4 Ih rfl hs4.list (by omega) (by omega);have hne5:=Po (b:=js) Ih;have hz:=hs5.JG hne5;rw[kP L4]at hz;refine⟨fM L4 js,Vv (B:=B) (N:=N) (o:=false) (O':={O5 with dE:=gI O5.dE KM}) ?_,?_⟩
   ·rw[hse,hl3]at h5 hz;have hf:=hst.1;simp only[lU]at h6 h7;rw[hl3]at hix hO;simp only[Ba,sA,seval,kn,fP,mE,eO,eX,mT,lE,xQ,hii,w,hx,h1,h2,h3,Z8,Ge,h4,h6,h7,w2,w3,h8,hix,kO,hf,hO,h5,Gv,tK,uI,hz,BU]
   ·exact⟨uR (sH KC gj) (by omega),tu▸.cS1 hai hf1 xi xj (xg▸hL2e.symm) JH.symm⟩
  |false =>
   cases Ge:a.1.form != 3 with
   |false =>
    have w2:=iE (i:=L.length) (by omega);have w3:IntKind.i64.wrap (((L.length+1:Nat):Int)+0)=((L.length+1:Nat):Int):=by rw[lV (by omega) (by omega)];omega
    obtain⟨O3,h8,hs3⟩:=hs1.more ⟨kX,(L.length+1:Nat),0,[]⟩ (by omega);have zY:L++[(⟨kX,(L.length+1:Nat),0,[]⟩:In)]≠[]:=by simp
    have hl3:(L++[(⟨kX,(L.length+1:Nat),0,[]⟩:In)]).length=L.length+1:=by simp
    have Ut:=jl gL (dh (B:=B) (n:=(L.length+1:Nat)) (Bd (by omega)));simp only[dI,kX]at h8;generalize JH:L++[(⟨kX,(L.length+1:Nat),0,[]⟩:In)]=L3 at h8 hs3 zY hl3 Ut;obtain⟨KM,O5,h5,hs5⟩:=Qc (S:=vA B) rfl (N:=N) (.arr fE O1.next 0 L3.length) L3 [] O3 hs3.Y4 zY rfl hs3.list (by simp;omega) (by simp;omega);have hne5:=Po (b:=[]) zY;have hz:=hs5.JG hne5;rw[kP L3]at hz;refine⟨fM L3 [],Vv (B:=B) (N:=N) (o:=false) (O':={O5 with dE:=gI O5.dE KM}) ?_,?_⟩
    ·rw[hl3]at h5 hz;have en:eM []=.dN:=rfl;simp only[en,aH,Nat.add_zero]at h5 hz;simp only[Ba,sA,seval,kn,fP,mE,eO,eX,mT,lE,hii,hx,h1,h2,Z8,Ge,h4,w2,w3,h8,h5,Gv,tK,uI,hz,BU]
    ·exact⟨uR (sH Ut (n:=0) ⟨by simp,by simp⟩) (by omega),.cS3 hai Z8 Ge xi xg.symm JH.symm⟩
   |true =>
    have h3:=h3 N O1;have w2:=iE (i:=L.length) (by omega);have w3:IntKind.i64.wrap (((L.length+1:Nat):Int)+js.length)=((L.length+1+js.length:Nat):Int):=by rw[lV (by omega) (by omega)];omega
    obtain⟨O3,h8,hs3⟩:=hs1.more ⟨kX,(L.length+1+js.length:Nat),0,[]⟩ (by omega);have zY:L++[(⟨kX,(L.length+1+js.length:Nat),0,[]⟩:In)]≠[]:=by simp
    have hl3:(L++[(⟨kX,(L.length+1+js.length:Nat),0,[]⟩:In)]).length=L.length+1:=by simp
    have Ut:=jl gL (dh (B:=B) (n:=(L.length+1+js.length:Nat)) (Bd (by omega)));simp only[dI,kX]at h8;generalize JH:L++[(⟨kX,(L.length+1+js.length:Nat),0,[]⟩:In)]=L3 at h8 hs3 zY hl3 Ut;have hst:=hs3.set2 zY L3.length;have hix:=hs3.idx zY;have kO:=hs3.get;generalize hO:({O3 with dE:=fF O3.dE O1.next (putCells (cI L3) 1 [⟨false,.int .i64 L3.length⟩])}:Store)=Os at hst;have hse:=Oz L3.length L3;have Ih:qH L3.length L3≠[]:=(by intro h;rw[h]at hse;exact zY (aR.1 hse.symm));have KC:=jm (v:=L3.length) (Bd (by omega)) Ut;have hs4:=hst.2;generalize tu:qH L3.length L3=L4 at hs4 hse Ih KC;obtain⟨KM,O5,h5,hs5⟩:=Qc (S:=vA B) rfl (N:=N) (.arr fE O1.next 0 L4.length) L4 js Os hs4.Y4 Ih rfl hs4.list (by omega) (by omega);have hne5:=Po (b:=js) Ih;have hz:=hs5.JG hne5;rw[kP L4]at hz;refine⟨fM L4 js,Vv (B:=B) (N:=N) (o:=false) (O':={O5 with dE:=gI O5.dE KM}) ?_,?_⟩
    ·rw[hse,hl3]at h5 hz;have hf:=hst.1;rw[hl3]at hix hO;simp only[Ba,sA,seval,kn,fP,mE,eO,eX,mT,lE,xQ,hii,w,hx,h1,h2,h3,Z8,Ge,h4,w2,w3,h8,hix,kO,hf,hO,h5,Gv,tK,uI,hz,BU]
    ·exact⟨uR (sH KC gj) (by omega),tu▸.cS2 hai Z8 Ge xi xj xg.symm JH.symm⟩
theorem zci{B:Nat}(c:Co)(env:List Tx)(t:Bool)(hl:env.length+c.size<10000000)(hg:∀a∈c.al,Small a.1.num/\a.1.name.length<=B)
  (hk:∀a∈c.al,∀e:List Tx,e.length+a.2.size<10000000->Dt B (a.2) e/\Oa B (a.2) e) :
  ∀(j i:Nat),c.al.length<=i+j->Nz B c i env t
 |0,i,h=>by
  exact zcj (B:=B) c i env t (by omega)
 |j+1,i,h=>by
  by_cases hi:i<c.al.length
  ·have ih:=zci c env t hl hg hk j (i+1) (by omega);have hm:=aX hi;have h1:=hg _ hm;have h2:=qP _ _ hm;have h3:=jD c;exact zt0 c i env t hi hl h1 (fun e he=>hk _ hm e (by omega)) ih
  ·exact zcj (B:=B) c i env t (by omega)
theorem zfp{B:Nat}:∀(k:Nat)(c:Co),c.size=k->Fl B false c->∀env:List Tx,env.length+c.size<10000000->Dt B c env/\Oa B c env:=by
 intro k;induction k using Nat.strongRecOn with
 |ind k ih =>
  intro c hk hf env hl;have hsz:=jD c;have kids:∀x∈c.ks,∀e:List Tx,e.length+x.size<10000000->Fl B false x->Dt B x e/\Oa B x e:=fun x hx e he hfx=>by
   have:=Bn _ _ hx;exact ih x.size (by omega) x rfl hfx e he
  have hcs:c.f=9->∀t,Nz B c 0 env t:=fun h9 t=>by
   have hh:(∀a∈c.al,Small a.1.num/\a.1.name.length<=B)/\∀a∈c.al,Fl B false a.2:=by
    cases hf with
    |leaf h=>rcases h with h|h|h<;>subst h<;>simp[co]at h9
    |app=>simp[co]at h9
    |lt=>simp[co]at h9
    |fail=>simp[co]at h9
    |rH=>simp[co]at h9
    |qX _ h2 _ h4=>exact⟨fun a ha=>⟨(h2 a ha).1,(h2 a ha).2.1⟩,h4⟩
   refine zci c env t hl hh.1 (fun a ha e he=>?_) c.al.length 0 (by omega);have:=qP _ _ ha;exact ih a.2.size (by omega) a.2 rfl (hh.2 a ha) e he
  have hS:=zxd c env hf hl (fun x hx e he hfx=>(kids x hx e he hfx).1) (fun h9=>hcs h9 false);exact⟨hS,zdpb c env hf hl hS (fun x hx e he hfx=>kids x hx e he hfx) (fun h9=>hcs h9 true)⟩
theorem zc0{α:Type}{p q:α->Bool}:∀l:List α,(∀x∈l,p x=q x)->l.find? p=l.find? q
 |[],_=>rfl
 |x::r,h=>by
  rw[List.find?_cons,List.find?_cons,h x (aQ ..),zc0 r fun y hy=>h y (aI _ hy)]
theorem zc9(env:List Tx)(x s:Tx):qE (env++[x]) s=dK (x==s) (env.length:Int) (qE env s):=by
 have hl:(env++[x]).length=env.length+1:=by simp
 unfold qE;rw[hl,List.range_succ_eq_map,List.find?_cons];have h0:(env++[x]).getD (env.length+1-1-0) []=x:=by
  rw[iU _ _ _ (by rw[hl];omega)];simp
 rw[h0];cases e:x==s with
 |true=>simp[iW,dK]
 |false =>
  simp only[dX];rw[List.find?_map];have h1:(List.range env.length).find? ((fun j=>(env++[x]).getD (env.length+1-1-j) []==s)∘Nat.succ)=(List.range env.length).find? fun j=>env.getD (env.length-1-j) []==s:=zc0 _ fun j hj=>by
   have hj:=List.mem_range.1 hj;have e1:env.length+1-1-Nat.succ j=env.length-1-j:=by omega
   simp only[Function.comp,e1];rw[iU _ _ _ (by rw[hl];omega),iU _ _ _ (by omega),bS (by omega)]
  rw[h1];cases hf:(List.range env.length).find? fun j=>env.getD (env.length-1-j) []==s with
  |none=>rfl
  |some j =>
   simp only[bN,eP];have:env.length+1-1-Nat.succ j=env.length-1-j:=by omega
   rw[this]
theorem zek(env:List Tx)(s:Tx)(hs:s≠[]):∀k,qE (env++List.replicate k []) s=qE env s
 |0=>by simp
 |k+1=>by
  have e:(([]:Tx)==s)=false:=beq_false_of_ne fun h=>hs h.symm;rw[List.replicate_succ',<-bR,zc9,e,dX,zek env s hs k]
def Li(env:List Tx)(M:At):Prop:=∀s,s≠[]->M s=dK (decide (qE env s<0)) none (some (qE env s))
theorem Li.nil:Li [] Y5:=fun s _=>rfl
theorem Li.pad{env:List Tx}{M:At}(h:Li env M)(k:Nat):Li (pQ env k) M:=fun s hs=>by
 unfold pQ;rw[zek env s hs];exact h s hs
theorem NW(env:List Tx):(pQ env (env.length+1)).length=env.length+1:=by simp[pQ]
theorem zI{x:Int}(h1:-1000000000000<=x)(h2:x<=1000000000000):fQ x=x:=lV (by omega) (by omega)
theorem Li.put{env:List Tx}{M:At}(h:Li env M)(x:Tx)(hl:env.length<1000000000):Li (env++[x]) (xW M x (fQ (env.length:Int))):=fun s hs=>by
 have hr:=XM env s;have e:(s==x)=(x==s):=Bool.beq_comm;have h2:=zc9 env x s;rw[zI (by omega) (by omega)];unfold xW;rw[e];cases e2:x==s with
 |true =>rw[e2,dQ]at h2;rw[dQ,h2,decide_eq_false (by omega:¬((env.length:Int)<0)),dX]
 |false =>rw[e2,dX]at h2;rw[dX,h2];exact h s hs
theorem Li.wi:∀(l:List Tx){env:List Tx}{M:At}(d:Int)(i:Nat),Li env M->d+(i:Int)=env.length->env.length+l.length<1000000000->Li (env++l) (jE M l d i)
 |[],env,M,d,i,h,_,_=>by rw[bQ];exact h
 |x::l,env,M,d,i,h,hd,hl=>by
  simp only[aG]at hl;have h1:=h.put x (by omega);have:=Li.wi l d (i+1) (M:=xW M x (fQ (d+(i:Int)))) (env:=env++[x]) (by rw[hd];exact h1) (by simp;omega) (by simp;omega);rw[bR]at this;exact this
def jP(l:List In):Prop:=∀x∈l,wB x.op=false
def mP(k:Nat)(l:List In):List In:=l.map (lQ k)
theorem lq{l:List In}(h:jP l)(k:Nat):mP k l=l:=by
 unfold mP;have:l.map (lQ k)=l.map id:=List.map_congr_left fun x hx=>by
  unfold lQ;rw[h x hx,dX];rfl
 rw[this,List.map_id]
theorem Vy{a b:List In}(h:jP b):fM a b=a++b:=by show a++mP a.length b=a++b;rw[lq h]
theorem jP.app{a b:List In}(ha:jP a)(hb:jP b):jP (a++b):=fun x hx=>(bJ.1 hx).elim (ha x) (hb x)
theorem jP.op{s:Tx}(h:wB s=false)(n:Int):jP [eJ s n]:=fun x hx=>by
 rw[bP.1 hx];exact h
theorem jP.one{x:In}(h:wB x.op=false):jP [x]:=fun y hy=>by
 rw[bP.1 hy];exact h
theorem jw{lz:Co->List In->List In}{Lz:Co->List Tx->List In}(c:Co)(env:List Tx)(L:List In)(h:∀i,i<c.bs.length->(∀L,lz (c.bs.getD i ([],c0)).2 L=L++Lz (c.bs.getD i ([],c0)).2 (env++dW c))/\jP (Lz (c.bs.getD i ([],c0)).2 (env++dW c))) :
  ∀i,i<=c.bs.length->qU lz c.bs.length (c.bs.take i) 0 (L++[eJ sB c.bs.length])=L++wK Lz c env i/\jP (wK Lz c env i)
 |0,_=>⟨rfl,jP.op rfl _⟩
 |i+1,hi=>by
  obtain⟨h1,h2⟩:=jw c env L h i (by omega);obtain⟨h3,h4⟩:=h i (by omega);have hlt:i<c.bs.length:=by omega
  have e1:(c.bs.take i).length=i:=by simp;omega
  have hop:jP [eJ nJ (rS c.bs.length i)]:=jP.op rfl _;rw[BV,Vy hop,Vy h4];refine⟨?_,(h2.app h4).app hop⟩;rw[<-mC c.bs i hlt,zcr,h1,e1];rw[iU c.bs i _ hlt]at h3 ⊢;rw[h3];simp only[bR,aN]
theorem Xv{B:Nat}:∀(n:Nat)(c:Co)(z:Bool)(env:List Tx)(M:At)(L:List In),Fl B z c->(z=true\/(c.f=1\/c.f=2\/c.f=3\/c.f=4))->Pl c->Li env M->env.length+c.size<1000000000->kA n c M env.length L=L++nR n c env/\jP (nR n c env)
 |0,c,z,env,M,L,_,_,_,_,_=>⟨by simp[kA,nR],fun x hx=>by simp[nR]at hx⟩
 |n+1,c,z,env,M,L,hf,hz,hp,hM,hl=>by
  have hsp:=lT c;cases hf with
  |@leaf _ f k s h1 h2 h3 =>
   rcases h1 with rfl|rfl|rfl
   ·have hne:s≠[]:=(hp.out.1 rfl).1;have hm:=hM s hne;have hr:=XM env s;have e:kA (n+1) (.mk 1 k s [] [] []) M env.length L=iW (M s) (L++[⟨vZ,0,0,s⟩]) fun a=>L++[eJ Kt (fQ (fQ ((env.length:Int)-1)-a))]:=rfl;rw[e,hm,BZ];cases decide (qE env s<0)with
    |true=>exact⟨rfl,jP.one rfl⟩
    |false=>exact⟨rfl,jP.op rfl _⟩
   ·exact⟨rfl,jP.one rfl⟩
   ·exact⟨rfl,jP.op rfl _⟩
  |@app _ s a b h1 ha hb =>
   have he:(Co.mk 4 0 s [a,b] [] []).size=1+(a.size+(b.size+0))+0+0:=by simp only[Co.size,fV,gG,gP]
   have pk:=hp.out.2.2.2.2.1;obtain⟨b1,b2⟩:=Xv n b true env M L hb (.inl rfl) (pk b (by simp[Co.ks])) hM (by omega);obtain⟨a1,a2⟩:=Xv n a true (pQ env (env.length+1)) M (L++nR n b env) ha (.inl rfl) (pk a (by simp[Co.ks])) (hM.pad _) (by rw[NW];omega);have e:kA (n+1) (.mk 4 0 s [a,b] [] []) M env.length L=kA n a M (fQ ((env.length:Int)+1)) (kA n b M env.length L)++[eJ Em 0]:=rfl;have w:fQ ((env.length:Int)+1)=((pQ env (env.length+1)).length:Int):=by rw[NW,zI (by omega) (by omega)];omega
   have hop:jP [eJ Em 0]:=jP.op rfl _;rw[e,b1,w,a1,BX,Vy hop,Vy a2];exact⟨by simp only[bR],(b2.app a2).app hop⟩
  |@lt _ s b bs h1 h2 h3 h4 =>
   have he:(Co.mk 8 0 s [b] bs []).size=1+(b.size+0)+gG bs+0:=by simp only[Co.size,fV,gP]
   have Oh:z=true:=hz.resolve_right (by simp[co]);subst Oh;have hbl:=mY bs;have hnl:(dW (.mk 8 0 s [b] bs [])).length=bs.length:=aJ ..;have hM2:=Li.wi (dW (.mk 8 0 s [b] bs [])) (env.length:Int) 0 hM (by simp) (by omega);have w:fQ ((env.length:Int)+bs.length)=((env++dW (.mk 8 0 s [b] bs [])).length:Int):=by rw[aF,hnl,zI (by omega) (by omega)];omega
   have uX:=jw (lz:=fun b L=>kA n b (jE M (dW (.mk 8 0 s [b] bs [])) env.length 0) (fQ ((env.length:Int)+bs.length)) L) (Lz:=nR n) (.mk 8 0 s [b] bs []) env L (fun i hi=>by
    have hi:i<bs.length:=hi;have hm:=aX hi;have hsz:=Pe bs _ hm;have hgd:((Co.mk 8 0 s [b] bs []).bs.getD i ([],c0)).2=bs[i].2:=(by show(bs.getD i ([],c0)).2=_;rw[iU bs i _ hi]);rw[hgd];have ih:=fun L=>Xv n bs[i].2 true (env++dW (.mk 8 0 s [b] bs [])) (jE M (dW (.mk 8 0 s [b] bs [])) env.length 0) L (h3 _ hm) (.inl rfl) (hp.out.2.2.2.1 _ hm) hM2 (by rw[aF,hnl];omega);refine⟨fun L=>?_,(ih []).2⟩;rw[w];exact(ih L).1) bs.length (aM _)
   obtain⟨l1,l2⟩:=uX;rw[show(Co.mk 8 0 s [b] bs []).bs.take bs.length=bs from aV]at l1;obtain⟨b1,b2⟩:=Xv n b true (env++dW (.mk 8 0 s [b] bs [])) (jE M (dW (.mk 8 0 s [b] bs [])) env.length 0) (L++wK (nR n) (.mk 8 0 s [b] bs []) env bs.length) h4 (.inl rfl) (hp.out.2.2.2.2.1 b (by simp[Co.ks])) hM2 (by rw[aF,hnl];omega);have hop:jP [eJ lU bs.length]:=jP.op rfl _;have e:kA (n+1) (.mk 8 0 s [b] bs []) M env.length L=kA n b (jE M (dW (.mk 8 0 s [b] bs [])) env.length 0) (fQ ((env.length:Int)+bs.length)) (qU (fun b' L=>kA n b' (jE M (dW (.mk 8 0 s [b] bs [])) env.length 0) (fQ ((env.length:Int)+bs.length)) L) bs.length bs 0 (L++[eJ sB bs.length]))++[eJ lU bs.length]:=rfl;have en:dW (.mk 8 0 s [b] bs [])=bs.map Prod.fst:=rfl;have l1':qU (fun b' L=>kA n b' (jE M (dW (.mk 8 0 s [b] bs [])) env.length 0) (fQ ((env.length:Int)+bs.length)) L) bs.length bs 0 (L++[eJ sB bs.length])=L++wK (nR n) (.mk 8 0 s [b] bs []) env bs.length:=l1;rw[e,l1',w,b1,CV,<-en,Vy hop,Vy b2];exact⟨by simp only[bR],(l2.app b2).app hop⟩
  |fail=>simp[co]at hz
  |rH _ _ _=>simp[co]at hz
  |qX _ _ _ _=>simp[co]at hz
theorem zhcb(a b:Int):fQ (fQ a+b)=fQ (a+b):=by simp only[fQ,IntKind.wrap,IntKind.bits,IntKind.signed];simp;split<;>split<;>split<;>omega
theorem zjyb(k:Nat)(x:In):(lQ k x).op=x.op:=by unfold lQ;cases wB x.op<;>rfl
theorem zgob(j k:Nat)(x:In):lQ k (lQ j x)=lQ (j+k) x:=by
 have h1:=zjyb j x;cases e:wB x.op with
 |false =>
  have h2:∀k,lQ k x=x:=fun k=>by unfold lQ;rw[e];rfl
  rw[h2,h2,h2]
 |true =>
  have h2:∀k,lQ k x={x with n:=fQ (x.n+k)}:=fun k=>by unfold lQ;rw[e];rfl
  have h3:lQ k {x with n:=fQ (x.n+j)}={x with n:=fQ (fQ (x.n+j)+k)}:=by unfold lQ;simp only[e];rfl
  rw[h2 j,h3,h2,zhcb];have:x.n+(j:Int)+(k:Int)=x.n+((j+k:Nat):Int):=by omega
  rw[this]
theorem OT(j k:Nat)(l:List In):mP k (mP j l)=mP (j+k) l:=by unfold mP;rw[cD];exact List.map_congr_left fun x _=>zgob j k x
theorem zg8(k:Nat)(l:List In):(mP k l).length=l.length:=aJ ..
theorem EK(k:Nat)(a b:List In):mP k (a++b)=mP k a++mP k b:=aU ..
def pl(L a:List In):List In:=L++mP L.length a
theorem Hg(L a:List In):(pl L a).length=L.length+a.length:=by rw[pl,aF,zg8]
theorem tL(L a b:List In):pl L (fM a b)=pl (pl L a) b:=by have e:fM a b=a++mP a.length b:=rfl;rw[e];simp only[pl,EK,OT,aF,zg8,bR,Nat.add_comm a.length]
theorem vJ{b:List In}(h:jP b)(L:List In):pl L b=L++b:=by rw[pl,lq h]
theorem zh6(L:List In):pl L []=L:=by simp[pl,mP]
theorem zggb(s:Tx):wB (rF s)=false:=by unfold rF;cases s==[97,100,100]<;>cases s==[115,117,98]<;>cases s==[109,117,108]<;>cases s==[100,105,118]<;>cases s==[101,113]<;>cases s==[108,116]<;>rfl
/-! ### Holes -/
theorem za4{α:Type}{f g:α->α}:∀(l:List α)(p q:Nat),p≠q->(l.modify p f).modify q g=(l.modify q g).modify p f
 |[],p,q,_=>by simp
 |x::r,0,0,h=>absurd rfl h
 |x::r,0,q+1,_=>by simp
 |x::r,p+1,0,_=>by simp
 |x::r,p+1,q+1,h=>by simp[za4 r p q (by omega)]
theorem XU(L:List In){p q:Nat}(h:p≠q)(a b:Int):kK (kK L p a) q b=kK (kK L q b) p a:=za4 L p q h
theorem zb8:∀(Z X:List In)(p:Nat)(v:Int),p<Z.length->kK (Z++X) p v=kK Z p v++X
 |[],X,p,v,h=>by simp at h
 |z::Z,X,0,v,_=>by simp[kK]
 |z::Z,X,p+1,v,h=>by
  have:=zb8 Z X p v (by simpa using h);simp only[kK]at this ⊢;simp[this]
theorem CF:∀(L:List In)(w:In)(X:List In)(v:Int),kK (L++(w::X)) L.length v=L++({w with n:=v}::X)
 |[],w,X,v=>by simp[kK]
 |z::L,w,X,v=>by
  have:=CF L w X v;simp only[kK]at this ⊢;simp[this]
theorem zh7{Z:List In}{p:Nat}(h:p<Z.length)(v:Int)(js:List In):pl (kK Z p v) js=kK (pl Z js) p v:=by rw[pl,pl,wZ,zb8 _ _ _ _ h]
theorem NP:∀(E:List Nat)(Z:List In)(p:Nat)(v:Int),(∀e∈E,e≠p)->tM E (kK Z p v)=kK (tM E Z) p v
 |[],Z,p,v,_=>rfl
 |e::r,Z,p,v,h=>by
  simp only[tM];rw[wZ,XU Z (h e (aQ ..)).symm,NP r _ p v fun x hx=>h x (aI _ hx)]
theorem EA(a:Hd×Co)(env:List Tx):uS a.1=(fZ a env).1:=by
 unfold uS fZ;cases a.1.form==1 with
 |true=>rfl
 |false=>cases a.1.form==2<;>rfl
theorem DJ{a:Hd×Co}{env:List Tx}{M:At}(h:Li env M)(hf:VA a.1)(hl:env.length+a.1.vars.length<1000000000):Li (fZ a env).2 (jE M a.1.vars.reverse env.length 0)/\fQ ((env.length:Int)+a.1.vars.length)=((fZ a env).2.length:Int):=by
 rcases hf with h1|⟨h1,h2⟩
 ·have e:(fZ a env).2=env++a.1.vars.reverse:=by unfold fZ;rw[h1];rfl
  rw[e];exact⟨Li.wi a.1.vars.reverse (env.length:Int) 0 h (by simp) (by simp;omega),by rw[zI (by omega) (by omega),aF,bV];omega⟩
 ·have e:(fZ a env).2=env:=(by unfold fZ;rcases h1 with h1|h1<;>rw[h1]<;>rfl);rw[e,h2];exact⟨h,by rw[aH,zI (by omega) (by omega)];simp⟩
theorem ZG{a:Hd×Co}(env:List Tx)(h:a.1.form=1\/a.1.form=2):∃w0 w1:In,(fZ a env).1=[w0,w1]/\wB w0.op=true/\wB w1.op=false/\w0.n=0:=by
 unfold fZ;rcases h with h|h<;>rw[h]
 ·exact⟨_,_,rfl,rfl,rfl,rfl⟩
 ·exact⟨_,_,rfl,rfl,rfl,rfl⟩
theorem ZF{w0 w1:In}(h0:wB w0.op=true)(h1:wB w1.op=false)(L R:List In)(v:Int):pl L (qH v ([w0,w1]++R))=kK (L++[w0,w1]++mP L.length R) L.length (fQ (v+L.length)):=by
 have e1:L++[w0,w1]++mP L.length R=L++(w0::(w1::mP L.length R)):=by simp
 rw[e1,CF];have e2:pl L (qH v ([w0,w1]++R))=L++(lQ L.length {w0 with n:=v}::lQ L.length w1::mP L.length R):=rfl;have e3:lQ L.length {w0 with n:=v}={w0 with n:=fQ (v+L.length)}:=by unfold lQ;simp only[h0];rfl
 have e4:lQ L.length w1=w1:=by unfold lQ;rw[h1];rfl
 rw[e2,e3,e4]
theorem dn(k:Nat)(n:Int):mP k [⟨kX,n,0,[]⟩]=[⟨kX,fQ (n+k),0,[]⟩]:=rfl
def Mot(B:Nat):Nat->Co->Nat->List Tx->List In->Prop
 |0,c,_,env,is=>∀(M:At)(L:List In)(n:Nat),Fl B false c->Pl c->Li env M->env.length+c.size<1000000000->L.length+is.length<1000000000->c.size<=n->gU n c M env.length L=pl L is
 |1,c,_,env,is=>∀(M:At)(L:List In)(n:Nat),Fl B false c->Pl c->Li env M->env.length+c.size<1000000000->L.length+is.length<1000000000->c.size<=n->lL n c M env.length L=pl L is
 |2,c,i,env,js=>∀(M:At)(L:List In)(E:List Nat)(n:Nat),(∀a∈c.al,Fl B false a.2)->Pl c->Li env M->env.length+c.size<1000000000->L.length+js.length<1000000000->(∀e∈E,e<L.length)->c.size<=n+1 ->
   tM (iY true (gU n) M env.length (c.al.drop i) (L,E)).1.2 (wG true (iY true (gU n) M env.length (c.al.drop i) (L,E)).2 (iY true (gU n) M env.length (c.al.drop i) (L,E)).1.1)=tM E (pl L js)
 |3,c,i,env,js=>∀(M:At)(L:List In)(E:List Nat)(n:Nat),(∀a∈c.al,Fl B false a.2)->Pl c->Li env M->env.length+c.size<1000000000->L.length+js.length<1000000000->c.size<=n+1 ->
   wG false (iY false (lL n) M env.length (c.al.drop i) (L,E)).2 (iY false (lL n) M env.length (c.al.drop i) (L,E)).1.1=pl L js
 |_,c,_,env,is=>∀(M:At)(L:List In),Fl B false c->Pl c->Li env M->env.length+c.size<1000000000->L.length+is.length<1000000000->(c.f=10->∀n,c.size<=n->gU n c M env.length L=pl L is)/\(c.f≠10->kA c.size c M env.length L=pl L is)
theorem BR{α:Type}{l:List α}{i:Nat}{a:α}(h:l[i]?=some a):l.drop i=a::l.drop (i+1)/\a∈l:=by obtain⟨hi,rfl⟩:=List.getElem?_eq_some_iff.1 h;exact⟨bU hi,aX hi⟩
theorem zgt{c:Co}{env:List Tx}{M:At}{B:Nat}(L:List In)(hbs:∀b∈c.bs,Fl B true b.2)(hp:Pl c)(hM:Li env M)(hl:env.length+c.size<1000000000) :
  Li (env++dW c) (jE M (dW c) env.length 0)/\fQ ((env.length:Int)+c.bs.length)=((env++dW c).length:Int)/\qU (fun b L=>kA b.size b (jE M (dW c) env.length 0) (fQ ((env.length:Int)+c.bs.length)) L) c.bs.length c.bs 0 (L++[eJ sB c.bs.length])=L++lF c env c.bs.length/\jP (lF c env c.bs.length):=by
 have hse:=jD c;have hbl:=mY c.bs;have hnl:(dW c).length=c.bs.length:=aJ ..;have hM2:=Li.wi (dW c) (env.length:Int) 0 hM (by simp) (by omega);have w:fQ ((env.length:Int)+c.bs.length)=((env++dW c).length:Int):=by rw[aF,hnl,zI (by omega) (by omega)];omega
 have uX:=jw (lz:=fun b L=>kA b.size b (jE M (dW c) env.length 0) (fQ ((env.length:Int)+c.bs.length)) L) (Lz:=kC) c env L (fun i hi=>by
  have hm:=aX hi;have hsz:=Pe c.bs _ hm;rw[iU c.bs i _ hi];have ih:=fun L=>Xv c.bs[i].2.size c.bs[i].2 true (env++dW c) (jE M (dW c) env.length 0) L (hbs _ hm) (.inl rfl) (hp.out.2.2.2.1 _ hm) hM2 (by rw[aF,hnl];omega);refine⟨fun L=>?_,(ih []).2⟩;simp only[w];exact(ih L).1) c.bs.length (aM _)
 rw[aV]at uX;exact⟨hM2,w,uX.1,uX.2⟩
set_option maxHeartbeats 4000000 in
theorem zmqb{B k:Nat}{c:Co}{i:Nat}{env:List Tx}{is:List In}(h:XR k c i env is):Mot B k c i env is:=by
 induction h with
 |@zh9 c env hf =>
  intro M L n hF hp hM hl hL hn;have hsp:=lT c;obtain⟨n,rfl⟩:∃j,n=j+1:=⟨n-1,by omega⟩;have e:gU (n+1) c M env.length L=kA c.size c M env.length L++[eJ Hr 0]:=by
   simp only[gU];rcases hf with h|h|h|h<;>rw[h]<;>rfl
  obtain⟨h1,h2⟩:=Xv c.size c false env M L hF (.inr hf) hp hM hl;have hop:jP [eJ Hr 0]:=jP.op rfl _;have h2':jP (kC c env):=h2;rw[e,h1,tL,vJ h2',vJ hop];rfl
 |@zkb m s env =>intro M L n hF hp hM hl hL hn;obtain⟨n,rfl⟩:∃j,n=j+1:=⟨n-1,by have:=lT (.mk 11 m s [] [] []);omega⟩;rw[vJ (jP.op rfl _)];rfl
 |@zk1 s b bs env is hb ih =>
  intro M L n hF hp hM hl hL hn;have hsa:(Co.mk 8 0 s [b] bs []).size=1+b.size+gG bs:=by simp only[Co.size,fV,gP];omega
  obtain⟨n,rfl⟩:∃j,n=j+1:=⟨n-1,by omega⟩;have hbs:(∀p∈bs,Fl B true p.2)/\Fl B false b:=by
   cases hF with
   |lt _ _ h1 h2=>exact⟨h1,h2⟩
  obtain⟨hM2,w,h1,h2⟩:=zgt (c:=.mk 8 0 s [b] bs []) (B:=B) L hbs.1 hp hM hl;have e:gU (n+1) (.mk 8 0 s [b] bs []) M env.length L=gU n b (jE M (dW (.mk 8 0 s [b] bs [])) env.length 0) (fQ ((env.length:Int)+bs.length)) (qU (fun b' L=>kA b'.size b' (jE M (dW (.mk 8 0 s [b] bs [])) env.length 0) (fQ ((env.length:Int)+bs.length)) L) bs.length bs 0 (L++[eJ sB bs.length]))++[eJ lU bs.length]:=rfl;have h1':qU (fun b' L=>kA b'.size b' (jE M (dW (.mk 8 0 s [b] bs [])) env.length 0) (fQ ((env.length:Int)+bs.length)) L) bs.length bs 0 (L++[eJ sB bs.length])=L++lF (.mk 8 0 s [b] bs []) env bs.length:=h1;have w':fQ ((env.length:Int)+bs.length)=((env++dW (.mk 8 0 s [b] bs [])).length:Int):=w;have h2':jP (lF (.mk 8 0 s [b] bs []) env bs.length):=h2;rw[kP,kP]at hL;have hbl:=mY bs;have hnl:(env++dW (.mk 8 0 s [b] bs [])).length=env.length+bs.length:=by rw[aF];simp[dW,Co.bs]
  have ih:=ih (jE M (dW (.mk 8 0 s [b] bs [])) env.length 0) (L++lF (.mk 8 0 s [b] bs []) env bs.length) n hbs.2 (hp.out.2.2.2.2.1 b (by simp[Co.ks])) hM2 (by
   have:env.length+bs.length+b.size<1000000000:=by omega
   simpa[dW,Co.bs,Nat.add_assoc]using this) (by rw[aF];omega) (by omega)
  have ih':gU n b (jE M (dW (.mk 8 0 s [b] bs [])) env.length 0) ((env++dW (.mk 8 0 s [b] bs [])).length:Int) (L++lF (.mk 8 0 s [b] bs []) env bs.length)=pl (L++lF (.mk 8 0 s [b] bs []) env bs.length) is:=ih;have hop:jP [eJ lU bs.length]:=jP.op rfl _;rw[e,h1',w',ih',tL,tL,vJ h2',vJ hop]
 |@zkc s a b env is js ha hb iha ihb =>
  intro M L n hF hp hM hl hL hn;have hsa:(Co.mk 10 0 s [a,b] [] []).size=1+a.size+b.size:=by simp only[Co.size,fV,gG,gP];omega
  obtain⟨n,rfl⟩:∃j,n=j+1:=⟨n-1,by omega⟩;have hab:Fl B false a/\Fl B false b:=by
   cases hF with
   |rH _ h1 h2=>exact⟨h1,h2⟩
  have pk:=hp.out.2.2.2.2.1;rw[kP,kP]at hL;have h1:=iha M L n hab.1 (pk a (by simp[Co.ks])) hM (by omega) (by omega) (by omega);have h2:=ihb M (pl L is) n hab.2 (pk b (by simp[Co.ks])) (hM.pad _) (by rw[NW];omega) (by rw[Hg];omega) (by omega);rw[NW]at h2;have w:fQ ((env.length:Int)+1)=((env.length+1:Nat):Int):=by rw[zI (by omega) (by omega)];omega
  have e:gU (n+1) (.mk 10 0 s [a,b] [] []) M env.length L=gU n b M (fQ ((env.length:Int)+1)) (gU n a M env.length L)++[eJ (rF s) 0]:=rfl;have hop:jP [eJ (rF s) 0]:=jP.op (zggb s) _;rw[e,h1,w,h2,tL,tL,vJ hop]
 |@zk0 s x al env is js hx hc KN wU =>
  intro M L n hF hp hM hl hL hn;have hsa:(Co.mk 9 0 s [x] [] al).size=1+x.size+gP al:=by simp only[Co.size,fV,gG];omega
  obtain⟨n,rfl⟩:∃j,n=j+1:=⟨n-1,by omega⟩;have hfx:Fl B false x/\∀a∈al,Fl B false a.2:=by
   cases hF with
   |qX _ _ h1 h2=>exact⟨h1,h2⟩
  rw[kP]at hL;have h1:=KN M L n hfx.1 (hp.out.2.2.2.2.1 x (by simp[Co.ks])) hM (by omega) (by omega) (by omega);have h2:=wU M (pl L is) [] n hfx.2 hp hM (by omega) (by rw[Hg];omega) (fun e he=>by cases he) (by omega);have e:gU (n+1) (.mk 9 0 s [x] [] al) M env.length L=tM (iY true (gU n) M env.length al (gU n x M env.length L,[])).1.2 (wG true (iY true (gU n) M env.length al (gU n x M env.length L,[])).2 (iY true (gU n) M env.length al (gU n x M env.length L,[])).1.1):=rfl;rw[e,h1,tL];exact h2
 |@zkn c env hf =>intro M L hF hp hM hl hL;obtain⟨h1,h2⟩:=Xv c.size c false env M L hF (.inr hf) hp hM hl;have h2':jP (kC c env):=h2;refine⟨fun h=>by omega,fun _=>?_⟩;rw[h1,vJ h2'];rfl
 |@zko c env is hf hs ih =>intro M L hF hp hM hl hL;exact⟨fun _ n hn=>ih M L n hF hp hM hl hL hn,fun h=>absurd hf h⟩
 |@zie c env is hf hz ih =>
  intro M L n hF hp hM hl hL hn;have hsp:=lT c;obtain⟨n,rfl⟩:∃j,n=j+1:=⟨n-1,by omega⟩;rw[kP,kP,kP]at hL;obtain⟨h1,h2⟩:=ih M L hF hp hM hl (by omega);have e:lL (n+1) c M env.length L=Vb env.length (pl L is):=by
   by_cases h10:c.f=10
   ·have e0:lL (n+1) c M env.length L=Vb env.length (gU (n+1) c M env.length L):=(by simp only[lL];rw[h10];rfl);rw[e0,h1 h10 (n+1) hn]
   ·have e0:lL (n+1) c M env.length L=Vb env.length (kA c.size c M env.length L):=by
     have hf4:c.f=1\/c.f=2\/c.f=3\/c.f=4:=by omega
     simp only[lL];rcases hf4 with h|h|h|h<;>rw[h]<;>rfl
    rw[e0,h2 h10]
  have n1:jP [eJ nJ env.length]:=jP.op rfl _;have n2:jP [eJ kT env.length]:=jP.op rfl _;have n3:jP [eJ yX 0]:=jP.op rfl _;rw[e,tL,tL,tL,vJ n1,vJ n2,vJ n3];rfl
 |@zkf m s env =>intro M L n hF hp hM hl hL hn;obtain⟨n,rfl⟩:∃j,n=j+1:=⟨n-1,by have:=lT (.mk 11 m s [] [] []);omega⟩;rw[vJ (jP.op rfl _)];rfl
 |@zk9 s b bs env is hb ih =>
  intro M L n hF hp hM hl hL hn;have hsa:(Co.mk 8 0 s [b] bs []).size=1+b.size+gG bs:=by simp only[Co.size,fV,gP];omega
  obtain⟨n,rfl⟩:∃j,n=j+1:=⟨n-1,by omega⟩;have hbs:(∀p∈bs,Fl B true p.2)/\Fl B false b:=by
   cases hF with
   |lt _ _ h1 h2=>exact⟨h1,h2⟩
  obtain⟨hM2,w,h1,h2⟩:=zgt (c:=.mk 8 0 s [b] bs []) (B:=B) L hbs.1 hp hM hl;have e:lL (n+1) (.mk 8 0 s [b] bs []) M env.length L=lL n b (jE M (dW (.mk 8 0 s [b] bs [])) env.length 0) (fQ ((env.length:Int)+bs.length)) (qU (fun b' L=>kA b'.size b' (jE M (dW (.mk 8 0 s [b] bs [])) env.length 0) (fQ ((env.length:Int)+bs.length)) L) bs.length bs 0 (L++[eJ sB bs.length])):=rfl;have h1':qU (fun b' L=>kA b'.size b' (jE M (dW (.mk 8 0 s [b] bs [])) env.length 0) (fQ ((env.length:Int)+bs.length)) L) bs.length bs 0 (L++[eJ sB bs.length])=L++lF (.mk 8 0 s [b] bs []) env bs.length:=h1;have w':fQ ((env.length:Int)+bs.length)=((env++dW (.mk 8 0 s [b] bs [])).length:Int):=w;have h2':jP (lF (.mk 8 0 s [b] bs []) env bs.length):=h2;rw[kP]at hL;have hbl:=mY bs
  have ih:=ih (jE M (dW (.mk 8 0 s [b] bs [])) env.length 0) (L++lF (.mk 8 0 s [b] bs []) env bs.length) n hbs.2 (hp.out.2.2.2.2.1 b (by simp[Co.ks])) hM2 (by
   have:env.length+bs.length+b.size<1000000000:=by omega
   simpa[dW,Co.bs,Nat.add_assoc]using this) (by rw[aF];omega) (by omega)
  have ih':lL n b (jE M (dW (.mk 8 0 s [b] bs [])) env.length 0) ((env++dW (.mk 8 0 s [b] bs [])).length:Int) (L++lF (.mk 8 0 s [b] bs []) env bs.length)=pl (L++lF (.mk 8 0 s [b] bs []) env bs.length) is:=ih;rw[e,h1',w',ih',tL,vJ h2']
 |@zk8 s x al env is js hx hc KN wU =>
  intro M L n hF hp hM hl hL hn;have hsa:(Co.mk 9 0 s [x] [] al).size=1+x.size+gP al:=by simp only[Co.size,fV,gG];omega
  obtain⟨n,rfl⟩:∃j,n=j+1:=⟨n-1,by omega⟩;have hfx:Fl B false x/\∀a∈al,Fl B false a.2:=by
   cases hF with
   |qX _ _ h1 h2=>exact⟨h1,h2⟩
  rw[kP]at hL;have h1:=KN M L n hfx.1 (hp.out.2.2.2.2.1 x (by simp[Co.ks])) hM (by omega) (by omega) (by omega);have h2:=wU M (pl L is) [] n hfx.2 hp hM (by omega) (by rw[Hg];omega) (by omega);have e:lL (n+1) (.mk 9 0 s [x] [] al) M env.length L=wG false (iY false (lL n) M env.length al (gU n x M env.length L,[])).2 (iY false (lL n) M env.length al (gU n x M env.length L,[])).1.1:=rfl;rw[e,h1,tL];exact h2
 |@zjx c i env hi =>intro M L E n hF hp hM hl hL hE hn;have e:c.al.drop i=[]:=List.drop_of_length_le hi;have hop:jP [eJ kT 1,eJ mO 0]:=(jP.op (s:=kT) rfl 1).app (jP.op (s:=mO) rfl 0);rw[e,vJ hop];show tM E (L++[eJ kT 1]++[eJ mO 0])=_;rw[bR];rfl
 |@zjy c i env hi =>intro M L E n hF hp hM hl hL hn;have e:c.al.drop i=[]:=List.drop_of_length_le hi;rw[e,vJ (jP.op rfl _)];rfl
 |@cT3 c i env a is ha h3 hb ih =>
  intro M L E n hF hp hM hl hL hn;obtain⟨e0,hm⟩:=BR ha;have hf3:a.1.form=3:=by simpa using h3
  have hse:=jD c;have hsz:=qP c.al a hm;have hh:=(hp.out.2.2.1 a hm).1;obtain⟨hM2,w⟩:=DJ hM hh (by omega);have e1:(fZ a env).1=[eJ kT 1]:=by unfold fZ;rw[hf3];rfl
  have hae:=Vw a env;rw[kP,kP,e1]at hL;simp only[aG,aH]at hL;have ih:=ih (jE M a.1.vars.reverse env.length 0) (L++(fZ a env).1) n (hF a hm) (hp.out.2.2.2.2.2 a hm) hM2 (by omega) (by rw[aF,e1];simp;omega) (by omega);have ea:lX false (lL n) M env.length a (L,E)=(pl (L++(fZ a env).1) is,E):=(by simp only[lX,EA a env,w,ih,qT,hf3];rfl);have ec:iY false (lL n) M env.length (c.al.drop i) (L,E)=(lX false (lL n) M env.length a (L,E),false):=(by rw[e0];simp only[iY,hf3];rfl);rw[ec,ea];show pl (L++(fZ a env).1) is=_;rw[tL,tL,zh6,e1,vJ (jP.op rfl _)]
 |@cT c i env a is js ha h3 hb hc ihb wU =>
  intro M L E n hF hp hM hl hL hn;obtain⟨e0,hm⟩:=BR ha;have hse:=jD c;have hsz:=qP c.al a hm;have hh:=(hp.out.2.2.1 a hm).1;have h12:a.1.form=1\/a.1.form=2:=by
   rcases hh with h|⟨h|h,_⟩
   ·exact .inl h
   ·exact .inr h
   ·rw[h]at h3;cases h3
  obtain⟨hM2,w⟩:=DJ hM hh (by omega);have hae:=Vw a env;obtain⟨w0,w1,e1,g0,g1,_⟩:=ZG env h12;have hjl:=kP (fZ a env).1 is;rw[kP,Oz,hjl,e1]at hL;simp only[aG,aH]at hL;have ih:=ihb (jE M a.1.vars.reverse env.length 0) (L++(fZ a env).1) n (hF a hm) (hp.out.2.2.2.2.2 a hm) hM2 (by omega) (by rw[aF,e1];simp;omega) (by omega);have hq:(a.1.form==1||a.1.form==2)=true:=by rcases h12 with h|h<;>rw[h]<;>rfl
  have KL:(a.1.form==3)=false:=by rcases h12 with h|h<;>rw[h]<;>rfl
  have ea:lX false (lL n) M env.length a (L,E)=(kK (pl (L++(fZ a env).1) is) L.length (pl (L++(fZ a env).1) is).length,E):=(by simp only[lX,EA a env,w,ih,qT,hq,dQ,dX]);have ec:iY false (lL n) M env.length (c.al.drop i) (L,E)=iY false (lL n) M env.length (c.al.drop (i+1)) (lX false (lL n) M env.length a (L,E)):=(by rw[e0];simp only[iY,KL,dX]);have hset:kK (pl (L++(fZ a env).1) is) L.length (pl (L++(fZ a env).1) is).length=pl L (qH (fM (fZ a env).1 is).length (fM (fZ a env).1 is)):=by
   rw[hjl,e1];have e2:fM [w0,w1] is=[w0,w1]++mP 2 is:=rfl;rw[e2,ZF g0 g1,OT,Hg,aF,zI (by simp;omega) (by simp;omega)];have e3:pl (L++[w0,w1]) is=L++[w0,w1]++mP (2+L.length) is:=by
    simp only[pl,aF,aG,aH,Nat.add_comm]
   rw[e3];congr 1;simp;omega
  have wU:=wU M (pl L (qH (fM (fZ a env).1 is).length (fM (fZ a env).1 is))) E n hF hp hM hl (by rw[Hg,Oz,hjl,e1];simp;omega) hn;rw[ec,ea,hset,wU,tL]
 |@cS1 c i env a is js ha hf1 hb hc L2 L3 eL2 Us ihb wU =>
  intro M L E n hF hp hM hl hL hE hn;obtain⟨e0,hm⟩:=BR ha;have hse:=jD c;have hsz:=qP c.al a hm;have hh:=(hp.out.2.2.1 a hm).1;obtain⟨hM2,w⟩:=DJ hM hh (by omega);have hae:=Vw a env;obtain⟨w0,w1,e1,g0,g1,_⟩:=ZG env (.inl hf1);have hjl:=kP (fZ a env).1 is;have hl2:L2.length=2+is.length+1:=by rw[eL2,kP,hjl,e1];rfl
  have hl3:L3.length=L2.length+1:=by rw[Us];simp
  rw[kP,Oz]at hL;have ih:=ihb (jE M a.1.vars.reverse env.length 0) (L++(fZ a env).1) n (hF a hm) (hp.out.2.2.2.2.2 a hm) hM2 (by omega) (by rw[aF,e1];simp;omega) (by omega);have hq:(a.1.form==1||a.1.form==2)=true:=by rw[hf1];rfl
  have hq1:(a.1.form==1)=true:=by rw[hf1];rfl
  have KL:(a.1.form==3)=false:=by rw[hf1];rfl
  obtain⟨Y,eY⟩:∃Y,Y=pl (L++(fZ a env).1) is++[eJ lU a.1.vars.length]++[⟨kX,0,0,[]⟩]:=⟨_,rfl⟩;have hYl:Y.length=L.length+L3.length:=by
   rw[eY,aF,aF,Hg,aF,e1];simp;omega
  have ea:lX true (gU n) M env.length a (L,E)=(kK Y L.length Y.length,E++[Y.length-1]):=(by simp only[lX,EA a env,w,ih,qT,hq1,Bool.true_or,dQ,<-eY]);have ec:iY true (gU n) M env.length (c.al.drop i) (L,E)=iY true (gU n) M env.length (c.al.drop (i+1)) (lX true (gU n) M env.length a (L,E)):=(by rw[e0];simp only[iY,KL,dX])
  have wU:=wU M (kK Y L.length Y.length) (E++[Y.length-1]) n hF hp hM hl (by rw[wZ];omega) (fun e he=>by
   rw[wZ];rcases bJ.1 he with h|h
   ·have:=hE e h;omega
   ·rw[bP.1 h];omega) hn
  rw[ec,ea,wU,LY,x8,Hg,wZ,tL];have e2:fM [w0,w1] is=[w0,w1]++mP 2 is:=rfl;have hop:jP [eJ lU a.1.vars.length]:=jP.op rfl _;have sj:L3=[w0,w1]++(mP 2 is++[eJ lU a.1.vars.length]++[⟨kX,(L2.length+1+js.length:Nat),0,[]⟩]):=by
   rw[Us]
   conv=>lhs;lhs;rw[eL2,e1,Vy hop,e2]
   simp only[bR]
  have hset:pl L (qH L3.length L3)=kK (kK Y (Y.length-1) ((Y.length+js.length:Nat):Int)) L.length Y.length:=by
   have h1:pl L (qH L3.length L3)=kK (L++[w0,w1]++mP L.length (mP 2 is++[eJ lU a.1.vars.length]++[⟨kX,(L2.length+1+js.length:Nat),0,[]⟩])) L.length (fQ (((L3.length:Nat):Int)+L.length)):=(by have h0:=ZF g0 g1 L (mP 2 is++[eJ lU a.1.vars.length]++[⟨kX,(L2.length+1+js.length:Nat),0,[]⟩]) ((L3.length:Nat):Int);rw[<-sj]at h0;exact h0);have eZ:Y=(L++[w0,w1]++mP (2+L.length) is++[eJ lU a.1.vars.length])++(⟨kX,0,0,[]⟩::[]):=(by rw[eY,e1];simp only[pl,aF,aG,aH,Nat.add_comm]);obtain⟨Z,JZ⟩:∃Z,Z=L++[w0,w1]++mP (2+L.length) is++[eJ lU a.1.vars.length]:=⟨_,rfl⟩;rw[<-JZ]at eZ;have hZ:Z.length=Y.length-1:=by rw[eZ];simp
   have h2:kK Y (Y.length-1) ((Y.length+js.length:Nat):Int)=Z++[⟨kX,(Y.length+js.length:Nat),0,[]⟩]:=(by have h0:=CF Z ⟨kX,0,0,[]⟩ [] ((Y.length+js.length:Nat):Int);rw[<-eZ,hZ]at h0;exact h0);rw[h1,h2,EK,EK,OT,lq hop,dn,zI (by omega) (by omega),zI (by omega) (by omega),JZ];have n1:(((L2.length+1+js.length:Nat):Int)+L.length)=((Y.length+js.length:Nat):Int):=by omega
   have n2:(((L3.length:Nat):Int)+L.length)=(Y.length:Int):=by omega
   rw[n1,n2];simp only[bR]
  rw[hset,XU Y (by omega),zh7 (Z:=kK Y L.length Y.length) (p:=Y.length-1) (by rw[wZ];omega),NP E (pl (kK Y L.length Y.length) js) (Y.length-1) _ fun e he=>by have:=hE e he;omega]
 |@cS3 c i env a is ha hf1 h3 hb L0 L3 JY Us ihb =>
  intro M L E n hF hp hM hl hL hE hn;obtain⟨e0,hm⟩:=BR ha;have hf3:a.1.form=3:=by simpa using h3
  have hse:=jD c;have hsz:=qP c.al a hm;have hh:=(hp.out.2.2.1 a hm).1;obtain⟨hM2,w⟩:=DJ hM hh (by omega);have hae:=Vw a env;have e1:(fZ a env).1=[eJ kT 1]:=by unfold fZ;rw[hf3];rfl
  have hjl:=kP (fZ a env).1 is;have hl0:L0.length=1+is.length:=by rw[JY,hjl,e1];rfl
  have hl3:L3.length=L0.length+1:=by rw[Us];simp
  rw[kP]at hL;simp only[aH,Nat.add_zero]at hL;have ih:=ihb (jE M a.1.vars.reverse env.length 0) (L++(fZ a env).1) n (hF a hm) (hp.out.2.2.2.2.2 a hm) hM2 (by omega) (by rw[aF,e1];simp;omega) (by omega);obtain⟨Z,eZ⟩:∃Z,Z=pl (L++(fZ a env).1) is:=⟨_,rfl⟩;have hZ:Z.length=L.length+L0.length:=by rw[eZ,Hg,aF,e1];simp;omega
  have ea:lX true (gU n) M env.length a (L,E)=(Z++[⟨kX,0,0,[]⟩],E++[Z.length]):=(by simp only[lX,EA a env,w,ih,qT,hf3,<-eZ];simp[dK]);have ec:iY true (gU n) M env.length (c.al.drop i) (L,E)=(lX true (gU n) M env.length a (L,E),false):=(by rw[e0];simp only[iY,hf3];rfl);rw[ec,ea];show tM (E++[Z.length]) (Z++[⟨kX,0,0,[]⟩])=_;rw[LY,x8,<-NP _ _ _ _ fun e he=>by have:=hE e he;omega,CF,tL,zh6];congr 1;have e2:pl L L3=pl L L0++[⟨kX,(Z.length+1:Nat),0,[]⟩]:=by
   rw[Us];simp only[pl,EK,dn];rw[zI (by omega) (by omega)];have:(((L0.length+1:Nat):Int)+L.length)=((Z.length+1:Nat):Int):=by omega
   rw[this];simp only[bR]
  have e3:pl L L0=Z:=by rw[JY,tL,eZ,e1,vJ (jP.op rfl _)]
  rw[e2,e3];simp
 |@cS2 c i env a is js ha hf1 h3 hb hc L0 L3 JY Us ihb wU =>
  intro M L E n hF hp hM hl hL hE hn;obtain⟨e0,hm⟩:=BR ha;have hse:=jD c;have hsz:=qP c.al a hm;have hh:=(hp.out.2.2.1 a hm).1;have hf2:a.1.form=2:=by
   rcases hh with h|⟨h|h,_⟩
   ·rw[h]at hf1;cases hf1
   ·exact h
   ·rw[h]at h3;cases h3
  obtain⟨hM2,w⟩:=DJ hM hh (by omega);have hae:=Vw a env;obtain⟨w0,w1,e1,g0,g1,_⟩:=ZG env (.inr hf2);have hjl:=kP (fZ a env).1 is;have hl0:L0.length=2+is.length:=by rw[JY,hjl,e1];rfl
  have hl3:L3.length=L0.length+1:=by rw[Us];simp
  rw[kP,Oz]at hL;have ih:=ihb (jE M a.1.vars.reverse env.length 0) (L++(fZ a env).1) n (hF a hm) (hp.out.2.2.2.2.2 a hm) hM2 (by omega) (by rw[aF,e1];simp;omega) (by omega);have hq2:(a.1.form==2)=true:=by rw[hf2];rfl
  have KL:(a.1.form==3)=false:=by rw[hf2];rfl
  obtain⟨Y,eY⟩:∃Y,Y=pl (L++(fZ a env).1) is++[⟨kX,0,0,[]⟩]:=⟨_,rfl⟩;have hYl:Y.length=L.length+L3.length:=by
   rw[eY,aF,Hg,aF,e1];simp;omega
  have ea:lX true (gU n) M env.length a (L,E)=(kK Y L.length Y.length,E++[Y.length-1]):=(by simp only[lX,EA a env,w,ih,qT,hq2,hf1,bY,dQ,dX,<-eY]);have ec:iY true (gU n) M env.length (c.al.drop i) (L,E)=iY true (gU n) M env.length (c.al.drop (i+1)) (lX true (gU n) M env.length a (L,E)):=(by rw[e0];simp only[iY,KL,dX])
  have wU:=wU M (kK Y L.length Y.length) (E++[Y.length-1]) n hF hp hM hl (by rw[wZ];omega) (fun e he=>by
   rw[wZ];rcases bJ.1 he with h|h
   ·have:=hE e h;omega
   ·rw[bP.1 h];omega) hn
  rw[ec,ea,wU,LY,x8,Hg,wZ,tL];have e2:fM [w0,w1] is=[w0,w1]++mP 2 is:=rfl;have sj:L3=[w0,w1]++(mP 2 is++[⟨kX,(L0.length+1+js.length:Nat),0,[]⟩]):=by
   rw[Us]
   conv=>lhs;lhs;rw[JY,e1,e2]
   simp only[bR]
  have hset:pl L (qH L3.length L3)=kK (kK Y (Y.length-1) ((Y.length+js.length:Nat):Int)) L.length Y.length:=by
   have h1:pl L (qH L3.length L3)=kK (L++[w0,w1]++mP L.length (mP 2 is++[⟨kX,(L0.length+1+js.length:Nat),0,[]⟩])) L.length (fQ (((L3.length:Nat):Int)+L.length)):=(by have h0:=ZF g0 g1 L (mP 2 is++[⟨kX,(L0.length+1+js.length:Nat),0,[]⟩]) ((L3.length:Nat):Int);rw[<-sj]at h0;exact h0);have eZ:Y=(L++[w0,w1]++mP (2+L.length) is)++(⟨kX,0,0,[]⟩::[]):=(by rw[eY,e1];simp only[pl,aF,aG,aH,Nat.add_comm]);obtain⟨Z,JZ⟩:∃Z,Z=L++[w0,w1]++mP (2+L.length) is:=⟨_,rfl⟩;rw[<-JZ]at eZ;have hZ:Z.length=Y.length-1:=by rw[eZ];simp
   have h2:kK Y (Y.length-1) ((Y.length+js.length:Nat):Int)=Z++[⟨kX,(Y.length+js.length:Nat),0,[]⟩]:=(by have h0:=CF Z ⟨kX,0,0,[]⟩ [] ((Y.length+js.length:Nat):Int);rw[<-eZ,hZ]at h0;exact h0);rw[h1,h2,EK,OT,dn,zI (by omega) (by omega),zI (by omega) (by omega),JZ];have n1:(((L0.length+1+js.length:Nat):Int)+L.length)=((Y.length+js.length:Nat):Int):=by omega
   have n2:(((L3.length:Nat):Int)+L.length)=(Y.length:Int):=by omega
   rw[n1,n2];simp only[bR]
  rw[hset,XU Y (by omega),zh7 (Z:=kK Y L.length Y.length) (p:=Y.length-1) (by rw[wZ];omega),NP E (pl (kK Y L.length Y.length) js) (Y.length-1) _ fun e he=>by have:=hE e he;omega]
end Go.Fu.X
namespace Go.Fu
open Go Go.Mx
set_option maxRecDepth 10000
theorem zd9b(a:Nat)(h:a<10):(Fz a).toNat=48+a:=by
 have:a=0\/a=1\/a=2\/a=3\/a=4\/a=5\/a=6\/a=7\/a=8\/a=9:=by omega
 rcases this with rfl|rfl|rfl|rfl|rfl|rfl|rfl|rfl|rfl|rfl<;>rfl
theorem zgc(q:UInt8)(hq:q.toNat<48):∀(k a:Nat)(s:Tx),(∀b∈s,b≠q)->∀b∈vM k a s,b≠q
 |0,a,s,h=>fun b hb=>h b hb
 |k+1,a,s,h=>by
  have hc:∀d,d<10->Fz d≠q:=fun d hd e=>by
   have:=zd9b d hd;rw[e]at this;omega
  unfold vM;by_cases h1:a<10
  ·rw[decide_eq_true h1,dQ];intro b hb;rcases aS.1 hb with rfl|hb
   ·exact hc a h1
   ·exact h b hb
  ·rw[decide_eq_false h1,dX];exact zgc q hq k (a / 10) _ fun b hb=>by
    rcases aS.1 hb with rfl|hb
    ·exact hc (a%10) (by omega)
    ·exact h b hb
def Yh(s:Tx):Prop:=∀b∈s,b≠39
theorem za8b{l:List Tx}{s:Tx}:wI l s=true↔s∈l:=by
 unfold wI;rw[List.any_eq_true];constructor
 ·rintro⟨x,hx,e⟩;rw[<-eq_of_beq e];exact hx
 ·intro h;exact⟨s,h,bW s⟩
theorem zb1b{c:Co}{g s h:List Tx}(hn:pP c g s h=true):c.f=1/\wI g c.s=false/\wI s c.s=true/\wI h c.s=false:=by simp only[pP,aC,Bool.not_eq_true',beq_iff_eq]at hn;exact⟨hn.1.1.1,hn.1.1.2,hn.1.2,hn.2⟩
theorem zgi:∀(k:Nat)(c:Co)(g s h:List Tx),∀x∈jO k c g s h,x∈h\/wI s x=true
 |0,_,_,_,_,_,hx=>.inl hx
 |k+1,c,g,s,h,x,hx=>by
  rw[zc2]at hx;cases hn:pP c g s h with
  |true =>
   rw[hn,dQ]at hx;rcases bJ.1 hx with h1|h1
   ·exact .inl h1
   ·rw[bP.1 h1];exact .inr (zb1b hn).2.2.1
  |false =>
   rw[hn,dX]at hx;have key:∀(l:List (Co×List Tx))(h:List Tx),x∈l.foldl (fun h p=>jO k p.1 (g++p.2) s h) h->x∈h\/wI s x=true:=by
    intro l;induction l with
    |nil=>intro h hx;exact .inl hx
    |cons p r ih =>
     intro h hx;rcases ih _ hx with h1|h1
     ·exact zgi k p.1 _ s h x h1
     ·exact .inr h1
   exact key _ h hx
def rU(u:Su):Prop:=Yh u.name/\Pl u.body/\Wf u.body/\∀s∈u.ps,Nq s
section
variable{so:List Tx}
end
theorem zeq(F:Co->List Su->Co×List Su):∀(l:List (Tx×Co))(m:List Su),(iP F l m).1.map Prod.fst=l.map Prod.fst
 |[],m=>rfl
 |p::l,m=>by simp only[iP,aO,zeq F l]
end Go.Fu

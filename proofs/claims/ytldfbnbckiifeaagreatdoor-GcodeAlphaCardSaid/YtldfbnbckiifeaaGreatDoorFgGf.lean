/-
 Code,as the document prints it.
-/
import Derived.Test.YtldfbnbckiifeaaGreatDoorFgBn
import Derived.Test.YtldfbnbckiifeaaGreatDoorFgZa
import Derived.Test.YtldfbnbckiifeaaGreatDoorFgBm
import Derived.Test.YtldfbnbckiifeaaGreatDoorFgEj
import Derived.Test.YtldfbnbckiifeaaGreatDoorFgO
import Derived.Test.YtldfbnbckiifeaaGreatDoorFgT
set_option maxHeartbeats 4000000
set_option linter.unusedSimpArgs false
set_option linter.unusedVariables false
set_option linter.unusedSectionVars false
namespace Go.Fu
open Go Go.Mx
set_option maxRecDepth 10000
set_option maxHeartbeats 4000000
section
variable {C:dQ} {n:Nat} {σ:Store}
end
end Go.Fu
namespace Go.Fu
open Go Go.Mx
set_option maxRecDepth 10000
set_option maxHeartbeats 4000000
section
variable {C:dQ} {n:Nat} {σ:Store}
end
end Go.Fu
namespace Go.Fu
open Go Go.Mx
set_option maxRecDepth 10000
set_option maxHeartbeats 4000000
theorem tb:(wA == wA)=true:=by simp
end Go.Fu
namespace Go.Fu
open Go Go.Mx
set_option maxRecDepth 10000
set_option maxHeartbeats 4000000
section
variable {n N:Nat}
end
end Go.Fu
namespace Go.Fu
open Go Go.Mx
set_option maxRecDepth 10000
set_option maxHeartbeats 4000000
end Go.Fu
namespace Go.Fu
open Go Go.Mx
set_option maxRecDepth 10000
def Sub (a b:List Tx):Prop:=∀ s,a.any (· == s)=true→b.any (· == s)=true
theorem Sub.app {a b:List Tx} (h:Sub a b) (c:List Tx):Sub (a ++ c) (b ++ c):=fun s hs=>by
 rw [List.any_append,Bool.or_eq_true] at hs ⊢
 exact hs.imp (h s) id
theorem Good.mono {a:List Tx} {c:Co} (hg:Good a c):∀ {b:List Tx},Sub a b→Good b c:=by
 induction hg with
 | int h=>intro b _; exact .int h
 | con h=>intro b _; exact .con h
 | var h=>intro b hs; exact .var (hs _ h)
 | fail=>intro b _; exact .fail
 | app _ _ i1 i2=>intro b hs; exact .app (i1 hs) (i2 hs)
 | prim h _ _ i1 i2=>intro b hs; exact .prim h (i1 hs) (i2 hs)
 | lt h _ _ i1 i2=>intro b hs; exact .lt h (fun p hp=>i1 p hp (hs.app _)) (i2 (hs.app _))
 | cas _ h _ i1 i2=>intro b hs; exact .cas (i1 hs) h fun a ha=>i2 a ha (hs.app _)
theorem Shp.mono {B B':Nat} (hB:B≤B') {c:Co} (h:Shp B c):Shp B' c:=by
 induction h with
 | leaf a b d=>exact .leaf a b (by omega)
 | app a _ _ i1 i2=>exact .app (by omega) i1 i2
 | prim a _ _ i1 i2=>exact .prim (by omega) i1 i2
 | lt a b _ _ i1 i2=>exact .lt (by omega) (fun p hp=>by have:=b p hp; omega) i1 i2
 | cas a b _ _ i1 i2=>exact .cas (by omega) (fun x hx=>⟨(b x hx).1,by have:=(b x hx).2.1; omega,fun v hv=>by have:=(b x hx).2.2 v hv; omega⟩) i1 i2
theorem Vd.mono {u:Su} (h:Vd 5 200 u):Vd 6 200 u:=⟨h.1.mono (by omega),h.2⟩
theorem zbyb {us:List Su} (h:Np us):CompOK us:=⟨h.1,by have:=h.2.1; omega,fun u hu=>⟨(h.2.2 u hu).1.mono,(h.2.2 u hu).2⟩⟩
theorem zw9 {us:List Su} {c:Cd}:c∈pC us↔(∃ f∈FL,c=iF f)∨∃ u∈us,∃ v∈jJ u,c=iQ v:=by
 simp only [pC,bJ,bF,List.mem_flatMap]
 constructor
 ·rintro (⟨f,h1,h2⟩ | ⟨u,h1,v,h2,h3⟩)
  ·exact .inl ⟨f,h1,h2.symm⟩
  ·exact .inr ⟨u,h1,v,h2,h3.symm⟩
 ·rintro (⟨f,h1,h2⟩ | ⟨u,h1,v,h2,h3⟩)
  ·exact .inl ⟨f,h1,h2.symm⟩
  ·exact .inr ⟨u,h1,v,h2,h3.symm⟩
theorem zbxb {us:List Su} (h:CompOK us):∀ c∈pC us,CO 200 [c]∧c.body.length < 9000000:=by
 intro c hc
 rcases zw9.1 hc with ⟨f,hf,rfl⟩ | ⟨u,hu,v,hv,rfl⟩
 ·simp only [FL,aS,aK,or_false] at hf
  have s2:Small 2:=⟨by decide,by decide⟩
  rcases hf with rfl | rfl | rfl | rfl | rfl
  all_goals
   refine ⟨fun c hc=>?_,by simp [iF]⟩
   rw [bO.1 hc]
   refine ⟨by simp [iF],by first | exact zS | exact zc3 | exact s2,fun i hi=>?_⟩
   simp only [iF,aS,aK,or_false] at hi
   rcases hi with rfl | rfl | rfl | rfl
   ·exact gi4 (by decide) (by first | exact zS | exact zc3 | exact s2) (by first | exact zS | exact zc3 | exact s2) (by simp)
   ·exact gi4 (by decide) zS zS (by simp)
   ·exact gi4 (by decide) zS zS (by simp)
   ·exact gi4 (by decide) zS zS (by simp)
 ·have hf:=(Vs h u hu).2.1 v hv
  obtain ⟨h1,h2,h3⟩:=hf
  have hg:=zn4 h1 h3
  refine ⟨fun c hc=>?_,by have:=hg.2; omega⟩
  rw [bO.1 hc]
  exact ⟨h2,vY (by omega),hg.1⟩
theorem zw8 {us:List Su} (h:CompOK us):(pC us).length≤7205:=by
 have hlen:∀ l:List Su,(∀ u∈l,u∈us)→(l.flatMap fun u=>(jJ u).map iQ).length≤1200 * l.length:=by
  intro l
  induction l with
  | nil=>intro _; simp
  | cons x r ih =>
   intro hl
   have h1:=ih fun u hu=>hl u (aI _ hu)
   have h2:=(Vs h x (hl x (aQ ..))).2.2
   rw [bE,aF,aJ,aG]
   omega
 have h1:=hlen us fun _ h=>h
 have h2:=h.few
 have hF:FL.length=5:=rfl
 rw [pC,aF,aJ,hF]
 omega
end Go.Fu
namespace Go.Fu
open Go Go.Mx
set_option maxRecDepth 10000
theorem Vm {α:Type} {f g:α→Bool}:∀ l:List α,(∀ x∈l,f x=g x)→l.any f=l.any g
 | [],_=>rfl
 | x :: r,h=>by rw [List.any_cons,List.any_cons,h x (aQ ..),Vm r fun y hy=>h y (aI _ hy)]
theorem Xv (l:List Tx):lC (l.map rho)=lC l:=by
 unfold lC
 rw [aJ]
 refine Vm _ fun i hi=>Vm _ fun k hk=>?_
 have hi:=List.mem_range.1 hi
 have hk:=List.mem_range.1 hk
 rw [eY (l.map rho) i [] (by rw [aJ]; exact hi),eY (l.map rho) k [] (by rw [aJ]; omega),eY l i [] hi,eY l k [] (by omega),List.getElem_map,List.getElem_map,zc9]
theorem zchb {ns:List Tx} {c:Co} (hg:Good ns c):∀ (gl so:List Tx),(∀ s,fO ns s=(fO gl s || fO so s))→Good (gl ++ so.map rho) (prC so c):=by
 induction hg with
 | @int ns n h =>
  intro gl so _
  rw [fX]
  exact .int h
 | @con ns s h =>
  intro gl so _
  rw [fX]
  exact .con h
 | @var ns s h =>
  intro gl so hs
  have e:fO ns s=true:=h
  rw [hs] at e
  have e2:prC so (.mk 1 0 s [] [] [])=eQ (ifB (fO so s) (rho s) s):=zlb so s
  rw [e2]
  refine .var ?_
  show fO _ _=true
  rw [nL]
  cases e3:fO so s with
  | true=>rw [dJ,zjg,e3,Bool.or_true]
  | false =>
   rw [e3,bY] at e
   rw [dH,e,Bool.true_or]
 | fail =>
  intro gl so _
  rw [fX]
  exact .fail
 | @app ns a b _ _ i1 i2 =>
  intro gl so hs
  have e:prC so (.mk 4 0 [] [a,b] [] [])=.mk 4 0 [] [prC so a,prC so b] [] []:=zti so a b
  rw [e]
  exact .app (i1 gl so hs) (i2 gl so hs)
 | @prim ns s a b h _ _ i1 i2 =>
  intro gl so hs
  have e:prC so (.mk 10 0 s [a,b] [] [])=.mk 10 0 s [prC so a,prC so b] [] []:=by
   rw [fX]
   simp [co,rn,nms,ifB]
  rw [e]
  exact .prim h (i1 gl so hs) (i2 gl so hs)
 | @lt ns b bs h _ _ i1 i2 =>
  intro gl so hs
  have e:prC so (.mk 8 0 [] [b] bs [])=.mk 8 0 [] [prC (so ++ bs.map Prod.fst) b] (bs.map (nO (so ++ bs.map Prod.fst))) []:=by
   rw [fX]
   simp [co,rn,nms,ifB]
  have e1:(bs.map (nO (so ++ bs.map Prod.fst))).map Prod.fst=(bs.map Prod.fst).map rho:=by
   rw [cD,cD]
   rfl
  have hs':∀ s,fO (ns ++ bs.map Prod.fst) s=(fO gl s || fO (so ++ bs.map Prod.fst) s):=fun s=>by rw [nL,nL,hs,Bool.or_assoc]
  have e2:gl ++ so.map rho ++ (bs.map Prod.fst).map rho=gl ++ (so ++ bs.map Prod.fst).map rho:=by rw [bR,aU]
  rw [e]
  refine .lt (by rw [e1,Xv]; exact h) (fun p hp=>?_) ?_
  ·rw [e1,e2]
   obtain ⟨q,hq,rfl⟩:=bF.1 hp
   exact i1 q hq gl _ hs'
  ·rw [e1,e2]
   exact i2 gl _ hs'
 | @cas ns x al _ h _ i1 i2 =>
  intro gl so hs
  have e:prC so (.mk 9 0 [] [x] [] al)=.mk 9 0 [] [prC so x] [] (al.map (mK so)):=by
   rw [fX]
   simp [co,rn,nms,ifB]
  rw [e]
  refine .cas (i1 gl so hs) (fun a ha=>?_) fun a ha=>?_
  ·obtain ⟨q,hq,rfl⟩:=bF.1 ha
   obtain ⟨h1,h2,h3⟩:=h q hq
   refine ⟨h1,(Xv _).trans h2,h3.imp (fun ⟨a,b⟩=>⟨a,?_⟩) (Or.imp (fun ⟨a,b⟩=>⟨a,?_⟩) fun ⟨a,b⟩=>⟨a,?_⟩)⟩
   ·show tO FL q.1.name ((q.1.vars.map rho).length:Nat)=true
    rw [aJ]
    exact b
   ·show q.1.vars.map rho=[]
    rw [b]; rfl
   ·show q.1.vars.map rho=[]
    rw [b]; rfl
  ·obtain ⟨q,hq,rfl⟩:=bF.1 ha
   have hs':∀ s,fO (ns ++ q.1.vars) s=(fO gl s || fO (so ++ q.1.vars) s):=fun s=>by rw [nL,nL,hs,Bool.or_assoc]
   have e2:gl ++ so.map rho ++ (mK so q).1.vars=gl ++ (so ++ q.1.vars).map rho:=by rw [bR,aU]; rfl
   rw [e2]
   exact i2 q hq gl _ hs'
theorem zda (s:Tx):(rho s).length=s.length + 1:=by simp [rho]
theorem Qu {B:Nat} (so:List Tx) (f:Int) {s:Tx} (h:s.length≤B):(rn so f s).length≤B + 1:=by
 unfold rn
 cases (f == 1) && fO so s with
 | true=>rw [dJ,zda]; omega
 | false=>rw [dH]; omega
theorem zgfb {B:Nat} {c:Co} (h:Shp B c):∀ so,Shp (B + 1) (prC so c):=by
 induction h with
 | @leaf f n s a b d =>
  intro so
  rw [fX]
  exact .leaf a b (Qu so f d)
 | @app s a b h _ _ i1 i2 =>
  intro so
  rw [fX]
  exact .app (Qu so 4 h) (i1 _) (i2 _)
 | @prim s a b h _ _ i1 i2 =>
  intro so
  rw [fX]
  exact .prim (Qu so 10 h) (i1 _) (i2 _)
 | @lt s b bs h h2 _ _ i1 i2 =>
  intro so
  rw [fX]
  refine .lt (Qu so 8 h) (fun p hp=>?_) (fun p hp=>?_) (i2 _)
  ·obtain ⟨q,hq,rfl⟩:=bF.1 hp
   have:=h2 q hq
   simp only [nO,zda]
   omega
  ·obtain ⟨q,hq,rfl⟩:=bF.1 hp
   exact i1 q hq _
 | @cas s x al h h2 _ _ i1 i2 =>
  intro so
  rw [fX]
  refine .cas (Qu so 9 h) (fun p hp=>?_) (i1 _) (fun p hp=>?_)
  ·obtain ⟨q,hq,rfl⟩:=bF.1 hp
   obtain ⟨a1,a2,a3⟩:=h2 q hq
   refine ⟨a1,Nat.le_succ_of_le a2,fun v hv=>?_⟩
   obtain ⟨w,hw,rfl⟩:=bF.1 (show v∈q.1.vars.map rho from hv)
   have:=a3 w hw
   rw [zda]
   omega
  ·obtain ⟨q,hq,rfl⟩:=bF.1 hp
   exact i2 q hq _
theorem zt3 {us:List Su} (h:Np us):CompOK (us.map prU):=by
 obtain ⟨hg,h4,hp⟩:=h
 have hn:(us.map prU).map Su.name=us.map Su.name:=by
  rw [cD]
  rfl
 refine ⟨⟨by rw [aJ]; omega,by rw [hn]; exact hg.once,fun u hu=>?_,fun u hu=>?_⟩,by rw [aJ]; omega,fun u hu=>?_⟩
 ·obtain ⟨v,hv,rfl⟩:=bF.1 hu
  have:=hg.ps v hv
  exact ⟨(Xv _).trans this.1,by simp only [prU,aJ]; exact this.2⟩
 ·obtain ⟨v,hv,rfl⟩:=bF.1 hu
  have:=hg.body v hv
  rw [hn]
  exact ⟨zchb this.1 _ _ fun s=>nL _ _ s,by simp only [prU,nJ]; exact this.2⟩
 ·obtain ⟨v,hv,rfl⟩:=bF.1 hu
  obtain ⟨⟨h1,h2,h3,h4⟩,h5⟩:=hp v hv
  exact ⟨⟨zgfb h1 _,by simp only [prU,Ys]; exact h2,by simp only [prU,aJ]; exact h3,by simp only [prU,nJ]; exact h4⟩,by simp only [prU,nJ]; exact h5⟩
theorem zbib:∀ s∈kB,yO s:=by
 intro s hs
 simp only [kB,aS,aK,or_false] at hs
 rcases hs with rfl | rfl | rfl | rfl <;> (intro b hb; rw [bO.1 hb]; decide)
theorem zx2 {us:List Su} (h:Np us) {m:Nat} (hn:us.map Su.name=kB.take (m + 1)) (hp:∀ u∈us,Pl u.body∧∀ s∈u.ps,Nv s):∀ u∈us,PlU u:=fun u hu =>
 ⟨zbib _ (bH (by rw [← hn]; exact bF.2 ⟨u,hu,rfl⟩:u.name∈kB.take (m + 1))),(hp u hu).1,(h.2.2 u hu).1.1.wf,fun s hs=>((hp u hu).2 s hs).q⟩
end Go.Fu
namespace Go.Fu
open Go Go.Mx
set_option maxRecDepth 10000
set_option maxHeartbeats 4000000
def vE:List D→Cell→Prop:=fun ds c=>∀ co so,ds=[dCo co,dSs so]→c=⟨false,dCo (prC so co)⟩
theorem xJ {S:eD} (hS:dE S sU=some vE) (co:Co) (so:List Tx) (hp:OkP sU [dCo co,dSs so] ⟨false,dCo (prC so co)⟩) (n:Nat) (σ:Store):T S (n + 1) sU [dCo co,dSs so] σ=some (.ret ⟨false,dCo (prC so co)⟩,σ):=by
 obtain ⟨c,h1,h2⟩:=mX (S:=S) hS rfl (c:=⟨false,dCo (prC so co)⟩) (fun co' so' e=>by
  simp only [aL,and_true] at e
  obtain ⟨e1,e2⟩:=e
  rw [rL e1,jT e2]) hp
 rw [h2,h1 co so rfl]
def SPm:eD:=[(Zp,za7b),(Zn,zk0),(n_9,zpc),(sU,vE)]
section
variable {C:dQ} {n:Nat} {σ:Store}
def bQ (so:List Tx) (c:Co) (k b a:Cell):List Cell:=[⟨false,.int .i64 c.f⟩,⟨false,.int .i64 c.n⟩,⟨false,.str (rn so c.f c.s)⟩,⟨false,.int .i64 0⟩,⟨false,.int .i64 0⟩,⟨false,.str []⟩,⟨false,.nils⟩,k,b,a]
def Eqk (c:Co) (so:List Tx) (i:Nat):Env:={slots:=[(1,⟨false,dSs so⟩),(7,⟨false,dSs (so ++ nms c)⟩),(8,⟨false,.int .i64 i⟩)],locs:=[(2,2,0),(4,4,0),(5,5,0)],boxes:=[(2,bC c),(4,z10),(5,bQ so c ⟨ow i,dCs ((c.ks.take i).map (prC (so ++ nms c)))⟩ ⟨false,.nils⟩ ⟨false,.nils⟩)],defers:=[]}
theorem zdub (c:Co) (so:List Tx) (i:Nat) (h:i < c.ks.length) (hl:c.size < 100000000) (hc:C sU [dCo c.ks[i],dSs (so ++ nms c)] σ=some (.ret ⟨false,dCo (prC (so ++ nms c) c.ks[i])⟩,σ)) :
  exec C n none zbv (Eqk c so i) σ=some (.normal,Eqk c so (i + 1),σ):=by
 have hb:=Hu c.ks
 have hsz:=iV c
 have hi:((i:Int) < (c.ks.length:Int)):=by omega
 have hx:=zhub c.ks i h
 have ha:=zhrb ((c.ks.take i).map (prC (so ++ nms c))) (prC (so ++ nms c) c.ks[i]) (ow i) (fun h=>Hh fun e=>h (by rw [e]; rfl)) (by rw [aJ,bI]; omega)
 rw [Eqk,Eqk,← hZ c.ks i h,aU,aO,aZ]
 generalize (c.ks.take i).map (prC (so ++ nms c))=l at *
 generalize prC (so ++ nms c) c.ks[i]=y at *
 generalize c.ks[i]=x at *
 simp only [fC,iC] at hc hx ha
 simp only [zbv,bC,bQ,z10,sA,seval,kn,zg7,hi,fL,hx,nV,okl,mE,hc,ha,dV (i:=i) (by omega),kK]
theorem zf9b (c:Co) (so:List Tx):exec C n none zbv (Eqk c so c.ks.length) σ=some (.exit 0,{Eqk c so c.ks.length with slots:=[(1,⟨false,dSs so⟩),(7,⟨false,dSs (so ++ nms c)⟩),(8,⟨false,.int .i64 c.ks.length⟩),(41,⟨false,.bool false⟩)]},σ):=by
 have hi:¬ ((c.ks.length:Int) < (c.ks.length:Int)):=by omega
 simp only [zbv,Eqk,bC,sA,seval,kn,zg7,hi]
def Eqb (c:Co) (so:List Tx) (k:Cell) (i:Nat):Env:={slots:=[(1,⟨false,dSs so⟩),(7,⟨false,dSs (so ++ nms c)⟩),(9,⟨false,.int .i64 i⟩)],locs:=[(2,2,0),(4,4,0),(5,5,0)],boxes:=[(2,bC c),(4,z10),(5,bQ so c k ⟨ow i,dBl ((c.bs.take i).map (nO (so ++ nms c)))⟩ ⟨false,.nils⟩)],defers:=[]}
theorem zdtb (c:Co) (so:List Tx) (k:Cell) (i:Nat) (h:i < c.bs.length) (hl:c.size < 100000000) (hnm:c.bs[i].1.length < 1000) (hc:C sU [dCo c.bs[i].2,dSs (so ++ nms c)] σ=some (.ret ⟨false,dCo (prC (so ++ nms c) c.bs[i].2)⟩,σ)) :
  exec C n none zbw (Eqb c so k i) σ=some (.normal,Eqb c so k (i + 1),σ):=by
 have hb:=mW c.bs
 have hsz:=iV c
 have hi:((i:Int) < (c.bs.length:Int)):=by omega
 have hx:=zavb c.bs i h
 have h39:(c.bs[i].1.length + (0 + 1)≤281474976710656):=by omega
 have ha:=zarb ((c.bs.take i).map (nO (so ++ nms c))) (nO (so ++ nms c) c.bs[i]) (ow i) (fun h=>Hh fun e=>h (by rw [e]; rfl)) (by rw [aJ,bI]; omega)
 rw [Eqb,Eqb,← hZ c.bs i h,aU,aO,aZ]
 generalize (c.bs.take i).map (nO (so ++ nms c))=l at *
 simp only [nO,rho] at ha ⊢
 generalize prC (so ++ nms c) c.bs[i].2=y at *
 generalize c.bs[i]=b at *
 simp only [tX,iC] at ha hx
 simp only [fC,iC] at hc
 simp only [zbw,bC,bQ,z10,sA,seval,kn,zg6,hi,fL,hx,nV,okl,mE,hc,ha,h39,dV (i:=i) (by omega),kK]
theorem zf8b (c:Co) (so:List Tx) (k:Cell):exec C n none zbw (Eqb c so k c.bs.length) σ=some (.exit 2,{Eqb c so k c.bs.length with slots:=[(1,⟨false,dSs so⟩),(7,⟨false,dSs (so ++ nms c)⟩),(9,⟨false,.int .i64 c.bs.length⟩),(60,⟨false,.bool false⟩)]},σ):=by
 have hi:¬ ((c.bs.length:Int) < (c.bs.length:Int)):=by omega
 simp only [zbw,Eqb,bC,sA,seval,kn,zg6,hi]
def Eqa (c:Co) (so:List Tx) (k b:Cell) (i:Nat):Env:={slots:=[(1,⟨false,dSs so⟩),(11,⟨false,.int .i64 i⟩)],locs:=[(2,2,0),(4,4,0),(5,5,0)],boxes:=[(2,bC c),(4,z10),(5,bQ so c k b ⟨ow i,dAl ((c.al.take i).map (mK so))⟩)],defers:=[]}
def bAq (a:Hd × Co):List Cell:=[⟨false,.int .i64 a.1.form⟩,⟨false,.int .i64 a.1.num⟩,⟨false,.str a.1.name⟩,⟨false,dSs a.1.vars⟩,⟨false,.int .i64 a.2.f⟩,⟨false,.int .i64 a.2.n⟩,⟨false,.str a.2.s⟩,⟨false,.int .i64 0⟩,⟨false,.int .i64 0⟩,⟨false,.str []⟩,⟨false,.nils⟩,⟨false,dCs a.2.ks⟩,⟨false,dBl a.2.bs⟩,⟨false,dAl a.2.al⟩]
def Eqv (c:Co) (so:List Tx) (i:Nat) (out:List Cell) (a:Hd × Co) (j:Nat):Env:={slots:=[(1,⟨false,dSs so⟩),(11,⟨false,.int .i64 i⟩),(13,⟨ow j,dSs ((a.1.vars.take j).map rho)⟩),(14,⟨false,.int .i64 j⟩)],locs:=[(2,2,0),(4,4,0),(5,5,0),(12,12,0)],boxes:=[(2,bC c),(4,z10),(5,out),(12,bAq a)],defers:=[]}
theorem zdvb (c:Co) (so:List Tx) (i:Nat) (out:List Cell) (a:Hd × Co) (j:Nat) (h:j < a.1.vars.length) (hl:a.1.vars.length < 100000000) (hnm:a.1.vars[j].length < 1000):exec C n none zbx (Eqv c so i out a j) σ=some (.normal,Eqv c so i out a (j + 1),σ):=by
 have hi:((j:Int) < (a.1.vars.length:Int)):=by omega
 have hx:=rW a.1.vars j h
 have h39:(a.1.vars[j].length + (0 + 1)≤281474976710656):=by omega
 have ha:=zic ((a.1.vars.take j).map rho) [rho a.1.vars[j]] (ow j) (fun h=>Hh fun e=>h (by rw [e]; rfl)) (by rw [aJ,bI,cC]; omega)
 rw [Eqv,Eqv,← hZ a.1.vars j h,aU,aO,aZ]
 generalize (a.1.vars.take j).map rho=l at *
 simp only [rho,aO,aZ] at ha ⊢
 generalize a.1.vars[j]=s at *
 simp only [zbx,bAq,sA,seval,kn,mO,hi,fL,hx,nV,okl,mE,h39,ha,dV (i:=j) (by omega),kK]
theorem zgab (c:Co) (so:List Tx) (i:Nat) (out:List Cell) (a:Hd × Co):exec C n none zbx (Eqv c so i out a a.1.vars.length) σ=some (.exit 6,{Eqv c so i out a a.1.vars.length with slots:=[(1,⟨false,dSs so⟩),(11,⟨false,.int .i64 i⟩),(13,⟨ow a.1.vars.length,dSs (a.1.vars.map rho)⟩),(14,⟨false,.int .i64 a.1.vars.length⟩),(99,⟨false,.bool false⟩)]},σ):=by
 have hi:¬ ((a.1.vars.length:Int) < (a.1.vars.length:Int)):=by omega
 have e:=aV (l:=a.1.vars)
 simp only [zbx,Eqv,bAq,sA,seval,kn,mO,hi,e]
theorem zdsb (c:Co) (so:List Tx) (k b:Cell) (i:Nat) (h:i < c.al.length) (hl:c.size < 100000000) (hn:c.size < n) (hnm:∀ s∈c.al[i].1.vars,s.length < 1000) (hbo:C n_9 [dSs so,dSs c.al[i].1.vars] σ=some (.ret ⟨false,dSs (so ++ c.al[i].1.vars)⟩,σ))
  (hc:C sU [dCo c.al[i].2,dSs (so ++ c.al[i].1.vars)] σ=some (.ret ⟨false,dCo (prC (so ++ c.al[i].1.vars) c.al[i].2)⟩,σ)) :
  exec C n none zby (Eqa c so k b i) σ=some (.normal,Eqa c so k b (i + 1),σ):=by
 have hb:=oK c.al
 have hm:=lU c.al _ (aX h)
 have hsz:=iV c
 have hi:((i:Int) < (c.al.length:Int)):=by omega
 have hx:=zhtb c.al i h
 have ha:=zaqb ((c.al.take i).map (mK so)) (mK so c.al[i]) (ow i) (fun h=>Hh fun e=>h (by rw [e]; rfl)) (by rw [aJ,bI]; omega)
 have hv:=iL (body:=exec C n none zbx) (fun j=>Eqv c so i (bQ so c k b ⟨ow i,dAl ((c.al.take i).map (mK so))⟩) c.al[i] j) (fun _=>σ) c.al[i].1.vars.length (r:=_) (fun _ _ h=>by cases h) (fun j hj=>zdvb c so i _ c.al[i] j hj (by omega) (hnm _ (aX hj))) (zgab c so i _ c.al[i]) 0 n (by omega) (by omega)
 rw [Eqa,Eqa,← hZ c.al i h,aU,aO,aZ]
 generalize (c.al.take i).map (mK so)=l at *
 simp only [mK,prH] at ha ⊢
 generalize c.al[i]=a at *
 have hp:=ziyb a
 have hd:=agg?_dA a
 generalize prC (so ++ a.1.vars) a.2=y at *
 have e0:dSs []=.nils:=rfl
 simp only [Eqv,bAq,bQ,bC,z10,eR,List.take_zero,aZ,e0,oJ] at hv
 simp only [Rt,cA,iC] at ha hx hp hd
 simp only [fC,iC] at hc hp
 simp only [zby,bC,bQ,bAq,z10,sA,seval,kn,zaxb,hi,fL,hx,hp,hd,hv,jW,nV,okl,mE,hbo,hc,ha,dV (i:=i) (by omega),kK]
theorem zf7b (c:Co) (so:List Tx) (k b:Cell):exec C n none zby (Eqa c so k b c.al.length) σ=some (.exit 4,{Eqa c so k b c.al.length with slots:=[(1,⟨false,dSs so⟩),(11,⟨false,.int .i64 c.al.length⟩),(87,⟨false,.bool false⟩)]},σ):=by
 have hi:¬ ((c.al.length:Int) < (c.al.length:Int)):=by omega
 simp only [zby,Eqa,bC,sA,seval,kn,zaxb,hi]
end
theorem zms {B:Nat} (hB:B < 1000):∀ (k:Nat) (c:Co) (so:List Tx),c.size=k→Shp B c→so.length + c.size < 100000000→OkP sU [dCo c,dSs so] ⟨false,dCo (prC so c)⟩:=by
 intro k
 induction k using Nat.strongRecOn with
 | ind k ih =>
  intro c so hk hs hl
  have hsz:=iV c
  have hb:=mW c.bs
  have hks:=Hu c.ks
  have ha:=oK c.al
  have hpart:=Xo hs
  have hvs:(∀ b∈c.bs,b.1.length≤B)∧∀ a∈c.al,∀ v∈a.1.vars,v.length≤B:=by
   cases hs with
   | leaf _ _ _=>exact ⟨(fun b hb=>by cases hb),(fun b hb=>by cases hb)⟩
   | app _ _ _=>exact ⟨(fun b hb=>by cases hb),(fun b hb=>by cases hb)⟩
   | prim _ _ _=>exact ⟨(fun b hb=>by cases hb),(fun b hb=>by cases hb)⟩
   | lt _ h _ _=>exact ⟨h,(fun b hb=>by cases hb)⟩
   | cas _ h _ _=>exact ⟨(fun b hb=>by cases hb),fun a ha=>(h a ha).2.2⟩
  have hcs:=zkw hs
  refine hU (af:=zbu) (n:=c.size + 1) (σ':=σ0) (iT SPm 1) rfl rfl (by simp [eB,eT,jH,fQ]) (jH _) ?_
  have hin:=zbrb (S:=SPm) rfl so c.s (by omega) 0 σ0
  have hbi:=zp3 (S:=SPm) rfl c (by omega) 0 σ0
  have hbo:=zdp (S:=SPm) rfl so (c.bs.map Prod.fst) (by simp; omega) 0 σ0
  have e1:c.bs.map Prod.fst=nms c:=rfl
  rw [e1] at hbi hbo
  have hl0:=iL (body:=exec (T SPm 1) (c.size + 1) none zbv) (Eqk c so) (fun _=>σ0) c.ks.length (r:=_) (fun _ _ h=>by cases h) (fun i hi=>zdub c so i hi (by omega) (by
   have h1:=vG c.ks _ (aX hi)
   exact xJ (S:=SPm) rfl _ _ (ih _ (by omega) c.ks[i] _ rfl (hpart _ (by simp only [iM,bJ]; exact .inl (.inr (aX hi)))) (by simp [nms]; omega)) 0 σ0)) (zf9b c so) 0 (c.size + 1) (by omega) (by omega)
  have hl1:=iL (body:=exec (T SPm 1) (c.size + 1) none zbw) (Eqb c so ⟨ow c.ks.length,dCs (c.ks.map (prC (so ++ nms c)))⟩) (fun _=>σ0) c.bs.length (r:=_) (fun _ _ h=>by cases h) (fun i hi=>zdtb c so _ i hi (by omega) (by have:=hvs.1 _ (aX hi); omega) (by
   have h1:=Xt c.bs _ (aX hi)
   exact xJ (S:=SPm) rfl _ _ (ih _ (by omega) c.bs[i].2 _ rfl (hpart _ (by simp only [iM,bJ,bF]; exact .inl (.inl ⟨_,aX hi,rfl⟩))) (by simp [nms]; omega)) 0 σ0)) (zf8b c so _) 0 (c.size + 1) (by omega) (by omega)
  have hl2:=iL (body:=exec (T SPm 1) (c.size + 1) none zby) (Eqa c so ⟨ow c.ks.length,dCs (c.ks.map (prC (so ++ nms c)))⟩ ⟨ow c.bs.length,dBl (c.bs.map (nO (so ++ nms c)))⟩) (fun _=>σ0) c.al.length (r:=_) (fun _ _ h=>by cases h) (fun i hi=>zdsb c so _ _ i hi (by omega) (by omega) (fun s hs=>by have:=hvs.2 _ (aX hi) s hs; omega) (by
   have h1:=lU c.al _ (aX hi)
   exact zdp (S:=SPm) rfl _ _ (by omega) 0 σ0) (by
   have h1:=lU c.al _ (aX hi)
   exact xJ (S:=SPm) rfl _ _ (ih _ (by omega) c.al[i].2 _ rfl (hpart _ (by simp only [iM,bJ,bF]; exact .inr ⟨_,aX hi,rfl⟩)) (by simp; omega)) 0 σ0)) (zf7b c so _ _) 0 (c.size + 1) (by omega) (by omega)
  have n1:dBl []=.nils:=rfl
  have n2:dCs []=.nils:=rfl
  have n3:dAl []=.nils:=rfl
  have h39:(c.s.length + (0 + 1)≤281474976710656):=by omega
  have hq:so.any (· == c.s)=fO so c.s:=rfl
  rw [hq] at hin
  simp only [Eqk,bC,bQ,z10,eR,List.take_zero,aZ,n2,oJ,aV] at hl0
  simp only [Eqb,bC,bQ,z10,eR,List.take_zero,aZ,n1,oJ,aV] at hl1
  simp only [Eqa,bC,bQ,z10,eR,List.take_zero,aZ,n3,oJ,aV] at hl2
  simp only [fC,iC] at hbi
  rw [fX]
  cases h1:(c.f == 1) with
  | false =>
   have er:rn so c.f c.s=c.s:=by simp [rn,h1,ifB]
   rw [er] at hl0 hl1 hl2 ⊢
   simp only [zbu,sA,seval,kn,fC,iC,co,nV,okl,mE,hin,h1,hbi,hbo,hl0,hl1,hl2]
  | true =>
   cases h2:fO so c.s with
   | false =>
    have er:rn so c.f c.s=c.s:=by simp [rn,h1,h2,ifB]
    rw [er] at hl0 hl1 hl2 ⊢
    rw [h2] at hin
    simp only [zbu,sA,seval,kn,fC,iC,co,nV,okl,mE,hin,h1,hbi,hbo,hl0,hl1,hl2]
   | true =>
    have er:rn so c.f c.s=c.s ++ [39]:=by simp [rn,h1,h2,ifB,rho]
    rw [er] at hl0 hl1 hl2 ⊢
    rw [h2] at hin
    simp only [zbu,sA,seval,kn,fC,iC,co,nV,okl,mE,hin,h1,h39,hbi,hbo,hl0,hl1,hl2]
end Go.Fu
namespace Go.Fu
open Go Go.Mx
set_option maxRecDepth 10000
set_option maxHeartbeats 4000000
section
variable {C:dQ} {n:Nat} {σ:Store}
def bS (s:Tx) (ps:Cell) (c:Co):List Cell:=[⟨false,.str s⟩,ps,⟨false,.int .i64 c.f⟩,⟨false,.int .i64 c.n⟩,⟨false,.str c.s⟩,⟨false,.int .i64 0⟩,⟨false,.int .i64 0⟩,⟨false,.str []⟩,⟨false,.nils⟩,⟨false,dCs c.ks⟩,⟨false,dBl c.bs⟩,⟨false,dAl c.al⟩]
def Epp (us acc:List Su) (o:Bool) (i:Nat) (c:Co) (u:Su) (j:Nat):Env:={slots:=[(0,⟨false,dUs us⟩),(3,⟨o,dUs acc⟩),(4,⟨false,.int .i64 i⟩),(6,⟨false,.int .i64 j⟩)],locs:=[(5,5,0)],boxes:=[(5,bS u.name ⟨ow j,dSs ((u.ps.take j).map rho)⟩ c)],defers:=[]}
theorem zdpb (us acc:List Su) (o:Bool) (i:Nat) (hi:i < us.length) (c:Co) (j:Nat) (hj:j < us[i].ps.length) (hl:us[i].ps.length < 100000000) (hnm:us[i].ps[j].length < 1000):exec C n none zbl (Epp us acc o i c us[i] j) σ=some (.normal,Epp us acc o i c us[i] (j + 1),σ):=by
 have hx:=Je us i hi
 have h39:(us[i].ps[j].length + (0 + 1)≤281474976710656):=by omega
 have ha:=zic ((us[i].ps.take j).map rho) [rho us[i].ps[j]] (ow j) (fun h=>Hh fun e=>h (by rw [e]; rfl)) (by rw [aJ,bI,cC]; omega)
 rw [Epp,Epp,← hZ us[i].ps j hj,aU,aO,aZ]
 generalize us[i]=u at *
 have hlt:((j:Int) < (u.ps.length:Int)):=by omega
 have hy:=rW u.ps j hj
 generalize (u.ps.take j).map rho=l at *
 simp only [rho,aO,aZ] at ha ⊢
 generalize u.ps[j]=s at *
 have hp:=zry u
 rw [Ru] at hx
 simp only [cU,iC] at hx hp
 simp only [zbl,bS,sA,seval,kn,eI,jK,mO,hlt,fL,hx,hp,hy,nV,okl,mE,h39,ha,dV (i:=j) (by omega),kK]
theorem zf2b (us acc:List Su) (o:Bool) (i:Nat) (hi:i < us.length) (c:Co):exec C n none zbl (Epp us acc o i c us[i] us[i].ps.length) σ=some (.exit 2,{Epp us acc o i c us[i] us[i].ps.length with slots:=[(0,⟨false,dUs us⟩),(3,⟨o,dUs acc⟩),(4,⟨false,.int .i64 i⟩),(6,⟨false,.int .i64 us[i].ps.length⟩),(37,⟨false,.bool false⟩)]},σ):=by
 have hx:=Je us i hi
 generalize us[i]=u at *
 have hlt:¬ ((u.ps.length:Int) < (u.ps.length:Int)):=by omega
 have hp:=zry u
 rw [Ru] at hx
 simp only [cU,iC] at hx hp
 simp only [zbl,Epp,bS,sA,seval,kn,eI,jK,mO,hlt,fL,hx,hp,nV]
def EpP (us acc:List Su) (o:Bool) (i:Nat):Env:={slots:=[(0,⟨false,dUs us⟩),(3,⟨o,dUs acc⟩),(4,⟨false,.int .i64 i⟩)],locs:=[],boxes:=[],defers:=[]}
theorem zdob (us acc:List Su) (i:Nat) (ho:acc≠[]→ow i=true) (hi:i < us.length) (hu:us.length < 1000) (hl:acc.length < 1000) (hps:us[i].ps.length < n) (hpn:n < 100000000) (hnm:∀ s∈us[i].ps,s.length < 1000)
  (hc:C sU [dCo us[i].body,dSs us[i].ps] σ=some (.ret ⟨false,dCo (prC us[i].ps us[i].body)⟩,σ)):exec C n none zbm (EpP us acc (ow i) i) σ=some (.normal,EpP us (acc ++ [prU us[i]]) (ow (i + 1)) (i + 1),σ):=by
 have hlt:((i:Int) < (us.length:Int)):=by omega
 have w:=dV (i:=i) (by omega)
 have hx:=Je us i hi
 have ha:=zatb acc (prU us[i]) (ow i) ho (by omega)
 have hv:=iL (body:=exec C n none zbl) (fun j=>Epp us acc (ow i) i (prC us[i].ps us[i].body) us[i] j) (fun _=>σ) us[i].ps.length (r:=_) (fun _ _ h=>by cases h) (fun j hj=>zdpb us acc (ow i) i hi _ j hj (by omega) (hnm _ (aX hj))) (zf2b us acc (ow i) i hi _) 0 n (by omega) (by omega)
 simp only [prU] at ha ⊢
 generalize us[i]=u at *
 generalize prC u.ps u.body=y at *
 have e0:dSs []=.nils:=rfl
 simp only [Epp,bS,eR,List.take_zero,aZ,e0,oJ,aV] at hv
 have hp:=zry u
 rw [Ru] at hx
 simp only [Ru,cU,iC] at ha
 simp only [cU,fC,iC] at hc hx hp
 simp only [zbm,EpP,bS,sA,seval,kn,eI,jK,zQ,hlt,fL,hx,hp,hv,nV,okl,mE,hc,jW,ha,w,kK]
theorem zf1b (us acc:List Su) (o:Bool):exec C n none zbm (EpP us acc o us.length) σ=some (.exit 0,{EpP us acc o us.length with slots:=[(0,⟨false,dUs us⟩),(3,⟨o,dUs acc⟩),(4,⟨false,.int .i64 us.length⟩),(10,⟨false,.bool false⟩)]},σ):=by
 have hlt:¬ ((us.length:Int) < (us.length:Int)):=by omega
 simp only [zbm,EpP,sA,seval,kn,zQ,hlt]
end
theorem zle {B:Nat} (hB:B < 1000) (us:List Su) (hu:us.length < 1000) (h:∀ u∈us,Shp B u.body∧u.ps.length + u.body.size < 1000000∧∀ s∈u.ps,s.length < 1000):OkP zhq [dUs us] ⟨false,dUs (us.map prU)⟩:=by
 refine OkP.weak (o:=ow us.length) rfl (hU (af:=zgl) (n:=1000001) (σ':=σ0) (iT [(sU,vE)] 1) rfl rfl (by simp [eB,qN]) (qN _) ?_)
 have hrun:=iL (body:=exec (T [(sU,vE)] 1) 1000001 none zbm) (fun i=>EpP us ((us.take i).map prU) (ow i) i) (fun _=>σ0) us.length (r:=_) (fun _ _ h=>by cases h) (fun i hi=>by
  obtain ⟨h1,h2,h3⟩:=h _ (aX hi)
  have:=zdob (C:=T [(sU,vE)] 1) (n:=1000001) (σ:=σ0) us ((us.take i).map prU) i (fun hne=>Hh fun e=>hne (by rw [e]; rfl)) hi hu (by rw [aJ,bI]; omega) (by omega) (by omega) h3 (xJ (S:=[(sU,vE)]) rfl _ _ (zms hB _ us[i].body us[i].ps rfl h1 (by omega)) 0 σ0)
  rw [← hZ us i hi,aU]
  exact this) (zf1b us _ _) 0 1000001 (by omega) (by omega)
 have e1:dUs []=.nils:=rfl
 rw [aV] at hrun
 simp only [EpP,eR,List.take_zero,aZ,e1,oJ] at hrun
 simp only [zgl,sA,seval,kn,nV,okl,mE,hrun]
end Go.Fu
namespace Go.Fu
open Go Go.Mx
set_option maxRecDepth 10000
set_option maxHeartbeats 4000000
section
variable {C:dQ} {n:Nat} {σ:Store}
theorem ze0b {op:BinOp} {ks:List Nat} {x y:AOpd} {e:Env}:dO (.eqA op ks x y) e σ=dG (opd e x) fun a=>dG (opd e y) fun b=>dG a.d.agg? fun aas=>dG b.d.agg? fun bs=>ifB (qD ks aas && qD ks bs) (dG (wN op (Ei aas bs)) fun d=>some (.c ⟨false,d⟩)) none:=rfl
theorem zd1b (i:In):qD [1,0,0,1] [.str i.op,.int .i64 i.n,.int .i64 i.m,.str i.name]=true∧Ei [.str i.op,.int .i64 i.n,.int .i64 i.m,.str i.name] [.str i.op,.int .i64 i.n,.int .i64 i.m,.str i.name]=true:=⟨rfl,by simp [Ei,zh0]⟩
def Nl (cs:List Cd) (i k:Nat):Env:={slots:=[(0,⟨false,dDs cs⟩),(1,⟨false,dDs cs⟩),(5,⟨false,.int .i64 i⟩),(6,⟨false,.int .i64 k⟩)],locs:=[],boxes:=[],defers:=[]}
def Nn (cs:List Cd) (i:Nat):Env:={slots:=[(0,⟨false,dDs cs⟩),(1,⟨false,dDs cs⟩),(5,⟨false,.int .i64 i⟩)],locs:=[],boxes:=[],defers:=[]}
theorem zjh (l:List Cd) (i:Nat) (h:i < l.length):iD 3 (dDs l) i=some (.eptr (.agg [.str l[i].name,.int .i64 l[i].arity,dIs l[i].body])):=mL rfl _ _ _ h
theorem zjl (l:List Cd):lenOf (dDs l)=some l.length:=mM _ l
theorem zfdb (l:List In) (i:Nat) (h:i < l.length):iD 4 (dIs l) i=some (.eptr (.agg [.str l[i].op,.int .i64 l[i].n,.int .i64 l[i].m,.str l[i].name])):=mL rfl _ _ _ h
theorem zjm (l:List In):lenOf (dIs l)=some l.length:=mM _ l
theorem zac (l:List In):(dIs l).one=true:=fM
theorem zhv (l:List In):(dIs l).ok=true:=gZ
theorem Rr (l:List In):(dIs l).cells=[dIs l]:=fG
theorem ziwb (s:Tx) (k:Int) (d:D):Mx.part none [.str s,.int .i64 k,d] 0=some (.str s):=rfl
theorem zixb (s:Tx) (k:Int) (d:D):Mx.part none [.str s,.int .i64 k,d] 1=some (.int .i64 k):=rfl
theorem zrx (s:Tx) (k:Int) (d:D):Mx.part none [.str s,.int .i64 k,d] 2=some d:=rfl
theorem zyy (cs:List Cd) (i k:Nat) (hi:i < cs.length) (hk:k < cs[i].body.length) (hb:cs[i].body.length < 1000000000):exec C n none zbn (Nl cs i k) σ=some (.normal,Nl cs i (k + 1),σ):=by
 have hx:=zjh cs i hi
 generalize cs[i]=c at hx hk hb
 have hlt:((k:Int) < (c.body.length:Int)):=by omega
 have w:=dV (i:=k) (by omega)
 have hy:=zfdb c.body k hk
 have hl:=zjm c.body
 generalize c.body[k]=x at hy
 obtain ⟨s1,s2⟩:=zd1b x
 simp only [zbn,Nl,sA,seval,kn,zac,zhv,Rr,fL,hx,zrx,hl,hlt,hy,ze0b,s1,s2,w]
theorem zd2b (cs:List Cd) (i:Nat) (hi:i < cs.length):exec C n none zbn (Nl cs i cs[i].body.length) σ=some (.exit 2,{Nl cs i cs[i].body.length with slots:=[(0,⟨false,dDs cs⟩),(1,⟨false,dDs cs⟩),(5,⟨false,.int .i64 i⟩),(6,⟨false,.int .i64 cs[i].body.length⟩),(64,⟨false,.bool false⟩)]},σ):=by
 have hx:=zjh cs i hi
 generalize cs[i]=c at hx
 have hlt:¬ ((c.body.length:Int) < (c.body.length:Int)):=by omega
 have hl:=zjm c.body
 simp only [zbn,Nl,sA,seval,kn,zac,zhv,Rr,fL,hx,zrx,hl,hlt]
theorem zyz (cs:List Cd) (i:Nat) (hi:i < cs.length) (hc:cs.length < 100000000) (hb:cs[i].body.length < 100000000) (hn:cs[i].body.length < n):exec C n none zbo (Nn cs i) σ=some (.normal,Nn cs (i + 1),σ):=by
 have hloop:=iL (body:=exec C n none zbn) (fun k=>Nl cs i k) (fun _=>σ) cs[i].body.length (r:=_) (fun _ _ h=>by cases h) (fun k hk=>zyy cs i k hi hk (by omega)) (zd2b cs i hi) 0 n (by omega) (by omega)
 have hlt:((i:Int) < (cs.length:Int)):=by omega
 have w:=dV (i:=i) (by omega)
 have hx:=zjh cs i hi
 have hlc:=zjl cs
 generalize cs[i]=c at hx hloop
 have hl:=zjm c.body
 have b1:(!(c.name == c.name))=false:=by simp
 have b2:(c.arity != c.arity)=false:=by simp
 have b3:((c.body.length:Int) != (c.body.length:Int))=false:=by simp
 simp only [Nl,eR] at hloop
 simp only [zbo,Nn,sA,seval,kn,zac,zhv,Rr,fL,hlc,hlt,hx,ziwb,zixb,zrx,hl,b1,b2,b3,hloop,w]
theorem zd3b (cs:List Cd):exec C n none zbo (Nn cs cs.length) σ=some (.exit 0,{Nn cs cs.length with slots:=[(0,⟨false,dDs cs⟩),(1,⟨false,dDs cs⟩),(5,⟨false,.int .i64 cs.length⟩),(15,⟨false,.bool false⟩)]},σ):=by
 have hlt:¬ ((cs.length:Int) < (cs.length:Int)):=by omega
 have hlc:=zjl cs
 simp only [zbo,Nn,sA,seval,kn,zac,zhv,Rr,hlc,hlt]
end
theorem ztb (cs:List Cd) (hc:cs.length < 100000000) (hb:∀ c∈cs,c.body.length < 100000000):OkP Tc [dDs cs,dDs cs] ⟨false,.bool true⟩:=by
 refine hU (af:=zgm) (n:=100000001) (σ':=σ0) (iT [] 1) rfl rfl (by simp [eB,zd7]) rfl ?_
 have hloop:=iL (body:=exec (T [] 1) 100000001 none zbo) (fun i=>Nn cs i) (fun _=>σ0) cs.length (r:=_) (fun _ _ h=>by cases h) (fun i hi=>zyz cs i hi hc (hb _ (aX hi)) (by have:=hb _ (aX hi); omega)) (zd3b cs) 0 100000001 (by omega) (by omega)
 have hlc:=zjl cs
 have b3:((cs.length:Int) != (cs.length:Int))=false:=by simp
 simp only [Nn,eR] at hloop
 simp only [zgm,sA,seval,kn,hlc,b3,hloop]
end Go.Fu
namespace Go.Fu
open Go Go.Mx
set_option maxRecDepth 10000
def spMa (us:List Su) (d:D):List D→Cell→Prop:=fun ds c=>ds=[d]→c=⟨false,dUs us⟩
def zy3:List D→Cell→Prop:=fun ds c=>∀ us,ds=[dFs FL,dUs us]→c=⟨false,.tup [dDs (pC us),.int .i64 0]⟩
def zy4:List D→Cell→Prop:=fun ds c=>∀ cs,ds=[dDs cs,dDs cs]→c=⟨false,.bool true⟩
def spLv:List D→Cell→Prop:=fun _ c=>c=⟨false,.bool true⟩
theorem zn1 {S:eD} (hS:dE S Fe=some zy3) {vs:List Su} (h:CompOK vs) (n:Nat) (σ:Store):T S (n + 1) Fe [dFs FL,dUs vs] σ=some (.ret ⟨false,.tup [dDs (pC vs),.int .i64 0]⟩,σ):=by
 obtain ⟨c,h1,h2⟩:=mX (S:=S) (f:=Fe) (s:=zy3) hS rfl (fun ws e=>by
  simp only [aL,and_true,true_and] at e
  rw [zcd e]) (zev h)
 rw [h2 n,h1 vs rfl]
theorem zbqb {S:eD} (hS:dE S Tc=some zy4) (cs:List Cd) (h1:cs.length < 100000000) (h2:∀ c∈cs,c.body.length < 100000000) (n:Nat) (σ:Store):T S (n + 1) Tc [dDs cs,dDs cs] σ=some (.ret ⟨false,.bool true⟩,σ):=by
 obtain ⟨c,h1,h2⟩:=mX (S:=S) (f:=Tc) (s:=zy4) hS rfl (fun _ _=>rfl) (ztb cs h1 h2)
 rw [h2 n,h1 cs rfl]
end Go.Fu
namespace Go.Fu
open Go Go.Mx
set_option maxRecDepth 10000
set_option maxHeartbeats 4000000
def spPr:List D→Cell→Prop:=fun ds c=>∀ us,ds=[dUs us]→c=⟨false,dUs (us.map prU)⟩
def Ns (us:List Su) (d:D):eD:=[(wU,vD),(zhp,spMa us d),(Fe,zy3),(zhq,spPr),(Tc,zy4),(Zm,spLv)]
theorem zux (d:D) (xs:List Int) (hR:zh7 pH d xs) (hS:∀ x∈xs,Small x):∃ S:eD,∃ σ',T S 9001 zibb [d] σ0=some (.ret ⟨false,.bool true⟩,σ'):=by
 obtain ⟨us,hM,hok,m,hm,hn,hpl⟩:=zc4b hR hS
 have hc1:=zbyb hok
 have hc2:=zt3 hok
 have hlen:=zw8 hc1
 have hbody:=fun c hc=>(zbxb hc1 c hc).2
 have hpu:=zx2 hok hn hpl
 refine ⟨Ns us d,σ0,?_⟩
 have k1:=Ez (S:=Ns us d) rfl 8999 σ0
 obtain ⟨_,q1,k2⟩:=mX (S:=Ns us d) (f:=zhp) (s:=spMa us d) rfl rfl (fun _=>rfl) hM
 cases q1 rfl
 have k2:=k2 8999 σ0
 have k3:=zn1 (S:=Ns us d) rfl hc1 8999 σ0
 have k4:=zn1 (S:=Ns us d) rfl hc2 8999 σ0
 rw [zbzb us hpu] at k4
 have h4:=hok.2.1
 obtain ⟨_,q1,k5⟩:=mX (S:=Ns us d) (f:=zhq) (s:=spPr) rfl rfl (fun vs e=>by
  simp only [aL,and_true] at e
  rw [zcd e]) (zle (B:=5) (by omega) us (by omega) fun u hu=>by
   obtain ⟨⟨h1,h2,h3,h4⟩,h5⟩:=hok.2.2 u hu
   refine ⟨h1,by omega,fun s hs=>?_⟩
   have:=(Nv.len ((hpl u hu).2 s hs))
   omega)
 rw [q1 us rfl] at k5
 have k5:=k5 8999 σ0
 have k6:=zbqb (S:=Ns us d) rfl (pC us) (by omega) (fun c hc=>by have:=hbody c hc; omega) 8999 σ0
 obtain ⟨_,q1,k7⟩:=mX (S:=Ns us d) (f:=Zm) (s:=spLv) rfl rfl rfl zx1
 cases q1
 have k7:=k7 8999 σ0
 rw [zg3b (af:=zgi) rfl rfl rfl]
 simp only [zgi,sA,seval,kn,k1,k2,k3,k4,k5,k6,k7]
end Go.Fu

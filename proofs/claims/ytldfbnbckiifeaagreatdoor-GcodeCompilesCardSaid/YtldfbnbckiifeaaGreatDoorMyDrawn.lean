/- A part of the proof. -/
import Derived.Test.YtldfbnbckiifeaaGreatDoorMyOpers
import Derived.Conc.MuLone
import Derived.RangeFuncLeaves
import Derived.OrdersIn
import Derived.TacticsIn
set_option linter.all false
namespace Go.Mx
open Go
def shared(own:gZ):gZ:=fun b=>match own b with
 |some t=>if t.isLocal=true then none else some t
 |none=>none
theorem WV{own:gZ}{b:Nat}{t:Tag}(h:shared own b=some t):own b=some t/\t.isLocal=false:=by
 unfold shared at h;cases ho:own b with
 |none=>rw[ho]at h;cases h
 |some u =>
  rw[ho]at h;simp only at h;by_cases hu:u.isLocal=true
  ·rw[if_pos hu]at h;cases h
  ·rw[if_neg hu]at h;cases h;exact⟨rfl,by simpa using hu⟩
theorem YQ{own:gZ}{b:Nat}{t:Tag}(h:own b=some t)(ht:t.isLocal=false):shared own b=some t:=by unfold shared;rw[h];simp[ht]
def zA(own:gZ):Prop:=∀b t,own b=some t->t.isLocal=false
theorem Vh(own:gZ):zA (shared own):=fun _ _ h=>(WV h).2
def zhnb(I:fU)(iK:gZ)(w0:World)(own:gZ)(w:World)(sz:RowK)(es:List D)(v:Value):Prop :=
 (∃a,v=.slice a es.length es.length/\(sz.el=5->es=[]))\/∃b cap cur T,v=.slice (some ⟨b,0,none⟩) es.length cap/\(w0.heap.size<=b\/(iK b).isSome=true)/\own b=none /\
   w.heap[b]?=some (.cells cur T (0,0))/\(T=sz.el/\cur.size=cap*sz.sz)/\∀o,es.length*sz.sz<=o->I b o=none
def FE(I:fU)(iK:gZ)(w0:World)(own:gZ)(w:World)(d:D)(v:Value):Prop:=match yJ d v with
 |some p=>zhnb I iK w0 own w p.1 p.2.1 p.2.2
 |none=>True
def pZ[kQ](I:fU)(j:fJ)(own:gZ)(w:World)(out:Out)(O':Store)(e:Ending)(w':World):Prop :=
 ∃I' j' own',eH I' j' own' O' w'/\fD I j own w I' j' own' w' (fun _=>True)/\zA own'/\match out,e with
  |.ret c,.returned v=>dL I' j' c.d v/\(c.own=true->FE I' own w own' w' c.d v)
  |.panic d,.panicked chain=>∃v,chain=[{v:=v,recovered:=false}]/\dL I' j' d v
  |_,_=>False
structure Ctx where
 n:Nat
 K:World->Prop
 stable:∀w w',(∀b,b<n->w'.heap[b]?=w.heap[b]?)->K w->K w'
structure Base(κ:Ctx)(own:gZ)(w:World):Prop where
 size:κ.n<=w.heap.size
 free:∀b,b<κ.n->own b=none
 K:κ.K w
theorem Base.kN{κ:Ctx}{I I':fU}{j j':fJ}{own own':gZ}{w w':World}{TT:Tag->Prop}(h:Base κ own w)(hE:fD I j own w I' j' own' w' TT):Base κ own' w' where
 size:=Nat.le_trans h.size hE.size
 free:=fun b hb=>by
  have hn:=h.free b hb;rw[(hE.block b (aP hb h.size) (fun t k=>by rw[hn]at k;cases k)).2.1,hn]
 K:=κ.stable w w' (fun b hb=>(hE.block b (aP hb h.size) (fun t k=>by rw[h.free b hb]at k;cases k)).1) h.K
theorem Base.shared{κ:Ctx}{own:gZ}{w:World}(h:Base κ own w):Base κ (shared own) w where
 size:=h.size
 free:=fun b hb=>by
  unfold Go.Mx.shared;rw[h.free b hb]
 K:=h.K
def D6 (P:Program) (f:FuncId):Prop:=∃fn c,P.funcs[f]?=some fn/\(fn.name == "runtime.NumGoroutine")=false/\fn.body=some c
def FW(r:Option Nat):Fence:=match r with
 |none=>Fence.wide
 |some l=>Fence.wide.inRound l
theorem zdz(r:Option Nat):(FW r).round=r:=by cases r<;>rfl
theorem H9(r:Option Nat)(f:FuncId):(FW r).fn f:=by cases r<;>exact trivial
theorem YT(r:Option Nat):(FW r).depth.isSome=true->∀{p:Prop},p:=fun h=>by cases r<;>cases h
theorem zbr{r:Option Nat}{n:Nat}{P:Program}{f:FuncId}{args:Array Value}{w:World}{R:Ending->World->Prop}:CallsIn (FW r) n P f args w R↔Calls P f args w R:=by
 cases r with
 |none=>exact callsIn_wide
 |some l=>exact(callsIn_wide:CallsIn Fence.wide n P f args w R↔_)
theorem zwd{r:Option Nat}{n:Nat}{P:Program}{l:Nat}{f:FuncId}{tmps:Array Value}{assign body:Code}{w:World}{R:Ending->World->Prop}(h:RoundIn Fence.wide 0 P l f tmps assign body w R):RoundIn (FW r) n P l f tmps assign body w R:=by
 cases r with
 |none=>exact⟨trivial,fun c cs _=>h.2 c cs (room_wide _)⟩
 |some _=>exact⟨trivial,fun c cs _=>h.2 c cs (room_wide _)⟩
def uL[kQ](P:Program)(κ:Ctx)(f:FuncId)(ds:List D)(O:Store)(out:Out)(O':Store):Prop :=
 if jK f=true then∀I j own w vs b,zA own->Base κ own w->eH I j own O w->dV I j ds vs->j (f-oV)=some b ->
  ∃fn tmps assign body,(Instr.yield b ⟨vs⟩).run P w=.ok (.round b fn tmps assign body) w/\RoundIn Fence.wide 0 P b fn tmps assign body w (pZ I j own w out O')
 else D6 P f/\∀I j own w vs,zA own->Base κ own w->eH I j own O w->dV I j ds vs->Calls P f ⟨vs⟩ w (pZ I j own w out O')
theorem wY[kQ]{P:Program}{κ:Ctx}{f:FuncId}{ds:List D}{O:Store}{out:Out}{O':Store}(hY:jK f=false) :
  uL P κ f ds O out O'↔D6 P f/\∀I j own w vs,zA own->Base κ own w->eH I j own O w->dV I j ds vs->Calls P f ⟨vs⟩ w (pZ I j own w out O'):=by
 unfold uL;rw[if_neg (by rw[hY];simp)]
theorem zgq(id:Nat):jK (oV+id)=true:=by unfold jK;simp
def zdrb[kQ](P:Program)(κ:Ctx)(f:FuncId)(ds:List D)(O:Store)(out:Out)(O':Store):Prop :=
 D6 P f/\∀I j own w vs u,zA own->Base κ own w->eH I j own O w->dV I j ds vs->CallsD P f ⟨vs⟩ u w fun e u' w'=>u'=u/\pZ I j own w out O' e w'
section
variable[kQ]{P:Program}{I I':fU}{j j':fJ}{own own':gZ}{lb:fJ}{N:Nat}{e:Env}{a:Go.Act}{w w':World}{O O':Store}
theorem mD.TW{t:Tag}{d:D}{v:Value}(h:∀b,own b=some t->own' b=some t)(k:mD I own w t d v):mD I own' w t d v:=by
 unfold mD at k ⊢;cases hp:yJ d v with
 |none=>trivial
 |some p =>
  rw[hp]at k;rcases k with k|⟨b,cap,cur,T,h1,h2,h3⟩
  ·exact .inl k
  ·exact .inr ⟨b,cap,cur,T,h1,h b h2,h3⟩
theorem sJ.TW{b:Nat}{mk:Nat->Tag}{cs:List Cell}(h:∀i b,own b=some (mk i)->own' b=some (mk i))(k:sJ I j own w b mk cs):sJ I j own' w b mk cs:=by obtain⟨vs,T,h1,h2,h3⟩:=k;refine⟨vs,T,h1,h2,fun i c hi=>?_⟩;obtain⟨v,q1,q2,q3,q4⟩:=h3 i c hi;exact⟨v,q1,q2,q3,fun ho=>(q4 ho).TW (h i)⟩
theorem eH.Pg(hG:eH I j own O w):eH I j (shared own) O w where
 holds:=hG.holds
 kS:=fun b t h=>hG.kS b t (WV h).1
 dE:=fun id cs h=>by
  obtain⟨b,q1,q2,q3⟩:=hG.dE id cs h;exact⟨b,q1,YQ q2 rfl,q3.TW fun i b h=>YQ h rfl⟩
 fH:=hG.fH
 dP:=fun id x h=>by
  obtain⟨b,q1,q2,q3⟩:=hG.dP id x h;exact⟨b,q1,YQ q2 rfl,q3⟩
 mG:=hG.mG
 jU:=fun b t h=>hG.jU b t (WV h).1
theorem Jn{jQ:gZ}(hG:eH I j own O w)(hL:eI I j own lb N e a w)(hG1:eH I' j' jQ O' w')(hE:fD I j (shared own) w I' j' jQ w' (fun _=>True))(hS:zA jQ)(s:Nat)(mark:Bool)(d:D)(v:Value)
  (hF:mark=true->FE I' (shared own) w jQ w' d v) :
  ∃iL,eH I' j' iL O' w'/\eI I' j' iL lb N e a w'/\fD I j own w I' j' iL w' (fun _=>True)/\(mark=true->mD I' iL w' (.slot s) d v):=by
 classical
 obtain⟨mb,hmb⟩:∃mb:Option Nat,(∀b,mb=some b->(w.heap.size<=b\/(shared own b).isSome=true)/\jQ b=none/\b<w'.heap.size) /\
   (mark=true->∀p,yJ d v=some p->(∃a,p.2.2=.slice a p.2.1.length p.2.1.length/\(p.1.el=5->p.2.1=[]))\/∃b cap cur T,p.2.2=.slice (some ⟨b,0,none⟩) p.2.1.length cap/\mb=some b/\w'.heap[b]?=some (.cells cur T (0,0))/\(T=p.1.el/\cur.size=cap*p.1.sz)/\∀o,p.2.1.length*p.1.sz<=o->I' b o=none):=by
  cases mark with
  |false=>exact⟨none,(fun _ h=>by cases h),(fun h=>by cases h)⟩
  |true =>
   have hF:=hF rfl;unfold FE at hF;cases hp:yJ d v with
   |none=>exact⟨none,(fun _ h=>by cases h),(fun _ p h=>by cases h)⟩
   |some p =>
    rw[hp]at hF;rcases hF with hF|⟨b,cap,cur,T,f1,f2,f3,f4,f5,f6⟩
    ·exact⟨none,(fun _ h=>by cases h),(fun _ q h=>by cases h;exact .inl hF)⟩
    ·exact⟨some b,(fun b' h=>by cases h;exact⟨f2,f3,(Array.getElem?_eq_some_iff.1 f4).1⟩),(fun _ q h=>by cases h;exact .inr ⟨b,cap,cur,T,f1,rfl,f4,f5,f6⟩)⟩
 obtain⟨hm1,hm2⟩:=hmb
 let loc:Nat->Prop:=fun b=>∃t,own b=some t/\t.isLocal=true
 let iL:gZ:=fun b=>if loc b then own b else if mb=some b then some (.slot s)else jQ b
 have hloc:∀b,loc b->jQ b=none/\w'.heap[b]?=w.heap[b]?/\(∀o,I' b o=I b o)/\b<w.heap.size/\shared own b=none:=by
  rintro b ⟨t,ht,htl⟩;have hlt:=hG.jU b t ht;have hsn:shared own b=none:=by
   unfold shared;rw[ht];simp[htl]
  obtain⟨k1,k2,k3⟩:=hE.block b hlt (fun t h=>by rw[hsn]at h;cases h);exact⟨k2.trans hsn,k1,k3,hlt,hsn⟩
 have hnm:∀b,loc b->mb≠some b:=by
  intro b hb h;obtain⟨k1,_,_⟩:=hm1 b h;obtain⟨_,_,_,q1,q2⟩:=hloc b hb;rcases k1 with k1|k1
  ·omega
  ·rw[q2]at k1;cases k1
 have hsh:∀b t,jQ b=some t->iL b=some t:=by
  intro b t h;by_cases hb:loc b
  ·rw[(hloc b hb).1]at h;cases h
  ·have hne:mb≠some b:=fun hm=>by rw[(hm1 b hm).2.1]at h;cases h
   simp only[iL,if_neg hb,if_neg hne];exact h
 have hE2:fD I j own w I' j' iL w' (fun t=>t.isLocal=false):=by
  refine⟨hE.os,hE.tape,hE.output,hE.size,hE.qY,hE.lay,fun b hb ht=>?_⟩;have hsn:shared own b=none:=by
   unfold shared;cases ho:own b with
   |none=>rfl
   |some t =>
    have:t.isLocal=true:=by simpa using ht t ho
    simp[this]
  obtain⟨k1,k2,k3⟩:=hE.block b hb (fun t h=>by rw[hsn]at h;cases h);refine⟨k1,?_,k3⟩;by_cases hl:loc b
  ·simp only[iL,if_pos hl]
  ·have hn:own b=none:=by
    cases ho:own b with
    |none=>rfl
    |some t=>exact absurd ⟨t,ho,by simpa using ht t ho⟩ hl
   have hne:mb≠some b:=fun hm=>by
    rcases(hm1 b hm).1 with q|q
    ·omega
    ·rw[hsn]at q;cases q
   simp only[iL,if_neg hl,if_neg hne,hn];exact k2.trans hsn
 have hG2:eH I' j' iL O' w':=by
  refine⟨hG1.holds,fun b t h hu o=>?_,fun id cs h=>?_,hG1.fH,fun id x h=>?_,hG1.mG,fun b t h=>?_⟩
  ·by_cases hb:loc b
   ·simp only[iL,if_pos hb]at h;rw[(hloc b hb).2.2.1 o];exact hG.kS b t h hu o
   ·by_cases hm:mb=some b
    ·simp only[iL,if_neg hb,if_pos hm,aA]at h;subst h;cases hu
    ·simp only[iL,if_neg hb,if_neg hm]at h;exact hG1.kS b t h hu o
  ·obtain⟨b,q1,q2,q3⟩:=hG1.dE id cs h;exact⟨b,q1,hsh b _ q2,q3.TW fun i b h=>hsh b _ h⟩
  ·obtain⟨b,q1,q2,q3⟩:=hG1.dP id x h;exact⟨b,q1,hsh b _ q2,q3⟩
  ·by_cases hb:loc b
   ·exact aP (hloc b hb).2.2.2.1 hE.size
   ·by_cases hm:mb=some b
    ·exact(hm1 b hm).2.2
    ·simp only[iL,if_neg hb,if_neg hm]at h;exact hG1.jU b t h
 refine⟨iL,hG2,hL.kN hE2 (fun _ _ _ _ h=>by cases h) (fun _ _ _=>⟨(fun h=>by cases h),(fun _ _ _ _ h=>by cases h)⟩),hE2.weaken fun _ _=>trivial,fun hmk=>?_⟩;have:=hm2 hmk;unfold mD;cases hp:yJ d v with
 |none=>trivial
 |some p =>
  rcases this p hp with this|⟨b,cap,cur,T,f1,f2,f3,f4,f5⟩
  ·exact .inl this
  ·have hnl:¬loc b:=fun h=>hnm b h f2;refine .inr ⟨b,cap,cur,T,f1,?_,f3,f4,f5⟩;simp only[iL,if_neg hnl,if_pos f2]
def St(I0:fU)(j0:fJ)(iK:gZ)(w0:World)(N:Nat)(e:Env)(O:Store)(a:Go.Act)(w:World):Prop :=
 ∃I j own lb,eH I j own O w/\eI I j own lb N e a w/\fD I0 j0 iK w0 I j own w (fun _=>True)
theorem eI.bare(hL:eI I j own lb N e a w):eI I j own lb N e.bare a w :=
 hL.sub (fun s c h=>by simp[Env.bare,sU]at h) (fun s p h=>by simp[Env.bare,sU]at h) (fun s cs h=>by simp[Env.bare,sU]at h) rfl
def Jf(I0:fU)(j0:fJ)(iK:gZ)(w0:World)(N:Nat)(d:D)(chain:List PanicEntry)(e:Env)(O:Store)(a:Go.Act)(w:World):Prop :=
 ∃I j own lb,eH I j own O w/\eI I j own lb N e a w/\fD I0 j0 iK w0 I j own w (fun _=>True)/\∃v,chain=[{v:=v,recovered:=false}]/\dL I j d v
variable{I0:fU}{j0:fJ}{iK:gZ}{w0:World}{κ:Ctx}
def rM(P:Program)(κ:Ctx)(C:eV):Prop:=∀f ds O out O',C f ds O=some (out,O')->uL P κ f ds O out O'
def ky(P:Program)(r:Option Nat)(ops:Array Oper)(o:Oper)(Q:Exit->Go.Act->World->Prop)(K:Go.Act->World->Prop)(a:Go.Act)(w:World):Prop :=
 if Region.wanted o (yielded ops a.tmps)then o.wpIn (FW r) 0 P a w K Q else(∀f,o.about P w a.eval=some f->(FW r).fn f)/\K (a.put o.dst undef) w
def zaeb(I0:fU)(j0:fJ)(iK:gZ)(w0:World)(N:Nat)(C:eV)(o':iC)(e:Env)(O:Store)(Q:Exit->Go.Act->World->Prop)(K:Go.Act->World->Prop):Step->Prop
 |.next e' O'=>∀a' w',St I0 j0 iK w0 N e' O' a' w'->K a' w'
 |.call f az=>∃out O',C f az O=some (out,O')/\match out with
  |.ret c=>∀a' w',St I0 j0 iK w0 N (e.put o'.dst c) O' a' w'->K a' w'
  |.panic d=>∀a' w' chain,Jf I0 j0 iK w0 N d chain e O' a' w'->Q (.panic chain) a' w'
 |.panic d=>∀a' w' chain,Jf I0 j0 iK w0 N d chain e O a' w'->Q (.panic chain) a' w'
theorem zcrb{o:Oper}{f:Operand}{az:Array Operand}{ts:Array TypeId}{g:FuncId}{vf vc:List Value}(ho:o.op=.call {callee:=.value f,args:=az,argTypes:=ts})(hb:D6 P g)(hv:a.eval f=.func (.func g) ⟨vf⟩ ⟨vc⟩) :
  (execOp a.eval o).run P w=.ok (.enter g (⟨vf++az.toList.map a.eval++vc⟩)) w:=by
 obtain⟨fn,c,h1,h2,h3⟩:=hb;have harr:(⟨vf⟩:Array Value)++az.map a.eval++⟨vc⟩=⟨vf++az.toList.map a.eval++vc⟩:=by
  apply Array.ext';simp
 simp only[execOp,ho,resolve,hv,Deferred.ofValue,Sem.run_bind,Sem.run_pure,Result.andThen_ok,invoke,harr];exact MuLone.run_callFunc_enter h1 h2 h3 _ w
theorem zgmb{o:Oper}{f:Operand}{az:Array Operand}{ts:Array TypeId}{b:Nat}{n:Next}{w':World}(ho:o.op=.call {callee:=.value f,args:=az,argTypes:=ts})(hv:a.eval f=.func (.yield b) ⟨[]⟩ ⟨[]⟩)(hy:(Instr.yield b ⟨az.toList.map a.eval⟩).run P w=.ok n w') :
  (execOp a.eval o).run P w=.ok n w':=by
 have harr:(⟨[]⟩:Array Value)++az.map a.eval++⟨[]⟩=⟨az.toList.map a.eval⟩:=(by apply Array.ext';simp);have zk6b:(⟨[]⟩:Array Value)++az.map a.eval=⟨az.toList.map a.eval⟩:=(by apply Array.ext';simp);simp only[execOp,ho,resolve,hv,Deferred.ofValue,Sem.run_bind,Sem.run_pure,Result.andThen_ok,invoke,zk6b,hy]
theorem OD{r:Option Nat}{ρ:Operand->Value}{o:Oper}(h:r=none\/∀c,o.op≠.defer c):Oper.semAt (FW r).round ρ o=execOp ρ o:=by
 rw[zdz];cases r with
 |none=>exact Oper.semAt_none ρ o
 |some l=>exact Oper.semAt_some l ρ o (h.resolve_left (by simp))
theorem zj9{r:Option Nat}{C:eV}(hC:rM P κ C)(hB:Base κ iK w0){ops:Array Oper}(hops:∀(i:Nat) (o:Oper) (s:Nat),ops[i]?=some o->o.dst=some s->s<N){o:Oper}{o':iC}(hk:EU P N ops o o'=true)(hdf:r=none\/∀c,o.op≠.defer c)
  (hSt:St I0 j0 iK w0 N e O a w) {st:Step} (h:pC o' e O=some st) {Q:Exit->Go.Act->World->Prop} {K:Go.Act->World->Prop} (hpost:zaeb I0 j0 iK w0 N C o' e O Q K st):ky P r ops o Q K a w:=by
 obtain⟨I,j,own,lb,hG,hL,hE⟩:=hSt;simp only[EU,aC]at hk;obtain⟨⟨hk1,hk2⟩,hk3⟩:=hk;obtain⟨hdst,hd⟩:=zb4b hk1;unfold pC at h;obtain⟨b,hb,h⟩:=dJ h
 have hw:=zq7 hL hk2 (fun i s b' hg hs=>by
  cases ho:ops[i]? with
  |none=>rw[ho]at hs;cases hs
  |some oi=>rw[ho]at hs;exact hops i oi s ho hs) hb
 unfold ky;rw[hw];cases b with
 |false =>
  simp only[dX,aA]at h;subst h;simp only[aE,if_false];refine⟨fun f _=>H9 r f,hpost _ _ ⟨I,j,own,lb,hG,?_,hE⟩⟩;rw[<-hdst];cases hds:o.dst with
  |none=>exact hL
  |some s=>exact hL.qV (hd s hds) ⟨by simp only[dL],fun h=>by cases h⟩
 |true =>
  simp only[dQ]at h;simp only[if_true]
  have after:∀{out:Out}{O':Store}{en:Ending}{w':World},(match out with
    |.ret c=>∀a' w',St I0 j0 iK w0 N (e.put o'.dst c) O' a' w'->K a' w'
    |.panic d=>∀a' w' chain,Jf I0 j0 iK w0 N d chain e O' a' w'->Q (.panic chain) a' w')->pZ I j (shared own) w out O' en w' ->
    (match(motive:=Ending->World->Prop) en,w' with
     |.returned v,w''=>K (a.put o.dst v) w''
     |.panicked chain,w''=>Q (.panic chain) a w''
     |.outgrown,_=>LetsOut Q):=by
   rintro out O' en w' hpost ⟨I',j',jQ,k1,k2,k3,k4⟩;cases out with
   |ret c =>
    cases en with
    |returned v =>
     cases uf:o.dst with
     |none =>obtain⟨iL,q1,q2,q3,_⟩:=Jn hG hL k1 k2 k3 0 false c.d v (fun h=>by cases h);refine hpost _ _ ⟨I',j',iL,lb,q1,?_,hE.trans q3⟩;rw[<-hdst,uf];exact q2
     |some s =>obtain⟨iL,q1,q2,q3,q4⟩:=Jn hG hL k1 k2 k3 s c.own c.d v k4.2;refine hpost _ _ ⟨I',j',iL,lb,q1,?_,hE.trans q3⟩;rw[<-hdst,uf];exact Wp (hd s uf) (q2.forget s) ⟨k4.1,q4⟩
    |panicked chain=>exact k4.elim
    |outgrown=>exact k4.elim
   |panic d =>
    cases en with
    |returned v=>exact k4.elim
    |outgrown=>exact k4.elim
    |panicked chain =>obtain⟨iL,q1,q2,q3,_⟩:=Jn hG hL k1 k2 k3 0 false d .nilFunc (fun h=>by cases h);obtain⟨v,rfl,hv⟩:=k4;exact hpost _ _ _ ⟨I',j',iL,lb,q1,q2,hE.trans q3,v,rfl,hv⟩
  have called:∀{f:Operand}{az:Array Operand}{ts:Array TypeId}{g:FuncId}{vf vc:List Value}{x ds y:List D},jK g=false->o.op=.call {callee:=.value f,args:=az,argTypes:=ts}->a.eval f=.func (.func g) ⟨vf⟩ ⟨vc⟩->dV I j x vf->dV I j ds (az.toList.map a.eval)->dV I j y vc ->
    st=.call g (x++ds++y)->o.wpIn (FW r) 0 P a w K Q:=by
   rintro f az ts g vf vc x ds y hY ho hv hx hds hy rfl;obtain⟨out,O',hout,hpost⟩:=hpost;obtain⟨hbody,hcall⟩:=(wY hY).1 (hC g _ O out O' hout);unfold Oper.wpIn;rw[OD (.inr (fun c h=>by rw[ho]at h;cases h)),zcrb ho hbody hv];refine⟨fun f _=>H9 r f,fun h=>YT r h,zbr.2 ((hcall I j (shared own) w _ (Vh own) (hB.kN hE).shared hG.Pg ((hx.append hds).append hy)).mono ?_)⟩;exact fun en w' hA=>after hpost hA
  have zf0:∀{f:Operand}{az:Array Operand}{ts:Array TypeId}{id b:Nat}{ds:List D},o.op=.call {callee:=.value f,args:=az,argTypes:=ts}->a.eval f=.func (.yield b) ⟨[]⟩ ⟨[]⟩->j id=some b->dV I j ds (az.toList.map a.eval) ->
    st=.call (oV+id) ds->o.wpIn (FW r) 0 P a w K Q:=by
   rintro f az ts id b ds ho hv hj hds rfl;obtain⟨out,O',hout,hpost⟩:=hpost;have hcall:=hC _ _ O out O' hout;unfold uL at hcall;rw[if_pos (zgq id)]at hcall;obtain⟨fn,tmps,assign,body,hy,ziob⟩:=hcall I j (shared own) w _ b (Vh own) (hB.kN hE).shared hG.Pg hds (by rw[Nat.add_sub_cancel_left];exact hj);unfold Oper.wpIn;rw[OD (.inr (fun c h=>by rw[ho]at h;cases h)),zgmb ho hv hy];refine⟨fun f _=>H9 r f,fun h=>YT r h,(zwd ziob).mono ?_⟩;exact fun en w' hA=>after hpost hA
  cases hkind:o'.op.kind with
  |op =>rw[hkind]at h;simp only at h;obtain⟨⟨e',O'⟩,h1,h⟩:=dJ h;cases h;rw[<-hdst]at h1;obtain⟨nx,w',a',hrun,hnx,I',j',own',lb',k1,k2,k3⟩:=zp2 hG hL hk3 hd h1;have:=hpost a' w' ⟨I',j',own',lb',k1,k2,hE.trans k3⟩;unfold Oper.wpIn;rw[OD hdf,hrun];refine⟨fun f _=>H9 r f,?_⟩;rcases hnx with⟨v,rfl,rfl⟩|⟨rfl,rfl⟩|⟨d,rfl,rfl⟩<;>exact this
  |call =>
   rw[hkind]at h;simp only at h;obtain⟨⟨g,az⟩,h1,h⟩:=dJ h;cases h;cases hop:o'.op<;>rw[hop]at hkind h1 hk3<;>simp only[iR.kind,reduceCtorEq]at hkind
   ·simp only[lG]at hk3;split at hk3
    ·rename_i f vz ts ho;simp only[aC]at hk3;simp only[zD]at h1;obtain⟨ds,h2,h1⟩:=dJ h1;cases h1;have hf:=gW hL hk3.1 (c:=⟨false,.fn (.func g) [] []⟩) rfl;simp only[dL,dV]at hf;obtain⟨vf,vc,hv,rfl,rfl⟩:=hf;exact called (by simpa using hk3.2.1) ho hv (x:=[]) (y:=[]) (by simp only[dV]) (Gw hL hk3.2.2 h2) (by simp only[dV]) (by simp)
    ·cases hk3
   ·simp only[lG]at hk3;split at hk3
    ·rename_i f vz ts ho;simp only[aC]at hk3;simp only[zD]at h1;obtain⟨c,h2,h1⟩:=dJ h1;obtain⟨⟨g',x,y⟩,h3,h1⟩:=dJ h1;obtain⟨ds,h4,h1⟩:=dJ h1;cases h1;rcases zjz h3 (gW hL hk3.1 h2)with⟨hY,vf,vc,hv,r1,r2⟩|⟨id,b,_,rfl,rfl,rfl,hj,hv⟩
     ·exact called hY ho hv r1 (Gw hL hk3.2 h4) r2 rfl
     ·exact zf0 ho hv hj (Gw hL hk3.2 h4) (by simp)
    ·cases hk3
   ·simp only[lG]at hk3;split at hk3
    ·rename_i f vz ts ho;simp only[aC]at hk3;simp only[zD]at h1;obtain⟨ds,h2,h1⟩:=dJ h1;cases h1;have hf:=gW hL hk3.1 (c:=⟨false,.fn (.func g) [] []⟩) rfl;simp only[dL,dV]at hf;obtain⟨vf,vc,hv,rfl,rfl⟩:=hf;exact called (by simpa using hk3.2.1) ho hv (x:=[]) (y:=[]) (by simp only[dV]) (Gw hL hk3.2.2 h2) (by simp only[dV]) (by simp)
    ·cases hk3
   ·simp only[lG]at hk3;split at hk3
    ·rename_i f vz ts ho;simp only[aC]at hk3;simp only[zD]at h1;obtain⟨c,h2,h1⟩:=dJ h1;obtain⟨⟨g',x,y⟩,h3,h1⟩:=dJ h1;obtain⟨ds,h4,h1⟩:=dJ h1;cases h1;rcases zjz h3 (gW hL hk3.1 h2)with⟨hY,vf,vc,hv,r1,r2⟩|⟨id,b,_,rfl,rfl,rfl,hj,hv⟩
     ·exact called hY ho hv r1 (Gw hL hk3.2 h4) r2 rfl
     ·exact zf0 ho hv hj (Gw hL hk3.2 h4) (by simp)
    ·cases hk3
  |panic =>
   rw[hkind]at h;simp only at h;obtain⟨d,h1,h⟩:=dJ h;cases h;cases hop:o'.op<;>rw[hop]at hkind h1 hk3<;>simp only[iR.kind,reduceCtorEq]at hkind;simp only[lG]at hk3;split at hk3
   ·rename_i x ho;simp only[Wn]at h1;obtain⟨c,h2,h1⟩:=dJ h1;have hr:=gW hL hk3 h2;cases hd':c.d<;>rw[hd']at h1 hr<;>simp only[reduceCtorEq,aA]at h1;subst h1;obtain⟨u,hu,nU⟩:=(by simpa only[dL]using hr:∃u,a.eval x=.iface _ u/\dL I j _ u);unfold Oper.wpIn;have hrun:(execOp a.eval o).run P w=.halt (.panic (a.eval x)) w:=by
     simp only[execOp,ho,Instr.panic,hu,goPanic,Sem.run_bind];rfl
    rw[OD hdf,hrun];exact⟨fun f _=>H9 r f,hpost a w _ ⟨I,j,own,lb,hG,hL,hE,_,rfl,hr⟩⟩
   ·cases hk3
end
def xF(ops:Array Oper)(k:Nat):List Nat:=match ops[k]? with
 |some o=>(o.after.toList.filter fun e=>Region.binds .any e).map (·.on)
 |none=>[]
def ru:List Nat->List Nat->List Nat
 |[],m=>m
 |x::l,m=>dK (Zc m x) (ru l m) (ru l (x::m))
def zgy(ops:Array Oper):Nat->List (List Nat)
 |0=>[]
 |k+1=>let t:=zgy ops k;t++[(xF ops k).foldl (fun m d=>ru ((pX t d).getD []) m) (xF ops k)]
def Pz(t:List (List Nat))(k:Nat):List Nat:=(pX t k).getD []
def EG(ops:Array Oper)(t:List (List Nat)):Nat->Bool
 |0=>true
 |k+1=>EG ops t k&&(Pz t k).all fun r=>(xF ops k).contains r||(xF ops k).any fun d=>(Pz t d).contains r
def qB(p i:iC):Bool:=match zM p.op with
 |some s=>!(i.dst==some s)
 |none=>true
def Bm(ops:Array Oper)(t:List (List Nat)):List (Nat×iC)->Bool
 |[]=>true
 |p::l=>(!(xF ops p.1).contains p.1&&(xF ops p.1).all fun d=>decide (d<ops.size))&&(l.all fun i=>!(xF ops p.1).contains i.1&&(((Pz t i.1).contains p.1||Xs p.2 i.2)&&qB p.2 i.2))&&Bm ops t l
def Xe(P:Program)(N:Nat)(ops:Array Oper):List (Nat×iC)->Bool
 |[]=>true
 |p::l=>(match ops[p.1]? with|some o=>EU P N ops o p.2|none=>false)&&Pm p.2.op&&Xe P N ops l
def ET(N:Nat)(ops:Array Oper):Bool:=ops.toList.all fun o=>match o.dst with|some s=>decide (s<N)|none=>true
def PE:List Nat->Bool
 |[]=>true
 |x::l=>!l.contains x&&PE l
def zg0(P:Program)(N:Nat)(ops:Array Oper)(l:List iC)(perm:List Nat):Bool :=
 let t:=zgy ops ops.size
 perm.length==l.length&&l.length==ops.size&&PE perm&&((List.range ops.size).all fun k=>perm.contains k)&&ET N ops&&EG ops t ops.size&&Bm ops t (perm.zip l)&&Xe P N ops (perm.zip l)
def V8(P:Program)(N:Nat)(ops:Array Oper):List Oper->List iC->Bool
 |[],[]=>true
 |o::l,o'::l'=>EU P N ops o o'&&V8 P N ops l l'
 |_,_=>false
section
variable[kQ]{P:Program}{N:Nat}{e:Env}{a:Go.Act}{w:World}{O:Store}{I0:fU}{j0:fJ}{iK:gZ}{w0:World}{κ:Ctx}
theorem za6{ops:Array Oper}(h:ET N ops=true)(i:Nat)(o:Oper)(s:Nat)(hi:ops[i]?=some o)(hs:o.dst=some s):s<N:=by
 have:=bM.1 h o (by
  have:=List.mem_of_getElem? (l:=ops.toList) (i:=i) (a:=o) (by rw[Array.getElem?_toList];exact hi);exact this)
 rw[hs]at this;simpa using this
def zfr(I0:fU)(j0:fJ)(iK:gZ)(w0:World)(N:Nat)(Q:Exit->Go.Act->World->Prop):uM->Prop
 |.normal e O=>∀a w,St I0 j0 iK w0 N e O a w->Q .normal a w
 |.panic d e O=>∀a w chain,Jf I0 j0 iK w0 N d chain e O a w->Q (.panic chain) a w
def CK(I0:fU)(j0:fJ)(iK:gZ)(w0:World)(N:Nat)(Q:Exit->Go.Act->World->Prop):uM->Prop
 |.normal e O=>∀a w,St I0 j0 iK w0 N e O a w->Q .normal a w
 |.panic d e O=>∀a w chain,Jf I0 j0 iK w0 N d chain e.bare O a w->Q (.panic chain) a w
theorem Jf.bare{d:D}{chain:List PanicEntry}(h:Jf I0 j0 iK w0 N d chain e O a w):Jf I0 j0 iK w0 N d chain e.bare O a w:=by obtain⟨I,j,own,lb,h1,h2,h3⟩:=h;exact⟨I,j,own,lb,h1,h2.bare,h3⟩
theorem WJ{r:Option Nat}{C:eV}(hC:rM P κ C)(hB:Base κ iK w0){ops:Array Oper}(hops:ET N ops=true){Q:Exit->Go.Act->World->Prop}:∀(l:List Oper)(l':List iC),V8 P N ops l l'=true->(r=none\/∀o∈l,∀c,o.op≠.defer c)->∀{e O a w out},mR C l' e O=some out->St I0 j0 iK w0 N e O a w ->
  zfr I0 j0 iK w0 N Q out->wpListIn (FW r) 0 P ops Q l a w
 |[],[],_,_,e,O,a,w,out,h,hSt,hQ=>by
  simp only[mR,aA]at h;subst h;exact hQ a w hSt
 |[],_::_,hk,_,_,_,_,_,_,_,_,_=>by simp only[V8,aE]at hk
 |_::_,[],hk,_,_,_,_,_,_,_,_,_=>by simp only[V8,aE]at hk
 |o::l,o'::l',hk,hdf,e,O,a,w,out,h,hSt,hQ=>by
  simp only[V8,aC]at hk;simp only[mR]at h;obtain⟨st,h1,h⟩:=dJ h;simp only[wpListIn];have hdl:r=none\/∀o∈l,∀c,o.op≠.defer c:=hdf.imp id fun h o ho=>h o (by simp[ho]);refine zj9 hC hB (fun i o s hi hs=>za6 hops i o s hi hs) hk.1 (hdf.imp id fun h=>h o (by simp)) hSt h1 ?_;cases st with
  |next e' O'=>exact fun a' w' h'=>WJ hC hB hops l l' hk.2 hdl (gQ h).2 h' hQ
  |call f az =>
   simp only at h;obtain⟨⟨r,O'⟩,h2,h⟩:=dJ h;obtain⟨_,h⟩:=gQ h;refine⟨r,O',h2,?_⟩;cases r with
   |ret c=>exact fun a' w' h'=>WJ hC hB hops l l' hk.2 hdl h h' hQ
   |panic d =>simp only[aA]at h;subst h;exact hQ
  |panic d =>simp only[aA]at h;subst h;exact hQ
theorem St.eqv{e':Env}(h:St I0 j0 iK w0 N e O a w)(he:nT e e'):St I0 j0 iK w0 N e' O a w:=by obtain⟨I,j,own,lb,h1,h2,h3⟩:=h;exact⟨I,j,own,lb,h1,h2.sub (fun s c h=>⟨c,by rw[he.slots];exact h,rfl,fun h=>h⟩) (fun s p h=>by rw[he.dR];exact h) (fun s cs h=>⟨cs,by rw[he.boxes];exact h,pL.refl cs⟩) he.defers.symm,h3⟩
theorem CK.eqv{Q:Exit->Go.Act->World->Prop}{out out':uM}(h:CK I0 j0 iK w0 N Q out)(he:xC out out'):CK I0 j0 iK w0 N Q out':=by
 cases he with
 |normal he=>exact fun a w hs=>h a w (hs.eqv he.symm)
 |panic he =>
  rename_i d e e' O;have:e.bare=e'.bare:=by unfold Env.bare;rw[he]
  intro a w chain hs;rw[<-this]at hs;exact h a w chain hs
theorem St.draw(h:St I0 j0 iK w0 N e O a w):St I0 j0 iK w0 N e O a {w with drawn:=w.drawn+1}:=by obtain⟨I,j,own,lb,h1,h2,h3⟩:=h;have hE:fD I j own w I j own {w with drawn:=w.drawn+1} (fun _=>False):=⟨rfl,rfl,rfl,aM _,fun _ _ _ h=>h,fun _ _ h=>h,fun _ _ _=>⟨rfl,rfl,fun _=>rfl⟩⟩;exact⟨I,j,own,lb,h1.kN hE h1.holds h1.kS h1.jU h1.mG (fun _ _ _=>⟨fun h=>h,fun _ _ _ _ h=>h⟩) (fun _ _ _ h=>h),h2.kN hE (fun _ _ _ _ h=>h) (fun _ _ _=>⟨fun h=>h,fun _ _ _ _ h=>h⟩),h3.trans (hE.weaken fun _ h=>h.elim)⟩
theorem zb2{ops:Array Oper}{k:Nat}{o:Oper}(hk:ops[k]?=some o){x:Nat}(h:x∈xF ops k):∃e∈o.after,Region.binds .any e=true/\e.on=x:=by simp only[xF,hk,bF,List.mem_filter,Array.mem_toList_iff]at h;obtain⟨e,⟨h1,h2⟩,h3⟩:=h;exact⟨e,h1,h2,h3⟩
theorem zar{ops:Array Oper}{t:List (List Nat)}:∀{n:Nat},EG ops t n=true->∀k,k<n->∀r∈Pz t k,r∈xF ops k\/∃d∈xF ops k,r∈Pz t d
 |0,_,k,hk,_,_=>by omega
 |n+1,h,k,hk,r,hr=>by
  simp only[EG,aC]at h;by_cases hkn:k=n
  ·subst hkn;have:=bM.1 h.2 r hr;simp only[Bool.or_eq_true,List.contains_iff_mem,List.any_eq_true]at this;exact this
  ·exact zar h.1 k (by omega) r hr
theorem WQ{ops:Array Oper}{t:List (List Nat)}:∀{l m:List (Nat×iC)},m.Sublist l->Bm ops t l=true->Bm ops t m=true
 |_,_,.slnil,_=>rfl
 |_,_,.cons _ h,hk=>by
  simp only[Bm,aC]at hk;exact WQ h hk.2
 |_,_,.cons_cons _ h,hk=>by
  simp only[Bm,aC]at hk ⊢;refine⟨⟨hk.1.1,?_⟩,WQ h hk.2⟩;exact bM.2 fun x hx=>bM.1 hk.1.2 x (h.subset hx)
theorem zb5{ops:Array Oper}{t:List (List Nat)}:∀{A B:List (Nat×iC)}{i:Nat×iC},Bm ops t (A++i::B)=true->∀p∈A,(Pz t i.1).contains p.1=true\/Xs p.2 i.2=true
 |[],_,_,_,p,hp=>by cases hp
 |q::A,B,i,h,p,hp=>by
  simp only[aW,Bm,aC]at h;rcases aS.1 hp with rfl|hp
  ·have:=bM.1 h.1.2 i (by simp);simp only[aC,Bool.or_eq_true]at this;exact this.2.1
  ·exact zb5 h.2 p hp
theorem zaq{ops:Array Oper}{t:List (List Nat)}:∀{A B:List (Nat×iC)},Bm ops t (A++B)=true->qz (A.map (·.2))
 |[],_,_=>trivial
 |q::A,B,h=>by
  simp only[aW,Bm,aC]at h;refine⟨fun s hs a ha=>?_,zaq h.2⟩;obtain⟨x,hx,rfl⟩:=bF.1 ha;have:=bM.1 h.1.2 x (by simp[hx]);simp only[aC]at this;have h2:=this.2.2;unfold qB at h2;rw[hs]at h2;simpa using h2
theorem x9{ops:Array Oper}:∀{l:List (Nat×iC)},Xe P N ops l=true->∀p∈l,(∃o,ops[p.1]?=some o/\EU P N ops o p.2=true)/\Pm p.2.op=true
 |[],_,p,hp=>by cases hp
 |q::l,h,p,hp=>by
  simp only[Xe,aC]at h;rcases aS.1 hp with rfl|hp
  ·refine⟨?_,h.1.2⟩;have:=h.1.1;split at this
   ·rename_i o ho;exact⟨o,ho,this⟩
   ·cases this
  ·exact x9 h.2 p hp
theorem za5:∀{l:List Nat},PE l=true->l.Nodup
 |[],_=>List.nodup_nil
 |x::l,h=>by
  simp only[PE,aC,Bool.not_eq_true',List.contains_eq_mem,decide_eq_false_iff_not]at h;exact List.nodup_cons.2 ⟨h.1,za5 h.2⟩
theorem zty{r:Option Nat}{C:eV}(hC:rM P κ C)(hB:Base κ iK w0){ops:Array Oper}(hdf:r=none\/∀o∈ops.toList,∀c,o.op≠.defer c)(hops:ET N ops=true){t:List (List Nat)}(ht:EG ops t ops.size=true){Q:Exit->Go.Act->World->Prop} :
  ∀(L:List (Nat×iC))(listed:Array Bool){e O a w out},Bm ops t L=true->Xe P N ops L=true->(L.map (·.1)).Nodup->listed.size=ops.size->(∀k,k<ops.size->(listed.getD k true=false↔k∈L.map (·.1))) ->
  (∀k,k<ops.size->k∉L.map (·.1)->∀r∈Pz t k,r∉L.map (·.1))->mR C (L.map (·.2)) e O=some out->St I0 j0 iK w0 N e O a w->CK I0 j0 iK w0 N Q out->wpAnyIn (FW r) 0 P .any ops Q L.length listed a w:=by
 intro L;generalize hn:L.length=n;induction n generalizing L with
 |zero =>intro listed e O a w out _ _ _ _ hl _ hrun hSt hQ;have:L=[]:=bL hn;subst this;simp only[aZ,mR,aA]at hrun;subst hrun;refine⟨?_,hQ a w hSt⟩;apply List.eq_nil_iff_forall_not_mem.2;intro k hk;obtain⟨h1,o,ho,_⟩:=mem_ready.1 hk;have hlt:=(Array.getElem?_eq_some_iff.1 ho).1;have:=(hl k hlt).1 h1;simp at this
 |succ n ih =>
  intro listed e O a w out hp he hnd hsz hl hcl hrun hSt hQ;have unl:∀k,k<ops.size->listed.getD k false=true->k∉L.map (·.1):=by
   intro k hk h hm;have:=(hl k hk).2 hm;have hks:k<listed.size:=by omega
   simp only[Array.getD_eq_getD_getElem?,Array.getElem?_eq_getElem hks,Option.getD_some]at h this;rw[h]at this;cases this
  refine⟨fun hnil=>?_,fun k hk=>?_⟩
  ·
   exfalso;cases L with
   |nil=>simp at hn
   |cons p L' =>
    obtain⟨⟨o,ho,_⟩,_⟩:=x9 he p (by simp);have hlt:=(Array.getElem?_eq_some_iff.1 ho).1;have:p.1∈Region.ready .any ops listed:=by
     refine mem_ready.2 ⟨(hl p.1 hlt).2 (by simp),o,ho,fun ed hed hb=>?_⟩;have Y0:ed.on∈xF ops p.1:=by
      simp only[xF,ho,bF,List.mem_filter,Array.mem_toList_iff];exact⟨ed,⟨hed,hb⟩,rfl⟩
     simp only[Bm,aC,Bool.not_eq_true',List.contains_eq_mem,decide_eq_false_iff_not]at hp;have hds:ed.on<ops.size:=by simpa using bM.1 hp.1.1.2 ed.on Y0
     have hnm:ed.on∉(p::L').map (·.1):=by
      intro hm;simp only[aO,aS,bF]at hm;rcases hm with hm|⟨q,hq,hqe⟩
      ·exact hp.1.1.1 (hm▸Y0)
      ·have:=bM.1 hp.1.2 q hq;simp only[aC,Bool.not_eq_true',decide_eq_false_iff_not]at this;exact this.1 (hqe▸Y0)
     have hks:ed.on<listed.size:=by omega
     have hnf:¬listed.getD ed.on true=false:=fun h=>hnm ((hl ed.on hds).1 h);simp only[Array.getD_eq_getD_getElem?,Array.getElem?_eq_getElem hks,Option.getD_some]at hnf ⊢;simpa using hnf
    rw[hnil]at this;cases this
  ·obtain⟨h1,o,ho,hall⟩:=mem_ready.1 hk;have hlt:=(Array.getElem?_eq_some_iff.1 ho).1;have hm:=(hl k hlt).1 h1;obtain⟨pr,hpr,zku⟩:=bF.1 hm;obtain⟨A,B,rfl⟩:=List.append_of_mem hpr;obtain⟨i,oi⟩:=pr;simp only at zku;subst zku;obtain⟨⟨o2,ho2,hok⟩,_⟩:=x9 he (i,oi) (by simp);rw[ho]at ho2;cases ho2;have Y0:∀d∈xF ops i,d<ops.size->d∉(A++(i,oi)::B).map (·.1):=by
    intro d hd hds;obtain⟨ed,q1,q2,rfl⟩:=zb2 ho hd;exact unl _ hds (hall ed q1 q2)
   have hidx:∀x∈(A++(i,oi)::B).map (·.1),x<ops.size:=(by intro x hx;obtain⟨q,hq,rfl⟩:=bF.1 hx;obtain⟨⟨oq,hoq,_⟩,_⟩:=x9 he q hq;exact(Array.getElem?_eq_some_iff.1 hoq).1);have zhv:∀r∈Pz t i,r∉(A++(i,oi)::B).map (·.1):=by
    intro r hr hmem;have hrs:=hidx r hmem;rcases zar ht i hlt r hr with h|⟨d,hd,hrd⟩
    ·exact Y0 r h hrs hmem
    ·have hds:d<ops.size:=(by apply Nat.lt_of_not_le;intro hge;obtain⟨ed,q1,q2,rfl⟩:=zb2 ho hd;have:=hall ed q1 q2;rw[Array.getD_eq_getD_getElem?,Array.getElem?_eq_none (by omega)]at this;cases this);exact hcl d hds (Y0 d hd hds) r hrd hmem
   have hap:∀p∈A.map (·.2),Xs p oi=true:=by
    intro p hp';obtain⟨q,hq,rfl⟩:=bF.1 hp';rcases zb5 hp q hq with h|h
    ·exact absurd (bF.2 ⟨q,by simp[hq],rfl⟩) (zhv q.1 (by simpa using h))
    ·exact h
   have hdr:∀o∈A.map (·.2)++B.map (·.2),Pm o.op=true:=(by intro o' ho';rw[<-aU]at ho';obtain⟨q,hq,rfl⟩:=bF.1 ho';exact(x9 he q (by simp at hq ⊢;rcases hq with h|h<;>simp[h])).2);rw[aU,aO]at hrun;obtain⟨out',hrun',heq,_⟩:=ze2 hap hdr (zaq hp) hrun;have hQ':=hQ.eqv heq;simp only[F3]at hrun';obtain⟨st,hst,hrun'⟩:=dJ hrun';have hsub:(A++B).Sublist (A++(i,oi)::B):=List.Sublist.append_left (List.sublist_cons_self _ _) A;have hnd':((A++B).map (·.1)).Nodup:=hnd.sublist (hsub.map _);have hni:i∉(A++B).map (·.1):=by
    rw[aU,aO]at hnd;rw[aU];intro hmem;rw[List.nodup_append]at hnd;obtain⟨n1,n2,n3⟩:=hnd;rcases bJ.1 hmem with h|h
    ·exact n3 i h i (by simp) rfl
    ·exact(List.nodup_cons.1 n2).1 h
   have ZH:∀x,x∈(A++(i,oi)::B).map (·.1)↔x=i\/x∈(A++B).map (·.1):=by
    intro x;simp only[aU,aO,bJ,aS];constructor
    ·rintro(h|h|h)
     ·exact .inr (.inl h)
     ·exact .inl h
     ·exact .inr (.inr h)
    ·rintro(h|h|h)
     ·exact .inr (.inl h)
     ·exact .inl h
     ·exact .inr (.inr h)
   have go:∀{e' O' a' w'},mR C ((A++B).map (·.2)) e' O'=some out'->St I0 j0 iK w0 N e' O' a' w'->wpAnyIn (FW r) 0 P .any ops Q n (listed.setIfInBounds i true) a' w':=by
    intro e' O' a' w' hr hs;refine ih (A++B) (by simp at hn ⊢;omega) _ (WQ hsub hp) ?_ hnd' (by simpa using hsz) (fun x hx=>?_) (fun x hx AL r hr' hrm=>?_) hr hs hQ'
    ·have:∀(l:List (Nat×iC)),(∀p∈l,p∈A++(i,oi)::B)->Xe P N ops l=true:=by
      intro l;induction l with
      |nil=>intro _;rfl
      |cons p l ihl =>intro hl';obtain⟨⟨o3,ho3,hok3⟩,hd3⟩:=x9 he p (hl' p (by simp));simp only[Xe,ho3,hok3,hd3,bX,ihl fun q hq=>hl' q (by simp[hq])]
     exact this _ fun p hp'=>hsub.subset hp'
    ·by_cases hxi:x=i
     ·subst hxi;have hks:x<listed.size:=by omega
      have:(listed.setIfInBounds x true).getD x true=true:=by simp[hks]
      rw[this];exact⟨(fun h=>by cases h),(fun h=>absurd h hni)⟩
     ·rw[getD_set_ne true (Ne.symm hxi),hl x hx,ZH];exact⟨fun h=>h.resolve_left hxi,fun h=>.inr h⟩
    ·have zkv:=(ZH r).2 (.inr hrm);by_cases hxi:x=i
     ·subst hxi;exact zhv r hr' zkv
     ·exact hcl x hx (fun h=>by
       rcases(ZH x).1 h with h|h
       ·exact hxi h
       ·exact AL h) r hr' zkv
   have zlbb:ky P r ops o Q (wpAnyIn (FW r) 0 P .any ops Q n (listed.setIfInBounds i true)) a w:=by
    refine zj9 hC hB (fun i o s hi hs=>za6 hops i o s hi hs) hok (hdf.imp id fun h=>h o (Array.mem_toList_iff.2 (Array.mem_of_getElem? ho))) hSt hst ?_;rw[<-aU]at hrun';cases st with
    |next e' O'=>exact fun a' w' h'=>go hrun' h'
    |call f az =>
     simp only at hrun';obtain⟨⟨r,O'⟩,h2,hrun'⟩:=dJ hrun';refine⟨r,O',h2,?_⟩;cases r with
     |ret c=>exact fun a' w' h'=>go hrun' h'
     |panic d =>simp only[aA]at hrun';subst hrun';exact fun a' w' chain h=>hQ' a' w' chain h.bare
    |panic d =>simp only[aA]at hrun';subst hrun';exact fun a' w' chain h=>hQ' a' w' chain h.bare
   simp only[wpOpIn,ho];exact zlbb
end
end Go.Mx

/- A part of the proof. -/
import Derived.Test.YtldfbnbckiifeaaGreatDoorMyExec
import Derived.Defers
import Derived.Below
import Derived.OpenShut
import Derived.ChangeSlices
import Derived.ChangeSame
import Derived.Deep.DeepHandedRow
import Derived.Stop.LaidErr
import Derived.Deep.DeepLaidRun
import Derived.Lib.LaidTab
import Derived.Shelf.Small.Bits
import Derived.Shelf.Strconv.Itoa0
import Derived.Shelf.Strconv.Itoa1
import Derived.Shelf.LaysM
import Derived.Shelf.Strconv.Itoa2
import Derived.Shelf.Strconv.Itoa3
import Derived.Ground.Names2Prog
import Derived.Ground.SlgnProg
import Derived.Test.YtldfbnbckiifeaaGreatDoorProg
set_option maxHeartbeats 4000000
set_option linter.all false
namespace Go.Mx
open Go
def tJ(P:Program)(fn:Func)(tmps:Array Value)(R:Ending->World->Prop):List Deferred->FrameMode->World->Prop
 |[],u,w=>Leaves P fn tmps R [] u w
 |d::ds,u,w=>u≠.run/\((∃r w',d.target=.collected r/\(Instr.takeDeferred r).run P w=.ok [] w'/\tJ P fn tmps R ds u w') \/
   (∃fv cap f args,d.target=.fn fv cap/\(invoke d.target d.args).run P w=.ok (.enter f args) w /\
   CallsD P f args u w fun
    |.returned _,u',w'=>tJ P fn tmps R ds (settle u') w'
    |.panicked chain,u',w'=>tJ P fn tmps R ds (raised u' chain) w'
    |.outgrown,_,w'=>R .outgrown w'))
section
variable{P:Program}
theorem WA{fn:Func}{tmps:Array Value}{R:Ending->World->Prop}:∀(ds:List Deferred)(u:FrameMode)(w:World)(fr:Frame)
  (cs:List Frame),fr.mode=u->fr.defers=ds->fr.tmps=tmps->P.funcs[fr.fn]?=some fn->fr.kind=.normal->tJ P fn tmps R ds u w ->
  ∃e w' fr',R e w'/\Comes P (lone fr cs w) (lone fr' cs w') e/\fr'.fn=fr.fn/\fr'.leaving P w' e:=by
 intro ds;induction ds with
 |nil=>exact fun u w fr cs hu hd ht hf hk h=>leaves_steps [] u w fr cs hu hd ht hf hk h
 |cons d ds ih =>
  intro u w fr cs hu hd ht hf hk h;obtain⟨hrun,h⟩:=h;rcases h with⟨r,w',htar,htake,hrest⟩|⟨fv,cap,f,args,htar,hinv,hcall⟩
  ·have h1:=step_collected (cs:=cs) (hu▸hrun) hd htar htake;obtain⟨e',w'',fr',hR',hs',hfn',hl'⟩:=ih u w' {fr with defers:=[]++ds} cs hu rfl ht hf hk hrest;exact⟨e',w'',fr',hR',Comes.of_steps (.one h1) hs',hfn',hl'⟩
  ·have h1:=step_defer (cs:=cs) (hu▸hrun) hd htar hinv;obtain⟨e,u',w',frX,hR,hsteps,hkX,hgo⟩:=hcall {fr with defers:=ds} cs hu;cases e with
   |returned v =>have h2:=step_going_returned (c:={{fr with defers:=ds}with mode:=u'}) (cs:=cs) hkX hgo;obtain⟨e',w'',fr',hR',hs',hfn',hl'⟩:=ih (settle u') w' {{{fr with defers:=ds}with mode:=u'}with mode:=settle u'} cs rfl rfl ht hf hk hR;exact⟨e',w'',fr',hR',Comes.of_steps (.head h1 (Steps.trans hsteps (.one h2))) hs',hfn',hl'⟩
   |panicked chain =>have h2:=step_going_panicked (c:={{fr with defers:=ds}with mode:=u'}) (cs:=cs) hgo;obtain⟨e',w'',fr',hR',hs',hfn',hl'⟩:=ih (raised u' chain) w' {{{fr with defers:=ds}with mode:=u'}with mode:=raised u' chain} cs rfl rfl ht hf hk hR;exact⟨e',w'',fr',hR',Comes.of_steps (.head h1 (Steps.trans hsteps (.one h2))) hs',hfn',hl'⟩
   |outgrown=>exact⟨.outgrown,w',fr,hR,Outgrown.of_steps (.one h1) hsteps,rfl,trivial⟩
def XZ(P:Program)(fn:Func)(R:Ending->World->Prop):Exit->Go.Act->World->Prop
 |.normal,a,w|.ret,a,w=>tJ P fn a.tmps R a.defers .returning w
 |.panic chain,a,w=>tJ P fn a.tmps R a.defers (.panicking chain) w
 |.outgrown,_,w=>R .outgrown w
 |_,_,_=>False
theorem ze{f:FuncId}{fn:Func}{c:Code}{args:Array Value}{w:World}{R:Ending->World->Prop}
  (hf:P.funcs[f]?=some fn) (hb:fn.body=some c)
  (h:c.wp P (XZ P fn R) {tmps:=args++Array.replicate (fn.ntmps-args.size) Go.undef,defers:=[]} w):Calls P f args w R:=by
 intro cs
 let b:Frame:={(default:Frame)with fn:=f,kind:=.normal}
 have henter:Frame.enter P f args .normal =
   b.at {tmps:=args++Array.replicate (fn.ntmps-args.size) Go.undef,defers:=[]} [.code c]:=by
  simp[Frame.enter,Frame.at,hf,hb,b]
 obtain⟨e,a',w',hq,harr⟩:=h b [] cs;rw[<-henter]at harr;cases e with
 |normal =>obtain⟨e',w'',fr',hR,hs,hfn,hl⟩:=WA a'.defers .returning w' {b.at a' []with mode:=.returning} cs rfl rfl rfl hf rfl hq;exact⟨e',w'',fr',hR,Comes.of_steps (Steps.trans harr (.one step_end)) hs,hfn,hl⟩
 |ret =>obtain⟨todo,yg⟩:=harr;obtain⟨e',w'',fr',hR,hs,hfn,hl⟩:=WA a'.defers .returning w' {b.at a' todo with mode:=.returning} cs rfl rfl rfl hf rfl hq;exact⟨e',w'',fr',hR,Comes.of_steps yg hs,hfn,hl⟩
 |panic chain =>obtain⟨todo,yg⟩:=harr;obtain⟨e',w'',fr',hR,hs,hfn,hl⟩:=WA a'.defers (.panicking chain) w' {b.at a' todo with mode:=.panicking chain} cs rfl rfl rfl hf rfl hq;exact⟨e',w'',fr',hR,Comes.of_steps yg hs,hfn,hl⟩
 |exit id=>exact hq.elim
 |goto l=>exact hq.elim
 |outgrown=>exact⟨.outgrown,w',b,hq,harr.resolve_left (by simp[b]),rfl,trivial⟩
theorem zao{fn:Func}{tmps:Array Value}{R:Ending->World->Prop}{fv:Fn}{cap dargs:Array Value}{ds:List Deferred}{u:FrameMode}{w:World}{f:FuncId}{args:Array Value}(hu:u≠.run)
  (hi:(invoke (.fn fv cap) dargs).run P w=.ok (.enter f args) w) (hc:CallsD P f args u w fun
     |.returned _,u',w'=>tJ P fn tmps R ds (settle u') w'
     |.panicked chain,u',w'=>tJ P fn tmps R ds (raised u' chain) w'
     |.outgrown,_,w'=>R .outgrown w'):tJ P fn tmps R ({target:=.fn fv cap,args:=dargs}::ds) u w :=
 ⟨hu,.inr ⟨fv,cap,f,args,rfl,hi,hc⟩⟩
end
def C9[kQ](P:Program)(κ:Ctx)(C:eV):Prop:=∀f ds O out O',C f ds O=some (out,O')->zdrb P κ f ds O out O'
section
variable[kQ]{P:Program}{N:Nat}{e:Env}{a:Go.Act}{w:World}{O:Store}{I I0:fU}{j j0:fJ}{own iK:gZ}{w0:World}{lb:fJ}{κ:Ctx}
/-! ### Results -/
def Qy(tmps:Array Value):ResultVar->Sem Value
 |.tmp t=>pure (tmps.getD t undef)
 |.cell a t=>do loadVar t (<-asAddr (tmps.getD a undef))
theorem zl(hG:eH I j own O w)(hL:eI I j own lb N e a w){r:ResultVar}{r':Lj}(hk:tQ P [r] [r']=true){c:Cell}(h:Ju e O r'=some c) :
  ∃v,(Qy a.tmps r).run P w=.ok v w/\dL I j c.d v/\(c.own=true->∃t,t.isLocal=true/\mD I own w t c.d v):=by
 cases r with
 |tmp t =>cases r'<;>simp only[tQ,aE,aC,beq_iff_eq]at hk;obtain⟨rfl,_⟩:=hk;simp only[Ju]at h;have hr:=hL.slots _ c h;exact⟨_,rfl,hr.1,fun ho=>⟨_,rfl,hr.2 ho⟩⟩
 |cell t ty =>
  have hkk:(∃k,r'=.cell t k/\oR P ty k=true)\/∃k,r'=.SC t k/\oR P ty (some k)=true:=by
   cases r' with
   |tmp s=>simp[tQ]at hk
   |cell s k =>simp only[tQ,aC,beq_iff_eq]at hk;exact .inl ⟨k,by rw[hk.1.1],hk.1.2⟩
   |SC s k =>simp only[tQ,aC,beq_iff_eq]at hk;exact .inr ⟨k,by rw[hk.1.1],hk.1.2⟩
  rcases hkk with⟨k,rfl,hkk⟩|⟨k,rfl,hkk⟩
  case inr =>
   simp only[Ju]at h;obtain⟨p,h1,h⟩:=dJ h;have hx:=Be (x:=.tmp t) hL (by simp[dT]) h1;have ev:a.eval (.tmp t)=a.tmps.getD t undef:=rfl;rw[ev]at hx;split at h
   ·obtain⟨B,hB,hx⟩:=hx;obtain⟨cs,h2,h⟩:=dJ h;obtain⟨h3,h⟩:=gQ h;cases h;obtain⟨B',hB',_,oD⟩:=hL.boxes _ cs h2;rw[hB]at hB';cases hB';obtain⟨u,hu,nU,hO⟩:=zdx oD hkk (by simpa using h3);exact⟨u,by simp only[Qy,hx,asAddr,Sem.run_bind,Sem.run_pure,Result.andThen_ok,hu],nU,fun ho=>⟨_,rfl,hO ho⟩⟩
   ·cases h
  simp only[Ju]at h;obtain⟨p,h1,h⟩:=dJ h;have hx:=Be (x:=.tmp t) hL (by simp[dT]) h1;have ev:a.eval (.tmp t)=a.tmps.getD t undef:=rfl;rw[ev]at hx;cases p with
  |loc b off =>
   obtain⟨B,hB,hx⟩:=hx;obtain⟨cs,h2,h⟩:=dJ h;obtain⟨B',hB',_,oD⟩:=hL.boxes b cs h2;rw[hB]at hB';cases hB';obtain⟨u,hu,nU,q1,q2⟩:=Vg oD hkk h;refine⟨u,?_,nU,fun ho=>?_⟩
   ·simp only[Qy,hx,asAddr,Sem.run_bind,Sem.run_pure,Result.andThen_ok,hu]
   ·cases k with
    |none=>exact⟨_,rfl,(q1 rfl).2.2.2 ho⟩
    |some n=>rw[q2 (by simp)]at ho;cases ho
  |ptr id off =>obtain⟨B,hB,hx⟩:=hx;obtain⟨cs,h2,h⟩:=dJ h;obtain⟨c',h3,h⟩:=dJ h;cases h;obtain⟨B',hB',_,oD⟩:=hG.dE id cs h2;rw[hB]at hB';cases hB';obtain⟨u,hu,nU,_⟩:=Vg oD hkk h3;exact⟨u,by simp only[Qy,hx,asAddr,Sem.run_bind,Sem.run_pure,Result.andThen_ok,hu],nU,fun ho=>by cases ho⟩
  |gC d=>cases h
theorem zm(hG:eH I j own O w)(hL:eI I j own lb N e a w):∀{rs:List ResultVar}{rs':List Lj},tQ P rs rs'=true->∀{ds:List D},Eb e O rs'=some ds->∃vs:List Value,(rs.mapM (Qy a.tmps)).run P w=.ok vs w/\dV I j ds vs
 |[],[],_,ds,h=>by
  simp only[Eb,aA]at h;subst h;exact⟨[],by simp,by simp only[dV]⟩
 |[],_::_,hk,_,_=>by simp[tQ]at hk
 |_::_,[],hk,_,_=>by simp[tQ]at hk
 |r::rs,r'::rs',hk,ds,h=>by
  simp only[Eb]at h;obtain⟨c,h1,h⟩:=dJ h;obtain⟨ds',h2,h⟩:=dJ h;cases h;have hk2:tQ P [r] [r']=true/\tQ P rs rs'=true:=by
   cases r<;>cases r'<;>simp_all [tQ]
  obtain⟨v,k1,k2,_⟩:=zl hG hL hk2.1 h1;obtain⟨vs,q1,q2⟩:=zm hG hL hk2.2 h2;refine⟨v::vs,?_,by simp only[dV];exact⟨_,_,rfl,k2,q2⟩⟩;simp only[List.mapM_cons,Sem.run_bind,k1,Result.andThen_ok,q1,Sem.run_pure]
theorem zwc(fn:Func)(tmps:Array Value):results fn tmps=(do let vs <-fn.results.mapM (Qy tmps);pure (if h:vs.size=1 then vs[0]else .tuple vs)):=by unfold results;congr 1
theorem zpe(hG:eH I j own O w)(hL:eI I j own lb N e a w){fn:Func}{rs':List Lj}(hk:tQ P fn.results.toList rs'=true){c:Cell}(h:vV e O rs'=some c) :
  ∃v,(results fn a.tmps).run P w=.ok v w/\dL I j c.d v/\(c.own=true->∃t,t.isLocal=true/\mD I own w t c.d v):=by
 rw[zwc,Array.mapM_eq_mapM_toList];simp only[map_eq_pure_bind,Sem.run_bind];have one:∀r r',fn.results.toList=[r]->rs'=[r']->∃v,(((fn.results.toList.mapM (Qy a.tmps)).run P w).andThen fun x=>(pure x.toArray:Sem (Array Value)).run P).andThen (fun vs=>(pure (if h:vs.size=1 then vs[0]else .tuple vs):Sem Value).run P)=.ok v w/\dL I j c.d v/\(c.own=true->∃t,t.isLocal=true/\mD I own w t c.d v):=by
  rintro r r' hl rfl;rw[hl]at hk ⊢;obtain⟨v,k1,k2,k3⟩:=zl hG hL hk h;refine⟨v,?_,k2,k3⟩;simp only[List.mapM_cons,List.mapM_nil,Sem.run_bind,k1,Result.andThen_ok,Sem.run_pure];rfl
 have many:vV e O rs'=(dH (Eb e O rs') fun ds=>some ⟨false,.fN ds⟩)->rs'.length≠1->∃v,(((fn.results.toList.mapM (Qy a.tmps)).run P w).andThen fun x=>(pure x.toArray:Sem (Array Value)).run P).andThen (fun vs=>(pure (if h:vs.size=1 then vs[0]else .tuple vs):Sem Value).run P)=.ok v w/\dL I j c.d v/\(c.own=true->∃t,t.isLocal=true/\mD I own w t c.d v):=by
  intro hr hl;rw[hr]at h;obtain⟨ds,h1,h⟩:=dJ h;cases h;obtain⟨vs,k1,k2⟩:=zm hG hL hk h1;have hlen:∀{rs':List Lj}{ds:List D},Eb e O rs'=some ds->ds.length=rs'.length:=by
   intro rs';induction rs' with
   |nil=>intro ds h;simp only[Eb,aA]at h;subst h;rfl
   |cons r rs' ih =>intro ds h;simp only[Eb]at h;obtain⟨c,_,h⟩:=dJ h;obtain⟨ds',h2,h⟩:=dJ h;cases h;simp[ih h2]
  have hsz:¬vs.toArray.size=1:=(by have:=k2.length;have:=hlen h1;simp only[List.size_toArray];omega);refine⟨.tuple vs.toArray,?_,by simp only[dL];exact⟨vs,rfl,k2⟩,fun h=>by cases h⟩;simp only[k1,Result.andThen_ok,Sem.run_pure,dif_neg hsz]
 cases rs' with
 |nil=>exact many rfl (by simp)
 |cons r' rs' =>
  cases rs' with
  |nil =>
   cases hl:fn.results.toList with
   |nil=>rw[hl]at hk;simp[tQ]at hk
   |cons r rs =>
    cases rs with
    |nil=>rw[<-hl];exact one r r' hl rfl
    |cons r2 rs=>rw[hl]at hk;cases r<;>cases r'<;>simp[tQ]at hk
  |cons r2 rs'=>exact many rfl (by simp)
/-! ### What is handed out -/
theorem pZ.ret(hG:eH I j own O w)(hE:fD I0 j0 iK w0 I j own w (fun _=>True)){c:Cell}{v:Value}(hr:dL I j c.d v)(ho:c.own=true->∃t,t.isLocal=true/\mD I own w t c.d v):pZ I0 j0 iK w0 (.ret c) O (.returned v) w:=by
 have hE':fD I0 j0 iK w0 I j (shared own) w (fun _=>True):=by
  refine⟨hE.os,hE.tape,hE.output,hE.size,hE.qY,hE.lay,fun b hb ht=>?_⟩;have hn:iK b=none:=by
   cases h:iK b with
   |none=>rfl
   |some t=>exact absurd trivial (ht t h)
  obtain⟨k1,k2,k3⟩:=hE.block b hb ht;refine⟨k1,?_,k3⟩;unfold shared;rw[k2,hn]
 refine⟨I,j,shared own,hG.Pg,hE',Vh own,hr,fun h=>?_⟩;obtain⟨t,ht,hO⟩:=ho h;unfold mD at hO;unfold FE;cases hp:yJ c.d v with
 |none=>trivial
 |some p =>
  rw[hp]at hO;rcases hO with hO|⟨b,cap,cur,T,f1,f2,f3,f4,f5⟩
  ·exact .inl hO
  ·refine .inr ⟨b,cap,cur,T,f1,?_,?_,f3,f4,f5⟩
   ·by_cases hb:w0.heap.size<=b
    ·exact .inl hb
    ·cases h0:iK b with
     |some u=>exact .inr rfl
     |none =>have:=(hE.block b (by omega) (fun t h=>by rw[h0]at h;cases h)).2.1;rw[f2,h0]at this;cases this
   ·unfold shared;rw[f2];simp[ht]
theorem pZ.panic(hG:eH I j own O w)(hE:fD I0 j0 iK w0 I j own w (fun _=>True)){d:D}{v:Value}(hr:dL I j d v):pZ I0 j0 iK w0 (.panic d) O (.panicked [{v:=v,recovered:=false}]) w:=by
 have hE':fD I0 j0 iK w0 I j (shared own) w (fun _=>True):=by
  refine⟨hE.os,hE.tape,hE.output,hE.size,hE.qY,hE.lay,fun b hb ht=>?_⟩;have hn:iK b=none:=by
   cases h:iK b with
   |none=>rfl
   |some t=>exact absurd trivial (ht t h)
  obtain⟨k1,k2,k3⟩:=hE.block b hb ht;refine⟨k1,?_,k3⟩;unfold shared;rw[k2,hn]
 exact⟨I,j,shared own,hG.Pg,hE',Vh own,v,rfl,hr⟩
theorem BA{α:Type}(m:Nat):∀(l:List (Nat×α))(id:Nat)(x:α),dC (l.filter fun p=>p.1<m) id=some x->dC l id=some x
 |[],_,_,h=>by simp[sU]at h
 |(k,v)::l,id,x,h=>by
  rw[List.filter_cons]at h;by_cases hk:k<m
  ·simp only[hk,decide_true,if_true]at h;rw[nH]at h ⊢;split at h
   ·rename_i hki;rw[if_pos hki];exact h
   ·rename_i hki;rw[if_neg hki];exact BA m l id x h
  ·simp only[hk,decide_false,aE,if_false]at h;rw[nH];by_cases hki:k=id
   ·subst hki;exfalso;have:∀(l:List (Nat×α)),dC (l.filter fun p=>p.1<m) k=none:=by
     intro l;induction l with
     |nil=>rfl
     |cons q l ih =>
      obtain⟨q,u⟩:=q;rw[List.filter_cons];by_cases hq:q<m
      ·simp only[hq,decide_true,if_true];rw[nH,if_neg (by omega)];exact ih
      ·simp only[hq,decide_false,aE,if_false];exact ih
    rw[this]at h;cases h
   ·rw[if_neg hki];exact BA m l id x h
theorem eH.trunc(hG:eH I j own O w)(b:Bool)(m:Nat):eH I j own (dK b (O.trunc m) O) w:=by
 cases b with
 |false=>exact hG
 |true=>exact hG.sub (fun id cs h=>⟨cs,BA m _ _ _ h,pL.refl cs⟩) (aM _) (fun id t h=>BA m _ _ _ h) (fun id x h=>BA m _ _ _ h)
/-! ### Deferred calls -/
def yU(I:fU)(j:fJ):Option D->FrameMode->Prop
 |none,u=>u=.returning
 |some d,u=>∃v,u=.panicking [{v:=v,recovered:=false}]/\dL I j d v
theorem yU.run{m:Option D}{u:FrameMode}(h:yU I j m u):u≠.run/\settle u=u:=by
 cases m with
 |none=>subst h;exact⟨(fun h=>by cases h),rfl⟩
 |some d=>obtain⟨v,rfl,_⟩:=h;exact⟨(fun h=>by cases h),rfl⟩
theorem yU.kN{I':fU}{j':fJ}{own':gZ}{w':World}{TT:Tag->Prop}(h:fD I j own w I' j' own' w' TT){m:Option D}{u:FrameMode}(k:yU I j m u):yU I' j' m u:=by
 cases m with
 |none=>exact k
 |some d=>obtain⟨v,h1,h2⟩:=k;exact⟨v,h1,h.rep h2⟩
def Wv(P:Program)(κ:Ctx)(R:sD):Prop:=∀f ds m O m' O',R f ds m O=some (m',O')->D6 P f/\∀I j own w vs u,zA own->Base κ own w->eH I j own O w->dV I j ds vs->yU I j m u ->
 CallsD P f ⟨vs⟩ u w fun e u' w'=>∃v I' j' own',e=.returned v/\eH I' j' own' O' w'/\fD I j own w I' j' own' w' (fun _=>True)/\zA own'/\yU I' j' m' (settle u')
theorem KZ{Rc:sD}{C:eV}(hR:Wv P κ Rc)(hD:C9 P κ C)(hB:Base κ iK w0){fn:Func}{R:Ending->World->Prop}{tmps:Array Value}{e0:Env}:∀(l:List (FuncId×List D))(ds:List Deferred){m:Option D}{u:FrameMode}{I j own lb w O r}{a:Go.Act},a.tmps=tmps->yU I j m u->Bo I j l ds ->
  eH I j own O w->eI I j own lb N e0 a w->fD I0 j0 iK w0 I j own w (fun _=>True)->qL Rc C m l O=some r ->
  (∀(I':fU)(j':fJ) own' w' u',yU I' j' r.1 u'->eH I' j' own' r.2 w'->eI I' j' own' lb N e0 a w'->fD I j own w I' j' own' w' (fun _=>True)->fD I0 j0 iK w0 I' j' own' w' (fun _=>True)->tJ P fn tmps R [] u' w')->tJ P fn tmps R ds u w
 |[],ds,m,u,I,j,own,lb,w,O,r,a,_,hm,hd,hG,hL,hE,hr,hfin=>by
  simp only[Bo]at hd;subst hd;simp only[qL,aA]at hr;subst hr;exact hfin I j own w u hm hG hL (fD.refl _ _ _ _ _) hE
 |(f,az)::l,ds,m,u,I,j,own,lb,w,O,r,a,ha,hm,hd,hG,hL,hE,hr,hfin=>by
  simp only[Bo]at hd;obtain⟨x,ds',rfl,hd,hx⟩:=hd;simp only[qL]at hr;obtain⟨hu,hset⟩:=hm.run;by_cases hY:jK f=true
  ·rw[if_pos hY]at hx;obtain⟨b,hb,rfl⟩:=hx;rw[hY,dQ]at hr;obtain⟨x,h1,hr⟩:=dJ hr;cases x<;>simp only[reduceCtorEq]at hr;obtain⟨b',q1,q2,q3⟩:=hG.dP _ _ h1;rw[hb]at q1;cases q1
   have hG1:=hG.sub (O':={O with dP:=gI O.dP (f-oV)}) (fun id cs h=>⟨cs,h,pL.refl cs⟩) (aM _) (fun id t h=>h) (fun id x h=>by
    simp only[mK]at h;by_cases hid:f-oV=id
    ·rw[if_pos hid]at h;cases h
    ·rw[if_neg hid]at h;exact h)
   obtain⟨g1,g2⟩:=zewb (ob:=.deferred none) hG hb q2 h1
   exact⟨hu,.inl ⟨b,_,rfl,run_takeDeferred q3,KZ hR hD hB l ds' ha (hm.kN g2) (g2.EO _ _ hd) g1 (hL.sw g2) (hE.trans (g2.weaken fun _ _=>trivial)) hr
    (fun I'' vS wC w'' KP p0 p1 p2 p3 p4=>hfin I'' vS wC w'' KP p0 p1 p2 ((g2.weaken fun _ _=>trivial).trans p3) p4)⟩⟩
  rw[if_neg hY]at hx;obtain⟨cap,args,rfl,hrep⟩:=hx;simp only[Bool.not_eq_true]at hY;rw[hY,dX]at hr;cases hrec:Rc f az m O with
  |some x =>
   rw[hrec]at hr;simp only at hr;obtain⟨m1,O1⟩:=x;obtain⟨⟨fn',c',b1,b2,b3⟩,hcall⟩:=hR f az m O m1 O1 hrec;refine zao hu (f:=f) (args:=args++cap) ?_ ?_
   ·simp only[invoke];exact MuLone.run_callFunc_enter b1 b2 b3 _ w
   ·have hc:=hcall I j (shared own) w (args++cap).toList u (Vh own) (hB.kN hE).shared hG.Pg hrep hm;refine hc.mono ?_;rintro en u' w' ⟨v,I',j',jQ,rfl,k1,k2,k3,k4⟩;obtain⟨iL,q1,q2,q3,_⟩:=Jn hG hL k1 k2 k3 0 false .undef v (fun h=>by cases h);exact KZ hR hD hB l ds' ha k4 (q3.EO _ _ hd) q1 q2 (hE.trans q3) hr (fun I'' vS wC w'' KP g0 g1 g2 g3 g4=>hfin I'' vS wC w'' KP g0 g1 g2 (q3.trans g3) g4)
  |none =>
   rw[hrec]at hr;simp only at hr;obtain⟨⟨o,O1⟩,h1,hr⟩:=dJ hr;obtain⟨⟨fn',c',b1,b2,b3⟩,hcall⟩:=hD f az O o O1 h1;refine zao hu (f:=f) (args:=args++cap) ?_ ?_
   ·simp only[invoke];exact MuLone.run_callFunc_enter b1 b2 b3 _ w
   ·have hc:=hcall I j (shared own) w (args++cap).toList u (Vh own) (hB.kN hE).shared hG.Pg hrep;refine hc.mono ?_;rintro en u' w' ⟨rfl,I',j',jQ,k1,k2,k3,k4⟩;cases o with
    |panic d=>simp only at hr;cases hr
    |ret c =>
     cases en with
     |panicked chain=>exact k4.elim
     |outgrown=>exact k4.elim
     |returned v =>simp only at hr;obtain⟨iL,q1,q2,q3,_⟩:=Jn hG hL k1 k2 k3 0 false c.d v (fun h=>by cases h);simp only[hset];exact KZ hR hD hB l ds' ha (hm.kN q3) (q3.EO _ _ hd) q1 q2 (hE.trans q3) hr (fun I'' vS wC w'' KP g0 g1 g2 g3 g4=>hfin I'' vS wC w'' KP g0 g1 g2 (q3.trans g3) g4)
/-! ### A call -/
theorem zbbb(hG:eH I j own O w){ds:List D}{vs:List Value}(hr:dV I j ds vs)(hN:ds.length<=N) :
  eI I j own (fun _=>none) N (mX ds) {tmps:=(⟨vs⟩:Array Value)++Array.replicate (N-vs.length) undef,defers:=[]} w:=by
 have hl:=hr.length;have key:∀(ds:List D)(vs:List Value)(i:Nat),dV I j ds vs->∀s c,dC (Vr i ds) s=some c->∃d v,c=⟨false,d⟩/\i<=s/\vs[s-i]?=some v/\dL I j d v:=by
  intro ds;induction ds with
  |nil=>intro vs i _ s c h;simp[Vr,sU]at h
  |cons d ds ih =>
   intro vs i hr s c h;simp only[dV]at hr;obtain⟨x,r,rfl,h1,h2⟩:=hr;simp only[Vr,nH]at h;by_cases his:i=s
   ·subst his;rw[if_pos rfl]at h;cases h;exact⟨d,x,rfl,aM _,by simp,h1⟩
   ·rw[if_neg his]at h;obtain⟨d',v,k1,k2,k3,k4⟩:=ih r (i+1) h2 s c h;refine⟨d',v,k1,by omega,?_,k4⟩;have:s-i=(s-(i+1))+1:=by omega
    rw[this,List.getElem?_cons_succ];exact k3
 refine⟨by simp;omega,fun s c h=>?_,fun s b o h=>by simp[mX,sU]at h,fun s cs h=>by simp[mX,sU]at h,by simp[mX,Bo]⟩;obtain⟨d,v,rfl,_,h2,h3⟩:=key ds vs 0 hr s c h;refine⟨?_,fun h=>by cases h⟩;have:(((⟨vs⟩:Array Value)++Array.replicate (N-vs.length) undef).getD s Go.undef)=v:=by
  have hlt:=(List.getElem?_eq_some_iff.1 h2).1;rw[Array.getD_eq_getD_getElem?,Array.getElem?_append_left (by simpa using hlt)];simp only[Nat.sub_zero]at h2;simp[h2]
 rw[this];exact h3
def Holds(P:Program)(Γ:FuncId->Option dZ):Prop:=∀f af,Γ f=some af->jK f=false/\∃fn,P.funcs[f]?=some fn/\eL P fn af=true
theorem za9:∀(ps:List Nat)(ds:List D)(vs:List Value)(l:List (Nat×Cell))(T:Array Value),dV I j ds vs->ps.length=ds.length->(∀p∈ps,p<T.size)->(∀s c,dC l s=some c->c.own=false/\dL I j c.d (T.getD s Go.undef)) ->
  ((ps.zip vs).foldl (fun t (q:Nat×Value)=>t.setIfInBounds q.1 q.2) T).size=T.size/\∀s c,dC (Ha ps ds l) s=some c->c.own=false/\dL I j c.d (((ps.zip vs).foldl (fun t (q:Nat×Value)=>t.setIfInBounds q.1 q.2) T).getD s Go.undef)
 |[],ds,vs,l,T,_,_,_,h=>by
  refine⟨rfl,fun s c hs=>h s c ?_⟩;cases ds<;>simpa[Ha]using hs
 |p::ps,[],vs,l,T,_,hl,_,_=>by simp at hl
 |p::ps,d::ds,vs,l,T,hr,hl,hp,h=>by
  simp only[dV]at hr;obtain⟨x,vs',rfl,h1,h2⟩:=hr
  have:=za9 ps ds vs' (fF l p ⟨false,d⟩) (T.setIfInBounds p x) h2 (by simpa using hl) (fun q hq=>by simpa using hp q (by simp[hq])) (fun s c hs=>by
   rw[jM]at hs;by_cases hsp:p=s
   ·subst hsp;rw[if_pos rfl]at hs;cases hs;refine⟨rfl,?_⟩;have:(T.setIfInBounds p x).getD p Go.undef=x:=by
     have:=hp p (by simp);simp[Array.getD,this]
    rw[this];exact h1
   ·rw[if_neg hsp]at hs;have:(T.setIfInBounds p x).getD s Go.undef=T.getD s Go.undef:=by
     simp only[Array.getD_eq_getD_getElem?];rw[Array.getElem?_setIfInBounds_ne hsp]
    rw[this];exact h s c hs)
  simpa[Ha]using this
theorem zabb[K:Ql P ‹kQ›]{C:eV}(hC:rM P κ C){n f:Nat}{ds:List D}{out:Out}{O':Store}(hY:jK f=true)(h:Yq C n (f-oV) ds O=some (out,O')):uL P κ f ds O out O':=by
 unfold uL;rw[if_pos hY];generalize f-oV=id at h;intro I j own w vs b hS hB hG hr hb;unfold Yq at h;obtain⟨r,h1,h⟩:=dJ h;obtain⟨h2,h⟩:=gQ h;simp only[aC,beq_iff_eq]at h2;obtain⟨b',q1,q2,L,k1,k2,yu,k3,k4,k5,k6⟩:=hG.dP id _ (MZ h1);rw[hb]at q1;cases q1;have hlen:=hr.length;have hy:=run_yield (P:=P) (args:=⟨vs⟩) k1 (by rw[k2];simp;omega);refine⟨_,_,_,_,hy,?_⟩;have hT:(L.params.zip (⟨vs⟩:Array Value)).foldl (fun tmps (t,a)=>tmps.setIfInBounds t a) L.tmps=(r.params.zip vs).foldl (fun t (q:Nat×Value)=>t.setIfInBounds q.1 q.2) L.tmps:=by
  rw[k2,<-Array.foldl_toList,Array.toList_zip]
 rw[hT];obtain⟨g1,g2⟩:=za9 r.params ds vs r.slots L.tmps hr h2.1.symm yu k3;refine roundIn_of_wpIn (F:=Fence.wide) trivial ?_;have hL:eI I j own (fun _=>none) L.tmps.size {slots:=Ha r.params ds r.slots,dR:=[],boxes:=[],defers:=[]} {tmps:=(r.params.zip vs).foldl (fun t (q:Nat×Value)=>t.setIfInBounds q.1 q.2) L.tmps,defers:=[]} w :=
  ⟨g1,fun s c hs=>⟨(g2 s c hs).2,fun ho=>by rw[(g2 s c hs).1]at ho;cases ho⟩,fun s b o h=>by simp[sU]at h,fun s cs h=>by simp[sU]at h,by simp only[Bo]⟩
 have hro:Yi j (some id) (some b):=⟨b,rfl,hb⟩;cases hx:exec C n (some id) r.assign {slots:=Ha r.params ds r.slots,dR:=[],boxes:=[],defers:=[]} O with
 |none=>rw[hx]at h;simp only[EX,reduceCtorEq]at h
 |some x1 =>
  obtain⟨x,e1,O1⟩:=x1;rw[hx]at h;refine wW hC hB n (rr:=some b) (rd:=true) hro (.inr rfl) r.assign L.assign ((K.iff _ _ _).1 k4) hx ⟨I,j,own,_,hG,hL,fD.refl _ _ _ _ _⟩ ?_;cases x<;>simp only[EX,reduceCtorEq]at h;obtain⟨r1,h3,h⟩:=dJ h;obtain⟨h4,h⟩:=gQ h;rintro a1 w1 ⟨I1,j1,jQ,lb1,s1,s2,s3⟩;have hb1:=s3.lay _ _ hb;obtain⟨L1,t1,t2,t3,t4⟩:=WC s1 h3 hb1 (st:=.busy) (s:=.busy) (p:=none) ⟨rfl,rfl⟩;have hrd:r1.st=.ready:=by
   cases hst:r1.st<;>rw[hst]at h4<;>simp only[Dq.isReady,aE]at h4
  rw[hrd]at t2;have hbr:=run_beginRound (P:=P) t1 t2.1;have hL1:({L1 with state:=LoopState.busy}:Loop)={L1 with state:=.busy,pending:=none}:=by
   obtain⟨_,tp⟩:=t2;cases L1;simp only at tp;rw[tp]
  rw[hL1]at hbr;refine⟨_,hbr,?_⟩;cases hx2:exec C n (some id) r.body e1 (Ed O1 id r1 .busy)with
  |none=>rw[hx2]at h;simp only[EY,reduceCtorEq]at h
  |some x2 =>
   obtain⟨x,e2,O2⟩:=x2;rw[hx2]at h;refine wW hC hB n (rr:=some b) (rd:=true) hro (.inr rfl) r.body L.body ((K.iff _ _ _).1 k5) hx2 ⟨I1,j1,jQ,_,t3,s2.sw t4,s3.trans (t4.weaken fun _ _=>trivial)⟩ ?_;simp only[EY]at h;obtain⟨r2,h5,h⟩:=dJ h
   have fin:∀{a2:Go.Act}{w2:World}(jump:Option Code)(st:Dq),UC st (if jump.isNone then .ready else .done) jump->out=.ret ⟨false,.bool jump.isNone⟩->O'=Ed O2 id r2 st->St I j own w L.tmps.size e2 O2 a2 w2 ->
     ∃v w',(Instr.endRound b jump).run P w2=.ok v w'/\pZ I j own w out O' (.returned v) w':=by
    rintro a2 w2 jump st hst rfl rfl ⟨I2,j2,iL,lb2,p1,p2,p3⟩;obtain⟨L2,u1,u2,u3,u4⟩:=WC p1 h5 (p3.lay _ _ hb) (st:=st) (s:=if jump.isNone then .ready else .done) (p:=jump) hst;exact⟨_,_,run_endRound (P:=P) jump u1,pZ.ret u3 (p3.trans (u4.weaken fun _ _=>trivial)) (by simp only[dL]) (fun h=>by cases h)⟩
   cases x with
   |normal =>simp only[aA,Prod.mk.injEq]at h;exact fun a2 w2 hs=>fin none .ready ⟨rfl,rfl⟩ h.1.symm h.2.symm hs
   |exit i =>simp only[aA,Prod.mk.injEq]at h;exact fun a2 w2 hs=>fin (some (.exit i)) (.done (.exit i)) ⟨rfl,_,rfl,rfl⟩ h.1.symm h.2.symm hs
   |ret =>simp only[aA,Prod.mk.injEq]at h;exact fun a2 w2 hs=>fin (some .ret) (.done .ret) ⟨rfl,_,rfl,rfl⟩ h.1.symm h.2.symm hs
   |panic d=>simp only[reduceCtorEq]at h
   |goto l=>simp only[reduceCtorEq]at h
theorem zdi[K:Ql P ‹kQ›]{C Cq:eV}{R:sD}(hC:rM P κ C)(hD:C9 P κ Cq)(hR:Wv P κ R){n:Nat}{quiet:Bool}{fn:Func}{af:dZ}{ds:List D}{O O':Store}{out:Out}(hok:eL P fn af=true)(hlen:ds.length=af.nargs)
  (h:(match exec C n none af.body (mX ds) O with
     |some r=>zE R Cq quiet af O.next r
     |none=>none)=some (out,O')) :
  ∃c,fn.body=some c/\(fn.name == "runtime.NumGoroutine")=false/\∀I j own w vs,zA own->Base κ own w->eH I j own O w->dV I j ds vs ->
   (quiet=false->c.wp P (XZ P fn (pZ I j own w out O')) {tmps:=(⟨vs⟩:Array Value)++Array.replicate (fn.ntmps-vs.length) undef,defers:=[]} w) /\
   (quiet=true->c.wp P (bodyPost P fn (pZ I j own w out O')) {tmps:=(⟨vs⟩:Array Value)++Array.replicate (fn.ntmps-vs.length) undef,defers:=[]} w):=by
 unfold eL at hok;split at hok
 ·rename_i c hc;simp only[aC,Bool.not_eq_true',cE]at hok;obtain⟨⟨⟨hname,hnt⟩,hcode⟩,hres⟩:=hok;refine⟨c,hc,hname,fun I j own w vs hS hB hG hr=>?_⟩;cases hx:exec C n none af.body (mX ds) O with
  |none=>rw[hx]at h;cases h
  |some r =>
   rw[hx]at h;simp only at h;obtain⟨x,e1,O1⟩:=r;simp only[zE]at h;obtain⟨hq,h⟩:=gQ' h;have hL:=zbbb (N:=fn.ntmps) hG hr (by omega);have hSt:St I j own w fn.ntmps (mX ds) O {tmps:=(⟨vs⟩:Array Value)++Array.replicate (fn.ntmps-vs.length) undef,defers:=[]} w:=⟨I,j,own,_,hG,hL,fD.refl _ _ _ _ _⟩
   have fin1:∀{c0:Cell}{O2:Store},vV e1 O2 af.res=some c0->out=.ret c0->O'=dK af.gc (O2.trunc O.next) O2->∀{I' j' own' lb' w'}{a':Go.Act},eH I' j' own' O2 w'->eI I' j' own' lb' fn.ntmps e1 a' w'->fD I j own w I' j' own' w' (fun _=>True) ->
     ∃v,(results fn a'.tmps).run P w'=.ok v w'/\pZ I j own w out O' (.returned v) w':=by
    rintro c0 O2 hres2 rfl rfl I' j' own' lb' w' a' g1 g2 g3;obtain⟨v,k1,k2,k3⟩:=zpe g1 g2 hres hres2;exact⟨v,k1,pZ.ret (g1.trunc _ _) g3 k2 k3⟩
   have zkq:∀{m:Option D}{r:Option D×Store},qL R Cq m e1.defers O1=some r ->
     (match r.1 with|none=>dH (vV e1 r.2 af.res) fun c=>some (Out.ret c,dK af.gc (r.2.trunc O.next) r.2)|some d'=>some (Out.panic d',dK af.gc (r.2.trunc O.next) r.2))=some (out,O') ->
     ∀{I' j' own' lb'}{a1:Go.Act}{w1 u},yU I' j' m u->eH I' j' own' O1 w1->eI I' j' own' lb' fn.ntmps e1 a1 w1->fD I j own w I' j' own' w1 (fun _=>True) ->
     tJ P fn a1.tmps (pZ I j own w out O') a1.defers u w1/\(e1.defers=[]->a1.defers=[]/\tJ P fn a1.tmps (pZ I j own w out O') [] u w1):=by
    intro m r h1 h2 I' j' own' lb' a1 w1 u hm g1 g2 g3;have last:∀(I'':fU)(vS:fJ) wC w'' u',yU I'' vS r.1 u'->eH I'' vS wC r.2 w''->eI I'' vS wC lb' fn.ntmps e1 a1 w''->fD I j own w I'' vS wC w'' (fun _=>True)->tJ P fn a1.tmps (pZ I j own w out O') [] u' w'':=by
     intro I'' vS wC w'' u' hm' k1 k2 k3;obtain⟨rm,rO⟩:=r;cases rm with
     |none =>simp only[yU]at hm';subst hm';simp only at h2;obtain⟨c0,h3,h2⟩:=dJ h2;cases h2;exact fin1 h3 rfl rfl k1 k2 k3
     |some d' =>obtain⟨v,rfl,hv⟩:=hm';simp only[aA,Prod.mk.injEq]at h2;obtain⟨rfl,rfl⟩:=h2;exact pZ.panic (k1.trunc _ _) k3 hv
    refine⟨KZ hR hD hB e1.defers a1.defers rfl hm g2.defers g1 g2 g3 h1 (fun I'' vS wC w'' u' k0 k1 k2 k3 k4=>last I'' vS wC w'' u' k0 k1 k2 k4),fun hnil=>?_⟩;have hd:=g2.defers;rw[hnil]at hd h1;simp only[Bo]at hd;simp only[qL,aA]at h1;subst h1;exact⟨hd,last I' j' own' w1 u hm g1 g2 g3⟩
   have UT:∀{r:Option D×Store},qL R Cq none e1.defers O1=some r ->
     (match r.1 with|none=>dH (vV e1 r.2 af.res) fun c=>some (Out.ret c,dK af.gc (r.2.trunc O.next) r.2)|some _=>none)=some (out,O') ->
     ∀a1 w1,St I j own w fn.ntmps e1 O1 a1 w1->tJ P fn a1.tmps (pZ I j own w out O') a1.defers .returning w1/\(e1.defers=[]->a1.defers=[]/\tJ P fn a1.tmps (pZ I j own w out O') [] .returning w1):=by
    rintro⟨rm,rO⟩ h1 h2 a1 w1 ⟨I',j',own',lb',g1,g2,g3⟩;cases rm with
    |none=>exact zkq h1 h2 (m:=none) (by simp only[yU]) g1 g2 g3
    |some d'=>simp only at h2;cases h2
   have zkz:∀{d:D}{r:Option D×Store},qL R Cq (some d) e1.defers O1=some r ->
     (match r.1 with|none=>dH (vV e1 r.2 af.res) fun c=>some (Out.ret c,dK af.gc (r.2.trunc O.next) r.2)|some d'=>some (Out.panic d',dK af.gc (r.2.trunc O.next) r.2))=some (out,O') ->
     ∀a1 w1 chain,Jf I j own w fn.ntmps d chain e1 O1 a1 w1->tJ P fn a1.tmps (pZ I j own w out O') a1.defers (.panicking chain) w1/\(e1.defers=[]->a1.defers=[]/\tJ P fn a1.tmps (pZ I j own w out O') [] (.panicking chain) w1):=by
    rintro d r h1 h2 a1 w1 chain ⟨I',j',own',lb',g1,g2,g3,v,rfl,g4⟩;exact zkq h1 h2 (m:=some d) ⟨v,rfl,g4⟩ g1 g2 g3
   refine⟨fun _=>?_,fun yc=>?_⟩
   ·refine wpIn_wide.1 (wW hC hB n (ro:=none) (rr:=none) (rd:=false) rfl (.inl rfl) af.body c hcode hx hSt ?_);cases x with
    |normal =>obtain⟨r,h1,h⟩:=dJ h;exact fun a1 w1 hs=>(UT h1 h a1 w1 hs).1
    |ret =>obtain⟨r,h1,h⟩:=dJ h;exact fun a1 w1 hs=>(UT h1 h a1 w1 hs).1
    |panic d =>obtain⟨r,h1,h⟩:=dJ h;exact fun a1 w1 chain hs=>(zkz h1 h a1 w1 chain hs).1
    |exit id=>cases h
    |goto l=>cases h
   ·have hnil:e1.defers=[]:=(by rw[yc]at hq;simpa using hq);refine wpIn_wide.1 (wW hC hB n (ro:=none) (rr:=none) (rd:=false) rfl (.inl rfl) af.body c hcode hx hSt ?_);cases x with
    |normal =>obtain⟨r,h1,h⟩:=dJ h;exact fun a1 w1 hs=>(UT h1 h a1 w1 hs).2 hnil
    |ret =>obtain⟨r,h1,h⟩:=dJ h;exact fun a1 w1 hs=>(UT h1 h a1 w1 hs).2 hnil
    |panic d =>obtain⟨r,h1,h⟩:=dJ h;exact fun a1 w1 chain hs=>(zkz h1 h a1 w1 chain hs).2 hnil
    |exit id=>cases h
    |goto l=>cases h
 ·cases hok
theorem NF[K:Ql P ‹kQ›]{Γ:FuncId->Option dZ}{R:sD}{X:eV}(hΓ:Holds P Γ)(hR:Wv P κ R)(hX:rM P κ X):∀n,rM P κ (pS Γ R X n false)/\C9 P κ (pS Γ R X n true)
 |0=>⟨fun _ _ _ _ _ h=>by simp[pS]at h,fun _ _ _ _ _ h=>by simp[pS]at h⟩
 |n+1=>by
  obtain⟨hC,hD⟩:=NF hΓ hR hX n
  have body:∀{quiet f ds O out O'},pS Γ R X (n+1) quiet f ds O=some (out,O')->(Γ f=none/\quiet=false/\dK (jK f) (Yq (pS Γ R X n false) n (f-oV) ds O) (X f ds O)=some (out,O')) \/
    jK f=false/\∃fn c,P.funcs[f]?=some fn/\fn.body=some c/\(fn.name == "runtime.NumGoroutine")=false/\∀I j own w vs,zA own->Base κ own w->eH I j own O w->dV I j ds vs ->
     (quiet=false->c.wp P (XZ P fn (pZ I j own w out O')) {tmps:=(⟨vs⟩:Array Value)++Array.replicate (fn.ntmps-vs.length) undef,defers:=[]} w) /\
     (quiet=true->c.wp P (bodyPost P fn (pZ I j own w out O')) {tmps:=(⟨vs⟩:Array Value)++Array.replicate (fn.ntmps-vs.length) undef,defers:=[]} w):=by
   intro quiet f ds O out O' h;simp only[pS]at h;cases hg:Γ f with
   |none =>rw[hg]at h;simp only at h;obtain⟨h1,h⟩:=gQ' h;exact .inl ⟨rfl,h1,h⟩
   |some af =>rw[hg]at h;simp only at h;obtain⟨hlen,h⟩:=gQ h;obtain⟨hYf,fn,hfn,hok⟩:=hΓ f af hg;obtain⟨c,h1,h2,h3⟩:=zdi hC hD hR hok (by simpa using hlen) h;exact .inr ⟨hYf,fn,c,hfn,h1,h2,h3⟩
  refine⟨fun f ds O out O' h=>?_,fun f ds O out O' h=>?_⟩
  ·rcases body h with⟨_,_,hx⟩|⟨hY,fn,c,h1,h2,h3,h4⟩
   ·cases hY:jK f with
    |true=>rw[hY,dQ]at hx;exact zabb hC hY hx
    |false=>rw[hY,dX]at hx;exact hX f ds O out O' hx
   ·exact(wY hY).2 ⟨⟨fn,c,h1,h3,h2⟩,fun I j own w vs hS hB hG hr=>ze h1 h2 ((h4 I j own w vs hS hB hG hr).1 rfl)⟩
  ·rcases body h with⟨_,hq,_⟩|⟨_,fn,c,h1,h2,h3,h4⟩
   ·cases hq
   ·exact⟨⟨fn,c,h1,h3,h2⟩,fun I j own w vs u hS hB hG hr=>callsD_of_wp h1 h2 ((h4 I j own w vs hS hB hG hr).2 rfl)⟩
theorem zd4b[K:Ql P ‹kQ›]{C Cq:eV}{R:sD}(hC:rM P κ C)(hD:C9 P κ Cq)(hR:Wv P κ R){n f:Nat}{fn:Func}{af:dZ}{ds:List D}{O O':Store}{out:Out}(hY:jK f=false)(hfn:P.funcs[f]?=some fn)(hok:eL P fn af=true)(hlen:ds.length=af.nargs)
  (h:(match exec C n none af.body (mX ds) O with
     |some r=>zE R Cq false af O.next r
     |none=>none)=some (out,O')):uL P κ f ds O out O':=by
 obtain⟨c,h1,h2,h3⟩:=zdi hC hD hR hok hlen h;exact(wY hY).2 ⟨⟨fn,c,hfn,h2,h1⟩,fun I j own w vs hS hB hG hr=>ze hfn h1 ((h3 I j own w vs hS hB hG hr).1 rfl)⟩
end
mutual
def iF:D->Bool
 |.ptr _ _=>false
 |.arr _ _ _ _=>false
 |.map _=>false
 |.sT _=>false
 |.agg cs=>fO cs
 |.fN ds=>fO ds
 |.list _ es=>fO es
 |.gC d=>iF d
 |.fn _ a b=>fO a&&fO b
 |.iface _ d=>iF d
 |_=>true
def fO:List D->Bool
 |[]=>true
 |d::l=>iF d&&fO l
end
mutual
theorem dL.swap{I:fU}{j j':fJ}:∀(d:D)(v:Value),iF d=true->dL I j d v->dL I j' d v
 |.undef,_,_,h|.bool _,_,_,h|.int _ _,_,_,h|.str _,_,_,h|.dN,_,_,h|.rR,_,_,h|.tP,_,_,h|.rY,_,_,h|.mV,_,_,h|.lH,_,_,h=>by simpa only[dL]using h
 |.arr _ _ _ _,_,hp,_|.map _,_,hp,_|.sT _,_,hp,_=>by simp only[iF,aE]at hp
 |.Md,_,_,_=>by simp only[dL]
 |.list sz es,v,hp,h=>by
  simp only[iF]at hp;simp only[dL]at h ⊢;obtain⟨a,cap,h1,h2,h3,h4⟩:=h;refine⟨a,cap,h1,h2,h3,?_⟩;rcases h4 with h4|⟨b,o,ha,hr⟩
  ·exact .inl h4
  ·exact .inr ⟨b,o,ha,jS.swap sz.sz es b o hp hr⟩
 |.agg cs,v,hp,h=>by
  simp only[iF]at hp;simp only[dL]at h ⊢;obtain⟨vs,h1,h2,h3⟩:=h;exact⟨vs,h1,dV.swap cs vs hp h2,h3⟩
 |.fN ds,v,hp,h=>by
  simp only[iF]at hp;simp only[dL]at h ⊢;obtain⟨vs,h1,h2⟩:=h;exact⟨vs,h1,dV.swap ds vs hp h2⟩
 |.ptr id off,v,hp,h=>by simp[iF]at hp
 |.gC d,v,hp,h=>by
  simp only[iF]at hp;simp only[dL]at h ⊢;obtain⟨b,o,x,h1,h2,h3⟩:=h;exact⟨b,o,x,h1,h2,dL.swap d x hp h3⟩
 |.fn f first nS,v,hp,h=>by
  simp only[iF,aC]at hp;simp only[dL]at h ⊢;obtain⟨vf,vc,h1,h2,h3⟩:=h;exact⟨vf,vc,h1,dV.swap first vf hp.1 h2,dV.swap nS vc hp.2 h3⟩
 |.iface t d,v,hp,h=>by
  simp only[iF]at hp;simp only[dL]at h ⊢;obtain⟨x,h1,h2⟩:=h;exact⟨x,h1,dL.swap d x hp h2⟩
theorem dV.swap{I:fU}{j j':fJ}:∀(ds:List D)(vs:List Value),fO ds=true->dV I j ds vs->dV I j' ds vs
 |[],_,_,h=>by simpa only[dV]using h
 |d::ds,vs,hp,h=>by
  simp only[fO,aC]at hp;simp only[dV]at h ⊢;obtain⟨x,r,h1,h2,h3⟩:=h;exact⟨x,r,h1,dL.swap d x hp.1 h2,dV.swap ds r hp.2 h3⟩
theorem jS.swap{I:fU}{j j':fJ}(sz:Nat):∀(ds:List D)(b o:Nat),fO ds=true->jS I j sz ds b o->jS I j' sz ds b o
 |[],_,_,_,_=>by simp only[jS]
 |d::ds,b,o,hp,h=>by
  simp only[fO,aC]at hp;simp only[jS]at h ⊢;obtain⟨⟨x,h1,h2,h3⟩,h4⟩:=h;exact⟨⟨x,h1,h2,dL.swap d x hp.1 h3⟩,jS.swap sz ds b (o+sz) hp.2 h4⟩
end
def cH:Store:={dE:=[],fH:=[],dP:=[],next:=0}
section
variable[kQ]{P:Program}{I:fU}{j:fJ}{own:gZ}{w:World}{O:Store}{κ:Ctx}
theorem eH.empty(hG:eH I j own O w):eH I (fun _=>none) (fun _=>none) cH w where
 holds:=hG.holds
 kS:=fun _ _ h=>by cases h
 dE:=fun id cs h=>by simp[cH,sU]at h
 fH:=fun id t cs h=>by simp[cH,sU]at h
 dP:=fun id x h=>by simp[cH,sU]at h
 mG:=fun _ _ h=>by cases h
 jU:=fun _ _ h=>by cases h
theorem eH.onto{I':fU}{j':fJ}{own':gZ}{O':Store}{w':World}(hG:eH I j own O w)(hG':eH I' j' own' O' w')(hE:fD I (fun _=>none) (fun _=>none) w I' j' own' w' (fun _=>True)) :
  eH I' j own O w'/\fD I j own w I' j own w' (fun _=>True):=by
 have hE2:fD I j own w I' j own w' (fun _=>False):=⟨hE.os,hE.tape,hE.output,hE.size,hE.qY,fun _ _ h=>h,fun b hb _=>by
  obtain⟨k1,_,k3⟩:=hE.block b hb (fun t h=>by cases h);exact⟨k1,rfl,k3⟩⟩
 refine⟨hG.kN hE2 hG'.holds (fun b t h hu o=>?_) (fun b t h=>aP (hG.jU b t h) hE.size) hG.mG (fun _ _ _=>⟨fun h=>h,fun _ _ _ _ h=>h⟩) (fun _ _ _ h=>h),hE2.weaken fun _ h=>h.elim⟩;rw[(hE2.block b (hG.jU b t h) (fun _ _ h=>h)).2.2 o];exact hG.kS b t h hu o
def Out.clean:Out->Bool
 |.ret c=>iF c.d
 |.panic d=>iF d
theorem XG{f:FuncId}{ds:List D}{out:Out}{O':Store}(hY:jK f=false)(h:uL P κ f ds cH out O')(hd:fO ds=true)(hc:out.clean=true)(O:Store):uL P κ f ds O out O:=by
 replace h:=(wY hY).1 h
 refine(wY hY).2 ⟨h.1,fun I j own w vs hS hB hG hr=>?_⟩;refine(h.2 I (fun _=>none) (fun _=>none) w vs (fun _ _ h=>by cases h) ⟨hB.size,fun _ _=>rfl,hB.K⟩ hG.empty (dV.swap ds vs hd hr)).mono ?_;rintro e w' ⟨I',j',own',k1,k2,k3,k4⟩;obtain⟨g1,g2⟩:=hG.onto k1 k2;refine⟨I',j,own,g1,g2,hS,?_⟩;cases out with
 |ret c =>
  cases e with
  |returned v =>
   simp only at k4 ⊢;refine⟨dL.swap c.d v hc k4.1,fun ho=>?_⟩;have hF:=k4.2 ho;unfold FE at hF ⊢;cases hp:yJ c.d v with
   |none=>trivial
   |some p =>
    rw[hp]at hF;rcases hF with hF|⟨b,cap,cur,T,f1,f2,f3,f4,f5,f6⟩
    ·exact .inl hF
    ·have hb:w.heap.size<=b:=f2.resolve_right (by simp);refine .inr ⟨b,cap,cur,T,f1,.inl hb,?_,f4,f5,f6⟩;cases ho:own b with
     |none=>rfl
     |some t=>have:=hG.jU b t ho;omega
  |panicked chain=>exact k4.elim
  |outgrown=>exact k4.elim
 |panic d =>
  cases e with
  |returned v=>exact k4.elim
  |outgrown=>exact k4.elim
  |panicked chain =>obtain⟨v,rfl,hv⟩:=k4;exact⟨v,rfl,dL.swap d v hc hv⟩
theorem zzf{f:FuncId}{ds:List D}{c:D}(hY:jK f=false)(hb:D6 P f)(h:∀I j own w vs,Base κ own w->eH I j own O w->dV I j ds vs->Calls P f ⟨vs⟩ w fun e w'=>∃v,e=.returned v/\RowKit.Below w.heap.size w w'/\dL I j c v):uL P κ f ds O (.ret ⟨false,c⟩) O:=by refine(wY hY).2 ⟨hb,fun I j own w vs hS hB hG hr=>(h I j own w vs hB hG hr).mono ?_⟩;rintro e w' ⟨v,rfl,hx,hv⟩;have hE:fD I j own w I j own w' (fun _=>False):=⟨hx.os,hx.tape,hx.output,hx.size,fun _ _ _ h=>h,fun _ _ h=>h,fun b hb _=>⟨hx.block b hb,rfl,fun _=>rfl⟩⟩;refine⟨I,j,own,hG.kN hE (fun b o v h=>?_) hG.kS (fun b t h=>aP (hG.jU b t h) hx.size) hG.mG (fun _ _ _=>⟨fun h=>h,fun _ _ _ _ h=>h⟩) (fun _ _ _ h=>h),hE.weaken (fun _ h=>h.elim),hS,hv,fun h=>by cases h⟩;rw[World.cell?_of_block (w:=w) (w':=w') (a:=⟨b,o,none⟩) (hx.block b (Ef hG h))];exact hG.holds b o v h
theorem eH.setObj(hG:eH I j own O w){id B:Nat}{cs cs':List Cell}{cur:Array Value}{T:TypeId}{vs':List Value}{w':World}(hcs:dC O.dE id=some cs)(hB:j id=some B)(hown:own B=some (.obj id))
  (hos:w'.os=w.os) (zlib:w'.tape=w.tape) (hout:w'.output=w.output) (hsize:w.heap.size<=w'.heap.size) (hoth:∀b,b≠B->w'.heap[b]?=w.heap[b]?) (h0:w.heap[B]?=some (.cells cur T (0,0))) (h1:w'.heap[B]?=some (.cells ⟨vs'⟩ T (0,0)))
  (hlen:cs'.length<=vs'.length) (oH:vs'.length=cur.size) (hcells:∀(i:Nat)(c:Cell),cs'[i]?=some c->∃v,vs'[i]?=some v/\v.oneCell'=true/\uG I j own w' (.uV id i) c v) :
  eH I j own {O with dE:=fF O.dE id cs'} w'/\fD I j own w I j own w' (fun t=>t=.obj id):=by
 have hE:fD I j own w I j own w' (fun t=>t=.obj id):=⟨hos,zlib,hout,hsize,fun _ _ _ h=>h,fun _ _ h=>h,fun b _ hb=>⟨hoth b (fun e=>hb _ (e▸hown) rfl),rfl,fun _=>rfl⟩⟩;refine⟨⟨fun b o v h=>?_,hG.kS,fun id' cs2 h=>?_,fun id' t cs2 k1 k2 b hb=>?_,fun id' x h=>?_,hG.mG,fun b t h=>aP (hG.jU b t h) hsize⟩,hE⟩
 ·have hne:b≠B:=fun e=>by
   rw[e,hG.kS B _ hown rfl o]at h;cases h
  rw[World.cell?_of_block (w:=w) (w':=w') (a:=⟨b,o,none⟩) (hoth b hne)];exact hG.holds b o v h
 ·simp only[jM]at h;by_cases hid:id=id'
  ·subst hid;rw[if_pos rfl]at h;cases h;exact⟨B,hB,hown,vs',T,h1,by omega,hcells⟩
  ·rw[if_neg hid]at h;obtain⟨B2,q1,q2,q3⟩:=hG.dE id' cs2 h;exact⟨B2,q1,q2,hE.zB q2 (fun h=>by cases h;exact hid rfl) (fun _ _ _ _ h=>by cases h) q3⟩
 ·have hex:∃cs0,dC O.dE id'=some cs0:=by
   simp only[jM]at k2;split at k2
   ·rename_i hh;subst hh;exact⟨cs,hcs⟩
   ·exact⟨cs2,k2⟩
  obtain⟨cs0,JM⟩:=hex;have hty:=hG.fH id' t cs0 k1 JM b hb;by_cases yQ:b=B
  ·subst yQ;obtain⟨row,hrow,hsz⟩:=hty;have hrc:=hrow;rw[h0]at hrc;cases hrc;refine⟨_,h1,fun hp=>?_⟩;obtain⟨c,e1,e2,e3⟩:=hsz hp;exact⟨c,e1,by rw[<-e2,<-oH];rfl,e3⟩
  ·exact hty.keep (hoth b yQ) (fun _ _ h=>h)
 ·obtain⟨B2,q1,q2,q3⟩:=hG.dP id' x h;have yQ:B2≠B:=fun e=>by
   subst e;exact q3.Jt h0
  exact⟨B2,q1,q2,q3.keep (hoth B2 yQ) (fun _ _ _ h=>h) (fun _ _ h=>h)⟩
end
open Go Go.ChangeShapes Go.WideShapes Go.RowKit
theorem zac{H:Type}{enc:TypeId×Value->H}{P:Program}(hl:laidOutB P=true){W W':World}(hb:Below W.heap.size W W'):∀{ts:List TypeId}{vs:List Value}{ds:List (DataW H)}{ps:List MemPlace},(∀t∈ts,P.readableRec t=true/\t<P.types.size) ->
  DataW.TrodAll enc P W 0 (fun _=>true) true ts vs ds ps->(∀x∈ps,x.block<W.heap.size)->DataW.TrodAll enc P W' 0 (fun b=>decide (b<W.heap.size)) true ts vs ds ps
 |[],vs,ds,ps,_,h,_=>by
  obtain⟨rfl,rfl,rfl⟩:=trodAll_nil h;exact trodAll_mk0
 |t::ts,vs,ds,ps,ht,h,hlt=>by
  obtain⟨v,vs',d,ds',p,q,rfl,rfl,rfl,h1,h2⟩:=trodAll_cons h;obtain⟨hr,hs⟩:=ht t (aQ ..);exact trodAll_cons_mk (Below.trod hl hr hs h1 hb fun x hx=>hlt x (List.mem_append_left _ hx)) (zac hl hb (fun u hu=>ht u (aI _ hu)) h2 fun x hx=>hlt x (List.mem_append_right _ hx))
theorem zzb{H:Type}{enc:TypeId×Value->H}{P:Program}{f:Func}{s:ChangeSpec}{fresh handsOn:Bool}{W W':World}{args:Array Value}{ds:List (DataW H)}{before:List MemPlace}(hl:laidOutB P=true)(hb:Below W.heap.size W W')
  (hv:s.vars=[]) (hps:∀t∈f.params.toList,P.readableRec t=true/\t<P.types.size) (hW:DataW.Whole enc P f.params.toList s.vars false W args.toList ds [] before) (hA:DataW.TrodAll enc P W 0 (fun _=>true) true f.params.toList args.toList ds before)
  {tb:TypeId} (hres:f.resultTypes.toList=[tb]) (htb:P.underlying tb=some .bool) (hrf:(s.fn H (ds++[])).results=[.lit (.bool true)]) (haf:(s.fn H (ds++[])).args=ds) (hvf:(s.fn H (ds++[])).vars=[]) :
  s.post enc P f false fresh handsOn false W args (.bool true) W':=by
 have hlt:∀x∈before,x.block<W.heap.size:=fun x hx=>hW.lt x hx;have hsz:f.resultTypes.size=1:=by
  have:=congrArg List.length hres;simpa using this
 refine⟨ds,[],before,[],before,[],hW,?_,?_,?_,hb.frame _,fun h=>by cases h⟩
 ·rw[hres,hrf,hsz];exact trodAll_cons_mk (shut_bool htb true) trodAll_mk0
 ·rw[haf];exact zac hl hb hps hA hlt
 ·rw[hv,hvf];rfl
def F8(W:World):fU:=fun b o=>W.cell? ⟨b,o,none⟩
theorem zbib[kQ]{P:Program}{κ:Ctx}{f:FuncId}{Ds:List D}{args:List Value}{W:World}{O':Store}(hY:jK f=false)(hn:κ.n<=W.heap.size)(hK:κ.K W)(hC:uL P κ f Ds cH (.ret ⟨false,.bool true⟩) O')(hr:dV (F8 W) (fun _=>none) Ds args) :
  Calls P f ⟨args⟩ W fun e W'=>e=.returned (.bool true)/\Below W.heap.size W W':=by
 refine(((wY hY).1 hC).2 (F8 W) (fun _=>none) (fun _=>none) W args (fun _ _ h=>by cases h) ⟨hn,fun _ _=>rfl,hK⟩ ⟨fun _ _ _ h=>h,(fun _ _ h=>by cases h),(fun _ _ h=>by cases h),(fun _ _ _ h=>by cases h),(fun _ _ h=>by cases h),(fun _ _ h=>by cases h),(fun _ _ h=>by cases h)⟩ hr).mono ?_;rintro e W' ⟨I',j',own',k1,k2,k3,k4⟩;cases e with
 |returned v =>have hv:=k4.1;simp only[dL]at hv;rw[hv];exact⟨rfl,⟨k2.os,k2.tape,k2.output,k2.size,fun b hb=>(k2.block b hb fun _ h=>by cases h).1⟩⟩
 |panicked c=>exact k4.elim
 |outgrown=>exact k4.elim
def ja(k:RowK)(d:D)(xs:List Int):Prop:=d=.list k (xs.map fun x=>.int .i64 x)\/(xs=[]/\d=.dN)
theorem zbd{n:Int}(h:(Lit.int .i64 n).wf=true):-9223372036854775808<=n/\n<=9223372036854775807:=by have e1:IntKind.i64.min=-9223372036854775808:=rfl;have e2:IntKind.i64.max=9223372036854775807:=rfl;simpa[Lit.wf,e1,e2]using h
theorem zba{W:World}{k:RowK}(hk:k.sz=1){b:Nat}:∀(xs:List Int)(o:Nat),(∀i,i<xs.length->W.cell? ⟨b,o+i,none⟩=some (.int .i64 (xs.getD i 0)))->jS (F8 W) (fun _=>none) k.sz (xs.map fun x=>.int .i64 x) b o
 |[],_,_=>by simp[jS]
 |x::xs,o,h=>by
  simp only[aO,jS];refine⟨⟨.int .i64 x,fun i y hy=>?_,by rw[hk];rfl,by simp[dL]⟩,zba hk xs (o+k.sz) fun i hi=>?_⟩
  ·cases i with
   |zero =>simp[Value.cells]at hy;subst hy;have:=h 0 (by simp);simpa[F8]using this
   |succ i=>simp[Value.cells]at hy
  ·have:=h (i+1) (by simpa using hi);rw[hk,show o+1+i=o+(i+1) by omega];simpa using this
theorem zcmb{H:Type}{enc:TypeId×Value->H}{P:Program}{W:World}{t e:TypeId}{v:Value}{d0:DataW H}{p:List MemPlace}(ht:P.underlying t=some (.slice e))(he:P.underlying e=some (.int .i64))(hc:P.cellsOf e=1){base:Nat}(hval:Value.okWide P W .any base t v)
  (h:DataW.Trod enc P W 0 (fun _=>true) true t v d0 p) (k:RowK) (hk:k.sz=1):∃d xs,ja k d xs/\(∀x∈xs,-9223372036854775808<=x/\x<=9223372036854775807)/\dL (F8 W) (fun _=>none) d v:=by
 obtain⟨a0,len,cap,rfl⟩:=okWide_slice ht hval;obtain⟨fuel,hf⟩:=h;rcases open_ints ht he hc hf with⟨hcs,hx⟩|⟨a,len',cap',zs,hcs,_,hl,hm,hz,hx,hcell,hwz⟩
 ·simp[Value.cells]at hcs;obtain⟨rfl,rfl,rfl⟩:=hcs;exact⟨.dN,[],.inr ⟨rfl,rfl⟩,(fun x hx=>by cases hx),by simp[dL]⟩
 ·simp[Value.cells]at hcs;obtain⟨rfl,rfl,rfl⟩:=hcs;simp only[if_true]at hz;have hlen:(zs.take len).length=len:=by simp;omega
  refine⟨.list k ((zs.take len).map fun x=>.int .i64 x),zs.take len,.inl rfl,fun x hx=>zbd (hwz x (bH hx)),?_⟩;simp only[dL];refine⟨some a,cap,by rw[aJ,hlen],by rw[aJ,hlen];exact hl,hm,?_⟩;by_cases h0:len=0
  ·left;subst h0;simp
  ·right;obtain⟨b,off,spot⟩:=a;have hspot:spot=none:=by simpa[Addr.add]using World.cell?_spot (hcell 0 (by omega))
   subst hspot;refine⟨b,off,rfl,zba hk _ _ fun i hi=>?_⟩;rw[hlen]at hi;have:=hcell i (by omega);rw[add_plain]at this;rw[this,List.getD_eq_getElem?_getD,List.getD_eq_getElem?_getD,List.getElem?_take_of_lt hi]
theorem zgib{H:Type}{enc:TypeId×Value->H}{P:Program}{W:World}{t:TypeId}{v:Value}{d0:DataW H}{p:List MemPlace}(ht:P.underlying t=some (.int .i64)){base:Nat}(hval:Value.okWide P W .any base t v)
  (h:DataW.Trod enc P W 0 (fun _=>true) true t v d0 p):∃n,(-9223372036854775808<=n/\n<=9223372036854775807)/\dL (F8 W) (fun _=>none) (.int .i64 n) v:=by
 obtain⟨n,rfl,_,_,hw⟩:=open_int ht hval h;exact⟨n,zbd hw,by simp[dL]⟩
end Go.Mx
namespace Go.Proofs
open Go.Shelf
open Go.Lib in
open Go.Lib in
open Go.Lib in
open Go.Lib in
open Go.RowKit Go.Sort Go.Lib in
open Go.RowKit Go.Sort Go.Lib in
open Go.RowKit Go.Sort Go.Lib in
open Go.RowKit Go.Sort Go.Lib in
open Go.RowKit Go.Sort Go.Lib in
def Tryz.laysM171_ren:Go.Shelf.Ren:=⟨fun|171=>30|243=>67|246=>118|283=>143|284=>144|285=>145|286=>146|129=>160|317=>159|318=>161|319=>162|320=>163|337=>177|338=>178|n=>n,fun|3=>3|9=>9|2=>2|4=>4|171=>182|0=>0|53=>183|37=>68|5=>5|173=>186|212=>199|51=>200|20=>20|213=>201|46=>191|232=>230|233=>231|n=>n,fun|17=>0|18=>1|19=>2|n=>n⟩
theorem Tryz.laysM171:Go.Proofs.LaysM.n171 Tryz.prog Tryz.laysM171_ren:={
 mixed:=by kernel_rfl
 f129:=Tryz.func160.trans (congrArg some (by kernel_rfl))
 f171:=Tryz.func30.trans (congrArg some (by kernel_rfl))
 f243:=Tryz.func67.trans (congrArg some (by kernel_rfl))
 f246:=Tryz.func118.trans (congrArg some (by kernel_rfl))
 f283:=Tryz.func143.trans (congrArg some (by kernel_rfl))
 f284:=Tryz.func144.trans (congrArg some (by kernel_rfl))
 f285:=Tryz.func145.trans (congrArg some (by kernel_rfl))
 f286:=Tryz.func146.trans (congrArg some (by kernel_rfl))
 f317:=Tryz.func159.trans (congrArg some (by kernel_rfl))
 f318:=Tryz.func161.trans (congrArg some (by kernel_rfl))
 f319:=Tryz.func162.trans (congrArg some (by kernel_rfl))
 f320:=Tryz.func163.trans (congrArg some (by kernel_rfl))
 f337:=Tryz.func177.trans (congrArg some (by kernel_rfl))
 f338:=Tryz.func178.trans (congrArg some (by kernel_rfl))
 t0:=Tryz.underlying0
 a0:=Tryz.isAgg0
 z0:=Tryz.sizeOf0
 v0:=Tryz.zeroValue0
 t2:=Tryz.underlying2
 a2:=Tryz.isAgg2
 z2:=Tryz.sizeOf2
 v2:=Tryz.zeroValue2
 t3:=Tryz.underlying3
 a3:=Tryz.isAgg3
 z3:=Tryz.sizeOf3
 v3:=Tryz.zeroValue3
 t4:=Tryz.underlying4
 a4:=Tryz.isAgg4
 z4:=Tryz.sizeOf4
 v4:=Tryz.zeroValue4
 t5:=Tryz.underlying5
 a5:=Tryz.isAgg5
 z5:=Tryz.sizeOf5
 v5:=Tryz.zeroValue5
 t9:=Tryz.underlying9
 a9:=Tryz.isAgg9
 z9:=Tryz.sizeOf9
 v9:=Tryz.zeroValue9
 t20:=Tryz.underlying20
 a20:=Tryz.isAgg20
 z20:=Tryz.sizeOf20
 v20:=Tryz.zeroValue20
 t37:=Tryz.underlying68
 a37:=Tryz.isAgg68
 z37:=Tryz.sizeOf68
 v37:=Tryz.zeroValue68
 t46:=Tryz.underlying191
 a46:=Tryz.isAgg191
 z46:=Tryz.sizeOf191
 v46:=Tryz.zeroValue191
 t51:=Tryz.underlying200
 a51:=Tryz.isAgg200
 z51:=Tryz.sizeOf200
 v51:=Tryz.zeroValue200
 t53:=Tryz.underlying183
 a53:=Tryz.isAgg183
 z53:=Tryz.sizeOf183
 v53:=Tryz.zeroValue183
 t171:=Tryz.underlying182
 a171:=Tryz.isAgg182
 z171:=Tryz.sizeOf182
 v171:=Tryz.zeroValue182
 t173:=Tryz.underlying186
 a173:=Tryz.isAgg186
 z173:=Tryz.sizeOf186
 v173:=Tryz.zeroValue186
 t212:=Tryz.underlying199
 a212:=Tryz.isAgg199
 z212:=Tryz.sizeOf199
 v212:=Tryz.zeroValue199
 t213:=Tryz.underlying201
 a213:=Tryz.isAgg201
 z213:=Tryz.sizeOf201
 t232:=Tryz.underlying230
 a232:=Tryz.isAgg230
 z232:=Tryz.sizeOf230
 v232:=Tryz.zeroValue230
 t233:=Tryz.underlying231
 a233:=Tryz.isAgg231
 z233:=Tryz.sizeOf231
 v233:=Tryz.zeroValue231
 g17:=by kernel_rfl
 g18:=by kernel_rfl
 g19:=by kernel_rfl
 i0:=by kernel_rfl
 i2:=by kernel_rfl
 i3:=by kernel_rfl
 i4:=by kernel_rfl
 i5:=by kernel_rfl
 i9:=by kernel_rfl
 i20:=by kernel_rfl
 i37:=by kernel_rfl
 i46:=by kernel_rfl
 i51:=by kernel_rfl
 i53:=by kernel_rfl
 i171:=by kernel_rfl
 i173:=by kernel_rfl
 i212:=by kernel_rfl
 i232:=by kernel_rfl
 i233:=by kernel_rfl
 m17:=by kernel_rfl
 m18:=by kernel_rfl
 m19:=by kernel_rfl}
open Go.RowKit Go.Sort Go.Lib in
theorem Tryz.strconv_Itoa (n:Int) (h0:-9223372036854775808<=n) (h1:n<=9223372036854775807) (w:World) (htab:Lib.TabIs Tryz.prog w "internal/strconv.uint64pow10" .u64 Lib.pow10Tab) :
  Calls Tryz.prog 30 #[.int .i64 n] w fun e w'=>e=.returned (.string ⟨(Lib.itoa n).toArray⟩)/\∃k os,w'=grow (w.drewN k) os:=Any.strconv_Itoa Tryz.laysM171 n h0 h1 w htab
end Go.Proofs

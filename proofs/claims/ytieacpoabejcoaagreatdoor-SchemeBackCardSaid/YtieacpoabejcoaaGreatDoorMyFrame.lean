/-
 Whole calls: results,deferred calls,and the theorem: what the machine yields,the program's function answers.
-/
import Derived.Test.YtieacpoabejcoaaGreatDoorMyLeaves
import Derived.Below
set_option linter.unusedSimpArgs false
set_option linter.unusedVariables false
set_option linter.unusedSectionVars false
namespace Go.Mx
open Go
def zi1 [LoopKit] (P:Program) (κ:Ctx) (C:CallF):Prop:=∀ f ds σ out σ',C f ds σ=some (out,σ')→zl7b P κ f ds σ out σ'
section
variable [LoopKit] {P:Program} {N:Nat} {e:Env} {a:Go.Act} {w:World} {σ:Store} {ι ι0:Imm} {j j0:Lay} {own own0:Own} {w0:World} {lb:Lay} {κ:Ctx}
/-! ### Results -/
def resOf (tmps:Array Value):ResultVar→Sem Value
 | .tmp t=>pure (tmps.getD t undef)
 | .cell a t=>do loadVar t (← asAddr (tmps.getD a undef))
theorem zla (hG:GSim ι j own σ w) (hL:LSim ι j own lb N e a w) {r:ResultVar} {r':ARes} (hk:okRes P [r] [r']=true) {c:Cell} (h:zcv e σ r'=some c) :
  ∃ v,(resOf a.tmps r).run P w=.ok v w∧Rep ι j c.d v∧(c.own=true→∃ t,t.isLocal=true∧Owned ι own w t c.d v):=by
 cases r with
 | tmp t =>
  cases r' <;> simp only [okRes,Bool.false_eq_true,Bool.and_eq_true,beq_iff_eq] at hk
  obtain ⟨rfl,_⟩:=hk
  simp only [zcv] at h
  have hr:=hL.slots _ c h
  exact ⟨_,rfl,hr.1,fun ho=>⟨_,rfl,hr.2 ho⟩⟩
 | cell t ty =>
  have hkk:(∃ k,r'=.cell t k∧okK P ty k=true)∨∃ k,r'=.cellA t k∧okK P ty (some k)=true:=by
   cases r' with
   | tmp s=>simp [okRes] at hk
   | cell s k =>
    simp only [okRes,Bool.and_eq_true,beq_iff_eq] at hk
    exact .inl ⟨k,by rw [hk.1.1],hk.1.2⟩
   | cellA s k =>
    simp only [okRes,Bool.and_eq_true,beq_iff_eq] at hk
    exact .inr ⟨k,by rw [hk.1.1],hk.1.2⟩
  rcases hkk with ⟨k,rfl,hkk⟩ | ⟨k,rfl,hkk⟩
  case inr =>
   simp only [zcv] at h
   obtain ⟨p,h1,h⟩:=zaa h
   have hx:=zca (x:=.tmp t) hL (by simp [okOpd]) h1
   have ev:a.eval (.tmp t)=a.tmps.getD t undef:=rfl
   rw [ev] at hx
   split at h
   ·obtain ⟨B,hB,hx⟩:=hx
    obtain ⟨cs,h2,h⟩:=zaa h
    obtain ⟨h3,h⟩:=zae h
    cases h
    obtain ⟨B',hB',_,hbox⟩:=hL.boxes _ cs h2
    rw [hB] at hB'
    cases hB'
    obtain ⟨u,hu,hru,hO⟩:=zul hbox hkk (by simpa using h3)
    exact ⟨u,by simp only [resOf,hx,asAddr,Sem.run_bind,Sem.run_pure,Result.andThen_ok,hu],hru,fun ho=>⟨_,rfl,hO ho⟩⟩
   ·cases h
  simp only [zcv] at h
  obtain ⟨p,h1,h⟩:=zaa h
  have hx:=zca (x:=.tmp t) hL (by simp [okOpd]) h1
  have ev:a.eval (.tmp t)=a.tmps.getD t undef:=rfl
  rw [ev] at hx
  cases p with
  | loc b off =>
   obtain ⟨B,hB,hx⟩:=hx
   obtain ⟨cs,h2,h⟩:=zaa h
   obtain ⟨B',hB',_,hbox⟩:=hL.boxes b cs h2
   rw [hB] at hB'
   cases hB'
   obtain ⟨u,hu,hru,q1,q2⟩:=zdj hbox hkk h
   refine ⟨u,?_,hru,fun ho=>?_⟩
   ·simp only [resOf,hx,asAddr,Sem.run_bind,Sem.run_pure,Result.andThen_ok,hu]
   ·cases k with
    | none=>exact ⟨_,rfl,(q1 rfl).2.2.2 ho⟩
    | some n=>rw [q2 (by simp)] at ho; cases ho
  | ptr id off =>
   obtain ⟨B,hB,hx⟩:=hx
   obtain ⟨cs,h2,h⟩:=zaa h
   obtain ⟨c',h3,h⟩:=zaa h
   cases h
   obtain ⟨B',hB',_,hbox⟩:=hG.objs id cs h2
   rw [hB] at hB'
   cases hB'
   obtain ⟨u,hu,hru,_⟩:=zdj hbox hkk h3
   exact ⟨u,by simp only [resOf,hx,asAddr,Sem.run_bind,Sem.run_pure,Result.andThen_ok,hu],hru,fun ho=>by cases ho⟩
  | eptr d=>cases h
theorem zlb (hG:GSim ι j own σ w) (hL:LSim ι j own lb N e a w):∀ {rs:List ResultVar} {rs':List ARes},okRes P rs rs'=true→∀ {ds:List D},zck e σ rs'=some ds→∃ vs:List Value,(rs.mapM (resOf a.tmps)).run P w=.ok vs w∧RepL ι j ds vs
 | [],[],_,ds,h=>by
  simp only [zck,Option.some.injEq] at h
  subst h
  exact ⟨[],by simp,by simp only [RepL]⟩
 | [],_ :: _,hk,_,_=>by simp [okRes] at hk
 | _ :: _,[],hk,_,_=>by simp [okRes] at hk
 | r :: rs,r' :: rs',hk,ds,h=>by
  simp only [zck] at h
  obtain ⟨c,h1,h⟩:=zaa h
  obtain ⟨ds',h2,h⟩:=zaa h
  cases h
  have hk2:okRes P [r] [r']=true∧okRes P rs rs'=true:=by
   cases r <;> cases r' <;> simp_all [okRes]
  obtain ⟨v,k1,k2,_⟩:=zla hG hL hk2.1 h1
  obtain ⟨vs,q1,q2⟩:=zlb hG hL hk2.2 h2
  refine ⟨v :: vs,?_,by simp only [RepL]; exact ⟨_,_,rfl,k2,q2⟩⟩
  simp only [List.mapM_cons,Sem.run_bind,k1,Result.andThen_ok,q1,Sem.run_pure]
theorem zd8b (fn:Func) (tmps:Array Value):results fn tmps=(do let vs ← fn.results.mapM (resOf tmps); pure (if h:vs.size=1 then vs[0] else .tuple vs)):=by
 unfold results
 congr 1
theorem zu7 (hG:GSim ι j own σ w) (hL:LSim ι j own lb N e a w) {fn:Func} {rs':List ARes} (hk:okRes P fn.results.toList rs'=true) {c:Cell} (h:readRes e σ rs'=some c) :
  ∃ v,(results fn a.tmps).run P w=.ok v w∧Rep ι j c.d v∧(c.own=true→∃ t,t.isLocal=true∧Owned ι own w t c.d v):=by
 rw [zd8b,Array.mapM_eq_mapM_toList]
 simp only [map_eq_pure_bind,Sem.run_bind]
 have one:∀ r r',fn.results.toList=[r]→rs'=[r']→∃ v,(((fn.results.toList.mapM (resOf a.tmps)).run P w).andThen fun x=>(pure x.toArray:Sem (Array Value)).run P).andThen (fun vs=>(pure (if h:vs.size=1 then vs[0] else .tuple vs):Sem Value).run P)=.ok v w∧Rep ι j c.d v∧(c.own=true→∃ t,t.isLocal=true∧Owned ι own w t c.d v):=by
  rintro r r' hl rfl
  rw [hl] at hk ⊢
  obtain ⟨v,k1,k2,k3⟩:=zla hG hL hk h
  refine ⟨v,?_,k2,k3⟩
  simp only [List.mapM_cons,List.mapM_nil,Sem.run_bind,k1,Result.andThen_ok,Sem.run_pure]
  rfl
 have many:readRes e σ rs'=(bindO (zck e σ rs') fun ds=>some ⟨false,.tup ds⟩)→rs'.length≠1→∃ v,(((fn.results.toList.mapM (resOf a.tmps)).run P w).andThen fun x=>(pure x.toArray:Sem (Array Value)).run P).andThen (fun vs=>(pure (if h:vs.size=1 then vs[0] else .tuple vs):Sem Value).run P)=.ok v w∧Rep ι j c.d v∧(c.own=true→∃ t,t.isLocal=true∧Owned ι own w t c.d v):=by
  intro hr hl
  rw [hr] at h
  obtain ⟨ds,h1,h⟩:=zaa h
  cases h
  obtain ⟨vs,k1,k2⟩:=zlb hG hL hk h1
  have hlen:∀ {rs':List ARes} {ds:List D},zck e σ rs'=some ds→ds.length=rs'.length:=by
   intro rs'
   induction rs' with
   | nil=>intro ds h; simp only [zck,Option.some.injEq] at h; subst h; rfl
   | cons r rs' ih =>
    intro ds h
    simp only [zck] at h
    obtain ⟨c,_,h⟩:=zaa h
    obtain ⟨ds',h2,h⟩:=zaa h
    cases h
    simp [ih h2]
  have hsz:¬ vs.toArray.size=1:=by
   have:=k2.length
   have:=hlen h1
   simp only [List.size_toArray]
   omega
  refine ⟨.tuple vs.toArray,?_,by simp only [Rep]; exact ⟨vs,rfl,k2⟩,fun h=>by cases h⟩
  simp only [k1,Result.andThen_ok,Sem.run_pure,dif_neg hsz]
 cases rs' with
 | nil=>exact many rfl (by simp)
 | cons r' rs' =>
  cases rs' with
  | nil =>
   cases hl:fn.results.toList with
   | nil=>rw [hl] at hk; simp [okRes] at hk
   | cons r rs =>
    cases rs with
    | nil=>rw [← hl]; exact one r r' hl rfl
    | cons r2 rs=>rw [hl] at hk; cases r <;> cases r' <;> simp [okRes] at hk
  | cons r2 rs'=>exact many rfl (by simp)
/-! ### What is handed out -/
theorem zbx.ret (hG:GSim ι j own σ w) (hE:Evo ι0 j0 own0 w0 ι j own w (fun _=>True)) {c:Cell} {v:Value} (hr:Rep ι j c.d v) (ho:c.own=true→∃ t,t.isLocal=true∧Owned ι own w t c.d v):zbx ι0 j0 own0 w0 (.ret c) σ (.returned v) w:=by
 have hE':Evo ι0 j0 own0 w0 ι j (shared own) w (fun _=>True):=by
  refine ⟨hE.os,hE.tape,hE.output,hE.size,hE.imm,hE.lay,fun b hb ht=>?_⟩
  have hn:own0 b=none:=by
   cases h:own0 b with
   | none=>rfl
   | some t=>exact absurd trivial (ht t h)
  obtain ⟨k1,k2,k3⟩:=hE.block b hb ht
  refine ⟨k1,?_,k3⟩
  unfold shared
  rw [k2,hn]
 refine ⟨ι,j,shared own,hG.toShared,hE',zc1 own,hr,fun h=>?_⟩
 obtain ⟨t,ht,hO⟩:=ho h
 unfold Owned at hO
 unfold Fresh
 cases hp:prin c.d v with
 | none=>trivial
 | some p =>
  rw [hp] at hO
  rcases hO with hO | ⟨b,g0,cap,cur,T,f1,f2,f3,f4,f5⟩
  ·exact .inl hO
  ·refine .inr ⟨b,g0,cap,cur,T,f1,?_,?_,f3,f4,f5⟩
   ·by_cases hb:w0.heap.size≤b
    ·exact .inl hb
    ·cases h0:own0 b with
     | some u=>exact .inr rfl
     | none =>
      have:=(hE.block b (by omega) (fun t h=>by rw [h0] at h; cases h)).2.1
      rw [f2,h0] at this
      cases this
   ·unfold shared
    rw [f2]
    simp [ht]
theorem zbx.panic (hG:GSim ι j own σ w) (hE:Evo ι0 j0 own0 w0 ι j own w (fun _=>True)) {d:D} {v:Value} (hr:Rep ι j d v):zbx ι0 j0 own0 w0 (.panic d) σ (.panicked [{v:=v,recovered:=false}]) w:=by
 have hE':Evo ι0 j0 own0 w0 ι j (shared own) w (fun _=>True):=by
  refine ⟨hE.os,hE.tape,hE.output,hE.size,hE.imm,hE.lay,fun b hb ht=>?_⟩
  have hn:own0 b=none:=by
   cases h:own0 b with
   | none=>rfl
   | some t=>exact absurd trivial (ht t h)
  obtain ⟨k1,k2,k3⟩:=hE.block b hb ht
  refine ⟨k1,?_,k3⟩
  unfold shared
  rw [k2,hn]
 exact ⟨ι,j,shared own,hG.toShared,hE',zc1 own,v,rfl,hr⟩
theorem zby {α:Type} (m:Nat):∀ (l:List (Nat × α)) (id:Nat) (x:α),aget (l.filter fun p=>p.1 < m) id=some x→aget l id=some x
 | [],_,_,h=>by simp [zbu] at h
 | (k,v) :: l,id,x,h=>by
  rw [List.filter_cons] at h
  by_cases hk:k < m
  ·simp only [hk,decide_true,if_true] at h
   rw [zat] at h ⊢
   split at h
   ·rename_i hki; rw [if_pos hki]; exact h
   ·rename_i hki; rw [if_neg hki]; exact zby m l id x h
  ·simp only [hk,decide_false,Bool.false_eq_true,if_false] at h
   rw [zat]
   by_cases hki:k=id
   ·subst hki
    exfalso
    -- nothing of this key is left
    have:∀ (l:List (Nat × α)),aget (l.filter fun p=>p.1 < m) k=none:=by
     intro l
     induction l with
     | nil=>rfl
     | cons q l ih =>
      obtain ⟨q,u⟩:=q
      rw [List.filter_cons]
      by_cases hq:q < m
      ·simp only [hq,decide_true,if_true]
       rw [zat,if_neg (by omega)]
       exact ih
      ·simp only [hq,decide_false,Bool.false_eq_true,if_false]
       exact ih
    rw [this] at h
    cases h
   ·rw [if_neg hki]
    exact zby m l id x h
theorem GSim.trunc (hG:GSim ι j own σ w) (b:Bool) (m:Nat):GSim ι j own (ifB b (σ.trunc m) σ) w:=by
 cases b with
 | false=>exact hG
 | true=>exact hG.sub (fun id cs h=>⟨cs,zby m _ _ _ h,zbk.refl cs⟩) (Nat.le_refl _) (fun id t h=>zby m _ _ _ h) (fun id x h=>zby m _ _ _ h)
/-! ### Deferred calls -/
def zdr (ι:Imm) (j:Lay):Option D→FrameMode→Prop
 | none,u=>u=.returning
 | some d,u=>∃ v,u=.panicking [{v:=v,recovered:=false}]∧Rep ι j d v
theorem zdr.run {m:Option D} {u:FrameMode} (h:zdr ι j m u):u≠.run∧settle u=u:=by
 cases m with
 | none=>subst h; exact ⟨(fun h=>by cases h),rfl⟩
 | some d=>obtain ⟨v,rfl,_⟩:=h; exact ⟨(fun h=>by cases h),rfl⟩
theorem zdr.evo {ι':Imm} {j':Lay} {own':Own} {w':World} {TT:Tag→Prop} (h:Evo ι j own w ι' j' own' w' TT) {m:Option D} {u:FrameMode} (k:zdr ι j m u):zdr ι' j' m u:=by
 cases m with
 | none=>exact k
 | some d=>obtain ⟨v,h1,h2⟩:=k; exact ⟨v,h1,h.rep h2⟩
def zjb (P:Program) (κ:Ctx) (R:RecF):Prop:=∀ f ds m σ m' σ',R f ds m σ=some (m',σ')→zi2 P f∧∀ ι j own w vs u,zdv own→Base κ own w→GSim ι j own σ w→RepL ι j ds vs→zdr ι j m u →
 CallsD P f ⟨vs⟩ u w fun e u' w'=>∃ v ι' j' own',e=.returned v∧GSim ι' j' own' σ' w'∧Evo ι j own w ι' j' own' w' (fun _=>True)∧zdv own'∧zdr ι' j' m' (settle u')
theorem zgr {Rc:RecF} {C:CallF} (hR:zjb P κ Rc) (hD:zi1 P κ C) (hB:Base κ own0 w0) {fn:Func} {R:Ending→World→Prop} {tmps:Array Value} {e0:Env}:∀ (l:List (FuncId × List D)) (ds:List Deferred) {m:Option D} {u:FrameMode} {ι j own lb w σ r} {a:Go.Act},a.tmps=tmps→zdr ι j m u→zey ι j l ds →
  GSim ι j own σ w→LSim ι j own lb N e0 a w→Evo ι0 j0 own0 w0 ι j own w (fun _=>True)→runDefers Rc C m l σ=some r →
  (∀ (ι':Imm) (j':Lay) own' w' u',zdr ι' j' r.1 u'→GSim ι' j' own' r.2 w'→LSim ι' j' own' lb N e0 a w'→Evo ι j own w ι' j' own' w' (fun _=>True)→Evo ι0 j0 own0 w0 ι' j' own' w' (fun _=>True)→zce P fn tmps R [] u' w')→zce P fn tmps R ds u w
 | [],ds,m,u,ι,j,own,lb,w,σ,r,a,_,hm,hd,hG,hL,hE,hr,hfin=>by
  simp only [zey] at hd
  subst hd
  simp only [runDefers,Option.some.injEq] at hr
  subst hr
  exact hfin ι j own w u hm hG hL (Evo.refl _ _ _ _ _) hE
 | (f,az) :: l,ds,m,u,ι,j,own,lb,w,σ,r,a,ha,hm,hd,hG,hL,hE,hr,hfin=>by
  simp only [zey] at hd
  obtain ⟨x,ds',rfl,hd,hx⟩:=hd
  simp only [runDefers] at hr
  obtain ⟨hu,hset⟩:=hm.run
  by_cases hY:isY f=true
  ·rw [if_pos hY] at hx
   obtain ⟨b,hb,rfl⟩:=hx
   rw [hY,zac] at hr
   obtain ⟨x,h1,hr⟩:=zaa hr
   cases x <;> simp only [reduceCtorEq] at hr
   obtain ⟨b',q1,q2,q3⟩:=hG.oth _ _ h1
   rw [hb] at q1
   cases q1
   have hG1:=hG.sub (σ':={σ with oth:=adel1 σ.oth (f - yldBase)}) (fun id cs h=>⟨cs,h,zbk.refl cs⟩) (Nat.le_refl _) (fun id t h=>h) (fun id x h=>by
    simp only [zam] at h
    by_cases hid:f - yldBase=id
    ·rw [if_pos hid] at h; cases h
    ·rw [if_neg hid] at h; exact h)
   obtain ⟨g1,g2⟩:=zmpb (ob:=.deferred none) hG hb q2 h1
   exact ⟨hu,.inl ⟨b,_,rfl,run_takeDeferred q3,zgr hR hD hB l ds' ha (hm.evo g2) (g2.defRel _ _ hd) g1 (hL.evoO g2) (hE.trans (g2.weaken fun _ _=>trivial)) hr
    (fun ι'' j'' own'' w'' u'' p0 p1 p2 p3 p4=>hfin ι'' j'' own'' w'' u'' p0 p1 p2 ((g2.weaken fun _ _=>trivial).trans p3) p4)⟩⟩
  rw [if_neg hY] at hx
  obtain ⟨cap,args,rfl,hrep⟩:=hx
  simp only [Bool.not_eq_true] at hY
  rw [hY,zad] at hr
  cases hrec:Rc f az m σ with
  | some x =>
   rw [hrec] at hr
   simp only at hr
   obtain ⟨m1,σ1⟩:=x
   obtain ⟨⟨fn',c',b1,b2,b3⟩,hcall⟩:=hR f az m σ m1 σ1 hrec
   refine znv hu (f:=f) (args:=args ++ cap) ?_ ?_
   ·simp only [invoke]
    exact MuLone.run_callFunc_enter b1 b2 b3 _ w
   ·have hc:=hcall ι j (shared own) w (args ++ cap).toList u (zc1 own) (hB.evo hE).shared hG.toShared hrep hm
    refine hc.mono ?_
    rintro en u' w' ⟨v,ι',j',own1,rfl,k1,k2,k3,k4⟩
    obtain ⟨own2,q1,q2,q3,_⟩:=zgd hG hL k1 k2 k3 0 false .undef v (fun h=>by cases h)
    exact zgr hR hD hB l ds' ha k4 (q3.defRel _ _ hd) q1 q2 (hE.trans q3) hr (fun ι'' j'' own'' w'' u'' g0 g1 g2 g3 g4=>hfin ι'' j'' own'' w'' u'' g0 g1 g2 (q3.trans g3) g4)
  | none =>
   rw [hrec] at hr
   simp only at hr
   obtain ⟨⟨o,σ1⟩,h1,hr⟩:=zaa hr
   obtain ⟨⟨fn',c',b1,b2,b3⟩,hcall⟩:=hD f az σ o σ1 h1
   refine znv hu (f:=f) (args:=args ++ cap) ?_ ?_
   ·simp only [invoke]
    exact MuLone.run_callFunc_enter b1 b2 b3 _ w
   ·have hc:=hcall ι j (shared own) w (args ++ cap).toList u (zc1 own) (hB.evo hE).shared hG.toShared hrep
    refine hc.mono ?_
    rintro en u' w' ⟨rfl,ι',j',own1,k1,k2,k3,k4⟩
    cases o with
    | panic d=>simp only at hr; cases hr
    | ret c =>
     cases en with
     | panicked chain=>exact k4.elim
     | outgrown=>exact k4.elim
     | returned v =>
      simp only at hr
      obtain ⟨own2,q1,q2,q3,_⟩:=zgd hG hL k1 k2 k3 0 false c.d v (fun h=>by cases h)
      simp only [hset]
      exact zgr hR hD hB l ds' ha (hm.evo q3) (q3.defRel _ _ hd) q1 q2 (hE.trans q3) hr (fun ι'' j'' own'' w'' u'' g0 g1 g2 g3 g4=>hfin ι'' j'' own'' w'' u'' g0 g1 g2 (q3.trans g3) g4)
/-! ### A call -/
theorem zi9b (hG:GSim ι j own σ w) {ds:List D} {vs:List Value} (hr:RepL ι j ds vs) (hN:ds.length≤N) :
  LSim ι j own (fun _=>none) N (zch ds) {tmps:=(⟨vs⟩:Array Value) ++ Array.replicate (N - vs.length) undef,defers:=[]} w:=by
 have hl:=hr.length
 have key:∀ (ds:List D) (vs:List Value) (i:Nat),RepL ι j ds vs→∀ s c,aget (zdb i ds) s=some c→∃ d v,c=⟨false,d⟩∧i≤s∧vs[s - i]?=some v∧Rep ι j d v:=by
  intro ds
  induction ds with
  | nil=>intro vs i _ s c h; simp [zdb,zbu] at h
  | cons d ds ih =>
   intro vs i hr s c h
   simp only [RepL] at hr
   obtain ⟨x,r,rfl,h1,h2⟩:=hr
   simp only [zdb,zat] at h
   by_cases his:i=s
   ·subst his
    rw [if_pos rfl] at h
    cases h
    exact ⟨d,x,rfl,Nat.le_refl _,by simp,h1⟩
   ·rw [if_neg his] at h
    obtain ⟨d',v,k1,k2,k3,k4⟩:=ih r (i + 1) h2 s c h
    refine ⟨d',v,k1,by omega,?_,k4⟩
    have:s - i=(s - (i + 1)) + 1:=by omega
    rw [this,List.getElem?_cons_succ]
    exact k3
 refine ⟨by simp; omega,fun s c h=>?_,fun s b o h=>by simp [zch,zbu] at h,fun s cs h=>by simp [zch,zbu] at h,by simp [zch,zey]⟩
 obtain ⟨d,v,rfl,_,h2,h3⟩:=key ds vs 0 hr s c h
 refine ⟨?_,fun h=>by cases h⟩
 have:(((⟨vs⟩:Array Value) ++ Array.replicate (N - vs.length) undef).getD s Go.undef)=v:=by
  have hlt:=(List.getElem?_eq_some_iff.1 h2).1
  rw [Array.getD_eq_getD_getElem?,Array.getElem?_append_left (by simpa using hlt)]
  simp only [Nat.sub_zero] at h2
  simp [h2]
 rw [this]
 exact h3
def Holds (P:Program) (Γ:FuncId→Option AFun):Prop:=∀ f af,Γ f=some af→isY f=false∧∃ fn,P.funcs[f]?=some fn∧okFun P fn af=true
theorem zph:∀ (ps:List Nat) (ds:List D) (vs:List Value) (l:List (Nat × Cell)) (T:Array Value),RepL ι j ds vs→ps.length=ds.length→(∀ p∈ps,p < T.size)→(∀ s c,aget l s=some c→c.own=false∧Rep ι j c.d (T.getD s Go.undef)) →
  ((ps.zip vs).foldl (fun t (q:Nat × Value)=>t.setIfInBounds q.1 q.2) T).size=T.size∧∀ s c,aget (zhc ps ds l) s=some c→c.own=false∧Rep ι j c.d (((ps.zip vs).foldl (fun t (q:Nat × Value)=>t.setIfInBounds q.1 q.2) T).getD s Go.undef)
 | [],ds,vs,l,T,_,_,_,h=>by
  refine ⟨rfl,fun s c hs=>h s c ?_⟩
  cases ds <;> simpa [zhc] using hs
 | p :: ps,[],vs,l,T,_,hl,_,_=>by simp at hl
 | p :: ps,d :: ds,vs,l,T,hr,hl,hp,h=>by
  simp only [RepL] at hr
  obtain ⟨x,vs',rfl,h1,h2⟩:=hr
  have:=zph ps ds vs' (aset l p ⟨false,d⟩) (T.setIfInBounds p x) h2 (by simpa using hl) (fun q hq=>by simpa using hp q (by simp [hq])) (fun s c hs=>by
   rw [zak] at hs
   by_cases hsp:p=s
   ·subst hsp
    rw [if_pos rfl] at hs
    cases hs
    refine ⟨rfl,?_⟩
    have:(T.setIfInBounds p x).getD p Go.undef=x:=by
     have:=hp p (by simp)
     simp [Array.getD,this]
    rw [this]
    exact h1
   ·rw [if_neg hsp] at hs
    have:(T.setIfInBounds p x).getD s Go.undef=T.getD s Go.undef:=by
     simp only [Array.getD_eq_getD_getElem?]
     rw [Array.getElem?_setIfInBounds_ne hsp]
    rw [this]
    exact h s c hs)
  simpa [zhc] using this
theorem zimb [K:KitOf P ‹LoopKit›] {C:CallF} (hC:zcm P κ C) {n f:Nat} {ds:List D} {out:Out} {σ':Store} (hY:isY f=true) (h:runY C n (f - yldBase) ds σ=some (out,σ')):zdk P κ f ds σ out σ':=by
 unfold zdk
 rw [if_pos hY]
 generalize f - yldBase=id at h
 intro ι j own w vs b hS hB hG hr hb
 unfold runY at h
 obtain ⟨r,h1,h⟩:=zaa h
 obtain ⟨h2,h⟩:=zae h
 simp only [Bool.and_eq_true,beq_iff_eq] at h2
 obtain ⟨b',q1,q2,L,k1,k2,k2b,k3,k4,k5,k6⟩:=hG.oth id _ (zj4 h1)
 rw [hb] at q1
 cases q1
 have hlen:=hr.length
 have hy:=run_yield (P:=P) (args:=⟨vs⟩) k1 (by rw [k2]; simp; omega)
 refine ⟨_,_,_,_,hy,?_⟩
 have hT:(L.params.zip (⟨vs⟩:Array Value)).foldl (fun tmps (t,a)=>tmps.setIfInBounds t a) L.tmps=(r.params.zip vs).foldl (fun t (q:Nat × Value)=>t.setIfInBounds q.1 q.2) L.tmps:=by
  rw [k2,← Array.foldl_toList,Array.toList_zip]
 rw [hT]
 obtain ⟨g1,g2⟩:=zph r.params ds vs r.slots L.tmps hr h2.1.symm k2b k3
 refine roundIn_of_wpIn (F:=Fence.wide) trivial ?_
 have hL:LSim ι j own (fun _=>none) L.tmps.size {slots:=zhc r.params ds r.slots,locs:=[],boxes:=[],defers:=[]} {tmps:=(r.params.zip vs).foldl (fun t (q:Nat × Value)=>t.setIfInBounds q.1 q.2) L.tmps,defers:=[]} w :=
  ⟨g1,fun s c hs=>⟨(g2 s c hs).2,fun ho=>by rw [(g2 s c hs).1] at ho; cases ho⟩,fun s b o h=>by simp [zbu] at h,fun s cs h=>by simp [zbu] at h,by simp only [zey]⟩
 have hro:RoAt j (some id) (some b):=⟨b,rfl,hb⟩
 cases hx:exec C n (some id) r.assign {slots:=zhc r.params ds r.slots,locs:=[],boxes:=[],defers:=[]} σ with
 | none=>rw [hx] at h; simp only [zxs,reduceCtorEq] at h
 | some x1 =>
  obtain ⟨x,e1,σ1⟩:=x1
  rw [hx] at h
  refine zbv hC hB n (rr:=some b) (rd:=true) hro (.inr rfl) r.assign L.assign ((K.iff _ _ _).1 k4) hx ⟨ι,j,own,_,hG,hL,Evo.refl _ _ _ _ _⟩ ?_
  cases x <;> simp only [zxs,reduceCtorEq] at h
  obtain ⟨r1,h3,h⟩:=zaa h
  obtain ⟨h4,h⟩:=zae h
  rintro a1 w1 ⟨ι1,j1,own1,lb1,s1,s2,s3⟩
  have hb1:=s3.lay _ _ hb
  obtain ⟨L1,t1,t2,t3,t4⟩:=zij s1 h3 hb1 (st:=.busy) (s:=.busy) (p:=none) ⟨rfl,rfl⟩
  have hrd:r1.st=.ready:=by
   cases hst:r1.st <;> rw [hst] at h4 <;> simp only [LSt.isReady,Bool.false_eq_true] at h4
  rw [hrd] at t2
  have hbr:=run_beginRound (P:=P) t1 t2.1
  have hL1:({L1 with state:=LoopState.busy}:Loop)={L1 with state:=.busy,pending:=none}:=by
   obtain ⟨_,tp⟩:=t2
   cases L1
   simp only at tp
   rw [tp]
  rw [hL1] at hbr
  refine ⟨_,hbr,?_⟩
  cases hx2:exec C n (some id) r.body e1 (zgm σ1 id r1 .busy) with
  | none=>rw [hx2] at h; simp only [zxt,reduceCtorEq] at h
  | some x2 =>
   obtain ⟨x,e2,σ2⟩:=x2
   rw [hx2] at h
   refine zbv hC hB n (rr:=some b) (rd:=true) hro (.inr rfl) r.body L.body ((K.iff _ _ _).1 k5) hx2 ⟨ι1,j1,own1,_,t3,s2.evoO t4,s3.trans (t4.weaken fun _ _=>trivial)⟩ ?_
   simp only [zxt] at h
   obtain ⟨r2,h5,h⟩:=zaa h
   have fin:∀ {a2:Go.Act} {w2:World} (jump:Option Code) (st:LSt),stRel st (if jump.isNone then .ready else .done) jump→out=.ret ⟨false,.bool jump.isNone⟩→σ'=zgm σ2 id r2 st→St ι j own w L.tmps.size e2 σ2 a2 w2 →
     ∃ v w',(Instr.endRound b jump).run P w2=.ok v w'∧zbx ι j own w out σ' (.returned v) w':=by
    rintro a2 w2 jump st hst rfl rfl ⟨ι2,j2,own2,lb2,p1,p2,p3⟩
    obtain ⟨L2,u1,u2,u3,u4⟩:=zij p1 h5 (p3.lay _ _ hb) (st:=st) (s:=if jump.isNone then .ready else .done) (p:=jump) hst
    exact ⟨_,_,run_endRound (P:=P) jump u1,zbx.ret u3 (p3.trans (u4.weaken fun _ _=>trivial)) (by simp only [Rep]) (fun h=>by cases h)⟩
   cases x with
   | normal =>
    simp only [Option.some.injEq,Prod.mk.injEq] at h
    exact fun a2 w2 hs=>fin none .ready ⟨rfl,rfl⟩ h.1.symm h.2.symm hs
   | exit i =>
    simp only [Option.some.injEq,Prod.mk.injEq] at h
    exact fun a2 w2 hs=>fin (some (.exit i)) (.done (.exit i)) ⟨rfl,_,rfl,rfl⟩ h.1.symm h.2.symm hs
   | ret =>
    simp only [Option.some.injEq,Prod.mk.injEq] at h
    exact fun a2 w2 hs=>fin (some .ret) (.done .ret) ⟨rfl,_,rfl,rfl⟩ h.1.symm h.2.symm hs
   | panic d=>simp only [reduceCtorEq] at h
   | goto l=>simp only [reduceCtorEq] at h
theorem zt7 [K:KitOf P ‹LoopKit›] {C Cq:CallF} {R:RecF} (hC:zcm P κ C) (hD:zi1 P κ Cq) (hR:zjb P κ R) {n:Nat} {quiet:Bool} {fn:Func} {af:AFun} {ds:List D} {σ σ':Store} {out:Out} (hok:okFun P fn af=true) (hlen:ds.length=af.nargs)
  (h:(match exec C n none af.body (zch ds) σ with
     | some r=>ze1 R Cq quiet af σ.next r
     | none=>none)=some (out,σ')) :
  ∃ c,fn.body=some c∧(fn.name == "runtime.NumGoroutine")=false∧∀ ι j own w vs,zdv own→Base κ own w→GSim ι j own σ w→RepL ι j ds vs →
   (quiet=false→c.wp P (zm5 P fn (zbx ι j own w out σ')) {tmps:=(⟨vs⟩:Array Value) ++ Array.replicate (fn.ntmps - vs.length) undef,defers:=[]} w) ∧
   (quiet=true→c.wp P (bodyPost P fn (zbx ι j own w out σ')) {tmps:=(⟨vs⟩:Array Value) ++ Array.replicate (fn.ntmps - vs.length) undef,defers:=[]} w):=by
 unfold okFun at hok
 split at hok
 ·rename_i c hc
  simp only [Bool.and_eq_true,Bool.not_eq_true',decide_eq_true_eq] at hok
  obtain ⟨⟨⟨hname,hnt⟩,hcode⟩,hres⟩:=hok
  refine ⟨c,hc,hname,fun ι j own w vs hS hB hG hr=>?_⟩
  cases hx:exec C n none af.body (zch ds) σ with
  | none=>rw [hx] at h; cases h
  | some r =>
   rw [hx] at h
   simp only at h
   obtain ⟨x,e1,σ1⟩:=r
   simp only [ze1] at h
   obtain ⟨hq,h⟩:=zae' h
   have hL:=zi9b (N:=fn.ntmps) hG hr (by omega)
   have hSt:St ι j own w fn.ntmps (zch ds) σ {tmps:=(⟨vs⟩:Array Value) ++ Array.replicate (fn.ntmps - vs.length) undef,defers:=[]} w:=⟨ι,j,own,_,hG,hL,Evo.refl _ _ _ _ _⟩
   -- how it ends,by returning
   have fin1:∀ {c0:Cell} {σ2:Store},readRes e1 σ2 af.res=some c0→out=.ret c0→σ'=ifB af.gc (σ2.trunc σ.next) σ2→∀ {ι' j' own' lb' w'} {a':Go.Act},GSim ι' j' own' σ2 w'→LSim ι' j' own' lb' fn.ntmps e1 a' w'→Evo ι j own w ι' j' own' w' (fun _=>True) →
     ∃ v,(results fn a'.tmps).run P w'=.ok v w'∧zbx ι j own w out σ' (.returned v) w':=by
    rintro c0 σ2 hres2 rfl rfl ι' j' own' lb' w' a' g1 g2 g3
    obtain ⟨v,k1,k2,k3⟩:=zu7 g1 g2 hres hres2
    exact ⟨v,k1,zbx.ret (g1.trunc _ _) g3 k2 k3⟩
   -- how the deferred calls end
   have fin2:∀ {m:Option D} {r:Option D × Store},runDefers R Cq m e1.defers σ1=some r →
     (match r.1 with | none=>bindO (readRes e1 r.2 af.res) fun c=>some (Out.ret c,ifB af.gc (r.2.trunc σ.next) r.2) | some d'=>some (Out.panic d',ifB af.gc (r.2.trunc σ.next) r.2))=some (out,σ') →
     ∀ {ι' j' own' lb'} {a1:Go.Act} {w1 u},zdr ι' j' m u→GSim ι' j' own' σ1 w1→LSim ι' j' own' lb' fn.ntmps e1 a1 w1→Evo ι j own w ι' j' own' w1 (fun _=>True) →
     zce P fn a1.tmps (zbx ι j own w out σ') a1.defers u w1∧(e1.defers=[]→a1.defers=[]∧zce P fn a1.tmps (zbx ι j own w out σ') [] u w1):=by
    intro m r h1 h2 ι' j' own' lb' a1 w1 u hm g1 g2 g3
    have last:∀ (ι'':Imm) (j'':Lay) own'' w'' u',zdr ι'' j'' r.1 u'→GSim ι'' j'' own'' r.2 w''→LSim ι'' j'' own'' lb' fn.ntmps e1 a1 w''→Evo ι j own w ι'' j'' own'' w'' (fun _=>True)→zce P fn a1.tmps (zbx ι j own w out σ') [] u' w'':=by
     intro ι'' j'' own'' w'' u' hm' k1 k2 k3
     obtain ⟨rm,rσ⟩:=r
     cases rm with
     | none =>
      simp only [zdr] at hm'
      subst hm'
      simp only at h2
      obtain ⟨c0,h3,h2⟩:=zaa h2
      cases h2
      exact fin1 h3 rfl rfl k1 k2 k3
     | some d' =>
      obtain ⟨v,rfl,hv⟩:=hm'
      simp only [Option.some.injEq,Prod.mk.injEq] at h2
      obtain ⟨rfl,rfl⟩:=h2
      exact zbx.panic (k1.trunc _ _) k3 hv
    refine ⟨zgr hR hD hB e1.defers a1.defers rfl hm g2.defers g1 g2 g3 h1 (fun ι'' j'' own'' w'' u' k0 k1 k2 k3 k4=>last ι'' j'' own'' w'' u' k0 k1 k2 k4),fun hnil=>?_⟩
    have hd:=g2.defers
    rw [hnil] at hd h1
    simp only [zey] at hd
    simp only [runDefers,Option.some.injEq] at h1
    subst h1
    exact ⟨hd,last ι' j' own' w1 u hm g1 g2 g3⟩
   -- the two ways to leave the body
   have retd:∀ {r:Option D × Store},runDefers R Cq none e1.defers σ1=some r →
     (match r.1 with | none=>bindO (readRes e1 r.2 af.res) fun c=>some (Out.ret c,ifB af.gc (r.2.trunc σ.next) r.2) | some _=>none)=some (out,σ') →
     ∀ a1 w1,St ι j own w fn.ntmps e1 σ1 a1 w1→zce P fn a1.tmps (zbx ι j own w out σ') a1.defers .returning w1∧(e1.defers=[]→a1.defers=[]∧zce P fn a1.tmps (zbx ι j own w out σ') [] .returning w1):=by
    rintro ⟨rm,rσ⟩ h1 h2 a1 w1 ⟨ι',j',own',lb',g1,g2,g3⟩
    cases rm with
    | none=>exact fin2 h1 h2 (m:=none) (by simp only [zdr]) g1 g2 g3
    | some d'=>simp only at h2; cases h2
   have pand:∀ {d:D} {r:Option D × Store},runDefers R Cq (some d) e1.defers σ1=some r →
     (match r.1 with | none=>bindO (readRes e1 r.2 af.res) fun c=>some (Out.ret c,ifB af.gc (r.2.trunc σ.next) r.2) | some d'=>some (Out.panic d',ifB af.gc (r.2.trunc σ.next) r.2))=some (out,σ') →
     ∀ a1 w1 chain,StP ι j own w fn.ntmps d chain e1 σ1 a1 w1→zce P fn a1.tmps (zbx ι j own w out σ') a1.defers (.panicking chain) w1∧(e1.defers=[]→a1.defers=[]∧zce P fn a1.tmps (zbx ι j own w out σ') [] (.panicking chain) w1):=by
    rintro d r h1 h2 a1 w1 chain ⟨ι',j',own',lb',g1,g2,g3,v,rfl,g4⟩
    exact fin2 h1 h2 (m:=some d) ⟨v,rfl,g4⟩ g1 g2 g3
   refine ⟨fun _=>?_,fun hqt=>?_⟩
   ·refine wpIn_wide.1 (zbv hC hB n (ro:=none) (rr:=none) (rd:=false) rfl (.inl rfl) af.body c hcode hx hSt ?_)
    cases x with
    | normal =>
     obtain ⟨r,h1,h⟩:=zaa h
     exact fun a1 w1 hs=>(retd h1 h a1 w1 hs).1
    | ret =>
     obtain ⟨r,h1,h⟩:=zaa h
     exact fun a1 w1 hs=>(retd h1 h a1 w1 hs).1
    | panic d =>
     obtain ⟨r,h1,h⟩:=zaa h
     exact fun a1 w1 chain hs=>(pand h1 h a1 w1 chain hs).1
    | exit id=>cases h
    | goto l=>cases h
   ·have hnil:e1.defers=[]:=by
     rw [hqt] at hq
     simpa using hq
    refine wpIn_wide.1 (zbv hC hB n (ro:=none) (rr:=none) (rd:=false) rfl (.inl rfl) af.body c hcode hx hSt ?_)
    cases x with
    | normal =>
     obtain ⟨r,h1,h⟩:=zaa h
     exact fun a1 w1 hs=>(retd h1 h a1 w1 hs).2 hnil
    | ret =>
     obtain ⟨r,h1,h⟩:=zaa h
     exact fun a1 w1 hs=>(retd h1 h a1 w1 hs).2 hnil
    | panic d =>
     obtain ⟨r,h1,h⟩:=zaa h
     exact fun a1 w1 chain hs=>(pand h1 h a1 w1 chain hs).2 hnil
    | exit id=>cases h
    | goto l=>cases h
 ·cases hok
theorem zoc [K:KitOf P ‹LoopKit›] {Γ:FuncId→Option AFun} {R:RecF} {X:CallF} (hΓ:Holds P Γ) (hR:zjb P κ R) (hX:zcm P κ X):∀ n,zcm P κ (runQ Γ R X n false)∧zi1 P κ (runQ Γ R X n true)
 | 0=>⟨fun _ _ _ _ _ h=>by simp [runQ] at h,fun _ _ _ _ _ h=>by simp [runQ] at h⟩
 | n + 1=>by
  obtain ⟨hC,hD⟩:=zoc hΓ hR hX n
  have body:∀ {quiet f ds σ out σ'},runQ Γ R X (n + 1) quiet f ds σ=some (out,σ')→(Γ f=none∧quiet=false∧ifB (isY f) (runY (runQ Γ R X n false) n (f - yldBase) ds σ) (X f ds σ)=some (out,σ')) ∨
    isY f=false∧∃ fn c,P.funcs[f]?=some fn∧fn.body=some c∧(fn.name == "runtime.NumGoroutine")=false∧∀ ι j own w vs,zdv own→Base κ own w→GSim ι j own σ w→RepL ι j ds vs →
     (quiet=false→c.wp P (zm5 P fn (zbx ι j own w out σ')) {tmps:=(⟨vs⟩:Array Value) ++ Array.replicate (fn.ntmps - vs.length) undef,defers:=[]} w) ∧
     (quiet=true→c.wp P (bodyPost P fn (zbx ι j own w out σ')) {tmps:=(⟨vs⟩:Array Value) ++ Array.replicate (fn.ntmps - vs.length) undef,defers:=[]} w):=by
   intro quiet f ds σ out σ' h
   simp only [runQ] at h
   cases hg:Γ f with
   | none =>
    rw [hg] at h
    simp only at h
    obtain ⟨h1,h⟩:=zae' h
    exact .inl ⟨rfl,h1,h⟩
   | some af =>
    rw [hg] at h
    simp only at h
    obtain ⟨hlen,h⟩:=zae h
    obtain ⟨hYf,fn,hfn,hok⟩:=hΓ f af hg
    obtain ⟨c,h1,h2,h3⟩:=zt7 hC hD hR hok (by simpa using hlen) h
    exact .inr ⟨hYf,fn,c,hfn,h1,h2,h3⟩
  refine ⟨fun f ds σ out σ' h=>?_,fun f ds σ out σ' h=>?_⟩
  ·rcases body h with ⟨_,_,hx⟩ | ⟨hY,fn,c,h1,h2,h3,h4⟩
   ·cases hY:isY f with
    | true=>rw [hY,zac] at hx; exact zimb hC hY hx
    | false=>rw [hY,zad] at hx; exact hX f ds σ out σ' hx
   ·exact (zcd hY).2 ⟨⟨fn,c,h1,h3,h2⟩,fun ι j own w vs hS hB hG hr=>zil h1 h2 ((h4 ι j own w vs hS hB hG hr).1 rfl)⟩
  ·rcases body h with ⟨_,hq,_⟩ | ⟨_,fn,c,h1,h2,h3,h4⟩
   ·cases hq
   ·exact ⟨⟨fn,c,h1,h3,h2⟩,fun ι j own w vs u hS hB hG hr=>callsD_of_wp h1 h2 ((h4 ι j own w vs hS hB hG hr).2 rfl)⟩
theorem zmab [K:KitOf P ‹LoopKit›] {C Cq:CallF} {R:RecF} (hC:zcm P κ C) (hD:zi1 P κ Cq) (hR:zjb P κ R) {n f:Nat} {fn:Func} {af:AFun} {ds:List D} {σ σ':Store} {out:Out} (hY:isY f=false) (hfn:P.funcs[f]?=some fn) (hok:okFun P fn af=true) (hlen:ds.length=af.nargs)
  (h:(match exec C n none af.body (zch ds) σ with
     | some r=>ze1 R Cq false af σ.next r
     | none=>none)=some (out,σ')):zdk P κ f ds σ out σ':=by
 obtain ⟨c,h1,h2,h3⟩:=zt7 hC hD hR hok hlen h
 exact (zcd hY).2 ⟨⟨fn,c,hfn,h2,h1⟩,fun ι j own w vs hS hB hG hr=>zil hfn h1 ((h3 ι j own w vs hS hB hG hr).1 rfl)⟩
end
end Go.Mx
namespace Go.Mx
open Go
section
variable [LoopKit] {P:Program} {ι:Imm} {j:Lay} {own:Own} {w:World} {σ:Store} {κ:Ctx}
theorem zhob {f:FuncId} {ds:List D} {c:D} (hY:isY f=false) (hb:zi2 P f) (h:∀ ι j own w vs,Base κ own w→GSim ι j own σ w→RepL ι j ds vs→Calls P f ⟨vs⟩ w fun e w'=>∃ v,e=.returned v∧RowKit.Below w.heap.size w w'∧Rep ι j c v):zdk P κ f ds σ (.ret ⟨false,c⟩) σ:=by
 refine (zcd hY).2 ⟨hb,fun ι j own w vs hS hB hG hr=>(h ι j own w vs hB hG hr).mono ?_⟩
 rintro e w' ⟨v,rfl,hx,hv⟩
 have hE:Evo ι j own w ι j own w' (fun _=>False):=⟨hx.os,hx.tape,hx.output,hx.size,fun _ _ _ h=>h,fun _ _ h=>h,fun b hb _=>⟨hx.block b hb,rfl,fun _=>rfl⟩⟩
 refine ⟨ι,j,own,hG.evo hE (fun b o v h=>?_) hG.noimm (fun b t h=>Nat.lt_of_lt_of_le (hG.ownlt b t h) hx.size) hG.jlt (fun _ _ _=>⟨fun h=>h,fun _ _ _ _ h=>h⟩) (fun _ _ _ h=>h),hE.weaken (fun _ h=>h.elim),hS,hv,fun h=>by cases h⟩
 rw [World.cell?_of_block (w:=w) (w':=w') (a:=⟨b,o,none⟩) (hx.block b (ze3 hG h))]
 exact hG.holds b o v h
theorem GSim.setObj (hG:GSim ι j own σ w) {id B:Nat} {cs cs':List Cell} {cur:Array Value} {T:TypeId} {vs':List Value} {w':World} (hcs:aget σ.objs id=some cs) (hB:j id=some B) (hown:own B=some (.obj id))
  (hos:w'.os=w.os) (htape:w'.tape=w.tape) (hout:w'.output=w.output) (hsize:w.heap.size≤w'.heap.size) (hoth:∀ b,b≠B→w'.heap[b]?=w.heap[b]?) (h0:w.heap[B]?=some (.cells cur T (0,0))) (h1:w'.heap[B]?=some (.cells ⟨vs'⟩ T (0,0)))
  (hlen:cs'.length≤vs'.length) (hcur:vs'.length=cur.size) (hcells:∀ (i:Nat) (c:Cell),cs'[i]?=some c→∃ v,vs'[i]?=some v∧v.oneCell'=true∧zcw ι j own w' (.ocell id i) c v) :
  GSim ι j own {σ with objs:=aset σ.objs id cs'} w'∧Evo ι j own w ι j own w' (fun t=>t=.obj id):=by
 have hE:Evo ι j own w ι j own w' (fun t=>t=.obj id):=⟨hos,htape,hout,hsize,fun _ _ _ h=>h,fun _ _ h=>h,fun b _ hb=>⟨hoth b (fun e=>hb _ (e ▸ hown) rfl),rfl,fun _=>rfl⟩⟩
 refine ⟨⟨fun b o v h=>?_,hG.noimm,fun id' cs2 h=>?_,fun id' t cs2 k1 k2 b hb=>?_,fun id' x h=>?_,hG.jlt,fun b t h=>Nat.lt_of_lt_of_le (hG.ownlt b t h) hsize⟩,hE⟩
 ·have hne:b≠B:=fun e=>by
   rw [e,hG.noimm B _ hown rfl o] at h
   cases h
  rw [World.cell?_of_block (w:=w) (w':=w') (a:=⟨b,o,none⟩) (hoth b hne)]
  exact hG.holds b o v h
 ·simp only [zak] at h
  by_cases hid:id=id'
  ·subst hid
   rw [if_pos rfl] at h
   cases h
   exact ⟨B,hB,hown,vs',T,h1,by omega,hcells⟩
  ·rw [if_neg hid] at h
   obtain ⟨B2,q1,q2,q3⟩:=hG.objs id' cs2 h
   exact ⟨B2,q1,q2,hE.boxRel q2 (fun h=>by cases h; exact hid rfl) (fun _ _ _ _ h=>by cases h) q3⟩
 ·have hex:∃ cs0,aget σ.objs id'=some cs0:=by
   simp only [zak] at k2
   split at k2
   ·rename_i hh; subst hh; exact ⟨cs,hcs⟩
   ·exact ⟨cs2,k2⟩
  obtain ⟨cs0,hcs0⟩:=hex
  have hty:=hG.tys id' t cs0 k1 hcs0 b hb
  by_cases hbB:b=B
  ·subst hbB
   obtain ⟨row,hrow,hsz⟩:=hty
   have hrc:=hrow
   rw [h0] at hrc
   cases hrc
   refine ⟨_,h1,fun hp=>?_⟩
   obtain ⟨c,e1,e2,e3⟩:=hsz hp
   exact ⟨c,e1,by rw [← e2,← hcur]; rfl,e3⟩
  ·exact hty.keep (hoth b hbB) (fun _ _ h=>h)
 ·obtain ⟨B2,q1,q2,q3⟩:=hG.oth id' x h
  have hbB:B2≠B:=fun e=>by
   subst e
   exact q3.notCells h0
  exact ⟨B2,q1,q2,q3.keep (hoth B2 hbB) (fun _ _ _ h=>h) (fun _ _ h=>h)⟩
end
end Go.Mx

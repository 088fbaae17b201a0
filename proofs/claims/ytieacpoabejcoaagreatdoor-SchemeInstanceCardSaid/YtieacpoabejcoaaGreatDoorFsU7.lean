/-
 A scheme's classes are there,its variables its own: all of it.
-/
import Derived.Test.YtieacpoabejcoaaGreatDoorFsU5
set_option maxHeartbeats 4000000
set_option linter.unusedSimpArgs false
set_option linter.unusedVariables false
set_option linter.unusedSectionVars false
namespace Go.Fu
open Go Go.Mx
set_option maxRecDepth 10000
set_option maxHeartbeats 4000000
section
variable {C:CallF} {N:Nat} {σ σ1 σ2:Store}
def Emy (p:Nat) (vs:List Tx) (kd:D) (ps:List Pr) (t:Tp) (F:D) (b:Bool) (i:Nat):Env:={slots:=[(0,⟨false,.ptr p 0⟩),(5,⟨false,F⟩),(6,⟨false,.bool b⟩),(7,⟨false,.int .i64 i⟩)],locs:=[(3,3,0)],boxes:=[(3,bS7 vs kd ps t)],defers:=[]}
theorem my0_step (p:Nat) (vs:List Tx) (kd:D) (ps:List Pr) (t:Tp) (F F' r:D) (b:Bool) (i:Nat) (h:i < ps.length) (hl:ps.length < 1000) (ys:List D) (h1:C n_22 [dT ps[i].ty] σ=some (.ret ⟨false,r⟩,σ1)) (h2:listOf σ1.objs r=some ys) (h3:appendAD σ1 k_0 16 F ys=some (F',σ2))
  {nm v:Tx} {a:Int} {x y:D} {b1:Bool} (hx:x.one=true) (hy:y.one=true) (h4:C n_181 [.ptr p 0,.str ps[i].cls] σ2=some (.ret ⟨false,.tup [.agg [.str nm,.int .i64 a,.str v,.nils,x,y],.bool b1]⟩,σ2)) :
  exec C N none b_l13_may_l0 (Emy p vs kd ps t F b i) σ=some (.normal,Emy p vs kd ps t F' (b && b1) (i + 1),σ2):=by
 have hlt:((i:Int) < (ps.length:Int)):=by omega
 have hlp:lenOf (dPs ps)=some ps.length:=by simp only [dPs,lenOf_dlist,List.length_map]
 have hx5:indexD 5 (dPs ps) i=_:=idx_P ps i h
 have w1:=wrap64_succ (i:=i) (by omega)
 generalize ps[i]=q at *
 have hpt:∀ (a:Tx) (e:D),Mx.part (some 4) [.str a,.int .i64 q.ty.form,.int .i64 q.ty.num,.str q.ty.name,e] 1=some (.agg [.int .i64 q.ty.form,.int .i64 q.ty.num,.str q.ty.name,e]):=fun _ _=>rfl
 have hp0:∀ (a:Tx) (e:D),Mx.part none [.str a,.int .i64 q.ty.form,.int .i64 q.ty.num,.str q.ty.name,e] 0=some (.str a):=fun _ _=>rfl
 rw [dT_eq q.ty] at h1
 simp only [dP,cT] at hx5
 simp only [cT] at h1
 cases b with
 | false=>simp only [b_l13_may_l0,Emy,bS7,bT,sA,seval,kn,zeroI,lit1,lit2,lit3,lit4,lit5,lit6,lit7,lit8,memE,memOp,natI,hlt,hlp,hx5,hpt,hp0,h1,h2,h3,hx,hy,h4,w1]
 | true=>simp only [b_l13_may_l0,Emy,bS7,bT,sA,seval,kn,zeroI,lit1,lit2,lit3,lit4,lit5,lit6,lit7,lit8,memE,memOp,natI,hlt,hlp,hx5,hpt,hp0,h1,h2,h3,hx,hy,h4,w1]
theorem my0_end (p:Nat) (vs:List Tx) (kd:D) (ps:List Pr) (t:Tp) (F:D) (b:Bool):exec C N none b_l13_may_l0 (Emy p vs kd ps t F b ps.length) σ=some (.exit 0,{slots:=[(0,⟨false,.ptr p 0⟩),(5,⟨false,F⟩),(6,⟨false,.bool b⟩),(7,⟨false,.int .i64 ps.length⟩),(20,⟨false,.bool false⟩)],locs:=[(3,3,0)],boxes:=[(3,bS7 vs kd ps t)],defers:=[]},σ):=by
 have hlt:¬ ((ps.length:Int) < (ps.length:Int)):=by omega
 have hlp:lenOf (dPs ps)=some ps.length:=by simp only [dPs,lenOf_dlist,List.length_map]
 simp only [b_l13_may_l0,Emy,bS7,bT,sA,seval,kn,zeroI,lit1,lit2,lit3,lit4,lit5,lit6,lit7,lit8,hlp,hlt]
def Emz (vs:List Tx) (kd:D) (ps:List Pr) (t:Tp) (F:D) (b:Bool) (i:Nat):Env:={slots:=[(5,⟨false,F⟩),(6,⟨false,.bool b⟩),(10,⟨false,.int .i64 i⟩)],locs:=[(3,3,0)],boxes:=[(3,bS7 vs kd ps t)],defers:=[]}
theorem my1_step (vs:List Tx) (kd:D) (ps:List Pr) (t:Tp) (F:D) (all:List Tx) {m0:Nat} (hF:NR m0 σ F all) (b:Bool) (i:Nat) (h:i < all.length) (hl:all.length < 1000000) (h1:C n_17 [dSs vs,.str all[i]] σ=some (.ret ⟨false,.bool (vs.contains all[i])⟩,σ)) :
  exec C N none b_l13_may_l1 (Emz vs kd ps t F b i) σ=some (.normal,Emz vs kd ps t F (b && vs.contains all[i]) (i + 1),σ):=by
 have hlt:((i:Int) < (all.length:Int)):=by omega
 have hR:=rds_nr hF
 have hlf:=hR.len
 have w1:=wrap64_succ (i:=i) (by omega)
 have e1:=one_dSs vs
 rcases hR.get i h with hx | ⟨id,hx,cs,ha,hn⟩
 ·cases b with
  | false=>simp only [b_l13_may_l1,Emz,bS7,bT,sA,seval,kn,zeroI,lit1,lit2,lit3,lit4,lit5,lit6,lit7,lit8,memE,memOp,natI,hlf,hlt,hx,e1,h1,w1]
  | true=>simp only [b_l13_may_l1,Emz,bS7,bT,sA,seval,kn,zeroI,lit1,lit2,lit3,lit4,lit5,lit6,lit7,lit8,memE,memOp,natI,hlf,hlt,hx,e1,h1,w1]
 ·cases b with
  | false=>simp only [b_l13_may_l1,Emz,bS7,bT,sA,seval,kn,zeroI,lit1,lit2,lit3,lit4,lit5,lit6,lit7,lit8,memE,memOp,natI,hlf,hlt,hx,ha,hn,e1,h1,w1]
  | true=>simp only [b_l13_may_l1,Emz,bS7,bT,sA,seval,kn,zeroI,lit1,lit2,lit3,lit4,lit5,lit6,lit7,lit8,memE,memOp,natI,hlf,hlt,hx,ha,hn,e1,h1,w1]
theorem my1_end (vs:List Tx) (kd:D) (ps:List Pr) (t:Tp) (F:D) (all:List Tx) {m0:Nat} (hF:NR m0 σ F all) (b:Bool):exec C N none b_l13_may_l1 (Emz vs kd ps t F b all.length) σ=some (.exit 2,{slots:=[(5,⟨false,F⟩),(6,⟨false,.bool b⟩),(10,⟨false,.int .i64 all.length⟩),(50,⟨false,.bool false⟩)],locs:=[(3,3,0)],boxes:=[(3,bS7 vs kd ps t)],defers:=[]},σ):=by
 have hlt:¬ ((all.length:Int) < (all.length:Int)):=by omega
 have hlf:=(rds_nr hF).len
 simp only [b_l13_may_l1,Emz,bS7,bT,sA,seval,kn,zeroI,lit1,lit2,lit3,lit4,lit5,lit6,lit7,lit8,hlf,hlt]
end
theorem my0_loop {m:Nat} (p:Nat) (vs:List Tx) (kd:D) (ps:List Pr) (t:Tp) (hl:ps.length < 5) {mc mm k0:Nat} {ins:D} {es:List (Tx × Cs × Nat)} {m0:Nat} {σ0:Store} (hp:p < m0) (hmc:mc < m0) (hm0:m0≤σ0.next) (hE:EV p mc mm ins es k0 σ0) (hnt:∀ q∈ps,nT q.ty < 100000)
  (hF:∀ i,i < ps.length→∀ (h:i < ps.length) σ,∃ r σ',T m n_22 [dT ps[i].ty] σ=some (.ret ⟨false,r⟩,σ')∧NR σ.next σ' r (freeR ps[i].ty [])∧G σ.next σ σ')
  (hC:∀ s σ,EV p mc mm ins es k0 σ→∃ (nm v:Tx) (a:Int) (x y:D) (b:Bool),x.one=true∧y.one=true∧(b=true→s∈es.map Prod.fst)∧T m n_181 [.ptr p 0,.str s] σ=some (.ret ⟨false,.tup [.agg [.str nm,.int .i64 a,.str v,.nils,x,y],.bool b]⟩,σ)) :
  ∀ (r k i:Nat) (F:D) (all:List Tx) (b:Bool) (σ:Store),i + r=ps.length→r < k→NR m0 σ F all→all.length≤100000 * (i + 1)→G m0 σ0 σ→(b=true→∀ j (h:j < ps.length),j < i→ps[j].cls∈es.map Prod.fst)→(∀ j (h:j < ps.length),j < i→∀ s∈freeT ps[j].ty,s∈all) →
  ∃ F' all' b' σ',loopN (exec (T m) m none b_l13_may_l0) k (Emy p vs kd ps t F b i) σ=some (.exit 0,{slots:=[(0,⟨false,.ptr p 0⟩),(5,⟨false,F'⟩),(6,⟨false,.bool b'⟩),(7,⟨false,.int .i64 ps.length⟩),(20,⟨false,.bool false⟩)],locs:=[(3,3,0)],boxes:=[(3,bS7 vs kd ps t)],defers:=[]},σ')∧NR m0 σ' F' all'∧all'.length < 1000000∧G m0 σ0 σ'∧(b'=true→b=true)∧(b'=true→∀ q∈ps,q.cls∈es.map Prod.fst)∧(∀ q∈ps,∀ s∈freeT q.ty,s∈all')∧∀ s∈all,s∈all'
 | _,0,_,_,_,_,_,_,hk,_,_,_,_,_=>absurd hk (by omega)
 | 0,k + 1,i,F,all,b,σ,hi,_,hN,ha,hg,hb,hs=>by
  have:i=ps.length:=by omega
  subst this
  refine ⟨F,all,b,σ,loopN_stop (my0_end p vs kd ps t F b),hN,by omega,hg,id,fun hbt q hq=>?_,fun q hq=>?_,fun _ h=>h⟩
  ·obtain ⟨j,hj,rfl⟩:=List.getElem_of_mem hq
   exact hb hbt j hj hj
  ·obtain ⟨j,hj,rfl⟩:=List.getElem_of_mem hq
   exact hs j hj hj
 | r + 1,k + 1,i,F,all,b,σ,hi,hk,hN,ha,hg,hb,hs=>by
  have hil:i < ps.length:=by omega
  have hm1:m0≤σ.next:=Nat.le_trans hm0 hg.le
  obtain ⟨rr,σ1,f1,f2,f3⟩:=hF i hil hil σ
  have hNk:=nr_keep hN (Nat.le_refl _) f3
  have hnti:=hnt _ (List.getElem_mem hil)
  have hfl:=freeR_len ps[i].ty []
  simp only [List.length_nil] at hfl
  obtain ⟨F1,σ2,a1,a2,a3⟩:=nr_appL hNk (Nat.le_trans hm1 f3.le) (freeR ps[i].ty []) (by omega)
  have hg2:G m0 σ0 σ2:=hg.trans ((f3.less hm1).trans a3)
  have hE2:=hE.keep hg2 hp hmc
  obtain ⟨nm,v,a,x,y,b1,hx,hy,hb1,c1⟩:=hC ps[i].cls σ2 hE2
  have st:=my0_step (N:=m) p vs kd ps t F F1 rr b i hil (by omega) _ f1 (listOf_nr f2) a1 hx hy c1
  have hmem:∀ s,s∈freeT ps[i].ty→s∈all ++ freeR ps[i].ty []:=fun s hs'=>List.mem_append.2 (.inr ((freeR_mem s ps[i].ty []).2 (.inr hs')))
  obtain ⟨F',all',b',σ',l1,l2,l3,l4,l5,l6,l7,l8⟩:=my0_loop p vs kd ps t hl hp hmc hm0 hE hnt hF hC r k (i + 1) F1 (all ++ freeR ps[i].ty []) (b && b1) σ2 (by omega) (by omega) a2 (by rw [List.length_append]; omega) hg2 (fun hbt j hj hji=>by
   rw [Bool.and_eq_true] at hbt
   by_cases hj2:j < i
   ·exact hb hbt.1 j hj hj2
   ·have:j=i:=by omega
    subst this
    exact hb1 hbt.2) (fun j hj hji s hs'=>by
   by_cases hj2:j < i
   ·exact List.mem_append.2 (.inl (hs j hj hj2 s hs'))
   ·have:j=i:=by omega
    subst this
    exact hmem s hs')
  exact ⟨F',all',b',σ',loopN_next st l1,l2,l3,l4,fun h=>(by have:=l5 h; rw [Bool.and_eq_true] at this; exact this.1),l6,l7,fun s hs'=>l8 s (List.mem_append.2 (.inl hs'))⟩
theorem my1_loop {m:Nat} (vs:List Tx) (kd:D) (ps:List Pr) (t:Tp) (F:D) (all:List Tx) {m0:Nat} {σ:Store} (hF:NR m0 σ F all) (hl:all.length < 1000000) (hH:∀ s,T m n_17 [dSs vs,.str s] σ=some (.ret ⟨false,.bool (vs.contains s)⟩,σ)):∀ (r k i:Nat) (b:Bool),i + r=all.length→r < k→(b=true→∀ j (h:j < all.length),j < i→all[j]∈vs) →
  ∃ b',loopN (exec (T m) m none b_l13_may_l1) k (Emz vs kd ps t F b i) σ=some (.exit 2,{slots:=[(5,⟨false,F⟩),(6,⟨false,.bool b'⟩),(10,⟨false,.int .i64 all.length⟩),(50,⟨false,.bool false⟩)],locs:=[(3,3,0)],boxes:=[(3,bS7 vs kd ps t)],defers:=[]},σ)∧(b'=true→b=true)∧(b'=true→∀ s∈all,s∈vs)
 | _,0,_,_,_,hk,_=>absurd hk (by omega)
 | 0,k + 1,i,b,hi,_,hb=>by
  have:i=all.length:=by omega
  subst this
  refine ⟨b,loopN_stop (my1_end vs kd ps t F all hF b),id,fun hbt s hs=>?_⟩
  obtain ⟨j,hj,rfl⟩:=List.getElem_of_mem hs
  exact hb hbt j hj hj
 | r + 1,k + 1,i,b,hi,hk,hb=>by
  have hil:i < all.length:=by omega
  have st:=my1_step (N:=m) vs kd ps t F all hF b i hil hl (hH all[i])
  obtain ⟨b',l1,l2,l3⟩:=my1_loop vs kd ps t F all hF hl hH r k (i + 1) (b && vs.contains all[i]) (by omega) (by omega) (fun hbt j hj hji=>by
   rw [Bool.and_eq_true] at hbt
   by_cases hj2:j < i
   ·exact hb hbt.1 j hj hj2
   ·have:j=i:=by omega
    subst this
    simpa using hbt.2)
  exact ⟨b',loopN_next st l1,fun h=>(by have:=l2 h; rw [Bool.and_eq_true] at this; exact this.1),l3⟩
theorem may_run (vs:List Tx) (kd:D) (hk:kd.one=true) (ps:List Pr) (t:Tp) (hv:vs.length < 1000) (hl:ps.length < 5) (hnt:∀ q∈ps,nT q.ty < 100000) (ht:nT t < 100000):Evly fun n=>∀ (p mc mm:Nat) (ins:D) (es:List (Tx × Cs × Nat)) (k0:Nat) σ,p < σ.next→mc < σ.next→EV p mc mm ins es k0 σ→(∀ y∈es,y.2.1.sups.length < 1000)→(∀ y∈es,y.2.1.mets.length < 1000) →
  ∃ b σ',T n n_132 [.ptr p 0,dSc vs kd ps t] σ=some (.ret ⟨false,.bool b⟩,σ')∧G σ.next σ σ'∧(b=true→(∀ s∈vs,s∈freeT t)∧(∀ q∈ps,q.cls∈es.map Prod.fst)∧(∀ s∈freeT t,s∈vs)∧∀ q∈ps,∀ s∈freeT q.ty,s∈vs):=by
 have hF:Evly fun n=>∀ i,i < ps.length→∀ (h:i < ps.length) σ,∃ r σ',T n n_22 [dT ps[i].ty] σ=some (.ret ⟨false,r⟩,σ')∧NR σ.next σ' r (freeR ps[i].ty [])∧G σ.next σ σ' :=
  Evly.below _ fun i hi=>(Free_r_run ps[i].ty (hnt _ (List.getElem_mem hi))).mono fun n h _ σ=>h σ
 have hH:=hasR_run vs (by omega)
 refine ((((Free_r_run t ht).and (told_run vs kd ps t hv ht hk)).and (hF.and hH)).and eclass_run).step 1000100 fun m hm h p mc mm ins es k0 σ hp hmc hE hsz hmz=>?_
 obtain ⟨⟨⟨f1,f2⟩,f3,f4⟩,f5⟩:=h
 obtain ⟨F0,σ1,a1,a2,a3⟩:=f1 σ
 obtain ⟨σ2,b1,b2⟩:=f2 σ1
 have hN2:=nr_keep a2 (Nat.le_refl _) b2
 have hg2:G σ.next σ σ2:=a3.trans (b2.less a3.le)
 have hfl:=freeR_len t []
 simp only [List.length_nil] at hfl
 obtain ⟨F',all',b',σ3,l1,l2,l3,l4,l5,l6,l7,l8⟩:=my0_loop (m:=m) p vs kd ps t hl (m0:=σ.next) hp hmc (Nat.le_refl _) hE hnt f3 (fun s τ hτ=>f5 p mc mm ins es k0 s τ hτ hsz hmz) ps.length m 0 F0 (freeR t []) (vs.all fun v=>(freeR t []).contains v) σ2 (by omega) (by omega) hN2 (by omega) hg2 (fun _ j _ h=>absurd h (by omega)) (fun j _ h=>absurd h (by omega))
 obtain ⟨b'',k1,k2,k3⟩:=my1_loop (m:=m) vs kd ps t F' all' l2 l3 (fun s=>f4 s σ3 _ (rds_list σ3 vs)) all'.length m 0 b' (by omega) (by omega) (fun _ j _ h=>absurd h (by omega))
 refine ⟨b'',σ3,?_,l4,fun hb=>⟨fun s hs=>?_,l6 (k2 hb),fun s hs=>?_,fun q hq s hs=>k3 hb s (l7 q hq s hs)⟩⟩
 ·have oS:=one_dSs vs
  have oP:=one_dPs ps
  simp only [Emy,bS7,bT,zeroI] at l1
  simp only [Emz,bS7,bT,zeroI] at k1
  rw [dT_eq t] at a1
  simp only [cT] at a1 b1
  simp only [dSc,cT]
  rw [T_fun (af:=b_l13_may) rfl rfl]
  simp only [b_l13_may,sA,seval,kn,zeroI,lit1,lit2,lit3,lit4,lit5,lit6,lit7,lit8,hk,oS,oP,a1,b1,l1,k1]
 ·have h1:=l5 (k2 hb)
  rw [List.all_eq_true] at h1
  have h2:=h1 s hs
  have h3:s∈freeR t []:=by simpa using h2
  rcases (freeR_mem s t []).1 h3 with h | h
  ·cases h
  ·exact h
 ·exact k3 hb s (l8 s ((freeR_mem s t []).2 (.inr hs)))
end Go.Fu
namespace Go.Fu
open Go Go.Mx
set_option maxRecDepth 10000
set_option maxHeartbeats 4000000
def MayR (vs:List Tx) (ps:List Pr) (t:Tp) (p:Nat) (σ:Store):Prop:=(∀ s∈vs,s∈freeT t)∧(∀ s∈freeT t,s∈vs)∧(∀ q∈ps,∀ s∈freeT q.ty,s∈vs) ∧
 ∃ mc mm ins es k0,EV p mc mm ins es k0 σ∧p < σ.next∧mc < σ.next∧es.length < 500∧(∀ y∈es,y.2.1.sups.length < 1000)∧∀ q∈ps,q.cls∈es.map Prod.fst
theorem less_run (vs ws:List Tx) (kd kd':D) (hk:kd.one=true) (hk':kd'.one=true) (ps:List Pr) (t:Tp) (bys:List Tp) (hv:vs.length < 6) (hw:ws.length < 6) (hps:ps.length < 1000) (hb:bys.length=vs.length) (ht:vs1 t=true) :
  Evly fun n=>∀ p σ,MayR vs ps t p σ→∃ σ',G σ.next σ σ'∧T n n_137 [.ptr p 0,dSc vs kd ps t,dSc ws kd' (ps.map (putP vs bys)) (subT vs bys t)] σ=some (.ret ⟨false,.bool true⟩,σ'):=by
 have hall:=allhold_run (apP 37 ws (ps.map (putP vs bys))) (by simp [apP]; omega)
 have hg:=General_run (R:=MayR vs ps t) (Pb:=fun b=>b=false) vs ws kd kd' hk hk' ps (ps.map (putP vs bys)) t (subT vs bys t) hv hw hps (by simpa using hps) (hall.mono fun n h p σ0 hR a c σ hal hcl2 ha hc hG=>by
  obtain ⟨h1,h2,h3,mc,mm,ins,es,k0,hE,hp,hmc,hes,hsz,hcl⟩:=hR
  obtain ⟨_,e⟩:=gen_inst vs ws bys hv hb t ht h2 h1 ps h3
  rw [e]
  have hp2:p < σ.next:=Nat.lt_of_lt_of_le hp hG.le
  obtain ⟨σ',r,gg⟩:=h p mc mm ins es k0 σ hp2 (Nat.lt_of_lt_of_le hmc hG.le) (hE.keep hG hp hmc) hes hsz (fun x hx=>by
   unfold apP at hx
   rw [List.map_map] at hx
   obtain ⟨q,hq,rfl⟩:=List.mem_map.1 hx
   exact hcl q hq) a c hal hcl2 ha hc
  exact ⟨false,σ',rfl,r,gg⟩)
 refine hg.mono fun n h p σ hR=>?_
 obtain ⟨σ',gg,h1⟩:=h p σ hR
 obtain ⟨m1,_⟩:=gen_inst vs ws bys hv hb t ht hR.2.1 hR.1 ps hR.2.2.1
 refine ⟨σ',gg,?_⟩
 rcases h1 with ⟨h2,_⟩ | ⟨_,b,hb2,h3⟩
 ·rw [m1] at h2; cases h2
 ·rw [hb2] at h3
  exact h3
theorem bz_small:bz 5 < 100000:=by decide
theorem law_instance (dw dl dm:D) (xw xl xm:List Int) (hw:Row dw xw) (sw:Smalls' xw) (hl:Row dl xl) (sl:Smalls xl) (hm:Row dm xm) (sm:Smalls xm) (n k:Int) (hn:Small n) (hk:Small k):Evly fun N=>∀ σ,∃ σ',T N n_248 [dw,dl,dm,.int .i64 n,.int .i64 k] σ=some (.ret ⟨false,.bool true⟩,σ'):=by
 obtain ⟨vs,kd,ps,t,⟨hv,hvo⟩,⟨hps,hpl⟩,ht,m1⟩:=made_run dl dm xl xm n hl sl hm sm hn
 have hkd:(dlist k_5 kd).one=true:=one_dlist
 have hvs:vs1 t=true:=vs1_of_tyB t ht.1.1
 obtain ⟨bys,hb,_,i1⟩:=instance_run dm xm hm sm k hk vs (dlist k_5 kd) hkd ps t (by omega) (by omega)
 obtain ⟨bys2,hb2,_,i2⟩:=instance_run dl xl hl sl (IntKind.i64.wrap (k + 1)) (small_wrap _) vs (dlist k_5 kd) hkd ps t (by omega) (by omega)
 have hnt:nT t < 100000:=Nat.lt_of_le_of_lt ht.2 bz_small
 have hntp:∀ q∈ps,nT q.ty < 100000:=fun q hq=>Nat.lt_of_le_of_lt (hpl q hq).1.2 (by decide)
 have hmay:=may_run vs (dlist k_5 kd) hkd ps t (by omega) (by omega) hntp hnt
 have g1:=less_run vs [[97],[98],[99]] (dlist k_5 kd) .nils hkd rfl ps t bys (by omega) (by decide) (by omega) hb hvs
 have g2:=less_run vs [[97],[98],[99]] (dlist k_5 kd) .nils hkd rfl ps t bys2 (by omega) (by decide) (by omega) hb2 hvs
 refine ((((lworld_run dw xw hw sw).and lives_run).and (m1.and hmay)).and ((i1.and i2).and (g1.and g2))).step 10 fun m hm h σ=>?_
 obtain ⟨⟨⟨w1,l1⟩,m1,my⟩,⟨i1,i2⟩,g1,g2⟩:=h
 obtain ⟨σ1,cs,is,hw1⟩:=w1 σ
 have e1:=one_dCl cs
 have e2:=one_dIl is
 have hS:=fun l:List Tx=>one_dSs l
 have hP:=fun l:List Pr=>one_dPs l
 have hK:∀ l:List D,(dlist k_5 l).one=true:=fun _=>one_dlist
 have b1:=m1 σ1
 rcases hw1 with hw1 | ⟨p,hw1,mc,mm,iss,es,k0,hE,hp,hmc,hes,hsz,_,hmz⟩
 ·refine ⟨σ1,?_⟩
  have l2:=l1 σ1
  simp only [cT] at b1
  simp only [dPg] at hw1
  rw [T_fun (af:=a_40) rfl rfl]
  simp only [a_40,sA,seval,kn,zeroI,lit1,lit2,lit3,lit4,lit5,lit6,lit7,lit8,e1,e2,hw1,b1,hS,hP,hK,one_dlist,l2]
 ·obtain ⟨b,σ2,y1,y2,y3⟩:=my p mc mm (dIl iss) es k0 σ1 hp hmc hE hsz hmz
  cases b with
  | false =>
   refine ⟨σ2,?_⟩
   have l2:=l1 σ2
   simp only [cT] at b1
   simp only [dPg] at hw1
   simp only [dSc,cT] at y1
   rw [T_fun (af:=a_40) rfl rfl]
   simp only [a_40,sA,seval,kn,zeroI,lit1,lit2,lit3,lit4,lit5,lit6,lit7,lit8,e1,e2,hw1,b1,hS,hP,hK,one_dlist,y1,l2]
  | true =>
   obtain ⟨z1,z2,z3,z4⟩:=y3 rfl
   have hE2:=hE.keep y2 hp hmc
   have hp2:=Nat.lt_of_lt_of_le hp y2.le
   have hmc2:=Nat.lt_of_lt_of_le hmc y2.le
   obtain ⟨σ3,k3,r3⟩:=g1 p σ2 ⟨z1,z3,z4,mc,mm,dIl iss,es,k0,hE2,hp2,hmc2,hes,hsz,z2⟩
   have hE3:=hE2.keep k3 hp2 hmc2
   have hp3:=Nat.lt_of_lt_of_le hp2 k3.le
   have hmc3:=Nat.lt_of_lt_of_le hmc2 k3.le
   obtain ⟨σ4,k4,r4⟩:=g2 p σ3 ⟨z1,z3,z4,mc,mm,dIl iss,es,k0,hE3,hp3,hmc3,hes,hsz,z2⟩
   have c1:=i1 σ2
   have c2:=i2 σ3
   have l2:=l1 σ4
   refine ⟨σ4,?_⟩
   generalize ps.map (putP vs bys)=P1 at *
   generalize ps.map (putP vs bys2)=P2 at *
   generalize subT vs bys t=u1 at *
   generalize subT vs bys2 t=u2 at *
   simp only [cT] at b1
   simp only [dPg] at hw1
   simp only [dSc,cT] at y1 c1 c2 r3 r4
   rw [T_fun (af:=a_40) rfl rfl]
   simp only [a_40,sA,seval,kn,zeroI,lit1,lit2,lit3,lit4,lit5,lit6,lit7,lit8,e1,e2,hw1,b1,hS,hP,hK,one_dlist,y1,c1,r3,c2,r4,l2]
theorem lawI (D0 D1 D2:D) (x0 x1 x2:List Int) (n3 n4:Int) (i0:IntRow k_int D0 x0) (i1:IntRow k_int D1 x1) (i2:IntRow k_int D2 x2) (s0:∀ x∈x0,Small x) (s1:∀ x∈x1,Small x) (s2:∀ x∈x2,Small x) (s3:Small n3) (s4:Small n4):Evly fun N=>∃ σ1,T N n_248 [D0,D1,D2,.int .i64 n3,.int .i64 n4] σ0=some (.ret ⟨false,.bool true⟩,σ1) :=
 (law_instance D0 D1 D2 x0 x1 x2 i0 s0 i1 s1 i2 s2 n3 n4 s3 s4).mono fun _ h=>h σ0
end Go.Fu

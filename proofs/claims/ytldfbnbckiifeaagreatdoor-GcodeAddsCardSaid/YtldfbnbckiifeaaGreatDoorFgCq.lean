/-
 A combinator made aW by the program.
-/
import Derived.Test.YtldfbnbckiifeaaGreatDoorFgEa
import Derived.Test.YtldfbnbckiifeaaGreatDoorFgDb
import Derived.Test.YtldfbnbckiifeaaGreatDoorFgDe
import Derived.Test.YtldfbnbckiifeaaGreatDoorFgY
import Derived.Test.YtldfbnbckiifeaaGreatDoorFgO
set_option maxHeartbeats 4000000
set_option linter.unusedSimpArgs false
set_option linter.unusedVariables false
set_option linter.unusedSectionVars false
namespace Go.Fu
open Go Go.Mx
set_option maxRecDepth 10000
set_option maxHeartbeats 4000000
theorem zceb (p:Nat) (t:Tx) (ht:t.length < 10000000):∀ (k:Nat) (c:Co) (lz:Bool) (ar:List Tx),c.size=k→Wf c→ar.length + c.size < 10000000→wP p t c lz ar (flM c lz ar t):=by
 intro k
 induction k using Nat.strongRecOn with
 | ind k ih =>
  intro c lz ar hk hw hsz
  have hse:=gZ c
  have lB:=lY c.bs
  obtain ⟨hbd,wb,wk,wa⟩:=hw.bnd
  cases hli:jL c lz with
  | true =>
   have hlz:lz=true:=by
    unfold jL at hli
    cases lz with
    | true=>rfl
    | false=>simp at hli
   subst hlz
   have:flM c true ar t=sX c ar t:=funext fun m=>yK c true ar t m hli
   rw [this]
   exact zvc c hw (by omega) ar (by omega) p t ht hli
  | false =>
   refine zvb p t c lz ar hw hsz hli ht (fun b hb=>?_) (fun x hx=>?_) (fun b hb=>?_)
   ·have:=zih c.bs b hb
    exact ih b.2.size (by omega) b.2 true _ rfl (wb b hb) (by simp [nms]; omega)
   ·have:=xX c.ks x hx
    exact ih x.size (by omega) x _ _ rfl (wk x hx) (by simp [nms]; omega)
   ·have:=lN c.al b hb
    exact ih b.2.size (by omega) b.2 false _ rfl (wa b hb) (by simp [nms]; omega)
def jA:Nat→Su→List Su
 | 0,u=>[u]
 | k + 1,u=>⟨u.name,u.ps,(flM u.body false u.ps u.name []).1⟩ :: (flM u.body false u.ps u.name []).2.flatMap (jA k)
def fV (u:Su):List Su:=jA u.body.size u
def spG (k:Nat):FuncId→List D→Cell→Prop:=fun _ ds c=>∀ u,ds=[dU u]→c=⟨false,dUs (jA k u)⟩
open Classical in
noncomputable def Cfl (k n:Nat):aM:=fun f ds σ=>ifB (f == uE) (orc Go.Proofs.Tryz.prog κ (spG k) f ds σ) (W SP n f ds σ)
theorem zp2 (k n:Nat):iO Go.Proofs.Tryz.prog κ (Cfl k n):=by
 intro f ds σ out σ' h
 unfold Cfl at h
 cases e:f == uE with
 | true=>rw [e,aE] at h; exact zbt _ _ _ _ _ h
 | false=>rw [e,aG] at h; exact mX SP n _ _ _ _ _ h
section
variable {C:aM} {n:Nat} {σ:Store}
def Egf (a:Nat) (m acc:List Su) (i:Nat):Env:={slots:=[(4,⟨true,dUs acc⟩),(23,⟨false,tR a m⟩),(24,⟨false,.int .i64 m.length⟩),(25,⟨false,.int .i64 i⟩)],locs:=[],boxes:=[],defers:=[]}
theorem zyv (a:Nat) (m acc us:List Su) (i:Nat) (h:i < m.length) (hm:m.length < 100000000) (ha:aB σ.objs a=some (cellsOf (m.map dU))) (hl:acc.length + us.length < 1000000000) (hc:C uE [dU m[i]] σ=some (.ret ⟨false,dUs us⟩,σ)):exec C n none Yl (Egf a m acc i) σ=some (.normal,Egf a m (acc ++ us) (i + 1),σ):=by
 have hlt:((i:Int) < (m.length:Int)):=by omega
 have w:=aR (i:=i) (by omega)
 have ht:=zD (g:=dU) (sz:=11) yH m i h
 have es:(k_5.sz == 12)=true:=rfl
 have hag:tR a m=.arr k_5 a 0 m.length:=oP _ _ _ (by omega)
 have hap:=ztl acc us true (fun _=>rfl) hl
 have has:=Eo us
 generalize m[i]=u at ht hc
 have hon:=fF u.body
 have hoS:=dN u.ps
 rw [Cj] at ht hc
 simp only [D.cells] at ht
 simp only [Yl,Egf,hag,sA,Nat.reduceAdd,Nat.reduceSub,Nat.reduceMul,Nat.reduceBEq,Nat.reduceLeDiff,Int.reduceBEq,Int.reduceBNe,Int.reduceLE,Int.reduceLT,Int.reduceGE,Int.reduceGT,Int.reduceNeg,kn,hlt,cL,jJ,es,h,Nat.zero_add,ha,ht,hon,hoS,hc,has,hap,w]
theorem zbhb (a:Nat) (m acc:List Su):exec C n none Yl (Egf a m acc m.length) σ=some (.exit 0,{Egf a m acc m.length with slots:=[(4,⟨true,dUs acc⟩),(23,⟨false,tR a m⟩),(24,⟨false,.int .i64 m.length⟩),(25,⟨false,.int .i64 m.length⟩),(26,⟨false,.bool false⟩)]},σ):=by
 have hlt:¬ ((m.length:Int) < (m.length:Int)):=by omega
 simp only [Yl,Egf,sA,Nat.reduceAdd,Nat.reduceSub,Nat.reduceMul,Nat.reduceBEq,Nat.reduceLeDiff,Int.reduceBEq,Int.reduceBNe,Int.reduceLE,Int.reduceLT,Int.reduceGE,Int.reduceGT,Int.reduceNeg,kn,hlt]
end
theorem zua {B B':Nat} (hB:B≤B') (hB':B'≤9000000):∀ (k:Nat) (s:Su),s.body.size≤k→Jf B B' s→OkP uE [dU s] ⟨false,dUs (jA k s)⟩∧FO B' s.body.size (jA k s):=by
 intro k
 induction k with
 | zero=>intro s h; have:=iF s.body; omega
 | succ k ih =>
  intro s hk ⟨hs,hn,hps,hsz⟩
  have hpos:=iF s.body
  have hhp:=zri s.body
  obtain ⟨r1,r2,r3,r4⟩:=Oh (B:=B) (B':=B') (t:=s.name) hs hB (by omega) false s.ps []
  have r5:=zt7 (B:=B) (B':=B') (t:=s.name) hs hB (by omega) s.ps []
  have r6:=zq6 s.body s.ps s.name
  obtain ⟨σ1,e1⟩:∃ σ1,σ1=GA σ0 zxx [⟨false,.str s.name⟩,⟨false,.nils⟩]:=⟨_,rfl⟩
  have n0:σ0.next=0:=rfl
  have n1:σ1.next=1:=by rw [e1,cS]; rfl
  have h1:FSt σ1 0 5 s.name []:=⟨by rw [e1]; rfl,fun e=>absurd rfl e,by decide,by omega,fun e=>absurd rfl e⟩
  obtain ⟨σ2,a2,⟨x2,w2⟩,h2,_⟩:=zceb 0 s.name (by omega) s.body.size s.body false s.ps rfl (Shp.wf hs) (by omega) σ1 5 [] h1 (by simp; omega)
  have hfu:jA (k + 1) s=⟨s.name,s.ps,(flM s.body false s.ps s.name []).1⟩ :: (flM s.body false s.ps s.name []).2.flatMap (jA k):=rfl
  rw [hfu]
  generalize flM s.body false s.ps s.name []=fr at *
  obtain ⟨b,m⟩:=fr
  simp only [szU,Nat.zero_add] at w2 h2 r1 r2 r3 r4 r5 r6
  have pre:∀ u∈m,Jf B B' u∧u.body.size < s.body.size:=fun u hu=>by
   have h2:=za1 m u hu
   have h6:=r6 u hu
   rcases r4 u hu with h | ⟨h3,h4,h5,_⟩
   ·cases h
   ·exact ⟨⟨h3,by omega,by omega,by omega⟩,by omega⟩
  have hml:=zmd m
  have hu0:FlU B' ⟨s.name,s.ps,b⟩:=⟨r1,by simp only; omega,by simp only; omega⟩
  have ihm:∀ u∈m,OkP uE [dU u] ⟨false,dUs (jA k u)⟩∧FO B' u.body.size (jA k u):=fun u hu=>ih u (by have:=(pre u hu).2; omega) (pre u hu).1
  have hprops:∀ l:List Su,(∀ u∈l,u∈m)→(∀ u∈l.flatMap (jA k),FlU B' u)∧(l.flatMap (jA k)).length≤szU l∧szU (l.flatMap (jA k))≤3 * s.body.size * szU l:=by
   intro l
   induction l with
   | nil=>intro _; exact ⟨fun u hu=>by simp at hu,by simp,by simp [szU]⟩
   | cons x r ihr =>
    intro hl
    obtain ⟨p1,p2,p3⟩:=ihr fun u hu=>hl u (List.mem_cons_of_mem _ hu)
    have hx:=hl x (List.mem_cons_self ..)
    obtain ⟨g1,g2,g3⟩:=(ihm x hx).2
    have hlt:=(pre x hx).2
    rw [List.flatMap_cons]
    refine ⟨fun u hu=>?_,?_,?_⟩
    ·rcases List.mem_append.1 hu with h | h
     ·exact g1 u h
     ·exact p1 u h
    ·rw [List.length_append]; simp only [szU]; omega
    ·rw [Hy]
     simp only [szU]
     have:3 * x.body.size * x.body.size≤3 * s.body.size * x.body.size:=Nat.mul_le_mul_right _ (by omega)
     rw [Nat.mul_add]
     omega
  obtain ⟨t1,t2,t3⟩:=hprops m fun _ h=>h
  dsimp only
  refine ⟨?_,?_,?_,?_⟩
  ·have hrun:=gI (body:=exec (Cfl k (x2 + 1)) (m.length + 1) none Yl) (fun i=>Egf a2 m ([⟨s.name,s.ps,b⟩] ++ (m.take i).flatMap (jA k)) i) (fun _=>σ2) m.length (r:=_) (fun _ _ h=>by cases h) (fun i hi=>by
    have hmem:=List.getElem_mem hi
    have hne:m≠[]:=List.ne_nil_of_mem hmem
    obtain ⟨c,hc1,hc2⟩:=zl3 (P:=Go.Proofs.Tryz.prog) (κ:=κ) (nO:=spG k) (f:=uE) (ds:=[dU m[i]]) ⟨⟨false,dUs (jA k m[i])⟩,fun u hu=>by
     simp only [List.cons.injEq,and_true] at hu
     rw [Jt hu],(ihm _ hmem).1⟩
    have hcc:Cfl k (x2 + 1) uE [dU m[i]] σ2=some (.ret ⟨false,dUs (jA k m[i])⟩,σ2):=by
     unfold Cfl
     rw [beq_self_eq_true,aE,hc2,hc1 _ rfl]
    obtain ⟨p1,p2,p3⟩:=hprops (m.take i) fun u hu=>List.mem_of_mem_take hu
    obtain ⟨g1,g2,g3⟩:=(ihm _ hmem).2
    have htl:=zkr m i
    have hz:=za1 m _ hmem
    have:=zyv (C:=Cfl k (x2 + 1)) (n:=m.length + 1) (σ:=σ2) a2 m ([⟨s.name,s.ps,b⟩] ++ (m.take i).flatMap (jA k)) (jA k m[i]) i hi (by omega) (h2.arr hne).1 (by rw [List.length_append,List.length_singleton]; omega) hcc
    have e:[⟨s.name,s.ps,b⟩] ++ (m.take i).flatMap (jA k) ++ jA k m[i]=[⟨s.name,s.ps,b⟩] ++ (m.take (i + 1)).flatMap (jA k):=by
     rw [← fL m i hi,List.flatMap_append,List.append_assoc]
     simp
    rw [e] at this
    exact this) (zbhb a2 m _) 0 (m.length + 1) (by omega) (by omega)
   rw [List.take_length] at hrun
   have hput:Cfl k (x2 + 1) sY [.ptr 0 0,dCo s.body,.bool false,dSs s.ps] σ1=some (.ret ⟨false,dCo b⟩,σ2):=w2 (x2 + 1) (by omega)
   have e1':dUs [⟨s.name,s.ps,b⟩]=.list k_5 [dU ⟨s.name,s.ps,b⟩]:=rfl
   have e0:([⟨s.name,s.ps,b⟩]:List Su) ++ (m.take 0).flatMap (jA k)=[⟨s.name,s.ps,b⟩]:=by simp
   have hcat:([⟨s.name,s.ps,b⟩]:List Su) ++ m.flatMap (jA k)=⟨s.name,s.ps,b⟩ :: m.flatMap (jA k):=rfl
   rw [hcat] at hrun
   generalize (⟨s.name,s.ps,b⟩ :: m.flatMap (jA k):List Su)=R at *
   have hoR:(dUs R).one=true:=bZ
   have hobj:=h2.obj
   have hon:=fF s.body
   have honb:=fF b
   have hoS:=dN s.ps
   have hla:lenOf (tR a2 m)=some m.length:=yQ _ _ _
   simp only [Egf,bV,e0,e1'] at hrun
   rw [Cj] at hrun
   simp only at hrun
   rw [bY,bY] at hput
   refine OkP.weak (o:=true) rfl (pO (af:=zdo) (n:=m.length + 1) (σ':=σ2) (zp2 k (x2 + 1)) rfl rfl (by simp [aX,Gv]) (sG _) ?_)
   rw [Cj]
   simp only [zdo,sA,Nat.reduceAdd,Nat.reduceSub,Nat.reduceMul,Nat.reduceBEq,Nat.reduceLeDiff,Int.reduceBEq,Int.reduceBNe,Int.reduceLE,Int.reduceLT,Int.reduceGE,Int.reduceGT,Int.reduceNeg,kn,bF,mB,n0,← e1,hon,hoS,hput,honb,hobj,jB,hla,hrun]
  ·intro u hu
   rcases List.mem_cons.1 hu with rfl | hu
   ·exact hu0
   ·exact t1 u hu
  ·rw [List.length_cons]; omega
  ·simp only [szU]
   have h6:3 * s.body.size * szU m≤3 * s.body.size * (s.body.size - 1):=Nat.mul_le_mul_left _ (by omega)
   have h7:3 * s.body.size + 3 * s.body.size * (s.body.size - 1)=3 * s.body.size * s.body.size:=by
    obtain ⟨j,hj⟩:∃ j,s.body.size=j + 1:=⟨s.body.size - 1,by omega⟩
    rw [hj]
    simp only [Nat.add_sub_cancel]
    generalize 3 * (j + 1)=z
    rw [Nat.mul_succ]
    omega
   omega
end Go.Fu
namespace Go.Fu
open Go Go.Mx
set_option maxRecDepth 10000
set_option maxHeartbeats 4000000
section
variable {N n:Nat}
def Evl (l:List Tx) (i:Nat):Env:={slots:=[(0,⟨false,.yld 3⟩),(5,⟨false,dSs l⟩),(6,⟨false,.int .i64 l.length⟩),(7,⟨false,.int .i64 i⟩)],locs:=[],boxes:=[],defers:=[]}
theorem zaqb (l:List Tx) (i:Nat) (σ σ':Store) (hi:i < l.length) (hl:l.length < 1000000000) (h1:V N (dS + 3) [.str l[i]] σ=some (.ret ⟨false,.bool true⟩,σ')):exec (V N) n none Zh (Evl l i) σ=some (.normal,Evl l (i + 1),σ'):=by
 have hlt:((i:Int) < (l.length:Int)):=by omega
 have w:=aR (i:=i) (by omega)
 have hx:=uV l i hi
 have hfn:D.fn? (.yld 3)=some (dS + 3,[],[]):=rfl
 simp only [Zh,Evl,sA,seval,kn,nW,hlt,cL,hx,hfn,h1,w]
theorem zcwb (l:List Tx) (σ:Store) {C:aM}:exec C n none Zh (Evl l l.length) σ=some (.exit 0,{Evl l l.length with slots:=[(0,⟨false,.yld 3⟩),(5,⟨false,dSs l⟩),(6,⟨false,.int .i64 l.length⟩),(7,⟨false,.int .i64 l.length⟩),(8,⟨false,.bool false⟩)]},σ):=by
 have hlt:¬ ((l.length:Int) < (l.length:Int)):=by omega
 simp only [Zh,Evl,sA,seval,kn,hlt]
end
theorem zp0 (l:List Tx) (σ:Store) (d:D) (hl:l.length < 1000000000) (h:WS l σ 0 d .ready) (N:Nat) (hN:l.length < N + 1):∃ σ' d',V (N + 2) ze9 [.yld 3,.ptr 0 0] σ=some (.ret ⟨false,.tup []⟩,σ')∧WS l σ' l.length d' .ready:=by
 obtain ⟨r,hr,σ',d',rfl,hw⟩:=sD (body:=exec (V (N + 1)) (N + 1) none Zh)
  (fun i e σ=>∃ d,e=Evl l i∧WS l σ i d .ready)
  (fun r=>∃ σ' d',r=(.exit 0,{Evl l l.length with slots:=[(0,⟨false,.yld 3⟩),(5,⟨false,dSs l⟩),(6,⟨false,.int .i64 l.length⟩),(7,⟨false,.int .i64 l.length⟩),(8,⟨false,.bool false⟩)]},σ')∧WS l σ' l.length d' .ready) l.length
  (fun i e σ hi ⟨d,he,hw⟩=>by
   subst he
   obtain ⟨σ',d',h1,h2⟩:=zs7 hw hi (by omega) N
   exact ⟨_,_,zaqb l i σ σ' hi (by omega) h1,d',rfl,h2⟩)
  (fun e σ ⟨d,he,hw⟩=>by
   subst he
   exact ⟨_,zcwb l σ,fun _ _ h=>(by cases h),σ,d,rfl,hw⟩) 0 (N + 1) (Evl l 0) σ (by omega) (by omega) ⟨d,rfl,h⟩
 refine ⟨σ',d',?_,hw⟩
 rw [Oc (af:=zee) rfl rfl]
 have o0:=h.k.o0
 simp only [Evl,bV] at hr
 simp only [zee,sA,seval,kn,nW,o0,hr]
theorem Zt {r:LRec} {e:Env} {σ:Store}:enterLoop none r e σ=some (σ.next + 1,{e with defers:=(dS + σ.next,[]) :: e.defers},{σ with oth:=(σ.next + 1,.loop r) :: (σ.next,.dfr) :: σ.oth,next:=σ.next + 2}):=rfl
def S1 (l:List Tx):Store:={objs:=[(0,[⟨false,dSs l⟩])],tys:=[(0,⟨t_8,0⟩)],oth:=[],next:=1}
theorem zb5 (l:List Tx) (hl:l.length < 1000000000) (hne:l≠[]) (N:Nat) (hN:l.length < N + 1):∃ σ4 a,V (N + 3) Wl [.nils,fnV] (S1 l)=some (.ret ⟨false,.arr k_0 a 0 l.length⟩,σ4)∧aB σ4.objs a=some (bQ l)∧a < σ4.next:=by
 obtain ⟨σ2,hσ2⟩:∃ σ2:Store,σ2={objs:=[(1,[⟨false,.nils⟩]),(0,[⟨false,dSs l⟩])],tys:=[(1,⟨t_8,0⟩),(0,⟨t_8,0⟩)],oth:=[(3,.loop (RL .ready)),(2,.dfr)],next:=4}:=⟨_,rfl⟩
 have hw:WS l σ2 0 .nils .ready:=by
  subst hσ2
  exact ⟨⟨rfl,rfl,Nat.le_refl _,.inl ⟨rfl,rfl⟩⟩,rfl,rfl⟩
 obtain ⟨σ3,d',hv,h3⟩:=zp0 l σ2 .nils hl hw N hN
 have hpos:l.length≠0:=fun h=>hne (List.length_eq_zero_iff.1 h)
 obtain ⟨a,rfl,ha4,han,hao,hat⟩:∃ a,d'=.arr k_0 a 0 l.length∧4≤a∧a < σ3.next∧aB σ3.objs a=some (bQ (l.take l.length))∧aB σ3.tys a=some ⟨k_0.el,k_0.sz⟩:=by
  rcases h3.k.dd with h | h
  ·exact absurd h.1 hpos
  ·exact h
 rw [List.take_length] at hao
 refine ⟨{objs:=aU σ3.objs 1 [⟨false,.arr k_0 a 0 l.length⟩],tys:=σ3.tys,oth:=aY (aY σ3.oth 3) 2,next:=σ3.next},a,?_,?_,han⟩
 ·rw [Oc (af:=iZ) rfl rfl]
  have hfn:D.fnF? fnV=some (ze9,[],[.ptr 0 0]):=rfl
  have l3:mK σ3 3=some (RL .ready):=by simp only [mK,h3.r,aC,aF]
  have he:∀ e:Env,endLoop 3 e σ3=some (.normal,e,{σ3 with oth:=aY σ3.oth 3}):=fun e=>by
   simp only [endLoop,l3,aC,aF]
   rfl
  have o1:=h3.k.o1
  have hY:isY (dS + 2)=true:=rfl
  have hsub:dS + 2 - dS=2:=rfl
  have hm:aB (aY σ3.oth 3) 2=some .dfr:=by rw [bH,if_neg (by decide),h3.m]
  rw [hσ2] at hv
  simp only [RL,asg] at hv
  simp only [S1,iZ,sA,seval,kn,bF,eU,zF,Qa,Xi,Zt,hfn,hv,he,o1,hY,hsub,hm]
 ·show aB (aU σ3.objs 1 _) a=_
  rw [aT,if_neg (by omega),hao]
end Go.Fu
namespace Go.Fu
open Go Go.Mx
set_option maxRecDepth 10000
set_option maxHeartbeats 4000000
theorem zb1 (l:List Tx):(mU l).length=l.length:=by simp [mU]
theorem zvr (k:RowK) (hk:k.sz=1) (l:List Tx) (hne:l≠[]) (hl:l.length < 1000000000) (a:Nat) (σ:Store) (h:aB σ.objs a=some (bQ l)) (n:Nat):V (n + 1) Gt [.arr k a 0 l.length] σ=some (.ret ⟨false,.tup []⟩,{σ with objs:=aU σ.objs a (bQ (mU l))}):=by
 rw [zwb rfl rfl]
 have hx:Xc Gt [.arr k a 0 l.length] σ=Yg [.arr k a 0 l.length] σ:=rfl
 have hpos:l.length≠0:=fun h=>hne (List.length_eq_zero_iff.1 h)
 have e1:decide (0 < l.length)=true:=decide_eq_true (by omega)
 have e2:decide (l.length≤bG)=true:=decide_eq_true (show l.length≤1099511627776 by omega)
 have e3:(k.sz == 1)=true:=by rw [hk]; rfl
 rw [hx]
 simp only [Yg,h,aC,aF,nR,beq_self_eq_true,e1,e2,e3,Bool.and_self,aE,Hv]
theorem ziz (k:RowK) (hk:k.sz=1) (l:List Tx) (hne:l≠[]) (hl:l.length < 1000000000) (a:Nat) (σ:Store) (h:aB σ.objs a=some (bQ l)) (n:Nat):∃ σ',V (n + 1) Gs [.arr k a 0 l.length] σ=some (.ret ⟨false,.arr k a 0 (Lib.compact l).length⟩,σ'):=by
 rw [zwb rfl rfl]
 have hx:Xc Gs [.arr k a 0 l.length] σ=zK [.arr k a 0 l.length] σ:=rfl
 have hpos:l.length≠0:=fun h=>hne (List.length_eq_zero_iff.1 h)
 have e1:decide (0 < l.length)=true:=decide_eq_true (by omega)
 have e2:decide (l.length≤bG)=true:=decide_eq_true (show l.length≤1099511627776 by omega)
 have e3:(k.sz == 1)=true:=by rw [hk]; rfl
 rw [hx]
 exact ⟨_,by simp only [zK,h,aC,aF,nR,beq_self_eq_true,e1,e2,e3,Bool.and_self,aE,Hv]; rfl⟩
theorem zo5 (l:List Tx) (hl:l.length < 1000000000) (hne:l≠[]) (N:Nat) (hN:l.length < N + 1):∃ σ5 a,V (N + 5) zxk [fnV] (S1 l)=some (.ret ⟨false,.arr k_0 a 0 l.length⟩,σ5)∧aB σ5.objs a=some (bQ (mU l))∧a < σ5.next:=by
 obtain ⟨σ4,a,h1,h2,h3⟩:=zb5 l hl hne N hN
 have hc:V (N + 4) zxj [fnV] (S1 l)=some (.ret ⟨false,.arr k_0 a 0 l.length⟩,σ4):=by
  rw [Oc (af:=zd7) rfl rfl]
  simp only [zd7,sA,seval,kn,h1]
 have hs:=zvr k_0 rfl l hne hl a σ4 h2 (N + 3)
 refine ⟨{σ4 with objs:=aU σ4.objs a (bQ (mU l))},a,?_,?_,h3⟩
 ·rw [Oc (af:=zec) rfl rfl]
  simp only [zec,sA,seval,kn,hc,hs]
 ·show aB (aU σ4.objs a _) a=_
  rw [aT,if_pos rfl]
theorem Vd (l:List Tx):bQ l=cellsOf (l.map D.str):=by
 induction l with
 | nil=>rfl
 | cons x r ih =>
  simp only [bQ,List.map_cons,cellsOf] at ih ⊢
  rw [ih]
  rfl
theorem zfu:∀ l:List Tx,bI k_0.sz (l.map D.str)=true
 | []=>rfl
 | x :: r=>by simp only [List.map_cons,bI,zfu r]; rfl
theorem zqs (l:List Tx) (hl:l.length < 1000000000) (a:Nat) (σ:Store) (h:aB σ.objs a=some (bQ l)) (ha:a < σ.next) (n:Nat):∃ σ' b,V (n + 1) wG [.arr k_0 a 0 l.length] σ=some (.ret ⟨false,.arr k_0 b 0 l.length⟩,σ')∧aB σ'.objs b=some (bQ l):=by
 have e:∀ d∈l.map D.str,d.cells.length=k_0.sz∧uX k_0 d.cells=d:=fun d hd=>by
  obtain ⟨x,_,rfl⟩:=List.mem_map.1 hd
  exact ⟨rfl,rfl⟩
 have he:=Bc e
 rw [List.length_map,← Vd] at he
 obtain ⟨σx,hσx⟩:∃ σx,σx=aN σ k_0 []:=⟨_,rfl⟩
 have n1:(σ.next == a)=false:=beq_false_of_ne (by omega)
 have hli:eB σx.objs (.arr k_0 a 0 l.length)=some (l.map D.str):=by
  have hg:aB σx.objs a=some (bQ l):=by
   subst hσx
   show aB ((σ.next,[]) :: σ.objs) a=_
   rw [aB,n1,aG,h]
  have e0:decide ((0 + l.length) * k_0.sz≤(bQ l).length)=true:=by rw [nR]; simp [k_0]
  have ek:(k_0.ag || k_0.sz == 1)=true:=rfl
  simp only [eB,hg,aC,aF,ek,e0,Bool.and_self,aE,he]
 have hap:bP σx k_0 16 (.arr k_0 σ.next 0 0) (l.map D.str)=some (.arr k_0 σx.next 0 (0 + l.length),aN {σx with objs:=aY σx.objs σ.next} k_0 (bQ l)):=by
  have hg:aB σx.objs σ.next=some []:=by
   subst hσx
   show aB ((σ.next,[]) :: σ.objs) σ.next=_
   rw [aB,beq_self_eq_true,aE]
  have ht:aB σx.tys σ.next=some ⟨k_0.el,k_0.sz⟩:=by
   subst hσx
   show aB ((σ.next,_) :: σ.tys) σ.next=_
   rw [aB,beq_self_eq_true,aE]
  have ek:k_0.same k_0=true:=rfl
  have e0:decide (0 * k_0.sz≤([]:List Cell).length)=true:=rfl
  have e1:decide ((0 + l.length) * 16≤bG)=true:=decide_eq_true (show (0 + l.length) * 16≤1099511627776 by omega)
  have e2:decide (0 + l.length≤bG)=true:=decide_eq_true (show 0 + l.length≤1099511627776 by omega)
  simp only [bP,zfu,aE,hg,ht,aC,aF,ek,beq_self_eq_true,List.length_map,e0,e1,e2,Bool.and_self,List.take_nil,List.map_nil,List.nil_append,Vd]
 rw [Nat.zero_add] at hap
 refine ⟨aN {σx with objs:=aY σx.objs σ.next} k_0 (bQ l),σx.next,?_,?_⟩
 ·rw [Oc (af:=eH) rfl rfl]
  have hbu:aN σ k_0 (cellsOf [])=σx:=by rw [hσx]; rfl
  simp only [eH,sA,seval,kn,bF,eU,hbu,hli,hap]
 ·show aB ((σx.next,bQ l) :: _) σx.next=_
  rw [aB,beq_self_eq_true,aE]
theorem zgr (l:List Tx) (hl:l.length < 1000000000) (hne:l≠[]):OkP sZ [dSs l] ⟨false,.bool (decide ((Lib.compact (mU l)).length < l.length))⟩:=by
 obtain ⟨σ5,a,h1,h2,h3⟩:=zo5 l hl hne l.length (by omega)
 have hsl:=zb1 l
 have hs0:mU l≠[]:=fun h=>by
  rw [h] at hsl
  exact hne (List.length_eq_zero_iff.1 hsl.symm)
 obtain ⟨σ6,b,h4,h5⟩:=zqs (mU l) (by omega) a σ5 h2 h3 (l.length + 4)
 obtain ⟨σ7,h6⟩:=ziz k_0 rfl (mU l) hs0 (by omega) b σ6 h5 (l.length + 4)
 rw [hsl] at h4 h6
 have hv:V (l.length + 5) zxl [dSs l] σ0=some (.ret ⟨false,fnV⟩,S1 l):=by
  rw [Oc (af:=zed) rfl rfl]
  have hok:(dSs l).ok=true:=by cases l <;> rfl
  have hce:(dSs l).cells=[dSs l]:=by cases l <;> rfl
  simp only [zed,sA,seval,kn,bF,eU,σ0,fnV,S1,hok,hce]
 have hlen:∀ (m:Nat),decide ((m:Int) < (l.length:Int))=decide (m < l.length):=fun m=>by
  by_cases h:m < l.length
  ·rw [decide_eq_true h,decide_eq_true (by omega)]
  ·rw [decide_eq_false h,decide_eq_false (by omega)]
 have hok:=Γa_holds sZ Yq rfl
 obtain ⟨hY,fn,hfn,hok⟩:=hok
 refine Bv (zx0 (l.length + 5)) pN hY hfn hok rfl (by simp [aX,cQ]) rfl (n:=1) (σ':=σ7) ?_
 have hr:lP Ra (fun _ _ _=>none) Yq 0 (exec (V (l.length + 5)) 1 none Yq.body (eT [dSs l]) σ0)=some (.ret ⟨false,.bool (decide ((Lib.compact (mU l)).length < l.length))⟩,σ7):=by
  rw [← hlen]
  simp only [Yq,sA,seval,kn,hv,h1,h4,h6]
 unfold lP at hr
 exact hr
end Go.Fu
namespace Go.Fu
open Go Go.Mx
set_option maxRecDepth 10000
theorem zij (l:List Tx):iP l=true↔¬ l.Nodup:=by
 constructor
 ·intro h hn
  unfold iP at h
  obtain ⟨i,hi,h⟩:=List.any_eq_true.1 h
  obtain ⟨k,hk,h⟩:=List.any_eq_true.1 h
  have hi:=List.mem_range.1 hi
  have hk:=List.mem_range.1 hk
  rw [cO _ _ _ hi,cO _ _ _ (by omega)] at h
  have he:l[i]=l[k]:=by simpa using h
  have:=(List.getElem_inj hn).1 he
  omega
 ·intro h
  refine Classical.byContradiction fun hf=>h ?_
  rw [List.nodup_iff_pairwise_ne,List.pairwise_iff_getElem]
  intro k i hk hi hki he
  apply hf
  refine List.any_eq_true.2 ⟨i,List.mem_range.2 hi,List.any_eq_true.2 ⟨k,List.mem_range.2 hki,?_⟩⟩
  rw [cO _ _ _ hi,cO _ _ _ hk,he]
  simp
theorem znc (z:List Tx):(Lib.compact z).length < z.length↔∃ j,0 < j∧j < z.length∧z.toArray[j]! =z.toArray[j - 1]!:=by
 have hlen:(Lib.compact z).length=((List.range z.length).filter (Lib.keeps z.toArray)).length:=by
  unfold Lib.compact Lib.compactUpTo
  rw [List.length_map]
 rw [hlen]
 constructor
 ·intro h
  refine Classical.byContradiction fun hn=>?_
  have hall:(List.range z.length).filter (Lib.keeps z.toArray)=List.range z.length:=by
   rw [List.filter_eq_self]
   intro j hj
   have hj:=List.mem_range.1 hj
   refine Classical.byContradiction fun hk=>hn ?_
   by_cases h0:0 < j
   ·refine ⟨j,h0,hj,Classical.byContradiction fun hne=>hk (Lib.keeps_pos hne)⟩
   ·exact absurd (Lib.keeps_lt_one z.toArray j (by omega)) hk
  rw [hall,List.length_range] at h
  omega
 ·rintro ⟨j,h0,hj,he⟩
  have hk:=Lib.keeps_neg h0 he
  refine Nat.lt_of_le_of_ne (Nat.le_trans (List.length_filter_le _ _) (by simp)) fun hc=>?_
  have hall:=List.length_filter_eq_length_iff.1 (hc.trans (List.length_range).symm)
  have:=hall j (List.mem_range.2 hj)
  rw [hk] at this
  cases this
theorem zdyb (a b c:Tx):decide (a≤b)=true→decide (b≤c)=true→decide (a≤c)=true:=fun h1 h2=>decide_eq_true (List.le_trans (of_decide_eq_true h1) (of_decide_eq_true h2))
theorem zbqb (a b:Tx):(decide (a≤b) || decide (b≤a))=true:=by
 rcases List.le_total a b with h | h
 ·rw [decide_eq_true h]; rfl
 ·rw [decide_eq_true h,Bool.or_true]
theorem zvq (l:List Tx):(mU l).Pairwise fun a b=>a≤b:=by
 have h:=List.pairwise_mergeSort (le:=fun x y:Tx=>decide (x≤y)) zdyb zbqb l
 exact h.imp fun h=>of_decide_eq_true h
theorem zp7 (z:List Tx) (hp:z.Pairwise fun a b=>a≤b):(∃ j,0 < j∧j < z.length∧z.toArray[j]! =z.toArray[j - 1]!)↔¬ z.Nodup:=by
 have hget:∀ j (hj:j < z.length),z.toArray[j]! =z[j]:=fun j hj=>by simp [hj]
 constructor
 ·rintro ⟨j,h0,hj,he⟩ hn
  rw [hget j hj,hget (j - 1) (by omega)] at he
  have:=(List.getElem_inj hn).1 he
  omega
 ·intro h
  refine Classical.byContradiction fun hf=>h ?_
  rw [List.nodup_iff_pairwise_ne,List.pairwise_iff_getElem]
  intro i k hi hk hik he
  -- between them all are the same
  apply hf
  refine ⟨i + 1,by omega,by omega,?_⟩
  rw [hget (i + 1) (by omega),hget (i + 1 - 1) (by omega)]
  have hpw:=List.pairwise_iff_getElem.1 hp
  have h1:z[i]≤z[i + 1]'(by omega):=hpw i (i + 1) hi (by omega) (by omega)
  have h2:z[i + 1]'(by omega)≤z[k]:=by
   by_cases hk1:i + 1=k
   ·subst hk1; exact List.le_refl _
   ·exact hpw (i + 1) k (by omega) hk (by omega)
  rw [← he] at h2
  exact List.le_antisymm h2 h1
theorem zv0 (l:List Tx):decide ((Lib.compact (mU l)).length < l.length)=iP l:=by
 have hperm:(mU l).Perm l:=List.mergeSort_perm l _
 have hl:=zb1 l
 rw [Bool.eq_iff_iff,decide_eq_true_eq,zij,← hperm.nodup_iff,← zp7 _ (zvq l),← znc,hl]
theorem zjd (l:List Tx) (hl:l.length < 1000000000) (hne:l≠[]):OkP sZ [dSs l] ⟨false,.bool (iP l)⟩:=by
 rw [← zv0]
 exact zgr l hl hne
end Go.Fu

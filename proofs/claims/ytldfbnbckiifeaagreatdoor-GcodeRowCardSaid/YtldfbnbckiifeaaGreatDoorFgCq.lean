/-
 A combinator made flat by the program.
-/
import Derived.Test.YtldfbnbckiifeaaGreatDoorFgEa
import Derived.Test.YtldfbnbckiifeaaGreatDoorFgBh
import Derived.Test.YtldfbnbckiifeaaGreatDoorFgDc
import Derived.Test.YtldfbnbckiifeaaGreatDoorFgY
import Derived.Test.YtldfbnbckiifeaaGreatDoorFgO
set_option maxHeartbeats 4000000
set_option linter.unusedSimpArgs false
set_option linter.unusedVariables false
set_option linter.unusedSectionVars false
namespace Go.Fu
open Go Go.Mx
set_option maxRecDepth 10000
set_option maxHeartbeats 4000000
theorem zp2b (p:Nat) (t:Tx) (ht:t.length < 10000000):∀ (k:Nat) (c:Co) (lz:Bool) (ar:List Tx),c.size=k→Wf c→ar.length + c.size < 10000000→PutOk p t c lz ar (flM c lz ar t):=by
 intro k
 induction k using Nat.strongRecOn with
 | ind k ih =>
  intro c lz ar hk hw hsz
  have hse:=zci c
  have lB:=zek c.bs
  obtain ⟨hbd,wb,wk,wa⟩:=hw.bnd
  cases hli:zdd c lz with
  | true =>
   have hlz:lz=true:=by
    unfold zdd at hli
    cases lz with
    | true=>rfl
    | false=>simp at hli
   subst hlz
   have:flM c true ar t=liftM c ar t:=funext fun m=>zka c true ar t m hli
   rw [this]
   exact zk1b c hw (by omega) ar (by omega) p t ht hli
  | false =>
   refine zk0b p t c lz ar hw hsz hli ht (fun b hb=>?_) (fun x hx=>?_) (fun b hb=>?_)
   ·have:=zzi c.bs b hb
    exact ih b.2.size (by omega) b.2 true _ rfl (wb b hb) (by simp [nms]; omega)
   ·have:=zie c.ks x hx
    exact ih x.size (by omega) x _ _ rfl (wk x hx) (by simp [nms]; omega)
   ·have:=zdz c.al b hb
    exact ih b.2.size (by omega) b.2 false _ rfl (wa b hb) (by simp [nms]; omega)
def flatU:Nat→Su→List Su
 | 0,u=>[u]
 | k + 1,u=>⟨u.name,u.ps,(flM u.body false u.ps u.name []).1⟩ :: (flM u.body false u.ps u.name []).2.flatMap (flatU k)
def flatS (u:Su):List Su:=flatU u.body.size u
def spG (k:Nat):FuncId→List D→Cell→Prop:=fun _ ds c=>∀ u,ds=[dU u]→c=⟨false,dUs (flatU k u)⟩
open Classical in
noncomputable def Cfl (k n:Nat):CallF:=fun f ds σ=>ifB (f == n_26) (orc Go.Proofs.Tryz.prog κ (spG k) f ds σ) (W SP n f ds σ)
theorem zf1b (k n:Nat):zc4 Go.Proofs.Tryz.prog κ (Cfl k n):=by
 intro f ds σ out σ' h
 unfold Cfl at h
 cases e:f == n_26 with
 | true=>rw [e,zab] at h; exact zvg _ _ _ _ _ h
 | false=>rw [e,zad] at h; exact ze2 SP n _ _ _ _ _ h
section
variable {C:CallF} {n:Nat} {σ:Store}
def Egf (a:Nat) (m acc:List Su) (i:Nat):Env:={slots:=[(4,⟨true,dUs acc⟩),(23,⟨false,arrU a m⟩),(24,⟨false,.int .i64 m.length⟩),(25,⟨false,.int .i64 i⟩)],locs:=[],boxes:=[],defers:=[]}
theorem zmqb (a:Nat) (m acc us:List Su) (i:Nat) (h:i < m.length) (hm:m.length < 100000000) (ha:aget σ.objs a=some (cellsOf (m.map dU))) (hl:acc.length + us.length < 1000000000) (hc:C n_26 [dU m[i]] σ=some (.ret ⟨false,dUs us⟩,σ)):exec C n none a_75 (Egf a m acc i) σ=some (.normal,Egf a m (acc ++ us) (i + 1),σ):=by
 have hlt:((i:Int) < (m.length:Int)):=by omega
 have w:=zak (i:=i) (by omega)
 have ht:=zkq (g:=dU) (sz:=11) zj6 m i h
 have es:(k_5.sz == 12)=true:=rfl
 have hag:arrU a m=.arr k_5 a 0 m.length:=zft _ _ _ (by omega)
 have hap:=appU acc us true (fun _=>rfl) hl
 have has:=zjib us
 generalize m[i]=u at ht hc
 have hon:=oneD u.body
 have hoS:=zba u.ps
 rw [zj9] at ht hc
 simp only [D.cells] at ht
 simp only [a_75,Egf,hag,sA,Nat.reduceAdd,Nat.reduceSub,Nat.reduceMul,Nat.reduceBEq,Nat.reduceLeDiff,Int.reduceBEq,Int.reduceBNe,Int.reduceLE,Int.reduceLT,Int.reduceGE,Int.reduceGT,Int.reduceNeg,kn,hlt,natI,zdj,es,h,Nat.zero_add,ha,ht,hon,hoS,hc,has,hap,w]
theorem zo8b (a:Nat) (m acc:List Su):exec C n none a_75 (Egf a m acc m.length) σ=some (.exit 0,{Egf a m acc m.length with slots:=[(4,⟨true,dUs acc⟩),(23,⟨false,arrU a m⟩),(24,⟨false,.int .i64 m.length⟩),(25,⟨false,.int .i64 m.length⟩),(26,⟨false,.bool false⟩)]},σ):=by
 have hlt:¬ ((m.length:Int) < (m.length:Int)):=by omega
 simp only [a_75,Egf,sA,Nat.reduceAdd,Nat.reduceSub,Nat.reduceMul,Nat.reduceBEq,Nat.reduceLeDiff,Int.reduceBEq,Int.reduceBNe,Int.reduceLE,Int.reduceLT,Int.reduceGE,Int.reduceGT,Int.reduceNeg,kn,hlt]
end
theorem zj3b {B B':Nat} (hB:B≤B') (hB':B'≤9000000):∀ (k:Nat) (s:Su),s.body.size≤k→PreU B B' s→OkP n_26 [dU s] ⟨false,dUs (flatU k s)⟩∧FO B' s.body.size (flatU k s):=by
 intro k
 induction k with
 | zero=>intro s h; have:=zcw s.body; omega
 | succ k ih =>
  intro s hk ⟨hs,hn,hps,hsz⟩
  have hpos:=zcw s.body
  have hhp:=zhhb s.body
  obtain ⟨r1,r2,r3,r4⟩:=zp5 (B:=B) (B':=B') (t:=s.name) hs hB (by omega) false s.ps []
  have r5:=zj1b (B:=B) (B':=B') (t:=s.name) hs hB (by omega) s.ps []
  have r6:=zg4b s.body s.ps s.name
  obtain ⟨σ1,e1⟩:∃ σ1,σ1=GA σ0 t_258 [⟨false,.str s.name⟩,⟨false,.nils⟩]:=⟨_,rfl⟩
  have n0:σ0.next=0:=rfl
  have n1:σ1.next=1:=by rw [e1,za3]; rfl
  have h1:FSt σ1 0 5 s.name []:=⟨by rw [e1]; rfl,fun e=>absurd rfl e,by decide,by omega,fun e=>absurd rfl e⟩
  obtain ⟨σ2,a2,⟨x2,w2⟩,h2,_⟩:=zp2b 0 s.name (by omega) s.body.size s.body false s.ps rfl (Shp.wf hs) (by omega) σ1 5 [] h1 (by simp; omega)
  have hfu:flatU (k + 1) s=⟨s.name,s.ps,(flM s.body false s.ps s.name []).1⟩ :: (flM s.body false s.ps s.name []).2.flatMap (flatU k):=rfl
  rw [hfu]
  generalize flM s.body false s.ps s.name []=fr at *
  obtain ⟨b,m⟩:=fr
  simp only [szU,Nat.zero_add] at w2 h2 r1 r2 r3 r4 r5 r6
  have pre:∀ u∈m,PreU B B' u∧u.body.size < s.body.size:=fun u hu=>by
   have h2:=zun m u hu
   have h6:=r6 u hu
   rcases r4 u hu with h | ⟨h3,h4,h5,_⟩
   ·cases h
   ·exact ⟨⟨h3,by omega,by omega,by omega⟩,by omega⟩
  have hml:=zdcb m
  have hu0:FlU B' ⟨s.name,s.ps,b⟩:=⟨r1,by simp only; omega,by simp only; omega⟩
  have ihm:∀ u∈m,OkP n_26 [dU u] ⟨false,dUs (flatU k u)⟩∧FO B' u.body.size (flatU k u):=fun u hu=>ih u (by have:=(pre u hu).2; omega) (pre u hu).1
  have hprops:∀ l:List Su,(∀ u∈l,u∈m)→(∀ u∈l.flatMap (flatU k),FlU B' u)∧(l.flatMap (flatU k)).length≤szU l∧szU (l.flatMap (flatU k))≤3 * s.body.size * szU l:=by
   intro l
   induction l with
   | nil=>intro _; exact ⟨fun u hu=>by simp at hu,by simp,by simp [szU]⟩
   | cons x r ihr =>
    intro hl
    obtain ⟨p1,p2,p3⟩:=ihr fun u hu=>hl u (List.mem_cons_of_mem _ hu)
    have hx:=hl x (List.mem_cons_self ..)
    obtain ⟨g1,g2,g3⟩:=(ihm x hx).2
    have hlt:=(pre x hx).2
    rw [List.flatMap_cons]
    refine ⟨fun u hu=>?_,?_,?_⟩
    ·rcases List.mem_append.1 hu with h | h
     ·exact g1 u h
     ·exact p1 u h
    ·rw [List.length_append]; simp only [szU]; omega
    ·rw [zn4]
     simp only [szU]
     have:3 * x.body.size * x.body.size≤3 * s.body.size * x.body.size:=Nat.mul_le_mul_right _ (by omega)
     rw [Nat.mul_add]
     omega
  obtain ⟨t1,t2,t3⟩:=hprops m fun _ h=>h
  dsimp only
  refine ⟨?_,?_,?_,?_⟩
  ·have hrun:=zcj (body:=exec (Cfl k (x2 + 1)) (m.length + 1) none a_75) (fun i=>Egf a2 m ([⟨s.name,s.ps,b⟩] ++ (m.take i).flatMap (flatU k)) i) (fun _=>σ2) m.length (r:=_) (fun _ _ h=>by cases h) (fun i hi=>by
    have hmem:=List.getElem_mem hi
    have hne:m≠[]:=List.ne_nil_of_mem hmem
    obtain ⟨c,hc1,hc2⟩:=zc3b (P:=Go.Proofs.Tryz.prog) (κ:=κ) (Post:=spG k) (f:=n_26) (ds:=[dU m[i]]) ⟨⟨false,dUs (flatU k m[i])⟩,fun u hu=>by
     simp only [List.cons.injEq,and_true] at hu
     rw [zou hu],(ihm _ hmem).1⟩
    have hcc:Cfl k (x2 + 1) n_26 [dU m[i]] σ2=some (.ret ⟨false,dUs (flatU k m[i])⟩,σ2):=by
     unfold Cfl
     rw [beq_self_eq_true,zab,hc2,hc1 _ rfl]
    obtain ⟨p1,p2,p3⟩:=hprops (m.take i) fun u hu=>List.mem_of_mem_take hu
    obtain ⟨g1,g2,g3⟩:=(ihm _ hmem).2
    have htl:=zbqb m i
    have hz:=zun m _ hmem
    have:=zmqb (C:=Cfl k (x2 + 1)) (n:=m.length + 1) (σ:=σ2) a2 m ([⟨s.name,s.ps,b⟩] ++ (m.take i).flatMap (flatU k)) (flatU k m[i]) i hi (by omega) (h2.arr hne).1 (by rw [List.length_append,List.length_singleton]; omega) hcc
    have e:[⟨s.name,s.ps,b⟩] ++ (m.take i).flatMap (flatU k) ++ flatU k m[i]=[⟨s.name,s.ps,b⟩] ++ (m.take (i + 1)).flatMap (flatU k):=by
     rw [← zb3 m i hi,List.flatMap_append,List.append_assoc]
     simp
    rw [e] at this
    exact this) (zo8b a2 m _) 0 (m.length + 1) (by omega) (by omega)
   rw [List.take_length] at hrun
   have hput:Cfl k (x2 + 1) n_23 [.ptr 0 0,dCo s.body,.bool false,dSs s.ps] σ1=some (.ret ⟨false,dCo b⟩,σ2):=w2 (x2 + 1) (by omega)
   have e1':dUs [⟨s.name,s.ps,b⟩]=.list k_5 [dU ⟨s.name,s.ps,b⟩]:=rfl
   have e0:([⟨s.name,s.ps,b⟩]:List Su) ++ (m.take 0).flatMap (flatU k)=[⟨s.name,s.ps,b⟩]:=by simp
   have hcat:([⟨s.name,s.ps,b⟩]:List Su) ++ m.flatMap (flatU k)=⟨s.name,s.ps,b⟩ :: m.flatMap (flatU k):=rfl
   rw [hcat] at hrun
   generalize (⟨s.name,s.ps,b⟩ :: m.flatMap (flatU k):List Su)=R at *
   have hoR:(dUs R).one=true:=zaz
   have hobj:=h2.obj
   have hon:=oneD s.body
   have honb:=oneD b
   have hoS:=zba s.ps
   have hla:lenOf (arrU a2 m)=some m.length:=zke _ _ _
   simp only [Egf,zeroI,e0,e1'] at hrun
   rw [zj9] at hrun
   simp only at hrun
   rw [zaw,zaw] at hput
   refine OkP.weak (o:=true) rfl (zf2 (af:=a_146) (n:=m.length + 1) (σ':=σ2) (zf1b k (x2 + 1)) rfl rfl (by simp [zam,znj]) (zhc _) ?_)
   rw [zj9]
   simp only [a_146,sA,Nat.reduceAdd,Nat.reduceSub,Nat.reduceMul,Nat.reduceBEq,Nat.reduceLeDiff,Int.reduceBEq,Int.reduceBNe,Int.reduceLE,Int.reduceLT,Int.reduceGE,Int.reduceGT,Int.reduceNeg,kn,memE,mB,n0,← e1,hon,hoS,hput,honb,hobj,readA,hla,hrun]
  ·intro u hu
   rcases List.mem_cons.1 hu with rfl | hu
   ·exact hu0
   ·exact t1 u hu
  ·rw [List.length_cons]; omega
  ·simp only [szU]
   have h6:3 * s.body.size * szU m≤3 * s.body.size * (s.body.size - 1):=Nat.mul_le_mul_left _ (by omega)
   have h7:3 * s.body.size + 3 * s.body.size * (s.body.size - 1)=3 * s.body.size * s.body.size:=by
    obtain ⟨j,hj⟩:∃ j,s.body.size=j + 1:=⟨s.body.size - 1,by omega⟩
    rw [hj]
    simp only [Nat.add_sub_cancel]
    generalize 3 * (j + 1)=z
    rw [Nat.mul_succ]
    omega
   omega
end Go.Fu
namespace Go.Fu
open Go Go.Mx
set_option maxRecDepth 10000
set_option maxHeartbeats 4000000
section
variable {N n:Nat}
def Evl (l:List Tx) (i:Nat):Env:={slots:=[(0,⟨false,.yld 3⟩),(5,⟨false,dSs l⟩),(6,⟨false,.int .i64 l.length⟩),(7,⟨false,.int .i64 i⟩)],locs:=[],boxes:=[],defers:=[]}
theorem zokb (l:List Tx) (i:Nat) (σ σ':Store) (hi:i < l.length) (hl:l.length < 1000000000) (h1:V N (zbl + 3) [.str l[i]] σ=some (.ret ⟨false,.bool true⟩,σ')):exec (V N) n none a_97 (Evl l i) σ=some (.normal,Evl l (i + 1),σ'):=by
 have hlt:((i:Int) < (l.length:Int)):=by omega
 have w:=zak (i:=i) (by omega)
 have hx:=idx_S l i hi
 have hfn:D.fn? (.yld 3)=some (zbl + 3,[],[]):=rfl
 simp only [a_97,Evl,sA,seval,kn,len_S,hlt,natI,hx,hfn,h1,w]
theorem zqcb (l:List Tx) (σ:Store) {C:CallF}:exec C n none a_97 (Evl l l.length) σ=some (.exit 0,{Evl l l.length with slots:=[(0,⟨false,.yld 3⟩),(5,⟨false,dSs l⟩),(6,⟨false,.int .i64 l.length⟩),(7,⟨false,.int .i64 l.length⟩),(8,⟨false,.bool false⟩)]},σ):=by
 have hlt:¬ ((l.length:Int) < (l.length:Int)):=by omega
 simp only [a_97,Evl,sA,seval,kn,hlt]
end
theorem zfzb (l:List Tx) (σ:Store) (d:D) (hl:l.length < 1000000000) (h:WS l σ 0 d .ready) (N:Nat) (hN:l.length < N + 1):∃ σ' d',V (N + 2) n_195 [.yld 3,.ptr 0 0] σ=some (.ret ⟨false,.tup []⟩,σ')∧WS l σ' l.length d' .ready:=by
 obtain ⟨r,hr,σ',d',rfl,hw⟩:=zg9 (body:=exec (V (N + 1)) (N + 1) none a_97)
  (fun i e σ=>∃ d,e=Evl l i∧WS l σ i d .ready)
  (fun r=>∃ σ' d',r=(.exit 0,{Evl l l.length with slots:=[(0,⟨false,.yld 3⟩),(5,⟨false,dSs l⟩),(6,⟨false,.int .i64 l.length⟩),(7,⟨false,.int .i64 l.length⟩),(8,⟨false,.bool false⟩)]},σ')∧WS l σ' l.length d' .ready) l.length
  (fun i e σ hi ⟨d,he,hw⟩=>by
   subst he
   obtain ⟨σ',d',h1,h2⟩:=zi8b hw hi (by omega) N
   exact ⟨_,_,zokb l i σ σ' hi (by omega) h1,d',rfl,h2⟩)
  (fun e σ ⟨d,he,hw⟩=>by
   subst he
   exact ⟨_,zqcb l σ,fun _ _ h=>(by cases h),σ,d,rfl,hw⟩) 0 (N + 1) (Evl l 0) σ (by omega) (by omega) ⟨d,rfl,h⟩
 refine ⟨σ',d',?_,hw⟩
 rw [V_fun (af:=a_171) rfl rfl]
 have o0:=h.k.o0
 simp only [Evl,zeroI] at hr
 simp only [a_171,sA,seval,kn,len_S,o0,hr]
theorem ztw {r:LRec} {e:Env} {σ:Store}:enterLoop none r e σ=some (σ.next + 1,{e with defers:=(zbl + σ.next,[]) :: e.defers},{σ with oth:=(σ.next + 1,.loop r) :: (σ.next,.dfr) :: σ.oth,next:=σ.next + 2}):=rfl
def S1 (l:List Tx):Store:={objs:=[(0,[⟨false,dSs l⟩])],tys:=[(0,⟨t_8,0⟩)],oth:=[],next:=1}
theorem zvs (l:List Tx) (hl:l.length < 1000000000) (hne:l≠[]) (N:Nat) (hN:l.length < N + 1):∃ σ4 a,V (N + 3) n_125 [.nils,fnV] (S1 l)=some (.ret ⟨false,.arr k_0 a 0 l.length⟩,σ4)∧aget σ4.objs a=some (cStr l)∧a < σ4.next:=by
 obtain ⟨σ2,hσ2⟩:∃ σ2:Store,σ2={objs:=[(1,[⟨false,.nils⟩]),(0,[⟨false,dSs l⟩])],tys:=[(1,⟨t_8,0⟩),(0,⟨t_8,0⟩)],oth:=[(3,.loop (RL .ready)),(2,.dfr)],next:=4}:=⟨_,rfl⟩
 have hw:WS l σ2 0 .nils .ready:=by
  subst hσ2
  exact ⟨⟨rfl,rfl,Nat.le_refl _,.inl ⟨rfl,rfl⟩⟩,rfl,rfl⟩
 obtain ⟨σ3,d',hv,h3⟩:=zfzb l σ2 .nils hl hw N hN
 have hpos:l.length≠0:=fun h=>hne (List.length_eq_zero_iff.1 h)
 obtain ⟨a,rfl,ha4,han,hao,hat⟩:∃ a,d'=.arr k_0 a 0 l.length∧4≤a∧a < σ3.next∧aget σ3.objs a=some (cStr (l.take l.length))∧aget σ3.tys a=some ⟨k_0.el,k_0.sz⟩:=by
  rcases h3.k.dd with h | h
  ·exact absurd h.1 hpos
  ·exact h
 rw [List.take_length] at hao
 refine ⟨{objs:=aset σ3.objs 1 [⟨false,.arr k_0 a 0 l.length⟩],tys:=σ3.tys,oth:=adel1 (adel1 σ3.oth 3) 2,next:=σ3.next},a,?_,?_,han⟩
 ·rw [V_fun (af:=zde) rfl rfl]
  have hfn:D.fnF? fnV=some (n_195,[],[.ptr 0 0]):=rfl
  have l3:zeu σ3 3=some (RL .ready):=by simp only [zeu,h3.r,bindO,zac]
  have he:∀ e:Env,endLoop 3 e σ3=some (.normal,e,{σ3 with oth:=adel1 σ3.oth 3}):=fun e=>by
   simp only [endLoop,l3,bindO,zac]
   rfl
  have o1:=h3.k.o1
  have hY:isY (zbl + 2)=true:=rfl
  have hsub:zbl + 2 - zbl=2:=rfl
  have hm:aget (adel1 σ3.oth 3) 2=some .dfr:=by rw [zao,if_neg (by decide),h3.m]
  rw [hσ2] at hv
  simp only [RL,asg] at hv
  simp only [S1,zde,sA,seval,kn,memE,memOp,snap,zqh,zs5,ztw,hfn,hv,he,o1,hY,hsub,hm]
 ·show aget (aset σ3.objs 1 _) a=_
  rw [zal,if_neg (by omega),hao]
end Go.Fu
namespace Go.Fu
open Go Go.Mx
set_option maxRecDepth 10000
set_option maxHeartbeats 4000000
theorem zvo (l:List Tx):(sortS l).length=l.length:=by simp [sortS]
theorem zlfb (k:RowK) (hk:k.sz=1) (l:List Tx) (hne:l≠[]) (hl:l.length < 1000000000) (a:Nat) (σ:Store) (h:aget σ.objs a=some (cStr l)) (n:Nat):V (n + 1) n_51 [.arr k a 0 l.length] σ=some (.ret ⟨false,.tup []⟩,{σ with objs:=aset σ.objs a (cStr (sortS l))}):=by
 rw [V_lib rfl rfl]
 have hx:Xc n_51 [.arr k a 0 l.length] σ=xSort [.arr k a 0 l.length] σ:=rfl
 have hpos:l.length≠0:=fun h=>hne (List.length_eq_zero_iff.1 h)
 have e1:decide (0 < l.length)=true:=decide_eq_true (by omega)
 have e2:decide (l.length≤bound)=true:=decide_eq_true (show l.length≤1099511627776 by omega)
 have e3:(k.sz == 1)=true:=by rw [hk]; rfl
 rw [hx]
 simp only [xSort,h,bindO,zac,zfi,beq_self_eq_true,e1,e2,e3,Bool.and_self,zab,zn2]
theorem zzz (k:RowK) (hk:k.sz=1) (l:List Tx) (hne:l≠[]) (hl:l.length < 1000000000) (a:Nat) (σ:Store) (h:aget σ.objs a=some (cStr l)) (n:Nat):∃ σ',V (n + 1) n_50 [.arr k a 0 l.length] σ=some (.ret ⟨false,.arr k a 0 (Lib.compact l).length⟩,σ'):=by
 rw [V_lib rfl rfl]
 have hx:Xc n_50 [.arr k a 0 l.length] σ=zkw [.arr k a 0 l.length] σ:=rfl
 have hpos:l.length≠0:=fun h=>hne (List.length_eq_zero_iff.1 h)
 have e1:decide (0 < l.length)=true:=decide_eq_true (by omega)
 have e2:decide (l.length≤bound)=true:=decide_eq_true (show l.length≤1099511627776 by omega)
 have e3:(k.sz == 1)=true:=by rw [hk]; rfl
 rw [hx]
 exact ⟨_,by simp only [zkw,h,bindO,zac,zfi,beq_self_eq_true,e1,e2,e3,Bool.and_self,zab,zn2]; rfl⟩
theorem ze9b (l:List Tx) (hl:l.length < 1000000000) (hne:l≠[]) (N:Nat) (hN:l.length < N + 1):∃ σ5 a,V (N + 5) n_252 [fnV] (S1 l)=some (.ret ⟨false,.arr k_0 a 0 l.length⟩,σ5)∧aget σ5.objs a=some (cStr (sortS l))∧a < σ5.next:=by
 obtain ⟨σ4,a,h1,h2,h3⟩:=zvs l hl hne N hN
 have hc:V (N + 4) n_251 [fnV] (S1 l)=some (.ret ⟨false,.arr k_0 a 0 l.length⟩,σ4):=by
  rw [V_fun (af:=a_164) rfl rfl]
  simp only [a_164,sA,seval,kn,h1]
 have hs:=zlfb k_0 rfl l hne hl a σ4 h2 (N + 3)
 refine ⟨{σ4 with objs:=aset σ4.objs a (cStr (sortS l))},a,?_,?_,h3⟩
 ·rw [V_fun (af:=a_169) rfl rfl]
  simp only [a_169,sA,seval,kn,hc,hs]
 ·show aget (aset σ4.objs a _) a=_
  rw [zal,if_pos rfl]
theorem zsb (l:List Tx):cStr l=cellsOf (l.map D.str):=by
 induction l with
 | nil=>rfl
 | cons x r ih =>
  simp only [cStr,List.map_cons,cellsOf] at ih ⊢
  rw [ih]
  rfl
theorem zgqb (l:List Tx) (hl:l.length < 1000000000) (a:Nat) (σ:Store) (h:aget σ.objs a=some (cStr l)) (ha:a < σ.next) (n:Nat):∃ σ' b,V (n + 1) n_35 [.arr k_0 a 0 l.length] σ=some (.ret ⟨false,.arr k_0 b 0 l.length⟩,σ')∧aget σ'.objs b=some (cStr l):=by
 have e:∀ d∈l.map D.str,d.cells.length=k_0.sz∧packD k_0 d.cells=d:=fun d hd=>by
  obtain ⟨x,_,rfl⟩:=List.mem_map.1 hd
  exact ⟨rfl,rfl⟩
 have he:=zlk e
 rw [List.length_map,← zsb] at he
 obtain ⟨σx,hσx⟩:∃ σx,σx=zag σ k_0 []:=⟨_,rfl⟩
 have n1:(σ.next == a)=false:=beq_false_of_ne (by omega)
 have hli:zbs σx.objs (.arr k_0 a 0 l.length)=some (l.map D.str):=by
  have hg:aget σx.objs a=some (cStr l):=by
   subst hσx
   show aget ((σ.next,[]) :: σ.objs) a=_
   rw [aget,n1,zad,h]
  have e0:decide ((0 + l.length) * k_0.sz≤(cStr l).length)=true:=by rw [zfi]; simp [k_0]
  have ek:(k_0.ag || k_0.sz == 1)=true:=rfl
  simp only [zbs,hg,bindO,zac,ek,e0,Bool.and_self,zab,he]
 have hap:zat σx k_0 16 (.arr k_0 σ.next 0 0) (l.map D.str)=some (.arr k_0 σx.next 0 (0 + l.length),zag {σx with objs:=adel1 σx.objs σ.next} k_0 (cStr l)):=by
  have hg:aget σx.objs σ.next=some []:=by
   subst hσx
   show aget ((σ.next,[]) :: σ.objs) σ.next=_
   rw [aget,beq_self_eq_true,zab]
  have ht:aget σx.tys σ.next=some ⟨k_0.el,k_0.sz⟩:=by
   subst hσx
   show aget ((σ.next,_) :: σ.tys) σ.next=_
   rw [aget,beq_self_eq_true,zab]
  have ek:k_0.same k_0=true:=rfl
  have e0:decide (0 * k_0.sz≤([]:List Cell).length)=true:=rfl
  have e1:decide ((0 + l.length) * 16≤bound)=true:=decide_eq_true (show (0 + l.length) * 16≤1099511627776 by omega)
  have e2:decide (0 + l.length≤bound)=true:=decide_eq_true (show 0 + l.length≤1099511627776 by omega)
  simp only [zat,zmv,zab,hg,ht,bindO,zac,ek,beq_self_eq_true,List.length_map,e0,e1,e2,Bool.and_self,List.take_nil,List.map_nil,List.nil_append,zsb]
 rw [Nat.zero_add] at hap
 refine ⟨zag {σx with objs:=adel1 σx.objs σ.next} k_0 (cStr l),σx.next,?_,?_⟩
 ·rw [V_fun (af:=zbu) rfl rfl]
  have hbu:zag σ k_0 (cellsOf [])=σx:=by rw [hσx]; rfl
  simp only [zbu,sA,seval,kn,memE,memOp,hbu,hli,hap]
 ·show aget ((σx.next,cStr l) :: _) σx.next=_
  rw [aget,beq_self_eq_true,zab]
theorem zxu (l:List Tx) (hl:l.length < 1000000000) (hne:l≠[]):OkP n_24 [dSs l] ⟨false,.bool (decide ((Lib.compact (sortS l)).length < l.length))⟩:=by
 obtain ⟨σ5,a,h1,h2,h3⟩:=ze9b l hl hne l.length (by omega)
 have hsl:=zvo l
 have hs0:sortS l≠[]:=fun h=>by
  rw [h] at hsl
  exact hne (List.length_eq_zero_iff.1 hsl.symm)
 obtain ⟨σ6,b,h4,h5⟩:=zgqb (sortS l) (by omega) a σ5 h2 h3 (l.length + 4)
 obtain ⟨σ7,h6⟩:=zzz k_0 rfl (sortS l) hs0 (by omega) b σ6 h5 (l.length + 4)
 rw [hsl] at h4 h6
 have hv:V (l.length + 5) n_253 [dSs l] σ0=some (.ret ⟨false,fnV⟩,S1 l):=by
  rw [V_fun (af:=a_170) rfl rfl]
  have hok:(dSs l).ok=true:=by cases l <;> rfl
  have hce:(dSs l).cells=[dSs l]:=by cases l <;> rfl
  simp only [a_170,sA,seval,kn,memE,memOp,σ0,fnV,S1,hok,hce]
 have hlen:∀ (m:Nat),decide ((m:Int) < (l.length:Int))=decide (m < l.length):=fun m=>by
  by_cases h:m < l.length
  ·rw [decide_eq_true h,decide_eq_true (by omega)]
  ·rw [decide_eq_false h,decide_eq_false (by omega)]
 have hok:=Γa_holds n_24 a_80 rfl
 obtain ⟨hY,fn,hfn,hok⟩:=hok
 refine zlv (zlvb (l.length + 5)) zf1 hY hfn hok rfl (by simp [zam,za6]) rfl (n:=1) (σ':=σ7) ?_
 have hr:finX Ra (fun _ _ _=>none) a_80 0 (exec (V (l.length + 5)) 1 none a_80.body (zb1 [dSs l]) σ0)=some (.ret ⟨false,.bool (decide ((Lib.compact (sortS l)).length < l.length))⟩,σ7):=by
  rw [← hlen]
  simp only [a_80,sA,seval,kn,hv,h1,h4,h6]
 unfold finX at hr
 exact hr
end Go.Fu
namespace Go.Fu
open Go Go.Mx
set_option maxRecDepth 10000
theorem zzk (l:List Tx):zc5 l=true↔¬ l.Nodup:=by
 constructor
 ·intro h hn
  unfold zc5 at h
  obtain ⟨i,hi,h⟩:=List.any_eq_true.1 h
  obtain ⟨k,hk,h⟩:=List.any_eq_true.1 h
  have hi:=List.mem_range.1 hi
  have hk:=List.mem_range.1 hk
  rw [za5 _ _ _ hi,za5 _ _ _ (by omega)] at h
  have he:l[i]=l[k]:=by simpa using h
  have:=(List.getElem_inj hn).1 he
  omega
 ·intro h
  refine Classical.byContradiction fun hf=>h ?_
  rw [List.nodup_iff_pairwise_ne,List.pairwise_iff_getElem]
  intro k i hk hi hki he
  apply hf
  refine List.any_eq_true.2 ⟨i,List.mem_range.2 hi,List.any_eq_true.2 ⟨k,List.mem_range.2 hki,?_⟩⟩
  rw [za5 _ _ _ hi,za5 _ _ _ hk,he]
  simp
theorem zdzb (z:List Tx):(Lib.compact z).length < z.length↔∃ j,0 < j∧j < z.length∧z.toArray[j]! =z.toArray[j - 1]!:=by
 have hlen:(Lib.compact z).length=((List.range z.length).filter (Lib.keeps z.toArray)).length:=by
  unfold Lib.compact Lib.compactUpTo
  rw [List.length_map]
 rw [hlen]
 constructor
 ·intro h
  refine Classical.byContradiction fun hn=>?_
  have hall:(List.range z.length).filter (Lib.keeps z.toArray)=List.range z.length:=by
   rw [List.filter_eq_self]
   intro j hj
   have hj:=List.mem_range.1 hj
   refine Classical.byContradiction fun hk=>hn ?_
   by_cases h0:0 < j
   ·refine ⟨j,h0,hj,Classical.byContradiction fun hne=>hk (Lib.keeps_pos hne)⟩
   ·exact absurd (Lib.keeps_lt_one z.toArray j (by omega)) hk
  rw [hall,List.length_range] at h
  omega
 ·rintro ⟨j,h0,hj,he⟩
  have hk:=Lib.keeps_neg h0 he
  refine Nat.lt_of_le_of_ne (Nat.le_trans (List.length_filter_le _ _) (by simp)) fun hc=>?_
  have hall:=List.length_filter_eq_length_iff.1 (hc.trans (List.length_range).symm)
  have:=hall j (List.mem_range.2 hj)
  rw [hk] at this
  cases this
theorem le_tr (a b c:Tx):decide (a≤b)=true→decide (b≤c)=true→decide (a≤c)=true:=fun h1 h2=>decide_eq_true (List.le_trans (of_decide_eq_true h1) (of_decide_eq_true h2))
theorem zpfb (a b:Tx):(decide (a≤b) || decide (b≤a))=true:=by
 rcases List.le_total a b with h | h
 ·rw [decide_eq_true h]; rfl
 ·rw [decide_eq_true h,Bool.or_true]
theorem zleb (l:List Tx):(sortS l).Pairwise fun a b=>a≤b:=by
 have h:=List.pairwise_mergeSort (le:=fun x y:Tx=>decide (x≤y)) le_tr zpfb l
 exact h.imp fun h=>of_decide_eq_true h
theorem zf5b (z:List Tx) (hp:z.Pairwise fun a b=>a≤b):(∃ j,0 < j∧j < z.length∧z.toArray[j]! =z.toArray[j - 1]!)↔¬ z.Nodup:=by
 have hget:∀ j (hj:j < z.length),z.toArray[j]! =z[j]:=fun j hj=>by simp [hj]
 constructor
 ·rintro ⟨j,h0,hj,he⟩ hn
  rw [hget j hj,hget (j - 1) (by omega)] at he
  have:=(List.getElem_inj hn).1 he
  omega
 ·intro h
  refine Classical.byContradiction fun hf=>h ?_
  rw [List.nodup_iff_pairwise_ne,List.pairwise_iff_getElem]
  intro i k hi hk hik he
  -- between them all are the same
  apply hf
  refine ⟨i + 1,by omega,by omega,?_⟩
  rw [hget (i + 1) (by omega),hget (i + 1 - 1) (by omega)]
  have hpw:=List.pairwise_iff_getElem.1 hp
  have h1:z[i]≤z[i + 1]'(by omega):=hpw i (i + 1) hi (by omega) (by omega)
  have h2:z[i + 1]'(by omega)≤z[k]:=by
   by_cases hk1:i + 1=k
   ·subst hk1; exact List.le_refl _
   ·exact hpw (i + 1) k (by omega) hk (by omega)
  rw [← he] at h2
  exact List.le_antisymm h2 h1
theorem zlkb (l:List Tx):decide ((Lib.compact (sortS l)).length < l.length)=zc5 l:=by
 have hperm:(sortS l).Perm l:=List.mergeSort_perm l _
 have hl:=zvo l
 rw [Bool.eq_iff_iff,decide_eq_true_eq,zzk,← hperm.nodup_iff,← zf5b _ (zleb l),← zdzb,hl]
theorem zadb (l:List Tx) (hl:l.length < 1000000000) (hne:l≠[]):OkP n_24 [dSs l] ⟨false,.bool (zc5 l)⟩:=by
 rw [← zlkb]
 exact zxu l hl hne
end Go.Fu

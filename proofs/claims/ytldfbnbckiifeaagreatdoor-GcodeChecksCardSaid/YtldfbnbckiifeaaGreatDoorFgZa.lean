/-
 The code of cases.
-/
import Derived.Test.YtldfbnbckiifeaaGreatDoorFgV
import Derived.Test.YtldfbnbckiifeaaGreatDoorFgE
import Derived.Test.YtldfbnbckiifeaaGreatDoorFgH
set_option maxHeartbeats 4000000
set_option linter.unusedSimpArgs false
set_option linter.unusedVariables false
set_option linter.unusedSectionVars false
namespace Go.Fu
open Go Go.Mx
set_option maxRecDepth 10000
def Γb:FuncId→Option AFun:=fun f=>ifB (f == n_6) (some zhb) (Γa f)
theorem Γb_holds:Holds Go.Proofs.Tryz.prog Γb:=by
 intro f af h
 unfold Γb at h
 by_cases e:f=n_6
 ·subst e
  simp only [beq_self_eq_true,zac,Option.some.injEq] at h
  subst h
  exact ⟨rfl,_,rfl,zwq⟩
 ·have e':(f == n_6)=false:=by simpa using e
  rw [e',zab] at h
  exact Γa_holds f af h
noncomputable def U (S:Specs) (n:Nat):CallF:=runS Go.Proofs.Tryz.prog κ Γb Ra Xa S n
theorem zjzb (S:Specs) (n:Nat):zc1 Go.Proofs.Tryz.prog κ (U S n):=(zml Γb_holds ze5 zln n).1
theorem U_orc {S:Specs} {f:FuncId} {s:List D→Cell→Prop} {ds:List D} {c:Cell} (hf:aget S f=some s) (hY:isY f=false) (hs:s ds c) (hp:OkP f ds c):∃ c',s ds c'∧∀ n σ,U S (n + 1) f ds σ=some (.ret c',σ):=zw1 hf hY hs hp
theorem zh7 {S:Specs} (hs:has S n_6=false) {N:Nat} (d:D) (a b:List In) (σ:Store) (hlow:∀ p∈σ.objs,p.1 < σ.next) (hne:a≠[]) (hla:lenOf d=some a.length) (hli:zbq σ.objs d=some (a.map dI)) (hl:a.length + b.length < 1000000000) (hn:b.length < N) :
  ∃ id σ',U S (N + 1) n_6 [d,dIs b] σ=some (.ret ⟨false,.arr k_1 id 0 (a.length + b.length)⟩,σ')∧AS σ.objs σ' id (joinM a b):=by
 obtain ⟨id,σ',h1,h2⟩:=joinB (C:=U S N) (n:=N) (RD:=runSD Go.Proofs.Tryz.prog κ Γb Ra Xa S N) d a b σ hlow hne hla hli hl hn
 exact ⟨id,σ',(zp5 hs rfl rfl).trans h1,h2⟩
theorem zdjb {S:Specs} {n m:Nat} {ds:List D} {c:Cell} {σ':Store} (hl:ds.length=4) (hd:zal ds=true) (hc:noPtr c.d=true)
  (hr:finX Ra (fun _ _ _=>none) zcl 0 (exec (U S n) m none zcl.body (zbb ds) σ0)=some (.ret c,σ')):OkP n_15 ds c:=by
 refine zgn (zjzb S n) ze5 rfl rfl zuk hl hd hc (n:=m) (σ':=σ') ?_
 unfold finX at hr
 exact hr
def zgyb:List D→Cell→Prop:=fun ds c=>∀ s x,ds=[.str s,.int .i64 x]→c=⟨true,dIs [op1 s x]⟩
theorem zi2b (s:Tx) (x:Int):OkP n_7 [.str s,.int .i64 x] ⟨true,dIs [op1 s x]⟩:=by
 refine zas (af:=a_118) (n:=1) (σ':=σ0) (zav [] 0) rfl rfl rfl rfl ?_
 simp only [a_118,sA,seval,kn]
 rfl
theorem U_op {S:Specs} (hS:aget S n_7=some zgyb) (s:Tx) (x:Int) (n:Nat) (σ:Store):U S (n + 1) n_7 [.str s,.int .i64 x] σ=some (.ret ⟨true,dIs [op1 s x]⟩,σ):=by
 obtain ⟨c,h1,h2⟩:=U_orc (S:=S) hS rfl (c:=⟨true,dIs [op1 s x]⟩) (fun a' b' e=>by
  simp only [List.cons.injEq,D.str.injEq,D.int.injEq,true_and,and_true] at e
  rw [e.1,e.2]) (zi2b s x)
 rw [h2,h1 s x rfl]
theorem U_alt {S:Specs} (hS:aget S n_133=some zgwb) (a:Hd × Co) (env:List Tx) (hl:env.length + a.1.vars.length < 100000000) (n:Nat) (σ:Store):U S (n + 1) n_133 [dA a,dSs env] σ=some (.ret ⟨false,.tup [dIs (altM a env).1,dSs (altM a env).2]⟩,σ):=by
 obtain ⟨c,h1,h2⟩:=U_orc (S:=S) hS rfl (c:=⟨false,.tup [dIs (altM a env).1,dSs (altM a env).2]⟩) (fun a' b' e=>by
  simp only [List.cons.injEq,and_true] at e
  rw [zncb e.1,zba e.2]) (zhnb a env hl)
 rw [h2,h1 a env rfl]
theorem U_S {B:Nat} {S:Specs} (hS:aget S n_11=some (spS B)) (a:Co) (env:List Tx) (hp:OkI B (8 * a.size) n_11 [dCo a,dSs env]):∃ is,GC B (8 * a.size) is∧∀ n σ,U S (n + 1) n_11 [dCo a,dSs env] σ=some (.ret ⟨false,dIs is⟩,σ):=by
 obtain ⟨js,h1,h2⟩:=hp
 obtain ⟨c,h3,h4⟩:=U_orc (S:=S) hS rfl (c:=⟨false,dIs js⟩) (fun a' b' e=>by
  simp only [List.cons.injEq,and_true] at e
  obtain rfl:=zcs e.1
  exact ⟨js,rfl,h2⟩) h1
 obtain ⟨is,rfl,h5⟩:=h3 a env rfl
 exact ⟨is,h5,h4⟩
theorem U_T {B:Nat} {S:Specs} (hS:aget S n_14=some (spT B)) (a:Co) (env:List Tx) (hp:OkI B (8 * a.size + 3) n_14 [dCo a,dSs env]):∃ is,GC B (8 * a.size + 3) is∧∀ n σ,U S (n + 1) n_14 [dCo a,dSs env] σ=some (.ret ⟨false,dIs is⟩,σ):=by
 obtain ⟨js,h1,h2⟩:=hp
 obtain ⟨c,h3,h4⟩:=U_orc (S:=S) hS rfl (c:=⟨false,dIs js⟩) (fun a' b' e=>by
  simp only [List.cons.injEq,and_true] at e
  obtain rfl:=zcs e.1
  exact ⟨js,rfl,h2⟩) h1
 obtain ⟨is,rfl,h5⟩:=h3 a env rfl
 exact ⟨is,h5,h4⟩
theorem U_C {B:Nat} {S:Specs} (hS:aget S n_15=some (spC B)) (a:Co) (i:Nat) (env:List Tx) (t:Bool) (hp:OkI B (2 + 8 * szA (a.al.drop i)) n_15 [dCo a,.int .i64 i,dSs env,.bool t]) :
  ∃ is,GC B (2 + 8 * szA (a.al.drop i)) is∧∀ n σ,U S (n + 1) n_15 [dCo a,.int .i64 i,dSs env,.bool t] σ=some (.ret ⟨false,dIs is⟩,σ):=by
 obtain ⟨js,h1,h2⟩:=hp
 obtain ⟨c,h3,h4⟩:=U_orc (S:=S) hS rfl (c:=⟨false,dIs js⟩) (fun a' i' b' t' e=>by
  simp only [List.cons.injEq,D.int.injEq,D.bool.injEq,true_and,and_true] at e
  obtain rfl:=zcs e.1
  obtain rfl:i=i':=by omega
  exact ⟨js,rfl,h2⟩) h1
 obtain ⟨is,rfl,h5⟩:=h3 a i env t rfl
 exact ⟨is,h5,h4⟩
def SCs (B:Nat):Specs:=[(n_7,zgyb),(n_133,zgwb),(n_11,spS B),(n_14,spT B),(n_15,spC B)]
def setN (v:Int):List In→List In
 | []=>[]
 | i :: r=>{i with n:=v} :: r
theorem zmn (v:Int):∀ l:List In,(setN v l).length=l.length
 | []=>rfl
 | _ :: _=>rfl
theorem zvs {B n:Nat} {v:Int} {l:List In} (hv:Small v) (h:GC B n l):GC B n (setN v l):=by
 refine ⟨?_,by rw [zmn]; exact h.2⟩
 cases l with
 | nil=>exact h.1
 | cons i r =>
  intro x hx
  simp only [setN,List.mem_cons] at hx
  rcases hx with rfl | hx
  ·have:=h.1 i (by simp)
   exact ⟨this.1,hv,this.2.2.1,this.2.2.2⟩
  ·exact h.1 x (by simp [hx])
theorem AS.idx {o:List (Nat × List Cell)} {σ:Store} {id:Nat} {l:List In} (_h:AS o σ id l) (hne:l≠[]):za7 4 (.arr k_1 id 0 l.length) 0=some (.ptr id 0):=by
 cases l with
 | nil=>exact absurd rfl hne
 | cons a b =>
  have:decide (0 < (a :: b).length)=true:=by simp
  simp only [za7,this]
  rfl
theorem AS.set {o:List (Nat × List Cell)} {σ:Store} {id:Nat} {l:List In} (h:AS o σ id l) (hne:l≠[]) (v:Int):fits ⟨false,.int .i64 v⟩ 1 1 (cI l)=true∧AS o {σ with objs:=aset σ.objs id (putCells (cI l) 1 (zbh ⟨false,.int .i64 v⟩))} id (setN v l):=by
 cases l with
 | nil=>exact absurd rfl hne
 | cons a b =>
  refine ⟨?_,?_,h.low,h.tys,h.lt⟩
  ·simp [fits,cI,D.ok,D.cells]
  ·have hb:(id == id)=true:=by simp
   simp only [h.objs,aset,hb,zac]
   rfl
theorem zek {z:Nat}:∀ a:List D,(∀ d∈a,d.cells.length=z)→(cellsOf a).length=a.length * z
 | [],_=>by simp [cellsOf]
 | d :: a,h=>by
  have h1:=h d (by simp)
  have h2:=zek a fun x hx=>h x (List.mem_cons_of_mem _ hx)
  simp only [cellsOf,List.length_append,List.length_map,h1,h2,List.length_cons,Nat.succ_mul,Nat.add_comm]
theorem zo2 {n:Nat} {k:RowK} {id off len:Nat} {os:Objs}:za1 (n + 1) (.arr k id off len) os=bindO (aget os id) fun cs=>ifB ((k.ag || k.sz == 1) && decide ((off + len) * k.sz≤cs.length)) (bindO (zcf (za1 n) (elems k cs off len) (adel1 os id)) fun r=>some (.list k r.1,r.2)) none:=rfl
theorem zh5 {k:RowK} {id n:Nat} {ds:List D} {os os':Objs} (ho:aget os id=some (cellsOf ds)) (hd:adel1 os id=os') (hk:(k.ag || k.sz == 1)=true) (h:∀ d∈ds,d.cells.length=k.sz∧packD k d.cells=d) (hf:∀ d∈ds,za1 n d os'=some (d,os')) :
  za1 (n + 1) (.arr k id 0 ds.length) os=some (.list k ds,os'):=by
 have hl:=zek ds fun d hd=>(h d hd).1
 have e0:decide ((0 + ds.length) * k.sz≤(cellsOf ds).length)=true:=by simp; omega
 simp only [zo2,ho,bindO,zad,hk,e0,Bool.and_self,ifB,zh3 h,hd,zqv ds hf]
theorem AS.frz {o:List (Nat × List Cell)} {σ:Store} {id:Nat} {l:List In} (h:AS o σ id l) (hne:l≠[]) (s:Nat) (e:Env) (b:Bool) (hs:aget e.slots s=some ⟨b,.arr k_1 id 0 l.length⟩):∃ σ' b',zbo [.slot s] e σ=some ({e with slots:=aset e.slots s ⟨b',dIs l⟩},σ'):=by
 have hr:=zh5 (k:=k_1) (id:=id) (n:=39) (ds:=l.map dI) (os:=σ.objs) (os':=adel1 σ.objs id) (by rw [h.get,cI_eq]) rfl rfl (znj l) (fun d hd=>by
  obtain ⟨x,_,rfl⟩:=List.mem_map.1 hd
  rfl)
 rw [List.length_map] at hr
 have hd:dIs l=.list k_1 (l.map dI):=by
  cases l with
  | nil=>exact absurd rfl hne
  | cons a b=>rfl
 refine ⟨{σ with objs:=adel1 σ.objs id},Cell.keeps ⟨b,.arr k_1 id 0 l.length⟩,?_⟩
 simp only [zbo,zbs,hs,bindO,zad,hr,hd]
end Go.Fu
namespace Go.Fu
open Go Go.Mx
set_option maxRecDepth 10000
theorem zg2 {a b:List In} (h:a≠[]):joinM a b≠[]:=by simp [joinM,h]
theorem AS.frzD {o:List (Nat × List Cell)} {σ:Store} {id:Nat} {l:List In} (h:AS o σ id l) (hne:l≠[]):za1 40 (.arr k_1 id 0 l.length) σ.objs=some (dIs l,adel1 σ.objs id):=by
 have hr:=zh5 (k:=k_1) (id:=id) (n:=39) (ds:=l.map dI) (os:=σ.objs) (os':=adel1 σ.objs id) (by rw [h.get,cI_eq]) rfl rfl (znj l) (fun d hd=>by
  obtain ⟨x,_,rfl⟩:=List.mem_map.1 hd
  rfl)
 rw [List.length_map] at hr
 have hd:dIs l=.list k_1 (l.map dI):=by
  cases l with
  | nil=>exact absurd rfl hne
  | cons a b=>rfl
 rw [hr,hd]
theorem AS.lowN {σ:Store} {id:Nat} {o:List (Nat × List Cell)} {l:List In} (h:AS o σ id l):∀ p∈σ.objs,p.1 < σ.next:=by
 rw [h.objs]
 intro p hp
 rcases List.mem_cons.1 hp with rfl | hp
 ·exact h.lt
 ·exact Nat.lt_trans (h.low p hp) h.lt
theorem AS.set2 {o:List (Nat × List Cell)} {σ:Store} {id:Nat} {l:List In} (h:AS o σ id l) (hne:l≠[]) (v:Int):decide (2≤(cI l).length)=true∧AS o {σ with objs:=aset σ.objs id (putCells (cI l) 1 [⟨false,.int .i64 v⟩])} id (setN v l) :=
 ⟨by have:=(h.set hne v).1; simpa [fits,D.ok,D.cells] using this,(h.set hne v).2⟩
theorem zb4 {C:CallF} {n:Nat} {ro:Option Nat} {ts:List FTgt} {b:ACode} {e:Env} {σ:Store}:exec C n ro (.frz ts b) e σ=bindO (zbo ts e σ) fun x=>exec C n ro b x.1 x.2:=rfl
theorem zbt {k:RowK} {b:Bool} {id n:Nat}:Cell.keeps ⟨b,.arr k id 0 n⟩=false:=rfl
theorem zgs {B N:Nat} {c:Co} {i:Nat} {env:List Tx} {t:Bool} {is:List In} {o:Bool} {σ':Store} (hr:finX Ra (fun _ _ _=>none) zcl 0 (exec (U (SCs B) (N + 1)) 1 none zcl.body (zbb [dCo c,.int .i64 i,dSs env,.bool t]) σ0)=some (.ret ⟨o,dIs is⟩,σ')):OkP n_15 [dCo c,.int .i64 i,dSs env,.bool t] ⟨false,dIs is⟩ :=
 OkP.weak (o:=o) rfl (zdjb (n:=N + 1) (m:=1) (σ':=σ') rfl (by simp [zal,za4,zau,noPtr]) (zdq _) hr)
theorem zs4 {B:Nat} (c:Co) (i:Nat) (env:List Tx) (t:Bool) (hi:c.al.length≤i):OkI B 2 n_15 [dCo c,.int .i64 i,dSs env,.bool t]:=by
 have h1:=U_op (S:=SCs B) rfl sFAIL 0 0 σ0
 have h2:=U_op (S:=SCs B) rfl sPOP 1 0 σ0
 have hii:((c.al.length:Int)≤(i:Int)):=by omega
 have hap:za5 k_1 48 ⟨true,dIs [op1 sPOP 1]⟩ [dI (op1 sFAIL 0)]=some ⟨true,dIs [op1 sPOP 1,op1 sFAIL 0]⟩:=appI1 [op1 sPOP 1] (op1 sFAIL 0) true (fun _=>rfl) (by simp)
 have has:zbp (dIs [op1 sFAIL 0])=some [dI (op1 sFAIL 0)]:=rfl
 simp only [sFAIL,sPOP] at h1 h2 hap has
 cases t with
 | true =>
  refine ⟨[op1 sFAIL 0],zgs (B:=B) (N:=0) (o:=true) (σ':=σ0) ?_,gc_le (gc_op (by decide) zS) (by omega)⟩
  simp only [sFAIL]
  simp only [zcl,sA,Nat.reduceAdd,Nat.reduceSub,Nat.reduceMul,Nat.reduceBEq,Nat.reduceLeDiff,Int.reduceBEq,Int.reduceBNe,Int.reduceLE,Int.reduceLT,Int.reduceGE,Int.reduceGT,Int.reduceNeg,kn,zaf,zaj,onel,len_A,hii,h1]
 | false =>
  refine ⟨[op1 sPOP 1,op1 sFAIL 0],zgs (B:=B) (N:=0) (o:=true) (σ':=σ0) ?_,?_⟩
  ·simp only [sFAIL,sPOP]
   simp only [zcl,sA,Nat.reduceAdd,Nat.reduceSub,Nat.reduceMul,Nat.reduceBEq,Nat.reduceLeDiff,Int.reduceBEq,Int.reduceBNe,Int.reduceLE,Int.reduceLT,Int.reduceGE,Int.reduceGT,Int.reduceNeg,kn,zaf,zaj,onel,len_A,hii,h1,h2,has,hap]
  ·refine ⟨?_,by simp⟩
   intro x hx
   simp only [List.mem_cons,List.not_mem_nil,or_false] at hx
   rcases hx with rfl | rfl
   ·exact gi_op (by decide) oneS
   ·exact gi_op (by decide) zS
def sJUMP:Tx:=[74,85,77,80]
theorem zr6 {B:Nat} {n:Int} (h:Small n):GI B ⟨sJUMP,n,0,[]⟩:=⟨by simp [sJUMP],h,zS,by simp⟩
theorem zvr {B n:Nat} {l:List In} {x:In} (h:GC B n l) (hx:GI B x):GC B (n + 1) (l ++ [x]):=by
 refine ⟨fun y hy=>?_,by have:=h.2; simp; omega⟩
 rcases List.mem_append.1 hy with hy | hy
 ·exact h.1 y hy
 ·rw [List.mem_singleton.1 hy]; exact hx
set_option maxHeartbeats 4000000 in
theorem zbzb {B:Nat} (c:Co) (i:Nat) (env:List Tx) (t:Bool) (hi:i < c.al.length) (hl:env.length + c.size < 10000000) (hg:Small c.al[i].1.num∧c.al[i].1.name.length≤B)
  (hT:∀ e:List Tx,e.length≤env.length + c.al[i].1.vars.length→OkI B (8 * c.al[i].2.size) n_11 [dCo c.al[i].2,dSs e]∧OkI B (8 * c.al[i].2.size + 3) n_14 [dCo c.al[i].2,dSs e])
  (hC:OkI B (2 + 8 * szA (c.al.drop (i + 1))) n_15 [dCo c,.int .i64 (i + 1:Nat),dSs env,.bool t]) :
  OkI B (2 + 8 * szA (c.al.drop i)) n_15 [dCo c,.int .i64 i,dSs env,.bool t]:=by
 have hsz:=za2 c
 have hal:=zc6 c.al
 have hd:szA (c.al.drop i)=1 + c.al[i].1.vars.length + c.al[i].2.size + szA (c.al.drop (i + 1)):=by
  rw [List.drop_eq_getElem_cons hi]
  simp only [szA]
 have hd0:szA (c.al.drop i)≤szA c.al:=by
  have:=zjc (c.al.take i) (c.al.drop i)
  rw [List.take_append_drop] at this
  omega
 have hii:¬ ((c.al.length:Int)≤(i:Int)):=by omega
 have hx:=idx_A c.al i hi
 generalize c.al[i]=a at hx hg hT hd
 obtain ⟨js,gj,h3⟩:=U_C (S:=SCs B) rfl c (i + 1) env t hC
 have ga:=zepb (B:=B) a env hg.1 hg.2 (by omega)
 have w:=zag (i:=i) (by omega)
 have hdA:=dA_eq a
 have g2:=gj.2
 have g3:=ga.2
 cases t with
 | true =>
  obtain ⟨is,gi,h2⟩:=U_T (S:=SCs B) rfl a.2 (altM a env).2 (hT _ (zu3 a env)).2
  obtain ⟨N,hN⟩:∃ N,is.length + js.length + 10 < N:=⟨_,Nat.lt_succ_self _⟩
  have h1:=U_alt (S:=SCs B) rfl a env (by omega) N σ0
  have g1:=gi.2
  obtain ⟨id1,σ1,h4,hs1⟩:=zh7 (S:=SCs B) rfl (N:=N) (dIs (altM a env).1) (altM a env).1 is σ0 (fun p hp=>by cases hp) (zoj a env) (len_I _) (by rw [dIs,zeu]) (by omega) (by omega)
  have h2:=h2 N σ0
  have hne1:=zg2 (b:=is) (zoj a env)
  have hl1:=zbc (altM a env).1 is
  cases h3f:a.1.form != 3 with
  | false =>
   obtain ⟨id2,σ2,h5,hs2⟩:=zh7 (S:=SCs B) rfl (N:=N) (.arr k_1 id1 0 (joinM (altM a env).1 is).length) (joinM (altM a env).1 is) [] σ1 hs1.lowN hne1 rfl hs1.list (by simp; omega) (by simp; omega)
   have hne2:=zg2 (b:=[]) hne1
   have hz:=hs2.frzD hne2
   rw [zbc (joinM (altM a env).1 is)] at hz
   refine ⟨joinM (joinM (altM a env).1 is) [],zgs (B:=B) (N:=N) (o:=false) (σ':={σ2 with objs:=adel1 σ2.objs id2}) ?_,?_⟩
   ·rw [hl1] at h5 hz
    simp only [zaf,zaj,hdA] at h1 h2 h3 hx
    have en:dIs []=.nils:=rfl
    simp only [en,List.length_nil,Nat.add_zero] at h5 hz
    simp only [zcl,sA,Nat.reduceAdd,Nat.reduceSub,Nat.reduceMul,Nat.reduceBEq,Nat.reduceLeDiff,Int.reduceBEq,Int.reduceBNe,Int.reduceLE,Int.reduceLT,Int.reduceGE,Int.reduceGT,Int.reduceNeg,kn,zaf,zaj,onel,len_A,hii,natI,hx,h1,h2,h3f,h4,h5,zb4,zbo,zbs,hz,zbt]
   ·exact gc_le (zcg (zcg ga gi) (n:=0) ⟨by simp,by simp⟩) (by omega)
  | true =>
   have h3:=h3 N σ1
   have hst:=hs1.set2 hne1 (joinM (altM a env).1 is).length
   have hix:=hs1.idx hne1
   have hlen:lenOf (.arr k_1 id1 0 (joinM (altM a env).1 is).length)=some (joinM (altM a env).1 is).length:=rfl
   have hgt:=hs1.get
   generalize hσ:({σ1 with objs:=aset σ1.objs id1 (putCells (cI (joinM (altM a env).1 is)) 1 [⟨false,.int .i64 (joinM (altM a env).1 is).length⟩])}:Store)=σs at hst
   have hse:=zmn (joinM (altM a env).1 is).length (joinM (altM a env).1 is)
   have hnes:setN (joinM (altM a env).1 is).length (joinM (altM a env).1 is)≠[]:=by
    intro h
    rw [h] at hse
    exact hne1 (List.length_eq_zero_iff.1 hse.symm)
   obtain ⟨id2,σ2,h5,hs2⟩:=zh7 (S:=SCs B) rfl (N:=N) (.arr k_1 id1 0 (setN (joinM (altM a env).1 is).length (joinM (altM a env).1 is)).length) (setN (joinM (altM a env).1 is).length (joinM (altM a env).1 is)) js σs hst.2.lowN hnes rfl hst.2.list (by omega) (by omega)
   have hne2:=zg2 (b:=js) hnes
   have hz:=hs2.frzD hne2
   rw [zbc (setN _ _)] at hz
   have hf:=hst.1
   refine ⟨joinM (setN (joinM (altM a env).1 is).length (joinM (altM a env).1 is)) js,zgs (B:=B) (N:=N) (o:=false) (σ':={σ2 with objs:=adel1 σ2.objs id2}) ?_,?_⟩
   ·rw [hse] at h5 hz
    rw [hl1] at h5 hz hix hσ
    simp only [zaf,zaj,hdA] at h1 h2 h3 hx
    simp only [zcl,sA,Nat.reduceAdd,Nat.reduceSub,Nat.reduceMul,Nat.reduceBEq,Nat.reduceLeDiff,Int.reduceBEq,Int.reduceBNe,Int.reduceLE,Int.reduceLT,Int.reduceGE,Int.reduceGT,Int.reduceNeg,kn,zaf,zaj,onel,len_A,hii,natI,nat0,w,hx,h1,h2,h3,h3f,h4,hix,hgt,hf,hσ,h5,zb4,zbo,zbs,hz,zbt,hl1]
   ·exact gc_le (zcg (zvs (zcz (by omega)) (zcg ga gi)) gj) (by omega)
 | false =>
  obtain ⟨is,gi,h2⟩:=U_S (S:=SCs B) rfl a.2 (altM a env).2 (hT _ (zu3 a env)).1
  obtain ⟨N,hN⟩:∃ N,is.length + js.length + 10 < N:=⟨_,Nat.lt_succ_self _⟩
  have h1:=U_alt (S:=SCs B) rfl a env (by omega) N σ0
  have g1:=gi.2
  obtain ⟨id1,σ1,h4,hs1⟩:=zh7 (S:=SCs B) rfl (N:=N) (dIs (altM a env).1) (altM a env).1 is σ0 (fun p hp=>by cases hp) (zoj a env) (len_I _) (by rw [dIs,zeu]) (by omega) (by omega)
  have h2:=h2 N σ0
  have hne1:=zg2 (b:=is) (zoj a env)
  have hl1:=zbc (altM a env).1 is
  have gL:=zcg ga gi
  rw [← hl1] at h4
  generalize joinM (altM a env).1 is=L at h4 hs1 hne1 hl1 gL
  simp only [zaf,zaj,hdA] at h1 h2 h3 hx
  cases h1f:a.1.form == 1 with
  | true =>
   have hf1:a.1.form=1:=by simpa using h1f
   have h3f:(a.1.form != 3)=true:=by rw [hf1]; rfl
   have h6:=U_op (S:=SCs B) rfl zdg a.1.vars.length N σ1
   obtain ⟨id2,σ2,h7,hs2⟩:=zh7 (S:=SCs B) rfl (N:=N) (.arr k_1 id1 0 L.length) L [op1 zdg a.1.vars.length] σ1 hs1.lowN hne1 rfl hs1.list (by simp; omega) (by simp; omega)
   have hne2:=zg2 (b:=[op1 zdg a.1.vars.length]) hne1
   have hl2:=zbc L [op1 zdg a.1.vars.length]
   have gL2:=zcg gL (gc_op (B:=B) (s:=zdg) (x:=a.1.vars.length) (by decide) (zcz (by omega)))
   rw [← hl2] at h7
   generalize joinM L [op1 zdg a.1.vars.length]=L2 at h7 hs2 hne2 hl2 gL2
   simp only [List.length_cons,List.length_nil] at hl2
   have h3:=h3 N σ2
   have w2:=zag (i:=L2.length) (by omega)
   have w3:IntKind.i64.wrap (((L2.length + 1:Nat):Int) + js.length)=((L2.length + 1 + js.length:Nat):Int):=by rw [zbr (by omega) (by omega)]; omega
   obtain ⟨σ3,h8,hs3⟩:=hs2.more ⟨sJUMP,(L2.length + 1 + js.length:Nat),0,[]⟩ (by omega)
   have hne3:L2 ++ [(⟨sJUMP,(L2.length + 1 + js.length:Nat),0,[]⟩:In)]≠[]:=by simp
   have hl3:(L2 ++ [(⟨sJUMP,(L2.length + 1 + js.length:Nat),0,[]⟩:In)]).length=L2.length + 1:=by simp
   have gL3:=zvr gL2 (zr6 (B:=B) (n:=(L2.length + 1 + js.length:Nat)) (zcz (by omega)))
   simp only [dI,sJUMP] at h8
   generalize L2 ++ [(⟨sJUMP,(L2.length + 1 + js.length:Nat),0,[]⟩:In)]=L3 at h8 hs3 hne3 hl3 gL3
   have hst:=hs3.set2 hne3 L3.length
   have hix:=hs3.idx hne3
   have hgt:=hs3.get
   generalize hσ:({σ3 with objs:=aset σ3.objs σ2.next (putCells (cI L3) 1 [⟨false,.int .i64 L3.length⟩])}:Store)=σs at hst
   have hse:=zmn L3.length L3
   have hnes:setN L3.length L3≠[]:=by
    intro h
    rw [h] at hse
    exact hne3 (List.length_eq_zero_iff.1 hse.symm)
   have gL4:=zvs (v:=L3.length) (zcz (by omega)) gL3
   have hs4:=hst.2
   generalize setN L3.length L3=L4 at hs4 hse hnes gL4
   obtain ⟨id5,σ5,h5,hs5⟩:=zh7 (S:=SCs B) rfl (N:=N) (.arr k_1 σ2.next 0 L4.length) L4 js σs hs4.lowN hnes rfl hs4.list (by omega) (by omega)
   have hne5:=zg2 (b:=js) hnes
   have hz:=hs5.frzD hne5
   rw [zbc L4] at hz
   refine ⟨joinM L4 js,zgs (B:=B) (N:=N) (o:=false) (σ':={σ5 with objs:=adel1 σ5.objs id5}) ?_,?_⟩
   ·rw [hse,hl3] at h5 hz
    have hf:=hst.1
    simp only [zdg] at h6 h7
    rw [hl3] at hix hσ
    simp only [zcl,sA,Nat.reduceAdd,Nat.reduceSub,Nat.reduceMul,Nat.reduceBEq,Nat.reduceLeDiff,Int.reduceBEq,Int.reduceBNe,Int.reduceLE,Int.reduceLT,Int.reduceGE,Int.reduceGT,Int.reduceNeg,kn,memE,memOp,zaf,zaj,onel,len_A,len_S,len_I,hii,natI,nat0,w,hx,h1,h2,h3,h1f,h3f,h4,h6,h7,w2,w3,h8,hix,hgt,hf,hσ,h5,zb4,zbo,zbs,hz,zbt]
   ·exact gc_le (zcg gL4 gj) (by omega)
  | false =>
   cases h3f:a.1.form != 3 with
   | false =>
    have w2:=zag (i:=L.length) (by omega)
    have w3:IntKind.i64.wrap (((L.length + 1:Nat):Int) + (0:Nat))=((L.length + 1:Nat):Int):=by rw [zbr (by omega) (by omega)]; omega
    obtain ⟨σ3,h8,hs3⟩:=hs1.more ⟨sJUMP,(L.length + 1:Nat),0,[]⟩ (by omega)
    have hne3:L ++ [(⟨sJUMP,(L.length + 1:Nat),0,[]⟩:In)]≠[]:=by simp
    have hl3:(L ++ [(⟨sJUMP,(L.length + 1:Nat),0,[]⟩:In)]).length=L.length + 1:=by simp
    have gL3:=zvr gL (zr6 (B:=B) (n:=(L.length + 1:Nat)) (zcz (by omega)))
    simp only [dI,sJUMP] at h8
    generalize L ++ [(⟨sJUMP,(L.length + 1:Nat),0,[]⟩:In)]=L3 at h8 hs3 hne3 hl3 gL3
    obtain ⟨id5,σ5,h5,hs5⟩:=zh7 (S:=SCs B) rfl (N:=N) (.arr k_1 σ1.next 0 L3.length) L3 [] σ3 hs3.lowN hne3 rfl hs3.list (by simp; omega) (by simp; omega)
    have hne5:=zg2 (b:=[]) hne3
    have hz:=hs5.frzD hne5
    rw [zbc L3] at hz
    refine ⟨joinM L3 [],zgs (B:=B) (N:=N) (o:=false) (σ':={σ5 with objs:=adel1 σ5.objs id5}) ?_,?_⟩
    ·rw [hl3] at h5 hz
     have en:dIs []=.nils:=rfl
     simp only [en,List.length_nil,Nat.add_zero] at h5 hz
     simp only [zcl,sA,Nat.reduceAdd,Nat.reduceSub,Nat.reduceMul,Nat.reduceBEq,Nat.reduceLeDiff,Int.reduceBEq,Int.reduceBNe,Int.reduceLE,Int.reduceLT,Int.reduceGE,Int.reduceGT,Int.reduceNeg,kn,memE,memOp,zaf,zaj,onel,len_A,len_S,len_I,hii,natI,nat0,hx,h1,h2,h1f,h3f,h4,w2,w3,h8,h5,zb4,zbo,zbs,hz,zbt]
    ·exact gc_le (zcg gL3 (n:=0) ⟨by simp,by simp⟩) (by omega)
   | true =>
    have h3:=h3 N σ1
    have w2:=zag (i:=L.length) (by omega)
    have w3:IntKind.i64.wrap (((L.length + 1:Nat):Int) + js.length)=((L.length + 1 + js.length:Nat):Int):=by rw [zbr (by omega) (by omega)]; omega
    obtain ⟨σ3,h8,hs3⟩:=hs1.more ⟨sJUMP,(L.length + 1 + js.length:Nat),0,[]⟩ (by omega)
    have hne3:L ++ [(⟨sJUMP,(L.length + 1 + js.length:Nat),0,[]⟩:In)]≠[]:=by simp
    have hl3:(L ++ [(⟨sJUMP,(L.length + 1 + js.length:Nat),0,[]⟩:In)]).length=L.length + 1:=by simp
    have gL3:=zvr gL (zr6 (B:=B) (n:=(L.length + 1 + js.length:Nat)) (zcz (by omega)))
    simp only [dI,sJUMP] at h8
    generalize L ++ [(⟨sJUMP,(L.length + 1 + js.length:Nat),0,[]⟩:In)]=L3 at h8 hs3 hne3 hl3 gL3
    have hst:=hs3.set2 hne3 L3.length
    have hix:=hs3.idx hne3
    have hgt:=hs3.get
    generalize hσ:({σ3 with objs:=aset σ3.objs σ1.next (putCells (cI L3) 1 [⟨false,.int .i64 L3.length⟩])}:Store)=σs at hst
    have hse:=zmn L3.length L3
    have hnes:setN L3.length L3≠[]:=by
     intro h
     rw [h] at hse
     exact hne3 (List.length_eq_zero_iff.1 hse.symm)
    have gL4:=zvs (v:=L3.length) (zcz (by omega)) gL3
    have hs4:=hst.2
    generalize setN L3.length L3=L4 at hs4 hse hnes gL4
    obtain ⟨id5,σ5,h5,hs5⟩:=zh7 (S:=SCs B) rfl (N:=N) (.arr k_1 σ1.next 0 L4.length) L4 js σs hs4.lowN hnes rfl hs4.list (by omega) (by omega)
    have hne5:=zg2 (b:=js) hnes
    have hz:=hs5.frzD hne5
    rw [zbc L4] at hz
    refine ⟨joinM L4 js,zgs (B:=B) (N:=N) (o:=false) (σ':={σ5 with objs:=adel1 σ5.objs id5}) ?_,?_⟩
    ·rw [hse,hl3] at h5 hz
     have hf:=hst.1
     rw [hl3] at hix hσ
     simp only [zcl,sA,Nat.reduceAdd,Nat.reduceSub,Nat.reduceMul,Nat.reduceBEq,Nat.reduceLeDiff,Int.reduceBEq,Int.reduceBNe,Int.reduceLE,Int.reduceLT,Int.reduceGE,Int.reduceGT,Int.reduceNeg,kn,memE,memOp,zaf,zaj,onel,len_A,len_S,len_I,hii,natI,nat0,w,hx,h1,h2,h3,h1f,h3f,h4,w2,w3,h8,hix,hgt,hf,hσ,h5,zb4,zbo,zbs,hz,zbt]
    ·exact gc_le (zcg gL4 gj) (by omega)
end Go.Fu
namespace Go.Fu
open Go Go.Mx
set_option maxRecDepth 10000
def rngM (n:Int):Bool:=decide (0≤n) && decide (n≤6000)
def goM (n k l:Int):Bool:=decide (k < n) && decide (n < l)
def packM (i:In) (f:Fd):Bool:=f.name == i.name && (f.arity == i.n && f.tag == i.m)
def zfl (fs:List Fd) (ns:List Tx) (i:In) (k l:Int):Bool :=
 ifB (i.op == [80,85,83,72,71]) (ns.any (· == i.name)) <|
 ifB (i.op == [80,85,83,72,65]) (rngM i.n) <|
 ifB (i.op == [83,76,73,68,69]) (rngM i.n) <|
 ifB (i.op == [80,79,80]) (rngM i.n) <|
 ifB (i.op == [85,80,68,65,84,69]) (rngM i.n) <|
 ifB (i.op == [65,76,76,79,67]) (rngM i.n) <|
 ifB (i.op == [83,80,76,73,84]) (rngM i.n) <|
 ifB (i.op == [80,65,67,75]) (fs.any (packM i) && rngM i.n) <|
 ifB (i.op == [84,69,83,84]) (zc2 fs i.name (-1) && goM i.n k l) <|
 ifB (i.op == [84,69,83,84,73]) (goM i.n k l) <|
 ifB (i.op == [74,85,77,80]) (goM i.n k l) <|
 (effM i).2.2
section
variable {C:CallF} {n:Nat} {σ:Store}
def Esd (fs:List Fd) (i:In) (k:Nat):Env:={slots:=[(0,⟨false,dFs fs⟩),(16,⟨false,.int .i64 k⟩)],locs:=[(7,(7,0))],boxes:=[(7,[⟨false,.str i.op⟩,⟨false,.int .i64 i.n⟩,⟨false,.int .i64 i.m⟩,⟨false,.str i.name⟩])],defers:=[]}
set_option maxHeartbeats 2000000 in
theorem zmab (fs:List Fd) (i:In) (k:Nat) (h:k < fs.length) (hl:fs.length < 1000000000) (hq:packM i (fs.getD k f0)=false):exec C n none a_30 (Esd fs i k) σ=some (.normal,Esd fs i (k + 1),σ):=by
 rw [zaq _ _ _ h] at hq
 have hi:((k:Int) < (fs.length:Int)):=by omega
 have hx:=idx_F fs k h
 have w:=zag (i:=k) (by omega)
 generalize fs[k]=f at hq hx
 obtain ⟨op,x,y,nm⟩:=i
 simp only [packM] at hq
 simp only [dF] at hx
 cases h1:f.name == nm with
 | false=>simp only [a_30,Esd,sA,seval,kn,len_F,hi,natI,hx,Mx.part,onel,h1,w]
 | true =>
  cases h2:f.arity == x with
  | false=>simp only [a_30,Esd,sA,seval,kn,len_F,hi,natI,hx,Mx.part,onel,h1,h2,w]
  | true =>
   rw [h1,h2] at hq
   have h3:(f.tag == y)=false:=hq
   simp only [a_30,Esd,sA,seval,kn,len_F,hi,natI,hx,Mx.part,onel,h1,h2,h3,w]
set_option maxHeartbeats 2000000 in
theorem zmbb (fs:List Fd) (i:In) (k:Nat) (h:k < fs.length) (hq:packM i (fs.getD k f0)=true):exec C n none a_30 (Esd fs i k) σ=some (.ret,{slots:=[(10,⟨false,.bool (rngM i.n)⟩)],locs:=[],boxes:=[],defers:=[]},σ):=by
 rw [zaq _ _ _ h] at hq
 have hi:((k:Int) < (fs.length:Int)):=by omega
 have hx:=idx_F fs k h
 generalize fs[k]=f at hq hx
 obtain ⟨op,x,y,nm⟩:=i
 simp only [packM,Bool.and_eq_true] at hq
 obtain ⟨h1,h2,h3⟩:=hq
 simp only [dF] at hx
 by_cases g1:0≤x
 ·by_cases g2:x≤6000
  ·simp only [rngM,a_30,Esd,sA,seval,kn,len_F,hi,natI,hx,Mx.part,onel,h1,h2,h3,g1,g2]
  ·simp only [rngM,a_30,Esd,sA,seval,kn,len_F,hi,natI,hx,Mx.part,onel,h1,h2,h3,g1,g2]
 ·simp only [rngM,a_30,Esd,sA,seval,kn,len_F,hi,natI,hx,Mx.part,onel,h1,h2,h3,g1]
theorem zosb (fs:List Fd) (i:In):exec C n none a_30 (Esd fs i fs.length) σ=some (.exit 1,{Esd fs i fs.length with slots:=[(0,⟨false,dFs fs⟩),(16,⟨false,.int .i64 fs.length⟩),(56,⟨false,.bool false⟩)]},σ):=by
 have hi:¬ ((fs.length:Int) < (fs.length:Int)):=by omega
 simp only [a_30,Esd,sA,seval,kn,len_F,hi]
end
def SSd:Specs:=[(n_77,zoe),(n_18,sp_in),(n_46,zqb)]
set_option maxHeartbeats 8000000 in
theorem zdtb (fs:List Fd) (ns:List Tx) (i:In) (k l:Int) (hf:fs.length < 1000000000) (hn:ns.length < 1000000000):OkP n_135 [dFs fs,dSs ns,dI i,.int .i64 k,.int .i64 l] ⟨false,.bool (zfl fs ns i k l)⟩:=by
 refine zas (af:=a_4) (n:=fs.length + 1) (σ':=σ0) (zav SSd 1) rfl rfl (by simp [zal,zde,zau,noPtr,dI]) rfl ?_
 have c1:=zow (S:=SSd) rfl i 0 σ0
 have c2:=zji (S:=SSd) rfl ns i.name hn 0 σ0
 have c3:=zlt (S:=SSd) rfl fs i.name (-1) hf 0 σ0
 have hlp:=ze8 (body:=exec (T SSd 1) (fs.length + 1) none a_30) (Esd fs i) σ0 fs.length (fun k=>packM i (fs.getD k f0)) (fun _ _ h=>by cases h) (fun _ _ h=>by cases h) (fun k hk hq=>zmab fs i k hk hf hq) (fun k hk hq=>zmbb fs i k hk hq) (zosb fs i) (fs.length + 1) (by omega)
 rw [zh9 fs f0 (packM i)] at hlp
 simp only [Esd,zeroI] at hlp
 unfold zfl
 generalize effM i=ef at c1 ⊢
 generalize ns.any (· == i.name)=bn at c2 ⊢
 generalize zc2 fs i.name (-1)=bf at c3 ⊢
 generalize fs.any (packM i)=bp at hlp ⊢
 obtain ⟨op,x,y,nm⟩:=i
 obtain ⟨ef1,ef2,ef3⟩:=ef
 simp only [dI] at c1 hlp c2 c3 ⊢
 cases e0:op == [80,85,83,72,71] with
 | true =>
  simp only [rngM,goM,e0,zac,zab,a_4,sA,seval,kn,c1,c2,c3]
 | false =>
  cases e1:op == [80,85,83,72,65] with
  | true =>
   by_cases g1:0≤x
   ·by_cases g2:x≤6000
    ·simp only [rngM,goM,e0,e1,zac,zab,a_4,sA,seval,kn,c1,c2,c3,g1,g2]
    ·simp only [rngM,goM,e0,e1,zac,zab,a_4,sA,seval,kn,c1,c2,c3,g1,g2]
   ·simp only [rngM,goM,e0,e1,zac,zab,a_4,sA,seval,kn,c1,c2,c3,g1]
  | false =>
   cases e2:op == [83,76,73,68,69] with
   | true =>
    by_cases g1:0≤x
    ·by_cases g2:x≤6000
     ·simp only [rngM,goM,e0,e1,e2,zac,zab,a_4,sA,seval,kn,c1,c2,c3,g1,g2]
     ·simp only [rngM,goM,e0,e1,e2,zac,zab,a_4,sA,seval,kn,c1,c2,c3,g1,g2]
    ·simp only [rngM,goM,e0,e1,e2,zac,zab,a_4,sA,seval,kn,c1,c2,c3,g1]
   | false =>
    cases e3:op == [80,79,80] with
    | true =>
     by_cases g1:0≤x
     ·by_cases g2:x≤6000
      ·simp only [rngM,goM,e0,e1,e2,e3,zac,zab,a_4,sA,seval,kn,c1,c2,c3,g1,g2]
      ·simp only [rngM,goM,e0,e1,e2,e3,zac,zab,a_4,sA,seval,kn,c1,c2,c3,g1,g2]
     ·simp only [rngM,goM,e0,e1,e2,e3,zac,zab,a_4,sA,seval,kn,c1,c2,c3,g1]
    | false =>
     cases e4:op == [85,80,68,65,84,69] with
     | true =>
      by_cases g1:0≤x
      ·by_cases g2:x≤6000
       ·simp only [rngM,goM,e0,e1,e2,e3,e4,zac,zab,a_4,sA,seval,kn,c1,c2,c3,g1,g2]
       ·simp only [rngM,goM,e0,e1,e2,e3,e4,zac,zab,a_4,sA,seval,kn,c1,c2,c3,g1,g2]
      ·simp only [rngM,goM,e0,e1,e2,e3,e4,zac,zab,a_4,sA,seval,kn,c1,c2,c3,g1]
     | false =>
      cases e5:op == [65,76,76,79,67] with
      | true =>
       by_cases g1:0≤x
       ·by_cases g2:x≤6000
        ·simp only [rngM,goM,e0,e1,e2,e3,e4,e5,zac,zab,a_4,sA,seval,kn,c1,c2,c3,g1,g2]
        ·simp only [rngM,goM,e0,e1,e2,e3,e4,e5,zac,zab,a_4,sA,seval,kn,c1,c2,c3,g1,g2]
       ·simp only [rngM,goM,e0,e1,e2,e3,e4,e5,zac,zab,a_4,sA,seval,kn,c1,c2,c3,g1]
      | false =>
       cases e6:op == [83,80,76,73,84] with
       | true =>
        by_cases g1:0≤x
        ·by_cases g2:x≤6000
         ·simp only [rngM,goM,e0,e1,e2,e3,e4,e5,e6,zac,zab,a_4,sA,seval,kn,c1,c2,c3,g1,g2]
         ·simp only [rngM,goM,e0,e1,e2,e3,e4,e5,e6,zac,zab,a_4,sA,seval,kn,c1,c2,c3,g1,g2]
        ·simp only [rngM,goM,e0,e1,e2,e3,e4,e5,e6,zac,zab,a_4,sA,seval,kn,c1,c2,c3,g1]
       | false =>
        cases e7:op == [80,65,67,75] with
        | true =>
         simp only [rngM] at hlp
         cases bp with
         | false =>
          simp only [zab] at hlp
          simp only [rngM,goM,e0,e1,e2,e3,e4,e5,e6,e7,zac,zab,a_4,sA,seval,kn,c1,c2,c3,hlp]
         | true =>
          simp only [zac] at hlp
          simp only [rngM,goM,e0,e1,e2,e3,e4,e5,e6,e7,zac,zab,a_4,sA,seval,kn,c1,c2,c3,hlp]
        | false =>
         cases e8:op == [84,69,83,84] with
         | true =>
          cases bf with
          | false=>simp only [rngM,goM,e0,e1,e2,e3,e4,e5,e6,e7,e8,zac,zab,a_4,sA,seval,kn,c1,c2,c3]
          | true =>
           by_cases g1:k < x
           ·by_cases g2:x < l
            ·simp only [rngM,goM,e0,e1,e2,e3,e4,e5,e6,e7,e8,zac,zab,a_4,sA,seval,kn,c1,c2,c3,g1,g2]
            ·simp only [rngM,goM,e0,e1,e2,e3,e4,e5,e6,e7,e8,zac,zab,a_4,sA,seval,kn,c1,c2,c3,g1,g2]
           ·simp only [rngM,goM,e0,e1,e2,e3,e4,e5,e6,e7,e8,zac,zab,a_4,sA,seval,kn,c1,c2,c3,g1]
         | false =>
          cases e9:op == [84,69,83,84,73] with
          | true =>
           by_cases g1:k < x
           ·by_cases g2:x < l
            ·simp only [rngM,goM,e0,e1,e2,e3,e4,e5,e6,e7,e8,e9,zac,zab,a_4,sA,seval,kn,c1,c2,c3,g1,g2]
            ·simp only [rngM,goM,e0,e1,e2,e3,e4,e5,e6,e7,e8,e9,zac,zab,a_4,sA,seval,kn,c1,c2,c3,g1,g2]
           ·simp only [rngM,goM,e0,e1,e2,e3,e4,e5,e6,e7,e8,e9,zac,zab,a_4,sA,seval,kn,c1,c2,c3,g1]
          | false =>
           cases e10:op == [74,85,77,80] with
           | true =>
            by_cases g1:k < x
            ·by_cases g2:x < l
             ·simp only [rngM,goM,e0,e1,e2,e3,e4,e5,e6,e7,e8,e9,e10,zac,zab,a_4,sA,seval,kn,c1,c2,c3,g1,g2]
             ·simp only [rngM,goM,e0,e1,e2,e3,e4,e5,e6,e7,e8,e9,e10,zac,zab,a_4,sA,seval,kn,c1,c2,c3,g1,g2]
            ·simp only [rngM,goM,e0,e1,e2,e3,e4,e5,e6,e7,e8,e9,e10,zac,zab,a_4,sA,seval,kn,c1,c2,c3,g1]
           | false =>
            simp only [e0,e1,e2,e3,e4,e5,e6,e7,e8,e9,e10,zac,zab,a_4,sA,seval,kn,c1,c2,c3]
def zxf:List D→Cell→Prop:=fun ds c=>∀ fs ns i k l,ds=[dFs fs,dSs ns,dI i,.int .i64 k,.int .i64 l]→c=⟨false,.bool (zfl fs ns i k l)⟩
theorem zbyb {S:Specs} (hS:aget S n_135=some zxf) (fs:List Fd) (ns:List Tx) (i:In) (k l:Int) (hf:fs.length < 1000000000) (hn:ns.length < 1000000000) (n:Nat) (σ:Store):T S (n + 1) n_135 [dFs fs,dSs ns,dI i,.int .i64 k,.int .i64 l] σ=some (.ret ⟨false,.bool (zfl fs ns i k l)⟩,σ):=by
 obtain ⟨c,h1,h2⟩:=T_orc (S:=S) hS rfl (c:=⟨false,.bool (zfl fs ns i k l)⟩) (fun a b c' d e h=>by
  simp only [List.cons.injEq,D.int.injEq,true_and,and_true] at h
  rw [zk6 h.1,zba h.2.1,zqs h.2.2.1,h.2.2.2.1,h.2.2.2.2]) (zdtb fs ns i k l hf hn)
 rw [h2,h1 fs ns i k l rfl]
end Go.Fu
namespace Go.Fu
open Go Go.Mx
set_option maxRecDepth 10000
theorem zs3 {B:Nat} (c:Co) (env:List Tx) (t:Bool) (hl:env.length + c.size < 10000000) (hg:∀ a∈c.al,Small a.1.num∧a.1.name.length≤B)
  (hk:∀ a∈c.al,∀ e:List Tx,e.length + a.2.size < 10000000→OkI B (8 * a.2.size) n_11 [dCo a.2,dSs e]∧OkI B (8 * a.2.size + 3) n_14 [dCo a.2,dSs e]) :
  ∀ (j i:Nat),c.al.length≤i + j→OkI B (2 + 8 * szA (c.al.drop i)) n_15 [dCo c,.int .i64 i,dSs env,.bool t]
 | 0,i,h=>by
  obtain ⟨is,h1,h2⟩:=zs4 (B:=B) c i env t (by omega)
  exact ⟨is,h1,gc_le h2 (by omega)⟩
 | j + 1,i,h=>by
  by_cases hi:i < c.al.length
  ·have ih:=zs3 c env t hl hg hk j (i + 1) (by omega)
   have hm:=List.getElem_mem hi
   have h1:=hg _ hm
   have h2:=ze0 _ _ hm
   have h3:=za2 c
   exact zbzb c i env t hi hl h1 (fun e he=>hk _ hm e (by omega)) ih
  ·obtain ⟨is,h1,h2⟩:=zs4 (B:=B) c i env t (by omega)
   exact ⟨is,h1,gc_le h2 (by omega)⟩
theorem zkgb {B:Nat}:∀ (k:Nat) (c:Co),c.size=k→Fl B false c→∀ env:List Tx,env.length + c.size < 10000000→OkI B (8 * c.size) n_11 [dCo c,dSs env]∧OkI B (8 * c.size + 3) n_14 [dCo c,dSs env]:=by
 intro k
 induction k using Nat.strongRecOn with
 | ind k ih =>
  intro c hk hf env hl
  have hsz:=za2 c
  have kids:∀ x∈c.ks,∀ e:List Tx,e.length + x.size < 10000000→Fl B false x→OkI B (8 * x.size) n_11 [dCo x,dSs e]∧OkI B (8 * x.size + 3) n_14 [dCo x,dSs e]:=fun x hx e he hfx=>by
   have:=zg8 _ _ hx
   exact ih x.size (by omega) x rfl hfx e he
  have hcs:c.f=9→∀ t,OkI B (2 + 8 * szA (c.al.drop 0)) n_15 [dCo c,.int .i64 (0:Nat),dSs env,.bool t]:=fun h9 t=>by
   have hh:(∀ a∈c.al,Small a.1.num∧a.1.name.length≤B)∧∀ a∈c.al,Fl B false a.2:=by
    cases hf with
    | leaf h=>rcases h with h | h | h <;> subst h <;> simp [co] at h9
    | app=>simp [co] at h9
    | lt=>simp [co] at h9
    | fail=>simp [co] at h9
    | prim=>simp [co] at h9
    | cas _ h2 _ h4=>exact ⟨fun a ha=>⟨(h2 a ha).1,(h2 a ha).2.1⟩,h4⟩
   refine zs3 c env t hl hh.1 (fun a ha e he=>?_) c.al.length 0 (by omega)
   have:=ze0 _ _ ha
   exact ih a.2.size (by omega) a.2 rfl (hh.2 a ha) e he
  have hS:=zg2b c env hf hl (fun x hx e he hfx=>(kids x hx e he hfx).1) (fun h9=>hcs h9 false)
  exact ⟨hS,zmhb c env hf hl hS (fun x hx e he hfx=>kids x hx e he hfx) (fun h9=>hcs h9 true)⟩
end Go.Fu
namespace Go.Fu
open Go Go.Mx
set_option maxRecDepth 10000
mutual
def hgt:Co→Nat
 | .mk _ _ _ ks bs al=>1 + max (hgK ks) (max (hgB bs) (hgA al))
def hgK:List Co→Nat
 | []=>0
 | c :: r=>max (hgt c) (hgK r)
def hgB:List (Tx × Co)→Nat
 | []=>0
 | (_,c) :: r=>max (hgt c) (hgB r)
def hgA:List (Hd × Co)→Nat
 | []=>0
 | (_,c) :: r=>max (hgt c) (hgA r)
end
theorem zfpb (c:Co):hgt c=1 + max (hgK c.ks) (max (hgB c.bs) (hgA c.al)):=by
 cases c
 rw [hgt]
 rfl
theorem za4b:∀ (l:List Co) (x:Co),x∈l→hgt x≤hgK l
 | y :: r,x,h=>by
  simp only [hgK]
  rcases List.mem_cons.1 h with rfl | h
  ·omega
  ·have:=za4b r x h; omega
theorem za3b:∀ (l:List (Tx × Co)) (x:Tx × Co),x∈l→hgt x.2≤hgB l
 | (s,y) :: r,x,h=>by
  simp only [hgB]
  rcases List.mem_cons.1 h with rfl | h
  ·simp only; omega
  ·have:=za3b r x h; omega
theorem za2b:∀ (l:List (Hd × Co)) (x:Hd × Co),x∈l→hgt x.2≤hgA l
 | (s,y) :: r,x,h=>by
  simp only [hgA]
  rcases List.mem_cons.1 h with rfl | h
  ·simp only; omega
  ·have:=za2b r x h; omega
theorem zv2 {F:Co→List Su→Co × List Su} {Q:Su→Prop}:∀ (l:List (Tx × Co)) (m:List Su),(∀ p∈l,∀ m,∀ u∈(F p.2 m).2,u∈m∨Q u)→∀ u∈(mapB F l m).2,u∈m∨Q u
 | [],m,_,u,hu=>.inl hu
 | (s,c) :: l,m,h,u,hu=>by
  rcases zv2 l (F c m).2 (fun q hq=>h q (List.mem_cons_of_mem _ hq)) u hu with h1 | h1
  ·exact h (s,c) (List.mem_cons_self ..) m u h1
  ·exact .inr h1
theorem zv4 {F:Co→List Su→Co × List Su} {Q:Su→Prop}:∀ (l:List Co) (m:List Su),(∀ p∈l,∀ m,∀ u∈(F p m).2,u∈m∨Q u)→∀ u∈(mapK F l m).2,u∈m∨Q u
 | [],m,_,u,hu=>.inl hu
 | c :: l,m,h,u,hu=>by
  rcases zv4 l (F c m).2 (fun q hq=>h q (List.mem_cons_of_mem _ hq)) u hu with h1 | h1
  ·exact h c (List.mem_cons_self ..) m u h1
  ·exact .inr h1
theorem zv0 {F:Hd→Co→List Su→Co × List Su} {Q:Su→Prop}:∀ (l:List (Hd × Co)) (m:List Su),(∀ p∈l,∀ m,∀ u∈(F p.1 p.2 m).2,u∈m∨Q u)→∀ u∈(mapA F l m).2,u∈m∨Q u
 | [],m,_,u,hu=>.inl hu
 | (s,c) :: l,m,h,u,hu=>by
  rcases zv0 l (F s c m).2 (fun q hq=>h q (List.mem_cons_of_mem _ hq)) u hu with h1 | h1
  ·exact h (s,c) (List.mem_cons_self ..) m u h1
  ·exact .inr h1
theorem zkrb:∀ (k:Nat) (c:Co),c.size=k→∀ (z:Bool) (ar:List Tx) (t:Tx) (m:List Su),∀ u∈(flM c z ar t m).2,u∈m∨(hgt u.body≤hgt c∧(zdz c z=false→hgt u.body < hgt c)):=by
 intro k
 induction k using Nat.strongRecOn with
 | ind k ih =>
  intro c hk z ar t m u hu
  have hz:=za2 c
  have hh:=zfpb c
  cases hl:zdz c z with
  | true =>
   rw [zjs _ _ _ _ _ hl] at hu
   simp only [liftM,List.mem_append,List.mem_singleton] at hu
   rcases hu with h | rfl
   ·exact .inl h
   ·exact .inr ⟨Nat.le_refl _,fun h=>by cases h⟩
  | false =>
   rw [zic _ _ _ _ _ hl] at hu
   have key:u∈m∨hgt u.body < hgt c:=by
    simp only [fA,fK,fB,List.take_length] at hu
    rcases zv0 (Q:=fun u=>hgt u.body < hgt c) _ _ (fun p hp m' u' hu'=>by
     have h1:=ze0 _ _ hp
     have h2:=za2b _ _ hp
     rcases ih p.2.size (by omega) p.2 rfl _ _ _ _ u' hu' with h | h
     ·exact .inl h
     ·exact .inr (by omega)) u hu with h | h
    ·rcases zv4 (Q:=fun u=>hgt u.body < hgt c) _ _ (fun p hp m' u' hu'=>by
      have h1:=zg8 _ _ hp
      have h2:=za4b _ _ hp
      rcases ih p.size (by omega) p rfl _ _ _ _ u' hu' with h | h
      ·exact .inl h
      ·exact .inr (by omega)) u h with h | h
     ·rcases zv2 (Q:=fun u=>hgt u.body < hgt c) _ _ (fun p hp m' u' hu'=>by
       have h1:=zgi _ _ hp
       have h2:=za3b _ _ hp
       rcases ih p.2.size (by omega) p.2 rfl _ _ _ _ u' hu' with h | h
       ·exact .inl h
       ·exact .inr (by omega)) u h with h | h
      ·exact .inl h
      ·exact .inr h
     ·exact .inr h
    ·exact .inr h
   rcases key with h | h
   ·exact .inl h
   ·exact .inr ⟨by omega,fun _=>h⟩
theorem zfhb (c:Co) (ar:List Tx) (t:Tx):∀ u∈(flM c false ar t []).2,hgt u.body < hgt c:=fun u hu=>by
 rcases zkrb _ c rfl false ar t [] u hu with h | h
 ·cases h
 ·exact h.2 rfl
end Go.Fu

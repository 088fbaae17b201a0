/-
 The document's Keeps: does a code keep to its stack.
-/
import Derived.Test.YtldfbnbckiifeaaGreatDoorFgCd
import Derived.Test.YtldfbnbckiifeaaGreatDoorFgZa
set_option maxHeartbeats 4000000
set_option linter.unusedSimpArgs false
set_option linter.unusedVariables false
set_option linter.unusedSectionVars false
namespace Go.Fu
open Go Go.Mx
set_option maxRecDepth 10000
set_option maxHeartbeats 8000000
def runM {α:Type} (st:Nat→α→Option α):Nat→Nat→α→Bool
 | 0,_,_=>true
 | r + 1,i,a=>match st i a with
  | none=>false
  | some a'=>runM st r (i + 1) a'
theorem zpq {α:Type} {body:Env→Store→XRes} (st:Nat→α→Option α) (P:Nat→α→Env→Store→Prop) (k:Nat) (R:Bool→AExit × Env × Store→Prop)
  (hs:∀ i a e σ,i < k→P i a e σ→(∃ a' e' σ',st i a=some a'∧body e σ=some (.normal,e',σ')∧P (i + 1) a' e' σ')∨(st i a=none∧∃ x,body e σ=some x∧(∀ e σ,x≠(.normal,e,σ))∧R false x))
  (he:∀ a e σ,P k a e σ→∃ x,body e σ=some x∧(∀ e σ,x≠(.normal,e,σ))∧R true x) :
  ∀ (r i:Nat) (a:α) (e:Env) (σ:Store) (n:Nat),i + r=k→r < n→P i a e σ→∃ x,loopN body n e σ=some x∧R (runM st r i a) x
 | 0,i,a,e,σ,n,h1,h2,hp=>by
  obtain ⟨n,rfl⟩:∃ m,n=m + 1:=⟨n - 1,by omega⟩
  obtain rfl:i=k:=by omega
  obtain ⟨x,hx,hn,hr⟩:=he a e σ hp
  refine ⟨x,?_,hr⟩
  rw [loopN,hx]
  obtain ⟨y,e',σ'⟩:=x
  cases y with
  | normal=>exact absurd rfl (hn e' σ')
  | _=>rfl
 | r + 1,i,a,e,σ,n,h1,h2,hp=>by
  obtain ⟨n,rfl⟩:∃ m,n=m + 1:=⟨n - 1,by omega⟩
  rw [runM]
  rcases hs i a e σ (by omega) hp with ⟨a',e',σ',hst,hb,hp'⟩ | ⟨hst,x,hx,hn,hr⟩
  ·rw [hst,loopN,hb]
   exact zpq st P k R hs he r (i + 1) a' e' σ' n (by omega) (by omega) hp'
  ·rw [hst]
   refine ⟨x,?_,hr⟩
   rw [loopN,hx]
   obtain ⟨y,e',σ'⟩:=x
   cases y with
   | normal=>exact absurd rfl (hn e' σ')
   | _=>rfl
def i0:In:=⟨[],0,0,[]⟩
def kinM (c:Cd):Bool:=decide (c.arity < 0) || (decide (c.arity > 6000) || (((c.body.length:Int) == 0) || (!((c.body.getD (c.body.length - 1) i0).op == [85,78,87,73,78,68]) && !((c.body.getD (c.body.length - 1) i0).op == [70,65,73,76]))))
def kstM (fs:List Fd) (ns:List Tx) (b:List In) (k:Nat) (ds:List Int):Option (List Int) :=
 kst (zfl fs ns (b.getD k i0) k b.length) (b.getD k i0) (effM (b.getD k i0)).1 (effM (b.getD k i0)).2.1 (ds.getD k 0) k ds
def zb6 (fs:List Fd) (ns:List Tx) (c:Cd):Bool:=ifB (kinM c) false (runM (kstM fs ns c.body) c.body.length 0 (c.arity :: List.replicate c.body.length (-1)))
theorem zjlb {fs:List Fd} {ns:List Tx} {i:In} {k l:Int} (h:zfl fs ns i k l=true) (hg:goesI i.op=true):k < i.n∧i.n < l:=by
 obtain ⟨op,x,y,nm⟩:=i
 simp only [goesI,Bool.or_eq_true,beq_iff_eq] at hg
 rcases hg with (rfl | rfl) | rfl
 ·have h':(zc2 fs nm (-1) && goM x k l)=true:=h
  simp only [goM,Bool.and_eq_true,decide_eq_true_eq] at h'
  exact h'.2
 ·have h':goM x k l=true:=h
  simpa only [goM,Bool.and_eq_true,decide_eq_true_eq] using h'
 ·have h':goM x k l=true:=h
  simpa only [goM,Bool.and_eq_true,decide_eq_true_eq] using h'
theorem zj6b (l:List Int) (x:Int):cZ l ++ [⟨false,.int .i64 x⟩]=cZ (l ++ [x]):=by simp [cZ]
theorem cZ_of (l:List Int):(cZ l).map (fun c=>Cell.of c.d)=cZ l:=by simp [cZ,Cell.of]
section
variable {C:CallF} {n:Nat}
def E0k (fs:List Fd) (ns:List Tx) (c:Cd) (id m k:Nat):Env:={slots:=[(0,⟨false,dFs fs⟩),(1,⟨false,dSs ns⟩),(7,⟨false,.int .i64 c.body.length⟩),(8,⟨false,.arr k_int id 0 m⟩),(9,⟨false,.int .i64 k⟩)],locs:=[(5,(5,0))],boxes:=[(5,[⟨false,.str c.name⟩,⟨false,.int .i64 c.arity⟩,⟨false,dIs c.body⟩])],defers:=[]}
theorem zm0b (id nx:Nat) (ds:List Int) (ty:List (Nat × Ty)) (hty:aget ty id=some ⟨k_int.el,k_int.sz⟩) (hl:ds.length < 1000000000) (x:Int) :
  zbu (SK id ds ty [] nx) k_int 8 (.arr k_int id 0 ds.length) [.int .i64 x]=some (.arr k_int nx 0 (ds.length + 1),SK nx (ds ++ [x]) ((nx,⟨k_int.el,k_int.sz⟩) :: ty) [] (nx + 2)):=by
 have h1:za3 k_int.sz [.int .i64 x]=true:=rfl
 have hg:aget (SK id ds ty [] nx).objs id=some (cZ ds):=by simp [SK,aget,ifB]
 have e0:decide (ds.length * k_int.sz≤(cZ ds).length)=true:=by rw [zeq]; simp [k_int]
 have e1:decide ((ds.length + 1) * 8≤bound)=true:=decide_eq_true (show (ds.length + 1) * 8≤1099511627776 by omega)
 have e2:decide (ds.length + 1≤bound)=true:=decide_eq_true (show ds.length + 1≤1099511627776 by omega)
 have ek:k_int.same k_int=true:=rfl
 have ht:(cZ ds).take (ds.length * k_int.sz)=cZ ds:=List.take_of_length_le (by rw [zeq]; simp [k_int])
 have hty':aget (SK id ds ty [] nx).tys id=some ⟨k_int.el,k_int.sz⟩:=hty
 have hdel:adel1 (SK id ds ty [] nx).objs id=[]:=by simp [SK,adel1,ifB]
 have hc:cellsOf [.int .i64 x]=[⟨false,.int .i64 x⟩]:=rfl
 simp only [zbu,h1,zac,hg,hty',bindO,zad,ek,beq_self_eq_true,List.length_cons,List.length_nil,Nat.zero_add,e0,e1,e2,Bool.and_self,ht,cZ_of,hc,zj6b,hdel]
 rfl
theorem zlcb (fs:List Fd) (ns:List Tx) (c:Cd) (id k nx:Nat) (ds:List Int) (ty:List (Nat × Ty)) (hty:aget ty id=some ⟨k_int.el,k_int.sz⟩) (hk:k < c.body.length) (hl:c.body.length < 1000000000) (hd:ds.length < 1000000000) :
  exec C n none zc5 (E0k fs ns c id ds.length k) (SK id ds ty [] nx)=some (.normal,E0k fs ns c nx (ds.length + 1) (k + 1),SK nx (ds ++ [-1]) ((nx,⟨k_int.el,k_int.sz⟩) :: ty) [] (nx + 2)):=by
 have hlt:((k:Int) < (c.body.length:Int)):=by omega
 have w:=zag (i:=k) (by omega)
 have ha:=zm0b id nx ds ty hty hd (-1)
 have hli:zbq (SK id ds ty [] nx).objs (.list k_int [.int .i64 (-1)])=some [.int .i64 (-1)]:=rfl
 generalize SK nx (ds ++ [-1]) ((nx,⟨k_int.el,k_int.sz⟩) :: ty) [] (nx + 2)=Z at ha ⊢
 generalize SK id ds ty [] nx=Y at ha hli ⊢
 simp only [zc5,E0k,sA,seval,kn,memE,memOp,hlt,hli,ha,w]
theorem zn0b (fs:List Fd) (ns:List Tx) (c:Cd) (id m:Nat) (σ:Store):exec C n none zc5 (E0k fs ns c id m c.body.length) σ=some (.exit 0,{E0k fs ns c id m c.body.length with slots:=[(0,⟨false,dFs fs⟩),(1,⟨false,dSs ns⟩),(7,⟨false,.int .i64 c.body.length⟩),(8,⟨false,.arr k_int id 0 m⟩),(9,⟨false,.int .i64 c.body.length⟩),(57,⟨false,.bool false⟩)]},σ):=by
 have hlt:¬ ((c.body.length:Int) < (c.body.length:Int)):=by omega
 simp only [zc5,E0k,sA,seval,kn,hlt]
theorem zn1b (fs:List Fd) (ns:List Tx) (c:Cd) (id m:Nat) (σ:Store):exec C n none zap (E1k fs ns c id m c.body.length) σ=some (.exit 2,{E1k fs ns c id m c.body.length with slots:=[(0,⟨false,dFs fs⟩),(1,⟨false,dSs ns⟩),(7,⟨false,.int .i64 c.body.length⟩),(8,⟨false,.arr k_int id 0 m⟩),(10,⟨false,.int .i64 c.body.length⟩),(65,⟨false,.bool false⟩)]},σ):=by
 have hlt:¬ ((c.body.length:Int) < (c.body.length:Int)):=by omega
 simp only [zap,E1k,sA,seval,kn,hlt]
end
theorem zgf {S:Specs} {n m:Nat} {ds:List D} {c:Cell} {σ':Store} (hl:ds.length=3) (hd:zal ds=true) (hc:noPtr c.d=true)
  (hr:finX Ra (fun _ _ _=>none) zcu 0 (exec (T S n) m none zcu.body (zbb ds) σ0)=some (.ret c,σ')):OkP n_45 ds c:=by
 refine zgn (zav S n) ze5 rfl rfl zul hl hd hc (n:=m) (σ':=σ') ?_
 unfold finX at hr
 exact hr
def SKp:Specs:=[(n_77,zoe),(n_135,zxf)]
theorem zyz (fs:List Fd) (ns:List Tx) (c:Cd) (hf:fs.length < 1000000000) (hn:ns.length < 1000000000) (hb:c.body.length < 300000000) (hne:c.body≠[]) :
  ∃ id ty nx,∃ x,loopN (exec (T SKp 1) 1000000000 none zc5) 1000000000 (E0k fs ns c 0 1 0) (SK 0 [c.arity] [(0,⟨k_int.el,k_int.sz⟩)] [] 2)=some (.exit 0,{E0k fs ns c id (c.body.length + 1) c.body.length with slots:=[(0,⟨false,dFs fs⟩),(1,⟨false,dSs ns⟩),(7,⟨false,.int .i64 c.body.length⟩),(8,⟨false,.arr k_int id 0 (c.body.length + 1)⟩),(9,⟨false,.int .i64 c.body.length⟩),(57,⟨false,.bool false⟩)]},SK id (c.arity :: List.replicate c.body.length (-1)) ty [] nx) ∧
  loopN (exec (T SKp 1) 1000000000 none zap) 1000000000 (E1k fs ns c id (c.body.length + 1) 0) (SK id (c.arity :: List.replicate c.body.length (-1)) ty [] nx)=some x ∧
  (match runM (kstM fs ns c.body) c.body.length 0 (c.arity :: List.replicate c.body.length (-1)) with
   | true=>∃ σ',x=(.exit 2,{E1k fs ns c id (c.body.length + 1) c.body.length with slots:=[(0,⟨false,dFs fs⟩),(1,⟨false,dSs ns⟩),(7,⟨false,.int .i64 c.body.length⟩),(8,⟨false,.arr k_int id 0 (c.body.length + 1)⟩),(10,⟨false,.int .i64 c.body.length⟩),(65,⟨false,.bool false⟩)]},σ')
   | false=>∃ σ',x=(.ret,Ef6,σ')):=by
 obtain ⟨r,hr,id,ty,nx,rfl⟩:=zdd (body:=exec (T SKp 1) 1000000000 none zc5)
  (fun i e σ=>∃ id ty nx,e=E0k fs ns c id (i + 1) i∧σ=SK id (c.arity :: List.replicate i (-1)) ty [] nx∧aget ty id=some ⟨k_int.el,k_int.sz⟩)
  (fun r=>∃ id ty nx,r=(.exit 0,{E0k fs ns c id (c.body.length + 1) c.body.length with slots:=[(0,⟨false,dFs fs⟩),(1,⟨false,dSs ns⟩),(7,⟨false,.int .i64 c.body.length⟩),(8,⟨false,.arr k_int id 0 (c.body.length + 1)⟩),(9,⟨false,.int .i64 c.body.length⟩),(57,⟨false,.bool false⟩)]},SK id (c.arity :: List.replicate c.body.length (-1)) ty [] nx)) c.body.length
  (fun i e σ hi ⟨id,ty,nx,he,hσ,hty⟩=>by
   subst he hσ
   have hlen:(c.arity :: List.replicate i (-1:Int)).length=i + 1:=by simp
   have h:=zlcb (C:=T SKp 1) (n:=1000000000) fs ns c id i nx (c.arity :: List.replicate i (-1)) ty hty hi (by omega) (by rw [hlen]; omega)
   rw [hlen] at h
   refine ⟨_,_,h,nx,((nx,⟨k_int.el,k_int.sz⟩) :: ty),nx + 2,rfl,?_,by simp [aget,ifB]⟩
   rw [List.cons_append,← List.replicate_succ'])
  (fun e σ ⟨id,ty,nx,he,hσ,hty⟩=>by
   subst he hσ
   exact ⟨_,zn0b fs ns c id _ _,fun _ _ h=>(by cases h),id,ty,nx,rfl⟩) 0 1000000000 (E0k fs ns c 0 1 0) (SK 0 [c.arity] [(0,⟨k_int.el,k_int.sz⟩)] [] 2) (by omega) (by omega)
  ⟨0,_,2,rfl,rfl,rfl⟩
 obtain ⟨x,hx,hR⟩:=zpq (body:=exec (T SKp 1) 1000000000 none zap) (kstM fs ns c.body)
  (fun k ds e σ=>ds.length=c.body.length + 1∧e=E1k fs ns c id (c.body.length + 1) k∧σ=SK id ds ty [] nx) c.body.length
  (fun b x=>match b with
   | true=>∃ σ',x=(.exit 2,{E1k fs ns c id (c.body.length + 1) c.body.length with slots:=[(0,⟨false,dFs fs⟩),(1,⟨false,dSs ns⟩),(7,⟨false,.int .i64 c.body.length⟩),(8,⟨false,.arr k_int id 0 (c.body.length + 1)⟩),(10,⟨false,.int .i64 c.body.length⟩),(65,⟨false,.bool false⟩)]},σ')
   | false=>∃ σ',x=(.ret,Ef6,σ'))
  (fun k ds e σ hk ⟨hm,he,hσ⟩=>by
   subst he hσ
   have hx:=idx_I c.body k hk
   rw [← zaq c.body k i0 hk] at hx
   have h:=zldb (C:=T SKp 1) (n:=1000000000) fs ns c id k ds ty [] nx (c.body.getD k i0) (zfl fs ns (c.body.getD k i0) k c.body.length) (effM (c.body.getD k i0)).1 (effM (c.body.getD k i0)).2.1 (effM (c.body.getD k i0)).2.2 hk (by omega) hm hx
    (fun σ=>zbyb (S:=SKp) rfl fs ns _ _ _ hf hn 0 σ) (fun σ=>zow (S:=SKp) rfl _ 0 σ) (fun h1 h2=>zjlb h1 h2)
   rw [hm] at h
   rcases h with ⟨ds',h1,h2,h3⟩ | ⟨h1,σ',h3⟩
   ·exact Or.inl ⟨ds',_,_,h1,h3,h2,rfl,rfl⟩
   ·exact Or.inr ⟨h1,_,h3,fun _ _ h=>(by cases h),σ',rfl⟩)
  (fun ds e σ ⟨hm,he,hσ⟩=>by
   subst he hσ
   exact ⟨_,zn1b fs ns c id _ _,fun _ _ h=>(by cases h),_,rfl⟩) c.body.length 0 (c.arity :: List.replicate c.body.length (-1)) (E1k fs ns c id (c.body.length + 1) 0) (SK id (c.arity :: List.replicate c.body.length (-1)) ty [] nx) 1000000000 (by omega) (by omega) ⟨by simp,rfl,rfl⟩
 exact ⟨id,ty,nx,x,hr,hx,hR⟩
theorem zzq (fs:List Fd) (ns:List Tx) (c:Cd) (hf:fs.length < 1000000000) (hn:ns.length < 1000000000) (hb:c.body.length < 300000000):OkP n_45 [dFs fs,dSs ns,dD c] ⟨false,.bool (zb6 fs ns c)⟩:=by
 have hnp:zal [dFs fs,dSs ns,dD c]=true:=by simp [zal,zde,zau,zmb]
 unfold zb6 kinM
 by_cases g1:c.arity < 0
 ·refine zgf (S:=SKp) (n:=1) (m:=1) (σ':=σ0) rfl hnp rfl ?_
  simp only [zcu,dD,sA,seval,kn,len_I,g1]
 by_cases g2:c.arity > 6000
 ·refine zgf (S:=SKp) (n:=1) (m:=1) (σ':=σ0) rfl hnp rfl ?_
  simp only [zcu,dD,sA,seval,kn,len_I,g1,g2]
 by_cases g3:c.body=[]
 ·refine zgf (S:=SKp) (n:=1) (m:=1) (σ':=σ0) rfl hnp rfl ?_
  have g4:(((c.body.length:Nat):Int) == 0)=true:=by rw [g3]; rfl
  simp only [zcu,dD,sA,seval,kn,len_I,g1,g2,g4]
 have g4:(((c.body.length:Nat):Int) == 0)=false:=by
  have:c.body.length≠0:=fun h=>g3 (List.length_eq_zero_iff.1 h)
  exact beq_false_of_ne (by omega)
 have hpos:c.body.length - 1 < c.body.length:=by
  have:c.body.length≠0:=fun h=>g3 (List.length_eq_zero_iff.1 h)
  omega
 have w1:IntKind.i64.wrap ((c.body.length:Int) - 1)=((c.body.length - 1:Nat):Int):=by rw [zbr (by omega) (by omega)]; omega
 have hx:=idx_I c.body _ hpos
 rw [← zaq c.body _ i0 hpos] at hx
 obtain ⟨id,ty,nx,x,h0,h1,h2⟩:=zyz fs ns c hf hn hb g3
 simp only [E0k,zeroI,kk] at h0
 simp only [E1k,zeroI] at h1 h2
 generalize c.body.getD (c.body.length - 1) i0=la at hx ⊢
 obtain ⟨op,lx,ly,ln⟩:=la
 simp only [dI] at hx
 have hp0:∀ (a b c d:D),Mx.part none [a,b,c,d] 0=some a:=fun _ _ _ _=>rfl
 have hσ:σ0.next=0:=rfl
 have hbu:zbe σ0 k_int (cellsOf [.int .i64 c.arity])=SK 0 [c.arity] [(0,⟨k_int.el,k_int.sz⟩)] [] 2:=rfl
 have fin:∀ (hu:((!(op == [85,78,87,73,78,68]) && !(op == [70,65,73,76]))=false)),OkP n_45 [dFs fs,dSs ns,dD c] ⟨false,.bool (runM (kstM fs ns c.body) c.body.length 0 (c.arity :: List.replicate c.body.length (-1)))⟩:=fun hu=>by
  generalize runM (kstM fs ns c.body) c.body.length 0 (c.arity :: List.replicate c.body.length (-1))=bb at h2 ⊢
  cases bb with
  | true =>
   obtain ⟨σ',rfl⟩:=h2
   refine zgf (S:=SKp) (n:=1) (m:=1000000000) (σ':=σ') rfl hnp rfl ?_
   cases e1:op == [85,78,87,73,78,68] with
   | true=>simp only [zcu,dD,sA,seval,kn,memE,memOp,len_I,g1,g2,g4,w1,natI,hx,hp0,e1,hσ,hbu,h0,h1]
   | false =>
    have e2:(op == [70,65,73,76])=true:=by rw [e1] at hu; simpa using hu
    simp only [zcu,dD,sA,seval,kn,memE,memOp,len_I,g1,g2,g4,w1,natI,hx,hp0,e1,e2,hσ,hbu,h0,h1]
  | false =>
   obtain ⟨σ',rfl⟩:=h2
   refine zgf (S:=SKp) (n:=1) (m:=1000000000) (σ':=σ') rfl hnp rfl ?_
   cases e1:op == [85,78,87,73,78,68] with
   | true=>simp only [zcu,dD,Ef6,sA,seval,kn,memE,memOp,len_I,g1,g2,g4,w1,natI,hx,hp0,e1,hσ,hbu,h0,h1]
   | false =>
    have e2:(op == [70,65,73,76])=true:=by rw [e1] at hu; simpa using hu
    simp only [zcu,dD,Ef6,sA,seval,kn,memE,memOp,len_I,g1,g2,g4,w1,natI,hx,hp0,e1,e2,hσ,hbu,h0,h1]
 simp only [g1,g2,g4,decide_false,Bool.false_or]
 cases e1:op == [85,78,87,73,78,68] with
 | true =>
  simp only [Bool.not_true,Bool.false_and,zab]
  exact fin (by rw [e1]; rfl)
 | false =>
  cases e2:op == [70,65,73,76] with
  | true =>
   simp only [Bool.not_true,Bool.and_false,zab]
   exact fin (by rw [e1,e2]; rfl)
  | false =>
   simp only [Bool.not_false,Bool.and_self,zac]
   refine zgf (S:=SKp) (n:=1) (m:=1) (σ':=σ0) rfl hnp rfl ?_
   simp only [zcu,dD,sA,seval,kn,len_I,g1,g2,g4,w1,natI,hx,hp0,e1,e2]
def zw9:List D→Cell→Prop:=fun ds c=>∀ fs ns x,ds=[dFs fs,dSs ns,dD x]→c=⟨false,.bool (zb6 fs ns x)⟩
theorem zqr {a b:Cd} (h:dD a=dD b):a=b:=by
 obtain ⟨n,r,l⟩:=a
 obtain ⟨n2,r2,l2⟩:=b
 simp only [dD,D.agg.injEq,List.cons.injEq,D.str.injEq,D.int.injEq,true_and,and_true] at h
 obtain ⟨rfl,rfl,h3⟩:=h
 rw [zr1 h3]
theorem zbsb {S:Specs} (hS:aget S n_45=some zw9) (fs:List Fd) (ns:List Tx) (x:Cd) (hf:fs.length < 1000000000) (hn:ns.length < 1000000000) (hb:x.body.length < 300000000) (n:Nat) (σ:Store):T S (n + 1) n_45 [dFs fs,dSs ns,dD x] σ=some (.ret ⟨false,.bool (zb6 fs ns x)⟩,σ):=by
 obtain ⟨c,h1,h2⟩:=T_orc (S:=S) hS rfl (c:=⟨false,.bool (zb6 fs ns x)⟩) (fun a b c' h=>by
  simp only [List.cons.injEq,and_true] at h
  rw [zk6 h.1,zba h.2.1,zqr h.2.2]) (zzq fs ns x hf hn hb)
 rw [h2,h1 fs ns x rfl]
end Go.Fu

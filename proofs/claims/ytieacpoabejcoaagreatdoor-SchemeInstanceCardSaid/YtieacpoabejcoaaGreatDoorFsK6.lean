/-
 What is wrong with a world: all of it.
-/
import Derived.Test.YtieacpoabejcoaaGreatDoorFsK1
set_option maxHeartbeats 4000000
set_option linter.unusedSimpArgs false
set_option linter.unusedVariables false
set_option linter.unusedSectionVars false
namespace Go.Fu
open Go Go.Mx
set_option maxRecDepth 10000
set_option maxHeartbeats 4000000
def dPg (cs:List Cs) (is:List In):D:=.agg [.nils,dCl cs,dIl is,.nils]
theorem one_dCl (l:List Cs):(dCl l).one=true:=one_dlist
theorem one_dIl (l:List In):(dIl l).one=true:=one_dlist
theorem refusals_run:∃ N',∀ n,N'≤n→∀ (cs:List Cs) (_:cs.length < 1000) (is:List In) (_:is.length < 10000),∀ (es:List (Tx × Cs × Nat)) (_:es.length < 500) (_:∀ y∈es,y.2.1.sups.length < 1000) (p mc mm k0:Nat) σ,p < σ.next→mc < σ.next→EV p mc mm (dIl is) es k0 σ →
  ∃ (out:List (Int × Int)) (σ':Store),out.length < 40000∧T n n_245 [.ptr p 0,dPg cs is] σ=some (.ret ⟨ow out.length,dAts out⟩,σ')∧G σ.next σ σ':=by
 obtain ⟨N1,ha⟩:=above_run
 obtain ⟨N2,hI⟩:=Inst_run
 obtain ⟨N3,hR⟩:=ref1_run
 refine ⟨N1 + N2 + N3 + 20000,fun n hn cs hcs is his es hes hsz p mc mm k0 σ hp hmc hE=>?_⟩
 obtain ⟨m,rfl⟩:∃ m,n=m + 3:=⟨n - 3,by omega⟩
 generalize hs1:({objs:=(σ.next,[⟨false,.ptr p 0⟩]) :: σ.objs,tys:=(σ.next,⟨t_109,0⟩) :: σ.tys,oth:=σ.oth,next:=σ.next + 1}:Store)=σ1
 have g1:G σ.next σ σ1:=by
  subst hs1
  exact ⟨Nat.le_succ _,fun j hj _=>agC _ _ (by omega),fun j hj=>agC _ _ (by omega),fun _ _=>rfl⟩
 have heb:aget σ1.objs σ.next=some [⟨false,.ptr p 0⟩]:=by subst hs1; exact agS _ _ _
 have n1:σ1.next=σ.next + 1:=by subst hs1; rfl
 have E1:=hE.keep g1 hp hmc
 obtain ⟨σ2,o2,l2,r2,g2⟩:=ref_loop0 (m:=m + 2) (m0:=σ.next + 1) (eb:=σ.next) hsz E1 (by omega) (by omega) heb (by omega) (fun s τ ht hEt=>ha (m + 2) (by omega) es hes hsz p mc mm (dIl is) k0 s s τ (by omega) (by omega) hEt) (by omega) cs hcs cs.length (m + 2) 0 [] σ1 (by omega) (by omega) (by simp) (G.refl _ _)
 have heb2:=(g2.objs σ.next (by omega) id).trans heb
 have E2:=E1.keep g2 (by omega) (by omega)
 obtain ⟨σ3,o3,l3,r3,g3⟩:=ref_loop1 (m:=m + 2) (m0:=σ.next + 1) (eb:=σ.next) is his E1 (by omega) (by omega) heb (by omega) (fun s t τ ht hEt=>hI (m + 2) (by omega) is his p mc mm es k0 s t τ (by omega) hEt) (by omega) is.length (m + 2) 0 o2 σ2 (by omega) (by omega) (by omega) g2
 have heb3:=(g3.objs σ.next (by omega) id).trans heb
 have E3:=E1.keep g3 (by omega) (by omega)
 obtain ⟨σ4,o4,l4,r4,g4⟩:=ref_loop2 (m:=m) (m0:=σ.next + 1) (eb:=σ.next) (by omega) hsz is his E1 (by omega) (by omega) heb (by omega) (fun ib x s τ ht hEt hb hi=>hR m (by omega) is his p mc mm es k0 σ.next ib x s τ (by omega) hEt hb hi) (by omega) is.length (m + 2) 0 o3 σ3 (by omega) (by omega) (by omega) g3
 refine ⟨o4,σ4,by omega,?_,g1.trans (g4.less (by omega))⟩
 have ho2:=E2.obj
 have ho3:=E3.obj
 have e1:=one_dCl cs
 have e2:=one_dIl is
 have hlc:=len_Cs cs
 have hli:=len_In is
 have z0:dAts []=.nils:=rfl
 simp only [Er0,List.length_nil,ow_zero,z0,zeroI] at r2
 simp only [Er1,zeroI] at r3
 simp only [Er2,zeroI] at r4
 rw [T_fun (af:=a_146) rfl rfl]
 simp only [a_146,dPg,sA,seval,kn,memE,memOp,mmD,hs1,e1,e2,hlc,hli,r2,heb2,ho2,r3,heb3,ho3,r4]
end Go.Fu
namespace Go.Fu
open Go Go.Mx
set_option maxRecDepth 10000
set_option maxHeartbeats 4000000
theorem T_yld {n c:Nat} {ds:List D} {σ:Store}:T (n + 1) (yldBase + c) ds σ=runY (T n) n c ds σ:=by
 have hY:isY (yldBase + c)=true:=Nat.ble_eq_true_of_le (by omega)
 have h0:Γs (yldBase + c)=none:=by
  cases h:Γs (yldBase + c) with
  | none=>rfl
  | some af =>
   have:=(Γs_holds _ _ h).1
   rw [hY] at this
   cases this
 have h:(fun f=>ifB (has SL f) none (Γs f)) (yldBase + c)=none:=by
  simp only [h0]
  cases has SL (yldBase + c) <;> rfl
 have e:=runQ_yld (Γ:=fun f=>ifB (has SL f) none (Γs f)) (R:=Ra) (X:=fun f ds σ=>ifB (has SL f) (orc Go.Proofs.Tryz.prog κ (PostOf SL) f ds σ) (Xa f ds σ)) (n:=n) (ds:=ds) (σ:=σ) h hY
 rw [Nat.add_sub_cancel_left] at e
 exact e
def busy (r:LRec):LRec:={r with st:=.busy}
theorem yld_round {N c:Nat} {r:LRec} {args:List D} {σ σa σb:Store} {e1 e2:Env} (hp:(args.length == r.params.length)=true) (hr:r.st=.ready) (h1:aget σ.oth c=some (.loop r)) (ha:exec (T N) N (some c) r.assign {slots:=putArgs r.params args r.slots,locs:=[],boxes:=[],defers:=[]} σ=some (.normal,e1,σa))
  (h2:aget σa.oth c=some (.loop r)) (hb:exec (T N) N (some c) r.body e1 (setLoop σa c r .busy)=some (.normal,e2,σb)) (h3:aget σb.oth c=some (.loop (busy r))):T (N + 1) (yldBase + c) args σ=some (.ret ⟨false,.bool true⟩,setLoop σb c (busy r) .ready):=by
 rw [T_yld]
 have l1:loopAt σ c=some r:=by simp only [loopAt,h1,bindO,caseO_some]
 have l2:loopAt σa c=some r:=by simp only [loopAt,h2,bindO,caseO_some]
 have l3:loopAt σb c=some (busy r):=by simp only [loopAt,h3,bindO,caseO_some]
 have hi:r.st.isReady=true:=by rw [hr]; rfl
 unfold runY
 simp only [l1,bindO,caseO_some,hp,hi,Bool.and_self,ifB_true]
 rw [ha]
 unfold roundA
 simp only [l2,bindO,caseO_some,hi,ifB_true]
 rw [hb]
 unfold roundB
 simp only [l3,bindO,caseO_some]
theorem setLoop_ready {r:LRec} {σ:Store} {c:Nat} (hr:r.st=.ready):aget (setLoop σ c (busy r) .ready).oth c=some (.loop r):=by
 have:({busy r with st:=.ready}:LRec)=r:=by
  cases r
  simp only at hr
  subst hr
  rfl
 show aget (aset σ.oth c (.loop {busy r with st:=.ready})) c=_
 rw [agA,this]
theorem loopN_inv {body:Env→Store→XRes} (P:Nat→Env→Store→Prop) (Q:AExit × Env × Store→Prop) (k:Nat) (hstep:∀ i e σ,i < k→P i e σ→∃ e' σ',body e σ=some (.normal,e',σ')∧P (i + 1) e' σ')
  (hend:∀ e σ,P k e σ→∃ r,body e σ=some r∧(∀ e σ,r≠(.normal,e,σ))∧Q r):∀ (j n:Nat) (e:Env) (σ:Store),j≤k→k < n + j→P j e σ→∃ r,loopN body n e σ=some r∧Q r
 | j,0,e,σ,h1,h2,_=>by omega
 | j,n + 1,e,σ,h1,h2,hp=>by
  rw [loopN]
  by_cases hj:j=k
  ·subst hj
   obtain ⟨r,hr,hn,hq⟩:=hend e σ hp
   rw [hr]
   obtain ⟨x,e',σ'⟩:=r
   cases x with
   | normal=>exact absurd rfl (hn e' σ')
   | _=>exact ⟨_,rfl,hq⟩
  ·obtain ⟨e',σ',hb,hp'⟩:=hstep j e σ (by omega) hp
   rw [hb]
   exact loopN_inv P Q k hstep hend (j + 1) n e' σ' (by omega) (by omega) hp'
theorem idx_Me (l:List (Tx × Int)) (i:Nat) (h:i < l.length):indexD 9 (dMs l) i=some (.eptr (dMe l[i])):=idx_map rfl _ _ _ h
theorem len_Me (l:List (Tx × Int)):lenOf (dMs l)=some l.length:=by simp only [dMs,lenOf_dlist,List.length_map]
def fnBC (b:Nat):D:=.fn (.func n_139) [] [.ptr b 0]
def GAb (σ:Store) (t:Nat) (d:D):Store:={σ with objs:=(σ.next,[⟨false,d⟩]) :: σ.objs,tys:=(σ.next,⟨t,0⟩) :: σ.tys,next:=σ.next + 1}
theorem mkBC_run (l:List Cs) (n:Nat) (σ:Store):T (n + 1) n_203 [dCl l] σ=some (.ret ⟨false,fnBC σ.next⟩,GAb σ t_108 (dCl l)):=by
 rw [T_fun (af:=a_166) rfl rfl]
 have e1:(dCl l).one=true:=one_dCl l
 have hg:∀ e,memOp (.gbox t_108 (.tmp 0)) {slots:=(0,⟨false,dCl l⟩) :: e,locs:=[],boxes:=[],defers:=[]} σ=some (.ptr σ.next 0,GAb σ t_108 (dCl l)):=fun e=>by
  cases l <;> rfl
 simp only [a_166,sA,seval,kn,e1,memE,hg,fnBC]
def EbkC (b c:Nat) (l:List Cs) (m:Nat):Env:={slots:=[(0,⟨false,.yld c⟩),(1,⟨false,.ptr b 0⟩),(3,⟨false,.int .i64 ((l.length:Int) - 1 - (m:Nat))⟩)],locs:=[],boxes:=[],defers:=[]}
theorem bkC_step {C:CallF} {n:Nat} (b c:Nat) (l:List Cs) (m:Nat) (h:m < l.length) (hl:l.length≤1000) (σ σ':Store) (hb:aget σ.objs b=some [⟨false,dCl l⟩]) (h1:C (yldBase + c) [.int .i64 ((l.length - 1 - m:Nat):Int),dCs (l[l.length - 1 - m]'(by omega))] σ=some (.ret ⟨false,.bool true⟩,σ')):exec C n none a_93 (EbkC b c l m) σ=some (.normal,EbkC b c l (m + 1),σ'):=by
 have hy:=idx_Cs l (l.length - 1 - m) (by omega)
 have hz:(l.length:Int) - 1 - (m:Nat)=((l.length - 1 - m:Nat):Int):=by omega
 have hp:(0:Int)≤((l.length - 1 - m:Nat):Int):=by omega
 have hp2:((l.length - 1 - m:Nat):Int) ≥ 0:=by omega
 have w:IntKind.i64.wrap (((l.length - 1 - m:Nat):Int) - 1)=(l.length:Int) - 1 - ((m + 1:Nat):Int):=by rw [wrap64 (by omega) (by omega)]; omega
 have hfn:D.fn? (.yld c)=some (yldBase + c,[],[]):=rfl
 have e1:(dCl l).one=true:=one_dCl l
 unfold EbkC
 rw [hz]
 generalize l[l.length - 1 - m]'(by omega)=x at *
 simp only [dCs,cCs] at hy h1
 simp only [a_93,sA,seval,kn,e1,hp,hp2,natI,hy,hb,hfn,h1,w]
theorem bkC_end {C:CallF} {n:Nat} (b c:Nat) (l:List Cs) (σ:Store):exec C n none a_93 (EbkC b c l l.length) σ=some (.exit 0,{slots:=[(0,⟨false,.yld c⟩),(1,⟨false,.ptr b 0⟩),(3,⟨false,.int .i64 (-1)⟩),(8,⟨false,.bool false⟩)],locs:=[],boxes:=[],defers:=[]},σ):=by
 have hz:(l.length:Int) - 1 - (l.length:Nat)=-1:=by omega
 have hp:¬ ((-1:Int) ≥ 0):=by omega
 unfold EbkC
 rw [hz]
 simp only [a_93,sA,seval,kn,hp]
theorem backC_run {J:Nat→Store→Prop} {b c:Nat} (l:List Cs) (hl:l.length≤1000) (N:Nat) (hN:1001≤N) (hb:∀ m σ,J m σ→aget σ.objs b=some [⟨false,dCl l⟩])
  (hs:∀ m σ (h:m < l.length),J m σ→∃ σ',T N (yldBase + c) [.int .i64 ((l.length - 1 - m:Nat):Int),dCs (l[l.length - 1 - m]'(by omega))] σ=some (.ret ⟨false,.bool true⟩,σ')∧J (m + 1) σ') (σ:Store) (h0:J 0 σ):∃ σ',T (N + 1) n_139 [.yld c,.ptr b 0] σ=some (.ret ⟨false,.tup []⟩,σ')∧J l.length σ':=by
 obtain ⟨r,hr,σ',rfl,hw⟩:=loopN_inv (body:=exec (T N) N none a_93)
  (fun m e σ=>e=EbkC b c l m∧J m σ)
  (fun r=>∃ σ',r=(.exit 0,{slots:=[(0,⟨false,.yld c⟩),(1,⟨false,.ptr b 0⟩),(3,⟨false,.int .i64 (-1)⟩),(8,⟨false,.bool false⟩)],locs:=[],boxes:=[],defers:=[]},σ')∧J l.length σ') l.length
  (fun m e σ hi ⟨he,hw⟩=>by
   subst he
   obtain ⟨σ',h1,h2⟩:=hs m σ hi hw
   exact ⟨_,_,bkC_step b c l m hi hl σ σ' (hb m σ hw) h1,rfl,h2⟩)
  (fun e σ ⟨he,hw⟩=>by
   subst he
   exact ⟨_,bkC_end b c l σ,fun _ _ h=>(by cases h),σ,rfl,hw⟩) 0 N (EbkC b c l 0) σ (by omega) (by omega) ⟨rfl,h0⟩
 refine ⟨σ',?_,hw⟩
 rw [T_fun (af:=a_167) rfl rfl]
 have ob:=hb 0 σ h0
 have hlen:lenOf (dCl l)=some l.length:=len_Cs l
 have e1:(dCl l).one=true:=one_dCl l
 have w:IntKind.i64.wrap ((l.length:Int) - 1)=(l.length:Int) - 1:=wrap64 (by omega) (by omega)
 have n0:((0:Nat):Int)=0:=rfl
 simp only [EbkC,n0,Int.sub_zero] at hr
 simp only [a_167,sA,seval,kn,e1,ob,hlen,w,hr]
def fnBS (b:Nat):D:=.fn (.func n_185) [] [.ptr b 0]
theorem mkBS_run (l:List (Tx × Int)) (n:Nat) (σ:Store):T (n + 1) n_260 [dMs l] σ=some (.ret ⟨false,fnBS σ.next⟩,GAb σ t_144 (dMs l)):=by
 rw [T_fun (af:=a_168) rfl rfl]
 have e1:(dMs l).one=true:=one_dMs l
 have hg:∀ e,memOp (.gbox t_144 (.tmp 0)) {slots:=(0,⟨false,dMs l⟩) :: e,locs:=[],boxes:=[],defers:=[]} σ=some (.ptr σ.next 0,GAb σ t_144 (dMs l)):=fun e=>by
  cases l <;> rfl
 simp only [a_168,sA,seval,kn,e1,memE,hg,fnBS]
def EbkS (b c:Nat) (l:List (Tx × Int)) (m:Nat):Env:={slots:=[(0,⟨false,.yld c⟩),(1,⟨false,.ptr b 0⟩),(3,⟨false,.int .i64 ((l.length:Int) - 1 - (m:Nat))⟩)],locs:=[],boxes:=[],defers:=[]}
theorem bkS_step {C:CallF} {n:Nat} (b c:Nat) (l:List (Tx × Int)) (m:Nat) (h:m < l.length) (hl:l.length≤1000) (σ σ':Store) (hb:aget σ.objs b=some [⟨false,dMs l⟩]) (h1:C (yldBase + c) [.int .i64 ((l.length - 1 - m:Nat):Int),dMe (l[l.length - 1 - m]'(by omega))] σ=some (.ret ⟨false,.bool true⟩,σ')):exec C n none a_94 (EbkS b c l m) σ=some (.normal,EbkS b c l (m + 1),σ'):=by
 have hy:=idx_Me l (l.length - 1 - m) (by omega)
 have hz:(l.length:Int) - 1 - (m:Nat)=((l.length - 1 - m:Nat):Int):=by omega
 have hp:(0:Int)≤((l.length - 1 - m:Nat):Int):=by omega
 have hp2:((l.length - 1 - m:Nat):Int) ≥ 0:=by omega
 have w:IntKind.i64.wrap (((l.length - 1 - m:Nat):Int) - 1)=(l.length:Int) - 1 - ((m + 1:Nat):Int):=by rw [wrap64 (by omega) (by omega)]; omega
 have hfn:D.fn? (.yld c)=some (yldBase + c,[],[]):=rfl
 have e1:(dMs l).one=true:=one_dMs l
 unfold EbkS
 rw [hz]
 generalize l[l.length - 1 - m]'(by omega)=x at *
 simp only [dMe] at hy h1
 simp only [a_94,sA,seval,kn,e1,hp,hp2,natI,hy,hb,hfn,h1,w]
theorem bkS_end {C:CallF} {n:Nat} (b c:Nat) (l:List (Tx × Int)) (σ:Store):exec C n none a_94 (EbkS b c l l.length) σ=some (.exit 0,{slots:=[(0,⟨false,.yld c⟩),(1,⟨false,.ptr b 0⟩),(3,⟨false,.int .i64 (-1)⟩),(8,⟨false,.bool false⟩)],locs:=[],boxes:=[],defers:=[]},σ):=by
 have hz:(l.length:Int) - 1 - (l.length:Nat)=-1:=by omega
 have hp:¬ ((-1:Int) ≥ 0):=by omega
 unfold EbkS
 rw [hz]
 simp only [a_94,sA,seval,kn,hp]
theorem backS_run {J:Nat→Store→Prop} {b c:Nat} (l:List (Tx × Int)) (hl:l.length≤1000) (N:Nat) (hN:1001≤N) (hb:∀ m σ,J m σ→aget σ.objs b=some [⟨false,dMs l⟩])
  (hs:∀ m σ (h:m < l.length),J m σ→∃ σ',T N (yldBase + c) [.int .i64 ((l.length - 1 - m:Nat):Int),dMe (l[l.length - 1 - m]'(by omega))] σ=some (.ret ⟨false,.bool true⟩,σ')∧J (m + 1) σ') (σ:Store) (h0:J 0 σ):∃ σ',T (N + 1) n_185 [.yld c,.ptr b 0] σ=some (.ret ⟨false,.tup []⟩,σ')∧J l.length σ':=by
 obtain ⟨r,hr,σ',rfl,hw⟩:=loopN_inv (body:=exec (T N) N none a_94)
  (fun m e σ=>e=EbkS b c l m∧J m σ)
  (fun r=>∃ σ',r=(.exit 0,{slots:=[(0,⟨false,.yld c⟩),(1,⟨false,.ptr b 0⟩),(3,⟨false,.int .i64 (-1)⟩),(8,⟨false,.bool false⟩)],locs:=[],boxes:=[],defers:=[]},σ')∧J l.length σ') l.length
  (fun m e σ hi ⟨he,hw⟩=>by
   subst he
   obtain ⟨σ',h1,h2⟩:=hs m σ hi hw
   exact ⟨_,_,bkS_step b c l m hi hl σ σ' (hb m σ hw) h1,rfl,h2⟩)
  (fun e σ ⟨he,hw⟩=>by
   subst he
   exact ⟨_,bkS_end b c l σ,fun _ _ h=>(by cases h),σ,rfl,hw⟩) 0 N (EbkS b c l 0) σ (by omega) (by omega) ⟨rfl,h0⟩
 refine ⟨σ',?_,hw⟩
 rw [T_fun (af:=a_169) rfl rfl]
 have ob:=hb 0 σ h0
 have hlen:lenOf (dMs l)=some l.length:=len_Me l
 have e1:(dMs l).one=true:=one_dMs l
 have w:IntKind.i64.wrap ((l.length:Int) - 1)=(l.length:Int) - 1:=wrap64 (by omega) (by omega)
 have n0:((0:Nat):Int)=0:=rfl
 simp only [EbkS,n0,Int.sub_zero] at hr
 simp only [a_169,sA,seval,kn,e1,ob,hlen,w,hr]
end Go.Fu
namespace Go.Fu
open Go Go.Mx
set_option maxRecDepth 10000
set_option maxHeartbeats 4000000
theorem ok_dCs (x:Cs):(dCs x).ok=true:=by
 have e1:=one_dSs x.sups
 have e2:=one_dMs x.mets
 simp only [dCs,cCs,D.ok,List.all_cons,e1,e2,List.all_nil,Bool.and_true]
 try rfl
theorem esC_snoc (es:List (Tx × Cs × Nat)) (s:Tx) (x:Cs) (k:Nat):esC es ++ [(.str s,dCs x,k)]=esC (es ++ [(s,x,k)]):=by simp [esC]
theorem esC_set (es:List (Tx × Cs × Nat)) (s:Tx) (x:Cs) (k j:Nat):(esC es).set j (.str s,dCs x,k)=esC (es.set j (s,x,k)):=by simp [esC,List.map_set]
def KM (l:List (Tx × D × Nat)):List (D × D × Nat):=l.map fun x=>(.str x.1,x.2.1,x.2.2)
theorem KM_snoc (l:List (Tx × D × Nat)) (s:Tx) (x:D) (k:Nat):KM l ++ [(.str s,x,k)]=KM (l ++ [(s,x,k)]):=by simp [KM]
theorem KM_set (l:List (Tx × D × Nat)) (s:Tx) (x:D) (k j:Nat):(KM l).set j (.str s,x,k)=KM (l.set j (s,x,k)):=by simp [KM,List.map_set]
theorem findKM (s:Tx):∀ l:List (Tx × D × Nat),∃ r,findM (.str s) (KM l)=some r
 | []=>⟨_,rfl⟩
 | (k,c,b) :: r=>by
  cases hk:s == k with
  | true =>
   refine ⟨some (c,b,0),?_⟩
   simp only [KM,List.map_cons,findM,sameD,bindO,caseO_some,hk,ifB_true]
  | false =>
   obtain ⟨q,hq⟩:=findKM s r
   simp only [KM] at hq
   cases q with
   | none=>exact ⟨none,by simp only [KM,List.map_cons,findM,sameD,bindO,caseO_some,hk,ifB_false,hq,caseO_none]⟩
   | some v=>exact ⟨some (v.1,v.2.1,v.2.2 + 1),by simp only [KM,List.map_cons,findM,sameD,bindO,caseO_some,hk,ifB_false,hq]⟩
def asg0:ACode:=.region [⟨(some 6),.alloc [.str [],.int .i64 0,.str [],.nils,.nils,.nils],none⟩,⟨none,.store 6 (.tmp 6) (.tmp 25),none⟩] none [1,3,23,24,25]
def RC0 (pb b:Nat):LRec:={slots:=[(4,⟨false,.ptr pb 0⟩),(23,⟨false,fnBC b⟩)],params:=[24,25],assign:=asg0,body:=a_114,st:=.ready}
structure N0 (σ0:Store) (mc c:Nat) (R:LRec) (cs:List Cs) (i:Nat) (σ:Store):Prop where
 objs:σ.objs=σ0.objs
 tys:σ.tys=σ0.tys
 nx:σ.next=σ0.next
 rl:aget σ.oth c=some (.loop R)
 mp:∃ es k0,aget σ.oth mc=some (.map (esC es) k0)∧es.length≤i∧∀ y∈es,y.2.1∈cs
 ot:∀ j,j≠c→j≠mc→aget σ.oth j=aget σ0.oth j
theorem n0_step {σ0 σ:Store} {pb b p mc mm c i:Nat} {ins:D} {cs:List Cs} (hc:c≠mc) (h1:aget σ0.objs pb=some [⟨false,.ptr p 0⟩]) (h2:aget σ0.objs p=some [⟨false,.map mc⟩,⟨false,.map mm⟩,⟨false,ins⟩]) (h:N0 σ0 mc c (RC0 pb b) cs i σ) (x:Cs) (hx:x∈cs) (a:Int) (N:Nat) :
  ∃ σ',T (N + 1) (yldBase + c) [.int .i64 a,dCs x] σ=some (.ret ⟨false,.bool true⟩,σ')∧N0 σ0 mc c (RC0 pb b) cs (i + 1) σ':=by
 obtain ⟨es,k0,hm,hl,hmem⟩:=h.mp
 have ha:exec (T N) N (some c) asg0 {slots:=putArgs [24,25] [.int .i64 a,dCs x] (RC0 pb b).slots,locs:=[],boxes:=[],defers:=[]} σ=some (.normal,{slots:=[(4,⟨false,.ptr pb 0⟩)],locs:=[(6,6,0)],boxes:=[(6,(cCs x).map Cell.of)],defers:=[]},σ):=by
  have e1:=one_dSs x.sups
  have e2:=one_dMs x.mets
  simp only [asg0,RC0,putArgs,dCs,cCs,sA,seval,kn,e1,e2]
  try rfl
 generalize hs1:setLoop σ c (RC0 pb b) .busy=σ1
 have o1:aget σ1.objs pb=some [⟨false,.ptr p 0⟩]:=by rw [← hs1]; show aget σ.objs pb=_; rw [h.objs]; exact h1
 have o2:aget σ1.objs p=some [⟨false,.map mc⟩,⟨false,.map mm⟩,⟨false,ins⟩]:=by rw [← hs1]; show aget σ.objs p=_; rw [h.objs]; exact h2
 have om:aget σ1.oth mc=some (.map (esC es) k0):=by rw [← hs1]; exact (agB _ _ hc).trans hm
 have oc:aget σ1.oth c=some (.loop (busy (RC0 pb b))):=by rw [← hs1]; exact agA _ _ _
 have hat:mapAt σ1.oth (.map mc)=some (mc,esC es,k0):=by simp only [mapAt,om,bindO,caseO_some]
 have hkd:keyD true (.str x.name)=true:=rfl
 obtain ⟨v,hv,hv1⟩:∃ v,(∃ es' k',v=.map (esC es') k'∧es'.length≤i + 1∧∀ y∈es',y.2.1∈cs)∧exec (T N) N (some c) a_114 {slots:=[(4,⟨false,.ptr pb 0⟩)],locs:=[(6,6,0)],boxes:=[(6,(cCs x).map Cell.of)],defers:=[]} σ1=some (.normal,{slots:=[],locs:=[],boxes:=[],defers:=[]},{σ1 with oth:=aset σ1.oth mc v}):=by
  have e0:=ok_dCs x
  have e1:=one_dSs x.sups
  have e2:=one_dMs x.mets
  rcases findC x.name es with ⟨f1,_⟩ | ⟨c',b',j,f1,_,_⟩
  ·refine ⟨.map (esC (es ++ [(x.name,x,k0)])) (k0 + 1),⟨_,_,rfl,by simp; omega,fun y hy=>?_⟩,?_⟩
   ·rcases List.mem_append.1 hy with hy | hy
    ·exact hmem y hy
    ·rw [List.mem_singleton.1 hy]; exact hx
   ·rw [← esC_snoc]
    simp only [dCs,cCs] at e0 ⊢
    simp only [a_114,cCs,dCs,List.map_cons,List.map_nil,Cell.of,sA,seval,kn,memE,memOp,o1,o2,hat,hkd,e0,e1,e2,f1]
  ·refine ⟨.map (esC (es.set j (x.name,x,b'))) k0,⟨_,_,rfl,by simp; omega,fun y hy=>?_⟩,?_⟩
   ·rcases List.mem_or_eq_of_mem_set hy with hy | hy
    ·exact hmem y hy
    ·rw [hy]; exact hx
   ·rw [← esC_set]
    simp only [dCs,cCs] at e0 f1 ⊢
    simp only [a_114,cCs,dCs,List.map_cons,List.map_nil,Cell.of,sA,seval,kn,memE,memOp,o1,o2,hat,hkd,e0,e1,e2,f1]
 have h3:aget (aset σ1.oth mc v) c=some (.loop (busy (RC0 pb b))):=(agB _ _ (Ne.symm hc)).trans oc
 refine ⟨_,yld_round (r:=RC0 pb b) rfl rfl h.rl ha h.rl (by rw [hs1]; exact hv1) h3,?_,?_,?_,setLoop_ready rfl,?_,fun j hj1 hj2=>?_⟩
 ·show σ1.objs=_
  rw [← hs1]; exact h.objs
 ·show σ1.tys=_
  rw [← hs1]; exact h.tys
 ·show σ1.next=_
  rw [← hs1]; exact h.nx
 ·obtain ⟨es',k',hv2,hv3,hv4⟩:=hv
  refine ⟨es',k',?_,hv3,hv4⟩
  refine (agB _ _ hc).trans ?_
  rw [← hv2]
  exact agA _ _ _
 ·refine (agB _ _ (Ne.symm hj1)).trans ((agB _ _ (Ne.symm hj2)).trans ?_)
  rw [← hs1]
  exact (agB _ _ (Ne.symm hj1)).trans (h.ot j hj1 hj2)
def asg1:ACode:=.seq (.region [⟨(some 9),.mov (.tmp 41),none⟩] none [40,41]) (.region [⟨(some 10),.alloc [.str [],.int .i64 0,.nils,.nils,.nils,.int .i64 0,.int .i64 0,.str [],.nils],none⟩,⟨none,.store 9 (.tmp 10) (.tmp 42),none⟩] none [42])
def RC1 (pb id b:Nat):LRec:={slots:=[(4,⟨false,.ptr pb 0⟩),(8,⟨false,.ptr id 0⟩),(40,⟨false,fnBS b⟩)],params:=[41,42],assign:=asg1,body:=a_115,st:=.ready}
structure N1 (σ0:Store) (mm c:Nat) (R:LRec) (σ:Store):Prop where
 objs:σ.objs=σ0.objs
 tys:σ.tys=σ0.tys
 nx:σ.next=σ0.next
 rl:aget σ.oth c=some (.loop R)
 mp:∃ l k0,aget σ.oth mm=some (.map (KM l) k0)
 ot:∀ j,j≠c→j≠mm→aget σ.oth j=aget σ0.oth j
theorem n1_step {σ0 σ:Store} {pb id b p mc mm c:Nat} {ins:D} {x:Cs} (hc:c≠mm) (h1:aget σ0.objs pb=some [⟨false,.ptr p 0⟩]) (h2:aget σ0.objs p=some [⟨false,.map mc⟩,⟨false,.map mm⟩,⟨false,ins⟩]) (h3:aget σ0.objs id=some ((cCs x).map Cell.of)) (h:N1 σ0 mm c (RC1 pb id b) σ) (y:Tx × Int) (a:Int) (N:Nat) :
  ∃ σ',T (N + 1) (yldBase + c) [.int .i64 a,dMe y] σ=some (.ret ⟨false,.bool true⟩,σ')∧N1 σ0 mm c (RC1 pb id b) σ':=by
 obtain ⟨l,k0,hm⟩:=h.mp
 have ha:exec (T N) N (some c) asg1 {slots:=putArgs [41,42] [.int .i64 a,dMe y] (RC1 pb id b).slots,locs:=[],boxes:=[],defers:=[]} σ=some (.normal,{slots:=[(4,⟨false,.ptr pb 0⟩),(8,⟨false,.ptr id 0⟩),(9,⟨false,.int .i64 a⟩)],locs:=[(10,10,0)],boxes:=[(10,[⟨false,.str y.1⟩,⟨false,.int .i64 y.2⟩,⟨false,.nils⟩,⟨false,.nils⟩,⟨false,.nils⟩,⟨false,.int .i64 0⟩,⟨false,.int .i64 0⟩,⟨false,.str []⟩,⟨false,.nils⟩])],defers:=[]},σ):=by
  simp only [asg1,RC1,putArgs,dMe,sA,seval,kn]
 generalize hs1:setLoop σ c (RC1 pb id b) .busy=σ1
 have o1:aget σ1.objs pb=some [⟨false,.ptr p 0⟩]:=by rw [← hs1]; show aget σ.objs pb=_; rw [h.objs]; exact h1
 have o2:aget σ1.objs p=some [⟨false,.map mc⟩,⟨false,.map mm⟩,⟨false,ins⟩]:=by rw [← hs1]; show aget σ.objs p=_; rw [h.objs]; exact h2
 have o3:aget σ1.objs id=some ((cCs x).map Cell.of):=by rw [← hs1]; show aget σ.objs id=_; rw [h.objs]; exact h3
 have om:aget σ1.oth mm=some (.map (KM l) k0):=by rw [← hs1]; exact (agB _ _ hc).trans hm
 have oc:aget σ1.oth c=some (.loop (busy (RC1 pb id b))):=by rw [← hs1]; exact agA _ _ _
 have hat:mapAt σ1.oth (.map mm)=some (mm,KM l,k0):=by simp only [mapAt,om,bindO,caseO_some]
 have hkd:keyD true (.str y.1)=true:=rfl
 obtain ⟨v,hv,hv1⟩:∃ v,(∃ l' k',v=.map (KM l') k')∧exec (T N) N (some c) a_115 {slots:=[(4,⟨false,.ptr pb 0⟩),(8,⟨false,.ptr id 0⟩),(9,⟨false,.int .i64 a⟩)],locs:=[(10,10,0)],boxes:=[(10,[⟨false,.str y.1⟩,⟨false,.int .i64 y.2⟩,⟨false,.nils⟩,⟨false,.nils⟩,⟨false,.nils⟩,⟨false,.int .i64 0⟩,⟨false,.int .i64 0⟩,⟨false,.str []⟩,⟨false,.nils⟩])],defers:=[]} σ1=some (.normal,{slots:=[],locs:=[],boxes:=[],defers:=[]},{σ1 with oth:=aset σ1.oth mm v}):=by
  simp only [cCs,List.map_cons,List.map_nil,Cell.of] at o3
  obtain ⟨r,f1⟩:=findKM y.1 l
  cases r with
  | none =>
   refine ⟨.map (KM (l ++ [(y.1,.agg [.str x.name,.int .i64 a],k0)])) (k0 + 1),⟨_,_,rfl⟩,?_⟩
   rw [← KM_snoc]
   simp only [a_115,sA,seval,kn,memE,memOp,o1,o2,o3,hat,hkd,f1]
  | some q =>
   refine ⟨.map (KM (l.set q.2.2 (y.1,.agg [.str x.name,.int .i64 a],q.2.1))) k0,⟨_,_,rfl⟩,?_⟩
   rw [← KM_set]
   simp only [a_115,sA,seval,kn,memE,memOp,o1,o2,o3,hat,hkd,f1]
 have h3:aget (aset σ1.oth mm v) c=some (.loop (busy (RC1 pb id b))):=(agB _ _ (Ne.symm hc)).trans oc
 refine ⟨_,yld_round (r:=RC1 pb id b) rfl rfl h.rl ha h.rl (by rw [hs1]; exact hv1) h3,?_,?_,?_,setLoop_ready rfl,?_,fun j hj1 hj2=>?_⟩
 ·show σ1.objs=_
  rw [← hs1]; exact h.objs
 ·show σ1.tys=_
  rw [← hs1]; exact h.tys
 ·show σ1.next=_
  rw [← hs1]; exact h.nx
 ·obtain ⟨es',k',hv2⟩:=hv
  refine ⟨es',k',?_⟩
  refine (agB _ _ hc).trans ?_
  rw [← hv2]
  exact agA _ _ _
 ·refine (agB _ _ (Ne.symm hj1)).trans ((agB _ _ (Ne.symm hj2)).trans ?_)
  rw [← hs1]
  exact (agB _ _ (Ne.symm hj1)).trans (h.ot j hj1 hj2)
end Go.Fu
namespace Go.Fu
open Go Go.Mx
set_option maxRecDepth 10000
set_option maxHeartbeats 4000000
def asg2:ACode:=.region [⟨(some 8),.galloc t_212 [.str [],.int .i64 0,.str [],.nils,.nils,.nils],none⟩,⟨none,.store 6 (.tmp 8) (.tmp 37),none⟩] none [1,3,35,36,37]
def RC2 (pb b:Nat):LRec:={slots:=[(4,⟨false,.ptr pb 0⟩),(35,⟨false,fnBC b⟩)],params:=[36,37],assign:=asg2,body:=a_148,st:=.ready}
structure N2 (m0:Nat) (σ0:Store) (mm c:Nat) (R:LRec) (σ:Store):Prop where
 fr:∀ j,j < m0→aget σ.objs j=aget σ0.objs j
 ft:∀ j,j < m0→aget σ.tys j=aget σ0.tys j
 le:m0≤σ.next
 rl:aget σ.oth c=some (.loop R)
 mp:∃ l k0,aget σ.oth mm=some (.map (KM l) k0)
 ot:∀ j,j < m0→j≠c→j≠mm→aget σ.oth j=aget σ0.oth j
def GC (σ:Store) (x:Cs):Store:={objs:=aset ((σ.next,[⟨false,.str []⟩,⟨false,.int .i64 0⟩,⟨false,.str []⟩,⟨false,.nils⟩,⟨false,.nils⟩,⟨false,.nils⟩]) :: σ.objs) σ.next ((cCs x).map Cell.of),tys:=(σ.next,⟨t_212,0⟩) :: σ.tys,oth:=σ.oth,next:=σ.next + 1}
theorem adel_other {α:Type} {k j:Nat} (l:List (Nat × α)) (h:k≠j):aget (adel1 l k) j=aget l j:=by rw [aget_adel1,if_neg h]
theorem n2_step {m0:Nat} {σ0 σ:Store} {pb b p mc mm c:Nat} {ins:D} (hc:c≠mm) (hcm:c < m0) (hmm:mm < m0) (hpb:pb < m0) (hp:p < m0) (h1:aget σ0.objs pb=some [⟨false,.ptr p 0⟩]) (h2:aget σ0.objs p=some [⟨false,.map mc⟩,⟨false,.map mm⟩,⟨false,ins⟩]) (h:N2 m0 σ0 mm c (RC2 pb b) σ) (x:Cs) (hx:x.mets.length≤1000) (a:Int) (N:Nat) (hN:1001≤N) :
  ∃ σ',T (N + 3) (yldBase + c) [.int .i64 a,dCs x] σ=some (.ret ⟨false,.bool true⟩,σ')∧N2 m0 σ0 mm c (RC2 pb b) σ':=by
 have hle:=h.le
 have ha:exec (T (N + 2)) (N + 2) (some c) asg2 {slots:=putArgs [36,37] [.int .i64 a,dCs x] (RC2 pb b).slots,locs:=[],boxes:=[],defers:=[]} σ=some (.normal,{slots:=[(4,⟨false,.ptr pb 0⟩),(8,⟨false,.ptr σ.next 0⟩)],locs:=[],boxes:=[],defers:=[]},GC σ x):=by
  have e1:=one_dSs x.sups
  have e2:=one_dMs x.mets
  have hag:aget ((σ.next,[(⟨false,.str []⟩:Cell),⟨false,.int .i64 0⟩,⟨false,.str []⟩,⟨false,.nils⟩,⟨false,.nils⟩,⟨false,.nils⟩]) :: σ.objs) σ.next=_:=agS _ _ _
  simp only [asg2,RC2,putArgs,dCs,cCs,sA,seval,kn,memE,memOp,e1,e2,hag,GC,List.map_cons,List.map_nil,Cell.of]
 have hga:(GC σ x).oth=σ.oth:=rfl
 have hgn:(GC σ x).next=σ.next + 1:=rfl
 have hgo:aget (GC σ x).objs σ.next=some ((cCs x).map Cell.of):=agA _ _ _
 have hgf:∀ j,j < m0→aget (GC σ x).objs j=aget σ.objs j:=fun j hj=>(agB _ _ (by omega)).trans (agC _ _ (by omega))
 have hgt:∀ j,j < m0→aget (GC σ x).tys j=aget σ.tys j:=fun j hj=>agC _ _ (by omega)
 generalize GC σ x=σa at *
 generalize hs1:setLoop σa c (RC2 pb b) .busy=σ1
 have n1:σ1.next=σ.next + 1:=by rw [← hs1]; exact hgn
 have q1:σ1.objs=σa.objs:=by rw [← hs1]; rfl
 have t1:σ1.tys=σa.tys:=by rw [← hs1]; rfl
 have oc1:aget σ1.oth c=some (.loop (busy (RC2 pb b))):=by rw [← hs1]; exact agA _ _ _
 have oo1:∀ j,j≠c→aget σ1.oth j=aget σ.oth j:=fun j hj=>by rw [← hs1,← hga]; exact agB _ _ (Ne.symm hj)
 generalize hs2:GAb σ1 t_144 (dMs x.mets)=σ2
 have n2:σ2.next=σ.next + 2:=by rw [← hs2]; show σ1.next + 1=_; omega
 have hB:=mkBS_run x.mets (N + 1) σ1
 rw [hs2,n1] at hB
 have ob2:aget σ2.objs (σ.next + 1)=some [⟨false,dMs x.mets⟩]:=by rw [← hs2,← n1]; exact agS _ _ _
 have q2:∀ j,j < σ.next + 1→aget σ2.objs j=aget σa.objs j:=fun j hj=>by rw [← hs2,← q1]; exact agC _ _ (by omega)
 have t2:∀ j,j < σ.next + 1→aget σ2.tys j=aget σa.tys j:=fun j hj=>by rw [← hs2,← t1]; exact agC _ _ (by omega)
 have oo2:σ2.oth=σ1.oth:=by rw [← hs2]; rfl
 obtain ⟨l,k0,hm⟩:=h.mp
 have hR1:RC1 pb σ.next (σ.next + 1)=RC1 pb σ.next (σ.next + 1):=rfl
 generalize hs3:({objs:=σ2.objs,tys:=σ2.tys,oth:=(σ2.next,.loop (RC1 pb σ.next (σ.next + 1))) :: σ2.oth,next:=σ2.next + 1}:Store)=σ3
 have o3:σ3.objs=σ2.objs:=by rw [← hs3]
 have n3:σ3.next=σ.next + 3:=by rw [← hs3]; show σ2.next + 1=_; omega
 have oc3:aget σ3.oth (σ.next + 2)=some (.loop (RC1 pb σ.next (σ.next + 1))):=by rw [← hs3,← n2]; exact agS _ _ _
 have oo3:∀ j,j≠σ.next + 2→aget σ3.oth j=aget σ1.oth j:=fun j hj=>by rw [← hs3,← oo2]; exact agC _ _ (by rw [n2]; exact Ne.symm hj)
 have hJ:N1 σ3 mm (σ.next + 2) (RC1 pb σ.next (σ.next + 1)) σ3:=⟨rfl,rfl,rfl,oc3,⟨l,k0,by rw [oo3 mm (by omega),oo1 mm (Ne.symm hc)]; exact hm⟩,fun _ _ _=>rfl⟩
 have w1:aget σ3.objs pb=some [⟨false,.ptr p 0⟩]:=by rw [o3,q2 pb (by omega),hgf pb hpb,h.fr pb hpb]; exact h1
 have w2:aget σ3.objs p=some [⟨false,.map mc⟩,⟨false,.map mm⟩,⟨false,ins⟩]:=by rw [o3,q2 p (by omega),hgf p hp,h.fr p hp]; exact h2
 have w3:aget σ3.objs σ.next=some ((cCs x).map Cell.of):=by rw [o3,q2 σ.next (by omega)]; exact hgo
 have w4:aget σ3.objs (σ.next + 1)=some [⟨false,dMs x.mets⟩]:=by rw [o3]; exact ob2
 obtain ⟨σ4,hbk,h4⟩:=backS_run (J:=fun _ τ=>N1 σ3 mm (σ.next + 2) (RC1 pb σ.next (σ.next + 1)) τ) (b:=σ.next + 1) (c:=σ.next + 2) x.mets hx (N + 1) (by omega) (fun _ τ hτ=>by
  rw [hτ.objs]; exact w4) (fun m τ hm hτ=>n1_step (x:=x) (by omega) w1 w2 w3 hτ (x.mets[x.mets.length - 1 - m]'(by omega)) ((x.mets.length - 1 - m:Nat):Int) N) σ3 hJ
 generalize hs5:({objs:=σ4.objs,tys:=σ4.tys,oth:=adel1 σ4.oth (σ.next + 2),next:=σ4.next}:Store)=σ5
 have he:∀ e:Env,endLoop (σ.next + 2) e σ4=some (.normal,e,σ5):=fun e=>by
  have l4:loopAt σ4 (σ.next + 2)=some (RC1 pb σ.next (σ.next + 1)):=by simp only [loopAt,h4.rl,bindO,caseO_some]
  rw [← hs5]
  simp only [endLoop,l4,bindO,caseO_some]
  rfl
 have o5:∀ j,j < m0→j≠c→j≠mm→aget σ5.oth j=aget σ.oth j:=fun j hj h1 h2=>by
  rw [← hs5]
  show aget (adel1 σ4.oth (σ.next + 2)) j=_
  rw [adel_other _ (by omega),h4.ot j (by omega) h2,oo3 j (by omega),oo1 j h1]
 have oc5:aget σ5.oth c=some (.loop (busy (RC2 pb b))):=by
  rw [← hs5]
  show aget (adel1 σ4.oth (σ.next + 2)) c=_
  rw [adel_other _ (by omega),h4.ot c (by omega) hc,oo3 c (by omega)]
  exact oc1
 have h3e:∀ e,enterLoop (some c) (RC1 pb σ.next (σ.next + 1)) e σ2=some (σ.next + 2,e,σ3):=fun e=>by
  have l2:loopAt σ2 c=some (busy (RC2 pb b)):=by simp only [loopAt,oo2,oc1,bindO,caseO_some]
  simp only [enterLoop,l2,bindO,caseO_some]
  rw [n2] at hs3
  rw [n2,hs3]
 have hv:aget σ1.objs σ.next=some ((cCs x).map Cell.of):=by rw [q1]; exact hgo
 have hfn:D.fnF? (fnBS (σ.next + 1))=some (n_185,[],[.ptr (σ.next + 1) 0]):=rfl
 have hb:exec (T (N + 2)) (N + 2) (some c) a_148 {slots:=[(4,⟨false,.ptr pb 0⟩),(8,⟨false,.ptr σ.next 0⟩)],locs:=[],boxes:=[],defers:=[]} σ1=some (.normal,{slots:=[(4,⟨false,.ptr pb 0⟩),(8,⟨false,.ptr σ.next 0⟩),(40,⟨false,fnBS (σ.next + 1)⟩)],locs:=[],boxes:=[],defers:=[]},σ5):=by
  have e2:=one_dMs x.mets
  simp only [cCs,List.map_cons,List.map_nil,Cell.of] at hv
  simp only [RC1,asg1] at h3e
  simp only [a_148,sA,seval,kn,hv,e2,hB,exec_rangeF,snap,hfn,h3e,hbk,rangeX_ret,he]
 refine ⟨_,yld_round (r:=RC2 pb b) rfl rfl h.rl ha (by rw [hga]; exact h.rl) (by rw [hs1]; exact hb) oc5,?_,?_,?_,setLoop_ready rfl,?_,?_⟩
 ·intro j hj
  show aget σ5.objs j=_
  rw [← hs5]
  show aget σ4.objs j=_
  rw [h4.objs,o3,q2 j (by omega),hgf j hj]
  exact h.fr j hj
 ·intro j hj
  show aget σ5.tys j=_
  rw [← hs5]
  show aget σ4.tys j=_
  rw [h4.tys,← hs3]
  show aget σ2.tys j=_
  rw [t2 j (by omega),hgt j hj]
  exact h.ft j hj
 ·show m0≤σ5.next
  rw [← hs5]
  show m0≤σ4.next
  rw [h4.nx]
  omega
 ·obtain ⟨l',k',hm'⟩:=h4.mp
  refine ⟨l',k',(agB _ _ hc).trans ?_⟩
  rw [← hs5]
  show aget (adel1 σ4.oth (σ.next + 2)) mm=_
  rw [adel_other _ (by omega)]
  exact hm'
 ·intro j hj h1 h2
  exact (agB _ _ (Ne.symm h1)).trans ((o5 j hj h1 h2).trans (h.ot j hj h1 h2))
end Go.Fu
namespace Go.Fu
open Go Go.Mx
set_option maxRecDepth 10000
set_option maxHeartbeats 4000000
theorem cloneN_run:Evly fun n=>∀ (l:List In) σ,l.length < 1000→∃ o,T n n_261 [dIl l] σ=some (.ret ⟨o,dIl l⟩,σ):=any _ fun n l σ hl=>by
 rw [T_fun (af:=a_121) rfl rfl]
 cases l with
 | nil=>exact ⟨false,by simp only [a_121,sA,seval,kn,dIl,List.map_nil,dlist,D.isNilS?]⟩
 | cons x r =>
  refine ⟨true,?_⟩
  have hok:∀ y:In,(dIn y).ok=true:=fun y=>by
   have e1:=one_dSs y.vars
   have e2:=one_dPs y.preds
   simp only [dIn,cIn,D.ok,List.all_cons,e1,e2,List.all_nil,Bool.and_true]
   try rfl
  have ha:appendD k_12 112 ⟨true,.list k_12 []⟩ ((x :: r).map dIn)=some ⟨true,dIl (x :: r)⟩:=by
   have hs:allSize k_12.sz ((x :: r).map dIn)=true:=by
    generalize x :: r=L
    induction L with
    | nil=>rfl
    | cons y L ih =>
     simp only [List.map_cons,allSize,ih,hok,Bool.and_true,Bool.true_and]
     rfl
   have hm:mayAppend k_12 ⟨true,.list k_12 []⟩=true:=rfl
   have hb1:(0 + ((x :: r).map dIn).length) * 112≤bound:=by simp [bound]; simp at hl; omega
   have hb2:0 + ((x :: r).map dIn).length≤bound:=by simp [bound]; simp at hl; omega
   simp only [appendD,asList,bindO,caseO_some,hm,hs,List.length_nil,hb1,hb2,decide_true,Bool.and_self,ifB_true,joined,List.nil_append]
   rfl
  have hi:(dIl (x :: r)).isNilS?=some false:=rfl
  have hal:asList (dIl (x :: r))=some ((x :: r).map dIn):=rfl
  have e1:=one_dIl (x :: r)
  generalize ((x :: r).map dIn)=L at *
  generalize dIl (x :: r)=d at *
  simp only [a_121,sA,seval,kn,hi,hal,ha,e1]
def E3 (pb:Nat) (ds:List (FuncId × List D)) (out:List (Int × Int)) (i:Nat) (a b:Int):Env:={slots:=[(4,⟨false,.ptr pb 0⟩),(56,⟨ow out.length,dAts out⟩),(57,⟨false,.int .i64 out.length⟩),(58,⟨false,.int .i64 i⟩)],locs:=[(3,3,0),(11,11,0)],boxes:=[(3,[⟨false,.int .i64 0⟩,⟨false,.int .i64 0⟩]),(11,[⟨false,.int .i64 a⟩,⟨false,.int .i64 b⟩])],defers:=ds}
theorem len_At (l:List (Int × Int)):lenOf (dAts l)=some l.length:=by simp only [dAts,lenOf_dlist,List.length_map]
theorem idx_At (l:List (Int × Int)) (i:Nat) (h:i < l.length):indexD 2 (dAts l) i=some (.eptr (dAt l[i])):=idx_map rfl _ _ _ h
theorem l3_step {C:CallF} {n:Nat} (pb:Nat) (ds:List (FuncId × List D)) (out:List (Int × Int)) (i:Nat) (hi:i < out.length) (hl:out.length < 100000) (a b:Int) (σ:Store):∃ a' b',exec C n none a_39 (E3 pb ds out i a b) σ=some (.normal,E3 pb ds out (i + 1) a' b',σ):=by
 have hlt:((i:Int) < (out.length:Int)):=by omega
 have hx:=idx_At out i hi
 have w1:=wrap64_succ (i:=i) (by omega)
 generalize out[i]=x at *
 simp only [dAt] at hx
 cases h0:a == 0 with
 | true=>exact ⟨x.1,x.2,by simp only [a_39,E3,sA,seval,kn,natI,hlt,hx,w1,h0]⟩
 | false =>
  by_cases h1:x.2 < b
  ·exact ⟨x.1,x.2,by simp only [a_39,E3,sA,seval,kn,natI,hlt,hx,w1,h0,h1]⟩
  ·exact ⟨a,b,by simp only [a_39,E3,sA,seval,kn,natI,hlt,hx,w1,h0,h1]⟩
theorem l3_end {C:CallF} {n:Nat} (pb:Nat) (ds:List (FuncId × List D)) (out:List (Int × Int)) (a b:Int) (σ:Store):exec C n none a_39 (E3 pb ds out out.length a b) σ=some (.exit 6,{E3 pb ds out out.length a b with slots:=[(4,⟨false,.ptr pb 0⟩),(56,⟨ow out.length,dAts out⟩),(57,⟨false,.int .i64 out.length⟩),(58,⟨false,.int .i64 out.length⟩),(59,⟨false,.bool false⟩)]},σ):=by
 have hlt:¬ ((out.length:Int) < (out.length:Int)):=by omega
 simp only [a_39,E3,sA,seval,kn,hlt]
theorem l3_run {m:Nat} (pb:Nat) (ds:List (FuncId × List D)) (out:List (Int × Int)) (hl:out.length < 100000) (σ:Store):∀ (r k i:Nat) (a b:Int),i + r=out.length→r < k→∃ a' b',loopN (exec (T m) m none a_39) k (E3 pb ds out i a b) σ=some (.exit 6,{E3 pb ds out out.length a' b' with slots:=[(4,⟨false,.ptr pb 0⟩),(56,⟨ow out.length,dAts out⟩),(57,⟨false,.int .i64 out.length⟩),(58,⟨false,.int .i64 out.length⟩),(59,⟨false,.bool false⟩)]},σ)
 | _,0,_,_,_,_,hk=>absurd hk (by omega)
 | 0,k + 1,i,a,b,hi,_=>by
  have:i=out.length:=by omega
  subst this
  exact ⟨a,b,loopN_stop (l3_end pb ds out a b σ)⟩
 | r + 1,k + 1,i,a,b,hi,hk=>by
  obtain ⟨a1,b1,h1⟩:=l3_step (C:=T m) (n:=m) pb ds out i (by omega) hl a b σ
  obtain ⟨a2,b2,h2⟩:=l3_run pb ds out hl σ r k (i + 1) a1 b1 (by omega) (by omega)
  exact ⟨a2,b2,loopN_next h1 h2⟩
end Go.Fu

/-
 The way up from a class to another.
-/
import Derived.Test.YtieacpoabejcoaaGreatDoorFsJ6
set_option maxHeartbeats 4000000
set_option linter.unusedSimpArgs false
set_option linter.unusedVariables false
set_option linter.unusedSectionVars false
namespace Go.Fu
open Go Go.Mx
set_option maxRecDepth 10000
set_option maxHeartbeats 4000000
def InvP (a b c:Nat) (s:Tx) (σ:Store):Prop:=aget σ.objs a=some [⟨false,.str s⟩]∧(∃ l,l.length < 1000∧aget σ.objs b=some [⟨false,dIs l⟩])∧∃ t:Bool,aget σ.objs c=some [⟨false,.bool t⟩]
theorem path1_run:∃ N,∀ (a b c m0:Nat) (s:Tx),a≠b→a≠c→b≠c→a < m0→b < m0→c < m0→SeeK n_193 [.ptr a 0,.ptr b 0,.ptr c 0] (fun j=>j=b∨j=c) (InvP a b c s) m0 N:=by
 refine ⟨1,fun a b c m0 s hab hac hbc ha hb hc=>⟨rfl,fun n hn w σ hwl hI=>?_,fun σ σ' h k=>?_,fun j h=>by rcases h with rfl | rfl <;> assumption⟩⟩
 ·obtain ⟨n,rfl⟩:∃ k,n=k + 1:=⟨n - 1,by omega⟩
  obtain ⟨h1,⟨l,hll,h2⟩,t,h3⟩:=hI
  rw [T_fun (af:=a_111) rfl rfl]
  have e1:=one_dIs w.path
  have e2:(dIs w.path).ok=true:=ok_dlist
  have e3:(dIs w.path).cells=[dIs w.path]:=cells_dlist
  cases hw:w.cls == s with
  | true =>
   have g3:aget (aset σ.objs b [⟨false,dIs w.path⟩]) c=some [⟨false,.bool t⟩]:=(agB _ _ hbc).trans h3
   refine ⟨false,{σ with objs:=aset (aset σ.objs b [⟨false,dIs w.path⟩]) c [⟨false,.bool true⟩]},?_,⟨?_,⟨w.path,hwl,?_⟩,true,agA _ _ _⟩,⟨Nat.le_refl _,fun j _ hx=>?_,fun _ _=>rfl,fun _ _=>rfl⟩⟩
   ·simp only [a_111,sA,seval,kn,dW,e1,e2,e3,h1,h2,g3,hw,agA]
   ·exact (agB _ _ (Ne.symm hac)).trans ((agB _ _ (Ne.symm hab)).trans h1)
   ·exact (agB _ _ (Ne.symm hbc)).trans (agA _ _ _)
   ·exact (agB _ _ (fun e=>hx (.inr e.symm))).trans (agB _ _ (fun e=>hx (.inl e.symm)))
  | false =>
   refine ⟨!t,σ,?_,⟨h1,⟨l,hll,h2⟩,t,h3⟩,Cg.refl _ _ _⟩
   simp only [a_111,sA,seval,kn,dW,e1,e2,e3,h1,h2,h3,hw]
 ·exact ⟨(k a ha).trans h.1,⟨h.2.1.choose,h.2.1.choose_spec.1,(k b hb).trans h.2.1.choose_spec.2⟩,h.2.2.choose,(k c hc).trans h.2.2.choose_spec⟩
theorem path_run:∃ N',∀ n,N'≤n→∀ (es:List (Tx × Cs × Nat)) (_:es.length < 500) (_:∀ y∈es,y.2.1.sups.length < 1000) (p mc mm:Nat) (ins:D) (k0:Nat) (s t:Tx) σ,p < σ.next→mc < σ.next→EV p mc mm ins es k0 σ →
  ∃ l b σ',l.length < 1000∧T n n_99 [.ptr p 0,.str s,.str t] σ=some (.ret ⟨false,.tup [dIs l,.bool b]⟩,σ')∧Cg (fun _=>False) σ.next σ σ'∧(s=t→s∈es.map Prod.fst→b=true):=by
 obtain ⟨N,hN⟩:=path1_run
 obtain ⟨N',hc⟩:=climb_run n_193 N
 refine ⟨N' + 1,fun n hn es hes hsz p mc mm ins k0 s t σ hp hmc hE=>?_⟩
 obtain ⟨m,rfl⟩:∃ m,n=m + 1:=⟨n - 1,by omega⟩
 have ho:=hE.obj
 have hma:mapOf σ.oth (.map mc)=some (esC es):=by simp only [mapOf,hE.map,bindO,caseO_some]
 have hkd:keyD true (.str s)=true:=rfl
 have hn0:dIs []=.nils:=rfl
 -- the text's object
 have obs:∀ j,j < σ.next→aget ((σ.next,[⟨false,.str t⟩]) :: σ.objs) j=aget σ.objs j:=fun j hj=>agC _ _ (by omega)
 have hop:aget ((σ.next,([⟨false,.str t⟩]:List Cell)) :: σ.objs) p=some [⟨false,.map mc⟩,⟨false,.map mm⟩,⟨false,ins⟩]:=(obs p hp).trans ho
 have hos:aget ((σ.next,([⟨false,.str t⟩]:List Cell)) :: σ.objs) σ.next=some [⟨false,.str t⟩]:=agS _ _ _
 generalize hs0:({objs:=(σ.next,[⟨false,.str t⟩]) :: σ.objs,tys:=(σ.next,⟨t_31,0⟩) :: σ.tys,oth:=σ.oth,next:=σ.next + 1}:Store)=σ0
 have xo0:σ0.objs=(σ.next,[⟨false,.str t⟩]) :: σ.objs:=by subst hs0; rfl
 have x0:σ0.next=σ.next + 1:=by subst hs0; rfl
 have ot0:σ0.oth=σ.oth:=by subst hs0; rfl
 have g0:Cg (fun _=>False) σ.next σ σ0:=by
  subst hs0
  exact ⟨by show σ.next≤σ.next + 1; omega,fun j hj _=>agC _ _ (by omega),fun j hj=>agC _ _ (by omega),fun _ _=>rfl⟩
 have hma0:mapOf σ0.oth (.map mc)=some (esC es):=by rw [ot0]; exact hma
 rw [← xo0] at hop hos obs
 cases hst:s == t with
 | true =>
  have est:s=t:=by simpa using hst
  rcases findC s es with ⟨h1,h2⟩ | ⟨c,b,j,h1,h2,_⟩
  ·refine ⟨[],false,σ0,by simp,?_,g0,fun _ h=>absurd h h2⟩
   rw [T_fun (af:=a_24) rfl rfl]
   simp only [a_24,sA,seval,kn,memE,memOp,hs0,hop,hos,hma0,hkd,h1,hst,hn0]
  ·refine ⟨[],true,σ0,by simp,?_,g0,fun _ _=>rfl⟩
   rw [T_fun (af:=a_24) rfl rfl]
   simp only [dCs,cCs,dSs] at h1
   generalize hdm:dMs c.mets=dm at h1
   have o1:dm.one=true:=by rw [← hdm]; exact one_dlist
   simp only [a_24,sA,seval,kn,memE,memOp,hs0,hop,hos,hma0,hkd,h1,hst,hn0,one_dlist,o1]
 | false =>
  have est:s≠t:=by simpa using hst
  rcases findC s es with ⟨h1,h2⟩ | ⟨c,b,j,h1,h2,_⟩
  ·refine ⟨[],false,σ0,by simp,?_,g0,fun h=>absurd h est⟩
   rw [T_fun (af:=a_24) rfl rfl]
   simp only [a_24,sA,seval,kn,memE,memOp,hs0,hop,hos,hma0,hkd,h1,hst,hn0]
  ·generalize hs1:({objs:=(σ0.next,[⟨false,.nils⟩]) :: σ0.objs,tys:=(σ0.next,⟨t_269,0⟩) :: σ0.tys,oth:=σ0.oth,next:=σ0.next + 1}:Store)=σ1
   have x1:σ1.next=σ.next + 2:=by subst hs1; show σ0.next + 1=_; omega
   have g1:Cg (fun _=>False) (σ.next + 1) σ0 σ1:=by
    subst hs1
    exact ⟨by show σ0.next≤σ0.next + 1; omega,fun j hj _=>agC _ _ (by omega),fun j hj=>agC _ _ (by omega),fun _ _=>rfl⟩
   have p1:aget σ1.objs (σ.next + 1)=some [⟨false,.nils⟩]:=by subst hs1; rw [← x0]; exact agS _ _ _
   generalize hs2:({objs:=(σ1.next,[⟨false,.bool false⟩]) :: σ1.objs,tys:=(σ1.next,⟨t_bool,0⟩) :: σ1.tys,oth:=σ1.oth,next:=σ1.next + 1}:Store)=σ2
   have x2:σ2.next=σ.next + 3:=by subst hs2; show σ1.next + 1=_; omega
   have g2:Cg (fun _=>False) (σ.next + 2) σ1 σ2:=by
    subst hs2
    exact ⟨by show σ1.next≤σ1.next + 1; omega,fun j hj _=>agC _ _ (by omega),fun j hj=>agC _ _ (by omega),fun _ _=>rfl⟩
   have p2:aget σ2.objs (σ.next + 2)=some [⟨false,.bool false⟩]:=by subst hs2; rw [← x1]; exact agS _ _ _
   generalize hs3:({objs:=aset σ2.objs (σ.next + 2) [⟨false,.bool false⟩],tys:=σ2.tys,oth:=σ2.oth,next:=σ2.next}:Store)=σ3
   have x3:σ3.next=σ.next + 3:=by subst hs3; exact x2
   have g3:Cg (fun _=>False) (σ.next + 2) σ2 σ3:=by
    subst hs3
    exact ⟨Nat.le_refl _,fun j hj _=>agB _ _ (by omega),fun _ _=>rfl,fun _ _=>rfl⟩
   have p3:aget σ3.objs (σ.next + 2)=some [⟨false,.bool false⟩]:=by subst hs3; exact agA _ _ _
   have q1:aget σ3.objs (σ.next + 1)=some [⟨false,.nils⟩]:=(g3.objs _ (by omega) id).trans ((g2.objs _ (by omega) id).trans p1)
   have q0:aget σ3.objs σ.next=some [⟨false,.str t⟩]:=(g3.objs _ (by omega) id).trans ((g2.objs _ (by omega) id).trans ((g1.objs _ (by omega) id).trans hos))
   have gall:Cg (fun _=>False) σ.next σ σ3:=g0.trans ((g1.less (by omega)).trans ((g2.less (by omega)).trans (g3.less (by omega))))
   have hE3:EV p mc mm ins es k0 σ3:=⟨(gall.objs p hp id).trans hE.obj,(gall.oth mc hmc).trans hE.map⟩
   obtain ⟨σ4,r4,⟨i1,⟨l,hll,i2⟩,u,i3⟩,c4⟩:=hc m (by omega) es hes hsz [.ptr σ.next 0,.ptr (σ.next + 1) 0,.ptr (σ.next + 2) 0] p mc mm ins k0 _ _ s σ3 (hN σ.next (σ.next + 1) (σ.next + 2) σ3.next t (by omega) (by omega) (by omega) (by omega) (by omega) (by omega)) (by omega) (by omega) (by omega) hE3 ⟨q0,⟨[],by simp,q1⟩,false,p3⟩
   refine ⟨l,u,σ4,hll,?_,gall.trans ((c4.less (by omega)).wide fun j hj hx=>by omega),fun h=>absurd h est⟩
   have y0:σ0.next=σ.next + 1:=x0
   have y1:σ1.next=σ.next + 2:=x1
   rw [T_fun (af:=a_24) rfl rfl]
   simp only [dCs,cCs,dSs] at h1
   generalize hdm:dMs c.mets=dm at h1
   have o1:dm.one=true:=by rw [← hdm]; exact one_dlist
   have hf1:D.fn? (.fn (.func n_129) [.ptr p 0] [])=some (n_129,[.ptr p 0],[]):=rfl
   rw [y0] at hs1
   rw [y1] at hs2
   simp only [a_24,sA,seval,kn,memE,memOp,hs0,hop,hos,hma0,hkd,h1,hst,one_dlist,o1,y0,hs1,y1,hs2,p2,hs3,hf1,r4,i2,i3]
end Go.Fu
namespace Go.Fu
open Go Go.Mx
set_option maxRecDepth 10000
set_option maxHeartbeats 4000000
structure In where
 cls:Tx
 pos:Int
 con:Tx
 vars:List Tx
 preds:List Pr
def cIn (x:In):List D:=[.str x.cls,.int .i64 x.pos,.str x.con,dSs x.vars,dPs x.preds,.nils]
def dIn (x:In):D:=.agg (cIn x)
def dIl (l:List In):D:=dlist k_12 (l.map dIn)
def dCl (l:List Cs):D:=dlist k_35 (l.map dCs)
theorem idx_In (l:List In) (i:Nat) (h:i < l.length):indexD 6 (dIl l) i=some (.eptr (dIn l[i])):=idx_map rfl _ _ _ h
theorem idx_Cs (l:List Cs) (i:Nat) (h:i < l.length):indexD 6 (dCl l) i=some (.eptr (dCs l[i])):=idx_map rfl _ _ _ h
theorem len_In (l:List In):lenOf (dIl l)=some l.length:=by simp only [dIl,lenOf_dlist,List.length_map]
theorem len_Cs (l:List Cs):lenOf (dCl l)=some l.length:=by simp only [dCl,lenOf_dlist,List.length_map]
theorem one_dSs (l:List Tx):(dSs l).one=true:=one_dlist
theorem one_dPs (l:List Pr):(dPs l).one=true:=one_dlist
theorem one_dMs (l:List (Tx × Int)):(dMs l).one=true:=one_dlist
def isI (s t:Tx) (x:In):Bool:=(x.cls == s) && (x.con == t)
theorem inst1_run:Evly fun n=>∀ (x:In) (a b:Nat) (s t:Tx) σ,aget σ.objs a=some [⟨false,.str s⟩]→aget σ.objs b=some [⟨false,.str t⟩]→T n n_182 [dIn x,.ptr a 0,.ptr b 0] σ=some (.ret ⟨false,.bool (isI s t x)⟩,σ):=any _ fun n x a b s t σ ha hb=>by
 rw [T_fun (af:=a_110) rfl rfl]
 have e1:=one_dSs x.vars
 have e2:=one_dPs x.preds
 cases h1:x.cls == s with
 | true=>simp only [a_110,sA,seval,kn,dIn,cIn,isI,e1,e2,ha,hb,h1]
 | false=>simp only [a_110,sA,seval,kn,dIn,cIn,isI,e1,e2,ha,hb,h1]
section
variable {C:CallF} {n:Nat} {σ:Store}
def Eix (l:List In) (f:FuncId) (caps:List D) (i:Nat):Env:={slots:=[(0,⟨false,dIl l⟩),(1,⟨false,.fn (.func f) [] caps⟩),(7,⟨false,.int .i64 l.length⟩),(8,⟨false,.int .i64 i⟩)],locs:=[],boxes:=[],defers:=[]}
theorem ix_step (l:List In) (f:FuncId) (caps:List D) (hfn:D.fn? (.fn (.func f) [] caps)=some (f,[],caps)) (i:Nat) (h:i < l.length) (hl:l.length < 10000) (hc:C f (dIn l[i] :: caps) σ=some (.ret ⟨false,.bool false⟩,σ)):exec C n none a_49 (Eix l f caps i) σ=some (.normal,Eix l f caps (i + 1),σ):=by
 have hi:((i:Int) < (l.length:Int)):=by omega
 have hx:=idx_In l i h
 have w1:=wrap64_succ (i:=i) (by omega)
 generalize l[i]=x at *
 simp only [dIn,cIn] at hc hx
 simp only [a_49,Eix,sA,seval,kn,natI,hi,hx,hfn,hc,w1]
theorem ix_stop (l:List In) (f:FuncId) (caps:List D) (hfn:D.fn? (.fn (.func f) [] caps)=some (f,[],caps)) (i:Nat) (h:i < l.length) (hl:l.length < 10000) (hc:C f (dIn l[i] :: caps) σ=some (.ret ⟨false,.bool true⟩,σ)):exec C n none a_49 (Eix l f caps i) σ=some (.ret,{slots:=[(4,⟨false,.int .i64 i⟩)],locs:=[],boxes:=[],defers:=[]},σ):=by
 have hi:((i:Int) < (l.length:Int)):=by omega
 have hx:=idx_In l i h
 generalize l[i]=x at *
 simp only [dIn,cIn] at hc hx
 simp only [a_49,Eix,sA,seval,kn,natI,hi,hx,hfn,hc]
theorem ix_end (l:List In) (f:FuncId) (caps:List D):exec C n none a_49 (Eix l f caps l.length) σ=some (.exit 0,{Eix l f caps l.length with slots:=[(0,⟨false,dIl l⟩),(1,⟨false,.fn (.func f) [] caps⟩),(7,⟨false,.int .i64 l.length⟩),(8,⟨false,.int .i64 l.length⟩),(9,⟨false,.bool false⟩)]},σ):=by
 have hi:¬ ((l.length:Int) < (l.length:Int)):=by omega
 simp only [a_49,Eix,sA,seval,kn,hi]
end
def noI (s t:Tx) (l:List In) (i:Nat):Bool:=match l[i]? with
 | some x=>!isI s t x
 | none=>true
theorem noI_get {s t:Tx} {l:List In} {i:Nat} (h:i < l.length):noI s t l i=!isI s t l[i]:=by simp [noI,h]
theorem indexI_run:Evly fun n=>∀ (l:List In) (_:l.length < 10000) (a b:Nat) (s t:Tx) σ,aget σ.objs a=some [⟨false,.str s⟩]→aget σ.objs b=some [⟨false,.str t⟩]→∃ r:Int,(r=-1∨∃ k:Nat,k < l.length∧r=k)∧T n n_264 [dIl l,.fn (.func n_182) [] [.ptr a 0,.ptr b 0]] σ=some (.ret ⟨false,.int .i64 r⟩,σ) :=
 inst1_run.step 10002 fun m hm hc l hl a b s t σ ha hb=>by
 have hloop:=loopN_until (body:=exec (T m) m none a_49) (Eix l n_182 [.ptr a 0,.ptr b 0]) (fun _=>σ) l.length (noI s t l) (stop:=fun i=>(.ret,{slots:=[(4,⟨false,.int .i64 i⟩)],locs:=[],boxes:=[],defers:=[]},σ)) (fun _ _ h=>by cases h) (fun _ _ _ h=>by cases h)
  (fun i hi hp=>ix_step l _ _ rfl i hi hl (by
   have:=hc l[i] a b s t σ ha hb
   rw [noI_get hi] at hp
   rw [this,show isI s t l[i]=false by simpa using hp])) (fun i hi hp=>ix_stop l _ _ rfl i hi hl (by
   have:=hc l[i] a b s t σ ha hb
   rw [noI_get hi] at hp
   rw [this,show isI s t l[i]=true by simpa using hp])) (ix_end l _ _) m 0 (by omega) (by omega)
 have hlen:=len_In l
 simp only [Eix,zeroI] at hloop
 rcases hloop with ⟨i,_,hi,hp,hb2,hrest⟩ | ⟨hp,hrest⟩
 ·refine ⟨i,.inr ⟨i,hi,rfl⟩,?_⟩
  rw [T_fun (af:=a_95) rfl rfl]
  simp only [a_95,sA,seval,kn,hlen,hrest]
 ·refine ⟨-1,.inl rfl,?_⟩
  rw [T_fun (af:=a_95) rfl rfl]
  simp only [a_95,sA,seval,kn,hlen,hrest]
abbrev G (m:Nat) (a b:Store):Prop:=Cg (fun _=>False) m a b
theorem EV.keep {p mc mm:Nat} {ins:D} {es:List (Tx × Cs × Nat)} {k0 m:Nat} {σ σ':Store} (h:EV p mc mm ins es k0 σ) (g:G m σ σ') (hp:p < m) (hmc:mc < m):EV p mc mm ins es k0 σ':=⟨(g.objs p hp id).trans h.obj,(g.oth mc hmc).trans h.map⟩
theorem Inst_run:Evly fun n=>∀ (l:List In) (_:l.length < 10000) (p mc mm:Nat) (es:List (Tx × Cs × Nat)) (k0:Nat) (s t:Tx) σ,p < σ.next→EV p mc mm (dIl l) es k0 σ→∃ (k:Nat) (b:Bool) (σ':Store),k < 10001∧T n n_127 [.ptr p 0,.str s,.str t] σ=some (.ret ⟨false,.tup [.int .i64 k,.bool b]⟩,σ')∧G σ.next σ σ' :=
 indexI_run.step 0 fun m _ hx l hl p mc mm es k0 s t σ hp hE=>by
 generalize hs1:({objs:=(σ.next + 1,[⟨false,.str t⟩]) :: (σ.next,[⟨false,.str s⟩]) :: σ.objs,tys:=(σ.next + 1,⟨t_31,0⟩) :: (σ.next,⟨t_31,0⟩) :: σ.tys,oth:=σ.oth,next:=σ.next + 1 + 1}:Store)=σ1
 have g1:G σ.next σ σ1:=by
  subst hs1
  exact ⟨by show σ.next≤σ.next + 1 + 1; omega,fun j hj _=>(agC _ _ (by omega)).trans (agC _ _ (by omega)),fun j hj=>(agC _ _ (by omega)).trans (agC _ _ (by omega)),fun _ _=>rfl⟩
 have o1:aget σ1.objs p=some [⟨false,.map mc⟩,⟨false,.map mm⟩,⟨false,dIl l⟩]:=(g1.objs p hp id).trans hE.obj
 have o2:aget σ1.objs σ.next=some [⟨false,.str s⟩]:=by subst hs1; exact (agC _ _ (by omega)).trans (agS _ _ _)
 have o3:aget σ1.objs (σ.next + 1)=some [⟨false,.str t⟩]:=by subst hs1; exact agS _ _ _
 obtain ⟨r,hr,r1⟩:=hx l hl σ.next (σ.next + 1) s t σ1 o2 o3
 rcases hr with rfl | ⟨k,hk,rfl⟩
 ·refine ⟨0,false,σ1,by omega,?_,g1⟩
  rw [T_fun (af:=a_73) rfl rfl]
  have e1:((-1:Int) < 0):=by omega
  have e2:¬ ((-1:Int) ≥ 0):=by omega
  simp only [a_73,sA,seval,kn,memE,memOp,mmD,hs1,o1,r1,e1,e2,zeroI]
 ·refine ⟨k,true,σ1,by omega,?_,g1⟩
  rw [T_fun (af:=a_73) rfl rfl]
  have e1:¬ ((k:Int) < 0):=by omega
  have e2:((k:Int) ≥ 0):=by omega
  simp only [a_73,sA,seval,kn,memE,memOp,mmD,hs1,o1,r1,e1,e2]
end Go.Fu
namespace Go.Fu
open Go Go.Mx
set_option maxRecDepth 10000
set_option maxHeartbeats 4000000
def dAt (a:Int × Int):D:=.agg [.int .i64 a.1,.int .i64 a.2]
def dAts (l:List (Int × Int)):D:=dlist k_18 (l.map dAt)
theorem app_At (l:List (Int × Int)) (a:Int × Int) (hl:l.length < 100000):appendD k_18 16 ⟨ow l.length,dAts l⟩ [dAt a]=some ⟨true,dAts (l ++ [a])⟩:=by
 have e:=append_one (r:=k_18) (by_:=16) (es:=l.map dAt) (o:=ow l.length) (y:=dAt a) (by cases l with
  | nil=>intro h; exact absurd rfl h
  | cons x r=>intro _; rfl) rfl rfl (by simp [bound]; omega) (by simp [bound]; omega)
 simpa [dAts] using e
theorem ow_snoc {α:Type} (l:List α) (a:α):ow (l ++ [a]).length=true:=by simp [ow_succ]
section
variable {p mc mm:Nat} {ins:D} {es:List (Tx × Cs × Nat)} {k0:Nat} {C:CallF} {n:Nat} {σ σ':Store}
theorem co_cells (hE:EV p mc mm ins es k0 σ) (s:Tx) (hsz:∀ y∈es,y.2.1.sups.length < 1000):∃ r,findM (.str s) (esC es)=some r∧∃ (nm:Tx) (at_:Int) (v:Tx) (sups:List Tx) (d5:D),sups.length < 1000∧d5.one=true∧(caseO r (.agg zC) fun v=>v.1)=.agg [.str nm,.int .i64 at_,.str v,.nils,dSs sups,d5]:=by
 rcases findC s es with ⟨h1,_⟩ | ⟨c,b,j,h1,_,y,hy,hc⟩
 ·exact ⟨_,h1,[],0,[],[],.nils,by simp,rfl,rfl⟩
 ·exact ⟨_,h1,c.name,c.pos,[97],c.sups,dMs c.mets,by rw [← hc]; exact hsz y hy,one_dMs _,rfl⟩
def Er0 (eb:Nat) (cs:List Cs) (out:List (Int × Int)) (i:Nat):Env:={slots:=[(2,⟨false,.ptr eb 0⟩),(5,⟨ow out.length,dAts out⟩),(17,⟨false,dCl cs⟩),(18,⟨false,.int .i64 cs.length⟩),(19,⟨false,.int .i64 i⟩)],locs:=[],boxes:=[],defers:=[]}
theorem r0_no (hE:EV p mc mm ins es k0 σ) (eb:Nat) (heb:aget σ.objs eb=some [⟨false,.ptr p 0⟩]) (cs:List Cs) (out:List (Int × Int)) (i:Nat) (h:i < cs.length) (hl:cs.length < 1000) {r:Option (D × Nat × Nat)} (h1:findM (.str cs[i].name) (esC es)=some r) {nm v:Tx} {at_:Int} {sups:List Tx} {d5:D} (h5:d5.one=true)
  (h2:(caseO r (.agg zC) fun v=>v.1)=.agg [.str nm,.int .i64 at_,.str v,.nils,dSs sups,d5]) (h3:(at_ == cs[i].pos)=false):exec C n none a_25 (Er0 eb cs out i) σ=some (.normal,Er0 eb cs out (i + 1),σ):=by
 have hi:((i:Int) < (cs.length:Int)):=by omega
 have hx:=idx_Cs cs i h
 have w1:=wrap64_succ (i:=i) (by omega)
 have ho:=hE.obj
 have hma:mapOf σ.oth (.map mc)=some (esC es):=by simp only [mapOf,hE.map,bindO,caseO_some]
 have hkd:keyD true (.str cs[i].name)=true:=rfl
 have e1:=one_dSs cs[i].sups
 have e2:=one_dMs cs[i].mets
 have e3:=one_dSs sups
 simp only [zC] at h2
 generalize cs[i]=c at *
 simp only [dCs,cCs] at hx
 simp only [a_25,Er0,sA,seval,kn,natI,hi,hx,e1,e2,e3,h5,heb,ho,hma,hkd,h1,h2,h3,w1]
theorem r0_in (hE:EV p mc mm ins es k0 σ) (eb:Nat) (heb:aget σ.objs eb=some [⟨false,.ptr p 0⟩]) (cs:List Cs) (out:List (Int × Int)) (i:Nat) (h:i < cs.length) (hl:cs.length < 1000) {r:Option (D × Nat × Nat)} (h1:findM (.str cs[i].name) (esC es)=some r) {nm v:Tx} {at_:Int} {sups:List Tx} {d5:D} (h5:d5.one=true)
  (h2:(caseO r (.agg zC) fun v=>v.1)=.agg [.str nm,.int .i64 at_,.str v,.nils,dSs sups,d5]) (h3:(at_ == cs[i].pos)=true) (h4:C n_128 [.ptr p 0,.str cs[i].name,.str cs[i].name] σ=some (.ret ⟨false,.bool false⟩,σ')):exec C n none a_25 (Er0 eb cs out i) σ=some (.normal,Er0 eb cs out (i + 1),σ'):=by
 have hi:((i:Int) < (cs.length:Int)):=by omega
 have hx:=idx_Cs cs i h
 have w1:=wrap64_succ (i:=i) (by omega)
 have ho:=hE.obj
 have hma:mapOf σ.oth (.map mc)=some (esC es):=by simp only [mapOf,hE.map,bindO,caseO_some]
 have hkd:keyD true (.str cs[i].name)=true:=rfl
 have e1:=one_dSs cs[i].sups
 have e2:=one_dMs cs[i].mets
 have e3:=one_dSs sups
 simp only [zC] at h2
 generalize cs[i]=c at *
 simp only [dCs,cCs] at hx
 simp only [a_25,Er0,sA,seval,kn,natI,hi,hx,e1,e2,e3,h5,heb,ho,hma,hkd,h1,h2,h3,h4,w1]
theorem r0_yes (hE:EV p mc mm ins es k0 σ) (eb:Nat) (heb:aget σ.objs eb=some [⟨false,.ptr p 0⟩]) (cs:List Cs) (out:List (Int × Int)) (hout:out.length < 100000) (i:Nat) (h:i < cs.length) (hl:cs.length < 1000) {r:Option (D × Nat × Nat)} (h1:findM (.str cs[i].name) (esC es)=some r) {nm v:Tx} {at_:Int} {sups:List Tx} {d5:D} (h5:d5.one=true)
  (h2:(caseO r (.agg zC) fun v=>v.1)=.agg [.str nm,.int .i64 at_,.str v,.nils,dSs sups,d5]) (h3:(at_ == cs[i].pos)=true) (h4:C n_128 [.ptr p 0,.str cs[i].name,.str cs[i].name] σ=some (.ret ⟨false,.bool true⟩,σ')):exec C n none a_25 (Er0 eb cs out i) σ=some (.normal,Er0 eb cs (out ++ [(35,cs[i].pos)]) (i + 1),σ'):=by
 have hi:((i:Int) < (cs.length:Int)):=by omega
 have hx:=idx_Cs cs i h
 have w1:=wrap64_succ (i:=i) (by omega)
 have ho:=hE.obj
 have hma:mapOf σ.oth (.map mc)=some (esC es):=by simp only [mapOf,hE.map,bindO,caseO_some]
 have hkd:keyD true (.str cs[i].name)=true:=rfl
 have e1:=one_dSs cs[i].sups
 have e2:=one_dMs cs[i].mets
 have e3:=one_dSs sups
 have ha:=app_At out (35,cs[i].pos) hout
 have how:=ow_snoc out (35,cs[i].pos)
 simp only [zC] at h2
 generalize cs[i]=c at *
 simp only [dCs,cCs] at hx
 simp only [dAt] at ha
 simp only [a_25,Er0,sA,seval,kn,natI,hi,hx,e1,e2,e3,h5,heb,ho,hma,hkd,h1,h2,h3,h4,w1,ha,how]
theorem r0_end (eb:Nat) (cs:List Cs) (out:List (Int × Int)):exec C n none a_25 (Er0 eb cs out cs.length) σ=some (.exit 0,{Er0 eb cs out cs.length with slots:=[(2,⟨false,.ptr eb 0⟩),(5,⟨ow out.length,dAts out⟩),(17,⟨false,dCl cs⟩),(18,⟨false,.int .i64 cs.length⟩),(19,⟨false,.int .i64 cs.length⟩),(20,⟨false,.bool false⟩)]},σ):=by
 have hi:¬ ((cs.length:Int) < (cs.length:Int)):=by omega
 simp only [a_25,Er0,sA,seval,kn,hi]
def Er1 (eb:Nat) (is:List In) (out:List (Int × Int)) (i:Nat):Env:={slots:=[(2,⟨false,.ptr eb 0⟩),(5,⟨ow out.length,dAts out⟩),(53,⟨false,dIl is⟩),(54,⟨false,.int .i64 is.length⟩),(55,⟨false,.int .i64 i⟩)],locs:=[],boxes:=[],defers:=[]}
theorem r1_step (eb:Nat) (heb:aget σ.objs eb=some [⟨false,.ptr p 0⟩]) (is:List In) (out:List (Int × Int)) (hout:out.length < 100000) (i:Nat) (h:i < is.length) (hl:is.length < 10000) (k:Nat) (b:Bool) (h4:C n_127 [.ptr p 0,.str is[i].cls,.str is[i].con] σ=some (.ret ⟨false,.tup [.int .i64 k,.bool b]⟩,σ')):∃ out',out'.length≤out.length + 1∧exec C n none a_38 (Er1 eb is out i) σ=some (.normal,Er1 eb is out' (i + 1),σ'):=by
 have hi:((i:Int) < (is.length:Int)):=by omega
 have hx:=idx_In is i h
 have w1:=wrap64_succ (i:=i) (by omega)
 have e1:=one_dSs is[i].vars
 have e2:=one_dPs is[i].preds
 have ha:=app_At out (34,is[i].pos) hout
 have how:=ow_snoc out (34,is[i].pos)
 generalize is[i]=x at *
 simp only [dIn,cIn] at hx
 simp only [dAt] at ha
 cases b with
 | false=>exact ⟨out,by omega,by simp only [a_38,Er1,sA,seval,kn,natI,hi,hx,e1,e2,heb,h4,w1]⟩
 | true =>
  cases hc:decide ((k:Int) < (i:Int)) with
  | false=>exact ⟨out,by omega,by simp only [a_38,Er1,sA,seval,kn,natI,hi,hx,e1,e2,heb,h4,w1,hc]⟩
  | true=>exact ⟨out ++ [(34,x.pos)],by rw [List.length_append]; simp,by simp only [a_38,Er1,sA,seval,kn,natI,hi,hx,e1,e2,heb,h4,w1,hc,ha,how]⟩
theorem r1_end (eb:Nat) (is:List In) (out:List (Int × Int)):exec C n none a_38 (Er1 eb is out is.length) σ=some (.exit 2,{Er1 eb is out is.length with slots:=[(2,⟨false,.ptr eb 0⟩),(5,⟨ow out.length,dAts out⟩),(53,⟨false,dIl is⟩),(54,⟨false,.int .i64 is.length⟩),(55,⟨false,.int .i64 is.length⟩),(56,⟨false,.bool false⟩)]},σ):=by
 have hi:¬ ((is.length:Int) < (is.length:Int)):=by omega
 simp only [a_38,Er1,sA,seval,kn,hi]
def Er2 (eb:Nat) (is:List In) (out:List (Int × Int)) (i:Nat):Env:={slots:=[(2,⟨false,.ptr eb 0⟩),(5,⟨ow out.length,dAts out⟩),(85,⟨false,dIl is⟩),(86,⟨false,.int .i64 is.length⟩),(87,⟨false,.int .i64 i⟩)],locs:=[],boxes:=[],defers:=[]}
def GI (σ:Store) (x:In):Store:={objs:=aset ((σ.next,[⟨false,.str []⟩,⟨false,.int .i64 0⟩,⟨false,.str []⟩,⟨false,.nils⟩,⟨false,.nils⟩,⟨false,.nils⟩]) :: σ.objs) σ.next ((cIn x).map Cell.of),tys:=(σ.next,⟨t_213,0⟩) :: σ.tys,oth:=σ.oth,next:=σ.next + 1}
theorem r2_step (eb:Nat) (is:List In) (out:List (Int × Int)) (hout:out.length < 100000) (i:Nat) (h:i < is.length) (hl:is.length < 10000) (heb:aget (GI σ is[i]).objs eb=some [⟨false,.ptr p 0⟩]) (hE:EV p mc mm ins es k0 (GI σ is[i])) (hob:aget (GI σ is[i]).objs σ.next=some ((cIn is[i]).map Cell.of)) {r:Option (D × Nat × Nat)} (h1:findM (.str is[i].cls) (esC es)=some r) {nm v:Tx} {at_:Int} {sups:List Tx} {d5:D}
  (h2:(caseO r (.agg zC) fun v=>v.1)=.agg [.str nm,.int .i64 at_,.str v,.nils,dSs sups,d5]) (b:Bool) (h4:C n_205 [dSs sups,.fn (.func n_130) [] [.ptr eb 0,.ptr σ.next 0]] (GI σ is[i])=some (.ret ⟨false,.bool b⟩,σ')) (hob2:aget σ'.objs σ.next=some ((cIn is[i]).map Cell.of)):∃ out',out'.length≤out.length + 1∧exec C n none a_57 (Er2 eb is out i) σ=some (.normal,Er2 eb is out' (i + 1),σ'):=by
 have hi:((i:Int) < (is.length:Int)):=by omega
 have hx:=idx_In is i h
 have w1:=wrap64_succ (i:=i) (by omega)
 have e1:=one_dSs is[i].vars
 have e2:=one_dPs is[i].preds
 have ha:=app_At out (35,is[i].pos) hout
 have how:=ow_snoc out (35,is[i].pos)
 have ho:=hE.obj
 have hma:mapOf (GI σ is[i]).oth (.map mc)=some (esC es):=by simp only [mapOf,hE.map,bindO,caseO_some]
 have hkd:keyD true (.str is[i].cls)=true:=rfl
 have hag:aget ((σ.next,([⟨false,.str []⟩,⟨false,.int .i64 0⟩,⟨false,.str []⟩,⟨false,.nils⟩,⟨false,.nils⟩,⟨false,.nils⟩]:List Cell)) :: σ.objs) σ.next=some [⟨false,.str []⟩,⟨false,.int .i64 0⟩,⟨false,.str []⟩,⟨false,.nils⟩,⟨false,.nils⟩,⟨false,.nils⟩]:=agS _ _ _
 generalize hG1:({objs:=(σ.next,[⟨false,.str []⟩,⟨false,.int .i64 0⟩,⟨false,.str []⟩,⟨false,.nils⟩,⟨false,.nils⟩,⟨false,.nils⟩]) :: σ.objs,tys:=(σ.next,⟨t_213,0⟩) :: σ.tys,oth:=σ.oth,next:=σ.next + 1}:Store)=σa
 have hG2:({objs:=aset σa.objs σ.next ((cIn is[i]).map Cell.of),tys:=σa.tys,oth:=σa.oth,next:=σa.next}:Store)=GI σ is[i]:=by subst hG1; rfl
 have hao:aget σa.objs σ.next=some [⟨false,.str []⟩,⟨false,.int .i64 0⟩,⟨false,.str []⟩,⟨false,.nils⟩,⟨false,.nils⟩,⟨false,.nils⟩]:=by subst hG1; exact hag
 generalize GI σ is[i]=σb at *
 generalize is[i]=x at *
 simp only [dIn,cIn] at hx
 simp only [dAt] at ha
 simp only [cIn,List.map_cons,List.map_nil,Cell.of] at hG2 hob hob2
 simp only [zC] at h2
 have hpt:Mx.part none [.str nm,.int .i64 at_,.str v,.nils,dSs sups,d5] 4=some (dSs sups):=rfl
 cases b with
 | false=>exact ⟨out,by omega,by simp only [a_57,Er2,sA,seval,kn,memE,memOp,natI,hi,hx,e1,e2,hG1,hao,hG2,heb,ho,hma,hkd,hob,h1,h2,hpt,h4,w1]⟩
 | true=>exact ⟨out ++ [(35,x.pos)],by rw [List.length_append]; simp,by simp only [a_57,Er2,sA,seval,kn,memE,memOp,natI,hi,hx,e1,e2,hG1,hao,hG2,heb,ho,hma,hkd,hob,hob2,h1,h2,hpt,h4,w1,ha,how]⟩
theorem r2_end (eb:Nat) (is:List In) (out:List (Int × Int)):exec C n none a_57 (Er2 eb is out is.length) σ=some (.exit 4,{Er2 eb is out is.length with slots:=[(2,⟨false,.ptr eb 0⟩),(5,⟨ow out.length,dAts out⟩),(85,⟨false,dIl is⟩),(86,⟨false,.int .i64 is.length⟩),(87,⟨false,.int .i64 is.length⟩),(88,⟨false,.bool false⟩)]},σ):=by
 have hi:¬ ((is.length:Int) < (is.length:Int)):=by omega
 simp only [a_57,Er2,sA,seval,kn,hi]
end
end Go.Fu
namespace Go.Fu
open Go Go.Mx
set_option maxRecDepth 10000
set_option maxHeartbeats 4000000
section
variable {C:CallF} {n:Nat} {σ σ':Store}
def Efs (l:List Tx) (f:FuncId) (caps:List D) (i:Nat):Env:={slots:=[(0,⟨false,dSs l⟩),(1,⟨false,.fn (.func f) [] caps⟩),(7,⟨false,.int .i64 l.length⟩),(8,⟨false,.int .i64 i⟩)],locs:=[],boxes:=[],defers:=[]}
theorem fs_step (l:List Tx) (f:FuncId) (caps:List D) (hfn:D.fn? (.fn (.func f) [] caps)=some (f,[],caps)) (i:Nat) (h:i < l.length) (hl:l.length < 10000) (hc:C f (.str l[i] :: caps) σ=some (.ret ⟨false,.bool false⟩,σ')):exec C n none a_50 (Efs l f caps i) σ=some (.normal,Efs l f caps (i + 1),σ'):=by
 have hi:((i:Int) < (l.length:Int)):=by omega
 have hx:indexD 1 (dSs l) i=_:=idx_S l i h
 have w1:=wrap64_succ (i:=i) (by omega)
 simp only [a_50,Efs,sA,seval,kn,natI,hi,hx,hfn,hc,w1]
theorem fs_stop (l:List Tx) (f:FuncId) (caps:List D) (hfn:D.fn? (.fn (.func f) [] caps)=some (f,[],caps)) (i:Nat) (h:i < l.length) (hl:l.length < 10000) (hc:C f (.str l[i] :: caps) σ=some (.ret ⟨false,.bool true⟩,σ')):exec C n none a_50 (Efs l f caps i) σ=some (.ret,{slots:=[(4,⟨false,.int .i64 i⟩)],locs:=[],boxes:=[],defers:=[]},σ'):=by
 have hi:((i:Int) < (l.length:Int)):=by omega
 have hx:indexD 1 (dSs l) i=_:=idx_S l i h
 simp only [a_50,Efs,sA,seval,kn,natI,hi,hx,hfn,hc]
theorem fs_end (l:List Tx) (f:FuncId) (caps:List D):exec C n none a_50 (Efs l f caps l.length) σ=some (.exit 0,{slots:=[(0,⟨false,dSs l⟩),(1,⟨false,.fn (.func f) [] caps⟩),(7,⟨false,.int .i64 l.length⟩),(8,⟨false,.int .i64 l.length⟩),(9,⟨false,.bool false⟩)],locs:=[],boxes:=[],defers:=[]},σ):=by
 have hi:¬ ((l.length:Int) < (l.length:Int)):=by omega
 simp only [a_50,Efs,sA,seval,kn,hi]
end
theorem fs_loop {m:Nat} (l:List Tx) (hl:l.length < 10000) (f:FuncId) (caps:List D) (hfn:D.fn? (.fn (.func f) [] caps)=some (f,[],caps)) (m0:Nat) (σ0:Store) (hf:∀ σ s,G m0 σ0 σ→∃ (b:Bool) (σ':Store),T m f (.str s :: caps) σ=some (.ret ⟨false,.bool b⟩,σ')∧G m0 σ0 σ') :
  ∀ (r k i:Nat) (σ:Store),i + r=l.length→r < k→G m0 σ0 σ→∃ x e' σ',loopN (exec (T m) m none a_50) k (Efs l f caps i) σ=some (x,e',σ')∧G m0 σ0 σ'∧((x=.exit 0∧e'={slots:=[(0,⟨false,dSs l⟩),(1,⟨false,.fn (.func f) [] caps⟩),(7,⟨false,.int .i64 l.length⟩),(8,⟨false,.int .i64 l.length⟩),(9,⟨false,.bool false⟩)],locs:=[],boxes:=[],defers:=[]})∨(x=.ret∧∃ j:Nat,e'={slots:=[(4,⟨false,.int .i64 j⟩)],locs:=[],boxes:=[],defers:=[]}))
 | _,0,_,_,_,hk,_=>absurd hk (by omega)
 | 0,k + 1,i,σ,hi,_,hg=>by
  have:i=l.length:=by omega
  subst this
  exact ⟨_,_,σ,loopN_stop (fs_end l f caps),hg,.inl ⟨rfl,rfl⟩⟩
 | r + 1,k + 1,i,σ,hi,hk,hg=>by
  obtain ⟨b,σ1,h1,g1⟩:=hf σ (l[i]'(by omega)) hg
  cases b with
  | true=>exact ⟨_,_,σ1,loopN_ret (fs_stop l f caps hfn i (by omega) hl h1),g1,.inr ⟨rfl,i,rfl⟩⟩
  | false =>
   obtain ⟨x,e',σ2,h2,g2⟩:=fs_loop l hl f caps hfn m0 σ0 hf r k (i + 1) σ1 (by omega) (by omega) g1
   exact ⟨x,e',σ2,loopN_next (fs_step l f caps hfn i (by omega) hl h1) h2,g2⟩
theorem containsF_run {m:Nat} (l:List Tx) (hl:l.length < 1000) (hm:1001≤m) (f:FuncId) (caps:List D) (hfn:D.fn? (.fn (.func f) [] caps)=some (f,[],caps)) (m0:Nat) (σ0:Store) (hf:∀ σ s,G m0 σ0 σ→∃ (b:Bool) (σ':Store),T m f (.str s :: caps) σ=some (.ret ⟨false,.bool b⟩,σ')∧G m0 σ0 σ')
  (σ:Store) (hg:G m0 σ0 σ):∃ (b:Bool) (σ':Store),T (m + 2) n_205 [dSs l,.fn (.func f) [] caps] σ=some (.ret ⟨false,.bool b⟩,σ')∧G m0 σ0 σ':=by
 obtain ⟨x,e',σ',h1,g1,hx⟩:=fs_loop l (by omega) f caps hfn m0 σ0 hf l.length m 0 σ (by omega) (by omega) hg
 have hlen:lenOf (dSs l)=some l.length:=by simp only [dSs,lenOf_dlist,List.length_map]
 simp only [Efs,zeroI] at h1
 have hix:∃ r:Int,T (m + 1) n_206 [dSs l,.fn (.func f) [] caps] σ=some (.ret ⟨false,.int .i64 r⟩,σ'):=by
  rcases hx with ⟨rfl,rfl⟩ | ⟨rfl,j,rfl⟩
  ·refine ⟨-1,?_⟩
   rw [T_fun (af:=a_97) rfl rfl]
   simp only [a_97,sA,seval,kn,hlen,h1]
  ·refine ⟨j,?_⟩
   rw [T_fun (af:=a_97) rfl rfl]
   simp only [a_97,sA,seval,kn,hlen,h1]
 obtain ⟨r,hr⟩:=hix
 refine ⟨decide (r ≥ 0),σ',?_,g1⟩
 rw [T_fun (af:=a_171) rfl rfl]
 simp only [a_171,sA,seval,kn,hr]
theorem G.refl (m:Nat) (σ:Store):G m σ σ:=Cg.refl _ _ _
theorem ref1_run:Evly fun n=>∀ (l:List In) (_:l.length < 10000) (p mc mm:Nat) (es:List (Tx × Cs × Nat)) (k0 eb ib:Nat) (x:In) (s:Tx) σ,p < σ.next→EV p mc mm (dIl l) es k0 σ→aget σ.objs eb=some [⟨false,.ptr p 0⟩]→aget σ.objs ib=some ((cIn x).map Cell.of) →
  ∃ (b:Bool) (σ':Store),T n n_130 [.str s,.ptr eb 0,.ptr ib 0] σ=some (.ret ⟨false,.bool b⟩,σ')∧G σ.next σ σ' :=
 Inst_run.step 0 fun m _ hI l hl p mc mm es k0 eb ib x s σ hp hE heb hib=>by
 obtain ⟨k,b,σ',_,h1,g1⟩:=hI l hl p mc mm es k0 s x.con σ hp hE
 refine ⟨!b,σ',?_,g1⟩
 simp only [cIn,List.map_cons,List.map_nil,Cell.of] at hib
 rw [T_fun (af:=a_147) rfl rfl]
 simp only [a_147,sA,seval,kn,heb,hib,h1]
section
variable {p mc mm:Nat} {es:List (Tx × Cs × Nat)} {k0:Nat}
theorem ref_loop0 {m m0 eb:Nat} {σ0:Store} (hsz:∀ y∈es,y.2.1.sups.length < 1000) {ins:D} (hE:EV p mc mm ins es k0 σ0) (hp:p < m0) (hmc:mc < m0) (heb:aget σ0.objs eb=some [⟨false,.ptr p 0⟩]) (hebl:eb < m0)
  (hab:∀ s σ,m0≤σ.next→EV p mc mm ins es k0 σ→∃ (b:Bool) (σ':Store),T m n_128 [.ptr p 0,.str s,.str s] σ=some (.ret ⟨false,.bool b⟩,σ')∧G σ.next σ σ') (hm0:m0≤σ0.next) (cs:List Cs) (hcs:cs.length < 1000) :
  ∀ (r k i:Nat) (out:List (Int × Int)) (σ:Store),i + r=cs.length→r < k→out.length≤i→G m0 σ0 σ→∃ σ' out',out'.length≤cs.length∧loopN (exec (T m) m none a_25) k (Er0 eb cs out i) σ=some (.exit 0,{slots:=[(2,⟨false,.ptr eb 0⟩),(5,⟨ow out'.length,dAts out'⟩),(17,⟨false,dCl cs⟩),(18,⟨false,.int .i64 cs.length⟩),(19,⟨false,.int .i64 cs.length⟩),(20,⟨false,.bool false⟩)],locs:=[],boxes:=[],defers:=[]},σ')∧G m0 σ0 σ'
 | _,0,_,_,_,_,hk,_,_=>absurd hk (by omega)
 | 0,k + 1,i,out,σ,hi,_,ho,hg=>by
  have:i=cs.length:=by omega
  subst this
  exact ⟨σ,out,ho,loopN_stop (r0_end eb cs out),hg⟩
 | r + 1,k + 1,i,out,σ,hi,hk,ho,hg=>by
  have hE1:=hE.keep hg hp hmc
  have heb1:=(hg.objs eb hebl id).trans heb
  have hil:i < cs.length:=by omega
  obtain ⟨rr,h1,nm,at_,v,sups,d5,_,h5,h2⟩:=co_cells hE1 cs[i].name hsz
  cases h3:at_ == cs[i].pos with
  | false =>
   obtain ⟨σ2,out2,q1,q2,q3⟩:=ref_loop0 hsz hE hp hmc heb hebl hab hm0 cs hcs r k (i + 1) out σ (by omega) (by omega) (by omega) hg
   exact ⟨σ2,out2,q1,loopN_next (r0_no hE1 eb heb1 cs out i hil hcs h1 h5 h2 h3) q2,q3⟩
  | true =>
   have hm1:m0≤σ.next:=Nat.le_trans hm0 hg.le
   obtain ⟨b,σ1,a1,g1⟩:=hab cs[i].name σ hm1 hE1
   have hg1:G m0 σ0 σ1:=hg.trans (g1.less hm1)
   cases b with
   | false =>
    obtain ⟨σ2,out2,q1,q2,q3⟩:=ref_loop0 hsz hE hp hmc heb hebl hab hm0 cs hcs r k (i + 1) out σ1 (by omega) (by omega) (by omega) hg1
    exact ⟨σ2,out2,q1,loopN_next (r0_in hE1 eb heb1 cs out i hil hcs h1 h5 h2 h3 a1) q2,q3⟩
   | true =>
    obtain ⟨σ2,out2,q1,q2,q3⟩:=ref_loop0 hsz hE hp hmc heb hebl hab hm0 cs hcs r k (i + 1) (out ++ [(35,cs[i].pos)]) σ1 (by omega) (by omega) (by simp; omega) hg1
    exact ⟨σ2,out2,q1,loopN_next (r0_yes hE1 eb heb1 cs out (by omega) i hil hcs h1 h5 h2 h3 a1) q2,q3⟩
theorem ref_loop1 {m m0 eb:Nat} {σ0:Store} (is:List In) (his:is.length < 10000) (hE:EV p mc mm (dIl is) es k0 σ0) (hp:p < m0) (hmc:mc < m0) (heb:aget σ0.objs eb=some [⟨false,.ptr p 0⟩]) (hebl:eb < m0)
  (hab:∀ s t σ,m0≤σ.next→EV p mc mm (dIl is) es k0 σ→∃ (k:Nat) (b:Bool) (σ':Store),k < 10001∧T m n_127 [.ptr p 0,.str s,.str t] σ=some (.ret ⟨false,.tup [.int .i64 k,.bool b]⟩,σ')∧G σ.next σ σ') (hm0:m0≤σ0.next) :
  ∀ (r k i:Nat) (out:List (Int × Int)) (σ:Store),i + r=is.length→r < k→out.length≤1000 + i→G m0 σ0 σ→∃ σ' out',out'.length≤1000 + is.length∧loopN (exec (T m) m none a_38) k (Er1 eb is out i) σ=some (.exit 2,{slots:=[(2,⟨false,.ptr eb 0⟩),(5,⟨ow out'.length,dAts out'⟩),(53,⟨false,dIl is⟩),(54,⟨false,.int .i64 is.length⟩),(55,⟨false,.int .i64 is.length⟩),(56,⟨false,.bool false⟩)],locs:=[],boxes:=[],defers:=[]},σ')∧G m0 σ0 σ'
 | _,0,_,_,_,_,hk,_,_=>absurd hk (by omega)
 | 0,k + 1,i,out,σ,hi,_,ho,hg=>by
  have:i=is.length:=by omega
  subst this
  exact ⟨σ,out,ho,loopN_stop (r1_end eb is out),hg⟩
 | r + 1,k + 1,i,out,σ,hi,hk,ho,hg=>by
  have hE1:=hE.keep hg hp hmc
  have heb1:=(hg.objs eb hebl id).trans heb
  have hil:i < is.length:=by omega
  have hm1:m0≤σ.next:=Nat.le_trans hm0 hg.le
  obtain ⟨kk,b,σ1,_,a1,g1⟩:=hab is[i].cls is[i].con σ hm1 hE1
  obtain ⟨out1,l1,s1⟩:=r1_step eb heb1 is out (by omega) i hil his kk b a1
  obtain ⟨σ2,out2,q1,q2,q3⟩:=ref_loop1 is his hE hp hmc heb hebl hab hm0 r k (i + 1) out1 σ1 (by omega) (by omega) (by omega) (hg.trans (g1.less hm1))
  exact ⟨σ2,out2,q1,loopN_next s1 q2,q3⟩
theorem GI_g (σ:Store) (x:In) (m0:Nat) (h:m0≤σ.next):G m0 σ (GI σ x):=⟨Nat.le_succ _,fun j hj _=>(agB _ _ (by omega)).trans (agC _ _ (by omega)),fun j hj=>agC _ _ (by omega),fun _ _=>rfl⟩
theorem ref_loop2 {m m0 eb:Nat} {σ0:Store} (hm:1001≤m) (hsz:∀ y∈es,y.2.1.sups.length < 1000) (is:List In) (his:is.length < 10000) (hE:EV p mc mm (dIl is) es k0 σ0) (hp:p < m0) (hmc:mc < m0) (heb:aget σ0.objs eb=some [⟨false,.ptr p 0⟩]) (hebl:eb < m0)
  (hab:∀ (ib:Nat) (x:In) (s:Tx) σ,m0≤σ.next→EV p mc mm (dIl is) es k0 σ→aget σ.objs eb=some [⟨false,.ptr p 0⟩]→aget σ.objs ib=some ((cIn x).map Cell.of)→∃ (b:Bool) (σ':Store),T m n_130 [.str s,.ptr eb 0,.ptr ib 0] σ=some (.ret ⟨false,.bool b⟩,σ')∧G σ.next σ σ') (hm0:m0≤σ0.next) :
  ∀ (r k i:Nat) (out:List (Int × Int)) (σ:Store),i + r=is.length→r < k→out.length≤20000 + i→G m0 σ0 σ→∃ σ' out',out'.length≤20000 + is.length∧loopN (exec (T (m + 2)) (m + 2) none a_57) k (Er2 eb is out i) σ=some (.exit 4,{slots:=[(2,⟨false,.ptr eb 0⟩),(5,⟨ow out'.length,dAts out'⟩),(85,⟨false,dIl is⟩),(86,⟨false,.int .i64 is.length⟩),(87,⟨false,.int .i64 is.length⟩),(88,⟨false,.bool false⟩)],locs:=[],boxes:=[],defers:=[]},σ')∧G m0 σ0 σ'
 | _,0,_,_,_,_,hk,_,_=>absurd hk (by omega)
 | 0,k + 1,i,out,σ,hi,_,ho,hg=>by
  have:i=is.length:=by omega
  subst this
  exact ⟨σ,out,ho,loopN_stop (r2_end eb is out),hg⟩
 | r + 1,k + 1,i,out,σ,hi,hk,ho,hg=>by
  have hil:i < is.length:=by omega
  have hm1:m0≤σ.next:=Nat.le_trans hm0 hg.le
  have g0:=GI_g σ is[i] m0 hm1
  have hg0:G m0 σ0 (GI σ is[i]):=hg.trans g0
  have hE1:=hE.keep hg0 hp hmc
  have heb1:=(hg0.objs eb hebl id).trans heb
  have hob:aget (GI σ is[i]).objs σ.next=some ((cIn is[i]).map Cell.of):=agA _ _ _
  obtain ⟨rr,h1,nm,at_,v,sups,d5,hsl,h5,h2⟩:=co_cells hE1 is[i].cls hsz
  have hn1:(GI σ is[i]).next=σ.next + 1:=rfl
  obtain ⟨b,σ1,c1,c2⟩:=containsF_run sups hsl hm n_130 [.ptr eb 0,.ptr σ.next 0] rfl (σ.next + 1) (GI σ is[i]) (fun σa s ha=>by
   have hx1:=hE1.keep ha (by omega) (by omega)
   obtain ⟨b,σb,r1,r2⟩:=hab σ.next is[i] s σa (by have:=ha.le; omega) hx1 ((ha.objs eb (by omega) id).trans heb1) ((ha.objs σ.next (by omega) id).trans hob)
   exact ⟨b,σb,r1,ha.trans (r2.less (by have:=ha.le; omega))⟩) (GI σ is[i]) (G.refl _ _)
  obtain ⟨out1,l1,s1⟩:=r2_step eb is out (by omega) i hil his heb1 hE1 hob h1 h2 b c1 ((c2.objs σ.next (by omega) id).trans hob)
  obtain ⟨σ2,out2,q1,q2,q3⟩:=ref_loop2 hm hsz is his hE hp hmc heb hebl hab hm0 r k (i + 1) out1 σ1 (by omega) (by omega) (by omega) (hg0.trans (c2.less (by omega)))
  exact ⟨σ2,out2,q1,loopN_next s1 q2,q3⟩
end
end Go.Fu

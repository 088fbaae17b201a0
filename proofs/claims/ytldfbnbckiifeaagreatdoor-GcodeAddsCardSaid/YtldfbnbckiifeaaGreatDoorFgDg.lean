/-
 Something is done with names that lie from a depth on; then they lie as before.
-/
import Derived.Test.YtldfbnbckiifeaaGreatDoorFgDe
set_option maxHeartbeats 4000000
set_option linter.unusedSimpArgs false
set_option linter.unusedVariables false
set_option linter.unusedSectionVars false
namespace Go.Fu
open Go Go.Mx
set_option maxRecDepth 10000
set_option maxHeartbeats 4000000
def Ewi (σn:Nat) (dl:D) (len:Nat) (d:Int) (fv:D) (i:Nat):Env:={slots:=[(2,⟨false,.int .i64 d⟩),(3,⟨false,fv⟩),(4,⟨false,.ptr σn 0⟩),(17,⟨false,dl⟩),(18,⟨false,.int .i64 len⟩),(19,⟨false,.int .i64 i⟩)],locs:=[],boxes:=[],defers:=[(Lj,[.ptr (σn + 2) 0,.ptr σn 0])]}
def Ewe (σn:Nat) (dl:D) (len:Nat) (d:Int) (fv:D):Env:={slots:=[(2,⟨false,.int .i64 d⟩),(3,⟨false,fv⟩),(4,⟨false,.ptr σn 0⟩),(17,⟨false,dl⟩),(18,⟨false,.int .i64 len⟩),(19,⟨false,.int .i64 len⟩),(20,⟨false,.bool false⟩)],locs:=[],boxes:=[],defers:=[(Lj,[.ptr (σn + 2) 0,.ptr σn 0])]}
theorem zarb {τ:Store} {p a m:Nat} {L:List In} {M:At} (h:CS τ p a m L M) {dl:D} {l:List Tx} (hr:RdS τ p a dl l) (hl:l.length < 1000000000) {σn:Nat} (hx:aB τ.objs σn=some [⟨false,.ptr p 0⟩]) (d:Int) (fv:D) (i:Nat) (hi:i < l.length) :
  ∃ τ',(∀ C n,exec C n none Ej (Ewi σn dl l.length d fv i) τ=some (.normal,Ewi σn dl l.length d fv (i + 1),τ'))∧CS τ' p a m L (tD M l[i] (w64 (d + (i:Int))))∧Frm p a m a m τ τ':=by
 obtain ⟨es,c,r,h1,h2,h3,h4⟩:=h.upd l[i] (w64 (d + (i:Int)))
 refine ⟨_,fun C n=>?_,h3,h4⟩
 have ho:=h.ca.obj
 have hma:=zg3 h1
 have hlt:((i:Int) < (l.length:Int)):=by omega
 have w:=aR (i:=i) (by omega)
 have hd:IntKind.i64.wrap (d + (i:Int))=w64 (d + (i:Int)):=rfl
 rcases hr with rfl | ⟨hne,id,rfl,h5,h6,h7,h8⟩
 ·have hx1:=uV l i hi
  cases r with
  | none=>simp only [Ej,Ewi,sA,Nat.reduceAdd,Nat.reduceSub,Nat.reduceMul,Nat.reduceBEq,Nat.reduceLeDiff,Int.reduceBEq,Int.reduceBNe,Int.reduceLE,Int.reduceLT,Int.reduceGE,Int.reduceGT,Int.reduceNeg,kn,bF,mB,hlt,cL,hx1,hx,ho,jB,tG,hma,pC,h2,hd,w]
  | some q=>simp only [Ej,Ewi,sA,Nat.reduceAdd,Nat.reduceSub,Nat.reduceMul,Nat.reduceBEq,Nat.reduceLeDiff,Int.reduceBEq,Int.reduceBNe,Int.reduceLE,Int.reduceLT,Int.reduceGE,Int.reduceGT,Int.reduceNeg,kn,bF,mB,hlt,cL,hx1,hx,ho,jB,tG,hma,pC,h2,hd,w]
 ·have es:(k_0.sz == 1)=true:=rfl
  have hr1:nth (bQ l) (i * 1)=some ⟨false,.str l[i]⟩:=by rw [zav l i hi,cO _ _ _ hi]
  cases r with
  | none=>simp only [Ej,Ewi,sA,Nat.reduceAdd,Nat.reduceSub,Nat.reduceMul,Nat.reduceBEq,Nat.reduceLeDiff,Int.reduceBEq,Int.reduceBNe,Int.reduceLE,Int.reduceLT,Int.reduceGE,Int.reduceGT,Int.reduceNeg,kn,bF,mB,hlt,cL,jJ,es,hi,Nat.zero_add,h5,hr1,hx,ho,jB,tG,hma,pC,h2,hd,w]
  | some q=>simp only [Ej,Ewi,sA,Nat.reduceAdd,Nat.reduceSub,Nat.reduceMul,Nat.reduceBEq,Nat.reduceLeDiff,Int.reduceBEq,Int.reduceBNe,Int.reduceLE,Int.reduceLT,Int.reduceGE,Int.reduceGT,Int.reduceNeg,kn,bF,mB,hlt,cL,jJ,es,hi,Nat.zero_add,h5,hr1,hx,ho,jB,tG,hma,pC,h2,hd,w]
theorem zcyb (C:aM) (n:Nat) (τ:Store) (σn:Nat) (dl:D) (len:Nat) (d:Int) (fv:D):exec C n none Ej (Ewi σn dl len d fv len) τ=some (.exit 0,Ewe σn dl len d fv,τ):=by
 have hlt:¬ ((len:Int) < (len:Int)):=by omega
 simp only [Ej,Ewi,Ewe,sA,Nat.reduceAdd,Nat.reduceSub,Nat.reduceMul,Nat.reduceBEq,Nat.reduceLeDiff,Int.reduceBEq,Int.reduceBNe,Int.reduceLE,Int.reduceLT,Int.reduceGE,Int.reduceGT,Int.reduceNeg,kn,hlt]
theorem zmf {p a m:Nat} {L:List In} {dl:D} {l:List Tx} (hl:l.length < 1000000000) {σn:Nat} (hp:σn≠p) (ha:σn≠a) (d:Int) (fv:D):∀ (rest done:List Tx) (M:At) (τ:Store),l=done ++ rest→CS τ p a m L M→RdS τ p a dl l→aB τ.objs σn=some [⟨false,.ptr p 0⟩]→σn < τ.next →
  ∃ τ',(∀ C N n,rest.length < n→dL (exec C N none Ej) n (Ewi σn dl l.length d fv done.length) τ=some (.exit 0,Ewe σn dl l.length d fv,τ'))∧CS τ' p a m L (cM M rest d done.length)∧Frm p a m a m τ τ'
 | [],done,M,τ,hd,h,hr,hx,hn=>by
  refine ⟨τ,fun C N n hn=>?_,h,Frm.refl⟩
  obtain ⟨n,rfl⟩:∃ k,n=k + 1:=⟨n - 1,by omega⟩
  have e:done.length=l.length:=by rw [hd]; simp
  rw [e]
  exact gX (zcyb C N τ σn dl l.length d fv)
 | s :: rest,done,M,τ,hd,h,hr,hx,hn=>by
  have hi:done.length < l.length:=by rw [hd]; simp
  have hs:l[done.length]=s:=by
   subst hd
   simp
  obtain ⟨τ1,h1,h2,h3⟩:=zarb h hr hl hx d fv done.length hi
  rw [hs] at h2
  obtain ⟨τ2,h4,h5,h6⟩:=zmf hl hp ha d fv rest (done ++ [s]) _ τ1 (by rw [hd]; simp) h2 (hr.keep h3) (h3.get hx hn hp ha) (Nat.lt_of_lt_of_le hn h3.nx)
  simp only [List.length_append,List.length_cons,List.length_nil,Nat.zero_add] at h4 h5
  refine ⟨τ2,fun C N n hn=>?_,h5,h3.trans h6⟩
  obtain ⟨n,rfl⟩:∃ k,n=k + 1:=⟨n - 1,by omega⟩
  rw [dW (h1 C N)]
  exact h4 C N n (by simp at hn; omega)
theorem Uk {S:aV} (hs1:has S Oo=false) (hs2:has S Lj=false) (hs3:has S ze7=false) {σ:Store} {p a m:Nat} {L:List In} {M:At} (h:CS σ p a m L M) {dl:D} {l:List Tx} (hr:RdS σ p a dl l) (hl:l.length < 1000000000) (d:Int) (fv:D) (f:FuncId) (fst caps:List D) (hf:D.fn? fv=some (f,fst,caps)) (hone:fv.one=true) (L':List In)
  (hdo:∀ σ1,CS σ1 p a m L (cM M l d 0)→Frm p a m a m σ σ1→∃ σ2 a2 m2 M2,Ev S f (fst ++ caps) σ1 σ2∧CS σ2 p a2 m2 L' M2∧Frm p a m a2 m2 σ1 σ2) :
  ∃ σ' a' m',Ev S Oo [.ptr p 0,dl,.int .i64 d,fv] σ σ'∧CS σ' p a' m' L' M∧Frm p a m a' m' σ σ':=by
 have hp:=h.ca.pn
 have ha:=h.ca.an
 have hm:=h.mn
 obtain ⟨es,c,hmap,hlook⟩:=h.map
 obtain ⟨σ1,e1⟩:∃ σ1,σ1=GA σ uP [⟨false,.ptr p 0⟩]:=⟨_,rfl⟩
 obtain ⟨σ2,e2⟩:∃ σ2,σ2=GM σ1 (.map (mpD es) c):=⟨_,rfl⟩
 obtain ⟨σ3,e3⟩:∃ σ3,σ3=GA σ2 Yd [⟨false,.nilmap⟩]:=⟨_,rfl⟩
 obtain ⟨σ4,e4⟩:∃ σ4,σ4=SO σ3 (σ.next + 2) [⟨false,.map (σ.next + 1)⟩]:=⟨_,rfl⟩
 have n1:σ1.next=σ.next + 1:=by rw [e1,cS]
 have n2:σ2.next=σ.next + 2:=by rw [e2,xK,n1]
 have n3:σ3.next=σ.next + 3:=by rw [e3,cS,n2]
 have n4:σ4.next=σ.next + 3:=by rw [e4,dJ,n3]
 have c4:CS σ4 p a m L M:=by
  rw [e4]
  refine CS.so ?_ (by omega) (by omega)
  rw [e3]
  refine CS.ga ?_
  rw [e2]
  refine CS.gm ?_
  rw [e1]
  exact h.ga
 have f4:Frm p a m a m σ σ4:=by
  rw [e4]
  refine Frm.so ?_ (.inl (by omega))
  rw [e3]
  refine Frm.trans ?_ Frm.ga
  rw [e2]
  refine Frm.trans ?_ Frm.gm
  rw [e1]
  exact Frm.ga
 have x1:aB σ1.objs σ.next=some [⟨false,.ptr p 0⟩]:=by rw [e1,dY]
 have x4:aB σ4.objs σ.next=some [⟨false,.ptr p 0⟩]:=by
  rw [e4,eK (by omega),e3,fN (by omega),e2,zk4,x1]
 have o4:aB σ4.objs (σ.next + 2)=some [⟨false,.map (σ.next + 1)⟩]:=by rw [e4,fM]
 have o3:aB σ3.objs (σ.next + 2)=some [⟨false,.nilmap⟩]:=by
  have:=dY (σ:=σ2) (t:=Yd) (cs:=[⟨false,.nilmap⟩])
  rw [n2] at this
  rw [e3,this]
 have m4:aB σ4.oth (σ.next + 1)=some (.map (mpD es) c):=by
  have:=Ob (σ:=σ1) (x:=.map (mpD es) c)
  rw [n1] at this
  rw [e4,vB,e3,Cc,e2,this]
 have p1:aB σ1.objs p=some [⟨false,lC a L⟩,⟨false,.map m⟩]:=by rw [e1,fN (by omega)]; exact h.ca.obj
 have m1:aB σ1.oth m=some (.map (mpD es) c):=by rw [e1,Cc]; exact hmap
 obtain ⟨τ,hlp,cτ,fτ⟩:=zmf hl (σn:=σ.next) (by omega) (by omega) d fv l [] M σ4 rfl c4 (hr.keep f4) x4 (by omega)
 obtain ⟨σ5,a2,m2,M2,⟨n0,hev⟩,c5,f5⟩:=hdo τ cτ (f4.trans fτ)
 have fb:=(f4.trans fτ).trans f5
 have g4:=fτ.trans f5
 have hn5:=g4.nx
 have x5:aB σ5.objs σ.next=some [⟨false,.ptr p 0⟩]:=g4.get x4 (by omega) (by omega) (by omega)
 have o5:aB σ5.objs (σ.next + 2)=some [⟨false,.map (σ.next + 1)⟩]:=g4.get o4 (by omega) (by omega) (by omega)
 have m5:aB σ5.oth (σ.next + 1)=some (.map (mpD es) c):=by rw [g4.ot _ (by omega) (by omega),m4]
 have ho5:=c5.ca.obj
 refine ⟨SO σ5 p [⟨false,lC a2 L'⟩,⟨false,.map (σ.next + 1)⟩],a2,σ.next + 1,Ev.of (max n0 (l.length + 1)) fun n hn=>?_,⟨⟨fM,fun hL=>?_,c5.ca.pa,c5.ca.pn,c5.ca.an⟩,⟨es,c,m5,hlook⟩,?_⟩,?_⟩
 ·rw [bC (af:=zdl) hs1 rfl rfl]
  have hln:=hr.len
  have hlp2:=hlp (W S n) n n (by omega)
  have hev2:=hev n (by omega)
  simp only [Ewi,Ewe,List.length_nil,bV] at hlp2
  obtain ⟨k,rfl⟩:∃ k,n=k + 1:=⟨n - 1,by omega⟩
  have hcl:=zqr (S:=S) hs3 m1 k
  rw [n1] at hcl
  have hd1:WD S (k + 1) Lj [.ptr (σ.next + 2) 0,.ptr σ.next 0] σ5=some (.ret ⟨false,.tup []⟩,SO σ5 p [⟨false,lC a2 L'⟩,⟨false,.map (σ.next + 1)⟩]):=by
   refine zawb (af:=zdm) (e:={slots:=[],locs:=[],boxes:=[],defers:=[]}) hs2 rfl rfl ?_ rfl rfl rfl
   simp only [zdm,sA,Nat.reduceAdd,Nat.reduceSub,Nat.reduceMul,Nat.reduceBEq,Nat.reduceLeDiff,Int.reduceBEq,Int.reduceBNe,Int.reduceLE,Int.reduceLT,Int.reduceGE,Int.reduceGT,Int.reduceNeg,kn,mB,x5,o5,ho5,jB,tG,mL]
  have hdf:=zcu (R:=Ra) (C:=WD S (k + 1)) (m:=none) (f:=Lj) rfl rfl hd1
  have hfF:D.fnF? (.fn (.func Lj) [] [.ptr (σ.next + 2) 0,.ptr σ.next 0])=some (Lj,[],[.ptr (σ.next + 2) 0,.ptr σ.next 0]):=rfl
  simp only [zdl,sA,Nat.reduceAdd,Nat.reduceSub,Nat.reduceMul,Nat.reduceBEq,Nat.reduceLeDiff,Int.reduceBEq,Int.reduceBNe,Int.reduceLE,Int.reduceLT,Int.reduceGE,Int.reduceGT,Int.reduceNeg,kn,bF,mB,hfF,← e1,x1,p1,jB,tG,hcl,← e2,n2,← e3,o3,mL,← e4,hln,hlp2,hf,hev2,hdf]
 ·have:=c5.ca.arr hL
  exact ⟨by rw [eK (fun e=>c5.ca.pa e.symm)]; exact this.1,this.2⟩
 ·rw [dJ]; omega
 ·exact ⟨fb.nx,fun j h1 h2 h3=>by rw [eK h2,fb.ob j h1 h2 h3],fb.ty,fb.ot,fb.fa,.inr (by omega)⟩
end Go.Fu
namespace Go.Fu
open Go Go.Mx
set_option maxRecDepth 10000
set_option maxHeartbeats 4000000
def SD:aV:=[(rO,Ec)]
def Iy (f:FuncId) (ds:List D) (σ:Store) (p a m:Nat) (L':List In) (M:At):Prop:=∃ σ' a' m',Ev SD f ds σ σ'∧CS σ' p a' m' L' M∧Frm p a m a' m' σ σ'
def Okf (f:FuncId) (c:Co) (F:At→Int→List In→List In):Prop:=∀ (σ:Store) (p a m:Nat) (L:List In) (M:At) (d:Int),CS σ p a m L M→(F M d L).length < 50000000→Iy f [.ptr p 0,dCo c,.int .i64 d] σ p a m (F M d L) M
theorem Ev.at {S:aV} {f:FuncId} {ds:List D} {σ σ':Store} (h:Ev S f ds σ σ'):∃ n0,∀ n,n0≤n→W S n f ds σ=some (.ret ⟨false,.tup []⟩,σ'):=h
section
variable {C:aM} {n N:Nat} {τ:Store}
def Qv (cb xb db kb fb:Nat) (bs:List (Tx × Co)) (i:Nat):Env:={slots:=[(0,⟨false,.ptr cb 0⟩),(1,⟨false,.ptr xb 0⟩),(2,⟨false,.ptr db 0⟩),(3,⟨false,.ptr kb 0⟩),(4,⟨false,.ptr fb 0⟩),(8,⟨false,dBl' bs⟩),(9,⟨false,.int .i64 bs.length⟩),(10,⟨false,.int .i64 i⟩)],locs:=[],boxes:=[],defers:=[]}
def zmh (cb xb db kb fb:Nat) (bs:List (Tx × Co)):Env:={slots:=[(0,⟨false,.ptr cb 0⟩),(1,⟨false,.ptr xb 0⟩),(2,⟨false,.ptr db 0⟩),(3,⟨false,.ptr kb 0⟩),(4,⟨false,.ptr fb 0⟩),(8,⟨false,dBl' bs⟩),(9,⟨false,.int .i64 bs.length⟩),(10,⟨false,.int .i64 bs.length⟩),(11,⟨false,.bool false⟩)],locs:=[],boxes:=[],defers:=[]}
theorem zbpb (C:aM) (n:Nat) (τ:Store) (cb xb db kb fb:Nat) (bs:List (Tx × Co)):exec C n none Yk (Qv cb xb db kb fb bs bs.length) τ=some (.exit 0,zmh cb xb db kb fb bs,τ):=by
 have hlt:¬ ((bs.length:Int) < (bs.length:Int)):=by omega
 simp only [Yk,Qv,zmh,sA,Nat.reduceAdd,Nat.reduceSub,Nat.reduceMul,Nat.reduceBEq,Nat.reduceLeDiff,Int.reduceBEq,Int.reduceBNe,Int.reduceLE,Int.reduceLT,Int.reduceGE,Int.reduceGT,Int.reduceNeg,kn,hlt]
theorem zy9 {C:aM} {n:Nat} {τ τ1 τ2:Store} {p:Nat} (cb xb db kb fb:Nat) (bs:List (Tx × Co)) (i:Nat) (hi:i < bs.length) (hl:bs.length < 1000000000) (d:Int)
  (hx:aB τ.objs xb=some [⟨false,.ptr p 0⟩]) (hd:aB τ.objs db=some [⟨false,.int .i64 d⟩]) (hk:aB τ.objs kb=some [⟨false,.int .i64 bs.length⟩])
  (hx1:aB τ1.objs xb=some [⟨false,.ptr p 0⟩]) (hk1:aB τ1.objs kb=some [⟨false,.int .i64 bs.length⟩])
  (h1:C pZ [.ptr p 0,dCo bs[i].2,.int .i64 (w64 (d + bs.length))] τ=some (.ret ⟨false,.tup []⟩,τ1))
  (h2:C n_6 [.ptr p 0,.str kQ,.int .i64 (Nz bs.length i)] τ1=some (.ret ⟨false,.tup []⟩,τ2)) :
  exec C n none Yk (Qv cb xb db kb fb bs i) τ=some (.normal,Qv cb xb db kb fb bs (i + 1),τ2):=by
 have hlt:((i:Int) < (bs.length:Int)):=by omega
 have w:=aR (i:=i) (by omega)
 have hxx:=jU (k:=k_3) (sz:=15) rfl dB bs i hi
 generalize bs[i]=b at hxx h1
 have hdB:=uS b
 have hdC:=cH b.2
 rw [hdB] at hxx
 rw [hdC] at h1
 simp only [cCo] at hxx h1
 simp only [w64] at h1
 simp only [Nz,kQ] at h2
 simp only [Yk,Qv,dBl',sA,Nat.reduceAdd,Nat.reduceSub,Nat.reduceMul,Nat.reduceBEq,Nat.reduceLeDiff,Int.reduceBEq,Int.reduceBNe,Int.reduceLE,Int.reduceLT,Int.reduceGE,Int.reduceGT,Int.reduceNeg,kn,hlt,cL,hxx,bZ,hx,hd,hk,h1,hx1,hk1,h2,w]
end
def nN (F:At→Int→List In→List In):Prop:=∀ M d L,L.length≤(F M d L).length
def Bx (σ:Store) (p a:Nat) (l:List (Nat × List Cell)):Prop:=∀ q∈l,aB σ.objs q.1=some q.2∧q.1 < σ.next∧q.1≠p∧q.1≠a
theorem Bx.keep {σ σ':Store} {p a m a' m':Nat} {l:List (Nat × List Cell)} (h:Bx σ p a l) (f:Frm p a m a' m' σ σ'):Bx σ' p a' l:=fun q hq=>by
 obtain ⟨h1,h2,h3,h4⟩:=h q hq
 exact ⟨f.get h1 h2 h3 h4,Nat.lt_of_lt_of_le h2 f.nx,h3,by rcases f.fa with e | e <;> omega⟩
theorem zV {lz:Co→List In→List In} (k:Nat):∀ (l:List (Tx × Co)) (i:Nat) (L:List In),(∀ b∈l,∀ L,L.length≤(lz b.2 L).length)→L.length≤(sS lz k l i L).length
 | [],i,L,_=>Nat.le_refl _
 | b :: l,i,L,h=>by
  have h1:=zV k l (i + 1) (lz b.2 L ++ [op1 kQ (Nz k i)]) fun x hx=>h x (List.mem_cons_of_mem _ hx)
  have h2:=h b (List.mem_cons_self ..) L
  simp only [sS,List.length_append,List.length_cons,List.length_nil] at h1 ⊢
  omega
theorem zly {lz:Co→At→Int→List In→List In} {bs:List (Tx × Co)} (hl:bs.length < 1000000000) (hlz:∀ b∈bs,Okf pZ b.2 (lz b.2)) (hmo:∀ b∈bs,nN (lz b.2)) {p:Nat} (cb xb db kb fb:Nat) (d:Int) (M:At) :
  ∀ (rest done:List (Tx × Co)) (L:List In) (σ:Store) (a m:Nat),bs=done ++ rest→CS σ p a m L M→Bx σ p a [(xb,[⟨false,.ptr p 0⟩]),(db,[⟨false,.int .i64 d⟩]),(kb,[⟨false,.int .i64 bs.length⟩])]→(sS (fun b L=>lz b M (w64 (d + bs.length)) L) bs.length rest done.length L).length < 50000000 →
  ∃ σ' a' m' n0,(∀ N n,n0≤N→rest.length < n→dL (exec (W SD N) N none Yk) n (Qv cb xb db kb fb bs done.length) σ=some (.exit 0,zmh cb xb db kb fb bs,σ'))∧CS σ' p a' m' (sS (fun b L=>lz b M (w64 (d + bs.length)) L) bs.length rest done.length L) M∧Frm p a m a' m' σ σ'
 | [],done,L,σ,a,m,hd,h,hb,hn=>by
  refine ⟨σ,a,m,0,fun N n _ hn=>?_,h,Frm.refl⟩
  obtain ⟨n,rfl⟩:∃ k,n=k + 1:=⟨n - 1,by omega⟩
  have e:done.length=bs.length:=by rw [hd]; simp
  rw [e]
  exact gX (zbpb (W SD N) N σ cb xb db kb fb bs)
 | b :: rest,done,L,σ,a,m,hd,h,hb,hn=>by
  have hi:done.length < bs.length:=by rw [hd]; simp
  have hs:bs[done.length]=b:=by
   subst hd
   simp
  have hbm:b∈bs:=by rw [hd]; simp
  have h1:=zV bs.length rest (done.length + 1) (lz b.2 M (w64 (d + bs.length)) L ++ [op1 kQ (Nz bs.length done.length)]) (lz:=fun b L=>lz b M (w64 (d + bs.length)) L) (fun x hx L=>hmo x (by rw [hd]; simp [hx]) _ _ _)
  simp only [sS] at hn
  simp only [List.length_append,List.length_cons,List.length_nil] at h1
  obtain ⟨σ1,a1,m1,⟨n1,e1⟩,c1,f1⟩:=hlz b hbm σ p a m L M (w64 (d + bs.length)) h (by omega)
  obtain ⟨σ2,e2,c2,f2,o2⟩:=xT (S:=SD) rfl c1.ca (by omega) kQ (Nz bs.length done.length)
  have c2':CS σ2 p σ1.next m1 (lz b.2 M (w64 (d + bs.length)) L ++ [op1 kQ (Nz bs.length done.length)]) M:=⟨c2,by rw [o2]; exact c1.map,by have:=c1.mn; have:=(f2 m1).nx; omega⟩
  have b1:=hb.keep f1
  have b2:=b1.keep (f2 m1)
  obtain ⟨σ3,a3,m3,n3,e3,c3,f3⟩:=zly hl hlz hmo cb xb db kb fb d M rest (done ++ [b]) _ σ2 _ m1 (by rw [hd]; simp) c2' b2 (by simp only [List.length_append,List.length_cons,List.length_nil,Nat.zero_add]; exact hn)
  simp only [List.length_append,List.length_cons,List.length_nil,Nat.zero_add] at e3 c3
  refine ⟨σ3,a3,m3,max (max n1 n3) 1,fun N n hN hn=>?_,c3,(f1.trans (f2 m1)).trans f3⟩
  obtain ⟨n,rfl⟩:∃ k,n=k + 1:=⟨n - 1,by omega⟩
  obtain ⟨K,rfl⟩:∃ k,N=k + 1:=⟨N - 1,by omega⟩
  have x0:=hb (xb,[⟨false,.ptr p 0⟩]) (by simp)
  have d0:=hb (db,[⟨false,.int .i64 d⟩]) (by simp)
  have k0:=hb (kb,[⟨false,.int .i64 bs.length⟩]) (by simp)
  have x1:=b1 (xb,[⟨false,.ptr p 0⟩]) (by simp)
  have k1:=b1 (kb,[⟨false,.int .i64 bs.length⟩]) (by simp)
  rw [dW (zy9 (τ:=σ) (τ1:=σ1) (τ2:=σ2) (p:=p) cb xb db kb fb bs done.length hi hl d x0.1 d0.1 k0.1 x1.1 k1.1 (by rw [hs]; exact e1 (K + 1) (by omega)) (e2 K))]
  exact e3 (K + 1) n (by omega) (by simp at hn; omega)
theorem zup {lz go:Co→At→Int→List In→List In} {c x:Co} (hk:c.ks=[x]) (hl:c.bs.length < 1000000000) (hlz:∀ b∈c.bs,Okf pZ b.2 (lz b.2)) (hmo:∀ b∈c.bs,nN (lz b.2)) {g:FuncId} (hg:isY g=false) (hgo:Okf g x (go x)) (hgm:nN (go x))
  {σ:Store} {p a m:Nat} {L:List In} {M:At} {d:Int} (h:CS σ p a m L M) {cb xb db kb fb:Nat} (hb:Bx σ p a [(cb,(cCo c).map Cell.of),(xb,[⟨false,.ptr p 0⟩]),(db,[⟨false,.int .i64 d⟩]),(kb,[⟨false,.int .i64 c.bs.length⟩]),(fb,[⟨false,.fn (.func g) [.ptr p 0] []⟩])])
  (hn:(go x M (w64 (d + c.bs.length)) (sS (fun b L=>lz b M (w64 (d + c.bs.length)) L) c.bs.length c.bs 0 L)).length < 50000000) :
  Iy zev [.ptr cb 0,.ptr xb 0,.ptr db 0,.ptr kb 0,.ptr fb 0] σ p a m (go x M (w64 (d + c.bs.length)) (sS (fun b L=>lz b M (w64 (d + c.bs.length)) L) c.bs.length c.bs 0 L)) M:=by
 have h2:=hgm M (w64 (d + c.bs.length)) (sS (fun b L=>lz b M (w64 (d + c.bs.length)) L) c.bs.length c.bs 0 L)
 obtain ⟨σ1,a1,m1,n1,e1,c1,f1⟩:=zly hl hlz hmo cb xb db kb fb d M c.bs [] L σ a m rfl h (fun q hq=>hb q (by simp at hq ⊢; rcases hq with h | h | h <;> simp [h])) (by simp only [List.length_nil]; omega)
 simp only [List.length_nil] at e1 c1
 obtain ⟨σ2,a2,m2,⟨n2,e2⟩,c2,f2⟩:=hgo σ1 p a1 m1 _ M (w64 (d + c.bs.length)) c1 hn
 refine ⟨σ2,a2,m2,Ev.of (max (max n1 n2) (c.bs.length + 1)) fun n hN=>?_,c2,f1.trans f2⟩
 rw [bC (af:=zdh) rfl rfl rfl]
 have b1:=hb.keep f1
 have q0:=(hb (cb,(cCo c).map Cell.of) (by simp)).1
 have q1:=(b1 (cb,(cCo c).map Cell.of) (by simp)).1
 have q2:=(b1 (db,[⟨false,.int .i64 d⟩]) (by simp)).1
 have q3:=(b1 (kb,[⟨false,.int .i64 c.bs.length⟩]) (by simp)).1
 have q4:=(b1 (fb,[⟨false,.fn (.func g) [.ptr p 0] []⟩]) (by simp)).1
 have hlp:=e1 n n (by omega) (by omega)
 have hev:=e2 n (by omega)
 have hx:=jU (k:=k_2) (sz:=10) rfl dCo [x] 0 (by simp)
 have hln:lenOf (dBl' c.bs)=some c.bs.length:=jN _ _
 simp only [List.getElem_cons_zero] at hx
 have hdl:bE k_3 (c.bs.map dB)=dBl' c.bs:=rfl
 have hfn:D.fn? (.fn (.func g) [.ptr p 0] [])=some (g,[.ptr p 0],[]):=fn?_fn hg
 simp only [cCo,hk] at q0 q1
 rw [hdl] at q0 q1
 have hag:=agg?_dCo x
 have hlx:=xQ x
 simp only [Qv,zmh,bV] at hlp
 simp only [w64] at hev
 generalize bE k_2 ([x].map dCo)=kd at *
 simp only [List.map_cons,List.map_nil] at q0 q1
 simp only [zdh,sA,Nat.reduceAdd,Nat.reduceSub,Nat.reduceMul,Nat.reduceBEq,Nat.reduceLeDiff,Int.reduceBEq,Int.reduceBNe,Int.reduceLE,Int.reduceLT,Int.reduceGE,Int.reduceGT,Int.reduceNeg,kn,q0,hln,hlp,q1,q2,q3,q4,hx,hag,hlx,hfn,hev]
def jV (g:FuncId) (p:Nat):D:=.fn (.func g) [.ptr p 0] []
theorem zaf {lz go:Co→At→Int→List In→List In} {c x:Co} (hk:c.ks=[x]) (hl:c.bs.length < 300000000) (hlz:∀ b∈c.bs,Okf pZ b.2 (lz b.2)) (hmo:∀ b∈c.bs,nN (lz b.2)) {g:FuncId} (hg:isY g=false) (hgo:Okf g x (go x)) (hgm:nN (go x))
  {σ:Store} {p a m:Nat} {L:List In} {M:At} {d:Int} (h:CS σ p a m L M) (hn:(Kz lz go c M d L).length < 50000000):Iy Vw [.ptr p 0,dCo c,.int .i64 d,jV g p] σ p a m (Kz lz go c M d L) M:=by
 have hp:=h.ca.pn
 have ha:=h.ca.an
 have hm:=h.mn
 have hkid:kid c 0=x:=by simp [kid,hk]
 unfold Kz at hn ⊢
 rw [hkid] at hn ⊢
 have m1:=hgm (cM M (nms c) d 0) (w64 (d + c.bs.length)) (sS (fun b L=>lz b (cM M (nms c) d 0) (w64 (d + c.bs.length)) L) c.bs.length c.bs 0 (L ++ [op1 oM c.bs.length]))
 have m2:=zV c.bs.length c.bs 0 (L ++ [op1 oM c.bs.length]) (lz:=fun b L=>lz b (cM M (nms c) d 0) (w64 (d + c.bs.length)) L) fun x hx L=>hmo x hx _ _ _
 simp only [List.length_append,List.length_cons,List.length_nil] at m2
 obtain ⟨σ1,e1⟩:∃ σ1,σ1=GA σ uP [⟨false,.ptr p 0⟩]:=⟨_,rfl⟩
 obtain ⟨σ2,e2⟩:∃ σ2,σ2=GA σ1 zfm ((cCo c).map Cell.of):=⟨_,rfl⟩
 obtain ⟨σ3,e3⟩:∃ σ3,σ3=GA σ2 tL [⟨false,.int .i64 d⟩]:=⟨_,rfl⟩
 obtain ⟨σ4,e4⟩:∃ σ4,σ4=GA σ3 zfn [⟨false,jV g p⟩]:=⟨_,rfl⟩
 obtain ⟨σ5,e5⟩:∃ σ5,σ5=GA σ4 tL [⟨false,.int .i64 0⟩]:=⟨_,rfl⟩
 obtain ⟨σ6,e6⟩:∃ σ6,σ6=SO σ5 (σ.next + 4) [⟨false,.int .i64 c.bs.length⟩]:=⟨_,rfl⟩
 have n1:σ1.next=σ.next + 1:=by rw [e1,cS]
 have n2:σ2.next=σ.next + 2:=by rw [e2,cS,n1]
 have n3:σ3.next=σ.next + 3:=by rw [e3,cS,n2]
 have n4:σ4.next=σ.next + 4:=by rw [e4,cS,n3]
 have n5:σ5.next=σ.next + 5:=by rw [e5,cS,n4]
 have n6:σ6.next=σ.next + 5:=by rw [e6,dJ,n5]
 have c6:CS σ6 p a m L M:=by
  rw [e6]
  refine CS.so ?_ (by omega) (by omega)
  rw [e5]; refine CS.ga ?_
  rw [e4]; refine CS.ga ?_
  rw [e3]; refine CS.ga ?_
  rw [e2]; refine CS.ga ?_
  rw [e1]; exact h.ga
 have f6:Frm p a m a m σ σ6:=by
  rw [e6]
  refine Frm.so ?_ (.inl (by omega))
  rw [e5]; refine Frm.trans ?_ Frm.ga
  rw [e4]; refine Frm.trans ?_ Frm.ga
  rw [e3]; refine Frm.trans ?_ Frm.ga
  rw [e2]; refine Frm.trans ?_ Frm.ga
  rw [e1]; exact Frm.ga
 have b1:aB σ1.objs σ.next=some [⟨false,.ptr p 0⟩]:=by rw [e1,dY]
 have b2:aB σ2.objs (σ.next + 1)=some ((cCo c).map Cell.of):=by rw [e2,← n1,dY]
 have b3:aB σ3.objs (σ.next + 2)=some [⟨false,.int .i64 d⟩]:=by rw [e3,← n2,dY]
 have b4:aB σ4.objs (σ.next + 3)=some [⟨false,jV g p⟩]:=by rw [e4,← n3,dY]
 have b5:aB σ5.objs (σ.next + 4)=some [⟨false,.int .i64 0⟩]:=by rw [e5,← n4,dY]
 have k4:∀ j,j < σ.next + 4→aB σ6.objs j=aB σ4.objs j:=fun j hj=>by rw [e6,eK (by omega),e5,fN (by omega)]
 have d1:aB σ4.objs σ.next=some [⟨false,.ptr p 0⟩]:=by rw [e4,fN (by omega),e3,fN (by omega),e2,fN (by omega),b1]
 have d2:aB σ4.objs (σ.next + 1)=some ((cCo c).map Cell.of):=by rw [e4,fN (by omega),e3,fN (by omega),b2]
 have d3:aB σ4.objs (σ.next + 2)=some [⟨false,.int .i64 d⟩]:=by rw [e4,fN (by omega),b3]
 have g5:aB σ6.objs (σ.next + 4)=some [⟨false,.int .i64 c.bs.length⟩]:=by rw [e6,fM]
 have hbx:Bx σ6 p a [(σ.next + 1,(cCo c).map Cell.of),(σ.next,[⟨false,.ptr p 0⟩]),(σ.next + 2,[⟨false,.int .i64 d⟩]),(σ.next + 4,[⟨false,.int .i64 c.bs.length⟩]),(σ.next + 3,[⟨false,jV g p⟩])]:=by
  intro q hq
  simp only [List.mem_cons,List.not_mem_nil,or_false] at hq
  rcases hq with rfl | rfl | rfl | rfl | rfl
  ·exact ⟨by rw [k4 _ (by show σ.next + 1 < _; omega)]; exact d2,by show σ.next + 1 < _; omega,by show σ.next + 1≠_; omega,by show σ.next + 1≠_; omega⟩
  ·exact ⟨by rw [k4 _ (by show σ.next < _; omega)]; exact d1,by show σ.next < _; omega,by show σ.next≠_; omega,by show σ.next≠_; omega⟩
  ·exact ⟨by rw [k4 _ (by show σ.next + 2 < _; omega)]; exact d3,by show σ.next + 2 < _; omega,by show σ.next + 2≠_; omega,by show σ.next + 2≠_; omega⟩
  ·exact ⟨g5,by show σ.next + 4 < _; omega,by show σ.next + 4≠_; omega,by show σ.next + 4≠_; omega⟩
  ·exact ⟨by rw [k4 _ (by show σ.next + 3 < _; omega)]; exact b4,by show σ.next + 3 < _; omega,by show σ.next + 3≠_; omega,by show σ.next + 3≠_; omega⟩
 obtain ⟨σ7,p7,c7,f7,o7⟩:=xT (S:=SD) rfl c6.ca (by omega) oM c.bs.length
 have c7':CS σ7 p σ6.next m (L ++ [op1 oM c.bs.length]) M:=⟨c7,by rw [o7]; exact c6.map,by have:=(f7 m).nx; omega⟩
 have hb7:=hbx.keep (f7 m)
 have f67:=f6.trans (f7 m)
 obtain ⟨σ8,a8,m8,⟨n8,w8⟩,c8,f8⟩:=Uk (S:=SD) rfl rfl rfl c7' (dl:=dSs (nms c)) (l:=nms c) (.inl rfl) (by simp [nms]; omega) d (.fn (.func zev) [] [.ptr (σ.next + 1) 0,.ptr σ.next 0,.ptr (σ.next + 2) 0,.ptr (σ.next + 4) 0,.ptr (σ.next + 3) 0]) zev [] [.ptr (σ.next + 1) 0,.ptr σ.next 0,.ptr (σ.next + 2) 0,.ptr (σ.next + 4) 0,.ptr (σ.next + 3) 0] rfl rfl
  (go x (cM M (nms c) d 0) (w64 (d + c.bs.length)) (sS (fun b L=>lz b (cM M (nms c) d 0) (w64 (d + c.bs.length)) L) c.bs.length c.bs 0 (L ++ [op1 oM c.bs.length])))
  (fun τ cτ fτ=>by
   obtain ⟨σ',a',m',h1,h2,h3⟩:=zup (lz:=lz) (go:=go) hk (by omega) hlz hmo hg hgo hgm cτ (hb7.keep fτ) hn
   exact ⟨σ',a',m',_,h1,h2,h3⟩)
 refine ⟨σ8,a8,m8,Ev.of (n8 + 1) fun n hN=>?_,c8,f67.trans f8⟩
 rw [bC (af:=zdg) rfl rfl rfl]
 obtain ⟨k,rfl⟩:∃ k,n=k + 1:=⟨n - 1,by omega⟩
 have w8:=w8 (k + 1) (by omega)
 have p7:=p7 k
 have hnm:=zmn (S:=SD) rfl c.bs hl k σ7
 have hln:lenOf (dBl' c.bs)=some c.bs.length:=jN _ _
 have hdl:bE k_3 (c.bs.map dB)=dBl' c.bs:=rfl
 have u1:=(hb7 (σ.next,[⟨false,.ptr p 0⟩]) (by simp)).1
 have u2:=(hb7 (σ.next + 1,(cCo c).map Cell.of) (by simp)).1
 have u3:=(hb7 (σ.next + 2,[⟨false,.int .i64 d⟩]) (by simp)).1
 have g1:aB σ6.objs σ.next=some [⟨false,.ptr p 0⟩]:=by rw [k4 _ (by omega),d1]
 have hdc:=cH c
 have hco:=yT c
 have hce:=lG c
 simp only [cCo] at d2 u2
 rw [hdl] at d2 u2
 simp only [List.map_cons,List.map_nil] at d2 u2
 generalize bE k_2 (c.ks.map dCo)=kd at *
 generalize bE k_4 (c.al.map dA)=ad at *
 simp only [oM] at p7
 simp only [nms] at w8
 simp only [bnF] at hnm
 have hlf:(jV g p).cells=[jV g p]:=rfl
 have hlo:(jV g p).ok=true:=rfl
 simp only [zdg,sA,Nat.reduceAdd,Nat.reduceSub,Nat.reduceMul,Nat.reduceBEq,Nat.reduceLeDiff,Int.reduceBEq,Int.reduceBNe,Int.reduceLE,Int.reduceLT,Int.reduceGE,Int.reduceGT,Int.reduceNeg,kn,bF,mB,← e1,n1,hco,hce,← e2,n2,← e3,n3,hlf,hlo,← e4,d2,hln,n4,← e5,b5,← e6,g1,g5,p7,u1,u2,u3,gV,hnm,w8]
end Go.Fu

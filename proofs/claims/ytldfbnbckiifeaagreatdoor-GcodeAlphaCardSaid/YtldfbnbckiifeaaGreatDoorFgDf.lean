/-
 What the coder calls: names,rows of names that are copied and turned round,maps that are copied,the table of operations.
-/
import Derived.Test.YtldfbnbckiifeaaGreatDoorFgDc
import Derived.Test.YtldfbnbckiifeaaGreatDoorFgZa
set_option maxHeartbeats 4000000
set_option linter.unusedSimpArgs false
set_option linter.unusedVariables false
set_option linter.unusedSectionVars false
namespace Go.Fu
open Go Go.Mx
set_option maxRecDepth 10000
set_option maxHeartbeats 4000000
def bnF:D:=.fn (.func qF) [] []
def Db:List D→Cell→Prop:=fun ds c=>∀ b:Tx × Co,ds=[dB b]→c=⟨false,.str b.1⟩
theorem ziy {a b:Tx × Co} (h:dB a=dB b):a=b:=by
 rw [tX,tX] at h
 simp only [D.agg.injEq,aL,D.str.injEq,true_and] at h
 obtain ⟨x,c⟩:=a
 obtain ⟨y,d⟩:=b
 have hx:dCo c=dCo d:=by rw [fC,fC,h.2]
 rw [rL hx]
 exact congrArg (·,d) h.1
theorem zik (b:Tx × Co):OkP qF [dB b] ⟨false,.str b.1⟩:=by
 have hd:=tX b
 have hn:eB [dB b]=true:=by
  rw [hd]
  simp [eB,eT,Pz]
 refine hU (af:=zft) (n:=1) (σ':=σ0) (iT [] 1) rfl rfl hn rfl ?_
 simp only [zft,hd,cCo,sA,Nat.reduceAdd,Nat.reduceSub,Nat.reduceMul,Nat.reduceBEq,Nat.reduceLeDiff,Int.reduceBEq,Int.reduceBNe,Int.reduceLE,Int.reduceLT,Int.reduceGE,Int.reduceGT,Int.reduceNeg,kn,fM]
theorem zw2 {S:eD} (hS:dE S qF=some Db) (b:Tx × Co) (n:Nat) (σ:Store):T S (n + 1) qF [dB b] σ=some (.ret ⟨false,.str b.1⟩,σ):=by
 obtain ⟨c,h1,h2⟩:=mX (S:=S) hS rfl (c:=⟨false,.str b.1⟩) (fun a h=>by
  simp only [aL,and_true] at h
  rw [ziy h]) (zik b)
 rw [h2,h1 b rfl]
def dBl' (l:List (Tx × Co)):D:=eJ k_3 (l.map dB)
section
variable {C:dQ} {n:Nat} {σ:Store}
def Enm (bs:List (Tx × Co)) (i:Nat):Env:={slots:=[(1,⟨false,bnF⟩),(5,⟨ow i,dSs ((bs.take i).map Prod.fst)⟩),(8,⟨false,dBl' bs⟩),(9,⟨false,.int .i64 bs.length⟩),(10,⟨false,.int .i64 i⟩)],locs:=[],boxes:=[],defers:=[]}
theorem zj1 (l:List (Tx × Co)) (i:Nat) (h:i < l.length):(l.take i).map Prod.fst ++ [l[i].1]=(l.take (i + 1)).map Prod.fst:=by
 rw [← hZ l i h,aU]
 rfl
theorem zc7b (bs:List (Tx × Co)) (i:Nat) (h:i < bs.length) (hl:bs.length < 1000000000) (h1:∀ b σ,C qF [dB b] σ=some (.ret ⟨false,.str b.1⟩,σ)):exec C n none yS (Enm bs i) σ=some (.normal,Enm bs (i + 1),σ):=by
 have hlt:((i:Int) < (bs.length:Int)):=by omega
 have w:=dV (i:=i) (by omega)
 have hx:=mL (k:=k_3) (sz:=15) rfl dB bs i h
 have ha:=uG ((bs.take i).map Prod.fst) bs[i].1 (ow i) (fun hne=>by
  cases i with
  | zero=>exact absurd rfl hne
  | succ i=>rfl) (by simp; omega)
 rw [zj1 bs i h] at ha
 have h2:=h1 bs[i] σ
 have hfn:D.fn? bnF=some (qF,[],[]):=rfl
 generalize bs[i]=b at hx ha h2
 have hd:=tX b
 rw [hd] at hx h2
 simp only [cCo] at hx h2
 simp only [yS,Enm,dBl',sA,Nat.reduceAdd,Nat.reduceSub,Nat.reduceMul,Nat.reduceBEq,Nat.reduceLeDiff,Int.reduceBEq,Int.reduceBNe,Int.reduceLE,Int.reduceLT,Int.reduceGE,Int.reduceGT,Int.reduceNeg,kn,hlt,fL,hx,fM,hfn,h2,ha,w,kK]
theorem zfob (bs:List (Tx × Co)):exec C n none yS (Enm bs bs.length) σ=some (.exit 0,{Enm bs bs.length with slots:=[(1,⟨false,bnF⟩),(5,⟨ow bs.length,dSs ((bs.take bs.length).map Prod.fst)⟩),(8,⟨false,dBl' bs⟩),(9,⟨false,.int .i64 bs.length⟩),(10,⟨false,.int .i64 bs.length⟩),(11,⟨false,.bool false⟩)]},σ):=by
 have hlt:¬ ((bs.length:Int) < (bs.length:Int)):=by omega
 simp only [yS,Enm,sA,Nat.reduceAdd,Nat.reduceSub,Nat.reduceMul,Nat.reduceBEq,Nat.reduceLeDiff,Int.reduceBEq,Int.reduceBNe,Int.reduceLE,Int.reduceLT,Int.reduceGE,Int.reduceGT,Int.reduceNeg,kn,hlt]
end
theorem noPtr_dBl' (l:List (Tx × Co)):eT (dBl' l)=true:=by
 rw [dBl',mC]
 exact lN (fun b=>by rw [tX]; simp [eT,eB,Pz]) l
theorem zx4 (bs:List (Tx × Co)) (hl:bs.length < 300000000):OkP uL [dBl' bs,bnF] ⟨false,dSs (bs.map Prod.fst)⟩:=by
 refine OkP.weak (o:=ow bs.length) rfl (hU (af:=Vi) (n:=1000000000) (σ':=σ0) (iT [(qF,Db)] 1) rfl rfl (by simp [eB,noPtr_dBl',bnF,eT]) (fQ _) ?_)
 have h0:=iL (body:=exec (T [(qF,Db)] 1) 1000000000 none yS) (fun i=>Enm bs i) (fun _=>σ0) bs.length (r:=_) (fun _ _ h=>by cases h) (fun i hi=>zc7b bs i hi (by omega) (fun x σ=>zw2 (S:=[(qF,Db)]) rfl x 0 σ)) (zfob bs) 0 1000000000 (by omega) (by omega)
 rw [aV] at h0
 have e0:(bs.take 0).map Prod.fst=[]:=rfl
 have e1:dSs []=.nils:=rfl
 have hln:lenOf (dBl' bs)=some bs.length:=mM _ _
 simp only [Enm,eR,e0,e1,oJ] at h0
 simp only [Vi,sA,Nat.reduceAdd,Nat.reduceSub,Nat.reduceMul,Nat.reduceBEq,Nat.reduceLeDiff,Int.reduceBEq,Int.reduceBNe,Int.reduceLE,Int.reduceLT,Int.reduceGE,Int.reduceGT,Int.reduceNeg,kn,hln,h0]
def Hr:List D→Cell→Prop:=fun ds c=>∀ bs:List (Tx × Co),ds=[dBl' bs,bnF]→c=⟨false,dSs (bs.map Prod.fst)⟩
theorem zpo {S:eD} (hS:dE S uL=some Hr) (bs:List (Tx × Co)) (hl:bs.length < 300000000) (n:Nat) (σ:Store):W S (n + 1) uL [dBl' bs,bnF] σ=some (.ret ⟨false,dSs (bs.map Prod.fst)⟩,σ):=by
 obtain ⟨c,h1,h2⟩:=qS (S:=S) hS rfl (c:=⟨false,dSs (bs.map Prod.fst)⟩) (fun a h=>by
  simp only [aL,and_true] at h
  rw [wR ziy (qM h)]) (zx4 bs hl)
 rw [h2,h1 bs rfl]
theorem zjs {ot:List (Nat × Oth)} {m:Nat} {es:List (D × D × Nat)} {c:Nat} (h:dE ot m=some (.map es c)):rZ ot (.map m)=some (m,es,c):=by simp only [rZ,h,dG,dK]
theorem zjw {ot:List (Nat × Oth)} {m:Nat} {es:List (D × D × Nat)} {c:Nat} (h:dE ot m=some (.map es c)):tZ ot (.map m)=some es:=by simp only [tZ,h,dG,dK]
theorem rR {s:Tx}:uI true (.str s)=true:=rfl
theorem ztz {S:eD} (hs:has S zho=false) {σ:Store} {m:Nat} {es:List (D × D × Nat)} {c:Nat} (h:dE σ.oth m=some (.map es c)) (n:Nat):W S (n + 1) zho [.map m] σ=some (.ret ⟨false,.map σ.next⟩,GM σ (.map es c)):=by
 rw [eH (af:=zgj) hs rfl rfl]
 simp only [zgj,sA,Nat.reduceAdd,Nat.reduceSub,Nat.reduceMul,Nat.reduceBEq,Nat.reduceLeDiff,Int.reduceBEq,Int.reduceBNe,Int.reduceLE,Int.reduceLT,Int.reduceGE,Int.reduceGT,Int.reduceNeg,kn,h]
 rfl
def RdS (σ:Store) (p a:Nat) (d:D) (l:List Tx):Prop:=d=dSs l∨(l≠[]∧∃ id,d=.arr k_0 id 0 l.length∧dE σ.objs id=some (eW l)∧id < σ.next∧id≠p∧id≠a)
theorem RdS.keep {σ σ':Store} {p a m a' m':Nat} {d:D} {l:List Tx} (h:RdS σ p a d l) (f:Frm p a m a' m' σ σ'):RdS σ' p a' d l:=by
 rcases h with h | ⟨h1,id,h2,h3,h4,h5,h6⟩
 ·exact .inl h
 ·exact .inr ⟨h1,id,h2,f.get h3 h4 h5 h6,aP h4 f.nx,h5,by rcases f.fa with e | e <;> omega⟩
theorem RdS.len {σ:Store} {p a:Nat} {d:D} {l:List Tx} (h:RdS σ p a d l):lenOf d=some l.length:=by
 rcases h with rfl | ⟨_,id,rfl,_⟩
 ·exact mO l
 ·rfl
theorem zx6 (l:List Tx) (i:Nat) (h:i < l.length):nth (eW l) i=some ⟨false,.str l[i]⟩:=by
 rw [eW,Gq,Gp _ _ h]
 rfl
structure FrA (σ σ':Store):Prop where
 nx:σ.next≤σ'.next
 ob:∀ j,j < σ.next→dE σ'.objs j=dE σ.objs j
 ty:∀ j,j < σ.next→dE σ'.tys j=dE σ.tys j
 ot:∀ j,j < σ.next→dE σ'.oth j=dE σ.oth j
theorem FrA.refl {σ:Store}:FrA σ σ:=⟨aM _,fun _ _=>rfl,fun _ _=>rfl,fun _ _=>rfl⟩
theorem FrA.trans {σ σ1 σ2:Store} (h:FrA σ σ1) (k:FrA σ1 σ2):FrA σ σ2:=by
 have h1:=h.nx
 exact ⟨Nat.le_trans h.nx k.nx,fun j hj=>by rw [k.ob j (by omega),h.ob j hj],fun j hj=>by rw [k.ty j (by omega),h.ty j hj],fun j hj=>by rw [k.ot j (by omega),h.ot j hj]⟩
theorem FrA.ga {σ:Store} {t:Nat} {cs:List Cell}:FrA σ (GA σ t cs):=⟨by rw [fW]; omega,fun j hj=>jU (by omega),fun j hj=>zfm (by omega),fun _ _=>rfl⟩
theorem FrA.so {σ σ':Store} (h:FrA σ σ') {id:Nat} {cs:List Cell} (hi:σ.next≤id):FrA σ (SO σ' id cs):=⟨h.nx,fun j hj=>by rw [iY (by omega),h.ob j hj],h.ty,h.ot⟩
theorem FrA.frm {σ σ':Store} (h:FrA σ σ') (p a m:Nat):Frm p a m a m σ σ':=⟨h.nx,fun j hj _ _=>h.ob j hj,h.ty,fun j hj _=>h.ot j hj,.inl rfl,.inl rfl⟩
theorem CS.fa {σ σ':Store} {p a m:Nat} {L:List In} {M:At} (h:CS σ p a m L M) (f:FrA σ σ'):CS σ' p a m L M :=
 ⟨h.ca.keep f.nx (f.ob _ h.ca.pn) (f.ob _ h.ca.an) (f.ty _ h.ca.an),by rw [f.ot _ h.mn]; exact h.map,aP h.mn f.nx⟩
theorem zbwb {S:eD} (hs:has S yZ=false) (σ:Store) (l:List Tx) (hl:l.length < 1000000000):∃ d σ',(∀ n,W S (n + 1) yZ [dSs l] σ=some (.ret ⟨false,d⟩,σ'))∧FrA σ σ' ∧
  ((l=[]∧d=.nils)∨(l≠[]∧∃ id,d=.arr k_0 id 0 l.length∧dE σ'.objs id=some (eW l)∧σ.next≤id∧id < σ'.next)):=by
 by_cases hne:l=[]
 ·subst hne
  refine ⟨.nils,σ,fun n=>?_,FrA.refl,.inl ⟨rfl,rfl⟩⟩
  rw [eH (af:=iU) hs rfl rfl]
  have e:dSs []=.nils:=rfl
  simp only [iU,e,sA,Nat.reduceAdd,Nat.reduceSub,Nat.reduceMul,Nat.reduceBEq,Nat.reduceLeDiff,Int.reduceBEq,Int.reduceBNe,Int.reduceLE,Int.reduceLT,Int.reduceGE,Int.reduceGT,Int.reduceNeg,kn]
 ·have e1:decide (0 * k_0.sz≤([]:List Cell).length)=true:=rfl
  have e2:decide ((0 + l.length) * 16≤eL)=true:=decide_eq_true (show (0 + l.length) * 16≤1099511627776 by omega)
  have e3:decide (0 + l.length≤eL)=true:=decide_eq_true (show 0 + l.length≤1099511627776 by omega)
  have hall:eM k_0.sz (l.map D.str)=true:=pQ fun d hd=>by
   obtain ⟨s,_,rfl⟩:=bF.1 hd
   exact ⟨rfl,rfl⟩
  have hcs:cellsOf (l.map D.str)=eW l:=by
   have:∀ l:List Tx,cellsOf (l.map D.str)=eW l:=by
    intro l
    induction l with
    | nil=>rfl
    | cons y r ih=>rw [aO,cellsOf,ih]; rfl
   exact this _
  refine ⟨.arr k_0 (σ.next + 2) 0 l.length,dR {dR σ k_0 [] with objs:=eE (dR σ k_0 []).objs σ.next} k_0 (eW l),fun n=>?_,⟨?_,fun j h1=>?_,fun j h1=>?_,fun j h1=>rfl⟩,.inr ⟨hne,_,rfl,agS _ _ _,by omega,by simp [dR]⟩⟩
  ·rw [eH (af:=iU) hs rfl rfl]
   have hnil:(dSs l).isNilS?=some false:=by
    cases l with
    | nil=>exact absurd rfl hne
    | cons x r=>rfl
   have hli:∀ os,iR os (dSs l)=some (l.map D.str):=fun os=>by rw [dSs,qE]
   have hap:eV (dR σ k_0 []) k_0 16 (.arr k_0 σ.next 0 0) (l.map D.str)=some (.arr k_0 (σ.next + 2) 0 l.length,dR {dR σ k_0 [] with objs:=eE (dR σ k_0 []).objs σ.next} k_0 (eW l)):=by
    have g1:dE (dR σ k_0 []).objs σ.next=some []:=agS _ _ _
    have g2:dE (dR σ k_0 []).tys σ.next=some ⟨k_0.el,k_0.sz⟩:=agS _ _ _
    have ek:k_0.same k_0=true:=rfl
    have hlm:(l.map D.str).length=l.length:=aJ ..
    simp only [eV,hall,dJ,g1,g2,dG,dK,ek,bW,hlm,hcs,Nat.zero_mul,List.take_zero,aZ,bG,aN,Nat.zero_le,decide_true] at e2 e3 ⊢
    simp only [e2,e3,aY,dJ]
    rfl
   have hc0:cellsOf []=[]:=rfl
   simp only [iU,sA,Nat.reduceAdd,Nat.reduceSub,Nat.reduceMul,Nat.reduceBEq,Nat.reduceLeDiff,Int.reduceBEq,Int.reduceBNe,Int.reduceLE,Int.reduceLT,Int.reduceGE,Int.reduceGT,Int.reduceNeg,kn,hnil,eI,mB,hc0,hli,hap]
  ·simp only [dR]; omega
  ·simp only [dR]
   rw [agC _ _ _ _ (by omega),agD _ _ (by omega),agC _ _ _ _ (by omega)]
  ·simp only [dR]
   rw [agC _ _ _ _ (by omega),agC _ _ _ _ (by omega)]
end Go.Fu
namespace Go.Fu
open Go Go.Mx
set_option maxRecDepth 10000
set_option maxHeartbeats 4000000
theorem zdm {α:Type} (k:Nat) (v w:α):∀ l:List (Nat × α),dZ (dZ l k v) k w=dZ l k w
 | []=>by simp [dZ,ifB]
 | (i,x) :: l=>by
  simp only [dZ]
  cases h:i == k with
  | true=>simp [dZ,ifB,h]
  | false =>
   cases h2:Nat.ble k i with
   | true=>simp [dZ,ifB]
   | false=>simp [dZ,ifB,h,h2,zdm k v w l]
theorem zpn (σ:Store) (id:Nat) (a b:List Cell):SO (SO σ id a) id b=SO σ id b:=by
 unfold SO
 simp only [zdm]
def pT (l:List Tx):Nat→List Tx
 | 0=>l
 | i + 1=>((pT l i).set i ((pT l i).getD (l.length - 1 - i) [])).set (l.length - 1 - i) ((pT l i).getD i [])
theorem Ci (l:List Tx):∀ i,(pT l i).length=l.length
 | 0=>rfl
 | i + 1=>by rw [pT,List.length_set,List.length_set,Ci l i]
theorem Kz (l:List Tx):∀ i,2 * i≤l.length→∀ k,k < l.length→(pT l i).getD k []=ifB (decide (k < i) || decide (l.length≤k + i)) (l.getD (l.length - 1 - k) []) (l.getD k [])
 | 0,_,k,hk=>by
  have h1:decide (k < 0)=false:=by simp
  have h2:decide (l.length≤k + 0)=false:=by simp; omega
  rw [h1,h2]
  rfl
 | i + 1,hi,k,hk=>by
  have hl:=Ci l i
  have hget:∀ (m:List Tx) (a b:Nat) (x y:Tx),a < m.length→b < m.length→a≠b→∀ k,k < m.length→((m.set a x).set b y).getD k []=if k=b then y else if k=a then x else m.getD k []:=by
   intro m a b x y ha hb hab k hk
   rw [eY _ _ _ (by simpa using hk),List.getElem_set,List.getElem_set,eY _ _ _ hk]
   by_cases h1:b=k
   ·subst h1; simp
   ·by_cases h2:a=k
    ·subst h2; simp [h1,hab]
    ·simp [h1,h2,Ne.symm h1,Ne.symm h2]
  rw [pT,hget _ _ _ _ _ (by omega) (by omega) (by omega) k (by omega),Kz l i (by omega) _ (by omega),Kz l i (by omega) _ (by omega),Kz l i (by omega) k hk]
  have q1:(decide (i < i) || decide (l.length≤i + i))=false:=by simp; omega
  have q2:(decide (l.length - 1 - i < i) || decide (l.length≤l.length - 1 - i + i))=false:=by simp; omega
  rw [q1,q2]
  simp only [dH]
  by_cases h1:k=l.length - 1 - i
  ·have q3:(decide (k < i + 1) || decide (l.length≤k + (i + 1)))=true:=by simp; omega
   rw [if_pos h1,q3,dJ,show l.length - 1 - k=i by omega]
  ·rw [if_neg h1]
   by_cases h2:k=i
   ·have q3:(decide (k < i + 1) || decide (l.length≤k + (i + 1)))=true:=by simp; omega
    rw [if_pos h2,q3,dJ,h2]
   ·rw [if_neg h2]
    have q3:(decide (k < i + 1) || decide (l.length≤k + (i + 1)))=(decide (k < i) || decide (l.length≤k + i)):=by
     have e1:decide (k < i + 1)=decide (k < i):=by congr 1; exact propext (by omega)
     have e2:decide (l.length≤k + (i + 1))=decide (l.length≤k + i):=by congr 1; exact propext (by omega)
     rw [e1,e2]
    rw [q3]
theorem zyr (l:List Tx):pT l (l.length / 2)=l.reverse:=by
 apply List.ext_getElem
 ·rw [Ci,bU]
 ·intro k h1 h2
  have hk:k < l.length:=by rw [Ci] at h1; exact h1
  have h:=Kz l (l.length / 2) (by omega) k hk
  rw [eY _ _ _ h1] at h
  rw [h,List.getElem_reverse]
  rw [eY _ _ _ (show l.length - 1 - k < l.length by omega),eY _ _ _ hk]
  by_cases q:k < l.length / 2∨l.length≤k + l.length / 2
  ·have:(decide (k < l.length / 2) || decide (l.length≤k + l.length / 2))=true:=by simpa using q
   rw [this,dJ]
  ·have:(decide (k < l.length / 2) || decide (l.length≤k + l.length / 2))=false:=by simp; omega
   rw [this,dH]
   congr 1
   omega
def ErS (id n i:Nat):Env:={slots:=[(0,⟨false,.arr k_0 id 0 n⟩),(2,⟨false,.int .i64 i⟩),(3,⟨false,.int .i64 ((n:Int) - 1 - i)⟩)],locs:=[],boxes:=[],defers:=[]}
def SrS (σ:Store) (id:Nat) (l:List Tx):Nat→Store
 | 0=>σ
 | i + 1=>SO σ id (eW (pT l (i + 1)))
theorem znx {σ:Store} {id:Nat} {l:List Tx} (h:dE σ.objs id=some (eW l)) (i:Nat):dE (SrS σ id l i).objs id=some (eW (pT l i)):=by
 cases i with
 | zero=>exact h
 | succ i=>exact jS
theorem zemb {σ:Store} {id:Nat} {l:List Tx} (i:Nat) (cs:List Cell):SO (SrS σ id l i) id cs=SO σ id cs:=by
 cases i with
 | zero=>rfl
 | succ i=>exact zpn _ _ _ _
theorem Vn:∀ (l:List Tx) (k:Nat) (s:Tx),putCells (eW l) k [⟨false,.str s⟩]=eW (l.set k s)
 | [],k,s=>rfl
 | x :: l,0,s=>by simp [eW,putCells]
 | x :: l,k + 1,s=>by
  have:=Vn l k s
  simp only [eW,aO,putCells,List.set_cons_succ] at this ⊢
  rw [this]
theorem zc7 (l:List Tx) (k:Nat) (h:k < l.length):nth (eW l) (k * 1)=some ⟨false,.str (l.getD k [])⟩:=by
 rw [Nat.mul_one,zx6 l k h,eY _ _ _ h]
theorem zdzb {C:dQ} {n:Nat} (σ:Store) (id:Nat) (l:List Tx) (h:dE σ.objs id=some (eW l)) (hl:l.length < 1000000000) (i:Nat) (hi:i < l.length / 2):exec C n none Vk (ErS id l.length i) (SrS σ id l i)=some (.normal,ErS id l.length (i + 1),SrS σ id l (i + 1)):=by
 have hg:=znx h i
 have hlen:=Ci l i
 have hj:(l.length:Int) - 1 - i=((l.length - 1 - i:Nat):Int):=by omega
 have hlt:((i:Int) < ((l.length - 1 - i:Nat):Int)):=by omega
 have w1:=dV (i:=i) (by omega)
 have w2:IntKind.i64.wrap (((l.length - 1 - i:Nat):Int) - 1)=(l.length:Int) - 1 - ((i + 1:Nat):Int):=by rw [lV (by omega) (by omega)]; omega
 have r1:=zc7 (pT l i) i (by omega)
 have r2:=zc7 (pT l i) (l.length - 1 - i) (by omega)
 have d1:i < l.length:=by omega
 have d2:l.length - 1 - i < l.length:=by omega
 have es:(k_0.sz == 1)=true:=rfl
 have f1:i * 1 + 1≤(eW (pT l i)).length:=by rw [qU]; omega
 have f2:∀ s,(l.length - 1 - i) * 1 + 1≤(eW ((pT l i).set i s)).length:=fun s=>by rw [qU,List.length_set]; omega
 have p1:∀ s,putCells (eW (pT l i)) (i * 1) [⟨false,.str s⟩]=eW ((pT l i).set i s):=fun s=>by rw [Nat.mul_one]; exact Vn _ _ _
 have p2:∀ s t,putCells (eW ((pT l i).set i s)) ((l.length - 1 - i) * 1) [⟨false,.str t⟩]=eW (((pT l i).set i s).set (l.length - 1 - i) t):=fun s t=>by rw [Nat.mul_one]; exact Vn _ _ _
 have hs2:SO σ id (eW (((pT l i).set i ((pT l i).getD (l.length - 1 - i) [])).set (l.length - 1 - i) ((pT l i).getD i [])))=SrS σ id l (i + 1):=rfl
 have so:=zemb (σ:=σ) (id:=id) (l:=l) i
 simp only [ErS,hj,Vk,sA,Nat.reduceAdd,Nat.reduceSub,Nat.reduceMul,Nat.reduceBEq,Nat.reduceLeDiff,Int.reduceBEq,Int.reduceBNe,Int.reduceLE,Int.reduceLT,Int.reduceGE,Int.reduceGT,Int.reduceNeg,kn,eI,mB,hlt,fL,mH,es,d1,d2,aN,hg,r1,r2,f1,p1,jS,f2,p2,so,zpn,hs2,w1,w2]
theorem zgcb {C:dQ} {n:Nat} (σ:Store) (id:Nat) (l:List Tx) (hl:l.length < 1000000000):∃ e,exec C n none Vk (ErS id l.length (l.length / 2)) (SrS σ id l (l.length / 2))=some (.exit 0,e,SrS σ id l (l.length / 2))∧e.defers=[]:=by
 have hlt:¬ (((l.length / 2:Nat):Int) < (l.length:Int) - 1 - ((l.length / 2:Nat):Int)):=by omega
 refine ⟨{slots:=[(0,⟨false,.arr k_0 id 0 l.length⟩),(2,⟨false,.int .i64 (l.length / 2:Nat)⟩),(3,⟨false,.int .i64 ((l.length:Int) - 1 - ((l.length / 2:Nat):Int))⟩),(9,⟨false,.bool false⟩)],locs:=[],boxes:=[],defers:=[]},?_,rfl⟩
 unfold ErS
 generalize (l.length:Int) - 1 - ((l.length / 2:Nat):Int)=j at hlt ⊢
 generalize ((l.length / 2:Nat):Int)=h at hlt ⊢
 simp only [Vk,sA,Nat.reduceAdd,Nat.reduceSub,Nat.reduceMul,Nat.reduceBEq,Nat.reduceLeDiff,Int.reduceBEq,Int.reduceBNe,Int.reduceLE,Int.reduceLT,Int.reduceGE,Int.reduceGT,Int.reduceNeg,kn,hlt]
theorem zdwb {S:eD} (hs:has S Ti=false) (σ:Store) (id:Nat) (l:List Tx) (h:dE σ.objs id=some (eW l)) (hl:l.length < 1000000000):∃ σ',(∀ n,l.length < n→W S (n + 1) Ti [.arr k_0 id 0 l.length] σ=some (.ret ⟨false,.tup []⟩,σ'))∧dE σ'.objs id=some (eW l.reverse)∧σ'.next=σ.next∧σ'.oth=σ.oth∧σ'.tys=σ.tys∧∀ j,j≠id→dE σ'.objs j=dE σ.objs j:=by
 refine ⟨SrS σ id l (l.length / 2),fun n hn=>?_,?_,?_,?_,?_,fun j hj=>?_⟩
 ·obtain ⟨e,he,hd⟩:=zgcb (C:=W S n) (n:=n) σ id l hl
  have hr:=iL (body:=exec (W S n) n none Vk) (ErS id l.length) (SrS σ id l) (l.length / 2) (r:=_) (fun _ _ h=>by cases h) (fun i hi=>zdzb σ id l h hl i hi) he 0 n (by omega) (by omega)
  rw [eH (af:=zb3) hs rfl rfl]
  have w:IntKind.i64.wrap ((l.length:Int) - 1)=(l.length:Int) - 1 - ((0:Nat):Int):=by rw [lV (by omega) (by omega)]; omega
  have hS:SrS σ id l 0=σ:=rfl
  simp only [ErS,hS,eR] at hr w
  simp only [zb3,sA,Nat.reduceAdd,Nat.reduceSub,Nat.reduceMul,Nat.reduceBEq,Nat.reduceLeDiff,Int.reduceBEq,Int.reduceBNe,Int.reduceLE,Int.reduceLT,Int.reduceGE,Int.reduceGT,Int.reduceNeg,kn,w,hr,hd]
 ·have:=znx h (l.length / 2)
  rw [this,zyr]
 ·cases l.length / 2 <;> rfl
 ·cases l.length / 2 <;> rfl
 ·cases l.length / 2 <;> rfl
 ·cases l.length / 2 with
  | zero=>rfl
  | succ i=>exact iY hj
end Go.Fu
namespace Go.Fu
open Go Go.Mx
set_option maxRecDepth 10000
set_option maxHeartbeats 4000000
def Ewi (σn:Nat) (dl:D) (len:Nat) (d:Int) (fv:D) (i:Nat):Env:={slots:=[(2,⟨false,.int .i64 d⟩),(3,⟨false,fv⟩),(4,⟨false,.ptr σn 0⟩),(17,⟨false,dl⟩),(18,⟨false,.int .i64 len⟩),(19,⟨false,.int .i64 i⟩)],locs:=[],boxes:=[],defers:=[(Py,[.ptr (σn + 2) 0,.ptr σn 0])]}
def Ewe (σn:Nat) (dl:D) (len:Nat) (d:Int) (fv:D):Env:={slots:=[(2,⟨false,.int .i64 d⟩),(3,⟨false,fv⟩),(4,⟨false,.ptr σn 0⟩),(17,⟨false,dl⟩),(18,⟨false,.int .i64 len⟩),(19,⟨false,.int .i64 len⟩),(20,⟨false,.bool false⟩)],locs:=[],boxes:=[],defers:=[(Py,[.ptr (σn + 2) 0,.ptr σn 0])]}
theorem zejb {τ:Store} {p a m:Nat} {L:List In} {M:At} (h:CS τ p a m L M) {dl:D} {l:List Tx} (hr:RdS τ p a dl l) (hl:l.length < 1000000000) {σn:Nat} (hx:dE τ.objs σn=some [⟨false,.ptr p 0⟩]) (d:Int) (fv:D) (i:Nat) (hi:i < l.length) :
  ∃ τ',(∀ C n,exec C n none Ia (Ewi σn dl l.length d fv i) τ=some (.normal,Ewi σn dl l.length d fv (i + 1),τ'))∧CS τ' p a m L (pU M l[i] (w64 (d + (i:Int))))∧Frm p a m a m τ τ':=by
 obtain ⟨es,c,r,h1,h2,h3,h4⟩:=h.upd l[i] (w64 (d + (i:Int)))
 refine ⟨_,fun C n=>?_,h3,h4⟩
 have ho:=h.ca.obj
 have hma:=zjs h1
 have hlt:((i:Int) < (l.length:Int)):=by omega
 have w:=dV (i:=i) (by omega)
 have hd:IntKind.i64.wrap (d + (i:Int))=w64 (d + (i:Int)):=rfl
 rcases hr with rfl | ⟨hne,id,rfl,h5,h6,h7,h8⟩
 ·have hx1:=rW l i hi
  cases r with
  | none=>simp only [Ia,Ewi,sA,Nat.reduceAdd,Nat.reduceSub,Nat.reduceMul,Nat.reduceBEq,Nat.reduceLeDiff,Int.reduceBEq,Int.reduceBNe,Int.reduceLE,Int.reduceLT,Int.reduceGE,Int.reduceGT,Int.reduceNeg,kn,eI,mB,hlt,fL,hx1,hx,ho,lX,vV,hma,rR,h2,hd,w]
  | some q=>simp only [Ia,Ewi,sA,Nat.reduceAdd,Nat.reduceSub,Nat.reduceMul,Nat.reduceBEq,Nat.reduceLeDiff,Int.reduceBEq,Int.reduceBNe,Int.reduceLE,Int.reduceLT,Int.reduceGE,Int.reduceGT,Int.reduceNeg,kn,eI,mB,hlt,fL,hx1,hx,ho,lX,vV,hma,rR,h2,hd,w]
 ·have es:(k_0.sz == 1)=true:=rfl
  have hr1:nth (eW l) (i * 1)=some ⟨false,.str l[i]⟩:=by rw [zc7 l i hi,eY _ _ _ hi]
  cases r with
  | none=>simp only [Ia,Ewi,sA,Nat.reduceAdd,Nat.reduceSub,Nat.reduceMul,Nat.reduceBEq,Nat.reduceLeDiff,Int.reduceBEq,Int.reduceBNe,Int.reduceLE,Int.reduceLT,Int.reduceGE,Int.reduceGT,Int.reduceNeg,kn,eI,mB,hlt,fL,mH,es,hi,aN,h5,hr1,hx,ho,lX,vV,hma,rR,h2,hd,w]
  | some q=>simp only [Ia,Ewi,sA,Nat.reduceAdd,Nat.reduceSub,Nat.reduceMul,Nat.reduceBEq,Nat.reduceLeDiff,Int.reduceBEq,Int.reduceBNe,Int.reduceLE,Int.reduceLT,Int.reduceGE,Int.reduceGT,Int.reduceNeg,kn,eI,mB,hlt,fL,mH,es,hi,aN,h5,hr1,hx,ho,lX,vV,hma,rR,h2,hd,w]
theorem zgvb (C:dQ) (n:Nat) (τ:Store) (σn:Nat) (dl:D) (len:Nat) (d:Int) (fv:D):exec C n none Ia (Ewi σn dl len d fv len) τ=some (.exit 0,Ewe σn dl len d fv,τ):=by
 have hlt:¬ ((len:Int) < (len:Int)):=by omega
 simp only [Ia,Ewi,Ewe,sA,Nat.reduceAdd,Nat.reduceSub,Nat.reduceMul,Nat.reduceBEq,Nat.reduceLeDiff,Int.reduceBEq,Int.reduceBNe,Int.reduceLE,Int.reduceLT,Int.reduceGE,Int.reduceGT,Int.reduceNeg,kn,hlt]
theorem zpi {p a m:Nat} {L:List In} {dl:D} {l:List Tx} (hl:l.length < 1000000000) {σn:Nat} (hp:σn≠p) (ha:σn≠a) (d:Int) (fv:D):∀ (rest done:List Tx) (M:At) (τ:Store),l=done ++ rest→CS τ p a m L M→RdS τ p a dl l→dE τ.objs σn=some [⟨false,.ptr p 0⟩]→σn < τ.next →
  ∃ τ',(∀ C N n,rest.length < n→gU (exec C N none Ia) n (Ewi σn dl l.length d fv done.length) τ=some (.exit 0,Ewe σn dl l.length d fv,τ'))∧CS τ' p a m L (fE M rest d done.length)∧Frm p a m a m τ τ'
 | [],done,M,τ,hd,h,hr,hx,hn=>by
  refine ⟨τ,fun C N n hn=>?_,h,Frm.refl⟩
  obtain ⟨n,rfl⟩:∃ k,n=k + 1:=⟨n - 1,by omega⟩
  have e:done.length=l.length:=by rw [hd]; simp
  rw [e]
  exact kT (zgvb C N τ σn dl l.length d fv)
 | s :: rest,done,M,τ,hd,h,hr,hx,hn=>by
  have hi:done.length < l.length:=by rw [hd]; simp
  have hs:l[done.length]=s:=by
   subst hd
   simp
  obtain ⟨τ1,h1,h2,h3⟩:=zejb h hr hl hx d fv done.length hi
  rw [hs] at h2
  obtain ⟨τ2,h4,h5,h6⟩:=zpi hl hp ha d fv rest (done ++ [s]) _ τ1 (by rw [hd]; simp) h2 (hr.keep h3) (h3.get hx hn hp ha) (aP hn h3.nx)
  simp only [aF,aG,aH,aN] at h4 h5
  refine ⟨τ2,fun C N n hn=>?_,h5,h3.trans h6⟩
  obtain ⟨n,rfl⟩:∃ k,n=k + 1:=⟨n - 1,by omega⟩
  rw [iJ (h1 C N)]
  exact h4 C N n (by simp at hn; omega)
theorem Xw {S:eD} (hs1:has S Sv=false) (hs2:has S Py=false) (hs3:has S zho=false) {σ:Store} {p a m:Nat} {L:List In} {M:At} (h:CS σ p a m L M) {dl:D} {l:List Tx} (hr:RdS σ p a dl l) (hl:l.length < 1000000000) (d:Int) (fv:D) (f:FuncId) (fst caps:List D) (hf:D.fn? fv=some (f,fst,caps)) (hone:fv.one=true) (L':List In)
  (hdo:∀ σ1,CS σ1 p a m L (fE M l d 0)→Frm p a m a m σ σ1→∃ σ2 a2 m2 M2,Ev S f (fst ++ caps) σ1 σ2∧CS σ2 p a2 m2 L' M2∧Frm p a m a2 m2 σ1 σ2) :
  ∃ σ' a' m',Ev S Sv [.ptr p 0,dl,.int .i64 d,fv] σ σ'∧CS σ' p a' m' L' M∧Frm p a m a' m' σ σ':=by
 have hp:=h.ca.pn
 have ha:=h.ca.an
 have hm:=h.mn
 obtain ⟨es,c,hmap,hlook⟩:=h.map
 obtain ⟨σ1,e1⟩:∃ σ1,σ1=GA σ xG [⟨false,.ptr p 0⟩]:=⟨_,rfl⟩
 obtain ⟨σ2,e2⟩:∃ σ2,σ2=GM σ1 (.map (mpD es) c):=⟨_,rfl⟩
 obtain ⟨σ3,e3⟩:∃ σ3,σ3=GA σ2 za3 [⟨false,.nilmap⟩]:=⟨_,rfl⟩
 obtain ⟨σ4,e4⟩:∃ σ4,σ4=SO σ3 (σ.next + 2) [⟨false,.map (σ.next + 1)⟩]:=⟨_,rfl⟩
 have n1:σ1.next=σ.next + 1:=by rw [e1,fW]
 have n2:σ2.next=σ.next + 2:=by rw [e2,Af,n1]
 have n3:σ3.next=σ.next + 3:=by rw [e3,fW,n2]
 have n4:σ4.next=σ.next + 3:=by rw [e4,gQ,n3]
 have c4:CS σ4 p a m L M:=by
  rw [e4]
  refine CS.so ?_ (by omega) (by omega)
  rw [e3]
  refine CS.ga ?_
  rw [e2]
  refine CS.gm ?_
  rw [e1]
  exact h.ga
 have f4:Frm p a m a m σ σ4:=by
  rw [e4]
  refine Frm.so ?_ (.inl (by omega))
  rw [e3]
  refine Frm.trans ?_ Frm.ga
  rw [e2]
  refine Frm.trans ?_ Frm.gm
  rw [e1]
  exact Frm.ga
 have x1:dE σ1.objs σ.next=some [⟨false,.ptr p 0⟩]:=by rw [e1,iN]
 have x4:dE σ4.objs σ.next=some [⟨false,.ptr p 0⟩]:=by
  rw [e4,iY (by omega),e3,jU (by omega),e2,znu,x1]
 have o4:dE σ4.objs (σ.next + 2)=some [⟨false,.map (σ.next + 1)⟩]:=by rw [e4,jS]
 have o3:dE σ3.objs (σ.next + 2)=some [⟨false,.nilmap⟩]:=by
  have:=iN (σ:=σ2) (t:=za3) (cs:=[⟨false,.nilmap⟩])
  rw [n2] at this
  rw [e3,this]
 have m4:dE σ4.oth (σ.next + 1)=some (.map (mpD es) c):=by
  have:=Rk (σ:=σ1) (x:=.map (mpD es) c)
  rw [n1] at this
  rw [e4,xT,e3,Gi,e2,this]
 have p1:dE σ1.objs p=some [⟨false,nT a L⟩,⟨false,.map m⟩]:=by rw [e1,jU (by omega)]; exact h.ca.obj
 have m1:dE σ1.oth m=some (.map (mpD es) c):=by rw [e1,Gi]; exact hmap
 obtain ⟨τ,hlp,cτ,fτ⟩:=zpi hl (σn:=σ.next) (by omega) (by omega) d fv l [] M σ4 rfl c4 (hr.keep f4) x4 (by omega)
 obtain ⟨σ5,a2,m2,M2,⟨n0,hev⟩,c5,f5⟩:=hdo τ cτ (f4.trans fτ)
 have fb:=(f4.trans fτ).trans f5
 have g4:=fτ.trans f5
 have hn5:=g4.nx
 have x5:dE σ5.objs σ.next=some [⟨false,.ptr p 0⟩]:=g4.get x4 (by omega) (by omega) (by omega)
 have o5:dE σ5.objs (σ.next + 2)=some [⟨false,.map (σ.next + 1)⟩]:=g4.get o4 (by omega) (by omega) (by omega)
 have m5:dE σ5.oth (σ.next + 1)=some (.map (mpD es) c):=by rw [g4.ot _ (by omega) (by omega),m4]
 have ho5:=c5.ca.obj
 refine ⟨SO σ5 p [⟨false,nT a2 L'⟩,⟨false,.map (σ.next + 1)⟩],a2,σ.next + 1,Ev.of (max n0 (l.length + 1)) fun n hn=>?_,⟨⟨jS,fun hL=>?_,c5.ca.pa,c5.ca.pn,c5.ca.an⟩,⟨es,c,m5,hlook⟩,?_⟩,?_⟩
 ·rw [eH (af:=zf2) hs1 rfl rfl]
  have hln:=hr.len
  have hlp2:=hlp (W S n) n n (by omega)
  have hev2:=hev n (by omega)
  simp only [Ewi,Ewe,aH,eR] at hlp2
  obtain ⟨k,rfl⟩:∃ k,n=k + 1:=⟨n - 1,by omega⟩
  have hcl:=ztz (S:=S) hs3 m1 k
  rw [n1] at hcl
  have hd1:WD S (k + 1) Py [.ptr (σ.next + 2) 0,.ptr σ.next 0] σ5=some (.ret ⟨false,.tup []⟩,SO σ5 p [⟨false,nT a2 L'⟩,⟨false,.map (σ.next + 1)⟩]):=by
   refine zeob (af:=zf3) (e:={slots:=[],locs:=[],boxes:=[],defers:=[]}) hs2 rfl rfl ?_ rfl rfl rfl
   simp only [zf3,sA,Nat.reduceAdd,Nat.reduceSub,Nat.reduceMul,Nat.reduceBEq,Nat.reduceLeDiff,Int.reduceBEq,Int.reduceBNe,Int.reduceLE,Int.reduceLT,Int.reduceGE,Int.reduceGT,Int.reduceNeg,kn,mB,x5,o5,ho5,lX,vV,pN]
  have hdf:=zfc (R:=Ra) (C:=WD S (k + 1)) (m:=none) (f:=Py) rfl rfl hd1
  have hfF:D.fnF? (.fn (.func Py) [] [.ptr (σ.next + 2) 0,.ptr σ.next 0])=some (Py,[],[.ptr (σ.next + 2) 0,.ptr σ.next 0]):=rfl
  simp only [zf2,sA,Nat.reduceAdd,Nat.reduceSub,Nat.reduceMul,Nat.reduceBEq,Nat.reduceLeDiff,Int.reduceBEq,Int.reduceBNe,Int.reduceLE,Int.reduceLT,Int.reduceGE,Int.reduceGT,Int.reduceNeg,kn,eI,mB,hfF,← e1,x1,p1,lX,vV,hcl,← e2,n2,← e3,o3,pN,← e4,hln,hlp2,hf,hev2,hdf]
 ·have:=c5.ca.arr hL
  exact ⟨by rw [iY (fun e=>c5.ca.pa e.symm)]; exact this.1,this.2⟩
 ·rw [gQ]; omega
 ·exact ⟨fb.nx,fun j h1 h2 h3=>by rw [iY h2,fb.ob j h1 h2 h3],fb.ty,fb.ot,fb.fa,.inr (by omega)⟩
end Go.Fu

/-
 The flattener's loops: binds,kids,alternatives.
-/
import Derived.Test.YtldfbnbckiifeaaGreatDoorFgDx
set_option maxHeartbeats 4000000
set_option linter.unusedSimpArgs false
set_option linter.unusedVariables false
set_option linter.unusedSectionVars false
namespace Go.Fu
open Go Go.Mx
set_option maxRecDepth 10000
set_option maxHeartbeats 4000000
theorem FSt.v {σ σ':Store} {p a a':Nat} (f:Frm p a 0 a' 0 σ σ') (b:Nat):FrV (VX true p b a b) (VX true p b a' b) 0 0 σ σ':=f.v true b b
theorem zwq {σ:Store} {p a b:Nat} {cs:List Cell}:FrV (VX true p b a b) (VX true p b a b) 0 0 σ (SO σ b cs):=⟨aM _,fun j _ hv=>iY (fun e=>hv (.inr (.inr ⟨rfl,.inl e⟩))),fun _ _=>rfl,fun _ _ _=>rfl,fun _ h=>.inl h,.inl rfl⟩
theorem zfyb (C:dQ) (n:Nat) (σ:Store) (p:Nat) (c:Co) (lz:Bool) (g:List Tx) (ki bi ai:Nat):exec C n none kG (Ep0 p c lz g ki bi ai c.bs.length) σ=some (.exit 0,{Ep0 p c lz g ki bi ai c.bs.length with slots:=[(0,⟨false,.ptr p 0⟩),(2,⟨false,.bool lz⟩),(3,⟨false,dSs g⟩),(87,⟨false,jB k_3 bi c.bs.length⟩),(88,⟨false,.int .i64 c.bs.length⟩),(89,⟨false,.int .i64 c.bs.length⟩),(90,⟨false,.bool false⟩)]},σ):=by
 have hlt:¬ ((c.bs.length:Int) < (c.bs.length:Int)):=by omega
 simp only [kG,Ep0,sA,Nat.reduceAdd,Nat.reduceSub,Nat.reduceMul,Nat.reduceBEq,Nat.reduceLeDiff,Int.reduceBEq,Int.reduceBNe,Int.reduceLE,Int.reduceLT,Int.reduceGE,Int.reduceGT,Int.reduceNeg,kn,hlt]
theorem zo3 {p:Nat} {t:Tx} {c:Co} {lz:Bool} {g:List Tx} {ki bi ai:Nat} (hl:c.bs.length < 100000000) (F:Co→List Su→Co × List Su) (hF:∀ b∈c.bs,zI p t b.2 true g (F b.2)) (hmade:∀ b∈c.bs,∀ m,(F b.2 m).2.length≤m.length + b.2.size) :
  ∀ (rest done D':List (Tx × Co)) (σ:Store) (a:Nat) (m:List Su),c.bs=done ++ rest→D'.length=done.length→FSt σ p a t m→(c.bs≠[]→dE σ.objs bi=some (cellsOf ((D' ++ rest).map dB)))→bi < σ.next∨c.bs=[]→(c.bs≠[]→bi≠p)→(c.bs≠[]→bi≠a)→m.length + szB rest < 50000000 →
  ∃ σ' a' n0,(∀ N n,n0≤N→rest.length < n→gU (exec (W SP N) N none kG) n (Ep0 p c lz g ki bi ai done.length) σ=some (.exit 0,{Ep0 p c lz g ki bi ai c.bs.length with slots:=[(0,⟨false,.ptr p 0⟩),(2,⟨false,.bool lz⟩),(3,⟨false,dSs g⟩),(87,⟨false,jB k_3 bi c.bs.length⟩),(88,⟨false,.int .i64 c.bs.length⟩),(89,⟨false,.int .i64 c.bs.length⟩),(90,⟨false,.bool false⟩)]},σ')) ∧
   FSt σ' p a' t (fF F rest m).2∧(c.bs≠[]→dE σ'.objs bi=some (cellsOf ((D' ++ (fF F rest m).1).map dB)))∧FrV (VX true p bi a bi) (VX true p bi a' bi) 0 0 σ σ'∧(a'=a∨σ.next≤a')
 | [],done,D',σ,a,m,hd,hD,h,hb,hbn,hp,ha,hm=>by
  refine ⟨σ,a,0,fun N n _ hn=>?_,h,hb,FrA.refl.v _ _,.inl rfl⟩
  obtain ⟨n,rfl⟩:∃ k,n=k + 1:=⟨n - 1,by omega⟩
  have e:done.length=c.bs.length:=by rw [hd]; simp
  rw [e]
  exact kT (zfyb (W SP N) N σ p c lz g ki bi ai)
 | b :: rest,done,D',σ,a,m,hd,hD,h,hb,hbn,hp,ha,hm=>by
  have hne:c.bs≠[]:=by rw [hd]; simp
  have hi:done.length < c.bs.length:=by rw [hd]; simp
  have hbm:b∈c.bs:=by rw [hd]; simp
  have hbn:=hbn.resolve_right hne
  have hL:(D' ++ b :: rest).length=c.bs.length:=by rw [hd]; simp [hD]
  have hLi:done.length < (D' ++ b :: rest).length:=by omega
  have hs:(D' ++ b :: rest)[done.length]=b:=by
   rw [bT (by omega)]
   simp [hD]
  have hset:∀ x,(D' ++ b :: rest).set done.length x=(D' ++ [x]) ++ rest:=fun x=>by
   rw [List.set_append_right _ _ (by omega)]
   simp [hD]
  simp only [szB] at hm
  obtain ⟨σ1,a1,⟨n1,w1⟩,h1,f1⟩:=hF b hbm σ a m h (by omega)
  have hmd:=hmade b hbm m
  have hb1:dE σ1.objs bi=some (cellsOf ((D' ++ b :: rest).map dB)):=f1.get (hb hne) hbn (hp hne) (ha hne)
  have ha1:bi≠a1:=by have:=ha hne; rcases f1.fa with e | e <;> omega
  have hbn1:bi < σ1.next:=aP hbn f1.nx
  have hst:=fun C n=>zdlb (C:=C) (n:=n) (σ:=σ) (σ1:=σ1) p c lz g ki bi ai done.length (D' ++ b :: rest) hL hi (by omega) (hb hne) hb1 (F b.2 m).1
  rw [hset,hs] at hst
  obtain ⟨σ2,a2,n2,w2,h2,b2,f2,fa2⟩:=zo3 hl F hF hmade rest (done ++ [b]) (D' ++ [(b.1,(F b.2 m).1)]) (SO σ1 bi (cellsOf ((D' ++ [(b.1,(F b.2 m).1)] ++ rest).map dB))) a1 (F b.2 m).2 (by rw [hd]; simp) (by simp [hD]) (h1.so (hp hne) ha1) (fun _=>jS) (.inl (by rw [gQ]; exact hbn1)) hp (fun _=>ha1) (by omega)
  simp only [aF,aG,aH,aN] at w2
  refine ⟨σ2,a2,max n1 n2,fun N n hN hn=>?_,h2,?_,((f1.v true bi bi).trans zwq).trans f2,?_⟩
  ·obtain ⟨n,rfl⟩:∃ k,n=k + 1:=⟨n - 1,by omega⟩
   rw [iJ (hst (W SP N) N (w1 N (by omega)))]
   exact w2 N n (by omega) (by simp at hn; omega)
  ·intro hne
   rw [b2 hne]
   simp [fF]
  ·rw [gQ] at fa2
   have:=f1.nx
   rcases f1.fa with e | e <;> rcases fa2 with e2 | e2 <;> omega
def Ep1 (p:Nat) (c:Co) (lz:Bool) (g:List Tx) (ki bi ai i:Nat):Env:={slots:=[(0,⟨false,.ptr p 0⟩),(2,⟨false,.bool lz⟩),(3,⟨false,dSs g⟩),(106,⟨false,jB k_2 ki c.ks.length⟩),(107,⟨false,.int .i64 c.ks.length⟩),(108,⟨false,.int .i64 i⟩)],locs:=[(5,(5,0)),(8,(8,0))],boxes:=[(5,boxA c ki bi ai),(8,zC)],defers:=[]}
theorem zdrb (b x:Co):putCells ((dCo b).cells.map Cell.of) 0 ((dCo x).cells.map Cell.of)=(dCo x).cells.map Cell.of:=by
 rw [fJ,fJ]
 rfl
theorem zdmb {C:dQ} {n:Nat} {σ σ1:Store} (p:Nat) (c:Co) (lz:Bool) (g:List Tx) (ki bi ai i:Nat) (L:List Co) (hL:L.length=c.ks.length) (hi:i < c.ks.length) (hl:c.ks.length < 1000000000) (ha:dE σ.objs ki=some (cellsOf (L.map dCo))) (ha1:dE σ1.objs ki=some (cellsOf (L.map dCo))) (x:Co)
  (h1:C vQ [.ptr p 0,dCo (L[i]'(by omega)),.bool (lz || (c.f == 4)),dSs g] σ=some (.ret ⟨false,dCo x⟩,σ1)) :
  exec C n none jC (Ep1 p c lz g ki bi ai i) σ=some (.normal,Ep1 p c lz g ki bi ai (i + 1),SO σ1 ki (cellsOf ((L.set i x).map dCo))):=by
 have hlt:((i:Int) < (c.ks.length:Int)):=by omega
 have w:=dV (i:=i) (by omega)
 have hiL:i < L.length:=by omega
 have ht:=Cj (g:=dCo) (sz:=9) lH L i hiL
 have hp:=zdb (g:=dCo) (sz:=10) lH L i hiL 0 ((dCo x).cells.map Cell.of) x (by rw [aJ,lH]; omega) (zdrb _ x)
 rw [Nat.add_zero] at hp
 have es:(k_2.sz == 10)=true:=rfl
 have hag:=rK k_2 ki c.ks.length (by omega)
 have hfit:i * 10 + 10≤(cellsOf (L.map dCo)).length:=by
  rw [mA' (sz:=10) lH]
  have:(i + 1) * 10≤L.length * 10:=Nat.mul_le_mul_right _ (by omega)
  omega
 generalize L[i]'hiL=b at ht h1
 have hon:=jO b
 have hok:=yD x
 have hce:(dCo x).cells.length=10:=lH x
 have hone:(dCo x).one=false:=by rw [fJ]; rfl
 rw [fJ] at ht h1
 simp only [D.cells] at ht
 cases e4:c.f == 4 with
 | true =>
  rw [e4,Bool.or_true] at h1
  simp only [jC,Ep1,boxA,zC,sA,Nat.reduceAdd,Nat.reduceSub,Nat.reduceMul,Nat.reduceBEq,Nat.reduceLeDiff,Int.reduceBEq,Int.reduceBNe,Int.reduceLE,Int.reduceLT,Int.reduceGE,Int.reduceGT,Int.reduceNeg,kn,eI,mB,hlt,fL,hag,mH,es,hi,aN,ha,ht,hon,e4,h1,ha1,hok,hce,hfit,hone,hp,w]
 | false =>
  rw [e4,bY] at h1
  simp only [jC,Ep1,boxA,zC,sA,Nat.reduceAdd,Nat.reduceSub,Nat.reduceMul,Nat.reduceBEq,Nat.reduceLeDiff,Int.reduceBEq,Int.reduceBNe,Int.reduceLE,Int.reduceLT,Int.reduceGE,Int.reduceGT,Int.reduceNeg,kn,eI,mB,hlt,fL,hag,mH,es,hi,aN,ha,ht,hon,e4,h1,ha1,hok,hce,hfit,hone,hp,w]
theorem zfzb (C:dQ) (n:Nat) (σ:Store) (p:Nat) (c:Co) (lz:Bool) (g:List Tx) (ki bi ai:Nat):exec C n none jC (Ep1 p c lz g ki bi ai c.ks.length) σ=some (.exit 2,{Ep1 p c lz g ki bi ai c.ks.length with slots:=[(0,⟨false,.ptr p 0⟩),(2,⟨false,.bool lz⟩),(3,⟨false,dSs g⟩),(106,⟨false,jB k_2 ki c.ks.length⟩),(107,⟨false,.int .i64 c.ks.length⟩),(108,⟨false,.int .i64 c.ks.length⟩),(109,⟨false,.bool false⟩)]},σ):=by
 have hlt:¬ ((c.ks.length:Int) < (c.ks.length:Int)):=by omega
 simp only [jC,Ep1,sA,Nat.reduceAdd,Nat.reduceSub,Nat.reduceMul,Nat.reduceBEq,Nat.reduceLeDiff,Int.reduceBEq,Int.reduceBNe,Int.reduceLE,Int.reduceLT,Int.reduceGE,Int.reduceGT,Int.reduceNeg,kn,hlt]
theorem zo4 {p:Nat} {t:Tx} {c:Co} {lz:Bool} {g:List Tx} {ki bi ai:Nat} (hl:c.ks.length < 100000000) (F:Co→List Su→Co × List Su) (hF:∀ b∈c.ks,zI p t b (lz || (c.f == 4)) g (F b)) (hmade:∀ b∈c.ks,∀ m,(F b m).2.length≤m.length + b.size) :
  ∀ (rest done D':List Co) (σ:Store) (a:Nat) (m:List Su),c.ks=done ++ rest→D'.length=done.length→FSt σ p a t m→(c.ks≠[]→dE σ.objs ki=some (cellsOf ((D' ++ rest).map dCo)))→ki < σ.next∨c.ks=[]→(c.ks≠[]→ki≠p)→(c.ks≠[]→ki≠a)→m.length + szK rest < 50000000 →
  ∃ σ' a' n0,(∀ N n,n0≤N→rest.length < n→gU (exec (W SP N) N none jC) n (Ep1 p c lz g ki bi ai done.length) σ=some (.exit 2,{Ep1 p c lz g ki bi ai c.ks.length with slots:=[(0,⟨false,.ptr p 0⟩),(2,⟨false,.bool lz⟩),(3,⟨false,dSs g⟩),(106,⟨false,jB k_2 ki c.ks.length⟩),(107,⟨false,.int .i64 c.ks.length⟩),(108,⟨false,.int .i64 c.ks.length⟩),(109,⟨false,.bool false⟩)]},σ')) ∧
   FSt σ' p a' t (gP F rest m).2∧(c.ks≠[]→dE σ'.objs ki=some (cellsOf ((D' ++ (gP F rest m).1).map dCo)))∧FrV (VX true p ki a ki) (VX true p ki a' ki) 0 0 σ σ'∧(a'=a∨σ.next≤a')
 | [],done,D',σ,a,m,hd,hD,h,hb,hbn,hp,ha,hm=>by
  refine ⟨σ,a,0,fun N n _ hn=>?_,h,hb,FrA.refl.v _ _,.inl rfl⟩
  obtain ⟨n,rfl⟩:∃ k,n=k + 1:=⟨n - 1,by omega⟩
  have e:done.length=c.ks.length:=by rw [hd]; simp
  rw [e]
  exact kT (zfzb (W SP N) N σ p c lz g ki bi ai)
 | b :: rest,done,D',σ,a,m,hd,hD,h,hb,hbn,hp,ha,hm=>by
  have hne:c.ks≠[]:=by rw [hd]; simp
  have hi:done.length < c.ks.length:=by rw [hd]; simp
  have hbm:b∈c.ks:=by rw [hd]; simp
  have hbn:=hbn.resolve_right hne
  have hL:(D' ++ b :: rest).length=c.ks.length:=by rw [hd]; simp [hD]
  have hLi:done.length < (D' ++ b :: rest).length:=by omega
  have hs:(D' ++ b :: rest)[done.length]=b:=by
   rw [bT (by omega)]
   simp [hD]
  have hset:∀ x,(D' ++ b :: rest).set done.length x=(D' ++ [x]) ++ rest:=fun x=>by
   rw [List.set_append_right _ _ (by omega)]
   simp [hD]
  simp only [szK] at hm
  obtain ⟨σ1,a1,⟨n1,w1⟩,h1,f1⟩:=hF b hbm σ a m h (by omega)
  have hmd:=hmade b hbm m
  have hb1:dE σ1.objs ki=some (cellsOf ((D' ++ b :: rest).map dCo)):=f1.get (hb hne) hbn (hp hne) (ha hne)
  have ha1:ki≠a1:=by have:=ha hne; rcases f1.fa with e | e <;> omega
  have hbn1:ki < σ1.next:=aP hbn f1.nx
  have hst:=fun C n=>zdmb (C:=C) (n:=n) (σ:=σ) (σ1:=σ1) p c lz g ki bi ai done.length (D' ++ b :: rest) hL hi (by omega) (hb hne) hb1 (F b m).1
  rw [hset,hs] at hst
  obtain ⟨σ2,a2,n2,w2,h2,b2,f2,fa2⟩:=zo4 hl F hF hmade rest (done ++ [b]) (D' ++ [(F b m).1]) (SO σ1 ki (cellsOf ((D' ++ [(F b m).1] ++ rest).map dCo))) a1 (F b m).2 (by rw [hd]; simp) (by simp [hD]) (h1.so (hp hne) ha1) (fun _=>jS) (.inl (by rw [gQ]; exact hbn1)) hp (fun _=>ha1) (by omega)
  simp only [aF,aG,aH,aN] at w2
  refine ⟨σ2,a2,max n1 n2,fun N n hN hn=>?_,h2,?_,((f1.v true ki ki).trans zwq).trans f2,?_⟩
  ·obtain ⟨n,rfl⟩:∃ k,n=k + 1:=⟨n - 1,by omega⟩
   rw [iJ (hst (W SP N) N (w1 N (by omega)))]
   exact w2 N n (by omega) (by simp at hn; omega)
  ·intro hne
   rw [b2 hne]
   simp [gP]
  ·rw [gQ] at fa2
   have:=f1.nx
   rcases f1.fa with e | e <;> rcases fa2 with e2 | e2 <;> omega
def Ep2 (p:Nat) (c:Co) (g:List Tx) (ki bi ai i:Nat):Env:={slots:=[(0,⟨false,.ptr p 0⟩),(3,⟨false,dSs g⟩),(129,⟨false,jB k_4 ai c.al.length⟩),(130,⟨false,.int .i64 c.al.length⟩),(131,⟨false,.int .i64 i⟩)],locs:=[(5,(5,0)),(8,(8,0))],boxes:=[(5,boxA c ki bi ai),(8,zC)],defers:=[]}
theorem zf4b (b:Hd × Co) (x:Co):putCells ((dA b).cells.map Cell.of) 4 ((dCo x).cells.map Cell.of)=(dA (b.1,x)).cells.map Cell.of:=by
 rw [pD,pD,fJ]
 rfl
theorem zdnb {C:dQ} {n:Nat} {σ σ1:Store} (p:Nat) (c:Co) (g:List Tx) (ki bi ai i:Nat) (L:List (Hd × Co)) (hL:L.length=c.al.length) (hi:i < c.al.length) (hl:c.al.length < 1000000000) (ha:dE σ.objs ai=some (cellsOf (L.map dA))) (ha1:dE σ1.objs ai=some (cellsOf (L.map dA))) (x:Co)
  (h0:C qY [dd g (L[i]'(by omega)).1.vars] σ=some (.ret ⟨false,dSs (g ++ (L[i]'(by omega)).1.vars)⟩,σ))
  (h1:C vQ [.ptr p 0,dCo (L[i]'(by omega)).2,.bool false,dSs (g ++ (L[i]'(by omega)).1.vars)] σ=some (.ret ⟨false,dCo x⟩,σ1)) :
  exec C n none kH (Ep2 p c g ki bi ai i) σ=some (.normal,Ep2 p c g ki bi ai (i + 1),SO σ1 ai (cellsOf ((L.set i ((L[i]'(by omega)).1,x)).map dA))):=by
 have hlt:((i:Int) < (c.al.length:Int)):=by omega
 have w:=dV (i:=i) (by omega)
 have hiL:i < L.length:=by omega
 have ht:=Cj (g:=dA) (sz:=13) wK L i hiL
 have hp:=zdb (g:=dA) (sz:=14) wK L i hiL 4 ((dCo x).cells.map Cell.of) ((L[i]'hiL).1,x) (by rw [aJ,lH]; omega) (zf4b _ x)
 have es:(k_4.sz == 14)=true:=rfl
 have hag:=rK k_4 ai c.al.length (by omega)
 have hfit:i * 14 + 4 + 10≤(cellsOf (L.map dA)).length:=by
  rw [mA' (sz:=14) wK]
  have:(i + 1) * 14≤L.length * 14:=Nat.mul_le_mul_right _ (by omega)
  omega
 generalize L[i]'hiL=b at ht h0 h1 hp
 have hon:=jO b.2
 have hoS:=gW b.1.vars
 have hoG:=gW g
 have okG:(dSs g).ok=true:=gZ
 have okV:(dSs b.1.vars).ok=true:=gZ
 have ceG:(dSs g).cells=[dSs g]:=fG
 have ceV:(dSs b.1.vars).cells=[dSs b.1.vars]:=fG
 have hok:=yD x
 have hce:(dCo x).cells.length=10:=lH x
 have hone:(dCo x).one=false:=by rw [fJ]; rfl
 rw [pD] at ht
 rw [fJ] at h1
 simp only [D.cells] at ht
 simp only [dd] at h0
 simp only [kH,Ep2,boxA,zC,sA,Nat.reduceAdd,Nat.reduceSub,Nat.reduceMul,Nat.reduceBEq,Nat.reduceLeDiff,Int.reduceBEq,Int.reduceBNe,Int.reduceLE,Int.reduceLT,Int.reduceGE,Int.reduceGT,Int.reduceNeg,kn,eI,mB,hlt,fL,hag,mH,es,hi,aN,ha,ht,hon,hoS,okG,okV,ceG,ceV,h0,h1,ha1,hok,hce,hfit,hone,hp,w]
theorem zf0b (C:dQ) (n:Nat) (σ:Store) (p:Nat) (c:Co) (g:List Tx) (ki bi ai:Nat):exec C n none kH (Ep2 p c g ki bi ai c.al.length) σ=some (.exit 4,{Ep2 p c g ki bi ai c.al.length with slots:=[(0,⟨false,.ptr p 0⟩),(3,⟨false,dSs g⟩),(129,⟨false,jB k_4 ai c.al.length⟩),(130,⟨false,.int .i64 c.al.length⟩),(131,⟨false,.int .i64 c.al.length⟩),(132,⟨false,.bool false⟩)]},σ):=by
 have hlt:¬ ((c.al.length:Int) < (c.al.length:Int)):=by omega
 simp only [kH,Ep2,sA,Nat.reduceAdd,Nat.reduceSub,Nat.reduceMul,Nat.reduceBEq,Nat.reduceLeDiff,Int.reduceBEq,Int.reduceBNe,Int.reduceLE,Int.reduceLT,Int.reduceGE,Int.reduceGT,Int.reduceNeg,kn,hlt]
theorem zo5 {p:Nat} {t:Tx} {c:Co} {g:List Tx} {ki bi ai:Nat} (hl:c.al.length < 100000000) (F:Hd→Co→List Su→Co × List Su) (hF:∀ b∈c.al,zI p t b.2 false (g ++ b.1.vars) (F b.1 b.2)) (hgl:∀ b∈c.al,g.length + b.1.vars.length < 100000000) (hmade:∀ b∈c.al,∀ m,(F b.1 b.2 m).2.length≤m.length + b.2.size) :
  ∀ (rest done D':List (Hd × Co)) (σ:Store) (a:Nat) (m:List Su),c.al=done ++ rest→D'.length=done.length→FSt σ p a t m→(c.al≠[]→dE σ.objs ai=some (cellsOf ((D' ++ rest).map dA)))→ai < σ.next∨c.al=[]→(c.al≠[]→ai≠p)→(c.al≠[]→ai≠a)→m.length + szA rest < 50000000 →
  ∃ σ' a' n0,(∀ N n,n0≤N→rest.length < n→gU (exec (W SP N) N none kH) n (Ep2 p c g ki bi ai done.length) σ=some (.exit 4,{Ep2 p c g ki bi ai c.al.length with slots:=[(0,⟨false,.ptr p 0⟩),(3,⟨false,dSs g⟩),(129,⟨false,jB k_4 ai c.al.length⟩),(130,⟨false,.int .i64 c.al.length⟩),(131,⟨false,.int .i64 c.al.length⟩),(132,⟨false,.bool false⟩)]},σ')) ∧
   FSt σ' p a' t (iE F rest m).2∧(c.al≠[]→dE σ'.objs ai=some (cellsOf ((D' ++ (iE F rest m).1).map dA)))∧FrV (VX true p ai a ai) (VX true p ai a' ai) 0 0 σ σ'∧(a'=a∨σ.next≤a')
 | [],done,D',σ,a,m,hd,hD,h,hb,hbn,hp,ha,hm=>by
  refine ⟨σ,a,0,fun N n _ hn=>?_,h,hb,FrA.refl.v _ _,.inl rfl⟩
  obtain ⟨n,rfl⟩:∃ k,n=k + 1:=⟨n - 1,by omega⟩
  have e:done.length=c.al.length:=by rw [hd]; simp
  rw [e]
  exact kT (zf0b (W SP N) N σ p c g ki bi ai)
 | b :: rest,done,D',σ,a,m,hd,hD,h,hb,hbn,hp,ha,hm=>by
  have hne:c.al≠[]:=by rw [hd]; simp
  have hi:done.length < c.al.length:=by rw [hd]; simp
  have hbm:b∈c.al:=by rw [hd]; simp
  have hbn:=hbn.resolve_right hne
  have hL:(D' ++ b :: rest).length=c.al.length:=by rw [hd]; simp [hD]
  have hLi:done.length < (D' ++ b :: rest).length:=by omega
  have hs:(D' ++ b :: rest)[done.length]=b:=by
   rw [bT (by omega)]
   simp [hD]
  have hset:∀ x,(D' ++ b :: rest).set done.length x=(D' ++ [x]) ++ rest:=fun x=>by
   rw [List.set_append_right _ _ (by omega)]
   simp [hD]
  simp only [szA] at hm
  obtain ⟨σ1,a1,⟨n1,w1⟩,h1,f1⟩:=hF b hbm σ a m h (by omega)
  have hmd:=hmade b hbm m
  have hb1:dE σ1.objs ai=some (cellsOf ((D' ++ b :: rest).map dA)):=f1.get (hb hne) hbn (hp hne) (ha hne)
  have ha1:ai≠a1:=by have:=ha hne; rcases f1.fa with e | e <;> omega
  have hbn1:ai < σ1.next:=aP hbn f1.nx
  have hst:=fun C n=>zdnb (C:=C) (n:=n) (σ:=σ) (σ1:=σ1) p c g ki bi ai done.length (D' ++ b :: rest) hL hi (by omega) (hb hne) hb1 (F b.1 b.2 m).1
  rw [hset,hs] at hst
  obtain ⟨σ2,a2,n2,w2,h2,b2,f2,fa2⟩:=zo5 hl F hF hgl hmade rest (done ++ [b]) (D' ++ [(b.1,(F b.1 b.2 m).1)]) (SO σ1 ai (cellsOf ((D' ++ [(b.1,(F b.1 b.2 m).1)] ++ rest).map dA))) a1 (F b.1 b.2 m).2 (by rw [hd]; simp) (by simp [hD]) (h1.so (hp hne) ha1) (fun _=>jS) (.inl (by rw [gQ]; exact hbn1)) hp (fun _=>ha1) (by omega)
  simp only [aF,aG,aH,aN] at w2
  refine ⟨σ2,a2,max (max n1 n2) 1,fun N n hN hn=>?_,h2,?_,((f1.v true ai ai).trans zwq).trans f2,?_⟩
  ·obtain ⟨n,rfl⟩:∃ k,n=k + 1:=⟨n - 1,by omega⟩
   obtain ⟨K,rfl⟩:∃ k,N=k + 1:=⟨N - 1,by omega⟩
   rw [iJ (hst (W SP (K + 1)) (K + 1) (Ya (S:=SP) rfl _ _ (hgl b hbm) K σ) (w1 (K + 1) (by omega)))]
   exact w2 (K + 1) n (by omega) (by simp at hn; omega)
  ·intro hne
   rw [b2 hne]
   simp [iE]
  ·rw [gQ] at fa2
   have:=f1.nx
   rcases f1.fa with e | e <;> rcases fa2 with e2 | e2 <;> omega
end Go.Fu
namespace Go.Fu
open Go Go.Mx
set_option maxRecDepth 10000
set_option maxHeartbeats 4000000
theorem zepb {S:eD} (h1:has S Bq=false) (n:Nat) (x:Int) (hx:Small x) (σ:Store):W S (n + 1) Bq [.int .i64 x] σ=some (.ret ⟨false,.str (tB x)⟩,σ):=by
 rw [zg6b h1 rfl rfl]
 have h2:Ry x=true:=by simp [Ry,hx.1,hx.2]
 have h:Xc Bq [.int .i64 x] σ=dG (za6 [.int .i64 x]) fun d=>some (.ret ⟨false,d⟩,σ):=rfl
 rw [h]
 simp only [za6,h2,dJ,dG,dK]
theorem FSt.app {σ:Store} {p a:Nat} {t:Tx} {m:List Su} (h:FSt σ p a t m) (x:Su) (hl:m.length < 100000000):∃ σ1,eV σ k_5 200 (wG a m) [dU x]=some (.arr k_5 σ.next 0 (m.length + 1),σ1)∧dE σ1.objs p=some [⟨false,.str t⟩,⟨false,wG a m⟩] ∧
  FSt (SO σ1 p [⟨false,.str t⟩,⟨false,.arr k_5 σ.next 0 (m.length + 1)⟩]) p σ.next t (m ++ [x])∧Frm p a 0 σ.next 0 σ (SO σ1 p [⟨false,.str t⟩,⟨false,.arr k_5 σ.next 0 (m.length + 1)⟩]):=by
 have hp:=h.pn
 have hpn:¬ σ.next=p:=by omega
 have hpa:=h.pa
 have h1:eM k_5.sz [dU x]=true:=by
  have:(dU x).cells.length=k_5.sz:=Bc x
  simp only [eM,zrs,this,bW,aY]
 have e1:decide ((m.length + 1) * 200≤eL)=true:=decide_eq_true (show (m.length + 1) * 200≤1099511627776 by omega)
 have e2:decide (m.length + 1≤eL)=true:=decide_eq_true (show m.length + 1≤1099511627776 by omega)
 have hsn:wG σ.next (m ++ [x])=.arr k_5 σ.next 0 (m.length + 1):=by
  unfold wG
  rw [aF,cC]
  rfl
 have fin:∀ σ1:Store,σ1.next=σ.next + 2→σ1.oth=σ.oth→σ1.tys=(σ.next,⟨k_5.el,k_5.sz⟩) :: σ.tys→dE σ1.objs σ.next=some (cellsOf ((m ++ [x]).map dU))→(∀ j,j < σ.next→j≠a→dE σ1.objs j=dE σ.objs j) →
   dE σ1.objs p=some [⟨false,.str t⟩,⟨false,wG a m⟩]∧FSt (SO σ1 p [⟨false,.str t⟩,⟨false,.arr k_5 σ.next 0 (m.length + 1)⟩]) p σ.next t (m ++ [x])∧Frm p a 0 σ.next 0 σ (SO σ1 p [⟨false,.str t⟩,⟨false,.arr k_5 σ.next 0 (m.length + 1)⟩]):=by
  intro σ1 hn ho ht hc hj
  refine ⟨by rw [hj p hp hpa]; exact h.obj,⟨?_,fun _=>⟨?_,?_⟩,fun e=>hpn e.symm,?_,fun _=>?_⟩,⟨?_,fun j h1 h2 h3=>?_,fun j h1=>?_,fun j _ _=>?_,.inr (aM _),.inl rfl⟩⟩
  ·rw [jS,hsn]
  ·rw [iY hpn,hc]
  ·rw [As,ht,agS]
  ·rw [gQ]; omega
  ·rw [gQ]; omega
  ·rw [gQ]; omega
  ·rw [iY h2,hj j h1 h3]
  ·rw [As,ht,agC _ _ _ _ (by omega)]
  ·rw [xT,ho]
 by_cases hm:m=[]
 ·subst hm
  have e:([dU x].isEmpty)=false:=rfl
  have ea:wG a ([]:List Su)=.nils:=rfl
  refine ⟨dR σ k_5 (cellsOf [dU x]),?_,?_⟩
  ·simp only [ea,eV,h1,e,dJ,dH,aG,aH,aN] at e1 e2 ⊢
   simp only [e1,e2,aY,dJ]
  ·refine fin _ rfl rfl rfl ?_ fun j hj ha=>?_
   ·simp only [dR,agS]
    rfl
   ·simp only [dR]
    rw [agC _ _ _ _ (by omega)]
 ·obtain ⟨g1,g2⟩:=h.arr hm
  have hlm:m.length≠0:=fun e=>hm (aR.1 e)
  have ea:wG a m=.arr k_5 a 0 m.length:=rK _ _ _ hlm
  have hcl:=mA' (sz:=12) Bc m
  have e0:decide (m.length * k_5.sz≤(cellsOf (m.map dU)).length)=true:=by rw [hcl]; simp [k_5]
  have ek:k_5.same k_5=true:=rfl
  have ht:(cellsOf (m.map dU)).take (m.length * k_5.sz)=cellsOf (m.map dU):=List.take_of_length_le (by rw [hcl]; simp [k_5])
  have en:(cellsOf (m.map dU)).map (fun c=>Cell.of c.d) ++ cellsOf [dU x]=cellsOf ((m ++ [x]).map dU):=by
   rw [zM,aU,qB]
   rfl
  refine ⟨dR {σ with objs:=eE σ.objs a} k_5 (cellsOf ((m ++ [x]).map dU)),?_,?_⟩
  ·simp only [ea,eV,h1,dJ,g1,g2,dG,dK,ek,bW,aG,aH,aN] at e1 e2 ⊢
   simp only [e0,e1,e2,aY,dJ,ht,en]
  ·refine fin _ rfl rfl rfl ?_ fun j hj ha=>?_
   ·simp only [dR,agS]
   ·simp only [dR]
    rw [agC _ _ _ _ (by omega),agD _ _ ha]
theorem Gl (u:Su):dU u=.agg [.str u.name,dSs u.ps,.int .i64 u.body.f,.int .i64 u.body.n,.str u.body.s,.int .i64 0,.int .i64 0,.str [],.nils,kD u.body,bD u.body,aD u.body]:=rfl
theorem zyo (c:Co) (hw:Wf c) (hsz:c.size < 10000000) (ar:List Tx) (har:ar.length < 10000000) (p:Nat) (t:Tx) (ht:t.length < 10000000) (hli:kZ c true=true):zI p t c true ar (pK c ar t):=by
 intro σ a m h hm
 have hfl:=Oz c.size c [] ar []
 simp only [aH,aN] at hfl
 have hsm:Small ((m.length:Int) + 1):=⟨by omega,by omega⟩
 have hil:=zdy ((m.length:Int) + 1)
 obtain ⟨σ1,a1,a2,a3,a4⟩:=h.app ⟨oQ t m,fU c.size c [] ar [],c⟩ (by omega)
 refine ⟨_,_,⟨3,fun n hn=>?_⟩,a3,a4⟩
 obtain ⟨n,rfl⟩:∃ k,n=k + 2:=⟨n - 2,by omega⟩
 rw [eH (af:=iS) rfl rfl rfl]
 have k1:=zeqb (S:=SP) rfl c ar hw hsz har n σ
 have k2:=zepb (S:=SP) rfl n ((m.length:Int) + 1) hsm σ
 have k3:=zzm (S:=SP) rfl (oQ t m) n (SO σ1 p [⟨false,.str t⟩,⟨false,.arr k_5 σ.next 0 (m.length + 1)⟩])
 have k4:=zerb (S:=SP) rfl (fU c.size c [] ar []) (by omega) n (SO σ1 p [⟨false,.str t⟩,⟨false,.arr k_5 σ.next 0 (m.length + 1)⟩])
 have k5:=zg4b (S:=SP) rfl (oQ t m) (fU c.size c [] ar []) (by omega) n (SO σ1 p [⟨false,.str t⟩,⟨false,.arr k_5 σ.next 0 (m.length + 1)⟩])
 have ho:=h.obj
 have hon:=jO c
 have w:IntKind.i64.wrap ((m.length:Int) + 1)=(m.length:Int) + 1:=lV (by omega) (by omega)
 have hlu:lenOf (wG a m)=some m.length:=Bm _ _ _
 obtain ⟨hu1,hu2,hu3⟩:=Kw k_5 a m.length
 have hcat:(t ++ [37]) ++ tB ((m.length:Int) + 1)=oQ t m:=rfl
 have hb1:t.length + [(37:UInt8)].length≤281474976710656:=by simp; omega
 have hb2:(t ++ [37]).length + (tB ((m.length:Int) + 1)).length≤281474976710656:=by simp; omega
 have hb3:t.length≤281474976710655:=by omega
 have hb4:t.length + 1 + (tB ((m.length:Int) + 1)).length≤281474976710656:=by omega
 have hF:(pK c ar t m).1=kS (eQ (oQ t m)) (fU c.size c [] ar []):=rfl
 rw [hF]
 generalize fU c.size c [] ar []=own at *
 generalize hnm:oQ t m=nm at *
 generalize kS (eQ nm) own=gm at *
 have hdg:=fJ gm
 have hog:=jO gm
 have hoO:=gW own
 have okO:(dSs own).ok=true:=gZ
 have ceO:(dSs own).cells=[dSs own]:=fG
 rw [Gl] at a1
 rw [fJ] at k1
 rw [hdg] at k5 ⊢
 simp only at a1
 have hor:((c.f == 9) || (c.f == 10) || (c.f == 11))=true:=by simpa [kZ] using hli
 obtain ⟨dv,hdv⟩:∃ dv,dv=dCo (eQ nm):=⟨_,rfl⟩
 obtain ⟨ds,hds⟩:∃ ds,ds=dCs (own.map eQ):=⟨_,rfl⟩
 rw [← hdv] at k3 k5
 rw [← hds] at k4 k5
 have hdc:=fJ c
 cases e9:c.f == 9 with
 | true =>
  simp only [iS,sA,Nat.reduceAdd,Nat.reduceSub,Nat.reduceMul,Nat.reduceBEq,Nat.reduceLeDiff,Int.reduceBEq,Int.reduceBNe,Int.reduceLE,Int.reduceLT,Int.reduceGE,Int.reduceGT,Int.reduceNeg,kn,eI,mB,hdc,hon,e9,k1,ho,lX,hlu,w,k2,jW,hb1,hb2,hb3,hb4,hcat,okO,ceO,hoO,a1,a2,pN,k3,k4,k5,hog]
 | false =>
  cases e10:c.f == 10 with
  | true=>simp only [iS,sA,Nat.reduceAdd,Nat.reduceSub,Nat.reduceMul,Nat.reduceBEq,Nat.reduceLeDiff,Int.reduceBEq,Int.reduceBNe,Int.reduceLE,Int.reduceLT,Int.reduceGE,Int.reduceGT,Int.reduceNeg,kn,eI,mB,hdc,hon,e9,e10,k1,ho,lX,hlu,w,k2,jW,hb1,hb2,hb3,hb4,hcat,okO,ceO,hoO,a1,a2,pN,k3,k4,k5,hog]
  | false =>
   have e11:(c.f == 11)=true:=by
    rw [e9,e10] at hor
    simpa using hor
   simp only [iS,sA,Nat.reduceAdd,Nat.reduceSub,Nat.reduceMul,Nat.reduceBEq,Nat.reduceLeDiff,Int.reduceBEq,Int.reduceBNe,Int.reduceLE,Int.reduceLT,Int.reduceGE,Int.reduceGT,Int.reduceNeg,kn,eI,mB,hdc,hon,e9,e10,e11,k1,ho,lX,hlu,w,k2,jW,hb1,hb2,hb3,hb4,hcat,okO,ceO,hoO,a1,a2,pN,k3,k4,k5,hog]
theorem zu4 {c:Co} {lz:Bool} (h:kZ c lz=false):lz=false∨((c.f == 9)=false∧(c.f == 10)=false∧(c.f == 11)=false):=by
 unfold kZ at h
 cases lz with
 | false=>exact .inl rfl
 | true =>
  refine .inr ?_
  cases e9:c.f == 9 <;> cases e10:c.f == 10 <;> cases e11:c.f == 11 <;> simp_all
theorem zcm {α:Type} {g:α→D} {k:RowK} {sz:Nat} (hk:k.sz=sz) (hks:(k.ag || k.sz == 1)=true) (hs:∀ x,(g x).cells.length=sz) (hp:∀ x,xO k (g x).cells=g x) (hf:∀ x os,eX 39 (g x) os=some (g x,os)) (l:List α) (id:Nat) (os:kV) (h:l≠[]→dE os id=some (cellsOf (l.map g))):∃ os',eX 40 (jB k id l.length) os=some (eJ k (l.map g),os')∧(∀ j,(l≠[]→j≠id)→dE os' j=dE os j):=by
 by_cases hne:l=[]
 ·subst hne
  exact ⟨os,rfl,fun _ _=>rfl⟩
 ·have hr:=tP (k:=k) (id:=id) (n:=39) (ds:=l.map g) (os:=os) (os':=eE os id) (h hne) rfl hks (fun d hd=>by
   obtain ⟨x,_,rfl⟩:=bF.1 hd
   exact ⟨by rw [hs,hk],hp x⟩) (fun d hd=>by
   obtain ⟨x,_,rfl⟩:=bF.1 hd
   exact hf x _)
  rw [aJ] at hr
  rw [rK _ _ _ (fun h=>hne (aR.1 h)),hr]
  refine ⟨_,?_,fun j hj=>agD _ _ (hj hne) _⟩
  cases l with
  | nil=>exact absurd rfl hne
  | cons x r=>rfl
end Go.Fu

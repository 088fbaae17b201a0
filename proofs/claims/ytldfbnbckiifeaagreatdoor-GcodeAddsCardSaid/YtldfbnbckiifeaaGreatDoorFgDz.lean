/-
 The flattener's loops: binds,kids,alternatives.
-/
import Derived.Test.YtldfbnbckiifeaaGreatDoorFgDx
set_option maxHeartbeats 4000000
set_option linter.unusedSimpArgs false
set_option linter.unusedVariables false
set_option linter.unusedSectionVars false
namespace Go.Fu
open Go Go.Mx
set_option maxRecDepth 10000
set_option maxHeartbeats 4000000
theorem FSt.v {σ σ':Store} {p a a':Nat} (f:Frm p a 0 a' 0 σ σ') (b:Nat):FrV (VX true p b a b) (VX true p b a' b) 0 0 σ σ':=f.v true b b
theorem ztd {σ:Store} {p a b:Nat} {cs:List Cell}:FrV (VX true p b a b) (VX true p b a b) 0 0 σ (SO σ b cs):=⟨Nat.le_refl _,fun j _ hv=>eK (fun e=>hv (.inr (.inr ⟨rfl,.inl e⟩))),fun _ _=>rfl,fun _ _ _=>rfl,fun _ h=>.inl h,.inl rfl⟩
theorem zb9b (C:aM) (n:Nat) (σ:Store) (p:Nat) (c:Co) (lz:Bool) (g:List Tx) (ki bi ai:Nat):exec C n none fZ (Ep0 p c lz g ki bi ai c.bs.length) σ=some (.exit 0,{Ep0 p c lz g ki bi ai c.bs.length with slots:=[(0,⟨false,.ptr p 0⟩),(2,⟨false,.bool lz⟩),(3,⟨false,dSs g⟩),(87,⟨false,eP k_3 bi c.bs.length⟩),(88,⟨false,.int .i64 c.bs.length⟩),(89,⟨false,.int .i64 c.bs.length⟩),(90,⟨false,.bool false⟩)]},σ):=by
 have hlt:¬ ((c.bs.length:Int) < (c.bs.length:Int)):=by omega
 simp only [fZ,Ep0,sA,Nat.reduceAdd,Nat.reduceSub,Nat.reduceMul,Nat.reduceBEq,Nat.reduceLeDiff,Int.reduceBEq,Int.reduceBNe,Int.reduceLE,Int.reduceLT,Int.reduceGE,Int.reduceGT,Int.reduceNeg,kn,hlt]
theorem zl4 {p:Nat} {t:Tx} {c:Co} {lz:Bool} {g:List Tx} {ki bi ai:Nat} (hl:c.bs.length < 100000000) (F:Co→List Su→Co × List Su) (hF:∀ b∈c.bs,wP p t b.2 true g (F b.2)) (hmade:∀ b∈c.bs,∀ m,(F b.2 m).2.length≤m.length + b.2.size) :
  ∀ (rest done D':List (Tx × Co)) (σ:Store) (a:Nat) (m:List Su),c.bs=done ++ rest→D'.length=done.length→FSt σ p a t m→(c.bs≠[]→aB σ.objs bi=some (cellsOf ((D' ++ rest).map dB)))→bi < σ.next∨c.bs=[]→(c.bs≠[]→bi≠p)→(c.bs≠[]→bi≠a)→m.length + szB rest < 50000000 →
  ∃ σ' a' n0,(∀ N n,n0≤N→rest.length < n→dL (exec (W SP N) N none fZ) n (Ep0 p c lz g ki bi ai done.length) σ=some (.exit 0,{Ep0 p c lz g ki bi ai c.bs.length with slots:=[(0,⟨false,.ptr p 0⟩),(2,⟨false,.bool lz⟩),(3,⟨false,dSs g⟩),(87,⟨false,eP k_3 bi c.bs.length⟩),(88,⟨false,.int .i64 c.bs.length⟩),(89,⟨false,.int .i64 c.bs.length⟩),(90,⟨false,.bool false⟩)]},σ')) ∧
   FSt σ' p a' t (cJ F rest m).2∧(c.bs≠[]→aB σ'.objs bi=some (cellsOf ((D' ++ (cJ F rest m).1).map dB)))∧FrV (VX true p bi a bi) (VX true p bi a' bi) 0 0 σ σ'∧(a'=a∨σ.next≤a')
 | [],done,D',σ,a,m,hd,hD,h,hb,hbn,hp,ha,hm=>by
  refine ⟨σ,a,0,fun N n _ hn=>?_,h,hb,FrA.refl.v _ _,.inl rfl⟩
  obtain ⟨n,rfl⟩:∃ k,n=k + 1:=⟨n - 1,by omega⟩
  have e:done.length=c.bs.length:=by rw [hd]; simp
  rw [e]
  exact gX (zb9b (W SP N) N σ p c lz g ki bi ai)
 | b :: rest,done,D',σ,a,m,hd,hD,h,hb,hbn,hp,ha,hm=>by
  have hne:c.bs≠[]:=by rw [hd]; simp
  have hi:done.length < c.bs.length:=by rw [hd]; simp
  have hbm:b∈c.bs:=by rw [hd]; simp
  have hbn:=hbn.resolve_right hne
  have hL:(D' ++ b :: rest).length=c.bs.length:=by rw [hd]; simp [hD]
  have hLi:done.length < (D' ++ b :: rest).length:=by omega
  have hs:(D' ++ b :: rest)[done.length]=b:=by
   rw [List.getElem_append_right (by omega)]
   simp [hD]
  have hset:∀ x,(D' ++ b :: rest).set done.length x=(D' ++ [x]) ++ rest:=fun x=>by
   rw [List.set_append_right _ _ (by omega)]
   simp [hD]
  simp only [szB] at hm
  obtain ⟨σ1,a1,⟨n1,w1⟩,h1,f1⟩:=hF b hbm σ a m h (by omega)
  have hmd:=hmade b hbm m
  have hb1:aB σ1.objs bi=some (cellsOf ((D' ++ b :: rest).map dB)):=f1.get (hb hne) hbn (hp hne) (ha hne)
  have ha1:bi≠a1:=by have:=ha hne; rcases f1.fa with e | e <;> omega
  have hbn1:bi < σ1.next:=Nat.lt_of_lt_of_le hbn f1.nx
  have hst:=fun C n=>zzz (C:=C) (n:=n) (σ:=σ) (σ1:=σ1) p c lz g ki bi ai done.length (D' ++ b :: rest) hL hi (by omega) (hb hne) hb1 (F b.2 m).1
  rw [hset,hs] at hst
  obtain ⟨σ2,a2,n2,w2,h2,b2,f2,fa2⟩:=zl4 hl F hF hmade rest (done ++ [b]) (D' ++ [(b.1,(F b.2 m).1)]) (SO σ1 bi (cellsOf ((D' ++ [(b.1,(F b.2 m).1)] ++ rest).map dB))) a1 (F b.2 m).2 (by rw [hd]; simp) (by simp [hD]) (h1.so (hp hne) ha1) (fun _=>fM) (.inl (by rw [dJ]; exact hbn1)) hp (fun _=>ha1) (by omega)
  simp only [List.length_append,List.length_cons,List.length_nil,Nat.zero_add] at w2
  refine ⟨σ2,a2,max n1 n2,fun N n hN hn=>?_,h2,?_,((f1.v true bi bi).trans ztd).trans f2,?_⟩
  ·obtain ⟨n,rfl⟩:∃ k,n=k + 1:=⟨n - 1,by omega⟩
   rw [dW (hst (W SP N) N (w1 N (by omega)))]
   exact w2 N n (by omega) (by simp at hn; omega)
  ·intro hne
   rw [b2 hne]
   simp [cJ]
  ·rw [dJ] at fa2
   have:=f1.nx
   rcases f1.fa with e | e <;> rcases fa2 with e2 | e2 <;> omega
def Ep1 (p:Nat) (c:Co) (lz:Bool) (g:List Tx) (ki bi ai i:Nat):Env:={slots:=[(0,⟨false,.ptr p 0⟩),(2,⟨false,.bool lz⟩),(3,⟨false,dSs g⟩),(106,⟨false,eP k_2 ki c.ks.length⟩),(107,⟨false,.int .i64 c.ks.length⟩),(108,⟨false,.int .i64 i⟩)],locs:=[(5,(5,0)),(8,(8,0))],boxes:=[(5,boxA c ki bi ai),(8,zC)],defers:=[]}
theorem zz3 (b x:Co):putCells ((dCo b).cells.map Cell.of) 0 ((dCo x).cells.map Cell.of)=(dCo x).cells.map Cell.of:=by
 rw [bY,bY]
 rfl
theorem zz0 {C:aM} {n:Nat} {σ σ1:Store} (p:Nat) (c:Co) (lz:Bool) (g:List Tx) (ki bi ai i:Nat) (L:List Co) (hL:L.length=c.ks.length) (hi:i < c.ks.length) (hl:c.ks.length < 1000000000) (ha:aB σ.objs ki=some (cellsOf (L.map dCo))) (ha1:aB σ1.objs ki=some (cellsOf (L.map dCo))) (x:Co)
  (h1:C sY [.ptr p 0,dCo (L[i]'(by omega)),.bool (lz || (c.f == 4)),dSs g] σ=some (.ret ⟨false,dCo x⟩,σ1)) :
  exec C n none eQ (Ep1 p c lz g ki bi ai i) σ=some (.normal,Ep1 p c lz g ki bi ai (i + 1),SO σ1 ki (cellsOf ((L.set i x).map dCo))):=by
 have hlt:((i:Int) < (c.ks.length:Int)):=by omega
 have w:=aR (i:=i) (by omega)
 have hiL:i < L.length:=by omega
 have ht:=zD (g:=dCo) (sz:=9) iY L i hiL
 have hp:=zax (g:=dCo) (sz:=10) iY L i hiL 0 ((dCo x).cells.map Cell.of) x (by rw [List.length_map,iY]; omega) (zz3 _ x)
 rw [Nat.add_zero] at hp
 have es:(k_2.sz == 10)=true:=rfl
 have hag:=oP k_2 ki c.ks.length (by omega)
 have hfit:i * 10 + 10≤(cellsOf (L.map dCo)).length:=by
  rw [jD' (sz:=10) iY]
  have:(i + 1) * 10≤L.length * 10:=Nat.mul_le_mul_right _ (by omega)
  omega
 generalize L[i]'hiL=b at ht h1
 have hon:=fF b
 have hok:=yT x
 have hce:(dCo x).cells.length=10:=iY x
 have hone:(dCo x).one=false:=by rw [bY]; rfl
 rw [bY] at ht h1
 simp only [D.cells] at ht
 cases e4:c.f == 4 with
 | true =>
  rw [e4,Bool.or_true] at h1
  simp only [eQ,Ep1,boxA,zC,sA,Nat.reduceAdd,Nat.reduceSub,Nat.reduceMul,Nat.reduceBEq,Nat.reduceLeDiff,Int.reduceBEq,Int.reduceBNe,Int.reduceLE,Int.reduceLT,Int.reduceGE,Int.reduceGT,Int.reduceNeg,kn,bF,mB,hlt,cL,hag,jJ,es,hi,Nat.zero_add,ha,ht,hon,e4,h1,ha1,hok,hce,hfit,hone,hp,w]
 | false =>
  rw [e4,Bool.or_false] at h1
  simp only [eQ,Ep1,boxA,zC,sA,Nat.reduceAdd,Nat.reduceSub,Nat.reduceMul,Nat.reduceBEq,Nat.reduceLeDiff,Int.reduceBEq,Int.reduceBNe,Int.reduceLE,Int.reduceLT,Int.reduceGE,Int.reduceGT,Int.reduceNeg,kn,bF,mB,hlt,cL,hag,jJ,es,hi,Nat.zero_add,ha,ht,hon,e4,h1,ha1,hok,hce,hfit,hone,hp,w]
theorem zcab (C:aM) (n:Nat) (σ:Store) (p:Nat) (c:Co) (lz:Bool) (g:List Tx) (ki bi ai:Nat):exec C n none eQ (Ep1 p c lz g ki bi ai c.ks.length) σ=some (.exit 2,{Ep1 p c lz g ki bi ai c.ks.length with slots:=[(0,⟨false,.ptr p 0⟩),(2,⟨false,.bool lz⟩),(3,⟨false,dSs g⟩),(106,⟨false,eP k_2 ki c.ks.length⟩),(107,⟨false,.int .i64 c.ks.length⟩),(108,⟨false,.int .i64 c.ks.length⟩),(109,⟨false,.bool false⟩)]},σ):=by
 have hlt:¬ ((c.ks.length:Int) < (c.ks.length:Int)):=by omega
 simp only [eQ,Ep1,sA,Nat.reduceAdd,Nat.reduceSub,Nat.reduceMul,Nat.reduceBEq,Nat.reduceLeDiff,Int.reduceBEq,Int.reduceBNe,Int.reduceLE,Int.reduceLT,Int.reduceGE,Int.reduceGT,Int.reduceNeg,kn,hlt]
theorem zl5 {p:Nat} {t:Tx} {c:Co} {lz:Bool} {g:List Tx} {ki bi ai:Nat} (hl:c.ks.length < 100000000) (F:Co→List Su→Co × List Su) (hF:∀ b∈c.ks,wP p t b (lz || (c.f == 4)) g (F b)) (hmade:∀ b∈c.ks,∀ m,(F b m).2.length≤m.length + b.size) :
  ∀ (rest done D':List Co) (σ:Store) (a:Nat) (m:List Su),c.ks=done ++ rest→D'.length=done.length→FSt σ p a t m→(c.ks≠[]→aB σ.objs ki=some (cellsOf ((D' ++ rest).map dCo)))→ki < σ.next∨c.ks=[]→(c.ks≠[]→ki≠p)→(c.ks≠[]→ki≠a)→m.length + szK rest < 50000000 →
  ∃ σ' a' n0,(∀ N n,n0≤N→rest.length < n→dL (exec (W SP N) N none eQ) n (Ep1 p c lz g ki bi ai done.length) σ=some (.exit 2,{Ep1 p c lz g ki bi ai c.ks.length with slots:=[(0,⟨false,.ptr p 0⟩),(2,⟨false,.bool lz⟩),(3,⟨false,dSs g⟩),(106,⟨false,eP k_2 ki c.ks.length⟩),(107,⟨false,.int .i64 c.ks.length⟩),(108,⟨false,.int .i64 c.ks.length⟩),(109,⟨false,.bool false⟩)]},σ')) ∧
   FSt σ' p a' t (eJ F rest m).2∧(c.ks≠[]→aB σ'.objs ki=some (cellsOf ((D' ++ (eJ F rest m).1).map dCo)))∧FrV (VX true p ki a ki) (VX true p ki a' ki) 0 0 σ σ'∧(a'=a∨σ.next≤a')
 | [],done,D',σ,a,m,hd,hD,h,hb,hbn,hp,ha,hm=>by
  refine ⟨σ,a,0,fun N n _ hn=>?_,h,hb,FrA.refl.v _ _,.inl rfl⟩
  obtain ⟨n,rfl⟩:∃ k,n=k + 1:=⟨n - 1,by omega⟩
  have e:done.length=c.ks.length:=by rw [hd]; simp
  rw [e]
  exact gX (zcab (W SP N) N σ p c lz g ki bi ai)
 | b :: rest,done,D',σ,a,m,hd,hD,h,hb,hbn,hp,ha,hm=>by
  have hne:c.ks≠[]:=by rw [hd]; simp
  have hi:done.length < c.ks.length:=by rw [hd]; simp
  have hbm:b∈c.ks:=by rw [hd]; simp
  have hbn:=hbn.resolve_right hne
  have hL:(D' ++ b :: rest).length=c.ks.length:=by rw [hd]; simp [hD]
  have hLi:done.length < (D' ++ b :: rest).length:=by omega
  have hs:(D' ++ b :: rest)[done.length]=b:=by
   rw [List.getElem_append_right (by omega)]
   simp [hD]
  have hset:∀ x,(D' ++ b :: rest).set done.length x=(D' ++ [x]) ++ rest:=fun x=>by
   rw [List.set_append_right _ _ (by omega)]
   simp [hD]
  simp only [szK] at hm
  obtain ⟨σ1,a1,⟨n1,w1⟩,h1,f1⟩:=hF b hbm σ a m h (by omega)
  have hmd:=hmade b hbm m
  have hb1:aB σ1.objs ki=some (cellsOf ((D' ++ b :: rest).map dCo)):=f1.get (hb hne) hbn (hp hne) (ha hne)
  have ha1:ki≠a1:=by have:=ha hne; rcases f1.fa with e | e <;> omega
  have hbn1:ki < σ1.next:=Nat.lt_of_lt_of_le hbn f1.nx
  have hst:=fun C n=>zz0 (C:=C) (n:=n) (σ:=σ) (σ1:=σ1) p c lz g ki bi ai done.length (D' ++ b :: rest) hL hi (by omega) (hb hne) hb1 (F b m).1
  rw [hset,hs] at hst
  obtain ⟨σ2,a2,n2,w2,h2,b2,f2,fa2⟩:=zl5 hl F hF hmade rest (done ++ [b]) (D' ++ [(F b m).1]) (SO σ1 ki (cellsOf ((D' ++ [(F b m).1] ++ rest).map dCo))) a1 (F b m).2 (by rw [hd]; simp) (by simp [hD]) (h1.so (hp hne) ha1) (fun _=>fM) (.inl (by rw [dJ]; exact hbn1)) hp (fun _=>ha1) (by omega)
  simp only [List.length_append,List.length_cons,List.length_nil,Nat.zero_add] at w2
  refine ⟨σ2,a2,max n1 n2,fun N n hN hn=>?_,h2,?_,((f1.v true ki ki).trans ztd).trans f2,?_⟩
  ·obtain ⟨n,rfl⟩:∃ k,n=k + 1:=⟨n - 1,by omega⟩
   rw [dW (hst (W SP N) N (w1 N (by omega)))]
   exact w2 N n (by omega) (by simp at hn; omega)
  ·intro hne
   rw [b2 hne]
   simp [eJ]
  ·rw [dJ] at fa2
   have:=f1.nx
   rcases f1.fa with e | e <;> rcases fa2 with e2 | e2 <;> omega
def Ep2 (p:Nat) (c:Co) (g:List Tx) (ki bi ai i:Nat):Env:={slots:=[(0,⟨false,.ptr p 0⟩),(3,⟨false,dSs g⟩),(129,⟨false,eP k_4 ai c.al.length⟩),(130,⟨false,.int .i64 c.al.length⟩),(131,⟨false,.int .i64 i⟩)],locs:=[(5,(5,0)),(8,(8,0))],boxes:=[(5,boxA c ki bi ai),(8,zC)],defers:=[]}
theorem zccb (b:Hd × Co) (x:Co):putCells ((dA b).cells.map Cell.of) 4 ((dCo x).cells.map Cell.of)=(dA (b.1,x)).cells.map Cell.of:=by
 rw [mE,mE,bY]
 rfl
theorem zz1 {C:aM} {n:Nat} {σ σ1:Store} (p:Nat) (c:Co) (g:List Tx) (ki bi ai i:Nat) (L:List (Hd × Co)) (hL:L.length=c.al.length) (hi:i < c.al.length) (hl:c.al.length < 1000000000) (ha:aB σ.objs ai=some (cellsOf (L.map dA))) (ha1:aB σ1.objs ai=some (cellsOf (L.map dA))) (x:Co)
  (h0:C nX [dd g (L[i]'(by omega)).1.vars] σ=some (.ret ⟨false,dSs (g ++ (L[i]'(by omega)).1.vars)⟩,σ))
  (h1:C sY [.ptr p 0,dCo (L[i]'(by omega)).2,.bool false,dSs (g ++ (L[i]'(by omega)).1.vars)] σ=some (.ret ⟨false,dCo x⟩,σ1)) :
  exec C n none gC (Ep2 p c g ki bi ai i) σ=some (.normal,Ep2 p c g ki bi ai (i + 1),SO σ1 ai (cellsOf ((L.set i ((L[i]'(by omega)).1,x)).map dA))):=by
 have hlt:((i:Int) < (c.al.length:Int)):=by omega
 have w:=aR (i:=i) (by omega)
 have hiL:i < L.length:=by omega
 have ht:=zD (g:=dA) (sz:=13) tW L i hiL
 have hp:=zax (g:=dA) (sz:=14) tW L i hiL 4 ((dCo x).cells.map Cell.of) ((L[i]'hiL).1,x) (by rw [List.length_map,iY]; omega) (zccb _ x)
 have es:(k_4.sz == 14)=true:=rfl
 have hag:=oP k_4 ai c.al.length (by omega)
 have hfit:i * 14 + 4 + 10≤(cellsOf (L.map dA)).length:=by
  rw [jD' (sz:=14) tW]
  have:(i + 1) * 14≤L.length * 14:=Nat.mul_le_mul_right _ (by omega)
  omega
 generalize L[i]'hiL=b at ht h0 h1 hp
 have hon:=fF b.2
 have hoS:=dN b.1.vars
 have hoG:=dN g
 have okG:(dSs g).ok=true:=dQ
 have okV:(dSs b.1.vars).ok=true:=dQ
 have ceG:(dSs g).cells=[dSs g]:=bX
 have ceV:(dSs b.1.vars).cells=[dSs b.1.vars]:=bX
 have hok:=yT x
 have hce:(dCo x).cells.length=10:=iY x
 have hone:(dCo x).one=false:=by rw [bY]; rfl
 rw [mE] at ht
 rw [bY] at h1
 simp only [D.cells] at ht
 simp only [dd] at h0
 simp only [gC,Ep2,boxA,zC,sA,Nat.reduceAdd,Nat.reduceSub,Nat.reduceMul,Nat.reduceBEq,Nat.reduceLeDiff,Int.reduceBEq,Int.reduceBNe,Int.reduceLE,Int.reduceLT,Int.reduceGE,Int.reduceGT,Int.reduceNeg,kn,bF,mB,hlt,cL,hag,jJ,es,hi,Nat.zero_add,ha,ht,hon,hoS,okG,okV,ceG,ceV,h0,h1,ha1,hok,hce,hfit,hone,hp,w]
theorem zcbb (C:aM) (n:Nat) (σ:Store) (p:Nat) (c:Co) (g:List Tx) (ki bi ai:Nat):exec C n none gC (Ep2 p c g ki bi ai c.al.length) σ=some (.exit 4,{Ep2 p c g ki bi ai c.al.length with slots:=[(0,⟨false,.ptr p 0⟩),(3,⟨false,dSs g⟩),(129,⟨false,eP k_4 ai c.al.length⟩),(130,⟨false,.int .i64 c.al.length⟩),(131,⟨false,.int .i64 c.al.length⟩),(132,⟨false,.bool false⟩)]},σ):=by
 have hlt:¬ ((c.al.length:Int) < (c.al.length:Int)):=by omega
 simp only [gC,Ep2,sA,Nat.reduceAdd,Nat.reduceSub,Nat.reduceMul,Nat.reduceBEq,Nat.reduceLeDiff,Int.reduceBEq,Int.reduceBNe,Int.reduceLE,Int.reduceLT,Int.reduceGE,Int.reduceGT,Int.reduceNeg,kn,hlt]
theorem zl6 {p:Nat} {t:Tx} {c:Co} {g:List Tx} {ki bi ai:Nat} (hl:c.al.length < 100000000) (F:Hd→Co→List Su→Co × List Su) (hF:∀ b∈c.al,wP p t b.2 false (g ++ b.1.vars) (F b.1 b.2)) (hgl:∀ b∈c.al,g.length + b.1.vars.length < 100000000) (hmade:∀ b∈c.al,∀ m,(F b.1 b.2 m).2.length≤m.length + b.2.size) :
  ∀ (rest done D':List (Hd × Co)) (σ:Store) (a:Nat) (m:List Su),c.al=done ++ rest→D'.length=done.length→FSt σ p a t m→(c.al≠[]→aB σ.objs ai=some (cellsOf ((D' ++ rest).map dA)))→ai < σ.next∨c.al=[]→(c.al≠[]→ai≠p)→(c.al≠[]→ai≠a)→m.length + szA rest < 50000000 →
  ∃ σ' a' n0,(∀ N n,n0≤N→rest.length < n→dL (exec (W SP N) N none gC) n (Ep2 p c g ki bi ai done.length) σ=some (.exit 4,{Ep2 p c g ki bi ai c.al.length with slots:=[(0,⟨false,.ptr p 0⟩),(3,⟨false,dSs g⟩),(129,⟨false,eP k_4 ai c.al.length⟩),(130,⟨false,.int .i64 c.al.length⟩),(131,⟨false,.int .i64 c.al.length⟩),(132,⟨false,.bool false⟩)]},σ')) ∧
   FSt σ' p a' t (fE F rest m).2∧(c.al≠[]→aB σ'.objs ai=some (cellsOf ((D' ++ (fE F rest m).1).map dA)))∧FrV (VX true p ai a ai) (VX true p ai a' ai) 0 0 σ σ'∧(a'=a∨σ.next≤a')
 | [],done,D',σ,a,m,hd,hD,h,hb,hbn,hp,ha,hm=>by
  refine ⟨σ,a,0,fun N n _ hn=>?_,h,hb,FrA.refl.v _ _,.inl rfl⟩
  obtain ⟨n,rfl⟩:∃ k,n=k + 1:=⟨n - 1,by omega⟩
  have e:done.length=c.al.length:=by rw [hd]; simp
  rw [e]
  exact gX (zcbb (W SP N) N σ p c g ki bi ai)
 | b :: rest,done,D',σ,a,m,hd,hD,h,hb,hbn,hp,ha,hm=>by
  have hne:c.al≠[]:=by rw [hd]; simp
  have hi:done.length < c.al.length:=by rw [hd]; simp
  have hbm:b∈c.al:=by rw [hd]; simp
  have hbn:=hbn.resolve_right hne
  have hL:(D' ++ b :: rest).length=c.al.length:=by rw [hd]; simp [hD]
  have hLi:done.length < (D' ++ b :: rest).length:=by omega
  have hs:(D' ++ b :: rest)[done.length]=b:=by
   rw [List.getElem_append_right (by omega)]
   simp [hD]
  have hset:∀ x,(D' ++ b :: rest).set done.length x=(D' ++ [x]) ++ rest:=fun x=>by
   rw [List.set_append_right _ _ (by omega)]
   simp [hD]
  simp only [szA] at hm
  obtain ⟨σ1,a1,⟨n1,w1⟩,h1,f1⟩:=hF b hbm σ a m h (by omega)
  have hmd:=hmade b hbm m
  have hb1:aB σ1.objs ai=some (cellsOf ((D' ++ b :: rest).map dA)):=f1.get (hb hne) hbn (hp hne) (ha hne)
  have ha1:ai≠a1:=by have:=ha hne; rcases f1.fa with e | e <;> omega
  have hbn1:ai < σ1.next:=Nat.lt_of_lt_of_le hbn f1.nx
  have hst:=fun C n=>zz1 (C:=C) (n:=n) (σ:=σ) (σ1:=σ1) p c g ki bi ai done.length (D' ++ b :: rest) hL hi (by omega) (hb hne) hb1 (F b.1 b.2 m).1
  rw [hset,hs] at hst
  obtain ⟨σ2,a2,n2,w2,h2,b2,f2,fa2⟩:=zl6 hl F hF hgl hmade rest (done ++ [b]) (D' ++ [(b.1,(F b.1 b.2 m).1)]) (SO σ1 ai (cellsOf ((D' ++ [(b.1,(F b.1 b.2 m).1)] ++ rest).map dA))) a1 (F b.1 b.2 m).2 (by rw [hd]; simp) (by simp [hD]) (h1.so (hp hne) ha1) (fun _=>fM) (.inl (by rw [dJ]; exact hbn1)) hp (fun _=>ha1) (by omega)
  simp only [List.length_append,List.length_cons,List.length_nil,Nat.zero_add] at w2
  refine ⟨σ2,a2,max (max n1 n2) 1,fun N n hN hn=>?_,h2,?_,((f1.v true ai ai).trans ztd).trans f2,?_⟩
  ·obtain ⟨n,rfl⟩:∃ k,n=k + 1:=⟨n - 1,by omega⟩
   obtain ⟨K,rfl⟩:∃ k,N=k + 1:=⟨N - 1,by omega⟩
   rw [dW (hst (W SP (K + 1)) (K + 1) (Up (S:=SP) rfl _ _ (hgl b hbm) K σ) (w1 (K + 1) (by omega)))]
   exact w2 (K + 1) n (by omega) (by simp at hn; omega)
  ·intro hne
   rw [b2 hne]
   simp [fE]
  ·rw [dJ] at fa2
   have:=f1.nx
   rcases f1.fa with e | e <;> rcases fa2 with e2 | e2 <;> omega
end Go.Fu
namespace Go.Fu
open Go Go.Mx
set_option maxRecDepth 10000
set_option maxHeartbeats 4000000
theorem zaxb {S:aV} (h1:has S rQ=false) (n:Nat) (x:Int) (hx:Small x) (σ:Store):W S (n + 1) rQ [.int .i64 x] σ=some (.ret ⟨false,.str (cE x)⟩,σ):=by
 rw [zc8b h1 rfl rfl]
 have h2:Ad x=true:=by simp [Ad,hx.1,hx.2]
 have h:Xc rQ [.int .i64 x] σ=aC (Hz [.int .i64 x]) fun d=>some (.ret ⟨false,d⟩,σ):=rfl
 rw [h]
 simp only [Hz,h2,aE,aC,aF]
theorem FSt.app {σ:Store} {p a:Nat} {t:Tx} {m:List Su} (h:FSt σ p a t m) (x:Su) (hl:m.length < 100000000):∃ σ1,bP σ k_5 200 (tR a m) [dU x]=some (.arr k_5 σ.next 0 (m.length + 1),σ1)∧aB σ1.objs p=some [⟨false,.str t⟩,⟨false,tR a m⟩] ∧
  FSt (SO σ1 p [⟨false,.str t⟩,⟨false,.arr k_5 σ.next 0 (m.length + 1)⟩]) p σ.next t (m ++ [x])∧Frm p a 0 σ.next 0 σ (SO σ1 p [⟨false,.str t⟩,⟨false,.arr k_5 σ.next 0 (m.length + 1)⟩]):=by
 have hp:=h.pn
 have hpn:¬ σ.next=p:=by omega
 have hpa:=h.pa
 have h1:bI k_5.sz [dU x]=true:=by
  have:(dU x).cells.length=k_5.sz:=yH x
  simp only [bI,zoo,this,beq_self_eq_true,Bool.and_self]
 have e1:decide ((m.length + 1) * 200≤bG)=true:=decide_eq_true (show (m.length + 1) * 200≤1099511627776 by omega)
 have e2:decide (m.length + 1≤bG)=true:=decide_eq_true (show m.length + 1≤1099511627776 by omega)
 have hsn:tR σ.next (m ++ [x])=.arr k_5 σ.next 0 (m.length + 1):=by
  unfold tR
  rw [List.length_append,List.length_singleton]
  rfl
 have fin:∀ σ1:Store,σ1.next=σ.next + 2→σ1.oth=σ.oth→σ1.tys=(σ.next,⟨k_5.el,k_5.sz⟩) :: σ.tys→aB σ1.objs σ.next=some (cellsOf ((m ++ [x]).map dU))→(∀ j,j < σ.next→j≠a→aB σ1.objs j=aB σ.objs j) →
   aB σ1.objs p=some [⟨false,.str t⟩,⟨false,tR a m⟩]∧FSt (SO σ1 p [⟨false,.str t⟩,⟨false,.arr k_5 σ.next 0 (m.length + 1)⟩]) p σ.next t (m ++ [x])∧Frm p a 0 σ.next 0 σ (SO σ1 p [⟨false,.str t⟩,⟨false,.arr k_5 σ.next 0 (m.length + 1)⟩]):=by
  intro σ1 hn ho ht hc hj
  refine ⟨by rw [hj p hp hpa]; exact h.obj,⟨?_,fun _=>⟨?_,?_⟩,fun e=>hpn e.symm,?_,fun _=>?_⟩,⟨?_,fun j h1 h2 h3=>?_,fun j h1=>?_,fun j _ _=>?_,.inr (Nat.le_refl _),.inl rfl⟩⟩
  ·rw [fM,hsn]
  ·rw [eK hpn,hc]
  ·rw [yA,ht,agS]
  ·rw [dJ]; omega
  ·rw [dJ]; omega
  ·rw [dJ]; omega
  ·rw [eK h2,hj j h1 h3]
  ·rw [yA,ht,agC _ _ _ _ (by omega)]
  ·rw [vB,ho]
 by_cases hm:m=[]
 ·subst hm
  have e:([dU x].isEmpty)=false:=rfl
  have ea:tR a ([]:List Su)=.nils:=rfl
  refine ⟨aN σ k_5 (cellsOf [dU x]),?_,?_⟩
  ·simp only [ea,bP,h1,e,aE,aG,List.length_cons,List.length_nil,Nat.zero_add] at e1 e2 ⊢
   simp only [e1,e2,Bool.and_self,aE]
  ·refine fin _ rfl rfl rfl ?_ fun j hj ha=>?_
   ·simp only [aN,agS]
    rfl
   ·simp only [aN]
    rw [agC _ _ _ _ (by omega)]
 ·obtain ⟨g1,g2⟩:=h.arr hm
  have hlm:m.length≠0:=fun e=>hm (List.length_eq_zero_iff.1 e)
  have ea:tR a m=.arr k_5 a 0 m.length:=oP _ _ _ hlm
  have hcl:=jD' (sz:=12) yH m
  have e0:decide (m.length * k_5.sz≤(cellsOf (m.map dU)).length)=true:=by rw [hcl]; simp [k_5]
  have ek:k_5.same k_5=true:=rfl
  have ht:(cellsOf (m.map dU)).take (m.length * k_5.sz)=cellsOf (m.map dU):=List.take_of_length_le (by rw [hcl]; simp [k_5])
  have en:(cellsOf (m.map dU)).map (fun c=>Cell.of c.d) ++ cellsOf [dU x]=cellsOf ((m ++ [x]).map dU):=by
   rw [wT,List.map_append,nA]
   rfl
  refine ⟨aN {σ with objs:=aY σ.objs a} k_5 (cellsOf ((m ++ [x]).map dU)),?_,?_⟩
  ·simp only [ea,bP,h1,aE,g1,g2,aC,aF,ek,beq_self_eq_true,List.length_cons,List.length_nil,Nat.zero_add] at e1 e2 ⊢
   simp only [e0,e1,e2,Bool.and_self,aE,ht,en]
  ·refine fin _ rfl rfl rfl ?_ fun j hj ha=>?_
   ·simp only [aN,agS]
   ·simp only [aN]
    rw [agC _ _ _ _ (by omega),agD _ _ ha]
theorem Cj (u:Su):dU u=.agg [.str u.name,dSs u.ps,.int .i64 u.body.f,.int .i64 u.body.n,.str u.body.s,.int .i64 0,.int .i64 0,.str [],.nils,kD u.body,bD u.body,aD u.body]:=rfl
theorem zvc (c:Co) (hw:Wf c) (hsz:c.size < 10000000) (ar:List Tx) (har:ar.length < 10000000) (p:Nat) (t:Tx) (ht:t.length < 10000000) (hli:jL c true=true):wP p t c true ar (sX c ar t):=by
 intro σ a m h hm
 have hfl:=Kr c.size c [] ar []
 simp only [List.length_nil,Nat.zero_add] at hfl
 have hsm:Small ((m.length:Int) + 1):=⟨by omega,by omega⟩
 have hil:=nK ((m.length:Int) + 1)
 obtain ⟨σ1,a1,a2,a3,a4⟩:=h.app ⟨uW t m,fW c.size c [] ar [],c⟩ (by omega)
 refine ⟨_,_,⟨3,fun n hn=>?_⟩,a3,a4⟩
 obtain ⟨n,rfl⟩:∃ k,n=k + 2:=⟨n - 2,by omega⟩
 rw [bC (af:=eE) rfl rfl rfl]
 have k1:=zayb (S:=SP) rfl c ar hw hsz har n σ
 have k2:=zaxb (S:=SP) rfl n ((m.length:Int) + 1) hsm σ
 have k3:=zwc (S:=SP) rfl (uW t m) n (SO σ1 p [⟨false,.str t⟩,⟨false,.arr k_5 σ.next 0 (m.length + 1)⟩])
 have k4:=zazb (S:=SP) rfl (fW c.size c [] ar []) (by omega) n (SO σ1 p [⟨false,.str t⟩,⟨false,.arr k_5 σ.next 0 (m.length + 1)⟩])
 have k5:=zc6b (S:=SP) rfl (uW t m) (fW c.size c [] ar []) (by omega) n (SO σ1 p [⟨false,.str t⟩,⟨false,.arr k_5 σ.next 0 (m.length + 1)⟩])
 have ho:=h.obj
 have hon:=fF c
 have w:IntKind.i64.wrap ((m.length:Int) + 1)=(m.length:Int) + 1:=iQ (by omega) (by omega)
 have hlu:lenOf (tR a m)=some m.length:=yQ _ _ _
 obtain ⟨hu1,hu2,hu3⟩:=Hk k_5 a m.length
 have hcat:(t ++ [37]) ++ cE ((m.length:Int) + 1)=uW t m:=rfl
 have hb1:t.length + [(37:UInt8)].length≤281474976710656:=by simp; omega
 have hb2:(t ++ [37]).length + (cE ((m.length:Int) + 1)).length≤281474976710656:=by simp; omega
 have hb3:t.length≤281474976710655:=by omega
 have hb4:t.length + 1 + (cE ((m.length:Int) + 1)).length≤281474976710656:=by omega
 have hF:(sX c ar t m).1=jH (bJ (uW t m)) (fW c.size c [] ar []):=rfl
 rw [hF]
 generalize fW c.size c [] ar []=own at *
 generalize hnm:uW t m=nm at *
 generalize jH (bJ nm) own=gm at *
 have hdg:=bY gm
 have hog:=fF gm
 have hoO:=dN own
 have okO:(dSs own).ok=true:=dQ
 have ceO:(dSs own).cells=[dSs own]:=bX
 rw [Cj] at a1
 rw [bY] at k1
 rw [hdg] at k5 ⊢
 simp only at a1
 have hor:((c.f == 9) || (c.f == 10) || (c.f == 11))=true:=by simpa [jL] using hli
 obtain ⟨dv,hdv⟩:∃ dv,dv=dCo (bJ nm):=⟨_,rfl⟩
 obtain ⟨ds,hds⟩:∃ ds,ds=dCs (own.map bJ):=⟨_,rfl⟩
 rw [← hdv] at k3 k5
 rw [← hds] at k4 k5
 have hdc:=bY c
 cases e9:c.f == 9 with
 | true =>
  simp only [eE,sA,Nat.reduceAdd,Nat.reduceSub,Nat.reduceMul,Nat.reduceBEq,Nat.reduceLeDiff,Int.reduceBEq,Int.reduceBNe,Int.reduceLE,Int.reduceLT,Int.reduceGE,Int.reduceGT,Int.reduceNeg,kn,bF,mB,hdc,hon,e9,k1,ho,jB,hlu,w,k2,gV,hb1,hb2,hb3,hb4,hcat,okO,ceO,hoO,a1,a2,mL,k3,k4,k5,hog]
 | false =>
  cases e10:c.f == 10 with
  | true=>simp only [eE,sA,Nat.reduceAdd,Nat.reduceSub,Nat.reduceMul,Nat.reduceBEq,Nat.reduceLeDiff,Int.reduceBEq,Int.reduceBNe,Int.reduceLE,Int.reduceLT,Int.reduceGE,Int.reduceGT,Int.reduceNeg,kn,bF,mB,hdc,hon,e9,e10,k1,ho,jB,hlu,w,k2,gV,hb1,hb2,hb3,hb4,hcat,okO,ceO,hoO,a1,a2,mL,k3,k4,k5,hog]
  | false =>
   have e11:(c.f == 11)=true:=by
    rw [e9,e10] at hor
    simpa using hor
   simp only [eE,sA,Nat.reduceAdd,Nat.reduceSub,Nat.reduceMul,Nat.reduceBEq,Nat.reduceLeDiff,Int.reduceBEq,Int.reduceBNe,Int.reduceLE,Int.reduceLT,Int.reduceGE,Int.reduceGT,Int.reduceNeg,kn,bF,mB,hdc,hon,e9,e10,e11,k1,ho,jB,hlu,w,k2,gV,hb1,hb2,hb3,hb4,hcat,okO,ceO,hoO,a1,a2,mL,k3,k4,k5,hog]
theorem zrv {c:Co} {lz:Bool} (h:jL c lz=false):lz=false∨((c.f == 9)=false∧(c.f == 10)=false∧(c.f == 11)=false):=by
 unfold jL at h
 cases lz with
 | false=>exact .inl rfl
 | true =>
  refine .inr ?_
  cases e9:c.f == 9 <;> cases e10:c.f == 10 <;> cases e11:c.f == 11 <;> simp_all
theorem Zy {α:Type} {g:α→D} {k:RowK} {sz:Nat} (hk:k.sz=sz) (hks:(k.ag || k.sz == 1)=true) (hs:∀ x,(g x).cells.length=sz) (hp:∀ x,uX k (g x).cells=g x) (hf:∀ x os,bR 39 (g x) os=some (g x,os)) (l:List α) (id:Nat) (os:hU) (h:l≠[]→aB os id=some (cellsOf (l.map g))):∃ os',bR 40 (eP k id l.length) os=some (bE k (l.map g),os')∧(∀ j,(l≠[]→j≠id)→aB os' j=aB os j):=by
 by_cases hne:l=[]
 ·subst hne
  exact ⟨os,rfl,fun _ _=>rfl⟩
 ·have hr:=qV (k:=k) (id:=id) (n:=39) (ds:=l.map g) (os:=os) (os':=aY os id) (h hne) rfl hks (fun d hd=>by
   obtain ⟨x,_,rfl⟩:=List.mem_map.1 hd
   exact ⟨by rw [hs,hk],hp x⟩) (fun d hd=>by
   obtain ⟨x,_,rfl⟩:=List.mem_map.1 hd
   exact hf x _)
  rw [List.length_map] at hr
  rw [oP _ _ _ (fun h=>hne (List.length_eq_zero_iff.1 h)),hr]
  refine ⟨_,?_,fun j hj=>agD _ _ (hj hne) _⟩
  cases l with
  | nil=>exact absurd rfl hne
  | cons x r=>rfl
end Go.Fu

/- A part of the proof. -/
import Derived.Test.YtldfbnbckiifeaaGreatDoorFgDw
set_option maxHeartbeats 4000000
set_option linter.all false
namespace Go.Fu
open Go Go.Mx
set_option maxRecDepth 10000
theorem DC{α:Type}{g:α->D}{sz:Nat}(hs:∀x,(g x).cells.length=sz+1)(l:List α)(i:Nat)(hi:i<l.length):pO (cellsOf (l.map g)) (i*(sz+1)) (sz+1)=some (g l[i]).cells:=by have hl:=Gk' (sz:=sz+1) hs (l.take i);rw[bI,Nat.min_eq_left (by omega)]at hl;rw[YO g l i hi,<-hl,show(cellsOf ((l.take i).map g)).length=(cellsOf ((l.take i).map g)).length+0 by omega,zdv];have:=CG ((g l[i]).cells.map Cell.of) (cellsOf ((l.drop (i+1)).map g));rw[aJ,hs]at this;rw[this,cD];congr 1;exact List.map_id'' (fun _=>rfl) _
def SP:fC:=[(Me,lu),(U4,zia),(U9,zhc),(U8,zha),(tB,H6),(sN,Xf)]
theorem zkjb{S:fC}(hS:dC S sN=some Xf)(b:Tx×Co)(n:Nat)(O:Store):W S (n+1) sN [dB b] O=some (.ret ⟨false,.str b.1⟩,O):=by
 obtain⟨c,h1,h2⟩:=vH (S:=S) hS rfl (c:=⟨false,.str b.1⟩) (fun a h=>by
  simp only[aL,and_true]at h;rw[jg h]) (zd7 b)
 rw[h2,h1 b rfl]
section
variable{C:eV}{n:Nat}{O:Store}
def vC'(id:Nat)(bs:List (Tx×Co))(i:Nat):Env:={slots:=[(1,⟨false,vP⟩),(5,⟨ow i,dG ((bs.take i).map Prod.fst)⟩),(8,⟨false,.arr iS id 0 bs.length⟩),(9,⟨false,.int .i64 bs.length⟩),(10,⟨false,.int .i64 i⟩)],dR:=[],boxes:=[],defers:=[]}
theorem zbyb(id:Nat)(bs:List (Tx×Co))(ha:dC O.dE id=some (cellsOf (bs.map dB)))(i:Nat)(h:i<bs.length)(hl:bs.length<1000000000)(h1:∀b O,C sN [dB b] O=some (.ret ⟨false,.str b.1⟩,O)):exec C n none Db (vC' id bs i) O=some (.normal,vC' id bs (i+1),O):=by
 have hlt:((i:Int)<(bs.length:Int)):=by omega
 have w:=iE (i:=i) (by omega);have ht:=DC (g:=dB) (sz:=14) Vx bs i h
 have ha2:=Bf ((bs.take i).map Prod.fst) bs[i].1 (ow i) (fun hne=>by
  cases i with
  |zero=>exact absurd rfl hne
  |succ i=>rfl) (by simp;omega)
 rw[zew bs i h]at ha2;have h2:=h1 bs[i] O;have hfn:D.mA vP=some (sN,[],[]):=rfl;have es:(iS.sz==15)=true:=rfl;generalize bs[i]=b at ht ha2 h2;have hon:=kZ b.2;rw[Wy]at ht h2;simp only[D.cells]at ht;simp only[Db,vC',sA,Nat.reduceAdd,Nat.reduceMul,Nat.reduceBEq,Nat.reduceLeDiff,kn,hlt,Ea,h,ha,ht,hfn,h2,ha2,w,rA]
theorem zfrb(id:Nat)(bs:List (Tx×Co)):exec C n none Db (vC' id bs bs.length) O=some (.exit 0,{vC' id bs bs.length with slots:=[(1,⟨false,vP⟩),(5,⟨ow bs.length,dG ((bs.take bs.length).map Prod.fst)⟩),(8,⟨false,.arr iS id 0 bs.length⟩),(9,⟨false,.int .i64 bs.length⟩),(10,⟨false,.int .i64 bs.length⟩),(11,⟨false,.bool false⟩)]},O):=by
 have hlt:¬((bs.length:Int)<(bs.length:Int)):=by omega
 simp only[Db,vC',sA,Nat.reduceBEq,kn,hlt]
end
theorem zyv{P:fC}(h0:iV P wM=false)(hP:dC P sN=some Xf)(O:Store)(id:Nat)(bs:List (Tx×Co))(ha:bs≠[]->dC O.dE id=some (cellsOf (bs.map dB)))(hl:bs.length<300000000)(n:Nat)(hn:bs.length+1<n):W P (n+1) wM [kY iS id bs.length,vP] O=some (.ret ⟨ow bs.length,dG (bs.map Prod.fst)⟩,O):=by
 obtain⟨n,rfl⟩:∃k,n=k+1:=⟨n-1,by omega⟩;rw[fW (af:=Xj) h0 rfl rfl];have e0:(bs.take 0).map Prod.fst=[]:=rfl;have e1:dG []=.dN:=rfl;by_cases hne:bs=[]
 ·subst hne;have e2:kY iS id ([]:List (Tx×Co)).length=.dN:=rfl;have e3:ow ([]:List (Tx×Co)).length=false:=rfl;have e4:dG (([]:List (Tx×Co)).map Prod.fst)=.dN:=rfl;rw[e2,e3,e4];have hlt:¬((0:Int)<(0:Int)):=by omega
  simp only[Xj,Db,vP,sA,Nat.reduceAdd,Nat.reduceBEq,kn,jI,iG,hlt]
 ·have h1:=nI (body:=exec (W P (n+1)) (n+1) none Db) (fun i=>vC' id bs i) (fun _=>O) bs.length (r:=_) (fun _ _ h=>by cases h) (fun i hi=>zbyb id bs (ha hne) i hi (by omega) (fun x O=>zkjb hP x n O)) (zfrb id bs) 0 (n+1) (by omega) (by omega);rw[aV]at h1;rw[Gx _ _ _ (fun h=>hne (aR.1 h))];simp only[vC',iG,e0,e1,yW]at h1;simp only[Xj,sA,Nat.reduceAdd,Nat.reduceBEq,kn,h1]
def zV(a:Nat)(l:List Su):D:=kY jA a l.length
structure oY(O:Store)(p a:Nat)(t:Tx)(m:List Su):Prop where
 obj:dC O.dE p=some [⟨false,.str t⟩,⟨false,zV a m⟩]
 arr:m≠[]->dC O.dE a=some (cellsOf (m.map dU))/\dC O.fH a=some ⟨jA.el,jA.sz⟩
 pa:p≠a
 pn:p<O.next
 an:m≠[]->a<O.next
theorem oY.keep{O O':Store}{p a:Nat}{t:Tx}{m:List Su}(h:oY O p a t m)(hn:O.next<=O'.next)(h1:dC O'.dE p=dC O.dE p)(h2:m≠[]->dC O'.dE a=dC O.dE a)(h3:m≠[]->dC O'.fH a=dC O.fH a):oY O' p a t m :=
 ⟨by rw[h1];exact h.obj,fun hL=>by rw[h2 hL,h3 hL];exact h.arr hL,h.pa,aP h.pn hn,fun e=>aP (h.an e) hn⟩
theorem oY.fa{O O':Store}{p a:Nat}{t:Tx}{m:List Su}(h:oY O p a t m)(f:iH O O'):oY O' p a t m:=h.keep f.nx (f.ob _ h.pn) (fun e=>f.ob _ (h.an e)) (fun e=>f.ty _ (h.an e))
theorem oY.so{O:Store}{p a:Nat}{t:Tx}{m:List Su}(h:oY O p a t m){id:Nat}{cs:List Cell}(h1:id≠p)(h2:id≠a):oY (SO O id cs) p a t m:=h.keep (aM _) (mS (fun e=>h1 e.symm)) (fun _=>mS (fun e=>h2 e.symm)) (fun _=>rfl)
theorem oY.any{O:Store}{p a b:Nat}{t:Tx}{m:List Su}(h:oY O p a t m)(hm:m=[])(hb:p≠b):oY O p b t m:=⟨by subst hm;exact h.obj,fun e=>absurd hm e,hb,h.pn,fun e=>absurd hm e⟩
def Kw(p:Nat)(t:Tx)(c:Co)(lz:Bool)(g:List Tx)(F:List Su->Co×List Su):Prop:=∀(O:Store)(a:Nat)(m:List Su),oY O p a t m->m.length+c.size<50000000->∃O' a',Ret SP yF [.ptr p 0,dM c,.bool lz,dG g] O (dM (F m).1) O'/\oY O' p a' t (F m).2/\iD p a 0 a' 0 O O'
section
def zW(c:Co)(ki bi ai:Nat):List Cell:=[⟨false,.int .i64 c.f⟩,⟨false,.int .i64 c.n⟩,⟨false,.str c.s⟩,⟨false,.int .i64 0⟩,⟨false,.int .i64 0⟩,⟨false,.str []⟩,⟨false,.dN⟩,⟨false,kY gV ki c.ks.length⟩,⟨false,kY iS bi c.bs.length⟩,⟨false,kY jC ai c.al.length⟩]
def Nr(p:Nat)(c:Co)(lz:Bool)(g:List Tx)(ki bi ai i:Nat):Env:={slots:=[(0,⟨false,.ptr p 0⟩),(2,⟨false,.bool lz⟩),(3,⟨false,dG g⟩),(87,⟨false,kY iS bi c.bs.length⟩),(88,⟨false,.int .i64 c.bs.length⟩),(89,⟨false,.int .i64 i⟩)],dR:=[(5,(5,0)),(8,(8,0))],boxes:=[(5,zW c ki bi ai),(8,zC)],defers:=[]}
theorem zjsb(b:Tx×Co)(x:Co):putCells ((dB b).cells.map Cell.of) 5 ((dM x).cells.map Cell.of)=(dB (b.1,x)).cells.map Cell.of:=by rw[Wy,Wy,mH];rfl
theorem zgab{C:eV}{n:Nat}{O O1:Store}(p:Nat)(c:Co)(lz:Bool)(g:List Tx)(ki bi ai i:Nat)(L:List (Tx×Co))(hL:L.length=c.bs.length)(hi:i<c.bs.length)(hl:c.bs.length<1000000000)(ha:dC O.dE bi=some (cellsOf (L.map dB)))(ha1:dC O1.dE bi=some (cellsOf (L.map dB)))(x:Co)
  (h1:C yF [.ptr p 0,dM (L[i]'(by omega)).2,.bool true,dG g] O=some (.ret ⟨false,dM x⟩,O1)) :
  exec C n none Zo (Nr p c lz g ki bi ai i) O=some (.normal,Nr p c lz g ki bi ai (i+1),SO O1 bi (cellsOf ((L.set i ((L[i]'(by omega)).1,x)).map dB))):=by
 have hlt:((i:Int)<(c.bs.length:Int)):=by omega
 have w:=iE (i:=i) (by omega);have Uw:i<L.length:=by omega
 have ht:=DC (g:=dB) (sz:=14) Vx L i Uw;have hpd:=zjsb (L[i]'Uw) x;have hp:=gq (g:=dB) (sz:=15) Vx L i Uw 5 ((dM x).cells.map Cell.of) ((L[i]'Uw).1,x) (by rw[aJ,uC];omega) hpd;have es:(iS.sz==15)=true:=rfl;have hag:=Gx iS bi c.bs.length (by omega);have hfit:i*15+5+10<=(cellsOf (L.map dB)).length:=(by rw[Gk' (sz:=15) Vx];have:(i+1)*15<=L.length*15:=Nat.mul_le_mul_right _ (by omega);omega);generalize L[i]'Uw=b at ht h1 hp;have hon:=kZ b.2;have hok:=Eh x;have hce:(dM x).cells.length=10:=uC x;have hone:(dM x).one=false:=by rw[mH];rfl
 rw[Wy]at ht;rw[mH]at h1;simp only[D.cells]at ht;simp only[Zo,Nr,zW,zC,sA,Nat.reduceAdd,Nat.reduceBEq,kn,fP,mB,hlt,hag,Ea,hi,ha,ht,h1,ha1,hok,hce,hfit,hone,hp,w]
end
theorem oY.v{O O':Store}{p a a':Nat}(f:iD p a 0 a' 0 O O')(b:Nat):rT (VX true p b a b) (VX true p b a' b) 0 0 O O':=f.v true b b
theorem rf{O:Store}{p a b:Nat}{cs:List Cell}:rT (VX true p b a b) (VX true p b a b) 0 0 O (SO O b cs):=⟨aM _,fun j _ hv=>mS (fun e=>hv (.inr (.inr ⟨rfl,.inl e⟩))),fun _ _=>rfl,fun _ _ _=>rfl,fun _ h=>.inl h,.inl rfl⟩
theorem zjkb(C:eV)(n:Nat)(O:Store)(p:Nat)(c:Co)(lz:Bool)(g:List Tx)(ki bi ai:Nat):exec C n none Zo (Nr p c lz g ki bi ai c.bs.length) O=some (.exit 0,{Nr p c lz g ki bi ai c.bs.length with slots:=[(0,⟨false,.ptr p 0⟩),(2,⟨false,.bool lz⟩),(3,⟨false,dG g⟩),(87,⟨false,kY iS bi c.bs.length⟩),(88,⟨false,.int .i64 c.bs.length⟩),(89,⟨false,.int .i64 c.bs.length⟩),(90,⟨false,.bool false⟩)]},O):=by
 have hlt:¬((c.bs.length:Int)<(c.bs.length:Int)):=by omega
 simp only[Zo,Nr,sA,Nat.reduceBEq,kn,hlt]
theorem zg2{p:Nat}{t:Tx}{c:Co}{lz:Bool}{g:List Tx}{ki bi ai:Nat}(hl:c.bs.length<100000000)(F:Co->List Su->Co×List Su)(hF:∀b∈c.bs,Kw p t b.2 true g (F b.2))(Qn:∀b∈c.bs,∀m,(F b.2 m).2.length<=m.length+b.2.size) :
  ∀(rest done D':List (Tx×Co))(O:Store)(a:Nat)(m:List Su),c.bs=done++rest->D'.length=done.length->oY O p a t m->(c.bs≠[]->dC O.dE bi=some (cellsOf ((D'++rest).map dB)))->bi<O.next\/c.bs=[]->(c.bs≠[]->bi≠p)->(c.bs≠[]->bi≠a)->m.length+gG rest<50000000 ->
  ∃O' a' n0,(∀N n,n0<=N->rest.length<n->jI (exec (W SP N) N none Zo) n (Nr p c lz g ki bi ai done.length) O=some (.exit 0,{Nr p c lz g ki bi ai c.bs.length with slots:=[(0,⟨false,.ptr p 0⟩),(2,⟨false,.bool lz⟩),(3,⟨false,dG g⟩),(87,⟨false,kY iS bi c.bs.length⟩),(88,⟨false,.int .i64 c.bs.length⟩),(89,⟨false,.int .i64 c.bs.length⟩),(90,⟨false,.bool false⟩)]},O')) /\
   oY O' p a' t (iP F rest m).2/\(c.bs≠[]->dC O'.dE bi=some (cellsOf ((D'++(iP F rest m).1).map dB)))/\rT (VX true p bi a bi) (VX true p bi a' bi) 0 0 O O'/\(a'=a\/O.next<=a')
 |[],done,D',O,a,m,hd,hD,h,hb,hbn,hp,ha,hm=>by
  refine⟨O,a,0,fun N n _ hn=>?_,h,hb,iH.refl.v _ _,.inl rfl⟩;obtain⟨n,rfl⟩:∃k,n=k+1:=⟨n-1,by omega⟩;have e:done.length=c.bs.length:=by rw[hd];simp
  rw[e];exact rW (zjkb (W SP N) N O p c lz g ki bi ai)
 |b::rest,done,D',O,a,m,hd,hD,h,hb,hbn,hp,ha,hm=>by
  have hne:c.bs≠[]:=by rw[hd];simp
  have hi:done.length<c.bs.length:=by rw[hd];simp
  have Gf:b∈c.bs:=by rw[hd];simp
  have hbn:=hbn.resolve_right hne;have hL:(D'++b::rest).length=c.bs.length:=by rw[hd];simp[hD]
  have hLi:done.length<(D'++b::rest).length:=by omega
  have hs:(D'++b::rest)[done.length]=b:=(by rw[bT (by omega)];simp[hD]);have hset:∀x,(D'++b::rest).set done.length x=(D'++[x])++rest:=fun x=>by
   rw[List.set_append_right _ _ (by omega)];simp[hD]
  simp only[gG]at hm;obtain⟨O1,a1,⟨n1,w1⟩,h1,f1⟩:=hF b Gf O a m h (by omega);have hmd:=Qn b Gf m;have hb1:dC O1.dE bi=some (cellsOf ((D'++b::rest).map dB)):=f1.get (hb hne) hbn (hp hne) (ha hne);have ha1:bi≠a1:=by have:=ha hne;rcases f1.fa with e|e<;>omega
  have JJ:bi<O1.next:=aP hbn f1.nx;have hst:=fun C n=>zgab (C:=C) (n:=n) (O:=O) (O1:=O1) p c lz g ki bi ai done.length (D'++b::rest) hL hi (by omega) (hb hne) hb1 (F b.2 m).1;rw[hset,hs]at hst;obtain⟨O2,a2,n2,w2,h2,b2,f2,fa2⟩:=zg2 hl F hF Qn rest (done++[b]) (D'++[(b.1,(F b.2 m).1)]) (SO O1 bi (cellsOf ((D'++[(b.1,(F b.2 m).1)]++rest).map dB))) a1 (F b.2 m).2 (by rw[hd];simp) (by simp[hD]) (h1.so (hp hne) ha1) (fun _=>rL) (.inl (by rw[oJ];exact JJ)) hp (fun _=>ha1) (by omega);simp only[aF,aG,aH,aN]at w2;refine⟨O2,a2,max n1 n2,fun N n hN hn=>?_,h2,?_,((f1.v true bi bi).trans rf).trans f2,?_⟩
  ·obtain⟨n,rfl⟩:∃k,n=k+1:=⟨n-1,by omega⟩;rw[rK (hst (W SP N) N (w1 N (by omega)))];exact w2 N n (by omega) (by simp at hn;omega)
  ·intro hne;rw[b2 hne];simp[iP]
  ·rw[oJ]at fa2;have:=f1.nx;rcases f1.fa with e|e<;>rcases fa2 with e2|e2<;>omega
def Ix(p:Nat)(c:Co)(lz:Bool)(g:List Tx)(ki bi ai i:Nat):Env:={slots:=[(0,⟨false,.ptr p 0⟩),(2,⟨false,.bool lz⟩),(3,⟨false,dG g⟩),(106,⟨false,kY gV ki c.ks.length⟩),(107,⟨false,.int .i64 c.ks.length⟩),(108,⟨false,.int .i64 i⟩)],dR:=[(5,(5,0)),(8,(8,0))],boxes:=[(5,zW c ki bi ai),(8,zC)],defers:=[]}
theorem zghb(b x:Co):putCells ((dM b).cells.map Cell.of) 0 ((dM x).cells.map Cell.of)=(dM x).cells.map Cell.of:=by rw[mH,mH];rfl
theorem zgbb{C:eV}{n:Nat}{O O1:Store}(p:Nat)(c:Co)(lz:Bool)(g:List Tx)(ki bi ai i:Nat)(L:List Co)(hL:L.length=c.ks.length)(hi:i<c.ks.length)(hl:c.ks.length<1000000000)(ha:dC O.dE ki=some (cellsOf (L.map dM)))(ha1:dC O1.dE ki=some (cellsOf (L.map dM)))(x:Co)
  (h1:C yF [.ptr p 0,dM (L[i]'(by omega)),.bool (lz||(c.f==4)),dG g] O=some (.ret ⟨false,dM x⟩,O1)) :
  exec C n none Ve (Ix p c lz g ki bi ai i) O=some (.normal,Ix p c lz g ki bi ai (i+1),SO O1 ki (cellsOf ((L.set i x).map dM))):=by
 have hlt:((i:Int)<(c.ks.length:Int)):=by omega
 have w:=iE (i:=i) (by omega);have Uw:i<L.length:=by omega
 have ht:=DC (g:=dM) (sz:=9) uC L i Uw;have hp:=gq (g:=dM) (sz:=10) uC L i Uw 0 ((dM x).cells.map Cell.of) x (by rw[aJ,uC];omega) (zghb _ x);rw[Nat.add_zero]at hp;have es:(gV.sz==10)=true:=rfl;have hag:=Gx gV ki c.ks.length (by omega);have hfit:i*10+10<=(cellsOf (L.map dM)).length:=(by rw[Gk' (sz:=10) uC];have:(i+1)*10<=L.length*10:=Nat.mul_le_mul_right _ (by omega);omega);generalize L[i]'Uw=b at ht h1;have hon:=kZ b;have hok:=Eh x;have hce:(dM x).cells.length=10:=uC x;have hone:(dM x).one=false:=by rw[mH];rfl
 rw[mH]at ht h1;simp only[D.cells]at ht;cases e4:c.f==4 with
 |true =>rw[e4,Bool.or_true]at h1;simp only[Ve,Ix,zW,zC,sA,Nat.reduceAdd,Nat.reduceBEq,kn,fP,mB,hlt,hag,Ea,hi,ha,ht,e4,h1,ha1,hok,hce,hfit,hone,hp,w]
 |false =>rw[e4,Bool.or_false]at h1;simp only[Ve,Ix,zW,zC,sA,Nat.reduceAdd,Nat.reduceBEq,kn,fP,mB,hlt,hag,Ea,hi,ha,ht,e4,h1,ha1,hok,hce,hfit,hone,hp,w]
theorem zjlb(C:eV)(n:Nat)(O:Store)(p:Nat)(c:Co)(lz:Bool)(g:List Tx)(ki bi ai:Nat):exec C n none Ve (Ix p c lz g ki bi ai c.ks.length) O=some (.exit 2,{Ix p c lz g ki bi ai c.ks.length with slots:=[(0,⟨false,.ptr p 0⟩),(2,⟨false,.bool lz⟩),(3,⟨false,dG g⟩),(106,⟨false,kY gV ki c.ks.length⟩),(107,⟨false,.int .i64 c.ks.length⟩),(108,⟨false,.int .i64 c.ks.length⟩),(109,⟨false,.bool false⟩)]},O):=by
 have hlt:¬((c.ks.length:Int)<(c.ks.length:Int)):=by omega
 simp only[Ve,Ix,sA,Nat.reduceBEq,kn,hlt]
theorem zg3{p:Nat}{t:Tx}{c:Co}{lz:Bool}{g:List Tx}{ki bi ai:Nat}(hl:c.ks.length<100000000)(F:Co->List Su->Co×List Su)(hF:∀b∈c.ks,Kw p t b (lz||(c.f==4)) g (F b))(Qn:∀b∈c.ks,∀m,(F b m).2.length<=m.length+b.size) :
  ∀(rest done D':List Co)(O:Store)(a:Nat)(m:List Su),c.ks=done++rest->D'.length=done.length->oY O p a t m->(c.ks≠[]->dC O.dE ki=some (cellsOf ((D'++rest).map dM)))->ki<O.next\/c.ks=[]->(c.ks≠[]->ki≠p)->(c.ks≠[]->ki≠a)->m.length+fV rest<50000000 ->
  ∃O' a' n0,(∀N n,n0<=N->rest.length<n->jI (exec (W SP N) N none Ve) n (Ix p c lz g ki bi ai done.length) O=some (.exit 2,{Ix p c lz g ki bi ai c.ks.length with slots:=[(0,⟨false,.ptr p 0⟩),(2,⟨false,.bool lz⟩),(3,⟨false,dG g⟩),(106,⟨false,kY gV ki c.ks.length⟩),(107,⟨false,.int .i64 c.ks.length⟩),(108,⟨false,.int .i64 c.ks.length⟩),(109,⟨false,.bool false⟩)]},O')) /\
   oY O' p a' t (jL F rest m).2/\(c.ks≠[]->dC O'.dE ki=some (cellsOf ((D'++(jL F rest m).1).map dM)))/\rT (VX true p ki a ki) (VX true p ki a' ki) 0 0 O O'/\(a'=a\/O.next<=a')
 |[],done,D',O,a,m,hd,hD,h,hb,hbn,hp,ha,hm=>by
  refine⟨O,a,0,fun N n _ hn=>?_,h,hb,iH.refl.v _ _,.inl rfl⟩;obtain⟨n,rfl⟩:∃k,n=k+1:=⟨n-1,by omega⟩;have e:done.length=c.ks.length:=by rw[hd];simp
  rw[e];exact rW (zjlb (W SP N) N O p c lz g ki bi ai)
 |b::rest,done,D',O,a,m,hd,hD,h,hb,hbn,hp,ha,hm=>by
  have hne:c.ks≠[]:=by rw[hd];simp
  have hi:done.length<c.ks.length:=by rw[hd];simp
  have Gf:b∈c.ks:=by rw[hd];simp
  have hbn:=hbn.resolve_right hne;have hL:(D'++b::rest).length=c.ks.length:=by rw[hd];simp[hD]
  have hLi:done.length<(D'++b::rest).length:=by omega
  have hs:(D'++b::rest)[done.length]=b:=(by rw[bT (by omega)];simp[hD]);have hset:∀x,(D'++b::rest).set done.length x=(D'++[x])++rest:=fun x=>by
   rw[List.set_append_right _ _ (by omega)];simp[hD]
  simp only[fV]at hm;obtain⟨O1,a1,⟨n1,w1⟩,h1,f1⟩:=hF b Gf O a m h (by omega);have hmd:=Qn b Gf m;have hb1:dC O1.dE ki=some (cellsOf ((D'++b::rest).map dM)):=f1.get (hb hne) hbn (hp hne) (ha hne);have ha1:ki≠a1:=by have:=ha hne;rcases f1.fa with e|e<;>omega
  have JJ:ki<O1.next:=aP hbn f1.nx;have hst:=fun C n=>zgbb (C:=C) (n:=n) (O:=O) (O1:=O1) p c lz g ki bi ai done.length (D'++b::rest) hL hi (by omega) (hb hne) hb1 (F b m).1;rw[hset,hs]at hst;obtain⟨O2,a2,n2,w2,h2,b2,f2,fa2⟩:=zg3 hl F hF Qn rest (done++[b]) (D'++[(F b m).1]) (SO O1 ki (cellsOf ((D'++[(F b m).1]++rest).map dM))) a1 (F b m).2 (by rw[hd];simp) (by simp[hD]) (h1.so (hp hne) ha1) (fun _=>rL) (.inl (by rw[oJ];exact JJ)) hp (fun _=>ha1) (by omega);simp only[aF,aG,aH,aN]at w2;refine⟨O2,a2,max n1 n2,fun N n hN hn=>?_,h2,?_,((f1.v true ki ki).trans rf).trans f2,?_⟩
  ·obtain⟨n,rfl⟩:∃k,n=k+1:=⟨n-1,by omega⟩;rw[rK (hst (W SP N) N (w1 N (by omega)))];exact w2 N n (by omega) (by simp at hn;omega)
  ·intro hne;rw[b2 hne];simp[jL]
  ·rw[oJ]at fa2;have:=f1.nx;rcases f1.fa with e|e<;>rcases fa2 with e2|e2<;>omega
def Ns(p:Nat)(c:Co)(g:List Tx)(ki bi ai i:Nat):Env:={slots:=[(0,⟨false,.ptr p 0⟩),(3,⟨false,dG g⟩),(129,⟨false,kY jC ai c.al.length⟩),(130,⟨false,.int .i64 c.al.length⟩),(131,⟨false,.int .i64 i⟩)],dR:=[(5,(5,0)),(8,(8,0))],boxes:=[(5,zW c ki bi ai),(8,zC)],defers:=[]}
theorem zjrb(b:Hd×Co)(x:Co):putCells ((dA b).cells.map Cell.of) 4 ((dM x).cells.map Cell.of)=(dA (b.1,x)).cells.map Cell.of:=by rw[vX,vX,mH];rfl
theorem zgcb{C:eV}{n:Nat}{O O1:Store}(p:Nat)(c:Co)(g:List Tx)(ki bi ai i:Nat)(L:List (Hd×Co))(hL:L.length=c.al.length)(hi:i<c.al.length)(hl:c.al.length<1000000000)(ha:dC O.dE ai=some (cellsOf (L.map dA)))(ha1:dC O1.dE ai=some (cellsOf (L.map dA)))(x:Co)
  (h0:C tB [dd g (L[i]'(by omega)).1.vars] O=some (.ret ⟨false,dG (g++(L[i]'(by omega)).1.vars)⟩,O))
  (h1:C yF [.ptr p 0,dM (L[i]'(by omega)).2,.bool false,dG (g++(L[i]'(by omega)).1.vars)] O=some (.ret ⟨false,dM x⟩,O1)) :
  exec C n none Zp (Ns p c g ki bi ai i) O=some (.normal,Ns p c g ki bi ai (i+1),SO O1 ai (cellsOf ((L.set i ((L[i]'(by omega)).1,x)).map dA))):=by
 have hlt:((i:Int)<(c.al.length:Int)):=by omega
 have w:=iE (i:=i) (by omega);have Uw:i<L.length:=by omega
 have ht:=DC (g:=dA) (sz:=13) y8 L i Uw;have hp:=gq (g:=dA) (sz:=14) y8 L i Uw 4 ((dM x).cells.map Cell.of) ((L[i]'Uw).1,x) (by rw[aJ,uC];omega) (zjrb _ x);have es:(jC.sz==14)=true:=rfl;have hag:=Gx jC ai c.al.length (by omega);have hfit:i*14+4+10<=(cellsOf (L.map dA)).length:=(by rw[Gk' (sz:=14) y8];have:(i+1)*14<=L.length*14:=Nat.mul_le_mul_right _ (by omega);omega);generalize L[i]'Uw=b at ht h0 h1 hp;have hon:=kZ b.2;have sQ:=lP b.1.vars;have hoG:=lP g;have Av:(dG g).ok=true:=qM;have qJ:(dG b.1.vars).ok=true:=qM;have Am:(dG g).cells=[dG g]:=qZ;have Ao:(dG b.1.vars).cells=[dG b.1.vars]:=qZ;have hok:=Eh x;have hce:(dM x).cells.length=10:=uC x;have hone:(dM x).one=false:=by rw[mH];rfl
 rw[vX]at ht;rw[mH]at h1;simp only[D.cells]at ht;simp only[dd]at h0;simp only[Zp,Ns,zW,zC,sA,Nat.reduceAdd,Nat.reduceMul,Nat.reduceBEq,Nat.reduceLeDiff,kn,fP,mB,hlt,hag,Ea,hi,ha,ht,Av,qJ,Am,Ao,h0,h1,ha1,hok,hce,hfit,hone,hp,w]
theorem zjmb(C:eV)(n:Nat)(O:Store)(p:Nat)(c:Co)(g:List Tx)(ki bi ai:Nat):exec C n none Zp (Ns p c g ki bi ai c.al.length) O=some (.exit 4,{Ns p c g ki bi ai c.al.length with slots:=[(0,⟨false,.ptr p 0⟩),(3,⟨false,dG g⟩),(129,⟨false,kY jC ai c.al.length⟩),(130,⟨false,.int .i64 c.al.length⟩),(131,⟨false,.int .i64 c.al.length⟩),(132,⟨false,.bool false⟩)]},O):=by
 have hlt:¬((c.al.length:Int)<(c.al.length:Int)):=by omega
 simp only[Zp,Ns,sA,Nat.reduceBEq,kn,hlt]
theorem zg4{p:Nat}{t:Tx}{c:Co}{g:List Tx}{ki bi ai:Nat}(hl:c.al.length<100000000)(F:Hd->Co->List Su->Co×List Su)(hF:∀b∈c.al,Kw p t b.2 false (g++b.1.vars) (F b.1 b.2))(hgl:∀b∈c.al,g.length+b.1.vars.length<100000000)(Qn:∀b∈c.al,∀m,(F b.1 b.2 m).2.length<=m.length+b.2.size) :
  ∀(rest done D':List (Hd×Co))(O:Store)(a:Nat)(m:List Su),c.al=done++rest->D'.length=done.length->oY O p a t m->(c.al≠[]->dC O.dE ai=some (cellsOf ((D'++rest).map dA)))->ai<O.next\/c.al=[]->(c.al≠[]->ai≠p)->(c.al≠[]->ai≠a)->m.length+gP rest<50000000 ->
  ∃O' a' n0,(∀N n,n0<=N->rest.length<n->jI (exec (W SP N) N none Zp) n (Ns p c g ki bi ai done.length) O=some (.exit 4,{Ns p c g ki bi ai c.al.length with slots:=[(0,⟨false,.ptr p 0⟩),(3,⟨false,dG g⟩),(129,⟨false,kY jC ai c.al.length⟩),(130,⟨false,.int .i64 c.al.length⟩),(131,⟨false,.int .i64 c.al.length⟩),(132,⟨false,.bool false⟩)]},O')) /\
   oY O' p a' t (jT F rest m).2/\(c.al≠[]->dC O'.dE ai=some (cellsOf ((D'++(jT F rest m).1).map dA)))/\rT (VX true p ai a ai) (VX true p ai a' ai) 0 0 O O'/\(a'=a\/O.next<=a')
 |[],done,D',O,a,m,hd,hD,h,hb,hbn,hp,ha,hm=>by
  refine⟨O,a,0,fun N n _ hn=>?_,h,hb,iH.refl.v _ _,.inl rfl⟩;obtain⟨n,rfl⟩:∃k,n=k+1:=⟨n-1,by omega⟩;have e:done.length=c.al.length:=by rw[hd];simp
  rw[e];exact rW (zjmb (W SP N) N O p c g ki bi ai)
 |b::rest,done,D',O,a,m,hd,hD,h,hb,hbn,hp,ha,hm=>by
  have hne:c.al≠[]:=by rw[hd];simp
  have hi:done.length<c.al.length:=by rw[hd];simp
  have Gf:b∈c.al:=by rw[hd];simp
  have hbn:=hbn.resolve_right hne;have hL:(D'++b::rest).length=c.al.length:=by rw[hd];simp[hD]
  have hLi:done.length<(D'++b::rest).length:=by omega
  have hs:(D'++b::rest)[done.length]=b:=(by rw[bT (by omega)];simp[hD]);have hset:∀x,(D'++b::rest).set done.length x=(D'++[x])++rest:=fun x=>by
   rw[List.set_append_right _ _ (by omega)];simp[hD]
  simp only[gP]at hm;obtain⟨O1,a1,⟨n1,w1⟩,h1,f1⟩:=hF b Gf O a m h (by omega);have hmd:=Qn b Gf m;have hb1:dC O1.dE ai=some (cellsOf ((D'++b::rest).map dA)):=f1.get (hb hne) hbn (hp hne) (ha hne);have ha1:ai≠a1:=by have:=ha hne;rcases f1.fa with e|e<;>omega
  have JJ:ai<O1.next:=aP hbn f1.nx;have hst:=fun C n=>zgcb (C:=C) (n:=n) (O:=O) (O1:=O1) p c g ki bi ai done.length (D'++b::rest) hL hi (by omega) (hb hne) hb1 (F b.1 b.2 m).1;rw[hset,hs]at hst;obtain⟨O2,a2,n2,w2,h2,b2,f2,fa2⟩:=zg4 hl F hF hgl Qn rest (done++[b]) (D'++[(b.1,(F b.1 b.2 m).1)]) (SO O1 ai (cellsOf ((D'++[(b.1,(F b.1 b.2 m).1)]++rest).map dA))) a1 (F b.1 b.2 m).2 (by rw[hd];simp) (by simp[hD]) (h1.so (hp hne) ha1) (fun _=>rL) (.inl (by rw[oJ];exact JJ)) hp (fun _=>ha1) (by omega);simp only[aF,aG,aH,aN]at w2;refine⟨O2,a2,max (max n1 n2) 1,fun N n hN hn=>?_,h2,?_,((f1.v true ai ai).trans rf).trans f2,?_⟩
  ·obtain⟨n,rfl⟩:∃k,n=k+1:=⟨n-1,by omega⟩;obtain⟨K,rfl⟩:∃k,N=k+1:=⟨N-1,by omega⟩;rw[rK (hst (W SP (K+1)) (K+1) (FJ (S:=SP) rfl _ _ (hgl b Gf) K O) (w1 (K+1) (by omega)))];exact w2 (K+1) n (by omega) (by simp at hn;omega)
  ·intro hne;rw[b2 hne];simp[jT]
  ·rw[oJ]at fa2;have:=f1.nx;rcases f1.fa with e|e<;>rcases fa2 with e2|e2<;>omega
theorem zhrb{S:fC}(h1:iV S Fh=false)(n:Nat)(x:Int)(hx:Small x)(O:Store):W S (n+1) Fh [.int .i64 x] O=some (.ret ⟨false,.str (sK x)⟩,O):=by
 rw[zkkb h1 rfl rfl];have h2:U0 x=true:=by simp[U0,hx.1,hx.2]
 have h:Xc Fh [.int .i64 x] O=dH (JB [.int .i64 x]) fun d=>some (.ret ⟨false,d⟩,O):=rfl;rw[h];simp only[JB,h2,dQ,dH,eP]
theorem oY.app{O:Store}{p a:Nat}{t:Tx}{m:List Su}(h:oY O p a t m)(x:Su)(hl:m.length<100000000):∃O1,lR O jA 200 (zV a m) [dU x]=some (.arr jA O.next 0 (m.length+1),O1)/\dC O1.dE p=some [⟨false,.str t⟩,⟨false,zV a m⟩] /\
  oY (SO O1 p [⟨false,.str t⟩,⟨false,.arr jA O.next 0 (m.length+1)⟩]) p O.next t (m++[x])/\iD p a 0 O.next 0 O (SO O1 p [⟨false,.str t⟩,⟨false,.arr jA O.next 0 (m.length+1)⟩]):=by
 have hp:=h.pn;have hpn:¬O.next=p:=by omega
 have Og:=h.pa;have h1:jZ jA.sz [dU x]=true:=(by have:(dU x).cells.length=jA.sz:=CQ x;simp only[jZ,qi,this,bW,aY]);have e1:decide ((m.length+1)*200<=iN)=true:=decide_eq_true (show(m.length+1)*200<=1099511627776 by omega);have e2:decide (m.length+1<=iN)=true:=decide_eq_true (show m.length+1<=1099511627776 by omega);have hsn:zV O.next (m++[x])=.arr jA O.next 0 (m.length+1):=(by unfold zV;rw[aF,List.length_singleton];rfl)
 have fin:∀O1:Store,O1.next=O.next+2->O1.dP=O.dP->O1.fH=(O.next,⟨jA.el,jA.sz⟩)::O.fH->dC O1.dE O.next=some (cellsOf ((m++[x]).map dU))->(∀j,j<O.next->j≠a->dC O1.dE j=dC O.dE j) ->
   dC O1.dE p=some [⟨false,.str t⟩,⟨false,zV a m⟩]/\oY (SO O1 p [⟨false,.str t⟩,⟨false,.arr jA O.next 0 (m.length+1)⟩]) p O.next t (m++[x])/\iD p a 0 O.next 0 O (SO O1 p [⟨false,.str t⟩,⟨false,.arr jA O.next 0 (m.length+1)⟩]):=by
  intro O1 hn ho ht hc hj;refine⟨by rw[hj p hp Og];exact h.obj,⟨?_,fun _=>⟨?_,?_⟩,fun e=>hpn e.symm,?_,fun _=>?_⟩,⟨?_,fun j h1 h2 h3=>?_,fun j h1=>?_,fun j _ _=>?_,.inr (aM _),.inl rfl⟩⟩
  ·rw[rL,hsn]
  ·rw[mS hpn,hc]
  ·rw[Ww,ht,oO]
  ·rw[oJ];omega
  ·rw[oJ];omega
  ·rw[oJ];omega
  ·rw[mS h2,hj j h1 h3]
  ·rw[Ww,ht,oZ _ _ _ _ (by omega)]
  ·rw[Qb,ho]
 by_cases hm:m=[]
 ·subst hm;have e:([dU x].isEmpty)=false:=rfl;have ea:zV a ([]:List Su)=.dN:=rfl;refine⟨fR O jA (cellsOf [dU x]),?_,?_⟩
  ·simp only[ea,lR,h1,e,dQ,dX,aG,aH,aN]at e1 e2 ⊢;simp only[e1,e2,aY,dQ]
  ·refine fin _ rfl rfl rfl ?_ fun j hj ha=>?_
   ·simp only[fR,oO];rfl
   ·simp only[fR];rw[oZ _ _ _ _ (by omega)]
 ·obtain⟨g1,g2⟩:=h.arr hm;have hlm:m.length≠0:=fun e=>hm (aR.1 e);have ea:zV a m=.arr jA a 0 m.length:=Gx _ _ _ hlm;have hcl:=Gk' (sz:=12) CQ m;have e0:decide (m.length*jA.sz<=(cellsOf (m.map dU)).length)=true:=by rw[hcl];simp[jA]
  have ek:jA.same jA=true:=rfl;have ht:(cellsOf (m.map dU)).take (m.length*jA.sz)=cellsOf (m.map dU):=List.take_of_length_le (by rw[hcl];simp[jA]);have en:(cellsOf (m.map dU)).map (fun c=>Cell.of c.d)++cellsOf [dU x]=cellsOf ((m++[x]).map dU):=(by rw[LQ,aU,AV];rfl);refine⟨fR {O with dE:=gI O.dE a} jA (cellsOf ((m++[x]).map dU)),?_,?_⟩
  ·simp only[ea,lR,h1,dQ,g1,g2,dH,eP,ek,bW,aG,aH,aN]at e1 e2 ⊢;simp only[e0,e1,e2,aY,dQ,ht,en]
  ·refine fin _ rfl rfl rfl ?_ fun j hj ha=>?_
   ·simp only[fR,oO]
   ·simp only[fR];rw[oZ _ _ _ _ (by omega),Fv _ _ ha]
theorem G5(u:Su):dU u=.agg [.str u.name,dG u.ps,.int .i64 u.body.f,.int .i64 u.body.n,.str u.body.s,.int .i64 0,.int .i64 0,.str [],.dN,kD u.body,bD u.body,aD u.body]:=rfl
theorem zckb(c:Co)(hw:Wf c)(hsz:c.size<10000000)(ar:List Tx)(har:ar.length<10000000)(p:Nat)(t:Tx)(ht:t.length<10000000)(kE:rC c true=true):Kw p t c true ar (vI c ar t):=by
 intro O a m h hm;have hfl:=BS c.size c [] ar [];simp only[aH,aN]at hfl;have hsm:Small ((m.length:Int)+1):=⟨by omega,by omega⟩;have hil:=YH ((m.length:Int)+1);obtain⟨O1,a1,a2,a3,a4⟩:=h.app ⟨sL t m,jO c.size c [] ar [],c⟩ (by omega);refine⟨_,_,⟨3,fun n hn=>?_⟩,a3,a4⟩;obtain⟨n,rfl⟩:∃k,n=k+2:=⟨n-2,by omega⟩;rw[fW (af:=Jj) rfl rfl rfl];have k1:=zhsb (S:=SP) rfl c ar hw hsz har n O;have k2:=zhrb (S:=SP) rfl n ((m.length:Int)+1) hsm O;have k3:=zin (S:=SP) rfl (sL t m) n (SO O1 p [⟨false,.str t⟩,⟨false,.arr jA O.next 0 (m.length+1)⟩]);have k4:=zhtb (S:=SP) rfl (jO c.size c [] ar []) (by omega) n (SO O1 p [⟨false,.str t⟩,⟨false,.arr jA O.next 0 (m.length+1)⟩]);have k5:=zkib (S:=SP) rfl (sL t m) (jO c.size c [] ar []) (by omega) n (SO O1 p [⟨false,.str t⟩,⟨false,.arr jA O.next 0 (m.length+1)⟩]);have ho:=h.obj;have hon:=kZ c;have w:IntKind.i64.wrap ((m.length:Int)+1)=(m.length:Int)+1:=lV (by omega) (by omega);have KJ:lenOf (zV a m)=some m.length:=CW _ _ _;obtain⟨hu1,hu2,hu3⟩:=NV jA a m.length;have JL:(t++[37])++sK ((m.length:Int)+1)=sL t m:=rfl;have hb1:t.length+[(37:UInt8)].length<=281474976710656:=by simp;omega
 have hb2:(t++[37]).length+(sK ((m.length:Int)+1)).length<=281474976710656:=by simp;omega
 have hb3:t.length<=281474976710655:=by omega
 have hb4:t.length+1+(sK ((m.length:Int)+1)).length<=281474976710656:=by omega
 have hF:(vI c ar t m).1=pB (gY (sL t m)) (jO c.size c [] ar []):=rfl;rw[hF];generalize jO c.size c [] ar []=own at *
 generalize hnm:sL t m=nm at *
 generalize pB (gY nm) own=gm at *
 have hdg:=mH gm;have hog:=kZ gm;have hoO:=lP own;have okO:(dG own).ok=true:=qM;have wo:(dG own).cells=[dG own]:=qZ;rw[G5]at a1;rw[mH]at k1;rw[hdg]at k5 ⊢;simp only at a1;have hor:((c.f==9)||(c.f==10)||(c.f==11))=true:=by simpa[rC]using kE
 obtain⟨dv,hdv⟩:∃dv,dv=dM (gY nm):=⟨_,rfl⟩;obtain⟨ds,hds⟩:∃ds,ds=iI (own.map gY):=⟨_,rfl⟩;rw[<-hdv]at k3 k5;rw[<-hds]at k4 k5;have hU:=mH c;cases e9:c.f==9 with
 |true =>simp only[Jj,sA,Nat.reduceAdd,Nat.reduceMul,Nat.reduceBEq,Nat.reduceLeDiff,kn,fP,mB,hU,e9,k1,ho,KJ,w,k2,hb2,hb3,JL,okO,wo,a1,a2,k3,k4,k5]
 |false =>
  cases e10:c.f==10 with
  |true=>simp only[Jj,sA,Nat.reduceAdd,Nat.reduceMul,Nat.reduceBEq,Nat.reduceLeDiff,kn,fP,mB,hU,e9,e10,k1,ho,KJ,w,k2,hb2,hb3,JL,okO,wo,a1,a2,k3,k4,k5]
  |false =>have e11:(c.f==11)=true:=(by rw[e9,e10]at hor;simpa using hor);simp only[Jj,sA,Nat.reduceAdd,Nat.reduceMul,Nat.reduceBEq,Nat.reduceLeDiff,kn,fP,mB,hU,e9,e10,e11,k1,ho,KJ,w,k2,hb2,hb3,JL,okO,wo,a1,a2,k3,k4,k5]
theorem zyt{c:Co}{lz:Bool}(h:rC c lz=false):lz=false\/((c.f==9)=false/\(c.f==10)=false/\(c.f==11)=false):=by
 unfold rC at h;cases lz with
 |false=>exact .inl rfl
 |true =>refine .inr ?_;cases e9:c.f==9<;>cases e10:c.f==10<;>cases e11:c.f==11<;>simp_all
theorem cz{α:Type}{g:α->D}{k:RowK}{sz:Nat}(hk:k.sz=sz)(hks:(k.ag||k.sz==1)=true)(hs:∀x,(g x).cells.length=sz)(hp:∀x,Hq k (g x).cells=g x)(hf:∀x os,kR 39 (g x) os=some (g x,os))(l:List α)(id:Nat)(os:mU)(h:l≠[]->dC os id=some (cellsOf (l.map g))):∃os',kR 40 (kY k id l.length) os=some (gX k (l.map g),os')/\(∀j,(l≠[]->j≠id)->dC os' j=dC os j):=by
 by_cases hne:l=[]
 ·subst hne;exact⟨os,rfl,fun _ _=>rfl⟩
 ·have hr:=Zz (k:=k) (id:=id) (n:=39) (ds:=l.map g) (os:=os) (os':=gI os id) (h hne) rfl hks (fun d hd=>by
   obtain⟨x,_,rfl⟩:=bF.1 hd;exact⟨by rw[hs,hk],hp x⟩) (fun d hd=>by
   obtain⟨x,_,rfl⟩:=bF.1 hd;exact hf x _)
  rw[aJ]at hr;rw[Gx _ _ _ (fun h=>hne (aR.1 h)),hr];refine⟨_,?_,fun j hj=>Fv _ _ (hj hne) _⟩;cases l with
  |nil=>exact absurd rfl hne
  |cons x r=>rfl
end Go.Fu

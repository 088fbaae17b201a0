/- A part of the proof. -/
import Derived.Test.YtldfbnbckiifeaaGreatDoorFgDc
set_option maxHeartbeats 4000000
set_option linter.all false
namespace Go.Fu
open Go Go.Mx
set_option maxRecDepth 10000
def vP:D:=.fn (.func sN) [] []
def Xf:List D->Cell->Prop:=fun ds c=>∀b:Tx×Co,ds=[dB b]->c=⟨false,.str b.1⟩
theorem jg{a b:Tx×Co}(h:dB a=dB b):a=b:=by
 rw[zK,zK]at h;simp only[D.agg.injEq,aL,D.str.injEq,true_and]at h;obtain⟨x,c⟩:=a;obtain⟨y,d⟩:=b;have hx:dM c=dM d:=by rw[eO,eO,h.2]
 rw[qO hx];exact congrArg (·,d) h.1
theorem zd7(b:Tx×Co):eW sN [dB b] ⟨false,.str b.1⟩:=by have hd:=zK b;have hn:fO [dB b]=true:=(by rw[hd];simp[fO,iF,YK]);refine jH (af:=PY) (n:=1) (O':=cH) (jG [] 1) rfl rfl hn rfl ?_;simp only[PY,hd,pH,sA,Nat.reduceBEq,kn]
theorem zarb{S:fC}(hS:dC S sN=some Xf)(b:Tx×Co)(n:Nat)(O:Store):T S (n+1) sN [dB b] O=some (.ret ⟨false,.str b.1⟩,O):=by
 obtain⟨c,h1,h2⟩:=lD (S:=S) hS rfl (c:=⟨false,.str b.1⟩) (fun a h=>by
  simp only[aL,and_true]at h;rw[jg h]) (zd7 b)
 rw[h2,h1 b rfl]
def lZ'(l:List (Tx×Co)):D:=gX iS (l.map dB)
section
variable{C:eV}{n:Nat}{O:Store}
def Ul(bs:List (Tx×Co))(i:Nat):Env:={slots:=[(1,⟨false,vP⟩),(5,⟨ow i,dG ((bs.take i).map Prod.fst)⟩),(8,⟨false,lZ' bs⟩),(9,⟨false,.int .i64 bs.length⟩),(10,⟨false,.int .i64 i⟩)],dR:=[],boxes:=[],defers:=[]}
theorem zew(l:List (Tx×Co))(i:Nat)(h:i<l.length):(l.take i).map Prod.fst++[l[i].1]=(l.take (i+1)).map Prod.fst:=by rw[<-mC l i h,aU];rfl
theorem zfub(bs:List (Tx×Co))(i:Nat)(h:i<bs.length)(hl:bs.length<1000000000)(h1:∀b O,C sN [dB b] O=some (.ret ⟨false,.str b.1⟩,O)):exec C n none Db (Ul bs i) O=some (.normal,Ul bs (i+1),O):=by
 have hlt:((i:Int)<(bs.length:Int)):=by omega
 have w:=iE (i:=i) (by omega);have hx:=uJ (k:=iS) (sz:=15) rfl dB bs i h
 have ha:=Bf ((bs.take i).map Prod.fst) bs[i].1 (ow i) (fun hne=>by
  cases i with
  |zero=>exact absurd rfl hne
  |succ i=>rfl) (by simp;omega)
 rw[zew bs i h]at ha;have h2:=h1 bs[i] O;have hfn:D.mA vP=some (sN,[],[]):=rfl;generalize bs[i]=b at hx ha h2;have hd:=zK b;rw[hd]at hx h2;simp only[pH]at hx h2;simp only[Db,Ul,lZ',sA,Nat.reduceAdd,Nat.reduceMul,Nat.reduceBEq,Nat.reduceLeDiff,kn,hlt,hx,hfn,h2,ha,w,rA]
theorem zi8b(bs:List (Tx×Co)):exec C n none Db (Ul bs bs.length) O=some (.exit 0,{Ul bs bs.length with slots:=[(1,⟨false,vP⟩),(5,⟨ow bs.length,dG ((bs.take bs.length).map Prod.fst)⟩),(8,⟨false,lZ' bs⟩),(9,⟨false,.int .i64 bs.length⟩),(10,⟨false,.int .i64 bs.length⟩),(11,⟨false,.bool false⟩)]},O):=by
 have hlt:¬((bs.length:Int)<(bs.length:Int)):=by omega
 simp only[Db,Ul,sA,Nat.reduceBEq,kn,hlt]
end
theorem zv0(l:List (Tx×Co)):iF (lZ' l)=true:=by rw[lZ',Dz];exact wX (fun b=>by rw[zK];simp[iF,fO,YK]) l
theorem zb2b(bs:List (Tx×Co))(hl:bs.length<300000000):eW wM [lZ' bs,vP] ⟨false,dG (bs.map Prod.fst)⟩:=by refine eW.weak (o:=ow bs.length) rfl (jH (af:=Xj) (n:=1000000000) (O':=cH) (jG [(sN,Xf)] 1) rfl rfl (by simp[fO,zv0,vP,iF]) (jY _) ?_);have h0:=nI (body:=exec (T [(sN,Xf)] 1) 1000000000 none Db) (fun i=>Ul bs i) (fun _=>cH) bs.length (r:=_) (fun _ _ h=>by cases h) (fun i hi=>zfub bs i hi (by omega) (fun x O=>zarb (S:=[(sN,Xf)]) rfl x 0 O)) (zi8b bs) 0 1000000000 (by omega) (by omega);rw[aV]at h0;have e0:(bs.take 0).map Prod.fst=[]:=rfl;have e1:dG []=.dN:=rfl;have hln:lenOf (lZ' bs)=some bs.length:=uK _ _;simp only[Ul,iG,e0,e1,yW]at h0;simp only[Xj,sA,Nat.reduceAdd,Nat.reduceBEq,kn,hln,h0]
def H7:List D->Cell->Prop:=fun ds c=>∀bs:List (Tx×Co),ds=[lZ' bs,vP]->c=⟨false,dG (bs.map Prod.fst)⟩
theorem nk{S:fC}(hS:dC S wM=some H7)(bs:List (Tx×Co))(hl:bs.length<300000000)(n:Nat)(O:Store):W S (n+1) wM [lZ' bs,vP] O=some (.ret ⟨false,dG (bs.map Prod.fst)⟩,O):=by
 obtain⟨c,h1,h2⟩:=vH (S:=S) hS rfl (c:=⟨false,dG (bs.map Prod.fst)⟩) (fun a h=>by
  simp only[aL,and_true]at h;rw[Pq jg (Jo h)]) (zb2b bs hl)
 rw[h2,h1 bs rfl]
theorem zep{ot:List (Nat×rJ)}{m:Nat}{es:List (D×D×Nat)}{c:Nat}(h:dC ot m=some (.map es c)):xT ot (.map m)=some (m,es,c):=by simp only[xT,h,dH,eP]
theorem zeu{ot:List (Nat×rJ)}{m:Nat}{es:List (D×D×Nat)}{c:Nat}(h:dC ot m=some (.map es c)):Cb ot (.map m)=some es:=by simp only[Cb,h,dH,eP]
theorem tW{s:Tx}:wJ true (.str s)=true:=rfl
theorem zx2{S:fC}(hs:iV S TK=false){O:Store}{m:Nat}{es:List (D×D×Nat)}{c:Nat}(h:dC O.dP m=some (.map es c))(n:Nat):W S (n+1) TK [.map m] O=some (.ret ⟨false,.map O.next⟩,GM O (.map es c)):=by rw[fW (af:=QW) hs rfl rfl];simp only[QW,sA,Nat.reduceBEq,kn,h];rfl
def Ob(O:Store)(p a:Nat)(d:D)(l:List Tx):Prop:=d=dG l\/(l≠[]/\∃id,d=.arr dY id 0 l.length/\dC O.dE id=some (iM l)/\id<O.next/\id≠p/\id≠a)
theorem Ob.keep{O O':Store}{p a m a' m':Nat}{d:D}{l:List Tx}(h:Ob O p a d l)(f:iD p a m a' m' O O'):Ob O' p a' d l:=by
 rcases h with h|⟨h1,id,h2,h3,h4,h5,h6⟩
 ·exact .inl h
 ·exact .inr ⟨h1,id,h2,f.get h3 h4 h5 h6,aP h4 f.nx,h5,by rcases f.fa with e|e<;>omega⟩
theorem Ob.len{O:Store}{p a:Nat}{d:D}{l:List Tx}(h:Ob O p a d l):lenOf d=some l.length:=by
 rcases h with rfl|⟨_,id,rfl,_⟩
 ·exact lE l
 ·rfl
theorem zb3b(l:List Tx)(i:Nat)(h:i<l.length):pX (iM l) i=some ⟨false,.str l[i]⟩:=by rw[iM,ED,EC _ _ h];rfl
structure iH(O O':Store):Prop where
 nx:O.next<=O'.next
 ob:∀j,j<O.next->dC O'.dE j=dC O.dE j
 ty:∀j,j<O.next->dC O'.fH j=dC O.fH j
 ot:∀j,j<O.next->dC O'.dP j=dC O.dP j
theorem iH.refl{O:Store}:iH O O:=⟨aM _,fun _ _=>rfl,fun _ _=>rfl,fun _ _=>rfl⟩
theorem iH.trans{O O1 O2:Store}(h:iH O O1)(k:iH O1 O2):iH O O2:=by have h1:=h.nx;exact⟨Nat.le_trans h.nx k.nx,fun j hj=>by rw[k.ob j (by omega),h.ob j hj],fun j hj=>by rw[k.ty j (by omega),h.ty j hj],fun j hj=>by rw[k.ot j (by omega),h.ot j hj]⟩
theorem iH.ga{O:Store}{t:Nat}{cs:List Cell}:iH O (GA O t cs):=⟨by rw[nO];omega,fun j hj=>nP (by omega),fun j hj=>PQ (by omega),fun _ _=>rfl⟩
theorem iH.so{O O':Store}(h:iH O O'){id:Nat}{cs:List Cell}(hi:O.next<=id):iH O (SO O' id cs):=⟨h.nx,fun j hj=>by rw[mS (by omega),h.ob j hj],h.ty,h.ot⟩
theorem iH.Oc{O O':Store}(h:iH O O')(p a m:Nat):iD p a m a m O O':=⟨h.nx,fun j hj _ _=>h.ob j hj,h.ty,fun j hj _=>h.ot j hj,.inl rfl,.inl rfl⟩
theorem CS.fa{O O':Store}{p a m:Nat}{L:List In}{M:At}(h:CS O p a m L M)(f:iH O O'):CS O' p a m L M :=
 ⟨h.ca.keep f.nx (f.ob _ h.ca.pn) (f.ob _ h.ca.an) (f.ty _ h.ca.an),by rw[f.ot _ h.mn];exact h.map,aP h.mn f.nx⟩
theorem zeab{S:fC}(hs:iV S Dl=false)(O:Store)(l:List Tx)(hl:l.length<1000000000):∃d O',(∀n,W S (n+1) Dl [dG l] O=some (.ret ⟨false,d⟩,O'))/\iH O O' /\
  ((l=[]/\d=.dN)\/(l≠[]/\∃id,d=.arr dY id 0 l.length/\dC O'.dE id=some (iM l)/\O.next<=id/\id<O'.next)):=by
 by_cases hne:l=[]
 ·subst hne;refine⟨.dN,O,fun n=>?_,iH.refl,.inl ⟨rfl,rfl⟩⟩;rw[fW (af:=Oi) hs rfl rfl];have e:dG []=.dN:=rfl;simp only[Oi,e,sA,Nat.reduceBEq,kn]
 ·have e1:decide (0*dY.sz<=([]:List Cell).length)=true:=rfl;have e2:decide ((0+l.length)*16<=iN)=true:=decide_eq_true (show(0+l.length)*16<=1099511627776 by omega);have e3:decide (0+l.length<=iN)=true:=decide_eq_true (show 0+l.length<=1099511627776 by omega);have hall:jZ dY.sz (l.map D.str)=true:=Vk fun d hd=>by
   obtain⟨s,_,rfl⟩:=bF.1 hd;exact⟨rfl,rfl⟩
  have hcs:cellsOf (l.map D.str)=iM l:=by
   have:∀l:List Tx,cellsOf (l.map D.str)=iM l:=by
    intro l;induction l with
    |nil=>rfl
    |cons y r ih=>rw[aO,cellsOf,ih];rfl
   exact this _
  refine⟨.arr dY (O.next+2) 0 l.length,fR {fR O dY []with dE:=gI (fR O dY []).dE O.next} dY (iM l),fun n=>?_,⟨?_,fun j h1=>?_,fun j h1=>?_,fun j h1=>rfl⟩,.inr ⟨hne,_,rfl,oO _ _ _,by omega,by simp[fR]⟩⟩
  ·rw[fW (af:=Oi) hs rfl rfl];have hnil:(dG l).yV=some false:=by
    cases l with
    |nil=>exact absurd rfl hne
    |cons x r=>rfl
   have kE:∀os,nB os (dG l)=some (l.map D.str):=fun os=>by rw[dG,Ol]
   have hap:lR (fR O dY []) dY 16 (.arr dY O.next 0 0) (l.map D.str)=some (.arr dY (O.next+2) 0 l.length,fR {fR O dY []with dE:=gI (fR O dY []).dE O.next} dY (iM l)):=(by have g1:dC (fR O dY []).dE O.next=some []:=oO _ _ _;have g2:dC (fR O dY []).fH O.next=some ⟨dY.el,dY.sz⟩:=oO _ _ _;have ek:dY.same dY=true:=rfl;have hlm:(l.map D.str).length=l.length:=aJ ..;simp only[lR,hall,dQ,g1,g2,dH,eP,ek,bW,hlm,hcs,Nat.zero_mul,List.take_zero,aZ,bG,aN,Nat.zero_le,decide_true]at e2 e3 ⊢;simp only[e2,e3,aY,dQ];rfl);have hc0:cellsOf []=[]:=rfl;simp only[Oi,sA,Nat.reduceMul,Nat.reduceBEq,Nat.reduceLeDiff,kn,hnil,fP,mB,hc0,kE,hap]
  ·simp only[fR];omega
  ·simp only[fR];rw[oZ _ _ _ _ (by omega),Fv _ _ (by omega),oZ _ _ _ _ (by omega)]
  ·simp only[fR];rw[oZ _ _ _ _ (by omega),oZ _ _ _ _ (by omega)]
theorem zcq{α:Type}(k:Nat)(v w:α):∀l:List (Nat×α),fF (fF l k v) k w=fF l k w
 |[]=>by simp[fF,dK]
 |(i,x)::l=>by
  simp only[fF];cases h:i==k with
  |true=>simp[fF,dK,h]
  |false =>
   cases h2:Nat.ble k i with
   |true=>simp[fF,dK]
   |false=>simp[fF,dK,h,h2,zcq k v w l]
theorem ni(O:Store)(id:Nat)(a b:List Cell):SO (SO O id a) id b=SO O id b:=by unfold SO;simp only[zcq]
def sF(l:List Tx):Nat->List Tx
 |0=>l
 |i+1=>((sF l i).set i ((sF l i).getD (l.length-1-i) [])).set (l.length-1-i) ((sF l i).getD i [])
theorem CZ(l:List Tx):∀i,(sF l i).length=l.length
 |0=>rfl
 |i+1=>by rw[sF,List.length_set,List.length_set,CZ l i]
theorem OA(l:List Tx):∀i,2*i<=l.length->∀k,k<l.length->(sF l i).getD k []=dK (decide (k<i)||decide (l.length<=k+i)) (l.getD (l.length-1-k) []) (l.getD k [])
 |0,_,k,hk=>by
  have h1:decide (k<0)=false:=by simp
  have h2:decide (l.length<=k+0)=false:=by simp;omega
  rw[h1,h2];rfl
 |i+1,hi,k,hk=>by
  have hl:=CZ l i;have hget:∀(m:List Tx)(a b:Nat)(x y:Tx),a<m.length->b<m.length->a≠b->∀k,k<m.length->((m.set a x).set b y).getD k []=if k=b then y else if k=a then x else m.getD k []:=by
   intro m a b x y ha hb hab k hk;rw[iU _ _ _ (by simpa using hk),List.getElem_set,List.getElem_set,iU _ _ _ hk];by_cases h1:b=k
   ·subst h1;simp
   ·by_cases h2:a=k
    ·subst h2;simp[h1,hab]
    ·simp[h1,h2,Ne.symm h1,Ne.symm h2]
  rw[sF,hget _ _ _ _ _ (by omega) (by omega) (by omega) k (by omega),OA l i (by omega) _ (by omega),OA l i (by omega) _ (by omega),OA l i (by omega) k hk];have q1:(decide (i<i)||decide (l.length<=i+i))=false:=by simp;omega
  have q2:(decide (l.length-1-i<i)||decide (l.length<=l.length-1-i+i))=false:=by simp;omega
  rw[q1,q2];simp only[dX];by_cases h1:k=l.length-1-i
  ·have q3:(decide (k<i+1)||decide (l.length<=k+(i+1)))=true:=by simp;omega
   rw[if_pos h1,q3,dQ,show l.length-1-k=i by omega]
  ·rw[if_neg h1];by_cases h2:k=i
   ·have q3:(decide (k<i+1)||decide (l.length<=k+(i+1)))=true:=by simp;omega
    rw[if_pos h2,q3,dQ,h2]
   ·rw[if_neg h2];have q3:(decide (k<i+1)||decide (l.length<=k+(i+1)))=(decide (k<i)||decide (l.length<=k+i)):=by
     have e1:decide (k<i+1)=decide (k<i):=by congr 1;exact propext (by omega)
     have e2:decide (l.length<=k+(i+1))=decide (l.length<=k+i):=by congr 1;exact propext (by omega)
     rw[e1,e2]
    rw[q3]
theorem zcnb(l:List Tx):sF l (l.length / 2)=l.reverse:=by
 apply List.ext_getElem
 ·rw[CZ,bV]
 ·intro k h1 h2;have hk:k<l.length:=by rw[CZ]at h1;exact h1
  have h:=OA l (l.length / 2) (by omega) k hk;rw[iU _ _ _ h1]at h;rw[h,List.getElem_reverse];rw[iU _ _ _ (show l.length-1-k<l.length by omega),iU _ _ _ hk];by_cases q:k<l.length / 2\/l.length<=k+l.length / 2
  ·have:(decide (k<l.length / 2)||decide (l.length<=k+l.length / 2))=true:=by simpa using q
   rw[this,dQ]
  ·have:(decide (k<l.length / 2)||decide (l.length<=k+l.length / 2))=false:=by simp;omega
   rw[this,dX];congr 1;omega
def Yt(id n i:Nat):Env:={slots:=[(0,⟨false,.arr dY id 0 n⟩),(2,⟨false,.int .i64 i⟩),(3,⟨false,.int .i64 ((n:Int)-1-i)⟩)],dR:=[],boxes:=[],defers:=[]}
def Je(O:Store)(id:Nat)(l:List Tx):Nat->Store
 |0=>O
 |i+1=>SO O id (iM (sF l (i+1)))
theorem zft{O:Store}{id:Nat}{l:List Tx}(h:dC O.dE id=some (iM l))(i:Nat):dC (Je O id l i).dE id=some (iM (sF l i)):=by
 cases i with
 |zero=>exact h
 |succ i=>exact rL
theorem zhob{O:Store}{id:Nat}{l:List Tx}(i:Nat)(cs:List Cell):SO (Je O id l i) id cs=SO O id cs:=by
 cases i with
 |zero=>rfl
 |succ i=>exact ni _ _ _ _
theorem YW:∀(l:List Tx)(k:Nat)(s:Tx),putCells (iM l) k [⟨false,.str s⟩]=iM (l.set k s)
 |[],k,s=>rfl
 |x::l,0,s=>by simp[iM,putCells]
 |x::l,k+1,s=>by
  have:=YW l k s;simp only[iM,aO,putCells,List.set_cons_succ]at this ⊢;rw[this]
theorem gp(l:List Tx)(k:Nat)(h:k<l.length):pX (iM l) (k*1)=some ⟨false,.str (l.getD k [])⟩:=by rw[Nat.mul_one,zb3b l k h,iU _ _ _ h]
theorem zglb{C:eV}{n:Nat}(O:Store)(id:Nat)(l:List Tx)(h:dC O.dE id=some (iM l))(hl:l.length<1000000000)(i:Nat)(hi:i<l.length / 2):exec C n none Xr (Yt id l.length i) (Je O id l i)=some (.normal,Yt id l.length (i+1),Je O id l (i+1)):=by
 have hg:=zft h i;have hlen:=CZ l i;have hj:(l.length:Int)-1-i=((l.length-1-i:Nat):Int):=by omega
 have hlt:((i:Int)<((l.length-1-i:Nat):Int)):=by omega
 have w1:=iE (i:=i) (by omega);have w2:IntKind.i64.wrap (((l.length-1-i:Nat):Int)-1)=(l.length:Int)-1-((i+1:Nat):Int):=by rw[lV (by omega) (by omega)];omega
 have r1:=gp (sF l i) i (by omega);have r2:=gp (sF l i) (l.length-1-i) (by omega);have d1:i<l.length:=by omega
 have d2:l.length-1-i<l.length:=by omega
 have es:(dY.sz==1)=true:=rfl;have f1:i*1+1<=(iM (sF l i)).length:=by rw[Js];omega
 have f2:∀s,(l.length-1-i)*1+1<=(iM ((sF l i).set i s)).length:=fun s=>by rw[Js,List.length_set];omega
 have p1:∀s,putCells (iM (sF l i)) (i*1) [⟨false,.str s⟩]=iM ((sF l i).set i s):=fun s=>by rw[Nat.mul_one];exact YW _ _ _
 have p2:∀s t,putCells (iM ((sF l i).set i s)) ((l.length-1-i)*1) [⟨false,.str t⟩]=iM (((sF l i).set i s).set (l.length-1-i) t):=fun s t=>by rw[Nat.mul_one];exact YW _ _ _
 have hs2:SO O id (iM (((sF l i).set i ((sF l i).getD (l.length-1-i) [])).set (l.length-1-i) ((sF l i).getD i [])))=Je O id l (i+1):=rfl;have so:=zhob (O:=O) (id:=id) (l:=l) i;simp only[Yt,hj,Xr,sA,Nat.reduceBEq,kn,fP,mB,hlt,Ea,d1,d2,hg,r1,r2,f1,p1,rL,f2,p2,so,ni,hs2,w1,w2]
theorem zjub{C:eV}{n:Nat}(O:Store)(id:Nat)(l:List Tx)(hl:l.length<1000000000):∃e,exec C n none Xr (Yt id l.length (l.length / 2)) (Je O id l (l.length / 2))=some (.exit 0,e,Je O id l (l.length / 2))/\e.defers=[]:=by
 have hlt:¬(((l.length / 2:Nat):Int)<(l.length:Int)-1-((l.length / 2:Nat):Int)):=by omega
 refine⟨{slots:=[(0,⟨false,.arr dY id 0 l.length⟩),(2,⟨false,.int .i64 (l.length / 2:Nat)⟩),(3,⟨false,.int .i64 ((l.length:Int)-1-((l.length / 2:Nat):Int))⟩),(9,⟨false,.bool false⟩)],dR:=[],boxes:=[],defers:=[]},?_,rfl⟩;unfold Yt;generalize(l.length:Int)-1-((l.length / 2:Nat):Int)=j at hlt ⊢;generalize((l.length / 2:Nat):Int)=h at hlt ⊢;simp only[Xr,sA,Nat.reduceBEq,kn,hlt]
theorem zgjb{S:fC}(hs:iV S V7=false)(O:Store)(id:Nat)(l:List Tx)(h:dC O.dE id=some (iM l))(hl:l.length<1000000000):∃O',(∀n,l.length<n->W S (n+1) V7 [.arr dY id 0 l.length] O=some (.ret ⟨false,.fN []⟩,O'))/\dC O'.dE id=some (iM l.reverse)/\O'.next=O.next/\O'.dP=O.dP/\O'.fH=O.fH/\∀j,j≠id->dC O'.dE j=dC O.dE j:=by
 refine⟨Je O id l (l.length / 2),fun n hn=>?_,?_,?_,?_,?_,fun j hj=>?_⟩
 ·obtain⟨e,he,hd⟩:=zjub (C:=W S n) (n:=n) O id l hl;have hr:=nI (body:=exec (W S n) n none Xr) (Yt id l.length) (Je O id l) (l.length / 2) (r:=_) (fun _ _ h=>by cases h) (fun i hi=>zglb O id l h hl i hi) he 0 n (by omega) (by omega);rw[fW (af:=S9) hs rfl rfl];have w:IntKind.i64.wrap ((l.length:Int)-1)=(l.length:Int)-1-((0:Nat):Int):=by rw[lV (by omega) (by omega)];omega
  have hS:Je O id l 0=O:=rfl;simp only[Yt,hS,iG]at hr w;simp only[S9,sA,Nat.reduceBEq,kn,w,hr,hd]
 ·have:=zft h (l.length / 2);rw[this,zcnb]
 ·cases l.length / 2<;>rfl
 ·cases l.length / 2<;>rfl
 ·cases l.length / 2<;>rfl
 ·cases l.length / 2 with
  |zero=>rfl
  |succ i=>exact mS hj
def Jb(On:Nat)(dl:D)(len:Nat)(d:Int)(fv:D)(i:Nat):Env:={slots:=[(2,⟨false,.int .i64 d⟩),(3,⟨false,fv⟩),(4,⟨false,.ptr On 0⟩),(17,⟨false,dl⟩),(18,⟨false,.int .i64 len⟩),(19,⟨false,.int .i64 i⟩)],dR:=[],boxes:=[],defers:=[(Qq,[.ptr (On+2) 0,.ptr On 0])]}
def UZ(On:Nat)(dl:D)(len:Nat)(d:Int)(fv:D):Env:={slots:=[(2,⟨false,.int .i64 d⟩),(3,⟨false,fv⟩),(4,⟨false,.ptr On 0⟩),(17,⟨false,dl⟩),(18,⟨false,.int .i64 len⟩),(19,⟨false,.int .i64 len⟩),(20,⟨false,.bool false⟩)],dR:=[],boxes:=[],defers:=[(Qq,[.ptr (On+2) 0,.ptr On 0])]}
theorem zhdb{τ:Store}{p a m:Nat}{L:List In}{M:At}(h:CS τ p a m L M){dl:D}{l:List Tx}(hr:Ob τ p a dl l)(hl:l.length<1000000000){On:Nat}(hx:dC τ.dE On=some [⟨false,.ptr p 0⟩])(d:Int)(fv:D)(i:Nat)(hi:i<l.length) :
  ∃τ',(∀C n,exec C n none Lo (Jb On dl l.length d fv i) τ=some (.normal,Jb On dl l.length d fv (i+1),τ'))/\CS τ' p a m L (xW M l[i] (fQ (d+(i:Int))))/\iD p a m a m τ τ':=by
 obtain⟨es,c,r,h1,h2,h3,h4⟩:=h.upd l[i] (fQ (d+(i:Int)));refine⟨_,fun C n=>?_,h3,h4⟩;have ho:=h.ca.obj;have VM:=zep h1;have hlt:((i:Int)<(l.length:Int)):=by omega
 have w:=iE (i:=i) (by omega);have hd:IntKind.i64.wrap (d+(i:Int))=fQ (d+(i:Int)):=rfl;rcases hr with rfl|⟨hne,id,rfl,h5,h6,h7,h8⟩
 ·have hx1:=sZ l i hi;cases r with
  |none=>simp only[Lo,Jb,sA,Nat.reduceBEq,kn,fP,mB,hlt,hx1,hx,ho,VM,tW,h2,hd,w]
  |some q=>simp only[Lo,Jb,sA,Nat.reduceBEq,kn,fP,mB,hlt,hx1,hx,ho,VM,tW,h2,hd,w]
 ·have es:(dY.sz==1)=true:=rfl;have hr1:pX (iM l) (i*1)=some ⟨false,.str l[i]⟩:=by rw[gp l i hi,iU _ _ _ hi]
  cases r with
  |none=>simp only[Lo,Jb,sA,Nat.reduceBEq,kn,fP,mB,hlt,Ea,hi,h5,hr1,hx,ho,VM,tW,h2,hd,w]
  |some q=>simp only[Lo,Jb,sA,Nat.reduceBEq,kn,fP,mB,hlt,Ea,hi,h5,hr1,hx,ho,VM,tW,h2,hd,w]
theorem zkbb(C:eV)(n:Nat)(τ:Store)(On:Nat)(dl:D)(len:Nat)(d:Int)(fv:D):exec C n none Lo (Jb On dl len d fv len) τ=some (.exit 0,UZ On dl len d fv,τ):=by
 have hlt:¬((len:Int)<(len:Int)):=by omega
 simp only[Lo,Jb,UZ,sA,Nat.reduceBEq,kn,hlt]
theorem zhf{p a m:Nat}{L:List In}{dl:D}{l:List Tx}(hl:l.length<1000000000){On:Nat}(hp:On≠p)(ha:On≠a)(d:Int)(fv:D):∀(rest done:List Tx)(M:At)(τ:Store),l=done++rest->CS τ p a m L M->Ob τ p a dl l->dC τ.dE On=some [⟨false,.ptr p 0⟩]->On<τ.next ->
  ∃τ',(∀C N n,rest.length<n->jI (exec C N none Lo) n (Jb On dl l.length d fv done.length) τ=some (.exit 0,UZ On dl l.length d fv,τ'))/\CS τ' p a m L (jE M rest d done.length)/\iD p a m a m τ τ'
 |[],done,M,τ,hd,h,hr,hx,hn=>by
  refine⟨τ,fun C N n hn=>?_,h,iD.refl⟩;obtain⟨n,rfl⟩:∃k,n=k+1:=⟨n-1,by omega⟩;have e:done.length=l.length:=by rw[hd];simp
  rw[e];exact rW (zkbb C N τ On dl l.length d fv)
 |s::rest,done,M,τ,hd,h,hr,hx,hn=>by
  have hi:done.length<l.length:=by rw[hd];simp
  have hs:l[done.length]=s:=(by subst hd;simp);obtain⟨τ1,h1,h2,h3⟩:=zhdb h hr hl hx d fv done.length hi;rw[hs]at h2;obtain⟨τ2,h4,h5,h6⟩:=zhf hl hp ha d fv rest (done++[s]) _ τ1 (by rw[hd];simp) h2 (hr.keep h3) (h3.get hx hn hp ha) (aP hn h3.nx);simp only[aF,aG,aH,aN]at h4 h5;refine⟨τ2,fun C N n hn=>?_,h5,h3.trans h6⟩;obtain⟨n,rfl⟩:∃k,n=k+1:=⟨n-1,by omega⟩;rw[rK (h1 C N)];exact h4 C N n (by simp at hn;omega)
theorem ZZ{S:fC}(hs1:iV S U7=false)(hs2:iV S Qq=false)(hs3:iV S TK=false){O:Store}{p a m:Nat}{L:List In}{M:At}(h:CS O p a m L M){dl:D}{l:List Tx}(hr:Ob O p a dl l)(hl:l.length<1000000000)(d:Int)(fv:D)(f:FuncId)(fst nS:List D)(hf:D.mA fv=some (f,fst,nS))(hone:fv.one=true)(L':List In)
  (hdo:∀O1,CS O1 p a m L (jE M l d 0)->iD p a m a m O O1->∃O2 a2 m2 M2,Ev S f (fst++nS) O1 O2/\CS O2 p a2 m2 L' M2/\iD p a m a2 m2 O1 O2) :
  ∃O' a' m',Ev S U7 [.ptr p 0,dl,.int .i64 d,fv] O O'/\CS O' p a' m' L' M/\iD p a m a' m' O O':=by
 have hp:=h.ca.pn;have ha:=h.ca.an;have hm:=h.mn;obtain⟨es,c,hmap,zlcb⟩:=h.map;obtain⟨O1,e1⟩:∃O1,O1=GA O Ae [⟨false,.ptr p 0⟩]:=⟨_,rfl⟩;obtain⟨O2,e2⟩:∃O2,O2=GM O1 (.map (Au es) c):=⟨_,rfl⟩;obtain⟨O3,e3⟩:∃O3,O3=GA O2 IY [⟨false,.lH⟩]:=⟨_,rfl⟩;obtain⟨O4,e4⟩:∃O4,O4=SO O3 (O.next+2) [⟨false,.map (O.next+1)⟩]:=⟨_,rfl⟩;have n1:O1.next=O.next+1:=by rw[e1,nO]
 have n2:O2.next=O.next+2:=by rw[e2,D5,n1]
 have n3:O3.next=O.next+3:=by rw[e3,nO,n2]
 have n4:O4.next=O.next+3:=by rw[e4,oJ,n3]
 have c4:CS O4 p a m L M:=(by rw[e4];refine CS.so ?_ (by omega) (by omega);rw[e3];refine CS.ga ?_;rw[e2];refine CS.gm ?_;rw[e1];exact h.ga);have f4:iD p a m a m O O4:=(by rw[e4];refine iD.so ?_ (.inl (by omega));rw[e3];refine iD.trans ?_ iD.ga;rw[e2];refine iD.trans ?_ iD.gm;rw[e1];exact iD.ga);have x1:dC O1.dE O.next=some [⟨false,.ptr p 0⟩]:=by rw[e1,pA]
 have x4:dC O4.dE O.next=some [⟨false,.ptr p 0⟩]:=(by rw[e4,mS (by omega),e3,nP (by omega),e2,zfq,x1]);have o4:dC O4.dE (O.next+2)=some [⟨false,.map (O.next+1)⟩]:=by rw[e4,rL]
 have o3:dC O3.dE (O.next+2)=some [⟨false,.lH⟩]:=(by have:=pA (O:=O2) (t:=IY) (cs:=[⟨false,.lH⟩]);rw[n2]at this;rw[e3,this]);have m4:dC O4.dP (O.next+1)=some (.map (Au es) c):=(by have:=OE (O:=O1) (x:=.map (Au es) c);rw[n1]at this;rw[e4,Qb,e3,F7,e2,this]);have p1:dC O1.dE p=some [⟨false,qS a L⟩,⟨false,.map m⟩]:=by rw[e1,nP (by omega)];exact h.ca.obj
 have m1:dC O1.dP m=some (.map (Au es) c):=by rw[e1,F7];exact hmap
 obtain⟨τ,hlp,cτ,fτ⟩:=zhf hl (On:=O.next) (by omega) (by omega) d fv l [] M O4 rfl c4 (hr.keep f4) x4 (by omega);obtain⟨O5,a2,m2,M2,⟨n0,hev⟩,c5,f5⟩:=hdo τ cτ (f4.trans fτ);have fb:=(f4.trans fτ).trans f5;have g4:=fτ.trans f5;have VN:=g4.nx;have x5:dC O5.dE O.next=some [⟨false,.ptr p 0⟩]:=g4.get x4 (by omega) (by omega) (by omega);have o5:dC O5.dE (O.next+2)=some [⟨false,.map (O.next+1)⟩]:=g4.get o4 (by omega) (by omega) (by omega);have m5:dC O5.dP (O.next+1)=some (.map (Au es) c):=by rw[g4.ot _ (by omega) (by omega),m4]
 have xy:=c5.ca.obj;refine⟨SO O5 p [⟨false,qS a2 L'⟩,⟨false,.map (O.next+1)⟩],a2,O.next+1,Ev.of (max n0 (l.length+1)) fun n hn=>?_,⟨⟨rL,fun hL=>?_,c5.ca.pa,c5.ca.pn,c5.ca.an⟩,⟨es,c,m5,zlcb⟩,?_⟩,?_⟩
 ·rw[fW (af:=QH) hs1 rfl rfl];have hln:=hr.len;have zkt:=hlp (W S n) n n (by omega);have hev2:=hev n (by omega);simp only[Jb,UZ,aH,iG]at zkt;obtain⟨k,rfl⟩:∃k,n=k+1:=⟨n-1,by omega⟩;have hcl:=zx2 (S:=S) hs3 m1 k;rw[n1]at hcl;have hd1:WD S (k+1) Qq [.ptr (O.next+2) 0,.ptr O.next 0] O5=some (.ret ⟨false,.fN []⟩,SO O5 p [⟨false,qS a2 L'⟩,⟨false,.map (O.next+1)⟩]):=by
   refine zhqb (af:=QI) (e:={slots:=[],dR:=[],boxes:=[],defers:=[]}) hs2 rfl rfl ?_ rfl rfl rfl;simp only[QI,sA,Nat.reduceAdd,Nat.reduceBEq,kn,mB,x5,o5,xy]
  have hdf:=zpg (R:=Ra) (C:=WD S (k+1)) (m:=none) (f:=Qq) rfl rfl hd1;have hfF:D.Di (.fn (.func Qq) [] [.ptr (O.next+2) 0,.ptr O.next 0])=some (Qq,[],[.ptr (O.next+2) 0,.ptr O.next 0]):=rfl;simp only[QH,sA,Nat.reduceAdd,Nat.reduceBEq,kn,fP,mB,hfF,<-e1,x1,p1,hcl,<-e2,n2,<-e3,o3,<-e4,hln,zkt,hf,hev2,hdf]
 ·have:=c5.ca.arr hL;exact⟨by rw[mS (fun e=>c5.ca.pa e.symm)];exact this.1,this.2⟩
 ·rw[oJ];omega
 ·exact⟨fb.nx,fun j h1 h2 h3=>by rw[mS h2,fb.ob j h1 h2 h3],fb.ty,fb.ot,fb.fa,.inr (by omega)⟩
def SD:fC:=[(wM,H7)]
def Ri(f:FuncId)(ds:List D)(O:Store)(p a m:Nat)(L':List In)(M:At):Prop:=∃O' a' m',Ev SD f ds O O'/\CS O' p a' m' L' M/\iD p a m a' m' O O'
def yN(f:FuncId)(c:Co)(F:At->Int->List In->List In):Prop:=∀(O:Store)(p a m:Nat)(L:List In)(M:At)(d:Int),CS O p a m L M->(F M d L).length<50000000->Ri f [.ptr p 0,dM c,.int .i64 d] O p a m (F M d L) M
theorem Ev.at{S:fC}{f:FuncId}{ds:List D}{O O':Store}(h:Ev S f ds O O'):∃n0,∀n,n0<=n->W S n f ds O=some (.ret ⟨false,.fN []⟩,O'):=h
section
variable{C:eV}{n N:Nat}{τ:Store}
def Yg(cb xb db kb fb:Nat)(bs:List (Tx×Co))(i:Nat):Env:={slots:=[(0,⟨false,.ptr cb 0⟩),(1,⟨false,.ptr xb 0⟩),(2,⟨false,.ptr db 0⟩),(3,⟨false,.ptr kb 0⟩),(4,⟨false,.ptr fb 0⟩),(8,⟨false,lZ' bs⟩),(9,⟨false,.int .i64 bs.length⟩),(10,⟨false,.int .i64 i⟩)],dR:=[],boxes:=[],defers:=[]}
def UH(cb xb db kb fb:Nat)(bs:List (Tx×Co)):Env:={slots:=[(0,⟨false,.ptr cb 0⟩),(1,⟨false,.ptr xb 0⟩),(2,⟨false,.ptr db 0⟩),(3,⟨false,.ptr kb 0⟩),(4,⟨false,.ptr fb 0⟩),(8,⟨false,lZ' bs⟩),(9,⟨false,.int .i64 bs.length⟩),(10,⟨false,.int .i64 bs.length⟩),(11,⟨false,.bool false⟩)],dR:=[],boxes:=[],defers:=[]}
theorem zixb(C:eV)(n:Nat)(τ:Store)(cb xb db kb fb:Nat)(bs:List (Tx×Co)):exec C n none J5 (Yg cb xb db kb fb bs bs.length) τ=some (.exit 0,UH cb xb db kb fb bs,τ):=by
 have hlt:¬((bs.length:Int)<(bs.length:Int)):=by omega
 simp only[J5,Yg,UH,sA,Nat.reduceBEq,kn,hlt]
theorem zfib{C:eV}{n:Nat}{τ τ1 τ2:Store}{p:Nat}(cb xb db kb fb:Nat)(bs:List (Tx×Co))(i:Nat)(hi:i<bs.length)(hl:bs.length<1000000000)(d:Int)
  (hx:dC τ.dE xb=some [⟨false,.ptr p 0⟩]) (hd:dC τ.dE db=some [⟨false,.int .i64 d⟩]) (hk:dC τ.dE kb=some [⟨false,.int .i64 bs.length⟩])
  (hx1:dC τ1.dE xb=some [⟨false,.ptr p 0⟩]) (hk1:dC τ1.dE kb=some [⟨false,.int .i64 bs.length⟩])
  (h1:C uZ [.ptr p 0,dM bs[i].2,.int .i64 (fQ (d+bs.length))] τ=some (.ret ⟨false,.fN []⟩,τ1))
  (h2:C mI [.ptr p 0,.str nJ,.int .i64 (rS bs.length i)] τ1=some (.ret ⟨false,.fN []⟩,τ2)) :
  exec C n none J5 (Yg cb xb db kb fb bs i) τ=some (.normal,Yg cb xb db kb fb bs (i+1),τ2):=by
 have hlt:((i:Int)<(bs.length:Int)):=by omega
 have w:=iE (i:=i) (by omega);have VO:=uJ (k:=iS) (sz:=15) rfl dB bs i hi;generalize bs[i]=b at VO h1;have hdB:=zK b;have hdC:=eO b.2;rw[hdB]at VO;rw[hdC]at h1;simp only[pH]at VO h1;simp only[fQ]at h1;simp only[rS,nJ]at h2;simp only[J5,Yg,lZ',sA,Nat.reduceAdd,Nat.reduceBEq,kn,hlt,VO,hx,hd,hk,h1,hx1,hk1,h2,w]
end
def tA(F:At->Int->List In->List In):Prop:=∀M d L,L.length<=(F M d L).length
def Bx(O:Store)(p a:Nat)(l:List (Nat×List Cell)):Prop:=∀q∈l,dC O.dE q.1=some q.2/\q.1<O.next/\q.1≠p/\q.1≠a
theorem Bx.keep{O O':Store}{p a m a' m':Nat}{l:List (Nat×List Cell)}(h:Bx O p a l)(f:iD p a m a' m' O O'):Bx O' p a' l:=fun q hq=>by
 obtain⟨h1,h2,h3,h4⟩:=h q hq;exact⟨f.get h1 h2 h3 h4,aP h2 f.nx,h3,by rcases f.fa with e|e<;>omega⟩
theorem ML{lz:Co->List In->List In}(k:Nat):∀(l:List (Tx×Co))(i:Nat)(L:List In),(∀b∈l,∀L,L.length<=(lz b.2 L).length)->L.length<=(qU lz k l i L).length
 |[],i,L,_=>aM _
 |b::l,i,L,h=>by
  have h1:=ML k l (i+1) (lz b.2 L++[eJ nJ (rS k i)]) fun x hx=>h x (aI _ hx);have h2:=h b (aQ ..) L;simp only[qU,aF,aG,aH]at h1 ⊢;omega
theorem zgs{lz:Co->At->Int->List In->List In}{bs:List (Tx×Co)}(hl:bs.length<1000000000)(hlz:∀b∈bs,yN uZ b.2 (lz b.2))(hmo:∀b∈bs,tA (lz b.2)){p:Nat}(cb xb db kb fb:Nat)(d:Int)(M:At) :
  ∀(rest done:List (Tx×Co))(L:List In)(O:Store)(a m:Nat),bs=done++rest->CS O p a m L M->Bx O p a [(xb,[⟨false,.ptr p 0⟩]),(db,[⟨false,.int .i64 d⟩]),(kb,[⟨false,.int .i64 bs.length⟩])]->(qU (fun b L=>lz b M (fQ (d+bs.length)) L) bs.length rest done.length L).length<50000000 ->
  ∃O' a' m' n0,(∀N n,n0<=N->rest.length<n->jI (exec (W SD N) N none J5) n (Yg cb xb db kb fb bs done.length) O=some (.exit 0,UH cb xb db kb fb bs,O'))/\CS O' p a' m' (qU (fun b L=>lz b M (fQ (d+bs.length)) L) bs.length rest done.length L) M/\iD p a m a' m' O O'
 |[],done,L,O,a,m,hd,h,hb,hn=>by
  refine⟨O,a,m,0,fun N n _ hn=>?_,h,iD.refl⟩;obtain⟨n,rfl⟩:∃k,n=k+1:=⟨n-1,by omega⟩;have e:done.length=bs.length:=by rw[hd];simp
  rw[e];exact rW (zixb (W SD N) N O cb xb db kb fb bs)
 |b::rest,done,L,O,a,m,hd,h,hb,hn=>by
  have hi:done.length<bs.length:=by rw[hd];simp
  have hs:bs[done.length]=b:=(by subst hd;simp);have Gf:b∈bs:=by rw[hd];simp
  have h1:=ML bs.length rest (done.length+1) (lz b.2 M (fQ (d+bs.length)) L++[eJ nJ (rS bs.length done.length)]) (lz:=fun b L=>lz b M (fQ (d+bs.length)) L) (fun x hx L=>hmo x (by rw[hd];simp[hx]) _ _ _);simp only[qU]at hn;simp only[aF,aG,aH]at h1;obtain⟨O1,a1,m1,⟨n1,e1⟩,c1,f1⟩:=hlz b Gf O p a m L M (fQ (d+bs.length)) h (by omega);obtain⟨O2,e2,c2,f2,o2⟩:=E9 (S:=SD) rfl c1.ca (by omega) nJ (rS bs.length done.length);have c2':CS O2 p O1.next m1 (lz b.2 M (fQ (d+bs.length)) L++[eJ nJ (rS bs.length done.length)]) M:=⟨c2,by rw[o2];exact c1.map,by have:=c1.mn;have:=(f2 m1).nx;omega⟩;have b1:=hb.keep f1;have b2:=b1.keep (f2 m1);obtain⟨O3,a3,m3,n3,e3,c3,f3⟩:=zgs hl hlz hmo cb xb db kb fb d M rest (done++[b]) _ O2 _ m1 (by rw[hd];simp) c2' b2 (by simp only[aF,aG,aH,aN];exact hn);simp only[aF,aG,aH,aN]at e3 c3;refine⟨O3,a3,m3,max (max n1 n3) 1,fun N n hN hn=>?_,c3,(f1.trans (f2 m1)).trans f3⟩;obtain⟨n,rfl⟩:∃k,n=k+1:=⟨n-1,by omega⟩;obtain⟨K,rfl⟩:∃k,N=k+1:=⟨N-1,by omega⟩;have x0:=hb (xb,[⟨false,.ptr p 0⟩]) (by simp);have d0:=hb (db,[⟨false,.int .i64 d⟩]) (by simp);have k0:=hb (kb,[⟨false,.int .i64 bs.length⟩]) (by simp);have x1:=b1 (xb,[⟨false,.ptr p 0⟩]) (by simp);have k1:=b1 (kb,[⟨false,.int .i64 bs.length⟩]) (by simp);rw[rK (zfib (τ:=O) (τ1:=O1) (τ2:=O2) (p:=p) cb xb db kb fb bs done.length hi hl d x0.1 d0.1 k0.1 x1.1 k1.1 (by rw[hs];exact e1 (K+1) (by omega)) (e2 K))];exact e3 (K+1) n (by omega) (by simp at hn;omega)
theorem zbsb{lz go:Co->At->Int->List In->List In}{c x:Co}(hk:c.ks=[x])(hl:c.bs.length<1000000000)(hlz:∀b∈c.bs,yN uZ b.2 (lz b.2))(hmo:∀b∈c.bs,tA (lz b.2)){g:FuncId}(hg:jK g=false)(hgo:yN g x (go x))(hgm:tA (go x))
  {O:Store} {p a m:Nat} {L:List In} {M:At} {d:Int} (h:CS O p a m L M) {cb xb db kb fb:Nat} (hb:Bx O p a [(cb,(pH c).map Cell.of),(xb,[⟨false,.ptr p 0⟩]),(db,[⟨false,.int .i64 d⟩]),(kb,[⟨false,.int .i64 c.bs.length⟩]),(fb,[⟨false,.fn (.func g) [.ptr p 0] []⟩])])
  (hn:(go x M (fQ (d+c.bs.length)) (qU (fun b L=>lz b M (fQ (d+c.bs.length)) L) c.bs.length c.bs 0 L)).length<50000000) :
  Ri SX [.ptr cb 0,.ptr xb 0,.ptr db 0,.ptr kb 0,.ptr fb 0] O p a m (go x M (fQ (d+c.bs.length)) (qU (fun b L=>lz b M (fQ (d+c.bs.length)) L) c.bs.length c.bs 0 L)) M:=by
 have h2:=hgm M (fQ (d+c.bs.length)) (qU (fun b L=>lz b M (fQ (d+c.bs.length)) L) c.bs.length c.bs 0 L);obtain⟨O1,a1,m1,n1,e1,c1,f1⟩:=zgs hl hlz hmo cb xb db kb fb d M c.bs [] L O a m rfl h (fun q hq=>hb q (by simp at hq ⊢;rcases hq with h|h|h<;>simp[h])) (by simp only[aH];omega);simp only[aH]at e1 c1;obtain⟨O2,a2,m2,⟨n2,e2⟩,c2,f2⟩:=hgo O1 p a1 m1 _ M (fQ (d+c.bs.length)) c1 hn;refine⟨O2,a2,m2,Ev.of (max (max n1 n2) (c.bs.length+1)) fun n hN=>?_,c2,f1.trans f2⟩;rw[fW (af:=QD) rfl rfl rfl];have b1:=hb.keep f1;have q0:=(hb (cb,(pH c).map Cell.of) (by simp)).1;have q1:=(b1 (cb,(pH c).map Cell.of) (by simp)).1;have q2:=(b1 (db,[⟨false,.int .i64 d⟩]) (by simp)).1;have q3:=(b1 (kb,[⟨false,.int .i64 c.bs.length⟩]) (by simp)).1;have q4:=(b1 (fb,[⟨false,.fn (.func g) [.ptr p 0] []⟩]) (by simp)).1;have hlp:=e1 n n (by omega) (by omega);have hev:=e2 n (by omega);have hx:=uJ (k:=gV) (sz:=10) rfl dM [x] 0 (by simp);have hln:lenOf (lZ' c.bs)=some c.bs.length:=uK _ _;simp only[List.getElem_cons_zero]at hx;have hdl:gX iS (c.bs.map dB)=lZ' c.bs:=rfl;have hfn:D.mA (.fn (.func g) [.ptr p 0] [])=some (g,[.ptr p 0],[]):=jk hg;simp only[pH,hk]at q0 q1;rw[hdl]at q0 q1;have hag:=Ov x;have hlx:=sX x;simp only[Yg,UH,iG]at hlp;simp only[fQ]at hev;generalize gX gV ([x].map dM)=kd at *
 simp only[aO,aZ]at q0 q1;simp only[QD,sA,Nat.reduceAdd,Nat.reduceBEq,kn,q0,hln,hlp,q1,q2,q3,q4,hx,hag,hlx,hfn,hev]
def pF(g:FuncId)(p:Nat):D:=.fn (.func g) [.ptr p 0] []
theorem dz{lz go:Co->At->Int->List In->List In}{c x:Co}(hk:c.ks=[x])(hl:c.bs.length<300000000)(hlz:∀b∈c.bs,yN uZ b.2 (lz b.2))(hmo:∀b∈c.bs,tA (lz b.2)){g:FuncId}(hg:jK g=false)(hgo:yN g x (go x))(hgm:tA (go x))
  {O:Store} {p a m:Nat} {L:List In} {M:At} {d:Int} (h:CS O p a m L M) (hn:(Tj lz go c M d L).length<50000000):Ri GV [.ptr p 0,dM c,.int .i64 d,pF g p] O p a m (Tj lz go c M d L) M:=by
 have hp:=h.ca.pn;have ha:=h.ca.an;have hm:=h.mn;have hkid:jX c 0=x:=by simp[jX,hk]
 unfold Tj at hn ⊢;rw[hkid]at hn ⊢;have m1:=hgm (jE M (dW c) d 0) (fQ (d+c.bs.length)) (qU (fun b L=>lz b (jE M (dW c) d 0) (fQ (d+c.bs.length)) L) c.bs.length c.bs 0 (L++[eJ sB c.bs.length]));have m2:=ML c.bs.length c.bs 0 (L++[eJ sB c.bs.length]) (lz:=fun b L=>lz b (jE M (dW c) d 0) (fQ (d+c.bs.length)) L) fun x hx L=>hmo x hx _ _ _;simp only[aF,aG,aH]at m2;obtain⟨O1,e1⟩:∃O1,O1=GA O Ae [⟨false,.ptr p 0⟩]:=⟨_,rfl⟩;obtain⟨O2,e2⟩:∃O2,O2=GA O1 UD ((pH c).map Cell.of):=⟨_,rfl⟩;obtain⟨O3,e3⟩:∃O3,O3=GA O2 En [⟨false,.int .i64 d⟩]:=⟨_,rfl⟩;obtain⟨O4,e4⟩:∃O4,O4=GA O3 UE [⟨false,pF g p⟩]:=⟨_,rfl⟩;obtain⟨O5,e5⟩:∃O5,O5=GA O4 En [⟨false,.int .i64 0⟩]:=⟨_,rfl⟩;obtain⟨O6,e6⟩:∃O6,O6=SO O5 (O.next+4) [⟨false,.int .i64 c.bs.length⟩]:=⟨_,rfl⟩;have n1:O1.next=O.next+1:=by rw[e1,nO]
 have n2:O2.next=O.next+2:=by rw[e2,nO,n1]
 have n3:O3.next=O.next+3:=by rw[e3,nO,n2]
 have n4:O4.next=O.next+4:=by rw[e4,nO,n3]
 have n5:O5.next=O.next+5:=by rw[e5,nO,n4]
 have n6:O6.next=O.next+5:=by rw[e6,oJ,n5]
 have c6:CS O6 p a m L M:=(by rw[e6];refine CS.so ?_ (by omega) (by omega);rw[e5];refine CS.ga ?_;rw[e4];refine CS.ga ?_;rw[e3];refine CS.ga ?_;rw[e2];refine CS.ga ?_;rw[e1];exact h.ga);have f6:iD p a m a m O O6:=(by rw[e6];refine iD.so ?_ (.inl (by omega));rw[e5];refine iD.trans ?_ iD.ga;rw[e4];refine iD.trans ?_ iD.ga;rw[e3];refine iD.trans ?_ iD.ga;rw[e2];refine iD.trans ?_ iD.ga;rw[e1];exact iD.ga);have b1:dC O1.dE O.next=some [⟨false,.ptr p 0⟩]:=by rw[e1,pA]
 have b2:dC O2.dE (O.next+1)=some ((pH c).map Cell.of):=by rw[e2,<-n1,pA]
 have b3:dC O3.dE (O.next+2)=some [⟨false,.int .i64 d⟩]:=by rw[e3,<-n2,pA]
 have b4:dC O4.dE (O.next+3)=some [⟨false,pF g p⟩]:=by rw[e4,<-n3,pA]
 have b5:dC O5.dE (O.next+4)=some [⟨false,.int .i64 0⟩]:=by rw[e5,<-n4,pA]
 have k4:∀j,j<O.next+4->dC O6.dE j=dC O4.dE j:=fun j hj=>by rw[e6,mS (by omega),e5,nP (by omega)]
 have d1:dC O4.dE O.next=some [⟨false,.ptr p 0⟩]:=by rw[e4,nP (by omega),e3,nP (by omega),e2,nP (by omega),b1]
 have d2:dC O4.dE (O.next+1)=some ((pH c).map Cell.of):=by rw[e4,nP (by omega),e3,nP (by omega),b2]
 have d3:dC O4.dE (O.next+2)=some [⟨false,.int .i64 d⟩]:=by rw[e4,nP (by omega),b3]
 have g5:dC O6.dE (O.next+4)=some [⟨false,.int .i64 c.bs.length⟩]:=by rw[e6,rL]
 have hbx:Bx O6 p a [(O.next+1,(pH c).map Cell.of),(O.next,[⟨false,.ptr p 0⟩]),(O.next+2,[⟨false,.int .i64 d⟩]),(O.next+4,[⟨false,.int .i64 c.bs.length⟩]),(O.next+3,[⟨false,pF g p⟩])]:=by
  intro q hq;simp only[aS,aK,or_false]at hq;rcases hq with rfl|rfl|rfl|rfl|rfl
  ·exact⟨by rw[k4 _ (by show O.next+1<_;omega)];exact d2,by show O.next+1<_;omega,by show O.next+1≠_;omega,by show O.next+1≠_;omega⟩
  ·exact⟨by rw[k4 _ (by show O.next<_;omega)];exact d1,by show O.next<_;omega,by show O.next≠_;omega,by show O.next≠_;omega⟩
  ·exact⟨by rw[k4 _ (by show O.next+2<_;omega)];exact d3,by show O.next+2<_;omega,by show O.next+2≠_;omega,by show O.next+2≠_;omega⟩
  ·exact⟨g5,by show O.next+4<_;omega,by show O.next+4≠_;omega,by show O.next+4≠_;omega⟩
  ·exact⟨by rw[k4 _ (by show O.next+3<_;omega)];exact b4,by show O.next+3<_;omega,by show O.next+3≠_;omega,by show O.next+3≠_;omega⟩
 obtain⟨O7,p7,c7,f7,o7⟩:=E9 (S:=SD) rfl c6.ca (by omega) sB c.bs.length;have c7':CS O7 p O6.next m (L++[eJ sB c.bs.length]) M:=⟨c7,by rw[o7];exact c6.map,by have:=(f7 m).nx;omega⟩;have VK:=hbx.keep (f7 m);have f67:=f6.trans (f7 m)
 obtain⟨O8,a8,m8,⟨n8,w8⟩,c8,f8⟩:=ZZ (S:=SD) rfl rfl rfl c7' (dl:=dG (dW c)) (l:=dW c) (.inl rfl) (by simp[dW];omega) d (.fn (.func SX) [] [.ptr (O.next+1) 0,.ptr O.next 0,.ptr (O.next+2) 0,.ptr (O.next+4) 0,.ptr (O.next+3) 0]) SX [] [.ptr (O.next+1) 0,.ptr O.next 0,.ptr (O.next+2) 0,.ptr (O.next+4) 0,.ptr (O.next+3) 0] rfl rfl
  (go x (jE M (dW c) d 0) (fQ (d+c.bs.length)) (qU (fun b L=>lz b (jE M (dW c) d 0) (fQ (d+c.bs.length)) L) c.bs.length c.bs 0 (L++[eJ sB c.bs.length])))
  (fun τ cτ fτ=>by
   obtain⟨O',a',m',h1,h2,h3⟩:=zbsb (lz:=lz) (go:=go) hk (by omega) hlz hmo hg hgo hgm cτ (VK.keep fτ) hn;exact⟨O',a',m',_,h1,h2,h3⟩)
 refine⟨O8,a8,m8,Ev.of (n8+1) fun n hN=>?_,c8,f67.trans f8⟩;rw[fW (af:=QC) rfl rfl rfl];obtain⟨k,rfl⟩:∃k,n=k+1:=⟨n-1,by omega⟩;have w8:=w8 (k+1) (by omega);have p7:=p7 k;have hnm:=nk (S:=SD) rfl c.bs hl k O7;have hln:lenOf (lZ' c.bs)=some c.bs.length:=uK _ _;have hdl:gX iS (c.bs.map dB)=lZ' c.bs:=rfl;have u1:=(VK (O.next,[⟨false,.ptr p 0⟩]) (by simp)).1;have u2:=(VK (O.next+1,(pH c).map Cell.of) (by simp)).1;have u3:=(VK (O.next+2,[⟨false,.int .i64 d⟩]) (by simp)).1;have g1:dC O6.dE O.next=some [⟨false,.ptr p 0⟩]:=by rw[k4 _ (by omega),d1]
 have hU:=eO c;have hco:=Eh c;have hce:=Gq c;simp only[pH]at d2 u2;rw[hdl]at d2 u2;simp only[aO,aZ]at d2 u2;generalize gX gV (c.ks.map dM)=kd at *
 generalize gX jC (c.al.map dA)=ad at *
 simp only[sB]at p7;simp only[dW]at w8;simp only[vP]at hnm;have hlf:(pF g p).cells=[pF g p]:=rfl;have hlo:(pF g p).ok=true:=rfl;simp only[QC,sA,Nat.reduceAdd,Nat.reduceBEq,kn,fP,mB,<-e1,n1,hco,hce,<-e2,n2,<-e3,n3,hlf,hlo,<-e4,d2,hln,n4,<-e5,b5,<-e6,g1,g5,p7,u1,u2,u3,hnm,w8]
end Go.Fu

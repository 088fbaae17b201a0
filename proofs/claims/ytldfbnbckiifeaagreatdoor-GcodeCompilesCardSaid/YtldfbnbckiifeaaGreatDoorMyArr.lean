/- A part of the proof. -/
import Derived.Test.YtldfbnbckiifeaaGreatDoorMyMark
import Derived.Laws.MakeOwn
import Derived.Laws.CopyRow
set_option linter.all false
namespace Go.Mx
open Go
section
variable[kQ]{P:Program}{I:fU}{j:fJ}{own:gZ}{lb:fJ}{N:Nat}{e:Env}{a:Go.Act}{w:World}{O:Store}
def vG(j:fJ)(n b c:Nat):fJ:=fun i=>if i=n then some b else if i=n+1 then some c else j i
theorem zbz{n b c:Nat}(hj:∀i b,j i=some b->i<n):∀i x,j i=some x->vG j n b c i=some x:=by intro i x h;have:=hj i x h;unfold vG;rw[if_neg (by omega),if_neg (by omega)];exact h
theorem Vs{n b c:Nat}:vG j n b c n=some b/\vG j n b c (n+1)=some c:=by unfold vG;exact⟨if_pos rfl,by rw[if_neg (by omega),if_pos rfl]⟩
theorem zd5{cH:Store}{w':World}{own':gZ}{TT:Tag->Prop}{b c:Nat}{k:RowK}{cs:List Cell}(hG:eH I j own O w)
  (ho:∀id cs,dC cH.dE id=some cs->dC O.dE id=some cs/\¬TT (.obj id)/\∀(i:Nat)(c:Cell),cs[i]?=some c->c.own=true->¬TT (.uV id i))
  (ht:∀id t,dC cH.fH id=some t->dC O.fH id=some t) (hot:∀id x,dC cH.dP id=some x->dC O.dP id=some x/\¬TT (.obj id)) (hn:cH.next=O.next)
  (hE:fD I j own w I (vG j O.next b c) own' w' TT) (hob:own' b=some (.obj O.next)) (hlt:∀b t,own' b=some t->b<w'.heap.size) (hno:∀b t,own' b=some t->t.Qp=true->∀o,I b o=none)
  (hh:∀b o v,I b o=some v->w'.cell? ⟨b,o,none⟩=some v) (oD:sJ I (vG j O.next b c) own' w' b (.uV O.next) cs) {row:Array Value} (hrow:w'.heap[b]?=some (.cells row k.el (0,0))) (hsz:row.size=c*k.sz) (hmax:c<=maxLen) :
  eH I (vG j O.next b c) own' (fR cH k cs) w':=by
 have hjlt:=hG.mG;refine⟨hh,hno,fun id ds h=>?_,fun id t ds h1 h2 b' hb=>?_,fun id x h=>?_,fun id b' h=>?_,hlt⟩
 ·simp only[fR,nH,hn]at h;by_cases hid:O.next=id
  ·rw[if_pos hid]at h;cases h;subst hid;exact⟨b,Vs.1,hob,oD⟩
  ·rw[if_neg hid]at h;obtain⟨h,t1,t2⟩:=ho id ds h;obtain⟨B,q1,q2,q3⟩:=hG.dE id ds h;have hlt:=hG.jU B _ q2;exact⟨B,hE.lay _ _ q1,(hE.block B hlt (fun t h=>by rw[q2]at h;cases h;exact t1)).2.1.trans q2,hE.zB q2 t1 t2 q3⟩
 ·simp only[fR,nH,hn]at h1 h2;by_cases hid:O.next=id
  ·rw[if_pos hid]at h1;cases h1;subst hid;rw[Vs.1]at hb;cases hb;exact⟨row,hrow,fun _=>⟨c,Vs.2,hsz,hmax⟩⟩
  ·rw[if_neg hid]at h1 h2;obtain⟨h2,t1,t2⟩:=ho id ds h2;obtain⟨B,q1,q2,q3⟩:=hG.dE id ds h2;have hb':=hE.lay _ _ q1;rw[hb]at hb';cases hb';have hty:=hG.fH id t ds (ht id t h1) h2 b' q1;have hlt:=hG.jU b' _ q2;exact hty.keep (hE.block b' hlt (fun t h=>by rw[q2]at h;cases h;exact t1)).1 hE.lay
 ·obtain⟨h,t1⟩:=hot id x h;obtain⟨B,q1,q2,q3⟩:=hG.dP id x h;obtain⟨b1,b2,_⟩:=hE.block B q3.lt (fun t h=>by rw[q2]at h;cases h;exact t1);exact⟨B,hE.lay _ _ q1,b2.trans q2,q3.keep b1 hE.qY hE.lay⟩
 ·simp only[fR,hn];by_cases h1:id=O.next
  ·omega
  ·by_cases h2:id=O.next+1
   ·omega
   ·unfold vG at h;rw[if_neg h1,if_neg h2]at h;have:=hjlt id b' h;omega
theorem MC(hG:eH I j own O w){cH:Store}(ho:∀id cs,dC cH.dE id=some cs->dC O.dE id=some cs)(ht:∀id t,dC cH.fH id=some t->dC O.fH id=some t)(hot:∀id x,dC cH.dP id=some x->dC O.dP id=some x)(hn:cH.next=O.next)
  {w':World} {row:Array Value} {k:RowK} {c:Nat} (hw:w'=w.alloc (.cells row k.el)\/w'=w.drew.alloc (.cells row k.el)) {ds:List D} {vs:List Value} (hr:dV I j ds vs) (h1:∀x∈vs,x.oneCell'=true) (oH:∀(n:Nat)(y:Value),vs[n]?=some y->row[n]?=some y) (hsz:row.size=c*k.sz) (hmax:c<=maxLen) :
  ∃own',eH I (vG j O.next w.heap.size c) own' (fR cH k (ds.map Cell.of)) w'/\fD I j own w I (vG j O.next w.heap.size c) own' w' (fun _=>False):=by
 have hnew:w'.heap[w.heap.size]?=some (.cells row k.el (0,0)):=by
  rcases hw with rfl|rfl
  ·exact heap_alloc_new w _
  ·exact heap_alloc_new w.drew _
 have hold:∀b,b<w.heap.size->w'.heap[b]?=w.heap[b]?:=by
  intro b hb;rcases hw with rfl|rfl
  ·exact heap_alloc_old w _ hb
  ·exact heap_alloc_old w.drew _ hb
 have hlt':w.heap.size<w'.heap.size:=(Array.getElem?_eq_some_iff.1 hnew).1;have hE:fD I j own w I (vG j O.next w.heap.size c) (fun b=>if b=w.heap.size then some (.obj O.next)else own b) w' (fun _=>False):=(by refine⟨by rcases hw with rfl|rfl<;>rfl,by rcases hw with rfl|rfl<;>rfl,by rcases hw with rfl|rfl<;>rfl,by omega,fun _ _ _ h=>h,zbz hG.mG,fun b hb _=>⟨hold b hb,if_neg (by omega),fun _=>rfl⟩⟩);refine⟨_,zd5 hG (fun id cs h=>⟨ho id cs h,fun h=>h,fun _ _ _ _ h=>h⟩) ht (fun id x h=>⟨hot id x h,fun h=>h⟩) hn hE (if_pos rfl) (fun b t h=>?_) (fun b t h hb o=>?_) (fun b o v h=>?_) ?_ hnew hsz hmax,hE⟩
 ·by_cases hb:b=w.heap.size
  ·omega
  ·simp only[if_neg hb]at h;have:=hG.jU b t h;omega
 ·by_cases hb':b=w.heap.size
  ·cases hi:I b o with
   |none=>rfl
   |some v=>have:=Ef hG hi;omega
  ·simp only[if_neg hb']at h;exact hG.kS b t h hb o
 ·have hb:=Ef hG h;rw[World.cell?_of_block (w:=w) (w':=w') (a:=⟨b,o,none⟩) (hold b hb)];exact hG.holds b o v h
 ·refine⟨row.toList,k.el,hnew,?_,fun i cc hi=>?_⟩
  ·rw[aJ,<-hr.length];apply Nat.le_of_not_lt;intro hlt;have hl:row.toList.length<vs.length:=hlt;have:=oH row.toList.length (vs[row.toList.length]'hl) (List.getElem?_eq_getElem hl);rw[<-Array.getElem?_toList]at this;have:=(List.getElem?_eq_some_iff.1 this).1;omega
  ·rw[List.getElem?_map]at hi;cases hd:ds[i]? with
   |none=>rw[hd]at hi;cases hi
   |some d =>rw[hd]at hi;simp only[bN,aA]at hi;subst hi;obtain⟨v,hv,Za⟩:=hr.at i d hd;exact⟨v,by rw[Array.getElem?_toList];exact oH i v hv,h1 v (List.mem_of_getElem? hv),hE.rep Za,fun h=>by cases h⟩
theorem OI(hL:eI I j own lb N e a w){o:Oper}(hd:∀s,o.dst=some s->s<N){O':Store}{w':World}{own':gZ}{TT:Tag->Prop}{n b c len:Nat}{k:RowK}(hG':eH I (vG j n b c) own' O' w')(hE:fD I j own w I (vG j n b c) own' w' TT)
  (hs:∀s c,dC e.slots s=some c->c.own=true->¬TT (.slot s)) (hb:∀s cs,dC e.boxes s=some cs->¬TT (.box s)/\∀(i:Nat)(c:Cell),cs[i]?=some c->c.own=true->¬TT (.cell s i))
  (hle:len<=c) (hmax:c<=maxLen) (hrun:(execOp a.eval o).run P w=.ok (.value (.slice (some ⟨b,0,none⟩) len c)) w'):jF P N I j own w o a (e.put o.dst ⟨false,.arr k n 0 len⟩) O':=by
 refine⟨_,w',_,hrun,.inl ⟨_,rfl,rfl⟩,I,_,own',lb,hG',?_,hE.weaken fun _ _=>trivial⟩;have hL':=hL.kN hE hs hb;cases hds:o.dst with
 |none=>exact hL'
 |some s =>refine hL'.qV (hd s hds) ⟨?_,fun h=>by cases h⟩;simp only[dL];exact⟨b,c,⟨b,0,none⟩,Vs.1,Vs.2,by omega,rfl,.inr (by rw[Nat.zero_mul])⟩
theorem BJ:∀ds:List D,cellsOf ds=(ds.flatMap fun d=>d.cells).map Cell.of
 |[]=>rfl
 |d::ds=>by simp only[cellsOf,BJ ds,bE,aU]
theorem CU{sz:Nat}:∀{ds:List D}{us:List Value},jZ sz ds=true->dV I j ds us->dV I j (ds.flatMap fun d=>d.cells) (fL us)
 |[],us,_,h=>by simp only[dV]at h;subst h;simp[fL,dV]
 |d::ds,us,hs,h=>by
  simp only[dV]at h;obtain⟨x,r,rfl,h1,h2⟩:=h;simp only[jZ,aC,beq_iff_eq]at hs;obtain⟨⟨hok,hn⟩,hs⟩:=hs;have:=(h1.Gu hok).1.append (CU hs h2);simpa[fL]using this
theorem zta(hG:eH I j own O w)(hL:eI I j own lb N e a w){o:Oper}{t:TypeId}{k:RowK}{len:Nat}{parts:Array (Nat×Operand)}{qs:List dS}{zs:List Value}{ds:List D}(ho:o.op=.buildSlice t len parts)
  (hd:∀s,o.dst=some s->s<N) (hk:Ld 0 parts.toList qs=true) (hlen:len=qs.length) (ht:nF P t=some k.el) (hsz:jV P k.el=some k.sz) (hz:rQ P k.el=some zs) (hzl:zs.length=k.sz) (hpos:0<k.sz)
  (hds:oI e qs=some ds) (hall:jZ k.sz ds=true) (hsm:ds.length*k.sz<=16777216):jF P N I j own w o a (e.put o.dst ⟨false,.arr k O.next 0 ds.length⟩) (fR O k (cellsOf ds)):=by
 obtain⟨xs,hx,hp⟩:=YN hL hk hds;obtain⟨x1,x2⟩:=Zy hall hx;obtain⟨ie,z,i1,i2,i3,i4⟩:=E5 hsz hz;have hxl:=hx.length;have hu:=uF ht;have hparts:(parts.map fun(i,x)=>(i,a.eval x)).toList=(xs.zipIdx 0).map fun x=>(x.2,x.1):=by
  rw[<-hp,Array.toList_map]
 have hzc:z.cells.size=ie.size:=by rw[<-Array.length_toList,i4,hzl,i2]
 obtain⟨cur,c1,c2,c3⟩:=zb (w:=w) t k.el xs _ ie z hu i1 i3 hzc (by omega) (by rw[i2];exact x1) (by rw[hxl,i2];exact hsm) hparts;have hll:len=ds.length:=by rw[hlen,WR hds]
 rw[hxl]at c1;have hmax:ds.length<=maxLen:=by
  have:ds.length<=ds.length*k.sz:=Nat.le_mul_of_pos_right _ hpos;simp only[maxLen];omega
 rw[BJ];obtain⟨own',k1,k2⟩:=MC hG (cH:=O) (fun _ _ h=>h) (fun _ _ h=>h) (fun _ _ h=>h) rfl (.inl rfl) (CU hall hx) x2 c3 (c:=ds.length) (by rw[c2,hxl,i2]) hmax;refine OI hL hd k1 k2 (fun _ _ _ _ h=>h) (fun _ _ _=>⟨fun h=>h,fun _ _ _ _ h=>h⟩) (aM _) hmax ?_;simp only[execOp,ho,hll,Sem.run_bind];rw[c1];rfl
theorem OB(z:List D):∀n,Ce z n=((List.replicate n z).flatMap id).map Cell.of
 |0=>rfl
 |n+1=>by simp only[Ce,OB z n,List.replicate_succ,bE,aU,id]
theorem NZ{z:List D}{zs:List Value}(h:dV I j z zs):∀n,dV I j ((List.replicate n z).flatMap id) ((List.replicate n zs).flatMap id)
 |0=>by simp[dV]
 |n+1=>by
  simp only[List.replicate_succ,bE,id];exact h.append (NZ h n)
theorem Wq{α:Type}(zs:List α):∀(n i:Nat)(y:α),((List.replicate n zs).flatMap id)[i]?=some y->i<n*zs.length/\zs[i%zs.length]?=some y
 |0,i,y,h=>by simp at h
 |n+1,i,y,h=>by
  simp only[List.replicate_succ,bE,id]at h;by_cases hi:i<zs.length
  ·rw[List.getElem?_append_left hi]at h;refine⟨by rw[Nat.add_mul];omega,?_⟩;rw[Nat.mod_eq_of_lt hi];exact h
  ·rw[List.getElem?_append_right (by omega)]at h;obtain⟨h1,h2⟩:=Wq zs n (i-zs.length) y h;refine⟨by rw[Nat.add_mul];omega,?_⟩;rw[Nat.mod_eq_sub_mod (by omega)];exact h2
theorem LG{α:Type}(zs:List α):∀n,((List.replicate n zs).flatMap id).length=n*zs.length
 |0=>by simp
 |n+1=>by simp only[List.replicate_succ,bE,id,aF,LG zs n,Nat.add_mul];omega
theorem zwq(hG:eH I j own O w)(hL:eI I j own lb N e a w){o:Oper}{t:TypeId}{k:RowK}{fG l:Nat}{x y:Operand}{x' y':dS}{z:List D}{zs:List Value}{c d:Cell}(ho:o.op=.makeSlice t x y)
  (hd:∀s,o.dst=some s->s<N) (hk:dT x x'=true) (hk1:dT y y'=true) (ht:nF P t=some k.el) (hsz:jV P k.el=some k.sz) (hz:rQ P k.el=some zs) (hzl:zs.length=k.sz) (hpos:0<k.sz) (As:xA z zs=true) (hby:uP P k.el=some fG)
  (hc:eE e x'=some c) (hcd:eE e y'=some d) (h1:c.d.nat?=some l) (h2:d.d.nat?=some l) (hb1:l*fG<=iN) (hb2:l<=iN):jF P N I j own w o a (e.put o.dst ⟨false,.arr k O.next 0 l⟩) (fR O k (Ce z l)):=by
 obtain⟨k1,hx⟩:=Ks h1 (gW hL hk hc);obtain⟨k2,hy⟩:=Ks h2 (gW hL hk1 hcd);obtain⟨ie,zv,i1,i2,i3,i4⟩:=E5 hsz hz;have hu:=uF ht;have Yk:ie.bytes=fG:=by simpa[uP,i1]using hby
 have hb1':l*fG<=1099511627776:=hb1;have hb2':l<=1099511627776:=hb2
 have hrun:=run_make (P:=P) w t k.el ie zv hu i1 i3 k1 k2 l l (by omega) (by omega) (by rw[Yk,Int.mul_comm];have:((l*fG:Nat):Int)<=1099511627776:=by omega
                                                                                        rw[Int.natCast_mul]at this;omega) (by omega)
 simp only[Int.toNat_natCast]at hrun;obtain⟨z1,z2⟩:=Om I j z zs As;rw[OB];have hvs:∀v∈(List.replicate l zs).flatMap id,v.oneCell'=true:=by
  intro v hv;obtain⟨i,hi⟩:=List.getElem?_of_mem hv;exact z2 v (List.mem_of_getElem? (Wq zs l i v hi).2)
 have hcells:zv.cells=zs.toArray:=by rw[<-i4]
 obtain⟨own',q1,q2⟩:=MC hG (cH:=O) (fun _ _ h=>h) (fun _ _ h=>h) (fun _ _ h=>h) rfl (.inl rfl) (NZ z1 l) hvs (row:=madeCells zv.cells (l*ie.size)) (fun n y hn=>by
  obtain⟨q1,q2⟩:=Wq zs l n y hn;rw[i2,<-hzl];unfold madeCells;rw[hcells];simp only[Array.getElem?_map,Array.getElem?_range,q1,if_true,bN,List.size_toArray];have hlt:=(List.getElem?_eq_some_iff.1 q2).1;rw[List.getElem!_toArray,List.getElem!_eq_getElem?_getD,q2];rfl) (c:=l) (by rw[size_madeCells,i2]) (by simp only[maxLen];omega)
 refine OI hL hd q1 q2 (fun _ _ _ _ h=>h) (fun _ _ _=>⟨fun h=>h,fun _ _ _ _ h=>h⟩) (aM _) (by simp only[maxLen];omega) ?_;simp only[execOp,ho,hx,hy,Sem.run_bind];rw[hrun];rfl
theorem zav(hG:eH I j own O w)(hL:eI I j own lb N e a w){o:Oper}{t:TypeId}{k:RowK}{fG:Nat}{x y:Operand}{x' y':dS}{zs:List Value}{c d:Cell}{ys:List D}{r:D×Store}
  (ho:o.op=.call {callee:=.builtin .append,args:=⟨[x,y]⟩,argTypes:=⟨[t,t]⟩}) (hd:∀s,o.dst=some s->s<N) (hk:dT x x'=true) (hk1:dT y y'=true)
  (ht:nF P t=some k.el) (hsz:jV P k.el=some k.sz) (hz:rQ P k.el=some zs) (hzl:zs.length=k.sz) (hpos:0<k.sz) (hby:uP P k.el=some fG)
  (hc:eE e x'=some c) (hcd:eE e y'=some d) (hys:nB O.dE d.d=some ys) (hr:lR O k fG c.d ys=some r):jF P N I j own w o a (e.put o.dst ⟨false,r.1⟩) r.2:=by
 unfold lR at hr;obtain⟨hall,hr⟩:=gQ hr;have hu:=uF ht;obtain⟨us,hyu,sR,hu1,hsrc⟩:=zb0 hG hu (gW hL hk1 hcd) hys hall;obtain⟨ie,z,i1,i2,i3,i4⟩:=E5 hsz hz;have Yk:ie.bytes=fG:=by simpa[uP,i1]using hby
 have hx:=gW hL hk hc;rw[<-i2]at hsrc;have yS:=hyu.length;have hfl:(fL us).length=ys.length*k.sz:=by rw[Bc sR,yS]
 have oL:∀v w',(Builtin.append_ #[t,t] o.type #[a.eval x,a.eval y]).run P w=.ok v w'->(execOp a.eval o).run P w=.ok (.value v) w':=(by intro v w' h;simp only[execOp,ho,resolve,invoke,builtin,Sem.run_bind,Sem.run_pure,Result.andThen_ok,List.map_toArray,aO,aZ,h]);have same:∀{base:Option Addr}{sLen sCap:Nat},a.eval x=.slice base sLen sCap->sLen<=sCap->ys=[]->(execOp a.eval o).run P w=.ok (.value (a.eval x)) w:=by
  intro base sLen sCap hv hle hye;refine oL _ _ ?_;rw[hv];subst hye;have hu0:us=[]:=by simpa only[dV]using hyu
  subst hu0;exact zi (P:=P) (w:=w) t t o.type k.el ie hu i1 base sLen sCap hle _ hsrc
 have stay:∀{base:Option Addr},a.eval x=.slice base 0 0->ys=[]->r=(c.d,O)->jF P N I j own w o a (e.put o.dst ⟨false,r.1⟩) r.2:=by
  rintro base hv hye rfl;refine⟨_,w,_,same hv (aM _) hye,.inl ⟨_,rfl,rfl⟩,I,j,own,lb,hG,?_,fD.refl _ _ _ _ _⟩;cases hds:o.dst with
  |none=>exact hL
  |some s=>exact hL.qV (hd s hds) ⟨hx,fun h=>by cases h⟩
 have grow:∀{base:Option Addr}{n cap:Nat}{ds:List D}{vs:List Value}{cH:Store},a.eval x=.slice base n cap->(Builtin.firstCells ie.size n (.slice base n cap)).run P w.drew=.ok vs.toArray w.drew->dV I j ds vs->(∀x∈vs,x.oneCell'=true)->vs.length=n*k.sz->n<=cap->¬n+ys.length<=cap ->
   (∀id cs,dC cH.dE id=some cs->dC O.dE id=some cs)->cH.fH=O.fH->cH.dP=O.dP->cH.next=O.next->(n+ys.length)*fG<=iN->n+ys.length<=iN ->
   jF P N I j own w o a (e.put o.dst ⟨false,.arr k O.next 0 (n+ys.length)⟩) (fR cH k (ds.map Cell.of++cellsOf ys)):=by
  intro base n cap ds vs cH hv zF hds h1 hvl hle hroom s1 s2 s3 s4 hb1 hb2;have hb1':(n+ys.length)*fG<=1099511627776:=hb1;have hb2':n+ys.length<=1099511627776:=hb2;have hfit:Builtin.nextslicecap (n+ys.length) cap*ie.bytes<=281474976710656:=growslice_fits (by omega) (by rw[Yk];omega);have hcapge:n+ys.length<=grownCap w (n+ys.length) cap k.el:=grownCap_ge w _ _ _;have Jx:grownCap w (n+ys.length) cap k.el<=maxLen:=grownCap_le_maxLen w _ _ _ (by simp only[maxLen];omega)
  have hrun:=oL _ _ (by
   rw[hv];exact run_append_grow_src (P:=P) w t t o.type k.el ie z hu i1 i3 base n cap vs zF _ ys.length (fL us) hsrc (by omega) (by omega) hfit)
  have hrep:dV I j (ds++ys.flatMap fun d=>d.cells) (vs++fL us):=hds.append (CU hall hyu);have hcells:ds.map Cell.of++cellsOf ys=(ds++ys.flatMap fun d=>d.cells).map Cell.of:=by rw[BJ,aU]
  rw[hcells]
  obtain⟨own',q1,q2⟩:=MC hG (cH:=cH) s1 (fun id t h=>by rw[<-s2];exact h) (fun id x h=>by rw[<-s3];exact h) s4 (.inr rfl) hrep (fun x hx=>by
   rcases bJ.1 hx with h|h
   ·exact h1 x h
   ·exact hu1 x h) (row:=(vs++fL us).toArray++Builtin.zeroCells z.cells (grownCap w (n+ys.length) cap k.el-(n+ys.length))) (fun i y hi=>by
   have hlt:=(List.getElem?_eq_some_iff.1 hi).1;rw[Array.getElem?_append_left (by simpa using hlt)];simpa using hi) (c:=grownCap w (n+ys.length) cap k.el) (by
   rw[Array.size_append,Zw i4 hzl,List.size_toArray,aF,hfl,hvl,<-Nat.add_mul,<-Nat.add_mul];congr 1;omega) Jx
  exact OI hL hd q1 q2 (fun _ _ _ _ h=>h) (fun _ _ _=>⟨fun h=>h,fun _ _ _ _ h=>h⟩) hcapge Jx hrun
 have fresh:∀{base:Option Addr},a.eval x=.slice base 0 0->ys≠[]->ys.length*fG<=iN->ys.length<=iN->jF P N I j own w o a (e.put o.dst ⟨false,.arr k O.next 0 ys.length⟩) (fR O k (cellsOf ys)):=by
  intro base hv hye hb1 hb2;have hl:0<ys.length:=List.length_pos_iff.2 hye
  have:=grow (ds:=[]) (vs:=[]) (cH:=O) hv (by
   cases base with
   |none=>exact run_firstCells_none _ _ _ _ _
   |some ad=>exact run_firstCells_some (P:=P) w.drew ie.size 0 ad 0 0 [] (by simp) (by simp)) (by simp only[dV]) (by simp) (by simp) (aM 0) (by omega) (fun _ _ h=>h) rfl rfl rfl (by simpa using hb1) (by simpa using hb2)
  simpa using this
 cases lY:c.d with
 |dN =>
  rw[lY]at hr;have hv:a.eval x=.slice none 0 0:=by rw[lY]at hx;simpa only[dL]using hx
  simp only at hr;cases he:ys.isEmpty with
  |true =>rw[he,dQ]at hr;simp only[aA]at hr;exact stay hv (List.isEmpty_iff.1 he) (by rw[lY];exact hr.symm)
  |false =>rw[he,dX]at hr;obtain⟨hb,hr⟩:=gQ hr;cases hr;simp only[aC,cE]at hb;exact fresh hv (by rintro rfl;cases he) hb.1 hb.2
 |mV =>
  rw[lY]at hr;obtain⟨ad,hv⟩:∃ad,a.eval x=.slice ad 0 0:=by rw[lY]at hx;simpa only[dL]using hx
  simp only at hr;cases he:ys.isEmpty with
  |true =>rw[he,dQ]at hr;simp only[aA]at hr;exact stay hv (List.isEmpty_iff.1 he) (by rw[lY];exact hr.symm)
  |false =>rw[he,dX]at hr;obtain⟨hb,hr⟩:=gQ hr;cases hr;simp only[aC,cE]at hb;exact fresh hv (by rintro rfl;cases he) hb.1 hb.2
 |arr k' id off n =>
  rw[lY]at hr;simp only at hr;obtain⟨cs,h1,hr⟩:=dJ hr;obtain⟨ty,h2,hr⟩:=dJ hr;obtain⟨hb,hr⟩:=gQ hr;cases hr;simp only[aC,cE,beq_iff_eq]at hb;obtain⟨⟨⟨⟨⟨⟨b1,b2⟩,b3⟩,b4⟩,b5⟩,b6⟩,b7⟩:=hb;subst b4;have b1:=RowK.same_eq b1;rw[lY]at hx;simp only[dL]at hx;obtain⟨b,cap,ad,r1,r2,r3,hv,r4⟩:=hx;obtain⟨r3,_⟩:=r3;rw[aN]at r3;rw[Nat.sub_zero]at hv;obtain⟨B,q1,q2,q3⟩:=hG.dE id cs h1;rw[r1]at q1;cases q1;obtain⟨row,hrow,hcap⟩:=hG.fH id ty cs h2 h1 b r1;obtain⟨cap',hc1,hrs,hmax⟩:=hcap (by omega);rw[r2]at hc1;cases hc1;rw[b2]at hrow;rw[b3]at hrs;obtain⟨vs,T,g1,g2,g3,g4⟩:=q3.si;rw[hrow]at g1;simp only[aA,Obj.cells.injEq,and_true]at g1;obtain⟨rfl,rfl⟩:=g1;have UO:vs.length=cap*k.sz:=hrs;have hcl:=g3.length;simp only[aJ]at hcl;have g3':dV I j ((cs.take (n*k.sz)).map fun c=>c.d) (vs.take (n*k.sz)):=dV.of (by simp;omega) fun i dd hi=>by
   rw[List.getElem?_map,List.getElem?_take]at hi;split at hi
   ·rename_i hlt;obtain⟨v,k1,k2⟩:=g3.at i dd (by rw[List.getElem?_map];exact hi);rw[List.getElem?_take]at k1;split at k1
    ·exact⟨v,by rw[List.getElem?_take,if_pos hlt];exact k1,k2⟩
    ·cases k1
   ·cases hi
  have hmap:(cs.take (n*k.sz)).map (fun c=>Cell.of c.d)=((cs.take (n*k.sz)).map fun c=>c.d).map Cell.of:=by simp only[cD,Function.comp_def]
  have hone:∀x∈vs.take (n*k.sz),x.oneCell'=true:=fun x hx=>by
   refine g4 x ?_;have:vs.take (n*k.sz)=(vs.take cs.length).take (n*k.sz):=by rw[List.take_take,Nat.min_eq_left b5]
   rw[this]at hx;exact bH hx
  by_cases hroom:n+ys.length<=cap
  ·
   have hjn:∀i b,j i=some b->i<O.next:=hG.mG
   have zE:∀{w':World}{JU:Addr}{row':Array Value},(execOp a.eval o).run P w=.ok (.value (.slice (some JU) (n+ys.length) cap)) w'->(0=cap\/JU=⟨b,0,none⟩)->w'=w.setRow b row'->row'.size=cap*k.sz ->
     (∀(i:Nat)(y:Value),(vs.take (n*k.sz)++fL us)[i]?=some y->row'[i]?=some y) ->
     jF P N I j own w o a (e.put o.dst ⟨false,.arr k O.next 0 (n+ys.length)⟩) (fR {O with dE:=gI O.dE id} k ((cs.take (n*k.sz)).map (fun c=>Cell.of c.d)++cellsOf ys)):=by
    intro w' JU row' hrun had hw' hsize hat;have hnew:w'.heap[b]?=some (.cells row' k.el (0,0)):=hw'▸setRow_heap w b _ _ k.el (0,0) hrow;have hoth:∀b',b'≠b->w'.heap[b']?=w.heap[b']?:=fun b' hb'=>hw'▸setRow_other w b b' _ hb';have hws:w'.heap.size=w.heap.size:=by rw[hw'];simp[World.setRow]
    have hE:fD I j own w I (vG j O.next b cap) (fun x=>if x=b then some (.obj O.next)else own x) w' (fun t=>t=.obj id):=(by refine⟨by rw[hw'];rfl,by rw[hw'];rfl,by rw[hw'];rfl,by omega,fun _ _ _ h=>h,zbz hG.mG,fun b' _ hb'=>?_⟩;have hne:b'≠b:=fun e=>hb' _ (e▸q2) rfl;exact⟨hoth b' hne,if_neg hne,fun _=>rfl⟩);rw[hmap,BJ,<-aU];have hrep:dV I (vG j O.next b cap) (((cs.take (n*k.sz)).map fun c=>c.d)++ys.flatMap fun d=>d.cells) (vs.take (n*k.sz)++fL us):=hE.Nj (g3'.append (CU hall hyu))
    have hG':=zd5 (cH:={O with dE:=gI O.dE id}) (b:=b) (c:=cap) (k:=k) (cs:=(((cs.take (n*k.sz)).map fun c=>c.d)++ys.flatMap fun d=>d.cells).map Cell.of) hG (fun id' cs' h=>by
      simp only[mK]at h;split at h
      ·cases h
      ·rename_i hne;exact⟨h,fun h=>by cases h;exact hne rfl,fun _ _ _ _ h=>by cases h⟩) (fun _ _ h=>h) (fun id' x h=>⟨h,fun hh=>by
      cases hh;obtain⟨B,k1,_,k3⟩:=hG.dP id x h;rw[r1]at k1;cases k1;exact k3.Jt hrow⟩) rfl hE (if_pos rfl) (fun b' t h=>by
      by_cases hb':b'=b
      ·subst hb';rw[hws];exact hG.jU b' _ q2
      ·simp only[if_neg hb']at h;rw[hws];exact hG.jU b' t h) (fun b' t h hb' o'=>by
      by_cases hbb:b'=b
      ·subst hbb;exact hG.kS b' _ q2 rfl o'
      ·simp only[if_neg hbb]at h;exact hG.kS b' t h hb' o') (fun b' o' v h=>by
      have hne:b'≠b:=fun e=>by
       rw[e,hG.kS b _ q2 rfl o']at h;cases h
      rw[World.cell?_of_block (w:=w) (w':=w') (a:=⟨b',o',none⟩) (hoth b' hne)];exact hG.holds b' o' v h) ⟨row'.toList,k.el,hnew,by
       have hl1:=hrep.length;rw[aJ,<-hl1];apply Nat.le_of_not_lt;intro hlt;have:=hat row'.toList.length _ (List.getElem?_eq_getElem hlt);rw[<-Array.getElem?_toList]at this;have:=(List.getElem?_eq_some_iff.1 this).1;omega,fun i cc hi=>by
       rw[List.getElem?_map]at hi;cases hdd:(((cs.take (n*k.sz)).map fun c=>c.d)++ys.flatMap fun d=>d.cells)[i]? with
       |none=>rw[hdd]at hi;cases hi
       |some dd =>
        rw[hdd]at hi;simp only[bN,aA]at hi;subst hi;obtain⟨v,hv',Za⟩:=hrep.at i dd hdd
        exact⟨v,by rw[Array.getElem?_toList];exact hat i v hv',(by
         rcases bJ.1 (List.mem_of_getElem? hv')with h|h
         ·exact hone v h
         ·exact hu1 v h),Za,fun h=>by cases h⟩⟩ hnew hsize hmax
    refine⟨_,w',_,hrun,.inl ⟨_,rfl,rfl⟩,I,_,_,lb,hG',?_,hE.weaken fun _ _=>trivial⟩;have hL':=hL.kN hE (fun _ _ _ _ h=>by cases h) (fun _ _ _=>⟨(fun h=>by cases h),(fun _ _ _ _ h=>by cases h)⟩);cases hds:o.dst with
    |none=>exact hL'
    |some s =>refine hL'.qV (hd s hds) ⟨?_,fun h=>by cases h⟩;simp only[dL];refine⟨b,cap,JU,Vs.1,Vs.2,by omega,rfl,?_⟩;rw[Nat.zero_mul];exact had
   rcases r4 with h0|rfl
   ·
    have hn0:n=0:=by omega
    have hy0:ys=[]:=bL (by omega);have hrun:=same hv r3 hy0;rw[hv]at hrun;subst hn0 hy0;have hu0:us=[]:=by simpa only[dV]using hyu
    subst hu0;have:=zE (w':=w) (JU:=ad) (row':=⟨vs⟩) hrun (.inl h0) (setRow_self w b ⟨vs⟩ k.el (0,0) hrow).symm hrs (fun i y hi=>by simp[fL]at hi);simpa using this
   ·have GL:n*k.sz+(fL us).length<=(⟨vs⟩:Array Value).size:=(by show _<=vs.length;rw[hfl,UO,<-Nat.add_mul];exact Nat.mul_le_mul_right _ hroom);rw[Nat.zero_mul]at hv
    have hrun:=oL _ _ (by
     rw[hv];exact za (P:=P) t t o.type k.el k.el ie hu i1 b n cap ⟨vs⟩ hrow _ ys.length (fL us) hsrc hroom (by rw[i2];exact GL))
    have zotb:n*k.sz+(fL us).length<=vs.length:=GL;refine zE hrun (.inr rfl) (by rw[i2]) (row':=(vs.take (n*k.sz)++fL us++vs.drop (n*k.sz+(fL us).length)).toArray) ?_ (fun i y hi=>?_)
    ·rw[<-UO];simp only[List.size_toArray,aF,bI,List.length_drop];omega
    ·have hlt:=(List.getElem?_eq_some_iff.1 hi).1;rw[List.getElem?_toArray,List.getElem?_append_left hlt];exact hi
  ·
   rw[hmap];refine grow (base:=some ad) (vs:=vs.take (n*k.sz)) hv ?_ g3' hone (by rw[bI,UO];exact Nat.min_eq_left (Nat.mul_le_mul_right _ r3)) r3 hroom (fun id' cs' h=>?_) rfl rfl rfl b6 b7
   ·have hvl:(vs.take (n*k.sz)).length=n*ie.size:=by rw[bI,UO,i2];exact Nat.min_eq_left (Nat.mul_le_mul_right _ r3)
    refine run_firstCells_some (P:=P) w.drew ie.size n ad n cap _ hvl (fun i u hi=>?_);rcases r4 with h0|rfl
    ·have hn0:n=0:=by omega
     subst hn0;simp at hi
    ·rw[Nat.zero_mul,Addr.add_lit,aN];have zk8b:w.drew.cell? ⟨b,i,none⟩=w.cell? ⟨b,i,none⟩:=rfl;rw[zk8b,cell_of_row w b i _ _ (0,0) hrow];rw[List.getElem?_take]at hi;split at hi
     ·simpa using hi
     ·cases hi
   ·simp only[mK]at h;split at h
    ·cases h
    ·exact h
 |_=>rw[lY]at hr;simp only[reduceCtorEq]at hr
theorem zyu(hG:eH I j own O w){d:D}{v:Value}{sz:Nat}{ys:List D}(hr:dL I j d v)(hy:nB O.dE d=some ys)(hall:jZ sz ys=true) :
  ∃ad cap us,v=.slice ad ys.length cap/\dV I j ys us/\(∀x∈us,x.cells.size=sz)/\(∀u∈fL us,u.oneCell'=true)/\(ys=[]\/∃b o,ad=some ⟨b,o,none⟩/\∀(n:Nat)(u:Value),(fL us)[n]?=some u->w.cell? ⟨b,o+n,none⟩=some u):=by
 have main:∀{d':D},nK d'=some ys->dL I j d' v->∃ad cap us,v=.slice ad ys.length cap/\dV I j ys us/\(∀x∈us,x.cells.size=sz)/\(∀u∈fL us,u.oneCell'=true)/\(ys=[]\/∃b o,ad=some ⟨b,o,none⟩/\∀(n:Nat)(u:Value),(fL us)[n]?=some u->w.cell? ⟨b,o+n,none⟩=some u):=(by intro d' hy hr;obtain⟨Z0,Ig,us,hyv,hyu,sR,hu1,hyl⟩:=zda hr hy hall;exact⟨Z0,Ig,us,hyv,hyu,sR,hu1,hyl.imp id fun⟨b,o,h1,h2⟩=>⟨b,o,h1,fun n u h=>hG.holds _ _ _ (h2 n u h)⟩⟩);cases d with
 |arr k id off len =>
  simp only[nB]at hy;obtain⟨cs,hc,hy⟩:=dJ hy;obtain⟨hb,hy⟩:=gQ hy;cases hy;simp only[aC,cE]at hb;obtain⟨b,us,e1,_,e2,e3,e4⟩:=YE hG hb.1 hc hb.2;obtain⟨s1,s2⟩:=Zy hall e2;simp only[dL]at hr;obtain⟨b',c,ad,r1,r2,r3,rfl,r4⟩:=hr;rw[e1]at r1;cases r1;refine⟨some ad,c-off,us,by rw[e3],e2,s1,s2,?_⟩;rcases r4 with rfl|rfl
  ·have hlen:len=0:=by omega
   exact .inl (bL (by omega))
  ·exact .inr ⟨b,_,rfl,e4⟩
 |_=>simp only[nB]at hy;exact main hy hr
theorem zh4(hG:eH I j own O w){id B off:Nat}{cs:List Cell}{ds:List D}{us:List Value}(hcs:dC O.dE id=some cs)(hB:j id=some B)(hr:dV I j ds us)(h1:∀x∈us,x.oneCell'=true)(hle:off+ds.length<=cs.length) :
  ∃(cur:Array Value)(T:TypeId),w.heap[B]?=some (.cells cur T (0,0))/\off+us.length<=cur.size/\eH I j own {O with dE:=fF O.dE id (putCells cs off (ds.map Cell.of))} (w.setRow B (cur.toList.take off++us++cur.toList.drop (off+us.length)).toArray) /\
   fD I j own w I j own (w.setRow B (cur.toList.take off++us++cur.toList.drop (off+us.length)).toArray) (fun u=>u=.obj id):=by
 obtain⟨B',hB',hown,oD⟩:=hG.dE id cs hcs;rw[hB]at hB';cases hB';have hlen:=hr.length
 obtain⟨cur,T,oH,hfit,hnew⟩:=LJ oD (us:=us) (new:=ds.map Cell.of) (off:=off) (by simpa using hle) (by simpa using hlen) (fun i c' hi=>by
  rw[List.getElem?_map]at hi;cases hd:ds[i]? with
  |none=>rw[hd]at hi;cases hi
  |some d =>
   rw[hd]at hi;simp only[bN,aA]at hi;subst hi;obtain⟨u,q1,q2⟩:=hr.at i d hd;exact⟨u,q1,h1 u (List.mem_of_getElem? q1),q2,fun how=>by cases how⟩) (fun i c' u hi how h w' hw'=>On (by rw[hown];intro h;cases h) hw' h)
 refine⟨cur,T,oH,hfit,?_⟩;generalize hw':w.setRow B _=w' at hnew;have hE2:fD I j own w I j own w' (fun u=>u=.obj id):=hw'▸MF oH _ hown;refine⟨?_,hE2⟩;refine⟨fun b' o' v h=>?_,hG.kS,fun id' cs' h=>?_,fun id' t' cs' h1 h2 b' hb'=>?_,fun id' x' h=>?_,hG.mG,fun b' u h=>aP (hG.jU b' u h) hE2.size⟩
 ·have hne:b'≠B:=fun e=>by
   rw[e,hG.kS B _ hown rfl o']at h;cases h
  rw[<-hw',cell_setRow_other w B _ _ hne];exact hG.holds b' o' v h
 ·simp only[jM]at h;by_cases hid:id=id'
  ·subst hid;rw[if_pos rfl]at h;cases h;exact⟨B,hB,hown,hnew⟩
  ·rw[if_neg hid]at h;obtain⟨B2,q1,q2,q3⟩:=hG.dE id' cs' h;exact⟨B2,q1,q2,hE2.zB q2 (fun h=>by cases h;exact hid rfl) (fun _ _ _ _ h=>by cases h) q3⟩
 ·have hex:∃cs0,dC O.dE id'=some cs0:=by
   simp only[jM]at h2;split at h2
   ·rename_i hh;subst hh;exact⟨cs,hcs⟩
   ·exact⟨cs',h2⟩
  obtain⟨cs0,JM⟩:=hex;have hty:=hG.fH id' t' cs0 h1 JM b' hb';by_cases yQ:b'=B
  ·subst yQ;obtain⟨row,hrow,hsz⟩:=hty;have hrc:=hrow;rw[oH]at hrc;cases hrc;refine⟨_,hw'▸setRow_heap w b' _ _ t'.t (0,0) hrow,fun h0=>?_⟩;obtain⟨c0,e1,e2,e3⟩:=hsz h0;refine⟨c0,e1,?_,e3⟩;rw[<-e2];simp only[List.size_toArray,aF,bI,List.length_drop,Array.length_toList];omega
  ·exact hty.keep (by rw[<-hw',setRow_other w B b' _ yQ]) (fun _ _ h=>h)
 ·obtain⟨B2,q1,q2,q3⟩:=hG.dP id' x' h;have yQ:B2≠B:=fun e=>by
   subst e;exact q3.Jt oH
  exact⟨B2,q1,q2,q3.keep (by rw[<-hw',setRow_other w B B2 _ yQ]) (fun _ _ _ h=>h) (fun _ _ h=>h)⟩
theorem zb4(hG:eH I j own O w)(hL:eI I j own lb N e a w){o:Oper}(hd:∀s,o.dst=some s->s<N){id B off:Nat}{cs:List Cell}{ds:List D}{us:List Value}(hcs:dC O.dE id=some cs)(hB:j id=some B)(hr:dV I j ds us)(h1:∀x∈us,x.oneCell'=true)(hle:off+ds.length<=cs.length)
  {r:D} {v:Value} (hv:dL I j r v) (hrun:∀(cur:Array Value)(T:TypeId),w.heap[B]?=some (.cells cur T (0,0))->off+us.length<=cur.size->(execOp a.eval o).run P w=.ok (.value v) (w.setRow B (cur.toList.take off++us++cur.toList.drop (off+us.length)).toArray)) :
  jF P N I j own w o a (e.put o.dst ⟨false,r⟩) {O with dE:=fF O.dE id (putCells cs off (ds.map Cell.of))}:=by
 obtain⟨cur,T,h2,h3,h4,h5⟩:=zh4 hG hcs hB hr h1 hle;refine⟨_,_,_,hrun cur T h2 h3,.inl ⟨_,rfl,rfl⟩,I,j,own,lb,h4,?_,h5.weaken fun _ _=>trivial⟩;have hL':=hL.kN h5 (fun _ _ _ _ h=>by cases h) (fun _ _ _=>⟨(fun h=>by cases h),(fun _ _ _ _ h=>by cases h)⟩);cases hds:o.dst with
 |none=>exact hL'
 |some s=>exact hL'.qV (hd s hds) ⟨hv,fun h=>by cases h⟩
theorem YC(hG:eH I j own O w)(hL:eI I j own lb N e a w){o:Oper}(hd:∀s,o.dst=some s->s<N){r:D}{v:Value}(hv:dL I j r v)(hrun:(execOp a.eval o).run P w=.ok (.value v) w):jF P N I j own w o a (e.put o.dst ⟨false,r⟩) O:=by
 refine⟨_,_,_,hrun,.inl ⟨_,rfl,rfl⟩,I,j,own,lb,hG,?_,fD.refl _ _ _ _ _⟩;cases hds:o.dst with
 |none=>exact hL
 |some s=>exact hL.qV (hd s hds) ⟨hv,fun h=>by cases h⟩
theorem dV.take(n:Nat){ds:List D}{vs:List Value}(h:dV I j ds vs):dV I j (ds.take n) (vs.take n):=dV.of (by simp[h.length]) fun i d hi=>by
 rw[List.getElem?_take]at hi ⊢;split at hi
 ·rename_i hlt;rw[if_pos hlt];exact h.at i d hi
 ·cases hi
theorem zae{sz:Nat}:∀{ds:List D}(n:Nat),jZ sz ds=true->jZ sz (ds.take n)=true
 |[],n,_=>by simp[jZ]
 |d::ds,0,_=>by simp[jZ]
 |d::ds,n+1,h=>by
  simp only[List.take_succ_cons,jZ,aC]at h ⊢;exact⟨h.1,zae n h.2⟩
theorem YF{sz:Nat}:∀{us:List Value}(n:Nat),(∀x∈us,x.cells.size=sz)->fL (us.take n)=(fL us).take (n*sz)
 |[],n,_=>by simp[fL]
 |u::us,0,_=>by simp[fL]
 |u::us,n+1,h=>by
  have ih:=YF (us:=us) n fun x hx=>h x (by simp[hx]);have hu:=h u (by simp);simp only[fL,List.take_succ_cons,bE]at ih ⊢;rw[ih,List.take_append,Array.length_toList,hu,List.take_of_length_le (l:=u.cells.toList) (by rw[Array.length_toList,hu,Nat.add_mul];omega),Nat.add_mul,Nat.one_mul,Nat.add_sub_cancel]
theorem zwm(hG:eH I j own O w)(hL:eI I j own lb N e a w){o:Oper}{t t' el el':TypeId}{sz:Nat}{x y:Operand}{x' y':dS}{c d:Cell}{ys:List D}{r:Nat×Store}
  (ho:o.op=.call {callee:=.builtin .copy,args:=⟨[x,y]⟩,argTypes:=⟨[t,t']⟩}) (hd:∀s,o.dst=some s->s<N) (hk:dT x x'=true) (hk1:dT y y'=true)
  (ht:nF P t=some el) (ht':nF P t'=some el') (hsz:jV P el=some sz)
  (hc:eE e x'=some c) (hcd:eE e y'=some d) (hys:nB O.dE d.d=some ys) (hr:jf O sz c.d ys=some r):jF P N I j own w o a (e.put o.dst ⟨false,.int .i64 r.1⟩) r.2:=by
 have hu:=uF ht;have hx:=gW hL hk hc;have hy:=gW hL hk1 hcd;obtain⟨ie,i1,i2⟩:∃ie,P.info? el=some ie/\ie.size=sz:=(by simp only[jV,Option.map_eq_some_iff]at hsz;exact hsz);have oL:∀v w',(Builtin.copy_ #[t,t'] o.type #[a.eval x,a.eval y]).run P w=.ok v w'->(execOp a.eval o).run P w=.ok (.value v) w':=(by intro v w' h;simp only[execOp,ho,resolve,invoke,builtin,Sem.run_bind,Sem.run_pure,Result.andThen_ok,List.map_toArray,aO,aZ,h]);have none0:∀{base:Option Addr}{dLen dCap n':Nat},a.eval x=.slice base dLen dCap->(∃ad cap,a.eval y=.slice ad n' cap)->Nat.min n' dLen=0->jF P N I j own w o a (e.put o.dst ⟨false,.int .i64 (0:Nat)⟩) O:=by
  rintro base dLen dCap n' hv ⟨ad,cap,hyv⟩ hmin;refine YC hG hL hd (v:=.int .i64 (0:Nat)) (by simp only[dL]) (oL _ _ ?_);rw[hv,hyv];have zF:(Builtin.firstCells ie.size 0 (.slice ad n' cap)).run P w=.ok (#[]:Array Value) w:=by
   cases ad with
   |none=>exact run_firstCells_none _ _ _ _ _
   |some ad=>exact run_firstCells_some (P:=P) w ie.size 0 ad n' cap [] (by simp) (by simp)
  cases base<;>simp[Builtin.copy_,run_underlying hu,Builtin.lenOf,sizeOf,typeInfo,i1,hmin,zF,storeCells,goInt]
 unfold jf at hr;have zgm:∃ad cap,a.eval y=.slice ad ys.length cap:=by
  have main:∀{d':D},nK d'=some ys->dL I j d' (a.eval y)->∃ad cap,a.eval y=.slice ad ys.length cap:=by
   intro d' hyy hrr;clear hr hys;cases d'<;>simp only[nK,reduceCtorEq,aA]at hyy<;>subst hyy<;>simp only[dL]at hrr
   ·exact⟨none,0,hrr⟩
   ·obtain⟨ad,cap,hv,_⟩:=hrr;exact⟨ad,cap,hv⟩
   ·obtain⟨ad,hv⟩:=hrr;exact⟨ad,0,hv⟩
  cases hdd:d.d with
  |arr k id off len =>rw[hdd]at hys hy;simp only[nB]at hys;obtain⟨cs,hcs,hys⟩:=dJ hys;obtain⟨hb,hys⟩:=gQ hys;cases hys;simp only[aC,cE]at hb;obtain⟨b,us,e1,_,e2,e3,e4⟩:=YE hG hb.1 hcs hb.2;simp only[dL]at hy;obtain⟨b',c,ad,r1,r2,r3,hv,r4⟩:=hy;exact⟨some ad,c-off,by rw[e3];exact hv⟩
  |_=>rw[hdd]at hys hy;simp only[nB]at hys;exact main hys hy
 cases lY:c.d with
 |dN =>rw[lY]at hr hx;simp only[aA]at hr;subst hr;simp only[dL]at hx;exact none0 hx zgm (by simp)
 |mV =>rw[lY]at hr hx;simp only[aA]at hr;subst hr;simp only[dL]at hx;obtain⟨ad,hx⟩:=hx;exact none0 hx zgm (by simp)
 |arr k id off len =>
  rw[lY]at hr hx;simp only at hr;obtain⟨cs,h1,hr⟩:=dJ hr;obtain⟨hb,hr⟩:=gQ hr;cases hr;simp only[aC,beq_iff_eq,cE]at hb;obtain⟨⟨b1,b2⟩,b3⟩:=hb;obtain⟨Z0,Ig,us,hyv,hyu,sR,hu1,hyl⟩:=zyu hG hy hys b2;simp only[dL]at hx;obtain⟨b,cc,ad,r1,r2,r3,hv,r4⟩:=hx;rw[BJ];have hfr:=CU (zae len b2) (hyu.take len);have hone:∀x∈fL (us.take len),x.oneCell'=true:=fun x hx=>by
   rw[YF len sR]at hx;exact hu1 x (bH hx)
  have yS:=hyu.length;have hfl:(fL (us.take len)).length=min len ys.length*sz:=(by rw[Bc (sz:=sz) (fun x hx=>sR x (bH hx)),bI,yS]);have hdl:=hfr.length;rw[Nat.add_mul]at b3;refine zb4 hG hL hd h1 r1 hfr hone ?_ (v:=.int .i64 ((min len ys.length:Nat):Int)) (by simp only[dL]) (fun cur T oH hfit=>oL _ _ ?_)
  ·rw[<-hdl,hfl];have:min len ys.length*sz<=len*sz:=Nat.mul_le_mul_right _ (Nat.min_le_left _ _);omega
  ·have hmin:Nat.min ys.length len=min len ys.length:=Nat.min_comm _ _;have zF:(Builtin.firstCells ie.size (min len ys.length) (.slice Z0 ys.length Ig)).run P w=.ok (fL (us.take len)).toArray w:=by
    rcases hyl with rfl|⟨b',o',rfl,hat⟩
    ·have hu0:us=[]:=by simpa only[dV]using hyu
     subst hu0;cases Z0 with
     |none=>simpa[fL]using run_firstCells_none (P:=P) w ie.size (min len 0) 0 Ig
     |some ad=>simpa[fL]using run_firstCells_some (P:=P) w ie.size (min len 0) ad 0 Ig [] (by simp) (by simp)
    ·refine run_firstCells_some (P:=P) w ie.size _ ⟨b',o',none⟩ _ Ig _ (by rw[hfl,i2]) (fun n u hn=>?_);rw[Addr.add_lit];rw[YF len sR,List.getElem?_take]at hn;split at hn
     ·exact hat n u hn
     ·cases hn
   rw[hv,hyv];rcases r4 with h0|rfl
   ·have hlen:len=0:=by omega
    subst hlen;simp only[Nat.zero_min]at zF hmin;simp only[List.take_zero]at zF ⊢;have hf0:(fL ([]:List Value))=[]:=rfl;rw[hf0]at zF ⊢;simp[Builtin.copy_,run_underlying hu,Builtin.lenOf,sizeOf,typeInfo,i1,zF,storeCells,goInt];exact(setRow_self w b cur T (0,0) oH).symm
   ·have hst:=run_storeCells_at (P:=P) b (off*k.sz) T (fL (us.take len)) 0 cur w oH (by rw[b1];simpa using hfit) hone;simp only[Nat.add_zero]at hst;rw[b1]at hst;simp[Builtin.copy_,run_underlying hu,Builtin.lenOf,sizeOf,typeInfo,i1,hmin,zF,b1,hst,goInt]
 |_=>rw[lY]at hr;simp only[reduceCtorEq]at hr
theorem ztb(hG:eH I j own O w)(hL:eI I j own lb N e a w){o:Oper}{t el:TypeId}{sz:Nat}{x:Operand}{x':dS}{z:List D}{zs:List Value}{c:Cell}{O':Store}
  (ho:o.op=.call {callee:=.builtin .clear,args:=⟨[x]⟩,argTypes:=⟨[t]⟩}) (hd:∀s,o.dst=some s->s<N) (hk:dT x x'=true)
  (ht:nF P t=some el) (hsz:jV P el=some sz) (hz:rQ P el=some zs) (As:xA z zs=true)
  (hc:eE e x'=some c) (hr:ax O sz z c.d=some O'):jF P N I j own w o a (e.put o.dst ⟨false,.fN []⟩) O':=by
 have hu:=uF ht;have hx:=gW hL hk hc;have oL:∀v w',(Builtin.clear_ #[t] o.type #[a.eval x]).run P w=.ok v w'->(execOp a.eval o).run P w=.ok (.value v) w':=(by intro v w' h;simp only[execOp,ho,resolve,invoke,builtin,Sem.run_bind,Sem.run_pure,Result.andThen_ok,List.map_toArray,aO,aZ,h]);have hrep:dL I j (.fN []) (.tuple #[]):=by simp[dL,dV]
 unfold ax at hr;cases lY:c.d with
 |dN =>rw[lY]at hr hx;simp only[aA]at hr;subst hr;simp only[dL]at hx;refine YC hG hL hd hrep (oL _ _ ?_);rw[hx];simp[Builtin.clear_,run_underlying hu]
 |mV =>rw[lY]at hr hx;simp only[aA]at hr;subst hr;simp only[dL]at hx;obtain⟨ad,hx⟩:=hx;refine YC hG hL hd hrep (oL _ _ ?_);rw[hx];cases ad<;>simp[Builtin.clear_,run_underlying hu]
 |arr k oid off len =>
  rw[lY]at hr hx;simp only at hr;obtain⟨cs,h1,hr⟩:=dJ hr;obtain⟨hb,hr⟩:=gQ hr;cases hr;simp only[aC,beq_iff_eq,cE]at hb;obtain⟨⟨b1,b2⟩,b3⟩:=hb;simp only[dL]at hx;obtain⟨b,cc,ad,r1,r2,r3,hv,r4⟩:=hx;obtain⟨z1,z2⟩:=Om I j z zs As;have hzl:zs.length=sz:=by rw[z1.length,b2]
  rw[OB];have hone:∀v∈(List.replicate len zs).flatMap id,v.oneCell'=true:=by
   intro v hv;obtain⟨i,hi⟩:=List.getElem?_of_mem hv;exact z2 v (List.mem_of_getElem? (Wq zs len i v hi).2)
  rw[Nat.add_mul]at b3;refine zb4 hG hL hd h1 r1 (NZ z1 len) hone (by rw[LG,b2];exact b3) hrep (fun cur T oH hfit=>oL _ _ ?_);rw[hv];by_cases hl0:len=0
  ·subst hl0;simp[Builtin.clear_,run_underlying hu];exact(setRow_self w b cur T (0,0) oH).symm
  ·rcases r4 with h0|rfl
   ·omega
   ·obtain⟨zv,q1,q2⟩:=NH (P:=P) (w:=w) hz;have hst:=run_storeCells_at (P:=P) b (off*k.sz) T ((List.replicate len zs).flatMap id) 0 cur w oH (by rw[b1];simpa using hfit) hone;simp only[Nat.add_zero]at hst;rw[b1]at hst;have hzc:(Builtin.zeroCells zv.cells len).toList=(List.replicate len zs).flatMap id:=by
     apply List.ext_getElem?;intro i;rw[Array.getElem?_toList];unfold Builtin.zeroCells;rw[q2];have hszs:(⟨zs⟩:Array Value).size=zs.length:=rfl;simp only[Array.getElem?_map,hszs];by_cases hi:i<len*zs.length
     ·have hlt:i<((List.replicate len zs).flatMap id).length:=by rw[LG];exact hi
      rw[List.getElem?_eq_getElem hlt];obtain⟨_,h2⟩:=Wq zs len i _ (List.getElem?_eq_getElem hlt);rw[Array.getElem?_range,if_pos hi,bN,List.getElem!_toArray,List.getElem!_eq_getElem?_getD,h2];rfl
     ·rw[List.getElem?_eq_none (by rw[LG];omega),Array.getElem?_range,if_neg hi];rfl
    obtain⟨n,rfl⟩:∃n,len=n+1:=⟨len-1,by omega⟩;generalize(List.replicate (n+1) zs).flatMap id=L at hst hzc ⊢;simp only[Builtin.clear_,b1];simp[run_underlying hu,q1,hzc,hst]
 |_=>rw[lY]at hr;simp only[reduceCtorEq]at hr
end
end Go.Mx

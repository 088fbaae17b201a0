/- A part of the proof. -/
import Derived.Test.YtldfbnbckiifeaaGreatDoorMyLists
import Derived.Great.BuildSlice
import Derived.Deep.AppendSrc
import Derived.Laws.Small
set_option linter.all false
namespace Go.Mx
open Go
section
variable[kQ]{P:Program}{I:fU}{j:fJ}{own:gZ}{lb:fJ}{N:Nat}{e:Env}{a:Go.Act}{w:World}{O:Store}
def Ld:Nat->List (Nat×Operand)->List dS->Bool
 |_,[],[]=>true
 |i,(k,x)::ps,y::ys=>k==i&&dT x y&&Ld (i+1) ps ys
 |_,_,_=>false
theorem YN(hL:eI I j own lb N e a w):∀{i:Nat}{ps:List (Nat×Operand)}{qs:List dS},Ld i ps qs=true->∀{ds:List D},oI e qs=some ds ->
  ∃xs,dV I j ds xs/\(ps.map fun p=>(p.1,a.eval p.2))=(xs.zipIdx i).map fun x=>(x.2,x.1)
 |i,[],[],_,ds,h=>by
  simp only[oI,aA]at h;subst h;exact⟨[],by simp only[dV],rfl⟩
 |i,[],_::_,hk,_,_=>by simp only[Ld,aE]at hk
 |i,_::_,[],hk,_,_=>by simp only[Ld,aE]at hk
 |i,(k,x)::ps,y::ys,hk,ds,h=>by
  simp only[Ld,aC,beq_iff_eq]at hk;obtain⟨⟨rfl,hk1⟩,hk2⟩:=hk;simp only[oI]at h;obtain⟨c,h1,h⟩:=dJ h;obtain⟨ds',h2,h⟩:=dJ h;cases h;obtain⟨xs,k1,k2⟩:=YN hL hk2 h2;refine⟨a.eval x::xs,by simp only[dV];exact⟨_,_,rfl,gW hL hk1 h1,k1⟩,?_⟩;simp only[aO,List.zipIdx_cons,k2]
theorem WR:∀{ys:List dS}{ds:List D},oI e ys=some ds->ds.length=ys.length
 |[],ds,h=>by simp only[oI,aA]at h;subst h;rfl
 |y::ys,ds,h=>by
  simp only[oI]at h;obtain⟨c,h1,h⟩:=dJ h;obtain⟨ds',h2,h⟩:=dJ h;cases h;simp only[aG,WR h2]
theorem zb(t el:TypeId)(xs:List Value)(parts:Array (Nat×Value))(ie:TypeInfo)(z:Value)
  (hu:P.underlying t=some (.slice el)) (hie:P.info? el=some ie) (hz:ie.zero=some z) (hzs:z.cells.size=ie.size) (hpos:0<ie.size) (hx:∀x∈xs,x.cells.size=ie.size) (hsm:xs.length*ie.size<=16777216)
  (hp:parts.toList=(xs.zipIdx 0).map fun x=>(x.2,x.1)) :
  ∃cur:Array Value,(Instr.buildSlice t xs.length parts).run P w=.ok (.slice (some ⟨w.heap.size,0,none⟩) xs.length xs.length) (w.alloc (.cells cur el))/\cur.size=xs.length*ie.size/\∀(n:Nat)(y:Value),(fL xs)[n]?=some y->cur[n]?=some y:=by
 by_cases h0:xs=[]
 ·subst h0;refine⟨#[],?_,by simp,by simp[fL]⟩;have:parts.toList=[]:=by simpa using hp
  simp[Instr.buildSlice,run_underlying hu,sizeOf,typeInfo,hie,this,Instr.fill,newRow];congr 2;apply Array.ext';simp
 ·have hl:0<xs.length:=List.length_pos_iff.2 h0;have hne:¬xs.length*ie.size=0:=Nat.ne_of_gt (Nat.mul_pos hl hpos);obtain⟨r,hr,hrs,hrk⟩:=Great.fill_dense hpos xs 0 ((Array.range (xs.length*ie.size)).map (z.cells[·%z.cells.size]!)) hx (by simp);rw[<-hp]at hr;refine⟨r,run_buildSlice w t el xs.length parts r ie z hu hie hz (by omega) hne hr,by simpa using hrs,fun n y hn=>?_⟩;have hlt:=(List.getElem?_eq_some_iff.1 hn).1;rw[Bc hx]at hlt;obtain⟨x,q1,q2⟩:=zef hpos hx n y hn;rw[aN]at hrk;rw[hrk n,if_pos ⟨by omega,by omega⟩,Nat.sub_zero,q1];exact q2
theorem E5{t:TypeId}{sz:Nat}{zs:List Value}(h1:jV P t=some sz)(h2:rQ P t=some zs):∃ie z,P.info? t=some ie/\ie.size=sz/\ie.zero=some z/\z.cells.toList=zs:=by simp only[jV,Option.map_eq_some_iff]at h1;obtain⟨ie,hi,rfl⟩:=h1;simp only[rQ,hi,Option.bind_some,Option.map_eq_some_iff]at h2;obtain⟨z,hz,rfl⟩:=h2;exact⟨ie,z,hi,rfl,hz,rfl⟩
theorem zn2(hG:eH I j own O w)(hL:eI I j own lb N e a w){o:Oper}{t el:TypeId}{len sz s:Nat}{ag:Bool}{parts:Array (Nat×Operand)}{qs:List dS}{zs:List Value}{ds:List D}(ho:o.op=.buildSlice t len parts)
  (hd:o.dst=some s) (hs:s<N) (hk:Ld 0 parts.toList qs=true) (hlen:len=qs.length) (ht:nF P t=some el) (hsz:jV P el=some sz) (hz:rQ P el=some zs) (hzl:zs.length=sz) (hpos:0<sz)
  (hds:oI e qs=some ds) (hall:jZ sz ds=true) (hsm:ds.length*sz<=16777216):jF P N I j own w o a (e.put o.dst ⟨true,.list ⟨el,sz,ag⟩ ds⟩) O:=by
 obtain⟨xs,hx,hp⟩:=YN hL hk hds;obtain⟨x1,x2⟩:=Zy hall hx;obtain⟨ie,z,i1,i2,i3,i4⟩:=E5 hsz hz;subst i2;have hxl:=hx.length;have hu:=uF ht;have hparts:(parts.map fun(i,x)=>(i,a.eval x)).toList=(xs.zipIdx 0).map fun x=>(x.2,x.1):=by
  rw[<-hp,Array.toList_map]
 have hzc:z.cells.size=ie.size:=by rw[<-Array.length_toList,i4,hzl]
 obtain⟨cur,c1,c2,c3⟩:=zb (w:=w) t el xs _ ie z hu i1 i3 hzc hpos x1 (by rw[hxl];exact hsm) hparts;have hll:len=ds.length:=by rw[hlen,WR hds]
 rw[hxl]at c1;have hmax:ds.length<=maxLen:=by
  have:ds.length<=ds.length*ie.size:=Nat.le_mul_of_pos_right _ hpos;simp only[maxLen];omega
 obtain⟨I',own',k1,k2,k3⟩:=eu hG hL hs (.inl rfl) (sz:=⟨el,ie.size,ag⟩) rfl hx x1 c3 (by rw[c2,hxl]) (aM ds.length) hmax;refine⟨_,_,_,?_,.inl ⟨.slice (some ⟨w.heap.size,0,none⟩) ds.length ds.length,rfl,rfl⟩,I',j,own',lb,k1,?_,k3⟩
 ·simp only[execOp,ho,hll,Sem.run_bind];rw[c1];rfl
 ·rw[hd];exact k2
/-! ### append -/
def uP(P:Program)(t:TypeId):Option Nat:=(P.info? t).map (·.bytes)
theorem zi(t tx ty el:TypeId)(i:TypeInfo)(ht:P.underlying t=some (.slice el))(hi:P.info? el=some i)(base:Option Addr)(sLen sCap:Nat)(hle:sLen<=sCap)(x:Value)(hs:Src P i.size tx x 0 [] w) :
  (Builtin.append_ #[t,tx] ty #[.slice base sLen sCap,x]).run P w=.ok (.slice base sLen sCap) w:=by
 rcases hs.kind with⟨e',hk⟩|hk<;>cases base<;>simp[Builtin.append_,run_underlying ht,run_underlying hk,sizeOf,typeInfo,hi,hs.len,hle,hs.cells,storeCells]
theorem za(t tx ty el T:TypeId)(i:TypeInfo)(ht:P.underlying t=some (.slice el))(hi:P.info? el=some i)
  (g sLen sCap:Nat) (cur:Array Value) (hg:w.heap[g]?=some (.cells cur T (0,0))) (x:Value) (m:Nat) (news:List Value) (hs:Src P i.size tx x m news w)
  (hroom:sLen+m<=sCap) (hfit:sLen*i.size+news.length<=cur.size) :
  (Builtin.append_ #[t,tx] ty #[.slice (some ⟨g,0,none⟩) sLen sCap,x]).run P w =
   .ok (.slice (some ⟨g,0,none⟩) (sLen+m) sCap) (w.setRow g (cur.toList.take (sLen*i.size)++news++cur.toList.drop (sLen*i.size+news.length)).toArray):=by
 have hst:=run_storeCells_at P g (sLen*i.size) T news 0 cur w hg (by simpa using hfit) hs.one;simp only[Nat.add_zero]at hst;rcases hs.kind with⟨e',hk⟩|hk<;>simp[Builtin.append_,run_underlying ht,run_underlying hk,sizeOf,typeInfo,hi,hs.len,hroom,hs.cells,Addr.add_lit,hst]
theorem zda{d:D}{v:Value}{sz:Nat}{ys:List D}(hr:dL I j d v)(hy:nK d=some ys)(hall:jZ sz ys=true) :
  ∃ad cap us,v=.slice ad ys.length cap/\dV I j ys us/\(∀x∈us,x.cells.size=sz)/\(∀u∈fL us,u.oneCell'=true)/\(ys=[]\/∃b o,ad=some ⟨b,o,none⟩/\∀(n:Nat)(u:Value),(fL us)[n]?=some u->I b (o+n)=some u):=by
 cases d<;>simp only[nK,reduceCtorEq,aA]at hy<;>subst hy<;>simp only[dL]at hr
 ·exact⟨none,0,[],hr,by simp only[dV],by simp,by simp[fL],.inl rfl⟩
 ·obtain⟨ad,cap,hv,_,_,h4⟩:=hr;rcases h4 with rfl|⟨b,o,had,hrow⟩
  ·exact⟨ad,cap,[],hv,by simp only[dV],by simp,by simp[fL],.inl rfl⟩
  ·obtain⟨us,q1,q2,q3⟩:=hrow.vals;obtain⟨s1,s2⟩:=Zy hall q1;exact⟨ad,cap,us,hv,q1,s1,s2,.inr ⟨b,o,had,q3⟩⟩
 ·obtain⟨ad,hv⟩:=hr;exact⟨ad,0,[],hv,by simp only[dV],by simp,by simp[fL],.inl rfl⟩
theorem zdk{k:RowK}{ds:List D}{vs:List Value}(hk:(k.ag||k.sz==1)=true)(hl:ds.length=k.sz)(hr:dV I j ds vs)(h1:∀x∈vs,x.oneCell'=true):∃u,dL I j (Hq k ds) u/\u.cells.toList=vs:=by
 cases hag:k.ag with
 |true=>exact⟨.agg ⟨vs⟩,by simp only[Hq,hag,dQ,dL];exact⟨vs,rfl,hr,h1⟩,rfl⟩
 |false =>
  rw[hag,bY,beq_iff_eq]at hk;rw[hk]at hl
  match ds,hl with
  |[d],_ =>simp only[dV]at hr;obtain⟨x,r,rfl,hx,rfl⟩:=hr;refine⟨x,by simp only[Hq,hag,dX,List.headD];exact hx,?_⟩;have:=h1 x (by simp);cases x<;>simp only[Value.oneCell',aE]at this<;>rfl
theorem zbt{k:RowK}(hk:(k.ag||k.sz==1)=true):∀(n:Nat)(ds:List D)(vs:List Value),n*k.sz<=ds.length->dV I j ds vs->(∀x∈vs,x.oneCell'=true) ->
  ∃us,dV I j (xE k n ds) us/\fL us=vs.take (n*k.sz)/\(xE k n ds).length=n
 |0,ds,vs,_,_,_=>⟨[],by simp only[xE,dV],by simp[fL],rfl⟩
 |n+1,ds,vs,hn,hr,h1=>by
  have hlen:=hr.length;rw[Nat.add_mul]at hn;have ht:dV I j (ds.take k.sz) (vs.take k.sz):=dV.of (by simp[hlen]) fun i d hi=>by
   rw[List.getElem?_take]at hi ⊢;split at hi
   ·rw[if_pos (by assumption)];exact hr.at i d hi
   ·cases hi
  have hd:dV I j (ds.drop k.sz) (vs.drop k.sz):=dV.of (by simp[hlen]) fun i d hi=>by
   rw[List.getElem?_drop]at hi ⊢;exact hr.at _ d hi
  obtain⟨u,hu,huc⟩:=zdk hk (by simp;omega) ht (fun x hx=>h1 x (bH hx));obtain⟨us,k1,k2,k3⟩:=zbt hk n (ds.drop k.sz) (vs.drop k.sz) (by simp;omega) hd (fun x hx=>h1 x (List.mem_of_mem_drop hx));refine⟨u::us,by simp only[xE,dV];exact⟨u,us,rfl,hu,k1⟩,?_,by simp only[xE,aG,k3]⟩;have:fL (u::us)=u.cells.toList++fL us:=by simp[fL]
  rw[this,huc,k2,Nat.add_mul,Nat.one_mul,Nat.add_comm,List.take_add]
theorem sJ.si{b:Nat}{mk:Nat->Tag}{cs:List Cell}(h:sJ I j own w b mk cs):∃(vs:List Value)(T:TypeId),w.heap[b]?=some (.cells ⟨vs⟩ T (0,0))/\cs.length<=vs.length/\dV I j (cs.map fun c=>c.d) (vs.take cs.length)/\∀x∈vs.take cs.length,x.oneCell'=true:=by
 obtain⟨vs,T,h1,h2,h3⟩:=h;refine⟨vs,T,h1,h2,dV.of (by simp;omega) fun i d hi=>?_,fun x hx=>?_⟩
 ·rw[List.getElem?_map]at hi;cases hc:cs[i]? with
  |none=>rw[hc]at hi;cases hi
  |some c =>rw[hc]at hi;simp only[bN,aA]at hi;subst hi;obtain⟨v,q1,q2,q3⟩:=h3 i c hc;refine⟨v,?_,q3.1⟩;rw[List.getElem?_take,if_pos (List.getElem?_eq_some_iff.1 hc).1];exact q1
 ·obtain⟨i,hi⟩:=List.getElem?_of_mem hx;rw[List.getElem?_take]at hi;split at hi
  ·rename_i hlt;obtain⟨v,q1,q2,_⟩:=h3 i _ (List.getElem?_eq_getElem hlt);rw[q1]at hi;cases hi;exact q2
  ·cases hi
theorem YE(hG:eH I j own O w){k:RowK}{id off len:Nat}{cs:List Cell}(hk:(k.ag||k.sz==1)=true)(hc:dC O.dE id=some cs)(hle:(off+len)*k.sz<=cs.length) :
  ∃b us,j id=some b/\own b=some (.obj id)/\dV I j (Hj k cs off len) us/\(Hj k cs off len).length=len/\∀(n:Nat)(u:Value),(fL us)[n]?=some u->w.cell? ⟨b,off*k.sz+n,none⟩=some u:=by
 obtain⟨b,q1,q2,q3⟩:=hG.dE id cs hc;obtain⟨vs,T,h1,h2,h3,h4⟩:=q3.si;rw[Nat.add_mul]at hle;have hlen:=h3.length;have hd:dV I j ((cs.map fun c=>c.d).drop (off*k.sz)) ((vs.take cs.length).drop (off*k.sz)):=dV.of (by simp;omega) fun i d hi=>by
  rw[List.getElem?_drop]at hi ⊢;exact h3.at _ d hi
 obtain⟨us,k1,k2,k3⟩:=zbt hk len _ _ (by simp;omega) hd (fun x hx=>h4 x (List.mem_of_mem_drop hx));refine⟨b,us,q1,q2,k1,k3,fun n u hn=>?_⟩;rw[k2,List.getElem?_take]at hn;split at hn
 ·rw[List.getElem?_drop,List.getElem?_take]at hn;split at hn
  ·rw[cell_of_row w b _ _ T (0,0) h1];simpa using hn
  ·cases hn
 ·cases hn
theorem zb0(hG:eH I j own O w){d:D}{v:Value}{sz:Nat}{ys:List D}{tx el:TypeId}(hu:P.underlying tx=some (.slice el))(hr:dL I j d v)(hy:nB O.dE d=some ys)(hall:jZ sz ys=true) :
  ∃us,dV I j ys us/\(∀x∈us,x.cells.size=sz)/\(∀u∈fL us,u.oneCell'=true)/\Src P sz tx v ys.length (fL us) w:=by
 have main:∀{d':D},nK d'=some ys->dL I j d' v->∃us,dV I j ys us/\(∀x∈us,x.cells.size=sz)/\(∀u∈fL us,u.oneCell'=true)/\Src P sz tx v ys.length (fL us) w:=by
  intro d' hy hr;obtain⟨Z0,Ig,us,hyv,hyu,sR,hu1,hyl⟩:=zda hr hy hall;have yS:=hyu.length;refine⟨us,hyu,sR,hu1,?_⟩;rw[hyv];have hfl:(fL us).length=ys.length*sz:=by rw[Bc sR,yS]
  rcases hyl with rfl|⟨b,o',rfl,hn⟩
  ·have hu0:us=[]:=by simpa only[dV]using hyu
   subst hu0;cases Z0 with
   |none=>exact Src.ofNil w hu Ig
   |some ad=>exact Src.ofSlice w hu ad 0 Ig [] (by simp) (by simp) (by simp)
  ·exact Src.ofSlice w hu ⟨b,o',none⟩ ys.length Ig (fL us) hfl (fun k u hk=>by
    rw[Addr.add_lit];exact hG.holds _ _ _ (hn k u hk)) hu1
 cases d with
 |arr k id off len =>
  simp only[nB]at hy;obtain⟨cs,hc,hy⟩:=dJ hy;obtain⟨hb,hy⟩:=gQ hy;cases hy;simp only[aC,cE]at hb;obtain⟨b,us,e1,_,e2,e3,e4⟩:=YE hG hb.1 hc hb.2;obtain⟨s1,s2⟩:=Zy hall e2;refine⟨us,e2,s1,s2,?_⟩;simp only[dL]at hr;obtain⟨b',c,ad,r1,r2,r3,rfl,r4⟩:=hr;rw[e1]at r1;cases r1;have hfl:(fL us).length=(Hj k cs off len).length*sz:=by rw[Bc s1,e2.length]
  rw[e3]at hfl ⊢;refine Src.ofSlice w hu ad len (c-off) (fL us) hfl (fun n u hn=>?_) s2;rcases r4 with rfl|rfl
  ·have hlen:len=0:=by omega
   rw[hlen,Nat.zero_mul]at hfl;have:=(List.getElem?_eq_some_iff.1 hn).1;omega
  ·rw[Addr.add_lit];exact e4 n u hn
 |_=>simp only[nB]at hy;exact main hy hr
theorem zgkb{g lo:Nat}{cur:Array Value}{T:TypeId}{news:List Value}(hG:eH I j own O w)(hg:w.heap[g]?=some (.cells cur T (0,0)))(hfit:lo+news.length<=cur.size)(hfree:∀o,lo<=o->I g o=none){t:Tag}(ht:own g=some t)(htl:∃s,t=.slot s) :
  fD I j own w (rN I g lo (lo+news.length) (fun o=>news[o-lo]?)) j own (w.setRow g (cur.toList.take lo++news++cur.toList.drop (lo+news.length)).toArray) (fun u=>u=t) /\
  eH (rN I g lo (lo+news.length) (fun o=>news[o-lo]?)) j own O (w.setRow g (cur.toList.take lo++news++cur.toList.drop (lo+news.length)).toArray):=by
 obtain⟨s,rfl⟩:=htl;have hE:fD I j own w (rN I g lo (lo+news.length) (fun o=>news[o-lo]?)) j own (w.setRow g (cur.toList.take lo++news++cur.toList.drop (lo+news.length)).toArray) (fun u=>u=.slot s):=by
  refine⟨rfl,rfl,rfl,by simp[World.setRow],fun b o v h=>?_,fun _ _ h=>h,fun b _ hb=>?_⟩
  ·unfold rN;split
   ·rename_i hc;obtain⟨rfl,hc,_⟩:=hc;rw[hfree o hc]at h;cases h
   ·exact h
  ·have hne:b≠g:=fun e=>hb _ (e▸ht) rfl;exact⟨setRow_other w g b _ hne,rfl,fun o=>if_neg (fun hc=>hne hc.1)⟩
 refine⟨hE,hG.kN hE (fun b o v h=>?_) (fun b u h hu o=>?_) (fun b u h=>aP (hG.jU b u h) hE.size) hG.mG (fun _ _ _=>⟨(fun h=>by cases h),(fun _ _ _ _ h=>by cases h)⟩) (fun _ _ _ h=>by cases h)⟩
 ·unfold rN at h;by_cases hb:b=g
  ·subst hb;rw[cell_of_row _ b o _ T (0,0) (setRow_heap w b _ _ T (0,0) hg)];simp only[List.getElem?_toArray];by_cases hc:b=b/\lo<=o/\o<lo+news.length
   ·rw[if_pos hc]at h;rw[bR,List.getElem?_append_right (by simp;omega),List.getElem?_append_left (by simp;omega),<-h];congr 1;simp;omega
   ·rw[if_neg hc]at h;have hlt:o<lo:=by
     apply Nat.lt_of_not_le;intro hle;rw[hfree o hle]at h;cases h
    have:=hG.holds b o v h;rw[cell_of_row w b o cur T (0,0) hg]at this;rw[bR,List.getElem?_append_left (by simp;omega),List.getElem?_take,if_pos hlt,Array.getElem?_toList];exact this
  ·rw[if_neg (fun hc=>hb hc.1)]at h;rw[cell_setRow_other w g _ _ hb];exact hG.holds b o v h
 ·have hne:b≠g:=fun e=>by
   rw[e,ht]at h;cases h;cases hu
  unfold rN;rw[if_neg (fun hc=>hne hc.1)];exact hG.kS b u h hu o
theorem RowK.same_eq{a b:RowK}(h:a.same b=true):a.el=b.el/\a.sz=b.sz:=by cases a;cases b;simpa[RowK.same]using h
theorem zdm{k k':RowK}(h:k.sz=k'.sz){es:List D}{v:Value}:dL I j (.list k es) v↔dL I j (.list k' es) v:=by simp only[dL,h]
theorem zas{k k':RowK}(h:k.el=k'.el/\k.sz=k'.sz){t:Tag}{es:List D}{v:Value}:Ko I own w t k es v↔Ko I own w t k' es v:=by simp only[Ko,h.1,h.2]
theorem zbk{sz:RowK}{fG:Nat}{x:Cell}{ys:List D}{r:Cell}(h:lM sz fG x ys=some r):∃xs,nK x.d=some xs/\Jq sz x=true/\jZ sz.sz ys=true/\(xs.length+ys.length)*fG<=iN/\xs.length+ys.length<=iN/\r=⟨true,xH sz x.d ys⟩:=by unfold lM at h;obtain⟨xs,h1,h⟩:=dJ h;obtain⟨h3,h⟩:=gQ h;simp only[aC,cE]at h3;cases h;exact⟨xs,h1,h3.1.1.1,h3.1.1.2,h3.1.2,h3.2,rfl⟩
theorem Wp{own':gZ}{I':fU}{j':fJ}{w':World}{e0:Env}{s:Nat}{c:Cell}{x:Value}(hs:s<N)(h0:eI I' j' own' lb N {e0 with slots:=gI e0.slots s} a w')(hc:uG I' j' own' w' (.slot s) c x) :
  eI I' j' own' lb N (e0.put (some s) c) (a.put (some s) x) w':=by
 refine(h0.qV hs hc).sub (fun t c' h=>⟨c',?_,rfl,fun h=>h⟩) (fun _ _ h=>h) (fun _ cs h=>⟨cs,h,pL.refl cs⟩) rfl;simp only[Env.put,jM,mK]at h ⊢;split
 ·rename_i hst;rw[if_pos hst]at h;exact h
 ·rename_i hst;rw[if_neg hst]at h;exact h
theorem eI.forget{e0:Env}(h:eI I j own lb N e0 a w)(s:Nat):eI I j own lb N {e0 with slots:=gI e0.slots s} a w :=
 h.sub (fun t c h=>by
  simp only[mK]at h;split at h
  ·cases h
  ·exact⟨c,h,rfl,fun h=>h⟩) (fun _ _ h=>h) (fun _ cs h=>⟨cs,h,pL.refl cs⟩) rfl
theorem Zw{z:Value}{zs:List Value}{sz:Nat}(h:z.cells.toList=zs)(hl:zs.length=sz)(n:Nat):(Builtin.zeroCells z.cells n).size=n*sz:=by rw[size_zeroCells,<-Array.length_toList,h,hl]
theorem zk(hG:eH I j own O w)(hL:eI I j own lb N e a w){o:Oper}{t tx el:TypeId}{sz fG s:Nat}{ag:Bool}{x y:Operand}{x':dS}{zs:List Value}{c r:Cell}{ys:List D}
  (ho:o.op=.call {callee:=.builtin .append,args:=⟨[x,y]⟩,argTypes:=⟨[t,tx]⟩}) (hd:o.dst=some s) (hs:s<N) (hk:dT x x'=true)
  (ht:nF P t=some el) (hsz:jV P el=some sz) (hz:rQ P el=some zs) (hzl:zs.length=sz) (hpos:0<sz) (hby:uP P el=some fG)
  (hc:eE e x'=some c) (hr:lM ⟨el,sz,ag⟩ fG c ys=some r) {us:List Value} (zljb:jZ sz ys=true->dV I j ys us/\(∀x∈us,x.cells.size=sz)/\Src P sz tx (a.eval y) ys.length (fL us) w) :
  jF P N I j own w o a ((x'.drop e).put o.dst r) O:=by
 obtain⟨xs,hxs,Y1,hall,hb1,hb2,rfl⟩:=zbk hr;obtain⟨hyu,sR,hsrc⟩:=zljb hall;obtain⟨ie,z,i1,i2,i3,i4⟩:=E5 hsz hz;have hu:=uF ht;have Yk:ie.bytes=fG:=by simpa[uP,i1]using hby
 subst i2;subst Yk;have hx:=gW hL hk hc;have oL:∀v w',(Builtin.append_ #[t,tx] o.type #[a.eval x,a.eval y]).run P w=.ok v w'->(execOp a.eval o).run P w=.ok (.value v) w':=by
  intro v w' h;simp only[execOp,ho,resolve,invoke,builtin,Sem.run_bind,Sem.run_pure,Result.andThen_ok,List.map_toArray,aO,aZ,h]
 have hb2':xs.length+ys.length<=1099511627776:=hb2;have hb1':(xs.length+ys.length)*ie.bytes<=1099511627776:=hb1;rw[hd]
 obtain⟨VT⟩:Nonempty (∀{v:Value}{w':World}{jQ I' own':_},(execOp a.eval o).run P w=.ok (.value v) w'->fD I j own w I j jQ w (fun _=>True)->eH I' j own' O w'->eI I' j own' lb N ((x'.drop e).put (some s) ⟨true,xH ⟨el,ie.size,ag⟩ c.d ys⟩) (a.put (some s) v) w'->fD I j jQ w I' j own' w' (fun _=>True) ->
   jF P N I j own w o a ((x'.drop e).put (some s) ⟨true,xH ⟨el,ie.size,ag⟩ c.d ys⟩) O) :=
  ⟨fun{v w' jQ I' own'} h1 hE hG' hL' hE'=>⟨_,w',_,h1,.inl ⟨v,rfl,rfl⟩,I',j,own',lb,hG',by rw[hd];exact hL',hE.trans hE'⟩⟩
 have hnone:ys=[]->(dL I j c.d (a.eval x)->dL I j (xH ⟨el,ie.size,ag⟩ c.d ys) (a.eval x))/\∀(t':Tag)(own':gZ),mD I own' w t' c.d (a.eval x)->mD I own' w t' (xH ⟨el,ie.size,ag⟩ c.d ys) (a.eval x):=by
  rintro rfl;cases lY:c.d<;>rw[lY]at hxs<;>simp only[nK,reduceCtorEq]at hxs
  ·exact⟨id,fun _ _ h=>h⟩
  ·simp only[Jq,lY,aC]at Y1;have hk:=RowK.same_eq Y1.2;simp only[xH,bQ];exact⟨(zdm hk.2).1,fun t' own' h=>p9.2 ((zas hk).1 (p9.1 h))⟩
  ·exact⟨id,fun _ _ h=>h⟩
 by_cases hye:ys=[]
 ·obtain⟨hj,hO⟩:=hnone hye;have hval:∃base sLen sCap,a.eval x=.slice base sLen sCap/\sLen<=sCap:=by
   cases lY:c.d<;>rw[lY]at hxs hx<;>simp only[nK,reduceCtorEq]at hxs<;>simp only[dL]at hx
   ·exact⟨none,0,0,hx,aM _⟩
   ·obtain⟨ad,cap,hv,hle,_⟩:=hx;exact⟨ad,_,cap,hv,hle⟩
   ·obtain⟨ad,hv⟩:=hx;exact⟨ad,0,0,hv,aM _⟩
  obtain⟨base,sLen,sCap,hv,hle⟩:=hval;obtain⟨jQ,hG1,hL1,Oe,hE1⟩:=A9 hG hL hk hc (t':=.slot s) rfl
  have hrun:=oL (a.eval x) w (by
   rw[hv];subst hye;have hu0:us=[]:=by simpa only[dV]using hyu
   subst hu0;exact zi (P:=P) (w:=w) t tx o.type el ie hu i1 base sLen sCap hle _ hsrc)
  refine VT hrun hE1 hG1 (Wp hs (hL1.forget s) ⟨?_,fun _=>?_⟩) (fD.refl _ _ _ _ _)
  ·exact hj hx
  ·refine hO _ _ ?_;cases how:c.own with
   |true=>exact Oe how
   |false =>
    cases lY:c.d<;>rw[lY]at hxs<;>simp only[nK,reduceCtorEq]at hxs
    ·trivial
    ·simp only[Jq,lY,how,Bool.false_and,aE]at Y1
    ·trivial
 ·have zoub:0<ys.length:=List.length_pos_iff.2 hye;have yS:=hyu.length;have hfl:(fL us).length=ys.length*ie.size:=by rw[Bc sR,yS]
  have hfit:∀old,old<xs.length+ys.length->Builtin.nextslicecap (xs.length+ys.length) old*ie.bytes<=281474976710656:=fun old h=>growslice_fits h (by omega);have hcapge:∀old,xs.length+ys.length<=grownCap w (xs.length+ys.length) old el:=fun old=>grownCap_ge w _ old el;have Jx:∀old,grownCap w (xs.length+ys.length) old el<=maxLen:=fun old=>grownCap_le_maxLen w _ old el (by simp only[maxLen];omega);have Wj:xs=[]->(∃base,a.eval x=.slice base 0 0)->xH ⟨el,ie.size,ag⟩ c.d ys=.list ⟨el,ie.size,ag⟩ ys->jF P N I j own w o a ((x'.drop e).put (some s) ⟨true,xH ⟨el,ie.size,ag⟩ c.d ys⟩) O:=by
   rintro hxe ⟨base,hxv⟩ hj;subst hxe;have zF:(Builtin.firstCells ie.size 0 (.slice base 0 0)).run P w.drew=.ok (#[]:Array Value) w.drew:=by
    cases base with
    |none=>exact run_firstCells_none _ _ _ _ _
    |some ad=>exact run_firstCells_some (P:=P) w.drew ie.size 0 ad 0 0 [] (by simp) (by simp)
   simp only[aH,aN]at hfit hcapge Jx hb2' hb1'
   have hrun:=oL _ _ (by
    rw[hxv];have:=run_append_grow_src (P:=P) w t tx o.type el ie z hu i1 i3 base 0 0 [] zF _ ys.length (fL us) hsrc (by omega) (by omega) (by simpa using hfit 0 (by omega));simpa using this)
   obtain⟨I',own',k1,k2,k3⟩:=eu hG (hL.drop x') hs (.inr rfl) (sz:=⟨el,ie.size,ag⟩) (cap:=grownCap w ys.length 0 el) rfl hyu sR (cur:=(fL us).toArray++Builtin.zeroCells z.cells (grownCap w ys.length 0 el-ys.length)) (T:=el) (fun n u hn=>by
    have hlt:=(List.getElem?_eq_some_iff.1 hn).1;rw[Array.getElem?_append_left (by simpa using hlt)];simpa using hn) (by
    rw[Array.size_append,Zw i4 hzl,List.size_toArray,hfl,<-Nat.add_mul];congr 1;have:=hcapge 0;omega) (hcapge 0) (Jx 0)
   rw[<-hj]at k2;exact VT hrun (fD.refl _ _ _ _ _) k1 k2 k3
  cases lY:c.d<;>rw[lY]at hxs<;>simp only[nK,reduceCtorEq,aA]at hxs
  ·subst hxs;rw[lY]at hx Wj;simp only[dL]at hx;rw[<-lY]at Wj ⊢;refine Wj rfl ⟨none,hx⟩ ?_;rw[lY];cases hy:ys with
   |nil=>exact absurd hy hye
   |cons y0 ys0=>rfl
  ·rename_i sz0 es;subst hxs;simp only[Jq,lY,aC]at Y1;obtain⟨how,hsame⟩:=Y1;have hsame:=RowK.same_eq hsame;have hj:xH ⟨el,ie.size,ag⟩ c.d ys=.list ⟨el,ie.size,ag⟩ (es++ys):=by rw[lY];rfl
   rw[<-lY];obtain⟨jQ,hG1,hL1,Oe,hE1⟩:=A9 hG hL hk hc (t':=.slot s) rfl;have Oe:=Oe how;rw[lY]at hx Oe
   replace hx:=(zdm (k':=⟨el,ie.size,ag⟩) hsame.2).1 hx
   replace Oe:=(zas (k':=⟨el,ie.size,ag⟩) hsame).1 (p9.1 Oe)
   simp only[Ko]at Oe
   have grow:∀(ad:Option Addr)(cap':Nat)(vs:List Value),a.eval x=.slice ad es.length cap'->dV I j es vs->(∀x∈vs,x.cells.size=ie.size)->(Builtin.firstCells ie.size es.length (.slice ad es.length cap')).run P w.drew=.ok (fL vs).toArray w.drew ->
     ¬es.length+ys.length<=cap'->es.length<=cap'->jF P N I j own w o a ((x'.drop e).put (some s) ⟨true,xH ⟨el,ie.size,ag⟩ c.d ys⟩) O:=by
    intro ad cap' vs hv' hvs Y2 zF hroom hle;have hvl:=hvs.length;have Z9:(fL vs).length=es.length*ie.size:=by rw[Bc Y2,hvl]
    have oo:dV I j (es++ys) (vs++us):=hvs.append hyu;have ug:∀x∈vs++us,x.cells.size=ie.size:=fun x hx=>by
     rcases bJ.1 hx with h|h
     ·exact Y2 x h
     ·exact sR x h
    have hrun:=oL _ _ (by
     rw[hv'];exact run_append_grow_src (P:=P) w t tx o.type el ie z hu i1 i3 ad es.length cap' (fL vs) zF _ ys.length (fL us) hsrc (by omega) (by omega) (hfit cap' (by omega)))
    obtain⟨I',own',k1,k2,k3⟩:=eu hG (hL.drop x') hs (.inr rfl) (sz:=⟨el,ie.size,ag⟩) (cap:=grownCap w (es.length+ys.length) cap' el) rfl oo ug (cur:=(fL vs++fL us).toArray++Builtin.zeroCells z.cells (grownCap w (es.length+ys.length) cap' el-(es.length+ys.length))) (T:=el) (fun n u hn=>by
     have hlt:=(List.getElem?_eq_some_iff.1 hn).1;rw[zaz]at hn hlt;rw[Array.getElem?_append_left (by simpa using hlt)];simpa using hn) (by
     rw[Array.size_append,Zw i4 hzl,List.size_toArray,aF,hfl,Z9,<-Nat.add_mul,<-Nat.add_mul];congr 1;have:=hcapge cap';omega) (by rw[aF];exact hcapge cap') (Jx cap')
    rw[<-hj,aF]at k2;exact VT hrun (fD.refl _ _ _ _ _) k1 k2 k3
   rcases Oe with hnil|⟨g,cap,cur,T,hv,hown,hg,⟨hT,hcs⟩,hfree⟩
   ·obtain⟨a0,hnil,_⟩:=hnil;simp only[dL]at hx;obtain⟨ad,cap,hv,hle,_,hrow⟩:=hx;rw[hv]at hnil;simp only[Value.slice.injEq]at hnil;obtain⟨_,_,rfl⟩:=hnil;rcases hrow with rfl|⟨b,o',rfl,hrow⟩
    ·exact Wj rfl ⟨ad,hv⟩ hj
    ·obtain⟨vs,q1,q2,q3⟩:=hrow.vals
     exact grow (some ⟨b,o',none⟩) _ vs hv q1 q2 (run_firstCells_some (P:=P) w.drew ie.size es.length ⟨b,o',none⟩ _ _ (fL vs) (by rw[Bc q2,q1.length]) (fun k u hk=>by
       rw[Addr.add_lit];exact hG.holds _ _ _ (q3 k u hk))) (by omega) hle
   ·
    simp only[dL]at hx;obtain⟨ad,cap',hv',hle,hmax,hrow⟩:=hx;rw[hv']at hv;simp only[Value.slice.injEq,true_and]at hv;obtain⟨rfl,rfl⟩:=hv;have holds:∃vs,dV I j es vs/\(∀x∈vs,x.cells.size=ie.size)/\∀(n:Nat)(u:Value),(fL vs)[n]?=some u->I g n=some u:=by
     rcases hrow with rfl|⟨b,o',hb,hrow⟩
     ·exact⟨[],by simp only[dV],by simp,by simp[fL]⟩
     ·simp only[aA,Addr.mk.injEq,and_true]at hb;obtain⟨rfl,rfl⟩:=hb;obtain⟨vs,q1,q2,q3⟩:=hrow.vals;exact⟨vs,q1,q2,fun n u h=>by simpa using q3 n u h⟩
    obtain⟨vs,hvs,Y2,hold⟩:=holds;have hvl:=hvs.length;have Z9:(fL vs).length=es.length*ie.size:=by rw[Bc Y2,hvl]
    have oo:dV I j (es++ys) (vs++us):=hvs.append hyu;have ug:∀x∈vs++us,x.cells.size=ie.size:=fun x hx=>by
     rcases bJ.1 hx with h|h
     ·exact Y2 x h
     ·exact sR x h
    by_cases hroom:es.length+ys.length<=cap'
    ·
     have GL:es.length*ie.size+(fL us).length<=cur.size:=(by rw[hfl,hcs,<-Nat.add_mul];exact Nat.mul_le_mul_right _ hroom)
     have hrun:=oL _ _ (by
      rw[hv'];exact za (P:=P) t tx o.type el T ie hu i1 g es.length cap' cur hg _ ys.length (fL us) hsrc hroom GL)
     obtain⟨hE2,hG2⟩:=zgkb (news:=fL us) hG1 hg GL hfree hown ⟨s,rfl⟩;generalize hw':w.setRow g _=w' at hrun hE2 hG2;generalize hI':rN I g (es.length*ie.size) (es.length*ie.size+(fL us).length) (fun o=>(fL us)[o-es.length*ie.size]?)=I' at hE2 hG2
     have hL2:=(hL1.forget s).kN hE2 (fun s' c' h _ hst=>by
      cases hst;simp only[mK,if_true]at h;cases h) (fun _ _ _=>⟨(fun h=>by cases h),(fun _ _ _ _ h=>by cases h)⟩)
     have hnew:w'.heap[g]?=some (.cells (cur.toList.take (es.length*ie.size)++fL us++cur.toList.drop (es.length*ie.size+(fL us).length)).toArray T (0,0)):=hw'▸setRow_heap w g _ _ T (0,0) hg;refine VT hrun hE1 hG2 (Wp hs hL2 ⟨?_,fun _=>?_⟩) (hE2.weaken fun _ _=>trivial)
     ·rw[hj];simp only[dL];refine⟨_,cap',by rw[aF],by rw[aF];exact hroom,hmax,.inr ⟨g,0,rfl,jS.EE (hE2.Nj oo) ug fun n u hn=>?_⟩⟩;rw[aN];rw[zaz]at hn;by_cases hlt:n<es.length*ie.size
      ·rw[List.getElem?_append_left (by omega)]at hn;exact hE2.qY _ _ _ (hold n u hn)
      ·rw[List.getElem?_append_right (by omega),Z9]at hn;have:=(List.getElem?_eq_some_iff.1 hn).1;rw[<-hI'];unfold rN;rw[if_pos ⟨rfl,by omega,by omega⟩];exact hn
     ·simp only[hj,p9,Ko];refine .inr ⟨g,cap',_,T,by rw[aF],hown,hnew,?_,fun o' ho'=>?_⟩
      ·refine⟨hT,?_⟩;rw[<-hcs];simp only[List.size_toArray,aF,bI,List.length_drop,Array.length_toList];omega
      ·rw[aF,Nat.add_mul]at ho';rw[<-hI'];unfold rN;rw[if_neg (by omega)];exact hfree o' (by omega)
    ·exact grow (some ⟨g,0,none⟩) cap' vs hv' hvs Y2 (run_firstCells_some (P:=P) w.drew ie.size es.length ⟨g,0,none⟩ _ cap' (fL vs) Z9 (fun k u hk=>by
       rw[Addr.add_lit];exact hG.holds _ _ _ (by simpa using hold k u hk))) hroom hle
  ·subst hxs;rw[lY]at hx Wj;simp only[dL]at hx;rw[<-lY]at Wj ⊢;refine Wj rfl hx ?_;rw[lY];cases hy:ys with
   |nil=>exact absurd hy hye
   |cons y0 ys0=>rfl
theorem zs9(hG:eH I j own O w)(hL:eI I j own lb N e a w){o:Oper}{t el:TypeId}{sz fG s:Nat}{ag:Bool}{x y:Operand}{x' y':dS}{zs:List Value}{c d r:Cell}{ys:List D}
  (ho:o.op=.call {callee:=.builtin .append,args:=⟨[x,y]⟩,argTypes:=⟨[t,t]⟩}) (hd:o.dst=some s) (hs:s<N) (hk:dT x x'=true) (hk1:dT y y'=true)
  (ht:nF P t=some el) (hsz:jV P el=some sz) (hz:rQ P el=some zs) (hzl:zs.length=sz) (hpos:0<sz) (hby:uP P el=some fG)
  (hc:eE e x'=some c) (hcd:eE e y'=some d) (hys:nB O.dE d.d=some ys) (hr:lM ⟨el,sz,ag⟩ fG c ys=some r):jF P N I j own w o a ((x'.drop e).put o.dst r) O:=by
 obtain⟨xs,hxs,Y1,hall,_⟩:=zbk hr;obtain⟨us,h1,h2,h3,h4⟩:=zb0 hG (uF ht) (gW hL hk1 hcd) hys hall;exact zk hG hL ho hd hs hk ht hsz hz hzl hpos hby hc hr (us:=us) (fun _=>⟨h1,h2,h4⟩)
theorem WY:∀(s:List UInt8),dV I j (Br s) (s.map fun b=>Value.int .u8 b.toNat)
 |[]=>by simp[Br,dV]
 |b::s=>by
  simp only[Br,aO,dV];exact⟨_,_,rfl,by simp only[dL],WY s⟩
theorem KV:∀(s:List UInt8),(Br s).length=s.length
 |[]=>rfl
 |_::s=>by simp only[Br,aG,KV s]
theorem XF:∀(s:List UInt8),fL (s.map fun b=>Value.int .u8 b.toNat)=s.map fun b=>Value.int .u8 b.toNat
 |[]=>rfl
 |b::s=>by
  have:=XF s;simp only[fL,aO,bE]at this ⊢;rw[this];rfl
theorem zq2(hG:eH I j own O w)(hL:eI I j own lb N e a w){o:Oper}{t tx el:TypeId}{fG s:Nat}{ag:Bool}{x y:Operand}{x' y':dS}{zs:List Value}{c d r:Cell}{str:List UInt8}
  (ho:o.op=.call {callee:=.builtin .append,args:=⟨[x,y]⟩,argTypes:=⟨[t,tx]⟩}) (hd:o.dst=some s) (hs:s<N) (hk:dT x x'=true) (hk1:dT y y'=true)
  (ht:nF P t=some el) (hsz:jV P el=some 1) (hz:rQ P el=some zs) (hzl:zs.length=1) (hby:uP P el=some fG) (htx:P.underlying tx=some .string)
  (hc:eE e x'=some c) (hcd:eE e y'=some d) (hds:d.d=.str str) (hr:lM ⟨el,1,ag⟩ fG c (Br str)=some r):jF P N I j own w o a ((x'.drop e).put o.dst r) O:=by
 have hy:=gW hL hk1 hcd;rw[hds]at hy;simp only[dL]at hy;refine zk hG hL ho hd hs hk ht hsz hz hzl (by omega) hby hc hr (us:=str.map fun b=>Value.int .u8 b.toNat) (fun _=>?_);refine⟨WY str,fun x hx=>?_,?_⟩
 ·obtain⟨b,_,rfl⟩:=bF.1 hx;rfl
 ·rw[hy,XF,KV];exact Src.ofString w htx ⟨⟨str⟩⟩
end
section
variable[kQ]{P:Program}{I:fU}{j:fJ}{own:gZ}{lb:fJ}{N:Nat}{e:Env}{a:Go.Act}{w:World}{O:Store}
theorem zih(hL:eI I j own lb N e a w){o:Oper}{mx:Bool}{ts:Array TypeId}{x y:Operand}{x' y':dS}(ho:o.op=.call {callee:=.builtin (if mx then .max else .min),args:=⟨[x,y]⟩,argTypes:=ts})(hk:dT x x'=true)(hk1:dT y y'=true){v:Val}
  (h:eQ (.mm mx x' y') e O=some v):∃u,(execOp a.eval o).run P w=.ok (.value u) w/\iO I j lb v u:=by
 simp only[eQ]at h;obtain⟨c,h1,h⟩:=dJ h;obtain⟨d,h2,h⟩:=dJ h;obtain⟨r,h3,h⟩:=dJ h;cases h;have hx:=gW hL hk h1;have hy:=gW hL hk1 h2;cases hc:c.d<;>rw[hc]at h3<;>simp only[VS,reduceCtorEq]at h3;cases hd:d.d<;>rw[hd]at h3<;>simp only[reduceCtorEq]at h3;rename_i k m k' n;obtain⟨_,h3⟩:=gQ h3;rw[hc]at hx;rw[hd]at hy;simp only[dL]at hx hy;simp only[aA]at h3;subst h3;cases mx with
 |true =>
  refine⟨.int k (if n>m then n else m),?_,?_⟩
  ·simp only[if_true]at ho;simp only[execOp,ho,resolve,invoke,builtin,Sem.run_bind,Sem.run_pure,Result.andThen_ok,List.map_toArray,aO,aZ,hx,hy,run_max_int2]
  ·simp only[iO,dQ,dL];by_cases hlt:m<n
   ·simp[hlt,dK]
   ·simp[hlt,dK]
 |false =>
  refine⟨.int k (if n<m then n else m),?_,?_⟩
  ·simp only[aE,if_false]at ho;simp only[execOp,ho,resolve,invoke,builtin,Sem.run_bind,Sem.run_pure,Result.andThen_ok,List.map_toArray,aO,aZ,hx,hy,run_min_int2]
  ·simp only[iO,dX,dL];by_cases hlt:n<m
   ·simp[hlt,dK]
   ·simp[hlt,dK]
theorem zn1{t el:TypeId}(ht:P.underlying t=some (.slice el))(b:Option Addr)(n c:Nat):(Op.equal t (.slice b n c) (.slice none 0 0)).run P w=.ok b.isNone w:=by show(Op.equalIn (9999+1) t (.slice b n c) (.slice none 0 0)).run P w=_;rw[Op.equalIn];simp only[Sem.run_bind,run_underlying ht,Result.andThen_ok];cases b<;>rfl
theorem zph{t k el:TypeId}(ht:P.underlying t=some (.map k el))(b:Option Nat):(Op.equal t (.map b) (.map none)).run P w=.ok b.isNone w:=by show(Op.equalIn (9999+1) t (.map b) (.map none)).run P w=_;rw[Op.equalIn];simp only[Sem.run_bind,run_underlying ht,Result.andThen_ok];cases b<;>rfl
theorem D9'{op:BinOp}{b:Bool}{d:D}(h:zX op b=some d){P:Program}{w:World}{t:TypeId}{x y:Value}(hi:∀k m,x≠.int k m)(hf:∀k m,x≠.float k m)(hc:∀k m n,x≠.complex k m n)(hs:∀m,x≠.string m)(he:(Op.equal t x y).run P w=.ok b w) :
  ∃r,d=.bool r/\(binOp op t x y).run P w=.ok (.bool r) w:=by
 cases op<;>simp only[zX,reduceCtorEq,aA]at h<;>subst h
 ·refine⟨b,rfl,?_⟩
  cases x<;>first
   |exact absurd rfl (hi _ _)
   |exact absurd rfl (hf _ _)
   |exact absurd rfl (hc _ _ _)
   |exact absurd rfl (hs _)
   |simp[binOp,he]
 ·refine⟨!b,rfl,?_⟩
  cases x<;>first
   |exact absurd rfl (hi _ _)
   |exact absurd rfl (hf _ _)
   |exact absurd rfl (hc _ _ _)
   |exact absurd rfl (hs _)
   |simp[binOp,he]
theorem BB'(op:BinOp)(t:TypeId)(x:Operand)(z v:Value)(hz:z=.slice none 0 0\/z=.map none):(eqGuard op t x (.const z) v z).run P w=.ok () w:=by unfold eqGuard;rcases hz with rfl|rfl<;>cases op<;>simp<;>cases v<;>simp
theorem zw6(hL:eI I j own lb N e a w){o:Oper}{op:BinOp}{t u:TypeId}{x:Operand}{y:dS}(ho:o.op=.binOp op t x (.const (.slice none 0 0)) u)(hk:dT x y=true)(ht:(nF P t).isSome=true){v:Val}
  (h:eQ (.zG op y) e O=some v):∃u,(execOp a.eval o).run P w=.ok (.value u) w/\iO I j lb v u:=by
 obtain⟨el,hel⟩:=aT.1 ht;have hu:=uF hel;simp only[eQ]at h;obtain⟨c,h1,h⟩:=dJ h;obtain⟨b,h2,h⟩:=dJ h;obtain⟨d,h3,h⟩:=dJ h;cases h;have hx:=gW hL hk h1;obtain⟨ad,n,cc,hv,hb⟩:∃ad n cc,a.eval x=.slice ad n cc/\ad.isNone=b:=by
  cases hc:c.d<;>rw[hc]at h2 hx
  case dN =>
   simp only[D.yV,aA]at h2;simp only[dL]at hx;exact⟨_,_,_,hx,h2⟩
  case list k es =>
   cases es with
   |nil=>simp only[D.yV,reduceCtorEq]at h2
   |cons x0 es0 =>
    simp only[D.yV,aA]at h2;simp only[dL]at hx;obtain⟨ad,cap,hv,_,_,h4⟩:=hx;rcases h4 with h4|⟨b',o',rfl,_⟩
    ·cases h4
    ·exact⟨_,_,_,hv,h2⟩
  case arr k id off len =>
   simp only[D.yV,aA]at h2;simp only[dL]at hx;obtain⟨b',c',ad,_,_,_,hv,_⟩:=hx;exact⟨_,_,_,hv,h2⟩
  all_goals simp only[D.yV,reduceCtorEq]at h2
 subst hb;obtain⟨r,rfl,hr⟩:=D9' h3 (P:=P) (w:=w) (t:=t) (x:=.slice ad n cc) (y:=.slice none 0 0) (fun _ _ h=>by cases h) (fun _ _ h=>by cases h) (fun _ _ _ h=>by cases h) (fun _ h=>by cases h) (zn1 hu ad n cc);refine⟨.bool r,?_,by simp only[iO,dL]⟩;have hz:a.eval (.const (.slice none 0 0))=.slice none 0 0:=rfl;simp only[execOp,ho,Sem.run_bind,hv,hz,BB' op t x _ _ (.inl rfl),Result.andThen_ok,hr,Sem.run_pure]
theorem Vz{t k el:TypeId}(h:zN P t=some (k,el)):P.underlying t=some (.map k el):=by
 unfold zN at h;split at h
 ·rename_i hm;cases h;exact hm
 ·cases h
theorem zw4(hL:eI I j own lb N e a w){o:Oper}{op:BinOp}{t u:TypeId}{x:Operand}{y:dS}(ho:o.op=.binOp op t x (.const (.map none)) u)(hk:dT x y=true)(ht:iP P t=true){v:Val}
  (h:eQ (.G7 op y) e O=some v):∃u,(execOp a.eval o).run P w=.ok (.value u) w/\iO I j lb v u:=by
 obtain⟨⟨kt,el⟩,hel⟩:=aT.1 ht;have hu:=Vz hel;simp only[eQ]at h;obtain⟨c,h1,h⟩:=dJ h;obtain⟨b,h2,h⟩:=dJ h;obtain⟨d,h3,h⟩:=dJ h;cases h;have hx:=gW hL hk h1;obtain⟨m,hv,hb⟩:∃m:Option Nat,a.eval x=.map m/\m.isNone=b:=by
  cases hc:c.d<;>rw[hc]at h2 hx
  case lH =>
   simp only[D.E8,aA]at h2;simp only[dL]at hx;exact⟨_,hx,h2⟩
  case map id =>
   simp only[D.E8,aA]at h2;simp only[dL]at hx;obtain⟨b',_,hv⟩:=hx;exact⟨_,hv,h2⟩
  all_goals simp only[D.E8,reduceCtorEq]at h2
 subst hb;obtain⟨r,rfl,hr⟩:=D9' h3 (P:=P) (w:=w) (t:=t) (x:=.map m) (y:=.map none) (fun _ _ h=>by cases h) (fun _ _ h=>by cases h) (fun _ _ _ h=>by cases h) (fun _ h=>by cases h) (zph hu m);refine⟨.bool r,?_,by simp only[iO,dL]⟩;have hz:a.eval (.const (.map none))=.map none:=rfl;simp only[execOp,ho,Sem.run_bind,hv,hz,BB' op t x _ _ (.inr rfl),Result.andThen_ok,hr,Sem.run_pure]
/-! ### Maps: keys -/
theorem zct(s s':List UInt8):((⟨⟨s⟩⟩:ByteArray)==⟨⟨s'⟩⟩)=(s==s'):=by show((⟨s⟩:Array UInt8)==⟨s'⟩)=(s==s');simp
theorem zrx{ks:Bool}{kt:TypeId}{td:TypeDesc}{k:D}{kv:Value}(htd:P.underlying kt=some td)(hkt:uY P ks kt=true)(hkd:wJ ks k=true)(hk:dL I j k kv):∀{es:List (D×D×Nat)}{l:List MapEntry}{r:Option (D×Nat×Nat)}(i:Nat),jR I j es l->nQ k es=some r ->
  match r with
   |none=>Instr.findNow td kv l i=some none
   |some (d,b,n)=>∃kG,Instr.findNow td kv l i=some (some (i+n,kG.val))/\l[n]?=some kG/\dL I j d kG.val/\kG.born=b/\kG.key=kv/\es[n]?=some (k,d,b):=by
 have hnow:∀{k':D}{VR:Value}{is:Bool},dL I j k' VR->IW k k'=some is->Instr.sameNow td kv VR=some is/\(is=true->k'=k/\VR=kv):=by
  intro k' VR is h1 hs;unfold uY at hkt;rw[htd]at hkt;cases k<;>simp only[wJ,aE]at hkd<;>cases k'<;>simp only[IW,reduceCtorEq]at hs<;>simp only[dL]at hk h1<;>rw[hk,h1]
  ·have hsk:=(gQ hs).1;have:=WU hsk;subst this;rw[hsk,dQ]at hs;simp only[aA]at hs;subst hs;rw[Bool.not_eq_true']at hkd;subst hkd;cases td<;>simp only[aE]at hkt;refine⟨by simp[Instr.sameNow],fun h=>?_⟩;simp only[beq_iff_eq]at h;subst h;exact⟨rfl,rfl⟩
  ·simp only[aA]at hs;subst hs;subst hkd;cases td<;>simp only[bZ,aE]at hkt;rename_i s s';refine⟨by simp only[Instr.sameNow,zct],fun h=>?_⟩
   ·simp only[beq_iff_eq]at h;subst h;exact⟨rfl,rfl⟩
 intro es;induction es with
 |nil =>intro l r i hE hf;simp only[jR]at hE;subst hE;simp only[nQ,aA]at hf;subst hf;rfl
 |cons x es ih =>
  intro l r i hE hf;obtain⟨k',v',b'⟩:=x;simp only[jR]at hE;obtain⟨e0,l',rfl,h1,h2,h3,h5⟩:=hE;simp only[nQ]at hf;obtain⟨is,hs,hf⟩:=dJ hf;obtain⟨n1,n2⟩:=hnow h1 hs;cases is with
  |true =>rw[dQ]at hf;simp only[aA]at hf;subst hf;obtain⟨rfl,n3⟩:=n2 rfl;exact⟨e0,by simp[Instr.findNow,n1],rfl,h2,h3,n3,rfl⟩
  |false =>
   rw[dX]at hf;obtain⟨r0,hf0,hf⟩:=dJ hf;have:=ih (i+1) h5 hf0;simp only[aA]at hf;subst hf;cases r0 with
   |none=>simpa[Instr.findNow,n1,qK]using this
   |some p =>obtain⟨d,b,n⟩:=p;obtain⟨kG,q1,q2,q3,q4,q5,q6⟩:=this;refine⟨kG,?_,by simpa using q2,q3,q4,q5,by simpa using q6⟩;simp only[Instr.findNow,n1,q1];congr 3;omega
theorem AZ{ks:Bool}{kt:TypeId}{k:D}{kv:Value}(hkt:uY P ks kt=true)(hkd:wJ ks k=true)(hk:dL I j k kv)(b:Bool):(Instr.checkKey b 10000 kt kv).run P w=.ok () w:=by
 show(Instr.checkKey b (9999+1) kt kv).run P w=_;unfold uY at hkt;rw[Instr.checkKey];split at hkt
 ·rename_i ik h;simp only[Sem.run_bind,run_underlying h,Result.andThen_ok];rfl
 ·rename_i h;simp only[Sem.run_bind,run_underlying h,Result.andThen_ok];rfl
 ·cases hkt
theorem zbhb{ks:Bool}{kt:TypeId}(hkt:uY P ks kt=true):∃td,P.underlying kt=some td:=by
 unfold uY at hkt;split at hkt
 ·rename_i h;exact⟨_,h⟩
 ·rename_i h;exact⟨_,h⟩
 ·cases hkt
theorem LD{ks:Bool}{kt:TypeId}{k:D}{kv:Value}(hkt:uY P ks kt=true)(hkd:wJ ks k=true)(hk:dL I j k kv){es:List (D×D×Nat)}{l:List MapEntry}{r:Option (D×Nat×Nat)}(hE:jR I j es l)(hf:nQ k es=some r) :
  match r with
   |none=>(Instr.findKey kt kv l).run P w=.ok none w
   |some (d,b,n)=>∃kG,(Instr.findKey kt kv l).run P w=.ok (some (n,kG.val)) w/\l[n]?=some kG/\dL I j d kG.val/\kG.born=b/\kG.key=kv/\es[n]?=some (k,d,b):=by
 obtain⟨td,htd⟩:=zbhb hkt;have:=zrx htd hkt hkd hk 0 hE hf;cases r with
 |none =>simp only at this;simp only[Instr.findKey,Sem.run_bind,run_underlying htd,Result.andThen_ok,this,Sem.run_pure]
 |some p =>obtain⟨d,b,n⟩:=p;obtain⟨kG,q1,q2⟩:=this;refine⟨kG,?_,q2⟩;simp only[Instr.findKey,Sem.run_bind,run_underlying htd,Result.andThen_ok,q1,Sem.run_pure,aN]
theorem Gm{b clock:Nat}{l:List MapEntry}(h:w.heap[b]?=some (.map ⟨l⟩ clock)):(getObj b).run P w=.ok (.map ⟨l⟩ clock) w:=by simp[getObj,Sem.run,h]
theorem zde(hG:eH I j own O w){d:D}{v:Value}{es:List (D×D×Nat)}(hr:dL I j d v)(h:Cb O.dP d=some es) :
  (v=.map none/\es=[])\/∃id b c l,d=.map id/\j id=some b/\own b=some (.obj id)/\v=.map (some b)/\dC O.dP id=some (.map es c)/\w.heap[b]?=some (.map ⟨l⟩ c)/\jR I j es l:=by
 cases d<;>simp only[Cb,reduceCtorEq]at h
 case lH =>
  simp only[aA]at h;simp only[dL]at hr;exact .inl ⟨hr,h.symm⟩
 case map id =>
  obtain⟨x,h1,h⟩:=dJ h;cases x<;>simp only[reduceCtorEq,aA]at h;subst h;simp only[dL]at hr;obtain⟨b,hb,hv⟩:=hr;obtain⟨b',q1,q2,l,q3,q4⟩:=hG.dP id _ h1;rw[hb]at q1;cases q1;exact .inr ⟨id,b,_,l,rfl,hb,q2,hv,h1,q3,q4⟩
theorem jR.length:∀{es:List (D×D×Nat)}{l:List MapEntry},jR I j es l->l.length=es.length
 |[],l,h=>by simp only[jR]at h;subst h;rfl
 |(k,v,b)::es,l,h=>by
  simp only[jR]at h;obtain⟨e0,l',rfl,_,_,_,h5⟩:=h;simp only[aG,jR.length h5]
theorem zw7(hG:eH I j own O w)(hL:eI I j own lb N e a w){o:Oper}{ks ok:Bool}{z:D}{zv:Value}{t kt el:TypeId}{x i:Operand}{x' i':dS}(ho:o.op=.lookup t x i ok)(hk:dT x x'=true)(hk1:dT i i'=true)(ht:zN P t=some (kt,el))(hkt:uY P ks kt=true)
  (hz:(P.info? el).bind (·.zero)=some zv) (hzc:oK z zv=true) {v:Val}
  (h:eQ (.lookup ks z ok x' i') e O=some v):∃u,(execOp a.eval o).run P w=.ok (.value u) w/\iO I j lb v u:=by
 simp only[eQ]at h;obtain⟨c,h1,h⟩:=dJ h;obtain⟨k,h2,h⟩:=dJ h;obtain⟨es,h3,h⟩:=dJ h;obtain⟨h4,h⟩:=gQ h;obtain⟨r,h5,h⟩:=dJ h;cases h;have hx:=gW hL hk h1;have hi:=gW hL hk1 h2;have hu:=Vz ht;have Qo:=BD I j z zv hzc;have Hl:(zeroValue el).run P w=.ok zv w:=by
  cases hie:P.info? el with
  |none=>rw[hie]at hz;cases hz
  |some ie =>rw[hie]at hz;simp only[Option.bind_some]at hz;simp[zeroValue,typeInfo,hie,hz]
 have oL:∀u,(Instr.lookup t (a.eval x) (a.eval i) ok).run P w=.ok u w->(execOp a.eval o).run P w=.ok (.value u) w:=(by intro u nU;simp only[execOp,ho,Sem.run_bind,nU,Result.andThen_ok,Sem.run_pure])
 obtain⟨l,hE,hrun⟩:∃l:List MapEntry,jR I j es l/\∀r0 u,(Instr.findKey kt (a.eval i) l).run P w=.ok r0 w->(match r0 with
   |some (_,v)=>u=(if ok then .tuple #[v,.bool true]else v)
   |none=>u=(if ok then .tuple #[zv,.bool false]else zv))->(Instr.lookup t (a.eval x) (a.eval i) ok).run P w=.ok u w:=by
  rcases zde hG hx h3 with⟨hv,rfl⟩|⟨id,b,cl,l,_,_,_,hv,_,hh,hE⟩
  ·refine⟨[],rfl,fun r0 u hf hu'=>?_⟩;have hck:=AZ (w:=w) hkt h4 hi (#[]:Array MapEntry).isEmpty;rw[hv];cases r0 with
   |none =>simp only at hu';subst hu';simp only[Instr.lookup,Sem.run_bind,run_underlying hu,Result.andThen_ok,Sem.run_pure,hck,hf,Hl]
   |some p =>simp only at hu';subst hu';simp only[Instr.lookup,Sem.run_bind,run_underlying hu,Result.andThen_ok,Sem.run_pure,hck,hf]
  ·refine⟨l,hE,fun r0 u hf hu'=>?_⟩;have hck:=AZ (w:=w) hkt h4 hi (⟨l⟩:Array MapEntry).isEmpty;rw[hv];cases r0 with
   |none =>simp only at hu';subst hu';simp only[Instr.lookup,Sem.run_bind,run_underlying hu,Result.andThen_ok,Gm hh,Sem.run_pure,hck,hf,Hl]
   |some p =>simp only at hu';subst hu';simp only[Instr.lookup,Sem.run_bind,run_underlying hu,Result.andThen_ok,Gm hh,Sem.run_pure,hck,hf]
 have yR:=LD (w:=w) hkt h4 hi hE h5;cases r with
 |none =>
  refine⟨_,oL _ (hrun none _ yR rfl),?_⟩;cases ok
  ·simpa only[iO,qK,dX,aE,if_false]using Qo
  ·simp only[iO,qK,dQ,dL,dV,if_true];exact⟨_,rfl,_,_,rfl,Qo,_,_,rfl,rfl,rfl⟩
 |some p =>
  obtain⟨d,b,n⟩:=p;obtain⟨kG,q1,q2,q3,_⟩:=yR;refine⟨_,oL _ (hrun _ _ q1 rfl),?_⟩;cases ok
  ·simpa only[iO,eP,dX,aE,if_false]using q3
  ·simp only[iO,eP,dQ,dL,dV,if_true];exact⟨_,rfl,_,_,rfl,q3,_,_,rfl,rfl,rfl⟩
theorem zdeb(hG:eH I j own O w)(hL:eI I j own lb N e a w){o:Oper}{t:TypeId}{x:Operand}{y:dS}(ho:o.op=.call {callee:=.builtin .len,args:=⟨[x]⟩,argTypes:=⟨[t]⟩})(hk:dT x y=true)
  (ht:iP P t=true) {v:Val} (h:eQ (.Ti y) e O=some v):∃u,(execOp a.eval o).run P w=.ok (.value u) w/\iO I j lb v u:=by
 obtain⟨⟨kt,el⟩,hel⟩:=aT.1 ht;have hu:=Vz hel;simp only[eQ]at h;obtain⟨c,h1,h⟩:=dJ h;obtain⟨es,h2,h⟩:=dJ h;cases h;have hx:=gW hL hk h1;have oL:∀u,(Builtin.len_ #[t] o.type #[a.eval x]).run P w=.ok u w->(execOp a.eval o).run P w=.ok (.value u) w:=by
  intro u nU;simp only[execOp,ho,resolve,invoke,builtin,Sem.run_bind,Sem.run_pure,Result.andThen_ok,List.map_toArray,aO,aZ,nU]
 refine⟨.int .i64 (es.length:Nat),oL _ ?_,by simp only[iO,dL]⟩;rcases zde hG hx h2 with⟨hv,rfl⟩|⟨id,b,cl,l,_,_,_,hv,_,hh,hE⟩
 ·rw[hv];simp[Builtin.len_,run_underlying hu,goInt]
 ·rw[hv];have:=hE.length;simp[Builtin.len_,run_underlying hu,Gm hh,goInt,this]
/-! ### A slice whose room is bounded -/
theorem zns{len cap l h:Nat}{lo:Option Value}{k k':IntKind}(hlo:lo=none/\l=0\/∃k,lo=some (.int k (l:Int)))(h1:l<=h)(h2:h<=cap) :
  (Instr.sliceBounds true len cap lo (some (.int k (h:Int))) (some (.int k' (h:Int)))).run P w=.ok (l,h,h) w:=by
 unfold Instr.sliceBounds
 rcases hlo with⟨rfl,rfl⟩|⟨k'',rfl⟩ <;>
  simp only[Sem.run_bind,Sem.run_pure,Result.andThen_ok,AY h2,AY (aM h),Option.isSome_some,if_true,AY h1]
theorem zwf(hL:eI I j own lb N e a w){o:Oper}{t:TypeId}{x:Operand}{x':dS}{lo:Option Operand}{hi mx:Operand}{lo':Option dS}{hi' mx':dS}{sz:Nat}(ho:o.op=.slice t x lo (some hi) (some mx))(hk:dT x x'=true)(hk1:Cc lo lo'=true)(hk2:dT hi hi'=true)(hk3:dT mx mx'=true)
  {el:TypeId} (ht:P.underlying t=some (.slice el)) (hsz:jV P el=some sz) {c ch cm:Cell} {l h m:Nat} {d:D}
  (h1:eE e x'=some c) (h2:zO e lo'=some l) (h3:eE e hi'=some ch) (h4:ch.d.nat?=some h) (h5:eE e mx'=some cm) (h6:cm.d.nat?=some m) (h7:EL sz c.d l h m=some d) :
  ∃u,(execOp a.eval o).run P w=.ok (.value u) w/\dL I j d u/\∀(t':Tag)(own':gZ),mD I own' w t' d u:=by
 have hr:=gW hL hk h1;have hlo:=kz hL hk1 h2;obtain⟨k1,hh⟩:=Ks h4 (gW hL hk2 h3);obtain⟨k2,hm⟩:=Ks h6 (gW hL hk3 h5);unfold EL at h7;obtain⟨hb,h70⟩:=gQ h7;clear h7;have h7:=h70;clear h70;simp only[aC,beq_iff_eq,cE]at hb;obtain⟨rfl,hle⟩:=hb;have hex:∀{base:Option Addr}{len cap:Nat},a.eval x=.slice base len cap->h<=cap->(execOp a.eval o).run P w=.ok (.value (.slice (if h=l then base else base.map (·.add (l*sz))) (h-l) (h-l))) w:=(by intro base len cap hv hc;simp only[execOp,ho,bN,hv,hh,hm,Instr.sliceAt,Instr.slice,Sem.run_bind,run_underlying ht,Result.andThen_ok,zns (P:=P) (w:=w) (len:=len) hlo hle hc,Az hsz,Sem.run_pure]);clear h1;cases hd:c.d<;>rw[hd]at h7 hr<;>simp only[reduceCtorEq]at h7<;>simp only[dL]at hr
 case dN =>
  obtain⟨h8,h9⟩:=gQ h7;clear h7;cases h9;simp only[beq_iff_eq]at h8;subst h8;have hl0:l=0:=by omega
  subst hl0;refine⟨_,hex hr (aM 0),by simp only[dL,if_true,Nat.sub_self],fun _ _=>trivial⟩
 case mV =>
  obtain⟨h8,h9⟩:=gQ h7;clear h7;cases h9;simp only[beq_iff_eq]at h8;subst h8;have hl0:l=0:=by omega
  subst hl0;obtain⟨ad,hr⟩:=hr;refine⟨_,hex hr (aM 0),by simp only[dL,if_true,Nat.sub_self];exact⟨ad,rfl⟩,fun _ _=>trivial⟩
 case arr k id off len =>
  obtain⟨h8,h9⟩:=gQ h7;clear h7;cases h9;simp only[aC,cE,beq_iff_eq]at h8;obtain⟨h8,rfl⟩:=h8;obtain⟨b,cc,ad,q1,q2,q3,hv,q4⟩:=hr;refine⟨_,hex hv (by omega),by simp only[dL,if_true,Nat.sub_self];exact⟨_,rfl⟩,fun _ _=>trivial⟩
 case list k es =>
  obtain⟨h8,h9⟩:=gQ h7;clear h7;rw[aC,aC,cE,beq_iff_eq,Bool.not_eq_true',beq_eq_false_iff_ne]at h8;obtain⟨⟨h8,rfl⟩,hel⟩:=h8;simp only[aA]at h9;have h7:=h9;clear h9;obtain⟨ad,cap,hv,hc,hmax,hrow⟩:=hr;refine⟨_,hex hv (by omega),?_⟩;by_cases hlh:l=h
  ·subst hlh;simp only[bW,dQ]at h7;subst h7;refine⟨by simp only[dL,if_true,Nat.sub_self];exact⟨ad,rfl⟩,fun _ _=>trivial⟩
  ·have:(l==h)=false:=by simpa using hlh
   rw[this,dX]at h7;subst h7;have hlen:((es.drop l).take (h-l)).length=h-l:=by
    simp only[bI,List.length_drop];omega
   rcases hrow with hrow|⟨b,off,rfl,hrow⟩
   ·subst hrow;simp at h8;omega
   ·rw[if_neg (by omega)];refine⟨?_,fun t' own'=>?_⟩
    ·simp only[dL];exact⟨_,h-l,by rw[hlen],by rw[hlen];omega,by omega,.inr ⟨b,off+l*k.sz,by simp[Addr.add_lit],(hrow.drop l).take _⟩⟩
    ·simp only[p9,Ko];exact .inl ⟨_,by rw[hlen],fun h=>absurd h hel⟩
end
end Go.Mx

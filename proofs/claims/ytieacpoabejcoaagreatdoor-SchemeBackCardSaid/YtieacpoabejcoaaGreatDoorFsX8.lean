/-
 DeleteFunc,run,as the program uses it.
-/
import Derived.Test.YtieacpoabejcoaaGreatDoorFsX4
import Derived.Test.YtieacpoabejcoaaGreatDoorFsX0
set_option maxHeartbeats 4000000
set_option linter.unusedSimpArgs false
set_option linter.unusedVariables false
set_option linter.unusedSectionVars false
namespace Go.Fu
open Go Go.Mx
set_option maxRecDepth 10000
structure DelR (vs l:List (List UInt8)) (id:Nat) (σ σ':Store):Prop where
 ex:∃ A:List (List UInt8),aget σ'.objs id=some (cellsOf (A.map D.str))∧A.take (keepV vs l).length=keepV vs l∧(keepV vs l).length≤A.length
 objs:∀ k,k≠id→aget σ'.objs k=aget σ.objs k
 wf:WF σ'
 tys:σ'.tys=σ.tys
 oth:σ'.oth=σ.oth
 next:σ'.next=σ.next
theorem ztz (vs l:List (List UInt8)) (i:Nat) (h:∀ j,∀ h:j < l.length,j < i→vs.contains l[j]=false):keepV vs (l.take i)=l.take i:=by
 unfold keepV
 rw [List.filter_eq_self]
 intro s hs
 obtain ⟨j,hj,rfl⟩:=List.getElem_of_mem hs
 have hj':j < l.length∧j < i:=by simp only [List.length_take] at hj; omega
 have:=h j hj'.1 hj'.2
 rw [List.getElem_take,this]
 rfl
theorem zmjb (vs l:List (List UInt8)) (hl:l.length < 1000000) (m:Nat) (hm:l.length + 5≤m) (σ:Store) (id cap:Nat) (rest:List Cell) (hw:WF σ) (hid:id < σ.next) (hne:cap≠id) (hcap:aget σ.objs cap=some (⟨false,dSs vs⟩ :: rest)) (ha:aget σ.objs id=some (cellsOf (l.map D.str)))
  (hc:∀ s∈l,∀ σ',aget σ'.objs cap=some (⟨false,dSs vs⟩ :: rest)→DelC (T (m + 1)) vs cap σ' s∧DelC (T m) vs cap σ' s) :
  ∃ σ',T (m + 2) n_76 [.arr k_0 id 0 l.length,.fn (.func n_16) [] [.ptr cap 0]] σ=some (.ret ⟨false,.arr k_0 id 0 (keepV vs l).length⟩,σ')∧DelR vs l id σ σ':=by
 rw [T_fun (af:=a_70) rfl rfl]
 rcases ixf m vs l σ id cap (by omega) (by omega) ha (fun s hs=>(hc s hs σ hcap).2) with ⟨i,hi,h1,h2,h3⟩ | ⟨h2,h3⟩
 ·have hk0:keepV vs (l.take (i + 1))=l.take i:=by
   rw [← zba l i hi]
   unfold keepV
   rw [List.filter_append]
   have:=ztz vs l i h2
   unfold keepV at this
   rw [this]
   simp only [List.filter_cons,h1,Bool.not_true,Bool.false_eq_true,if_false,List.filter_nil,List.append_nil]
  obtain ⟨⟨x,e,σ1⟩,hloop,hx1,i',A,hx2,hA,ht,hD,ho,hwf,hty,hot,hnx⟩:=zcp (body:=exec (T (m + 1)) (m + 1) none a_43) (DInv vs l id cap σ)
   (fun x=>x.1=.exit 0∧∃ (i':Nat) (A:List (List UInt8)),x.2.1={EDf id cap l.length i' l.length with slots:=[(0,⟨false,.arr k_0 id 0 l.length⟩),(1,⟨false,.fn (.func n_16) [] [.ptr cap 0]⟩),(5,⟨false,.int .i64 i'⟩),(6,⟨false,.int .i64 l.length⟩),(19,⟨false,.bool false⟩)]}∧A.length=l.length∧(A.take i'=keepV vs l∧i'≤l.length)∧aget x.2.2.objs id=some (cellsOf (A.map D.str))∧(∀ k,k≠id→aget x.2.2.objs k=aget σ.objs k)∧WF x.2.2∧x.2.2.tys=σ.tys∧x.2.2.oth=σ.oth∧x.2.2.next=σ.next) l.length
   (fun j e σ' hj h=>zfub vs l σ id cap rest hcap hne hid (by omega) (fun s hs σ' ho=>(hc s hs σ' ho).1) j e σ' hj h)
   (fun e σ' h=>by
    obtain ⟨i',A,rfl,hij,hA,ht,_,ha'⟩:=h.ex
    rw [List.take_length] at ht
    exact ⟨_,zmyb σ' id cap l.length i',fun _ _ h=>(by cases h),rfl,i',A,rfl,hA,⟨ht,hij⟩,ha',h.objs,h.wf,h.tys,h.oth,h.next⟩)
   (i + 1) (m + 1) (EDf id cap l.length i (i + 1)) σ (by omega) (by omega) ⟨⟨i,l,rfl,by omega,rfl,hk0.symm,rfl,ha⟩,fun _ _=>rfl,hw,rfl,rfl,rfl⟩
  simp only at hx1 hx2 hD ho hwf hty hot hnx
  subst hx1 hx2
  have hi':(keepV vs l).length=i':=by
   rw [← ht.1,List.length_take]; omega
  rw [hi']
  have w1:=zaj (i:=i) (by omega)
  have hne1:(((i:Nat):Int) == -1)=false:=beq_false_of_ne (by omega)
  have hsl:za2 1 (.arr k_0 id 0 l.length) i' none=some (.arr k_0 id (0 + i') (l.length - i')):=by
   have d1:decide (i'≤l.length)=true:=decide_eq_true ht.2
   rw [zgw]
   simp only [Option.getD_none,d1,decide_eq_true (Nat.le_refl l.length),k_47,beq_self_eq_true,Bool.and_self,zac]
  have hsl2:za2 1 (.arr k_0 id 0 l.length) 0 (some i')=some (.arr k_0 id 0 i'):=by
   have d1:decide (i'≤l.length)=true:=decide_eq_true ht.2
   rw [zgw]
   simp only [Option.getD_some,d1,decide_eq_true (Nat.zero_le i'),k_47,beq_self_eq_true,Bool.and_self,zac,Nat.sub_zero,Nat.add_zero]
  have hcl:zg2 σ1 1 [.str []] (.arr k_0 id (0 + i') (l.length - i'))=some (setO σ1 id (cellsOf ((A.take i' ++ List.replicate (A.length - i') []).map D.str))):=by
   have hlen:=zcr (z:=1) (A.map D.str) fun d hd=>(zfu A d hd).1
   rw [List.length_map,Nat.mul_one] at hlen
   have d1:decide ((0 + i' + (l.length - i')) * 1≤(cellsOf (A.map D.str)).length)=true:=decide_eq_true (by omega)
   have hp:=zmg A i' (by omega)
   rw [← row_S] at hp
   rw [← hA] at d1 ⊢
   simp only [zg2,hD,bindO,zab,k_47,beq_self_eq_true,List.length_cons,List.length_nil,Nat.zero_add,Nat.mul_one,Bool.and_self,Bool.true_and] at d1 ⊢
   rw [d1,zac,hp]
   rfl
  refine ⟨setO σ1 id (cellsOf ((A.take i' ++ List.replicate (A.length - i') []).map D.str)),?_,⟨⟨A.take i' ++ List.replicate (A.length - i') [],by rw [zc2,if_pos rfl],?_,?_⟩,fun k hk=>?_,zom hwf _ _ (by rw [hnx]; exact hid),hty,hot,hnx⟩⟩
  ·simp only [EDf,zeroI] at hloop
   rw [Nat.zero_add] at hcl
   simp only [a_70,sA,seval,kn,zeroI,lit1,lit2,lit3,lit4,lit5,lit6,lit7,lit8,fnq,memE,memOp,h3,hne1,w1,hloop,hsl,hsl2,hcl]
  ·have hlt:(A.take i').length=i':=by rw [List.length_take]; omega
   rw [hi',List.take_left' hlt]
   exact ht.1
  ·simp only [List.length_append,List.length_take,List.length_replicate]; omega
  ·rw [zc2,if_neg hk]
   exact ho k hk
 ·have hk:keepV vs l=l:=by
   have:=ztz vs l l.length (fun j hj _=>h2 j hj)
   rwa [List.take_length] at this
  refine ⟨σ,?_,⟨⟨l,ha,by rw [hk,List.take_length],by rw [hk]; exact Nat.le_refl _⟩,fun _ _=>rfl,hw,rfl,rfl,rfl⟩⟩
  rw [hk]
  simp only [a_70,sA,seval,kn,zeroI,lit1,lit2,lit3,lit4,lit5,lit6,lit7,lit8,fnq,h3]
theorem zmib (m:Nat) (f:D) (σ:Store):T (m + 3) n_76 [.nils,f] σ=some (.ret ⟨false,.nils⟩,σ):=by
 have h:T (m + 2) n_179 [.nils,f] σ=some (.ret ⟨false,.int .i64 (-1)⟩,σ):=by
  have hl:loopN (exec (T (m + 1)) (m + 1) none a_35) (m + 1) {slots:=[(0,⟨false,.nils⟩),(1,⟨false,f⟩),(7,⟨false,.int .i64 0⟩),(8,⟨false,.int .i64 0⟩)],locs:=[],boxes:=[],defers:=[]} σ=some (.exit 0,{slots:=[(0,⟨false,.nils⟩),(1,⟨false,f⟩),(7,⟨false,.int .i64 0⟩),(8,⟨false,.int .i64 0⟩),(9,⟨false,.bool false⟩)],locs:=[],boxes:=[],defers:=[]},σ):=za6 (by
   simp only [a_35,sA,seval,kn,zeroI,lit1,lit2,lit3,lit4,lit5,lit6,lit7,lit8,fnq])
  rw [T_fun (af:=a_71) rfl rfl]
  simp only [a_71,sA,seval,kn,zeroI,lit1,lit2,lit3,lit4,lit5,lit6,lit7,lit8,fnq,hl]
 rw [T_fun (af:=a_70) rfl rfl]
 simp only [a_70,sA,seval,kn,zeroI,lit1,lit2,lit3,lit4,lit5,lit6,lit7,lit8,fnq,h]
end Go.Fu
namespace Go.Fu
open Go Go.Mx
set_option maxRecDepth 10000
theorem zkd {k:RowK} {rest:List D}:∀ ds:List D,(∀ d∈ds,d.cells.length=k.sz∧packD k d.cells=d)→zdl k ds.length (((cellsOf ds).map fun c=>c.d) ++ rest)=ds
 | [],_=>rfl
 | d :: ds,h=>by
  obtain ⟨h1,h2⟩:=h d (by simp)
  have h3:=zkd (rest:=rest) ds fun x hx=>h x (List.mem_cons_of_mem _ hx)
  have e1:(d.cells.map Cell.of).map (fun c=>c.d)=d.cells:=by
   rw [List.map_map]
   exact List.map_id'' (fun _=>rfl) _
  simp only [List.length_cons,zdl,cellsOf,List.map_append,e1,List.append_assoc]
  rw [List.take_left' h1,List.drop_left' h1,h2,h3]
theorem zzm {id n k:Nat} {A:List (List UInt8)} {os:Objs} (ho:aget os id=some (cellsOf (A.map D.str))) (hk:k≤A.length):zax (n + 2) (.arr k_0 id 0 k) os=some (.list k_0 ((A.take k).map D.str),adel1 os id):=by
 have hl:=zcr (z:=1) (A.map D.str) fun d hd=>(zfu A d hd).1
 rw [List.length_map,Nat.mul_one] at hl
 have hag:(k_0.ag || k_0.sz == 1)=true:=rfl
 have e0:decide ((0 + k) * k_0.sz≤(cellsOf (A.map D.str)).length)=true:=decide_eq_true (by rw [k_47]; omega)
 have hsp:A.map D.str=(A.take k).map D.str ++ (A.drop k).map D.str:=by rw [← List.map_append,List.take_append_drop]
 have hel:elems k_0 (cellsOf (A.map D.str)) 0 k=(A.take k).map D.str:=by
  have:=zkd (k:=k_0) (rest:=(cellsOf ((A.drop k).map D.str)).map fun c=>c.d) ((A.take k).map D.str) (zfu _)
  rw [List.length_map,List.length_take,Nat.min_eq_left hk] at this
  unfold elems
  rw [hsp,zek,List.map_append,Nat.zero_mul,List.drop_zero]
  exact this
 have hf:=zit (n:=n + 1) (os:=adel1 os id) ((A.take k).map D.str) (fun d hd=>by obtain ⟨x,_,rfl⟩:=List.mem_map.1 hd; rfl)
 simp only [zhm,ho,bindO,zab,hag,e0,Bool.and_self,zac,hel,hf]
theorem zby {α:Type}:∀ (l:List (Nat × α)) (n i:Nat),i < n→aget (l.filter fun p=>decide (p.1 < n)) i=aget l i
 | [],_,_,_=>rfl
 | (k,x) :: l,n,i,h=>by
  have ih:=zby l n i h
  rw [List.filter_cons]
  by_cases hk:k < n
  ·rw [if_pos (by simpa using hk),aget,aget,ih]
  ·rw [if_neg (by simpa using hk),ih]
   have:(k == i)=false:=beq_false_of_ne (by omega)
   rw [aget,this,zad]
theorem ztx {σ σ':Store} (hw:WF σ) (h:Ext σ σ'):Ext σ (σ'.trunc σ.next):=by
 refine ⟨⟨fun p hp=>?_,fun p hp=>?_,fun p hp=>?_⟩,h.next,fun id hi=>?_,fun id hi=>?_,?_⟩
 ·exact h.wf.objs p (List.mem_filter.1 hp).1
 ·exact h.wf.tys p (List.mem_filter.1 hp).1
 ·exact h.wf.oth p (List.mem_filter.1 hp).1
 ·exact (zby _ _ _ hi).trans (h.objs id hi)
 ·exact (zby _ _ _ hi).trans (h.tys id hi)
 ·show (σ'.oth.filter fun p=>decide (p.1 < σ.next))=σ.oth
  rw [h.oth]
  exact zeq _ _ hw.oth
def ListD (l:List (List UInt8)) (d:D):Prop:=d=dSs l∨(l=[]∧d=.list k_0 [])
theorem apAny {σ0 σ σ1:Store} {r:D} {ls ys:List (List UInt8)} (h:ArrOf σ0 σ r ls) (hx:Ext σ σ1) (hl:ls.length + ys.length < 1048576):∃ r' σ',zbr σ1 k_0 16 r (ys.map D.str)=some (r',σ')∧ArrOf σ0 σ' r' (ls ++ ys):=by
 cases ys with
 | nil =>
  rw [List.append_nil]
  simp only [List.length_nil] at hl
  exact apA0 h hx (by omega)
 | cons y ys=>exact apA h hx (by simp) hl
def othA (t:Tp) (ps:List Pr):List (List UInt8):=freeT t ++ ps.flatMap fun p=>freeT p.ty
theorem zhgb (t:Tp) (ps:List Pr) (i:Nat) (h:i < ps.length):othA t (ps.take (i + 1))=othA t (ps.take i) ++ freeT ps[i].ty:=by
 rw [← zba ps i h]
 unfold othA
 rw [List.flatMap_append,← List.append_assoc]
 simp
section
variable {C:CallF} {n:Nat}
def EOt (cap:Nat) (r:D) (ps:List Pr) (i:Nat):Env:={slots:=[(1,⟨false,.ptr cap 0⟩),(3,⟨false,r⟩),(10,⟨false,dPs ps⟩),(11,⟨false,.int .i64 ps.length⟩),(12,⟨false,.int .i64 i⟩)],locs:=[],boxes:=[],defers:=[]}
theorem zj4b (t:Tp) (ps:List Pr) (cap:Nat) (σ0:Store) (hp:ps.length < 1000) (hf:∀ i,∀ h:i < ps.length,FreeC C ps[i].ty) (hlen:∀ i,i≤ps.length→(othA t (ps.take i)).length < 1048576) :
  ∀ (i:Nat) (e:Env) (σ:Store),i < ps.length→(∃ r,e=EOt cap r ps i∧ArrOf σ0 σ r (othA t (ps.take i)))→∃ e' σ',exec C n none zco e σ=some (.normal,e',σ')∧∃ r,e'=EOt cap r ps (i + 1)∧ArrOf σ0 σ' r (othA t (ps.take (i + 1))):=by
 rintro i e σ hi ⟨r,rfl,hr⟩
 obtain ⟨q,σ1,h1,hq⟩:=hf i hi σ hr.1.wf
 have hl:=hlen (i + 1) (by omega)
 rw [zhgb t ps i hi] at hl ⊢
 rw [List.length_append] at hl
 obtain ⟨r',σ',h2,hr'⟩:=apAny hr hq.1 hl
 refine ⟨EOt cap r' ps (i + 1),σ',?_,r',rfl,hr'⟩
 have hx:zaw 5 (dPs ps) i=some (.eptr (dP ps[i])):=idx_P ps i hi
 have hii:((i:Int) < (ps.length:Int)):=by omega
 have w1:=zaj (i:=i) (by omega)
 have hls:=zgub hq.isIn
 rw [dT_eq] at h1
 simp only [cT] at h1
 simp only [dP,cT] at hx
 simp only [zco,EOt,sA,seval,kn,zeroI,lit1,lit2,lit3,lit4,lit5,lit6,lit7,lit8,fnq,memE,memOp,Mx.part,hx,hii,h1,hls,h2,w1]
theorem znab (cap:Nat) (r:D) (ps:List Pr) (σ:Store):exec C n none zco (EOt cap r ps ps.length) σ=some (.exit 0,{EOt cap r ps ps.length with slots:=[(1,⟨false,.ptr cap 0⟩),(3,⟨false,r⟩),(10,⟨false,dPs ps⟩),(11,⟨false,.int .i64 ps.length⟩),(12,⟨false,.int .i64 ps.length⟩),(13,⟨false,.bool false⟩)]},σ):=by
 have hi:¬ ((ps.length:Int) < (ps.length:Int)):=by omega
 simp only [zco,EOt,sA,seval,kn,hi]
end
end Go.Fu
namespace Go.Fu
open Go Go.Mx
set_option maxRecDepth 10000
theorem zwg {e:Env} {σ:Store} {s:Nat} {d d':D} {os':Objs} (h0:aget e.slots s=some ⟨false,d⟩) (h1:zax 40 d σ.objs=some (d',os')) :
  zbo [.slot s] e σ=some ({e with slots:=aset e.slots s ⟨false,d'⟩},{objs:=os',tys:=σ.tys,oth:=σ.oth,next:=σ.next}):=by
 have hk:Cell.keeps ⟨false,d⟩=false:=by
  unfold Cell.keeps
  split <;> rfl
 simp only [zbo,zdf,h0,bindO,zab,h1,hk]
def scO (vs:List (List UInt8)) (ps:List Pr) (t:Tp):List Cell:=⟨false,dSs vs⟩ :: ⟨false,.nils⟩ :: ⟨false,dPs ps⟩ :: bT t
def scD (vs:List (List UInt8)) (ps:List Pr) (t:Tp):D:=.agg (dSs vs :: .nils :: dPs ps :: cT t)
theorem zbnb {σ:Store} (h:WF σ) (cs:List Cell) (ty:Ty):Ext σ {objs:=(σ.next,cs) :: σ.objs,tys:=(σ.next,ty) :: σ.tys,oth:=σ.oth,next:=σ.next + 1}:=zf5 h cs ty 1 (Nat.le_refl _)
theorem zd1b (vs:List (List UInt8)) (ps:List Pr) (t:Tp) (hv:vs.length < 1048576) (hp:ps.length < 1000) (hn:nT t < 100000) (hns:∀ p∈ps,nT p.ty < 100000) (hlen:∀ i,i≤ps.length→(othA t (ps.take i)).length < 1000000) :
  Evly fun n=>∀ σ,WF σ→∃ d σ',T n n_177 [scD vs ps t] σ=some (.ret ⟨false,d⟩,σ')∧ListD (keepV vs (othA t ps)) d∧Ext σ σ':=by
 have hfs:Evly fun n=>∀ i,i < ps.length→∀ h:i < ps.length,FreeC (T n) ps[i].ty:=Evly.below _ fun i hi=>(zjk ps[i].ty (hns _ (List.getElem_mem hi))).mono fun n h _=>h
 have hall:(othA t ps).length < 1000000:=by have:=hlen ps.length (Nat.le_refl _); rwa [List.take_length] at this
 have hds:Evly fun n=>∀ i,i < (othA t ps).length→∀ h:i < (othA t ps).length,∀ σ cap rest,aget σ.objs cap=some (⟨false,dSs vs⟩ :: rest)→DelC (T n) vs cap σ (othA t ps)[i]:=Evly.below _ fun i hi=>(zd0b vs hv (othA t ps)[i]).mono fun n h _=>h
 have hd2:Evly fun n=>∀ σ cap id rest,WF σ→id < σ.next→cap≠id→aget σ.objs cap=some (⟨false,dSs vs⟩ :: rest)→aget σ.objs id=some (cellsOf ((othA t ps).map D.str))→∃ σ',T n n_76 [.arr k_0 id 0 (othA t ps).length,.fn (.func n_16) [] [.ptr cap 0]] σ=some (.ret ⟨false,.arr k_0 id 0 (keepV vs (othA t ps)).length⟩,σ')∧DelR vs (othA t ps) id σ σ':=by
  obtain ⟨N,hN⟩:=hds
  refine ⟨N + (othA t ps).length + 10,fun n hn σ cap id rest hw hid hne hcap ha=>?_⟩
  obtain ⟨m,rfl⟩:∃ m,n=m + 2:=⟨n - 2,by omega⟩
  refine zmjb vs (othA t ps) hall m (by omega) σ id cap rest hw hid hne hcap ha fun s hs σ' ho=>?_
  obtain ⟨i,hi,rfl⟩:=List.getElem_of_mem hs
  exact ⟨hN (m + 1) (by omega) i hi hi σ' cap rest ho,hN m (by omega) i hi hi σ' cap rest ho⟩
 have hd0:Evly fun n=>∀ f σ,T n n_76 [.nils,f] σ=some (.ret ⟨false,.nils⟩,σ):=⟨3,fun n hn f σ=>by
  obtain ⟨m,rfl⟩:∃ m,n=m + 3:=⟨n - 3,by omega⟩
  exact zmib m f σ⟩
 refine ((zjk t hn).and (hfs.and (hd2.and hd0))).step (ps.length + 4) fun m hm h σ hw=>?_
 obtain ⟨e1,e2,e3,e4⟩:=h
 have hxb:=zbnb hw (scO vs ps t) ⟨t_52,0⟩
 obtain ⟨r1,σ1,h1,hr1⟩:=e1 _ hxb.wf
 have hr1':ArrOf {objs:=(σ.next,scO vs ps t) :: σ.objs,tys:=(σ.next,⟨t_52,0⟩) :: σ.tys,oth:=σ.oth,next:=σ.next + 1} σ1 r1 (othA t (ps.take 0)):=by
  simp only [othA,List.take_zero,List.flatMap_nil,List.append_nil]
  exact hr1
 obtain ⟨⟨x,e,σ2⟩,hloop,hx1,r2,hx2,hr2⟩:=zcp (body:=exec (T m) m none zco) (fun i e σ'=>∃ r,e=EOt σ.next r ps i∧ArrOf {objs:=(σ.next,scO vs ps t) :: σ.objs,tys:=(σ.next,⟨t_52,0⟩) :: σ.tys,oth:=σ.oth,next:=σ.next + 1} σ' r (othA t (ps.take i)))
  (fun x=>x.1=.exit 0∧∃ r,x.2.1={EOt σ.next r ps ps.length with slots:=[(1,⟨false,.ptr σ.next 0⟩),(3,⟨false,r⟩),(10,⟨false,dPs ps⟩),(11,⟨false,.int .i64 ps.length⟩),(12,⟨false,.int .i64 ps.length⟩),(13,⟨false,.bool false⟩)]}∧ArrOf {objs:=(σ.next,scO vs ps t) :: σ.objs,tys:=(σ.next,⟨t_52,0⟩) :: σ.tys,oth:=σ.oth,next:=σ.next + 1} x.2.2 r (othA t ps)) ps.length
  (zj4b t ps σ.next _ hp (fun i hi=>e2 i hi hi) (fun i hi=>by have:=hlen i hi; omega))
  (fun e σ' h=>by
   obtain ⟨r,rfl,hr⟩:=h
   rw [List.take_length] at hr
   exact ⟨_,znab σ.next r ps σ',fun _ _ h=>(by cases h),rfl,r,rfl,hr⟩) 0 m (EOt σ.next r1 ps 0) σ1 (by omega) (by omega) ⟨r1,rfl,hr1'⟩
 simp only at hx1 hx2 hr2
 subst hx1 hx2
 have ho1:aget σ1.objs σ.next=some (scO vs ps t):=(hr1.1.objs σ.next (by simp)).trans (by simp [aget,ifB])
 have ho2:aget σ2.objs σ.next=some (scO vs ps t):=(hr2.1.objs σ.next (by simp)).trans (by simp [aget,ifB])
 have hlp:lenOf (dPs ps)=some ps.length:=by simp only [dPs,zbs,List.length_map]
 have key:∃ d0 d σ3 os,T m n_76 [r2,.fn (.func n_16) [] [.ptr σ.next 0]] σ2=some (.ret ⟨false,d0⟩,σ3)∧zax 40 d0 σ3.objs=some (d,os)∧ListD (keepV vs (othA t ps)) d∧d.ok=true∧Ext σ {objs:=os,tys:=σ3.tys,oth:=σ3.oth,next:=σ3.next}:=by
  have hx2:=hxb.trans hr2.1
  rcases hr2.2 with ⟨hnil,rfl⟩ | ⟨id,rfl,g1,g2,g3,g4,g5⟩
  ·refine ⟨.nils,.nils,σ2,σ2.objs,e4 _ σ2,rfl,.inl (by rw [hnil]; rfl),rfl,hx2⟩
  ·obtain ⟨σ3,hd,hR⟩:=e3 σ2 σ.next id (⟨false,.nils⟩ :: ⟨false,dPs ps⟩ :: bT t) hr2.1.wf g4 (by simp only at g3; omega) ho2 g1
   obtain ⟨A,hA,hA1,hA2⟩:=hR.ex
   have hfz:=zzm (n:=38) hA hA2
   rw [hA1] at hfz
   refine ⟨_,_,σ3,_,hd,hfz,?_,rfl,⟨⟨fun p hp=>hR.wf.objs p (zeb _ _ _ hp),hR.wf.tys,hR.wf.oth⟩,?_,fun i hi=>?_,fun i hi=>?_,?_⟩⟩
   ·cases hkk:keepV vs (othA t ps) with
    | nil=>exact .inr ⟨rfl,rfl⟩
    | cons a b=>exact .inl rfl
   ·show σ.next≤σ3.next
    rw [hR.next]; exact hx2.next
   ·have hne:i≠id:=by simp only at g3; omega
    rw [← hx2.objs i hi,← hR.objs i hne]
    exact zam _ _ _ hne
   ·show aget σ3.tys i=_
    rw [hR.tys]; exact hx2.tys i hi
   ·show σ3.oth=_
    rw [hR.oth]; exact hx2.oth
 obtain ⟨d0,d,σ3,os,hd,hfz,hLD,hok,hxt⟩:=key
 refine ⟨d,Store.trunc {objs:=os,tys:=σ3.tys,oth:=σ3.oth,next:=σ3.next} σ.next,?_,hLD,ztx hw hxt⟩
 have hz:=fun (e:Env) (he:aget e.slots 2=some ⟨false,d0⟩)=>zwg (e:=e) (σ:=σ3) (s:=2) he hfz
 rw [T_fun (af:=zfd) rfl rfl]
 rw [dT_eq t] at h1
 simp only [EOt,zeroI] at hloop
 simp only [scO,bT] at h1 ho1
 simp only [scD,cT] at h1 ⊢
 simp only [zfd,sA,seval,kn,zeroI,lit1,lit2,lit3,lit4,lit5,lit6,lit7,lit8,fnq,memE,memOp,h1,ho1,hlp,hloop,hd,zee,hz]
end Go.Fu
namespace Go.Fu
open Go Go.Mx
set_option maxRecDepth 10000
section
variable {C:CallF} {n:Nat} {σ:Store}
end
end Go.Fu
namespace Go.Fu
open Go Go.Mx
set_option maxRecDepth 10000
def putP (names:List (List UInt8)) (bys:List Tp) (p:Pr):Pr:=⟨p.cls,subT names bys p.ty⟩
section
variable {C:CallF} {n:Nat} {σ:Store}
def Epu (vs ks:D) (ps:List Pr) (t:Tp) (names:List (List UInt8)) (bys:List Tp) (i:Nat):Env:={slots:=[(1,⟨false,dSs names⟩),(2,⟨false,dTs bys⟩),(8,⟨ow i,dlist k_1 (((ps.map (putP names bys)).take i).map dP)⟩),(12,⟨false,dlist k_1 (ps.map dP)⟩),(13,⟨false,.int .i64 ps.length⟩),(14,⟨false,.int .i64 i⟩)],locs:=[(3,3,0),(7,7,0)],boxes:=[(3,⟨false,vs⟩ :: ⟨false,ks⟩ :: ⟨false,dlist k_1 (ps.map dP)⟩ :: bT t),(7,[⟨false,.int .i64 0⟩,⟨false,.int .i64 0⟩,⟨false,.str []⟩,⟨false,.nils⟩])],defers:=[]}
theorem zd6b (ps:List Pr) (names:List (List UInt8)) (bys:List Tp) (i:Nat) (h:i < ps.length) (hl:ps.length < 1048576) :
  zbb k_1 72 ⟨ow i,dlist k_1 (((ps.map (putP names bys)).take i).map dP)⟩ [dP (putP names bys ps[i])]=some ⟨true,dlist k_1 (((ps.map (putP names bys)).take (i + 1)).map dP)⟩:=by
 have h':i < (ps.map (putP names bys)).length:=by simpa using h
 have ha:=zvk ((ps.map (putP names bys)).take i) (ps.map (putP names bys))[i] (ow i) ow_ne (by simp; omega)
 rw [zba _ _ h'] at ha
 simpa using ha
theorem zksb (vs ks:D) (ps:List Pr) (t:Tp) (names:List (List UInt8)) (bys:List Tp) (i:Nat) (h:i < ps.length) (hl:ps.length < 1048576)
  (hc:C n_26 [dT ps[i].ty,dSs names,dTs bys] σ=some (.ret ⟨false,dT (subT names bys ps[i].ty)⟩,σ)):exec C n none zde (Epu vs ks ps t names bys i) σ=some (.normal,Epu vs ks ps t names bys (i + 1),σ):=by
 have hi:((i:Int) < (ps.length:Int)):=by omega
 have hx:=idx_P ps i h
 have ha:=zd6b ps names bys i h hl
 rw [dT_eq,dT_eq] at hc
 simp only [putP,dP,cT] at hc hx ha
 simp only [zde,Epu,putP,bT,sA,seval,kn,hi,hx,hc,ha,zaj (i:=i) (by omega),zd0]
theorem znqb (vs ks:D) (ps:List Pr) (t:Tp) (names:List (List UInt8)) (bys:List Tp):exec C n none zde (Epu vs ks ps t names bys ps.length) σ=some (.exit 0,{Epu vs ks ps t names bys ps.length with slots:=[(1,⟨false,dSs names⟩),(2,⟨false,dTs bys⟩),(8,⟨ow ps.length,dlist k_1 ((ps.map (putP names bys)).map dP)⟩),(12,⟨false,dlist k_1 (ps.map dP)⟩),(13,⟨false,.int .i64 ps.length⟩),(14,⟨false,.int .i64 ps.length⟩),(15,⟨false,.bool false⟩)]},σ):=by
 have hi:¬ ((ps.length:Int) < (ps.length:Int)):=by omega
 have ht:(ps.map (putP names bys)).take ps.length=ps.map (putP names bys):=List.take_of_length_le (by simp)
 simp only [zde,Epu,bT,sA,seval,kn,hi,ht]
end
theorem zhx {α:Type} {f:α→D} (hf:∀ a,noPtr (f a)=true):∀ l:List α,zaz (l.map f)=true
 | []=>rfl
 | x :: r=>by simp only [List.map_cons,zaz,hf,zhx hf r,Bool.and_self]
theorem zkj {k:RowK}:∀ {l:List D},zaz l=true→noPtr (dlist k l)=true
 | [],_=>rfl
 | x :: r,h=>h
theorem zfl:∀ t:Tp,noPtr (dT t)=true
 | .hole n=>rfl
 | .var s=>rfl
 | .con s=>rfl
 | .app f a=>by
  have h1:=zfl f
  have h2:=zfl a
  simp only [dT,noPtr,zaz,h1,h2,Bool.and_self]
theorem zj6 (t:Tp):zaz (cT t)=true:=by
 have:=zfl t
 rw [dT_eq] at this
 exact this
theorem zkxb (p:Pr):noPtr (dP p)=true:=by
 simp only [dP,noPtr,zaz,zj6,Bool.and_self]
theorem zhy (l:List Pr):noPtr (dPs l)=true:=zkj (zhx zkxb l)
theorem zny (l:List Tp):noPtr (dTs l)=true:=zkj (zhx zfl l)
theorem zhz (l:List (List UInt8)):noPtr (dSs l)=true:=zkj (zhx (fun _=>rfl) l)
theorem zp3b (vs ks:D) (hv:noPtr vs=true) (hk:noPtr ks=true) (ps:List Pr) (t:Tp) (names:List (List UInt8)) (bys:List Tp) (hp:ps.length < 1048576) (hl:names.length < 1048576) (hb:bys.length=names.length) :
  OkP n_50 [.agg (vs :: ks :: dPs ps :: cT t),dSs names,dTs bys] ⟨false,.tup [dPs (ps.map (putP names bys)),dT (subT names bys t)]⟩:=by
 have hk2:Evly fun n=>∀ i,i < ps.length→∀ (h:i < ps.length) σ,T n n_26 [dT ps[i].ty,dSs names,dTs bys] σ=some (.ret ⟨false,dT (subT names bys ps[i].ty)⟩,σ) :=
  Evly.below _ fun i hi=>(zgo names bys hl hb ps[i].ty).mono fun n h _ σ=>h σ
 obtain ⟨N,hN⟩:=hk2.and (zgo names bys hl hb t)
 obtain ⟨m,rfl⟩:∃ m,m=N + ps.length + 2:=⟨_,rfl⟩
 have hrun:=hN (N + ps.length + 2) (by omega)
 refine zkp (zse (N + ps.length + 2)) zg0 (n:=N + ps.length + 2) (σ':=σ0) rfl Go.Proofs.Tryz.func37 zs8 rfl ?_ ?_ ?_
 ·simp only [zaz,noPtr,hv,hk,zhy,zj6,zhz,zny,Bool.and_self]
 ·simp only [noPtr,zaz,zhy,zfl,Bool.and_self]
 show finX Ra (fun _ _ _=>none) zjh 0 _=_
 have hloop:=zbz (body:=exec (T (N + ps.length + 2)) (N + ps.length + 2) none zde) (Epu vs ks ps t names bys) (fun _=>σ0) ps.length (r:=_) (fun _ _ h=>by cases h) (fun i hi=>zksb vs ks ps t names bys i hi hp (hrun.1 i hi hi σ0)) (znqb vs ks ps t names bys) 0 (N + ps.length + 2) (by omega) (by omega)
 simp only [Epu,bT,zeroI,List.take_zero,List.map_nil,zc0,zd1] at hloop
 have h2:=hrun.2 σ0
 rw [dT_eq,dT_eq (subT names bys t)] at h2
 rw [dT_eq (subT names bys t)]
 simp only [cT] at h2
 simp only [zjh,sA,seval,kn,dPs,cT,List.length_map,hloop,h2]
end Go.Fu
namespace Go.Fu
open Go Go.Mx
set_option maxRecDepth 10000
def ArrK (k:RowK) (σ0 σ:Store) (r:D) (ds:List D):Prop:=Ext σ0 σ∧((ds=[]∧r=.nils)∨∃ id,r=.arr k id 0 ds.length∧aget σ.objs id=some (cellsOf ds)∧aget σ.tys id=some ⟨k.el,k.sz⟩∧σ0.next≤id∧id < σ.next∧ds≠[])
theorem ArrK.len {k:RowK} {σ0 σ:Store} {r:D} {ds:List D} (h:ArrK k σ0 σ r ds):lenOf r=some ds.length:=by
 rcases h.2 with ⟨rfl,rfl⟩ | ⟨id,rfl,_⟩ <;> rfl
theorem apK {k:RowK} {σ0 σ:Store} {r y:D} {ds:List D} (by_:Nat) (h:ArrK k σ0 σ r ds) (hs:∀ d∈ds,d.cells.length=k.sz) (hk:y.ok=true) (hy:y.cells.length=k.sz) (hb:(ds.length + 1) * by_≤bound) (hb2:ds.length + 1≤bound) :
  ∃ r' σ',zbr σ k by_ r [y]=some (r',σ')∧ArrK k σ0 σ' r' (ds ++ [y]):=by
 rcases h.2 with ⟨rfl,rfl⟩ | ⟨id,rfl,h1,h2,h3,h4,h5⟩
 ·refine ⟨_,_,zje hk hy (by simpa using hb),h.1.trans (zf5 h.1.wf (cellsOf [y]) _ 2 (by omega)),.inr ⟨σ.next,?_,?_,?_,h.1.next,?_,by simp⟩⟩
  ·simp
  ·simp [aget,ifB]
  ·simp [aget,ifB]
  ·simp only; omega
 ·refine ⟨_,_,zjd (os:=adel1 σ.objs id) h1 h2 rfl hs hk hy hb hb2,?_,.inr ⟨σ.next,?_,?_,?_,h.1.next,?_,by simp⟩⟩
  ·have hd:Ext σ0 {objs:=adel1 σ.objs id,tys:=σ.tys,oth:=σ.oth,next:=σ.next}:=by
    refine ⟨⟨fun p hp=>h.1.wf.objs p (zeb _ _ _ hp),h.1.wf.tys,h.1.wf.oth⟩,h.1.next,fun i hi=>?_,h.1.tys,h.1.oth⟩
    rw [← h.1.objs i hi]
    exact zam _ _ _ (by omega)
   exact hd.trans (zf5 hd.wf (cellsOf (ds ++ [y])) _ 2 (by omega))
  ·simp
  ·simp [aget,ifB]
  ·simp [aget,ifB]
  ·simp only; omega
section
variable {C:CallF} {n:Nat}
def EPt (vs:List (List UInt8)) (ps:List Pr) (t:Tp) (names:List (List UInt8)) (bys:List Tp) (r:D) (i:Nat):Env:={slots:=[(1,⟨false,dSs names⟩),(2,⟨false,dTs bys⟩),(8,⟨false,r⟩),(12,⟨false,dPs ps⟩),(13,⟨false,.int .i64 ps.length⟩),(14,⟨false,.int .i64 i⟩)],locs:=[(3,3,0),(7,7,0)],boxes:=[(3,scO vs ps t),(7,[⟨false,.int .i64 0⟩,⟨false,.int .i64 0⟩,⟨false,.str []⟩,⟨false,.nils⟩])],defers:=[]}
theorem zj5b (vs:List (List UInt8)) (ps:List Pr) (t:Tp) (names:List (List UInt8)) (bys:List Tp) (σ0:Store) (hp:ps.length < 1000)
  (hf:∀ i,∀ h:i < ps.length,∀ σ,C n_26 [dT ps[i].ty,dSs names,dTs bys] σ=some (.ret ⟨false,dT (subT names bys ps[i].ty)⟩,σ)) :
  ∀ (i:Nat) (e:Env) (σ:Store),i < ps.length→(∃ r,e=EPt vs ps t names bys r i∧ArrK k_1 σ0 σ r (((ps.map (putP names bys)).take i).map dP))→∃ e' σ',exec C n none a_85 e σ=some (.normal,e',σ')∧∃ r,e'=EPt vs ps t names bys r (i + 1)∧ArrK k_1 σ0 σ' r (((ps.map (putP names bys)).take (i + 1)).map dP):=by
 rintro i e σ hi ⟨r,rfl,hr⟩
 have h1:=hf i hi σ
 have hlen:(((ps.map (putP names bys)).take i).map dP).length=i:=by simp; omega
 obtain ⟨r',σ',h2,hr'⟩:=apK 72 (y:=dP (putP names bys ps[i])) hr (fun d hd=>by obtain ⟨x,_,rfl⟩:=List.mem_map.1 hd; exact zf4 _) (ok_dP _) (zf4 _) (by rw [hlen]; show (i + 1) * 72≤1099511627776; omega) (by rw [hlen]; show i + 1≤1099511627776; omega)
 have hq:((ps.map (putP names bys)).take i).map dP ++ [dP (putP names bys ps[i])]=((ps.map (putP names bys)).take (i + 1)).map dP:=by
  have:=zba (ps.map (putP names bys)) i (by simpa using hi)
  rw [← this]
  simp
 rw [hq] at hr'
 refine ⟨EPt vs ps t names bys r' (i + 1),σ',?_,r',rfl,hr'⟩
 have hx:zaw 5 (dPs ps) i=some (.eptr (dP ps[i])):=idx_P ps i hi
 have hii:((i:Int) < (ps.length:Int)):=by omega
 have w1:=zaj (i:=i) (by omega)
 rw [dT_eq,dT_eq] at h1
 simp only [cT] at h1
 simp only [dP,cT] at hx
 simp only [dP,cT,putP] at h2
 simp only [a_85,EPt,scO,bT,sA,seval,kn,zeroI,lit1,lit2,lit3,lit4,lit5,lit6,lit7,lit8,fnq,memE,memOp,Mx.part,zdp,hx,hii,h1,h2,w1]
theorem znbb (vs:List (List UInt8)) (ps:List Pr) (t:Tp) (names:List (List UInt8)) (bys:List Tp) (r:D) (σ:Store):exec C n none a_85 (EPt vs ps t names bys r ps.length) σ=some (.exit 0,{EPt vs ps t names bys r ps.length with slots:=[(1,⟨false,dSs names⟩),(2,⟨false,dTs bys⟩),(8,⟨false,r⟩),(12,⟨false,dPs ps⟩),(13,⟨false,.int .i64 ps.length⟩),(14,⟨false,.int .i64 ps.length⟩),(15,⟨false,.bool false⟩)]},σ):=by
 have hi:¬ ((ps.length:Int) < (ps.length:Int)):=by omega
 simp only [a_85,EPt,sA,seval,kn,hi]
end
theorem zlbb (vs:List (List UInt8)) (ps:List Pr) (t:Tp) (names:List (List UInt8)) (bys:List Tp) (hp:ps.length < 1000) (hl:names.length < 1048576) (hb:bys.length=names.length) :
  Evly fun n=>∀ σ,WF σ→∃ r σ',T n n_50 [scD vs ps t,dSs names,dTs bys] σ=some (.ret ⟨false,.tup [r,dT (subT names bys t)]⟩,σ')∧ArrK k_1 σ σ' r ((ps.map (putP names bys)).map dP):=by
 have hk:Evly fun n=>∀ i,i < ps.length→∀ (h:i < ps.length) σ,T n n_26 [dT ps[i].ty,dSs names,dTs bys] σ=some (.ret ⟨false,dT (subT names bys ps[i].ty)⟩,σ) :=
  Evly.below _ fun i hi=>(zgo names bys hl hb ps[i].ty).mono fun n h _ σ=>h σ
 refine (hk.and (zgo names bys hl hb t)).step (ps.length + 4) fun m hm h σ hw=>?_
 obtain ⟨⟨x,e,σ3⟩,hloop,hx1,r,hx2,hr⟩:=zcp (body:=exec (T m) m none a_85) (fun i e σ'=>∃ r,e=EPt vs ps t names bys r i∧ArrK k_1 σ σ' r (((ps.map (putP names bys)).take i).map dP))
  (fun x=>x.1=.exit 0∧∃ r,x.2.1={EPt vs ps t names bys r ps.length with slots:=[(1,⟨false,dSs names⟩),(2,⟨false,dTs bys⟩),(8,⟨false,r⟩),(12,⟨false,dPs ps⟩),(13,⟨false,.int .i64 ps.length⟩),(14,⟨false,.int .i64 ps.length⟩),(15,⟨false,.bool false⟩)]}∧ArrK k_1 σ x.2.2 r ((ps.map (putP names bys)).map dP)) ps.length
  (zj5b vs ps t names bys σ hp (fun i hi σ=>h.1 i hi hi σ))
  (fun e σ' hp=>by
   obtain ⟨r,rfl,hr⟩:=hp
   have ht:(ps.map (putP names bys)).take ps.length=ps.map (putP names bys):=List.take_of_length_le (by simp)
   rw [ht] at hr
   exact ⟨_,znbb vs ps t names bys r σ',fun _ _ h=>(by cases h),rfl,r,rfl,hr⟩) 0 m (EPt vs ps t names bys .nils 0) σ (by omega) (by omega) ⟨.nils,rfl,Ext.refl hw,.inl ⟨rfl,rfl⟩⟩
 simp only at hx1 hx2 hr
 subst hx1 hx2
 refine ⟨r,σ3,?_,hr⟩
 have h2:=h.2 σ3
 have hlp:lenOf (dPs ps)=some ps.length:=by simp only [dPs,zbs,List.length_map]
 rw [dT_eq,dT_eq (subT names bys t)] at h2
 rw [dT_eq (subT names bys t)]
 simp only [EPt,scO,bT,zeroI] at hloop
 simp only [cT] at h2 ⊢
 have hok:(dPs ps).ok=true:=zjs
 have hon:(dPs ps).one=true:=zbp
 rw [T_fun (af:=a_152) rfl rfl]
 simp only [a_152,scD,cT,sA,seval,kn,zeroI,lit1,lit2,lit3,lit4,lit5,lit6,lit7,lit8,fnq,memE,memOp,hlp,hloop,h2]
end Go.Fu
namespace Go.Fu
open Go Go.Mx
set_option maxRecDepth 10000
theorem zw8 (l:List (List UInt8)):(dSs l).ok=true:=zjs
theorem zm9 (l:List (List UInt8)):(dSs l).cells=[dSs l]:=zhk
theorem zta (l:List (List UInt8)):(dSs l).one=true:=zbp
theorem zds {α:Type} (l:List (Nat × α)) (i:Nat) (x:α):aget (aset l i x) i=some x:=by rw [zak,if_pos rfl]
theorem zhs {α:Type}:∀ (l:List (Nat × α)) (i:Nat) (x y:α),aset (aset l i x) i y=aset l i y
 | [],i,x,y=>by simp [aset,ifB]
 | (k,v) :: l,i,x,y=>by
  have ih:=zhs l i x y
  simp only [aset]
  cases h1:k == i with
  | true=>simp only [zac,aset,h1]
  | false =>
   simp only [zad]
   cases h2:Nat.ble i k with
   | true=>simp only [zac,aset,beq_self_eq_true]
   | false=>simp only [zad,aset,h1,h2,ih]
structure ExtB (id:Nat) (σ σ':Store):Prop where
 wf:WF σ'
 next:σ.next≤σ'.next
 objs:∀ i,i < σ.next→i≠id→aget σ'.objs i=aget σ.objs i
 tys:∀ i,i < σ.next→aget σ'.tys i=aget σ.tys i
 oth:σ'.oth=σ.oth
theorem Ext.toB {σ σ':Store} (h:Ext σ σ') (id:Nat):ExtB id σ σ':=⟨h.wf,h.next,fun i hi _=>h.objs i hi,h.tys,h.oth⟩
theorem ExtB.trans {id:Nat} {a b c:Store} (h:ExtB id a b) (h':ExtB id b c):ExtB id a c :=
 ⟨h'.wf,Nat.le_trans h.next h'.next,fun i hi hn=>(h'.objs i (Nat.lt_of_lt_of_le hi h.next) hn).trans (h.objs i hi hn),fun i hi=>(h'.tys i (Nat.lt_of_lt_of_le hi h.next)).trans (h.tys i hi),h'.oth.trans h.oth⟩
theorem zpy {σ:Store} (h:WF σ) (id:Nat) (cs:List Cell) (hi:id < σ.next):ExtB id σ (setO σ id cs) :=
 ⟨zom h id cs hi,Nat.le_refl _,fun i _ hn=>by rw [zc2,if_neg hn],fun _ _=>rfl,rfl⟩
theorem zq4 {id:Nat} {σ σ':Store} (hw:WF σ) (h:ExtB id σ σ'):ExtB id σ (σ'.trunc σ.next):=by
 refine ⟨⟨fun p hp=>?_,fun p hp=>?_,fun p hp=>?_⟩,h.next,fun i hi hn=>?_,fun i hi=>?_,?_⟩
 ·exact h.wf.objs p (List.mem_filter.1 hp).1
 ·exact h.wf.tys p (List.mem_filter.1 hp).1
 ·exact h.wf.oth p (List.mem_filter.1 hp).1
 ·exact (zby _ _ _ hi).trans (h.objs i hi hn)
 ·exact (zby _ _ _ hi).trans (h.tys i hi)
 ·show (σ'.oth.filter fun p=>decide (p.1 < σ.next))=σ.oth
  rw [h.oth]
  exact zeq _ _ hw.oth
def meetL (vs ns l:List (List UInt8)):List (List UInt8):=l.foldl (fun o s=>if vs.contains s && !(o.contains s) then o ++ [s] else o) ns
theorem zhw (vs:List (List UInt8)):∀ (l ns:List (List UInt8)),(meetL vs ns l).length≤ns.length + l.length
 | [],ns=>Nat.le_refl _
 | s :: l,ns=>by
  have:=zhw vs l (if vs.contains s && !(ns.contains s) then ns ++ [s] else ns)
  show (meetL vs (if vs.contains s && !(ns.contains s) then ns ++ [s] else ns) l).length≤_
  split at this
  ·rename_i h; rw [if_pos h]; simp only [List.length_append,List.length_cons,List.length_nil] at this ⊢; omega
  ·rename_i h; rw [if_neg h]; simp only [List.length_cons]; omega
theorem zdtb (vs ns l:List (List UInt8)) (j:Nat) (h:j < l.length):meetL vs ns (l.take (j + 1))=if vs.contains l[j] && !((meetL vs ns (l.take j)).contains l[j]) then meetL vs ns (l.take j) ++ [l[j]] else meetL vs ns (l.take j):=by
 rw [← zba l j h]
 unfold meetL
 rw [List.foldl_append]
 rfl
def leO (vs:List (List UInt8)) (tk:D) (ns:List (List UInt8)) (k:Int):List Cell:=[⟨false,dSs vs⟩,⟨false,tk⟩,⟨ow ns.length,dSs ns⟩,⟨false,.int .i64 k⟩]
section
variable {C:CallF} {n:Nat}
def EMe (lid:Nat) (L:List (List UInt8)) (j:Nat):Env:={slots:=[(0,⟨false,.ptr lid 0⟩),(7,⟨false,dSs L⟩),(8,⟨false,.int .i64 L.length⟩),(9,⟨false,.int .i64 j⟩)],locs:=[],boxes:=[],defers:=[]}
theorem zjyb (lid:Nat) (vs ns L:List (List UInt8)) (tk:D) (k:Int) (σ0:Store) (hlid:lid < σ0.next) (hlen:ns.length + L.length < 1000000)
  (hc:∀ j,∀ h:j < L.length,∀ σ,C n_9 [dSs vs,.str L[j]] σ=some (.ret ⟨false,.bool (vs.contains L[j])⟩,σ)∧C n_9 [dSs (meetL vs ns (L.take j)),.str L[j]] σ=some (.ret ⟨false,.bool ((meetL vs ns (L.take j)).contains L[j])⟩,σ)) :
  ∀ (j:Nat) (e:Env) (σ:Store),j < L.length→(e=EMe lid L j∧ExtB lid σ0 σ∧aget σ.objs lid=some (leO vs tk (meetL vs ns (L.take j)) k))→∃ e' σ',exec C n none za5 e σ=some (.normal,e',σ')∧(e'=EMe lid L (j + 1)∧ExtB lid σ0 σ'∧aget σ'.objs lid=some (leO vs tk (meetL vs ns (L.take (j + 1))) k)):=by
 rintro j e σ hj ⟨rfl,hx,ho⟩
 obtain ⟨h1,h2⟩:=hc j hj σ
 have hll:=zhw vs (L.take j) ns
 have htl:(L.take j).length=j:=by simp; omega
 rw [zdtb vs ns L j hj]
 have hi:((j:Int) < (L.length:Int)):=by omega
 have hix:zaw 1 (dSs L) j=some (.eptr (.str L[j])):=idx_S L j hj
 have w1:=zaj (i:=j) (by omega)
 generalize meetL vs ns (L.take j)=M at *
 cases hv:vs.contains L[j] with
 | false =>
  rw [hv] at h1
  refine ⟨EMe lid L (j + 1),σ,?_,rfl,hx,by simpa using ho⟩
  simp only [leO] at ho
  simp only [za5,EMe,sA,seval,kn,zeroI,lit1,lit2,lit3,lit4,lit5,lit6,lit7,lit8,fnq,memE,memOp,hi,hix,ho,h1,w1]
 | true =>
  rw [hv] at h1
  cases hm:M.contains L[j] with
  | true =>
   rw [hm] at h2
   refine ⟨EMe lid L (j + 1),σ,?_,rfl,hx,by simpa using ho⟩
   simp only [leO] at ho
   simp only [za5,EMe,sA,seval,kn,zeroI,lit1,lit2,lit3,lit4,lit5,lit6,lit7,lit8,fnq,memE,memOp,hi,hix,ho,h1,h2,w1]
  | false =>
   rw [hm] at h2
   have hap:zbb k_0 16 ⟨ow M.length,dSs M⟩ [.str L[j]]=some ⟨true,dSs (M ++ [L[j]])⟩:=zln M L[j] (ow M.length) (by cases M with
    | nil=>intro h; exact absurd rfl h
    | cons x r=>intro _; rfl) (by omega)
   have how:ow (M ++ [L[j]]).length=true:=by simp [zd0]
   refine ⟨EMe lid L (j + 1),setO σ lid (leO vs tk (M ++ [L[j]]) k),?_,rfl,hx.trans (zpy hx.wf lid _ (Nat.lt_of_lt_of_le hlid hx.next)),?_⟩
   ·simp only [leO] at ho
    simp only [za5,EMe,sA,seval,kn,zeroI,lit1,lit2,lit3,lit4,lit5,lit6,lit7,lit8,fnq,memE,memOp,hi,hix,ho,h1,h2,hap,w1,zds,zhs,zw8,zm9,zta,setO,leO,how]
   ·rw [zc2,if_pos rfl]
    simp
theorem zm6b (lid:Nat) (L:List (List UInt8)) (σ:Store):exec C n none za5 (EMe lid L L.length) σ=some (.exit 0,{EMe lid L L.length with slots:=[(0,⟨false,.ptr lid 0⟩),(7,⟨false,dSs L⟩),(8,⟨false,.int .i64 L.length⟩),(9,⟨false,.int .i64 L.length⟩),(10,⟨false,.bool false⟩)]},σ):=by
 have hi:¬ ((L.length:Int) < (L.length:Int)):=by omega
 simp only [za5,EMe,sA,seval,kn,hi]
end
theorem zw0 (vs ns:List (List UInt8)) (t:Tp) (hv:vs.length < 1000000) (hns:ns.length < 100000) (hn:nT t < 100000):Evly fun n=>∀ σ lid tk k,WF σ→lid < σ.next→aget σ.objs lid=some (leO vs tk ns k) →
  ∃ σ',T n n_65 [.ptr lid 0,dT t] σ=some (.ret ⟨false,.tup []⟩,σ')∧ExtB lid σ σ'∧aget σ'.objs lid=some (leO vs tk (meetL vs ns (freeT t)) k):=by
 have hfl:=zda t
 have hc:Evly fun n=>∀ j,j < (freeT t).length→∀ h:j < (freeT t).length,∀ σ,T n n_9 [dSs vs,.str (freeT t)[j]] σ=some (.ret ⟨false,.bool (vs.contains (freeT t)[j])⟩,σ)∧T n n_9 [dSs (meetL vs ns ((freeT t).take j)),.str (freeT t)[j]] σ=some (.ret ⟨false,.bool ((meetL vs ns ((freeT t).take j)).contains (freeT t)[j])⟩,σ) :=
  Evly.below _ fun j hj=>((zor vs (freeT t)[j] (by omega)).and (zor (meetL vs ns ((freeT t).take j)) (freeT t)[j] (by
   have:=zhw vs ((freeT t).take j) ns
   simp only [List.length_take] at this
   omega))).mono fun n h _ σ=>⟨h.1 σ,h.2 σ⟩
 refine ((zjk t hn).and hc).step ((freeT t).length + 4) fun m hm h σ lid tk k hw hlid ho=>?_
 obtain ⟨q,σ1,h1,hq⟩:=h.1 σ hw
 obtain ⟨σ2,hz,hx⟩:=zp0 hq 7 {slots:=[(0,⟨false,.ptr lid 0⟩),(7,⟨false,q⟩),(8,⟨false,.int .i64 (freeT t).length⟩),(9,⟨false,.int .i64 0⟩)],locs:=[],boxes:=[],defers:=[]} rfl
 have ho2:aget σ2.objs lid=some (leO vs tk (meetL vs ns ((freeT t).take 0)) k):=(hx.objs lid hlid).trans ho
 obtain ⟨⟨x,e,σ3⟩,hloop,hx1,hx2,hx3,ho3⟩:=zcp (body:=exec (T m) m none za5) (fun j e σ'=>e=EMe lid (freeT t) j∧ExtB lid σ σ'∧aget σ'.objs lid=some (leO vs tk (meetL vs ns ((freeT t).take j)) k))
  (fun x=>x.1=.exit 0∧x.2.1={EMe lid (freeT t) (freeT t).length with slots:=[(0,⟨false,.ptr lid 0⟩),(7,⟨false,dSs (freeT t)⟩),(8,⟨false,.int .i64 (freeT t).length⟩),(9,⟨false,.int .i64 (freeT t).length⟩),(10,⟨false,.bool false⟩)]}∧ExtB lid σ x.2.2∧aget x.2.2.objs lid=some (leO vs tk (meetL vs ns (freeT t)) k)) (freeT t).length
  (zjyb lid vs ns (freeT t) tk k σ hlid (by omega) (fun j hj σ=>h.2 j hj hj σ))
  (fun e σ' h=>by
   obtain ⟨rfl,hx,ho⟩:=h
   rw [List.take_length] at ho
   exact ⟨_,zm6b lid (freeT t) σ',fun _ _ h=>(by cases h),rfl,rfl,hx,ho⟩) 0 m (EMe lid (freeT t) 0) σ2 (by omega) (by omega) ⟨rfl,hx.toB lid,ho2⟩
 simp only at hx1 hx2 hx3 ho3
 subst hx1 hx2
 refine ⟨σ3.trunc σ.next,?_,zq4 hw hx3,(zby _ _ _ hlid).trans ho3⟩
 have hlen:=hq.len
 rw [dT_eq t] at h1 ⊢
 simp only [aset,sA,seval] at hz
 simp only [EMe,zeroI] at hloop
 rw [T_fun (af:=zc3) rfl rfl]
 simp only [cT] at h1 ⊢
 simp only [zc3,sA,seval,kn,zeroI,lit1,lit2,lit3,lit4,lit5,lit6,lit7,lit8,fnq,memE,memOp,h1,hlen,zee,hz,hloop]
end Go.Fu

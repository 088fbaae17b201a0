/-
 A letter for each name,run.
-/
import Derived.Test.YtieacpoabejcoaaGreatDoorFsX9
set_option maxHeartbeats 4000000
set_option linter.unusedSimpArgs false
set_option linter.unusedVariables false
set_option linter.unusedSectionVars false
namespace Go.Fu
open Go Go.Mx
set_option maxRecDepth 10000
def nxF (tl:List (List UInt8)):Nat→Nat→Nat
 | 0,k=>k
 | f + 1,k=>if tl.contains (ltr k) then nxF tl f (k + 1) else k
def nxt (tl:List (List UInt8)) (k:Nat):Nat:=nxF tl 30 k
def kk (tl:List (List UInt8)):Nat→Nat
 | 0=>0
 | i + 1=>nxt tl (kk tl i) + 1
def lets (tl:List (List UInt8)):Nat→List (List UInt8)
 | 0=>[]
 | i + 1=>lets tl i ++ [ltr (nxt tl (kk tl i))]
theorem zjp (tl:List (List UInt8)):∀ i,(lets tl i).length=i
 | 0=>rfl
 | i + 1=>by simp [lets,zjp tl i]
section
variable {C:CallF} {n:Nat}
def ELt (cap:Nat) (tl:List (List UInt8)) (k i:Nat):Env:={slots:=[(3,⟨false,.fn (.func n_38) [] [.ptr cap 0]⟩),(4,⟨ow i,dSs (lets tl i)⟩),(10,⟨false,.int .i64 k⟩),(11,⟨false,.int .i64 i⟩)],locs:=[],boxes:=[],defers:=[]}
theorem zjxb (cap:Nat) (tl:List (List UInt8)) (k i:Nat) (σ σ':Store) (hi:i < k) (hk:k < 100000) (hc:C n_38 [.ptr cap 0] σ=some (.ret ⟨false,.str (ltr (nxt tl (kk tl i)))⟩,σ')) :
  exec C n none zbc (ELt cap tl k i) σ=some (.normal,ELt cap tl k (i + 1),σ'):=by
 have h1:((i:Int) < (k:Int)):=by omega
 have w1:=zaj (i:=i) (by omega)
 have hll:=zjp tl i
 have hap:zbb k_0 16 ⟨ow i,dSs (lets tl i)⟩ [.str (ltr (nxt tl (kk tl i)))]=some ⟨true,dSs (lets tl (i + 1))⟩:=by
  have:=zln (lets tl i) (ltr (nxt tl (kk tl i))) (ow i) (by
   intro h
   cases i with
   | zero=>exact absurd rfl h
   | succ i=>rfl) (by omega)
  exact this
 simp only [zbc,ELt,sA,seval,kn,zeroI,lit1,lit2,lit3,lit4,lit5,lit6,lit7,lit8,fnq,h1,hc,hap,w1,zd0]
theorem zm5b (cap:Nat) (tl:List (List UInt8)) (k:Nat) (σ:Store):exec C n none zbc (ELt cap tl k k) σ=some (.exit 0,{ELt cap tl k k with slots:=[(3,⟨false,.fn (.func n_38) [] [.ptr cap 0]⟩),(4,⟨ow k,dSs (lets tl k)⟩),(10,⟨false,.int .i64 k⟩),(11,⟨false,.int .i64 k⟩),(12,⟨false,.bool false⟩)]},σ):=by
 have hi:¬ ((k:Int) < (k:Int)):=by omega
 simp only [zbc,ELt,sA,seval,kn,hi]
end
theorem zzu (tl ns:List (List UInt8)) (htl:tl.length < 1048576) (hns:ns.length < 100000) (hN:∀ i,i < ns.length→Nx tl (kk tl i) (nxt tl (kk tl i))∧nxt tl (kk tl i) < 26) :
  Evly fun n=>∀ σ lid vs tk,WF σ→ListD tl tk→lid < σ.next→aget σ.objs lid=some (leO vs tk ns 0)→∃ o σ',T n n_176 [.ptr lid 0] σ=some (.ret ⟨o,dSs (lets tl ns.length)⟩,σ')∧ExtB lid σ σ'∧aget σ'.objs lid=some (leO vs tk ns (kk tl ns.length:Nat)):=by
 have hc:Evly fun n=>∀ i,i < ns.length→∀ σ cap lid vs ns' tk,WF σ→ListD tl tk→cap≠lid→lid < σ.next→aget σ.objs cap=some [⟨false,.ptr lid 0⟩]→aget σ.objs lid=some (leO vs tk ns' (kk tl i:Nat)) →
   ∃ σ',T n n_38 [.ptr cap 0] σ=some (.ret ⟨false,.str (ltr (nxt tl (kk tl i)))⟩,σ')∧ExtB lid σ σ'∧aget σ'.objs lid=some (leO vs tk ns' (nxt tl (kk tl i) + 1:Nat)) :=
  Evly.below _ fun i hi=>zkub tl htl _ _ (hN i hi).1 (hN i hi).2
 refine hc.step (ns.length + 4) fun m hm h σ lid vs tk hw htk hlid ho=>?_
 have hxb:=zbnb hw [⟨false,.ptr lid 0⟩] ⟨t_128,0⟩
 have hne:σ.next≠lid:=by omega
 have hob:aget ((σ.next,[⟨false,.ptr lid 0⟩]) :: σ.objs) lid=some (leO vs tk ns (kk tl 0:Nat)):=(hxb.objs lid hlid).trans ho
 obtain ⟨⟨x,e,σ3⟩,hloop,hx1,hx2,hx3,ho3⟩:=zcp (body:=exec (T m) m none zbc) (fun i e σ'=>e=ELt σ.next tl ns.length i∧ExtB lid {objs:=(σ.next,[⟨false,.ptr lid 0⟩]) :: σ.objs,tys:=(σ.next,⟨t_128,0⟩) :: σ.tys,oth:=σ.oth,next:=σ.next + 1} σ'∧aget σ'.objs lid=some (leO vs tk ns (kk tl i:Nat)))
  (fun x=>x.1=.exit 0∧x.2.1={ELt σ.next tl ns.length ns.length with slots:=[(3,⟨false,.fn (.func n_38) [] [.ptr σ.next 0]⟩),(4,⟨ow ns.length,dSs (lets tl ns.length)⟩),(10,⟨false,.int .i64 ns.length⟩),(11,⟨false,.int .i64 ns.length⟩),(12,⟨false,.bool false⟩)]}∧ExtB lid {objs:=(σ.next,[⟨false,.ptr lid 0⟩]) :: σ.objs,tys:=(σ.next,⟨t_128,0⟩) :: σ.tys,oth:=σ.oth,next:=σ.next + 1} x.2.2∧aget x.2.2.objs lid=some (leO vs tk ns (kk tl ns.length:Nat))) ns.length
  (fun i e σ' hi hp=>by
   obtain ⟨rfl,hx,g⟩:=hp
   have hcap:aget σ'.objs σ.next=some [⟨false,.ptr lid 0⟩]:=(hx.objs σ.next (by simp) hne).trans (by simp [aget,ifB])
   obtain ⟨σ'',h1,h2,h3⟩:=h i hi σ' σ.next lid vs ns tk hx.wf htk hne (Nat.lt_of_lt_of_le (show lid < σ.next + 1 by omega) hx.next) hcap g
   exact ⟨_,σ'',zjxb σ.next tl ns.length i σ' σ'' hi hns h1,rfl,hx.trans h2,h3⟩)
  (fun e σ' hp=>by
   obtain ⟨rfl,hx,g⟩:=hp
   exact ⟨_,zm5b σ.next tl ns.length σ',fun _ _ h=>(by cases h),rfl,rfl,hx,g⟩) 0 m (ELt σ.next tl ns.length 0) _ (by omega) (by omega) ⟨rfl,(Ext.refl hxb.wf).toB lid,hob⟩
 simp only at hx1 hx2 hx3 ho3
 subst hx1 hx2
 refine ⟨ow ns.length,σ3.trunc σ.next,?_,zq4 hw ((hxb.toB lid).trans hx3),(zby _ _ _ hlid).trans ho3⟩
 have hne2:(σ.next == lid)=false:=beq_false_of_ne hne
 have hz:dSs (lets tl 0)=.nils:=rfl
 have hln:lenOf (dSs ns)=some ns.length:=by simp only [dSs,zbs,List.length_map]
 simp only [leO] at ho
 simp only [ELt,zeroI,zd1,hz] at hloop
 rw [T_fun (af:=zcq) rfl rfl]
 simp only [zcq,sA,seval,kn,zeroI,lit1,lit2,lit3,lit4,lit5,lit6,lit7,lit8,fnq,memE,memOp,hne2,ho,hln,hloop]
end Go.Fu
namespace Go.Fu
open Go Go.Mx
set_option maxRecDepth 10000
theorem zlwb {l:List (List UInt8)} {d:D} (h:ListD l d):d.one=true∧d.ok=true∧d.cells=[d]:=by
 rcases h with rfl | ⟨_,rfl⟩
 ·exact ⟨zta l,zw8 l,zm9 l⟩
 ·exact ⟨rfl,rfl,rfl⟩
def zS:List Cell:=[⟨false,.nils⟩,⟨false,.nils⟩,⟨false,.nils⟩,⟨false,.int .i64 0⟩,⟨false,.int .i64 0⟩,⟨false,.str []⟩,⟨false,.nils⟩]
def nmI (vs:List (List UInt8)) (t:Tp) (ps:List Pr):List (List UInt8):=ps.foldl (fun ns p=>meetL vs ns (freeT p.ty)) (meetL vs [] (freeT t))
theorem zkvb (vs:List (List UInt8)) (t:Tp) (ps:List Pr) (i:Nat) (h:i < ps.length):nmI vs t (ps.take (i + 1))=meetL vs (nmI vs t (ps.take i)) (freeT ps[i].ty):=by
 rw [← zba ps i h]
 unfold nmI
 rw [List.foldl_append]
 rfl
section
variable {C:CallF} {n:Nat}
def EK0 (lid:Nat) (vs:List (List UInt8)) (ps:List Pr) (t:Tp) (i:Nat):Env:={slots:=[(3,⟨false,.ptr lid 0⟩),(15,⟨false,.ptr lid 0⟩),(21,⟨false,dPs ps⟩),(22,⟨false,.int .i64 ps.length⟩),(23,⟨false,.int .i64 i⟩)],locs:=[(1,1,0),(2,2,0)],boxes:=[(1,scO vs ps t),(2,zS)],defers:=[]}
theorem zjvb (lid:Nat) (vs:List (List UInt8)) (ps:List Pr) (t:Tp) (i:Nat) (σ σ':Store) (hi:i < ps.length) (hp:ps.length < 1000) (hc:C n_65 [.ptr lid 0,dT ps[i].ty] σ=some (.ret ⟨false,.tup []⟩,σ')) :
  exec C n none zcx (EK0 lid vs ps t i) σ=some (.normal,EK0 lid vs ps t (i + 1),σ'):=by
 have hx:zaw 5 (dPs ps) i=some (.eptr (dP ps[i])):=idx_P ps i hi
 have hii:((i:Int) < (ps.length:Int)):=by omega
 have w1:=zaj (i:=i) (by omega)
 rw [dT_eq] at hc
 simp only [cT] at hc
 simp only [dP,cT] at hx
 simp only [zcx,EK0,scO,bT,zS,sA,seval,kn,zeroI,lit1,lit2,lit3,lit4,lit5,lit6,lit7,lit8,fnq,memE,memOp,Mx.part,hx,hii,hc,w1]
theorem zm3b (lid:Nat) (vs:List (List UInt8)) (ps:List Pr) (t:Tp) (σ:Store):exec C n none zcx (EK0 lid vs ps t ps.length) σ=some (.exit 0,{EK0 lid vs ps t ps.length with slots:=[(3,⟨false,.ptr lid 0⟩),(15,⟨false,.ptr lid 0⟩),(21,⟨false,dPs ps⟩),(22,⟨false,.int .i64 ps.length⟩),(23,⟨false,.int .i64 ps.length⟩),(24,⟨false,.bool false⟩)]},σ):=by
 have hi:¬ ((ps.length:Int) < (ps.length:Int)):=by omega
 simp only [zcx,EK0,sA,seval,kn,hi]
def yB (L:List (List UInt8)):List Cell:=[⟨false,dSs L⟩,⟨false,.nils⟩,⟨false,.nils⟩,⟨false,.int .i64 0⟩,⟨false,.int .i64 0⟩,⟨false,.str []⟩,⟨false,.nils⟩]
def EK1 (lid:Nat) (vs:List (List UInt8)) (ps:List Pr) (t:Tp) (ns L:List (List UInt8)) (i:Nat):Env:={slots:=[(3,⟨false,.ptr lid 0⟩),(7,⟨ow i,dTs ((L.take i).map Tp.var)⟩),(15,⟨false,.ptr lid 0⟩),(38,⟨false,dSs ns⟩),(39,⟨false,.int .i64 ns.length⟩),(40,⟨false,.int .i64 i⟩)],locs:=[(1,1,0),(2,2,0),(6,6,0)],boxes:=[(1,scO vs ps t),(2,zS),(6,yB L)],defers:=[]}
theorem zjwb (lid:Nat) (vs:List (List UInt8)) (ps:List Pr) (t:Tp) (ns L:List (List UInt8)) (i:Nat) (σ:Store) (hi:i < ns.length) (hn:ns.length < 1000) (hL:L.length=ns.length) (hv:vs.length≠0) (hc:∀ s,C n_32 [.str s] σ=some (.ret ⟨false,dT (.var s)⟩,σ)) :
  exec C n none zcy (EK1 lid vs ps t ns L i) σ=some (.normal,EK1 lid vs ps t ns L (i + 1),σ):=by
 have hx:zaw 1 (dSs ns) i=some (.eptr (.str ns[i])):=idx_S ns i hi
 have hLi:i < L.length:=by omega
 have hy:zaw 1 (dSs L) i=some (.eptr (.str L[i])):=idx_S L i hLi
 have hii:((i:Int) < (ns.length:Int)):=by omega
 have w1:=zaj (i:=i) (by omega)
 have hlv:lenOf (dSs vs)=some vs.length:=by simp only [dSs,zbs,List.length_map]
 have h0:((0:Int) == (vs.length:Int))=false:=beq_false_of_ne (by omega)
 have h1:=hc L[i]
 have hm:((L.take i).map Tp.var).length=i:=by simp; omega
 have ha:zbb k_2 56 ⟨ow i,dTs ((L.take i).map Tp.var)⟩ [dT (.var L[i])]=some ⟨true,dTs ((L.take (i + 1)).map Tp.var)⟩:=by
  have h:=zpu ((L.take i).map Tp.var) (.var L[i]) (ow i) (by
   intro h
   cases i with
   | zero=>simp at h
   | succ i=>rfl) (by omega)
  rw [← zba L i hLi,List.map_append]
  exact h
 simp only [dT] at h1 ha
 simp only [zcy,EK1,scO,yB,bT,zS,sA,seval,kn,zeroI,lit1,lit2,lit3,lit4,lit5,lit6,lit7,lit8,fnq,memE,memOp,hx,hy,hii,w1,hlv,h0,h1,ha,zd0]
theorem zm4b (lid:Nat) (vs:List (List UInt8)) (ps:List Pr) (t:Tp) (ns L:List (List UInt8)) (σ:Store):exec C n none zcy (EK1 lid vs ps t ns L ns.length) σ=some (.exit 2,{EK1 lid vs ps t ns L ns.length with slots:=[(3,⟨false,.ptr lid 0⟩),(7,⟨ow ns.length,dTs ((L.take ns.length).map Tp.var)⟩),(15,⟨false,.ptr lid 0⟩),(38,⟨false,dSs ns⟩),(39,⟨false,.int .i64 ns.length⟩),(40,⟨false,.int .i64 ns.length⟩),(41,⟨false,.bool false⟩)]},σ):=by
 have hi:¬ ((ns.length:Int) < (ns.length:Int)):=by omega
 simp only [zcy,EK1,sA,seval,kn,hi]
end
theorem zotb:Evly fun n=>∀ (s:List UInt8) σ,T n n_32 [.str s] σ=some (.ret ⟨false,dT (.var s)⟩,σ):=any _ fun n s σ=>by
 rw [T_fun (af:=a_91) rfl rfl]
 simp only [a_91,sA,seval,kn,dT]
theorem zwd {id n:Nat} {l:List Pr} {rest:List Cell} {os:Objs} (ho:aget os id=some (cellsOf (l.map dP) ++ rest)):zax (n + 3) (.arr k_1 id 0 l.length) os=some (.list k_1 (l.map dP),adel1 os id):=by
 have hl:=zfp l
 have hag:(k_1.ag || k_1.sz == 1)=true:=rfl
 have e0:decide ((0 + l.length) * k_1.sz≤(cellsOf (l.map dP) ++ rest).length)=true:=decide_eq_true (by rw [k_61,List.length_append]; omega)
 have hel:elems k_1 (cellsOf (l.map dP) ++ rest) 0 l.length=l.map dP:=by
  have:=zkd (k:=k_1) (rest:=rest.map fun c=>c.d) (l.map dP) (fun d hd=>by obtain ⟨x,_,rfl⟩:=List.mem_map.1 hd; exact ⟨rfl,rfl⟩)
  rw [List.length_map] at this
  unfold elems
  rw [List.map_append,Nat.zero_mul,List.drop_zero]
  exact this
 have hf:=zit (n:=n + 2) (os:=adel1 os id) (l.map dP) (fun d hd=>by
  obtain ⟨x,_,rfl⟩:=List.mem_map.1 hd
  simp only [dP,cT,zkg,zdg,zc5,zc4,zdi,bindO,zab])
 simp only [zhm,ho,bindO,zab,hag,e0,Bool.and_self,zac,hel,hf]
theorem zo5b {L:List Pr} (h:L≠[]):cpt L≠[]:=by
 cases L with
 | nil=>exact absurd rfl h
 | cons a b=>simp [cpt]
theorem zno {n:Nat} {os:Objs}:zax (n + 1) .nils os=some (.nils,os):=rfl
theorem zo7 {os:Objs}:zcg [] os=some ([],os):=rfl
theorem znn {c:Cell} {r:List Cell} {os:Objs}:zcg (c :: r) os=bindO (zax 40 c.d os) fun x=>bindO (zcg r x.2) fun y=>some (⟨c.keeps,x.1⟩ :: y.1,y.2):=rfl
theorem zpb {d:D}:Cell.keeps ⟨false,d⟩=false:=by
 unfold Cell.keeps
 split <;> rfl
theorem zzo {e:Env} {σ:Store} {b:Nat} {cs cs':List Cell} {os':Objs} (h0:aget e.boxes b=some cs) (h1:zcg cs σ.objs=some (cs',os')) :
  zbo [.box b] e σ=some ({e with boxes:=aset e.boxes b cs'},{objs:=os',tys:=σ.tys,oth:=σ.oth,next:=σ.next}):=by
 simp only [zbo,zdf,h0,bindO,zab,h1]
end Go.Fu
namespace Go.Fu
open Go Go.Mx
set_option maxRecDepth 10000
def cTl (vs:List (List UInt8)) (ps:List Pr) (t:Tp):List (List UInt8):=keepV vs (othA t ps)
def cNs (vs:List (List UInt8)) (ps:List Pr) (t:Tp):List (List UInt8):=nmI vs t ps
def cLs (vs:List (List UInt8)) (ps:List Pr) (t:Tp):List (List UInt8):=lets (cTl vs ps t) (cNs vs ps t).length
def cPs (vs:List (List UInt8)) (ps:List Pr) (t:Tp):List Pr:=srtP (ps.map (putP (cNs vs ps t) ((cLs vs ps t).map Tp.var)))
def cTy (vs:List (List UInt8)) (ps:List Pr) (t:Tp):Tp:=subT (cNs vs ps t) ((cLs vs ps t).map Tp.var) t
structure CanOK (vs:List (List UInt8)) (ps:List Pr) (t:Tp):Prop where
 hv:vs.length < 1000
 hp:ps.length < 20
 ht:nT t < 100000
 hts:∀ p∈ps,nT p.ty < 100000
 ho:∀ i,i≤ps.length→(othA t (ps.take i)).length < 1000000
 hn:∀ i,i≤ps.length→(nmI vs t (ps.take i)).length < 1000
 hnx:∀ i,i < (cNs vs ps t).length→Nx (cTl vs ps t) (kk (cTl vs ps t) i) (nxt (cTl vs ps t) (kk (cTl vs ps t) i))∧nxt (cTl vs ps t) (kk (cTl vs ps t) i) < 26
 hok:∀ p∈ps.map (putP (cNs vs ps t) ((cLs vs ps t).map Tp.var)),okP p
 hne:(cNs vs ps t)≠[]→vs.length≠0
theorem zi1b {σ:Store} (h:WF σ) (cs:List Cell):Ext σ {objs:=(σ.next,cs) :: σ.objs,tys:=adel1 σ.tys σ.next,oth:=σ.oth,next:=σ.next + 1}:=by
 refine ⟨⟨fun p hp=>?_,fun p hp=>?_,fun p hp=>?_⟩,Nat.le_add_right _ _,fun id hi=>?_,fun id hi=>?_,rfl⟩
 ·rcases List.mem_cons.1 hp with rfl | hp
  ·simp only; omega
  ·have:=h.objs p hp; simp only; omega
 ·have:=h.tys p (zeb _ _ _ hp); simp only; omega
 ·have:=h.oth p hp; simp only; omega
 ·have:(σ.next == id)=false:=beq_false_of_ne (by omega)
  simp only [aget,this,zad]
 ·exact zam _ _ _ (by omega)
theorem zhmb (b1 b2:List Cell) (x y z w:D) (σ:Store):zbo [.promote 15] {slots:=[],locs:=[(1,1,0),(2,2,0),(3,15,0),(15,15,0)],boxes:=[(1,b1),(2,b2),(15,[⟨false,x⟩,⟨false,y⟩,⟨false,z⟩,⟨false,w⟩])],defers:=[]} σ =
  some ({slots:=[(3,⟨false,.ptr σ.next 0⟩),(15,⟨false,.ptr σ.next 0⟩)],locs:=[(1,1,0),(2,2,0)],boxes:=[(1,b1),(2,b2)],defers:=[]},{objs:=(σ.next,[⟨false,x⟩,⟨false,y⟩,⟨false,z⟩,⟨false,w⟩]) :: σ.objs,tys:=adel1 σ.tys σ.next,oth:=σ.oth,next:=σ.next + 1}):=rfl
theorem zgbb (vs l:List (List UInt8)):(keepV vs l).length≤l.length:=List.length_filter_le _ _
theorem ztv (vs:List (List UInt8)) (ps:List Pr) (t:Tp) (H:CanOK vs ps t):Evly fun n=>∀ σ,WF σ→∃ σ',T n n_73 [scD vs ps t] σ=some (.ret ⟨false,scD (cLs vs ps t) (cPs vs ps t) (cTy vs ps t)⟩,σ')∧Ext σ σ':=by
 have hn0:=H.hn 0 (Nat.zero_le _)
 have hnall:=H.hn ps.length (Nat.le_refl _)
 have hoall:=H.ho ps.length (Nat.le_refl _)
 rw [List.take_length] at hnall hoall
 have hoth:=zd1b vs ps t (by have:=H.hv; omega) (by have:=H.hp; omega) H.ht H.hts H.ho
 have hm0:=zw0 vs [] t (by have:=H.hv; omega) (by simp) H.ht
 have hms:Evly fun n=>∀ i,i < ps.length→∀ hi:i < ps.length,∀ σ lid tk k,WF σ→lid < σ.next→aget σ.objs lid=some (leO vs tk (nmI vs t (ps.take i)) k)→∃ σ',T n n_65 [.ptr lid 0,dT ps[i].ty] σ=some (.ret ⟨false,.tup []⟩,σ')∧ExtB lid σ σ'∧aget σ'.objs lid=some (leO vs tk (meetL vs (nmI vs t (ps.take i)) (freeT ps[i].ty)) k) :=
  Evly.below _ fun i hi=>(zw0 vs (nmI vs t (ps.take i)) ps[i].ty (by have:=H.hv; omega) (by have:=H.hn i (by omega); omega) (H.hts _ (List.getElem_mem hi))).mono fun n h _=>h
 have htl:(cTl vs ps t).length < 1048576:=by
  have:=zgbb vs (othA t ps)
  unfold cTl; omega
 have hlet:=zzu (cTl vs ps t) (cNs vs ps t) htl (by unfold cNs; omega) H.hnx
 have hLl:(cLs vs ps t).length=(cNs vs ps t).length:=zjp _ _
 have hput:=zlbb vs ps t (cNs vs ps t) ((cLs vs ps t).map Tp.var) (by have:=H.hp; omega) (by unfold cNs; omega) (by rw [List.length_map,hLl])
 have hpl:(ps.map (putP (cNs vs ps t) ((cLs vs ps t).map Tp.var))).length < 20:=by rw [List.length_map]; exact H.hp
 have hsort:=zhzb (ps.map (putP (cNs vs ps t) ((cLs vs ps t).map Tp.var))) hpl H.hok
 have hmem:∀ p∈(srt (ps.map (putP (cNs vs ps t) ((cLs vs ps t).map Tp.var)))).reverse,p∈ps.map (putP (cNs vs ps t) ((cLs vs ps t).map Tp.var)):=fun p hp=>by
  rw [List.mem_reverse] at hp
  have:=((zj9 (ps.map (putP (cNs vs ps t) ((cLs vs ps t).map Tp.var))) [] List.Pairwise.nil).2.mem_iff (a:=p)).1 hp
  simpa using this
 have heq:=zxp (P:=fun n p q=>EqC (T n) p q) (srt (ps.map (putP (cNs vs ps t) ((cLs vs ps t).map Tp.var)))).reverse fun p hp q hq=>(zcwb p q (H.hok p (hmem p hp)) (H.hok q (hmem q hq))).mono fun n h σ=>h σ
 have hcmp:Evly fun n=>∀ σ id,WF σ→id < σ.next→(srt (ps.map (putP (cNs vs ps t) ((cLs vs ps t).map Tp.var)))).reverse≠[]→aget σ.objs id=some (cellsOf ((srt (ps.map (putP (cNs vs ps t) ((cLs vs ps t).map Tp.var)))).reverse.map dP)) →
   ∃ σ',T n n_75 [.arr k_1 id 0 (srt (ps.map (putP (cNs vs ps t) ((cLs vs ps t).map Tp.var)))).reverse.length,fnC] σ=some (.ret ⟨false,.arr k_1 id 0 (cPs vs ps t).length⟩,σ')∧CmpR (srt (ps.map (putP (cNs vs ps t) ((cLs vs ps t).map Tp.var)))).reverse id σ σ':=by
  obtain ⟨N,hN⟩:=heq
  have hsl:(srt (ps.map (putP (cNs vs ps t) ((cLs vs ps t).map Tp.var)))).reverse.length < 20:=by rw [List.length_reverse,zow]; exact hpl
  refine ⟨N + 40,fun n hn σ id hw hid hne ha=>?_⟩
  obtain ⟨m,rfl⟩:∃ m,n=m + 1:=⟨n - 1,by omega⟩
  exact zzd m _ (by omega) hne (by omega) id σ hw hid ha (hN m (by omega))
 have hcn:Evly fun n=>∀ σ,T n n_75 [.nils,fnC] σ=some (.ret ⟨false,.nils⟩,σ):=any _ fun n σ=>zzc n σ
 refine (hoth.and (hm0.and (hms.and (hlet.and (hput.and (hsort.and (hcmp.and (hcn.and zotb)))))))).step 1100 fun m hm h σ hw=>?_
 obtain ⟨eo,em0,ems,el,ep,es,ec,ecn,ev⟩:=h
 obtain ⟨tk,σ1,h1,hTk,hx1⟩:=eo σ hw
 have hf:=zlwb hTk
 -- the object of letters
 have hxb:=zi1b hx1.wf (leO vs tk [] 0)
 have hxb0:=hx1.trans hxb
 obtain ⟨σ2,h2,hx2,ho2⟩:=em0 _ σ1.next tk 0 hxb.wf (by simp) (by simp [aget,ifB])
 -- the loop over predicates
 obtain ⟨⟨x,e,σ3⟩,hl0,hy1,hy2,hx3,ho3⟩:=zcp (body:=exec (T m) m none zcx) (fun i e σ'=>e=EK0 σ1.next vs ps t i∧ExtB σ1.next {objs:=(σ1.next,leO vs tk [] 0) :: σ1.objs,tys:=adel1 σ1.tys σ1.next,oth:=σ1.oth,next:=σ1.next + 1} σ'∧aget σ'.objs σ1.next=some (leO vs tk (nmI vs t (ps.take i)) 0))
  (fun x=>x.1=.exit 0∧x.2.1={EK0 σ1.next vs ps t ps.length with slots:=[(3,⟨false,.ptr σ1.next 0⟩),(15,⟨false,.ptr σ1.next 0⟩),(21,⟨false,dPs ps⟩),(22,⟨false,.int .i64 ps.length⟩),(23,⟨false,.int .i64 ps.length⟩),(24,⟨false,.bool false⟩)]}∧ExtB σ1.next {objs:=(σ1.next,leO vs tk [] 0) :: σ1.objs,tys:=adel1 σ1.tys σ1.next,oth:=σ1.oth,next:=σ1.next + 1} x.2.2∧aget x.2.2.objs σ1.next=some (leO vs tk (cNs vs ps t) 0)) ps.length
  (fun i e σ' hi hp=>by
   obtain ⟨rfl,hx,g⟩:=hp
   obtain ⟨σ'',g1,g2,g3⟩:=ems i hi hi σ' σ1.next tk 0 hx.wf (Nat.lt_of_lt_of_le (show σ1.next < σ1.next + 1 by omega) hx.next) g
   exact ⟨_,σ'',zjvb σ1.next vs ps t i σ' σ'' hi (by have:=H.hp; omega) g1,rfl,hx.trans g2,by rw [zkvb vs t ps i hi]; exact g3⟩)
  (fun e σ' hp=>by
   obtain ⟨rfl,hx,g⟩:=hp
   rw [List.take_length] at g
   exact ⟨_,zm3b σ1.next vs ps t σ',fun _ _ h=>(by cases h),rfl,rfl,hx,g⟩) 0 m (EK0 σ1.next vs ps t 0) σ2 (by omega) (by have:=H.hp; omega) ⟨rfl,hx2,ho2⟩
 simp only at hy1 hy2 hx3 ho3
 subst hy1 hy2
 have hlid3:σ1.next < σ3.next:=Nat.lt_of_lt_of_le (show σ1.next < σ1.next + 1 by omega) hx3.next
 obtain ⟨ol,σ4,h4,hx4,ho4⟩:=el σ3 σ1.next vs tk hx3.wf hTk hlid3 ho3
 -- the loop over names
 have hl1:=zbz (body:=exec (T m) m none zcy) (EK1 σ1.next vs ps t (cNs vs ps t) (cLs vs ps t)) (fun _=>σ4) (cNs vs ps t).length (r:=_) (fun _ _ h=>by cases h)
  (fun i hi=>zjwb σ1.next vs ps t (cNs vs ps t) (cLs vs ps t) i σ4 hi (by unfold cNs at *; omega) hLl (H.hne (by intro hnil; rw [hnil] at hi; simp at hi)) (fun s=>ev s σ4)) (zm4b σ1.next vs ps t (cNs vs ps t) (cLs vs ps t) σ4) 0 m (by omega) (by unfold cNs at *; omega)
 obtain ⟨r,σ5,h5,hr⟩:=ep σ4 hx4.wf
 have hx34:=hx3.trans hx4
 have hext4:Ext σ σ4:=⟨hx34.wf,Nat.le_trans hxb0.next hx34.next,fun i hi=>(hx34.objs i (Nat.lt_of_lt_of_le hi hxb0.next) (by have:=hx1.next; omega)).trans (hxb0.objs i hi),fun i hi=>(hx34.tys i (Nat.lt_of_lt_of_le hi hxb0.next)).trans (hxb0.tys i hi),hx34.oth.trans hxb0.oth⟩
 have hext5:Ext σ σ5:=hext4.trans hr.1
 have hTL:(cLs vs ps t).take (cNs vs ps t).length=cLs vs ps t:=List.take_of_length_le (by omega)
 have fin:∃ σ6 r7 σ7 os,T m n_122 [r,.fn (.func n_14) [] []] σ5=some (.ret ⟨false,.tup []⟩,σ6)∧T m n_75 [r,fnC] σ6=some (.ret ⟨false,r7⟩,σ7)∧r7.ok=true∧r7.one=true∧r7.cells=[r7]∧r.ok=true∧r.one=true∧r.cells=[r] ∧
   zcg (⟨false,dSs (cLs vs ps t)⟩ :: ⟨false,.nils⟩ :: ⟨false,r7⟩ :: bT (cTy vs ps t)) σ7.objs=some (scO (cLs vs ps t) (cPs vs ps t) (cTy vs ps t),os)∧Ext σ {objs:=os,tys:=σ7.tys,oth:=σ7.oth,next:=σ7.next}:=by
  have hLd:dSs (cLs vs ps t)=dlist k_0 ((cLs vs ps t).map D.str):=rfl
  rcases hr.2 with ⟨hnil,rfl⟩ | ⟨id,rfl,g1,g2,g3,g4,g5⟩
  ·have hnil':ps.map (putP (cNs vs ps t) ((cLs vs ps t).map Tp.var))=[]:=by simpa using hnil
   obtain ⟨σ6,s1,s2⟩:=es σ5 0 .nils hext5.wf (.inl ⟨hnil',rfl⟩)
   have hs6:σ6=σ5:=by
    rcases s2 with ⟨_,h⟩ | ⟨id,h,_⟩
    ·exact h
    ·cases h
   subst hs6
   have hP:cPs vs ps t=[]:=by unfold cPs; rw [hnil']; rfl
   refine ⟨σ6,.nils,σ6,σ6.objs,s1,ecn σ6,rfl,rfl,rfl,rfl,rfl,rfl,?_,hext5⟩
   rw [hP]
   have hd:dPs []=.nils:=rfl
   simp only [scO,hd,bT,hLd,znn,zo7,zdi,zno,zc4,zc5,bindO,zab,zpb]
  ·simp only [List.length_map]
   have hne:ps.map (putP (cNs vs ps t) ((cLs vs ps t).map Tp.var))≠[]:=fun e=>g5 (by rw [e]; rfl)
   obtain ⟨σ6,s1,s2⟩:=es σ5 σ4.next _ hext5.wf (.inr ⟨id,rfl,g1,g3,g4,hne⟩)
   rw [List.length_map] at s1
   rcases s2 with ⟨h,_⟩ | ⟨id',h,h6,h7,hS⟩
   ·exact absurd h hne
   ·cases h
    have hlen:(srt (ps.map (putP (cNs vs ps t) ((cLs vs ps t).map Tp.var)))).reverse.length=ps.length:=by rw [List.length_reverse,zow,List.length_map]
    have hne2:(srt (ps.map (putP (cNs vs ps t) ((cLs vs ps t).map Tp.var)))).reverse≠[]:=fun e=>by
     have:=congrArg List.length e
     rw [hlen] at this
     apply hne
     have:ps=[]:=List.length_eq_zero_iff.1 this
     rw [this]; rfl
    obtain ⟨σ7,c1,c2,rest,c3⟩:=ec σ6 id hS.1.wf (by rw [hS.1.next]; exact g4) hne2 hS.2
    rw [hlen] at c1
    have hfz:=zwd (n:=37) c3
    have hpd:cPs vs ps t≠[]:=zo5b hne2
    have hd:dPs (cPs vs ps t)=.list k_1 ((cPs vs ps t).map dP):=by
     cases hc:cPs vs ps t with
     | nil=>exact absurd hc hpd
     | cons a b=>rfl
    refine ⟨σ6,_,σ7,adel1 σ7.objs id,s1,c1,rfl,rfl,rfl,rfl,rfl,rfl,?_,?_⟩
    ·have hfz':zax 40 (.arr k_1 id 0 (cPs vs ps t).length) σ7.objs=some (.list k_1 ((cPs vs ps t).map dP),adel1 σ7.objs id):=hfz
     simp only [scO,hd,bT,hLd,znn,zo7,hfz',zdi,zno,zc4,zc5,bindO,zab,zpb]
    ·have hS2:=hS.1.trans c2
     refine ⟨⟨fun p hp=>hS2.wf.objs p (zeb _ _ _ hp),hS2.wf.tys,hS2.wf.oth⟩,?_,fun i hi=>?_,fun i hi=>?_,?_⟩
     ·show σ.next≤σ7.next
      rw [hS2.next]; exact hext5.next
     ·have hne3:i≠id:=by have:=hext4.next; omega
      rw [← hext5.objs i hi,← hS2.objs i hne3]
      exact zam _ _ _ hne3
     ·show aget σ7.tys i=_
      rw [hS2.tys]; exact hext5.tys i hi
     ·show σ7.oth=_
      rw [hS2.oth]; exact hext5.oth
 obtain ⟨σ6,r7,σ7,os,s1,s2,q1,q2,q3,q4,q5,q6,hfz,hxt⟩:=fin
 refine ⟨Store.trunc {objs:=os,tys:=σ7.tys,oth:=σ7.oth,next:=σ7.next} σ.next,?_,ztx hw hxt⟩
 have hz:=fun (e:Env) (he:aget e.boxes 6=some (⟨false,dSs (cLs vs ps t)⟩ :: ⟨false,.nils⟩ :: ⟨false,r7⟩ :: bT (cTy vs ps t)))=>zzo (e:=e) (σ:=σ7) (b:=6) he hfz
 have hlp:lenOf (dPs ps)=some ps.length:=by simp only [dPs,zbs,List.length_map]
 have hln:lenOf (dSs (cNs vs ps t))=some (cNs vs ps t).length:=by simp only [dSs,zbs,List.length_map]
 have hnil:dTs (((cLs vs ps t).take 0).map Tp.var)=.nils:=rfl
 rw [hTL] at hl1
 have hcl:lets (cTl vs ps t) (cNs vs ps t).length=cLs vs ps t:=rfl
 rw [hcl] at h4
 have hcT:subT (cNs vs ps t) ((cLs vs ps t).map Tp.var) t=cTy vs ps t:=rfl
 rw [hcT,dT_eq (cTy vs ps t)] at h5
 rw [dT_eq t] at h2
 simp only [leO,ow,List.length_nil,zd1] at h2 ho4
 have hd0:dSs []=.nils:=rfl
 simp only [EK0,scO,zS,bT,zeroI] at hl0
 simp only [EK1,scO,yB,zS,bT,zeroI,zd1,hnil] at hl1
 simp only [scO,bT] at hz
 simp only [fnC] at s2
 simp only [scD,cT,hd0] at h1 h2 h5 ⊢
 rw [T_fun (af:=zfo) rfl rfl]
 simp only [zfo,sA,seval,kn,zeroI,lit1,lit2,lit3,lit4,lit5,lit6,lit7,lit8,fnq,memE,memOp,h1,hf.1,hf.2.1,hf.2.2,h2,hl0,h4,ho4,zw8,zm9,zta,hln,hlp,hl1,h5,s1,s2,q1,q2,q3,q4,q5,q6,zee,zhmb,hz]
end Go.Fu

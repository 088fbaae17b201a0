/-
 Classes as data; a class's climb: what is held on the way.
-/
import Derived.Test.YtieacpoabejcoaaGreatDoorFsJ1
set_option maxHeartbeats 4000000
set_option linter.unusedSimpArgs false
set_option linter.unusedVariables false
set_option linter.unusedSectionVars false
namespace Go.Fu
open Go Go.Mx
set_option maxRecDepth 10000
set_option maxHeartbeats 4000000
abbrev Tx:=List UInt8
structure Cs where
 name:Tx
 pos:Int
 sups:List Tx
 mets:List (Tx × Int)
def dMe (m:Tx × Int):D:=.agg [.str m.1,.int .i64 m.2,.nils,.nils,.nils,.int .i64 0,.int .i64 0,.str [],.nils]
def dMs (l:List (Tx × Int)):D:=dlist k_16 (l.map dMe)
def cCs (c:Cs):List D:=[.str c.name,.int .i64 c.pos,.str [97],.nils,dSs c.sups,dMs c.mets]
def dCs (c:Cs):D:=.agg (cCs c)
def zC:List D:=[.str [],.int .i64 0,.str [],.nils,.nils,.nils]
def esC (l:List (Tx × Cs × Nat)):List (D × D × Nat):=l.map fun x=>(.str x.1,dCs x.2.1,x.2.2)
theorem findC (s:Tx):∀ l:List (Tx × Cs × Nat),(findM (.str s) (esC l)=some none∧s ∉ l.map Prod.fst)∨∃ c b j,findM (.str s) (esC l)=some (some (dCs c,b,j))∧s∈l.map Prod.fst∧∃ y∈l,y.2.1=c
 | []=>.inl ⟨rfl,by simp⟩
 | (k,c,b) :: r=>by
  cases hk:s == k with
  | true =>
   refine .inr ⟨c,b,0,?_,by simp at hk; simp [hk],⟨_,List.mem_cons_self ..,rfl⟩⟩
   simp only [esC,List.map_cons,findM,sameD,bindO,caseO_some,hk,ifB_true]
  | false =>
   rcases findC s r with ⟨h1,h2⟩ | ⟨c',b',j,h1,h2,y,hy,hc⟩
   ·left
    refine ⟨?_,by simp at hk h2 ⊢; exact ⟨hk,h2⟩⟩
    simp only [esC] at h1
    simp only [esC,List.map_cons,findM,sameD,bindO,caseO_some,hk,ifB_false,h1,caseO_none]
   ·right
    refine ⟨c',b',j + 1,?_,List.mem_cons_of_mem _ h2,y,List.mem_cons_of_mem _ hy,hc⟩
    simp only [esC] at h1
    simp only [esC,List.map_cons,findM,sameD,bindO,caseO_some,hk,ifB_false,h1]
def esB:List Tx→Nat→List (D × D × Nat)
 | [],_=>[]
 | s :: r,b=>(.str s,.bool true,b) :: esB r (b + 1)
theorem esB_snoc (s:Tx):∀ (l:List Tx) (b:Nat),esB (l ++ [s]) b=esB l b ++ [(.str s,.bool true,b + l.length)]
 | [],b=>rfl
 | x :: l,b=>by
  simp only [List.cons_append,esB,esB_snoc s l (b + 1),List.length_cons]
  rw [show b + 1 + l.length=b + (l.length + 1) by omega]
theorem findB (s:Tx):∀ (l:List Tx) (b:Nat),(findM (.str s) (esB l b)=some none∧s ∉ l)∨∃ c j,findM (.str s) (esB l b)=some (some (.bool true,c,j))∧s∈l
 | [],_=>.inl ⟨rfl,by simp⟩
 | k :: r,b=>by
  cases hk:s == k with
  | true =>
   refine .inr ⟨b,0,?_,by simp at hk; simp [hk]⟩
   simp only [esB,findM,sameD,bindO,caseO_some,hk,ifB_true]
  | false =>
   rcases findB s r (b + 1) with ⟨h1,h2⟩ | ⟨c',j,h1,h2⟩
   ·left
    refine ⟨?_,by simp at hk ⊢; exact ⟨hk,h2⟩⟩
    simp only [esB,findM,sameD,bindO,caseO_some,hk,ifB_false,h1,caseO_none]
   ·right
    refine ⟨c',j + 1,?_,List.mem_cons_of_mem _ h2⟩
    simp only [esB,findM,sameD,bindO,caseO_some,hk,ifB_false,h1]
structure EV (p mc mm:Nat) (ins:D) (es:List (Tx × Cs × Nat)) (k0:Nat) (σ:Store):Prop where
 obj:aget σ.objs p=some [⟨false,.map mc⟩,⟨false,.map mm⟩,⟨false,ins⟩]
 map:aget σ.oth mc=some (.map (esC es) k0)
structure Cg (X:Nat→Prop) (m:Nat) (σ σ':Store):Prop where
 le:σ.next≤σ'.next
 objs:∀ j,j < m→¬ X j→aget σ'.objs j=aget σ.objs j
 tys:∀ j,j < m→aget σ'.tys j=aget σ.tys j
 oth:∀ j,j < m→aget σ'.oth j=aget σ.oth j
theorem Cg.refl (X:Nat→Prop) (m:Nat) (σ:Store):Cg X m σ σ:=⟨Nat.le_refl _,fun _ _ _=>rfl,fun _ _=>rfl,fun _ _=>rfl⟩
theorem Cg.trans {X:Nat→Prop} {m:Nat} {a b c:Store} (h:Cg X m a b) (k:Cg X m b c):Cg X m a c :=
 ⟨Nat.le_trans h.le k.le,fun j hj hx=>(k.objs j hj hx).trans (h.objs j hj hx),fun j hj=>(k.tys j hj).trans (h.tys j hj),fun j hj=>(k.oth j hj).trans (h.oth j hj)⟩
theorem Cg.less {X:Nat→Prop} {m m':Nat} {a b:Store} (h:Cg X m a b) (hm:m'≤m):Cg X m' a b :=
 ⟨h.le,fun j hj hx=>h.objs j (by omega) hx,fun j hj=>h.tys j (by omega),fun j hj=>h.oth j (by omega)⟩
theorem Cg.wide {X Y:Nat→Prop} {m:Nat} {a b:Store} (h:Cg X m a b) (hm:∀ j,j < m→X j→Y j):Cg Y m a b :=
 ⟨h.le,fun j hj hx=>h.objs j hj (fun k=>hx (hm j hj k)),h.tys,h.oth⟩
theorem Only.cg {q m:Nat} {a b:Store} {X:Nat→Prop} (h:Only q a b) (hq:m≤q∨X q):Cg X m a b :=
 ⟨Nat.le_of_eq h.next.symm,fun j hj hx=>h.objs j (fun e=>by
  subst e
  rcases hq with hq | hq
  ·omega
  ·exact hx hq),fun j _=>by rw [h.tys],fun j _=>by rw [h.oth]⟩
structure SeeK (f:FuncId) (caps:List D) (X:Nat→Prop) (Inv:Store→Prop) (m0 N:Nat):Prop where
 fn:D.fn? (.fn (.func f) [] caps)=some (f,[],caps)
 run:∀ n,N≤n→∀ w σ,w.path.length < 1000→Inv σ→∃ b σ',T n f (dW w :: caps) σ=some (.ret ⟨false,.bool b⟩,σ')∧Inv σ'∧Cg X σ.next σ σ'
 keep:∀ σ σ',Inv σ→(∀ j,j < m0→aget σ'.objs j=aget σ.objs j)→Inv σ'
 low:∀ j,X j→j < m0
section
variable {C:CallF} {n:Nat} {σ:Store}
def Ecl (p sm q:Nat) (g:D) (cls:Tx) (path:List Int) (sups:List Tx) (i:Nat):Env:={slots:=[(0,⟨false,.ptr p 0⟩),(2,⟨false,g⟩),(6,⟨false,.map sm⟩),(7,⟨false,.ptr q 0⟩),(35,⟨false,dSs sups⟩),(36,⟨false,.int .i64 sups.length⟩),(37,⟨false,.int .i64 i⟩)],locs:=[(8,8,0)],boxes:=[(8,[⟨false,.str cls⟩,⟨false,dIs path⟩])],defers:=[]}
variable {p mc mm:Nat} {ins:D} {es:List (Tx × Cs × Nat)} {k0:Nat}
theorem cl_skip0 (hE:EV p mc mm ins es k0 σ) (sm q:Nat) (g:D) (cls:Tx) (path:List Int) (sups:List Tx) (i:Nat) (h:i < sups.length) (hl:sups.length < 1000) (hn:findM (.str sups[i]) (esC es)=some none) :
  exec C n none a_15 (Ecl p sm q g cls path sups i) σ=some (.normal,Ecl p sm q g cls path sups (i + 1),σ):=by
 have hi:((i:Int) < (sups.length:Int)):=by omega
 have hx:=idx_S sups i h
 have ho:=hE.obj
 have hma:mapOf σ.oth (.map mc)=some (esC es):=by simp only [mapOf,hE.map,bindO,caseO_some]
 have hkd:keyD true (.str sups[i])=true:=rfl
 have w1:=wrap64_succ (i:=i) (by omega)
 unfold Ecl dSs
 generalize sups[i]=s at *
 simp only [a_15,sA,seval,kn,natI,hi,hx,ho,hma,hkd,hn,w1]
theorem cl_skip1 (hE:EV p mc mm ins es k0 σ) (sm q:Nat) (sn:List Tx) (g:D) (cls:Tx) (path:List Int) (sups:List Tx) (i:Nat) (h:i < sups.length) (hl:sups.length < 1000) {c:Cs} {b j:Nat} (hn:findM (.str sups[i]) (esC es)=some (some (dCs c,b,j)))
  (hs:aget σ.oth sm=some (.map (esB sn 0) sn.length)) {b' j':Nat} (hb:findM (.str sups[i]) (esB sn 0)=some (some (.bool true,b',j'))) :
  exec C n none a_15 (Ecl p sm q g cls path sups i) σ=some (.normal,Ecl p sm q g cls path sups (i + 1),σ):=by
 have hi:((i:Int) < (sups.length:Int)):=by omega
 have hx:=idx_S sups i h
 have ho:=hE.obj
 have hma:mapOf σ.oth (.map mc)=some (esC es):=by simp only [mapOf,hE.map,bindO,caseO_some]
 have hms:mapOf σ.oth (.map sm)=some (esB sn 0):=by simp only [mapOf,hs,bindO,caseO_some]
 have hkd:keyD true (.str sups[i])=true:=rfl
 have w1:=wrap64_succ (i:=i) (by omega)
 unfold Ecl dSs
 generalize sups[i]=s at *
 generalize dMs c.mets=dm at *
 simp only [dCs,cCs,dSs] at hn
 generalize hdm:dMs c.mets=dm at hn
 have o1:dm.one=true:=by rw [← hdm]; exact one_dlist
 simp only [a_15,sA,seval,kn,natI,hi,hx,ho,hma,hms,hkd,hn,hb,w1,one_dlist,o1]
end
end Go.Fu
namespace Go.Fu
open Go Go.Mx
set_option maxRecDepth 10000
set_option maxHeartbeats 4000000
def SMu (σ:Store) (sm:Nat) (sn:List Tx) (s:Tx):Store:={σ with oth:=aset σ.oth sm (.map (esB sn 0 ++ [(.str s,.bool true,sn.length)]) (sn.length + 1))}
section
variable {C:CallF} {n:Nat} {σ σ2 σ3:Store}
variable {p mc mm:Nat} {ins:D} {es:List (Tx × Cs × Nat)} {k0:Nat}
theorem cl_stop (hE:EV p mc mm ins es k0 σ) (sm q:Nat) (sn:List Tx) (f:FuncId) (caps:List D) (hfn:D.fn? (.fn (.func f) [] caps)=some (f,[],caps)) (cls:Tx) (path:List Int) (sups:List Tx) (i:Nat) (h:i < sups.length) (hl:sups.length < 1000) (hp:path.length < 1000) {c:Cs} {b j:Nat} (hn:findM (.str sups[i]) (esC es)=some (some (dCs c,b,j)))
  (hs:aget σ.oth sm=some (.map (esB sn 0) sn.length)) (hb:findM (.str sups[i]) (esB sn 0)=some none) {o:Bool} (ho1:path≠[]→o=true) (h1:C n_69 [dIs path] (SMu σ sm sn sups[i])=some (.ret ⟨o,dIs path⟩,SMu σ sm sn sups[i]))
  (h2:C f (dW ⟨sups[i],path ++ [(i:Int)]⟩ :: caps) (SMu σ sm sn sups[i])=some (.ret ⟨false,.bool false⟩,σ2)) :
  ∃ e',exec C n none a_15 (Ecl p sm q (.fn (.func f) [] caps) cls path sups i) σ=some (.ret,e',σ2)∧e'.defers=[]:=by
 have hi:((i:Int) < (sups.length:Int)):=by omega
 have hx:=idx_S sups i h
 have ho:=hE.obj
 have hma:mapOf σ.oth (.map mc)=some (esC es):=by simp only [mapOf,hE.map,bindO,caseO_some]
 have hms:mapOf σ.oth (.map sm)=some (esB sn 0):=by simp only [mapOf,hs,bindO,caseO_some]
 have hat:mapAt σ.oth (.map sm)=some (sm,esB sn 0,sn.length):=by simp only [mapAt,hs,bindO,caseO_some]
 have hkd:keyD true (.str sups[i])=true:=rfl
 have ha:=app_I path i o ho1 hp
 have e1:(dIs (path ++ [(i:Int)])).one=true:=one_dIs _
 have e2:(dIs (path ++ [(i:Int)])).ok=true:=ok_dlist
 have e3:(dIs (path ++ [(i:Int)])).cells=[dIs (path ++ [(i:Int)])]:=cells_dlist
 unfold Ecl dSs
 generalize sups[i]=s at *
 unfold SMu at h1 h2
 simp only [dW] at h2
 simp only [dCs,cCs,dSs] at hn
 generalize hdm:dMs c.mets=dm at hn
 have o1:dm.one=true:=by rw [← hdm]; exact one_dlist
 refine ⟨{slots:=[(0,⟨false,.ptr p 0⟩),(2,⟨false,.fn (.func f) [] caps⟩),(6,⟨false,.map sm⟩),(7,⟨false,.ptr q 0⟩),(35,⟨false,dlist k_0 (sups.map D.str)⟩),(36,⟨false,.int .i64 sups.length⟩),(37,⟨false,.int .i64 i⟩),(71,⟨false,.bool true⟩)],locs:=[(8,8,0),(14,14,0)],boxes:=[(8,[⟨false,.str cls⟩,⟨false,dIs path⟩]),(14,[⟨false,.str s⟩,⟨false,dIs (path ++ [(i:Int)])⟩])],defers:=[]},?_,rfl⟩
 simp only [a_15,sA,seval,kn,memE,memOp,natI,hi,hx,ho,hma,hms,hat,hkd,hn,hb,one_dlist,o1,h1,ha,e1,e2,e3,hfn,h2]
theorem cl_go (hE:EV p mc mm ins es k0 σ) (sm q:Nat) (sn:List Tx) (f:FuncId) (caps:List D) (hfn:D.fn? (.fn (.func f) [] caps)=some (f,[],caps)) (cls:Tx) (path:List Int) (sups:List Tx) (i:Nat) (h:i < sups.length) (hl:sups.length < 1000) (hp:path.length < 1000) {c:Cs} {b j:Nat} (hn:findM (.str sups[i]) (esC es)=some (some (dCs c,b,j)))
  (hs:aget σ.oth sm=some (.map (esB sn 0) sn.length)) (hb:findM (.str sups[i]) (esB sn 0)=some none) {o:Bool} (ho1:path≠[]→o=true) (h1:C n_69 [dIs path] (SMu σ sm sn sups[i])=some (.ret ⟨o,dIs path⟩,SMu σ sm sn sups[i]))
  (h2:C f (dW ⟨sups[i],path ++ [(i:Int)]⟩ :: caps) (SMu σ sm sn sups[i])=some (.ret ⟨false,.bool true⟩,σ2)) (h3:C n_65 [.ptr q 0,dW ⟨sups[i],path ++ [(i:Int)]⟩] σ2=some (.ret ⟨false,.tup []⟩,σ3)) :
  exec C n none a_15 (Ecl p sm q (.fn (.func f) [] caps) cls path sups i) σ=some (.normal,Ecl p sm q (.fn (.func f) [] caps) cls path sups (i + 1),σ3):=by
 have hi:((i:Int) < (sups.length:Int)):=by omega
 have hx:=idx_S sups i h
 have ho:=hE.obj
 have hma:mapOf σ.oth (.map mc)=some (esC es):=by simp only [mapOf,hE.map,bindO,caseO_some]
 have hms:mapOf σ.oth (.map sm)=some (esB sn 0):=by simp only [mapOf,hs,bindO,caseO_some]
 have hat:mapAt σ.oth (.map sm)=some (sm,esB sn 0,sn.length):=by simp only [mapAt,hs,bindO,caseO_some]
 have hkd:keyD true (.str sups[i])=true:=rfl
 have ha:=app_I path i o ho1 hp
 have e1:(dIs (path ++ [(i:Int)])).one=true:=one_dIs _
 have e2:(dIs (path ++ [(i:Int)])).ok=true:=ok_dlist
 have e3:(dIs (path ++ [(i:Int)])).cells=[dIs (path ++ [(i:Int)])]:=cells_dlist
 have w1:=wrap64_succ (i:=i) (by omega)
 unfold Ecl dSs
 generalize sups[i]=s at *
 unfold SMu at h1 h2
 simp only [dW] at h2 h3
 simp only [dCs,cCs,dSs] at hn
 generalize hdm:dMs c.mets=dm at hn
 have o1:dm.one=true:=by rw [← hdm]; exact one_dlist
 simp only [a_15,sA,seval,kn,memE,memOp,natI,hi,hx,ho,hma,hms,hat,hkd,hn,hb,one_dlist,o1,h1,ha,e1,e2,e3,hfn,h2,h3,w1]
end
end Go.Fu
namespace Go.Fu
open Go Go.Mx
set_option maxRecDepth 10000
set_option maxHeartbeats 4000000
theorem loopN_next {body:Env→Store→XRes} {n:Nat} {e:Env} {σ:Store} {e':Env} {σ':Store} {r:XRes} (h:body e σ=some (.normal,e',σ')) (k:loopN body n e' σ'=r):loopN body (n + 1) e σ=r:=by rw [loopN,h]; exact k
structure CSt (p mc mm:Nat) (ins:D) (es:List (Tx × Cs × Nat)) (k0 m0:Nat) (X:Nat→Prop) (Inv:Store→Prop) (σ0:Store) (sm q:Nat) (sn:List Tx) (ws:List Wy) (σ:Store):Prop where
 ev:EV p mc mm ins es k0 σ
 inv:Inv σ
 seen:aget σ.oth sm=some (.map (esB sn 0) sn.length)
 que:QS σ q ws
 cg:Cg X m0 σ0 σ
 sm0:m0≤sm
 q0:m0≤q
 sm1:sm < σ.next
 q1:q < σ.next
 nd:sn.Nodup
 sub:∀ s∈sn,s∈es.map Prod.fst
 pl:∀ w∈ws,w.path.length≤sn.length
 wl:ws.length≤sn.length + 1
theorem nodup_len:∀ {l m:List Tx},l.Nodup→(∀ s∈l,s∈m)→l.length≤m.length
 | [],m,_,_=>Nat.zero_le _
 | x :: l,m,hn,hs=>by
  have hx:=hs x (by simp)
  have h1:=nodup_len (l:=l) (m:=m.erase x) (List.nodup_cons.1 hn).2 fun s h=>by
   have hne:s≠x:=fun e=>(List.nodup_cons.1 hn).1 (e ▸ h)
   exact (List.mem_erase_of_ne hne).2 (hs s (List.mem_cons_of_mem _ h))
  rw [List.length_erase_of_mem hx] at h1
  have:0 < m.length:=List.length_pos_of_mem hx
  simp only [List.length_cons]
  omega
section
variable {p mc mm:Nat} {ins:D} {es:List (Tx × Cs × Nat)} {k0 m0:Nat} {X:Nat→Prop} {Inv:Store→Prop} {f:FuncId} {caps:List D} {N:Nat}
theorem CSt.few {σ0 σ:Store} {sm q:Nat} {sn:List Tx} {ws:List Wy} (h:CSt p mc mm ins es k0 m0 X Inv σ0 sm q sn ws σ):sn.length≤es.length:=by
 have:=nodup_len h.nd h.sub
 simpa using this
theorem cl_step (hK:SeeK f caps X Inv m0 N) (hp:p < m0) (hpX:¬ X p) (hmc:mc < m0) (hes:es.length < 500) {n:Nat} (hn:N≤n) (hcl:∀ (l:List Int) σ,l.length < 1000→∃ o,(l≠[]→o=true)∧T n n_69 [dIs l] σ=some (.ret ⟨o,dIs l⟩,σ))
  (hput:∀ σ q ws w,QS σ q ws→ws.length < 1000→∃ σ',T n n_65 [.ptr q 0,dW w] σ=some (.ret ⟨false,.tup []⟩,σ')∧QS σ' q (ws ++ [w])∧Only q σ σ')
  {σ0 σ:Store} {sm q:Nat} {sn:List Tx} {ws:List Wy} (h:CSt p mc mm ins es k0 m0 X Inv σ0 sm q sn ws σ) (cls:Tx) (path:List Int) (hpl:path.length≤sn.length) (sups:List Tx) (hsl:sups.length < 1000) (i:Nat) (hi:i < sups.length) :
  (∃ σ' sn' ws',exec (T n) n none a_15 (Ecl p sm q (.fn (.func f) [] caps) cls path sups i) σ=some (.normal,Ecl p sm q (.fn (.func f) [] caps) cls path sups (i + 1),σ')∧CSt p mc mm ins es k0 m0 X Inv σ0 sm q sn' ws' σ'∧sn.length≤sn'.length∧sn'.length + ws.length=sn.length + ws'.length) ∨
  (∃ σ' e',exec (T n) n none a_15 (Ecl p sm q (.fn (.func f) [] caps) cls path sups i) σ=some (.ret,e',σ')∧e'.defers=[]∧Inv σ'∧Cg X m0 σ0 σ'):=by
 have hfew:=h.few
 rcases findC sups[i] es with ⟨h1,_⟩ | ⟨c,b,j,h1,hmem,_⟩
 ·exact .inl ⟨σ,sn,ws,cl_skip0 h.ev sm q _ cls path sups i hi hsl h1,h,Nat.le_refl _,rfl⟩
 rcases findB sups[i] sn 0 with ⟨h2,hnot⟩ | ⟨c',j',h2,_⟩
 ·obtain ⟨o,ho,hc⟩:=hcl path (SMu σ sm sn sups[i]) (by omega)
  have hsq:sm≠mc:=by have:=h.sm0; omega
  have i1:Inv (SMu σ sm sn sups[i]):=hK.keep _ _ h.inv fun _ _=>rfl
  have g1:Cg X m0 σ (SMu σ sm sn sups[i]):=⟨Nat.le_refl _,fun _ _ _=>rfl,fun _ _=>rfl,fun j hj=>agB _ _ (by have:=h.sm0; omega)⟩
  obtain ⟨b2,σ2,r2,i2,g2⟩:=hK.run n hn ⟨sups[i],path ++ [(i:Int)]⟩ (SMu σ sm sn sups[i]) (by show (path ++ [(i:Int)]).length < 1000; simp; omega) i1
  have hqX:¬ X q:=fun hx=>by have:=hK.low q hx; have:=h.q0; omega
  have lt2:(SMu σ sm sn sups[i]).next=σ.next:=rfl
  have hsm1:=h.sm1
  have hq1:=h.q1
  have hm0:m0≤σ.next:=by have:=h.q0; omega
  cases b2 with
  | false =>
   obtain ⟨e',r,hd⟩:=cl_stop h.ev sm q sn f caps hK.fn cls path sups i hi hsl (by omega) h1 h.seen h2 ho hc r2
   exact .inr ⟨σ2,e',r,hd,i2,h.cg.trans (g1.trans (g2.less hm0))⟩
  | true =>
   obtain ⟨c0,q2,q3⟩:=h.que
   have que2:QS σ2 q ws:=⟨c0,(g2.objs q (by rw [lt2]; exact hq1) hqX).trans q2,q3⟩
   obtain ⟨σ3,r3,que3,on3⟩:=hput σ2 q ws ⟨sups[i],path ++ [(i:Int)]⟩ que2 (by have:=h.wl; omega)
   refine .inl ⟨σ3,sn ++ [sups[i]],ws ++ [⟨sups[i],path ++ [(i:Int)]⟩],cl_go h.ev sm q sn f caps hK.fn cls path sups i hi hsl (by omega) h1 h.seen h2 ho hc r2 r3,?_,by simp,by simp; omega⟩
   have hpq:p≠q:=by have:=h.q0; omega
   have hall:Cg X m0 σ σ3:=g1.trans ((g2.less hm0).trans (on3.cg (.inl h.q0)))
   have hoth3:σ3.oth=σ2.oth:=on3.oth
   refine ⟨⟨?_,?_⟩,?_,?_,que3,h.cg.trans hall,h.sm0,h.q0,Nat.lt_of_lt_of_le hsm1 hall.le,Nat.lt_of_lt_of_le hq1 hall.le,?_,?_,?_,?_⟩
   ·exact (hall.objs p hp hpX).trans h.ev.obj
   ·exact (hall.oth mc hmc).trans h.ev.map
   ·exact hK.keep _ _ i2 fun j hj=>on3.objs j (by have:=h.q0; omega)
   ·rw [hoth3,g2.oth sm (by rw [lt2]; exact hsm1)]
    show aget (aset σ.oth sm _) sm=_
    rw [agA,esB_snoc,Nat.zero_add,List.length_append]
    rfl
   ·rw [List.nodup_append]
    exact ⟨h.nd,by simp,fun a ha b hb=>by
     rw [List.mem_singleton.1 hb]
     exact fun e=>hnot (e ▸ ha)⟩
   ·intro s hs
    rcases List.mem_append.1 hs with hs | hs
    ·exact h.sub s hs
    ·rw [List.mem_singleton.1 hs]; exact hmem
   ·intro w hw
    rw [List.length_append]
    rcases List.mem_append.1 hw with hw | hw
    ·have:=h.pl w hw; simp; omega
    ·rw [List.mem_singleton.1 hw]; simp; omega
   ·have:=h.wl
    simp
    omega
 ·exact .inl ⟨σ,sn,ws,cl_skip1 h.ev sm q sn _ cls path sups i hi hsl h1 h.seen h2,h,Nat.le_refl _,rfl⟩
theorem cl_end {C:CallF} {n:Nat} {σ:Store} (sm q:Nat) (g:D) (cls:Tx) (path:List Int) (sups:List Tx):exec C n none a_15 (Ecl p sm q g cls path sups sups.length) σ=some (.exit 2,{slots:=[(0,⟨false,.ptr p 0⟩),(2,⟨false,g⟩),(6,⟨false,.map sm⟩),(7,⟨false,.ptr q 0⟩),(35,⟨false,dSs sups⟩),(36,⟨false,.int .i64 sups.length⟩),(37,⟨false,.int .i64 sups.length⟩),(38,⟨false,.bool false⟩)],locs:=[(8,8,0)],boxes:=[(8,[⟨false,.str cls⟩,⟨false,dIs path⟩])],defers:=[]},σ):=by
 have hi:¬ ((sups.length:Int) < (sups.length:Int)):=by omega
 simp only [a_15,Ecl,sA,seval,kn,hi]
theorem cl_inner (hK:SeeK f caps X Inv m0 N) (hp:p < m0) (hpX:¬ X p) (hmc:mc < m0) (hes:es.length < 500) {n:Nat} (hn:N≤n) (hcl:∀ (l:List Int) σ,l.length < 1000→∃ o,(l≠[]→o=true)∧T n n_69 [dIs l] σ=some (.ret ⟨o,dIs l⟩,σ))
  (hput:∀ σ q ws w,QS σ q ws→ws.length < 1000→∃ σ',T n n_65 [.ptr q 0,dW w] σ=some (.ret ⟨false,.tup []⟩,σ')∧QS σ' q (ws ++ [w])∧Only q σ σ')
  {σ0:Store} {sm q:Nat} (cls:Tx) (path:List Int) (sups:List Tx) (hsl:sups.length < 1000):∀ (r k:Nat) (i:Nat) (sn:List Tx) (ws:List Wy) (σ:Store),i + r=sups.length→r < k→CSt p mc mm ins es k0 m0 X Inv σ0 sm q sn ws σ→path.length≤sn.length →
  (∃ σ' sn' ws',loopN (exec (T n) n none a_15) k (Ecl p sm q (.fn (.func f) [] caps) cls path sups i) σ=some (.exit 2,{slots:=[(0,⟨false,.ptr p 0⟩),(2,⟨false,.fn (.func f) [] caps⟩),(6,⟨false,.map sm⟩),(7,⟨false,.ptr q 0⟩),(35,⟨false,dSs sups⟩),(36,⟨false,.int .i64 sups.length⟩),(37,⟨false,.int .i64 sups.length⟩),(38,⟨false,.bool false⟩)],locs:=[(8,8,0)],boxes:=[(8,[⟨false,.str cls⟩,⟨false,dIs path⟩])],defers:=[]},σ')∧CSt p mc mm ins es k0 m0 X Inv σ0 sm q sn' ws' σ'∧sn.length≤sn'.length∧sn'.length + ws.length=sn.length + ws'.length) ∨
  (∃ σ' e',loopN (exec (T n) n none a_15) k (Ecl p sm q (.fn (.func f) [] caps) cls path sups i) σ=some (.ret,e',σ')∧e'.defers=[]∧Inv σ'∧Cg X m0 σ0 σ')
 | _,0,_,_,_,_,_,hk,_,_=>absurd hk (by omega)
 | 0,k + 1,i,sn,ws,σ,hi,_,h,_=>by
  have:i=sups.length:=by omega
  subst this
  exact .inl ⟨σ,sn,ws,loopN_stop (cl_end sm q _ cls path sups),h,Nat.le_refl _,rfl⟩
 | r + 1,k + 1,i,sn,ws,σ,hi,hk,h,hpl=>by
  rcases cl_step hK hp hpX hmc hes hn hcl hput h cls path hpl sups hsl i (by omega) with ⟨σ1,sn1,ws1,r1,h1,g1,g2⟩ | ⟨σ1,e1,r1,d1,i1,c1⟩
  ·rcases cl_inner hK hp hpX hmc hes hn hcl hput cls path sups hsl r k (i + 1) sn1 ws1 σ1 (by omega) (by omega) h1 (by omega) with ⟨σ2,sn2,ws2,r2,h2,g3,g4⟩ | ⟨σ2,e2,r2,d2⟩
   ·exact .inl ⟨σ2,sn2,ws2,loopN_next r1 r2,h2,by omega,by omega⟩
   ·exact .inr ⟨σ2,e2,loopN_next r1 r2,d2⟩
  ·exact .inr ⟨σ1,e1,loopN_ret r1,d1,i1,c1⟩
end
end Go.Fu
namespace Go.Fu
open Go Go.Mx
set_option maxRecDepth 10000
set_option maxHeartbeats 4000000
section
variable {C:CallF} {n:Nat} {σ σ1 σ2:Store}
variable {p mc mm:Nat} {ins:D} {es:List (Tx × Cs × Nat)} {k0:Nat}
def Eco (p sm q:Nat) (g:D) (w:Wy) (b:Bool):Env:={slots:=[(0,⟨false,.ptr p 0⟩),(2,⟨false,g⟩),(6,⟨false,.map sm⟩),(7,⟨false,.ptr q 0⟩),(9,⟨false,.bool b⟩)],locs:=[(8,8,0)],boxes:=[(8,[⟨false,.str w.cls⟩,⟨false,dIs w.path⟩])],defers:=[]}
def inEnd (p sm q:Nat) (g:D) (cls:Tx) (path:List Int) (sups:List Tx):Env:={slots:=[(0,⟨false,.ptr p 0⟩),(2,⟨false,g⟩),(6,⟨false,.map sm⟩),(7,⟨false,.ptr q 0⟩),(35,⟨false,dSs sups⟩),(36,⟨false,.int .i64 sups.length⟩),(37,⟨false,.int .i64 sups.length⟩),(38,⟨false,.bool false⟩)],locs:=[(8,8,0)],boxes:=[(8,[⟨false,.str cls⟩,⟨false,dIs path⟩])],defers:=[]}
theorem co_end (sm q:Nat) (g:D) (w:Wy):exec C n none a_37 (Eco p sm q g w false) σ=some (.exit 0,{slots:=[(0,⟨false,.ptr p 0⟩),(2,⟨false,g⟩),(6,⟨false,.map sm⟩),(7,⟨false,.ptr q 0⟩),(23,⟨false,.bool false⟩)],locs:=[(8,8,0)],boxes:=[(8,[⟨false,.str w.cls⟩,⟨false,dIs w.path⟩])],defers:=[]},σ):=by
 simp only [a_37,Eco,sA,seval,kn]
theorem co_sups (hE:EV p mc mm ins es k0 σ) (s:Tx) (hsz:∀ y∈es,y.2.1.sups.length < 1000):∃ sups:List Tx,sups.length < 1000∧∃ r,findM (.str s) (esC es)=some r∧∃ cs:List D,(caseO r (.agg zC) fun v=>v.1)=.agg cs∧nth cs 4=some (dSs sups):=by
 rcases findC s es with ⟨h1,_⟩ | ⟨c,b,j,h1,_,y,hy,hc⟩
 ·exact ⟨[],by simp,_,h1,_,rfl,rfl⟩
 ·exact ⟨c.sups,by rw [← hc]; exact hsz y hy,_,h1,_,rfl,rfl⟩
theorem co_ret (hE:EV p mc mm ins es k0 σ) (sm q:Nat) (g:D) (w:Wy) (sups:List Tx) {r:Option (D × Nat × Nat)} (h1:findM (.str w.cls) (esC es)=some r) {cs:List D} (h2:(caseO r (.agg zC) fun v=>v.1)=.agg cs) (h3:nth cs 4=some (dSs sups)) {e':Env}
  (hin:loopN (exec C n none a_15) n (Ecl p sm q g w.cls w.path sups 0) σ=some (.ret,e',σ1)):exec C n none a_37 (Eco p sm q g w true) σ=some (.ret,e',σ1):=by
 have ho:=hE.obj
 have hma:mapOf σ.oth (.map mc)=some (esC es):=by simp only [mapOf,hE.map,bindO,caseO_some]
 have hkd:keyD true (.str w.cls)=true:=rfl
 have hpt:Mx.part none cs 4=some (dSs sups):=h3
 have hlen:lenOf (dSs sups)=some sups.length:=by simp only [dSs,lenOf_dlist,List.length_map]
 simp only [zC] at h2
 simp only [Ecl,zeroI] at hin
 simp only [a_37,Eco,sA,seval,kn,ho,hma,hkd,h1,h2,hpt,hlen,hin]
theorem co_go (hE:EV p mc mm ins es k0 σ) (sm q:Nat) (g:D) (w w':Wy) (b':Bool) (sups:List Tx) {r:Option (D × Nat × Nat)} (h1:findM (.str w.cls) (esC es)=some r) {cs:List D} (h2:(caseO r (.agg zC) fun v=>v.1)=.agg cs) (h3:nth cs 4=some (dSs sups))
  (hin:loopN (exec C n none a_15) n (Ecl p sm q g w.cls w.path sups 0) σ=some (.exit 2,inEnd p sm q g w.cls w.path sups,σ1)) (hnx:C n_64 [.ptr q 0] σ1=some (.ret ⟨false,.tup [dW w',.bool b']⟩,σ2)) :
  exec C n none a_37 (Eco p sm q g w true) σ=some (.normal,Eco p sm q g w' b',σ2):=by
 have ho:=hE.obj
 have hma:mapOf σ.oth (.map mc)=some (esC es):=by simp only [mapOf,hE.map,bindO,caseO_some]
 have hkd:keyD true (.str w.cls)=true:=rfl
 have hpt:Mx.part none cs 4=some (dSs sups):=h3
 have hlen:lenOf (dSs sups)=some sups.length:=by simp only [dSs,lenOf_dlist,List.length_map]
 simp only [zC] at h2
 simp only [Ecl,inEnd,zeroI] at hin
 simp only [dW] at hnx
 have o1:=one_dIs w'.path
 have o2:=one_dIs w.path
 simp only [a_37,Eco,sA,seval,kn,ho,hma,hkd,h1,h2,hpt,hlen,hin,hnx,o1,o2]
end
section
variable {p mc mm:Nat} {ins:D} {es:List (Tx × Cs × Nat)} {k0 m0:Nat} {X:Nat→Prop} {Inv:Store→Prop} {f:FuncId} {caps:List D} {N:Nat}
theorem co_outer (hK:SeeK f caps X Inv m0 N) (hp:p < m0) (hpX:¬ X p) (hmc:mc < m0) (hes:es.length < 500) (hsz:∀ y∈es,y.2.1.sups.length < 1000) {n:Nat} (hn:N≤n) (hn2:1001≤n) (hcl:∀ (l:List Int) σ,l.length < 1000→∃ o,(l≠[]→o=true)∧T n n_69 [dIs l] σ=some (.ret ⟨o,dIs l⟩,σ))
  (hput:∀ σ q ws w,QS σ q ws→ws.length < 1000→∃ σ',T n n_65 [.ptr q 0,dW w] σ=some (.ret ⟨false,.tup []⟩,σ')∧QS σ' q (ws ++ [w])∧Only q σ σ')
  (hn0:∀ σ q,QS σ q []→T n n_64 [.ptr q 0] σ=some (.ret ⟨false,.tup [.agg [.str [],.nils],.bool false]⟩,σ))
  (hn1:∀ σ q w ws,QS σ q (w :: ws)→∃ σ',T n n_64 [.ptr q 0] σ=some (.ret ⟨false,.tup [dW w,.bool true]⟩,σ')∧QS σ' q ws∧Only q σ σ')
  {σ0:Store} {sm q:Nat}:∀ (μ k:Nat) (sn:List Tx) (ws:List Wy) (w:Wy) (b:Bool) (σ:Store),es.length - sn.length + ws.length≤μ→μ + 3≤k→CSt p mc mm ins es k0 m0 X Inv σ0 sm q sn ws σ→w.path.length≤sn.length →
  ∃ x σ' e',loopN (exec (T n) n none a_37) k (Eco p sm q (.fn (.func f) [] caps) w b) σ=some (x,e',σ')∧(x=.exit 0∨x=.ret)∧e'.defers=[]∧Inv σ'∧Cg X m0 σ0 σ'
 | μ,k + 1,sn,ws,w,false,σ,_,_,h,_=>⟨_,σ,_,loopN_stop (co_end sm q _ w),.inl rfl,rfl,h.inv,h.cg⟩
 | μ,k + 1,sn,ws,w,true,σ,hμ,hk,h,hpl=>by
  obtain ⟨sups,hsl,r,h1,cs,h2,h3⟩:=co_sups h.ev w.cls hsz
  rcases cl_inner hK hp hpX hmc hes hn hcl hput w.cls w.path sups hsl sups.length n 0 sn ws σ (by omega) (by omega) h hpl with ⟨σ1,sn1,ws1,r1,hc1,g1,g2⟩ | ⟨σ1,e1,r1,d1,i1,c1⟩
  ·have hfew:=hc1.few
   have hfew0:=h.few
   cases ws1 with
   | nil =>
    have hnx:=hn0 σ1 q hc1.que
    have hg:=co_go h.ev sm q _ w ⟨[],[]⟩ false sups h1 h2 h3 r1 hnx
    obtain ⟨k2,rfl⟩:∃ k2,k=k2 + 1:=⟨k - 1,by omega⟩
    exact ⟨_,σ1,_,loopN_next hg (loopN_stop (co_end sm q _ _)),.inl rfl,rfl,hc1.inv,hc1.cg⟩
   | cons w' ws2 =>
    obtain ⟨σ2,hnx,q2,on2⟩:=hn1 σ1 q w' ws2 hc1.que
    have hg:=co_go h.ev sm q _ w w' true sups h1 h2 h3 r1 hnx
    have hall:Cg X m0 σ1 σ2:=on2.cg (.inl hc1.q0)
    have hc2:CSt p mc mm ins es k0 m0 X Inv σ0 sm q sn1 ws2 σ2:=by
     refine ⟨⟨?_,?_⟩,?_,?_,q2,hc1.cg.trans hall,hc1.sm0,hc1.q0,Nat.lt_of_lt_of_le hc1.sm1 hall.le,Nat.lt_of_lt_of_le hc1.q1 hall.le,hc1.nd,hc1.sub,?_,?_⟩
     ·exact (hall.objs p hp hpX).trans hc1.ev.obj
     ·exact (hall.oth mc hmc).trans hc1.ev.map
     ·exact hK.keep _ _ hc1.inv fun j hj=>on2.objs j (by have:=hc1.q0; omega)
     ·rw [on2.oth]; exact hc1.seen
     ·exact fun y hy=>hc1.pl y (List.mem_cons_of_mem _ hy)
     ·have:=hc1.wl; simp at this; omega
    simp only [List.length_cons] at g2
    obtain ⟨x,σ3,e3,r3,a3⟩:=co_outer hK hp hpX hmc hes hsz hn hn2 hcl hput hn0 hn1 (μ - 1) k sn1 ws2 w' true σ2 (by omega) (by omega) hc2 (hc1.pl w' (by simp))
    exact ⟨x,σ3,e3,loopN_next hg r3,a3⟩
  ·exact ⟨_,σ1,e1,loopN_ret (co_ret h.ev sm q _ w sups h1 h2 h3 r1),.inr rfl,d1,i1,c1⟩
theorem climb_run (f:FuncId) (N:Nat):∃ N',∀ n,N'≤n→∀ (es:List (Tx × Cs × Nat)) (_:es.length < 500) (_:∀ y∈es,y.2.1.sups.length < 1000) (caps:List D) (p mc mm:Nat) (ins:D) (k0:Nat) (X:Nat→Prop) (Inv:Store→Prop) (s:Tx) σ,SeeK f caps X Inv σ.next N→p < σ.next→¬ X p→mc < σ.next→EV p mc mm ins es k0 σ→Inv σ →
  ∃ σ',T n n_129 [.ptr p 0,.str s,.fn (.func f) [] caps] σ=some (.ret ⟨false,.tup []⟩,σ')∧Inv σ'∧Cg X σ.next σ σ':=by
 obtain ⟨N1,h1⟩:=cloneI_run
 obtain ⟨N2,h2⟩:=qput_run
 obtain ⟨N3,h3⟩:=qnext_none
 obtain ⟨N4,h4⟩:=qnext_some
 refine ⟨N + N1 + N2 + N3 + N4 + 2000,fun n hn es hes hsz caps p mc mm ins k0 X Inv s σ hK hp hpX hmc hE hI=>?_⟩
 obtain ⟨m,rfl⟩:∃ m,n=m + 1:=⟨n - 1,by omega⟩
 have hcl:=h1 m (by omega)
 have hput:=h2 m (by omega)
 have hn0:=h3 m (by omega)
 have hn1:=h4 m (by omega)
 generalize hs1:({objs:=(σ.next + 1,[⟨false,.nils⟩]) :: σ.objs,tys:=(σ.next + 1,⟨t_271,0⟩) :: σ.tys,oth:=(σ.next,.map [] 0) :: σ.oth,next:=σ.next + 1 + 1}:Store)=σ1
 have b1:Cg X σ.next σ σ1:=by
  subst hs1
  exact ⟨by show σ.next≤σ.next + 1 + 1; omega,fun j hj _=>agC _ _ (by omega),fun j hj=>agC _ _ (by omega),fun j hj=>agC _ _ (by omega)⟩
 have q1:QS σ1 (σ.next + 1) []:=by
  subst hs1
  exact ⟨_,agS _ _ _,.nil⟩
 have o1:aget σ1.oth σ.next=some (.map [] 0):=by
  subst hs1
  exact agS _ _ _
 have x1:σ1.next=σ.next + 1 + 1:=by subst hs1; rfl
 obtain ⟨σ2,r2,q2,on2⟩:=hput σ1 (σ.next + 1) [] ⟨s,[]⟩ q1 (by simp)
 obtain ⟨σ3,r3,q3,on3⟩:=hn1 σ2 (σ.next + 1) ⟨s,[]⟩ [] q2
 have c2:Cg X σ.next σ1 σ2:=on2.cg (.inl (by omega))
 have c3:Cg X σ.next σ2 σ3:=on3.cg (.inl (by omega))
 have hall:=b1.trans (c2.trans c3)
 have hC:CSt p mc mm ins es k0 σ.next X Inv σ σ.next (σ.next + 1) [] [] σ3:=by
  refine ⟨⟨(hall.objs p hp hpX).trans hE.obj,(hall.oth mc hmc).trans hE.map⟩,?_,?_,q3,hall,Nat.le_refl _,by omega,?_,?_,by simp,by simp,by simp,by simp⟩
  ·refine hK.keep _ _ hI fun j hj=>?_
   rw [on3.objs j (by omega),on2.objs j (by omega),← hs1]
   exact agC _ _ (by omega)
  ·rw [on3.oth,on2.oth]; exact o1
  ·rw [on3.next,on2.next,x1]; omega
  ·rw [on3.next,on2.next,x1]; omega
 obtain ⟨x,σ4,e4,r4,hx,hd,hi4,c4⟩:=co_outer hK hp hpX hmc hes hsz (n:=m) (by omega) (by omega) hcl hput hn0 hn1 500 m [] [] ⟨s,[]⟩ true σ3 (by simp; omega) (by omega) hC (by simp)
 refine ⟨σ4,?_,hi4,c4⟩
 rw [T_fun (af:=a_113) rfl rfl]
 simp only [Eco] at r4
 simp only [dW,dIs,List.map_nil,dlist_nil] at r2 r3 r4
 rcases hx with rfl | rfl
 ·simp only [a_113,sA,seval,kn,memE,memOp,hs1,r2,r3,r4,hd]
 ·simp only [a_113,sA,seval,kn,memE,memOp,hs1,r2,r3,r4,hd]
end
end Go.Fu
namespace Go.Fu
open Go Go.Mx
set_option maxRecDepth 10000
set_option maxHeartbeats 4000000
def InvA (a b:Nat) (s:Tx) (σ:Store):Prop:=(∃ t:Bool,aget σ.objs a=some [⟨false,.bool t⟩])∧aget σ.objs b=some [⟨false,.str s⟩]
theorem above1_run:∃ N,∀ (a b m0:Nat) (s:Tx),a≠b→a < m0→b < m0→SeeK n_194 [.ptr a 0,.ptr b 0] (fun j=>j=a) (InvA a b s) m0 N:=by
 refine ⟨1,fun a b m0 s hab ha hb=>⟨rfl,fun n hn w σ _ hI=>?_,fun σ σ' h k=>?_,fun j h=>h ▸ ha⟩⟩
 ·obtain ⟨n,rfl⟩:∃ k,n=k + 1:=⟨n - 1,by omega⟩
  obtain ⟨⟨t,h1⟩,h2⟩:=hI
  rw [T_fun (af:=a_112) rfl rfl]
  have e1:=one_dIs w.path
  have h3:∀ x:Cell,aget (aset σ.objs a [x]) a=some [x]:=fun x=>agA _ _ _
  cases t with
  | true =>
   refine ⟨false,{σ with objs:=aset σ.objs a [⟨false,.bool true⟩]},?_,⟨⟨true,agA _ _ _⟩,(agB _ _ hab).trans h2⟩,⟨Nat.le_refl _,fun j _ hx=>agB _ _ (fun e=>hx e.symm),fun _ _=>rfl,fun _ _=>rfl⟩⟩
   simp only [a_112,sA,seval,kn,dW,e1,h1,h3]
  | false =>
   refine ⟨!(w.cls == s),{σ with objs:=aset σ.objs a [⟨false,.bool (w.cls == s)⟩]},?_,⟨⟨_,agA _ _ _⟩,(agB _ _ hab).trans h2⟩,⟨Nat.le_refl _,fun j _ hx=>agB _ _ (fun e=>hx e.symm),fun _ _=>rfl,fun _ _=>rfl⟩⟩
   simp only [a_112,sA,seval,kn,dW,e1,h1,h2,h3]
 ·exact ⟨⟨h.1.choose,(k a ha).trans h.1.choose_spec⟩,(k b hb).trans h.2⟩
theorem above_run:∃ N',∀ n,N'≤n→∀ (es:List (Tx × Cs × Nat)) (_:es.length < 500) (_:∀ y∈es,y.2.1.sups.length < 1000) (p mc mm:Nat) (ins:D) (k0:Nat) (s t:Tx) σ,p < σ.next→mc < σ.next→EV p mc mm ins es k0 σ →
  ∃ b σ',T n n_128 [.ptr p 0,.str s,.str t] σ=some (.ret ⟨false,.bool b⟩,σ')∧Cg (fun _=>False) σ.next σ σ':=by
 obtain ⟨N,hN⟩:=above1_run
 obtain ⟨N',hc⟩:=climb_run n_194 N
 refine ⟨N' + 1,fun n hn es hes hsz p mc mm ins k0 s t σ hp hmc hE=>?_⟩
 obtain ⟨m,rfl⟩:∃ m,n=m + 1:=⟨n - 1,by omega⟩
 generalize hs1:({objs:=(σ.next + 1,[⟨false,.bool false⟩]) :: (σ.next,[⟨false,.str s⟩]) :: σ.objs,tys:=(σ.next + 1,⟨t_bool,0⟩) :: (σ.next,⟨t_31,0⟩) :: σ.tys,oth:=σ.oth,next:=σ.next + 1 + 1}:Store)=σa
 have oa:aget σa.objs (σ.next + 1)=some [⟨false,.bool false⟩]:=by subst hs1; exact agS _ _ _
 have xa:σa.next=σ.next + 1 + 1:=by subst hs1; rfl
 have oba:∀ j,j < σ.next→aget σa.objs j=aget σ.objs j:=fun j hj=>by
  subst hs1
  exact (agC _ _ (by omega)).trans (agC _ _ (by omega))
 have o3a:aget σa.objs σ.next=some [⟨false,.str s⟩]:=by subst hs1; exact (agC _ _ (by omega)).trans (agS _ _ _)
 have ota:σa.oth=σ.oth:=by subst hs1; rfl
 have tya:∀ j,j < σ.next→aget σa.tys j=aget σ.tys j:=fun j hj=>by
  subst hs1
  exact (agC _ _ (by omega)).trans (agC _ _ (by omega))
 generalize hs2:({objs:=aset σa.objs (σ.next + 1) [⟨false,.bool false⟩],tys:=σa.tys,oth:=σa.oth,next:=σa.next}:Store)=σ1
 have x1:σ1.next=σ.next + 1 + 1:=by subst hs2; exact xa
 have ob:∀ j,j < σ.next→aget σ1.objs j=aget σ.objs j:=fun j hj=>by
  subst hs2
  exact (agB _ _ (by omega)).trans (oba j hj)
 have o2:aget σ1.objs (σ.next + 1)=some [⟨false,.bool false⟩]:=by subst hs2; exact agA _ _ _
 have o3:aget σ1.objs σ.next=some [⟨false,.str s⟩]:=by subst hs2; exact (agB _ _ (by omega)).trans o3a
 have ot:σ1.oth=σ.oth:=by subst hs2; exact ota
 have ty:∀ j,j < σ.next→aget σ1.tys j=aget σ.tys j:=fun j hj=>by
  subst hs2
  exact tya j hj
 have hE1:EV p mc mm ins es k0 σ1:=⟨(ob p hp).trans hE.obj,by rw [ot]; exact hE.map⟩
 obtain ⟨σ2,r2,⟨⟨u,i1⟩,i2⟩,c2⟩:=hc m (by omega) es hes hsz [.ptr (σ.next + 1) 0,.ptr σ.next 0] p mc mm ins k0 _ _ t σ1 (hN (σ.next + 1) σ.next σ1.next s (by omega) (by omega) (by omega)) (by omega) (by omega) (by omega) hE1 ⟨⟨false,o2⟩,o3⟩
 refine ⟨u,{σ2 with objs:=aset σ2.objs (σ.next + 1) [⟨false,.bool u⟩]},?_,⟨?_,fun j hj _=>?_,fun j hj=>?_,fun j hj=>?_⟩⟩
 ·rw [T_fun (af:=a_145) rfl rfl]
  simp only [a_145,sA,seval,kn,memE,memOp,hs1,oa,hs2,r2,i1]
 ·show σ.next≤σ2.next
  have:=c2.le
  omega
 ·show aget (aset σ2.objs _ _) j=_
  rw [agB _ _ (by omega),c2.objs j (by omega) (by omega),ob j hj]
 ·exact (c2.tys j (by omega)).trans (ty j hj)
 ·exact (c2.oth j (by omega)).trans (by rw [ot])
end Go.Fu

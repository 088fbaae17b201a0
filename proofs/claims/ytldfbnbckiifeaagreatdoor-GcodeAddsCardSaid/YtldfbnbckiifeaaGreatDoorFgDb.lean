/-
 How high core is: what is made aW of it is lower.
-/
import Derived.Test.YtldfbnbckiifeaaGreatDoorFgY
set_option maxHeartbeats 4000000
set_option linter.unusedSimpArgs false
set_option linter.unusedVariables false
set_option linter.unusedSectionVars false
set_option linter.defProp false
namespace Go.Fu
open Go Go.Mx
set_option maxRecDepth 10000
mutual
def hgt:Co→Nat
 | .mk _ _ _ ks bs al=>1 + max (hgK ks) (max (hgB bs) (hgA al))
def hgK:List Co→Nat
 | []=>0
 | c :: r=>max (hgt c) (hgK r)
def hgB:List (Tx × Co)→Nat
 | []=>0
 | (_,c) :: r=>max (hgt c) (hgB r)
def hgA:List (Hd × Co)→Nat
 | []=>0
 | (_,c) :: r=>max (hgt c) (hgA r)
end
theorem zri (c:Co):hgt c=1 + max (hgK c.ks) (max (hgB c.bs) (hgA c.al)):=by
 cases c
 rw [hgt]
 rfl
theorem zlt:∀ (l:List Co) (x:Co),x∈l→hgt x≤hgK l
 | y :: r,x,h=>by
  simp only [hgK]
  rcases List.mem_cons.1 h with rfl | h
  ·omega
  ·have:=zlt r x h; omega
theorem zls:∀ (l:List (Tx × Co)) (x:Tx × Co),x∈l→hgt x.2≤hgB l
 | (s,y) :: r,x,h=>by
  simp only [hgB]
  rcases List.mem_cons.1 h with rfl | h
  ·simp only; omega
  ·have:=zls r x h; omega
theorem zlr:∀ (l:List (Hd × Co)) (x:Hd × Co),x∈l→hgt x.2≤hgA l
 | (s,y) :: r,x,h=>by
  simp only [hgA]
  rcases List.mem_cons.1 h with rfl | h
  ·simp only; omega
  ·have:=zlr r x h; omega
theorem zg5 {F:Co→List Su→Co × List Su} {Q:Su→Prop}:∀ (l:List (Tx × Co)) (m:List Su),(∀ p∈l,∀ m,∀ u∈(F p.2 m).2,u∈m∨Q u)→∀ u∈(cJ F l m).2,u∈m∨Q u
 | [],m,_,u,hu=>.inl hu
 | (s,c) :: l,m,h,u,hu=>by
  rcases zg5 l (F c m).2 (fun q hq=>h q (List.mem_cons_of_mem _ hq)) u hu with h1 | h1
  ·exact h (s,c) (List.mem_cons_self ..) m u h1
  ·exact .inr h1
theorem zg7 {F:Co→List Su→Co × List Su} {Q:Su→Prop}:∀ (l:List Co) (m:List Su),(∀ p∈l,∀ m,∀ u∈(F p m).2,u∈m∨Q u)→∀ u∈(eJ F l m).2,u∈m∨Q u
 | [],m,_,u,hu=>.inl hu
 | c :: l,m,h,u,hu=>by
  rcases zg7 l (F c m).2 (fun q hq=>h q (List.mem_cons_of_mem _ hq)) u hu with h1 | h1
  ·exact h c (List.mem_cons_self ..) m u h1
  ·exact .inr h1
theorem zg1 {F:Hd→Co→List Su→Co × List Su} {Q:Su→Prop}:∀ (l:List (Hd × Co)) (m:List Su),(∀ p∈l,∀ m,∀ u∈(F p.1 p.2 m).2,u∈m∨Q u)→∀ u∈(fE F l m).2,u∈m∨Q u
 | [],m,_,u,hu=>.inl hu
 | (s,c) :: l,m,h,u,hu=>by
  rcases zg1 l (F s c m).2 (fun q hq=>h q (List.mem_cons_of_mem _ hq)) u hu with h1 | h1
  ·exact h (s,c) (List.mem_cons_self ..) m u h1
  ·exact .inr h1
theorem zyr:∀ (k:Nat) (c:Co),c.size=k→∀ (z:Bool) (ar:List Tx) (t:Tx) (m:List Su),∀ u∈(flM c z ar t m).2,u∈m∨(hgt u.body≤hgt c∧(jL c z=false→hgt u.body < hgt c)):=by
 intro k
 induction k using Nat.strongRecOn with
 | ind k ih =>
  intro c hk z ar t m u hu
  have hz:=gZ c
  have hh:=zri c
  cases hl:jL c z with
  | true =>
   rw [yK _ _ _ _ _ hl] at hu
   simp only [sX,List.mem_append,List.mem_singleton] at hu
   rcases hu with h | rfl
   ·exact .inl h
   ·exact .inr ⟨Nat.le_refl _,fun h=>by cases h⟩
  | false =>
   rw [vH _ _ _ _ _ hl] at hu
   have key:u∈m∨hgt u.body < hgt c:=by
    simp only [fA,fK,fB,List.take_length] at hu
    rcases zg1 (Q:=fun u=>hgt u.body < hgt c) _ _ (fun p hp m' u' hu'=>by
     have h1:=lN _ _ hp
     have h2:=zlr _ _ hp
     rcases ih p.2.size (by omega) p.2 rfl _ _ _ _ u' hu' with h | h
     ·exact .inl h
     ·exact .inr (by omega)) u hu with h | h
    ·rcases zg7 (Q:=fun u=>hgt u.body < hgt c) _ _ (fun p hp m' u' hu'=>by
      have h1:=xX _ _ hp
      have h2:=zlt _ _ hp
      rcases ih p.size (by omega) p rfl _ _ _ _ u' hu' with h | h
      ·exact .inl h
      ·exact .inr (by omega)) u h with h | h
     ·rcases zg5 (Q:=fun u=>hgt u.body < hgt c) _ _ (fun p hp m' u' hu'=>by
       have h1:=oY _ _ hp
       have h2:=zls _ _ hp
       rcases ih p.2.size (by omega) p.2 rfl _ _ _ _ u' hu' with h | h
       ·exact .inl h
       ·exact .inr (by omega)) u h with h | h
      ·exact .inl h
      ·exact .inr h
     ·exact .inr h
    ·exact .inr h
   rcases key with h | h
   ·exact .inl h
   ·exact .inr ⟨by omega,fun _=>h⟩
theorem zq6 (c:Co) (ar:List Tx) (t:Tx):∀ u∈(flM c false ar t []).2,hgt u.body < hgt c:=fun u hu=>by
 rcases zyr _ c rfl false ar t [] u hu with h | h
 ·cases h
 ·exact h.2 rfl
end Go.Fu
namespace Go.Fu
open Go Go.Mx
set_option maxRecDepth 10000
def FlU (B:Nat) (u:Su):Prop:=Fl B false u.body∧u.name.length≤B∧u.ps.length + u.body.size < 1000000
def FO (B n:Nat) (us:List Su):Prop:=(∀ u∈us,FlU B u)∧us.length≤n∧szU us≤3 * n * n
def Jf (B B':Nat) (s:Su):Prop:=Shp B s.body∧s.name.length + 22 * hgt s.body≤B'∧s.ps.length≤100000∧s.body.size≤100000
theorem za1:∀ (l:List Su) (x:Su),x∈l→x.body.size≤szU l
 | y :: r,x,h=>by
  simp only [szU]
  rcases List.mem_cons.1 h with rfl | h
  ·omega
  ·have:=za1 r x h; omega
theorem zkr (l:List Su) (i:Nat):szU (l.take i)≤szU l:=by
 have:=Hy (l.take i) (l.drop i)
 rw [List.take_append_drop] at this
 omega
theorem zmd:∀ l:List Su,l.length≤szU l
 | []=>by simp [szU]
 | y :: r=>by
  have:=zmd r
  have:=iF y.body
  simp only [szU,List.length_cons]
  omega
section
variable {C:aM} {n:Nat} {σ:Store}
end
end Go.Fu
namespace Go.Fu
open Go Go.Mx
set_option maxRecDepth 10000
def zo0:Tx:=[80,65,67,75]
def dR (f:Fd):Cd:=⟨f.name,f.arity,[⟨zo0,f.arity,f.tag,f.name⟩,⟨kQ,0,0,[]⟩,⟨rS,0,0,[]⟩,⟨xW,0,0,[]⟩]⟩
theorem zeub (c:Cd):(dD c).ok=true:=by simp [dD,D.ok,dIs,D.one,bZ]
theorem zts (c:Cd):(dD c).cells.length=3:=rfl
theorem zxc (a:List Cd) (x:Cd) (o:Bool) (ho:a≠[]→o=true) (hl:a.length < 1000000000):cK pA 48 ⟨o,dDs a⟩ [dD x]=some ⟨true,dDs (a ++ [x])⟩:=qE zeub zts (by omega) a x o ho hl
section
variable {C:aM} {n:Nat} {σ:Store}
end
end Go.Fu
namespace Go.Fu
open Go Go.Mx
set_option maxRecDepth 10000
def CO (B:Nat) (cs:List Cd):Prop:=∀ c∈cs,c.name.length≤B∧Small c.arity∧∀ i∈c.body,GI B i
def wt:List Cd→Nat
 | []=>0
 | c :: r=>c.body.length + 1 + wt r
theorem zs6:∀ a:List Cd,a.length≤wt a
 | []=>by simp [wt]
 | x :: r=>by
  have:=zs6 r
  simp only [wt,List.length_cons]
  omega
section
variable {C:aM} {n:Nat} {σ:Store}
end
end Go.Fu
namespace Go.Fu
open Go Go.Mx
set_option maxRecDepth 10000
set_option maxHeartbeats 4000000
section
variable {C:aM} {n:Nat} {σ:Store}
end
section
variable {C:aM} {n:Nat} {σ:Store}
end
theorem agA {α:Type} (k:Nat) (v:α):∀ l:List (Nat × α),aB (aU l k v) k=some v
 | []=>by simp [aU,aB,ifB]
 | (a,x) :: r=>by
  rw [aU]
  cases h:a == k with
  | true=>simp [aB,ifB,h]
  | false =>
   cases h2:Nat.ble k a with
   | true=>simp [aB,ifB]
   | false=>simp only [aG,aB,h,agA k v r]
theorem agB {α:Type} (k j:Nat) (v:α) (hj:(k == j)=false):∀ l:List (Nat × α),aB (aU l k v) j=aB l j
 | []=>by simp [aU,aB,ifB,hj]
 | (a,x) :: r=>by
  rw [aU]
  cases h:a == k with
  | true =>
   have:a=k:=by simpa using h
   subst this
   simp [aB,ifB,hj]
  | false =>
   cases h2:Nat.ble k a with
   | true=>simp [aB,ifB,hj]
   | false=>simp only [aG,aB,agB k j v hj r]
structure KS (σ:Store) (m:Nat) (ds:List Int):Prop where
 a:aB σ.objs 0=some (cZ ds)
 b:aB σ.objs 2=some [⟨false,.arr lT 0 0 m⟩]
 n:3≤σ.next
 l:ds.length=m
end Go.Fu
namespace Go.Fu
open Go Go.Mx
set_option maxRecDepth 10000
theorem agD {α:Type} (k j:Nat) (hj:j≠k):∀ l:List (Nat × α),aB (aY l k) j=aB l j
 | []=>rfl
 | (i,v) :: l=>by
  rw [aY]
  by_cases h:i=k
  ·subst h
   have e:(i == i)=true:=by simp
   have e2:(i == j)=false:=beq_false_of_ne (fun h=>hj h.symm)
   rw [e,aE,aB,e2,aG,agD i j hj l]
  ·have e:(i == k)=false:=beq_false_of_ne h
   rw [e,aG,aB,aB,agD k j hj l]
theorem agC {α:Type} (k j:Nat) (v:α) (l:List (Nat × α)) (hj:k≠j):aB ((k,v) :: l) j=aB l j:=by
 have e:(k == j)=false:=beq_false_of_ne hj
 rw [aB,e,aG]
theorem agS {α:Type} (k:Nat) (v:α) (l:List (Nat × α)):aB ((k,v) :: l) k=some v:=by simp [aB,ifB]
abbrev Es:=List (Tx × Int × Nat)
def mpD (es:Es):List (D × D × Nat):=es.map fun e=>(.str e.1,.int .i64 e.2.1,e.2.2)
def look:Es→Tx→Option Int
 | [],_=>none
 | e :: r,k=>ifB (k == e.1) (some e.2.1) (look r k)
def fnd (k:Tx):Es→Option (D × Nat × Nat)
 | []=>none
 | e :: r=>ifB (k == e.1) (some (.int .i64 e.2.1,e.2.2,0)) (bT (fnd k r) none fun p=>some (p.1,p.2.1,p.2.2 + 1))
theorem Rn (k:Tx):∀ es:Es,fP (.str k) (mpD es)=some (fnd k es)
 | []=>rfl
 | e :: r=>by
  have h:=Rn k r
  unfold mpD at h
  simp only [mpD,List.map_cons,fP,Xq,aC,aF,fnd,h]
  cases k == e.1 <;> rfl
theorem Rr (k:Tx):∀ es:Es,bT (fnd k es) (look es k=none) fun v=>∃ x,v.1=.int .i64 x∧look es k=some x
 | []=>rfl
 | e :: r=>by
  have h:=Rr k r
  simp only [fnd,look]
  cases hk:k == e.1 with
  | true=>exact ⟨_,rfl,rfl⟩
  | false =>
   simp only [aG]
   cases hf:fnd k r with
   | none=>rw [hf] at h; exact h
   | some p=>rw [hf] at h; exact h
theorem zgy (k:Tx) (v:Int) (b:Nat):∀ es:Es,look es k=none→∀ x,look (es ++ [(k,v,b)]) x=tD (look es) k v x
 | [],_,x=>by
  simp only [List.nil_append,look,tD]
 | e :: r,h,x=>by
  simp only [look] at h
  have hk:(k == e.1)=false:=by
   cases hb:k == e.1 with
   | true=>rw [hb] at h; cases h
   | false=>rfl
  rw [hk,aG] at h
  have:=zgy k v b r h x
  simp only [List.cons_append,look,tD] at this ⊢
  rw [this]
  cases hx:x == e.1 with
  | false=>rfl
  | true =>
   have:(x == k)=false:=by
    have h1:x=e.1:=by simpa using hx
    subst h1
    exact beq_false_of_ne fun h=>(by have:k≠e.1:=by simpa using hk
                                     exact this h.symm)
   rw [this]
   rfl
theorem zgz (k:Tx) (v:Int):∀ (es:Es) (p:D × Nat × Nat),fnd k es=some p→∀ x,look (es.set p.2.2 (k,v,p.2.1)) x=tD (look es) k v x
 | [],p,h,x=>by cases h
 | e :: r,p,h,x=>by
  simp only [fnd] at h
  cases hk:k == e.1 with
  | true =>
   rw [hk,aE] at h
   cases h
   have:k=e.1:=by simpa using hk
   subst this
   simp only [List.set_cons_zero,look,tD]
   cases x == e.1 <;> rfl
  | false =>
   rw [hk,aG] at h
   cases hf:fnd k r with
   | none=>rw [hf] at h; cases h
   | some q =>
    rw [hf,aF] at h
    cases h
    have h1:=zgz k v r q hf x
    simp only [List.set_cons_succ,look,tD] at h1 ⊢
    rw [h1]
    cases hx:x == e.1 with
    | false=>rfl
    | true =>
     have:(x == k)=false:=by
      have h1:x=e.1:=by simpa using hx
      subst h1
      exact beq_false_of_ne fun h=>(by have:k≠e.1:=by simpa using hk
                                       exact this h.symm)
     rw [this]
     rfl
def lC (a:Nat):List In→D
 | []=>.nils
 | x :: l=>.arr k_1 a 0 (l.length + 1)
theorem rW (a:Nat) (l:List In) (x:In):lC a (l ++ [x])=.arr k_1 a 0 (l.length + 1):=by
 cases l with
 | nil=>rfl
 | cons y l=>simp [lC]
theorem Cf (a:Nat) (l:List In) (h:l≠[]):lC a l=.arr k_1 a 0 l.length:=by
 cases l with
 | nil=>exact absurd rfl h
 | cons y l=>rfl
theorem zuo (a:Nat) (l:List In):lenOf (lC a l)=some l.length:=by cases l <;> rfl
theorem zA (a:Nat) (l:List In):(lC a l).one=true:=by cases l <;> rfl
theorem zm3 (a:Nat) (l:List In):(lC a l).cells=[lC a l]:=by cases l <;> rfl
theorem zzj (a:Nat) (l:List In):(lC a l).ok=true:=by cases l <;> rfl
structure CA (σ:Store) (p a:Nat) (md:D) (L:List In):Prop where
 obj:aB σ.objs p=some [⟨false,lC a L⟩,⟨false,md⟩]
 arr:L≠[]→aB σ.objs a=some (cI L)∧aB σ.tys a=some ⟨k_1.el,k_1.sz⟩
 pa:p≠a
 pn:p < σ.next
 an:a < σ.next
structure CS (σ:Store) (p a m:Nat) (L:List In) (M:At):Prop where
 ca:CA σ p a (.map m) L
 map:∃ es c,aB σ.oth m=some (.map (mpD es) c)∧∀ k,look es k=M k
 mn:m < σ.next
structure Frm (p a m a' m':Nat) (σ σ':Store):Prop where
 nx:σ.next≤σ'.next
 ob:∀ j,j < σ.next→j≠p→j≠a→aB σ'.objs j=aB σ.objs j
 ty:∀ j,j < σ.next→aB σ'.tys j=aB σ.tys j
 ot:∀ j,j < σ.next→j≠m→aB σ'.oth j=aB σ.oth j
 fa:a'=a∨σ.next≤a'
 fm:m'=m∨σ.next≤m'
theorem Frm.refl {p a m:Nat} {σ:Store}:Frm p a m a m σ σ:=⟨Nat.le_refl _,fun _ _ _ _=>rfl,fun _ _=>rfl,fun _ _ _=>rfl,.inl rfl,.inl rfl⟩
theorem Frm.trans {p a m a1 m1 a2 m2:Nat} {σ σ1 σ2:Store} (h:Frm p a m a1 m1 σ σ1) (k:Frm p a1 m1 a2 m2 σ1 σ2):Frm p a m a2 m2 σ σ2:=by
 have h1:=h.nx
 refine ⟨Nat.le_trans h.nx k.nx,fun j hj hp ha=>?_,fun j hj=>?_,fun j hj hm=>?_,?_,?_⟩
 ·rw [k.ob j (by omega) hp (fun e=>by rcases h.fa with e2 | e2 <;> omega),h.ob j hj hp ha]
 ·rw [k.ty j (by omega),h.ty j hj]
 ·rw [k.ot j (by omega) (fun e=>by rcases h.fm with e2 | e2 <;> omega),h.ot j hj hm]
 ·rcases k.fa with e | e
  ·rw [e]; exact h.fa
  ·exact .inr (by omega)
 ·rcases k.fm with e | e
  ·rw [e]; exact h.fm
  ·exact .inr (by omega)
theorem Frm.get {p a m a' m':Nat} {σ σ':Store} (h:Frm p a m a' m' σ σ') {j:Nat} {cs:List Cell} (hj:aB σ.objs j=some cs) (hn:j < σ.next) (hp:j≠p) (ha:j≠a):aB σ'.objs j=some cs:=by rw [h.ob j hn hp ha,hj]
def GA (σ:Store) (t:Nat) (cs:List Cell):Store:={objs:=(σ.next,cs) :: σ.objs,tys:=(σ.next,⟨t,0⟩) :: σ.tys,oth:=σ.oth,next:=σ.next + 1}
def SO (σ:Store) (id:Nat) (cs:List Cell):Store:={σ with objs:=aU σ.objs id cs}
def SM (σ:Store) (id:Nat) (x:Oth):Store:={σ with oth:=aU σ.oth id x}
def GM (σ:Store) (x:Oth):Store:={σ with oth:=(σ.next,x) :: σ.oth,next:=σ.next + 1}
section
variable {σ:Store} {t id j:Nat} {cs:List Cell} {x:Oth}
theorem cS:(GA σ t cs).next=σ.next + 1:=rfl
theorem dY:aB (GA σ t cs).objs σ.next=some cs:=agS _ _ _
theorem Cc:(GA σ t cs).oth=σ.oth:=rfl
theorem fN (h:j≠σ.next):aB (GA σ t cs).objs j=aB σ.objs j:=agC _ _ _ _ (fun e=>h e.symm)
theorem zc4 (h:j≠σ.next):aB (GA σ t cs).tys j=aB σ.tys j:=agC _ _ _ _ (fun e=>h e.symm)
theorem dJ:(SO σ id cs).next=σ.next:=rfl
theorem vB:(SO σ id cs).oth=σ.oth:=rfl
theorem yA:(SO σ id cs).tys=σ.tys:=rfl
theorem fM:aB (SO σ id cs).objs id=some cs:=agA _ _ _
theorem eK (h:j≠id):aB (SO σ id cs).objs j=aB σ.objs j:=agB _ _ _ (beq_false_of_ne fun e=>h e.symm) _
theorem zk6:aB (SM σ id x).oth id=some x:=agA _ _ _
theorem zc5b (h:j≠id):aB (SM σ id x).oth j=aB σ.oth j:=agB _ _ _ (beq_false_of_ne fun e=>h e.symm) _
theorem xK:(GM σ x).next=σ.next + 1:=rfl
theorem zk4:(GM σ x).objs=σ.objs:=rfl
theorem Ob:aB (GM σ x).oth σ.next=some x:=agS _ _ _
theorem zmi (h:j≠σ.next):aB (GM σ x).oth j=aB σ.oth j:=agC _ _ _ _ (fun e=>h e.symm)
theorem zys:({objs:=aU σ.objs id cs,tys:=σ.tys,oth:=σ.oth,next:=σ.next}:Store)=SO σ id cs:=rfl
theorem zzd {z:List D} {e:Env}:eU (.galloc t z) e σ=some (.ptr σ.next 0,GA σ t (z.map Cell.of)):=rfl
theorem zd3b {y:AOpd} {e:Env}:eU (.gbox t y) e σ=aC (opd e y) fun c=>ifB c.d.ok (some (.ptr σ.next 0,GA σ t (c.d.cells.map Cell.of))) none:=rfl
theorem zze {k:Nat} {x y:AOpd} {e:Env}:eU (.storeP k x y) e σ=aC (eI e x) fun p=>aC (opd e y) fun c=>match p with
  | .ptr id off=>aC (aB σ.objs id) fun cs=>ifB (nU ⟨false,c.d⟩ k off cs) (some (.undef,SO σ id (putCells cs off (dE ⟨false,c.d⟩)))) none
  | _=>none:=rfl
theorem zd1b {k:RowK} {by_:Nat} {x y:AOpd} {e:Env}:eU (.appendA k by_ x y) e σ=aC (opd e x) fun c=>aC (opd e y) fun d=>aC (eB σ.objs d.d) fun ys=>bP σ k by_ c.d ys:=rfl
theorem zd2b {w:List Nat} {k:RowK} {by_:Nat} {x y:AOpd} {e:Env}:eU (.appendW w k by_ x y) e σ=aC (opd e x) fun c=>aC (opd e y) fun d=>aC (eB σ.objs d.d) fun ys=>bP σ k by_ c.d ys:=rfl
theorem mUpd {ks:Bool} {x i y:AOpd} {e:Env}:eU (.update ks x i y) e σ=aC (opd e x) fun c=>aC (opd e i) fun k=>aC (opd e y) fun v=>aC (pJ σ.oth c.d) fun m=>ifB (rL ks k.d && v.d.ok) (aC (fP k.d m.2.1) fun r =>
   some (.undef,SM σ m.1 (bT r (.map (m.2.1 ++ [(k.d,v.d,m.2.2)]) (m.2.2 + 1)) fun p=>.map (m.2.1.set p.2.2 (k.d,v.d,p.2.1)) m.2.2))) none:=rfl
theorem zd4b {e:Env}:eU .makeMap e σ=some (.map σ.next,GM σ (.map [] 0)):=rfl
theorem zzc {k:RowK} {ps:List AOpd} {e:Env}:eU (.buildA k ps) e σ=aC (jC e ps) fun ds=>ifB (bI k.sz ds && decide (ds.length * k.sz≤16777216)) (some (.arr k σ.next 0 ds.length,aN σ k (cellsOf ds))) none:=rfl
set_option linter.defProp false in
def mB:=And.intro @zzd (And.intro @zd3b (And.intro @zze (And.intro @zd1b (And.intro @zd2b (And.intro @mUpd (And.intro @zd4b (And.intro @zzc @zys)))))))
theorem Frm.ga {p a m:Nat}:Frm p a m a m σ (GA σ t cs):=⟨by rw [cS]; omega,fun j h _ _=>fN (by omega),fun j h=>zc4 (by omega),fun _ _ _=>rfl,.inl rfl,.inl rfl⟩
theorem Frm.gm {p a m:Nat}:Frm p a m a m σ (GM σ x):=⟨by rw [xK]; omega,fun j h _ _=>rfl,fun j h=>rfl,fun j h _=>zmi (by omega),.inl rfl,.inl rfl⟩
end
theorem Frm.so {p a m a' m':Nat} {σ σ':Store} (h:Frm p a m a' m' σ σ') {id:Nat} {cs:List Cell} (hi:σ.next≤id∨id=p):Frm p a m a' m' σ (SO σ' id cs) :=
 ⟨h.nx,fun j hj hp ha=>by rw [eK (by rcases hi with hi | hi <;> omega),h.ob j hj hp ha],h.ty,h.ot,h.fa,h.fm⟩
theorem CA.keep {σ σ':Store} {p a:Nat} {md:D} {L:List In} (h:CA σ p a md L) (hn:σ.next≤σ'.next) (h1:aB σ'.objs p=aB σ.objs p) (h2:aB σ'.objs a=aB σ.objs a) (h3:aB σ'.tys a=aB σ.tys a):CA σ' p a md L :=
 ⟨by rw [h1]; exact h.obj,fun hL=>by rw [h2,h3]; exact h.arr hL,h.pa,Nat.lt_of_lt_of_le h.pn hn,Nat.lt_of_lt_of_le h.an hn⟩
theorem CA.ga {σ:Store} {p a:Nat} {md:D} {L:List In} {t:Nat} {cs:List Cell} (h:CA σ p a md L):CA (GA σ t cs) p a md L :=
 h.keep (by rw [cS]; omega) (fN (by have:=h.pn; omega)) (fN (by have:=h.an; omega)) (zc4 (by have:=h.an; omega))
theorem CA.so {σ:Store} {p a:Nat} {md:D} {L:List In} {id:Nat} {cs:List Cell} (h:CA σ p a md L) (h1:id≠p) (h2:id≠a):CA (SO σ id cs) p a md L :=
 h.keep (Nat.le_refl _) (eK (fun e=>h1 e.symm)) (eK (fun e=>h2 e.symm)) rfl
theorem CS.ga {σ:Store} {p a m:Nat} {L:List In} {M:At} {t:Nat} {cs:List Cell} (h:CS σ p a m L M):CS (GA σ t cs) p a m L M:=⟨h.ca.ga,h.map,by rw [cS]; have:=h.mn; omega⟩
theorem CS.so {σ:Store} {p a m:Nat} {L:List In} {M:At} {id:Nat} {cs:List Cell} (h:CS σ p a m L M) (h1:id≠p) (h2:id≠a):CS (SO σ id cs) p a m L M:=⟨h.ca.so h1 h2,h.map,h.mn⟩
theorem CS.gm {σ:Store} {p a m:Nat} {L:List In} {M:At} {x:Oth} (h:CS σ p a m L M):CS (GM σ x) p a m L M :=
 ⟨h.ca.keep (by rw [xK]; omega) rfl rfl rfl,by
  obtain ⟨es,c,h1,h2⟩:=h.map
  exact ⟨es,c,by rw [zmi (by have:=h.mn; omega),h1],h2⟩,by rw [xK]; have:=h.mn; omega⟩
theorem CA.app {σ:Store} {p a:Nat} {md:D} {L:List In} (h:CA σ p a md L) (x:In) (hl:L.length < 1000000000):∃ σ1,bP σ k_1 48 (lC a L) [dI x]=some (.arr k_1 σ.next 0 (L.length + 1),σ1)∧aB σ1.objs p=some [⟨false,lC a L⟩,⟨false,md⟩] ∧
  CA (SO σ1 p [⟨false,.arr k_1 σ.next 0 (L.length + 1)⟩,⟨false,md⟩]) p σ.next md (L ++ [x])∧(∀ m,Frm p a m σ.next m σ (SO σ1 p [⟨false,.arr k_1 σ.next 0 (L.length + 1)⟩,⟨false,md⟩]))∧σ1.oth=σ.oth∧σ.next < σ1.next∧(∀ j,j < σ.next→j≠a→aB σ1.objs j=aB σ.objs j):=by
 have hp:=h.pn
 have hpn:¬ σ.next=p:=by omega
 have hpa:=h.pa
 have h1:bI k_1.sz [dI x]=true:=rfl
 have e1:decide ((L.length + 1) * 48≤bG)=true:=decide_eq_true (show (L.length + 1) * 48≤1099511627776 by omega)
 have e2:decide (L.length + 1≤bG)=true:=decide_eq_true (show L.length + 1≤1099511627776 by omega)
 have fin:∀ σ1:Store,σ1.next=σ.next + 2→σ1.oth=σ.oth→σ1.tys=(σ.next,⟨k_1.el,k_1.sz⟩) :: σ.tys→aB σ1.objs σ.next=some (cI (L ++ [x]))→(∀ j,j < σ.next→j≠a→aB σ1.objs j=aB σ.objs j) →
   aB σ1.objs p=some [⟨false,lC a L⟩,⟨false,md⟩]∧CA (SO σ1 p [⟨false,.arr k_1 σ.next 0 (L.length + 1)⟩,⟨false,md⟩]) p σ.next md (L ++ [x])∧(∀ m,Frm p a m σ.next m σ (SO σ1 p [⟨false,.arr k_1 σ.next 0 (L.length + 1)⟩,⟨false,md⟩]))∧σ1.oth=σ.oth∧σ.next < σ1.next∧(∀ j,j < σ.next→j≠a→aB σ1.objs j=aB σ.objs j):=by
  intro σ1 hn ho ht hc hj
  refine ⟨by rw [hj p hp hpa]; exact h.obj,⟨?_,fun _=>⟨?_,?_⟩,fun e=>hpn e.symm,?_,?_⟩,fun m=>⟨?_,fun j h1 h2 h3=>?_,fun j h1=>?_,fun j _ _=>?_,.inr (Nat.le_refl _),.inl rfl⟩,ho,by omega,hj⟩
  ·rw [fM,rW]
  ·rw [eK hpn,hc]
  ·rw [yA,ht,agS]
  ·rw [dJ]; omega
  ·rw [dJ]; omega
  ·rw [dJ]; omega
  ·rw [eK h2,hj j h1 h3]
  ·rw [yA,ht,agC _ _ _ _ (by omega)]
  ·rw [vB,ho]
 cases L with
 | nil =>
  have e:([dI x].isEmpty)=false:=rfl
  refine ⟨aN σ k_1 (cellsOf [dI x]),?_,?_⟩
  ·simp only [lC,bP,h1,e,aE,aG,List.length_cons,List.length_nil,Nat.zero_add] at e1 e2 ⊢
   simp only [e1,e2,Bool.and_self,aE]
  ·refine fin _ rfl rfl rfl ?_ fun j hj ha=>?_
   ·simp only [aN,agS]
    rfl
   ·simp only [aN]
    rw [agC _ _ _ _ (by omega)]
 | cons y r =>
  obtain ⟨g1,g2⟩:=h.arr (by simp)
  have e0:decide ((r.length + 1) * k_1.sz≤(cI (y :: r)).length)=true:=by rw [yE]; simp [k_1]
  have ek:k_1.same k_1=true:=rfl
  have ht:(cI (y :: r)).take ((r.length + 1) * k_1.sz)=cI (y :: r):=List.take_of_length_le (by rw [yE]; simp [k_1])
  have en:(cI (y :: r)).map (fun c=>Cell.of c.d) ++ cellsOf [dI x]=cI (y :: r ++ [x]):=by
   rw [uR,uR,wT,List.map_append,nA]
   rfl
  refine ⟨aN {σ with objs:=aY σ.objs a} k_1 (cI (y :: r ++ [x])),?_,?_⟩
  ·simp only [lC,bP,h1,aE,g1,g2,aC,aF,ek,beq_self_eq_true,List.length_cons,List.length_nil,Nat.zero_add] at e1 e2 ⊢
   simp only [e0,e1,e2,Bool.and_self,aE,ht,en]
  ·refine fin _ rfl rfl rfl ?_ fun j hj ha=>?_
   ·simp only [aN,agS]
   ·simp only [aN]
    rw [agC _ _ _ _ (by omega),agD _ _ ha]
theorem CS.upd {σ:Store} {p a m:Nat} {L:List In} {M:At} (h:CS σ p a m L M) (k:Tx) (v:Int):∃ es c r,aB σ.oth m=some (.map es c)∧fP (.str k) es=some r ∧
  CS (SM σ m (bT r (.map (es ++ [(.str k,.int .i64 v,c)]) (c + 1)) fun p=>.map (es.set p.2.2 (.str k,.int .i64 v,p.2.1)) c)) p a m L (tD M k v) ∧
  Frm p a m a m σ (SM σ m (bT r (.map (es ++ [(.str k,.int .i64 v,c)]) (c + 1)) fun p=>.map (es.set p.2.2 (.str k,.int .i64 v,p.2.1)) c)):=by
 obtain ⟨es,c,h1,h2⟩:=h.map
 refine ⟨mpD es,c,fnd k es,h1,Rn k es,⟨h.ca.keep (Nat.le_refl _) rfl rfl rfl,?_,h.mn⟩,⟨Nat.le_refl _,fun _ _ _ _=>rfl,fun _ _=>rfl,fun j _ hm=>zc5b hm,.inl rfl,.inl rfl⟩⟩
 have hf:=Rr k es
 cases hk:fnd k es with
 | none =>
  rw [hk] at hf
  refine ⟨es ++ [(k,v,c)],c + 1,?_,fun x=>?_⟩
  ·rw [zk6]
   simp [bT,mpD]
  ·rw [zgy k v c es hf x]
   simp only [tD,h2]
 | some q =>
  refine ⟨es.set q.2.2 (k,v,q.2.1),c,?_,fun x=>?_⟩
  ·rw [zk6]
   simp [bT,mpD,List.map_set]
  ·rw [zgz k v es q hk x]
   simp only [tD,h2]
theorem CS.look {σ:Store} {p a m:Nat} {L:List In} {M:At} (h:CS σ p a m L M) (k:Tx):∃ es c r,aB σ.oth m=some (.map es c)∧fP (.str k) es=some r∧bT r (M k=none) fun v=>∃ x,v.1=.int .i64 x∧M k=some x:=by
 obtain ⟨es,c,h1,h2⟩:=h.map
 refine ⟨mpD es,c,fnd k es,h1,Rn k es,?_⟩
 rw [← h2]
 exact Rr k es
theorem zqh:∀ (L:List In) (k:Nat) (v:Int),k < L.length→putCells (cI L) (k * 4 + 1) [⟨false,.int .i64 v⟩]=cI (rI L k v)
 | [],k,v,h=>by simp at h
 | x :: L,0,v,h=>by simp [cI,putCells,rI]
 | x :: L,k + 1,v,h=>by
  have:=zqh L k v (by simp at h; omega)
  rw [show (k + 1) * 4 + 1=(k * 4 + 1) + 1 + 1 + 1 + 1 by omega]
  simp only [cI,putCells,rI,List.modify_succ_cons] at this ⊢
  rw [this]
theorem CS.set {σ:Store} {p a m:Nat} {L:List In} {M:At} (h:CS σ p a m L M) (k:Nat) (v:Int) (hk:k < L.length) :
  CS (SO σ a (putCells (cI L) (k * 4 + 1) [⟨false,.int .i64 v⟩])) p a m (rI L k v) M∧Frm p a m a m σ (SO σ a (putCells (cI L) (k * 4 + 1) [⟨false,.int .i64 v⟩])):=by
 have hpa:=h.ca.pa
 have hne:L≠[]:=fun e=>by rw [e] at hk; simp at hk
 obtain ⟨g1,g2⟩:=h.ca.arr hne
 have hl:=vR L k v
 have hn2:rI L k v≠[]:=fun e=>by rw [e] at hl; simp at hl; exact hne (List.length_eq_zero_iff.1 hl.symm)
 refine ⟨⟨⟨?_,fun _=>⟨?_,g2⟩,h.ca.pa,h.ca.pn,h.ca.an⟩,h.map,h.mn⟩,⟨Nat.le_refl _,fun j _ _ ha=>eK ha,fun _ _=>rfl,fun _ _ _=>rfl,.inl rfl,.inl rfl⟩⟩
 ·rw [eK hpa,h.ca.obj,Cf _ _ hne,Cf _ _ hn2,hl]
 ·rw [fM,zqh L k v hk]
end Go.Fu

/-
 A combinator's eA ones.
-/
import Derived.Test.YtldfbnbckiifeaaGreatDoorFgZa
import Derived.Test.YtldfbnbckiifeaaGreatDoorFgLib
set_option maxHeartbeats 4000000
set_option linter.unusedSimpArgs false
set_option linter.unusedVariables false
set_option linter.unusedSectionVars false
set_option linter.defProp false
namespace Go.Fu
open Go Go.Mx
set_option maxRecDepth 10000
def FlU (B:Nat) (u:Su):Prop:=Fl B false u.body∧u.name.length≤B∧u.ps.length + u.body.size < 1000000
def FO (B n:Nat) (us:List Su):Prop:=(∀ u∈us,FlU B u)∧us.length≤n∧szU us≤3 * n * n
def Vd (B B':Nat) (s:Su):Prop:=Shp B s.body∧s.name.length + 22 * hgt s.body≤B'∧s.ps.length≤100000∧s.body.size≤100000
theorem zde:∀ (l:List Su) (x:Su),x∈l→x.body.size≤szU l
 | y :: r,x,h=>by
  simp only [szU]
  rcases aS.1 h with rfl | h
  ·omega
  ·have:=zde r x h; omega
theorem znh (l:List Su) (i:Nat):szU (l.take i)≤szU l:=by
 have:=Lm (l.take i) (l.drop i)
 rw [List.take_append_drop] at this
 omega
theorem zpg:∀ l:List Su,l.length≤szU l
 | []=>by simp [szU]
 | y :: r=>by
  have:=zpg r
  have:=kO y.body
  simp only [szU,aG]
  omega
section
variable {C:dQ} {n:Nat} {σ:Store}
end
end Go.Fu
namespace Go.Fu
open Go Go.Mx
set_option maxRecDepth 10000
def zr6:Tx:=[80,65,67,75]
def iF (f:Fd):Cd:=⟨f.name,f.arity,[⟨zr6,f.arity,f.tag,f.name⟩,⟨nI,0,0,[]⟩,⟨uO,0,0,[]⟩,⟨Ap,0,0,[]⟩]⟩
theorem zitb (c:Cd):(dD c).ok=true:=by simp [dD,D.ok,dIs,D.one,fM]
theorem zw4 (c:Cd):(dD c).cells.length=3:=rfl
theorem zasb (a:List Cd) (x:Cd) (o:Bool) (ho:a≠[]→o=true) (hl:a.length < 1000000000):gC vP 48 ⟨o,dDs a⟩ [dD x]=some ⟨true,dDs (a ++ [x])⟩:=qT zitb zw4 (by omega) a x o ho hl
section
variable {C:dQ} {n:Nat} {σ:Store}
end
end Go.Fu
namespace Go.Fu
open Go Go.Mx
set_option maxRecDepth 10000
def CO (B:Nat) (cs:List Cd):Prop:=∀ c∈cs,c.name.length≤B∧Small c.arity∧∀ i∈c.body,GI B i
def wt:List Cd→Nat
 | []=>0
 | c :: r=>c.body.length + 1 + wt r
section
variable {C:dQ} {n:Nat} {σ:Store}
end
end Go.Fu
namespace Go.Fu
open Go Go.Mx
set_option maxRecDepth 10000
set_option maxHeartbeats 4000000
section
variable {C:dQ} {n:Nat} {σ:Store}
end
section
variable {C:dQ} {n:Nat} {σ:Store}
end
theorem agA {α:Type} (k:Nat) (v:α):∀ l:List (Nat × α),dE (dZ l k v) k=some v
 | []=>by simp [dZ,dE,ifB]
 | (a,x) :: r=>by
  rw [dZ]
  cases h:a == k with
  | true=>simp [dE,ifB,h]
  | false =>
   cases h2:Nat.ble k a with
   | true=>simp [dE,ifB]
   | false=>simp only [dH,dE,h,agA k v r]
theorem agB {α:Type} (k j:Nat) (v:α) (hj:(k == j)=false):∀ l:List (Nat × α),dE (dZ l k v) j=dE l j
 | []=>by simp [dZ,dE,ifB,hj]
 | (a,x) :: r=>by
  rw [dZ]
  cases h:a == k with
  | true =>
   have:a=k:=by simpa using h
   subst this
   simp [dE,ifB,hj]
  | false =>
   cases h2:Nat.ble k a with
   | true=>simp [dE,ifB,hj]
   | false=>simp only [dH,dE,agB k j v hj r]
structure KS (σ:Store) (m:Nat) (ds:List Int):Prop where
 a:dE σ.objs 0=some (cZ ds)
 b:dE σ.objs 2=some [⟨false,.arr pH 0 0 m⟩]
 n:3≤σ.next
 l:ds.length=m
end Go.Fu
namespace Go.Fu
open Go Go.Mx
set_option maxRecDepth 10000
theorem agD {α:Type} (k j:Nat) (hj:j≠k):∀ l:List (Nat × α),dE (eE l k) j=dE l j
 | []=>rfl
 | (i,v) :: l=>by
  rw [eE]
  by_cases h:i=k
  ·subst h
   have e:(i == i)=true:=by simp
   have e2:(i == j)=false:=beq_false_of_ne (fun h=>hj h.symm)
   rw [e,dJ,dE,e2,dH,agD i j hj l]
  ·have e:(i == k)=false:=beq_false_of_ne h
   rw [e,dH,dE,dE,agD k j hj l]
theorem agC {α:Type} (k j:Nat) (v:α) (l:List (Nat × α)) (hj:k≠j):dE ((k,v) :: l) j=dE l j:=by
 have e:(k == j)=false:=beq_false_of_ne hj
 rw [dE,e,dH]
theorem agS {α:Type} (k:Nat) (v:α) (l:List (Nat × α)):dE ((k,v) :: l) k=some v:=by simp [dE,ifB]
abbrev Es:=List (Tx × Int × Nat)
def mpD (es:Es):List (D × D × Nat):=es.map fun e=>(.str e.1,.int .i64 e.2.1,e.2.2)
def look:Es→Tx→Option Int
 | [],_=>none
 | e :: r,k=>ifB (k == e.1) (some e.2.1) (look r k)
def fnd (k:Tx):Es→Option (D × Nat × Nat)
 | []=>none
 | e :: r=>ifB (k == e.1) (some (.int .i64 e.2.1,e.2.2,0)) (eZ (fnd k r) none fun p=>some (p.1,p.2.1,p.2.2 + 1))
theorem Vq (k:Tx):∀ es:Es,jX (.str k) (mpD es)=some (fnd k es)
 | []=>rfl
 | e :: r=>by
  have h:=Vq k r
  unfold mpD at h
  simp only [mpD,aO,jX,zaq,dG,dK,fnd,h]
  cases k == e.1 <;> rfl
theorem Vt (k:Tx):∀ es:Es,eZ (fnd k es) (look es k=none) fun v=>∃ x,v.1=.int .i64 x∧look es k=some x
 | []=>rfl
 | e :: r=>by
  have h:=Vt k r
  simp only [fnd,look]
  cases hk:k == e.1 with
  | true=>exact ⟨_,rfl,rfl⟩
  | false =>
   simp only [dH]
   cases hf:fnd k r with
   | none=>rw [hf] at h; exact h
   | some p=>rw [hf] at h; exact h
theorem zjo (k:Tx) (v:Int) (b:Nat):∀ es:Es,look es k=none→∀ x,look (es ++ [(k,v,b)]) x=pU (look es) k v x
 | [],_,x=>by
  simp only [bG,look,pU]
 | e :: r,h,x=>by
  simp only [look] at h
  have hk:(k == e.1)=false:=by
   cases hb:k == e.1 with
   | true=>rw [hb] at h; cases h
   | false=>rfl
  rw [hk,dH] at h
  have:=zjo k v b r h x
  simp only [aW,look,pU] at this ⊢
  rw [this]
  cases hx:x == e.1 with
  | false=>rfl
  | true =>
   have:(x == k)=false:=by
    have h1:x=e.1:=by simpa using hx
    subst h1
    exact beq_false_of_ne fun h=>(by have:k≠e.1:=by simpa using hk
                                     exact this h.symm)
   rw [this]
   rfl
theorem zjp (k:Tx) (v:Int):∀ (es:Es) (p:D × Nat × Nat),fnd k es=some p→∀ x,look (es.set p.2.2 (k,v,p.2.1)) x=pU (look es) k v x
 | [],p,h,x=>by cases h
 | e :: r,p,h,x=>by
  simp only [fnd] at h
  cases hk:k == e.1 with
  | true =>
   rw [hk,dJ] at h
   cases h
   have:k=e.1:=by simpa using hk
   subst this
   simp only [List.set_cons_zero,look,pU]
   cases x == e.1 <;> rfl
  | false =>
   rw [hk,dH] at h
   cases hf:fnd k r with
   | none=>rw [hf] at h; cases h
   | some q =>
    rw [hf,dK] at h
    cases h
    have h1:=zjp k v r q hf x
    simp only [List.set_cons_succ,look,pU] at h1 ⊢
    rw [h1]
    cases hx:x == e.1 with
    | false=>rfl
    | true =>
     have:(x == k)=false:=by
      have h1:x=e.1:=by simpa using hx
      subst h1
      exact beq_false_of_ne fun h=>(by have:k≠e.1:=by simpa using hk
                                       exact this h.symm)
     rw [this]
     rfl
def nT (a:Nat):List In→D
 | []=>.nils
 | x :: l=>.arr k_1 a 0 (l.length + 1)
theorem uS (a:Nat) (l:List In) (x:In):nT a (l ++ [x])=.arr k_1 a 0 (l.length + 1):=by
 cases l with
 | nil=>rfl
 | cons y l=>simp [nT]
theorem Gj (a:Nat) (l:List In) (h:l≠[]):nT a l=.arr k_1 a 0 l.length:=by
 cases l with
 | nil=>exact absurd rfl h
 | cons y l=>rfl
theorem zxz (a:Nat) (l:List In):lenOf (nT a l)=some l.length:=by cases l <;> rfl
theorem Cf (a:Nat) (l:List In):(nT a l).one=true:=by cases l <;> rfl
theorem zp7 (a:Nat) (l:List In):(nT a l).cells=[nT a l]:=by cases l <;> rfl
theorem zc8b (a:Nat) (l:List In):(nT a l).ok=true:=by cases l <;> rfl
structure CA (σ:Store) (p a:Nat) (md:D) (L:List In):Prop where
 obj:dE σ.objs p=some [⟨false,nT a L⟩,⟨false,md⟩]
 arr:L≠[]→dE σ.objs a=some (cI L)∧dE σ.tys a=some ⟨k_1.el,k_1.sz⟩
 pa:p≠a
 pn:p < σ.next
 an:a < σ.next
structure CS (σ:Store) (p a m:Nat) (L:List In) (M:At):Prop where
 ca:CA σ p a (.map m) L
 map:∃ es c,dE σ.oth m=some (.map (mpD es) c)∧∀ k,look es k=M k
 mn:m < σ.next
structure Frm (p a m a' m':Nat) (σ σ':Store):Prop where
 nx:σ.next≤σ'.next
 ob:∀ j,j < σ.next→j≠p→j≠a→dE σ'.objs j=dE σ.objs j
 ty:∀ j,j < σ.next→dE σ'.tys j=dE σ.tys j
 ot:∀ j,j < σ.next→j≠m→dE σ'.oth j=dE σ.oth j
 fa:a'=a∨σ.next≤a'
 fm:m'=m∨σ.next≤m'
theorem Frm.refl {p a m:Nat} {σ:Store}:Frm p a m a m σ σ:=⟨aM _,fun _ _ _ _=>rfl,fun _ _=>rfl,fun _ _ _=>rfl,.inl rfl,.inl rfl⟩
theorem Frm.trans {p a m a1 m1 a2 m2:Nat} {σ σ1 σ2:Store} (h:Frm p a m a1 m1 σ σ1) (k:Frm p a1 m1 a2 m2 σ1 σ2):Frm p a m a2 m2 σ σ2:=by
 have h1:=h.nx
 refine ⟨Nat.le_trans h.nx k.nx,fun j hj hp ha=>?_,fun j hj=>?_,fun j hj hm=>?_,?_,?_⟩
 ·rw [k.ob j (by omega) hp (fun e=>by rcases h.fa with e2 | e2 <;> omega),h.ob j hj hp ha]
 ·rw [k.ty j (by omega),h.ty j hj]
 ·rw [k.ot j (by omega) (fun e=>by rcases h.fm with e2 | e2 <;> omega),h.ot j hj hm]
 ·rcases k.fa with e | e
  ·rw [e]; exact h.fa
  ·exact .inr (by omega)
 ·rcases k.fm with e | e
  ·rw [e]; exact h.fm
  ·exact .inr (by omega)
theorem Frm.get {p a m a' m':Nat} {σ σ':Store} (h:Frm p a m a' m' σ σ') {j:Nat} {cs:List Cell} (hj:dE σ.objs j=some cs) (hn:j < σ.next) (hp:j≠p) (ha:j≠a):dE σ'.objs j=some cs:=by rw [h.ob j hn hp ha,hj]
def GA (σ:Store) (t:Nat) (cs:List Cell):Store:={objs:=(σ.next,cs) :: σ.objs,tys:=(σ.next,⟨t,0⟩) :: σ.tys,oth:=σ.oth,next:=σ.next + 1}
def SO (σ:Store) (id:Nat) (cs:List Cell):Store:={σ with objs:=dZ σ.objs id cs}
def SM (σ:Store) (id:Nat) (x:Oth):Store:={σ with oth:=dZ σ.oth id x}
def GM (σ:Store) (x:Oth):Store:={σ with oth:=(σ.next,x) :: σ.oth,next:=σ.next + 1}
section
variable {σ:Store} {t id j:Nat} {cs:List Cell} {x:Oth}
theorem fW:(GA σ t cs).next=σ.next + 1:=rfl
theorem iN:dE (GA σ t cs).objs σ.next=some cs:=agS _ _ _
theorem Gi:(GA σ t cs).oth=σ.oth:=rfl
theorem jU (h:j≠σ.next):dE (GA σ t cs).objs j=dE σ.objs j:=agC _ _ _ _ (fun e=>h e.symm)
theorem zfm (h:j≠σ.next):dE (GA σ t cs).tys j=dE σ.tys j:=agC _ _ _ _ (fun e=>h e.symm)
theorem gQ:(SO σ id cs).next=σ.next:=rfl
theorem xT:(SO σ id cs).oth=σ.oth:=rfl
theorem As:(SO σ id cs).tys=σ.tys:=rfl
theorem jS:dE (SO σ id cs).objs id=some cs:=agA _ _ _
theorem iY (h:j≠id):dE (SO σ id cs).objs j=dE σ.objs j:=agB _ _ _ (beq_false_of_ne fun e=>h e.symm) _
theorem znw:dE (SM σ id x).oth id=some x:=agA _ _ _
theorem zg2b (h:j≠id):dE (SM σ id x).oth j=dE σ.oth j:=agB _ _ _ (beq_false_of_ne fun e=>h e.symm) _
theorem Af:(GM σ x).next=σ.next + 1:=rfl
theorem znu:(GM σ x).objs=σ.objs:=rfl
theorem Rk:dE (GM σ x).oth σ.next=some x:=agS _ _ _
theorem zpl (h:j≠σ.next):dE (GM σ x).oth j=dE σ.oth j:=agC _ _ _ _ (fun e=>h e.symm)
theorem zccb:({objs:=dZ σ.objs id cs,tys:=σ.tys,oth:=σ.oth,next:=σ.next}:Store)=SO σ id cs:=rfl
theorem zc2b {z:List D} {e:Env}:jK (.galloc t z) e σ=some (.ptr σ.next 0,GA σ t (z.map Cell.of)):=rfl
theorem zhyb {y:AOpd} {e:Env}:jK (.gbox t y) e σ=dG (opd e y) fun c=>ifB c.d.ok (some (.ptr σ.next 0,GA σ t (c.d.cells.map Cell.of))) none:=rfl
theorem zc3b {k:Nat} {x y:AOpd} {e:Env}:jK (.storeP k x y) e σ=dG (iW e x) fun p=>dG (opd e y) fun c=>match p with
  | .ptr id off=>dG (dE σ.objs id) fun cs=>ifB (qX ⟨false,c.d⟩ k off cs) (some (.undef,SO σ id (putCells cs off (gG ⟨false,c.d⟩)))) none
  | _=>none:=rfl
theorem zhwb {k:RowK} {by_:Nat} {x y:AOpd} {e:Env}:jK (.appendA k by_ x y) e σ=dG (opd e x) fun c=>dG (opd e y) fun d=>dG (iR σ.objs d.d) fun ys=>eV σ k by_ c.d ys:=rfl
theorem zhxb {w:List Nat} {k:RowK} {by_:Nat} {x y:AOpd} {e:Env}:jK (.appendW w k by_ x y) e σ=dG (opd e x) fun c=>dG (opd e y) fun d=>dG (iR σ.objs d.d) fun ys=>eV σ k by_ c.d ys:=rfl
theorem mUpd {ks:Bool} {x i y:AOpd} {e:Env}:jK (.update ks x i y) e σ=dG (opd e x) fun c=>dG (opd e i) fun k=>dG (opd e y) fun v=>dG (rZ σ.oth c.d) fun m=>ifB (uI ks k.d && v.d.ok) (dG (jX k.d m.2.1) fun r =>
   some (.undef,SM σ m.1 (eZ r (.map (m.2.1 ++ [(k.d,v.d,m.2.2)]) (m.2.2 + 1)) fun p=>.map (m.2.1.set p.2.2 (k.d,v.d,p.2.1)) m.2.2))) none:=rfl
theorem zhzb {e:Env}:jK .makeMap e σ=some (.map σ.next,GM σ (.map [] 0)):=rfl
theorem zc1b {k:RowK} {ps:List AOpd} {e:Env}:jK (.buildA k ps) e σ=dG (lZ e ps) fun ds=>ifB (eM k.sz ds && decide (ds.length * k.sz≤16777216)) (some (.arr k σ.next 0 ds.length,dR σ k (cellsOf ds))) none:=rfl
set_option linter.defProp false in
def mB:=aB @zc2b (aB @zhyb (aB @zc3b (aB @zhwb (aB @zhxb (aB @mUpd (aB @zhzb (aB @zc1b @zccb)))))))
theorem Frm.ga {p a m:Nat}:Frm p a m a m σ (GA σ t cs):=⟨by rw [fW]; omega,fun j h _ _=>jU (by omega),fun j h=>zfm (by omega),fun _ _ _=>rfl,.inl rfl,.inl rfl⟩
theorem Frm.gm {p a m:Nat}:Frm p a m a m σ (GM σ x):=⟨by rw [Af]; omega,fun j h _ _=>rfl,fun j h=>rfl,fun j h _=>zpl (by omega),.inl rfl,.inl rfl⟩
end
theorem Frm.so {p a m a' m':Nat} {σ σ':Store} (h:Frm p a m a' m' σ σ') {id:Nat} {cs:List Cell} (hi:σ.next≤id∨id=p):Frm p a m a' m' σ (SO σ' id cs) :=
 ⟨h.nx,fun j hj hp ha=>by rw [iY (by rcases hi with hi | hi <;> omega),h.ob j hj hp ha],h.ty,h.ot,h.fa,h.fm⟩
theorem CA.keep {σ σ':Store} {p a:Nat} {md:D} {L:List In} (h:CA σ p a md L) (hn:σ.next≤σ'.next) (h1:dE σ'.objs p=dE σ.objs p) (h2:dE σ'.objs a=dE σ.objs a) (h3:dE σ'.tys a=dE σ.tys a):CA σ' p a md L :=
 ⟨by rw [h1]; exact h.obj,fun hL=>by rw [h2,h3]; exact h.arr hL,h.pa,aP h.pn hn,aP h.an hn⟩
theorem CA.ga {σ:Store} {p a:Nat} {md:D} {L:List In} {t:Nat} {cs:List Cell} (h:CA σ p a md L):CA (GA σ t cs) p a md L :=
 h.keep (by rw [fW]; omega) (jU (by have:=h.pn; omega)) (jU (by have:=h.an; omega)) (zfm (by have:=h.an; omega))
theorem CA.so {σ:Store} {p a:Nat} {md:D} {L:List In} {id:Nat} {cs:List Cell} (h:CA σ p a md L) (h1:id≠p) (h2:id≠a):CA (SO σ id cs) p a md L :=
 h.keep (aM _) (iY (fun e=>h1 e.symm)) (iY (fun e=>h2 e.symm)) rfl
theorem CS.ga {σ:Store} {p a m:Nat} {L:List In} {M:At} {t:Nat} {cs:List Cell} (h:CS σ p a m L M):CS (GA σ t cs) p a m L M:=⟨h.ca.ga,h.map,by rw [fW]; have:=h.mn; omega⟩
theorem CS.so {σ:Store} {p a m:Nat} {L:List In} {M:At} {id:Nat} {cs:List Cell} (h:CS σ p a m L M) (h1:id≠p) (h2:id≠a):CS (SO σ id cs) p a m L M:=⟨h.ca.so h1 h2,h.map,h.mn⟩
theorem CS.gm {σ:Store} {p a m:Nat} {L:List In} {M:At} {x:Oth} (h:CS σ p a m L M):CS (GM σ x) p a m L M :=
 ⟨h.ca.keep (by rw [Af]; omega) rfl rfl rfl,by
  obtain ⟨es,c,h1,h2⟩:=h.map
  exact ⟨es,c,by rw [zpl (by have:=h.mn; omega),h1],h2⟩,by rw [Af]; have:=h.mn; omega⟩
theorem CA.app {σ:Store} {p a:Nat} {md:D} {L:List In} (h:CA σ p a md L) (x:In) (hl:L.length < 1000000000):∃ σ1,eV σ k_1 48 (nT a L) [dI x]=some (.arr k_1 σ.next 0 (L.length + 1),σ1)∧dE σ1.objs p=some [⟨false,nT a L⟩,⟨false,md⟩] ∧
  CA (SO σ1 p [⟨false,.arr k_1 σ.next 0 (L.length + 1)⟩,⟨false,md⟩]) p σ.next md (L ++ [x])∧(∀ m,Frm p a m σ.next m σ (SO σ1 p [⟨false,.arr k_1 σ.next 0 (L.length + 1)⟩,⟨false,md⟩]))∧σ1.oth=σ.oth∧σ.next < σ1.next∧(∀ j,j < σ.next→j≠a→dE σ1.objs j=dE σ.objs j):=by
 have hp:=h.pn
 have hpn:¬ σ.next=p:=by omega
 have hpa:=h.pa
 have h1:eM k_1.sz [dI x]=true:=rfl
 have e1:decide ((L.length + 1) * 48≤eL)=true:=decide_eq_true (show (L.length + 1) * 48≤1099511627776 by omega)
 have e2:decide (L.length + 1≤eL)=true:=decide_eq_true (show L.length + 1≤1099511627776 by omega)
 have fin:∀ σ1:Store,σ1.next=σ.next + 2→σ1.oth=σ.oth→σ1.tys=(σ.next,⟨k_1.el,k_1.sz⟩) :: σ.tys→dE σ1.objs σ.next=some (cI (L ++ [x]))→(∀ j,j < σ.next→j≠a→dE σ1.objs j=dE σ.objs j) →
   dE σ1.objs p=some [⟨false,nT a L⟩,⟨false,md⟩]∧CA (SO σ1 p [⟨false,.arr k_1 σ.next 0 (L.length + 1)⟩,⟨false,md⟩]) p σ.next md (L ++ [x])∧(∀ m,Frm p a m σ.next m σ (SO σ1 p [⟨false,.arr k_1 σ.next 0 (L.length + 1)⟩,⟨false,md⟩]))∧σ1.oth=σ.oth∧σ.next < σ1.next∧(∀ j,j < σ.next→j≠a→dE σ1.objs j=dE σ.objs j):=by
  intro σ1 hn ho ht hc hj
  refine ⟨by rw [hj p hp hpa]; exact h.obj,⟨?_,fun _=>⟨?_,?_⟩,fun e=>hpn e.symm,?_,?_⟩,fun m=>⟨?_,fun j h1 h2 h3=>?_,fun j h1=>?_,fun j _ _=>?_,.inr (aM _),.inl rfl⟩,ho,by omega,hj⟩
  ·rw [jS,uS]
  ·rw [iY hpn,hc]
  ·rw [As,ht,agS]
  ·rw [gQ]; omega
  ·rw [gQ]; omega
  ·rw [gQ]; omega
  ·rw [iY h2,hj j h1 h3]
  ·rw [As,ht,agC _ _ _ _ (by omega)]
  ·rw [xT,ho]
 cases L with
 | nil =>
  have e:([dI x].isEmpty)=false:=rfl
  refine ⟨dR σ k_1 (cellsOf [dI x]),?_,?_⟩
  ·simp only [nT,eV,h1,e,dJ,dH,aG,aH,aN] at e1 e2 ⊢
   simp only [e1,e2,aY,dJ]
  ·refine fin _ rfl rfl rfl ?_ fun j hj ha=>?_
   ·simp only [dR,agS]
    rfl
   ·simp only [dR]
    rw [agC _ _ _ _ (by omega)]
 | cons y r =>
  obtain ⟨g1,g2⟩:=h.arr (by simp)
  have e0:decide ((r.length + 1) * k_1.sz≤(cI (y :: r)).length)=true:=by rw [Ax]; simp [k_1]
  have ek:k_1.same k_1=true:=rfl
  have ht:(cI (y :: r)).take ((r.length + 1) * k_1.sz)=cI (y :: r):=List.take_of_length_le (by rw [Ax]; simp [k_1])
  have en:(cI (y :: r)).map (fun c=>Cell.of c.d) ++ cellsOf [dI x]=cI (y :: r ++ [x]):=by
   rw [xI,xI,zM,aU,qB]
   rfl
  refine ⟨dR {σ with objs:=eE σ.objs a} k_1 (cI (y :: r ++ [x])),?_,?_⟩
  ·simp only [nT,eV,h1,dJ,g1,g2,dG,dK,ek,bW,aG,aH,aN] at e1 e2 ⊢
   simp only [e0,e1,e2,aY,dJ,ht,en]
  ·refine fin _ rfl rfl rfl ?_ fun j hj ha=>?_
   ·simp only [dR,agS]
   ·simp only [dR]
    rw [agC _ _ _ _ (by omega),agD _ _ ha]
theorem CS.upd {σ:Store} {p a m:Nat} {L:List In} {M:At} (h:CS σ p a m L M) (k:Tx) (v:Int):∃ es c r,dE σ.oth m=some (.map es c)∧jX (.str k) es=some r ∧
  CS (SM σ m (eZ r (.map (es ++ [(.str k,.int .i64 v,c)]) (c + 1)) fun p=>.map (es.set p.2.2 (.str k,.int .i64 v,p.2.1)) c)) p a m L (pU M k v) ∧
  Frm p a m a m σ (SM σ m (eZ r (.map (es ++ [(.str k,.int .i64 v,c)]) (c + 1)) fun p=>.map (es.set p.2.2 (.str k,.int .i64 v,p.2.1)) c)):=by
 obtain ⟨es,c,h1,h2⟩:=h.map
 refine ⟨mpD es,c,fnd k es,h1,Vq k es,⟨h.ca.keep (aM _) rfl rfl rfl,?_,h.mn⟩,⟨aM _,fun _ _ _ _=>rfl,fun _ _=>rfl,fun j _ hm=>zg2b hm,.inl rfl,.inl rfl⟩⟩
 have hf:=Vt k es
 cases hk:fnd k es with
 | none =>
  rw [hk] at hf
  refine ⟨es ++ [(k,v,c)],c + 1,?_,fun x=>?_⟩
  ·rw [znw]
   simp [eZ,mpD]
  ·rw [zjo k v c es hf x]
   simp only [pU,h2]
 | some q =>
  refine ⟨es.set q.2.2 (k,v,q.2.1),c,?_,fun x=>?_⟩
  ·rw [znw]
   simp [eZ,mpD,List.map_set]
  ·rw [zjp k v es q hk x]
   simp only [pU,h2]
theorem CS.look {σ:Store} {p a m:Nat} {L:List In} {M:At} (h:CS σ p a m L M) (k:Tx):∃ es c r,dE σ.oth m=some (.map es c)∧jX (.str k) es=some r∧eZ r (M k=none) fun v=>∃ x,v.1=.int .i64 x∧M k=some x:=by
 obtain ⟨es,c,h1,h2⟩:=h.map
 refine ⟨mpD es,c,fnd k es,h1,Vq k es,?_⟩
 rw [← h2]
 exact Vt k es
theorem ztq:∀ (L:List In) (k:Nat) (v:Int),k < L.length→putCells (cI L) (k * 4 + 1) [⟨false,.int .i64 v⟩]=cI (uE L k v)
 | [],k,v,h=>by simp at h
 | x :: L,0,v,h=>by simp [cI,putCells,uE]
 | x :: L,k + 1,v,h=>by
  have:=ztq L k v (by simp at h; omega)
  rw [show (k + 1) * 4 + 1=(k * 4 + 1) + 1 + 1 + 1 + 1 by omega]
  simp only [cI,putCells,uE,List.modify_succ_cons] at this ⊢
  rw [this]
theorem CS.set {σ:Store} {p a m:Nat} {L:List In} {M:At} (h:CS σ p a m L M) (k:Nat) (v:Int) (hk:k < L.length) :
  CS (SO σ a (putCells (cI L) (k * 4 + 1) [⟨false,.int .i64 v⟩])) p a m (uE L k v) M∧Frm p a m a m σ (SO σ a (putCells (cI L) (k * 4 + 1) [⟨false,.int .i64 v⟩])):=by
 have hpa:=h.ca.pa
 have hne:L≠[]:=fun e=>by rw [e] at hk; simp at hk
 obtain ⟨g1,g2⟩:=h.ca.arr hne
 have hl:=yL L k v
 have hn2:uE L k v≠[]:=fun e=>by rw [e] at hl; simp at hl; exact hne (aR.1 hl.symm)
 refine ⟨⟨⟨?_,fun _=>⟨?_,g2⟩,h.ca.pa,h.ca.pn,h.ca.an⟩,h.map,h.mn⟩,⟨aM _,fun j _ _ ha=>iY ha,fun _ _=>rfl,fun _ _ _=>rfl,.inl rfl,.inl rfl⟩⟩
 ·rw [iY hpa,h.ca.obj,Gj _ _ hne,Gj _ _ hn2,hl]
 ·rw [jS,ztq L k v hk]
end Go.Fu
namespace Go.Fu
open Go Go.Mx
def lQ:ACode:=(sq [mo 42 (.bin .lss (.tmp 41) (.tmp 40))] [] (.seq (.cond (.tmp 42) .skip (.exit 2)) (.seq (.block 3 (sq [mo 43 (.indexAddr 1 (.tmp 39) (.tmp 41)),ml 44 43,mw 12 44] [42,43,44] (rg [mt 45 10,mt 46 12,
 mo 47 (.call n_6 [.tmp 45,.tmp 46,(ci 0)])] [12,45,46,47]))) (rg [mo 48 (.bin .add (.tmp 41) (ci 1)),mw 41 48] [48]))))
def lR:ACode:=(sq [mo 26 (.bin .lss (.tmp 25) (.tmp 24))] [] (.seq (.cond (.tmp 26) .skip (.exit 0)) (.seq (.block 1 (sq [mo 27 (.indexAddr 8 (.tmp 23) (.tmp 25)),mo 28 (.load (some 8) false (.tmp 27)),
 mo 9 (.alloc [.str [],.int .i64 0,.int .i64 0,.int .i64 0,.int .i64 0,.int .i64 0,.str [],.nils]),⟨none,.store 8 (.tmp 9) (.mv 28),none⟩] [26,27,28] (sq [mf 29 0 9,ml 30 29,mf 31 3 9,ml 32 31,mf 33 1 9,ml 34 33,
 mo 35 (.build [.str [],.int .i64 0,.int .i64 0,.str []] [(0,1,(.const (.str [80,65,67,75]))),(3,1,(.tmp 30)),(1,1,(.tmp 32)),(2,1,(.tmp 34))]),mo 36 (.buildA k_1 [.tmp 35]),mo 37 (.build [.nils,.nilmap] [(0,1,(.tmp 36))]),mo 38 (.gbox To (.tmp 37)),
 mw 10 38] [29,30,31,32,33,34,35,36,37,38] (.seq (sq [mo 39 (.buildSlice k_0 [(.const (.str [85,80,68,65,84,69])),(.const (.str [80,79,80])),(.const (.str [85,78,87,73,78,68]))]),mo 40 (.len (.tmp 39)),mo 41 (.mov (ci 0))] [] (.block 2 (.loop lQ)))
 (.frz [.obj 10]  (.region [mw 49 7,mf 50 0 9,mo 51 (.loadB 9 none (.tmp 50)),mf 52 3 9,mo 53 (.loadB 9 none (.tmp 52)),mt 54 10,mo 55 (.nilCheck (.tmp 54)),mf 56 0 55,mo 57 (.loadP none (.tmp 56)),
 mo 58 (.build [.str [],.int .i64 0,.nils] [(0,1,(.tmp 51)),(1,1,(.tmp 53)),(2,1,(.tmp 57))]),mo 59 (.buildSlice vP [.tmp 58]),mo 60 (.append vP 48 (.mv 49) (.tmp 59)),
 mw 7 60] (some [0,1,2,3,4,5,6,7,8,9,10,11,12]) [9,10,39,40,41,42,49,50,51,52,53,54,55,56,57,58,59,60])))))) (rg [mo 61 (.bin .add (.tmp 25) (ci 1)),mw 25 61] [61]))))
def kW:ACode:=(sq [mo 72 (.bin .lss (.tmp 71) (.tmp 70))] [] (.seq (.cond (.tmp 72) .skip (.exit 6)) (.seq (.block 7 (sq [mo 73 (.indexAddr 12 (.tmp 69) (.tmp 71)),mo 74 (.load (some 12) false (.tmp 73)),
 mo 16 (.alloc [.str [],.nils,.int .i64 0,.int .i64 0,.str [],.int .i64 0,.int .i64 0,.str [],.nils,.nils,.nils,.nils]),⟨none,.store 12 (.tmp 16) (.mv 74),none⟩] [72,73,74] (rg [mw 75 7,mo 76 (.load (some 12) false (.tmp 16)),mo 77 (.call Pv [.tmp 76]),
 mo 78 (.buildSlice vP [.tmp 77]),mo 79 (.append vP 48 (.mv 75) (.tmp 78)),mw 7 79] [16,75,76,77,78,79]))) (rg [mo 80 (.bin .add (.tmp 71) (ci 1)),mw 71 80] [80]))))
def lT:ACode:=(sq [mo 65 (.bin .lss (.tmp 64) (.tmp 63))] [] (.seq (.cond (.tmp 65) .skip (.exit 4)) (.seq (.block 5 (sq [mo 66 (.indexAddr 12 (.tmp 62) (.tmp 64)),mo 67 (.load (some 12) false (.tmp 66)),
 mo 14 (.alloc [.str [],.nils,.int .i64 0,.int .i64 0,.str [],.int .i64 0,.int .i64 0,.str [],.nils,.nils,.nils,.nils]),⟨none,.store 12 (.tmp 14) (.mv 67),none⟩] [65,66,67] (sq [mo 68 (.load (some 12) false (.tmp 14)),mo 69 (.call wT [.tmp 68]),mo 70 (.len (.tmp 69)),
 mo 71 (.mov (ci 0))] [14,68] (.block 6 (.loop kW))))) (rg [mo 81 (.bin .add (.tmp 64) (ci 1)),mw 64 81] [69,70,71,72,81]))))
def kG:ACode:=(sq [mo 90 (.bin .lss (.tmp 89) (.tmp 88))] [] (.seq (.cond (.tmp 90) .skip (.exit 0)) (.seq (.block 1 (sq [mt 91 89,mo 92 (.indexAddr 15 (.tmp 87) (.tmp 89)),mo 93 (.load (some 15) false (.tmp 92)),
 mo 12 (.alloc [.str [],.int .i64 0,.int .i64 0,.str [],.nils,.int .i64 0,.int .i64 0,.str [],.int .i64 0,.int .i64 0,.str [],.nils,.nils,.nils,.nils]),mw 11 91,⟨none,.store 15 (.tmp 12) (.mv 93),none⟩] [90,91,92,93] (.region [mf 94 8 5,mo 95 (.loadB 5 none (.tmp 94)),
 mt 96 11,mt 97 0,mo 98 (.fieldAddr 5 (some 10) (.tmp 12)),mo 99 (.loadB 12 (some 10) (.tmp 98)),mt 100 3,mo 101 (.call vQ [.tmp 97,.tmp 99,(.const (.bool true)),.tmp 100]),mo 102 (.indexAddr 15 (.tmp 95) (.tmp 96)),mo 103 (.fieldAddr 5 (some 10) (.tmp 102)),
 ⟨none,.storeP 10 (.tmp 103) (.tmp 101),none⟩] (some [0,1,2,3,4,5,6,7,8,9,10]) [11,12,94,95,96,97,98,99,100,101,102,103]))) (rg [mo 104 (.bin .add (.tmp 89) (ci 1)),mw 89 104] [104]))))
def jC:ACode:=(sq [mo 109 (.bin .lss (.tmp 108) (.tmp 107))] [] (.seq (.cond (.tmp 109) .skip (.exit 2)) (.seq (.block 3 (sq [mt 110 108,mo 111 (.indexAddr 10 (.tmp 106) (.tmp 108)),mo 112 (.load (some 10) false (.tmp 111)),
 mo 14 (.alloc [.int .i64 0,.int .i64 0,.str [],.int .i64 0,.int .i64 0,.str [],.nils,.nils,.nils,.nils]),mw 13 110,⟨none,.store 10 (.tmp 14) (.mv 112),none⟩] [109,110,111,112] (.region [mf 113 7 5,mo 114 (.loadB 5 none (.tmp 113)),mt 115 13,mt 116 0,
 mo 117 (.loadB 14 (some 10) (.tmp 14)),mf 118 0 5,mo 119 (.loadB 5 none (.tmp 118)),mo 120 (.bin .eql (.tmp 119) (ci 4)),mw 121 120,⟨some 122,.mov (.tmp 2),(some (121,false))⟩,mo 123 (.pick (.tmp 121) (.const (.bool true)) (.tmp 122)),mt 124 3,
 mo 125 (.call vQ [.tmp 116,.tmp 117,.tmp 123,.tmp 124]),mo 126 (.indexAddr 10 (.tmp 114) (.tmp 115)),
 ⟨none,.storeP 10 (.tmp 126) (.tmp 125),none⟩] (some [0,1,2,3,4,5,6,7,8,9,10,11,12,13,14]) [13,14,113,114,115,116,117,118,119,120,121,122,123,124,125,126]))) (rg [mo 127 (.bin .add (.tmp 108) (ci 1)),mw 108 127] [127]))))
def kH:ACode:=(sq [mo 132 (.bin .lss (.tmp 131) (.tmp 130))] [] (.seq (.cond (.tmp 132) .skip (.exit 4)) (.seq (.block 5 (sq [mt 133 131,mo 134 (.indexAddr 14 (.tmp 129) (.tmp 131)),mo 135 (.load (some 14) false (.tmp 134)),
 mo 16 (.alloc [.int .i64 0,.int .i64 0,.str [],.nils,.int .i64 0,.int .i64 0,.str [],.int .i64 0,.int .i64 0,.str [],.nils,.nils,.nils,.nils]),mw 15 133,⟨none,.store 14 (.tmp 16) (.mv 135),none⟩] [132,133,134,135] (.region [mf 136 9 5,mo 137 (.loadB 5 none (.tmp 136)),
 mt 138 15,mt 139 0,mo 140 (.fieldAddr 4 (some 10) (.tmp 16)),mo 141 (.loadB 16 (some 10) (.tmp 140)),mt 142 3,mf 143 3 16,mo 144 (.loadB 16 none (.tmp 143)),mo 145 (.buildSlice yX [.tmp 142,.tmp 144]),mo 146 (.call qY [.tmp 145]),
 mo 147 (.call vQ [.tmp 139,.tmp 141,(.const (.bool false)),.tmp 146]),mo 148 (.indexAddr 14 (.tmp 137) (.tmp 138)),mo 149 (.fieldAddr 4 (some 10) (.tmp 148)),
 ⟨none,.storeP 10 (.tmp 149) (.tmp 147),none⟩] (some [0,1,2,3,4,5,6,7,8,9,10,11,12,13,14]) [15,16,136,137,138,139,140,141,142,143,144,145,146,147,148,149]))) (rg [mo 150 (.bin .add (.tmp 131) (ci 1)),mw 131 150] [150]))))
def jD:ACode:=(sq [mo 12 (.bin .lss (.tmp 11) (.tmp 10))] [] (.seq (.cond (.tmp 12) .skip (.exit 0)) (.seq (.block 1 (sq [mo 13 (.indexAddr 1 (.tmp 9) (.tmp 11)),ml 14 13,mw 5 14] [12,13,14] (sq [mt 15 3,mt 16 5,mo 17 (.len (.tmp 16)),
 mo 18 (.bin .add (.tmp 15) (.tmp 17)),mw 3 18] [5,15,16,17,18] (sq [mt 19 3,mo 20 (.bin .lss (.tmp 19) (ci 0))] [19] (.cond (.tmp 20) (rg [mo 21 (.mkIface za4 (.const (.str [108,101,110,32,111,117,116,32,111,102,32,114,97,110,103,101]))),
 ⟨none,.panic (.tmp 21),none⟩] [20,21]) .skip))))) (rg [mo 22 (.bin .add (.tmp 11) (ci 1)),mw 11 22] [20,22]))))
def iI:ACode:=(sq [mo 28 (.bin .lss (.tmp 27) (.tmp 26))] [] (.seq (.cond (.tmp 28) .skip (.exit 2)) (.seq (.block 3 (sq [mo 29 (.indexAddr 1 (.tmp 25) (.tmp 27)),ml 30 29,mw 8 30] [28,29,30] (rg [mw 31 6,mt 32 8,mo 33 (.appendA k_0 16 (.mv 31) (.tmp 32)),
 mw 6 33] [8,31,32,33]))) (rg [mo 34 (.bin .add (.tmp 27) (ci 1)),mw 27 34] [34]))))
def nF:AFun:={nargs:=2,ntmps:=83,res:=[.tmp 4,.tmp 5],gc:=false,body:=(sq [mo 4 (.mov (.const .nils)),mo 5 (.mov (ci 0))] [4,5] (.seq (sq [mt 17 0,mt 18 1,mo 19 (.call zhg [.tmp 17,.tmp 18]),mw 6 19] [17,18,19] (sq [mt 20 6,
 mo 21 (.bin .neq (.tmp 20) (ci 0))] [20] (.cond (.tmp 21) (sq [mw 22 6,mo 4 (.mov (.const .nils)),mw 5 22] [0,1,6,21,22] .ret) .skip))) (sq [mo 7 (.mov (.const .nils))] [6,21] (.seq (sq [mt 23 0,mo 24 (.len (.tmp 23)),mo 25 (.mov (ci 0))] [0] (.block 0 (.loop lR))) (.seq
 (sq [mt 62 1,mo 63 (.len (.tmp 62)),mo 64 (.mov (ci 0))] [1,23,24,25,26] (.block 4 (.loop lT))) (sq [mw 82 7,mw 4 82,mo 5 (.mov (ci 0))] [7,62,63,64,65,82] .ret))))))}
def vL:AFun:={nargs:=1,ntmps:=26,res:=[.cell 2 (some 3)],gc:=false,body:=(sq [mo 1 (.gbox zsr (.tmp 0)),mo 2 (.alloc [.str [],.int .i64 0,.nils])] [0] (sq [mo 5 (.makeMap),mo 6 (.build [.nils,.nilmap] [(1,1,(.tmp 5))]),
 mo 7 (.gbox To (.tmp 6)),mo 3 (.galloc xG [.nilp]),⟨none,.store 1 (.tmp 3) (.mv 7),none⟩] [5,6,7] (sq [mf 8 1 1,ml 9 8,mo 10 (.call yZ [.tmp 9]),mo 4 (.galloc t_8 [.nils]),⟨none,.store 1 (.tmp 4) (.mv 10),none⟩] [8,9,10] (sq [ml 11 4,
 mo 12 (.call Ti [.tmp 11])] [11,12] (sq [ml 13 3,ml 14 4,mo 15 (.mkFunc (.func Zd) [] [.tmp 3,.tmp 1,.tmp 4]),mo 16 (.call Sv [.tmp 13,.tmp 14,(ci 0),.tmp 15])] [13,14,15,16] (.seq (.region [mf 17 0 1,mo 18 (.loadP none (.tmp 17)),
 mo 19 (.loadP none (.tmp 4)),mo 20 (.len (.tmp 19)),mo 21 (.loadP none (.tmp 3)),mo 22 (.nilCheck (.tmp 21)),mf 23 0 22,mo 24 (.loadP none (.tmp 23)),mo 25 (.build [.str [],.int .i64 0,.nils] [(0,1,(.tmp 18)),(1,1,(.tmp 20)),(2,1,(.tmp 24))]),
 ⟨none,.storeB 2 3 (.tmp 2) (.mv 25),none⟩] (some [0,1,2,3,4,5,6,7,8,9]) [1,3,4,17,18,19,20,21,22,23,24,25]) (.frz [.box 2] .ret)))))))}
def sJ:AFun:={nargs:=2,ntmps:=22,res:=[.tmp 4],gc:=false,body:=(sq [mo 2 (.gbox xG (.tmp 0)),mo 3 (.box (.tmp 1)),mo 4 (.mov (.const (.nilfn)))] [0,1,4] (sq [ml 6 2,mo 7 (.nilCheck (.tmp 6)),mf 8 0 7,ml 9 8,mo 10 (.len (.tmp 9)),
 mo 5 (.galloc wB [.int .i64 0]),⟨none,.store 1 (.tmp 5) (.mv 10),none⟩] [6,7,8,9,10] (.seq (.region [mo 11 (.loadP none (.tmp 2)),mo 12 (.loadP none (.tmp 2)),mo 13 (.nilCheck (.tmp 12)),mf 14 0 13,mo 15 (.loadP none (.tmp 14)),mo 16 (.loadB 3 (some 4) (.tmp 3)),
 mo 17 (.buildSlice k_1 [.tmp 16]),mo 18 (.appendW [2] k_1 48 (.mv 15) (.tmp 17)),mo 19 (.nilCheck (.tmp 11)),mf 20 0 19,⟨none,.storeP 1 (.tmp 20) (.tmp 18),none⟩] (some [0,1,2,3,4,5,6,7,8,9,10]) [3,11,12,13,14,15,16,17,18,19,20]) (sq [
 mo 21 (.mkFunc (.func Sr) [] [.tmp 2,.tmp 5]),mw 4 21] [2,5,21] .ret))))}
def eO:AFun:={nargs:=3,ntmps:=90,res:=[],gc:=false,body:=(sq [mo 4 (.box (.tmp 1))] [1] (.seq (.region [mt 9 0,mo 10 (.nilCheck (.tmp 9)),mf 11 1 10,mo 12 (.loadP none (.tmp 11)),mf 13 2 4,mo 14 (.loadB 4 none (.tmp 13)),
 mo 15 (.lookup true (.int .i64 0) true (.tmp 12) (.tmp 14)),mw 8 15,mo 16 (.extract (.tmp 8) 0),mo 17 (.extract (.tmp 8) 1),mw 6 16,mw 7 17] (some [0,1,2,3,4,5,6,7,8,9,10,11]) [8,9,10,11,12,13,14,15,16,17]) (.block 0 (sq [mf 30 0 4,ml 31 30,
 mo 32 (.bin .eql (.tmp 31) (ci 1)),mw 33 32,⟨some 34,.mov (.tmp 7),(some (33,true))⟩,mo 35 (.pick (.tmp 33) (.tmp 34) (.const (.bool false))),mw 29 35] [7,30,31,32,33,34,35] (.cond (.tmp 29) (rg [mt 36 0,mt 37 2,mo 38 (.bin .sub (.tmp 37) (ci 1)),mt 39 6,
 mo 40 (.bin .sub (.tmp 38) (.tmp 39)),mo 41 (.call n_6 [.tmp 36,(.const (.str [80,85,83,72,65])),.tmp 40])] [0,2,4,6,29,36,37,38,39,40,41]) (.seq (sq [mf 43 0 4,ml 44 43,mo 45 (.bin .eql (.tmp 44) (ci 1)),mw 42 45] [6,29,43,44,45] (.cond (.tmp 42) .skip (rg [
 mf 46 0 4,ml 47 46,mo 48 (.bin .eql (.tmp 47) (ci 2)),mw 42 48] [46,47,48]))) (.cond (.tmp 42) (.region [mt 49 0,mt 50 0,mo 51 (.nilCheck (.tmp 50)),mf 52 0 51,mo 53 (.loadP none (.tmp 52)),mf 54 2 4,mo 55 (.loadB 4 none (.tmp 54)),
 mo 56 (.build [.str [],.int .i64 0,.int .i64 0,.str []] [(0,1,(.const (.str [80,85,83,72,71]))),(3,1,(.tmp 55))]),mo 57 (.buildSlice k_1 [.tmp 56]),mo 58 (.appendA k_1 48 (.mv 53) (.tmp 57)),mo 59 (.nilCheck (.tmp 49)),mf 60 0 59,
 ⟨none,.storeP 1 (.tmp 60) (.tmp 58),none⟩] (some [0,1,2,3,4,5,6,7,8,9,10,11,12]) [0,2,4,42,49,50,51,52,53,54,55,56,57,58,59,60]) (sq [mf 62 0 4,ml 63 62,mo 64 (.bin .eql (.tmp 63) (ci 3)),mw 61 64] [42,62,63,64] (.cond (.tmp 61) (rg [mt 65 0,mf 66 1 4,ml 67 66,
 mo 68 (.call n_6 [.tmp 65,(.const (.str [80,85,83,72,73])),.tmp 67])] [0,2,4,61,65,66,67,68]) (sq [mf 70 0 4,ml 71 70,mo 72 (.bin .eql (.tmp 71) (ci 4)),mw 69 72] [61,70,71,72] (.cond (.tmp 69) (sq [mt 73 0,mf 74 7 4,ml 75 74,
 mo 76 (.indexAddr 10 (.tmp 75) (ci 1)),mo 77 (.load (some 10) false (.tmp 76)),mt 78 2,mo 79 (.call sT [.tmp 73,.tmp 77,.tmp 78])] [69,73,74,75,76,77,78,79] (sq [mt 80 0,mf 81 7 4,ml 82 81,mo 83 (.indexAddr 10 (.tmp 82) (ci 0)),
 mo 84 (.load (some 10) false (.tmp 83)),mt 85 2,mo 86 (.bin .add (.tmp 85) (ci 1)),mo 87 (.call sT [.tmp 80,.tmp 84,.tmp 86])] [2,4,80,81,82,83,84,85,86,87] (rg [mt 88 0,
 mo 89 (.call n_6 [.tmp 88,(.const (.str [77,75,65,80])),(ci 0)])] [0,88,89]))) (sq [mt 18 0,mo 19 (.load (some 10) false (.tmp 4)),mt 20 2,mt 21 0,mo 22 (.mkFunc (.func sT) [.tmp 21] []),
 mo 23 (.call Ze [.tmp 18,.tmp 19,.tmp 20,.tmp 22])] [2,18,19,20,21,22,23,69] (rg [mt 24 0,mf 25 8 4,ml 26 25,mo 27 (.len (.tmp 26)),mo 28 (.call n_6 [.tmp 24,(.const (.str [83,76,73,68,69])),.tmp 27])] [0,4,24,25,26,27,28])))))))))))))}
def tK:AFun:={nargs:=3,ntmps:=18,res:=[],gc:=false,body:=(rg [mt 6 0,mt 7 0,mo 8 (.nilCheck (.tmp 7)),mf 9 0 8,ml 10 9,mt 11 1,mt 12 2,mo 13 (.build [.str [],.int .i64 0,.int .i64 0,.str []] [(0,1,(.tmp 11)),(1,1,(.tmp 12))]),
 mo 14 (.buildSlice k_1 [.tmp 13]),mo 15 (.appendA k_1 48 (.mv 10) (.tmp 14)),mo 16 (.nilCheck (.tmp 6)),mf 17 0 16,⟨none,.store 1 (.tmp 17) (.mv 15),none⟩] [0,1,2,6,7,8,9,10,11,12,13,14,15,16,17])}
def kF:AFun:={nargs:=3,ntmps:=18,res:=[],gc:=false,body:=(sq [mo 3 (.box (.tmp 0))] [0] (.seq (sq [mf 4 0 3,ml 5 4,mo 6 (.bin .eql (.tmp 5) (ci 1))] [4,5] (.cond (.tmp 6) (rg [ml 7 1,mf 8 3 3,ml 9 8,mo 10 (.len (.tmp 9)),
 mo 11 (.call n_6 [.tmp 7,(.const (.str [83,76,73,68,69])),.tmp 10])] [3,6,7,8,9,10,11]) .skip)) (.region [mo 12 (.loadP none (.tmp 2)),mo 13 (.loadP none (.tmp 1)),mo 14 (.build [.str [],.int .i64 0,.int .i64 0,.str []] [(0,1,(.const (.str [74,85,77,80])))]),
 mo 15 (.callW [2] Px [.tmp 13,.tmp 14]),mo 16 (.buildSlice gR [.tmp 15]),mo 17 (.appendA gR 8 (.mv 12) (.tmp 16)),⟨none,.storeP 1 (.tmp 2) (.tmp 17),none⟩] (some [0,1,2,3,4,5,6]) [1,2,3,6,12,13,14,15,16,17])))}
def iS:AFun:={nargs:=4,ntmps:=152,res:=[.cell 8 (some 10)],gc:=false,body:=(sq [mo 5 (.box (.tmp 1)),mo 8 (.alloc [.int .i64 0,.int .i64 0,.str [],.int .i64 0,.int .i64 0,.str [],.nils,.nils,.nils,.nils])] [1] (.seq (sq [mt 17 2,mw 18 17,
 ⟨some 19,.fieldAddr 0 none (.tmp 5),(some (18,true))⟩,⟨some 20,.load none false (.tmp 19),(some (18,true))⟩,⟨some 21,.bin .eql (.tmp 20) (ci 9),(some (18,true))⟩,⟨some 22,.mov (.mv 21),(some (18,true))⟩,⟨some 23,.fieldAddr 0 none (.tmp 5),(some (22,false))⟩,
 ⟨some 24,.load none false (.tmp 23),(some (22,false))⟩,⟨some 25,.bin .eql (.tmp 24) (ci 10),(some (22,false))⟩,⟨some 26,.pick (.tmp 22) (.const (.bool true)) (.tmp 25),(some (18,true))⟩,⟨some 27,.mov (.mv 26),(some (18,true))⟩,
 ⟨some 28,.fieldAddr 0 none (.tmp 5),(some (27,false))⟩,⟨some 29,.load none false (.tmp 28),(some (27,false))⟩,⟨some 30,.bin .eql (.tmp 29) (ci 11),(some (27,false))⟩,⟨some 31,.pick (.tmp 27) (.const (.bool true)) (.tmp 30),(some (18,true))⟩,
 mo 32 (.pick (.tmp 18) (.tmp 31) (.const (.bool false)))] [17,18,19,20,21,22,23,24,25,26,27,28,29,30,31] (.cond (.tmp 32) (sq [mo 33 (.load (some 10) false (.tmp 5)),mt 34 3,mo 35 (.call Sz [.tmp 33,.tmp 34]),mw 9 35] [2,3,32,33,34,35] (.seq (.region [
 mo 10 (.allocN 10 [.str [],.nils,.int .i64 0,.int .i64 0,.str [],.int .i64 0,.int .i64 0,.str [],.nils,.nils,.nils,.nils]),mt 36 0,mo 37 (.nilCheck (.tmp 36)),mf 38 0 37,mo 39 (.loadP none (.tmp 38)),mo 40 (.bin .add (.tmp 39) (.const (.str [37]))),mt 41 0,
 mo 42 (.nilCheck (.tmp 41)),mf 43 1 42,mo 44 (.loadP none (.tmp 43)),mo 45 (.len (.tmp 44)),mo 46 (.bin .add (.tmp 45) (ci 1)),mt 49 9,mo 50 (.loadB 5 (some 10) (.tmp 5)),mo 47 (.callW [38] Bq [.tmp 46]),mo 48 (.bin .add (.tmp 40) (.tmp 47)),
 mo 51 (.build [.str [],.nils,.int .i64 0,.int .i64 0,.str [],.int .i64 0,.int .i64 0,.str [],.nils,.nils,.nils,.nils] [(0,1,(.tmp 48)),(1,1,(.tmp 49)),(2,10,(.tmp 50))]),
 ⟨none,.storeB 10 12 (.tmp 10) (.mv 51),none⟩] (some [16,0,1,2,3,4,5,6,7,8,9,10,13,14,11,12,15,17]) [5,36,37,38,39,40,41,42,43,44,45,46,47,48,49,50,51]) (.seq (.region [mt 52 0,mt 53 0,mo 54 (.nilCheck (.tmp 53)),mf 55 1 54,mo 56 (.loadP none (.tmp 55)),
 mo 57 (.loadB 10 (some 12) (.tmp 10)),mo 58 (.buildSlice k_5 [.tmp 57]),mo 59 (.appendA k_5 200 (.mv 56) (.tmp 58)),mo 60 (.nilCheck (.tmp 52)),mf 61 1 60,
 ⟨none,.storeP 1 (.tmp 61) (.tmp 59),none⟩] (some [0,1,2,3,4,5,6,7,8,9,10]) [0,52,53,54,55,56,57,58,59,60,61]) (sq [mf 62 0 10,ml 63 62,mo 64 (.call Jp [.tmp 63]),mw 65 9,mo 66 (.call Ta [.tmp 65]),mo 67 (.call Sm [.tmp 64,.tmp 66]),
 ⟨none,.store 10 (.tmp 8) (.mv 67),none⟩] [9,10,62,63,64,65,66,67] .ret)))) .skip)) (.seq (.region [mf 68 8 5,mo 69 (.loadB 5 none (.tmp 68)),mf 71 7 5,mo 72 (.loadB 5 none (.tmp 71)),mf 74 9 5,mo 75 (.loadB 5 none (.tmp 74)),mo 70 (.call Js [.tmp 69]),mf 77 8 5,
 mo 73 (.call Jt [.tmp 72]),mo 76 (.call Jr [.tmp 75]),⟨none,.storeB 5 1 (.tmp 77) (.mv 70),none⟩,mf 78 7 5,⟨none,.storeB 5 1 (.tmp 78) (.mv 73),none⟩,mf 79 9 5,
 ⟨none,.storeB 5 1 (.tmp 79) (.mv 76),none⟩] (some [0,1,3,4,6,7,2,9,5,8,10,11,12,13,14]) [32,68,69,70,71,72,73,74,75,76,77,78,79]) (sq [mt 80 3,mf 81 8 5,ml 82 81,mo 83 (.call uL [.tmp 82,(.const (.fn (.func qF) [] []))]),
 mo 84 (.buildSlice yX [.tmp 80,.tmp 83]),mo 85 (.call qY [.tmp 84]),mw 3 85] [80,81,82,83,84,85] (.seq (sq [mf 86 8 5,ml 87 86,mo 88 (.len (.tmp 87)),mo 89 (.mov (ci 0))] [86] (.block 0 (.loop kG))) (.seq (sq [mf 105 7 5,ml 106 105,
 mo 107 (.len (.tmp 106)),mo 108 (.mov (ci 0))] [87,88,89,90,105] (.block 2 (.loop jC))) (.seq (sq [mf 128 9 5,ml 129 128,mo 130 (.len (.tmp 129)),mo 131 (.mov (ci 0))] [2,106,107,108,109,128] (.block 4 (.loop kH))) (sq [
 mo 151 (.load (some 10) true (.tmp 5)),⟨none,.store 10 (.tmp 8) (.mv 151),none⟩] [0,3,5,129,130,131,132,151] (.frz [.box 8] .ret)))))))))}
def iK:AFun:={nargs:=1,ntmps:=8,res:=[.tmp 2],gc:=false,body:=(sq [mo 2 (.mov (.const .nils))] [2] (.seq (sq [mt 3 0,mo 4 (.isNilS .eql (.tmp 3))] [3] (.cond (.tmp 4) (sq [mo 2 (.mov (.const .nils))] [0,4] .ret) .skip)) (sq [mo 5 (.buildA k_4 []),
 mw 6 0,mo 7 (.appendA k_4 216 (.mv 5) (.tmp 6)),mw 2 7] [0,4,5,6,7] .ret)))}
def fY:AFun:={nargs:=1,ntmps:=8,res:=[.tmp 2],gc:=false,body:=(sq [mo 2 (.mov (.const .nils))] [2] (.seq (sq [mt 3 0,mo 4 (.isNilS .eql (.tmp 3))] [3] (.cond (.tmp 4) (sq [mo 2 (.mov (.const .nils))] [0,4] .ret) .skip)) (sq [mo 5 (.buildA k_3 []),
 mw 6 0,mo 7 (.appendA k_3 232 (.mv 5) (.tmp 6)),mw 2 7] [0,4,5,6,7] .ret)))}
def gY:AFun:={nargs:=1,ntmps:=8,res:=[.tmp 2],gc:=false,body:=(sq [mo 2 (.mov (.const .nils))] [2] (.seq (sq [mt 3 0,mo 4 (.isNilS .eql (.tmp 3))] [3] (.cond (.tmp 4) (sq [mo 2 (.mov (.const .nils))] [0,4] .ret) .skip)) (sq [mo 5 (.buildA k_2 []),
 mw 6 0,mo 7 (.appendA k_2 160 (.mv 5) (.tmp 6)),mw 2 7] [0,4,5,6,7] .ret)))}
def kJ:AFun:={nargs:=1,ntmps:=36,res:=[.tmp 2],gc:=true,body:=(sq [mo 2 (.mov (.const .nils))] [2] (sq [mo 3 (.mov (ci 0))] [] (.seq (sq [mt 9 0,mo 10 (.len (.tmp 9)),mo 11 (.mov (ci 0))] [] (.block 0 (.loop jD))) (sq [mt 23 3,
 mo 24 (.call zrj [(.const .nils),.tmp 23]),mw 6 24] [3,9,10,11,12,23,24] (.seq (sq [mt 25 0,mo 26 (.len (.tmp 25)),mo 27 (.mov (ci 0))] [0] (.block 2 (.loop iI))) (sq [mw 35 6,mw 2 35] [6,25,26,27,28,35] (.frz [.slot 2] .ret)))))))}
theorem Na:dS Go.Proofs.Tryz.prog Go.Proofs.Tryz.f49 tK=true:=by kernel_rfl
theorem Kt:dS Go.Proofs.Tryz.prog Go.Proofs.Tryz.f155 sJ=true:=by kernel_rfl
theorem Ku:dS Go.Proofs.Tryz.prog Go.Proofs.Tryz.f141 eO=true:=by kernel_rfl
theorem Cc:dS Go.Proofs.Tryz.prog Go.Proofs.Tryz.f157 kF=true:=by kernel_rfl
theorem Hf:dS Go.Proofs.Tryz.prog Go.Proofs.Tryz.f101 iS=true:=by kernel_rfl
theorem Ft:dS Go.Proofs.Tryz.prog Go.Proofs.Tryz.f131 fY=true:=by kernel_rfl
theorem Hg:dS Go.Proofs.Tryz.prog Go.Proofs.Tryz.f132 gY=true:=by kernel_rfl
theorem Kv:dS Go.Proofs.Tryz.prog Go.Proofs.Tryz.f133 iK=true:=by kernel_rfl
theorem Ce:dS Go.Proofs.Tryz.prog Go.Proofs.Tryz.f98 kJ=true:=by kernel_rfl
theorem zc2:dS Go.Proofs.Tryz.prog Go.Proofs.Tryz.f51 vL=true:=by kernel_rfl
theorem Ud:dS Go.Proofs.Tryz.prog Go.Proofs.Tryz.f19 nF=true:=by kernel_rfl
end Go.Fu

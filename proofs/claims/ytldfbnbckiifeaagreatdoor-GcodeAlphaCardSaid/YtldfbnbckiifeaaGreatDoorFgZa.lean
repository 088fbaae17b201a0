/-
 What comes of core that is made eA: of which form,how large,of which names.
-/
import Derived.Test.YtldfbnbckiifeaaGreatDoorFgO
import Derived.Test.YtldfbnbckiifeaaGreatDoorFgLib
set_option maxHeartbeats 4000000
set_option linter.unusedSimpArgs false
set_option linter.unusedVariables false
set_option linter.unusedSectionVars false
namespace Go.Fu
open Go Go.Mx
set_option maxRecDepth 10000
inductive Shp (B:Nat):Co→Prop
 | leaf {f n s}:(f=1∨f=2∨f=3∨f=11)→Small n→s.length≤B→Shp B (.mk f n s [] [] [])
 | app {s a b}:s.length≤B→Shp B a→Shp B b→Shp B (.mk 4 0 s [a,b] [] [])
 | prim {s a b}:s.length≤B→Shp B a→Shp B b→Shp B (.mk 10 0 s [a,b] [] [])
 | lt {s b bs}:s.length≤B→(∀ p∈bs,p.1.length≤B)→(∀ p∈bs,Shp B p.2)→Shp B b→Shp B (.mk 8 0 s [b] bs [])
 | cas {s x al}:s.length≤B→(∀ a∈al,Small a.1.num∧a.1.name.length≤B∧∀ v∈a.1.vars,v.length≤B)→Shp B x→(∀ a∈al,Shp B a.2)→Shp B (.mk 9 0 s [x] [] al)
inductive Fl (B:Nat):Bool→Co→Prop
 | leaf {z f n s}:(f=1∨f=2∨f=3)→Small n→s.length≤B→Fl B z (.mk f n s [] [] [])
 | app {z s a b}:s.length≤B→Fl B true a→Fl B true b→Fl B z (.mk 4 0 s [a,b] [] [])
 | lt {z s b bs}:s.length≤B→(∀ p∈bs,p.1.length≤B)→(∀ p∈bs,Fl B true p.2)→Fl B z b→Fl B z (.mk 8 0 s [b] bs [])
 | fail {n s}:Fl B false (.mk 11 n s [] [] [])
 | prim {s a b}:s.length≤B→Fl B false a→Fl B false b→Fl B false (.mk 10 0 s [a,b] [] [])
 | cas {s x al}:s.length≤B→(∀ a∈al,Small a.1.num∧a.1.name.length≤B∧∀ v∈a.1.vars,v.length≤B)→Fl B false x→(∀ a∈al,Fl B false a.2)→Fl B false (.mk 9 0 s [x] [] al)
theorem Xo {B:Nat} {c:Co} (h:Shp B c):∀ x∈iM c,Shp B x:=by
 cases h with
 | leaf _ _ _=>intro x hx; simp [iM,co] at hx
 | app _ ha hb =>
  intro x hx
  simp only [iM,co,aZ,bG,bP,aS,aK,or_false] at hx
  rcases hx with rfl | rfl
  ·exact ha
  ·exact hb
 | prim _ ha hb =>
  intro x hx
  simp only [iM,co,aZ,bG,bP,aS,aK,or_false] at hx
  rcases hx with rfl | rfl
  ·exact ha
  ·exact hb
 | lt _ _ h2 h3 =>
  intro x hx
  simp only [iM,co,aZ,bP,bJ,bF,aS,aK,or_false] at hx
  rcases hx with ⟨p,hp,rfl⟩ | rfl
  ·exact h2 p hp
  ·exact h3
 | cas _ _ h2 h3 =>
  intro x hx
  simp only [iM,co,aZ,bG,bJ,bF,aS,aK,or_false] at hx
  rcases hx with rfl | ⟨p,hp,rfl⟩
  ·exact h2
  ·exact h3 p hp
theorem zkw {B:Nat} {c:Co} (h:Shp B c):c.s.length≤B:=by cases h <;> assumption
theorem Uj {B:Nat}:∀ (k:Nat) (c:Co) (g s h:List Tx),Shp B c→∀ x∈fU k c g s h,x∈h∨x.length≤B
 | 0,c,g,s,h,_,x,hx=>.inl hx
 | k + 1,c,g,s,h,hs,x,hx=>by
  simp only [fU] at hx
  cases hn:lY c g s h with
  | true =>
   rw [hn] at hx
   simp only [dJ,bJ,aS,aK,or_false] at hx
   exact hx.imp id fun e=>by rw [e]; exact zkw hs
  | false =>
   rw [hn] at hx
   simp only [dH] at hx
   have hf:∀ (n:Nat),n≤(iM c).length→∀ x∈(List.range n).foldl (fun h i=>fU k ((iM c).getD i c0) (g ++ Bi c i) s h) h,x∈h∨x.length≤B:=by
    intro n
    induction n with
    | zero=>intro _ x hx; exact .inl hx
    | succ n ihn =>
     intro hle x hx
     rw [List.range_succ,List.foldl_append] at hx
     simp only [List.foldl_cons,List.foldl_nil] at hx
     have hlt:n < (iM c).length:=by omega
     rw [eY _ _ _ hlt] at hx
     rcases Uj k _ _ _ _ (Xo hs _ (aX hlt)) x hx with h1 | h1
     ·exact ihn (by omega) x h1
     ·exact .inr h1
   exact hf _ (aM _) x hx
def szU:List Su→Nat
 | []=>0
 | u :: r=>u.body.size + szU r
theorem Lm (a b:List Su):szU (a ++ b)=szU a + szU b:=by
 induction a with
 | nil=>simp [szU]
 | cons x r ih=>simp only [aW,szU,ih]; omega
def zpm (B:Nat) (t:Tx) (u:Su):Prop:=Shp B u.body∧u.name.length≤t.length + 22∧u.ps.length≤u.body.size∧∀ p∈u.ps,p.length≤B
def Res (B B':Nat) (t:Tx) (z:Bool) (c:Co) (m:List Su) (r:Co × List Su):Prop:=Fl B' z r.1∧r.1.size≤3 * c.size∧szU r.2≤szU m + c.size∧∀ u∈r.2,u∈m∨zpm B t u
section
variable {B B':Nat} {t:Tx}
theorem Wh {F:Co→List Su→Co × List Su}:∀ (l:List (Tx × Co)) (m:List Su),(∀ p∈l,∀ m,Res B B' t true p.2 m (F p.2 m)) →
  (∀ q∈(fF F l m).1,Fl B' true q.2)∧(fF F l m).1.map Prod.fst=l.map Prod.fst∧szB (fF F l m).1≤3 * szB l∧szU (fF F l m).2≤szU m + szB l∧∀ u∈(fF F l m).2,u∈m∨zpm B t u
 | [],m,_=>⟨fun q hq=>by simp [fF] at hq,rfl,by simp [fF,szB],by simp [fF],fun u hu=>.inl hu⟩
 | (s,c) :: l,m,h=>by
  obtain ⟨a1,a2,a3,a4⟩:=h (s,c) (aQ ..) m
  obtain ⟨b1,b2,b3,b4,b5⟩:=Wh l (F c m).2 fun q hq=>h q (aI _ hq)
  simp only [fF] at a1 a2 a3 a4 ⊢
  refine ⟨fun q hq=>?_,by simp only [aO,b2],by simp only [szB]; omega,by simp only [szB]; omega,fun u hu=>?_⟩
  ·rcases aS.1 hq with rfl | hq
   ·exact a1
   ·exact b1 q hq
  ·rcases b5 u hu with h1 | h1
   ·exact a4 u h1
   ·exact .inr h1
theorem wQ {z:Bool} {F:Co→List Su→Co × List Su}:∀ (l:List Co) (m:List Su),(∀ p∈l,∀ m,Res B B' t z p m (F p m)) →
  (∀ q∈(gP F l m).1,Fl B' z q)∧szK (gP F l m).1≤3 * szK l∧szU (gP F l m).2≤szU m + szK l∧∀ u∈(gP F l m).2,u∈m∨zpm B t u
 | [],m,_=>⟨fun q hq=>by simp [gP] at hq,by simp [gP,szK],by simp [gP],fun u hu=>.inl hu⟩
 | c :: l,m,h=>by
  obtain ⟨a1,a2,a3,a4⟩:=h c (aQ ..) m
  obtain ⟨b1,b3,b4,b5⟩:=wQ l (F c m).2 fun q hq=>h q (aI _ hq)
  simp only [gP] at a1 a2 a3 a4 ⊢
  refine ⟨fun q hq=>?_,by simp only [szK]; omega,by simp only [szK]; omega,fun u hu=>?_⟩
  ·rcases aS.1 hq with rfl | hq
   ·exact a1
   ·exact b1 q hq
  ·rcases b5 u hu with h1 | h1
   ·exact a4 u h1
   ·exact .inr h1
theorem Wc {F:Hd→Co→List Su→Co × List Su}:∀ (l:List (Hd × Co)) (m:List Su),(∀ p∈l,∀ m,Res B B' t false p.2 m (F p.1 p.2 m)) →
  (∀ q∈(iE F l m).1,Fl B' false q.2)∧(iE F l m).1.map Prod.fst=l.map Prod.fst∧szA (iE F l m).1≤3 * szA l∧szU (iE F l m).2≤szU m + szA l∧∀ u∈(iE F l m).2,u∈m∨zpm B t u
 | [],m,_=>⟨fun q hq=>by simp [iE] at hq,rfl,by simp [iE,szA],by simp [iE],fun u hu=>.inl hu⟩
 | (s,c) :: l,m,h=>by
  obtain ⟨a1,a2,a3,a4⟩:=h (s,c) (aQ ..) m
  obtain ⟨b1,b2,b3,b4,b5⟩:=Wc l (F s c m).2 fun q hq=>h q (aI _ hq)
  simp only [iE] at a1 a2 a3 a4 ⊢
  refine ⟨fun q hq=>?_,by simp only [aO,b2],by simp only [szA]; omega,by simp only [szA]; omega,fun u hu=>?_⟩
  ·rcases aS.1 hq with rfl | hq
   ·exact a1
   ·exact b1 q hq
  ·rcases b5 u hu with h1 | h1
   ·exact a4 u h1
   ·exact .inr h1
theorem zdv {z:Bool}:∀ (l:List Tx) (c:Co),(∀ z,Fl B' z c)→(∀ x∈l,x.length≤B')→Fl B' z (kS c l)
 | [],c,h,_=>h z
 | s :: l,c,h,hl=>zdv l (appC' c (eQ s)) (fun z=>.app (by simp) (h true) (.leaf (.inl rfl) ⟨by decide,by decide⟩ (hl s (aQ ..)))) fun x hx=>hl x (aI _ hx)
theorem Wa {z:Bool} {c:Co} {ar:List Tx} {m:List Su} (hs:Shp B c) (hB:B≤B') (ht:t.length + 22≤B'):Res B B' t z c m (pK c ar t m):=by
 have hn:(oQ t m).length≤t.length + 22:=by
  have:=zdy ((m.length:Int) + 1)
  simp only [oQ,aF,aG,aH]
  omega
 have hfl:=Oz c.size c [] ar []
 simp only [aH,aN] at hfl
 have hp:=kO c
 have hnm:∀ x∈fU c.size c [] ar [],x.length≤B:=fun x hx=>(Uj _ _ _ _ _ hs x hx).resolve_left (by simp)
 refine ⟨zdv _ _ (fun z=>.leaf (.inl rfl) ⟨by decide,by decide⟩ (by omega)) fun x hx=>by have:=hnm x hx; omega,?_,?_,fun u hu=>?_⟩
 ·simp only [pK,zmz,zkx]; omega
 ·simp only [pK,Lm,szU]; omega
 ·simp only [pK,bJ,aS,aK,or_false] at hu
  exact hu.imp id fun e=>by subst e; exact ⟨hs,hn,hfl,hnm⟩
theorem Rw {c:Co} (hs:Shp B c) (hB:B≤B') (ht:t.length + 22≤B'):∀ (z:Bool) (ar:List Tx) (m:List Su),Res B B' t z c m (flM c z ar t m):=by
 induction hs with
 | @leaf f n s hf hn hl =>
  intro z ar m
  cases hli:kZ (.mk f n s [] [] []) z with
  | true =>
   rw [Bf _ _ _ _ _ hli]
   exact Wa (.leaf hf hn hl) hB ht
  | false =>
   rw [yA _ _ _ _ _ hli]
   simp only [co,fB,fK,fA,aH,List.take_nil,fF,gP,iE]
   refine ⟨?_,by simp only; omega,by simp only; omega,fun u hu=>.inl hu⟩
   rcases hf with rfl | rfl | rfl | rfl
   ·exact .leaf (.inl rfl) hn (by omega)
   ·exact .leaf (.inr (.inl rfl)) hn (by omega)
   ·exact .leaf (.inr (.inr rfl)) hn (by omega)
   ·cases z with
    | true=>cases hli
    | false=>exact .fail
 | @app s a b hl _ _ iha ihb =>
  intro z ar m
  have hli:kZ (.mk 4 0 s [a,b] [] []) z=false:=by cases z <;> rfl
  rw [yA _ _ _ _ _ hli]
  have e:(z || ((4:Int) == 4))=true:=by cases z <;> rfl
  have hk:=wQ (B:=B) (B':=B') (t:=t) (z:=true) (F:=fun x m=>flM x true (ar ++ []) t m) [a,b] m fun p hp m=>by
   simp only [aS,aK,or_false] at hp
   rcases hp with rfl | rfl
   ·exact iha _ _ _
   ·exact ihb _ _ _
  simp only [co,fB,fK,fA,aH,List.take_nil,fF,iE,e,aZ,aV]
  obtain ⟨k1,k2,k3,k4⟩:=hk
  refine ⟨?_,?_,?_,k4⟩
  ·simp only [gP] at k1 ⊢
   exact .app (by omega) (k1 _ (by simp)) (k1 _ (by simp))
  ·simp only [Co.size,szB,szA] at k2 ⊢; omega
  ·simp only [Co.size,szB,szA] at k3 ⊢; omega
 | @prim s a b hl ha hb iha ihb =>
  intro z ar m
  cases z with
  | true =>
   rw [Bf _ _ _ _ _ rfl]
   exact Wa (.prim hl ha hb) hB ht
  | false =>
   rw [yA _ _ _ _ _ rfl]
   have e:(false || ((10:Int) == 4))=false:=rfl
   have hk:=wQ (B:=B) (B':=B') (t:=t) (z:=false) (F:=fun x m=>flM x false (ar ++ []) t m) [a,b] m fun p hp m=>by
    simp only [aS,aK,or_false] at hp
    rcases hp with rfl | rfl
    ·exact iha _ _ _
    ·exact ihb _ _ _
   simp only [co,fB,fK,fA,aH,List.take_nil,fF,iE,e,aZ,aV]
   obtain ⟨k1,k2,k3,k4⟩:=hk
   refine ⟨?_,?_,?_,k4⟩
   ·simp only [gP] at k1 ⊢
    exact .prim (by omega) (k1 _ (by simp)) (k1 _ (by simp))
   ·simp only [Co.size,szB,szA] at k2 ⊢; omega
   ·simp only [Co.size,szB,szA] at k3 ⊢; omega
 | @lt s b bs hl hbn hbs hb ihs ihb =>
  intro z ar m
  have hli:kZ (.mk 8 0 s [b] bs []) z=false:=by cases z <;> rfl
  rw [yA _ _ _ _ _ hli]
  have e:(z || ((8:Int) == 4))=z:=by cases z <;> rfl
  obtain ⟨b1,b2,b3,b4,b5⟩:=Wh (B:=B) (B':=B') (t:=t) (F:=fun x m=>flM x true (ar ++ bs.map Prod.fst) t m) bs m fun p hp m=>ihs p hp _ _ _
  obtain ⟨k1,k2,k3,k4⟩:=wQ (B:=B) (B':=B') (t:=t) (z:=z) (F:=fun x m=>flM x z (ar ++ bs.map Prod.fst) t m) [b] (fF (fun x m=>flM x true (ar ++ bs.map Prod.fst) t m) bs m).2 fun p hp m=>by
   simp only [aS,aK,or_false] at hp
   subst hp
   exact ihb _ _ _
  simp only [co,fB,fK,fA,aH,List.take_nil,iE,e,aV]
  refine ⟨?_,?_,?_,fun u hu=>?_⟩
  ·simp only [gP] at k1 ⊢
   refine .lt (by omega) (fun p hp=>?_) b1 (k1 _ (by simp))
   have hm:p.1∈(fF (fun x m=>flM x true (ar ++ bs.map Prod.fst) t m) bs m).1.map Prod.fst:=bF.2 ⟨p,hp,rfl⟩
   rw [b2] at hm
   obtain ⟨q,hq,e⟩:=bF.1 hm
   have:=hbn q hq
   rw [← e]
   omega
  ·simp only [Co.size,szA] at k2 ⊢; omega
  ·simp only [Co.size,szA] at k3 ⊢; omega
  ·rcases k4 u hu with h1 | h1
   ·exact b5 u h1
   ·exact .inr h1
 | @cas s x al hl hal hx hxs ihx ihs =>
  intro z ar m
  cases z with
  | true =>
   rw [Bf _ _ _ _ _ rfl]
   exact Wa (.cas hl hal hx hxs) hB ht
  | false =>
   rw [yA _ _ _ _ _ rfl]
   have e:(false || ((9:Int) == 4))=false:=rfl
   obtain ⟨k1,k2,k3,k4⟩:=wQ (B:=B) (B':=B') (t:=t) (z:=false) (F:=fun x m=>flM x false (ar ++ []) t m) [x] m fun p hp m=>by
    simp only [aS,aK,or_false] at hp
    subst hp
    exact ihx _ _ _
   obtain ⟨a1,a2,a3,a4,a5⟩:=Wc (B:=B) (B':=B') (t:=t) (F:=fun h x m=>flM x false (ar ++ h.vars) t m) al (gP (fun x m=>flM x false (ar ++ []) t m) [x] m).2 fun p hp m=>ihs p hp _ _ _
   simp only [co,fB,fK,fA,aH,List.take_nil,fF,e,aZ,aV]
   refine ⟨?_,?_,?_,fun u hu=>?_⟩
   ·simp only [gP] at k1 a1 a2 ⊢
    refine .cas (by omega) (fun p hp=>?_) (k1 _ (by simp)) a1
    have hm:p.1∈(iE (fun h x m=>flM x false (ar ++ h.vars) t m) al (flM x false (ar ++ []) t m).2).1.map Prod.fst:=bF.2 ⟨p,hp,rfl⟩
    rw [a2] at hm
    obtain ⟨q,hq,e⟩:=bF.1 hm
    have:=hal q hq
    rw [← e]
    exact ⟨this.1,by omega,fun v hv=>by have:=this.2.2 v hv; omega⟩
   ·simp only [Co.size,szB] at k2 ⊢; omega
   ·simp only [Co.size,szB] at k3 ⊢; omega
   ·rcases a5 u hu with h1 | h1
    ·exact k4 u h1
    ·exact .inr h1
end
theorem zxi {B B':Nat} {t:Tx} {c:Co} (hs:Shp B c) (hB:B≤B') (ht:t.length + 22≤B') (ar:List Tx) (m:List Su):szU (flM c false ar t m).2 + 1≤szU m + c.size:=by
 have hli:kZ c false=false:=rfl
 rw [yA _ _ _ _ _ hli]
 have hsz:=iV c
 have hparts:=Xo hs
 have h1:=(Wh (B:=B) (B':=B') (t:=t) (F:=fun x m=>flM x true (ar ++ c.bs.map Prod.fst) t m) c.bs m fun p hp m=>Rw (hparts _ (by simp only [iM,bJ,bF]; exact .inl (.inl ⟨p,hp,rfl⟩))) hB ht _ _ _).2.2.2.1
 have h2:=(wQ (B:=B) (B':=B') (t:=t) (z:=false || (c.f == 4)) (F:=fun x m=>flM x (false || (c.f == 4)) (ar ++ c.bs.map Prod.fst) t m) c.ks (fB c ar t m c.bs.length).2 fun p hp m=>Rw (hparts _ (by simp only [iM,bJ]; exact .inl (.inr hp))) hB ht _ _ _).2.2.1
 have h3:=(Wc (B:=B) (B':=B') (t:=t) (F:=fun h x m=>flM x false (ar ++ h.vars) t m) c.al (fK c false ar t (fB c ar t m c.bs.length).2 c.ks.length).2 fun p hp m=>Rw (hparts _ (by simp only [iM,bJ,bF]; exact .inr ⟨p,hp,rfl⟩)) hB ht _ _ _).2.2.2.1
 have e1:fB c ar t m c.bs.length=fF (fun x m=>flM x true (ar ++ c.bs.map Prod.fst) t m) c.bs m:=by rw [fB,aV]
 have e2:∀ m,fK c false ar t m c.ks.length=gP (fun x m=>flM x (false || (c.f == 4)) (ar ++ c.bs.map Prod.fst) t m) c.ks m:=fun m=>by rw [fK,aV]
 have e3:∀ m,fA c ar t m c.al.length=iE (fun h x m=>flM x false (ar ++ h.vars) t m) c.al m:=fun m=>by rw [fA,aV]
 rw [e1] at h2 h3 ⊢
 rw [e2] at h3 ⊢
 simp only [e3]
 omega
end Go.Fu
namespace Go.Fu
open Go Go.Mx
set_option maxRecDepth 10000
def zkq:Tx:=[80,85,83,72,73]
def Cm:Tx:=[80,85,83,72,71]
def zao:Tx:=[80,85,83,72,65]
def zhy:Tx:=[77,75,65,80]
def sW:Tx:=[83,76,73,68,69]
def rH:Tx:=[65,76,76,79,67]
def nI:Tx:=[85,80,68,65,84,69]
def kid (c:Co) (i:Nat):Co:=c.ks.getD i c0
def nms (c:Co):List Tx:=c.bs.map Prod.fst
def Ri (a b:Int):Int:=IntKind.i64.wrap (IntKind.i64.wrap (a - 1) - b)
theorem zS:Small 0:=⟨by decide,by decide⟩
def GI (B:Nat) (i:In):Prop:=i.op.length≤6∧Small i.n∧Small i.m∧i.name.length≤B
theorem mF {B:Nat} {s:Tx} {x:Int} (hs:s.length≤6) (hx:Small x):GI B (op1 s x):=⟨hs,hx,(⟨by decide,by decide⟩:Small 0),by simp [op1]⟩
end Go.Fu
namespace Go.Fu
open Go Go.Mx
set_option maxRecDepth 10000
section
variable {C:dQ} {n:Nat} {σ:Store}
end
end Go.Fu
namespace Go.Fu
open Go Go.Mx
set_option maxRecDepth 10000
def GC (B n:Nat) (is:List In):Prop:=(∀ i∈is,GI B i)∧is.length≤n
def rA:Tx:=[70,65,73,76]
def zan:Tx:=[69,86,65,76]
def uO:Tx:=[80,79,80]
def Ap:Tx:=[85,78,87,73,78,68]
theorem jQ {B m n:Nat} {a:List In} (h:GC B m a) (hmn:m≤n):GC B n a:=⟨h.1,Nat.le_trans h.2 hmn⟩
theorem zvn (s:Tx):(Aa s).length≤6:=by
 unfold Aa
 cases s == [97,100,100] <;> cases s == [115,117,98] <;> cases s == [109,117,108] <;> cases s == [100,105,118] <;> cases s == [101,113] <;> cases s == [108,116] <;> simp [ifB]
end Go.Fu
namespace Go.Fu
open Go Go.Mx
set_option maxRecDepth 10000
def zhz:Tx:=[84,69,83,84]
def zap:Tx:=[84,69,83,84,73]
def zkr:Tx:=[83,80,76,73,84]
theorem zx5 (a:Hd × Co):eT (dA a)=true:=by
 have h:dAs [a]=[dA a]:=by rw [zcc]; rfl
 have h1:=Qa [a]
 rw [h] at h1
 simpa [eB] using h1
theorem zc3:Small 1:=⟨by decide,by decide⟩
end Go.Fu
namespace Go.Fu
open Go Go.Mx
end Go.Fu
namespace Go.Fu
open Go Go.Mx
set_option maxRecDepth 10000
theorem uX {body:Env→Store→mS} (P:Nat→Env→Store→Prop) (Q:AExit × Env × Store→Prop) (k:Nat) (hstep:∀ i e σ,i < k→P i e σ→∃ e' σ',body e σ=some (.normal,e',σ')∧P (i + 1) e' σ')
  (hend:∀ e σ,P k e σ→∃ r,body e σ=some r∧(∀ e σ,r≠(.normal,e,σ))∧Q r):∀ (j n:Nat) (e:Env) (σ:Store),j≤k→k < n + j→P j e σ→∃ r,gU body n e σ=some r∧Q r
 | j,0,e,σ,h1,h2,_=>by omega
 | j,n + 1,e,σ,h1,h2,hp=>by
  rw [gU]
  by_cases hj:j=k
  ·subst hj
   obtain ⟨r,hr,hn,hq⟩:=hend e σ hp
   rw [hr]
   obtain ⟨x,e',σ'⟩:=r
   cases x with
   | normal=>exact absurd rfl (hn e' σ')
   | _=>exact ⟨_,rfl,hq⟩
  ·obtain ⟨e',σ',hb,hp'⟩:=hstep j e σ (by omega) hp
   rw [hb]
   exact uX P Q k hstep hend (j + 1) n e' σ' (by omega) (by omega) hp'
theorem qB:∀ a b:List D,cellsOf (a ++ b)=cellsOf a ++ cellsOf b
 | [],b=>rfl
 | d :: a,b=>by simp only [aW,cellsOf,qB a b,bR]
theorem zM:∀ a:List D,(cellsOf a).map (fun c=>Cell.of c.d)=cellsOf a
 | []=>rfl
 | d :: a=>by
  simp only [cellsOf,aU,cD,zM a]
  rfl
theorem Oi {k:RowK}:∀ ds:List D,(∀ d∈ds,d.cells.length=k.sz∧xO k d.cells=d)→pB k ds.length ((cellsOf ds).map fun c=>c.d)=ds
 | [],_=>rfl
 | d :: ds,h=>by
  obtain ⟨h1,h2⟩:=h d (by simp)
  have h3:=Oi ds fun x hx=>h x (aI _ hx)
  have e1:(d.cells.map Cell.of).map (fun c=>c.d)=d.cells:=by
   rw [cD]
   exact List.map_id'' (fun _=>rfl) _
  simp only [aG,pB,cellsOf,aU,e1]
  rw [List.take_left' h1,List.drop_left' h1,h2,h3]
theorem Fa {k:RowK} {ds:List D} (h:∀ d∈ds,d.cells.length=k.sz∧xO k d.cells=d):xK k (cellsOf ds) 0 ds.length=ds:=by
 simp only [xK,Nat.zero_mul,List.drop_zero]
 exact Oi ds h
theorem Jb {n:Nat} {os:kV}:∀ ds:List D,(∀ d∈ds,eX n d os=some (d,os))→rM (eX n) ds os=some (ds,os)
 | [],_=>rfl
 | d :: ds,h=>by
  have h1:=h d (by simp)
  have h2:=Jb ds fun x hx=>h x (aI _ hx)
  simp only [rM,h1,dG,dK,h2]
def cI:List In→List Cell
 | []=>[]
 | i :: r=>⟨false,.str i.op⟩ :: ⟨false,.int .i64 i.n⟩ :: ⟨false,.int .i64 i.m⟩ :: ⟨false,.str i.name⟩ :: cI r
theorem xI:∀ l:List In,cI l=cellsOf (l.map dI)
 | []=>rfl
 | i :: r=>by rw [cI,xI r]; rfl
theorem Ax:∀ l:List In,(cI l).length=l.length * 4
 | []=>rfl
 | i :: r=>by rw [cI]; simp only [aG,Ax r]; omega
theorem Yt (l:List In):∀ d∈l.map dI,d.cells.length=k_1.sz∧xO k_1 d.cells=d:=fun d hd=>by
 obtain ⟨x,_,rfl⟩:=bF.1 hd
 exact ⟨rfl,rfl⟩
theorem znz:∀ l:List In,eM k_1.sz (l.map dI)=true
 | []=>rfl
 | i :: r=>by simp only [aO,eM,znz r]; rfl
theorem zdi {α:Type}:∀ (o:List (Nat × α)) (id:Nat),(∀ p∈o,p.1 < id)→eE o id=o
 | [],_,_=>rfl
 | (k,x) :: o,id,h=>by
  have hk:(k == id)=false:=beq_false_of_ne (by have:=h (k,x) (by simp); simp only at this; omega)
  rw [eE,hk,dH,zdi o id fun p hp=>h p (aI _ hp)]
structure AS (o:List (Nat × List Cell)) (σ:Store) (id:Nat) (l:List In):Prop where
 objs:σ.objs=(id,cI l) :: o
 low:∀ p∈o,p.1 < id
 tys:dE σ.tys id=some ⟨k_1.el,k_1.sz⟩
 lt:id < σ.next
theorem AS.get {o:List (Nat × List Cell)} {σ:Store} {id:Nat} {l:List In} (h:AS o σ id l):dE σ.objs id=some (cI l):=by
 rw [h.objs]
 simp [dE,ifB]
theorem AS.list {o:List (Nat × List Cell)} {σ:Store} {id:Nat} {l:List In} (h:AS o σ id l):iR σ.objs (.arr k_1 id 0 l.length)=some (l.map dI):=by
 have e:=Fa (k:=k_1) (ds:=l.map dI) (Yt l)
 rw [aJ] at e
 have hd:decide ((0 + l.length) * k_1.sz≤(cI l).length)=true:=by rw [Ax]; simp [k_1]
 have hc:(k_1.ag || k_1.sz == 1)=true:=rfl
 simp only [iR,h.get,dG,dK,hc,hd,aY,dJ]
 rw [xI,e]
theorem AS.more {o:List (Nat × List Cell)} {σ:Store} {id:Nat} {l:List In} (h:AS o σ id l) (x:In) (hl:l.length < 1000000000):∃ σ',eV σ k_1 48 (.arr k_1 id 0 l.length) [dI x]=some (.arr k_1 σ.next 0 (l.length + 1),σ')∧AS o σ' σ.next (l ++ [x]):=by
 have h1:eM k_1.sz [dI x]=true:=rfl
 have e0:decide (l.length * k_1.sz≤(cI l).length)=true:=by rw [Ax]; simp [k_1]
 have e1:decide ((l.length + 1) * 48≤eL)=true:=decide_eq_true (show (l.length + 1) * 48≤1099511627776 by omega)
 have e2:decide (l.length + 1≤eL)=true:=decide_eq_true (show l.length + 1≤1099511627776 by omega)
 have ek:k_1.same k_1=true:=rfl
 have ht:(cI l).take (l.length * k_1.sz)=cI l:=List.take_of_length_le (by rw [Ax]; simp [k_1])
 have en:(cI l).map (fun c=>Cell.of c.d) ++ cellsOf [dI x]=cI (l ++ [x]):=by
  rw [xI,xI,zM,aU,qB]
  rfl
 refine ⟨dR {σ with objs:=eE σ.objs id} k_1 (cI (l ++ [x])),?_,?_⟩
 ·simp only [eV,h1,dJ,h.get,h.tys,dG,dK,ek,bW,aG,aH,aN,e0,e1,e2,aY,ht,en]
 ·have hb:(id == id)=true:=by simp
  have hdel:eE σ.objs id=o:=by rw [h.objs,eE,hb,dJ,zdi o id h.low]
  refine ⟨by simp only [dR,hdel],fun p hp=>Nat.lt_trans (h.low p hp) h.lt,by simp [dR,dE,ifB],by simp [dR]⟩
theorem AS.first {σ:Store} (hlow:∀ p∈σ.objs,p.1 < σ.next) (l:List In) (hne:l≠[]) (hl:l.length < 1000000000):∃ σ',eV σ k_1 48 .nils (l.map dI)=some (.arr k_1 σ.next 0 l.length,σ')∧AS σ.objs σ' σ.next l:=by
 have e1:decide (l.length * 48≤eL)=true:=decide_eq_true (show l.length * 48≤1099511627776 by omega)
 have e2:decide (l.length≤eL)=true:=decide_eq_true (show l.length≤1099511627776 by omega)
 have e:(l.map dI).isEmpty=false:=by cases l with
  | nil=>exact absurd rfl hne
  | cons a b=>rfl
 refine ⟨dR σ k_1 (cI l),?_,?_⟩
 ·rw [xI]
  simp only [eV,znz,e,dJ,dH,e1,e2,aY,aJ]
 ·exact ⟨rfl,hlow,by simp [dR,dE,ifB],by simp [dR]⟩
section
variable {C:dQ} {n:Nat}
end
end Go.Fu
namespace Go.Fu
open Go Go.Mx
set_option maxRecDepth 10000
def setN (v:Int):List In→List In
 | []=>[]
 | i :: r=>{i with n:=v} :: r
theorem AS.idx {o:List (Nat × List Cell)} {σ:Store} {id:Nat} {l:List In} (_h:AS o σ id l) (hne:l≠[]):iD 4 (.arr k_1 id 0 l.length) 0=some (.ptr id 0):=by
 cases l with
 | nil=>exact absurd rfl hne
 | cons a b =>
  have:decide (0 < (a :: b).length)=true:=by simp
  simp only [iD,this]
  rfl
theorem AS.set {o:List (Nat × List Cell)} {σ:Store} {id:Nat} {l:List In} (h:AS o σ id l) (hne:l≠[]) (v:Int):qX ⟨false,.int .i64 v⟩ 1 1 (cI l)=true∧AS o {σ with objs:=dZ σ.objs id (putCells (cI l) 1 (gG ⟨false,.int .i64 v⟩))} id (setN v l):=by
 cases l with
 | nil=>exact absurd rfl hne
 | cons a b =>
  refine ⟨?_,?_,h.low,h.tys,h.lt⟩
  ·simp [qX,cI,D.ok,D.cells]
  ·have hb:(id == id)=true:=by simp
   simp only [h.objs,dZ,hb,dJ]
   rfl
theorem mA {z:Nat}:∀ a:List D,(∀ d∈a,d.cells.length=z)→(cellsOf a).length=a.length * z
 | [],_=>by simp [cellsOf]
 | d :: a,h=>by
  have h1:=h d (by simp)
  have h2:=mA a fun x hx=>h x (aI _ hx)
  simp only [cellsOf,aF,aJ,h1,h2,aG,Nat.succ_mul,Nat.add_comm]
theorem zly {n:Nat} {k:RowK} {id off len:Nat} {os:kV}:eX (n + 1) (.arr k id off len) os=dG (dE os id) fun cs=>ifB ((k.ag || k.sz == 1) && decide ((off + len) * k.sz≤cs.length)) (dG (rM (eX n) (xK k cs off len) (eE os id)) fun r=>some (.list k r.1,r.2)) none:=rfl
theorem tP {k:RowK} {id n:Nat} {ds:List D} {os os':kV} (ho:dE os id=some (cellsOf ds)) (hd:eE os id=os') (hk:(k.ag || k.sz == 1)=true) (h:∀ d∈ds,d.cells.length=k.sz∧xO k d.cells=d) (hf:∀ d∈ds,eX n d os'=some (d,os')) :
  eX (n + 1) (.arr k id 0 ds.length) os=some (.list k ds,os'):=by
 have hl:=mA ds fun d hd=>(h d hd).1
 have e0:decide ((0 + ds.length) * k.sz≤(cellsOf ds).length)=true:=by simp; omega
 simp only [zly,ho,dG,dK,hk,e0,aY,ifB,Fa h,hd,Jb ds hf]
theorem AS.frz {o:List (Nat × List Cell)} {σ:Store} {id:Nat} {l:List In} (h:AS o σ id l) (hne:l≠[]) (s:Nat) (e:Env) (b:Bool) (hs:dE e.slots s=some ⟨b,.arr k_1 id 0 l.length⟩):∃ σ' b',nG [.slot s] e σ=some ({e with slots:=dZ e.slots s ⟨b',dIs l⟩},σ'):=by
 have hr:=tP (k:=k_1) (id:=id) (n:=39) (ds:=l.map dI) (os:=σ.objs) (os':=eE σ.objs id) (by rw [h.get,xI]) rfl rfl (Yt l) (fun d hd=>by
  obtain ⟨x,_,rfl⟩:=bF.1 hd
  rfl)
 rw [aJ] at hr
 have hd:dIs l=.list k_1 (l.map dI):=by
  cases l with
  | nil=>exact absurd rfl hne
  | cons a b=>rfl
 refine ⟨{σ with objs:=eE σ.objs id},Cell.keeps ⟨b,.arr k_1 id 0 l.length⟩,?_⟩
 simp only [nG,oH,hs,dG,dK,hr,hd]
end Go.Fu
namespace Go.Fu
open Go Go.Mx
set_option maxRecDepth 10000
theorem wO {C:dQ} {n:Nat} {ro:Option Nat} {ts:List FTgt} {b:ACode} {e:Env} {σ:Store}:exec C n ro (.frz ts b) e σ=dG (nG ts e σ) fun x=>exec C n ro b x.1 x.2:=rfl
def zhx:Tx:=[74,85,77,80]
theorem jA {B n:Nat} {l:List In} {x:In} (h:GC B n l) (hx:GI B x):GC B (n + 1) (l ++ [x]):=by
 refine ⟨fun y hy=>?_,by have:=h.2; simp; omega⟩
 rcases bJ.1 hy with hy | hy
 ·exact h.1 y hy
 ·rw [bO.1 hy]; exact hx
end Go.Fu
namespace Go.Fu
open Go Go.Mx
set_option maxRecDepth 10000
abbrev At:=Tx→Option Int
def w64 (x:Int):Int:=IntKind.i64.wrap x
def zcu:At:=fun _=>none
def pU (M:At) (s:Tx) (v:Int):At:=fun x=>ifB (x == s) (some v) (M x)
def fE:At→List Tx→Int→Nat→At
 | M,[],_,_=>M
 | M,s :: r,d,i=>fE (pU M s (w64 (d + (i:Int)))) r d (i + 1)
def uE (L:List In) (k:Nat) (v:Int):List In:=L.modify k fun i=>{i with n:=v}
theorem yL (L:List In) (k:Nat) (v:Int):(uE L k v).length=L.length:=by simp [uE]
def sK (lz:Co→List In→List In) (k:Nat):List (Tx × Co)→Nat→List In→List In
 | [],_,L=>L
 | b :: r,i,L=>sK lz k r (i + 1) (lz b.2 L ++ [op1 nI (Ri k i)])
def Bn (lz go:Co→At→Int→List In→List In) (c:Co) (M:At) (d:Int) (L:List In):List In :=
 go (kid c 0) (fE M (nms c) d 0) (w64 (d + c.bs.length)) (sK (fun b L=>lz b (fE M (nms c) d 0) (w64 (d + c.bs.length)) L) c.bs.length c.bs 0 (L ++ [op1 rH c.bs.length]))
def lzS:Nat→Co→At→Int→List In→List In
 | 0,_,_,_,L=>L
 | n + 1,c,M,d,L =>
  ifB (c.f == 1) (eZ (M c.s) (L ++ [⟨Cm,0,0,c.s⟩]) fun a=>L ++ [op1 zao (w64 (w64 (d - 1) - a))])
   (ifB (c.f == 2) (L ++ [⟨Cm,0,0,c.s⟩]) (ifB (c.f == 3) (L ++ [op1 zkq c.n]) (ifB (c.f == 4) (lzS n (kid c 0) M (w64 (d + 1)) (lzS n (kid c 1) M d L) ++ [op1 zhy 0])
    (Bn (lzS n) (lzS n) c M d L ++ [op1 sW c.bs.length]))))
def nH (h:Hd):List In:=ifB (h.form == 1) [⟨zhz,0,0,h.name⟩,op1 zkr h.vars.length] (ifB (h.form == 2) [⟨zap,0,h.num,[]⟩,op1 uO 1] [op1 uO 1])
def nU (st:Bool) (h:Hd) (L:List In):List In:=ifB st (ifB (h.form == 1) (L ++ [op1 sW h.vars.length]) L ++ [⟨zhx,0,0,[]⟩]) L
def mD (st:Bool) (body:Co→At→Int→List In→List In) (M:At) (d:Int) (a:Hd × Co) (s:List In × List Nat):List In × List Nat :=
 (ifB (a.1.form == 1 || a.1.form == 2) (uE (nU st a.1 (body a.2 (fE M a.1.vars.reverse d 0) (w64 (d + a.1.vars.length)) (s.1 ++ nH a.1))) s.1.length (nU st a.1 (body a.2 (fE M a.1.vars.reverse d 0) (w64 (d + a.1.vars.length)) (s.1 ++ nH a.1))).length)
  (nU st a.1 (body a.2 (fE M a.1.vars.reverse d 0) (w64 (d + a.1.vars.length)) (s.1 ++ nH a.1))),
  ifB st (s.2 ++ [(nU st a.1 (body a.2 (fE M a.1.vars.reverse d 0) (w64 (d + a.1.vars.length)) (s.1 ++ nH a.1))).length - 1]) s.2)
def iZ (st:Bool) (body:Co→At→Int→List In→List In) (M:At) (d:Int):List (Hd × Co)→List In × List Nat→(List In × List Nat) × Bool
 | [],s=>(s,true)
 | a :: r,s=>ifB (a.1.form == 3) (mD st body M d a s,false) (iZ st body M d r (mD st body M d a s))
def wM (st b:Bool) (L:List In):List In:=ifB b (ifB st (L ++ [op1 uO 1] ++ [op1 rA 0]) (L ++ [op1 rA 0])) L
def Ji:List Nat→List In→List In
 | [],L=>L
 | e :: r,L=>Ji r (uE L e L.length)
theorem Pi:∀ (l:List Nat) (L:List In),(Ji l L).length=L.length
 | [],L=>rfl
 | x :: l,L=>by rw [Ji,Pi l,yL]
def stS:Nat→Co→At→Int→List In→List In
 | 0,_,_,_,L=>L
 | n + 1,c,M,d,L =>
  ifB (c.f == 8) (Bn (fun b=>lzS b.size b) (stS n) c M d L ++ [op1 sW c.bs.length])
   (ifB (c.f == 10) (stS n (kid c 1) M (w64 (d + 1)) (stS n (kid c 0) M d L) ++ [op1 (Aa c.s) 0])
    (ifB (c.f == 11) (L ++ [op1 rA 0])
     (ifB (c.f == 9) (Ji (iZ true (stS n) M d c.al (stS n (kid c 0) M d L,[])).1.2 (wM true (iZ true (stS n) M d c.al (stS n (kid c 0) M d L,[])).2 (iZ true (stS n) M d c.al (stS n (kid c 0) M d L,[])).1.1))
      (lzS c.size c M d L ++ [op1 zan 0]))))
def tlE (d:Int) (L:List In):List In:=L ++ [op1 nI d] ++ [op1 uO d] ++ [op1 Ap 0]
def tlS:Nat→Co→At→Int→List In→List In
 | 0,_,_,_,L=>L
 | n + 1,c,M,d,L =>
  ifB (c.f == 8) (Bn (fun b=>lzS b.size b) (tlS n) c M d L)
   (ifB (c.f == 11) (L ++ [op1 rA 0])
    (ifB (c.f == 9) (wM false (iZ false (tlS n) M d c.al (stS n (kid c 0) M d L,[])).2 (iZ false (tlS n) M d c.al (stS n (kid c 0) M d L,[])).1.1)
     (ifB (c.f == 10) (tlE d (stS (n + 1) c M d L)) (tlE d (lzS c.size c M d L)))))
def iQ (u:Su):Cd:=⟨u.name,u.ps.length,tlS u.body.size u.body (fE zcu u.ps.reverse 0 0) u.ps.length []⟩
end Go.Fu
namespace Go.Fu
open Go Go.Mx
set_option maxRecDepth 10000
end Go.Fu
namespace Go.Fu
open Go Go.Mx
def iO:ACode:=(.block 1 (rg [mo 8 (.load none true (.tmp 2)),mt 9 5,mo 10 (.buildSlice k_0 [.tmp 9]),mo 11 (.appendA k_0 16 (.mv 8) (.tmp 10)),⟨none,.store 1 (.tmp 2) (.mv 11),none⟩] [2,5,8,9,10,11]))
def lW:AFun:={nargs:=2,ntmps:=13,res:=[.tmp 4],gc:=false,body:=(sq [mo 2 (.gbox t_8 (.tmp 0)),mo 4 (.mov (.const .nils))] [0,4] (.seq (sq [mt 6 1] [1] (.block 0 (.rangeF (.tmp 6) [7] (rg [mt 5 7] [6,7]) iO))) (sq [
 mo 12 (.load none true (.tmp 2)),mw 4 12] [2,6,12] .ret)))}
def iU:AFun:={nargs:=1,ntmps:=8,res:=[.tmp 2],gc:=false,body:=(sq [mo 2 (.mov (.const .nils))] [2] (.seq (sq [mt 3 0,mo 4 (.isNilS .eql (.tmp 3))] [3] (.cond (.tmp 4) (sq [mo 2 (.mov (.const .nils))] [0,4] .ret) .skip)) (sq [mo 5 (.buildA k_0 []),
 mw 6 0,mo 7 (.appendA k_0 16 (.mv 5) (.tmp 6)),mw 2 7] [0,4,5,6,7] .ret)))}
theorem yF:dS Go.Proofs.Tryz.prog Go.Proofs.Tryz.f147 lW=true:=by kernel_rfl
theorem Dp:dS Go.Proofs.Tryz.prog Go.Proofs.Tryz.f78 iU=true:=by kernel_rfl
end Go.Fu
namespace Go.Fu
open Go Go.Mx
set_option maxRecDepth 10000
set_option maxHeartbeats 8000000
def cZ (l:List Int):List Cell:=l.map fun x=>⟨false,.int .i64 x⟩
end Go.Fu
namespace Go.Fu
open Go Go.Mx
set_option maxRecDepth 10000
section
variable {C:dQ} {n:Nat} {σ:Store}
def Eix (l:List Tx) (s:Tx) (i:Nat):Env:={slots:=[(0,⟨false,dSs l⟩),(1,⟨false,.str s⟩),(7,⟨false,.int .i64 l.length⟩),(8,⟨false,.int .i64 i⟩)],locs:=[],boxes:=[],defers:=[]}
theorem zcsb (l:List Tx) (s:Tx) (i:Nat) (h:i < l.length) (hl:l.length < 1000000000) (hq:(s == l.getD i [])=false):exec C n none Oa (Eix l s i) σ=some (.normal,Eix l s (i + 1),σ):=by
 rw [eY _ _ _ h] at hq
 have hi:((i:Int) < (l.length:Int)):=by omega
 simp only [Oa,Eix,sA,Nat.reduceAdd,Nat.reduceSub,Nat.reduceMul,Nat.reduceBEq,Nat.reduceLeDiff,Int.reduceBEq,Int.reduceBNe,Int.reduceLE,Int.reduceLT,Int.reduceGE,Int.reduceGT,Int.reduceNeg,kn,mO,hi,fL,rW l i h,hq,dV (i:=i) (by omega)]
theorem zctb (l:List Tx) (s:Tx) (i:Nat) (h:i < l.length) (hq:(s == l.getD i [])=true):exec C n none Oa (Eix l s i) σ=some (.ret,{slots:=[(4,⟨false,.int .i64 i⟩)],locs:=[],boxes:=[],defers:=[]},σ):=by
 rw [eY _ _ _ h] at hq
 have hi:((i:Int) < (l.length:Int)):=by omega
 simp only [Oa,Eix,sA,Nat.reduceAdd,Nat.reduceSub,Nat.reduceMul,Nat.reduceBEq,Nat.reduceLeDiff,Int.reduceBEq,Int.reduceBNe,Int.reduceLE,Int.reduceLT,Int.reduceGE,Int.reduceGT,Int.reduceNeg,kn,mO,hi,fL,rW l i h,hq]
theorem zffb (l:List Tx) (s:Tx):exec C n none Oa (Eix l s l.length) σ=some (.exit 0,{Eix l s l.length with slots:=[(0,⟨false,dSs l⟩),(1,⟨false,.str s⟩),(7,⟨false,.int .i64 l.length⟩),(8,⟨false,.int .i64 l.length⟩),(9,⟨false,.bool false⟩)]},σ):=by
 have hi:¬ ((l.length:Int) < (l.length:Int)):=by omega
 simp only [Oa,Eix,sA,Nat.reduceAdd,Nat.reduceSub,Nat.reduceMul,Nat.reduceBEq,Nat.reduceLeDiff,Int.reduceBEq,Int.reduceBNe,Int.reduceLE,Int.reduceLT,Int.reduceGE,Int.reduceGT,Int.reduceNeg,kn,mO,hi]
end
theorem zib (l:List Tx) (s:Tx):(l.any fun x=>s == x)=l.any (· == s):=by
 induction l with
 | nil=>rfl
 | cons a r ih =>
  simp only [List.any_cons,ih]
  congr 1
  rw [Bool.eq_iff_iff,beq_iff_eq,beq_iff_eq]
  exact eq_comm
theorem zqu (l:List Tx) (s:Tx) (hl:l.length < 1000000000):∃ v:Int,OkP Wl [dSs l,.str s] ⟨false,.int .i64 v⟩∧(v ≥ 0↔l.any (· == s)=true):=by
 have hr:=xN (body:=exec (T [] 0) (l.length + 1) none Oa) (Eix l s) (fun _=>σ0) l.length (fun i=>!(s == l.getD i [])) (r:=_) (fun i=>(.ret,{slots:=[(4,⟨false,.int .i64 i⟩)],locs:=[],boxes:=[],defers:=[]},σ0)) (fun _ _ h=>by cases h) (fun _ _ _ h=>by cases h) (fun i hi hq=>zcsb l s i hi hl (by simpa using hq)) (fun i hi hq=>zctb l s i hi (by simpa using hq)) (zffb l s) (l.length + 1) 0 (Nat.zero_le _) (by omega)
 simp only [Eix,eR] at hr
 rcases hr with ⟨i,_,hi,hq,_,h⟩ | ⟨hq,h⟩
 ·refine ⟨i,hU (af:=zb2) (n:=l.length + 1) (σ':=σ0) (iT [] 0) rfl rfl (by simp [eB,fQ,eT]) rfl ?_,?_⟩
  ·simp only [zb2,sA,Nat.reduceAdd,Nat.reduceSub,Nat.reduceMul,Nat.reduceBEq,Nat.reduceLeDiff,Int.reduceBEq,Int.reduceBNe,Int.reduceLE,Int.reduceLT,Int.reduceGE,Int.reduceGT,Int.reduceNeg,kn,mO,h]
  ·refine ⟨fun _=>?_,fun _=>by omega⟩
   rw [← zib,List.any_eq_true]
   rw [eY _ _ _ hi] at hq
   exact ⟨_,aX hi,by simpa using hq⟩
 ·refine ⟨-1,hU (af:=zb2) (n:=l.length + 1) (σ':=σ0) (iT [] 0) rfl rfl (by simp [eB,fQ,eT]) rfl ?_,?_⟩
  ·simp only [zb2,sA,Nat.reduceAdd,Nat.reduceSub,Nat.reduceMul,Nat.reduceBEq,Nat.reduceLeDiff,Int.reduceBEq,Int.reduceBNe,Int.reduceLE,Int.reduceLT,Int.reduceGE,Int.reduceGT,Int.reduceNeg,kn,mO,h]
  ·refine ⟨fun h=>by omega,fun ha=>?_⟩
   rw [← zib,List.any_eq_true] at ha
   obtain ⟨x,hx,hxs⟩:=ha
   obtain ⟨i,hi,rfl⟩:=List.getElem_of_mem hx
   have:=hq i (Nat.zero_le _) hi
   rw [eY _ _ _ hi] at this
   simp only [hxs] at this
   cases this
def Xr:List D→Cell→Prop:=fun ds c=>∀ l s,ds=[dSs l,.str s]→∃ v:Int,c=⟨false,.int .i64 v⟩∧(v ≥ 0↔l.any (· == s)=true)
theorem zp1 {S:eD} (hS:dE S Wl=some Xr) (l:List Tx) (s:Tx) (hl:l.length < 1000000000):∃ v:Int,(∀ n σ,T S (n + 1) Wl [dSs l,.str s] σ=some (.ret ⟨false,.int .i64 v⟩,σ))∧(v ≥ 0↔l.any (· == s)=true):=by
 obtain ⟨v,hp,hv⟩:=zqu l s hl
 obtain ⟨c,h1,h2⟩:=mX (S:=S) hS rfl (c:=⟨false,.int .i64 v⟩) (fun l' s' e=>by
  simp only [aL,D.str.injEq,and_true] at e
  obtain ⟨e1,rfl⟩:=e
  obtain rfl:=jT e1
  exact ⟨v,rfl,hv⟩) hp
 obtain ⟨u,rfl,hu⟩:=h1 l s rfl
 exact ⟨u,h2,hu⟩
theorem zep (l:List Tx) (s:Tx) (hl:l.length < 1000000000):OkP wV [dSs l,.str s] ⟨false,.bool (l.any (· == s))⟩:=by
 obtain ⟨v,h1,h2⟩:=zp1 (S:=[(Wl,Xr)]) rfl l s hl
 refine hU (af:=Ye) (n:=1) (σ':=σ0) (iT [(Wl,Xr)] 1) rfl rfl (by simp [eB,fQ,eT]) rfl ?_
 have h1:=h1 0 σ0
 cases hb:l.any (· == s) with
 | true =>
  have hv:v ≥ 0:=h2.2 hb
  simp only [Ye,sA,Nat.reduceAdd,Nat.reduceSub,Nat.reduceMul,Nat.reduceBEq,Nat.reduceLeDiff,Int.reduceBEq,Int.reduceBNe,Int.reduceLE,Int.reduceLT,Int.reduceGE,Int.reduceGT,Int.reduceNeg,kn,h1,hv]
 | false =>
  have hv:¬ v ≥ 0:=fun h=>by rw [h2.1 h] at hb; cases hb
  simp only [Ye,sA,Nat.reduceAdd,Nat.reduceSub,Nat.reduceMul,Nat.reduceBEq,Nat.reduceLeDiff,Int.reduceBEq,Int.reduceBNe,Int.reduceLE,Int.reduceLT,Int.reduceGE,Int.reduceGT,Int.reduceNeg,kn,h1,hv]
def Gh:List D→Cell→Prop:=fun ds c=>∀ l s,ds=[dSs l,.str s]→c=⟨false,.bool (l.any (· == s))⟩
end Go.Fu
namespace Go.Fu
open Go Go.Mx
set_option maxRecDepth 10000
section
variable {C:dQ} {n:Nat} {σ:Store}
end
end Go.Fu
namespace Go.Fu
open Go Go.Mx
set_option maxRecDepth 10000
end Go.Fu
namespace Go.Fu
open Go Go.Mx
set_option maxRecDepth 10000
mutual
def hgt:Co→Nat
 | .mk _ _ _ ks bs al=>1 + max (hgK ks) (max (hgB bs) (hgA al))
def hgK:List Co→Nat
 | []=>0
 | c :: r=>max (hgt c) (hgK r)
def hgB:List (Tx × Co)→Nat
 | []=>0
 | (_,c) :: r=>max (hgt c) (hgB r)
def hgA:List (Hd × Co)→Nat
 | []=>0
 | (_,c) :: r=>max (hgt c) (hgA r)
end
theorem zuq (c:Co):hgt c=1 + max (hgK c.ks) (max (hgB c.bs) (hgA c.al)):=by
 cases c
 rw [hgt]
 rfl
theorem zoj:∀ (l:List Co) (x:Co),x∈l→hgt x≤hgK l
 | y :: r,x,h=>by
  simp only [hgK]
  rcases aS.1 h with rfl | h
  ·omega
  ·have:=zoj r x h; omega
theorem zoi:∀ (l:List (Tx × Co)) (x:Tx × Co),x∈l→hgt x.2≤hgB l
 | (s,y) :: r,x,h=>by
  simp only [hgB]
  rcases aS.1 h with rfl | h
  ·simp only; omega
  ·have:=zoi r x h; omega
theorem zoh:∀ (l:List (Hd × Co)) (x:Hd × Co),x∈l→hgt x.2≤hgA l
 | (s,y) :: r,x,h=>by
  simp only [hgA]
  rcases aS.1 h with rfl | h
  ·simp only; omega
  ·have:=zoh r x h; omega
theorem zjt {F:Co→List Su→Co × List Su} {Q:Su→Prop}:∀ (l:List (Tx × Co)) (m:List Su),(∀ p∈l,∀ m,∀ u∈(F p.2 m).2,u∈m∨Q u)→∀ u∈(fF F l m).2,u∈m∨Q u
 | [],m,_,u,hu=>.inl hu
 | (s,c) :: l,m,h,u,hu=>by
  rcases zjt l (F c m).2 (fun q hq=>h q (aI _ hq)) u hu with h1 | h1
  ·exact h (s,c) (aQ ..) m u h1
  ·exact .inr h1
theorem zju {F:Co→List Su→Co × List Su} {Q:Su→Prop}:∀ (l:List Co) (m:List Su),(∀ p∈l,∀ m,∀ u∈(F p m).2,u∈m∨Q u)→∀ u∈(gP F l m).2,u∈m∨Q u
 | [],m,_,u,hu=>.inl hu
 | c :: l,m,h,u,hu=>by
  rcases zju l (F c m).2 (fun q hq=>h q (aI _ hq)) u hu with h1 | h1
  ·exact h c (aQ ..) m u h1
  ·exact .inr h1
theorem zjq {F:Hd→Co→List Su→Co × List Su} {Q:Su→Prop}:∀ (l:List (Hd × Co)) (m:List Su),(∀ p∈l,∀ m,∀ u∈(F p.1 p.2 m).2,u∈m∨Q u)→∀ u∈(iE F l m).2,u∈m∨Q u
 | [],m,_,u,hu=>.inl hu
 | (s,c) :: l,m,h,u,hu=>by
  rcases zjq l (F s c m).2 (fun q hq=>h q (aI _ hq)) u hu with h1 | h1
  ·exact h (s,c) (aQ ..) m u h1
  ·exact .inr h1
theorem zcbb:∀ (k:Nat) (c:Co),c.size=k→∀ (z:Bool) (ar:List Tx) (t:Tx) (m:List Su),∀ u∈(flM c z ar t m).2,u∈m∨(hgt u.body≤hgt c∧(kZ c z=false→hgt u.body < hgt c)):=by
 intro k
 induction k using Nat.strongRecOn with
 | ind k ih =>
  intro c hk z ar t m u hu
  have hz:=iV c
  have hh:=zuq c
  cases hl:kZ c z with
  | true =>
   rw [Bf _ _ _ _ _ hl] at hu
   simp only [pK,bJ,bO] at hu
   rcases hu with h | rfl
   ·exact .inl h
   ·exact .inr ⟨aM _,fun h=>by cases h⟩
  | false =>
   rw [yA _ _ _ _ _ hl] at hu
   have key:u∈m∨hgt u.body < hgt c:=by
    simp only [fA,fK,fB,aV] at hu
    rcases zjq (Q:=fun u=>hgt u.body < hgt c) _ _ (fun p hp m' u' hu'=>by
     have h1:=lU _ _ hp
     have h2:=zoh _ _ hp
     rcases ih p.2.size (by omega) p.2 rfl _ _ _ _ u' hu' with h | h
     ·exact .inl h
     ·exact .inr (by omega)) u hu with h | h
    ·rcases zju (Q:=fun u=>hgt u.body < hgt c) _ _ (fun p hp m' u' hu'=>by
      have h1:=vG _ _ hp
      have h2:=zoj _ _ hp
      rcases ih p.size (by omega) p rfl _ _ _ _ u' hu' with h | h
      ·exact .inl h
      ·exact .inr (by omega)) u h with h | h
     ·rcases zjt (Q:=fun u=>hgt u.body < hgt c) _ _ (fun p hp m' u' hu'=>by
       have h1:=qK _ _ hp
       have h2:=zoi _ _ hp
       rcases ih p.2.size (by omega) p.2 rfl _ _ _ _ u' hu' with h | h
       ·exact .inl h
       ·exact .inr (by omega)) u h with h | h
      ·exact .inl h
      ·exact .inr h
     ·exact .inr h
    ·exact .inr h
   rcases key with h | h
   ·exact .inl h
   ·exact .inr ⟨by omega,fun _=>h⟩
theorem zud (c:Co) (ar:List Tx) (t:Tx):∀ u∈(flM c false ar t []).2,hgt u.body < hgt c:=fun u hu=>by
 rcases zcbb _ c rfl false ar t [] u hu with h | h
 ·cases h
 ·exact h.2 rfl
end Go.Fu

/-
 What comes of core that is made aW: of which form,how large,of which names.
-/
import Derived.Test.YtldfbnbckiifeaaGreatDoorFgO
import Derived.Test.YtldfbnbckiifeaaGreatDoorFgOk
set_option maxHeartbeats 4000000
set_option linter.unusedSimpArgs false
set_option linter.unusedVariables false
set_option linter.unusedSectionVars false
namespace Go.Fu
open Go Go.Mx
set_option maxRecDepth 10000
inductive Shp (B:Nat):Co→Prop
 | leaf {f n s}:(f=1∨f=2∨f=3∨f=11)→Small n→s.length≤B→Shp B (.mk f n s [] [] [])
 | app {s a b}:s.length≤B→Shp B a→Shp B b→Shp B (.mk 4 0 s [a,b] [] [])
 | prim {s a b}:s.length≤B→Shp B a→Shp B b→Shp B (.mk 10 0 s [a,b] [] [])
 | lt {s b bs}:s.length≤B→(∀ p∈bs,p.1.length≤B)→(∀ p∈bs,Shp B p.2)→Shp B b→Shp B (.mk 8 0 s [b] bs [])
 | cas {s x al}:s.length≤B→(∀ a∈al,Small a.1.num∧a.1.name.length≤B∧∀ v∈a.1.vars,v.length≤B)→Shp B x→(∀ a∈al,Shp B a.2)→Shp B (.mk 9 0 s [x] [] al)
inductive Fl (B:Nat):Bool→Co→Prop
 | leaf {z f n s}:(f=1∨f=2∨f=3)→Small n→s.length≤B→Fl B z (.mk f n s [] [] [])
 | app {z s a b}:s.length≤B→Fl B true a→Fl B true b→Fl B z (.mk 4 0 s [a,b] [] [])
 | lt {z s b bs}:s.length≤B→(∀ p∈bs,p.1.length≤B)→(∀ p∈bs,Fl B true p.2)→Fl B z b→Fl B z (.mk 8 0 s [b] bs [])
 | fail {n s}:Fl B false (.mk 11 n s [] [] [])
 | prim {s a b}:s.length≤B→Fl B false a→Fl B false b→Fl B false (.mk 10 0 s [a,b] [] [])
 | cas {s x al}:s.length≤B→(∀ a∈al,Small a.1.num∧a.1.name.length≤B∧∀ v∈a.1.vars,v.length≤B)→Fl B false x→(∀ a∈al,Fl B false a.2)→Fl B false (.mk 9 0 s [x] [] al)
theorem zh8 {B:Nat} {c:Co} (h:Shp B c):∀ x∈eO c,Shp B x:=by
 cases h with
 | leaf _ _ _=>intro x hx; simp [eO,co] at hx
 | app _ ha hb =>
  intro x hx
  simp only [eO,co,List.map_nil,List.nil_append,List.append_nil,List.mem_cons,List.not_mem_nil,or_false] at hx
  rcases hx with rfl | rfl
  ·exact ha
  ·exact hb
 | prim _ ha hb =>
  intro x hx
  simp only [eO,co,List.map_nil,List.nil_append,List.append_nil,List.mem_cons,List.not_mem_nil,or_false] at hx
  rcases hx with rfl | rfl
  ·exact ha
  ·exact hb
 | lt _ _ h2 h3 =>
  intro x hx
  simp only [eO,co,List.map_nil,List.append_nil,List.mem_append,List.mem_map,List.mem_cons,List.not_mem_nil,or_false] at hx
  rcases hx with ⟨p,hp,rfl⟩ | rfl
  ·exact h2 p hp
  ·exact h3
 | cas _ _ h2 h3 =>
  intro x hx
  simp only [eO,co,List.map_nil,List.nil_append,List.mem_append,List.mem_map,List.mem_cons,List.not_mem_nil,or_false] at hx
  rcases hx with rfl | ⟨p,hp,rfl⟩
  ·exact h2
  ·exact h3 p hp
theorem zvl {B:Nat} {c:Co} (h:Shp B c):c.s.length≤B:=by cases h <;> assumption
theorem Qc {B:Nat}:∀ (k:Nat) (c:Co) (g s h:List Tx),Shp B c→∀ x∈fW k c g s h,x∈h∨x.length≤B
 | 0,c,g,s,h,_,x,hx=>.inl hx
 | k + 1,c,g,s,h,hs,x,hx=>by
  simp only [fW] at hx
  cases hn:nY c g s h with
  | true =>
   rw [hn] at hx
   simp only [aE,List.mem_append,List.mem_cons,List.not_mem_nil,or_false] at hx
   exact hx.imp id fun e=>by rw [e]; exact zvl hs
  | false =>
   rw [hn] at hx
   simp only [aG] at hx
   have hf:∀ (n:Nat),n≤(eO c).length→∀ x∈(List.range n).foldl (fun h i=>fW k ((eO c).getD i c0) (g ++ yN c i) s h) h,x∈h∨x.length≤B:=by
    intro n
    induction n with
    | zero=>intro _ x hx; exact .inl hx
    | succ n ihn =>
     intro hle x hx
     rw [List.range_succ,List.foldl_append] at hx
     simp only [List.foldl_cons,List.foldl_nil] at hx
     have hlt:n < (eO c).length:=by omega
     rw [cO _ _ _ hlt] at hx
     rcases Qc k _ _ _ _ (zh8 hs _ (List.getElem_mem hlt)) x hx with h1 | h1
     ·exact ihn (by omega) x h1
     ·exact .inr h1
   exact hf _ (Nat.le_refl _) x hx
def szU:List Su→Nat
 | []=>0
 | u :: r=>u.body.size + szU r
theorem Hy (a b:List Su):szU (a ++ b)=szU a + szU b:=by
 induction a with
 | nil=>simp [szU]
 | cons x r ih=>simp only [List.cons_append,szU,ih]; omega
def zmj (B:Nat) (t:Tx) (u:Su):Prop:=Shp B u.body∧u.name.length≤t.length + 22∧u.ps.length≤u.body.size∧∀ p∈u.ps,p.length≤B
def Res (B B':Nat) (t:Tx) (z:Bool) (c:Co) (m:List Su) (r:Co × List Su):Prop:=Fl B' z r.1∧r.1.size≤3 * c.size∧szU r.2≤szU m + c.size∧∀ u∈r.2,u∈m∨zmj B t u
section
variable {B B':Nat} {t:Tx}
theorem Sl {F:Co→List Su→Co × List Su}:∀ (l:List (Tx × Co)) (m:List Su),(∀ p∈l,∀ m,Res B B' t true p.2 m (F p.2 m)) →
  (∀ q∈(cJ F l m).1,Fl B' true q.2)∧(cJ F l m).1.map Prod.fst=l.map Prod.fst∧szB (cJ F l m).1≤3 * szB l∧szU (cJ F l m).2≤szU m + szB l∧∀ u∈(cJ F l m).2,u∈m∨zmj B t u
 | [],m,_=>⟨fun q hq=>by simp [cJ] at hq,rfl,by simp [cJ,szB],by simp [cJ],fun u hu=>.inl hu⟩
 | (s,c) :: l,m,h=>by
  obtain ⟨a1,a2,a3,a4⟩:=h (s,c) (List.mem_cons_self ..) m
  obtain ⟨b1,b2,b3,b4,b5⟩:=Sl l (F c m).2 fun q hq=>h q (List.mem_cons_of_mem _ hq)
  simp only [cJ] at a1 a2 a3 a4 ⊢
  refine ⟨fun q hq=>?_,by simp only [List.map_cons,b2],by simp only [szB]; omega,by simp only [szB]; omega,fun u hu=>?_⟩
  ·rcases List.mem_cons.1 hq with rfl | hq
   ·exact a1
   ·exact b1 q hq
  ·rcases b5 u hu with h1 | h1
   ·exact a4 u h1
   ·exact .inr h1
theorem uC {z:Bool} {F:Co→List Su→Co × List Su}:∀ (l:List Co) (m:List Su),(∀ p∈l,∀ m,Res B B' t z p m (F p m)) →
  (∀ q∈(eJ F l m).1,Fl B' z q)∧szK (eJ F l m).1≤3 * szK l∧szU (eJ F l m).2≤szU m + szK l∧∀ u∈(eJ F l m).2,u∈m∨zmj B t u
 | [],m,_=>⟨fun q hq=>by simp [eJ] at hq,by simp [eJ,szK],by simp [eJ],fun u hu=>.inl hu⟩
 | c :: l,m,h=>by
  obtain ⟨a1,a2,a3,a4⟩:=h c (List.mem_cons_self ..) m
  obtain ⟨b1,b3,b4,b5⟩:=uC l (F c m).2 fun q hq=>h q (List.mem_cons_of_mem _ hq)
  simp only [eJ] at a1 a2 a3 a4 ⊢
  refine ⟨fun q hq=>?_,by simp only [szK]; omega,by simp only [szK]; omega,fun u hu=>?_⟩
  ·rcases List.mem_cons.1 hq with rfl | hq
   ·exact a1
   ·exact b1 q hq
  ·rcases b5 u hu with h1 | h1
   ·exact a4 u h1
   ·exact .inr h1
theorem Sj {F:Hd→Co→List Su→Co × List Su}:∀ (l:List (Hd × Co)) (m:List Su),(∀ p∈l,∀ m,Res B B' t false p.2 m (F p.1 p.2 m)) →
  (∀ q∈(fE F l m).1,Fl B' false q.2)∧(fE F l m).1.map Prod.fst=l.map Prod.fst∧szA (fE F l m).1≤3 * szA l∧szU (fE F l m).2≤szU m + szA l∧∀ u∈(fE F l m).2,u∈m∨zmj B t u
 | [],m,_=>⟨fun q hq=>by simp [fE] at hq,rfl,by simp [fE,szA],by simp [fE],fun u hu=>.inl hu⟩
 | (s,c) :: l,m,h=>by
  obtain ⟨a1,a2,a3,a4⟩:=h (s,c) (List.mem_cons_self ..) m
  obtain ⟨b1,b2,b3,b4,b5⟩:=Sj l (F s c m).2 fun q hq=>h q (List.mem_cons_of_mem _ hq)
  simp only [fE] at a1 a2 a3 a4 ⊢
  refine ⟨fun q hq=>?_,by simp only [List.map_cons,b2],by simp only [szA]; omega,by simp only [szA]; omega,fun u hu=>?_⟩
  ·rcases List.mem_cons.1 hq with rfl | hq
   ·exact a1
   ·exact b1 q hq
  ·rcases b5 u hu with h1 | h1
   ·exact a4 u h1
   ·exact .inr h1
theorem zbf {z:Bool}:∀ (l:List Tx) (c:Co),(∀ z,Fl B' z c)→(∀ x∈l,x.length≤B')→Fl B' z (jH c l)
 | [],c,h,_=>h z
 | s :: l,c,h,hl=>zbf l (appC' c (bJ s)) (fun z=>.app (by simp) (h true) (.leaf (.inl rfl) ⟨by decide,by decide⟩ (hl s (List.mem_cons_self ..)))) fun x hx=>hl x (List.mem_cons_of_mem _ hx)
theorem Si {z:Bool} {c:Co} {ar:List Tx} {m:List Su} (hs:Shp B c) (hB:B≤B') (ht:t.length + 22≤B'):Res B B' t z c m (sX c ar t m):=by
 have hn:(uW t m).length≤t.length + 22:=by
  have:=nK ((m.length:Int) + 1)
  simp only [uW,List.length_append,List.length_cons,List.length_nil]
  omega
 have hfl:=Kr c.size c [] ar []
 simp only [List.length_nil,Nat.zero_add] at hfl
 have hp:=iF c
 have hnm:∀ x∈fW c.size c [] ar [],x.length≤B:=fun x hx=>(Qc _ _ _ _ _ hs x hx).resolve_left (by simp)
 refine ⟨zbf _ _ (fun z=>.leaf (.inl rfl) ⟨by decide,by decide⟩ (by omega)) fun x hx=>by have:=hnm x hx; omega,?_,?_,fun u hu=>?_⟩
 ·simp only [sX,zka,zh9]; omega
 ·simp only [sX,Hy,szU]; omega
 ·simp only [sX,List.mem_append,List.mem_cons,List.not_mem_nil,or_false] at hu
  exact hu.imp id fun e=>by subst e; exact ⟨hs,hn,hfl,hnm⟩
theorem Oh {c:Co} (hs:Shp B c) (hB:B≤B') (ht:t.length + 22≤B'):∀ (z:Bool) (ar:List Tx) (m:List Su),Res B B' t z c m (flM c z ar t m):=by
 induction hs with
 | @leaf f n s hf hn hl =>
  intro z ar m
  cases hli:jL (.mk f n s [] [] []) z with
  | true =>
   rw [yK _ _ _ _ _ hli]
   exact Si (.leaf hf hn hl) hB ht
  | false =>
   rw [vH _ _ _ _ _ hli]
   simp only [co,fB,fK,fA,List.length_nil,List.take_nil,cJ,eJ,fE]
   refine ⟨?_,by simp only; omega,by simp only; omega,fun u hu=>.inl hu⟩
   rcases hf with rfl | rfl | rfl | rfl
   ·exact .leaf (.inl rfl) hn (by omega)
   ·exact .leaf (.inr (.inl rfl)) hn (by omega)
   ·exact .leaf (.inr (.inr rfl)) hn (by omega)
   ·cases z with
    | true=>cases hli
    | false=>exact .fail
 | @app s a b hl _ _ iha ihb =>
  intro z ar m
  have hli:jL (.mk 4 0 s [a,b] [] []) z=false:=by cases z <;> rfl
  rw [vH _ _ _ _ _ hli]
  have e:(z || ((4:Int) == 4))=true:=by cases z <;> rfl
  have hk:=uC (B:=B) (B':=B') (t:=t) (z:=true) (F:=fun x m=>flM x true (ar ++ []) t m) [a,b] m fun p hp m=>by
   simp only [List.mem_cons,List.not_mem_nil,or_false] at hp
   rcases hp with rfl | rfl
   ·exact iha _ _ _
   ·exact ihb _ _ _
  simp only [co,fB,fK,fA,List.length_nil,List.take_nil,cJ,fE,e,List.map_nil,List.take_length]
  obtain ⟨k1,k2,k3,k4⟩:=hk
  refine ⟨?_,?_,?_,k4⟩
  ·simp only [eJ] at k1 ⊢
   exact .app (by omega) (k1 _ (by simp)) (k1 _ (by simp))
  ·simp only [Co.size,szB,szA] at k2 ⊢; omega
  ·simp only [Co.size,szB,szA] at k3 ⊢; omega
 | @prim s a b hl ha hb iha ihb =>
  intro z ar m
  cases z with
  | true =>
   rw [yK _ _ _ _ _ rfl]
   exact Si (.prim hl ha hb) hB ht
  | false =>
   rw [vH _ _ _ _ _ rfl]
   have e:(false || ((10:Int) == 4))=false:=rfl
   have hk:=uC (B:=B) (B':=B') (t:=t) (z:=false) (F:=fun x m=>flM x false (ar ++ []) t m) [a,b] m fun p hp m=>by
    simp only [List.mem_cons,List.not_mem_nil,or_false] at hp
    rcases hp with rfl | rfl
    ·exact iha _ _ _
    ·exact ihb _ _ _
   simp only [co,fB,fK,fA,List.length_nil,List.take_nil,cJ,fE,e,List.map_nil,List.take_length]
   obtain ⟨k1,k2,k3,k4⟩:=hk
   refine ⟨?_,?_,?_,k4⟩
   ·simp only [eJ] at k1 ⊢
    exact .prim (by omega) (k1 _ (by simp)) (k1 _ (by simp))
   ·simp only [Co.size,szB,szA] at k2 ⊢; omega
   ·simp only [Co.size,szB,szA] at k3 ⊢; omega
 | @lt s b bs hl hbn hbs hb ihs ihb =>
  intro z ar m
  have hli:jL (.mk 8 0 s [b] bs []) z=false:=by cases z <;> rfl
  rw [vH _ _ _ _ _ hli]
  have e:(z || ((8:Int) == 4))=z:=by cases z <;> rfl
  obtain ⟨b1,b2,b3,b4,b5⟩:=Sl (B:=B) (B':=B') (t:=t) (F:=fun x m=>flM x true (ar ++ bs.map Prod.fst) t m) bs m fun p hp m=>ihs p hp _ _ _
  obtain ⟨k1,k2,k3,k4⟩:=uC (B:=B) (B':=B') (t:=t) (z:=z) (F:=fun x m=>flM x z (ar ++ bs.map Prod.fst) t m) [b] (cJ (fun x m=>flM x true (ar ++ bs.map Prod.fst) t m) bs m).2 fun p hp m=>by
   simp only [List.mem_cons,List.not_mem_nil,or_false] at hp
   subst hp
   exact ihb _ _ _
  simp only [co,fB,fK,fA,List.length_nil,List.take_nil,fE,e,List.take_length]
  refine ⟨?_,?_,?_,fun u hu=>?_⟩
  ·simp only [eJ] at k1 ⊢
   refine .lt (by omega) (fun p hp=>?_) b1 (k1 _ (by simp))
   have hm:p.1∈(cJ (fun x m=>flM x true (ar ++ bs.map Prod.fst) t m) bs m).1.map Prod.fst:=List.mem_map.2 ⟨p,hp,rfl⟩
   rw [b2] at hm
   obtain ⟨q,hq,e⟩:=List.mem_map.1 hm
   have:=hbn q hq
   rw [← e]
   omega
  ·simp only [Co.size,szA] at k2 ⊢; omega
  ·simp only [Co.size,szA] at k3 ⊢; omega
  ·rcases k4 u hu with h1 | h1
   ·exact b5 u h1
   ·exact .inr h1
 | @cas s x al hl hal hx hxs ihx ihs =>
  intro z ar m
  cases z with
  | true =>
   rw [yK _ _ _ _ _ rfl]
   exact Si (.cas hl hal hx hxs) hB ht
  | false =>
   rw [vH _ _ _ _ _ rfl]
   have e:(false || ((9:Int) == 4))=false:=rfl
   obtain ⟨k1,k2,k3,k4⟩:=uC (B:=B) (B':=B') (t:=t) (z:=false) (F:=fun x m=>flM x false (ar ++ []) t m) [x] m fun p hp m=>by
    simp only [List.mem_cons,List.not_mem_nil,or_false] at hp
    subst hp
    exact ihx _ _ _
   obtain ⟨a1,a2,a3,a4,a5⟩:=Sj (B:=B) (B':=B') (t:=t) (F:=fun h x m=>flM x false (ar ++ h.vars) t m) al (eJ (fun x m=>flM x false (ar ++ []) t m) [x] m).2 fun p hp m=>ihs p hp _ _ _
   simp only [co,fB,fK,fA,List.length_nil,List.take_nil,cJ,e,List.map_nil,List.take_length]
   refine ⟨?_,?_,?_,fun u hu=>?_⟩
   ·simp only [eJ] at k1 a1 a2 ⊢
    refine .cas (by omega) (fun p hp=>?_) (k1 _ (by simp)) a1
    have hm:p.1∈(fE (fun h x m=>flM x false (ar ++ h.vars) t m) al (flM x false (ar ++ []) t m).2).1.map Prod.fst:=List.mem_map.2 ⟨p,hp,rfl⟩
    rw [a2] at hm
    obtain ⟨q,hq,e⟩:=List.mem_map.1 hm
    have:=hal q hq
    rw [← e]
    exact ⟨this.1,by omega,fun v hv=>by have:=this.2.2 v hv; omega⟩
   ·simp only [Co.size,szB] at k2 ⊢; omega
   ·simp only [Co.size,szB] at k3 ⊢; omega
   ·rcases a5 u hu with h1 | h1
    ·exact k4 u h1
    ·exact .inr h1
end
theorem zt7 {B B':Nat} {t:Tx} {c:Co} (hs:Shp B c) (hB:B≤B') (ht:t.length + 22≤B') (ar:List Tx) (m:List Su):szU (flM c false ar t m).2 + 1≤szU m + c.size:=by
 have hli:jL c false=false:=rfl
 rw [vH _ _ _ _ _ hli]
 have hsz:=gZ c
 have hparts:=zh8 hs
 have h1:=(Sl (B:=B) (B':=B') (t:=t) (F:=fun x m=>flM x true (ar ++ c.bs.map Prod.fst) t m) c.bs m fun p hp m=>Oh (hparts _ (by simp only [eO,List.mem_append,List.mem_map]; exact .inl (.inl ⟨p,hp,rfl⟩))) hB ht _ _ _).2.2.2.1
 have h2:=(uC (B:=B) (B':=B') (t:=t) (z:=false || (c.f == 4)) (F:=fun x m=>flM x (false || (c.f == 4)) (ar ++ c.bs.map Prod.fst) t m) c.ks (fB c ar t m c.bs.length).2 fun p hp m=>Oh (hparts _ (by simp only [eO,List.mem_append]; exact .inl (.inr hp))) hB ht _ _ _).2.2.1
 have h3:=(Sj (B:=B) (B':=B') (t:=t) (F:=fun h x m=>flM x false (ar ++ h.vars) t m) c.al (fK c false ar t (fB c ar t m c.bs.length).2 c.ks.length).2 fun p hp m=>Oh (hparts _ (by simp only [eO,List.mem_append,List.mem_map]; exact .inr ⟨p,hp,rfl⟩)) hB ht _ _ _).2.2.2.1
 have e1:fB c ar t m c.bs.length=cJ (fun x m=>flM x true (ar ++ c.bs.map Prod.fst) t m) c.bs m:=by rw [fB,List.take_length]
 have e2:∀ m,fK c false ar t m c.ks.length=eJ (fun x m=>flM x (false || (c.f == 4)) (ar ++ c.bs.map Prod.fst) t m) c.ks m:=fun m=>by rw [fK,List.take_length]
 have e3:∀ m,fA c ar t m c.al.length=fE (fun h x m=>flM x false (ar ++ h.vars) t m) c.al m:=fun m=>by rw [fA,List.take_length]
 rw [e1] at h2 h3 ⊢
 rw [e2] at h3 ⊢
 simp only [e3]
 omega
end Go.Fu
namespace Go.Fu
open Go Go.Mx
set_option maxRecDepth 10000
def zh2:Tx:=[80,85,83,72,73]
def zE:Tx:=[80,85,83,72,71]
def Xo:Tx:=[80,85,83,72,65]
def zfi:Tx:=[77,75,65,80]
def qC:Tx:=[83,76,73,68,69]
def oM:Tx:=[65,76,76,79,67]
def kQ:Tx:=[85,80,68,65,84,69]
def kid (c:Co) (i:Nat):Co:=c.ks.getD i c0
def nms (c:Co):List Tx:=c.bs.map Prod.fst
def Nz (a b:Int):Int:=IntKind.i64.wrap (IntKind.i64.wrap (a - 1) - b)
theorem zS:Small 0:=⟨by decide,by decide⟩
def GI (B:Nat) (i:In):Prop:=i.op.length≤6∧Small i.n∧Small i.m∧i.name.length≤B
theorem jG {B:Nat} {s:Tx} {x:Int} (hs:s.length≤6) (hx:Small x):GI B (op1 s x):=⟨hs,hx,(⟨by decide,by decide⟩:Small 0),by simp [op1]⟩
end Go.Fu
namespace Go.Fu
open Go Go.Mx
set_option maxRecDepth 10000
section
variable {C:aM} {n:Nat} {σ:Store}
end
end Go.Fu
namespace Go.Fu
open Go Go.Mx
set_option maxRecDepth 10000
def GC (B n:Nat) (is:List In):Prop:=(∀ i∈is,GI B i)∧is.length≤n
def oC:Tx:=[70,65,73,76]
def Xn:Tx:=[69,86,65,76]
def rS:Tx:=[80,79,80]
def xW:Tx:=[85,78,87,73,78,68]
theorem fH {B m n:Nat} {a:List In} (h:GC B m a) (hmn:m≤n):GC B n a:=⟨h.1,Nat.le_trans h.2 hmn⟩
theorem zsd (s:Tx):(xF s).length≤6:=by
 unfold xF
 cases s == [97,100,100] <;> cases s == [115,117,98] <;> cases s == [109,117,108] <;> cases s == [100,105,118] <;> cases s == [101,113] <;> cases s == [108,116] <;> simp [ifB]
end Go.Fu
namespace Go.Fu
open Go Go.Mx
set_option maxRecDepth 10000
def zfj:Tx:=[84,69,83,84]
def Xp:Tx:=[84,69,83,84,73]
def zh3:Tx:=[83,80,76,73,84]
theorem zut (a:Hd × Co):bS (dA a)=true:=by
 have h:dAs [a]=[dA a]:=by rw [Zq]; rfl
 have h1:=Ln [a]
 rw [h] at h1
 simpa [aX] using h1
theorem zar:Small 1:=⟨by decide,by decide⟩
end Go.Fu
namespace Go.Fu
open Go Go.Mx
end Go.Fu
namespace Go.Fu
open Go Go.Mx
set_option maxRecDepth 10000
theorem sD {body:Env→Store→kB} (P:Nat→Env→Store→Prop) (Q:AExit × Env × Store→Prop) (k:Nat) (hstep:∀ i e σ,i < k→P i e σ→∃ e' σ',body e σ=some (.normal,e',σ')∧P (i + 1) e' σ')
  (hend:∀ e σ,P k e σ→∃ r,body e σ=some r∧(∀ e σ,r≠(.normal,e,σ))∧Q r):∀ (j n:Nat) (e:Env) (σ:Store),j≤k→k < n + j→P j e σ→∃ r,dL body n e σ=some r∧Q r
 | j,0,e,σ,h1,h2,_=>by omega
 | j,n + 1,e,σ,h1,h2,hp=>by
  rw [dL]
  by_cases hj:j=k
  ·subst hj
   obtain ⟨r,hr,hn,hq⟩:=hend e σ hp
   rw [hr]
   obtain ⟨x,e',σ'⟩:=r
   cases x with
   | normal=>exact absurd rfl (hn e' σ')
   | _=>exact ⟨_,rfl,hq⟩
  ·obtain ⟨e',σ',hb,hp'⟩:=hstep j e σ (by omega) hp
   rw [hb]
   exact sD P Q k hstep hend (j + 1) n e' σ' (by omega) (by omega) hp'
theorem nA:∀ a b:List D,cellsOf (a ++ b)=cellsOf a ++ cellsOf b
 | [],b=>rfl
 | d :: a,b=>by simp only [List.cons_append,cellsOf,nA a b,List.append_assoc]
theorem wT:∀ a:List D,(cellsOf a).map (fun c=>Cell.of c.d)=cellsOf a
 | []=>rfl
 | d :: a=>by
  simp only [cellsOf,List.map_append,List.map_map,wT a]
  rfl
theorem Jr {k:RowK}:∀ ds:List D,(∀ d∈ds,d.cells.length=k.sz∧uX k d.cells=d)→mD k ds.length ((cellsOf ds).map fun c=>c.d)=ds
 | [],_=>rfl
 | d :: ds,h=>by
  obtain ⟨h1,h2⟩:=h d (by simp)
  have h3:=Jr ds fun x hx=>h x (List.mem_cons_of_mem _ hx)
  have e1:(d.cells.map Cell.of).map (fun c=>c.d)=d.cells:=by
   rw [List.map_map]
   exact List.map_id'' (fun _=>rfl) _
  simp only [List.length_cons,mD,cellsOf,List.map_append,e1]
  rw [List.take_left' h1,List.drop_left' h1,h2,h3]
theorem Bc {k:RowK} {ds:List D} (h:∀ d∈ds,d.cells.length=k.sz∧uX k d.cells=d):uT k (cellsOf ds) 0 ds.length=ds:=by
 simp only [uT,Nat.zero_mul,List.drop_zero]
 exact Jr ds h
theorem Fp {n:Nat} {os:hU}:∀ ds:List D,(∀ d∈ds,bR n d os=some (d,os))→oQ (bR n) ds os=some (ds,os)
 | [],_=>rfl
 | d :: ds,h=>by
  have h1:=h d (by simp)
  have h2:=Fp ds fun x hx=>h x (List.mem_cons_of_mem _ hx)
  simp only [oQ,h1,aC,aF,h2]
def cI:List In→List Cell
 | []=>[]
 | i :: r=>⟨false,.str i.op⟩ :: ⟨false,.int .i64 i.n⟩ :: ⟨false,.int .i64 i.m⟩ :: ⟨false,.str i.name⟩ :: cI r
theorem uR:∀ l:List In,cI l=cellsOf (l.map dI)
 | []=>rfl
 | i :: r=>by rw [cI,uR r]; rfl
theorem yE:∀ l:List In,(cI l).length=l.length * 4
 | []=>rfl
 | i :: r=>by rw [cI]; simp only [List.length_cons,yE r]; omega
theorem Vk (l:List In):∀ d∈l.map dI,d.cells.length=k_1.sz∧uX k_1 d.cells=d:=fun d hd=>by
 obtain ⟨x,_,rfl⟩:=List.mem_map.1 hd
 exact ⟨rfl,rfl⟩
theorem zk9:∀ l:List In,bI k_1.sz (l.map dI)=true
 | []=>rfl
 | i :: r=>by simp only [List.map_cons,bI,zk9 r]; rfl
theorem za4 {α:Type}:∀ (o:List (Nat × α)) (id:Nat),(∀ p∈o,p.1 < id)→aY o id=o
 | [],_,_=>rfl
 | (k,x) :: o,id,h=>by
  have hk:(k == id)=false:=beq_false_of_ne (by have:=h (k,x) (by simp); simp only at this; omega)
  rw [aY,hk,aG,za4 o id fun p hp=>h p (List.mem_cons_of_mem _ hp)]
structure AS (o:List (Nat × List Cell)) (σ:Store) (id:Nat) (l:List In):Prop where
 objs:σ.objs=(id,cI l) :: o
 low:∀ p∈o,p.1 < id
 tys:aB σ.tys id=some ⟨k_1.el,k_1.sz⟩
 lt:id < σ.next
theorem AS.get {o:List (Nat × List Cell)} {σ:Store} {id:Nat} {l:List In} (h:AS o σ id l):aB σ.objs id=some (cI l):=by
 rw [h.objs]
 simp [aB,ifB]
theorem AS.list {o:List (Nat × List Cell)} {σ:Store} {id:Nat} {l:List In} (h:AS o σ id l):eB σ.objs (.arr k_1 id 0 l.length)=some (l.map dI):=by
 have e:=Bc (k:=k_1) (ds:=l.map dI) (Vk l)
 rw [List.length_map] at e
 have hd:decide ((0 + l.length) * k_1.sz≤(cI l).length)=true:=by rw [yE]; simp [k_1]
 have hc:(k_1.ag || k_1.sz == 1)=true:=rfl
 simp only [eB,h.get,aC,aF,hc,hd,Bool.and_self,aE]
 rw [uR,e]
theorem AS.more {o:List (Nat × List Cell)} {σ:Store} {id:Nat} {l:List In} (h:AS o σ id l) (x:In) (hl:l.length < 1000000000):∃ σ',bP σ k_1 48 (.arr k_1 id 0 l.length) [dI x]=some (.arr k_1 σ.next 0 (l.length + 1),σ')∧AS o σ' σ.next (l ++ [x]):=by
 have h1:bI k_1.sz [dI x]=true:=rfl
 have e0:decide (l.length * k_1.sz≤(cI l).length)=true:=by rw [yE]; simp [k_1]
 have e1:decide ((l.length + 1) * 48≤bG)=true:=decide_eq_true (show (l.length + 1) * 48≤1099511627776 by omega)
 have e2:decide (l.length + 1≤bG)=true:=decide_eq_true (show l.length + 1≤1099511627776 by omega)
 have ek:k_1.same k_1=true:=rfl
 have ht:(cI l).take (l.length * k_1.sz)=cI l:=List.take_of_length_le (by rw [yE]; simp [k_1])
 have en:(cI l).map (fun c=>Cell.of c.d) ++ cellsOf [dI x]=cI (l ++ [x]):=by
  rw [uR,uR,wT,List.map_append,nA]
  rfl
 refine ⟨aN {σ with objs:=aY σ.objs id} k_1 (cI (l ++ [x])),?_,?_⟩
 ·simp only [bP,h1,aE,h.get,h.tys,aC,aF,ek,beq_self_eq_true,List.length_cons,List.length_nil,Nat.zero_add,e0,e1,e2,Bool.and_self,ht,en]
 ·have hb:(id == id)=true:=by simp
  have hdel:aY σ.objs id=o:=by rw [h.objs,aY,hb,aE,za4 o id h.low]
  refine ⟨by simp only [aN,hdel],fun p hp=>Nat.lt_trans (h.low p hp) h.lt,by simp [aN,aB,ifB],by simp [aN]⟩
theorem AS.first {σ:Store} (hlow:∀ p∈σ.objs,p.1 < σ.next) (l:List In) (hne:l≠[]) (hl:l.length < 1000000000):∃ σ',bP σ k_1 48 .nils (l.map dI)=some (.arr k_1 σ.next 0 l.length,σ')∧AS σ.objs σ' σ.next l:=by
 have e1:decide (l.length * 48≤bG)=true:=decide_eq_true (show l.length * 48≤1099511627776 by omega)
 have e2:decide (l.length≤bG)=true:=decide_eq_true (show l.length≤1099511627776 by omega)
 have e:(l.map dI).isEmpty=false:=by cases l with
  | nil=>exact absurd rfl hne
  | cons a b=>rfl
 refine ⟨aN σ k_1 (cI l),?_,?_⟩
 ·rw [uR]
  simp only [bP,zk9,e,aE,aG,e1,e2,Bool.and_self,List.length_map]
 ·exact ⟨rfl,hlow,by simp [aN,aB,ifB],by simp [aN]⟩
section
variable {C:aM} {n:Nat}
end
end Go.Fu
namespace Go.Fu
open Go Go.Mx
set_option maxRecDepth 10000
def setN (v:Int):List In→List In
 | []=>[]
 | i :: r=>{i with n:=v} :: r
theorem AS.idx {o:List (Nat × List Cell)} {σ:Store} {id:Nat} {l:List In} (_h:AS o σ id l) (hne:l≠[]):dC 4 (.arr k_1 id 0 l.length) 0=some (.ptr id 0):=by
 cases l with
 | nil=>exact absurd rfl hne
 | cons a b =>
  have:decide (0 < (a :: b).length)=true:=by simp
  simp only [dC,this]
  rfl
theorem AS.set {o:List (Nat × List Cell)} {σ:Store} {id:Nat} {l:List In} (h:AS o σ id l) (hne:l≠[]) (v:Int):nU ⟨false,.int .i64 v⟩ 1 1 (cI l)=true∧AS o {σ with objs:=aU σ.objs id (putCells (cI l) 1 (dE ⟨false,.int .i64 v⟩))} id (setN v l):=by
 cases l with
 | nil=>exact absurd rfl hne
 | cons a b =>
  refine ⟨?_,?_,h.low,h.tys,h.lt⟩
  ·simp [nU,cI,D.ok,D.cells]
  ·have hb:(id == id)=true:=by simp
   simp only [h.objs,aU,hb,aE]
   rfl
theorem jD {z:Nat}:∀ a:List D,(∀ d∈a,d.cells.length=z)→(cellsOf a).length=a.length * z
 | [],_=>by simp [cellsOf]
 | d :: a,h=>by
  have h1:=h d (by simp)
  have h2:=jD a fun x hx=>h x (List.mem_cons_of_mem _ hx)
  simp only [cellsOf,List.length_append,List.length_map,h1,h2,List.length_cons,Nat.succ_mul,Nat.add_comm]
theorem zi9 {n:Nat} {k:RowK} {id off len:Nat} {os:hU}:bR (n + 1) (.arr k id off len) os=aC (aB os id) fun cs=>ifB ((k.ag || k.sz == 1) && decide ((off + len) * k.sz≤cs.length)) (aC (oQ (bR n) (uT k cs off len) (aY os id)) fun r=>some (.list k r.1,r.2)) none:=rfl
theorem qV {k:RowK} {id n:Nat} {ds:List D} {os os':hU} (ho:aB os id=some (cellsOf ds)) (hd:aY os id=os') (hk:(k.ag || k.sz == 1)=true) (h:∀ d∈ds,d.cells.length=k.sz∧uX k d.cells=d) (hf:∀ d∈ds,bR n d os'=some (d,os')) :
  bR (n + 1) (.arr k id 0 ds.length) os=some (.list k ds,os'):=by
 have hl:=jD ds fun d hd=>(h d hd).1
 have e0:decide ((0 + ds.length) * k.sz≤(cellsOf ds).length)=true:=by simp; omega
 simp only [zi9,ho,aC,aF,hk,e0,Bool.and_self,ifB,Bc h,hd,Fp ds hf]
theorem AS.frz {o:List (Nat × List Cell)} {σ:Store} {id:Nat} {l:List In} (h:AS o σ id l) (hne:l≠[]) (s:Nat) (e:Env) (b:Bool) (hs:aB e.slots s=some ⟨b,.arr k_1 id 0 l.length⟩):∃ σ' b',kO [.slot s] e σ=some ({e with slots:=aU e.slots s ⟨b',dIs l⟩},σ'):=by
 have hr:=qV (k:=k_1) (id:=id) (n:=39) (ds:=l.map dI) (os:=σ.objs) (os':=aY σ.objs id) (by rw [h.get,uR]) rfl rfl (Vk l) (fun d hd=>by
  obtain ⟨x,_,rfl⟩:=List.mem_map.1 hd
  rfl)
 rw [List.length_map] at hr
 have hd:dIs l=.list k_1 (l.map dI):=by
  cases l with
  | nil=>exact absurd rfl hne
  | cons a b=>rfl
 refine ⟨{σ with objs:=aY σ.objs id},Cell.keeps ⟨b,.arr k_1 id 0 l.length⟩,?_⟩
 simp only [kO,lL,hs,aC,aF,hr,hd]
end Go.Fu
namespace Go.Fu
open Go Go.Mx
set_option maxRecDepth 10000
theorem uA {C:aM} {n:Nat} {ro:Option Nat} {ts:List FTgt} {b:ACode} {e:Env} {σ:Store}:exec C n ro (.frz ts b) e σ=aC (kO ts e σ) fun x=>exec C n ro b x.1 x.2:=rfl
def zfh:Tx:=[74,85,77,80]
theorem eM {B n:Nat} {l:List In} {x:In} (h:GC B n l) (hx:GI B x):GC B (n + 1) (l ++ [x]):=by
 refine ⟨fun y hy=>?_,by have:=h.2; simp; omega⟩
 rcases List.mem_append.1 hy with hy | hy
 ·exact h.1 y hy
 ·rw [List.mem_singleton.1 hy]; exact hx
end Go.Fu
namespace Go.Fu
open Go Go.Mx
set_option maxRecDepth 10000
abbrev At:=Tx→Option Int
def w64 (x:Int):Int:=IntKind.i64.wrap x
def noAt:At:=fun _=>none
def tD (M:At) (s:Tx) (v:Int):At:=fun x=>ifB (x == s) (some v) (M x)
def cM:At→List Tx→Int→Nat→At
 | M,[],_,_=>M
 | M,s :: r,d,i=>cM (tD M s (w64 (d + (i:Int)))) r d (i + 1)
def rI (L:List In) (k:Nat) (v:Int):List In:=L.modify k fun i=>{i with n:=v}
theorem vR (L:List In) (k:Nat) (v:Int):(rI L k v).length=L.length:=by simp [rI]
def sS (lz:Co→List In→List In) (k:Nat):List (Tx × Co)→Nat→List In→List In
 | [],_,L=>L
 | b :: r,i,L=>sS lz k r (i + 1) (lz b.2 L ++ [op1 kQ (Nz k i)])
def Kz (lz go:Co→At→Int→List In→List In) (c:Co) (M:At) (d:Int) (L:List In):List In :=
 go (kid c 0) (cM M (nms c) d 0) (w64 (d + c.bs.length)) (sS (fun b L=>lz b (cM M (nms c) d 0) (w64 (d + c.bs.length)) L) c.bs.length c.bs 0 (L ++ [op1 oM c.bs.length]))
def lzS:Nat→Co→At→Int→List In→List In
 | 0,_,_,_,L=>L
 | n + 1,c,M,d,L =>
  ifB (c.f == 1) (bT (M c.s) (L ++ [⟨zE,0,0,c.s⟩]) fun a=>L ++ [op1 Xo (w64 (w64 (d - 1) - a))])
   (ifB (c.f == 2) (L ++ [⟨zE,0,0,c.s⟩]) (ifB (c.f == 3) (L ++ [op1 zh2 c.n]) (ifB (c.f == 4) (lzS n (kid c 0) M (w64 (d + 1)) (lzS n (kid c 1) M d L) ++ [op1 zfi 0])
    (Kz (lzS n) (lzS n) c M d L ++ [op1 qC c.bs.length]))))
def mG (h:Hd):List In:=ifB (h.form == 1) [⟨zfj,0,0,h.name⟩,op1 zh3 h.vars.length] (ifB (h.form == 2) [⟨Xp,0,h.num,[]⟩,op1 rS 1] [op1 rS 1])
def mQ (st:Bool) (h:Hd) (L:List In):List In:=ifB st (ifB (h.form == 1) (L ++ [op1 qC h.vars.length]) L ++ [⟨zfh,0,0,[]⟩]) L
def kC (st:Bool) (body:Co→At→Int→List In→List In) (M:At) (d:Int) (a:Hd × Co) (s:List In × List Nat):List In × List Nat :=
 (ifB (a.1.form == 1 || a.1.form == 2) (rI (mQ st a.1 (body a.2 (cM M a.1.vars.reverse d 0) (w64 (d + a.1.vars.length)) (s.1 ++ mG a.1))) s.1.length (mQ st a.1 (body a.2 (cM M a.1.vars.reverse d 0) (w64 (d + a.1.vars.length)) (s.1 ++ mG a.1))).length)
  (mQ st a.1 (body a.2 (cM M a.1.vars.reverse d 0) (w64 (d + a.1.vars.length)) (s.1 ++ mG a.1))),
  ifB st (s.2 ++ [(mQ st a.1 (body a.2 (cM M a.1.vars.reverse d 0) (w64 (d + a.1.vars.length)) (s.1 ++ mG a.1))).length - 1]) s.2)
def fC (st:Bool) (body:Co→At→Int→List In→List In) (M:At) (d:Int):List (Hd × Co)→List In × List Nat→(List In × List Nat) × Bool
 | [],s=>(s,true)
 | a :: r,s=>ifB (a.1.form == 3) (kC st body M d a s,false) (fC st body M d r (kC st body M d a s))
def tY (st b:Bool) (L:List In):List In:=ifB b (ifB st (L ++ [op1 rS 1] ++ [op1 oC 0]) (L ++ [op1 oC 0])) L
def Ge:List Nat→List In→List In
 | [],L=>L
 | e :: r,L=>Ge r (rI L e L.length)
theorem Kv:∀ (l:List Nat) (L:List In),(Ge l L).length=L.length
 | [],L=>rfl
 | x :: l,L=>by rw [Ge,Kv l,vR]
def stS:Nat→Co→At→Int→List In→List In
 | 0,_,_,_,L=>L
 | n + 1,c,M,d,L =>
  ifB (c.f == 8) (Kz (fun b=>lzS b.size b) (stS n) c M d L ++ [op1 qC c.bs.length])
   (ifB (c.f == 10) (stS n (kid c 1) M (w64 (d + 1)) (stS n (kid c 0) M d L) ++ [op1 (xF c.s) 0])
    (ifB (c.f == 11) (L ++ [op1 oC 0])
     (ifB (c.f == 9) (Ge (fC true (stS n) M d c.al (stS n (kid c 0) M d L,[])).1.2 (tY true (fC true (stS n) M d c.al (stS n (kid c 0) M d L,[])).2 (fC true (stS n) M d c.al (stS n (kid c 0) M d L,[])).1.1))
      (lzS c.size c M d L ++ [op1 Xn 0]))))
def tlE (d:Int) (L:List In):List In:=L ++ [op1 kQ d] ++ [op1 rS d] ++ [op1 xW 0]
def tlS:Nat→Co→At→Int→List In→List In
 | 0,_,_,_,L=>L
 | n + 1,c,M,d,L =>
  ifB (c.f == 8) (Kz (fun b=>lzS b.size b) (tlS n) c M d L)
   (ifB (c.f == 11) (L ++ [op1 oC 0])
    (ifB (c.f == 9) (tY false (fC false (tlS n) M d c.al (stS n (kid c 0) M d L,[])).2 (fC false (tlS n) M d c.al (stS n (kid c 0) M d L,[])).1.1)
     (ifB (c.f == 10) (tlE d (stS (n + 1) c M d L)) (tlE d (lzS c.size c M d L)))))
def eG (u:Su):Cd:=⟨u.name,u.ps.length,tlS u.body.size u.body (cM noAt u.ps.reverse 0 0) u.ps.length []⟩
end Go.Fu
namespace Go.Fu
open Go Go.Mx
set_option maxRecDepth 10000
end Go.Fu
namespace Go.Fu
open Go Go.Mx
def dZ:ACode:=(.block 1 (rg [mo 8 (.load none true (.tmp 2)),mt 9 5,mo 10 (.buildSlice k_0 [.tmp 9]),mo 11 (.appendA k_0 16 (.mv 8) (.tmp 10)),⟨none,.store 1 (.tmp 2) (.mv 11),none⟩] [2,5,8,9,10,11]))
def iZ:AFun:={nargs:=2,ntmps:=13,res:=[.tmp 4],gc:=false,body:=(sq [mo 2 (.gbox t_8 (.tmp 0)),mo 4 (.mov (.const .nils))] [0,4] (.seq (sq [mt 6 1] [1] (.block 0 (.rangeF (.tmp 6) [7] (rg [mt 5 7] [6,7]) dZ))) (sq [
 mo 12 (.load none true (.tmp 2)),mw 4 12] [2,6,12] .ret)))}
def eH:AFun:={nargs:=1,ntmps:=8,res:=[.tmp 2],gc:=false,body:=(sq [mo 2 (.mov (.const .nils))] [2] (.seq (sq [mt 3 0,mo 4 (.isNilS .eql (.tmp 3))] [3] (.cond (.tmp 4) (sq [mo 2 (.mov (.const .nils))] [0,4] .ret) .skip)) (sq [mo 5 (.buildA k_0 []),
 mw 6 0,mo 7 (.appendA k_0 16 (.mv 5) (.tmp 6)),mw 2 7] [0,4,5,6,7] .ret)))}
theorem vL:aO Go.Proofs.Tryz.prog Go.Proofs.Tryz.f147 iZ=true:=by kernel_rfl
theorem zQ:aO Go.Proofs.Tryz.prog Go.Proofs.Tryz.f78 eH=true:=by kernel_rfl
end Go.Fu
namespace Go.Fu
open Go Go.Mx
set_option maxRecDepth 10000
set_option maxHeartbeats 8000000
def cZ (l:List Int):List Cell:=l.map fun x=>⟨false,.int .i64 x⟩
end Go.Fu
namespace Go.Fu
open Go Go.Mx
set_option maxRecDepth 10000
section
variable {C:aM} {n:Nat} {σ:Store}
def Eix (l:List Tx) (s:Tx) (i:Nat):Env:={slots:=[(0,⟨false,dSs l⟩),(1,⟨false,.str s⟩),(7,⟨false,.int .i64 l.length⟩),(8,⟨false,.int .i64 i⟩)],locs:=[],boxes:=[],defers:=[]}
theorem zy5 (l:List Tx) (s:Tx) (i:Nat) (h:i < l.length) (hl:l.length < 1000000000) (hq:(s == l.getD i [])=false):exec C n none Jk (Eix l s i) σ=some (.normal,Eix l s (i + 1),σ):=by
 rw [cO _ _ _ h] at hq
 have hi:((i:Int) < (l.length:Int)):=by omega
 simp only [Jk,Eix,sA,Nat.reduceAdd,Nat.reduceSub,Nat.reduceMul,Nat.reduceBEq,Nat.reduceLeDiff,Int.reduceBEq,Int.reduceBNe,Int.reduceLE,Int.reduceLT,Int.reduceGE,Int.reduceGT,Int.reduceNeg,kn,nW,hi,cL,uV l i h,hq,aR (i:=i) (by omega)]
theorem zy6 (l:List Tx) (s:Tx) (i:Nat) (h:i < l.length) (hq:(s == l.getD i [])=true):exec C n none Jk (Eix l s i) σ=some (.ret,{slots:=[(4,⟨false,.int .i64 i⟩)],locs:=[],boxes:=[],defers:=[]},σ):=by
 rw [cO _ _ _ h] at hq
 have hi:((i:Int) < (l.length:Int)):=by omega
 simp only [Jk,Eix,sA,Nat.reduceAdd,Nat.reduceSub,Nat.reduceMul,Nat.reduceBEq,Nat.reduceLeDiff,Int.reduceBEq,Int.reduceBNe,Int.reduceLE,Int.reduceLT,Int.reduceGE,Int.reduceGT,Int.reduceNeg,kn,nW,hi,cL,uV l i h,hq]
theorem zbnb (l:List Tx) (s:Tx):exec C n none Jk (Eix l s l.length) σ=some (.exit 0,{Eix l s l.length with slots:=[(0,⟨false,dSs l⟩),(1,⟨false,.str s⟩),(7,⟨false,.int .i64 l.length⟩),(8,⟨false,.int .i64 l.length⟩),(9,⟨false,.bool false⟩)]},σ):=by
 have hi:¬ ((l.length:Int) < (l.length:Int)):=by omega
 simp only [Jk,Eix,sA,Nat.reduceAdd,Nat.reduceSub,Nat.reduceMul,Nat.reduceBEq,Nat.reduceLeDiff,Int.reduceBEq,Int.reduceBNe,Int.reduceLE,Int.reduceLT,Int.reduceGE,Int.reduceGT,Int.reduceNeg,kn,nW,hi]
end
theorem zfv (l:List Tx) (s:Tx):(l.any fun x=>s == x)=l.any (· == s):=by
 induction l with
 | nil=>rfl
 | cons a r ih =>
  simp only [List.any_cons,ih]
  congr 1
  rw [Bool.eq_iff_iff,beq_iff_eq,beq_iff_eq]
  exact eq_comm
theorem znq (l:List Tx) (s:Tx) (hl:l.length < 1000000000):∃ v:Int,OkP Sr [dSs l,.str s] ⟨false,.int .i64 v⟩∧(v ≥ 0↔l.any (· == s)=true):=by
 have hr:=Bd (body:=exec (T [] 0) (l.length + 1) none Jk) (Eix l s) (fun _=>σ0) l.length (fun i=>!(s == l.getD i [])) (r:=_) (fun i=>(.ret,{slots:=[(4,⟨false,.int .i64 i⟩)],locs:=[],boxes:=[],defers:=[]},σ0)) (fun _ _ h=>by cases h) (fun _ _ _ h=>by cases h) (fun i hi hq=>zy5 l s i hi hl (by simpa using hq)) (fun i hi hq=>zy6 l s i hi (by simpa using hq)) (zbnb l s) (l.length + 1) 0 (Nat.zero_le _) (by omega)
 simp only [Eix,bV] at hr
 rcases hr with ⟨i,_,hi,hq,_,h⟩ | ⟨hq,h⟩
 ·refine ⟨i,eD (af:=Zf) (n:=l.length + 1) (σ':=σ0) (eR [] 0) rfl rfl (by simp [aX,cQ,bS]) rfl ?_,?_⟩
  ·simp only [Zf,sA,Nat.reduceAdd,Nat.reduceSub,Nat.reduceMul,Nat.reduceBEq,Nat.reduceLeDiff,Int.reduceBEq,Int.reduceBNe,Int.reduceLE,Int.reduceLT,Int.reduceGE,Int.reduceGT,Int.reduceNeg,kn,nW,h]
  ·refine ⟨fun _=>?_,fun _=>by omega⟩
   rw [← zfv,List.any_eq_true]
   rw [cO _ _ _ hi] at hq
   exact ⟨_,List.getElem_mem hi,by simpa using hq⟩
 ·refine ⟨-1,eD (af:=Zf) (n:=l.length + 1) (σ':=σ0) (eR [] 0) rfl rfl (by simp [aX,cQ,bS]) rfl ?_,?_⟩
  ·simp only [Zf,sA,Nat.reduceAdd,Nat.reduceSub,Nat.reduceMul,Nat.reduceBEq,Nat.reduceLeDiff,Int.reduceBEq,Int.reduceBNe,Int.reduceLE,Int.reduceLT,Int.reduceGE,Int.reduceGT,Int.reduceNeg,kn,nW,h]
  ·refine ⟨fun h=>by omega,fun ha=>?_⟩
   rw [← zfv,List.any_eq_true] at ha
   obtain ⟨x,hx,hxs⟩:=ha
   obtain ⟨i,hi,rfl⟩:=List.getElem_of_mem hx
   have:=hq i (Nat.zero_le _) hi
   rw [cO _ _ _ hi] at this
   simp only [hxs] at this
   cases this
def Uh:List D→Cell→Prop:=fun ds c=>∀ l s,ds=[dSs l,.str s]→∃ v:Int,c=⟨false,.int .i64 v⟩∧(v ≥ 0↔l.any (· == s)=true)
theorem zmy {S:aV} (hS:aB S Sr=some Uh) (l:List Tx) (s:Tx) (hl:l.length < 1000000000):∃ v:Int,(∀ n σ,T S (n + 1) Sr [dSs l,.str s] σ=some (.ret ⟨false,.int .i64 v⟩,σ))∧(v ≥ 0↔l.any (· == s)=true):=by
 obtain ⟨v,hp,hv⟩:=znq l s hl
 obtain ⟨c,h1,h2⟩:=kZ (S:=S) hS rfl (c:=⟨false,.int .i64 v⟩) (fun l' s' e=>by
  simp only [List.cons.injEq,D.str.injEq,and_true] at e
  obtain ⟨e1,rfl⟩:=e
  obtain rfl:=iH e1
  exact ⟨v,rfl,hv⟩) hp
 obtain ⟨u,rfl,hu⟩:=h1 l s rfl
 exact ⟨u,h2,hu⟩
theorem Ig (l:List Tx) (s:Tx) (hl:l.length < 1000000000):OkP qA [dSs l,.str s] ⟨false,.bool (l.any (· == s))⟩:=by
 obtain ⟨v,h1,h2⟩:=zmy (S:=[(Sr,Uh)]) rfl l s hl
 refine eD (af:=Ut) (n:=1) (σ':=σ0) (eR [(Sr,Uh)] 1) rfl rfl (by simp [aX,cQ,bS]) rfl ?_
 have h1:=h1 0 σ0
 cases hb:l.any (· == s) with
 | true =>
  have hv:v ≥ 0:=h2.2 hb
  simp only [Ut,sA,Nat.reduceAdd,Nat.reduceSub,Nat.reduceMul,Nat.reduceBEq,Nat.reduceLeDiff,Int.reduceBEq,Int.reduceBNe,Int.reduceLE,Int.reduceLT,Int.reduceGE,Int.reduceGT,Int.reduceNeg,kn,h1,hv]
 | false =>
  have hv:¬ v ≥ 0:=fun h=>by rw [h2.1 h] at hb; cases hb
  simp only [Ut,sA,Nat.reduceAdd,Nat.reduceSub,Nat.reduceMul,Nat.reduceBEq,Nat.reduceLeDiff,Int.reduceBEq,Int.reduceBNe,Int.reduceLE,Int.reduceLT,Int.reduceGE,Int.reduceGT,Int.reduceNeg,kn,h1,hv]
def oV:List D→Cell→Prop:=fun ds c=>∀ l s,ds=[dSs l,.str s]→c=⟨false,.bool (l.any (· == s))⟩
theorem zb6 {S:aV} (hS:aB S qA=some oV) (l:List Tx) (s:Tx) (hl:l.length < 1000000000) (n:Nat) (σ:Store):T S (n + 1) qA [dSs l,.str s] σ=some (.ret ⟨false,.bool (l.any (· == s))⟩,σ):=by
 obtain ⟨c,h1,h2⟩:=kZ (S:=S) hS rfl (c:=⟨false,.bool (l.any (· == s))⟩) (fun l' s' e=>by
  simp only [List.cons.injEq,D.str.injEq,and_true] at e
  obtain ⟨e1,rfl⟩:=e
  rw [iH e1]) (Ig l s hl)
 rw [h2,h1 l s rfl]
end Go.Fu
namespace Go.Fu
open Go Go.Mx
set_option maxRecDepth 10000
section
variable {C:aM} {n:Nat} {σ:Store}
end
end Go.Fu
namespace Go.Fu
open Go Go.Mx
set_option maxRecDepth 10000
end Go.Fu

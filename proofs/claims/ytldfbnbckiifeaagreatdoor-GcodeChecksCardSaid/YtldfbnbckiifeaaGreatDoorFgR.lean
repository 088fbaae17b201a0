/-
 What comes of core that is made flat: of which form,how large,of which names.
-/
import Derived.Test.YtldfbnbckiifeaaGreatDoorFgBq
set_option maxHeartbeats 4000000
set_option linter.unusedSimpArgs false
set_option linter.unusedVariables false
set_option linter.unusedSectionVars false
namespace Go.Fu
open Go Go.Mx
set_option maxRecDepth 10000
inductive Shp (B:Nat):Co→Prop
 | leaf {f n s}:(f=1∨f=2∨f=3∨f=11)→Small n→s.length≤B→Shp B (.mk f n s [] [] [])
 | app {s a b}:s.length≤B→Shp B a→Shp B b→Shp B (.mk 4 0 s [a,b] [] [])
 | prim {s a b}:s.length≤B→Shp B a→Shp B b→Shp B (.mk 10 0 s [a,b] [] [])
 | lt {s b bs}:s.length≤B→(∀ p∈bs,p.1.length≤B)→(∀ p∈bs,Shp B p.2)→Shp B b→Shp B (.mk 8 0 s [b] bs [])
 | cas {s x al}:s.length≤B→(∀ a∈al,Small a.1.num∧a.1.name.length≤B∧∀ v∈a.1.vars,v.length≤B)→Shp B x→(∀ a∈al,Shp B a.2)→Shp B (.mk 9 0 s [x] [] al)
inductive Fl (B:Nat):Bool→Co→Prop
 | leaf {z f n s}:(f=1∨f=2∨f=3)→Small n→s.length≤B→Fl B z (.mk f n s [] [] [])
 | app {z s a b}:s.length≤B→Fl B true a→Fl B true b→Fl B z (.mk 4 0 s [a,b] [] [])
 | lt {z s b bs}:s.length≤B→(∀ p∈bs,p.1.length≤B)→(∀ p∈bs,Fl B true p.2)→Fl B z b→Fl B z (.mk 8 0 s [b] bs [])
 | fail {n s}:Fl B false (.mk 11 n s [] [] [])
 | prim {s a b}:s.length≤B→Fl B false a→Fl B false b→Fl B false (.mk 10 0 s [a,b] [] [])
 | cas {s x al}:s.length≤B→(∀ a∈al,Small a.1.num∧a.1.name.length≤B∧∀ v∈a.1.vars,v.length≤B)→Fl B false x→(∀ a∈al,Fl B false a.2)→Fl B false (.mk 9 0 s [x] [] al)
theorem zw6 {B:Nat} {c:Co} (h:Shp B c):∀ x∈zae c,Shp B x:=by
 cases h with
 | leaf _ _ _=>intro x hx; simp [zae,co] at hx
 | app _ ha hb =>
  intro x hx
  simp only [zae,co,List.map_nil,List.nil_append,List.append_nil,List.mem_cons,List.not_mem_nil,or_false] at hx
  rcases hx with rfl | rfl
  ·exact ha
  ·exact hb
 | prim _ ha hb =>
  intro x hx
  simp only [zae,co,List.map_nil,List.nil_append,List.append_nil,List.mem_cons,List.not_mem_nil,or_false] at hx
  rcases hx with rfl | rfl
  ·exact ha
  ·exact hb
 | lt _ _ h2 h3 =>
  intro x hx
  simp only [zae,co,List.map_nil,List.append_nil,List.mem_append,List.mem_map,List.mem_cons,List.not_mem_nil,or_false] at hx
  rcases hx with ⟨p,hp,rfl⟩ | rfl
  ·exact h2 p hp
  ·exact h3
 | cas _ _ h2 h3 =>
  intro x hx
  simp only [zae,co,List.map_nil,List.nil_append,List.mem_append,List.mem_map,List.mem_cons,List.not_mem_nil,or_false] at hx
  rcases hx with rfl | ⟨p,hp,rfl⟩
  ·exact h2
  ·exact h3 p hp
theorem zjgb {B:Nat} {c:Co} (h:Shp B c):c.s.length≤B:=by cases h <;> assumption
theorem zo1 {B:Nat}:∀ (k:Nat) (c:Co) (g s h:List Tx),Shp B c→∀ x∈freeM k c g s h,x∈h∨x.length≤B
 | 0,c,g,s,h,_,x,hx=>.inl hx
 | k + 1,c,g,s,h,hs,x,hx=>by
  simp only [freeM] at hx
  cases hn:newF c g s h with
  | true =>
   rw [hn] at hx
   simp only [zac,List.mem_append,List.mem_cons,List.not_mem_nil,or_false] at hx
   exact hx.imp id fun e=>by rw [e]; exact zjgb hs
  | false =>
   rw [hn] at hx
   simp only [zab] at hx
   have hf:∀ (n:Nat),n≤(zae c).length→∀ x∈(List.range n).foldl (fun h i=>freeM k ((zae c).getD i c0) (g ++ zay c i) s h) h,x∈h∨x.length≤B:=by
    intro n
    induction n with
    | zero=>intro _ x hx; exact .inl hx
    | succ n ihn =>
     intro hle x hx
     rw [List.range_succ,List.foldl_append] at hx
     simp only [List.foldl_cons,List.foldl_nil] at hx
     have hlt:n < (zae c).length:=by omega
     rw [zaq _ _ _ hlt] at hx
     rcases zo1 k _ _ _ _ (zw6 hs _ (List.getElem_mem hlt)) x hx with h1 | h1
     ·exact ihn (by omega) x h1
     ·exact .inr h1
   exact hf _ (Nat.le_refl _) x hx
def szU:List Su→Nat
 | []=>0
 | u :: r=>u.body.size + szU r
theorem zje (a b:List Su):szU (a ++ b)=szU a + szU b:=by
 induction a with
 | nil=>simp [szU]
 | cons x r ih=>simp only [List.cons_append,szU,ih]; omega
def NewU (B:Nat) (t:Tx) (u:Su):Prop:=Shp B u.body∧u.name.length≤t.length + 22∧u.ps.length≤u.body.size∧∀ p∈u.ps,p.length≤B
def Res (B B':Nat) (t:Tx) (z:Bool) (c:Co) (m:List Su) (r:Co × List Su):Prop:=Fl B' z r.1∧r.1.size≤3 * c.size∧szU r.2≤szU m + c.size∧∀ u∈r.2,u∈m∨NewU B t u
section
variable {B B':Nat} {t:Tx}
theorem zps {F:Co→List Su→Co × List Su}:∀ (l:List (Tx × Co)) (m:List Su),(∀ p∈l,∀ m,Res B B' t true p.2 m (F p.2 m)) →
  (∀ q∈(mapB F l m).1,Fl B' true q.2)∧(mapB F l m).1.map Prod.fst=l.map Prod.fst∧szB (mapB F l m).1≤3 * szB l∧szU (mapB F l m).2≤szU m + szB l∧∀ u∈(mapB F l m).2,u∈m∨NewU B t u
 | [],m,_=>⟨fun q hq=>by simp [mapB] at hq,rfl,by simp [mapB,szB],by simp [mapB],fun u hu=>.inl hu⟩
 | (s,c) :: l,m,h=>by
  obtain ⟨a1,a2,a3,a4⟩:=h (s,c) (List.mem_cons_self ..) m
  obtain ⟨b1,b2,b3,b4,b5⟩:=zps l (F c m).2 fun q hq=>h q (List.mem_cons_of_mem _ hq)
  simp only [mapB] at a1 a2 a3 a4 ⊢
  refine ⟨fun q hq=>?_,by simp only [List.map_cons,b2],by simp only [szB]; omega,by simp only [szB]; omega,fun u hu=>?_⟩
  ·rcases List.mem_cons.1 hq with rfl | hq
   ·exact a1
   ·exact b1 q hq
  ·rcases b5 u hu with h1 | h1
   ·exact a4 u h1
   ·exact .inr h1
theorem zhp {z:Bool} {F:Co→List Su→Co × List Su}:∀ (l:List Co) (m:List Su),(∀ p∈l,∀ m,Res B B' t z p m (F p m)) →
  (∀ q∈(mapK F l m).1,Fl B' z q)∧szK (mapK F l m).1≤3 * szK l∧szU (mapK F l m).2≤szU m + szK l∧∀ u∈(mapK F l m).2,u∈m∨NewU B t u
 | [],m,_=>⟨fun q hq=>by simp [mapK] at hq,by simp [mapK,szK],by simp [mapK],fun u hu=>.inl hu⟩
 | c :: l,m,h=>by
  obtain ⟨a1,a2,a3,a4⟩:=h c (List.mem_cons_self ..) m
  obtain ⟨b1,b3,b4,b5⟩:=zhp l (F c m).2 fun q hq=>h q (List.mem_cons_of_mem _ hq)
  simp only [mapK] at a1 a2 a3 a4 ⊢
  refine ⟨fun q hq=>?_,by simp only [szK]; omega,by simp only [szK]; omega,fun u hu=>?_⟩
  ·rcases List.mem_cons.1 hq with rfl | hq
   ·exact a1
   ·exact b1 q hq
  ·rcases b5 u hu with h1 | h1
   ·exact a4 u h1
   ·exact .inr h1
theorem zpr {F:Hd→Co→List Su→Co × List Su}:∀ (l:List (Hd × Co)) (m:List Su),(∀ p∈l,∀ m,Res B B' t false p.2 m (F p.1 p.2 m)) →
  (∀ q∈(mapA F l m).1,Fl B' false q.2)∧(mapA F l m).1.map Prod.fst=l.map Prod.fst∧szA (mapA F l m).1≤3 * szA l∧szU (mapA F l m).2≤szU m + szA l∧∀ u∈(mapA F l m).2,u∈m∨NewU B t u
 | [],m,_=>⟨fun q hq=>by simp [mapA] at hq,rfl,by simp [mapA,szA],by simp [mapA],fun u hu=>.inl hu⟩
 | (s,c) :: l,m,h=>by
  obtain ⟨a1,a2,a3,a4⟩:=h (s,c) (List.mem_cons_self ..) m
  obtain ⟨b1,b2,b3,b4,b5⟩:=zpr l (F s c m).2 fun q hq=>h q (List.mem_cons_of_mem _ hq)
  simp only [mapA] at a1 a2 a3 a4 ⊢
  refine ⟨fun q hq=>?_,by simp only [List.map_cons,b2],by simp only [szA]; omega,by simp only [szA]; omega,fun u hu=>?_⟩
  ·rcases List.mem_cons.1 hq with rfl | hq
   ·exact a1
   ·exact b1 q hq
  ·rcases b5 u hu with h1 | h1
   ·exact a4 u h1
   ·exact .inr h1
theorem zs6 {z:Bool}:∀ (l:List Tx) (c:Co),(∀ z,Fl B' z c)→(∀ x∈l,x.length≤B')→Fl B' z (zdy c l)
 | [],c,h,_=>h z
 | s :: l,c,h,hl=>zs6 l (appC' c (varC s)) (fun z=>.app (by simp) (h true) (.leaf (.inl rfl) ⟨by decide,by decide⟩ (hl s (List.mem_cons_self ..)))) fun x hx=>hl x (List.mem_cons_of_mem _ hx)
theorem zpp {z:Bool} {c:Co} {ar:List Tx} {m:List Su} (hs:Shp B c) (hB:B≤B') (ht:t.length + 22≤B'):Res B B' t z c m (liftM c ar t m):=by
 have hn:(liftN t m).length≤t.length + 22:=by
  have:=zs9 ((m.length:Int) + 1)
  simp only [liftN,List.length_append,List.length_cons,List.length_nil]
  omega
 have hfl:=zkd c.size c [] ar []
 simp only [List.length_nil,Nat.zero_add] at hfl
 have hp:=zck c
 have hnm:∀ x∈freeM c.size c [] ar [],x.length≤B:=fun x hx=>(zo1 _ _ _ _ _ hs x hx).resolve_left (by simp)
 refine ⟨zs6 _ _ (fun z=>.leaf (.inl rfl) ⟨by decide,by decide⟩ (by omega)) fun x hx=>by have:=hnm x hx; omega,?_,?_,fun u hu=>?_⟩
 ·simp only [liftM,zzv,zw7]; omega
 ·simp only [liftM,zje,szU]; omega
 ·simp only [liftM,List.mem_append,List.mem_cons,List.not_mem_nil,or_false] at hu
  exact hu.imp id fun e=>by subst e; exact ⟨hs,hn,hfl,hnm⟩
theorem zol {c:Co} (hs:Shp B c) (hB:B≤B') (ht:t.length + 22≤B'):∀ (z:Bool) (ar:List Tx) (m:List Su),Res B B' t z c m (flM c z ar t m):=by
 induction hs with
 | @leaf f n s hf hn hl =>
  intro z ar m
  cases hli:zdz (.mk f n s [] [] []) z with
  | true =>
   rw [zjs _ _ _ _ _ hli]
   exact zpp (.leaf hf hn hl) hB ht
  | false =>
   rw [zic _ _ _ _ _ hli]
   simp only [co,fB,fK,fA,List.length_nil,List.take_nil,mapB,mapK,mapA]
   refine ⟨?_,by simp only; omega,by simp only; omega,fun u hu=>.inl hu⟩
   rcases hf with rfl | rfl | rfl | rfl
   ·exact .leaf (.inl rfl) hn (by omega)
   ·exact .leaf (.inr (.inl rfl)) hn (by omega)
   ·exact .leaf (.inr (.inr rfl)) hn (by omega)
   ·cases z with
    | true=>cases hli
    | false=>exact .fail
 | @app s a b hl _ _ iha ihb =>
  intro z ar m
  have hli:zdz (.mk 4 0 s [a,b] [] []) z=false:=by cases z <;> rfl
  rw [zic _ _ _ _ _ hli]
  have e:(z || ((4:Int) == 4))=true:=by cases z <;> rfl
  have hk:=zhp (B:=B) (B':=B') (t:=t) (z:=true) (F:=fun x m=>flM x true (ar ++ []) t m) [a,b] m fun p hp m=>by
   simp only [List.mem_cons,List.not_mem_nil,or_false] at hp
   rcases hp with rfl | rfl
   ·exact iha _ _ _
   ·exact ihb _ _ _
  simp only [co,fB,fK,fA,List.length_nil,List.take_nil,mapB,mapA,e,List.map_nil,List.take_length]
  obtain ⟨k1,k2,k3,k4⟩:=hk
  refine ⟨?_,?_,?_,k4⟩
  ·simp only [mapK] at k1 ⊢
   exact .app (by omega) (k1 _ (by simp)) (k1 _ (by simp))
  ·simp only [Co.size,szB,szA] at k2 ⊢; omega
  ·simp only [Co.size,szB,szA] at k3 ⊢; omega
 | @prim s a b hl ha hb iha ihb =>
  intro z ar m
  cases z with
  | true =>
   rw [zjs _ _ _ _ _ rfl]
   exact zpp (.prim hl ha hb) hB ht
  | false =>
   rw [zic _ _ _ _ _ rfl]
   have e:(false || ((10:Int) == 4))=false:=rfl
   have hk:=zhp (B:=B) (B':=B') (t:=t) (z:=false) (F:=fun x m=>flM x false (ar ++ []) t m) [a,b] m fun p hp m=>by
    simp only [List.mem_cons,List.not_mem_nil,or_false] at hp
    rcases hp with rfl | rfl
    ·exact iha _ _ _
    ·exact ihb _ _ _
   simp only [co,fB,fK,fA,List.length_nil,List.take_nil,mapB,mapA,e,List.map_nil,List.take_length]
   obtain ⟨k1,k2,k3,k4⟩:=hk
   refine ⟨?_,?_,?_,k4⟩
   ·simp only [mapK] at k1 ⊢
    exact .prim (by omega) (k1 _ (by simp)) (k1 _ (by simp))
   ·simp only [Co.size,szB,szA] at k2 ⊢; omega
   ·simp only [Co.size,szB,szA] at k3 ⊢; omega
 | @lt s b bs hl hbn hbs hb ihs ihb =>
  intro z ar m
  have hli:zdz (.mk 8 0 s [b] bs []) z=false:=by cases z <;> rfl
  rw [zic _ _ _ _ _ hli]
  have e:(z || ((8:Int) == 4))=z:=by cases z <;> rfl
  obtain ⟨b1,b2,b3,b4,b5⟩:=zps (B:=B) (B':=B') (t:=t) (F:=fun x m=>flM x true (ar ++ bs.map Prod.fst) t m) bs m fun p hp m=>ihs p hp _ _ _
  obtain ⟨k1,k2,k3,k4⟩:=zhp (B:=B) (B':=B') (t:=t) (z:=z) (F:=fun x m=>flM x z (ar ++ bs.map Prod.fst) t m) [b] (mapB (fun x m=>flM x true (ar ++ bs.map Prod.fst) t m) bs m).2 fun p hp m=>by
   simp only [List.mem_cons,List.not_mem_nil,or_false] at hp
   subst hp
   exact ihb _ _ _
  simp only [co,fB,fK,fA,List.length_nil,List.take_nil,mapA,e,List.take_length]
  refine ⟨?_,?_,?_,fun u hu=>?_⟩
  ·simp only [mapK] at k1 ⊢
   refine .lt (by omega) (fun p hp=>?_) b1 (k1 _ (by simp))
   have hm:p.1∈(mapB (fun x m=>flM x true (ar ++ bs.map Prod.fst) t m) bs m).1.map Prod.fst:=List.mem_map.2 ⟨p,hp,rfl⟩
   rw [b2] at hm
   obtain ⟨q,hq,e⟩:=List.mem_map.1 hm
   have:=hbn q hq
   rw [← e]
   omega
  ·simp only [Co.size,szA] at k2 ⊢; omega
  ·simp only [Co.size,szA] at k3 ⊢; omega
  ·rcases k4 u hu with h1 | h1
   ·exact b5 u h1
   ·exact .inr h1
 | @cas s x al hl hal hx hxs ihx ihs =>
  intro z ar m
  cases z with
  | true =>
   rw [zjs _ _ _ _ _ rfl]
   exact zpp (.cas hl hal hx hxs) hB ht
  | false =>
   rw [zic _ _ _ _ _ rfl]
   have e:(false || ((9:Int) == 4))=false:=rfl
   obtain ⟨k1,k2,k3,k4⟩:=zhp (B:=B) (B':=B') (t:=t) (z:=false) (F:=fun x m=>flM x false (ar ++ []) t m) [x] m fun p hp m=>by
    simp only [List.mem_cons,List.not_mem_nil,or_false] at hp
    subst hp
    exact ihx _ _ _
   obtain ⟨a1,a2,a3,a4,a5⟩:=zpr (B:=B) (B':=B') (t:=t) (F:=fun h x m=>flM x false (ar ++ h.vars) t m) al (mapK (fun x m=>flM x false (ar ++ []) t m) [x] m).2 fun p hp m=>ihs p hp _ _ _
   simp only [co,fB,fK,fA,List.length_nil,List.take_nil,mapB,e,List.map_nil,List.take_length]
   refine ⟨?_,?_,?_,fun u hu=>?_⟩
   ·simp only [mapK] at k1 a1 a2 ⊢
    refine .cas (by omega) (fun p hp=>?_) (k1 _ (by simp)) a1
    have hm:p.1∈(mapA (fun h x m=>flM x false (ar ++ h.vars) t m) al (flM x false (ar ++ []) t m).2).1.map Prod.fst:=List.mem_map.2 ⟨p,hp,rfl⟩
    rw [a2] at hm
    obtain ⟨q,hq,e⟩:=List.mem_map.1 hm
    have:=hal q hq
    rw [← e]
    exact ⟨this.1,by omega,fun v hv=>by have:=this.2.2 v hv; omega⟩
   ·simp only [Co.size,szB] at k2 ⊢; omega
   ·simp only [Co.size,szB] at k3 ⊢; omega
   ·rcases a5 u hu with h1 | h1
    ·exact k4 u h1
    ·exact .inr h1
end
theorem zh6b {B B':Nat} {t:Tx} {c:Co} (hs:Shp B c) (hB:B≤B') (ht:t.length + 22≤B') (ar:List Tx) (m:List Su):szU (flM c false ar t m).2 + 1≤szU m + c.size:=by
 have hli:zdz c false=false:=rfl
 rw [zic _ _ _ _ _ hli]
 have hsz:=za2 c
 have hparts:=zw6 hs
 have h1:=(zps (B:=B) (B':=B') (t:=t) (F:=fun x m=>flM x true (ar ++ c.bs.map Prod.fst) t m) c.bs m fun p hp m=>zol (hparts _ (by simp only [zae,List.mem_append,List.mem_map]; exact .inl (.inl ⟨p,hp,rfl⟩))) hB ht _ _ _).2.2.2.1
 have h2:=(zhp (B:=B) (B':=B') (t:=t) (z:=false || (c.f == 4)) (F:=fun x m=>flM x (false || (c.f == 4)) (ar ++ c.bs.map Prod.fst) t m) c.ks (fB c ar t m c.bs.length).2 fun p hp m=>zol (hparts _ (by simp only [zae,List.mem_append]; exact .inl (.inr hp))) hB ht _ _ _).2.2.1
 have h3:=(zpr (B:=B) (B':=B') (t:=t) (F:=fun h x m=>flM x false (ar ++ h.vars) t m) c.al (fK c false ar t (fB c ar t m c.bs.length).2 c.ks.length).2 fun p hp m=>zol (hparts _ (by simp only [zae,List.mem_append,List.mem_map]; exact .inr ⟨p,hp,rfl⟩)) hB ht _ _ _).2.2.2.1
 have e1:fB c ar t m c.bs.length=mapB (fun x m=>flM x true (ar ++ c.bs.map Prod.fst) t m) c.bs m:=by rw [fB,List.take_length]
 have e2:∀ m,fK c false ar t m c.ks.length=mapK (fun x m=>flM x (false || (c.f == 4)) (ar ++ c.bs.map Prod.fst) t m) c.ks m:=fun m=>by rw [fK,List.take_length]
 have e3:∀ m,fA c ar t m c.al.length=mapA (fun h x m=>flM x false (ar ++ h.vars) t m) c.al m:=fun m=>by rw [fA,List.take_length]
 rw [e1] at h2 h3 ⊢
 rw [e2] at h3 ⊢
 simp only [e3]
 omega
end Go.Fu
namespace Go.Fu
open Go Go.Mx
set_option maxRecDepth 10000
def zn8:Tx:=[80,85,83,72,73]
def zii:Tx:=[80,85,83,72,71]
def zn7:Tx:=[80,85,83,72,65]
def sMKAP:Tx:=[77,75,65,80]
def zdg:Tx:=[83,76,73,68,69]
def zrk:Tx:=[65,76,76,79,67]
def zcy:Tx:=[85,80,68,65,84,69]
def kid (c:Co) (i:Nat):Co:=c.ks.getD i c0
def nms (c:Co):List Tx:=c.bs.map Prod.fst
def wsub (a b:Int):Int:=IntKind.i64.wrap (IntKind.i64.wrap (a - 1) - b)
def layW (L:Co→List Tx→List In) (c:Co) (env:List Tx) (i:Nat):List In:=(List.range i).foldl (fun out i=>joinM (joinM out (L (c.bs.getD i ([],c0)).2 (env ++ nms c))) [op1 zcy (wsub c.bs.length i)]) [op1 zrk c.bs.length]
def lazyM:Nat→Co→List Tx→List In
 | 0,_,_=>[]
 | k + 1,c,env=>ifB (c.f == 3) [op1 zn8 c.n] (ifB (c.f == 2) [⟨zii,0,0,c.s⟩] (ifB (c.f == 1) (ifB (decide (lieM env c.s < 0)) [⟨zii,0,0,c.s⟩] [op1 zn7 (wsub env.length (lieM env c.s))])
     (ifB (c.f == 4) (joinM (joinM (lazyM k (kid c 1) env) (lazyM k (kid c 0) (padM env (env.length + 1)))) [op1 sMKAP 0])
      (joinM (joinM (layW (lazyM k) c env c.bs.length) (lazyM k (kid c 0) (env ++ nms c))) [op1 zdg c.bs.length]))))
def lazM (c:Co) (env:List Tx):List In:=lazyM c.size c env
def layM (c:Co) (env:List Tx) (i:Nat):List In:=layW lazM c env i
theorem zhrb (c:Co) (i:Nat) (h:i < c.bs.length):(c.bs.getD i ([],c0)).2.size < c.size:=by
 rw [zaq _ _ _ h]
 have:=zgi c.bs _ (List.getElem_mem h)
 have:=za2 c
 omega
theorem zkf (L:Co→List Tx→List In) (c:Co) (env:List Tx) (i:Nat):layW L c env (i + 1)=joinM (joinM (layW L c env i) (L (c.bs.getD i ([],c0)).2 (env ++ nms c))) [op1 zcy (wsub c.bs.length i)]:=by
 rw [layW,List.range_succ,List.foldl_append]
 rfl
theorem zl5 {L L':Co→List Tx→List In} (c:Co) (env:List Tx) (h:∀ i,i < c.bs.length→∀ e,L (c.bs.getD i ([],c0)).2 e=L' (c.bs.getD i ([],c0)).2 e):∀ i,i≤c.bs.length→layW L c env i=layW L' c env i
 | 0,_=>rfl
 | i + 1,hi=>by rw [zkf,zkf,zl5 c env h i (by omega),h i (by omega)]
theorem zki (k:Nat) (n:Int) (s:Tx) (env:List Tx):lazyM (k + 1) (.mk 3 n s [] [] []) env=[op1 zn8 n]:=rfl
theorem zkh (k:Nat) (n:Int) (s:Tx) (env:List Tx):lazyM (k + 1) (.mk 2 n s [] [] []) env=[⟨zii,0,0,s⟩]:=rfl
theorem zkj (k:Nat) (n:Int) (s:Tx) (env:List Tx):lazyM (k + 1) (.mk 1 n s [] [] []) env=ifB (decide (lieM env s < 0)) [⟨zii,0,0,s⟩] [op1 zn7 (wsub env.length (lieM env s))]:=rfl
theorem zkg (k:Nat) (s:Tx) (a b:Co) (env:List Tx):lazyM (k + 1) (.mk 4 0 s [a,b] [] []) env=joinM (joinM (lazyM k b env) (lazyM k a (padM env (env.length + 1)))) [op1 sMKAP 0]:=rfl
theorem zl6 (k:Nat) (s:Tx) (b:Co) (bs:List (Tx × Co)) (env:List Tx):lazyM (k + 1) (.mk 8 0 s [b] bs []) env=joinM (joinM (layW (lazyM k) (.mk 8 0 s [b] bs []) env bs.length) (lazyM k b (env ++ bs.map Prod.fst))) [op1 zdg bs.length]:=rfl
theorem zS:Small 0:=⟨by decide,by decide⟩
theorem zi5 {B:Nat}:∀ (n:Nat) (c:Co),c.size=n→∀ (z:Bool),Fl B z c→(c.f=1∨c.f=2∨c.f=3∨c.f=4∨c.f=8)→∀ (k k':Nat) (env:List Tx),(z=true∨c.f≠8)→c.size≤k→c.size≤k'→lazyM k c env=lazyM k' c env:=by
 intro n
 induction n using Nat.strongRecOn with
 | ind n ih =>
  intro c hn z hf hform k k' env hz hk hk'
  have hp:=zck c
  obtain ⟨k,rfl⟩:∃ j,k=j + 1:=⟨k - 1,by omega⟩
  obtain ⟨k',rfl⟩:∃ j,k'=j + 1:=⟨k' - 1,by omega⟩
  have hform':∀ {c:Co},Fl B true c→(c.f=1∨c.f=2∨c.f=3∨c.f=4∨c.f=8):=fun h=>by
   cases h with
   | leaf h=>rcases h with rfl | rfl | rfl <;> simp [co]
   | app=>simp [co]
   | lt=>simp [co]
  cases hf with
  | leaf h =>
   rcases h with rfl | rfl | rfl
   ·rw [zkj,zkj]
   ·rw [zkh,zkh]
   ·rw [zki,zki]
  | @app _ s a b _ ha hb =>
   have sa:a.size < (Co.mk 4 0 s [a,b] [] []).size:=by simp only [Co.size,szK]; omega
   have sb:b.size < (Co.mk 4 0 s [a,b] [] []).size:=by simp only [Co.size,szK]; omega
   rw [zkg,zkg,ih _ (by omega) b rfl true hb (hform' hb) k k' _ (.inl rfl) (by omega) (by omega),ih _ (by omega) a rfl true ha (hform' ha) k k' _ (.inl rfl) (by omega) (by omega)]
  | @lt _ s b bs _ _ hbs hb =>
   have hzt:z=true:=hz.resolve_right (fun h=>h rfl)
   subst hzt
   have sb:b.size < (Co.mk 8 0 s [b] bs []).size:=by simp only [Co.size,szK]; omega
   have hl:=zl5 (L:=lazyM k) (L':=lazyM k') (.mk 8 0 s [b] bs []) env (fun i hi e=>by
    have h1:=zhrb (.mk 8 0 s [b] bs []) i hi
    have h2:Fl B true (bs.getD i ([],c0)).2:=by rw [zaq bs i _ hi]; exact hbs _ (List.getElem_mem hi)
    simp only [co] at h1 ⊢
    exact ih _ (by omega) _ rfl true h2 (hform' h2) k k' _ (.inl rfl) (by omega) (by omega)) bs.length (Nat.le_refl _)
   rw [zl6,zl6,hl,ih _ (by omega) b rfl true hb (hform' hb) k k' _ (.inl rfl) (by omega) (by omega)]
  | fail=>simp [co] at hform
  | prim _ _ _=>simp [co] at hform
  | cas _ _ _ _=>simp [co] at hform
theorem zoo {B:Nat} {c:Co} (h:Fl B true c):c.f=1∨c.f=2∨c.f=3∨c.f=4∨c.f=8:=by
 cases h with
 | leaf h=>rcases h with rfl | rfl | rfl <;> simp [co]
 | app=>simp [co]
 | lt=>simp [co]
def GI (B:Nat) (i:In):Prop:=i.op.length≤6∧Small i.n∧Small i.m∧i.name.length≤B
theorem gi_op {B:Nat} {s:Tx} {x:Int} (hs:s.length≤6) (hx:Small x):GI B (op1 s x):=⟨hs,hx,(⟨by decide,by decide⟩:Small 0),by simp [op1]⟩
theorem zhn {B:Nat} {a b:List In} (ha:∀ i∈a,GI B i) (hb:∀ i∈b,GI B i):∀ i∈joinM a b,GI B i:=by
 intro i hi
 simp only [joinM,List.mem_append,List.mem_map] at hi
 rcases hi with h | ⟨x,hx,rfl⟩
 ·exact ha i h
 ·have:=hb x hx
  unfold shI
  cases goesI x.op with
  | true=>exact ⟨this.1,zgh _,this.2.2.1,this.2.2.2⟩
  | false=>exact this
theorem zhf {B:Nat} {x:In} (h:GI B x):∀ i∈[x],GI B i:=fun i hi=>by
 simp only [List.mem_cons,List.not_mem_nil,or_false] at hi
 rw [hi]
 exact h
theorem zcz {k:Nat} (h:k < 1000000000):Small (k:Int):=⟨by omega,by omega⟩
theorem znl {B:Nat} {L:Co→List Tx→List In} (c:Co) (env:List Tx) (hl:c.bs.length < 1000000000) (h:∀ i,i < c.bs.length→∀ e,(∀ x∈L (c.bs.getD i ([],c0)).2 e,GI B x)∧(L (c.bs.getD i ([],c0)).2 e).length≤6 * (c.bs.getD i ([],c0)).2.size) :
  ∀ i,i≤c.bs.length→(∀ x∈layW L c env i,GI B x)∧(layW L c env i).length≤1 + 6 * szB (c.bs.take i)
 | 0,_=>⟨zhf (gi_op (by decide) (zcz hl)),by simp [layW]⟩
 | i + 1,hi=>by
  obtain ⟨h1,h2⟩:=znl c env hl h i (by omega)
  obtain ⟨h3,h4⟩:=h i (by omega) (env ++ nms c)
  rw [zkf]
  refine ⟨zhn (zhn h1 h3) (zhf (gi_op (by decide) (zgh _))),?_⟩
  rw [zbc,zbc,← za9 c.bs i (by omega),zjd]
  have hg:=zaq c.bs i ([],c0) (by omega)
  have hz:szB [c.bs[i]]=c.bs[i].2.size + 1:=by cases c.bs[i]; simp only [szB]; omega
  rw [hg] at h4 ⊢
  rw [hz]
  simp only [List.length_cons,List.length_nil]
  omega
theorem zhg {B:Nat}:∀ (k:Nat) (c:Co) (z:Bool) (env:List Tx),Fl B z c→(z=true∨(c.f=1∨c.f=2∨c.f=3∨c.f=4))→c.size < 100000000→(∀ i∈lazyM k c env,GI B i)∧(lazyM k c env).length≤6 * c.size
 | 0,c,z,env,_,_,_=>⟨fun i hi=>(by cases hi),by simp [lazyM]⟩
 | k + 1,c,z,env,hf,hz,hs=>by
  have hp:=zck c
  have hsz:=za2 c
  cases hf with
  | @leaf _ f n s h hn hl =>
   have hg:GI B ⟨zii,0,0,s⟩:=⟨(by decide:zii.length≤6),zS,zS,hl⟩
   rcases h with rfl | rfl | rfl
   ·rw [zkj]
    cases decide (lieM env s < 0) with
    | true=>exact ⟨zhf hg,by simp only [zac,List.length_cons,List.length_nil]; omega⟩
    | false=>exact ⟨zhf (gi_op (by decide) (zgh _)),by simp only [zab,List.length_cons,List.length_nil]; omega⟩
   ·rw [zkh]
    exact ⟨zhf hg,by simp only [List.length_cons,List.length_nil]; omega⟩
   ·rw [zki]
    exact ⟨zhf (gi_op (by decide) hn),by simp only [List.length_cons,List.length_nil]; omega⟩
  | @app _ s a b _ ha hb =>
   obtain ⟨a1,a2⟩:=zhg k a true (padM env (env.length + 1)) ha (.inl rfl) (by simp only [Co.size,szK] at hs; omega)
   obtain ⟨b1,b2⟩:=zhg k b true env hb (.inl rfl) (by simp only [Co.size,szK] at hs; omega)
   rw [zkg]
   refine ⟨zhn (zhn b1 a1) (zhf (gi_op (by decide) ⟨by decide,by decide⟩)),?_⟩
   rw [zbc,zbc]
   simp only [Co.size,szK,List.length_cons,List.length_nil]
   omega
  | @lt _ s b bs _ _ hbs hb =>
   have hzt:z=true:=hz.resolve_right (by simp [co])
   subst hzt
   have hbl:=zbv bs
   simp only [co] at hsz
   obtain ⟨b1,b2⟩:=zhg k b true (env ++ bs.map Prod.fst) hb (.inl rfl) (by simp only [Co.size,szK] at hs; omega)
   have hlay:=znl (B:=B) (L:=lazyM k) (.mk 8 0 s [b] bs []) env (by simp only [co]; omega) (fun i hi e=>by
    simp only [co] at hi ⊢
    have hm:=zgi bs _ (List.getElem_mem hi)
    rw [zaq bs i _ hi]
    exact zhg k _ true e (hbs _ (List.getElem_mem hi)) (.inl rfl) (by omega)) bs.length (Nat.le_refl _)
   rw [zl6]
   refine ⟨zhn (zhn hlay.1 b1) (zhf (gi_op (by decide) (zcz (by omega)))),?_⟩
   have:=hlay.2
   simp only [co,List.take_length] at this
   rw [zbc,zbc]
   simp only [Co.size,szK,szA,List.length_cons,List.length_nil]
   omega
  | fail=>simp [co] at hz
  | prim _ _ _=>simp [co] at hz
  | cas _ _ _ _=>simp [co] at hz
end Go.Fu
namespace Go.Fu
open Go Go.Mx
set_option maxRecDepth 10000
theorem zilb {B:Nat} {s:Tx} {a b:Co} (env:List Tx) (ha:Fl B true a) (hb:Fl B true b):lazM (.mk 4 0 s [a,b] [] []) env=joinM (joinM (lazM b env) (lazM a (padM env (env.length + 1)))) [op1 sMKAP 0]:=by
 have hz:(Co.mk 4 0 s [a,b] [] []).size=(a.size + b.size) + 1:=by simp only [Co.size,szK,szB,szA]; omega
 rw [lazM,hz,zkg,lazM,lazM,zi5 _ b rfl true hb (zoo hb) _ b.size _ (.inl rfl) (by omega) (by omega),zi5 _ a rfl true ha (zoo ha) _ a.size _ (.inl rfl) (by omega) (by omega)]
theorem zlgb {B:Nat} {s:Tx} {b:Co} {bs:List (Tx × Co)} (env:List Tx) (hbs:∀ p∈bs,Fl B true p.2) (hb:Fl B true b):lazM (.mk 8 0 s [b] bs []) env=joinM (joinM (layM (.mk 8 0 s [b] bs []) env bs.length) (lazM b (env ++ bs.map Prod.fst))) [op1 zdg bs.length]:=by
 have hz:(Co.mk 8 0 s [b] bs []).size=(szB bs + b.size) + 1:=by simp only [Co.size,szK,szA]; omega
 have hl:=zl5 (L:=lazyM (szB bs + b.size)) (L':=lazM) (.mk 8 0 s [b] bs []) env (fun i hi e=>by
  have hi:i < bs.length:=hi
  have h2:Fl B true (bs.getD i ([],c0)).2:=by rw [zaq bs i _ hi]; exact hbs _ (List.getElem_mem hi)
  have hm:(bs.getD i ([],c0)).2.size≤szB bs:=by
   rw [zaq bs i _ hi]
   have:=zgi bs _ (List.getElem_mem hi)
   omega
  exact zi5 _ _ rfl true h2 (zoo h2) _ _ _ (.inl rfl) (by first | omega | (simp only [co]; omega)) (Nat.le_refl _)) bs.length (Nat.le_refl _)
 rw [lazM,hz,zl6,hl,zi5 _ b rfl true hb (zoo hb) _ b.size _ (.inl rfl) (by omega) (by omega)]
 rfl
theorem zinb (n:Int) (s:Tx) (env:List Tx):lazM (.mk 3 n s [] [] []) env=[op1 zn8 n]:=by
 have hz:(Co.mk 3 n s [] [] []).size=0 + 1:=by simp only [Co.size,szK,szB,szA]
 rw [lazM,hz,zki]
theorem zimb (n:Int) (s:Tx) (env:List Tx):lazM (.mk 2 n s [] [] []) env=[⟨zii,0,0,s⟩]:=by
 have hz:(Co.mk 2 n s [] [] []).size=0 + 1:=by simp only [Co.size,szK,szB,szA]
 rw [lazM,hz,zkh]
theorem ziob (n:Int) (s:Tx) (env:List Tx):lazM (.mk 1 n s [] [] []) env=ifB (decide (lieM env s < 0)) [⟨zii,0,0,s⟩] [op1 zn7 (wsub env.length (lieM env s))]:=by
 have hz:(Co.mk 1 n s [] [] []).size=0 + 1:=by simp only [Co.size,szK,szB,szA]
 rw [lazM,hz,zkj]
theorem zf3 {B:Nat} (c:Co) (z:Bool) (env:List Tx) (hf:Fl B z c) (hz:z=true∨(c.f=1∨c.f=2∨c.f=3∨c.f=4)) (hs:c.size < 100000000):(∀ i∈lazM c env,GI B i)∧(lazM c env).length≤6 * c.size:=zhg _ _ _ _ hf hz hs
theorem zke {B:Nat} (c:Co) (env:List Tx) (hbs:∀ p∈c.bs,Fl B true p.2) (hs:c.size < 100000000) (i:Nat) (hi:i≤c.bs.length):(∀ x∈layM c env i,GI B x)∧(layM c env i).length≤1 + 6 * szB (c.bs.take i):=by
 have hsz:=za2 c
 have hb:=zbv c.bs
 refine znl c env (by omega) (fun j hj e=>?_) i hi
 rw [zaq c.bs j _ hj]
 have:=zgi c.bs _ (List.getElem_mem hj)
 exact zf3 _ true e (hbs _ (List.getElem_mem hj)) (.inl rfl) (by omega)
def zsn:List D→Cell→Prop:=fun ds c=>∀ co env,ds=[dCo co,dSs env]→c=⟨false,dIs (lazM co env)⟩
theorem zgx {S:Specs} (hS:aget S n_19=some zsn) (a:Co) (env:List Tx) (hp:OkP n_19 [dCo a,dSs env] ⟨false,dIs (lazM a env)⟩) (n:Nat) (σ:Store):T S (n + 1) n_19 [dCo a,dSs env] σ=some (.ret ⟨false,dIs (lazM a env)⟩,σ):=by
 obtain ⟨c,h1,h2⟩:=T_orc (S:=S) hS rfl (c:=⟨false,dIs (lazM a env)⟩) (fun a' b' e=>by
  simp only [List.cons.injEq,and_true] at e
  rw [zcs e.1,zba e.2]) hp
 rw [h2,h1 a env rfl]
def zxc:List D→Cell→Prop:=fun ds c=>∀ co env,ds=[dCo co,dSs env]→c=⟨false,.tup [dIs (layM co env co.bs.length),dSs (env ++ nms co)]⟩
theorem zpj {S:Specs} (hS:aget S n_47=some zxc) (a:Co) (env:List Tx) (hp:OkP n_47 [dCo a,dSs env] ⟨false,.tup [dIs (layM a env a.bs.length),dSs (env ++ nms a)]⟩) (n:Nat) (σ:Store):T S (n + 1) n_47 [dCo a,dSs env] σ=some (.ret ⟨false,.tup [dIs (layM a env a.bs.length),dSs (env ++ nms a)]⟩,σ):=by
 obtain ⟨c,h1,h2⟩:=T_orc (S:=S) hS rfl (c:=⟨false,.tup [dIs (layM a env a.bs.length),dSs (env ++ nms a)]⟩) (fun a' b' e=>by
  simp only [List.cons.injEq,and_true] at e
  rw [zcs e.1,zba e.2]) hp
 rw [h2,h1 a env rfl]
def SLa:Specs:=[(n_7,sp_op),(n_6,zsq),(n_90,zxe),(n_153,zgxb),(n_25,zgv),(n_3,zh1),(n_19,zsn),(n_47,zxc)]
section
variable {C:CallF} {n:Nat} {σ:Store}
def Ela (c:Co) (env:List Tx) (o:Bool) (i:Nat):Env:={slots:=[(6,⟨false,.int .i64 c.bs.length⟩),(7,⟨false,dSs (env ++ nms c)⟩),(8,⟨o,dIs (layM c env i)⟩),(9,⟨false,.int .i64 i⟩)],locs:=[(2,2,0)],boxes:=[(2,bC c)],defers:=[]}
theorem zleb (c:Co) (env:List Tx) (i:Nat) (h:i < c.bs.length) (hl:c.size < 100000000) (h1:C n_19 [dCo c.bs[i].2,dSs (env ++ nms c)] σ=some (.ret ⟨false,dIs (lazM c.bs[i].2 (env ++ nms c))⟩,σ))
  (h2:C n_6 [dIs (layM c env i),dIs (lazM c.bs[i].2 (env ++ nms c))] σ=some (.ret ⟨false,dIs (joinM (layM c env i) (lazM c.bs[i].2 (env ++ nms c)))⟩,σ)) (h3:C n_7 [.str zcy,.int .i64 (wsub c.bs.length i)] σ=some (.ret ⟨false,dIs [op1 zcy (wsub c.bs.length i)]⟩,σ))
  (h4:C n_6 [dIs (joinM (layM c env i) (lazM c.bs[i].2 (env ++ nms c))),dIs [op1 zcy (wsub c.bs.length i)]] σ=some (.ret ⟨false,dIs (layM c env (i + 1))⟩,σ)):exec C n none a_115 (Ela c env false i) σ=some (.normal,Ela c env false (i + 1),σ):=by
 have hb:=zbv c.bs
 have hsz:=za2 c
 have hi:((i:Int) < (c.bs.length:Int)):=by omega
 have hp:=partB c.bs[i]
 simp only [zcy,wsub] at h3 h4
 simp only [zaf,zaj] at h1 hp
 simp only [a_115,Ela,bC,sA,seval,kn,len_B,hi,natI,idx_B _ i h,agg?_dB,hp,h1,h2,h3,h4,zag (i:=i) (by omega)]
theorem zn4b (c:Co) (env:List Tx):exec C n none a_115 (Ela c env false c.bs.length) σ=some (.exit 0,{Ela c env false c.bs.length with slots:=[(6,⟨false,.int .i64 c.bs.length⟩),(7,⟨false,dSs (env ++ nms c)⟩),(8,⟨false,dIs (layM c env c.bs.length)⟩),(9,⟨false,.int .i64 c.bs.length⟩),(21,⟨false,.bool false⟩)]},σ):=by
 have hi:¬ ((c.bs.length:Int) < (c.bs.length:Int)):=by omega
 simp only [a_115,Ela,bC,sA,seval,kn,hi]
end
theorem zvy {B:Nat} (c:Co) (env:List Tx) (hbs:∀ p∈c.bs,Fl B true p.2) (hl:env.length + c.size < 100000000) (hL:∀ i (hi:i < c.bs.length),OkP n_19 [dCo c.bs[i].2,dSs (env ++ nms c)] ⟨false,dIs (lazM c.bs[i].2 (env ++ nms c))⟩) :
  OkP n_47 [dCo c,dSs env] ⟨false,.tup [dIs (layM c env c.bs.length),dSs (env ++ nms c)]⟩:=by
 have hsz:=za2 c
 have hb:=zbv c.bs
 refine zas (af:=a_176) (n:=c.size + 1) (σ':=σ0) (zav SLa 1) rfl rfl (by simp [zal,za4,zau]) (by simp [noPtr,zal,zdq,zau]) ?_
 have h1:=zi0 (S:=SLa) rfl c (by omega) 0 σ0
 have h2:=zfw (S:=SLa) rfl env (nms c) (by simp [nms]; omega) 0 σ0
 have h3:=zc4 (S:=SLa) rfl zrk c.bs.length 0 σ0
 have hl0:=za6 (body:=exec (T SLa 1) (c.size + 1) none a_115) (Ela c env false) (fun _=>σ0) c.bs.length (r:=_) (fun _ _ h=>by cases h) (fun i hi=>by
  obtain ⟨g1,g2⟩:=zke c env hbs (by omega) i (by omega)
  have ht:=zxn c.bs i hi
  obtain ⟨g3,g4⟩:=zf3 (B:=B) c.bs[i].2 true (env ++ nms c) (hbs _ (List.getElem_mem hi)) (.inl rfl) (by omega)
  have e:joinM (joinM (layM c env i) (lazM c.bs[i].2 (env ++ nms c))) [op1 zcy (wsub c.bs.length i)]=layM c env (i + 1):=by
   rw [layM,layM,zkf,zaq c.bs i _ hi]
  have h4:=zb2 (S:=SLa) rfl (joinM (layM c env i) (lazM c.bs[i].2 (env ++ nms c))) [op1 zcy (wsub c.bs.length i)] (by rw [zbc]; simp; omega) 0 σ0
  rw [e] at h4
  exact zleb c env i hi (by omega) (zgx (S:=SLa) rfl _ _ (hL i hi) 0 σ0) (zb2 (S:=SLa) rfl _ _ (by omega) 0 σ0) (zc4 (S:=SLa) rfl _ _ 0 σ0) h4) (zn4b c env) 0 (c.size + 1) (by omega) (by omega)
 have e0:layM c env 0=[op1 zrk c.bs.length]:=rfl
 have en:c.bs.map Prod.fst=nms c:=rfl
 rw [en] at h1
 simp only [zrk] at h3 e0
 simp only [Ela,bC,zeroI,e0] at hl0
 simp only [zaf,zaj] at h1
 simp only [a_176,sA,seval,kn,zaf,zaj,onel,len_B,h1,h2,h3,hl0]
theorem zekb {B:Nat}:∀ (k:Nat) (c:Co) (z:Bool) (env:List Tx),c.size=k→Fl B z c→(z=true∨(c.f=1∨c.f=2∨c.f=3∨c.f=4))→env.length + c.size < 100000000→OkP n_19 [dCo c,dSs env] ⟨false,dIs (lazM c env)⟩:=by
 intro k
 induction k using Nat.strongRecOn with
 | ind k ih =>
  intro c z env hk hf hz hl
  have mk:∀ {o:Bool},finX Ra (fun _ _ _=>none) a_33 0 (exec (T SLa 1) 1 none a_33.body (zbb [dCo c,dSs env]) σ0)=some (.ret ⟨o,dIs (lazM c env)⟩,σ0)→OkP n_19 [dCo c,dSs env] ⟨false,dIs (lazM c env)⟩:=fun {o} hr =>
   OkP.weak (o:=o) rfl (zas (af:=a_33) (n:=1) (σ':=σ0) (zav SLa 1) rfl rfl (by simp [zal,za4,zau]) (zdq _) hr)
  cases hf with
  | @leaf _ f n s h _ _ =>
   rcases h with rfl | rfl | rfl
   ·have h1:=zhsb (S:=SLa) rfl env s (by omega) 0 σ0
    have hr:=zcyb env s
    rw [ziob] at mk ⊢
    by_cases hlt:lieM env s < 0
    ·simp only [decide_eq_true hlt,zac] at mk ⊢
     refine mk (o:=true) ?_
     simp only [a_33,sA,seval,kn,zaf,zaj,co,onel,h1,hlt]
     rfl
    ·have h2:=zc4 (S:=SLa) rfl zn7 (wsub env.length (lieM env s)) 0 σ0
     simp only [decide_eq_false hlt,zab] at mk ⊢
     refine mk (o:=false) ?_
     simp only [zn7,wsub] at h2 ⊢
     simp only [a_33,sA,seval,kn,zaf,zaj,co,onel,len_S,h1,hlt,h2]
   ·rw [zimb] at mk ⊢
    refine mk (o:=true) ?_
    simp only [a_33,sA,seval,kn,zaf,zaj,co,onel]
    rfl
   ·have h2:=zc4 (S:=SLa) rfl zn8 n 0 σ0
    rw [zinb] at mk ⊢
    refine mk (o:=false) ?_
    simp only [zn8] at h2 ⊢
    simp only [a_33,sA,seval,kn,zaf,zaj,co,onel,h2]
  | @app _ s a b _ ha hb =>
   have hsa:(Co.mk 4 0 s [a,b] [] []).size=1 + a.size + b.size:=by simp only [Co.size,szK,szB,szA]; omega
   have h1:=zgx (S:=SLa) rfl b env (ih _ (by omega) b true env rfl hb (.inl rfl) (by omega)) 0 σ0
   have h2:=zu8 (S:=SLa) rfl env (env.length + 1) (by omega) 0 σ0
   have hpl:(padM env (env.length + 1)).length=env.length + 1:=by simp [padM]
   have h3:=zgx (S:=SLa) rfl a (padM env (env.length + 1)) (ih _ (by omega) a true _ rfl ha (.inl rfl) (by omega)) 0 σ0
   have g1:=(zf3 b true env hb (.inl rfl) (by omega)).2
   have g2:=(zf3 a true (padM env (env.length + 1)) ha (.inl rfl) (by omega)).2
   have h4:=zb2 (S:=SLa) rfl (lazM b env) (lazM a (padM env (env.length + 1))) (by omega) 0 σ0
   have h5:=zc4 (S:=SLa) rfl sMKAP 0 0 σ0
   have h6:=zb2 (S:=SLa) rfl (joinM (lazM b env) (lazM a (padM env (env.length + 1)))) [op1 sMKAP 0] (by rw [zbc]; simp; omega) 0 σ0
   have w:=zag (i:=env.length) (by omega)
   have hx1:za7 10 (dCs [a,b]) 1=some (.eptr (dCo b)):=rfl
   have hx0:za7 10 (dCs [a,b]) 0=some (.eptr (dCo a)):=rfl
   rw [zilb env ha hb] at mk ⊢
   refine mk (o:=false) ?_
   simp only [sMKAP] at h5 h6 ⊢
   simp only [zaf,zaj] at h1 h3 hx1 hx0
   simp only [a_33,sA,seval,kn,zaf,zaj,co,onel,nat0,len_S,w,hx1,hx0,zcc,h1,h2,h3,h4,h5,h6]
  | @lt _ s b bs _ _ hbs hb =>
   have hzt:z=true:=hz.resolve_right (by simp [co])
   subst hzt
   have hsa:(Co.mk 8 0 s [b] bs []).size=1 + b.size + szB bs:=by simp only [Co.size,szK,szA]; omega
   have hbl:=zbv bs
   have hen:nms (.mk 8 0 s [b] bs [])=bs.map Prod.fst:=rfl
   have h1:=zpj (S:=SLa) rfl (.mk 8 0 s [b] bs []) env (zvy (B:=B) _ env hbs (by omega) (fun i hi=>by
    have hi:i < bs.length:=hi
    have hm:=zqe bs _ (List.getElem_mem hi)
    exact ih _ (by first | omega | (simp only [co]; omega)) bs[i].2 true _ rfl (hbs _ (List.getElem_mem hi)) (.inl rfl) (by rw [hen]; simp; omega))) 0 σ0
   rw [hen] at h1
   have h2:=zgx (S:=SLa) rfl b (env ++ bs.map Prod.fst) (ih _ (by omega) b true _ rfl hb (.inl rfl) (by simp; omega)) 0 σ0
   have g1:=(zke (B:=B) (.mk 8 0 s [b] bs []) env hbs (by omega) bs.length (Nat.le_refl _)).2
   simp only [co,List.take_length] at g1
   have g2:=(zf3 b true (env ++ bs.map Prod.fst) hb (.inl rfl) (by omega)).2
   have h3:=zb2 (S:=SLa) rfl (layM (.mk 8 0 s [b] bs []) env bs.length) (lazM b (env ++ bs.map Prod.fst)) (by omega) 0 σ0
   have h4:=zc4 (S:=SLa) rfl zdg bs.length 0 σ0
   have h5:=zb2 (S:=SLa) rfl (joinM (layM (.mk 8 0 s [b] bs []) env bs.length) (lazM b (env ++ bs.map Prod.fst))) [op1 zdg bs.length] (by rw [zbc]; simp; omega) 0 σ0
   have hx0:za7 10 (dCs [b]) 0=some (.eptr (dCo b)):=rfl
   rw [zlgb env hbs hb] at mk ⊢
   refine mk (o:=false) ?_
   simp only [zdg] at h4 h5 ⊢
   simp only [zaf,zaj,co] at h1 h2 hx0
   simp only [a_33,sA,seval,kn,zaf,zaj,co,onel,len_B,nat0,hx0,h1,h2,h3,h4,h5]
  | fail=>simp [co] at hz
  | prim _ _ _=>simp [co] at hz
  | cas _ _ _ _=>simp [co] at hz
end Go.Fu

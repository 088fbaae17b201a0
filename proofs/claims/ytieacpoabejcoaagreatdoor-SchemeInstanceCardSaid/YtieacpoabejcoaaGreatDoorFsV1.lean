/-
 Classes: a world,or what is wrong with it: all of it.
-/
import Derived.Test.YtieacpoabejcoaaGreatDoorFsK6
import Derived.Test.YtieacpoabejcoaaGreatDoorFsJ1
set_option maxHeartbeats 4000000
set_option linter.unusedSimpArgs false
set_option linter.unusedVariables false
set_option linter.unusedSectionVars false
namespace Go.Fu
open Go Go.Mx
set_option maxRecDepth 10000
set_option maxHeartbeats 4000000
theorem enter0 {r:LRec} {e:Env} {σ:Store}:enterLoop none r e σ=some (σ.next + 1,{e with defers:=(yldBase + σ.next,[]) :: e.defers},{σ with oth:=(σ.next + 1,.loop r) :: (σ.next,.dfr) :: σ.oth,next:=σ.next + 2}):=rfl
theorem New_run:∃ N',∀ n,N'≤n→∀ (cs:List Cs) (is:List In) (_:cs.length < 500) (_:∀ x∈cs,x.sups.length < 1000∧x.mets.length≤1000) (_:is.length < 1000) σ,∃ σ',
  (∃ a b:Int,a≠0∧T n n_131 [dPg cs is] σ=some (.ret ⟨false,.tup [.nilp,.agg [.int .i64 a,.int .i64 b]]⟩,σ')) ∨
  (∃ p mc mm es k0,T n n_131 [dPg cs is] σ=some (.ret ⟨false,.tup [.ptr p 0,.agg [.int .i64 0,.int .i64 0]]⟩,σ')∧EV p mc mm (dIl is) es k0 σ'∧p < σ'.next∧mc < σ'.next∧es.length < 500∧∀ y∈es,y.2.1∈cs):=by
 obtain ⟨Na,hcl⟩:=cloneN_run
 obtain ⟨Nb,hrf⟩:=refusals_run
 refine ⟨Na + Nb + 50000,fun n hn cs is hcs hsz his σ=>?_⟩
 obtain ⟨N,rfl⟩:∃ N,n=N + 5:=⟨n - 5,by omega⟩
 generalize hsm:({objs:=σ.objs,tys:=σ.tys,oth:=(σ.next + 1,.map [] 0) :: (σ.next,.map [] 0) :: σ.oth,next:=σ.next + 1 + 1}:Store)=σm
 have nm:σm.next=σ.next + 2:=by rw [← hsm]
 obtain ⟨oC,r0⟩:=hcl (N + 4) (by omega) is σm his
 generalize hs0:({objs:=(σ.next + 3,[⟨false,.ptr σm.next 0⟩]) :: (σm.next,[⟨false,.map σ.next⟩,⟨false,.map (σ.next + 1)⟩,⟨false,dIl is⟩]) :: σm.objs,tys:=(σ.next + 3,⟨t_109,0⟩) :: (σm.next,⟨t_270,0⟩) :: σm.tys,oth:=σm.oth,next:=σ.next + 3 + 1}:Store)=σ0
 have n0:σ0.next=σ.next + 4:=by rw [← hs0]
 have p0:aget σ0.objs (σ.next + 2)=some [⟨false,.map σ.next⟩,⟨false,.map (σ.next + 1)⟩,⟨false,dIl is⟩]:=by
  rw [← hs0,← nm]
  exact (agC _ _ (by omega)).trans (agS _ _ _)
 have b0:aget σ0.objs (σ.next + 3)=some [⟨false,.ptr (σ.next + 2) 0⟩]:=by
  rw [← hs0,← nm]
  exact agS _ _ _
 have m0:aget σ0.oth σ.next=some (.map [] 0):=by
  rw [← hs0]
  show aget σm.oth _=_
  rw [← hsm]
  exact (agC _ _ (by omega)).trans (agS _ _ _)
 have m1:aget σ0.oth (σ.next + 1)=some (.map [] 0):=by
  rw [← hs0]
  show aget σm.oth _=_
  rw [← hsm]
  exact agS _ _ _
 -- the classes by name
 have hB1:=mkBC_run cs (N + 3) σ0
 rw [n0] at hB1
 generalize hs1:GAb σ0 t_108 (dCl cs)=σ1 at hB1
 have n1:σ1.next=σ.next + 5:=by rw [← hs1]; show σ0.next + 1=_; omega
 have o1:∀ j,j < σ.next + 4→aget σ1.objs j=aget σ0.objs j:=fun j hj=>by rw [← hs1]; exact agC _ _ (by omega)
 have w1:aget σ1.objs (σ.next + 4)=some [⟨false,dCl cs⟩]:=by rw [← hs1,← n0]; exact agS _ _ _
 have t1:σ1.oth=σ0.oth:=by rw [← hs1]; rfl
 generalize hs2:({objs:=σ1.objs,tys:=σ1.tys,oth:=(σ1.next + 1,.loop (RC0 (σ.next + 3) (σ.next + 4))) :: (σ1.next,.dfr) :: σ1.oth,next:=σ1.next + 2}:Store)=σ2
 have n2:σ2.next=σ.next + 7:=by rw [← hs2]; show σ1.next + 2=_; omega
 have o2:σ2.objs=σ1.objs:=by rw [← hs2]
 have en1:∀ e:Env,enterLoop none (RC0 (σ.next + 3) (σ.next + 4)) e σ1=some (σ.next + 6,{e with defers:=(yldBase + (σ.next + 5),[]) :: e.defers},σ2):=fun e=>by
  rw [enter0,hs2,n1]
 have J0:N0 σ2 σ.next (σ.next + 6) (RC0 (σ.next + 3) (σ.next + 4)) cs 0 σ2:=by
  refine ⟨rfl,rfl,rfl,?_,⟨[],0,?_,Nat.le_refl _,by simp⟩,fun _ _ _=>rfl⟩
  ·rw [← hs2,show σ.next + 6=σ1.next + 1 by omega]
   exact agS _ _ _
  ·rw [← hs2]
   exact (agC _ _ (by omega)).trans ((agC _ _ (by omega)).trans (by rw [t1]; exact m0))
 have b2:aget σ2.objs (σ.next + 3)=some [⟨false,.ptr (σ.next + 2) 0⟩]:=by rw [o2,o1 _ (by omega)]; exact b0
 have p2:aget σ2.objs (σ.next + 2)=some [⟨false,.map σ.next⟩,⟨false,.map (σ.next + 1)⟩,⟨false,dIl is⟩]:=by rw [o2,o1 _ (by omega)]; exact p0
 obtain ⟨σ3,k1,J3⟩:=backC_run (J:=fun i τ=>N0 σ2 σ.next (σ.next + 6) (RC0 (σ.next + 3) (σ.next + 4)) cs i τ) (b:=σ.next + 4) (c:=σ.next + 6) cs (by omega) (N + 3) (by omega) (fun _ τ hτ=>by rw [hτ.objs,o2]; exact w1)
  (fun i τ hi hτ=>n0_step (by omega) b2 p2 hτ _ (List.getElem_mem _) _ (N + 2)) σ2 J0
 have n3:σ3.next=σ.next + 7:=J3.nx.trans n2
 generalize hs4:({objs:=σ3.objs,tys:=σ3.tys,oth:=adel1 σ3.oth (σ.next + 6),next:=σ3.next}:Store)=σ4
 have el1:∀ e:Env,endLoop (σ.next + 6) e σ3=some (.normal,e,σ4):=fun e=>by
  have l4:loopAt σ3 (σ.next + 6)=some (RC0 (σ.next + 3) (σ.next + 4)):=by simp only [loopAt,J3.rl,bindO,caseO_some]
  rw [← hs4]
  simp only [endLoop,l4,bindO,caseO_some]
  rfl
 have n4:σ4.next=σ.next + 7:=by rw [← hs4]; exact n3
 have o4:σ4.objs=σ2.objs:=by rw [← hs4]; exact J3.objs
 have t4:∀ j,j≠σ.next + 6→aget σ4.oth j=aget σ3.oth j:=fun j hj=>by rw [← hs4]; exact adel_other _ (Ne.symm hj)
 obtain ⟨es,k0,hm3,hl3,hmem⟩:=J3.mp
 -- the methods by name
 have hB2:=mkBC_run cs (N + 3) σ4
 rw [n4] at hB2
 generalize hs5:GAb σ4 t_108 (dCl cs)=σ5 at hB2
 have n5:σ5.next=σ.next + 8:=by rw [← hs5]; show σ4.next + 1=_; omega
 have o5:∀ j,j < σ.next + 7→aget σ5.objs j=aget σ4.objs j:=fun j hj=>by rw [← hs5]; exact agC _ _ (by omega)
 have w5:aget σ5.objs (σ.next + 7)=some [⟨false,dCl cs⟩]:=by rw [← hs5,← n4]; exact agS _ _ _
 have t5:σ5.oth=σ4.oth:=by rw [← hs5]; rfl
 generalize hs6:({objs:=σ5.objs,tys:=σ5.tys,oth:=(σ5.next + 1,.loop (RC2 (σ.next + 3) (σ.next + 7))) :: (σ5.next,.dfr) :: σ5.oth,next:=σ5.next + 2}:Store)=σ6
 have n6:σ6.next=σ.next + 10:=by rw [← hs6]; show σ5.next + 2=_; omega
 have o6:σ6.objs=σ5.objs:=by rw [← hs6]
 have en2:∀ e:Env,enterLoop none (RC2 (σ.next + 3) (σ.next + 7)) e σ5=some (σ.next + 9,{e with defers:=(yldBase + (σ.next + 8),[]) :: e.defers},σ6):=fun e=>by
  rw [enter0,hs6,n5]
 have t6:∀ j,j < σ.next + 8→aget σ6.oth j=aget σ4.oth j:=fun j hj=>by
  rw [← hs6]
  exact (agC _ _ (by omega)).trans ((agC _ _ (by omega)).trans (by rw [t5]))
 have J6:N2 (σ.next + 10) σ6 (σ.next + 1) (σ.next + 9) (RC2 (σ.next + 3) (σ.next + 7)) σ6:=by
  refine ⟨fun _ _=>rfl,fun _ _=>rfl,Nat.le_of_eq n6.symm,?_,⟨[],0,?_⟩,fun _ _ _ _=>rfl⟩
  ·rw [← hs6,show σ.next + 9=σ5.next + 1 by omega]
   exact agS _ _ _
  ·rw [t6 _ (by omega),t4 _ (by omega),J3.ot _ (by omega) (by omega),← hs2]
   exact (agC _ _ (by omega)).trans ((agC _ _ (by omega)).trans (by rw [t1]; exact m1))
 have b6:aget σ6.objs (σ.next + 3)=some [⟨false,.ptr (σ.next + 2) 0⟩]:=by rw [o6,o5 _ (by omega),o4]; exact b2
 have p6:aget σ6.objs (σ.next + 2)=some [⟨false,.map σ.next⟩,⟨false,.map (σ.next + 1)⟩,⟨false,dIl is⟩]:=by rw [o6,o5 _ (by omega),o4]; exact p2
 obtain ⟨σ7,k2,J7⟩:=backC_run (J:=fun _ τ=>N2 (σ.next + 10) σ6 (σ.next + 1) (σ.next + 9) (RC2 (σ.next + 3) (σ.next + 7)) τ) (b:=σ.next + 7) (c:=σ.next + 9) cs (by omega) (N + 3) (by omega) (fun _ τ hτ=>by rw [hτ.fr _ (by omega),o6]; exact w5)
  (fun i τ hi hτ=>n2_step (by omega) (by omega) (by omega) (by omega) (by omega) b6 p6 hτ _ (hsz _ (List.getElem_mem _)).2 _ N (by omega)) σ6 J6
 generalize hs8:({objs:=σ7.objs,tys:=σ7.tys,oth:=adel1 σ7.oth (σ.next + 9),next:=σ7.next}:Store)=σ8
 have el2:∀ e:Env,endLoop (σ.next + 9) e σ7=some (.normal,e,σ8):=fun e=>by
  have l4:loopAt σ7 (σ.next + 9)=some (RC2 (σ.next + 3) (σ.next + 7)):=by simp only [loopAt,J7.rl,bindO,caseO_some]
  rw [← hs8]
  simp only [endLoop,l4,bindO,caseO_some]
  rfl
 have n8:σ.next + 10≤σ8.next:=by rw [← hs8]; exact J7.le
 have o8:∀ j,j < σ.next + 10→aget σ8.objs j=aget σ6.objs j:=fun j hj=>by rw [← hs8]; exact J7.fr j hj
 have t8:∀ j,j < σ.next + 9→j≠σ.next + 1→aget σ8.oth j=aget σ6.oth j:=fun j hj h=>by
  rw [← hs8]
  exact (adel_other _ (by omega)).trans (J7.ot j (by omega) (by omega) h)
 have E8:EV (σ.next + 2) σ.next (σ.next + 1) (dIl is) es k0 σ8:=⟨by rw [o8 _ (by omega)]; exact p6,by rw [t8 _ (by omega) (by omega),t6 _ (by omega),t4 _ (by omega)]; exact hm3⟩
 obtain ⟨out,σ9,lo,rr,g9⟩:=hrf (N + 4) (by omega) cs (by omega) is (by omega) es (by omega) (fun y hy=>(hsz _ (hmem y hy)).1) (σ.next + 2) σ.next (σ.next + 1) k0 σ8 (by omega) (by omega) E8
 have E9:=E8.keep g9 (by omega) (by omega)
 have b9:aget σ9.objs (σ.next + 3)=some [⟨false,.ptr (σ.next + 2) 0⟩]:=by rw [g9.objs _ (by omega) id,o8 _ (by omega)]; exact b6
 have b8:aget σ8.objs (σ.next + 3)=some [⟨false,.ptr (σ.next + 2) 0⟩]:=by rw [o8 _ (by omega)]; exact b6
 have d1:aget σ9.oth (σ.next + 8)=some .dfr:=by
  rw [g9.oth _ (by omega),t8 _ (by omega) (by omega),← hs6,← n5]
  exact (agC _ _ (by omega)).trans (agS _ _ _)
 have d2:aget σ9.oth (σ.next + 5)=some .dfr:=by
  rw [g9.oth _ (by omega),t8 _ (by omega) (by omega),t6 _ (by omega),t4 _ (by omega),J3.ot _ (by omega) (by omega),← hs2,← n1]
  exact (agC _ _ (by omega)).trans (agS _ _ _)
 have d3:aget (adel1 σ9.oth (σ.next + 8)) (σ.next + 5)=some .dfr:=by rw [aget_adel1,if_neg (by omega)]; exact d2
 have hY1:isY (yldBase + (σ.next + 8))=true:=Nat.ble_eq_true_of_le (by omega)
 have hY2:isY (yldBase + (σ.next + 5))=true:=Nat.ble_eq_true_of_le (by omega)
 have s1:yldBase + (σ.next + 8) - yldBase=σ.next + 8:=Nat.add_sub_cancel_left _ _
 have s2:yldBase + (σ.next + 5) - yldBase=σ.next + 5:=Nat.add_sub_cancel_left _ _
 generalize hsF:({objs:=aset σ9.objs (σ.next + 3) [⟨false,.ptr (σ.next + 2) 0⟩],tys:=σ9.tys,oth:=adel1 (adel1 σ9.oth (σ.next + 8)) (σ.next + 5),next:=σ9.next}:Store)=σF
 have EF:EV (σ.next + 2) σ.next (σ.next + 1) (dIl is) es k0 σF:=⟨by rw [← hsF]; exact (agB _ _ (by omega)).trans E9.obj,by
  rw [← hsF]
  exact (adel_other _ (by omega)).trans ((adel_other _ (by omega)).trans E9.map)⟩
 have nF:σF.next=σ9.next:=by rw [← hsF]
 have n9:=g9.le
 obtain ⟨ea,eb,r3⟩:=l3_run (m:=N + 4) (σ.next + 3) [(yldBase + (σ.next + 8),[]),(yldBase + (σ.next + 5),[])] out (by omega) σ9 out.length (N + 4) 0 0 0 (by omega) (by omega)
 have e1:=one_dCl cs
 have e2:=one_dIl is
 have e3:(dIl is).ok=true:=ok_dlist
 have e4:(dIl is).cells=[dIl is]:=cells_dlist
 have hlo:=len_At out
 have hfn1:D.fnF? (fnBC (σ.next + 4))=some (n_139,[],[.ptr (σ.next + 4) 0]):=rfl
 have hfn2:D.fnF? (fnBC (σ.next + 7))=some (n_139,[],[.ptr (σ.next + 7) 0]):=rfl
 have nm3:σm.next + 1=σ.next + 3:=by omega
 simp only [RC0,asg0] at en1
 simp only [RC2,asg2] at en2
 simp only [E3,zeroI] at r3
 unfold dPg at rr ⊢
 cases hea:ea == 0 with
 | true =>
  have hne:(ea != 0)=false:=by rw [bne,hea]; rfl
  refine ⟨σF,.inr ⟨σ.next + 2,σ.next,σ.next + 1,es,k0,?_,EF,by omega,by omega,by omega,hmem⟩⟩
  rw [T_fun (af:=a_74) rfl rfl]
  simp only [a_74,sA,seval,kn,memE,memOp,hsm,e1,e2,e3,e4,r0,nm3,hs0,hB1,exec_rangeF,snap,hfn1,hfn2,en1,k1,rangeX_ret,el1,hB2,en2,k2,el2,b8,b9,rr,hlo,r3,hne,hY1,hY2,s1,s2,d1,d3,hsF]
 | false =>
  have hne:(ea != 0)=true:=by rw [bne,hea]; rfl
  refine ⟨{objs:=σ9.objs,tys:=σ9.tys,oth:=adel1 (adel1 σ9.oth (σ.next + 8)) (σ.next + 5),next:=σ9.next},.inl ⟨ea,eb,by simpa using hea,?_⟩⟩
  rw [T_fun (af:=a_74) rfl rfl]
  simp only [a_74,sA,seval,kn,memE,memOp,hsm,e1,e2,e3,e4,r0,nm3,hs0,hB1,exec_rangeF,snap,hfn1,hfn2,en1,k1,rangeX_ret,el1,hB2,en2,k2,el2,b8,b9,rr,hlo,r3,hne,hY1,hY2,s1,s2,d1,d3]
end Go.Fu
namespace Go.Fu
open Go Go.Mx
set_option maxRecDepth 10000
set_option maxHeartbeats 4000000
def Smalls' (xs:List Int):Prop:=∀ x∈xs,Small x
theorem pick11_run:Evly fun n=>∀ (d:D) (xs:List Int) (a:Nat) σ,Row d xs→Smalls' xs→∃ v:Nat,v < 9223372036854775808∧T n n_103 [d,.int .i64 a] σ=some (.ret ⟨false,.int .i64 v⟩,σ):=any _ fun n d xs a σ h hs=>by
 have hlen:=row_len h
 by_cases ha:a < xs.length
 ·have hx:=row_get h a ha
  have hsm:=hs xs[a] (List.getElem_mem ha)
  have hg:¬ ((a:Int) ≥ (xs.length:Int)):=by omega
  generalize xs[a]=x at *
  unfold Small at hsm
  by_cases h0:x < 0
  ·refine ⟨(-(x + 1)).toNat,by omega,?_⟩
   have w1:IntKind.i64.wrap (x + 1)=x + 1:=wrap64 (by omega) (by omega)
   have w2:IntKind.i64.wrap (0 - (x + 1))=(((-(x + 1)).toNat:Nat):Int):=by rw [wrap64 (by omega) (by omega)]; omega
   rw [T_fun (af:=a_46) rfl rfl]
   simp only [a_46,sA,seval,kn,natI,hlen,hg,hx,h0,w1,w2]
  ·refine ⟨x.toNat,by omega,?_⟩
   have w2:((x.toNat:Nat):Int)=x:=by omega
   rw [T_fun (af:=a_46) rfl rfl,w2]
   simp only [a_46,sA,seval,kn,natI,hlen,hg,hx,h0]
 ·refine ⟨0,by omega,?_⟩
  have hg:((a:Int) ≥ (xs.length:Int)):=by omega
  rw [T_fun (af:=a_46) rfl rfl]
  simp only [a_46,sA,seval,kn,natI,hlen,hg,zeroI]
theorem pC0 {nm v:Tx} {a:Int} {x y z:D}:Mx.part none [.str nm,.int .i64 a,.str v,x,y,z] 0=some (.str nm):=rfl
theorem pC2 {nm v:Tx} {a:Int} {x y z:D}:Mx.part none [.str nm,.int .i64 a,.str v,x,y,z] 2=some (.str v):=rfl
def nmL5:List Tx:=[[65],[66],[67],[68],[69]]
def nms3:List Tx:=[[73,110,116],[66,111,111,108],[76]]
theorem names11_run:Evly fun n=>∀ σ,T n n_136 [] σ=some (.ret ⟨false,.tup [dSs nmL5,dSs nms3]⟩,σ):=any _ fun n σ=>by
 have e1:dSs nmL5=.list k_0 [.str [65],.str [66],.str [67],.str [68],.str [69]]:=rfl
 have e2:dSs nms3=.list k_0 [.str [73,110,116],.str [66,111,111,108],.str [76]]:=rfl
 rw [T_fun (af:=a_85) rfl rfl,e1,e2]
 simp only [a_85,sA,seval,kn]
section
variable {C:CallF} {n:Nat} {σ:Store}
def zI6:List Cell:=[⟨false,.str []⟩,⟨false,.int .i64 0⟩,⟨false,.str []⟩,⟨false,.nils⟩,⟨false,.nils⟩,⟨false,.nils⟩]
def bPg (cs:List Cs) (is:List In):List Cell:=[⟨false,.nils⟩,⟨false,dCl cs⟩,⟨false,dIl is⟩,⟨false,.nils⟩]
def Ek1 (cs:List Cs) (is:List In) (s:Tx) (i:Nat):Env:={slots:=[(1,⟨false,.str s⟩),(6,⟨false,.int .i64 i⟩)],locs:=[(2,2,0),(4,4,0)],boxes:=[(2,bPg cs is),(4,zI6)],defers:=[]}
theorem k1_step (cs:List Cs) (is:List In) (s:Tx) (i:Nat) (h:i < cs.length) (hl:cs.length < 500) (hn:(cs[i].name == s)=false):exec C n none a_43 (Ek1 cs is s i) σ=some (.normal,Ek1 cs is s (i + 1),σ):=by
 have hi:((i:Int) < (cs.length:Int)):=by omega
 have hx:=idx_Cs cs i h
 have hlc:=len_Cs cs
 have w1:=wrap64_succ (i:=i) (by omega)
 generalize cs[i]=c at *
 simp only [dCs,cCs] at hx
 simp only [a_43,Ek1,bPg,zI6,sA,seval,kn,natI,hlc,hi,hx,pC0,pC2,hn,w1]
theorem k1_stop (cs:List Cs) (is:List In) (s:Tx) (i:Nat) (h:i < cs.length) (hl:cs.length < 500) (hn:(cs[i].name == s)=true):exec C n none a_43 (Ek1 cs is s i) σ=some (.ret,{slots:=[(5,⟨false,.bool true⟩)],locs:=[(4,4,0)],boxes:=[(4,(cCs cs[i]).map Cell.of)],defers:=[]},σ):=by
 have hi:((i:Int) < (cs.length:Int)):=by omega
 have hx:=idx_Cs cs i h
 have hlc:=len_Cs cs
 have e1:=one_dSs cs[i].sups
 have e2:=one_dMs cs[i].mets
 generalize cs[i]=c at *
 simp only [dCs,cCs] at hx
 simp only [a_43,Ek1,bPg,zI6,cCs,List.map_cons,List.map_nil,Cell.of,sA,seval,kn,natI,hlc,hi,hx,pC0,pC2,hn,e1,e2]
theorem k1_end (cs:List Cs) (is:List In) (s:Tx):exec C n none a_43 (Ek1 cs is s cs.length) σ=some (.exit 0,{slots:=[(1,⟨false,.str s⟩),(6,⟨false,.int .i64 cs.length⟩),(11,⟨false,.bool false⟩)],locs:=[(2,2,0),(4,4,0)],boxes:=[(2,bPg cs is),(4,zI6)],defers:=[]},σ):=by
 have hi:¬ ((cs.length:Int) < (cs.length:Int)):=by omega
 have hlc:=len_Cs cs
 simp only [a_43,Ek1,bPg,zI6,sA,seval,kn,hlc,hi]
end
def isN (s:Tx) (cs:List Cs) (i:Nat):Bool:=match cs[i]? with
 | some x=>!(x.name == s)
 | none=>true
theorem isN_get {s:Tx} {l:List Cs} {i:Nat} (h:i < l.length):isN s l i=!(l[i].name == s):=by simp [isN,h]
theorem class11_run:Evly fun n=>∀ (cs:List Cs) (is:List In) (s:Tx) σ,cs.length < 500→(∃ c∈cs,c.name=s∧T n n_199 [dPg cs is,.str s] σ=some (.ret ⟨false,.tup [dCs c,.bool true]⟩,σ))∨T n n_199 [dPg cs is,.str s] σ=some (.ret ⟨false,.tup [.agg zC,.bool false]⟩,σ) :=
 (any (fun _=>True) fun _=>trivial).step 600 fun m hm _ cs is s σ hl=>by
 have hloop:=loopN_until (body:=exec (T m) m none a_43) (Ek1 cs is s) (fun _=>σ) cs.length (isN s cs) (stop:=fun i=>(.ret,{slots:=[(5,⟨false,.bool true⟩)],locs:=[(4,4,0)],boxes:=[(4,match cs[i]? with | some c=>(cCs c).map Cell.of | none=>[])],defers:=[]},σ)) (fun _ _ h=>by cases h) (fun _ _ _ h=>by cases h)
  (fun i hi hp=>k1_step cs is s i hi hl (by rw [isN_get hi] at hp; simpa using hp)) (fun i hi hp=>by
   have:=k1_stop (C:=T m) (n:=m) (σ:=σ) cs is s i hi hl (by rw [isN_get hi] at hp; simpa using hp)
   rw [this,List.getElem?_eq_getElem hi]) (k1_end cs is s) m 0 (by omega) (by omega)
 have e1:=one_dCl cs
 have e2:=one_dIl is
 rcases hloop with ⟨i,_,hi,hp,hb2,hrest⟩ | ⟨hp,hrest⟩
 ·left
  rw [isN_get hi] at hp
  refine ⟨cs[i],List.getElem_mem hi,by simpa using hp,?_⟩
  have e3:=one_dSs cs[i].sups
  have e4:=one_dMs cs[i].mets
  simp only [List.getElem?_eq_getElem hi] at hrest
  generalize cs[i]=c at *
  simp only [Ek1,bPg,zI6,cCs,List.map_cons,List.map_nil,Cell.of,zeroI] at hrest
  rw [T_fun (af:=a_80) rfl rfl]
  simp only [a_80,dPg,dCs,cCs,sA,seval,kn,e1,e2,e3,e4,hrest]
 ·right
  simp only [Ek1,bPg,zI6,zeroI] at hrest
  rw [T_fun (af:=a_80) rfl rfl]
  simp only [a_80,dPg,zC,sA,seval,kn,e1,e2,hrest]
section
variable {C:CallF} {n:Nat} {σ:Store}
def Ek2 (l:List Tx) (s:Tx) (i:Nat):Env:={slots:=[(0,⟨false,dSs l⟩),(1,⟨false,.str s⟩),(5,⟨false,.int .i64 i⟩)],locs:=[],boxes:=[],defers:=[]}
theorem k2_step (l:List Tx) (s:Tx) (i:Nat) (h:i < l.length) (hl:l.length < 1000) (hn:(l[i] == s)=false):exec C n none a_44 (Ek2 l s i) σ=some (.normal,Ek2 l s (i + 1),σ):=by
 have hi:((i:Int) < (l.length:Int)):=by omega
 have hx:indexD 1 (dSs l) i=_:=idx_S l i h
 have hlc:lenOf (dSs l)=some l.length:=by simp only [dSs,lenOf_dlist,List.length_map]
 have w1:=wrap64_succ (i:=i) (by omega)
 simp only [a_44,Ek2,sA,seval,kn,natI,hlc,hi,hx,pC0,pC2,hn,w1]
theorem k2_stop (l:List Tx) (s:Tx) (i:Nat) (h:i < l.length) (hl:l.length < 1000) (hn:(l[i] == s)=true):exec C n none a_44 (Ek2 l s i) σ=some (.ret,{slots:=[(4,⟨false,.bool true⟩)],locs:=[],boxes:=[],defers:=[]},σ):=by
 have hi:((i:Int) < (l.length:Int)):=by omega
 have hx:indexD 1 (dSs l) i=_:=idx_S l i h
 have hlc:lenOf (dSs l)=some l.length:=by simp only [dSs,lenOf_dlist,List.length_map]
 simp only [a_44,Ek2,sA,seval,kn,natI,hlc,hi,hx,pC0,pC2,hn]
theorem k2_end (l:List Tx) (s:Tx):exec C n none a_44 (Ek2 l s l.length) σ=some (.exit 0,{slots:=[(0,⟨false,dSs l⟩),(1,⟨false,.str s⟩),(5,⟨false,.int .i64 l.length⟩),(9,⟨false,.bool false⟩)],locs:=[],boxes:=[],defers:=[]},σ):=by
 have hi:¬ ((l.length:Int) < (l.length:Int)):=by omega
 have hlc:lenOf (dSs l)=some l.length:=by simp only [dSs,lenOf_dlist,List.length_map]
 simp only [a_44,Ek2,sA,seval,kn,hlc,hi]
end
def isM (s:Tx) (l:List Tx) (i:Nat):Bool:=match l[i]? with
 | some x=>!(x == s)
 | none=>true
theorem isM_get {s:Tx} {l:List Tx} {i:Nat} (h:i < l.length):isM s l i=!(l[i] == s):=by simp [isM,h]
theorem in11_run:Evly fun n=>∀ (l:List Tx) (s:Tx) σ,l.length < 1000→∃ b:Bool,(b=false→s ∉ l)∧T n n_252 [dSs l,.str s] σ=some (.ret ⟨false,.bool b⟩,σ) :=
 (any (fun _=>True) fun _=>trivial).step 1100 fun m hm _ l s σ hl=>by
 have hloop:=loopN_until (body:=exec (T m) m none a_44) (Ek2 l s) (fun _=>σ) l.length (isM s l) (stop:=fun i=>(.ret,{slots:=[(4,⟨false,.bool true⟩)],locs:=[],boxes:=[],defers:=[]},σ)) (fun _ _ h=>by cases h) (fun _ _ _ h=>by cases h)
  (fun i hi hp=>k2_step l s i hi hl (by rw [isM_get hi] at hp; simpa using hp)) (fun i hi hp=>k2_stop l s i hi hl (by rw [isM_get hi] at hp; simpa using hp)) (k2_end l s) m 0 (by omega) (by omega)
 rcases hloop with ⟨i,_,hi,hp,hb2,hrest⟩ | ⟨hp,hrest⟩
 ·refine ⟨true,fun h=>(by cases h),?_⟩
  simp only [Ek2,zeroI] at hrest
  rw [T_fun (af:=a_81) rfl rfl]
  simp only [a_81,sA,seval,kn,hrest]
 ·refine ⟨false,fun _ hm=>?_,?_⟩
  ·obtain ⟨i,hi,he⟩:=List.getElem_of_mem hm
   have h1:=hp i (Nat.zero_le _) hi
   rw [isM_get hi] at h1
   simp [he] at h1
  ·simp only [Ek2,zeroI] at hrest
   rw [T_fun (af:=a_81) rfl rfl]
   simp only [a_81,sA,seval,kn,hrest]
section
variable {C:CallF} {n:Nat} {σ:Store}
def Ek3 (cs:List Cs) (is:List In) (s t:Tx) (i:Nat):Env:={slots:=[(1,⟨false,.str s⟩),(2,⟨false,.str t⟩),(8,⟨false,.int .i64 i⟩)],locs:=[(3,3,0)],boxes:=[(3,bPg cs is)],defers:=[]}
theorem k3_step (cs:List Cs) (is:List In) (s t:Tx) (i:Nat) (h:i < is.length) (hl:is.length < 1000) (hn:isI s t is[i]=false):exec C n none a_32 (Ek3 cs is s t i) σ=some (.normal,Ek3 cs is s t (i + 1),σ):=by
 have hi:((i:Int) < (is.length:Int)):=by omega
 have hx:=idx_In is i h
 have hlc:=len_In is
 have w1:=wrap64_succ (i:=i) (by omega)
 generalize is[i]=x at *
 unfold isI at hn
 simp only [dIn,cIn] at hx
 cases h1:x.cls == s with
 | false=>simp only [a_32,Ek3,bPg,sA,seval,kn,natI,hlc,hi,hx,pC0,pC2,h1,w1]
 | true =>
  rw [h1,Bool.true_and] at hn
  simp only [a_32,Ek3,bPg,sA,seval,kn,natI,hlc,hi,hx,pC0,pC2,h1,hn,w1]
theorem k3_stop (cs:List Cs) (is:List In) (s t:Tx) (i:Nat) (h:i < is.length) (hl:is.length < 1000) (hn:isI s t is[i]=true):exec C n none a_32 (Ek3 cs is s t i) σ=some (.ret,{slots:=[(6,⟨false,.int .i64 i⟩),(7,⟨false,.bool true⟩)],locs:=[],boxes:=[],defers:=[]},σ):=by
 have hi:((i:Int) < (is.length:Int)):=by omega
 have hx:=idx_In is i h
 have hlc:=len_In is
 generalize is[i]=x at *
 unfold isI at hn
 simp only [dIn,cIn] at hx
 rw [Bool.and_eq_true] at hn
 simp only [a_32,Ek3,bPg,sA,seval,kn,natI,hlc,hi,hx,pC0,pC2,hn.1,hn.2]
theorem k3_end (cs:List Cs) (is:List In) (s t:Tx):exec C n none a_32 (Ek3 cs is s t is.length) σ=some (.exit 0,{slots:=[(1,⟨false,.str s⟩),(2,⟨false,.str t⟩),(8,⟨false,.int .i64 is.length⟩),(13,⟨false,.bool false⟩)],locs:=[(3,3,0)],boxes:=[(3,bPg cs is)],defers:=[]},σ):=by
 have hi:¬ ((is.length:Int) < (is.length:Int)):=by omega
 have hlc:=len_In is
 simp only [a_32,Ek3,bPg,sA,seval,kn,hlc,hi]
end
theorem inst11_run:Evly fun n=>∀ (cs:List Cs) (is:List In) (s t:Tx) σ,is.length < 1000→∃ (k:Int) (b:Bool),T n n_68 [dPg cs is,.str s,.str t] σ=some (.ret ⟨false,.tup [.int .i64 k,.bool b]⟩,σ) :=
 (any (fun _=>True) fun _=>trivial).step 1100 fun m hm _ cs is s t σ hl=>by
 have hloop:=loopN_until (body:=exec (T m) m none a_32) (Ek3 cs is s t) (fun _=>σ) is.length (noI s t is) (stop:=fun i=>(.ret,{slots:=[(6,⟨false,.int .i64 i⟩),(7,⟨false,.bool true⟩)],locs:=[],boxes:=[],defers:=[]},σ)) (fun _ _ h=>by cases h) (fun _ _ _ h=>by cases h)
  (fun i hi hp=>k3_step cs is s t i hi hl (by rw [noI_get hi] at hp; simpa using hp)) (fun i hi hp=>k3_stop cs is s t i hi hl (by rw [noI_get hi] at hp; simpa using hp)) (k3_end cs is s t) m 0 (by omega) (by omega)
 have e1:=one_dCl cs
 have e2:=one_dIl is
 rcases hloop with ⟨i,_,hi,hp,hb2,hrest⟩ | ⟨hp,hrest⟩
 ·refine ⟨i,true,?_⟩
  simp only [Ek3,bPg,zeroI] at hrest
  rw [T_fun (af:=a_82) rfl rfl]
  simp only [a_82,dPg,sA,seval,kn,e1,e2,hrest]
 ·refine ⟨0,false,?_⟩
  simp only [Ek3,bPg,zeroI] at hrest
  rw [T_fun (af:=a_82) rfl rfl]
  simp only [a_82,dPg,sA,seval,kn,e1,e2,hrest]
end Go.Fu
namespace Go.Fu
open Go Go.Mx
set_option maxRecDepth 10000
set_option maxHeartbeats 4000000
section
variable {C:CallF} {n:Nat} {σ:Store}
def Eal (cs:List Cs) (is:List In) (c:Cs) (more:Int) (o:Bool) (told:List Tx) (k:Nat):Env:={slots:=[(2,⟨o,dSs told⟩),(3,⟨false,.int .i64 more⟩),(12,⟨false,.int .i64 k⟩)],locs:=[(4,4,0),(9,9,0)],boxes:=[(4,bPg cs is),(9,(cCs c).map Cell.of)],defers:=[]}
theorem al_step (cs:List Cs) (is:List In) (c:Cs) (j:Nat) (hj:j < 1000) (o o':Bool) (told l:List Tx) (k:Nat) (h:k < c.sups.length) (hl:c.sups.length < 1000) (hc:C n_102 [dPg cs is,.str c.sups[k],dSs told,.int .i64 j] σ=some (.ret ⟨o',dSs l⟩,σ)) :
  exec C n none a_86 (Eal cs is c ((j + 1:Nat):Int) o told k) σ=some (.normal,Eal cs is c ((j + 1:Nat):Int) o' l (k + 1),σ):=by
 have hi:((k:Int) < (c.sups.length:Int)):=by omega
 have hx:indexD 1 (dSs c.sups) k=_:=idx_S c.sups k h
 have hlc:lenOf (dSs c.sups)=some c.sups.length:=by simp only [dSs,lenOf_dlist,List.length_map]
 have w1:=wrap64_succ (i:=k) (by omega)
 have w2:IntKind.i64.wrap (((j + 1:Nat):Int) - 1)=(j:Int):=by rw [wrap64 (by omega) (by omega)]; omega
 have e1:=one_dCl cs
 have e2:=one_dIl is
 simp only [dPg] at hc
 simp only [a_86,Eal,bPg,cCs,List.map_cons,List.map_nil,Cell.of,sA,seval,kn,natI,hlc,hi,hx,w1,w2,e1,e2,hc]
theorem al_end (cs:List Cs) (is:List In) (c:Cs) (more:Int) (o:Bool) (told:List Tx):exec C n none a_86 (Eal cs is c more o told c.sups.length) σ=some (.exit 0,{slots:=[(2,⟨o,dSs told⟩),(3,⟨false,.int .i64 more⟩),(12,⟨false,.int .i64 c.sups.length⟩),(41,⟨false,.bool false⟩)],locs:=[(4,4,0),(9,9,0)],boxes:=[(4,bPg cs is),(9,(cCs c).map Cell.of)],defers:=[]},σ):=by
 have hi:¬ ((c.sups.length:Int) < (c.sups.length:Int)):=by omega
 have hlc:lenOf (dSs c.sups)=some c.sups.length:=by simp only [dSs,lenOf_dlist,List.length_map]
 simp only [a_86,Eal,bPg,cCs,List.map_cons,List.map_nil,Cell.of,sA,seval,kn,hlc,hi]
end
def Nm (cs:List Cs) (l:List Tx):Prop:=l.Nodup∧∀ t∈l,t∈cs.map Cs.name
theorem Nm.len {cs:List Cs} {l:List Tx} (h:Nm cs l):l.length≤cs.length:=by
 have:=nodup_len h.1 h.2
 simpa using this
theorem al_loop {m:Nat} (cs:List Cs) (is:List In) (c:Cs) (hl:c.sups.length < 1000) (j:Nat) (hj:j < 1000) (σ:Store) (hc:∀ s told,Nm cs told→∃ o l,Nm cs l∧T m n_102 [dPg cs is,.str s,dSs told,.int .i64 j] σ=some (.ret ⟨o,dSs l⟩,σ)) :
  ∀ (r k i:Nat) (o:Bool) (told:List Tx),i + r=c.sups.length→r < k→Nm cs told→∃ o' l,Nm cs l∧loopN (exec (T m) m none a_86) k (Eal cs is c ((j + 1:Nat):Int) o told i) σ=some (.exit 0,{slots:=[(2,⟨o',dSs l⟩),(3,⟨false,.int .i64 ((j + 1:Nat):Int)⟩),(12,⟨false,.int .i64 c.sups.length⟩),(41,⟨false,.bool false⟩)],locs:=[(4,4,0),(9,9,0)],boxes:=[(4,bPg cs is),(9,(cCs c).map Cell.of)],defers:=[]},σ)
 | _,0,_,_,_,_,hk,_=>absurd hk (by omega)
 | 0,k + 1,i,o,told,hi,_,ht=>by
  have:i=c.sups.length:=by omega
  subst this
  exact ⟨o,told,ht,loopN_stop (al_end cs is c _ o told)⟩
 | r + 1,k + 1,i,o,told,hi,hk,ht=>by
  obtain ⟨o1,l1,n1,h1⟩:=hc (c.sups[i]'(by omega)) told ht
  obtain ⟨o2,l2,n2,h2⟩:=al_loop cs is c hl j hj σ hc r k (i + 1) o1 l1 (by omega) (by omega) n1
  exact ⟨o2,l2,n2,loopN_next (al_step cs is c j hj o o1 told l1 i (by omega) hl h1) h2⟩
theorem above11:∀ more:Nat,more < 1000→Evly fun n=>∀ (cs:List Cs) (_:cs.length < 500) (_:∀ c∈cs,c.sups.length < 1000) (is:List In) (s:Tx) (told:List Tx) σ,Nm cs told→∃ o l,Nm cs l∧T n n_102 [dPg cs is,.str s,dSs told,.int .i64 more] σ=some (.ret ⟨o,dSs l⟩,σ):=by
 intro more
 induction more with
 | zero =>
  intro _
  refine (class11_run.and in11_run).step 0 fun m _ h cs hcs hsz is s told σ ht=>?_
  obtain ⟨b,_,hb⟩:=h.2 told s σ (by have:=ht.len; omega)
  refine ⟨false,told,ht,?_⟩
  have e1:=one_dCl cs
  have e2:=one_dIl is
  rcases h.1 cs is s σ hcs with ⟨c,hc,_,h1⟩ | h1
  ·have e3:=one_dSs c.sups
   have e4:=one_dMs c.mets
   simp only [dPg,dCs,cCs] at h1 ⊢
   rw [T_fun (af:=a_21) rfl rfl]
   cases b <;> simp only [a_21,sA,seval,kn,e1,e2,e3,e4,h1,hb,zeroI]
  ·simp only [dPg,zC] at h1 ⊢
   rw [T_fun (af:=a_21) rfl rfl]
   cases b <;> simp only [a_21,sA,seval,kn,e1,e2,h1,hb,zeroI]
 | succ j ih =>
  intro hj
  refine ((class11_run.and in11_run).and (ih (by omega))).step 1100 fun m hm h cs hcs hsz is s told σ ht=>?_
  have hlen:=ht.len
  obtain ⟨b,hbn,hb⟩:=h.1.2 told s σ (by omega)
  have e1:=one_dCl cs
  have e2:=one_dIl is
  rcases h.1.1 cs is s σ hcs with ⟨c,hc,hcn,h1⟩ | h1
  ·have e3:=one_dSs c.sups
   have e4:=one_dMs c.mets
   cases b with
   | true =>
    refine ⟨false,told,ht,?_⟩
    simp only [dPg,dCs,cCs] at h1 ⊢
    rw [T_fun (af:=a_21) rfl rfl]
    simp only [a_21,sA,seval,kn,e1,e2,e3,e4,h1,hb]
   | false =>
    have hN:Nm cs (told ++ [s]):=by
     refine ⟨List.nodup_append.2 ⟨ht.1,by simp,fun a ha b hb=>by
      rw [List.mem_singleton.1 hb]
      exact fun e=>hbn rfl (e ▸ ha)⟩,fun t htm=>?_⟩
     rcases List.mem_append.1 htm with htm | htm
     ·exact ht.2 t htm
     ·rw [List.mem_singleton.1 htm,← hcn]
      exact List.mem_map_of_mem hc
    obtain ⟨o,l,nl,hloop⟩:=al_loop (m:=m) cs is c (hsz c hc) j (by omega) σ (fun s told ht=>h.2 cs hcs hsz is s told σ ht) c.sups.length m 0 true (told ++ [s]) (by omega) (by have:=hsz c hc; omega) hN
    refine ⟨o,l,nl,?_⟩
    have h0:(((j + 1:Nat):Int) == 0)=false:=by simp; omega
    have ha1:appendD k_0 16 ⟨false,.nils⟩ (told.map D.str)=some ⟨true,dSs told⟩:=by
     have:=append_more (r:=k_0) (by_:=16) (es:=[]) (ys:=told.map D.str) (o:=false) (fun h=>absurd rfl h) (by
      intro d hd
      obtain ⟨v,_,rfl⟩:=List.mem_map.1 hd
      exact ⟨rfl,rfl⟩) (by simp [bound]; omega) (by simp [bound]; omega)
     simp only [dlist_nil,List.nil_append] at this
     exact this
    have hal:asList (dSs told)=some (told.map D.str):=by
     unfold dSs
     cases told <;> rfl
    have ha2:appendD k_0 16 ⟨true,dSs told⟩ [.str s]=some ⟨true,dSs (told ++ [s])⟩:=append_S told s true (fun _=>rfl) (by omega)
    simp only [Eal,bPg,cCs,List.map_cons,List.map_nil,Cell.of,zeroI] at hloop
    simp only [dPg,dCs,cCs] at h1 ⊢
    rw [T_fun (af:=a_21) rfl rfl]
    simp only [a_21,sA,seval,kn,e1,e2,e3,e4,h1,hb,h0,hal,ha1,ha2,hloop]
  ·refine ⟨false,told,ht,?_⟩
   simp only [dPg,zC] at h1 ⊢
   rw [T_fun (af:=a_21) rfl rfl]
   cases b <;> simp only [a_21,sA,seval,kn,e1,e2,h1,hb]
theorem above11s:∀ K:Nat,K < 1000→Evly fun n=>∀ more:Nat,more < K→∀ (cs:List Cs) (_:cs.length < 500) (_:∀ c∈cs,c.sups.length < 1000) (is:List In) (s:Tx) (told:List Tx) σ,Nm cs told→∃ o l,Nm cs l∧T n n_102 [dPg cs is,.str s,dSs told,.int .i64 more] σ=some (.ret ⟨o,dSs l⟩,σ)
 | 0,_=>any _ fun _ more h=>absurd h (by omega)
 | K + 1,hK=>((above11s K (by omega)).and (above11 K (by omega))).mono fun n h more hm=>by
  by_cases e:more=K
  ·subst e; exact h.2
  ·exact h.1 more (by omega)
theorem Above11:Evly fun n=>∀ (cs:List Cs) (_:cs.length < 100) (_:∀ c∈cs,c.sups.length < 1000) (is:List In) (s:Tx) σ,∃ o l,Nm cs l∧T n n_135 [dPg cs is,.str s] σ=some (.ret ⟨o,dSs l⟩,σ) :=
 (above11s 200 (by omega)).step 0 fun m _ h cs hcs hsz is s σ=>by
 obtain ⟨o,l,nl,h1⟩:=h (cs.length + 1) (by omega) cs (by omega) hsz is s [] σ ⟨List.nodup_nil,by simp⟩
 refine ⟨o,l,nl,?_⟩
 have e1:=one_dCl cs
 have e2:=one_dIl is
 have hlc:=len_Cs cs
 have w1:=wrap64_succ (i:=cs.length) (by omega)
 have z0:dSs []=.nils:=rfl
 rw [z0] at h1
 simp only [dPg] at h1 ⊢
 rw [T_fun (af:=a_158) rfl rfl]
 simp only [a_158,sA,seval,kn,e1,e2,hlc,w1,h1]
end Go.Fu

/-
 Alternatives that are made: the walk.
-/
import Derived.Test.YtldfbnbckiifeaaGreatDoorFgBd
import Derived.Test.YtldfbnbckiifeaaGreatDoorFgCodeC
set_option maxHeartbeats 4000000
set_option linter.unusedSimpArgs false
set_option linter.unusedVariables false
set_option linter.unusedSectionVars false
namespace Go.Fu
open Go Go.Mx
set_option maxRecDepth 10000
section
variable {C:dQ} {n:Nat} {σ:Store}
set_option maxHeartbeats 8000000 in
theorem zb0b (d:D) (ns:List Tx) (deep N0:Nat) (al:List (Hd × Co)) (j k v j':Nat) (c:Co) (hk:k < N0 % 4) (hN:N0 < 9223372036854775808) (hv:v < 9223372036854775808) (hj:j < 1000000) (hd:deep < 1000) (hal:al.length < 100) (hne:al≠[]→ow k=true)
  (h1:C uM [d,.int .i64 j] σ=some (.ret ⟨false,.int .i64 v⟩,σ))
  (h2:C n_9 [dSs ns,dSs (rV v).vars] σ=some (.ret ⟨false,dSs (ns ++ (rV v).vars)⟩,σ))
  (h3:C n_7 [d,.int .i64 (j + 1:Nat),dSs (ns ++ (rV v).vars),.int .i64 deep] σ=some (.ret ⟨false,.tup [dCo c,.int .i64 j']⟩,σ)) :
  exec C n none Ic (Ecs d ns deep N0 al j k) σ=some (.normal,Ecs d ns deep N0 (al ++ [(rV v,c)]) j' (k + 1),σ):=by
 have tN:((N0:Int)).tmod 4=((N0 % 4:Nat):Int):=mP N0 4
 have hlt:((k:Int) < ((N0 % 4:Nat):Int)):=by omega
 have hl5:((FL.length:Nat):Int)=5:=rfl
 have t5:((v:Int)).tmod 5=((v % 5:Nat):Int):=mP v 5
 have d8:((v:Int)).tdiv 8=((v / 8:Nat):Int):=Tq v 8
 have w8:IntKind.i64.wrap ((v / 8:Nat):Int)=((v / 8:Nat):Int):=lV (by omega) (by omega)
 have t3:(((v / 8:Nat):Int)).tmod 3=((v / 8 % 3:Nat):Int):=mP _ 3
 have d24:((v:Int)).tdiv 24=((v / 24:Nat):Int):=Tq v 24
 have w24:IntKind.i64.wrap ((v / 24:Nat):Int)=((v / 24:Nat):Int):=lV (by omega) (by omega)
 have t2:(((v / 24:Nat):Int)).tmod 2=((v / 24 % 2:Nat):Int):=mP _ 2
 have t25:(((v / 24:Nat):Int)).tmod 5=((v / 24 % 5:Nat):Int):=mP _ 5
 have w25:IntKind.i64.wrap (((v / 24 % 5:Nat):Int) - 2)=((v / 24 % 5:Nat):Int) - 2:=lV (by omega) (by omega)
 have wj:=dV (i:=j) (by omega)
 have wk:=dV (i:=k) (by omega)
 have wd:IntKind.i64.wrap (((deep + 1:Nat):Int) - 1)=(deep:Int):=by rw [lV (by omega) (by omega)]; omega
 have hj5:v % 5 < FL.length:=Nat.mod_lt _ (by decide)
 have hx:=Rx FL (v % 5) hj5
 have hFm:=zh4 _ (aX hj5)
 have hgd:=eY FL (v % 5) f0 hj5
 have ha:=zaqb al (rV v,c) (ow k) hne (by omega)
 have hdA:=Rt (rV v,c)
 rw [hdA] at ha
 unfold rV at h2 h3 ha ⊢
 rw [hgd] at h2 h3 ha ⊢
 generalize FL[v % 5]=f at hx hFm h2 h3 ha
 have hq:v / 8 % 3=0∨v / 8 % 3=1∨v / 8 % 3=2:=by omega
 have hp:v / 24 % 2=0∨v / 24 % 2=1:=by omega
 have ap0:gC k_0 16 ⟨false,.nils⟩ []=some ⟨true,.nils⟩:=Ro [] false (by decide)
 have ap1:gC k_0 16 ⟨false,.nils⟩ [.str [117]]=some ⟨true,.list k_0 [.str [117]]⟩:=Ro [[117]] false (by decide)
 have ap2:gC k_0 16 ⟨false,.nils⟩ [.str [117],.str [118]]=some ⟨true,.list k_0 [.str [117],.str [118]]⟩:=Ro [[117],[118]] false (by decide)
 simp only [dF] at hx
 have p0:Mx.part none [.str f.name,.int .i64 f.tag,.int .i64 f.many,.int .i64 f.arity,.int .i64 0,.int .i64 0,.str [],.nils] 0=some (.str f.name):=rfl
 have p3:Mx.part none [.str f.name,.int .i64 f.tag,.int .i64 f.many,.int .i64 f.arity,.int .i64 0,.int .i64 0,.str [],.nils] 3=some (.int .i64 f.arity):=rfl
 simp only [fC,iC] at h3 ha
 have s0:rI 1 (.list k_0 [.str [117],.str [118]]) 0 (some 0)=some (.list k_0 []):=rfl
 have s1:rI 1 (.list k_0 [.str [117],.str [118]]) 0 (some 1)=some (.list k_0 [.str [117]]):=rfl
 have s2:rI 1 (.list k_0 [.str [117],.str [118]]) 0 (some 2)=some (.list k_0 [.str [117],.str [118]]):=rfl
 have tk1:([[117],[118]]:List Tx).take (1:Int).toNat=[[117]]:=rfl
 have tk2:([[117],[118]]:List Tx).take (2:Int).toNat=[[117],[118]]:=rfl
 have tk0:([[117],[118]]:List Tx).take (0:Int).toNat=[]:=rfl
 have en0:dSs []=.nils:=rfl
 have en1:dSs [[117]]=.list k_0 [.str [117]]:=rfl
 have en2:dSs [[117],[118]]=.list k_0 [.str [117],.str [118]]:=rfl
 have b01:(((0:Nat):Int) == 1)=false:=rfl
 have b02:(((0:Nat):Int) == 2)=false:=rfl
 have b11:(((1:Nat):Int) == 1)=true:=rfl
 have b12:(((1:Nat):Int) == 2)=false:=rfl
 have b21:(((2:Nat):Int) == 1)=false:=rfl
 have b22:(((2:Nat):Int) == 2)=true:=rfl
 rcases hq with q | q | q
 ·rw [if_neg (by omega),if_neg (by omega)] at h2 h3 ha ⊢
  simp only at h2 h3 ha ⊢
  rcases hFm.2.2.2 with e | e | e
  all_goals
   rw [e] at hx p0 p3 h2 h3 ha
   simp only [e,tk0,tk1,tk2,en0,en1,en2,bP] at h2 h3 ha ⊢
   simp only [Ic,Ecs,sA,seval,kn,tN,hlt,h1,tY,hl5,t5,fL,zro,zjz,zj0,hx,p0,p3,s0,s1,s2,ap0,ap1,ap2,d8,w8,t3,q,b01,b02,wj,wd,h2,h3,ha,wk,nV,okl,mE,jW,pR,kK]
 ·rw [if_pos q] at h2 h3 ha ⊢
  simp only at h2 h3 ha ⊢
  rcases hFm.2.2.2 with e | e | e
  all_goals
   rw [e] at hx p0 p3
   simp only [en0,eR,bP] at h2 h3 ha ⊢
   simp only [Ic,Ecs,sA,seval,kn,tN,hlt,h1,tY,hl5,t5,fL,zro,zjz,zj0,hx,p0,p3,s0,s1,s2,ap0,ap1,ap2,d8,w8,t3,d24,w24,t25,w25,t2,q,b11,b12,wj,wd,h2,h3,ha,wk,nV,okl,mE,jW,pR,kK]
 ·rw [if_neg (by omega)] at h2 h3 ha ⊢
  rcases hp with p | p
  ·rw [if_neg (by omega)] at h2 h3 ha ⊢
   simp only at h2 h3 ha ⊢
   rcases hFm.2.2.2 with e | e | e
   all_goals
    rw [e] at hx p0 p3 h2 h3 ha
    simp only [e,tk0,tk1,tk2,en0,en1,en2,bP] at h2 h3 ha ⊢
    simp only [Ic,Ecs,sA,seval,kn,tN,hlt,h1,tY,hl5,t5,fL,zro,zjz,zj0,hx,p0,p3,s0,s1,s2,ap0,ap1,ap2,d8,w8,t3,d24,w24,t2,q,p,b21,b22,b01,wj,wd,h2,h3,ha,wk,nV,okl,mE,jW,pR,kK]
  ·rw [if_pos ⟨q,p⟩] at h2 h3 ha ⊢
   simp only at h2 h3 ha ⊢
   rcases hFm.2.2.2 with e | e | e
   all_goals
    rw [e] at hx p0 p3
    simp only [en0,eR,bP] at h2 h3 ha ⊢
    simp only [Ic,Ecs,sA,seval,kn,tN,hlt,h1,tY,hl5,t5,fL,zro,zjz,zj0,hx,p0,p3,s0,s1,s2,ap0,ap1,ap2,d8,w8,t3,d24,w24,t25,w25,t2,q,p,b11,b21,b22,wj,wd,h2,h3,ha,wk,nV,okl,mE,jW,pR,kK]
end
end Go.Fu
namespace Go.Fu
open Go Go.Mx
set_option maxRecDepth 10000
section
variable {C:dQ} {n:Nat} {σ:Store}
theorem zeyb (d:D) (ns:List Tx) (deep N0:Nat) (al:List (Hd × Co)) (j:Nat):exec C n none Ic (Ecs d ns deep N0 al j (N0 % 4)) σ=some (.exit 0,{Ecs d ns deep N0 al j (N0 % 4) with slots:=[(0,⟨false,d⟩),(1,⟨false,.int .i64 j⟩),(2,⟨false,dSs ns⟩),(3,⟨false,.int .i64 (deep + 1:Nat)⟩),(10,⟨false,.int .i64 N0⟩),(11,⟨false,dFs FL⟩),(12,⟨ow (N0 % 4),dAl al⟩),(13,⟨false,.int .i64 (N0 % 4:Nat)⟩),(28,⟨false,.bool false⟩)]},σ):=by
 have tN:((N0:Int)).tmod 4=((N0 % 4:Nat):Int):=mP N0 4
 have hlt:¬ (((N0 % 4:Nat):Int) < ((N0 % 4:Nat):Int)):=by omega
 simp only [Ic,Ecs,sA,seval,kn,tN,hlt]
end
theorem zu8 (l:List (Hd × Co)):eT (dAl l)=true:=by rw [dAl,mC]; exact lN zx5 l
def AlP (ns:List Tx) (deep:Nat) (al:List (Hd × Co)):Prop:=∀ a∈al,zh6 a.1∧a.1.name.length≤5∧(∀ s∈a.1.vars,Nv s)∧Good (ns ++ a.1.vars) a.2∧mR a.2∧hgt a.2≤deep + 1
def zwm (ns:List Tx) (deep i:Nat) (al:List (Hd × Co)) (j:Nat):Prop:=AlP ns deep al∧szA al≤3 * (szT deep + 3)∧j≤i + 1 + 3 * (1 + szN deep)
def SCa (d:D) (xs:List Int) (deep:Nat):eD:=[(uM,zau d xs),(wU,vD),(n_9,Re),(n_7,zsc d deep)]
theorem Dv {d:D} {xs:List Int} (hR:IR d xs) {deep:Nat} (hT:Dt d deep) (hd:deep < 1000) (i:Nat) (ns:List Tx) (h0:ns≠[]) (hl:ns.length + 2 * (deep + 1)≤100) (h5:∀ s∈ns,Nv s) (hi:i + 1 + 3 * (1 + szN deep)≤1000000) :
  ∃ al j,OkP Zo [d,.int .i64 i,dSs ns,.int .i64 (deep + 1:Nat)] ⟨false,.tup [dAl al,.int .i64 (j:Nat)]⟩∧zwm ns deep i al j:=by
 have hp:=nY (S:=SCa d xs deep) rfl hR i (by omega) 0 σ0
 have hF:=Ez (S:=SCa d xs deep) rfl 0 σ0
 have hv:=sV hR.small i
 generalize gX xs i=N0 at hp hv
 have hN4:N0 % 4 < 4:=Nat.mod_lt _ (by decide)
 obtain ⟨r,hr,al,j,rfl,q1,q2,q3,q4⟩:=uX (body:=exec (T (SCa d xs deep) 1) 5 none Ic)
  (fun k e σ=>σ=σ0∧∃ al j,e=Ecs d ns deep N0 al j k∧AlP ns deep al∧al.length=k∧szA al≤k * (szT deep + 3)∧j≤i + 1 + k * (1 + szN deep))
  (fun r=>∃ al j,r=(.exit 0,{Ecs d ns deep N0 al j (N0 % 4) with slots:=[(0,⟨false,d⟩),(1,⟨false,.int .i64 j⟩),(2,⟨false,dSs ns⟩),(3,⟨false,.int .i64 (deep + 1:Nat)⟩),(10,⟨false,.int .i64 N0⟩),(11,⟨false,dFs FL⟩),(12,⟨ow (N0 % 4),dAl al⟩),(13,⟨false,.int .i64 (N0 % 4:Nat)⟩),(28,⟨false,.bool false⟩)]},σ0)∧AlP ns deep al∧al.length=N0 % 4∧szA al≤(N0 % 4) * (szT deep + 3)∧j≤i + 1 + (N0 % 4) * (1 + szN deep)) (N0 % 4)
  (fun k e σ hk ⟨hσ,al,j,he,p1,p2,p3,p4⟩=>by
   subst hσ he
   have hkm:(k + 1) * (1 + szN deep)≤3 * (1 + szN deep):=Nat.mul_le_mul_right _ (by omega)
   rw [Nat.succ_mul] at hkm
   have h1:=nY (S:=SCa d xs deep) rfl hR j (by omega) 0 σ0
   have hv1:=sV hR.small j
   generalize gX xs j=v at h1 hv1
   obtain ⟨g1,g2,g3,g4⟩:=zxo v
   have h2:=zp4 (S:=SCa d xs deep) rfl ns (rV v).vars (by omega) 0 σ0
   obtain ⟨c,j',⟨t1,t2,t3,t4,t5⟩,h3⟩:=sY (S:=SCa d xs deep) rfl hT (j + 1) (ns ++ (rV v).vars) ⟨by simp [h0],by rw [aF]; omega,fun s hs=>by
    rcases bJ.1 hs with h | h
    ·exact h5 s h
    ·exact g3 s h,by omega⟩
   refine ⟨_,_,zb0b d ns deep N0 al j k v j' c hk hv hv1 (by omega) hd (by omega) (fun h=>?_) h1 h2 (h3 0 σ0),rfl,_,_,rfl,fun a ha=>?_,by simp; omega,?_,?_⟩
   ·cases k with
    | zero=>exact absurd (aR.1 p2) h
    | succ k=>rfl
   ·rcases bJ.1 ha with h | h
    ·exact p1 a h
    ·rw [bO.1 h]
     exact ⟨g1,g2,g3,t1,t2,t4⟩
   ·rw [zsn,Nat.succ_mul]
    simp only [szA]
    omega
   ·rw [Nat.succ_mul]; omega)
  (fun e σ ⟨hσ,al,j,he,p1,p2,p3,p4⟩=>by
   subst hσ he
   exact ⟨_,zeyb d ns deep N0 al j,fun _ _ h=>(by cases h),al,j,rfl,p1,p2,p3,p4⟩) 0 5 (Ecs d ns deep N0 [] (i + 1) 0) σ0 (by omega) (by omega)
  ⟨rfl,_,_,rfl,(fun a h=>by cases h),rfl,by simp [szA],by omega⟩
 have hm1:(N0 % 4) * (szT deep + 3)≤3 * (szT deep + 3):=Nat.mul_le_mul_right _ (by omega)
 have hm2:(N0 % 4) * (1 + szN deep)≤3 * (1 + szN deep):=Nat.mul_le_mul_right _ (by omega)
 refine ⟨al,j,hU (af:=zgp) (n:=5) (σ':=σ0) (iT (SCa d xs deep) 1) rfl rfl (by simp [eB,hR.np,eT,fQ]) (by simp [eT,eB,zu8]) ?_,q1,by omega,by omega⟩
 have wi:=dV (i:=i) (by omega)
 have e0:ow 0=false:=rfl
 have e1:dAl []=.nils:=rfl
 simp only [Ecs,eR,e0,e1] at hr
 simp only [zgp,sA,seval,kn,hp,hF,wi,hr]
end Go.Fu
namespace Go.Fu
open Go Go.Mx
set_option maxRecDepth 10000
def spLf:List D→Cell→Prop:=fun ds c=>∀ (v:Nat) ns,ds=[.int .i64 v,dSs ns]→∃ co,c=⟨false,dCo co⟩∧Good ns co∧mR co∧co.size=1∧hgt co=1
theorem zbpb {S:eD} (hS:dE S Td=some spLf) (v:Nat) (hv:v < 9223372036854775808) (ns:List Tx) (h0:ns≠[]) (hn:ns.length < 1000) (h5:∀ s∈ns,Nv s):∃ co,(Good ns co∧mR co∧co.size=1∧hgt co=1)∧∀ n σ,T S (n + 1) Td [.int .i64 v,dSs ns] σ=some (.ret ⟨false,dCo co⟩,σ):=by
 obtain ⟨co,h1,h2⟩:=zcxb v hv ns h0 hn h5
 obtain ⟨c,h3,h4⟩:=mX (S:=S) hS rfl (c:=⟨false,dCo co⟩) (fun v' ns' e=>by
  simp only [aL,D.int.injEq,true_and,and_true] at e
  obtain rfl:=jT e.2
  exact ⟨co,rfl,h2⟩) h1
 obtain ⟨co',rfl,h5⟩:=h3 v ns rfl
 exact ⟨co',h5,h4⟩
def spCa (d:D) (deep:Nat):List D→Cell→Prop:=fun ds c=>∀ (i:Nat) ns,ds=[d,.int .i64 i,dSs ns,.int .i64 (deep + 1:Nat)]→∃ al j,c=⟨false,.tup [dAl al,.int .i64 (j:Nat)]⟩∧zwm ns deep i al j
theorem zbob {S:eD} {d:D} {xs:List Int} {deep:Nat} (hS:dE S Zo=some (spCa d deep)) (hR:IR d xs) (hT:Dt d deep) (hd:deep < 1000) (i:Nat) (ns:List Tx) (h0:ns≠[]) (hl:ns.length + 2 * (deep + 1)≤100) (h5:∀ s∈ns,Nv s) (hi:i + 1 + 3 * (1 + szN deep)≤1000000) :
  ∃ al j,zwm ns deep i al j∧∀ n σ,T S (n + 1) Zo [d,.int .i64 i,dSs ns,.int .i64 (deep + 1:Nat)] σ=some (.ret ⟨false,.tup [dAl al,.int .i64 (j:Nat)]⟩,σ):=by
 obtain ⟨al,j,h1,h2⟩:=Dv hR hT hd i ns h0 hl h5 hi
 obtain ⟨c,h3,h4⟩:=mX (S:=S) hS rfl (c:=⟨false,.tup [dAl al,.int .i64 (j:Nat)]⟩) (fun i' ns' e=>by
  simp only [aL,D.int.injEq,true_and,and_true] at e
  obtain rfl:i=i':=by omega
  obtain rfl:=jT e.2
  exact ⟨al,j,rfl,h2⟩) h1
 obtain ⟨al',j',rfl,h5⟩:=h3 i ns rfl
 exact ⟨al',j',h5,h4⟩
def STm (d:D) (xs:List Int) (deep:Nat):eD:=[(uM,zau d xs),(Td,spLf),(n_9,Re),(n_7,zsc d deep),(Zo,spCa d deep)]
theorem zd7b:∀ d,1≤szT d
 | 0=>by simp [szT]
 | d + 1=>by simp only [szT]; omega
theorem zd6b:∀ d,1≤szN d
 | 0=>by simp [szN]
 | d + 1=>by simp only [szN]; omega
theorem zph {d:D} {xs:List Int} (hR:IR d xs) (deep i:Nat) (ns:List Tx) (hp:PT ns deep i) (hc:deep=0∨gX xs i % 8 < 2) (hd:deep < 1000) :
  ∃ co j,OkP n_7 [d,.int .i64 i,dSs ns,.int .i64 deep] ⟨false,.tup [dCo co,.int .i64 (j:Nat)]⟩∧Hy ns deep i co j:=by
 obtain ⟨h0,hl,h5,hi⟩:=hp
 have h1:=nY (S:=STm d xs 0) rfl hR i (by omega) 0 σ0
 have hv:=sV hR.small i
 generalize gX xs i=v at h1 hv hc
 obtain ⟨co,⟨g1,g2,g3,g4⟩,h2⟩:=zbpb (S:=STm d xs 0) rfl (v / 8) (by omega) ns h0 (by omega) h5
 have h2:=h2 0 σ0
 have d8:((v:Int)).tdiv 8=((v / 8:Nat):Int):=Tq v 8
 have w8:IntKind.i64.wrap ((v / 8:Nat):Int)=((v / 8:Nat):Int):=lV (by omega) (by omega)
 have t8:((v:Int)).tmod 8=((v % 8:Nat):Int):=mP v 8
 have wi:=dV (i:=i) (by omega)
 have hN:=zd6b deep
 have hT:=zd7b deep
 refine ⟨co,i + 1,hU (af:=vK) (n:=1) (σ':=σ0) (iT (STm d xs 0) 1) rfl rfl (by simp [eB,hR.np,eT,fQ]) (by simp [eT,eB,jH]) ?_,g1,g2,by omega,by omega,by omega⟩
 simp only [fC,iC] at h2 ⊢
 by_cases hd0:deep=0
 ·subst hd0
  have hle:(((0:Nat):Int)≤0):=by omega
  simp only [vK,sA,seval,kn,h1,wi,hle,d8,w8,h2,nV,okl,mE]
 ·have hle:¬ ((deep:Int)≤0):=by omega
  have hlt:(((v % 8:Nat):Int) < 2):=by omega
  simp only [vK,sA,seval,kn,h1,wi,hle,t8,hlt,d8,w8,h2,nV,okl,mE]
end Go.Fu
namespace Go.Fu
open Go Go.Mx
set_option maxRecDepth 10000
set_option maxHeartbeats 4000000
theorem zun {m:Nat}:∀ l:List (Tx × Co),(∀ x∈l,hgt x.2≤m)→hgB l≤m
 | [],_=>by simp [hgB]
 | (s,y) :: r,h=>by
  have h1:=h (s,y) (by simp)
  have h2:=zun r fun x hx=>h x (aI _ hx)
  simp only [hgB] at h1 ⊢
  omega
theorem zul {m:Nat}:∀ l:List (Hd × Co),(∀ x∈l,hgt x.2≤m)→hgA l≤m
 | [],_=>by simp [hgA]
 | (s,y) :: r,h=>by
  have h1:=h (s,y) (by simp)
  have h2:=zul r fun x hx=>h x (aI _ hx)
  simp only [hgA] at h1 ⊢
  omega
theorem yN {D:Nat} (h:D < 1000):IntKind.i64.wrap (((D + 1:Nat):Int) - 1)=(D:Int):=by rw [lV (by omega) (by omega)]; omega
theorem za5 {d:D} {xs:List Int} (hR:IR d xs) {D i j:Nat} {ns:List Tx} {co:Co} {o:Bool} (hr:oM Ra (fun _ _ _=>none) vK 0 (exec (T (STm d xs D) 1) 5 none vK.body (jE [d,.int .i64 i,dSs ns,.int .i64 (D + 1:Nat)]) σ0)=some (.ret ⟨o,.tup [dCo co,.int .i64 j]⟩,σ0)) :
  OkP n_7 [d,.int .i64 i,dSs ns,.int .i64 (D + 1:Nat)] ⟨false,.tup [dCo co,.int .i64 (j:Nat)]⟩ :=
 OkP.weak (o:=o) rfl (hU (af:=vK) (n:=5) (σ':=σ0) (iT (STm d xs D) 1) rfl rfl (by simp [eB,hR.np,eT,fQ]) (by simp [eT,eB,jH]) hr)
theorem zd9b {d:D} {xs:List Int} (hR:IR d xs) (D i:Nat) (ns:List Tx) (hp:PT ns (D + 1) i) (hc:gX xs i % 8=5) (hd:D < 1000) :
  ∃ co j,OkP n_7 [d,.int .i64 i,dSs ns,.int .i64 (D + 1:Nat)] ⟨false,.tup [dCo co,.int .i64 (j:Nat)]⟩∧Hy ns (D + 1) i co j:=by
 obtain ⟨h0,hl,h5,hi⟩:=hp
 have h1:=nY (S:=STm d xs D) rfl hR i (by omega) 0 σ0
 have hv:=sV hR.small i
 generalize gX xs i=v at h1 hv hc
 have t8:((v:Int)).tmod 8=5:=by rw [show ((v:Int)).tmod 8=((v % 8:Nat):Int) from mP v 8,hc]; rfl
 have wi:=dV (i:=i) (by omega)
 have hle:¬ (((D + 1:Nat):Int)≤0):=by omega
 refine ⟨.mk 11 0 [] [] [] [],i + 1,za5 hR (o:=false) ?_,.fail,.leaf (.inr (.inr (.inr rfl))) zS (by simp) (fun h=>absurd h (by decide)),by simp only [Co.size,szK,szB,szA,szT]; omega,by simp [hgt,hgK,hgB,hgA],by simp only [szN]; omega⟩
 simp only [vK,sA,seval,kn,h1,wi,hle,t8,fC,iC,co]
 rfl
theorem zgpb {d:D} {xs:List Int} (hR:IR d xs) (D i:Nat) (hT:Dt d D) (ns:List Tx) (hp:PT ns (D + 1) i) (hc:gX xs i % 8=6∨gX xs i % 8=7) (hd:D < 1000) :
  ∃ co j,OkP n_7 [d,.int .i64 i,dSs ns,.int .i64 (D + 1:Nat)] ⟨false,.tup [dCo co,.int .i64 (j:Nat)]⟩∧Hy ns (D + 1) i co j:=by
 obtain ⟨h0,hl,h5,hi⟩:=hp
 simp only [szN] at hi
 have h1:=nY (S:=STm d xs D) rfl hR i (by omega) 0 σ0
 have hv:=sV hR.small i
 generalize gX xs i=v at h1 hv hc
 have wi:=dV (i:=i) (by omega)
 have wd:=yN hd
 have hle:¬ (((D + 1:Nat):Int)≤0):=by omega
 obtain ⟨a,j1,⟨a1,a2,a3,a4,a5⟩,h2⟩:=sY (S:=STm d xs D) rfl hT (i + 1) ns ⟨h0,by omega,h5,by omega⟩
 obtain ⟨b,j2,⟨b1,b2,b3,b4,b5⟩,h3⟩:=sY (S:=STm d xs D) rfl hT j1 ns ⟨h0,by omega,h5,by omega⟩
 have h2:=h2 0 σ0
 have h3:=h3 0 σ0
 have hsz:(Co.mk 4 0 [] [a,b] [] []).size=1 + a.size + b.size:=by simp only [Co.size,szK,szB,szA]; omega
 refine ⟨.mk 4 0 [] [a,b] [] [],j2,za5 hR (o:=false) ?_,.app a1 b1,.app (by simp) a2 b2,by rw [hsz]; simp only [szT]; omega,by simp only [hgt,hgK,hgB,hgA]; omega,by simp only [szN]; omega⟩
 have eC:dCs [a,b]=.list k_2 [dCo a,dCo b]:=rfl
 rcases hc with hc | hc
 ·have t8:((v:Int)).tmod 8=6:=by rw [show ((v:Int)).tmod 8=((v % 8:Nat):Int) from mP v 8,hc]; rfl
  rw [fC (.mk 4 0 [] [a,b] [] []),iC]
  simp only [co,eC]
  simp only [fC,iC] at h2 h3 ⊢
  simp only [vK,sA,seval,kn,h1,wi,wd,hle,t8,h2,h3,nV,okl,mE]
  rfl
 ·have t8:((v:Int)).tmod 8=7:=by rw [show ((v:Int)).tmod 8=((v % 8:Nat):Int) from mP v 8,hc]; rfl
  rw [fC (.mk 4 0 [] [a,b] [] []),iC]
  simp only [co,eC]
  simp only [fC,iC] at h2 h3 ⊢
  simp only [vK,sA,seval,kn,h1,wi,wd,hle,t8,h2,h3,nV,okl,mE]
  rfl
end Go.Fu
namespace Go.Fu
open Go Go.Mx
set_option maxRecDepth 10000
set_option maxHeartbeats 4000000
def zpt:List Tx:=[[97,100,100],[115,117,98],[109,117,108],[100,105,118],[101,113],[108,116]]
theorem zbjb:∀ s∈zpt,(Aa s == [])=false∧s.length≤5:=by decide
theorem zeab {d:D} {xs:List Int} (hR:IR d xs) (D i:Nat) (hT:Dt d D) (ns:List Tx) (hp:PT ns (D + 1) i) (hc:gX xs i % 8=3) (hd:D < 1000) :
  ∃ co j,OkP n_7 [d,.int .i64 i,dSs ns,.int .i64 (D + 1:Nat)] ⟨false,.tup [dCo co,.int .i64 (j:Nat)]⟩∧Hy ns (D + 1) i co j:=by
 obtain ⟨h0,hl,h5,hi⟩:=hp
 simp only [szN] at hi
 have h1:=nY (S:=STm d xs D) rfl hR i (by omega) 0 σ0
 have hv:=sV hR.small i
 generalize gX xs i=v at h1 hv hc
 have wi:=dV (i:=i) (by omega)
 have wd:=yN hd
 have hle:¬ (((D + 1:Nat):Int)≤0):=by omega
 obtain ⟨a,j1,⟨a1,a2,a3,a4,a5⟩,h2⟩:=sY (S:=STm d xs D) rfl hT (i + 1) ns ⟨h0,by omega,h5,by omega⟩
 obtain ⟨b,j2,⟨b1,b2,b3,b4,b5⟩,h3⟩:=sY (S:=STm d xs D) rfl hT j1 ns ⟨h0,by omega,h5,by omega⟩
 have h2:=h2 0 σ0
 have h3:=h3 0 σ0
 have d8:((v:Int)).tdiv 8=((v / 8:Nat):Int):=Tq v 8
 have w8:IntKind.i64.wrap ((v / 8:Nat):Int)=((v / 8:Nat):Int):=lV (by omega) (by omega)
 have t6:(((v / 8:Nat):Int)).tmod 6=((v / 8 % 6:Nat):Int):=mP _ 6
 have hj:v / 8 % 6 < zpt.length:=Nat.mod_lt _ (by decide)
 have hx:=rW zpt _ hj
 have hs:=zbjb _ (aX hj)
 generalize zpt[v / 8 % 6]=s at hx hs
 have hx:iD 1 (.list k_0 [.str [97,100,100],.str [115,117,98],.str [109,117,108],.str [100,105,118],.str [101,113],.str [108,116]]) (v / 8 % 6)=some (.eptr (.str s)):=hx
 have hsz:(Co.mk 10 0 s [a,b] [] []).size=1 + a.size + b.size:=by simp only [Co.size,szK,szB,szA]; omega
 refine ⟨.mk 10 0 s [a,b] [] [],j2,za5 hR (o:=false) ?_,.prim hs.1 a1 b1,.prim hs.2 a2 b2,by rw [hsz]; simp only [szT]; omega,by simp only [hgt,hgK,hgB,hgA]; omega,by simp only [szN]; omega⟩
 have eC:dCs [a,b]=.list k_2 [dCo a,dCo b]:=rfl
 have t8:((v:Int)).tmod 8=3:=by rw [show ((v:Int)).tmod 8=((v % 8:Nat):Int) from mP v 8,hc]; rfl
 rw [fC (.mk 10 0 s [a,b] [] []),iC]
 simp only [co,eC]
 simp only [fC,iC] at h2 h3 ⊢
 simp only [vK,sA,seval,kn,h1,wi,wd,hle,t8,h2,h3,nV,okl,mE,d8,w8,t6,fL,hx]
 rfl
theorem zd8b {d:D} {xs:List Int} (hR:IR d xs) (D i:Nat) (hT:Dt d D) (ns:List Tx) (hp:PT ns (D + 1) i) (hc:gX xs i % 8=2) (hd:D < 1000) :
  ∃ co j,OkP n_7 [d,.int .i64 i,dSs ns,.int .i64 (D + 1:Nat)] ⟨false,.tup [dCo co,.int .i64 (j:Nat)]⟩∧Hy ns (D + 1) i co j:=by
 obtain ⟨h0,hl,h5,hi⟩:=hp
 simp only [szN] at hi
 have h1:=nY (S:=STm d xs D) rfl hR i (by omega) 0 σ0
 have hv:=sV hR.small i
 generalize gX xs i=v at h1 hv hc
 have wi:=dV (i:=i) (by omega)
 have wd:=yN hd
 have hle:¬ (((D + 1:Nat):Int)≤0):=by omega
 obtain ⟨a,j1,⟨a1,a2,a3,a4,a5⟩,h2⟩:=sY (S:=STm d xs D) rfl hT (i + 1) ns ⟨h0,by omega,h5,by omega⟩
 obtain ⟨al,j2,⟨b1,b2,b3⟩,h3⟩:=zbob (S:=STm d xs D) rfl hR hT hd j1 ns h0 hl h5 (by omega)
 have h2:=h2 0 σ0
 have h3:=h3 0 σ0
 have hsz:(Co.mk 9 0 [] [a] [] al).size=1 + a.size + szA al:=by simp only [Co.size,szK,szB]; omega
 have hh:=zul al fun x hx=>(b1 x hx).2.2.2.2.2
 refine ⟨.mk 9 0 [] [a] [] al,j2,za5 hR (o:=false) ?_,.cas a1 (fun x hx=>(b1 x hx).1) (fun x hx=>(b1 x hx).2.2.2.1),.cas (by simp) (fun x hx=>⟨(b1 x hx).1.1,(b1 x hx).2.1,(b1 x hx).2.2.1⟩) a2 (fun x hx=>(b1 x hx).2.2.2.2.1),by rw [hsz]; simp only [szT]; omega,by simp only [hgt,hgK,hgB]; omega,by simp only [szN]; omega⟩
 have eC:dCs [a]=.list k_2 [dCo a]:=rfl
 have t8:((v:Int)).tmod 8=2:=by rw [show ((v:Int)).tmod 8=((v % 8:Nat):Int) from mP v 8,hc]; rfl
 rw [fC (.mk 9 0 [] [a] [] al),iC]
 simp only [co,eC]
 simp only [fC,iC] at h2 h3 ⊢
 simp only [vK,sA,seval,kn,h1,wi,wd,hle,t8,h2,h3,nV,okl,mE]
 rfl
end Go.Fu
namespace Go.Fu
open Go Go.Mx
set_option maxRecDepth 10000
set_option maxHeartbeats 4000000
def eS:List Tx:=[[97],[98]]
theorem zaf (r:Nat) (h:r < 3):rI 1 (.list k_0 [.str [97],.str [98]]) 0 (some r)=some (lS (eS.take r)):=by
 have:r=0∨r=1∨r=2:=by omega
 rcases this with rfl | rfl | rfl <;> rfl
theorem zvh (r:Nat) (h:r < 3):lC (eS.take r)=false:=by
 have:r=0∨r=1∨r=2:=by omega
 rcases this with rfl | rfl | rfl <;> decide
section
variable {C:dQ} {n:Nat} {σ:Store}
def zwz (o:Bool) (bs:List (Tx × Co)):List Cell:=[⟨false,.int .i64 8⟩,⟨false,.int .i64 0⟩,⟨false,.str []⟩,⟨false,.int .i64 0⟩,⟨false,.int .i64 0⟩,⟨false,.str []⟩,⟨false,.nils⟩,⟨false,.nils⟩,⟨o,dBl bs⟩,⟨false,.nils⟩]
def Elt (d:D) (ns:List Tx) (D r:Nat) (bs:List (Tx × Co)) (j k:Nat):Env:={slots:=[(0,⟨false,d⟩),(1,⟨false,.int .i64 j⟩),(2,⟨false,dSs ns⟩),(3,⟨false,.int .i64 (D + 1:Nat)⟩),(20,⟨true,.list k_0 [.str [97],.str [98]]⟩),(21,⟨false,.int .i64 r⟩),(23,⟨false,.int .i64 k⟩)],locs:=[(8,8,0),(22,22,0)],boxes:=[(8,z10),(22,zwz (ow k) bs)],defers:=[]}
theorem zc0b (d:D) (ns:List Tx) (D r:Nat) (bs:List (Tx × Co)) (j k j':Nat) (c:Co) (hk:k < r) (hr:r < 3) (hd:D < 1000) (hb:bs.length < 100) (hne:bs≠[]→ow k=true)
  (h1:C n_9 [dSs ns,lS (eS.take r)] σ=some (.ret ⟨false,dSs (ns ++ eS.take r)⟩,σ))
  (h2:C n_7 [d,.int .i64 j,dSs (ns ++ eS.take r),.int .i64 D] σ=some (.ret ⟨false,.tup [dCo c,.int .i64 j']⟩,σ)) :
  exec C n none zbp (Elt d ns D r bs j k) σ=some (.normal,Elt d ns D r (bs ++ [(eS.getD k [],c)]) j' (k + 1),σ):=by
 have hlt:((k:Int) < (r:Int)):=by omega
 have wd:=yN hd
 have wk:=dV (i:=k) (by omega)
 have hs:=zaf r hr
 have ho:k < eS.length:=by simp [eS]; omega
 have hx:=rW eS k ho
 rw [← eY eS k [] ho] at hx
 have ha:=zarb bs (eS.getD k [],c) (ow k) hne (by omega)
 rw [tX] at ha
 generalize eS.getD k []=s at hx ha
 have hx:iD 1 (.list k_0 [.str [97],.str [98]]) k=some (.eptr (.str s)):=hx
 simp only [fC,iC] at h2 ha
 simp only [zbp,Elt,zwz,z10,sA,seval,kn,hlt,fL,hs,h1,wd,h2,hx,ha,wk,nV,okl,mE,jW,kK]
theorem zflb (d:D) (ns:List Tx) (D r:Nat) (bs:List (Tx × Co)) (j:Nat):exec C n none zbp (Elt d ns D r bs j r) σ=some (.exit 1,{Elt d ns D r bs j r with slots:=[(0,⟨false,d⟩),(1,⟨false,.int .i64 j⟩),(2,⟨false,dSs ns⟩),(3,⟨false,.int .i64 (D + 1:Nat)⟩),(20,⟨true,.list k_0 [.str [97],.str [98]]⟩),(21,⟨false,.int .i64 r⟩),(23,⟨false,.int .i64 r⟩),(116,⟨false,.bool false⟩)]},σ):=by
 have hlt:¬ ((r:Int) < (r:Int)):=by omega
 simp only [zbp,Elt,sA,seval,kn,hlt]
end
theorem zgqb {d:D} {xs:List Int} (hR:IR d xs) (D i:Nat) (hT:Dt d D) (ns:List Tx) (hp:PT ns (D + 1) i) (hc:gX xs i % 8=4) (hd:D < 1000) :
  ∃ co j,OkP n_7 [d,.int .i64 i,dSs ns,.int .i64 (D + 1:Nat)] ⟨false,.tup [dCo co,.int .i64 (j:Nat)]⟩∧Hy ns (D + 1) i co j:=by
 obtain ⟨h0,hl,h5,hi⟩:=hp
 simp only [szN] at hi
 have h1:=nY (S:=STm d xs D) rfl hR i (by omega) 0 σ0
 have hv:=sV hR.small i
 generalize gX xs i=v at h1 hv hc
 have wi:=dV (i:=i) (by omega)
 have wd:=yN hd
 have hle:¬ (((D + 1:Nat):Int)≤0):=by omega
 have d8:((v:Int)).tdiv 8=((v / 8:Nat):Int):=Tq v 8
 have w8:IntKind.i64.wrap ((v / 8:Nat):Int)=((v / 8:Nat):Int):=lV (by omega) (by omega)
 have t3:(((v / 8:Nat):Int)).tmod 3=((v / 8 % 3:Nat):Int):=mP _ 3
 have hr3:v / 8 % 3 < 3:=Nat.mod_lt _ (by decide)
 have t8:((v:Int)).tmod 8=4:=by rw [show ((v:Int)).tmod 8=((v % 8:Nat):Int) from mP v 8,hc]; rfl
 generalize v / 8 % 3=r at t3 hr3
 have hol:(eS.take r).length≤2:=by simp [eS]; omega
 have hb:=Ym (S:=STm d xs D) rfl ns (eS.take r) (by omega) 0 σ0
 have hn5:∀ s∈ns ++ eS.take r,Nv s:=fun s hs=>by
  rcases bJ.1 hs with h | h
  ·exact h5 s h
  ·have:=bH h
   simp only [eS,aS,aK,or_false] at this
   rcases this with rfl | rfl <;> rfl
 have hn0:ns ++ eS.take r≠[]:=by simp [h0]
 have hnl:(ns ++ eS.take r).length + 2 * D≤100:=by rw [aF]; omega
 obtain ⟨res,hr,bs,j,rfl,q1,q2,q3,q4⟩:=uX (body:=exec (T (STm d xs D) 1) 5 none zbp)
  (fun k e σ=>σ=σ0∧∃ bs j,e=Elt d ns D r bs j k∧bs.map Prod.fst=eS.take k∧(∀ p∈bs,Good (ns ++ eS.take r) p.2∧mR p.2∧hgt p.2≤D + 1)∧szB bs≤k * (szT D + 1)∧j≤i + 1 + k * szN D)
  (fun res=>∃ bs j,res=(.exit 1,{Elt d ns D r bs j r with slots:=[(0,⟨false,d⟩),(1,⟨false,.int .i64 j⟩),(2,⟨false,dSs ns⟩),(3,⟨false,.int .i64 (D + 1:Nat)⟩),(20,⟨true,.list k_0 [.str [97],.str [98]]⟩),(21,⟨false,.int .i64 r⟩),(23,⟨false,.int .i64 r⟩),(116,⟨false,.bool false⟩)]},σ0)∧bs.map Prod.fst=eS.take r∧(∀ p∈bs,Good (ns ++ eS.take r) p.2∧mR p.2∧hgt p.2≤D + 1)∧szB bs≤r * (szT D + 1)∧j≤i + 1 + r * szN D) r
  (fun k e σ hk ⟨hσ,bs,j,he,p1,p2,p3,p4⟩=>by
   subst hσ he
   have hkm:(k + 1) * szN D≤2 * szN D:=Nat.mul_le_mul_right _ (by omega)
   rw [Nat.succ_mul] at hkm
   obtain ⟨c,j',⟨a1,a2,a3,a4,a5⟩,h2⟩:=sY (S:=STm d xs D) rfl hT j (ns ++ eS.take r) ⟨hn0,hnl,hn5,by omega⟩
   have hlb:bs.length=(eS.take k).length:=by rw [← p1,aJ]
   have hlk:(eS.take k).length≤2:=by simp [eS]; omega
   have hko:k < eS.length:=by simp [eS]; omega
   refine ⟨_,_,zc0b d ns D r bs j k j' c hk hr3 hd (by omega) (fun h=>?_) hb (h2 0 σ0),rfl,_,_,rfl,?_,fun p hp=>?_,?_,?_⟩
   ·cases k with
    | zero=>exact absurd (aR.1 (by rw [hlb]; rfl)) h
    | succ k=>rfl
   ·rw [aU,p1,← hZ eS k hko,← eY eS k [] hko]
    rfl
   ·rcases bJ.1 hp with h | h
    ·exact p2 p h
    ·rw [bO.1 h]
     exact ⟨a1,a2,a4⟩
   ·rw [zso,Nat.succ_mul]
    simp only [szB]
    omega
   ·rw [Nat.succ_mul]; omega)
  (fun e σ ⟨hσ,bs,j,he,p1,p2,p3,p4⟩=>by
   subst hσ he
   exact ⟨_,zflb d ns D r bs j,fun _ _ h=>(by cases h),bs,j,rfl,p1,p2,p3,p4⟩) 0 5 (Elt d ns D r [] (i + 1) 0) σ0 (by omega) (by omega)
  ⟨rfl,_,_,rfl,rfl,(fun a h=>by cases h),by simp [szB],by omega⟩
 have hm1:r * (szT D + 1)≤2 * (szT D + 1):=Nat.mul_le_mul_right _ (by omega)
 have hm2:r * szN D≤2 * szN D:=Nat.mul_le_mul_right _ (by omega)
 obtain ⟨b,j2,⟨b1,b2,b3,b4,b5⟩,h3⟩:=sY (S:=STm d xs D) rfl hT j (ns ++ eS.take r) ⟨hn0,hnl,hn5,by omega⟩
 have h3:=h3 0 σ0
 have hsz:(Co.mk 8 0 [] [b] bs []).size=1 + b.size + szB bs:=by simp only [Co.size,szK,szA]; omega
 have hh:=zun bs fun x hx=>(q2 x hx).2.2
 refine ⟨.mk 8 0 [] [b] bs [],j2,za5 hR (o:=false) ?_,.lt (by rw [q1]; exact zvh r hr3) (fun p hp=>by rw [q1]; exact (q2 p hp).1) (by rw [q1]; exact b1),.lt (by simp) (fun p hp=>?_) (fun p hp=>(q2 p hp).2.1) b2,by rw [hsz]; simp only [szT]; omega,by simp only [hgt,hgK,hgA]; omega,by simp only [szN]; omega⟩
 ·have eC:dCs [b]=.list k_2 [dCo b]:=rfl
  rw [fC (.mk 8 0 [] [b] bs []),iC]
  simp only [co,eC]
  have e0:ow 0=false:=rfl
  have e1:dBl []=.nils:=rfl
  have hs:=zaf r hr3
  simp only [Elt,zwz,z10,eR,e0,e1] at hr
  simp only [fC,iC] at h3 ⊢
  simp only [vK,sA,seval,kn,h1,wi,wd,hle,t8,d8,w8,t3,hr,fL,hs,hb,h3,nV,okl,mE]
  rfl
 ·have:p.1∈eS.take r:=by rw [← q1]; exact List.mem_map_of_mem hp
  exact hn5 _ (bJ.2 (.inr this))
end Go.Fu
namespace Go.Fu
open Go Go.Mx
set_option maxRecDepth 10000
set_option maxHeartbeats 4000000
theorem zv8 {d:D} {xs:List Int} (hR:IR d xs):∀ deep,deep < 1000→Dt d deep
 | 0,h=>fun i ns hp=>zph hR 0 i ns hp (.inl rfl) h
 | D + 1,h=>fun i ns hp=>by
  have ih:=zv8 hR D (by omega)
  have h8:gX xs i % 8 < 2∨gX xs i % 8=2∨gX xs i % 8=3∨gX xs i % 8=4∨gX xs i % 8=5∨(gX xs i % 8=6∨gX xs i % 8=7):=by omega
  rcases h8 with q | q | q | q | q | q
  ·exact zph hR (D + 1) i ns hp (.inr q) h
  ·exact zd8b hR D i ih ns hp q (by omega)
  ·exact zeab hR D i ih ns hp q (by omega)
  ·exact zgqb hR D i ih ns hp q (by omega)
  ·exact zd9b hR D i ns hp q (by omega)
  ·exact zgpb hR D i ih ns hp q (by omega)
def kB:List Tx:=[[102],[103],[104],[120]]
def nN:List Tx:=[[120],[121],[122]]
def Ph:D:=.list k_0 [.str [102],.str [103],.str [104],.str [120]]
def Vz:D:=.list k_0 [.str [120],.str [121],.str [122]]
theorem zps (m:Nat) (h:m < 4):rI 1 Ph 0 (some (m + 1))=some (dSs (kB.take (m + 1))):=by
 have:m=0∨m=1∨m=2∨m=3:=by omega
 rcases this with rfl | rfl | rfl | rfl <;> rfl
theorem zrv (k:Nat) (h:k < 4):rI 1 Vz 0 (some k)=some (lS (nN.take k)):=by
 have:k=0∨k=1∨k=2∨k=3:=by omega
 rcases this with rfl | rfl | rfl | rfl <;> rfl
theorem zvi (k:Nat) (h:k < 4):lC (nN.take k)=false:=by
 have:k=0∨k=1∨k=2∨k=3:=by omega
 rcases this with rfl | rfl | rfl | rfl <;> decide
theorem ztg (m:Nat) (h:m < 4):lC (FL.map Fd.name ++ kB.take (m + 1))=false:=by
 have:m=0∨m=1∨m=2∨m=3:=by omega
 rcases this with rfl | rfl | rfl | rfl <;> decide
section
variable {C:dQ} {n:Nat} {σ:Store}
def Emd (d:D) (m:Nat) (us:List Su) (j i:Nat):Env:={slots:=[(0,⟨false,d⟩),(3,⟨true,Ph⟩),(4,⟨true,Vz⟩),(5,⟨false,.int .i64 (m + 1:Nat)⟩),(6,⟨false,.int .i64 j⟩),(7,⟨ow i,dUs us⟩),(8,⟨false,.int .i64 i⟩)],locs:=[],boxes:=[],defers:=[]}
theorem zc5b (d:D) (m:Nat) (us:List Su) (j i v j':Nat) (c:Co) (hi:i < m + 1) (hm:m < 4) (hj:j < 1000000) (hul:us.length < 100) (hne:us≠[]→ow i=true)
  (h1:C uM [d,.int .i64 j] σ=some (.ret ⟨false,.int .i64 v⟩,σ))
  (h2:C n_9 [dSs (kB.take (m + 1)),lS (nN.take (v % 4))] σ=some (.ret ⟨false,dSs (kB.take (m + 1) ++ nN.take (v % 4))⟩,σ))
  (h3:C n_7 [d,.int .i64 (j + 1:Nat),dSs (kB.take (m + 1) ++ nN.take (v % 4)),.int .i64 4] σ=some (.ret ⟨false,.tup [dCo c,.int .i64 j']⟩,σ)) :
  exec C n none Vj (Emd d m us j i) σ=some (.normal,Emd d m (us ++ [⟨kB.getD i [],nN.take (v % 4),c⟩]) j' (i + 1),σ):=by
 have hlt:((i:Int) < ((m + 1:Nat):Int)):=by omega
 have t4:((v:Int)).tmod 4=((v % 4:Nat):Int):=mP v 4
 have hv4:v % 4 < 4:=Nat.mod_lt _ (by decide)
 have wj:=dV (i:=j) (by omega)
 have wi:=dV (i:=i) (by omega)
 have hs1:=zps m hm
 have hs2:=zrv (v % 4) hv4
 have ho:i < kB.length:=by simp [kB]; omega
 have hx:=rW kB i ho
 rw [← eY kB i [] ho] at hx
 have ap:gC k_0 16 ⟨false,.nils⟩ ((nN.take (v % 4)).map D.str)=some ⟨true,dSs (nN.take (v % 4))⟩:=Ro _ false (by simp [nN]; omega)
 have ha:=zatb us ⟨kB.getD i [],nN.take (v % 4),c⟩ (ow i) hne (by omega)
 have has:jM (lS (nN.take (v % 4)))=some ((nN.take (v % 4)).map D.str):=rfl
 rw [Ru,cU] at ha
 generalize kB.getD i []=s at hx ha
 have hx:iD 1 Ph i=some (.eptr (.str s)):=hx
 generalize nN.take (v % 4)=o3 at *
 simp only [fC,iC] at h3 ha
 simp only [Vj,Emd,sA,seval,kn,hlt,fL,hs1,hs2,h1,h2,t4,wj,h3,hx,ha,has,ap,wi,nV,okl,mE,jW,kK]
theorem zfmb (d:D) (m:Nat) (us:List Su) (j:Nat):exec C n none Vj (Emd d m us j (m + 1)) σ=some (.exit 0,{Emd d m us j (m + 1) with slots:=[(0,⟨false,d⟩),(3,⟨true,Ph⟩),(4,⟨true,Vz⟩),(5,⟨false,.int .i64 (m + 1:Nat)⟩),(6,⟨false,.int .i64 j⟩),(7,⟨true,dUs us⟩),(8,⟨false,.int .i64 (m + 1:Nat)⟩),(26,⟨false,.bool false⟩)]},σ):=by
 have hlt:¬ (((m + 1:Nat):Int) < ((m + 1:Nat):Int)):=by omega
 simp only [Vj,Emd,sA,seval,kn,hlt,kK]
end
end Go.Fu
namespace Go.Fu
open Go Go.Mx
set_option maxRecDepth 10000
theorem zbvb (a:Nat) (h:a < 10):(chr a).toNat=48 + a:=by
 have:a=0∨a=1∨a=2∨a=3∨a=4∨a=5∨a=6∨a=7∨a=8∨a=9:=by omega
 rcases this with rfl | rfl | rfl | rfl | rfl | rfl | rfl | rfl | rfl | rfl <;> rfl
theorem zoe (q:UInt8) (hq:q.toNat < 48):∀ (k a:Nat) (s:Tx),(∀ b∈s,b≠q)→∀ b∈Im k a s,b≠q
 | 0,a,s,h=>fun b hb=>h b hb
 | k + 1,a,s,h=>by
  have hc:∀ d,d < 10→chr d≠q:=fun d hd e=>by
   have:=zbvb d hd
   rw [e] at this
   omega
  unfold Im
  by_cases h1:a < 10
  ·rw [decide_eq_true h1,dJ]
   intro b hb
   rcases aS.1 hb with rfl | hb
   ·exact hc a h1
   ·exact h b hb
  ·rw [decide_eq_false h1,dH]
   exact zoe q hq k (a / 10) _ fun b hb=>by
    rcases aS.1 hb with rfl | hb
    ·exact hc (a % 10) (by omega)
    ·exact h b hb
end Go.Fu

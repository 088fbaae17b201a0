/-
 Core made eA by the program: all of it.
-/
import Derived.Test.YtldfbnbckiifeaaGreatDoorFgDz
set_option maxHeartbeats 4000000
set_option linter.unusedSimpArgs false
set_option linter.unusedVariables false
set_option linter.unusedSectionVars false
namespace Go.Fu
open Go Go.Mx
set_option maxRecDepth 10000
set_option maxHeartbeats 4000000
theorem Pg {n:Nat} {k:RowK} {l:List D} {os:kV}:eX (n + 1) (eJ k l) os=some (eJ k l,os):=by cases l <;> rfl
theorem zcl {n:Nat} {ds:List D} {os:kV} (h:∀ d∈ds,eX n d os=some (d,os)):eX (n + 1) (.agg ds) os=some (.agg ds,os):=by
 have:=Jb ds h
 simp only [eX,this,dG,dK]
theorem zceb (c:Co) (os:kV):eX 39 (dCo c) os=some (dCo c,os):=by
 rw [fJ]
 refine zcl fun d hd=>?_
 simp only [aS,aK,or_false] at hd
 rcases hd with rfl | rfl | rfl | rfl | rfl | rfl | rfl | rfl | rfl | rfl <;> first | rfl | exact Pg
theorem ze9b (b:Tx × Co) (os:kV):eX 39 (dB b) os=some (dB b,os):=by
 rw [Be]
 refine zcl fun d hd=>?_
 simp only [aS,aK,or_false] at hd
 rcases hd with rfl | rfl | rfl | rfl | rfl | rfl | rfl | rfl | rfl | rfl | rfl | rfl | rfl | rfl | rfl <;> first | rfl | exact Pg
theorem ze8b (b:Hd × Co) (os:kV):eX 39 (dA b) os=some (dA b,os):=by
 rw [pD]
 refine zcl fun d hd=>?_
 simp only [aS,aK,or_false] at hd
 rcases hd with rfl | rfl | rfl | rfl | rfl | rfl | rfl | rfl | rfl | rfl | rfl | rfl | rfl | rfl <;> first | rfl | exact Pg
theorem zb5 {k:RowK} {a b n:Nat} (h:n≠0→a=b):jB k a n=jB k b n:=by
 cases n with
 | zero=>rfl
 | succ n=>rw [h (by omega)]
theorem zyn (p:Nat) (t:Tx) (c:Co) (lz:Bool) (ar:List Tx) (hw:Wf c) (hsz:ar.length + c.size < 10000000) (hli:kZ c lz=false) (ht:t.length < 10000000)
  (ihB:∀ b∈c.bs,zI p t b.2 true (ar ++ nms c) (flM b.2 true (ar ++ nms c) t)) (ihK:∀ x∈c.ks,zI p t x (lz || (c.f == 4)) (ar ++ nms c) (flM x (lz || (c.f == 4)) (ar ++ nms c) t)) (ihA:∀ b∈c.al,zI p t b.2 false ((ar ++ nms c) ++ b.1.vars) (flM b.2 false ((ar ++ nms c) ++ b.1.vars) t)):zI p t c lz ar (flM c lz ar t):=by
 intro σ aa m hh hm
 have hse:=iV c
 have lB:=mW c.bs
 have lK:=Hu c.ks
 have lA:=oK c.al
 have hp:=hh.pn
 obtain ⟨⟨w1,w2,_⟩,_,_,_⟩:=hw.bnd
 obtain ⟨bi0,σ1,q1,f1,r1,s1⟩:=zln (S:=SP) rfl σ c.bs (by omega)
 obtain ⟨ki0,σ2,q2,f2,r2,s2⟩:=zqe (S:=SP) rfl σ1 c.ks (by omega)
 obtain ⟨ai0,σ3,q3,f3,r3,s3⟩:=zty (S:=SP) rfl σ2 c.al (by omega)
 have n1:=f1.nx
 have n2:=f2.nx
 have n3:=f3.nx
 obtain ⟨a,h,ha⟩:∃ a,FSt σ p a t m∧((a=aa∧a < σ.next)∨σ3.next + 10≤a):=by
  by_cases e:m=[]
  ·exact ⟨σ3.next + 10,hh.any e (by omega),.inr (aM _)⟩
  ·exact ⟨aa,hh,.inl ⟨rfl,hh.an e⟩⟩
 obtain ⟨bi,hbi,hbi2⟩:∃ bi,(c.bs≠[]→bi=bi0)∧(c.bs=[]→bi=σ3.next + 1):=by
  by_cases e:c.bs=[]
  ·exact ⟨_,fun h=>absurd e h,fun _=>rfl⟩
  ·exact ⟨_,fun _=>rfl,fun h=>absurd h e⟩
 obtain ⟨ki,hki,hki2⟩:∃ ki,(c.ks≠[]→ki=ki0)∧(c.ks=[]→ki=σ3.next + 2):=by
  by_cases e:c.ks=[]
  ·exact ⟨_,fun h=>absurd e h,fun _=>rfl⟩
  ·exact ⟨_,fun _=>rfl,fun h=>absurd h e⟩
 obtain ⟨ai,hai,hai2⟩:∃ ai,(c.al≠[]→ai=ai0)∧(c.al=[]→ai=σ3.next + 3):=by
  by_cases e:c.al=[]
  ·exact ⟨_,fun h=>absurd e h,fun _=>rfl⟩
  ·exact ⟨_,fun _=>rfl,fun h=>absurd h e⟩
 have gB:jB k_3 bi0 c.bs.length=jB k_3 bi c.bs.length:=zb5 fun e=>(hbi fun h=>e (by rw [h]; rfl)).symm
 have gK:jB k_2 ki0 c.ks.length=jB k_2 ki c.ks.length:=zb5 fun e=>(hki fun h=>e (by rw [h]; rfl)).symm
 have gA:jB k_4 ai0 c.al.length=jB k_4 ai c.al.length:=zb5 fun e=>(hai fun h=>e (by rw [h]; rfl)).symm
 rw [gB] at q1
 rw [gK] at q2
 rw [gA] at q3
 have bB:c.bs≠[]→σ.next≤bi∧bi < σ1.next∧dE σ3.objs bi=some (cellsOf (c.bs.map dB)):=fun e=>by
  have:=s1 e
  rw [hbi e]
  exact ⟨r1,this.2,by rw [f3.ob _ (by omega),f2.ob _ (by omega),this.1]⟩
 have bK:c.ks≠[]→σ1.next≤ki∧ki < σ2.next∧dE σ3.objs ki=some (cellsOf (c.ks.map dCo)):=fun e=>by
  have:=s2 e
  rw [hki e]
  exact ⟨r2,this.2,by rw [f3.ob _ (by omega),this.1]⟩
 have bA:c.al≠[]→σ2.next≤ai∧ai < σ3.next∧dE σ3.objs ai=some (cellsOf (c.al.map dA)):=fun e=>by
  have:=s3 e
  rw [hai e]
  exact ⟨r3,this.2,this.1⟩
 have dBK:bi≠ki:=by
  by_cases e1:c.bs=[] <;> by_cases e2:c.ks=[]
  ·rw [hbi2 e1,hki2 e2]; omega
  ·have:=bK e2; rw [hbi2 e1]; omega
  ·have:=bB e1; rw [hki2 e2]; omega
  ·have:=bB e1; have:=bK e2; omega
 have dBA:bi≠ai:=by
  by_cases e1:c.bs=[] <;> by_cases e2:c.al=[]
  ·rw [hbi2 e1,hai2 e2]; omega
  ·have:=bA e2; rw [hbi2 e1]; omega
  ·have:=bB e1; rw [hai2 e2]; omega
  ·have:=bB e1; have:=bA e2; omega
 have dKA:ki≠ai:=by
  by_cases e1:c.ks=[] <;> by_cases e2:c.al=[]
  ·rw [hki2 e1,hai2 e2]; omega
  ·have:=bA e2; rw [hki2 e1]; omega
  ·have:=bK e1; rw [hai2 e2]; omega
  ·have:=bK e1; have:=bA e2; omega
 have lbi:σ.next≤bi:=by
  by_cases e1:c.bs=[]
  ·rw [hbi2 e1]; omega
  ·exact (bB e1).1
 have lki:σ.next≤ki:=by
  by_cases e1:c.ks=[]
  ·rw [hki2 e1]; omega
  ·have:=bK e1; omega
 have lai:σ.next≤ai:=by
  by_cases e1:c.al=[]
  ·rw [hai2 e1]; omega
  ·have:=bA e1; omega
 have f13:FrA σ σ3:=(f1.trans f2).trans f3
 have hgl:∀ b∈c.al,(ar ++ nms c).length + b.1.vars.length < 100000000:=fun b hb=>by
  have:=lU c.al b hb
  simp [nms]
  omega
 have obi:bi < σ3.next∨c.bs=[]:=by
  by_cases e:c.bs=[]
  ·exact .inr e
  ·exact .inl (by have:=bB e; omega)
 obtain ⟨σ4,a4,x4,w4,h4,b4,v4,fa4⟩:=zo3 (lz:=lz) (g:=ar ++ nms c) (ki:=ki) (bi:=bi) (ai:=ai) (by omega) (fun x m=>flM x true (ar ++ nms c) t m) ihB (fun b _ m=>Bg _ _ _ _ _) c.bs [] [] σ3 a m rfl rfl (h.fa f13) (fun e=>(bB e).2.2) obi (fun e=>by have:=bB e; omega) (fun e=>by have:=bB e; omega) (by omega)
 simp only [aH,bG] at w4 b4
 have m4:=Pn (fun x m=>flM x true (ar ++ nms c) t m) c.bs m fun q _ m=>Bg _ _ _ _ _
 have nv4:=v4.nx
 have oki:ki < σ4.next∨c.ks=[]:=by
  by_cases e:c.ks=[]
  ·exact .inr e
  ·exact .inl (by have:=bK e; omega)
 have kK4:c.ks≠[]→dE σ4.objs ki=some (cellsOf (c.ks.map dCo)):=fun e=>by
  have:=bK e
  rw [v4.ob ki (by omega) (fun e=>by rcases e with e | e | ⟨_,e | e⟩ <;> omega),this.2.2]
 obtain ⟨σ5,a5,x5,w5,h5,b5,v5,fa5⟩:=zo4 (lz:=lz) (g:=ar ++ nms c) (ki:=ki) (bi:=bi) (ai:=ai) (by omega) (fun x m=>flM x (lz || (c.f == 4)) (ar ++ nms c) t m) ihK (fun b _ m=>Bg _ _ _ _ _) c.ks [] [] σ4 a4 _ rfl rfl h4 (fun e=>kK4 e) oki (fun e=>by have:=bK e; omega) (fun e=>by have:=bK e; rcases fa4 with e | e <;> omega) (by omega)
 simp only [aH,bG] at w5 b5
 have m5:=Po (fun x m=>flM x (lz || (c.f == 4)) (ar ++ nms c) t m) c.ks (fF (fun x m=>flM x true (ar ++ nms c) t m) c.bs m).2 fun q _ m=>Bg _ _ _ _ _
 have nv5:=v5.nx
 have oai:ai < σ5.next∨c.al=[]:=by
  by_cases e:c.al=[]
  ·exact .inr e
  ·exact .inl (by have:=bA e; omega)
 have aA5:c.al≠[]→dE σ5.objs ai=some (cellsOf (c.al.map dA)):=fun e=>by
  have:=bA e
  rw [v5.ob ai (by omega) (fun e=>by rcases e with e | e | ⟨_,e | e⟩ <;> rcases fa4 with e2 | e2 <;> omega),v4.ob ai (by omega) (fun e=>by rcases e with e | e | ⟨_,e | e⟩ <;> omega),this.2.2]
 obtain ⟨σ6,a6,x6,w6,h6,b6,v6,fa6⟩:=zo5 (g:=ar ++ nms c) (ki:=ki) (bi:=bi) (ai:=ai) (by omega) (fun hd x m=>flM x false ((ar ++ nms c) ++ hd.vars) t m) ihA hgl (fun b _ m=>Bg _ _ _ _ _) c.al [] [] σ5 a5 _ rfl rfl h5 (fun e=>aA5 e) oai (fun e=>by have:=bA e; omega) (fun e=>by have:=bA e; rcases fa4 with e | e <;> rcases fa5 with e2 | e2 <;> omega) (by omega)
 simp only [aH,bG] at w6 b6
 have nv6:=v6.nx
 have cB6:c.bs≠[]→dE σ6.objs bi=some (cellsOf ((fF (fun x m=>flM x true (ar ++ nms c) t m) c.bs m).1.map dB)):=fun e=>by
  have:=bB e
  rw [v6.ob bi (by omega) (fun e=>by rcases e with e | e | ⟨_,e | e⟩ <;> rcases fa4 with e2 | e2 <;> rcases fa5 with e3 | e3 <;> omega),v5.ob bi (by omega) (fun e=>by rcases e with e | e | ⟨_,e | e⟩ <;> rcases fa4 with e2 | e2 <;> omega),b4 e]
 have cK6:c.ks≠[]→dE σ6.objs ki=some (cellsOf ((gP (fun x m=>flM x (lz || (c.f == 4)) (ar ++ nms c) t m) c.ks (fF (fun x m=>flM x true (ar ++ nms c) t m) c.bs m).2).1.map dCo)):=fun e=>by
  have:=bK e
  rw [v6.ob ki (by omega) (fun e=>by rcases e with e | e | ⟨_,e | e⟩ <;> rcases fa4 with e2 | e2 <;> rcases fa5 with e3 | e3 <;> omega),b5 e]
 have hflat:flM c lz ar t m=(.mk c.f c.n c.s (gP (fun x m=>flM x (lz || (c.f == 4)) (ar ++ nms c) t m) c.ks (fF (fun x m=>flM x true (ar ++ nms c) t m) c.bs m).2).1 (fF (fun x m=>flM x true (ar ++ nms c) t m) c.bs m).1 (iE (fun hd x m=>flM x false ((ar ++ nms c) ++ hd.vars) t m) c.al (gP (fun x m=>flM x (lz || (c.f == 4)) (ar ++ nms c) t m) c.ks (fF (fun x m=>flM x true (ar ++ nms c) t m) c.bs m).2).2).1,
   (iE (fun hd x m=>flM x false ((ar ++ nms c) ++ hd.vars) t m) c.al (gP (fun x m=>flM x (lz || (c.f == 4)) (ar ++ nms c) t m) c.ks (fF (fun x m=>flM x true (ar ++ nms c) t m) c.bs m).2).2).2):=by
  have hA:∀ m,fA c ar t m c.al.length=iE (fun hd x m=>flM x false ((ar ++ nms c) ++ hd.vars) t m) c.al m:=fun m=>by
   unfold fA
   rw [aV]
   by_cases e:c.al=[]
   ·rw [e]; rfl
   ·have e8:c.f≠8:=fun e8=>e (w2 e8)
    have:nms c=[]:=by simp [nms,w1 e8]
    rw [this,bP]
  rw [yA c lz ar t m hli,hA]
  unfold fK fB
  rw [aV,aV]
  rfl
 rw [hflat]
 have lb:=Wg (fun x m=>flM x true (ar ++ nms c) t m) c.bs m
 have lk:=Wi (fun x m=>flM x (lz || (c.f == 4)) (ar ++ nms c) t m) c.ks (fF (fun x m=>flM x true (ar ++ nms c) t m) c.bs m).2
 have la:=Wb (fun hd x m=>flM x false ((ar ++ nms c) ++ hd.vars) t m) c.al (gP (fun x m=>flM x (lz || (c.f == 4)) (ar ++ nms c) t m) c.ks (fF (fun x m=>flM x true (ar ++ nms c) t m) c.bs m).2).2
 simp only
 generalize hB:(fF (fun x m=>flM x true (ar ++ nms c) t m) c.bs m).1=B' at *
 generalize (fF (fun x m=>flM x true (ar ++ nms c) t m) c.bs m).2=M4 at *
 generalize (gP (fun x m=>flM x (lz || (c.f == 4)) (ar ++ nms c) t m) c.ks M4).1=K' at *
 generalize (gP (fun x m=>flM x (lz || (c.f == 4)) (ar ++ nms c) t m) c.ks M4).2=M5 at *
 generalize (iE (fun hd x m=>flM x false ((ar ++ nms c) ++ hd.vars) t m) c.al M5).1=A' at *
 generalize (iE (fun hd x m=>flM x false ((ar ++ nms c) ++ hd.vars) t m) c.al M5).2=M6 at *
 have neB:B'≠[]→c.bs≠[]:=fun e e2=>e (aR.1 (by rw [lb,e2]; rfl))
 have neK:K'≠[]→c.ks≠[]:=fun e e2=>e (aR.1 (by rw [lk,e2]; rfl))
 have neA:A'≠[]→c.al≠[]:=fun e e2=>e (aR.1 (by rw [la,e2]; rfl))
 obtain ⟨os1,z1,y1⟩:=zcm (g:=dCo) (k:=k_2) (sz:=10) rfl rfl lH (fun x=>by rw [fJ]; rfl) zceb K' ki σ6.objs (fun e=>cK6 (neK e))
 obtain ⟨os2,z2,y2⟩:=zcm (g:=dB) (k:=k_3) (sz:=15) rfl rfl uH (fun x=>by rw [Be]; rfl) ze9b B' bi os1 (fun e=>by rw [y1 _ (fun _=>dBK)]; exact cB6 (neB e))
 obtain ⟨os3,z3,y3⟩:=zcm (g:=dA) (k:=k_4) (sz:=14) rfl rfl wK (fun x=>by rw [pD]; rfl) ze8b A' ai os2 (fun e=>by rw [y2 _ (fun _=>dBA.symm),y1 _ (fun _=>dKA.symm)]; exact b6 (neA e))
 rw [lk] at z1
 rw [lb] at z2
 rw [la] at z3
 have z1':eX 40 (jB k_2 ki c.ks.length) σ6.objs=some (kD (.mk c.f c.n c.s K' B' A'),os1):=z1
 have z2':eX 40 (jB k_3 bi c.bs.length) os1=some (bD (.mk c.f c.n c.s K' B' A'),os2):=z2
 have z3':eX 40 (jB k_4 ai c.al.length) os2=some (aD (.mk c.f c.n c.s K' B' A'),os3):=z3
 have hdr:=fJ (.mk c.f c.n c.s K' B' A')
 simp only [co] at hdr
 rw [hdr]
 have hor:=jO (.mk c.f c.n c.s K' B' A')
 generalize kD (.mk c.f c.n c.s K' B' A')=kd at *
 generalize bD (.mk c.f c.n c.s K' B' A')=bd at *
 generalize aD (.mk c.f c.n c.s K' B' A')=ad at *
 have hos:∀ j,(K'≠[]→j≠ki)→(B'≠[]→j≠bi)→(A'≠[]→j≠ai)→dE os3 j=dE σ6.objs j:=fun j e1 e2 e3=>by rw [y3 j e3,y2 j e2,y1 j e1]
 have hpa6:=h6.pa
 have hpn6:=h6.pn
 have han6:=h6.an
 have hfa:a6=a∨σ3.next≤a6:=by rcases fa4 with e | e <;> rcases fa5 with e2 | e2 <;> rcases fa6 with e3 | e3 <;> omega
 have hp3:dE os3 p=dE σ6.objs p:=hos p (fun _=>by omega) (fun _=>by omega) (fun _=>by omega)
 have ha3:M6≠[]→dE os3 a6=dE σ6.objs a6:=fun _=>hos a6 (fun e=>by have:=bK (neK e); omega) (fun e=>by have:=bB (neB e); omega) (fun e=>by have:=bA (neA e); omega)
 have hF:FSt {σ6 with objs:=os3} p a6 t M6:=⟨by show dE os3 p=_; rw [hp3]; exact h6.obj,fun e=>⟨by show dE os3 a6=_; rw [ha3 e]; exact (h6.arr e).1,(h6.arr e).2⟩,hpa6,hpn6,han6⟩
 have hFr:Frm p aa 0 a6 0 σ {σ6 with objs:=os3}:=by
  refine ⟨by show σ.next≤σ6.next; omega,fun j hj e1 e2=>?_,fun j hj=>?_,fun j hj e=>?_,by rcases hfa with e | e <;> omega,.inl rfl⟩
  ·show dE os3 j=_
   rw [hos j (fun _=>by omega) (fun _=>by omega) (fun _=>by omega),v6.ob j (by omega) (fun e=>by rcases e with e | e | ⟨_,e | e⟩ <;> rcases fa4 with e2 | e2 <;> rcases fa5 with e3 | e3 <;> omega),
    v5.ob j (by omega) (fun e=>by rcases e with e | e | ⟨_,e | e⟩ <;> rcases fa4 with e2 | e2 <;> omega),v4.ob j (by omega) (fun e=>by rcases e with e | e | ⟨_,e | e⟩ <;> omega),f13.ob j hj]
  ·show dE σ6.tys j=_
   rw [v6.ty j (by omega),v5.ty j (by omega),v4.ty j (by omega),f13.ty j hj]
  ·show dE σ6.oth j=_
   rw [v6.ot j (by omega) e,v5.ot j (by omega) e,v4.ot j (by omega) e,f13.ot j hj]
 refine ⟨_,a6,⟨max x4 (max x5 x6) + c.size + 5,fun n hn=>?_⟩,hF,hFr⟩
 obtain ⟨n,rfl⟩:∃ k,n=k + 3:=⟨n - 3,by omega⟩
 rw [eH (af:=iS) rfl rfl rfl]
 have q1:=q1 (n + 1)
 have q2:=q2 (n + 1)
 have q3:=q3 (n + 1)
 have qn:=zu7 (P:=SP) rfl rfl σ3 bi c.bs (fun e=>(bB e).2.2) (by omega) (n + 1) (by omega)
 have qc:=Ya (S:=SP) rfl ar (nms c) (by simp [nms]; omega) (n + 1) σ3
 have w4:=w4 (n + 2) (n + 2) (by omega) (by omega)
 have w5:=w5 (n + 2) (n + 2) (by omega) (by omega)
 have w6:=w6 (n + 2) (n + 2) (by omega) (by omega)
 have ob:=Kw k_3 bi c.bs.length
 have ok:=Kw k_2 ki c.ks.length
 have oa:=Kw k_4 ai c.al.length
 have lnb:=Bm k_3 bi c.bs.length
 have lnk:=Bm k_2 ki c.ks.length
 have lna:=Bm k_4 ai c.al.length
 have okG:(dSs ar).ok=true:=gZ
 have okV:(dSs (nms c)).ok=true:=gZ
 have ceG:(dSs ar).cells=[dSs ar]:=fG
 have ceV:(dSs (nms c)).cells=[dSs (nms c)]:=fG
 have hnc:c.bs.map Prod.fst=nms c:=rfl
 rw [hnc] at qn
 have hdc:=fJ c
 have hon:=jO c
 have hbD:bD c=eJ k_3 (c.bs.map dB):=rfl
 have hkD:kD c=eJ k_2 (c.ks.map dCo):=rfl
 have haD:aD c=eJ k_4 (c.al.map dA):=rfl
 rw [← hbD] at q1
 rw [← hkD] at q2
 rw [← haD] at q3
 simp only [bnF] at qn
 simp only [dd] at qc
 simp only [Ep0,Ep1,Ep2,boxA,zC,eR] at w4 w5 w6
 have hkB:∀ k id n,Cell.keeps ⟨false,jB k id n⟩=false:=fun k id n=>by cases n <;> rfl
 have hfc:oS [⟨false,.int .i64 c.f⟩,⟨false,.int .i64 c.n⟩,⟨false,.str c.s⟩,⟨false,.int .i64 0⟩,⟨false,.int .i64 0⟩,⟨false,.str []⟩,⟨false,.nils⟩,⟨false,jB k_2 ki c.ks.length⟩,⟨false,jB k_3 bi c.bs.length⟩,⟨false,jB k_4 ai c.al.length⟩] σ6.objs=some ([⟨false,.int .i64 c.f⟩,⟨false,.int .i64 c.n⟩,⟨false,.str c.s⟩,⟨false,.int .i64 0⟩,⟨false,.int .i64 0⟩,⟨false,.str []⟩,⟨false,.nils⟩,⟨false,kd⟩,⟨false,bd⟩,⟨false,ad⟩],os3):=by
  have i1:∀ k os,eX 40 (.int .i64 k) os=some (.int .i64 k,os):=fun _ _=>rfl
  have i2:∀ s os,eX 40 (.str s) os=some (.str s,os):=fun _ _=>rfl
  have i3:∀ os,eX 40 .nils os=some (.nils,os):=fun _=>rfl
  have j1:∀ k,Cell.keeps ⟨false,.int .i64 k⟩=false:=fun _=>rfl
  have j2:∀ s,Cell.keeps ⟨false,.str s⟩=false:=fun _=>rfl
  have j3:Cell.keeps ⟨false,.nils⟩=false:=rfl
  simp only [oS,i1,i2,i3,j1,j2,j3,z1',z2',z3',hkB,dG,dK]
 cases lz with
 | false=>simp only [iS,sA,Nat.reduceAdd,Nat.reduceSub,Nat.reduceMul,Nat.reduceBEq,Nat.reduceLeDiff,Int.reduceBEq,Int.reduceBNe,Int.reduceLE,Int.reduceLT,Int.reduceGE,Int.reduceGT,Int.reduceNeg,kn,eI,mB,hdc,hon,q1,q2,q3,ob,ok,oa,qn,okG,okV,ceG,ceV,qc,lnb,w4,lnk,w5,lna,w6,wO,nG,oH,hfc,hor]
 | true =>
  obtain ⟨e9,e10,e11⟩:=(zu4 hli).resolve_left (by simp)
  simp only [iS,sA,Nat.reduceAdd,Nat.reduceSub,Nat.reduceMul,Nat.reduceBEq,Nat.reduceLeDiff,Int.reduceBEq,Int.reduceBNe,Int.reduceLE,Int.reduceLT,Int.reduceGE,Int.reduceGT,Int.reduceNeg,kn,eI,mB,hdc,hon,e9,e10,e11,q1,q2,q3,ob,ok,oa,qn,okG,okV,ceG,ceV,qc,lnb,w4,lnk,w5,lna,w6,wO,nG,oH,hfc,hor]
end Go.Fu

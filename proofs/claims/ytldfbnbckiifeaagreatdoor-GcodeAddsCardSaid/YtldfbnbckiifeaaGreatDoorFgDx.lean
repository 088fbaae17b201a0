/-
 A name,given others,by the program.
-/
import Derived.Test.YtldfbnbckiifeaaGreatDoorFgDu
set_option maxHeartbeats 4000000
set_option linter.unusedSimpArgs false
set_option linter.unusedVariables false
set_option linter.unusedSectionVars false
namespace Go.Fu
open Go Go.Mx
set_option maxRecDepth 10000
set_option maxHeartbeats 4000000
def zT:D:=.agg [.int .i64 0,.int .i64 0,.str [],.nils]
theorem zvz (n:Nat) (σ:Store):W SE (n + 2) zfc [zT] σ=some (.ret ⟨false,zT⟩,σ):=by
 rw [bC (af:=zei) rfl rfl rfl]
 have hlt:¬ ((0:Int) < (0:Int)):=by omega
 simp only [zei,zxb,zT,sA,Nat.reduceAdd,Nat.reduceSub,Nat.reduceMul,Nat.reduceBEq,Nat.reduceLeDiff,Int.reduceBEq,Int.reduceBNe,Int.reduceLE,Int.reduceLT,Int.reduceGE,Int.reduceGT,Int.reduceNeg,kn,dL,bV,hlt]
theorem zpg (n:Nat) (σ:Store):W SE (n + 3) zfb [zT,.nils,.nils] σ=some (.ret ⟨false,zT⟩,σ):=by
 rw [bC (af:=zeh) rfl rfl rfl]
 have h1:=zvz n σ
 simp only [zT] at h1
 have e2:((0:Int) == 2)=false:=rfl
 have e4:((0:Int) == 4)=false:=rfl
 have e5:((0:Int) == 5)=false:=rfl
 simp only [zeh,zT,sA,Nat.reduceAdd,Nat.reduceSub,Nat.reduceMul,Nat.reduceBEq,Nat.reduceLeDiff,Int.reduceBEq,Int.reduceBNe,Int.reduceLE,Int.reduceLT,Int.reduceGE,Int.reduceGT,Int.reduceNeg,kn,e2,e4,e5,h1]
theorem zakb (n:Nat) (σ:Store):W SE (n + 4) zob [zT] σ=some (.ret ⟨false,zT⟩,σ):=by
 rw [bC (af:=zda) rfl rfl rfl]
 have h1:=zpg n σ
 simp only [zT] at h1
 simp only [zda,zT,sA,Nat.reduceAdd,Nat.reduceSub,Nat.reduceMul,Nat.reduceBEq,Nat.reduceLeDiff,Int.reduceBEq,Int.reduceBNe,Int.reduceLE,Int.reduceLT,Int.reduceGE,Int.reduceGT,Int.reduceNeg,kn,h1]
def cV (s:Tx):List Cell:=[⟨false,.int .i64 1⟩,⟨false,.int .i64 0⟩,⟨false,.str s⟩,⟨false,.int .i64 0⟩,⟨false,.int .i64 0⟩,⟨false,.str []⟩,⟨false,.nils⟩,⟨false,.nils⟩,⟨false,.nils⟩,⟨false,.nils⟩]
theorem znn (n:Nat) (σ:Store) (s:Tx) (h:aB σ.objs 0=some (cV s)):∃ o,W SE (n + 2) zes [.ptr 0 0] σ=some (.ret ⟨o,.list zep [.agg [.nils,.nils]]⟩,σ):=by
 refine ⟨true,?_⟩
 rw [bC (af:=qZ) rfl rfl rfl]
 have hlt:¬ ((0:Int) < (0:Int)):=by omega
 have e5:((1:Int) == 5)=false:=rfl
 have hz:zep.sz=2:=rfl
 simp only [cV] at h
 simp only [qZ,yB,yC,yD,sA,Nat.reduceAdd,Nat.reduceSub,Nat.reduceMul,Nat.reduceBEq,Nat.reduceLeDiff,Int.reduceBEq,Int.reduceBNe,Int.reduceLE,Int.reduceLT,Int.reduceGE,Int.reduceGT,Int.reduceNeg,kn,h,dL,bV,hlt,e5,hz]
theorem Ss (f:FuncId) (af:AFun) (n:Nat) (σ:Store) (h:(f=Gq∧af=dP)∨(f=Gp∧af=cX)∨(f=Gn∧af=dX)):W SE (n + 1) f [.nils] σ=some (.ret ⟨false,.nils⟩,σ):=by
 rcases h with ⟨rfl,rfl⟩ | ⟨rfl,rfl⟩ | ⟨rfl,rfl⟩
 ·rw [bC (af:=dP) rfl rfl rfl]
  simp only [dP,sA,Nat.reduceAdd,Nat.reduceSub,Nat.reduceMul,Nat.reduceBEq,Nat.reduceLeDiff,Int.reduceBEq,Int.reduceBNe,Int.reduceLE,Int.reduceLT,Int.reduceGE,Int.reduceGT,Int.reduceNeg,kn]
 ·rw [bC (af:=cX) rfl rfl rfl]
  simp only [cX,sA,Nat.reduceAdd,Nat.reduceSub,Nat.reduceMul,Nat.reduceBEq,Nat.reduceLeDiff,Int.reduceBEq,Int.reduceBNe,Int.reduceLE,Int.reduceLT,Int.reduceGE,Int.reduceGT,Int.reduceNeg,kn]
 ·rw [bC (af:=dX) rfl rfl rfl]
  simp only [dX,sA,Nat.reduceAdd,Nat.reduceSub,Nat.reduceMul,Nat.reduceBEq,Nat.reduceLeDiff,Int.reduceBEq,Int.reduceBNe,Int.reduceLE,Int.reduceLT,Int.reduceGE,Int.reduceGT,Int.reduceNeg,kn]
theorem zr9 (s:Tx):OkP Ld [dCo (bJ s)] ⟨false,dCo (bJ s)⟩:=by
 have hd:dCo (bJ s)=.agg [.int .i64 1,.int .i64 0,.str s,.int .i64 0,.int .i64 0,.str [],.nils,.nils,.nils,.nils]:=cH _
 obtain ⟨σ1,e1⟩:∃ σ1,σ1=GA σ0 zfm (cV s):=⟨_,rfl⟩
 have h1:aB σ1.objs 0=some (cV s):=by rw [e1]; rfl
 have n0:σ0.next=0:=rfl
 have ht:=zakb 2
 have c1:=fun σ=>Ss Gq dP 5 σ (.inl ⟨rfl,rfl⟩)
 have c2:=fun σ=>Ss Gp cX 5 σ (.inr (.inl ⟨rfl,rfl⟩))
 have c3:=fun σ=>Ss Gn dX 5 σ (.inr (.inr ⟨rfl,rfl⟩))
 obtain ⟨o,hg⟩:=znn 4 (SO σ1 0 (cV s)) s fM
 have hlt:¬ ((0:Int) < (0:Int)):=by omega
 have hlt1:((0:Int) < (1:Int)):=by omega
 have hlt2:¬ ((1:Int) < (1:Int)):=by omega
 have w1:IntKind.i64.wrap (0 + 1)=1:=rfl
 have hx:dC 2 (.list zep [.agg [.nils,.nils]]) 0=some (.eptr (.agg [.nils,.nils])):=rfl
 simp only [cV] at e1 h1 hg
 have hself:∀ cs,aB (SO σ1 0 cs).objs 0=some cs:=fun _=>fM
 simp only [zT] at ht
 refine pO (af:=zc9) (n:=3) (σ':=SO σ1 0 (cV s)) (mX SE 6) rfl rfl (by simp [aX,iE]) (iE _) ?_
 rw [hd]
 simp only [zc9,zwd,zwe,zwg,zwf,sA,Nat.reduceAdd,Nat.reduceSub,Nat.reduceMul,Nat.reduceBEq,Nat.reduceLeDiff,Int.reduceBEq,Int.reduceBNe,Int.reduceLE,Int.reduceLT,Int.reduceGE,Int.reduceGT,Int.reduceNeg,kn,bF,mB,n0,← e1,h1,ht,c1,c2,c3,hself,zmk,gV,dL,bV,zuz,hlt,hg,hlt1,hlt2,hx,w1,cV]
def zmb:List D→Cell→Prop:=fun ds c=>∀ s,ds=[dCo (bJ s)]→c=⟨false,dCo (bJ s)⟩
theorem zim {a b:Tx} (h:dCo (bJ a)=dCo (bJ b)):a=b:=by
 have:=rX h
 simpa [bJ] using this
theorem zp6 {S:aV} (hS:aB S Ld=some zmb) (s:Tx) (n:Nat) (σ:Store):W S (n + 1) Ld [dCo (bJ s)] σ=some (.ret ⟨false,dCo (bJ s)⟩,σ):=by
 obtain ⟨c,h1,h2⟩:=nP (S:=S) hS rfl (c:=⟨false,dCo (bJ s)⟩) (fun s' e=>by
  simp only [List.cons.injEq,and_true] at e
  rw [zim e]) (zr9 s)
 rw [h2,h1 s rfl]
theorem ztf (s:Tx):OkP Gl [.str s] ⟨false,dCo (bJ s)⟩:=by
 have hd:dCo (bJ s)=.agg [.int .i64 1,.int .i64 0,.str s,.int .i64 0,.int .i64 0,.str [],.nils,.nils,.nils,.nils]:=cH _
 refine pO (af:=zc8) (n:=1) (σ':=σ0) (mX SE 1) rfl rfl rfl (iE _) ?_
 rw [hd]
 simp only [zc8,sA,Nat.reduceAdd,Nat.reduceSub,Nat.reduceMul,Nat.reduceBEq,Nat.reduceLeDiff,Int.reduceBEq,Int.reduceBNe,Int.reduceLE,Int.reduceLT,Int.reduceGE,Int.reduceGT,Int.reduceNeg,kn]
def zib:List D→Cell→Prop:=fun ds c=>∀ s,ds=[.str s]→c=⟨false,dCo (bJ s)⟩
theorem zwc {S:aV} (hS:aB S Gl=some zib) (s:Tx) (n:Nat) (σ:Store):W S (n + 1) Gl [.str s] σ=some (.ret ⟨false,dCo (bJ s)⟩,σ):=by
 obtain ⟨c,h1,h2⟩:=nP (S:=S) hS rfl (c:=⟨false,dCo (bJ s)⟩) (fun s' e=>by
  simp only [List.cons.injEq,D.str.injEq,and_true] at e
  rw [e]) (ztf s)
 rw [h2,h1 s rfl]
def SV:aV:=[(Gl,zib),(Ld,zmb)]
section
variable {C:aM} {n:Nat} {σ:Store}
def Eva (l:List Tx) (i:Nat):Env:={slots:=[(3,⟨ow i,dCs ((l.take i).map bJ)⟩),(6,⟨false,dSs l⟩),(7,⟨false,.int .i64 l.length⟩),(8,⟨false,.int .i64 i⟩)],locs:=[],boxes:=[],defers:=[]}
theorem zqa (l:List Co) (v:Co) (o:Bool) (ho:l≠[]→o=true) (hl:l.length < 1000000000):cK k_2 160 ⟨o,dCs l⟩ [dCo v]=some ⟨true,dCs (l ++ [v])⟩:=qE yT iY (by omega) l v o ho hl
theorem zamb (l:List Tx) (i:Nat) (h:i < l.length) (hl:l.length < 1000000000) (h1:C Gl [.str l[i]] σ=some (.ret ⟨false,dCo (bJ l[i])⟩,σ)):exec C n none Yr (Eva l i) σ=some (.normal,Eva l (i + 1),σ):=by
 have hlt:((i:Int) < (l.length:Int)):=by omega
 have w:=aR (i:=i) (by omega)
 have hx:=uV l i h
 have ha:=zqa ((l.take i).map bJ) (bJ l[i]) (ow i) (fun hne=>zxq (by simpa using hne)) (by simp; omega)
 have e2:(l.take i).map bJ ++ [bJ l[i]]=(l.take (i + 1)).map bJ:=by rw [← fL l i h,List.map_append]; rfl
 rw [e2] at ha
 have hok:=yT (bJ l[i])
 have hce:(dCo (bJ l[i])).cells.length=10:=iY _
 simp only [Yr,Eva,sA,Nat.reduceAdd,Nat.reduceSub,Nat.reduceMul,Nat.reduceBEq,Nat.reduceLeDiff,Int.reduceBEq,Int.reduceBNe,Int.reduceLE,Int.reduceLT,Int.reduceGE,Int.reduceGT,Int.reduceNeg,kn,hlt,cL,hx,h1,hok,hce,ha,w,kP]
theorem zcub (l:List Tx):exec C n none Yr (Eva l l.length) σ=some (.exit 0,{Eva l l.length with slots:=[(3,⟨ow l.length,dCs (l.map bJ)⟩),(6,⟨false,dSs l⟩),(7,⟨false,.int .i64 l.length⟩),(8,⟨false,.int .i64 l.length⟩),(9,⟨false,.bool false⟩)]},σ):=by
 have hlt:¬ ((l.length:Int) < (l.length:Int)):=by omega
 simp only [Yr,Eva,sA,Nat.reduceAdd,Nat.reduceSub,Nat.reduceMul,Nat.reduceBEq,Nat.reduceLeDiff,Int.reduceBEq,Int.reduceBNe,Int.reduceLE,Int.reduceLT,Int.reduceGE,Int.reduceGT,Int.reduceNeg,kn,hlt,List.take_length]
def zf4 (c:Co):D:=.agg [.int .i64 c.f,.int .i64 c.n,.str c.s,.int .i64 0,.int .i64 0,.str [],.nils,kD c,bD c,aD c]
theorem Zk (c:Co):dCo c=zf4 c:=bY c
def zC:List Cell:=[⟨false,.int .i64 0⟩,⟨false,.int .i64 0⟩,⟨false,.str []⟩,⟨false,.int .i64 0⟩,⟨false,.int .i64 0⟩,⟨false,.str []⟩,⟨false,.nils⟩,⟨false,.nils⟩,⟨false,.nils⟩,⟨false,.nils⟩]
def Eap (s:Tx) (l:List Tx) (c:Co) (i:Nat):Env:={slots:=[(10,⟨false,dCs (l.map bJ)⟩),(11,⟨false,.int .i64 l.length⟩),(12,⟨false,.int .i64 i⟩)],locs:=[(4,(4,0)),(5,(5,0))],boxes:=[(4,zC),(5,Ax c)],defers:=[]}
theorem ztp (c x:Co):Ax (appC' c x)=[⟨false,.int .i64 4⟩,⟨false,.int .i64 0⟩,⟨false,.str []⟩,⟨false,.int .i64 0⟩,⟨false,.int .i64 0⟩,⟨false,.str []⟩,⟨false,.nils⟩,⟨false,.list k_2 [zf4 c,zf4 x]⟩,⟨false,.nils⟩,⟨false,.nils⟩]:=by
 rw [← Zk,← Zk]
 rfl
theorem zx3 (s:Tx) (l:List Tx) (c:Co) (i:Nat) (h:i < l.length) (hl:l.length < 1000000000) (h1:C Ld [dCo (bJ l[i])] σ=some (.ret ⟨false,dCo (bJ l[i])⟩,σ)):exec C n none Yh (Eap s l c i) σ=some (.normal,Eap s l (appC' c (bJ l[i])) (i + 1),σ):=by
 have hlt:((i:Int) < (l.length:Int)):=by omega
 have w:=aR (i:=i) (by omega)
 have hx:=jU (k:=k_2) (sz:=10) rfl dCo (l.map bJ) i (by simpa using h)
 rw [List.getElem_map] at hx
 have hbx:=ztp c (bJ l[i])
 have hd:dCo (bJ l[i])=.agg [.int .i64 1,.int .i64 0,.str l[i],.int .i64 0,.int .i64 0,.str [],.nils,.nils,.nils,.nils]:=cH _
 have hb2:zf4 (bJ l[i])=.agg [.int .i64 1,.int .i64 0,.str l[i],.int .i64 0,.int .i64 0,.str [],.nils,.nils,.nils,.nils]:=by rw [← Zk]; exact hd
 rw [hd] at h1 hx
 rw [hb2] at hbx
 have hcs:dCs (l.map bJ)=bE k_2 ((l.map bJ).map dCo):=rfl
 rw [← hcs] at hx
 have hon:=fF c
 simp only [zf4] at hbx
 have hbc:Ax c=[⟨false,.int .i64 c.f⟩,⟨false,.int .i64 c.n⟩,⟨false,.str c.s⟩,⟨false,.int .i64 0⟩,⟨false,.int .i64 0⟩,⟨false,.str []⟩,⟨false,.nils⟩,⟨false,kD c⟩,⟨false,bD c⟩,⟨false,aD c⟩]:=rfl
 have hln:lenOf (dCs (l.map bJ))=some l.length:=by rw [zxg,List.length_map]
 simp only [Yh,Eap,hbx,sA,Nat.reduceAdd,Nat.reduceSub,Nat.reduceMul,Nat.reduceBEq,Nat.reduceLeDiff,Int.reduceBEq,Int.reduceBNe,Int.reduceLE,Int.reduceLT,Int.reduceGE,Int.reduceGT,Int.reduceNeg,kn,hlt,cL,hx,hbc,h1,hon,w]
theorem za1b (s:Tx) (l:List Tx) (c:Co):exec C n none Yh (Eap s l c l.length) σ=some (.exit 0,{Eap s l c l.length with slots:=[(10,⟨false,dCs (l.map bJ)⟩),(11,⟨false,.int .i64 l.length⟩),(12,⟨false,.int .i64 l.length⟩),(13,⟨false,.bool false⟩)]},σ):=by
 have hlt:¬ ((l.length:Int) < (l.length:Int)):=by omega
 simp only [Yh,Eap,sA,Nat.reduceAdd,Nat.reduceSub,Nat.reduceMul,Nat.reduceBEq,Nat.reduceLeDiff,Int.reduceBEq,Int.reduceBNe,Int.reduceLE,Int.reduceLT,Int.reduceGE,Int.reduceGT,Int.reduceNeg,kn,hlt]
end
theorem zs4 (l:List Tx) (hl:l.length < 100000000):OkP Ot [dSs l] ⟨false,dCs (l.map bJ)⟩:=by
 have h0:=gI (body:=exec (W SV 1) 1000000000 none Yr) (fun i=>Eva l i) (fun _=>σ0) l.length (r:=_) (fun _ _ h=>by cases h) (fun i hi=>zamb l i hi (by omega) (zwc (S:=SV) rfl _ 0 σ0)) (zcub l) 0 1000000000 (by omega) (by omega)
 have e0:dCs (([]:List Tx).map bJ)=.nils:=rfl
 simp only [Eva,bV,List.take_zero,e0,xR] at h0
 have hln:=nW l
 refine OkP.weak (o:=ow l.length) rfl (pO (af:=zdu) (n:=1000000000) (σ':=σ0) (mX SV 1) rfl rfl (by simp [aX,cQ]) (by rw [dCs,jE]; exact iR iE _) ?_)
 simp only [zdu,sA,Nat.reduceAdd,Nat.reduceSub,Nat.reduceMul,Nat.reduceBEq,Nat.reduceLeDiff,Int.reduceBEq,Int.reduceBNe,Int.reduceLE,Int.reduceLT,Int.reduceGE,Int.reduceGT,Int.reduceNeg,kn,hln,h0]
theorem zta (s:Tx) (l:List Tx) (hl:l.length < 100000000):OkP zag [dCo (bJ s),dCs (l.map bJ)] ⟨false,dCo (jH (bJ s) l)⟩:=by
 have h0:=gI (body:=exec (W SV 1) 1000000000 none Yh) (fun i=>Eap s l (jH (bJ s) (l.take i)) i) (fun _=>σ0) l.length (r:=_) (fun _ _ h=>by cases h) (fun i hi=>by
  have:=zx3 (C:=W SV 1) (n:=1000000000) (σ:=σ0) s l (jH (bJ s) (l.take i)) i hi (by omega) (zp6 (S:=SV) rfl _ 0 σ0)
  rw [← zjb,fL l i hi] at this
  exact this) (za1b s l _) 0 1000000000 (by omega) (by omega)
 have e0:jH (bJ s) (l.take 0)=bJ s:=rfl
 have hbv:Ax (bJ s)=[⟨false,.int .i64 1⟩,⟨false,.int .i64 0⟩,⟨false,.str s⟩,⟨false,.int .i64 0⟩,⟨false,.int .i64 0⟩,⟨false,.str []⟩,⟨false,.nils⟩,⟨false,.nils⟩,⟨false,.nils⟩,⟨false,.nils⟩]:=rfl
 rw [List.take_length] at h0
 generalize jH (bJ s) l=gm at *
 have hbc:Ax gm=[⟨false,.int .i64 gm.f⟩,⟨false,.int .i64 gm.n⟩,⟨false,.str gm.s⟩,⟨false,.int .i64 0⟩,⟨false,.int .i64 0⟩,⟨false,.str []⟩,⟨false,.nils⟩,⟨false,kD gm⟩,⟨false,bD gm⟩,⟨false,aD gm⟩]:=rfl
 simp only [Eap,zC,bV,e0,hbv,hbc] at h0
 have hd:dCo (bJ s)=.agg [.int .i64 1,.int .i64 0,.str s,.int .i64 0,.int .i64 0,.str [],.nils,.nils,.nils,.nils]:=cH _
 have hdg:=bY gm
 have ho:=zp6 (S:=SV) rfl s 0 σ0
 have hln:lenOf (dCs (l.map bJ))=some l.length:=by rw [zxg,List.length_map]
 have hon:=fF gm
 rw [hd] at ho
 refine pO (af:=zc7) (n:=1000000000) (σ':=σ0) (mX SV 1) rfl rfl (by simp only [aX,iE,dCs,jE,Bool.true_and,Bool.and_true]; exact iR iE _) (iE _) ?_
 rw [hd,hdg]
 simp only [zc7,sA,Nat.reduceAdd,Nat.reduceSub,Nat.reduceMul,Nat.reduceBEq,Nat.reduceLeDiff,Int.reduceBEq,Int.reduceBNe,Int.reduceLE,Int.reduceLT,Int.reduceGE,Int.reduceGT,Int.reduceNeg,kn,ho,hln,h0,hon]
def zmc:List D→Cell→Prop:=fun ds c=>∀ l:List Tx,ds=[dSs l]→c=⟨false,dCs (l.map bJ)⟩
theorem zazb {S:aV} (hS:aB S Ot=some zmc) (l:List Tx) (hl:l.length < 100000000) (n:Nat) (σ:Store):W S (n + 1) Ot [dSs l] σ=some (.ret ⟨false,dCs (l.map bJ)⟩,σ):=by
 obtain ⟨c,h1,h2⟩:=nP (S:=S) hS rfl (c:=⟨false,dCs (l.map bJ)⟩) (fun s' e=>by
  simp only [List.cons.injEq,and_true] at e
  rw [iH e]) (zs4 l hl)
 rw [h2,h1 l rfl]
theorem zv5 {a b:List Tx} (h:dCs (a.map bJ)=dCs (b.map bJ)):a=b:=by
 have h1:=zyg h
 have:∀ a b:List Tx,a.map bJ=b.map bJ→a=b:=by
  intro a
  induction a with
  | nil=>intro b h; cases b with
   | nil=>rfl
   | cons x r=>simp at h
  | cons x r ih=>intro b h; cases b with
   | nil=>simp at h
   | cons y r2 =>
    simp only [List.map_cons,List.cons.injEq] at h
    have e:x=y:=by simpa [bJ] using h.1
    rw [e,ih _ h.2]
 exact this a b h1
def zsm:List D→Cell→Prop:=fun ds c=>∀ s (l:List Tx),ds=[dCo (bJ s),dCs (l.map bJ)]→c=⟨false,dCo (jH (bJ s) l)⟩
theorem zc6b {S:aV} (hS:aB S zag=some zsm) (s:Tx) (l:List Tx) (hl:l.length < 100000000) (n:Nat) (σ:Store):W S (n + 1) zag [dCo (bJ s),dCs (l.map bJ)] σ=some (.ret ⟨false,dCo (jH (bJ s) l)⟩,σ):=by
 obtain ⟨c,h1,h2⟩:=nP (S:=S) hS rfl (c:=⟨false,dCo (jH (bJ s) l)⟩) (fun s' l' e=>by
  simp only [List.cons.injEq,and_true] at e
  rw [zim e.1,zv5 e.2]) (zta s l hl)
 rw [h2,h1 s l rfl]
def zma:List D→Cell→Prop:=fun ds c=>∀ (x:Co) so,ds=[dCo x,dSs so]→c=⟨false,dSs (fW x.size x [] so [])⟩
theorem zayb {S:aV} (hS:aB S Oq=some zma) (x:Co) (so:List Tx) (hw:Wf x) (hsz:x.size < 10000000) (hs:so.length < 10000000) (n:Nat) (σ:Store):W S (n + 1) Oq [dCo x,dSs so] σ=some (.ret ⟨false,dSs (fW x.size x [] so [])⟩,σ):=by
 obtain ⟨c,h1,h2⟩:=nP (S:=S) hS rfl (c:=⟨false,dSs (fW x.size x [] so [])⟩) (fun s' l' e=>by
  simp only [List.cons.injEq,and_true] at e
  rw [rX e.1,iH e.2]) (zrc x so hw hsz hs)
 rw [h2,h1 x so rfl]
end Go.Fu
namespace Go.Fu
open Go Go.Mx
set_option maxRecDepth 10000
set_option maxHeartbeats 4000000
def eP (k:RowK) (id:Nat):Nat→D
 | 0=>.nils
 | n + 1=>.arr k id 0 (n + 1)
theorem oP (k:RowK) (id n:Nat) (h:n≠0):eP k id n=.arr k id 0 n:=by
 cases n with
 | zero=>exact absurd rfl h
 | succ n=>rfl
theorem yQ (k:RowK) (id n:Nat):lenOf (eP k id n)=some n:=by cases n <;> rfl
theorem Hk (k:RowK) (id n:Nat):(eP k id n).one=true∧(eP k id n).ok=true∧(eP k id n).cells=[eP k id n]:=by cases n <;> exact ⟨rfl,rfl,rfl⟩
theorem zhw:∀ (a b:List Cell) (o:Nat) (new:List Cell),putCells (a ++ b) (a.length + o) new=a ++ putCells b o new
 | [],b,o,new=>by simp
 | x :: a,b,o,[]=>by
  have:∀ (l:List Cell) (n:Nat),putCells l n []=l:=fun l n=>by cases l <;> cases n <;> rfl
  rw [this,this]
 | x :: a,b,o,y :: new=>by
  rw [List.cons_append,List.length_cons,show a.length + 1 + o=(a.length + o) + 1 by omega]
  simp only [putCells,zhw a b o (y :: new),List.cons_append]
theorem zhx (l:List Cell) (n:Nat):putCells l n []=l:=by cases l <;> cases n <;> rfl
theorem zat:∀ (b r:List Cell) (o:Nat) (new:List Cell),o + new.length≤b.length→putCells (b ++ r) o new=putCells b o new ++ r
 | b,r,o,[],_=>by rw [zhx,zhx]
 | [],r,o,y :: new,h=>by simp at h
 | x :: b,r,0,y :: new,h=>by
  simp only [List.cons_append,putCells]
  rw [zat b r 0 new (by simp at h ⊢; omega)]
 | x :: b,r,o + 1,y :: new,h=>by
  simp only [List.cons_append,putCells]
  rw [zat b r o (y :: new) (by simp at h ⊢; omega)]
theorem zb2:∀ (a b:List Cell) (o n:Nat),iM (a ++ b) (a.length + o) (n + 1)=iM b o (n + 1)
 | [],b,o,n=>by simp
 | x :: a,b,o,n=>by
  rw [List.cons_append,List.length_cons,show a.length + 1 + o=(a.length + o) + 1 by omega,iM,zb2 a b o n]
theorem vS:∀ (b r:List Cell),iM (b ++ r) 0 b.length=some (b.map fun c=>c.d)
 | [],r=>by cases r <;> rfl
 | x :: b,r=>by
  rw [List.cons_append,List.length_cons,iM,vS b r]
  rfl
theorem jD' {α:Type} {g:α→D} {sz:Nat} (h:∀ x,(g x).cells.length=sz):∀ l:List α,(cellsOf (l.map g)).length=l.length * sz
 | []=>by simp [cellsOf]
 | x :: l=>by
  rw [List.map_cons,cellsOf,List.length_append,List.length_map,h,jD' h l,List.length_cons]
  rw [Nat.add_mul]
  omega
theorem Nn {α:Type} (g:α→D) (l:List α) (i:Nat) (hi:i < l.length):cellsOf (l.map g)=cellsOf ((l.take i).map g) ++ ((g l[i]).cells.map Cell.of ++ cellsOf ((l.drop (i + 1)).map g)):=by
 have e:l=l.take i ++ (l[i] :: l.drop (i + 1)):=by
  rw [← List.drop_eq_getElem_cons hi,List.take_append_drop]
 have:cellsOf (l.map g)=cellsOf ((l.take i ++ (l[i] :: l.drop (i + 1))).map g):=congrArg (fun x=>cellsOf (x.map g)) e
 rw [this,List.map_append,nA,List.map_cons,cellsOf]
theorem zax {α:Type} {g:α→D} {sz:Nat} (hs:∀ x,(g x).cells.length=sz) (l:List α) (i:Nat) (hi:i < l.length) (o:Nat) (new:List Cell) (x':α) (ho:o + new.length≤sz) (hx:putCells ((g l[i]).cells.map Cell.of) o new=(g x').cells.map Cell.of):putCells (cellsOf (l.map g)) (i * sz + o) new=cellsOf ((l.set i x').map g):=by
 have hl:=jD' (sz:=sz) hs (l.take i)
 rw [List.length_take,Nat.min_eq_left (by omega)] at hl
 have hi2:i < (l.set i x').length:=by simpa using hi
 rw [Nn g l i hi,Nn g (l.set i x') i hi2,← hl,zhw,zat _ _ _ _ (by rw [List.length_map,hs]; exact ho),hx]
 have e1:(l.set i x').take i=l.take i:=by rw [List.take_set_of_le (Nat.le_refl i)]
 have e2:(l.set i x').drop (i + 1)=l.drop (i + 1):=by rw [List.drop_set_of_lt (Nat.lt_succ_self i)]
 rw [e1,e2]
 simp
theorem ziy {S:aV} (hs:has S Gp=false) (σ:Store) (l:List (Tx × Co)) (hl:l.length < 100000000):∃ id σ',(∀ n,W S (n + 1) Gp [bE k_3 (l.map dB)] σ=some (.ret ⟨false,eP k_3 id l.length⟩,σ'))∧FrA σ σ'∧σ.next≤id ∧
  (l≠[]→aB σ'.objs id=some (cellsOf (l.map dB))∧id < σ'.next):=by
 by_cases hne:l=[]
 ·subst hne
  refine ⟨σ.next,σ,fun n=>?_,FrA.refl,Nat.le_refl _,fun h=>absurd rfl h⟩
  rw [bC (af:=cX) hs rfl rfl]
  have e:bE k_3 (([]:List (Tx × Co)).map dB)=.nils:=rfl
  simp only [cX,e,sA,Nat.reduceAdd,Nat.reduceSub,Nat.reduceMul,Nat.reduceBEq,Nat.reduceLeDiff,Int.reduceBEq,Int.reduceBNe,Int.reduceLE,Int.reduceLT,Int.reduceGE,Int.reduceGT,Int.reduceNeg,kn]
  rfl
 ·have e2:decide ((0 + l.length) * 232≤bG)=true:=decide_eq_true (show (0 + l.length) * 232≤1099511627776 by omega)
  have e3:decide (0 + l.length≤bG)=true:=decide_eq_true (show 0 + l.length≤1099511627776 by omega)
  have hall:bI k_3.sz (l.map dB)=true:=mO fun d hd=>by
   obtain ⟨s,_,rfl⟩:=List.mem_map.1 hd
   exact ⟨zxn s,rK s⟩
  refine ⟨σ.next + 2,aN {aN σ k_3 [] with objs:=aY (aN σ k_3 []).objs σ.next} k_3 (cellsOf (l.map dB)),fun n=>?_,⟨?_,fun j h1=>?_,fun j h1=>?_,fun j h1=>rfl⟩,by omega,fun _=>⟨agS _ _ _,by simp [aN]⟩⟩
  ·rw [bC (af:=cX) hs rfl rfl]
   have hnil:(bE k_3 (l.map dB)).isNilS?=some false:=by
    cases l with
    | nil=>exact absurd rfl hne
    | cons x r=>rfl
   have hli:∀ os,eB os (bE k_3 (l.map dB))=some (l.map dB):=fun os=>by rw [nD]
   have hap:bP (aN σ k_3 []) k_3 232 (.arr k_3 σ.next 0 0) (l.map dB)=some (.arr k_3 (σ.next + 2) 0 l.length,aN {aN σ k_3 [] with objs:=aY (aN σ k_3 []).objs σ.next} k_3 (cellsOf (l.map dB))):=by
    have g1:aB (aN σ k_3 []).objs σ.next=some []:=agS _ _ _
    have g2:aB (aN σ k_3 []).tys σ.next=some ⟨k_3.el,k_3.sz⟩:=agS _ _ _
    have ek:k_3.same k_3=true:=rfl
    have hlm:(l.map dB).length=l.length:=List.length_map ..
    simp only [bP,hall,aE,g1,g2,aC,aF,ek,beq_self_eq_true,hlm,Nat.zero_mul,List.take_zero,List.map_nil,List.nil_append,Nat.zero_add,Nat.zero_le,decide_true] at e2 e3 ⊢
    simp only [e2,e3,Bool.and_self,aE]
    rfl
   have hc0:cellsOf []=[]:=rfl
   have hag:eP k_3 (σ.next + 2) l.length=.arr k_3 (σ.next + 2) 0 l.length:=oP _ _ _ (fun h=>hne (List.length_eq_zero_iff.1 h))
   rw [hag]
   simp only [cX,sA,Nat.reduceAdd,Nat.reduceSub,Nat.reduceMul,Nat.reduceBEq,Nat.reduceLeDiff,Int.reduceBEq,Int.reduceBNe,Int.reduceLE,Int.reduceLT,Int.reduceGE,Int.reduceGT,Int.reduceNeg,kn,hnil,bF,mB,hc0,hli,hap]
  ·simp only [aN]; omega
  ·simp only [aN]
   rw [agC _ _ _ _ (by omega),agD _ _ (by omega),agC _ _ _ _ (by omega)]
  ·simp only [aN]
   rw [agC _ _ _ _ (by omega),agC _ _ _ _ (by omega)]
theorem zna {S:aV} (hs:has S Gq=false) (σ:Store) (l:List (Co)) (hl:l.length < 100000000):∃ id σ',(∀ n,W S (n + 1) Gq [bE k_2 (l.map dCo)] σ=some (.ret ⟨false,eP k_2 id l.length⟩,σ'))∧FrA σ σ'∧σ.next≤id ∧
  (l≠[]→aB σ'.objs id=some (cellsOf (l.map dCo))∧id < σ'.next):=by
 by_cases hne:l=[]
 ·subst hne
  refine ⟨σ.next,σ,fun n=>?_,FrA.refl,Nat.le_refl _,fun h=>absurd rfl h⟩
  rw [bC (af:=dP) hs rfl rfl]
  have e:bE k_2 (([]:List (Co)).map dCo)=.nils:=rfl
  simp only [dP,e,sA,Nat.reduceAdd,Nat.reduceSub,Nat.reduceMul,Nat.reduceBEq,Nat.reduceLeDiff,Int.reduceBEq,Int.reduceBNe,Int.reduceLE,Int.reduceLT,Int.reduceGE,Int.reduceGT,Int.reduceNeg,kn]
  rfl
 ·have e2:decide ((0 + l.length) * 160≤bG)=true:=decide_eq_true (show (0 + l.length) * 160≤1099511627776 by omega)
  have e3:decide (0 + l.length≤bG)=true:=decide_eq_true (show 0 + l.length≤1099511627776 by omega)
  have hall:bI k_2.sz (l.map dCo)=true:=mO fun d hd=>by
   obtain ⟨s,_,rfl⟩:=List.mem_map.1 hd
   exact ⟨yT s,iY s⟩
  refine ⟨σ.next + 2,aN {aN σ k_2 [] with objs:=aY (aN σ k_2 []).objs σ.next} k_2 (cellsOf (l.map dCo)),fun n=>?_,⟨?_,fun j h1=>?_,fun j h1=>?_,fun j h1=>rfl⟩,by omega,fun _=>⟨agS _ _ _,by simp [aN]⟩⟩
  ·rw [bC (af:=dP) hs rfl rfl]
   have hnil:(bE k_2 (l.map dCo)).isNilS?=some false:=by
    cases l with
    | nil=>exact absurd rfl hne
    | cons x r=>rfl
   have hli:∀ os,eB os (bE k_2 (l.map dCo))=some (l.map dCo):=fun os=>by rw [nD]
   have hap:bP (aN σ k_2 []) k_2 160 (.arr k_2 σ.next 0 0) (l.map dCo)=some (.arr k_2 (σ.next + 2) 0 l.length,aN {aN σ k_2 [] with objs:=aY (aN σ k_2 []).objs σ.next} k_2 (cellsOf (l.map dCo))):=by
    have g1:aB (aN σ k_2 []).objs σ.next=some []:=agS _ _ _
    have g2:aB (aN σ k_2 []).tys σ.next=some ⟨k_2.el,k_2.sz⟩:=agS _ _ _
    have ek:k_2.same k_2=true:=rfl
    have hlm:(l.map dCo).length=l.length:=List.length_map ..
    simp only [bP,hall,aE,g1,g2,aC,aF,ek,beq_self_eq_true,hlm,Nat.zero_mul,List.take_zero,List.map_nil,List.nil_append,Nat.zero_add,Nat.zero_le,decide_true] at e2 e3 ⊢
    simp only [e2,e3,Bool.and_self,aE]
    rfl
   have hc0:cellsOf []=[]:=rfl
   have hag:eP k_2 (σ.next + 2) l.length=.arr k_2 (σ.next + 2) 0 l.length:=oP _ _ _ (fun h=>hne (List.length_eq_zero_iff.1 h))
   rw [hag]
   simp only [dP,sA,Nat.reduceAdd,Nat.reduceSub,Nat.reduceMul,Nat.reduceBEq,Nat.reduceLeDiff,Int.reduceBEq,Int.reduceBNe,Int.reduceLE,Int.reduceLT,Int.reduceGE,Int.reduceGT,Int.reduceNeg,kn,hnil,bF,mB,hc0,hli,hap]
  ·simp only [aN]; omega
  ·simp only [aN]
   rw [agC _ _ _ _ (by omega),agD _ _ (by omega),agC _ _ _ _ (by omega)]
  ·simp only [aN]
   rw [agC _ _ _ _ (by omega),agC _ _ _ _ (by omega)]
theorem zqq {S:aV} (hs:has S Gn=false) (σ:Store) (l:List (Hd × Co)) (hl:l.length < 100000000):∃ id σ',(∀ n,W S (n + 1) Gn [bE k_4 (l.map dA)] σ=some (.ret ⟨false,eP k_4 id l.length⟩,σ'))∧FrA σ σ'∧σ.next≤id ∧
  (l≠[]→aB σ'.objs id=some (cellsOf (l.map dA))∧id < σ'.next):=by
 by_cases hne:l=[]
 ·subst hne
  refine ⟨σ.next,σ,fun n=>?_,FrA.refl,Nat.le_refl _,fun h=>absurd rfl h⟩
  rw [bC (af:=dX) hs rfl rfl]
  have e:bE k_4 (([]:List (Hd × Co)).map dA)=.nils:=rfl
  simp only [dX,e,sA,Nat.reduceAdd,Nat.reduceSub,Nat.reduceMul,Nat.reduceBEq,Nat.reduceLeDiff,Int.reduceBEq,Int.reduceBNe,Int.reduceLE,Int.reduceLT,Int.reduceGE,Int.reduceGT,Int.reduceNeg,kn]
  rfl
 ·have e2:decide ((0 + l.length) * 216≤bG)=true:=decide_eq_true (show (0 + l.length) * 216≤1099511627776 by omega)
  have e3:decide (0 + l.length≤bG)=true:=decide_eq_true (show 0 + l.length≤1099511627776 by omega)
  have hall:bI k_4.sz (l.map dA)=true:=mO fun d hd=>by
   obtain ⟨s,_,rfl⟩:=List.mem_map.1 hd
   exact ⟨zxm s,tW s⟩
  refine ⟨σ.next + 2,aN {aN σ k_4 [] with objs:=aY (aN σ k_4 []).objs σ.next} k_4 (cellsOf (l.map dA)),fun n=>?_,⟨?_,fun j h1=>?_,fun j h1=>?_,fun j h1=>rfl⟩,by omega,fun _=>⟨agS _ _ _,by simp [aN]⟩⟩
  ·rw [bC (af:=dX) hs rfl rfl]
   have hnil:(bE k_4 (l.map dA)).isNilS?=some false:=by
    cases l with
    | nil=>exact absurd rfl hne
    | cons x r=>rfl
   have hli:∀ os,eB os (bE k_4 (l.map dA))=some (l.map dA):=fun os=>by rw [nD]
   have hap:bP (aN σ k_4 []) k_4 216 (.arr k_4 σ.next 0 0) (l.map dA)=some (.arr k_4 (σ.next + 2) 0 l.length,aN {aN σ k_4 [] with objs:=aY (aN σ k_4 []).objs σ.next} k_4 (cellsOf (l.map dA))):=by
    have g1:aB (aN σ k_4 []).objs σ.next=some []:=agS _ _ _
    have g2:aB (aN σ k_4 []).tys σ.next=some ⟨k_4.el,k_4.sz⟩:=agS _ _ _
    have ek:k_4.same k_4=true:=rfl
    have hlm:(l.map dA).length=l.length:=List.length_map ..
    simp only [bP,hall,aE,g1,g2,aC,aF,ek,beq_self_eq_true,hlm,Nat.zero_mul,List.take_zero,List.map_nil,List.nil_append,Nat.zero_add,Nat.zero_le,decide_true] at e2 e3 ⊢
    simp only [e2,e3,Bool.and_self,aE]
    rfl
   have hc0:cellsOf []=[]:=rfl
   have hag:eP k_4 (σ.next + 2) l.length=.arr k_4 (σ.next + 2) 0 l.length:=oP _ _ _ (fun h=>hne (List.length_eq_zero_iff.1 h))
   rw [hag]
   simp only [dX,sA,Nat.reduceAdd,Nat.reduceSub,Nat.reduceMul,Nat.reduceBEq,Nat.reduceLeDiff,Int.reduceBEq,Int.reduceBNe,Int.reduceLE,Int.reduceLT,Int.reduceGE,Int.reduceGT,Int.reduceNeg,kn,hnil,bF,mB,hc0,hli,hap]
  ·simp only [aN]; omega
  ·simp only [aN]
   rw [agC _ _ _ _ (by omega),agD _ _ (by omega),agC _ _ _ _ (by omega)]
  ·simp only [aN]
   rw [agC _ _ _ _ (by omega),agC _ _ _ _ (by omega)]
end Go.Fu
namespace Go.Fu
open Go Go.Mx
set_option maxRecDepth 10000
set_option maxHeartbeats 4000000
theorem zD {α:Type} {g:α→D} {sz:Nat} (hs:∀ x,(g x).cells.length=sz + 1) (l:List α) (i:Nat) (hi:i < l.length):iM (cellsOf (l.map g)) (i * (sz + 1)) (sz + 1)=some (g l[i]).cells:=by
 have hl:=jD' (sz:=sz + 1) hs (l.take i)
 rw [List.length_take,Nat.min_eq_left (by omega)] at hl
 rw [Nn g l i hi,← hl,show (cellsOf ((l.take i).map g)).length=(cellsOf ((l.take i).map g)).length + 0 by omega,zb2]
 have:=vS ((g l[i]).cells.map Cell.of) (cellsOf ((l.drop (i + 1)).map g))
 rw [List.length_map,hs] at this
 rw [this,List.map_map]
 congr 1
 exact List.map_id'' (fun _=>rfl) _
def SP:aV:=[(Gl,zib),(zag,zsm),(Ot,zmc),(Oq,zma),(nX,Eb),(n_9,zG)]
theorem zc7b {S:aV} (hS:aB S n_9=some zG) (b:Tx × Co) (n:Nat) (σ:Store):W S (n + 1) n_9 [dB b] σ=some (.ret ⟨false,.str b.1⟩,σ):=by
 obtain ⟨c,h1,h2⟩:=nP (S:=S) hS rfl (c:=⟨false,.str b.1⟩) (fun a h=>by
  simp only [List.cons.injEq,and_true] at h
  rw [zgf h]) (zf3 b)
 rw [h2,h1 b rfl]
section
variable {C:aM} {n:Nat} {σ:Store}
def Ena' (id:Nat) (bs:List (Tx × Co)) (i:Nat):Env:={slots:=[(1,⟨false,bnF⟩),(5,⟨ow i,dSs ((bs.take i).map Prod.fst)⟩),(8,⟨false,.arr k_3 id 0 bs.length⟩),(9,⟨false,.int .i64 bs.length⟩),(10,⟨false,.int .i64 i⟩)],locs:=[],boxes:=[],defers:=[]}
theorem na'_step (id:Nat) (bs:List (Tx × Co)) (ha:aB σ.objs id=some (cellsOf (bs.map dB))) (i:Nat) (h:i < bs.length) (hl:bs.length < 1000000000) (h1:∀ b σ,C n_9 [dB b] σ=some (.ret ⟨false,.str b.1⟩,σ)):exec C n none vY (Ena' id bs i) σ=some (.normal,Ena' id bs (i + 1),σ):=by
 have hlt:((i:Int) < (bs.length:Int)):=by omega
 have w:=aR (i:=i) (by omega)
 have ht:=zD (g:=dB) (sz:=14) rK bs i h
 have ha2:=tQ ((bs.take i).map Prod.fst) bs[i].1 (ow i) (fun hne=>by
  cases i with
  | zero=>exact absurd rfl hne
  | succ i=>rfl) (by simp; omega)
 rw [zhf bs i h] at ha2
 have h2:=h1 bs[i] σ
 have hfn:D.fn? bnF=some (n_9,[],[]):=rfl
 have es:(k_3.sz == 15)=true:=rfl
 generalize bs[i]=b at ht ha2 h2
 have hon:=fF b.2
 rw [yJ] at ht h2
 simp only [D.cells] at ht
 simp only [vY,Ena',sA,Nat.reduceAdd,Nat.reduceSub,Nat.reduceMul,Nat.reduceBEq,Nat.reduceLeDiff,Int.reduceBEq,Int.reduceBNe,Int.reduceLE,Int.reduceLT,Int.reduceGE,Int.reduceGT,Int.reduceNeg,kn,hlt,cL,jJ,es,h,Nat.zero_add,ha,ht,hon,hfn,h2,ha2,w,kP]
theorem na'_end (id:Nat) (bs:List (Tx × Co)):exec C n none vY (Ena' id bs bs.length) σ=some (.exit 0,{Ena' id bs bs.length with slots:=[(1,⟨false,bnF⟩),(5,⟨ow bs.length,dSs ((bs.take bs.length).map Prod.fst)⟩),(8,⟨false,.arr k_3 id 0 bs.length⟩),(9,⟨false,.int .i64 bs.length⟩),(10,⟨false,.int .i64 bs.length⟩),(11,⟨false,.bool false⟩)]},σ):=by
 have hlt:¬ ((bs.length:Int) < (bs.length:Int)):=by omega
 simp only [vY,Ena',sA,Nat.reduceAdd,Nat.reduceSub,Nat.reduceMul,Nat.reduceBEq,Nat.reduceLeDiff,Int.reduceBEq,Int.reduceBNe,Int.reduceLE,Int.reduceLT,Int.reduceGE,Int.reduceGT,Int.reduceNeg,kn,hlt]
end
theorem zry {P:aV} (h0:has P rO=false) (hP:aB P n_9=some zG) (σ:Store) (id:Nat) (bs:List (Tx × Co)) (ha:bs≠[]→aB σ.objs id=some (cellsOf (bs.map dB))) (hl:bs.length < 300000000) (n:Nat) (hn:bs.length + 1 < n):W P (n + 1) rO [eP k_3 id bs.length,bnF] σ=some (.ret ⟨ow bs.length,dSs (bs.map Prod.fst)⟩,σ):=by
 obtain ⟨n,rfl⟩:∃ k,n=k + 1:=⟨n - 1,by omega⟩
 rw [bC (af:=Re) h0 rfl rfl]
 have e0:(bs.take 0).map Prod.fst=[]:=rfl
 have e1:dSs []=.nils:=rfl
 by_cases hne:bs=[]
 ·subst hne
  have e2:eP k_3 id ([]:List (Tx × Co)).length=.nils:=rfl
  have e3:ow ([]:List (Tx × Co)).length=false:=rfl
  have e4:dSs (([]:List (Tx × Co)).map Prod.fst)=.nils:=rfl
  rw [e2,e3,e4]
  have hlt:¬ ((0:Int) < (0:Int)):=by omega
  simp only [Re,vY,bnF,sA,Nat.reduceAdd,Nat.reduceSub,Nat.reduceMul,Nat.reduceBEq,Nat.reduceLeDiff,Int.reduceBEq,Int.reduceBNe,Int.reduceLE,Int.reduceLT,Int.reduceGE,Int.reduceGT,Int.reduceNeg,kn,dL,bV,hlt]
 ·have h1:=gI (body:=exec (W P (n + 1)) (n + 1) none vY) (fun i=>Ena' id bs i) (fun _=>σ) bs.length (r:=_) (fun _ _ h=>by cases h) (fun i hi=>na'_step id bs (ha hne) i hi (by omega) (fun x σ=>zc7b hP x n σ)) (na'_end id bs) 0 (n + 1) (by omega) (by omega)
  rw [List.take_length] at h1
  rw [oP _ _ _ (fun h=>hne (List.length_eq_zero_iff.1 h))]
  simp only [Ena',bV,e0,e1,xR] at h1
  simp only [Re,sA,Nat.reduceAdd,Nat.reduceSub,Nat.reduceMul,Nat.reduceBEq,Nat.reduceLeDiff,Int.reduceBEq,Int.reduceBNe,Int.reduceLE,Int.reduceLT,Int.reduceGE,Int.reduceGT,Int.reduceNeg,kn,h1]
def tR (a:Nat) (l:List Su):D:=eP k_5 a l.length
structure FSt (σ:Store) (p a:Nat) (t:Tx) (m:List Su):Prop where
 obj:aB σ.objs p=some [⟨false,.str t⟩,⟨false,tR a m⟩]
 arr:m≠[]→aB σ.objs a=some (cellsOf (m.map dU))∧aB σ.tys a=some ⟨k_5.el,k_5.sz⟩
 pa:p≠a
 pn:p < σ.next
 an:m≠[]→a < σ.next
theorem FSt.keep {σ σ':Store} {p a:Nat} {t:Tx} {m:List Su} (h:FSt σ p a t m) (hn:σ.next≤σ'.next) (h1:aB σ'.objs p=aB σ.objs p) (h2:m≠[]→aB σ'.objs a=aB σ.objs a) (h3:m≠[]→aB σ'.tys a=aB σ.tys a):FSt σ' p a t m :=
 ⟨by rw [h1]; exact h.obj,fun hL=>by rw [h2 hL,h3 hL]; exact h.arr hL,h.pa,Nat.lt_of_lt_of_le h.pn hn,fun e=>Nat.lt_of_lt_of_le (h.an e) hn⟩
theorem FSt.fa {σ σ':Store} {p a:Nat} {t:Tx} {m:List Su} (h:FSt σ p a t m) (f:FrA σ σ'):FSt σ' p a t m:=h.keep f.nx (f.ob _ h.pn) (fun e=>f.ob _ (h.an e)) (fun e=>f.ty _ (h.an e))
theorem FSt.so {σ:Store} {p a:Nat} {t:Tx} {m:List Su} (h:FSt σ p a t m) {id:Nat} {cs:List Cell} (h1:id≠p) (h2:id≠a):FSt (SO σ id cs) p a t m:=h.keep (Nat.le_refl _) (eK (fun e=>h1 e.symm)) (fun _=>eK (fun e=>h2 e.symm)) (fun _=>rfl)
theorem FSt.any {σ:Store} {p a b:Nat} {t:Tx} {m:List Su} (h:FSt σ p a t m) (hm:m=[]) (hb:p≠b):FSt σ p b t m:=⟨by subst hm; exact h.obj,fun e=>absurd hm e,hb,h.pn,fun e=>absurd hm e⟩
def wP (p:Nat) (t:Tx) (c:Co) (lz:Bool) (g:List Tx) (F:List Su→Co × List Su):Prop:=∀ (σ:Store) (a:Nat) (m:List Su),FSt σ p a t m→m.length + c.size < 50000000→∃ σ' a',Ret SP sY [.ptr p 0,dCo c,.bool lz,dSs g] σ (dCo (F m).1) σ'∧FSt σ' p a' t (F m).2∧Frm p a 0 a' 0 σ σ'
section
def boxA (c:Co) (ki bi ai:Nat):List Cell:=[⟨false,.int .i64 c.f⟩,⟨false,.int .i64 c.n⟩,⟨false,.str c.s⟩,⟨false,.int .i64 0⟩,⟨false,.int .i64 0⟩,⟨false,.str []⟩,⟨false,.nils⟩,⟨false,eP k_2 ki c.ks.length⟩,⟨false,eP k_3 bi c.bs.length⟩,⟨false,eP k_4 ai c.al.length⟩]
def Ep0 (p:Nat) (c:Co) (lz:Bool) (g:List Tx) (ki bi ai i:Nat):Env:={slots:=[(0,⟨false,.ptr p 0⟩),(2,⟨false,.bool lz⟩),(3,⟨false,dSs g⟩),(87,⟨false,eP k_3 bi c.bs.length⟩),(88,⟨false,.int .i64 c.bs.length⟩),(89,⟨false,.int .i64 i⟩)],locs:=[(5,(5,0)),(8,(8,0))],boxes:=[(5,boxA c ki bi ai),(8,zC)],defers:=[]}
theorem zcdb (b:Tx × Co) (x:Co):putCells ((dB b).cells.map Cell.of) 5 ((dCo x).cells.map Cell.of)=(dB (b.1,x)).cells.map Cell.of:=by
 rw [yJ,yJ,bY]
 rfl
theorem zzz {C:aM} {n:Nat} {σ σ1:Store} (p:Nat) (c:Co) (lz:Bool) (g:List Tx) (ki bi ai i:Nat) (L:List (Tx × Co)) (hL:L.length=c.bs.length) (hi:i < c.bs.length) (hl:c.bs.length < 1000000000) (ha:aB σ.objs bi=some (cellsOf (L.map dB))) (ha1:aB σ1.objs bi=some (cellsOf (L.map dB))) (x:Co)
  (h1:C sY [.ptr p 0,dCo (L[i]'(by omega)).2,.bool true,dSs g] σ=some (.ret ⟨false,dCo x⟩,σ1)) :
  exec C n none fZ (Ep0 p c lz g ki bi ai i) σ=some (.normal,Ep0 p c lz g ki bi ai (i + 1),SO σ1 bi (cellsOf ((L.set i ((L[i]'(by omega)).1,x)).map dB))):=by
 have hlt:((i:Int) < (c.bs.length:Int)):=by omega
 have w:=aR (i:=i) (by omega)
 have hiL:i < L.length:=by omega
 have ht:=zD (g:=dB) (sz:=14) rK L i hiL
 have hpd:=zcdb (L[i]'hiL) x
 have hp:=zax (g:=dB) (sz:=15) rK L i hiL 5 ((dCo x).cells.map Cell.of) ((L[i]'hiL).1,x) (by rw [List.length_map,iY]; omega) hpd
 have es:(k_3.sz == 15)=true:=rfl
 have hag:=oP k_3 bi c.bs.length (by omega)
 have hfit:i * 15 + 5 + 10≤(cellsOf (L.map dB)).length:=by
  rw [jD' (sz:=15) rK]
  have:(i + 1) * 15≤L.length * 15:=Nat.mul_le_mul_right _ (by omega)
  omega
 generalize L[i]'hiL=b at ht h1 hp
 have hon:=fF b.2
 have hok:=yT x
 have hce:(dCo x).cells.length=10:=iY x
 have hone:(dCo x).one=false:=by rw [bY]; rfl
 rw [yJ] at ht
 rw [bY] at h1
 simp only [D.cells] at ht
 simp only [fZ,Ep0,boxA,zC,sA,Nat.reduceAdd,Nat.reduceSub,Nat.reduceMul,Nat.reduceBEq,Nat.reduceLeDiff,Int.reduceBEq,Int.reduceBNe,Int.reduceLE,Int.reduceLT,Int.reduceGE,Int.reduceGT,Int.reduceNeg,kn,bF,mB,hlt,cL,hag,jJ,es,hi,Nat.zero_add,ha,ht,hon,h1,ha1,hok,hce,hfit,hone,hp,w]
end
end Go.Fu

/-
 A name,given others,by the program.
-/
import Derived.Test.YtldfbnbckiifeaaGreatDoorFgDu
set_option maxHeartbeats 4000000
set_option linter.unusedSimpArgs false
set_option linter.unusedVariables false
set_option linter.unusedSectionVars false
namespace Go.Fu
open Go Go.Mx
set_option maxRecDepth 10000
set_option maxHeartbeats 4000000
def zT:D:=.agg [.int .i64 0,.int .i64 0,.str [],.nils]
theorem zy9 (n:Nat) (σ:Store):W SE (n + 2) zhu [zT] σ=some (.ret ⟨false,zT⟩,σ):=by
 rw [eH (af:=zgz) rfl rfl rfl]
 have hlt:¬ ((0:Int) < (0:Int)):=by omega
 simp only [zgz,zapb,zT,sA,Nat.reduceAdd,Nat.reduceSub,Nat.reduceMul,Nat.reduceBEq,Nat.reduceLeDiff,Int.reduceBEq,Int.reduceBNe,Int.reduceLE,Int.reduceLT,Int.reduceGE,Int.reduceGT,Int.reduceNeg,kn,gU,eR,hlt]
theorem zsm (n:Nat) (σ:Store):W SE (n + 3) zht [zT,.nils,.nils] σ=some (.ret ⟨false,zT⟩,σ):=by
 rw [eH (af:=zgy) rfl rfl rfl]
 have h1:=zy9 n σ
 simp only [zT] at h1
 have e2:((0:Int) == 2)=false:=rfl
 have e4:((0:Int) == 4)=false:=rfl
 have e5:((0:Int) == 5)=false:=rfl
 simp only [zgy,zT,sA,Nat.reduceAdd,Nat.reduceSub,Nat.reduceMul,Nat.reduceBEq,Nat.reduceLeDiff,Int.reduceBEq,Int.reduceBNe,Int.reduceLE,Int.reduceLT,Int.reduceGE,Int.reduceGT,Int.reduceNeg,kn,e2,e4,e5,h1]
theorem zebb (n:Nat) (σ:Store):W SE (n + 4) zrg [zT] σ=some (.ret ⟨false,zT⟩,σ):=by
 rw [eH (af:=zfs) rfl rfl rfl]
 have h1:=zsm n σ
 simp only [zT] at h1
 simp only [zfs,zT,sA,Nat.reduceAdd,Nat.reduceSub,Nat.reduceMul,Nat.reduceBEq,Nat.reduceLeDiff,Int.reduceBEq,Int.reduceBNe,Int.reduceLE,Int.reduceLT,Int.reduceGE,Int.reduceGT,Int.reduceNeg,kn,h1]
def cV (s:Tx):List Cell:=[⟨false,.int .i64 1⟩,⟨false,.int .i64 0⟩,⟨false,.str s⟩,⟨false,.int .i64 0⟩,⟨false,.int .i64 0⟩,⟨false,.str []⟩,⟨false,.nils⟩,⟨false,.nils⟩,⟨false,.nils⟩,⟨false,.nils⟩]
theorem zqr (n:Nat) (σ:Store) (s:Tx) (h:dE σ.objs 0=some (cV s)):∃ o,W SE (n + 2) zg9 [.ptr 0 0] σ=some (.ret ⟨o,.list zg4 [.agg [.nils,.nils]]⟩,σ):=by
 refine ⟨true,?_⟩
 rw [eH (af:=tV) rfl rfl rfl]
 have hlt:¬ ((0:Int) < (0:Int)):=by omega
 have e5:((1:Int) == 5)=false:=rfl
 have hz:zg4.sz=2:=rfl
 simp only [cV] at h
 simp only [tV,Au,Av,Aw,sA,Nat.reduceAdd,Nat.reduceSub,Nat.reduceMul,Nat.reduceBEq,Nat.reduceLeDiff,Int.reduceBEq,Int.reduceBNe,Int.reduceLE,Int.reduceLT,Int.reduceGE,Int.reduceGT,Int.reduceNeg,kn,h,gU,eR,hlt,e5,hz]
theorem Wp (f:FuncId) (af:AFun) (n:Nat) (σ:Store) (h:(f=Jt∧af=gY)∨(f=Js∧af=fY)∨(f=Jr∧af=iK)):W SE (n + 1) f [.nils] σ=some (.ret ⟨false,.nils⟩,σ):=by
 rcases h with ⟨rfl,rfl⟩ | ⟨rfl,rfl⟩ | ⟨rfl,rfl⟩
 ·rw [eH (af:=gY) rfl rfl rfl]
  simp only [gY,sA,Nat.reduceAdd,Nat.reduceSub,Nat.reduceMul,Nat.reduceBEq,Nat.reduceLeDiff,Int.reduceBEq,Int.reduceBNe,Int.reduceLE,Int.reduceLT,Int.reduceGE,Int.reduceGT,Int.reduceNeg,kn]
 ·rw [eH (af:=fY) rfl rfl rfl]
  simp only [fY,sA,Nat.reduceAdd,Nat.reduceSub,Nat.reduceMul,Nat.reduceBEq,Nat.reduceLeDiff,Int.reduceBEq,Int.reduceBNe,Int.reduceLE,Int.reduceLT,Int.reduceGE,Int.reduceGT,Int.reduceNeg,kn]
 ·rw [eH (af:=iK) rfl rfl rfl]
  simp only [iK,sA,Nat.reduceAdd,Nat.reduceSub,Nat.reduceMul,Nat.reduceBEq,Nat.reduceLeDiff,Int.reduceBEq,Int.reduceBNe,Int.reduceLE,Int.reduceLT,Int.reduceGE,Int.reduceGT,Int.reduceNeg,kn]
theorem zvj (s:Tx):OkP Pq [dCo (eQ s)] ⟨false,dCo (eQ s)⟩:=by
 have hd:dCo (eQ s)=.agg [.int .i64 1,.int .i64 0,.str s,.int .i64 0,.int .i64 0,.str [],.nils,.nils,.nils,.nils]:=fC _
 obtain ⟨σ1,e1⟩:∃ σ1,σ1=GA σ0 zh2 (cV s):=⟨_,rfl⟩
 have h1:dE σ1.objs 0=some (cV s):=by rw [e1]; rfl
 have n0:σ0.next=0:=rfl
 have ht:=zebb 2
 have c1:=fun σ=>Wp Jt gY 5 σ (.inl ⟨rfl,rfl⟩)
 have c2:=fun σ=>Wp Js fY 5 σ (.inr (.inl ⟨rfl,rfl⟩))
 have c3:=fun σ=>Wp Jr iK 5 σ (.inr (.inr ⟨rfl,rfl⟩))
 obtain ⟨o,hg⟩:=zqr 4 (SO σ1 0 (cV s)) s jS
 have hlt:¬ ((0:Int) < (0:Int)):=by omega
 have hlt1:((0:Int) < (1:Int)):=by omega
 have hlt2:¬ ((1:Int) < (1:Int)):=by omega
 have w1:IntKind.i64.wrap (0 + 1)=1:=rfl
 have hx:iD 2 (.list zg4 [.agg [.nils,.nils]]) 0=some (.eptr (.agg [.nils,.nils])):=rfl
 simp only [cV] at e1 h1 hg
 have hself:∀ cs,dE (SO σ1 0 cs).objs 0=some cs:=fun _=>jS
 simp only [zT] at ht
 refine sF (af:=zfr) (n:=3) (σ':=SO σ1 0 (cV s)) (pY SE 6) rfl rfl (by simp [eB,jH]) (jH _) ?_
 rw [hd]
 simp only [zfr,zzn,zzo,zzq,zzp,sA,Nat.reduceAdd,Nat.reduceSub,Nat.reduceMul,Nat.reduceBEq,Nat.reduceLeDiff,Int.reduceBEq,Int.reduceBNe,Int.reduceLE,Int.reduceLT,Int.reduceGE,Int.reduceGT,Int.reduceNeg,kn,eI,mB,n0,← e1,h1,ht,c1,c2,c3,hself,zpn,jW,gU,eR,zyb,hlt,hg,hlt1,hlt2,hx,w1,cV]
def zpe:List D→Cell→Prop:=fun ds c=>∀ s,ds=[dCo (eQ s)]→c=⟨false,dCo (eQ s)⟩
theorem zla {a b:Tx} (h:dCo (eQ a)=dCo (eQ b)):a=b:=by
 have:=rL h
 simpa [eQ] using this
theorem zte {S:eD} (hS:dE S Pq=some zpe) (s:Tx) (n:Nat) (σ:Store):W S (n + 1) Pq [dCo (eQ s)] σ=some (.ret ⟨false,dCo (eQ s)⟩,σ):=by
 obtain ⟨c,h1,h2⟩:=qS (S:=S) hS rfl (c:=⟨false,dCo (eQ s)⟩) (fun s' e=>by
  simp only [aL,and_true] at e
  rw [zla e]) (zvj s)
 rw [h2,h1 s rfl]
theorem zws (s:Tx):OkP Jp [.str s] ⟨false,dCo (eQ s)⟩:=by
 have hd:dCo (eQ s)=.agg [.int .i64 1,.int .i64 0,.str s,.int .i64 0,.int .i64 0,.str [],.nils,.nils,.nils,.nils]:=fC _
 refine sF (af:=zfq) (n:=1) (σ':=σ0) (pY SE 1) rfl rfl rfl (jH _) ?_
 rw [hd]
 simp only [zfq,sA,Nat.reduceAdd,Nat.reduceSub,Nat.reduceMul,Nat.reduceBEq,Nat.reduceLeDiff,Int.reduceBEq,Int.reduceBNe,Int.reduceLE,Int.reduceLT,Int.reduceGE,Int.reduceGT,Int.reduceNeg,kn]
def zkz:List D→Cell→Prop:=fun ds c=>∀ s,ds=[.str s]→c=⟨false,dCo (eQ s)⟩
theorem zzm {S:eD} (hS:dE S Jp=some zkz) (s:Tx) (n:Nat) (σ:Store):W S (n + 1) Jp [.str s] σ=some (.ret ⟨false,dCo (eQ s)⟩,σ):=by
 obtain ⟨c,h1,h2⟩:=qS (S:=S) hS rfl (c:=⟨false,dCo (eQ s)⟩) (fun s' e=>by
  simp only [aL,D.str.injEq,and_true] at e
  rw [e]) (zws s)
 rw [h2,h1 s rfl]
def SV:eD:=[(Jp,zkz),(Pq,zpe)]
section
variable {C:dQ} {n:Nat} {σ:Store}
def Eva (l:List Tx) (i:Nat):Env:={slots:=[(3,⟨ow i,dCs ((l.take i).map eQ)⟩),(6,⟨false,dSs l⟩),(7,⟨false,.int .i64 l.length⟩),(8,⟨false,.int .i64 i⟩)],locs:=[],boxes:=[],defers:=[]}
theorem ztj (l:List Co) (v:Co) (o:Bool) (ho:l≠[]→o=true) (hl:l.length < 1000000000):gC k_2 160 ⟨o,dCs l⟩ [dCo v]=some ⟨true,dCs (l ++ [v])⟩:=qT yD lH (by omega) l v o ho hl
theorem zedb (l:List Tx) (i:Nat) (h:i < l.length) (hl:l.length < 1000000000) (h1:C Jp [.str l[i]] σ=some (.ret ⟨false,dCo (eQ l[i])⟩,σ)):exec C n none zbh (Eva l i) σ=some (.normal,Eva l (i + 1),σ):=by
 have hlt:((i:Int) < (l.length:Int)):=by omega
 have w:=dV (i:=i) (by omega)
 have hx:=rW l i h
 have ha:=ztj ((l.take i).map eQ) (eQ l[i]) (ow i) (fun hne=>zru (by simpa using hne)) (by simp; omega)
 have e2:(l.take i).map eQ ++ [eQ l[i]]=(l.take (i + 1)).map eQ:=by rw [← hZ l i h,aU]; rfl
 rw [e2] at ha
 have hok:=yD (eQ l[i])
 have hce:(dCo (eQ l[i])).cells.length=10:=lH _
 simp only [zbh,Eva,sA,Nat.reduceAdd,Nat.reduceSub,Nat.reduceMul,Nat.reduceBEq,Nat.reduceLeDiff,Int.reduceBEq,Int.reduceBNe,Int.reduceLE,Int.reduceLT,Int.reduceGE,Int.reduceGT,Int.reduceNeg,kn,hlt,fL,hx,h1,hok,hce,ha,w,kK]
theorem zgrb (l:List Tx):exec C n none zbh (Eva l l.length) σ=some (.exit 0,{Eva l l.length with slots:=[(3,⟨ow l.length,dCs (l.map eQ)⟩),(6,⟨false,dSs l⟩),(7,⟨false,.int .i64 l.length⟩),(8,⟨false,.int .i64 l.length⟩),(9,⟨false,.bool false⟩)]},σ):=by
 have hlt:¬ ((l.length:Int) < (l.length:Int)):=by omega
 simp only [zbh,Eva,sA,Nat.reduceAdd,Nat.reduceSub,Nat.reduceMul,Nat.reduceBEq,Nat.reduceLeDiff,Int.reduceBEq,Int.reduceBNe,Int.reduceLE,Int.reduceLT,Int.reduceGE,Int.reduceGT,Int.reduceNeg,kn,hlt,aV]
def zil (c:Co):D:=.agg [.int .i64 c.f,.int .i64 c.n,.str c.s,.int .i64 0,.int .i64 0,.str [],.nils,kD c,bD c,aD c]
theorem zb6 (c:Co):dCo c=zil c:=fJ c
def zC:List Cell:=[⟨false,.int .i64 0⟩,⟨false,.int .i64 0⟩,⟨false,.str []⟩,⟨false,.int .i64 0⟩,⟨false,.int .i64 0⟩,⟨false,.str []⟩,⟨false,.nils⟩,⟨false,.nils⟩,⟨false,.nils⟩,⟨false,.nils⟩]
def Eap (s:Tx) (l:List Tx) (c:Co) (i:Nat):Env:={slots:=[(10,⟨false,dCs (l.map eQ)⟩),(11,⟨false,.int .i64 l.length⟩),(12,⟨false,.int .i64 i⟩)],locs:=[(4,(4,0)),(5,(5,0))],boxes:=[(4,zC),(5,Ew c)],defers:=[]}
theorem zw1 (c x:Co):Ew (appC' c x)=[⟨false,.int .i64 4⟩,⟨false,.int .i64 0⟩,⟨false,.str []⟩,⟨false,.int .i64 0⟩,⟨false,.int .i64 0⟩,⟨false,.str []⟩,⟨false,.nils⟩,⟨false,.list k_2 [zil c,zil x]⟩,⟨false,.nils⟩,⟨false,.nils⟩]:=by
 rw [← zb6,← zb6]
 rfl
theorem zblb (s:Tx) (l:List Tx) (c:Co) (i:Nat) (h:i < l.length) (hl:l.length < 1000000000) (h1:C Pq [dCo (eQ l[i])] σ=some (.ret ⟨false,dCo (eQ l[i])⟩,σ)):exec C n none za8 (Eap s l c i) σ=some (.normal,Eap s l (appC' c (eQ l[i])) (i + 1),σ):=by
 have hlt:((i:Int) < (l.length:Int)):=by omega
 have w:=dV (i:=i) (by omega)
 have hx:=mL (k:=k_2) (sz:=10) rfl dCo (l.map eQ) i (by simpa using h)
 rw [List.getElem_map] at hx
 have hbx:=zw1 c (eQ l[i])
 have hd:dCo (eQ l[i])=.agg [.int .i64 1,.int .i64 0,.str l[i],.int .i64 0,.int .i64 0,.str [],.nils,.nils,.nils,.nils]:=fC _
 have hb2:zil (eQ l[i])=.agg [.int .i64 1,.int .i64 0,.str l[i],.int .i64 0,.int .i64 0,.str [],.nils,.nils,.nils,.nils]:=by rw [← zb6]; exact hd
 rw [hd] at h1 hx
 rw [hb2] at hbx
 have hcs:dCs (l.map eQ)=eJ k_2 ((l.map eQ).map dCo):=rfl
 rw [← hcs] at hx
 have hon:=jO c
 simp only [zil] at hbx
 have hbc:Ew c=[⟨false,.int .i64 c.f⟩,⟨false,.int .i64 c.n⟩,⟨false,.str c.s⟩,⟨false,.int .i64 0⟩,⟨false,.int .i64 0⟩,⟨false,.str []⟩,⟨false,.nils⟩,⟨false,kD c⟩,⟨false,bD c⟩,⟨false,aD c⟩]:=rfl
 have hln:lenOf (dCs (l.map eQ))=some l.length:=by rw [zg7,aJ]
 simp only [za8,Eap,hbx,sA,Nat.reduceAdd,Nat.reduceSub,Nat.reduceMul,Nat.reduceBEq,Nat.reduceLeDiff,Int.reduceBEq,Int.reduceBNe,Int.reduceLE,Int.reduceLT,Int.reduceGE,Int.reduceGT,Int.reduceNeg,kn,hlt,fL,hx,hbc,h1,hon,w]
theorem zetb (s:Tx) (l:List Tx) (c:Co):exec C n none za8 (Eap s l c l.length) σ=some (.exit 0,{Eap s l c l.length with slots:=[(10,⟨false,dCs (l.map eQ)⟩),(11,⟨false,.int .i64 l.length⟩),(12,⟨false,.int .i64 l.length⟩),(13,⟨false,.bool false⟩)]},σ):=by
 have hlt:¬ ((l.length:Int) < (l.length:Int)):=by omega
 simp only [za8,Eap,sA,Nat.reduceAdd,Nat.reduceSub,Nat.reduceMul,Nat.reduceBEq,Nat.reduceLeDiff,Int.reduceBEq,Int.reduceBNe,Int.reduceLE,Int.reduceLT,Int.reduceGE,Int.reduceGT,Int.reduceNeg,kn,hlt]
end
theorem zwi (l:List Tx) (hl:l.length < 100000000):OkP Ta [dSs l] ⟨false,dCs (l.map eQ)⟩:=by
 have h0:=iL (body:=exec (W SV 1) 1000000000 none zbh) (fun i=>Eva l i) (fun _=>σ0) l.length (r:=_) (fun _ _ h=>by cases h) (fun i hi=>zedb l i hi (by omega) (zzm (S:=SV) rfl _ 0 σ0)) (zgrb l) 0 1000000000 (by omega) (by omega)
 have e0:dCs (([]:List Tx).map eQ)=.nils:=rfl
 simp only [Eva,eR,List.take_zero,e0,oJ] at h0
 have hln:=mO l
 refine OkP.weak (o:=ow l.length) rfl (sF (af:=zga) (n:=1000000000) (σ':=σ0) (pY SV 1) rfl rfl (by simp [eB,fQ]) (by rw [dCs,mC]; exact lN jH _) ?_)
 simp only [zga,sA,Nat.reduceAdd,Nat.reduceSub,Nat.reduceMul,Nat.reduceBEq,Nat.reduceLeDiff,Int.reduceBEq,Int.reduceBNe,Int.reduceLE,Int.reduceLT,Int.reduceGE,Int.reduceGT,Int.reduceNeg,kn,hln,h0]
theorem zwn (s:Tx) (l:List Tx) (hl:l.length < 100000000):OkP Sm [dCo (eQ s),dCs (l.map eQ)] ⟨false,dCo (kS (eQ s) l)⟩:=by
 have h0:=iL (body:=exec (W SV 1) 1000000000 none za8) (fun i=>Eap s l (kS (eQ s) (l.take i)) i) (fun _=>σ0) l.length (r:=_) (fun _ _ h=>by cases h) (fun i hi=>by
  have:=zblb (C:=W SV 1) (n:=1000000000) (σ:=σ0) s l (kS (eQ s) (l.take i)) i hi (by omega) (zte (S:=SV) rfl _ 0 σ0)
  rw [← zl0,hZ l i hi] at this
  exact this) (zetb s l _) 0 1000000000 (by omega) (by omega)
 have e0:kS (eQ s) (l.take 0)=eQ s:=rfl
 have hbv:Ew (eQ s)=[⟨false,.int .i64 1⟩,⟨false,.int .i64 0⟩,⟨false,.str s⟩,⟨false,.int .i64 0⟩,⟨false,.int .i64 0⟩,⟨false,.str []⟩,⟨false,.nils⟩,⟨false,.nils⟩,⟨false,.nils⟩,⟨false,.nils⟩]:=rfl
 rw [aV] at h0
 generalize kS (eQ s) l=gm at *
 have hbc:Ew gm=[⟨false,.int .i64 gm.f⟩,⟨false,.int .i64 gm.n⟩,⟨false,.str gm.s⟩,⟨false,.int .i64 0⟩,⟨false,.int .i64 0⟩,⟨false,.str []⟩,⟨false,.nils⟩,⟨false,kD gm⟩,⟨false,bD gm⟩,⟨false,aD gm⟩]:=rfl
 simp only [Eap,zC,eR,e0,hbv,hbc] at h0
 have hd:dCo (eQ s)=.agg [.int .i64 1,.int .i64 0,.str s,.int .i64 0,.int .i64 0,.str [],.nils,.nils,.nils,.nils]:=fC _
 have hdg:=fJ gm
 have ho:=zte (S:=SV) rfl s 0 σ0
 have hln:lenOf (dCs (l.map eQ))=some l.length:=by rw [zg7,aJ]
 have hon:=jO gm
 rw [hd] at ho
 refine sF (af:=zfp) (n:=1000000000) (σ':=σ0) (pY SV 1) rfl rfl (by simp only [eB,jH,dCs,mC,bX,Bool.and_true]; exact lN jH _) (jH _) ?_
 rw [hd,hdg]
 simp only [zfp,sA,Nat.reduceAdd,Nat.reduceSub,Nat.reduceMul,Nat.reduceBEq,Nat.reduceLeDiff,Int.reduceBEq,Int.reduceBNe,Int.reduceLE,Int.reduceLT,Int.reduceGE,Int.reduceGT,Int.reduceNeg,kn,ho,hln,h0,hon]
def zpf:List D→Cell→Prop:=fun ds c=>∀ l:List Tx,ds=[dSs l]→c=⟨false,dCs (l.map eQ)⟩
theorem zerb {S:eD} (hS:dE S Ta=some zpf) (l:List Tx) (hl:l.length < 100000000) (n:Nat) (σ:Store):W S (n + 1) Ta [dSs l] σ=some (.ret ⟨false,dCs (l.map eQ)⟩,σ):=by
 obtain ⟨c,h1,h2⟩:=qS (S:=S) hS rfl (c:=⟨false,dCs (l.map eQ)⟩) (fun s' e=>by
  simp only [aL,and_true] at e
  rw [jT e]) (zwi l hl)
 rw [h2,h1 l rfl]
theorem zzf {a b:List Tx} (h:dCs (a.map eQ)=dCs (b.map eQ)):a=b:=by
 have h1:=zb1b h
 have:∀ a b:List Tx,a.map eQ=b.map eQ→a=b:=by
  intro a
  induction a with
  | nil=>intro b h; cases b with
   | nil=>rfl
   | cons x r=>simp at h
  | cons x r ih=>intro b h; cases b with
   | nil=>simp at h
   | cons y r2 =>
    simp only [aO,aL] at h
    have e:x=y:=by simpa [eQ] using h.1
    rw [e,ih _ h.2]
 exact this a b h1
def zvx:List D→Cell→Prop:=fun ds c=>∀ s (l:List Tx),ds=[dCo (eQ s),dCs (l.map eQ)]→c=⟨false,dCo (kS (eQ s) l)⟩
theorem zg4b {S:eD} (hS:dE S Sm=some zvx) (s:Tx) (l:List Tx) (hl:l.length < 100000000) (n:Nat) (σ:Store):W S (n + 1) Sm [dCo (eQ s),dCs (l.map eQ)] σ=some (.ret ⟨false,dCo (kS (eQ s) l)⟩,σ):=by
 obtain ⟨c,h1,h2⟩:=qS (S:=S) hS rfl (c:=⟨false,dCo (kS (eQ s) l)⟩) (fun s' l' e=>by
  simp only [aL,and_true] at e
  rw [zla e.1,zzf e.2]) (zwn s l hl)
 rw [h2,h1 s l rfl]
def zpd:List D→Cell→Prop:=fun ds c=>∀ (x:Co) so,ds=[dCo x,dSs so]→c=⟨false,dSs (fU x.size x [] so [])⟩
theorem zeqb {S:eD} (hS:dE S Sz=some zpd) (x:Co) (so:List Tx) (hw:Wf x) (hsz:x.size < 10000000) (hs:so.length < 10000000) (n:Nat) (σ:Store):W S (n + 1) Sz [dCo x,dSs so] σ=some (.ret ⟨false,dSs (fU x.size x [] so [])⟩,σ):=by
 obtain ⟨c,h1,h2⟩:=qS (S:=S) hS rfl (c:=⟨false,dSs (fU x.size x [] so [])⟩) (fun s' l' e=>by
  simp only [aL,and_true] at e
  rw [rL e.1,jT e.2]) (zuh x so hw hsz hs)
 rw [h2,h1 x so rfl]
end Go.Fu
namespace Go.Fu
open Go Go.Mx
set_option maxRecDepth 10000
set_option maxHeartbeats 4000000
def jB (k:RowK) (id:Nat):Nat→D
 | 0=>.nils
 | n + 1=>.arr k id 0 (n + 1)
theorem rK (k:RowK) (id n:Nat) (h:n≠0):jB k id n=.arr k id 0 n:=by
 cases n with
 | zero=>exact absurd rfl h
 | succ n=>rfl
theorem Bm (k:RowK) (id n:Nat):lenOf (jB k id n)=some n:=by cases n <;> rfl
theorem Kw (k:RowK) (id n:Nat):(jB k id n).one=true∧(jB k id n).ok=true∧(jB k id n).cells=[jB k id n]:=by cases n <;> exact ⟨rfl,rfl,rfl⟩
theorem zkj:∀ (a b:List Cell) (o:Nat) (new:List Cell),putCells (a ++ b) (a.length + o) new=a ++ putCells b o new
 | [],b,o,new=>by simp
 | x :: a,b,o,[]=>by
  have:∀ (l:List Cell) (n:Nat),putCells l n []=l:=fun l n=>by cases l <;> cases n <;> rfl
  rw [this,this]
 | x :: a,b,o,y :: new=>by
  rw [aW,aG,show a.length + 1 + o=(a.length + o) + 1 by omega]
  simp only [putCells,zkj a b o (y :: new),aW]
theorem zkk (l:List Cell) (n:Nat):putCells l n []=l:=by cases l <;> cases n <;> rfl
theorem zc5:∀ (b r:List Cell) (o:Nat) (new:List Cell),o + new.length≤b.length→putCells (b ++ r) o new=putCells b o new ++ r
 | b,r,o,[],_=>by rw [zkk,zkk]
 | [],r,o,y :: new,h=>by simp at h
 | x :: b,r,0,y :: new,h=>by
  simp only [aW,putCells]
  rw [zc5 b r 0 new (by simp at h ⊢; omega)]
 | x :: b,r,o + 1,y :: new,h=>by
  simp only [aW,putCells]
  rw [zc5 b r o (y :: new) (by simp at h ⊢; omega)]
theorem zek:∀ (a b:List Cell) (o n:Nat),lJ (a ++ b) (a.length + o) (n + 1)=lJ b o (n + 1)
 | [],b,o,n=>by simp
 | x :: a,b,o,n=>by
  rw [aW,aG,show a.length + 1 + o=(a.length + o) + 1 by omega,lJ,zek a b o n]
theorem yM:∀ (b r:List Cell),lJ (b ++ r) 0 b.length=some (b.map fun c=>c.d)
 | [],r=>by cases r <;> rfl
 | x :: b,r=>by
  rw [aW,aG,lJ,yM b r]
  rfl
theorem mA' {α:Type} {g:α→D} {sz:Nat} (h:∀ x,(g x).cells.length=sz):∀ l:List α,(cellsOf (l.map g)).length=l.length * sz
 | []=>by simp [cellsOf]
 | x :: l=>by
  rw [aO,cellsOf,aF,aJ,h,mA' h l,aG]
  rw [Nat.add_mul]
  omega
theorem Qx {α:Type} (g:α→D) (l:List α) (i:Nat) (hi:i < l.length):cellsOf (l.map g)=cellsOf ((l.take i).map g) ++ ((g l[i]).cells.map Cell.of ++ cellsOf ((l.drop (i + 1)).map g)):=by
 have e:l=l.take i ++ (l[i] :: l.drop (i + 1)):=by
  rw [← List.drop_eq_getElem_cons hi,List.take_append_drop]
 have:cellsOf (l.map g)=cellsOf ((l.take i ++ (l[i] :: l.drop (i + 1))).map g):=congrArg (fun x=>cellsOf (x.map g)) e
 rw [this,aU,qB,aO,cellsOf]
theorem zdb {α:Type} {g:α→D} {sz:Nat} (hs:∀ x,(g x).cells.length=sz) (l:List α) (i:Nat) (hi:i < l.length) (o:Nat) (new:List Cell) (x':α) (ho:o + new.length≤sz) (hx:putCells ((g l[i]).cells.map Cell.of) o new=(g x').cells.map Cell.of):putCells (cellsOf (l.map g)) (i * sz + o) new=cellsOf ((l.set i x').map g):=by
 have hl:=mA' (sz:=sz) hs (l.take i)
 rw [bI,Nat.min_eq_left (by omega)] at hl
 have hi2:i < (l.set i x').length:=by simpa using hi
 rw [Qx g l i hi,Qx g (l.set i x') i hi2,← hl,zkj,zc5 _ _ _ _ (by rw [aJ,hs]; exact ho),hx]
 have e1:(l.set i x').take i=l.take i:=by rw [List.take_set_of_le (aM i)]
 have e2:(l.set i x').drop (i + 1)=l.drop (i + 1):=by rw [List.drop_set_of_lt (Nat.lt_succ_self i)]
 rw [e1,e2]
 simp
theorem zln {S:eD} (hs:has S Js=false) (σ:Store) (l:List (Tx × Co)) (hl:l.length < 100000000):∃ id σ',(∀ n,W S (n + 1) Js [eJ k_3 (l.map dB)] σ=some (.ret ⟨false,jB k_3 id l.length⟩,σ'))∧FrA σ σ'∧σ.next≤id ∧
  (l≠[]→dE σ'.objs id=some (cellsOf (l.map dB))∧id < σ'.next):=by
 by_cases hne:l=[]
 ·subst hne
  refine ⟨σ.next,σ,fun n=>?_,FrA.refl,aM _,fun h=>absurd rfl h⟩
  rw [eH (af:=fY) hs rfl rfl]
  have e:eJ k_3 (([]:List (Tx × Co)).map dB)=.nils:=rfl
  simp only [fY,e,sA,Nat.reduceAdd,Nat.reduceSub,Nat.reduceMul,Nat.reduceBEq,Nat.reduceLeDiff,Int.reduceBEq,Int.reduceBNe,Int.reduceLE,Int.reduceLT,Int.reduceGE,Int.reduceGT,Int.reduceNeg,kn]
  rfl
 ·have e2:decide ((0 + l.length) * 232≤eL)=true:=decide_eq_true (show (0 + l.length) * 232≤1099511627776 by omega)
  have e3:decide (0 + l.length≤eL)=true:=decide_eq_true (show 0 + l.length≤1099511627776 by omega)
  have hall:eM k_3.sz (l.map dB)=true:=pQ fun d hd=>by
   obtain ⟨s,_,rfl⟩:=bF.1 hd
   exact ⟨za4b s,uH s⟩
  refine ⟨σ.next + 2,dR {dR σ k_3 [] with objs:=eE (dR σ k_3 []).objs σ.next} k_3 (cellsOf (l.map dB)),fun n=>?_,⟨?_,fun j h1=>?_,fun j h1=>?_,fun j h1=>rfl⟩,by omega,fun _=>⟨agS _ _ _,by simp [dR]⟩⟩
  ·rw [eH (af:=fY) hs rfl rfl]
   have hnil:(eJ k_3 (l.map dB)).isNilS?=some false:=by
    cases l with
    | nil=>exact absurd rfl hne
    | cons x r=>rfl
   have hli:∀ os,iR os (eJ k_3 (l.map dB))=some (l.map dB):=fun os=>by rw [qE]
   have hap:eV (dR σ k_3 []) k_3 232 (.arr k_3 σ.next 0 0) (l.map dB)=some (.arr k_3 (σ.next + 2) 0 l.length,dR {dR σ k_3 [] with objs:=eE (dR σ k_3 []).objs σ.next} k_3 (cellsOf (l.map dB))):=by
    have g1:dE (dR σ k_3 []).objs σ.next=some []:=agS _ _ _
    have g2:dE (dR σ k_3 []).tys σ.next=some ⟨k_3.el,k_3.sz⟩:=agS _ _ _
    have ek:k_3.same k_3=true:=rfl
    have hlm:(l.map dB).length=l.length:=aJ ..
    simp only [eV,hall,dJ,g1,g2,dG,dK,ek,bW,hlm,Nat.zero_mul,List.take_zero,aZ,bG,aN,Nat.zero_le,decide_true] at e2 e3 ⊢
    simp only [e2,e3,aY,dJ]
    rfl
   have hc0:cellsOf []=[]:=rfl
   have hag:jB k_3 (σ.next + 2) l.length=.arr k_3 (σ.next + 2) 0 l.length:=rK _ _ _ (fun h=>hne (aR.1 h))
   rw [hag]
   simp only [fY,sA,Nat.reduceAdd,Nat.reduceSub,Nat.reduceMul,Nat.reduceBEq,Nat.reduceLeDiff,Int.reduceBEq,Int.reduceBNe,Int.reduceLE,Int.reduceLT,Int.reduceGE,Int.reduceGT,Int.reduceNeg,kn,hnil,eI,mB,hc0,hli,hap]
  ·simp only [dR]; omega
  ·simp only [dR]
   rw [agC _ _ _ _ (by omega),agD _ _ (by omega),agC _ _ _ _ (by omega)]
  ·simp only [dR]
   rw [agC _ _ _ _ (by omega),agC _ _ _ _ (by omega)]
theorem zqe {S:eD} (hs:has S Jt=false) (σ:Store) (l:List (Co)) (hl:l.length < 100000000):∃ id σ',(∀ n,W S (n + 1) Jt [eJ k_2 (l.map dCo)] σ=some (.ret ⟨false,jB k_2 id l.length⟩,σ'))∧FrA σ σ'∧σ.next≤id ∧
  (l≠[]→dE σ'.objs id=some (cellsOf (l.map dCo))∧id < σ'.next):=by
 by_cases hne:l=[]
 ·subst hne
  refine ⟨σ.next,σ,fun n=>?_,FrA.refl,aM _,fun h=>absurd rfl h⟩
  rw [eH (af:=gY) hs rfl rfl]
  have e:eJ k_2 (([]:List (Co)).map dCo)=.nils:=rfl
  simp only [gY,e,sA,Nat.reduceAdd,Nat.reduceSub,Nat.reduceMul,Nat.reduceBEq,Nat.reduceLeDiff,Int.reduceBEq,Int.reduceBNe,Int.reduceLE,Int.reduceLT,Int.reduceGE,Int.reduceGT,Int.reduceNeg,kn]
  rfl
 ·have e2:decide ((0 + l.length) * 160≤eL)=true:=decide_eq_true (show (0 + l.length) * 160≤1099511627776 by omega)
  have e3:decide (0 + l.length≤eL)=true:=decide_eq_true (show 0 + l.length≤1099511627776 by omega)
  have hall:eM k_2.sz (l.map dCo)=true:=pQ fun d hd=>by
   obtain ⟨s,_,rfl⟩:=bF.1 hd
   exact ⟨yD s,lH s⟩
  refine ⟨σ.next + 2,dR {dR σ k_2 [] with objs:=eE (dR σ k_2 []).objs σ.next} k_2 (cellsOf (l.map dCo)),fun n=>?_,⟨?_,fun j h1=>?_,fun j h1=>?_,fun j h1=>rfl⟩,by omega,fun _=>⟨agS _ _ _,by simp [dR]⟩⟩
  ·rw [eH (af:=gY) hs rfl rfl]
   have hnil:(eJ k_2 (l.map dCo)).isNilS?=some false:=by
    cases l with
    | nil=>exact absurd rfl hne
    | cons x r=>rfl
   have hli:∀ os,iR os (eJ k_2 (l.map dCo))=some (l.map dCo):=fun os=>by rw [qE]
   have hap:eV (dR σ k_2 []) k_2 160 (.arr k_2 σ.next 0 0) (l.map dCo)=some (.arr k_2 (σ.next + 2) 0 l.length,dR {dR σ k_2 [] with objs:=eE (dR σ k_2 []).objs σ.next} k_2 (cellsOf (l.map dCo))):=by
    have g1:dE (dR σ k_2 []).objs σ.next=some []:=agS _ _ _
    have g2:dE (dR σ k_2 []).tys σ.next=some ⟨k_2.el,k_2.sz⟩:=agS _ _ _
    have ek:k_2.same k_2=true:=rfl
    have hlm:(l.map dCo).length=l.length:=aJ ..
    simp only [eV,hall,dJ,g1,g2,dG,dK,ek,bW,hlm,Nat.zero_mul,List.take_zero,aZ,bG,aN,Nat.zero_le,decide_true] at e2 e3 ⊢
    simp only [e2,e3,aY,dJ]
    rfl
   have hc0:cellsOf []=[]:=rfl
   have hag:jB k_2 (σ.next + 2) l.length=.arr k_2 (σ.next + 2) 0 l.length:=rK _ _ _ (fun h=>hne (aR.1 h))
   rw [hag]
   simp only [gY,sA,Nat.reduceAdd,Nat.reduceSub,Nat.reduceMul,Nat.reduceBEq,Nat.reduceLeDiff,Int.reduceBEq,Int.reduceBNe,Int.reduceLE,Int.reduceLT,Int.reduceGE,Int.reduceGT,Int.reduceNeg,kn,hnil,eI,mB,hc0,hli,hap]
  ·simp only [dR]; omega
  ·simp only [dR]
   rw [agC _ _ _ _ (by omega),agD _ _ (by omega),agC _ _ _ _ (by omega)]
  ·simp only [dR]
   rw [agC _ _ _ _ (by omega),agC _ _ _ _ (by omega)]
theorem zty {S:eD} (hs:has S Jr=false) (σ:Store) (l:List (Hd × Co)) (hl:l.length < 100000000):∃ id σ',(∀ n,W S (n + 1) Jr [eJ k_4 (l.map dA)] σ=some (.ret ⟨false,jB k_4 id l.length⟩,σ'))∧FrA σ σ'∧σ.next≤id ∧
  (l≠[]→dE σ'.objs id=some (cellsOf (l.map dA))∧id < σ'.next):=by
 by_cases hne:l=[]
 ·subst hne
  refine ⟨σ.next,σ,fun n=>?_,FrA.refl,aM _,fun h=>absurd rfl h⟩
  rw [eH (af:=iK) hs rfl rfl]
  have e:eJ k_4 (([]:List (Hd × Co)).map dA)=.nils:=rfl
  simp only [iK,e,sA,Nat.reduceAdd,Nat.reduceSub,Nat.reduceMul,Nat.reduceBEq,Nat.reduceLeDiff,Int.reduceBEq,Int.reduceBNe,Int.reduceLE,Int.reduceLT,Int.reduceGE,Int.reduceGT,Int.reduceNeg,kn]
  rfl
 ·have e2:decide ((0 + l.length) * 216≤eL)=true:=decide_eq_true (show (0 + l.length) * 216≤1099511627776 by omega)
  have e3:decide (0 + l.length≤eL)=true:=decide_eq_true (show 0 + l.length≤1099511627776 by omega)
  have hall:eM k_4.sz (l.map dA)=true:=pQ fun d hd=>by
   obtain ⟨s,_,rfl⟩:=bF.1 hd
   exact ⟨za3b s,wK s⟩
  refine ⟨σ.next + 2,dR {dR σ k_4 [] with objs:=eE (dR σ k_4 []).objs σ.next} k_4 (cellsOf (l.map dA)),fun n=>?_,⟨?_,fun j h1=>?_,fun j h1=>?_,fun j h1=>rfl⟩,by omega,fun _=>⟨agS _ _ _,by simp [dR]⟩⟩
  ·rw [eH (af:=iK) hs rfl rfl]
   have hnil:(eJ k_4 (l.map dA)).isNilS?=some false:=by
    cases l with
    | nil=>exact absurd rfl hne
    | cons x r=>rfl
   have hli:∀ os,iR os (eJ k_4 (l.map dA))=some (l.map dA):=fun os=>by rw [qE]
   have hap:eV (dR σ k_4 []) k_4 216 (.arr k_4 σ.next 0 0) (l.map dA)=some (.arr k_4 (σ.next + 2) 0 l.length,dR {dR σ k_4 [] with objs:=eE (dR σ k_4 []).objs σ.next} k_4 (cellsOf (l.map dA))):=by
    have g1:dE (dR σ k_4 []).objs σ.next=some []:=agS _ _ _
    have g2:dE (dR σ k_4 []).tys σ.next=some ⟨k_4.el,k_4.sz⟩:=agS _ _ _
    have ek:k_4.same k_4=true:=rfl
    have hlm:(l.map dA).length=l.length:=aJ ..
    simp only [eV,hall,dJ,g1,g2,dG,dK,ek,bW,hlm,Nat.zero_mul,List.take_zero,aZ,bG,aN,Nat.zero_le,decide_true] at e2 e3 ⊢
    simp only [e2,e3,aY,dJ]
    rfl
   have hc0:cellsOf []=[]:=rfl
   have hag:jB k_4 (σ.next + 2) l.length=.arr k_4 (σ.next + 2) 0 l.length:=rK _ _ _ (fun h=>hne (aR.1 h))
   rw [hag]
   simp only [iK,sA,Nat.reduceAdd,Nat.reduceSub,Nat.reduceMul,Nat.reduceBEq,Nat.reduceLeDiff,Int.reduceBEq,Int.reduceBNe,Int.reduceLE,Int.reduceLT,Int.reduceGE,Int.reduceGT,Int.reduceNeg,kn,hnil,eI,mB,hc0,hli,hap]
  ·simp only [dR]; omega
  ·simp only [dR]
   rw [agC _ _ _ _ (by omega),agD _ _ (by omega),agC _ _ _ _ (by omega)]
  ·simp only [dR]
   rw [agC _ _ _ _ (by omega),agC _ _ _ _ (by omega)]
end Go.Fu
namespace Go.Fu
open Go Go.Mx
set_option maxRecDepth 10000
set_option maxHeartbeats 4000000
theorem Cj {α:Type} {g:α→D} {sz:Nat} (hs:∀ x,(g x).cells.length=sz + 1) (l:List α) (i:Nat) (hi:i < l.length):lJ (cellsOf (l.map g)) (i * (sz + 1)) (sz + 1)=some (g l[i]).cells:=by
 have hl:=mA' (sz:=sz + 1) hs (l.take i)
 rw [bI,Nat.min_eq_left (by omega)] at hl
 rw [Qx g l i hi,← hl,show (cellsOf ((l.take i).map g)).length=(cellsOf ((l.take i).map g)).length + 0 by omega,zek]
 have:=yM ((g l[i]).cells.map Cell.of) (cellsOf ((l.drop (i + 1)).map g))
 rw [aJ,hs] at this
 rw [this,cD]
 congr 1
 exact List.map_id'' (fun _=>rfl) _
def SP:eD:=[(Jp,zkz),(Sm,zvx),(Ta,zpf),(Sz,zpd),(qY,Hq),(qF,Db)]
theorem zg5b {S:eD} (hS:dE S qF=some Db) (b:Tx × Co) (n:Nat) (σ:Store):W S (n + 1) qF [dB b] σ=some (.ret ⟨false,.str b.1⟩,σ):=by
 obtain ⟨c,h1,h2⟩:=qS (S:=S) hS rfl (c:=⟨false,.str b.1⟩) (fun a h=>by
  simp only [aL,and_true] at h
  rw [ziy h]) (zik b)
 rw [h2,h1 b rfl]
section
variable {C:dQ} {n:Nat} {σ:Store}
def Ena' (id:Nat) (bs:List (Tx × Co)) (i:Nat):Env:={slots:=[(1,⟨false,bnF⟩),(5,⟨ow i,dSs ((bs.take i).map Prod.fst)⟩),(8,⟨false,.arr k_3 id 0 bs.length⟩),(9,⟨false,.int .i64 bs.length⟩),(10,⟨false,.int .i64 i⟩)],locs:=[],boxes:=[],defers:=[]}
theorem na'_step (id:Nat) (bs:List (Tx × Co)) (ha:dE σ.objs id=some (cellsOf (bs.map dB))) (i:Nat) (h:i < bs.length) (hl:bs.length < 1000000000) (h1:∀ b σ,C qF [dB b] σ=some (.ret ⟨false,.str b.1⟩,σ)):exec C n none yS (Ena' id bs i) σ=some (.normal,Ena' id bs (i + 1),σ):=by
 have hlt:((i:Int) < (bs.length:Int)):=by omega
 have w:=dV (i:=i) (by omega)
 have ht:=Cj (g:=dB) (sz:=14) uH bs i h
 have ha2:=uG ((bs.take i).map Prod.fst) bs[i].1 (ow i) (fun hne=>by
  cases i with
  | zero=>exact absurd rfl hne
  | succ i=>rfl) (by simp; omega)
 rw [zj1 bs i h] at ha2
 have h2:=h1 bs[i] σ
 have hfn:D.fn? bnF=some (qF,[],[]):=rfl
 have es:(k_3.sz == 15)=true:=rfl
 generalize bs[i]=b at ht ha2 h2
 have hon:=jO b.2
 rw [Be] at ht h2
 simp only [D.cells] at ht
 simp only [yS,Ena',sA,Nat.reduceAdd,Nat.reduceSub,Nat.reduceMul,Nat.reduceBEq,Nat.reduceLeDiff,Int.reduceBEq,Int.reduceBNe,Int.reduceLE,Int.reduceLT,Int.reduceGE,Int.reduceGT,Int.reduceNeg,kn,hlt,fL,mH,es,h,aN,ha,ht,hon,hfn,h2,ha2,w,kK]
theorem na'_end (id:Nat) (bs:List (Tx × Co)):exec C n none yS (Ena' id bs bs.length) σ=some (.exit 0,{Ena' id bs bs.length with slots:=[(1,⟨false,bnF⟩),(5,⟨ow bs.length,dSs ((bs.take bs.length).map Prod.fst)⟩),(8,⟨false,.arr k_3 id 0 bs.length⟩),(9,⟨false,.int .i64 bs.length⟩),(10,⟨false,.int .i64 bs.length⟩),(11,⟨false,.bool false⟩)]},σ):=by
 have hlt:¬ ((bs.length:Int) < (bs.length:Int)):=by omega
 simp only [yS,Ena',sA,Nat.reduceAdd,Nat.reduceSub,Nat.reduceMul,Nat.reduceBEq,Nat.reduceLeDiff,Int.reduceBEq,Int.reduceBNe,Int.reduceLE,Int.reduceLT,Int.reduceGE,Int.reduceGT,Int.reduceNeg,kn,hlt]
end
theorem zu7 {P:eD} (h0:has P uL=false) (hP:dE P qF=some Db) (σ:Store) (id:Nat) (bs:List (Tx × Co)) (ha:bs≠[]→dE σ.objs id=some (cellsOf (bs.map dB))) (hl:bs.length < 300000000) (n:Nat) (hn:bs.length + 1 < n):W P (n + 1) uL [jB k_3 id bs.length,bnF] σ=some (.ret ⟨ow bs.length,dSs (bs.map Prod.fst)⟩,σ):=by
 obtain ⟨n,rfl⟩:∃ k,n=k + 1:=⟨n - 1,by omega⟩
 rw [eH (af:=Vi) h0 rfl rfl]
 have e0:(bs.take 0).map Prod.fst=[]:=rfl
 have e1:dSs []=.nils:=rfl
 by_cases hne:bs=[]
 ·subst hne
  have e2:jB k_3 id ([]:List (Tx × Co)).length=.nils:=rfl
  have e3:ow ([]:List (Tx × Co)).length=false:=rfl
  have e4:dSs (([]:List (Tx × Co)).map Prod.fst)=.nils:=rfl
  rw [e2,e3,e4]
  have hlt:¬ ((0:Int) < (0:Int)):=by omega
  simp only [Vi,yS,bnF,sA,Nat.reduceAdd,Nat.reduceSub,Nat.reduceMul,Nat.reduceBEq,Nat.reduceLeDiff,Int.reduceBEq,Int.reduceBNe,Int.reduceLE,Int.reduceLT,Int.reduceGE,Int.reduceGT,Int.reduceNeg,kn,gU,eR,hlt]
 ·have h1:=iL (body:=exec (W P (n + 1)) (n + 1) none yS) (fun i=>Ena' id bs i) (fun _=>σ) bs.length (r:=_) (fun _ _ h=>by cases h) (fun i hi=>na'_step id bs (ha hne) i hi (by omega) (fun x σ=>zg5b hP x n σ)) (na'_end id bs) 0 (n + 1) (by omega) (by omega)
  rw [aV] at h1
  rw [rK _ _ _ (fun h=>hne (aR.1 h))]
  simp only [Ena',eR,e0,e1,oJ] at h1
  simp only [Vi,sA,Nat.reduceAdd,Nat.reduceSub,Nat.reduceMul,Nat.reduceBEq,Nat.reduceLeDiff,Int.reduceBEq,Int.reduceBNe,Int.reduceLE,Int.reduceLT,Int.reduceGE,Int.reduceGT,Int.reduceNeg,kn,h1]
def wG (a:Nat) (l:List Su):D:=jB k_5 a l.length
structure FSt (σ:Store) (p a:Nat) (t:Tx) (m:List Su):Prop where
 obj:dE σ.objs p=some [⟨false,.str t⟩,⟨false,wG a m⟩]
 arr:m≠[]→dE σ.objs a=some (cellsOf (m.map dU))∧dE σ.tys a=some ⟨k_5.el,k_5.sz⟩
 pa:p≠a
 pn:p < σ.next
 an:m≠[]→a < σ.next
theorem FSt.keep {σ σ':Store} {p a:Nat} {t:Tx} {m:List Su} (h:FSt σ p a t m) (hn:σ.next≤σ'.next) (h1:dE σ'.objs p=dE σ.objs p) (h2:m≠[]→dE σ'.objs a=dE σ.objs a) (h3:m≠[]→dE σ'.tys a=dE σ.tys a):FSt σ' p a t m :=
 ⟨by rw [h1]; exact h.obj,fun hL=>by rw [h2 hL,h3 hL]; exact h.arr hL,h.pa,aP h.pn hn,fun e=>aP (h.an e) hn⟩
theorem FSt.fa {σ σ':Store} {p a:Nat} {t:Tx} {m:List Su} (h:FSt σ p a t m) (f:FrA σ σ'):FSt σ' p a t m:=h.keep f.nx (f.ob _ h.pn) (fun e=>f.ob _ (h.an e)) (fun e=>f.ty _ (h.an e))
theorem FSt.so {σ:Store} {p a:Nat} {t:Tx} {m:List Su} (h:FSt σ p a t m) {id:Nat} {cs:List Cell} (h1:id≠p) (h2:id≠a):FSt (SO σ id cs) p a t m:=h.keep (aM _) (iY (fun e=>h1 e.symm)) (fun _=>iY (fun e=>h2 e.symm)) (fun _=>rfl)
theorem FSt.any {σ:Store} {p a b:Nat} {t:Tx} {m:List Su} (h:FSt σ p a t m) (hm:m=[]) (hb:p≠b):FSt σ p b t m:=⟨by subst hm; exact h.obj,fun e=>absurd hm e,hb,h.pn,fun e=>absurd hm e⟩
def zI (p:Nat) (t:Tx) (c:Co) (lz:Bool) (g:List Tx) (F:List Su→Co × List Su):Prop:=∀ (σ:Store) (a:Nat) (m:List Su),FSt σ p a t m→m.length + c.size < 50000000→∃ σ' a',Ret SP vQ [.ptr p 0,dCo c,.bool lz,dSs g] σ (dCo (F m).1) σ'∧FSt σ' p a' t (F m).2∧Frm p a 0 a' 0 σ σ'
section
def boxA (c:Co) (ki bi ai:Nat):List Cell:=[⟨false,.int .i64 c.f⟩,⟨false,.int .i64 c.n⟩,⟨false,.str c.s⟩,⟨false,.int .i64 0⟩,⟨false,.int .i64 0⟩,⟨false,.str []⟩,⟨false,.nils⟩,⟨false,jB k_2 ki c.ks.length⟩,⟨false,jB k_3 bi c.bs.length⟩,⟨false,jB k_4 ai c.al.length⟩]
def Ep0 (p:Nat) (c:Co) (lz:Bool) (g:List Tx) (ki bi ai i:Nat):Env:={slots:=[(0,⟨false,.ptr p 0⟩),(2,⟨false,.bool lz⟩),(3,⟨false,dSs g⟩),(87,⟨false,jB k_3 bi c.bs.length⟩),(88,⟨false,.int .i64 c.bs.length⟩),(89,⟨false,.int .i64 i⟩)],locs:=[(5,(5,0)),(8,(8,0))],boxes:=[(5,boxA c ki bi ai),(8,zC)],defers:=[]}
theorem zf5b (b:Tx × Co) (x:Co):putCells ((dB b).cells.map Cell.of) 5 ((dCo x).cells.map Cell.of)=(dB (b.1,x)).cells.map Cell.of:=by
 rw [Be,Be,fJ]
 rfl
theorem zdlb {C:dQ} {n:Nat} {σ σ1:Store} (p:Nat) (c:Co) (lz:Bool) (g:List Tx) (ki bi ai i:Nat) (L:List (Tx × Co)) (hL:L.length=c.bs.length) (hi:i < c.bs.length) (hl:c.bs.length < 1000000000) (ha:dE σ.objs bi=some (cellsOf (L.map dB))) (ha1:dE σ1.objs bi=some (cellsOf (L.map dB))) (x:Co)
  (h1:C vQ [.ptr p 0,dCo (L[i]'(by omega)).2,.bool true,dSs g] σ=some (.ret ⟨false,dCo x⟩,σ1)) :
  exec C n none kG (Ep0 p c lz g ki bi ai i) σ=some (.normal,Ep0 p c lz g ki bi ai (i + 1),SO σ1 bi (cellsOf ((L.set i ((L[i]'(by omega)).1,x)).map dB))):=by
 have hlt:((i:Int) < (c.bs.length:Int)):=by omega
 have w:=dV (i:=i) (by omega)
 have hiL:i < L.length:=by omega
 have ht:=Cj (g:=dB) (sz:=14) uH L i hiL
 have hpd:=zf5b (L[i]'hiL) x
 have hp:=zdb (g:=dB) (sz:=15) uH L i hiL 5 ((dCo x).cells.map Cell.of) ((L[i]'hiL).1,x) (by rw [aJ,lH]; omega) hpd
 have es:(k_3.sz == 15)=true:=rfl
 have hag:=rK k_3 bi c.bs.length (by omega)
 have hfit:i * 15 + 5 + 10≤(cellsOf (L.map dB)).length:=by
  rw [mA' (sz:=15) uH]
  have:(i + 1) * 15≤L.length * 15:=Nat.mul_le_mul_right _ (by omega)
  omega
 generalize L[i]'hiL=b at ht h1 hp
 have hon:=jO b.2
 have hok:=yD x
 have hce:(dCo x).cells.length=10:=lH x
 have hone:(dCo x).one=false:=by rw [fJ]; rfl
 rw [Be] at ht
 rw [fJ] at h1
 simp only [D.cells] at ht
 simp only [kG,Ep0,boxA,zC,sA,Nat.reduceAdd,Nat.reduceSub,Nat.reduceMul,Nat.reduceBEq,Nat.reduceLeDiff,Int.reduceBEq,Int.reduceBNe,Int.reduceLE,Int.reduceLT,Int.reduceGE,Int.reduceGT,Int.reduceNeg,kn,eI,mB,hlt,fL,hag,mH,es,hi,aN,ha,ht,hon,h1,ha1,hok,hce,hfit,hone,hp,w]
end
end Go.Fu

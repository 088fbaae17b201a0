/-
 A name,given others,by the program.
-/
import Derived.Test.YtldfbnbckiifeaaGreatDoorFgDu
set_option maxHeartbeats 4000000
set_option linter.unusedSimpArgs false
set_option linter.unusedVariables false
set_option linter.unusedSectionVars false
namespace Go.Fu
open Go Go.Mx
set_option maxRecDepth 10000
set_option maxHeartbeats 4000000
def zT:D:=.agg [.int .i64 0,.int .i64 0,.str [],.nils]
theorem zljb (n:Nat) (σ:Store):W SE (n + 2) n_198 [zT] σ=some (.ret ⟨false,zT⟩,σ):=by
 rw [W_fun (af:=a_175) rfl rfl rfl]
 have hlt:¬ ((0:Int) < (0:Int)):=by omega
 simp only [a_175,a_247,zT,sA,Nat.reduceAdd,Nat.reduceSub,Nat.reduceMul,Nat.reduceBEq,Nat.reduceLeDiff,Int.reduceBEq,Int.reduceBNe,Int.reduceLE,Int.reduceLT,Int.reduceGE,Int.reduceGT,Int.reduceNeg,kn,loopN,zeroI,hlt]
theorem zfjb (n:Nat) (σ:Store):W SE (n + 3) n_197 [zT,.nils,.nils] σ=some (.ret ⟨false,zT⟩,σ):=by
 rw [W_fun (af:=a_174) rfl rfl rfl]
 have h1:=zljb n σ
 simp only [zT] at h1
 have e2:((0:Int) == 2)=false:=rfl
 have e4:((0:Int) == 4)=false:=rfl
 have e5:((0:Int) == 5)=false:=rfl
 simp only [a_174,zT,sA,Nat.reduceAdd,Nat.reduceSub,Nat.reduceMul,Nat.reduceBEq,Nat.reduceLeDiff,Int.reduceBEq,Int.reduceBNe,Int.reduceLE,Int.reduceLT,Int.reduceGE,Int.reduceGT,Int.reduceNeg,kn,e2,e4,e5,h1]
theorem zofb (n:Nat) (σ:Store):W SE (n + 4) n_202 [zT] σ=some (.ret ⟨false,zT⟩,σ):=by
 rw [W_fun (af:=a_132) rfl rfl rfl]
 have h1:=zfjb n σ
 simp only [zT] at h1
 simp only [a_132,zT,sA,Nat.reduceAdd,Nat.reduceSub,Nat.reduceMul,Nat.reduceBEq,Nat.reduceLeDiff,Int.reduceBEq,Int.reduceBNe,Int.reduceLE,Int.reduceLT,Int.reduceGE,Int.reduceGT,Int.reduceNeg,kn,h1]
def cV (s:Tx):List Cell:=[⟨false,.int .i64 1⟩,⟨false,.int .i64 0⟩,⟨false,.str s⟩,⟨false,.int .i64 0⟩,⟨false,.int .i64 0⟩,⟨false,.str []⟩,⟨false,.nils⟩,⟨false,.nils⟩,⟨false,.nils⟩,⟨false,.nils⟩]
theorem zd9b (n:Nat) (σ:Store) (s:Tx) (h:aget σ.objs 0=some (cV s)):∃ o,W SE (n + 2) n_177 [.ptr 0 0] σ=some (.ret ⟨o,.list k_176 [.agg [.nils,.nils]]⟩,σ):=by
 refine ⟨true,?_⟩
 rw [W_fun (af:=zgv) rfl rfl rfl]
 have hlt:¬ ((0:Int) < (0:Int)):=by omega
 have e5:((1:Int) == 5)=false:=rfl
 have hz:k_176.sz=2:=rfl
 simp only [cV] at h
 simp only [zgv,zj0,zj1,zj2,sA,Nat.reduceAdd,Nat.reduceSub,Nat.reduceMul,Nat.reduceBEq,Nat.reduceLeDiff,Int.reduceBEq,Int.reduceBNe,Int.reduceLE,Int.reduceLT,Int.reduceGE,Int.reduceGT,Int.reduceNeg,kn,h,loopN,zeroI,hlt,e5,hz]
theorem zri (f:FuncId) (af:AFun) (n:Nat) (σ:Store) (h:(f=n_49∧af=zbi)∨(f=n_48∧af=za9)∨(f=n_47∧af=zbp)):W SE (n + 1) f [.nils] σ=some (.ret ⟨false,.nils⟩,σ):=by
 rcases h with ⟨rfl,rfl⟩ | ⟨rfl,rfl⟩ | ⟨rfl,rfl⟩
 ·rw [W_fun (af:=zbi) rfl rfl rfl]
  simp only [zbi,sA,Nat.reduceAdd,Nat.reduceSub,Nat.reduceMul,Nat.reduceBEq,Nat.reduceLeDiff,Int.reduceBEq,Int.reduceBNe,Int.reduceLE,Int.reduceLT,Int.reduceGE,Int.reduceGT,Int.reduceNeg,kn]
 ·rw [W_fun (af:=za9) rfl rfl rfl]
  simp only [za9,sA,Nat.reduceAdd,Nat.reduceSub,Nat.reduceMul,Nat.reduceBEq,Nat.reduceLeDiff,Int.reduceBEq,Int.reduceBNe,Int.reduceLE,Int.reduceLT,Int.reduceGE,Int.reduceGT,Int.reduceNeg,kn]
 ·rw [W_fun (af:=zbp) rfl rfl rfl]
  simp only [zbp,sA,Nat.reduceAdd,Nat.reduceSub,Nat.reduceMul,Nat.reduceBEq,Nat.reduceLeDiff,Int.reduceBEq,Int.reduceBNe,Int.reduceLE,Int.reduceLT,Int.reduceGE,Int.reduceGT,Int.reduceNeg,kn]
theorem zh8b (s:Tx):OkP n_57 [dCo (varC s)] ⟨false,dCo (varC s)⟩:=by
 have hd:dCo (varC s)=.agg [.int .i64 1,.int .i64 0,.str s,.int .i64 0,.int .i64 0,.str [],.nils,.nils,.nils,.nils]:=za1 _
 obtain ⟨σ1,e1⟩:∃ σ1,σ1=GA σ0 t_199 (cV s):=⟨_,rfl⟩
 have h1:aget σ1.objs 0=some (cV s):=by rw [e1]; rfl
 have n0:σ0.next=0:=rfl
 have ht:=zofb 2
 have c1:=fun σ=>zri n_49 zbi 5 σ (.inl ⟨rfl,rfl⟩)
 have c2:=fun σ=>zri n_48 za9 5 σ (.inr (.inl ⟨rfl,rfl⟩))
 have c3:=fun σ=>zri n_47 zbp 5 σ (.inr (.inr ⟨rfl,rfl⟩))
 obtain ⟨o,hg⟩:=zd9b 4 (SO σ1 0 (cV s)) s zb9
 have hlt:¬ ((0:Int) < (0:Int)):=by omega
 have hlt1:((0:Int) < (1:Int)):=by omega
 have hlt2:¬ ((1:Int) < (1:Int)):=by omega
 have w1:IntKind.i64.wrap (0 + 1)=1:=rfl
 have hx:zbj 2 (.list k_176 [.agg [.nils,.nils]]) 0=some (.eptr (.agg [.nils,.nils])):=rfl
 simp only [cV] at e1 h1 hg
 have hself:∀ cs,aget (SO σ1 0 cs).objs 0=some cs:=fun _=>zb9
 simp only [zT] at ht
 refine zf2 (af:=a_131) (n:=3) (σ':=SO σ1 0 (cV s)) (ze2 SE 6) rfl rfl (by simp [zam,zcv]) (zcv _) ?_
 rw [hd]
 simp only [a_131,a_213,a_214,a_216,a_215,sA,Nat.reduceAdd,Nat.reduceSub,Nat.reduceMul,Nat.reduceBEq,Nat.reduceLeDiff,Int.reduceBEq,Int.reduceBNe,Int.reduceLE,Int.reduceLT,Int.reduceGE,Int.reduceGT,Int.reduceNeg,kn,memE,mB,n0,← e1,h1,ht,c1,c2,c3,hself,SO_SO,zcp,loopN,zeroI,oneI,hlt,hg,hlt1,hlt2,hx,w1,cV]
def zdab:List D→Cell→Prop:=fun ds c=>∀ s,ds=[dCo (varC s)]→c=⟨false,dCo (varC s)⟩
theorem zzn {a b:Tx} (h:dCo (varC a)=dCo (varC b)):a=b:=by
 have:=zg4 h
 simpa [varC] using this
theorem zf4b {S:Specs} (hS:aget S n_57=some zdab) (s:Tx) (n:Nat) (σ:Store):W S (n + 1) n_57 [dCo (varC s)] σ=some (.ret ⟨false,dCo (varC s)⟩,σ):=by
 obtain ⟨c,h1,h2⟩:=W_orc (S:=S) hS rfl (c:=⟨false,dCo (varC s)⟩) (fun s' e=>by
  simp only [List.cons.injEq,and_true] at e
  rw [zzn e]) (zh8b s)
 rw [h2,h1 s rfl]
theorem zjdb (s:Tx):OkP n_44 [.str s] ⟨false,dCo (varC s)⟩:=by
 have hd:dCo (varC s)=.agg [.int .i64 1,.int .i64 0,.str s,.int .i64 0,.int .i64 0,.str [],.nils,.nils,.nils,.nils]:=za1 _
 refine zf2 (af:=a_130) (n:=1) (σ':=σ0) (ze2 SE 1) rfl rfl rfl (zcv _) ?_
 rw [hd]
 simp only [a_130,sA,Nat.reduceAdd,Nat.reduceSub,Nat.reduceMul,Nat.reduceBEq,Nat.reduceLeDiff,Int.reduceBEq,Int.reduceBNe,Int.reduceLE,Int.reduceLT,Int.reduceGE,Int.reduceGT,Int.reduceNeg,kn]
def zzc:List D→Cell→Prop:=fun ds c=>∀ s,ds=[.str s]→c=⟨false,dCo (varC s)⟩
theorem W_Var {S:Specs} (hS:aget S n_44=some zzc) (s:Tx) (n:Nat) (σ:Store):W S (n + 1) n_44 [.str s] σ=some (.ret ⟨false,dCo (varC s)⟩,σ):=by
 obtain ⟨c,h1,h2⟩:=W_orc (S:=S) hS rfl (c:=⟨false,dCo (varC s)⟩) (fun s' e=>by
  simp only [List.cons.injEq,D.str.injEq,and_true] at e
  rw [e]) (zjdb s)
 rw [h2,h1 s rfl]
def SV:Specs:=[(n_44,zzc),(n_57,zdab)]
section
variable {C:CallF} {n:Nat} {σ:Store}
def Eva (l:List Tx) (i:Nat):Env:={slots:=[(3,⟨ow i,dCs ((l.take i).map varC)⟩),(6,⟨false,dSs l⟩),(7,⟨false,.int .i64 l.length⟩),(8,⟨false,.int .i64 i⟩)],locs:=[],boxes:=[],defers:=[]}
theorem zf8b (l:List Co) (v:Co) (o:Bool) (ho:l≠[]→o=true) (hl:l.length < 1000000000):za4 k_2 160 ⟨o,dCs l⟩ [dCo v]=some ⟨true,dCs (l ++ [v])⟩:=zge zkh zdc (by omega) l v o ho hl
theorem zohb (l:List Tx) (i:Nat) (h:i < l.length) (hl:l.length < 1000000000) (h1:C n_44 [.str l[i]] σ=some (.ret ⟨false,dCo (varC l[i])⟩,σ)):exec C n none a_81 (Eva l i) σ=some (.normal,Eva l (i + 1),σ):=by
 have hlt:((i:Int) < (l.length:Int)):=by omega
 have w:=zak (i:=i) (by omega)
 have hx:=idx_S l i h
 have ha:=zf8b ((l.take i).map varC) (varC l[i]) (ow i) (fun hne=>ow_ne (by simpa using hne)) (by simp; omega)
 have e2:(l.take i).map varC ++ [varC l[i]]=(l.take (i + 1)).map varC:=by rw [← zb3 l i h,List.map_append]; rfl
 rw [e2] at ha
 have hok:=zkh (varC l[i])
 have hce:(dCo (varC l[i])).cells.length=10:=zdc _
 simp only [a_81,Eva,sA,Nat.reduceAdd,Nat.reduceSub,Nat.reduceMul,Nat.reduceBEq,Nat.reduceLeDiff,Int.reduceBEq,Int.reduceBNe,Int.reduceLE,Int.reduceLT,Int.reduceGE,Int.reduceGT,Int.reduceNeg,kn,hlt,natI,hx,h1,hok,hce,ha,w,zdx]
theorem zqab (l:List Tx):exec C n none a_81 (Eva l l.length) σ=some (.exit 0,{Eva l l.length with slots:=[(3,⟨ow l.length,dCs (l.map varC)⟩),(6,⟨false,dSs l⟩),(7,⟨false,.int .i64 l.length⟩),(8,⟨false,.int .i64 l.length⟩),(9,⟨false,.bool false⟩)]},σ):=by
 have hlt:¬ ((l.length:Int) < (l.length:Int)):=by omega
 simp only [a_81,Eva,sA,Nat.reduceAdd,Nat.reduceSub,Nat.reduceMul,Nat.reduceBEq,Nat.reduceLeDiff,Int.reduceBEq,Int.reduceBNe,Int.reduceLE,Int.reduceLT,Int.reduceGE,Int.reduceGT,Int.reduceNeg,kn,hlt,List.take_length]
def boxL (c:Co):D:=.agg [.int .i64 c.f,.int .i64 c.n,.str c.s,.int .i64 0,.int .i64 0,.str [],.nils,kD c,bD c,aD c]
theorem ztp (c:Co):dCo c=boxL c:=zaw c
def zC:List Cell:=[⟨false,.int .i64 0⟩,⟨false,.int .i64 0⟩,⟨false,.str []⟩,⟨false,.int .i64 0⟩,⟨false,.int .i64 0⟩,⟨false,.str []⟩,⟨false,.nils⟩,⟨false,.nils⟩,⟨false,.nils⟩,⟨false,.nils⟩]
def Eap (s:Tx) (l:List Tx) (c:Co) (i:Nat):Env:={slots:=[(10,⟨false,dCs (l.map varC)⟩),(11,⟨false,.int .i64 l.length⟩),(12,⟨false,.int .i64 i⟩)],locs:=[(4,(4,0)),(5,(5,0))],boxes:=[(4,zC),(5,boxC c)],defers:=[]}
theorem zjkb (c x:Co):boxC (appC' c x)=[⟨false,.int .i64 4⟩,⟨false,.int .i64 0⟩,⟨false,.str []⟩,⟨false,.int .i64 0⟩,⟨false,.int .i64 0⟩,⟨false,.str []⟩,⟨false,.nils⟩,⟨false,.list k_2 [boxL c,boxL x]⟩,⟨false,.nils⟩,⟨false,.nils⟩]:=by
 rw [← ztp,← ztp]
 rfl
theorem zlzb (s:Tx) (l:List Tx) (c:Co) (i:Nat) (h:i < l.length) (hl:l.length < 1000000000) (h1:C n_57 [dCo (varC l[i])] σ=some (.ret ⟨false,dCo (varC l[i])⟩,σ)):exec C n none a_71 (Eap s l c i) σ=some (.normal,Eap s l (appC' c (varC l[i])) (i + 1),σ):=by
 have hlt:((i:Int) < (l.length:Int)):=by omega
 have w:=zak (i:=i) (by omega)
 have hx:=zdv (k:=k_2) (sz:=10) rfl dCo (l.map varC) i (by simpa using h)
 rw [List.getElem_map] at hx
 have hbx:=zjkb c (varC l[i])
 have hd:dCo (varC l[i])=.agg [.int .i64 1,.int .i64 0,.str l[i],.int .i64 0,.int .i64 0,.str [],.nils,.nils,.nils,.nils]:=za1 _
 have hb2:boxL (varC l[i])=.agg [.int .i64 1,.int .i64 0,.str l[i],.int .i64 0,.int .i64 0,.str [],.nils,.nils,.nils,.nils]:=by rw [← ztp]; exact hd
 rw [hd] at h1 hx
 rw [hb2] at hbx
 have hcs:dCs (l.map varC)=dlist k_2 ((l.map varC).map dCo):=rfl
 rw [← hcs] at hx
 have hon:=oneD c
 simp only [boxL] at hbx
 have hbc:boxC c=[⟨false,.int .i64 c.f⟩,⟨false,.int .i64 c.n⟩,⟨false,.str c.s⟩,⟨false,.int .i64 0⟩,⟨false,.int .i64 0⟩,⟨false,.str []⟩,⟨false,.nils⟩,⟨false,kD c⟩,⟨false,bD c⟩,⟨false,aD c⟩]:=rfl
 have hln:lenOf (dCs (l.map varC))=some l.length:=by rw [len_C,List.length_map]
 simp only [a_71,Eap,hbx,sA,Nat.reduceAdd,Nat.reduceSub,Nat.reduceMul,Nat.reduceBEq,Nat.reduceLeDiff,Int.reduceBEq,Int.reduceBNe,Int.reduceLE,Int.reduceLT,Int.reduceGE,Int.reduceGT,Int.reduceNeg,kn,hlt,natI,hx,hbc,h1,hon,w]
theorem zotb (s:Tx) (l:List Tx) (c:Co):exec C n none a_71 (Eap s l c l.length) σ=some (.exit 0,{Eap s l c l.length with slots:=[(10,⟨false,dCs (l.map varC)⟩),(11,⟨false,.int .i64 l.length⟩),(12,⟨false,.int .i64 l.length⟩),(13,⟨false,.bool false⟩)]},σ):=by
 have hlt:¬ ((l.length:Int) < (l.length:Int)):=by omega
 simp only [a_71,Eap,sA,Nat.reduceAdd,Nat.reduceSub,Nat.reduceMul,Nat.reduceBEq,Nat.reduceLeDiff,Int.reduceBEq,Int.reduceBNe,Int.reduceLE,Int.reduceLT,Int.reduceGE,Int.reduceGT,Int.reduceNeg,kn,hlt]
end
theorem zi5b (l:List Tx) (hl:l.length < 100000000):OkP n_105 [dSs l] ⟨false,dCs (l.map varC)⟩:=by
 have h0:=zcj (body:=exec (W SV 1) 1000000000 none a_81) (fun i=>Eva l i) (fun _=>σ0) l.length (r:=_) (fun _ _ h=>by cases h) (fun i hi=>zohb l i hi (by omega) (W_Var (S:=SV) rfl _ 0 σ0)) (zqab l) 0 1000000000 (by omega) (by omega)
 have e0:dCs (([]:List Tx).map varC)=.nils:=rfl
 simp only [Eva,zeroI,List.take_zero,e0,zjs] at h0
 have hln:=len_S l
 refine OkP.weak (o:=ow l.length) rfl (zf2 (af:=a_152) (n:=1000000000) (σ':=σ0) (ze2 SV 1) rfl rfl (by simp [zam,za6]) (by rw [dCs,zdg]; exact zc6 zcv _) ?_)
 simp only [a_152,sA,Nat.reduceAdd,Nat.reduceSub,Nat.reduceMul,Nat.reduceBEq,Nat.reduceLeDiff,Int.reduceBEq,Int.reduceBNe,Int.reduceLE,Int.reduceLT,Int.reduceGE,Int.reduceGT,Int.reduceNeg,kn,hln,h0]
theorem zjab (s:Tx) (l:List Tx) (hl:l.length < 100000000):OkP n_100 [dCo (varC s),dCs (l.map varC)] ⟨false,dCo (zdi (varC s) l)⟩:=by
 have h0:=zcj (body:=exec (W SV 1) 1000000000 none a_71) (fun i=>Eap s l (zdi (varC s) (l.take i)) i) (fun _=>σ0) l.length (r:=_) (fun _ _ h=>by cases h) (fun i hi=>by
  have:=zlzb (C:=W SV 1) (n:=1000000000) (σ:=σ0) s l (zdi (varC s) (l.take i)) i hi (by omega) (zf4b (S:=SV) rfl _ 0 σ0)
  rw [← zabb,zb3 l i hi] at this
  exact this) (zotb s l _) 0 1000000000 (by omega) (by omega)
 have e0:zdi (varC s) (l.take 0)=varC s:=rfl
 have hbv:boxC (varC s)=[⟨false,.int .i64 1⟩,⟨false,.int .i64 0⟩,⟨false,.str s⟩,⟨false,.int .i64 0⟩,⟨false,.int .i64 0⟩,⟨false,.str []⟩,⟨false,.nils⟩,⟨false,.nils⟩,⟨false,.nils⟩,⟨false,.nils⟩]:=rfl
 rw [List.take_length] at h0
 generalize zdi (varC s) l=gm at *
 have hbc:boxC gm=[⟨false,.int .i64 gm.f⟩,⟨false,.int .i64 gm.n⟩,⟨false,.str gm.s⟩,⟨false,.int .i64 0⟩,⟨false,.int .i64 0⟩,⟨false,.str []⟩,⟨false,.nils⟩,⟨false,kD gm⟩,⟨false,bD gm⟩,⟨false,aD gm⟩]:=rfl
 simp only [Eap,zC,zeroI,e0,hbv,hbc] at h0
 have hd:dCo (varC s)=.agg [.int .i64 1,.int .i64 0,.str s,.int .i64 0,.int .i64 0,.str [],.nils,.nils,.nils,.nils]:=za1 _
 have hdg:=zaw gm
 have ho:=zf4b (S:=SV) rfl s 0 σ0
 have hln:lenOf (dCs (l.map varC))=some l.length:=by rw [len_C,List.length_map]
 have hon:=oneD gm
 rw [hd] at ho
 refine zf2 (af:=a_129) (n:=1000000000) (σ':=σ0) (ze2 SV 1) rfl rfl (by simp only [zam,zcv,dCs,zdg,Bool.true_and,Bool.and_true]; exact zc6 zcv _) (zcv _) ?_
 rw [hd,hdg]
 simp only [a_129,sA,Nat.reduceAdd,Nat.reduceSub,Nat.reduceMul,Nat.reduceBEq,Nat.reduceLeDiff,Int.reduceBEq,Int.reduceBNe,Int.reduceLE,Int.reduceLT,Int.reduceGE,Int.reduceGT,Int.reduceNeg,kn,ho,hln,h0,hon]
def zdbb:List D→Cell→Prop:=fun ds c=>∀ l:List Tx,ds=[dSs l]→c=⟨false,dCs (l.map varC)⟩
theorem zosb {S:Specs} (hS:aget S n_105=some zdbb) (l:List Tx) (hl:l.length < 100000000) (n:Nat) (σ:Store):W S (n + 1) n_105 [dSs l] σ=some (.ret ⟨false,dCs (l.map varC)⟩,σ):=by
 obtain ⟨c,h1,h2⟩:=W_orc (S:=S) hS rfl (c:=⟨false,dCs (l.map varC)⟩) (fun s' e=>by
  simp only [List.cons.injEq,and_true] at e
  rw [zcy e]) (zi5b l hl)
 rw [h2,h1 l rfl]
theorem zlpb {a b:List Tx} (h:dCs (a.map varC)=dCs (b.map varC)):a=b:=by
 have h1:=zmcb h
 have:∀ a b:List Tx,a.map varC=b.map varC→a=b:=by
  intro a
  induction a with
  | nil=>intro b h; cases b with
   | nil=>rfl
   | cons x r=>simp at h
  | cons x r ih=>intro b h; cases b with
   | nil=>simp at h
   | cons y r2 =>
    simp only [List.map_cons,List.cons.injEq] at h
    have e:x=y:=by simpa [varC] using h.1
    rw [e,ih _ h.2]
 exact this a b h1
def zinb:List D→Cell→Prop:=fun ds c=>∀ s (l:List Tx),ds=[dCo (varC s),dCs (l.map varC)]→c=⟨false,dCo (zdi (varC s) l)⟩
theorem W_App {S:Specs} (hS:aget S n_100=some zinb) (s:Tx) (l:List Tx) (hl:l.length < 100000000) (n:Nat) (σ:Store):W S (n + 1) n_100 [dCo (varC s),dCs (l.map varC)] σ=some (.ret ⟨false,dCo (zdi (varC s) l)⟩,σ):=by
 obtain ⟨c,h1,h2⟩:=W_orc (S:=S) hS rfl (c:=⟨false,dCo (zdi (varC s) l)⟩) (fun s' l' e=>by
  simp only [List.cons.injEq,and_true] at e
  rw [zzn e.1,zlpb e.2]) (zjab s l hl)
 rw [h2,h1 s l rfl]
def zc9b:List D→Cell→Prop:=fun ds c=>∀ (x:Co) so,ds=[dCo x,dSs so]→c=⟨false,dSs (freeM x.size x [] so [])⟩
theorem zorb {S:Specs} (hS:aget S n_104=some zc9b) (x:Co) (so:List Tx) (hw:Wf x) (hsz:x.size < 10000000) (hs:so.length < 10000000) (n:Nat) (σ:Store):W S (n + 1) n_104 [dCo x,dSs so] σ=some (.ret ⟨false,dSs (freeM x.size x [] so [])⟩,σ):=by
 obtain ⟨c,h1,h2⟩:=W_orc (S:=S) hS rfl (c:=⟨false,dSs (freeM x.size x [] so [])⟩) (fun s' l' e=>by
  simp only [List.cons.injEq,and_true] at e
  rw [zg4 e.1,zcy e.2]) (zhbb x so hw hsz hs)
 rw [h2,h1 x so rfl]
end Go.Fu
namespace Go.Fu
open Go Go.Mx
set_option maxRecDepth 10000
set_option maxHeartbeats 4000000
def arrG (k:RowK) (id:Nat):Nat→D
 | 0=>.nils
 | n + 1=>.arr k id 0 (n + 1)
theorem zft (k:RowK) (id n:Nat) (h:n≠0):arrG k id n=.arr k id 0 n:=by
 cases n with
 | zero=>exact absurd rfl h
 | succ n=>rfl
theorem zke (k:RowK) (id n:Nat):lenOf (arrG k id n)=some n:=by cases n <;> rfl
theorem znv (k:RowK) (id n:Nat):(arrG k id n).one=true∧(arrG k id n).ok=true∧(arrG k id n).cells=[arrG k id n]:=by cases n <;> exact ⟨rfl,rfl,rfl⟩
theorem zyx:∀ (a b:List Cell) (o:Nat) (new:List Cell),putCells (a ++ b) (a.length + o) new=a ++ putCells b o new
 | [],b,o,new=>by simp
 | x :: a,b,o,[]=>by
  have:∀ (l:List Cell) (n:Nat),putCells l n []=l:=fun l n=>by cases l <;> cases n <;> rfl
  rw [this,this]
 | x :: a,b,o,y :: new=>by
  rw [List.cons_append,List.length_cons,show a.length + 1 + o=(a.length + o) + 1 by omega]
  simp only [putCells,zyx a b o (y :: new),List.cons_append]
theorem zyy (l:List Cell) (n:Nat):putCells l n []=l:=by cases l <;> cases n <;> rfl
theorem zuh:∀ (b r:List Cell) (o:Nat) (new:List Cell),o + new.length≤b.length→putCells (b ++ r) o new=putCells b o new ++ r
 | b,r,o,[],_=>by rw [zyy,zyy]
 | [],r,o,y :: new,h=>by simp at h
 | x :: b,r,0,y :: new,h=>by
  simp only [List.cons_append,putCells]
  rw [zuh b r 0 new (by simp at h ⊢; omega)]
 | x :: b,r,o + 1,y :: new,h=>by
  simp only [List.cons_append,putCells]
  rw [zuh b r o (y :: new) (by simp at h ⊢; omega)]
theorem zvp:∀ (a b:List Cell) (o n:Nat),takeC (a ++ b) (a.length + o) (n + 1)=takeC b o (n + 1)
 | [],b,o,n=>by simp
 | x :: a,b,o,n=>by
  rw [List.cons_append,List.length_cons,show a.length + 1 + o=(a.length + o) + 1 by omega,takeC,zvp a b o n]
theorem ziy:∀ (b r:List Cell),takeC (b ++ r) 0 b.length=some (b.map fun c=>c.d)
 | [],r=>by cases r <;> rfl
 | x :: b,r=>by
  rw [List.cons_append,List.length_cons,takeC,ziy b r]
  rfl
theorem zdf' {α:Type} {g:α→D} {sz:Nat} (h:∀ x,(g x).cells.length=sz):∀ l:List α,(cellsOf (l.map g)).length=l.length * sz
 | []=>by simp [cellsOf]
 | x :: l=>by
  rw [List.map_cons,cellsOf,List.length_append,List.length_map,h,zdf' h l,List.length_cons]
  rw [Nat.add_mul]
  omega
theorem zpw {α:Type} (g:α→D) (l:List α) (i:Nat) (hi:i < l.length):cellsOf (l.map g)=cellsOf ((l.take i).map g) ++ ((g l[i]).cells.map Cell.of ++ cellsOf ((l.drop (i + 1)).map g)):=by
 have e:l=l.take i ++ (l[i] :: l.drop (i + 1)):=by
  rw [← List.drop_eq_getElem_cons hi,List.take_append_drop]
 have:cellsOf (l.map g)=cellsOf ((l.take i ++ (l[i] :: l.drop (i + 1))).map g):=congrArg (fun x=>cellsOf (x.map g)) e
 rw [this,List.map_append,ze5,List.map_cons,cellsOf]
theorem zuk {α:Type} {g:α→D} {sz:Nat} (hs:∀ x,(g x).cells.length=sz) (l:List α) (i:Nat) (hi:i < l.length) (o:Nat) (new:List Cell) (x':α) (ho:o + new.length≤sz) (hx:putCells ((g l[i]).cells.map Cell.of) o new=(g x').cells.map Cell.of):putCells (cellsOf (l.map g)) (i * sz + o) new=cellsOf ((l.set i x').map g):=by
 have hl:=zdf' (sz:=sz) hs (l.take i)
 rw [List.length_take,Nat.min_eq_left (by omega)] at hl
 have hi2:i < (l.set i x').length:=by simpa using hi
 rw [zpw g l i hi,zpw g (l.set i x') i hi2,← hl,zyx,zuh _ _ _ _ (by rw [List.length_map,hs]; exact ho),hx]
 have e1:(l.set i x').take i=l.take i:=by rw [List.take_set_of_le (Nat.le_refl i)]
 have e2:(l.set i x').drop (i + 1)=l.drop (i + 1):=by rw [List.drop_set_of_lt (Nat.lt_succ_self i)]
 rw [e1,e2]
 simp
theorem zzy {S:Specs} (hs:has S n_48=false) (σ:Store) (l:List (Tx × Co)) (hl:l.length < 100000000):∃ id σ',(∀ n,W S (n + 1) n_48 [dlist k_3 (l.map dB)] σ=some (.ret ⟨false,arrG k_3 id l.length⟩,σ'))∧FrA σ σ'∧σ.next≤id ∧
  (l≠[]→aget σ'.objs id=some (cellsOf (l.map dB))∧id < σ'.next):=by
 by_cases hne:l=[]
 ·subst hne
  refine ⟨σ.next,σ,fun n=>?_,FrA.refl,Nat.le_refl _,fun h=>absurd rfl h⟩
  rw [W_fun (af:=za9) hs rfl rfl]
  have e:dlist k_3 (([]:List (Tx × Co)).map dB)=.nils:=rfl
  simp only [za9,e,sA,Nat.reduceAdd,Nat.reduceSub,Nat.reduceMul,Nat.reduceBEq,Nat.reduceLeDiff,Int.reduceBEq,Int.reduceBNe,Int.reduceLE,Int.reduceLT,Int.reduceGE,Int.reduceGT,Int.reduceNeg,kn]
  rfl
 ·have e2:decide ((0 + l.length) * 232≤bound)=true:=decide_eq_true (show (0 + l.length) * 232≤1099511627776 by omega)
  have e3:decide (0 + l.length≤bound)=true:=decide_eq_true (show 0 + l.length≤1099511627776 by omega)
  have hall:zap k_3.sz (l.map dB)=true:=zex fun d hd=>by
   obtain ⟨s,_,rfl⟩:=List.mem_map.1 hd
   exact ⟨ok_dB s,zgy s⟩
  refine ⟨σ.next + 2,zag {zag σ k_3 [] with objs:=adel1 (zag σ k_3 []).objs σ.next} k_3 (cellsOf (l.map dB)),fun n=>?_,⟨?_,fun j h1=>?_,fun j h1=>?_,fun j h1=>rfl⟩,by omega,fun _=>⟨agS _ _ _,by simp [zag]⟩⟩
  ·rw [W_fun (af:=za9) hs rfl rfl]
   have hnil:(dlist k_3 (l.map dB)).isNilS?=some false:=by
    cases l with
    | nil=>exact absurd rfl hne
    | cons x r=>rfl
   have hli:∀ os,zbs os (dlist k_3 (l.map dB))=some (l.map dB):=fun os=>by rw [ze7]
   have hap:zat (zag σ k_3 []) k_3 232 (.arr k_3 σ.next 0 0) (l.map dB)=some (.arr k_3 (σ.next + 2) 0 l.length,zag {zag σ k_3 [] with objs:=adel1 (zag σ k_3 []).objs σ.next} k_3 (cellsOf (l.map dB))):=by
    have g1:aget (zag σ k_3 []).objs σ.next=some []:=agS _ _ _
    have g2:aget (zag σ k_3 []).tys σ.next=some ⟨k_3.el,k_3.sz⟩:=agS _ _ _
    have ek:k_3.same k_3=true:=rfl
    have hlm:(l.map dB).length=l.length:=List.length_map ..
    simp only [zat,hall,zab,g1,g2,bindO,zac,ek,beq_self_eq_true,hlm,Nat.zero_mul,List.take_zero,List.map_nil,List.nil_append,Nat.zero_add,Nat.zero_le,decide_true] at e2 e3 ⊢
    simp only [e2,e3,Bool.and_self,zab]
    rfl
   have hc0:cellsOf []=[]:=rfl
   have hag:arrG k_3 (σ.next + 2) l.length=.arr k_3 (σ.next + 2) 0 l.length:=zft _ _ _ (fun h=>hne (List.length_eq_zero_iff.1 h))
   rw [hag]
   simp only [za9,sA,Nat.reduceAdd,Nat.reduceSub,Nat.reduceMul,Nat.reduceBEq,Nat.reduceLeDiff,Int.reduceBEq,Int.reduceBNe,Int.reduceLE,Int.reduceLT,Int.reduceGE,Int.reduceGT,Int.reduceNeg,kn,hnil,memE,mB,hc0,hli,hap]
  ·simp only [zag]; omega
  ·simp only [zag]
   rw [agC _ _ _ _ (by omega),agD _ _ (by omega),agC _ _ _ _ (by omega)]
  ·simp only [zag]
   rw [agC _ _ _ _ (by omega),agC _ _ _ _ (by omega)]
theorem zdxb {S:Specs} (hs:has S n_49=false) (σ:Store) (l:List (Co)) (hl:l.length < 100000000):∃ id σ',(∀ n,W S (n + 1) n_49 [dlist k_2 (l.map dCo)] σ=some (.ret ⟨false,arrG k_2 id l.length⟩,σ'))∧FrA σ σ'∧σ.next≤id ∧
  (l≠[]→aget σ'.objs id=some (cellsOf (l.map dCo))∧id < σ'.next):=by
 by_cases hne:l=[]
 ·subst hne
  refine ⟨σ.next,σ,fun n=>?_,FrA.refl,Nat.le_refl _,fun h=>absurd rfl h⟩
  rw [W_fun (af:=zbi) hs rfl rfl]
  have e:dlist k_2 (([]:List (Co)).map dCo)=.nils:=rfl
  simp only [zbi,e,sA,Nat.reduceAdd,Nat.reduceSub,Nat.reduceMul,Nat.reduceBEq,Nat.reduceLeDiff,Int.reduceBEq,Int.reduceBNe,Int.reduceLE,Int.reduceLT,Int.reduceGE,Int.reduceGT,Int.reduceNeg,kn]
  rfl
 ·have e2:decide ((0 + l.length) * 160≤bound)=true:=decide_eq_true (show (0 + l.length) * 160≤1099511627776 by omega)
  have e3:decide (0 + l.length≤bound)=true:=decide_eq_true (show 0 + l.length≤1099511627776 by omega)
  have hall:zap k_2.sz (l.map dCo)=true:=zex fun d hd=>by
   obtain ⟨s,_,rfl⟩:=List.mem_map.1 hd
   exact ⟨zkh s,zdc s⟩
  refine ⟨σ.next + 2,zag {zag σ k_2 [] with objs:=adel1 (zag σ k_2 []).objs σ.next} k_2 (cellsOf (l.map dCo)),fun n=>?_,⟨?_,fun j h1=>?_,fun j h1=>?_,fun j h1=>rfl⟩,by omega,fun _=>⟨agS _ _ _,by simp [zag]⟩⟩
  ·rw [W_fun (af:=zbi) hs rfl rfl]
   have hnil:(dlist k_2 (l.map dCo)).isNilS?=some false:=by
    cases l with
    | nil=>exact absurd rfl hne
    | cons x r=>rfl
   have hli:∀ os,zbs os (dlist k_2 (l.map dCo))=some (l.map dCo):=fun os=>by rw [ze7]
   have hap:zat (zag σ k_2 []) k_2 160 (.arr k_2 σ.next 0 0) (l.map dCo)=some (.arr k_2 (σ.next + 2) 0 l.length,zag {zag σ k_2 [] with objs:=adel1 (zag σ k_2 []).objs σ.next} k_2 (cellsOf (l.map dCo))):=by
    have g1:aget (zag σ k_2 []).objs σ.next=some []:=agS _ _ _
    have g2:aget (zag σ k_2 []).tys σ.next=some ⟨k_2.el,k_2.sz⟩:=agS _ _ _
    have ek:k_2.same k_2=true:=rfl
    have hlm:(l.map dCo).length=l.length:=List.length_map ..
    simp only [zat,hall,zab,g1,g2,bindO,zac,ek,beq_self_eq_true,hlm,Nat.zero_mul,List.take_zero,List.map_nil,List.nil_append,Nat.zero_add,Nat.zero_le,decide_true] at e2 e3 ⊢
    simp only [e2,e3,Bool.and_self,zab]
    rfl
   have hc0:cellsOf []=[]:=rfl
   have hag:arrG k_2 (σ.next + 2) l.length=.arr k_2 (σ.next + 2) 0 l.length:=zft _ _ _ (fun h=>hne (List.length_eq_zero_iff.1 h))
   rw [hag]
   simp only [zbi,sA,Nat.reduceAdd,Nat.reduceSub,Nat.reduceMul,Nat.reduceBEq,Nat.reduceLeDiff,Int.reduceBEq,Int.reduceBNe,Int.reduceLE,Int.reduceLT,Int.reduceGE,Int.reduceGT,Int.reduceNeg,kn,hnil,memE,mB,hc0,hli,hap]
  ·simp only [zag]; omega
  ·simp only [zag]
   rw [agC _ _ _ _ (by omega),agD _ _ (by omega),agC _ _ _ _ (by omega)]
  ·simp only [zag]
   rw [agC _ _ _ _ (by omega),agC _ _ _ _ (by omega)]
theorem zgob {S:Specs} (hs:has S n_47=false) (σ:Store) (l:List (Hd × Co)) (hl:l.length < 100000000):∃ id σ',(∀ n,W S (n + 1) n_47 [dlist k_4 (l.map dA)] σ=some (.ret ⟨false,arrG k_4 id l.length⟩,σ'))∧FrA σ σ'∧σ.next≤id ∧
  (l≠[]→aget σ'.objs id=some (cellsOf (l.map dA))∧id < σ'.next):=by
 by_cases hne:l=[]
 ·subst hne
  refine ⟨σ.next,σ,fun n=>?_,FrA.refl,Nat.le_refl _,fun h=>absurd rfl h⟩
  rw [W_fun (af:=zbp) hs rfl rfl]
  have e:dlist k_4 (([]:List (Hd × Co)).map dA)=.nils:=rfl
  simp only [zbp,e,sA,Nat.reduceAdd,Nat.reduceSub,Nat.reduceMul,Nat.reduceBEq,Nat.reduceLeDiff,Int.reduceBEq,Int.reduceBNe,Int.reduceLE,Int.reduceLT,Int.reduceGE,Int.reduceGT,Int.reduceNeg,kn]
  rfl
 ·have e2:decide ((0 + l.length) * 216≤bound)=true:=decide_eq_true (show (0 + l.length) * 216≤1099511627776 by omega)
  have e3:decide (0 + l.length≤bound)=true:=decide_eq_true (show 0 + l.length≤1099511627776 by omega)
  have hall:zap k_4.sz (l.map dA)=true:=zex fun d hd=>by
   obtain ⟨s,_,rfl⟩:=List.mem_map.1 hd
   exact ⟨ok_dA s,zh0 s⟩
  refine ⟨σ.next + 2,zag {zag σ k_4 [] with objs:=adel1 (zag σ k_4 []).objs σ.next} k_4 (cellsOf (l.map dA)),fun n=>?_,⟨?_,fun j h1=>?_,fun j h1=>?_,fun j h1=>rfl⟩,by omega,fun _=>⟨agS _ _ _,by simp [zag]⟩⟩
  ·rw [W_fun (af:=zbp) hs rfl rfl]
   have hnil:(dlist k_4 (l.map dA)).isNilS?=some false:=by
    cases l with
    | nil=>exact absurd rfl hne
    | cons x r=>rfl
   have hli:∀ os,zbs os (dlist k_4 (l.map dA))=some (l.map dA):=fun os=>by rw [ze7]
   have hap:zat (zag σ k_4 []) k_4 216 (.arr k_4 σ.next 0 0) (l.map dA)=some (.arr k_4 (σ.next + 2) 0 l.length,zag {zag σ k_4 [] with objs:=adel1 (zag σ k_4 []).objs σ.next} k_4 (cellsOf (l.map dA))):=by
    have g1:aget (zag σ k_4 []).objs σ.next=some []:=agS _ _ _
    have g2:aget (zag σ k_4 []).tys σ.next=some ⟨k_4.el,k_4.sz⟩:=agS _ _ _
    have ek:k_4.same k_4=true:=rfl
    have hlm:(l.map dA).length=l.length:=List.length_map ..
    simp only [zat,hall,zab,g1,g2,bindO,zac,ek,beq_self_eq_true,hlm,Nat.zero_mul,List.take_zero,List.map_nil,List.nil_append,Nat.zero_add,Nat.zero_le,decide_true] at e2 e3 ⊢
    simp only [e2,e3,Bool.and_self,zab]
    rfl
   have hc0:cellsOf []=[]:=rfl
   have hag:arrG k_4 (σ.next + 2) l.length=.arr k_4 (σ.next + 2) 0 l.length:=zft _ _ _ (fun h=>hne (List.length_eq_zero_iff.1 h))
   rw [hag]
   simp only [zbp,sA,Nat.reduceAdd,Nat.reduceSub,Nat.reduceMul,Nat.reduceBEq,Nat.reduceLeDiff,Int.reduceBEq,Int.reduceBNe,Int.reduceLE,Int.reduceLT,Int.reduceGE,Int.reduceGT,Int.reduceNeg,kn,hnil,memE,mB,hc0,hli,hap]
  ·simp only [zag]; omega
  ·simp only [zag]
   rw [agC _ _ _ _ (by omega),agD _ _ (by omega),agC _ _ _ _ (by omega)]
  ·simp only [zag]
   rw [agC _ _ _ _ (by omega),agC _ _ _ _ (by omega)]
end Go.Fu
namespace Go.Fu
open Go Go.Mx
set_option maxRecDepth 10000
set_option maxHeartbeats 4000000
theorem zkq {α:Type} {g:α→D} {sz:Nat} (hs:∀ x,(g x).cells.length=sz + 1) (l:List α) (i:Nat) (hi:i < l.length):takeC (cellsOf (l.map g)) (i * (sz + 1)) (sz + 1)=some (g l[i]).cells:=by
 have hl:=zdf' (sz:=sz + 1) hs (l.take i)
 rw [List.length_take,Nat.min_eq_left (by omega)] at hl
 rw [zpw g l i hi,← hl,show (cellsOf ((l.take i).map g)).length=(cellsOf ((l.take i).map g)).length + 0 by omega,zvp]
 have:=ziy ((g l[i]).cells.map Cell.of) (cellsOf ((l.drop (i + 1)).map g))
 rw [List.length_map,hs] at this
 rw [this,List.map_map]
 congr 1
 exact List.map_id'' (fun _=>rfl) _
def SP:Specs:=[(n_44,zzc),(n_100,zinb),(n_105,zdbb),(n_104,zc9b),(n_10,zmp),(n_9,zks)]
theorem W_bnm {S:Specs} (hS:aget S n_9=some zks) (b:Tx × Co) (n:Nat) (σ:Store):W S (n + 1) n_9 [dB b] σ=some (.ret ⟨false,.str b.1⟩,σ):=by
 obtain ⟨c,h1,h2⟩:=W_orc (S:=S) hS rfl (c:=⟨false,.str b.1⟩) (fun a h=>by
  simp only [List.cons.injEq,and_true] at h
  rw [zxh h]) (zw3 b)
 rw [h2,h1 b rfl]
section
variable {C:CallF} {n:Nat} {σ:Store}
def Ena' (id:Nat) (bs:List (Tx × Co)) (i:Nat):Env:={slots:=[(1,⟨false,bnF⟩),(5,⟨ow i,dSs ((bs.take i).map Prod.fst)⟩),(8,⟨false,.arr k_3 id 0 bs.length⟩),(9,⟨false,.int .i64 bs.length⟩),(10,⟨false,.int .i64 i⟩)],locs:=[],boxes:=[],defers:=[]}
theorem na'_step (id:Nat) (bs:List (Tx × Co)) (ha:aget σ.objs id=some (cellsOf (bs.map dB))) (i:Nat) (h:i < bs.length) (hl:bs.length < 1000000000) (h1:∀ b σ,C n_9 [dB b] σ=some (.ret ⟨false,.str b.1⟩,σ)):exec C n none a_33 (Ena' id bs i) σ=some (.normal,Ena' id bs (i + 1),σ):=by
 have hlt:((i:Int) < (bs.length:Int)):=by omega
 have w:=zak (i:=i) (by omega)
 have ht:=zkq (g:=dB) (sz:=14) zgy bs i h
 have ha2:=zhx ((bs.take i).map Prod.fst) bs[i].1 (ow i) (fun hne=>by
  cases i with
  | zero=>exact absurd rfl hne
  | succ i=>rfl) (by simp; omega)
 rw [zyg bs i h] at ha2
 have h2:=h1 bs[i] σ
 have hfn:D.fn? bnF=some (n_9,[],[]):=rfl
 have es:(k_3.sz == 15)=true:=rfl
 generalize bs[i]=b at ht ha2 h2
 have hon:=oneD b.2
 rw [zj8] at ht h2
 simp only [D.cells] at ht
 simp only [a_33,Ena',sA,Nat.reduceAdd,Nat.reduceSub,Nat.reduceMul,Nat.reduceBEq,Nat.reduceLeDiff,Int.reduceBEq,Int.reduceBNe,Int.reduceLE,Int.reduceLT,Int.reduceGE,Int.reduceGT,Int.reduceNeg,kn,hlt,natI,zdj,es,h,Nat.zero_add,ha,ht,hon,hfn,h2,ha2,w,zdx]
theorem na'_end (id:Nat) (bs:List (Tx × Co)):exec C n none a_33 (Ena' id bs bs.length) σ=some (.exit 0,{Ena' id bs bs.length with slots:=[(1,⟨false,bnF⟩),(5,⟨ow bs.length,dSs ((bs.take bs.length).map Prod.fst)⟩),(8,⟨false,.arr k_3 id 0 bs.length⟩),(9,⟨false,.int .i64 bs.length⟩),(10,⟨false,.int .i64 bs.length⟩),(11,⟨false,.bool false⟩)]},σ):=by
 have hlt:¬ ((bs.length:Int) < (bs.length:Int)):=by omega
 simp only [a_33,Ena',sA,Nat.reduceAdd,Nat.reduceSub,Nat.reduceMul,Nat.reduceBEq,Nat.reduceLeDiff,Int.reduceBEq,Int.reduceBNe,Int.reduceLE,Int.reduceLT,Int.reduceGE,Int.reduceGT,Int.reduceNeg,kn,hlt]
end
theorem zhxb {P:Specs} (h0:has P n_19=false) (hP:aget P n_9=some zks) (σ:Store) (id:Nat) (bs:List (Tx × Co)) (ha:bs≠[]→aget σ.objs id=some (cellsOf (bs.map dB))) (hl:bs.length < 300000000) (n:Nat) (hn:bs.length + 1 < n):W P (n + 1) n_19 [arrG k_3 id bs.length,bnF] σ=some (.ret ⟨ow bs.length,dSs (bs.map Prod.fst)⟩,σ):=by
 obtain ⟨n,rfl⟩:∃ k,n=k + 1:=⟨n - 1,by omega⟩
 rw [W_fun (af:=a_65) h0 rfl rfl]
 have e0:(bs.take 0).map Prod.fst=[]:=rfl
 have e1:dSs []=.nils:=rfl
 by_cases hne:bs=[]
 ·subst hne
  have e2:arrG k_3 id ([]:List (Tx × Co)).length=.nils:=rfl
  have e3:ow ([]:List (Tx × Co)).length=false:=rfl
  have e4:dSs (([]:List (Tx × Co)).map Prod.fst)=.nils:=rfl
  rw [e2,e3,e4]
  have hlt:¬ ((0:Int) < (0:Int)):=by omega
  simp only [a_65,a_33,bnF,sA,Nat.reduceAdd,Nat.reduceSub,Nat.reduceMul,Nat.reduceBEq,Nat.reduceLeDiff,Int.reduceBEq,Int.reduceBNe,Int.reduceLE,Int.reduceLT,Int.reduceGE,Int.reduceGT,Int.reduceNeg,kn,loopN,zeroI,hlt]
 ·have h1:=zcj (body:=exec (W P (n + 1)) (n + 1) none a_33) (fun i=>Ena' id bs i) (fun _=>σ) bs.length (r:=_) (fun _ _ h=>by cases h) (fun i hi=>na'_step id bs (ha hne) i hi (by omega) (fun x σ=>W_bnm hP x n σ)) (na'_end id bs) 0 (n + 1) (by omega) (by omega)
  rw [List.take_length] at h1
  rw [zft _ _ _ (fun h=>hne (List.length_eq_zero_iff.1 h))]
  simp only [Ena',zeroI,e0,e1,zjs] at h1
  simp only [a_65,sA,Nat.reduceAdd,Nat.reduceSub,Nat.reduceMul,Nat.reduceBEq,Nat.reduceLeDiff,Int.reduceBEq,Int.reduceBNe,Int.reduceLE,Int.reduceLT,Int.reduceGE,Int.reduceGT,Int.reduceNeg,kn,h1]
def arrU (a:Nat) (l:List Su):D:=arrG k_5 a l.length
structure FSt (σ:Store) (p a:Nat) (t:Tx) (m:List Su):Prop where
 obj:aget σ.objs p=some [⟨false,.str t⟩,⟨false,arrU a m⟩]
 arr:m≠[]→aget σ.objs a=some (cellsOf (m.map dU))∧aget σ.tys a=some ⟨k_5.el,k_5.sz⟩
 pa:p≠a
 pn:p < σ.next
 an:m≠[]→a < σ.next
theorem FSt.keep {σ σ':Store} {p a:Nat} {t:Tx} {m:List Su} (h:FSt σ p a t m) (hn:σ.next≤σ'.next) (h1:aget σ'.objs p=aget σ.objs p) (h2:m≠[]→aget σ'.objs a=aget σ.objs a) (h3:m≠[]→aget σ'.tys a=aget σ.tys a):FSt σ' p a t m :=
 ⟨by rw [h1]; exact h.obj,fun hL=>by rw [h2 hL,h3 hL]; exact h.arr hL,h.pa,Nat.lt_of_lt_of_le h.pn hn,fun e=>Nat.lt_of_lt_of_le (h.an e) hn⟩
theorem FSt.fa {σ σ':Store} {p a:Nat} {t:Tx} {m:List Su} (h:FSt σ p a t m) (f:FrA σ σ'):FSt σ' p a t m:=h.keep f.nx (f.ob _ h.pn) (fun e=>f.ob _ (h.an e)) (fun e=>f.ty _ (h.an e))
theorem FSt.so {σ:Store} {p a:Nat} {t:Tx} {m:List Su} (h:FSt σ p a t m) {id:Nat} {cs:List Cell} (h1:id≠p) (h2:id≠a):FSt (SO σ id cs) p a t m:=h.keep (Nat.le_refl _) (SO_ne (fun e=>h1 e.symm)) (fun _=>SO_ne (fun e=>h2 e.symm)) (fun _=>rfl)
theorem FSt.any {σ:Store} {p a b:Nat} {t:Tx} {m:List Su} (h:FSt σ p a t m) (hm:m=[]) (hb:p≠b):FSt σ p b t m:=⟨by subst hm; exact h.obj,fun e=>absurd hm e,hb,h.pn,fun e=>absurd hm e⟩
def PutOk (p:Nat) (t:Tx) (c:Co) (lz:Bool) (g:List Tx) (F:List Su→Co × List Su):Prop:=∀ (σ:Store) (a:Nat) (m:List Su),FSt σ p a t m→m.length + c.size < 50000000→∃ σ' a',Ret SP n_23 [.ptr p 0,dCo c,.bool lz,dSs g] σ (dCo (F m).1) σ'∧FSt σ' p a' t (F m).2∧Frm p a 0 a' 0 σ σ'
section
def boxA (c:Co) (ki bi ai:Nat):List Cell:=[⟨false,.int .i64 c.f⟩,⟨false,.int .i64 c.n⟩,⟨false,.str c.s⟩,⟨false,.int .i64 0⟩,⟨false,.int .i64 0⟩,⟨false,.str []⟩,⟨false,.nils⟩,⟨false,arrG k_2 ki c.ks.length⟩,⟨false,arrG k_3 bi c.bs.length⟩,⟨false,arrG k_4 ai c.al.length⟩]
def Ep0 (p:Nat) (c:Co) (lz:Bool) (g:List Tx) (ki bi ai i:Nat):Env:={slots:=[(0,⟨false,.ptr p 0⟩),(2,⟨false,.bool lz⟩),(3,⟨false,dSs g⟩),(87,⟨false,arrG k_3 bi c.bs.length⟩),(88,⟨false,.int .i64 c.bs.length⟩),(89,⟨false,.int .i64 i⟩)],locs:=[(5,(5,0)),(8,(8,0))],boxes:=[(5,boxA c ki bi ai),(8,zC)],defers:=[]}
theorem zp1b (b:Tx × Co) (x:Co):putCells ((dB b).cells.map Cell.of) 5 ((dCo x).cells.map Cell.of)=(dB (b.1,x)).cells.map Cell.of:=by
 rw [zj8,zj8,zaw]
 rfl
theorem znwb {C:CallF} {n:Nat} {σ σ1:Store} (p:Nat) (c:Co) (lz:Bool) (g:List Tx) (ki bi ai i:Nat) (L:List (Tx × Co)) (hL:L.length=c.bs.length) (hi:i < c.bs.length) (hl:c.bs.length < 1000000000) (ha:aget σ.objs bi=some (cellsOf (L.map dB))) (ha1:aget σ1.objs bi=some (cellsOf (L.map dB))) (x:Co)
  (h1:C n_23 [.ptr p 0,dCo (L[i]'(by omega)).2,.bool true,dSs g] σ=some (.ret ⟨false,dCo x⟩,σ1)) :
  exec C n none zcf (Ep0 p c lz g ki bi ai i) σ=some (.normal,Ep0 p c lz g ki bi ai (i + 1),SO σ1 bi (cellsOf ((L.set i ((L[i]'(by omega)).1,x)).map dB))):=by
 have hlt:((i:Int) < (c.bs.length:Int)):=by omega
 have w:=zak (i:=i) (by omega)
 have hiL:i < L.length:=by omega
 have ht:=zkq (g:=dB) (sz:=14) zgy L i hiL
 have hpd:=zp1b (L[i]'hiL) x
 have hp:=zuk (g:=dB) (sz:=15) zgy L i hiL 5 ((dCo x).cells.map Cell.of) ((L[i]'hiL).1,x) (by rw [List.length_map,zdc]; omega) hpd
 have es:(k_3.sz == 15)=true:=rfl
 have hag:=zft k_3 bi c.bs.length (by omega)
 have hfit:i * 15 + 5 + 10≤(cellsOf (L.map dB)).length:=by
  rw [zdf' (sz:=15) zgy]
  have:(i + 1) * 15≤L.length * 15:=Nat.mul_le_mul_right _ (by omega)
  omega
 generalize L[i]'hiL=b at ht h1 hp
 have hon:=oneD b.2
 have hok:=zkh x
 have hce:(dCo x).cells.length=10:=zdc x
 have hone:(dCo x).one=false:=by rw [zaw]; rfl
 rw [zj8] at ht
 rw [zaw] at h1
 simp only [D.cells] at ht
 simp only [zcf,Ep0,boxA,zC,sA,Nat.reduceAdd,Nat.reduceSub,Nat.reduceMul,Nat.reduceBEq,Nat.reduceLeDiff,Int.reduceBEq,Int.reduceBNe,Int.reduceLE,Int.reduceLT,Int.reduceGE,Int.reduceGT,Int.reduceNeg,kn,memE,mB,hlt,natI,hag,zdj,es,hi,Nat.zero_add,ha,ht,hon,h1,ha1,hok,hce,hfit,hone,hp,w]
end
end Go.Fu

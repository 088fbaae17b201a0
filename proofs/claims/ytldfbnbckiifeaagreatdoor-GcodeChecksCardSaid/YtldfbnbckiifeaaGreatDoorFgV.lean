/-
 The code of strict places and of tails,where a case's code is known.
-/
import Derived.Test.YtldfbnbckiifeaaGreatDoorFgR
import Derived.Test.YtldfbnbckiifeaaGreatDoorFgRun
set_option maxHeartbeats 4000000
set_option linter.unusedSimpArgs false
set_option linter.unusedVariables false
set_option linter.unusedSectionVars false
namespace Go.Fu
open Go Go.Mx
set_option maxRecDepth 10000
def GC (B n:Nat) (is:List In):Prop:=(∀ i∈is,GI B i)∧is.length≤n
def OkI (B n:Nat) (f:FuncId) (ds:List D):Prop:=∃ is,OkP f ds ⟨false,dIs is⟩∧GC B n is
def spS (B:Nat):List D→Cell→Prop:=fun ds c=>∀ co env,ds=[dCo co,dSs env]→∃ is,c=⟨false,dIs is⟩∧GC B (8 * co.size) is
def spT (B:Nat):List D→Cell→Prop:=fun ds c=>∀ co env,ds=[dCo co,dSs env]→∃ is,c=⟨false,dIs is⟩∧GC B (8 * co.size + 3) is
def spC (B:Nat):List D→Cell→Prop:=fun ds c=>∀ co (i:Nat) env t,ds=[dCo co,.int .i64 i,dSs env,.bool t]→∃ is,c=⟨false,dIs is⟩∧GC B (2 + 8 * szA (co.al.drop i)) is
theorem zk3 {B:Nat} {S:Specs} (hS:aget S n_11=some (spS B)) (a:Co) (env:List Tx) (hp:OkI B (8 * a.size) n_11 [dCo a,dSs env]):∃ is,GC B (8 * a.size) is∧∀ n σ,T S (n + 1) n_11 [dCo a,dSs env] σ=some (.ret ⟨false,dIs is⟩,σ):=by
 obtain ⟨js,h1,h2⟩:=hp
 obtain ⟨c,h3,h4⟩:=T_orc (S:=S) hS rfl (c:=⟨false,dIs js⟩) (fun a' b' e=>by
  simp only [List.cons.injEq,and_true] at e
  obtain rfl:=zcs e.1
  exact ⟨js,rfl,h2⟩) h1
 obtain ⟨is,rfl,h5⟩:=h3 a env rfl
 exact ⟨is,h5,h4⟩
theorem zexb {B:Nat} {S:Specs} (hS:aget S n_14=some (spT B)) (a:Co) (env:List Tx) (hp:OkI B (8 * a.size + 3) n_14 [dCo a,dSs env]):∃ is,GC B (8 * a.size + 3) is∧∀ n σ,T S (n + 1) n_14 [dCo a,dSs env] σ=some (.ret ⟨false,dIs is⟩,σ):=by
 obtain ⟨js,h1,h2⟩:=hp
 obtain ⟨c,h3,h4⟩:=T_orc (S:=S) hS rfl (c:=⟨false,dIs js⟩) (fun a' b' e=>by
  simp only [List.cons.injEq,and_true] at e
  obtain rfl:=zcs e.1
  exact ⟨js,rfl,h2⟩) h1
 obtain ⟨is,rfl,h5⟩:=h3 a env rfl
 exact ⟨is,h5,h4⟩
theorem zevb {B:Nat} {S:Specs} (hS:aget S n_15=some (spC B)) (a:Co) (i:Nat) (env:List Tx) (t:Bool) (hp:OkI B (2 + 8 * szA (a.al.drop i)) n_15 [dCo a,.int .i64 i,dSs env,.bool t]) :
  ∃ is,GC B (2 + 8 * szA (a.al.drop i)) is∧∀ n σ,T S (n + 1) n_15 [dCo a,.int .i64 i,dSs env,.bool t] σ=some (.ret ⟨false,dIs is⟩,σ):=by
 obtain ⟨js,h1,h2⟩:=hp
 obtain ⟨c,h3,h4⟩:=T_orc (S:=S) hS rfl (c:=⟨false,dIs js⟩) (fun a' i' b' t' e=>by
  simp only [List.cons.injEq,D.int.injEq,D.bool.injEq,true_and,and_true] at e
  obtain rfl:=zcs e.1
  obtain rfl:i=i':=by omega
  exact ⟨js,rfl,h2⟩) h1
 obtain ⟨is,rfl,h5⟩:=h3 a i env t rfl
 exact ⟨is,h5,h4⟩
def SSx (B:Nat):Specs:=[(n_7,sp_op),(n_6,zsq),(n_90,zxe),(n_91,zsr),(n_19,zsn),(n_47,zxc),(n_11,spS B),(n_14,spT B),(n_15,spC B)]
def sFAIL:Tx:=[70,65,73,76]
def sEVAL:Tx:=[69,86,65,76]
def sPOP:Tx:=[80,79,80]
def zhz:Tx:=[85,78,87,73,78,68]
theorem zcg {B m n:Nat} {a b:List In} (ha:GC B m a) (hb:GC B n b):GC B (m + n) (joinM a b):=⟨zhn ha.1 hb.1,by rw [zbc]; have:=ha.2; have:=hb.2; omega⟩
theorem gc_op {B:Nat} {s:Tx} {x:Int} (hs:s.length≤6) (hx:Small x):GC B 1 [op1 s x]:=⟨zhf (gi_op hs hx),by simp⟩
theorem gc_le {B m n:Nat} {a:List In} (h:GC B m a) (hmn:m≤n):GC B n a:=⟨h.1,Nat.le_trans h.2 hmn⟩
theorem zgmb (s:Tx):(primM s).length≤6:=by
 unfold primM
 cases s == [97,100,100] <;> cases s == [115,117,98] <;> cases s == [109,117,108] <;> cases s == [100,105,118] <;> cases s == [101,113] <;> cases s == [108,116] <;> simp [ifB]
theorem zr8 {B:Nat} (c:Co) (z:Bool) (env:List Tx) (hf:Fl B z c) (hz:z=true∨(c.f=1∨c.f=2∨c.f=3∨c.f=4)) (hl:env.length + c.size < 10000000):OkP n_19 [dCo c,dSs env] ⟨false,dIs (lazM c env)⟩:=zekb _ c z env rfl hf hz (by omega)
theorem zf1b {B:Nat} (c:Co) (env:List Tx) (hbs:∀ p∈c.bs,Fl B true p.2) (hl:env.length + c.size < 10000000):OkP n_47 [dCo c,dSs env] ⟨false,.tup [dIs (layM c env c.bs.length),dSs (env ++ nms c)]⟩ :=
 zvy c env hbs (by omega) fun i hi=>zr8 _ true _ (hbs _ (List.getElem_mem hi)) (.inl rfl) (by
  have:=zqe c.bs _ (List.getElem_mem hi)
  have:=za2 c
  simp [nms]
  omega)
theorem zg2b {B:Nat} (c:Co) (env:List Tx) (hf:Fl B false c) (hl:env.length + c.size < 10000000) (hk:∀ x∈c.ks,∀ e:List Tx,e.length + x.size < 10000000→Fl B false x→OkI B (8 * x.size) n_11 [dCo x,dSs e]) (hc:c.f=9→OkI B (2 + 8 * szA (c.al.drop 0)) n_15 [dCo c,.int .i64 (0:Nat),dSs env,.bool false]) :
  OkI B (8 * c.size) n_11 [dCo c,dSs env]:=by
 have mk:∀ {is:List In} {o:Bool},finX Ra (fun _ _ _=>none) a_37 0 (exec (T (SSx B) 1) 1 none a_37.body (zbb [dCo c,dSs env]) σ0)=some (.ret ⟨o,dIs is⟩,σ0)→OkP n_11 [dCo c,dSs env] ⟨false,dIs is⟩:=fun {is o} hr =>
  OkP.weak (o:=o) rfl (zas (af:=a_37) (n:=1) (σ':=σ0) (zav (SSx B) 1) rfl rfl (by simp [zal,za4,zau]) (zdq _) hr)
 have hsz:=za2 c
 have plain:(c.f=1∨c.f=2∨c.f=3∨c.f=4)→OkI B (8 * c.size) n_11 [dCo c,dSs env]:=fun hform=>by
  have h1:=zgx (S:=SSx B) rfl c env (zr8 c false env hf (.inr hform) hl) 0 σ0
  obtain ⟨g1,g2⟩:=zf3 c false env hf (.inr hform) (by omega)
  have h2:=zc4 (S:=SSx B) rfl sEVAL 0 0 σ0
  have h3:=zb2 (S:=SSx B) rfl (lazM c env) [op1 sEVAL 0] (by simp; omega) 0 σ0
  refine ⟨joinM (lazM c env) [op1 sEVAL 0],mk (o:=false) ?_,gc_le (zcg ⟨g1,g2⟩ (gc_op (by decide) zS)) (by have:=zck c; omega)⟩
  simp only [sEVAL] at h2 h3 ⊢
  simp only [zaf,zaj] at h1
  have e:(c.f == 8)=false∧(c.f == 10)=false∧(c.f == 11)=false∧(c.f == 9)=false:=by rcases hform with h | h | h | h <;> rw [h] <;> exact ⟨rfl,rfl,rfl,rfl⟩
  simp only [a_37,sA,seval,kn,zaf,zaj,onel,e,h1,h2,h3]
 cases hf with
 | leaf h=>exact plain (by rcases h with h | h | h <;> subst h <;> simp [co])
 | app=>exact plain (by simp [co])
 | @fail n s =>
  have h2:=zc4 (S:=SSx B) rfl sFAIL 0 0 σ0
  refine ⟨[op1 sFAIL 0],mk (o:=false) ?_,gc_le (gc_op (by decide) zS) (by have:=zck (.mk 11 n s [] [] []); omega)⟩
  simp only [sFAIL] at h2 ⊢
  simp only [a_37,sA,seval,kn,zaf,zaj,co,onel,h2]
 | @lt _ s b bs _ _ hbs hb =>
  have hsa:(Co.mk 8 0 s [b] bs []).size=1 + b.size + szB bs:=by simp only [Co.size,szK,szA]; omega
  have hbl:=zbv bs
  have hen:nms (.mk 8 0 s [b] bs [])=bs.map Prod.fst:=rfl
  have h1:=zpj (S:=SSx B) rfl (.mk 8 0 s [b] bs []) env (zf1b _ env hbs (by omega)) 0 σ0
  rw [hen] at h1
  obtain ⟨is,gi,h2⟩:=zk3 (S:=SSx B) rfl b (env ++ bs.map Prod.fst) (hk b (by simp [co]) _ (by simp; omega) hb)
  have h2:=h2 0 σ0
  have g1:=zke (B:=B) (.mk 8 0 s [b] bs []) env hbs (by omega) bs.length (Nat.le_refl _)
  simp only [co,List.take_length] at g1
  have gil:=gi.2
  have h3:=zb2 (S:=SSx B) rfl (layM (.mk 8 0 s [b] bs []) env bs.length) is (by omega) 0 σ0
  have h4:=zc4 (S:=SSx B) rfl zdg bs.length 0 σ0
  have h5:=zb2 (S:=SSx B) rfl (joinM (layM (.mk 8 0 s [b] bs []) env bs.length) is) [op1 zdg bs.length] (by rw [zbc]; simp; omega) 0 σ0
  have hx0:za7 10 (dCs [b]) 0=some (.eptr (dCo b)):=rfl
  refine ⟨joinM (joinM (layM (.mk 8 0 s [b] bs []) env bs.length) is) [op1 zdg bs.length],mk (o:=false) ?_,gc_le (zcg (zcg g1 gi) (gc_op (by decide) (zcz (by omega)))) (by omega)⟩
  simp only [zdg] at h4 h5 ⊢
  simp only [zaf,zaj,co] at h1 h2 hx0
  simp only [a_37,sA,seval,kn,zaf,zaj,co,onel,len_B,nat0,hx0,h1,h2,h3,h4,h5]
 | @prim s a b _ ha hb =>
  have hsa:(Co.mk 10 0 s [a,b] [] []).size=1 + a.size + b.size:=by simp only [Co.size,szK,szB,szA]; omega
  obtain ⟨is,gi,h1⟩:=zk3 (S:=SSx B) rfl a env (hk a (by simp [co]) _ (by omega) ha)
  have h1:=h1 0 σ0
  have h2:=zu8 (S:=SSx B) rfl env (env.length + 1) (by omega) 0 σ0
  have hpl:(padM env (env.length + 1)).length=env.length + 1:=by simp [padM]
  obtain ⟨js,gj,h3⟩:=zk3 (S:=SSx B) rfl b (padM env (env.length + 1)) (hk b (by simp [co]) _ (by omega) hb)
  have h3:=h3 0 σ0
  have gil:=gi.2
  have gjl:=gj.2
  have h4:=zb2 (S:=SSx B) rfl is js (by omega) 0 σ0
  have h5:=zs2 (S:=SSx B) rfl s 0 σ0
  have h6:=zc4 (S:=SSx B) rfl (primM s) 0 0 σ0
  have h7:=zb2 (S:=SSx B) rfl (joinM is js) [op1 (primM s) 0] (by rw [zbc]; simp; omega) 0 σ0
  have w:=zag (i:=env.length) (by omega)
  have hx1:za7 10 (dCs [a,b]) 1=some (.eptr (dCo b)):=rfl
  have hx0:za7 10 (dCs [a,b]) 0=some (.eptr (dCo a)):=rfl
  refine ⟨joinM (joinM is js) [op1 (primM s) 0],mk (o:=false) ?_,gc_le (zcg (zcg gi gj) (gc_op (zgmb s) zS)) (by omega)⟩
  simp only [zaf,zaj] at h1 h3 hx1 hx0
  simp only [a_37,sA,seval,kn,zaf,zaj,co,onel,nat0,len_S,w,hx1,hx0,zcc,h1,h2,h3,h4,h5,h6,h7]
 | @cas s x al _ _ hx hxs =>
  have hsa:(Co.mk 9 0 s [x] [] al).size=1 + x.size + szA al:=by simp only [Co.size,szK,szB]; omega
  obtain ⟨is,gi,h1⟩:=zk3 (S:=SSx B) rfl x env (hk x (by simp [co]) _ (by omega) hx)
  have h1:=h1 0 σ0
  obtain ⟨js,gj,h2⟩:=zevb (S:=SSx B) rfl (.mk 9 0 s [x] [] al) 0 env false (hc rfl)
  have h2:=h2 0 σ0
  have gil:=gi.2
  have gjl:=gj.2
  simp only [co,List.drop_zero] at gjl gj
  have h3:=zb2 (S:=SSx B) rfl is js (by omega) 0 σ0
  have hx0:za7 10 (dCs [x]) 0=some (.eptr (dCo x)):=rfl
  refine ⟨joinM is js,mk (o:=false) ?_,gc_le (zcg gi gj) (by omega)⟩
  simp only [zaf,zaj,co,zeroI] at h1 h2 hx0
  simp only [a_37,sA,seval,kn,zaf,zaj,co,onel,nat0,hx0,h1,h2,h3]
theorem zipb {B:Nat} (c:Co) (env:List Tx) (hf:Fl B false c) (hform:c.f=1∨c.f=2∨c.f=3∨c.f=4∨c.f=10) (hl:env.length + c.size < 10000000) (hs:OkI B (8 * c.size) n_11 [dCo c,dSs env]):OkI B (8 * c.size) n_89 [dCo c,dSs env]:=by
 have mk:∀ {is:List In} {o:Bool},finX Ra (fun _ _ _=>none) a_84 0 (exec (T (SSx B) 1) 1 none a_84.body (zbb [dCo c,dSs env]) σ0)=some (.ret ⟨o,dIs is⟩,σ0)→OkP n_89 [dCo c,dSs env] ⟨false,dIs is⟩:=fun {is o} hr =>
  OkP.weak (o:=o) rfl (zas (af:=a_84) (n:=1) (σ':=σ0) (zav (SSx B) 1) rfl rfl (by simp [zal,za4,zau]) (zdq _) hr)
 by_cases h10:c.f=10
 ·obtain ⟨is,gi,h1⟩:=zk3 (S:=SSx B) rfl c env hs
  have h1:=h1 0 σ0
  refine ⟨is,mk (o:=false) ?_,gi⟩
  simp only [zaf,zaj,h10] at h1
  simp only [a_84,sA,seval,kn,zaf,zaj,onel,h10,h1]
 ·have hform:c.f=1∨c.f=2∨c.f=3∨c.f=4:=by omega
  have h1:=zgx (S:=SSx B) rfl c env (zr8 c false env hf (.inr hform) hl) 0 σ0
  obtain ⟨g1,g2⟩:=zf3 c false env hf (.inr hform) (by omega)
  refine ⟨lazM c env,mk (o:=false) ?_,gc_le ⟨g1,g2⟩ (by omega)⟩
  have e:(c.f == 10)=false:=by simpa using h10
  simp only [zaf,zaj] at h1
  simp only [a_84,sA,seval,kn,zaf,zaj,onel,e,h1]
def spZ (B:Nat):List D→Cell→Prop:=fun ds c=>∀ co env,ds=[dCo co,dSs env]→∃ is,c=⟨false,dIs is⟩∧GC B (8 * co.size) is
theorem zm5b {B:Nat} {S:Specs} (hS:aget S n_89=some (spZ B)) (a:Co) (env:List Tx) (hp:OkI B (8 * a.size) n_89 [dCo a,dSs env]):∃ is,GC B (8 * a.size) is∧∀ n σ,T S (n + 1) n_89 [dCo a,dSs env] σ=some (.ret ⟨false,dIs is⟩,σ):=by
 obtain ⟨js,h1,h2⟩:=hp
 obtain ⟨c,h3,h4⟩:=T_orc (S:=S) hS rfl (c:=⟨false,dIs js⟩) (fun a' b' e=>by
  simp only [List.cons.injEq,and_true] at e
  obtain rfl:=zcs e.1
  exact ⟨js,rfl,h2⟩) h1
 obtain ⟨is,rfl,h5⟩:=h3 a env rfl
 exact ⟨is,h5,h4⟩
def SSy (B:Nat):Specs:=(n_89,spZ B) :: SSx B
theorem zmhb {B:Nat} (c:Co) (env:List Tx) (hf:Fl B false c) (hl:env.length + c.size < 10000000) (hs:OkI B (8 * c.size) n_11 [dCo c,dSs env]) (hk:∀ x∈c.ks,∀ e:List Tx,e.length + x.size < 10000000→Fl B false x→OkI B (8 * x.size) n_11 [dCo x,dSs e]∧OkI B (8 * x.size + 3) n_14 [dCo x,dSs e])
  (hc:c.f=9→OkI B (2 + 8 * szA (c.al.drop 0)) n_15 [dCo c,.int .i64 (0:Nat),dSs env,.bool true]):OkI B (8 * c.size + 3) n_14 [dCo c,dSs env]:=by
 have mk:∀ {is:List In} {o:Bool},finX Ra (fun _ _ _=>none) a_50 0 (exec (T (SSy B) 1) 1 none a_50.body (zbb [dCo c,dSs env]) σ0)=some (.ret ⟨o,dIs is⟩,σ0)→OkP n_14 [dCo c,dSs env] ⟨false,dIs is⟩:=fun {is o} hr =>
  OkP.weak (o:=o) rfl (zas (af:=a_50) (n:=1) (σ':=σ0) (zav (SSy B) 1) rfl rfl (by simp [zal,za4,zau]) (zdq _) hr)
 have hsz:=za2 c
 have plain:(c.f=1∨c.f=2∨c.f=3∨c.f=4∨c.f=10)→OkI B (8 * c.size + 3) n_14 [dCo c,dSs env]:=fun hform=>by
  obtain ⟨is,gi,h1⟩:=zm5b (S:=SSy B) rfl c env (zipb c env hf hform hl hs)
  have h1:=h1 0 σ0
  have gil:=gi.2
  have h2:=zc4 (S:=SSy B) rfl zcy env.length 0 σ0
  have h3:=zb2 (S:=SSy B) rfl is [op1 zcy env.length] (by simp; omega) 0 σ0
  have h4:=zc4 (S:=SSy B) rfl sPOP env.length 0 σ0
  have h5:=zb2 (S:=SSy B) rfl (joinM is [op1 zcy env.length]) [op1 sPOP env.length] (by rw [zbc]; simp; omega) 0 σ0
  have h6:=zc4 (S:=SSy B) rfl zhz 0 0 σ0
  have h7:=zb2 (S:=SSy B) rfl (joinM (joinM is [op1 zcy env.length]) [op1 sPOP env.length]) [op1 zhz 0] (by rw [zbc,zbc]; simp; omega) 0 σ0
  have hsm:Small (env.length:Int):=zcz (by omega)
  refine ⟨joinM (joinM (joinM is [op1 zcy env.length]) [op1 sPOP env.length]) [op1 zhz 0],mk (o:=false) ?_,gc_le (zcg (zcg (zcg gi (gc_op (by decide) hsm)) (gc_op (by decide) hsm)) (gc_op (by decide) zS)) (by omega)⟩
  have e:(c.f == 8)=false∧(c.f == 11)=false∧(c.f == 9)=false:=by rcases hform with h | h | h | h | h <;> rw [h] <;> exact ⟨rfl,rfl,rfl⟩
  simp only [zcy,sPOP,zhz] at h2 h3 h4 h5 h6 h7 ⊢
  simp only [zaf,zaj] at h1
  simp only [a_50,sA,seval,kn,zaf,zaj,onel,e,len_S,h1,h2,h3,h4,h5,h6,h7]
 cases hf with
 | leaf h=>exact plain (by rcases h with h | h | h <;> subst h <;> simp [co])
 | app=>exact plain (by simp [co])
 | prim=>exact plain (by simp [co])
 | @fail n s =>
  have h2:=zc4 (S:=SSy B) rfl sFAIL 0 0 σ0
  refine ⟨[op1 sFAIL 0],mk (o:=false) ?_,gc_le (gc_op (by decide) zS) (by omega)⟩
  simp only [sFAIL] at h2 ⊢
  simp only [a_50,sA,seval,kn,zaf,zaj,co,onel,h2]
 | @lt _ s b bs _ _ hbs hb =>
  have hsa:(Co.mk 8 0 s [b] bs []).size=1 + b.size + szB bs:=by simp only [Co.size,szK,szA]; omega
  have hbl:=zbv bs
  have hen:nms (.mk 8 0 s [b] bs [])=bs.map Prod.fst:=rfl
  have h1:=zpj (S:=SSy B) rfl (.mk 8 0 s [b] bs []) env (zf1b _ env hbs (by omega)) 0 σ0
  rw [hen] at h1
  obtain ⟨is,gi,h2⟩:=zexb (S:=SSy B) rfl b (env ++ bs.map Prod.fst) (hk b (by simp [co]) _ (by simp; omega) hb).2
  have h2:=h2 0 σ0
  have g1:=zke (B:=B) (.mk 8 0 s [b] bs []) env hbs (by omega) bs.length (Nat.le_refl _)
  simp only [co,List.take_length] at g1
  have gil:=gi.2
  have h3:=zb2 (S:=SSy B) rfl (layM (.mk 8 0 s [b] bs []) env bs.length) is (by omega) 0 σ0
  have hx0:za7 10 (dCs [b]) 0=some (.eptr (dCo b)):=rfl
  refine ⟨joinM (layM (.mk 8 0 s [b] bs []) env bs.length) is,mk (o:=false) ?_,gc_le (zcg g1 gi) (by omega)⟩
  simp only [zaf,zaj,co] at h1 h2 hx0
  simp only [a_50,sA,seval,kn,zaf,zaj,co,onel,len_B,nat0,hx0,h1,h2,h3]
 | @cas s x al _ _ hx hxs =>
  have hsa:(Co.mk 9 0 s [x] [] al).size=1 + x.size + szA al:=by simp only [Co.size,szK,szB]; omega
  obtain ⟨is,gi,h1⟩:=zk3 (S:=SSy B) rfl x env (hk x (by simp [co]) _ (by omega) hx).1
  have h1:=h1 0 σ0
  obtain ⟨js,gj,h2⟩:=zevb (S:=SSy B) rfl (.mk 9 0 s [x] [] al) 0 env true (hc rfl)
  have h2:=h2 0 σ0
  have gil:=gi.2
  have gjl:=gj.2
  simp only [co,List.drop_zero] at gjl gj
  have h3:=zb2 (S:=SSy B) rfl is js (by omega) 0 σ0
  have hx0:za7 10 (dCs [x]) 0=some (.eptr (dCo x)):=rfl
  refine ⟨joinM is js,mk (o:=false) ?_,gc_le (zcg gi gj) (by omega)⟩
  simp only [zaf,zaj,co,zeroI] at h1 h2 hx0
  simp only [a_50,sA,seval,kn,zaf,zaj,co,onel,nat0,hx0,h1,h2,h3]
end Go.Fu
namespace Go.Fu
open Go Go.Mx
set_option maxRecDepth 10000
def sTEST:Tx:=[84,69,83,84]
def zn9:Tx:=[84,69,83,84,73]
def zlj:Tx:=[83,80,76,73,84]
def altM (a:Hd × Co) (env:List Tx):List In × List Tx :=
 ifB (a.1.form == 1) ([⟨sTEST,0,0,a.1.name⟩,op1 zlj a.1.vars.length],env ++ a.1.vars.reverse) (ifB (a.1.form == 2) ([⟨zn9,0,a.1.num,[]⟩,op1 sPOP 1],env) ([op1 sPOP 1],env))
theorem zv8 (a:Hd × Co):noPtr (dA a)=true:=by
 have h:dAs [a]=[dA a]:=by rw [zk5]; rfl
 have h1:=znq [a]
 rw [h] at h1
 simpa [zal] using h1
theorem zncb {a b:Hd × Co} (h:dA a=dA b):a=b:=by
 have h1:dAs [a]=dAs [b]:=by rw [zk5,zk5]; simp only [List.map_cons,List.map_nil,h]
 have:=zr0 h1
 simpa using this
def SAl:Specs:=[(n_7,sp_op),(n_75,zso),(n_3,zh1)]
theorem zhnb (a:Hd × Co) (env:List Tx) (hl:env.length + a.1.vars.length < 100000000):OkP n_133 [dA a,dSs env] ⟨false,.tup [dIs (altM a env).1,dSs (altM a env).2]⟩:=by
 have mk:∀ {σ'},finX Ra (fun _ _ _=>none) a_64 0 (exec (T SAl 1) 1 none a_64.body (zbb [dA a,dSs env]) σ0)=some (.ret ⟨false,.tup [dIs (altM a env).1,dSs (altM a env).2]⟩,σ')→OkP n_133 [dA a,dSs env] ⟨false,.tup [dIs (altM a env).1,dSs (altM a env).2]⟩:=fun {σ'} hr =>
  zas (af:=a_64) (n:=1) (σ':=σ') (zav SAl 1) rfl rfl (by simp [zal,zv8,zau]) (by simp [noPtr,zal,zdq,zau]) hr
 have hp:=partA a
 have h1:=zc4 (S:=SAl) rfl zlj a.1.vars.length 0 σ0
 have h2:=zd7 (S:=SAl) rfl a.1.vars (by omega) 0 σ0
 have h3:=zfw (S:=SAl) rfl env a.1.vars.reverse (by simp; omega) 0 σ0
 have h4:=zc4 (S:=SAl) rfl sPOP 1 0 σ0
 have hap:∀ (x y:In),za5 k_1 48 ⟨true,dIs [x]⟩ [dI y]=some ⟨true,dIs [x,y]⟩:=fun x y=>appI1 [x] y true (fun _=>rfl) (by simp)
 have ha1:=hap ⟨sTEST,0,0,a.1.name⟩ (op1 zlj a.1.vars.length)
 have ha2:=hap ⟨zn9,0,a.1.num,[]⟩ (op1 sPOP 1)
 simp only [zlj,sPOP] at h1 h4
 refine mk (σ':=σ0) ?_
 unfold altM
 cases e1:a.1.form == 1 with
 | true =>
  simp only [zac]
  simp only [dIs,List.map_cons,List.map_nil,dlist,dI,sTEST,zlj] at h1 ha1 ⊢
  simp only [a_64,sA,seval,kn,dA_eq,zaj,onel,e1,len_S,h1,h2,h3,ha1]
 | false =>
  cases e2:a.1.form == 2 with
  | true =>
   simp only [zac,zab]
   simp only [dIs,List.map_cons,List.map_nil,dlist,dI,zn9,sPOP] at h4 ha2 ⊢
   simp only [a_64,sA,seval,kn,dA_eq,zaj,onel,e1,e2,len_S,h4,ha2]
  | false =>
   simp only [zab]
   simp only [sPOP] at h4 ⊢
   simp only [a_64,sA,seval,kn,dA_eq,zaj,onel,e1,e2,len_S,h4]
def zgwb:List D→Cell→Prop:=fun ds c=>∀ a env,ds=[dA a,dSs env]→c=⟨false,.tup [dIs (altM a env).1,dSs (altM a env).2]⟩
theorem zoj (a:Hd × Co) (env:List Tx):(altM a env).1≠[]:=by
 unfold altM
 cases a.1.form == 1 <;> cases a.1.form == 2 <;> simp [ifB]
theorem zu3 (a:Hd × Co) (env:List Tx):(altM a env).2.length≤env.length + a.1.vars.length:=by
 unfold altM
 cases a.1.form == 1 <;> cases a.1.form == 2 <;> simp [ifB]
theorem oneS:Small 1:=⟨by decide,by decide⟩
theorem zepb {B:Nat} (a:Hd × Co) (env:List Tx) (hn:Small a.1.num) (hB:a.1.name.length≤B) (hl:a.1.vars.length < 100000000):GC B 2 (altM a env).1:=by
 unfold altM
 have g1:GI B (op1 sPOP 1):=gi_op (by decide) oneS
 have g2:GI B (op1 zlj a.1.vars.length):=gi_op (by decide) (zcz (by omega))
 have g3:GI B ⟨sTEST,0,0,a.1.name⟩:=⟨by simp [sTEST],zS,zS,hB⟩
 have g4:GI B ⟨zn9,0,a.1.num,[]⟩:=⟨by simp [zn9],zS,hn,by simp⟩
 cases a.1.form == 1 <;> cases a.1.form == 2 <;> simp only [zac,zab] <;> refine ⟨?_,by simp⟩ <;> simp [g1,g2,g3,g4]
end Go.Fu
namespace Go.Fu
open Go Go.Mx
def zcv:ACode:=(.seq (sq [mt 10 6,mt 11 1,mo 12 (.len (.tmp 11)),mo 13 (.bin .lss (.tmp 10) (.tmp 12))] [10,11,12] (.cond (.tmp 13) .skip (.exit 0))) (.seq (.block 1 (sq [mt 16 1,mt 17 6,mo 18 (.indexAddr 4 (.tmp 16) (.tmp 17)),mo 19 (.load (some 4) false (.tmp 18)),
 mo 7 (.alloc [.str [],.int .i64 0,.int .i64 0,.str []]),⟨none,.store 4 (.tmp 7) (.mv 19),none⟩] [13,16,17,18,19] (.seq (sq [mf 20 0 7,ml 21 20,mo 22 (.bin .eql (.tmp 21) (.const (.str [84,69,83,84]))),mw 23 22,⟨some 24,.fieldAddr 0 none (.tmp 7),(some (23,false))⟩,
 ⟨some 25,.load none false (.tmp 24),(some (23,false))⟩,⟨some 26,.bin .eql (.tmp 25) (.const (.str [84,69,83,84,73])),(some (23,false))⟩,mo 27 (.pick (.tmp 23) (.const (.bool true)) (.tmp 26)),mw 28 27,⟨some 29,.fieldAddr 0 none (.tmp 7),(some (28,false))⟩,
 ⟨some 30,.load none false (.tmp 29),(some (28,false))⟩,⟨some 31,.bin .eql (.tmp 30) (.const (.str [74,85,77,80])),(some (28,false))⟩,mo 32 (.pick (.tmp 28) (.const (.bool true)) (.tmp 31))] [20,21,22,23,24,25,26,27,28,29,30,31] (.cond (.tmp 32) (rg [mf 33 1 7,ml 34 33,
 mt 35 0,mo 36 (.len (.tmp 35)),mo 37 (.bin .add (.tmp 34) (.tmp 36)),mf 38 1 7,⟨none,.store 1 (.tmp 38) (.mv 37),none⟩] [32,33,34,35,36,37,38]) .skip)) (rg [mw 39 5,mo 40 (.load (some 4) false (.tmp 7)),mo 41 (.buildSlice k_1 [.tmp 40]),
 mo 42 (.appendA k_1 48 (.mv 39) (.tmp 41)),mw 5 42] [7,32,39,40,41,42])))) (rg [mt 14 6,mo 15 (.bin .add (.tmp 14) (ci 1)),mw 6 15] [14,15])))
def zhb:AFun:={nargs:=2,ntmps:=44,res:=[.tmp 4],gc:=false,body:=(sq [mo 4 (.mov (.const .nils))] [4] (sq [mt 8 0,mo 9 (.appendA k_1 48 (.const .nils) (.tmp 8)),mw 5 9] [8,9] (.seq (sq [mo 6 (.mov (ci 0))] [] (.block 0 (.loop zcv))) (sq [mw 43 5,
 mw 4 43] [0,1,5,6,13,43] .ret))))}
def zcl:AFun:={nargs:=4,ntmps:=92,res:=[.tmp 8],gc:=false,body:=(sq [mo 4 (.box (.tmp 0)),mo 8 (.mov (.const .nils))] [0,8] (.seq (sq [mt 13 1,mf 14 9 4,ml 15 14,mo 16 (.len (.tmp 15)),mo 17 (.bin .geq (.tmp 13) (.tmp 16))] [13,14,15,16] (.cond (.tmp 17) (.seq
 (sq [mt 18 3] [1,2,3,4,17] (.cond (.tmp 18) (sq [mo 19 (.call n_7 [(.const (.str [70,65,73,76])),(ci 0)]),mw 8 19] [18,19] .ret) .skip)) (sq [mo 20 (.call n_7 [(.const (.str [80,79,80])),(ci 1)]),mo 21 (.call n_7 [(.const (.str [70,65,73,76])),(ci 0)]),
 mo 22 (.append k_1 48 (.mv 20) (.tmp 21)),mw 8 22] [18,20,21,22] .ret)) .skip)) (sq [mf 23 9 4,ml 24 23,mt 25 1,mo 26 (.indexAddr 14 (.tmp 24) (.tmp 25)),mo 27 (.load (some 14) false (.tmp 26)),
 mo 9 (.alloc [.int .i64 0,.int .i64 0,.str [],.nils,.int .i64 0,.int .i64 0,.str [],.int .i64 0,.int .i64 0,.str [],.nils,.nils,.nils,.nils]),⟨none,.store 14 (.tmp 9) (.mv 27),none⟩] [17,23,24,25,26,27] (sq [mo 29 (.load (some 14) false (.tmp 9)),mt 30 2,
 mo 31 (.call n_133 [.tmp 29,.tmp 30]),mw 28 31,mo 32 (.extract (.tmp 28) 0),mo 33 (.extract (.tmp 28) 1),mw 10 32,mw 11 33] [28,29,30,31,32,33] (.seq (sq [mt 34 3] [] (.cond (.tmp 34) (rg [mt 35 10,mo 36 (.fieldAddr 4 (some 10) (.tmp 9)),mo 37 (.load (some 10) false (.tmp 36)),
 mt 38 11,mo 39 (.call n_14 [.tmp 37,.tmp 38]),mo 40 (.call n_6 [.tmp 35,.tmp 39]),mw 10 40] [11,34,35,36,37,38,39,40]) (rg [mt 41 10,mo 42 (.fieldAddr 4 (some 10) (.tmp 9)),mo 43 (.load (some 10) false (.tmp 42)),mt 44 11,mo 45 (.call n_11 [.tmp 43,.tmp 44]),
 mo 46 (.call n_6 [.tmp 41,.tmp 45]),mw 10 46] [11,34,41,42,43,44,45,46]))) (.seq (sq [mt 47 3,mo 48 (.un .not (.tmp 47)),mw 49 48,⟨some 50,.fieldAddr 0 none (.tmp 9),(some (49,true))⟩,⟨some 51,.load none false (.tmp 50),(some (49,true))⟩,
 ⟨some 52,.bin .eql (.tmp 51) (ci 1),(some (49,true))⟩,mo 53 (.pick (.tmp 49) (.tmp 52) (.const (.bool false)))] [47,48,49,50,51,52] (.cond (.tmp 53) (rg [mt 54 10,mf 55 3 9,ml 56 55,mo 57 (.len (.tmp 56)),mo 58 (.call n_7 [(.const (.str [83,76,73,68,69])),.tmp 57]),
 mo 59 (.call n_6 [.tmp 54,.tmp 58]),mw 10 59] [53,54,55,56,57,58,59]) .skip)) (sq [mo 12 (.mov (.const .nils))] [53] (.seq (sq [mf 60 0 9,ml 61 60,mo 62 (.bin .neq (.tmp 61) (ci 3))] [60,61] (.cond (.tmp 62) (rg [mo 63 (.load (some 10) false (.tmp 4)),mt 64 1,
 mo 65 (.bin .add (.tmp 64) (ci 1)),mt 66 2,mt 67 3,mo 68 (.call n_15 [.tmp 63,.tmp 65,.tmp 66,.tmp 67]),mw 12 68] [1,2,4,62,63,64,65,66,67,68]) .skip)) (.seq (sq [mt 69 3,mo 70 (.un .not (.tmp 69))] [1,2,3,4,62,69] (.cond (.tmp 70) (rg [mw 71 10,mt 72 10,
 mo 73 (.len (.tmp 72)),mo 74 (.bin .add (.tmp 73) (ci 1)),mt 75 12,mo 76 (.len (.tmp 75)),mo 77 (.bin .add (.tmp 74) (.tmp 76)),mo 78 (.build [.str [],.int .i64 0,.int .i64 0,.str []] [(0,1,(.const (.str [74,85,77,80]))),(1,1,(.tmp 77))]),mo 79 (.buildSlice k_1 [.tmp 78]),
 mo 80 (.appendA k_1 48 (.mv 71) (.tmp 79)),mw 10 80] [70,71,72,73,74,75,76,77,78,79,80]) .skip)) (.seq (sq [mf 81 0 9,ml 82 81,mo 83 (.bin .neq (.tmp 82) (ci 3))] [9,70,81,82] (.cond (.tmp 83) (rg [mt 84 10,mt 85 10,mo 86 (.len (.tmp 85)),
 mo 87 (.indexAddr 4 (.tmp 84) (ci 0)),mf 88 1 87,⟨none,.store 1 (.tmp 88) (.mv 86),none⟩] [83,84,85,86,87,88]) .skip)) (sq [mw 89 10,mw 90 12,mo 91 (.call n_6 [.tmp 89,.tmp 90]),mw 8 91] [10,12,83,89,90,91] (.frz [.slot 8] .ret))))))))))))}
def zbx:AFun:={nargs:=4,ntmps:=96,res:=[.tmp 8],gc:=false,body:=(sq [mo 8 (.mov (.const .nils))] [8] (sq [mt 12 0,mo 13 (.appendA k_5 48 (.const .nils) (.tmp 12)),mw 9 13] [12,13] (.seq (sq [mt 14 1,mo 15 (.bin .lss (.tmp 14) (ci 0)),mw 16 15,
 ⟨some 17,.mov (.tmp 1),(some (16,false))⟩,⟨some 18,.mov (.tmp 0),(some (16,false))⟩,⟨some 19,.len (.tmp 18),(some (16,false))⟩,⟨some 20,.bin .geq (.tmp 17) (.tmp 19),(some (16,false))⟩,mo 21 (.pick (.tmp 16) (.const (.bool true)) (.tmp 20)),mw 22 21,
 ⟨some 23,.mov (.tmp 2),(some (22,false))⟩,⟨some 24,.bin .lss (.tmp 23) (ci 0),(some (22,false))⟩,mo 25 (.pick (.tmp 22) (.const (.bool true)) (.tmp 24)),mw 26 25,⟨some 27,.mov (.tmp 2),(some (26,false))⟩,⟨some 28,.mov (.tmp 0),(some (26,false))⟩,
 ⟨some 29,.mov (.tmp 1),(some (26,false))⟩,⟨some 30,.indexAddr 3 (.tmp 28) (.tmp 29),(some (26,false))⟩,⟨some 31,.fieldAddr 2 none (.tmp 30),(some (26,false))⟩,⟨some 32,.load none false (.tmp 31),(some (26,false))⟩,⟨some 33,.len (.tmp 32),(some (26,false))⟩,
 ⟨some 34,.bin .geq (.tmp 27) (.tmp 33),(some (26,false))⟩,mo 35 (.pick (.tmp 26) (.const (.bool true)) (.tmp 34))] [14,15,16,17,18,19,20,21,22,23,24,25,26,27,28,29,30,31,32,33,34] (.cond (.tmp 35) (sq [mw 36 9,mw 8 36] [0,1,2,3,9,35,36] (.frz [.slot 8] .ret)) .skip))
 (sq [mt 37 0,mt 38 1,mo 39 (.indexAddr 3 (.tmp 37) (.tmp 38)),mo 40 (.load (some 3) false (.tmp 39)),mo 10 (.alloc [.str [],.int .i64 0,.nils]),⟨none,.store 3 (.tmp 10) (.mv 40),none⟩] [0,35,37,38,39,40] (sq [mf 41 2 10,ml 42 41,
 mo 43 (.appendA k_1 48 (.const .nils) (.tmp 42)),mf 44 2 10,⟨none,.store 1 (.tmp 44) (.mv 43),none⟩] [41,42,43,44] (sq [mf 45 2 10,ml 46 45,mt 47 2,mo 48 (.indexAddr 4 (.tmp 46) (.tmp 47)),mo 49 (.load (some 4) false (.tmp 48)),
 mo 11 (.alloc [.str [],.int .i64 0,.int .i64 0,.str []]),⟨none,.store 4 (.tmp 11) (.mv 49),none⟩] [45,46,47,48,49] (.seq (sq [mt 50 3] [3] (.block 0 (sq [mo 52 (.bin .eql (.tmp 50) (ci 0)),mw 51 52] [52] (.cond (.tmp 51) (rg [mf 53 1 11,ml 54 53,mo 55 (.bin .add (.tmp 54) (ci 1)),
 mf 56 1 11,⟨none,.store 1 (.tmp 56) (.mv 55),none⟩] [50,51,53,54,55,56]) (sq [mo 58 (.bin .eql (.tmp 50) (ci 1)),mw 57 58] [51,58] (.cond (.tmp 57) (rg [mf 59 1 11,ml 60 59,mo 61 (.bin .sub (.tmp 60) (ci 1)),mf 62 1 11,
 ⟨none,.store 1 (.tmp 62) (.mv 61),none⟩] [50,57,59,60,61,62]) (sq [mo 64 (.bin .eql (.tmp 50) (ci 2)),mw 63 64] [57,64] (.cond (.tmp 63) (rg [mf 65 0 11,⟨none,.store 1 (.tmp 65) (.const (.str [80,79,80])),none⟩] [50,63,65]) (sq [mo 67 (.bin .eql (.tmp 50) (ci 3)),
 mw 66 67] [63,67] (.cond (.tmp 66) (rg [mf 68 0 11,⟨none,.store 1 (.tmp 68) (.const (.str [69,86,65,76])),none⟩] [50,66,68]) (sq [mo 70 (.bin .eql (.tmp 50) (ci 4)),mw 69 70] [66,70] (.cond (.tmp 69) (rg [mf 71 3 11,
 ⟨none,.store 1 (.tmp 71) (.const (.str [110,111,110,101])),none⟩] [50,69,71]) (sq [mo 73 (.bin .eql (.tmp 50) (ci 5)),mw 72 73] [69,73] (.cond (.tmp 72) (rg [mt 74 2,mo 75 (.bin .add (.tmp 74) (ci 2)),
 mo 76 (.build [.str [],.int .i64 0,.int .i64 0,.str []] [(0,1,(.const (.str [74,85,77,80]))),(1,1,(.tmp 75))]),⟨none,.store 4 (.tmp 11) (.mv 76),none⟩] [50,72,74,75,76]) (sq [mo 78 (.bin .eql (.tmp 50) (ci 6)),mw 77 78] [72,78] (.cond (.tmp 77) (rg [mf 79 1 10,ml 80 79,
 mo 81 (.bin .add (.tmp 80) (ci 1)),mf 82 1 10,⟨none,.store 1 (.tmp 82) (.mv 81),none⟩] [50,77,79,80,81,82]) (sq [mo 84 (.bin .eql (.tmp 50) (ci 7)),mw 83 84] [50,77,84] (.cond (.tmp 83) (rg [mf 85 0 11,
 ⟨none,.store 1 (.tmp 85) (.const (.str [85,78,87,73,78,68])),none⟩] [83,85]) .skip)))))))))))))))))) (sq [mf 86 2 10,ml 87 86,mt 88 2,mo 89 (.load (some 4) false (.tmp 11)),mo 90 (.indexAddr 4 (.tmp 87) (.tmp 88)),
 ⟨none,.store 4 (.tmp 90) (.mv 89),none⟩] [2,11,83,86,87,88,89,90] (sq [mt 91 9,mt 92 1,mo 93 (.load (some 3) false (.tmp 10)),mo 94 (.indexAddr 3 (.tmp 91) (.tmp 92)),⟨none,.store 3 (.tmp 94) (.mv 93),none⟩] [1,10,91,92,93,94] (sq [mw 95 9,mw 8 95] [9,95]
 (.frz [.slot 8] .ret)))))))))))}
theorem zwq:okFun Go.Proofs.Tryz.prog Go.Proofs.Tryz.f59 zhb=true:=by kernel_rfl
theorem zuk:okFun Go.Proofs.Tryz.prog Go.Proofs.Tryz.f62 zcl=true:=by kernel_rfl
theorem zwp:okFun Go.Proofs.Tryz.prog Go.Proofs.Tryz.f12 zbx=true:=by kernel_rfl
end Go.Fu
namespace Go.Fu
open Go Go.Mx
set_option maxRecDepth 10000
theorem zdd {body:Env→Store→XRes} (P:Nat→Env→Store→Prop) (Q:AExit × Env × Store→Prop) (k:Nat) (hstep:∀ i e σ,i < k→P i e σ→∃ e' σ',body e σ=some (.normal,e',σ')∧P (i + 1) e' σ')
  (hend:∀ e σ,P k e σ→∃ r,body e σ=some r∧(∀ e σ,r≠(.normal,e,σ))∧Q r):∀ (j n:Nat) (e:Env) (σ:Store),j≤k→k < n + j→P j e σ→∃ r,loopN body n e σ=some r∧Q r
 | j,0,e,σ,h1,h2,_=>by omega
 | j,n + 1,e,σ,h1,h2,hp=>by
  rw [loopN]
  by_cases hj:j=k
  ·subst hj
   obtain ⟨r,hr,hn,hq⟩:=hend e σ hp
   rw [hr]
   obtain ⟨x,e',σ'⟩:=r
   cases x with
   | normal=>exact absurd rfl (hn e' σ')
   | _=>exact ⟨_,rfl,hq⟩
  ·obtain ⟨e',σ',hb,hp'⟩:=hstep j e σ (by omega) hp
   rw [hb]
   exact zdd P Q k hstep hend (j + 1) n e' σ' (by omega) (by omega) hp'
theorem zes:∀ a b:List D,cellsOf (a ++ b)=cellsOf a ++ cellsOf b
 | [],b=>rfl
 | d :: a,b=>by simp only [List.cons_append,cellsOf,zes a b,List.append_assoc]
theorem zqp:∀ a:List D,(cellsOf a).map (fun c=>Cell.of c.d)=cellsOf a
 | []=>rfl
 | d :: a=>by
  simp only [cellsOf,List.map_append,List.map_map,zqp a]
  rfl
theorem zm9 {k:RowK}:∀ ds:List D,(∀ d∈ds,d.cells.length=k.sz∧packD k d.cells=d)→zd8 k ds.length ((cellsOf ds).map fun c=>c.d)=ds
 | [],_=>rfl
 | d :: ds,h=>by
  obtain ⟨h1,h2⟩:=h d (by simp)
  have h3:=zm9 ds fun x hx=>h x (List.mem_cons_of_mem _ hx)
  have e1:(d.cells.map Cell.of).map (fun c=>c.d)=d.cells:=by
   rw [List.map_map]
   exact List.map_id'' (fun _=>rfl) _
  simp only [List.length_cons,zd8,cellsOf,List.map_append,e1]
  rw [List.take_left' h1,List.drop_left' h1,h2,h3]
theorem zh3 {k:RowK} {ds:List D} (h:∀ d∈ds,d.cells.length=k.sz∧packD k d.cells=d):elems k (cellsOf ds) 0 ds.length=ds:=by
 simp only [elems,Nat.zero_mul,List.drop_zero]
 exact zm9 ds h
theorem zqv {n:Nat} {os:Objs}:∀ ds:List D,(∀ d∈ds,za1 n d os=some (d,os))→zcf (za1 n) ds os=some (ds,os)
 | [],_=>rfl
 | d :: ds,h=>by
  have h1:=h d (by simp)
  have h2:=zqv ds fun x hx=>h x (List.mem_cons_of_mem _ hx)
  simp only [zcf,h1,bindO,zad,h2]
def cI:List In→List Cell
 | []=>[]
 | i :: r=>⟨false,.str i.op⟩ :: ⟨false,.int .i64 i.n⟩ :: ⟨false,.int .i64 i.m⟩ :: ⟨false,.str i.name⟩ :: cI r
theorem cI_eq:∀ l:List In,cI l=cellsOf (l.map dI)
 | []=>rfl
 | i :: r=>by rw [cI,cI_eq r]; rfl
theorem zqk:∀ l:List In,(cI l).length=l.length * 4
 | []=>rfl
 | i :: r=>by rw [cI]; simp only [List.length_cons,zqk r]; omega
theorem znj (l:List In):∀ d∈l.map dI,d.cells.length=k_1.sz∧packD k_1 d.cells=d:=fun d hd=>by
 obtain ⟨x,_,rfl⟩:=List.mem_map.1 hd
 exact ⟨rfl,rfl⟩
theorem zrw:∀ l:List In,za3 k_1.sz (l.map dI)=true
 | []=>rfl
 | i :: r=>by simp only [List.map_cons,za3,zrw r]; rfl
theorem zsv {α:Type}:∀ (o:List (Nat × α)) (id:Nat),(∀ p∈o,p.1 < id)→adel1 o id=o
 | [],_,_=>rfl
 | (k,x) :: o,id,h=>by
  have hk:(k == id)=false:=beq_false_of_ne (by have:=h (k,x) (by simp); simp only at this; omega)
  rw [adel1,hk,zab,zsv o id fun p hp=>h p (List.mem_cons_of_mem _ hp)]
structure AS (o:List (Nat × List Cell)) (σ:Store) (id:Nat) (l:List In):Prop where
 objs:σ.objs=(id,cI l) :: o
 low:∀ p∈o,p.1 < id
 tys:aget σ.tys id=some ⟨k_1.el,k_1.sz⟩
 lt:id < σ.next
theorem AS.get {o:List (Nat × List Cell)} {σ:Store} {id:Nat} {l:List In} (h:AS o σ id l):aget σ.objs id=some (cI l):=by
 rw [h.objs]
 simp [aget,ifB]
theorem AS.list {o:List (Nat × List Cell)} {σ:Store} {id:Nat} {l:List In} (h:AS o σ id l):zbq σ.objs (.arr k_1 id 0 l.length)=some (l.map dI):=by
 have e:=zh3 (k:=k_1) (ds:=l.map dI) (znj l)
 rw [List.length_map] at e
 have hd:decide ((0 + l.length) * k_1.sz≤(cI l).length)=true:=by rw [zqk]; simp [k_1]
 have hc:(k_1.ag || k_1.sz == 1)=true:=rfl
 simp only [zbq,h.get,bindO,zad,hc,hd,Bool.and_self,zac]
 rw [cI_eq,e]
theorem AS.more {o:List (Nat × List Cell)} {σ:Store} {id:Nat} {l:List In} (h:AS o σ id l) (x:In) (hl:l.length < 1000000000):∃ σ',zbu σ k_1 48 (.arr k_1 id 0 l.length) [dI x]=some (.arr k_1 σ.next 0 (l.length + 1),σ')∧AS o σ' σ.next (l ++ [x]):=by
 have h1:za3 k_1.sz [dI x]=true:=rfl
 have e0:decide (l.length * k_1.sz≤(cI l).length)=true:=by rw [zqk]; simp [k_1]
 have e1:decide ((l.length + 1) * 48≤bound)=true:=decide_eq_true (show (l.length + 1) * 48≤1099511627776 by omega)
 have e2:decide (l.length + 1≤bound)=true:=decide_eq_true (show l.length + 1≤1099511627776 by omega)
 have ek:k_1.same k_1=true:=rfl
 have ht:(cI l).take (l.length * k_1.sz)=cI l:=List.take_of_length_le (by rw [zqk]; simp [k_1])
 have en:(cI l).map (fun c=>Cell.of c.d) ++ cellsOf [dI x]=cI (l ++ [x]):=by
  rw [cI_eq,cI_eq,zqp,List.map_append,zes]
  rfl
 refine ⟨zbe {σ with objs:=adel1 σ.objs id} k_1 (cI (l ++ [x])),?_,?_⟩
 ·simp only [zbu,h1,zac,h.get,h.tys,bindO,zad,ek,beq_self_eq_true,List.length_cons,List.length_nil,Nat.zero_add,e0,e1,e2,Bool.and_self,ht,en]
 ·have hb:(id == id)=true:=by simp
  have hdel:adel1 σ.objs id=o:=by rw [h.objs,adel1,hb,zac,zsv o id h.low]
  refine ⟨by simp only [zbe,hdel],fun p hp=>Nat.lt_trans (h.low p hp) h.lt,by simp [zbe,aget,ifB],by simp [zbe]⟩
theorem AS.first {σ:Store} (hlow:∀ p∈σ.objs,p.1 < σ.next) (l:List In) (hne:l≠[]) (hl:l.length < 1000000000):∃ σ',zbu σ k_1 48 .nils (l.map dI)=some (.arr k_1 σ.next 0 l.length,σ')∧AS σ.objs σ' σ.next l:=by
 have e1:decide (l.length * 48≤bound)=true:=decide_eq_true (show l.length * 48≤1099511627776 by omega)
 have e2:decide (l.length≤bound)=true:=decide_eq_true (show l.length≤1099511627776 by omega)
 have e:(l.map dI).isEmpty=false:=by cases l with
  | nil=>exact absurd rfl hne
  | cons a b=>rfl
 refine ⟨zbe σ k_1 (cI l),?_,?_⟩
 ·rw [cI_eq]
  simp only [zbu,zrw,e,zac,zab,e1,e2,Bool.and_self,List.length_map]
 ·exact ⟨rfl,hlow,by simp [zbe,aget,ifB],by simp [zbe]⟩
section
variable {C:CallF} {n:Nat}
def Ejb (d:D) (b:List In) (id m i:Nat):Env:={slots:=[(0,⟨false,d⟩),(1,⟨false,dIs b⟩),(5,⟨false,.arr k_1 id 0 m⟩),(6,⟨false,.int .i64 i⟩)],locs:=[],boxes:=[],defers:=[]}
theorem zlab (d:D) (k:Nat) (hd:lenOf d=some k) (b:List In) (i id m:Nat) (σ σ':Store) (h:i < b.length) (hl:b.length < 1000000000) (ha:zbu σ k_1 48 (.arr k_1 id 0 m) [dI (shI k b[i])]=some (.arr k_1 σ.next 0 (m + 1),σ')):exec C n none zcv (Ejb d b id m i) σ=some (.normal,Ejb d b σ.next (m + 1) (i + 1),σ'):=by
 have hi:((i:Int) < (b.length:Int)):=by omega
 have w:=zag (i:=i) (by omega)
 have hx:=idx_I b i h
 cases hb:b[i] with
 | mk op nn mm nm =>
 rw [hb] at ha hx
 simp only [shI,goesI] at ha
 simp only [dI] at hx ha
 cases h1:op == [84,69,83,84] with
 | true =>
  simp only [h1,Bool.true_or,zac] at ha
  simp only [zcv,Ejb,sA,seval,kn,memE,memOp,len_I,hd,hi,natI,hx,h1,ha,w]
 | false =>
  cases h2:op == [84,69,83,84,73] with
  | true =>
   simp only [h1,h2,Bool.false_or,Bool.true_or,zac] at ha
   simp only [zcv,Ejb,sA,seval,kn,memE,memOp,len_I,hd,hi,natI,hx,h1,h2,ha,w]
  | false =>
   cases h3:op == [74,85,77,80] with
   | true =>
    simp only [h1,h2,h3,Bool.false_or,zac] at ha
    simp only [zcv,Ejb,sA,seval,kn,memE,memOp,len_I,hd,hi,natI,hx,h1,h2,h3,ha,w]
   | false =>
    simp only [h1,h2,h3,Bool.false_or,zab] at ha
    simp only [zcv,Ejb,sA,seval,kn,memE,memOp,len_I,hd,hi,natI,hx,h1,h2,h3,ha,w]
theorem znzb (d:D) (b:List In) (id m:Nat) (σ:Store):exec C n none zcv (Ejb d b id m b.length) σ=some (.exit 0,{Ejb d b id m b.length with slots:=[(0,⟨false,d⟩),(1,⟨false,dIs b⟩),(5,⟨false,.arr k_1 id 0 m⟩),(6,⟨false,.int .i64 b.length⟩),(13,⟨false,.bool false⟩)]},σ):=by
 have hi:¬ ((b.length:Int) < (b.length:Int)):=by omega
 simp only [zcv,Ejb,sA,seval,kn,memE,memOp,len_I,hi]
end
theorem joinB {C:CallF} {n:Nat} {RD:CallF} (d:D) (a b:List In) (σ:Store) (hlow:∀ p∈σ.objs,p.1 < σ.next) (hne:a≠[]) (hla:lenOf d=some a.length) (hli:zbq σ.objs d=some (a.map dI)) (hl:a.length + b.length < 1000000000) (hn:b.length < n) :
  ∃ id σ',finX Ra RD zhb σ.next (exec C n none zhb.body (zbb [d,dIs b]) σ)=some (.ret ⟨false,.arr k_1 id 0 (a.length + b.length)⟩,σ')∧AS σ.objs σ' id (joinM a b):=by
 obtain ⟨σ1,h1,hs1⟩:=AS.first hlow a hne (by omega)
 obtain ⟨r,hr,id,σ',rfl,hs⟩:=zdd (body:=exec C n none zcv)
  (fun i e σ2=>∃ id,e=Ejb d b id (a.length + i) i∧AS σ.objs σ2 id (a ++ (b.take i).map (shI a.length)))
  (fun r=>∃ id σ',r=(.exit 0,{Ejb d b id (a.length + b.length) b.length with slots:=[(0,⟨false,d⟩),(1,⟨false,dIs b⟩),(5,⟨false,.arr k_1 id 0 (a.length + b.length)⟩),(6,⟨false,.int .i64 b.length⟩),(13,⟨false,.bool false⟩)]},σ')∧AS σ.objs σ' id (joinM a b)) b.length
  (fun i e σ2 hi ⟨id,he,hs⟩=>by
   subst he
   have hlen:(a ++ (b.take i).map (shI a.length)).length=a.length + i:=by simp; omega
   obtain ⟨σ3,h3,hs3⟩:=hs.more (shI a.length b[i]) (by omega)
   rw [hlen] at h3
   refine ⟨_,σ3,zlab d a.length hla b i id _ σ2 σ3 hi (by omega) h3,σ2.next,by simp [Nat.add_assoc],?_⟩
   have e:a ++ (b.take i).map (shI a.length) ++ [shI a.length b[i]]=a ++ (b.take (i + 1)).map (shI a.length):=by rw [List.append_assoc,← za9 b i hi,List.map_append]; rfl
   rw [← e]
   exact hs3)
  (fun e σ2 ⟨id,he,hs⟩=>by
   subst he
   refine ⟨_,znzb d b id _ σ2,fun _ _ h=>(by cases h),id,σ2,rfl,?_⟩
   rw [List.take_length] at hs
   exact hs) 0 n (Ejb d b σ.next a.length 0) σ1 (by omega) (by omega) ⟨σ.next,by simp,by simpa using hs1⟩
 simp only [Ejb,zeroI] at hr
 exact ⟨id,σ',by simp only [zhb,sA,seval,kn,memE,memOp,hli,h1,hr],hs⟩
end Go.Fu

/-
 The program's Quantify is the document's.
-/
import Derived.Test.YtieacpoabejcoaaGreatDoorFsQ10
import Derived.Test.YtieacpoabejcoaaGreatDoorFsX0
import Derived.Test.YtieacpoabejcoaaGreatDoorFsX8
set_option maxHeartbeats 4000000
set_option linter.unusedSimpArgs false
set_option linter.unusedVariables false
set_option linter.unusedSectionVars false
set_option linter.defProp false
namespace Go.Fu
open Go Go.Mx
set_option maxRecDepth 10000
def varP (ms:List Nat) (p:Pr):Pr:=⟨p.cls,varT ms p.ty⟩
def cB (ps:List Pr) (i:Nat):Nat:=match ps[i]? with
 | some p=>cnt p.ty
 | none=>0
theorem zo0b (ps:List Pr) (i:Nat) (h:i < ps.length):cB ps i=cnt ps[i].ty:=by
 unfold cB
 rw [List.getElem?_eq_getElem h]
def stE (ms:List Nat) (ps:List Pr):Store:=stB (dSs (ms.map tn)) ms (ps.map (varP ms)) (tyA ms.length) (2 * ms.length + 2) (cB ps) ps.length
theorem zh7b:∀ i,∀ p∈tyA i,p.1 < 2 * i + 2
 | 0,p,h=>by
  simp only [tyA,List.mem_cons,List.not_mem_nil,or_false] at h
  rcases h with rfl | rfl <;> simp only <;> omega
 | i + 1,p,h=>by
  simp only [tyA,List.mem_cons] at h
  rcases h with rfl | h
  ·simp only; omega
  ·have:=zh7b i p h; omega
theorem zejb (ms:List Nat) (ps:List Pr) (t:Tp) (hms:∀ m∈ms,m < 20) (hl:ms.length < 100) (hp:ps.length < 100):Evly fun n=>T n n_64 [dNs ms,dPs ps,dT t] σ0=some (.ret ⟨false,.agg (dSs (ms.map tn) :: .nils :: dPs (ps.map (varP ms)) :: cT (varT ms t))⟩,bump σ0 ((stE ms ps).next + cnt t)):=by
 have hk:Evly fun n=>∀ i,i < ps.length→∀ (h:i < ps.length) σ p,WF σ→aget σ.objs 0=some [⟨false,dNs ms⟩]→aget σ.objs 1=some (xB (dSs (ms.map tn)) p)→T n n_48 [dT ps[i].ty,.ptr 0 0,.ptr 1 0] σ=some (.ret ⟨false,dT (varT ms ps[i].ty)⟩,bump σ (cnt ps[i].ty)) :=
  Evly.below _ fun i hi=>(zhrb ms hl ps[i].ty).mono fun n h _ σ=>h σ
 refine (zpbb.and (hk.and (zhrb ms hl t))).step (ms.length + ps.length + 4) fun m hm h=>?_
 obtain ⟨h1,h2,h3⟩:=h
 have l0:=zbz (body:=exec (T m) m none zbl) (EA ms ps t) (stA ms) ms.length (r:=_) (fun _ _ h=>by cases h) (fun i hi=>by
  cases i with
  | zero=>exact zjgb ms ps t hi hl (h1 _ _ (hms _ (List.getElem_mem hi)))
  | succ i=>exact zjhb ms ps t i hi hl (h1 _ _ (hms _ (List.getElem_mem hi)))) (zpdb ms ps t _) 0 m (by omega) (by omega)
 have hw:=zqcb (dSs (ms.map tn)) ms (ps.map (varP ms)) (tyA ms.length) (2 * ms.length + 2) (cB ps) (by omega) (zh7b ms.length)
 have hz:=zlrb (dSs (ms.map tn)) ms (ps.map (varP ms)) (tyA ms.length) (2 * ms.length + 2) (cB ps) (by omega)
 have ho:=zomb (dSs (ms.map tn)) ms (ps.map (varP ms)) (tyA ms.length) (2 * ms.length + 2) (cB ps)
 have l1:=zbz (body:=exec (T m) m none zbm) (EB ps t) (stB (dSs (ms.map tn)) ms (ps.map (varP ms)) (tyA ms.length) (2 * ms.length + 2) (cB ps)) ps.length (r:=_) (fun _ _ h=>by cases h) (fun i hi=>by
  have hc:=h2 i hi hi (stB (dSs (ms.map tn)) ms (ps.map (varP ms)) (tyA ms.length) (2 * ms.length + 2) (cB ps) i) _ (hw i) (hz i) (ho i)
  rw [← zo0b ps i hi] at hc
  cases i with
  | zero=>exact zjib _ ms ps (ps.map (varP ms)) t _ _ _ (by omega) hi (by simpa using hi) hp (by simp [varP]) (by simpa [varP] using hc)
  | succ i=>exact zjjb _ ms ps (ps.map (varP ms)) t _ _ _ i (by omega) hi (by simpa using hi) hp (by simp [varP]) (by simpa [varP] using hc)) (zpeb ps t _) 0 m (by omega) (by omega)
 have h4:=h3 _ _ (hw ps.length) (hz ps.length) (ho ps.length)
 have fA:=frz_A ms
 have fB:=frz_B (ms.map tn) ms (ps.map (varP ms)) (varT ms t) (tyA ms.length) (2 * ms.length + 2) (cB ps) (by omega)
 have hg:=ho ps.length
 have hoth:=zonb (dSs (ms.map tn)) ms (ps.map (varP ms)) (tyA ms.length) (2 * ms.length + 2) (cB ps) ps.length
 have hn:(dNs ms).ok=true:=by simp only [dNs]; exact zjs
 have hc:(dNs ms).cells=[dNs ms]:=by simp only [dNs]; exact zhk
 have hln:lenOf (dNs ms)=some ms.length:=by simp only [dNs,zbs,List.length_map]
 have hlp:lenOf (dPs ps)=some ps.length:=by simp only [dPs,zbs,List.length_map]
 rw [List.length_map] at fB
 rw [T_fun (af:=zeh) rfl rfl]
 rw [dT_eq t,dT_eq (varT ms t)] at h4
 rw [dT_eq t]
 have hst:stE ms ps=stB (dSs (ms.map tn)) ms (ps.map (varP ms)) (tyA ms.length) (2 * ms.length + 2) (cB ps) ps.length:=rfl
 rw [← hst] at l1 h4 fB hg hoth
 generalize stE ms ps=σ2 at *
 generalize stA ms ms.length=σ1 at l0 fA
 simp only [EA,EB,stA,stB,xB,bT,zeroI] at l0 l1
 simp only [cT] at h4 ⊢
 simp only [xB,xT,bT,bump] at fA fB hg h4
 simp only [zeh,sA,seval,kn,zeroI,lit1,lit2,lit3,lit4,lit5,lit6,lit7,lit8,fnq,memE,memOp,zee,hn,hc,hln,hlp,σ0,l0,fA,l1,h4,hg,hoth,fB,zp9b,bump]
end Go.Fu
namespace Go.Fu.U
open Go Go.Mx Go.Fu Go.Fu
set_option maxRecDepth 10000
theorem TS_sound (S:Specs) (n:Nat):zcm Go.Proofs.Tryz.prog κ (TS S n):=(zrv Γs_holds zg0 zps n).1
theorem TS_orc {S:Specs} {f:FuncId} {s:List D→Cell→Prop} {ds:List D} {c:Cell} (hf:aget S f=some s) (hY:isY f=false) (hs:s ds c) (hp:OkP f ds c):∃ c',s ds c'∧∀ n σ,TS S (n + 1) f ds σ=some (.ret c',σ):=zlib hf hY hs hp
theorem zmf {C:CallF} {n:Nat} {f:FuncId} {af:AFun} {ds:List D} {c:Cell} {σ':Store} (hC:zcm Go.Proofs.Tryz.prog κ C) (h:Γs f=some af) (hl:ds.length=af.nargs) (hd:zaz ds=true) (hc:noPtr c.d=true)
  (hr:finX Ra (fun _ _ _=>none) af 0 (exec C n none af.body (zch ds) σ0)=some (.ret c,σ')):OkP f ds c:=by
 obtain ⟨hY,fn,hfn,hok⟩:=Γs_holds f af h
 refine zkp hC zg0 hY hfn hok hl hd hc (n:=n) (σ':=σ') ?_
 unfold finX at hr
 exact hr
abbrev Tx:=List UInt8
inductive Ty where
 | mk (f n:Int) (s:Tx) (bs:List Ty)
namespace Ty
def f:Ty→Int
 | .mk f _ _ _=>f
def n:Ty→Int
 | .mk _ n _ _=>n
def s:Ty→Tx
 | .mk _ _ s _=>s
def as_:Ty→List Ty
 | .mk _ _ _ l=>l
end Ty
mutual
def dTy:Ty→D
 | .mk f n s l=>.agg [.int .i64 f,.int .i64 n,.str s,dlist k_2 (dTys l)]
def dTys:List Ty→List D
 | []=>[]
 | t :: r=>dTy t :: dTys r
end
theorem zv1:∀ l:List Ty,dTys l=l.map dTy
 | []=>by simp [dTys]
 | c :: r=>by simp [dTys,zv1 r]
def dTl (l:List Ty):D:=dlist k_2 (l.map dTy)
def cTy (t:Ty):List D:=[.int .i64 t.f,.int .i64 t.n,.str t.s,dTl t.as_]
theorem zap (t:Ty):dTy t=.agg (cTy t):=by
 cases t
 simp only [dTy,cTy,Ty.f,Ty.n,Ty.s,Ty.as_,zv1,dTl]
theorem zfsb (t:Ty):(dTy t).cells=cTy t:=by rw [zap]; rfl
theorem zfkb (t:Ty):(dTy t).cells.length=4:=by rw [zfsb]; rfl
theorem zpxb (k:RowK):∀ l:List D,(dlist k l).one=true
 | []=>rfl
 | _ :: _=>rfl
theorem zhab (t:Ty):(dTy t).ok=true:=by rw [zap]; rfl
theorem zl6 {α:Type} {f:α→D} (hf:∀ a,noPtr (f a)=true):∀ l:List α,zaz (l.map f)=true
 | []=>rfl
 | x :: r=>by simp only [List.map_cons,zaz,hf,zl6 hf r,Bool.and_self]
theorem zp9 {k:RowK}:∀ {l:List D},zaz l=true→noPtr (dlist k l)=true
 | [],_=>rfl
 | x :: r,h=>h
theorem zhz (l:List Tx):noPtr (dSs l)=true:=zp9 (zl6 (fun _=>rfl) l)
mutual
theorem zec:∀ t:Ty,noPtr (dTy t)=true
 | .mk f n s l=>by
  have h:noPtr (dlist k_2 (dTys l))=true:=zp9 (zpc l)
  simp only [dTy,noPtr,zaz,h,Bool.and_self]
theorem zpc:∀ l:List Ty,zaz (dTys l)=true
 | []=>rfl
 | t :: r=>by simp only [dTys,zaz,zec t,zpc r,Bool.and_self]
end
theorem zg7b (l:List Ty):noPtr (dTl l)=true:=zp9 (zl6 zec l)
theorem dlist_inj {k:RowK}:∀ {a b:List D},dlist k a=dlist k b→a=b
 | [],[],_=>rfl
 | [],_ :: _,h=>by cases h
 | _ :: _,[],h=>by cases h
 | x :: a,y :: b,h=>by
  simp only [dlist,D.list.injEq,true_and] at h
  exact h
theorem map_inj {α:Type} {g:α→D} (hg:∀ {a b},g a=g b→a=b):∀ {l m:List α},l.map g=m.map g→l=m
 | [],[],_=>rfl
 | [],_ :: _,h=>by simp at h
 | _ :: _,[],h=>by simp at h
 | x :: l,y :: m,h=>by
  simp only [List.map_cons,List.cons.injEq] at h
  rw [hg h.1,map_inj hg h.2]
mutual
theorem dTy_inj:∀ {a b:Ty},dTy a=dTy b→a=b
 | .mk f n s l,.mk f' n' s' l',h=>by
  simp only [dTy,D.agg.injEq,List.cons.injEq,D.int.injEq,true_and,D.str.injEq,and_true] at h
  obtain ⟨rfl,rfl,rfl,h⟩:=h
  rw [zv0 (dlist_inj h)]
theorem zv0:∀ {a b:List Ty},dTys a=dTys b→a=b
 | [],[],_=>rfl
 | [],_ :: _,h=>by simp [dTys] at h
 | _ :: _,[],h=>by simp [dTys] at h
 | x :: l,y :: m,h=>by
  simp only [dTys,List.cons.injEq] at h
  rw [dTy_inj h.1,zv0 h.2]
end
theorem zmgb {a b:List Ty} (h:dTl a=dTl b):a=b:=map_inj dTy_inj (dlist_inj h)
def tCon (s:Tx):Ty:=.mk 3 0 s []
def tVar (s:Tx):Ty:=.mk 2 0 s []
def tApp (f a:Ty):Ty:=.mk 4 0 [] [f,a]
theorem znhb {α:Type} {k:RowK} (f:α→D) (l:List α):lenOf (dlist k (l.map f))=some l.length:=by
 cases l with
 | nil=>rfl
 | cons x r=>simp [dlist,lenOf]
theorem zcnb {α:Type} {k:RowK} {by_:Nat} {f:α→D} (hok:∀ a,(f a).ok=true) (hsz:∀ a,(f a).cells.length=k.sz) (hb:by_≤1024) (l:List α) (v:α) (o:Bool) (ho:l≠[]→o=true) (hl:l.length < 1000000000):zbb k by_ ⟨o,dlist k (l.map f)⟩ [f v]=some ⟨true,dlist k ((l ++ [v]).map f)⟩:=by
 have h1:(l.length + 1) * by_≤1000000000 * 1024:=Nat.mul_le_mul (by omega) hb
 rw [zfn (fun h=>ho (by simpa using h)) (hok _) (hsz _) (by simp [bound]; omega) (by simp [bound]; omega)]
 simp
theorem zi4 {α:Type} {k:RowK} {sz:Nat} (hs:k.sz=sz) (f:α→D) (l:List α) (i:Nat) (h:i < l.length):zaw sz (dlist k (l.map f)) i=some (.eptr (f l[i])):=by
 have hn:nth (l.map f) i=some (f l[i]):=by rw [zkz,zky _ _ h]; rfl
 cases l with
 | nil=>simp at h
 | cons x r =>
  simp only [List.map_cons,dlist,zaw,hs,beq_self_eq_true,zac] at hn ⊢
  rw [hn]
  rfl
theorem ziv {body:Env→Store→XRes} {n:Nat} {e:Env} {σ:Store} {e':Env} {σ':Store} (h:body e σ=some (.normal,e',σ')):loopN body (n + 1) e σ=loopN body n e' σ':=by rw [loopN,h]
theorem ziu {body:Env→Store→XRes} {n:Nat} {e:Env} {σ:Store} {e':Env} {σ':Store} {i:Nat} (h:body e σ=some (.exit i,e',σ')):loopN body (n + 1) e σ=some (.exit i,e',σ'):=by rw [loopN,h]
theorem zgi {body:Env→Store→XRes} {n:Nat} {e:Env} {σ:Store} {e':Env} {σ':Store} (h:body e σ=some (.ret,e',σ')):loopN body (n + 1) e σ=some (.ret,e',σ'):=by rw [loopN,h]
theorem zn6b (l:List Ty):(dTl l).one=true:=zpxb _ _
theorem zprb (l:List Ty):(dTl l).ok=true:=zjs
theorem zfjb (l:List Ty):(dTl l).cells=[dTl l]:=zhk
theorem partN (cs:List D) (o:Nat):Mx.part none cs o=nth cs o:=rfl
set_option linter.defProp false in
def onel:=And.intro @partN (And.intro @zn6b (And.intro @zprb @zfjb))
theorem len_T (l:List Ty):lenOf (dTl l)=some l.length:=znhb _ l
theorem idx_T (l:List Ty) (i:Nat) (h:i < l.length):zaw 4 (dTl l) i=some (.eptr (dTy l[i])):=zi4 rfl _ _ _ h
theorem app_T (l:List Ty) (v:Ty) (o:Bool) (ho:l≠[]→o=true) (hl:l.length < 1000000000):zbb k_2 56 ⟨o,dTl l⟩ [dTy v]=some ⟨true,dTl (l ++ [v])⟩:=zcnb zhab zfkb (by omega) l v o ho hl
inductive Fine:Ty→Prop where
 | mk {f n:Int} {s:Tx} {l:List Ty} (h:l.length≤1000) (hl:∀ a∈l,Fine a):Fine (.mk f n s l)
theorem Fine.few {t:Ty} (h:Fine t):t.as_.length≤1000:=by cases h; assumption
theorem Fine.sub {t:Ty} (h:Fine t):∀ a∈t.as_,Fine a:=by cases h; assumption
theorem fine_con (s:Tx):Fine (tCon s):=.mk (by simp) (fun _ h=>by cases h)
theorem fine_var (s:Tx):Fine (tVar s):=.mk (by simp) (fun _ h=>by cases h)
theorem fine_app {f a:Ty} (hf:Fine f) (ha:Fine a):Fine (tApp f a):=.mk (by simp) (fun x h=>by
 simp only [List.mem_cons,List.not_mem_nil,or_false] at h
 rcases h with rfl | rfl
 ·exact hf
 ·exact ha)
def bT (t:Ty):List Cell:=[⟨false,.int .i64 t.f⟩,⟨false,.int .i64 t.n⟩,⟨false,.str t.s⟩,⟨false,dTl t.as_⟩]
theorem zaq (t:Ty):cTy t=[.int .i64 t.f,.int .i64 t.n,.str t.s,dTl t.as_]:=rfl
theorem tys0:dTl []=.nils:=rfl
def spT1 (g:Ty→Ty):List D→Cell→Prop:=fun ds c=>∀ t,ds=[dTy t]→c=⟨false,dTy (g t)⟩
def zlf:List D→Cell→Prop:=spT1 fun t=>t
theorem zcgb {g:Ty→Ty} {t:Ty}:spT1 g [dTy t] ⟨false,dTy (g t)⟩:=fun t' e=>by
 simp only [List.cons.injEq,and_true] at e
 rw [dTy_inj e]
section
variable {C:CallF} {n:Nat} {σ:Store}
def Eow (t:Ty) (i:Nat):Env:={slots:=[(3,⟨ow i,dTl (t.as_.take i)⟩),(7,⟨false,dTl t.as_⟩),(8,⟨false,.int .i64 t.as_.length⟩),(9,⟨false,.int .i64 i⟩)],locs:=[(1,1,0),(2,2,0)],boxes:=[(1,bT t),(2,[⟨false,.int .i64 0⟩,⟨false,.int .i64 0⟩,⟨false,.str []⟩,⟨false,.nils⟩])],defers:=[]}
theorem zodb (t:Ty) (ht:Fine t) (i:Nat) (h:i < t.as_.length) (hc:C n_11 [dTy t.as_[i]] σ=some (.ret ⟨false,dTy t.as_[i]⟩,σ)):exec C n none a_29 (Eow t i) σ=some (.normal,Eow t (i + 1),σ):=by
 have hf:=ht.few
 have hi:((i:Int) < (t.as_.length:Int)):=by omega
 have ha:=app_T (t.as_.take i) t.as_[i] (ow i) ow_ne (by simp; omega)
 rw [zba _ _ h] at ha
 simp only [zap,zaq] at hc ha
 simp only [a_29,Eow,bT,sA,seval,kn,hi,natI,idx_T _ _ h,zap,zaq,onel,hc,ha,zaj (i:=i) (by omega),zd0]
theorem zp0b (t:Ty):exec C n none a_29 (Eow t t.as_.length) σ=some (.exit 0,{Eow t t.as_.length with slots:=[(3,⟨ow t.as_.length,dTl t.as_⟩),(7,⟨false,dTl t.as_⟩),(8,⟨false,.int .i64 t.as_.length⟩),(9,⟨false,.int .i64 t.as_.length⟩),(10,⟨false,.bool false⟩)]},σ):=by
 have hi:¬ ((t.as_.length:Int) < (t.as_.length:Int)):=by omega
 simp only [a_29,Eow,bT,sA,seval,kn,hi,List.take_length]
end
theorem zk7b (t:Ty) (ht:Fine t):OkP n_11 [dTy t] ⟨false,dTy t⟩:=by
 induction ht with
 | @mk f n s l hf hl ih =>
  have ht:Fine (.mk f n s l):=.mk hf hl
  generalize he:Ty.mk f n s l=t at ht
  have hel:l=t.as_:=by rw [← he]; rfl
  subst hel
  refine zmf (af:=a_93) (n:=t.as_.length + 1) (σ':=σ0) (TS_sound [(n_11,zlf)] 1) rfl rfl (by simp [zaz,zec]) (zec _) ?_
  have h1:=zbz (body:=exec (TS [(n_11,zlf)] 1) (t.as_.length + 1) none a_29) (Eow t) (fun _=>σ0) t.as_.length (r:=_) (fun _ _ h=>by cases h) (fun i hi=>zodb t ht i hi (by
   obtain ⟨c,g1,g2⟩:=TS_orc (S:=[(n_11,zlf)]) rfl rfl (s:=zlf) (zcgb (g:=fun t=>t)) (ih _ (List.getElem_mem hi))
   rw [g2,g1 _ rfl])) (zp0b t) 0 (t.as_.length + 1) (by omega) (by omega)
  simp only [Eow,bT,zeroI,List.take_zero,tys0,zd1] at h1
  simp only [a_93,sA,seval,kn,zap,zaq,onel,len_T,h1]
theorem zvt {S:Specs} (hS:aget S n_11=some zlf) (t:Ty) (ht:Fine t) (n:Nat) (σ:Store):TS S (n + 1) n_11 [dTy t] σ=some (.ret ⟨false,dTy t⟩,σ):=by
 obtain ⟨c,g1,g2⟩:=TS_orc (S:=S) hS rfl (zcgb (g:=fun t=>t)) (zk7b t ht)
 rw [g2,g1 _ rfl]
def spT2 (g:Ty→Ty→Ty):List D→Cell→Prop:=fun ds c=>∀ a b,ds=[dTy a,dTy b]→c=⟨false,dTy (g a b)⟩
theorem zoib {g:Ty→Ty→Ty} {a b:Ty}:spT2 g [dTy a,dTy b] ⟨false,dTy (g a b)⟩:=fun a' b' e=>by
 simp only [List.cons.injEq,and_true] at e
 rw [dTy_inj e.1,dTy_inj e.2]
theorem lst_T (a b:Ty):(D.list k_2 [D.agg (cTy a),D.agg (cTy b)])=dTl [a,b]:=by rw [← zap,← zap]; rfl
theorem zcob (a b:Ty):OkP n_39 [dTy a,dTy b] ⟨false,dTy (tApp a b)⟩:=by
 refine zmf (af:=a_92) (n:=1) (σ':=σ0) (TS_sound [] 0) rfl rfl (by simp [zaz,zec]) (zec _) ?_
 have e:=lst_T a b
 simp only [zaq] at e
 have e2:dTy (tApp a b)=.agg [.int .i64 4,.int .i64 0,.str [],dTl [a,b]]:=zap _
 rw [e2]
 simp only [a_92,sA,seval,kn,zap,zaq,onel,e]
def zx3:=spT2 tApp
theorem zcvb {S:Specs} (hS:aget S n_39=some zx3) (a b:Ty) (n:Nat) (σ:Store):TS S (n + 1) n_39 [dTy a,dTy b] σ=some (.ret ⟨false,dTy (tApp a b)⟩,σ):=by
 obtain ⟨c,g1,g2⟩:=TS_orc (S:=S) hS rfl zoib (zcob a b)
 rw [g2,g1 _ _ rfl]
def z4:List Cell:=[⟨false,.int .i64 0⟩,⟨false,.int .i64 0⟩,⟨false,.str []⟩,⟨false,.nils⟩]
def spTL (g:Ty→List Ty→Ty):List D→Cell→Prop:=fun ds c=>∀ t l,ds=[dTy t,dTl l]→c=⟨false,dTy (g t l)⟩
theorem zojb {g:Ty→List Ty→Ty} {t:Ty} {l:List Ty}:spTL g [dTy t,dTl l] ⟨false,dTy (g t l)⟩:=fun t' l' e=>by
 simp only [List.cons.injEq,and_true] at e
 rw [dTy_inj e.1,zmgb e.2]
theorem zdab {α β:Type} (f:β→α→β) (l:List α) (x:β) (i:Nat) (h:i < l.length):(l.take (i + 1)).foldl f x=f ((l.take i).foldl f x) l[i]:=by
 rw [← zba l i h,List.foldl_append]
 rfl
section
variable {C:CallF} {n:Nat} {σ:Store}
def Eap (t:Ty) (l:List Ty) (i:Nat):Env:={slots:=[(10,⟨false,dTl l⟩),(11,⟨false,.int .i64 l.length⟩),(12,⟨false,.int .i64 i⟩)],locs:=[(4,4,0),(5,5,0)],boxes:=[(4,z4),(5,bT ((l.take i).foldl tApp t))],defers:=[]}
theorem zl8b (t:Ty) (l:List Ty) (i:Nat) (h:i < l.length) (hl:l.length≤1000) (h1:C n_11 [dTy l[i]] σ=some (.ret ⟨false,dTy l[i]⟩,σ))
  (h2:C n_39 [dTy ((l.take i).foldl tApp t),dTy l[i]] σ=some (.ret ⟨false,dTy ((l.take (i + 1)).foldl tApp t)⟩,σ)):exec C n none a_90 (Eap t l i) σ=some (.normal,Eap t l (i + 1),σ):=by
 have hi:((i:Int) < (l.length:Int)):=by omega
 unfold Eap
 generalize (l.take (i + 1)).foldl tApp t=b at h2 ⊢
 generalize (l.take i).foldl tApp t=a at h2 ⊢
 simp only [zap,zaq] at h1 h2
 simp only [a_90,bT,z4,sA,seval,kn,hi,natI,idx_T _ _ h,zap,zaq,onel,h1,h2,zaj (i:=i) (by omega)]
theorem zoyb (t:Ty) (l:List Ty):exec C n none a_90 (Eap t l l.length) σ=some (.exit 0,{Eap t l l.length with slots:=[(10,⟨false,dTl l⟩),(11,⟨false,.int .i64 l.length⟩),(12,⟨false,.int .i64 l.length⟩),(13,⟨false,.bool false⟩)]},σ):=by
 have hi:¬ ((l.length:Int) < (l.length:Int)):=by omega
 simp only [a_90,Eap,sA,seval,kn,hi]
end
def SAp:Specs:=[(n_11,zlf),(n_39,zx3)]
theorem zipb (t:Ty) (l:List Ty) (ht:Fine t) (hf:∀ a∈l,Fine a) (hl:l.length≤1000):OkP n_67 [dTy t,dTl l] ⟨false,dTy (l.foldl tApp t)⟩:=by
 refine zmf (af:=a_157) (n:=l.length + 1) (σ':=σ0) (TS_sound SAp 1) rfl rfl (by simp [zaz,zec,zg7b]) (zec _) ?_
 have h1:=zbz (body:=exec (TS SAp 1) (l.length + 1) none a_90) (Eap t l) (fun _=>σ0) l.length (r:=_) (fun _ _ h=>by cases h) (fun i hi=>zl8b t l i hi hl (zvt rfl _ (hf _ (List.getElem_mem hi)) 0 σ0) (by
  rw [zdab tApp l t i hi]
  exact zcvb rfl _ _ 0 σ0)) (zoyb t l) 0 (l.length + 1) (by omega) (by omega)
 have h0:=zvt (S:=SAp) rfl t ht 0 σ0
 simp only [Eap,bT,z4,zeroI,List.take_zero,List.foldl_nil,List.take_length] at h1
 generalize l.foldl tApp t=b at h1 ⊢
 simp only [zap,zaq] at h0
 simp only [a_157,sA,seval,kn,zap,zaq,onel,len_T,h0,h1]
def sp_App:=spTL fun t l=>l.foldl tApp t
theorem zirb {S:Specs} (hS:aget S n_67=some sp_App) (t:Ty) (l:List Ty) (ht:Fine t) (hf:∀ a∈l,Fine a) (hl:l.length≤1000) (n:Nat) (σ:Store):TS S (n + 1) n_67 [dTy t,dTl l] σ=some (.ret ⟨false,dTy (l.foldl tApp t)⟩,σ):=by
 obtain ⟨c,g1,g2⟩:=TS_orc (S:=S) hS rfl (zojb (g:=fun t l=>l.foldl tApp t)) (zipb t l ht hf hl)
 rw [g2,g1 _ _ rfl]
theorem agS {α:Type} (k:Nat) (v:α) (l:List (Nat × α)):aget ((k,v) :: l) k=some v:=by simp [aget,ifB]
theorem agA {α:Type} (k:Nat) (v:α):∀ l:List (Nat × α),aget (aset l k v) k=some v
 | []=>by simp [aset,aget,ifB]
 | (a,x) :: r=>by
  rw [aset]
  cases h:a == k with
  | true=>simp [aget,ifB,h]
  | false =>
   cases h2:Nat.ble k a with
   | true=>simp [aget,ifB]
   | false=>simp only [zad,aget,h,agA k v r]
theorem agB {α:Type} (k j:Nat) (v:α) (hj:(k == j)=false):∀ l:List (Nat × α),aget (aset l k v) j=aget l j
 | []=>by simp [aset,aget,ifB,hj]
 | (a,x) :: r=>by
  rw [aset]
  cases h:a == k with
  | true =>
   have:a=k:=by simpa using h
   subst this
   simp [aget,ifB,hj]
  | false =>
   cases h2:Nat.ble k a with
   | true=>simp [aget,ifB,hj]
   | false=>simp only [zad,aget,agB k j v hj r]
theorem zhs {α:Type} (k:Nat) (v w:α):∀ l:List (Nat × α),aset (aset l k v) k w=aset l k w
 | []=>by simp [aset,ifB]
 | (i,x) :: l=>by
  simp only [aset]
  cases h:i == k with
  | true=>simp [aset,ifB,h]
  | false =>
   cases h2:Nat.ble k i with
   | true=>simp [aset,ifB]
   | false=>simp [aset,ifB,h,h2,zhs k v w l]
def SM (σ:Store) (id:Nat) (x:Oth):Store:={σ with oth:=aset σ.oth id x}
def GM (σ:Store) (x:Oth):Store:={σ with oth:=(σ.next,x) :: σ.oth,next:=σ.next + 1}
theorem mUpd {ks:Bool} {x i y:AOpd} {e:Env} {σ:Store}:memOp (.update ks x i y) e σ=bindO (opd e x) fun c=>bindO (opd e i) fun k=>bindO (opd e y) fun v=>bindO (mapAt σ.oth c.d) fun m=>ifB (keyD ks k.d && v.d.ok) (bindO (findM k.d m.2.1) fun r =>
   some (.undef,SM σ m.1 (caseO r (.map (m.2.1 ++ [(k.d,v.d,m.2.2)]) (m.2.2 + 1)) fun p=>.map (m.2.1.set p.2.2 (k.d,v.d,p.2.1)) m.2.2))) none:=rfl
theorem mMake {e:Env} {σ:Store}:memOp .makeMap e σ=some (.map σ.next,GM σ (.map [] 0)):=rfl
theorem zku {σ:Store} {id:Nat} {x:Oth}:aget (SM σ id x).oth id=some x:=agA _ _ _
def GA (σ:Store) (t:Nat) (cs:List Cell):Store:={objs:=(σ.next,cs) :: σ.objs,tys:=(σ.next,⟨t,0⟩) :: σ.tys,oth:=σ.oth,next:=σ.next + 1}
theorem agC {α:Type} (k j:Nat) (v:α) (l:List (Nat × α)) (hj:k≠j):aget ((k,v) :: l) j=aget l j:=by
 have:(k == j)=false:=by simpa using hj
 simp [aget,ifB,this]
def SO (σ:Store) (id:Nat) (cs:List Cell):Store:={σ with objs:=aset σ.objs id cs}
theorem zbpb {σ:Store} {id:Nat} {cs:List Cell}:({objs:=aset σ.objs id cs,tys:=σ.tys,oth:=σ.oth,next:=σ.next}:Store)=SO σ id cs:=rfl
end Go.Fu.U
namespace Go.Fu.U
open Go Go.Mx Go.Fu
set_option maxRecDepth 100000
set_option maxHeartbeats 4000000
def tMeta (n:Int):Ty:=.mk 1 n [] []
theorem zg3b (n:Int):OkP n_25 [.int .i64 n] ⟨false,dTy (tMeta n)⟩:=by
 refine zmf (af:=a_158) (n:=1) (σ':=σ0) (TS_sound [] 1) rfl rfl rfl (zec _) ?_
 have e:dTy (tMeta n)=.agg [.int .i64 1,.int .i64 n,.str [],.nils]:=rfl
 rw [e]
 simp only [a_158,sA,seval,kn,onel]
def sp_meta:List D→Cell→Prop:=fun ds c=>∀ n:Int,ds=[.int .i64 n]→c=⟨false,dTy (tMeta n)⟩
theorem zm7 {S:Specs} (hS:aget S n_25=some sp_meta) (k:Int) (n:Nat) (σ:Store):TS S (n + 1) n_25 [.int .i64 k] σ=some (.ret ⟨false,dTy (tMeta k)⟩,σ):=by
 obtain ⟨c,g1,g2⟩:=TS_orc (S:=S) hS rfl (c:=⟨false,dTy (tMeta k)⟩) (fun t' e=>by
  simp only [List.cons.injEq,D.int.injEq,true_and,and_true] at e
  rw [e]) (zg3b k)
 rw [g2,g1 _ rfl]
structure SB (σ:Store) (p m:Nat) (n:Nat) (es:List (D × D × Nat)) (c:Nat):Prop where
 obj:aget σ.objs p=some [⟨false,.int .i64 n⟩,⟨false,.map m⟩]
 map:aget σ.oth m=some (.map es c)
 lt:p < σ.next
 ltm:m < σ.next
theorem unew_run {S:Specs} (hS0:has S n_126=false) (n:Nat) (σ:Store):∃ σ' p m,TS S (n + 1) n_126 [] σ=some (.ret ⟨false,.ptr p 0⟩,σ')∧SB σ' p m 0 [] 0∧(∀ j,j < σ.next→aget σ'.objs j=aget σ.objs j)∧(∀ j,j < σ.next→aget σ'.oth j=aget σ.oth j)∧σ.next≤σ'.next:=by
 refine ⟨GA (GM σ (.map [] 0)) t_184 [⟨false,.int .i64 0⟩,⟨false,.map σ.next⟩],σ.next + 1,σ.next,?_,⟨agS _ _ _,agS _ _ _,Nat.lt_succ_self _,Nat.lt_of_lt_of_le (Nat.lt_succ_self _) (Nat.le_succ _)⟩,fun j hj=>?_,fun j hj=>?_,?_⟩
 ·rw [zbe (af:=a_114) hS0 rfl rfl]
  have hg:memOp (.gbox t_184 (.tmp 2)) {slots:=[(1,⟨false,.map σ.next⟩),(2,⟨false,.agg [.int .i64 0,.map σ.next]⟩)],locs:=[],boxes:=[],defers:=[]} (GM σ (.map [] 0))=some (.ptr (σ.next + 1) 0,GA (GM σ (.map [] 0)) t_184 [⟨false,.int .i64 0⟩,⟨false,.map σ.next⟩]):=rfl
  simp only [a_114,sA,seval,kn,onel,memE,mMake,hg]
 ·exact agC _ _ _ _ (by show σ.next + 1≠j; omega)
 ·exact agC _ _ _ _ (by omega)
 ·show σ.next≤σ.next + 1 + 1
  omega
theorem fresh_run {S:Specs} (hS0:has S n_51=false) (hS1:aget S n_25=some sp_meta) {σ:Store} {p m n c:Nat} {es:List (D × D × Nat)} (h:SB σ p m n es c) (hn:n < 1000000) (k:Nat):TS S (k + 2) n_51 [.ptr p 0] σ=some (.ret ⟨false,dTy (tMeta (n + 1:Nat))⟩,SO σ p [⟨false,.int .i64 (n + 1:Nat)⟩,⟨false,.map m⟩])∧SB (SO σ p [⟨false,.int .i64 (n + 1:Nat)⟩,⟨false,.map m⟩]) p m (n + 1) es c:=by
 refine ⟨?_,⟨agA _ _ _,h.map,h.lt,h.ltm⟩⟩
 rw [zbe (af:=a_164) hS0 rfl rfl]
 have ho:=h.obj
 have w:=zaj (i:=n) (by omega)
 have h1:=zm7 hS1 (n + 1:Nat) k (SO σ p [⟨false,.int .i64 (n + 1:Nat)⟩,⟨false,.map m⟩])
 have hs:aget (SO σ p [⟨false,.int .i64 (n + 1:Nat)⟩,⟨false,.map m⟩]).objs p=some [⟨false,.int .i64 (n + 1:Nat)⟩,⟨false,.map m⟩]:=agA _ _ _
 generalize tMeta (n + 1:Nat)=u at *
 simp only [zap,zaq] at h1 ⊢
 simp only [a_164,sA,seval,kn,onel,ho,w,zbpb,hs,h1]
end Go.Fu.U
namespace Go.Fu
open Go Go.Mx
set_option maxRecDepth 100000
set_option maxHeartbeats 4000000
def newT (k:Nat):Nat→List Tp
 | 0=>[]
 | i + 1=>newT k i ++ [.hole ((k + i + 1:Nat):Int)]
theorem zfk (k:Nat):∀ i,(newT k i).length=i
 | 0=>rfl
 | i + 1=>by simp [newT,zfk k i]
theorem zw4 (k:Nat):∀ (n i:Nat) (h:i < (newT k n).length),(newT k n)[i]=.hole ((k + i + 1:Nat):Int)
 | 0,i,h=>by simp [newT] at h
 | n + 1,i,h=>by
  have hl:=zfk k n
  have hl2:=zfk k (n + 1)
  simp only [newT]
  by_cases hi:i < n
  ·rw [List.getElem_append_left (by omega)]
   exact zw4 k n i (by omega)
  ·have:i=n:=by omega
   subst this
   rw [List.getElem_append_right (by omega)]
   simp [hl]
theorem znq (x:Int):U.dTy (U.tMeta x)=dT (.hole x):=by
 simp [U.tMeta,U.dTy,U.dTys,dT,dlist]
section
variable {C:CallF} {n:Nat}
def bX (vs:List (List UInt8)) (ks:D) (ps:List Pr) (t:Tp):List Cell:=⟨false,dSs vs⟩ :: ⟨false,ks⟩ :: ⟨false,dPs ps⟩ :: bT t
def Efr (p:Nat) (vs:List (List UInt8)) (ks:D) (ps:List Pr) (t:Tp) (k i:Nat):Env:={slots:=[(0,⟨false,.ptr p 0⟩),(7,⟨ow i,dlist k_2 ((newT k i).map dT)⟩),(12,⟨false,.int .i64 vs.length⟩),(13,⟨false,.int .i64 i⟩)],locs:=[(3,3,0),(5,5,0)],boxes:=[(3,bX vs ks ps t),(5,[⟨false,.int .i64 0⟩,⟨false,.int .i64 0⟩,⟨false,.str []⟩,⟨false,.nils⟩])],defers:=[]}
theorem zkeb (p:Nat) (vs:List (List UInt8)) (ks:D) (ps:List Pr) (t:Tp) (k i:Nat) (h:i < vs.length) (hl:vs.length < 1000) (σ σ':Store) (hc:C n_51 [.ptr p 0] σ=some (.ret ⟨false,dT (.hole (k + i + 1:Nat))⟩,σ')):exec C n none a_84 (Efr p vs ks ps t k i) σ=some (.normal,Efr p vs ks ps t k (i + 1),σ'):=by
 have hi:((i:Int) < (vs.length:Int)):=by omega
 have ha:=zpu (newT k i) (.hole (k + i + 1:Nat)) (ow i) (by cases i with
  | zero=>intro h; exact absurd rfl h
  | succ i=>intro _; rfl) (by rw [zfk]; omega)
 have hn:newT k i ++ [.hole ((k + i + 1:Nat):Int)]=newT k (i + 1):=rfl
 rw [hn] at ha
 simp only [dT] at hc ha
 simp only [a_84,Efr,bX,bT,sA,seval,kn,hi,hc,ha,zaj (i:=i) (by omega),zd0]
theorem znjb (p:Nat) (vs:List (List UInt8)) (ks:D) (ps:List Pr) (t:Tp) (k:Nat) (σ:Store):exec C n none a_84 (Efr p vs ks ps t k vs.length) σ=some (.exit 0,{Efr p vs ks ps t k vs.length with slots:=[(0,⟨false,.ptr p 0⟩),(7,⟨ow vs.length,dlist k_2 ((newT k vs.length).map dT)⟩),(12,⟨false,.int .i64 vs.length⟩),(13,⟨false,.int .i64 vs.length⟩),(14,⟨false,.bool false⟩)]},σ):=by
 have hi:¬ ((vs.length:Int) < (vs.length:Int)):=by omega
 simp only [a_84,Efr,bX,bT,sA,seval,kn,hi]
end
theorem zehb {S:Specs} (h1:has S n_51=false) (h2:aget S n_25=some U.sp_meta) (h3:has S n_194=false) (vs:List (List UInt8)) (ks:D) (ps:List Pr) (t:Tp) (k:Nat) (hl:vs.length < 1000) (hk:k < 1000) (hks:ks.one=true)
  (hput:∀ n σ,TS S (n + 1) n_50 [.agg (dSs vs :: ks :: dPs ps :: cT t),dSs vs,dTs (newT k vs.length)] σ=some (.ret ⟨false,.tup [dPs (ps.map (putP vs (newT k vs.length))),dT (subT vs (newT k vs.length) t)]⟩,σ))
  (hcl:∀ n σ,TS S (n + 1) n_21 [dTs (newT k vs.length)] σ=some (.ret ⟨false,dTs (newT k vs.length)⟩,σ))
  {σ:Store} {p m c:Nat} {es:List (D × D × Nat)} (hB:U.SB σ p m k es c) :
  ∃ σ',U.SB σ' p m (k + vs.length) es c∧∀ n,vs.length + 10≤n→TS S n n_194 [.ptr p 0,.agg (dSs vs :: ks :: dPs ps :: cT t)] σ=some (.ret ⟨false,.tup [dPs (ps.map (putP vs (newT k vs.length))),dT (subT vs (newT k vs.length) t),dTs (newT k vs.length)]⟩,σ'):=by
 -- the stores behind each
 have hst:∀ i,∃ τ,U.SB τ p m (k + i) es c∧(i=0→τ=σ):=fun i=>by
  induction i with
  | zero=>exact ⟨σ,hB,fun _=>rfl⟩
  | succ i ih =>
   obtain ⟨τ,h,_⟩:=ih
   exact ⟨U.SO τ p [⟨false,.int .i64 (k + i + 1:Nat)⟩,⟨false,.map m⟩],⟨U.agA _ _ _,h.map,h.lt,h.ltm⟩,fun h=>by cases h⟩
 let g:Nat→Store:=fun i=>Nat.rec σ (fun i τ=>U.SO τ p [⟨false,.int .i64 (k + i + 1:Nat)⟩,⟨false,.map m⟩]) i
 have hg:∀ i,U.SB (g i) p m (k + i) es c:=fun i=>by
  induction i with
  | zero=>exact hB
  | succ i ih=>exact ⟨U.agA _ _ _,ih.map,ih.lt,ih.ltm⟩
 refine ⟨g vs.length,hg vs.length,fun n hn=>?_⟩
 obtain ⟨n,rfl⟩:∃ j,n=j + 3:=⟨n - 3,by omega⟩
 have hloop:=zbz (body:=exec (TS S (n + 2)) (n + 2) none a_84) (Efr p vs ks ps t k) g vs.length (r:=_) (fun _ _ h=>by cases h) (fun i hi=>by
  have hf:=(U.fresh_run (S:=S) h1 h2 (hg i) (by omega) n).1
  rw [znq] at hf
  exact zkeb p vs ks ps t k i hi hl (g i) (g (i + 1)) hf) (znjb p vs ks ps t k _) 0 (n + 2) (by omega) (by omega)
 have g0:g 0=σ:=rfl
 rw [g0] at hloop
 generalize g vs.length=τ at *
 have e1:=hput (n + 1) τ
 have e2:=hcl (n + 1) τ
 have o1:(dPs (ps.map (putP vs (newT k vs.length)))).one=true:=zbp
 have o2:(dSs vs).one=true:=zbp
 have o3:(dPs ps).one=true:=zbp
 have o4:(dTs (newT k vs.length)).one=true:=zbp
 have hln:lenOf (dSs vs)=some vs.length:=by simp only [dSs,zbs,List.length_map]
 have hd:dTs (newT k vs.length)=dlist k_2 ((newT k vs.length).map dT):=rfl
 rw [← hd] at hloop
 simp only [Efr,bX,bT,zeroI,newT,List.map_nil,zc0,zd1,Nat.add_zero] at hloop
 generalize dTs (newT k vs.length)=nt at *
 generalize dPs (ps.map (putP vs (newT k vs.length)))=np at *
 rw [dT_eq (subT vs _ t)] at e1 ⊢
 rw [zbe (af:=a_145) h3 rfl rfl]
 simp only [cT] at e1 ⊢
 simp only [a_145,sA,seval,kn,zeroI,lit1,lit2,lit3,lit4,lit5,lit6,lit7,lit8,o1,o2,o3,o4,hks,hln,hloop,e1,e2]
end Go.Fu

/-
 Core,combinators,instructions as data.
-/
import Derived.Test.YtldfbnbckiifeaaGreatDoorFgIds
import Derived.Test.YtldfbnbckiifeaaGreatDoorMyHas
import Derived.Test.YtldfbnbckiifeaaGreatDoorFgLib
set_option maxHeartbeats 4000000
set_option linter.unusedSimpArgs false
set_option linter.unusedVariables false
set_option linter.unusedSectionVars false
set_option linter.defProp false
namespace Go.Fu
open Go Go.Mx
set_option maxRecDepth 10000
abbrev Tx:=List UInt8
def dSs (l:List Tx):D:=dlist k_0 (l.map D.str)
structure Hd where
 form:Int
 num:Int
 name:Tx
 vars:List Tx
inductive Co where
 | mk (f n:Int) (s:Tx) (ks:List Co) (bs:List (Tx × Co)) (al:List (Hd × Co))
namespace Co
def f:Co→Int
 | .mk f _ _ _ _ _=>f
def n:Co→Int
 | .mk _ n _ _ _ _=>n
def s:Co→Tx
 | .mk _ _ s _ _ _=>s
def ks:Co→List Co
 | .mk _ _ _ ks _ _=>ks
def bs:Co→List (Tx × Co)
 | .mk _ _ _ _ bs _=>bs
def al:Co→List (Hd × Co)
 | .mk _ _ _ _ _ al=>al
end Co
mutual
def dCo:Co→D
 | .mk f n s ks bs al=>.agg [.int .i64 f,.int .i64 n,.str s,.int .i64 0,.int .i64 0,.str [],.nils,dlist k_2 (dKs ks),dlist k_3 (dBs bs),dlist k_4 (dAs al)]
def dKs:List Co→List D
 | []=>[]
 | c :: r=>dCo c :: dKs r
def dBs:List (Tx × Co)→List D
 | []=>[]
 | (s,c) :: r=>.agg (.str s :: .int .i64 0 :: .int .i64 0 :: .str [] :: .nils :: (dCo c).cells) :: dBs r
def dAs:List (Hd × Co)→List D
 | []=>[]
 | (h,c) :: r=>.agg (.int .i64 h.form :: .int .i64 h.num :: .str h.name :: dSs h.vars :: (dCo c).cells) :: dAs r
end
def dB (b:Tx × Co):D:=.agg (.str b.1 :: .int .i64 0 :: .int .i64 0 :: .str [] :: .nils :: (dCo b.2).cells)
def dA (a:Hd × Co):D:=.agg (.int .i64 a.1.form :: .int .i64 a.1.num :: .str a.1.name :: dSs a.1.vars :: (dCo a.2).cells)
theorem zckb:∀ l:List Co,dKs l=l.map dCo
 | []=>by simp [dKs]
 | c :: r=>by simp [dKs,zckb r]
theorem zchb:∀ l:List (Tx × Co),dBs l=l.map dB
 | []=>by simp [dBs]
 | (s,c) :: r=>by simp [dBs,zchb r,dB]
theorem ztv:∀ l:List (Hd × Co),dAs l=l.map dA
 | []=>by simp [dAs]
 | (s,c) :: r=>by simp [dAs,ztv r,dA]
def cCo (c:Co):List D:=[.int .i64 c.f,.int .i64 c.n,.str c.s,.int .i64 0,.int .i64 0,.str [],.nils,dlist k_2 (c.ks.map dCo),dlist k_3 (c.bs.map dB),dlist k_4 (c.al.map dA)]
theorem za1 (c:Co):dCo c=.agg (cCo c):=by
 cases c
 simp only [dCo,cCo,Co.f,Co.n,Co.s,Co.ks,Co.bs,Co.al,zckb,zchb,ztv]
theorem zd9 (c:Co):(dCo c).cells=cCo c:=by rw [za1]; rfl
theorem zdc (c:Co):(dCo c).cells.length=10:=by rw [zd9]; rfl
theorem agg?_dCo (c:Co):(dCo c).agg?=some (cCo c):=by rw [za1]; rfl
theorem zkh (c:Co):(dCo c).ok=true:=by
 rw [za1]
 simp only [cCo,D.ok,List.all_cons,D.one,zaz,List.all_nil,Bool.and_self]
theorem dB_eq (b:Tx × Co):dB b=.agg (.str b.1 :: .int .i64 0 :: .int .i64 0 :: .str [] :: .nils :: cCo b.2):=by rw [dB,zd9]
theorem dA_eq (a:Hd × Co):dA a=.agg (.int .i64 a.1.form :: .int .i64 a.1.num :: .str a.1.name :: dSs a.1.vars :: cCo a.2):=by rw [dA,zd9]
theorem ok_dB (b:Tx × Co):(dB b).ok=true:=by
 rw [dB_eq]
 simp only [cCo,D.ok,List.all_cons,D.one,zaz,List.all_nil,Bool.and_self]
theorem ok_dA (b:Hd × Co):(dA b).ok=true:=by
 rw [dA_eq]
 simp only [cCo,dSs,D.ok,List.all_cons,D.one,zaz,List.all_nil,Bool.and_self]
theorem zgy (b:Tx × Co):(dB b).cells.length=15:=by rw [dB_eq]; rfl
theorem zh0 (b:Hd × Co):(dA b).cells.length=14:=by rw [dA_eq]; rfl
theorem zea {k:RowK}:∀ {a b:List D},dlist k a=dlist k b→a=b
 | [],[],_=>rfl
 | [],_ :: _,h=>by cases h
 | _ :: _,[],h=>by cases h
 | x :: a,y :: b,h=>by
  simp only [dlist,D.list.injEq,true_and] at h
  exact h
theorem zgj {α:Type} {g:α→D} (hg:∀ {a b},g a=g b→a=b):∀ {l m:List α},l.map g=m.map g→l=m
 | [],[],_=>rfl
 | [],_ :: _,h=>by simp at h
 | _ :: _,[],h=>by simp at h
 | x :: l,y :: m,h=>by
  simp only [List.map_cons,List.cons.injEq] at h
  rw [hg h.1,zgj hg h.2]
theorem zn9b {a b:Tx} (h:D.str a=D.str b):a=b:=by cases h; rfl
theorem zcy {a b:List Tx} (h:dSs a=dSs b):a=b:=zgj zn9b (zea h)
mutual
theorem zg4:∀ {a b:Co},dCo a=dCo b→a=b
 | .mk f n s ks bs al,.mk f2 n2 s2 ks2 bs2 al2,h=>by
  simp only [dCo,D.agg.injEq,List.cons.injEq,D.int.injEq,D.str.injEq,and_true,true_and] at h
  obtain ⟨rfl,rfl,rfl,h1,h2,h3⟩:=h
  rw [zcjb (zea h1),zcgb (zea h2),zcfb (zea h3)]
theorem zcjb:∀ {a b:List Co},dKs a=dKs b→a=b
 | [],[],_=>rfl
 | [],_ :: _,h=>by simp [dKs] at h
 | _ :: _,[],h=>by simp [dKs] at h
 | x :: l,y :: m,h=>by
  simp only [dKs,List.cons.injEq] at h
  rw [zg4 h.1,zcjb h.2]
theorem zcgb:∀ {a b:List (Tx × Co)},dBs a=dBs b→a=b
 | [],[],_=>rfl
 | [],_ :: _,h=>by simp [dBs] at h
 | _ :: _,[],h=>by simp [dBs] at h
 | (s,x) :: l,(t,y) :: m,h=>by
  simp only [dBs,List.cons.injEq,D.agg.injEq,D.str.injEq,true_and] at h
  have hx:dCo x=dCo y:=by rw [za1,za1,← zd9 x,← zd9 y,h.1.2]
  rw [zg4 hx,zcgb h.2,h.1.1]
theorem zcfb:∀ {a b:List (Hd × Co)},dAs a=dAs b→a=b
 | [],[],_=>rfl
 | [],_ :: _,h=>by simp [dAs] at h
 | _ :: _,[],h=>by simp [dAs] at h
 | (s,x) :: l,(t,y) :: m,h=>by
  simp only [dAs,List.cons.injEq,D.agg.injEq,D.str.injEq,D.int.injEq,true_and] at h
  obtain ⟨⟨h1,h2,h3,h4,h5⟩,h6⟩:=h
  have hx:dCo x=dCo y:=by rw [za1,za1,← zd9 x,← zd9 y,h5]
  have hs:s=t:=by
   cases s; cases t
   simp only at h1 h2 h3 h4
   rw [h1,h2,h3,zcy h4]
  rw [zg4 hx,zcfb h6,hs]
end
structure In where
 op:Tx
 n:Int
 m:Int
 name:Tx
def dI (i:In):D:=.agg [.str i.op,.int .i64 i.n,.int .i64 i.m,.str i.name]
theorem zozb {a b:In} (h:dI a=dI b):a=b:=by
 cases a; cases b
 simpa [dI] using h
def dIs (l:List In):D:=dlist k_1 (l.map dI)
structure Cd where
 name:Tx
 arity:Int
 body:List In
def dD (c:Cd):D:=.agg [.str c.name,.int .i64 c.arity,dIs c.body]
def dDs (l:List Cd):D:=dlist k_15 (l.map dD)
structure Su where
 name:Tx
 ps:List Tx
 body:Co
def dU (s:Su):D:=.agg (.str s.name :: dSs s.ps :: cCo s.body)
def dUs (l:List Su):D:=dlist k_5 (l.map dU)
theorem zou {a b:Su} (h:dU a=dU b):a=b:=by
 obtain ⟨n,p,c⟩:=a
 obtain ⟨n2,p2,c2⟩:=b
 simp only [dU,D.agg.injEq,List.cons.injEq,D.str.injEq] at h
 obtain ⟨rfl,h2,h3⟩:=h
 have hx:dCo c=dCo c2:=by rw [za1,za1,h3]
 rw [zcy h2,zg4 hx]
theorem zclb {a b:List Su} (h:dUs a=dUs b):a=b:=zgj zou (zea h)
structure Fd where
 name:Tx
 tag:Int
 many:Int
 arity:Int
def dF (f:Fd):D:=.agg [.str f.name,.int .i64 f.tag,.int .i64 f.many,.int .i64 f.arity,.int .i64 0,.int .i64 0,.str [],.nils]
def dFs (l:List Fd):D:=dlist k_98 (l.map dF)
theorem zdg {k:RowK}:∀ l:List D,noPtr (dlist k l)=zam l
 | []=>rfl
 | x :: l=>rfl
theorem zc6 {α:Type} {g:α→D} (h:∀ a,noPtr (g a)=true):∀ l:List α,zam (l.map g)=true
 | []=>rfl
 | x :: l=>by simp [zam,h x,zc6 h l]
theorem za6 (l:List Tx):noPtr (dSs l)=true:=by rw [dSs,zdg]; exact zc6 (fun _=>rfl) l
mutual
theorem zcv:∀ c:Co,noPtr (dCo c)=true
 | .mk f n s ks bs al=>by simp [dCo,noPtr,zam,zdg,zvd ks,zvb bs,zpc al]
theorem zvd:∀ l:List Co,zam (dKs l)=true
 | []=>by simp [dKs,zam]
 | c :: r=>by simp [dKs,zam,zcv c,zvd r]
theorem zvb:∀ l:List (Tx × Co),zam (dBs l)=true
 | []=>by simp [dBs,zam]
 | (s,c) :: r=>by
  have h:=zcv c
  rw [za1] at h
  simp only [noPtr] at h
  simp [dBs,zam,noPtr,zvb r,zd9,h]
theorem zpc:∀ l:List (Hd × Co),zam (dAs l)=true
 | []=>by simp [dAs,zam]
 | (s,c) :: r=>by
  have h:=zcv c
  rw [za1] at h
  simp only [noPtr] at h
  simp [dAs,zam,noPtr,zpc r,zd9,h,za6]
end
theorem zpb (c:Co):zam (cCo c)=true:=by
 have h:=zcv c
 rw [za1] at h
 simpa only [noPtr] using h
theorem zhzb (l:List In):noPtr (dIs l)=true:=by rw [dIs,zdg]; exact zc6 (fun _=>rfl) l
theorem zyj (c:Cd):noPtr (dD c)=true:=by simp [dD,noPtr,zam,zhzb]
theorem zvc (l:List Cd):noPtr (dDs l)=true:=by rw [dDs,zdg]; exact zc6 zyj l
theorem znj (s:Su):noPtr (dU s)=true:=by simp [dU,noPtr,zam,za6,zpb]
theorem zhc (l:List Su):noPtr (dUs l)=true:=by rw [dUs,zdg]; exact zc6 znj l
theorem zpd (l:List Fd):noPtr (dFs l)=true:=by rw [dFs,zdg]; exact zc6 (fun _=>rfl) l
end Go.Fu
namespace Go.Fu
open Go Go.Mx
set_option maxRecDepth 1000000
theorem zmu:zc4 Go.Proofs.Tryz.prog κ Xa:=by
 intro f ds σ out σ' h
 unfold Xa at h
 by_cases h1:f=n_21
 ·subst h1
  simp only [beq_self_eq_true,zab] at h
  obtain ⟨d,h2,h⟩:=zaa h
  cases h
  exact zlsb h2 σ
 have e1:(f == n_21)=false:=by simpa using h1
 rw [e1,zad] at h
 by_cases h2:f=n_36
 ·subst h2
  simp only [beq_self_eq_true,zab] at h
  exact zlrb h
 have e2:(f == n_36)=false:=by simpa using h2
 rw [e2,zad] at h
 by_cases h3:f=n_61
 ·subst h3
  simp only [beq_self_eq_true,zab] at h
  exact zf0b h
 have e3:(f == n_61)=false:=by simpa using h3
 rw [e3,zad] at h
 cases h
abbrev OkP (f:FuncId) (ds:List D) (c:Cell):Prop:=Pure Go.Proofs.Tryz.prog κ f ds c
noncomputable def T (S:Specs) (n:Nat):CallF:=runS Go.Proofs.Tryz.prog κ Γa Ra Xa S n
noncomputable def TD (S:Specs) (n:Nat):CallF:=runSD Go.Proofs.Tryz.prog κ Γa Ra Xa S n
theorem zb5 (S:Specs) (n:Nat):zc4 Go.Proofs.Tryz.prog κ (T S n):=(zn0 Γa_holds zf1 zmu n).1
theorem T_fun {S:Specs} {n:Nat} {f:FuncId} {af:AFun} {ds:List D} {σ:Store} (hs:has S f=false) (h:Γa f=some af) (hl:ds.length=af.nargs):T S (n + 1) f ds σ=finX Ra (TD S n) af σ.next (exec (T S n) n none af.body (zb1 ds) σ):=zrv hs h hl
theorem T_lib {S:Specs} {n:Nat} {f:FuncId} {ds:List D} {σ:Store} (hs:has S f=false) (h:Γa f=none) (hY:isY f=false):T S (n + 1) f ds σ=Xa f ds σ:=zrw hs h hY
theorem T_orc {S:Specs} {f:FuncId} {s:List D→Cell→Prop} {ds:List D} {c:Cell} (hf:aget S f=some s) (hY:isY f=false) (hs:s ds c) (hp:OkP f ds c):∃ c',s ds c'∧∀ n σ,T S (n + 1) f ds σ=some (.ret c',σ):=zy2 hf hY hs hp
theorem zbv {C:CallF} {n:Nat} {f:FuncId} {af:AFun} {ds:List D} {c:Cell} {σ':Store} (hC:zc4 Go.Proofs.Tryz.prog κ C) (h:Γa f=some af) (hl:ds.length=af.nargs) (hd:zam ds=true) (hc:noPtr c.d=true)
  (hr:finX Ra (fun _ _ _=>none) af 0 (exec C n none af.body (zb1 ds) σ0)=some (.ret c,σ')):OkP f ds c:=by
 obtain ⟨hY,fn,hfn,hok⟩:=Γa_holds f af h
 refine zlv hC zf1 hY hfn hok hl hd hc (n:=n) (σ':=σ') ?_
 unfold finX at hr
 exact hr
theorem OkP.weak {f:FuncId} {ds:List D} {o:Bool} {d:D} (hY:isY f=false) (h:OkP f ds ⟨o,d⟩):OkP f ds ⟨false,d⟩:=Pure.weak hY h
theorem zenb:zhwb 60 n_69=true:=by kernel_rfl
theorem zkib:OkP n_69 [] ⟨false,.bool true⟩:=by
 intro σ
 have h:=zenb
 unfold zhwb at h
 split at h
 ·rename_i s hx
  exact zm9 rfl ((zle Γa_holds zf1 zmu 60).1 _ [] σ0 _ _ hx) rfl rfl σ
 ·cases h
theorem zc1 {n:Int} (h1:-9223372036854775808≤n) (h2:n≤9223372036854775807):IntKind.i64.wrap n=n:=by
 simp [IntKind.wrap,IntKind.bits,IntKind.signed]
 omega
theorem zak {i:Nat} (h:i < 1099511627776):IntKind.i64.wrap ((i:Int) + 1)=((i + 1:Nat):Int):=by
 rw [zc1 (by omega) (by omega)]
 rfl
def Small (x:Int):Prop:=-9223372036854775808≤x∧x≤9223372036854775807
theorem ztc (x:Int):Small (IntKind.i64.wrap x):=by
 simp [Small,IntKind.wrap,IntKind.bits,IntKind.signed]
 omega
theorem nat1 {k:IntKind}:D.nat? (.int k 1)=some 1:=rfl
theorem nat2 {k:IntKind}:D.nat? (.int k 2)=some 2:=rfl
theorem nat3 {k:IntKind}:D.nat? (.int k 3)=some 3:=rfl
theorem nat4 {k:IntKind}:D.nat? (.int k 4)=some 4:=rfl
theorem nat5 {k:IntKind}:D.nat? (.int k 5)=some 5:=rfl
theorem nat6 {k:IntKind}:D.nat? (.int k 6)=some 6:=rfl
theorem nat7 {k:IntKind}:D.nat? (.int k 7)=some 7:=rfl
theorem nat8 {k:IntKind}:D.nat? (.int k 8)=some 8:=rfl
theorem nat0 {k:IntKind}:D.nat? (.int k 0)=some 0:=rfl
theorem natI (n:Nat) {k:IntKind}:D.nat? (.int k (n:Int))=some n:=by
 simp only [D.nat?]
 have:(0:Int)≤(n:Int):=by omega
 rw [decide_eq_true this]
 rfl
theorem idxL {sz n:Nat} {k:RowK} {es:List D}:zbj sz (.list k es) n=ifB (k.sz == sz) (bindO (nth es n) fun d=>some (.eptr d)) none:=rfl
theorem zeroI:((0:Nat):Int)=0:=rfl
theorem oneI:((1:Nat):Int)=1:=rfl
theorem zb3 {α:Type} (l:List α) (i:Nat) (h:i < l.length):l.take i ++ [l[i]]=l.take (i + 1):=by
 rw [List.take_add_one,List.getElem?_eq_getElem h]
 simp
def ow:Nat→Bool
 | 0=>false
 | _ + 1=>true
theorem ow_ne {α:Type} {l:List α} {i:Nat}:l.take i≠[]→ow i=true:=by
 cases i with
 | zero=>intro h; simp at h
 | succ i=>intro _; rfl
theorem zdx {i:Nat}:ow (i + 1)=true:=rfl
theorem zjs:ow 0=false:=rfl
theorem zdv {α:Type} {k:RowK} {sz:Nat} (hs:k.sz=sz) (f:α→D) (l:List α) (i:Nat) (h:i < l.length):zbj sz (dlist k (l.map f)) i=some (.eptr (f l[i])):=by
 have hn:nth (l.map f) i=some (f l[i]):=by rw [zl6,zl5 _ _ h]; rfl
 cases l with
 | nil=>simp at h
 | cons x r =>
  simp only [List.map_cons,dlist,zbj,hs,beq_self_eq_true,zab] at hn ⊢
  rw [hn]
  rfl
theorem idx_S (l:List Tx) (i:Nat) (h:i < l.length):zbj 1 (dSs l) i=some (.eptr (.str l[i])):=zdv rfl _ _ _ h
theorem zdw {α:Type} {k:RowK} (f:α→D) (l:List α):lenOf (dlist k (l.map f))=some l.length:=by
 cases l with
 | nil=>rfl
 | cons x r=>simp [dlist,lenOf]
theorem len_S (l:List Tx):lenOf (dSs l)=some l.length:=zdw _ l
theorem zge {α:Type} {k:RowK} {by_:Nat} {f:α→D} (hok:∀ a,(f a).ok=true) (hsz:∀ a,(f a).cells.length=k.sz) (hb:by_≤1024) (l:List α) (v:α) (o:Bool) (ho:l≠[]→o=true) (hl:l.length < 1000000000):za4 k by_ ⟨o,dlist k (l.map f)⟩ [f v]=some ⟨true,dlist k ((l ++ [v]).map f)⟩:=by
 have h1:(l.length + 1) * by_≤1000000000 * 1024:=Nat.mul_le_mul (by omega) hb
 rw [zdgb (fun h=>ho (by simpa using h)) (hok _) (hsz _) (by simp [bound]; omega) (by simp [bound]; omega)]
 simp
theorem zhx (l:List Tx) (v:Tx) (o:Bool) (ho:l≠[]→o=true) (hl:l.length < 1000000000):za4 k_0 16 ⟨o,dSs l⟩ [.str v]=some ⟨true,dSs (l ++ [v])⟩:=zge (fun _=>rfl) (fun _=>rfl) (by omega) l v o ho hl
theorem zbn {body:Env→Store→XRes} {n:Nat} {e:Env} {σ:Store} {e':Env} {σ':Store} (h:body e σ=some (.normal,e',σ')):loopN body (n + 1) e σ=loopN body n e' σ':=by rw [loopN,h]
theorem zcr {body:Env→Store→XRes} {n:Nat} {e:Env} {σ:Store} {e':Env} {σ':Store} {i:Nat} (h:body e σ=some (.exit i,e',σ')):loopN body (n + 1) e σ=some (.exit i,e',σ'):=by rw [loopN,h]
theorem zu7 {body:Env→Store→XRes} {n:Nat} {e:Env} {σ:Store} {e':Env} {σ':Store} (h:body e σ=some (.ret,e',σ')):loopN body (n + 1) e σ=some (.ret,e',σ'):=by rw [loopN,h]
theorem kk:k_34.sz=1∧k_34.ag=false∧k_34.same k_34=true∧k_4.sz=14∧k_4.ag=true∧k_4.same k_4=true∧k_3.sz=15∧k_3.ag=true∧k_3.same k_3=true∧k_15.sz=3∧k_15.ag=true∧k_15.same k_15=true∧k_2.sz=10∧k_2.ag=true∧k_2.same k_2=true∧k_98.sz=8∧k_98.ag=true∧k_98.same k_98=true∧k_1.sz=4∧k_1.ag=true∧k_1.same k_1=true∧k_5.sz=12∧k_5.ag=true∧k_5.same k_5=true∧k_99.sz=4∧k_99.ag=true∧k_99.same k_99=true∧zbf.sz=1∧zbf.ag=false∧zbf.same zbf=true∧k_int.sz=1∧k_int.ag=false∧k_int.same k_int=true∧k_0.sz=1∧k_0.ag=false∧k_0.same k_0=true∧k_12.sz=1∧k_12.ag=false∧k_12.same k_12=true:=⟨rfl,rfl,rfl,rfl,rfl,rfl,rfl,rfl,rfl,rfl,rfl,rfl,rfl,rfl,rfl,rfl,rfl,rfl,rfl,rfl,rfl,rfl,rfl,rfl,rfl,rfl,rfl,rfl,rfl,rfl,rfl,rfl,rfl,rfl,rfl,rfl,rfl,rfl,rfl⟩
set_option linter.defProp false in
def kn:=And.intro kk (And.intro @nat1 (And.intro @nat2 (And.intro @nat3 (And.intro @nat4 (And.intro @nat5 (And.intro @nat6 (And.intro @nat7 (And.intro @nat8 (And.intro @rg.eq_1 (And.intro @sq.eq_1 (And.intro @ml.eq_1 (And.intro @mf.eq_1 (And.intro @ci.eq_1 @idxL)))))))))))))
end Go.Fu

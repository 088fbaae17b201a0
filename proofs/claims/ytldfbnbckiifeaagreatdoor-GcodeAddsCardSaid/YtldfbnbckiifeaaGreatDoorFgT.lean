/-
 Core,combinators,instructions as data.
-/
import Derived.Test.YtldfbnbckiifeaaGreatDoorFgIds
import Derived.Test.YtldfbnbckiifeaaGreatDoorMyHas
import Derived.Test.YtldfbnbckiifeaaGreatDoorFgLib
set_option maxHeartbeats 4000000
set_option linter.unusedSimpArgs false
set_option linter.unusedVariables false
set_option linter.unusedSectionVars false
set_option linter.defProp false
namespace Go.Fu
open Go Go.Mx
set_option maxRecDepth 10000
abbrev Tx:=List UInt8
def dSs (l:List Tx):D:=bE k_0 (l.map D.str)
structure Hd where
 form:Int
 num:Int
 name:Tx
 vars:List Tx
inductive Co where
 | mk (f n:Int) (s:Tx) (ks:List Co) (bs:List (Tx × Co)) (al:List (Hd × Co))
namespace Co
def f:Co→Int
 | .mk f _ _ _ _ _=>f
def n:Co→Int
 | .mk _ n _ _ _ _=>n
def s:Co→Tx
 | .mk _ _ s _ _ _=>s
def ks:Co→List Co
 | .mk _ _ _ ks _ _=>ks
def bs:Co→List (Tx × Co)
 | .mk _ _ _ _ bs _=>bs
def al:Co→List (Hd × Co)
 | .mk _ _ _ _ _ al=>al
end Co
mutual
def dCo:Co→D
 | .mk f n s ks bs al=>.agg [.int .i64 f,.int .i64 n,.str s,.int .i64 0,.int .i64 0,.str [],.nils,bE k_2 (dKs ks),bE k_3 (dBs bs),bE k_4 (dAs al)]
def dKs:List Co→List D
 | []=>[]
 | c :: r=>dCo c :: dKs r
def dBs:List (Tx × Co)→List D
 | []=>[]
 | (s,c) :: r=>.agg (.str s :: .int .i64 0 :: .int .i64 0 :: .str [] :: .nils :: (dCo c).cells) :: dBs r
def dAs:List (Hd × Co)→List D
 | []=>[]
 | (h,c) :: r=>.agg (.int .i64 h.form :: .int .i64 h.num :: .str h.name :: dSs h.vars :: (dCo c).cells) :: dAs r
end
def dB (b:Tx × Co):D:=.agg (.str b.1 :: .int .i64 0 :: .int .i64 0 :: .str [] :: .nils :: (dCo b.2).cells)
def dA (a:Hd × Co):D:=.agg (.int .i64 a.1.form :: .int .i64 a.1.num :: .str a.1.name :: dSs a.1.vars :: (dCo a.2).cells)
theorem zlm:∀ l:List Co,dKs l=l.map dCo
 | []=>by simp [dKs]
 | c :: r=>by simp [dKs,zlm r]
theorem zlj:∀ l:List (Tx × Co),dBs l=l.map dB
 | []=>by simp [dBs]
 | (s,c) :: r=>by simp [dBs,zlj r,dB]
theorem Zq:∀ l:List (Hd × Co),dAs l=l.map dA
 | []=>by simp [dAs]
 | (s,c) :: r=>by simp [dAs,Zq r,dA]
def cCo (c:Co):List D:=[.int .i64 c.f,.int .i64 c.n,.str c.s,.int .i64 0,.int .i64 0,.str [],.nils,bE k_2 (c.ks.map dCo),bE k_3 (c.bs.map dB),bE k_4 (c.al.map dA)]
theorem cH (c:Co):dCo c=.agg (cCo c):=by
 cases c
 simp only [dCo,cCo,Co.f,Co.n,Co.s,Co.ks,Co.bs,Co.al,zlm,zlj,Zq]
theorem lG (c:Co):(dCo c).cells=cCo c:=by rw [cH]; rfl
theorem iY (c:Co):(dCo c).cells.length=10:=by rw [lG]; rfl
theorem agg?_dCo (c:Co):(dCo c).agg?=some (cCo c):=by rw [cH]; rfl
theorem yT (c:Co):(dCo c).ok=true:=by
 rw [cH]
 simp only [cCo,D.ok,List.all_cons,D.one,bZ,List.all_nil,Bool.and_self]
theorem uS (b:Tx × Co):dB b=.agg (.str b.1 :: .int .i64 0 :: .int .i64 0 :: .str [] :: .nils :: cCo b.2):=by rw [dB,lG]
theorem zem (a:Hd × Co):dA a=.agg (.int .i64 a.1.form :: .int .i64 a.1.num :: .str a.1.name :: dSs a.1.vars :: cCo a.2):=by rw [dA,lG]
theorem zxn (b:Tx × Co):(dB b).ok=true:=by
 rw [uS]
 simp only [cCo,D.ok,List.all_cons,D.one,bZ,List.all_nil,Bool.and_self]
theorem zxm (b:Hd × Co):(dA b).ok=true:=by
 rw [zem]
 simp only [cCo,dSs,D.ok,List.all_cons,D.one,bZ,List.all_nil,Bool.and_self]
theorem rK (b:Tx × Co):(dB b).cells.length=15:=by rw [uS]; rfl
theorem tW (b:Hd × Co):(dA b).cells.length=14:=by rw [zem]; rfl
theorem lH {k:RowK}:∀ {a b:List D},bE k a=bE k b→a=b
 | [],[],_=>rfl
 | [],_ :: _,h=>by cases h
 | _ :: _,[],h=>by cases h
 | x :: a,y :: b,h=>by
  simp only [bE,D.list.injEq,true_and] at h
  exact h
theorem qL {α:Type} {g:α→D} (hg:∀ {a b},g a=g b→a=b):∀ {l m:List α},l.map g=m.map g→l=m
 | [],[],_=>rfl
 | [],_ :: _,h=>by simp at h
 | _ :: _,[],h=>by simp at h
 | x :: l,y :: m,h=>by
  simp only [List.map_cons,List.cons.injEq] at h
  rw [hg h.1,qL hg h.2]
theorem zaeb {a b:Tx} (h:D.str a=D.str b):a=b:=by cases h; rfl
theorem iH {a b:List Tx} (h:dSs a=dSs b):a=b:=qL zaeb (lH h)
mutual
theorem rX:∀ {a b:Co},dCo a=dCo b→a=b
 | .mk f n s ks bs al,.mk f2 n2 s2 ks2 bs2 al2,h=>by
  simp only [dCo,D.agg.injEq,List.cons.injEq,D.int.injEq,D.str.injEq,and_true,true_and] at h
  obtain ⟨rfl,rfl,rfl,h1,h2,h3⟩:=h
  rw [zll (lH h1),zli (lH h2),zlh (lH h3)]
theorem zll:∀ {a b:List Co},dKs a=dKs b→a=b
 | [],[],_=>rfl
 | [],_ :: _,h=>by simp [dKs] at h
 | _ :: _,[],h=>by simp [dKs] at h
 | x :: l,y :: m,h=>by
  simp only [dKs,List.cons.injEq] at h
  rw [rX h.1,zll h.2]
theorem zli:∀ {a b:List (Tx × Co)},dBs a=dBs b→a=b
 | [],[],_=>rfl
 | [],_ :: _,h=>by simp [dBs] at h
 | _ :: _,[],h=>by simp [dBs] at h
 | (s,x) :: l,(t,y) :: m,h=>by
  simp only [dBs,List.cons.injEq,D.agg.injEq,D.str.injEq,true_and] at h
  have hx:dCo x=dCo y:=by rw [cH,cH,← lG x,← lG y,h.1.2]
  rw [rX hx,zli h.2,h.1.1]
theorem zlh:∀ {a b:List (Hd × Co)},dAs a=dAs b→a=b
 | [],[],_=>rfl
 | [],_ :: _,h=>by simp [dAs] at h
 | _ :: _,[],h=>by simp [dAs] at h
 | (s,x) :: l,(t,y) :: m,h=>by
  simp only [dAs,List.cons.injEq,D.agg.injEq,D.str.injEq,D.int.injEq,true_and] at h
  obtain ⟨⟨h1,h2,h3,h4,h5⟩,h6⟩:=h
  have hx:dCo x=dCo y:=by rw [cH,cH,← lG x,← lG y,h5]
  have hs:s=t:=by
   cases s; cases t
   simp only at h1 h2 h3 h4
   rw [h1,h2,h3,iH h4]
  rw [rX hx,zlh h6,hs]
end
structure In where
 op:Tx
 n:Int
 m:Int
 name:Tx
def dI (i:In):D:=.agg [.str i.op,.int .i64 i.n,.int .i64 i.m,.str i.name]
theorem za7b {a b:In} (h:dI a=dI b):a=b:=by
 cases a; cases b
 simpa [dI] using h
def dIs (l:List In):D:=bE k_1 (l.map dI)
structure Cd where
 name:Tx
 arity:Int
 body:List In
def dD (c:Cd):D:=.agg [.str c.name,.int .i64 c.arity,dIs c.body]
def dDs (l:List Cd):D:=bE pA (l.map dD)
structure Su where
 name:Tx
 ps:List Tx
 body:Co
def dU (s:Su):D:=.agg (.str s.name :: dSs s.ps :: cCo s.body)
def dUs (l:List Su):D:=bE k_5 (l.map dU)
theorem Jt {a b:Su} (h:dU a=dU b):a=b:=by
 obtain ⟨n,p,c⟩:=a
 obtain ⟨n2,p2,c2⟩:=b
 simp only [dU,D.agg.injEq,List.cons.injEq,D.str.injEq] at h
 obtain ⟨rfl,h2,h3⟩:=h
 have hx:dCo c=dCo c2:=by rw [cH,cH,h3]
 rw [iH h2,rX hx]
theorem zln {a b:List Su} (h:dUs a=dUs b):a=b:=qL Jt (lH h)
structure Fd where
 name:Tx
 tag:Int
 many:Int
 arity:Int
def dF (f:Fd):D:=.agg [.str f.name,.int .i64 f.tag,.int .i64 f.many,.int .i64 f.arity,.int .i64 0,.int .i64 0,.str [],.nils]
def dFs (l:List Fd):D:=bE zac (l.map dF)
theorem jE {k:RowK}:∀ l:List D,bS (bE k l)=aX l
 | []=>rfl
 | x :: l=>rfl
theorem iR {α:Type} {g:α→D} (h:∀ a,bS (g a)=true):∀ l:List α,aX (l.map g)=true
 | []=>rfl
 | x :: l=>by simp [aX,h x,iR h l]
theorem cQ (l:List Tx):bS (dSs l)=true:=by rw [dSs,jE]; exact iR (fun _=>rfl) l
mutual
theorem iE:∀ c:Co,bS (dCo c)=true
 | .mk f n s ks bs al=>by simp [dCo,bS,aX,jE,zbq ks,zbp bs,Ln al]
theorem zbq:∀ l:List Co,aX (dKs l)=true
 | []=>by simp [dKs,aX]
 | c :: r=>by simp [dKs,aX,iE c,zbq r]
theorem zbp:∀ l:List (Tx × Co),aX (dBs l)=true
 | []=>by simp [dBs,aX]
 | (s,c) :: r=>by
  have h:=iE c
  rw [cH] at h
  simp only [bS] at h
  simp [dBs,aX,bS,zbp r,lG,h]
theorem Ln:∀ l:List (Hd × Co),aX (dAs l)=true
 | []=>by simp [dAs,aX]
 | (s,c) :: r=>by
  have h:=iE c
  rw [cH] at h
  simp only [bS] at h
  simp [dAs,aX,bS,Ln r,lG,h,cQ]
end
theorem Lm (c:Co):aX (cCo c)=true:=by
 have h:=iE c
 rw [cH] at h
 simpa only [bS] using h
theorem zr0 (l:List In):bS (dIs l)=true:=by rw [dIs,jE]; exact iR (fun _=>rfl) l
theorem zhi (c:Cd):bS (dD c)=true:=by simp [dD,bS,aX,zr0]
theorem Lo (l:List Cd):bS (dDs l)=true:=by rw [dDs,jE]; exact iR zhi l
theorem Gv (s:Su):bS (dU s)=true:=by simp [dU,bS,aX,cQ,Lm]
theorem sG (l:List Su):bS (dUs l)=true:=by rw [dUs,jE]; exact iR Gv l
theorem Lp (l:List Fd):bS (dFs l)=true:=by rw [dFs,jE]; exact iR (fun _=>rfl) l
end Go.Fu
namespace Go.Fu
open Go Go.Mx
set_option maxRecDepth 1000000
theorem Ei:iO Go.Proofs.Tryz.prog κ Xa:=by
 intro f ds σ out σ' h
 unfold Xa at h
 by_cases h1:f=rQ
 ·subst h1
  simp only [beq_self_eq_true,aE] at h
  obtain ⟨d,h2,h⟩:=aA h
  cases h
  exact zv8 h2 σ
 have e1:(f == rQ)=false:=by simpa using h1
 rw [e1,aG] at h
 by_cases h2:f=wH
 ·subst h2
  simp only [beq_self_eq_true,aE] at h
  exact zv7 h
 have e2:(f == wH)=false:=by simpa using h2
 rw [e2,aG] at h
 by_cases h3:f=Ll
 ·subst h3
  simp only [beq_self_eq_true,aE] at h
  exact zp1 h
 have e3:(f == Ll)=false:=by simpa using h3
 rw [e3,aG] at h
 cases h
abbrev OkP (f:FuncId) (ds:List D) (c:Cell):Prop:=Jg Go.Proofs.Tryz.prog κ f ds c
noncomputable def T (S:aV) (n:Nat):aM:=Hr Go.Proofs.Tryz.prog κ Γa Ra Xa S n
noncomputable def TD (S:aV) (n:Nat):aM:=Pe Go.Proofs.Tryz.prog κ Γa Ra Xa S n
theorem eR (S:aV) (n:Nat):iO Go.Proofs.Tryz.prog κ (T S n):=(Ht Γa_holds pN Ei n).1
theorem zml {S:aV} {n:Nat} {f:FuncId} {af:AFun} {ds:List D} {σ:Store} (hs:has S f=false) (h:Γa f=some af) (hl:ds.length=af.nargs):T S (n + 1) f ds σ=lP Ra (TD S n) af σ.next (exec (T S n) n none af.body (eT ds) σ):=Ua hs h hl
theorem zmm {S:aV} {n:Nat} {f:FuncId} {ds:List D} {σ:Store} (hs:has S f=false) (h:Γa f=none) (hY:isY f=false):T S (n + 1) f ds σ=Xa f ds σ:=Ub hs h hY
theorem kZ {S:aV} {f:FuncId} {s:List D→Cell→Prop} {ds:List D} {c:Cell} (hf:aB S f=some s) (hY:isY f=false) (hs:s ds c) (hp:OkP f ds c):∃ c',s ds c'∧∀ n σ,T S (n + 1) f ds σ=some (.ret c',σ):=zh1 hf hY hs hp
theorem eD {C:aM} {n:Nat} {f:FuncId} {af:AFun} {ds:List D} {c:Cell} {σ':Store} (hC:iO Go.Proofs.Tryz.prog κ C) (h:Γa f=some af) (hl:ds.length=af.nargs) (hd:aX ds=true) (hc:bS c.d=true)
  (hr:lP Ra (fun _ _ _=>none) af 0 (exec C n none af.body (eT ds) σ0)=some (.ret c,σ')):OkP f ds c:=by
 obtain ⟨hY,fn,hfn,hok⟩:=Γa_holds f af h
 refine Bv hC pN hY hfn hok hl hd hc (n:=n) (σ':=σ') ?_
 unfold lP at hr
 exact hr
theorem OkP.weak {f:FuncId} {ds:List D} {o:Bool} {d:D} (hY:isY f=false) (h:OkP f ds ⟨o,d⟩):OkP f ds ⟨false,d⟩:=Jg.weak hY h
theorem zn4:zrx 60 Wh=true:=by kernel_rfl
theorem zuq:OkP Wh [] ⟨false,.bool true⟩:=by
 intro σ
 have h:=zn4
 unfold zrx at h
 split at h
 ·rename_i s hx
  exact Fo rfl ((Ak Γa_holds pN Ei 60).1 _ [] σ0 _ _ hx) rfl rfl σ
 ·cases h
theorem iQ {n:Int} (h1:-9223372036854775808≤n) (h2:n≤9223372036854775807):IntKind.i64.wrap n=n:=by
 simp [IntKind.wrap,IntKind.bits,IntKind.signed]
 omega
theorem aR {i:Nat} (h:i < 1099511627776):IntKind.i64.wrap ((i:Int) + 1)=((i + 1:Nat):Int):=by
 rw [iQ (by omega) (by omega)]
 rfl
def Small (x:Int):Prop:=-9223372036854775808≤x∧x≤9223372036854775807
theorem Xt (x:Int):Small (IntKind.i64.wrap x):=by
 simp [Small,IntKind.wrap,IntKind.bits,IntKind.signed]
 omega
theorem zhd {k:IntKind}:D.nat? (.int k 1)=some 1:=rfl
theorem zhe {k:IntKind}:D.nat? (.int k 2)=some 2:=rfl
theorem nat3 {k:IntKind}:D.nat? (.int k 3)=some 3:=rfl
theorem nat4 {k:IntKind}:D.nat? (.int k 4)=some 4:=rfl
theorem nat5 {k:IntKind}:D.nat? (.int k 5)=some 5:=rfl
theorem nat6 {k:IntKind}:D.nat? (.int k 6)=some 6:=rfl
theorem nat7 {k:IntKind}:D.nat? (.int k 7)=some 7:=rfl
theorem nat8 {k:IntKind}:D.nat? (.int k 8)=some 8:=rfl
theorem zoj {k:IntKind}:D.nat? (.int k 0)=some 0:=rfl
theorem cL (n:Nat) {k:IntKind}:D.nat? (.int k (n:Int))=some n:=by
 simp only [D.nat?]
 have:(0:Int)≤(n:Int):=by omega
 rw [decide_eq_true this]
 rfl
theorem idxL {sz n:Nat} {k:RowK} {es:List D}:dC sz (.list k es) n=ifB (k.sz == sz) (aC (nth es n) fun d=>some (.eptr d)) none:=rfl
theorem bV:((0:Nat):Int)=0:=rfl
theorem zuz:((1:Nat):Int)=1:=rfl
theorem fL {α:Type} (l:List α) (i:Nat) (h:i < l.length):l.take i ++ [l[i]]=l.take (i + 1):=by
 rw [List.take_add_one,List.getElem?_eq_getElem h]
 simp
def ow:Nat→Bool
 | 0=>false
 | _ + 1=>true
theorem zxq {α:Type} {l:List α} {i:Nat}:l.take i≠[]→ow i=true:=by
 cases i with
 | zero=>intro h; simp at h
 | succ i=>intro _; rfl
theorem kP {i:Nat}:ow (i + 1)=true:=rfl
theorem xR:ow 0=false:=rfl
theorem jU {α:Type} {k:RowK} {sz:Nat} (hs:k.sz=sz) (f:α→D) (l:List α) (i:Nat) (h:i < l.length):dC sz (bE k (l.map f)) i=some (.eptr (f l[i])):=by
 have hn:nth (l.map f) i=some (f l[i]):=by rw [Dc,Db _ _ h]; rfl
 cases l with
 | nil=>simp at h
 | cons x r =>
  simp only [List.map_cons,bE,dC,hs,beq_self_eq_true,aE] at hn ⊢
  rw [hn]
  rfl
theorem uV (l:List Tx) (i:Nat) (h:i < l.length):dC 1 (dSs l) i=some (.eptr (.str l[i])):=jU rfl _ _ _ h
theorem jN {α:Type} {k:RowK} (f:α→D) (l:List α):lenOf (bE k (l.map f))=some l.length:=by
 cases l with
 | nil=>rfl
 | cons x r=>simp [bE,lenOf]
theorem nW (l:List Tx):lenOf (dSs l)=some l.length:=jN _ l
theorem qE {α:Type} {k:RowK} {by_:Nat} {f:α→D} (hok:∀ a,(f a).ok=true) (hsz:∀ a,(f a).cells.length=k.sz) (hb:by_≤1024) (l:List α) (v:α) (o:Bool) (ho:l≠[]→o=true) (hl:l.length < 1000000000):cK k by_ ⟨o,bE k (l.map f)⟩ [f v]=some ⟨true,bE k ((l ++ [v]).map f)⟩:=by
 have h1:(l.length + 1) * by_≤1000000000 * 1024:=Nat.mul_le_mul (by omega) hb
 rw [zmt (fun h=>ho (by simpa using h)) (hok _) (hsz _) (by simp [bG]; omega) (by simp [bG]; omega)]
 simp
theorem tQ (l:List Tx) (v:Tx) (o:Bool) (ho:l≠[]→o=true) (hl:l.length < 1000000000):cK k_0 16 ⟨o,dSs l⟩ [.str v]=some ⟨true,dSs (l ++ [v])⟩:=qE (fun _=>rfl) (fun _=>rfl) (by omega) l v o ho hl
theorem dW {body:Env→Store→kB} {n:Nat} {e:Env} {σ:Store} {e':Env} {σ':Store} (h:body e σ=some (.normal,e',σ')):dL body (n + 1) e σ=dL body n e' σ':=by rw [dL,h]
theorem gX {body:Env→Store→kB} {n:Nat} {e:Env} {σ:Store} {e':Env} {σ':Store} {i:Nat} (h:body e σ=some (.exit i,e',σ')):dL body (n + 1) e σ=some (.exit i,e',σ'):=by rw [dL,h]
theorem zbl {body:Env→Store→kB} {n:Nat} {e:Env} {σ:Store} {e':Env} {σ':Store} (h:body e σ=some (.ret,e',σ')):dL body (n + 1) e σ=some (.ret,e',σ'):=by rw [dL,h]
theorem kk:wE.sz=1∧wE.ag=false∧wE.same wE=true∧k_4.sz=14∧k_4.ag=true∧k_4.same k_4=true∧k_3.sz=15∧k_3.ag=true∧k_3.same k_3=true∧pA.sz=3∧pA.ag=true∧pA.same pA=true∧k_2.sz=10∧k_2.ag=true∧k_2.same k_2=true∧zac.sz=8∧zac.ag=true∧zac.same zac=true∧k_1.sz=4∧k_1.ag=true∧k_1.same k_1=true∧k_5.sz=12∧k_5.ag=true∧k_5.same k_5=true∧zad.sz=4∧zad.ag=true∧zad.same zad=true∧dK.sz=1∧dK.ag=false∧dK.same dK=true∧lT.sz=1∧lT.ag=false∧lT.same lT=true∧k_0.sz=1∧k_0.ag=false∧k_0.same k_0=true∧pB.sz=1∧pB.ag=false∧pB.same pB=true:=⟨rfl,rfl,rfl,rfl,rfl,rfl,rfl,rfl,rfl,rfl,rfl,rfl,rfl,rfl,rfl,rfl,rfl,rfl,rfl,rfl,rfl,rfl,rfl,rfl,rfl,rfl,rfl,rfl,rfl,rfl,rfl,rfl,rfl,rfl,rfl,rfl,rfl,rfl,rfl⟩
set_option linter.defProp false in
def kn:=And.intro kk (And.intro @zhd (And.intro @zhe (And.intro @nat3 (And.intro @nat4 (And.intro @nat5 (And.intro @nat6 (And.intro @nat7 (And.intro @nat8 (And.intro @rg.eq_1 (And.intro @sq.eq_1 (And.intro @ml.eq_1 (And.intro @mf.eq_1 (And.intro @ci.eq_1 @idxL)))))))))))))
end Go.Fu

/-
 Core,combinators,instructions as data.
-/
import Derived.Test.YtldfbnbckiifeaaGreatDoorFgIds
import Derived.Test.YtldfbnbckiifeaaGreatDoorMyHas
import Derived.Test.YtldfbnbckiifeaaGreatDoorFgLib
set_option maxHeartbeats 4000000
set_option linter.unusedSimpArgs false
set_option linter.unusedVariables false
set_option linter.unusedSectionVars false
set_option linter.defProp false
namespace Go.Fu
open Go Go.Mx
set_option maxRecDepth 10000
abbrev Tx:=List UInt8
def dSs (l:List Tx):D:=eJ k_0 (l.map D.str)
structure Hd where
 form:Int
 num:Int
 name:Tx
 vars:List Tx
inductive Co where
 | mk (f n:Int) (s:Tx) (ks:List Co) (bs:List (Tx × Co)) (al:List (Hd × Co))
namespace Co
def f:Co→Int
 | .mk f _ _ _ _ _=>f
def n:Co→Int
 | .mk _ n _ _ _ _=>n
def s:Co→Tx
 | .mk _ _ s _ _ _=>s
def ks:Co→List Co
 | .mk _ _ _ ks _ _=>ks
def bs:Co→List (Tx × Co)
 | .mk _ _ _ _ bs _=>bs
def al:Co→List (Hd × Co)
 | .mk _ _ _ _ _ al=>al
end Co
mutual
def dCo:Co→D
 | .mk f n s ks bs al=>.agg [.int .i64 f,.int .i64 n,.str s,.int .i64 0,.int .i64 0,.str [],.nils,eJ k_2 (dKs ks),eJ k_3 (dBs bs),eJ k_4 (dAs al)]
def dKs:List Co→List D
 | []=>[]
 | c :: r=>dCo c :: dKs r
def dBs:List (Tx × Co)→List D
 | []=>[]
 | (s,c) :: r=>.agg (.str s :: .int .i64 0 :: .int .i64 0 :: .str [] :: .nils :: (dCo c).cells) :: dBs r
def dAs:List (Hd × Co)→List D
 | []=>[]
 | (h,c) :: r=>.agg (.int .i64 h.form :: .int .i64 h.num :: .str h.name :: dSs h.vars :: (dCo c).cells) :: dAs r
end
def dB (b:Tx × Co):D:=.agg (.str b.1 :: .int .i64 0 :: .int .i64 0 :: .str [] :: .nils :: (dCo b.2).cells)
def dA (a:Hd × Co):D:=.agg (.int .i64 a.1.form :: .int .i64 a.1.num :: .str a.1.name :: dSs a.1.vars :: (dCo a.2).cells)
theorem zob:∀ l:List Co,dKs l=l.map dCo
 | []=>by simp [dKs]
 | c :: r=>by simp [dKs,zob r]
theorem zn8:∀ l:List (Tx × Co),dBs l=l.map dB
 | []=>by simp [dBs]
 | (s,c) :: r=>by simp [dBs,zn8 r,dB]
theorem zcc:∀ l:List (Hd × Co),dAs l=l.map dA
 | []=>by simp [dAs]
 | (s,c) :: r=>by simp [dAs,zcc r,dA]
def cCo (c:Co):List D:=[.int .i64 c.f,.int .i64 c.n,.str c.s,.int .i64 0,.int .i64 0,.str [],.nils,eJ k_2 (c.ks.map dCo),eJ k_3 (c.bs.map dB),eJ k_4 (c.al.map dA)]
theorem fC (c:Co):dCo c=.agg (cCo c):=by
 cases c
 simp only [dCo,cCo,Co.f,Co.n,Co.s,Co.ks,Co.bs,Co.al,zob,zn8,zcc]
theorem nZ (c:Co):(dCo c).cells=cCo c:=by rw [fC]; rfl
theorem lH (c:Co):(dCo c).cells.length=10:=by rw [nZ]; rfl
theorem agg?_dCo (c:Co):(dCo c).agg?=some (cCo c):=by rw [fC]; rfl
theorem yD (c:Co):(dCo c).ok=true:=by
 rw [fC]
 simp only [cCo,D.ok,List.all_cons,D.one,fM,List.all_nil,aY]
theorem tX (b:Tx × Co):dB b=.agg (.str b.1 :: .int .i64 0 :: .int .i64 0 :: .str [] :: .nils :: cCo b.2):=by rw [dB,nZ]
theorem Rt (a:Hd × Co):dA a=.agg (.int .i64 a.1.form :: .int .i64 a.1.num :: .str a.1.name :: dSs a.1.vars :: cCo a.2):=by rw [dA,nZ]
theorem za4b (b:Tx × Co):(dB b).ok=true:=by
 rw [tX]
 simp only [cCo,D.ok,List.all_cons,D.one,fM,List.all_nil,aY]
theorem za3b (b:Hd × Co):(dA b).ok=true:=by
 rw [Rt]
 simp only [cCo,dSs,D.ok,List.all_cons,D.one,fM,List.all_nil,aY]
theorem uH (b:Tx × Co):(dB b).cells.length=15:=by rw [tX]; rfl
theorem wK (b:Hd × Co):(dA b).cells.length=14:=by rw [Rt]; rfl
theorem qM {k:RowK}:∀ {a b:List D},eJ k a=eJ k b→a=b
 | [],[],_=>rfl
 | [],_ :: _,h=>by cases h
 | _ :: _,[],h=>by cases h
 | x :: a,y :: b,h=>by
  simp only [eJ,D.list.injEq,true_and] at h
  exact h
theorem wR {α:Type} {g:α→D} (hg:∀ {a b},g a=g b→a=b):∀ {l m:List α},l.map g=m.map g→l=m
 | [],[],_=>rfl
 | [],_ :: _,h=>by simp at h
 | _ :: _,[],h=>by simp at h
 | x :: l,y :: m,h=>by
  simp only [aO,aL] at h
  rw [hg h.1,wR hg h.2]
theorem zd5b {a b:Tx} (h:D.str a=D.str b):a=b:=by cases h; rfl
theorem jT {a b:List Tx} (h:dSs a=dSs b):a=b:=wR zd5b (qM h)
mutual
theorem rL:∀ {a b:Co},dCo a=dCo b→a=b
 | .mk f n s ks bs al,.mk f2 n2 s2 ks2 bs2 al2,h=>by
  simp only [dCo,D.agg.injEq,aL,D.int.injEq,D.str.injEq,and_true,true_and] at h
  obtain ⟨rfl,rfl,rfl,h1,h2,h3⟩:=h
  rw [zoa (qM h1),zn7 (qM h2),zn6 (qM h3)]
theorem zoa:∀ {a b:List Co},dKs a=dKs b→a=b
 | [],[],_=>rfl
 | [],_ :: _,h=>by simp [dKs] at h
 | _ :: _,[],h=>by simp [dKs] at h
 | x :: l,y :: m,h=>by
  simp only [dKs,aL] at h
  rw [rL h.1,zoa h.2]
theorem zn7:∀ {a b:List (Tx × Co)},dBs a=dBs b→a=b
 | [],[],_=>rfl
 | [],_ :: _,h=>by simp [dBs] at h
 | _ :: _,[],h=>by simp [dBs] at h
 | (s,x) :: l,(t,y) :: m,h=>by
  simp only [dBs,aL,D.agg.injEq,D.str.injEq,true_and] at h
  have hx:dCo x=dCo y:=by rw [fC,fC,← nZ x,← nZ y,h.1.2]
  rw [rL hx,zn7 h.2,h.1.1]
theorem zn6:∀ {a b:List (Hd × Co)},dAs a=dAs b→a=b
 | [],[],_=>rfl
 | [],_ :: _,h=>by simp [dAs] at h
 | _ :: _,[],h=>by simp [dAs] at h
 | (s,x) :: l,(t,y) :: m,h=>by
  simp only [dAs,aL,D.agg.injEq,D.str.injEq,D.int.injEq,true_and] at h
  obtain ⟨⟨h1,h2,h3,h4,h5⟩,h6⟩:=h
  have hx:dCo x=dCo y:=by rw [fC,fC,← nZ x,← nZ y,h5]
  have hs:s=t:=by
   cases s; cases t
   simp only at h1 h2 h3 h4
   rw [h1,h2,h3,jT h4]
  rw [rL hx,zn6 h6,hs]
end
structure In where
 op:Tx
 n:Int
 m:Int
 name:Tx
def dI (i:In):D:=.agg [.str i.op,.int .i64 i.n,.int .i64 i.m,.str i.name]
def dIs (l:List In):D:=eJ k_1 (l.map dI)
structure Cd where
 name:Tx
 arity:Int
 body:List In
def dD (c:Cd):D:=.agg [.str c.name,.int .i64 c.arity,dIs c.body]
def dDs (l:List Cd):D:=eJ vP (l.map dD)
structure Su where
 name:Tx
 ps:List Tx
 body:Co
def dU (s:Su):D:=.agg (.str s.name :: dSs s.ps :: cCo s.body)
def dUs (l:List Su):D:=eJ k_5 (l.map dU)
theorem Ol {a b:Su} (h:dU a=dU b):a=b:=by
 obtain ⟨n,p,c⟩:=a
 obtain ⟨n2,p2,c2⟩:=b
 simp only [dU,D.agg.injEq,aL,D.str.injEq] at h
 obtain ⟨rfl,h2,h3⟩:=h
 have hx:dCo c=dCo c2:=by rw [fC,fC,h3]
 rw [jT h2,rL hx]
theorem zcd {a b:List Su} (h:dUs a=dUs b):a=b:=wR Ol (qM h)
structure Fd where
 name:Tx
 tag:Int
 many:Int
 arity:Int
def dF (f:Fd):D:=.agg [.str f.name,.int .i64 f.tag,.int .i64 f.many,.int .i64 f.arity,.int .i64 0,.int .i64 0,.str [],.nils]
def dFs (l:List Fd):D:=eJ Si (l.map dF)
theorem mC {k:RowK}:∀ l:List D,eT (eJ k l)=eB l
 | []=>rfl
 | x :: l=>rfl
theorem lN {α:Type} {g:α→D} (h:∀ a,eT (g a)=true):∀ l:List α,eB (l.map g)=true
 | []=>rfl
 | x :: l=>by simp [eB,h x,lN h l]
theorem fQ (l:List Tx):eT (dSs l)=true:=by rw [dSs,mC]; exact lN (fun _=>rfl) l
mutual
theorem jH:∀ c:Co,eT (dCo c)=true
 | .mk f n s ks bs al=>by simp [dCo,eT,eB,mC,zd8 ks,zd6 bs,Qa al]
theorem zd8:∀ l:List Co,eB (dKs l)=true
 | []=>by simp [dKs,eB]
 | c :: r=>by simp [dKs,eB,jH c,zd8 r]
theorem zd6:∀ l:List (Tx × Co),eB (dBs l)=true
 | []=>by simp [dBs,eB]
 | (s,c) :: r=>by
  have h:=jH c
  rw [fC] at h
  simp only [eT] at h
  simp [dBs,eB,eT,zd6 r,nZ,h]
theorem Qa:∀ l:List (Hd × Co),eB (dAs l)=true
 | []=>by simp [dAs,eB]
 | (s,c) :: r=>by
  have h:=jH c
  rw [fC] at h
  simp only [eT] at h
  simp [dAs,eB,eT,Qa r,nZ,h,fQ]
end
theorem Pz (c:Co):eB (cCo c)=true:=by
 have h:=jH c
 rw [fC] at h
 simpa only [eT] using h
theorem zu9 (l:List In):eT (dIs l)=true:=by rw [dIs,mC]; exact lN (fun _=>rfl) l
theorem zj4 (c:Cd):eT (dD c)=true:=by simp [dD,eT,eB,zu9]
theorem zd7 (l:List Cd):eT (dDs l)=true:=by rw [dDs,mC]; exact lN zj4 l
theorem Jw (s:Su):eT (dU s)=true:=by simp [dU,eT,eB,fQ,Pz]
theorem qN (l:List Su):eT (dUs l)=true:=by rw [dUs,mC]; exact lN Jw l
theorem Qb (l:List Fd):eT (dFs l)=true:=by rw [dFs,mC]; exact lN (fun _=>rfl) l
end Go.Fu
namespace Go.Fu
open Go Go.Mx
set_option maxRecDepth 1000000
theorem Hz:lM Go.Proofs.Tryz.prog κ Xa:=by
 intro f ds σ out σ' h
 unfold Xa at h
 by_cases h1:f=Bq
 ·subst h1
  simp only [bW,dJ] at h
  obtain ⟨d,h2,h⟩:=dC h
  cases h
  exact zzi h2 σ
 have e1:(f == Bq)=false:=by simpa using h1
 rw [e1,dH] at h
 by_cases h2:f=Wm
 ·subst h2
  simp only [bW,dJ] at h
  exact zzh h
 have e2:(f == Wm)=false:=by simpa using h2
 rw [e2,dH] at h
 by_cases h3:f=Zs
 ·subst h3
  simp only [bW,dJ] at h
  exact zs9 h
 have e3:(f == Zs)=false:=by simpa using h3
 rw [e3,dH] at h
 cases h
abbrev OkP (f:FuncId) (ds:List D) (c:Cell):Prop:=Nr Go.Proofs.Tryz.prog κ f ds c
noncomputable def T (S:eD) (n:Nat):dQ:=Ld Go.Proofs.Tryz.prog κ Γa Ra Xa S n
noncomputable def TD (S:eD) (n:Nat):dQ:=Tm Go.Proofs.Tryz.prog κ Γa Ra Xa S n
theorem iT (S:eD) (n:Nat):lM Go.Proofs.Tryz.prog κ (T S n):=(Le Γa_holds sE Hz n).1
theorem zg3b {S:eD} {n:Nat} {f:FuncId} {af:AFun} {ds:List D} {σ:Store} (hs:has S f=false) (h:Γa f=some af) (hl:ds.length=af.nargs):T S (n + 1) f ds σ=oM Ra (TD S n) af σ.next (exec (T S n) n none af.body (jE ds) σ):=Xk hs h hl
theorem mX {S:eD} {f:FuncId} {s:List D→Cell→Prop} {ds:List D} {c:Cell} (hf:dE S f=some s) (hY:isY f=false) (hs:s ds c) (hp:OkP f ds c):∃ c',s ds c'∧∀ n σ,T S (n + 1) f ds σ=some (.ret c',σ):=zkp hf hY hs hp
theorem hU {C:dQ} {n:Nat} {f:FuncId} {af:AFun} {ds:List D} {c:Cell} {σ':Store} (hC:lM Go.Proofs.Tryz.prog κ C) (h:Γa f=some af) (hl:ds.length=af.nargs) (hd:eB ds=true) (hc:eT c.d=true)
  (hr:oM Ra (fun _ _ _=>none) af 0 (exec C n none af.body (jE ds) σ0)=some (.ret c,σ')):OkP f ds c:=by
 obtain ⟨hY,fn,hfn,hok⟩:=Γa_holds f af h
 refine Ge hC sE hY hfn hok hl hd hc (n:=n) (σ':=σ') ?_
 unfold oM at hr
 exact hr
theorem OkP.weak {f:FuncId} {ds:List D} {o:Bool} {d:D} (hY:isY f=false) (h:OkP f ds ⟨o,d⟩):OkP f ds ⟨false,d⟩:=Nr.weak hY h
theorem zq8:zu6 60 Zm=true:=by kernel_rfl
theorem zx1:OkP Zm [] ⟨false,.bool true⟩:=by
 intro σ
 have h:=zq8
 unfold zu6 at h
 split at h
 ·rename_i s hx
  exact Ja rfl ((Eh Γa_holds sE Hz 60).1 _ [] σ0 _ _ hx) rfl rfl σ
 ·cases h
theorem lV {n:Int} (h1:-9223372036854775808≤n) (h2:n≤9223372036854775807):IntKind.i64.wrap n=n:=by
 simp [IntKind.wrap,IntKind.bits,IntKind.signed]
 omega
theorem dV {i:Nat} (h:i < 1099511627776):IntKind.i64.wrap ((i:Int) + 1)=((i + 1:Nat):Int):=by
 rw [lV (by omega) (by omega)]
 rfl
def Small (x:Int):Prop:=-9223372036854775808≤x∧x≤9223372036854775807
theorem zat (x:Int):Small (IntKind.i64.wrap x):=by
 simp [Small,IntKind.wrap,IntKind.bits,IntKind.signed]
 omega
theorem zjz {k:IntKind}:D.nat? (.int k 1)=some 1:=rfl
theorem zj0 {k:IntKind}:D.nat? (.int k 2)=some 2:=rfl
theorem nat3 {k:IntKind}:D.nat? (.int k 3)=some 3:=rfl
theorem nat4 {k:IntKind}:D.nat? (.int k 4)=some 4:=rfl
theorem nat5 {k:IntKind}:D.nat? (.int k 5)=some 5:=rfl
theorem nat6 {k:IntKind}:D.nat? (.int k 6)=some 6:=rfl
theorem nat7 {k:IntKind}:D.nat? (.int k 7)=some 7:=rfl
theorem nat8 {k:IntKind}:D.nat? (.int k 8)=some 8:=rfl
theorem zro {k:IntKind}:D.nat? (.int k 0)=some 0:=rfl
theorem fL (n:Nat) {k:IntKind}:D.nat? (.int k (n:Int))=some n:=by
 simp only [D.nat?]
 have:(0:Int)≤(n:Int):=by omega
 rw [decide_eq_true this]
 rfl
theorem idxL {sz n:Nat} {k:RowK} {es:List D}:iD sz (.list k es) n=ifB (k.sz == sz) (dG (nth es n) fun d=>some (.eptr d)) none:=rfl
theorem eR:((0:Nat):Int)=0:=rfl
theorem zyb:((1:Nat):Int)=1:=rfl
theorem hZ {α:Type} (l:List α) (i:Nat) (h:i < l.length):l.take i ++ [l[i]]=l.take (i + 1):=by
 rw [List.take_add_one,List.getElem?_eq_getElem h]
 simp
def ow:Nat→Bool
 | 0=>false
 | _ + 1=>true
theorem zru {α:Type} {l:List α} {i:Nat}:l.take i≠[]→ow i=true:=by
 cases i with
 | zero=>intro h; simp at h
 | succ i=>intro _; rfl
theorem kK {i:Nat}:ow (i + 1)=true:=rfl
theorem oJ:ow 0=false:=rfl
theorem mL {α:Type} {k:RowK} {sz:Nat} (hs:k.sz=sz) (f:α→D) (l:List α) (i:Nat) (h:i < l.length):iD sz (eJ k (l.map f)) i=some (.eptr (f l[i])):=by
 have hn:nth (l.map f) i=some (f l[i]):=by rw [Gq,Gp _ _ h]; rfl
 cases l with
 | nil=>simp at h
 | cons x r =>
  simp only [aO,eJ,iD,hs,bW,dJ] at hn ⊢
  rw [hn]
  rfl
theorem rW (l:List Tx) (i:Nat) (h:i < l.length):iD 1 (dSs l) i=some (.eptr (.str l[i])):=mL rfl _ _ _ h
theorem mM {α:Type} {k:RowK} (f:α→D) (l:List α):lenOf (eJ k (l.map f))=some l.length:=by
 cases l with
 | nil=>rfl
 | cons x r=>simp [eJ,lenOf]
theorem mO (l:List Tx):lenOf (dSs l)=some l.length:=mM _ l
theorem qT {α:Type} {k:RowK} {by_:Nat} {f:α→D} (hok:∀ a,(f a).ok=true) (hsz:∀ a,(f a).cells.length=k.sz) (hb:by_≤1024) (l:List α) (v:α) (o:Bool) (ho:l≠[]→o=true) (hl:l.length < 1000000000):gC k by_ ⟨o,eJ k (l.map f)⟩ [f v]=some ⟨true,eJ k ((l ++ [v]).map f)⟩:=by
 have h1:(l.length + 1) * by_≤1000000000 * 1024:=Nat.mul_le_mul (by omega) hb
 rw [zpu (fun h=>ho (by simpa using h)) (hok _) (hsz _) (by simp [eL]; omega) (by simp [eL]; omega)]
 simp
theorem uG (l:List Tx) (v:Tx) (o:Bool) (ho:l≠[]→o=true) (hl:l.length < 1000000000):gC k_0 16 ⟨o,dSs l⟩ [.str v]=some ⟨true,dSs (l ++ [v])⟩:=qT (fun _=>rfl) (fun _=>rfl) (by omega) l v o ho hl
theorem iJ {body:Env→Store→mS} {n:Nat} {e:Env} {σ:Store} {e':Env} {σ':Store} (h:body e σ=some (.normal,e',σ')):gU body (n + 1) e σ=gU body n e' σ':=by rw [gU,h]
theorem kT {body:Env→Store→mS} {n:Nat} {e:Env} {σ:Store} {e':Env} {σ':Store} {i:Nat} (h:body e σ=some (.exit i,e',σ')):gU body (n + 1) e σ=some (.exit i,e',σ'):=by rw [gU,h]
theorem zd2 {body:Env→Store→mS} {n:Nat} {e:Env} {σ:Store} {e':Env} {σ':Store} (h:body e σ=some (.ret,e',σ')):gU body (n + 1) e σ=some (.ret,e',σ'):=by rw [gU,h]
theorem kk:yX.sz=1∧yX.ag=false∧yX.same yX=true∧k_4.sz=14∧k_4.ag=true∧k_4.same k_4=true∧k_3.sz=15∧k_3.ag=true∧k_3.same k_3=true∧vP.sz=3∧vP.ag=true∧vP.same vP=true∧k_2.sz=10∧k_2.ag=true∧k_2.same k_2=true∧Si.sz=8∧Si.ag=true∧Si.same Si=true∧k_1.sz=4∧k_1.ag=true∧k_1.same k_1=true∧k_5.sz=12∧k_5.ag=true∧k_5.same k_5=true∧Sj.sz=4∧Sj.ag=true∧Sj.same Sj=true∧gR.sz=1∧gR.ag=false∧gR.same gR=true∧pH.sz=1∧pH.ag=false∧pH.same pH=true∧k_0.sz=1∧k_0.ag=false∧k_0.same k_0=true∧Jh.sz=1∧Jh.ag=false∧Jh.same Jh=true:=⟨rfl,rfl,rfl,rfl,rfl,rfl,rfl,rfl,rfl,rfl,rfl,rfl,rfl,rfl,rfl,rfl,rfl,rfl,rfl,rfl,rfl,rfl,rfl,rfl,rfl,rfl,rfl,rfl,rfl,rfl,rfl,rfl,rfl,rfl,rfl,rfl,rfl,rfl,rfl⟩
set_option linter.defProp false in
def kn:=aB kk (aB @zjz (aB @zj0 (aB @nat3 (aB @nat4 (aB @nat5 (aB @nat6 (aB @nat7 (aB @nat8 (aB @rg.eq_1 (aB @sq.eq_1 (aB @ml.eq_1 (aB @mf.eq_1 (aB @ci.eq_1 @idxL)))))))))))))
end Go.Fu

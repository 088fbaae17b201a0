/-
 Where a text stands in a row of texts that lies in the store.
-/
import Derived.Test.YtieacpoabejcoaaGreatDoorFsX0
set_option maxHeartbeats 4000000
set_option linter.unusedSimpArgs false
set_option linter.unusedVariables false
set_option linter.unusedSectionVars false
namespace Go.Fu
open Go Go.Mx
set_option maxRecDepth 10000
section
variable {C:CallF} {n:Nat} {σ:Store}
def EiA (id:Nat) (l:List (List UInt8)) (s:List UInt8) (i:Nat):Env:={slots:=[(0,⟨false,.arr k_0 id 0 l.length⟩),(1,⟨false,.str s⟩),(7,⟨false,.int .i64 l.length⟩),(8,⟨false,.int .i64 i⟩)],locs:=[],boxes:=[],defers:=[]}
theorem zkfb (id:Nat) (l:List (List UInt8)) (s:List UInt8) (i:Nat) (h:i < l.length) (hl:l.length < 1048576) (ha:aget σ.objs id=some (cellsOf (l.map D.str))) (hp:(s == l[i])=false):exec C n none a_10 (EiA id l s i) σ=some (.normal,EiA id l s (i + 1),σ):=by
 have hi:((i:Int) < (l.length:Int)):=by omega
 have hx:=zew l i h
 simp only [a_10,EiA,sA,seval,kn,zeroI,lit1,lit2,lit3,lit4,lit5,lit6,lit7,lit8,fnq,memE,memOp,zbw,Nat.mul_one,hi,h,ha,hx,hp,zaj (i:=i) (by omega)]
theorem zkgb (id:Nat) (l:List (List UInt8)) (s:List UInt8) (i:Nat) (h:i < l.length) (hl:l.length < 1048576) (ha:aget σ.objs id=some (cellsOf (l.map D.str))) (hp:(s == l[i])=true):exec C n none a_10 (EiA id l s i) σ=some (.ret,{slots:=[(4,⟨false,.int .i64 i⟩)],locs:=[],boxes:=[],defers:=[]},σ):=by
 have hi:((i:Int) < (l.length:Int)):=by omega
 have hx:=zew l i h
 simp only [a_10,EiA,sA,seval,kn,zeroI,lit1,lit2,lit3,lit4,lit5,lit6,lit7,lit8,fnq,memE,memOp,zbw,Nat.mul_one,hi,h,ha,hx,hp]
theorem znkb (id:Nat) (l:List (List UInt8)) (s:List UInt8):exec C n none a_10 (EiA id l s l.length) σ=some (.exit 0,{EiA id l s l.length with slots:=[(0,⟨false,.arr k_0 id 0 l.length⟩),(1,⟨false,.str s⟩),(7,⟨false,.int .i64 l.length⟩),(8,⟨false,.int .i64 l.length⟩),(9,⟨false,.bool false⟩)]},σ):=by
 have hi:¬ ((l.length:Int) < (l.length:Int)):=by omega
 simp only [a_10,EiA,sA,seval,kn,hi]
theorem znlb (s:List UInt8):exec C n none a_10 {slots:=[(0,⟨false,.nils⟩),(1,⟨false,.str s⟩),(7,⟨false,.int .i64 0⟩),(8,⟨false,.int .i64 0⟩)],locs:=[],boxes:=[],defers:=[]} σ=some (.exit 0,{slots:=[(0,⟨false,.nils⟩),(1,⟨false,.str s⟩),(7,⟨false,.int .i64 0⟩),(8,⟨false,.int .i64 0⟩),(9,⟨false,.bool false⟩)],locs:=[],boxes:=[],defers:=[]},σ):=by
 simp only [a_10,sA,seval,kn,zeroI,lit1,lit2,lit3,lit4,lit5,lit6,lit7,lit8,fnq]
end
theorem zdcb (l:List (List UInt8)) (s:List UInt8) (hl:l.length < 1048576):Evly fun n=>∀ σ r,ArrIn σ r l→T n n_66 [r,.str s] σ=some (.ret ⟨false,.int .i64 (posI s l)⟩,σ) :=
 (zj3 l s hl).step (l.length + 2) fun m hm h0 σ r hr=>by
 rw [T_fun (af:=a_28) rfl rfl]
 rcases hr with ⟨rfl,rfl⟩ | ⟨id,rfl,ha,_,_⟩
 ·have hloop:=za6 (k:=m - 1) (znlb (C:=T m) (n:=m) (σ:=σ) s)
  rw [show m - 1 + 1=m by omega] at hloop
  have hv:posI s []=-1:=rfl
  simp only [a_28,sA,seval,kn,zeroI,lit1,lit2,lit3,lit4,lit5,lit6,lit7,lit8,fnq,hloop,hv]
 ·have hloop:=zfb (body:=exec (T m) m none a_10) (EiA id l s) (fun _=>σ) l.length (atF l s) (stop:=fun i=>(.ret,{slots:=[(4,⟨false,.int .i64 i⟩)],locs:=[],boxes:=[],defers:=[]},σ)) (fun _ _ h=>by cases h) (fun _ _ _ h=>by cases h)
   (fun i hi hp=>zkfb id l s i hi hl ha (by rw [ze9 hi] at hp; simpa using hp)) (fun i hi hp=>zkgb id l s i hi hl ha (by rw [ze9 hi] at hp; simpa using hp)) (znkb id l s) m 0 (by omega) (by omega)
  simp only [EiA,zeroI] at hloop
  rcases hloop with ⟨i,_,hi,hp,hb,hrest⟩ | ⟨hp,hrest⟩
  ·have hv:posI s l=i:=by
    unfold posI
    rw [zn9 hi (fun k hk hki=>by have:=hb k (Nat.zero_le _) hki; rw [ze9 hk] at this; simpa using this) (by rw [ze9 hi] at hp; simpa using hp)]
   simp only [a_28,sA,seval,kn,hrest,hv]
  ·have hv:posI s l=-1:=by
    unfold posI
    rw [zn8 fun k hk=>by have:=hp k (Nat.zero_le _) hk; rw [ze9 hk] at this; simpa using this]
   simp only [a_28,sA,seval,kn,hrest,hv]
theorem zme {s:List UInt8}:∀ {l:List (List UInt8)},(posS s l).isSome=l.contains s
 | []=>rfl
 | x :: l=>by
  have ih:=zme (s:=s) (l:=l)
  simp only [posS,List.contains_cons]
  cases h:s == x with
  | true=>simp
  | false=>simp [ih]
theorem zmsb (s:List UInt8) (l:List (List UInt8)):(posI s l ≥ 0)↔l.contains s=true:=by
 rw [← zme]
 unfold posI
 cases h:posS s l with
 | none=>simp
 | some k=>simp
theorem znp (l:List (List UInt8)) (s:List UInt8) (m:Nat) (d:D) (σ:Store) (h:T m n_66 [d,.str s] σ=some (.ret ⟨false,.int .i64 (posI s l)⟩,σ)):T (m + 1) n_9 [d,.str s] σ=some (.ret ⟨false,.bool (l.contains s)⟩,σ):=by
 have hg:=zmsb s l
 rw [T_fun (af:=a_69) rfl rfl]
 cases hc:l.contains s with
 | true =>
  have h0:=hg.2 hc
  simp only [a_69,sA,seval,kn,zeroI,lit1,lit2,lit3,lit4,lit5,lit6,lit7,lit8,fnq,h,h0]
 | false =>
  have h0:¬ (posI s l ≥ 0):=fun e=>by rw [hg.1 e] at hc; cases hc
  simp only [a_69,sA,seval,kn,zeroI,lit1,lit2,lit3,lit4,lit5,lit6,lit7,lit8,fnq,h,h0]
theorem zwh (l:List (List UInt8)) (s:List UInt8) (hl:l.length < 1048576):Evly fun n=>∀ σ r,ArrIn σ r l→T n n_9 [r,.str s] σ=some (.ret ⟨false,.bool (l.contains s)⟩,σ) :=
 (zdcb l s hl).step 0 fun m _ h σ r hr=>znp l s m r σ (h σ r hr)
theorem zor (l:List (List UInt8)) (s:List UInt8) (hl:l.length < 1048576):Evly fun n=>∀ σ,T n n_9 [dSs l,.str s] σ=some (.ret ⟨false,.bool (l.contains s)⟩,σ) :=
 (zj3 l s hl).step 0 fun m _ h σ=>znp l s m _ σ (h σ)
end Go.Fu
namespace Go.Fu
open Go Go.Mx
set_option maxRecDepth 10000
def nT:Tp→Nat
 | .app f a=>nT f + nT a + 1
 | _=>1
def arrS0:List UInt8:=[45,62]
def brS (b:Bool) (s:List UInt8):List UInt8:=if b then 40 :: s ++ [41] else s
def prT:Tp→Nat→List UInt8
 | .hole x,_=>63 :: [UInt8.ofNat (48 + x.toNat)]
 | .var s,_=>s
 | .con c,_=>brS (c == arrS0) c
 | .app (.app (.con c) a) b,k=>if c == arrS0 then brS (k != 0) (prT a 1 ++ [32,45,62,32] ++ prT b 0) else brS (k == 3) (prT (.app (.con c) a) 2 ++ [32] ++ prT b 3)
 | .app f a,k=>brS (k == 3) (prT f 2 ++ [32] ++ prT a 3)
def okV (s:List UInt8):Bool:=match s with
 | [c]=>decide (97≤c.toNat) && decide (c.toNat≤122)
 | _=>false
def conL:List (List UInt8):=[[73,110,116],[66,111,111,108],[76],[80]]
def okA:Tp→Bool
 | .hole x=>decide (0≤x) && decide (x < 6)
 | .var s=>okV s
 | .con c=>conL.contains c
 | .app f a=>okA f && okA a
def isApp:Tp→Bool
 | .app _ _=>true
 | _=>false
def zrq (c:UInt8):Bool:=c != 32 && (c != 40 && c != 41)
theorem znwb {s:List UInt8} (h:okV s=true):∃ c,s=[c]∧97≤c.toNat∧c.toNat≤122:=by
 unfold okV at h
 split at h
 ·simp only [Bool.and_eq_true,decide_eq_true_eq] at h
  exact ⟨_,rfl,h⟩
 ·cases h
theorem zfqb {c:List UInt8} (h:okA (.con c)=true):c=[73,110,116]∨c=[66,111,111,108]∨c=[76]∨c=[80]:=by
 have:c∈conL:=by simpa [okA] using h
 simpa [conL] using this
end Go.Fu
namespace Go.Fu
open Go Go.Mx
set_option maxRecDepth 10000
def addA (out l:List (List UInt8)):List (List UInt8):=l.foldl (fun o s=>if o.contains s then o else o ++ [s]) out
def freeT:Tp→List (List UInt8)
 | .var s=>[s]
 | .app f a=>addA (addA [] (freeT f)) (freeT a)
 | _=>[]
theorem zff:∀ (l out:List (List UInt8)),(addA out l).length≤out.length + l.length
 | [],out=>Nat.le_refl _
 | s :: l,out=>by
  have:=zff l (if out.contains s then out else out ++ [s])
  show (addA (if out.contains s then out else out ++ [s]) l).length≤_
  split at this
  ·rename_i h; rw [if_pos h]; simp only [List.length_cons]; omega
  ·rename_i h; rw [if_neg h]; simp only [List.length_append,List.length_cons,List.length_nil] at this ⊢; omega
theorem zda:∀ t:Tp,(freeT t).length≤nT t
 | .var s=>by simp [freeT,nT]
 | .con c=>by simp [freeT,nT]
 | .hole x=>by simp [freeT,nT]
 | .app f a=>by
  have h1:=zda f
  have h2:=zda a
  have h3:=zff (freeT f) []
  have h4:=zff (freeT a) (addA [] (freeT f))
  simp only [freeT,nT,List.length_nil] at *
  omega
theorem zfbb (out l:List (List UInt8)) (j:Nat) (h:j < l.length):addA out (l.take (j + 1))=if (addA out (l.take j)).contains l[j] then addA out (l.take j) else addA out (l.take j) ++ [l[j]]:=by
 rw [← zba l j h]
 unfold addA
 rw [List.foldl_append]
 rfl
section
variable {C:CallF} {n:Nat}
def bA (f a:Tp):List Cell:=[⟨false,.int .i64 4⟩,⟨false,.int .i64 0⟩,⟨false,.str []⟩,⟨false,.list k_2 [dT f,dT a]⟩]
def EF0 (f a:Tp) (r:D) (i:Nat) (L:List (List UInt8)) (j:Nat):Env:={slots:=[(3,⟨false,r⟩),(15,⟨false,.list k_2 [dT f,dT a]⟩),(16,⟨false,.int .i64 2⟩),(17,⟨false,.int .i64 i⟩),(22,⟨false,dSs L⟩),(23,⟨false,.int .i64 L.length⟩),(24,⟨false,.int .i64 j⟩)],locs:=[(1,1,0)],boxes:=[(1,bA f a)],defers:=[]}
theorem zjrb (f a:Tp) (i:Nat) (out L:List (List UInt8)) (σ0:Store) (hout:out.length + L.length < 1048576) (hc:∀ j,∀ h:j < L.length,∀ σ r,ArrIn σ r (addA out (L.take j))→C n_9 [r,.str L[j]] σ=some (.ret ⟨false,.bool ((addA out (L.take j)).contains L[j])⟩,σ)) :
  ∀ (j:Nat) (e:Env) (σ:Store),j < L.length→(∃ r,e=EF0 f a r i L j∧ArrOf σ0 σ r (addA out (L.take j)))→∃ e' σ',exec C n none zcc e σ=some (.normal,e',σ')∧∃ r,e'=EF0 f a r i L (j + 1)∧ArrOf σ0 σ' r (addA out (L.take (j + 1))):=by
 rintro j e σ hj ⟨r,rfl,hr⟩
 have hx:zaw 1 (dSs L) j=some (.eptr (.str L[j])):=idx_S L j hj
 have hi:((j:Int) < (L.length:Int)):=by omega
 have w1:=zaj (i:=j) (by omega)
 have hcc:=hc j hj σ r hr.isIn
 have hlen:=zff (L.take j) out
 have htl:(L.take j).length=j:=by simp; omega
 rw [zfbb out L j hj]
 cases hb:(addA out (L.take j)).contains L[j] with
 | true =>
  rw [hb] at hcc
  refine ⟨EF0 f a r i L (j + 1),σ,?_,r,rfl,by rw [if_pos rfl]; exact hr⟩
  simp only [zcc,EF0,bA,sA,seval,kn,zeroI,lit1,lit2,lit3,lit4,lit5,lit6,lit7,lit8,fnq,hi,hx,hcc,w1]
 | false =>
  rw [hb] at hcc
  obtain ⟨r',σ',ha,hr'⟩:=apA (ys:=[L[j]]) hr (zbob hr.1.wf k_0 (cellsOf [.str L[j]])) (by simp) (by simp only [List.length_cons,List.length_nil]; omega)
  refine ⟨EF0 f a r' i L (j + 1),σ',?_,r',rfl,by rw [if_neg (by simp)]; exact hr'⟩
  have hls:=zkib σ L[j]
  simp only [List.map_cons,List.map_nil] at ha
  simp only [zcc,EF0,bA,sA,seval,kn,zeroI,lit1,lit2,lit3,lit4,lit5,lit6,lit7,lit8,fnq,memE,memOp,hi,hx,hcc,hls,ha,w1]
theorem zm1b (f a:Tp) (i:Nat) (L:List (List UInt8)) (r:D) (σ:Store):exec C n none zcc (EF0 f a r i L L.length) σ=some (.exit 2,{EF0 f a r i L L.length with slots:=[(3,⟨false,r⟩),(15,⟨false,.list k_2 [dT f,dT a]⟩),(16,⟨false,.int .i64 2⟩),(17,⟨false,.int .i64 i⟩),(22,⟨false,dSs L⟩),(23,⟨false,.int .i64 L.length⟩),(24,⟨false,.int .i64 L.length⟩),(25,⟨false,.bool false⟩)]},σ):=by
 have hi:¬ ((L.length:Int) < (L.length:Int)):=by omega
 simp only [zcc,EF0,bA,sA,seval,kn,hi]
end
end Go.Fu
namespace Go.Fu
open Go Go.Mx
set_option maxRecDepth 10000
section
variable {C:CallF} {n:Nat}
def EF1 (f a:Tp) (r:D) (i:Nat):Env:={slots:=[(3,⟨false,r⟩),(15,⟨false,.list k_2 [dT f,dT a]⟩),(16,⟨false,.int .i64 2⟩),(17,⟨false,.int .i64 i⟩)],locs:=[(1,1,0)],boxes:=[(1,bA f a)],defers:=[]}
theorem zbzb (f a:Tp) (i:Nat) (out L:List (List UInt8)) (σ0 σ:Store) (r:D) (hr:ArrOf σ0 σ r out) (hout:out.length + L.length < 1048576) (hn:L.length < n) (hc:∀ j,∀ h:j < L.length,∀ σ r,ArrIn σ r (addA out (L.take j))→C n_9 [r,.str L[j]] σ=some (.ret ⟨false,.bool ((addA out (L.take j)).contains L[j])⟩,σ)) :
  ∃ r' σ',loopN (exec C n none zcc) n (EF0 f a r i L 0) σ=some (.exit 2,{EF0 f a r' i L L.length with slots:=[(3,⟨false,r'⟩),(15,⟨false,.list k_2 [dT f,dT a]⟩),(16,⟨false,.int .i64 2⟩),(17,⟨false,.int .i64 i⟩),(22,⟨false,dSs L⟩),(23,⟨false,.int .i64 L.length⟩),(24,⟨false,.int .i64 L.length⟩),(25,⟨false,.bool false⟩)]},σ')∧ArrOf σ0 σ' r' (addA out L):=by
 have h:=zcp (body:=exec C n none zcc) (fun j e σ=>∃ r,e=EF0 f a r i L j∧ArrOf σ0 σ r (addA out (L.take j)))
  (fun x=>∃ r',x.1=.exit 2∧x.2.1={EF0 f a r' i L L.length with slots:=[(3,⟨false,r'⟩),(15,⟨false,.list k_2 [dT f,dT a]⟩),(16,⟨false,.int .i64 2⟩),(17,⟨false,.int .i64 i⟩),(22,⟨false,dSs L⟩),(23,⟨false,.int .i64 L.length⟩),(24,⟨false,.int .i64 L.length⟩),(25,⟨false,.bool false⟩)]}∧ArrOf σ0 x.2.2 r' (addA out L)) L.length
  (fun j e σ hj hp=>zjrb f a i out L σ0 hout hc j e σ hj hp)
  (fun e σ hp=>by
   obtain ⟨r,rfl,hr⟩:=hp
   rw [List.take_length] at hr
   exact ⟨_,zm1b f a i L r σ,fun _ _ h=>(by cases h),r,rfl,rfl,hr⟩) 0 n (EF0 f a r i L 0) σ (by omega) (by omega) ⟨r,rfl,hr⟩
 obtain ⟨⟨x,e,σ'⟩,h1,r',h2,h3,h4⟩:=h
 simp only at h2 h3 h4
 subst h2 h3
 exact ⟨r',σ',h1,h4⟩
def FreeC (C:CallF) (t:Tp):Prop:=∀ σ,WF σ→∃ r σ',C n_24 [dT t] σ=some (.ret ⟨false,r⟩,σ')∧ArrOf σ σ' r (freeT t)
theorem zgdb (f a:Tp) (out:List (List UInt8)) (σ0 σ:Store) (r:D) (hr:ArrOf σ0 σ r out) (hf:FreeC C f) (hout:out.length + (freeT f).length < 1048576) (hn:(freeT f).length < n)
  (hc:∀ j,∀ h:j < (freeT f).length,∀ σ r,ArrIn σ r (addA out ((freeT f).take j))→C n_9 [r,.str (freeT f)[j]] σ=some (.ret ⟨false,.bool ((addA out ((freeT f).take j)).contains (freeT f)[j])⟩,σ)) :
  ∃ r' σ',exec C n none zb1 (EF1 f a r 0) σ=some (.normal,EF1 f a r' 1,σ')∧ArrOf σ0 σ' r' (addA out (freeT f)):=by
 obtain ⟨q,σ1,h1,hq⟩:=hf σ hr.1.wf
 obtain ⟨σ2,hz,hx⟩:=zp0 hq 22 {slots:=[(3,⟨false,r⟩),(15,⟨false,.list k_2 [dT f,dT a]⟩),(16,⟨false,.int .i64 2⟩),(17,⟨false,.int .i64 0⟩),(22,⟨false,q⟩),(23,⟨false,.int .i64 (freeT f).length⟩),(24,⟨false,.int .i64 0⟩)],locs:=[(1,1,0)],boxes:=[(1,bA f a)],defers:=[]} rfl
 obtain ⟨r',σ',hl,hr'⟩:=zbzb (C:=C) (n:=n) f a 0 out (freeT f) σ0 σ2 r (hr.ext hx) hout hn hc
 refine ⟨r',σ',?_,hr'⟩
 have hlen:=hq.len
 have w1:IntKind.i64.wrap (0 + 1)=1:=by decide
 have h02:(0:Nat) < 2:=by decide
 rw [dT_eq f] at h1
 simp only [bA,dT_eq f,dT_eq a,cT,aset,sA,Nat.reduceAdd,Nat.reduceSub,Nat.reduceMul,Nat.reduceBEq,Nat.reduceLeDiff,Int.reduceBEq,Int.reduceBNe,Int.reduceLE,Int.reduceLT,Int.reduceGE,Int.reduceGT,Int.reduceNeg] at hz
 simp only [EF0,bA,dT_eq f,dT_eq a,cT,zeroI] at hl
 simp only [cT] at h1
 simp only [zb1,EF1,bA,sA,Nat.reduceAdd,Nat.reduceSub,Nat.reduceMul,Nat.reduceBEq,Nat.reduceLeDiff,Int.reduceBEq,Int.reduceBNe,Int.reduceLE,Int.reduceLT,Int.reduceGE,Int.reduceGT,Int.reduceNeg,kn,zeroI,lit1,lit2,lit3,lit4,lit5,lit6,lit7,lit8,fnq,dT_eq f,dT_eq a,cT,h02,h1,hlen,zee,hz,hl,w1]
theorem zgeb (f a:Tp) (out:List (List UInt8)) (σ0 σ:Store) (r:D) (hr:ArrOf σ0 σ r out) (hf:FreeC C a) (hout:out.length + (freeT a).length < 1048576) (hn:(freeT a).length < n)
  (hc:∀ j,∀ h:j < (freeT a).length,∀ σ r,ArrIn σ r (addA out ((freeT a).take j))→C n_9 [r,.str (freeT a)[j]] σ=some (.ret ⟨false,.bool ((addA out ((freeT a).take j)).contains (freeT a)[j])⟩,σ)) :
  ∃ r' σ',exec C n none zb1 (EF1 f a r 1) σ=some (.normal,EF1 f a r' 2,σ')∧ArrOf σ0 σ' r' (addA out (freeT a)):=by
 obtain ⟨q,σ1,h1,hq⟩:=hf σ hr.1.wf
 obtain ⟨σ2,hz,hx⟩:=zp0 hq 22 {slots:=[(3,⟨false,r⟩),(15,⟨false,.list k_2 [dT f,dT a]⟩),(16,⟨false,.int .i64 2⟩),(17,⟨false,.int .i64 1⟩),(22,⟨false,q⟩),(23,⟨false,.int .i64 (freeT a).length⟩),(24,⟨false,.int .i64 0⟩)],locs:=[(1,1,0)],boxes:=[(1,bA f a)],defers:=[]} rfl
 obtain ⟨r',σ',hl,hr'⟩:=zbzb (C:=C) (n:=n) f a 1 out (freeT a) σ0 σ2 r (hr.ext hx) hout hn hc
 refine ⟨r',σ',?_,hr'⟩
 have hlen:=hq.len
 have w1:IntKind.i64.wrap (1 + 1)=2:=by decide
 have h02:(1:Nat) < 2:=by decide
 rw [dT_eq a] at h1
 simp only [bA,dT_eq f,dT_eq a,cT,aset,sA,Nat.reduceAdd,Nat.reduceSub,Nat.reduceMul,Nat.reduceBEq,Nat.reduceLeDiff,Int.reduceBEq,Int.reduceBNe,Int.reduceLE,Int.reduceLT,Int.reduceGE,Int.reduceGT,Int.reduceNeg] at hz
 simp only [EF0,bA,dT_eq f,dT_eq a,cT,zeroI,zeroI,lit1,lit2,lit3,lit4,lit5,lit6,lit7,lit8] at hl
 simp only [cT] at h1
 simp only [zb1,EF1,bA,sA,Nat.reduceAdd,Nat.reduceSub,Nat.reduceMul,Nat.reduceBEq,Nat.reduceLeDiff,Int.reduceBEq,Int.reduceBNe,Int.reduceLE,Int.reduceLT,Int.reduceGE,Int.reduceGT,Int.reduceNeg,kn,zeroI,lit1,lit2,lit3,lit4,lit5,lit6,lit7,lit8,fnq,dT_eq f,dT_eq a,cT,h02,h1,hlen,zee,hz,hl,w1]
theorem zm2b (f a:Tp) (r:D) (σ:Store):exec C n none zb1 (EF1 f a r 2) σ=some (.exit 0,{EF1 f a r 2 with slots:=[(3,⟨false,r⟩),(15,⟨false,.list k_2 [dT f,dT a]⟩),(16,⟨false,.int .i64 2⟩),(17,⟨false,.int .i64 2⟩),(18,⟨false,.bool false⟩)]},σ):=by
 simp only [zb1,EF1,bA,sA,Nat.reduceAdd,Nat.reduceSub,Nat.reduceMul,Nat.reduceBEq,Nat.reduceLeDiff,Int.reduceBEq,Int.reduceBNe,Int.reduceLE,Int.reduceLT,Int.reduceGE,Int.reduceGT,Int.reduceNeg,kn,zeroI,lit1,lit2,lit3,lit4,lit5,lit6,lit7,lit8,fnq]
theorem zb0b {σ:Store} (f x:Int) (s:List UInt8):exec C n none zb1 {slots:=[(3,⟨false,.nils⟩),(15,⟨false,.nils⟩),(16,⟨false,.int .i64 0⟩),(17,⟨false,.int .i64 0⟩)],locs:=[(1,1,0)],boxes:=[(1,[⟨false,.int .i64 f⟩,⟨false,.int .i64 x⟩,⟨false,.str s⟩,⟨false,.nils⟩])],defers:=[]} σ =
  some (.exit 0,{slots:=[(3,⟨false,.nils⟩),(15,⟨false,.nils⟩),(16,⟨false,.int .i64 0⟩),(17,⟨false,.int .i64 0⟩),(18,⟨false,.bool false⟩)],locs:=[(1,1,0)],boxes:=[(1,[⟨false,.int .i64 f⟩,⟨false,.int .i64 x⟩,⟨false,.str s⟩,⟨false,.nils⟩])],defers:=[]},σ):=by
 simp only [zb1,sA,Nat.reduceAdd,Nat.reduceSub,Nat.reduceMul,Nat.reduceBEq,Nat.reduceLeDiff,Int.reduceBEq,Int.reduceBNe,Int.reduceLE,Int.reduceLT,Int.reduceGE,Int.reduceGT,Int.reduceNeg,kn,zeroI,lit1,lit2,lit3,lit4,lit5,lit6,lit7,lit8,fnq]
end
theorem znm (m:Nat) (t:Tp) (σ:Store) (hw:WF σ) (ha:isApp t=false) (hm:1≤m):∃ r σ',T (m + 1) n_24 [dT t] σ=some (.ret ⟨false,r⟩,σ')∧ArrOf σ σ' r (freeT t):=by
 cases t with
 | app f a=>cases ha
 | var s =>
  refine ⟨.arr k_0 σ.next 0 1,zav σ k_0 (cellsOf [.str s]),?_,zbob hw _ _,.inr ⟨σ.next,rfl,?_,?_,Nat.le_refl _,?_,by simp [freeT]⟩⟩
  ·rw [T_fun (af:=zci) rfl rfl]
   simp only [zci,sA,Nat.reduceAdd,Nat.reduceSub,Nat.reduceMul,Nat.reduceBEq,Nat.reduceLeDiff,Int.reduceBEq,Int.reduceBNe,Int.reduceLE,Int.reduceLT,Int.reduceGE,Int.reduceGT,Int.reduceNeg,kn,zeroI,lit1,lit2,lit3,lit4,lit5,lit6,lit7,lit8,fnq,dT,memE,memOp]
  ·simp [zav,aget,ifB,freeT]
  ·simp [zav,aget,ifB]
  ·simp only [zav]; omega
 | con c =>
  refine ⟨.nils,σ,?_,Ext.refl hw,.inl ⟨rfl,rfl⟩⟩
  obtain ⟨j,rfl⟩:∃ j,m=j + 1:=⟨m - 1,by omega⟩
  have hl:=za6 (k:=j) (zb0b (C:=T (j + 1)) (n:=j + 1) (σ:=σ) 3 0 c)
  rw [T_fun (af:=zci) rfl rfl]
  simp only [zci,sA,Nat.reduceAdd,Nat.reduceSub,Nat.reduceMul,Nat.reduceBEq,Nat.reduceLeDiff,Int.reduceBEq,Int.reduceBNe,Int.reduceLE,Int.reduceLT,Int.reduceGE,Int.reduceGT,Int.reduceNeg,kn,zeroI,lit1,lit2,lit3,lit4,lit5,lit6,lit7,lit8,fnq,dT,hl]
 | hole x =>
  refine ⟨.nils,σ,?_,Ext.refl hw,.inl ⟨rfl,rfl⟩⟩
  obtain ⟨j,rfl⟩:∃ j,m=j + 1:=⟨m - 1,by omega⟩
  have hl:=za6 (k:=j) (zb0b (C:=T (j + 1)) (n:=j + 1) (σ:=σ) 1 x [])
  rw [T_fun (af:=zci) rfl rfl]
  simp only [zci,sA,Nat.reduceAdd,Nat.reduceSub,Nat.reduceMul,Nat.reduceBEq,Nat.reduceLeDiff,Int.reduceBEq,Int.reduceBNe,Int.reduceLE,Int.reduceLT,Int.reduceGE,Int.reduceGT,Int.reduceNeg,kn,zeroI,lit1,lit2,lit3,lit4,lit5,lit6,lit7,lit8,fnq,dT,hl]
theorem zi4b (m:Nat) (hm:4≤m) (f a:Tp) (σ:Store) (hw:WF σ) (hf:FreeC (T m) f) (ha:FreeC (T m) a) (hn:nT f + nT a < m) (hb:nT f + nT a < 100000)
  (hc1:∀ j,j < (freeT f).length→∀ h:j < (freeT f).length,∀ σ r,ArrIn σ r (addA [] ((freeT f).take j))→T m n_9 [r,.str (freeT f)[j]] σ=some (.ret ⟨false,.bool ((addA [] ((freeT f).take j)).contains (freeT f)[j])⟩,σ))
  (hc2:∀ j,j < (freeT a).length→∀ h:j < (freeT a).length,∀ σ r,ArrIn σ r (addA (addA [] (freeT f)) ((freeT a).take j))→T m n_9 [r,.str (freeT a)[j]] σ=some (.ret ⟨false,.bool ((addA (addA [] (freeT f)) ((freeT a).take j)).contains (freeT a)[j])⟩,σ)) :
  ∃ r σ',T (m + 1) n_24 [dT (.app f a)] σ=some (.ret ⟨false,r⟩,σ')∧ArrOf σ σ' r (freeT (.app f a)):=by
 have l1:=zda f
 have l2:=zda a
 have l3:=zff (freeT f) []
 simp only [List.length_nil] at l3
 obtain ⟨r1,σ1,e1,h1⟩:=zgdb (C:=T m) (n:=m) f a [] σ σ .nils ⟨Ext.refl hw,.inl ⟨rfl,rfl⟩⟩ hf (by simp only [List.length_nil]; omega) (by omega) (fun j h=>hc1 j h h)
 obtain ⟨r2,σ2,e2,h2⟩:=zgeb (C:=T m) (n:=m) f a (addA [] (freeT f)) σ σ1 r1 h1 ha (by omega) (by omega) (fun j h=>hc2 j h h)
 refine ⟨r2,σ2,?_,h2⟩
 obtain ⟨j,rfl⟩:∃ j,m=j + 3:=⟨m - 3,by omega⟩
 have hl:=(zb2 (k:=j + 2) e1).trans ((zb2 (k:=j + 1) e2).trans (za6 (k:=j) (zm2b f a r2 σ2)))
 rw [T_fun (af:=zci) rfl rfl]
 simp only [EF1,bA,zeroI] at hl
 simp only [zci,sA,Nat.reduceAdd,Nat.reduceSub,Nat.reduceMul,Nat.reduceBEq,Nat.reduceLeDiff,Int.reduceBEq,Int.reduceBNe,Int.reduceLE,Int.reduceLT,Int.reduceGE,Int.reduceGT,Int.reduceNeg,kn,zeroI,lit1,lit2,lit3,lit4,lit5,lit6,lit7,lit8,fnq,dT,hl]
theorem zjk:∀ t:Tp,nT t < 100000→Evly fun n=>FreeC (T n) t
 | .var s,_=>(Evly.all (p:=fun _=>True) fun _=>trivial).step 1 fun m hm _ σ hw=>znm m _ σ hw rfl hm
 | .con s,_=>(Evly.all (p:=fun _=>True) fun _=>trivial).step 1 fun m hm _ σ hw=>znm m _ σ hw rfl hm
 | .hole s,_=>(Evly.all (p:=fun _=>True) fun _=>trivial).step 1 fun m hm _ σ hw=>znm m _ σ hw rfl hm
 | .app f a,hb=>by
  simp only [nT] at hb
  have l1:=zda f
  have l2:=zda a
  have l3:=zff (freeT f) []
  have hc1:Evly fun n=>∀ j,j < (freeT f).length→∀ h:j < (freeT f).length,∀ σ r,ArrIn σ r (addA [] ((freeT f).take j))→T n n_9 [r,.str (freeT f)[j]] σ=some (.ret ⟨false,.bool ((addA [] ((freeT f).take j)).contains (freeT f)[j])⟩,σ) :=
   Evly.below _ fun j hj=>(zwh (addA [] ((freeT f).take j)) (freeT f)[j] (by
    have:=zff ((freeT f).take j) []
    simp only [List.length_nil,List.length_take] at this
    omega)).mono fun n h _ σ r hr=>h σ r hr
  have hc2:Evly fun n=>∀ j,j < (freeT a).length→∀ h:j < (freeT a).length,∀ σ r,ArrIn σ r (addA (addA [] (freeT f)) ((freeT a).take j))→T n n_9 [r,.str (freeT a)[j]] σ=some (.ret ⟨false,.bool ((addA (addA [] (freeT f)) ((freeT a).take j)).contains (freeT a)[j])⟩,σ) :=
   Evly.below _ fun j hj=>(zwh (addA (addA [] (freeT f)) ((freeT a).take j)) (freeT a)[j] (by
    have:=zff ((freeT a).take j) (addA [] (freeT f))
    simp only [List.length_nil,List.length_take] at this l3
    omega)).mono fun n h _ σ r hr=>h σ r hr
  exact ((zjk f (by omega)).and ((zjk a (by omega)).and (hc1.and hc2))).step (nT f + nT a + 5) fun m hm h σ hw=>zi4b m (by omega) f a σ hw h.1 h.2.1 (by omega) (by omega) h.2.2.1 h.2.2.2
end Go.Fu
namespace Go.Fu
open Go Go.Mx
set_option maxRecDepth 10000
theorem zhd:∀ (cs:List Cell) (i:Nat),zan cs i []=cs
 | [],_=>rfl
 | _ :: _,0=>rfl
 | _ :: _,_ + 1=>rfl
theorem zhpb:∀ (l:List (List UInt8)) (i:Nat) (s:List UInt8),i < l.length→zan (cellsOf (l.map D.str)) i [⟨false,.str s⟩]=cellsOf ((l.set i s).map D.str)
 | [],i,s,h=>by simp at h
 | x :: l,0,s,h=>by
  simp only [List.map_cons,cellsOf,D.cells,List.cons_append,List.nil_append,zan,zhd,List.set_cons_zero]
  rfl
 | x :: l,i + 1,s,h=>by
  have:=zhpb l i s (by simpa using h)
  simp only [List.map_cons,cellsOf,D.cells,List.map_nil,List.cons_append,List.nil_append,zan,List.set_cons_succ,this]
theorem row_S:∀ n:Nat,rowOf [D.str []] n=cellsOf ((List.replicate n ([]:List UInt8)).map D.str)
 | 0=>rfl
 | n + 1=>by
  simp only [rowOf,row_S n,List.replicate_succ,List.map_cons,cellsOf]
  rfl
theorem zmg:∀ (l:List (List UInt8)) (i:Nat),i≤l.length→zan (cellsOf (l.map D.str)) i (cellsOf ((List.replicate (l.length - i) ([]:List UInt8)).map D.str))=cellsOf ((l.take i ++ List.replicate (l.length - i) []).map D.str)
 | [],i,h=>by
  simp only [List.length_nil,Nat.le_zero] at h
  subst h
  rfl
 | x :: l,0,h=>by
  have:=zmg l 0 (Nat.zero_le _)
  simp only [Nat.sub_zero,List.take_zero,List.nil_append] at this
  simp only [List.length_cons,Nat.sub_zero,List.replicate_succ,List.map_cons,cellsOf,D.cells,List.map_nil,List.cons_append,List.nil_append,zan,List.take_zero,this]
 | x :: l,i + 1,h=>by
  have:=zmg l i (by simpa using h)
  simp only [List.length_cons,Nat.add_sub_add_right,List.map_cons,cellsOf,D.cells,List.map_nil,List.cons_append,List.nil_append,List.take_succ_cons]
  cases hr:cellsOf ((List.replicate (l.length - i) ([]:List UInt8)).map D.str) with
  | nil =>
   rw [hr,zhd] at this
   rw [zhd,this]
  | cons c r =>
   rw [hr] at this
   exact congrArg (Cell.of (.str x) :: ·) this
def setO (σ:Store) (id:Nat) (cs:List Cell):Store:={objs:=aset σ.objs id cs,tys:=σ.tys,oth:=σ.oth,next:=σ.next}
theorem zc2 (σ:Store) (id i:Nat) (cs:List Cell):aget (setO σ id cs).objs i=if i=id then some cs else aget σ.objs i:=zak _ _ _ _
theorem zom {σ:Store} (h:WF σ) (id:Nat) (cs:List Cell) (hi:id < σ.next):WF (setO σ id cs) :=
 ⟨fun p hp=>by
  rcases zw1 _ _ _ _ hp with h1 | h1
  ·rw [h1]; exact hi
  ·exact h.objs p h1,h.tys,h.oth⟩
theorem apA0 {σ0 σ σ1:Store} {r:D} {ls:List (List UInt8)} (h:ArrOf σ0 σ r ls) (hx:Ext σ σ1) (hl:ls.length < 1048576):∃ r' σ',zbr σ1 k_0 16 r []=some (r',σ')∧ArrOf σ0 σ' r' ls:=by
 have h':=h.ext hx
 rcases h'.2 with ⟨rfl,rfl⟩ | ⟨id,rfl,h1,h2,h3,h4,h5⟩
 ·exact ⟨.nils,σ1,rfl,h'⟩
 ·have hwf:=h'.1.wf
  refine ⟨.arr k_0 σ1.next 0 ls.length,zav {σ1 with objs:=adel1 σ1.objs id} k_0 (cellsOf (ls.map D.str)),?_,?_⟩
  ·have hc:=zcr (ls.map D.str) fun d hd=>(zfu ls d hd).1
   rw [List.length_map] at hc
   have ht:(cellsOf (ls.map D.str)).take (ls.length * k_0.sz)=cellsOf (ls.map D.str):=List.take_of_length_le (by omega)
   have e0:decide (ls.length * k_0.sz≤(cellsOf (ls.map D.str)).length)=true:=by simp; omega
   have e1:decide (ls.length * 16≤bound)=true:=decide_eq_true (show ls.length * 16≤1099511627776 by omega)
   have e2:decide (ls.length≤bound)=true:=decide_eq_true (show ls.length≤1099511627776 by omega)
   have ek:k_0.same k_0=true:=by simp [RowK.same]
   have ea:zau k_0.sz []=true:=rfl
   simp only [zbr,ea,zac,h1,h2,bindO,zab,ek,beq_self_eq_true,List.length_nil,Nat.add_zero,e0,e1,e2,Bool.and_self,ht,cellsOf,List.append_nil,zio]
  ·have hd:Ext σ0 {σ1 with objs:=adel1 σ1.objs id}:=by
    refine ⟨⟨fun p hp=>hwf.objs p (zeb _ _ _ hp),hwf.tys,hwf.oth⟩,h'.1.next,fun i hi=>?_,h'.1.tys,h'.1.oth⟩
    rw [← h'.1.objs i hi]
    exact zam _ _ _ (by omega)
   refine ⟨hd.trans (zf5 hd.wf _ _ 2 (by omega)),.inr ⟨σ1.next,rfl,?_,?_,h'.1.next,?_,h5⟩⟩
   ·simp [zav,aget,ifB]
   ·simp [zav,aget,ifB]
   ·simp only [zav]; omega
theorem zgub {σ:Store} {r:D} {ls:List (List UInt8)} (h:ArrIn σ r ls):listOf σ.objs r=some (ls.map D.str):=by
 rcases h with ⟨rfl,rfl⟩ | ⟨id,rfl,h1,_,_⟩
 ·rfl
 ·have e:=zkf (k:=k_0) (ds:=ls.map D.str) (zfu ls)
  have hc:=zcr (ls.map D.str) fun d hd=>(zfu ls d hd).1
  rw [List.length_map] at e hc
  have hk:(k_0.ag || k_0.sz == 1)=true:=rfl
  have hd:decide ((0 + ls.length) * k_0.sz≤(cellsOf (ls.map D.str)).length)=true:=by simp; omega
  simp only [listOf,h1,bindO,zab,hk,hd,Bool.and_self,zac,e]
def DelC (C:CallF) (vs:List (List UInt8)) (cap:Nat) (σ:Store) (s:List UInt8):Prop:=C n_16 [.str s,.ptr cap 0] σ=some (.ret ⟨false,.bool (vs.contains s)⟩,σ)
theorem zd0b (vs:List (List UInt8)) (hv:vs.length < 1048576) (s:List UInt8):Evly fun n=>∀ σ cap rest,aget σ.objs cap=some (⟨false,dSs vs⟩ :: rest)→DelC (T n) vs cap σ s:=(zor vs s hv).step 0 fun m _ h σ cap rest ho=>by
 have h1:=h σ
 unfold DelC
 rw [T_fun (af:=a_151) rfl rfl]
 simp only [a_151,sA,seval,kn,zeroI,lit1,lit2,lit3,lit4,lit5,lit6,lit7,lit8,fnq,memE,memOp,ho,h1]
section
variable {C:CallF} {n:Nat}
def EXf (id cap:Nat) (l:List (List UInt8)) (i:Nat):Env:={slots:=[(0,⟨false,.arr k_0 id 0 l.length⟩),(1,⟨false,.fn (.func n_16) [] [.ptr cap 0]⟩),(7,⟨false,.int .i64 l.length⟩),(8,⟨false,.int .i64 i⟩)],locs:=[],boxes:=[],defers:=[]}
theorem zj6b (vs:List (List UInt8)) (σ:Store) (id cap:Nat) (l:List (List UInt8)) (i:Nat) (h:i < l.length) (hl:l.length < 1048576) (ha:aget σ.objs id=some (cellsOf (l.map D.str))) (hc:DelC C vs cap σ l[i]) (hp:vs.contains l[i]=false):exec C n none a_35 (EXf id cap l i) σ=some (.normal,EXf id cap l (i + 1),σ):=by
 have hi:((i:Int) < (l.length:Int)):=by omega
 have hx:=zew l i h
 unfold DelC at hc
 rw [hp] at hc
 simp only [a_35,EXf,sA,seval,kn,zeroI,lit1,lit2,lit3,lit4,lit5,lit6,lit7,lit8,fnq,memE,memOp,zbw,Nat.mul_one,hi,h,ha,hx,hc,zaj (i:=i) (by omega)]
theorem zj7b (vs:List (List UInt8)) (σ:Store) (id cap:Nat) (l:List (List UInt8)) (i:Nat) (h:i < l.length) (ha:aget σ.objs id=some (cellsOf (l.map D.str))) (hc:DelC C vs cap σ l[i]) (hp:vs.contains l[i]=true):exec C n none a_35 (EXf id cap l i) σ=some (.ret,{slots:=[(4,⟨false,.int .i64 i⟩)],locs:=[],boxes:=[],defers:=[]},σ):=by
 have hi:((i:Int) < (l.length:Int)):=by omega
 have hx:=zew l i h
 unfold DelC at hc
 rw [hp] at hc
 simp only [a_35,EXf,sA,seval,kn,zeroI,lit1,lit2,lit3,lit4,lit5,lit6,lit7,lit8,fnq,memE,memOp,zbw,Nat.mul_one,hi,h,ha,hx,hc]
theorem zndb (σ:Store) (id cap:Nat) (l:List (List UInt8)):exec C n none a_35 (EXf id cap l l.length) σ=some (.exit 0,{EXf id cap l l.length with slots:=[(0,⟨false,.arr k_0 id 0 l.length⟩),(1,⟨false,.fn (.func n_16) [] [.ptr cap 0]⟩),(7,⟨false,.int .i64 l.length⟩),(8,⟨false,.int .i64 l.length⟩),(9,⟨false,.bool false⟩)]},σ):=by
 have hi:¬ ((l.length:Int) < (l.length:Int)):=by omega
 simp only [a_35,EXf,sA,seval,kn,hi]
end
def nvF (vs l:List (List UInt8)) (i:Nat):Bool:=match l[i]? with
 | some x=>!(vs.contains x)
 | none=>true
theorem zk0 {vs l:List (List UInt8)} {i:Nat} (h:i < l.length):nvF vs l i=!(vs.contains l[i]):=by simp [nvF,h]
theorem ixf (m:Nat) (vs l:List (List UInt8)) (σ:Store) (id cap:Nat) (hl:l.length < 1048576) (hm:l.length < m) (ha:aget σ.objs id=some (cellsOf (l.map D.str))) (hc:∀ s∈l,DelC (T m) vs cap σ s) :
  (∃ i,∃ h:i < l.length,vs.contains l[i]=true∧(∀ j,∀ h:j < l.length,j < i→vs.contains l[j]=false)∧T (m + 1) n_179 [.arr k_0 id 0 l.length,.fn (.func n_16) [] [.ptr cap 0]] σ=some (.ret ⟨false,.int .i64 i⟩,σ)) ∨
  ((∀ j,∀ h:j < l.length,vs.contains l[j]=false)∧T (m + 1) n_179 [.arr k_0 id 0 l.length,.fn (.func n_16) [] [.ptr cap 0]] σ=some (.ret ⟨false,.int .i64 (-1)⟩,σ)):=by
 rw [T_fun (af:=a_71) rfl rfl]
 have hloop:=zfb (body:=exec (T m) m none a_35) (EXf id cap l) (fun _=>σ) l.length (nvF vs l) (stop:=fun i=>(.ret,{slots:=[(4,⟨false,.int .i64 i⟩)],locs:=[],boxes:=[],defers:=[]},σ)) (fun _ _ h=>by cases h) (fun _ _ _ h=>by cases h)
  (fun i hi hp=>zj6b vs σ id cap l i hi hl ha (hc _ (List.getElem_mem hi)) (by rw [zk0 hi] at hp; simpa using hp)) (fun i hi hp=>zj7b vs σ id cap l i hi ha (hc _ (List.getElem_mem hi)) (by rw [zk0 hi] at hp; simpa using hp)) (zndb σ id cap l) m 0 (by omega) (by omega)
 simp only [EXf,zeroI] at hloop
 rcases hloop with ⟨i,_,hi,hp,hb,hrest⟩ | ⟨hp,hrest⟩
 ·refine .inl ⟨i,hi,by rw [zk0 hi] at hp; simpa using hp,fun j hj hji=>by have:=hb j (Nat.zero_le _) hji; rw [zk0 hj] at this; simpa using this,?_⟩
  simp only [a_71,sA,seval,kn,hrest]
 ·refine .inr ⟨fun j hj=>by have:=hp j (Nat.zero_le _) hj; rw [zk0 hj] at this; simpa using this,?_⟩
  simp only [a_71,sA,seval,kn,hrest]
section
variable {C:CallF} {n:Nat}
def EDf (id cap len i j:Nat):Env:={slots:=[(0,⟨false,.arr k_0 id 0 len⟩),(1,⟨false,.fn (.func n_16) [] [.ptr cap 0]⟩),(5,⟨false,.int .i64 i⟩),(6,⟨false,.int .i64 j⟩)],locs:=[],boxes:=[],defers:=[]}
theorem zjob (vs:List (List UInt8)) (σ:Store) (id cap i j:Nat) (A:List (List UInt8)) (h:j < A.length) (hl:A.length < 1048576) (ha:aget σ.objs id=some (cellsOf (A.map D.str))) (hc:DelC C vs cap σ A[j]) (hp:vs.contains A[j]=true):exec C n none a_43 (EDf id cap A.length i j) σ=some (.normal,EDf id cap A.length i (j + 1),σ):=by
 have hi:((j:Int) < (A.length:Int)):=by omega
 have hx:=zew A j h
 unfold DelC at hc
 rw [hp] at hc
 simp only [a_43,EDf,sA,seval,kn,zeroI,lit1,lit2,lit3,lit4,lit5,lit6,lit7,lit8,fnq,memE,memOp,zbw,Nat.mul_one,hi,h,ha,hx,hc,zaj (i:=j) (by omega)]
theorem zjnb (vs:List (List UInt8)) (σ:Store) (id cap i j:Nat) (A:List (List UInt8)) (h:j < A.length) (hij:i < A.length) (hl:A.length < 1048576) (ha:aget σ.objs id=some (cellsOf (A.map D.str))) (hc:DelC C vs cap σ A[j]) (hp:vs.contains A[j]=false):exec C n none a_43 (EDf id cap A.length i j) σ=some (.normal,EDf id cap A.length (i + 1) (j + 1),setO σ id (cellsOf ((A.set i A[j]).map D.str))):=by
 have hi:((j:Int) < (A.length:Int)):=by omega
 have hx:=zew A j h
 have hs:=zhpb A i A[j] hij
 have hlen:=zcr (z:=1) (A.map D.str) fun d hd=>(zfu A d hd).1
 rw [List.length_map,Nat.mul_one] at hlen
 have d1:i + 1≤(cellsOf (A.map D.str)).length:=by omega
 unfold DelC at hc
 rw [hp] at hc
 simp only [a_43,EDf,sA,seval,kn,zeroI,lit1,lit2,lit3,lit4,lit5,lit6,lit7,lit8,fnq,memE,memOp,zbw,Nat.mul_one,hi,h,hij,ha,hx,hc,hs,d1,setO,zaj (i:=j) (by omega),zaj (i:=i) (by omega)]
theorem zmyb (σ:Store) (id cap len i:Nat):exec C n none a_43 (EDf id cap len i len) σ=some (.exit 0,{EDf id cap len i len with slots:=[(0,⟨false,.arr k_0 id 0 len⟩),(1,⟨false,.fn (.func n_16) [] [.ptr cap 0]⟩),(5,⟨false,.int .i64 i⟩),(6,⟨false,.int .i64 len⟩),(19,⟨false,.bool false⟩)]},σ):=by
 have hi:¬ ((len:Int) < (len:Int)):=by omega
 simp only [a_43,EDf,sA,seval,kn,hi]
end
def keepV (vs l:List (List UInt8)):List (List UInt8):=l.filter fun s=>!(vs.contains s)
structure DInv (vs l:List (List UInt8)) (id cap:Nat) (σ:Store) (j:Nat) (e:Env) (σ':Store):Prop where
 ex:∃ (i:Nat) (A:List (List UInt8)),e=EDf id cap l.length i j∧i≤j∧A.length=l.length∧A.take i=keepV vs (l.take j)∧A.drop j=l.drop j∧aget σ'.objs id=some (cellsOf (A.map D.str))
 objs:∀ k,k≠id→aget σ'.objs k=aget σ.objs k
 wf:WF σ'
 tys:σ'.tys=σ.tys
 oth:σ'.oth=σ.oth
 next:σ'.next=σ.next
theorem zfub {C:CallF} {n:Nat} (vs l:List (List UInt8)) (σ:Store) (id cap:Nat) (rest:List Cell) (hcap:aget σ.objs cap=some (⟨false,dSs vs⟩ :: rest)) (hne:cap≠id) (hid:id < σ.next) (hl:l.length < 1048576)
  (hc:∀ s∈l,∀ σ',aget σ'.objs cap=some (⟨false,dSs vs⟩ :: rest)→DelC C vs cap σ' s) (j:Nat) (e:Env) (σ':Store) (hj:j < l.length) (h:DInv vs l id cap σ j e σ') :
  ∃ e' σ'',exec C n none a_43 e σ'=some (.normal,e',σ'')∧DInv vs l id cap σ (j + 1) e' σ'':=by
 obtain ⟨i,A,rfl,hij,hA,ht,hd,ha⟩:=h.ex
 have hjA:j < A.length:=by omega
 have hg:A[j]=l[j]:=by
  have h1:(A.drop j)[0]'(by simp; omega)=A[j]:=by simp
  have h2:(l.drop j)[0]'(by simp; omega)=l[j]:=by simp
  rw [← h1,← h2]
  simp only [hd]
 have hcc:=hc l[j] (List.getElem_mem hj) σ' (by rw [h.objs cap hne]; exact hcap)
 have hdrop:A.drop (j + 1)=l.drop (j + 1):=by
  have e1:A.drop (j + 1)=(A.drop j).drop 1:=by rw [List.drop_drop]
  have e2:l.drop (j + 1)=(l.drop j).drop 1:=by rw [List.drop_drop]
  rw [e1,e2,hd]
 have hk:keepV vs (l.take (j + 1))=keepV vs (l.take j) ++ (if vs.contains l[j] then [] else [l[j]]):=by
  rw [← zba l j hj]
  unfold keepV
  rw [List.filter_append]
  cases hv:vs.contains l[j] with
  | true=>simp only [List.filter_cons,hv,Bool.not_true,Bool.false_eq_true,if_false,List.filter_nil,if_true]
  | false=>simp only [List.filter_cons,hv,Bool.not_false,if_true,List.filter_nil,Bool.false_eq_true,if_false]
 cases hv:vs.contains l[j] with
 | true =>
  rw [hv,if_pos rfl,List.append_nil] at hk
  refine ⟨EDf id cap l.length i (j + 1),σ',?_,⟨⟨i,A,rfl,by omega,hA,by rw [ht,hk],hdrop,ha⟩,h.objs,h.wf,h.tys,h.oth,h.next⟩⟩
  have:=zjob (C:=C) (n:=n) vs σ' id cap i j A hjA (by omega) ha (by rw [hg]; exact hcc) (by rw [hg]; exact hv)
  rw [hA] at this
  exact this
 | false =>
  rw [hv,if_neg (by simp)] at hk
  have hiA:i < A.length:=by omega
  refine ⟨EDf id cap l.length (i + 1) (j + 1),setO σ' id (cellsOf ((A.set i A[j]).map D.str)),?_,⟨⟨i + 1,A.set i A[j],rfl,by omega,by simp [hA],?_,?_,?_⟩,fun k hk=>?_,zom h.wf _ _ (by rw [h.next]; exact hid),h.tys,h.oth,h.next⟩⟩
  ·have:=zjnb (C:=C) (n:=n) vs σ' id cap i j A hjA hiA (by omega) ha (by rw [hg]; exact hcc) (by rw [hg]; exact hv)
   rw [hA] at this
   exact this
  ·have hiS:i < (A.set i A[j]).length:=by simpa using hiA
   rw [hk,← ht,← zba _ _ hiS,List.getElem_set_self,List.take_set_of_le (Nat.le_refl _),hg]
  ·rw [← hdrop,List.drop_set_of_lt (by omega)]
  ·rw [zc2,if_pos rfl]
  ·rw [zc2,if_neg hk]
   exact h.objs k ‹_›
end Go.Fu

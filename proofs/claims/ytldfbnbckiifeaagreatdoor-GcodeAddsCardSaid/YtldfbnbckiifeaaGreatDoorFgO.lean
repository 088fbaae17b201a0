/-
 Code is the same as itself: the document's Same.
-/
import Derived.Test.YtldfbnbckiifeaaGreatDoorFgT
set_option maxHeartbeats 4000000
set_option linter.unusedSimpArgs false
set_option linter.unusedVariables false
set_option linter.unusedSectionVars false
namespace Go.Fu
open Go Go.Mx
set_option maxRecDepth 10000
set_option maxHeartbeats 4000000
section
variable {C:aM} {n:Nat} {σ:Store}
theorem za9b {op:BinOp} {ks:List Nat} {x y:AOpd} {e:Env}:aK (.eqA op ks x y) e σ=aC (opd e x) fun a=>aC (opd e y) fun b=>aC a.d.agg? fun aas=>aC b.d.agg? fun bs=>ifB (nC ks aas && nC ks bs) (aC (tZ op (Am aas bs)) fun d=>some (.c ⟨false,d⟩)) none:=rfl
theorem zz9 (i:In):nC [1,0,0,1] [.str i.op,.int .i64 i.n,.int .i64 i.m,.str i.name]=true∧Am [.str i.op,.int .i64 i.n,.int .i64 i.m,.str i.name] [.str i.op,.int .i64 i.n,.int .i64 i.m,.str i.name]=true:=⟨rfl,by simp [Am,zfk]⟩
def Jc (cs:List Cd) (i k:Nat):Env:={slots:=[(0,⟨false,dDs cs⟩),(1,⟨false,dDs cs⟩),(5,⟨false,.int .i64 i⟩),(6,⟨false,.int .i64 k⟩)],locs:=[],boxes:=[],defers:=[]}
def Jd (cs:List Cd) (i:Nat):Env:={slots:=[(0,⟨false,dDs cs⟩),(1,⟨false,dDs cs⟩),(5,⟨false,.int .i64 i⟩)],locs:=[],boxes:=[],defers:=[]}
theorem yO (l:List Cd) (i:Nat) (h:i < l.length):dC 3 (dDs l) i=some (.eptr (.agg [.str l[i].name,.int .i64 l[i].arity,dIs l[i].body])):=jU rfl _ _ _ h
theorem Ky (l:List Cd):lenOf (dDs l)=some l.length:=jN _ l
theorem zbmb (l:List In) (i:Nat) (h:i < l.length):dC 4 (dIs l) i=some (.eptr (.agg [.str l[i].op,.int .i64 l[i].n,.int .i64 l[i].m,.str l[i].name])):=jU rfl _ _ _ h
theorem zgx (l:List In):lenOf (dIs l)=some l.length:=jN _ l
theorem Wy (l:List In):(dIs l).one=true:=bZ
theorem zfd (l:List In):(dIs l).ok=true:=dQ
theorem Og (l:List In):(dIs l).cells=[dIs l]:=bX
theorem zfe (s:Tx) (k:Int) (d:D):Mx.part none [.str s,.int .i64 k,d] 0=some (.str s):=rfl
theorem zff (s:Tx) (k:Int) (d:D):Mx.part none [.str s,.int .i64 k,d] 1=some (.int .i64 k):=rfl
theorem zos (s:Tx) (k:Int) (d:D):Mx.part none [.str s,.int .i64 k,d] 2=some d:=rfl
theorem zvn (cs:List Cd) (i k:Nat) (hi:i < cs.length) (hk:k < cs[i].body.length) (hb:cs[i].body.length < 1000000000):exec C n none Yw (Jc cs i k) σ=some (.normal,Jc cs i (k + 1),σ):=by
 have hx:=yO cs i hi
 generalize cs[i]=c at hx hk hb
 have hlt:((k:Int) < (c.body.length:Int)):=by omega
 have w:=aR (i:=k) (by omega)
 have hy:=zbmb c.body k hk
 have hl:=zgx c.body
 generalize c.body[k]=x at hy
 obtain ⟨s1,s2⟩:=zz9 x
 simp only [Yw,Jc,sA,seval,kn,Wy,zfd,Og,cL,hx,zos,hl,hlt,hy,za9b,s1,s2,w]
theorem zabb (cs:List Cd) (i:Nat) (hi:i < cs.length):exec C n none Yw (Jc cs i cs[i].body.length) σ=some (.exit 2,{Jc cs i cs[i].body.length with slots:=[(0,⟨false,dDs cs⟩),(1,⟨false,dDs cs⟩),(5,⟨false,.int .i64 i⟩),(6,⟨false,.int .i64 cs[i].body.length⟩),(64,⟨false,.bool false⟩)]},σ):=by
 have hx:=yO cs i hi
 generalize cs[i]=c at hx
 have hlt:¬ ((c.body.length:Int) < (c.body.length:Int)):=by omega
 have hl:=zgx c.body
 simp only [Yw,Jc,sA,seval,kn,Wy,zfd,Og,cL,hx,zos,hl,hlt]
theorem zvo (cs:List Cd) (i:Nat) (hi:i < cs.length) (hc:cs.length < 100000000) (hb:cs[i].body.length < 100000000) (hn:cs[i].body.length < n):exec C n none Yx (Jd cs i) σ=some (.normal,Jd cs (i + 1),σ):=by
 have hloop:=gI (body:=exec C n none Yw) (fun k=>Jc cs i k) (fun _=>σ) cs[i].body.length (r:=_) (fun _ _ h=>by cases h) (fun k hk=>zvn cs i k hi hk (by omega)) (zabb cs i hi) 0 n (by omega) (by omega)
 have hlt:((i:Int) < (cs.length:Int)):=by omega
 have w:=aR (i:=i) (by omega)
 have hx:=yO cs i hi
 have hlc:=Ky cs
 generalize cs[i]=c at hx hloop
 have hl:=zgx c.body
 have b1:(!(c.name == c.name))=false:=by simp
 have b2:(c.arity != c.arity)=false:=by simp
 have b3:((c.body.length:Int) != (c.body.length:Int))=false:=by simp
 simp only [Jc,bV] at hloop
 simp only [Yx,Jd,sA,seval,kn,Wy,zfd,Og,cL,hlc,hlt,hx,zfe,zff,zos,hl,b1,b2,b3,hloop,w]
theorem zacb (cs:List Cd):exec C n none Yx (Jd cs cs.length) σ=some (.exit 0,{Jd cs cs.length with slots:=[(0,⟨false,dDs cs⟩),(1,⟨false,dDs cs⟩),(5,⟨false,.int .i64 cs.length⟩),(15,⟨false,.bool false⟩)]},σ):=by
 have hlt:¬ ((cs.length:Int) < (cs.length:Int)):=by omega
 have hlc:=Ky cs
 simp only [Yx,Jd,sA,seval,kn,Wy,zfd,Og,hlc,hlt]
end
theorem zp3 (cs:List Cd) (hc:cs.length < 100000000) (hb:∀ c∈cs,c.body.length < 100000000):OkP Ou [dDs cs,dDs cs] ⟨false,.bool true⟩:=by
 refine eD (af:=zd4) (n:=100000001) (σ':=σ0) (eR [] 1) rfl rfl (by simp [aX,Lo]) rfl ?_
 have hloop:=gI (body:=exec (T [] 1) 100000001 none Yx) (fun i=>Jd cs i) (fun _=>σ0) cs.length (r:=_) (fun _ _ h=>by cases h) (fun i hi=>zvo cs i hi hc (hb _ (List.getElem_mem hi)) (by have:=hb _ (List.getElem_mem hi); omega)) (zacb cs) 0 100000001 (by omega) (by omega)
 have hlc:=Ky cs
 have b3:((cs.length:Int) != (cs.length:Int))=false:=by simp
 simp only [Jd,bV] at hloop
 simp only [zd4,sA,seval,kn,hlc,b3,hloop]
end Go.Fu
namespace Go.Fu
open Go Go.Mx
set_option maxRecDepth 10000
theorem cO {α:Type} (l:List α) (i:Nat) (d:α) (h:i < l.length):l.getD i d=l[i]:=by simp [List.getD_eq_getElem?_getD,List.getElem?_eq_getElem h]
section
variable {C:aM} {n:Nat} {σ:Store}
end
end Go.Fu
namespace Go.Fu
open Go Go.Mx
set_option maxRecDepth 10000
theorem zfz (l:List Tx):eL (dSs l)=some (l.map D.str):=pQ
theorem ztk (a b:List Tx) (o:Bool) (ho:a≠[]→o=true) (hl:a.length + b.length < 1000000000):cK k_0 16 ⟨o,dSs a⟩ (b.map D.str)=some ⟨true,dSs (a ++ b)⟩:=by
 rw [dSs,Px (fun h=>ho (by simpa using h)) (fun d hd=>by obtain ⟨x,_,rfl⟩:=List.mem_map.1 hd; exact ⟨rfl,rfl⟩) (by simp [bG]; omega) (by simp [bG]; omega)]
 rw [dSs,List.map_append]
theorem Oe (b:List Tx) (o:Bool) (hl:b.length < 1000000000):cK k_0 16 ⟨o,.nils⟩ (b.map D.str)=some ⟨true,dSs b⟩:=by
 have:=ztk [] b o (fun h=>absurd rfl h) (by simpa using hl)
 simpa [dSs,bE] using this
theorem zqe (a b:List Tx) (hl:a.length + b.length < 1000000000):OkP qR [dSs a,dSs b] ⟨false,dSs (a ++ b)⟩:=by
 refine OkP.weak (o:=true) rfl (eD (af:=Za) (n:=1) (σ':=σ0) (eR [] 0) rfl rfl (by simp [aX,cQ]) (cQ _) ?_)
 simp only [Za,sA,seval,kn,zfz,Oe a false (by omega),ztk a b true (fun _=>rfl) hl]
def op1 (s:Tx) (n:Int):In:=⟨s,n,0,[]⟩
section
variable {C:aM} {n:Nat} {σ:Store}
theorem zd0b (l:List In):lenOf (dIs l)=some l.length:=jN _ l
theorem zdxb (l:List In) (i:Nat) (h:i < l.length):dC 4 (dIs l) i=some (.eptr (dI l[i])):=jU rfl _ _ _ h
end
end Go.Fu
namespace Go.Fu
open Go Go.Mx
set_option maxRecDepth 10000
mutual
def Co.size:Co→Nat
 | .mk _ _ _ ks bs al=>1 + szK ks + szB bs + szA al
def szK:List Co→Nat
 | []=>0
 | c :: r=>c.size + szK r
def szB:List (Tx × Co)→Nat
 | []=>0
 | (_,c) :: r=>1 + c.size + szB r
def szA:List (Hd × Co)→Nat
 | []=>0
 | (h,c) :: r=>1 + h.vars.length + c.size + szA r
end
theorem gZ (c:Co):c.size=1 + szK c.ks + szB c.bs + szA c.al:=by
 cases c
 simp only [Co.size,Co.ks,Co.bs,Co.al]
theorem iF (c:Co):1≤c.size:=by rw [gZ]; omega
theorem za0:∀ l:List Co,l.length≤szK l
 | []=>by simp [szK]
 | c :: r=>by
  have:=za0 r
  have:=iF c
  simp only [szK,List.length_cons]
  omega
theorem lY:∀ l:List (Tx × Co),l.length≤szB l
 | []=>by simp [szB]
 | (s,c) :: r=>by
  have:=lY r
  simp only [szB,List.length_cons]
  omega
theorem nI:∀ l:List (Hd × Co),l.length≤szA l
 | []=>by simp [szA]
 | (s,c) :: r=>by
  have:=nI r
  simp only [szA,List.length_cons]
  omega
theorem xX:∀ (l:List Co) (x:Co),x∈l→x.size≤szK l
 | c :: r,x,h=>by
  simp only [szK]
  rcases List.mem_cons.1 h with rfl | h
  ·omega
  ·have:=xX r x h; omega
theorem oY:∀ (l:List (Tx × Co)) (x:Tx × Co),x∈l→x.2.size + 1≤szB l
 | (s,c) :: r,x,h=>by
  simp only [szB]
  rcases List.mem_cons.1 h with rfl | h
  ·simp only; omega
  ·have:=oY r x h; omega
theorem lN:∀ (l:List (Hd × Co)) (x:Hd × Co),x∈l→x.2.size + x.1.vars.length + 1≤szA l
 | (s,c) :: r,x,h=>by
  simp only [szA]
  rcases List.mem_cons.1 h with rfl | h
  ·simp only; omega
  ·have:=lN r x h; omega
theorem Hw (a b:List Co):szK (a ++ b)=szK a + szK b:=by
 induction a with
 | nil=>simp [szK]
 | cons x r ih=>simp only [List.cons_append,szK,ih]; omega
theorem zpi (a b:List (Tx × Co)):szB (a ++ b)=szB a + szB b:=by
 induction a with
 | nil=>simp [szB]
 | cons x r ih=>obtain ⟨s,c⟩:=x; simp only [List.cons_append,szB,ih]; omega
theorem zph (a b:List (Hd × Co)):szA (a ++ b)=szA a + szA b:=by
 induction a with
 | nil=>simp [szA]
 | cons x r ih=>obtain ⟨s,c⟩:=x; simp only [List.cons_append,szA,ih]; omega
theorem xQ (c:Co):(cCo c).length=10:=rfl
theorem dN (l:List Tx):(dSs l).one=true:=bZ
def dCs (l:List Co):D:=bE k_2 (l.map dCo)
def dBl (l:List (Tx × Co)):D:=bE k_3 (l.map dB)
def dAl (l:List (Hd × Co)):D:=bE k_4 (l.map dA)
theorem zxg (l:List Co):lenOf (dCs l)=some l.length:=jN _ l
theorem zzt (l:List Co):(dCs l).one=true:=bZ
theorem zzs (l:List (Tx × Co)):(dBl l).one=true:=bZ
theorem zzr (l:List (Hd × Co)):(dAl l).one=true:=bZ
theorem jF (c:Co):cCo c=[.int .i64 c.f,.int .i64 c.n,.str c.s,.int .i64 0,.int .i64 0,.str [],.nils,dCs c.ks,dBl c.bs,dAl c.al]:=rfl
section
variable {C:aM} {n:Nat} {σ:Store}
end
end Go.Fu
namespace Go.Fu
open Go Go.Mx
set_option maxRecDepth 10000
def eO (c:Co):List Co:=c.bs.map Prod.snd ++ c.ks ++ c.al.map Prod.snd
section
variable {C:aM} {n:Nat} {σ:Store}
end
theorem zyg {a b:List Co} (h:dCs a=dCs b):a=b:=qL rX (lH h)
def yN (c:Co) (i:Nat):List Tx:=if c.bs.length + c.ks.length≤i then (c.al.map fun a=>a.1.vars).getD (i - (c.bs.length + c.ks.length)) [] else c.bs.map Prod.fst
theorem zot (c:Co):(eO c).length=c.bs.length + c.ks.length + c.al.length:=by simp [eO]; omega
end Go.Fu
namespace Go.Fu
open Go Go.Mx
set_option maxRecDepth 10000
section
variable {C:aM} {n:Nat} {σ:Store}
end
section
variable {C:aM} {n:Nat} {σ:Store}
end
section
variable {C:aM} {n:Nat} {σ:Store}
def zR (l:List Tx) (j:Nat):Env:={slots:=[(0,⟨false,dSs l⟩),(3,⟨ow j,dSs (l.reverse.take j)⟩),(4,⟨false,.int .i64 ((l.length:Int) - 1 - j)⟩)],locs:=[],boxes:=[],defers:=[]}
theorem zqd (l:List Tx) (j:Nat) (h:j < l.length) (hl:l.length < 1000000000):exec C n none Yz (zR l j) σ=some (.normal,zR l (j + 1),σ):=by
 have hlt:l.length - 1 - j < l.length:=by omega
 have e:((l.length:Int) - 1 - (j:Int))=((l.length - 1 - j:Nat):Int):=by omega
 have hge:(((l.length - 1 - j:Nat):Int) ≥ 0):=by omega
 have w:IntKind.i64.wrap (((l.length - 1 - j:Nat):Int) - 1)=(l.length:Int) - 1 - ((j + 1:Nat):Int):=by rw [iQ (by omega) (by omega)]; omega
 have ha:=tQ (l.reverse.take j) l[l.length - 1 - j] (ow j) zxq (by simp; omega)
 have e2:l.reverse.take j ++ [l[l.length - 1 - j]]=l.reverse.take (j + 1):=by rw [← fL l.reverse j (by simpa using h),List.getElem_reverse]
 rw [e2] at ha
 simp only [Yz,zR,e,sA,seval,kn,hge,cL,uV l _ hlt,ha,w,kP]
theorem zto (l:List Tx):exec C n none Yz (zR l l.length) σ=some (.exit 0,{zR l l.length with slots:=[(0,⟨false,dSs l⟩),(3,⟨ow l.length,dSs l.reverse⟩),(4,⟨false,.int .i64 (-1)⟩),(9,⟨false,.bool false⟩)]},σ):=by
 have e:((l.length:Int) - 1 - (l.length:Int))=-1:=by omega
 have e2:l.reverse.take l.length=l.reverse:=by rw [List.take_of_length_le (by simp)]
 simp only [Yz,zR,e,sA,seval,kn,e2]
end
theorem zqc (l:List Tx) (hl:l.length < 1000000000):OkP zod [dSs l] ⟨false,dSs l.reverse⟩:=by
 refine OkP.weak (o:=ow l.length) rfl (eD (af:=zd5) (n:=l.length + 1) (σ':=σ0) (eR [] 0) rfl rfl (by simp [aX,cQ]) (cQ _) ?_)
 have h:=gI (body:=exec (T [] 0) (l.length + 1) none Yz) (zR l) (fun _=>σ0) l.length (r:=_) (fun _ _ h=>by cases h) (fun i hi=>zqd l i hi hl) (zto l) 0 (l.length + 1) (by omega) (by omega)
 have w:IntKind.i64.wrap ((l.length:Int) - 1)=(l.length:Int) - 1:=iQ (by omega) (by omega)
 have e0:(l.length:Int) - 1 - ((0:Nat):Int)=(l.length:Int) - 1:=by omega
 have e1:dSs []=.nils:=rfl
 simp only [zR,e0,List.take_zero,e1,xR] at h
 simp only [zd5,sA,seval,kn,nW,w,h]
def zadb:List D→Cell→Prop:=fun ds c=>∀ l,ds=[dSs l]→c=⟨false,dSs l.reverse⟩
theorem pS {S:aV} (hS:aB S zod=some zadb) (l:List Tx) (hl:l.length < 1000000000) (n:Nat) (σ:Store):T S (n + 1) zod [dSs l] σ=some (.ret ⟨false,dSs l.reverse⟩,σ):=by
 obtain ⟨c,h1,h2⟩:=kZ (S:=S) hS rfl (c:=⟨false,dSs l.reverse⟩) (fun l' e=>by
  simp only [List.cons.injEq,and_true] at e
  rw [iH e]) (zqc l hl)
 rw [h2,h1 l rfl]
def xF (s:Tx):Tx:=ifB (s == [97,100,100]) [65,68,68] (ifB (s == [115,117,98]) [83,85,66] (ifB (s == [109,117,108]) [77,85,76] (ifB (s == [100,105,118]) [68,73,86] (ifB (s == [101,113]) [69,81] (ifB (s == [108,116]) [76,84] [])))))
end Go.Fu
namespace Go.Fu
open Go Go.Mx
set_option maxRecDepth 10000
def iP (l:List Tx):Bool:=(List.range l.length).any fun i=>(List.range i).any fun k=>l.getD i [] == l.getD k []
section
variable {C:aM} {n:Nat} {σ:Store}
end
def FL:List Fd:=[⟨[70,97,108,115,101],0,2,0⟩,⟨[84,114,117,101],1,2,0⟩,⟨[78,105,108],0,2,0⟩,⟨[67,111,110,115],1,2,2⟩,⟨[79,110,101],0,1,1⟩]
theorem zqx {a b:Fd} (h:dF a=dF b):a=b:=by
 cases a; cases b
 simpa [dF] using h
theorem zyi {a b:List Fd} (h:dFs a=dFs b):a=b:=qL zqx (lH h)
theorem rB (l:List Fd):lenOf (dFs l)=some l.length:=jN _ l
theorem Oi (l:List Fd) (i:Nat) (h:i < l.length):dC 8 (dFs l) i=some (.eptr (dF l[i])):=jU rfl _ _ _ h
def Vj (s:Tx) (m:Int) (f:Fd):Bool:=(f.name == s) && (decide (m < 0) || (f.arity == m))
def sV (l:List Fd) (s:Tx) (m:Int):Bool:=l.any (Vj s m)
section
variable {C:aM} {n:Nat} {σ:Store}
def f0:Fd:=⟨[],0,0,0⟩
end
end Go.Fu
namespace Go.Fu
open Go Go.Mx
set_option maxRecDepth 10000
def zfr (h:Hd):Prop:=Small h.num∧iP h.vars=false∧((h.form=1∧sV FL h.name h.vars.length=true)∨(h.form=2∧h.vars=[])∨(h.form=3∧h.vars=[]))
inductive Good:List Tx→Co→Prop
 | int {ns n}:Small n→Good ns (.mk 3 n [] [] [] [])
 | con {ns s}:sV FL s (-1)=true→Good ns (.mk 2 0 s [] [] [])
 | var {ns s}:ns.any (· == s)=true→Good ns (.mk 1 0 s [] [] [])
 | fail {ns}:Good ns (.mk 11 0 [] [] [] [])
 | app {ns a b}:Good ns a→Good ns b→Good ns (.mk 4 0 [] [a,b] [] [])
 | prim {ns s a b}:(xF s == [])=false→Good ns a→Good ns b→Good ns (.mk 10 0 s [a,b] [] [])
 | lt {ns b bs}:iP (bs.map Prod.fst)=false→(∀ p∈bs,Good (ns ++ bs.map Prod.fst) p.2)→Good (ns ++ bs.map Prod.fst) b→Good ns (.mk 8 0 [] [b] bs [])
 | cas {ns x al}:Good ns x→(∀ a∈al,zfr a.1)→(∀ a∈al,Good (ns ++ a.1.vars) a.2)→Good ns (.mk 9 0 [] [x] [] al)
section
variable {f n:Int} {s:Tx} {ks:List Co} {bs:List (Tx × Co)} {al:List (Hd × Co)}
theorem co:(Co.mk f n s ks bs al).f=f∧(Co.mk f n s ks bs al).n=n∧(Co.mk f n s ks bs al).s=s∧(Co.mk f n s ks bs al).ks=ks∧(Co.mk f n s ks bs al).bs=bs∧(Co.mk f n s ks bs al).al=al:=⟨rfl,rfl,rfl,rfl,rfl,rfl⟩
end
/-! ### Forms -/
section
variable {C:aM} {n:Nat} {σ:Store}
end
section
variable {C:aM} {n:Nat} {σ:Store}
end
end Go.Fu
namespace Go.Fu
open Go Go.Mx
set_option maxRecDepth 10000
section
variable {C:aM} {n:Nat} {σ:Store}
end
theorem znm {ns:List Tx} {c:Co} (h:Good ns c):iP (c.bs.map Prod.fst)=false:=by
 cases h <;> first | rfl | assumption
theorem Fq {ns:List Tx} {c:Co} (h:Good ns c):∀ a∈c.al,zfr a.1:=by
 cases h <;> first | (intro a ha; cases ha; done) | assumption
section
variable {C:aM} {n:Nat} {σ:Store}
end
theorem zrd {ns:List Tx} {c:Co} (h:Good ns c):(c.f=1∧ns.any (· == c.s)=true)∨(c.f=2∧sV FL c.s (-1)=true)∨((c.f == 1)=false∧(c.f == 2)=false):=by
 cases h with
 | int _=>exact .inr (.inr ⟨rfl,rfl⟩)
 | con h=>exact .inr (.inl ⟨rfl,h⟩)
 | var h=>exact .inl ⟨rfl,h⟩
 | fail=>exact .inr (.inr ⟨rfl,rfl⟩)
 | app _ _=>exact .inr (.inr ⟨rfl,rfl⟩)
 | prim _ _ _=>exact .inr (.inr ⟨rfl,rfl⟩)
 | lt _ _ _=>exact .inr (.inr ⟨rfl,rfl⟩)
 | cas _ _ _=>exact .inr (.inr ⟨rfl,rfl⟩)
end Go.Fu
namespace Go.Fu
open Go Go.Mx
set_option maxRecDepth 10000
def cU (u:Su):List D:=.str u.name :: dSs u.ps :: cCo u.body
theorem zxd (u:Su):dU u=.agg (cU u):=rfl
theorem zoo (u:Su):(dU u).ok=true:=by
 rw [zxd]
 simp only [cU,jF,D.ok,List.all_cons,D.one,dN,zzt,zzs,zzr,List.all_nil,Bool.and_self]
theorem yH (u:Su):(dU u).cells.length=12:=rfl
theorem Gg (l:List Su):lenOf (dUs l)=some l.length:=jN _ l
theorem zen (l:List Su) (i:Nat) (h:i < l.length):dC 12 (dUs l) i=some (.eptr (dU l[i])):=jU rfl _ _ _ h
theorem Eo (l:List Su):eL (dUs l)=some (l.map dU):=pQ
section
variable {C:aM} {n:Nat} {σ:Store}
end
structure GoodP (us:List Su):Prop where
 few:us.length < 1000
 once:iP (FL.map Fd.name ++ us.map Su.name)=false
 ps:∀ u∈us,iP u.ps=false∧u.ps.length < 1000
 body:∀ u∈us,Good (us.map Su.name ++ u.ps) u.body∧u.body.size < 10000000
section
variable {C:aM} {n:Nat} {σ:Store}
end
end Go.Fu
namespace Go.Fu
open Go Go.Mx
set_option maxRecDepth 10000
section
variable {C:aM} {n:Nat} {σ:Store}
theorem Rl:∀ (k a:Nat) (s:Tx),(Rk k a s).length≤s.length + k
 | 0,a,s=>by simp [Rk]
 | k + 1,a,s=>by
  unfold Rk
  by_cases h:a < 10
  ·rw [decide_eq_true h]
   simp only [aE,List.length_cons]
   omega
  ·rw [decide_eq_false h]
   simp only [aG]
   have:=Rl k (a / 10) (UInt8.ofNat (48 + a % 10) :: s)
   simp only [List.length_cons] at this
   omega
end
end Go.Fu
namespace Go.Fu
open Go Go.Mx
set_option maxRecDepth 10000
def bJ (s:Tx):Co:=.mk 1 0 s [] [] []
def appC' (a b:Co):Co:=.mk 4 0 [] [a,b] [] []
def jH (c:Co):List Tx→Co
 | []=>c
 | s :: l=>jH (appC' c (bJ s)) l
theorem zjb (c:Co) (l:List Tx) (s:Tx):jH c (l ++ [s])=appC' (jH c l) (bJ s):=by
 induction l generalizing c with
 | nil=>rfl
 | cons x r ih=>simp only [List.cons_append,jH,ih]
theorem zh9 (s:Tx):(bJ s).size=1:=by simp [bJ,Co.size,szK,szB,szA]
theorem zvm (a b:Co):(appC' a b).size=1 + a.size + b.size:=by simp [appC',Co.size,szK,szB,szA]; omega
theorem zka (c:Co) (l:List Tx):(jH c l).size=c.size + 2 * l.length:=by
 induction l generalizing c with
 | nil=>simp [jH]
 | cons x r ih=>simp only [jH,ih,zvm,zh9,List.length_cons]; omega
section
variable {C:aM} {n:Nat} {σ:Store}
end
end Go.Fu
namespace Go.Fu
open Go Go.Mx
set_option maxRecDepth 10000
def zgs (l:List Tx) (s:Tx):Bool:=l.any (· == s)
def c0:Co:=.mk 0 0 [] [] [] []
def nY (c:Co) (g s h:List Tx):Bool:=(((c.f == 1) && !zgs g c.s) && zgs s c.s) && !zgs h c.s
def fW:Nat→Co→List Tx→List Tx→List Tx→List Tx
 | 0,_,_,_,h=>h
 | k + 1,c,g,s,h=>ifB (nY c g s h) (h ++ [c.s]) ((List.range (eO c).length).foldl (fun h i=>fW k ((eO c).getD i c0) (g ++ yN c i) s h) h)
theorem sW {α β:Type} {f g:β→α→β}:∀ (l:List α) (b:β),(∀ a∈l,∀ b,f b a=g b a)→l.foldl f b=l.foldl g b
 | [],_,_=>rfl
 | a :: l,b,h=>by
  simp only [List.foldl_cons]
  rw [h a (List.mem_cons_self ..) b]
  exact sW l _ fun x hx=>h x (List.mem_cons_of_mem _ hx)
theorem Kr:∀ (m:Nat) (c:Co) (g s h:List Tx),(fW m c g s h).length≤h.length + c.size
 | 0,c,g,s,h=>by simp [fW]
 | m + 1,c,g,s,h=>by
  simp only [fW]
  have hp:=iF c
  cases nY c g s h with
  | true=>simp only [aE,List.length_append,List.length_cons,List.length_nil]; omega
  | false =>
   simp only [aG]
   have hf:∀ (n:Nat) (h:List Tx),n≤(eO c).length→((List.range n).foldl (fun h i=>fW m ((eO c).getD i c0) (g ++ yN c i) s h) h).length≤h.length + szK ((eO c).take n):=by
    intro n
    induction n with
    | zero=>intro h _; simp
    | succ n ihn =>
     intro h hn
     rw [List.range_succ,List.foldl_append]
     simp only [List.foldl_cons,List.foldl_nil]
     have h1:=Kr m ((eO c).getD n c0) (g ++ yN c n) s ((List.range n).foldl (fun h i=>fW m ((eO c).getD i c0) (g ++ yN c i) s h) h)
     have h2:=ihn h (by omega)
     rw [← fL (eO c) n (by omega),Hw]
     rw [cO _ _ _ (show n < (eO c).length by omega)] at h1 ⊢
     simp only [szK,Nat.add_zero]
     omega
   have:=hf (eO c).length h (Nat.le_refl _)
   rw [List.take_length] at this
   have hs:szK (eO c)≤c.size:=by
    have hsz:=gZ c
    have hbs:∀ l:List (Tx × Co),szK (l.map Prod.snd)≤szB l:=by
     intro l
     induction l with
     | nil=>simp [szK,szB]
     | cons x r ih=>obtain ⟨t,d⟩:=x; simp only [List.map_cons,szK,szB]; omega
    have has:∀ l:List (Hd × Co),szK (l.map Prod.snd)≤szA l:=by
     intro l
     induction l with
     | nil=>simp [szK,szA]
     | cons x r ih=>obtain ⟨t,d⟩:=x; simp only [List.map_cons,szK,szA]; omega
    rw [eO,Hw,Hw]
    have:=hbs c.bs
    have:=has c.al
    omega
   omega
section
variable {C:aM} {n:Nat} {σ:Store}
end
end Go.Fu
namespace Go.Fu
open Go Go.Mx
set_option maxRecDepth 10000
def cJ (F:Co→List Su→Co × List Su):List (Tx × Co)→List Su→List (Tx × Co) × List Su
 | [],m=>([],m)
 | p :: r,m=>((p.1,(F p.2 m).1) :: (cJ F r (F p.2 m).2).1,(cJ F r (F p.2 m).2).2)
def eJ (F:Co→List Su→Co × List Su):List Co→List Su→List Co × List Su
 | [],m=>([],m)
 | p :: r,m=>((F p m).1 :: (eJ F r (F p m).2).1,(eJ F r (F p m).2).2)
def fE (F:Hd→Co→List Su→Co × List Su):List (Hd × Co)→List Su→List (Hd × Co) × List Su
 | [],m=>([],m)
 | p :: r,m=>((p.1,(F p.1 p.2 m).1) :: (fE F r (F p.1 p.2 m).2).1,(fE F r (F p.1 p.2 m).2).2)
theorem Gi {F G:Co→List Su→Co × List Su}:∀ (l:List (Tx × Co)) (m:List Su),(∀ p∈l,∀ m,F p.2 m=G p.2 m)→cJ F l m=cJ G l m
 | [],m,_=>rfl
 | p :: l,m,h=>by
  simp only [cJ]
  rw [h p (List.mem_cons_self ..) m,Gi l _ fun q hq=>h q (List.mem_cons_of_mem _ hq)]
theorem Gj {F G:Co→List Su→Co × List Su}:∀ (l:List Co) (m:List Su),(∀ p∈l,∀ m,F p m=G p m)→eJ F l m=eJ G l m
 | [],m,_=>rfl
 | p :: l,m,h=>by
  simp only [eJ]
  rw [h p (List.mem_cons_self ..) m,Gj l _ fun q hq=>h q (List.mem_cons_of_mem _ hq)]
theorem Gh {F G:Hd→Co→List Su→Co × List Su}:∀ (l:List (Hd × Co)) (m:List Su),(∀ p∈l,∀ m,F p.1 p.2 m=G p.1 p.2 m)→fE F l m=fE G l m
 | [],m,_=>rfl
 | p :: l,m,h=>by
  simp only [fE]
  rw [h p (List.mem_cons_self ..) m,Gh l _ fun q hq=>h q (List.mem_cons_of_mem _ hq)]
theorem zg4 (F:Co→List Su→Co × List Su):∀ (l:List (Tx × Co)) (m:List Su),(cJ F l m).1.length=l.length
 | [],m=>rfl
 | p :: l,m=>by simp only [cJ,List.length_cons,zg4 F l]
theorem zg6 (F:Co→List Su→Co × List Su):∀ (l:List Co) (m:List Su),(eJ F l m).1.length=l.length
 | [],m=>rfl
 | p :: l,m=>by simp only [eJ,List.length_cons,zg6 F l]
theorem zg0 (F:Hd→Co→List Su→Co × List Su):∀ (l:List (Hd × Co)) (m:List Su),(fE F l m).1.length=l.length
 | [],m=>rfl
 | p :: l,m=>by simp only [fE,List.length_cons,zg0 F l]
theorem La (F:Co→List Su→Co × List Su):∀ (l:List (Tx × Co)) (m:List Su),(∀ p∈l,∀ m,(F p.2 m).2.length≤m.length + p.2.size)→(cJ F l m).2.length≤m.length + szB l
 | [],m,_=>by simp [cJ]
 | (s,c) :: l,m,h=>by
  have h1:=h (s,c) (List.mem_cons_self ..) m
  have h2:=La F l (F c m).2 fun q hq=>h q (List.mem_cons_of_mem _ hq)
  simp only [cJ,szB] at h1 h2 ⊢
  omega
theorem Lc (F:Co→List Su→Co × List Su):∀ (l:List Co) (m:List Su),(∀ p∈l,∀ m,(F p m).2.length≤m.length + p.size)→(eJ F l m).2.length≤m.length + szK l
 | [],m,_=>by simp [eJ]
 | c :: l,m,h=>by
  have h1:=h c (List.mem_cons_self ..) m
  have h2:=Lc F l (F c m).2 fun q hq=>h q (List.mem_cons_of_mem _ hq)
  simp only [eJ,szK] at h1 h2 ⊢
  omega
theorem zbn (F:Hd→Co→List Su→Co × List Su):∀ (l:List (Hd × Co)) (m:List Su),(∀ p∈l,∀ m,(F p.1 p.2 m).2.length≤m.length + p.2.size)→(fE F l m).2.length≤m.length + szA l
 | [],m,_=>by simp [fE]
 | (s,c) :: l,m,h=>by
  have h1:=h (s,c) (List.mem_cons_self ..) m
  have h2:=zbn F l (F s c m).2 fun q hq=>h q (List.mem_cons_of_mem _ hq)
  simp only [fE,szA] at h1 h2 ⊢
  omega
def jL (c:Co) (lz:Bool):Bool:=lz && (((c.f == 9) || (c.f == 10)) || (c.f == 11))
def uW (t:Tx) (m:List Su):Tx:=(t ++ [37]) ++ cE ((m.length:Int) + 1)
def sX (c:Co) (ar:List Tx) (t:Tx) (m:List Su):Co × List Su:=(jH (bJ (uW t m)) (fW c.size c [] ar []),m ++ [⟨uW t m,fW c.size c [] ar [],c⟩])
def eY:Nat→Co→Bool→List Tx→Tx→List Su→Co × List Su
 | 0,c,_,_,_,m=>(c,m)
 | k + 1,c,lz,ar,t,m=>ifB (jL c lz) (sX c ar t m) (
     (.mk c.f c.n c.s (eJ (fun x m=>eY k x (lz || (c.f == 4)) (ar ++ c.bs.map Prod.fst) t m) c.ks (cJ (fun x m=>eY k x true (ar ++ c.bs.map Prod.fst) t m) c.bs m).2).1 (cJ (fun x m=>eY k x true (ar ++ c.bs.map Prod.fst) t m) c.bs m).1
      (fE (fun h x m=>eY k x false (ar ++ h.vars) t m) c.al (eJ (fun x m=>eY k x (lz || (c.f == 4)) (ar ++ c.bs.map Prod.fst) t m) c.ks (cJ (fun x m=>eY k x true (ar ++ c.bs.map Prod.fst) t m) c.bs m).2).2).1),
     (fE (fun h x m=>eY k x false (ar ++ h.vars) t m) c.al (eJ (fun x m=>eY k x (lz || (c.f == 4)) (ar ++ c.bs.map Prod.fst) t m) c.ks (cJ (fun x m=>eY k x true (ar ++ c.bs.map Prod.fst) t m) c.bs m).2).2).2)
theorem Fh:∀ (n:Nat) (c:Co),c.size=n→∀ (k k':Nat) (lz:Bool) (ar:List Tx) (t:Tx) (m:List Su),c.size≤k→c.size≤k'→eY k c lz ar t m=eY k' c lz ar t m:=by
 intro n
 induction n using Nat.strongRecOn with
 | ind n ih =>
  intro c hn k k' lz ar t m hk hk'
  have hp:=iF c
  have hsz:=gZ c
  obtain ⟨k,rfl⟩:∃ j,k=j + 1:=⟨k - 1,by omega⟩
  obtain ⟨k',rfl⟩:∃ j,k'=j + 1:=⟨k' - 1,by omega⟩
  have hB:∀ m,cJ (fun x m=>eY k x true (ar ++ c.bs.map Prod.fst) t m) c.bs m=cJ (fun x m=>eY k' x true (ar ++ c.bs.map Prod.fst) t m) c.bs m:=fun m=>Gi _ _ fun p hp m=>by
   have:=oY c.bs p hp
   exact ih _ (by omega) _ rfl _ _ _ _ _ _ (by omega) (by omega)
  have hK:∀ m,eJ (fun x m=>eY k x (lz || (c.f == 4)) (ar ++ c.bs.map Prod.fst) t m) c.ks m=eJ (fun x m=>eY k' x (lz || (c.f == 4)) (ar ++ c.bs.map Prod.fst) t m) c.ks m:=fun m=>Gj _ _ fun p hp m=>by
   have:=xX c.ks p hp
   exact ih _ (by omega) _ rfl _ _ _ _ _ _ (by omega) (by omega)
  have hA:∀ m,fE (fun h x m=>eY k x false (ar ++ h.vars) t m) c.al m=fE (fun h x m=>eY k' x false (ar ++ h.vars) t m) c.al m:=fun m=>Gh _ _ fun p hp m=>by
   have:=lN c.al p hp
   exact ih _ (by omega) _ rfl _ _ _ _ _ _ (by omega) (by omega)
  simp only [eY,hB,hK,hA]
theorem wV:∀ (k:Nat) (c:Co) (lz:Bool) (ar:List Tx) (t:Tx) (m:List Su),(eY k c lz ar t m).2.length≤m.length + c.size
 | 0,c,lz,ar,t,m=>by simp [eY]
 | k + 1,c,lz,ar,t,m=>by
  have hp:=iF c
  have hsz:=gZ c
  simp only [eY]
  cases jL c lz with
  | true=>simp only [aE,sX,List.length_append,List.length_cons,List.length_nil]; omega
  | false =>
   simp only [aG]
   have h1:=La (fun x m=>eY k x true (ar ++ c.bs.map Prod.fst) t m) c.bs m fun p _ m=>wV k p.2 _ _ _ m
   have h2:=Lc (fun x m=>eY k x (lz || (c.f == 4)) (ar ++ c.bs.map Prod.fst) t m) c.ks (cJ (fun x m=>eY k x true (ar ++ c.bs.map Prod.fst) t m) c.bs m).2 fun p _ m=>wV k p _ _ _ m
   have h3:=zbn (fun h x m=>eY k x false (ar ++ h.vars) t m) c.al (eJ (fun x m=>eY k x (lz || (c.f == 4)) (ar ++ c.bs.map Prod.fst) t m) c.ks (cJ (fun x m=>eY k x true (ar ++ c.bs.map Prod.fst) t m) c.bs m).2).2 fun p _ m=>wV k p.2 _ _ _ m
   omega
def flM (c:Co) (lz:Bool) (ar:List Tx) (t:Tx) (m:List Su):Co × List Su:=eY c.size c lz ar t m
def fB (c:Co) (ar:List Tx) (t:Tx) (m:List Su) (i:Nat):List (Tx × Co) × List Su:=cJ (fun x m=>flM x true (ar ++ c.bs.map Prod.fst) t m) (c.bs.take i) m
def fK (c:Co) (lz:Bool) (ar:List Tx) (t:Tx) (m:List Su) (i:Nat):List Co × List Su:=eJ (fun x m=>flM x (lz || (c.f == 4)) (ar ++ c.bs.map Prod.fst) t m) (c.ks.take i) m
def fA (c:Co) (ar:List Tx) (t:Tx) (m:List Su) (i:Nat):List (Hd × Co) × List Su:=fE (fun h x m=>flM x false (ar ++ h.vars) t m) (c.al.take i) m
theorem vH (c:Co) (lz:Bool) (ar:List Tx) (t:Tx) (m:List Su) (h:jL c lz=false):flM c lz ar t m=(.mk c.f c.n c.s (fK c lz ar t (fB c ar t m c.bs.length).2 c.ks.length).1 (fB c ar t m c.bs.length).1 (fA c ar t (fK c lz ar t (fB c ar t m c.bs.length).2 c.ks.length).2 c.al.length).1,
  (fA c ar t (fK c lz ar t (fB c ar t m c.bs.length).2 c.ks.length).2 c.al.length).2):=by
 have hp:=iF c
 have hsz:=gZ c
 obtain ⟨k,hk⟩:∃ j,c.size=j + 1:=⟨c.size - 1,by omega⟩
 have hB:∀ m,cJ (fun x m=>eY k x true (ar ++ c.bs.map Prod.fst) t m) c.bs m=cJ (fun x m=>flM x true (ar ++ c.bs.map Prod.fst) t m) c.bs m:=fun m=>Gi _ _ fun p hp m=>by
  have:=oY c.bs p hp
  exact Fh _ _ rfl _ _ _ _ _ _ (by omega) (Nat.le_refl _)
 have hK:∀ m,eJ (fun x m=>eY k x (lz || (c.f == 4)) (ar ++ c.bs.map Prod.fst) t m) c.ks m=eJ (fun x m=>flM x (lz || (c.f == 4)) (ar ++ c.bs.map Prod.fst) t m) c.ks m:=fun m=>Gj _ _ fun p hp m=>by
  have:=xX c.ks p hp
  exact Fh _ _ rfl _ _ _ _ _ _ (by omega) (Nat.le_refl _)
 have hA:∀ m,fE (fun h x m=>eY k x false (ar ++ h.vars) t m) c.al m=fE (fun h x m=>flM x false (ar ++ h.vars) t m) c.al m:=fun m=>Gh _ _ fun p hp m=>by
  have:=lN c.al p hp
  exact Fh _ _ rfl _ _ _ _ _ _ (by omega) (Nat.le_refl _)
 rw [flM,hk,eY,h]
 simp only [aG,hB,hK,hA,fB,fK,fA,List.take_length]
theorem yK (c:Co) (lz:Bool) (ar:List Tx) (t:Tx) (m:List Su) (h:jL c lz=true):flM c lz ar t m=sX c ar t m:=by
 have hp:=iF c
 obtain ⟨k,hk⟩:∃ j,c.size=j + 1:=⟨c.size - 1,by omega⟩
 rw [flM,hk,eY,h]
 rfl
theorem yL (c:Co) (lz:Bool) (ar:List Tx) (t:Tx) (m:List Su):(flM c lz ar t m).2.length≤m.length + c.size:=wV _ _ _ _ _ _
end Go.Fu
namespace Go.Fu
open Go Go.Mx
set_option maxRecDepth 10000
theorem zdsb (a:List (Tx × Co)) (x:Tx × Co) (o:Bool) (ho:a≠[]→o=true) (hl:a.length < 1000000000):cK k_3 232 ⟨o,dBl a⟩ [dB x]=some ⟨true,dBl (a ++ [x])⟩:=qE zxn rK (by omega) a x o ho hl
theorem zdrb (a:List (Hd × Co)) (x:Hd × Co) (o:Bool) (ho:a≠[]→o=true) (hl:a.length < 1000000000):cK k_4 216 ⟨o,dAl a⟩ [dA x]=some ⟨true,dAl (a ++ [x])⟩:=qE zxm tW (by omega) a x o ho hl
theorem zdub (a:List Su) (x:Su) (o:Bool) (ho:a≠[]→o=true) (hl:a.length < 1000000000):cK k_5 200 ⟨o,dUs a⟩ [dU x]=some ⟨true,dUs (a ++ [x])⟩:=qE zoo yH (by omega) a x o ho hl
theorem ztl (a b:List Su) (o:Bool) (ho:a≠[]→o=true) (hl:a.length + b.length < 1000000000):cK k_5 200 ⟨o,dUs a⟩ (b.map dU)=some ⟨true,dUs (a ++ b)⟩:=by
 rw [dUs,Px (fun h=>ho (by simpa using h)) (fun d hd=>by obtain ⟨x,_,rfl⟩:=List.mem_map.1 hd; exact ⟨zoo x,yH x⟩) (by simp [bG]; omega) (by simp [bG]; omega)]
 rw [dUs,List.map_append]
theorem zdtb (b:List Su) (o:Bool) (hl:b.length < 1000000000):cK k_5 200 ⟨o,.nils⟩ (b.map dU)=some ⟨true,dUs b⟩:=by
 have:=ztl [] b o (fun h=>absurd rfl h) (by simpa using hl)
 simpa [dUs,bE] using this
theorem okl:(∀ l,(dSs l).ok=true)∧(∀ l,(dCs l).ok=true)∧(∀ l,(dBl l).ok=true)∧(∀ l,(dAl l).ok=true)∧(∀ l,(dUs l).ok=true)∧(∀ l,(dIs l).ok=true):=⟨fun _=>dQ,fun _=>dQ,fun _=>dQ,fun _=>dQ,fun _=>dQ,fun _=>dQ⟩
theorem mT:(∀ l,(dSs l).cells=[dSs l])∧(∀ l,(dCs l).cells=[dCs l])∧(∀ l,(dBl l).cells=[dBl l])∧(∀ l,(dAl l).cells=[dAl l])∧(∀ l,(dUs l).cells=[dUs l])∧(∀ l,(dIs l).cells=[dIs l]):=⟨fun _=>bX,fun _=>bX,fun _=>bX,fun _=>bX,fun _=>bX,fun _=>bX⟩
theorem qS:(∀ l,(dSs l).one=true)∧(∀ l,(dCs l).one=true)∧(∀ l,(dBl l).one=true)∧(∀ l,(dAl l).one=true)∧(∀ l,(dUs l).one=true)∧(∀ l,(dIs l).one=true):=⟨fun _=>bZ,fun _=>bZ,fun _=>bZ,fun _=>bZ,fun _=>bZ,fun _=>bZ⟩
theorem nK (x:Int):(cE x).length≤21:=by
 cases x with
 | ofNat a =>
  have:=Rl 20 a []
  simp only [cE,Zr,List.length_nil] at this ⊢
  omega
 | negSucc a =>
  have:=Rl 20 (a + 1) []
  simp only [cE,Zr,List.length_nil,List.length_cons] at this ⊢
  omega
theorem zih:∀ (l:List (Tx × Co)) (x:Tx × Co),x∈l→x.2.size + l.length≤szB l:=by
 intro l
 induction l with
 | nil=>intro x hx; cases hx
 | cons y r ihl =>
  intro x hx
  obtain ⟨s,c'⟩:=y
  simp only [szB,List.length_cons]
  rcases List.mem_cons.1 hx with rfl | hx
  ·have:=lY r; simp only; omega
  ·have:=ihl x hx; omega
section
variable {C:aM} {n:Nat} {σ:Store}
def z10:List Cell:=[⟨false,.int .i64 0⟩,⟨false,.int .i64 0⟩,⟨false,.str []⟩,⟨false,.int .i64 0⟩,⟨false,.int .i64 0⟩,⟨false,.str []⟩,⟨false,.nils⟩,⟨false,.nils⟩,⟨false,.nils⟩,⟨false,.nils⟩]
end
end Go.Fu

/-
 Code,as the document prints it.
-/
import Derived.Test.YtldfbnbckiifeaaGreatDoorFgBn
import Derived.Test.YtldfbnbckiifeaaGreatDoorFgY
import Derived.Test.YtldfbnbckiifeaaGreatDoorFgBm
import Derived.Test.YtldfbnbckiifeaaGreatDoorFgO
set_option maxHeartbeats 4000000
set_option linter.unusedSimpArgs false
set_option linter.unusedVariables false
set_option linter.unusedSectionVars false
namespace Go.Fu
open Go Go.Mx
set_option maxRecDepth 10000
set_option maxHeartbeats 4000000
def jP (l:List In):Tx:=l.flatMap fun i=>jZ i ++ [10]
def nV (c:Cd):Tx:=c.name ++ [47] ++ cE c.arity ++ [10]
def cP (cs:List Cd):Tx:=cs.flatMap fun c=>nV c ++ jP c.body
theorem zdwb (l:List Cd) (i:Nat) (h:i < l.length):dC 3 (dDs l) i=some (.eptr (dD l[i])):=jU rfl _ _ _ h
theorem zdzb (l:List Cd):lenOf (dDs l)=some l.length:=jN _ l
theorem Uz (l:List In) (i:Nat) (h:i < l.length):jP (l.take (i + 1))=jP (l.take i) ++ jZ l[i] ++ [10]:=by
 rw [← fL l i h,jP,List.flatMap_append,jP]
 simp only [List.flatMap_cons,List.flatMap_nil,List.append_nil,List.append_assoc]
theorem Qi (l:List Cd) (i:Nat) (h:i < l.length):cP (l.take (i + 1))=cP (l.take i) ++ (nV l[i] ++ jP l[i].body):=by
 rw [← fL l i h,cP,List.flatMap_append,cP]
 simp only [List.flatMap_cons,List.flatMap_nil,List.append_nil]
section
variable {C:aM} {n:Nat} {σ:Store}
end
end Go.Fu
namespace Go.Fu
open Go Go.Mx
set_option maxRecDepth 10000
set_option maxHeartbeats 4000000
section
variable {C:aM} {n:Nat} {σ:Store}
end
theorem zba {B:Nat}:∀ l:List In,(∀ i∈l,GI B i)→(jP l).length≤l.length * (B + 61)
 | [],_=>by simp [jP]
 | i :: r,h=>by
  have h1:=zbj (h i (by simp))
  have h2:=zba r fun x hx=>h x (List.mem_cons_of_mem _ hx)
  simp only [jP,List.flatMap_cons,List.length_append,List.length_cons,List.length_nil,Nat.succ_mul] at h2 ⊢
  omega
theorem Xg {B:Nat}:∀ cs:List Cd,CO B cs→(cP cs).length≤wt cs * (B + 61)
 | [],_=>by simp [cP]
 | c :: r,h=>by
  have h1:=h c (by simp)
  have h2:=Xg r fun x hx=>h x (List.mem_cons_of_mem _ hx)
  have h3:=zba c.body h1.2.2
  have h4:=nK c.arity
  have h5:=h1.1
  simp only [cP,List.flatMap_cons,List.length_append,nV,List.length_cons,List.length_nil,wt,Nat.add_mul,Nat.one_mul] at h2 ⊢
  omega
end Go.Fu
namespace Go.Fu
open Go Go.Mx
set_option maxRecDepth 10000
set_option maxHeartbeats 4000000
theorem zcj (s:Tx):OkP Wb [.str s] ⟨false,.bool (isK s)⟩:=by
 refine eD (af:=zds) (n:=1) (σ':=σ0) (eR [(qA,oV)] 1) rfl rfl rfl rfl ?_
 have h1:=zb6 (S:=[(qA,oV)]) rfl zol s (by decide) 0 σ0
 simp only [dSs,zol,bE,List.map_cons,List.map_nil] at h1
 simp only [isK]
 simp only [zol]
 generalize ([[80,85,83,72,73],[80,85,83,72,65],[80,65,67,75],[83,76,73,68,69],[80,79,80],[85,80,68,65,84,69],[65,76,76,79,67],[84,69,83,84],[84,69,83,84,73],[83,80,76,73,84],[74,85,77,80]]:List Tx).any (· == s)=b at h1 ⊢
 simp only [zds,sA,Nat.reduceAdd,Nat.reduceSub,Nat.reduceMul,Nat.reduceBEq,Nat.reduceLeDiff,Int.reduceBEq,Int.reduceBNe,Int.reduceLE,Int.reduceLT,Int.reduceGE,Int.reduceGT,Int.reduceNeg,kn,h1]
def Qo:List D→Cell→Prop:=fun ds c=>∀ s,ds=[.str s]→c=⟨false,.bool (isK s)⟩
theorem zb7 {S:aV} (hS:aB S Wb=some Qo) (s:Tx) (n:Nat) (σ:Store):T S (n + 1) Wb [.str s] σ=some (.ret ⟨false,.bool (isK s)⟩,σ):=by
 obtain ⟨c,h1,h2⟩:=kZ (S:=S) hS rfl (c:=⟨false,.bool (isK s)⟩) (fun s' e=>by
  simp only [List.cons.injEq,D.str.injEq,and_true] at e
  rw [e]) (zcj s)
 rw [h2,h1 s rfl]
theorem Ic:∀ a b:List UInt8,cT (a ++ b)=cT a ++ cT b
 | [],b=>rfl
 | x :: a,b=>by simp only [List.cons_append,cT,Ic a b]
theorem nQ:∀ a:List UInt8,(cT a).length=a.length
 | []=>rfl
 | x :: a=>by simp only [cT,List.length_cons,nQ a]
theorem zbb:∀ a:List UInt8,qF (cT a)=some a
 | []=>rfl
 | x :: a=>by
  have hx:x.toNat < 256:=x.toNat_lt
  have h1:decide (0≤((x.toNat:Nat):Int))=true:=decide_eq_true (by omega)
  have h2:decide (((x.toNat:Nat):Int) < 256)=true:=decide_eq_true (by omega)
  simp only [cT,qF,h1,h2,Bool.and_self,aE,zbb a,aC,aF,Int.toNat_natCast,UInt8.ofNat_toNat]
theorem Jm:∀ s:List UInt8,bI pB.sz (cT s)=true
 | []=>rfl
 | x :: s=>by simp only [cT,bI,Jm s]; rfl
def bdC (a:Tx):Cell:=match a with
 | []=>⟨false,.nils⟩
 | _ :: _=>⟨true,.list pB (cT a)⟩
def bdP (a:Tx):D:=match a with
 | []=>.nilp
 | _ :: _=>.ptr 0 0
theorem za8 (a s:Tx) (hs:s≠[]) (h:a.length + s.length≤1099511627776):cK pB 1 (bdC a) (cT s)=some ⟨true,.list pB (cT (a ++ s))⟩:=by
 cases a with
 | nil =>
  have e1:decide ((([]:List D).length + (cT s).length) * 1≤bG)=true:=decide_eq_true (by rw [nQ]; simpa [bG] using h)
  have e2:decide (([]:List D).length + (cT s).length≤bG)=true:=decide_eq_true (by rw [nQ]; simpa [bG] using h)
  cases s with
  | nil=>exact absurd rfl hs
  | cons x r =>
   simp only [cK,bdC,eL,aC,aF,kK,Jm,e1,e2,Bool.and_self,aE,kX,List.nil_append]
   rfl
 | cons x r =>
  have hm:kK pB ⟨true,.list pB (cT (x :: r))⟩=true:=rfl
  have e1:decide (((cT (x :: r)).length + (cT s).length) * 1≤bG)=true:=decide_eq_true (by rw [nQ,nQ]; simpa [bG] using h)
  have e2:decide ((cT (x :: r)).length + (cT s).length≤bG)=true:=decide_eq_true (by rw [nQ,nQ]; simpa [bG] using h)
  simp only [cK,bdC,eL,aC,aF,hm,Jm,e1,e2,Bool.and_self,aE,kX,Ic]
def BS (a:Tx):Store:={objs:=[(0,[⟨false,bdP a⟩,bdC a])],tys:=[(0,⟨oH,0⟩)],oth:=[],next:=1}
theorem tb:(oH == oH)=true:=by simp
def BSc (a:Tx):Store:={objs:=[(0,[⟨false,.ptr 0 0⟩,bdC a])],tys:=[(0,⟨oH,0⟩)],oth:=[],next:=1}
theorem zqj {S:aV} (hs:has S wH=false) (n:Nat) (a:Tx):T S (n + 1) wH [.ptr 0 0] (BS a)=some (.ret ⟨false,.tup []⟩,BSc a):=by
 rw [zmm hs rfl rfl]
 have h:Xa wH [.ptr 0 0] (BS a)=zfo [.ptr 0 0] (BS a):=rfl
 rw [h]
 cases a with
 | nil=>rfl
 | cons x r=>rfl
theorem zqf (a s:Tx) (hs:s≠[]):BS (a ++ s)={objs:=[(0,[⟨false,.ptr 0 0⟩,⟨true,.list pB (cT (a ++ s))⟩])],tys:=[(0,⟨oH,0⟩)],oth:=[],next:=1}:=by
 have hn:a ++ s≠[]:=by simp [hs]
 generalize a ++ s=b at hn
 cases b with
 | nil=>exact absurd rfl hn
 | cons x r=>rfl
theorem zs5 {S:aV} (h1:has S wH=false) (h2:has S Gu=false) (n:Nat) (a s:Tx) (hs:s≠[]) (h:a.length + s.length≤1099511627776) :
  T S (n + 2) Gu [.ptr 0 0,.str s] (BS a)=some (.ret ⟨false,.tup [.int .i64 s.length,.niliface]⟩,BS (a ++ s)):=by
 have hc:=zqj h1 n a
 have ha:=za8 a s hs h
 rw [zqf a s hs]
 rw [zml (af:=zeg) h2 rfl rfl]
 simp only [BSc] at hc
 generalize bdC a=b at hc ha
 obtain ⟨bo,bd⟩:=b
 simp only [zeg,sA,Nat.reduceAdd,Nat.reduceSub,Nat.reduceMul,Nat.reduceBEq,Nat.reduceLeDiff,Int.reduceBEq,Int.reduceBNe,Int.reduceLE,Int.reduceLT,Int.reduceGE,Int.reduceGT,Int.reduceNeg,kn,bF,eU,hc,ha]
theorem zcxb {S:aV} (h1:has S wH=false) (h2:has S zfa=false) (n:Nat) (a:Tx) (h:a.length + 1≤1099511627776) :
  T S (n + 2) zfa [.ptr 0 0,.int .u8 10] (BS a)=some (.ret ⟨false,.niliface⟩,BS (a ++ [10])):=by
 have hc:=zqj h1 n a
 have ha:=za8 a [10] (by simp) h
 rw [zqf a [10] (by simp)]
 rw [zml (af:=zef) h2 rfl rfl]
 simp only [BSc] at hc
 generalize bdC a=b at hc ha
 obtain ⟨bo,bd⟩:=b
 have hb:cT [10]=[.int .u8 10]:=rfl
 rw [hb] at ha
 simp only [zef,sA,Nat.reduceAdd,Nat.reduceSub,Nat.reduceMul,Nat.reduceBEq,Nat.reduceLeDiff,Int.reduceBEq,Int.reduceBNe,Int.reduceLE,Int.reduceLT,Int.reduceGE,Int.reduceGT,Int.reduceNeg,kn,bF,eU,hc,ha]
theorem zcqb {S:aV} (h1:has S Ll=false) (n:Nat) (a:Tx) (hne:a≠[]):∃ σ',T S (n + 1) Ll [.ptr 0 0] (BS a)=some (.ret ⟨false,.str a⟩,σ'):=by
 rw [zmm h1 rfl rfl]
 have h:Xa Ll [.ptr 0 0] (BS a)=Ef [.ptr 0 0] (BS a):=rfl
 rw [h]
 cases a with
 | nil=>exact absurd rfl hne
 | cons x r =>
  have hb:Kt pB=true:=rfl
  have he:(cT (x :: r)).isEmpty=false:=rfl
  have h2:=zbb (x :: r)
  refine ⟨{objs:=[(0,[⟨false,.ptr 0 0⟩,⟨false,.list pB (cT (x :: r))⟩])],tys:=[(0,⟨oH,0⟩)],oth:=[],next:=1},?_⟩
  simp only [Ef,BS,aB,beq_self_eq_true,aE,aC,aF,tb,bdC,bdP,hb,he,Bool.not_false,Bool.and_self,h2]
  rfl
theorem zgv {S:aV} (h1:has S rQ=false) (n:Nat) (x:Int) (hx:Small x) (σ:Store):T S (n + 1) rQ [.int .i64 x] σ=some (.ret ⟨false,.str (cE x)⟩,σ):=by
 rw [zmm h1 rfl rfl]
 have h2:Ad x=true:=by simp [Ad,hx.1,hx.2]
 have h:Xa rQ [.int .i64 x] σ=aC (Hz [.int .i64 x]) fun d=>some (.ret ⟨false,d⟩,σ):=rfl
 rw [h]
 simp only [Hz,h2,aE,aC,aF]
end Go.Fu
namespace Go.Fu
open Go Go.Mx
set_option maxRecDepth 10000
set_option maxHeartbeats 4000000
def SGp:aV:=[(Wb,Qo)]
section
variable {n N:Nat}
def Egl (cs:List Cd) (k:Nat) (b:List In) (i:Nat):Env:={slots:=[(3,⟨false,.ptr 0 0⟩),(8,⟨false,dDs cs⟩),(9,⟨false,.int .i64 cs.length⟩),(10,⟨false,.int .i64 k⟩),(24,⟨false,dIs b⟩),(25,⟨false,.int .i64 b.length⟩),(26,⟨false,.int .i64 i⟩)],locs:=[],boxes:=[],defers:=[]}
set_option maxHeartbeats 4000000 in
theorem zyx (cs:List Cd) (k:Nat) (b:List In) (acc:Tx) (i:Nat) (hi:i < b.length) (hl:b.length < 1000000000) {B:Nat} (hg:GI B b[i]) (hB:B≤900000) (ha:acc.length≤1099510627776) :
  exec (T SGp (N + 2)) n none vU (Egl cs k b i) (BS acc)=some (.normal,Egl cs k b (i + 1),BS (acc ++ jZ b[i] ++ [10])):=by
 have hlt:((i:Int) < (b.length:Int)):=by omega
 have hy:=zdxb b i hi
 have w:=aR (i:=i) (by omega)
 have hlen:=zbj hg
 generalize b[i]=ins at hy hg hlen ⊢
 obtain ⟨op,x,y,nm⟩:=ins
 obtain ⟨g1,g2,g3,g4⟩:=hg
 simp only at g1 g2 g3 g4
 have ln:=nK x
 have lm:=nK y
 have c1:=zgv (S:=SGp) rfl (N + 1) x g2
 have c2:=zgv (S:=SGp) rfl (N + 1) y g3
 have ck:=zb7 (S:=SGp) rfl op (N + 1)
 have W:∀ a s:Tx,s≠[]→a.length + s.length≤1099511627776→T SGp (N + 2) Gu [.ptr 0 0,.str s] (BS a)=some (.ret ⟨false,.tup [.int .i64 s.length,.niliface]⟩,BS (a ++ s)):=fun a s h1 h2=>zs5 rfl rfl N a s h1 h2
 have Y:∀ a:Tx,a.length + 1≤1099511627776→T SGp (N + 2) zfa [.ptr 0 0,.int .u8 10] (BS a)=some (.ret ⟨false,.niliface⟩,BS (a ++ [10])):=fun a h=>zcxb rfl rfl N a h
 have d1:1 + op.length≤281474976710656:=by omega
 have d2:1 + nm.length≤281474976710656:=by omega
 have d3:1 + (cE x).length≤281474976710656:=by omega
 have d4:1 + (cE y).length≤281474976710656:=by omega
 have W1:=W acc (32 :: op) (by simp) (by simp; omega)
 simp only [dI] at hy
 cases e1:op == [80,85,83,72,71] with
 | true =>
  have e:op=[80,85,83,72,71]:=by simpa using e1
  have e2:(op == [80,65,67,75])=false:=by rw [e]; rfl
  have e4:(op == [84,69,83,84,73])=false:=by rw [e]; rfl
  have ek:isK op=false:=by rw [e]; decide
  rw [ek] at ck
  have W2:=W (acc ++ 32 :: op) (32 :: nm) (by simp) (by simp; omega)
  have Y2:=Y (acc ++ 32 :: op ++ 32 :: nm) (by simp; omega)
  have eq:acc ++ jZ ⟨op,x,y,nm⟩ ++ [10]=acc ++ 32 :: op ++ 32 :: nm ++ [10]:=by rw [zbsb op x y nm e]; simp
  rw [eq]
  clear eq e hlen
  generalize BS (acc ++ 32 :: op ++ 32 :: nm ++ [10])=Z at *
  simp only [vU,Egl,sA,seval,kn,hlt,hy,w,d1,d2,d3,d4,e1,e2,e4,ck,W1,W2,Y2]
 | false =>
  cases e2:op == [80,65,67,75] with
  | true =>
   have e:op=[80,65,67,75]:=by simpa using e2
   have ek:isK op=true:=by rw [e]; decide
   rw [ek] at ck
   have W2:=W (acc ++ 32 :: op) (32 :: nm) (by simp) (by simp; omega)
   have W3:=W (acc ++ 32 :: op ++ 32 :: nm) (32 :: cE y) (by simp) (by simp; omega)
   have W4:=W (acc ++ 32 :: op ++ 32 :: nm ++ 32 :: cE y) (32 :: cE x) (by simp) (by simp; omega)
   have Y2:=Y (acc ++ 32 :: op ++ 32 :: nm ++ 32 :: cE y ++ 32 :: cE x) (by simp; omega)
   have eq:acc ++ jZ ⟨op,x,y,nm⟩ ++ [10]=acc ++ 32 :: op ++ 32 :: nm ++ 32 :: cE y ++ 32 :: cE x ++ [10]:=by rw [zbub op x y nm e]; simp
   rw [eq]
   clear eq e hlen
   simp only [vU,Egl,sA,seval,kn,hlt,hy,w,d1,d2,d3,d4,e1,e2,ck,c1,c2,W1,W2,W3,W4,Y2]
  | false =>
   cases e3:op == [84,69,83,84] with
   | true =>
    have e:op=[84,69,83,84]:=by simpa using e3
    have e4:(op == [84,69,83,84,73])=false:=by rw [e]; rfl
    have ek:isK op=true:=by rw [e]; decide
    rw [ek] at ck
    have W2:=W (acc ++ 32 :: op) (32 :: nm) (by simp) (by simp; omega)
    have W3:=W (acc ++ 32 :: op ++ 32 :: nm) (32 :: cE x) (by simp) (by simp; omega)
    have Y2:=Y (acc ++ 32 :: op ++ 32 :: nm ++ 32 :: cE x) (by simp; omega)
    have eq:acc ++ jZ ⟨op,x,y,nm⟩ ++ [10]=acc ++ 32 :: op ++ 32 :: nm ++ 32 :: cE x ++ [10]:=by rw [zbvb op x y nm e]; simp
    rw [eq]
    clear eq e hlen
    simp only [vU,Egl,sA,seval,kn,hlt,hy,w,d1,d2,d3,d4,e1,e2,e3,e4,ck,c1,c2,W1,W2,W3,Y2]
   | false =>
    cases e4:op == [84,69,83,84,73] with
    | true =>
     have e:op=[84,69,83,84,73]:=by simpa using e4
     have ek:isK op=true:=by rw [e]; decide
     rw [ek] at ck
     have W2:=W (acc ++ 32 :: op) (32 :: cE y) (by simp) (by simp; omega)
     have W3:=W (acc ++ 32 :: op ++ 32 :: cE y) (32 :: cE x) (by simp) (by simp; omega)
     have Y2:=Y (acc ++ 32 :: op ++ 32 :: cE y ++ 32 :: cE x) (by simp; omega)
     have eq:acc ++ jZ ⟨op,x,y,nm⟩ ++ [10]=acc ++ 32 :: op ++ 32 :: cE y ++ 32 :: cE x ++ [10]:=by rw [zbtb op x y nm e]; simp
     rw [eq]
     clear eq e hlen
     simp only [vU,Egl,sA,seval,kn,hlt,hy,w,d1,d2,d3,d4,e1,e2,e3,e4,ck,c1,c2,W1,W2,W3,Y2]
    | false =>
     have hN:isN op=false:=by simp only [isN,e1,e2,e3,Bool.or_self]
     have hM:isM op=false:=by simp only [isM,e2,e4,Bool.or_self]
     cases ek:isK op with
     | true =>
      rw [ek] at ck
      have W2:=W (acc ++ 32 :: op) (32 :: cE x) (by simp) (by simp; omega)
      have Y2:=Y (acc ++ 32 :: op ++ 32 :: cE x) (by simp; omega)
      have eq:acc ++ jZ ⟨op,x,y,nm⟩ ++ [10]=acc ++ 32 :: op ++ 32 :: cE x ++ [10]:=by simp [jZ,hN,hM,ek,ifB]
      rw [eq]
      clear eq hlen
      simp only [vU,Egl,sA,seval,kn,hlt,hy,w,d1,d2,d3,d4,e1,e2,e3,e4,ck,c1,c2,W1,W2,Y2]
     | false =>
      rw [ek] at ck
      have Y2:=Y (acc ++ 32 :: op) (by simp; omega)
      have eq:acc ++ jZ ⟨op,x,y,nm⟩ ++ [10]=acc ++ 32 :: op ++ [10]:=by simp [jZ,hN,hM,ek,ifB]
      rw [eq]
      clear eq hlen
      simp only [vU,Egl,sA,seval,kn,hlt,hy,w,d1,d2,d3,d4,e1,e2,e3,e4,ck,c1,c2,W1,Y2]
theorem zbjb (cs:List Cd) (k:Nat) (b:List In) (σ:Store) {C:aM}:exec C n none vU (Egl cs k b b.length) σ=some (.exit 2,{Egl cs k b b.length with slots:=[(3,⟨false,.ptr 0 0⟩),(8,⟨false,dDs cs⟩),(9,⟨false,.int .i64 cs.length⟩),(10,⟨false,.int .i64 k⟩),(24,⟨false,dIs b⟩),(25,⟨false,.int .i64 b.length⟩),(26,⟨false,.int .i64 b.length⟩),(27,⟨false,.bool false⟩)]},σ):=by
 have hlt:¬ ((b.length:Int) < (b.length:Int)):=by omega
 simp only [vU,Egl,sA,seval,kn,hlt]
def Egk (cs:List Cd) (k:Nat):Env:={slots:=[(3,⟨false,.ptr 0 0⟩),(8,⟨false,dDs cs⟩),(9,⟨false,.int .i64 cs.length⟩),(10,⟨false,.int .i64 k⟩)],locs:=[],boxes:=[],defers:=[]}
set_option maxHeartbeats 4000000 in
theorem zyw {C:aM} (cs:List Cd) (c:Cd) (acc acc':Tx) (k:Nat) (hk:k < cs.length) (hl:cs.length < 1000000000) (hx:dC 3 (dDs cs) k=some (.eptr (dD c))) (hb:c.name.length≤1000000)
  (h1:∀ σ,C rQ [.int .i64 c.arity] σ=some (.ret ⟨false,.str (cE c.arity)⟩,σ))
  (h3:C Gu [.ptr 0 0,.str (nV c)] (BS acc)=some (.ret ⟨false,.tup [.int .i64 (nV c).length,.niliface]⟩,BS (acc ++ nV c)))
  (h2:dL (exec C n none vU) n (Egl cs k c.body 0) (BS (acc ++ nV c))=some (.exit 2,{Egl cs k c.body c.body.length with slots:=[(3,⟨false,.ptr 0 0⟩),(8,⟨false,dDs cs⟩),(9,⟨false,.int .i64 cs.length⟩),(10,⟨false,.int .i64 k⟩),(24,⟨false,dIs c.body⟩),(25,⟨false,.int .i64 c.body.length⟩),(26,⟨false,.int .i64 c.body.length⟩),(27,⟨false,.bool false⟩)]},BS acc')) :
  exec C n none Yi (Egk cs k) (BS acc)=some (.normal,Egk cs (k + 1),BS acc'):=by
 have hlt:((k:Int) < (cs.length:Int)):=by omega
 have w:=aR (i:=k) (by omega)
 have ln:=nK c.arity
 have b2:c.name.length≤281474976710655:=by omega
 have b3:(c.name ++ [47]).length + (cE c.arity).length≤281474976710656:=by simp; omega
 have b4:(c.name ++ [47] ++ cE c.arity).length≤281474976710655:=by simp; omega
 simp only [nV] at h3 h2
 generalize BS acc=Z1 at h3 ⊢
 generalize BS (acc ++ (c.name ++ [47] ++ cE c.arity ++ [10]))=Z2 at h3 h2
 generalize BS acc'=Z3 at h2 ⊢
 simp only [dD] at hx
 simp only [Egl,bV] at h2
 simp only [Yi,Egk,sA,seval,kn,bF,eU,hx,zd0b,hlt,gV,h1,h3,h2,b2,b3,b4,w]
theorem zbib {C:aM} (cs:List Cd) (σ:Store):exec C n none Yi (Egk cs cs.length) σ=some (.exit 0,{Egk cs cs.length with slots:=[(3,⟨false,.ptr 0 0⟩),(8,⟨false,dDs cs⟩),(9,⟨false,.int .i64 cs.length⟩),(10,⟨false,.int .i64 cs.length⟩),(11,⟨false,.bool false⟩)]},σ):=by
 have hlt:¬ ((cs.length:Int) < (cs.length:Int)):=by omega
 simp only [Yi,Egk,sA,seval,kn,hlt]
end
end Go.Fu
namespace Go.Fu
open Go Go.Mx
set_option maxRecDepth 10000
set_option maxHeartbeats 4000000
theorem zjc {B:Nat} (cs:List Cd) (hne:cs≠[]) (hc:CO B cs) (hB:B≤900000) (hw:wt cs < 900000000) (hlen:(cP cs).length≤1099510000000):OkP Bg [dDs cs] ⟨false,.str (cP cs)⟩:=by
 have hl:=zs6 cs
 have hpre:∀ k,(cP (cs.take k)).length≤(cP cs).length:=fun k=>by
  have e:cP cs=cP (cs.take k) ++ cP (cs.drop k):=by
   rw [cP,cP,cP,← List.flatMap_append,List.take_append_drop]
  rw [e,List.length_append]
  omega
 have hwm:∀ (l:List Cd) (c:Cd),c∈l→c.body.length≤wt l:=by
  intro l
  induction l with
  | nil=>intro c h; cases h
  | cons x r ih =>
   intro c h
   rcases List.mem_cons.1 h with rfl | h
   ·simp only [wt]; omega
   ·have:=ih c h; simp only [wt]; omega
 have hrun:=gI (body:=exec (T SGp 2) 1000000000 none Yi) (fun k=>Egk cs k) (fun k=>BS (cP (cs.take k))) cs.length (r:=_) (fun _ _ h=>by cases h) (fun k hk=>by
  have hx:=zdwb cs k hk
  have hm:=List.getElem_mem hk
  obtain ⟨c1,c2,c3⟩:=hc _ hm
  have hwc:=hwm _ _ hm
  have h1:=hpre k
  have h2:=hpre (k + 1)
  rw [Qi cs k hk,List.length_append,List.length_append] at h2
  have hin:=gI (body:=exec (T SGp 2) 1000000000 none vU) (fun i=>Egl cs k cs[k].body i) (fun i=>BS (cP (cs.take k) ++ nV cs[k] ++ jP (cs[k].body.take i))) cs[k].body.length (r:=_) (fun _ _ h=>by cases h) (fun i hi=>by
   have hg:=c3 _ (List.getElem_mem hi)
   have hbt:(jP (cs[k].body.take (i + 1))).length≤(jP cs[k].body).length:=by
    have e:jP cs[k].body=jP (cs[k].body.take (i + 1)) ++ jP (cs[k].body.drop (i + 1)):=by
     rw [jP,jP,jP,← List.flatMap_append,List.take_append_drop]
    rw [e,List.length_append]
    omega
   rw [Uz _ i hi,List.length_append,List.length_append] at hbt
   have hs:=zyx (n:=1000000000) (N:=0) cs k cs[k].body (cP (cs.take k) ++ nV cs[k] ++ jP (cs[k].body.take i)) i hi (by omega) hg hB (by rw [List.length_append,List.length_append]; omega)
   rw [Uz _ i hi]
   simp only [List.append_assoc] at hs ⊢
   exact hs) (zbjb cs k cs[k].body _) 0 1000000000 (by omega) (by omega)
  rw [List.take_length] at hin
  have e0:cP (cs.take k) ++ nV cs[k] ++ jP (cs[k].body.take 0)=cP (cs.take k) ++ nV cs[k]:=by simp [jP]
  simp only [e0] at hin
  have:=zyw (C:=T SGp 2) (n:=1000000000) cs cs[k] (cP (cs.take k)) (cP (cs.take k) ++ nV cs[k] ++ jP cs[k].body) k hk (by omega) hx (by omega) (fun σ=>zgv (S:=SGp) rfl 1 _ c2 σ) (zs5 (S:=SGp) rfl rfl 0 _ _ (by simp [nV]) (by omega)) hin
  rw [Qi cs k hk,← List.append_assoc]
  exact this) (zbib cs (BS (cP (cs.take cs.length)))) 0 1000000000 (by omega) (by omega)
 rw [List.take_length] at hrun
 have hnn:cP cs≠[]:=by
  cases cs with
  | nil=>exact absurd rfl hne
  | cons c r=>simp [cP,nV]
 obtain ⟨σ',hst⟩:=zcqb (S:=SGp) rfl 1 (cP cs) hnn
 refine eD (af:=zdb) (n:=1000000000) (σ':=σ') (eR SGp 2) rfl rfl (by simp [aX,Lo]) rfl ?_
 have e0:cP (cs.take 0)=[]:=rfl
 have e1:BS []={objs:=[(0,[⟨false,.nilp⟩,⟨false,.nils⟩])],tys:=[(0,⟨oH,0⟩)],oth:=[],next:=1}:=rfl
 generalize cP cs=pm at *
 simp only [Egk,bV,e0,e1] at hrun
 generalize BS pm=Z at *
 simp only [zdb,sA,seval,kn,bF,eU,σ0,zdzb,hrun,hst]
end Go.Fu
namespace Go.Fu
open Go Go.Mx
set_option maxRecDepth 10000
def Sub (a b:List Tx):Prop:=∀ s,a.any (· == s)=true→b.any (· == s)=true
theorem Sub.app {a b:List Tx} (h:Sub a b) (c:List Tx):Sub (a ++ c) (b ++ c):=fun s hs=>by
 rw [List.any_append,Bool.or_eq_true] at hs ⊢
 exact hs.imp (h s) id
theorem Good.mono {a:List Tx} {c:Co} (hg:Good a c):∀ {b:List Tx},Sub a b→Good b c:=by
 induction hg with
 | int h=>intro b _; exact .int h
 | con h=>intro b _; exact .con h
 | var h=>intro b hs; exact .var (hs _ h)
 | fail=>intro b _; exact .fail
 | app _ _ i1 i2=>intro b hs; exact .app (i1 hs) (i2 hs)
 | prim h _ _ i1 i2=>intro b hs; exact .prim h (i1 hs) (i2 hs)
 | lt h _ _ i1 i2=>intro b hs; exact .lt h (fun p hp=>i1 p hp (hs.app _)) (i2 (hs.app _))
 | cas _ h _ i1 i2=>intro b hs; exact .cas (i1 hs) h fun a ha=>i2 a ha (hs.app _)
theorem Shp.mono {B B':Nat} (hB:B≤B') {c:Co} (h:Shp B c):Shp B' c:=by
 induction h with
 | leaf a b d=>exact .leaf a b (by omega)
 | app a _ _ i1 i2=>exact .app (by omega) i1 i2
 | prim a _ _ i1 i2=>exact .prim (by omega) i1 i2
 | lt a b _ _ i1 i2=>exact .lt (by omega) (fun p hp=>by have:=b p hp; omega) i1 i2
 | cas a b _ _ i1 i2=>exact .cas (by omega) (fun x hx=>⟨(b x hx).1,by have:=(b x hx).2.1; omega,fun v hv=>by have:=(b x hx).2.2 v hv; omega⟩) i1 i2
theorem Jf.mono {u:Su} (h:Jf 5 200 u):Jf 6 200 u:=⟨h.1.mono (by omega),h.2⟩
theorem zye {us:List Su} (h:Je us):CompOK us:=⟨h.1,by have:=h.2.1; omega,fun u hu=>⟨(h.2.2 u hu).1.mono,(h.2.2 u hu).2⟩⟩
theorem ztx {us:List Su} {c:Cd}:c∈bW us↔(∃ f∈FL,c=dR f)∨∃ u∈us,∃ v∈fV u,c=eG v:=by
 simp only [bW,List.mem_append,List.mem_map,List.mem_flatMap]
 constructor
 ·rintro (⟨f,h1,h2⟩ | ⟨u,h1,v,h2,h3⟩)
  ·exact .inl ⟨f,h1,h2.symm⟩
  ·exact .inr ⟨u,h1,v,h2,h3.symm⟩
 ·rintro (⟨f,h1,h2⟩ | ⟨u,h1,v,h2,h3⟩)
  ·exact .inl ⟨f,h1,h2.symm⟩
  ·exact .inr ⟨u,h1,v,h2,h3.symm⟩
theorem zlf {us:List Su} (h:CompOK us):∀ c∈bW us,CO 200 [c]∧c.body.length < 9000000:=by
 intro c hc
 rcases ztx.1 hc with ⟨f,hf,rfl⟩ | ⟨u,hu,v,hv,rfl⟩
 ·simp only [FL,List.mem_cons,List.not_mem_nil,or_false] at hf
  have s2:Small 2:=⟨by decide,by decide⟩
  rcases hf with rfl | rfl | rfl | rfl | rfl
  all_goals
   refine ⟨fun c hc=>?_,by simp [dR]⟩
   rw [List.mem_singleton.1 hc]
   refine ⟨by simp [dR],by first | exact zS | exact zar | exact s2,fun i hi=>?_⟩
   simp only [dR,List.mem_cons,List.not_mem_nil,or_false] at hi
   rcases hi with rfl | rfl | rfl | rfl
   ·exact gi4 (by decide) (by first | exact zS | exact zar | exact s2) (by first | exact zS | exact zar | exact s2) (by simp)
   ·exact gi4 (by decide) zS zS (by simp)
   ·exact gi4 (by decide) zS zS (by simp)
   ·exact gi4 (by decide) zS zS (by simp)
 ·have hf:=(Rq h u hu).2.1 v hv
  obtain ⟨h1,h2,h3⟩:=hf
  have hg:=zle h1 h3
  refine ⟨fun c hc=>?_,by have:=hg.2; omega⟩
  rw [List.mem_singleton.1 hc]
  exact ⟨h2,tJ (by omega),hg.1⟩
theorem ztw {us:List Su} (h:CompOK us):(bW us).length≤7205:=by
 have hlen:∀ l:List Su,(∀ u∈l,u∈us)→(l.flatMap fun u=>(fV u).map eG).length≤1200 * l.length:=by
  intro l
  induction l with
  | nil=>intro _; simp
  | cons x r ih =>
   intro hl
   have h1:=ih fun u hu=>hl u (List.mem_cons_of_mem _ hu)
   have h2:=(Rq h x (hl x (List.mem_cons_self ..))).2.2
   rw [List.flatMap_cons,List.length_append,List.length_map,List.length_cons]
   omega
 have h1:=hlen us fun _ h=>h
 have h2:=h.few
 have hF:FL.length=5:=rfl
 rw [bW,List.length_append,List.length_map,hF]
 omega
theorem zyz {us:List Su} (h:CompOK us) (c:Cd) (hc:c∈bW us):OkP Bg [dDs [c]] ⟨false,.str (cP [c])⟩:=by
 obtain ⟨h1,h2⟩:=zlf h c hc
 have hw:wt [c]=c.body.length + 1 + 0:=rfl
 have hl:=Xg [c] h1
 exact zjc [c] (by simp) h1 (by omega) (by omega) (by omega)
end Go.Fu
namespace Go.Fu
open Go Go.Mx
set_option maxRecDepth 10000
def spMa (us:List Su) (d:D):List D→Cell→Prop:=fun ds c=>ds=[d]→c=⟨false,dUs us⟩
def zvs:List D→Cell→Prop:=fun ds c=>∀ us,ds=[dFs FL,dUs us]→c=⟨false,.tup [dDs (bW us),.int .i64 0]⟩
def zvu:List D→Cell→Prop:=fun ds c=>∀ cs,ds=[dDs cs,dDs cs]→c=⟨false,.bool true⟩
def spLv:List D→Cell→Prop:=fun _ c=>c=⟨false,.bool true⟩
def zvt:List D→Cell→Prop:=fun ds c=>∀ cs,ds=[dDs cs]→c=⟨false,.str (cP cs)⟩
theorem zyh {a b:Cd} (h:dD a=dD b):a=b:=by
 obtain ⟨s,k,l⟩:=a
 obtain ⟨s2,k2,l2⟩:=b
 simp only [dD,D.agg.injEq,List.cons.injEq,D.str.injEq,D.int.injEq,true_and,and_true] at h
 obtain ⟨rfl,rfl,h⟩:=h
 rw [qL za7b (lH h)]
theorem zt0 {a b:List Cd} (h:dDs a=dDs b):a=b:=qL zyh (lH h)
theorem zlb {S:aV} (hS:aB S Bf=some zvs) {vs:List Su} (h:CompOK vs) (n:Nat) (σ:Store):T S (n + 1) Bf [dFs FL,dUs vs] σ=some (.ret ⟨false,.tup [dDs (bW vs),.int .i64 0]⟩,σ):=by
 obtain ⟨c,h1,h2⟩:=kZ (S:=S) (f:=Bf) (s:=zvs) hS rfl (fun ws e=>by
  simp only [List.cons.injEq,and_true,true_and] at e
  rw [zln e]) (zce h)
 rw [h2 n,h1 vs rfl]
theorem zx9 {S:aV} (hS:aB S Ou=some zvu) (cs:List Cd) (h1:cs.length < 100000000) (h2:∀ c∈cs,c.body.length < 100000000) (n:Nat) (σ:Store):T S (n + 1) Ou [dDs cs,dDs cs] σ=some (.ret ⟨false,.bool true⟩,σ):=by
 obtain ⟨c,h1,h2⟩:=kZ (S:=S) (f:=Ou) (s:=zvu) hS rfl (fun _ _=>rfl) (zp3 cs h1 h2)
 rw [h2 n,h1 cs rfl]
theorem zx8 {S:aV} (hS:aB S Bg=some zvt) {vs:List Su} (h:CompOK vs) (c:Cd) (hc:c∈bW vs) (n:Nat) (σ:Store):T S (n + 1) Bg [dDs [c]] σ=some (.ret ⟨false,.str (cP [c])⟩,σ):=by
 obtain ⟨x,h1,h2⟩:=kZ (S:=S) (f:=Bg) (s:=zvt) hS rfl (fun cs e=>by
  simp only [List.cons.injEq,and_true] at e
  rw [zt0 e]) (zyz h c hc)
 rw [h2 n,h1 [c] rfl]
end Go.Fu
namespace Go.Fu
open Go Go.Mx
set_option maxRecDepth 10000
set_option maxHeartbeats 4000000
def Vt:Tx:=[109,111,114,101]
def Vu:Tx:=[109,111,114,101,37,49]
def Ac:Co:=.mk 11 0 [] [] [] []
def rD:Su:=⟨Vt,[[113]],appC' (bJ [102]) Ac⟩
theorem zq7:fV rD=[⟨Vt,[[113]],appC' (bJ [102]) (bJ Vu)⟩,⟨Vu,[],Ac⟩]:=rfl
def kG:Cd:=eG ⟨Vt,[[113]],appC' (bJ [102]) (bJ Vu)⟩
def kH:Cd:=eG ⟨Vu,[],Ac⟩
theorem zqv (us:List Su):bW (us ++ [rD])=bW us ++ [kG,kH]:=by
 unfold bW
 rw [List.flatMap_append,List.flatMap_cons,List.flatMap_nil,List.append_nil,zq7,← List.append_assoc]
 rfl
theorem Sub.more (a l:List Tx) (s:Tx):Sub (a ++ l) (a ++ [s] ++ l):=fun x h=>by
 simp only [List.any_append,Bool.or_eq_true] at h ⊢
 rcases h with h | h
 ·exact .inl (.inl h)
 ·exact .inr h
theorem zp8 (m:Nat) (h:m < 4):iP (FL.map Fd.name ++ (fS.take (m + 1) ++ [Vt]))=false:=by
 have:m=0∨m=1∨m=2∨m=3:=by omega
 rcases this with rfl | rfl | rfl | rfl <;> decide
theorem za0b (m:Nat) (l:List Tx):(fS.take (m + 1) ++ l).any (· == [102])=true:=rfl
theorem zha:Jf 6 200 rD∧rD.body.size≤1200:=by
 refine ⟨⟨.app (by simp) (.leaf (.inl rfl) zS (by simp)) (.leaf (.inr (.inr (.inr rfl))) zS (by simp)),?_,?_,?_⟩,?_⟩
 ·show 4 + 22 * hgt (appC' (bJ [102]) Ac)≤200
  have:hgt (appC' (bJ [102]) Ac)=2:=by simp [appC',bJ,Ac,hgt,hgK,hgB,hgA]
  omega
 ·show 1≤100000
  omega
 ·have:rD.body.size=3:=by simp [rD,appC',bJ,Ac,Co.size,szK,szB,szA]
  omega
 ·have:rD.body.size=3:=by simp [rD,appC',bJ,Ac,Co.size,szK,szB,szA]
  omega
theorem ztv {us:List Su} (h:Je us) {m:Nat} (hm:m < 4) (hn:us.map Su.name=fS.take (m + 1)):CompOK (us ++ [rD]):=by
 obtain ⟨hg,h4,hp⟩:=h
 have hnm:(us ++ [rD]).map Su.name=us.map Su.name ++ [Vt]:=by rw [List.map_append]; rfl
 refine ⟨⟨by rw [List.length_append,List.length_singleton]; omega,by rw [hnm,hn]; exact zp8 m hm,fun u hu=>?_,fun u hu=>?_⟩,by rw [List.length_append,List.length_singleton]; omega,fun u hu=>?_⟩
 ·rcases List.mem_append.1 hu with h | h
  ·exact hg.ps u h
  ·rw [List.mem_singleton.1 h]
   exact ⟨rfl,by show 1 < 1000; omega⟩
 ·rcases List.mem_append.1 hu with h | h
  ·rw [hnm]
   exact ⟨(hg.body u h).1.mono (Sub.more _ _ _),(hg.body u h).2⟩
  ·rw [List.mem_singleton.1 h,hnm,hn,List.append_assoc]
   have:=zha.2
   exact ⟨.app (.var (za0b m _)) .fail,by omega⟩
 ·rcases List.mem_append.1 hu with h | h
  ·exact ⟨(hp u h).1.mono,(hp u h).2⟩
  ·rw [List.mem_singleton.1 h]
   exact zha
def SAd (us:List Su) (d:D):aV:=[(uF,sL),(Wi,spMa us d),(Bf,zvs),(Bg,zvt),(Ou,zvu),(Wh,spLv)]
theorem zl9 (l:List Cd) (i:Nat) (h:i < l.length):jS 3 (dDs l) i (some (i + 1))=some (dDs [l[i]]):=by
 have hne:l≠[]:=fun e=>by subst e; simp at h
 have hd:dDs l=.list pA (l.map dD):=by
  cases l with
  | nil=>exact absurd rfl hne
  | cons a b=>rfl
 have h1:decide (i≤i + 1)=true:=by simp
 have h2:decide (i + 1≤(l.map dD).length)=true:=by simp; omega
 have h3:(pA.sz == 3)=true:=rfl
 have h4:((l.map dD).drop i).take (i + 1 - i)=[dD l[i]]:=by
  rw [Nat.add_sub_cancel_left,← List.map_drop,List.drop_eq_getElem_cons h]
  rfl
 rw [hd]
 simp only [jS,Option.getD_some,h1,h2,h3,Bool.and_self,aE,h4]
 rfl
theorem zaab (a b:List Cd) (h:a≠[]):jS 3 (dDs (a ++ b)) 0 (some a.length)=some (dDs a):=by
 have hd:∀ l:List Cd,l≠[]→dDs l=.list pA (l.map dD):=fun l hl=>by
  cases l with
  | nil=>exact absurd rfl hl
  | cons a b=>rfl
 have h2:decide (a.length≤((a ++ b).map dD).length)=true:=by simp
 have h3:(pA.sz == 3)=true:=rfl
 have h4:((a ++ b).map dD).take a.length=a.map dD:=by rw [List.map_append,List.take_append_of_le_length (by simp),← List.map_take,List.take_length]
 rw [hd _ (by simp [h]),hd a h]
 simp only [jS,Option.getD_some,h2,h3,List.drop_zero,Nat.sub_zero,h4]
 rfl
theorem zui (d:D) (xs:List Int) (n:Int) (hR:Un lT d xs) (hS:∀ x∈xs,Small x):∃ S:aV,∃ σ',T S 9001 zeeb [d,.int .i64 n] σ0=some (.ret ⟨false,.bool true⟩,σ'):=by
 obtain ⟨us,hM,hok,m,hm,hn⟩:=zzf hR hS
 have hc1:=zye hok
 have hc2:=ztv hok hm hn
 have h4:=hok.2.1
 have hlen:=ztw hc1
 have hbody:=fun c hc=>(zlf hc1 c hc).2
 refine ⟨SAd us d,σ0,?_⟩
 have k1:=Ba (S:=SAd us d) rfl 8999 σ0
 obtain ⟨_,q1,k2⟩:=kZ (S:=SAd us d) (f:=Wi) (s:=spMa us d) rfl rfl (fun _=>rfl) hM
 cases q1 rfl
 have k2:=k2 8999 σ0
 have k3:=zlb (S:=SAd us d) rfl hc1 8999 σ0
 have k4:=zlb (S:=SAd us d) rfl hc2 8999 σ0
 rw [zqv] at k4
 have k6:=zx9 (S:=SAd us d) rfl (bW us) (by omega) (fun c hc=>by have:=hbody c hc; omega) 8999 σ0
 obtain ⟨_,q1,k7⟩:=kZ (S:=SAd us d) (f:=Wh) (s:=spLv) rfl rfl rfl zuq
 cases q1
 have k7:=k7 8999 σ0
 have hp1:=fun c hc=>zx8 (S:=SAd us d) rfl hc1 c hc 8999 σ0
 have hap0:=zdtb us false (by omega)
 have hap:=ztl us [rD] true (fun _=>rfl) (by simp; omega)
 have hdm:[rD].map dU=[.agg [.str [109,111,114,101],.list k_0 [.str [113]],.int .i64 4,.int .i64 0,.str [],.int .i64 0,.int .i64 0,.str [],.nils,.list k_2 [.agg [.int .i64 1,.int .i64 0,.str [102],.int .i64 0,.int .i64 0,.str [],.nils,.nils,.nils,.nils],.agg [.int .i64 11,.int .i64 0,.str [],.int .i64 0,.int .i64 0,.str [],.nils,.nils,.nils,.nils]],.nils,.nils]]:=rfl
 rw [hdm] at hap
 have hne:bW us≠[]:=fun e=>by
  have:(bW us).length=0:=by rw [e]; rfl
  simp [bW,FL] at this
 have hsl:=zaab (bW us) [kG,kH] hne
 have hla:=Ky (bW us)
 have hlb:lenOf (dDs (bW us ++ [kG,kH]))=some ((bW us).length + 2):=by rw [Ky,List.length_append]; rfl
 have hi1:=yO (bW us ++ [kG,kH]) (bW us).length (by rw [List.length_append]; simp)
 have hi2:=yO (bW us ++ [kG,kH]) ((bW us).length + 1) (by rw [List.length_append]; simp)
 have e1:(bW us ++ [kG,kH])[(bW us).length]'(by rw [List.length_append]; simp)=kG:=by rw [List.getElem_append_right (Nat.le_refl _)]; simp
 have e2:(bW us ++ [kG,kH])[(bW us).length + 1]'(by rw [List.length_append]; simp)=kH:=by rw [List.getElem_append_right (by omega)]; simp
 rw [e1] at hi1
 rw [e2] at hi2
 have n1:kG.name=[109,111,114,101]:=rfl
 have n2:kH.name=[109,111,114,101,37,49]:=rfl
 have n3:kH.arity=0:=rfl
 rw [n1] at hi1
 rw [n2,n3] at hi2
 have hab:∀ k (hk:k < (bW us).length),dC 3 (dDs (bW us ++ [kG,kH])) k=some (.eptr (.agg [.str (bW us)[k].name,.int .i64 (bW us)[k].arity,dIs (bW us)[k].body]))∧jS 3 (dDs (bW us ++ [kG,kH])) k (some (k + 1))=some (dDs [(bW us)[k]]):=fun k hk=>by
  have e:(bW us ++ [kG,kH])[k]'(by rw [List.length_append]; omega)=(bW us)[k]:=List.getElem_append_left ..
  have h1:=yO (bW us ++ [kG,kH]) k (by rw [List.length_append]; omega)
  have h2:=zl9 (bW us ++ [kG,kH]) k (by rw [List.length_append]; omega)
  rw [e] at h1 h2
  exact ⟨h1,h2⟩
 have hax:∀ k (hk:k < (bW us).length),dC 3 (dDs (bW us)) k=some (.eptr (.agg [.str (bW us)[k].name,.int .i64 (bW us)[k].arity,dIs (bW us)[k].body]))∧jS 3 (dDs (bW us)) k (some (k + 1))=some (dDs [(bW us)[k]]):=fun k hk=>⟨yO _ k hk,zl9 _ k hk⟩
 have hpm:∀ k (hk:k < (bW us).length),T (SAd us d) 9000 Bg [dDs [(bW us)[k]]] σ0=some (.ret ⟨false,.str (cP [(bW us)[k]])⟩,σ0):=fun k hk=>hp1 _ (List.getElem_mem hk)
 generalize dIs kG.body=bo1 at hi1
 generalize kG.arity=ar1 at hi1
 generalize dIs kH.body=bo2 at hi2
 generalize dDs (bW us ++ [kG,kH])=DB at *
 generalize bW us=A at *
 have w1:=aR (i:=A.length) (by omega)
 have w2:IntKind.i64.wrap ((A.length:Int) + 2)=(A.length:Int) + 2:=iQ (by omega) (by omega)
 have b2:(((A.length + 2:Nat):Int) != (A.length:Int) + 2)=false:=by simp
 have hmn:(!(([109,111,114,101]:Tx) == [109,111,114,101]))=false:=rfl
 have hmn1:(!(([109,111,114,101,37,49]:Tx) == [109,111,114,101,37,49]))=false:=rfl
 rw [zml (af:=Yu) rfl rfl rfl]
 by_cases hn0:n < 0
 ·have hge:¬ (n ≥ 0):=by omega
  simp only [Yu,sA,seval,kn,k1,k2,k3,k4,k6,k7,Eo,hap0,hap,qS,okl,mT,zfe,zff,hla,hlb,w1,w2,b2,cL,hi1,hi2,hmn,hmn1,hge,hsl]
 ·have hge:(n ≥ 0):=by omega
  by_cases hn1:(A.length:Int)≤n
  ·have hlt:¬ (n < (A.length:Int)):=by omega
   simp only [Yu,sA,seval,kn,k1,k2,k3,k4,k6,k7,Eo,hap0,hap,qS,okl,mT,zfe,zff,hla,hlb,w1,w2,b2,cL,hi1,hi2,hmn,hmn1,hge,hlt,hsl]
  ·obtain ⟨k,rfl⟩:∃ k:Nat,n=k:=⟨n.toNat,by omega⟩
   have hk:k < A.length:=by omega
   have hlt:((k:Int) < (A.length:Int)):=by omega
   obtain ⟨hx,sx⟩:=hax k hk
   obtain ⟨hy,sy⟩:=hab k hk
   have hp:=hpm k hk
   have wk:=aR (i:=k) (by omega)
   generalize A[k]=c at *
   have b1:(!(c.name == c.name))=false:=by simp
   have b3:(!(cP [c] == cP [c]))=false:=by simp
   generalize cP [c]=ps at *
   generalize c.name=cn at *
   simp only [Yu,sA,seval,kn,k1,k2,k3,k4,k6,k7,Eo,hap0,hap,qS,okl,mT,zfe,zff,hla,hlb,w1,w2,b2,cL,hi1,hi2,hmn,hmn1,hge,hlt,wk,hx,hy,sx,sy,hp,b1,b3,hsl]
end Go.Fu

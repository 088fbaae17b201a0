/-
 The depths of a code's stack: one instruction,as the document's Keeps takes it.
-/
import Derived.Test.YtldfbnbckiifeaaGreatDoorFgBq
set_option maxHeartbeats 4000000
set_option linter.unusedSimpArgs false
set_option linter.unusedVariables false
set_option linter.unusedSectionVars false
namespace Go.Fu
open Go Go.Mx
set_option maxRecDepth 10000
set_option maxHeartbeats 8000000
theorem zldb {C:CallF} {n:Nat} (fs:List Fd) (ns:List Tx) (c:Cd) (id k:Nat) (ds:List Int) (ty:List (Nat × Ty)) (ot:List (Nat × Oth)) (nx:Nat) (i:In) (s:Bool) (e1 e2:Int) (e3:Bool) (hk:k < c.body.length) (hl:c.body.length < 1000000000) (hm:ds.length=c.body.length + 1)
  (hx:za7 4 (dIs c.body) k=some (.eptr (dI i))) (h1:∀ σ,C n_135 [dFs fs,dSs ns,dI i,.int .i64 k,.int .i64 c.body.length] σ=some (.ret ⟨false,.bool s⟩,σ)) (h2:∀ σ,C n_77 [dI i] σ=some (.ret ⟨false,.tup [.int .i64 e1,.int .i64 e2,.bool e3]⟩,σ))
  (hgo:s=true→goesI i.op=true→(k:Int) < i.n∧i.n < c.body.length) :
  (∃ ds',kst s i e1 e2 (ds.getD k 0) k ds=some ds'∧ds'.length=ds.length∧exec C n none zap (E1k fs ns c id ds.length k) (SK id ds ty ot nx)=some (.normal,E1k fs ns c id ds.length (k + 1),SK id ds' ty ot nx)) ∨
  (kst s i e1 e2 (ds.getD k 0) k ds=none∧∃ σ',exec C n none zap (E1k fs ns c id ds.length k) (SK id ds ty ot nx)=some (.ret,Ef6,σ')):=by
 have hlt:((k:Int) < (c.body.length:Int)):=by omega
 have w:=zag (i:=k) (by omega)
 obtain ⟨op,x,y,nm⟩:=i
 have hp:∀ (a b c:D),Mx.part none [a,b,c] 2=some c:=fun _ _ _=>rfl
 have x1:=zf9 id ds.length k (by omega)
 have x2:=zf9 id ds.length (k + 1) (by omega)
 have n1:=zeg ds k (by omega)
 generalize hd:ds.getD k 0=d at n1 ⊢
 simp only [dI] at hx h1 h2
 simp only at hgo
 unfold kst
 cases s with
 | false=>exact Or.inr ⟨by simp only [tellM,zac,zab,bindO,zad,zao,Bool.not_true,Bool.not_false,Bool.or_false,Bool.false_or,Bool.true_or,Bool.or_true,Bool.and_true,Bool.true_and,Bool.false_and,Bool.and_false,decide_true,decide_false,Int.toNat_natCast,goesI],SK id ds ty ot nx,by simp only [zap,E1k,Ef6,SK,sA,seval,kn,memE,memOp,natI,len_I,hp,onel,hlt,hx,h1,h2,w,x1,n1]⟩
 | true =>
  by_cases g2:d < 0
  ·exact Or.inr ⟨by simp only [tellM,zac,zab,bindO,zad,zao,Bool.not_true,Bool.not_false,Bool.or_false,Bool.false_or,Bool.true_or,Bool.or_true,Bool.and_true,Bool.true_and,Bool.false_and,Bool.and_false,decide_true,decide_false,Int.toNat_natCast,goesI,g2],SK id ds ty ot nx,by simp only [zap,E1k,Ef6,SK,sA,seval,kn,memE,memOp,natI,len_I,hp,onel,hlt,hx,h1,h2,w,x1,n1,g2]⟩
  by_cases g3:d < e1
  ·exact Or.inr ⟨by simp only [tellM,zac,zab,bindO,zad,zao,Bool.not_true,Bool.not_false,Bool.or_false,Bool.false_or,Bool.true_or,Bool.or_true,Bool.and_true,Bool.true_and,Bool.false_and,Bool.and_false,decide_true,decide_false,Int.toNat_natCast,goesI,g2,g3],SK id ds ty ot nx,by simp only [zap,E1k,Ef6,SK,sA,seval,kn,memE,memOp,natI,len_I,hp,onel,hlt,hx,h1,h2,w,x1,n1,g2,g3]⟩
  cases eT:op == [84,69,83,84] with
  | true =>
   have ho:op=[84,69,83,84]:=by simpa using eT
   have eI:(op == [84,69,83,84,73])=false:=by rw [ho]; rfl
   have eJ:(op == [74,85,77,80])=false:=by rw [ho]; rfl
   have eU:(op == [85,78,87,73,78,68])=false:=by rw [ho]; rfl
   have eF:(op == [70,65,73,76])=false:=by rw [ho]; rfl
   obtain ⟨ga,gb⟩:=hgo rfl (by simp only [goesI,g2,g3,eT,eI,eJ,eU,eF,Bool.true_or,Bool.or_true])
   obtain ⟨q,rfl⟩:∃ q:Nat,x=q:=⟨x.toNat,by omega⟩
   have x3:=zf9 id ds.length q (by omega)
   have n3:=zeg ds q (by omega)
   have f3:q + 1≤(cZ ds).length:=by rw [zeq]; omega
   have p3:=zfk ds q d (by omega)
   by_cases t1:0≤ds.getD q 0
   ·cases t2:ds.getD q 0 != d with
    | true =>
     exact Or.inr ⟨by simp only [tellM,zac,zab,bindO,zad,zao,Bool.not_true,Bool.not_false,Bool.or_false,Bool.false_or,Bool.true_or,Bool.or_true,Bool.and_true,Bool.true_and,Bool.false_and,Bool.and_false,decide_true,decide_false,Int.toNat_natCast,goesI,g2,g3,eT,eI,eJ,eU,eF,x3,n3,f3,p3,t1,t2],SK id (ds) ty ot nx,by simp only [zap,E1k,Ef6,SK,sA,seval,kn,memE,memOp,natI,len_I,hp,onel,hlt,hx,h1,h2,w,x1,n1,g2,g3,eT,eI,eJ,eU,eF,x3,n3,f3,p3,t1,t2]⟩
    | false =>
     have ma:=zeg (ds.set q d) (k + 1) (by first | omega | (simp; omega))
     have fa:k + 1 + 1≤(cZ (ds.set q d)).length:=by rw [zeq]; first | omega | (simp; omega)
     have pa:=zfk (ds.set q d) (k + 1) (IntKind.i64.wrap (d + e2)) (by first | omega | (simp; omega))
     by_cases ua:0≤(ds.set q d).getD (k + 1) 0
     ·have ua':¬ (ds.set q d).getD (k + 1) 0 < 0:=by omega
      cases va:(ds.set q d).getD (k + 1) 0 != IntKind.i64.wrap (d + e2) with
      | true =>
       exact Or.inr ⟨by simp only [tellM,zac,zab,bindO,zad,zao,Bool.not_true,Bool.not_false,Bool.or_false,Bool.false_or,Bool.true_or,Bool.or_true,Bool.and_true,Bool.true_and,Bool.false_and,Bool.and_false,decide_true,decide_false,Int.toNat_natCast,goesI,g2,g3,eT,eI,eJ,eU,eF,x3,n3,f3,p3,t1,t2,x2,ma,fa,pa,ua,ua',va],SK id (ds.set q d) ty ot nx,by simp only [zap,E1k,Ef6,SK,sA,seval,kn,memE,memOp,natI,len_I,hp,onel,hlt,hx,h1,h2,w,x1,n1,g2,g3,eT,eI,eJ,eU,eF,x3,n3,f3,p3,t1,t2,x2,ma,fa,pa,ua,ua',va]⟩
      | false =>
       exact Or.inl ⟨(ds.set q d).set (k + 1) (IntKind.i64.wrap (d + e2)),by simp only [tellM,zac,zab,bindO,zad,zao,Bool.not_true,Bool.not_false,Bool.or_false,Bool.false_or,Bool.true_or,Bool.or_true,Bool.and_true,Bool.true_and,Bool.false_and,Bool.and_false,decide_true,decide_false,Int.toNat_natCast,goesI,g2,g3,eT,eI,eJ,eU,eF,x3,n3,f3,p3,t1,t2,x2,ma,fa,pa,ua,ua',va],by simp,by simp only [zap,E1k,Ef6,SK,sA,seval,kn,memE,memOp,natI,len_I,hp,onel,hlt,hx,h1,h2,w,x1,n1,g2,g3,eT,eI,eJ,eU,eF,x3,n3,f3,p3,t1,t2,x2,ma,fa,pa,ua,ua',va]⟩
     ·have ua':(ds.set q d).getD (k + 1) 0 < 0:=by omega
      exact Or.inl ⟨(ds.set q d).set (k + 1) (IntKind.i64.wrap (d + e2)),by simp only [tellM,zac,zab,bindO,zad,zao,Bool.not_true,Bool.not_false,Bool.or_false,Bool.false_or,Bool.true_or,Bool.or_true,Bool.and_true,Bool.true_and,Bool.false_and,Bool.and_false,decide_true,decide_false,Int.toNat_natCast,goesI,g2,g3,eT,eI,eJ,eU,eF,x3,n3,f3,p3,t1,t2,x2,ma,fa,pa,ua,ua'],by simp,by simp only [zap,E1k,Ef6,SK,sA,seval,kn,memE,memOp,natI,len_I,hp,onel,hlt,hx,h1,h2,w,x1,n1,g2,g3,eT,eI,eJ,eU,eF,x3,n3,f3,p3,t1,t2,x2,ma,fa,pa,ua,ua']⟩
   ·have mb:=zeg (ds.set q d) (k + 1) (by first | omega | (simp; omega))
    have fb:k + 1 + 1≤(cZ (ds.set q d)).length:=by rw [zeq]; first | omega | (simp; omega)
    have pb:=zfk (ds.set q d) (k + 1) (IntKind.i64.wrap (d + e2)) (by first | omega | (simp; omega))
    by_cases ub:0≤(ds.set q d).getD (k + 1) 0
    ·have ub':¬ (ds.set q d).getD (k + 1) 0 < 0:=by omega
     cases vb:(ds.set q d).getD (k + 1) 0 != IntKind.i64.wrap (d + e2) with
     | true =>
      exact Or.inr ⟨by simp only [tellM,zac,zab,bindO,zad,zao,Bool.not_true,Bool.not_false,Bool.or_false,Bool.false_or,Bool.true_or,Bool.or_true,Bool.and_true,Bool.true_and,Bool.false_and,Bool.and_false,decide_true,decide_false,Int.toNat_natCast,goesI,g2,g3,eT,eI,eJ,eU,eF,x3,n3,f3,p3,t1,x2,mb,fb,pb,ub,ub',vb],SK id (ds.set q d) ty ot nx,by simp only [zap,E1k,Ef6,SK,sA,seval,kn,memE,memOp,natI,len_I,hp,onel,hlt,hx,h1,h2,w,x1,n1,g2,g3,eT,eI,eJ,eU,eF,x3,n3,f3,p3,t1,x2,mb,fb,pb,ub,ub',vb]⟩
     | false =>
      exact Or.inl ⟨(ds.set q d).set (k + 1) (IntKind.i64.wrap (d + e2)),by simp only [tellM,zac,zab,bindO,zad,zao,Bool.not_true,Bool.not_false,Bool.or_false,Bool.false_or,Bool.true_or,Bool.or_true,Bool.and_true,Bool.true_and,Bool.false_and,Bool.and_false,decide_true,decide_false,Int.toNat_natCast,goesI,g2,g3,eT,eI,eJ,eU,eF,x3,n3,f3,p3,t1,x2,mb,fb,pb,ub,ub',vb],by simp,by simp only [zap,E1k,Ef6,SK,sA,seval,kn,memE,memOp,natI,len_I,hp,onel,hlt,hx,h1,h2,w,x1,n1,g2,g3,eT,eI,eJ,eU,eF,x3,n3,f3,p3,t1,x2,mb,fb,pb,ub,ub',vb]⟩
    ·have ub':(ds.set q d).getD (k + 1) 0 < 0:=by omega
     exact Or.inl ⟨(ds.set q d).set (k + 1) (IntKind.i64.wrap (d + e2)),by simp only [tellM,zac,zab,bindO,zad,zao,Bool.not_true,Bool.not_false,Bool.or_false,Bool.false_or,Bool.true_or,Bool.or_true,Bool.and_true,Bool.true_and,Bool.false_and,Bool.and_false,decide_true,decide_false,Int.toNat_natCast,goesI,g2,g3,eT,eI,eJ,eU,eF,x3,n3,f3,p3,t1,x2,mb,fb,pb,ub,ub'],by simp,by simp only [zap,E1k,Ef6,SK,sA,seval,kn,memE,memOp,natI,len_I,hp,onel,hlt,hx,h1,h2,w,x1,n1,g2,g3,eT,eI,eJ,eU,eF,x3,n3,f3,p3,t1,x2,mb,fb,pb,ub,ub']⟩
  | false =>
   cases eI:op == [84,69,83,84,73] with
   | true =>
    have ho:op=[84,69,83,84,73]:=by simpa using eI
    have eJ:(op == [74,85,77,80])=false:=by rw [ho]; rfl
    have eU:(op == [85,78,87,73,78,68])=false:=by rw [ho]; rfl
    have eF:(op == [70,65,73,76])=false:=by rw [ho]; rfl
    obtain ⟨ga,gb⟩:=hgo rfl (by simp only [goesI,g2,g3,eT,eI,eJ,eU,eF,Bool.true_or,Bool.or_true])
    obtain ⟨q,rfl⟩:∃ q:Nat,x=q:=⟨x.toNat,by omega⟩
    have x3:=zf9 id ds.length q (by omega)
    have n3:=zeg ds q (by omega)
    have f3:q + 1≤(cZ ds).length:=by rw [zeq]; omega
    have p3:=zfk ds q d (by omega)
    by_cases t1:0≤ds.getD q 0
    ·cases t2:ds.getD q 0 != d with
     | true =>
      exact Or.inr ⟨by simp only [tellM,zac,zab,bindO,zad,zao,Bool.not_true,Bool.not_false,Bool.or_false,Bool.false_or,Bool.true_or,Bool.or_true,Bool.and_true,Bool.true_and,Bool.false_and,Bool.and_false,decide_true,decide_false,Int.toNat_natCast,goesI,g2,g3,eT,eI,eJ,eU,eF,x3,n3,f3,p3,t1,t2],SK id (ds) ty ot nx,by simp only [zap,E1k,Ef6,SK,sA,seval,kn,memE,memOp,natI,len_I,hp,onel,hlt,hx,h1,h2,w,x1,n1,g2,g3,eT,eI,eJ,eU,eF,x3,n3,f3,p3,t1,t2]⟩
     | false =>
      have ma:=zeg (ds.set q d) (k + 1) (by first | omega | (simp; omega))
      have fa:k + 1 + 1≤(cZ (ds.set q d)).length:=by rw [zeq]; first | omega | (simp; omega)
      have pa:=zfk (ds.set q d) (k + 1) (IntKind.i64.wrap (d + e2)) (by first | omega | (simp; omega))
      by_cases ua:0≤(ds.set q d).getD (k + 1) 0
      ·have ua':¬ (ds.set q d).getD (k + 1) 0 < 0:=by omega
       cases va:(ds.set q d).getD (k + 1) 0 != IntKind.i64.wrap (d + e2) with
       | true =>
        exact Or.inr ⟨by simp only [tellM,zac,zab,bindO,zad,zao,Bool.not_true,Bool.not_false,Bool.or_false,Bool.false_or,Bool.true_or,Bool.or_true,Bool.and_true,Bool.true_and,Bool.false_and,Bool.and_false,decide_true,decide_false,Int.toNat_natCast,goesI,g2,g3,eT,eI,eJ,eU,eF,x3,n3,f3,p3,t1,t2,x2,ma,fa,pa,ua,ua',va],SK id (ds.set q d) ty ot nx,by simp only [zap,E1k,Ef6,SK,sA,seval,kn,memE,memOp,natI,len_I,hp,onel,hlt,hx,h1,h2,w,x1,n1,g2,g3,eT,eI,eJ,eU,eF,x3,n3,f3,p3,t1,t2,x2,ma,fa,pa,ua,ua',va]⟩
       | false =>
        exact Or.inl ⟨(ds.set q d).set (k + 1) (IntKind.i64.wrap (d + e2)),by simp only [tellM,zac,zab,bindO,zad,zao,Bool.not_true,Bool.not_false,Bool.or_false,Bool.false_or,Bool.true_or,Bool.or_true,Bool.and_true,Bool.true_and,Bool.false_and,Bool.and_false,decide_true,decide_false,Int.toNat_natCast,goesI,g2,g3,eT,eI,eJ,eU,eF,x3,n3,f3,p3,t1,t2,x2,ma,fa,pa,ua,ua',va],by simp,by simp only [zap,E1k,Ef6,SK,sA,seval,kn,memE,memOp,natI,len_I,hp,onel,hlt,hx,h1,h2,w,x1,n1,g2,g3,eT,eI,eJ,eU,eF,x3,n3,f3,p3,t1,t2,x2,ma,fa,pa,ua,ua',va]⟩
      ·have ua':(ds.set q d).getD (k + 1) 0 < 0:=by omega
       exact Or.inl ⟨(ds.set q d).set (k + 1) (IntKind.i64.wrap (d + e2)),by simp only [tellM,zac,zab,bindO,zad,zao,Bool.not_true,Bool.not_false,Bool.or_false,Bool.false_or,Bool.true_or,Bool.or_true,Bool.and_true,Bool.true_and,Bool.false_and,Bool.and_false,decide_true,decide_false,Int.toNat_natCast,goesI,g2,g3,eT,eI,eJ,eU,eF,x3,n3,f3,p3,t1,t2,x2,ma,fa,pa,ua,ua'],by simp,by simp only [zap,E1k,Ef6,SK,sA,seval,kn,memE,memOp,natI,len_I,hp,onel,hlt,hx,h1,h2,w,x1,n1,g2,g3,eT,eI,eJ,eU,eF,x3,n3,f3,p3,t1,t2,x2,ma,fa,pa,ua,ua']⟩
    ·have mb:=zeg (ds.set q d) (k + 1) (by first | omega | (simp; omega))
     have fb:k + 1 + 1≤(cZ (ds.set q d)).length:=by rw [zeq]; first | omega | (simp; omega)
     have pb:=zfk (ds.set q d) (k + 1) (IntKind.i64.wrap (d + e2)) (by first | omega | (simp; omega))
     by_cases ub:0≤(ds.set q d).getD (k + 1) 0
     ·have ub':¬ (ds.set q d).getD (k + 1) 0 < 0:=by omega
      cases vb:(ds.set q d).getD (k + 1) 0 != IntKind.i64.wrap (d + e2) with
      | true =>
       exact Or.inr ⟨by simp only [tellM,zac,zab,bindO,zad,zao,Bool.not_true,Bool.not_false,Bool.or_false,Bool.false_or,Bool.true_or,Bool.or_true,Bool.and_true,Bool.true_and,Bool.false_and,Bool.and_false,decide_true,decide_false,Int.toNat_natCast,goesI,g2,g3,eT,eI,eJ,eU,eF,x3,n3,f3,p3,t1,x2,mb,fb,pb,ub,ub',vb],SK id (ds.set q d) ty ot nx,by simp only [zap,E1k,Ef6,SK,sA,seval,kn,memE,memOp,natI,len_I,hp,onel,hlt,hx,h1,h2,w,x1,n1,g2,g3,eT,eI,eJ,eU,eF,x3,n3,f3,p3,t1,x2,mb,fb,pb,ub,ub',vb]⟩
      | false =>
       exact Or.inl ⟨(ds.set q d).set (k + 1) (IntKind.i64.wrap (d + e2)),by simp only [tellM,zac,zab,bindO,zad,zao,Bool.not_true,Bool.not_false,Bool.or_false,Bool.false_or,Bool.true_or,Bool.or_true,Bool.and_true,Bool.true_and,Bool.false_and,Bool.and_false,decide_true,decide_false,Int.toNat_natCast,goesI,g2,g3,eT,eI,eJ,eU,eF,x3,n3,f3,p3,t1,x2,mb,fb,pb,ub,ub',vb],by simp,by simp only [zap,E1k,Ef6,SK,sA,seval,kn,memE,memOp,natI,len_I,hp,onel,hlt,hx,h1,h2,w,x1,n1,g2,g3,eT,eI,eJ,eU,eF,x3,n3,f3,p3,t1,x2,mb,fb,pb,ub,ub',vb]⟩
     ·have ub':(ds.set q d).getD (k + 1) 0 < 0:=by omega
      exact Or.inl ⟨(ds.set q d).set (k + 1) (IntKind.i64.wrap (d + e2)),by simp only [tellM,zac,zab,bindO,zad,zao,Bool.not_true,Bool.not_false,Bool.or_false,Bool.false_or,Bool.true_or,Bool.or_true,Bool.and_true,Bool.true_and,Bool.false_and,Bool.and_false,decide_true,decide_false,Int.toNat_natCast,goesI,g2,g3,eT,eI,eJ,eU,eF,x3,n3,f3,p3,t1,x2,mb,fb,pb,ub,ub'],by simp,by simp only [zap,E1k,Ef6,SK,sA,seval,kn,memE,memOp,natI,len_I,hp,onel,hlt,hx,h1,h2,w,x1,n1,g2,g3,eT,eI,eJ,eU,eF,x3,n3,f3,p3,t1,x2,mb,fb,pb,ub,ub']⟩
   | false =>
    cases eJ:op == [74,85,77,80] with
    | true =>
     have ho:op=[74,85,77,80]:=by simpa using eJ
     have eU:(op == [85,78,87,73,78,68])=false:=by rw [ho]; rfl
     have eF:(op == [70,65,73,76])=false:=by rw [ho]; rfl
     obtain ⟨ga,gb⟩:=hgo rfl (by simp only [goesI,g2,g3,eT,eI,eJ,eU,eF,Bool.true_or,Bool.or_true])
     obtain ⟨q,rfl⟩:∃ q:Nat,x=q:=⟨x.toNat,by omega⟩
     have x3:=zf9 id ds.length q (by omega)
     have n3:=zeg ds q (by omega)
     have f3:q + 1≤(cZ ds).length:=by rw [zeq]; omega
     have p3:=zfk ds q d (by omega)
     by_cases t1:0≤ds.getD q 0
     ·cases t2:ds.getD q 0 != d with
      | true =>
       exact Or.inr ⟨by simp only [tellM,zac,zab,bindO,zad,zao,Bool.not_true,Bool.not_false,Bool.or_false,Bool.false_or,Bool.true_or,Bool.or_true,Bool.and_true,Bool.true_and,Bool.false_and,Bool.and_false,decide_true,decide_false,Int.toNat_natCast,goesI,g2,g3,eT,eI,eJ,eU,eF,x3,n3,f3,p3,t1,t2],SK id (ds) ty ot nx,by simp only [zap,E1k,Ef6,SK,sA,seval,kn,memE,memOp,natI,len_I,hp,onel,hlt,hx,h1,h2,w,x1,n1,g2,g3,eT,eI,eJ,eU,eF,x3,n3,f3,p3,t1,t2]⟩
      | false =>
       exact Or.inl ⟨ds.set q d,by simp only [tellM,zac,zab,bindO,zad,zao,Bool.not_true,Bool.not_false,Bool.or_false,Bool.false_or,Bool.true_or,Bool.or_true,Bool.and_true,Bool.true_and,Bool.false_and,Bool.and_false,decide_true,decide_false,Int.toNat_natCast,goesI,g2,g3,eT,eI,eJ,eU,eF,x3,n3,f3,p3,t1,t2],by simp,by simp only [zap,E1k,Ef6,SK,sA,seval,kn,memE,memOp,natI,len_I,hp,onel,hlt,hx,h1,h2,w,x1,n1,g2,g3,eT,eI,eJ,eU,eF,x3,n3,f3,p3,t1,t2]⟩
     ·exact Or.inl ⟨ds.set q d,by simp only [tellM,zac,zab,bindO,zad,zao,Bool.not_true,Bool.not_false,Bool.or_false,Bool.false_or,Bool.true_or,Bool.or_true,Bool.and_true,Bool.true_and,Bool.false_and,Bool.and_false,decide_true,decide_false,Int.toNat_natCast,goesI,g2,g3,eT,eI,eJ,eU,eF,x3,n3,f3,p3,t1],by simp,by simp only [zap,E1k,Ef6,SK,sA,seval,kn,memE,memOp,natI,len_I,hp,onel,hlt,hx,h1,h2,w,x1,n1,g2,g3,eT,eI,eJ,eU,eF,x3,n3,f3,p3,t1]⟩
    | false =>
     cases eU:op == [85,78,87,73,78,68] with
     | true =>
      have ho:op=[85,78,87,73,78,68]:=by simpa using eU
      have eF:(op == [70,65,73,76])=false:=by rw [ho]; rfl
      cases z:d != 0 with
      | true =>
       exact Or.inr ⟨by simp only [tellM,zac,zab,bindO,zad,zao,Bool.not_true,Bool.not_false,Bool.or_false,Bool.false_or,Bool.true_or,Bool.or_true,Bool.and_true,Bool.true_and,Bool.false_and,Bool.and_false,decide_true,decide_false,Int.toNat_natCast,goesI,g2,g3,eT,eI,eJ,eU,eF,z],SK id (ds) ty ot nx,by simp only [zap,E1k,Ef6,SK,sA,seval,kn,memE,memOp,natI,len_I,hp,onel,hlt,hx,h1,h2,w,x1,n1,g2,g3,eT,eI,eJ,eU,eF,z]⟩
      | false =>
       exact Or.inl ⟨ds,by simp only [tellM,zac,zab,bindO,zad,zao,Bool.not_true,Bool.not_false,Bool.or_false,Bool.false_or,Bool.true_or,Bool.or_true,Bool.and_true,Bool.true_and,Bool.false_and,Bool.and_false,decide_true,decide_false,Int.toNat_natCast,goesI,g2,g3,eT,eI,eJ,eU,eF,z],by simp,by simp only [zap,E1k,Ef6,SK,sA,seval,kn,memE,memOp,natI,len_I,hp,onel,hlt,hx,h1,h2,w,x1,n1,g2,g3,eT,eI,eJ,eU,eF,z]⟩
     | false =>
      cases eF:op == [70,65,73,76] with
      | true =>
       have ho:op=[70,65,73,76]:=by simpa using eF
       have m9:=zeg ds (k + 1) (by omega)
       have f9:k + 1 + 1≤(cZ ds).length:=by rw [zeq]; omega
       have p9:=zfk ds (k + 1) (IntKind.i64.wrap (d + e2)) (by omega)
       by_cases u9:ds.getD (k + 1) 0 < 0
       ·have u8:¬ 0≤ds.getD (k + 1) 0:=by omega
        exact Or.inl ⟨ds.set (k + 1) (IntKind.i64.wrap (d + e2)),by simp only [tellM,zac,zab,bindO,zad,zao,Bool.not_true,Bool.not_false,Bool.or_false,Bool.false_or,Bool.true_or,Bool.or_true,Bool.and_true,Bool.true_and,Bool.false_and,Bool.and_false,decide_true,decide_false,Int.toNat_natCast,goesI,g2,g3,eT,eI,eJ,eU,eF,x2,m9,f9,p9,u9,u8],by simp,by simp only [zap,E1k,Ef6,SK,sA,seval,kn,memE,memOp,natI,len_I,hp,onel,hlt,hx,h1,h2,w,x1,n1,g2,g3,eT,eI,eJ,eU,eF,x2,m9,f9,p9,u9,u8]⟩
       ·exact Or.inl ⟨ds,by simp only [tellM,zac,zab,bindO,zad,zao,Bool.not_true,Bool.not_false,Bool.or_false,Bool.false_or,Bool.true_or,Bool.or_true,Bool.and_true,Bool.true_and,Bool.false_and,Bool.and_false,decide_true,decide_false,Int.toNat_natCast,goesI,g2,g3,eT,eI,eJ,eU,eF,x2,m9,f9,p9,u9],by simp,by simp only [zap,E1k,Ef6,SK,sA,seval,kn,memE,memOp,natI,len_I,hp,onel,hlt,hx,h1,h2,w,x1,n1,g2,g3,eT,eI,eJ,eU,eF,x2,m9,f9,p9,u9]⟩
      | false =>
       have mz:=zeg (ds) (k + 1) (by first | omega | (simp; omega))
       have fz:k + 1 + 1≤(cZ (ds)).length:=by rw [zeq]; first | omega | (simp; omega)
       have pz:=zfk (ds) (k + 1) (IntKind.i64.wrap (d + e2)) (by first | omega | (simp; omega))
       by_cases uz:0≤(ds).getD (k + 1) 0
       ·have uz':¬ (ds).getD (k + 1) 0 < 0:=by omega
        cases vz:(ds).getD (k + 1) 0 != IntKind.i64.wrap (d + e2) with
        | true =>
         exact Or.inr ⟨by simp only [tellM,zac,zab,bindO,zad,zao,Bool.not_true,Bool.not_false,Bool.or_false,Bool.false_or,Bool.true_or,Bool.or_true,Bool.and_true,Bool.true_and,Bool.false_and,Bool.and_false,decide_true,decide_false,Int.toNat_natCast,goesI,g2,g3,eT,eI,eJ,eU,eF,x2,mz,fz,pz,uz,uz',vz],SK id (ds) ty ot nx,by simp only [zap,E1k,Ef6,SK,sA,seval,kn,memE,memOp,natI,len_I,hp,onel,hlt,hx,h1,h2,w,x1,n1,g2,g3,eT,eI,eJ,eU,eF,x2,mz,fz,pz,uz,uz',vz]⟩
        | false =>
         exact Or.inl ⟨(ds).set (k + 1) (IntKind.i64.wrap (d + e2)),by simp only [tellM,zac,zab,bindO,zad,zao,Bool.not_true,Bool.not_false,Bool.or_false,Bool.false_or,Bool.true_or,Bool.or_true,Bool.and_true,Bool.true_and,Bool.false_and,Bool.and_false,decide_true,decide_false,Int.toNat_natCast,goesI,g2,g3,eT,eI,eJ,eU,eF,x2,mz,fz,pz,uz,uz',vz],by simp,by simp only [zap,E1k,Ef6,SK,sA,seval,kn,memE,memOp,natI,len_I,hp,onel,hlt,hx,h1,h2,w,x1,n1,g2,g3,eT,eI,eJ,eU,eF,x2,mz,fz,pz,uz,uz',vz]⟩
       ·have uz':(ds).getD (k + 1) 0 < 0:=by omega
        exact Or.inl ⟨(ds).set (k + 1) (IntKind.i64.wrap (d + e2)),by simp only [tellM,zac,zab,bindO,zad,zao,Bool.not_true,Bool.not_false,Bool.or_false,Bool.false_or,Bool.true_or,Bool.or_true,Bool.and_true,Bool.true_and,Bool.false_and,Bool.and_false,decide_true,decide_false,Int.toNat_natCast,goesI,g2,g3,eT,eI,eJ,eU,eF,x2,mz,fz,pz,uz,uz'],by simp,by simp only [zap,E1k,Ef6,SK,sA,seval,kn,memE,memOp,natI,len_I,hp,onel,hlt,hx,h1,h2,w,x1,n1,g2,g3,eT,eI,eJ,eU,eF,x2,mz,fz,pz,uz,uz']⟩
end Go.Fu

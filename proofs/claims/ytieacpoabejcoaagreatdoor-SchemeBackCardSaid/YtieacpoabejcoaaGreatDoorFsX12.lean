/-
 Types in print,run.
-/
import Derived.Test.YtieacpoabejcoaaGreatDoorFsX4
import Derived.Test.YtieacpoabejcoaaGreatDoorFsX8
set_option maxHeartbeats 4000000
set_option linter.unusedSimpArgs false
set_option linter.unusedVariables false
set_option linter.unusedSectionVars false
namespace Go.Fu
open Go Go.Mx
set_option maxRecDepth 10000
def szT:Tp→Nat
 | .app f a=>szT f + szT a + 10
 | _=>10
def smT:Tp→Bool
 | .hole x=>decide (0≤x) && decide (x < 6)
 | .var s=>decide (s.length≤6)
 | .con c=>decide (c.length≤6)
 | .app f a=>smT f && smT a
theorem zoo (b:Bool) (s:List UInt8):(brS b s).length≤s.length + 2:=by
 unfold brS
 split <;> simp
theorem zb8:∀ (t:Tp) (k:Nat),smT t=true→(prT t k).length≤szT t
 | .hole x,k,_=>by simp [prT,szT]
 | .var s,k,h=>by
  simp only [smT,decide_eq_true_eq] at h
  simp only [prT,szT]; omega
 | .con c,k,h=>by
  simp only [smT,decide_eq_true_eq] at h
  have:=zoo (c == arrS0) c
  simp only [prT,szT]; omega
 | .app (.app (.con c) a) b,k,h=>by
  simp only [smT,Bool.and_eq_true,decide_eq_true_eq] at h
  have ha:=zb8 a 1 h.1.2
  have hb:=zb8 b 0 h.2
  have hb3:=zb8 b 3 h.2
  have hf:=zb8 (.app (.con c) a) 2 (by simp [smT,h.1.1,h.1.2])
  simp only [szT] at hf
  rw [prT]
  split
  ·have:=zoo (k != 0) (prT a 1 ++ [32,45,62,32] ++ prT b 0)
   simp only [List.length_append,List.length_cons,List.length_nil] at this
   simp only [szT]; omega
  ·have:=zoo (k == 3) (prT (.app (.con c) a) 2 ++ [32] ++ prT b 3)
   simp only [List.length_append,List.length_cons,List.length_nil] at this
   simp only [szT]; omega
 | .app (.hole x) a,k,h=>prT_len_app (.hole x) a k (zb8 (.hole x) 2 (by simp only [smT,Bool.and_eq_true] at h; simpa [smT] using h.1)) (zb8 a 3 (by simp only [smT,Bool.and_eq_true] at h; exact h.2)) rfl
 | .app (.var x) a,k,h=>prT_len_app (.var x) a k (zb8 (.var x) 2 (by simp only [smT,Bool.and_eq_true] at h; simpa [smT] using h.1)) (zb8 a 3 (by simp only [smT,Bool.and_eq_true] at h; exact h.2)) rfl
 | .app (.con x) a,k,h=>prT_len_app (.con x) a k (zb8 (.con x) 2 (by simp only [smT,Bool.and_eq_true] at h; simpa [smT] using h.1)) (zb8 a 3 (by simp only [smT,Bool.and_eq_true] at h; exact h.2)) rfl
 | .app (.app (.hole x) b) a,k,h=>prT_len_app (.app (.hole x) b) a k (zb8 (.app (.hole x) b) 2 (by simp only [smT,Bool.and_eq_true] at h ⊢; simpa using h.1)) (zb8 a 3 (by simp only [smT,Bool.and_eq_true] at h; exact h.2)) rfl
 | .app (.app (.var x) b) a,k,h=>prT_len_app (.app (.var x) b) a k (zb8 (.app (.var x) b) 2 (by simp only [smT,Bool.and_eq_true] at h ⊢; simpa using h.1)) (zb8 a 3 (by simp only [smT,Bool.and_eq_true] at h; exact h.2)) rfl
 | .app (.app (.app x y) b) a,k,h=>prT_len_app (.app (.app x y) b) a k (zb8 (.app (.app x y) b) 2 (by simp only [smT,Bool.and_eq_true] at h ⊢; simpa using h.1)) (zb8 a 3 (by simp only [smT,Bool.and_eq_true] at h; exact h.2)) rfl
where
 prT_len_app (f a:Tp) (k:Nat) (h1:(prT f 2).length≤szT f) (h2:(prT a 3).length≤szT a) (he:prT (.app f a) k=brS (k == 3) (prT f 2 ++ [32] ++ prT a 3)):(prT (.app f a) k).length≤szT (.app f a):=by
  rw [he]
  have:=zoo (k == 3) (prT f 2 ++ [32] ++ prT a 3)
  simp only [List.length_append,List.length_cons,List.length_nil] at this
  simp only [szT]; omega
def z4D:D:=.agg [.int .i64 0,.int .i64 0,.str [],.nils]
def zfi:Tp→Option (Tp × Tp)
 | .app (.app (.con c) a) b=>if c == arrS0 then some (a,b) else none
 | _=>none
theorem ziy (t:Tp) (h:zfi t=none):Evly fun n=>∀ σ,T n n_105 [dT t] σ=some (.ret ⟨false,.tup [z4D,z4D,.bool false]⟩,σ):=any _ fun n σ=>by
 rw [T_fun (af:=a_15) rfl rfl]
 cases t with
 | hole x=>simp only [a_15,sA,Nat.reduceAdd,Nat.reduceSub,Nat.reduceMul,Nat.reduceBEq,Nat.reduceLeDiff,Int.reduceBEq,Int.reduceBNe,Int.reduceLE,Int.reduceLT,Int.reduceGE,Int.reduceGT,Int.reduceNeg,kn,zeroI,lit1,lit2,lit3,lit4,lit5,lit6,lit7,lit8,dT,z4D,Mx.part]
 | var s=>simp only [a_15,sA,Nat.reduceAdd,Nat.reduceSub,Nat.reduceMul,Nat.reduceBEq,Nat.reduceLeDiff,Int.reduceBEq,Int.reduceBNe,Int.reduceLE,Int.reduceLT,Int.reduceGE,Int.reduceGT,Int.reduceNeg,kn,zeroI,lit1,lit2,lit3,lit4,lit5,lit6,lit7,lit8,dT,z4D,Mx.part]
 | con s=>simp only [a_15,sA,Nat.reduceAdd,Nat.reduceSub,Nat.reduceMul,Nat.reduceBEq,Nat.reduceLeDiff,Int.reduceBEq,Int.reduceBNe,Int.reduceLE,Int.reduceLT,Int.reduceGE,Int.reduceGT,Int.reduceNeg,kn,zeroI,lit1,lit2,lit3,lit4,lit5,lit6,lit7,lit8,dT,z4D,Mx.part]
 | app f b =>
  cases f with
  | hole x=>simp only [a_15,sA,Nat.reduceAdd,Nat.reduceSub,Nat.reduceMul,Nat.reduceBEq,Nat.reduceLeDiff,Int.reduceBEq,Int.reduceBNe,Int.reduceLE,Int.reduceLT,Int.reduceGE,Int.reduceGT,Int.reduceNeg,kn,zeroI,lit1,lit2,lit3,lit4,lit5,lit6,lit7,lit8,dT,z4D,Mx.part]
  | var s=>simp only [a_15,sA,Nat.reduceAdd,Nat.reduceSub,Nat.reduceMul,Nat.reduceBEq,Nat.reduceLeDiff,Int.reduceBEq,Int.reduceBNe,Int.reduceLE,Int.reduceLT,Int.reduceGE,Int.reduceGT,Int.reduceNeg,kn,zeroI,lit1,lit2,lit3,lit4,lit5,lit6,lit7,lit8,dT,z4D,Mx.part]
  | con s=>simp only [a_15,sA,Nat.reduceAdd,Nat.reduceSub,Nat.reduceMul,Nat.reduceBEq,Nat.reduceLeDiff,Int.reduceBEq,Int.reduceBNe,Int.reduceLE,Int.reduceLT,Int.reduceGE,Int.reduceGT,Int.reduceNeg,kn,zeroI,lit1,lit2,lit3,lit4,lit5,lit6,lit7,lit8,dT,z4D,Mx.part]
  | app g a =>
   cases g with
   | hole x=>simp only [a_15,sA,Nat.reduceAdd,Nat.reduceSub,Nat.reduceMul,Nat.reduceBEq,Nat.reduceLeDiff,Int.reduceBEq,Int.reduceBNe,Int.reduceLE,Int.reduceLT,Int.reduceGE,Int.reduceGT,Int.reduceNeg,kn,zeroI,lit1,lit2,lit3,lit4,lit5,lit6,lit7,lit8,dT,z4D,Mx.part]
   | var s=>simp only [a_15,sA,Nat.reduceAdd,Nat.reduceSub,Nat.reduceMul,Nat.reduceBEq,Nat.reduceLeDiff,Int.reduceBEq,Int.reduceBNe,Int.reduceLE,Int.reduceLT,Int.reduceGE,Int.reduceGT,Int.reduceNeg,kn,zeroI,lit1,lit2,lit3,lit4,lit5,lit6,lit7,lit8,dT,z4D,Mx.part]
   | app g a=>simp only [a_15,sA,Nat.reduceAdd,Nat.reduceSub,Nat.reduceMul,Nat.reduceBEq,Nat.reduceLeDiff,Int.reduceBEq,Int.reduceBNe,Int.reduceLE,Int.reduceLT,Int.reduceGE,Int.reduceGT,Int.reduceNeg,kn,zeroI,lit1,lit2,lit3,lit4,lit5,lit6,lit7,lit8,dT,z4D,Mx.part]
   | con c =>
    have hc:(c == ([45,62]:List UInt8))=false:=by
     cases hb:c == ([45,62]:List UInt8) with
     | false=>rfl
     | true=>simp only [zfi,arrS0,hb,if_true] at h; cases h
    simp only [a_15,sA,Nat.reduceAdd,Nat.reduceSub,Nat.reduceMul,Nat.reduceBEq,Nat.reduceLeDiff,Int.reduceBEq,Int.reduceBNe,Int.reduceLE,Int.reduceLT,Int.reduceGE,Int.reduceGT,Int.reduceNeg,kn,zeroI,lit1,lit2,lit3,lit4,lit5,lit6,lit7,lit8,dT,z4D,Mx.part,hc]
theorem zd2b (t a b:Tp) (h:zfi t=some (a,b)):Evly fun n=>∀ σ,T n n_105 [dT t] σ=some (.ret ⟨false,.tup [dT a,dT b,.bool true]⟩,σ):=any _ fun n σ=>by
 unfold zfi at h
 split at h
 ·rename_i c a' b'
  split at h
  ·rename_i hc
   cases h
   have hc:(c == ([45,62]:List UInt8))=true:=hc
   rw [T_fun (af:=a_15) rfl rfl]
   simp only [a_15,sA,Nat.reduceAdd,Nat.reduceSub,Nat.reduceMul,Nat.reduceBEq,Nat.reduceLeDiff,Int.reduceBEq,Int.reduceBNe,Int.reduceLE,Int.reduceLT,Int.reduceGE,Int.reduceGT,Int.reduceNeg,kn,zeroI,lit1,lit2,lit3,lit4,lit5,lit6,lit7,lit8,dT,dT_eq a,dT_eq b,cT,Mx.part,hc]
  ·cases h
 ·cases h
theorem zfdb:Evly fun n=>∀ σ,T n n_200 [.bool false] σ=some (.ret ⟨false,.int .i64 0⟩,σ):=any _ fun n σ=>by
 rw [T_fun (af:=a_161) rfl rfl]
 simp only [a_161,sA,Nat.reduceAdd,Nat.reduceSub,Nat.reduceMul,Nat.reduceBEq,Nat.reduceLeDiff,Int.reduceBEq,Int.reduceBNe,Int.reduceLE,Int.reduceLT,Int.reduceGE,Int.reduceGT,Int.reduceNeg,kn,zeroI,lit1,lit2,lit3,lit4,lit5,lit6,lit7,lit8]
theorem ztf (m:Nat) (t:Tp) (k:Int) (σ:Store) (ht:isApp t=false) (hs:smT t=true) (h0:T m n_105 [dT t] σ=some (.ret ⟨false,.tup [z4D,z4D,.bool false]⟩,σ)) (h1:∀ (x:Nat),x < 6→T m n_23 [.int .i64 (x:Int)] σ=some (.ret ⟨false,.str [UInt8.ofNat (48 + x)]⟩,σ)) (j:Nat) :
  T (m + 1) n_17 [dT t,.int .i64 k] σ=some (.ret ⟨false,.str (prT t j)⟩,σ):=by
 rw [T_fun (af:=a_18) rfl rfl]
 cases t with
 | app f a=>cases ht
 | hole x =>
  simp only [smT,Bool.and_eq_true,decide_eq_true_eq] at hs
  obtain ⟨y,rfl⟩:∃ y:Nat,x=y:=⟨x.toNat,by omega⟩
  have h2:=h1 y (by omega)
  simp only [dT,z4D] at h0 ⊢
  simp only [a_18,sA,Nat.reduceAdd,Nat.reduceSub,Nat.reduceMul,Nat.reduceBEq,Nat.reduceLeDiff,Int.reduceBEq,Int.reduceBNe,Int.reduceLE,Int.reduceLT,Int.reduceGE,Int.reduceGT,Int.reduceNeg,kn,zeroI,lit1,lit2,lit3,lit4,lit5,lit6,lit7,lit8,h0,h2,prT,Int.toNat_natCast]
 | var s =>
  simp only [dT,z4D] at h0 ⊢
  simp only [a_18,sA,Nat.reduceAdd,Nat.reduceSub,Nat.reduceMul,Nat.reduceBEq,Nat.reduceLeDiff,Int.reduceBEq,Int.reduceBNe,Int.reduceLE,Int.reduceLT,Int.reduceGE,Int.reduceGT,Int.reduceNeg,kn,zeroI,lit1,lit2,lit3,lit4,lit5,lit6,lit7,lit8,h0,prT]
 | con c =>
  simp only [smT,decide_eq_true_eq] at hs
  simp only [dT,z4D] at h0 ⊢
  cases hc:c == ([45,62]:List UInt8) with
  | false=>simp only [a_18,sA,Nat.reduceAdd,Nat.reduceSub,Nat.reduceMul,Nat.reduceBEq,Nat.reduceLeDiff,Int.reduceBEq,Int.reduceBNe,Int.reduceLE,Int.reduceLT,Int.reduceGE,Int.reduceGT,Int.reduceNeg,kn,zeroI,lit1,lit2,lit3,lit4,lit5,lit6,lit7,lit8,h0,prT,brS,arrS0,hc,Bool.false_eq_true,if_false]
  | true =>
   have he:c=[45,62]:=by simpa using hc
   subst he
   simp only [a_18,sA,Nat.reduceAdd,Nat.reduceSub,Nat.reduceMul,Nat.reduceBEq,Nat.reduceLeDiff,Int.reduceBEq,Int.reduceBNe,Int.reduceLE,Int.reduceLT,Int.reduceGE,Int.reduceGT,Int.reduceNeg,kn,zeroI,lit1,lit2,lit3,lit4,lit5,lit6,lit7,lit8,h0,prT,brS,arrS0,hc,if_true]
theorem zp2b (m:Nat) (t a b:Tp) (k:Nat) (σ:Store) (ht:zfi t=some (a,b)) (hs:smT t=true) (hz:szT t≤1048576) (h0:T m n_105 [dT t] σ=some (.ret ⟨false,.tup [dT a,dT b,.bool true]⟩,σ)) (hb:T m n_200 [.bool false] σ=some (.ret ⟨false,.int .i64 0⟩,σ))
  (h1:T m n_17 [dT a,.int .i64 1] σ=some (.ret ⟨false,.str (prT a 1)⟩,σ)) (h2:T m n_17 [dT b,.int .i64 0] σ=some (.ret ⟨false,.str (prT b 0)⟩,σ)) :
  T (m + 1) n_17 [dT t,.int .i64 k] σ=some (.ret ⟨false,.str (prT t k)⟩,σ):=by
 unfold zfi at ht
 split at ht
 ·rename_i c a' b'
  split at ht
  ·rename_i hc
   cases ht
   have hc:(c == arrS0)=true:=hc
   have hl:=zb8 (.app (.app (.con c) a) b) 0 hs
   have he:prT (.app (.app (.con c) a) b) k=brS (k != 0) (prT a 1 ++ [32,45,62,32] ++ prT b 0):=by rw [prT,hc]; rfl
   have he0:prT (.app (.app (.con c) a) b) 0=prT a 1 ++ [32,45,62,32] ++ prT b 0:=by rw [prT,hc]; rfl
   rw [he0,List.length_append,List.length_append] at hl
   rw [he]
   generalize prT a 1=sa at *
   generalize prT b 0=sb at *
   simp only [List.length_cons,List.length_nil] at hl
   have d1:sa.length≤281474976710652:=by omega
   have d2:(sa ++ [32,45,62,32]).length + sb.length≤281474976710656:=by simp; omega
   have d3:(sa ++ [32,45,62,32] ++ sb).length≤281474976710655:=by simp; omega
   have d4:(sa ++ [32,45,62,32] ++ sb).length≤281474976710654:=by simp; omega
   have d5:1 + (sa ++ [32,45,62,32] ++ sb).length≤281474976710656:=by simp; omega
   have d6:(sa ++ [32,45,62,32] ++ sb).length + 1≤281474976710655:=by simp; omega
   have w0:IntKind.i64.wrap (0 + 0)=0:=by decide
   have hfb:(b.form == 5)=false:=by cases b <;> rfl
   rw [T_fun (af:=a_18) rfl rfl]
   rw [dT_eq a] at h0 h1
   rw [dT_eq b] at h0 h2
   simp only [dT,cT,dT_eq a,dT_eq b] at h0 h1 h2 ⊢
   cases hk:k != 0 with
   | false =>
    have hk':((k:Int) != 0)=false:=by simpa using hk
    simp only [a_18,sA,Nat.reduceAdd,Nat.reduceSub,Nat.reduceMul,Nat.reduceBEq,Nat.reduceLeDiff,Int.reduceBEq,Int.reduceBNe,Int.reduceLE,Int.reduceLT,Int.reduceGE,Int.reduceGT,Int.reduceNeg,kn,zeroI,lit1,lit2,lit3,lit4,lit5,lit6,lit7,lit8,h0,h1,h2,hb,d1,d2,w0,hfb,hk',brS,Bool.false_eq_true,if_false]
   | true =>
    have hk':((k:Int) != 0)=true:=by simpa using hk
    simp only [a_18,sA,Nat.reduceAdd,Nat.reduceSub,Nat.reduceMul,Nat.reduceBEq,Nat.reduceLeDiff,Int.reduceBEq,Int.reduceBNe,Int.reduceLE,Int.reduceLT,Int.reduceGE,Int.reduceGT,Int.reduceNeg,kn,zeroI,lit1,lit2,lit3,lit4,lit5,lit6,lit7,lit8,h0,h1,h2,hb,d1,d2,d3,d4,d5,d6,w0,hfb,hk',brS,if_true]
  ·cases ht
 ·cases ht
theorem zp1b (m:Nat) (f a:Tp) (k:Nat) (σ:Store) (hs:smT (.app f a)=true) (hz:szT (.app f a)≤1048576) (hp:prT (.app f a) k=brS (k == 3) (prT f 2 ++ [32] ++ prT a 3)) (h0:T m n_105 [dT (.app f a)] σ=some (.ret ⟨false,.tup [z4D,z4D,.bool false]⟩,σ))
  (h1:T m n_17 [dT f,.int .i64 2] σ=some (.ret ⟨false,.str (prT f 2)⟩,σ)) (h2:T m n_17 [dT a,.int .i64 3] σ=some (.ret ⟨false,.str (prT a 3)⟩,σ)) :
  T (m + 1) n_17 [dT (.app f a),.int .i64 k] σ=some (.ret ⟨false,.str (prT (.app f a) k)⟩,σ):=by
 simp only [smT,Bool.and_eq_true] at hs
 have l1:=zb8 f 2 hs.1
 have l2:=zb8 a 3 hs.2
 simp only [szT] at hz
 rw [hp]
 generalize prT f 2=sa at *
 generalize prT a 3=sb at *
 have d1:sa.length≤281474976710655:=by omega
 have d2:(sa ++ [32]).length + sb.length≤281474976710656:=by simp; omega
 have d3:(sa ++ [32] ++ sb).length≤281474976710655:=by simp; omega
 have d4:(sa ++ [32] ++ sb).length≤281474976710654:=by simp; omega
 have d5:1 + (sa ++ [32] ++ sb).length≤281474976710656:=by simp; omega
 have d6:(sa ++ [32] ++ sb).length + 1≤281474976710655:=by simp; omega
 rw [T_fun (af:=a_18) rfl rfl]
 rw [dT_eq f] at h1
 rw [dT_eq a] at h2
 simp only [dT,cT,dT_eq f,dT_eq a,z4D] at h0 h1 h2 ⊢
 cases hk:k == 3 with
 | false =>
  have hk':((k:Int) == 3)=false:=by simp at hk ⊢; omega
  simp only [a_18,sA,Nat.reduceAdd,Nat.reduceSub,Nat.reduceMul,Nat.reduceBEq,Nat.reduceLeDiff,Int.reduceBEq,Int.reduceBNe,Int.reduceLE,Int.reduceLT,Int.reduceGE,Int.reduceGT,Int.reduceNeg,kn,zeroI,lit1,lit2,lit3,lit4,lit5,lit6,lit7,lit8,Mx.part,h0,h1,h2,d1,d2,hk',brS,Bool.false_eq_true,if_false]
 | true =>
  have hk':((k:Int) == 3)=true:=by simp at hk ⊢; omega
  simp only [a_18,sA,Nat.reduceAdd,Nat.reduceSub,Nat.reduceMul,Nat.reduceBEq,Nat.reduceLeDiff,Int.reduceBEq,Int.reduceBNe,Int.reduceLE,Int.reduceLT,Int.reduceGE,Int.reduceGT,Int.reduceNeg,kn,zeroI,lit1,lit2,lit3,lit4,lit5,lit6,lit7,lit8,Mx.part,h0,h1,h2,d1,d2,d3,d4,d5,d6,hk',brS,if_true]
theorem zd3b (f a:Tp) (k:Nat) (h:zfi (.app f a)=none):prT (.app f a) k=brS (k == 3) (prT f 2 ++ [32] ++ prT a 3):=by
 cases f with
 | hole x=>rfl
 | var s=>rfl
 | con c=>rfl
 | app g b =>
  cases g with
  | hole x=>rfl
  | var s=>rfl
  | app g b=>rfl
  | con c =>
   rw [prT]
   cases hc:c == arrS0 with
   | false=>rfl
   | true=>simp only [zfi,hc,if_true] at h; cases h
theorem zf2b {t a b:Tp} (h:zfi t=some (a,b)):nT a < nT t∧nT b < nT t∧(smT t=true→smT a=true∧smT b=true)∧szT a≤szT t∧szT b≤szT t:=by
 unfold zfi at h
 split at h
 ·split at h
  ·cases h
   refine ⟨by simp only [nT]; omega,by simp only [nT]; omega,fun h=>?_,by simp only [szT]; omega,by simp only [szT]; omega⟩
   simp only [smT,Bool.and_eq_true] at h
   exact ⟨h.1.2,h.2⟩
  ·cases h
 ·cases h
theorem zh5:∀ (N:Nat) (t:Tp),nT t≤N→smT t=true→szT t≤1048576→Evly fun n=>∀ (k:Nat) σ,T n n_17 [dT t,.int .i64 k] σ=some (.ret ⟨false,.str (prT t k)⟩,σ)
 | 0,t,hn,_,_=>by cases t <;> simp [nT] at hn
 | N + 1,t,hn,hs,hz=>by
  cases hf:zfi t with
  | some ab =>
   obtain ⟨a,b⟩:=ab
   have hlt:=zf2b hf
   have hsm:=hlt.2.2.1 hs
   have ia:=zh5 N a (by omega) hsm.1 (by omega)
   have ib:=zh5 N b (by omega) hsm.2 (by omega)
   exact ((zd2b t a b hf).and (zfdb.and (ia.and ib))).step 0 fun m _ h k σ=>zp2b m t a b k σ hf hs hz (h.1 σ) (h.2.1 σ) (h.2.2.1 1 σ) (h.2.2.2 0 σ)
  | none =>
   cases t with
   | app f a =>
    have hs':=hs
    simp only [smT,Bool.and_eq_true] at hs'
    have hz':=hz
    simp only [szT] at hz'
    simp only [nT] at hn
    have ia:=zh5 N f (by omega) hs'.1 (by omega)
    have ib:=zh5 N a (by omega) hs'.2 (by omega)
    exact ((ziy _ hf).and (ia.and ib)).step 0 fun m _ h k σ=>zp1b m f a k σ hs hz (zd3b f a k hf) (h.1 σ) (h.2.1 2 σ) (h.2.2 3 σ)
   | hole x=>exact ((ziy _ hf).and zp3).step 0 fun m _ h k σ=>ztf m _ k σ rfl hs (h.1 σ) (fun x hx=>h.2 x σ hx) k
   | var s=>exact ((ziy _ hf).and zp3).step 0 fun m _ h k σ=>ztf m _ k σ rfl hs (h.1 σ) (fun x hx=>h.2 x σ hx) k
   | con c=>exact ((ziy _ hf).and zp3).step 0 fun m _ h k σ=>ztf m _ k σ rfl hs (h.1 σ) (fun x hx=>h.2 x σ hx) k
theorem ztq (t:Tp) (hs:smT t=true) (hz:szT t≤1048576):Evly fun n=>∀ σ,T n n_125 [dT t] σ=some (.ret ⟨false,.str (prT t 0)⟩,σ):=(zh5 (nT t) t (Nat.le_refl _) hs hz).step 0 fun m _ h σ=>by
 have h1:=h 0 σ
 rw [T_fun (af:=a_159) rfl rfl]
 rw [dT_eq t] at h1 ⊢
 simp only [cT,zeroI] at h1 ⊢
 simp only [a_159,sA,Nat.reduceAdd,Nat.reduceSub,Nat.reduceMul,Nat.reduceBEq,Nat.reduceLeDiff,Int.reduceBEq,Int.reduceBNe,Int.reduceLE,Int.reduceLT,Int.reduceGE,Int.reduceGT,Int.reduceNeg,kn,zeroI,lit1,lit2,lit3,lit4,lit5,lit6,lit7,lit8,h1]
end Go.Fu
namespace Go.Fu
open Go Go.Mx
set_option maxRecDepth 10000
theorem zfg:∀ a:List UInt8,Op.bytesLess a a=false
 | []=>rfl
 | x :: a=>by
  have h:¬ (x < x):=by rw [UInt8.lt_iff_toNat_lt]; omega
  simp [Op.bytesLess,zfg a]
theorem zlo:∀ a b:List UInt8,Op.bytesLess a b=true→Op.bytesLess b a=false
 | [],[],h=>by cases h
 | [],y :: b,h=>rfl
 | x :: a,[],h=>by cases h
 | x :: a,y :: b,h=>by
  simp only [Op.bytesLess,Bool.or_eq_true,Bool.and_eq_true,decide_eq_true_eq,beq_iff_eq] at h
  simp only [Op.bytesLess,Bool.or_eq_false_iff,Bool.and_eq_false_iff,decide_eq_false_iff_not,beq_eq_false_iff_ne]
  rw [UInt8.lt_iff_toNat_lt] at h ⊢
  rcases h with h | ⟨h1,h2⟩
  ·refine ⟨by omega,.inl fun e=>?_⟩
   rw [e] at h; omega
  ·rw [h1]
   exact ⟨by omega,.inr (zlo a b h2)⟩
theorem zpv:∀ a b c:List UInt8,Op.bytesLess a b=true→Op.bytesLess b c=true→Op.bytesLess a c=true
 | [],[],c,h,_=>by cases h
 | [],y :: b,[],_,h=>by cases h
 | [],y :: b,z :: c,_,_=>rfl
 | x :: a,[],c,h,_=>by cases h
 | x :: a,y :: b,[],_,h=>by cases h
 | x :: a,y :: b,z :: c,h,h'=>by
  simp only [Op.bytesLess,Bool.or_eq_true,Bool.and_eq_true,decide_eq_true_eq,beq_iff_eq,UInt8.lt_iff_toNat_lt] at h h' ⊢
  rcases h with h | ⟨h1,h2⟩
  ·rcases h' with h' | ⟨h3,h4⟩
   ·exact .inl (by omega)
   ·rw [← h3]; exact .inl h
  ·rcases h' with h' | ⟨h3,h4⟩
   ·rw [h1]; exact .inl h'
   ·exact .inr ⟨h1.trans h3,zpv a b c h2 h4⟩
theorem zvp:∀ a b:List UInt8,Op.bytesLess a b=false→Op.bytesLess b a=false→a=b
 | [],[],_,_=>rfl
 | [],y :: b,h,_=>by cases h
 | x :: a,[],_,h=>by cases h
 | x :: a,y :: b,h,h'=>by
  simp only [Op.bytesLess,Bool.or_eq_false_iff,Bool.and_eq_false_iff,decide_eq_false_iff_not,beq_eq_false_iff_ne,UInt8.lt_iff_toNat_lt] at h h'
  have e:x=y:=UInt8.toNat_inj.1 (by omega)
  subst e
  have h1:Op.bytesLess a b=false:=h.2.resolve_left (by simp)
  have h2:Op.bytesLess b a=false:=h'.2.resolve_left (by simp)
  rw [zvp a b h1 h2]
def cmpS (a b:List UInt8):Int:=if Op.bytesLess a b then -1 else if (Op.bytesLess a b || a == b) then 0 else 1
def byC (p q:Pr):Int:=if cmpS p.cls q.cls != 0 then cmpS p.cls q.cls else cmpS (prT p.ty 0) (prT q.ty 0)
def ltP (p q:Pr):Bool:=decide (byC p q < 0)
theorem zbfb {a b:List UInt8}:cmpS a b < 0↔Op.bytesLess a b=true:=by
 unfold cmpS
 cases h:Op.bytesLess a b with
 | true=>simp
 | false=>cases a == b <;> simp
theorem zop {a b:List UInt8}:cmpS a b=0↔a=b:=by
 unfold cmpS
 cases h:Op.bytesLess a b with
 | true =>
  simp only [if_true]
  constructor
  ·intro h; omega
  ·rintro rfl; rw [zfg] at h; cases h
 | false=>by_cases he:a=b <;> simp [he]
theorem zst {p q:Pr}:ltP p q=true↔Op.bytesLess p.cls q.cls=true∨(p.cls=q.cls∧Op.bytesLess (prT p.ty 0) (prT q.ty 0)=true):=by
 unfold ltP byC
 by_cases h:p.cls=q.cls
 ·have hc:=zop.2 h
  rw [hc]
  simp only [bne_self_eq_false,Bool.false_eq_true,if_false,decide_eq_true_eq,zbfb,h,zfg,false_or,true_and]
 ·have hc:cmpS p.cls q.cls≠0:=fun e=>h (zop.1 e)
  have hb:(cmpS p.cls q.cls != 0)=true:=by simp [hc]
  simp only [hb,if_true,decide_eq_true_eq,zbfb,h,false_and,or_false]
def leP (p q:Pr):Prop:=ltP q p=false
theorem zg0b {p q:Pr} (h:ltP p q=true):ltP q p=false:=by
 cases hc:ltP q p with
 | false=>rfl
 | true =>
  rw [zst] at h hc
  rcases h with h | ⟨h1,h2⟩
  ·rcases hc with hc | ⟨h3,_⟩
   ·rw [zlo _ _ h] at hc; cases hc
   ·rw [h3,zfg] at h; cases h
  ·rcases hc with hc | ⟨h3,h4⟩
   ·rw [h1,zfg] at hc; cases hc
   ·rw [zlo _ _ h2] at h4; cases h4
theorem zngb {p q:Pr}:leP p q↔Op.bytesLess p.cls q.cls=true∨(p.cls=q.cls∧Op.bytesLess (prT q.ty 0) (prT p.ty 0)=false):=by
 unfold leP
 constructor
 ·intro h
  have hn:¬ (Op.bytesLess q.cls p.cls=true∨(q.cls=p.cls∧Op.bytesLess (prT q.ty 0) (prT p.ty 0)=true)):=fun e=>by rw [zst.2 e] at h; cases h
  cases hb:Op.bytesLess p.cls q.cls with
  | true=>exact .inl rfl
  | false =>
   have h2:Op.bytesLess q.cls p.cls=false:=by
    cases h3:Op.bytesLess q.cls p.cls with
    | false=>rfl
    | true=>exact absurd (.inl h3) hn
   have he:=zvp _ _ hb h2
   refine .inr ⟨he,?_⟩
   cases h3:Op.bytesLess (prT q.ty 0) (prT p.ty 0) with
   | false=>rfl
   | true=>exact absurd (.inr ⟨he.symm,h3⟩) hn
 ·intro h
  cases hc:ltP q p with
  | false=>rfl
  | true =>
   rw [zst] at hc
   rcases h with h | ⟨h1,h2⟩
   ·rcases hc with hc | ⟨h3,_⟩
    ·rw [zlo _ _ h] at hc; cases hc
    ·rw [h3,zfg] at h; cases h
   ·rcases hc with hc | ⟨_,h4⟩
    ·rw [h1,zfg] at hc; cases hc
    ·rw [h2] at h4; cases h4
theorem zgob {p q r:Pr} (h:leP p q) (h':leP q r):leP p r:=by
 rw [zngb] at h h' ⊢
 rcases h with h | ⟨h1,h2⟩
 ·rcases h' with h' | ⟨h3,h4⟩
  ·exact .inl (zpv _ _ _ h h')
  ·rw [← h3]; exact .inl h
 ·rcases h' with h' | ⟨h3,h4⟩
  ·rw [h1]; exact .inl h'
  ·refine .inr ⟨h1.trans h3,?_⟩
   cases hc:Op.bytesLess (prT r.ty 0) (prT p.ty 0) with
   | false=>rfl
   | true =>
    cases hq:Op.bytesLess (prT r.ty 0) (prT q.ty 0) with
    | true=>rw [hq] at h4; cases h4
    | false =>
     cases hq2:Op.bytesLess (prT q.ty 0) (prT r.ty 0) with
     | true=>rw [zpv _ _ _ hq2 hc] at h2; cases h2
     | false=>rw [← zvp _ _ hq2 hq] at hc; rw [hc] at h2; cases h2
def insP (x:Pr):List Pr→List Pr
 | []=>[x]
 | y :: q=>if ltP x y then y :: insP x q else x :: y :: q
def srt (l:List Pr):List Pr:=l.foldl (fun q x=>insP x q) []
theorem znr (x:Pr):∀ q,(insP x q).Perm (x :: q)
 | []=>List.Perm.refl _
 | y :: q=>by
  unfold insP
  split
  ·exact ((znr x q).cons y).trans (List.Perm.swap x y q)
  ·exact List.Perm.refl _
theorem zpa (x:Pr):∀ q,q.Pairwise (fun a b=>leP b a)→(insP x q).Pairwise (fun a b=>leP b a)
 | [],_=>by simp [insP]
 | y :: q,h=>by
  rw [List.pairwise_cons] at h
  unfold insP
  cases hc:ltP x y with
  | true =>
   rw [if_pos rfl,List.pairwise_cons]
   refine ⟨fun z hz=>?_,zpa x q h.2⟩
   have:=(znr x q).mem_iff.1 hz
   rcases List.mem_cons.1 this with rfl | hz
   ·exact zg0b hc
   ·exact h.1 z hz
  | false =>
   rw [if_neg (by simp),List.pairwise_cons]
   refine ⟨fun z hz=>?_,List.pairwise_cons.2 h⟩
   rcases List.mem_cons.1 hz with rfl | hz
   ·exact hc
   ·exact zgob (h.1 z hz) hc
theorem zj9 (l:List Pr):∀ q,q.Pairwise (fun a b=>leP b a)→(l.foldl (fun q x=>insP x q) q).Pairwise (fun a b=>leP b a)∧(l.foldl (fun q x=>insP x q) q).Perm (q ++ l):=by
 induction l with
 | nil=>intro q h; exact ⟨h,by simp⟩
 | cons x l ih =>
  intro q h
  have:=ih (insP x q) (zpa x q h)
  refine ⟨this.1,this.2.trans ?_⟩
  exact ((znr x q).append_right l).trans List.perm_middle.symm
end Go.Fu
namespace Go.Fu
open Go Go.Mx
set_option maxRecDepth 10000
theorem zgi {body:Env→Store→XRes} {k:Nat} {e e':Env} {σ σ':Store} (h:body e σ=some (.ret,e',σ')):loopN body (k + 1) e σ=some (.ret,e',σ'):=by
 rw [loopN,h]
theorem znvb:Evly fun n=>∀ (s:List UInt8) σ,T n n_189 [.str s] σ=some (.ret ⟨false,.bool false⟩,σ):=any _ fun n s σ=>by
 rw [T_fun (af:=a_131) rfl rfl]
 have h:(s == s)=true:=by simp
 simp only [a_131,sA,Nat.reduceAdd,Nat.reduceSub,Nat.reduceMul,Nat.reduceBEq,Nat.reduceLeDiff,Int.reduceBEq,Int.reduceBNe,Int.reduceLE,Int.reduceLT,Int.reduceGE,Int.reduceGT,Int.reduceNeg,kn,zeroI,lit1,lit2,lit3,lit4,lit5,lit6,lit7,lit8,fnq,h]
theorem zmdb:Evly fun n=>∀ (a b:List UInt8) σ,T n n_188 [.str a,.str b] σ=some (.ret ⟨false,.int .i64 (cmpS a b)⟩,σ):=znvb.step 0 fun m _ h a b σ=>by
 have h1:=h a σ
 have h2:=h b σ
 rw [T_fun (af:=a_78) rfl rfl]
 cases hl:Op.bytesLess a b with
 | true=>simp only [a_78,sA,Nat.reduceAdd,Nat.reduceSub,Nat.reduceMul,Nat.reduceBEq,Nat.reduceLeDiff,Int.reduceBEq,Int.reduceBNe,Int.reduceLE,Int.reduceLT,Int.reduceGE,Int.reduceGT,Int.reduceNeg,kn,zeroI,lit1,lit2,lit3,lit4,lit5,lit6,lit7,lit8,fnq,h1,h2,hl,cmpS,if_true]
 | false =>
  cases he:a == b with
  | true=>simp only [a_78,sA,Nat.reduceAdd,Nat.reduceSub,Nat.reduceMul,Nat.reduceBEq,Nat.reduceLeDiff,Int.reduceBEq,Int.reduceBNe,Int.reduceLE,Int.reduceLT,Int.reduceGE,Int.reduceGT,Int.reduceNeg,kn,zeroI,lit1,lit2,lit3,lit4,lit5,lit6,lit7,lit8,fnq,h1,h2,hl,he,cmpS,Bool.false_eq_true,if_true,if_false]
  | false=>simp only [a_78,sA,Nat.reduceAdd,Nat.reduceSub,Nat.reduceMul,Nat.reduceBEq,Nat.reduceLeDiff,Int.reduceBEq,Int.reduceBNe,Int.reduceLE,Int.reduceLT,Int.reduceGE,Int.reduceGT,Int.reduceNeg,kn,zeroI,lit1,lit2,lit3,lit4,lit5,lit6,lit7,lit8,fnq,h1,h2,hl,he,cmpS,Bool.false_eq_true,if_true,if_false]
def orE (a b:Int) (i:Nat):Env:={slots:=[(3,⟨false,.int .i64 0⟩),(6,⟨false,.list k_int [.int .i64 a,.int .i64 b]⟩),(7,⟨false,.int .i64 2⟩),(8,⟨false,.int .i64 i⟩)],locs:=[],boxes:=[],defers:=[]}
theorem zpzb:Evly fun n=>∀ (o:Bool) (a b:Int) σ,T n n_218 [.list k_int [.int .i64 a,.int .i64 b]] σ=some (.ret ⟨false,.int .i64 (if a != 0 then a else b)⟩,σ):=(Evly.all (p:=fun _=>True) fun _=>trivial).step 4 fun m hm _ o a b σ=>by
 obtain ⟨j,rfl⟩:∃ j,m=j + 3:=⟨m - 3,by omega⟩
 have w1:IntKind.i64.wrap (0 + 1)=1:=by decide
 have w2:IntKind.i64.wrap (1 + 1)=2:=by decide
 have h02:(0:Nat) < 2:=by decide
 have s0:(a != 0)=true→exec (T (j + 3)) (j + 3) none a_27 (orE a b 0) σ=some (.ret,{slots:=[(2,⟨false,.int .i64 a⟩)],locs:=[],boxes:=[],defers:=[]},σ):=fun ha=>by
  simp only [a_27,orE,sA,Nat.reduceAdd,Nat.reduceSub,Nat.reduceMul,Nat.reduceBEq,Nat.reduceLeDiff,Int.reduceBEq,Int.reduceBNe,Int.reduceLE,Int.reduceLT,Int.reduceGE,Int.reduceGT,Int.reduceNeg,kn,zeroI,lit1,lit2,lit3,lit4,lit5,lit6,lit7,lit8,fnq,w1,ha]
 have s1:(a != 0)=false→exec (T (j + 3)) (j + 3) none a_27 (orE a b 0) σ=some (.normal,orE a b 1,σ):=fun ha=>by
  simp only [a_27,orE,sA,Nat.reduceAdd,Nat.reduceSub,Nat.reduceMul,Nat.reduceBEq,Nat.reduceLeDiff,Int.reduceBEq,Int.reduceBNe,Int.reduceLE,Int.reduceLT,Int.reduceGE,Int.reduceGT,Int.reduceNeg,kn,zeroI,lit1,lit2,lit3,lit4,lit5,lit6,lit7,lit8,fnq,w1,ha]
 have t0:(b != 0)=true→exec (T (j + 3)) (j + 3) none a_27 (orE a b 1) σ=some (.ret,{slots:=[(2,⟨false,.int .i64 b⟩)],locs:=[],boxes:=[],defers:=[]},σ):=fun ha=>by
  simp only [a_27,orE,sA,Nat.reduceAdd,Nat.reduceSub,Nat.reduceMul,Nat.reduceBEq,Nat.reduceLeDiff,Int.reduceBEq,Int.reduceBNe,Int.reduceLE,Int.reduceLT,Int.reduceGE,Int.reduceGT,Int.reduceNeg,kn,zeroI,lit1,lit2,lit3,lit4,lit5,lit6,lit7,lit8,fnq,w2,ha]
 have t1:(b != 0)=false→exec (T (j + 3)) (j + 3) none a_27 (orE a b 1) σ=some (.normal,orE a b 2,σ):=fun ha=>by
  simp only [a_27,orE,sA,Nat.reduceAdd,Nat.reduceSub,Nat.reduceMul,Nat.reduceBEq,Nat.reduceLeDiff,Int.reduceBEq,Int.reduceBNe,Int.reduceLE,Int.reduceLT,Int.reduceGE,Int.reduceGT,Int.reduceNeg,kn,zeroI,lit1,lit2,lit3,lit4,lit5,lit6,lit7,lit8,fnq,w2,ha]
 have u0:exec (T (j + 3)) (j + 3) none a_27 (orE a b 2) σ=some (.exit 0,{slots:=[(3,⟨false,.int .i64 0⟩),(6,⟨false,.list k_int [.int .i64 a,.int .i64 b]⟩),(7,⟨false,.int .i64 2⟩),(8,⟨false,.int .i64 2⟩),(9,⟨false,.bool false⟩)],locs:=[],boxes:=[],defers:=[]},σ):=by
  simp only [a_27,orE,sA,Nat.reduceAdd,Nat.reduceSub,Nat.reduceMul,Nat.reduceBEq,Nat.reduceLeDiff,Int.reduceBEq,Int.reduceBNe,Int.reduceLE,Int.reduceLT,Int.reduceGE,Int.reduceGT,Int.reduceNeg,kn,zeroI,lit1,lit2,lit3,lit4,lit5,lit6,lit7,lit8,fnq]
 rw [T_fun (af:=a_79) rfl rfl]
 cases ha:a != 0 with
 | true =>
  have hloop:=zgi (k:=j + 2) (s0 ha)
  simp only [orE,zeroI] at hloop
  simp only [a_79,sA,Nat.reduceAdd,Nat.reduceSub,Nat.reduceMul,Nat.reduceBEq,Nat.reduceLeDiff,Int.reduceBEq,Int.reduceBNe,Int.reduceLE,Int.reduceLT,Int.reduceGE,Int.reduceGT,Int.reduceNeg,kn,zeroI,lit1,lit2,lit3,lit4,lit5,lit6,lit7,lit8,fnq,hloop,if_true]
 | false =>
  cases hb:b != 0 with
  | true =>
   have hloop:=(zb2 (k:=j + 2) (s1 ha)).trans (zgi (k:=j + 1) (t0 hb))
   simp only [orE,zeroI] at hloop
   simp only [a_79,sA,Nat.reduceAdd,Nat.reduceSub,Nat.reduceMul,Nat.reduceBEq,Nat.reduceLeDiff,Int.reduceBEq,Int.reduceBNe,Int.reduceLE,Int.reduceLT,Int.reduceGE,Int.reduceGT,Int.reduceNeg,kn,zeroI,lit1,lit2,lit3,lit4,lit5,lit6,lit7,lit8,fnq,hloop,Bool.false_eq_true,if_false]
  | false =>
   have hb0:b=0:=by simpa using hb
   have hloop:=(zb2 (k:=j + 2) (s1 ha)).trans ((zb2 (k:=j + 1) (t1 hb)).trans (za6 (k:=j) u0))
   simp only [orE,zeroI] at hloop
   simp only [a_79,sA,Nat.reduceAdd,Nat.reduceSub,Nat.reduceMul,Nat.reduceBEq,Nat.reduceLeDiff,Int.reduceBEq,Int.reduceBNe,Int.reduceLE,Int.reduceLT,Int.reduceGE,Int.reduceGT,Int.reduceNeg,kn,zeroI,lit1,lit2,lit3,lit4,lit5,lit6,lit7,lit8,fnq,hloop,Bool.false_eq_true,if_false]
   rw [hb0]
def okP (p:Pr):Prop:=smT p.ty=true∧szT p.ty≤1048576
theorem zsh (p q:Pr) (hp:okP p) (hq:okP q):Evly fun n=>∀ σ,T n n_14 [dP p,dP q] σ=some (.ret ⟨false,.int .i64 (byC p q)⟩,σ) :=
 (zmdb.and ((ztq p.ty hp.1 hp.2).and ((ztq q.ty hq.1 hq.2).and zpzb))).step 0 fun m _ h σ=>by
 have h1:=h.1 p.cls q.cls σ
 have h2:=h.1 (prT p.ty 0) (prT q.ty 0) σ
 have h3:=h.2.1 σ
 have h4:=h.2.2.1 σ
 have h5:=h.2.2.2 true (cmpS p.cls q.cls) (cmpS (prT p.ty 0) (prT q.ty 0)) σ
 rw [T_fun (af:=a_149) rfl rfl]
 rw [dT_eq] at h3 h4
 simp only [dP,cT] at h3 h4 ⊢
 simp only [a_149,sA,Nat.reduceAdd,Nat.reduceSub,Nat.reduceMul,Nat.reduceBEq,Nat.reduceLeDiff,Int.reduceBEq,Int.reduceBNe,Int.reduceLE,Int.reduceLT,Int.reduceGE,Int.reduceGT,Int.reduceNeg,kn,zeroI,lit1,lit2,lit3,lit4,lit5,lit6,lit7,lit8,fnq,h1,h2,h3,h4,h5,byC]
end Go.Fu
namespace Go.Fu
open Go Go.Mx
set_option maxRecDepth 10000
structure SameB (id:Nat) (σ σ':Store):Prop where
 objs:∀ k,k≠id→aget σ'.objs k=aget σ.objs k
 wf:WF σ'
 tys:σ'.tys=σ.tys
 oth:σ'.oth=σ.oth
 next:σ'.next=σ.next
theorem SameB.refl {id:Nat} {σ:Store} (h:WF σ):SameB id σ σ:=⟨fun _ _=>rfl,h,rfl,rfl,rfl⟩
theorem SameB.trans {id:Nat} {a b c:Store} (h:SameB id a b) (h':SameB id b c):SameB id a c :=
 ⟨fun k hk=>(h'.objs k hk).trans (h.objs k hk),h'.wf,h'.tys.trans h.tys,h'.oth.trans h.oth,h'.next.trans h.next⟩
theorem zod {id:Nat} {σ:Store} (h:WF σ) (cs:List Cell) (hi:id < σ.next):SameB id σ (setO σ id cs) :=
 ⟨fun k hk=>by rw [zc2,if_neg hk],zom h id cs hi,rfl,rfl,rfl⟩
def cP (p:Pr):List D:=.str p.cls :: cT p.ty
theorem zqy (p:Pr):(cP p).length=5:=rfl
theorem zh3b (l:List D) (cs:List Cell):takeC (l.map Cell.of ++ cs) 0 l.length=some l:=by
 induction l with
 | nil=>cases cs <;> rfl
 | cons d l ih =>
  simp only [List.map_cons,List.cons_append,List.length_cons,takeC,ih,bindO,zab]
  rfl
theorem zevb (l:List D) (cs:List Cell) (o n:Nat) (hn:0 < n):takeC (l.map Cell.of ++ cs) (l.length + o) n=takeC cs o n:=by
 induction l with
 | nil=>simp
 | cons d l ih =>
  rw [List.map_cons,List.cons_append,List.length_cons,show l.length + 1 + o=(l.length + o) + 1 by omega]
  cases n with
  | zero=>omega
  | succ n=>exact ih
theorem zi8 (x:Pr) (B:List Pr):∀ A:List Pr,takeC (cellsOf ((A ++ x :: B).map dP)) (A.length * 5) 5=some (cP x)
 | []=>by
  simp only [List.nil_append,List.map_cons,cellsOf,List.length_nil,Nat.zero_mul]
  exact zh3b (cP x) _
 | a :: A=>by
  have ih:=zi8 x B A
  simp only [List.cons_append,List.map_cons,cellsOf,List.length_cons]
  rw [show (A.length + 1) * 5=(cP a).length + A.length * 5 by rw [zqy]; omega]
  exact (zevb (cP a) _ _ 5 (by omega)).trans ih
theorem zlcb (l new:List D) (cs:List Cell) (h:l.length=new.length):zan (l.map Cell.of ++ cs) 0 (new.map Cell.of)=new.map Cell.of ++ cs:=by
 induction l generalizing new with
 | nil =>
  cases new with
  | nil=>exact zhd _ _
  | cons a b=>simp at h
 | cons d l ih =>
  cases new with
  | nil=>simp at h
  | cons a b =>
   have:=ih b (by simpa using h)
   simp only [List.map_cons,List.cons_append,zan,this]
theorem zhqb (l:List D) (cs new:List Cell) (o:Nat):zan (l.map Cell.of ++ cs) (l.length + o) new=l.map Cell.of ++ zan cs o new:=by
 cases new with
 | nil=>rw [zhd,zhd]
 | cons c r =>
  induction l with
  | nil=>simp
  | cons d l ih =>
   rw [List.map_cons,List.cons_append,List.length_cons,show l.length + 1 + o=(l.length + o) + 1 by omega]
   exact congrArg (Cell.of d :: ·) ih
theorem zrs (x z:Pr) (B:List Pr):∀ A:List Pr,zan (cellsOf ((A ++ z :: B).map dP)) (A.length * 5) ((cP x).map Cell.of)=cellsOf ((A ++ x :: B).map dP)
 | []=>by
  simp only [List.nil_append,List.map_cons,cellsOf,List.length_nil,Nat.zero_mul]
  exact zlcb (cP z) (cP x) _ rfl
 | a :: A=>by
  have ih:=zrs x z B A
  simp only [List.cons_append,List.map_cons,cellsOf,List.length_cons]
  rw [show (A.length + 1) * 5=(cP a).length + A.length * 5 by rw [zqy]; omega]
  refine (zhqb (cP a) _ _ _).trans ?_
  rw [ih]
  rfl
theorem zfp (l:List Pr):(cellsOf (l.map dP)).length=l.length * 5:=by
 have:=zcr (z:=5) (l.map dP) fun d hd=>by
  obtain ⟨x,_,rfl⟩:=List.mem_map.1 hd
  exact zf4 x
 rwa [List.length_map] at this
section
variable {C:CallF} {n:Nat}
def CmpC (C:CallF) (p q:Pr):Prop:=∀ σ,C n_14 [.agg (cP p),.agg (cP q)] σ=some (.ret ⟨false,.int .i64 (byC p q)⟩,σ)
def EIs (id len i j:Nat):Env:={slots:=[(0,⟨false,.arr k_1 id 0 len⟩),(1,⟨false,.int .i64 0⟩),(2,⟨false,.int .i64 len⟩),(3,⟨false,.fn (.func n_14) [] []⟩),(8,⟨false,.int .i64 i⟩),(9,⟨false,.int .i64 j⟩)],locs:=[],boxes:=[],defers:=[]}
def EIe (id len i j:Nat):Env:={slots:=[(0,⟨false,.arr k_1 id 0 len⟩),(1,⟨false,.int .i64 0⟩),(2,⟨false,.int .i64 len⟩),(3,⟨false,.fn (.func n_14) [] []⟩),(8,⟨false,.int .i64 i⟩),(9,⟨false,.int .i64 j⟩),(34,⟨false,.bool false⟩)],locs:=[],boxes:=[],defers:=[]}
theorem zjub (id len i:Nat) (σ:Store):exec C n none a_58 (EIs id len i 0) σ=some (.exit 2,EIe id len i 0,σ):=by
 simp only [a_58,EIs,EIe,sA,seval,kn,zeroI,lit1,lit2,lit3,lit4,lit5,lit6,lit7,lit8,fnq]
theorem zjsb (id len i:Nat) (A B:List Pr) (x y:Pr) (σ:Store) (hlen:(A ++ y :: x :: B).length=len) (hl:len < 1000) (ha:aget σ.objs id=some (cellsOf ((A ++ y :: x :: B).map dP))) (hc:CmpC C x y) (hp:¬ (byC x y < 0)) :
  exec C n none a_58 (EIs id len i (A.length + 1)) σ=some (.exit 2,EIe id len i (A.length + 1),σ):=by
 have hj:(((A.length + 1:Nat):Int) > 0):=by omega
 have w1:IntKind.i64.wrap (((A.length + 1:Nat):Int) - 1)=((A.length:Nat):Int):=by
  simp only [List.length_append,List.length_cons] at hlen
  rw [zb3 (by omega) (by omega)]; omega
 have l1:A.length + 1 < len:=by simp only [List.length_append,List.length_cons] at hlen; omega
 have l2:A.length < len:=by omega
 have t1:=zi8 y (x :: B) A
 have t2:=zi8 x B (A ++ [y])
 simp only [List.append_assoc,List.cons_append,List.nil_append,List.length_append,List.length_cons,List.length_nil,Nat.zero_add] at t2
 have hcc:=hc σ
 simp only [a_58,EIs,EIe,sA,seval,kn,zeroI,lit1,lit2,lit3,lit4,lit5,lit6,lit7,lit8,fnq,memE,memOp,zbw,hj,w1,l1,l2,ha,t1,t2,hcc,hp]
theorem zjtb (id len i:Nat) (A B:List Pr) (x y:Pr) (σ:Store) (hlen:(A ++ y :: x :: B).length=len) (hl:len < 1000) (ha:aget σ.objs id=some (cellsOf ((A ++ y :: x :: B).map dP))) (hc:CmpC C x y) (hp:byC x y < 0) :
  exec C n none a_58 (EIs id len i (A.length + 1)) σ=some (.normal,EIs id len i A.length,setO σ id (cellsOf ((A ++ x :: y :: B).map dP))):=by
 have hj:(((A.length + 1:Nat):Int) > 0):=by omega
 have w1:IntKind.i64.wrap (((A.length + 1:Nat):Int) - 1)=((A.length:Nat):Int):=by
  simp only [List.length_append,List.length_cons] at hlen
  rw [zb3 (by omega) (by omega)]; omega
 have l1:A.length + 1 < len:=by simp only [List.length_append,List.length_cons] at hlen; omega
 have l2:A.length < len:=by omega
 have t1:=zi8 y (x :: B) A
 have t2:=zi8 x B (A ++ [y])
 have p1:=zrs y x B (A ++ [y])
 have p2:=zrs x y (y :: B) A
 have c1:=zfp (A ++ y :: x :: B)
 have c2:=zfp (A ++ y :: y :: B)
 simp only [List.append_assoc,List.cons_append,List.nil_append,List.length_append,List.length_cons,List.length_nil,Nat.zero_add] at t2 p1 c1 c2 hlen
 have d1:(A.length + 1) * 5 + 5≤(cellsOf ((A ++ y :: x :: B).map dP)).length:=by omega
 have d2:A.length * 5 + 5≤(cellsOf ((A ++ y :: y :: B).map dP)).length:=by omega
 have o1:(D.agg (cP y)).ok=true:=ok_dP y
 have o2:(D.agg (cP x)).ok=true:=ok_dP x
 have e1:(D.agg (cP y)).cells=cP y:=rfl
 have e2:(D.agg (cP x)).cells=cP x:=rfl
 have n1:(D.agg (cP y)).one=false:=rfl
 have n2:(D.agg (cP x)).one=false:=rfl
 have hcc:=hc σ
 simp only [a_58,EIs,sA,seval,kn,zeroI,lit1,lit2,lit3,lit4,lit5,lit6,lit7,lit8,fnq,memE,memOp,zbw,hj,w1,l1,l2,ha,t1,t2,hcc,hp,p1,p2,d1,d2,o1,o2,e1,e2,n1,n2,zqy,zds,zhs,setO]
end
end Go.Fu

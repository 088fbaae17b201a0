/-
 Types of a small world,made of numbers.
-/
import Derived.Test.YtieacpoabejcoaaGreatDoorFsX0
set_option maxHeartbeats 4000000
set_option linter.unusedSimpArgs false
set_option linter.unusedVariables false
set_option linter.unusedSectionVars false
namespace Go.Fu
open Go Go.Mx
set_option maxRecDepth 10000
def Tail (d d1:D):Prop:=∃ l:Nat,lenOf d=some l∧((0 < l∧za2 1 d 1 none=some d1)∨(l=0∧d1=d))
theorem tmodN (n m:Nat):((n:Int)).tmod (m:Int)=((n % m:Nat):Int):=by
 rw [Int.tmod_eq_emod_of_nonneg (by omega)]
 omega
theorem tdivN (n m:Nat) (h:n < 1048576):IntKind.i64.wrap (((n:Int)).tdiv (m:Int))=((n / m:Nat):Int):=by
 rw [Int.tdiv_eq_ediv_of_nonneg (by omega)]
 have h1:n / m≤n:=Nat.div_le_self n m
 have e:(n:Int) / (m:Int)=((n / m:Nat):Int):=rfl
 rw [e]
 generalize n / m=q at h1
 exact zb3 (by omega) (by omega)
theorem tmodL {n m k:Nat} (M K:Int) (hM:M=m) (hK:K=k) (h:n % m=k):((n:Int)).tmod M=K:=by
 subst hM hK
 rw [tmodN,h]
section
variable {m:Nat} {d d1:D} {n deep:Nat} {σ:Store}
theorem zazb (hd:Tail d d1) (hn:n < 100000) (hp:T m n_13 [d,.int .i64 0] σ=some (.ret ⟨false,.int .i64 n⟩,σ)) (hdeep:deep≤3) (hdl:deep < 100) (hk:n % 9=0) {s:List UInt8} (hnm:T m n_30 [.int .i64 ((n / 9 % 3:Nat):Int)] σ=some (.ret ⟨false,.str s⟩,σ)) :
  T (m + 1) n_8 [d,.int .i64 deep] σ=some (.ret ⟨false,.tup [dT (.var s),d1]⟩,σ):=by
 obtain ⟨l,hl,ht⟩:=hd
 have hdp:¬ ((deep:Int) > 3):=by omega
 have hr:=tmodL (n:=n) (m:=9) (k:=0) 9 0 rfl rfl hk
 have q9:IntKind.i64.wrap ((n:Int).tdiv 9)=((n / 9:Nat):Int):=tdivN n 9 (by omega)
 have q3:(((n / 9:Nat):Int)).tmod 3=((n / 9 % 3:Nat):Int):=tmodN _ _
 have q2:(((n / 9:Nat):Int)).tmod 2=((n / 9 % 2:Nat):Int):=tmodN _ _
 rcases ht with ⟨h0,hs⟩ | ⟨rfl,rfl⟩
 ·have hg:((l:Int) > 0):=by omega
  rw [T_fun (af:=a_3) rfl rfl]
  simp only [a_3,sA,seval,kn,hl,hp,hg,hs,hdp,hr,q9,q3,q2,hnm,dT]
 ·have hg:¬ (((0:Nat):Int) > 0):=by omega
  rw [T_fun (af:=a_3) rfl rfl]
  simp only [a_3,sA,seval,kn,hl,hp,hg,hdp,hr,q9,q3,q2,hnm,dT]
theorem zayb (hd:Tail d d1) (hn:n < 100000) (hp:T m n_13 [d,.int .i64 0] σ=some (.ret ⟨false,.int .i64 n⟩,σ)) (hdeep:3 < deep) (hdl:deep < 100) (hk:n % 4=0) {s:List UInt8} (hnm:T m n_30 [.int .i64 ((n / 9 % 3:Nat):Int)] σ=some (.ret ⟨false,.str s⟩,σ)) :
  T (m + 1) n_8 [d,.int .i64 deep] σ=some (.ret ⟨false,.tup [dT (.var s),d1]⟩,σ):=by
 obtain ⟨l,hl,ht⟩:=hd
 have hdp:((deep:Int) > 3):=by omega
 have hr:=tmodL (n:=n) (m:=4) (k:=0) 4 0 rfl rfl hk
 have q9:IntKind.i64.wrap ((n:Int).tdiv 9)=((n / 9:Nat):Int):=tdivN n 9 (by omega)
 have q3:(((n / 9:Nat):Int)).tmod 3=((n / 9 % 3:Nat):Int):=tmodN _ _
 have q2:(((n / 9:Nat):Int)).tmod 2=((n / 9 % 2:Nat):Int):=tmodN _ _
 rcases ht with ⟨h0,hs⟩ | ⟨rfl,rfl⟩
 ·have hg:((l:Int) > 0):=by omega
  rw [T_fun (af:=a_3) rfl rfl]
  simp only [a_3,sA,seval,kn,hl,hp,hg,hs,hdp,hr,q9,q3,q2,hnm,dT]
 ·have hg:¬ (((0:Nat):Int) > 0):=by omega
  rw [T_fun (af:=a_3) rfl rfl]
  simp only [a_3,sA,seval,kn,hl,hp,hg,hdp,hr,q9,q3,q2,hnm,dT]
theorem za0b (hd:Tail d d1) (hn:n < 100000) (hp:T m n_13 [d,.int .i64 0] σ=some (.ret ⟨false,.int .i64 n⟩,σ)) (hdeep:deep≤3) (hdl:deep < 100) (hk:n % 9=4) {s:List UInt8} (hnm:T m n_30 [.int .i64 ((n / 9 % 3:Nat):Int)] σ=some (.ret ⟨false,.str s⟩,σ)) :
  T (m + 1) n_8 [d,.int .i64 deep] σ=some (.ret ⟨false,.tup [dT (.var s),d1]⟩,σ):=by
 obtain ⟨l,hl,ht⟩:=hd
 have hdp:¬ ((deep:Int) > 3):=by omega
 have hr:=tmodL (n:=n) (m:=9) (k:=4) 9 4 rfl rfl hk
 have q9:IntKind.i64.wrap ((n:Int).tdiv 9)=((n / 9:Nat):Int):=tdivN n 9 (by omega)
 have q3:(((n / 9:Nat):Int)).tmod 3=((n / 9 % 3:Nat):Int):=tmodN _ _
 have q2:(((n / 9:Nat):Int)).tmod 2=((n / 9 % 2:Nat):Int):=tmodN _ _
 rcases ht with ⟨h0,hs⟩ | ⟨rfl,rfl⟩
 ·have hg:((l:Int) > 0):=by omega
  rw [T_fun (af:=a_3) rfl rfl]
  simp only [a_3,sA,seval,kn,hl,hp,hg,hs,hdp,hr,q9,q3,q2,hnm,dT]
 ·have hg:¬ (((0:Nat):Int) > 0):=by omega
  rw [T_fun (af:=a_3) rfl rfl]
  simp only [a_3,sA,seval,kn,hl,hp,hg,hdp,hr,q9,q3,q2,hnm,dT]
theorem zaxb (hd:Tail d d1) (hn:n < 100000) (hp:T m n_13 [d,.int .i64 0] σ=some (.ret ⟨false,.int .i64 n⟩,σ)) (hdeep:deep≤3) (hdl:deep < 100) (hk:n % 9=1) :
  T (m + 1) n_8 [d,.int .i64 deep] σ=some (.ret ⟨false,.tup [dT (.con [73,110,116]),d1]⟩,σ):=by
 obtain ⟨l,hl,ht⟩:=hd
 have hdp:¬ ((deep:Int) > 3):=by omega
 have hr:=tmodL (n:=n) (m:=9) (k:=1) 9 1 rfl rfl hk
 have q9:IntKind.i64.wrap ((n:Int).tdiv 9)=((n / 9:Nat):Int):=tdivN n 9 (by omega)
 have q3:(((n / 9:Nat):Int)).tmod 3=((n / 9 % 3:Nat):Int):=tmodN _ _
 have q2:(((n / 9:Nat):Int)).tmod 2=((n / 9 % 2:Nat):Int):=tmodN _ _
 rcases ht with ⟨h0,hs⟩ | ⟨rfl,rfl⟩
 ·have hg:((l:Int) > 0):=by omega
  rw [T_fun (af:=a_3) rfl rfl]
  simp only [a_3,sA,seval,kn,hl,hp,hg,hs,hdp,hr,q9,q3,q2,dT]
 ·have hg:¬ (((0:Nat):Int) > 0):=by omega
  rw [T_fun (af:=a_3) rfl rfl]
  simp only [a_3,sA,seval,kn,hl,hp,hg,hdp,hr,q9,q3,q2,dT]
theorem zawb (hd:Tail d d1) (hn:n < 100000) (hp:T m n_13 [d,.int .i64 0] σ=some (.ret ⟨false,.int .i64 n⟩,σ)) (hdeep:3 < deep) (hdl:deep < 100) (hk:n % 4=1) :
  T (m + 1) n_8 [d,.int .i64 deep] σ=some (.ret ⟨false,.tup [dT (.con [73,110,116]),d1]⟩,σ):=by
 obtain ⟨l,hl,ht⟩:=hd
 have hdp:((deep:Int) > 3):=by omega
 have hr:=tmodL (n:=n) (m:=4) (k:=1) 4 1 rfl rfl hk
 have q9:IntKind.i64.wrap ((n:Int).tdiv 9)=((n / 9:Nat):Int):=tdivN n 9 (by omega)
 have q3:(((n / 9:Nat):Int)).tmod 3=((n / 9 % 3:Nat):Int):=tmodN _ _
 have q2:(((n / 9:Nat):Int)).tmod 2=((n / 9 % 2:Nat):Int):=tmodN _ _
 rcases ht with ⟨h0,hs⟩ | ⟨rfl,rfl⟩
 ·have hg:((l:Int) > 0):=by omega
  rw [T_fun (af:=a_3) rfl rfl]
  simp only [a_3,sA,seval,kn,hl,hp,hg,hs,hdp,hr,q9,q3,q2,dT]
 ·have hg:¬ (((0:Nat):Int) > 0):=by omega
  rw [T_fun (af:=a_3) rfl rfl]
  simp only [a_3,sA,seval,kn,hl,hp,hg,hdp,hr,q9,q3,q2,dT]
theorem zyj (hd:Tail d d1) (hn:n < 100000) (hp:T m n_13 [d,.int .i64 0] σ=some (.ret ⟨false,.int .i64 n⟩,σ)) (hdeep:deep≤3) (hdl:deep < 100) (hk:n % 9=2) :
  T (m + 1) n_8 [d,.int .i64 deep] σ=some (.ret ⟨false,.tup [dT (.con [66,111,111,108]),d1]⟩,σ):=by
 obtain ⟨l,hl,ht⟩:=hd
 have hdp:¬ ((deep:Int) > 3):=by omega
 have hr:=tmodL (n:=n) (m:=9) (k:=2) 9 2 rfl rfl hk
 have q9:IntKind.i64.wrap ((n:Int).tdiv 9)=((n / 9:Nat):Int):=tdivN n 9 (by omega)
 have q3:(((n / 9:Nat):Int)).tmod 3=((n / 9 % 3:Nat):Int):=tmodN _ _
 have q2:(((n / 9:Nat):Int)).tmod 2=((n / 9 % 2:Nat):Int):=tmodN _ _
 rcases ht with ⟨h0,hs⟩ | ⟨rfl,rfl⟩
 ·have hg:((l:Int) > 0):=by omega
  rw [T_fun (af:=a_3) rfl rfl]
  simp only [a_3,sA,seval,kn,hl,hp,hg,hs,hdp,hr,q9,q3,q2,dT]
 ·have hg:¬ (((0:Nat):Int) > 0):=by omega
  rw [T_fun (af:=a_3) rfl rfl]
  simp only [a_3,sA,seval,kn,hl,hp,hg,hdp,hr,q9,q3,q2,dT]
theorem zyi (hd:Tail d d1) (hn:n < 100000) (hp:T m n_13 [d,.int .i64 0] σ=some (.ret ⟨false,.int .i64 n⟩,σ)) (hdeep:3 < deep) (hdl:deep < 100) (hk:n % 4=2) :
  T (m + 1) n_8 [d,.int .i64 deep] σ=some (.ret ⟨false,.tup [dT (.con [66,111,111,108]),d1]⟩,σ):=by
 obtain ⟨l,hl,ht⟩:=hd
 have hdp:((deep:Int) > 3):=by omega
 have hr:=tmodL (n:=n) (m:=4) (k:=2) 4 2 rfl rfl hk
 have q9:IntKind.i64.wrap ((n:Int).tdiv 9)=((n / 9:Nat):Int):=tdivN n 9 (by omega)
 have q3:(((n / 9:Nat):Int)).tmod 3=((n / 9 % 3:Nat):Int):=tmodN _ _
 have q2:(((n / 9:Nat):Int)).tmod 2=((n / 9 % 2:Nat):Int):=tmodN _ _
 rcases ht with ⟨h0,hs⟩ | ⟨rfl,rfl⟩
 ·have hg:((l:Int) > 0):=by omega
  rw [T_fun (af:=a_3) rfl rfl]
  simp only [a_3,sA,seval,kn,hl,hp,hg,hs,hdp,hr,q9,q3,q2,dT]
 ·have hg:¬ (((0:Nat):Int) > 0):=by omega
  rw [T_fun (af:=a_3) rfl rfl]
  simp only [a_3,sA,seval,kn,hl,hp,hg,hdp,hr,q9,q3,q2,dT]
theorem zyl (hd:Tail d d1) (hn:n < 100000) (hp:T m n_13 [d,.int .i64 0] σ=some (.ret ⟨false,.int .i64 n⟩,σ)) (hdeep:deep≤3) (hdl:deep < 100) (hk:n % 9=3) :
  T (m + 1) n_8 [d,.int .i64 deep] σ=some (.ret ⟨false,.tup [dT (.hole ((1 + n / 9 % 2:Nat):Int)),d1]⟩,σ):=by
 obtain ⟨l,hl,ht⟩:=hd
 have hdp:¬ ((deep:Int) > 3):=by omega
 have hr:=tmodL (n:=n) (m:=9) (k:=3) 9 3 rfl rfl hk
 have q9:IntKind.i64.wrap ((n:Int).tdiv 9)=((n / 9:Nat):Int):=tdivN n 9 (by omega)
 have q3:(((n / 9:Nat):Int)).tmod 3=((n / 9 % 3:Nat):Int):=tmodN _ _
 have q2:(((n / 9:Nat):Int)).tmod 2=((n / 9 % 2:Nat):Int):=tmodN _ _
 have w1:IntKind.i64.wrap (1 + ((n / 9 % 2:Nat):Int))=((1 + n / 9 % 2:Nat):Int):=by rw [zb3 (by omega) (by omega)]; omega
 rcases ht with ⟨h0,hs⟩ | ⟨rfl,rfl⟩
 ·have hg:((l:Int) > 0):=by omega
  rw [T_fun (af:=a_3) rfl rfl]
  simp only [a_3,sA,seval,kn,hl,hp,hg,hs,hdp,hr,q9,q3,q2,dT,w1]
 ·have hg:¬ (((0:Nat):Int) > 0):=by omega
  rw [T_fun (af:=a_3) rfl rfl]
  simp only [a_3,sA,seval,kn,hl,hp,hg,hdp,hr,q9,q3,q2,dT,w1]
theorem zyk (hd:Tail d d1) (hn:n < 100000) (hp:T m n_13 [d,.int .i64 0] σ=some (.ret ⟨false,.int .i64 n⟩,σ)) (hdeep:3 < deep) (hdl:deep < 100) (hk:n % 4=3) :
  T (m + 1) n_8 [d,.int .i64 deep] σ=some (.ret ⟨false,.tup [dT (.hole ((1 + n / 9 % 2:Nat):Int)),d1]⟩,σ):=by
 obtain ⟨l,hl,ht⟩:=hd
 have hdp:((deep:Int) > 3):=by omega
 have hr:=tmodL (n:=n) (m:=4) (k:=3) 4 3 rfl rfl hk
 have q9:IntKind.i64.wrap ((n:Int).tdiv 9)=((n / 9:Nat):Int):=tdivN n 9 (by omega)
 have q3:(((n / 9:Nat):Int)).tmod 3=((n / 9 % 3:Nat):Int):=tmodN _ _
 have q2:(((n / 9:Nat):Int)).tmod 2=((n / 9 % 2:Nat):Int):=tmodN _ _
 have w1:IntKind.i64.wrap (1 + ((n / 9 % 2:Nat):Int))=((1 + n / 9 % 2:Nat):Int):=by rw [zb3 (by omega) (by omega)]; omega
 rcases ht with ⟨h0,hs⟩ | ⟨rfl,rfl⟩
 ·have hg:((l:Int) > 0):=by omega
  rw [T_fun (af:=a_3) rfl rfl]
  simp only [a_3,sA,seval,kn,hl,hp,hg,hs,hdp,hr,q9,q3,q2,dT,w1]
 ·have hg:¬ (((0:Nat):Int) > 0):=by omega
  rw [T_fun (af:=a_3) rfl rfl]
  simp only [a_3,sA,seval,kn,hl,hp,hg,hdp,hr,q9,q3,q2,dT,w1]
theorem zh8b (hd:Tail d d1) (hn:n < 100000) (hp:T m n_13 [d,.int .i64 0] σ=some (.ret ⟨false,.int .i64 n⟩,σ)) (hdeep:deep≤3) (hdl:deep < 100) (hk:n % 9=5) {a:Tp} {d2:D} (hc:T m n_8 [d1,.int .i64 (deep + 1:Nat)] σ=some (.ret ⟨false,.tup [dT a,d2]⟩,σ)) :
  T (m + 1) n_8 [d,.int .i64 deep] σ=some (.ret ⟨false,.tup [dT (.app (.con [76]) a),d2]⟩,σ):=by
 obtain ⟨l,hl,ht⟩:=hd
 have hdp:¬ ((deep:Int) > 3):=by omega
 have hr:=tmodL (n:=n) (m:=9) (k:=5) 9 5 rfl rfl hk
 have q9:IntKind.i64.wrap ((n:Int).tdiv 9)=((n / 9:Nat):Int):=tdivN n 9 (by omega)
 have q3:(((n / 9:Nat):Int)).tmod 3=((n / 9 % 3:Nat):Int):=tmodN _ _
 have q2:(((n / 9:Nat):Int)).tmod 2=((n / 9 % 2:Nat):Int):=tmodN _ _
 have w2:=zaj (i:=deep) (by omega)
 simp only [dT_eq,cT] at hc
 rcases ht with ⟨h0,hs⟩ | ⟨rfl,rfl⟩
 ·have hg:((l:Int) > 0):=by omega
  rw [T_fun (af:=a_3) rfl rfl]
  simp only [a_3,sA,seval,kn,hl,hp,hg,hs,hdp,hr,q9,q3,q2,dT,dT_eq a,cT,w2,hc]
 ·have hg:¬ (((0:Nat):Int) > 0):=by omega
  rw [T_fun (af:=a_3) rfl rfl]
  simp only [a_3,sA,seval,kn,hl,hp,hg,hdp,hr,q9,q3,q2,dT,dT_eq a,cT,w2,hc]
theorem zh9b (hd:Tail d d1) (hn:n < 100000) (hp:T m n_13 [d,.int .i64 0] σ=some (.ret ⟨false,.int .i64 n⟩,σ)) (hdeep:deep≤3) (hdl:deep < 100) (hk:n % 9=6) {a:Tp} {d2:D} (hc:T m n_8 [d1,.int .i64 (deep + 1:Nat)] σ=some (.ret ⟨false,.tup [dT a,d2]⟩,σ)) :
  T (m + 1) n_8 [d,.int .i64 deep] σ=some (.ret ⟨false,.tup [dT (.app (.con [76]) a),d2]⟩,σ):=by
 obtain ⟨l,hl,ht⟩:=hd
 have hdp:¬ ((deep:Int) > 3):=by omega
 have hr:=tmodL (n:=n) (m:=9) (k:=6) 9 6 rfl rfl hk
 have q9:IntKind.i64.wrap ((n:Int).tdiv 9)=((n / 9:Nat):Int):=tdivN n 9 (by omega)
 have q3:(((n / 9:Nat):Int)).tmod 3=((n / 9 % 3:Nat):Int):=tmodN _ _
 have q2:(((n / 9:Nat):Int)).tmod 2=((n / 9 % 2:Nat):Int):=tmodN _ _
 have w2:=zaj (i:=deep) (by omega)
 simp only [dT_eq,cT] at hc
 rcases ht with ⟨h0,hs⟩ | ⟨rfl,rfl⟩
 ·have hg:((l:Int) > 0):=by omega
  rw [T_fun (af:=a_3) rfl rfl]
  simp only [a_3,sA,seval,kn,hl,hp,hg,hs,hdp,hr,q9,q3,q2,dT,dT_eq a,cT,w2,hc]
 ·have hg:¬ (((0:Nat):Int) > 0):=by omega
  rw [T_fun (af:=a_3) rfl rfl]
  simp only [a_3,sA,seval,kn,hl,hp,hg,hdp,hr,q9,q3,q2,dT,dT_eq a,cT,w2,hc]
theorem ziab (hd:Tail d d1) (hn:n < 100000) (hp:T m n_13 [d,.int .i64 0] σ=some (.ret ⟨false,.int .i64 n⟩,σ)) (hdeep:deep≤3) (hdl:deep < 100) (hk:n % 9=7) {a b:Tp} {d2 d3:D} (hc:T m n_8 [d1,.int .i64 (deep + 1:Nat)] σ=some (.ret ⟨false,.tup [dT a,d2]⟩,σ)) (hc2:T m n_8 [d2,.int .i64 (deep + 1:Nat)] σ=some (.ret ⟨false,.tup [dT b,d3]⟩,σ)) :
  T (m + 1) n_8 [d,.int .i64 deep] σ=some (.ret ⟨false,.tup [dT (.app (.app (.con [80]) a) b),d3]⟩,σ):=by
 obtain ⟨l,hl,ht⟩:=hd
 have hdp:¬ ((deep:Int) > 3):=by omega
 have hr:=tmodL (n:=n) (m:=9) (k:=7) 9 7 rfl rfl hk
 have q9:IntKind.i64.wrap ((n:Int).tdiv 9)=((n / 9:Nat):Int):=tdivN n 9 (by omega)
 have q3:(((n / 9:Nat):Int)).tmod 3=((n / 9 % 3:Nat):Int):=tmodN _ _
 have q2:(((n / 9:Nat):Int)).tmod 2=((n / 9 % 2:Nat):Int):=tmodN _ _
 have w2:=zaj (i:=deep) (by omega)
 simp only [dT_eq,cT] at hc
 simp only [dT_eq,cT] at hc2
 rcases ht with ⟨h0,hs⟩ | ⟨rfl,rfl⟩
 ·have hg:((l:Int) > 0):=by omega
  rw [T_fun (af:=a_3) rfl rfl]
  simp only [a_3,sA,seval,kn,hl,hp,hg,hs,hdp,hr,q9,q3,q2,dT,dT_eq a,dT_eq b,cT,w2,hc,hc2]
 ·have hg:¬ (((0:Nat):Int) > 0):=by omega
  rw [T_fun (af:=a_3) rfl rfl]
  simp only [a_3,sA,seval,kn,hl,hp,hg,hdp,hr,q9,q3,q2,dT,dT_eq a,dT_eq b,cT,w2,hc,hc2]
theorem zibb (hd:Tail d d1) (hn:n < 100000) (hp:T m n_13 [d,.int .i64 0] σ=some (.ret ⟨false,.int .i64 n⟩,σ)) (hdeep:deep≤3) (hdl:deep < 100) (hk:n % 9=8) (h3:n / 9 % 3≠0) {a:Tp} {d2:D} (hc:T m n_8 [d1,.int .i64 (deep + 1:Nat)] σ=some (.ret ⟨false,.tup [dT a,d2]⟩,σ)) :
  T (m + 1) n_8 [d,.int .i64 deep] σ=some (.ret ⟨false,.tup [dT (.app (.var [102]) a),d2]⟩,σ):=by
 obtain ⟨l,hl,ht⟩:=hd
 have hdp:¬ ((deep:Int) > 3):=by omega
 have hr:=tmodL (n:=n) (m:=9) (k:=8) 9 8 rfl rfl hk
 have q9:IntKind.i64.wrap ((n:Int).tdiv 9)=((n / 9:Nat):Int):=tdivN n 9 (by omega)
 have q3:(((n / 9:Nat):Int)).tmod 3=((n / 9 % 3:Nat):Int):=tmodN _ _
 have q2:(((n / 9:Nat):Int)).tmod 2=((n / 9 % 2:Nat):Int):=tmodN _ _
 have w2:=zaj (i:=deep) (by omega)
 simp only [dT_eq,cT] at hc
 have e3:(((n / 9 % 3:Nat):Int) == 0)=false:=by simp; omega
 rcases ht with ⟨h0,hs⟩ | ⟨rfl,rfl⟩
 ·have hg:((l:Int) > 0):=by omega
  rw [T_fun (af:=a_3) rfl rfl]
  simp only [a_3,sA,seval,kn,hl,hp,hg,hs,hdp,hr,q9,q3,q2,dT,dT_eq a,cT,w2,hc,e3]
 ·have hg:¬ (((0:Nat):Int) > 0):=by omega
  rw [T_fun (af:=a_3) rfl rfl]
  simp only [a_3,sA,seval,kn,hl,hp,hg,hdp,hr,q9,q3,q2,dT,dT_eq a,cT,w2,hc,e3]
theorem zicb (hd:Tail d d1) (hn:n < 100000) (hp:T m n_13 [d,.int .i64 0] σ=some (.ret ⟨false,.int .i64 n⟩,σ)) (hdeep:deep≤3) (hdl:deep < 100) (hk:n % 9=8) (h3:n / 9 % 3=0) {a:Tp} {d2:D} (hc:T m n_8 [d1,.int .i64 (deep + 1:Nat)] σ=some (.ret ⟨false,.tup [dT a,d2]⟩,σ)) :
  T (m + 1) n_8 [d,.int .i64 deep] σ=some (.ret ⟨false,.tup [dT (.app (.con [73,110,116]) a),d2]⟩,σ):=by
 obtain ⟨l,hl,ht⟩:=hd
 have hdp:¬ ((deep:Int) > 3):=by omega
 have hr:=tmodL (n:=n) (m:=9) (k:=8) 9 8 rfl rfl hk
 have q9:IntKind.i64.wrap ((n:Int).tdiv 9)=((n / 9:Nat):Int):=tdivN n 9 (by omega)
 have q3:(((n / 9:Nat):Int)).tmod 3=((n / 9 % 3:Nat):Int):=tmodN _ _
 have q2:(((n / 9:Nat):Int)).tmod 2=((n / 9 % 2:Nat):Int):=tmodN _ _
 have w2:=zaj (i:=deep) (by omega)
 simp only [dT_eq,cT] at hc
 have e3:(((n / 9 % 3:Nat):Int) == 0)=true:=by simp; omega
 rcases ht with ⟨h0,hs⟩ | ⟨rfl,rfl⟩
 ·have hg:((l:Int) > 0):=by omega
  rw [T_fun (af:=a_3) rfl rfl]
  simp only [a_3,sA,seval,kn,hl,hp,hg,hs,hdp,hr,q9,q3,q2,dT,dT_eq a,cT,w2,hc,e3]
 ·have hg:¬ (((0:Nat):Int) > 0):=by omega
  rw [T_fun (af:=a_3) rfl rfl]
  simp only [a_3,sA,seval,kn,hl,hp,hg,hdp,hr,q9,q3,q2,dT,dT_eq a,cT,w2,hc,e3]
end
end Go.Fu

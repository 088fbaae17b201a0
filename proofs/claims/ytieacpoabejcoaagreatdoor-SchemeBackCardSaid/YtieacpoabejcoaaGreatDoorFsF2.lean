/-
 Types made of numbers,without TAlls.
-/
import Derived.Test.YtieacpoabejcoaaGreatDoorFsX0
set_option maxHeartbeats 4000000
set_option linter.unusedSimpArgs false
set_option linter.unusedVariables false
set_option linter.unusedSectionVars false
namespace Go.Fu
open Go Go.Mx
set_option maxRecDepth 10000
theorem zp8b (n m:Nat):((n:Int)).tmod (m:Int)=((n % m:Nat):Int):=by
 rw [Int.tmod_eq_emod_of_nonneg (by omega)]
 omega
theorem zbh (n m:Nat) (h:n < 1048576):IntKind.i64.wrap (((n:Int)).tdiv (m:Int))=((n / m:Nat):Int):=by
 rw [Int.tdiv_eq_ediv_of_nonneg (by omega)]
 have h1:n / m≤n:=Nat.div_le_self n m
 have e:(n:Int) / (m:Int)=((n / m:Nat):Int):=rfl
 rw [e]
 generalize n / m=q at h1
 exact zb3 (by omega) (by omega)
theorem zdx {n m k:Nat} (M K:Int) (hM:M=m) (hK:K=k) (h:n % m=k):((n:Int)).tmod M=K:=by
 subst hM hK
 rw [zp8b,h]
section
variable {m:Nat} {d d1:D} {n deep l:Nat} {x:Int} {σ:Store}
theorem zl9b (hl:lenOf d=some 0):T (m + 1) n_7 [d,.int .i64 deep,.bool false] σ=some (.ret ⟨false,.tup [dT (.con [73,110,116]),d]⟩,σ):=by
 rw [T_fun (af:=a_6) rfl rfl]
 simp only [a_6,sA,seval,kn,hl,zeroI,lit1,lit2,lit3,lit4,lit5,lit6,lit7,lit8,dT]
theorem zy5 (hl:lenOf d=some l) (h0:0 < l) (hx:zaw 1 d 0=some (.eptr (.int .i64 x))) (hs:za2 1 d 1 none=some d1) (hn:n < 40) (hp:T m n_4 [.int .i64 x,.int .i64 40] σ=some (.ret ⟨false,.int .i64 n⟩,σ)) (hdeep:deep≤4) (hdl:deep < 100) (hk:n % 10=0) {s:List UInt8} (hnm:T m n_30 [.int .i64 ((n / 10:Nat):Int)] σ=some (.ret ⟨false,.str s⟩,σ)) :
  T (m + 1) n_7 [d,.int .i64 deep,.bool false] σ=some (.ret ⟨false,.tup [dT (.var s),d1]⟩,σ):=by
 have hdp:¬ ((deep:Int) > 4):=by omega
 have hr:=zdx (n:=n) (m:=10) (k:=0) 10 0 rfl rfl hk
 have q10:IntKind.i64.wrap ((n:Int).tdiv 10)=((n / 10:Nat):Int):=zbh n 10 (by omega)
 have q5:IntKind.i64.wrap ((n:Int).tdiv 5)=((n / 5:Nat):Int):=zbh n 5 (by omega)
 have hne:(((l:Nat):Int) == 0)=false:=by simp; omega
 rw [T_fun (af:=a_6) rfl rfl]
 simp only [a_6,sA,seval,kn,hl,hx,hs,hp,hne,hdp,hr,q10,q5,hnm,dT]
theorem zy4 (hl:lenOf d=some l) (h0:0 < l) (hx:zaw 1 d 0=some (.eptr (.int .i64 x))) (hs:za2 1 d 1 none=some d1) (hn:n < 40) (hp:T m n_4 [.int .i64 x,.int .i64 40] σ=some (.ret ⟨false,.int .i64 n⟩,σ)) (hdeep:4 < deep) (hdl:deep < 100) (hk:n % 5=0) {s:List UInt8} (hnm:T m n_30 [.int .i64 ((n / 10:Nat):Int)] σ=some (.ret ⟨false,.str s⟩,σ)) :
  T (m + 1) n_7 [d,.int .i64 deep,.bool false] σ=some (.ret ⟨false,.tup [dT (.var s),d1]⟩,σ):=by
 have hdp:((deep:Int) > 4):=by omega
 have hr:=zdx (n:=n) (m:=5) (k:=0) 5 0 rfl rfl hk
 have q10:IntKind.i64.wrap ((n:Int).tdiv 10)=((n / 10:Nat):Int):=zbh n 10 (by omega)
 have q5:IntKind.i64.wrap ((n:Int).tdiv 5)=((n / 5:Nat):Int):=zbh n 5 (by omega)
 have hne:(((l:Nat):Int) == 0)=false:=by simp; omega
 rw [T_fun (af:=a_6) rfl rfl]
 simp only [a_6,sA,seval,kn,hl,hx,hs,hp,hne,hdp,hr,q10,q5,hnm,dT]
theorem zy7 (hl:lenOf d=some l) (h0:0 < l) (hx:zaw 1 d 0=some (.eptr (.int .i64 x))) (hs:za2 1 d 1 none=some d1) (hn:n < 40) (hp:T m n_4 [.int .i64 x,.int .i64 40] σ=some (.ret ⟨false,.int .i64 n⟩,σ)) (hdeep:deep≤4) (hdl:deep < 100) (hk:n % 10=1) {s:List UInt8} (hnm:T m n_30 [.int .i64 ((n / 10:Nat):Int)] σ=some (.ret ⟨false,.str s⟩,σ)) :
  T (m + 1) n_7 [d,.int .i64 deep,.bool false] σ=some (.ret ⟨false,.tup [dT (.var s),d1]⟩,σ):=by
 have hdp:¬ ((deep:Int) > 4):=by omega
 have hr:=zdx (n:=n) (m:=10) (k:=1) 10 1 rfl rfl hk
 have q10:IntKind.i64.wrap ((n:Int).tdiv 10)=((n / 10:Nat):Int):=zbh n 10 (by omega)
 have q5:IntKind.i64.wrap ((n:Int).tdiv 5)=((n / 5:Nat):Int):=zbh n 5 (by omega)
 have hne:(((l:Nat):Int) == 0)=false:=by simp; omega
 rw [T_fun (af:=a_6) rfl rfl]
 simp only [a_6,sA,seval,kn,hl,hx,hs,hp,hne,hdp,hr,q10,q5,hnm,dT]
theorem zy6 (hl:lenOf d=some l) (h0:0 < l) (hx:zaw 1 d 0=some (.eptr (.int .i64 x))) (hs:za2 1 d 1 none=some d1) (hn:n < 40) (hp:T m n_4 [.int .i64 x,.int .i64 40] σ=some (.ret ⟨false,.int .i64 n⟩,σ)) (hdeep:4 < deep) (hdl:deep < 100) (hk:n % 5=1) {s:List UInt8} (hnm:T m n_30 [.int .i64 ((n / 10:Nat):Int)] σ=some (.ret ⟨false,.str s⟩,σ)) :
  T (m + 1) n_7 [d,.int .i64 deep,.bool false] σ=some (.ret ⟨false,.tup [dT (.var s),d1]⟩,σ):=by
 have hdp:((deep:Int) > 4):=by omega
 have hr:=zdx (n:=n) (m:=5) (k:=1) 5 1 rfl rfl hk
 have q10:IntKind.i64.wrap ((n:Int).tdiv 10)=((n / 10:Nat):Int):=zbh n 10 (by omega)
 have q5:IntKind.i64.wrap ((n:Int).tdiv 5)=((n / 5:Nat):Int):=zbh n 5 (by omega)
 have hne:(((l:Nat):Int) == 0)=false:=by simp; omega
 rw [T_fun (af:=a_6) rfl rfl]
 simp only [a_6,sA,seval,kn,hl,hx,hs,hp,hne,hdp,hr,q10,q5,hnm,dT]
theorem zvr (hl:lenOf d=some l) (h0:0 < l) (hx:zaw 1 d 0=some (.eptr (.int .i64 x))) (hs:za2 1 d 1 none=some d1) (hn:n < 40) (hp:T m n_4 [.int .i64 x,.int .i64 40] σ=some (.ret ⟨false,.int .i64 n⟩,σ)) (hdeep:deep≤4) (hdl:deep < 100) (hk:n % 10=2) :
  T (m + 1) n_7 [d,.int .i64 deep,.bool false] σ=some (.ret ⟨false,.tup [dT (.hole ((1 + n / 10:Nat):Int)),d1]⟩,σ):=by
 have hdp:¬ ((deep:Int) > 4):=by omega
 have hr:=zdx (n:=n) (m:=10) (k:=2) 10 2 rfl rfl hk
 have q10:IntKind.i64.wrap ((n:Int).tdiv 10)=((n / 10:Nat):Int):=zbh n 10 (by omega)
 have q5:IntKind.i64.wrap ((n:Int).tdiv 5)=((n / 5:Nat):Int):=zbh n 5 (by omega)
 have hne:(((l:Nat):Int) == 0)=false:=by simp; omega
 have w1:IntKind.i64.wrap (1 + ((n / 10:Nat):Int))=((1 + n / 10:Nat):Int):=by rw [zb3 (by omega) (by omega)]; omega
 rw [T_fun (af:=a_6) rfl rfl]
 simp only [a_6,sA,seval,kn,hl,hx,hs,hp,hne,hdp,hr,q10,q5,dT,w1]
theorem zvq (hl:lenOf d=some l) (h0:0 < l) (hx:zaw 1 d 0=some (.eptr (.int .i64 x))) (hs:za2 1 d 1 none=some d1) (hn:n < 40) (hp:T m n_4 [.int .i64 x,.int .i64 40] σ=some (.ret ⟨false,.int .i64 n⟩,σ)) (hdeep:4 < deep) (hdl:deep < 100) (hk:n % 5=2) :
  T (m + 1) n_7 [d,.int .i64 deep,.bool false] σ=some (.ret ⟨false,.tup [dT (.hole ((1 + n / 10:Nat):Int)),d1]⟩,σ):=by
 have hdp:((deep:Int) > 4):=by omega
 have hr:=zdx (n:=n) (m:=5) (k:=2) 5 2 rfl rfl hk
 have q10:IntKind.i64.wrap ((n:Int).tdiv 10)=((n / 10:Nat):Int):=zbh n 10 (by omega)
 have q5:IntKind.i64.wrap ((n:Int).tdiv 5)=((n / 5:Nat):Int):=zbh n 5 (by omega)
 have hne:(((l:Nat):Int) == 0)=false:=by simp; omega
 have w1:IntKind.i64.wrap (1 + ((n / 10:Nat):Int))=((1 + n / 10:Nat):Int):=by rw [zb3 (by omega) (by omega)]; omega
 rw [T_fun (af:=a_6) rfl rfl]
 simp only [a_6,sA,seval,kn,hl,hx,hs,hp,hne,hdp,hr,q10,q5,dT,w1]
theorem zyy (hl:lenOf d=some l) (h0:0 < l) (hx:zaw 1 d 0=some (.eptr (.int .i64 x))) (hs:za2 1 d 1 none=some d1) (hn:n < 40) (hp:T m n_4 [.int .i64 x,.int .i64 40] σ=some (.ret ⟨false,.int .i64 n⟩,σ)) (hdeep:deep≤4) (hdl:deep < 100) (hk:n % 10=3) {s:List UInt8} (hnm:T m n_100 [.int .i64 ((n / 5:Nat):Int)] σ=some (.ret ⟨false,.str s⟩,σ)) :
  T (m + 1) n_7 [d,.int .i64 deep,.bool false] σ=some (.ret ⟨false,.tup [dT (.con s),d1]⟩,σ):=by
 have hdp:¬ ((deep:Int) > 4):=by omega
 have hr:=zdx (n:=n) (m:=10) (k:=3) 10 3 rfl rfl hk
 have q10:IntKind.i64.wrap ((n:Int).tdiv 10)=((n / 10:Nat):Int):=zbh n 10 (by omega)
 have q5:IntKind.i64.wrap ((n:Int).tdiv 5)=((n / 5:Nat):Int):=zbh n 5 (by omega)
 have hne:(((l:Nat):Int) == 0)=false:=by simp; omega
 rw [T_fun (af:=a_6) rfl rfl]
 simp only [a_6,sA,seval,kn,hl,hx,hs,hp,hne,hdp,hr,q10,q5,hnm,dT]
theorem zyx (hl:lenOf d=some l) (h0:0 < l) (hx:zaw 1 d 0=some (.eptr (.int .i64 x))) (hs:za2 1 d 1 none=some d1) (hn:n < 40) (hp:T m n_4 [.int .i64 x,.int .i64 40] σ=some (.ret ⟨false,.int .i64 n⟩,σ)) (hdeep:4 < deep) (hdl:deep < 100) (hk:n % 5=3) {s:List UInt8} (hnm:T m n_100 [.int .i64 ((n / 5:Nat):Int)] σ=some (.ret ⟨false,.str s⟩,σ)) :
  T (m + 1) n_7 [d,.int .i64 deep,.bool false] σ=some (.ret ⟨false,.tup [dT (.con s),d1]⟩,σ):=by
 have hdp:((deep:Int) > 4):=by omega
 have hr:=zdx (n:=n) (m:=5) (k:=3) 5 3 rfl rfl hk
 have q10:IntKind.i64.wrap ((n:Int).tdiv 10)=((n / 10:Nat):Int):=zbh n 10 (by omega)
 have q5:IntKind.i64.wrap ((n:Int).tdiv 5)=((n / 5:Nat):Int):=zbh n 5 (by omega)
 have hne:(((l:Nat):Int) == 0)=false:=by simp; omega
 rw [T_fun (af:=a_6) rfl rfl]
 simp only [a_6,sA,seval,kn,hl,hx,hs,hp,hne,hdp,hr,q10,q5,hnm,dT]
theorem zy0 (hl:lenOf d=some l) (h0:0 < l) (hx:zaw 1 d 0=some (.eptr (.int .i64 x))) (hs:za2 1 d 1 none=some d1) (hn:n < 40) (hp:T m n_4 [.int .i64 x,.int .i64 40] σ=some (.ret ⟨false,.int .i64 n⟩,σ)) (hdeep:deep≤4) (hdl:deep < 100) (hk:n % 10=4) {s:List UInt8} (hnm:T m n_100 [.int .i64 ((n / 5:Nat):Int)] σ=some (.ret ⟨false,.str s⟩,σ)) :
  T (m + 1) n_7 [d,.int .i64 deep,.bool false] σ=some (.ret ⟨false,.tup [dT (.con s),d1]⟩,σ):=by
 have hdp:¬ ((deep:Int) > 4):=by omega
 have hr:=zdx (n:=n) (m:=10) (k:=4) 10 4 rfl rfl hk
 have q10:IntKind.i64.wrap ((n:Int).tdiv 10)=((n / 10:Nat):Int):=zbh n 10 (by omega)
 have q5:IntKind.i64.wrap ((n:Int).tdiv 5)=((n / 5:Nat):Int):=zbh n 5 (by omega)
 have hne:(((l:Nat):Int) == 0)=false:=by simp; omega
 rw [T_fun (af:=a_6) rfl rfl]
 simp only [a_6,sA,seval,kn,hl,hx,hs,hp,hne,hdp,hr,q10,q5,hnm,dT]
theorem zyz (hl:lenOf d=some l) (h0:0 < l) (hx:zaw 1 d 0=some (.eptr (.int .i64 x))) (hs:za2 1 d 1 none=some d1) (hn:n < 40) (hp:T m n_4 [.int .i64 x,.int .i64 40] σ=some (.ret ⟨false,.int .i64 n⟩,σ)) (hdeep:4 < deep) (hdl:deep < 100) (hk:n % 5=4) {s:List UInt8} (hnm:T m n_100 [.int .i64 ((n / 5:Nat):Int)] σ=some (.ret ⟨false,.str s⟩,σ)) :
  T (m + 1) n_7 [d,.int .i64 deep,.bool false] σ=some (.ret ⟨false,.tup [dT (.con s),d1]⟩,σ):=by
 have hdp:((deep:Int) > 4):=by omega
 have hr:=zdx (n:=n) (m:=5) (k:=4) 5 4 rfl rfl hk
 have q10:IntKind.i64.wrap ((n:Int).tdiv 10)=((n / 10:Nat):Int):=zbh n 10 (by omega)
 have q5:IntKind.i64.wrap ((n:Int).tdiv 5)=((n / 5:Nat):Int):=zbh n 5 (by omega)
 have hne:(((l:Nat):Int) == 0)=false:=by simp; omega
 rw [T_fun (af:=a_6) rfl rfl]
 simp only [a_6,sA,seval,kn,hl,hx,hs,hp,hne,hdp,hr,q10,q5,hnm,dT]
theorem zy1 (hl:lenOf d=some l) (h0:0 < l) (hx:zaw 1 d 0=some (.eptr (.int .i64 x))) (hs:za2 1 d 1 none=some d1) (hn:n < 40) (hp:T m n_4 [.int .i64 x,.int .i64 40] σ=some (.ret ⟨false,.int .i64 n⟩,σ)) (hdeep:deep≤4) (hdl:deep < 100) (hk:n % 10=5) {a b:Tp} {d2 d3:D} (hc:T m n_7 [d1,.int .i64 (deep + 1:Nat),.bool false] σ=some (.ret ⟨false,.tup [dT a,d2]⟩,σ)) (hc2:T m n_7 [d2,.int .i64 (deep + 1:Nat),.bool false] σ=some (.ret ⟨false,.tup [dT b,d3]⟩,σ)) (ha:T m n_119 [dT a,dT b] σ=some (.ret ⟨false,dT (.app (.app (.con [45,62]) a) b)⟩,σ)) :
  T (m + 1) n_7 [d,.int .i64 deep,.bool false] σ=some (.ret ⟨false,.tup [dT (.app (.app (.con [45,62]) a) b),d3]⟩,σ):=by
 have hdp:¬ ((deep:Int) > 4):=by omega
 have hr:=zdx (n:=n) (m:=10) (k:=5) 10 5 rfl rfl hk
 have q10:IntKind.i64.wrap ((n:Int).tdiv 10)=((n / 10:Nat):Int):=zbh n 10 (by omega)
 have q5:IntKind.i64.wrap ((n:Int).tdiv 5)=((n / 5:Nat):Int):=zbh n 5 (by omega)
 have hne:(((l:Nat):Int) == 0)=false:=by simp; omega
 simp only [dT] at ha
 have w2:=zaj (i:=deep) (by omega)
 simp only [dT_eq,cT] at hc hc2 ha
 rw [T_fun (af:=a_6) rfl rfl]
 simp only [a_6,sA,seval,kn,hl,hx,hs,hp,hne,hdp,hr,q10,q5,dT,dT_eq a,dT_eq b,cT,w2,hc,hc2,ha]
theorem zy2 (hl:lenOf d=some l) (h0:0 < l) (hx:zaw 1 d 0=some (.eptr (.int .i64 x))) (hs:za2 1 d 1 none=some d1) (hn:n < 40) (hp:T m n_4 [.int .i64 x,.int .i64 40] σ=some (.ret ⟨false,.int .i64 n⟩,σ)) (hdeep:deep≤4) (hdl:deep < 100) (hk:n % 10=6) {a b:Tp} {d2 d3:D} (hc:T m n_7 [d1,.int .i64 (deep + 1:Nat),.bool false] σ=some (.ret ⟨false,.tup [dT a,d2]⟩,σ)) (hc2:T m n_7 [d2,.int .i64 (deep + 1:Nat),.bool false] σ=some (.ret ⟨false,.tup [dT b,d3]⟩,σ)) (ha:T m n_119 [dT a,dT b] σ=some (.ret ⟨false,dT (.app (.app (.con [45,62]) a) b)⟩,σ)) :
  T (m + 1) n_7 [d,.int .i64 deep,.bool false] σ=some (.ret ⟨false,.tup [dT (.app (.app (.con [45,62]) a) b),d3]⟩,σ):=by
 have hdp:¬ ((deep:Int) > 4):=by omega
 have hr:=zdx (n:=n) (m:=10) (k:=6) 10 6 rfl rfl hk
 have q10:IntKind.i64.wrap ((n:Int).tdiv 10)=((n / 10:Nat):Int):=zbh n 10 (by omega)
 have q5:IntKind.i64.wrap ((n:Int).tdiv 5)=((n / 5:Nat):Int):=zbh n 5 (by omega)
 have hne:(((l:Nat):Int) == 0)=false:=by simp; omega
 simp only [dT] at ha
 have w2:=zaj (i:=deep) (by omega)
 simp only [dT_eq,cT] at hc hc2 ha
 rw [T_fun (af:=a_6) rfl rfl]
 simp only [a_6,sA,seval,kn,hl,hx,hs,hp,hne,hdp,hr,q10,q5,dT,dT_eq a,dT_eq b,cT,w2,hc,hc2,ha]
theorem zy3 (hl:lenOf d=some l) (h0:0 < l) (hx:zaw 1 d 0=some (.eptr (.int .i64 x))) (hs:za2 1 d 1 none=some d1) (hn:n < 40) (hp:T m n_4 [.int .i64 x,.int .i64 40] σ=some (.ret ⟨false,.int .i64 n⟩,σ)) (hdeep:deep≤4) (hdl:deep < 100) (hk:n % 10=7) {a b:Tp} {d2 d3:D} (hc:T m n_7 [d1,.int .i64 (deep + 1:Nat),.bool false] σ=some (.ret ⟨false,.tup [dT a,d2]⟩,σ)) (hc2:T m n_7 [d2,.int .i64 (deep + 1:Nat),.bool false] σ=some (.ret ⟨false,.tup [dT b,d3]⟩,σ)) (ha:T m n_119 [dT a,dT b] σ=some (.ret ⟨false,dT (.app (.app (.con [45,62]) a) b)⟩,σ)) :
  T (m + 1) n_7 [d,.int .i64 deep,.bool false] σ=some (.ret ⟨false,.tup [dT (.app (.app (.con [45,62]) a) b),d3]⟩,σ):=by
 have hdp:¬ ((deep:Int) > 4):=by omega
 have hr:=zdx (n:=n) (m:=10) (k:=7) 10 7 rfl rfl hk
 have q10:IntKind.i64.wrap ((n:Int).tdiv 10)=((n / 10:Nat):Int):=zbh n 10 (by omega)
 have q5:IntKind.i64.wrap ((n:Int).tdiv 5)=((n / 5:Nat):Int):=zbh n 5 (by omega)
 have hne:(((l:Nat):Int) == 0)=false:=by simp; omega
 simp only [dT] at ha
 have w2:=zaj (i:=deep) (by omega)
 simp only [dT_eq,cT] at hc hc2 ha
 rw [T_fun (af:=a_6) rfl rfl]
 simp only [a_6,sA,seval,kn,hl,hx,hs,hp,hne,hdp,hr,q10,q5,dT,dT_eq a,dT_eq b,cT,w2,hc,hc2,ha]
theorem zyv (hl:lenOf d=some l) (h0:0 < l) (hx:zaw 1 d 0=some (.eptr (.int .i64 x))) (hs:za2 1 d 1 none=some d1) (hn:n < 40) (hp:T m n_4 [.int .i64 x,.int .i64 40] σ=some (.ret ⟨false,.int .i64 n⟩,σ)) (hdeep:deep≤4) (hdl:deep < 100) (hk:n % 10=8) {a b:Tp} {d2 d3:D} (hc:T m n_7 [d1,.int .i64 (deep + 1:Nat),.bool false] σ=some (.ret ⟨false,.tup [dT a,d2]⟩,σ)) (hc2:T m n_7 [d2,.int .i64 (deep + 1:Nat),.bool false] σ=some (.ret ⟨false,.tup [dT b,d3]⟩,σ)) (ha:T m n_101 [dT a,dT b] σ=some (.ret ⟨false,dT (.app a b)⟩,σ)) :
  T (m + 1) n_7 [d,.int .i64 deep,.bool false] σ=some (.ret ⟨false,.tup [dT (.app a b),d3]⟩,σ):=by
 have hdp:¬ ((deep:Int) > 4):=by omega
 have hr:=zdx (n:=n) (m:=10) (k:=8) 10 8 rfl rfl hk
 have q10:IntKind.i64.wrap ((n:Int).tdiv 10)=((n / 10:Nat):Int):=zbh n 10 (by omega)
 have q5:IntKind.i64.wrap ((n:Int).tdiv 5)=((n / 5:Nat):Int):=zbh n 5 (by omega)
 have hne:(((l:Nat):Int) == 0)=false:=by simp; omega
 simp only [dT] at ha
 have w2:=zaj (i:=deep) (by omega)
 simp only [dT_eq,cT] at hc hc2 ha
 rw [T_fun (af:=a_6) rfl rfl]
 simp only [a_6,sA,seval,kn,hl,hx,hs,hp,hne,hdp,hr,q10,q5,dT,dT_eq a,dT_eq b,cT,w2,hc,hc2,ha]
theorem zyw (hl:lenOf d=some l) (h0:0 < l) (hx:zaw 1 d 0=some (.eptr (.int .i64 x))) (hs:za2 1 d 1 none=some d1) (hn:n < 40) (hp:T m n_4 [.int .i64 x,.int .i64 40] σ=some (.ret ⟨false,.int .i64 n⟩,σ)) (hdeep:deep≤4) (hdl:deep < 100) (hk:n % 10=9) {a b:Tp} {d2 d3:D} (hc:T m n_7 [d1,.int .i64 (deep + 1:Nat),.bool false] σ=some (.ret ⟨false,.tup [dT a,d2]⟩,σ)) (hc2:T m n_7 [d2,.int .i64 (deep + 1:Nat),.bool false] σ=some (.ret ⟨false,.tup [dT b,d3]⟩,σ)) (ha:T m n_101 [dT a,dT b] σ=some (.ret ⟨false,dT (.app a b)⟩,σ)) :
  T (m + 1) n_7 [d,.int .i64 deep,.bool false] σ=some (.ret ⟨false,.tup [dT (.app a b),d3]⟩,σ):=by
 have hdp:¬ ((deep:Int) > 4):=by omega
 have hr:=zdx (n:=n) (m:=10) (k:=9) 10 9 rfl rfl hk
 have q10:IntKind.i64.wrap ((n:Int).tdiv 10)=((n / 10:Nat):Int):=zbh n 10 (by omega)
 have q5:IntKind.i64.wrap ((n:Int).tdiv 5)=((n / 5:Nat):Int):=zbh n 5 (by omega)
 have hne:(((l:Nat):Int) == 0)=false:=by simp; omega
 simp only [dT] at ha
 have w2:=zaj (i:=deep) (by omega)
 simp only [dT_eq,cT] at hc hc2 ha
 rw [T_fun (af:=a_6) rfl rfl]
 simp only [a_6,sA,seval,kn,hl,hx,hs,hp,hne,hdp,hr,q10,q5,dT,dT_eq a,dT_eq b,cT,w2,hc,hc2,ha]
end
end Go.Fu

/-
 What is known of the types that are made.
-/
import Derived.Test.YtieacpoabejcoaaGreatDoorFsX4
import Derived.Test.YtieacpoabejcoaaGreatDoorFsF1
import Derived.Test.YtieacpoabejcoaaGreatDoorFsF2
set_option maxHeartbeats 4000000
set_option linter.unusedSimpArgs false
set_option linter.unusedVariables false
set_option linter.unusedSectionVars false
namespace Go.Fu
open Go Go.Mx
set_option maxRecDepth 10000
def tyB:Tp→Bool
 | .hole x=>decide (0≤x) && decide (x < 6)
 | .var s=>okV s
 | .con c=>decide (c.length≤6)
 | .app f a=>tyB f && tyB a
theorem zi0:∀ t:Tp,okA t=true→tyB t=true
 | .hole x,h=>h
 | .var s,h=>h
 | .con c,h=>by rcases zfqb h with rfl | rfl | rfl | rfl <;> rfl
 | .app f a,h=>by
  simp only [okA,Bool.and_eq_true] at h
  simp only [tyB,Bool.and_eq_true]
  exact ⟨zi0 f h.1,zi0 a h.2⟩
def bz:Nat→Nat
 | 0=>1
 | r + 1=>2 * bz r + 3
theorem zgp:∀ r,1≤bz r
 | 0=>Nat.le_refl _
 | r + 1=>by have:=zgp r; simp only [bz]; omega
theorem zg5b (x:Int):okV (nmS x)=true:=by
 unfold nmS
 split <;> rfl
theorem zo3b (x:Int):(cnS x).length≤6:=by
 unfold cnS
 split <;> decide
def V5:List (List UInt8):=[[97],[98],[99],[120],[102]]
def v5T:Tp→Bool
 | .var s=>V5.contains s
 | .app f a=>v5T f && v5T a
 | _=>true
theorem zg6b (x:Int):V5.contains (nmS x)=true:=by
 unfold nmS
 split <;> rfl
def LA (r:Nat) (t:Tp):Prop:=(okA t=true∧v5T t=true)∧nT t≤bz r
def LB (r:Nat) (t:Tp):Prop:=(tyB t=true∧v5T t=true)∧nT t≤bz r
theorem zwv {r:Nat} (x:Int):LA r (.var (nmS x)):=⟨⟨zg5b x,zg6b x⟩,zgp r⟩
theorem zg1b {r:Nat}:LA r (.con [73,110,116]):=⟨⟨rfl,rfl⟩,zgp r⟩
theorem zb7b {r:Nat}:LA r (.con [66,111,111,108]):=⟨⟨rfl,rfl⟩,zgp r⟩
theorem zb8b {r:Nat} (n:Nat):LA r (.hole ((1 + n % 2:Nat):Int)):=⟨⟨by simp only [okA,Bool.and_eq_true,decide_eq_true_eq]; omega,rfl⟩,zgp r⟩
theorem lw_L {r:Nat} {a:Tp} (h:LA r a):LA (r + 1) (.app (.con [76]) a):=by
 refine ⟨⟨by simp only [okA,Bool.and_eq_true]; exact ⟨rfl,h.1.1⟩,by simp only [v5T,Bool.and_eq_true,true_and]; exact h.1.2⟩,?_⟩
 have:=h.2
 simp only [nT,bz]; omega
theorem lw_i {r:Nat} {a:Tp} (h:LA r a):LA (r + 1) (.app (.con [73,110,116]) a):=by
 refine ⟨⟨by simp only [okA,Bool.and_eq_true]; exact ⟨rfl,h.1.1⟩,by simp only [v5T,Bool.and_eq_true,true_and]; exact h.1.2⟩,?_⟩
 have:=h.2
 simp only [nT,bz]; omega
theorem lw_f {r:Nat} {a:Tp} (h:LA r a):LA (r + 1) (.app (.var [102]) a):=by
 refine ⟨⟨by simp only [okA,Bool.and_eq_true]; exact ⟨rfl,h.1.1⟩,by simp only [v5T,Bool.and_eq_true]; exact ⟨rfl,h.1.2⟩⟩,?_⟩
 have:=h.2
 simp only [nT,bz]; omega
theorem lw_P {r:Nat} {a b:Tp} (h:LA r a) (h':LA r b):LA (r + 1) (.app (.app (.con [80]) a) b):=by
 refine ⟨⟨by simp only [okA,Bool.and_eq_true]; exact ⟨⟨rfl,h.1.1⟩,h'.1.1⟩,by simp only [v5T,Bool.and_eq_true,true_and]; exact ⟨h.1.2,h'.1.2⟩⟩,?_⟩
 have:=h.2
 have:=h'.2
 simp only [nT,bz]; omega
theorem zphb {r:Nat}:LB r (.con [73,110,116]):=⟨⟨rfl,rfl⟩,zgp r⟩
theorem zq7 {r:Nat} (x:Int):LB r (.var (nmS x)):=⟨⟨zg5b x,zg6b x⟩,zgp r⟩
theorem zq6 {r:Nat} (x:Int):LB r (.con (cnS x)):=⟨⟨by simp only [tyB,decide_eq_true_eq]; exact zo3b x,rfl⟩,zgp r⟩
theorem zb5b {r n:Nat} (h:n < 40):LB r (.hole ((1 + n / 10:Nat):Int)):=⟨⟨by simp only [tyB,Bool.and_eq_true,decide_eq_true_eq]; omega,rfl⟩,zgp r⟩
theorem zws {r:Nat} {a b:Tp} (h:LB r a) (h':LB r b):LB (r + 1) (.app (.app (.con [45,62]) a) b):=by
 refine ⟨⟨by simp only [tyB,Bool.and_eq_true]; exact ⟨⟨rfl,h.1.1⟩,h'.1.1⟩,by simp only [v5T,Bool.and_eq_true,true_and]; exact ⟨h.1.2,h'.1.2⟩⟩,?_⟩
 have:=h.2
 have:=h'.2
 simp only [nT,bz]; omega
theorem zgnb {r:Nat} {a b:Tp} (h:LB r a) (h':LB r b):LB (r + 1) (.app a b):=by
 refine ⟨⟨by simp only [tyB,Bool.and_eq_true]; exact ⟨h.1.1,h'.1.1⟩,by simp only [v5T,Bool.and_eq_true]; exact ⟨h.1.2,h'.1.2⟩⟩,?_⟩
 have:=h.2
 have:=h'.2
 simp only [nT,bz]; omega
theorem LA.toB {r:Nat} {t:Tp} (h:LA r t):LB (r + 1) t:=⟨⟨zi0 t h.1.1,h.1.2⟩,by have:=h.2; simp only [bz]; omega⟩
end Go.Fu
namespace Go.Fu
open Go Go.Mx
set_option maxRecDepth 10000
def zbj (xs:List Int):Prop:=∀ x∈xs,Small x
theorem zdd {n:Nat} (h:n < 1048576):Small (n:Int):=by unfold Small; omega
theorem zcib {d:D} {xs:List Int} (h:Row d xs) (hs:zbj xs):∃ d1 xs1,Tail d d1∧Row d1 xs1∧zbj xs1∧xs1.length≤xs.length:=by
 have hl:=zd2 h
 cases xs with
 | nil=>exact ⟨d,[],⟨0,hl,.inr ⟨rfl,rfl⟩⟩,h,hs,Nat.le_refl _⟩
 | cons x r =>
  obtain ⟨d',h1,h2⟩:=zjx h
  exact ⟨d',r,⟨_,hl,.inl ⟨by simp,h1⟩⟩,h2,fun y hy=>hs y (List.mem_cons_of_mem _ hy),by simp⟩
def TypOK (r deep:Nat) (d:D) (xs:List Int):Prop:=∃ t d' xs',LA r t∧Row d' xs'∧zbj xs'∧xs'.length≤xs.length∧Evly fun n=>∀ σ,T n n_8 [d,.int .i64 deep] σ=some (.ret ⟨false,.tup [dT t,d']⟩,σ)
theorem zsa:∀ (r deep:Nat),deep + r=4→∀ d xs,Row d xs→zbj xs→TypOK r deep d xs
 | 0,deep,hr,d,xs,hR,hS=>by
  obtain ⟨d1,xs1,hT,hR1,hS1,hl1⟩:=zcib hR hS
  have hpick:=zqg d xs hR hS
  have hn:=pk_lt xs
  generalize pk xs=n at hpick hn
  have hk:n % 4=0∨n % 4=1∨n % 4=2∨n % 4=3:=by omega
  rcases hk with hk | hk | hk | hk
  ·exact ⟨_,d1,xs1,zwv _,hR1,hS1,hl1,(hpick.and zf8).step 0 fun m _ h σ=>zayb hT hn (h.1 σ) (by omega) (by omega) hk (h.2 _ σ (zdd (by omega)))⟩
  ·exact ⟨_,d1,xs1,zg1b,hR1,hS1,hl1,hpick.step 0 fun m _ h σ=>zawb hT hn (h σ) (by omega) (by omega) hk⟩
  ·exact ⟨_,d1,xs1,zb7b,hR1,hS1,hl1,hpick.step 0 fun m _ h σ=>zyi hT hn (h σ) (by omega) (by omega) hk⟩
  ·exact ⟨_,d1,xs1,zb8b _,hR1,hS1,hl1,hpick.step 0 fun m _ h σ=>zyk hT hn (h σ) (by omega) (by omega) hk⟩
 | r + 1,deep,hr,d,xs,hR,hS=>by
  obtain ⟨d1,xs1,hT,hR1,hS1,hl1⟩:=zcib hR hS
  have hpick:=zqg d xs hR hS
  have hn:=pk_lt xs
  generalize pk xs=n at hpick hn
  obtain ⟨a,d2,xs2,hLa,hR2,hS2,hl2,ha⟩:=zsa r (deep + 1) (by omega) d1 xs1 hR1 hS1
  have hk:n % 9=0∨n % 9=1∨n % 9=2∨n % 9=3∨n % 9=4∨n % 9=5∨n % 9=6∨n % 9=7∨n % 9=8:=by omega
  rcases hk with hk | hk | hk | hk | hk | hk | hk | hk | hk
  ·exact ⟨_,d1,xs1,zwv _,hR1,hS1,hl1,(hpick.and zf8).step 0 fun m _ h σ=>zazb hT hn (h.1 σ) (by omega) (by omega) hk (h.2 _ σ (zdd (by omega)))⟩
  ·exact ⟨_,d1,xs1,zg1b,hR1,hS1,hl1,hpick.step 0 fun m _ h σ=>zaxb hT hn (h σ) (by omega) (by omega) hk⟩
  ·exact ⟨_,d1,xs1,zb7b,hR1,hS1,hl1,hpick.step 0 fun m _ h σ=>zyj hT hn (h σ) (by omega) (by omega) hk⟩
  ·exact ⟨_,d1,xs1,zb8b _,hR1,hS1,hl1,hpick.step 0 fun m _ h σ=>zyl hT hn (h σ) (by omega) (by omega) hk⟩
  ·exact ⟨_,d1,xs1,zwv _,hR1,hS1,hl1,(hpick.and zf8).step 0 fun m _ h σ=>za0b hT hn (h.1 σ) (by omega) (by omega) hk (h.2 _ σ (zdd (by omega)))⟩
  ·exact ⟨_,d2,xs2,lw_L hLa,hR2,hS2,by omega,(hpick.and ha).step 0 fun m _ h σ=>zh8b hT hn (h.1 σ) (by omega) (by omega) hk (h.2 σ)⟩
  ·exact ⟨_,d2,xs2,lw_L hLa,hR2,hS2,by omega,(hpick.and ha).step 0 fun m _ h σ=>zh9b hT hn (h.1 σ) (by omega) (by omega) hk (h.2 σ)⟩
  ·obtain ⟨b,d3,xs3,hLb,hR3,hS3,hl3,hb⟩:=zsa r (deep + 1) (by omega) d2 xs2 hR2 hS2
   exact ⟨_,d3,xs3,lw_P hLa hLb,hR3,hS3,by omega,(hpick.and (ha.and hb)).step 0 fun m _ h σ=>ziab hT hn (h.1 σ) (by omega) (by omega) hk (h.2.1 σ) (h.2.2 σ)⟩
  ·by_cases h3:n / 9 % 3=0
   ·exact ⟨_,d2,xs2,lw_i hLa,hR2,hS2,by omega,(hpick.and ha).step 0 fun m _ h σ=>zicb hT hn (h.1 σ) (by omega) (by omega) hk h3 (h.2 σ)⟩
   ·exact ⟨_,d2,xs2,lw_f hLa,hR2,hS2,by omega,(hpick.and ha).step 0 fun m _ h σ=>zibb hT hn (h.1 σ) (by omega) (by omega) hk h3 (h.2 σ)⟩
theorem zhq {xs:List Int} (h:zbj xs) (m:Nat):zbj (xs.take m):=fun x hx=>h x (List.mem_of_mem_take hx)
theorem zlxb (d:D) (xs:List Int) (hR:Row d xs) (hS:zbj xs):∃ t,LA 4 t∧Evly fun n=>∀ σ,T n n_193 [d] σ=some (.ret ⟨false,dT t⟩,σ):=by
 obtain ⟨d1,hR1,o,h1⟩:=zl1 d xs 12 hR (by omega)
 obtain ⟨t,d2,xs2,hL,_,_,_,h2⟩:=zsa 4 0 (by omega) d1 _ hR1 (zhq hS 12)
 refine ⟨t,hL,(h1.and h2).step 0 fun m _ h σ=>?_⟩
 have e1:=h.1 σ
 have e2:=h.2 σ
 rw [T_fun (af:=a_143) rfl rfl]
 rw [dT_eq t] at e2 ⊢
 have l12:((12:Nat):Int)=12:=rfl
 simp only [cT,l12,zeroI] at e1 e2 ⊢
 simp only [a_143,sA,seval,kn,e1,e2]
def BldOK (r deep:Nat) (d:D) (xs:List Int):Prop:=∃ t d' xs',LB r t∧Row d' xs'∧zbj xs'∧Evly fun n=>∀ σ,T n n_7 [d,.int .i64 deep,.bool false] σ=some (.ret ⟨false,.tup [dT t,d']⟩,σ)
theorem zpw:∀ (r deep:Nat),deep + r=5→∀ d xs,Row d xs→zbj xs→BldOK r deep d xs
 | _,deep,_,d,[],hR,hS=>⟨_,d,[],zphb,hR,hS,any _ fun n σ=>zl9b (zd2 hR)⟩
 | 0,deep,hr,d,x :: xs,hR,hS=>by
  obtain ⟨d1,hs,hR1⟩:=zjx hR
  have hS1:zbj xs:=fun y hy=>hS y (List.mem_cons_of_mem _ hy)
  have hl:=zd2 hR
  have hx:=zov hR 0 (by simp)
  have h0:0 < (x :: xs).length:=by simp
  simp only [List.getElem_cons_zero] at hx
  have hpick:Evly fun n=>∀ σ,T n n_4 [.int .i64 x,.int .i64 40] σ=some (.ret ⟨false,.int .i64 (aro x 40)⟩,σ):=ze7.mono fun n h σ=>h x 40 40 σ (hS x (by simp)) rfl (by omega) (by omega)
  have hn:=zhr x (m:=40) (by omega)
  generalize aro x 40=n at hpick hn
  have hk:n % 5=0∨n % 5=1∨n % 5=2∨n % 5=3∨n % 5=4:=by omega
  rcases hk with hk | hk | hk | hk | hk
  ·exact ⟨_,d1,xs,zq7 _,hR1,hS1,(hpick.and zf8).step 0 fun m _ h σ=>zy4 hl h0 hx hs hn (h.1 σ) (by omega) (by omega) hk (h.2 _ σ (zdd (by omega)))⟩
  ·exact ⟨_,d1,xs,zq7 _,hR1,hS1,(hpick.and zf8).step 0 fun m _ h σ=>zy6 hl h0 hx hs hn (h.1 σ) (by omega) (by omega) hk (h.2 _ σ (zdd (by omega)))⟩
  ·exact ⟨_,d1,xs,zb5b hn,hR1,hS1,hpick.step 0 fun m _ h σ=>zvq hl h0 hx hs hn (h σ) (by omega) (by omega) hk⟩
  ·exact ⟨_,d1,xs,zq6 _,hR1,hS1,(hpick.and zoq).step 0 fun m _ h σ=>zyx hl h0 hx hs hn (h.1 σ) (by omega) (by omega) hk (h.2 _ σ (zdd (by omega)))⟩
  ·exact ⟨_,d1,xs,zq6 _,hR1,hS1,(hpick.and zoq).step 0 fun m _ h σ=>zyz hl h0 hx hs hn (h.1 σ) (by omega) (by omega) hk (h.2 _ σ (zdd (by omega)))⟩
 | r + 1,deep,hr,d,x :: xs,hR,hS=>by
  obtain ⟨d1,hs,hR1⟩:=zjx hR
  have hS1:zbj xs:=fun y hy=>hS y (List.mem_cons_of_mem _ hy)
  have hl:=zd2 hR
  have hx:=zov hR 0 (by simp)
  have h0:0 < (x :: xs).length:=by simp
  simp only [List.getElem_cons_zero] at hx
  have hpick:Evly fun n=>∀ σ,T n n_4 [.int .i64 x,.int .i64 40] σ=some (.ret ⟨false,.int .i64 (aro x 40)⟩,σ):=ze7.mono fun n h σ=>h x 40 40 σ (hS x (by simp)) rfl (by omega) (by omega)
  have hn:=zhr x (m:=40) (by omega)
  generalize aro x 40=n at hpick hn
  obtain ⟨a,d2,xs2,hLa,hR2,hS2,ha⟩:=zpw r (deep + 1) (by omega) d1 xs hR1 hS1
  obtain ⟨b,d3,xs3,hLb,hR3,hS3,hb⟩:=zpw r (deep + 1) (by omega) d2 xs2 hR2 hS2
  have hk:n % 10=0∨n % 10=1∨n % 10=2∨n % 10=3∨n % 10=4∨n % 10=5∨n % 10=6∨n % 10=7∨n % 10=8∨n % 10=9:=by omega
  rcases hk with hk | hk | hk | hk | hk | hk | hk | hk | hk | hk
  ·exact ⟨_,d1,xs,zq7 _,hR1,hS1,(hpick.and zf8).step 0 fun m _ h σ=>zy5 hl h0 hx hs hn (h.1 σ) (by omega) (by omega) hk (h.2 _ σ (zdd (by omega)))⟩
  ·exact ⟨_,d1,xs,zq7 _,hR1,hS1,(hpick.and zf8).step 0 fun m _ h σ=>zy7 hl h0 hx hs hn (h.1 σ) (by omega) (by omega) hk (h.2 _ σ (zdd (by omega)))⟩
  ·exact ⟨_,d1,xs,zb5b hn,hR1,hS1,hpick.step 0 fun m _ h σ=>zvr hl h0 hx hs hn (h σ) (by omega) (by omega) hk⟩
  ·exact ⟨_,d1,xs,zq6 _,hR1,hS1,(hpick.and zoq).step 0 fun m _ h σ=>zyy hl h0 hx hs hn (h.1 σ) (by omega) (by omega) hk (h.2 _ σ (zdd (by omega)))⟩
  ·exact ⟨_,d1,xs,zq6 _,hR1,hS1,(hpick.and zoq).step 0 fun m _ h σ=>zy0 hl h0 hx hs hn (h.1 σ) (by omega) (by omega) hk (h.2 _ σ (zdd (by omega)))⟩
  ·exact ⟨_,d3,xs3,zws hLa hLb,hR3,hS3,(hpick.and (ha.and (hb.and zso))).step 0 fun m _ h σ=>zy1 hl h0 hx hs hn (h.1 σ) (by omega) (by omega) hk (h.2.1 σ) (h.2.2.1 σ) (h.2.2.2 a b σ)⟩
  ·exact ⟨_,d3,xs3,zws hLa hLb,hR3,hS3,(hpick.and (ha.and (hb.and zso))).step 0 fun m _ h σ=>zy2 hl h0 hx hs hn (h.1 σ) (by omega) (by omega) hk (h.2.1 σ) (h.2.2.1 σ) (h.2.2.2 a b σ)⟩
  ·exact ⟨_,d3,xs3,zws hLa hLb,hR3,hS3,(hpick.and (ha.and (hb.and zso))).step 0 fun m _ h σ=>zy3 hl h0 hx hs hn (h.1 σ) (by omega) (by omega) hk (h.2.1 σ) (h.2.2.1 σ) (h.2.2.2 a b σ)⟩
  ·exact ⟨_,d3,xs3,zgnb hLa hLb,hR3,hS3,(hpick.and (ha.and (hb.and zsf))).step 0 fun m _ h σ=>zyv hl h0 hx hs hn (h.1 σ) (by omega) (by omega) hk (h.2.1 σ) (h.2.2.1 σ) (h.2.2.2 a b σ)⟩
  ·exact ⟨_,d3,xs3,zgnb hLa hLb,hR3,hS3,(hpick.and (ha.and (hb.and zsf))).step 0 fun m _ h σ=>zyw hl h0 hx hs hn (h.1 σ) (by omega) (by omega) hk (h.2.1 σ) (h.2.2.1 σ) (h.2.2.2 a b σ)⟩
theorem zhjb (d:D) (xs:List Int) (hR:Row d xs) (hS:zbj xs):∃ t,LB 5 t∧Evly fun n=>∀ σ,T n n_191 [d] σ=some (.ret ⟨false,dT t⟩,σ):=by
 obtain ⟨d1,hR1,o,h1⟩:=zl1 d xs 24 hR (by omega)
 obtain ⟨t,d2,xs2,hL,_,_,h2⟩:=zpw 5 0 (by omega) d1 _ hR1 (zhq hS 24)
 refine ⟨t,hL,(h1.and h2).step 0 fun m _ h σ=>?_⟩
 have e1:=h.1 σ
 have e2:=h.2 σ
 rw [T_fun (af:=a_139) rfl rfl]
 rw [dT_eq t] at e2 ⊢
 have l24:((24:Nat):Int)=24:=rfl
 simp only [cT,l24,zeroI] at e1 e2 ⊢
 simp only [a_139,sA,seval,kn,e1,e2]
end Go.Fu
namespace Go.Fu
open Go Go.Mx
set_option maxRecDepth 10000
def nms5:D:=dSs [[65],[66],[67],[68],[69]]
def clS (n:Nat):List UInt8:=match n with
 | 0=>[65]
 | 1=>[66]
 | 2=>[67]
 | 3=>[68]
 | _=>[69]
theorem zmcb (n:Nat):zaw 1 nms5 (n % 5)=some (.eptr (.str (clS (n % 5)))):=by
 have hk:n % 5=0∨n % 5=1∨n % 5=2∨n % 5=3∨n % 5=4:=by omega
 rcases hk with hk | hk | hk | hk | hk <;> rw [hk] <;> rfl
section
variable {C:CallF} {n:Nat} {σ:Store}
def Epr (o:Bool) (d:D) (out:List Pr):Env:={slots:=[(0,⟨o,d⟩),(1,⟨false,.int .i64 4⟩),(5,⟨false,nms5⟩),(7,⟨ow out.length,dlist k_1 (out.map dP)⟩)],locs:=[],boxes:=[],defers:=[]}
def Epe (o:Bool) (d:D) (out:List Pr):Env:={slots:=[(0,⟨o,d⟩),(1,⟨false,.int .i64 4⟩),(5,⟨false,nms5⟩),(7,⟨ow out.length,dlist k_1 (out.map dP)⟩),(25,⟨false,.bool false⟩)],locs:=[],boxes:=[],defers:=[]}
theorem zkrb (o:Bool) (d d1 d2:D) (l p:Nat) (t:Tp) (out:List Pr) (hl:lenOf d=some l) (h0:0 < l) (ho:out.length < 4) (hp:C n_13 [d,.int .i64 0] σ=some (.ret ⟨false,.int .i64 p⟩,σ)) (hs:za2 1 d 1 none=some d1)
  (hc:C n_8 [d1,.int .i64 1] σ=some (.ret ⟨false,.tup [dT t,d2]⟩,σ)):exec C n none a_53 (Epr o d out) σ=some (.normal,Epr false d2 (out ++ [⟨clS (p % 5),t⟩]),σ):=by
 have h1:((l:Int) > 0):=by omega
 have h2:((out.length:Int) < 4):=by omega
 have hm:((p:Int)).tmod 5=((p % 5:Nat):Int):=tmodN p 5
 have hx:=zmcb p
 have ha:=zvk out ⟨clS (p % 5),t⟩ (ow out.length) (by cases out with
  | nil=>intro h; exact absurd rfl h
  | cons x r=>intro _; rfl) (by omega)
 rw [dT_eq t] at hc
 have how:ow (out ++ [(⟨clS (p % 5),t⟩:Pr)]).length=true:=by simp [zd0]
 simp only [dP_eq,cT] at hc ha
 simp only [a_53,Epr,sA,seval,kn,List.length_map,hl,h1,h2,hp,hs,hc,hm,hx,ha,how]
theorem zkpb (o:Bool) (d:D) (out:List Pr) (hl:lenOf d=some 0):exec C n none a_53 (Epr o d out) σ=some (.exit 0,Epe o d out,σ):=by
 have h1:¬ (((0:Nat):Int) > 0):=by omega
 simp only [a_53,Epr,Epe,sA,seval,kn,List.length_map,hl,h1]
theorem zkqb (o:Bool) (d:D) (l:Nat) (out:List Pr) (hl:lenOf d=some l) (h0:0 < l) (ho:out.length=4):exec C n none a_53 (Epr o d out) σ=some (.exit 0,Epe o d out,σ):=by
 have h1:((l:Int) > 0):=by omega
 have h2:¬ ((out.length:Int) < 4):=by omega
 simp only [a_53,Epr,Epe,sA,seval,kn,List.length_map,hl,h1,h2]
end
def LP (p:Pr):Prop:=LA 3 p.ty∧p.cls.length≤1000
theorem zmbb (n:Nat):(clS n).length≤1000:=by
 unfold clS
 split <;> decide
theorem zrr:∀ (c:Nat) (o:Bool) (d:D) (xs:List Int) (out:List Pr),out.length + c=4→Row d xs→zbj xs→(∀ p∈out,LP p)→∃ o' d' out',(out'.length≤4∧∀ p∈out',LP p)∧Evly fun m=>∀ k σ,c + 1≤k→loopN (exec (T m) m none a_53) k (Epr o d out) σ=some (.exit 0,Epe o' d' out',σ)
 | c,o,d,[],out,hc,hR,hS,hL=>⟨o,d,out,⟨by omega,hL⟩,.all fun m k σ hk=>by
  obtain ⟨k,rfl⟩:∃ j,k=j + 1:=⟨k - 1,by omega⟩
  exact za6 (zkpb o d out (zd2 hR))⟩
 | 0,o,d,x :: xs,out,hc,hR,hS,hL=>⟨o,d,out,⟨by omega,hL⟩,.all fun m k σ hk=>by
  obtain ⟨k,rfl⟩:∃ j,k=j + 1:=⟨k - 1,by omega⟩
  exact za6 (zkqb o d _ out (zd2 hR) (by simp) hc)⟩
 | c + 1,o,d,x :: xs,out,hc,hR,hS,hL=>by
  obtain ⟨d1,hs,hR1⟩:=zjx hR
  have hS1:zbj xs:=fun y hy=>hS y (List.mem_cons_of_mem _ hy)
  obtain ⟨t,d2,xs2,hLt,hR2,hS2,_,ht⟩:=zsa 3 1 (by omega) d1 xs hR1 hS1
  have hpick:=zqg d _ hR hS
  obtain ⟨o',d',out',hl,hrest⟩:=zrr c false d2 xs2 (out ++ [⟨clS (pk (x :: xs) % 5),t⟩]) (by simp; omega) hR2 hS2 (fun p hp=>by
   rcases List.mem_append.1 hp with hp | hp
   ·exact hL p hp
   ·rw [List.mem_singleton.1 hp]; exact ⟨hLt,zmbb _⟩)
  refine ⟨o',d',out',hl,(hrest.and (ht.and hpick)).mono fun m h k σ hk=>?_⟩
  obtain ⟨k,rfl⟩:∃ j,k=j + 1:=⟨k - 1,by omega⟩
  rw [zb2 (zkrb o d d1 d2 _ _ t out (zd2 hR) (by simp) (by omega) (h.2.2 σ) hs (h.2.1 σ))]
  exact h.1 k σ (by omega)
theorem zhlb (d:D) (xs:List Int) (hR:Row d xs) (hS:zbj xs):∃ ps:List Pr,(ps.length≤4∧∀ p∈ps,LP p)∧Evly fun n=>∀ σ,T n n_192 [d,.int .i64 4] σ=some (.ret ⟨ow ps.length,dPs ps⟩,σ):=by
 obtain ⟨d1,hR1,o,h1⟩:=zl1 d xs 30 hR (by omega)
 obtain ⟨o',d',ps,hl,h2⟩:=zrr 4 o d1 _ [] (by simp) hR1 (zhq hS 30) (by simp)
 refine ⟨ps,hl,(h1.and (h2.and zg4b)).step 6 fun m hm h σ=>?_⟩
 have e1:=h.1 σ
 have e2:=h.2.1 m σ (by omega)
 have e3:=h.2.2 σ
 have l30:((30:Nat):Int)=30:=rfl
 rw [T_fun (af:=a_142) rfl rfl]
 simp only [l30,Epr,Epe,List.map_nil,zc0,List.length_nil,zd1,nms5] at e1 e2
 simp only [a_142,sA,seval,kn,e1,e2,e3,dPs]
end Go.Fu

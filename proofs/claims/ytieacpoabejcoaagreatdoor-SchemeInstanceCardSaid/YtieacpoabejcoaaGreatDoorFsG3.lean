/-
 Types in print: who has the same print is the same,where there are no functions' types.
-/
import Derived.Test.YtieacpoabejcoaaGreatDoorFsJ1
import Derived.Test.YtieacpoabejcoaaGreatDoorFsF1
import Derived.Test.YtieacpoabejcoaaGreatDoorFsF2
set_option maxHeartbeats 4000000
set_option linter.unusedSimpArgs false
set_option linter.unusedVariables false
set_option linter.unusedSectionVars false
namespace Go.Fu
open Go Go.Mx
set_option maxRecDepth 10000
def nT:Tp→Nat
 | .app f a=>nT f + nT a + 1
 | _=>1
def okV (s:List UInt8):Bool:=match s with
 | [c]=>decide (97≤c.toNat) && decide (c.toNat≤122)
 | _=>false
def conL:List (List UInt8):=[[73,110,116],[66,111,111,108],[76],[80]]
def okA:Tp→Bool
 | .hole x=>decide (0≤x) && decide (x < 6)
 | .var s=>okV s
 | .con c=>conL.contains c
 | .app f a=>okA f && okA a
def plainB (c:UInt8):Bool:=c != 32 && (c != 40 && c != 41)
theorem con_cases {c:List UInt8} (h:okA (.con c)=true):c=[73,110,116]∨c=[66,111,111,108]∨c=[76]∨c=[80]:=by
 have:c∈conL:=by simpa [okA] using h
 simpa [conL] using this
end Go.Fu
namespace Go.Fu
open Go Go.Mx
set_option maxRecDepth 10000
def tyB:Tp→Bool
 | .hole x=>decide (0≤x) && decide (x < 6)
 | .var s=>okV s
 | .con c=>decide (c.length≤6)
 | .app f a=>tyB f && tyB a
theorem tyB_of_okA:∀ t:Tp,okA t=true→tyB t=true
 | .hole x,h=>h
 | .var s,h=>h
 | .con c,h=>by rcases con_cases h with rfl | rfl | rfl | rfl <;> rfl
 | .app f a,h=>by
  simp only [okA,Bool.and_eq_true] at h
  simp only [tyB,Bool.and_eq_true]
  exact ⟨tyB_of_okA f h.1,tyB_of_okA a h.2⟩
def bz:Nat→Nat
 | 0=>1
 | r + 1=>2 * bz r + 3
theorem bz_pos:∀ r,1≤bz r
 | 0=>Nat.le_refl _
 | r + 1=>by have:=bz_pos r; simp only [bz]; omega
theorem nmS_ok (x:Int):okV (nmS x)=true:=by
 unfold nmS
 split <;> rfl
theorem cnS_ok (x:Int):(cnS x).length≤6:=by
 unfold cnS
 split <;> decide
def V5:List (List UInt8):=[[97],[98],[99],[120],[102]]
def v5T:Tp→Bool
 | .var s=>V5.contains s
 | .app f a=>v5T f && v5T a
 | _=>true
theorem nmS_v5 (x:Int):V5.contains (nmS x)=true:=by
 unfold nmS
 split <;> rfl
def LA (r:Nat) (t:Tp):Prop:=(okA t=true∧v5T t=true)∧nT t≤bz r
def LB (r:Nat) (t:Tp):Prop:=(tyB t=true∧v5T t=true)∧nT t≤bz r
theorem lw_var {r:Nat} (x:Int):LA r (.var (nmS x)):=⟨⟨nmS_ok x,nmS_v5 x⟩,bz_pos r⟩
theorem lw_int {r:Nat}:LA r (.con [73,110,116]):=⟨⟨rfl,rfl⟩,bz_pos r⟩
theorem lw_bool {r:Nat}:LA r (.con [66,111,111,108]):=⟨⟨rfl,rfl⟩,bz_pos r⟩
theorem lw_hole {r:Nat} (n:Nat):LA r (.hole ((1 + n % 2:Nat):Int)):=⟨⟨by simp only [okA,Bool.and_eq_true,decide_eq_true_eq]; omega,rfl⟩,bz_pos r⟩
theorem lw_L {r:Nat} {a:Tp} (h:LA r a):LA (r + 1) (.app (.con [76]) a):=by
 refine ⟨⟨by simp only [okA,Bool.and_eq_true]; exact ⟨rfl,h.1.1⟩,by simp only [v5T,Bool.and_eq_true,true_and]; exact h.1.2⟩,?_⟩
 have:=h.2
 simp only [nT,bz]; omega
theorem lw_i {r:Nat} {a:Tp} (h:LA r a):LA (r + 1) (.app (.con [73,110,116]) a):=by
 refine ⟨⟨by simp only [okA,Bool.and_eq_true]; exact ⟨rfl,h.1.1⟩,by simp only [v5T,Bool.and_eq_true,true_and]; exact h.1.2⟩,?_⟩
 have:=h.2
 simp only [nT,bz]; omega
theorem lw_f {r:Nat} {a:Tp} (h:LA r a):LA (r + 1) (.app (.var [102]) a):=by
 refine ⟨⟨by simp only [okA,Bool.and_eq_true]; exact ⟨rfl,h.1.1⟩,by simp only [v5T,Bool.and_eq_true]; exact ⟨rfl,h.1.2⟩⟩,?_⟩
 have:=h.2
 simp only [nT,bz]; omega
theorem lw_P {r:Nat} {a b:Tp} (h:LA r a) (h':LA r b):LA (r + 1) (.app (.app (.con [80]) a) b):=by
 refine ⟨⟨by simp only [okA,Bool.and_eq_true]; exact ⟨⟨rfl,h.1.1⟩,h'.1.1⟩,by simp only [v5T,Bool.and_eq_true,true_and]; exact ⟨h.1.2,h'.1.2⟩⟩,?_⟩
 have:=h.2
 have:=h'.2
 simp only [nT,bz]; omega
theorem lb_int {r:Nat}:LB r (.con [73,110,116]):=⟨⟨rfl,rfl⟩,bz_pos r⟩
theorem lb_var {r:Nat} (x:Int):LB r (.var (nmS x)):=⟨⟨nmS_ok x,nmS_v5 x⟩,bz_pos r⟩
theorem lb_con {r:Nat} (x:Int):LB r (.con (cnS x)):=⟨⟨by simp only [tyB,decide_eq_true_eq]; exact cnS_ok x,rfl⟩,bz_pos r⟩
theorem lb_hole {r n:Nat} (h:n < 40):LB r (.hole ((1 + n / 10:Nat):Int)):=⟨⟨by simp only [tyB,Bool.and_eq_true,decide_eq_true_eq]; omega,rfl⟩,bz_pos r⟩
theorem lb_fun {r:Nat} {a b:Tp} (h:LB r a) (h':LB r b):LB (r + 1) (.app (.app (.con [45,62]) a) b):=by
 refine ⟨⟨by simp only [tyB,Bool.and_eq_true]; exact ⟨⟨rfl,h.1.1⟩,h'.1.1⟩,by simp only [v5T,Bool.and_eq_true,true_and]; exact ⟨h.1.2,h'.1.2⟩⟩,?_⟩
 have:=h.2
 have:=h'.2
 simp only [nT,bz]; omega
theorem lb_app {r:Nat} {a b:Tp} (h:LB r a) (h':LB r b):LB (r + 1) (.app a b):=by
 refine ⟨⟨by simp only [tyB,Bool.and_eq_true]; exact ⟨h.1.1,h'.1.1⟩,by simp only [v5T,Bool.and_eq_true]; exact ⟨h.1.2,h'.1.2⟩⟩,?_⟩
 have:=h.2
 have:=h'.2
 simp only [nT,bz]; omega
theorem LA.toB {r:Nat} {t:Tp} (h:LA r t):LB (r + 1) t:=⟨⟨tyB_of_okA t h.1.1,h.1.2⟩,by have:=h.2; simp only [bz]; omega⟩
end Go.Fu
namespace Go.Fu
open Go Go.Mx
set_option maxRecDepth 10000
def Smalls (xs:List Int):Prop:=∀ x∈xs,Small x
theorem small_nat {n:Nat} (h:n < 1048576):Small (n:Int):=by unfold Small; omega
theorem tail_of {d:D} {xs:List Int} (h:Row d xs) (hs:Smalls xs):∃ d1 xs1,Tail d d1∧Row d1 xs1∧Smalls xs1∧xs1.length≤xs.length:=by
 have hl:=row_len h
 cases xs with
 | nil=>exact ⟨d,[],⟨0,hl,.inr ⟨rfl,rfl⟩⟩,h,hs,Nat.le_refl _⟩
 | cons x r =>
  obtain ⟨d',h1,h2⟩:=row_tail h
  exact ⟨d',r,⟨_,hl,.inl ⟨by simp,h1⟩⟩,h2,fun y hy=>hs y (List.mem_cons_of_mem _ hy),by simp⟩
def TypOK (r deep:Nat) (d:D) (xs:List Int):Prop:=∃ t d' xs',LA r t∧Row d' xs'∧Smalls xs'∧xs'.length≤xs.length∧Evly fun n=>∀ σ,T n n_8 [d,.int .i64 deep] σ=some (.ret ⟨false,.tup [dT t,d']⟩,σ)
theorem typ_ok:∀ (r deep:Nat),deep + r=4→∀ d xs,Row d xs→Smalls xs→TypOK r deep d xs
 | 0,deep,hr,d,xs,hR,hS=>by
  obtain ⟨d1,xs1,hT,hR1,hS1,hl1⟩:=tail_of hR hS
  have hpick:=pick_run d xs hR hS
  have hn:=pk_lt xs
  generalize pk xs=n at hpick hn
  have hk:n % 4=0∨n % 4=1∨n % 4=2∨n % 4=3:=by omega
  rcases hk with hk | hk | hk | hk
  ·exact ⟨_,d1,xs1,lw_var _,hR1,hS1,hl1,(hpick.and name_run).step 0 fun m _ h σ=>typ_var_0_d hT hn (h.1 σ) (by omega) (by omega) hk (h.2 _ σ (small_nat (by omega)))⟩
  ·exact ⟨_,d1,xs1,lw_int,hR1,hS1,hl1,hpick.step 0 fun m _ h σ=>typ_int_1_d hT hn (h σ) (by omega) (by omega) hk⟩
  ·exact ⟨_,d1,xs1,lw_bool,hR1,hS1,hl1,hpick.step 0 fun m _ h σ=>typ_bool_2_d hT hn (h σ) (by omega) (by omega) hk⟩
  ·exact ⟨_,d1,xs1,lw_hole _,hR1,hS1,hl1,hpick.step 0 fun m _ h σ=>typ_hole_3_d hT hn (h σ) (by omega) (by omega) hk⟩
 | r + 1,deep,hr,d,xs,hR,hS=>by
  obtain ⟨d1,xs1,hT,hR1,hS1,hl1⟩:=tail_of hR hS
  have hpick:=pick_run d xs hR hS
  have hn:=pk_lt xs
  generalize pk xs=n at hpick hn
  obtain ⟨a,d2,xs2,hLa,hR2,hS2,hl2,ha⟩:=typ_ok r (deep + 1) (by omega) d1 xs1 hR1 hS1
  have hk:n % 9=0∨n % 9=1∨n % 9=2∨n % 9=3∨n % 9=4∨n % 9=5∨n % 9=6∨n % 9=7∨n % 9=8:=by omega
  rcases hk with hk | hk | hk | hk | hk | hk | hk | hk | hk
  ·exact ⟨_,d1,xs1,lw_var _,hR1,hS1,hl1,(hpick.and name_run).step 0 fun m _ h σ=>typ_var_0_s hT hn (h.1 σ) (by omega) (by omega) hk (h.2 _ σ (small_nat (by omega)))⟩
  ·exact ⟨_,d1,xs1,lw_int,hR1,hS1,hl1,hpick.step 0 fun m _ h σ=>typ_int_1_s hT hn (h σ) (by omega) (by omega) hk⟩
  ·exact ⟨_,d1,xs1,lw_bool,hR1,hS1,hl1,hpick.step 0 fun m _ h σ=>typ_bool_2_s hT hn (h σ) (by omega) (by omega) hk⟩
  ·exact ⟨_,d1,xs1,lw_hole _,hR1,hS1,hl1,hpick.step 0 fun m _ h σ=>typ_hole_3_s hT hn (h σ) (by omega) (by omega) hk⟩
  ·exact ⟨_,d1,xs1,lw_var _,hR1,hS1,hl1,(hpick.and name_run).step 0 fun m _ h σ=>typ_var_4_s hT hn (h.1 σ) (by omega) (by omega) hk (h.2 _ σ (small_nat (by omega)))⟩
  ·exact ⟨_,d2,xs2,lw_L hLa,hR2,hS2,by omega,(hpick.and ha).step 0 fun m _ h σ=>typ_L_5_s hT hn (h.1 σ) (by omega) (by omega) hk (h.2 σ)⟩
  ·exact ⟨_,d2,xs2,lw_L hLa,hR2,hS2,by omega,(hpick.and ha).step 0 fun m _ h σ=>typ_L_6_s hT hn (h.1 σ) (by omega) (by omega) hk (h.2 σ)⟩
  ·obtain ⟨b,d3,xs3,hLb,hR3,hS3,hl3,hb⟩:=typ_ok r (deep + 1) (by omega) d2 xs2 hR2 hS2
   exact ⟨_,d3,xs3,lw_P hLa hLb,hR3,hS3,by omega,(hpick.and (ha.and hb)).step 0 fun m _ h σ=>typ_P_7_s hT hn (h.1 σ) (by omega) (by omega) hk (h.2.1 σ) (h.2.2 σ)⟩
  ·by_cases h3:n / 9 % 3=0
   ·exact ⟨_,d2,xs2,lw_i hLa,hR2,hS2,by omega,(hpick.and ha).step 0 fun m _ h σ=>typ_i_8_s hT hn (h.1 σ) (by omega) (by omega) hk h3 (h.2 σ)⟩
   ·exact ⟨_,d2,xs2,lw_f hLa,hR2,hS2,by omega,(hpick.and ha).step 0 fun m _ h σ=>typ_f_8_s hT hn (h.1 σ) (by omega) (by omega) hk h3 (h.2 σ)⟩
theorem smalls_take {xs:List Int} (h:Smalls xs) (m:Nat):Smalls (xs.take m):=fun x hx=>h x (List.mem_of_mem_take hx)
theorem type_run (d:D) (xs:List Int) (hR:Row d xs) (hS:Smalls xs):∃ t,LA 4 t∧Evly fun n=>∀ σ,T n n_104 [d] σ=some (.ret ⟨false,dT t⟩,σ):=by
 obtain ⟨d1,hR1,o,h1⟩:=ints_run d xs 12 hR (by omega)
 obtain ⟨t,d2,xs2,hL,_,_,_,h2⟩:=typ_ok 4 0 (by omega) d1 _ hR1 (smalls_take hS 12)
 refine ⟨t,hL,(h1.and h2).step 0 fun m _ h σ=>?_⟩
 have e1:=h.1 σ
 have e2:=h.2 σ
 rw [T_fun (af:=a_161) rfl rfl]
 rw [dT_eq t] at e2 ⊢
 have l12:((12:Nat):Int)=12:=rfl
 simp only [cT,l12,zeroI] at e1 e2 ⊢
 simp only [a_161,sA,Nat.reduceAdd,Nat.reduceSub,Nat.reduceMul,Nat.reduceBEq,Nat.reduceLeDiff,Int.reduceBEq,Int.reduceBNe,Int.reduceLE,Int.reduceLT,Int.reduceGE,Int.reduceGT,Int.reduceNeg,kn,e1,e2]
def BldOK (r deep:Nat) (d:D) (xs:List Int):Prop:=∃ t d' xs',LB r t∧Row d' xs'∧Smalls xs'∧Evly fun n=>∀ σ,T n n_7 [d,.int .i64 deep,.bool false] σ=some (.ret ⟨false,.tup [dT t,d']⟩,σ)
theorem build_ok:∀ (r deep:Nat),deep + r=5→∀ d xs,Row d xs→Smalls xs→BldOK r deep d xs
 | _,deep,_,d,[],hR,hS=>⟨_,d,[],lb_int,hR,hS,any _ fun n σ=>bld_nil (row_len hR)⟩
 | 0,deep,hr,d,x :: xs,hR,hS=>by
  obtain ⟨d1,hs,hR1⟩:=row_tail hR
  have hS1:Smalls xs:=fun y hy=>hS y (List.mem_cons_of_mem _ hy)
  have hl:=row_len hR
  have hx:=row_get hR 0 (by simp)
  have h0:0 < (x :: xs).length:=by simp
  simp only [List.getElem_cons_zero] at hx
  have hpick:Evly fun n=>∀ σ,T n n_4 [.int .i64 x,.int .i64 40] σ=some (.ret ⟨false,.int .i64 (aro x 40)⟩,σ):=aroundL.mono fun n h σ=>h x 40 40 σ (hS x (by simp)) rfl (by omega) (by omega)
  have hn:=aro_lt x (m:=40) (by omega)
  generalize aro x 40=n at hpick hn
  have hk:n % 5=0∨n % 5=1∨n % 5=2∨n % 5=3∨n % 5=4:=by omega
  rcases hk with hk | hk | hk | hk | hk
  ·exact ⟨_,d1,xs,lb_var _,hR1,hS1,(hpick.and name_run).step 0 fun m _ h σ=>bld_var_0_d hl h0 hx hs hn (h.1 σ) (by omega) (by omega) hk (h.2 _ σ (small_nat (by omega)))⟩
  ·exact ⟨_,d1,xs,lb_var _,hR1,hS1,(hpick.and name_run).step 0 fun m _ h σ=>bld_var_1_d hl h0 hx hs hn (h.1 σ) (by omega) (by omega) hk (h.2 _ σ (small_nat (by omega)))⟩
  ·exact ⟨_,d1,xs,lb_hole hn,hR1,hS1,hpick.step 0 fun m _ h σ=>bld_hole_2_d hl h0 hx hs hn (h σ) (by omega) (by omega) hk⟩
  ·exact ⟨_,d1,xs,lb_con _,hR1,hS1,(hpick.and con_run).step 0 fun m _ h σ=>bld_con_3_d hl h0 hx hs hn (h.1 σ) (by omega) (by omega) hk (h.2 _ σ (small_nat (by omega)))⟩
  ·exact ⟨_,d1,xs,lb_con _,hR1,hS1,(hpick.and con_run).step 0 fun m _ h σ=>bld_con_4_d hl h0 hx hs hn (h.1 σ) (by omega) (by omega) hk (h.2 _ σ (small_nat (by omega)))⟩
 | r + 1,deep,hr,d,x :: xs,hR,hS=>by
  obtain ⟨d1,hs,hR1⟩:=row_tail hR
  have hS1:Smalls xs:=fun y hy=>hS y (List.mem_cons_of_mem _ hy)
  have hl:=row_len hR
  have hx:=row_get hR 0 (by simp)
  have h0:0 < (x :: xs).length:=by simp
  simp only [List.getElem_cons_zero] at hx
  have hpick:Evly fun n=>∀ σ,T n n_4 [.int .i64 x,.int .i64 40] σ=some (.ret ⟨false,.int .i64 (aro x 40)⟩,σ):=aroundL.mono fun n h σ=>h x 40 40 σ (hS x (by simp)) rfl (by omega) (by omega)
  have hn:=aro_lt x (m:=40) (by omega)
  generalize aro x 40=n at hpick hn
  obtain ⟨a,d2,xs2,hLa,hR2,hS2,ha⟩:=build_ok r (deep + 1) (by omega) d1 xs hR1 hS1
  obtain ⟨b,d3,xs3,hLb,hR3,hS3,hb⟩:=build_ok r (deep + 1) (by omega) d2 xs2 hR2 hS2
  have hk:n % 10=0∨n % 10=1∨n % 10=2∨n % 10=3∨n % 10=4∨n % 10=5∨n % 10=6∨n % 10=7∨n % 10=8∨n % 10=9:=by omega
  rcases hk with hk | hk | hk | hk | hk | hk | hk | hk | hk | hk
  ·exact ⟨_,d1,xs,lb_var _,hR1,hS1,(hpick.and name_run).step 0 fun m _ h σ=>bld_var_0_s hl h0 hx hs hn (h.1 σ) (by omega) (by omega) hk (h.2 _ σ (small_nat (by omega)))⟩
  ·exact ⟨_,d1,xs,lb_var _,hR1,hS1,(hpick.and name_run).step 0 fun m _ h σ=>bld_var_1_s hl h0 hx hs hn (h.1 σ) (by omega) (by omega) hk (h.2 _ σ (small_nat (by omega)))⟩
  ·exact ⟨_,d1,xs,lb_hole hn,hR1,hS1,hpick.step 0 fun m _ h σ=>bld_hole_2_s hl h0 hx hs hn (h σ) (by omega) (by omega) hk⟩
  ·exact ⟨_,d1,xs,lb_con _,hR1,hS1,(hpick.and con_run).step 0 fun m _ h σ=>bld_con_3_s hl h0 hx hs hn (h.1 σ) (by omega) (by omega) hk (h.2 _ σ (small_nat (by omega)))⟩
  ·exact ⟨_,d1,xs,lb_con _,hR1,hS1,(hpick.and con_run).step 0 fun m _ h σ=>bld_con_4_s hl h0 hx hs hn (h.1 σ) (by omega) (by omega) hk (h.2 _ σ (small_nat (by omega)))⟩
  ·exact ⟨_,d3,xs3,lb_fun hLa hLb,hR3,hS3,(hpick.and (ha.and (hb.and fun_run))).step 0 fun m _ h σ=>bld_fun_5_s hl h0 hx hs hn (h.1 σ) (by omega) (by omega) hk (h.2.1 σ) (h.2.2.1 σ) (h.2.2.2 a b σ)⟩
  ·exact ⟨_,d3,xs3,lb_fun hLa hLb,hR3,hS3,(hpick.and (ha.and (hb.and fun_run))).step 0 fun m _ h σ=>bld_fun_6_s hl h0 hx hs hn (h.1 σ) (by omega) (by omega) hk (h.2.1 σ) (h.2.2.1 σ) (h.2.2.2 a b σ)⟩
  ·exact ⟨_,d3,xs3,lb_fun hLa hLb,hR3,hS3,(hpick.and (ha.and (hb.and fun_run))).step 0 fun m _ h σ=>bld_fun_7_s hl h0 hx hs hn (h.1 σ) (by omega) (by omega) hk (h.2.1 σ) (h.2.2.1 σ) (h.2.2.2 a b σ)⟩
  ·exact ⟨_,d3,xs3,lb_app hLa hLb,hR3,hS3,(hpick.and (ha.and (hb.and app_run))).step 0 fun m _ h σ=>bld_app_8_s hl h0 hx hs hn (h.1 σ) (by omega) (by omega) hk (h.2.1 σ) (h.2.2.1 σ) (h.2.2.2 a b σ)⟩
  ·exact ⟨_,d3,xs3,lb_app hLa hLb,hR3,hS3,(hpick.and (ha.and (hb.and app_run))).step 0 fun m _ h σ=>bld_app_9_s hl h0 hx hs hn (h.1 σ) (by omega) (by omega) hk (h.2.1 σ) (h.2.2.1 σ) (h.2.2.2 a b σ)⟩
theorem plain_run (d:D) (xs:List Int) (hR:Row d xs) (hS:Smalls xs):∃ t,LB 5 t∧Evly fun n=>∀ σ,T n n_198 [d] σ=some (.ret ⟨false,dT t⟩,σ):=by
 obtain ⟨d1,hR1,o,h1⟩:=ints_run d xs 24 hR (by omega)
 obtain ⟨t,d2,xs2,hL,_,_,h2⟩:=build_ok 5 0 (by omega) d1 _ hR1 (smalls_take hS 24)
 refine ⟨t,hL,(h1.and h2).step 0 fun m _ h σ=>?_⟩
 have e1:=h.1 σ
 have e2:=h.2 σ
 rw [T_fun (af:=a_156) rfl rfl]
 rw [dT_eq t] at e2 ⊢
 have l24:((24:Nat):Int)=24:=rfl
 simp only [cT,l24,zeroI] at e1 e2 ⊢
 simp only [a_156,sA,Nat.reduceAdd,Nat.reduceSub,Nat.reduceMul,Nat.reduceBEq,Nat.reduceLeDiff,Int.reduceBEq,Int.reduceBNe,Int.reduceLE,Int.reduceLT,Int.reduceGE,Int.reduceGT,Int.reduceNeg,kn,e1,e2]
end Go.Fu
namespace Go.Fu
open Go Go.Mx
set_option maxRecDepth 10000
def nms5:D:=dSs [[65],[66],[67],[68],[69]]
def clS (n:Nat):List UInt8:=match n with
 | 0=>[65]
 | 1=>[66]
 | 2=>[67]
 | 3=>[68]
 | _=>[69]
theorem cls_get (n:Nat):indexD 1 nms5 (n % 5)=some (.eptr (.str (clS (n % 5)))):=by
 have hk:n % 5=0∨n % 5=1∨n % 5=2∨n % 5=3∨n % 5=4:=by omega
 rcases hk with hk | hk | hk | hk | hk <;> rw [hk] <;> rfl
section
variable {C:CallF} {n:Nat} {σ:Store}
def Epr (o:Bool) (d:D) (out:List Pr):Env:={slots:=[(0,⟨o,d⟩),(1,⟨false,.int .i64 4⟩),(5,⟨false,nms5⟩),(7,⟨ow out.length,dlist k_3 (out.map dP)⟩)],locs:=[],boxes:=[],defers:=[]}
def Epe (o:Bool) (d:D) (out:List Pr):Env:={slots:=[(0,⟨o,d⟩),(1,⟨false,.int .i64 4⟩),(5,⟨false,nms5⟩),(7,⟨ow out.length,dlist k_3 (out.map dP)⟩),(25,⟨false,.bool false⟩)],locs:=[],boxes:=[],defers:=[]}
theorem lpr_step (o:Bool) (d d1 d2:D) (l p:Nat) (t:Tp) (out:List Pr) (hl:lenOf d=some l) (h0:0 < l) (ho:out.length < 4) (hp:C n_11 [d,.int .i64 0] σ=some (.ret ⟨false,.int .i64 p⟩,σ)) (hs:sliceD 1 d 1 none=some d1)
  (hc:C n_8 [d1,.int .i64 1] σ=some (.ret ⟨false,.tup [dT t,d2]⟩,σ)):exec C n none a_47 (Epr o d out) σ=some (.normal,Epr false d2 (out ++ [⟨clS (p % 5),t⟩]),σ):=by
 have h1:((l:Int) > 0):=by omega
 have h2:((out.length:Int) < 4):=by omega
 have hm:((p:Int)).tmod 5=((p % 5:Nat):Int):=tmodN p 5
 have hx:=cls_get p
 have ha:=append_P out ⟨clS (p % 5),t⟩ (ow out.length) (by cases out with
  | nil=>intro h; exact absurd rfl h
  | cons x r=>intro _; rfl) (by omega)
 rw [dT_eq t] at hc
 have how:ow (out ++ [(⟨clS (p % 5),t⟩:Pr)]).length=true:=by simp [ow_succ]
 simp only [dP_eq,cT] at hc ha
 simp only [a_47,Epr,sA,Nat.reduceAdd,Nat.reduceSub,Nat.reduceMul,Nat.reduceBEq,Nat.reduceLeDiff,Int.reduceBEq,Int.reduceBNe,Int.reduceLE,Int.reduceLT,Int.reduceGE,Int.reduceGT,Int.reduceNeg,kn,List.length_map,hl,h1,h2,hp,hs,hc,hm,hx,ha,how]
theorem lpr_end0 (o:Bool) (d:D) (out:List Pr) (hl:lenOf d=some 0):exec C n none a_47 (Epr o d out) σ=some (.exit 0,Epe o d out,σ):=by
 have h1:¬ (((0:Nat):Int) > 0):=by omega
 simp only [a_47,Epr,Epe,sA,Nat.reduceAdd,Nat.reduceSub,Nat.reduceMul,Nat.reduceBEq,Nat.reduceLeDiff,Int.reduceBEq,Int.reduceBNe,Int.reduceLE,Int.reduceLT,Int.reduceGE,Int.reduceGT,Int.reduceNeg,kn,List.length_map,hl,h1]
theorem lpr_end4 (o:Bool) (d:D) (l:Nat) (out:List Pr) (hl:lenOf d=some l) (h0:0 < l) (ho:out.length=4):exec C n none a_47 (Epr o d out) σ=some (.exit 0,Epe o d out,σ):=by
 have h1:((l:Int) > 0):=by omega
 have h2:¬ ((out.length:Int) < 4):=by omega
 simp only [a_47,Epr,Epe,sA,Nat.reduceAdd,Nat.reduceSub,Nat.reduceMul,Nat.reduceBEq,Nat.reduceLeDiff,Int.reduceBEq,Int.reduceBNe,Int.reduceLE,Int.reduceLT,Int.reduceGE,Int.reduceGT,Int.reduceNeg,kn,List.length_map,hl,h1,h2]
end
def LP (p:Pr):Prop:=LA 3 p.ty∧p.cls.length≤1000
theorem clS_len (n:Nat):(clS n).length≤1000:=by
 unfold clS
 split <;> decide
theorem preds_loop:∀ (c:Nat) (o:Bool) (d:D) (xs:List Int) (out:List Pr),out.length + c=4→Row d xs→Smalls xs→(∀ p∈out,LP p)→∃ o' d' out',(out'.length≤4∧∀ p∈out',LP p)∧Evly fun m=>∀ k σ,c + 1≤k→loopN (exec (T m) m none a_47) k (Epr o d out) σ=some (.exit 0,Epe o' d' out',σ)
 | c,o,d,[],out,hc,hR,hS,hL=>⟨o,d,out,⟨by omega,hL⟩,.all fun m k σ hk=>by
  obtain ⟨k,rfl⟩:∃ j,k=j + 1:=⟨k - 1,by omega⟩
  exact loopN_one (lpr_end0 o d out (row_len hR))⟩
 | 0,o,d,x :: xs,out,hc,hR,hS,hL=>⟨o,d,out,⟨by omega,hL⟩,.all fun m k σ hk=>by
  obtain ⟨k,rfl⟩:∃ j,k=j + 1:=⟨k - 1,by omega⟩
  exact loopN_one (lpr_end4 o d _ out (row_len hR) (by simp) hc)⟩
 | c + 1,o,d,x :: xs,out,hc,hR,hS,hL=>by
  obtain ⟨d1,hs,hR1⟩:=row_tail hR
  have hS1:Smalls xs:=fun y hy=>hS y (List.mem_cons_of_mem _ hy)
  obtain ⟨t,d2,xs2,hLt,hR2,hS2,_,ht⟩:=typ_ok 3 1 (by omega) d1 xs hR1 hS1
  have hpick:=pick_run d _ hR hS
  obtain ⟨o',d',out',hl,hrest⟩:=preds_loop c false d2 xs2 (out ++ [⟨clS (pk (x :: xs) % 5),t⟩]) (by simp; omega) hR2 hS2 (fun p hp=>by
   rcases List.mem_append.1 hp with hp | hp
   ·exact hL p hp
   ·rw [List.mem_singleton.1 hp]; exact ⟨hLt,clS_len _⟩)
  refine ⟨o',d',out',hl,(hrest.and (ht.and hpick)).mono fun m h k σ hk=>?_⟩
  obtain ⟨k,rfl⟩:∃ j,k=j + 1:=⟨k - 1,by omega⟩
  rw [loopN_more (lpr_step o d d1 d2 _ _ t out (row_len hR) (by simp) (by omega) (h.2.2 σ) hs (h.2.1 σ))]
  exact h.1 k σ (by omega)
theorem preds_run (d:D) (xs:List Int) (hR:Row d xs) (hS:Smalls xs):∃ ps:List Pr,(ps.length≤4∧∀ p∈ps,LP p)∧Evly fun n=>∀ σ,T n n_200 [d,.int .i64 4] σ=some (.ret ⟨ow ps.length,dPs ps⟩,σ):=by
 obtain ⟨d1,hR1,o,h1⟩:=ints_run d xs 30 hR (by omega)
 obtain ⟨o',d',ps,hl,h2⟩:=preds_loop 4 o d1 _ [] (by simp) hR1 (smalls_take hS 30) (by simp)
 refine ⟨ps,hl,(h1.and (h2.and names_run)).step 6 fun m hm h σ=>?_⟩
 have e1:=h.1 σ
 have e2:=h.2.1 m σ (by omega)
 have e3:=h.2.2 σ
 have l30:((30:Nat):Int)=30:=rfl
 rw [T_fun (af:=a_160) rfl rfl]
 simp only [l30,Epr,Epe,List.map_nil,dlist_nil,List.length_nil,ow_zero,nms5] at e1 e2
 simp only [a_160,sA,Nat.reduceAdd,Nat.reduceSub,Nat.reduceMul,Nat.reduceBEq,Nat.reduceLeDiff,Int.reduceBEq,Int.reduceBNe,Int.reduceLE,Int.reduceLT,Int.reduceGE,Int.reduceGT,Int.reduceNeg,kn,e1,e2,e3,dPs]
end Go.Fu
namespace Go.Fu
open Go Go.Mx
set_option maxRecDepth 10000
def OkK (es:List D):Prop:=∀ e∈es,e.ok=true∧e.cells.length=1
def KOK (deep:Nat) (d:D) (xs:List Int):Prop:=∃ es d' xs',OkK es∧es.length≤2∧Row d' xs'∧Smalls xs'∧Evly fun n=>∀ σ,T n n_183 [d,.int .i64 deep] σ=some (.ret ⟨false,.tup [.agg [dlist k_5 es],d']⟩,σ)
section
variable {C:CallF} {n:Nat} {σ:Store}
def Ek (d:D) (deep q i:Nat) (es:List D):Env:={slots:=[(0,⟨false,d⟩),(1,⟨false,.int .i64 deep⟩),(7,⟨false,.int .i64 q⟩),(8,⟨false,.int .i64 i⟩)],locs:=[(4,4,0),(6,6,0)],boxes:=[(4,[⟨false,.nils⟩]),(6,[⟨ow es.length,dlist k_5 es⟩])],defers:=[]}
def Eke (d:D) (deep q i:Nat) (es:List D):Env:={slots:=[(0,⟨false,d⟩),(1,⟨false,.int .i64 deep⟩),(7,⟨false,.int .i64 q⟩),(8,⟨false,.int .i64 i⟩),(30,⟨false,.bool false⟩)],locs:=[(4,4,0),(6,6,0)],boxes:=[(4,[⟨false,.nils⟩]),(6,[⟨ow es.length,dlist k_5 es⟩])],defers:=[]}
theorem ok_agg1 (es:List D):(D.agg [dlist k_5 es]).ok=true∧(D.agg [dlist k_5 es]).cells.length=1:=by
 constructor
 ·simp only [D.ok,List.all_cons,one_dlist,List.all_nil,Bool.and_self]
 ·rfl
theorem lk_step (d d2:D) (deep q i:Nat) (es es2:List D) (hi:i < q) (hq:q≤2) (hdp:deep < 100) (hes:es.length=i) (hc:C n_183 [d,.int .i64 (deep + 1:Nat)] σ=some (.ret ⟨false,.tup [.agg [dlist k_5 es2],d2]⟩,σ)) :
  exec C n none a_79 (Ek d deep q i es) σ=some (.normal,Ek d2 deep q (i + 1) (es ++ [.agg [dlist k_5 es2]]),σ):=by
 have h1:((i:Int) < (q:Int)):=by omega
 have w1:=wrap64_succ (i:=deep) (by omega)
 have w2:=wrap64_succ (i:=i) (by omega)
 have ha:=append_one (r:=k_5) (by_:=24) (es:=es) (o:=ow es.length) (y:=.agg [dlist k_5 es2]) (by cases es with
  | nil=>intro h; exact absurd rfl h
  | cons x r=>intro _; rfl) (ok_agg1 es2).1 (ok_agg1 es2).2 (by simp [bound]; omega) (by simp [bound]; omega)
 have how:ow (es ++ [D.agg [dlist k_5 es2]]).length=true:=by simp [ow_succ]
 simp only [a_79,Ek,sA,Nat.reduceAdd,Nat.reduceSub,Nat.reduceMul,Nat.reduceBEq,Nat.reduceLeDiff,Int.reduceBEq,Int.reduceBNe,Int.reduceLE,Int.reduceLT,Int.reduceGE,Int.reduceGT,Int.reduceNeg,kn,h1,w1,w2,hc,ha,how]
theorem lk_end (d:D) (deep q:Nat) (es:List D):exec C n none a_79 (Ek d deep q q es) σ=some (.exit 0,Eke d deep q q es,σ):=by
 have h1:¬ ((q:Int) < (q:Int)):=by omega
 simp only [a_79,Ek,Eke,sA,Nat.reduceAdd,Nat.reduceSub,Nat.reduceMul,Nat.reduceBEq,Nat.reduceLeDiff,Int.reduceBEq,Int.reduceBNe,Int.reduceLE,Int.reduceLT,Int.reduceGE,Int.reduceGT,Int.reduceNeg,kn,h1]
end
theorem okK_snoc {es:List D} (h:OkK es) (es2:List D):OkK (es ++ [.agg [dlist k_5 es2]]):=by
 intro e he
 rcases List.mem_append.1 he with he | he
 ·exact h e he
 ·rw [List.mem_singleton.1 he]; exact ok_agg1 es2
theorem kind_loop (deep q:Nat) (hq:q≤2) (hdp:deep < 100) (H:∀ d xs,Row d xs→Smalls xs→KOK (deep + 1) d xs):∀ (c i:Nat) (d:D) (xs:List Int) (es:List D),i + c=q→Row d xs→Smalls xs→OkK es→es.length=i →
  ∃ d' xs' es',Row d' xs'∧Smalls xs'∧OkK es'∧es'.length≤2∧Evly fun m=>∀ k σ,c + 1≤k→loopN (exec (T m) m none a_79) k (Ek d deep q i es) σ=some (.exit 0,Eke d' deep q q es',σ)
 | 0,i,d,xs,es,hc,hR,hS,hK,hl=>⟨d,xs,es,hR,hS,hK,by omega,.all fun m k σ hk=>by
  obtain ⟨k,rfl⟩:∃ j,k=j + 1:=⟨k - 1,by omega⟩
  have:i=q:=by omega
  subst this
  exact loopN_one (lk_end d deep i es)⟩
 | c + 1,i,d,xs,es,hc,hR,hS,hK,hl=>by
  obtain ⟨es2,d2,xs2,hK2,_,hR2,hS2,h2⟩:=H d xs hR hS
  obtain ⟨d',xs',es',hR',hS',hK',hl',hrest⟩:=kind_loop deep q hq hdp H c (i + 1) d2 xs2 _ (by omega) hR2 hS2 (okK_snoc hK es2) (by simp; omega)
  refine ⟨d',xs',es',hR',hS',hK',hl',(hrest.and h2).mono fun m h k σ hk=>?_⟩
  obtain ⟨k,rfl⟩:∃ j,k=j + 1:=⟨k - 1,by omega⟩
  rw [loopN_more (lk_step d d2 deep q i es es2 (by omega) hq hdp hl (h.2 σ))]
  exact h.1 k σ (by omega)
theorem kmade_ok:∀ (r deep:Nat),deep + r=4→∀ d xs,Row d xs→Smalls xs→KOK deep d xs
 | _,deep,hr,d,[],hR,hS=>by
  refine ⟨[],d,[],(fun e he=>by cases he),by simp,hR,hS,any _ fun n σ=>?_⟩
  have hl:=row_len hR
  rw [T_fun (af:=a_26) rfl rfl]
  simp only [List.length_nil] at hl
  simp only [a_26,sA,Nat.reduceAdd,Nat.reduceSub,Nat.reduceMul,Nat.reduceBEq,Nat.reduceLeDiff,Int.reduceBEq,Int.reduceBNe,Int.reduceLE,Int.reduceLT,Int.reduceGE,Int.reduceGT,Int.reduceNeg,kn,hl,zeroI,lit1,lit2,lit3,lit4,lit5,lit6,lit7,lit8,dlist_nil]
 | 0,deep,hr,d,x :: xs,hR,hS=>by
  refine ⟨[],d,_,(fun e he=>by cases he),by simp,hR,hS,any _ fun n σ=>?_⟩
  have hl:=row_len hR
  have hdp:(deep:Int) > 3:=by omega
  have hne:((((x :: xs).length:Nat):Int) == 0)=false:=by simp; omega
  rw [T_fun (af:=a_26) rfl rfl]
  generalize (x :: xs).length=l at hl hne
  simp only [a_26,sA,Nat.reduceAdd,Nat.reduceSub,Nat.reduceMul,Nat.reduceBEq,Nat.reduceLeDiff,Int.reduceBEq,Int.reduceBNe,Int.reduceLE,Int.reduceLT,Int.reduceGE,Int.reduceGT,Int.reduceNeg,kn,hl,hdp,hne,dlist_nil]
 | r + 1,deep,hr,d,x :: xs,hR,hS=>by
  obtain ⟨d1,hs,hR1⟩:=row_tail hR
  have hS1:Smalls xs:=fun y hy=>hS y (List.mem_cons_of_mem _ hy)
  have hl:=row_len hR
  have hx:=row_get hR 0 (by simp)
  simp only [List.getElem_cons_zero] at hx
  have hpick:Evly fun n=>∀ σ,T n n_4 [.int .i64 x,.int .i64 4] σ=some (.ret ⟨false,.int .i64 (aro x 4)⟩,σ):=aroundL.mono fun n h σ=>h x 4 4 σ (hS x (by simp)) rfl (by omega) (by omega)
  have hn:=aro_lt x (m:=4) (by omega)
  generalize aro x 4=n at hpick hn
  have hdp:¬ ((deep:Int) > 3):=by omega
  have hne:((((x :: xs).length:Nat):Int) == 0)=false:=by simp; omega
  generalize (x :: xs).length=l at hl hne
  have H:∀ d xs,Row d xs→Smalls xs→KOK (deep + 1) d xs:=fun d xs h1 h2=>kmade_ok r (deep + 1) (by omega) d xs h1 h2
  by_cases h3:n≤2
  ·obtain ⟨d',xs',es',hR',hS',hK',hl',hloop⟩:=kind_loop deep n h3 (by omega) H n 0 d1 xs [] (by omega) hR1 hS1 (fun e he=>by cases he) rfl
   refine ⟨es',d',xs',hK',hl',hR',hS',(hpick.and hloop).step 4 fun m hm h σ=>?_⟩
   have e1:=h.1 σ
   have e2:=h.2 m σ (by omega)
   have hn2:¬ ((n:Int) > 2):=by omega
   rw [T_fun (af:=a_26) rfl rfl]
   simp only [Ek,Eke,dlist_nil,List.length_nil,ow_zero,zeroI] at e2
   simp only [a_26,sA,Nat.reduceAdd,Nat.reduceSub,Nat.reduceMul,Nat.reduceBEq,Nat.reduceLeDiff,Int.reduceBEq,Int.reduceBNe,Int.reduceLE,Int.reduceLT,Int.reduceGE,Int.reduceGT,Int.reduceNeg,kn,hl,hx,hs,e1,e2,hne,hdp,hn2]
  ·obtain ⟨d',xs',es',hR',hS',hK',hl',hloop⟩:=kind_loop deep 0 (by omega) (by omega) H 0 0 d1 xs [] (by omega) hR1 hS1 (fun e he=>by cases he) rfl
   refine ⟨es',d',xs',hK',hl',hR',hS',(hpick.and hloop).step 4 fun m hm h σ=>?_⟩
   have e1:=h.1 σ
   have e2:=h.2 m σ (by omega)
   have hn2:((n:Int) > 2):=by omega
   rw [T_fun (af:=a_26) rfl rfl]
   simp only [Ek,Eke,dlist_nil,List.length_nil,ow_zero,zeroI] at e2
   simp only [a_26,sA,Nat.reduceAdd,Nat.reduceSub,Nat.reduceMul,Nat.reduceBEq,Nat.reduceLeDiff,Int.reduceBEq,Int.reduceBNe,Int.reduceLE,Int.reduceLT,Int.reduceGE,Int.reduceGT,Int.reduceNeg,kn,hl,hx,hs,e1,e2,hne,hdp,hn2]
theorem kind_run (d:D) (xs:List Int) (hR:Row d xs) (hS:Smalls xs):∃ es,Evly fun n=>∀ σ,T n n_133 [d] σ=some (.ret ⟨false,.agg [dlist k_5 es]⟩,σ):=by
 obtain ⟨d1,hR1,o,h1⟩:=ints_run d xs 12 hR (by omega)
 obtain ⟨es,d2,xs2,_,_,_,_,h2⟩:=kmade_ok 4 0 (by omega) d1 _ hR1 (smalls_take hS 12)
 refine ⟨es,(h1.and h2).step 0 fun m _ h σ=>?_⟩
 have e1:=h.1 σ
 have e2:=h.2 σ
 rw [T_fun (af:=a_152) rfl rfl]
 have l12:((12:Nat):Int)=12:=rfl
 simp only [l12,zeroI] at e1 e2 ⊢
 simp only [a_152,sA,Nat.reduceAdd,Nat.reduceSub,Nat.reduceMul,Nat.reduceBEq,Nat.reduceLeDiff,Int.reduceBEq,Int.reduceBNe,Int.reduceLE,Int.reduceLT,Int.reduceGE,Int.reduceGT,Int.reduceNeg,kn,e1,e2]
end Go.Fu

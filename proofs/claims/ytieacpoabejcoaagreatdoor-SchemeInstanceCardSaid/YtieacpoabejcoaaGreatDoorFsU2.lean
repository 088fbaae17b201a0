/-
 Schemes are made,whatever the numbers.
-/
import Derived.Test.YtieacpoabejcoaaGreatDoorFsG3
import Derived.Test.YtieacpoabejcoaaGreatDoorFsY5
set_option maxHeartbeats 4000000
set_option linter.unusedSimpArgs false
set_option linter.unusedVariables false
set_option linter.unusedSectionVars false
namespace Go.Fu
open Go Go.Mx
set_option maxRecDepth 10000
def vnS (n:Nat):List UInt8:=match n with
 | 0=>[97]
 | 1=>[98]
 | 2=>[99]
 | 3=>[120]
 | _=>[102]
theorem vn_get (n:Nat):nth [D.str [97],D.str [98],D.str [99],D.str [120],D.str [102]] (n % 5)=some (.str (vnS (n % 5))):=by
 have hk:n % 5=0∨n % 5=1∨n % 5=2∨n % 5=3∨n % 5=4:=by omega
 rcases hk with hk | hk | hk | hk | hk <;> rw [hk] <;> rfl
def vnL (a:Nat):Nat→List (List UInt8)
 | 0=>[]
 | i + 1=>vnL a i ++ [vnS ((i + a) % 5)]
theorem vnL_len (a:Nat):∀ i,(vnL a i).length=i
 | 0=>rfl
 | i + 1=>by simp [vnL,vnL_len a i]
theorem vnS_ok (n:Nat):okV (vnS n)=true:=by
 unfold vnS
 split <;> rfl
theorem vnL_ok (a:Nat):∀ q,∀ v∈vnL a q,okV v=true
 | 0,v,h=>by simp [vnL] at h
 | i + 1,v,h=>by
  simp only [vnL,List.mem_append,List.mem_singleton] at h
  rcases h with h | rfl
  ·exact vnL_ok a i v h
  ·exact vnS_ok _
def kdL (K:Nat→List D):Nat→List D
 | 0=>[]
 | i + 1=>kdL K i ++ [.agg [dlist k_5 (K i)]]
theorem kdL_len (K:Nat→List D):∀ i,(kdL K i).length=i
 | 0=>rfl
 | i + 1=>by simp [kdL,kdL_len K i]
theorem small_wrap (z:Int):Small (IntKind.i64.wrap z):=by
 unfold Small
 rw [IntKind.wrap_i64]
 omega
theorem small_tdiv {x:Int} (h:Small x) (m:Nat):Small (x.tdiv (m:Int)):=by
 unfold Small at *
 by_cases h0:0≤x
 ·rw [Int.tdiv_eq_ediv_of_nonneg h0]
  have e1:=Int.ediv_le_self (m:Int) h0
  have e2:=Int.ediv_nonneg h0 (show (0:Int)≤m by omega)
  generalize x / (m:Int)=y at *
  omega
 ·obtain ⟨y,rfl⟩:∃ y,x=-y:=⟨-x,by omega⟩
  have hy:0≤y:=by omega
  rw [Int.neg_tdiv,Int.tdiv_eq_ediv_of_nonneg hy]
  have e1:=Int.ediv_le_self (m:Int) hy
  have e2:=Int.ediv_nonneg hy (show (0:Int)≤m by omega)
  generalize y / (m:Int)=z at *
  omega
section
variable {C:CallF} {n:Nat} {σ:Store}
def bM (vs:List (List UInt8)) (kd:List D) (ps:List Pr) (t:Tp):List Cell:=⟨ow vs.length,dlist k_0 (vs.map D.str)⟩ :: ⟨ow kd.length,dlist k_5 kd⟩ :: ⟨false,dlist k_3 (ps.map dP)⟩ :: bT t
def b0:List Cell:=[⟨false,.nils⟩,⟨false,.nils⟩,⟨false,.nils⟩,⟨false,.int .i64 0⟩,⟨false,.int .i64 0⟩,⟨false,.str []⟩,⟨false,.nils⟩]
def Em (x:Int) (q i:Nat) (vs:List (List UInt8)) (kd:List D) (ps:List Pr) (t:Tp):Env:={slots:=[(2,⟨false,.int .i64 x⟩),(8,⟨false,.int .i64 q⟩),(9,⟨false,.int .i64 i⟩)],locs:=[(6,6,0),(7,7,0)],boxes:=[(6,b0),(7,bM vs kd ps t)],defers:=[]}
def Eme (x:Int) (q i:Nat) (vs:List (List UInt8)) (kd:List D) (ps:List Pr) (t:Tp):Env:={slots:=[(2,⟨false,.int .i64 x⟩),(8,⟨false,.int .i64 q⟩),(9,⟨false,.int .i64 i⟩),(26,⟨false,.bool false⟩)],locs:=[(6,6,0),(7,7,0)],boxes:=[(6,b0),(7,bM vs kd ps t)],defers:=[]}
theorem lm_end (x:Int) (q:Nat) (vs:List (List UInt8)) (kd:List D) (ps:List Pr) (t:Tp):exec C n none a_27 (Em x q q vs kd ps t) σ=some (.exit 0,Eme x q q vs kd ps t,σ):=by
 have h1:¬ ((q:Int) < (q:Int)):=by omega
 simp only [a_27,Em,Eme,bM,b0,bT,sA,Nat.reduceAdd,Nat.reduceSub,Nat.reduceMul,Nat.reduceBEq,Nat.reduceLeDiff,Int.reduceBEq,Int.reduceBNe,Int.reduceLE,Int.reduceLT,Int.reduceGE,Int.reduceGT,Int.reduceNeg,kn,h1]
theorem lm_plain (x:Int) (q i a b:Nat) (vs:List (List UInt8)) (kd:List D) (ps:List Pr) (t:Tp) (hi:i < q) (hq:q < 100) (ha:a < 100) (hv:vs.length=i) (hb:b≠1)
  (w18:IntKind.i64.wrap (x.tdiv 18)=x.tdiv 18) (w90:IntKind.i64.wrap (x.tdiv 90)=x.tdiv 90)
  (hc1:C n_4 [.int .i64 (x.tdiv 18),.int .i64 5] σ=some (.ret ⟨false,.int .i64 a⟩,σ)) (hc2:C n_4 [.int .i64 (x.tdiv 90),.int .i64 2] σ=some (.ret ⟨false,.int .i64 b⟩,σ)) :
  exec C n none a_27 (Em x q i vs kd ps t) σ=some (.normal,Em x q (i + 1) (vs ++ [vnS ((i + a) % 5)]) kd ps t,σ):=by
 have h1:((i:Int) < (q:Int)):=by omega
 have w1:=wrap64_succ (i:=i) (by omega)
 have w2:IntKind.i64.wrap ((i:Int) + (a:Int))=((i + a:Nat):Int):=by rw [wrap64 (by omega) (by omega)]; omega
 have w3:(((i + a:Nat):Int)).tmod 5=(((i + a) % 5:Nat):Int):=tmodN _ 5
 have hx:=vn_get (i + a)
 have hap:=append_S vs (vnS ((i + a) % 5)) (ow vs.length) (by cases vs with
  | nil=>intro h; exact absurd rfl h
  | cons x r=>intro _; rfl) (by omega)
 have how:ow (vs ++ [vnS ((i + a) % 5)]).length=true:=by simp [ow_succ]
 have hb1:(((b:Nat):Int) == 1)=false:=by simp; omega
 simp only [a_27,Em,bM,b0,bT,sA,Nat.reduceAdd,Nat.reduceSub,Nat.reduceMul,Nat.reduceBEq,Nat.reduceLeDiff,Int.reduceBEq,Int.reduceBNe,Int.reduceLE,Int.reduceLT,Int.reduceGE,Int.reduceGT,Int.reduceNeg,kn,h1,w1,w2,w3,w18,w90,hc1,hc2,hx,hap,how,hb1]
theorem lm_kind (x:Int) (q i a:Nat) (vs:List (List UInt8)) (kd:List D) (ps:List Pr) (t:Tp) (K:List D) (hi:i < q) (hq:q < 100) (ha:a < 100) (hv:vs.length=i) (hk:kd.length=i)
  (w18:IntKind.i64.wrap (x.tdiv 18)=x.tdiv 18) (w90:IntKind.i64.wrap (x.tdiv 90)=x.tdiv 90) (w7:IntKind.i64.wrap (x.tdiv 7)=x.tdiv 7)
  (hc1:C n_4 [.int .i64 (x.tdiv 18),.int .i64 5] σ=some (.ret ⟨false,.int .i64 a⟩,σ)) (hc2:C n_4 [.int .i64 (x.tdiv 90),.int .i64 2] σ=some (.ret ⟨false,.int .i64 1⟩,σ))
  (hc3:C n_133 [.list k_int [.int .i64 (IntKind.i64.wrap (x + i)),.int .i64 i,.int .i64 (x.tdiv 7),.int .i64 (IntKind.i64.wrap (i * x))]] σ=some (.ret ⟨false,.agg [dlist k_5 K]⟩,σ)) :
  exec C n none a_27 (Em x q i vs kd ps t) σ=some (.normal,Em x q (i + 1) (vs ++ [vnS ((i + a) % 5)]) (kd ++ [.agg [dlist k_5 K]]) ps t,σ):=by
 have h1:((i:Int) < (q:Int)):=by omega
 have w1:=wrap64_succ (i:=i) (by omega)
 have w2:IntKind.i64.wrap ((i:Int) + (a:Int))=((i + a:Nat):Int):=by rw [wrap64 (by omega) (by omega)]; omega
 have w3:(((i + a:Nat):Int)).tmod 5=(((i + a) % 5:Nat):Int):=tmodN _ 5
 have hx:=vn_get (i + a)
 have hap:=append_S vs (vnS ((i + a) % 5)) (ow vs.length) (by cases vs with
  | nil=>intro h; exact absurd rfl h
  | cons x r=>intro _; rfl) (by omega)
 have hak:=append_one (r:=k_5) (by_:=24) (es:=kd) (o:=ow kd.length) (y:=.agg [dlist k_5 K]) (by cases kd with
  | nil=>intro h; exact absurd rfl h
  | cons x r=>intro _; rfl) (ok_agg1 K).1 (ok_agg1 K).2 (by simp [bound]; omega) (by simp [bound]; omega)
 have how:ow (vs ++ [vnS ((i + a) % 5)]).length=true:=by simp [ow_succ]
 have how2:ow (kd ++ [D.agg [dlist k_5 K]]).length=true:=by simp [ow_succ]
 simp only [a_27,Em,bM,b0,bT,sA,Nat.reduceAdd,Nat.reduceSub,Nat.reduceMul,Nat.reduceBEq,Nat.reduceLeDiff,Int.reduceBEq,Int.reduceBNe,Int.reduceLE,Int.reduceLT,Int.reduceGE,Int.reduceGT,Int.reduceNeg,kn,h1,w1,w2,w3,w7,w18,w90,hc1,hc2,hc3,hx,hap,hak,how,how2]
theorem made_end (m:Nat) (d d1:D) (o:Bool) (x:Int) (a q:Nat) (t t2 t3:Tp) (ps:List Pr) (vs:List (List UInt8)) (kd:List D) (h1:T m n_104 [d] σ=some (.ret ⟨false,dT t⟩,σ)) (h2:T m n_200 [d1,.int .i64 4] σ=some (.ret ⟨o,dPs ps⟩,σ))
  (h3:T m n_4 [.int .i64 x,.int .i64 3] σ=some (.ret ⟨false,.int .i64 a⟩,σ)) (h4:T m n_4 [.int .i64 (x.tdiv 3),.int .i64 6] σ=some (.ret ⟨false,.int .i64 q⟩,σ)) (hw:IntKind.i64.wrap (x.tdiv 3)=x.tdiv 3)
  (h6:T m n_198 [d] σ=some (.ret ⟨false,dT t2⟩,σ)) (h3t:t3=if a=2 then t2 else t) (hloop:loopN (exec (T m) m none a_27) m (Em x q 0 [] [] ps t3) σ=some (.exit 0,Eme x q q vs kd ps t3,σ)) :
  T (m + 1) n_201 [d,d1,.int .i64 x] σ=some (.ret ⟨false,.agg (dSs vs :: dlist k_5 kd :: dPs ps :: cT t3)⟩,σ):=by
 rw [T_fun (af:=a_120) rfl rfl]
 simp only [dT_eq,cT,dPs,dSs] at h1 h2 h6 ⊢
 simp only [Em,Eme,bM,b0,bT,List.map_nil,dlist_nil,List.length_nil,ow_zero,zeroI] at hloop
 by_cases h5:a=2
 ·rw [if_pos h5] at h3t
  subst h3t
  have h5':((a:Int) == 2)=true:=by simp; omega
  simp only [a_120,sA,Nat.reduceAdd,Nat.reduceSub,Nat.reduceMul,Nat.reduceBEq,Nat.reduceLeDiff,Int.reduceBEq,Int.reduceBNe,Int.reduceLE,Int.reduceLT,Int.reduceGE,Int.reduceGT,Int.reduceNeg,kn,h1,h2,h3,h4,h5',hw,h6,hloop]
  done
 ·rw [if_neg h5] at h3t
  subst h3t
  have h5':((a:Int) == 2)=false:=by simp; omega
  simp only [a_120,sA,Nat.reduceAdd,Nat.reduceSub,Nat.reduceMul,Nat.reduceBEq,Nat.reduceLeDiff,Int.reduceBEq,Int.reduceBNe,Int.reduceLE,Int.reduceLT,Int.reduceGE,Int.reduceGT,Int.reduceNeg,kn,h1,h2,h3,h4,h5',hw,hloop]
  done
end
theorem made_run (d d1:D) (xs ys:List Int) (x:Int) (hR:Row d xs) (hS:Smalls xs) (hR1:Row d1 ys) (hS1:Smalls ys) (hx:Small x):∃ (vs:List (List UInt8)) (kd:List D) (ps:List Pr) (t:Tp),(vs.length≤5∧∀ v∈vs,okV v=true)∧(ps.length≤4∧∀ p∈ps,LP p)∧LB 5 t ∧
  Evly fun n=>∀ σ,T n n_201 [d,d1,.int .i64 x] σ=some (.ret ⟨false,.agg (dSs vs :: dlist k_5 kd :: dPs ps :: cT t)⟩,σ):=by
 obtain ⟨t,hLt,h1⟩:=type_run d xs hR hS
 obtain ⟨t2,hLt2,h6⟩:=plain_run d xs hR hS
 obtain ⟨ps,hps,h2⟩:=preds_run d1 ys hR1 hS1
 have small:∀ m:Nat,Small (x.tdiv (m:Int)):=small_tdiv hx
 have s3:=small 3
 have s7:=small 7
 have s18:=small 18
 have s90:=small 90
 have w3:IntKind.i64.wrap (x.tdiv 3)=x.tdiv 3:=wrap64 s3.1 s3.2
 have w7:IntKind.i64.wrap (x.tdiv 7)=x.tdiv 7:=wrap64 s7.1 s7.2
 have w18:IntKind.i64.wrap (x.tdiv 18)=x.tdiv 18:=wrap64 s18.1 s18.2
 have w90:IntKind.i64.wrap (x.tdiv 90)=x.tdiv 90:=wrap64 s90.1 s90.2
 have hq:=aro_lt (x.tdiv 3) (m:=6) (by omega)
 have ha5:=aro_lt (x.tdiv 18) (m:=5) (by omega)
 have r3:Evly fun n=>∀ σ,T n n_4 [.int .i64 x,.int .i64 3] σ=some (.ret ⟨false,.int .i64 (aro x 3)⟩,σ):=aroundL.mono fun n h σ=>h x 3 3 σ hx rfl (by omega) (by omega)
 have r6:Evly fun n=>∀ σ,T n n_4 [.int .i64 (x.tdiv 3),.int .i64 6] σ=some (.ret ⟨false,.int .i64 (aro (x.tdiv 3) 6)⟩,σ):=aroundL.mono fun n h σ=>h _ 6 6 σ s3 rfl (by omega) (by omega)
 have r18:Evly fun n=>∀ σ,T n n_4 [.int .i64 (x.tdiv 18),.int .i64 5] σ=some (.ret ⟨false,.int .i64 (aro (x.tdiv 18) 5)⟩,σ):=aroundL.mono fun n h σ=>h _ 5 5 σ s18 rfl (by omega) (by omega)
 have r90:Evly fun n=>∀ σ,T n n_4 [.int .i64 (x.tdiv 90),.int .i64 2] σ=some (.ret ⟨false,.int .i64 (aro (x.tdiv 90) 2)⟩,σ):=aroundL.mono fun n h σ=>h _ 2 2 σ s90 rfl (by omega) (by omega)
 generalize aro (x.tdiv 3) 6=q at hq r6
 generalize aro (x.tdiv 18) 5=a at ha5 r18
 by_cases hb:aro (x.tdiv 90) 2=1
 ·rw [hb] at r90
  have hK:∀ i:Nat,∃ K:List D,Evly fun n=>∀ σ,T n n_133 [.list k_int [.int .i64 (IntKind.i64.wrap (x + i)),.int .i64 (IntKind.i64.wrap i),.int .i64 (x.tdiv 7),.int .i64 (IntKind.i64.wrap (i * x))]] σ=some (.ret ⟨false,.agg [dlist k_5 K]⟩,σ):=fun i =>
   kind_run _ [IntKind.i64.wrap (x + i),IntKind.i64.wrap i,x.tdiv 7,IntKind.i64.wrap (i * x)] (.inl rfl) (fun y hy=>by
    simp only [List.mem_cons,List.not_mem_nil,or_false] at hy
    rcases hy with rfl | rfl | rfl | rfl
    ·exact small_wrap _
    ·exact small_wrap _
    ·exact s7
    ·exact small_wrap _)
  obtain ⟨K,hK⟩:=Classical.skolem.1 hK
  have hKs:Evly fun n=>∀ i,i < q→∀ σ,T n n_133 [.list k_int [.int .i64 (IntKind.i64.wrap (x + i)),.int .i64 i,.int .i64 (x.tdiv 7),.int .i64 (IntKind.i64.wrap (i * x))]] σ=some (.ret ⟨false,.agg [dlist k_5 (K i)]⟩,σ) :=
   Evly.below _ fun i hi=>(hK i).mono fun n h σ=>by
    have:=h σ
    rw [wrap64 (n:=(i:Int)) (by omega) (by omega)] at this
    exact this
  refine ⟨vnL a q,kdL K q,ps,(if aro x 3=2 then t2 else t),⟨by rw [vnL_len]; omega,vnL_ok a q⟩,hps,(by split <;> first | exact hLt2 | exact hLt.toB),(h1.and (h2.and (h6.and (r3.and (r6.and (r18.and (r90.and hKs))))))).step 8 fun m hm h σ=>?_⟩
  obtain ⟨e1,e2,e6,e3,e4,e18,e90,eK⟩:=h
  have hloop:=loopN_run (body:=exec (T m) m none a_27) (fun i=>Em x q i (vnL a i) (kdL K i) ps (if aro x 3=2 then t2 else t)) (fun _=>σ) q (r:=_) (fun _ _ h=>by cases h)
   (fun i hi=>lm_kind x q i a (vnL a i) (kdL K i) ps _ (K i) hi (by omega) (by omega) (vnL_len a i) (kdL_len K i) w18 w90 w7 (e18 σ) (e90 σ) (eK i hi σ)) (lm_end x q _ _ ps _) 0 m (by omega) (by omega)
  exact made_end m d d1 _ x (aro x 3) q t t2 _ ps _ _ (e1 σ) (e2 σ) (e3 σ) (e4 σ) w3 (e6 σ) rfl hloop
 ·refine ⟨vnL a q,[],ps,(if aro x 3=2 then t2 else t),⟨by rw [vnL_len]; omega,vnL_ok a q⟩,hps,(by split <;> first | exact hLt2 | exact hLt.toB),(h1.and (h2.and (h6.and (r3.and (r6.and (r18.and r90)))))).step 8 fun m hm h σ=>?_⟩
  obtain ⟨e1,e2,e6,e3,e4,e18,e90⟩:=h
  have hloop:=loopN_run (body:=exec (T m) m none a_27) (fun i=>Em x q i (vnL a i) [] ps (if aro x 3=2 then t2 else t)) (fun _=>σ) q (r:=_) (fun _ _ h=>by cases h)
   (fun i hi=>lm_plain x q i a _ (vnL a i) [] ps _ hi (by omega) (by omega) (vnL_len a i) hb w18 w90 (e18 σ) (e90 σ)) (lm_end x q _ _ ps _) 0 m (by omega) (by omega)
  exact made_end m d d1 _ x (aro x 3) q t t2 _ ps _ _ (e1 σ) (e2 σ) (e3 σ) (e4 σ) w3 (e6 σ) rfl hloop
end Go.Fu
namespace Go.Fu
open Go Go.Mx
set_option maxRecDepth 10000
set_option maxHeartbeats 4000000
def WE (p:Nat) (σ:Store):Prop:=∃ mc mm is es k0,EV p mc mm (dIl is) es k0 σ∧p < σ.next∧mc < σ.next∧es.length < 500∧(∀ y∈es,y.2.1.sups.length < 1000)∧is.length < 10000∧∀ y∈es,y.2.1.mets.length < 1000
theorem lworld_run (d:D) (xs:List Int) (hR:Row d xs) (hS:Smalls' xs):Evly fun n=>∀ σ,∃ σ' cs is,T n n_197 [d] σ=some (.ret ⟨false,.tup [.nilp,dPg cs is]⟩,σ')∨∃ p,T n n_197 [d] σ=some (.ret ⟨false,.tup [.ptr p 0,dPg cs is]⟩,σ')∧WE p σ':=by
 obtain ⟨N1,hN⟩:=New_run
 have hNe:Evly fun n=>∀ (cs:List Cs) (is:List In) (_:cs.length < 500) (_:∀ x∈cs,x.sups.length < 1000∧x.mets.length≤1000) (_:is.length < 1000) σ,∃ σ',
   (∃ a b:Int,a≠0∧T n n_131 [dPg cs is] σ=some (.ret ⟨false,.tup [.nilp,.agg [.int .i64 a,.int .i64 b]]⟩,σ')) ∨
   (∃ p mc mm es k0,T n n_131 [dPg cs is] σ=some (.ret ⟨false,.tup [.ptr p 0,.agg [.int .i64 0,.int .i64 0]]⟩,σ')∧EV p mc mm (dIl is) es k0 σ'∧p < σ'.next∧mc < σ'.next∧es.length < 500∧∀ y∈es,y.2.1∈cs):=⟨N1,fun n hn=>hN n hn⟩
 refine ((world12_run d xs hR hS).and hNe).step 10 fun m _ h σ=>?_
 obtain ⟨cs,is,hcs,hg,his,w1⟩:=h.1 σ
 have e1:=one_dCl cs
 have e2:=one_dIl is
 obtain ⟨σ',hn⟩:=h.2 cs is (by omega) (fun x hx=>by have:=hg x hx; exact ⟨by have:=this.1; omega,by have:=this.2; omega⟩) (by omega) σ
 rcases hn with ⟨a,b,ha,h1⟩ | ⟨p,mc,mm,es,k0,h1,hE,hp,hmc,hes,hmem⟩
 ·refine ⟨σ',cs,is,.inl ?_⟩
  have hne:(a != 0)=true:=by simpa using ha
  simp only [dPg] at w1 h1 ⊢
  rw [T_fun (af:=a_77) rfl rfl]
  simp only [a_77,sA,seval,kn,e1,e2,w1,h1,hne]
 ·refine ⟨σ',cs,is,.inr ⟨p,?_,mc,mm,is,es,k0,hE,hp,hmc,hes,fun y hy=>by have:=(hg _ (hmem y hy)).1; omega,by omega,fun y hy=>by have:=(hg _ (hmem y hy)).2; omega⟩⟩
  simp only [dPg] at w1 h1 ⊢
  rw [T_fun (af:=a_77) rfl rfl]
  simp only [a_77,sA,seval,kn,e1,e2,w1,h1]
theorem row_drop {d:D} {xs:List Int} (h:Row d xs) (k:Nat) (hk:k≤xs.length):∃ d',sliceD 1 d k none=some d'∧Row d' (xs.drop k):=by
 rcases h with rfl | ⟨rfl,rfl⟩
 ·refine ⟨.list k_int ((xs.drop k).map fun x=>.int .i64 x),?_,.inl rfl⟩
  have h1:((xs.map fun x=>D.int .i64 x).take xs.length).drop k=(xs.drop k).map fun x=>.int .i64 x:=by rw [List.take_of_length_le (by simp),List.map_drop]
  have h2:((xs.map fun x=>D.int .i64 x).drop k).take (xs.length - k)=(xs.drop k).map fun x=>.int .i64 x:=by rw [← List.map_drop,List.take_of_length_le (by simp)]
  simp only [sliceD,Option.getD_none,List.length_map,k_180]
  simp [ifB,hk]
  first | exact h1 | exact h2 | simpa using h1 | simpa using h2
 ·simp only [List.length_nil,Nat.le_zero_eq] at hk
  subst hk
  exact ⟨.nils,rfl,.inr ⟨rfl,rfl⟩⟩
theorem tys_ex (d:D) (xs:List Int) (hR:Row d xs) (hS:Smalls xs) (a:Nat):∀ j:Nat,∃ bys:List Tp,bys.length=j∧(∀ t∈bys,LA 4 t)∧Evly fun n=>∀ i,i < j→∃ d',sliceD 1 d (min xs.length (i + a)) none=some d'∧∀ σ,T n n_104 [d'] σ=some (.ret ⟨false,dT (bys.getD i (.hole 0))⟩,σ)
 | 0=>⟨[],rfl,by simp,any _ fun _ i h=>absurd h (by omega)⟩
 | j + 1=>by
  obtain ⟨bys,hl,hg,hE⟩:=tys_ex d xs hR hS a j
  obtain ⟨d',hs,hR'⟩:=row_drop hR (min xs.length (j + a)) (by omega)
  obtain ⟨t,ht,hE2⟩:=type_run d' (xs.drop (min xs.length (j + a))) hR' fun x hx=>hS x (List.mem_of_mem_drop hx)
  refine ⟨bys ++ [t],by simp [hl],fun u hu=>?_,(hE.and hE2).mono fun n h i hi=>?_⟩
  ·rcases List.mem_append.1 hu with hu | hu
   ·exact hg u hu
   ·rw [List.mem_singleton.1 hu]; exact ht
  ·by_cases hij:i < j
   ·obtain ⟨d2,s2,r2⟩:=h.1 i hij
    refine ⟨d2,s2,fun σ=>?_⟩
    have e:(bys ++ [t]).getD i (.hole 0)=bys.getD i (.hole 0):=by
     simp only [List.getD_eq_getElem?_getD]
     rw [List.getElem?_append_left (by omega)]
    rw [e]
    exact r2 σ
   ·have:i=j:=by omega
    subst this
    refine ⟨d',hs,fun σ=>?_⟩
    have e:(bys ++ [t]).getD i (.hole 0)=t:=by
     simp only [List.getD_eq_getElem?_getD]
     rw [List.getElem?_append_right (by omega),hl,Nat.sub_self]
     rfl
    rw [e]
    exact h.2 σ
section
variable {C:CallF} {N:Nat} {σ:Store}
def bS7 (vs:List Tx) (kd:D) (ps:List Pr) (t:Tp):List Cell:=⟨false,dSs vs⟩ :: ⟨false,kd⟩ :: ⟨false,dPs ps⟩ :: bT t
def z7:List Cell:=[⟨false,.nils⟩,⟨false,.nils⟩,⟨false,.nils⟩,⟨false,.int .i64 0⟩,⟨false,.int .i64 0⟩,⟨false,.str []⟩,⟨false,.nils⟩]
def Ein (d:D) (x:Int) (vs:List Tx) (kd:D) (ps:List Pr) (t:Tp) (bys:List Tp) (i:Nat):Env:={slots:=[(1,⟨false,d⟩),(2,⟨false,.int .i64 x⟩),(7,⟨ow i,dTs (bys.take i)⟩),(8,⟨false,.int .i64 i⟩)],locs:=[(3,3,0),(6,6,0)],boxes:=[(3,bS7 vs kd ps t),(6,z7)],defers:=[]}
theorem in_step (d d':D) (len:Nat) (hd:lenOf d=some len) (x:Int) (vs:List Tx) (kd:D) (ps:List Pr) (t:Tp) (bys:List Tp) (hb:bys.length=vs.length) (i:Nat) (h:i < vs.length) (hl:vs.length < 1000) (a:Nat) (ha:a < 3) (h1:C n_4 [.int .i64 x,.int .i64 3] σ=some (.ret ⟨false,.int .i64 (a:Nat)⟩,σ))
  (h2:sliceD 1 d (min len (i + a)) none=some d') (h3:C n_104 [d'] σ=some (.ret ⟨false,dT (bys.getD i (.hole 0))⟩,σ)):exec C N none a_76 (Ein d x vs kd ps t bys i) σ=some (.normal,Ein d x vs kd ps t bys (i + 1),σ):=by
 have hlt:((i:Int) < (vs.length:Int)):=by omega
 have hlv:lenOf (dSs vs)=some vs.length:=by simp only [dSs,lenOf_dlist,List.length_map]
 have w1:=wrap64_succ (i:=i) (by omega)
 have w2:IntKind.i64.wrap ((i:Int) + (a:Int))=((i + a:Nat):Int):=by rw [wrap64 (by omega) (by omega)]; omega
 have hmin:ifB (decide (((i + a:Nat):Int) < (len:Int))) ((i + a:Nat):Int) (len:Int)=((min len (i + a):Nat):Int):=by
  by_cases hc:((i + a:Nat):Int) < (len:Int)
  ·rw [decide_eq_true hc,ifB_true]; omega
  ·rw [decide_eq_false hc,ifB_false]; omega
 have hib:i < bys.length:=by omega
 have hap:=append_T (bys.take i) bys[i] (ow i) ow_ne (by simp; omega)
 rw [take_snoc _ _ hib] at hap
 have hg:bys.getD i (.hole 0)=bys[i]:=by simp [hib]
 rw [hg] at h3
 generalize bys[i]=u at *
 rw [dT_eq u] at h3 hap
 simp only [cT] at h3 hap
 have e1:∀ l:List Tp,dTs l=dlist k_1 (l.map dT):=fun _=>rfl
 simp only [a_76,Ein,bS7,z7,bT,e1,sA,seval,kn,zeroI,lit1,lit2,lit3,lit4,lit5,lit6,lit7,lit8,natI,hlv,hlt,hd,h1,w1,w2,hmin,h2,h3,hap,ow_succ]
theorem in_end (d:D) (x:Int) (vs:List Tx) (kd:D) (ps:List Pr) (t:Tp) (bys:List Tp) (hb:bys.length=vs.length):exec C N none a_76 (Ein d x vs kd ps t bys vs.length) σ=some (.exit 0,{slots:=[(1,⟨false,d⟩),(2,⟨false,.int .i64 x⟩),(7,⟨ow vs.length,dTs bys⟩),(8,⟨false,.int .i64 vs.length⟩),(13,⟨false,.bool false⟩)],locs:=[(3,3,0),(6,6,0)],boxes:=[(3,bS7 vs kd ps t),(6,z7)],defers:=[]},σ):=by
 have hlt:¬ ((vs.length:Int) < (vs.length:Int)):=by omega
 have hlv:lenOf (dSs vs)=some vs.length:=by simp only [dSs,lenOf_dlist,List.length_map]
 have e:bys.take vs.length=bys:=List.take_of_length_le (by omega)
 simp only [a_76,Ein,bS7,z7,bT,sA,seval,kn,zeroI,lit1,lit2,lit3,lit4,lit5,lit6,lit7,lit8,hlv,hlt,e]
end
theorem instance_run (d:D) (xs:List Int) (hR:Row d xs) (hS:Smalls xs) (x:Int) (hx:Small x) (vs:List Tx) (kd:D) (hk:kd.one=true) (ps:List Pr) (t:Tp) (hv:vs.length < 100) (hp:ps.length < 1000):∃ bys:List Tp,bys.length=vs.length∧(∀ u∈bys,LA 4 u)∧Evly fun n=>∀ σ,T n n_196 [dSc vs kd ps t,d,.int .i64 x] σ=some (.ret ⟨false,dSc [[97],[98],[99]] .nils (ps.map (putP vs bys)) (subT vs bys t)⟩,σ):=by
 obtain ⟨bys,hb,hg,hE⟩:=tys_ex d xs hR hS (aro x 3) vs.length
 refine ⟨bys,hb,hg,?_⟩
 have hput:=Put_run ps vs bys (by omega) (by omega) hb
 have hsub:=r04_subst_run vs bys (by omega) hb t
 refine (((hE.and aroundL).and (hput.and hsub))).step 110 fun m hm h σ=>?_
 obtain ⟨⟨h1,h2⟩,h3,h4⟩:=h
 have l0:=loopN_run (body:=exec (T m) m none a_76) (Ein d x vs kd ps t bys) (fun _=>σ) vs.length (r:=_) (fun _ _ h=>by cases h) (fun j hj=>by
  obtain ⟨d',s1,s2⟩:=h1 j hj
  exact in_step d d' xs.length (row_len hR) x vs kd ps t bys hb j hj (by omega) (aro x 3) (aro_lt x (by omega)) (h2 x 3 3 σ hx rfl (by omega) (by omega)) s1 (s2 σ)) (in_end d x vs kd ps t bys hb) 0 m (by omega) (by omega)
 have g3:=h3 σ
 have g4:=h4 σ
 have zt:dTs []=.nils:=rfl
 have oP:∀ l:List Pr,(dPs l).one=true:=one_dPs
 have oS:∀ l:List Tx,(dSs l).one=true:=one_dSs
 have oK:∀ l:List Pr,(dPs l).ok=true:=fun _=>ok_dlist
 have oL:∀ l:List Pr,(dPs l).cells=[dPs l]:=fun _=>cells_dlist
 have eS:D.list k_0 [.str [97],.str [98],.str [99]]=dSs [[97],[98],[99]]:=rfl
 have s1:(dSs [[97],[98],[99]]).ok=true:=ok_dlist
 have s2:(dSs [[97],[98],[99]]).cells=[dSs [[97],[98],[99]]]:=cells_dlist
 simp only [Ein,bS7,z7,bT,List.take_zero,zt,ow_zero,zeroI] at l0
 generalize ps.map (putP vs bys)=P at *
 generalize subT vs bys t=u at *
 rw [dT_eq t,dT_eq u] at g4
 simp only [cT] at g4
 simp only [dSc,cT]
 rw [T_fun (af:=a_151) rfl rfl]
 simp only [a_151,sA,seval,kn,zeroI,lit1,lit2,lit3,lit4,lit5,lit6,lit7,lit8,hk,oP,oS,oK,oL,eS,s1,s2,l0,g3,g4]
end Go.Fu
namespace Go.Fu
open Go Go.Mx
set_option maxRecDepth 10000
set_option maxHeartbeats 4000000
theorem pos_ap0:∀ n:Fin 6,∀ k:Fin 6,k < n→posS [64,UInt8.ofNat (48 + k)] (apN 64 n)=some k.val:=by decide
theorem pos_ap {n k:Nat} (hn:n < 6) (hk:k < n):posS [64,UInt8.ofNat (48 + k)] (apN 64 n)=some k:=pos_ap0 ⟨n,hn⟩ ⟨k,by omega⟩ hk
theorem pos_apN {c:UInt8} {n:Nat} {s:Tx} (h:s.length≠2):posS s (apN c n)=none:=posS_none fun i hi=>by
 have:(apN c n)[i].length=2:=by simp [apN]
 simp only [beq_eq_false_iff_ne]
 intro e
 rw [e] at h
 exact h this
def vs1:Tp→Bool
 | .var s=>s.length == 1
 | .app f a=>vs1 f && vs1 a
 | _=>true
theorem okV_len {s:Tx} (h:okV s=true):s.length=1:=by
 unfold okV at h
 split at h
 ·rfl
 ·cases h
theorem vs1_of_tyB:∀ t:Tp,tyB t=true→vs1 t=true
 | .hole _,_=>rfl
 | .con _,_=>rfl
 | .var s,h=>by
  have:=okV_len h
  simp [vs1,this]
 | .app f a,h=>by
  simp only [tyB,Bool.and_eq_true] at h
  simp only [vs1,Bool.and_eq_true]
  exact ⟨vs1_of_tyB f h.1,vs1_of_tyB a h.2⟩
theorem match_apart (vs:List Tx) (hv:vs.length < 6):∀ (p u:Tp) (l:List (Option Tp)),vs1 p=true→matchM (apN 64 vs.length) (apV 64 vs p) u l=matchM vs p u l
 | .hole x,u,l,_=>rfl
 | .con s,u,l,_=>rfl
 | .var s,u,l,h=>by
  simp only [vs1,beq_iff_eq] at h
  cases hp:posS s vs with
  | none =>
   have e:apV 64 vs (.var s)=.var s:=by simp only [apV,subT,hp]
   have h2:posS s (apN 64 vs.length)=none:=pos_apN (by omega)
   rw [e]
   simp only [matchM,hp,h2]
  | some k =>
   have hk:=posS_lt hp
   have hk2:k < (apT 64 vs.length).length:=by rw [apT_len]; exact hk
   have g2:(apT 64 vs.length)[k]=.var [64,UInt8.ofNat (48 + k)]:=by simp [apT,apN]
   have e:apV 64 vs (.var s)=.var [64,UInt8.ofNat (48 + k)]:=by
    simp only [apV,subT,hp]
    rw [← g2]
    simp [hk2]
   have h2:=pos_ap hv hk
   rw [e]
   simp only [matchM,hp,h2]
 | .app f a,u,l,h=>by
  simp only [vs1,Bool.and_eq_true] at h
  have e:apV 64 vs (.app f a)=.app (apV 64 vs f) (apV 64 vs a):=rfl
  rw [e]
  cases u with
  | app g b =>
   have h1:=match_apart vs hv f g l h.1
   have h2:=match_apart vs hv a b (matchM vs f g l).2 h.2
   simp only [matchM,h1,h2]
  | _=>rfl
section
end
end Go.Fu
namespace Go.Fu
open Go Go.Mx
set_option maxRecDepth 10000
set_option maxHeartbeats 4000000
end Go.Fu
namespace Go.Fu
open Go Go.Mx
set_option maxRecDepth 10000
set_option maxHeartbeats 4000000
theorem idx_I (l:List Int) (i:Nat) (h:i < l.length):indexD 1 (dIs l) i=some (.eptr (.int .i64 l[i])):=idx_map rfl _ _ _ h
theorem len_I (l:List Int):lenOf (dIs l)=some l.length:=by simp only [dIs,lenOf_dlist,List.length_map]
def bV (a b:Int) (d:D):List Cell:=[⟨false,.int .i64 a⟩,⟨false,.int .i64 b⟩,⟨false,d⟩]
section
variable {C:CallF} {N:Nat} {σ:Store}
def Ev0 (l:List Int) (a b:Int) (d:D) (i:Nat):Env:={slots:=[(10,⟨false,dIs l⟩),(51,⟨false,.int .i64 l.length⟩),(52,⟨false,.int .i64 i⟩)],locs:=[(6,6,0),(12,12,0)],boxes:=[(6,bV 0 0 .nils),(12,bV a b d)],defers:=[]}
theorem by0_step (l:List Int) (a b:Int) (d:D) (hd:d.one=true) (i:Nat) (h:i < l.length) (hl:l.length < 1000):∃ a' b' d',d'.one=true∧exec C N none a_75 (Ev0 l a b d i) σ=some (.normal,Ev0 l a' b' d' (i + 1),σ):=by
 have hlt:((i:Int) < (l.length:Int)):=by omega
 have hx:=idx_I l i h
 have w1:=wrap64_succ (i:=i) (by omega)
 have e1:=one_dIs l
 refine ⟨2,l[i],.list k_53 [.agg [.int .i64 a,.int .i64 b,d]],rfl,?_⟩
 generalize l[i]=x at *
 simp only [a_75,Ev0,bV,sA,seval,kn,zeroI,lit1,lit2,lit3,lit4,lit5,lit6,lit7,lit8,natI,hlt,hx,hd,e1,w1]
theorem by0_end (l:List Int) (a b:Int) (d:D):exec C N none a_75 (Ev0 l a b d l.length) σ=some (.exit 2,{slots:=[(10,⟨false,dIs l⟩),(51,⟨false,.int .i64 l.length⟩),(52,⟨false,.int .i64 l.length⟩),(53,⟨false,.bool false⟩)],locs:=[(6,6,0),(12,12,0)],boxes:=[(6,bV 0 0 .nils),(12,bV a b d)],defers:=[]},σ):=by
 have hlt:¬ ((l.length:Int) < (l.length:Int)):=by omega
 simp only [a_75,Ev0,bV,sA,seval,kn,zeroI,lit1,lit2,lit3,lit4,lit5,lit6,lit7,lit8,hlt]
theorem by0_loop (l:List Int) (hl:l.length < 1000):∀ (r k i:Nat) (a b:Int) (d:D),i + r=l.length→r < k→d.one=true→∃ a' b' d',d'.one=true∧loopN (exec C N none a_75) k (Ev0 l a b d i) σ=some (.exit 2,{slots:=[(10,⟨false,dIs l⟩),(51,⟨false,.int .i64 l.length⟩),(52,⟨false,.int .i64 l.length⟩),(53,⟨false,.bool false⟩)],locs:=[(6,6,0),(12,12,0)],boxes:=[(6,bV 0 0 .nils),(12,bV a' b' d')],defers:=[]},σ)
 | _,0,_,_,_,_,_,hk,_=>absurd hk (by omega)
 | 0,k + 1,i,a,b,d,hi,_,hd=>by
  have:i=l.length:=by omega
  subst this
  exact ⟨a,b,d,hd,loopN_stop (by0_end l a b d)⟩
 | r + 1,k + 1,i,a,b,d,hi,hk,hd=>by
  obtain ⟨a1,b1,d1,h1,s1⟩:=by0_step (C:=C) (N:=N) (σ:=σ) l a b d hd i (by omega) hl
  obtain ⟨a2,b2,d2,h2,s2⟩:=by0_loop l hl r k (i + 1) a1 b1 d1 (by omega) (by omega) h1
  exact ⟨a2,b2,d2,h2,loopN_next s1 s2⟩
def bP (x:Pr):List Cell:=⟨false,.str x.cls⟩ :: bT x.ty
def Ev1 (p:Nat) (gs:List Pr) (x:Pr) (i:Nat):Env:={slots:=[(0,⟨false,.ptr p 0⟩),(1,⟨false,dPs gs⟩),(22,⟨false,dPs gs⟩),(23,⟨false,.int .i64 gs.length⟩),(24,⟨false,.int .i64 i⟩)],locs:=[(5,5,0),(6,6,0)],boxes:=[(5,bP x),(6,bV 0 0 .nils)],defers:=[]}
theorem by1_no {σ':Store} (p:Nat) (gs:List Pr) (x:Pr) (i:Nat) (h:i < gs.length) (hl:gs.length < 1000) (l:List Int) (b:Bool) (h1:C n_99 [.ptr p 0,.str gs[i].cls,.str x.cls] σ=some (.ret ⟨false,.tup [dIs l,.bool b]⟩,σ')) (h2:C n_70 [dT gs[i].ty,dT x.ty] σ'=some (.ret ⟨false,.bool (eqT gs[i].ty x.ty)⟩,σ')) (h3:(b && eqT gs[i].ty x.ty)=false) :
  exec C N none a_59 (Ev1 p gs x i) σ=some (.normal,Ev1 p gs x (i + 1),σ'):=by
 have hlt:((i:Int) < (gs.length:Int)):=by omega
 have hx:indexD 5 (dPs gs) i=_:=idx_P gs i h
 have w1:=wrap64_succ (i:=i) (by omega)
 have e1:=one_dIs l
 generalize gs[i]=g at *
 generalize eqT g.ty x.ty=e at *
 rw [dT_eq g.ty,dT_eq x.ty] at h2
 simp only [dP,cT] at hx
 simp only [cT] at h2
 cases b with
 | false=>simp only [a_59,Ev1,bP,bV,bT,sA,seval,kn,zeroI,lit1,lit2,lit3,lit4,lit5,lit6,lit7,lit8,natI,hlt,hx,e1,h1,w1]
 | true =>
  rw [Bool.true_and] at h3
  rw [h3] at h2
  simp only [a_59,Ev1,bP,bV,bT,sA,seval,kn,zeroI,lit1,lit2,lit3,lit4,lit5,lit6,lit7,lit8,natI,hlt,hx,e1,h1,h2,w1]
theorem by1_yes {σ':Store} (hN:1001≤N) (p:Nat) (gs:List Pr) (x:Pr) (i:Nat) (h:i < gs.length) (hl:gs.length < 1000) (l:List Int) (hll:l.length < 1000) (h1:C n_99 [.ptr p 0,.str gs[i].cls,.str x.cls] σ=some (.ret ⟨false,.tup [dIs l,.bool true]⟩,σ')) (h2:C n_70 [dT gs[i].ty,dT x.ty] σ'=some (.ret ⟨false,.bool (eqT gs[i].ty x.ty)⟩,σ')) (h3:eqT gs[i].ty x.ty=true) :
  ∃ a b d,d.one=true∧exec C N none a_59 (Ev1 p gs x i) σ=some (.ret,{slots:=[(7,⟨false,.int .i64 0⟩)],locs:=[(6,6,0)],boxes:=[(6,bV a b d)],defers:=[]},σ'):=by
 have hlt:((i:Int) < (gs.length:Int)):=by omega
 have hx:indexD 5 (dPs gs) i=_:=idx_P gs i h
 have w1:=wrap64_succ (i:=i) (by omega)
 have e1:=one_dIs l
 have hli:=len_I l
 obtain ⟨a',b',d',hd,r0⟩:=by0_loop (C:=C) (N:=N) (σ:=σ') l hll l.length N 0 1 (i:Int) .nils (by omega) (by omega) rfl
 refine ⟨a',b',d',hd,?_⟩
 generalize gs[i]=g at *
 rw [h3] at h2
 rw [dT_eq g.ty,dT_eq x.ty] at h2
 simp only [dP,cT] at hx
 simp only [cT] at h2
 simp only [Ev0,bV,zeroI] at r0
 simp only [a_59,Ev1,bP,bV,bT,sA,seval,kn,zeroI,lit1,lit2,lit3,lit4,lit5,lit6,lit7,lit8,natI,hlt,hx,e1,hli,h1,h2,r0,hd,w1]
end
end Go.Fu
namespace Go.Fu
open Go Go.Mx
set_option maxRecDepth 10000
set_option maxHeartbeats 4000000
theorem by1_loop {m:Nat} (hm:1001≤m) (p:Nat) (gs:List Pr) (hl:gs.length < 1000) (x:Pr) {mc mm k0:Nat} {ins:D} {es:List (Tx × Cs × Nat)} {m0:Nat} {σ0:Store} (hp:p < m0) (hmc:mc < m0) (hm0:m0≤σ0.next) (hE:EV p mc mm ins es k0 σ0) (hxc:x.cls∈es.map Prod.fst)
  (hP:∀ s t σ,p < σ.next→mc < σ.next→EV p mc mm ins es k0 σ→∃ l b σ',l.length < 1000∧T m n_99 [.ptr p 0,.str s,.str t] σ=some (.ret ⟨false,.tup [dIs l,.bool b]⟩,σ')∧Cg (fun _=>False) σ.next σ σ'∧(s=t→s∈es.map Prod.fst→b=true))
  (hS:∀ i,i < gs.length→∀ (h:i < gs.length) σ,T m n_70 [dT gs[i].ty,dT x.ty] σ=some (.ret ⟨false,.bool (eqT gs[i].ty x.ty)⟩,σ)):∀ (r k i:Nat) (σ:Store),i + r=gs.length→r < k→(∃ j,∃ h:j < gs.length,i≤j∧gs[j]=x)→G m0 σ0 σ →
  ∃ a b d σ',d.one=true∧loopN (exec (T m) m none a_59) k (Ev1 p gs x i) σ=some (.ret,{slots:=[(7,⟨false,.int .i64 0⟩)],locs:=[(6,6,0)],boxes:=[(6,bV a b d)],defers:=[]},σ')∧G m0 σ0 σ'
 | _,0,_,_,_,hk,_,_=>absurd hk (by omega)
 | 0,k + 1,i,σ,hi,_,⟨j,h,h2,_⟩,_=>absurd h (by omega)
 | r + 1,k + 1,i,σ,hi,hk,⟨j,hj,hij,hjx⟩,hg=>by
  have hil:i < gs.length:=by omega
  have hE1:=hE.keep hg hp hmc
  have hm1:m0≤σ.next:=Nat.le_trans hm0 hg.le
  obtain ⟨l,b,σ1,hll,h1,g1,hb⟩:=hP gs[i].cls x.cls σ (by omega) (by omega) hE1
  have hg1:G m0 σ0 σ1:=hg.trans (g1.less hm1)
  have h2:=hS i hil hil σ1
  cases hc:b && eqT gs[i].ty x.ty with
  | true =>
   rw [Bool.and_eq_true] at hc
   obtain ⟨rfl,h3⟩:=hc
   obtain ⟨a',b',d',hd,s1⟩:=by1_yes (N:=m) hm p gs x i hil hl l hll h1 h2 h3
   exact ⟨a',b',d',σ1,hd,loopN_ret s1,hg1⟩
  | false =>
   have hne:j≠i:=by
    intro e
    subst e
    have e1:b=true:=hb (by rw [hjx]) (by rw [hjx]; exact hxc)
    rw [e1,hjx,eqT_refl] at hc
    cases hc
   obtain ⟨a',b',d',σ2,hd,s2,g2⟩:=by1_loop hm p gs hl x hp hmc hm0 hE hxc hP hS r k (i + 1) σ1 (by omega) (by omega) ⟨j,hj,by omega,hjx⟩ hg1
   exact ⟨a',b',d',σ2,hd,loopN_next (by1_no p gs x i hil hl l b h1 h2 hc) s2,g2⟩
theorem by_run (gs:List Pr) (hl:gs.length < 1000) (x:Pr) (hx:x∈gs):Evly fun n=>∀ (p mc mm:Nat) (ins:D) (es:List (Tx × Cs × Nat)) (k0:Nat) σ,p < σ.next→mc < σ.next→EV p mc mm ins es k0 σ→es.length < 500→(∀ y∈es,y.2.1.sups.length < 1000)→x.cls∈es.map Prod.fst →
  ∃ a b d σ',d.one=true∧T n n_195 [.ptr p 0,dPs gs,dP x] σ=some (.ret ⟨false,.tup [.agg [.int .i64 a,.int .i64 b,d],.int .i64 0]⟩,σ')∧G σ.next σ σ':=by
 obtain ⟨N1,hP⟩:=path_run
 have hPe:Evly fun n=>∀ (es:List (Tx × Cs × Nat)) (_:es.length < 500) (_:∀ y∈es,y.2.1.sups.length < 1000) (p mc mm:Nat) (ins:D) (k0:Nat) (s t:Tx) σ,p < σ.next→mc < σ.next→EV p mc mm ins es k0 σ →
   ∃ l b σ',l.length < 1000∧T n n_99 [.ptr p 0,.str s,.str t] σ=some (.ret ⟨false,.tup [dIs l,.bool b]⟩,σ')∧Cg (fun _=>False) σ.next σ σ'∧(s=t→s∈es.map Prod.fst→b=true):=⟨N1,fun n hn=>hP n hn⟩
 have hk:Evly fun n=>∀ i,i < gs.length→∀ (h:i < gs.length) σ,T n n_70 [dT gs[i].ty,dT x.ty] σ=some (.ret ⟨false,.bool (eqT gs[i].ty x.ty)⟩,σ) :=
  Evly.below _ fun i hi=>(tSame_run gs[i].ty x.ty).mono fun n h _ σ=>h σ
 refine (hPe.and hk).step 2000 fun m hm h p mc mm ins es k0 σ hp hmc hE hes hsz hxc=>?_
 obtain ⟨j,hj,hjx⟩:=List.getElem_of_mem hx
 obtain ⟨a,b,d,σ',hd,r1,g1⟩:=by1_loop (m:=m) (by omega) p gs hl x (m0:=σ.next) hp hmc (Nat.le_refl _) hE hxc (fun s t τ h1 h2 h3=>h.1 es hes hsz p mc mm ins k0 s t τ h1 h2 h3) h.2 gs.length m 0 σ (by omega) (by omega) ⟨j,hj,by omega,hjx⟩ (G.refl _ _)
 refine ⟨a,b,d,σ',hd,?_,g1⟩
 have hlp:lenOf (dPs gs)=some gs.length:=by simp only [dPs,lenOf_dlist,List.length_map]
 simp only [Ev1,bP,bV,bT,zeroI] at r1
 rw [T_fun (af:=a_150) rfl rfl]
 simp only [a_150,dP,cT,sA,seval,kn,zeroI,lit1,lit2,lit3,lit4,lit5,lit6,lit7,lit8,hlp,r1,hd]
theorem gen1_run (gs:List Pr) (hl:gs.length < 1000) (x:Pr) (hx:x∈gs):Evly fun n=>∀ (a c p mc mm:Nat) (ins:D) (es:List (Tx × Cs × Nat)) (k0:Nat) σ,p < σ.next→mc < σ.next→EV p mc mm ins es k0 σ→es.length < 500→(∀ y∈es,y.2.1.sups.length < 1000)→x.cls∈es.map Prod.fst→aget σ.objs a=some [⟨false,.ptr p 0⟩]→aget σ.objs c=some [⟨false,dPs gs⟩] →
  ∃ σ',T n n_138 [dP x,.ptr a 0,.ptr c 0] σ=some (.ret ⟨false,.bool false⟩,σ')∧G σ.next σ σ' :=
 (by_run gs hl x hx).step 0 fun m _ h a c p mc mm ins es k0 σ hp hmc hE hes hsz hxc ha hc=>by
 obtain ⟨a',b',d,σ',hd,r1,g1⟩:=h p mc mm ins es k0 σ hp hmc hE hes hsz hxc
 refine ⟨σ',?_,g1⟩
 simp only [dP,cT] at r1 ⊢
 rw [T_fun (af:=a_164) rfl rfl]
 simp only [a_164,sA,seval,kn,zeroI,lit1,lit2,lit3,lit4,lit5,lit6,lit7,lit8,ha,hc,r1,hd]
section
variable {C:CallF} {n:Nat} {σ σ':Store}
def Efp (l:List Pr) (f:FuncId) (caps:List D) (i:Nat):Env:={slots:=[(0,⟨false,dPs l⟩),(1,⟨false,.fn (.func f) [] caps⟩),(7,⟨false,.int .i64 l.length⟩),(8,⟨false,.int .i64 i⟩)],locs:=[],boxes:=[],defers:=[]}
theorem fp_step (l:List Pr) (f:FuncId) (caps:List D) (hfn:D.fn? (.fn (.func f) [] caps)=some (f,[],caps)) (i:Nat) (h:i < l.length) (hl:l.length < 10000) (hc:C f (dP l[i] :: caps) σ=some (.ret ⟨false,.bool false⟩,σ')):exec C n none a_96 (Efp l f caps i) σ=some (.normal,Efp l f caps (i + 1),σ'):=by
 have hi:((i:Int) < (l.length:Int)):=by omega
 have hx:indexD 5 (dPs l) i=_:=idx_P l i h
 have w1:=wrap64_succ (i:=i) (by omega)
 generalize l[i]=x at *
 simp only [dP,cT] at hx hc
 simp only [a_96,Efp,sA,seval,kn,zeroI,lit1,lit2,lit3,lit4,lit5,lit6,lit7,lit8,natI,hi,hx,hfn,hc,w1]
theorem fp_end (l:List Pr) (f:FuncId) (caps:List D):exec C n none a_96 (Efp l f caps l.length) σ=some (.exit 0,{slots:=[(0,⟨false,dPs l⟩),(1,⟨false,.fn (.func f) [] caps⟩),(7,⟨false,.int .i64 l.length⟩),(8,⟨false,.int .i64 l.length⟩),(9,⟨false,.bool false⟩)],locs:=[],boxes:=[],defers:=[]},σ):=by
 have hi:¬ ((l.length:Int) < (l.length:Int)):=by omega
 simp only [a_96,Efp,sA,seval,kn,zeroI,lit1,lit2,lit3,lit4,lit5,lit6,lit7,lit8,hi]
end
theorem fp_loop {m:Nat} (l:List Pr) (hl:l.length < 10000) (f:FuncId) (caps:List D) (hfn:D.fn? (.fn (.func f) [] caps)=some (f,[],caps)) (m0:Nat) (σ0:Store) (hf:∀ i,i < l.length→∀ (h:i < l.length) σ,G m0 σ0 σ→∃ σ':Store,T m f (dP l[i] :: caps) σ=some (.ret ⟨false,.bool false⟩,σ')∧G m0 σ0 σ') :
  ∀ (r k i:Nat) (σ:Store),i + r=l.length→r < k→G m0 σ0 σ→∃ σ',loopN (exec (T m) m none a_96) k (Efp l f caps i) σ=some (.exit 0,{slots:=[(0,⟨false,dPs l⟩),(1,⟨false,.fn (.func f) [] caps⟩),(7,⟨false,.int .i64 l.length⟩),(8,⟨false,.int .i64 l.length⟩),(9,⟨false,.bool false⟩)],locs:=[],boxes:=[],defers:=[]},σ')∧G m0 σ0 σ'
 | _,0,_,_,_,hk,_=>absurd hk (by omega)
 | 0,k + 1,i,σ,hi,_,hg=>by
  have:i=l.length:=by omega
  subst this
  exact ⟨σ,loopN_stop (fp_end l f caps),hg⟩
 | r + 1,k + 1,i,σ,hi,hk,hg=>by
  obtain ⟨σ1,h1,g1⟩:=hf i (by omega) (by omega) σ hg
  obtain ⟨σ2,h2,g2⟩:=fp_loop l hl f caps hfn m0 σ0 hf r k (i + 1) σ1 (by omega) (by omega) g1
  exact ⟨σ2,loopN_next (fp_step l f caps hfn i (by omega) hl h1) h2,g2⟩
theorem allhold_run (gs:List Pr) (hl:gs.length < 1000):Evly fun n=>∀ (p mc mm:Nat) (ins:D) (es:List (Tx × Cs × Nat)) (k0:Nat) σ,p < σ.next→mc < σ.next→EV p mc mm ins es k0 σ→es.length < 500→(∀ y∈es,y.2.1.sups.length < 1000)→(∀ x∈gs,x.cls∈es.map Prod.fst)→∀ a c,a < σ.next→c < σ.next→aget σ.objs a=some [⟨false,.ptr p 0⟩]→aget σ.objs c=some [⟨false,dPs gs⟩] →
  ∃ σ',T n n_204 [dPs gs,fnG1 a c] σ=some (.ret ⟨false,.bool false⟩,σ')∧G σ.next σ σ':=by
 have hk:Evly fun n=>∀ i,i < gs.length→∀ (h:i < gs.length) (a c p mc mm:Nat) (ins:D) (es:List (Tx × Cs × Nat)) (k0:Nat) σ,p < σ.next→mc < σ.next→EV p mc mm ins es k0 σ→es.length < 500→(∀ y∈es,y.2.1.sups.length < 1000)→gs[i].cls∈es.map Prod.fst→aget σ.objs a=some [⟨false,.ptr p 0⟩]→aget σ.objs c=some [⟨false,dPs gs⟩] →
   ∃ σ',T n n_138 [dP gs[i],.ptr a 0,.ptr c 0] σ=some (.ret ⟨false,.bool false⟩,σ')∧G σ.next σ σ' :=
  Evly.below _ fun i hi=>(gen1_run gs hl gs[i] (List.getElem_mem hi)).mono fun n h _=>h
 have hix:Evly fun n=>∀ (p mc mm:Nat) (ins:D) (es:List (Tx × Cs × Nat)) (k0:Nat) σ,p < σ.next→mc < σ.next→EV p mc mm ins es k0 σ→es.length < 500→(∀ y∈es,y.2.1.sups.length < 1000)→(∀ x∈gs,x.cls∈es.map Prod.fst)→∀ a c,a < σ.next→c < σ.next→aget σ.objs a=some [⟨false,.ptr p 0⟩]→aget σ.objs c=some [⟨false,dPs gs⟩] →
   ∃ σ',T n n_265 [dPs gs,fnG1 a c] σ=some (.ret ⟨false,.int .i64 (-1)⟩,σ')∧G σ.next σ σ':=hk.step 1100 fun m hm h p mc mm ins es k0 σ hp hmc hE hes hsz hcl a c hal hcl2 ha hc=>by
  obtain ⟨σ',r1,gg⟩:=fp_loop (m:=m) gs (by omega) n_138 [.ptr a 0,.ptr c 0] rfl σ.next σ (fun i hi hi2 τ hg=>by
   obtain ⟨τ',r2,g2⟩:=h i hi hi2 a c p mc mm ins es k0 τ (Nat.lt_of_lt_of_le hp hg.le) (Nat.lt_of_lt_of_le hmc hg.le) (hE.keep hg hp hmc) hes hsz (hcl _ (List.getElem_mem hi2)) ((hg.objs a hal id).trans ha) ((hg.objs c hcl2 id).trans hc)
   exact ⟨τ',r2,hg.trans (g2.less hg.le)⟩) gs.length m 0 σ (by omega) (by omega) (G.refl _ _)
  refine ⟨σ',?_,gg⟩
  have hlp:lenOf (dPs gs)=some gs.length:=by simp only [dPs,lenOf_dlist,List.length_map]
  simp only [Efp,zeroI] at r1
  rw [T_fun (af:=a_172) rfl rfl]
  simp only [a_172,fnG1,sA,seval,kn,zeroI,lit1,lit2,lit3,lit4,lit5,lit6,lit7,lit8,hlp,r1]
 refine hix.step 0 fun m _ h p mc mm ins es k0 σ hp hmc hE hes hsz hcl a c hal hcl2 ha hc=>?_
 obtain ⟨σ',r1,gg⟩:=h p mc mm ins es k0 σ hp hmc hE hes hsz hcl a c hal hcl2 ha hc
 refine ⟨σ',?_,gg⟩
 have hlt:¬ ((-1:Int) ≥ 0):=by omega
 simp only [fnG1] at r1 ⊢
 rw [T_fun (af:=a_170) rfl rfl]
 simp only [a_170,sA,seval,kn,zeroI,lit1,lit2,lit3,lit4,lit5,lit6,lit7,lit8,r1,hlt]
end Go.Fu

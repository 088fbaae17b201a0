/-
 Schemes are made,whatever the numbers.
-/
import Derived.Test.YtieacpoabejcoaaGreatDoorFsG3
import Derived.Test.YtieacpoabejcoaaGreatDoorFsY5
set_option maxHeartbeats 4000000
set_option linter.unusedSimpArgs false
set_option linter.unusedVariables false
set_option linter.unusedSectionVars false
namespace Go.Fu
open Go Go.Mx
set_option maxRecDepth 10000
def vnS (n:Nat):List UInt8:=match n with
 | 0=>[97]
 | 1=>[98]
 | 2=>[99]
 | 3=>[120]
 | _=>[102]
theorem vn_get (n:Nat):nth [D.str [97],D.str [98],D.str [99],D.str [120],D.str [102]] (n % 5)=some (.str (vnS (n % 5))):=by
 have hk:n % 5=0∨n % 5=1∨n % 5=2∨n % 5=3∨n % 5=4:=by omega
 rcases hk with hk | hk | hk | hk | hk <;> rw [hk] <;> rfl
def vnL (a:Nat):Nat→List (List UInt8)
 | 0=>[]
 | i + 1=>vnL a i ++ [vnS ((i + a) % 5)]
theorem vnL_len (a:Nat):∀ i,(vnL a i).length=i
 | 0=>rfl
 | i + 1=>by simp [vnL,vnL_len a i]
theorem vnS_ok (n:Nat):okV (vnS n)=true:=by
 unfold vnS
 split <;> rfl
theorem vnL_ok (a:Nat):∀ q,∀ v∈vnL a q,okV v=true
 | 0,v,h=>by simp [vnL] at h
 | i + 1,v,h=>by
  simp only [vnL,List.mem_append,List.mem_singleton] at h
  rcases h with h | rfl
  ·exact vnL_ok a i v h
  ·exact vnS_ok _
def kdL (K:Nat→List D):Nat→List D
 | 0=>[]
 | i + 1=>kdL K i ++ [.agg [dlist k_4 (K i)]]
theorem kdL_len (K:Nat→List D):∀ i,(kdL K i).length=i
 | 0=>rfl
 | i + 1=>by simp [kdL,kdL_len K i]
theorem small_wrap (z:Int):Small (IntKind.i64.wrap z):=by
 unfold Small
 rw [IntKind.wrap_i64]
 omega
theorem small_tdiv {x:Int} (h:Small x) (m:Nat):Small (x.tdiv (m:Int)):=by
 unfold Small at *
 by_cases h0:0≤x
 ·rw [Int.tdiv_eq_ediv_of_nonneg h0]
  have e1:=Int.ediv_le_self (m:Int) h0
  have e2:=Int.ediv_nonneg h0 (show (0:Int)≤m by omega)
  generalize x / (m:Int)=y at *
  omega
 ·obtain ⟨y,rfl⟩:∃ y,x=-y:=⟨-x,by omega⟩
  have hy:0≤y:=by omega
  rw [Int.neg_tdiv,Int.tdiv_eq_ediv_of_nonneg hy]
  have e1:=Int.ediv_le_self (m:Int) hy
  have e2:=Int.ediv_nonneg hy (show (0:Int)≤m by omega)
  generalize y / (m:Int)=z at *
  omega
section
variable {C:CallF} {n:Nat} {σ:Store}
def bM (vs:List (List UInt8)) (kd:List D) (ps:List Pr) (t:Tp):List Cell:=⟨ow vs.length,dlist k_1 (vs.map D.str)⟩ :: ⟨ow kd.length,dlist k_4 kd⟩ :: ⟨false,dlist k_3 (ps.map dP)⟩ :: bT t
def b0:List Cell:=[⟨false,.nils⟩,⟨false,.nils⟩,⟨false,.nils⟩,⟨false,.int .i64 0⟩,⟨false,.int .i64 0⟩,⟨false,.str []⟩,⟨false,.nils⟩]
def Em (x:Int) (q i:Nat) (vs:List (List UInt8)) (kd:List D) (ps:List Pr) (t:Tp):Env:={slots:=[(2,⟨false,.int .i64 x⟩),(8,⟨false,.int .i64 q⟩),(9,⟨false,.int .i64 i⟩)],locs:=[(6,6,0),(7,7,0)],boxes:=[(6,b0),(7,bM vs kd ps t)],defers:=[]}
def Eme (x:Int) (q i:Nat) (vs:List (List UInt8)) (kd:List D) (ps:List Pr) (t:Tp):Env:={slots:=[(2,⟨false,.int .i64 x⟩),(8,⟨false,.int .i64 q⟩),(9,⟨false,.int .i64 i⟩),(26,⟨false,.bool false⟩)],locs:=[(6,6,0),(7,7,0)],boxes:=[(6,b0),(7,bM vs kd ps t)],defers:=[]}
theorem lm_end (x:Int) (q:Nat) (vs:List (List UInt8)) (kd:List D) (ps:List Pr) (t:Tp):exec C n none a_24 (Em x q q vs kd ps t) σ=some (.exit 0,Eme x q q vs kd ps t,σ):=by
 have h1:¬ ((q:Int) < (q:Int)):=by omega
 simp only [a_24,Em,Eme,bM,b0,bT,sA,Nat.reduceAdd,Nat.reduceSub,Nat.reduceMul,Nat.reduceBEq,Nat.reduceLeDiff,Int.reduceBEq,Int.reduceBNe,Int.reduceLE,Int.reduceLT,Int.reduceGE,Int.reduceGT,Int.reduceNeg,kn,h1]
theorem lm_plain (x:Int) (q i a b:Nat) (vs:List (List UInt8)) (kd:List D) (ps:List Pr) (t:Tp) (hi:i < q) (hq:q < 100) (ha:a < 100) (hv:vs.length=i) (hb:b≠1)
  (w18:IntKind.i64.wrap (x.tdiv 18)=x.tdiv 18) (w90:IntKind.i64.wrap (x.tdiv 90)=x.tdiv 90)
  (hc1:C n_5 [.int .i64 (x.tdiv 18),.int .i64 5] σ=some (.ret ⟨false,.int .i64 a⟩,σ)) (hc2:C n_5 [.int .i64 (x.tdiv 90),.int .i64 2] σ=some (.ret ⟨false,.int .i64 b⟩,σ)) :
  exec C n none a_24 (Em x q i vs kd ps t) σ=some (.normal,Em x q (i + 1) (vs ++ [vnS ((i + a) % 5)]) kd ps t,σ):=by
 have h1:((i:Int) < (q:Int)):=by omega
 have w1:=wrap64_succ (i:=i) (by omega)
 have w2:IntKind.i64.wrap ((i:Int) + (a:Int))=((i + a:Nat):Int):=by rw [wrap64 (by omega) (by omega)]; omega
 have w3:(((i + a:Nat):Int)).tmod 5=(((i + a) % 5:Nat):Int):=tmodN _ 5
 have hx:=vn_get (i + a)
 have hap:=append_S vs (vnS ((i + a) % 5)) (ow vs.length) (by cases vs with
  | nil=>intro h; exact absurd rfl h
  | cons x r=>intro _; rfl) (by omega)
 have how:ow (vs ++ [vnS ((i + a) % 5)]).length=true:=by simp [ow_succ]
 have hb1:(((b:Nat):Int) == 1)=false:=by simp; omega
 simp only [a_24,Em,bM,b0,bT,sA,Nat.reduceAdd,Nat.reduceSub,Nat.reduceMul,Nat.reduceBEq,Nat.reduceLeDiff,Int.reduceBEq,Int.reduceBNe,Int.reduceLE,Int.reduceLT,Int.reduceGE,Int.reduceGT,Int.reduceNeg,kn,h1,w1,w2,w3,w18,w90,hc1,hc2,hx,hap,how,hb1]
theorem lm_kind (x:Int) (q i a:Nat) (vs:List (List UInt8)) (kd:List D) (ps:List Pr) (t:Tp) (K:List D) (hi:i < q) (hq:q < 100) (ha:a < 100) (hv:vs.length=i) (hk:kd.length=i)
  (w18:IntKind.i64.wrap (x.tdiv 18)=x.tdiv 18) (w90:IntKind.i64.wrap (x.tdiv 90)=x.tdiv 90) (w7:IntKind.i64.wrap (x.tdiv 7)=x.tdiv 7)
  (hc1:C n_5 [.int .i64 (x.tdiv 18),.int .i64 5] σ=some (.ret ⟨false,.int .i64 a⟩,σ)) (hc2:C n_5 [.int .i64 (x.tdiv 90),.int .i64 2] σ=some (.ret ⟨false,.int .i64 1⟩,σ))
  (hc3:C n_121 [.list k_int [.int .i64 (IntKind.i64.wrap (x + i)),.int .i64 i,.int .i64 (x.tdiv 7),.int .i64 (IntKind.i64.wrap (i * x))]] σ=some (.ret ⟨false,.agg [dlist k_4 K]⟩,σ)) :
  exec C n none a_24 (Em x q i vs kd ps t) σ=some (.normal,Em x q (i + 1) (vs ++ [vnS ((i + a) % 5)]) (kd ++ [.agg [dlist k_4 K]]) ps t,σ):=by
 have h1:((i:Int) < (q:Int)):=by omega
 have w1:=wrap64_succ (i:=i) (by omega)
 have w2:IntKind.i64.wrap ((i:Int) + (a:Int))=((i + a:Nat):Int):=by rw [wrap64 (by omega) (by omega)]; omega
 have w3:(((i + a:Nat):Int)).tmod 5=(((i + a) % 5:Nat):Int):=tmodN _ 5
 have hx:=vn_get (i + a)
 have hap:=append_S vs (vnS ((i + a) % 5)) (ow vs.length) (by cases vs with
  | nil=>intro h; exact absurd rfl h
  | cons x r=>intro _; rfl) (by omega)
 have hak:=append_one (r:=k_4) (by_:=24) (es:=kd) (o:=ow kd.length) (y:=.agg [dlist k_4 K]) (by cases kd with
  | nil=>intro h; exact absurd rfl h
  | cons x r=>intro _; rfl) (ok_agg1 K).1 (ok_agg1 K).2 (by simp [bound]; omega) (by simp [bound]; omega)
 have how:ow (vs ++ [vnS ((i + a) % 5)]).length=true:=by simp [ow_succ]
 have how2:ow (kd ++ [D.agg [dlist k_4 K]]).length=true:=by simp [ow_succ]
 simp only [a_24,Em,bM,b0,bT,sA,Nat.reduceAdd,Nat.reduceSub,Nat.reduceMul,Nat.reduceBEq,Nat.reduceLeDiff,Int.reduceBEq,Int.reduceBNe,Int.reduceLE,Int.reduceLT,Int.reduceGE,Int.reduceGT,Int.reduceNeg,kn,h1,w1,w2,w3,w7,w18,w90,hc1,hc2,hc3,hx,hap,hak,how,how2]
theorem made_end (m:Nat) (d d1:D) (o:Bool) (x:Int) (a q:Nat) (t t2 t3:Tp) (ps:List Pr) (vs:List (List UInt8)) (kd:List D) (h1:T m n_96 [d] σ=some (.ret ⟨false,dT t⟩,σ)) (h2:T m n_189 [d1,.int .i64 4] σ=some (.ret ⟨o,dPs ps⟩,σ))
  (h3:T m n_5 [.int .i64 x,.int .i64 3] σ=some (.ret ⟨false,.int .i64 a⟩,σ)) (h4:T m n_5 [.int .i64 (x.tdiv 3),.int .i64 6] σ=some (.ret ⟨false,.int .i64 q⟩,σ)) (hw:IntKind.i64.wrap (x.tdiv 3)=x.tdiv 3)
  (h6:T m n_187 [d] σ=some (.ret ⟨false,dT t2⟩,σ)) (h3t:t3=if a=2 then t2 else t) (hloop:loopN (exec (T m) m none a_24) m (Em x q 0 [] [] ps t3) σ=some (.exit 0,Eme x q q vs kd ps t3,σ)) :
  T (m + 1) n_172 [d,d1,.int .i64 x] σ=some (.ret ⟨false,.agg (dSs vs :: dlist k_4 kd :: dPs ps :: cT t3)⟩,σ):=by
 rw [T_fun (af:=a_112) rfl rfl]
 simp only [dT_eq,cT,dPs,dSs] at h1 h2 h6 ⊢
 simp only [Em,Eme,bM,b0,bT,List.map_nil,dlist_nil,List.length_nil,ow_zero,zeroI] at hloop
 by_cases h5:a=2
 ·rw [if_pos h5] at h3t
  subst h3t
  have h5':((a:Int) == 2)=true:=by simp; omega
  simp only [a_112,sA,Nat.reduceAdd,Nat.reduceSub,Nat.reduceMul,Nat.reduceBEq,Nat.reduceLeDiff,Int.reduceBEq,Int.reduceBNe,Int.reduceLE,Int.reduceLT,Int.reduceGE,Int.reduceGT,Int.reduceNeg,kn,h1,h2,h3,h4,h5',hw,h6,hloop]
  done
 ·rw [if_neg h5] at h3t
  subst h3t
  have h5':((a:Int) == 2)=false:=by simp; omega
  simp only [a_112,sA,Nat.reduceAdd,Nat.reduceSub,Nat.reduceMul,Nat.reduceBEq,Nat.reduceLeDiff,Int.reduceBEq,Int.reduceBNe,Int.reduceLE,Int.reduceLT,Int.reduceGE,Int.reduceGT,Int.reduceNeg,kn,h1,h2,h3,h4,h5',hw,hloop]
  done
end
theorem made_run (d d1:D) (xs ys:List Int) (x:Int) (hR:Row d xs) (hS:Smalls xs) (hR1:Row d1 ys) (hS1:Smalls ys) (hx:Small x):∃ (vs:List (List UInt8)) (kd:List D) (ps:List Pr) (t:Tp),(vs.length≤5∧∀ v∈vs,okV v=true)∧(ps.length≤4∧∀ p∈ps,LP p)∧LB 5 t ∧
  Evly fun n=>∀ σ,T n n_172 [d,d1,.int .i64 x] σ=some (.ret ⟨false,.agg (dSs vs :: dlist k_4 kd :: dPs ps :: cT t)⟩,σ):=by
 obtain ⟨t,hLt,h1⟩:=type_run d xs hR hS
 obtain ⟨t2,hLt2,h6⟩:=plain_run d xs hR hS
 obtain ⟨ps,hps,h2⟩:=preds_run d1 ys hR1 hS1
 have small:∀ m:Nat,Small (x.tdiv (m:Int)):=small_tdiv hx
 have s3:=small 3
 have s7:=small 7
 have s18:=small 18
 have s90:=small 90
 have w3:IntKind.i64.wrap (x.tdiv 3)=x.tdiv 3:=wrap64 s3.1 s3.2
 have w7:IntKind.i64.wrap (x.tdiv 7)=x.tdiv 7:=wrap64 s7.1 s7.2
 have w18:IntKind.i64.wrap (x.tdiv 18)=x.tdiv 18:=wrap64 s18.1 s18.2
 have w90:IntKind.i64.wrap (x.tdiv 90)=x.tdiv 90:=wrap64 s90.1 s90.2
 have hq:=aro_lt (x.tdiv 3) (m:=6) (by omega)
 have ha5:=aro_lt (x.tdiv 18) (m:=5) (by omega)
 have r3:Evly fun n=>∀ σ,T n n_5 [.int .i64 x,.int .i64 3] σ=some (.ret ⟨false,.int .i64 (aro x 3)⟩,σ):=aroundL.mono fun n h σ=>h x 3 3 σ hx rfl (by omega) (by omega)
 have r6:Evly fun n=>∀ σ,T n n_5 [.int .i64 (x.tdiv 3),.int .i64 6] σ=some (.ret ⟨false,.int .i64 (aro (x.tdiv 3) 6)⟩,σ):=aroundL.mono fun n h σ=>h _ 6 6 σ s3 rfl (by omega) (by omega)
 have r18:Evly fun n=>∀ σ,T n n_5 [.int .i64 (x.tdiv 18),.int .i64 5] σ=some (.ret ⟨false,.int .i64 (aro (x.tdiv 18) 5)⟩,σ):=aroundL.mono fun n h σ=>h _ 5 5 σ s18 rfl (by omega) (by omega)
 have r90:Evly fun n=>∀ σ,T n n_5 [.int .i64 (x.tdiv 90),.int .i64 2] σ=some (.ret ⟨false,.int .i64 (aro (x.tdiv 90) 2)⟩,σ):=aroundL.mono fun n h σ=>h _ 2 2 σ s90 rfl (by omega) (by omega)
 generalize aro (x.tdiv 3) 6=q at hq r6
 generalize aro (x.tdiv 18) 5=a at ha5 r18
 by_cases hb:aro (x.tdiv 90) 2=1
 ·rw [hb] at r90
  have hK:∀ i:Nat,∃ K:List D,Evly fun n=>∀ σ,T n n_121 [.list k_int [.int .i64 (IntKind.i64.wrap (x + i)),.int .i64 (IntKind.i64.wrap i),.int .i64 (x.tdiv 7),.int .i64 (IntKind.i64.wrap (i * x))]] σ=some (.ret ⟨false,.agg [dlist k_4 K]⟩,σ):=fun i =>
   kind_run _ [IntKind.i64.wrap (x + i),IntKind.i64.wrap i,x.tdiv 7,IntKind.i64.wrap (i * x)] (.inl rfl) (fun y hy=>by
    simp only [List.mem_cons,List.not_mem_nil,or_false] at hy
    rcases hy with rfl | rfl | rfl | rfl
    ·exact small_wrap _
    ·exact small_wrap _
    ·exact s7
    ·exact small_wrap _)
  obtain ⟨K,hK⟩:=Classical.skolem.1 hK
  have hKs:Evly fun n=>∀ i,i < q→∀ σ,T n n_121 [.list k_int [.int .i64 (IntKind.i64.wrap (x + i)),.int .i64 i,.int .i64 (x.tdiv 7),.int .i64 (IntKind.i64.wrap (i * x))]] σ=some (.ret ⟨false,.agg [dlist k_4 (K i)]⟩,σ) :=
   Evly.below _ fun i hi=>(hK i).mono fun n h σ=>by
    have:=h σ
    rw [wrap64 (n:=(i:Int)) (by omega) (by omega)] at this
    exact this
  refine ⟨vnL a q,kdL K q,ps,(if aro x 3=2 then t2 else t),⟨by rw [vnL_len]; omega,vnL_ok a q⟩,hps,(by split <;> first | exact hLt2 | exact hLt.toB),(h1.and (h2.and (h6.and (r3.and (r6.and (r18.and (r90.and hKs))))))).step 8 fun m hm h σ=>?_⟩
  obtain ⟨e1,e2,e6,e3,e4,e18,e90,eK⟩:=h
  have hloop:=loopN_run (body:=exec (T m) m none a_24) (fun i=>Em x q i (vnL a i) (kdL K i) ps (if aro x 3=2 then t2 else t)) (fun _=>σ) q (r:=_) (fun _ _ h=>by cases h)
   (fun i hi=>lm_kind x q i a (vnL a i) (kdL K i) ps _ (K i) hi (by omega) (by omega) (vnL_len a i) (kdL_len K i) w18 w90 w7 (e18 σ) (e90 σ) (eK i hi σ)) (lm_end x q _ _ ps _) 0 m (by omega) (by omega)
  exact made_end m d d1 _ x (aro x 3) q t t2 _ ps _ _ (e1 σ) (e2 σ) (e3 σ) (e4 σ) w3 (e6 σ) rfl hloop
 ·refine ⟨vnL a q,[],ps,(if aro x 3=2 then t2 else t),⟨by rw [vnL_len]; omega,vnL_ok a q⟩,hps,(by split <;> first | exact hLt2 | exact hLt.toB),(h1.and (h2.and (h6.and (r3.and (r6.and (r18.and r90)))))).step 8 fun m hm h σ=>?_⟩
  obtain ⟨e1,e2,e6,e3,e4,e18,e90⟩:=h
  have hloop:=loopN_run (body:=exec (T m) m none a_24) (fun i=>Em x q i (vnL a i) [] ps (if aro x 3=2 then t2 else t)) (fun _=>σ) q (r:=_) (fun _ _ h=>by cases h)
   (fun i hi=>lm_plain x q i a _ (vnL a i) [] ps _ hi (by omega) (by omega) (vnL_len a i) hb w18 w90 (e18 σ) (e90 σ)) (lm_end x q _ _ ps _) 0 m (by omega) (by omega)
  exact made_end m d d1 _ x (aro x 3) q t t2 _ ps _ _ (e1 σ) (e2 σ) (e3 σ) (e4 σ) w3 (e6 σ) rfl hloop
end Go.Fu
namespace Go.Fu
open Go Go.Mx
set_option maxRecDepth 10000
set_option maxHeartbeats 4000000
def WE (p:Nat) (σ:Store):Prop:=∃ mc mm is es k0,EV p mc mm (dIl is) es k0 σ∧p < σ.next∧mc < σ.next∧es.length < 500∧(∀ y∈es,y.2.1.sups.length < 1000)∧is.length < 10000
theorem lworld_run (d:D) (xs:List Int) (hR:Row d xs) (hS:Smalls' xs):Evly fun n=>∀ σ,∃ σ' cs is,T n n_185 [d] σ=some (.ret ⟨false,.tup [.nilp,dPg cs is]⟩,σ')∨∃ p,T n n_185 [d] σ=some (.ret ⟨false,.tup [.ptr p 0,dPg cs is]⟩,σ')∧WE p σ':=by
 obtain ⟨N1,hN⟩:=New_run
 have hNe:Evly fun n=>∀ (cs:List Cs) (is:List In) (_:cs.length < 500) (_:∀ x∈cs,x.sups.length < 1000∧x.mets.length≤1000) (_:is.length < 1000) σ,∃ σ',
   (∃ a b:Int,a≠0∧T n n_120 [dPg cs is] σ=some (.ret ⟨false,.tup [.nilp,.agg [.int .i64 a,.int .i64 b]]⟩,σ')) ∨
   (∃ p mc mm es k0,T n n_120 [dPg cs is] σ=some (.ret ⟨false,.tup [.ptr p 0,.agg [.int .i64 0,.int .i64 0]]⟩,σ')∧EV p mc mm (dIl is) es k0 σ'∧p < σ'.next∧mc < σ'.next∧es.length < 500∧∀ y∈es,y.2.1∈cs):=⟨N1,fun n hn=>hN n hn⟩
 refine ((world12_run d xs hR hS).and hNe).step 10 fun m _ h σ=>?_
 obtain ⟨cs,is,hcs,hg,his,w1⟩:=h.1 σ
 have e1:=one_dCl cs
 have e2:=one_dIl is
 obtain ⟨σ',hn⟩:=h.2 cs is (by omega) (fun x hx=>by have:=hg x hx; exact ⟨by have:=this.1; omega,by have:=this.2; omega⟩) (by omega) σ
 rcases hn with ⟨a,b,ha,h1⟩ | ⟨p,mc,mm,es,k0,h1,hE,hp,hmc,hes,hmem⟩
 ·refine ⟨σ',cs,is,.inl ?_⟩
  have hne:(a != 0)=true:=by simpa using ha
  simp only [dPg] at w1 h1 ⊢
  rw [T_fun (af:=a_68) rfl rfl]
  simp only [a_68,sA,Nat.reduceAdd,Nat.reduceSub,Nat.reduceMul,Nat.reduceBEq,Nat.reduceLeDiff,Int.reduceBEq,Int.reduceBNe,Int.reduceLE,Int.reduceLT,Int.reduceGE,Int.reduceGT,Int.reduceNeg,kn,e1,e2,w1,h1,hne]
 ·refine ⟨σ',cs,is,.inr ⟨p,?_,mc,mm,is,es,k0,hE,hp,hmc,hes,fun y hy=>by have:=(hg _ (hmem y hy)).1; omega,by omega⟩⟩
  simp only [dPg] at w1 h1 ⊢
  rw [T_fun (af:=a_68) rfl rfl]
  simp only [a_68,sA,Nat.reduceAdd,Nat.reduceSub,Nat.reduceMul,Nat.reduceBEq,Nat.reduceLeDiff,Int.reduceBEq,Int.reduceBNe,Int.reduceLE,Int.reduceLT,Int.reduceGE,Int.reduceGT,Int.reduceNeg,kn,e1,e2,w1,h1]
theorem row_drop {d:D} {xs:List Int} (h:Row d xs) (k:Nat) (hk:k≤xs.length):∃ d',sliceD 1 d k none=some d'∧Row d' (xs.drop k):=by
 rcases h with rfl | ⟨rfl,rfl⟩
 ·refine ⟨.list k_int ((xs.drop k).map fun x=>.int .i64 x),?_,.inl rfl⟩
  have h1:((xs.map fun x=>D.int .i64 x).take xs.length).drop k=(xs.drop k).map fun x=>.int .i64 x:=by rw [List.take_of_length_le (by simp),List.map_drop]
  have h2:((xs.map fun x=>D.int .i64 x).drop k).take (xs.length - k)=(xs.drop k).map fun x=>.int .i64 x:=by rw [← List.map_drop,List.take_of_length_le (by simp)]
  simp only [sliceD,Option.getD_none,List.length_map,k_168]
  simp [ifB,hk]
  first | exact h1 | exact h2 | simpa using h1 | simpa using h2
 ·simp only [List.length_nil,Nat.le_zero_eq] at hk
  subst hk
  exact ⟨.nils,rfl,.inr ⟨rfl,rfl⟩⟩
theorem tys_ex (d:D) (xs:List Int) (hR:Row d xs) (hS:Smalls xs) (a:Nat):∀ j:Nat,∃ bys:List Tp,bys.length=j∧(∀ t∈bys,LA 4 t)∧Evly fun n=>∀ i,i < j→∃ d',sliceD 1 d (min xs.length (i + a)) none=some d'∧∀ σ,T n n_96 [d'] σ=some (.ret ⟨false,dT (bys.getD i (.hole 0))⟩,σ)
 | 0=>⟨[],rfl,by simp,any _ fun _ i h=>absurd h (by omega)⟩
 | j + 1=>by
  obtain ⟨bys,hl,hg,hE⟩:=tys_ex d xs hR hS a j
  obtain ⟨d',hs,hR'⟩:=row_drop hR (min xs.length (j + a)) (by omega)
  obtain ⟨t,ht,hE2⟩:=type_run d' (xs.drop (min xs.length (j + a))) hR' fun x hx=>hS x (List.mem_of_mem_drop hx)
  refine ⟨bys ++ [t],by simp [hl],fun u hu=>?_,(hE.and hE2).mono fun n h i hi=>?_⟩
  ·rcases List.mem_append.1 hu with hu | hu
   ·exact hg u hu
   ·rw [List.mem_singleton.1 hu]; exact ht
  ·by_cases hij:i < j
   ·obtain ⟨d2,s2,r2⟩:=h.1 i hij
    refine ⟨d2,s2,fun σ=>?_⟩
    have e:(bys ++ [t]).getD i (.hole 0)=bys.getD i (.hole 0):=by
     simp only [List.getD_eq_getElem?_getD]
     rw [List.getElem?_append_left (by omega)]
    rw [e]
    exact r2 σ
   ·have:i=j:=by omega
    subst this
    refine ⟨d',hs,fun σ=>?_⟩
    have e:(bys ++ [t]).getD i (.hole 0)=t:=by
     simp only [List.getD_eq_getElem?_getD]
     rw [List.getElem?_append_right (by omega),hl,Nat.sub_self]
     rfl
    rw [e]
    exact h.2 σ
section
variable {C:CallF} {N:Nat} {σ:Store}
def bS7 (vs:List Tx) (kd:D) (ps:List Pr) (t:Tp):List Cell:=⟨false,dSs vs⟩ :: ⟨false,kd⟩ :: ⟨false,dPs ps⟩ :: bT t
def z7:List Cell:=[⟨false,.nils⟩,⟨false,.nils⟩,⟨false,.nils⟩,⟨false,.int .i64 0⟩,⟨false,.int .i64 0⟩,⟨false,.str []⟩,⟨false,.nils⟩]
def Ein (d:D) (x:Int) (vs:List Tx) (kd:D) (ps:List Pr) (t:Tp) (bys:List Tp) (i:Nat):Env:={slots:=[(1,⟨false,d⟩),(2,⟨false,.int .i64 x⟩),(7,⟨ow i,dTs (bys.take i)⟩),(8,⟨false,.int .i64 i⟩)],locs:=[(3,3,0),(6,6,0)],boxes:=[(3,bS7 vs kd ps t),(6,z7)],defers:=[]}
theorem in_step (d d':D) (len:Nat) (hd:lenOf d=some len) (x:Int) (vs:List Tx) (kd:D) (ps:List Pr) (t:Tp) (bys:List Tp) (hb:bys.length=vs.length) (i:Nat) (h:i < vs.length) (hl:vs.length < 1000) (a:Nat) (ha:a < 3) (h1:C n_5 [.int .i64 x,.int .i64 3] σ=some (.ret ⟨false,.int .i64 (a:Nat)⟩,σ))
  (h2:sliceD 1 d (min len (i + a)) none=some d') (h3:C n_96 [d'] σ=some (.ret ⟨false,dT (bys.getD i (.hole 0))⟩,σ)):exec C N none a_67 (Ein d x vs kd ps t bys i) σ=some (.normal,Ein d x vs kd ps t bys (i + 1),σ):=by
 have hlt:((i:Int) < (vs.length:Int)):=by omega
 have hlv:lenOf (dSs vs)=some vs.length:=by simp only [dSs,lenOf_dlist,List.length_map]
 have w1:=wrap64_succ (i:=i) (by omega)
 have w2:IntKind.i64.wrap ((i:Int) + (a:Int))=((i + a:Nat):Int):=by rw [wrap64 (by omega) (by omega)]; omega
 have hmin:ifB (decide (((i + a:Nat):Int) < (len:Int))) ((i + a:Nat):Int) (len:Int)=((min len (i + a):Nat):Int):=by
  by_cases hc:((i + a:Nat):Int) < (len:Int)
  ·rw [decide_eq_true hc,ifB_true]; omega
  ·rw [decide_eq_false hc,ifB_false]; omega
 have hib:i < bys.length:=by omega
 have hap:=append_T (bys.take i) bys[i] (ow i) ow_ne (by simp; omega)
 rw [take_snoc _ _ hib] at hap
 have hg:bys.getD i (.hole 0)=bys[i]:=by simp [hib]
 rw [hg] at h3
 generalize bys[i]=u at *
 rw [dT_eq u] at h3 hap
 simp only [cT] at h3 hap
 have e1:∀ l:List Tp,dTs l=dlist k_0 (l.map dT):=fun _=>rfl
 simp only [a_67,Ein,bS7,z7,bT,e1,sA,Nat.reduceAdd,Nat.reduceSub,Nat.reduceMul,Nat.reduceBEq,Nat.reduceLeDiff,Int.reduceBEq,Int.reduceBNe,Int.reduceLE,Int.reduceLT,Int.reduceGE,Int.reduceGT,Int.reduceNeg,kn,zeroI,lit1,lit2,lit3,lit4,lit5,lit6,lit7,lit8,natI,hlv,hlt,hd,h1,w1,w2,hmin,h2,h3,hap,ow_succ]
theorem in_end (d:D) (x:Int) (vs:List Tx) (kd:D) (ps:List Pr) (t:Tp) (bys:List Tp) (hb:bys.length=vs.length):exec C N none a_67 (Ein d x vs kd ps t bys vs.length) σ=some (.exit 0,{slots:=[(1,⟨false,d⟩),(2,⟨false,.int .i64 x⟩),(7,⟨ow vs.length,dTs bys⟩),(8,⟨false,.int .i64 vs.length⟩),(13,⟨false,.bool false⟩)],locs:=[(3,3,0),(6,6,0)],boxes:=[(3,bS7 vs kd ps t),(6,z7)],defers:=[]},σ):=by
 have hlt:¬ ((vs.length:Int) < (vs.length:Int)):=by omega
 have hlv:lenOf (dSs vs)=some vs.length:=by simp only [dSs,lenOf_dlist,List.length_map]
 have e:bys.take vs.length=bys:=List.take_of_length_le (by omega)
 simp only [a_67,Ein,bS7,z7,bT,sA,Nat.reduceAdd,Nat.reduceSub,Nat.reduceMul,Nat.reduceBEq,Nat.reduceLeDiff,Int.reduceBEq,Int.reduceBNe,Int.reduceLE,Int.reduceLT,Int.reduceGE,Int.reduceGT,Int.reduceNeg,kn,zeroI,lit1,lit2,lit3,lit4,lit5,lit6,lit7,lit8,hlv,hlt,e]
end
theorem instance_run (d:D) (xs:List Int) (hR:Row d xs) (hS:Smalls xs) (x:Int) (hx:Small x) (vs:List Tx) (kd:D) (hk:kd.one=true) (ps:List Pr) (t:Tp) (hv:vs.length < 100) (hp:ps.length < 1000):∃ bys:List Tp,bys.length=vs.length∧(∀ u∈bys,LA 4 u)∧Evly fun n=>∀ σ,T n n_240 [dSc vs kd ps t,d,.int .i64 x] σ=some (.ret ⟨false,dSc [[97],[98],[99]] .nils (ps.map (putP vs bys)) (subT vs bys t)⟩,σ):=by
 obtain ⟨bys,hb,hg,hE⟩:=tys_ex d xs hR hS (aro x 3) vs.length
 refine ⟨bys,hb,hg,?_⟩
 have hput:=Put_run ps vs bys (by omega) (by omega) hb
 have hsub:=r04_subst_run vs bys (by omega) hb t
 refine (((hE.and aroundL).and (hput.and hsub))).step 110 fun m hm h σ=>?_
 obtain ⟨⟨h1,h2⟩,h3,h4⟩:=h
 have l0:=loopN_run (body:=exec (T m) m none a_67) (Ein d x vs kd ps t bys) (fun _=>σ) vs.length (r:=_) (fun _ _ h=>by cases h) (fun j hj=>by
  obtain ⟨d',s1,s2⟩:=h1 j hj
  exact in_step d d' xs.length (row_len hR) x vs kd ps t bys hb j hj (by omega) (aro x 3) (aro_lt x (by omega)) (h2 x 3 3 σ hx rfl (by omega) (by omega)) s1 (s2 σ)) (in_end d x vs kd ps t bys hb) 0 m (by omega) (by omega)
 have g3:=h3 σ
 have g4:=h4 σ
 have zt:dTs []=.nils:=rfl
 have oP:∀ l:List Pr,(dPs l).one=true:=one_dPs
 have oS:∀ l:List Tx,(dSs l).one=true:=one_dSs
 have oK:∀ l:List Pr,(dPs l).ok=true:=fun _=>ok_dlist
 have oL:∀ l:List Pr,(dPs l).cells=[dPs l]:=fun _=>cells_dlist
 have eS:D.list k_1 [.str [97],.str [98],.str [99]]=dSs [[97],[98],[99]]:=rfl
 have s1:(dSs [[97],[98],[99]]).ok=true:=ok_dlist
 have s2:(dSs [[97],[98],[99]]).cells=[dSs [[97],[98],[99]]]:=cells_dlist
 simp only [Ein,bS7,z7,bT,List.take_zero,zt,ow_zero,zeroI] at l0
 generalize ps.map (putP vs bys)=P at *
 generalize subT vs bys t=u at *
 rw [dT_eq t,dT_eq u] at g4
 simp only [cT] at g4
 simp only [dSc,cT]
 rw [T_fun (af:=a_137) rfl rfl]
 simp only [a_137,sA,Nat.reduceAdd,Nat.reduceSub,Nat.reduceMul,Nat.reduceBEq,Nat.reduceLeDiff,Int.reduceBEq,Int.reduceBNe,Int.reduceLE,Int.reduceLT,Int.reduceGE,Int.reduceGT,Int.reduceNeg,kn,zeroI,lit1,lit2,lit3,lit4,lit5,lit6,lit7,lit8,hk,oP,oS,oK,oL,eS,s1,s2,l0,g3,g4]
end Go.Fu
namespace Go.Fu
open Go Go.Mx
set_option maxRecDepth 10000
set_option maxHeartbeats 4000000
theorem pos_ap0:∀ n:Fin 6,∀ k:Fin 6,k < n→posS [64,UInt8.ofNat (48 + k)] (apN 64 n)=some k.val:=by decide
theorem pos_ap {n k:Nat} (hn:n < 6) (hk:k < n):posS [64,UInt8.ofNat (48 + k)] (apN 64 n)=some k:=pos_ap0 ⟨n,hn⟩ ⟨k,by omega⟩ hk
theorem pos_apN {c:UInt8} {n:Nat} {s:Tx} (h:s.length≠2):posS s (apN c n)=none:=posS_none fun i hi=>by
 have:(apN c n)[i].length=2:=by simp [apN]
 simp only [beq_eq_false_iff_ne]
 intro e
 rw [e] at h
 exact h this
def vs1:Tp→Bool
 | .var s=>s.length == 1
 | .app f a=>vs1 f && vs1 a
 | _=>true
theorem okV_len {s:Tx} (h:okV s=true):s.length=1:=by
 unfold okV at h
 split at h
 ·rfl
 ·cases h
theorem vs1_of_tyB:∀ t:Tp,tyB t=true→vs1 t=true
 | .hole _,_=>rfl
 | .con _,_=>rfl
 | .var s,h=>by
  have:=okV_len h
  simp [vs1,this]
 | .app f a,h=>by
  simp only [tyB,Bool.and_eq_true] at h
  simp only [vs1,Bool.and_eq_true]
  exact ⟨vs1_of_tyB f h.1,vs1_of_tyB a h.2⟩
theorem match_apart (vs:List Tx) (hv:vs.length < 6):∀ (p u:Tp) (l:List (Option Tp)),vs1 p=true→matchM (apN 64 vs.length) (apV 64 vs p) u l=matchM vs p u l
 | .hole x,u,l,_=>rfl
 | .con s,u,l,_=>rfl
 | .var s,u,l,h=>by
  simp only [vs1,beq_iff_eq] at h
  cases hp:posS s vs with
  | none =>
   have e:apV 64 vs (.var s)=.var s:=by simp only [apV,subT,hp]
   have h2:posS s (apN 64 vs.length)=none:=pos_apN (by omega)
   rw [e]
   simp only [matchM,hp,h2]
  | some k =>
   have hk:=posS_lt hp
   have hk2:k < (apT 64 vs.length).length:=by rw [apT_len]; exact hk
   have g2:(apT 64 vs.length)[k]=.var [64,UInt8.ofNat (48 + k)]:=by simp [apT,apN]
   have e:apV 64 vs (.var s)=.var [64,UInt8.ofNat (48 + k)]:=by
    simp only [apV,subT,hp]
    rw [← g2]
    simp [hk2]
   have h2:=pos_ap hv hk
   rw [e]
   simp only [matchM,hp,h2]
 | .app f a,u,l,h=>by
  simp only [vs1,Bool.and_eq_true] at h
  have e:apV 64 vs (.app f a)=.app (apV 64 vs f) (apV 64 vs a):=rfl
  rw [e]
  cases u with
  | app g b =>
   have h1:=match_apart vs hv f g l h.1
   have h2:=match_apart vs hv a b (matchM vs f g l).2 h.2
   simp only [matchM,h1,h2]
  | _=>rfl
theorem cf_nil:Evly fun n=>∀ (g:D) σ,g.one=true→T n n_193 [.nils,g] σ=some (.ret ⟨false,.bool false⟩,σ):=by
 have h1:Evly fun n=>∀ (g:D) σ,g.one=true→T n n_255 [.nils,g] σ=some (.ret ⟨false,.int .i64 (-1)⟩,σ):=(any (fun _=>True) fun _=>trivial).step 5 fun m hm _ g σ hg=>by
  have hl:loopN (exec (T m) m none a_181) m {slots:=[(0,⟨false,.nils⟩),(1,⟨false,g⟩),(7,⟨false,.int .i64 0⟩),(8,⟨false,.int .i64 0⟩)],locs:=[],boxes:=[],defers:=[]} σ=some (.exit 0,{slots:=[(0,⟨false,.nils⟩),(1,⟨false,g⟩),(7,⟨false,.int .i64 0⟩),(8,⟨false,.int .i64 0⟩),(9,⟨false,.bool false⟩)],locs:=[],boxes:=[],defers:=[]},σ):=by
   obtain ⟨k,rfl⟩:∃ k,m=k + 1:=⟨m - 1,by omega⟩
   have hlt:¬ ((0:Int) < 0):=by omega
   refine loopN_stop ?_
   simp only [a_181,sA,Nat.reduceAdd,Nat.reduceSub,Nat.reduceMul,Nat.reduceBEq,Nat.reduceLeDiff,Int.reduceBEq,Int.reduceBNe,Int.reduceLE,Int.reduceLT,Int.reduceGE,Int.reduceGT,Int.reduceNeg,kn,hlt]
  rw [T_fun (af:=a_160) rfl rfl]
  simp only [a_160,sA,Nat.reduceAdd,Nat.reduceSub,Nat.reduceMul,Nat.reduceBEq,Nat.reduceLeDiff,Int.reduceBEq,Int.reduceBNe,Int.reduceLE,Int.reduceLT,Int.reduceGE,Int.reduceGT,Int.reduceNeg,kn,lenOf,zeroI,hl]
 refine h1.step 0 fun m _ h g σ hg=>?_
 have h2:=h g σ hg
 have hlt:¬ ((-1:Int) ≥ 0):=by omega
 rw [T_fun (af:=a_158) rfl rfl]
 simp only [a_158,sA,Nat.reduceAdd,Nat.reduceSub,Nat.reduceMul,Nat.reduceBEq,Nat.reduceLeDiff,Int.reduceBEq,Int.reduceBNe,Int.reduceLE,Int.reduceLT,Int.reduceGE,Int.reduceGT,Int.reduceNeg,kn,hg,h2,hlt]
theorem general_run (vs:List Tx) (t u:Tp) (hv:vs.length < 6) (ht:vs1 t=true):Evly fun n=>∀ p σ,∃ σ',T n n_125 [.ptr p 0,.agg (dSs vs :: .nils :: .nils :: cT t),.agg (.nils :: .nils :: .nils :: cT u)] σ=some (.ret ⟨false,.bool (matchM vs t u (List.replicate vs.length none)).1⟩,σ'):=by
 have hg:=General_run (R:=fun _ _=>True) (Pb:=fun b=>b=false) vs [] .nils .nils rfl rfl [] [] t u hv (by simp) (by simp) (by simp) (cf_nil.mono fun n h p σ0 _ a c σ _ _ _=>⟨false,σ,rfl,h (fnG1 a c) σ rfl⟩)
 have e:genM vs [] t u=matchM vs t u (List.replicate vs.length none):=by
  unfold genM
  have e2:apV 37 [] u=u:=subT_nil u
  rw [e2,match_apart vs hv t u _ ht]
 refine hg.mono fun n h p σ=>?_
 obtain ⟨σ',h1⟩:=h p σ trivial
 rw [e] at h1
 refine ⟨σ',?_⟩
 have ez:dSs []=.nils:=rfl
 have ep:dPs []=.nils:=rfl
 simp only [dSc,ez,ep] at h1
 rcases h1 with ⟨h2,h3⟩ | ⟨h2,b,hb,h3⟩
 ·rw [h2]; exact h3
 ·rw [h2]
  rw [hb] at h3
  exact h3
section
def V5r:D:=.list k_1 [.str [97],.str [98],.str [99],.str [120],.str [102]]
def ElM (p:Nat) (vs:List Tx) (kd:D) (ps:List Pr) (t:Tp) (y z:D) (i:Nat):Env:={slots:=[(11,⟨false,.ptr p 0⟩),(16,⟨true,.list k_25 [y,z]⟩),(17,⟨false,.int .i64 i⟩)],locs:=[(13,13,0)],boxes:=[(13,bS7 vs kd ps t)],defers:=[]}
theorem mt_step {m:Nat} (p:Nat) (vs:List Tx) (kd:D) (ps:List Pr) (t:Tp) (y z:D) (ws:List Tx) (kw:D) (qs:List Pr) (u:Tp) (far:Tp) (fv:D) (hfv:fv.one=true) (i:Nat) (hi:i < 2) (hix:indexD 7 (.list k_25 [y,z]) i=some (.eptr (dSc ws kw qs u)))
  (h1:∀ σ,T m n_173 [.agg (V5r :: .nils :: .nils :: cT u)] σ=some (.ret ⟨false,.agg (fv :: .nils :: .nils :: cT far)⟩,σ)) (h2:∀ σ,∃ σ',∃ d:D,d.one=true∧T m n_99 [dSs vs,dT t,dT far] σ=some (.ret ⟨false,.tup [d,.bool (matchM vs t far (List.replicate vs.length none)).1]⟩,σ'))
  (h3:∀ σ,T m n_174 [dT far] σ=some (.ret ⟨false,.agg (.nils :: .nils :: .nils :: cT far)⟩,σ)) (h4:∀ p σ,∃ σ',T m n_125 [.ptr p 0,.agg (dSs vs :: .nils :: .nils :: cT t),.agg (.nils :: .nils :: .nils :: cT far)] σ=some (.ret ⟨false,.bool (matchM vs t far (List.replicate vs.length none)).1⟩,σ')) (N:Nat) (σ:Store) :
  ∃ σ',exec (T m) N none a_108 (ElM p vs kd ps t y z i) σ=some (.normal,ElM p vs kd ps t y z (i + 1),σ'):=by
 have hlt:((i:Int) < 2):=by omega
 have w1:=wrap64_succ (i:=i) (by omega)
 obtain ⟨σ1,d,hd,g2⟩:=h2 σ
 obtain ⟨σ2,g4⟩:=h4 p σ1
 have g1:=h1 σ
 have g3:=h3 σ1
 generalize (matchM vs t far (List.replicate vs.length none)).1=b at *
 refine ⟨σ2,?_⟩
 have oS:=one_dSs vs
 have oK:(dSs vs).ok=true:=ok_dlist
 have oL:(dSs vs).cells=[dSs vs]:=cells_dlist
 have hb:(b != b)=false:=by cases b <;> rfl
 have s1:V5r.ok=true:=rfl
 have s2:V5r.cells=[V5r]:=rfl
 have eS:D.list k_1 [.str [97],.str [98],.str [99],.str [120],.str [102]]=V5r:=rfl
 have hpt:∀ (a b c e:D),Mx.part (some 4) [a,b,c,.int .i64 u.form,.int .i64 u.num,.str u.name,e] 3=some (.agg [.int .i64 u.form,.int .i64 u.num,.str u.name,e]):=fun _ _ _ _=>rfl
 rw [dT_eq t,dT_eq far] at g2
 rw [dT_eq far] at g3
 simp only [dSc] at hix
 simp only [cT] at g1 g2 g3 g4 hix
 simp only [a_108,ElM,bS7,bT,sA,Nat.reduceAdd,Nat.reduceSub,Nat.reduceMul,Nat.reduceBEq,Nat.reduceLeDiff,Int.reduceBEq,Int.reduceBNe,Int.reduceLE,Int.reduceLT,Int.reduceGE,Int.reduceGT,Int.reduceNeg,kn,zeroI,lit1,lit2,lit3,lit4,lit5,lit6,lit7,lit8,natI,eS,s1,s2,hlt,hix,hpt,g1,hfv,oS,oK,oL,g2,hd,g3,g4,hb,w1]
end
end Go.Fu
namespace Go.Fu
open Go Go.Mx
set_option maxRecDepth 10000
set_option maxHeartbeats 4000000
theorem match_ex (vs:List Tx) (hv:vs.length < 6) (t u:Tp):Evly fun n=>∀ σ,∃ σ',∃ d:D,d.one=true∧T n n_99 [dSs vs,dT t,dT u] σ=some (.ret ⟨false,.tup [d,.bool (matchM vs t u (List.replicate vs.length none)).1]⟩,σ'):=(Match_run vs (by omega) t u).mono fun n h σ=>by
 obtain ⟨σ',_,h1⟩:=h σ
 refine ⟨σ',?_⟩
 rcases h1 with ⟨h2,h3⟩ | ⟨h2,h3,_⟩
 ·exact ⟨.nils,rfl,by rw [h2]; exact h3⟩
 ·exact ⟨_,rfl,by rw [h2]; exact h3⟩
theorem ren_ex (u:Tp):∃ (far:Tp) (fv:D),fv.one=true∧Evly fun n=>∀ σ,T n n_173 [.agg (V5r :: .nils :: .nils :: cT u)] σ=some (.ret ⟨false,.agg (fv :: .nils :: .nils :: cT far)⟩,σ) :=
 ⟨_,_,one_dSs _,(renamed_run V5 .nils [] u (by decide) (by simp)).mono fun n h σ=>h σ⟩
theorem law_matches (dw dl dm:D) (xw xl xm:List Int) (hw:Row dw xw) (sw:Smalls' xw) (hl:Row dl xl) (sl:Smalls xl) (hm:Row dm xm) (sm:Smalls xm) (n k:Int) (hn:Small n) (hk:Small k):Evly fun N=>∀ σ,∃ σ',T N n_239 [dw,dl,dm,.int .i64 n,.int .i64 k] σ=some (.ret ⟨false,.bool true⟩,σ'):=by
 obtain ⟨vs,kd,ps,t,⟨hv,hvo⟩,⟨hps,_⟩,ht,m1⟩:=made_run dl .nils xl [] n hl sl (.inr ⟨rfl,rfl⟩) (by intro x hx; cases hx) hn
 obtain ⟨ws,kw,qs,z,⟨hvz,_⟩,⟨hqs,_⟩,_,m2⟩:=made_run dm .nils xm [] k hm sm (.inr ⟨rfl,rfl⟩) (by intro x hx; cases hx) hk
 have hkd:(dlist k_4 kd).one=true:=one_dlist
 obtain ⟨bys,hb,_,i1⟩:=instance_run dm xm hm sm k hk vs (dlist k_4 kd) hkd ps t (by omega) (by omega)
 have hvs:vs1 t=true:=vs1_of_tyB t ht.1.1
 generalize ps.map (putP vs bys)=ps' at i1
 generalize subT vs bys t=y at i1
 obtain ⟨fy,vy,hvy,ry⟩:=ren_ex y
 obtain ⟨fz,vz,hvz2,rz⟩:=ren_ex z
 have ay:=match_ex vs (by omega) t fy
 have az:=match_ex vs (by omega) t fz
 have gy:=general_run vs t fy (by omega) hvs
 have gz:=general_run vs t fz (by omega) hvs
 refine (((((lworld_run dw xw hw sw).and lives_run).and (m1.and m2)).and (i1.and ((ry.and rz).and (ay.and az)))).and ((gy.and gz).and ((mono_run fy).and (mono_run fz)))).step 10 fun m hm h σ=>?_
 obtain ⟨⟨⟨⟨w1,l1⟩,m1,m2⟩,i1,⟨ry,rz⟩,ay,az⟩,⟨gy,gz⟩,oy,oz⟩:=h
 obtain ⟨σ1,cs,is,hw1⟩:=w1 σ
 have e1:=one_dCl cs
 have e2:=one_dIl is
 rcases hw1 with hw1 | ⟨p,hw1,_⟩
 ·refine ⟨σ1,?_⟩
  have l2:=l1 σ1
  simp only [dPg] at hw1
  rw [T_fun (af:=a_66) rfl rfl]
  simp only [a_66,sA,Nat.reduceAdd,Nat.reduceSub,Nat.reduceMul,Nat.reduceBEq,Nat.reduceLeDiff,Int.reduceBEq,Int.reduceBNe,Int.reduceLE,Int.reduceLT,Int.reduceGE,Int.reduceGT,Int.reduceNeg,kn,e1,e2,hw1,l2]
 ·have b1:=m1 σ1
  have b2:=m2 σ1
  have b3:=i1 σ1
  generalize hY:dSc [[97],[98],[99]] .nils ps' y=Y at *
  generalize hZ:(.agg (dSs ws :: dlist k_4 kw :: dPs qs :: cT z):D)=Z at *
  have x0:indexD 7 (.list k_25 [Y,Z]) 0=some (.eptr (dSc [[97],[98],[99]] .nils ps' y)):=by rw [hY]; rfl
  have x1:indexD 7 (.list k_25 [Y,Z]) 1=some (.eptr (dSc ws (dlist k_4 kw) qs z)):=by rw [show dSc ws (dlist k_4 kw) qs z=Z from hZ]; rfl
  obtain ⟨σ2,s1⟩:=mt_step (m:=m) p vs (dlist k_4 kd) ps t Y Z _ _ _ y fy vy hvy 0 (by omega) x0 ry ay oy gy m σ1
  obtain ⟨σ3,s2⟩:=mt_step (m:=m) p vs (dlist k_4 kd) ps t Y Z _ _ _ z fz vz hvz2 1 (by omega) x1 rz az oz gz m σ2
  have s3:exec (T m) m none a_108 (ElM p vs (dlist k_4 kd) ps t Y Z 2) σ3=some (.exit 0,{slots:=[(11,⟨false,.ptr p 0⟩),(16,⟨true,.list k_25 [Y,Z]⟩),(17,⟨false,.int .i64 2⟩),(44,⟨false,.bool false⟩)],locs:=[(13,13,0)],boxes:=[(13,bS7 vs (dlist k_4 kd) ps t)],defers:=[]},σ3):=by
   have hlt:¬ (((2:Nat):Int) < 2):=by omega
   simp only [a_108,ElM,sA,Nat.reduceAdd,Nat.reduceSub,Nat.reduceMul,Nat.reduceBEq,Nat.reduceLeDiff,Int.reduceBEq,Int.reduceBNe,Int.reduceLE,Int.reduceLT,Int.reduceGE,Int.reduceGT,Int.reduceNeg,kn,hlt]
   try rfl
  obtain ⟨f,rfl⟩:∃ f,m=f + 3:=⟨m - 3,by omega⟩
  have hloop:=loopN_next (n:=f + 2) s1 (loopN_next (n:=f + 1) s2 (loopN_stop (n:=f) s3))
  have l2:=l1 σ3
  refine ⟨σ3,?_⟩
  have oS:=one_dSs vs
  have oP:=one_dPs ps
  have hS:=fun l:List Tx=>one_dSs l
  have hP:=fun l:List Pr=>one_dPs l
  have hK:∀ l:List D,(dlist k_4 l).one=true:=fun _=>one_dlist
  subst hY hZ
  simp only [ElM,bS7,bT,dSc,cT,zeroI] at hloop
  simp only [dSc,cT] at b1 b2 b3
  simp only [dPg] at hw1
  rw [T_fun (af:=a_66) rfl rfl]
  simp only [a_66,sA,Nat.reduceAdd,Nat.reduceSub,Nat.reduceMul,Nat.reduceBEq,Nat.reduceLeDiff,Int.reduceBEq,Int.reduceBNe,Int.reduceLE,Int.reduceLT,Int.reduceGE,Int.reduceGT,Int.reduceNeg,kn,zeroI,lit1,lit2,lit3,lit4,lit5,lit6,lit7,lit8,e1,e2,hw1,b1,b2,b3,hS,hP,hK,one_dlist,hloop,l2]
theorem lawM (D0 D1 D2:D) (x0 x1 x2:List Int) (n3 n4:Int) (i0:IntRow k_int D0 x0) (i1:IntRow k_int D1 x1) (i2:IntRow k_int D2 x2) (s0:∀ x∈x0,Small x) (s1:∀ x∈x1,Small x) (s2:∀ x∈x2,Small x) (s3:Small n3) (s4:Small n4):Evly fun N=>∃ σ1,T N n_239 [D0,D1,D2,.int .i64 n3,.int .i64 n4] σ0=some (.ret ⟨false,.bool true⟩,σ1) :=
 (law_matches D0 D1 D2 x0 x1 x2 i0 s0 i1 s1 i2 s2 n3 n4 s3 s4).mono fun _ h=>h σ0
end Go.Fu

/-
 Kinds are made,whatever the numbers.
-/
import Derived.Test.YtieacpoabejcoaaGreatDoorFsG2
import Derived.Test.YtieacpoabejcoaaGreatDoorFsY1
set_option maxHeartbeats 4000000
set_option linter.unusedSimpArgs false
set_option linter.unusedVariables false
set_option linter.unusedSectionVars false
namespace Go.Fu
open Go Go.Mx
set_option maxRecDepth 10000
def OkK (es:List D):Prop:=∀ e∈es,e.ok=true∧e.cells.length=1
def KOK (deep:Nat) (d:D) (xs:List Int):Prop:=∃ es d' xs',OkK es∧es.length≤2∧Row d' xs'∧zbj xs'∧Evly fun n=>∀ σ,T n n_175 [d,.int .i64 deep] σ=some (.ret ⟨false,.tup [.agg [dlist k_5 es],d']⟩,σ)
section
variable {C:CallF} {n:Nat} {σ:Store}
def Ek (d:D) (deep q i:Nat) (es:List D):Env:={slots:=[(0,⟨false,d⟩),(1,⟨false,.int .i64 deep⟩),(7,⟨false,.int .i64 q⟩),(8,⟨false,.int .i64 i⟩)],locs:=[(4,4,0),(6,6,0)],boxes:=[(4,[⟨false,.nils⟩]),(6,[⟨ow es.length,dlist k_5 es⟩])],defers:=[]}
def Eke (d:D) (deep q i:Nat) (es:List D):Env:={slots:=[(0,⟨false,d⟩),(1,⟨false,.int .i64 deep⟩),(7,⟨false,.int .i64 q⟩),(8,⟨false,.int .i64 i⟩),(30,⟨false,.bool false⟩)],locs:=[(4,4,0),(6,6,0)],boxes:=[(4,[⟨false,.nils⟩]),(6,[⟨ow es.length,dlist k_5 es⟩])],defers:=[]}
theorem zk4 (es:List D):(D.agg [dlist k_5 es]).ok=true∧(D.agg [dlist k_5 es]).cells.length=1:=by
 constructor
 ·simp only [D.ok,List.all_cons,zbp,List.all_nil,Bool.and_self]
 ·rfl
theorem zss (d d2:D) (deep q i:Nat) (es es2:List D) (hi:i < q) (hq:q≤2) (hdp:deep < 100) (hes:es.length=i) (hc:C n_175 [d,.int .i64 (deep + 1:Nat)] σ=some (.ret ⟨false,.tup [.agg [dlist k_5 es2],d2]⟩,σ)) :
  exec C n none a_82 (Ek d deep q i es) σ=some (.normal,Ek d2 deep q (i + 1) (es ++ [.agg [dlist k_5 es2]]),σ):=by
 have h1:((i:Int) < (q:Int)):=by omega
 have w1:=zaj (i:=deep) (by omega)
 have w2:=zaj (i:=i) (by omega)
 have ha:=zfn (r:=k_5) (by_:=24) (es:=es) (o:=ow es.length) (y:=.agg [dlist k_5 es2]) (by cases es with
  | nil=>intro h; exact absurd rfl h
  | cons x r=>intro _; rfl) (zk4 es2).1 (zk4 es2).2 (by simp [bound]; omega) (by simp [bound]; omega)
 have how:ow (es ++ [D.agg [dlist k_5 es2]]).length=true:=by simp [zd0]
 simp only [a_82,Ek,sA,seval,kn,h1,w1,w2,hc,ha,how]
theorem zpib (d:D) (deep q:Nat) (es:List D):exec C n none a_82 (Ek d deep q q es) σ=some (.exit 0,Eke d deep q q es,σ):=by
 have h1:¬ ((q:Int) < (q:Int)):=by omega
 simp only [a_82,Ek,Eke,sA,seval,kn,h1]
end
theorem zkzb {es:List D} (h:OkK es) (es2:List D):OkK (es ++ [.agg [dlist k_5 es2]]):=by
 intro e he
 rcases List.mem_append.1 he with he | he
 ·exact h e he
 ·rw [List.mem_singleton.1 he]; exact zk4 es2
theorem zns (deep q:Nat) (hq:q≤2) (hdp:deep < 100) (H:∀ d xs,Row d xs→zbj xs→KOK (deep + 1) d xs):∀ (c i:Nat) (d:D) (xs:List Int) (es:List D),i + c=q→Row d xs→zbj xs→OkK es→es.length=i →
  ∃ d' xs' es',Row d' xs'∧zbj xs'∧OkK es'∧es'.length≤2∧Evly fun m=>∀ k σ,c + 1≤k→loopN (exec (T m) m none a_82) k (Ek d deep q i es) σ=some (.exit 0,Eke d' deep q q es',σ)
 | 0,i,d,xs,es,hc,hR,hS,hK,hl=>⟨d,xs,es,hR,hS,hK,by omega,.all fun m k σ hk=>by
  obtain ⟨k,rfl⟩:∃ j,k=j + 1:=⟨k - 1,by omega⟩
  have:i=q:=by omega
  subst this
  exact za6 (zpib d deep i es)⟩
 | c + 1,i,d,xs,es,hc,hR,hS,hK,hl=>by
  obtain ⟨es2,d2,xs2,hK2,_,hR2,hS2,h2⟩:=H d xs hR hS
  obtain ⟨d',xs',es',hR',hS',hK',hl',hrest⟩:=zns deep q hq hdp H c (i + 1) d2 xs2 _ (by omega) hR2 hS2 (zkzb hK es2) (by simp; omega)
  refine ⟨d',xs',es',hR',hS',hK',hl',(hrest.and h2).mono fun m h k σ hk=>?_⟩
  obtain ⟨k,rfl⟩:∃ j,k=j + 1:=⟨k - 1,by omega⟩
  rw [zb2 (zss d d2 deep q i es es2 (by omega) hq hdp hl (h.2 σ))]
  exact h.1 k σ (by omega)
theorem zwp:∀ (r deep:Nat),deep + r=4→∀ d xs,Row d xs→zbj xs→KOK deep d xs
 | _,deep,hr,d,[],hR,hS=>by
  refine ⟨[],d,[],(fun e he=>by cases he),by simp,hR,hS,any _ fun n σ=>?_⟩
  have hl:=zd2 hR
  rw [T_fun (af:=a_33) rfl rfl]
  simp only [List.length_nil] at hl
  simp only [a_33,sA,seval,kn,hl,zeroI,lit1,lit2,lit3,lit4,lit5,lit6,lit7,lit8,zc0]
 | 0,deep,hr,d,x :: xs,hR,hS=>by
  refine ⟨[],d,_,(fun e he=>by cases he),by simp,hR,hS,any _ fun n σ=>?_⟩
  have hl:=zd2 hR
  have hdp:(deep:Int) > 3:=by omega
  have hne:((((x :: xs).length:Nat):Int) == 0)=false:=by simp; omega
  rw [T_fun (af:=a_33) rfl rfl]
  generalize (x :: xs).length=l at hl hne
  simp only [a_33,sA,seval,kn,hl,hdp,hne,zc0]
 | r + 1,deep,hr,d,x :: xs,hR,hS=>by
  obtain ⟨d1,hs,hR1⟩:=zjx hR
  have hS1:zbj xs:=fun y hy=>hS y (List.mem_cons_of_mem _ hy)
  have hl:=zd2 hR
  have hx:=zov hR 0 (by simp)
  simp only [List.getElem_cons_zero] at hx
  have hpick:Evly fun n=>∀ σ,T n n_4 [.int .i64 x,.int .i64 4] σ=some (.ret ⟨false,.int .i64 (aro x 4)⟩,σ):=ze7.mono fun n h σ=>h x 4 4 σ (hS x (by simp)) rfl (by omega) (by omega)
  have hn:=zhr x (m:=4) (by omega)
  generalize aro x 4=n at hpick hn
  have hdp:¬ ((deep:Int) > 3):=by omega
  have hne:((((x :: xs).length:Nat):Int) == 0)=false:=by simp; omega
  generalize (x :: xs).length=l at hl hne
  have H:∀ d xs,Row d xs→zbj xs→KOK (deep + 1) d xs:=fun d xs h1 h2=>zwp r (deep + 1) (by omega) d xs h1 h2
  by_cases h3:n≤2
  ·obtain ⟨d',xs',es',hR',hS',hK',hl',hloop⟩:=zns deep n h3 (by omega) H n 0 d1 xs [] (by omega) hR1 hS1 (fun e he=>by cases he) rfl
   refine ⟨es',d',xs',hK',hl',hR',hS',(hpick.and hloop).step 4 fun m hm h σ=>?_⟩
   have e1:=h.1 σ
   have e2:=h.2 m σ (by omega)
   have hn2:¬ ((n:Int) > 2):=by omega
   rw [T_fun (af:=a_33) rfl rfl]
   simp only [Ek,Eke,zc0,List.length_nil,zd1,zeroI] at e2
   simp only [a_33,sA,seval,kn,hl,hx,hs,e1,e2,hne,hdp,hn2]
  ·obtain ⟨d',xs',es',hR',hS',hK',hl',hloop⟩:=zns deep 0 (by omega) (by omega) H 0 0 d1 xs [] (by omega) hR1 hS1 (fun e he=>by cases he) rfl
   refine ⟨es',d',xs',hK',hl',hR',hS',(hpick.and hloop).step 4 fun m hm h σ=>?_⟩
   have e1:=h.1 σ
   have e2:=h.2 m σ (by omega)
   have hn2:((n:Int) > 2):=by omega
   rw [T_fun (af:=a_33) rfl rfl]
   simp only [Ek,Eke,zc0,List.length_nil,zd1,zeroI] at e2
   simp only [a_33,sA,seval,kn,hl,hx,hs,e1,e2,hne,hdp,hn2]
theorem zjfb (d:D) (xs:List Int) (hR:Row d xs) (hS:zbj xs):∃ es,Evly fun n=>∀ σ,T n n_118 [d] σ=some (.ret ⟨false,.agg [dlist k_5 es]⟩,σ):=by
 obtain ⟨d1,hR1,o,h1⟩:=zl1 d xs 12 hR (by omega)
 obtain ⟨es,d2,xs2,_,_,_,_,h2⟩:=zwp 4 0 (by omega) d1 _ hR1 (zhq hS 12)
 refine ⟨es,(h1.and h2).step 0 fun m _ h σ=>?_⟩
 have e1:=h.1 σ
 have e2:=h.2 σ
 rw [T_fun (af:=a_134) rfl rfl]
 have l12:((12:Nat):Int)=12:=rfl
 simp only [l12,zeroI] at e1 e2 ⊢
 simp only [a_134,sA,seval,kn,e1,e2]
end Go.Fu
namespace Go.Fu
open Go Go.Mx
set_option maxRecDepth 10000
def vnS (n:Nat):List UInt8:=match n with
 | 0=>[97]
 | 1=>[98]
 | 2=>[99]
 | 3=>[120]
 | _=>[102]
theorem zilb (n:Nat):nth [D.str [97],D.str [98],D.str [99],D.str [120],D.str [102]] (n % 5)=some (.str (vnS (n % 5))):=by
 have hk:n % 5=0∨n % 5=1∨n % 5=2∨n % 5=3∨n % 5=4:=by omega
 rcases hk with hk | hk | hk | hk | hk <;> rw [hk] <;> rfl
def vnL (a:Nat):Nat→List (List UInt8)
 | 0=>[]
 | i + 1=>vnL a i ++ [vnS ((i + a) % 5)]
theorem zlj (a:Nat):∀ i,(vnL a i).length=i
 | 0=>rfl
 | i + 1=>by simp [vnL,zlj a i]
theorem zqbb (n:Nat):okV (vnS n)=true:=by
 unfold vnS
 split <;> rfl
theorem zyp (a:Nat):∀ q,∀ v∈vnL a q,okV v=true
 | 0,v,h=>by simp [vnL] at h
 | i + 1,v,h=>by
  simp only [vnL,List.mem_append,List.mem_singleton] at h
  rcases h with h | rfl
  ·exact zyp a i v h
  ·exact zqbb _
def kdL (K:Nat→List D):Nat→List D
 | 0=>[]
 | i + 1=>kdL K i ++ [.agg [dlist k_5 (K i)]]
theorem zsq (K:Nat→List D):∀ i,(kdL K i).length=i
 | 0=>rfl
 | i + 1=>by simp [kdL,zsq K i]
theorem zml (z:Int):Small (IntKind.i64.wrap z):=by
 unfold Small
 rw [IntKind.wrap_i64]
 omega
theorem zeib {x:Int} (h:Small x) (m:Nat):Small (x.tdiv (m:Int)):=by
 unfold Small at *
 by_cases h0:0≤x
 ·rw [Int.tdiv_eq_ediv_of_nonneg h0]
  have e1:=Int.ediv_le_self (m:Int) h0
  have e2:=Int.ediv_nonneg h0 (show (0:Int)≤m by omega)
  generalize x / (m:Int)=y at *
  omega
 ·obtain ⟨y,rfl⟩:∃ y,x=-y:=⟨-x,by omega⟩
  have hy:0≤y:=by omega
  rw [Int.neg_tdiv,Int.tdiv_eq_ediv_of_nonneg hy]
  have e1:=Int.ediv_le_self (m:Int) hy
  have e2:=Int.ediv_nonneg hy (show (0:Int)≤m by omega)
  generalize y / (m:Int)=z at *
  omega
section
variable {C:CallF} {n:Nat} {σ:Store}
def bM (vs:List (List UInt8)) (kd:List D) (ps:List Pr) (t:Tp):List Cell:=⟨ow vs.length,dlist k_0 (vs.map D.str)⟩ :: ⟨ow kd.length,dlist k_5 kd⟩ :: ⟨false,dlist k_1 (ps.map dP)⟩ :: bT t
def b0:List Cell:=[⟨false,.nils⟩,⟨false,.nils⟩,⟨false,.nils⟩,⟨false,.int .i64 0⟩,⟨false,.int .i64 0⟩,⟨false,.str []⟩,⟨false,.nils⟩]
def Em (x:Int) (q i:Nat) (vs:List (List UInt8)) (kd:List D) (ps:List Pr) (t:Tp):Env:={slots:=[(2,⟨false,.int .i64 x⟩),(8,⟨false,.int .i64 q⟩),(9,⟨false,.int .i64 i⟩)],locs:=[(6,6,0),(7,7,0)],boxes:=[(6,b0),(7,bM vs kd ps t)],defers:=[]}
def Eme (x:Int) (q i:Nat) (vs:List (List UInt8)) (kd:List D) (ps:List Pr) (t:Tp):Env:={slots:=[(2,⟨false,.int .i64 x⟩),(8,⟨false,.int .i64 q⟩),(9,⟨false,.int .i64 i⟩),(26,⟨false,.bool false⟩)],locs:=[(6,6,0),(7,7,0)],boxes:=[(6,b0),(7,bM vs kd ps t)],defers:=[]}
theorem zgwb (x:Int) (q:Nat) (vs:List (List UInt8)) (kd:List D) (ps:List Pr) (t:Tp):exec C n none a_34 (Em x q q vs kd ps t) σ=some (.exit 0,Eme x q q vs kd ps t,σ):=by
 have h1:¬ ((q:Int) < (q:Int)):=by omega
 simp only [a_34,Em,Eme,bM,b0,bT,sA,seval,kn,h1]
theorem zkmb (x:Int) (q i a b:Nat) (vs:List (List UInt8)) (kd:List D) (ps:List Pr) (t:Tp) (hi:i < q) (hq:q < 100) (ha:a < 100) (hv:vs.length=i) (hb:b≠1)
  (w18:IntKind.i64.wrap (x.tdiv 18)=x.tdiv 18) (w90:IntKind.i64.wrap (x.tdiv 90)=x.tdiv 90)
  (hc1:C n_4 [.int .i64 (x.tdiv 18),.int .i64 5] σ=some (.ret ⟨false,.int .i64 a⟩,σ)) (hc2:C n_4 [.int .i64 (x.tdiv 90),.int .i64 2] σ=some (.ret ⟨false,.int .i64 b⟩,σ)) :
  exec C n none a_34 (Em x q i vs kd ps t) σ=some (.normal,Em x q (i + 1) (vs ++ [vnS ((i + a) % 5)]) kd ps t,σ):=by
 have h1:((i:Int) < (q:Int)):=by omega
 have w1:=zaj (i:=i) (by omega)
 have w2:IntKind.i64.wrap ((i:Int) + (a:Int))=((i + a:Nat):Int):=by rw [zb3 (by omega) (by omega)]; omega
 have w3:(((i + a:Nat):Int)).tmod 5=(((i + a) % 5:Nat):Int):=tmodN _ 5
 have hx:=zilb (i + a)
 have hap:=zln vs (vnS ((i + a) % 5)) (ow vs.length) (by cases vs with
  | nil=>intro h; exact absurd rfl h
  | cons x r=>intro _; rfl) (by omega)
 have how:ow (vs ++ [vnS ((i + a) % 5)]).length=true:=by simp [zd0]
 have hb1:(((b:Nat):Int) == 1)=false:=by simp; omega
 simp only [a_34,Em,bM,b0,bT,sA,seval,kn,h1,w1,w2,w3,w18,w90,hc1,hc2,hx,hap,how,hb1]
theorem znpb (x:Int) (q i a:Nat) (vs:List (List UInt8)) (kd:List D) (ps:List Pr) (t:Tp) (K:List D) (hi:i < q) (hq:q < 100) (ha:a < 100) (hv:vs.length=i) (hk:kd.length=i)
  (w18:IntKind.i64.wrap (x.tdiv 18)=x.tdiv 18) (w90:IntKind.i64.wrap (x.tdiv 90)=x.tdiv 90) (w7:IntKind.i64.wrap (x.tdiv 7)=x.tdiv 7)
  (hc1:C n_4 [.int .i64 (x.tdiv 18),.int .i64 5] σ=some (.ret ⟨false,.int .i64 a⟩,σ)) (hc2:C n_4 [.int .i64 (x.tdiv 90),.int .i64 2] σ=some (.ret ⟨false,.int .i64 1⟩,σ))
  (hc3:C n_118 [.list k_int [.int .i64 (IntKind.i64.wrap (x + i)),.int .i64 i,.int .i64 (x.tdiv 7),.int .i64 (IntKind.i64.wrap (i * x))]] σ=some (.ret ⟨false,.agg [dlist k_5 K]⟩,σ)) :
  exec C n none a_34 (Em x q i vs kd ps t) σ=some (.normal,Em x q (i + 1) (vs ++ [vnS ((i + a) % 5)]) (kd ++ [.agg [dlist k_5 K]]) ps t,σ):=by
 have h1:((i:Int) < (q:Int)):=by omega
 have w1:=zaj (i:=i) (by omega)
 have w2:IntKind.i64.wrap ((i:Int) + (a:Int))=((i + a:Nat):Int):=by rw [zb3 (by omega) (by omega)]; omega
 have w3:(((i + a:Nat):Int)).tmod 5=(((i + a) % 5:Nat):Int):=tmodN _ 5
 have hx:=zilb (i + a)
 have hap:=zln vs (vnS ((i + a) % 5)) (ow vs.length) (by cases vs with
  | nil=>intro h; exact absurd rfl h
  | cons x r=>intro _; rfl) (by omega)
 have hak:=zfn (r:=k_5) (by_:=24) (es:=kd) (o:=ow kd.length) (y:=.agg [dlist k_5 K]) (by cases kd with
  | nil=>intro h; exact absurd rfl h
  | cons x r=>intro _; rfl) (zk4 K).1 (zk4 K).2 (by simp [bound]; omega) (by simp [bound]; omega)
 have how:ow (vs ++ [vnS ((i + a) % 5)]).length=true:=by simp [zd0]
 have how2:ow (kd ++ [D.agg [dlist k_5 K]]).length=true:=by simp [zd0]
 simp only [a_34,Em,bM,b0,bT,sA,seval,kn,h1,w1,w2,w3,w7,w18,w90,hc1,hc2,hc3,hx,hap,hak,how,how2]
theorem zww (m:Nat) (d d1:D) (o:Bool) (x:Int) (a q:Nat) (t t2 t3:Tp) (ps:List Pr) (vs:List (List UInt8)) (kd:List D) (h1:T m n_193 [d] σ=some (.ret ⟨false,dT t⟩,σ)) (h2:T m n_192 [d1,.int .i64 4] σ=some (.ret ⟨o,dPs ps⟩,σ))
  (h3:T m n_4 [.int .i64 x,.int .i64 3] σ=some (.ret ⟨false,.int .i64 a⟩,σ)) (h4:T m n_4 [.int .i64 (x.tdiv 3),.int .i64 6] σ=some (.ret ⟨false,.int .i64 q⟩,σ)) (hw:IntKind.i64.wrap (x.tdiv 3)=x.tdiv 3)
  (h6:T m n_191 [d] σ=some (.ret ⟨false,dT t2⟩,σ)) (h3t:t3=if a=2 then t2 else t) (hloop:loopN (exec (T m) m none a_34) m (Em x q 0 [] [] ps t3) σ=some (.exit 0,Eme x q q vs kd ps t3,σ)) :
  T (m + 1) n_103 [d,d1,.int .i64 x] σ=some (.ret ⟨false,.agg (dSs vs :: dlist k_5 kd :: dPs ps :: cT t3)⟩,σ):=by
 rw [T_fun (af:=a_110) rfl rfl]
 simp only [dT_eq,cT,dPs,dSs] at h1 h2 h6 ⊢
 simp only [Em,Eme,bM,b0,bT,List.map_nil,zc0,List.length_nil,zd1,zeroI] at hloop
 by_cases h5:a=2
 ·rw [if_pos h5] at h3t
  subst h3t
  have h5':((a:Int) == 2)=true:=by simp; omega
  simp only [a_110,sA,seval,kn,h1,h2,h3,h4,h5',hw,h6,hloop]
  done
 ·rw [if_neg h5] at h3t
  subst h3t
  have h5':((a:Int) == 2)=false:=by simp; omega
  simp only [a_110,sA,seval,kn,h1,h2,h3,h4,h5',hw,hloop]
  done
end
theorem zg2b (d d1:D) (xs ys:List Int) (x:Int) (hR:Row d xs) (hS:zbj xs) (hR1:Row d1 ys) (hS1:zbj ys) (hx:Small x):∃ (vs:List (List UInt8)) (kd:List D) (ps:List Pr) (t:Tp),(vs.length≤5∧∀ v∈vs,okV v=true)∧(ps.length≤4∧∀ p∈ps,LP p)∧LB 5 t∧kd.length≤aro (x.tdiv 3) 6 ∧
  Evly fun n=>∀ σ,T n n_103 [d,d1,.int .i64 x] σ=some (.ret ⟨false,.agg (dSs vs :: dlist k_5 kd :: dPs ps :: cT t)⟩,σ):=by
 obtain ⟨t,hLt,h1⟩:=zlxb d xs hR hS
 obtain ⟨t2,hLt2,h6⟩:=zhjb d xs hR hS
 obtain ⟨ps,hps,h2⟩:=zhlb d1 ys hR1 hS1
 have small:∀ m:Nat,Small (x.tdiv (m:Int)):=zeib hx
 have s3:=small 3
 have s7:=small 7
 have s18:=small 18
 have s90:=small 90
 have w3:IntKind.i64.wrap (x.tdiv 3)=x.tdiv 3:=zb3 s3.1 s3.2
 have w7:IntKind.i64.wrap (x.tdiv 7)=x.tdiv 7:=zb3 s7.1 s7.2
 have w18:IntKind.i64.wrap (x.tdiv 18)=x.tdiv 18:=zb3 s18.1 s18.2
 have w90:IntKind.i64.wrap (x.tdiv 90)=x.tdiv 90:=zb3 s90.1 s90.2
 have hq:=zhr (x.tdiv 3) (m:=6) (by omega)
 have ha5:=zhr (x.tdiv 18) (m:=5) (by omega)
 have r3:Evly fun n=>∀ σ,T n n_4 [.int .i64 x,.int .i64 3] σ=some (.ret ⟨false,.int .i64 (aro x 3)⟩,σ):=ze7.mono fun n h σ=>h x 3 3 σ hx rfl (by omega) (by omega)
 have r6:Evly fun n=>∀ σ,T n n_4 [.int .i64 (x.tdiv 3),.int .i64 6] σ=some (.ret ⟨false,.int .i64 (aro (x.tdiv 3) 6)⟩,σ):=ze7.mono fun n h σ=>h _ 6 6 σ s3 rfl (by omega) (by omega)
 have r18:Evly fun n=>∀ σ,T n n_4 [.int .i64 (x.tdiv 18),.int .i64 5] σ=some (.ret ⟨false,.int .i64 (aro (x.tdiv 18) 5)⟩,σ):=ze7.mono fun n h σ=>h _ 5 5 σ s18 rfl (by omega) (by omega)
 have r90:Evly fun n=>∀ σ,T n n_4 [.int .i64 (x.tdiv 90),.int .i64 2] σ=some (.ret ⟨false,.int .i64 (aro (x.tdiv 90) 2)⟩,σ):=ze7.mono fun n h σ=>h _ 2 2 σ s90 rfl (by omega) (by omega)
 generalize aro (x.tdiv 3) 6=q at hq r6 ⊢
 generalize aro (x.tdiv 18) 5=a at ha5 r18
 by_cases hb:aro (x.tdiv 90) 2=1
 ·rw [hb] at r90
  have hK:∀ i:Nat,∃ K:List D,Evly fun n=>∀ σ,T n n_118 [.list k_int [.int .i64 (IntKind.i64.wrap (x + i)),.int .i64 (IntKind.i64.wrap i),.int .i64 (x.tdiv 7),.int .i64 (IntKind.i64.wrap (i * x))]] σ=some (.ret ⟨false,.agg [dlist k_5 K]⟩,σ):=fun i =>
   zjfb _ [IntKind.i64.wrap (x + i),IntKind.i64.wrap i,x.tdiv 7,IntKind.i64.wrap (i * x)] (.inl rfl) (fun y hy=>by
    simp only [List.mem_cons,List.not_mem_nil,or_false] at hy
    rcases hy with rfl | rfl | rfl | rfl
    ·exact zml _
    ·exact zml _
    ·exact s7
    ·exact zml _)
  obtain ⟨K,hK⟩:=Classical.skolem.1 hK
  have hKs:Evly fun n=>∀ i,i < q→∀ σ,T n n_118 [.list k_int [.int .i64 (IntKind.i64.wrap (x + i)),.int .i64 i,.int .i64 (x.tdiv 7),.int .i64 (IntKind.i64.wrap (i * x))]] σ=some (.ret ⟨false,.agg [dlist k_5 (K i)]⟩,σ) :=
   Evly.below _ fun i hi=>(hK i).mono fun n h σ=>by
    have:=h σ
    rw [zb3 (n:=(i:Int)) (by omega) (by omega)] at this
    exact this
  refine ⟨vnL a q,kdL K q,ps,(if aro x 3=2 then t2 else t),⟨by rw [zlj]; omega,zyp a q⟩,hps,(by split <;> first | exact hLt2 | exact hLt.toB),by rw [zsq]; omega,(h1.and (h2.and (h6.and (r3.and (r6.and (r18.and (r90.and hKs))))))).step 8 fun m hm h σ=>?_⟩
  obtain ⟨e1,e2,e6,e3,e4,e18,e90,eK⟩:=h
  have hloop:=zbz (body:=exec (T m) m none a_34) (fun i=>Em x q i (vnL a i) (kdL K i) ps (if aro x 3=2 then t2 else t)) (fun _=>σ) q (r:=_) (fun _ _ h=>by cases h)
   (fun i hi=>znpb x q i a (vnL a i) (kdL K i) ps _ (K i) hi (by omega) (by omega) (zlj a i) (zsq K i) w18 w90 w7 (e18 σ) (e90 σ) (eK i hi σ)) (zgwb x q _ _ ps _) 0 m (by omega) (by omega)
  exact zww m d d1 _ x (aro x 3) q t t2 _ ps _ _ (e1 σ) (e2 σ) (e3 σ) (e4 σ) w3 (e6 σ) rfl hloop
 ·refine ⟨vnL a q,[],ps,(if aro x 3=2 then t2 else t),⟨by rw [zlj]; omega,zyp a q⟩,hps,(by split <;> first | exact hLt2 | exact hLt.toB),by simp,(h1.and (h2.and (h6.and (r3.and (r6.and (r18.and r90)))))).step 8 fun m hm h σ=>?_⟩
  obtain ⟨e1,e2,e6,e3,e4,e18,e90⟩:=h
  have hloop:=zbz (body:=exec (T m) m none a_34) (fun i=>Em x q i (vnL a i) [] ps (if aro x 3=2 then t2 else t)) (fun _=>σ) q (r:=_) (fun _ _ h=>by cases h)
   (fun i hi=>zkmb x q i a _ (vnL a i) [] ps _ hi (by omega) (by omega) (zlj a i) hb w18 w90 (e18 σ) (e90 σ)) (zgwb x q _ _ ps _) 0 m (by omega) (by omega)
  exact zww m d d1 _ x (aro x 3) q t t2 _ ps _ _ (e1 σ) (e2 σ) (e3 σ) (e4 σ) w3 (e6 σ) rfl hloop
end Go.Fu
namespace Go.Fu
open Go Go.Mx
set_option maxRecDepth 100000
set_option maxHeartbeats 4000000
theorem okp {n:Nat} {f:FuncId} {ds:List D} {d:D} {o:Bool} {σ':Store} (hY:isY f=false) (h:T n f ds σ0=some (.ret ⟨o,d⟩,σ')) (hd:zaz ds=true) (hc:noPtr d=true):OkP f ds ⟨false,d⟩ :=
 Pure.weak hY fun σ=>zis hY (zse n f ds σ0 _ _ h) hd hc σ
theorem wf0:WF σ0:=⟨fun _ h=>(by cases h),fun _ h=>(by cases h),fun _ h=>(by cases h)⟩
theorem zktb (t:Tp) (hp:posT t) (hb:nT t < 100000):OkP n_63 [dT t] ⟨false,dNs (metA t [])⟩:=by
 obtain ⟨n,σ',h⟩:=zfab t hp hb
 exact okp rfl h (by simp only [zaz,zfl,Bool.and_self]) (zw5 _)
theorem zw6 (vs:List (List UInt8)) (ps:List Pr) (t:Tp):noPtr (scD vs ps t)=true:=by
 have h:noPtr .nils=true:=rfl
 simp only [scD,noPtr,zaz,h,zhz,zhy,zj6,Bool.and_self]
theorem zldb (ms:List Nat) (ps:List Pr) (t:Tp) (hms:∀ m∈ms,m < 20) (hl:ms.length < 100) (hp:ps.length < 100):OkP n_64 [dNs ms,dPs ps,dT t] ⟨false,scD (ms.map tn) (ps.map (varP ms)) (varT ms t)⟩:=by
 obtain ⟨n,h⟩:=zejb ms ps t hms hl hp
 exact okp rfl (h n (Nat.le_refl _)) (by simp only [zaz,zfl,zw5,zhy,Bool.and_self]) (zw6 _ _ _)
theorem zsk:∀ (r:List Pr) (x p:Pr),p∈cpG x r→p∈r
 | [],_,_,h=>by simp [cpG] at h
 | y :: r,x,p,h=>by
  unfold cpG at h
  split at h
  ·exact List.mem_cons_of_mem _ (zsk r y p h)
  ·rcases List.mem_cons.1 h with rfl | h
   ·simp
   ·exact List.mem_cons_of_mem _ (zsk r _ p h)
theorem zsj:∀ (r:List Pr) (x:Pr),(cpG x r).length≤r.length
 | [],_=>by simp [cpG]
 | y :: r,x=>by
  unfold cpG
  split
  ·have:=zsj r y
   simp only [List.length_cons]; omega
  ·have:=zsj r y
   simp only [List.length_cons]; omega
theorem zlob (l:List Pr) (p:Pr) (h:p∈srtP l):p∈l:=by
 have key:p∈(srt l).reverse:=by
  unfold srtP at h
  cases hl:(srt l).reverse with
  | nil=>rw [hl] at h; simp [cpt] at h
  | cons x r =>
   rw [hl] at h
   rcases List.mem_cons.1 h with rfl | h
   ·simp
   ·exact List.mem_cons_of_mem _ (zsk r x p h)
 rw [List.mem_reverse] at key
 have:=((zj9 l [] List.Pairwise.nil).2.mem_iff (a:=p)).1 key
 simpa using this
theorem zlnb (l:List Pr):(srtP l).length≤l.length:=by
 have h1:(srt l).reverse.length=l.length:=by rw [List.length_reverse,zow]
 unfold srtP
 cases hl:(srt l).reverse with
 | nil=>simp [cpt]
 | cons x r =>
  rw [hl] at h1
  have:=zsj r x
  simp only [cpt,List.length_cons] at h1 ⊢
  omega
theorem zohb {vs vs':List (List UInt8)} {ps ps':List Pr} {t t':Tp} (H:SQ vs ps t) (H':SQ vs' ps' t') (h1:cLs vs' ps' t'=cLs vs ps t) (h2:cPs vs' ps' t'=cPs vs ps t) (h3:cTy vs' ps' t'=cTy vs ps t):OkP n_120 [scD vs ps t,scD vs' ps' t'] ⟨false,.bool true⟩:=by
 have hL:(cLs vs ps t).length < 1000:=by
  have:=H.n6
  unfold cLs
  rw [zjp]
  omega
 have hm:∀ p∈cPs vs ps t,p∈ps.map (putP (cNs vs ps t) ((cLs vs ps t).map Tp.var)):=fun p hp=>zlob _ p hp
 have hP:(cPs vs ps t).length < 1000:=by
  have h:=zlnb (ps.map (putP (cNs vs ps t) ((cLs vs ps t).map Tp.var)))
  rw [List.length_map] at h
  have:=H.pl
  unfold cPs
  omega
 have c1:=ztv vs ps t H.can
 have c2:=ztv vs' ps' t' H'.can
 rw [h1,h2,h3] at c2
 obtain ⟨n,h⟩:=zacb (scD vs ps t) (scD vs' ps' t') ⟨rfl,_,_,_,_,rfl,rfl⟩ ⟨_,_,_,_,rfl,rfl⟩ (cLs vs ps t) (cPs vs ps t) (cTy vs ps t) hL hP (fun p hp=>H.cok p (hm p hp)) c1 c2
 obtain ⟨σ',h,_⟩:=h n (Nat.le_refl _) σ0 wf0
 exact okp rfl h (by simp only [zaz,zw6,Bool.and_self]) rfl
theorem zivb (l:List Tp) (hl:l.length < 1048576):OkP n_21 [dTs l] ⟨false,dTs l⟩:=by
 have key:OkP n_21 [dTs l] ⟨!l.isEmpty,dTs l⟩:=by
  refine zkp (zse 0) zg0 (n:=0) (σ':=σ0) rfl Go.Proofs.Tryz.func38 zgs rfl (by simp only [zaz,zny,Bool.and_self]) (zny l) ?_
  show finX Ra (fun _ _ _=>none) a_111 0 _=_
  cases l with
  | nil=>simp only [a_111,sA,seval,kn,dTs]
  | cons x l =>
   have hnl:(D.list k_2 (dT x :: l.map dT)).isNilS?=some false:=rfl
   have hall:zau k_2.sz (dT x :: l.map dT)=true:=zkb (zoxb (x :: l))
   simp only [List.length_cons] at hl
   have ha:zbb k_2 56 ⟨true,.list k_2 []⟩ (dT x :: l.map dT)=some ⟨true,.list k_2 (dT x :: l.map dT)⟩:=by
    have hm:zdc k_2 ⟨true,.list k_2 []⟩=true:=by simp [zdc,RowK.same]
    have hj:zd8 k_2 (.list k_2 []) (dT x :: l.map dT)=.list k_2 (dT x :: l.map dT):=rfl
    have hs:asList (.list k_2 [])=some []:=rfl
    have b1:(dT x :: l.map dT).length * 56≤bound:=by simp [bound]; omega
    have b2:(dT x :: l.map dT).length≤bound:=by simp [bound]; omega
    simp only [zbb,hs,hm,hj,hall,bindO,zab,List.length_nil,Nat.zero_add,decide_eq_true b1,decide_eq_true b2,Bool.and_self,zac]
   simp only [a_111,sA,seval,kn,dTs,dlist,List.map_cons,hnl,ha]
 exact Pure.weak rfl key
theorem ziyb (t:Tp):OkP n_62 [dT t,dT t] ⟨false,.bool true⟩:=by
 obtain ⟨n,h⟩:=znj t
 exact okp rfl (h n (Nat.le_refl _) σ0) (by simp only [zaz,zfl,Bool.and_self]) rfl
theorem zt6 {d:D} {xs:List Int} (h:Row d xs):noPtr d=true:=by
 rcases h with h | ⟨_,h⟩
 ·rw [h]
  exact zhx (f:=fun x:Int=>D.int .i64 x) (fun _=>rfl) xs
 ·rw [h]; rfl
theorem zr1:∀ t:Tp,tyB t=true→v5T t=true→smB t∧smC t
 | .hole x,h,_=>by
  simp only [tyB,Bool.and_eq_true,decide_eq_true_eq] at h
  exact ⟨h,trivial⟩
 | .var s,_,h=>⟨zel.1 h,trivial⟩
 | .con c,h,_=>⟨trivial,(of_decide_eq_true h:c.length≤6)⟩
 | .app f a,h,h'=>by
  simp only [tyB,v5T,Bool.and_eq_true] at h h'
  have h1:=zr1 f h.1 h'.1
  have h2:=zr1 a h.2 h'.2
  exact ⟨⟨h1.1,h2.1⟩,⟨h1.2,h2.2⟩⟩
theorem zte:∀ t:Tp,smB t→posT t
 | .hole x,h=>h.1
 | .var s,_=>trivial
 | .con c,_=>trivial
 | .app f a,h=>⟨zte f h.1,zte a h.2⟩
theorem ztd (ms:List Nat):∀ t:Tp,smB t→posT (im ms t)
 | .hole x,h=>by
  unfold im
  split
  ·show (0:Int)≤_
   omega
  ·exact h.1
 | .var s,_=>trivial
 | .con c,_=>trivial
 | .app f a,h=>⟨ztd ms f h.1,ztd ms a h.2⟩
theorem nT_im (ms:List Nat):∀ t:Tp,nT (im ms t)=nT t
 | .hole x=>by unfold im; split <;> rfl
 | .var s=>rfl
 | .con c=>rfl
 | .app f a=>by simp only [im,nT,nT_im ms f,nT_im ms a]
theorem zsu:∀ (t:Tp) (out:List Nat),smB t→(∀ x∈out,x < 6)→∀ x∈metA t out,x < 6
 | .con _,_,_,h=>h
 | .var _,_,_,h=>h
 | .app f a,out,hb,h=>zsu a _ hb.2 (zsu f out hb.1 h)
 | .hole y,out,hb,h=>by
  unfold metA
  split
  ·exact h
  ·intro x hx
   rcases List.mem_append.1 hx with hx | hx
   ·exact h x hx
   ·rw [List.mem_singleton.1 hx]
    have:=hb.2
    omega
theorem zl4:∀ (t:Tp) (out:List Nat),out.Nodup→(metA t out).Nodup
 | .con _,_,h=>h
 | .var _,_,h=>h
 | .app f a,out,h=>zl4 a _ (zl4 f out h)
 | .hole y,out,h=>by
  unfold metA
  split
  ·exact h
  ·rename_i hc
   rw [List.nodup_append]
   refine ⟨h,by simp,fun a ha b hb e=>?_⟩
   rw [List.mem_singleton.1 hb] at e
   rw [e] at ha
   exact hc (by simpa using ha)
theorem zntb (d d1:D) (xs ys:List Int) (hR:Row d xs) (hS:zbj xs) (hR1:Row d1 ys) (hS1:zbj ys):∃ (vs:List (List UInt8)) (ps:List Pr) (t:Tp),MB (metA t []) ps t∧OkP n_103 [d,d1,.int .i64 2] ⟨false,.agg (dSs vs :: .nils :: dPs ps :: cT t)⟩:=by
 obtain ⟨vs,kd,ps,t,_,hp,ht,hk,n,h⟩:=zg2b d d1 xs ys 2 hR hS hR1 hS1 (by unfold Small; omega)
 have h0:aro ((2:Int).tdiv 3) 6=0:=by decide
 rw [h0] at hk
 have hk:kd=[]:=List.length_eq_zero_iff.1 (by omega)
 subst hk
 have hsm:=zr1 t ht.1.1 ht.1.2
 have hpm:∀ p∈ps,smB p.ty∧smC p.ty:=fun p hm=>zr1 p.ty (zi0 p.ty (hp.2 p hm).1.1.1) (hp.2 p hm).1.1.2
 have hlt:=zsu t [] hsm.1 (by simp)
 have hbt:=ht.2
 have b5:bz 5=125:=rfl
 have b3:bz 3=29:=rfl
 rw [b5] at hbt
 refine ⟨vs,ps,t,⟨hp.1,hsm.1,fun p hm=>(hpm p hm).1,fun p hm=>(hpm p hm).2,hbt,fun p hm=>?_,hlt,?_⟩,?_⟩
 ·have:=(hp.2 p hm).1.2
  rw [b3] at this
  omega
 ·have:=List.Nodup.length_le_of_subset (zl4 t [] List.nodup_nil) (l₂:=[0,1,2,3,4,5]) (fun x hx=>by
   have:=hlt x hx
   have h:x=0∨x=1∨x=2∨x=3∨x=4∨x=5:=by omega
   rcases h with rfl | rfl | rfl | rfl | rfl | rfl <;> simp)
  simpa using this
 ·have h:=h n (Nat.le_refl _) σ0
  have e:dlist k_5 []=.nils:=rfl
  rw [e] at h
  have hn:noPtr .nils=true:=rfl
  have hi:noPtr (.int .i64 2)=true:=rfl
  exact okp rfl h (by simp only [zaz,zt6 hR,zt6 hR1,hi,Bool.and_self]) (by simp only [noPtr,zaz,hn,zhz,zhy,zj6,Bool.and_self])
theorem zq2 {k:RowK}:∀ {a b:List D},dlist k a=dlist k b→a=b:=U.dlist_inj
theorem zwz {α:Type} {g:α→D} (hg:∀ {a b},g a=g b→a=b):∀ {l m:List α},l.map g=m.map g→l=m:=U.map_inj hg
theorem zmeb {a b:List Nat} (h:dNs a=dNs b):a=b:=zwz (g:=dN) (fun {a b} h=>by
 have:(a:Int)=(b:Int):=by simpa [dN] using h
 omega) (zq2 h)
theorem zo6b {a b:Pr} (h:dP a=dP b):a=b:=by
 obtain ⟨c,t⟩:=a
 obtain ⟨c',t'⟩:=b
 simp only [dP,D.agg.injEq,List.cons.injEq,D.str.injEq] at h
 have h2:dT t=dT t':=by rw [dT_eq,dT_eq,h.2]
 rw [h.1,zvz h2]
theorem zmfb {a b:List Pr} (h:dPs a=dPs b):a=b:=zwz zo6b (zq2 h)
def zx4:List D→Cell→Prop:=fun ds c=>∀ t,ds=[dT t]→c=⟨false,dNs (metA t [])⟩
def zx5:List D→Cell→Prop:=fun ds c=>∀ ms ps t,ds=[dNs ms,dPs ps,dT t]→c=⟨false,scD (ms.map tn) (ps.map (varP ms)) (varT ms t)⟩
def SKb (X P L:D):Specs:=[(n_99,fun _ c=>c=⟨false,.bool true⟩),(n_103,fun _ c=>c=⟨false,X⟩),(n_63,zx4),(n_64,zx5),(n_120,fun _ c=>c=⟨false,.bool true⟩),(n_50,fun _ c=>c=⟨false,P⟩),(n_21,fun _ c=>c=⟨false,L⟩),(n_62,fun _ c=>c=⟨false,.bool true⟩),(n_25,U.sp_meta),(n_67,U.sp_App)]
theorem orc1 {S:Specs} {f:FuncId} {ds:List D} {d:D} (hf:aget S f=some fun _ c=>c=⟨false,d⟩) (hY:isY f=false) (hp:OkP f ds ⟨false,d⟩) (n:Nat) (σ:Store):TS S (n + 1) f ds σ=some (.ret ⟨false,d⟩,σ):=by
 obtain ⟨c,g1,g2⟩:=U.TS_orc (S:=S) hf hY (s:=fun _ c=>c=⟨false,d⟩) rfl hp
 rw [g2,g1]
theorem zt8 {X P L:D} (t:Tp) (hp:posT t) (hb:nT t < 100000) (n:Nat) (σ:Store):TS (SKb X P L) (n + 1) n_63 [dT t] σ=some (.ret ⟨false,dNs (metA t [])⟩,σ):=by
 obtain ⟨c,g1,g2⟩:=U.TS_orc (S:=SKb X P L) (f:=n_63) rfl rfl (s:=zx4) (fun u e=>by
  simp only [List.cons.injEq,and_true] at e
  rw [zvz e]) (zktb t hp hb)
 rw [g2,g1 _ rfl]
theorem zt9 {X P L:D} (ms:List Nat) (ps:List Pr) (t:Tp) (hms:∀ m∈ms,m < 20) (hl:ms.length < 100) (hp:ps.length < 100) (n:Nat) (σ:Store):TS (SKb X P L) (n + 1) n_64 [dNs ms,dPs ps,dT t] σ=some (.ret ⟨false,scD (ms.map tn) (ps.map (varP ms)) (varT ms t)⟩,σ):=by
 obtain ⟨c,g1,g2⟩:=U.TS_orc (S:=SKb X P L) (f:=n_64) rfl rfl (s:=zx5) (fun ms' ps' u e=>by
  simp only [List.cons.injEq,and_true] at e
  obtain ⟨e1,e2,e3⟩:=e
  rw [zmeb e1,zmfb e2,zvz e3]) (zldb ms ps t hms hl hp)
 rw [g2,g1 _ _ _ rfl]
theorem zym {X P L:D}:U.UnifyS (SKb X P L):=⟨rfl,rfl,rfl,rfl,rfl,rfl,rfl,rfl,rfl,rfl,rfl,rfl,rfl,rfl,rfl,rfl,rfl⟩
end Go.Fu
namespace Go.Fu
open Go Go.Mx
set_option maxRecDepth 100000
set_option maxHeartbeats 8000000
section
variable {C:CallF} {n:Nat}
def bX7 (X0 X1 X2:D) (t:Tp):List Cell:=⟨false,X0⟩ :: ⟨false,X1⟩ :: ⟨false,X2⟩ :: bT t
def Eb (p:Nat) (vs:List (List UInt8)) (ps:List Pr) (t:Tp) (i:Nat):Env:={slots:=[(6,⟨false,.ptr p 0⟩),(7,⟨false,.int .i64 i⟩)],locs:=[(5,5,0)],boxes:=[(5,bX7 (dSs vs) .nils (dPs ps) t)],defers:=[]}
theorem znfb (p:Nat) (vs:List (List UInt8)) (ps:List Pr) (t:Tp) (i:Nat) (h:i < 9) (σ σ':Store) (x:Tp) (hc:C n_51 [.ptr p 0] σ=some (.ret ⟨false,dT x⟩,σ')):exec C n none a_80 (Eb p vs ps t i) σ=some (.normal,Eb p vs ps t (i + 1),σ'):=by
 have hi:((i:Int) < 9):=by omega
 have w1:=zaj (i:=i) (by omega)
 rw [dT_eq x] at hc
 simp only [cT] at hc
 simp only [a_80,Eb,bX7,bT,sA,Nat.reduceAdd,Nat.reduceSub,Nat.reduceMul,Nat.reduceBEq,Nat.reduceLeDiff,Int.reduceBEq,Int.reduceBNe,Int.reduceLE,Int.reduceLT,Int.reduceGE,Int.reduceGT,Int.reduceNeg,kn,zeroI,lit1,lit2,lit3,lit4,lit5,lit6,lit7,lit8,hi,hc,w1]
theorem zpgb (p:Nat) (vs:List (List UInt8)) (ps:List Pr) (t:Tp) (σ:Store):exec C n none a_80 (Eb p vs ps t 9) σ=some (.exit 0,{Eb p vs ps t 9 with slots:=[(6,⟨false,.ptr p 0⟩),(7,⟨false,.int .i64 9⟩),(21,⟨false,.bool false⟩)]},σ):=by
 have hi:¬ (((9:Nat):Int) < 9):=by omega
 simp only [a_80,Eb,bX7,bT,sA,Nat.reduceAdd,Nat.reduceSub,Nat.reduceMul,Nat.reduceBEq,Nat.reduceLeDiff,Int.reduceBEq,Int.reduceBNe,Int.reduceLE,Int.reduceLT,Int.reduceGE,Int.reduceGT,Int.reduceNeg,kn,zeroI,lit1,lit2,lit3,lit4,lit5,lit6,lit7,lit8,hi]
 rfl
end
theorem zj8b (d d1:D) (xs ys:List Int) (hR:Row d xs) (hS:zbj xs) (hR1:Row d1 ys) (hS1:zbj ys):∃ C:CallF,zcm Go.Proofs.Tryz.prog κ C∧∃ σ1,C n_219 [d,d1] σ0=some (.ret ⟨false,.bool true⟩,σ1):=by
 obtain ⟨vs,ps,t,H,hmade⟩:=zntb d d1 xs ys hR hS hR1 hS1
 -- names,numbers
 obtain ⟨ms,hms⟩:∃ ms,ms=metA t []:=⟨_,rfl⟩
 rw [← hms] at H
 have ht:=H.tb
 have e1:=im_eq H.m6 t ht
 have hsub:∀ x∈metA t [],x∈ms:=fun x hx=>by rw [hms]; exact hx
 have e2:metA (im ms t) []=ms.map (nuN ms):=by
  have:=zw2 (ms:=ms) t [] ht hsub
  simp only [List.map_nil] at this
  rw [this,← hms]
 have hnu:∀ m∈ms.map (nuN ms),m < 20:=fun m hm=>by
  obtain ⟨x,hx,rfl⟩:=List.mem_map.1 hm
  have:=zjm hx
  have:=H.ml
  unfold nuN
  omega
 have R:=rn_ok H.m6 H.ml
 have hcan:=R.canon (varT ms t) (ps.map (varP ms)) (zfq ms t ht) (fun p hp s hs=>by
  obtain ⟨q,hq,rfl⟩:=List.mem_map.1 hp
  exact zfq ms q.ty (H.pb q hq) s hs)
 have hl:=H.ml
 have hpl:=H.pl
 have lvs:(ms.map tn).length=ms.length:=List.length_map _
 -- what is told
 obtain ⟨X,hX⟩:∃ X:D,X=.agg (dSs vs :: .nils :: dPs ps :: cT t):=⟨_,rfl⟩
 obtain ⟨qs,hqs⟩:∃ qs,qs=(ps.map (varP ms)).map (putP (ms.map tn) (newT 9 ms.length)):=⟨_,rfl⟩
 obtain ⟨P,hP⟩:∃ P:D,P=.tup [dPs qs,dT (im ms t)]:=⟨_,rfl⟩
 obtain ⟨L,hL⟩:∃ L:D,L=dTs (newT 9 ms.length):=⟨_,rfl⟩
 have hqb:qs.map (varP (ms.map (nuN ms)))=(ps.map (varP ms)).map (renP (rhN ms)):=by rw [hqs]; exact H.ps_im
 have htb:varT (ms.map (nuN ms)) (im ms t)=renT (rhN ms) (varT ms t):=zsb H.m6 t ht
 have hql:qs.length≤4:=by rw [hqs,List.length_map,List.length_map]; exact hpl
 have pput:=zp3b (dSs (ms.map tn)) .nils (zhz _) rfl (ps.map (varP ms)) (varT ms t) (ms.map tn) (newT 9 ms.length) (by rw [List.length_map]; omega) (by omega) (by rw [zfk,lvs])
 rw [← hqs,e1,← hP] at pput
 have pcl:=zivb (newT 9 ms.length) (by rw [zfk]; omega)
 rw [← hL] at pcl
 have psame:=zohb H.sq H.sq2 hcan.1 hcan.2.1 hcan.2.2
 rw [← hX] at hmade
 have oM:=fun n σ=>orc1 (S:=SKb X P L) (f:=n_103) rfl rfl hmade n σ
 have oL:=fun n σ=>orc1 (S:=SKb X P L) (f:=n_99) rfl rfl zkjb n σ
 have oS:=fun n σ=>orc1 (S:=SKb X P L) (f:=n_120) rfl rfl psame n σ
 have oP:=fun n σ=>orc1 (S:=SKb X P L) (f:=n_50) rfl rfl pput n σ
 have oC:=fun n σ=>orc1 (S:=SKb X P L) (f:=n_21) rfl rfl pcl n σ
 have oE:=fun n σ=>orc1 (S:=SKb X P L) (f:=n_62) rfl rfl (ziyb t) n σ
 have hnt:nT t < 100000:=by have:=H.nt; omega
 have oT1:=fun n σ=>zt8 (X:=X) (P:=P) (L:=L) t (zte t ht) hnt n σ
 have oT2:=fun n σ=>zt8 (X:=X) (P:=P) (L:=L) (im ms t) (ztd ms t ht) (by rw [nT_im]; exact hnt) n σ
 have oQ1:=fun n σ=>zt9 (X:=X) (P:=P) (L:=L) ms ps t (fun m hm=>Nat.lt_of_lt_of_le (H.m6 m hm) (by omega)) (by omega) (by omega) n σ
 have oQ2:=fun n σ=>zt9 (X:=X) (P:=P) (L:=L) (ms.map (nuN ms)) qs (im ms t) hnu (by rw [List.length_map]; omega) (by omega) n σ
 rw [← hms] at oT1
 rw [e2] at oT2
 rw [hqb,htb,vs_im H.m6] at oQ2
 -- the substitution
 obtain ⟨σ1,p,m,hnew,hB,_⟩:=U.unew_run (S:=SKb X P L) rfl 0 σ0
 have hnew:∀ n,TS (SKb X P L) (n + 1) n_126 [] σ0=some (.ret ⟨false,.ptr p 0⟩,σ1):=fun n=>by
  have:=hnew
  rw [zbe (af:=a_114) rfl rfl rfl] at this ⊢
  exact this
 let g:Nat→Store:=fun i=>Nat.rec σ1 (fun i τ=>U.SO τ p [⟨false,.int .i64 (i + 1:Nat)⟩,⟨false,.map m⟩]) i
 have hg:∀ i,U.SB (g i) p m i [] 0:=fun i=>by
  induction i with
  | zero=>exact hB
  | succ i ih=>exact ⟨U.agA _ _ _,ih.map,ih.lt,ih.ltm⟩
 have hfr:∀ i,i < 9→∀ n,TS (SKb X P L) (n + 2) n_51 [.ptr p 0] (g i)=some (.ret ⟨false,dT (.hole (i + 1:Nat))⟩,g (i + 1)):=fun i hi n=>by
  have:=(U.fresh_run (S:=SKb X P L) rfl rfl (hg i) (by omega) n).1
  rw [znq] at this
  exact this
 have hput:∀ n σ,TS (SKb X P L) (n + 1) n_50 [.agg (dSs (ms.map tn) :: .nils :: dPs (ps.map (varP ms)) :: cT (varT ms t)),dSs (ms.map tn),dTs (newT 9 (ms.map tn).length)] σ=some (.ret ⟨false,.tup [dPs ((ps.map (varP ms)).map (putP (ms.map tn) (newT 9 (ms.map tn).length))),dT (subT (ms.map tn) (newT 9 (ms.map tn).length) (varT ms t))]⟩,σ):=fun n σ=>by
  rw [lvs,← hqs,e1,← hP]
  exact oP n σ
 have hcl:∀ n σ,TS (SKb X P L) (n + 1) n_21 [dTs (newT 9 (ms.map tn).length)] σ=some (.ret ⟨false,dTs (newT 9 (ms.map tn).length)⟩,σ):=fun n σ=>by
  rw [lvs,← hL]
  exact oC n σ
 obtain ⟨σ3,hB3,hF⟩:=zehb (S:=SKb X P L) rfl rfl rfl (ms.map tn) .nils (ps.map (varP ms)) (varT ms t) 9 (by omega) (by omega) rfl hput hcl (hg 9)
 rw [lvs,← hqs,e1,← hL] at hF
 have hone:=zxm ms H.m6 0 t [] [] (nT t) ht (Nat.le_refl _) (by rw [List.append_nil]; exact hms.symm)
 rw [← hms] at hone
 obtain ⟨hfk,σ4,_,hK4,N4,hU⟩:=U.unify_run (S:=SKb X P L) zym hone (fun x hx=>by cases hx) (zi9 _) (zi9 _) σ3 hB3
 have hK4:=hK4 rfl
 have happ:=zvj ms H.m6 (nT t) t [] ht hsub (Nat.le_refl _)
 obtain ⟨N5,hA1⟩:=U.apply_run (S:=SKb X P L) zym hfk hK4 _ _ _ (zi9 _) happ.1
 obtain ⟨N6,hA2⟩:=U.apply_run (S:=SKb X P L) zym hfk hK4 _ _ _ (zi9 _) happ.2
 simp only [znc] at hU hA1 hA2
 refine ⟨TS (SKb X P L) (N4 + N5 + N6 + 40 + 1),U.TS_sound _ _,σ4,?_⟩
 obtain ⟨M,hM⟩:∃ M,M=N4 + N5 + N6 + 39:=⟨_,rfl⟩
 have hM1:N4 + N5 + N6 + 40=M + 1:=by omega
 rw [hM1]
 have hU:=hU (M + 1) (by omega)
 have hA1:=hA1 (M + 1) (by omega)
 have hA2:=hA2 (M + 1) (by omega)
 have hF:=hF (M + 1) (by omega)
 obtain ⟨M',rfl⟩:∃ M',M=M' + 1:=⟨M - 1,by omega⟩
 have hloop:=zbz (body:=exec (TS (SKb X P L) (M' + 1 + 1)) (M' + 1 + 1) none a_80) (Eb p vs ps t) g 9 (r:=_) (fun _ _ h=>by cases h) (fun i hi=>znfb p vs ps t i hi (g i) (g (i + 1)) _ (hfr i hi M')) (zpgb p vs ps t _) 0 (M' + 1 + 1) (by omega) (by omega)
 have g0:g 0=σ1:=rfl
 rw [g0] at hloop
 generalize g 9=σ2 at *
 have oM:=oM (M' + 1) σ0
 have hnew:=hnew (M' + 1)
 have oT1:=oT1 (M' + 1) σ2
 have oQ1:=oQ1 (M' + 1) σ2
 have oT2:=oT2 (M' + 1) σ3
 have oQ2:=oQ2 (M' + 1) σ3
 have oS:=oS (M' + 1) σ3
 have oE:=oE (M' + 1) σ4
 have oL:=oL (M' + 1) σ4
 have oV1:(dSs vs).one=true:=zbp
 have oV2:(dSs (ms.map tn)).one=true:=zbp
 have oV3:(dSs ((ms.map tn).map (rhN ms))).one=true:=zbp
 have oP1:(dPs ps).one=true:=zbp
 have oP2:(dPs (ps.map (varP ms))).one=true:=zbp
 have oP3:(dPs qs).one=true:=zbp
 have oP4:(dPs ((ps.map (varP ms)).map (renP (rhN ms)))).one=true:=zbp
 have oLL:L.one=true:=by rw [hL]; exact zbp
 have lL:lenOf L=some ms.length:=by rw [hL]; simp only [dTs,zbs,List.length_map,zfk]
 have lV:lenOf (dSs (ms.map tn))=some ms.length:=by simp only [dSs,zbs,List.length_map]
 have hnn:((ms.length:Int) != (ms.length:Int))=false:=by simp
 rw [zbe (af:=a_132) rfl rfl rfl]
 generalize TS (SKb X P L) (M' + 1 + 1)=C at *
 rw [hX] at oM
 simp only [scD] at oQ1 oQ2 oS hF
 generalize varT ms t=ta at *
 generalize renT (rhN ms) ta=tb at *
 generalize im ms t=ti at *
 generalize dSs (ms.map tn)=V2 at *
 generalize dSs ((ms.map tn).map (rhN ms))=V3 at *
 generalize dPs (ps.map (varP ms))=P2 at *
 generalize dPs ((ps.map (varP ms)).map (renP (rhN ms)))=P4 at *
 generalize dPs qs=P3 at *
 rw [dT_eq t] at oT1 oQ1 hU hA1 hA2 oE
 rw [dT_eq ti] at hF oT2 oQ2 hU hA1
 simp only [Eb,bX7,bT,zeroI] at hloop
 simp only [cT] at oM oT1 oQ1 oT2 oQ2 oS hF hU hA1 hA2 oE
 simp only [a_132,sA,Nat.reduceAdd,Nat.reduceSub,Nat.reduceMul,Nat.reduceBEq,Nat.reduceLeDiff,Int.reduceBEq,Int.reduceBNe,Int.reduceLE,Int.reduceLT,Int.reduceGE,Int.reduceGT,Int.reduceNeg,kn,zeroI,lit1,lit2,lit3,lit4,lit5,lit6,lit7,lit8,memE,memOp,oV1,oV2,oV3,oP1,oP2,oP3,oP4,oLL,oM,hnew,hloop,oT1,oQ1,hF,oT2,oQ2,lL,lV,hnn,oS,hU,hA1,hA2,oE,oL]
theorem lawB (D0 D1:D) (x0 x1:List Int) (i0:zqs k_int D0 x0) (i1:zqs k_int D1 x1) (s0:∀ x∈x0,Small x) (s1:∀ x∈x1,Small x):∃ C:CallF,zcm Go.Proofs.Tryz.prog κ C∧∃ σ1,C n_219 [D0,D1] σ0=some (.ret ⟨false,.bool true⟩,σ1):=zj8b D0 D1 x0 x1 i0 s0 i1 s1
end Go.Fu

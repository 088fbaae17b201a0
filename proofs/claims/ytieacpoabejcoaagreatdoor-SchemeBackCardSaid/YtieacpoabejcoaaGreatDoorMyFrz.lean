/-
 Regions: the lexical order,and the orders that are drawn.
-/
import Derived.OrdersIn
import Derived.TacticsIn
import Derived.Test.YtieacpoabejcoaaGreatDoorMyCalls
import Derived.Test.YtieacpoabejcoaaGreatDoorMySwap
set_option linter.unusedSimpArgs false
set_option linter.unusedVariables false
set_option linter.unusedSectionVars false
namespace Go.Mx
open Go
def zd5 (ops:Array Oper) (k:Nat):List Nat:=match ops[k]? with
 | some o=>(o.after.toList.filter fun e=>Region.binds .any e).map (·.on)
 | none=>[]
def addN:List Nat→List Nat→List Nat
 | [],m=>m
 | x :: l,m=>ifB (mem m x) (addN l m) (addN l (x :: m))
def zb9b (ops:Array Oper):Nat→List (List Nat)
 | 0=>[]
 | k + 1=>let t:=zb9b ops k; t ++ [(zd5 ops k).foldl (fun m d=>addN ((nth t d).getD []) m) (zd5 ops k)]
def zgl (t:List (List Nat)) (k:Nat):List Nat:=(nth t k).getD []
def zk3 (ops:Array Oper) (t:List (List Nat)):Nat→Bool
 | 0=>true
 | k + 1=>zk3 ops t k && (zgl t k).all fun r=>(zd5 ops k).contains r || (zd5 ops k).any fun d=>(zgl t d).contains r
def onceB (p i:AOper):Bool:=match lslot p.op with
 | some s=>!(i.dst == some s)
 | none=>true
def zdz (ops:Array Oper) (t:List (List Nat)):List (Nat × AOper)→Bool
 | []=>true
 | p :: l=>(!(zd5 ops p.1).contains p.1 && (zd5 ops p.1).all fun d=>decide (d < ops.size)) && (l.all fun i=>!(zd5 ops p.1).contains i.1 && (((zgl t i.1).contains p.1 || apart p.2 i.2) && onceB p.2 i.2)) && zdz ops t l
def zjr (P:Program) (N:Nat) (ops:Array Oper):List (Nat × AOper)→Bool
 | []=>true
 | p :: l=>(match ops[p.1]? with | some o=>znz P N ops o p.2 | none=>false) && zgf p.2.op && zjr P N ops l
def zk1 (N:Nat) (ops:Array Oper):Bool:=ops.toList.all fun o=>match o.dst with | some s=>decide (s < N) | none=>true
def zrd:List Nat→Bool
 | []=>true
 | x :: l=>!l.contains x && zrd l
def zcab (P:Program) (N:Nat) (ops:Array Oper) (l:List AOper) (perm:List Nat):Bool :=
 let t:=zb9b ops ops.size
 perm.length == l.length && l.length == ops.size && zrd perm && ((List.range ops.size).all fun k=>perm.contains k) && zk1 N ops && zk3 ops t ops.size && zdz ops t (perm.zip l) && zjr P N ops (perm.zip l)
def okOps (P:Program) (N:Nat) (ops:Array Oper):List Oper→List AOper→Bool
 | [],[]=>true
 | o :: l,o' :: l'=>znz P N ops o o' && okOps P N ops l l'
 | _,_=>false
section
variable [LoopKit] {P:Program} {N:Nat} {e:Env} {a:Go.Act} {w:World} {σ:Store} {ι0:Imm} {j0:Lay} {own0:Own} {w0:World} {κ:Ctx}
theorem zkk {ops:Array Oper} (h:zk1 N ops=true) (i:Nat) (o:Oper) (s:Nat) (hi:ops[i]?=some o) (hs:o.dst=some s):s < N:=by
 have:=List.all_eq_true.1 h o (by
  have:=List.mem_of_getElem? (l:=ops.toList) (i:=i) (a:=o) (by rw [Array.getElem?_toList]; exact hi)
  exact this)
 rw [hs] at this
 simpa using this
def zbbb (ι0:Imm) (j0:Lay) (own0:Own) (w0:World) (N:Nat) (Q:Exit→Go.Act→World→Prop):OpsOut→Prop
 | .normal e σ=>∀ a w,St ι0 j0 own0 w0 N e σ a w→Q .normal a w
 | .panic d e σ=>∀ a w chain,StP ι0 j0 own0 w0 N d chain e σ a w→Q (.panic chain) a w
def zja (ι0:Imm) (j0:Lay) (own0:Own) (w0:World) (N:Nat) (Q:Exit→Go.Act→World→Prop):OpsOut→Prop
 | .normal e σ=>∀ a w,St ι0 j0 own0 w0 N e σ a w→Q .normal a w
 | .panic d e σ=>∀ a w chain,StP ι0 j0 own0 w0 N d chain e.bare σ a w→Q (.panic chain) a w
theorem StP.bare {d:D} {chain:List PanicEntry} (h:StP ι0 j0 own0 w0 N d chain e σ a w):StP ι0 j0 own0 w0 N d chain e.bare σ a w:=by
 obtain ⟨ι,j,own,lb,h1,h2,h3⟩:=h
 exact ⟨ι,j,own,lb,h1,h2.bare,h3⟩
theorem zgy {r:Option Nat} {C:CallF} (hC:zcm P κ C) (hB:Base κ own0 w0) {ops:Array Oper} (hops:zk1 N ops=true) {Q:Exit→Go.Act→World→Prop}:∀ (l:List Oper) (l':List AOper),okOps P N ops l l'=true→(r=none∨∀ o∈l,∀ c,o.op≠.defer c)→∀ {e σ a w out},runOps C l' e σ=some out→St ι0 j0 own0 w0 N e σ a w →
  zbbb ι0 j0 own0 w0 N Q out→wpListIn (FW r) 0 P ops Q l a w
 | [],[],_,_,e,σ,a,w,out,h,hSt,hQ=>by
  simp only [runOps,Option.some.injEq] at h
  subst h
  exact hQ a w hSt
 | [],_ :: _,hk,_,_,_,_,_,_,_,_,_=>by simp only [okOps,Bool.false_eq_true] at hk
 | _ :: _,[],hk,_,_,_,_,_,_,_,_,_=>by simp only [okOps,Bool.false_eq_true] at hk
 | o :: l,o' :: l',hk,hdf,e,σ,a,w,out,h,hSt,hQ=>by
  simp only [okOps,Bool.and_eq_true] at hk
  simp only [runOps] at h
  obtain ⟨st,h1,h⟩:=zaa h
  simp only [wpListIn]
  have hdl:r=none∨∀ o∈l,∀ c,o.op≠.defer c:=hdf.imp id fun h o ho=>h o (by simp [ho])
  refine op_wp hC hB (fun i o s hi hs=>zkk hops i o s hi hs) hk.1 (hdf.imp id fun h=>h o (by simp)) hSt h1 ?_
  cases st with
  | next e' σ'=>exact fun a' w' h'=>zgy hC hB hops l l' hk.2 hdl (zae h).2 h' hQ
  | call f as =>
   simp only at h
   obtain ⟨⟨r,σ'⟩,h2,h⟩:=zaa h
   obtain ⟨_,h⟩:=zae h
   refine ⟨r,σ',h2,?_⟩
   cases r with
   | ret c=>exact fun a' w' h'=>zgy hC hB hops l l' hk.2 hdl h h' hQ
   | panic d =>
    simp only [Option.some.injEq] at h
    subst h
    exact hQ
  | panic d =>
   simp only [Option.some.injEq] at h
   subst h
   exact hQ
theorem St.eqv {e':Env} (h:St ι0 j0 own0 w0 N e σ a w) (he:Eqv e e'):St ι0 j0 own0 w0 N e' σ a w:=by
 obtain ⟨ι,j,own,lb,h1,h2,h3⟩:=h
 exact ⟨ι,j,own,lb,h1,h2.sub (fun s c h=>⟨c,by rw [he.slots]; exact h,rfl,fun h=>h⟩) (fun s p h=>by rw [he.locs]; exact h) (fun s cs h=>⟨cs,by rw [he.boxes]; exact h,zbk.refl cs⟩) he.defers.symm,h3⟩
theorem zja.eqv {Q:Exit→Go.Act→World→Prop} {out out':OpsOut} (h:zja ι0 j0 own0 w0 N Q out) (he:OutEqv out out'):zja ι0 j0 own0 w0 N Q out':=by
 cases he with
 | normal he=>exact fun a w hs=>h a w (hs.eqv he.symm)
 | panic he =>
  rename_i d e e' σ
  have:e.bare=e'.bare:=by unfold Env.bare; rw [he]
  intro a w chain hs
  rw [← this] at hs
  exact h a w chain hs
theorem St.draw (h:St ι0 j0 own0 w0 N e σ a w):St ι0 j0 own0 w0 N e σ a {w with drawn:=w.drawn + 1}:=by
 obtain ⟨ι,j,own,lb,h1,h2,h3⟩:=h
 have hE:Evo ι j own w ι j own {w with drawn:=w.drawn + 1} (fun _=>False):=⟨rfl,rfl,rfl,Nat.le_refl _,fun _ _ _ h=>h,fun _ _ h=>h,fun _ _ _=>⟨rfl,rfl,fun _=>rfl⟩⟩
 exact ⟨ι,j,own,lb,h1.evo hE h1.holds h1.noimm h1.ownlt h1.jlt (fun _ _ _=>⟨fun h=>h,fun _ _ _ _ h=>h⟩) (fun _ _ _ h=>h),h2.evo hE (fun _ _ _ _ h=>h) (fun _ _ _=>⟨fun h=>h,fun _ _ _ _ h=>h⟩),h3.trans (hE.weaken fun _ h=>h.elim)⟩
theorem zra {ops:Array Oper} {k:Nat} {o:Oper} (hk:ops[k]?=some o) {x:Nat} (h:x∈zd5 ops k):∃ e∈o.after,Region.binds .any e=true∧e.on=x:=by
 simp only [zd5,hk,List.mem_map,List.mem_filter,Array.mem_toList_iff] at h
 obtain ⟨e,⟨h1,h2⟩,h3⟩:=h
 exact ⟨e,h1,h2,h3⟩
theorem zn1 {ops:Array Oper} {t:List (List Nat)}:∀ {n:Nat},zk3 ops t n=true→∀ k,k < n→∀ r∈zgl t k,r∈zd5 ops k∨∃ d∈zd5 ops k,r∈zgl t d
 | 0,_,k,hk,_,_=>by omega
 | n + 1,h,k,hk,r,hr=>by
  simp only [zk3,Bool.and_eq_true] at h
  by_cases hkn:k=n
  ·subst hkn
   have:=List.all_eq_true.1 h.2 r hr
   simp only [Bool.or_eq_true,List.contains_iff_mem,List.any_eq_true] at this
   exact this
  ·exact zn1 h.1 k (by omega) r hr
theorem zkl {ops:Array Oper} {t:List (List Nat)}:∀ {l m:List (Nat × AOper)},m.Sublist l→zdz ops t l=true→zdz ops t m=true
 | _,_,.slnil,_=>rfl
 | _,_,.cons _ h,hk=>by
  simp only [zdz,Bool.and_eq_true] at hk
  exact zkl h hk.2
 | _,_,.cons_cons _ h,hk=>by
  simp only [zdz,Bool.and_eq_true] at hk ⊢
  refine ⟨⟨hk.1.1,?_⟩,zkl h hk.2⟩
  exact List.all_eq_true.2 fun x hx=>List.all_eq_true.1 hk.1.2 x (h.subset hx)
theorem zrf {ops:Array Oper} {t:List (List Nat)}:∀ {A B:List (Nat × AOper)} {i:Nat × AOper},zdz ops t (A ++ i :: B)=true→∀ p∈A,(zgl t i.1).contains p.1=true∨apart p.2 i.2=true
 | [],_,_,_,p,hp=>by cases hp
 | q :: A,B,i,h,p,hp=>by
  simp only [List.cons_append,zdz,Bool.and_eq_true] at h
  rcases List.mem_cons.1 hp with rfl | hp
  ·have:=List.all_eq_true.1 h.1.2 i (by simp)
   simp only [Bool.and_eq_true,Bool.or_eq_true] at this
   exact this.2.1
  ·exact zrf h.2 p hp
theorem zn0 {ops:Array Oper} {t:List (List Nat)}:∀ {A B:List (Nat × AOper)},zdz ops t (A ++ B)=true→Once (A.map (·.2))
 | [],_,_=>trivial
 | q :: A,B,h=>by
  simp only [List.cons_append,zdz,Bool.and_eq_true] at h
  refine ⟨fun s hs a ha=>?_,zn0 h.2⟩
  obtain ⟨x,hx,rfl⟩:=List.mem_map.1 ha
  have:=List.all_eq_true.1 h.1.2 x (by simp [hx])
  simp only [Bool.and_eq_true] at this
  have h2:=this.2.2
  unfold onceB at h2
  rw [hs] at h2
  simpa using h2
theorem zgj {ops:Array Oper}:∀ {l:List (Nat × AOper)},zjr P N ops l=true→∀ p∈l,(∃ o,ops[p.1]?=some o∧znz P N ops o p.2=true)∧zgf p.2.op=true
 | [],_,p,hp=>by cases hp
 | q :: l,h,p,hp=>by
  simp only [zjr,Bool.and_eq_true] at h
  rcases List.mem_cons.1 hp with rfl | hp
  ·refine ⟨?_,h.1.2⟩
   have:=h.1.1
   split at this
   ·rename_i o ho
    exact ⟨o,ho,this⟩
   ·cases this
  ·exact zgj h.2 p hp
theorem zpd:∀ {l:List Nat},zrd l=true→l.Nodup
 | [],_=>List.nodup_nil
 | x :: l,h=>by
  simp only [zrd,Bool.and_eq_true,Bool.not_eq_true',List.contains_eq_mem,decide_eq_false_iff_not] at h
  exact List.nodup_cons.2 ⟨h.1,zpd h.2⟩
theorem zbab {r:Option Nat} {C:CallF} (hC:zcm P κ C) (hB:Base κ own0 w0) {ops:Array Oper} (hdf:r=none∨∀ o∈ops.toList,∀ c,o.op≠.defer c) (hops:zk1 N ops=true) {t:List (List Nat)} (ht:zk3 ops t ops.size=true) {Q:Exit→Go.Act→World→Prop} :
  ∀ (L:List (Nat × AOper)) (listed:Array Bool) {e σ a w out},zdz ops t L=true→zjr P N ops L=true→(L.map (·.1)).Nodup→listed.size=ops.size→(∀ k,k < ops.size→(listed.getD k true=false↔k∈L.map (·.1))) →
  (∀ k,k < ops.size→k ∉ L.map (·.1)→∀ r∈zgl t k,r ∉ L.map (·.1))→runOps C (L.map (·.2)) e σ=some out→St ι0 j0 own0 w0 N e σ a w→zja ι0 j0 own0 w0 N Q out→wpAnyIn (FW r) 0 P .any ops Q L.length listed a w:=by
 intro L
 generalize hn:L.length=n
 induction n generalizing L with
 | zero =>
  intro listed e σ a w out _ _ _ _ hl _ hrun hSt hQ
  have:L=[]:=List.eq_nil_of_length_eq_zero hn
  subst this
  simp only [List.map_nil,runOps,Option.some.injEq] at hrun
  subst hrun
  refine ⟨?_,hQ a w hSt⟩
  apply List.eq_nil_iff_forall_not_mem.2
  intro k hk
  obtain ⟨h1,o,ho,_⟩:=mem_ready.1 hk
  have hlt:=(Array.getElem?_eq_some_iff.1 ho).1
  have:=(hl k hlt).1 h1
  simp at this
 | succ n ih =>
  intro listed e σ a w out hp he hnd hsz hl hcl hrun hSt hQ
  have unl:∀ k,k < ops.size→listed.getD k false=true→k ∉ L.map (·.1):=by
   intro k hk h hm
   have:=(hl k hk).2 hm
   have hks:k < listed.size:=by omega
   simp only [Array.getD_eq_getD_getElem?,Array.getElem?_eq_getElem hks,Option.getD_some] at h this
   rw [h] at this
   cases this
  refine ⟨fun hnil=>?_,fun k hk=>?_⟩
  · -- something is ready
   exfalso
   cases L with
   | nil=>simp at hn
   | cons p L' =>
    obtain ⟨⟨o,ho,_⟩,_⟩:=zgj he p (by simp)
    have hlt:=(Array.getElem?_eq_some_iff.1 ho).1
    have:p.1∈Region.ready .any ops listed:=by
     refine mem_ready.2 ⟨(hl p.1 hlt).2 (by simp),o,ho,fun ed hed hb=>?_⟩
     have hdir:ed.on∈zd5 ops p.1:=by
      simp only [zd5,ho,List.mem_map,List.mem_filter,Array.mem_toList_iff]
      exact ⟨ed,⟨hed,hb⟩,rfl⟩
     simp only [zdz,Bool.and_eq_true,Bool.not_eq_true',List.contains_eq_mem,decide_eq_false_iff_not] at hp
     have hds:ed.on < ops.size:=by simpa using List.all_eq_true.1 hp.1.1.2 ed.on hdir
     have hnm:ed.on ∉ (p :: L').map (·.1):=by
      intro hm
      simp only [List.map_cons,List.mem_cons,List.mem_map] at hm
      rcases hm with hm | ⟨q,hq,hqe⟩
      ·exact hp.1.1.1 (hm ▸ hdir)
      ·have:=List.all_eq_true.1 hp.1.2 q hq
       simp only [Bool.and_eq_true,Bool.not_eq_true',decide_eq_false_iff_not] at this
       exact this.1 (hqe ▸ hdir)
     have hks:ed.on < listed.size:=by omega
     have hnf:¬ listed.getD ed.on true=false:=fun h=>hnm ((hl ed.on hds).1 h)
     simp only [Array.getD_eq_getD_getElem?,Array.getElem?_eq_getElem hks,Option.getD_some] at hnf ⊢
     simpa using hnf
    rw [hnil] at this
    cases this
  ·obtain ⟨h1,o,ho,hall⟩:=mem_ready.1 hk
   have hlt:=(Array.getElem?_eq_some_iff.1 ho).1
   have hm:=(hl k hlt).1 h1
   obtain ⟨pr,hpr,hprk⟩:=List.mem_map.1 hm
   obtain ⟨A,B,rfl⟩:=List.append_of_mem hpr
   obtain ⟨i,oi⟩:=pr
   simp only at hprk
   subst hprk
   obtain ⟨⟨o2,ho2,hok⟩,_⟩:=zgj he (i,oi) (by simp)
   rw [ho] at ho2
   cases ho2
   -- what it reaches is done
   have hdir:∀ d∈zd5 ops i,d < ops.size→d ∉ (A ++ (i,oi) :: B).map (·.1):=by
    intro d hd hds
    obtain ⟨ed,q1,q2,rfl⟩:=zra ho hd
    exact unl _ hds (hall ed q1 q2)
   have hidx:∀ x∈(A ++ (i,oi) :: B).map (·.1),x < ops.size:=by
    intro x hx
    obtain ⟨q,hq,rfl⟩:=List.mem_map.1 hx
    obtain ⟨⟨oq,hoq,_⟩,_⟩:=zgj he q hq
    exact (Array.getElem?_eq_some_iff.1 hoq).1
   have hreach:∀ r∈zgl t i,r ∉ (A ++ (i,oi) :: B).map (·.1):=by
    intro r hr hmem
    have hrs:=hidx r hmem
    rcases zn1 ht i hlt r hr with h | ⟨d,hd,hrd⟩
    ·exact hdir r h hrs hmem
    ·have hds:d < ops.size:=by
      apply Nat.lt_of_not_le
      intro hge
      obtain ⟨ed,q1,q2,rfl⟩:=zra ho hd
      have:=hall ed q1 q2
      rw [Array.getD_eq_getD_getElem?,Array.getElem?_eq_none (by omega)] at this
      cases this
     exact hcl d hds (hdir d hd hds) r hrd hmem
   have hap:∀ p∈A.map (·.2),apart p oi=true:=by
    intro p hp'
    obtain ⟨q,hq,rfl⟩:=List.mem_map.1 hp'
    rcases zrf hp q hq with h | h
    ·exact absurd (List.mem_map.2 ⟨q,by simp [hq],rfl⟩) (hreach q.1 (by simpa using h))
    ·exact h
   have hdr:∀ o∈A.map (·.2) ++ B.map (·.2),zgf o.op=true:=by
    intro o' ho'
    rw [← List.map_append] at ho'
    obtain ⟨q,hq,rfl⟩:=List.mem_map.1 ho'
    exact (zgj he q (by simp at hq ⊢; rcases hq with h | h <;> simp [h])).2
   rw [List.map_append,List.map_cons] at hrun
   obtain ⟨out',hrun',heq,_⟩:=zqf hap hdr (zn0 hp) hrun
   have hQ':=hQ.eqv heq
   simp only [zfc] at hrun'
   obtain ⟨st,hst,hrun'⟩:=zaa hrun'
   have hsub:(A ++ B).Sublist (A ++ (i,oi) :: B):=List.Sublist.append_left (List.sublist_cons_self _ _) A
   have hnd':((A ++ B).map (·.1)).Nodup:=hnd.sublist (hsub.map _)
   have hni:i ∉ (A ++ B).map (·.1):=by
    rw [List.map_append,List.map_cons] at hnd
    rw [List.map_append]
    intro hmem
    rw [List.nodup_append] at hnd
    obtain ⟨n1,n2,n3⟩:=hnd
    rcases List.mem_append.1 hmem with h | h
    ·exact n3 i h i (by simp) rfl
    ·exact (List.nodup_cons.1 n2).1 h
   have hmem_iff:∀ x,x∈(A ++ (i,oi) :: B).map (·.1)↔x=i∨x∈(A ++ B).map (·.1):=by
    intro x
    simp only [List.map_append,List.map_cons,List.mem_append,List.mem_cons]
    constructor
    ·rintro (h | h | h)
     ·exact .inr (.inl h)
     ·exact .inl h
     ·exact .inr (.inr h)
    ·rintro (h | h | h)
     ·exact .inr (.inl h)
     ·exact .inl h
     ·exact .inr (.inr h)
   have go:∀ {e' σ' a' w'},runOps C ((A ++ B).map (·.2)) e' σ'=some out'→St ι0 j0 own0 w0 N e' σ' a' w'→wpAnyIn (FW r) 0 P .any ops Q n (listed.setIfInBounds i true) a' w':=by
    intro e' σ' a' w' hr hs
    refine ih (A ++ B) (by simp at hn ⊢; omega) _ (zkl hsub hp) ?_ hnd' (by simpa using hsz) (fun x hx=>?_) (fun x hx hxn r hr' hrm=>?_) hr hs hQ'
    ·have:∀ (l:List (Nat × AOper)),(∀ p∈l,p∈A ++ (i,oi) :: B)→zjr P N ops l=true:=by
      intro l
      induction l with
      | nil=>intro _; rfl
      | cons p l ihl =>
       intro hl'
       obtain ⟨⟨o3,ho3,hok3⟩,hd3⟩:=zgj he p (hl' p (by simp))
       simp only [zjr,ho3,hok3,hd3,Bool.true_and,ihl fun q hq=>hl' q (by simp [hq])]
     exact this _ fun p hp'=>hsub.subset hp'
    ·by_cases hxi:x=i
     ·subst hxi
      have hks:x < listed.size:=by omega
      have:(listed.setIfInBounds x true).getD x true=true:=by simp [hks]
      rw [this]
      exact ⟨(fun h=>by cases h),(fun h=>absurd h hni)⟩
     ·rw [getD_set_ne true (Ne.symm hxi),hl x hx,hmem_iff]
      exact ⟨fun h=>h.resolve_left hxi,fun h=>.inr h⟩
    ·have hrm':=(hmem_iff r).2 (.inr hrm)
     by_cases hxi:x=i
     ·subst hxi
      exact hreach r hr' hrm'
     ·exact hcl x hx (fun h=>by
       rcases (hmem_iff x).1 h with h | h
       ·exact hxi h
       ·exact hxn h) r hr' hrm'
   have hgoal:zxo P r ops o Q (wpAnyIn (FW r) 0 P .any ops Q n (listed.setIfInBounds i true)) a w:=by
    refine op_wp hC hB (fun i o s hi hs=>zkk hops i o s hi hs) hok (hdf.imp id fun h=>h o (Array.mem_toList_iff.2 (Array.mem_of_getElem? ho))) hSt hst ?_
    rw [← List.map_append] at hrun'
    cases st with
    | next e' σ'=>exact fun a' w' h'=>go hrun' h'
    | call f as =>
     simp only at hrun'
     obtain ⟨⟨r,σ'⟩,h2,hrun'⟩:=zaa hrun'
     refine ⟨r,σ',h2,?_⟩
     cases r with
     | ret c=>exact fun a' w' h'=>go hrun' h'
     | panic d =>
      simp only [Option.some.injEq] at hrun'
      subst hrun'
      exact fun a' w' chain h=>hQ' a' w' chain h.bare
    | panic d =>
     simp only [Option.some.injEq] at hrun'
     subst hrun'
     exact fun a' w' chain h=>hQ' a' w' chain h.bare
   simp only [wpOpIn,ho]
   exact hgoal
end
end Go.Mx
namespace Go.Mx
open Go
section
variable [LoopKit] {P:Program} {ι:Imm} {j:Lay} {own:Own} {lb:Lay} {N:Nat} {e:Env} {a:Go.Act} {w:World} {σ:Store}
theorem znb {k:RowK} (hk:(k.ag || k.sz == 1)=true):∀ (n:Nat) (ds:List D) (vs:List Value),n * k.sz≤ds.length→RepL ι j ds vs→(∀ x∈vs,x.oneCell'=true) →
  ∃ us,RepL ι j (zdl k n ds) us∧flat us=vs.take (n * k.sz)∧(zdl k n ds).length=n∧∀ x∈us,x.cells.size=k.sz
 | 0,ds,vs,_,_,_=>⟨[],by simp only [zdl,RepL],by simp [flat],rfl,by simp⟩
 | n + 1,ds,vs,hn,hr,h1=>by
  have hlen:=hr.length
  rw [Nat.add_mul] at hn
  have ht:RepL ι j (ds.take k.sz) (vs.take k.sz):=hr.take k.sz
  have hd:RepL ι j (ds.drop k.sz) (vs.drop k.sz):=RepL.of (by simp [hlen]) fun i d hi=>by
   rw [List.getElem?_drop] at hi ⊢
   exact hr.at _ d hi
  obtain ⟨u,hu,huc⟩:=zua hk (by simp; omega) ht (fun x hx=>h1 x (List.mem_of_mem_take hx))
  obtain ⟨us,k1,k2,k3,k4⟩:=znb hk n (ds.drop k.sz) (vs.drop k.sz) (by simp; omega) hd (fun x hx=>h1 x (List.mem_of_mem_drop hx))
  refine ⟨u :: us,by simp only [zdl,RepL]; exact ⟨u,us,rfl,hu,k1⟩,?_,by simp only [zdl,List.length_cons,k3],fun x hx=>?_⟩
  ·have:flat (u :: us)=u.cells.toList ++ flat us:=by simp [flat]
   rw [this,huc,k2,Nat.add_mul,Nat.one_mul,Nat.add_comm,List.take_add]
  ·rcases List.mem_cons.1 hx with rfl | hx
   ·rw [← Array.length_toList,huc,List.length_take]
    omega
   ·exact k4 x hx
theorem zze (hG:GSim ι j own σ w) {k:RowK} {id off len:Nat} {cs:List Cell} (hk:(k.ag || k.sz == 1)=true) (hc:aget σ.objs id=some cs) (hle:(off + len) * k.sz≤cs.length) :
  ∃ b us,j id=some b∧own b=some (.obj id)∧RepL ι j (elems k cs off len) us∧(elems k cs off len).length=len∧(∀ (n:Nat) (u:Value),(flat us)[n]?=some u→w.cell? ⟨b,off * k.sz + n,none⟩=some u)∧∀ x∈us,x.cells.size=k.sz:=by
 obtain ⟨b,q1,q2,q3⟩:=hG.objs id cs hc
 obtain ⟨vs,T,h1,h2,h3,h4⟩:=q3.dats
 rw [Nat.add_mul] at hle
 have hlen:=h3.length
 have hd:RepL ι j ((cs.map fun c=>c.d).drop (off * k.sz)) ((vs.take cs.length).drop (off * k.sz)):=RepL.of (by simp; omega) fun i d hi=>by
  rw [List.getElem?_drop] at hi ⊢
  exact h3.at _ d hi
 obtain ⟨us,k1,k2,k3,k4⟩:=znb hk len _ _ (by simp; omega) hd (fun x hx=>h4 x (List.mem_of_mem_drop hx))
 refine ⟨b,us,q1,q2,k1,k3,fun n u hn=>?_,k4⟩
 rw [k2,List.getElem?_take] at hn
 split at hn
 ·rw [List.getElem?_drop,List.getElem?_take] at hn
  split at hn
  ·rw [cell_of_row w b _ _ T (0,0) h1]
   simpa using hn
  ·cases hn
 ·cases hn
def ObjT (os:Objs) (t:Tag):Prop:=∃ id,t=.obj id∧(aget os id).isSome=true
theorem ztr {os:Objs} {id:Nat} {t:Tag} (h:ObjT (adel1 os id) t):ObjT os t:=by
 obtain ⟨i,rfl,hi⟩:=h
 rw [zam] at hi
 split at hi
 ·cases hi
 ·exact ⟨i,rfl,hi⟩
theorem zpfb {os:Objs} (hG:GSim ι j own {σ with objs:=os} w) {id b:Nat} {cs:List Cell} (hc:aget os id=some cs) (hb:j id=some b) :
  ∃ ι' own',GSim ι' j own' {σ with objs:=adel1 os id} w∧Evo ι j own w ι' j own' w (ObjT os)∧∀ o v,o < cs.length→w.cell? ⟨b,o,none⟩=some v→ι' b o=some v:=by
 classical
 obtain ⟨b',hb',hown,hbox⟩:=hG.objs id cs hc
 rw [hb] at hb'
 cases hb'
 have hbox':=hbox
 obtain ⟨vs,T,hrow,_⟩:=hbox'
 let ι':Imm:=fun x o=>if x=b then (if o < cs.length then w.cell? ⟨b,o,none⟩ else none) else ι x o
 let own':Own:=fun x=>if x=b then none else own x
 have hno:=hG.noimm b _ hown rfl
 have hE:Evo ι j own w ι' j own' w (fun t=>t=.obj id):=by
  refine ⟨rfl,rfl,rfl,Nat.le_refl _,fun x o v h=>?_,fun _ _ h=>h,fun x _ hx=>?_⟩
  ·have hne:x≠b:=fun e=>by rw [e,hno o] at h; cases h
   simp only [ι',if_neg hne]
   exact h
  ·have hne:x≠b:=fun e=>hx _ (e ▸ hown) rfl
   exact ⟨rfl,if_neg hne,fun o=>if_neg hne⟩
 refine ⟨ι',own',⟨fun x o v h=>?_,fun x t h hu o=>?_,fun id' cs' h=>?_,fun id' t' cs' h1 h2 x hx=>?_,fun id' x' h=>?_,hG.jlt,fun x t h=>?_⟩,hE.weaken (fun t h=>by subst h; exact ⟨id,rfl,by rw [hc]; rfl⟩),fun o v ho hv=>by simp only [ι',if_true,if_pos ho]; exact hv⟩
 ·by_cases hx:x=b
  ·subst hx
   simp only [ι',if_true] at h
   split at h
   ·exact h
   ·cases h
  ·simp only [ι',if_neg hx] at h
   exact hG.holds x o v h
 ·by_cases hx:x=b
  ·simp only [own',if_pos hx] at h
   cases h
  ·simp only [own',if_neg hx] at h
   simp only [ι',if_neg hx]
   exact hG.noimm x t h hu o
 ·simp only [zam] at h
  split at h
  ·cases h
  ·rename_i hne
   obtain ⟨B,q1,q2,q3⟩:=hG.objs id' cs' h
   have hB:B≠b:=fun e=>by
    rw [e,hown] at q2
    cases q2
    exact hne rfl
   exact ⟨B,q1,by simp only [own',if_neg hB]; exact q2,hE.boxRel q2 (fun h=>by cases h; exact hne rfl) (fun _ _ _ _ h=>by cases h) q3⟩
 ·simp only [zam] at h2
  split at h2
  ·cases h2
  ·exact hG.tys id' t' cs' h1 h2 x hx
 ·obtain ⟨B,q1,q2,q3⟩:=hG.oth id' x' h
  have hB:B≠b:=fun e=>by
   subst e
   exact q3.notCells hrow
  exact ⟨B,q1,by simp only [own',if_neg hB]; exact q2,q3.keep rfl hE.imm hE.lay⟩
 ·by_cases hx:x=b
  ·simp only [own',if_pos hx] at h
   cases h
  ·simp only [own',if_neg hx] at h
   exact hG.ownlt x t h
def Frz (j:Lay) (w:World) (σ:Store) (ι:Imm) (own:Own) (os os':Objs) (Q:Imm→Prop):Prop :=
 ∃ ι' own',GSim ι' j own' {σ with objs:=os'} w∧Evo ι j own w ι' j own' w (ObjT os)∧(∀ t,ObjT os' t→ObjT os t)∧Q ι'
theorem Frz.refl {os:Objs} (hG:GSim ι j own {σ with objs:=os} w) {Q:Imm→Prop} (hQ:Q ι):Frz j w σ ι own os os Q:=⟨ι,own,hG,Evo.refl _ _ _ _ _,fun _ h=>h,hQ⟩
theorem zmn {f:D→Objs→Option (D × Objs)} (hf:∀ (d:D) (os:Objs) (d':D) (os':Objs) (ι:Imm) (own:Own) (v:Value),f d os=some (d',os')→GSim ι j own {σ with objs:=os} w→Rep ι j d v→Frz j w σ ι own os os' fun ι'=>Rep ι' j d' v) :
  ∀ (ds:List D) (os:Objs) (ds':List D) (os':Objs) (ι:Imm) (own:Own) (vs:List Value),zdg f ds os=some (ds',os')→GSim ι j own {σ with objs:=os} w→RepL ι j ds vs→Frz j w σ ι own os os' fun ι'=>RepL ι' j ds' vs
 | [],os,ds',os',ι,own,vs,h,hG,hr=>by
  simp only [zdg,Option.some.injEq,Prod.mk.injEq] at h
  obtain ⟨rfl,rfl⟩:=h
  exact Frz.refl hG hr
 | d :: ds,os,ds',os',ι,own,vs,h,hG,hr=>by
  simp only [zdg] at h
  obtain ⟨⟨d1,os1⟩,h1,h⟩:=zaa h
  obtain ⟨⟨ds1,os2⟩,h2,h⟩:=zaa h
  cases h
  simp only [RepL] at hr
  obtain ⟨x,r,rfl,hx,hr⟩:=hr
  obtain ⟨ι1,own1,g1,g2,g3,g4⟩:=hf d os d1 os1 ι own x h1 hG hx
  obtain ⟨ι2,own2,k1,k2,k3,k4⟩:=zmn hf ds os1 ds1 os2 ι1 own1 r h2 g1 (g2.repL hr)
  refine ⟨ι2,own2,k1,g2.trans (k2.weaken g3),fun t h=>g3 t (k3 t h),?_⟩
  simp only [RepL]
  exact ⟨x,r,rfl,k2.rep g4,k4⟩
theorem zic:∀ (n:Nat) (d:D) (os:Objs) (d':D) (os':Objs) (ι:Imm) (own:Own) (v:Value),zax n d os=some (d',os')→GSim ι j own {σ with objs:=os} w→Rep ι j d v→Frz j w σ ι own os os' fun ι'=>Rep ι' j d' v
 | 0,d,os,d',os',ι,own,v,h,_,_=>by simp only [zax,reduceCtorEq] at h
 | n + 1,d,os,d',os',ι,own,v,h,hG,hr=>by
  have hL:=zmn (zic n)
  cases d with
  | arr k id off len =>
   simp only [zax] at h
   obtain ⟨cs,hc,h⟩:=zaa h
   obtain ⟨hb,h⟩:=zae h
   obtain ⟨⟨es,os1⟩,h1,h⟩:=zaa h
   cases h
   simp only [Bool.and_eq_true,decide_eq_true_eq] at hb
   obtain ⟨hk,hle⟩:=hb
   simp only [Rep] at hr
   obtain ⟨b,c,ad,r1,r2,r3,hv,r4⟩:=hr
   obtain ⟨b',us,e1,e2,e3,e4,e5,e6⟩:=zze hG hk hc hle
   rw [r1] at e1
   cases e1
   obtain ⟨ι1,own1,g1,g2,g3⟩:=zpfb hG hc r1
   obtain ⟨ι2,own2,k1,k2,k3,k4⟩:=hL _ _ _ _ ι1 own1 us h1 g1 (g2.repL e3)
   refine ⟨ι2,own2,k1,g2.trans (k2.weaken fun t h=>ztr h),fun t h=>ztr (k3 t h),?_⟩
   have hlen:es.length=len:=by rw [← k4.length,e3.length,e4]
   simp only [Rep]
   refine ⟨some ad,c - off,by rw [hlen]; exact hv,by omega,by omega,?_⟩
   rcases r4 with h0 | rfl
   ·exact .inl (List.eq_nil_of_length_eq_zero (by omega))
   ·refine .inr ⟨b,_,rfl,zas.of_vals k4 e6 fun i u hi=>k2.imm _ _ _ (g3 _ _ ?_ (e5 i u hi))⟩
    have hlt:=(List.getElem?_eq_some_iff.1 hi).1
    rw [zb6 e6,k4.length,hlen] at hlt
    rw [Nat.add_mul] at hle
    omega
  | agg ds =>
   simp only [zax] at h
   obtain ⟨⟨es,os1⟩,h1,h⟩:=zaa h
   cases h
   simp only [Rep] at hr
   obtain ⟨vs,hv,hr,h2⟩:=hr
   obtain ⟨ι2,own2,k1,k2,k3,k4⟩:=hL _ _ _ _ ι own vs h1 hG hr
   exact ⟨ι2,own2,k1,k2,k3,by simp only [Rep]; exact ⟨vs,hv,k4,h2⟩⟩
  | tup ds =>
   simp only [zax] at h
   obtain ⟨⟨es,os1⟩,h1,h⟩:=zaa h
   cases h
   simp only [Rep] at hr
   obtain ⟨vs,hv,hr⟩:=hr
   obtain ⟨ι2,own2,k1,k2,k3,k4⟩:=hL _ _ _ _ ι own vs h1 hG hr
   exact ⟨ι2,own2,k1,k2,k3,by simp only [Rep]; exact ⟨vs,hv,k4⟩⟩
  | iface t d =>
   simp only [zax] at h
   obtain ⟨⟨es,os1⟩,h1,h⟩:=zaa h
   cases h
   simp only [Rep] at hr
   obtain ⟨x,hv,hr⟩:=hr
   obtain ⟨ι2,own2,k1,k2,k3,k4⟩:=zic n _ _ _ _ ι own x h1 hG hr
   exact ⟨ι2,own2,k1,k2,k3,by simp only [Rep]; exact ⟨x,hv,k4⟩⟩
  | _ =>
   simp only [zax,Option.some.injEq,Prod.mk.injEq] at h
   obtain ⟨rfl,rfl⟩:=h
   exact Frz.refl hG hr
theorem zwc {n:Nat} {k:RowK} {es:List D} {os:Objs} {r:D × Objs} (h:zax n (.list k es) os=some r):r=(.list k es,os):=by
 cases n with
 | zero=>simp only [zax,reduceCtorEq] at h
 | succ n=>simp only [zax,Option.some.injEq] at h; exact h.symm
theorem zo8 {os os':Objs} {c:Cell} {d':D} {v:Value} {t:Tag} (ht:∀ id,t≠.obj id) (h:zax 40 c.d os=some (d',os')) (hG:GSim ι j own {σ with objs:=os} w) (hr:zcw ι j own w t c v) :
  ∃ ι' own',GSim ι' j own' {σ with objs:=os'} w∧Evo ι j own w ι' j own' w (ObjT os)∧(∀ t,ObjT os' t→ObjT os t)∧zcw ι' j own' w t ⟨c.keeps,d'⟩ v:=by
 obtain ⟨ι',own',k1,k2,k3,k4⟩:=zic 40 _ _ _ _ ι own v h hG hr.1
 refine ⟨ι',own',k1,k2,k3,k4,fun ho=>?_⟩
 simp only [Cell.keeps] at ho
 cases hd:c.d <;> rw [hd] at ho <;> simp only [Bool.false_eq_true] at ho
 rename_i k es
 rw [hd] at h
 have:=zwc h
 simp only [Prod.mk.injEq] at this
 obtain ⟨rfl,rfl⟩:=this
 have:=hr.2 ho
 rw [hd] at this
 exact k2.owned (fun hh=>by obtain ⟨id,he,_⟩:=hh; exact ht id he) this
theorem zia {t:Nat→Tag} (ht:∀ i id,t i≠.obj id):∀ (cs:List Cell) (o:Nat) (os:Objs) (cs':List Cell) (os':Objs) (ι:Imm) (own:Own) (vs:List Value),zcg cs os=some (cs',os')→GSim ι j own {σ with objs:=os} w →
  (∀ (i:Nat) (c:Cell),cs[i]?=some c→∃ v,vs[i]?=some v∧zcw ι j own w (t (o + i)) c v) →
  ∃ ι' own',GSim ι' j own' {σ with objs:=os'} w∧Evo ι j own w ι' j own' w (ObjT os)∧(∀ t,ObjT os' t→ObjT os t)∧cs'.length=cs.length∧∀ (i:Nat) (c:Cell),cs'[i]?=some c→∃ v,vs[i]?=some v∧zcw ι' j own' w (t (o + i)) c v
 | [],o,os,cs',os',ι,own,vs,h,hG,hr=>by
  simp only [zcg,Option.some.injEq,Prod.mk.injEq] at h
  obtain ⟨rfl,rfl⟩:=h
  exact ⟨ι,own,hG,Evo.refl _ _ _ _ _,fun _ h=>h,rfl,fun i c hi=>by simp at hi⟩
 | c :: cs,o,os,cs',os',ι,own,vs,h,hG,hr=>by
  simp only [zcg] at h
  obtain ⟨⟨d1,os1⟩,h1,h⟩:=zaa h
  obtain ⟨⟨cs1,os2⟩,h2,h⟩:=zaa h
  cases h
  obtain ⟨v0,hv0,hc0⟩:=hr 0 c rfl
  obtain ⟨ι1,own1,g1,g2,g3,g4⟩:=zo8 (ht _) h1 hG hc0
  obtain ⟨ι2,own2,k1,k2,k3,k4,k5⟩:=zia ht cs (o + 1) os1 cs1 os2 ι1 own1 (vs.drop 1) h2 g1 (fun i c hi=>by
   obtain ⟨v,q1,q2⟩:=hr (i + 1) c (by simpa using hi)
   refine ⟨v,by rw [List.getElem?_drop,Nat.add_comm]; exact q1,?_⟩
   rw [show o + 1 + i=o + (i + 1) by omega]
   exact g2.cellRel (fun _ hh=>by obtain ⟨id,he,_⟩:=hh; exact ht _ id he) q2)
  refine ⟨ι2,own2,k1,g2.trans (k2.weaken g3),fun t h=>g3 t (k3 t h),by simp [k4],fun i c' hi=>?_⟩
  cases i with
  | zero =>
   simp only [List.getElem?_cons_zero,Option.some.injEq] at hi
   subst hi
   exact ⟨v0,hv0,k2.cellRel (fun _ hh=>by obtain ⟨id,he,_⟩:=hh; exact ht _ id he) g4⟩
  | succ i =>
   obtain ⟨v,q1,q2⟩:=k5 i c' (by simpa using hi)
   rw [List.getElem?_drop,Nat.add_comm] at q1
   refine ⟨v,q1,?_⟩
   rw [show o + (i + 1)=o + 1 + i by omega]
   exact q2
theorem zub (L:List (Nat × (Nat × Nat))) (s id:Nat):∀ (l:List (Nat × (Nat × Nat))) (sl:List (Nat × Cell)) (t:Nat) (c:Cell),aget (promS L s id l sl) t=some c→aget sl t=some c∨∃ o,aget L t=some (s,o)∧c=⟨false,.ptr id o⟩
 | [],_,_,_,h=>.inl h
 | p :: r,sl,t,c,h=>by
  simp only [promS] at h
  rcases zub L s id r _ t c h with h | h
  ·cases hp:aget L p.1 with
   | none=>rw [hp] at h; exact .inl h
   | some q =>
    rw [hp] at h
    simp only [zab] at h
    cases hq:q.1 == s with
    | false=>rw [hq] at h; exact .inl h
    | true =>
     rw [hq,zac,zak] at h
     split at h
     ·rename_i he
      cases h
      refine .inr ⟨q.2,?_,rfl⟩
      rw [← he,hp,← eq_of_beq hq]
     ·exact .inl h
  ·exact .inr h
theorem zu6 {s:Nat} {cs:List Cell} (hG:GSim ι j own σ w) (hL:LSim ι j own lb N e a w) (h1:aget e.boxes s=some cs) (h2:aget e.locs s=some (s,0)) :
  ∃ ι' j' own',GSim ι' j' own' {σ with objs:=(σ.next,cs.map fun c=>Cell.of c.d) :: σ.objs,tys:=adel1 σ.tys σ.next,next:=σ.next + 1} w ∧
   LSim ι' j' own' lb N {e with slots:=promS e.locs s σ.next e.locs e.slots,locs:=lkill (adel1 e.locs s) s,boxes:=adel1 e.boxes s} a w∧Evo ι j own w ι' j' own' w (fun _=>True):=by
 classical
 obtain ⟨B,q1,q2,q3⟩:=hL.boxes s cs h1
 obtain ⟨B',g1,g2⟩:=hL.locs s s 0 h2
 rw [q1] at g1
 cases g1
 let j':Lay:=fun i=>if i=σ.next then some B else j i
 let own':Own:=fun b=>if b=B then some (.obj σ.next) else own b
 have hjn:∀ i b,j i=some b→i≠σ.next:=fun i b h e=>by have:=hG.jlt i b h; omega
 have hlay:∀ i b,j i=some b→j' i=some b:=fun i b h=>by simp only [j',if_neg (hjn i b h)]; exact h
 have hE:Evo ι j own w ι j' own' w (fun t=>t=.box s):=by
  refine ⟨rfl,rfl,rfl,Nat.le_refl _,fun _ _ _ h=>h,hlay,fun b _ ht=>⟨rfl,?_,fun _=>rfl⟩⟩
  have hb:b≠B:=fun e=>ht _ (e ▸ q2) rfl
  simp only [own',if_neg hb]
 refine ⟨ι,j',own',⟨hG.holds,fun b t h hu o=>?_,fun id cs' h=>?_,fun id t cs' h1' h2' b hb=>?_,fun id x h=>?_,fun id b h=>?_,fun b t h=>?_⟩,?_,hE.weaken fun _ _=>trivial⟩
 ·by_cases hb:b=B
  ·subst hb
   exact hG.noimm b _ q2 rfl o
  ·simp only [own',if_neg hb] at h
   exact hG.noimm b t h hu o
 ·simp only [zat] at h
  by_cases hid:σ.next=id
  ·rw [if_pos hid] at h
   cases h
   subst hid
   obtain ⟨vs,T,r1,r2,r3⟩:=q3
   refine ⟨B,if_pos rfl,if_pos rfl,vs,T,r1,by simpa using r2,fun i c hi=>?_⟩
   rw [List.getElem?_map,Option.map_eq_some_iff] at hi
   obtain ⟨c0,hi,rfl⟩:=hi
   obtain ⟨v,v1,v2,v3⟩:=r3 i c0 hi
   exact ⟨v,v1,v2,Rep.mono (fun _ _ _ h=>h) hlay _ _ v3.1,fun h=>by cases h⟩
  ·rw [if_neg hid] at h
   obtain ⟨B2,r1,r2,r3⟩:=hG.objs id cs' h
   have hne:B2≠B:=fun e=>by
    subst e
    rw [q2] at r2
    cases r2
   exact ⟨B2,hlay _ _ r1,by simp only [own',if_neg hne]; exact r2,hE.boxRel r2 (fun h=>by cases h) (fun _ _ _ _ h=>by cases h) r3⟩
 ·simp only [zat] at h2'
  simp only [zam] at h1'
  by_cases hid:σ.next=id
  ·rw [if_pos hid] at h1'
   cases h1'
  ·rw [if_neg hid] at h2' h1'
   have hid2:¬ id=σ.next:=fun e=>hid e.symm
   have hjb:j id=some b:=by
    simp only [j',if_neg hid2] at hb
    exact hb
   exact (hG.tys id t cs' h1' h2' b hjb).keep rfl hlay
 ·obtain ⟨B2,r1,r2,r3⟩:=hG.oth id x h
  have hne:B2≠B:=fun e=>by
   subst e
   rw [q2] at r2
   cases r2
  exact ⟨B2,hlay _ _ r1,by simp only [own',if_neg hne]; exact r2,r3.keep rfl (fun _ _ _ h=>h) hlay⟩
 ·by_cases hid:id=σ.next
  ·simp only; omega
  ·simp only [j',if_neg hid] at h
   have:=hG.jlt id b h
   simp only; omega
 ·by_cases hb:b=B
  ·subst hb
   exact hG.ownlt b _ q2
  ·simp only [own',if_neg hb] at h
   exact hG.ownlt b t h
 ·have hL0:LSim ι j own lb N {e with locs:=lkill (adel1 e.locs s) s,boxes:=adel1 e.boxes s} a w:=hL.sub (fun s' c h=>⟨c,h,rfl,fun h=>h⟩) (fun s' p h=>by
    have:=(zim _ _ _ _ _ (show aget (lkill (adel1 e.locs s) s) s'=some (p.1,p.2) from h)).2
    rw [zam] at this
    split at this
    ·cases this
    ·exact this) (fun s' cs' h=>by
    rw [zam] at h
    split at h
    ·cases h
    ·exact ⟨cs',h,zbk.refl _⟩) rfl
  have hL1:=hL0.evo hE (fun _ _ _ _ h=>by cases h) (fun s' cs' hs=>⟨(fun h=>by
   cases h
   simp only [zam,if_true] at hs
   cases hs),(fun _ _ _ _ h=>by cases h)⟩)
  exact {size:=hL1.size,slots:=fun s' c' hs=>(by
   rcases zub _ _ _ _ _ _ _ hs with hs | ⟨o,ho,rfl⟩
   ·exact hL1.slots s' c' hs
   ·obtain ⟨B',z1,z2⟩:=hL.locs s' s o ho
    rw [q1] at z1
    cases z1
    refine ⟨?_,fun h=>by cases h⟩
    rw [z2]
    simp only [Rep]
    exact ⟨B,if_pos rfl,rfl⟩),locs:=hL1.locs,boxes:=hL1.boxes,defers:=hL1.defers}
theorem zur {t:FTgt} {e':Env} {σ':Store} (h:zdf t e σ=some (e',σ')) (hG:GSim ι j own σ w) (hL:LSim ι j own lb N e a w) :
  ∃ ι' j' own',GSim ι' j' own' σ' w∧LSim ι' j' own' lb N e' a w∧Evo ι j own w ι' j' own' w (fun _=>True):=by
 cases t with
 | promote s =>
  simp only [zdf] at h
  obtain ⟨cs,h1,h⟩:=zaa h
  obtain ⟨p,h2,h⟩:=zaa h
  obtain ⟨h3,h⟩:=zae h
  cases h
  obtain ⟨p1,p2⟩:=p
  simp only [Bool.and_eq_true,beq_iff_eq] at h3
  obtain ⟨rfl,rfl⟩:=h3
  exact zu6 hG hL h1 h2
 | slot s =>
  simp only [zdf] at h
  obtain ⟨c,h1,h⟩:=zaa h
  obtain ⟨⟨d',os'⟩,h2,h⟩:=zaa h
  cases h
  obtain ⟨ι',own',k1,k2,k3,k4⟩:=zo8 (t:=.slot s) (fun _ h=>by cases h) h2 hG (hL.slots s c h1)
  refine ⟨ι',j,own',k1,?_,k2.weaken fun _ _=>trivial⟩
  have hL':=hL.evo k2 (fun _ _ _ _ h=>by obtain ⟨_,h,_⟩:=h; cases h) (fun _ _ _=>⟨(fun h=>by obtain ⟨_,h,_⟩:=h; cases h),(fun _ _ _ _ h=>by obtain ⟨_,h,_⟩:=h; cases h)⟩)
  exact {size:=hL'.size,slots:=fun s' c' hs=>(by
   simp only [zak] at hs
   split at hs
   ·rename_i hss
    cases hs
    rw [← hss]
    exact k4
   ·exact hL'.slots s' c' hs),locs:=hL'.locs,boxes:=hL'.boxes,defers:=hL'.defers}
 | box b =>
  simp only [zdf] at h
  obtain ⟨cs,h1,h⟩:=zaa h
  obtain ⟨⟨cs',os'⟩,h2,h⟩:=zaa h
  cases h
  obtain ⟨B,q1,q2,vs,T,q3,q4,q5⟩:=hL.boxes b cs h1
  obtain ⟨ι',own',k1,k2,k3,k4,k5⟩:=zia (t:=.cell b) (fun _ _ h=>by cases h) cs 0 _ _ _ ι own vs h2 hG (fun i c hi=>by
   obtain ⟨v,g1,_,g3⟩:=q5 i c hi
   exact ⟨v,g1,by rw [Nat.zero_add]; exact g3⟩)
  refine ⟨ι',j,own',k1,?_,k2.weaken fun _ _=>trivial⟩
  have hL':=hL.evo k2 (fun _ _ _ _ h=>by obtain ⟨_,h,_⟩:=h; cases h) (fun _ _ _=>⟨(fun h=>by obtain ⟨_,h,_⟩:=h; cases h),(fun _ _ _ _ h=>by obtain ⟨_,h,_⟩:=h; cases h)⟩)
  obtain ⟨B',q1',q2',_⟩:=hL'.boxes b cs h1
  rw [q1] at q1'
  cases q1'
  refine hL'.addBox q1 q2' ⟨vs,T,q3,by show cs'.length≤vs.length; omega,fun i c hi=>?_⟩
  obtain ⟨v,g1,g2⟩:=k5 i c hi
  rw [Nat.zero_add] at g2
  have hlt:i < cs.length:=by
   rw [← k4]
   exact (List.getElem?_eq_some_iff.1 hi).1
  obtain ⟨v',g3,g4,_⟩:=q5 i _ (List.getElem?_eq_getElem hlt)
  rw [g1] at g3
  cases g3
  exact ⟨v,g1,g4,g2⟩
 | obj s =>
  simp only [zdf] at h
  obtain ⟨p,hp,h⟩:=zaa h
  split at h
  ·rename_i id hpd
   obtain ⟨cs,h1,h⟩:=zaa h
   obtain ⟨⟨cs',os'⟩,h2,h⟩:=zaa h
   cases h
   obtain ⟨B,q1,q2,q3⟩:=hG.objs id cs h1
   have hbox:=q3
   obtain ⟨vs,T,g1,g2,g3⟩:=hbox
   -- the object is put aside
   have hG0:GSim ι j own {σ with objs:=adel1 σ.objs id} w:=hG.sub (fun i c h=>by
     simp only [zam] at h
     split at h
     ·cases h
     ·exact ⟨c,h,zbk.refl c⟩) (Nat.le_refl _) (fun _ _ h=>h) (fun _ _ h=>h)
   obtain ⟨ι',own',k1,k2,k3,k4,k5⟩:=zia (σ:=σ) (t:=.ocell id) (fun _ _ h=>by cases h) cs 0 _ _ _ ι own vs h2 hG0 (fun i c hi=>by
    obtain ⟨v,r1,_,r3⟩:=g3 i c hi
    exact ⟨v,r1,by rw [Nat.zero_add]; exact r3⟩)
   have hnt:¬ ObjT (adel1 σ.objs id) (.obj id):=by
    rintro ⟨i,hi,hs⟩
    cases hi
    rw [zam,if_pos rfl] at hs
    cases hs
   have hlt:=hG.ownlt B _ q2
   have hown':own' B=some (.obj id):=(k2.block B hlt (fun t h=>by rw [q2] at h; cases h; exact hnt)).2.1.trans q2
   have hL':=hL.evo k2 (fun _ _ _ _ h=>by obtain ⟨_,h,_⟩:=h; cases h) (fun _ _ _=>⟨(fun h=>by obtain ⟨_,h,_⟩:=h; cases h),(fun _ _ _ _ h=>by obtain ⟨_,h,_⟩:=h; cases h)⟩)
   refine ⟨ι',j,own',⟨k1.holds,k1.noimm,fun i c h=>?_,fun i t c h1' h2' b hb=>?_,fun i x h=>k1.oth i x h,k1.jlt,k1.ownlt⟩,hL',k2.weaken fun _ _=>trivial⟩
   ·simp only [zak] at h
    split at h
    ·rename_i hid
     cases h
     subst hid
     refine ⟨B,q1,hown',vs,T,g1,by show cs'.length≤vs.length; omega,fun i c hi=>?_⟩
     obtain ⟨v,r1,r2⟩:=k5 i c hi
     rw [Nat.zero_add] at r2
     have hlt:i < cs.length:=by
      rw [← k4]
      exact (List.getElem?_eq_some_iff.1 hi).1
     obtain ⟨v',r3,r4,_⟩:=g3 i _ (List.getElem?_eq_getElem hlt)
     rw [r1] at r3
     cases r3
     exact ⟨v,r1,r4,r2⟩
    ·exact k1.objs i c h
   ·simp only [zak] at h2'
    split at h2'
    ·rename_i hid
     subst hid
     exact hG.tys _ t cs h1' h1 b hb
    ·exact k1.tys i t c h1' h2' b hb
  ·cases h
theorem zmo:∀ {ts:List FTgt} {e e':Env} {σ σ':Store} {ι:Imm} {j:Lay} {own:Own},zbo ts e σ=some (e',σ')→GSim ι j own σ w→LSim ι j own lb N e a w →
  ∃ ι' j' own',GSim ι' j' own' σ' w∧LSim ι' j' own' lb N e' a w∧Evo ι j own w ι' j' own' w (fun _=>True)
 | [],e,e',σ,σ',ι,j,own,h,hG,hL=>by
  simp only [zbo,Option.some.injEq,Prod.mk.injEq] at h
  obtain ⟨rfl,rfl⟩:=h
  exact ⟨ι,j,own,hG,hL,Evo.refl _ _ _ _ _⟩
 | t :: ts,e,e',σ,σ',ι,j,own,h,hG,hL=>by
  simp only [zbo] at h
  obtain ⟨⟨e1,σ1⟩,h1,h⟩:=zaa h
  obtain ⟨ι1,j1,own1,k1,k2,k3⟩:=zur h1 hG hL
  obtain ⟨ι2,j2,own2,g1,g2,g3⟩:=zmo h k1 k2
  exact ⟨ι2,j2,own2,g1,g2,k3.trans g3⟩
end
end Go.Mx

/-
 What the operations of the small machine do,the model's operations do: fields,elements,aggregates.
-/
import Derived.Test.YtieacpoabejcoaaGreatDoorMyOps2
set_option linter.unusedSimpArgs false
set_option linter.unusedVariables false
set_option linter.unusedSectionVars false
namespace Go.Mx
open Go
section
variable [LoopKit] {P:Program} {ι:Imm} {j:Lay} {own:Own} {lb:Lay} {N:Nat} {e:Env} {a:Go.Act} {w:World} {σ:Store}
theorem part_rel {cs:List D} {vs:List Value} (hr:RepL ι j cs vs) (h1:∀ x∈vs,x.oneCell'=true) {t:TypeId} {k:Option Nat} (hk:okK P t k=true) {off:Nat} {d:D} (h:Go.Mx.part k cs off=some d) :
  ∃ v,(Go.part t ⟨vs⟩ off).run P w=.ok v w∧Rep ι j d v∧∀ i x,v.cells[i]?=some x→vs[off + i]?=some x:=by
 cases k with
 | none =>
  simp only [okK,Bool.and_eq_true,beq_iff_eq] at hk
  simp only [Go.Mx.part,nth_eq] at h
  obtain ⟨v,hv,hd⟩:=hr.at off d h
  have hc1:v.cells=#[v]:=by
   have:=h1 v (List.mem_of_getElem? hv)
   cases v <;> simp [Value.oneCell'] at this <;> rfl
  refine ⟨v,?_,hd,fun i x hx=>?_⟩
  ·simp only [Go.part,Sem.run_bind,run_isAgg_of hk.1,Result.andThen_ok,Bool.false_eq_true,if_false,List.getElem?_toArray,hv,Sem.run_pure]
  ·rw [hc1] at hx
   cases i with
   | zero=>simp at hx; subst hx; exact hv
   | succ i=>simp at hx
 | some n =>
  simp only [okK,Bool.and_eq_true,beq_iff_eq] at hk
  simp only [Go.Mx.part] at h
  obtain ⟨h2,h⟩:=ifB_some h
  simp only [decide_eq_true_eq] at h2
  cases h
  have hl:=hr.length
  have hex:(⟨vs⟩:Array Value).extract off (off + n)=⟨(vs.drop off).take n⟩:=by
   apply Array.ext'
   simp [List.take_drop]
  refine ⟨.agg ⟨(vs.drop off).take n⟩,?_,?_,fun i x hx=>?_⟩
  ·simp only [Go.part,Sem.run_bind,run_isAgg_of hk.1,Result.andThen_ok,if_true,run_sizeOf_of hk.2,Sem.run_pure,hex]
  ·simp only [Rep]
   refine ⟨_,rfl,RepL.of (by simp only [List.length_take,List.length_drop]; omega) (fun i d hi=>?_),fun x hx=>h1 x (List.mem_of_mem_drop (List.mem_of_mem_take hx))⟩
   simp only [List.getElem?_take,List.getElem?_drop] at hi ⊢
   split at hi
   ·rename_i hin
    rw [if_pos hin]
    exact hr.at _ _ hi
   ·cases hi
  ·simp only [Value.cells,List.getElem?_toArray,List.getElem?_take,List.getElem?_drop] at hx
   split at hx
   ·exact hx
   ·cases hx
theorem agg_of {d:D} {cs:List D} (h:d.agg?=some cs) {v:Value} (hr:Rep ι j d v):∃ vs,v=.agg ⟨vs⟩∧RepL ι j cs vs∧∀ x∈vs,x.oneCell'=true:=by
 cases d <;> simp only [D.agg?,reduceCtorEq,Option.some.injEq] at h
 subst h
 simpa only [Rep] using hr
theorem val_fieldAddr (hL:LSim ι j own lb N e a w) {o:Oper} {t:TypeId} {x:Operand} {y:AOpd} {i off:Nat} {k:Option Nat} {fs:List Field} {f:Field} (ho:o.op=.fieldAddr t x i) (hk:okOpd x y=true)
  (hf:fieldsB P t=some fs) (hi:fs[i]?=some f) (hoff:f.offset=off) (hkk:okK P f.type k=true) (hs0:sizeB P f.type≠some 0) {v:Val}
  (h:evalV (.fieldAddr off k y) e σ=some v):∃ u,(execOp a.eval o).run P w=.ok (.value u) w∧ValRel ι j lb v u:=by
 have hu:=fieldsB_eq hf
 have hi':(⟨fs⟩:Array Field)[i]?=some f:=by simpa using hi
 have hsz:∃ n,sizeB P f.type=some n∧n≠0:=by
  cases k with
  | none =>
   simp only [okK,Bool.and_eq_true,beq_iff_eq] at hkk
   exact ⟨1,hkk.2,by omega⟩
  | some n =>
   simp only [okK,Bool.and_eq_true,beq_iff_eq] at hkk
   exact ⟨n,hkk.2,fun e=>hs0 (e ▸ hkk.2)⟩
 obtain ⟨n,hn,hn0⟩:=hsz
 have hex:∀ b o',a.eval x=.pointer (some ⟨b,o',none⟩)→(execOp a.eval o).run P w=.ok (.value (.pointer (some ⟨b,o' + off,none⟩))) w:=by
  intro b o' hx
  simp only [execOp,ho,hx,Instr.fieldAt,Sem.run_bind,run_underlying hu,Result.andThen_ok,hi',Instr.sureAddr,Sem.run_pure,fieldPlace,run_sizeOf_of hn,if_neg hn0,Addr.add_lit,hoff]
 simp only [evalV] at h
 obtain ⟨p,hp,h⟩:=bindO_some h
 have hr:=addr_rel hL hk hp
 cases p with
 | loc b o' =>
  cases h
  obtain ⟨B,hB,hx⟩:=hr
  exact ⟨_,hex B o' hx,B,hB,rfl⟩
 | ptr id o' =>
  cases h
  obtain ⟨B,hB,hx⟩:=hr
  exact ⟨_,hex B o' hx,by simp only [ValRel,Rep]; exact ⟨B,hB,rfl⟩⟩
 | eptr d =>
  obtain ⟨cs,h1,h⟩:=bindO_some h
  obtain ⟨d',h2,h⟩:=bindO_some h
  cases h
  obtain ⟨b,o',u,hx,hat,hd⟩:=hr
  obtain ⟨vs,rfl,hl,h1c⟩:=agg_of h1 hd
  obtain ⟨u',_,hu',hcells⟩:=part_rel (P:=P) (w:=w) hl h1c hkk h2
  refine ⟨_,hex b o' hx,?_⟩
  simp only [ValRel,Rep]
  refine ⟨b,o' + off,u',rfl,fun i x hx=>?_,hu'⟩
  rw [Nat.add_assoc]
  exact hat (off + i) x (by simpa [Value.cells] using hcells i x hx)
theorem val_field (hL:LSim ι j own lb N e a w) {o:Oper} {t:TypeId} {x:Operand} {y:AOpd} {i off:Nat} {k:Option Nat} {fs:List Field} {f:Field} (ho:o.op=.field t x i) (hk:okOpd x y=true)
  (hf:fieldsB P t=some fs) (hi:fs[i]?=some f) (hoff:f.offset=off) (hkk:okK P f.type k=true) {v:Val}
  (h:evalV (.field off k y) e σ=some v):∃ u,(execOp a.eval o).run P w=.ok (.value u) w∧ValRel ι j lb v u:=by
 have hu:=fieldsB_eq hf
 have hi':(⟨fs⟩:Array Field)[i]?=some f:=by simpa using hi
 simp only [evalV] at h
 obtain ⟨c,h1,h⟩:=bindO_some h
 obtain ⟨cs,h2,h⟩:=bindO_some h
 obtain ⟨d,h3,h⟩:=bindO_some h
 cases h
 obtain ⟨vs,hx,hl,h1c⟩:=agg_of h2 (opd_rel hL hk h1)
 obtain ⟨u,hrun,hru,_⟩:=part_rel (P:=P) (w:=w) hl h1c hkk h3
 refine ⟨u,?_,hru⟩
 simp only [execOp,ho,hx,Instr.field,Sem.run_bind,run_underlying hu,Result.andThen_ok,hi',asAgg,Sem.run_pure,hoff,hrun]
theorem val_indexAddr (hL:LSim ι j own lb N e a w) {o:Oper} {t el:TypeId} {x i:Operand} {x' i':AOpd} {sz:Nat} (ho:o.op=.indexAddr t x i) (hk:okOpd x x'=true) (hk1:okOpd i i'=true)
  (ht:P.underlying t=some (.slice el)) (hsz:sizeB P el=some sz) {v:Val}
  (h:evalV (.indexAddr sz x' i') e σ=some v):∃ u,(execOp a.eval o).run P w=.ok (.value u) w∧ValRel ι j lb v u:=by
 simp only [evalV] at h
 obtain ⟨c,h1,h⟩:=bindO_some h
 obtain ⟨c',h3,h⟩:=bindO_some h
 obtain ⟨n,h4,h⟩:=bindO_some h
 obtain ⟨d,h6,h⟩:=bindO_some h
 cases h
 have hr:=opd_rel hL hk h1
 obtain ⟨k,hi⟩:=nat_of h4 (opd_rel hL hk1 h3)
 cases hd:c.d <;> rw [hd] at h6 hr <;> simp only [indexD,reduceCtorEq] at h6
 ·rename_i sz' es
  obtain ⟨h5,h8⟩:=ifB_some h6
  obtain ⟨d',h9,h7⟩:=bindO_some h8
  cases h7
  simp only [beq_iff_eq] at h5
  subst h5
  rw [nth_eq] at h9
  simp only [Rep] at hr
  obtain ⟨ad,cap,hx,_,_,hrow⟩:=hr
  have hlt:=(List.getElem?_eq_some_iff.1 h9).1
  rcases hrow with hrow | ⟨b,off,rfl,hrow⟩
  ·rw [hrow] at hlt
   simp at hlt
  ·obtain ⟨u,hat,_,hu⟩:=hrow.at n d' h9
   have hb:0≤(n:Int)∧(n:Int) < es.length:=⟨by omega,by omega⟩
   refine ⟨.pointer (some ⟨b,off + n * sz'.sz,none⟩),?_,?_⟩
   ·simp only [execOp,ho,hx,hi,Instr.indexAt,asIntOf,Sem.run_bind,Sem.run_pure,run_underlying ht,Result.andThen_ok]
    rw [if_pos hb]
    simp only [Sem.run_bind,run_sizeOf_of hsz,Result.andThen_ok,Sem.run_pure,Int.toNat_natCast,Addr.add_lit]
   ·simp only [ValRel,Rep]
    exact ⟨b,off + n * sz'.sz,u,rfl,hat,hu⟩
 ·rename_i k' id off len
  obtain ⟨h5,h6⟩:=ifB_some h6
  cases h6
  simp only [Bool.and_eq_true,beq_iff_eq,decide_eq_true_eq] at h5
  obtain ⟨h5,hlt⟩:=h5
  subst h5
  simp only [Rep] at hr
  obtain ⟨b,cc,ad,q1,q2,q3,hx,hor⟩:=hr
  have hne:off≠cc:=by omega
  obtain rfl:=hor.resolve_left hne
  have hb:0≤(n:Int)∧(n:Int) < len:=⟨by omega,by omega⟩
  refine ⟨.pointer (some ⟨b,(off + n) * k'.sz,none⟩),?_,?_⟩
  ·simp only [execOp,ho,hx,hi,Instr.indexAt,asIntOf,Sem.run_bind,Sem.run_pure,run_underlying ht,Result.andThen_ok]
   rw [if_pos hb]
   simp only [Sem.run_bind,run_sizeOf_of hsz,Result.andThen_ok,Sem.run_pure,Int.toNat_natCast,Addr.add_lit,Nat.add_mul]
  ·simp only [ValRel,Rep]
   exact ⟨b,q1,rfl⟩
/-! ### Aggregates that are built -/
theorem putD_at:∀ (cs:List D) (off:Nat) (new:List D),off + new.length≤cs.length→(putD cs off new).length=cs.length∧∀ k,(putD cs off new)[k]?=if off≤k∧k < off + new.length then new[k - off]? else cs[k]?
 | cs,off,[],_=>by
  have:putD cs off []=cs:=by cases cs <;> cases off <;> rfl
  rw [this]
  exact ⟨rfl,fun k=>by rw [if_neg (by simp only [List.length_nil]; omega)]⟩
 | [],off,x :: new,h=>by simp at h
 | c :: cs,0,x :: new,h=>by
  simp only [putD]
  obtain ⟨h1,h2⟩:=putD_at cs 0 new (by simp at h ⊢; omega)
  refine ⟨by simp [h1],fun k=>?_⟩
  cases k with
  | zero=>simp
  | succ k =>
   simp only [List.getElem?_cons_succ,h2 k,List.length_cons]
   by_cases hk:k < new.length
   ·rw [if_pos ⟨by omega,by omega⟩,if_pos ⟨by omega,by omega⟩]
    simp
   ·rw [if_neg (by omega),if_neg (by omega)]
 | c :: cs,off + 1,x :: new,h=>by
  simp only [putD]
  obtain ⟨h1,h2⟩:=putD_at cs off (x :: new) (by simp at h ⊢; omega)
  refine ⟨by simp [h1],fun k=>?_⟩
  cases k with
  | zero=>rw [if_neg (by omega)]; simp
  | succ k =>
   simp only [List.getElem?_cons_succ,h2 k]
   by_cases hk:off≤k∧k < off + (x :: new).length
   ·rw [if_pos hk,if_pos ⟨by omega,by omega⟩]
    congr 1
    omega
   ·rw [if_neg hk,if_neg (by omega)]
theorem fill_rel {place:Nat→Option (Nat × Nat)}:∀ (ps:List (Nat × Value)) (qs:List (Nat × Nat × D)) (cells:List Value) (cs cs':List D),
  ps.length=qs.length→(∀ (n:Nat) (p:Nat × Value) (q:Nat × Nat × D),ps[n]?=some p→qs[n]?=some q→place p.1=some (q.1,q.2.1)∧Rep ι j q.2.2 p.2) →
  RepL ι j cs cells→(∀ x∈cells,x.oneCell'=true)→fillD cs qs=some cs' →
  ∃ r,Instr.fill place ⟨cells⟩ ps=some ⟨r⟩∧RepL ι j cs' r∧∀ x∈r,x.oneCell'=true
 | [],[],cells,cs,cs',_,_,hr,h1,h=>by
  simp only [fillD] at h
  cases h
  exact ⟨cells,rfl,hr,h1⟩
 | [],_ :: _,_,_,_,hl,_,_,_,_=>by simp at hl
 | _ :: _,[],_,_,_,hl,_,_,_,_=>by simp at hl
 | (i,v) :: ps,(off,n,d) :: qs,cells,cs,cs',hl,hp,hr,h1,h=>by
  simp only [fillD] at h
  cases hb:d.ok && d.cells.length == n && decide (off + n≤cs.length) with
  | false=>rw [hb] at h; cases h
  | true =>
   rw [hb,ifB_true] at h
   simp only [Bool.and_eq_true,beq_iff_eq,decide_eq_true_eq] at hb
   obtain ⟨⟨hok,hn⟩,hle⟩:=hb
   obtain ⟨hpl,hd⟩:=hp 0 (i,v) (off,n,d) rfl rfl
   simp only at hpl hd
   obtain ⟨hcr,hc1⟩:=hd.cellsRel hok
   have hvs:v.cells.size=n:=by rw [hd.cellsSize hok,hn]
   have hlen:=hr.length
   obtain ⟨f1,f2⟩:=Great.foldl_set off v.cells.toList 0 ⟨cells⟩
   have hzip:v.cells.zipIdx.toList=v.cells.toList.zipIdx 0:=by simp
   obtain ⟨q1,q2⟩:=putD_at cs off d.cells (by omega)
   generalize hnew:((v.cells.toList.zipIdx 0).foldl (fun cs (x:Value × Nat)=>cs.setIfInBounds (off + x.2) x.1) (⟨cells⟩:Array Value))=new at f1 f2
   have hnewl:new.toList.length=(putD cs off d.cells).length:=by rw [q1,Array.length_toList,f1]; exact hlen
   have hnewr:RepL ι j (putD cs off d.cells) new.toList:=by
    refine RepL.of hnewl fun k dk hk=>?_
    rw [q2 k] at hk
    have hkk:=f2 k
    rw [← Array.getElem?_toList] at hkk
    rw [hkk]
    simp only [Nat.add_zero,Array.length_toList]
    by_cases hin:off≤k∧k < off + d.cells.length
    ·rw [if_pos hin] at hk
     rw [if_pos ⟨hin.1,by omega,by show k < cells.length; omega⟩]
     exact hcr.at _ _ hk
    ·rw [if_neg hin] at hk
     rw [if_neg (by omega)]
     simpa using hr.at _ _ hk
   have hnew1:∀ x∈new.toList,x.oneCell'=true:=by
    intro x hx
    obtain ⟨k,hk⟩:=List.getElem?_of_mem hx
    rw [Array.getElem?_toList,f2 k] at hk
    split at hk
    ·exact hc1 x (List.mem_of_getElem? hk)
    ·exact h1 x (List.mem_of_getElem? (by simpa using hk))
   obtain ⟨r,k1,k2,k3⟩:=fill_rel (place:=place) ps qs new.toList (putD cs off d.cells) cs' (by simpa using hl) (fun m p q hpm hqm=>hp (m + 1) p q (by simpa using hpm) (by simpa using hqm)) hnewr hnew1 h
   refine ⟨r,?_,k2,k3⟩
   simp only [Instr.fill,hpl]
   have hcond:¬ ((decide (v.cells.size≠n) || decide (off + v.cells.size > (⟨cells⟩:Array Value).size))=true):=by
    have hsz:(⟨cells⟩:Array Value).size=cells.length:=rfl
    rw [hvs,hsz]
    simp
    omega
   rw [if_neg hcond]
   rw [← k1]
   congr 1
   rw [← Array.foldl_toList,hzip]
   exact hnew
theorem zeroB_run {t:TypeId} {zs:List Value} (h:zeroB P t=some zs):∃ v,(zeroValue t).run P w=.ok v w∧v.cells=⟨zs⟩:=by
 obtain ⟨v,h1,h2⟩:=run_zero_of (w:=w) h
 exact ⟨v,h1,by rw [← h2]⟩
theorem partsOf_rel (hL:LSim ι j own lb N e a w) {fs:List Field}:∀ {ps:List (Nat × Operand)} {qs:List (Nat × Nat × AOpd)} (_:okParts P fs ps qs=true) {rs:List (Nat × Nat × D)} (_:partsOf e qs=some rs),
  ps.length=rs.length∧∀ (n:Nat) (p:Nat × Operand) (q:Nat × Nat × D),ps[n]?=some p→rs[n]?=some q→(∃ f,fs[p.1]?=some f∧f.offset=q.1∧sizeB P f.type=some q.2.1)∧Rep ι j q.2.2 (a.eval p.2)
 | [],[],_,rs,h=>by simp only [partsOf] at h; cases h; exact ⟨rfl,fun n p q hp=>by simp at hp⟩
 | [],_ :: _,hk,_,_=>by simp only [okParts,Bool.false_eq_true] at hk
 | _ :: _,[],hk,_,_=>by simp only [okParts,Bool.false_eq_true] at hk
 | (i,x) :: ps,(off,n,y) :: qs,hk,rs,h=>by
  simp only [okParts,Bool.and_eq_true] at hk
  simp only [partsOf] at h
  obtain ⟨c,h1,h⟩:=bindO_some h
  obtain ⟨l,h2,h⟩:=bindO_some h
  cases h
  obtain ⟨⟨hk1,hk2⟩,hk3⟩:=hk
  obtain ⟨r1,r2⟩:=partsOf_rel hL hk3 h2
  refine ⟨by simp [r1],fun m p q hp hq=>?_⟩
  cases m with
  | zero =>
   simp at hp hq
   subst hp hq
   refine ⟨?_,opd_rel hL hk2 h1⟩
   split at hk1
   ·rename_i f hf
    simp only [Bool.and_eq_true,beq_iff_eq] at hk1
    exact ⟨f,hf,hk1.1,hk1.2⟩
   ·cases hk1
  | succ m=>exact r2 m p q (by simpa using hp) (by simpa using hq)
theorem mapM_places {fs:Array Field} (hs:∀ (i:Nat) (f:Field),fs[i]?=some f→(sizeB P f.type).isSome=true) :
  (fs.mapM (m:=Sem) fun f=>do pure (f.offset,← sizeOf f.type)).run P w=.ok (fs.map fun f=>(f.offset,(sizeB P f.type).getD 0)) w:=by
 obtain ⟨l⟩:=fs
 rw [List.mapM_toArray]
 have key:∀ (l:List Field),(∀ f∈l,(sizeB P f.type).isSome=true)→(l.mapM (m:=Sem) fun f=>do pure (f.offset,← sizeOf f.type)).run P w=.ok (l.map fun f=>(f.offset,(sizeB P f.type).getD 0)) w:=by
  intro l
  induction l with
  | nil=>intro _; simp
  | cons f l ih =>
   intro h
   obtain ⟨n,hn⟩:=Option.isSome_iff_exists.1 (h f (by simp))
   have ih:=ih fun g hg=>h g (by simp [hg])
   simp only [List.mapM_cons,Sem.run_bind,run_sizeOf_of hn,Result.andThen_ok,Sem.run_pure,ih,List.map_cons,hn,Option.getD_some]
 have hk:=key l fun f hf=>by
  obtain ⟨i,hi⟩:=List.getElem?_of_mem hf
  exact hs i f (by simpa using hi)
 simp only [Sem.run_map,hk,Result.andThen_ok,List.map_toArray]
theorem val_build (hL:LSim ι j own lb N e a w) {o:Oper} {t:TypeId} {ps:Array (Nat × Operand)} {z:List D} {qs:List (Nat × Nat × AOpd)} {fs:List Field} {zs:List Value} (ho:o.op=.build t ps)
  (hz:zeroB P t=some zs) (hzr:okConsts z zs=true) (hf:fieldsB P t=some fs) (hall:fs.all (fun f=>(sizeB P f.type).isSome)=true) (hk:okParts P fs ps.toList qs=true) {v:Val}
  (h:evalV (.build z qs) e σ=some v):∃ u,(execOp a.eval o).run P w=.ok (.value u) w∧ValRel ι j lb v u:=by
 simp only [evalV] at h
 obtain ⟨rs,h1,h⟩:=bindO_some h
 obtain ⟨cs',h2,h⟩:=bindO_some h
 cases h
 obtain ⟨p1,p2⟩:=partsOf_rel hL hk h1
 obtain ⟨zv,hzrun,hzc⟩:=zeroB_run (P:=P) (w:=w) hz
 obtain ⟨z1,z2⟩:=okConsts_rep ι j z zs hzr
 have hu:=fieldsB_eq hf
 have hpl:=mapM_places (P:=P) (w:=w) (fs:=⟨fs⟩) (fun i f hi=>List.all_eq_true.1 hall f (List.mem_of_getElem? (by simpa using hi)))
 generalize hplaces:((⟨fs⟩:Array Field).map fun f=>(f.offset,(sizeB P f.type).getD 0))=places at hpl
 obtain ⟨r,k1,k2,k3⟩:=fill_rel (ι:=ι) (j:=j) (place:=fun i=>places[i]?) ((ps.toList.map fun p=>(p.1,a.eval p.2))) rs zs z cs' (by simpa using p1) (fun n p q hp hq=>by
  rw [List.getElem?_map] at hp
  cases hpo:ps.toList[n]? with
  | none=>rw [hpo] at hp; cases hp
  | some po =>
   rw [hpo] at hp
   simp at hp
   subst hp
   obtain ⟨⟨f,f1,f2,f3⟩,f4⟩:=p2 n po q hpo hq
   refine ⟨?_,f4⟩
   rw [← hplaces]
   simp only [Array.getElem?_map,List.getElem?_toArray,f1,Option.map_some,f2,f3,Option.getD_some]) z1 z2 h2
 refine ⟨.agg ⟨r⟩,?_,by simp only [ValRel,Rep]; exact ⟨r,rfl,k2,k3⟩⟩
 have hmap:(ps.map fun (i,x)=>(i,a.eval x)).toList=ps.toList.map fun p=>(p.1,a.eval p.2):=by
  rw [Array.toList_map]
 simp only [execOp,ho,Instr.build,Sem.run_bind,hzrun,Result.andThen_ok,hzc,run_underlying hu,hpl]
 rw [hmap,k1]
 rfl
theorem arrTB_eq {t el:TypeId} {n:Nat} (h:arrTB P t=some (n,el)):P.underlying t=some (.array n el):=by
 unfold arrTB at h
 split at h
 ·rename_i hu
  cases h
  exact hu
 ·cases h
theorem partsOfA_rel (hL:LSim ι j own lb N e a w) {sz:Nat}:∀ {ps:List (Nat × Operand)} {qs:List (Nat × Nat × AOpd)} (_:okPartsA sz ps qs=true) {rs:List (Nat × Nat × D)} (_:partsOf e qs=some rs),
  ps.length=rs.length∧∀ (n:Nat) (p:Nat × Operand) (q:Nat × Nat × D),ps[n]?=some p→rs[n]?=some q→(p.1 * sz=q.1∧sz=q.2.1)∧Rep ι j q.2.2 (a.eval p.2)
 | [],[],_,rs,h=>by simp only [partsOf] at h; cases h; exact ⟨rfl,fun n p q hp=>by simp at hp⟩
 | [],_ :: _,hk,_,_=>by simp only [okPartsA,Bool.false_eq_true] at hk
 | _ :: _,[],hk,_,_=>by simp only [okPartsA,Bool.false_eq_true] at hk
 | (i,x) :: ps,(off,n,y) :: qs,hk,rs,h=>by
  simp only [okPartsA,Bool.and_eq_true,beq_iff_eq] at hk
  simp only [partsOf] at h
  obtain ⟨c,h1,h⟩:=bindO_some h
  obtain ⟨l,h2,h⟩:=bindO_some h
  cases h
  obtain ⟨⟨⟨hk1,hk1'⟩,hk2⟩,hk3⟩:=hk
  obtain ⟨r1,r2⟩:=partsOfA_rel hL hk3 h2
  refine ⟨by simp [r1],fun m p q hp hq=>?_⟩
  cases m with
  | zero =>
   simp at hp hq
   subst hp hq
   exact ⟨⟨hk1.symm,hk1'.symm⟩,opd_rel hL hk2 h1⟩
  | succ m=>exact r2 m p q (by simpa using hp) (by simpa using hq)
theorem val_buildA (hL:LSim ι j own lb N e a w) {o:Oper} {t el:TypeId} {ps:Array (Nat × Operand)} {z:List D} {qs:List (Nat × Nat × AOpd)} {m sz:Nat} {zs:List Value} (ho:o.op=.build t ps)
  (hz:zeroB P t=some zs) (hzr:okConsts z zs=true) (ht:P.underlying t=some (.array m el)) (hsz:sizeB P el=some sz) (hk:okPartsA sz ps.toList qs=true) {v:Val}
  (h:evalV (.build z qs) e σ=some v):∃ u,(execOp a.eval o).run P w=.ok (.value u) w∧ValRel ι j lb v u:=by
 simp only [evalV] at h
 obtain ⟨rs,h1,h⟩:=bindO_some h
 obtain ⟨cs',h2,h⟩:=bindO_some h
 cases h
 obtain ⟨p1,p2⟩:=partsOfA_rel hL hk h1
 obtain ⟨zv,hzrun,hzc⟩:=zeroB_run (P:=P) (w:=w) hz
 obtain ⟨z1,z2⟩:=okConsts_rep ι j z zs hzr
 obtain ⟨r,k1,k2,k3⟩:=fill_rel (ι:=ι) (j:=j) (place:=fun i=>some (i * sz,sz)) ((ps.toList.map fun p=>(p.1,a.eval p.2))) rs zs z cs' (by simpa using p1) (fun n p q hp hq=>by
  rw [List.getElem?_map] at hp
  cases hpo:ps.toList[n]? with
  | none=>rw [hpo] at hp; cases hp
  | some po =>
   rw [hpo] at hp
   simp at hp
   subst hp
   obtain ⟨⟨f1,f2⟩,f4⟩:=p2 n po q hpo hq
   exact ⟨by rw [← f2,← f1],f4⟩) z1 z2 h2
 refine ⟨.agg ⟨r⟩,?_,by simp only [ValRel,Rep]; exact ⟨r,rfl,k2,k3⟩⟩
 have hmap:(ps.map fun (i,x)=>(i,a.eval x)).toList=ps.toList.map fun p=>(p.1,a.eval p.2):=by
  rw [Array.toList_map]
 simp only [execOp,ho,Instr.build,Sem.run_bind,hzrun,Result.andThen_ok,hzc,run_underlying ht,run_sizeOf_of hsz]
 rw [hmap,k1]
 rfl
theorem val_indexAddrP (hL:LSim ι j own lb N e a w) {o:Oper} {t el:TypeId} {x i:Operand} {x' i':AOpd} {n sz:Nat} (ho:o.op=.indexAddr t x i) (hk:okOpd x x'=true) (hk1:okOpd i i'=true)
  (ht:P.underlying t=some (.array n el)) (hsz:sizeB P el=some sz) {v:Val}
  (h:evalV (.indexAddrP n sz x' i') e σ=some v):∃ u,(execOp a.eval o).run P w=.ok (.value u) w∧ValRel ι j lb v u:=by
 simp only [evalV] at h
 obtain ⟨p,hp,h⟩:=bindO_some h
 obtain ⟨c',h3,h⟩:=bindO_some h
 obtain ⟨m,h4,h⟩:=bindO_some h
 obtain ⟨h5,h⟩:=ifB_some h
 have hlt:m < n:=by simpa using h5
 obtain ⟨k,hi⟩:=nat_of h4 (opd_rel hL hk1 h3)
 have hr:=addr_rel hL hk hp
 have hb:0≤(m:Int)∧(m:Int) < n:=⟨by omega,by omega⟩
 have hex:∀ b o',a.eval x=.pointer (some ⟨b,o',none⟩)→(execOp a.eval o).run P w=.ok (.value (.pointer (some ⟨b,o' + m * sz,none⟩))) w:=by
  intro b o' hx
  simp only [execOp,ho,hx,hi,Instr.indexAt,asIntOf,Sem.run_bind,Sem.run_pure,run_underlying ht,Result.andThen_ok,Instr.sureAddr]
  rw [if_pos hb]
  simp only [Sem.run_bind,run_sizeOf_of hsz,Result.andThen_ok,Sem.run_pure,Int.toNat_natCast,Addr.add_lit]
 cases p with
 | loc b o' =>
  cases h
  obtain ⟨B,hB,hx⟩:=hr
  exact ⟨_,hex B o' hx,B,hB,rfl⟩
 | ptr id o' =>
  cases h
  obtain ⟨B,hB,hx⟩:=hr
  exact ⟨_,hex B o' hx,by simp only [ValRel,Rep]; exact ⟨B,hB,rfl⟩⟩
 | eptr d=>cases h
theorem bytesOf_rel:∀ {es:List D} {s:List UInt8},bytesOf es=some s→s.length=es.length∧∀ (i:Nat) (b:UInt8),s[i]?=some b→es[i]?=some (.int .u8 b.toNat)
 | [],s,h=>by
  simp only [bytesOf,Option.some.injEq] at h
  subst h
  exact ⟨rfl,fun i b h=>by simp at h⟩
 | d :: es,s,h=>by
  cases d with
  | int k n =>
   cases k <;> simp only [bytesOf,reduceCtorEq] at h
   obtain ⟨h1,h⟩:=ifB_some h
   obtain ⟨s',h2,h⟩:=bindO_some h
   cases h
   obtain ⟨k1,k2⟩:=bytesOf_rel h2
   simp only [Bool.and_eq_true,decide_eq_true_eq] at h1
   refine ⟨by simp [k1],fun i b hi=>?_⟩
   cases i with
   | zero =>
    simp at hi
    subst hi
    have:((UInt8.ofNat n.toNat).toNat:Int)=n:=by
     simp only [UInt8.toNat_ofNat']
     omega
    simp only [List.getElem?_cons_zero,this]
   | succ i=>simpa using k2 i b (by simpa using hi)
  | _=>simp only [bytesOf,reduceCtorEq] at h
theorem val_bytesToStr (hG:GSim ι j own σ w) (hL:LSim ι j own lb N e a w) {o:Oper} {s t el:TypeId} {x:Operand} {y:AOpd} (ho:o.op=.convert s t x) (hk:okOpd x y=true) (hs:P.underlying s=some (.slice el)) (he:P.underlying el=some (.int .u8)) (ht:P.underlying t=some .string) {v:Val}
  (h:evalV (.bytesToStr y) e σ=some v):∃ u,(execOp a.eval o).run P w=.ok (.value u) w∧ValRel ι j lb v u:=by
 simp only [evalV] at h
 obtain ⟨c,h1,h⟩:=bindO_some h
 obtain ⟨es,h2,h⟩:=bindO_some h
 obtain ⟨l,h3,h⟩:=bindO_some h
 cases h
 obtain ⟨b1,b2⟩:=bytesOf_rel h3
 have hr:=opd_rel hL hk h1
 refine ⟨.string ⟨⟨l⟩⟩,?_,by simp only [ValRel,Rep]⟩
 have fin:(convert s t (a.eval x)).run P w=.ok (.string ⟨⟨l⟩⟩) w:=by
  cases hd:c.d <;> rw [hd] at h2 hr <;> simp only [asList,reduceCtorEq,Option.some.injEq] at h2 <;> subst h2 <;> simp only [Rep] at hr
  ·have hl0:l=[]:=List.eq_nil_of_length_eq_zero (by simpa using b1)
   subst hl0
   rw [hr,run_convert_bytes_string w s t el none 0 0 hs he ht]
   rfl
  rotate_left
  ·have hl0:l=[]:=List.eq_nil_of_length_eq_zero (by simpa using b1)
   subst hl0
   obtain ⟨ad,hr⟩:=hr
   rw [hr,run_convert_bytes_string w s t el ad 0 0 hs he ht]
   cases ad with
   | none=>rfl
   | some ad =>
    have:=run_bytesToString (P:=P) w ad 0 0 [] (run_loadCells_list (P:=P) w ad [] (by simp))
    exact this
  ·rename_i sz es
   obtain ⟨ad,cap,hv,_,_,h4⟩:=hr
   rw [hv]
   rcases h4 with rfl | ⟨b,o',rfl,hrow⟩
   ·have hl0:l=[]:=List.eq_nil_of_length_eq_zero (by simpa using b1)
    subst hl0
    rw [run_convert_bytes_string w s t el ad _ cap hs he ht]
    cases ad with
    | none=>rfl
    | some ad =>
     have:=run_bytesToString (P:=P) w ad 0 cap [] (run_loadCells_list (P:=P) w ad [] (by simp))
     exact this
   ·rw [← b1]
    refine run_convert_bytes_back w s t el ⟨b,o',none⟩ cap l hs he ht (fun i hi=>?_)
    have hb:=b2 i l[i] (List.getElem?_eq_getElem hi)
    have hsz:∀ (i:Nat) (b:UInt8),l[i]?=some b→sz.sz=1:=by
     intro i b hb
     obtain ⟨u,_,q2,q3⟩:=hrow.at i _ (b2 i b hb)
     simp only [Rep] at q3
     subst q3
     exact q2.symm
    have hsz1:=hsz i l[i] (List.getElem?_eq_getElem hi)
    rw [hsz1] at hrow
    obtain ⟨u,q1,q2,q3⟩:=hrow.at i _ hb
    simp only [Rep] at q3
    subst q3
    rw [Addr.add_lit]
    refine hG.holds _ _ _ ?_
    have:=q1 0 (.int .u8 l[i].toNat) rfl
    simpa using this
 simp only [execOp,ho,Sem.run_bind,fin,Result.andThen_ok,Sem.run_pure]
end
end Go.Mx
namespace Go.Mx
open Go
theorem getD_put_same {a:Go.Act} {s:Nat} {x:Value} (h:s < a.tmps.size):(a.put (some s) x).tmps.getD s Go.undef=x:=by
 simp [Act.put,Array.getD,h]
theorem getD_put_other {a:Go.Act} {s t:Nat} {x:Value} (h:s≠t):(a.put (some s) x).tmps.getD t Go.undef=a.tmps.getD t Go.undef:=by
 simp only [Act.put,Array.getD_eq_getD_getElem?]
 rw [Array.getElem?_setIfInBounds_ne h]
theorem size_put {a:Go.Act} {d:Option Nat} {x:Value}:(a.put d x).tmps.size=a.tmps.size:=by
 cases d <;> simp [Act.put]
theorem defers_put {a:Go.Act} {d:Option Nat} {x:Value}:(a.put d x).defers=a.defers:=by
 cases d <;> rfl
def Weaker (cs cs0:List Cell):Prop:=cs.length=cs0.length∧∀ (i:Nat) (c:Cell),cs[i]?=some c→∃ c0,cs0[i]?=some c0∧c0.d=c.d∧(c.own=true→c0.own=true)
theorem Weaker.refl (cs:List Cell):Weaker cs cs:=⟨rfl,fun _ c h=>⟨c,h,rfl,id⟩⟩
section
variable [LoopKit] {P:Program} {ι ι':Imm} {j j':Lay} {own own':Own} {lb:Lay} {N:Nat} {e:Env} {a:Go.Act} {w w':World} {σ:Store} {TT:Tag→Prop}
theorem CellRel.weaken {t:Tag} {c c0:Cell} {v:Value} (h:CellRel ι j own w t c0 v) (hd:c0.d=c.d) (ho:c.own=true→c0.own=true):CellRel ι j own w t c v :=
 ⟨hd ▸ h.1,fun x=>hd ▸ h.2 (ho x)⟩
theorem BoxRel.weaken {b:Nat} {mk:Nat→Tag} {cs cs0:List Cell} (h:BoxRel ι j own w b mk cs0) (hw:Weaker cs cs0):BoxRel ι j own w b mk cs:=by
 obtain ⟨vs,T,h1,h2,h3⟩:=h
 refine ⟨vs,T,h1,by rw [hw.1]; exact h2,fun i c hi=>?_⟩
 obtain ⟨c0,k1,k2,k3⟩:=hw.2 i c hi
 obtain ⟨v,q1,q2,q3⟩:=h3 i c0 k1
 exact ⟨v,q1,q2,q3.weaken k2 k3⟩
theorem LSim.sub {e':Env} (hL:LSim ι j own lb N e a w) (h1:∀ s c,aget e'.slots s=some c→∃ c0,aget e.slots s=some c0∧c0.d=c.d∧(c.own=true→c0.own=true))
  (h2:∀ s p,aget e'.locs s=some p→aget e.locs s=some p) (h3:∀ s cs,aget e'.boxes s=some cs→∃ cs0,aget e.boxes s=some cs0∧Weaker cs cs0) (h4:e'.defers=e.defers):LSim ι j own lb N e' a w where
 size:=hL.size
 slots:=fun s c h=>by
  obtain ⟨c0,k1,k2,k3⟩:=h1 s c h
  exact (hL.slots s c0 k1).weaken k2 k3
 locs:=fun s b o h=>hL.locs s b o (h2 s _ h)
 boxes:=fun s cs h=>by
  obtain ⟨cs0,k1,k2⟩:=h3 s cs h
  obtain ⟨B,q1,q2,q3⟩:=hL.boxes s cs0 k1
  exact ⟨B,q1,q2,q3.weaken k2⟩
 defers:=h4 ▸ hL.defers
theorem LSim.evo (h:Evo ι j own w ι' j' own' w' TT) (hL:LSim ι j own lb N e a w) (hs:∀ s c,aget e.slots s=some c→c.own=true→¬ TT (.slot s))
  (hb:∀ s cs,aget e.boxes s=some cs→¬ TT (.box s)∧∀ (i:Nat) (c:Cell),cs[i]?=some c→c.own=true→¬ TT (.cell s i)):LSim ι' j' own' lb N e a w' where
 size:=hL.size
 slots:=fun s c k=>h.cellRel (hs s c k) (hL.slots s c k)
 locs:=hL.locs
 boxes:=fun s cs k=>by
  obtain ⟨B,q1,q2,q3⟩:=hL.boxes s cs k
  obtain ⟨hb1,hb2⟩:=hb s cs k
  have hlt:B < w.heap.size:=by
   obtain ⟨vs,T,h1,_⟩:=q3
   exact (Array.getElem?_eq_some_iff.1 h1).1
  exact ⟨B,q1,(h.block B hlt (fun t x=>by rw [q2] at x; cases x; exact hb1)).2.1.trans q2,h.boxRel q2 hb1 hb2 q3⟩
 defers:=h.defRel _ _ hL.defers
theorem GSim.evo (h:Evo ι j own w ι' j' own' w' TT) (hG:GSim ι j own σ w) (hh:∀ b o v,ι' b o=some v→w'.cell? ⟨b,o,none⟩=some v) (hn:∀ b t,own' b=some t→t.isBox=true→∀ o,ι' b o=none)
  (hl:∀ b t,own' b=some t→b < w'.heap.size) (hj:∀ id b,j' id=some b→id < σ.next)
  (hb:∀ id cs,aget σ.objs id=some cs→¬ TT (.obj id)∧∀ (i:Nat) (c:Cell),cs[i]?=some c→c.own=true→¬ TT (.ocell id i)) (hi:∀ id x,aget σ.oth id=some x→¬ TT (.obj id)):GSim ι' j' own' σ w' where
 holds:=hh
 noimm:=hn
 objs:=fun id cs k=>by
  obtain ⟨B,q1,q2,q3⟩:=hG.objs id cs k
  obtain ⟨hb1,hb2⟩:=hb id cs k
  have hlt:B < w.heap.size:=by
   obtain ⟨vs,T,h1,_⟩:=q3
   exact (Array.getElem?_eq_some_iff.1 h1).1
  exact ⟨B,h.lay _ _ q1,(h.block B hlt (fun t x=>by rw [q2] at x; cases x; exact hb1)).2.1.trans q2,h.boxRel q2 hb1 hb2 q3⟩
 tys:=fun id t cs h1 h2 b hjb=>by
  obtain ⟨B,q1,q2,q3⟩:=hG.objs id cs h2
  have hB:=h.lay _ _ q1
  rw [hjb] at hB
  cases hB
  have hty:=hG.tys id t cs h1 h2 b q1
  have hlt:b < w.heap.size:=by
   obtain ⟨row,hrow,_⟩:=hty
   exact (Array.getElem?_eq_some_iff.1 hrow).1
  exact hty.keep (h.block b hlt (fun t' x=>by rw [q2] at x; cases x; exact (hb id cs h2).1)).1 h.lay
 oth:=fun id x k=>by
  obtain ⟨B,q1,q2,q3⟩:=hG.oth id x k
  obtain ⟨b1,b2,_⟩:=h.block B q3.lt (fun t x=>by rw [q2] at x; cases x; exact hi id _ k)
  exact ⟨B,h.lay _ _ q1,b2.trans q2,q3.keep b1 h.imm h.lay⟩
 jlt:=hj
 ownlt:=hl
theorem LSim.putC (hL:LSim ι j own lb N e a w) {s:Nat} (hs:s < N) {c:Cell} {x:Value} (hc:CellRel ι j own w (.slot s) c x):LSim ι j own lb N (e.put (some s) c) (a.put (some s) x) w where
 size:=by rw [size_put]; exact hL.size
 slots:=fun t c' h=>by
  simp only [Env.put,aget_aset] at h
  by_cases hst:s=t
  ·subst hst
   rw [if_pos rfl] at h
   cases h
   rw [getD_put_same (by rw [hL.size]; exact hs)]
   exact hc
  ·rw [if_neg hst] at h
   rw [getD_put_other hst]
   exact hL.slots t c' h
 locs:=fun t b o h=>by
  simp only [Env.put,aget_adel1] at h
  by_cases hst:s=t
  ·rw [if_pos hst] at h; cases h
  ·rw [if_neg hst] at h
   rw [getD_put_other hst]
   exact hL.locs t b o h
 boxes:=hL.boxes
 defers:=by rw [defers_put]; exact hL.defers
theorem LSim.putL (hL:LSim ι j own lb N e a w) {s:Nat} (hs:s < N) {b off B:Nat} (hB:lb b=some B):LSim ι j own lb N (e.putV (some s) (.l b off)) (a.put (some s) (.pointer (some ⟨B,off,none⟩))) w where
 size:=by rw [size_put]; exact hL.size
 slots:=fun t c' h=>by
  simp only [Env.putV,aget_adel1] at h
  by_cases hst:s=t
  ·rw [if_pos hst] at h; cases h
  ·rw [if_neg hst] at h
   rw [getD_put_other hst]
   exact hL.slots t c' h
 locs:=fun t b' o h=>by
  simp only [Env.putV,aget_aset] at h
  by_cases hst:s=t
  ·subst hst
   rw [if_pos rfl] at h
   cases h
   exact ⟨B,hB,getD_put_same (by rw [hL.size]; exact hs)⟩
  ·rw [if_neg hst] at h
   rw [getD_put_other hst]
   exact hL.locs t b' o h
 boxes:=hL.boxes
 defers:=by rw [defers_put]; exact hL.defers
theorem LSim.addBox (hL:LSim ι j own lb N e a w) {s B:Nat} {cs:List Cell} (h1:lb s=some B) (h2:own B=some (.box s)) (h3:BoxRel ι j own w B (.cell s) cs):LSim ι j own lb N {e with boxes:=aset e.boxes s cs} a w where
 size:=hL.size
 slots:=hL.slots
 locs:=hL.locs
 boxes:=fun t cs' h=>by
  simp only [aget_aset] at h
  by_cases hst:s=t
  ·subst hst
   rw [if_pos rfl] at h
   cases h
   exact ⟨B,h1,h2,h3⟩
  ·rw [if_neg hst] at h
   exact hL.boxes t cs' h
 defers:=hL.defers
theorem LSim.newBox (hL:LSim ι j own lb N e a w) {s B:Nat} (hs:s < N) {cs:List Cell} (h2:own B=some (.box s)) (h3:BoxRel ι j own w B (.cell s) cs) :
  LSim ι j own (fun t=>if t=s then some B else lb t) N (e.box s cs) (a.put (some s) (.pointer (some ⟨B,0,none⟩))) w where
 size:=by rw [size_put]; exact hL.size
 slots:=fun t c' h=>by
  simp only [Env.box,aget_adel1] at h
  by_cases hst:s=t
  ·rw [if_pos hst] at h; cases h
  ·rw [if_neg hst] at h
   rw [getD_put_other hst]
   exact hL.slots t c' h
 locs:=fun t b o h=>by
  simp only [Env.box,aget_aset] at h
  by_cases hst:s=t
  ·subst hst
   rw [if_pos rfl] at h
   cases h
   exact ⟨B,if_pos rfl,getD_put_same (by rw [hL.size]; exact hs)⟩
  ·rw [if_neg hst] at h
   obtain ⟨k1,k2⟩:=aget_lkill _ _ _ _ _ h
   rw [getD_put_other hst]
   obtain ⟨B',q1,q2⟩:=hL.locs t b o k2
   exact ⟨B',by rw [if_neg k1]; exact q1,q2⟩
 boxes:=fun t cs' h=>by
  simp only [Env.box,aget_aset] at h
  by_cases hst:s=t
  ·subst hst
   rw [if_pos rfl] at h
   cases h
   exact ⟨B,if_pos rfl,h2,h3⟩
  ·rw [if_neg hst] at h
   obtain ⟨B',q1,q2,q3⟩:=hL.boxes t cs' h
   exact ⟨B',by rw [if_neg (fun x=>hst x.symm)]; exact q1,q2,q3⟩
 defers:=by rw [defers_put]; exact hL.defers
/-! ### Marks that are dropped -/
theorem drop_sub (x:AOpd):∀ s c,aget (x.drop e).slots s=some c→∃ c0,aget e.slots s=some c0∧c0.d=c.d∧(c.own=true→c0.own=true):=by
 intro s c h
 cases x with
 | mv t =>
  simp only [AOpd.drop] at h
  cases ht:aget e.slots t with
  | none=>rw [ht] at h; exact ⟨c,h,rfl,id⟩
  | some c1 =>
   rw [ht] at h
   simp only [caseO_some,aget_aset] at h
   by_cases hts:t=s
   ·subst hts
    rw [if_pos rfl] at h
    cases h
    exact ⟨c1,ht,rfl,fun h=>by cases h⟩
   ·rw [if_neg hts] at h
    exact ⟨c,h,rfl,id⟩
 | tmp t=>exact ⟨c,h,rfl,id⟩
 | const d=>exact ⟨c,h,rfl,id⟩
theorem drop_rest (x:AOpd):(x.drop e).locs=e.locs∧(x.drop e).boxes=e.boxes∧(x.drop e).defers=e.defers:=by
 cases x with
 | mv t =>
  simp only [AOpd.drop]
  cases aget e.slots t <;> exact ⟨rfl,rfl,rfl⟩
 | _=>exact ⟨rfl,rfl,rfl⟩
theorem LSim.drop (hL:LSim ι j own lb N e a w) (x:AOpd):LSim ι j own lb N (x.drop e) a w:=by
 obtain ⟨h1,h2,h3⟩:=drop_rest (e:=e) x
 exact hL.sub (drop_sub x) (fun s p h=>by rw [h1] at h; exact h) (fun s cs h=>by rw [h2] at h; exact ⟨cs,h,Weaker.refl cs⟩) h3
theorem drop_free {s:Nat} {t:Nat} {c:Cell} (h:aget ((AOpd.mv s).drop e).slots t=some c) (ho:c.own=true) (hs:(aget e.slots s).isSome=true):t≠s:=by
 intro hts
 subst hts
 simp only [AOpd.drop] at h
 obtain ⟨c1,h1⟩:=Option.isSome_iff_exists.1 hs
 rw [h1] at h
 simp only [caseO_some,aget_aset,if_true] at h
 cases h
 cases ho
theorem retag {t t':Tag} (hb:t.isBox=false) (hb':t'.isBox=false) (hG:GSim ι j own σ w) (hL:LSim ι j own lb N e a w)
  (f1:∀ s c,aget e.slots s=some c→c.own=true→Tag.slot s≠t) (f2:∀ s cs,aget e.boxes s=some cs→∀ (i:Nat) (c:Cell),cs[i]?=some c→c.own=true→Tag.cell s i≠t)
  (f3:∀ id cs,aget σ.objs id=some cs→∀ (i:Nat) (c:Cell),cs[i]?=some c→c.own=true→Tag.ocell id i≠t)
  {d:D} {x:Value} (ho:Owned ι own w t d x):∃ own',GSim ι j own' σ w∧LSim ι j own' lb N e a w∧Owned ι own' w t' d x∧Evo ι j own w ι j own' w (fun u=>u=t):=by
 classical
 let own':Own:=fun b=>if own b=some t then some t' else own b
 have hE:Evo ι j own w ι j own' w (fun u=>u=t) :=
  ⟨rfl,rfl,rfl,Nat.le_refl _,fun _ _ _ h=>h,fun _ _ h=>h,fun b _ ht=>⟨rfl,if_neg (fun h=>ht t h rfl),fun _=>rfl⟩⟩
 have hown:∀ b u,own' b=some u→u.isBox=true→own b=some u:=by
  intro b u h hu
  by_cases hbt:own b=some t
  ·simp only [own',if_pos hbt,Option.some.injEq] at h
   subst h
   rw [hb'] at hu
   cases hu
  ·simpa only [own',if_neg hbt] using h
 refine ⟨own',hG.evo hE hG.holds (fun b u h hu=>hG.noimm b u (hown b u h hu) hu) (fun b u h=>?_) hG.jlt (fun id cs h=>⟨fun k=>by (subst k; cases hb),f3 id cs h⟩) (fun id x _ k=>by (subst k; cases hb)),
  hL.evo hE (fun s c h k=>f1 s c h k) (fun s cs h=>⟨fun k=>by (subst k; cases hb),f2 s cs h⟩),?_,hE⟩
 ·by_cases hbt:own b=some t
  ·exact hG.ownlt b t hbt
  ·exact hG.ownlt b u (by simpa only [own',if_neg hbt] using h)
 ·unfold Owned at ho ⊢
  cases hp:prin d x with
  | none=>trivial
  | some p =>
   rw [hp] at ho
   rcases ho with ho | ⟨b,g0,cap,cur,T,h1,h2,h3,h4,h5⟩
   ·exact .inl ho
   ·exact .inr ⟨b,g0,cap,cur,T,h1,if_pos h2,h3,h4,h5⟩
end
end Go.Mx

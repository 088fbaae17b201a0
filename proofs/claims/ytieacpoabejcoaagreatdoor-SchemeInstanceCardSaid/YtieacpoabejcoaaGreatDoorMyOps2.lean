/-
 What the operations of the small machine do,the model's operations do: aggregates,lists,texts.
-/
import Derived.Test.YtieacpoabejcoaaGreatDoorMyOps
import Derived.Great.FillDense
import Derived.Lib.Strings
set_option linter.unusedSimpArgs false
set_option linter.unusedVariables false
set_option linter.unusedSectionVars false
namespace Go.Mx
open Go
section
variable [LoopKit] {P:Program} {ι:Imm} {j:Lay} {own:Own} {lb:Lay} {N:Nat} {e:Env} {a:Go.Act} {w:World} {σ:Store}
theorem int_of {d:D} {k:IntKind} {n:Int} (h:d.int?=some (k,n)) {v:Value} (hr:Rep ι j d v):v=.int k n:=by
 cases d <;> simp only [D.int?,reduceCtorEq,Option.some.injEq,Prod.mk.injEq] at h
 obtain ⟨rfl,rfl⟩:=h
 simpa only [Rep] using hr
theorem nat_of {d:D} {n:Nat} (h:d.nat?=some n) {v:Value} (hr:Rep ι j d v):∃ k,v=.int k (n:Int):=by
 cases d <;> simp only [D.nat?,reduceCtorEq] at h
 obtain ⟨h1,h2⟩:=ifB_some h
 simp only [decide_eq_true_eq] at h1
 cases h2
 rename_i k m
 refine ⟨k,?_⟩
 simp only [Rep] at hr
 rw [hr]
 congr 1
 omega
theorem str_of {d:D} {s:List UInt8} (h:d.str?=some s) {v:Value} (hr:Rep ι j d v):v=.string ⟨⟨s⟩⟩:=by
 cases d <;> simp only [D.str?,reduceCtorEq,Option.some.injEq] at h
 subst h
 simpa only [Rep] using hr
theorem val_toInt (hL:LSim ι j own lb N e a w) {o:Oper} {s t:TypeId} {x:Operand} {y:AOpd} {k:IntKind} (ho:o.op=.convert s t x) (hk:okOpd x y=true) (hs:(P.underlying s).isSome=true) (ht:intB P t=some k) {v:Val}
  (h:evalV (.toInt k y) e σ=some v):∃ u,(execOp a.eval o).run P w=.ok (.value u) w∧ValRel ι j lb v u:=by
 obtain ⟨ds,hds⟩:=Option.isSome_iff_exists.1 hs
 have ht:P.underlying t=some (.int k):=by
  unfold intB at ht
  split at ht
  ·cases ht; assumption
  ·cases ht
 simp only [evalV] at h
 obtain ⟨c,h1,h⟩:=bindO_some h
 obtain ⟨⟨k',n⟩,h2,h⟩:=bindO_some h
 cases h
 have hx:=int_of h2 (opd_rel hL hk h1)
 refine ⟨.int k (k.wrap n),?_,by simp only [ValRel,Rep]⟩
 simp only [execOp,ho,hx,convert,Sem.run_bind,run_underlying hds,run_underlying ht,Result.andThen_ok,Conv.intToInt,Sem.run_pure]
theorem val_toStr (hL:LSim ι j own lb N e a w) {o:Oper} {s t:TypeId} {x:Operand} {y:AOpd} (ho:o.op=.convert s t x) (hk:okOpd x y=true) (hs:(P.underlying s).isSome=true) (ht:strB P t=true) {v:Val}
  (h:evalV (.toStr y) e σ=some v):∃ u,(execOp a.eval o).run P w=.ok (.value u) w∧ValRel ι j lb v u:=by
 obtain ⟨ds,hds⟩:=Option.isSome_iff_exists.1 hs
 have ht:P.underlying t=some .string:=by
  unfold strB at ht
  split at ht
  ·assumption
  ·cases ht
 simp only [evalV] at h
 obtain ⟨c,h1,h⟩:=bindO_some h
 obtain ⟨s',h2,h⟩:=bindO_some h
 cases h
 have hx:=str_of h2 (opd_rel hL hk h1)
 refine ⟨.string ⟨⟨s'⟩⟩,?_,by simp only [ValRel,Rep]⟩
 simp only [execOp,ho,hx,convert,Sem.run_bind,run_underlying hds,run_underlying ht,Result.andThen_ok,Sem.run_pure]
theorem val_runeStr (hL:LSim ι j own lb N e a w) {o:Oper} {s t:TypeId} {x:Operand} {y:AOpd} {k0:IntKind} (ho:o.op=.convert s t x) (hk:okOpd x y=true) (hs:P.underlying s=some (.int k0)) (ht:P.underlying t=some .string) {v:Val}
  (h:evalV (.runeStr y) e σ=some v):∃ u,(execOp a.eval o).run P w=.ok (.value u) w∧ValRel ι j lb v u:=by
 simp only [evalV] at h
 obtain ⟨c,h1,h⟩:=bindO_some h
 obtain ⟨⟨k',n⟩,h2,h⟩:=bindO_some h
 cases h
 have hx:=int_of h2 (opd_rel hL hk h1)
 refine ⟨.string (Utf8.encode n),?_,by simp only [ValRel,Rep]⟩
 simp only [execOp,ho,hx,convert,Sem.run_bind,run_underlying hs,run_underlying ht,Result.andThen_ok,Conv.intToString,Sem.run_pure]
theorem val_mkIface (hL:LSim ι j own lb N e a w) {o:Oper} {t:TypeId} {x:Operand} {y:AOpd} (ho:o.op=.makeInterface t x) (hk:okOpd x y=true) (ht:ifaceB P t=some false) {v:Val}
  (h:evalV (.mkIface t y) e σ=some v):∃ u,(execOp a.eval o).run P w=.ok (.value u) w∧ValRel ι j lb v u:=by
 simp only [evalV] at h
 obtain ⟨c,h1,h⟩:=bindO_some h
 cases h
 have hr:=opd_rel hL hk h1
 have hc:P.concrete t=true:=by
  unfold ifaceB at ht
  unfold Program.concrete
  cases hd:P.underlying t with
  | none=>rw [hd] at ht; cases ht
  | some d=>rw [hd] at ht; cases d <;> first | rfl | (simp at ht; done)
 refine ⟨.iface t (a.eval x),?_,by simp only [ValRel,Rep]; exact ⟨_,rfl,hr⟩⟩
 simp only [execOp,ho,Sem.run_bind,run_makeInterface w t _ hc,Result.andThen_ok,Sem.run_pure]
theorem val_mkFunc (hL:LSim ι j own lb N e a w) {o:Oper} {f:FuncId} {as bs:Array Operand} {as' bs':List AOpd} (ho:o.op=.makeFunc (.func f) as bs) (hk:okOpds as.toList as'=true) (hk1:okOpds bs.toList bs'=true) {v:Val}
  (h:evalV (.mkFunc (.func f) as' bs') e σ=some v):∃ u,(execOp a.eval o).run P w=.ok (.value u) w∧ValRel ι j lb v u:=by
 simp only [evalV] at h
 obtain ⟨ds,h1,h⟩:=bindO_some h
 obtain ⟨ds',h2,h⟩:=bindO_some h
 cases h
 have r1:=opds_rel hL hk h1
 have r2:=opds_rel hL hk1 h2
 refine ⟨.func (.func f) (as.map a.eval) (bs.map a.eval),?_,?_⟩
 ·simp only [execOp,ho,Instr.makeFunc,Sem.run_bind,Sem.run_pure,Result.andThen_ok]
 ·simp only [ValRel,Rep]
  refine ⟨as.toList.map a.eval,bs.toList.map a.eval,?_,r1,r2⟩
  rw [← Array.toList_map,← Array.toList_map]
theorem val_extract (hL:LSim ι j own lb N e a w) {o:Oper} {x:Operand} {y:AOpd} {i:Nat} (ho:o.op=.extract x i) (hk:okOpd x y=true) {v:Val}
  (h:evalV (.extract y i) e σ=some v):∃ u,(execOp a.eval o).run P w=.ok (.value u) w∧ValRel ι j lb v u:=by
 simp only [evalV] at h
 obtain ⟨c,h1,h⟩:=bindO_some h
 obtain ⟨ds,h2,h⟩:=bindO_some h
 obtain ⟨d,h3,h⟩:=bindO_some h
 cases h
 have hr:=opd_rel hL hk h1
 cases hd:c.d <;> rw [hd] at h2 <;> simp only [D.tup?,reduceCtorEq,Option.some.injEq] at h2
 subst h2
 rw [hd] at hr
 simp only [Rep] at hr
 obtain ⟨vs,hx,hl⟩:=hr
 rw [nth_eq] at h3
 obtain ⟨u,hu,hru⟩:=hl.at i d h3
 refine ⟨u,?_,hru⟩
 simp only [execOp,ho,hx,Instr.extract,List.getElem?_toArray,hu,Sem.run_bind,Sem.run_pure,Result.andThen_ok]
theorem strB_eq {t:TypeId} (h:strB P t=true):P.underlying t=some .string:=by
 unfold strB at h
 split at h
 ·assumption
 ·cases h
theorem val_len (hL:LSim ι j own lb N e a w) {o:Oper} {t:TypeId} {x:Operand} {y:AOpd} (ho:o.op=.call {callee:=.builtin .len,args:=⟨[x]⟩,argTypes:=⟨[t]⟩}) (hk:okOpd x y=true)
  (ht:(elemB P t).isSome=true) {v:Val} (h:evalV (.len y) e σ=some v):∃ u,(execOp a.eval o).run P w=.ok (.value u) w∧ValRel ι j lb v u:=by
 obtain ⟨el,hel⟩:=Option.isSome_iff_exists.1 ht
 have hel:=elemB_eq hel
 simp only [evalV] at h
 obtain ⟨c,h1,h⟩:=bindO_some h
 obtain ⟨n,h2,h⟩:=bindO_some h
 cases h
 have hr:=opd_rel hL hk h1
 have:∃ ad cap,a.eval x=.slice ad n cap:=by
  cases hd:c.d <;> rw [hd] at h2 hr <;> simp only [lenOf,reduceCtorEq,Option.some.injEq] at h2 <;> subst h2 <;> simp only [Rep] at hr
  ·exact ⟨_,_,hr⟩
  ·obtain ⟨ad,cap,hx,_⟩:=hr
   exact ⟨ad,cap,hx⟩
  ·obtain ⟨_,_,ad,_,_,_,hx,_⟩:=hr
   exact ⟨some ad,_,hx⟩
  ·obtain ⟨ad,hx⟩:=hr
   exact ⟨ad,0,hx⟩
 obtain ⟨ad,cap,hx⟩:=this
 refine ⟨.int .i64 n,?_,by simp only [ValRel,Rep]⟩
 simp only [execOp,ho,resolve,invoke,builtin,Sem.run_bind,Sem.run_pure,Result.andThen_ok,List.map_toArray,List.map_cons,List.map_nil,hx,Builtin.len_,List.getElem?_toArray,List.getElem?_cons_zero,run_underlying hel,goInt]
theorem val_lenS (hL:LSim ι j own lb N e a w) {o:Oper} {t:TypeId} {x:Operand} {y:AOpd} (ho:o.op=.call {callee:=.builtin .len,args:=⟨[x]⟩,argTypes:=⟨[t]⟩}) (hk:okOpd x y=true)
  (ht:strB P t=true) {v:Val} (h:evalV (.lenS y) e σ=some v):∃ u,(execOp a.eval o).run P w=.ok (.value u) w∧ValRel ι j lb v u:=by
 have ht:=strB_eq ht
 simp only [evalV] at h
 obtain ⟨c,h1,h⟩:=bindO_some h
 obtain ⟨s,h2,h⟩:=bindO_some h
 cases h
 have hx:=str_of h2 (opd_rel hL hk h1)
 have hsz:(⟨⟨s⟩⟩:ByteArray).size=s.length:=rfl
 refine ⟨.int .i64 s.length,?_,by simp only [ValRel,Rep]⟩
 simp only [execOp,ho,resolve,invoke,builtin,Sem.run_bind,Sem.run_pure,Result.andThen_ok,List.map_toArray,List.map_cons,List.map_nil,hx,Builtin.len_,List.getElem?_toArray,List.getElem?_cons_zero,run_underlying ht,goInt,hsz]
theorem val_index (hL:LSim ι j own lb N e a w) {o:Oper} {t:TypeId} {x i:Operand} {x' i':AOpd} (ho:o.op=.index t x i) (hk:okOpd x x'=true) (hk1:okOpd i i'=true) (ht:strB P t=true) {v:Val}
  (h:evalV (.index x' i') e σ=some v):∃ u,(execOp a.eval o).run P w=.ok (.value u) w∧ValRel ι j lb v u:=by
 have ht:=strB_eq ht
 simp only [evalV] at h
 obtain ⟨c,h1,h⟩:=bindO_some h
 obtain ⟨s,h2,h⟩:=bindO_some h
 obtain ⟨c',h3,h⟩:=bindO_some h
 obtain ⟨n,h4,h⟩:=bindO_some h
 obtain ⟨b,h5,h⟩:=bindO_some h
 cases h
 have hx:=str_of h2 (opd_rel hL hk h1)
 obtain ⟨k,hi⟩:=nat_of h4 (opd_rel hL hk1 h3)
 rw [nth_eq] at h5
 refine ⟨.int .u8 b.toNat,?_,by simp only [ValRel,Rep]⟩
 have hn:0≤(n:Int):=by omega
 have hb:(⟨⟨s⟩⟩:ByteArray)[(n:Int).toNat]?=some b:=by
  have hlt:=(List.getElem?_eq_some_iff.1 h5).1
  rw [Int.toNat_natCast]
  have hs:n < (⟨⟨s⟩⟩:ByteArray).size:=hlt
  have hg:=(List.getElem?_eq_some_iff.1 h5).2
  rw [getElem?_pos (⟨⟨s⟩⟩:ByteArray) n hs]
  exact congrArg some hg
 simp only [execOp,ho,hx,hi,Instr.index,asIntOf,Sem.run_bind,Sem.run_pure,run_underlying ht,Result.andThen_ok,hn,if_true,hb]
theorem sliceBound_run {k:IntKind} {n y:Nat} {c:BoundsCode} (h:n≤y):(Instr.sliceBound (.int k (n:Int)) y c).run P w=.ok n w:=by
 simp only [Instr.sliceBound,asIntOf,Sem.run_bind,Sem.run_pure,Result.andThen_ok,Sem.run_ite]
 rw [if_pos ⟨by omega,by omega⟩]
 simp
theorem sliceBounds_run {isSlice:Bool} {len cap l h:Nat} {lo hi:Option Value} (hlo:lo=none∧l=0∨∃ k,lo=some (.int k (l:Int))) (hhi:hi=none∧h=len∨∃ k,hi=some (.int k (h:Int))) (h1:l≤h) (h2:h≤cap) :
  (Instr.sliceBounds isSlice len cap lo hi none).run P w=.ok (l,h,cap) w:=by
 unfold Instr.sliceBounds
 rcases hhi with ⟨rfl,rfl⟩ | ⟨k,rfl⟩ <;> rcases hlo with ⟨rfl,rfl⟩ | ⟨k',rfl⟩ <;>
  simp only [Sem.run_bind,Sem.run_pure,Result.andThen_ok,sliceBound_run h1,sliceBound_run h2]
theorem opt_lo (hL:LSim ι j own lb N e a w) {x:Option Operand} {y:Option AOpd} (hk:okOpt x y=true) {n:Nat} (h:optLo e y=some n) :
  x.map a.eval=none∧n=0∨∃ k,x.map a.eval=some (.int k (n:Int)):=by
 cases y with
 | none =>
  cases x with
  | none=>cases h; exact .inl ⟨rfl,rfl⟩
  | some x=>cases hk
 | some y =>
  cases x with
  | none=>cases hk
  | some x =>
   simp only [optLo] at h
   obtain ⟨c,h1,h2⟩:=bindO_some h
   obtain ⟨k,hk2⟩:=nat_of h2 (opd_rel hL hk h1)
   exact .inr ⟨k,by simp [hk2]⟩
theorem opt_hi (hL:LSim ι j own lb N e a w) {x:Option Operand} {y:Option AOpd} (hk:okOpt x y=true) {n:Option Nat} (h:optHi e y=some n) (len:Nat) :
  x.map a.eval=none∧n.getD len=len∨∃ k,x.map a.eval=some (.int k ((n.getD len:Nat):Int)):=by
 cases y with
 | none =>
  cases x with
  | none=>cases h; exact .inl ⟨rfl,rfl⟩
  | some x=>cases hk
 | some y =>
  cases x with
  | none=>cases hk
  | some x =>
   simp only [optHi] at h
   obtain ⟨c,h1,h2⟩:=bindO_some h
   obtain ⟨m,h3,h4⟩:=bindO_some h2
   cases h4
   obtain ⟨k,hk2⟩:=nat_of h3 (opd_rel hL hk h1)
   exact .inr ⟨k,by simp [hk2]⟩
theorem RepRow.drop {sz:Nat}:∀ {es:List D} {b o:Nat} (l:Nat),RepRow ι j sz es b o→RepRow ι j sz (es.drop l) b (o + l * sz)
 | es,b,o,0,h=>by simpa using h
 | [],b,o,l + 1,_=>by simp only [List.drop_nil,RepRow]
 | d :: es,b,o,l + 1,h=>by
  simp only [RepRow] at h
  have:=RepRow.drop l h.2
  rw [show o + sz + l * sz=o + (l + 1) * sz by rw [Nat.add_mul]; omega] at this
  simpa using this
theorem RepRow.take {sz:Nat}:∀ {es:List D} {b o:Nat} (l:Nat),RepRow ι j sz es b o→RepRow ι j sz (es.take l) b o
 | es,b,o,0,_=>by simp only [List.take_zero,RepRow]
 | [],b,o,l + 1,_=>by simp only [List.take_nil,RepRow]
 | d :: es,b,o,l + 1,h=>by
  simp only [RepRow] at h
  simp only [List.take_succ_cons,RepRow]
  exact ⟨h.1,RepRow.take l h.2⟩
theorem RepRow.at {sz:Nat}:∀ {es:List D} {b o:Nat},RepRow ι j sz es b o→∀ (i:Nat) (d:D),es[i]?=some d→∃ x,At ι b (o + i * sz) x∧x.cells.size=sz∧Rep ι j d x
 | [],_,_,_,i,d,hi=>by simp at hi
 | d :: es,b,o,h,0,d',hi=>by
  simp only [RepRow] at h
  simp at hi
  subst hi
  simpa using h.1
 | d :: es,b,o,h,i + 1,d',hi=>by
  simp only [RepRow] at h
  have:=RepRow.at h.2 i d' (by simpa using hi)
  rwa [show o + sz + i * sz=o + (i + 1) * sz by rw [Nat.add_mul]; omega] at this
theorem val_slice (hL:LSim ι j own lb N e a w) {o:Oper} {t:TypeId} {x:Operand} {x':AOpd} {lo hi:Option Operand} {lo' hi':Option AOpd} {sz:Nat} (ho:o.op=.slice t x lo hi none) (hk:okOpd x x'=true) (hk1:okOpt lo lo'=true) (hk2:okOpt hi hi'=true)
  {el:TypeId} (ht:P.underlying t=some (.slice el)) (hsz:sizeB P el=some sz) {v:Val}
  (h:evalV (.slice sz x' lo' hi') e σ=some v):∃ u,(execOp a.eval o).run P w=.ok (.value u) w∧ValRel ι j lb v u:=by
 simp only [evalV] at h
 obtain ⟨c,h1,h⟩:=bindO_some h
 obtain ⟨l,h2,h⟩:=bindO_some h
 obtain ⟨m,h3,h⟩:=bindO_some h
 obtain ⟨d,h4,h⟩:=bindO_some h
 cases h
 have hr:=opd_rel hL hk h1
 have hlo:=opt_lo hL hk1 h2
 have hhi:=fun len=>opt_hi hL hk2 h3 len
 revert h4 hr
 generalize c.d=dx
 intro h4 hr
 have hex:(execOp a.eval o).run P w=((Instr.sliceAt t (a.eval x) (lo.map a.eval) (hi.map a.eval) none).run P w).andThen fun v w'=>.ok (.value v) w':=by
  simp only [execOp,ho,Option.map_none,Sem.run_bind,Sem.run_pure]
 cases dx <;> simp only [sliceD,reduceCtorEq] at h4
 case nils =>
  obtain ⟨h5,h4⟩:=ifB_some h4
  simp only [Bool.and_eq_true,decide_eq_true_eq] at h5
  cases h4
  simp only [Rep] at hr
  have hm:m.getD 0=0:=by omega
  have hl0:l=0:=by omega
  have hb:=sliceBounds_run (P:=P) (w:=w) (isSlice:=true) (len:=0) (cap:=0) hlo (hhi 0) (by omega) (by omega)
  rw [hm,hl0] at hb
  refine ⟨.slice none 0 0,?_,by simp only [ValRel,Rep]⟩
  rw [hex,hr]
  simp only [Instr.sliceAt,Instr.slice,Sem.run_bind,run_underlying ht,Result.andThen_ok,hb,run_sizeOf_of hsz,Sem.run_pure,if_true,Nat.sub_zero]
 case empt =>
  obtain ⟨h5,h4⟩:=ifB_some h4
  simp only [Bool.and_eq_true,decide_eq_true_eq] at h5
  cases h4
  simp only [Rep] at hr
  obtain ⟨ad,hr⟩:=hr
  have hm:m.getD 0=0:=by omega
  have hl0:l=0:=by omega
  have hb:=sliceBounds_run (P:=P) (w:=w) (isSlice:=true) (len:=0) (cap:=0) hlo (hhi 0) (by omega) (by omega)
  rw [hm,hl0] at hb
  refine ⟨.slice ad 0 0,?_,by simp only [ValRel,Rep]; exact ⟨ad,rfl⟩⟩
  rw [hex,hr]
  simp only [Instr.sliceAt,Instr.slice,Sem.run_bind,run_underlying ht,Result.andThen_ok,hb,run_sizeOf_of hsz,Sem.run_pure,if_true,Nat.sub_zero]
 case arr k id off len =>
  obtain ⟨h5,h4⟩:=ifB_some h4
  simp only [Bool.and_eq_true,decide_eq_true_eq,beq_iff_eq] at h5
  cases h4
  obtain ⟨⟨h5,h6⟩,h7⟩:=h5
  subst h7
  simp only [Rep] at hr
  obtain ⟨b,c,ad,hj1,hj2,hle,hx,hor⟩:=hr
  have hb:=sliceBounds_run (P:=P) (w:=w) (isSlice:=true) (len:=len) (cap:=c - off) hlo (hhi len) h5 (by omega)
  refine ⟨.slice (some (if c - off=l then ad else ad.add (l * k.sz))) (m.getD len - l) (c - off - l),?_,?_⟩
  ·rw [hex,hx]
   simp only [Instr.sliceAt,Instr.slice,Sem.run_bind,run_underlying ht,Result.andThen_ok,hb,run_sizeOf_of hsz,Sem.run_pure]
   by_cases hq:c - off=l
   ·rw [if_pos hq,if_pos hq]
   ·rw [if_neg hq,if_neg hq]
    rfl
  ·simp only [ValRel,Rep]
   refine ⟨b,c,_,hj1,hj2,by omega,by rw [Nat.sub_sub],?_⟩
   rcases hor with hor | rfl
   ·left; omega
   ·by_cases hq:c - off=l
    ·left; omega
    ·right
     rw [if_neg hq,Addr.add_lit,Nat.add_mul]
 case list sz' es =>
  obtain ⟨h5,h4⟩:=ifB_some h4
  simp only [Bool.and_eq_true,decide_eq_true_eq,beq_iff_eq] at h5
  cases h4
  obtain ⟨⟨h5,h6⟩,h7⟩:=h5
  subst h7
  simp only [Rep] at hr
  obtain ⟨ad,cap,hx,hcap,hmax,hrow⟩:=hr
  have hb:=sliceBounds_run (P:=P) (w:=w) (isSlice:=true) (len:=es.length) (cap:=cap) hlo (hhi es.length) h5 (by omega)
  refine ⟨.slice (if cap=l then ad else ad.map (·.add (l * sz'.sz))) (m.getD es.length - l) (cap - l),?_,?_⟩
  ·rw [hex,hx]
   simp only [Instr.sliceAt,Instr.slice,Sem.run_bind,run_underlying ht,Result.andThen_ok,hb,run_sizeOf_of hsz,Sem.run_pure]
  ·have hlen:((es.drop l).take (m.getD es.length - l)).length=m.getD es.length - l:=by
    simp only [List.length_take,List.length_drop]; omega
   simp only [ValRel,Rep]
   refine ⟨_,cap - l,by rw [hlen],by rw [hlen]; omega,by omega,?_⟩
   by_cases hz:m.getD es.length - l=0
   ·left
    rw [hz]
    simp
   ·right
    rcases hrow with hrow | ⟨b,off,rfl,hrow⟩
    ·subst hrow; simp at h6 hz; omega
    ·rw [if_neg (by omega)]
     refine ⟨b,off + l * sz'.sz,by simp [Addr.add_lit],(hrow.drop l).take _⟩
theorem val_sliceS (hL:LSim ι j own lb N e a w) {o:Oper} {t:TypeId} {x:Operand} {x':AOpd} {lo hi:Option Operand} {lo' hi':Option AOpd} (ho:o.op=.slice t x lo hi none) (hk:okOpd x x'=true) (hk1:okOpt lo lo'=true) (hk2:okOpt hi hi'=true)
  (ht:P.underlying t=some .string) {v:Val} (h:evalV (.sliceS x' lo' hi') e σ=some v):∃ u,(execOp a.eval o).run P w=.ok (.value u) w∧ValRel ι j lb v u:=by
 simp only [evalV] at h
 obtain ⟨c,h1,h⟩:=bindO_some h
 obtain ⟨s,hs,h⟩:=bindO_some h
 obtain ⟨l,h2,h⟩:=bindO_some h
 obtain ⟨m,h3,h⟩:=bindO_some h
 obtain ⟨d,h4,h⟩:=bindO_some h
 cases h
 have hr:=str_of hs (opd_rel hL hk h1)
 have hlo:=opt_lo hL hk1 h2
 have hhi:=opt_hi hL hk2 h3 s.length
 simp only [sliceStr] at h4
 obtain ⟨h5,h4⟩:=ifB_some h4
 simp only [Bool.and_eq_true,decide_eq_true_eq] at h5
 cases h4
 have hb:=sliceBounds_run (P:=P) (w:=w) (isSlice:=false) (len:=s.length) (cap:=s.length) hlo hhi h5.1 h5.2
 refine ⟨.string ⟨⟨(s.drop l).take (m.getD s.length - l)⟩⟩,?_,by simp only [ValRel,Rep]⟩
 have hsz:(⟨⟨s⟩⟩:ByteArray).size=s.length:=rfl
 simp only [execOp,ho,hr,Option.map_none,Instr.sliceAt,Instr.slice,Sem.run_bind,run_underlying ht,Result.andThen_ok,Option.isSome_none,Bool.false_eq_true,if_false,hsz,hb,Sem.run_pure]
 rw [Lib.extract_eq]
end
end Go.Mx

/-
 What the operations of the small machine do,the model's operations do: aggregates,lists,texts.
-/
import Derived.Test.YtieacpoabejcoaaGreatDoorMyOps
import Derived.Great.FillDense
import Derived.Lib.Strings
set_option linter.unusedSimpArgs false
set_option linter.unusedVariables false
set_option linter.unusedSectionVars false
namespace Go.Mx
open Go
section
variable [LoopKit] {P:Program} {ι:Imm} {j:Lay} {own:Own} {lb:Lay} {N:Nat} {e:Env} {a:Go.Act} {w:World} {σ:Store}
theorem zf6b {d:D} {k:IntKind} {n:Int} (h:d.int?=some (k,n)) {v:Value} (hr:Rep ι j d v):v=.int k n:=by
 cases d <;> simp only [D.int?,reduceCtorEq,Option.some.injEq,Prod.mk.injEq] at h
 obtain ⟨rfl,rfl⟩:=h
 simpa only [Rep] using hr
theorem zfy {d:D} {n:Nat} (h:d.nat?=some n) {v:Value} (hr:Rep ι j d v):∃ k,v=.int k (n:Int):=by
 cases d <;> simp only [D.nat?,reduceCtorEq] at h
 obtain ⟨h1,h2⟩:=zae h
 simp only [decide_eq_true_eq] at h1
 cases h2
 rename_i k m
 refine ⟨k,?_⟩
 simp only [Rep] at hr
 rw [hr]
 congr 1
 omega
theorem zlg {d:D} {s:List UInt8} (h:d.str?=some s) {v:Value} (hr:Rep ι j d v):v=.string ⟨⟨s⟩⟩:=by
 cases d <;> simp only [D.str?,reduceCtorEq,Option.some.injEq] at h
 subst h
 simpa only [Rep] using hr
theorem zijb (hL:LSim ι j own lb N e a w) {o:Oper} {s t:TypeId} {x:Operand} {y:AOpd} {k:IntKind} (ho:o.op=.convert s t x) (hk:okOpd x y=true) (hs:(P.underlying s).isSome=true) (ht:intB P t=some k) {v:Val}
  (h:evalV (.toInt k y) e σ=some v):∃ u,(execOp a.eval o).run P w=.ok (.value u) w∧zal ι j lb v u:=by
 obtain ⟨ds,hds⟩:=Option.isSome_iff_exists.1 hs
 have ht:P.underlying t=some (.int k):=by
  unfold intB at ht
  split at ht
  ·cases ht; assumption
  ·cases ht
 simp only [evalV] at h
 obtain ⟨c,h1,h⟩:=zaa h
 obtain ⟨⟨k',n⟩,h2,h⟩:=zaa h
 cases h
 have hx:=zf6b h2 (zah hL hk h1)
 refine ⟨.int k (k.wrap n),?_,by simp only [zal,Rep]⟩
 simp only [execOp,ho,hx,convert,Sem.run_bind,run_underlying hds,run_underlying ht,Result.andThen_ok,Conv.intToInt,Sem.run_pure]
theorem zikb (hL:LSim ι j own lb N e a w) {o:Oper} {s t:TypeId} {x:Operand} {y:AOpd} (ho:o.op=.convert s t x) (hk:okOpd x y=true) (hs:(P.underlying s).isSome=true) (ht:strB P t=true) {v:Val}
  (h:evalV (.toStr y) e σ=some v):∃ u,(execOp a.eval o).run P w=.ok (.value u) w∧zal ι j lb v u:=by
 obtain ⟨ds,hds⟩:=Option.isSome_iff_exists.1 hs
 have ht:P.underlying t=some .string:=by
  unfold strB at ht
  split at ht
  ·assumption
  ·cases ht
 simp only [evalV] at h
 obtain ⟨c,h1,h⟩:=zaa h
 obtain ⟨s',h2,h⟩:=zaa h
 cases h
 have hx:=zlg h2 (zah hL hk h1)
 refine ⟨.string ⟨⟨s'⟩⟩,?_,by simp only [zal,Rep]⟩
 simp only [execOp,ho,hx,convert,Sem.run_bind,run_underlying hds,run_underlying ht,Result.andThen_ok,Sem.run_pure]
theorem za9b (hL:LSim ι j own lb N e a w) {o:Oper} {s t:TypeId} {x:Operand} {y:AOpd} {k0:IntKind} (ho:o.op=.convert s t x) (hk:okOpd x y=true) (hs:P.underlying s=some (.int k0)) (ht:P.underlying t=some .string) {v:Val}
  (h:evalV (.runeStr y) e σ=some v):∃ u,(execOp a.eval o).run P w=.ok (.value u) w∧zal ι j lb v u:=by
 simp only [evalV] at h
 obtain ⟨c,h1,h⟩:=zaa h
 obtain ⟨⟨k',n⟩,h2,h⟩:=zaa h
 cases h
 have hx:=zf6b h2 (zah hL hk h1)
 refine ⟨.string (Utf8.encode n),?_,by simp only [zal,Rep]⟩
 simp only [execOp,ho,hx,convert,Sem.run_bind,run_underlying hs,run_underlying ht,Result.andThen_ok,Conv.intToString,Sem.run_pure]
theorem za8b (hL:LSim ι j own lb N e a w) {o:Oper} {t:TypeId} {x:Operand} {y:AOpd} (ho:o.op=.makeInterface t x) (hk:okOpd x y=true) (ht:zd7 P t=some false) {v:Val}
  (h:evalV (.mkIface t y) e σ=some v):∃ u,(execOp a.eval o).run P w=.ok (.value u) w∧zal ι j lb v u:=by
 simp only [evalV] at h
 obtain ⟨c,h1,h⟩:=zaa h
 cases h
 have hr:=zah hL hk h1
 have hc:P.concrete t=true:=by
  unfold zd7 at ht
  unfold Program.concrete
  cases hd:P.underlying t with
  | none=>rw [hd] at ht; cases ht
  | some d=>rw [hd] at ht; cases d <;> first | rfl | (simp at ht; done)
 refine ⟨.iface t (a.eval x),?_,by simp only [zal,Rep]; exact ⟨_,rfl,hr⟩⟩
 simp only [execOp,ho,Sem.run_bind,run_makeInterface w t _ hc,Result.andThen_ok,Sem.run_pure]
theorem ze6b (hL:LSim ι j own lb N e a w) {o:Oper} {f:FuncId} {as bs:Array Operand} {as' bs':List AOpd} (ho:o.op=.makeFunc (.func f) as bs) (hk:zdn as.toList as'=true) (hk1:zdn bs.toList bs'=true) {v:Val}
  (h:evalV (.mkFunc (.func f) as' bs') e σ=some v):∃ u,(execOp a.eval o).run P w=.ok (.value u) w∧zal ι j lb v u:=by
 simp only [evalV] at h
 obtain ⟨ds,h1,h⟩:=zaa h
 obtain ⟨ds',h2,h⟩:=zaa h
 cases h
 have r1:=zdw hL hk h1
 have r2:=zdw hL hk1 h2
 refine ⟨.func (.func f) (as.map a.eval) (bs.map a.eval),?_,?_⟩
 ·simp only [execOp,ho,Instr.makeFunc,Sem.run_bind,Sem.run_pure,Result.andThen_ok]
 ·simp only [zal,Rep]
  refine ⟨as.toList.map a.eval,bs.toList.map a.eval,?_,r1,r2⟩
  rw [← Array.toList_map,← Array.toList_map]
theorem za7b (hL:LSim ι j own lb N e a w) {o:Oper} {x:Operand} {y:AOpd} {i:Nat} (ho:o.op=.extract x i) (hk:okOpd x y=true) {v:Val}
  (h:evalV (.extract y i) e σ=some v):∃ u,(execOp a.eval o).run P w=.ok (.value u) w∧zal ι j lb v u:=by
 simp only [evalV] at h
 obtain ⟨c,h1,h⟩:=zaa h
 obtain ⟨ds,h2,h⟩:=zaa h
 obtain ⟨d,h3,h⟩:=zaa h
 cases h
 have hr:=zah hL hk h1
 cases hd:c.d <;> rw [hd] at h2 <;> simp only [D.tup?,reduceCtorEq,Option.some.injEq] at h2
 subst h2
 rw [hd] at hr
 simp only [Rep] at hr
 obtain ⟨vs,hx,hl⟩:=hr
 rw [zh0] at h3
 obtain ⟨u,hu,hru⟩:=hl.at i d h3
 refine ⟨u,?_,hru⟩
 simp only [execOp,ho,hx,Instr.extract,List.getElem?_toArray,hu,Sem.run_bind,Sem.run_pure,Result.andThen_ok]
theorem zgn {t:TypeId} (h:strB P t=true):P.underlying t=some .string:=by
 unfold strB at h
 split at h
 ·assumption
 ·cases h
theorem zosb (hL:LSim ι j own lb N e a w) {o:Oper} {t:TypeId} {x:Operand} {y:AOpd} (ho:o.op=.call {callee:=.builtin .len,args:=⟨[x]⟩,argTypes:=⟨[t]⟩}) (hk:okOpd x y=true)
  (ht:(elemB P t).isSome=true) {v:Val} (h:evalV (.len y) e σ=some v):∃ u,(execOp a.eval o).run P w=.ok (.value u) w∧zal ι j lb v u:=by
 obtain ⟨el,hel⟩:=Option.isSome_iff_exists.1 ht
 have hel:=zb0 hel
 simp only [evalV] at h
 obtain ⟨c,h1,h⟩:=zaa h
 obtain ⟨n,h2,h⟩:=zaa h
 cases h
 have hr:=zah hL hk h1
 have:∃ ad cap,a.eval x=.slice ad n cap:=by
  cases hd:c.d <;> rw [hd] at h2 hr <;> simp only [lenOf,reduceCtorEq,Option.some.injEq] at h2 <;> subst h2 <;> simp only [Rep] at hr
  ·exact ⟨_,_,hr⟩
  ·obtain ⟨ad,cap,hx,_⟩:=hr
   exact ⟨ad,cap,hx⟩
  ·obtain ⟨_,_,ad,_,_,_,hx,_⟩:=hr
   exact ⟨some ad,_,hx⟩
  ·obtain ⟨ad,hx⟩:=hr
   exact ⟨ad,0,hx⟩
 obtain ⟨ad,cap,hx⟩:=this
 refine ⟨.int .i64 n,?_,by simp only [zal,Rep]⟩
 simp only [execOp,ho,resolve,invoke,builtin,Sem.run_bind,Sem.run_pure,Result.andThen_ok,List.map_toArray,List.map_cons,List.map_nil,hx,Builtin.len_,List.getElem?_toArray,List.getElem?_cons_zero,run_underlying hel,goInt]
theorem zl1b (hL:LSim ι j own lb N e a w) {o:Oper} {t:TypeId} {x:Operand} {y:AOpd} (ho:o.op=.call {callee:=.builtin .len,args:=⟨[x]⟩,argTypes:=⟨[t]⟩}) (hk:okOpd x y=true)
  (ht:strB P t=true) {v:Val} (h:evalV (.lenS y) e σ=some v):∃ u,(execOp a.eval o).run P w=.ok (.value u) w∧zal ι j lb v u:=by
 have ht:=zgn ht
 simp only [evalV] at h
 obtain ⟨c,h1,h⟩:=zaa h
 obtain ⟨s,h2,h⟩:=zaa h
 cases h
 have hx:=zlg h2 (zah hL hk h1)
 have hsz:(⟨⟨s⟩⟩:ByteArray).size=s.length:=rfl
 refine ⟨.int .i64 s.length,?_,by simp only [zal,Rep]⟩
 simp only [execOp,ho,resolve,invoke,builtin,Sem.run_bind,Sem.run_pure,Result.andThen_ok,List.map_toArray,List.map_cons,List.map_nil,hx,Builtin.len_,List.getElem?_toArray,List.getElem?_cons_zero,run_underlying ht,goInt,hsz]
theorem zigb (hL:LSim ι j own lb N e a w) {o:Oper} {t:TypeId} {x i:Operand} {x' i':AOpd} (ho:o.op=.index t x i) (hk:okOpd x x'=true) (hk1:okOpd i i'=true) (ht:strB P t=true) {v:Val}
  (h:evalV (.index x' i') e σ=some v):∃ u,(execOp a.eval o).run P w=.ok (.value u) w∧zal ι j lb v u:=by
 have ht:=zgn ht
 simp only [evalV] at h
 obtain ⟨c,h1,h⟩:=zaa h
 obtain ⟨s,h2,h⟩:=zaa h
 obtain ⟨c',h3,h⟩:=zaa h
 obtain ⟨n,h4,h⟩:=zaa h
 obtain ⟨b,h5,h⟩:=zaa h
 cases h
 have hx:=zlg h2 (zah hL hk h1)
 obtain ⟨k,hi⟩:=zfy h4 (zah hL hk1 h3)
 rw [zh0] at h5
 refine ⟨.int .u8 b.toNat,?_,by simp only [zal,Rep]⟩
 have hn:0≤(n:Int):=by omega
 have hb:(⟨⟨s⟩⟩:ByteArray)[(n:Int).toNat]?=some b:=by
  have hlt:=(List.getElem?_eq_some_iff.1 h5).1
  rw [Int.toNat_natCast]
  have hs:n < (⟨⟨s⟩⟩:ByteArray).size:=hlt
  have hg:=(List.getElem?_eq_some_iff.1 h5).2
  rw [getElem?_pos (⟨⟨s⟩⟩:ByteArray) n hs]
  exact congrArg some hg
 simp only [execOp,ho,hx,hi,Instr.index,asIntOf,Sem.run_bind,Sem.run_pure,run_underlying ht,Result.andThen_ok,hn,if_true,hb]
theorem zep {k:IntKind} {n y:Nat} {c:BoundsCode} (h:n≤y):(Instr.sliceBound (.int k (n:Int)) y c).run P w=.ok n w:=by
 simp only [Instr.sliceBound,asIntOf,Sem.run_bind,Sem.run_pure,Result.andThen_ok,Sem.run_ite]
 rw [if_pos ⟨by omega,by omega⟩]
 simp
theorem zdh {isSlice:Bool} {len cap l h:Nat} {lo hi:Option Value} (hlo:lo=none∧l=0∨∃ k,lo=some (.int k (l:Int))) (hhi:hi=none∧h=len∨∃ k,hi=some (.int k (h:Int))) (h1:l≤h) (h2:h≤cap) :
  (Instr.sliceBounds isSlice len cap lo hi none).run P w=.ok (l,h,cap) w:=by
 unfold Instr.sliceBounds
 rcases hhi with ⟨rfl,rfl⟩ | ⟨k,rfl⟩ <;> rcases hlo with ⟨rfl,rfl⟩ | ⟨k',rfl⟩ <;>
  simp only [Sem.run_bind,Sem.run_pure,Result.andThen_ok,zep h1,zep h2]
theorem zrn (hL:LSim ι j own lb N e a w) {x:Option Operand} {y:Option AOpd} (hk:okOpt x y=true) {n:Nat} (h:optLo e y=some n) :
  x.map a.eval=none∧n=0∨∃ k,x.map a.eval=some (.int k (n:Int)):=by
 cases y with
 | none =>
  cases x with
  | none=>cases h; exact .inl ⟨rfl,rfl⟩
  | some x=>cases hk
 | some y =>
  cases x with
  | none=>cases hk
  | some x =>
   simp only [optLo] at h
   obtain ⟨c,h1,h2⟩:=zaa h
   obtain ⟨k,hk2⟩:=zfy h2 (zah hL hk h1)
   exact .inr ⟨k,by simp [hk2]⟩
theorem zheb (hL:LSim ι j own lb N e a w) {x:Option Operand} {y:Option AOpd} (hk:okOpt x y=true) {n:Option Nat} (h:optHi e y=some n) (len:Nat) :
  x.map a.eval=none∧n.getD len=len∨∃ k,x.map a.eval=some (.int k ((n.getD len:Nat):Int)):=by
 cases y with
 | none =>
  cases x with
  | none=>cases h; exact .inl ⟨rfl,rfl⟩
  | some x=>cases hk
 | some y =>
  cases x with
  | none=>cases hk
  | some x =>
   simp only [optHi] at h
   obtain ⟨c,h1,h2⟩:=zaa h
   obtain ⟨m,h3,h4⟩:=zaa h2
   cases h4
   obtain ⟨k,hk2⟩:=zfy h3 (zah hL hk h1)
   exact .inr ⟨k,by simp [hk2]⟩
theorem zas.drop {sz:Nat}:∀ {es:List D} {b o:Nat} (l:Nat),zas ι j sz es b o→zas ι j sz (es.drop l) b (o + l * sz)
 | es,b,o,0,h=>by simpa using h
 | [],b,o,l + 1,_=>by simp only [List.drop_nil,zas]
 | d :: es,b,o,l + 1,h=>by
  simp only [zas] at h
  have:=zas.drop l h.2
  rw [show o + sz + l * sz=o + (l + 1) * sz by rw [Nat.add_mul]; omega] at this
  simpa using this
theorem zas.take {sz:Nat}:∀ {es:List D} {b o:Nat} (l:Nat),zas ι j sz es b o→zas ι j sz (es.take l) b o
 | es,b,o,0,_=>by simp only [List.take_zero,zas]
 | [],b,o,l + 1,_=>by simp only [List.take_nil,zas]
 | d :: es,b,o,l + 1,h=>by
  simp only [zas] at h
  simp only [List.take_succ_cons,zas]
  exact ⟨h.1,zas.take l h.2⟩
theorem zas.at {sz:Nat}:∀ {es:List D} {b o:Nat},zas ι j sz es b o→∀ (i:Nat) (d:D),es[i]?=some d→∃ x,At ι b (o + i * sz) x∧x.cells.size=sz∧Rep ι j d x
 | [],_,_,_,i,d,hi=>by simp at hi
 | d :: es,b,o,h,0,d',hi=>by
  simp only [zas] at h
  simp at hi
  subst hi
  simpa using h.1
 | d :: es,b,o,h,i + 1,d',hi=>by
  simp only [zas] at h
  have:=zas.at h.2 i d' (by simpa using hi)
  rwa [show o + sz + i * sz=o + (i + 1) * sz by rw [Nat.add_mul]; omega] at this
theorem zuk (hL:LSim ι j own lb N e a w) {o:Oper} {t:TypeId} {x:Operand} {x':AOpd} {lo hi:Option Operand} {lo' hi':Option AOpd} {sz:Nat} (ho:o.op=.slice t x lo hi none) (hk:okOpd x x'=true) (hk1:okOpt lo lo'=true) (hk2:okOpt hi hi'=true)
  {el:TypeId} (ht:P.underlying t=some (.slice el)) (hsz:sizeB P el=some sz) {v:Val}
  (h:evalV (.slice sz x' lo' hi') e σ=some v):∃ u,(execOp a.eval o).run P w=.ok (.value u) w∧zal ι j lb v u:=by
 simp only [evalV] at h
 obtain ⟨c,h1,h⟩:=zaa h
 obtain ⟨l,h2,h⟩:=zaa h
 obtain ⟨m,h3,h⟩:=zaa h
 obtain ⟨d,h4,h⟩:=zaa h
 cases h
 have hr:=zah hL hk h1
 have hlo:=zrn hL hk1 h2
 have hhi:=fun len=>zheb hL hk2 h3 len
 revert h4 hr
 generalize c.d=dx
 intro h4 hr
 have hex:(execOp a.eval o).run P w=((Instr.sliceAt t (a.eval x) (lo.map a.eval) (hi.map a.eval) none).run P w).andThen fun v w'=>.ok (.value v) w':=by
  simp only [execOp,ho,Option.map_none,Sem.run_bind,Sem.run_pure]
 cases dx <;> simp only [za2,reduceCtorEq] at h4
 case nils =>
  obtain ⟨h5,h4⟩:=zae h4
  simp only [Bool.and_eq_true,decide_eq_true_eq] at h5
  cases h4
  simp only [Rep] at hr
  have hm:m.getD 0=0:=by omega
  have hl0:l=0:=by omega
  have hb:=zdh (P:=P) (w:=w) (isSlice:=true) (len:=0) (cap:=0) hlo (hhi 0) (by omega) (by omega)
  rw [hm,hl0] at hb
  refine ⟨.slice none 0 0,?_,by simp only [zal,Rep]⟩
  rw [hex,hr]
  simp only [Instr.sliceAt,Instr.slice,Sem.run_bind,run_underlying ht,Result.andThen_ok,hb,za9 hsz,Sem.run_pure,if_true,Nat.sub_zero]
 case empt =>
  obtain ⟨h5,h4⟩:=zae h4
  simp only [Bool.and_eq_true,decide_eq_true_eq] at h5
  cases h4
  simp only [Rep] at hr
  obtain ⟨ad,hr⟩:=hr
  have hm:m.getD 0=0:=by omega
  have hl0:l=0:=by omega
  have hb:=zdh (P:=P) (w:=w) (isSlice:=true) (len:=0) (cap:=0) hlo (hhi 0) (by omega) (by omega)
  rw [hm,hl0] at hb
  refine ⟨.slice ad 0 0,?_,by simp only [zal,Rep]; exact ⟨ad,rfl⟩⟩
  rw [hex,hr]
  simp only [Instr.sliceAt,Instr.slice,Sem.run_bind,run_underlying ht,Result.andThen_ok,hb,za9 hsz,Sem.run_pure,if_true,Nat.sub_zero]
 case arr k id off len =>
  obtain ⟨h5,h4⟩:=zae h4
  simp only [Bool.and_eq_true,decide_eq_true_eq,beq_iff_eq] at h5
  cases h4
  obtain ⟨⟨h5,h6⟩,h7⟩:=h5
  subst h7
  simp only [Rep] at hr
  obtain ⟨b,c,ad,hj1,hj2,hle,hx,hor⟩:=hr
  have hb:=zdh (P:=P) (w:=w) (isSlice:=true) (len:=len) (cap:=c - off) hlo (hhi len) h5 (by omega)
  refine ⟨.slice (some (if c - off=l then ad else ad.add (l * k.sz))) (m.getD len - l) (c - off - l),?_,?_⟩
  ·rw [hex,hx]
   simp only [Instr.sliceAt,Instr.slice,Sem.run_bind,run_underlying ht,Result.andThen_ok,hb,za9 hsz,Sem.run_pure]
   by_cases hq:c - off=l
   ·rw [if_pos hq,if_pos hq]
   ·rw [if_neg hq,if_neg hq]
    rfl
  ·simp only [zal,Rep]
   refine ⟨b,c,_,hj1,hj2,by omega,by rw [Nat.sub_sub],?_⟩
   rcases hor with hor | rfl
   ·left; omega
   ·by_cases hq:c - off=l
    ·left; omega
    ·right
     rw [if_neg hq,Addr.add_lit,Nat.add_mul]
 case list sz' es =>
  obtain ⟨h5,h4⟩:=zae h4
  simp only [Bool.and_eq_true,decide_eq_true_eq,beq_iff_eq] at h5
  cases h4
  obtain ⟨⟨h5,h6⟩,h7⟩:=h5
  subst h7
  simp only [Rep] at hr
  obtain ⟨ad,cap,hx,hcap,hmax,hrow⟩:=hr
  have hb:=zdh (P:=P) (w:=w) (isSlice:=true) (len:=es.length) (cap:=cap) hlo (hhi es.length) h5 (by omega)
  refine ⟨.slice (if cap=l then ad else ad.map (·.add (l * sz'.sz))) (m.getD es.length - l) (cap - l),?_,?_⟩
  ·rw [hex,hx]
   simp only [Instr.sliceAt,Instr.slice,Sem.run_bind,run_underlying ht,Result.andThen_ok,hb,za9 hsz,Sem.run_pure]
  ·have hlen:((es.drop l).take (m.getD es.length - l)).length=m.getD es.length - l:=by
    simp only [List.length_take,List.length_drop]; omega
   simp only [zal,Rep]
   refine ⟨_,cap - l,by rw [hlen],by rw [hlen]; omega,by omega,?_⟩
   by_cases hz:m.getD es.length - l=0
   ·left
    rw [hz]
    simp
   ·right
    rcases hrow with hrow | ⟨b,off,rfl,hrow⟩
    ·subst hrow; simp at h6 hz; omega
    ·rw [if_neg (by omega)]
     refine ⟨b,off + l * sz'.sz,by simp [Addr.add_lit],(hrow.drop l).take _⟩
theorem ze7b (hL:LSim ι j own lb N e a w) {o:Oper} {t:TypeId} {x:Operand} {x':AOpd} {lo hi:Option Operand} {lo' hi':Option AOpd} (ho:o.op=.slice t x lo hi none) (hk:okOpd x x'=true) (hk1:okOpt lo lo'=true) (hk2:okOpt hi hi'=true)
  (ht:P.underlying t=some .string) {v:Val} (h:evalV (.sliceS x' lo' hi') e σ=some v):∃ u,(execOp a.eval o).run P w=.ok (.value u) w∧zal ι j lb v u:=by
 simp only [evalV] at h
 obtain ⟨c,h1,h⟩:=zaa h
 obtain ⟨s,hs,h⟩:=zaa h
 obtain ⟨l,h2,h⟩:=zaa h
 obtain ⟨m,h3,h⟩:=zaa h
 obtain ⟨d,h4,h⟩:=zaa h
 cases h
 have hr:=zlg hs (zah hL hk h1)
 have hlo:=zrn hL hk1 h2
 have hhi:=zheb hL hk2 h3 s.length
 simp only [zx2] at h4
 obtain ⟨h5,h4⟩:=zae h4
 simp only [Bool.and_eq_true,decide_eq_true_eq] at h5
 cases h4
 have hb:=zdh (P:=P) (w:=w) (isSlice:=false) (len:=s.length) (cap:=s.length) hlo hhi h5.1 h5.2
 refine ⟨.string ⟨⟨(s.drop l).take (m.getD s.length - l)⟩⟩,?_,by simp only [zal,Rep]⟩
 have hsz:(⟨⟨s⟩⟩:ByteArray).size=s.length:=rfl
 simp only [execOp,ho,hr,Option.map_none,Instr.sliceAt,Instr.slice,Sem.run_bind,run_underlying ht,Result.andThen_ok,Option.isSome_none,Bool.false_eq_true,if_false,hsz,hb,Sem.run_pure]
 rw [Lib.extract_eq]
end
end Go.Mx
namespace Go.Mx
open Go
section
variable [LoopKit] {P:Program} {ι:Imm} {j:Lay} {own:Own} {lb:Lay} {N:Nat} {e:Env} {a:Go.Act} {w:World} {σ:Store}
theorem zmd {cs:List D} {vs:List Value} (hr:RepL ι j cs vs) (h1:∀ x∈vs,x.oneCell'=true) {t:TypeId} {k:Option Nat} (hk:okK P t k=true) {off:Nat} {d:D} (h:Go.Mx.part k cs off=some d) :
  ∃ v,(Go.part t ⟨vs⟩ off).run P w=.ok v w∧Rep ι j d v∧∀ i x,v.cells[i]?=some x→vs[off + i]?=some x:=by
 cases k with
 | none =>
  simp only [okK,Bool.and_eq_true,beq_iff_eq] at hk
  simp only [Go.Mx.part,zh0] at h
  obtain ⟨v,hv,hd⟩:=hr.at off d h
  have hc1:v.cells=#[v]:=by
   have:=h1 v (List.mem_of_getElem? hv)
   cases v <;> simp [Value.oneCell'] at this <;> rfl
  refine ⟨v,?_,hd,fun i x hx=>?_⟩
  ·simp only [Go.part,Sem.run_bind,zgu hk.1,Result.andThen_ok,Bool.false_eq_true,if_false,List.getElem?_toArray,hv,Sem.run_pure]
  ·rw [hc1] at hx
   cases i with
   | zero=>simp at hx; subst hx; exact hv
   | succ i=>simp at hx
 | some n =>
  simp only [okK,Bool.and_eq_true,beq_iff_eq] at hk
  simp only [Go.Mx.part] at h
  obtain ⟨h2,h⟩:=zae h
  simp only [decide_eq_true_eq] at h2
  cases h
  have hl:=hr.length
  have hex:(⟨vs⟩:Array Value).extract off (off + n)=⟨(vs.drop off).take n⟩:=by
   apply Array.ext'
   simp [List.take_drop]
  refine ⟨.agg ⟨(vs.drop off).take n⟩,?_,?_,fun i x hx=>?_⟩
  ·simp only [Go.part,Sem.run_bind,zgu hk.1,Result.andThen_ok,if_true,za9 hk.2,Sem.run_pure,hex]
  ·simp only [Rep]
   refine ⟨_,rfl,RepL.of (by simp only [List.length_take,List.length_drop]; omega) (fun i d hi=>?_),fun x hx=>h1 x (List.mem_of_mem_drop (List.mem_of_mem_take hx))⟩
   simp only [List.getElem?_take,List.getElem?_drop] at hi ⊢
   split at hi
   ·rename_i hin
    rw [if_pos hin]
    exact hr.at _ _ hi
   ·cases hi
  ·simp only [Value.cells,List.getElem?_toArray,List.getElem?_take,List.getElem?_drop] at hx
   split at hx
   ·exact hx
   ·cases hx
theorem zqu {d:D} {cs:List D} (h:d.agg?=some cs) {v:Value} (hr:Rep ι j d v):∃ vs,v=.agg ⟨vs⟩∧RepL ι j cs vs∧∀ x∈vs,x.oneCell'=true:=by
 cases d <;> simp only [D.agg?,reduceCtorEq,Option.some.injEq] at h
 subst h
 simpa only [Rep] using hr
theorem zve (hL:LSim ι j own lb N e a w) {o:Oper} {t:TypeId} {x:Operand} {y:AOpd} {i off:Nat} {k:Option Nat} {fs:List Field} {f:Field} (ho:o.op=.fieldAddr t x i) (hk:okOpd x y=true)
  (hf:zgg P t=some fs) (hi:fs[i]?=some f) (hoff:f.offset=off) (hkk:okK P f.type k=true) (hs0:sizeB P f.type≠some 0) {v:Val}
  (h:evalV (.fieldAddr off k y) e σ=some v):∃ u,(execOp a.eval o).run P w=.ok (.value u) w∧zal ι j lb v u:=by
 have hu:=zlx hf
 have hi':(⟨fs⟩:Array Field)[i]?=some f:=by simpa using hi
 have hsz:∃ n,sizeB P f.type=some n∧n≠0:=by
  cases k with
  | none =>
   simp only [okK,Bool.and_eq_true,beq_iff_eq] at hkk
   exact ⟨1,hkk.2,by omega⟩
  | some n =>
   simp only [okK,Bool.and_eq_true,beq_iff_eq] at hkk
   exact ⟨n,hkk.2,fun e=>hs0 (e ▸ hkk.2)⟩
 obtain ⟨n,hn,hn0⟩:=hsz
 have hex:∀ b o',a.eval x=.pointer (some ⟨b,o',none⟩)→(execOp a.eval o).run P w=.ok (.value (.pointer (some ⟨b,o' + off,none⟩))) w:=by
  intro b o' hx
  simp only [execOp,ho,hx,Instr.fieldAt,Sem.run_bind,run_underlying hu,Result.andThen_ok,hi',Instr.sureAddr,Sem.run_pure,fieldPlace,za9 hn,if_neg hn0,Addr.add_lit,hoff]
 simp only [evalV] at h
 obtain ⟨p,hp,h⟩:=zaa h
 have hr:=zca hL hk hp
 cases p with
 | loc b o' =>
  cases h
  obtain ⟨B,hB,hx⟩:=hr
  exact ⟨_,hex B o' hx,B,hB,rfl⟩
 | ptr id o' =>
  cases h
  obtain ⟨B,hB,hx⟩:=hr
  exact ⟨_,hex B o' hx,by simp only [zal,Rep]; exact ⟨B,hB,rfl⟩⟩
 | eptr d =>
  obtain ⟨cs,h1,h⟩:=zaa h
  obtain ⟨d',h2,h⟩:=zaa h
  cases h
  obtain ⟨b,o',u,hx,hat,hd⟩:=hr
  obtain ⟨vs,rfl,hl,h1c⟩:=zqu h1 hd
  obtain ⟨u',_,hu',hcells⟩:=zmd (P:=P) (w:=w) hl h1c hkk h2
  refine ⟨_,hex b o' hx,?_⟩
  simp only [zal,Rep]
  refine ⟨b,o' + off,u',rfl,fun i x hx=>?_,hu'⟩
  rw [Nat.add_assoc]
  exact hat (off + i) x (by simpa [Value.cells] using hcells i x hx)
theorem zifb (hL:LSim ι j own lb N e a w) {o:Oper} {t:TypeId} {x:Operand} {y:AOpd} {i off:Nat} {k:Option Nat} {fs:List Field} {f:Field} (ho:o.op=.field t x i) (hk:okOpd x y=true)
  (hf:zgg P t=some fs) (hi:fs[i]?=some f) (hoff:f.offset=off) (hkk:okK P f.type k=true) {v:Val}
  (h:evalV (.field off k y) e σ=some v):∃ u,(execOp a.eval o).run P w=.ok (.value u) w∧zal ι j lb v u:=by
 have hu:=zlx hf
 have hi':(⟨fs⟩:Array Field)[i]?=some f:=by simpa using hi
 simp only [evalV] at h
 obtain ⟨c,h1,h⟩:=zaa h
 obtain ⟨cs,h2,h⟩:=zaa h
 obtain ⟨d,h3,h⟩:=zaa h
 cases h
 obtain ⟨vs,hx,hl,h1c⟩:=zqu h2 (zah hL hk h1)
 obtain ⟨u,hrun,hru,_⟩:=zmd (P:=P) (w:=w) hl h1c hkk h3
 refine ⟨u,?_,hru⟩
 simp only [execOp,ho,hx,Instr.field,Sem.run_bind,run_underlying hu,Result.andThen_ok,hi',asAgg,Sem.run_pure,hoff,hrun]
theorem zvf (hL:LSim ι j own lb N e a w) {o:Oper} {t el:TypeId} {x i:Operand} {x' i':AOpd} {sz:Nat} (ho:o.op=.indexAddr t x i) (hk:okOpd x x'=true) (hk1:okOpd i i'=true)
  (ht:P.underlying t=some (.slice el)) (hsz:sizeB P el=some sz) {v:Val}
  (h:evalV (.indexAddr sz x' i') e σ=some v):∃ u,(execOp a.eval o).run P w=.ok (.value u) w∧zal ι j lb v u:=by
 simp only [evalV] at h
 obtain ⟨c,h1,h⟩:=zaa h
 obtain ⟨c',h3,h⟩:=zaa h
 obtain ⟨n,h4,h⟩:=zaa h
 obtain ⟨d,h6,h⟩:=zaa h
 cases h
 have hr:=zah hL hk h1
 obtain ⟨k,hi⟩:=zfy h4 (zah hL hk1 h3)
 cases hd:c.d <;> rw [hd] at h6 hr <;> simp only [zaw,reduceCtorEq] at h6
 ·rename_i sz' es
  obtain ⟨h5,h8⟩:=zae h6
  obtain ⟨d',h9,h7⟩:=zaa h8
  cases h7
  simp only [beq_iff_eq] at h5
  subst h5
  rw [zh0] at h9
  simp only [Rep] at hr
  obtain ⟨ad,cap,hx,_,_,hrow⟩:=hr
  have hlt:=(List.getElem?_eq_some_iff.1 h9).1
  rcases hrow with hrow | ⟨b,off,rfl,hrow⟩
  ·rw [hrow] at hlt
   simp at hlt
  ·obtain ⟨u,hat,_,hu⟩:=hrow.at n d' h9
   have hb:0≤(n:Int)∧(n:Int) < es.length:=⟨by omega,by omega⟩
   refine ⟨.pointer (some ⟨b,off + n * sz'.sz,none⟩),?_,?_⟩
   ·simp only [execOp,ho,hx,hi,Instr.indexAt,asIntOf,Sem.run_bind,Sem.run_pure,run_underlying ht,Result.andThen_ok]
    rw [if_pos hb]
    simp only [Sem.run_bind,za9 hsz,Result.andThen_ok,Sem.run_pure,Int.toNat_natCast,Addr.add_lit]
   ·simp only [zal,Rep]
    exact ⟨b,off + n * sz'.sz,u,rfl,hat,hu⟩
 ·rename_i k' id off len
  obtain ⟨h5,h6⟩:=zae h6
  cases h6
  simp only [Bool.and_eq_true,beq_iff_eq,decide_eq_true_eq] at h5
  obtain ⟨h5,hlt⟩:=h5
  subst h5
  simp only [Rep] at hr
  obtain ⟨b,cc,ad,q1,q2,q3,hx,hor⟩:=hr
  have hne:off≠cc:=by omega
  obtain rfl:=hor.resolve_left hne
  have hb:0≤(n:Int)∧(n:Int) < len:=⟨by omega,by omega⟩
  refine ⟨.pointer (some ⟨b,(off + n) * k'.sz,none⟩),?_,?_⟩
  ·simp only [execOp,ho,hx,hi,Instr.indexAt,asIntOf,Sem.run_bind,Sem.run_pure,run_underlying ht,Result.andThen_ok]
   rw [if_pos hb]
   simp only [Sem.run_bind,za9 hsz,Result.andThen_ok,Sem.run_pure,Int.toNat_natCast,Addr.add_lit,Nat.add_mul]
  ·simp only [zal,Rep]
   exact ⟨b,q1,rfl⟩
/-! ### Aggregates that are built -/
theorem ztg:∀ (cs:List D) (off:Nat) (new:List D),off + new.length≤cs.length→(putD cs off new).length=cs.length∧∀ k,(putD cs off new)[k]?=if off≤k∧k < off + new.length then new[k - off]? else cs[k]?
 | cs,off,[],_=>by
  have:putD cs off []=cs:=by cases cs <;> cases off <;> rfl
  rw [this]
  exact ⟨rfl,fun k=>by rw [if_neg (by simp only [List.length_nil]; omega)]⟩
 | [],off,x :: new,h=>by simp at h
 | c :: cs,0,x :: new,h=>by
  simp only [putD]
  obtain ⟨h1,h2⟩:=ztg cs 0 new (by simp at h ⊢; omega)
  refine ⟨by simp [h1],fun k=>?_⟩
  cases k with
  | zero=>simp
  | succ k =>
   simp only [List.getElem?_cons_succ,h2 k,List.length_cons]
   by_cases hk:k < new.length
   ·rw [if_pos ⟨by omega,by omega⟩,if_pos ⟨by omega,by omega⟩]
    simp
   ·rw [if_neg (by omega),if_neg (by omega)]
 | c :: cs,off + 1,x :: new,h=>by
  simp only [putD]
  obtain ⟨h1,h2⟩:=ztg cs off (x :: new) (by simp at h ⊢; omega)
  refine ⟨by simp [h1],fun k=>?_⟩
  cases k with
  | zero=>rw [if_neg (by omega)]; simp
  | succ k =>
   simp only [List.getElem?_cons_succ,h2 k]
   by_cases hk:off≤k∧k < off + (x :: new).length
   ·rw [if_pos hk,if_pos ⟨by omega,by omega⟩]
    congr 1
    omega
   ·rw [if_neg hk,if_neg (by omega)]
theorem zpz {place:Nat→Option (Nat × Nat)}:∀ (ps:List (Nat × Value)) (qs:List (Nat × Nat × D)) (cells:List Value) (cs cs':List D),
  ps.length=qs.length→(∀ (n:Nat) (p:Nat × Value) (q:Nat × Nat × D),ps[n]?=some p→qs[n]?=some q→place p.1=some (q.1,q.2.1)∧Rep ι j q.2.2 p.2) →
  RepL ι j cs cells→(∀ x∈cells,x.oneCell'=true)→fillD cs qs=some cs' →
  ∃ r,Instr.fill place ⟨cells⟩ ps=some ⟨r⟩∧RepL ι j cs' r∧∀ x∈r,x.oneCell'=true
 | [],[],cells,cs,cs',_,_,hr,h1,h=>by
  simp only [fillD] at h
  cases h
  exact ⟨cells,rfl,hr,h1⟩
 | [],_ :: _,_,_,_,hl,_,_,_,_=>by simp at hl
 | _ :: _,[],_,_,_,hl,_,_,_,_=>by simp at hl
 | (i,v) :: ps,(off,n,d) :: qs,cells,cs,cs',hl,hp,hr,h1,h=>by
  simp only [fillD] at h
  cases hb:d.ok && d.cells.length == n && decide (off + n≤cs.length) with
  | false=>rw [hb] at h; cases h
  | true =>
   rw [hb,zac] at h
   simp only [Bool.and_eq_true,beq_iff_eq,decide_eq_true_eq] at hb
   obtain ⟨⟨hok,hn⟩,hle⟩:=hb
   obtain ⟨hpl,hd⟩:=hp 0 (i,v) (off,n,d) rfl rfl
   simp only at hpl hd
   obtain ⟨hcr,hc1⟩:=hd.cellsRel hok
   have hvs:v.cells.size=n:=by rw [hd.cellsSize hok,hn]
   have hlen:=hr.length
   obtain ⟨f1,f2⟩:=Great.foldl_set off v.cells.toList 0 ⟨cells⟩
   have hzip:v.cells.zipIdx.toList=v.cells.toList.zipIdx 0:=by simp
   obtain ⟨q1,q2⟩:=ztg cs off d.cells (by omega)
   generalize hnew:((v.cells.toList.zipIdx 0).foldl (fun cs (x:Value × Nat)=>cs.setIfInBounds (off + x.2) x.1) (⟨cells⟩:Array Value))=new at f1 f2
   have hnewl:new.toList.length=(putD cs off d.cells).length:=by rw [q1,Array.length_toList,f1]; exact hlen
   have hnewr:RepL ι j (putD cs off d.cells) new.toList:=by
    refine RepL.of hnewl fun k dk hk=>?_
    rw [q2 k] at hk
    have hkk:=f2 k
    rw [← Array.getElem?_toList] at hkk
    rw [hkk]
    simp only [Nat.add_zero,Array.length_toList]
    by_cases hin:off≤k∧k < off + d.cells.length
    ·rw [if_pos hin] at hk
     rw [if_pos ⟨hin.1,by omega,by show k < cells.length; omega⟩]
     exact hcr.at _ _ hk
    ·rw [if_neg hin] at hk
     rw [if_neg (by omega)]
     simpa using hr.at _ _ hk
   have hnew1:∀ x∈new.toList,x.oneCell'=true:=by
    intro x hx
    obtain ⟨k,hk⟩:=List.getElem?_of_mem hx
    rw [Array.getElem?_toList,f2 k] at hk
    split at hk
    ·exact hc1 x (List.mem_of_getElem? hk)
    ·exact h1 x (List.mem_of_getElem? (by simpa using hk))
   obtain ⟨r,k1,k2,k3⟩:=zpz (place:=place) ps qs new.toList (putD cs off d.cells) cs' (by simpa using hl) (fun m p q hpm hqm=>hp (m + 1) p q (by simpa using hpm) (by simpa using hqm)) hnewr hnew1 h
   refine ⟨r,?_,k2,k3⟩
   simp only [Instr.fill,hpl]
   have hcond:¬ ((decide (v.cells.size≠n) || decide (off + v.cells.size > (⟨cells⟩:Array Value).size))=true):=by
    have hsz:(⟨cells⟩:Array Value).size=cells.length:=rfl
    rw [hvs,hsz]
    simp
    omega
   rw [if_neg hcond]
   rw [← k1]
   congr 1
   rw [← Array.foldl_toList,hzip]
   exact hnew
theorem zh8 {t:TypeId} {zs:List Value} (h:zeroB P t=some zs):∃ v,(zeroValue t).run P w=.ok v w∧v.cells=⟨zs⟩:=by
 obtain ⟨v,h1,h2⟩:=zaab (w:=w) h
 exact ⟨v,h1,by rw [← h2]⟩
theorem zpf (hL:LSim ι j own lb N e a w) {fs:List Field}:∀ {ps:List (Nat × Operand)} {qs:List (Nat × Nat × AOpd)} (_:zg8 P fs ps qs=true) {rs:List (Nat × Nat × D)} (_:zcz e qs=some rs),
  ps.length=rs.length∧∀ (n:Nat) (p:Nat × Operand) (q:Nat × Nat × D),ps[n]?=some p→rs[n]?=some q→(∃ f,fs[p.1]?=some f∧f.offset=q.1∧sizeB P f.type=some q.2.1)∧Rep ι j q.2.2 (a.eval p.2)
 | [],[],_,rs,h=>by simp only [zcz] at h; cases h; exact ⟨rfl,fun n p q hp=>by simp at hp⟩
 | [],_ :: _,hk,_,_=>by simp only [zg8,Bool.false_eq_true] at hk
 | _ :: _,[],hk,_,_=>by simp only [zg8,Bool.false_eq_true] at hk
 | (i,x) :: ps,(off,n,y) :: qs,hk,rs,h=>by
  simp only [zg8,Bool.and_eq_true] at hk
  simp only [zcz] at h
  obtain ⟨c,h1,h⟩:=zaa h
  obtain ⟨l,h2,h⟩:=zaa h
  cases h
  obtain ⟨⟨hk1,hk2⟩,hk3⟩:=hk
  obtain ⟨r1,r2⟩:=zpf hL hk3 h2
  refine ⟨by simp [r1],fun m p q hp hq=>?_⟩
  cases m with
  | zero =>
   simp at hp hq
   subst hp hq
   refine ⟨?_,zah hL hk2 h1⟩
   split at hk1
   ·rename_i f hf
    simp only [Bool.and_eq_true,beq_iff_eq] at hk1
    exact ⟨f,hf,hk1.1,hk1.2⟩
   ·cases hk1
  | succ m=>exact r2 m p q (by simpa using hp) (by simpa using hq)
theorem zzx {fs:Array Field} (hs:∀ (i:Nat) (f:Field),fs[i]?=some f→(sizeB P f.type).isSome=true) :
  (fs.mapM (m:=Sem) fun f=>do pure (f.offset,← sizeOf f.type)).run P w=.ok (fs.map fun f=>(f.offset,(sizeB P f.type).getD 0)) w:=by
 obtain ⟨l⟩:=fs
 rw [List.mapM_toArray]
 have key:∀ (l:List Field),(∀ f∈l,(sizeB P f.type).isSome=true)→(l.mapM (m:=Sem) fun f=>do pure (f.offset,← sizeOf f.type)).run P w=.ok (l.map fun f=>(f.offset,(sizeB P f.type).getD 0)) w:=by
  intro l
  induction l with
  | nil=>intro _; simp
  | cons f l ih =>
   intro h
   obtain ⟨n,hn⟩:=Option.isSome_iff_exists.1 (h f (by simp))
   have ih:=ih fun g hg=>h g (by simp [hg])
   simp only [List.mapM_cons,Sem.run_bind,za9 hn,Result.andThen_ok,Sem.run_pure,ih,List.map_cons,hn,Option.getD_some]
 have hk:=key l fun f hf=>by
  obtain ⟨i,hi⟩:=List.getElem?_of_mem hf
  exact hs i f (by simpa using hi)
 simp only [Sem.run_map,hk,Result.andThen_ok,List.map_toArray]
theorem zieb (hL:LSim ι j own lb N e a w) {o:Oper} {t:TypeId} {ps:Array (Nat × Operand)} {z:List D} {qs:List (Nat × Nat × AOpd)} {fs:List Field} {zs:List Value} (ho:o.op=.build t ps)
  (hz:zeroB P t=some zs) (hzr:zcb z zs=true) (hf:zgg P t=some fs) (hall:fs.all (fun f=>(sizeB P f.type).isSome)=true) (hk:zg8 P fs ps.toList qs=true) {v:Val}
  (h:evalV (.build z qs) e σ=some v):∃ u,(execOp a.eval o).run P w=.ok (.value u) w∧zal ι j lb v u:=by
 simp only [evalV] at h
 obtain ⟨rs,h1,h⟩:=zaa h
 obtain ⟨cs',h2,h⟩:=zaa h
 cases h
 obtain ⟨p1,p2⟩:=zpf hL hk h1
 obtain ⟨zv,hzrun,hzc⟩:=zh8 (P:=P) (w:=w) hz
 obtain ⟨z1,z2⟩:=zct ι j z zs hzr
 have hu:=zlx hf
 have hpl:=zzx (P:=P) (w:=w) (fs:=⟨fs⟩) (fun i f hi=>List.all_eq_true.1 hall f (List.mem_of_getElem? (by simpa using hi)))
 generalize hplaces:((⟨fs⟩:Array Field).map fun f=>(f.offset,(sizeB P f.type).getD 0))=places at hpl
 obtain ⟨r,k1,k2,k3⟩:=zpz (ι:=ι) (j:=j) (place:=fun i=>places[i]?) ((ps.toList.map fun p=>(p.1,a.eval p.2))) rs zs z cs' (by simpa using p1) (fun n p q hp hq=>by
  rw [List.getElem?_map] at hp
  cases hpo:ps.toList[n]? with
  | none=>rw [hpo] at hp; cases hp
  | some po =>
   rw [hpo] at hp
   simp at hp
   subst hp
   obtain ⟨⟨f,f1,f2,f3⟩,f4⟩:=p2 n po q hpo hq
   refine ⟨?_,f4⟩
   rw [← hplaces]
   simp only [Array.getElem?_map,List.getElem?_toArray,f1,Option.map_some,f2,f3,Option.getD_some]) z1 z2 h2
 refine ⟨.agg ⟨r⟩,?_,by simp only [zal,Rep]; exact ⟨r,rfl,k2,k3⟩⟩
 have hmap:(ps.map fun (i,x)=>(i,a.eval x)).toList=ps.toList.map fun p=>(p.1,a.eval p.2):=by
  rw [Array.toList_map]
 simp only [execOp,ho,Instr.build,Sem.run_bind,hzrun,Result.andThen_ok,hzc,run_underlying hu,hpl]
 rw [hmap,k1]
 rfl
theorem zvm {t el:TypeId} {n:Nat} (h:arrTB P t=some (n,el)):P.underlying t=some (.array n el):=by
 unfold arrTB at h
 split at h
 ·rename_i hu
  cases h
  exact hu
 ·cases h
theorem zn7 (hL:LSim ι j own lb N e a w) {sz:Nat}:∀ {ps:List (Nat × Operand)} {qs:List (Nat × Nat × AOpd)} (_:zf9 sz ps qs=true) {rs:List (Nat × Nat × D)} (_:zcz e qs=some rs),
  ps.length=rs.length∧∀ (n:Nat) (p:Nat × Operand) (q:Nat × Nat × D),ps[n]?=some p→rs[n]?=some q→(p.1 * sz=q.1∧sz=q.2.1)∧Rep ι j q.2.2 (a.eval p.2)
 | [],[],_,rs,h=>by simp only [zcz] at h; cases h; exact ⟨rfl,fun n p q hp=>by simp at hp⟩
 | [],_ :: _,hk,_,_=>by simp only [zf9,Bool.false_eq_true] at hk
 | _ :: _,[],hk,_,_=>by simp only [zf9,Bool.false_eq_true] at hk
 | (i,x) :: ps,(off,n,y) :: qs,hk,rs,h=>by
  simp only [zf9,Bool.and_eq_true,beq_iff_eq] at hk
  simp only [zcz] at h
  obtain ⟨c,h1,h⟩:=zaa h
  obtain ⟨l,h2,h⟩:=zaa h
  cases h
  obtain ⟨⟨⟨hk1,hk1'⟩,hk2⟩,hk3⟩:=hk
  obtain ⟨r1,r2⟩:=zn7 hL hk3 h2
  refine ⟨by simp [r1],fun m p q hp hq=>?_⟩
  cases m with
  | zero =>
   simp at hp hq
   subst hp hq
   exact ⟨⟨hk1.symm,hk1'.symm⟩,zah hL hk2 h1⟩
  | succ m=>exact r2 m p q (by simpa using hp) (by simpa using hq)
theorem ze1b (hL:LSim ι j own lb N e a w) {o:Oper} {t el:TypeId} {ps:Array (Nat × Operand)} {z:List D} {qs:List (Nat × Nat × AOpd)} {m sz:Nat} {zs:List Value} (ho:o.op=.build t ps)
  (hz:zeroB P t=some zs) (hzr:zcb z zs=true) (ht:P.underlying t=some (.array m el)) (hsz:sizeB P el=some sz) (hk:zf9 sz ps.toList qs=true) {v:Val}
  (h:evalV (.build z qs) e σ=some v):∃ u,(execOp a.eval o).run P w=.ok (.value u) w∧zal ι j lb v u:=by
 simp only [evalV] at h
 obtain ⟨rs,h1,h⟩:=zaa h
 obtain ⟨cs',h2,h⟩:=zaa h
 cases h
 obtain ⟨p1,p2⟩:=zn7 hL hk h1
 obtain ⟨zv,hzrun,hzc⟩:=zh8 (P:=P) (w:=w) hz
 obtain ⟨z1,z2⟩:=zct ι j z zs hzr
 obtain ⟨r,k1,k2,k3⟩:=zpz (ι:=ι) (j:=j) (place:=fun i=>some (i * sz,sz)) ((ps.toList.map fun p=>(p.1,a.eval p.2))) rs zs z cs' (by simpa using p1) (fun n p q hp hq=>by
  rw [List.getElem?_map] at hp
  cases hpo:ps.toList[n]? with
  | none=>rw [hpo] at hp; cases hp
  | some po =>
   rw [hpo] at hp
   simp at hp
   subst hp
   obtain ⟨⟨f1,f2⟩,f4⟩:=p2 n po q hpo hq
   exact ⟨by rw [← f2,← f1],f4⟩) z1 z2 h2
 refine ⟨.agg ⟨r⟩,?_,by simp only [zal,Rep]; exact ⟨r,rfl,k2,k3⟩⟩
 have hmap:(ps.map fun (i,x)=>(i,a.eval x)).toList=ps.toList.map fun p=>(p.1,a.eval p.2):=by
  rw [Array.toList_map]
 simp only [execOp,ho,Instr.build,Sem.run_bind,hzrun,Result.andThen_ok,hzc,run_underlying ht,za9 hsz]
 rw [hmap,k1]
 rfl
theorem ztn (hL:LSim ι j own lb N e a w) {o:Oper} {t el:TypeId} {x i:Operand} {x' i':AOpd} {n sz:Nat} (ho:o.op=.indexAddr t x i) (hk:okOpd x x'=true) (hk1:okOpd i i'=true)
  (ht:P.underlying t=some (.array n el)) (hsz:sizeB P el=some sz) {v:Val}
  (h:evalV (.indexAddrP n sz x' i') e σ=some v):∃ u,(execOp a.eval o).run P w=.ok (.value u) w∧zal ι j lb v u:=by
 simp only [evalV] at h
 obtain ⟨p,hp,h⟩:=zaa h
 obtain ⟨c',h3,h⟩:=zaa h
 obtain ⟨m,h4,h⟩:=zaa h
 obtain ⟨h5,h⟩:=zae h
 have hlt:m < n:=by simpa using h5
 obtain ⟨k,hi⟩:=zfy h4 (zah hL hk1 h3)
 have hr:=zca hL hk hp
 have hb:0≤(m:Int)∧(m:Int) < n:=⟨by omega,by omega⟩
 have hex:∀ b o',a.eval x=.pointer (some ⟨b,o',none⟩)→(execOp a.eval o).run P w=.ok (.value (.pointer (some ⟨b,o' + m * sz,none⟩))) w:=by
  intro b o' hx
  simp only [execOp,ho,hx,hi,Instr.indexAt,asIntOf,Sem.run_bind,Sem.run_pure,run_underlying ht,Result.andThen_ok,Instr.sureAddr]
  rw [if_pos hb]
  simp only [Sem.run_bind,za9 hsz,Result.andThen_ok,Sem.run_pure,Int.toNat_natCast,Addr.add_lit]
 cases p with
 | loc b o' =>
  cases h
  obtain ⟨B,hB,hx⟩:=hr
  exact ⟨_,hex B o' hx,B,hB,rfl⟩
 | ptr id o' =>
  cases h
  obtain ⟨B,hB,hx⟩:=hr
  exact ⟨_,hex B o' hx,by simp only [zal,Rep]; exact ⟨B,hB,rfl⟩⟩
 | eptr d=>cases h
theorem zkc:∀ {es:List D} {s:List UInt8},zg1 es=some s→s.length=es.length∧∀ (i:Nat) (b:UInt8),s[i]?=some b→es[i]?=some (.int .u8 b.toNat)
 | [],s,h=>by
  simp only [zg1,Option.some.injEq] at h
  subst h
  exact ⟨rfl,fun i b h=>by simp at h⟩
 | d :: es,s,h=>by
  cases d with
  | int k n =>
   cases k <;> simp only [zg1,reduceCtorEq] at h
   obtain ⟨h1,h⟩:=zae h
   obtain ⟨s',h2,h⟩:=zaa h
   cases h
   obtain ⟨k1,k2⟩:=zkc h2
   simp only [Bool.and_eq_true,decide_eq_true_eq] at h1
   refine ⟨by simp [k1],fun i b hi=>?_⟩
   cases i with
   | zero =>
    simp at hi
    subst hi
    have:((UInt8.ofNat n.toNat).toNat:Int)=n:=by
     simp only [UInt8.toNat_ofNat']
     omega
    simp only [List.getElem?_cons_zero,this]
   | succ i=>simpa using k2 i b (by simpa using hi)
  | _=>simp only [zg1,reduceCtorEq] at h
theorem ztm (hG:GSim ι j own σ w) (hL:LSim ι j own lb N e a w) {o:Oper} {s t el:TypeId} {x:Operand} {y:AOpd} (ho:o.op=.convert s t x) (hk:okOpd x y=true) (hs:P.underlying s=some (.slice el)) (he:P.underlying el=some (.int .u8)) (ht:P.underlying t=some .string) {v:Val}
  (h:evalV (.bytesToStr y) e σ=some v):∃ u,(execOp a.eval o).run P w=.ok (.value u) w∧zal ι j lb v u:=by
 simp only [evalV] at h
 obtain ⟨c,h1,h⟩:=zaa h
 obtain ⟨es,h2,h⟩:=zaa h
 obtain ⟨l,h3,h⟩:=zaa h
 cases h
 obtain ⟨b1,b2⟩:=zkc h3
 have hr:=zah hL hk h1
 refine ⟨.string ⟨⟨l⟩⟩,?_,by simp only [zal,Rep]⟩
 have fin:(convert s t (a.eval x)).run P w=.ok (.string ⟨⟨l⟩⟩) w:=by
  cases hd:c.d <;> rw [hd] at h2 hr <;> simp only [asList,reduceCtorEq,Option.some.injEq] at h2 <;> subst h2 <;> simp only [Rep] at hr
  ·have hl0:l=[]:=List.eq_nil_of_length_eq_zero (by simpa using b1)
   subst hl0
   rw [hr,run_convert_bytes_string w s t el none 0 0 hs he ht]
   rfl
  rotate_left
  ·have hl0:l=[]:=List.eq_nil_of_length_eq_zero (by simpa using b1)
   subst hl0
   obtain ⟨ad,hr⟩:=hr
   rw [hr,run_convert_bytes_string w s t el ad 0 0 hs he ht]
   cases ad with
   | none=>rfl
   | some ad =>
    have:=run_bytesToString (P:=P) w ad 0 0 [] (run_loadCells_list (P:=P) w ad [] (by simp))
    exact this
  ·rename_i sz es
   obtain ⟨ad,cap,hv,_,_,h4⟩:=hr
   rw [hv]
   rcases h4 with rfl | ⟨b,o',rfl,hrow⟩
   ·have hl0:l=[]:=List.eq_nil_of_length_eq_zero (by simpa using b1)
    subst hl0
    rw [run_convert_bytes_string w s t el ad _ cap hs he ht]
    cases ad with
    | none=>rfl
    | some ad =>
     have:=run_bytesToString (P:=P) w ad 0 cap [] (run_loadCells_list (P:=P) w ad [] (by simp))
     exact this
   ·rw [← b1]
    refine run_convert_bytes_back w s t el ⟨b,o',none⟩ cap l hs he ht (fun i hi=>?_)
    have hb:=b2 i l[i] (List.getElem?_eq_getElem hi)
    have hsz:∀ (i:Nat) (b:UInt8),l[i]?=some b→sz.sz=1:=by
     intro i b hb
     obtain ⟨u,_,q2,q3⟩:=hrow.at i _ (b2 i b hb)
     simp only [Rep] at q3
     subst q3
     exact q2.symm
    have hsz1:=hsz i l[i] (List.getElem?_eq_getElem hi)
    rw [hsz1] at hrow
    obtain ⟨u,q1,q2,q3⟩:=hrow.at i _ hb
    simp only [Rep] at q3
    subst q3
    rw [Addr.add_lit]
    refine hG.holds _ _ _ ?_
    have:=q1 0 (.int .u8 l[i].toNat) rfl
    simpa using this
 simp only [execOp,ho,Sem.run_bind,fin,Result.andThen_ok,Sem.run_pure]
end
end Go.Mx

/-
 More operations that yield a value: nil slices and maps,look-ups,the lesser and the greater,slices whose room is bounded.
-/
import Derived.Test.YtieacpoabejcoaaGreatDoorMyOps3
import Derived.Laws.Small
import Derived.Laws.StructEq
set_option linter.unusedSimpArgs false
set_option linter.unusedVariables false
set_option linter.unusedSectionVars false
namespace Go.Mx
open Go
section
variable [LoopKit] {P:Program} {ι:Imm} {j:Lay} {own:Own} {lb:Lay} {N:Nat} {e:Env} {a:Go.Act} {w:World} {σ:Store}
theorem ziib (hL:LSim ι j own lb N e a w) {o:Oper} {mx:Bool} {ts:Array TypeId} {x y:Operand} {x' y':AOpd} (ho:o.op=.call {callee:=.builtin (if mx then .max else .min),args:=⟨[x,y]⟩,argTypes:=ts}) (hk:okOpd x x'=true) (hk1:okOpd y y'=true) {v:Val}
  (h:evalV (.mm mx x' y') e σ=some v):∃ u,(execOp a.eval o).run P w=.ok (.value u) w∧zal ι j lb v u:=by
 simp only [evalV] at h
 obtain ⟨c,h1,h⟩:=zaa h
 obtain ⟨d,h2,h⟩:=zaa h
 obtain ⟨r,h3,h⟩:=zaa h
 cases h
 have hx:=zah hL hk h1
 have hy:=zah hL hk1 h2
 cases hc:c.d <;> rw [hc] at h3 <;> simp only [mmD,reduceCtorEq] at h3
 cases hd:d.d <;> rw [hd] at h3 <;> simp only [mmD,reduceCtorEq] at h3
 rename_i k m k' n
 obtain ⟨_,h3⟩:=zae h3
 rw [hc] at hx
 rw [hd] at hy
 simp only [Rep] at hx hy
 simp only [Option.some.injEq] at h3
 subst h3
 cases mx with
 | true =>
  refine ⟨.int k (if n > m then n else m),?_,?_⟩
  ·simp only [if_true] at ho
   simp only [execOp,ho,resolve,invoke,builtin,Sem.run_bind,Sem.run_pure,Result.andThen_ok,List.map_toArray,List.map_cons,List.map_nil,hx,hy,run_max_int2]
  ·simp only [zal,zac,Rep]
   by_cases hlt:m < n
   ·simp [hlt,ifB]
   ·simp [hlt,ifB]
 | false =>
  refine ⟨.int k (if n < m then n else m),?_,?_⟩
  ·simp only [Bool.false_eq_true,if_false] at ho
   simp only [execOp,ho,resolve,invoke,builtin,Sem.run_bind,Sem.run_pure,Result.andThen_ok,List.map_toArray,List.map_cons,List.map_nil,hx,hy,run_min_int2]
  ·simp only [zal,zad,Rep]
   by_cases hlt:n < m
   ·simp [hlt,ifB]
   ·simp [hlt,ifB]
theorem zrx {t el:TypeId} (ht:P.underlying t=some (.slice el)) (b:Option Addr) (n c:Nat):(Op.equal t (.slice b n c) (.slice none 0 0)).run P w=.ok b.isNone w:=by
 show (Op.equalIn (9999 + 1) t (.slice b n c) (.slice none 0 0)).run P w=_
 rw [Op.equalIn]
 simp only [Sem.run_bind,run_underlying ht,Result.andThen_ok]
 cases b <;> rfl
theorem zu9 {t k el:TypeId} (ht:P.underlying t=some (.map k el)) (b:Option Nat):(Op.equal t (.map b) (.map none)).run P w=.ok b.isNone w:=by
 show (Op.equalIn (9999 + 1) t (.map b) (.map none)).run P w=_
 rw [Op.equalIn]
 simp only [Sem.run_bind,run_underlying ht,Result.andThen_ok]
 cases b <;> rfl
theorem zi3' {op:BinOp} {b:Bool} {d:D} (h:eqlB op b=some d) {P:Program} {w:World} {t:TypeId} {x y:Value} (hi:∀ k m,x≠.int k m) (hf:∀ k m,x≠.float k m) (hc:∀ k m n,x≠.complex k m n) (hs:∀ m,x≠.string m) (he:(Op.equal t x y).run P w=.ok b w) :
  ∃ r,d=.bool r∧(binOp op t x y).run P w=.ok (.bool r) w:=by
 cases op <;> simp only [eqlB,reduceCtorEq,Option.some.injEq] at h <;> subst h
 ·refine ⟨b,rfl,?_⟩
  cases x <;> first
   | exact absurd rfl (hi _ _)
   | exact absurd rfl (hf _ _)
   | exact absurd rfl (hc _ _ _)
   | exact absurd rfl (hs _)
   | simp [binOp,he]
 ·refine ⟨!b,rfl,?_⟩
  cases x <;> first
   | exact absurd rfl (hi _ _)
   | exact absurd rfl (hf _ _)
   | exact absurd rfl (hc _ _ _)
   | exact absurd rfl (hs _)
   | simp [binOp,he]
theorem zfw' (op:BinOp) (t:TypeId) (x:Operand) (z v:Value) (hz:z=.slice none 0 0∨z=.map none):(eqGuard op t x (.const z) v z).run P w=.ok () w:=by
 unfold eqGuard
 rcases hz with rfl | rfl <;> cases op <;> simp <;> cases v <;> simp
theorem ze4b (hL:LSim ι j own lb N e a w) {o:Oper} {op:BinOp} {t u:TypeId} {x:Operand} {y:AOpd} (ho:o.op=.binOp op t x (.const (.slice none 0 0)) u) (hk:okOpd x y=true) (ht:(elemB P t).isSome=true) {v:Val}
  (h:evalV (.isNilS op y) e σ=some v):∃ u,(execOp a.eval o).run P w=.ok (.value u) w∧zal ι j lb v u:=by
 obtain ⟨el,hel⟩:=Option.isSome_iff_exists.1 ht
 have hu:=zb0 hel
 simp only [evalV] at h
 obtain ⟨c,h1,h⟩:=zaa h
 obtain ⟨b,h2,h⟩:=zaa h
 obtain ⟨d,h3,h⟩:=zaa h
 cases h
 have hx:=zah hL hk h1
 obtain ⟨ad,n,cc,hv,hb⟩:∃ ad n cc,a.eval x=.slice ad n cc∧ad.isNone=b:=by
  cases hc:c.d <;> rw [hc] at h2 hx
  case nils =>
   simp only [D.isNilS?,Option.some.injEq] at h2
   simp only [Rep] at hx
   exact ⟨_,_,_,hx,h2⟩
  case list k es =>
   cases es with
   | nil=>simp only [D.isNilS?,reduceCtorEq] at h2
   | cons x0 es0 =>
    simp only [D.isNilS?,Option.some.injEq] at h2
    simp only [Rep] at hx
    obtain ⟨ad,cap,hv,_,_,h4⟩:=hx
    rcases h4 with h4 | ⟨b',o',rfl,_⟩
    ·cases h4
    ·exact ⟨_,_,_,hv,h2⟩
  case arr k id off len =>
   simp only [D.isNilS?,Option.some.injEq] at h2
   simp only [Rep] at hx
   obtain ⟨b',c',ad,_,_,_,hv,_⟩:=hx
   exact ⟨_,_,_,hv,h2⟩
  all_goals simp only [D.isNilS?,reduceCtorEq] at h2
 subst hb
 obtain ⟨r,rfl,hr⟩:=zi3' h3 (P:=P) (w:=w) (t:=t) (x:=.slice ad n cc) (y:=.slice none 0 0) (fun _ _ h=>by cases h) (fun _ _ h=>by cases h) (fun _ _ _ h=>by cases h) (fun _ h=>by cases h) (zrx hu ad n cc)
 refine ⟨.bool r,?_,by simp only [zal,Rep]⟩
 have hz:a.eval (.const (.slice none 0 0))=.slice none 0 0:=rfl
 simp only [execOp,ho,Sem.run_bind,hv,hz,zfw' op t x _ _ (.inl rfl),Result.andThen_ok,hr,Sem.run_pure]
theorem zf6 {t k el:TypeId} (h:mapTB P t=some (k,el)):P.underlying t=some (.map k el):=by
 unfold mapTB at h
 split at h
 ·rename_i hm
  cases h
  exact hm
 ·cases h
theorem ze2b (hL:LSim ι j own lb N e a w) {o:Oper} {op:BinOp} {t u:TypeId} {x:Operand} {y:AOpd} (ho:o.op=.binOp op t x (.const (.map none)) u) (hk:okOpd x y=true) (ht:mapB P t=true) {v:Val}
  (h:evalV (.isNilM op y) e σ=some v):∃ u,(execOp a.eval o).run P w=.ok (.value u) w∧zal ι j lb v u:=by
 obtain ⟨⟨kt,el⟩,hel⟩:=Option.isSome_iff_exists.1 ht
 have hu:=zf6 hel
 simp only [evalV] at h
 obtain ⟨c,h1,h⟩:=zaa h
 obtain ⟨b,h2,h⟩:=zaa h
 obtain ⟨d,h3,h⟩:=zaa h
 cases h
 have hx:=zah hL hk h1
 obtain ⟨m,hv,hb⟩:∃ m:Option Nat,a.eval x=.map m∧m.isNone=b:=by
  cases hc:c.d <;> rw [hc] at h2 hx
  case nilmap =>
   simp only [D.isNilM?,Option.some.injEq] at h2
   simp only [Rep] at hx
   exact ⟨_,hx,h2⟩
  case map id =>
   simp only [D.isNilM?,Option.some.injEq] at h2
   simp only [Rep] at hx
   obtain ⟨b',_,hv⟩:=hx
   exact ⟨_,hv,h2⟩
  all_goals simp only [D.isNilM?,reduceCtorEq] at h2
 subst hb
 obtain ⟨r,rfl,hr⟩:=zi3' h3 (P:=P) (w:=w) (t:=t) (x:=.map m) (y:=.map none) (fun _ _ h=>by cases h) (fun _ _ h=>by cases h) (fun _ _ _ h=>by cases h) (fun _ h=>by cases h) (zu9 hu m)
 refine ⟨.bool r,?_,by simp only [zal,Rep]⟩
 have hz:a.eval (.const (.map none))=.map none:=rfl
 simp only [execOp,ho,Sem.run_bind,hv,hz,zfw' op t x _ _ (.inr rfl),Result.andThen_ok,hr,Sem.run_pure]
/-! ### Maps: keys -/
theorem ztu (s s':List UInt8):((⟨⟨s⟩⟩:ByteArray) == ⟨⟨s'⟩⟩)=(s == s'):=by
 show ((⟨s⟩:Array UInt8) == ⟨s'⟩)=(s == s')
 simp
theorem zzl {ks:Bool} {kt:TypeId} {td:TypeDesc} {k:D} {kv:Value} (htd:P.underlying kt=some td) (hkt:keyB P ks kt=true) (hkd:keyD ks k=true) (hk:Rep ι j k kv):∀ {es:List (D × D × Nat)} {l:List MapEntry} {r:Option (D × Nat × Nat)} (i:Nat),zao ι j es l→findM k es=some r →
  match r with
   | none=>Instr.findNow td kv l i=some none
   | some (d,b,n)=>∃ ent,Instr.findNow td kv l i=some (some (i + n,ent.val))∧l[n]?=some ent∧Rep ι j d ent.val∧ent.born=b∧ent.key=kv∧es[n]?=some (k,d,b):=by
 have hnow:∀ {k':D} {kv':Value} {is:Bool},Rep ι j k' kv'→sameD k k'=some is→Instr.sameNow td kv kv'=some is∧(is=true→k'=k∧kv'=kv):=by
  intro k' kv' is h1 hs
  unfold keyB at hkt
  rw [htd] at hkt
  cases k <;> simp only [keyD,Bool.false_eq_true] at hkd <;> cases k' <;> simp only [sameD,reduceCtorEq] at hs <;> simp only [Rep] at hk h1 <;> rw [hk,h1]
  ·have hsk:=(zae hs).1
   have:=zkr hsk
   subst this
   rw [hsk,zac] at hs
   simp only [Option.some.injEq] at hs
   subst hs
   rw [Bool.not_eq_true'] at hkd
   subst hkd
   cases td <;> simp only [Bool.false_eq_true] at hkt
   refine ⟨by simp [Instr.sameNow],fun h=>?_⟩
   simp only [beq_iff_eq] at h
   subst h
   exact ⟨rfl,rfl⟩
  ·simp only [Option.some.injEq] at hs
   subst hs
   subst hkd
   cases td <;> simp only [Bool.not_true,Bool.false_eq_true] at hkt
   rename_i s s'
   refine ⟨by simp only [Instr.sameNow,ztu],fun h=>?_⟩
   ·simp only [beq_iff_eq] at h
    subst h
    exact ⟨rfl,rfl⟩
 intro es
 induction es with
 | nil =>
  intro l r i hE hf
  simp only [zao] at hE
  subst hE
  simp only [findM,Option.some.injEq] at hf
  subst hf
  rfl
 | cons x es ih =>
  intro l r i hE hf
  obtain ⟨k',v',b'⟩:=x
  simp only [zao] at hE
  obtain ⟨e0,l',rfl,h1,h2,h3,h5⟩:=hE
  simp only [findM] at hf
  obtain ⟨is,hs,hf⟩:=zaa hf
  obtain ⟨n1,n2⟩:=hnow h1 hs
  cases is with
  | true =>
   rw [zac] at hf
   simp only [Option.some.injEq] at hf
   subst hf
   obtain ⟨rfl,n3⟩:=n2 rfl
   exact ⟨e0,by simp [Instr.findNow,n1],rfl,h2,h3,n3,rfl⟩
  | false =>
   rw [zad] at hf
   obtain ⟨r0,hf0,hf⟩:=zaa hf
   have:=ih (i + 1) h5 hf0
   simp only [Option.some.injEq] at hf
   subst hf
   cases r0 with
   | none=>simpa [Instr.findNow,n1,za0] using this
   | some p =>
    obtain ⟨d,b,n⟩:=p
    obtain ⟨ent,q1,q2,q3,q4,q5,q6⟩:=this
    refine ⟨ent,?_,by simpa using q2,q3,q4,q5,by simpa using q6⟩
    simp only [Instr.findNow,n1,q1]
    congr 3
    omega
theorem zfh {ks:Bool} {kt:TypeId} {k:D} {kv:Value} (hkt:keyB P ks kt=true) (hkd:keyD ks k=true) (hk:Rep ι j k kv) (b:Bool):(Instr.checkKey b 10000 kt kv).run P w=.ok () w:=by
 show (Instr.checkKey b (9999 + 1) kt kv).run P w=_
 unfold keyB at hkt
 rw [Instr.checkKey]
 split at hkt
 ·rename_i ik h
  simp only [Sem.run_bind,run_underlying h,Result.andThen_ok]
  rfl
 ·rename_i h
  simp only [Sem.run_bind,run_underlying h,Result.andThen_ok]
  rfl
 ·cases hkt
theorem zjeb {ks:Bool} {kt:TypeId} (hkt:keyB P ks kt=true):∃ td,P.underlying kt=some td:=by
 unfold keyB at hkt
 split at hkt
 ·rename_i h; exact ⟨_,h⟩
 ·rename_i h; exact ⟨_,h⟩
 ·cases hkt
theorem zhl {ks:Bool} {kt:TypeId} {k:D} {kv:Value} (hkt:keyB P ks kt=true) (hkd:keyD ks k=true) (hk:Rep ι j k kv) {es:List (D × D × Nat)} {l:List MapEntry} {r:Option (D × Nat × Nat)} (hE:zao ι j es l) (hf:findM k es=some r) :
  match r with
   | none=>(Instr.findKey kt kv l).run P w=.ok none w
   | some (d,b,n)=>∃ ent,(Instr.findKey kt kv l).run P w=.ok (some (n,ent.val)) w∧l[n]?=some ent∧Rep ι j d ent.val∧ent.born=b∧ent.key=kv∧es[n]?=some (k,d,b):=by
 obtain ⟨td,htd⟩:=zjeb hkt
 have:=zzl htd hkt hkd hk 0 hE hf
 cases r with
 | none =>
  simp only at this
  simp only [Instr.findKey,Sem.run_bind,run_underlying htd,Result.andThen_ok,this,Sem.run_pure]
 | some p =>
  obtain ⟨d,b,n⟩:=p
  obtain ⟨ent,q1,q2⟩:=this
  refine ⟨ent,?_,q2⟩
  simp only [Instr.findKey,Sem.run_bind,run_underlying htd,Result.andThen_ok,q1,Sem.run_pure,Nat.zero_add]
theorem zc6 {b clock:Nat} {l:List MapEntry} (h:w.heap[b]?=some (.map ⟨l⟩ clock)):(getObj b).run P w=.ok (.map ⟨l⟩ clock) w:=by
 simp [getObj,Sem.run,h]
theorem zt5 (hG:GSim ι j own σ w) {d:D} {v:Value} {es:List (D × D × Nat)} (hr:Rep ι j d v) (h:mapOf σ.oth d=some es) :
  (v=.map none∧es=[])∨∃ id b c l,d=.map id∧j id=some b∧own b=some (.obj id)∧v=.map (some b)∧aget σ.oth id=some (.map es c)∧w.heap[b]?=some (.map ⟨l⟩ c)∧zao ι j es l:=by
 cases d <;> simp only [mapOf,reduceCtorEq] at h
 case nilmap =>
  simp only [Option.some.injEq] at h
  simp only [Rep] at hr
  exact .inl ⟨hr,h.symm⟩
 case map id =>
  obtain ⟨x,h1,h⟩:=zaa h
  cases x <;> simp only [reduceCtorEq,Option.some.injEq] at h
  subst h
  simp only [Rep] at hr
  obtain ⟨b,hb,hv⟩:=hr
  obtain ⟨b',q1,q2,l,q3,q4⟩:=hG.oth id _ h1
  rw [hb] at q1
  cases q1
  exact .inr ⟨id,b,_,l,rfl,hb,q2,hv,h1,q3,q4⟩
theorem zao.length:∀ {es:List (D × D × Nat)} {l:List MapEntry},zao ι j es l→l.length=es.length
 | [],l,h=>by simp only [zao] at h; subst h; rfl
 | (k,v,b) :: es,l,h=>by
  simp only [zao] at h
  obtain ⟨e0,l',rfl,_,_,_,h5⟩:=h
  simp only [List.length_cons,zao.length h5]
theorem ze5b (hG:GSim ι j own σ w) (hL:LSim ι j own lb N e a w) {o:Oper} {ks ok:Bool} {z:D} {zv:Value} {t kt el:TypeId} {x i:Operand} {x' i':AOpd} (ho:o.op=.lookup t x i ok) (hk:okOpd x x'=true) (hk1:okOpd i i'=true) (ht:mapTB P t=some (kt,el)) (hkt:keyB P ks kt=true)
  (hz:(P.info? el).bind (·.zero)=some zv) (hzc:za8 z zv=true) {v:Val}
  (h:evalV (.lookup ks z ok x' i') e σ=some v):∃ u,(execOp a.eval o).run P w=.ok (.value u) w∧zal ι j lb v u:=by
 simp only [evalV] at h
 obtain ⟨c,h1,h⟩:=zaa h
 obtain ⟨k,h2,h⟩:=zaa h
 obtain ⟨es,h3,h⟩:=zaa h
 obtain ⟨h4,h⟩:=zae h
 obtain ⟨r,h5,h⟩:=zaa h
 cases h
 have hx:=zah hL hk h1
 have hi:=zah hL hk1 h2
 have hu:=zf6 ht
 have hzrep:=zfz ι j z zv hzc
 have hzrun:(zeroValue el).run P w=.ok zv w:=by
  cases hie:P.info? el with
  | none=>rw [hie] at hz; cases hz
  | some ie =>
   rw [hie] at hz
   simp only [Option.bind_some] at hz
   simp [zeroValue,typeInfo,hie,hz]
 have hexec:∀ u,(Instr.lookup t (a.eval x) (a.eval i) ok).run P w=.ok u w→(execOp a.eval o).run P w=.ok (.value u) w:=by
  intro u hru
  simp only [execOp,ho,Sem.run_bind,hru,Result.andThen_ok,Sem.run_pure]
 obtain ⟨l,hE,hrun⟩:∃ l:List MapEntry,zao ι j es l∧∀ r0 u,(Instr.findKey kt (a.eval i) l).run P w=.ok r0 w→(match r0 with
   | some (_,v)=>u=(if ok then .tuple #[v,.bool true] else v)
   | none=>u=(if ok then .tuple #[zv,.bool false] else zv))→(Instr.lookup t (a.eval x) (a.eval i) ok).run P w=.ok u w:=by
  rcases zt5 hG hx h3 with ⟨hv,rfl⟩ | ⟨id,b,cl,l,_,_,_,hv,_,hh,hE⟩
  ·refine ⟨[],rfl,fun r0 u hf hu'=>?_⟩
   have hck:=zfh (w:=w) hkt h4 hi (#[]:Array MapEntry).isEmpty
   rw [hv]
   cases r0 with
   | none =>
    simp only at hu'
    subst hu'
    simp only [Instr.lookup,Sem.run_bind,run_underlying hu,Result.andThen_ok,Sem.run_pure,hck,hf,hzrun]
   | some p =>
    simp only at hu'
    subst hu'
    simp only [Instr.lookup,Sem.run_bind,run_underlying hu,Result.andThen_ok,Sem.run_pure,hck,hf,hzrun]
  ·refine ⟨l,hE,fun r0 u hf hu'=>?_⟩
   have hck:=zfh (w:=w) hkt h4 hi (⟨l⟩:Array MapEntry).isEmpty
   rw [hv]
   cases r0 with
   | none =>
    simp only at hu'
    subst hu'
    simp only [Instr.lookup,Sem.run_bind,run_underlying hu,Result.andThen_ok,zc6 hh,Sem.run_pure,hck,hf,hzrun]
   | some p =>
    simp only at hu'
    subst hu'
    simp only [Instr.lookup,Sem.run_bind,run_underlying hu,Result.andThen_ok,zc6 hh,Sem.run_pure,hck,hf,hzrun]
 have hfk:=zhl (w:=w) hkt h4 hi hE h5
 cases r with
 | none =>
  refine ⟨_,hexec _ (hrun none _ hfk rfl),?_⟩
  cases ok
  ·simpa only [zal,za0,zad,Bool.false_eq_true,if_false] using hzrep
  ·simp only [zal,za0,zac,Rep,RepL,if_true]
   exact ⟨_,rfl,_,_,rfl,hzrep,_,_,rfl,rfl,rfl⟩
 | some p =>
  obtain ⟨d,b,n⟩:=p
  obtain ⟨ent,q1,q2,q3,_⟩:=hfk
  refine ⟨_,hexec _ (hrun _ _ q1 rfl),?_⟩
  cases ok
  ·simpa only [zal,zab,zad,Bool.false_eq_true,if_false] using q3
  ·simp only [zal,zab,zac,Rep,RepL,if_true]
   exact ⟨_,rfl,_,_,rfl,q3,_,_,rfl,rfl,rfl⟩
theorem zl0b (hG:GSim ι j own σ w) (hL:LSim ι j own lb N e a w) {o:Oper} {t:TypeId} {x:Operand} {y:AOpd} (ho:o.op=.call {callee:=.builtin .len,args:=⟨[x]⟩,argTypes:=⟨[t]⟩}) (hk:okOpd x y=true)
  (ht:mapB P t=true) {v:Val} (h:evalV (.lenM y) e σ=some v):∃ u,(execOp a.eval o).run P w=.ok (.value u) w∧zal ι j lb v u:=by
 obtain ⟨⟨kt,el⟩,hel⟩:=Option.isSome_iff_exists.1 ht
 have hu:=zf6 hel
 simp only [evalV] at h
 obtain ⟨c,h1,h⟩:=zaa h
 obtain ⟨es,h2,h⟩:=zaa h
 cases h
 have hx:=zah hL hk h1
 have hexec:∀ u,(Builtin.len_ #[t] o.type #[a.eval x]).run P w=.ok u w→(execOp a.eval o).run P w=.ok (.value u) w:=by
  intro u hru
  simp only [execOp,ho,resolve,invoke,builtin,Sem.run_bind,Sem.run_pure,Result.andThen_ok,List.map_toArray,List.map_cons,List.map_nil,hru]
 refine ⟨.int .i64 (es.length:Nat),hexec _ ?_,by simp only [zal,Rep]⟩
 rcases zt5 hG hx h2 with ⟨hv,rfl⟩ | ⟨id,b,cl,l,_,_,_,hv,_,hh,hE⟩
 ·rw [hv]
  simp [Builtin.len_,run_underlying hu,goInt]
 ·rw [hv]
  have:=hE.length
  simp [Builtin.len_,run_underlying hu,zc6 hh,goInt,this]
/-! ### A slice whose room is bounded -/
theorem zqn {len cap l h:Nat} {lo:Option Value} {k k':IntKind} (hlo:lo=none∧l=0∨∃ k,lo=some (.int k (l:Int))) (h1:l≤h) (h2:h≤cap) :
  (Instr.sliceBounds true len cap lo (some (.int k (h:Int))) (some (.int k' (h:Int)))).run P w=.ok (l,h,h) w:=by
 unfold Instr.sliceBounds
 rcases hlo with ⟨rfl,rfl⟩ | ⟨k'',rfl⟩ <;>
  simp only [Sem.run_bind,Sem.run_pure,Result.andThen_ok,zep h2,zep (Nat.le_refl h),Option.isSome_some,if_true,zep h1]
theorem zebb (hL:LSim ι j own lb N e a w) {o:Oper} {t:TypeId} {x:Operand} {x':AOpd} {lo:Option Operand} {hi mx:Operand} {lo':Option AOpd} {hi' mx':AOpd} {sz:Nat} (ho:o.op=.slice t x lo (some hi) (some mx)) (hk:okOpd x x'=true) (hk1:okOpt lo lo'=true) (hk2:okOpd hi hi'=true) (hk3:okOpd mx mx'=true)
  {el:TypeId} (ht:P.underlying t=some (.slice el)) (hsz:sizeB P el=some sz) {c ch cm:Cell} {l h m:Nat} {d:D}
  (h1:opd e x'=some c) (h2:optLo e lo'=some l) (h3:opd e hi'=some ch) (h4:ch.d.nat?=some h) (h5:opd e mx'=some cm) (h6:cm.d.nat?=some m) (h7:zle sz c.d l h m=some d) :
  ∃ u,(execOp a.eval o).run P w=.ok (.value u) w∧Rep ι j d u∧∀ (t':Tag) (own':Own),Owned ι own' w t' d u:=by
 have hr:=zah hL hk h1
 have hlo:=zrn hL hk1 h2
 obtain ⟨k1,hh⟩:=zfy h4 (zah hL hk2 h3)
 obtain ⟨k2,hm⟩:=zfy h6 (zah hL hk3 h5)
 unfold zle at h7
 obtain ⟨hb,h70⟩:=zae h7
 clear h7
 have h7:=h70
 clear h70
 simp only [Bool.and_eq_true,beq_iff_eq,decide_eq_true_eq] at hb
 obtain ⟨rfl,hle⟩:=hb
 have hex:∀ {base:Option Addr} {len cap:Nat},a.eval x=.slice base len cap→h≤cap→(execOp a.eval o).run P w=.ok (.value (.slice (if h=l then base else base.map (·.add (l * sz))) (h - l) (h - l))) w:=by
  intro base len cap hv hc
  simp only [execOp,ho,Option.map_some,hv,hh,hm,Instr.sliceAt,Instr.slice,Sem.run_bind,run_underlying ht,Result.andThen_ok,zqn (P:=P) (w:=w) (len:=len) hlo hle hc,za9 hsz,Sem.run_pure]
 clear h1
 cases hd:c.d <;> rw [hd] at h7 hr <;> simp only [reduceCtorEq] at h7 <;> simp only [Rep] at hr
 case nils =>
  obtain ⟨h8,h9⟩:=zae h7
  clear h7
  cases h9
  simp only [beq_iff_eq] at h8
  subst h8
  have hl0:l=0:=by omega
  subst hl0
  refine ⟨_,hex hr (Nat.le_refl 0),by simp only [Rep,if_true,Nat.sub_self],fun _ _=>trivial⟩
 case empt =>
  obtain ⟨h8,h9⟩:=zae h7
  clear h7
  cases h9
  simp only [beq_iff_eq] at h8
  subst h8
  have hl0:l=0:=by omega
  subst hl0
  obtain ⟨ad,hr⟩:=hr
  refine ⟨_,hex hr (Nat.le_refl 0),by simp only [Rep,if_true,Nat.sub_self]; exact ⟨ad,rfl⟩,fun _ _=>trivial⟩
 case arr k id off len =>
  obtain ⟨h8,h9⟩:=zae h7
  clear h7
  cases h9
  simp only [Bool.and_eq_true,decide_eq_true_eq,beq_iff_eq] at h8
  obtain ⟨h8,rfl⟩:=h8
  obtain ⟨b,cc,ad,q1,q2,q3,hv,q4⟩:=hr
  refine ⟨_,hex hv (by omega),by simp only [Rep,if_true,Nat.sub_self]; exact ⟨_,rfl⟩,fun _ _=>trivial⟩
 case list k es =>
  obtain ⟨h8,h9⟩:=zae h7
  clear h7
  rw [Bool.and_eq_true,Bool.and_eq_true,decide_eq_true_eq,beq_iff_eq,Bool.not_eq_true',beq_eq_false_iff_ne] at h8
  obtain ⟨⟨h8,rfl⟩,hel⟩:=h8
  simp only [Option.some.injEq] at h9
  have h7:=h9
  clear h9
  obtain ⟨ad,cap,hv,hc,hmax,hrow⟩:=hr
  refine ⟨_,hex hv (by omega),?_⟩
  by_cases hlh:l=h
  ·subst hlh
   simp only [beq_self_eq_true,zac] at h7
   subst h7
   refine ⟨by simp only [Rep,if_true,Nat.sub_self]; exact ⟨ad,rfl⟩,fun _ _=>trivial⟩
  ·have:(l == h)=false:=by simpa using hlh
   rw [this,zad] at h7
   subst h7
   have hlen:((es.drop l).take (h - l)).length=h - l:=by
    simp only [List.length_take,List.length_drop]; omega
   rcases hrow with hrow | ⟨b,off,rfl,hrow⟩
   ·subst hrow; simp at h8; omega
   ·rw [if_neg (by omega)]
    refine ⟨?_,fun t' own'=>?_⟩
    ·simp only [Rep]
     exact ⟨_,h - l,by rw [hlen],by rw [hlen]; omega,by omega,.inr ⟨b,off + l * k.sz,by simp [Addr.add_lit],(hrow.drop l).take _⟩⟩
    ·simp only [zed,zfv]
     exact .inl ⟨_,by rw [hlen],fun h=>absurd h hel⟩
end
end Go.Mx
namespace Go.Mx
open Go
section
variable [LoopKit] {P:Program} {ι:Imm} {j:Lay} {own:Own} {lb:Lay} {N:Nat} {e:Env} {a:Go.Act} {w:World} {σ:Store}
theorem zm6 (s:List UInt8):(⟨⟨s⟩⟩:ByteArray).toList=s:=by rw [ByteArray.toList_eq]
theorem zc5b {d:Nat} {t:TypeId}:∀ (k:Nat) (_:kindB P t k=true) (a b:D) (_:kindD k a=true) (_:kindD k b=true) (x y:Value) (_:Rep ι j a x) (_:Rep ι j b y),(Op.equalIn (d + 1) t x y).run P w=.ok (same1 a b) w
 | 0,hk,.int .i64 m,.int .i64 n,_,_,x,y,hx,hy=>by
  simp only [Rep] at hx hy
  subst hx hy
  simp only [kindB] at hk
  split at hk
  ·rename_i k' h
   exact run_equalIn_int w d t .i64 k' m n h
  ·cases hk
 | 1,hk,.str p,.str q,_,_,x,y,hx,hy=>by
  simp only [Rep] at hx hy
  subst hx hy
  simp only [kindB,strB] at hk
  split at hk
  ·rename_i h
   rw [run_equalIn_string w d t _ _ h,zm6,zm6]
   rfl
  ·cases hk
 | 2,hk,.bool p,.bool q,_,_,x,y,hx,hy=>by
  simp only [Rep] at hx hy
  subst hx hy
  simp only [kindB,boolB] at hk
  split at hk
  ·rename_i h
   exact run_equalIn_bool' w d t p q h
  ·cases hk
theorem zt0 {k:Nat} {ks:List Nat} {as:List D} {i:Nat} (h:zfx (k :: ks) (as.drop i)=true):∃ a,as.drop i=a :: as.drop (i + 1)∧Go.Mx.part none as i=some a∧kindD k a=true∧zfx ks (as.drop (i + 1))=true:=by
 cases hd:as.drop i with
 | nil=>rw [hd] at h; simp [zfx] at h
 | cons a r =>
  have hr:as.drop (i + 1)=r:=by rw [← List.drop_drop,hd]; rfl
  have ha:as[i]?=some a:=by
   have:(as.drop i)[0]?=some a:=by rw [hd]; rfl
   simpa using this
  rw [hd] at h
  simp only [zfx,Bool.and_eq_true] at h
  exact ⟨a,by rw [hr],by simp only [Go.Mx.part,zh0,ha],h.1,by rw [hr]; exact h.2⟩
theorem zni {d:Nat} {as bs:List D} {xs ys:List Value} (hx:RepL ι j as xs) (hx1:∀ v∈xs,v.oneCell'=true) (hy:RepL ι j bs ys) (hy1:∀ v∈ys,v.oneCell'=true) :
  ∀ (ks:List Nat) (i:Nat) (fs:List Field),zk8 P ks i fs=true→zfx ks (as.drop i)=true→zfx ks (bs.drop i)=true→(Op.eqFields (d + 1) ⟨xs⟩ ⟨ys⟩ fs).run P w=.ok (sameA (as.drop i) (bs.drop i)) w
 | [],i,fs,hf,ha,hb=>by
  cases fs with
  | cons f r=>simp [zk8] at hf
  | nil =>
   have:as.drop i=[]:=by
    cases hd:as.drop i with
    | nil=>rfl
    | cons a r=>rw [hd] at ha; simp [zfx] at ha
   rw [this,Op.eqFields]
   rfl
 | k :: ks,i,fs,hf,ha,hb=>by
  cases fs with
  | nil=>simp [zk8] at hf
  | cons f r =>
   simp only [zk8,Bool.and_eq_true,bne_iff_ne,ne_eq,beq_iff_eq] at hf
   obtain ⟨⟨⟨⟨h1,h2⟩,h3⟩,h4⟩,h5⟩:=hf
   obtain ⟨p,p1,p2,p3,p4⟩:=zt0 ha
   obtain ⟨q,q1,q2,q3,q4⟩:=zt0 hb
   obtain ⟨u,u1,u2,_⟩:=zmd (P:=P) (w:=w) hx hx1 h3 p2
   obtain ⟨v,v1,v2,_⟩:=zmd (P:=P) (w:=w) hy hy1 h3 q2
   have hE:=zc5b (P:=P) (w:=w) (d:=d) k h4 p q p3 q3 u v u2 v2
   have ih:=zni (d:=d) hx hx1 hy hy1 ks (i + 1) r h5 p4 q4
   rw [p1,q1,Op.eqFields,if_pos h1]
   simp only [h2,Sem.run_bind,u1,v1,Result.andThen_ok,hE,sameA]
   cases same1 p q with
   | false=>rfl
   | true =>
    simp only [Bool.not_true,Bool.false_eq_true,if_false,Bool.true_and]
    exact ih
theorem zorb (hL:LSim ι j own lb N e a w) {o:Oper} {op:BinOp} {t u:TypeId} {ks:List Nat} {x y:Operand} {x' y':AOpd} (ho:o.op=.binOp op t x y u) (hk:okOpd x x'=true) (hk1:okOpd y y'=true) (ht:zrq P t ks=true) {v:Val}
  (h:evalV (.eqA op ks x' y') e σ=some v):∃ u,(execOp a.eval o).run P w=.ok (.value u) w∧zal ι j lb v u:=by
 simp only [evalV] at h
 obtain ⟨c,h1,h⟩:=zaa h
 obtain ⟨c',h2,h⟩:=zaa h
 obtain ⟨as,h3,h⟩:=zaa h
 obtain ⟨bs,h4,h⟩:=zaa h
 obtain ⟨h5,h⟩:=zae h
 obtain ⟨d,h6,h⟩:=zaa h
 cases h
 simp only [Bool.and_eq_true] at h5
 obtain ⟨xs,hx,hxl,hx1⟩:=zqu h3 (zah hL hk h1)
 obtain ⟨ys,hy,hyl,hy1⟩:=zqu h4 (zah hL hk1 h2)
 unfold zrq at ht
 split at ht
 ·rename_i fs hu
  simp only [Bool.and_eq_true,Bool.not_eq_true'] at ht
  obtain ⟨⟨t1,t2⟩,t3⟩:=ht
  have hfo:P.fieldsOf t=fs:=by unfold Program.fieldsOf; rw [hu]
  have hrun:(Op.equal t (.agg ⟨xs⟩) (.agg ⟨ys⟩)).run P w=.ok (sameA as bs) w:=by
   show (Op.equalIn (9999 + 1) t _ _).run P w=_
   rw [run_equalIn_struct w 9999 t ⟨xs⟩ ⟨ys⟩ (by rw [hfo]; exact hu) t1,hfo]
   exact zni (d:=9998) hxl hx1 hyl hy1 ks 0 fs.toList t3 h5.1 h5.2
  obtain ⟨r,rfl,hr⟩:=zi3' h6 (P:=P) (w:=w) (t:=t) (x:=.agg ⟨xs⟩) (y:=.agg ⟨ys⟩) (fun _ _ h=>by cases h) (fun _ _ h=>by cases h) (fun _ _ _ h=>by cases h) (fun _ h=>by cases h) hrun
  refine ⟨.bool r,?_,by simp only [zal,Rep]⟩
  simp only [execOp,ho,hx,hy,Sem.run_bind,run_eqGuard_agg w op t x y ⟨xs⟩ ⟨ys⟩ t2,Result.andThen_ok,hr,Sem.run_pure]
 ·cases ht
end
end Go.Mx

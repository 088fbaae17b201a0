/-
 The operations that yield a value: what comes of them,marks and all.
-/
import Derived.Test.YtieacpoabejcoaaGreatDoorMyAppend
import Derived.Test.YtieacpoabejcoaaGreatDoorMyOps5
set_option linter.unusedSimpArgs false
set_option linter.unusedVariables false
set_option linter.unusedSectionVars false
namespace Go.Mx
open Go
section
variable [LoopKit] {P:Program} {ι:Imm} {j:Lay} {own:Own} {lb:Lay} {N:Nat} {e:Env} {a:Go.Act} {w:World} {σ:Store}
theorem zq9 {k:Option Nat} {mv:Bool} {x:AOpd} {v:Val} (h:evalV (.loadL k mv x) e σ=some v):evalV (.load k mv x) e σ=some v:=by
 simp only [evalV] at h ⊢
 obtain ⟨p,hp,h⟩:=zaa h
 rw [hp]
 simp only [bindO,zab]
 cases p with
 | loc b off=>exact h
 | ptr id off=>cases h
 | eptr d=>exact h
theorem zdpb {b:Nat} {k:Option Nat} {x:AOpd} {v:Val} (h:evalV (.loadB b k x) e σ=some v):evalV (.load k false x) e σ=some v:=by
 simp only [evalV] at h ⊢
 obtain ⟨p,hp,h⟩:=zaa h
 rw [hp]
 simp only [bindO,zab]
 cases p with
 | loc b' off =>
  obtain ⟨hb,h⟩:=zae h
  simp only [beq_iff_eq] at hb
  subst hb
  simp only [Bool.false_and]
  exact h
 | ptr id off=>cases h
 | eptr d=>cases h
theorem zdqb {k:Option Nat} {x:AOpd} {v:Val} (h:evalV (.loadE k x) e σ=some v):evalV (.load k false x) e σ=some v:=by
 simp only [evalV] at h ⊢
 obtain ⟨p,hp,h⟩:=zaa h
 rw [hp]
 simp only [bindO,zab]
 cases p with
 | loc b' off=>cases h
 | ptr id off=>cases h
 | eptr d=>exact h
theorem zdsb {k:Option Nat} {x:AOpd} {v:Val} (h:evalV (.loadP k x) e σ=some v):evalV (.load k false x) e σ=some v:=by
 simp only [evalV] at h ⊢
 obtain ⟨p,hp,h⟩:=zaa h
 rw [hp]
 simp only [bindO,zab]
 cases p with
 | loc b' off=>cases h
 | ptr id off =>
  simp only [Bool.false_and]
  exact h
 | eptr d=>cases h
theorem zdrb {k:Option Nat} {x:AOpd} {v:Val} (h:evalV (.loadG k x) e σ=some v):evalV (.load k false x) e σ=some v:=by
 simp only [evalV] at h ⊢
 obtain ⟨p,h1,h⟩:=zaa h
 rw [h1]
 cases p with
 | loc b off=>cases h
 | ptr id off=>exact h
 | eptr d=>exact h
theorem zh7 {t:TypeId} {sz:Nat} (h:(match elemB P t with | some e=>sizeB P e == some sz | none=>false)=true):∃ el,elemB P t=some el∧sizeB P el=some sz:=by
 cases he:elemB P t with
 | none=>rw [he] at h; cases h
 | some el=>rw [he] at h; exact ⟨el,rfl,by simpa using h⟩
theorem zi3 {op:BinOp} {b:Bool} {d:D} (h:eqlB op b=some d) {P:Program} {w:World} {t:TypeId} {x y:Value} (hi:∀ k m,x≠.int k m) (hf:∀ k m,x≠.float k m) (hc:∀ k m n,x≠.complex k m n) (hs:∀ m,x≠.string m) (he:(Op.equal t x y).run P w=.ok b w) :
  ∃ r,d=.bool r∧(binOp op t x y).run P w=.ok (.bool r) w:=by
 cases op <;> simp only [eqlB,reduceCtorEq,Option.some.injEq] at h <;> subst h
 ·refine ⟨b,rfl,?_⟩
  cases x <;> first
   | exact absurd rfl (hi _ _)
   | exact absurd rfl (hf _ _)
   | exact absurd rfl (hc _ _ _)
   | exact absurd rfl (hs _)
   | simp [binOp,he]
 ·refine ⟨!b,rfl,?_⟩
  cases x <;> first
   | exact absurd rfl (hi _ _)
   | exact absurd rfl (hf _ _)
   | exact absurd rfl (hc _ _ _)
   | exact absurd rfl (hs _)
   | simp [binOp,he]
theorem zfw (op:BinOp) (t:TypeId) (x:Operand) (z v:Value) (hz:z=.nilIface∨z=.pointer none):(eqGuard op t x (.const z) v z).run P w=.ok () w:=by
 unfold eqGuard
 rcases hz with rfl | rfl <;> cases op <;> simp <;> cases v <;> simp
theorem zrw {t:TypeId} {ms:Array (String × TypeId)} (ht:P.underlying t=some (.interface ms)) (tt:TypeId) (vv:Value):(Op.equal t (.iface tt vv) .nilIface).run P w=.ok false w:=by
 show (Op.equalIn (9999 + 1) t (.iface tt vv) .nilIface).run P w=_
 rw [Op.equalIn]
 simp only [Sem.run_bind,run_underlying ht,Result.andThen_ok]
 rfl
theorem zti {t:TypeId} {ms:Array (String × TypeId)} (ht:P.underlying t=some (.interface ms)):(Op.equal t .nilIface .nilIface).run P w=.ok true w:=by
 show (Op.equalIn (9999 + 1) t .nilIface .nilIface).run P w=_
 rw [Op.equalIn]
 simp only [Sem.run_bind,run_underlying ht,Result.andThen_ok]
 rfl
theorem zii {t el:TypeId} (ht:P.underlying t=some (.pointer el)) (ad:Option Addr):(Op.equal t (.pointer ad) (.pointer none)).run P w=.ok ad.isNone w:=by
 show (Op.equalIn (9999 + 1) t (.pointer ad) (.pointer none)).run P w=_
 rw [Op.equalIn]
 simp only [Sem.run_bind,run_underlying ht,Result.andThen_ok]
 cases ad <;> rfl
theorem zihb (hL:LSim ι j own lb N e a w) {o:Oper} {op:BinOp} {t u:TypeId} {x:Operand} {y:AOpd} (ho:o.op=.binOp op t x (.const .nilIface) u) (hk:okOpd x y=true) (ht:zd7 P t=some true) {v:Val}
  (h:evalV (.isNil op y) e σ=some v):∃ u,(execOp a.eval o).run P w=.ok (.value u) w∧zal ι j lb v u:=by
 have ht:∃ ms,P.underlying t=some (.interface ms):=by
  unfold zd7 at ht
  split at ht
  ·rename_i ms hm; exact ⟨ms,hm⟩
  ·simp at ht
  ·cases ht
 obtain ⟨ms,ht⟩:=ht
 simp only [evalV] at h
 obtain ⟨c,h1,h⟩:=zaa h
 obtain ⟨b,h2,h⟩:=zaa h
 obtain ⟨d,h3,h⟩:=zaa h
 cases h
 have hr:=zah hL hk h1
 have hz:a.eval (.const .nilIface)=.nilIface:=rfl
 have key:∀ xv,a.eval x=xv→(Op.equal t xv .nilIface).run P w=.ok b w→(xv=.nilIface∨∃ tt vv,xv=.iface tt vv)→∃ u,(execOp a.eval o).run P w=.ok (.value u) w∧zal ι j lb (.c ⟨false,d⟩) u:=by
  intro xv hx he hform
  obtain ⟨r,rfl,hb⟩:=zi3 (t:=t) (x:=xv) (y:=.nilIface) h3 (by rcases hform with rfl | ⟨_,_,rfl⟩ <;> simp) (by rcases hform with rfl | ⟨_,_,rfl⟩ <;> simp) (by rcases hform with rfl | ⟨_,_,rfl⟩ <;> simp) (by rcases hform with rfl | ⟨_,_,rfl⟩ <;> simp) he
  refine ⟨.bool r,?_,by simp only [zal,Rep]⟩
  simp only [execOp,ho,hz,hx,Sem.run_bind,zfw op t x .nilIface xv (.inl rfl),Result.andThen_ok,hb,Sem.run_pure]
 cases hd:c.d <;> rw [hd] at h2 hr <;> simp only [D.isNil?,reduceCtorEq,Option.some.injEq] at h2 <;> subst h2 <;> simp only [Rep] at hr
 ·obtain ⟨xv,hx,_⟩:=hr
  exact key _ hx (zrw ht _ _) (.inr ⟨_,_,rfl⟩)
 ·exact key _ hr (zti ht) (.inl rfl)
theorem ze3b (hL:LSim ι j own lb N e a w) {o:Oper} {op:BinOp} {t u:TypeId} {x:Operand} {y:AOpd} (ho:o.op=.binOp op t x (.const (.pointer none)) u) (hk:okOpd x y=true) (ht:ptrB P t=true) {v:Val}
  (h:evalV (.isNilP op y) e σ=some v):∃ u,(execOp a.eval o).run P w=.ok (.value u) w∧zal ι j lb v u:=by
 have ht:∃ el,P.underlying t=some (.pointer el):=by
  unfold ptrB at ht
  split at ht
  ·rename_i ms hm; exact ⟨ms,hm⟩
  ·cases ht
 obtain ⟨el,ht⟩:=ht
 simp only [evalV] at h
 obtain ⟨c,h1,h⟩:=zaa h
 obtain ⟨b,h2,h⟩:=zaa h
 obtain ⟨d,h3,h⟩:=zaa h
 cases h
 have hr:=zah hL hk h1
 have hz:a.eval (.const (.pointer none))=.pointer none:=rfl
 have key:∀ ad,a.eval x=.pointer ad→(Op.equal t (.pointer ad) (.pointer none)).run P w=.ok b w→∃ u,(execOp a.eval o).run P w=.ok (.value u) w∧zal ι j lb (.c ⟨false,d⟩) u:=by
  intro ad hx he
  obtain ⟨r,rfl,hb⟩:=zi3 (t:=t) (x:=.pointer ad) (y:=.pointer none) h3 (by simp) (by simp) (by simp) (by simp) he
  refine ⟨.bool r,?_,by simp only [zal,Rep]⟩
  simp only [execOp,ho,hz,hx,Sem.run_bind,zfw op t x (.pointer none) (.pointer ad) (.inr rfl),Result.andThen_ok,hb,Sem.run_pure]
 cases hd:c.d <;> rw [hd] at h2 hr <;> simp only [D.isNilP?,reduceCtorEq,Option.some.injEq] at h2 <;> subst h2 <;> simp only [Rep] at hr
 ·exact key _ hr (zii ht _)
 ·obtain ⟨b',_,hx⟩:=hr
  exact key _ hx (zii ht _)
 ·obtain ⟨b',o',xv,hx,_⟩:=hr
  exact key _ hx (zii ht _)
theorem za5b (hL:LSim ι j own lb N e a w) {o:Oper} {t u:TypeId} {x:Operand} {y:AOpd} {z:D} {zv:Value} (ho:o.op=.typeAssert x u t true) (hk:okOpd x y=true) (ht:zd7 P t=some false) (hz:(P.info? t).bind (·.zero)=some zv) (hzr:za8 z zv=true) {v:Val}
  (h:evalV (.assertT t z y) e σ=some v):∃ u,(execOp a.eval o).run P w=.ok (.value u) w∧zal ι j lb v u:=by
 have ht:∃ d,P.underlying t=some d∧∀ m,d≠.interface m:=by
  cases hd:P.underlying t with
  | none=>unfold zd7 at ht; rw [hd] at ht; cases ht
  | some d =>
   refine ⟨d,rfl,fun m e=>?_⟩
   subst e
   unfold zd7 at ht
   rw [hd] at ht
   simp at ht
 obtain ⟨td,hu,hni⟩:=ht
 have hzv:(zeroValue t).run P w=.ok zv w:=by
  obtain ⟨i,hi,hz⟩:=Option.bind_eq_some_iff.1 hz
  simp [zeroValue,typeInfo,hi,hz]
 simp only [evalV] at h
 obtain ⟨c,h1,h⟩:=zaa h
 obtain ⟨d,h2,h⟩:=zaa h
 cases h
 have hr:=zah hL hk h1
 have hzrep:=zfz (ι:=ι) (j:=j) z zv hzr
 have fin:∀ xv r,a.eval x=xv→(Instr.typeAssert xv u t true).run P w=.ok r w→Rep ι j d r→∃ u,(execOp a.eval o).run P w=.ok (.value u) w∧zal ι j lb (.c ⟨false,d⟩) u:=by
  intro xv r hx hrun hrep
  exact ⟨r,by simp only [execOp,ho,hx,Sem.run_bind,hrun,Result.andThen_ok,Sem.run_pure],hrep⟩
 cases hd:c.d with
 | iface t' dd =>
  rw [hd] at h2 hr
  simp only [ze8,Option.some.injEq] at h2
  subst h2
  simp only [Rep] at hr
  obtain ⟨xv,hx,hxr⟩:=hr
  by_cases htt:t'=t
  ·subst htt
   refine fin _ (.tuple #[xv,.bool true]) hx ?_ ?_
   ·simp only [Instr.typeAssert,Sem.run_bind,run_underlying hu,Result.andThen_ok]
    cases td <;> first | exact absurd rfl (hni _) | rfl | simp
   ·simp [Rep,RepL,ifB,hxr]
  ·have hb:(t' == t)=false:=by simpa using htt
   refine fin _ (.tuple #[zv,.bool false]) hx ?_ ?_
   ·simp only [Instr.typeAssert,Sem.run_bind,run_underlying hu,Result.andThen_ok]
    cases td <;> first | exact absurd rfl (hni _) | (simp [htt,hzv])
   ·simp [Rep,RepL,ifB,hb,hzrep]
 | niliface =>
  rw [hd] at h2 hr
  simp only [ze8,Option.some.injEq] at h2
  subst h2
  simp only [Rep] at hr
  refine fin _ (.tuple #[zv,.bool false]) hr ?_ ?_
  ·simp only [Instr.typeAssert,Sem.run_bind,run_underlying hu,Result.andThen_ok]
   cases td <;> first | exact absurd rfl (hni _) | (simp [hzv])
  ·simp [Rep,RepL,hzrep]
 | _=>rw [hd] at h2; simp [ze8] at h2
theorem zo4 (hG:GSim ι j own σ w) (hL:LSim ι j own lb N e a w) {o:Oper} {o':AOp} (hk:okV P o.op o'=true) {v:Val} (h:evalV o' e σ=some v) :
  ∃ u,(execOp a.eval o).run P w=.ok (.value u) w∧zal ι j lb v u:=by
 generalize ho:o.op=op at hk
 unfold okV at hk
 split at hk <;> try simp only [Bool.and_eq_true,beq_iff_eq,Bool.false_eq_true] at hk
 ·exact zyn hL (.inl ho) hk h
 ·exact zyn hL (.inr ho) hk h
 ·exact zl2b hL ho hk.1.1 hk.1.2 hk.2 h
 ·split at hk
  ·rename_i h1 h2
   simp only [Bool.and_eq_true] at hk
   exact zieb hL ho h1 hk.1.1 h2 hk.2 hk.1.2 h
  ·rename_i h1 h2
   simp only [Bool.and_eq_true] at hk
   obtain ⟨hk1,hk2⟩:=hk
   split at hk2
   ·rename_i ha
    split at hk2
    ·rename_i hs
     exact ze1b hL ho h1 hk1 (zvm ha) hs hk2 h
    ·cases hk2
   ·cases hk2
  ·cases hk
 ·obtain ⟨⟨h1,h2⟩,h3⟩:=hk
  split at h3
  ·rename_i ha
   simp only [Bool.and_eq_true,beq_iff_eq] at h3
   obtain ⟨rfl,h3⟩:=h3
   exact ztn hL ho h1 h2 (zvm ha) h3 h
  ·cases h3
 ·exact zgb hG hL ho hk.1 hk.2 h
 ·exact zgb hG hL ho hk.1 hk.2 (zq9 h)
 ·exact zgb hG hL ho hk.1 hk.2 (zdpb h)
 ·exact zgb hG hL ho hk.1 hk.2 (zdqb h)
 ·exact zgb hG hL ho hk.1 hk.2 (zdsb h)
 ·exact zgb hG hL ho hk.1 hk.2 (zdrb h)
 ·exact zyo hL ho hk h
 ·exact za6b hL ho hk h
 ·have:=of_decide_eq_true hk.1.1
  subst this
  exact zoqb hL ho hk.1.2 hk.2 h
 ·have:=of_decide_eq_true hk.1.1.1
  subst this
  exact zlzb hL ho hk.1.1.2 hk.1.2 hk.2 h
 ·have:=of_decide_eq_true hk.1.1
  subst this
  exact zihb hL ho hk.1.2 hk.2 h
 ·have:=of_decide_eq_true hk.1.1
  subst this
  exact ze3b hL ho hk.1.2 hk.2 h
 ·obtain ⟨⟨⟨rfl,h1⟩,h2⟩,h3⟩:=hk
  split at h3
  ·rename_i zv hzv
   exact za5b hL ho h1 h2 hzv h3 h
  ·cases h3
 ·have:=of_decide_eq_true hk.1
  subst this
  exact zqab hL ho hk.2 h
 ·exact zijb hL ho hk.1.1 hk.2 hk.1.2 h
 ·exact zikb hL ho hk.1.1 hk.2 hk.1.2 h
 ·obtain ⟨⟨h1,h2⟩,h3⟩:=hk
  split at h3
  ·rename_i k hk
   exact za9b hL ho h1 hk (zgn h2) h
  ·cases h3
 ·obtain ⟨⟨h1,h2⟩,h3⟩:=hk
  split at h3
  ·rename_i el hel
   have hi:P.underlying el=some (.int .u8):=by
    unfold intB at h3
    split at h3
    ·rename_i k hk
     have:k=.u8:=by simpa using h3
     rw [hk,this]
    ·simp at h3
   exact ztm hG hL ho h1 (zb0 hel) hi (zgn h2) h
  ·cases h3
 ·obtain ⟨⟨rfl,h1⟩,h2⟩:=hk
  exact za8b hL ho h1 h2 h
 ·rename_i f as bs f' as' bs'
  cases f with
  | func g =>
   cases f' with
   | func g' =>
    have:=hk.1.1
    simp only [zry,beq_iff_eq] at this
    subst this
    exact ze6b hL ho hk.1.2 hk.2 h
   | _=>have:=hk.1.1; simp [zry] at this
  | _=>have:=hk.1.1; cases f' <;> simp [zry] at this
 ·obtain ⟨el,h1,h2⟩:=zh7 hk.2
  exact zuk hL ho hk.1.1.1 hk.1.1.2 hk.1.2 (zb0 h1) h2 h
 ·have:=of_decide_eq_true hk.1.1
  subst this
  exact ze4b hL ho hk.1.2 hk.2 h
 ·have:=of_decide_eq_true hk.1.1
  subst this
  exact ze2b hL ho hk.1.2 hk.2 h
 ·obtain ⟨⟨⟨h1,h2⟩,rfl⟩,h3⟩:=hk
  split at h3
  ·rename_i kt el hm
   simp only [Bool.and_eq_true] at h3
   obtain ⟨h3,h4⟩:=h3
   split at h4
   ·rename_i zv hz
    exact ze5b hG hL ho h1 h2 hm h3 hz h4 h
   ·cases h4
  ·cases h3
 ·exact zl0b hG hL ho hk.1 hk.2 h
 ·exact ziib (mx:=false) hL ho hk.1 hk.2 h
 ·exact ziib (mx:=true) hL ho hk.1 hk.2 h
 ·exact ze7b hL ho hk.1.1.1 hk.1.1.2 hk.1.2 (zgn hk.2) h
 ·obtain ⟨h1,h2⟩:=hk
  split at h2
  ·rename_i hf
   split at h2
   ·rename_i hi
    simp only [Bool.and_eq_true,beq_iff_eq,bne_iff_ne,ne_eq] at h2
    exact zve hL ho h1 hf hi h2.1.1 h2.1.2 h2.2 h
   ·cases h2
  ·cases h2
 ·obtain ⟨h1,h2⟩:=hk
  split at h2
  ·rename_i hf
   split at h2
   ·rename_i hi
    simp only [Bool.and_eq_true,beq_iff_eq] at h2
    exact zifb hL ho h1 hf hi h2.1 h2.2 h
   ·cases h2
  ·cases h2
 ·obtain ⟨el,h1,h2⟩:=zh7 hk.2
  exact zvf hL ho hk.1.1 hk.1.2 (zb0 h1) h2 h
 ·exact zigb hL ho hk.1.1 hk.1.2 hk.2 h
 ·obtain ⟨h1,rfl⟩:=hk
  exact za7b hL ho h1 h
 ·exact zosb hL ho hk.1 hk.2 h
 ·exact zl1b hL ho hk.1 hk.2 h
 ·have:=of_decide_eq_true hk.1.1.1
  subst this
  exact zorb hL ho hk.1.1.2 hk.1.2 hk.2 h
def Val.owns:Val→Bool
 | .c x=>x.own
 | .l _ _=>false
def zk9:AOp→Bool
 | .mov _=>false
 | .load _ mv _=>!mv
 | .loadL _ mv _=>!mv
 | _=>true
theorem zhib:∀ (o':AOp) {v:Val},zk9 o'=true→evalV o' e σ=some v→v.owns=false∧zbd o' e=e∧zbi o' e σ=σ:=by
 intro o' v hp h
 refine ⟨?_,?_⟩
 ·cases o' <;> simp only [zk9,Bool.false_eq_true,Bool.not_eq_true'] at hp <;> simp only [evalV,bindO,caseO,ifB,hp,Bool.false_and,reduceCtorEq] at h <;>
   (repeat' split at h) <;> first | (cases h; rfl) | cases h
 ·cases o' <;> simp only [zk9,Bool.false_eq_true,Bool.not_eq_true'] at hp <;> first | exact ⟨rfl,rfl⟩ | (subst hp; exact ⟨rfl,rfl⟩)
theorem LSim.putVal (hL:LSim ι j own lb N e a w) {d:Option Nat} (hd:∀ s,d=some s→s < N) {v:Val} {u:Value} (hv:zal ι j lb v u) (ho:v.owns=false):LSim ι j own lb N (e.putV d v) (a.put d u) w:=by
 cases d with
 | none=>cases v <;> exact hL
 | some s =>
  cases v with
  | c c =>
   have ho:c.own=false:=ho
   exact hL.putC (hd s rfl) ⟨hv,fun h=>by rw [ho] at h; cases h⟩
  | l b off =>
   obtain ⟨B,hB,rfl⟩:=hv
   exact hL.putL (hd s rfl) hB
theorem zesb (hG:GSim ι j own σ w) (hL:LSim ι j own lb N e a w) {o:Oper} {o':AOp} (hk:okV P o.op o'=true) (hd:∀ s,o.dst=some s→s < N) (hp:zk9 o'=true) {v:Val} (h:evalV o' e σ=some v) :
  Did P N ι j own w o a ((zbd o' e).putV o.dst v) (zbi o' e σ):=by
 obtain ⟨u,hrun,hv⟩:=zo4 hG hL hk h
 obtain ⟨h1,h2,h3⟩:=zhib o' hp h
 rw [h2,h3]
 exact ⟨_,w,_,hrun,.inl ⟨u,rfl,rfl⟩,ι,j,own,lb,hG,hL.putVal hd hv h1,Evo.refl _ _ _ _ _⟩
theorem zltb (hG:GSim ι j own σ w) (hL:LSim ι j own lb N e a w) {o:Oper} {y:AOpd} (hk:okV P o.op (.mov y)=true) (hd:∀ s,o.dst=some s→s < N) {v:Val} (h:evalV (.mov y) e σ=some v) :
  Did P N ι j own w o a ((y.drop e).putV o.dst v) σ:=by
 obtain ⟨u,hrun,hv⟩:=zo4 hG hL hk h
 simp only [evalV] at h
 obtain ⟨c,h1,h⟩:=zaa h
 cases h
 cases how:c.own with
 | false=>exact ⟨_,w,_,hrun,.inl ⟨u,rfl,rfl⟩,ι,j,own,lb,hG,(hL.drop y).putVal hd hv how,Evo.refl _ _ _ _ _⟩
 | true =>
  have hu:∃ x,okOpd x y=true∧u=a.eval x:=by
   generalize ho:o.op=op at hk
   cases op <;> first
    | (rename_i x; refine ⟨x,hk,?_⟩; simp only [execOp,ho,Sem.run_pure] at hrun; cases hrun; rfl)
    | (simp [okV] at hk)
  obtain ⟨x,hx,rfl⟩:=hu
  cases hds:o.dst with
  | none=>exact ⟨_,w,_,hrun,.inl ⟨_,rfl,rfl⟩,ι,j,own,lb,hG,by rw [hds]; exact hL.drop y,Evo.refl _ _ _ _ _⟩
  | some s =>
   obtain ⟨own',k1,k2,k3,k4⟩:=zf7 hG hL hx h1 (t':=.slot s) rfl
   exact ⟨_,w,_,hrun,.inl ⟨_,rfl,rfl⟩,ι,j,own',lb,k1,by rw [hds]; exact zhe (hd s hds) (k2.forget s) ⟨hv,fun h=>k3 h⟩,k4⟩
theorem zgx:∀ (cs:List Cell) (o:Nat),(zay cs o).length=cs.length∧∀ (i:Nat) (c:Cell),(zay cs o)[i]?=some c→∃ c0,cs[i]?=some c0∧c0.d=c.d∧(c.own=true→c0.own=true∧i≠o)
 | [],o=>by
  refine ⟨by cases o <;> rfl,fun i c h=>?_⟩
  cases o <;> simp [zay] at h
 | c0 :: cs,0=>by
  refine ⟨by simp [zay],fun i c h=>?_⟩
  cases i with
  | zero =>
   simp [zay] at h
   subst h
   exact ⟨c0,rfl,rfl,fun h=>by cases h⟩
  | succ i =>
   simp [zay] at h
   exact ⟨c,by simpa using h,rfl,fun h=>⟨h,by omega⟩⟩
 | c0 :: cs,o + 1=>by
  obtain ⟨h1,h2⟩:=zgx cs o
  refine ⟨by simp [zay,h1],fun i c h=>?_⟩
  cases i with
  | zero =>
   simp [zay] at h
   subst h
   exact ⟨c0,rfl,rfl,fun h=>⟨h,by omega⟩⟩
  | succ i =>
   simp [zay] at h
   obtain ⟨c1,k1,k2,k3⟩:=h2 i c h
   exact ⟨c1,by simpa using k1,k2,fun h=>⟨(k3 h).1,by have:=(k3 h).2; omega⟩⟩
theorem zlh (cs:List Cell) (o:Nat):zbk (zay cs o) cs :=
 ⟨(zgx cs o).1,fun i c h=>by
  obtain ⟨c0,k1,k2,k3⟩:=(zgx cs o).2 i c h
  exact ⟨c0,k1,k2,fun h=>(k3 h).1⟩⟩
theorem GSim.sub {σ':Store} (hG:GSim ι j own σ w) (h1:∀ id cs,aget σ'.objs id=some cs→∃ cs0,aget σ.objs id=some cs0∧zbk cs cs0) (h2:σ.next≤σ'.next) (h3:∀ id t,aget σ'.tys id=some t→aget σ.tys id=some t) (h4:∀ id x,aget σ'.oth id=some x→aget σ.oth id=some x):GSim ι j own σ' w where
 holds:=hG.holds
 noimm:=hG.noimm
 objs:=fun id cs h=>by
  obtain ⟨cs0,k1,k2⟩:=h1 id cs h
  obtain ⟨b,q1,q2,q3⟩:=hG.objs id cs0 k1
  exact ⟨b,q1,q2,q3.weaken k2⟩
 tys:=fun id t cs k1 k2 b hb=>by
  obtain ⟨cs0,q1,_⟩:=h1 id cs k2
  exact hG.tys id t cs0 (h3 id t k1) q1 b hb
 oth:=fun id x k=>hG.oth id x (h4 id _ k)
 jlt:=fun id b h=>Nat.lt_of_lt_of_le (hG.jlt id b h) h2
 ownlt:=hG.ownlt
theorem zkt (hG:GSim ι j own σ w) (hL:LSim ι j own lb N e a w) {o:Oper} {t:TypeId} {x:Operand} {y:AOpd} {k:Option Nat} (ho:o.op=.load t x) (hk:okOpd x y=true) (hk1:okK P t k=true) (hd:∀ s,o.dst=some s→s < N) {v:Val}
  (h:evalV (.load k true y) e σ=some v):Did P N ι j own w o a ((zbd (.load k true y) e).putV o.dst v) (zbi (.load k true y) e σ):=by
 have fin:∀ {b off:Nat} {u:Value},a.eval x=.pointer (some ⟨b,off,none⟩)→(loadVar t ⟨b,off,none⟩).run P w=.ok u w→(execOp a.eval o).run P w=.ok (.value u) w:=by
  intro b off u h1 h2
  simp only [execOp,ho,h1,Instr.loadAt,Instr.sureAddr,Sem.run_bind,Sem.run_pure,Result.andThen_ok,h2]
 have hval:=zgb hG hL ho hk hk1 h
 simp only [evalV] at h
 obtain ⟨p,hp,h⟩:=zaa h
 have hr:=zca hL hk hp
 cases p with
 | loc b off =>
  obtain ⟨B,hB,hx⟩:=hr
  obtain ⟨cs,h1,h⟩:=zaa h
  obtain ⟨c,h2,h⟩:=zaa h
  cases h
  obtain ⟨B',hB',hown,hbox⟩:=hL.boxes b cs h1
  rw [hB] at hB'
  cases hB'
  obtain ⟨u,hu,hru,q1,q2⟩:=zdj hbox hk1 h2
  have hdr:zbd (.load k true y) e={e with boxes:=aset e.boxes b (zay cs off)}:=by
   simp only [zbd,hp,zab,h1]
  have hdrS:zbi (.load k true y) e σ=σ:=by simp only [zbi,hp,zab]
  rw [hdr,hdrS]
  have hL0:LSim ι j own lb N {e with boxes:=aset e.boxes b (zay cs off)} a w :=
   hL.sub (fun s c h=>⟨c,h,rfl,fun h=>h⟩) (fun _ _ h=>h) (fun s cs' h=>by
    simp only [zak] at h
    split at h
    ·rename_i hs; subst hs; cases h; exact ⟨cs,h1,zlh cs off⟩
    ·exact ⟨cs',h,zbk.refl cs'⟩) rfl
  cases how:c.own with
  | false=>exact ⟨_,w,_,fin hx hu,.inl ⟨u,rfl,rfl⟩,ι,j,own,lb,hG,hL0.putVal hd (v:=.c ⟨true && false,c.d⟩) hru rfl,Evo.refl _ _ _ _ _⟩
  | true =>
   cases k with
   | some n=>rw [q2 (by simp)] at how; cases how
   | none =>
    obtain ⟨hat,_,hcr⟩:=q1 rfl
    have hO:=hcr.2 how
    cases hds:o.dst with
    | none=>exact ⟨_,w,_,fin hx hu,.inl ⟨_,rfl,rfl⟩,ι,j,own,lb,hG,by rw [hds]; exact hL0,Evo.refl _ _ _ _ _⟩
    | some s =>
     obtain ⟨own',k1,k2,k3,k4⟩:=retag (t:=.cell b off) (t':=.slot s) rfl rfl hG hL0 (fun _ _ _ _ h=>by cases h) (fun s' cs' hs' i c' hi hc' heq=>by
      cases heq
      simp only [zak,if_true,Option.some.injEq] at hs'
      subst hs'
      obtain ⟨c0,_,_,q⟩:=(zgx cs off).2 off c' hi
      exact (q hc').2 rfl) (fun _ _ _ _ _ _ _ h=>by cases h) hO
     exact ⟨_,w,_,fin hx hu,.inl ⟨_,rfl,rfl⟩,ι,j,own',lb,k1,by rw [hds]; exact zhe (hd s hds) (k2.forget s) ⟨hru,fun _=>k3⟩,k4.weaken fun _ _=>trivial⟩
 | ptr id off =>
  obtain ⟨B,hB,hx⟩:=hr
  obtain ⟨cs,h1,h⟩:=zaa h
  obtain ⟨c,h2,h⟩:=zaa h
  cases h
  obtain ⟨B',hB',hown,hbox⟩:=hG.objs id cs h1
  rw [hB] at hB'
  cases hB'
  obtain ⟨u,hu,hru,q1,q2⟩:=zdj hbox hk1 h2
  have hdr:zbd (.load k true y) e=e:=by simp only [zbd,hp,zab]
  have hdrS:zbi (.load k true y) e σ={σ with objs:=aset σ.objs id (zay cs off)}:=by simp only [zbi,hp,zab,h1]
  rw [hdr,hdrS]
  have hG0:GSim ι j own {σ with objs:=aset σ.objs id (zay cs off)} w :=
   hG.sub (fun id' cs' h=>by
    simp only [zak] at h
    split at h
    ·rename_i hs; subst hs; cases h; exact ⟨cs,h1,zlh cs off⟩
    ·exact ⟨cs',h,zbk.refl cs'⟩) (Nat.le_refl _) (fun _ _ h=>h) (fun _ _ h=>h)
  cases how:c.own with
  | false=>exact ⟨_,w,_,fin hx hu,.inl ⟨u,rfl,rfl⟩,ι,j,own,lb,hG0,hL.putVal hd (v:=.c ⟨true && false,c.d⟩) hru rfl,Evo.refl _ _ _ _ _⟩
  | true =>
   cases k with
   | some n=>rw [q2 (by simp)] at how; cases how
   | none =>
    obtain ⟨hat,_,hcr⟩:=q1 rfl
    have hO:=hcr.2 how
    cases hds:o.dst with
    | none=>exact ⟨_,w,_,fin hx hu,.inl ⟨_,rfl,rfl⟩,ι,j,own,lb,hG0,by rw [hds]; exact hL,Evo.refl _ _ _ _ _⟩
    | some s =>
     obtain ⟨own',k1,k2,k3,k4⟩:=retag (t:=.ocell id off) (t':=.slot s) rfl rfl hG0 hL (fun _ _ _ _ h=>by cases h) (fun _ _ _ _ _ _ _ h=>by cases h) (fun id' cs' hs' i c' hi hc' heq=>by
      cases heq
      simp only [zak,if_true,Option.some.injEq] at hs'
      subst hs'
      obtain ⟨c0,_,_,q⟩:=(zgx cs off).2 off c' hi
      exact (q hc').2 rfl) hO
     exact ⟨_,w,_,fin hx hu,.inl ⟨_,rfl,rfl⟩,ι,j,own',lb,k1,by rw [hds]; exact zhe (hd s hds) (k2.forget s) ⟨hru,fun _=>k3⟩,k4.weaken fun _ _=>trivial⟩
 | eptr d =>
  have hdr:zbd (.load k true y) e=e:=by simp only [zbd,hp,zab]
  have hdrS:zbi (.load k true y) e σ=σ:=by simp only [zbi,hp,zab]
  rw [hdr,hdrS]
  obtain ⟨u,hrun,hv⟩:=hval
  refine ⟨_,w,_,hrun,.inl ⟨u,rfl,rfl⟩,ι,j,own,lb,hG,hL.putVal hd hv ?_,Evo.refl _ _ _ _ _⟩
  cases k with
  | none =>
   obtain ⟨_,h⟩:=zae h
   cases h
   rfl
  | some n =>
   obtain ⟨cs,_,h⟩:=zaa h
   obtain ⟨_,h⟩:=zae h
   cases h
   rfl
end
end Go.Mx
namespace Go.Mx
open Go
def zc9:List D→Nat
 | .list _ _ :: _=>0
 | _ :: r=>zc9 r + 1
 | []=>0
theorem zlz:∀ (cs:List Cell) (vs:List Value),vs.length=cs.length→firstOwn cs=true→∃ sz es x,cs[zc9 (cs.map fun c=>c.d)]?=some ⟨true,.list sz es⟩∧vs[zc9 (cs.map fun c=>c.d)]?=some x∧zgh (cs.map fun c=>c.d) vs=some (sz,es,x)
 | [],_,_,h=>by cases h
 | c :: cs,[],h,_=>by simp at h
 | ⟨o,d⟩ :: cs,v :: vs,hl,h=>by
  cases d with
  | list sz es =>
   simp only [firstOwn] at h
   subst h
   exact ⟨sz,es,v,rfl,rfl,rfl⟩
  | _ =>
   simp only [firstOwn] at h
   obtain ⟨sz,es,x,h1,h2,h3⟩:=zlz cs vs (by simpa using hl) h
   exact ⟨sz,es,x,by simpa [zc9] using h1,by simpa [zc9] using h2,by simpa [zgh] using h3⟩
theorem zik:∀ cs:List Cell,zbk (unownF cs) cs∧∀ (i:Nat) (c:Cell),(unownF cs)[i]?=some c→c.own=true→(∃ sz es,(cs.map fun c=>c.d)[zc9 (cs.map fun c=>c.d)]?=some (.list sz es))→i≠zc9 (cs.map fun c=>c.d)
 | []=>⟨zbk.refl _,fun i c h=>by simp [unownF] at h⟩
 | ⟨o,d⟩ :: cs=>by
  obtain ⟨⟨h1,h2⟩,h3⟩:=zik cs
  cases d with
  | list sz es =>
   refine ⟨⟨by simp [unownF],fun i c h=>?_⟩,fun i c h ho _=>?_⟩
   ·cases i with
    | zero =>
     simp [unownF] at h
     subst h
     exact ⟨_,rfl,rfl,fun h=>by cases h⟩
    | succ i=>exact ⟨c,by simpa [unownF] using h,rfl,id⟩
   ·cases i with
    | zero =>
     simp [unownF] at h
     subst h
     cases ho
    | succ i=>simp [zc9]
  | _ =>
   refine ⟨⟨by simp [unownF,h1],fun i c h=>?_⟩,fun i c h ho hx=>?_⟩
   ·cases i with
    | zero=>exact ⟨c,by simpa [unownF] using h,rfl,id⟩
    | succ i =>
     obtain ⟨c0,k1,k2,k3⟩:=h2 i c (by simpa [unownF] using h)
     exact ⟨c0,by simpa using k1,k2,k3⟩
   ·cases i with
    | zero=>simp [zc9]
    | succ i =>
     have:=h3 i c (by simpa [unownF] using h) ho (by simpa [zc9] using hx)
     simpa [zc9] using this
theorem zb4b (o:Bool):∀ (ds:List D) (us:List Value),us.length=ds.length→(layA o ds).length=ds.length∧∀ (i:Nat) (c:Cell),(layA o ds)[i]?=some c→∃ u,us[i]?=some u∧ds[i]?=some c.d∧(c.own=true→o=true∧i=zc9 ds∧∃ sz es,c.d=.list sz es∧zgh ds us=some (sz,es,u))
 | [],us,_=>⟨rfl,fun i c h=>by simp [layA] at h⟩
 | d :: ds,[],h=>by simp at h
 | d :: ds,u :: us,hl=>by
  obtain ⟨h1,h2⟩:=zb4b o ds us (by simpa using hl)
  cases d with
  | list sz es =>
   refine ⟨by simp [layA],fun i c h=>?_⟩
   cases i with
   | zero =>
    simp [layA] at h
    subst h
    exact ⟨u,rfl,rfl,fun ho=>⟨ho,rfl,sz,es,rfl,rfl⟩⟩
   | succ i =>
    simp [layA] at h
    obtain ⟨d',hd',rfl⟩:=h
    have hlt:=(List.getElem?_eq_some_iff.1 hd').1
    exact ⟨us[i]'(by simp at hl; omega),by simp,by simpa [Cell.of] using hd',fun ho=>by cases ho⟩
  | _ =>
   refine ⟨by simp [layA,h1],fun i c h=>?_⟩
   cases i with
   | zero =>
    simp [layA] at h
    subst h
    exact ⟨u,rfl,rfl,fun ho=>by cases ho⟩
   | succ i =>
    obtain ⟨x,k1,k2,k3⟩:=h2 i c (by simpa [layA] using h)
    refine ⟨x,by simpa using k1,by simpa using k2,fun ho=>?_⟩
    obtain ⟨q1,q2,sz,es,q3,q4⟩:=k3 ho
    exact ⟨q1,by simp [zc9,q2],sz,es,q3,by simpa [zgh] using q4⟩
section
variable [LoopKit] {P:Program} {ι:Imm} {j:Lay} {own:Own} {lb:Lay} {N:Nat} {e:Env} {a:Go.Act} {w:World} {σ:Store}
theorem zuj:∀ cs:List Cell,takeC cs 0 cs.length=some (cs.map fun c=>c.d)
 | []=>rfl
 | c :: cs=>by simp only [List.length_cons,takeC,zuj cs,bindO,zab,List.map_cons]
theorem zul {B:Nat} {mk:Nat→Tag} {cs:List Cell} (hb:zcl ι j own w B mk cs) {t:TypeId} {k:Nat} (hk:okK P t (some k)=true) (hlen:cs.length=k) :
  ∃ v,(loadVar t ⟨B,0,none⟩).run P w=.ok v w∧Rep ι j (.agg (cs.map fun c=>c.d)) v∧(firstOwn cs=true→Owned ι own w (mk (zc9 (cs.map fun c=>c.d))) (.agg (cs.map fun c=>c.d)) v):=by
 have hrc:zar cs (some k) 0=some ⟨false,.agg (cs.map fun c=>c.d)⟩:=by
  subst hlen
  simp only [zar,zuj cs,bindO,zab]
 obtain ⟨v,hv,hr,_,_⟩:=zdj hb hk hrc
 refine ⟨v,hv,hr,fun hf=>?_⟩
 obtain ⟨vs,T,h1,h2,h3⟩:=hb
 have hr':=hr
 simp only [Rep] at hr'
 obtain ⟨us,rfl,hus,hone⟩:=hr'
 -- what is read are the cells
 have hv2:us=vs.take cs.length:=by
  have hrun:=zeo (P:=P) (w:=w) hk B 0 (v:=.agg ⟨vs.take cs.length⟩) (fun i x hx=>by
   simp only [Value.cells,List.getElem?_toArray] at hx
   rw [cell_of_row w B _ _ _ _ h1]
   rw [List.getElem?_take] at hx
   split at hx
   ·simpa using hx
   ·cases hx) ⟨_,rfl,by simp; omega⟩
  rw [hv] at hrun
  simpa using hrun
 obtain ⟨sz,es,x,q1,q2,q3⟩:=zlz cs us (by rw [hv2]; simp; omega) hf
 obtain ⟨u,hu,_,hcr⟩:=h3 _ _ q1
 have hux:u=x:=by
  rw [hv2,List.getElem?_take] at q2
  split at q2
  ·rw [q2] at hu
   cases hu
   rfl
  ·cases q2
 subst hux
 have:=hcr.2 rfl
 unfold Owned at this ⊢
 have hp:prin (.agg (cs.map fun c=>c.d)) (.agg ⟨us⟩)=some (sz,es,u):=q3
 rw [hp]
 exact this
theorem zepb (hG:GSim ι j own σ w) (hL:LSim ι j own lb N e a w) {o:Oper} {t:TypeId} {x:Operand} {y:AOpd} {k b:Nat} {cs:List Cell} (ho:o.op=.load t x) (hk:okOpd x y=true) (hk1:okK P t (some k)=true) (hd:∀ s,o.dst=some s→s < N)
  (hp:addr e y=some (.loc b 0)) (h1:aget e.boxes b=some cs) (hlen:cs.length=k):Did P N ι j own w o a (Env.put {e with boxes:=aset e.boxes b (unownF cs)} o.dst ⟨firstOwn cs,.agg (cs.map fun c=>c.d)⟩) σ:=by
 obtain ⟨B,hB,hx⟩:=zca hL hk hp
 obtain ⟨B',hB',hown,hbox⟩:=hL.boxes b cs h1
 rw [hB] at hB'
 cases hB'
 obtain ⟨u,hu,hru,hO⟩:=zul hbox hk1 hlen
 have fin:(execOp a.eval o).run P w=.ok (.value u) w:=by
  simp only [execOp,ho,hx,Instr.loadAt,Instr.sureAddr,Sem.run_bind,Sem.run_pure,Result.andThen_ok,hu]
 have hL0:LSim ι j own lb N {e with boxes:=aset e.boxes b (unownF cs)} a w :=
  hL.sub (fun s c h=>⟨c,h,rfl,fun h=>h⟩) (fun _ _ h=>h) (fun s cs' h=>by
   simp only [zak] at h
   split at h
   ·rename_i hs; subst hs; cases h; exact ⟨cs,h1,(zik cs).1⟩
   ·exact ⟨cs',h,zbk.refl cs'⟩) rfl
 cases hds:o.dst with
 | none=>exact ⟨_,w,_,fin,.inl ⟨u,rfl,rfl⟩,ι,j,own,lb,hG,by rw [hds]; exact hL0,Evo.refl _ _ _ _ _⟩
 | some s =>
  cases how:firstOwn cs with
  | false=>exact ⟨_,w,_,fin,.inl ⟨u,rfl,rfl⟩,ι,j,own,lb,hG,by rw [hds]; exact hL0.putC (hd s hds) ⟨hru,fun h=>by cases h⟩,Evo.refl _ _ _ _ _⟩
  | true =>
   have hO:=hO how
   have hlist:∃ sz es,(cs.map fun c=>c.d)[zc9 (cs.map fun c=>c.d)]?=some (.list sz es):=by
    obtain ⟨vs,T,g1,g2,g3⟩:=hbox
    obtain ⟨sz,es,x,q1,_,_⟩:=zlz cs (vs.take cs.length) (by simp; omega) how
    exact ⟨sz,es,by rw [List.getElem?_map,q1]; rfl⟩
   obtain ⟨own',k1,k2,k3,k4⟩:=retag (t:=.cell b (zc9 (cs.map fun c=>c.d))) (t':=.slot s) rfl rfl hG hL0 (fun _ _ _ _ h=>by cases h) (fun s' cs' hs' i c' hi hc' heq=>by
    simp only [Tag.cell.injEq] at heq
    obtain ⟨rfl,rfl⟩:=heq
    simp only [zak,if_true,Option.some.injEq] at hs'
    subst hs'
    exact (zik cs).2 _ c' hi hc' hlist rfl) (fun _ _ _ _ _ _ _ h=>by cases h) hO
   exact ⟨_,w,_,fin,.inl ⟨_,rfl,rfl⟩,ι,j,own',lb,k1,by rw [hds]; exact zhe (hd s hds) (k2.forget s) ⟨hru,fun _=>k3⟩,k4.weaken fun _ _=>trivial⟩
theorem zoa:∀ (cs new:List Cell),new.length=cs.length→zan cs 0 new=new
 | [],[],_=>rfl
 | [],_ :: _,h=>by simp at h
 | _ :: _,[],h=>by simp at h
 | c :: cs,n :: new,h=>by
  simp only [zan,zoa cs new (by simpa using h)]
theorem zasb (hG:GSim ι j own σ w) (hL:LSim ι j own lb N e a w) {o:Oper} {t:TypeId} {x y:Operand} {x' y':AOpd} {k b:Nat} {c:Cell} {cs:List Cell} {ds:List D} (ho:o.op=.store t x y) (hd:∀ s,o.dst=some s→s < N)
  (hk:okOpd x x'=true) (hk1:okOpd y y'=true) (hsz:sizeB P t=some k) (hp:addr e x'=some (.loc b 0)) (hc:opd e y'=some c) (hcs:aget e.boxes b=some cs) (hds:c.d=.agg ds) (hl1:cs.length=k) (hl2:ds.length=k) :
  Did P N ι j own w o a (Env.put {y'.drop e with boxes:=aset e.boxes b (layA c.own ds)} o.dst ⟨false,.undef⟩) σ:=by
 obtain ⟨B,hB,hx⟩:=zca hL hk hp
 have hr:=zah hL hk1 hc
 obtain ⟨own1,hG1,hL1,hO,hE1⟩:=zf7 hG hL hk1 hc (t':=.cell b (zc9 ds)) rfl
 obtain ⟨_,hbx,_⟩:=zng (e:=e) y'
 obtain ⟨B',hB',hown,hbox⟩:=hL1.boxes b cs (by rw [hbx]; exact hcs)
 rw [hB] at hB'
 cases hB'
 rw [hds] at hr hO
 have hr':=hr
 simp only [Rep] at hr'
 obtain ⟨us,hus,hrep,hone⟩:=hr'
 have hcells:(a.eval y).cells.toList=us:=by rw [hus]; rfl
 have hlen:=hrep.length
 obtain ⟨l1,l2⟩:=zb4b c.own ds us hlen
 obtain ⟨cur,T,hcur,hfit,hnew⟩:=zin hbox (off:=0) (new:=layA c.own ds) (us:=(a.eval y).cells.toList) (by omega) (by rw [hcells,l1,hlen]) (fun i c' hi=>by
  obtain ⟨u,q1,q2,q3⟩:=l2 i c' hi
  obtain ⟨u',hu',hru⟩:=hrep.at i c'.d q2
  rw [q1] at hu'
  cases hu'
  refine ⟨u,by rw [hcells]; exact q1,hone u (List.mem_of_getElem? q1),hru,fun how w' hw'=>?_⟩
  obtain ⟨r1,r2,sz,es,r3,r4⟩:=q3 how
  have hOw:=hO r1
  subst r2
  rw [Nat.zero_add]
  refine zdq (by rw [hown]; intro h; cases h) hw' ?_
  rw [r3]
  unfold Owned at hOw ⊢
  have hpr:prin (.agg ds) (a.eval y)=some (sz,es,u):=by rw [hus]; exact r4
  rw [hpr] at hOw
  exact hOw) (fun i c' u hi how h w' hw'=>zdq (by rw [hown]; intro h; cases h) hw' h)
 rw [zoa cs _ (by omega)] at hnew
 have hvs:(a.eval y).cells.size=k:=by rw [← Array.length_toList,hcells,hlen,hl2]
 have hrun:=zfe (P:=P) hsz hcur (v:=a.eval y) hvs hfit (by rw [hcells]; exact hone)
 generalize hw':w.setRow B _=w' at hrun hnew
 have hE2:Evo ι j own1 w ι j own1 w' (fun u=>u=.box b):=hw' ▸ ziz hcur _ hown
 have hG2:GSim ι j own1 σ w':=by
  refine hG1.evo hE2 (fun b' o' v h=>?_) hG1.noimm (fun b' u h=>Nat.lt_of_lt_of_le (hG1.ownlt b' u h) hE2.size) hG1.jlt (fun id cs _=>⟨(fun h=>by cases h),(fun _ _ _ _ h=>by cases h)⟩) (fun _ _ _ h=>by cases h)
  have hne:b'≠B:=fun e=>by
   rw [e,hG1.noimm B _ hown rfl o'] at h
   cases h
  rw [← hw',cell_setRow_other w B _ _ hne]
  exact hG1.holds b' o' v h
 have hL2:LSim ι j own1 lb N {y'.drop e with boxes:=aset e.boxes b (layA c.own ds)} a w':=by
  have h0:LSim ι j own1 lb N {y'.drop e with boxes:=adel1 e.boxes b} a w :=
   hL1.sub (fun s c h=>⟨c,h,rfl,fun h=>h⟩) (fun _ _ h=>h) (fun s cs h=>by
    simp only [zam] at h
    split at h
    ·cases h
    ·exact ⟨cs,by rw [hbx]; exact h,zbk.refl cs⟩) rfl
  have h1:=(h0.evo hE2 (fun _ _ _ _ h=>by cases h) (fun s cs h=>⟨(fun e=>by
   cases e
   simp only [zam,if_true] at h
   cases h),(fun _ _ _ _ h=>by cases h)⟩)).addBox hB hown hnew
  refine h1.sub (fun s c h=>⟨c,h,rfl,fun h=>h⟩) (fun _ _ h=>h) (fun s cs h=>⟨cs,?_,zbk.refl cs⟩) rfl
  simp only [zak,zam] at h ⊢
  split
  ·rename_i hs; rw [if_pos hs] at h; exact h
  ·rename_i hs; rw [if_neg hs] at h; exact h
 refine ⟨.skip,w',_,?_,.inr (.inl ⟨rfl,rfl⟩),ι,j,own1,lb,hG2,?_,hE1.trans (hE2.weaken fun _ _=>trivial)⟩
 ·simp only [execOp,ho,hx,Instr.storeAt,Instr.sureAddr,Sem.run_bind,Sem.run_pure,Result.andThen_ok,hrun]
 ·cases hds:o.dst with
  | none=>exact hL2
  | some s=>exact hL2.putC (hd s hds) ⟨by simp only [Rep],fun h=>by cases h⟩
end
end Go.Mx

/- A part of the proof. -/
import Derived.Test.YtldfbnbckiifeaaGreatDoorMyOps4
import Derived.Laws.StructEq
set_option linter.all false
namespace Go.Mx
open Go
section
variable[kQ]{P:Program}{I:fU}{j:fJ}{own:gZ}{lb:fJ}{N:Nat}{e:Env}{a:Go.Act}{w:World}{O:Store}
theorem zah(s:List UInt8):(⟨⟨s⟩⟩:ByteArray).toList=s:=by rw[ByteArray.toList_eq]
theorem zu0{d:Nat}{t:TypeId}:∀(k:Nat)(_:GQ P t k=true)(a b:D)(_:SK k a=true)(_:SK k b=true)(x y:Value)(_:dL I j a x)(_:dL I j b y),(Op.equalIn (d+1) t x y).run P w=.ok (UA a b) w
 |0,hk,.int .i64 m,.int .i64 n,_,_,x,y,hx,hy=>by
  simp only[dL]at hx hy;subst hx hy;simp only[GQ]at hk;split at hk
  ·rename_i k' h;exact run_equalIn_int w d t .i64 k' m n h
  ·cases hk
 |1,hk,.str p,.str q,_,_,x,y,hx,hy=>by
  simp only[dL]at hx hy;subst hx hy;simp only[GQ,tY]at hk;split at hk
  ·rename_i h;rw[run_equalIn_string w d t _ _ h,zah,zah];rfl
  ·cases hk
 |2,hk,.bool p,.bool q,_,_,x,y,hx,hy=>by
  simp only[dL]at hx hy;subst hx hy;simp only[GQ,GH]at hk;split at hk
  ·rename_i h;exact run_equalIn_bool' w d t p q h
  ·cases hk
theorem zc8{k:Nat}{ks:List Nat}{az:List D}{i:Nat}(h:zH (k::ks) (az.drop i)=true):∃a,az.drop i=a::az.drop (i+1)/\Go.Mx.part none az i=some a/\SK k a=true/\zH ks (az.drop (i+1))=true:=by
 cases hd:az.drop i with
 |nil=>rw[hd]at h;simp[zH]at h
 |cons a r =>
  have hr:az.drop (i+1)=r:=by rw[<-List.drop_drop,hd];rfl
  have ha:az[i]?=some a:=by
   have:(az.drop i)[0]?=some a:=by rw[hd];rfl
   simpa using this
  rw[hd]at h;simp only[zH,aC]at h;exact⟨a,by rw[hr],by simp only[Go.Mx.part,Qe,ha],h.1,by rw[hr];exact h.2⟩
theorem zak{d:Nat}{az bs:List D}{xs ys:List Value}(hx:dV I j az xs)(hx1:∀v∈xs,v.oneCell'=true)(hy:dV I j bs ys)(hy1:∀v∈ys,v.oneCell'=true) :
  ∀(ks:List Nat)(i:Nat)(fs:List Field),G8 P ks i fs=true->zH ks (az.drop i)=true->zH ks (bs.drop i)=true->(Op.eqFields (d+1) ⟨xs⟩ ⟨ys⟩ fs).run P w=.ok (Qz (az.drop i) (bs.drop i)) w
 |[],i,fs,hf,ha,hb=>by
  cases fs with
  |cons f r=>simp[G8]at hf
  |nil =>
   have:az.drop i=[]:=by
    cases hd:az.drop i with
    |nil=>rfl
    |cons a r=>rw[hd]at ha;simp[zH]at ha
   rw[this,Op.eqFields];rfl
 |k::ks,i,fs,hf,ha,hb=>by
  cases fs with
  |nil=>simp[G8]at hf
  |cons f r =>
   simp only[G8,aC,bne_iff_ne,ne_eq,beq_iff_eq]at hf;obtain⟨⟨⟨⟨h1,h2⟩,h3⟩,h4⟩,h5⟩:=hf;obtain⟨p,p1,p2,p3,p4⟩:=zc8 ha;obtain⟨q,q1,q2,q3,q4⟩:=zc8 hb;obtain⟨u,u1,u2,_⟩:=NY (P:=P) (w:=w) hx hx1 h3 p2;obtain⟨v,v1,v2,_⟩:=NY (P:=P) (w:=w) hy hy1 h3 q2;have hE:=zu0 (P:=P) (w:=w) (d:=d) k h4 p q p3 q3 u v u2 v2;have ih:=zak (d:=d) hx hx1 hy hy1 ks (i+1) r h5 p4 q4;rw[p1,q1,Op.eqFields,if_pos h1];simp only[h2,Sem.run_bind,u1,v1,Result.andThen_ok,hE,Qz];cases UA p q with
   |false=>rfl
   |true =>simp only[bZ,aE,if_false,bX];exact ih
theorem zg9b(hL:eI I j own lb N e a w){o:Oper}{op:BinOp}{t u:TypeId}{ks:List Nat}{x y:Operand}{x' y':dS}(ho:o.op=.binOp op t x y u)(hk:dT x x'=true)(hk1:dT y y'=true)(ht:lh P t ks=true){v:Val}
  (h:eQ (.Yy op ks x' y') e O=some v):∃u,(execOp a.eval o).run P w=.ok (.value u) w/\iO I j lb v u:=by
 simp only[eQ]at h;obtain⟨c,h1,h⟩:=dJ h;obtain⟨c',h2,h⟩:=dJ h;obtain⟨az,h3,h⟩:=dJ h;obtain⟨bs,h4,h⟩:=dJ h;obtain⟨h5,h⟩:=gQ h;obtain⟨d,h6,h⟩:=dJ h;cases h;simp only[aC]at h5;obtain⟨xs,hx,hxl,hx1⟩:=OY h3 (gW hL hk h1);obtain⟨ys,hy,hyl,hy1⟩:=OY h4 (gW hL hk1 h2);unfold lh at ht;split at ht
 ·rename_i fs hu;simp only[aC,Bool.not_eq_true']at ht;obtain⟨⟨t1,t2⟩,t3⟩:=ht;have hfo:P.fieldsOf t=fs:=by unfold Program.fieldsOf;rw[hu]
  have hrun:(Op.equal t (.agg ⟨xs⟩) (.agg ⟨ys⟩)).run P w=.ok (Qz az bs) w:=(by show(Op.equalIn (9999+1) t _ _).run P w=_;rw[run_equalIn_struct w 9999 t ⟨xs⟩ ⟨ys⟩ (by rw[hfo];exact hu) t1,hfo];exact zak (d:=9998) hxl hx1 hyl hy1 ks 0 fs.toList t3 h5.1 h5.2);obtain⟨r,rfl,hr⟩:=D9' h6 (P:=P) (w:=w) (t:=t) (x:=.agg ⟨xs⟩) (y:=.agg ⟨ys⟩) (fun _ _ h=>by cases h) (fun _ _ h=>by cases h) (fun _ _ _ h=>by cases h) (fun _ h=>by cases h) hrun;refine⟨.bool r,?_,by simp only[iO,dL]⟩;simp only[execOp,ho,hx,hy,Sem.run_bind,run_eqGuard_agg w op t x y ⟨xs⟩ ⟨ys⟩ t2,Result.andThen_ok,hr,Sem.run_pure]
 ·cases ht
end
section
variable[kQ]{P:Program}{I:fU}{j:fJ}{own:gZ}{lb:fJ}{N:Nat}{e:Env}{a:Go.Act}{w:World}{O:Store}
theorem zb1{k:Option Nat}{mv:Bool}{x:dS}{v:Val}(h:eQ (.sC k mv x) e O=some v):eQ (.load k mv x) e O=some v:=by
 simp only[eQ]at h ⊢;obtain⟨p,hp,h⟩:=dJ h;rw[hp];simp only[dH,eP];cases p with
 |loc b off=>exact h
 |ptr id off=>cases h
 |gC d=>exact h
theorem zvs{b:Nat}{k:Option Nat}{x:dS}{v:Val}(h:eQ (.fY b k x) e O=some v):eQ (.load k false x) e O=some v:=by
 simp only[eQ]at h ⊢;obtain⟨p,hp,h⟩:=dJ h;rw[hp];simp only[dH,eP];cases p with
 |loc b' off =>obtain⟨hb,h⟩:=gQ h;simp only[beq_iff_eq]at hb;subst hb;simp only[Bool.false_and];exact h
 |ptr id off=>cases h
 |gC d=>cases h
theorem zvt{k:Option Nat}{x:dS}{v:Val}(h:eQ (.GR k x) e O=some v):eQ (.load k false x) e O=some v:=by
 simp only[eQ]at h ⊢;obtain⟨p,hp,h⟩:=dJ h;rw[hp];simp only[dH,eP];cases p with
 |loc b' off=>cases h
 |ptr id off=>cases h
 |gC d=>exact h
theorem zvv{k:Option Nat}{x:dS}{v:Val}(h:eQ (.jB k x) e O=some v):eQ (.load k false x) e O=some v:=by
 simp only[eQ]at h ⊢;obtain⟨p,hp,h⟩:=dJ h;rw[hp];simp only[dH,eP];cases p with
 |loc b' off=>cases h
 |ptr id off =>simp only[Bool.false_and];exact h
 |gC d=>cases h
theorem zvu{k:Option Nat}{x:dS}{v:Val}(h:eQ (.iT k x) e O=some v):eQ (.load k false x) e O=some v:=by
 simp only[eQ]at h ⊢;obtain⟨p,h1,h⟩:=dJ h;rw[h1];cases p with
 |loc b off=>cases h
 |ptr id off=>exact h
 |gC d=>exact h
theorem NG{t:TypeId}{sz:Nat}(h:(match nF P t with|some e=>jV P e==some sz|none=>false)=true):∃el,nF P t=some el/\jV P el=some sz:=by
 cases he:nF P t with
 |none=>rw[he]at h;cases h
 |some el=>rw[he]at h;exact⟨el,rfl,by simpa using h⟩
theorem D9{op:BinOp}{b:Bool}{d:D}(h:zX op b=some d){P:Program}{w:World}{t:TypeId}{x y:Value}(hi:∀k m,x≠.int k m)(hf:∀k m,x≠.float k m)(hc:∀k m n,x≠.complex k m n)(hs:∀m,x≠.string m)(he:(Op.equal t x y).run P w=.ok b w) :
  ∃r,d=.bool r/\(binOp op t x y).run P w=.ok (.bool r) w:=by
 cases op<;>simp only[zX,reduceCtorEq,aA]at h<;>subst h
 ·refine⟨b,rfl,?_⟩
  cases x<;>first
   |exact absurd rfl (hi _ _)
   |exact absurd rfl (hf _ _)
   |exact absurd rfl (hc _ _ _)
   |exact absurd rfl (hs _)
   |simp[binOp,he]
 ·refine⟨!b,rfl,?_⟩
  cases x<;>first
   |exact absurd rfl (hi _ _)
   |exact absurd rfl (hf _ _)
   |exact absurd rfl (hc _ _ _)
   |exact absurd rfl (hs _)
   |simp[binOp,he]
theorem BB(op:BinOp)(t:TypeId)(x:Operand)(z v:Value)(hz:z=.nilIface\/z=.pointer none):(eqGuard op t x (.const z) v z).run P w=.ok () w:=by unfold eqGuard;rcases hz with rfl|rfl<;>cases op<;>simp<;>cases v<;>simp
theorem zn0{t:TypeId}{ms:Array (String×TypeId)}(ht:P.underlying t=some (.interface ms))(tt:TypeId)(vv:Value):(Op.equal t (.iface tt vv) .nilIface).run P w=.ok false w:=by show(Op.equalIn (9999+1) t (.iface tt vv) .nilIface).run P w=_;rw[Op.equalIn];simp only[Sem.run_bind,run_underlying ht,Result.andThen_ok];rfl
theorem zoj{t:TypeId}{ms:Array (String×TypeId)}(ht:P.underlying t=some (.interface ms)):(Op.equal t .nilIface .nilIface).run P w=.ok true w:=by show(Op.equalIn (9999+1) t .nilIface .nilIface).run P w=_;rw[Op.equalIn];simp only[Sem.run_bind,run_underlying ht,Result.andThen_ok];rfl
theorem WB{t el:TypeId}(ht:P.underlying t=some (.pointer el))(ad:Option Addr):(Op.equal t (.pointer ad) (.pointer none)).run P w=.ok ad.isNone w:=by show(Op.equalIn (9999+1) t (.pointer ad) (.pointer none)).run P w=_;rw[Op.equalIn];simp only[Sem.run_bind,run_underlying ht,Result.andThen_ok];cases ad<;>rfl
theorem zz2(hL:eI I j own lb N e a w){o:Oper}{op:BinOp}{t u:TypeId}{x:Operand}{y:dS}(ho:o.op=.binOp op t x (.const .nilIface) u)(hk:dT x y=true)(ht:xG P t=some true){v:Val}
  (h:eQ (.isNil op y) e O=some v):∃u,(execOp a.eval o).run P w=.ok (.value u) w/\iO I j lb v u:=by
 have ht:∃ms,P.underlying t=some (.interface ms):=by
  unfold xG at ht;split at ht
  ·rename_i ms hm;exact⟨ms,hm⟩
  ·simp at ht
  ·cases ht
 obtain⟨ms,ht⟩:=ht;simp only[eQ]at h;obtain⟨c,h1,h⟩:=dJ h;obtain⟨b,h2,h⟩:=dJ h;obtain⟨d,h3,h⟩:=dJ h;cases h;have hr:=gW hL hk h1;have hz:a.eval (.const .nilIface)=.nilIface:=rfl;have key:∀xv,a.eval x=xv->(Op.equal t xv .nilIface).run P w=.ok b w->(xv=.nilIface\/∃tt vv,xv=.iface tt vv)->∃u,(execOp a.eval o).run P w=.ok (.value u) w/\iO I j lb (.c ⟨false,d⟩) u:=by
  intro xv hx he hform;obtain⟨r,rfl,hb⟩:=D9 (t:=t) (x:=xv) (y:=.nilIface) h3 (by rcases hform with rfl|⟨_,_,rfl⟩<;>simp) (by rcases hform with rfl|⟨_,_,rfl⟩<;>simp) (by rcases hform with rfl|⟨_,_,rfl⟩<;>simp) (by rcases hform with rfl|⟨_,_,rfl⟩<;>simp) he;refine⟨.bool r,?_,by simp only[iO,dL]⟩;simp only[execOp,ho,hz,hx,Sem.run_bind,BB op t x .nilIface xv (.inl rfl),Result.andThen_ok,hb,Sem.run_pure]
 cases hd:c.d<;>rw[hd]at h2 hr<;>simp only[D.OZ,reduceCtorEq,aA]at h2<;>subst h2<;>simp only[dL]at hr
 ·obtain⟨xv,hx,_⟩:=hr;exact key _ hx (zn0 ht _ _) (.inr ⟨_,_,rfl⟩)
 ·exact key _ hr (zoj ht) (.inl rfl)
theorem zw5(hL:eI I j own lb N e a w){o:Oper}{op:BinOp}{t u:TypeId}{x:Operand}{y:dS}(ho:o.op=.binOp op t x (.const (.pointer none)) u)(hk:dT x y=true)(ht:um P t=true){v:Val}
  (h:eQ (.ES op y) e O=some v):∃u,(execOp a.eval o).run P w=.ok (.value u) w/\iO I j lb v u:=by
 have ht:∃el,P.underlying t=some (.pointer el):=by
  unfold um at ht;split at ht
  ·rename_i ms hm;exact⟨ms,hm⟩
  ·cases ht
 obtain⟨el,ht⟩:=ht;simp only[eQ]at h;obtain⟨c,h1,h⟩:=dJ h;obtain⟨b,h2,h⟩:=dJ h;obtain⟨d,h3,h⟩:=dJ h;cases h;have hr:=gW hL hk h1;have hz:a.eval (.const (.pointer none))=.pointer none:=rfl;have key:∀ad,a.eval x=.pointer ad->(Op.equal t (.pointer ad) (.pointer none)).run P w=.ok b w->∃u,(execOp a.eval o).run P w=.ok (.value u) w/\iO I j lb (.c ⟨false,d⟩) u:=by
  intro ad hx he;obtain⟨r,rfl,hb⟩:=D9 (t:=t) (x:=.pointer ad) (y:=.pointer none) h3 (by simp) (by simp) (by simp) (by simp) he;refine⟨.bool r,?_,by simp only[iO,dL]⟩;simp only[execOp,ho,hz,hx,Sem.run_bind,BB op t x (.pointer none) (.pointer ad) (.inr rfl),Result.andThen_ok,hb,Sem.run_pure]
 cases hd:c.d<;>rw[hd]at h2 hr<;>simp only[D.EB,reduceCtorEq,aA]at h2<;>subst h2<;>simp only[dL]at hr
 ·exact key _ hr (WB ht _)
 ·obtain⟨b',_,hx⟩:=hr;exact key _ hx (WB ht _)
 ·obtain⟨b',o',xv,hx,_⟩:=hr;exact key _ hx (WB ht _)
theorem ztu(hL:eI I j own lb N e a w){o:Oper}{t u:TypeId}{x:Operand}{y:dS}{z:D}{zv:Value}(ho:o.op=.typeAssert x u t true)(hk:dT x y=true)(ht:xG P t=some false)(hz:(P.info? t).bind (·.zero)=some zv)(As:oK z zv=true){v:Val}
  (h:eQ (.DN t z y) e O=some v):∃u,(execOp a.eval o).run P w=.ok (.value u) w/\iO I j lb v u:=by
 have ht:∃d,P.underlying t=some d/\∀m,d≠.interface m:=by
  cases hd:P.underlying t with
  |none=>unfold xG at ht;rw[hd]at ht;cases ht
  |some d =>refine⟨d,rfl,fun m e=>?_⟩;subst e;unfold xG at ht;rw[hd]at ht;simp at ht
 obtain⟨td,hu,hni⟩:=ht;have hzv:(zeroValue t).run P w=.ok zv w:=by
  obtain⟨i,hi,hz⟩:=Option.bind_eq_some_iff.1 hz;simp[zeroValue,typeInfo,hi,hz]
 simp only[eQ]at h;obtain⟨c,h1,h⟩:=dJ h;obtain⟨d,h2,h⟩:=dJ h;cases h;have hr:=gW hL hk h1;have Qo:=BD (I:=I) (j:=j) z zv As;have fin:∀xv r,a.eval x=xv->(Instr.typeAssert xv u t true).run P w=.ok r w->dL I j d r->∃u,(execOp a.eval o).run P w=.ok (.value u) w/\iO I j lb (.c ⟨false,d⟩) u:=by
  intro xv r hx hrun hrep;exact⟨r,by simp only[execOp,ho,hx,Sem.run_bind,hrun,Result.andThen_ok,Sem.run_pure],hrep⟩
 cases hd:c.d with
 |iface t' dd =>
  rw[hd]at h2 hr;simp only[Wg,aA]at h2;subst h2;simp only[dL]at hr;obtain⟨xv,hx,hxr⟩:=hr;by_cases yh:t'=t
  ·subst yh;refine fin _ (.tuple #[xv,.bool true]) hx ?_ ?_
   ·simp only[Instr.typeAssert,Sem.run_bind,run_underlying hu,Result.andThen_ok];cases td<;>first|exact absurd rfl (hni _)|rfl|simp
   ·simp[dL,dV,dK,hxr]
  ·have hb:(t'==t)=false:=by simpa using yh
   refine fin _ (.tuple #[zv,.bool false]) hx ?_ ?_
   ·simp only[Instr.typeAssert,Sem.run_bind,run_underlying hu,Result.andThen_ok];cases td<;>first|exact absurd rfl (hni _)|(simp[yh,hzv])
   ·simp[dL,dV,dK,hb,Qo]
 |rY =>
  rw[hd]at h2 hr;simp only[Wg,aA]at h2;subst h2;simp only[dL]at hr;refine fin _ (.tuple #[zv,.bool false]) hr ?_ ?_
  ·simp only[Instr.typeAssert,Sem.run_bind,run_underlying hu,Result.andThen_ok];cases td<;>first|exact absurd rfl (hni _)|(simp[hzv])
  ·simp[dL,dV,Qo]
 |_=>rw[hd]at h2;simp[Wg]at h2
theorem zay(hG:eH I j own O w)(hL:eI I j own lb N e a w){o:Oper}{o':iR}(hk:qJ P o.op o'=true){v:Val}(h:eQ o' e O=some v) :
  ∃u,(execOp a.eval o).run P w=.ok (.value u) w/\iO I j lb v u:=by
 generalize ho:o.op=op at hk;unfold qJ at hk;split at hk<;>try simp only[aC,beq_iff_eq,aE]at hk
 ·exact zfn hL (.inl ho) hk h
 ·exact zfn hL (.inr ho) hk h
 ·exact zdgb hL ho hk.1.1 hk.1.2 hk.2 h
 ·split at hk
  ·rename_i h1 h2;simp only[aC]at hk;exact zzz hL ho h1 hk.1.1 h2 hk.2 hk.1.2 h
  ·cases hk
 ·exact Wb hG hL ho hk.1 hk.2 h
 ·exact Wb hG hL ho hk.1 hk.2 (zb1 h)
 ·exact Wb hG hL ho hk.1 hk.2 (zvs h)
 ·exact Wb hG hL ho hk.1 hk.2 (zvt h)
 ·exact Wb hG hL ho hk.1 hk.2 (zvv h)
 ·exact Wb hG hL ho hk.1 hk.2 (zvu h)
 ·exact zq6 hL ho hk h
 ·have:=of_decide_eq_true hk.1.1;subst this;exact zg8b hL ho hk.1.2 hk.2 h
 ·have:=of_decide_eq_true hk.1.1.1;subst this;exact zddb hL ho hk.1.1.2 hk.1.2 hk.2 h
 ·have:=of_decide_eq_true hk.1.1;subst this;exact zz2 hL ho hk.1.2 hk.2 h
 ·have:=of_decide_eq_true hk.1.1;subst this;exact zw5 hL ho hk.1.2 hk.2 h
 ·obtain⟨⟨⟨rfl,h1⟩,h2⟩,h3⟩:=hk;split at h3
  ·rename_i zv hzv;exact ztu hL ho h1 h2 hzv h3 h
  ·cases h3
 ·have:=of_decide_eq_true hk.1;subst this;exact zj6b hL ho hk.2 h
 ·exact zz4 hL ho hk.1.1 hk.2 hk.1.2 h
 ·exact zz5 hL ho hk.1.1 hk.2 hk.1.2 h
 ·obtain⟨⟨h1,h2⟩,h3⟩:=hk;split at h3
  ·rename_i k hk;exact ztx hL ho h1 hk (Qa h2) h
  ·cases h3
 ·obtain⟨⟨h1,h2⟩,h3⟩:=hk;split at h3
  ·rename_i el hel;have hi:P.underlying el=some (.int .u8):=by
    unfold Ez at h3;split at h3
    ·rename_i k hk;have:k=.u8:=by simpa using h3
     rw[hk,this]
    ·simp at h3
   exact zok hG hL ho h1 (uF hel) hi (Qa h2) h
  ·cases h3
 ·obtain⟨⟨rfl,h1⟩,h2⟩:=hk;exact ztw hL ho h1 h2 h
 ·rename_i f az bs f' az' bs';cases f with
  |func g =>
   cases f' with
   |func g' =>have:=hk.1.1;simp only[PL,beq_iff_eq]at this;subst this;exact zw8 hL ho hk.1.2 hk.2 h
   |_=>have:=hk.1.1;simp[PL]at this
  |_=>have:=hk.1.1;cases f'<;>simp[PL]at this
 ·obtain⟨el,h1,h2⟩:=NG hk.2;exact zz3 hL ho hk.1.1.1 hk.1.1.2 hk.1.2 (uF h1) h2 h
 ·have:=of_decide_eq_true hk.1.1;subst this;exact zw6 hL ho hk.1.2 hk.2 h
 ·have:=of_decide_eq_true hk.1.1;subst this;exact zw4 hL ho hk.1.2 hk.2 h
 ·obtain⟨⟨⟨h1,h2⟩,rfl⟩,h3⟩:=hk;split at h3
  ·rename_i kt el hm;simp only[aC]at h3;obtain⟨h3,h4⟩:=h3;split at h4
   ·rename_i zv hz;exact zw7 hG hL ho h1 h2 hm h3 hz h4 h
   ·cases h4
  ·cases h3
 ·exact zdeb hG hL ho hk.1 hk.2 h
 ·exact zih (mx:=false) hL ho hk.1 hk.2 h
 ·exact zih (mx:=true) hL ho hk.1 hk.2 h
 ·exact zw9 hL ho hk.1.1.1 hk.1.1.2 hk.1.2 (Qa hk.2) h
 ·obtain⟨h1,h2⟩:=hk;split at h2
  ·rename_i hf;split at h2
   ·rename_i hi;simp only[aC,beq_iff_eq,bne_iff_ne,ne_eq]at h2;exact zpm hL ho h1 hf hi h2.1.1 h2.1.2 h2.2 h
   ·cases h2
  ·cases h2
 ·obtain⟨h1,h2⟩:=hk;split at h2
  ·rename_i hf;split at h2
   ·rename_i hi;simp only[aC,beq_iff_eq]at h2;exact zz0 hL ho h1 hf hi h2.1 h2.2 h
   ·cases h2
  ·cases h2
 ·obtain⟨el,h1,h2⟩:=NG hk.2;exact zpn hL ho hk.1.1 hk.1.2 (uF h1) h2 h
 ·exact zz1 hL ho hk.1.1 hk.1.2 hk.2 h
 ·obtain⟨h1,rfl⟩:=hk;exact ztv hL ho h1 h
 ·exact zhab hL ho hk.1 hk.2 h
 ·exact zdfb hL ho hk.1 hk.2 h
 ·have:=of_decide_eq_true hk.1.1.1;subst this;exact zg9b hL ho hk.1.1.2 hk.1.2 hk.2 h
def Val.owns:Val->Bool
 |.c x=>x.own
 |.l _ _=>false
def G9:iR->Bool
 |.dO _=>false
 |.load _ mv _=>!mv
 |.sC _ mv _=>!mv
 |_=>true
theorem zza:∀(o':iR){v:Val},G9 o'=true->eQ o' e O=some v->v.owns=false/\sW o' e=e/\uE o' e O=O:=by
 intro o' v hp h;refine⟨?_,?_⟩
 ·cases o'<;>simp only[G9,aE,Bool.not_eq_true']at hp<;>simp only[eQ,dH,iW,dK,hp,Bool.false_and,reduceCtorEq]at h <;>
   (repeat' split at h)<;>first|(cases h;rfl)|cases h
 ·cases o'<;>simp only[G9,aE,Bool.not_eq_true']at hp<;>first|exact⟨rfl,rfl⟩|(subst hp;exact⟨rfl,rfl⟩)
theorem eI.EW(hL:eI I j own lb N e a w){d:Option Nat}(hd:∀s,d=some s->s<N){v:Val}{u:Value}(hv:iO I j lb v u)(ho:v.owns=false):eI I j own lb N (e.pR d v) (a.put d u) w:=by
 cases d with
 |none=>cases v<;>exact hL
 |some s =>
  cases v with
  |c c =>have ho:c.own=false:=ho;exact hL.qV (hd s rfl) ⟨hv,fun h=>by rw[ho]at h;cases h⟩
  |l b off =>obtain⟨B,hB,rfl⟩:=hv;exact hL.putL (hd s rfl) hB
theorem zws(hG:eH I j own O w)(hL:eI I j own lb N e a w){o:Oper}{o':iR}(hk:qJ P o.op o'=true)(hd:∀s,o.dst=some s->s<N)(hp:G9 o'=true){v:Val}(h:eQ o' e O=some v) :
  jF P N I j own w o a ((sW o' e).pR o.dst v) (uE o' e O):=by
 obtain⟨u,hrun,hv⟩:=zay hG hL hk h;obtain⟨h1,h2,h3⟩:=zza o' hp h;rw[h2,h3];exact⟨_,w,_,hrun,.inl ⟨u,rfl,rfl⟩,I,j,own,lb,hG,hL.EW hd hv h1,fD.refl _ _ _ _ _⟩
theorem zc6b(hG:eH I j own O w)(hL:eI I j own lb N e a w){o:Oper}{y:dS}(hk:qJ P o.op (.dO y)=true)(hd:∀s,o.dst=some s->s<N){v:Val}(h:eQ (.dO y) e O=some v) :
  jF P N I j own w o a ((y.drop e).pR o.dst v) O:=by
 obtain⟨u,hrun,hv⟩:=zay hG hL hk h;simp only[eQ]at h;obtain⟨c,h1,h⟩:=dJ h;cases h;cases how:c.own with
 |false=>exact⟨_,w,_,hrun,.inl ⟨u,rfl,rfl⟩,I,j,own,lb,hG,(hL.drop y).EW hd hv how,fD.refl _ _ _ _ _⟩
 |true =>
  have hu:∃x,dT x y=true/\u=a.eval x:=by
   generalize ho:o.op=op at hk
   cases op<;>first
    |(rename_i x;refine⟨x,hk,?_⟩;simp only[execOp,ho,Sem.run_pure]at hrun;cases hrun;rfl)
    |(simp[qJ]at hk)
  obtain⟨x,hx,rfl⟩:=hu;cases hds:o.dst with
  |none=>exact⟨_,w,_,hrun,.inl ⟨_,rfl,rfl⟩,I,j,own,lb,hG,by rw[hds];exact hL.drop y,fD.refl _ _ _ _ _⟩
  |some s =>obtain⟨own',k1,k2,k3,k4⟩:=A9 hG hL hx h1 (t':=.slot s) rfl;exact⟨_,w,_,hrun,.inl ⟨_,rfl,rfl⟩,I,j,own',lb,k1,by rw[hds];exact Wp (hd s hds) (k2.forget s) ⟨hv,fun h=>k3 h⟩,k4⟩
theorem BM:∀(cs:List Cell)(o:Nat),(qQ cs o).length=cs.length/\∀(i:Nat)(c:Cell),(qQ cs o)[i]?=some c->∃c0,cs[i]?=some c0/\c0.d=c.d/\(c.own=true->c0.own=true/\i≠o)
 |[],o=>by
  refine⟨by cases o<;>rfl,fun i c h=>?_⟩;cases o<;>simp[qQ]at h
 |c0::cs,0=>by
  refine⟨by simp[qQ],fun i c h=>?_⟩;cases i with
  |zero =>simp[qQ]at h;subst h;exact⟨c0,rfl,rfl,fun h=>by cases h⟩
  |succ i =>simp[qQ]at h;exact⟨c,by simpa using h,rfl,fun h=>⟨h,by omega⟩⟩
 |c0::cs,o+1=>by
  obtain⟨h1,h2⟩:=BM cs o;refine⟨by simp[qQ,h1],fun i c h=>?_⟩;cases i with
  |zero =>simp[qQ]at h;subst h;exact⟨c0,rfl,rfl,fun h=>⟨h,by omega⟩⟩
  |succ i =>simp[qQ]at h;obtain⟨c1,k1,k2,k3⟩:=h2 i c h;exact⟨c1,by simpa using k1,k2,fun h=>⟨(k3 h).1,by have:=(k3 h).2;omega⟩⟩
theorem zo(cs:List Cell)(o:Nat):pL (qQ cs o) cs :=
 ⟨(BM cs o).1,fun i c h=>by
  obtain⟨c0,k1,k2,k3⟩:=(BM cs o).2 i c h;exact⟨c0,k1,k2,fun h=>(k3 h).1⟩⟩
theorem eH.sub{O':Store}(hG:eH I j own O w)(h1:∀id cs,dC O'.dE id=some cs->∃cs0,dC O.dE id=some cs0/\pL cs cs0)(h2:O.next<=O'.next)(h3:∀id t,dC O'.fH id=some t->dC O.fH id=some t)(h4:∀id x,dC O'.dP id=some x->dC O.dP id=some x):eH I j own O' w where
 holds:=hG.holds
 kS:=hG.kS
 dE:=fun id cs h=>by
  obtain⟨cs0,k1,k2⟩:=h1 id cs h;obtain⟨b,q1,q2,q3⟩:=hG.dE id cs0 k1;exact⟨b,q1,q2,q3.weaken k2⟩
 fH:=fun id t cs k1 k2 b hb=>by
  obtain⟨cs0,q1,_⟩:=h1 id cs k2;exact hG.fH id t cs0 (h3 id t k1) q1 b hb
 dP:=fun id x k=>hG.dP id x (h4 id _ k)
 mG:=fun id b h=>aP (hG.mG id b h) h2
 jU:=hG.jU
theorem zbg(hG:eH I j own O w)(hL:eI I j own lb N e a w){o:Oper}{t:TypeId}{x:Operand}{y:dS}{k:Option Nat}(ho:o.op=.load t x)(hk:dT x y=true)(hk1:oR P t k=true)(hd:∀s,o.dst=some s->s<N){v:Val}
  (h:eQ (.load k true y) e O=some v):jF P N I j own w o a ((sW (.load k true y) e).pR o.dst v) (uE (.load k true y) e O):=by
 have fin:∀{b off:Nat}{u:Value},a.eval x=.pointer (some ⟨b,off,none⟩)->(loadVar t ⟨b,off,none⟩).run P w=.ok u w->(execOp a.eval o).run P w=.ok (.value u) w:=(by intro b off u h1 h2;simp only[execOp,ho,h1,Instr.loadAt,Instr.sureAddr,Sem.run_bind,Sem.run_pure,Result.andThen_ok,h2]);have hval:=Wb hG hL ho hk hk1 h;simp only[eQ]at h;obtain⟨p,hp,h⟩:=dJ h;have hr:=Be hL hk hp;cases p with
 |loc b off =>
  obtain⟨B,hB,hx⟩:=hr;obtain⟨cs,h1,h⟩:=dJ h;obtain⟨c,h2,h⟩:=dJ h;cases h;obtain⟨B',hB',hown,oD⟩:=hL.boxes b cs h1;rw[hB]at hB';cases hB';obtain⟨u,hu,nU,q1,q2⟩:=Vg oD hk1 h2;have hdr:sW (.load k true y) e={e with boxes:=fF e.boxes b (qQ cs off)}:=by
   simp only[sW,hp,eP,h1]
  have JN:uE (.load k true y) e O=O:=by simp only[uE,hp,eP]
  rw[hdr,JN];have hL0:eI I j own lb N {e with boxes:=fF e.boxes b (qQ cs off)} a w :=
   hL.sub (fun s c h=>⟨c,h,rfl,fun h=>h⟩) (fun _ _ h=>h) (fun s cs' h=>by
    simp only[jM]at h;split at h
    ·rename_i hs;subst hs;cases h;exact⟨cs,h1,zo cs off⟩
    ·exact⟨cs',h,pL.refl cs'⟩) rfl
  cases how:c.own with
  |false=>exact⟨_,w,_,fin hx hu,.inl ⟨u,rfl,rfl⟩,I,j,own,lb,hG,hL0.EW hd (v:=.c ⟨true&&false,c.d⟩) nU rfl,fD.refl _ _ _ _ _⟩
  |true =>
   cases k with
   |some n=>rw[q2 (by simp)]at how;cases how
   |none =>
    obtain⟨hat,_,hcr⟩:=q1 rfl;have hO:=hcr.2 how;cases hds:o.dst with
    |none=>exact⟨_,w,_,fin hx hu,.inl ⟨_,rfl,rfl⟩,I,j,own,lb,hG,by rw[hds];exact hL0,fD.refl _ _ _ _ _⟩
    |some s =>
     obtain⟨own',k1,k2,k3,k4⟩:=TY (t:=.cell b off) (t':=.slot s) rfl rfl hG hL0 (fun _ _ _ _ h=>by cases h) (fun s' cs' hs' i c' hi hc' heq=>by
      cases heq;simp only[jM,if_true,aA]at hs';subst hs';obtain⟨c0,_,_,q⟩:=(BM cs off).2 off c' hi;exact(q hc').2 rfl) (fun _ _ _ _ _ _ _ h=>by cases h) hO
     exact⟨_,w,_,fin hx hu,.inl ⟨_,rfl,rfl⟩,I,j,own',lb,k1,by rw[hds];exact Wp (hd s hds) (k2.forget s) ⟨nU,fun _=>k3⟩,k4.weaken fun _ _=>trivial⟩
 |ptr id off =>
  obtain⟨B,hB,hx⟩:=hr;obtain⟨cs,h1,h⟩:=dJ h;obtain⟨c,h2,h⟩:=dJ h;cases h;obtain⟨B',hB',hown,oD⟩:=hG.dE id cs h1;rw[hB]at hB';cases hB';obtain⟨u,hu,nU,q1,q2⟩:=Vg oD hk1 h2;have hdr:sW (.load k true y) e=e:=by simp only[sW,hp,eP]
  have JN:uE (.load k true y) e O={O with dE:=fF O.dE id (qQ cs off)}:=by simp only[uE,hp,eP,h1]
  rw[hdr,JN];have hG0:eH I j own {O with dE:=fF O.dE id (qQ cs off)} w :=
   hG.sub (fun id' cs' h=>by
    simp only[jM]at h;split at h
    ·rename_i hs;subst hs;cases h;exact⟨cs,h1,zo cs off⟩
    ·exact⟨cs',h,pL.refl cs'⟩) (aM _) (fun _ _ h=>h) (fun _ _ h=>h)
  cases how:c.own with
  |false=>exact⟨_,w,_,fin hx hu,.inl ⟨u,rfl,rfl⟩,I,j,own,lb,hG0,hL.EW hd (v:=.c ⟨true&&false,c.d⟩) nU rfl,fD.refl _ _ _ _ _⟩
  |true =>
   cases k with
   |some n=>rw[q2 (by simp)]at how;cases how
   |none =>
    obtain⟨hat,_,hcr⟩:=q1 rfl;have hO:=hcr.2 how;cases hds:o.dst with
    |none=>exact⟨_,w,_,fin hx hu,.inl ⟨_,rfl,rfl⟩,I,j,own,lb,hG0,by rw[hds];exact hL,fD.refl _ _ _ _ _⟩
    |some s =>
     obtain⟨own',k1,k2,k3,k4⟩:=TY (t:=.uV id off) (t':=.slot s) rfl rfl hG0 hL (fun _ _ _ _ h=>by cases h) (fun _ _ _ _ _ _ _ h=>by cases h) (fun id' cs' hs' i c' hi hc' heq=>by
      cases heq;simp only[jM,if_true,aA]at hs';subst hs';obtain⟨c0,_,_,q⟩:=(BM cs off).2 off c' hi;exact(q hc').2 rfl) hO
     exact⟨_,w,_,fin hx hu,.inl ⟨_,rfl,rfl⟩,I,j,own',lb,k1,by rw[hds];exact Wp (hd s hds) (k2.forget s) ⟨nU,fun _=>k3⟩,k4.weaken fun _ _=>trivial⟩
 |gC d =>
  have hdr:sW (.load k true y) e=e:=by simp only[sW,hp,eP]
  have JN:uE (.load k true y) e O=O:=by simp only[uE,hp,eP]
  rw[hdr,JN];obtain⟨u,hrun,hv⟩:=hval;refine⟨_,w,_,hrun,.inl ⟨u,rfl,rfl⟩,I,j,own,lb,hG,hL.EW hd hv ?_,fD.refl _ _ _ _ _⟩;cases k with
  |none =>obtain⟨_,h⟩:=gQ h;cases h;rfl
  |some n =>obtain⟨cs,_,h⟩:=dJ h;obtain⟨_,h⟩:=gQ h;cases h;rfl
end
def uQ:List D->Nat
 |.list _ _::_=>0
 |_::r=>uQ r+1
 |[]=>0
theorem XD:∀(cs:List Cell)(vs:List Value),vs.length=cs.length->sG cs=true->∃sz es x,cs[uQ (cs.map fun c=>c.d)]?=some ⟨true,.list sz es⟩/\vs[uQ (cs.map fun c=>c.d)]?=some x/\u6 (cs.map fun c=>c.d) vs=some (sz,es,x)
 |[],_,_,h=>by cases h
 |c::cs,[],h,_=>by simp at h
 |⟨o,d⟩::cs,v::vs,hl,h=>by
  cases d with
  |list sz es =>simp only[sG]at h;subst h;exact⟨sz,es,v,rfl,rfl,rfl⟩
  |_ =>simp only[sG]at h;obtain⟨sz,es,x,h1,h2,h3⟩:=XD cs vs (by simpa using hl) h;exact⟨sz,es,x,by simpa[uQ]using h1,by simpa[uQ]using h2,by simpa[u6]using h3⟩
theorem WE:∀cs:List Cell,pL (qA cs) cs/\∀(i:Nat)(c:Cell),(qA cs)[i]?=some c->c.own=true->(∃sz es,(cs.map fun c=>c.d)[uQ (cs.map fun c=>c.d)]?=some (.list sz es))->i≠uQ (cs.map fun c=>c.d)
 |[]=>⟨pL.refl _,fun i c h=>by simp[qA]at h⟩
 |⟨o,d⟩::cs=>by
  obtain⟨⟨h1,h2⟩,h3⟩:=WE cs;cases d with
  |list sz es =>
   refine⟨⟨by simp[qA],fun i c h=>?_⟩,fun i c h ho _=>?_⟩
   ·cases i with
    |zero =>simp[qA]at h;subst h;exact⟨_,rfl,rfl,fun h=>by cases h⟩
    |succ i=>exact⟨c,by simpa[qA]using h,rfl,id⟩
   ·cases i with
    |zero =>simp[qA]at h;subst h;cases ho
    |succ i=>simp[uQ]
  |_ =>
   refine⟨⟨by simp[qA,h1],fun i c h=>?_⟩,fun i c h ho hx=>?_⟩
   ·cases i with
    |zero=>exact⟨c,by simpa[qA]using h,rfl,id⟩
    |succ i =>obtain⟨c0,k1,k2,k3⟩:=h2 i c (by simpa[qA]using h);exact⟨c0,by simpa using k1,k2,k3⟩
   ·cases i with
    |zero=>simp[uQ]
    |succ i =>have:=h3 i c (by simpa[qA]using h) ho (by simpa[uQ]using hx);simpa[uQ]using this
theorem zgr(o:Bool):∀(ds:List D)(us:List Value),us.length=ds.length->(qD o ds).length=ds.length/\∀(i:Nat)(c:Cell),(qD o ds)[i]?=some c->∃u,us[i]?=some u/\ds[i]?=some c.d/\(c.own=true->o=true/\i=uQ ds/\∃sz es,c.d=.list sz es/\u6 ds us=some (sz,es,u))
 |[],us,_=>⟨rfl,fun i c h=>by simp[qD]at h⟩
 |d::ds,[],h=>by simp at h
 |d::ds,u::us,hl=>by
  obtain⟨h1,h2⟩:=zgr o ds us (by simpa using hl);cases d with
  |list sz es =>
   refine⟨by simp[qD],fun i c h=>?_⟩;cases i with
   |zero =>simp[qD]at h;subst h;exact⟨u,rfl,rfl,fun ho=>⟨ho,rfl,sz,es,rfl,rfl⟩⟩
   |succ i =>simp[qD]at h;obtain⟨d',hd',rfl⟩:=h;have hlt:=(List.getElem?_eq_some_iff.1 hd').1;exact⟨us[i]'(by simp at hl;omega),by simp,by simpa[Cell.of]using hd',fun ho=>by cases ho⟩
  |_ =>
   refine⟨by simp[qD,h1],fun i c h=>?_⟩;cases i with
   |zero =>simp[qD]at h;subst h;exact⟨u,rfl,rfl,fun ho=>by cases ho⟩
   |succ i =>obtain⟨x,k1,k2,k3⟩:=h2 i c (by simpa[qD]using h);refine⟨x,by simpa using k1,by simpa using k2,fun ho=>?_⟩;obtain⟨q1,q2,sz,es,q3,q4⟩:=k3 ho;exact⟨q1,by simp[uQ,q2],sz,es,q3,by simpa[u6]using q4⟩
section
variable[kQ]{P:Program}{I:fU}{j:fJ}{own:gZ}{lb:fJ}{N:Nat}{e:Env}{a:Go.Act}{w:World}{O:Store}
theorem CG:∀cs:List Cell,pO cs 0 cs.length=some (cs.map fun c=>c.d)
 |[]=>rfl
 |c::cs=>by simp only[aG,pO,CG cs,dH,eP,aO]
theorem zdx{B:Nat}{mk:Nat->Tag}{cs:List Cell}(hb:sJ I j own w B mk cs){t:TypeId}{k:Nat}(hk:oR P t (some k)=true)(hlen:cs.length=k) :
  ∃v,(loadVar t ⟨B,0,none⟩).run P w=.ok v w/\dL I j (.agg (cs.map fun c=>c.d)) v/\(sG cs=true->mD I own w (mk (uQ (cs.map fun c=>c.d))) (.agg (cs.map fun c=>c.d)) v):=by
 have hrc:oS cs (some k) 0=some ⟨false,.agg (cs.map fun c=>c.d)⟩:=(by subst hlen;simp only[oS,CG cs,dH,eP]);obtain⟨v,hv,hr,_,_⟩:=Vg hb hk hrc;refine⟨v,hv,hr,fun hf=>?_⟩;obtain⟨vs,T,h1,h2,h3⟩:=hb;have hr':=hr;simp only[dL]at hr';obtain⟨us,rfl,sR,hone⟩:=hr';have hv2:us=vs.take cs.length:=by
  have hrun:=AX (P:=P) (w:=w) hk B 0 (v:=.agg ⟨vs.take cs.length⟩) (fun i x hx=>by
   simp only[Value.cells,List.getElem?_toArray]at hx;rw[cell_of_row w B _ _ _ _ h1];rw[List.getElem?_take]at hx;split at hx
   ·simpa using hx
   ·cases hx) ⟨_,rfl,by simp;omega⟩
  rw[hv]at hrun;simpa using hrun
 obtain⟨sz,es,x,q1,q2,q3⟩:=XD cs us (by rw[hv2];simp;omega) hf;obtain⟨u,hu,_,hcr⟩:=h3 _ _ q1;have hux:u=x:=by
  rw[hv2,List.getElem?_take]at q2;split at q2
  ·rw[q2]at hu;cases hu;rfl
  ·cases q2
 subst hux;have:=hcr.2 rfl;unfold mD at this ⊢;have hp:yJ (.agg (cs.map fun c=>c.d)) (.agg ⟨us⟩)=some (sz,es,u):=q3;rw[hp];exact this
theorem zwp(hG:eH I j own O w)(hL:eI I j own lb N e a w){o:Oper}{t:TypeId}{x:Operand}{y:dS}{k b:Nat}{cs:List Cell}(ho:o.op=.load t x)(hk:dT x y=true)(hk1:oR P t (some k)=true)(hd:∀s,o.dst=some s->s<N)
  (hp:kL e y=some (.loc b 0)) (h1:dC e.boxes b=some cs) (hlen:cs.length=k):jF P N I j own w o a (Env.put {e with boxes:=fF e.boxes b (qA cs)} o.dst ⟨sG cs,.agg (cs.map fun c=>c.d)⟩) O:=by
 obtain⟨B,hB,hx⟩:=Be hL hk hp;obtain⟨B',hB',hown,oD⟩:=hL.boxes b cs h1;rw[hB]at hB';cases hB';obtain⟨u,hu,nU,hO⟩:=zdx oD hk1 hlen;have fin:(execOp a.eval o).run P w=.ok (.value u) w:=by
  simp only[execOp,ho,hx,Instr.loadAt,Instr.sureAddr,Sem.run_bind,Sem.run_pure,Result.andThen_ok,hu]
 have hL0:eI I j own lb N {e with boxes:=fF e.boxes b (qA cs)} a w :=
  hL.sub (fun s c h=>⟨c,h,rfl,fun h=>h⟩) (fun _ _ h=>h) (fun s cs' h=>by
   simp only[jM]at h;split at h
   ·rename_i hs;subst hs;cases h;exact⟨cs,h1,(WE cs).1⟩
   ·exact⟨cs',h,pL.refl cs'⟩) rfl
 cases hds:o.dst with
 |none=>exact⟨_,w,_,fin,.inl ⟨u,rfl,rfl⟩,I,j,own,lb,hG,by rw[hds];exact hL0,fD.refl _ _ _ _ _⟩
 |some s =>
  cases how:sG cs with
  |false=>exact⟨_,w,_,fin,.inl ⟨u,rfl,rfl⟩,I,j,own,lb,hG,by rw[hds];exact hL0.qV (hd s hds) ⟨nU,fun h=>by cases h⟩,fD.refl _ _ _ _ _⟩
  |true =>
   have hO:=hO how;have hlist:∃sz es,(cs.map fun c=>c.d)[uQ (cs.map fun c=>c.d)]?=some (.list sz es):=(by obtain⟨vs,T,g1,g2,g3⟩:=oD;obtain⟨sz,es,x,q1,_,_⟩:=XD cs (vs.take cs.length) (by simp;omega) how;exact⟨sz,es,by rw[List.getElem?_map,q1];rfl⟩)
   obtain⟨own',k1,k2,k3,k4⟩:=TY (t:=.cell b (uQ (cs.map fun c=>c.d))) (t':=.slot s) rfl rfl hG hL0 (fun _ _ _ _ h=>by cases h) (fun s' cs' hs' i c' hi hc' heq=>by
    simp only[Tag.cell.injEq]at heq;obtain⟨rfl,rfl⟩:=heq;simp only[jM,if_true,aA]at hs';subst hs';exact(WE cs).2 _ c' hi hc' hlist rfl) (fun _ _ _ _ _ _ _ h=>by cases h) hO
   exact⟨_,w,_,fin,.inl ⟨_,rfl,rfl⟩,I,j,own',lb,k1,by rw[hds];exact Wp (hd s hds) (k2.forget s) ⟨nU,fun _=>k3⟩,k4.weaken fun _ _=>trivial⟩
theorem zat:∀(cs new:List Cell),new.length=cs.length->putCells cs 0 new=new
 |[],[],_=>rfl
 |[],_::_,h=>by simp at h
 |_::_,[],h=>by simp at h
 |c::cs,n::new,h=>by
  simp only[putCells,zat cs new (by simpa using h)]
theorem zti(hG:eH I j own O w)(hL:eI I j own lb N e a w){o:Oper}{t:TypeId}{x y:Operand}{x' y':dS}{k b:Nat}{c:Cell}{cs:List Cell}{ds:List D}(ho:o.op=.store t x y)(hd:∀s,o.dst=some s->s<N)
  (hk:dT x x'=true) (hk1:dT y y'=true) (hsz:jV P t=some k) (hp:kL e x'=some (.loc b 0)) (hc:eE e y'=some c) (hcs:dC e.boxes b=some cs) (hds:c.d=.agg ds) (hl1:cs.length=k) (hl2:ds.length=k) :
  jF P N I j own w o a (Env.put {y'.drop e with boxes:=fF e.boxes b (qD c.own ds)} o.dst ⟨false,.undef⟩) O:=by
 obtain⟨B,hB,hx⟩:=Be hL hk hp;have hr:=gW hL hk1 hc;obtain⟨jQ,hG1,hL1,hO,hE1⟩:=A9 hG hL hk1 hc (t':=.cell b (uQ ds)) rfl;obtain⟨_,hbx,_⟩:=YD (e:=e) y';obtain⟨B',hB',hown,oD⟩:=hL1.boxes b cs (by rw[hbx];exact hcs);rw[hB]at hB';cases hB';rw[hds]at hr hO;have hr':=hr;simp only[dL]at hr';obtain⟨us,sR,hrep,hone⟩:=hr';have hcells:(a.eval y).cells.toList=us:=by rw[sR];rfl
 have hlen:=hrep.length;obtain⟨l1,l2⟩:=zgr c.own ds us hlen
 obtain⟨cur,T,oH,hfit,hnew⟩:=LJ oD (off:=0) (new:=qD c.own ds) (us:=(a.eval y).cells.toList) (by omega) (by rw[hcells,l1,hlen]) (fun i c' hi=>by
  obtain⟨u,q1,q2,q3⟩:=l2 i c' hi;obtain⟨u',hu',nU⟩:=hrep.at i c'.d q2;rw[q1]at hu';cases hu';refine⟨u,by rw[hcells];exact q1,hone u (List.mem_of_getElem? q1),nU,fun how w' hw'=>?_⟩;obtain⟨r1,r2,sz,es,r3,r4⟩:=q3 how;have xh:=hO r1;subst r2;rw[aN];refine On (by rw[hown];intro h;cases h) hw' ?_;rw[r3];unfold mD at xh ⊢;have hpr:yJ (.agg ds) (a.eval y)=some (sz,es,u):=by rw[sR];exact r4
  rw[hpr]at xh;exact xh) (fun i c' u hi how h w' hw'=>On (by rw[hown];intro h;cases h) hw' h)
 rw[zat cs _ (by omega)]at hnew;have hvs:(a.eval y).cells.size=k:=by rw[<-Array.length_toList,hcells,hlen,hl2]
 have hrun:=KT (P:=P) hsz oH (v:=a.eval y) hvs hfit (by rw[hcells];exact hone);generalize hw':w.setRow B _=w' at hrun hnew;have hE2:fD I j jQ w I j jQ w' (fun u=>u=.box b):=hw'▸MF oH _ hown;have hG2:eH I j jQ O w':=by
  refine hG1.kN hE2 (fun b' o' v h=>?_) hG1.kS (fun b' u h=>aP (hG1.jU b' u h) hE2.size) hG1.mG (fun id cs _=>⟨(fun h=>by cases h),(fun _ _ _ _ h=>by cases h)⟩) (fun _ _ _ h=>by cases h);have hne:b'≠B:=fun e=>by
   rw[e,hG1.kS B _ hown rfl o']at h;cases h
  rw[<-hw',cell_setRow_other w B _ _ hne];exact hG1.holds b' o' v h
 have hL2:eI I j jQ lb N {y'.drop e with boxes:=fF e.boxes b (qD c.own ds)} a w':=by
  have h0:eI I j jQ lb N {y'.drop e with boxes:=gI e.boxes b} a w :=
   hL1.sub (fun s c h=>⟨c,h,rfl,fun h=>h⟩) (fun _ _ h=>h) (fun s cs h=>by
    simp only[mK]at h;split at h
    ·cases h
    ·exact⟨cs,by rw[hbx];exact h,pL.refl cs⟩) rfl
  have h1:=(h0.kN hE2 (fun _ _ _ _ h=>by cases h) (fun s cs h=>⟨(fun e=>by
   cases e;simp only[mK,if_true]at h;cases h),(fun _ _ _ _ h=>by cases h)⟩)).jd hB hown hnew
  refine h1.sub (fun s c h=>⟨c,h,rfl,fun h=>h⟩) (fun _ _ h=>h) (fun s cs h=>⟨cs,?_,pL.refl cs⟩) rfl;simp only[jM,mK]at h ⊢;split
  ·rename_i hs;rw[if_pos hs]at h;exact h
  ·rename_i hs;rw[if_neg hs]at h;exact h
 refine⟨.skip,w',_,?_,.inr (.inl ⟨rfl,rfl⟩),I,j,jQ,lb,hG2,?_,hE1.trans (hE2.weaken fun _ _=>trivial)⟩
 ·simp only[execOp,ho,hx,Instr.storeAt,Instr.sureAddr,Sem.run_bind,Sem.run_pure,Result.andThen_ok,hrun]
 ·cases hds:o.dst with
  |none=>exact hL2
  |some s=>exact hL2.qV (hd s hds) ⟨by simp only[dL],fun h=>by cases h⟩
end
end Go.Mx

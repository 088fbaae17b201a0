/-
 The machine's run az equations that a rewriting follows: what is asked stands first,and is rewritten alone.
-/
import Derived.Test.YtldfbnbckiifeaaGreatDoorMyCore
import Derived.Test.YtldfbnbckiifeaaGreatDoorMyFrame
set_option linter.unusedSimpArgs false
set_option linter.unusedVariables false
set_option linter.unusedSectionVars false
set_option linter.defProp false
namespace Go.Mx
open Go
abbrev kB:=Option (AExit × Env × Store)
def Ar (x:kB) (f:Env→Store→kB):kB:=match x with
 | some (.normal,e,σ)=>f e σ
 | r=>r
def vD (id:Nat) (x:kB):kB:=match x with
 | some (.exit id',e,σ)=>ifB (id' == id) (some (.normal,e,σ)) (some (.exit id',e,σ))
 | r=>r
def vQ (x:kB):kB:=match x with
 | some (.goto _,_,_)=>none
 | r=>r
def Tv (perm:Option (List Nat)) (clr:List Nat) (x:Option OpsOut):kB:=match x with
 | some (.normal e σ)=>some (.normal,yI e clr,σ)
 | some (.panic d e σ)=>some (.panic d,bT perm e (fun _=>e.bare),σ)
 | none=>none
def wS (C:aM) (rest:List AOper) (dst:Option Nat) (st:Option (List Nat)) (e:Env) (σ0:Store) (r:Option (Out × Store)):Option OpsOut:=match r with
 | some (.ret c,σ)=>ifB (tK st e σ0 σ) (dH C rest (e.put dst c) σ) none
 | some (.panic d,σ)=>ifB (tK st e σ0 σ) (some (.panic d e σ)) none
 | none=>none
def Ap (C:aM) (rest:List AOper) (dst:Option Nat) (st:Option (List Nat)) (e:Env) (σ:Store) (s:Option Step):Option OpsOut:=match s with
 | some (.next e' σ')=>ifB (tK st e σ σ') (dH C rest e' σ') none
 | some (.call f az)=>wS C rest dst st e σ (C f az σ)
 | some (.panic d)=>some (.panic d e σ)
 | none=>none
@[congr] theorem zc2b {x y:kB} (f:Env→Store→kB) (h:x=y):Ar x f=Ar y f:=by rw [h]
@[congr] theorem za3b {x y:kB} (id:Nat) (h:x=y):vD id x=vD id y:=by rw [h]
@[congr] theorem zcib {x y:kB} (h:x=y):vQ x=vQ y:=by rw [h]
@[congr] theorem zewb {x y:Option OpsOut} (p:Option (List Nat)) (l:List Nat) (h:x=y):Tv p l x=Tv p l y:=by rw [h]
@[congr] theorem zczb {x y:Option (Out × Store)} (C:aM) (rest:List AOper) (dst:Option Nat) (st:Option (List Nat)) (e:Env) (σ0:Store) (h:x=y):wS C rest dst st e σ0 x=wS C rest dst st e σ0 y:=by rw [h]
@[congr] theorem zc1b {x y:Option Step} (C:aM) (rest:List AOper) (dst:Option Nat) (st:Option (List Nat)) (e:Env) (σ:Store) (h:x=y):Ap C rest dst st e σ x=Ap C rest dst st e σ y:=by rw [h]
section
variable {C:aM} {n:Nat} {e:Env} {σ:Store}
theorem zH {f:Env→Store→kB}:Ar (some (.normal,e,σ)) f=f e σ:=rfl
theorem zpm {id:Nat} {f:Env→Store→kB}:Ar (some (.exit id,e,σ)) f=some (.exit id,e,σ):=rfl
theorem zsr {f:Env→Store→kB}:Ar (some (.ret,e,σ)) f=some (.ret,e,σ):=rfl
theorem zks {d:D} {f:Env→Store→kB}:Ar (some (.panic d,e,σ)) f=some (.panic d,e,σ):=rfl
theorem Ib {id:Nat}:vD id (some (.normal,e,σ))=some (.normal,e,σ):=rfl
theorem zit {id id':Nat}:vD id (some (.exit id',e,σ))=ifB (id' == id) (some (.normal,e,σ)) (some (.exit id',e,σ)):=rfl
theorem zmw {id:Nat}:vD id (some (.ret,e,σ))=some (.ret,e,σ):=rfl
theorem zf2 {id:Nat} {d:D}:vD id (some (.panic d,e,σ))=some (.panic d,e,σ):=rfl
theorem zj3 {p:Option (List Nat)} {l:List Nat}:Tv p l (some (.normal e σ))=some (.normal,yI e l,σ):=rfl
theorem Xb {l:List Nat} {d:D}:Tv none l (some (.panic d e σ))=some (.panic d,e,σ):=rfl
theorem Xd {p:List Nat} {l:List Nat} {d:D}:Tv (some p) l (some (.panic d e σ))=some (.panic d,e.bare,σ):=rfl
theorem zqi {rest:List AOper} {dst:Option Nat} {c:Cell} {σ0:Store}:wS C rest dst none e σ0 (some (.ret c,σ))=dH C rest (e.put dst c) σ:=rfl
theorem Eu {rest:List AOper} {dst:Option Nat} {c:Cell} {σ0:Store} {ws:List Nat}:wS C rest dst (some ws) e σ0 (some (.ret c,σ))=ifB (ws.all (iL e σ0 σ)) (dH C rest (e.put dst c) σ) none:=rfl
theorem ziu {rest:List AOper} {dst:Option Nat} {d:D} {σ0:Store}:wS C rest dst none e σ0 (some (.panic d,σ))=some (.panic d e σ):=rfl
theorem zo8 {rest:List AOper} {dst:Option Nat} {e':Env} {σ':Store}:Ap C rest dst none e σ (some (.next e' σ'))=dH C rest e' σ':=rfl
theorem zo7 {rest:List AOper} {dst:Option Nat} {st:Option (List Nat)} {f:FuncId} {az:List D}:Ap C rest dst st e σ (some (.call f az))=wS C rest dst st e σ (C f az σ):=rfl
theorem zkc {rest:List AOper} {dst:Option Nat} {st:Option (List Nat)} {d:D}:Ap C rest dst st e σ (some (.panic d))=some (.panic d e σ):=rfl
theorem zcw (k:IntKind):gQ k k=true:=by cases k <;> rfl
mutual
theorem D.same_refl:∀ d:D,D.same d d=true
 | .undef=>rfl
 | .bool b=>by simp [D.same]
 | .int k n=>by simp [D.same,zcw]
 | .str s=>by simp [D.same]
 | .nils=>rfl
 | .list k es=>by simp [D.same,qP es]
 | .agg es=>by simp [D.same,qP es]
 | .tup es=>by simp [D.same,qP es]
 | .nilp=>rfl
 | .ptr a b=>by simp [D.same]
 | .eptr d=>by simp [D.same,D.same_refl d]
 | .fn f a b=>by simp [D.same,qP a,qP b]
 | .nilfn=>rfl
 | .iface t d=>by simp [D.same,D.same_refl d]
 | .niliface=>rfl
 | .junk=>rfl
 | .arr k a b c=>by simp [D.same]
 | .empt=>rfl
 | .map a=>by simp [D.same]
 | .nilmap=>rfl
 | .yld a=>by simp [D.same]
theorem qP:∀ l:List D,rH l l=true
 | []=>rfl
 | d :: l=>by simp [rH,D.same_refl d,qP l]
end
theorem Ql:∀ l:List Cell,vO l l=true
 | []=>rfl
 | c :: l=>by simp [vO,D.same_refl,Ql l]
theorem Qm:∀ l:List (D × D × Nat),vP l l=true
 | []=>rfl
 | (a,b,c) :: l=>by simp [vP,D.same_refl,Qm l]
theorem tI (x:List Cell):Xs (some x) (some x)=true:=Ql x
theorem zo1 (x:Oth):uZ (some x) (some x)=true:=by
 cases x with
 | it s n=>simp [uZ]
 | map es c=>simp [uZ,Qm]
 | loop r=>simp [uZ]
 | dfr=>simp [uZ]
theorem zo2 (e:Env) (σ:Store) (s:Nat):iL e σ σ s=true:=by
 unfold iL
 cases aB e.slots s with
 | none=>rfl
 | some c =>
  simp only [aF]
  cases c.d <;> try rfl
  ·rename_i id off
   show (bT (aB σ.objs id) true fun cs=>Xs (some cs) (aB σ.objs id))=true
   cases h:aB σ.objs id with
   | none=>rfl
   | some x=>exact tI x
  ·rename_i id
   show (bT (aB σ.oth id) true fun x=>uZ (some x) (aB σ.oth id))=true
   cases h:aB σ.oth id with
   | none=>rfl
   | some x=>exact zo1 x
theorem gV {C:aM} {e:Env} {σ:Store} {rest:List AOper} {dst:Option Nat} {c:Cell} {ws:List Nat}:wS C rest dst (some ws) e σ (some (.ret c,σ))=dH C rest (e.put dst c) σ:=by
 show ifB (ws.all (iL e σ σ)) _ none=_
 have:ws.all (iL e σ σ)=true:=List.all_eq_true.2 fun s _=>zo2 e σ s
 rw [this]
 rfl
theorem zoy:dH C [] e σ=some (.normal e σ):=rfl
theorem zj6 {o:AOper} {rest:List AOper}:dH C (o :: rest) e σ=Ap C rest o.dst (gR o.op) e σ (fG o e σ):=by
 simp only [dH,aC,bT,Ap]
 cases fG o e σ with
 | none=>rfl
 | some s =>
  cases s with
  | next e' σ'=>rfl
  | panic d=>rfl
  | call f az =>
   simp only [wS]
   cases C f az σ with
   | none=>rfl
   | some r=>obtain ⟨o,s⟩:=r; cases o <;> rfl
theorem zq5 {ro:Option Nat}:exec C n ro .skip e σ=some (.normal,e,σ):=rfl
theorem zq3 {ro:Option Nat} {id:Nat}:exec C n ro (.exit id) e σ=some (.exit id,e,σ):=rfl
theorem zt5 {ro:Option Nat}:exec C n ro .ret e σ=some (.ret,e,σ):=rfl
theorem znh {ro:Option Nat} {b:ACode}:exec C n ro (.scope b) e σ=vQ (exec C n ro b e σ):=by
 rw [exec]
 unfold vQ
 rfl
theorem zcx:vQ (some (.normal,e,σ))=some (.normal,e,σ):=rfl
theorem zj8 {id:Nat}:vQ (some (.exit id,e,σ))=some (.exit id,e,σ):=rfl
theorem zo3:vQ (some (.ret,e,σ))=some (.ret,e,σ):=rfl
theorem zh4 {d:D}:vQ (some (.panic d,e,σ))=some (.panic d,e,σ):=rfl
theorem zi5 {ro:Option Nat} {ops:List AOper} {p:Option (List Nat)} {clr:List Nat}:exec C n ro (.region ops p clr) e σ=Tv p clr (dH C ops e σ):=by
 rw [exec]
 unfold Tv
 cases dH C ops e σ with
 | none=>rfl
 | some r=>cases r <;> rfl
theorem Rm {ro:Option Nat} {a b:ACode}:exec C n ro (.seq a b) e σ=Ar (exec C n ro a e σ) (exec C n ro b):=by
 rw [exec]
 unfold Ar
 cases exec C n ro a e σ with
 | none=>rfl
 | some r=>obtain ⟨x,e',σ'⟩:=r; cases x <;> rfl
theorem zq2 {ro:Option Nat} {c:AOpd} {t f:ACode}:exec C n ro (.cond c t f) e σ=aC (opd e c) fun c=>aC c.d.bool? fun b=>ifB b (exec C n ro t e σ) (exec C n ro f e σ):=by rw [exec]
theorem Vi {ro:Option Nat} {id:Nat} {b:ACode}:exec C n ro (.block id b) e σ=vD id (exec C n ro b e σ):=by
 rw [exec]
 unfold vD
 cases exec C n ro b e σ with
 | none=>rfl
 | some r=>obtain ⟨x,e',σ'⟩:=r; cases x <;> rfl
theorem zq4 {ro:Option Nat} {b:ACode}:exec C n ro (.loop b) e σ=dL (exec C n ro b) n e σ:=by rw [exec]
end
def Xh (l:Nat) (e:Env) (x:Option (Out × Store)):kB:=match x with
 | some (.ret _,σ)=>endLoop l e σ
 | _=>none
@[congr] theorem zcfb (l:Nat) (e:Env) {x y:Option (Out × Store)} (h:x=y):Xh l e x=Xh l e y:=by rw [h]
theorem Xi {l:Nat} {e:Env} {c:Cell} {σ:Store}:Xh l e (some (.ret c,σ))=endLoop l e σ:=rfl
theorem Qa {C:aM} {n:Nat} {e:Env} {σ:Store} {ro:Option Nat} {g:AOpd} {ps:List Nat} {a b:ACode}:exec C n ro (.rangeF g ps a b) e σ=aC (opd e g) fun c=>aC c.d.fnF? fun f =>
  aC (enterLoop ro ⟨zF e.slots,ps,a,b,.ready⟩ e σ) fun x=>Xh x.1 x.2.1 (C f.1 (f.2.1 ++ [.yld x.1] ++ f.2.2) x.2.2):=by
 rw [exec]
 simp only [aC]
 congr 1
 funext c
 congr 1
 funext f
 congr 1
 funext x
 cases C f.1 (f.2.1 ++ [.yld x.1] ++ f.2.2) x.2.2 with
 | none=>rfl
 | some r=>obtain ⟨o,s⟩:=r; cases o <;> rfl
def lP (R:mN) (C:aM) (af:AFun) (m:Nat) (x:kB):Option (Out × Store):=match x with
 | some r=>nB R C false af m r
 | none=>none
@[congr] theorem zdvb (R:mN) (C:aM) (af:AFun) (m:Nat) {x y:kB} (h:x=y):lP R C af m x=lP R C af m y:=by rw [h]
def Tz (af:AFun) (m:Nat) (e:Env) (r:Option (Option D × Store)):Option (Out × Store):=match r with
 | some (none,σ)=>aC (jW e σ af.res) fun c=>some (.ret c,ifB af.gc (σ.trunc m) σ)
 | _=>none
def zaw (af:AFun) (m:Nat) (e:Env) (r:Option (Option D × Store)):Option (Out × Store):=match r with
 | some (none,σ)=>aC (jW e σ af.res) fun c=>some (.ret c,ifB af.gc (σ.trunc m) σ)
 | some (some d,σ)=>some (.panic d,ifB af.gc (σ.trunc m) σ)
 | none=>none
@[congr] theorem zeyb (af:AFun) (m:Nat) (e:Env) {x y:Option (Option D × Store)} (h:x=y):Tz af m e x=Tz af m e y:=by rw [h]
@[congr] theorem zexb (af:AFun) (m:Nat) (e:Env) {x y:Option (Option D × Store)} (h:x=y):zaw af m e x=zaw af m e y:=by rw [h]
section
variable {R:mN} {C:aM} {af:AFun} {m:Nat} {e:Env} {σ:Store}
theorem zt6:lP R C af m (some (.ret,e,σ))=Tz af m e (cR R C none e.defers σ):=by
 simp only [lP,nB,Bool.false_and,aG,Tz,aC]
 cases cR R C none e.defers σ with
 | none=>rfl
 | some r=>obtain ⟨x,s⟩:=r; cases x <;> rfl
theorem zi7:lP R C af m (some (.normal,e,σ))=Tz af m e (cR R C none e.defers σ):=by
 simp only [lP,nB,Bool.false_and,aG,Tz,aC]
 cases cR R C none e.defers σ with
 | none=>rfl
 | some r=>obtain ⟨x,s⟩:=r; cases x <;> rfl
theorem zni {d:D}:lP R C af m (some (.panic d,e,σ))=zaw af m e (cR R C (some d) e.defers σ):=by
 simp only [lP,nB,Bool.false_and,aG,zaw,aC]
 cases cR R C (some d) e.defers σ with
 | none=>rfl
 | some r=>obtain ⟨x,s⟩:=r; cases x <;> rfl
theorem zct {d:Option D}:cR R C d [] σ=some (d,σ):=rfl
theorem zsi:Tz af m e (some (none,σ))=aC (jW e σ af.res) fun c=>some (.ret c,ifB af.gc (σ.trunc m) σ):=rfl
theorem zsg:zaw af m e (some (none,σ))=aC (jW e σ af.res) fun c=>some (.ret c,ifB af.gc (σ.trunc m) σ):=rfl
theorem zsh {d:D}:zaw af m e (some (some d,σ))=some (.panic d,ifB af.gc (σ.trunc m) σ):=rfl
end
section
variable {Γ:FuncId→Option AFun} {R:mN} {X:aM}
theorem zvg {n:Nat} {f:FuncId} {af:AFun} {ds:List D} {σ:Store} (h:Γ f=some af) (hl:ds.length=af.nargs):kM Γ R X (n + 1) false f ds σ=lP R (kM Γ R X n true) af σ.next (exec (kM Γ R X n false) n none af.body (eT ds) σ):=by
 rw [kM,h]
 simp only [hl,beq_self_eq_true,aE]
 unfold lP
 cases exec (kM Γ R X n false) n none af.body (eT ds) σ <;> rfl
theorem zh0 {n:Nat} {f:FuncId} {ds:List D} {σ:Store} (h:Γ f=none) (hY:isY f=false):kM Γ R X (n + 1) false f ds σ=X f ds σ:=by
 rw [kM,h]
 simp only [aG,hY]
theorem zvh {n:Nat} {f:FuncId} {ds:List D} {σ:Store} (h:Γ f=none) (hY:isY f=true):kM Γ R X (n + 1) false f ds σ=Uc (kM Γ R X n false) n (f - dS) ds σ:=by
 rw [kM,h]
 simp only [aG,aE,hY]
end
section
variable {b:Bool} {k:IntKind} {n:Int} {s:List UInt8} {ds a cs:List D} {f:FuncId} {t:TypeId} {d:D} {r:RowK}
theorem bool?_bool:(D.bool b).bool?=some b:=rfl
theorem bool?_undef:(D.undef).bool?=none:=rfl
theorem int?_int:(D.int k n).int?=some (k,n):=rfl
theorem str?_str:(D.str s).str?=some s:=rfl
theorem tup?_tup:(D.tup ds).tup?=some ds:=rfl
theorem fn?_fn (h:isY f=false):(D.fn (.func f) a cs).fn?=some (f,a,cs):=by simp only [D.fn?,h,aG]
theorem fnF?_fn (h:isY f=false):(D.fn (.func f) a cs).fnF?=some (f,a,cs):=by simp only [D.fnF?,h,aG]
theorem fn?_yld {id:Nat}:(D.yld id).fn?=some (dS + id,[],[]):=rfl
theorem agg?_agg:(D.agg cs).agg?=some cs:=rfl
theorem row?_list:(D.list r cs).row?=some (r,cs):=rfl
theorem isNil?_iface:(D.iface t d).isNil?=some false:=rfl
theorem isNil?_nil:(D.niliface).isNil?=some true:=rfl
theorem zqk:(D.agg cs).cells=cs:=rfl
theorem zqm:(D.int k n).cells=[D.int k n]:=rfl
theorem zm4:(D.bool b).cells=[D.bool b]:=rfl
theorem zqp:(D.str s).cells=[D.str s]:=rfl
theorem zm8:(D.nils).cells=[D.nils]:=rfl
theorem zm6:(D.list r cs).cells=[D.list r cs]:=rfl
theorem zm7:(D.nilp).cells=[D.nilp]:=rfl
theorem zqo {i o:Nat}:(D.ptr i o).cells=[D.ptr i o]:=rfl
theorem ziv:(D.iface t d).cells=[D.iface t d]:=rfl
theorem ztt {g:Fn}:(D.fn g a cs).cells=[D.fn g a cs]:=rfl
theorem ziw:(D.nilfn).cells=[D.nilfn]:=rfl
theorem Zm:(D.niliface).cells=[D.niliface]:=rfl
theorem zzp:(D.agg cs).one=false:=rfl
theorem zzu:(D.int k n).one=true:=rfl
theorem zu0:(D.bool b).one=true:=rfl
theorem zzx:(D.str s).one=true:=rfl
theorem zu4:(D.nils).one=true:=rfl
theorem zu2:(D.list r cs).one=true:=rfl
theorem zu3:(D.nilp).one=true:=rfl
theorem zzw {i o:Nat}:(D.ptr i o).one=true:=rfl
theorem zr4:(D.iface t d).one=true:=rfl
theorem zho:(D.niliface).one=true:=rfl
theorem zb8b {g:Fn}:(D.fn g a cs).one=true:=rfl
theorem zr5:(D.nilfn).one=true:=rfl
theorem zb2b:(D.agg cs).ok=true:=rfl
theorem zb4b:(D.int k n).ok=true:=rfl
theorem zzk:(D.bool b).ok=true:=rfl
theorem zb7b:(D.str s).ok=true:=rfl
theorem zzo:(D.nils).ok=true:=rfl
theorem zzm:(D.list r cs).ok=true:=rfl
theorem zzn:(D.nilp).ok=true:=rfl
theorem zb6b {i o:Nat}:(D.ptr i o).ok=true:=rfl
theorem zuw:(D.iface t d).ok=true:=rfl
theorem zjv:(D.niliface).ok=true:=rfl
theorem zevb {g:Fn}:(D.fn g a cs).ok=true:=rfl
theorem zux:(D.nilfn).ok=true:=rfl
theorem zql {i o l:Nat}:(D.arr r i o l).cells=[D.arr r i o l]:=rfl
theorem zm5:D.empt.cells=[D.empt]:=rfl
theorem zqn {i:Nat}:(D.map i).cells=[D.map i]:=rfl
theorem zga:D.nilmap.cells=[D.nilmap]:=rfl
theorem zzq {i o l:Nat}:(D.arr r i o l).one=true:=rfl
theorem zu1:D.empt.one=true:=rfl
theorem zzv {i:Nat}:(D.map i).one=true:=rfl
theorem zop:D.nilmap.one=true:=rfl
theorem zb3b {i o l:Nat}:(D.arr r i o l).ok=true:=rfl
theorem zzl:D.empt.ok=true:=rfl
theorem zb5b {i:Nat}:(D.map i).ok=true:=rfl
theorem zr2:D.nilmap.ok=true:=rfl
theorem zrt {i o l:Nat}:lenOf (.arr r i o l)=some l:=rfl
theorem zn1:lenOf .empt=some 0:=rfl
theorem ziq:eL .empt=some []:=rfl
theorem zji:(D.nils).isNilS?=some true:=rfl
theorem zny {i o l:Nat}:(D.arr r i o l).isNilS?=some false:=rfl
theorem zgu:(bE r cs).isNilS?=some cs.isEmpty:=by cases cs <;> rfl
theorem znv:D.nilmap.isNilM?=some true:=rfl
theorem znu {i:Nat}:(D.map i).isNilM?=some false:=rfl
theorem zjm {os:List (Nat × List Cell)}:eB os .nils=some []:=rfl
theorem zjk {os:List (Nat × List Cell)}:eB os .empt=some []:=rfl
theorem zjl {os:List (Nat × List Cell)}:eB os (.list r cs)=some cs:=rfl
theorem nD {os:List (Nat × List Cell)}:eB os (bE r cs)=some cs:=by cases cs <;> rfl
theorem jJ {sz n i o l:Nat}:dC sz (.arr r i o l) n=ifB (r.sz == sz && decide (n < l)) (some (.ptr i ((o + n) * sz))) none:=rfl
theorem znw:D.nilp.isNilP?=some true:=rfl
theorem znx {i o:Nat}:(D.ptr i o).isNilP?=some false:=rfl
theorem zjg:(D.eptr d).isNilP?=some false:=rfl
theorem bZ:(bE r cs).one=true:=by cases cs <;> rfl
theorem dQ:(bE r cs).ok=true:=by cases cs <;> rfl
theorem bX:(bE r cs).cells=[bE r cs]:=by cases cs <;> rfl
theorem zqz:bE r []=.nils:=rfl
theorem zn3:lenOf .nils=some 0:=rfl
theorem zn2:lenOf (.list r cs)=some cs.length:=rfl
theorem zjj:lenOf (bE r cs)=some cs.length:=by cases cs <;> rfl
theorem zir:eL .nils=some []:=rfl
theorem mP:eL (.list r cs)=some cs:=rfl
theorem pQ:eL (bE r cs)=some cs:=by cases cs <;> rfl
theorem nat?_nat {i:Nat}:D.nat? (.int k (i:Int))=some i:=by
 simp [D.nat?,aE]
theorem nat?_zero:D.nat? (.int k 0)=some 0:=rfl
theorem zse {i o:Nat}:pK (.ptr i o)=some (.ptr i o):=rfl
theorem zou:pK (.eptr d)=some (.eptr d):=rfl
theorem zov:pK .nilp=none:=rfl
end
section
variable {o o' b:Bool} {k:IntKind} {n:Int} {s:List UInt8} {ds:List D} {kr:RowK} {r:List Cell} {dr:List D}
theorem zgl:fD []=false:=rfl
theorem zgk:fD (⟨o,.int k n⟩ :: r)=fD r:=rfl
theorem zb9:fD (⟨o,.bool b⟩ :: r)=fD r:=rfl
theorem zgm:fD (⟨o,.str s⟩ :: r)=fD r:=rfl
theorem zcc:fD (⟨o,.nils⟩ :: r)=fD r:=rfl
theorem zcb:fD (⟨o,.list kr ds⟩ :: r)=o:=rfl
theorem zca:fD [⟨o,bE kr ds⟩]=(!ds.isEmpty && o):=by cases ds <;> rfl
theorem zpr:fU []=[]:=rfl
theorem zpq:fU (⟨o,.int k n⟩ :: r)=⟨o,.int k n⟩ :: fU r:=rfl
theorem zkt:fU (⟨o,.bool b⟩ :: r)=⟨o,.bool b⟩ :: fU r:=rfl
theorem zps:fU (⟨o,.str s⟩ :: r)=⟨o,.str s⟩ :: fU r:=rfl
theorem zkv:fU (⟨o,.nils⟩ :: r)=⟨o,.nils⟩ :: fU r:=rfl
theorem zku:fU [⟨o,bE kr ds⟩]=[⟨ds.isEmpty && o,bE kr ds⟩]:=by cases ds <;> rfl
theorem zul:kS o []=[]:=rfl
theorem zuk:kS o (.int k n :: dr)=⟨false,.int k n⟩ :: kS o dr:=rfl
theorem zrp:kS o (.bool b :: dr)=⟨false,.bool b⟩ :: kS o dr:=rfl
theorem zum:kS o (.str s :: dr)=⟨false,.str s⟩ :: kS o dr:=rfl
theorem zrs:kS o (.nils :: dr)=⟨false,.nils⟩ :: kS o dr:=rfl
theorem zrr:kS o (.list kr ds :: dr)=⟨o,.list kr ds⟩ :: dr.map Cell.of:=rfl
theorem zrq:kS o [bE kr ds]=[⟨!ds.isEmpty && o,bE kr ds⟩]:=by cases ds <;> rfl
end
theorem Dc {α β:Type} (f:α→β):∀ (l:List α) (i:Nat),nth (l.map f) i=(nth l i).map f
 | [],_=>rfl
 | _ :: _,0=>rfl
 | _ :: l,i + 1=>Dc f l i
theorem Db {α:Type}:∀ (l:List α) (i:Nat) (h:i < l.length),nth l i=some (l[i])
 | x :: l,0,_=>rfl
 | _ :: l,i + 1,h=>Db l i (by simpa using h)
theorem mO {sz:Nat}:∀ {ds:List D},(∀ d∈ds,d.ok=true∧d.cells.length=sz)→bI sz ds=true
 | [],_=>rfl
 | d :: r,h=>by
  obtain ⟨h1,h2⟩:=h d (List.mem_cons_self ..)
  simp only [bI,h1,h2,beq_self_eq_true,Bool.true_and]
  exact mO fun x hx=>h x (List.mem_cons_of_mem _ hx)
theorem zmt {r:RowK} {by_:Nat} {es:List D} {o:Bool} {y:D} (ho:es≠[]→o=true) (hy1:y.ok=true) (hy2:y.cells.length=r.sz) (h1:(es.length + 1) * by_≤bG) (h2:es.length + 1≤bG) :
  cK r by_ ⟨o,bE r es⟩ [y]=some ⟨true,bE r (es ++ [y])⟩:=by
 have hm:kK r ⟨o,bE r es⟩=true:=by
  cases es with
  | nil=>rfl
  | cons x l=>simp [kK,bE,ho (by simp),RowK.same]
 have hj:kX r (bE r es) [y]=bE r (es ++ [y]):=by
  cases es <;> rfl
 simp only [cK,pQ,mP,hm,hj,bI,hy1,hy2,aC,aF,List.length_cons,List.length_nil,Nat.zero_add,decide_eq_true h1,decide_eq_true h2,beq_self_eq_true,Bool.and_self,aE]
theorem Px {r:RowK} {by_:Nat} {es ys:List D} {o:Bool} (ho:es≠[]→o=true) (hy:∀ d∈ys,d.ok=true∧d.cells.length=r.sz) (h1:(es.length + ys.length) * by_≤bG) (h2:es.length + ys.length≤bG) :
  cK r by_ ⟨o,bE r es⟩ ys=some ⟨true,bE r (es ++ ys)⟩:=by
 have hm:kK r ⟨o,bE r es⟩=true:=by
  cases es with
  | nil=>rfl
  | cons x l=>simp [kK,bE,ho (by simp),RowK.same]
 have hj:kX r (bE r es) ys=bE r (es ++ ys):=by
  cases es <;> rfl
 simp only [cK,pQ,hm,hj,mO hy,aC,aF,decide_eq_true h1,decide_eq_true h2,Bool.and_self,aE]
def nM (p:Nat→Prop):Prop:=∃ n0,∀ n,n0≤n→p n
theorem nM.all {p:Nat→Prop} (h:∀ n,p n):nM p:=⟨0,fun n _=>h n⟩
theorem nM.and {p q:Nat→Prop} (h:nM p) (k:nM q):nM fun n=>p n∧q n:=by
 obtain ⟨a,ha⟩:=h
 obtain ⟨b,hb⟩:=k
 exact ⟨max a b,fun n hn=>⟨ha n (by omega),hb n (by omega)⟩⟩
theorem nM.mono {p q:Nat→Prop} (h:nM p) (k:∀ n,p n→q n):nM q:=by
 obtain ⟨a,ha⟩:=h
 exact ⟨a,fun n hn=>k n (ha n hn)⟩
theorem nM.step {p q:Nat→Prop} (h:nM p) (k:Nat) (s:∀ n,k≤n→p n→q (n + 1)):nM q:=by
 obtain ⟨a,ha⟩:=h
 refine ⟨max a k + 1,fun n hn=>?_⟩
 obtain ⟨m,rfl⟩:∃ m,n=m + 1:=⟨n - 1,by omega⟩
 exact s m (by omega) (ha m (by omega))
theorem nM.list {α:Type} (l:List α) {p:α→Nat→Prop} (h:∀ x∈l,nM (p x)):nM fun n=>∀ x∈l,p x n:=by
 induction l with
 | nil=>exact .all fun n x hx=>by cases hx
 | cons a l ih =>
  refine ((h a (List.mem_cons_self ..)).and (ih fun x hx=>h x (List.mem_cons_of_mem _ hx))).mono fun n hn x hx=>?_
  rcases List.mem_cons.1 hx with e | k
  ·rw [e]; exact hn.1
  ·exact hn.2 x k
theorem nM.below {p:Nat→Nat→Prop}:∀ (k:Nat),(∀ i,i < k→nM (p i))→nM fun n=>∀ i,i < k→p i n
 | 0,_=>.all fun n i hi=>by omega
 | k + 1,h=>((nM.below k fun i hi=>h i (by omega)).and (h k (by omega))).mono fun n hn i hi=>by
  by_cases hik:i=k
  ·rw [hik]; exact hn.2
  ·exact hn.1 i (by omega)
theorem gI {body:Env→Store→kB} (E:Nat→Env) (S:Nat→Store) (k:Nat) {r:AExit × Env × Store} (hr:∀ e σ,r≠(.normal,e,σ)) (hstep:∀ i,i < k→body (E i) (S i)=some (.normal,E (i + 1),S (i + 1))) (hend:body (E k) (S k)=some r) :
  ∀ (j n:Nat),j≤k→k < n + j→dL body n (E j) (S j)=some r
 | j,0,h1,h2=>by omega
 | j,n + 1,h1,h2=>by
  rw [dL]
  by_cases hj:j=k
  ·rw [hj,hend]
   obtain ⟨x,e,σ⟩:=r
   cases x with
   | normal=>exact absurd rfl (hr e σ)
   | _=>rfl
  ·rw [hstep j (by omega)]
   exact gI E S k hr hstep hend (j + 1) n (by omega) (by omega)
theorem Bd {body:Env→Store→kB} (E:Nat→Env) (S:Nat→Store) (k:Nat) (p:Nat→Bool) {r:AExit × Env × Store} (stop:Nat→AExit × Env × Store) (hr:∀ e σ,r≠(.normal,e,σ)) (hs:∀ i e σ,stop i≠(.normal,e,σ))
  (hstep:∀ i,i < k→p i=true→body (E i) (S i)=some (.normal,E (i + 1),S (i + 1))) (hstop:∀ i,i < k→p i=false→body (E i) (S i)=some (stop i)) (hend:body (E k) (S k)=some r) :
  ∀ (n j:Nat),j≤k→k < n + j→(∃ i,j≤i∧i < k∧p i=false∧(∀ i',j≤i'→i' < i→p i'=true)∧dL body n (E j) (S j)=some (stop i))∨((∀ i,j≤i→i < k→p i=true)∧dL body n (E j) (S j)=some r)
 | 0,j,h1,h2=>by omega
 | n + 1,j,h1,h2=>by
  rw [dL]
  by_cases hj:j=k
  ·refine .inr ⟨fun i h3 h4=>by omega,?_⟩
   rw [hj,hend]
   obtain ⟨x,e,σ⟩:=r
   cases x with
   | normal=>exact absurd rfl (hr e σ)
   | _=>rfl
  ·cases hp:p j with
   | false =>
    refine .inl ⟨j,by omega,by omega,hp,fun i' h3 h4=>by omega,?_⟩
    rw [hstop j (by omega) hp]
    cases hst:stop j with
    | mk x y =>
    obtain ⟨e,σ⟩:=y
    cases x with
    | normal=>exact absurd hst (hs j e σ)
    | _=>rfl
   | true =>
    rw [hstep j (by omega) hp]
    rcases Bd E S k p stop hr hs hstep hstop hend n (j + 1) (by omega) (by omega) with ⟨i,h3,h4,h5,h6,h7⟩ | ⟨h3,h4⟩
    ·refine .inl ⟨i,by omega,h4,h5,fun i' h8 h9=>?_,h7⟩
     by_cases hij:i'=j
     ·rw [hij]; exact hp
     ·exact h6 i' (by omega) h9
    ·refine .inr ⟨fun i h5 h6=>?_,h4⟩
     by_cases hij:i=j
     ·rw [hij]; exact hp
     ·exact h3 i (by omega) h6
end Go.Mx
namespace Go.Mx
open Go
theorem szB:(∀ b:Bool,(false && b)=false)∧(∀ b:Bool,(true && b)=b)∧(∀ b:Bool,(b && true)=b)∧(∀ b:Bool,(b && false)=false)∧(∀ b:Bool,(b || true)=true)∧(∀ b:Bool,(true || b)=true)∧(∀ b:Bool,(b || false)=b)∧(∀ b:Bool,(false || b)=b)∧(∀ b:Bool,(true == b)=b)∧(∀ b:Bool,(false == b)=!b)∧((!true)=false)∧((!false)=true) :=
 ⟨Bool.false_and,Bool.true_and,Bool.and_true,Bool.and_false,Bool.or_true,Bool.true_or,Bool.or_false,Bool.false_or,Bool.true_beq,Bool.false_beq,Bool.not_true,Bool.not_false⟩
theorem szL:(∀ {α β:Type} {f:α→β} {a:α} {l:List α},(a :: l).map f=f a :: l.map f)∧(∀ {α β:Type} {f:α→β},([]:List α).map f=[])∧(∀ {α:Type} {a:α} {l:List α},(a :: l).length=l.length + 1)∧(∀ {α:Type},([]:List α).length=0)∧(∀ {α:Type} (l:List α),l ++ []=l)∧(∀ {α:Type} (l:List α),[] ++ l=l)∧(∀ {α:Type} {a:α} {l m:List α},(a :: l) ++ m=a :: (l ++ m))∧(∀ {α:Type},([]:List α).isEmpty=true)∧(∀ {α:Type} {a:α} {l:List α},(a :: l).isEmpty=false)∧(∀ {α:Type} {p:α→Bool},([]:List α).all p=true)∧(∀ {α:Type} {p:α→Bool} {a:α} {l:List α},(a :: l).all p=(p a && l.all p))∧(∀ {α:Type} (a b:α),(some a).getD b=a)∧(∀ {α:Type} (b:α),(none:Option α).getD b=b) :=
 ⟨List.map_cons,List.map_nil,List.length_cons,List.length_nil,List.append_nil,List.nil_append,List.cons_append,List.isEmpty_nil,List.isEmpty_cons,List.all_nil,List.all_cons,fun a b=>Option.getD_some,fun b=>Option.getD_none⟩
theorem szQ:(∀ n:Nat,0 + n=n)∧(∀ n:Nat,n + 0=n)∧(∀ {α:Type} [BEq α] [ReflBEq α] {a:α},(a == a)=true)∧(∀ [h:Decidable True],@decide True h=true)∧(∀ [h:Decidable False],@decide False h=false)∧(∀ n:Nat,n≤n) :=
 ⟨Nat.zero_add,Nat.add_zero,beq_self_eq_true _,fun {_}=>decide_true _,fun {_}=>decide_false _,Nat.le_refl⟩
theorem szC:(∀ {α β:Type} (n:β) (f:α→β),bT none n f=n)∧(∀ {α β:Type} (a:α) (n:β) (f:α→β),bT (some a) n f=f a)∧(∀ {β:Type} (x y:β),ifB true x y=x)∧(∀ {β:Type} (x y:β),ifB false x y=y)∧(∀ {α β:Type} (x:Option α) (f:α→Option β),aC x f=bT x none f) :=
 ⟨cC,aF,aE,aG,fun _ _=>rfl⟩
def sA0:=And.intro (And.intro (And.intro (And.intro (And.intro szQ (And.intro szB szL)) (And.intro szC (And.intro @yI.eq_1 @mem.eq_1))) (And.intro (And.intro @mem.eq_2 (And.intro @eT.eq_1 @pV.eq_1)) (And.intro @pV.eq_2 (And.intro @nJ.eq_1 @nJ.eq_2)))) (And.intro (And.intro (And.intro @eI.eq_1 (And.intro @eI.eq_2 @eI.eq_3)) (And.intro @opd.eq_1 (And.intro @opd.eq_2 @opd.eq_3))) (And.intro (And.intro @jC.eq_1 (And.intro @jC.eq_2 @pI.eq_1)) (And.intro @pI.eq_2 (And.intro @jK.eq_1 @cA.eq_1))))) (And.intro (And.intro (And.intro (And.intro @cA.eq_2 (And.intro @Env.put.eq_1 @Env.put.eq_2)) (And.intro @Env.putV.eq_1 (And.intro @Env.putV.eq_2 @Env.putV.eq_3))) (And.intro (And.intro @Env.box.eq_1 (And.intro @Env.bare.eq_1 @iI.eq_1)) (And.intro @iI.eq_2 (And.intro @iI.eq_3 @iI.eq_4)))) (And.intro (And.intro (And.intro @iC.eq_1 (And.intro @iC.eq_2 @zf1.eq_1)) (And.intro @zf1.eq_2 (And.intro @zf1.eq_3 @zek.eq_1))) (And.intro (And.intro @zek.eq_2 (And.intro @xN.eq_1 @xN.eq_2)) (And.intro @xN.eq_3 (And.intro @kE.eq_1 @kE.eq_2)))))
def sA1:=And.intro (And.intro (And.intro (And.intro (And.intro @kE.eq_3 (And.intro @kE.eq_4 @kE.eq_5)) (And.intro @kE.eq_6 (And.intro @kE.eq_7 @kE.eq_8))) (And.intro (And.intro @kE.eq_9 (And.intro @kE.eq_10 @kE.eq_11)) (And.intro @kE.eq_12 (And.intro @oJ.eq_1 @oJ.eq_2)))) (And.intro (And.intro (And.intro @oJ.eq_3 (And.intro @oJ.eq_4 @oJ.eq_5)) (And.intro @oJ.eq_6 (And.intro @oJ.eq_7 @oJ.eq_8))) (And.intro (And.intro @unD.eq_1 (And.intro @unD.eq_2 @unD.eq_3)) (And.intro @mmD.eq_1 (And.intro @mmD.eq_2 @AOpd.drop.eq_1))))) (And.intro (And.intro (And.intro (And.intro @AOpd.drop.eq_2 (And.intro @Cell.of.eq_1 @gR.eq_1)) (And.intro @gR.eq_2 (And.intro @gR.eq_3 @gR.eq_4))) (And.intro (And.intro @gQ.eq_1 (And.intro @gQ.eq_2 @gQ.eq_3)) (And.intro @gQ.eq_4 (And.intro @gQ.eq_5 @gQ.eq_6)))) (And.intro (And.intro (And.intro @gQ.eq_7 (And.intro @gQ.eq_8 @gQ.eq_9)) (And.intro @tU.eq_1 (And.intro @tU.eq_2 @tU.eq_3))) (And.intro (And.intro @tZ.eq_1 (And.intro @tZ.eq_2 @tZ.eq_3)) (And.intro @Oj.eq_1 (And.intro @Oj.eq_2 @iM.eq_1)))))
def sA2:=And.intro (And.intro (And.intro (And.intro (And.intro @iM.eq_2 (And.intro @iM.eq_3 @iM.eq_4)) (And.intro @eV.eq_1 (And.intro @eV.eq_2 @eV.eq_3))) (And.intro (And.intro @nU.eq_1 (And.intro @dE.eq_1 @putCells.eq_1)) (And.intro @putCells.eq_2 (And.intro @putCells.eq_3 @putCells.eq_4)))) (And.intro (And.intro (And.intro @rR.eq_1 (And.intro @rR.eq_2 @rR.eq_3)) (And.intro @rR.eq_4 (And.intro @Ff.eq_1 @Ff.eq_2))) (And.intro (And.intro @oR.eq_1 (And.intro @oR.eq_2 @qN.eq_1)) (And.intro @qN.eq_2 (And.intro @xE.eq_1 @xE.eq_2))))) (And.intro (And.intro (And.intro (And.intro @bI.eq_1 (And.intro @bI.eq_2 @cR.eq_1)) (And.intro @cR.eq_2 (And.intro @jW.eq_1 @jW.eq_2))) (And.intro (And.intro @nZ.eq_1 (And.intro @nZ.eq_2 @nZ.eq_3)) (And.intro @lR.eq_1 (And.intro @lR.eq_2 @zH)))) (And.intro (And.intro (And.intro @zpm (And.intro @zsr @zks)) (And.intro @Ib (And.intro @zit @zmw))) (And.intro (And.intro @zf2 (And.intro @zj3 @Xb)) (And.intro @Xd (And.intro @zqi @ziu)))))
def sA3:=And.intro (And.intro (And.intro (And.intro (And.intro @zo8 (And.intro @zo7 @zkc)) (And.intro @gV (And.intro @zoy @zj6))) (And.intro (And.intro @zq5 (And.intro @zq3 @zt5)) (And.intro @znh (And.intro @zcx @zj8)))) (And.intro (And.intro (And.intro @zo3 (And.intro @zh4 @zi5)) (And.intro @Rm (And.intro @zq2 @Vi))) (And.intro (And.intro @zq4 (And.intro @Xi @Qa)) (And.intro @zt6 (And.intro @zi7 @zni))))) (And.intro (And.intro (And.intro (And.intro @zct (And.intro @zsi @zsg)) (And.intro @zsh (And.intro @bool?_bool @bool?_undef))) (And.intro (And.intro @int?_int (And.intro @str?_str @tup?_tup)) (And.intro @fn?_fn (And.intro @fnF?_fn @fn?_yld)))) (And.intro (And.intro (And.intro @agg?_agg (And.intro @row?_list @isNil?_iface)) (And.intro @isNil?_nil (And.intro @zqk @zqm))) (And.intro (And.intro @zm4 (And.intro @zqp @zm8)) (And.intro @zm6 (And.intro @zm7 @zqo)))))
def sA4:=And.intro (And.intro (And.intro (And.intro (And.intro @ziv (And.intro @ztt @ziw)) (And.intro @Zm (And.intro @zzp @zzu))) (And.intro (And.intro @zu0 (And.intro @zzx @zu4)) (And.intro @zu2 (And.intro @zu3 @zzw)))) (And.intro (And.intro (And.intro @zr4 (And.intro @zho @zb8b)) (And.intro @zr5 (And.intro @zb2b @zb4b))) (And.intro (And.intro @zzk (And.intro @zb7b @zzo)) (And.intro @zzm (And.intro @zzn @zb6b))))) (And.intro (And.intro (And.intro (And.intro @zuw (And.intro @zjv @zevb)) (And.intro @zux (And.intro @zql @zm5))) (And.intro (And.intro @zqn (And.intro @zga @zzq)) (And.intro @zu1 (And.intro @zzv @zop)))) (And.intro (And.intro (And.intro @zb3b (And.intro @zzl @zb5b)) (And.intro @zr2 (And.intro @zrt @zn1))) (And.intro (And.intro @ziq (And.intro @zji @zny)) (And.intro @zgu (And.intro @znv @znu)))))
def sA5:=And.intro (And.intro (And.intro (And.intro (And.intro @zjm (And.intro @zjk @zjl)) (And.intro @nD (And.intro @znw @znx))) (And.intro (And.intro @zjg (And.intro @bZ @dQ)) (And.intro @bX (And.intro @zqz @zn3)))) (And.intro (And.intro (And.intro @zn2 (And.intro @zjj @zir)) (And.intro @mP (And.intro @pQ @nat?_nat))) (And.intro (And.intro @nat?_zero (And.intro @zse @zou)) (And.intro @zov (And.intro @zgl @zgk))))) (And.intro (And.intro (And.intro (And.intro @zb9 (And.intro @zgm @zcc)) (And.intro @zcb (And.intro @zca @zpr))) (And.intro (And.intro @zpq (And.intro @zkt @zps)) (And.intro @zkv (And.intro @zku @zul)))) (And.intro (And.intro (And.intro @zuk (And.intro @zrp @zum)) (And.intro @zrs (And.intro @zrr @zrq))) (And.intro (And.intro @fG.eq_1 (And.intro @aS.eq_1 @aS.eq_2)) (And.intro @aS.eq_3 (And.intro @aS.eq_4 @aS.eq_5)))))
def sA6:=And.intro (And.intro (And.intro (And.intro (And.intro @aS.eq_6 (And.intro @aS.eq_7 @aS.eq_8)) (And.intro @aS.eq_9 (And.intro @aS.eq_10 @aS.eq_11))) (And.intro (And.intro @aS.eq_12 (And.intro @aS.eq_13 @aS.eq_14)) (And.intro @aS.eq_15 (And.intro @aS.eq_16 @aS.eq_17)))) (And.intro (And.intro (And.intro @aS.eq_18 (And.intro @aS.eq_19 @aS.eq_20)) (And.intro @aS.eq_21 (And.intro @aS.eq_22 @aS.eq_23))) (And.intro (And.intro @aS.eq_24 (And.intro @aS.eq_25 @aS.eq_26)) (And.intro @aS.eq_27 (And.intro @aS.eq_28 @aS.eq_29))))) (And.intro (And.intro (And.intro (And.intro @aS.eq_30 (And.intro @aS.eq_31 @aS.eq_32)) (And.intro @aS.eq_33 (And.intro @aS.eq_34 @aS.eq_35))) (And.intro (And.intro @mZ.eq_1 (And.intro @mZ.eq_2 @mZ.eq_3)) (And.intro @mZ.eq_4 (And.intro @mZ.eq_5 @uK.eq_1)))) (And.intro (And.intro (And.intro @uK.eq_2 (And.intro @aK.eq_1 @aK.eq_2)) (And.intro @aK.eq_3 (And.intro @aK.eq_4 @aK.eq_5))) (And.intro (And.intro @aK.eq_6 (And.intro @aK.eq_7 @aK.eq_8)) (And.intro @aK.eq_9 (And.intro @aK.eq_10 @aK.eq_11)))))
def sA7:=And.intro (And.intro (And.intro (And.intro (And.intro @aK.eq_12 (And.intro @aK.eq_13 @aK.eq_14)) (And.intro @aK.eq_15 (And.intro @aK.eq_16 @aK.eq_17))) (And.intro (And.intro @aK.eq_18 (And.intro @aK.eq_19 @aK.eq_20)) (And.intro @aK.eq_21 (And.intro @aK.eq_22 @aK.eq_23)))) (And.intro (And.intro (And.intro @aK.eq_24 (And.intro @aK.eq_25 @aK.eq_26)) (And.intro @aK.eq_27 (And.intro @aK.eq_28 @aK.eq_29))) (And.intro (And.intro @aK.eq_30 (And.intro @aK.eq_31 @aK.eq_32)) (And.intro @aK.eq_33 (And.intro @aK.eq_34 @aK.eq_35))))) (And.intro (And.intro (And.intro (And.intro @aK.eq_36 (And.intro @aK.eq_37 @aK.eq_38)) (And.intro @aK.eq_39 (And.intro @aK.eq_40 @AOp.kind.eq_1))) (And.intro (And.intro @AOp.kind.eq_2 (And.intro @AOp.kind.eq_3 @AOp.kind.eq_4)) (And.intro @AOp.kind.eq_5 (And.intro @AOp.kind.eq_6 @aB.eq_1)))) (And.intro (And.intro (And.intro @aB.eq_2 (And.intro @aU.eq_1 @aU.eq_2)) (And.intro @vZ.eq_1 (And.intro @vZ.eq_2 @aY.eq_1))) (And.intro (And.intro @aY.eq_2 (And.intro @nth.eq_1 @nth.eq_2)) (And.intro @nth.eq_3 (And.intro @mt.eq_1 @mw.eq_1)))))
def sA8:=And.intro (And.intro @mo.eq_1 @Nat.ble.eq_1) (And.intro @Nat.ble.eq_2 @Nat.ble.eq_3)
def sA:=And.intro (And.intro (And.intro sA0 sA1) (And.intro sA2 sA3)) (And.intro (And.intro sA4 sA5) (And.intro sA6 (And.intro sA7 sA8)))
end Go.Mx
namespace Go.Mx
open Go
section
variable [LoopKit] {P:Program} {κ:Ctx} {nO:FuncId→List D→Cell→Prop}
def Jg (P:Program) (κ:Ctx) (f:FuncId) (ds:List D) (c:Cell):Prop:=∀ σ,kA P κ f ds σ (.ret c) σ
def Has (P:Program) (κ:Ctx) (nO:FuncId→List D→Cell→Prop) (f:FuncId) (ds:List D):Prop:=∃ c,nO f ds c∧Jg P κ f ds c
open Classical in
noncomputable def orc (P:Program) (κ:Ctx) (nO:FuncId→List D→Cell→Prop):aM:=fun f ds σ=>if h:Has P κ nO f ds then some (.ret (Classical.choose h),σ) else none
theorem zbt:iO P κ (orc P κ nO):=by
 intro f ds σ out σ' h
 unfold orc at h
 split at h
 ·rename_i hs
  cases h
  exact (Classical.choose_spec hs).2 σ
 ·cases h
theorem zl3 {f:FuncId} {ds:List D} (h:Has P κ nO f ds):∃ c,nO f ds c∧∀ σ,orc P κ nO f ds σ=some (.ret c,σ):=by
 refine ⟨Classical.choose h,(Classical.choose_spec h).1,fun σ=>?_⟩
 unfold orc
 rw [dif_pos h]
theorem Jg.weak {f:FuncId} {ds:List D} {o:Bool} {d:D} (hY:isY f=false) (h:Jg P κ f ds ⟨o,d⟩):Jg P κ f ds ⟨false,d⟩:=by
 intro σ
 have h1:=(iK hY).1 (h σ)
 refine (iK hY).2 ⟨h1.1,fun ι j own w vs hS hB hG hr=>(h1.2 ι j own w vs hS hB hG hr).mono ?_⟩
 rintro e w' ⟨ι',j',own',k1,k2,k3,k4⟩
 refine ⟨ι',j',own',k1,k2,k3,?_⟩
 cases e with
 | returned v=>exact ⟨k4.1,fun h=>by cases h⟩
 | panicked c=>exact k4
 | outgrown=>exact k4
theorem zaj:xJ P κ (fun _ _ _=>none):=fun _ _ _ _ _ h=>by cases h
theorem Bv [K:KitOf P ‹LoopKit›] {C:aM} {R:mN} (hC:iO P κ C) (hR:xZ P κ R) {n f:Nat} {fn:Func} {af:AFun} {ds:List D} {σ':Store} {c:Cell} (hY:isY f=false) (hfn:P.funcs[f]?=some fn) (hok:aO P fn af=true) (hlen:ds.length=af.nargs)
  (hd:aX ds=true) (hc:bS c.d=true) (h:(match exec C n none af.body (eT ds) σ0 with
     | some r=>nB R (fun _ _ _=>none) false af 0 r
     | none=>none)=some (.ret c,σ')):Jg P κ f ds c :=
 fun σ=>Fo hY (zya hC zaj hR hY hfn hok hlen h) hd hc σ
abbrev aV:=List (FuncId × (List D→Cell→Prop))
def zfs (S:aV) (f:FuncId) (ds:List D) (c:Cell):Prop:=∃ s,aB S f=some s∧s ds c
def has (S:aV) (f:FuncId):Bool:=bT (aB S f) false fun _=>true
noncomputable def Hr (P:Program) (κ:Ctx) (Γ:FuncId→Option AFun) (R:mN) (X:aM) (S:aV) (n:Nat):aM :=
 kM (fun f=>ifB (has S f) none (Γ f)) R (fun f ds σ=>ifB (has S f) (orc P κ (zfs S) f ds σ) (X f ds σ)) n false
noncomputable def Pe (P:Program) (κ:Ctx) (Γ:FuncId→Option AFun) (R:mN) (X:aM) (S:aV) (n:Nat):aM :=
 kM (fun f=>ifB (has S f) none (Γ f)) R (fun f ds σ=>ifB (has S f) (orc P κ (zfs S) f ds σ) (X f ds σ)) n true
theorem Ht [K:KitOf P ‹LoopKit›] {Γ:FuncId→Option AFun} {R:mN} {X:aM} {S:aV} (hΓ:Holds P Γ) (hR:xZ P κ R) (hX:iO P κ X) (n:Nat):iO P κ (Hr P κ Γ R X S n)∧xJ P κ (Pe P κ Γ R X S n):=by
 refine Ak (fun f af h=>?_) hR (fun f ds σ out σ' h=>?_) n
 ·cases hs:has S f with
  | true=>rw [hs] at h; cases h
  | false=>rw [hs] at h; exact hΓ f af h
 ·cases hs:has S f with
  | true=>rw [hs] at h; exact zbt _ _ _ _ _ h
  | false=>rw [hs] at h; exact hX _ _ _ _ _ h
theorem Ua {Γ:FuncId→Option AFun} {R:mN} {X:aM} {S:aV} {n:Nat} {f:FuncId} {af:AFun} {ds:List D} {σ:Store} (hs:has S f=false) (h:Γ f=some af) (hl:ds.length=af.nargs) :
  Hr P κ Γ R X S (n + 1) f ds σ=lP R (Pe P κ Γ R X S n) af σ.next (exec (Hr P κ Γ R X S n) n none af.body (eT ds) σ):=zvg (by rw [hs]; exact h) hl
theorem Ub {Γ:FuncId→Option AFun} {R:mN} {X:aM} {S:aV} {n:Nat} {f:FuncId} {ds:List D} {σ:Store} (hs:has S f=false) (h:Γ f=none) (hY:isY f=false):Hr P κ Γ R X S (n + 1) f ds σ=X f ds σ:=by
 refine (zh0 (by rw [hs]; exact h) hY).trans ?_
 rw [hs]
 rfl
theorem zh1 {Γ:FuncId→Option AFun} {R:mN} {X:aM} {S:aV} {f:FuncId} {s:List D→Cell→Prop} {ds:List D} {c:Cell} (hf:aB S f=some s) (hY:isY f=false) (hs:s ds c) (hp:Jg P κ f ds c):∃ c',s ds c'∧∀ n σ,Hr P κ Γ R X S (n + 1) f ds σ=some (.ret c',σ):=by
 have hh:has S f=true:=by unfold has; rw [hf]; rfl
 obtain ⟨c',⟨s',h1,h2⟩,h3⟩:=zl3 (P:=P) (κ:=κ) (nO:=zfs S) (f:=f) (ds:=ds) ⟨c,⟨s,hf,hs⟩,hp⟩
 rw [hf] at h1
 cases h1
 refine ⟨c',h2,fun n σ=>?_⟩
 refine (zh0 (by rw [hh]; rfl) hY).trans ?_
 rw [hh]
 exact h3 σ
end
end Go.Mx

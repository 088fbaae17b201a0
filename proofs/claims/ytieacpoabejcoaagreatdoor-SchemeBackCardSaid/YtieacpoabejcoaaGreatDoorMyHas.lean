/-
 The machine's run az equations that a rewriting follows: what is asked stands first,and is rewritten alone.
-/
import Derived.Test.YtieacpoabejcoaaGreatDoorMyCore
import Derived.Test.YtieacpoabejcoaaGreatDoorMyFrame
set_option linter.unusedSimpArgs false
set_option linter.unusedVariables false
set_option linter.unusedSectionVars false
namespace Go.Mx
open Go
abbrev XRes:=Option (AExit × Env × Store)
def thenX (x:XRes) (f:Env→Store→XRes):XRes:=match x with
 | some (.normal,e,σ)=>f e σ
 | r=>r
def blockX (id:Nat) (x:XRes):XRes:=match x with
 | some (.exit id',e,σ)=>ifB (id' == id) (some (.normal,e,σ)) (some (.exit id',e,σ))
 | r=>r
def scopeX (x:XRes):XRes:=match x with
 | some (.goto _,_,_)=>none
 | r=>r
def opsX (perm:Option (List Nat)) (clr:List Nat) (x:Option OpsOut):XRes:=match x with
 | some (.normal e σ)=>some (.normal,clearEnv e clr,σ)
 | some (.panic d e σ)=>some (.panic d,caseO perm e (fun _=>e.bare),σ)
 | none=>none
def callX (C:CallF) (rest:List AOper) (dst:Option Nat) (st:Option (List Nat)) (e:Env) (σ0:Store) (r:Option (Out × Store)):Option OpsOut:=match r with
 | some (.ret c,σ)=>ifB (stOK st e σ0 σ) (runOps C rest (e.put dst c) σ) none
 | some (.panic d,σ)=>ifB (stOK st e σ0 σ) (some (.panic d e σ)) none
 | none=>none
def stepX (C:CallF) (rest:List AOper) (dst:Option Nat) (st:Option (List Nat)) (e:Env) (σ:Store) (s:Option Step):Option OpsOut:=match s with
 | some (.next e' σ')=>ifB (stOK st e σ σ') (runOps C rest e' σ') none
 | some (.call f az)=>callX C rest dst st e σ (C f az σ)
 | some (.panic d)=>some (.panic d e σ)
 | none=>none
@[congr] theorem zqhb {x y:XRes} (f:Env→Store→XRes) (h:x=y):thenX x f=thenX y f:=by rw [h]
@[congr] theorem zozb {x y:XRes} (id:Nat) (h:x=y):blockX id x=blockX id y:=by rw [h]
@[congr] theorem zp6b {x y:XRes} (h:x=y):scopeX x=scopeX y:=by rw [h]
@[congr] theorem zqjb {x y:Option OpsOut} (p:Option (List Nat)) (l:List Nat) (h:x=y):opsX p l x=opsX p l y:=by rw [h]
@[congr] theorem zqeb {x y:Option (Out × Store)} (C:CallF) (rest:List AOper) (dst:Option Nat) (st:Option (List Nat)) (e:Env) (σ0:Store) (h:x=y):callX C rest dst st e σ0 x=callX C rest dst st e σ0 y:=by rw [h]
@[congr] theorem zqgb {x y:Option Step} (C:CallF) (rest:List AOper) (dst:Option Nat) (st:Option (List Nat)) (e:Env) (σ:Store) (h:x=y):stepX C rest dst st e σ x=stepX C rest dst st e σ y:=by rw [h]
section
variable {C:CallF} {n:Nat} {e:Env} {σ:Store}
theorem zyf {f:Env→Store→XRes}:thenX (some (.normal,e,σ)) f=f e σ:=rfl
theorem zewb {id:Nat} {f:Env→Store→XRes}:thenX (some (.exit id,e,σ)) f=some (.exit id,e,σ):=rfl
theorem zh4b {f:Env→Store→XRes}:thenX (some (.ret,e,σ)) f=some (.ret,e,σ):=rfl
theorem zavb {d:D} {f:Env→Store→XRes}:thenX (some (.panic d,e,σ)) f=some (.panic d,e,σ):=rfl
theorem zum {id:Nat}:blockX id (some (.normal,e,σ))=some (.normal,e,σ):=rfl
theorem zy8 {id id':Nat}:blockX id (some (.exit id',e,σ))=ifB (id' == id) (some (.normal,e,σ)) (some (.exit id',e,σ)):=rfl
theorem zcsb {id:Nat}:blockX id (some (.ret,e,σ))=some (.ret,e,σ):=rfl
theorem zvs {id:Nat} {d:D}:blockX id (some (.panic d,e,σ))=some (.panic d,e,σ):=rfl
theorem zz7 {p:Option (List Nat)} {l:List Nat}:opsX p l (some (.normal e σ))=some (.normal,clearEnv e l,σ):=rfl
theorem zrl {l:List Nat} {d:D}:opsX none l (some (.panic d e σ))=some (.panic d,e,σ):=rfl
theorem zrm {p:List Nat} {l:List Nat} {d:D}:opsX (some p) l (some (.panic d e σ))=some (.panic d,e.bare,σ):=rfl
theorem zffb {rest:List AOper} {dst:Option Nat} {c:Cell} {σ0:Store}:callX C rest dst none e σ0 (some (.ret c,σ))=runOps C rest (e.put dst c) σ:=rfl
theorem zqz {rest:List AOper} {dst:Option Nat} {c:Cell} {σ0:Store} {ws:List Nat}:callX C rest dst (some ws) e σ0 (some (.ret c,σ))=ifB (ws.all (sameW e σ0 σ)) (runOps C rest (e.put dst c) σ) none:=rfl
theorem zy9 {rest:List AOper} {dst:Option Nat} {d:D} {σ0:Store}:callX C rest dst none e σ0 (some (.panic d,σ))=some (.panic d e σ):=rfl
theorem zelb {rest:List AOper} {dst:Option Nat} {e':Env} {σ':Store}:stepX C rest dst none e σ (some (.next e' σ'))=runOps C rest e' σ':=rfl
theorem zekb {rest:List AOper} {dst:Option Nat} {st:Option (List Nat)} {f:FuncId} {az:List D}:stepX C rest dst st e σ (some (.call f az))=callX C rest dst st e σ (C f az σ):=rfl
theorem zafb {rest:List AOper} {dst:Option Nat} {st:Option (List Nat)} {d:D}:stepX C rest dst st e σ (some (.panic d))=some (.panic d e σ):=rfl
theorem zva (k:IntKind):za1 k k=true:=by cases k <;> rfl
mutual
theorem D.same_refl:∀ d:D,D.same d d=true
 | .undef=>rfl
 | .bool b=>by simp [D.same]
 | .int k n=>by simp [D.same,zva]
 | .str s=>by simp [D.same]
 | .nils=>rfl
 | .list k es=>by simp [D.same,zft es]
 | .agg es=>by simp [D.same,zft es]
 | .tup es=>by simp [D.same,zft es]
 | .nilp=>rfl
 | .ptr a b=>by simp [D.same]
 | .eptr d=>by simp [D.same,D.same_refl d]
 | .fn f a b=>by simp [D.same,zft a,zft b]
 | .nilfn=>rfl
 | .iface t d=>by simp [D.same,D.same_refl d]
 | .niliface=>rfl
 | .junk=>rfl
 | .arr k a b c=>by simp [D.same]
 | .empt=>rfl
 | .map a=>by simp [D.same]
 | .nilmap=>rfl
 | .yld a=>by simp [D.same]
theorem zft:∀ l:List D,sameL l l=true
 | []=>rfl
 | d :: l=>by simp [sameL,D.same_refl d,zft l]
end
theorem zpk:∀ l:List Cell,zf1 l l=true
 | []=>rfl
 | c :: l=>by simp [zf1,D.same_refl,zpk l]
theorem zpl:∀ l:List (D × D × Nat),zgv l l=true
 | []=>rfl
 | (a,b,c) :: l=>by simp [zgv,D.same_refl,zpl l]
theorem zlm {α:Type}:∀ (l:List (Nat × α)) (p:Nat × α),p∈l→(aget l p.1).isSome=true
 | [],_,h=>by cases h
 | (k,v) :: l,p,h=>by
  simp only [aget]
  cases hk:k == p.1 with
  | true=>rfl
  | false =>
   rcases List.mem_cons.1 h with rfl | h
   ·simp at hk
   ·exact zlm l p h
theorem zr0 (x:List Cell):sameO (some x) (some x)=true:=zpk x
theorem zrz (x:Oth):sameM (some x) (some x)=true:=by
 cases x with
 | it s n=>simp [sameM]
 | map es c=>simp [sameM,zpl]
 | loop r=>simp [sameM]
 | dfr=>simp [sameM]
 | mit a b c d=>simp [sameM]
theorem zefb (e:Env) (σ:Store) (s:Nat):sameW e σ σ s=true:=by
 unfold sameW
 cases aget e.slots s with
 | none=>rfl
 | some c =>
  simp only [zab]
  cases c.d <;> try rfl
  ·rename_i id off
   show (caseO (aget σ.objs id) true fun cs=>sameO (some cs) (aget σ.objs id))=true
   cases h:aget σ.objs id with
   | none=>rfl
   | some x=>exact zr0 x
  ·rename_i id
   show (caseO (aget σ.oth id) true fun x=>sameM (some x) (aget σ.oth id))=true
   cases h:aget σ.oth id with
   | none=>rfl
   | some x=>exact zrz x
theorem zctb {C:CallF} {e:Env} {σ:Store} {rest:List AOper} {dst:Option Nat} {c:Cell} {ws:List Nat}:callX C rest dst (some ws) e σ (some (.ret c,σ))=runOps C rest (e.put dst c) σ:=by
 show ifB (ws.all (sameW e σ σ)) _ none=_
 have:ws.all (sameW e σ σ)=true:=List.all_eq_true.2 fun s _=>zefb e σ s
 rw [this]
 rfl
theorem zeab:runOps C [] e σ=some (.normal e σ):=rfl
theorem zz9 {o:AOper} {rest:List AOper}:runOps C (o :: rest) e σ=stepX C rest o.dst (stableOf o.op) e σ (stepOp C o e σ):=by
 simp only [runOps,bindO,caseO,stepX]
 cases stepOp C o e σ with
 | none=>rfl
 | some s =>
  cases s with
  | next e' σ'=>rfl
  | panic d=>rfl
  | call f az =>
   simp only [callX]
   cases C f az σ with
   | none=>rfl
   | some r=>obtain ⟨o,s⟩:=r; cases o <;> rfl
theorem zf0b {ro:Option Nat}:exec C n ro .skip e σ=some (.normal,e,σ):=rfl
theorem zfyb {ro:Option Nat} {id:Nat}:exec C n ro (.exit id) e σ=some (.exit id,e,σ):=rfl
theorem zizb {ro:Option Nat}:exec C n ro .ret e σ=some (.ret,e,σ):=rfl
theorem zc7b {ro:Option Nat} {b:ACode}:exec C n ro (.scope b) e σ=scopeX (exec C n ro b e σ):=by
 rw [exec]
 unfold scopeX
 rfl
theorem zvb:scopeX (some (.normal,e,σ))=some (.normal,e,σ):=rfl
theorem zadb {id:Nat}:scopeX (some (.exit id,e,σ))=some (.exit id,e,σ):=rfl
theorem zegb:scopeX (some (.ret,e,σ))=some (.ret,e,σ):=rfl
theorem zxx {d:D}:scopeX (some (.panic d,e,σ))=some (.panic d,e,σ):=rfl
theorem zzj {ro:Option Nat} {ops:List AOper} {p:Option (List Nat)} {clr:List Nat}:exec C n ro (.region ops p clr) e σ=opsX p clr (runOps C ops e σ):=by
 rw [exec]
 unfold opsX
 cases runOps C ops e σ with
 | none=>rfl
 | some r=>cases r <;> rfl
theorem zi0b {ro:Option Nat} {a b:ACode}:exec C n ro (.seq a b) e σ=thenX (exec C n ro a e σ) (exec C n ro b):=by
 rw [exec]
 unfold thenX
 cases exec C n ro a e σ with
 | none=>rfl
 | some r=>obtain ⟨x,e',σ'⟩:=r; cases x <;> rfl
theorem zfxb {ro:Option Nat} {c:AOpd} {t f:ACode}:exec C n ro (.cond c t f) e σ=bindO (opd e c) fun c=>bindO c.d.bool? fun b=>ifB b (exec C n ro t e σ) (exec C n ro f e σ):=by rw [exec]
theorem zc6b {ro:Option Nat} {id:Nat} {b:ACode}:exec C n ro (.block id b) e σ=blockX id (exec C n ro b e σ):=by
 rw [exec]
 unfold blockX
 cases exec C n ro b e σ with
 | none=>rfl
 | some r=>obtain ⟨x,e',σ'⟩:=r; cases x <;> rfl
theorem zo5 {ro:Option Nat} {it nx more out:Nat} {drop clr:List Nat} {b:ACode}:exec C n ro (.rangeM it nx more out drop clr b) e σ=rangeN (exec C n ro b) it nx more out (idsAt e drop) clr n e σ:=by rw [exec]
theorem zfzb {ro:Option Nat} {b:ACode}:exec C n ro (.loop b) e σ=loopN (exec C n ro b) n e σ:=by rw [exec]
end
def rangeX (l:Nat) (e:Env) (x:Option (Out × Store)):XRes:=match x with
 | some (.ret _,σ)=>endLoop l e σ
 | _=>none
@[congr] theorem zp4b (l:Nat) (e:Env) {x y:Option (Out × Store)} (h:x=y):rangeX l e x=rangeX l e y:=by rw [h]
theorem zd7b {l:Nat} {e:Env} {c:Cell} {σ:Store}:rangeX l e (some (.ret c,σ))=endLoop l e σ:=rfl
theorem zzi {C:CallF} {n:Nat} {e:Env} {σ:Store} {ro:Option Nat} {g:AOpd} {ps:List Nat} {a b:ACode}:exec C n ro (.rangeF g ps a b) e σ=bindO (opd e g) fun c=>bindO c.d.fnF? fun f =>
  bindO (enterLoop ro ⟨snap e.slots,ps,a,b,.ready⟩ e σ) fun x=>rangeX x.1 x.2.1 (C f.1 (f.2.1 ++ [.yld x.1] ++ f.2.2) x.2.2):=by
 rw [exec]
 simp only [bindO]
 congr 1
 funext c
 congr 1
 funext f
 congr 1
 funext x
 cases C f.1 (f.2.1 ++ [.yld x.1] ++ f.2.2) x.2.2 with
 | none=>rfl
 | some r=>obtain ⟨o,s⟩:=r; cases o <;> rfl
def finX (R:RecF) (C:CallF) (af:AFun) (m:Nat) (x:XRes):Option (Out × Store):=match x with
 | some r=>ze1 R C false af m r
 | none=>none
@[congr] theorem zqib (R:RecF) (C:CallF) (af:AFun) (m:Nat) {x y:XRes} (h:x=y):finX R C af m x=finX R C af m y:=by rw [h]
def resX (af:AFun) (m:Nat) (e:Env) (r:Option (Option D × Store)):Option (Out × Store):=match r with
 | some (none,σ)=>bindO (readRes e σ af.res) fun c=>some (.ret c,ifB af.gc (σ.trunc m) σ)
 | _=>none
def resP (af:AFun) (m:Nat) (e:Env) (r:Option (Option D × Store)):Option (Out × Store):=match r with
 | some (none,σ)=>bindO (readRes e σ af.res) fun c=>some (.ret c,ifB af.gc (σ.trunc m) σ)
 | some (some d,σ)=>some (.panic d,ifB af.gc (σ.trunc m) σ)
 | none=>none
@[congr] theorem zqlb (af:AFun) (m:Nat) (e:Env) {x y:Option (Option D × Store)} (h:x=y):resX af m e x=resX af m e y:=by rw [h]
@[congr] theorem zqkb (af:AFun) (m:Nat) (e:Env) {x y:Option (Option D × Store)} (h:x=y):resP af m e x=resP af m e y:=by rw [h]
section
variable {R:RecF} {C:CallF} {af:AFun} {m:Nat} {e:Env} {σ:Store}
theorem zi2b:finX R C af m (some (.ret,e,σ))=resX af m e (runDefers R C none e.defers σ):=by
 simp only [finX,ze1,Bool.false_and,zad,resX,bindO]
 cases runDefers R C none e.defers σ with
 | none=>rfl
 | some r=>obtain ⟨x,s⟩:=r; cases x <;> rfl
theorem zzk:finX R C af m (some (.normal,e,σ))=resX af m e (runDefers R C none e.defers σ):=by
 simp only [finX,ze1,Bool.false_and,zad,resX,bindO]
 cases runDefers R C none e.defers σ with
 | none=>rfl
 | some r=>obtain ⟨x,s⟩:=r; cases x <;> rfl
theorem zc8b {d:D}:finX R C af m (some (.panic d,e,σ))=resP af m e (runDefers R C (some d) e.defers σ):=by
 simp only [finX,ze1,Bool.false_and,zad,resP,bindO]
 cases runDefers R C (some d) e.defers σ with
 | none=>rfl
 | some r=>obtain ⟨x,s⟩:=r; cases x <;> rfl
theorem zu8 {d:Option D}:runDefers R C d [] σ=some (d,σ):=rfl
theorem zhub:resX af m e (some (none,σ))=bindO (readRes e σ af.res) fun c=>some (.ret c,ifB af.gc (σ.trunc m) σ):=rfl
theorem zhsb:resP af m e (some (none,σ))=bindO (readRes e σ af.res) fun c=>some (.ret c,ifB af.gc (σ.trunc m) σ):=rfl
theorem zhtb {d:D}:resP af m e (some (some d,σ))=some (.panic d,ifB af.gc (σ.trunc m) σ):=rfl
end
section
variable {Γ:FuncId→Option AFun} {R:RecF} {X:CallF}
theorem zlfb {n:Nat} {f:FuncId} {af:AFun} {ds:List D} {σ:Store} (h:Γ f=some af) (hl:ds.length=af.nargs):runQ Γ R X (n + 1) false f ds σ=finX R (runQ Γ R X n true) af σ.next (exec (runQ Γ R X n false) n none af.body (zch ds) σ):=by
 rw [runQ,h]
 simp only [hl,beq_self_eq_true,zac]
 unfold finX
 cases exec (runQ Γ R X n false) n none af.body (zch ds) σ <;> rfl
theorem zxu {n:Nat} {f:FuncId} {ds:List D} {σ:Store} (h:Γ f=none) (hY:isY f=false):runQ Γ R X (n + 1) false f ds σ=X f ds σ:=by
 rw [runQ,h]
 simp only [zad,hY]
end
section
variable {b:Bool} {k:IntKind} {n:Int} {s:List UInt8} {ds a cs:List D} {f:FuncId} {t:TypeId} {d:D} {r:RowK}
theorem bool?_bool:(D.bool b).bool?=some b:=rfl
theorem bool?_undef:(D.undef).bool?=none:=rfl
theorem int?_int:(D.int k n).int?=some (k,n):=rfl
theorem str?_str:(D.str s).str?=some s:=rfl
theorem tup?_tup:(D.tup ds).tup?=some ds:=rfl
theorem fn?_fn (h:isY f=false):(D.fn (.func f) a cs).fn?=some (f,a,cs):=by simp only [D.fn?,h,zad]
theorem fnF?_fn (h:isY f=false):(D.fn (.func f) a cs).fnF?=some (f,a,cs):=by simp only [D.fnF?,h,zad]
theorem fn?_yld {id:Nat}:(D.yld id).fn?=some (yldBase + id,[],[]):=rfl
theorem agg?_agg:(D.agg cs).agg?=some cs:=rfl
theorem row?_list:(D.list r cs).row?=some (r,cs):=rfl
theorem isNil?_iface:(D.iface t d).isNil?=some false:=rfl
theorem isNil?_nil:(D.niliface).isNil?=some true:=rfl
theorem zfhb:(D.agg cs).cells=cs:=rfl
theorem zflb:(D.int k n).cells=[D.int k n]:=rfl
theorem zcxb:(D.bool b).cells=[D.bool b]:=rfl
theorem zfob:(D.str s).cells=[D.str s]:=rfl
theorem zc1b:(D.nils).cells=[D.nils]:=rfl
theorem zczb:(D.list r cs).cells=[D.list r cs]:=rfl
theorem zc0b:(D.nilp).cells=[D.nilp]:=rfl
theorem zfnb {i o:Nat}:(D.ptr i o).cells=[D.ptr i o]:=rfl
theorem zza:(D.iface t d).cells=[D.iface t d]:=rfl
theorem ziub {g:Fn}:(D.fn g a cs).cells=[D.fn g a cs]:=rfl
theorem zzb:(D.nilfn).cells=[D.nilfn]:=rfl
theorem zsi:(D.niliface).cells=[D.niliface]:=rfl
theorem zn4b:(D.agg cs).one=false:=rfl
theorem zn7b:(D.int k n).one=true:=rfl
theorem zk2b:(D.bool b).one=true:=rfl
theorem zoab:(D.str s).one=true:=rfl
theorem zk6b:(D.nils).one=true:=rfl
theorem zk4b:(D.list r cs).one=true:=rfl
theorem zk5b:(D.nilp).one=true:=rfl
theorem zn9b {i o:Nat}:(D.ptr i o).one=true:=rfl
theorem zhcb:(D.iface t d).one=true:=rfl
theorem zxn:(D.niliface).one=true:=rfl
theorem zpyb {g:Fn}:(D.fn g a cs).one=true:=rfl
theorem zhdb:(D.nilfn).one=true:=rfl
theorem zppb:(D.agg cs).ok=true:=rfl
theorem zpsb:(D.int k n).ok=true:=rfl
theorem znxb:(D.bool b).ok=true:=rfl
theorem zpvb:(D.str s).ok=true:=rfl
theorem zn1b:(D.nils).ok=true:=rfl
theorem znzb:(D.list r cs).ok=true:=rfl
theorem zn0b:(D.nilp).ok=true:=rfl
theorem zpub {i o:Nat}:(D.ptr i o).ok=true:=rfl
theorem zk0b:(D.iface t d).ok=true:=rfl
theorem zzz:(D.niliface).ok=true:=rfl
theorem ok_fn {g:Fn}:(D.fn g a cs).ok=true:=rfl
theorem zk1b:(D.nilfn).ok=true:=rfl
theorem zfib {i o l:Nat}:(D.arr r i o l).cells=[D.arr r i o l]:=rfl
theorem zcyb:D.empt.cells=[D.empt]:=rfl
theorem zfmb {i:Nat}:(D.map i).cells=[D.map i]:=rfl
theorem zvv:D.nilmap.cells=[D.nilmap]:=rfl
theorem zn5b {i o l:Nat}:(D.arr r i o l).one=true:=rfl
theorem zk3b:D.empt.one=true:=rfl
theorem zn8b {i:Nat}:(D.map i).one=true:=rfl
theorem zdzb:D.nilmap.one=true:=rfl
theorem zpqb {i o l:Nat}:(D.arr r i o l).ok=true:=rfl
theorem znyb:D.empt.ok=true:=rfl
theorem zptb {i:Nat}:(D.map i).ok=true:=rfl
theorem zhbb:D.nilmap.ok=true:=rfl
theorem zgpb {i o l:Nat}:lenOf (.arr r i o l)=some l:=rfl
theorem zdkb:lenOf .empt=some 0:=rfl
theorem zys:asList .empt=some []:=rfl
theorem zzt:(D.nils).isNilS?=some true:=rfl
theorem zdib {i o l:Nat}:(D.arr r i o l).isNilS?=some false:=rfl
theorem zwj:(dlist r cs).isNilS?=some cs.isEmpty:=by cases cs <;> rfl
theorem zdfb:D.nilmap.isNilM?=some true:=rfl
theorem zdeb {i:Nat}:(D.map i).isNilM?=some false:=rfl
theorem zzw {os:List (Nat × List Cell)}:listOf os .nils=some []:=rfl
theorem zzv {os:List (Nat × List Cell)}:listOf os .empt=some []:=rfl
theorem zdp {os:List (Nat × List Cell)}:listOf os (.list r cs)=some cs:=rfl
theorem zwu {os:List (Nat × List Cell)}:listOf os (dlist r cs)=some cs:=by cases cs <;> rfl
theorem zgw {sz l i o n:Nat} {h:Option Nat}:za2 sz (.arr r i o n) l h=ifB (decide (l≤h.getD n) && decide (h.getD n≤n) && r.sz == sz) (some (.arr r i (o + l) (h.getD n - l))) none:=rfl
theorem zbw {sz n i o l:Nat}:zaw sz (.arr r i o l) n=ifB (r.sz == sz && decide (n < l)) (some (.ptr i ((o + n) * sz))) none:=rfl
theorem zdgb:D.nilp.isNilP?=some true:=rfl
theorem zdhb {i o:Nat}:(D.ptr i o).isNilP?=some false:=rfl
theorem zzq:(D.eptr d).isNilP?=some false:=rfl
theorem zbp:(dlist r cs).one=true:=by cases cs <;> rfl
theorem zjs:(dlist r cs).ok=true:=by cases cs <;> rfl
theorem zhk:(dlist r cs).cells=[dlist r cs]:=by cases cs <;> rfl
theorem zc0:dlist r []=.nils:=rfl
theorem zdmb:lenOf .nils=some 0:=rfl
theorem zdlb:lenOf (.list r cs)=some cs.length:=rfl
theorem zbs:lenOf (dlist r cs)=some cs.length:=by cases cs <;> rfl
theorem zyt:asList .nils=some []:=rfl
theorem zo3:asList (.list r cs)=some cs:=rfl
theorem zjg:asList (dlist r cs)=some cs:=by cases cs <;> rfl
theorem nat?_nat {i:Nat}:D.nat? (.int k (i:Int))=some i:=by
 simp [D.nat?,zac]
theorem nat?_zero:D.nat? (.int k 0)=some 0:=rfl
theorem zhnb {i o:Nat}:ptrOf (.ptr i o)=some (.ptr i o):=rfl
theorem zd4b:ptrOf (.eptr d)=some (.eptr d):=rfl
theorem zd5b:ptrOf .nilp=none:=rfl
end
section
variable {o o' b:Bool} {k:IntKind} {n:Int} {s:List UInt8} {ds:List D} {kr:RowK} {r:List Cell} {dr:List D}
theorem zv9:firstOwn []=false:=rfl
theorem zv8:firstOwn (⟨o,.int k n⟩ :: r)=firstOwn r:=rfl
theorem zun:firstOwn (⟨o,.bool b⟩ :: r)=firstOwn r:=rfl
theorem zwa:firstOwn (⟨o,.str s⟩ :: r)=firstOwn r:=rfl
theorem zuq:firstOwn (⟨o,.nils⟩ :: r)=firstOwn r:=rfl
theorem zup:firstOwn (⟨o,.list kr ds⟩ :: r)=o:=rfl
theorem zuo:firstOwn [⟨o,dlist kr ds⟩]=(!ds.isEmpty && o):=by cases ds <;> rfl
theorem zeyb:unownF []=[]:=rfl
theorem zexb:unownF (⟨o,.int k n⟩ :: r)=⟨o,.int k n⟩ :: unownF r:=rfl
theorem za1b:unownF (⟨o,.bool b⟩ :: r)=⟨o,.bool b⟩ :: unownF r:=rfl
theorem zezb:unownF (⟨o,.str s⟩ :: r)=⟨o,.str s⟩ :: unownF r:=rfl
theorem za3b:unownF (⟨o,.nils⟩ :: r)=⟨o,.nils⟩ :: unownF r:=rfl
theorem za2b:unownF [⟨o,dlist kr ds⟩]=[⟨ds.isEmpty && o,dlist kr ds⟩]:=by cases ds <;> rfl
theorem zkbb:layA o []=[]:=rfl
theorem zkab:layA o (.int k n :: dr)=⟨false,.int k n⟩ :: layA o dr:=rfl
theorem zgjb:layA o (.bool b :: dr)=⟨false,.bool b⟩ :: layA o dr:=rfl
theorem zkcb:layA o (.str s :: dr)=⟨false,.str s⟩ :: layA o dr:=rfl
theorem zgmb:layA o (.nils :: dr)=⟨false,.nils⟩ :: layA o dr:=rfl
theorem zglb:layA o (.list kr ds :: dr)=⟨o,.list kr ds⟩ :: dr.map Cell.of:=rfl
theorem zgkb:layA o [dlist kr ds]=[⟨!ds.isEmpty && o,dlist kr ds⟩]:=by cases ds <;> rfl
end
theorem zkz {α β:Type} (f:α→β):∀ (l:List α) (i:Nat),nth (l.map f) i=(nth l i).map f
 | [],_=>rfl
 | _ :: _,0=>rfl
 | _ :: l,i + 1=>zkz f l i
theorem zky {α:Type}:∀ (l:List α) (i:Nat) (h:i < l.length),nth l i=some (l[i])
 | x :: l,0,_=>rfl
 | _ :: l,i + 1,h=>zky l i (by simpa using h)
theorem zkb {sz:Nat}:∀ {ds:List D},(∀ d∈ds,d.ok=true∧d.cells.length=sz)→zau sz ds=true
 | [],_=>rfl
 | d :: r,h=>by
  obtain ⟨h1,h2⟩:=h d (List.mem_cons_self ..)
  simp only [zau,h1,h2,beq_self_eq_true,Bool.true_and]
  exact zkb fun x hx=>h x (List.mem_cons_of_mem _ hx)
theorem zfn {r:RowK} {by_:Nat} {es:List D} {o:Bool} {y:D} (ho:es≠[]→o=true) (hy1:y.ok=true) (hy2:y.cells.length=r.sz) (h1:(es.length + 1) * by_≤bound) (h2:es.length + 1≤bound) :
  zbb r by_ ⟨o,dlist r es⟩ [y]=some ⟨true,dlist r (es ++ [y])⟩:=by
 have hm:zdc r ⟨o,dlist r es⟩=true:=by
  cases es with
  | nil=>rfl
  | cons x l=>simp [zdc,dlist,ho (by simp),RowK.same]
 have hj:zd8 r (dlist r es) [y]=dlist r (es ++ [y]):=by
  cases es <;> rfl
 simp only [zbb,zjg,zo3,hm,hj,zau,hy1,hy2,bindO,zab,List.length_cons,List.length_nil,Nat.zero_add,decide_eq_true h1,decide_eq_true h2,beq_self_eq_true,Bool.and_self,zac]
theorem zyr {r:RowK} {by_:Nat} {es ys:List D} {o:Bool} (ho:es≠[]→o=true) (hy:∀ d∈ys,d.ok=true∧d.cells.length=r.sz) (h1:(es.length + ys.length) * by_≤bound) (h2:es.length + ys.length≤bound) :
  zbb r by_ ⟨o,dlist r es⟩ ys=some ⟨true,dlist r (es ++ ys)⟩:=by
 have hm:zdc r ⟨o,dlist r es⟩=true:=by
  cases es with
  | nil=>rfl
  | cons x l=>simp [zdc,dlist,ho (by simp),RowK.same]
 have hj:zd8 r (dlist r es) ys=dlist r (es ++ ys):=by
  cases es <;> rfl
 simp only [zbb,zjg,hm,hj,zkb hy,bindO,zab,decide_eq_true h1,decide_eq_true h2,Bool.and_self,zac]
def Evly (p:Nat→Prop):Prop:=∃ n0,∀ n,n0≤n→p n
theorem Evly.all {p:Nat→Prop} (h:∀ n,p n):Evly p:=⟨0,fun n _=>h n⟩
theorem Evly.and {p q:Nat→Prop} (h:Evly p) (k:Evly q):Evly fun n=>p n∧q n:=by
 obtain ⟨a,ha⟩:=h
 obtain ⟨b,hb⟩:=k
 exact ⟨max a b,fun n hn=>⟨ha n (by omega),hb n (by omega)⟩⟩
theorem Evly.mono {p q:Nat→Prop} (h:Evly p) (k:∀ n,p n→q n):Evly q:=by
 obtain ⟨a,ha⟩:=h
 exact ⟨a,fun n hn=>k n (ha n hn)⟩
theorem Evly.step {p q:Nat→Prop} (h:Evly p) (k:Nat) (s:∀ n,k≤n→p n→q (n + 1)):Evly q:=by
 obtain ⟨a,ha⟩:=h
 refine ⟨max a k + 1,fun n hn=>?_⟩
 obtain ⟨m,rfl⟩:∃ m,n=m + 1:=⟨n - 1,by omega⟩
 exact s m (by omega) (ha m (by omega))
theorem Evly.list {α:Type} (l:List α) {p:α→Nat→Prop} (h:∀ x∈l,Evly (p x)):Evly fun n=>∀ x∈l,p x n:=by
 induction l with
 | nil=>exact .all fun n x hx=>by cases hx
 | cons a l ih =>
  refine ((h a (List.mem_cons_self ..)).and (ih fun x hx=>h x (List.mem_cons_of_mem _ hx))).mono fun n hn x hx=>?_
  rcases List.mem_cons.1 hx with e | k
  ·rw [e]; exact hn.1
  ·exact hn.2 x k
theorem Evly.below {p:Nat→Nat→Prop}:∀ (k:Nat),(∀ i,i < k→Evly (p i))→Evly fun n=>∀ i,i < k→p i n
 | 0,_=>.all fun n i hi=>by omega
 | k + 1,h=>((Evly.below k fun i hi=>h i (by omega)).and (h k (by omega))).mono fun n hn i hi=>by
  by_cases hik:i=k
  ·rw [hik]; exact hn.2
  ·exact hn.1 i (by omega)
theorem zbz {body:Env→Store→XRes} (E:Nat→Env) (S:Nat→Store) (k:Nat) {r:AExit × Env × Store} (hr:∀ e σ,r≠(.normal,e,σ)) (hstep:∀ i,i < k→body (E i) (S i)=some (.normal,E (i + 1),S (i + 1))) (hend:body (E k) (S k)=some r) :
  ∀ (j n:Nat),j≤k→k < n + j→loopN body n (E j) (S j)=some r
 | j,0,h1,h2=>by omega
 | j,n + 1,h1,h2=>by
  rw [loopN]
  by_cases hj:j=k
  ·rw [hj,hend]
   obtain ⟨x,e,σ⟩:=r
   cases x with
   | normal=>exact absurd rfl (hr e σ)
   | _=>rfl
  ·rw [hstep j (by omega)]
   exact zbz E S k hr hstep hend (j + 1) n (by omega) (by omega)
theorem zfb {body:Env→Store→XRes} (E:Nat→Env) (S:Nat→Store) (k:Nat) (p:Nat→Bool) {r:AExit × Env × Store} (stop:Nat→AExit × Env × Store) (hr:∀ e σ,r≠(.normal,e,σ)) (hs:∀ i e σ,stop i≠(.normal,e,σ))
  (hstep:∀ i,i < k→p i=true→body (E i) (S i)=some (.normal,E (i + 1),S (i + 1))) (hstop:∀ i,i < k→p i=false→body (E i) (S i)=some (stop i)) (hend:body (E k) (S k)=some r) :
  ∀ (n j:Nat),j≤k→k < n + j→(∃ i,j≤i∧i < k∧p i=false∧(∀ i',j≤i'→i' < i→p i'=true)∧loopN body n (E j) (S j)=some (stop i))∨((∀ i,j≤i→i < k→p i=true)∧loopN body n (E j) (S j)=some r)
 | 0,j,h1,h2=>by omega
 | n + 1,j,h1,h2=>by
  rw [loopN]
  by_cases hj:j=k
  ·refine .inr ⟨fun i h3 h4=>by omega,?_⟩
   rw [hj,hend]
   obtain ⟨x,e,σ⟩:=r
   cases x with
   | normal=>exact absurd rfl (hr e σ)
   | _=>rfl
  ·cases hp:p j with
   | false =>
    refine .inl ⟨j,by omega,by omega,hp,fun i' h3 h4=>by omega,?_⟩
    rw [hstop j (by omega) hp]
    cases hst:stop j with
    | mk x y =>
    obtain ⟨e,σ⟩:=y
    cases x with
    | normal=>exact absurd hst (hs j e σ)
    | _=>rfl
   | true =>
    rw [hstep j (by omega) hp]
    rcases zfb E S k p stop hr hs hstep hstop hend n (j + 1) (by omega) (by omega) with ⟨i,h3,h4,h5,h6,h7⟩ | ⟨h3,h4⟩
    ·refine .inl ⟨i,by omega,h4,h5,fun i' h8 h9=>?_,h7⟩
     by_cases hij:i'=j
     ·rw [hij]; exact hp
     ·exact h6 i' (by omega) h9
    ·refine .inr ⟨fun i h5 h6=>?_,h4⟩
     by_cases hij:i=j
     ·rw [hij]; exact hp
     ·exact h3 i (by omega) h6
end Go.Mx
namespace Go.Mx
open Go
section
variable [LoopKit] {P:Program} {κ:Ctx} {Post:FuncId→List D→Cell→Prop}
def Pure (P:Program) (κ:Ctx) (f:FuncId) (ds:List D) (c:Cell):Prop:=∀ σ,zdk P κ f ds σ (.ret c) σ
def Has (P:Program) (κ:Ctx) (Post:FuncId→List D→Cell→Prop) (f:FuncId) (ds:List D):Prop:=∃ c,Post f ds c∧Pure P κ f ds c
open Classical in
noncomputable def orc (P:Program) (κ:Ctx) (Post:FuncId→List D→Cell→Prop):CallF:=fun f ds σ=>if h:Has P κ Post f ds then some (.ret (Classical.choose h),σ) else none
theorem zhfb:zcm P κ (orc P κ Post):=by
 intro f ds σ out σ' h
 unfold orc at h
 split at h
 ·rename_i hs
  cases h
  exact (Classical.choose_spec hs).2 σ
 ·cases h
theorem zobb {f:FuncId} {ds:List D} (h:Has P κ Post f ds):∃ c,Post f ds c∧∀ σ,orc P κ Post f ds σ=some (.ret c,σ):=by
 refine ⟨Classical.choose h,(Classical.choose_spec h).1,fun σ=>?_⟩
 unfold orc
 rw [dif_pos h]
theorem Pure.weak {f:FuncId} {ds:List D} {o:Bool} {d:D} (hY:isY f=false) (h:Pure P κ f ds ⟨o,d⟩):Pure P κ f ds ⟨false,d⟩:=by
 intro σ
 have h1:=(zcd hY).1 (h σ)
 refine (zcd hY).2 ⟨h1.1,fun ι j own w vs hS hB hG hr=>(h1.2 ι j own w vs hS hB hG hr).mono ?_⟩
 rintro e w' ⟨ι',j',own',k1,k2,k3,k4⟩
 refine ⟨ι',j',own',k1,k2,k3,?_⟩
 cases e with
 | returned v=>exact ⟨k4.1,fun h=>by cases h⟩
 | panicked c=>exact k4
 | outgrown=>exact k4
theorem zsx:zi1 P κ (fun _ _ _=>none):=fun _ _ _ _ _ h=>by cases h
theorem zkp [K:KitOf P ‹LoopKit›] {C:CallF} {R:RecF} (hC:zcm P κ C) (hR:zjb P κ R) {n f:Nat} {fn:Func} {af:AFun} {ds:List D} {σ':Store} {c:Cell} (hY:isY f=false) (hfn:P.funcs[f]?=some fn) (hok:okFun P fn af=true) (hlen:ds.length=af.nargs)
  (hd:zaz ds=true) (hc:noPtr c.d=true) (h:(match exec C n none af.body (zch ds) σ0 with
     | some r=>ze1 R (fun _ _ _=>none) false af 0 r
     | none=>none)=some (.ret c,σ')):Pure P κ f ds c :=
 fun σ=>zis hY (zmab hC zsx hR hY hfn hok hlen h) hd hc σ
abbrev Specs:=List (FuncId × (List D→Cell→Prop))
def zvh (S:Specs) (f:FuncId) (ds:List D) (c:Cell):Prop:=∃ s,aget S f=some s∧s ds c
def has (S:Specs) (f:FuncId):Bool:=caseO (aget S f) false fun _=>true
noncomputable def runS (P:Program) (κ:Ctx) (Γ:FuncId→Option AFun) (R:RecF) (X:CallF) (S:Specs) (n:Nat):CallF :=
 runQ (fun f=>ifB (has S f) none (Γ f)) R (fun f ds σ=>ifB (has S f) (orc P κ (zvh S) f ds σ) (X f ds σ)) n false
noncomputable def runSD (P:Program) (κ:Ctx) (Γ:FuncId→Option AFun) (R:RecF) (X:CallF) (S:Specs) (n:Nat):CallF :=
 runQ (fun f=>ifB (has S f) none (Γ f)) R (fun f ds σ=>ifB (has S f) (orc P κ (zvh S) f ds σ) (X f ds σ)) n true
theorem zrv [K:KitOf P ‹LoopKit›] {Γ:FuncId→Option AFun} {R:RecF} {X:CallF} {S:Specs} (hΓ:Holds P Γ) (hR:zjb P κ R) (hX:zcm P κ X) (n:Nat):zcm P κ (runS P κ Γ R X S n)∧zi1 P κ (runSD P κ Γ R X S n):=by
 refine zoc (fun f af h=>?_) hR (fun f ds σ out σ' h=>?_) n
 ·cases hs:has S f with
  | true=>rw [hs] at h; cases h
  | false=>rw [hs] at h; exact hΓ f af h
 ·cases hs:has S f with
  | true=>rw [hs] at h; exact zhfb _ _ _ _ _ h
  | false=>rw [hs] at h; exact hX _ _ _ _ _ h
theorem zlgb {Γ:FuncId→Option AFun} {R:RecF} {X:CallF} {S:Specs} {n:Nat} {f:FuncId} {af:AFun} {ds:List D} {σ:Store} (hs:has S f=false) (h:Γ f=some af) (hl:ds.length=af.nargs) :
  runS P κ Γ R X S (n + 1) f ds σ=finX R (runSD P κ Γ R X S n) af σ.next (exec (runS P κ Γ R X S n) n none af.body (zch ds) σ):=zlfb (by rw [hs]; exact h) hl
theorem zlhb {Γ:FuncId→Option AFun} {R:RecF} {X:CallF} {S:Specs} {n:Nat} {f:FuncId} {ds:List D} {σ:Store} (hs:has S f=false) (h:Γ f=none) (hY:isY f=false):runS P κ Γ R X S (n + 1) f ds σ=X f ds σ:=by
 refine (zxu (by rw [hs]; exact h) hY).trans ?_
 rw [hs]
 rfl
theorem zlib {Γ:FuncId→Option AFun} {R:RecF} {X:CallF} {S:Specs} {f:FuncId} {s:List D→Cell→Prop} {ds:List D} {c:Cell} (hf:aget S f=some s) (hY:isY f=false) (hs:s ds c) (hp:Pure P κ f ds c):∃ c',s ds c'∧∀ n σ,runS P κ Γ R X S (n + 1) f ds σ=some (.ret c',σ):=by
 have hh:has S f=true:=by unfold has; rw [hf]; rfl
 obtain ⟨c',⟨s',h1,h2⟩,h3⟩:=zobb (P:=P) (κ:=κ) (Post:=zvh S) (f:=f) (ds:=ds) ⟨c,⟨s,hf,hs⟩,hp⟩
 rw [hf] at h1
 cases h1
 refine ⟨c',h2,fun n σ=>?_⟩
 refine (zxu (by rw [hh]; rfl) hY).trans ?_
 rw [hh]
 exact h3 σ
end
end Go.Mx

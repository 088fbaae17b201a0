/-
 The machine's run az equations that a rewriting follows: what is asked stands first,and is rewritten alone.
-/
import Derived.Test.YtieacpoabejcoaaGreatDoorMyCore
import Derived.Test.YtieacpoabejcoaaGreatDoorMyFrame
set_option linter.unusedSimpArgs false
set_option linter.unusedVariables false
set_option linter.unusedSectionVars false
namespace Go.Mx
open Go
abbrev XRes:=Option (AExit × Env × Store)
def thenX (x:XRes) (f:Env→Store→XRes):XRes:=match x with
 | some (.normal,e,σ)=>f e σ
 | r=>r
def blockX (id:Nat) (x:XRes):XRes:=match x with
 | some (.exit id',e,σ)=>ifB (id' == id) (some (.normal,e,σ)) (some (.exit id',e,σ))
 | r=>r
def scopeX (x:XRes):XRes:=match x with
 | some (.goto _,_,_)=>none
 | r=>r
def opsX (perm:Option (List Nat)) (clr:List Nat) (x:Option OpsOut):XRes:=match x with
 | some (.normal e σ)=>some (.normal,clearEnv e clr,σ)
 | some (.panic d e σ)=>some (.panic d,caseO perm e (fun _=>e.bare),σ)
 | none=>none
def callX (C:CallF) (rest:List AOper) (dst:Option Nat) (st:Option (List Nat)) (e:Env) (σ0:Store) (r:Option (Out × Store)):Option OpsOut:=match r with
 | some (.ret c,σ)=>ifB (stOK st e σ0 σ) (runOps C rest (e.put dst c) σ) none
 | some (.panic d,σ)=>ifB (stOK st e σ0 σ) (some (.panic d e σ)) none
 | none=>none
def stepX (C:CallF) (rest:List AOper) (dst:Option Nat) (st:Option (List Nat)) (e:Env) (σ:Store) (s:Option Step):Option OpsOut:=match s with
 | some (.next e' σ')=>ifB (stOK st e σ σ') (runOps C rest e' σ') none
 | some (.call f az)=>callX C rest dst st e σ (C f az σ)
 | some (.panic d)=>some (.panic d e σ)
 | none=>none
@[congr] theorem thenX_congr {x y:XRes} (f:Env→Store→XRes) (h:x=y):thenX x f=thenX y f:=by rw [h]
@[congr] theorem blockX_congr {x y:XRes} (id:Nat) (h:x=y):blockX id x=blockX id y:=by rw [h]
@[congr] theorem scopeX_congr {x y:XRes} (h:x=y):scopeX x=scopeX y:=by rw [h]
@[congr] theorem opsX_congr {x y:Option OpsOut} (p:Option (List Nat)) (l:List Nat) (h:x=y):opsX p l x=opsX p l y:=by rw [h]
@[congr] theorem callX_congr {x y:Option (Out × Store)} (C:CallF) (rest:List AOper) (dst:Option Nat) (st:Option (List Nat)) (e:Env) (σ0:Store) (h:x=y):callX C rest dst st e σ0 x=callX C rest dst st e σ0 y:=by rw [h]
@[congr] theorem stepX_congr {x y:Option Step} (C:CallF) (rest:List AOper) (dst:Option Nat) (st:Option (List Nat)) (e:Env) (σ:Store) (h:x=y):stepX C rest dst st e σ x=stepX C rest dst st e σ y:=by rw [h]
section
variable {C:CallF} {n:Nat} {e:Env} {σ:Store}
theorem thenX_normal {f:Env→Store→XRes}:thenX (some (.normal,e,σ)) f=f e σ:=rfl
theorem thenX_exit {id:Nat} {f:Env→Store→XRes}:thenX (some (.exit id,e,σ)) f=some (.exit id,e,σ):=rfl
theorem thenX_ret {f:Env→Store→XRes}:thenX (some (.ret,e,σ)) f=some (.ret,e,σ):=rfl
theorem thenX_panic {d:D} {f:Env→Store→XRes}:thenX (some (.panic d,e,σ)) f=some (.panic d,e,σ):=rfl
theorem blockX_normal {id:Nat}:blockX id (some (.normal,e,σ))=some (.normal,e,σ):=rfl
theorem blockX_exit {id id':Nat}:blockX id (some (.exit id',e,σ))=ifB (id' == id) (some (.normal,e,σ)) (some (.exit id',e,σ)):=rfl
theorem blockX_ret {id:Nat}:blockX id (some (.ret,e,σ))=some (.ret,e,σ):=rfl
theorem blockX_panic {id:Nat} {d:D}:blockX id (some (.panic d,e,σ))=some (.panic d,e,σ):=rfl
theorem opsX_normal {p:Option (List Nat)} {l:List Nat}:opsX p l (some (.normal e σ))=some (.normal,clearEnv e l,σ):=rfl
theorem opsX_panic_none {l:List Nat} {d:D}:opsX none l (some (.panic d e σ))=some (.panic d,e,σ):=rfl
theorem opsX_panic_some {p:List Nat} {l:List Nat} {d:D}:opsX (some p) l (some (.panic d e σ))=some (.panic d,e.bare,σ):=rfl
theorem callX_ret {rest:List AOper} {dst:Option Nat} {c:Cell} {σ0:Store}:callX C rest dst none e σ0 (some (.ret c,σ))=runOps C rest (e.put dst c) σ:=rfl
theorem callX_panic {rest:List AOper} {dst:Option Nat} {d:D} {σ0:Store}:callX C rest dst none e σ0 (some (.panic d,σ))=some (.panic d e σ):=rfl
theorem stepX_next {rest:List AOper} {dst:Option Nat} {e':Env} {σ':Store}:stepX C rest dst none e σ (some (.next e' σ'))=runOps C rest e' σ':=rfl
theorem stepX_call {rest:List AOper} {dst:Option Nat} {st:Option (List Nat)} {f:FuncId} {az:List D}:stepX C rest dst st e σ (some (.call f az))=callX C rest dst st e σ (C f az σ):=rfl
theorem stepX_panic {rest:List AOper} {dst:Option Nat} {st:Option (List Nat)} {d:D}:stepX C rest dst st e σ (some (.panic d))=some (.panic d e σ):=rfl
theorem sameKind_refl (k:IntKind):sameKind k k=true:=by cases k <;> rfl
mutual
theorem D.same_refl:∀ d:D,D.same d d=true
 | .undef=>rfl
 | .bool b=>by simp [D.same]
 | .int k n=>by simp [D.same,sameKind_refl]
 | .str s=>by simp [D.same]
 | .nils=>rfl
 | .list k es=>by simp [D.same,sameL_refl es]
 | .agg es=>by simp [D.same,sameL_refl es]
 | .tup es=>by simp [D.same,sameL_refl es]
 | .nilp=>rfl
 | .ptr a b=>by simp [D.same]
 | .eptr d=>by simp [D.same,D.same_refl d]
 | .fn f a b=>by simp [D.same,sameL_refl a,sameL_refl b]
 | .nilfn=>rfl
 | .iface t d=>by simp [D.same,D.same_refl d]
 | .niliface=>rfl
 | .junk=>rfl
 | .arr k a b c=>by simp [D.same]
 | .empt=>rfl
 | .map a=>by simp [D.same]
 | .nilmap=>rfl
 | .yld a=>by simp [D.same]
theorem sameL_refl:∀ l:List D,sameL l l=true
 | []=>rfl
 | d :: l=>by simp [sameL,D.same_refl d,sameL_refl l]
end
theorem sameCs_refl:∀ l:List Cell,sameCs l l=true
 | []=>rfl
 | c :: l=>by simp [sameCs,D.same_refl,sameCs_refl l]
theorem sameEs_refl:∀ l:List (D × D × Nat),sameEs l l=true
 | []=>rfl
 | (a,b,c) :: l=>by simp [sameEs,D.same_refl,sameEs_refl l]
theorem sameO_refl (x:List Cell):sameO (some x) (some x)=true:=sameCs_refl x
theorem sameM_refl (x:Oth):sameM (some x) (some x)=true:=by
 cases x with
 | it s n=>simp [sameM]
 | map es c=>simp [sameM,sameEs_refl]
 | loop r=>simp [sameM]
 | dfr=>simp [sameM]
 | mit a b c d=>simp [sameM]
theorem sameW_refl (e:Env) (σ:Store) (s:Nat):sameW e σ σ s=true:=by
 unfold sameW
 cases aget e.slots s with
 | none=>rfl
 | some c =>
  simp only [caseO_some]
  cases c.d <;> try rfl
  ·rename_i id off
   show (caseO (aget σ.objs id) true fun cs=>sameO (some cs) (aget σ.objs id))=true
   cases h:aget σ.objs id with
   | none=>rfl
   | some x=>exact sameO_refl x
  ·rename_i id
   show (caseO (aget σ.oth id) true fun x=>sameM (some x) (aget σ.oth id))=true
   cases h:aget σ.oth id with
   | none=>rfl
   | some x=>exact sameM_refl x
theorem callX_same {C:CallF} {e:Env} {σ:Store} {rest:List AOper} {dst:Option Nat} {c:Cell} {ws:List Nat}:callX C rest dst (some ws) e σ (some (.ret c,σ))=runOps C rest (e.put dst c) σ:=by
 show ifB (ws.all (sameW e σ σ)) _ none=_
 have:ws.all (sameW e σ σ)=true:=List.all_eq_true.2 fun s _=>sameW_refl e σ s
 rw [this]
 rfl
theorem runOps_nil:runOps C [] e σ=some (.normal e σ):=rfl
theorem runOps_cons {o:AOper} {rest:List AOper}:runOps C (o :: rest) e σ=stepX C rest o.dst (stableOf o.op) e σ (stepOp C o e σ):=by
 simp only [runOps,bindO,caseO,stepX]
 cases stepOp C o e σ with
 | none=>rfl
 | some s =>
  cases s with
  | next e' σ'=>rfl
  | panic d=>rfl
  | call f az =>
   simp only [callX]
   cases C f az σ with
   | none=>rfl
   | some r=>obtain ⟨o,s⟩:=r; cases o <;> rfl
theorem exec_skip {ro:Option Nat}:exec C n ro .skip e σ=some (.normal,e,σ):=rfl
theorem exec_exit {ro:Option Nat} {id:Nat}:exec C n ro (.exit id) e σ=some (.exit id,e,σ):=rfl
theorem exec_ret {ro:Option Nat}:exec C n ro .ret e σ=some (.ret,e,σ):=rfl
theorem exec_scope {ro:Option Nat} {b:ACode}:exec C n ro (.scope b) e σ=scopeX (exec C n ro b e σ):=by
 rw [exec]
 unfold scopeX
 rfl
theorem scopeX_normal:scopeX (some (.normal,e,σ))=some (.normal,e,σ):=rfl
theorem scopeX_exit {id:Nat}:scopeX (some (.exit id,e,σ))=some (.exit id,e,σ):=rfl
theorem scopeX_ret:scopeX (some (.ret,e,σ))=some (.ret,e,σ):=rfl
theorem scopeX_panic {d:D}:scopeX (some (.panic d,e,σ))=some (.panic d,e,σ):=rfl
theorem exec_region {ro:Option Nat} {ops:List AOper} {p:Option (List Nat)} {clr:List Nat}:exec C n ro (.region ops p clr) e σ=opsX p clr (runOps C ops e σ):=by
 rw [exec]
 unfold opsX
 cases runOps C ops e σ with
 | none=>rfl
 | some r=>cases r <;> rfl
theorem exec_seq {ro:Option Nat} {a b:ACode}:exec C n ro (.seq a b) e σ=thenX (exec C n ro a e σ) (exec C n ro b):=by
 rw [exec]
 unfold thenX
 cases exec C n ro a e σ with
 | none=>rfl
 | some r=>obtain ⟨x,e',σ'⟩:=r; cases x <;> rfl
theorem exec_cond {ro:Option Nat} {c:AOpd} {t f:ACode}:exec C n ro (.cond c t f) e σ=bindO (opd e c) fun c=>bindO c.d.bool? fun b=>ifB b (exec C n ro t e σ) (exec C n ro f e σ):=by rw [exec]
theorem exec_block {ro:Option Nat} {id:Nat} {b:ACode}:exec C n ro (.block id b) e σ=blockX id (exec C n ro b e σ):=by
 rw [exec]
 unfold blockX
 cases exec C n ro b e σ with
 | none=>rfl
 | some r=>obtain ⟨x,e',σ'⟩:=r; cases x <;> rfl
theorem exec_rangeM {ro:Option Nat} {it nx more out:Nat} {drop clr:List Nat} {b:ACode}:exec C n ro (.rangeM it nx more out drop clr b) e σ=rangeN (exec C n ro b) it nx more out (idsAt e drop) clr n e σ:=by rw [exec]
theorem exec_loop {ro:Option Nat} {b:ACode}:exec C n ro (.loop b) e σ=loopN (exec C n ro b) n e σ:=by rw [exec]
end
def rangeX (l:Nat) (e:Env) (x:Option (Out × Store)):XRes:=match x with
 | some (.ret _,σ)=>endLoop l e σ
 | _=>none
@[congr] theorem rangeX_congr (l:Nat) (e:Env) {x y:Option (Out × Store)} (h:x=y):rangeX l e x=rangeX l e y:=by rw [h]
theorem rangeX_ret {l:Nat} {e:Env} {c:Cell} {σ:Store}:rangeX l e (some (.ret c,σ))=endLoop l e σ:=rfl
theorem exec_rangeF {C:CallF} {n:Nat} {e:Env} {σ:Store} {ro:Option Nat} {g:AOpd} {ps:List Nat} {a b:ACode}:exec C n ro (.rangeF g ps a b) e σ=bindO (opd e g) fun c=>bindO c.d.fnF? fun f =>
  bindO (enterLoop ro ⟨snap e.slots,ps,a,b,.ready⟩ e σ) fun x=>rangeX x.1 x.2.1 (C f.1 (f.2.1 ++ [.yld x.1] ++ f.2.2) x.2.2):=by
 rw [exec]
 simp only [bindO]
 congr 1
 funext c
 congr 1
 funext f
 congr 1
 funext x
 cases C f.1 (f.2.1 ++ [.yld x.1] ++ f.2.2) x.2.2 with
 | none=>rfl
 | some r=>obtain ⟨o,s⟩:=r; cases o <;> rfl
def finX (R:RecF) (C:CallF) (af:AFun) (m:Nat) (x:XRes):Option (Out × Store):=match x with
 | some r=>finish R C false af m r
 | none=>none
@[congr] theorem finX_congr (R:RecF) (C:CallF) (af:AFun) (m:Nat) {x y:XRes} (h:x=y):finX R C af m x=finX R C af m y:=by rw [h]
def resX (af:AFun) (m:Nat) (e:Env) (r:Option (Option D × Store)):Option (Out × Store):=match r with
 | some (none,σ)=>bindO (readRes e σ af.res) fun c=>some (.ret c,ifB af.gc (σ.trunc m) σ)
 | _=>none
def resP (af:AFun) (m:Nat) (e:Env) (r:Option (Option D × Store)):Option (Out × Store):=match r with
 | some (none,σ)=>bindO (readRes e σ af.res) fun c=>some (.ret c,ifB af.gc (σ.trunc m) σ)
 | some (some d,σ)=>some (.panic d,ifB af.gc (σ.trunc m) σ)
 | none=>none
@[congr] theorem resX_congr (af:AFun) (m:Nat) (e:Env) {x y:Option (Option D × Store)} (h:x=y):resX af m e x=resX af m e y:=by rw [h]
@[congr] theorem resP_congr (af:AFun) (m:Nat) (e:Env) {x y:Option (Option D × Store)} (h:x=y):resP af m e x=resP af m e y:=by rw [h]
section
variable {R:RecF} {C:CallF} {af:AFun} {m:Nat} {e:Env} {σ:Store}
theorem finX_ret:finX R C af m (some (.ret,e,σ))=resX af m e (runDefers R C none e.defers σ):=by
 simp only [finX,finish,Bool.false_and,ifB_false,resX,bindO]
 cases runDefers R C none e.defers σ with
 | none=>rfl
 | some r=>obtain ⟨x,s⟩:=r; cases x <;> rfl
theorem finX_normal:finX R C af m (some (.normal,e,σ))=resX af m e (runDefers R C none e.defers σ):=by
 simp only [finX,finish,Bool.false_and,ifB_false,resX,bindO]
 cases runDefers R C none e.defers σ with
 | none=>rfl
 | some r=>obtain ⟨x,s⟩:=r; cases x <;> rfl
theorem finX_panic {d:D}:finX R C af m (some (.panic d,e,σ))=resP af m e (runDefers R C (some d) e.defers σ):=by
 simp only [finX,finish,Bool.false_and,ifB_false,resP,bindO]
 cases runDefers R C (some d) e.defers σ with
 | none=>rfl
 | some r=>obtain ⟨x,s⟩:=r; cases x <;> rfl
theorem runDefers_nil {d:Option D}:runDefers R C d [] σ=some (d,σ):=rfl
theorem resX_none:resX af m e (some (none,σ))=bindO (readRes e σ af.res) fun c=>some (.ret c,ifB af.gc (σ.trunc m) σ):=rfl
theorem resP_none:resP af m e (some (none,σ))=bindO (readRes e σ af.res) fun c=>some (.ret c,ifB af.gc (σ.trunc m) σ):=rfl
theorem resP_some {d:D}:resP af m e (some (some d,σ))=some (.panic d,ifB af.gc (σ.trunc m) σ):=rfl
end
section
variable {Γ:FuncId→Option AFun} {R:RecF} {X:CallF}
theorem runQ_fun {n:Nat} {f:FuncId} {af:AFun} {ds:List D} {σ:Store} (h:Γ f=some af) (hl:ds.length=af.nargs):runQ Γ R X (n + 1) false f ds σ=finX R (runQ Γ R X n true) af σ.next (exec (runQ Γ R X n false) n none af.body (initEnv ds) σ):=by
 rw [runQ,h]
 simp only [hl,beq_self_eq_true,ifB_true]
 unfold finX
 cases exec (runQ Γ R X n false) n none af.body (initEnv ds) σ <;> rfl
theorem runQ_lib {n:Nat} {f:FuncId} {ds:List D} {σ:Store} (h:Γ f=none) (hY:isY f=false):runQ Γ R X (n + 1) false f ds σ=X f ds σ:=by
 rw [runQ,h]
 simp only [ifB_false,hY]
theorem runQ_yld {n:Nat} {f:FuncId} {ds:List D} {σ:Store} (h:Γ f=none) (hY:isY f=true):runQ Γ R X (n + 1) false f ds σ=runY (runQ Γ R X n false) n (f - yldBase) ds σ:=by
 rw [runQ,h]
 simp only [ifB_false,ifB_true,hY]
end
section
variable {b:Bool} {k:IntKind} {n:Int} {s:List UInt8} {ds a cs:List D} {f:FuncId} {t:TypeId} {d:D} {r:RowK}
theorem bool?_bool:(D.bool b).bool?=some b:=rfl
theorem bool?_undef:(D.undef).bool?=none:=rfl
theorem int?_int:(D.int k n).int?=some (k,n):=rfl
theorem str?_str:(D.str s).str?=some s:=rfl
theorem tup?_tup:(D.tup ds).tup?=some ds:=rfl
theorem fn?_fn (h:isY f=false):(D.fn (.func f) a cs).fn?=some (f,a,cs):=by simp only [D.fn?,h,ifB_false]
theorem fnF?_fn (h:isY f=false):(D.fn (.func f) a cs).fnF?=some (f,a,cs):=by simp only [D.fnF?,h,ifB_false]
theorem fn?_yld {id:Nat}:(D.yld id).fn?=some (yldBase + id,[],[]):=rfl
theorem agg?_agg:(D.agg cs).agg?=some cs:=rfl
theorem row?_list:(D.list r cs).row?=some (r,cs):=rfl
theorem isNil?_iface:(D.iface t d).isNil?=some false:=rfl
theorem isNil?_nil:(D.niliface).isNil?=some true:=rfl
theorem cells_agg:(D.agg cs).cells=cs:=rfl
theorem cells_int:(D.int k n).cells=[D.int k n]:=rfl
theorem cells_bool:(D.bool b).cells=[D.bool b]:=rfl
theorem cells_str:(D.str s).cells=[D.str s]:=rfl
theorem cells_nils:(D.nils).cells=[D.nils]:=rfl
theorem cells_list:(D.list r cs).cells=[D.list r cs]:=rfl
theorem cells_nilp:(D.nilp).cells=[D.nilp]:=rfl
theorem cells_ptr {i o:Nat}:(D.ptr i o).cells=[D.ptr i o]:=rfl
theorem cells_iface:(D.iface t d).cells=[D.iface t d]:=rfl
theorem cells_fn {g:Fn}:(D.fn g a cs).cells=[D.fn g a cs]:=rfl
theorem cells_nilfn:(D.nilfn).cells=[D.nilfn]:=rfl
theorem cells_niliface:(D.niliface).cells=[D.niliface]:=rfl
theorem one_agg:(D.agg cs).one=false:=rfl
theorem one_int:(D.int k n).one=true:=rfl
theorem one_bool:(D.bool b).one=true:=rfl
theorem one_str:(D.str s).one=true:=rfl
theorem one_nils:(D.nils).one=true:=rfl
theorem one_list:(D.list r cs).one=true:=rfl
theorem one_nilp:(D.nilp).one=true:=rfl
theorem one_ptr {i o:Nat}:(D.ptr i o).one=true:=rfl
theorem one_iface:(D.iface t d).one=true:=rfl
theorem one_niliface:(D.niliface).one=true:=rfl
theorem one_fn {g:Fn}:(D.fn g a cs).one=true:=rfl
theorem one_nilfn:(D.nilfn).one=true:=rfl
theorem ok_agg:(D.agg cs).ok=true:=rfl
theorem ok_int:(D.int k n).ok=true:=rfl
theorem ok_bool:(D.bool b).ok=true:=rfl
theorem ok_str:(D.str s).ok=true:=rfl
theorem ok_nils:(D.nils).ok=true:=rfl
theorem ok_list:(D.list r cs).ok=true:=rfl
theorem ok_nilp:(D.nilp).ok=true:=rfl
theorem ok_ptr {i o:Nat}:(D.ptr i o).ok=true:=rfl
theorem ok_iface:(D.iface t d).ok=true:=rfl
theorem ok_niliface:(D.niliface).ok=true:=rfl
theorem ok_fn {g:Fn}:(D.fn g a cs).ok=true:=rfl
theorem ok_nilfn:(D.nilfn).ok=true:=rfl
theorem cells_arr {i o l:Nat}:(D.arr r i o l).cells=[D.arr r i o l]:=rfl
theorem cells_empt:D.empt.cells=[D.empt]:=rfl
theorem cells_map {i:Nat}:(D.map i).cells=[D.map i]:=rfl
theorem cells_nilmap:D.nilmap.cells=[D.nilmap]:=rfl
theorem one_arr {i o l:Nat}:(D.arr r i o l).one=true:=rfl
theorem one_empt:D.empt.one=true:=rfl
theorem one_map {i:Nat}:(D.map i).one=true:=rfl
theorem one_nilmap:D.nilmap.one=true:=rfl
theorem ok_arr {i o l:Nat}:(D.arr r i o l).ok=true:=rfl
theorem ok_empt:D.empt.ok=true:=rfl
theorem ok_map {i:Nat}:(D.map i).ok=true:=rfl
theorem ok_nilmap:D.nilmap.ok=true:=rfl
theorem lenOf_arr {i o l:Nat}:lenOf (.arr r i o l)=some l:=rfl
theorem lenOf_empt:lenOf .empt=some 0:=rfl
theorem asList_empt:asList .empt=some []:=rfl
theorem isNilS_nils:(D.nils).isNilS?=some true:=rfl
theorem isNilS_arr {i o l:Nat}:(D.arr r i o l).isNilS?=some false:=rfl
theorem isNilS_dlist:(dlist r cs).isNilS?=some cs.isEmpty:=by cases cs <;> rfl
theorem isNilM_nil:D.nilmap.isNilM?=some true:=rfl
theorem isNilM_map {i:Nat}:(D.map i).isNilM?=some false:=rfl
theorem listOf_nils {os:List (Nat × List Cell)}:listOf os .nils=some []:=rfl
theorem listOf_empt {os:List (Nat × List Cell)}:listOf os .empt=some []:=rfl
theorem listOf_list {os:List (Nat × List Cell)}:listOf os (.list r cs)=some cs:=rfl
theorem listOf_dlist {os:List (Nat × List Cell)}:listOf os (dlist r cs)=some cs:=by cases cs <;> rfl
theorem indexD_arr {sz n i o l:Nat}:indexD sz (.arr r i o l) n=ifB (r.sz == sz && decide (n < l)) (some (.ptr i ((o + n) * sz))) none:=rfl
theorem isNilP_nil:D.nilp.isNilP?=some true:=rfl
theorem isNilP_ptr {i o:Nat}:(D.ptr i o).isNilP?=some false:=rfl
theorem isNilP_eptr:(D.eptr d).isNilP?=some false:=rfl
theorem one_dlist:(dlist r cs).one=true:=by cases cs <;> rfl
theorem ok_dlist:(dlist r cs).ok=true:=by cases cs <;> rfl
theorem cells_dlist:(dlist r cs).cells=[dlist r cs]:=by cases cs <;> rfl
theorem dlist_nil:dlist r []=.nils:=rfl
theorem lenOf_nils:lenOf .nils=some 0:=rfl
theorem lenOf_list:lenOf (.list r cs)=some cs.length:=rfl
theorem lenOf_dlist:lenOf (dlist r cs)=some cs.length:=by cases cs <;> rfl
theorem asList_nils:asList .nils=some []:=rfl
theorem asList_list:asList (.list r cs)=some cs:=rfl
theorem asList_dlist:asList (dlist r cs)=some cs:=by cases cs <;> rfl
theorem nat?_nat {i:Nat}:D.nat? (.int k (i:Int))=some i:=by
 simp [D.nat?,ifB_true]
theorem nat?_zero:D.nat? (.int k 0)=some 0:=rfl
theorem ptrOf_ptr {i o:Nat}:ptrOf (.ptr i o)=some (.ptr i o):=rfl
theorem ptrOf_eptr:ptrOf (.eptr d)=some (.eptr d):=rfl
theorem ptrOf_nilp:ptrOf .nilp=none:=rfl
end
section
variable {o o' b:Bool} {k:IntKind} {n:Int} {s:List UInt8} {ds:List D} {kr:RowK} {r:List Cell} {dr:List D}
theorem firstOwn_nil:firstOwn []=false:=rfl
theorem firstOwn_int:firstOwn (⟨o,.int k n⟩ :: r)=firstOwn r:=rfl
theorem firstOwn_bool:firstOwn (⟨o,.bool b⟩ :: r)=firstOwn r:=rfl
theorem firstOwn_str:firstOwn (⟨o,.str s⟩ :: r)=firstOwn r:=rfl
theorem firstOwn_nils:firstOwn (⟨o,.nils⟩ :: r)=firstOwn r:=rfl
theorem firstOwn_list:firstOwn (⟨o,.list kr ds⟩ :: r)=o:=rfl
theorem firstOwn_last:firstOwn [⟨o,dlist kr ds⟩]=(!ds.isEmpty && o):=by cases ds <;> rfl
theorem unownF_nil:unownF []=[]:=rfl
theorem unownF_int:unownF (⟨o,.int k n⟩ :: r)=⟨o,.int k n⟩ :: unownF r:=rfl
theorem unownF_bool:unownF (⟨o,.bool b⟩ :: r)=⟨o,.bool b⟩ :: unownF r:=rfl
theorem unownF_str:unownF (⟨o,.str s⟩ :: r)=⟨o,.str s⟩ :: unownF r:=rfl
theorem unownF_nils:unownF (⟨o,.nils⟩ :: r)=⟨o,.nils⟩ :: unownF r:=rfl
theorem unownF_last:unownF [⟨o,dlist kr ds⟩]=[⟨ds.isEmpty && o,dlist kr ds⟩]:=by cases ds <;> rfl
theorem layA_nil:layA o []=[]:=rfl
theorem layA_int:layA o (.int k n :: dr)=⟨false,.int k n⟩ :: layA o dr:=rfl
theorem layA_bool:layA o (.bool b :: dr)=⟨false,.bool b⟩ :: layA o dr:=rfl
theorem layA_str:layA o (.str s :: dr)=⟨false,.str s⟩ :: layA o dr:=rfl
theorem layA_nils:layA o (.nils :: dr)=⟨false,.nils⟩ :: layA o dr:=rfl
theorem layA_list:layA o (.list kr ds :: dr)=⟨o,.list kr ds⟩ :: dr.map Cell.of:=rfl
theorem layA_last:layA o [dlist kr ds]=[⟨!ds.isEmpty && o,dlist kr ds⟩]:=by cases ds <;> rfl
end
theorem nth_map {α β:Type} (f:α→β):∀ (l:List α) (i:Nat),nth (l.map f) i=(nth l i).map f
 | [],_=>rfl
 | _ :: _,0=>rfl
 | _ :: l,i + 1=>nth_map f l i
theorem nth_get {α:Type}:∀ (l:List α) (i:Nat) (h:i < l.length),nth l i=some (l[i])
 | x :: l,0,_=>rfl
 | _ :: l,i + 1,h=>nth_get l i (by simpa using h)
theorem allSize_all {sz:Nat}:∀ {ds:List D},(∀ d∈ds,d.ok=true∧d.cells.length=sz)→allSize sz ds=true
 | [],_=>rfl
 | d :: r,h=>by
  obtain ⟨h1,h2⟩:=h d (List.mem_cons_self ..)
  simp only [allSize,h1,h2,beq_self_eq_true,Bool.true_and]
  exact allSize_all fun x hx=>h x (List.mem_cons_of_mem _ hx)
theorem append_one {r:RowK} {by_:Nat} {es:List D} {o:Bool} {y:D} (ho:es≠[]→o=true) (hy1:y.ok=true) (hy2:y.cells.length=r.sz) (h1:(es.length + 1) * by_≤bound) (h2:es.length + 1≤bound) :
  appendD r by_ ⟨o,dlist r es⟩ [y]=some ⟨true,dlist r (es ++ [y])⟩:=by
 have hm:mayAppend r ⟨o,dlist r es⟩=true:=by
  cases es with
  | nil=>rfl
  | cons x l=>simp [mayAppend,dlist,ho (by simp),RowK.same]
 have hj:joined r (dlist r es) [y]=dlist r (es ++ [y]):=by
  cases es <;> rfl
 simp only [appendD,asList_dlist,asList_list,hm,hj,allSize,hy1,hy2,bindO,caseO_some,List.length_cons,List.length_nil,Nat.zero_add,decide_eq_true h1,decide_eq_true h2,beq_self_eq_true,Bool.and_self,ifB_true]
theorem append_more {r:RowK} {by_:Nat} {es ys:List D} {o:Bool} (ho:es≠[]→o=true) (hy:∀ d∈ys,d.ok=true∧d.cells.length=r.sz) (h1:(es.length + ys.length) * by_≤bound) (h2:es.length + ys.length≤bound) :
  appendD r by_ ⟨o,dlist r es⟩ ys=some ⟨true,dlist r (es ++ ys)⟩:=by
 have hm:mayAppend r ⟨o,dlist r es⟩=true:=by
  cases es with
  | nil=>rfl
  | cons x l=>simp [mayAppend,dlist,ho (by simp),RowK.same]
 have hj:joined r (dlist r es) ys=dlist r (es ++ ys):=by
  cases es <;> rfl
 simp only [appendD,asList_dlist,hm,hj,allSize_all hy,bindO,caseO_some,decide_eq_true h1,decide_eq_true h2,Bool.and_self,ifB_true]
def Evly (p:Nat→Prop):Prop:=∃ n0,∀ n,n0≤n→p n
theorem Evly.all {p:Nat→Prop} (h:∀ n,p n):Evly p:=⟨0,fun n _=>h n⟩
theorem Evly.and {p q:Nat→Prop} (h:Evly p) (k:Evly q):Evly fun n=>p n∧q n:=by
 obtain ⟨a,ha⟩:=h
 obtain ⟨b,hb⟩:=k
 exact ⟨max a b,fun n hn=>⟨ha n (by omega),hb n (by omega)⟩⟩
theorem Evly.mono {p q:Nat→Prop} (h:Evly p) (k:∀ n,p n→q n):Evly q:=by
 obtain ⟨a,ha⟩:=h
 exact ⟨a,fun n hn=>k n (ha n hn)⟩
theorem Evly.step {p q:Nat→Prop} (h:Evly p) (k:Nat) (s:∀ n,k≤n→p n→q (n + 1)):Evly q:=by
 obtain ⟨a,ha⟩:=h
 refine ⟨max a k + 1,fun n hn=>?_⟩
 obtain ⟨m,rfl⟩:∃ m,n=m + 1:=⟨n - 1,by omega⟩
 exact s m (by omega) (ha m (by omega))
theorem Evly.list {α:Type} (l:List α) {p:α→Nat→Prop} (h:∀ x∈l,Evly (p x)):Evly fun n=>∀ x∈l,p x n:=by
 induction l with
 | nil=>exact .all fun n x hx=>by cases hx
 | cons a l ih =>
  refine ((h a (List.mem_cons_self ..)).and (ih fun x hx=>h x (List.mem_cons_of_mem _ hx))).mono fun n hn x hx=>?_
  rcases List.mem_cons.1 hx with e | k
  ·rw [e]; exact hn.1
  ·exact hn.2 x k
theorem Evly.below {p:Nat→Nat→Prop}:∀ (k:Nat),(∀ i,i < k→Evly (p i))→Evly fun n=>∀ i,i < k→p i n
 | 0,_=>.all fun n i hi=>by omega
 | k + 1,h=>((Evly.below k fun i hi=>h i (by omega)).and (h k (by omega))).mono fun n hn i hi=>by
  by_cases hik:i=k
  ·rw [hik]; exact hn.2
  ·exact hn.1 i (by omega)
theorem loopN_run {body:Env→Store→XRes} (E:Nat→Env) (S:Nat→Store) (k:Nat) {r:AExit × Env × Store} (hr:∀ e σ,r≠(.normal,e,σ)) (hstep:∀ i,i < k→body (E i) (S i)=some (.normal,E (i + 1),S (i + 1))) (hend:body (E k) (S k)=some r) :
  ∀ (j n:Nat),j≤k→k < n + j→loopN body n (E j) (S j)=some r
 | j,0,h1,h2=>by omega
 | j,n + 1,h1,h2=>by
  rw [loopN]
  by_cases hj:j=k
  ·rw [hj,hend]
   obtain ⟨x,e,σ⟩:=r
   cases x with
   | normal=>exact absurd rfl (hr e σ)
   | _=>rfl
  ·rw [hstep j (by omega)]
   exact loopN_run E S k hr hstep hend (j + 1) n (by omega) (by omega)
theorem loopN_until {body:Env→Store→XRes} (E:Nat→Env) (S:Nat→Store) (k:Nat) (p:Nat→Bool) {r:AExit × Env × Store} (stop:Nat→AExit × Env × Store) (hr:∀ e σ,r≠(.normal,e,σ)) (hs:∀ i e σ,stop i≠(.normal,e,σ))
  (hstep:∀ i,i < k→p i=true→body (E i) (S i)=some (.normal,E (i + 1),S (i + 1))) (hstop:∀ i,i < k→p i=false→body (E i) (S i)=some (stop i)) (hend:body (E k) (S k)=some r) :
  ∀ (n j:Nat),j≤k→k < n + j→(∃ i,j≤i∧i < k∧p i=false∧(∀ i',j≤i'→i' < i→p i'=true)∧loopN body n (E j) (S j)=some (stop i))∨((∀ i,j≤i→i < k→p i=true)∧loopN body n (E j) (S j)=some r)
 | 0,j,h1,h2=>by omega
 | n + 1,j,h1,h2=>by
  rw [loopN]
  by_cases hj:j=k
  ·refine .inr ⟨fun i h3 h4=>by omega,?_⟩
   rw [hj,hend]
   obtain ⟨x,e,σ⟩:=r
   cases x with
   | normal=>exact absurd rfl (hr e σ)
   | _=>rfl
  ·cases hp:p j with
   | false =>
    refine .inl ⟨j,by omega,by omega,hp,fun i' h3 h4=>by omega,?_⟩
    rw [hstop j (by omega) hp]
    cases hst:stop j with
    | mk x y =>
    obtain ⟨e,σ⟩:=y
    cases x with
    | normal=>exact absurd hst (hs j e σ)
    | _=>rfl
   | true =>
    rw [hstep j (by omega) hp]
    rcases loopN_until E S k p stop hr hs hstep hstop hend n (j + 1) (by omega) (by omega) with ⟨i,h3,h4,h5,h6,h7⟩ | ⟨h3,h4⟩
    ·refine .inl ⟨i,by omega,h4,h5,fun i' h8 h9=>?_,h7⟩
     by_cases hij:i'=j
     ·rw [hij]; exact hp
     ·exact h6 i' (by omega) h9
    ·refine .inr ⟨fun i h5 h6=>?_,h4⟩
     by_cases hij:i=j
     ·rw [hij]; exact hp
     ·exact h3 i (by omega) h6
end Go.Mx
namespace Go.Mx
open Go
section
variable [LoopKit] {P:Program} {κ:Ctx} {Post:FuncId→List D→Cell→Prop}
def Pure (P:Program) (κ:Ctx) (f:FuncId) (ds:List D) (c:Cell):Prop:=∀ σ,CallOK P κ f ds σ (.ret c) σ
def Has (P:Program) (κ:Ctx) (Post:FuncId→List D→Cell→Prop) (f:FuncId) (ds:List D):Prop:=∃ c,Post f ds c∧Pure P κ f ds c
open Classical in
noncomputable def orc (P:Program) (κ:Ctx) (Post:FuncId→List D→Cell→Prop):CallF:=fun f ds σ=>if h:Has P κ Post f ds then some (.ret (Classical.choose h),σ) else none
theorem orc_sound:CSound P κ (orc P κ Post):=by
 intro f ds σ out σ' h
 unfold orc at h
 split at h
 ·rename_i hs
  cases h
  exact (Classical.choose_spec hs).2 σ
 ·cases h
theorem orc_has {f:FuncId} {ds:List D} (h:Has P κ Post f ds):∃ c,Post f ds c∧∀ σ,orc P κ Post f ds σ=some (.ret c,σ):=by
 refine ⟨Classical.choose h,(Classical.choose_spec h).1,fun σ=>?_⟩
 unfold orc
 rw [dif_pos h]
abbrev Specs:=List (FuncId × (List D→Cell→Prop))
def PostOf (S:Specs) (f:FuncId) (ds:List D) (c:Cell):Prop:=∃ s,aget S f=some s∧s ds c
def has (S:Specs) (f:FuncId):Bool:=caseO (aget S f) false fun _=>true
noncomputable def runS (P:Program) (κ:Ctx) (Γ:FuncId→Option AFun) (R:RecF) (X:CallF) (S:Specs) (n:Nat):CallF :=
 runQ (fun f=>ifB (has S f) none (Γ f)) R (fun f ds σ=>ifB (has S f) (orc P κ (PostOf S) f ds σ) (X f ds σ)) n false
noncomputable def runSD (P:Program) (κ:Ctx) (Γ:FuncId→Option AFun) (R:RecF) (X:CallF) (S:Specs) (n:Nat):CallF :=
 runQ (fun f=>ifB (has S f) none (Γ f)) R (fun f ds σ=>ifB (has S f) (orc P κ (PostOf S) f ds σ) (X f ds σ)) n true
theorem runS_sound [K:KitOf P ‹LoopKit›] {Γ:FuncId→Option AFun} {R:RecF} {X:CallF} {S:Specs} (hΓ:Holds P Γ) (hR:RSound P κ R) (hX:CSound P κ X) (n:Nat):CSound P κ (runS P κ Γ R X S n)∧CSoundD P κ (runSD P κ Γ R X S n):=by
 refine run_sound (fun f af h=>?_) hR (fun f ds σ out σ' h=>?_) n
 ·cases hs:has S f with
  | true=>rw [hs] at h; cases h
  | false=>rw [hs] at h; exact hΓ f af h
 ·cases hs:has S f with
  | true=>rw [hs] at h; exact orc_sound _ _ _ _ _ h
  | false=>rw [hs] at h; exact hX _ _ _ _ _ h
theorem runS_fun {Γ:FuncId→Option AFun} {R:RecF} {X:CallF} {S:Specs} {n:Nat} {f:FuncId} {af:AFun} {ds:List D} {σ:Store} (hs:has S f=false) (h:Γ f=some af) (hl:ds.length=af.nargs) :
  runS P κ Γ R X S (n + 1) f ds σ=finX R (runSD P κ Γ R X S n) af σ.next (exec (runS P κ Γ R X S n) n none af.body (initEnv ds) σ):=runQ_fun (by rw [hs]; exact h) hl
theorem runS_lib {Γ:FuncId→Option AFun} {R:RecF} {X:CallF} {S:Specs} {n:Nat} {f:FuncId} {ds:List D} {σ:Store} (hs:has S f=false) (h:Γ f=none) (hY:isY f=false):runS P κ Γ R X S (n + 1) f ds σ=X f ds σ:=by
 refine (runQ_lib (by rw [hs]; exact h) hY).trans ?_
 rw [hs]
 rfl
theorem runS_orc {Γ:FuncId→Option AFun} {R:RecF} {X:CallF} {S:Specs} {f:FuncId} {s:List D→Cell→Prop} {ds:List D} {c:Cell} (hf:aget S f=some s) (hY:isY f=false) (hs:s ds c) (hp:Pure P κ f ds c):∃ c',s ds c'∧∀ n σ,runS P κ Γ R X S (n + 1) f ds σ=some (.ret c',σ):=by
 have hh:has S f=true:=by unfold has; rw [hf]; rfl
 obtain ⟨c',⟨s',h1,h2⟩,h3⟩:=orc_has (P:=P) (κ:=κ) (Post:=PostOf S) (f:=f) (ds:=ds) ⟨c,⟨s,hf,hs⟩,hp⟩
 rw [hf] at h1
 cases h1
 refine ⟨c',h2,fun n σ=>?_⟩
 refine (runQ_lib (by rw [hh]; rfl) hY).trans ?_
 rw [hh]
 exact h3 σ
end
end Go.Mx

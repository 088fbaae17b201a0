/-
 The machine's run az equations that a rewriting follows: what is asked stands first,and is rewritten alone.
-/
import Derived.Test.YtldfbnbckiifeaaGreatDoorMyCore
import Derived.Test.YtldfbnbckiifeaaGreatDoorMyFrame
set_option linter.unusedSimpArgs false
set_option linter.unusedVariables false
set_option linter.unusedSectionVars false
set_option linter.defProp false
namespace Go.Mx
open Go
abbrev XRes:=Option (AExit × Env × Store)
def thenX (x:XRes) (f:Env→Store→XRes):XRes:=match x with
 | some (.normal,e,σ)=>f e σ
 | r=>r
def zij (id:Nat) (x:XRes):XRes:=match x with
 | some (.exit id',e,σ)=>ifB (id' == id) (some (.normal,e,σ)) (some (.exit id',e,σ))
 | r=>r
def ziw (x:XRes):XRes:=match x with
 | some (.goto _,_,_)=>none
 | r=>r
def opsX (perm:Option (List Nat)) (clr:List Nat) (x:Option OpsOut):XRes:=match x with
 | some (.normal e σ)=>some (.normal,zj7 e clr,σ)
 | some (.panic d e σ)=>some (.panic d,caseO perm e (fun _=>e.bare),σ)
 | none=>none
def callX (C:CallF) (rest:List AOper) (dst:Option Nat) (st:Option (List Nat)) (e:Env) (σ0:Store) (r:Option (Out × Store)):Option OpsOut:=match r with
 | some (.ret c,σ)=>ifB (stOK st e σ0 σ) (zbd C rest (e.put dst c) σ) none
 | some (.panic d,σ)=>ifB (stOK st e σ0 σ) (some (.panic d e σ)) none
 | none=>none
def stepX (C:CallF) (rest:List AOper) (dst:Option Nat) (st:Option (List Nat)) (e:Env) (σ:Store) (s:Option Step):Option OpsOut:=match s with
 | some (.next e' σ')=>ifB (stOK st e σ σ') (zbd C rest e' σ') none
 | some (.call f az)=>callX C rest dst st e σ (C f az σ)
 | some (.panic d)=>some (.panic d e σ)
 | none=>none
@[congr] theorem zqib {x y:XRes} (f:Env→Store→XRes) (h:x=y):thenX x f=thenX y f:=by rw [h]
@[congr] theorem zovb {x y:XRes} (id:Nat) (h:x=y):zij id x=zij id y:=by rw [h]
@[congr] theorem zp6b {x y:XRes} (h:x=y):ziw x=ziw y:=by rw [h]
@[congr] theorem zqkb {x y:Option OpsOut} (p:Option (List Nat)) (l:List Nat) (h:x=y):opsX p l x=opsX p l y:=by rw [h]
@[congr] theorem zqfb {x y:Option (Out × Store)} (C:CallF) (rest:List AOper) (dst:Option Nat) (st:Option (List Nat)) (e:Env) (σ0:Store) (h:x=y):callX C rest dst st e σ0 x=callX C rest dst st e σ0 y:=by rw [h]
@[congr] theorem zqhb {x y:Option Step} (C:CallF) (rest:List AOper) (dst:Option Nat) (st:Option (List Nat)) (e:Env) (σ:Store) (h:x=y):stepX C rest dst st e σ x=stepX C rest dst st e σ y:=by rw [h]
section
variable {C:CallF} {n:Nat} {e:Env} {σ:Store}
theorem zkt {f:Env→Store→XRes}:thenX (some (.normal,e,σ)) f=f e σ:=rfl
theorem zfmb {id:Nat} {f:Env→Store→XRes}:thenX (some (.exit id,e,σ)) f=some (.exit id,e,σ):=rfl
theorem zisb {f:Env→Store→XRes}:thenX (some (.ret,e,σ)) f=some (.ret,e,σ):=rfl
theorem zbrb {d:D} {f:Env→Store→XRes}:thenX (some (.panic d,e,σ)) f=some (.panic d,e,σ):=rfl
theorem zn6 {id:Nat}:zij id (some (.normal,e,σ))=some (.normal,e,σ):=rfl
theorem zzt {id id':Nat}:zij id (some (.exit id',e,σ))=ifB (id' == id) (some (.normal,e,σ)) (some (.exit id',e,σ)):=rfl
theorem zdjb {id:Nat}:zij id (some (.ret,e,σ))=some (.ret,e,σ):=rfl
theorem zw2 {id:Nat} {d:D}:zij id (some (.panic d,e,σ))=some (.panic d,e,σ):=rfl
theorem za2b {p:Option (List Nat)} {l:List Nat}:opsX p l (some (.normal e σ))=some (.normal,zj7 e l,σ):=rfl
theorem zsz {l:List Nat} {d:D}:opsX none l (some (.panic d e σ))=some (.panic d,e,σ):=rfl
theorem zs0 {p:List Nat} {l:List Nat} {d:D}:opsX (some p) l (some (.panic d e σ))=some (.panic d,e.bare,σ):=rfl
theorem zggb {rest:List AOper} {dst:Option Nat} {c:Cell} {σ0:Store}:callX C rest dst none e σ0 (some (.ret c,σ))=zbd C rest (e.put dst c) σ:=rfl
theorem zmy {rest:List AOper} {dst:Option Nat} {c:Cell} {σ0:Store} {ws:List Nat}:callX C rest dst (some ws) e σ0 (some (.ret c,σ))=ifB (ws.all (sameW e σ0 σ)) (zbd C rest (e.put dst c) σ) none:=rfl
theorem zzu {rest:List AOper} {dst:Option Nat} {d:D} {σ0:Store}:callX C rest dst none e σ0 (some (.panic d,σ))=some (.panic d e σ):=rfl
theorem zfbb {rest:List AOper} {dst:Option Nat} {e':Env} {σ':Store}:stepX C rest dst none e σ (some (.next e' σ'))=zbd C rest e' σ':=rfl
theorem zfab {rest:List AOper} {dst:Option Nat} {st:Option (List Nat)} {f:FuncId} {az:List D}:stepX C rest dst st e σ (some (.call f az))=callX C rest dst st e σ (C f az σ):=rfl
theorem zbbb {rest:List AOper} {dst:Option Nat} {st:Option (List Nat)} {d:D}:stepX C rest dst st e σ (some (.panic d))=some (.panic d e σ):=rfl
theorem zwj (k:IntKind):zcm k k=true:=by cases k <;> rfl
mutual
theorem D.same_refl:∀ d:D,D.same d d=true
 | .undef=>rfl
 | .bool b=>by simp [D.same]
 | .int k n=>by simp [D.same,zwj]
 | .str s=>by simp [D.same]
 | .nils=>rfl
 | .list k es=>by simp [D.same,zgm es]
 | .agg es=>by simp [D.same,zgm es]
 | .tup es=>by simp [D.same,zgm es]
 | .nilp=>rfl
 | .ptr a b=>by simp [D.same]
 | .eptr d=>by simp [D.same,D.same_refl d]
 | .fn f a b=>by simp [D.same,zgm a,zgm b]
 | .nilfn=>rfl
 | .iface t d=>by simp [D.same,D.same_refl d]
 | .niliface=>rfl
 | .junk=>rfl
 | .arr k a b c=>by simp [D.same]
 | .empt=>rfl
 | .map a=>by simp [D.same]
 | .nilmap=>rfl
 | .yld a=>by simp [D.same]
theorem zgm:∀ l:List D,sameL l l=true
 | []=>rfl
 | d :: l=>by simp [sameL,D.same_refl d,zgm l]
end
theorem zqs:∀ l:List Cell,ziu l l=true
 | []=>rfl
 | c :: l=>by simp [ziu,D.same_refl,zqs l]
theorem zqt:∀ l:List (D × D × Nat),ziv l l=true
 | []=>rfl
 | (a,b,c) :: l=>by simp [ziv,D.same_refl,zqt l]
theorem zhu (x:List Cell):sameO (some x) (some x)=true:=zqs x
theorem ze5b (x:Oth):sameM (some x) (some x)=true:=by
 cases x with
 | it s n=>simp [sameM]
 | map es c=>simp [sameM,zqt]
 | loop r=>simp [sameM]
 | dfr=>simp [sameM]
theorem ze6b (e:Env) (σ:Store) (s:Nat):sameW e σ σ s=true:=by
 unfold sameW
 cases aget e.slots s with
 | none=>rfl
 | some c =>
  simp only [zac]
  cases c.d <;> try rfl
  ·rename_i id off
   show (caseO (aget σ.objs id) true fun cs=>sameO (some cs) (aget σ.objs id))=true
   cases h:aget σ.objs id with
   | none=>rfl
   | some x=>exact zhu x
  ·rename_i id
   show (caseO (aget σ.oth id) true fun x=>sameM (some x) (aget σ.oth id))=true
   cases h:aget σ.oth id with
   | none=>rfl
   | some x=>exact ze5b x
theorem zcp {C:CallF} {e:Env} {σ:Store} {rest:List AOper} {dst:Option Nat} {c:Cell} {ws:List Nat}:callX C rest dst (some ws) e σ (some (.ret c,σ))=zbd C rest (e.put dst c) σ:=by
 show ifB (ws.all (sameW e σ σ)) _ none=_
 have:ws.all (sameW e σ σ)=true:=List.all_eq_true.2 fun s _=>ze6b e σ s
 rw [this]
 rfl
theorem ze3b:zbd C [] e σ=some (.normal e σ):=rfl
theorem za5b {o:AOper} {rest:List AOper}:zbd C (o :: rest) e σ=stepX C rest o.dst (zcn o.op) e σ (zb7 o e σ):=by
 simp only [zbd,bindO,caseO,stepX]
 cases zb7 o e σ with
 | none=>rfl
 | some s =>
  cases s with
  | next e' σ'=>rfl
  | panic d=>rfl
  | call f az =>
   simp only [callX]
   cases C f az σ with
   | none=>rfl
   | some r=>obtain ⟨o,s⟩:=r; cases o <;> rfl
theorem zg2b {ro:Option Nat}:exec C n ro .skip e σ=some (.normal,e,σ):=rfl
theorem zg0b {ro:Option Nat} {id:Nat}:exec C n ro (.exit id) e σ=some (.exit id,e,σ):=rfl
theorem zjyb {ro:Option Nat}:exec C n ro .ret e σ=some (.ret,e,σ):=rfl
theorem zd3b {ro:Option Nat} {b:ACode}:exec C n ro (.scope b) e σ=ziw (exec C n ro b e σ):=by
 rw [exec]
 unfold ziw
 rfl
theorem zwk:ziw (some (.normal,e,σ))=some (.normal,e,σ):=rfl
theorem za7b {id:Nat}:ziw (some (.exit id,e,σ))=some (.exit id,e,σ):=rfl
theorem ze7b:ziw (some (.ret,e,σ))=some (.ret,e,σ):=rfl
theorem zy5 {d:D}:ziw (some (.panic d,e,σ))=some (.panic d,e,σ):=rfl
theorem zz5 {ro:Option Nat} {ops:List AOper} {p:Option (List Nat)} {clr:List Nat}:exec C n ro (.region ops p clr) e σ=opsX p clr (zbd C ops e σ):=by
 rw [exec]
 unfold opsX
 cases zbd C ops e σ with
 | none=>rfl
 | some r=>cases r <;> rfl
theorem zq5 {ro:Option Nat} {a b:ACode}:exec C n ro (.seq a b) e σ=thenX (exec C n ro a e σ) (exec C n ro b):=by
 rw [exec]
 unfold thenX
 cases exec C n ro a e σ with
 | none=>rfl
 | some r=>obtain ⟨x,e',σ'⟩:=r; cases x <;> rfl
theorem zgzb {ro:Option Nat} {c:AOpd} {t f:ACode}:exec C n ro (.cond c t f) e σ=bindO (opd e c) fun c=>bindO c.d.bool? fun b=>ifB b (exec C n ro t e σ) (exec C n ro f e σ):=by rw [exec]
theorem zsg {ro:Option Nat} {id:Nat} {b:ACode}:exec C n ro (.block id b) e σ=zij id (exec C n ro b e σ):=by
 rw [exec]
 unfold zij
 cases exec C n ro b e σ with
 | none=>rfl
 | some r=>obtain ⟨x,e',σ'⟩:=r; cases x <;> rfl
theorem zg1b {ro:Option Nat} {b:ACode}:exec C n ro (.loop b) e σ=loopN (exec C n ro b) n e σ:=by rw [exec]
end
def zs4 (l:Nat) (e:Env) (x:Option (Out × Store)):XRes:=match x with
 | some (.ret _,σ)=>endLoop l e σ
 | _=>none
@[congr] theorem zp3b (l:Nat) (e:Env) {x y:Option (Out × Store)} (h:x=y):zs4 l e x=zs4 l e y:=by rw [h]
theorem zs5 {l:Nat} {e:Env} {c:Cell} {σ:Store}:zs4 l e (some (.ret c,σ))=endLoop l e σ:=rfl
theorem zqh {C:CallF} {n:Nat} {e:Env} {σ:Store} {ro:Option Nat} {g:AOpd} {ps:List Nat} {a b:ACode}:exec C n ro (.rangeF g ps a b) e σ=bindO (opd e g) fun c=>bindO c.d.fnF? fun f =>
  bindO (enterLoop ro ⟨snap e.slots,ps,a,b,.ready⟩ e σ) fun x=>zs4 x.1 x.2.1 (C f.1 (f.2.1 ++ [.yld x.1] ++ f.2.2) x.2.2):=by
 rw [exec]
 simp only [bindO]
 congr 1
 funext c
 congr 1
 funext f
 congr 1
 funext x
 cases C f.1 (f.2.1 ++ [.yld x.1] ++ f.2.2) x.2.2 with
 | none=>rfl
 | some r=>obtain ⟨o,s⟩:=r; cases o <;> rfl
def finX (R:RecF) (C:CallF) (af:AFun) (m:Nat) (x:XRes):Option (Out × Store):=match x with
 | some r=>ze6 R C false af m r
 | none=>none
@[congr] theorem zqjb (R:RecF) (C:CallF) (af:AFun) (m:Nat) {x y:XRes} (h:x=y):finX R C af m x=finX R C af m y:=by rw [h]
def resX (af:AFun) (m:Nat) (e:Env) (r:Option (Option D × Store)):Option (Out × Store):=match r with
 | some (none,σ)=>bindO (zdl e σ af.res) fun c=>some (.ret c,ifB af.gc (σ.trunc m) σ)
 | _=>none
def resP (af:AFun) (m:Nat) (e:Env) (r:Option (Option D × Store)):Option (Out × Store):=match r with
 | some (none,σ)=>bindO (zdl e σ af.res) fun c=>some (.ret c,ifB af.gc (σ.trunc m) σ)
 | some (some d,σ)=>some (.panic d,ifB af.gc (σ.trunc m) σ)
 | none=>none
@[congr] theorem zqmb (af:AFun) (m:Nat) (e:Env) {x y:Option (Option D × Store)} (h:x=y):resX af m e x=resX af m e y:=by rw [h]
@[congr] theorem zqlb (af:AFun) (m:Nat) (e:Env) {x y:Option (Option D × Store)} (h:x=y):resP af m e x=resP af m e y:=by rw [h]
section
variable {R:RecF} {C:CallF} {af:AFun} {m:Nat} {e:Env} {σ:Store}
theorem zj0b:finX R C af m (some (.ret,e,σ))=resX af m e (za7 R C none e.defers σ):=by
 simp only [finX,ze6,Bool.false_and,zad,resX,bindO]
 cases za7 R C none e.defers σ with
 | none=>rfl
 | some r=>obtain ⟨x,s⟩:=r; cases x <;> rfl
theorem zz7:finX R C af m (some (.normal,e,σ))=resX af m e (za7 R C none e.defers σ):=by
 simp only [finX,ze6,Bool.false_and,zad,resX,bindO]
 cases za7 R C none e.defers σ with
 | none=>rfl
 | some r=>obtain ⟨x,s⟩:=r; cases x <;> rfl
theorem zd4b {d:D}:finX R C af m (some (.panic d,e,σ))=resP af m e (za7 R C (some d) e.defers σ):=by
 simp only [finX,ze6,Bool.false_and,zad,resP,bindO]
 cases za7 R C (some d) e.defers σ with
 | none=>rfl
 | some r=>obtain ⟨x,s⟩:=r; cases x <;> rfl
theorem zwg {d:Option D}:za7 R C d [] σ=some (d,σ):=rfl
theorem zihb:resX af m e (some (none,σ))=bindO (zdl e σ af.res) fun c=>some (.ret c,ifB af.gc (σ.trunc m) σ):=rfl
theorem zifb:resP af m e (some (none,σ))=bindO (zdl e σ af.res) fun c=>some (.ret c,ifB af.gc (σ.trunc m) σ):=rfl
theorem zigb {d:D}:resP af m e (some (some d,σ))=some (.panic d,ifB af.gc (σ.trunc m) σ):=rfl
end
section
variable {Γ:FuncId→Option AFun} {R:RecF} {X:CallF}
theorem zk5b {n:Nat} {f:FuncId} {af:AFun} {ds:List D} {σ:Store} (h:Γ f=some af) (hl:ds.length=af.nargs):runQ Γ R X (n + 1) false f ds σ=finX R (runQ Γ R X n true) af σ.next (exec (runQ Γ R X n false) n none af.body (zb1 ds) σ):=by
 rw [runQ,h]
 simp only [hl,beq_self_eq_true,zab]
 unfold finX
 cases exec (runQ Γ R X n false) n none af.body (zb1 ds) σ <;> rfl
theorem zy1 {n:Nat} {f:FuncId} {ds:List D} {σ:Store} (h:Γ f=none) (hY:isY f=false):runQ Γ R X (n + 1) false f ds σ=X f ds σ:=by
 rw [runQ,h]
 simp only [zad,hY]
theorem zk6b {n:Nat} {f:FuncId} {ds:List D} {σ:Store} (h:Γ f=none) (hY:isY f=true):runQ Γ R X (n + 1) false f ds σ=runY (runQ Γ R X n false) n (f - zbl) ds σ:=by
 rw [runQ,h]
 simp only [zad,zab,hY]
end
section
variable {b:Bool} {k:IntKind} {n:Int} {s:List UInt8} {ds a cs:List D} {f:FuncId} {t:TypeId} {d:D} {r:RowK}
theorem bool?_bool:(D.bool b).bool?=some b:=rfl
theorem bool?_undef:(D.undef).bool?=none:=rfl
theorem int?_int:(D.int k n).int?=some (k,n):=rfl
theorem str?_str:(D.str s).str?=some s:=rfl
theorem tup?_tup:(D.tup ds).tup?=some ds:=rfl
theorem fn?_fn (h:isY f=false):(D.fn (.func f) a cs).fn?=some (f,a,cs):=by simp only [D.fn?,h,zad]
theorem fnF?_fn (h:isY f=false):(D.fn (.func f) a cs).fnF?=some (f,a,cs):=by simp only [D.fnF?,h,zad]
theorem fn?_yld {id:Nat}:(D.yld id).fn?=some (zbl + id,[],[]):=rfl
theorem agg?_agg:(D.agg cs).agg?=some cs:=rfl
theorem row?_list:(D.list r cs).row?=some (r,cs):=rfl
theorem isNil?_iface:(D.iface t d).isNil?=some false:=rfl
theorem isNil?_nil:(D.niliface).isNil?=some true:=rfl
theorem zgib:(D.agg cs).cells=cs:=rfl
theorem zgkb:(D.int k n).cells=[D.int k n]:=rfl
theorem zdrb:(D.bool b).cells=[D.bool b]:=rfl
theorem zgnb:(D.str s).cells=[D.str s]:=rfl
theorem zdvb:(D.nils).cells=[D.nils]:=rfl
theorem zdtb:(D.list r cs).cells=[D.list r cs]:=rfl
theorem zdub:(D.nilp).cells=[D.nilp]:=rfl
theorem zgmb {i o:Nat}:(D.ptr i o).cells=[D.ptr i o]:=rfl
theorem zzv:(D.iface t d).cells=[D.iface t d]:=rfl
theorem zjob {g:Fn}:(D.fn g a cs).cells=[D.fn g a cs]:=rfl
theorem zzw:(D.nilfn).cells=[D.nilfn]:=rfl
theorem ztr:(D.niliface).cells=[D.niliface]:=rfl
theorem znmb:(D.agg cs).one=false:=rfl
theorem znrb:(D.int k n).one=true:=rfl
theorem zkrb:(D.bool b).one=true:=rfl
theorem znub:(D.str s).one=true:=rfl
theorem zkwb:(D.nils).one=true:=rfl
theorem zktb:(D.list r cs).one=true:=rfl
theorem zkvb:(D.nilp).one=true:=rfl
theorem zntb {i o:Nat}:(D.ptr i o).one=true:=rfl
theorem zh3b:(D.iface t d).one=true:=rfl
theorem zyp:(D.niliface).one=true:=rfl
theorem zpwb {g:Fn}:(D.fn g a cs).one=true:=rfl
theorem zh4b:(D.nilfn).one=true:=rfl
theorem zpqb:(D.agg cs).ok=true:=rfl
theorem zpsb:(D.int k n).ok=true:=rfl
theorem znhb:(D.bool b).ok=true:=rfl
theorem zpvb:(D.str s).ok=true:=rfl
theorem znlb:(D.nils).ok=true:=rfl
theorem znjb:(D.list r cs).ok=true:=rfl
theorem znkb:(D.nilp).ok=true:=rfl
theorem zpub {i o:Nat}:(D.ptr i o).ok=true:=rfl
theorem zkob:(D.iface t d).ok=true:=rfl
theorem zavb:(D.niliface).ok=true:=rfl
theorem ok_fn {g:Fn}:(D.fn g a cs).ok=true:=rfl
theorem zkpb:(D.nilfn).ok=true:=rfl
theorem zgjb {i o l:Nat}:(D.arr r i o l).cells=[D.arr r i o l]:=rfl
theorem zdsb:D.empt.cells=[D.empt]:=rfl
theorem zglb {i:Nat}:(D.map i).cells=[D.map i]:=rfl
theorem zw9:D.nilmap.cells=[D.nilmap]:=rfl
theorem znnb {i o l:Nat}:(D.arr r i o l).one=true:=rfl
theorem zksb:D.empt.one=true:=rfl
theorem znsb {i:Nat}:(D.map i).one=true:=rfl
theorem zevb:D.nilmap.one=true:=rfl
theorem zprb {i o l:Nat}:(D.arr r i o l).ok=true:=rfl
theorem znib:D.empt.ok=true:=rfl
theorem zptb {i:Nat}:(D.map i).ok=true:=rfl
theorem zh1b:D.nilmap.ok=true:=rfl
theorem zhsb {i o l:Nat}:lenOf (.arr r i o l)=some l:=rfl
theorem zekb:lenOf .empt=some 0:=rfl
theorem zzq:zbw .empt=some []:=rfl
theorem zaib:(D.nils).isNilS?=some true:=rfl
theorem zeib {i o l:Nat}:(D.arr r i o l).isNilS?=some false:=rfl
theorem zxw:(dlist r cs).isNilS?=some cs.isEmpty:=by cases cs <;> rfl
theorem zefb:D.nilmap.isNilM?=some true:=rfl
theorem zeeb {i:Nat}:(D.map i).isNilM?=some false:=rfl
theorem zamb {os:List (Nat × List Cell)}:zbs os .nils=some []:=rfl
theorem zakb {os:List (Nat × List Cell)}:zbs os .empt=some []:=rfl
theorem zalb {os:List (Nat × List Cell)}:zbs os (.list r cs)=some cs:=rfl
theorem ze7 {os:List (Nat × List Cell)}:zbs os (dlist r cs)=some cs:=by cases cs <;> rfl
theorem zdj {sz n i o l:Nat}:zbj sz (.arr r i o l) n=ifB (r.sz == sz && decide (n < l)) (some (.ptr i ((o + n) * sz))) none:=rfl
theorem zegb:D.nilp.isNilP?=some true:=rfl
theorem zehb {i o:Nat}:(D.ptr i o).isNilP?=some false:=rfl
theorem zagb:(D.eptr d).isNilP?=some false:=rfl
theorem zaz:(dlist r cs).one=true:=by cases cs <;> rfl
theorem zbo:(dlist r cs).ok=true:=by cases cs <;> rfl
theorem zax:(dlist r cs).cells=[dlist r cs]:=by cases cs <;> rfl
theorem zgwb:dlist r []=.nils:=rfl
theorem zemb:lenOf .nils=some 0:=rfl
theorem zelb:lenOf (.list r cs)=some cs.length:=rfl
theorem zajb:lenOf (dlist r cs)=some cs.length:=by cases cs <;> rfl
theorem zzr:zbw .nils=some []:=rfl
theorem zey:zbw (.list r cs)=some cs:=rfl
theorem zf3:zbw (dlist r cs)=some cs:=by cases cs <;> rfl
theorem nat?_nat {i:Nat}:D.nat? (.int k (i:Int))=some i:=by
 simp [D.nat?,zab]
theorem nat?_zero:D.nat? (.int k 0)=some 0:=rfl
theorem zidb {i o:Nat}:ptrOf (.ptr i o)=some (.ptr i o):=rfl
theorem zezb:ptrOf (.eptr d)=some (.eptr d):=rfl
theorem ze0b:ptrOf .nilp=none:=rfl
end
section
variable {o o' b:Bool} {k:IntKind} {n:Int} {s:List UInt8} {ds:List D} {kr:RowK} {r:List Cell} {dr:List D}
theorem zxn:zb6 []=false:=rfl
theorem zxm:zb6 (⟨o,.int k n⟩ :: r)=zb6 r:=rfl
theorem zvw:zb6 (⟨o,.bool b⟩ :: r)=zb6 r:=rfl
theorem zxo:zb6 (⟨o,.str s⟩ :: r)=zb6 r:=rfl
theorem zvz:zb6 (⟨o,.nils⟩ :: r)=zb6 r:=rfl
theorem zvy:zb6 (⟨o,.list kr ds⟩ :: r)=o:=rfl
theorem zvx:zb6 [⟨o,dlist kr ds⟩]=(!ds.isEmpty && o):=by cases ds <;> rfl
theorem zfqb:zcd []=[]:=rfl
theorem zfpb:zcd (⟨o,.int k n⟩ :: r)=⟨o,.int k n⟩ :: zcd r:=rfl
theorem zbsb:zcd (⟨o,.bool b⟩ :: r)=⟨o,.bool b⟩ :: zcd r:=rfl
theorem zfrb:zcd (⟨o,.str s⟩ :: r)=⟨o,.str s⟩ :: zcd r:=rfl
theorem zbub:zcd (⟨o,.nils⟩ :: r)=⟨o,.nils⟩ :: zcd r:=rfl
theorem zbtb:zcd [⟨o,dlist kr ds⟩]=[⟨ds.isEmpty && o,dlist kr ds⟩]:=by cases ds <;> rfl
theorem zkdb:layA o []=[]:=rfl
theorem zkcb:layA o (.int k n :: dr)=⟨false,.int k n⟩ :: layA o dr:=rfl
theorem zhob:layA o (.bool b :: dr)=⟨false,.bool b⟩ :: layA o dr:=rfl
theorem zkeb:layA o (.str s :: dr)=⟨false,.str s⟩ :: layA o dr:=rfl
theorem zhrb:layA o (.nils :: dr)=⟨false,.nils⟩ :: layA o dr:=rfl
theorem zhqb:layA o (.list kr ds :: dr)=⟨o,.list kr ds⟩ :: dr.map Cell.of:=rfl
theorem zhpb:layA o [dlist kr ds]=[⟨!ds.isEmpty && o,dlist kr ds⟩]:=by cases ds <;> rfl
end
theorem zl6 {α β:Type} (f:α→β):∀ (l:List α) (i:Nat),nth (l.map f) i=(nth l i).map f
 | [],_=>rfl
 | _ :: _,0=>rfl
 | _ :: l,i + 1=>zl6 f l i
theorem zl5 {α:Type}:∀ (l:List α) (i:Nat) (h:i < l.length),nth l i=some (l[i])
 | x :: l,0,_=>rfl
 | _ :: l,i + 1,h=>zl5 l i (by simpa using h)
theorem zex {sz:Nat}:∀ {ds:List D},(∀ d∈ds,d.ok=true∧d.cells.length=sz)→zap sz ds=true
 | [],_=>rfl
 | d :: r,h=>by
  obtain ⟨h1,h2⟩:=h d (List.mem_cons_self ..)
  simp only [zap,h1,h2,beq_self_eq_true,Bool.true_and]
  exact zex fun x hx=>h x (List.mem_cons_of_mem _ hx)
theorem zdgb {r:RowK} {by_:Nat} {es:List D} {o:Bool} {y:D} (ho:es≠[]→o=true) (hy1:y.ok=true) (hy2:y.cells.length=r.sz) (h1:(es.length + 1) * by_≤bound) (h2:es.length + 1≤bound) :
  za4 r by_ ⟨o,dlist r es⟩ [y]=some ⟨true,dlist r (es ++ [y])⟩:=by
 have hm:zdr r ⟨o,dlist r es⟩=true:=by
  cases es with
  | nil=>rfl
  | cons x l=>simp [zdr,dlist,ho (by simp),RowK.same]
 have hj:zd4 r (dlist r es) [y]=dlist r (es ++ [y]):=by
  cases es <;> rfl
 simp only [za4,zf3,zey,hm,hj,zap,hy1,hy2,bindO,zac,List.length_cons,List.length_nil,Nat.zero_add,decide_eq_true h1,decide_eq_true h2,beq_self_eq_true,Bool.and_self,zab]
theorem zqe {r:RowK} {by_:Nat} {es ys:List D} {o:Bool} (ho:es≠[]→o=true) (hy:∀ d∈ys,d.ok=true∧d.cells.length=r.sz) (h1:(es.length + ys.length) * by_≤bound) (h2:es.length + ys.length≤bound) :
  za4 r by_ ⟨o,dlist r es⟩ ys=some ⟨true,dlist r (es ++ ys)⟩:=by
 have hm:zdr r ⟨o,dlist r es⟩=true:=by
  cases es with
  | nil=>rfl
  | cons x l=>simp [zdr,dlist,ho (by simp),RowK.same]
 have hj:zd4 r (dlist r es) ys=dlist r (es ++ ys):=by
  cases es <;> rfl
 simp only [za4,zf3,hm,hj,zex hy,bindO,zac,decide_eq_true h1,decide_eq_true h2,Bool.and_self,zab]
def Evly (p:Nat→Prop):Prop:=∃ n0,∀ n,n0≤n→p n
theorem Evly.all {p:Nat→Prop} (h:∀ n,p n):Evly p:=⟨0,fun n _=>h n⟩
theorem Evly.and {p q:Nat→Prop} (h:Evly p) (k:Evly q):Evly fun n=>p n∧q n:=by
 obtain ⟨a,ha⟩:=h
 obtain ⟨b,hb⟩:=k
 exact ⟨max a b,fun n hn=>⟨ha n (by omega),hb n (by omega)⟩⟩
theorem Evly.mono {p q:Nat→Prop} (h:Evly p) (k:∀ n,p n→q n):Evly q:=by
 obtain ⟨a,ha⟩:=h
 exact ⟨a,fun n hn=>k n (ha n hn)⟩
theorem Evly.step {p q:Nat→Prop} (h:Evly p) (k:Nat) (s:∀ n,k≤n→p n→q (n + 1)):Evly q:=by
 obtain ⟨a,ha⟩:=h
 refine ⟨max a k + 1,fun n hn=>?_⟩
 obtain ⟨m,rfl⟩:∃ m,n=m + 1:=⟨n - 1,by omega⟩
 exact s m (by omega) (ha m (by omega))
theorem Evly.list {α:Type} (l:List α) {p:α→Nat→Prop} (h:∀ x∈l,Evly (p x)):Evly fun n=>∀ x∈l,p x n:=by
 induction l with
 | nil=>exact .all fun n x hx=>by cases hx
 | cons a l ih =>
  refine ((h a (List.mem_cons_self ..)).and (ih fun x hx=>h x (List.mem_cons_of_mem _ hx))).mono fun n hn x hx=>?_
  rcases List.mem_cons.1 hx with e | k
  ·rw [e]; exact hn.1
  ·exact hn.2 x k
theorem Evly.below {p:Nat→Nat→Prop}:∀ (k:Nat),(∀ i,i < k→Evly (p i))→Evly fun n=>∀ i,i < k→p i n
 | 0,_=>.all fun n i hi=>by omega
 | k + 1,h=>((Evly.below k fun i hi=>h i (by omega)).and (h k (by omega))).mono fun n hn i hi=>by
  by_cases hik:i=k
  ·rw [hik]; exact hn.2
  ·exact hn.1 i (by omega)
theorem zcj {body:Env→Store→XRes} (E:Nat→Env) (S:Nat→Store) (k:Nat) {r:AExit × Env × Store} (hr:∀ e σ,r≠(.normal,e,σ)) (hstep:∀ i,i < k→body (E i) (S i)=some (.normal,E (i + 1),S (i + 1))) (hend:body (E k) (S k)=some r) :
  ∀ (j n:Nat),j≤k→k < n + j→loopN body n (E j) (S j)=some r
 | j,0,h1,h2=>by omega
 | j,n + 1,h1,h2=>by
  rw [loopN]
  by_cases hj:j=k
  ·rw [hj,hend]
   obtain ⟨x,e,σ⟩:=r
   cases x with
   | normal=>exact absurd rfl (hr e σ)
   | _=>rfl
  ·rw [hstep j (by omega)]
   exact zcj E S k hr hstep hend (j + 1) n (by omega) (by omega)
theorem zll {body:Env→Store→XRes} (E:Nat→Env) (S:Nat→Store) (k:Nat) (p:Nat→Bool) {r:AExit × Env × Store} (stop:Nat→AExit × Env × Store) (hr:∀ e σ,r≠(.normal,e,σ)) (hs:∀ i e σ,stop i≠(.normal,e,σ))
  (hstep:∀ i,i < k→p i=true→body (E i) (S i)=some (.normal,E (i + 1),S (i + 1))) (hstop:∀ i,i < k→p i=false→body (E i) (S i)=some (stop i)) (hend:body (E k) (S k)=some r) :
  ∀ (n j:Nat),j≤k→k < n + j→(∃ i,j≤i∧i < k∧p i=false∧(∀ i',j≤i'→i' < i→p i'=true)∧loopN body n (E j) (S j)=some (stop i))∨((∀ i,j≤i→i < k→p i=true)∧loopN body n (E j) (S j)=some r)
 | 0,j,h1,h2=>by omega
 | n + 1,j,h1,h2=>by
  rw [loopN]
  by_cases hj:j=k
  ·refine .inr ⟨fun i h3 h4=>by omega,?_⟩
   rw [hj,hend]
   obtain ⟨x,e,σ⟩:=r
   cases x with
   | normal=>exact absurd rfl (hr e σ)
   | _=>rfl
  ·cases hp:p j with
   | false =>
    refine .inl ⟨j,by omega,by omega,hp,fun i' h3 h4=>by omega,?_⟩
    rw [hstop j (by omega) hp]
    cases hst:stop j with
    | mk x y =>
    obtain ⟨e,σ⟩:=y
    cases x with
    | normal=>exact absurd hst (hs j e σ)
    | _=>rfl
   | true =>
    rw [hstep j (by omega) hp]
    rcases zll E S k p stop hr hs hstep hstop hend n (j + 1) (by omega) (by omega) with ⟨i,h3,h4,h5,h6,h7⟩ | ⟨h3,h4⟩
    ·refine .inl ⟨i,by omega,h4,h5,fun i' h8 h9=>?_,h7⟩
     by_cases hij:i'=j
     ·rw [hij]; exact hp
     ·exact h6 i' (by omega) h9
    ·refine .inr ⟨fun i h5 h6=>?_,h4⟩
     by_cases hij:i=j
     ·rw [hij]; exact hp
     ·exact h3 i (by omega) h6
end Go.Mx
namespace Go.Mx
open Go
theorem szB:(∀ b:Bool,(false && b)=false)∧(∀ b:Bool,(true && b)=b)∧(∀ b:Bool,(b && true)=b)∧(∀ b:Bool,(b && false)=false)∧(∀ b:Bool,(b || true)=true)∧(∀ b:Bool,(true || b)=true)∧(∀ b:Bool,(b || false)=b)∧(∀ b:Bool,(false || b)=b)∧(∀ b:Bool,(true == b)=b)∧(∀ b:Bool,(false == b)=!b)∧((!true)=false)∧((!false)=true) :=
 ⟨Bool.false_and,Bool.true_and,Bool.and_true,Bool.and_false,Bool.or_true,Bool.true_or,Bool.or_false,Bool.false_or,Bool.true_beq,Bool.false_beq,Bool.not_true,Bool.not_false⟩
theorem szL:(∀ {α β:Type} {f:α→β} {a:α} {l:List α},(a :: l).map f=f a :: l.map f)∧(∀ {α β:Type} {f:α→β},([]:List α).map f=[])∧(∀ {α:Type} {a:α} {l:List α},(a :: l).length=l.length + 1)∧(∀ {α:Type},([]:List α).length=0)∧(∀ {α:Type} (l:List α),l ++ []=l)∧(∀ {α:Type} (l:List α),[] ++ l=l)∧(∀ {α:Type} {a:α} {l m:List α},(a :: l) ++ m=a :: (l ++ m))∧(∀ {α:Type},([]:List α).isEmpty=true)∧(∀ {α:Type} {a:α} {l:List α},(a :: l).isEmpty=false)∧(∀ {α:Type} {p:α→Bool},([]:List α).all p=true)∧(∀ {α:Type} {p:α→Bool} {a:α} {l:List α},(a :: l).all p=(p a && l.all p))∧(∀ {α:Type} (a b:α),(some a).getD b=a)∧(∀ {α:Type} (b:α),(none:Option α).getD b=b) :=
 ⟨List.map_cons,List.map_nil,List.length_cons,List.length_nil,List.append_nil,List.nil_append,List.cons_append,List.isEmpty_nil,List.isEmpty_cons,List.all_nil,List.all_cons,fun a b=>Option.getD_some,fun b=>Option.getD_none⟩
theorem szQ:(∀ n:Nat,0 + n=n)∧(∀ n:Nat,n + 0=n)∧(∀ {α:Type} [BEq α] [ReflBEq α] {a:α},(a == a)=true)∧(∀ [h:Decidable True],@decide True h=true)∧(∀ [h:Decidable False],@decide False h=false)∧(∀ n:Nat,n≤n) :=
 ⟨Nat.zero_add,Nat.add_zero,beq_self_eq_true _,fun {_}=>decide_true _,fun {_}=>decide_false _,Nat.le_refl⟩
theorem szC:(∀ {α β:Type} (n:β) (f:α→β),caseO none n f=n)∧(∀ {α β:Type} (a:α) (n:β) (f:α→β),caseO (some a) n f=f a)∧(∀ {β:Type} (x y:β),ifB true x y=x)∧(∀ {β:Type} (x y:β),ifB false x y=y)∧(∀ {α β:Type} (x:Option α) (f:α→Option β),bindO x f=caseO x none f) :=
 ⟨za0,zac,zab,zad,fun _ _=>rfl⟩
def sA0:=And.intro (And.intro (And.intro (And.intro (And.intro szQ (And.intro szB szL)) (And.intro szC (And.intro @zj7.eq_1 @mem.eq_1))) (And.intro (And.intro @mem.eq_2 (And.intro @zb1.eq_1 @zf8.eq_1)) (And.intro @zf8.eq_2 (And.intro @zfe.eq_1 @zfe.eq_2)))) (And.intro (And.intro (And.intro @addr.eq_1 (And.intro @addr.eq_2 @addr.eq_3)) (And.intro @opd.eq_1 (And.intro @opd.eq_2 @opd.eq_3))) (And.intro (And.intro @opds.eq_1 (And.intro @opds.eq_2 @lkill.eq_1)) (And.intro @lkill.eq_2 (And.intro @lfree.eq_1 @zay.eq_1))))) (And.intro (And.intro (And.intro (And.intro @zay.eq_2 (And.intro @Env.put.eq_1 @Env.put.eq_2)) (And.intro @Env.putV.eq_1 (And.intro @Env.putV.eq_2 @Env.putV.eq_3))) (And.intro (And.intro @Env.box.eq_1 (And.intro @Env.bare.eq_1 @zcz.eq_1)) (And.intro @zcz.eq_2 (And.intro @zcz.eq_3 @zcz.eq_4)))) (And.intro (And.intro (And.intro @zct.eq_1 (And.intro @zct.eq_2 @binD.eq_1)) (And.intro @binD.eq_2 (And.intro @binD.eq_3 @binBD.eq_1))) (And.intro (And.intro @binBD.eq_2 (And.intro @zjp.eq_1 @zjp.eq_2)) (And.intro @zjp.eq_3 (And.intro @zdo.eq_1 @zdo.eq_2)))))
def sA1:=And.intro (And.intro (And.intro (And.intro (And.intro @zdo.eq_3 (And.intro @zdo.eq_4 @zdo.eq_5)) (And.intro @zdo.eq_6 (And.intro @zdo.eq_7 @zdo.eq_8))) (And.intro (And.intro @zdo.eq_9 (And.intro @zdo.eq_10 @zdo.eq_11)) (And.intro @zdo.eq_12 (And.intro @zfo.eq_1 @zfo.eq_2)))) (And.intro (And.intro (And.intro @zfo.eq_3 (And.intro @zfo.eq_4 @zfo.eq_5)) (And.intro @zfo.eq_6 (And.intro @zfo.eq_7 @zfo.eq_8))) (And.intro (And.intro @unD.eq_1 (And.intro @unD.eq_2 @unD.eq_3)) (And.intro @mmD.eq_1 (And.intro @mmD.eq_2 @AOpd.drop.eq_1))))) (And.intro (And.intro (And.intro (And.intro @AOpd.drop.eq_2 (And.intro @Cell.of.eq_1 @zcn.eq_1)) (And.intro @zcn.eq_2 (And.intro @zcn.eq_3 @zcn.eq_4))) (And.intro (And.intro @zcm.eq_1 (And.intro @zcm.eq_2 @zcm.eq_3)) (And.intro @zcm.eq_4 (And.intro @zcm.eq_5 @zcm.eq_6)))) (And.intro (And.intro (And.intro @zcm.eq_7 (And.intro @zcm.eq_8 @zcm.eq_9)) (And.intro @zhy.eq_1 (And.intro @zhy.eq_2 @zhy.eq_3))) (And.intro (And.intro @eqlB.eq_1 (And.intro @eqlB.eq_2 @eqlB.eq_3)) (And.intro @zp6.eq_1 (And.intro @zp6.eq_2 @takeC.eq_1)))))
def sA2:=And.intro (And.intro (And.intro (And.intro (And.intro @takeC.eq_2 (And.intro @takeC.eq_3 @takeC.eq_4)) (And.intro @zb2.eq_1 (And.intro @zb2.eq_2 @zb2.eq_3))) (And.intro (And.intro @fits.eq_1 (And.intro @zbb.eq_1 @putCells.eq_1)) (And.intro @putCells.eq_2 (And.intro @putCells.eq_3 @putCells.eq_4)))) (And.intro (And.intro (And.intro @putD.eq_1 (And.intro @putD.eq_2 @putD.eq_3)) (And.intro @putD.eq_4 (And.intro @fillD.eq_1 @fillD.eq_2))) (And.intro (And.intro @zfv.eq_1 (And.intro @zfv.eq_2 @optLo.eq_1)) (And.intro @optLo.eq_2 (And.intro @optHi.eq_1 @optHi.eq_2))))) (And.intro (And.intro (And.intro (And.intro @zap.eq_1 (And.intro @zap.eq_2 @za7.eq_1)) (And.intro @za7.eq_2 (And.intro @zdl.eq_1 @zdl.eq_2))) (And.intro (And.intro @zfl.eq_1 (And.intro @zfl.eq_2 @zfl.eq_3)) (And.intro @zeg.eq_1 (And.intro @zeg.eq_2 @zkt)))) (And.intro (And.intro (And.intro @zfmb (And.intro @zisb @zbrb)) (And.intro @zn6 (And.intro @zzt @zdjb))) (And.intro (And.intro @zw2 (And.intro @za2b @zsz)) (And.intro @zs0 (And.intro @zggb @zzu)))))
def sA3:=And.intro (And.intro (And.intro (And.intro (And.intro @zfbb (And.intro @zfab @zbbb)) (And.intro @zcp (And.intro @ze3b @za5b))) (And.intro (And.intro @zg2b (And.intro @zg0b @zjyb)) (And.intro @zd3b (And.intro @zwk @za7b)))) (And.intro (And.intro (And.intro @ze7b (And.intro @zy5 @zz5)) (And.intro @zq5 (And.intro @zgzb @zsg))) (And.intro (And.intro @zg1b (And.intro @zs5 @zqh)) (And.intro @zj0b (And.intro @zz7 @zd4b))))) (And.intro (And.intro (And.intro (And.intro @zwg (And.intro @zihb @zifb)) (And.intro @zigb (And.intro @bool?_bool @bool?_undef))) (And.intro (And.intro @int?_int (And.intro @str?_str @tup?_tup)) (And.intro @fn?_fn (And.intro @fnF?_fn @fn?_yld)))) (And.intro (And.intro (And.intro @agg?_agg (And.intro @row?_list @isNil?_iface)) (And.intro @isNil?_nil (And.intro @zgib @zgkb))) (And.intro (And.intro @zdrb (And.intro @zgnb @zdvb)) (And.intro @zdtb (And.intro @zdub @zgmb)))))
def sA4:=And.intro (And.intro (And.intro (And.intro (And.intro @zzv (And.intro @zjob @zzw)) (And.intro @ztr (And.intro @znmb @znrb))) (And.intro (And.intro @zkrb (And.intro @znub @zkwb)) (And.intro @zktb (And.intro @zkvb @zntb)))) (And.intro (And.intro (And.intro @zh3b (And.intro @zyp @zpwb)) (And.intro @zh4b (And.intro @zpqb @zpsb))) (And.intro (And.intro @znhb (And.intro @zpvb @znlb)) (And.intro @znjb (And.intro @znkb @zpub))))) (And.intro (And.intro (And.intro (And.intro @zkob (And.intro @zavb @ok_fn)) (And.intro @zkpb (And.intro @zgjb @zdsb))) (And.intro (And.intro @zglb (And.intro @zw9 @znnb)) (And.intro @zksb (And.intro @znsb @zevb)))) (And.intro (And.intro (And.intro @zprb (And.intro @znib @zptb)) (And.intro @zh1b (And.intro @zhsb @zekb))) (And.intro (And.intro @zzq (And.intro @zaib @zeib)) (And.intro @zxw (And.intro @zefb @zeeb)))))
def sA5:=And.intro (And.intro (And.intro (And.intro (And.intro @zamb (And.intro @zakb @zalb)) (And.intro @ze7 (And.intro @zegb @zehb))) (And.intro (And.intro @zagb (And.intro @zaz @zbo)) (And.intro @zax (And.intro @zgwb @zemb)))) (And.intro (And.intro (And.intro @zelb (And.intro @zajb @zzr)) (And.intro @zey (And.intro @zf3 @nat?_nat))) (And.intro (And.intro @nat?_zero (And.intro @zidb @zezb)) (And.intro @ze0b (And.intro @zxn @zxm))))) (And.intro (And.intro (And.intro (And.intro @zvw (And.intro @zxo @zvz)) (And.intro @zvy (And.intro @zvx @zfqb))) (And.intro (And.intro @zfpb (And.intro @zbsb @zfrb)) (And.intro @zbub (And.intro @zbtb @zkdb)))) (And.intro (And.intro (And.intro @zkcb (And.intro @zhob @zkeb)) (And.intro @zhrb (And.intro @zhqb @zhpb))) (And.intro (And.intro @zb7.eq_1 (And.intro @zaj.eq_1 @zaj.eq_2)) (And.intro @zaj.eq_3 (And.intro @zaj.eq_4 @zaj.eq_5)))))
def sA6:=And.intro (And.intro (And.intro (And.intro (And.intro @zaj.eq_6 (And.intro @zaj.eq_7 @zaj.eq_8)) (And.intro @zaj.eq_9 (And.intro @zaj.eq_10 @zaj.eq_11))) (And.intro (And.intro @zaj.eq_12 (And.intro @zaj.eq_13 @zaj.eq_14)) (And.intro @zaj.eq_15 (And.intro @zaj.eq_16 @zaj.eq_17)))) (And.intro (And.intro (And.intro @zaj.eq_18 (And.intro @zaj.eq_19 @zaj.eq_20)) (And.intro @zaj.eq_21 (And.intro @zaj.eq_22 @zaj.eq_23))) (And.intro (And.intro @zaj.eq_24 (And.intro @zaj.eq_25 @zaj.eq_26)) (And.intro @zaj.eq_27 (And.intro @zaj.eq_28 @zaj.eq_29))))) (And.intro (And.intro (And.intro (And.intro @zaj.eq_30 (And.intro @zaj.eq_31 @zaj.eq_32)) (And.intro @zaj.eq_33 (And.intro @zaj.eq_34 @zaj.eq_35))) (And.intro (And.intro @ze4.eq_1 (And.intro @ze4.eq_2 @ze4.eq_3)) (And.intro @ze4.eq_4 (And.intro @ze4.eq_5 @zia.eq_1)))) (And.intro (And.intro (And.intro @zia.eq_2 (And.intro @evalV.eq_1 @evalV.eq_2)) (And.intro @evalV.eq_3 (And.intro @evalV.eq_4 @evalV.eq_5))) (And.intro (And.intro @evalV.eq_6 (And.intro @evalV.eq_7 @evalV.eq_8)) (And.intro @evalV.eq_9 (And.intro @evalV.eq_10 @evalV.eq_11)))))
def sA7:=And.intro (And.intro (And.intro (And.intro (And.intro @evalV.eq_12 (And.intro @evalV.eq_13 @evalV.eq_14)) (And.intro @evalV.eq_15 (And.intro @evalV.eq_16 @evalV.eq_17))) (And.intro (And.intro @evalV.eq_18 (And.intro @evalV.eq_19 @evalV.eq_20)) (And.intro @evalV.eq_21 (And.intro @evalV.eq_22 @evalV.eq_23)))) (And.intro (And.intro (And.intro @evalV.eq_24 (And.intro @evalV.eq_25 @evalV.eq_26)) (And.intro @evalV.eq_27 (And.intro @evalV.eq_28 @evalV.eq_29))) (And.intro (And.intro @evalV.eq_30 (And.intro @evalV.eq_31 @evalV.eq_32)) (And.intro @evalV.eq_33 (And.intro @evalV.eq_34 @evalV.eq_35))))) (And.intro (And.intro (And.intro (And.intro @evalV.eq_36 (And.intro @evalV.eq_37 @evalV.eq_38)) (And.intro @evalV.eq_39 (And.intro @evalV.eq_40 @AOp.kind.eq_1))) (And.intro (And.intro @AOp.kind.eq_2 (And.intro @AOp.kind.eq_3 @AOp.kind.eq_4)) (And.intro @AOp.kind.eq_5 (And.intro @AOp.kind.eq_6 @aget.eq_1)))) (And.intro (And.intro (And.intro @aget.eq_2 (And.intro @aset.eq_1 @aset.eq_2)) (And.intro @adel.eq_1 (And.intro @adel.eq_2 @adel1.eq_1))) (And.intro (And.intro @adel1.eq_2 (And.intro @nth.eq_1 @nth.eq_2)) (And.intro @nth.eq_3 (And.intro @mt.eq_1 @mw.eq_1)))))
def sA8:=And.intro (And.intro @mo.eq_1 @Nat.ble.eq_1) (And.intro @Nat.ble.eq_2 @Nat.ble.eq_3)
def sA:=And.intro (And.intro (And.intro sA0 sA1) (And.intro sA2 sA3)) (And.intro (And.intro sA4 sA5) (And.intro sA6 (And.intro sA7 sA8)))
end Go.Mx
namespace Go.Mx
open Go
section
variable [LoopKit] {P:Program} {κ:Ctx} {Post:FuncId→List D→Cell→Prop}
def Pure (P:Program) (κ:Ctx) (f:FuncId) (ds:List D) (c:Cell):Prop:=∀ σ,zdn P κ f ds σ (.ret c) σ
def Has (P:Program) (κ:Ctx) (Post:FuncId→List D→Cell→Prop) (f:FuncId) (ds:List D):Prop:=∃ c,Post f ds c∧Pure P κ f ds c
open Classical in
noncomputable def orc (P:Program) (κ:Ctx) (Post:FuncId→List D→Cell→Prop):CallF:=fun f ds σ=>if h:Has P κ Post f ds then some (.ret (Classical.choose h),σ) else none
theorem zvg:zc4 P κ (orc P κ Post):=by
 intro f ds σ out σ' h
 unfold orc at h
 split at h
 ·rename_i hs
  cases h
  exact (Classical.choose_spec hs).2 σ
 ·cases h
theorem zc3b {f:FuncId} {ds:List D} (h:Has P κ Post f ds):∃ c,Post f ds c∧∀ σ,orc P κ Post f ds σ=some (.ret c,σ):=by
 refine ⟨Classical.choose h,(Classical.choose_spec h).1,fun σ=>?_⟩
 unfold orc
 rw [dif_pos h]
theorem Pure.weak {f:FuncId} {ds:List D} {o:Bool} {d:D} (hY:isY f=false) (h:Pure P κ f ds ⟨o,d⟩):Pure P κ f ds ⟨false,d⟩:=by
 intro σ
 have h1:=(zc2 hY).1 (h σ)
 refine (zc2 hY).2 ⟨h1.1,fun ι j own w vs hS hB hG hr=>(h1.2 ι j own w vs hS hB hG hr).mono ?_⟩
 rintro e w' ⟨ι',j',own',k1,k2,k3,k4⟩
 refine ⟨ι',j',own',k1,k2,k3,?_⟩
 cases e with
 | returned v=>exact ⟨k4.1,fun h=>by cases h⟩
 | panicked c=>exact k4
 | outgrown=>exact k4
theorem zt8:zjm P κ (fun _ _ _=>none):=fun _ _ _ _ _ h=>by cases h
theorem zlv [K:KitOf P ‹LoopKit›] {C:CallF} {R:RecF} (hC:zc4 P κ C) (hR:zjy P κ R) {n f:Nat} {fn:Func} {af:AFun} {ds:List D} {σ':Store} {c:Cell} (hY:isY f=false) (hfn:P.funcs[f]?=some fn) (hok:okFun P fn af=true) (hlen:ds.length=af.nargs)
  (hd:zam ds=true) (hc:noPtr c.d=true) (h:(match exec C n none af.body (zb1 ds) σ0 with
     | some r=>ze6 R (fun _ _ _=>none) false af 0 r
     | none=>none)=some (.ret c,σ')):Pure P κ f ds c :=
 fun σ=>zm9 hY (zl5b hC zt8 hR hY hfn hok hlen h) hd hc σ
abbrev Specs:=List (FuncId × (List D→Cell→Prop))
def zwu (S:Specs) (f:FuncId) (ds:List D) (c:Cell):Prop:=∃ s,aget S f=some s∧s ds c
def has (S:Specs) (f:FuncId):Bool:=caseO (aget S f) false fun _=>true
noncomputable def runS (P:Program) (κ:Ctx) (Γ:FuncId→Option AFun) (R:RecF) (X:CallF) (S:Specs) (n:Nat):CallF :=
 runQ (fun f=>ifB (has S f) none (Γ f)) R (fun f ds σ=>ifB (has S f) (orc P κ (zwu S) f ds σ) (X f ds σ)) n false
noncomputable def runSD (P:Program) (κ:Ctx) (Γ:FuncId→Option AFun) (R:RecF) (X:CallF) (S:Specs) (n:Nat):CallF :=
 runQ (fun f=>ifB (has S f) none (Γ f)) R (fun f ds σ=>ifB (has S f) (orc P κ (zwu S) f ds σ) (X f ds σ)) n true
theorem zn0 [K:KitOf P ‹LoopKit›] {Γ:FuncId→Option AFun} {R:RecF} {X:CallF} {S:Specs} (hΓ:Holds P Γ) (hR:zjy P κ R) (hX:zc4 P κ X) (n:Nat):zc4 P κ (runS P κ Γ R X S n)∧zjm P κ (runSD P κ Γ R X S n):=by
 refine zle (fun f af h=>?_) hR (fun f ds σ out σ' h=>?_) n
 ·cases hs:has S f with
  | true=>rw [hs] at h; cases h
  | false=>rw [hs] at h; exact hΓ f af h
 ·cases hs:has S f with
  | true=>rw [hs] at h; exact zvg _ _ _ _ _ h
  | false=>rw [hs] at h; exact hX _ _ _ _ _ h
theorem zrv {Γ:FuncId→Option AFun} {R:RecF} {X:CallF} {S:Specs} {n:Nat} {f:FuncId} {af:AFun} {ds:List D} {σ:Store} (hs:has S f=false) (h:Γ f=some af) (hl:ds.length=af.nargs) :
  runS P κ Γ R X S (n + 1) f ds σ=finX R (runSD P κ Γ R X S n) af σ.next (exec (runS P κ Γ R X S n) n none af.body (zb1 ds) σ):=zk5b (by rw [hs]; exact h) hl
theorem zrw {Γ:FuncId→Option AFun} {R:RecF} {X:CallF} {S:Specs} {n:Nat} {f:FuncId} {ds:List D} {σ:Store} (hs:has S f=false) (h:Γ f=none) (hY:isY f=false):runS P κ Γ R X S (n + 1) f ds σ=X f ds σ:=by
 refine (zy1 (by rw [hs]; exact h) hY).trans ?_
 rw [hs]
 rfl
theorem zy2 {Γ:FuncId→Option AFun} {R:RecF} {X:CallF} {S:Specs} {f:FuncId} {s:List D→Cell→Prop} {ds:List D} {c:Cell} (hf:aget S f=some s) (hY:isY f=false) (hs:s ds c) (hp:Pure P κ f ds c):∃ c',s ds c'∧∀ n σ,runS P κ Γ R X S (n + 1) f ds σ=some (.ret c',σ):=by
 have hh:has S f=true:=by unfold has; rw [hf]; rfl
 obtain ⟨c',⟨s',h1,h2⟩,h3⟩:=zc3b (P:=P) (κ:=κ) (Post:=zwu S) (f:=f) (ds:=ds) ⟨c,⟨s,hf,hs⟩,hp⟩
 rw [hf] at h1
 cases h1
 refine ⟨c',h2,fun n σ=>?_⟩
 refine (zy1 (by rw [hh]; rfl) hY).trans ?_
 rw [hh]
 exact h3 σ
end
end Go.Mx

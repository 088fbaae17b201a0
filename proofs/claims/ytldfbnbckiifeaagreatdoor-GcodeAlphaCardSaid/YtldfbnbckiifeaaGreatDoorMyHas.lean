/-
 The machine's run az equations that a rewriting follows: what is asked stands first,and is rewritten alone.
-/
import Derived.Test.YtldfbnbckiifeaaGreatDoorMyCore
import Derived.Test.YtldfbnbckiifeaaGreatDoorMyFrame
set_option linter.unusedSimpArgs false
set_option linter.unusedVariables false
set_option linter.unusedSectionVars false
set_option linter.defProp false
namespace Go.Mx
open Go
abbrev mS:=Option (AExit × Env × Store)
def En (x:mS) (f:Env→Store→mS):mS:=match x with
 | some (.normal,e,σ)=>f e σ
 | r=>r
def xW (id:Nat) (x:mS):mS:=match x with
 | some (.exit id',e,σ)=>ifB (id' == id) (some (.normal,e,σ)) (some (.exit id',e,σ))
 | r=>r
def yK (x:mS):mS:=match x with
 | some (.goto _,_,_)=>none
 | r=>r
def Xi (perm:Option (List Nat)) (clr:List Nat) (x:Option OpsOut):mS:=match x with
 | some (.normal e σ)=>some (.normal,Bd e clr,σ)
 | some (.panic d e σ)=>some (.panic d,eZ perm e (fun _=>e.bare),σ)
 | none=>none
def zL (C:dQ) (rest:List AOper) (dst:Option Nat) (st:Option (List Nat)) (e:Env) (σ0:Store) (r:Option (Out × Store)):Option OpsOut:=match r with
 | some (.ret c,σ)=>ifB (vZ st e σ0 σ) (gJ C rest (e.put dst c) σ) none
 | some (.panic d,σ)=>ifB (vZ st e σ0 σ) (some (.panic d e σ)) none
 | none=>none
def Ek (C:dQ) (rest:List AOper) (dst:Option Nat) (st:Option (List Nat)) (e:Env) (σ:Store) (s:Option Step):Option OpsOut:=match s with
 | some (.next e' σ')=>ifB (vZ st e σ σ') (gJ C rest e' σ') none
 | some (.call f az)=>zL C rest dst st e σ (C f az σ)
 | some (.panic d)=>some (.panic d e σ)
 | none=>none
@[congr] theorem zgzb {x y:mS} (f:Env→Store→mS) (h:x=y):En x f=En y f:=by rw [h]
@[congr] theorem zevb {x y:mS} (id:Nat) (h:x=y):xW id x=xW id y:=by rw [h]
@[congr] theorem zgeb {x y:mS} (h:x=y):yK x=yK y:=by rw [h]
@[congr] theorem zivb {x y:Option OpsOut} (p:Option (List Nat)) (l:List Nat) (h:x=y):Xi p l x=Xi p l y:=by rw [h]
@[congr] theorem zgwb {x y:Option (Out × Store)} (C:dQ) (rest:List AOper) (dst:Option Nat) (st:Option (List Nat)) (e:Env) (σ0:Store) (h:x=y):zL C rest dst st e σ0 x=zL C rest dst st e σ0 y:=by rw [h]
@[congr] theorem zgyb {x y:Option Step} (C:dQ) (rest:List AOper) (dst:Option Nat) (st:Option (List Nat)) (e:Env) (σ:Store) (h:x=y):Ek C rest dst st e σ x=Ek C rest dst st e σ y:=by rw [h]
section
variable {C:dQ} {n:Nat} {e:Env} {σ:Store}
theorem Dc {f:Env→Store→mS}:En (some (.normal,e,σ)) f=f e σ:=rfl
theorem zss {id:Nat} {f:Env→Store→mS}:En (some (.exit id,e,σ)) f=some (.exit id,e,σ):=rfl
theorem zv5 {f:Env→Store→mS}:En (some (.ret,e,σ)) f=some (.ret,e,σ):=rfl
theorem zni {d:D} {f:Env→Store→mS}:En (some (.panic d,e,σ)) f=some (.panic d,e,σ):=rfl
theorem Lo {id:Nat}:xW id (some (.normal,e,σ))=some (.normal,e,σ):=rfl
theorem zli {id id':Nat}:xW id (some (.exit id',e,σ))=ifB (id' == id) (some (.normal,e,σ)) (some (.exit id',e,σ)):=rfl
theorem zpz {id:Nat}:xW id (some (.ret,e,σ))=some (.ret,e,σ):=rfl
theorem zij {id:Nat} {d:D}:xW id (some (.panic d,e,σ))=some (.panic d,e,σ):=rfl
theorem zmr {p:Option (List Nat)} {l:List Nat}:Xi p l (some (.normal e σ))=some (.normal,Bd e l,σ):=rfl
theorem zad {l:List Nat} {d:D}:Xi none l (some (.panic d e σ))=some (.panic d,e,σ):=rfl
theorem zae {p:List Nat} {l:List Nat} {d:D}:Xi (some p) l (some (.panic d e σ))=some (.panic d,e.bare,σ):=rfl
theorem ztr {rest:List AOper} {dst:Option Nat} {c:Cell} {σ0:Store}:zL C rest dst none e σ0 (some (.ret c,σ))=gJ C rest (e.put dst c) σ:=rfl
theorem Ii {rest:List AOper} {dst:Option Nat} {c:Cell} {σ0:Store} {ws:List Nat}:zL C rest dst (some ws) e σ0 (some (.ret c,σ))=ifB (ws.all (lI e σ0 σ)) (gJ C rest (e.put dst c) σ) none:=rfl
theorem zlj {rest:List AOper} {dst:Option Nat} {d:D} {σ0:Store}:zL C rest dst none e σ0 (some (.panic d,σ))=some (.panic d e σ):=rfl
theorem zse {rest:List AOper} {dst:Option Nat} {e':Env} {σ':Store}:Ek C rest dst none e σ (some (.next e' σ'))=gJ C rest e' σ':=rfl
theorem zsd {rest:List AOper} {dst:Option Nat} {st:Option (List Nat)} {f:FuncId} {az:List D}:Ek C rest dst st e σ (some (.call f az))=zL C rest dst st e σ (C f az σ):=rfl
theorem zm2 {rest:List AOper} {dst:Option Nat} {st:Option (List Nat)} {d:D}:Ek C rest dst st e σ (some (.panic d))=some (.panic d e σ):=rfl
theorem zfe (k:IntKind):kN k k=true:=by cases k <;> rfl
mutual
theorem D.same_refl:∀ d:D,D.same d d=true
 | .undef=>rfl
 | .bool b=>by simp [D.same]
 | .int k n=>by simp [D.same,zfe]
 | .str s=>by simp [D.same]
 | .nils=>rfl
 | .list k es=>by simp [D.same,tJ es]
 | .agg es=>by simp [D.same,tJ es]
 | .tup es=>by simp [D.same,tJ es]
 | .nilp=>rfl
 | .ptr a b=>by simp [D.same]
 | .eptr d=>by simp [D.same,D.same_refl d]
 | .fn f a b=>by simp [D.same,tJ a,tJ b]
 | .nilfn=>rfl
 | .iface t d=>by simp [D.same,D.same_refl d]
 | .niliface=>rfl
 | .junk=>rfl
 | .arr k a b c=>by simp [D.same]
 | .empt=>rfl
 | .map a=>by simp [D.same]
 | .nilmap=>rfl
 | .yld a=>by simp [D.same]
theorem tJ:∀ l:List D,uD l l=true
 | []=>rfl
 | d :: l=>by simp [uD,D.same_refl d,tJ l]
end
theorem Us:∀ l:List Cell,yI l l=true
 | []=>rfl
 | c :: l=>by simp [yI,D.same_refl,Us l]
theorem Ut:∀ l:List (D × D × Nat),yJ l l=true
 | []=>rfl
 | (a,b,c) :: l=>by simp [yJ,D.same_refl,Ut l]
theorem vX (x:List Cell):zas (some x) (some x)=true:=Us x
theorem zr7 (x:Oth):xQ (some x) (some x)=true:=by
 cases x with
 | it s n=>simp [xQ]
 | map es c=>simp [xQ,Ut]
 | loop r=>simp [xQ]
 | dfr=>simp [xQ]
theorem zr8 (e:Env) (σ:Store) (s:Nat):lI e σ σ s=true:=by
 unfold lI
 cases dE e.slots s with
 | none=>rfl
 | some c =>
  simp only [dK]
  cases c.d <;> try rfl
  ·rename_i id off
   show (eZ (dE σ.objs id) true fun cs=>zas (some cs) (dE σ.objs id))=true
   cases h:dE σ.objs id with
   | none=>rfl
   | some x=>exact vX x
  ·rename_i id
   show (eZ (dE σ.oth id) true fun x=>xQ (some x) (dE σ.oth id))=true
   cases h:dE σ.oth id with
   | none=>rfl
   | some x=>exact zr7 x
theorem jW {C:dQ} {e:Env} {σ:Store} {rest:List AOper} {dst:Option Nat} {c:Cell} {ws:List Nat}:zL C rest dst (some ws) e σ (some (.ret c,σ))=gJ C rest (e.put dst c) σ:=by
 show ifB (ws.all (lI e σ σ)) _ none=_
 have:ws.all (lI e σ σ)=true:=bM.2 fun s _=>zr8 e σ s
 rw [this]
 rfl
theorem zr4:gJ C [] e σ=some (.normal e σ):=rfl
theorem zmv {o:AOper} {rest:List AOper}:gJ C (o :: rest) e σ=Ek C rest o.dst (kP o.op) e σ (jP o e σ):=by
 simp only [gJ,dG,eZ,Ek]
 cases jP o e σ with
 | none=>rfl
 | some s =>
  cases s with
  | next e' σ'=>rfl
  | panic d=>rfl
  | call f az =>
   simp only [zL]
   cases C f az σ with
   | none=>rfl
   | some r=>obtain ⟨o,s⟩:=r; cases o <;> rfl
theorem zuc {ro:Option Nat}:exec C n ro .skip e σ=some (.normal,e,σ):=rfl
theorem zua {ro:Option Nat} {id:Nat}:exec C n ro (.exit id) e σ=some (.exit id,e,σ):=rfl
theorem zxg {ro:Option Nat}:exec C n ro .ret e σ=some (.ret,e,σ):=rfl
theorem zql {ro:Option Nat} {b:ACode}:exec C n ro (.scope b) e σ=yK (exec C n ro b e σ):=by
 rw [exec]
 unfold yK
 rfl
theorem zff:yK (some (.normal,e,σ))=some (.normal,e,σ):=rfl
theorem zmx {id:Nat}:yK (some (.exit id,e,σ))=some (.exit id,e,σ):=rfl
theorem zr9:yK (some (.ret,e,σ))=some (.ret,e,σ):=rfl
theorem zks {d:D}:yK (some (.panic d,e,σ))=some (.panic d,e,σ):=rfl
theorem zlu {ro:Option Nat} {ops:List AOper} {p:Option (List Nat)} {clr:List Nat}:exec C n ro (.region ops p clr) e σ=Xi p clr (gJ C ops e σ):=by
 rw [exec]
 unfold Xi
 cases gJ C ops e σ with
 | none=>rfl
 | some r=>cases r <;> rfl
theorem Vp {ro:Option Nat} {a b:ACode}:exec C n ro (.seq a b) e σ=En (exec C n ro a e σ) (exec C n ro b):=by
 rw [exec]
 unfold En
 cases exec C n ro a e σ with
 | none=>rfl
 | some r=>obtain ⟨x,e',σ'⟩:=r; cases x <;> rfl
theorem zt9 {ro:Option Nat} {c:AOpd} {t f:ACode}:exec C n ro (.cond c t f) e σ=dG (opd e c) fun c=>dG c.d.bool? fun b=>ifB b (exec C n ro t e σ) (exec C n ro f e σ):=by rw [exec]
theorem Yq {ro:Option Nat} {id:Nat} {b:ACode}:exec C n ro (.block id b) e σ=xW id (exec C n ro b e σ):=by
 rw [exec]
 unfold xW
 cases exec C n ro b e σ with
 | none=>rfl
 | some r=>obtain ⟨x,e',σ'⟩:=r; cases x <;> rfl
theorem zub {ro:Option Nat} {b:ACode}:exec C n ro (.loop b) e σ=gU (exec C n ro b) n e σ:=by rw [exec]
end
def zah (l:Nat) (e:Env) (x:Option (Out × Store)):mS:=match x with
 | some (.ret _,σ)=>endLoop l e σ
 | _=>none
@[congr] theorem zgbb (l:Nat) (e:Env) {x y:Option (Out × Store)} (h:x=y):zah l e x=zah l e y:=by rw [h]
theorem zai {l:Nat} {e:Env} {c:Cell} {σ:Store}:zah l e (some (.ret c,σ))=endLoop l e σ:=rfl
theorem Uh {C:dQ} {n:Nat} {e:Env} {σ:Store} {ro:Option Nat} {g:AOpd} {ps:List Nat} {a b:ACode}:exec C n ro (.rangeF g ps a b) e σ=dG (opd e g) fun c=>dG c.d.fnF? fun f =>
  dG (enterLoop ro ⟨Da e.slots,ps,a,b,.ready⟩ e σ) fun x=>zah x.1 x.2.1 (C f.1 (f.2.1 ++ [.yld x.1] ++ f.2.2) x.2.2):=by
 rw [exec]
 simp only [dG]
 congr 1
 funext c
 congr 1
 funext f
 congr 1
 funext x
 cases C f.1 (f.2.1 ++ [.yld x.1] ++ f.2.2) x.2.2 with
 | none=>rfl
 | some r=>obtain ⟨o,s⟩:=r; cases o <;> rfl
def oM (R:pP) (C:dQ) (af:AFun) (m:Nat) (x:mS):Option (Out × Store):=match x with
 | some r=>qC R C false af m r
 | none=>none
@[congr] theorem zhsb (R:pP) (C:dQ) (af:AFun) (m:Nat) {x y:mS} (h:x=y):oM R C af m x=oM R C af m y:=by rw [h]
def Xj (af:AFun) (m:Nat) (e:Env) (r:Option (Option D × Store)):Option (Out × Store):=match r with
 | some (none,σ)=>dG (mU e σ af.res) fun c=>some (.ret c,ifB af.gc (σ.trunc m) σ)
 | _=>none
def zc8 (af:AFun) (m:Nat) (e:Env) (r:Option (Option D × Store)):Option (Out × Store):=match r with
 | some (none,σ)=>dG (mU e σ af.res) fun c=>some (.ret c,ifB af.gc (σ.trunc m) σ)
 | some (some d,σ)=>some (.panic d,ifB af.gc (σ.trunc m) σ)
 | none=>none
@[congr] theorem zi1b (af:AFun) (m:Nat) (e:Env) {x y:Option (Option D × Store)} (h:x=y):Xj af m e x=Xj af m e y:=by rw [h]
@[congr] theorem zi0b (af:AFun) (m:Nat) (e:Env) {x y:Option (Option D × Store)} (h:x=y):zc8 af m e x=zc8 af m e y:=by rw [h]
section
variable {R:pP} {C:dQ} {af:AFun} {m:Nat} {e:Env} {σ:Store}
theorem zxh:oM R C af m (some (.ret,e,σ))=Xj af m e (fV R C none e.defers σ):=by
 simp only [oM,qC,Bool.false_and,dH,Xj,dG]
 cases fV R C none e.defers σ with
 | none=>rfl
 | some r=>obtain ⟨x,s⟩:=r; cases x <;> rfl
theorem zlw:oM R C af m (some (.normal,e,σ))=Xj af m e (fV R C none e.defers σ):=by
 simp only [oM,qC,Bool.false_and,dH,Xj,dG]
 cases fV R C none e.defers σ with
 | none=>rfl
 | some r=>obtain ⟨x,s⟩:=r; cases x <;> rfl
theorem zqm {d:D}:oM R C af m (some (.panic d,e,σ))=zc8 af m e (fV R C (some d) e.defers σ):=by
 simp only [oM,qC,Bool.false_and,dH,zc8,dG]
 cases fV R C (some d) e.defers σ with
 | none=>rfl
 | some r=>obtain ⟨x,s⟩:=r; cases x <;> rfl
theorem zfb {d:Option D}:fV R C d [] σ=some (d,σ):=rfl
theorem zvs:Xj af m e (some (none,σ))=dG (mU e σ af.res) fun c=>some (.ret c,ifB af.gc (σ.trunc m) σ):=rfl
theorem zvq:zc8 af m e (some (none,σ))=dG (mU e σ af.res) fun c=>some (.ret c,ifB af.gc (σ.trunc m) σ):=rfl
theorem zvr {d:D}:zc8 af m e (some (some d,σ))=some (.panic d,ifB af.gc (σ.trunc m) σ):=rfl
end
section
variable {Γ:FuncId→Option AFun} {R:pP} {X:dQ}
theorem zys {n:Nat} {f:FuncId} {af:AFun} {ds:List D} {σ:Store} (h:Γ f=some af) (hl:ds.length=af.nargs):nE Γ R X (n + 1) false f ds σ=oM R (nE Γ R X n true) af σ.next (exec (nE Γ R X n false) n none af.body (jE ds) σ):=by
 rw [nE,h]
 simp only [hl,bW,dJ]
 unfold oM
 cases exec (nE Γ R X n false) n none af.body (jE ds) σ <;> rfl
theorem zkn {n:Nat} {f:FuncId} {ds:List D} {σ:Store} (h:Γ f=none) (hY:isY f=false):nE Γ R X (n + 1) false f ds σ=X f ds σ:=by
 rw [nE,h]
 simp only [dH,hY]
theorem zyt {n:Nat} {f:FuncId} {ds:List D} {σ:Store} (h:Γ f=none) (hY:isY f=true):nE Γ R X (n + 1) false f ds σ=Xl (nE Γ R X n false) n (f - iG) ds σ:=by
 rw [nE,h]
 simp only [dH,dJ,hY]
end
section
variable {b:Bool} {k:IntKind} {n:Int} {s:List UInt8} {ds a cs:List D} {f:FuncId} {t:TypeId} {d:D} {r:RowK}
theorem bool?_bool:(D.bool b).bool?=some b:=rfl
theorem bool?_undef:(D.undef).bool?=none:=rfl
theorem int?_int:(D.int k n).int?=some (k,n):=rfl
theorem str?_str:(D.str s).str?=some s:=rfl
theorem tup?_tup:(D.tup ds).tup?=some ds:=rfl
theorem fn?_fn (h:isY f=false):(D.fn (.func f) a cs).fn?=some (f,a,cs):=by simp only [D.fn?,h,dH]
theorem fnF?_fn (h:isY f=false):(D.fn (.func f) a cs).fnF?=some (f,a,cs):=by simp only [D.fnF?,h,dH]
theorem fn?_yld {id:Nat}:(D.yld id).fn?=some (iG + id,[],[]):=rfl
theorem agg?_agg:(D.agg cs).agg?=some cs:=rfl
theorem row?_list:(D.list r cs).row?=some (r,cs):=rfl
theorem isNil?_iface:(D.iface t d).isNil?=some false:=rfl
theorem isNil?_nil:(D.niliface).isNil?=some true:=rfl
theorem zts:(D.agg cs).cells=cs:=rfl
theorem ztu:(D.int k n).cells=[D.int k n]:=rfl
theorem zp8:(D.bool b).cells=[D.bool b]:=rfl
theorem ztx:(D.str s).cells=[D.str s]:=rfl
theorem zqc:(D.nils).cells=[D.nils]:=rfl
theorem zqa:(D.list r cs).cells=[D.list r cs]:=rfl
theorem zqb:(D.nilp).cells=[D.nilp]:=rfl
theorem ztw {i o:Nat}:(D.ptr i o).cells=[D.ptr i o]:=rfl
theorem zlk:(D.iface t d).cells=[D.iface t d]:=rfl
theorem zw5 {g:Fn}:(D.fn g a cs).cells=[D.fn g a cs]:=rfl
theorem zll:(D.nilfn).cells=[D.nilfn]:=rfl
theorem zb8:(D.niliface).cells=[D.niliface]:=rfl
theorem zdeb:(D.agg cs).one=false:=rfl
theorem zdgb:(D.int k n).one=true:=rfl
theorem zyc:(D.bool b).one=true:=rfl
theorem zdjb:(D.str s).one=true:=rfl
theorem zyg:(D.nils).one=true:=rfl
theorem zye:(D.list r cs).one=true:=rfl
theorem zyf:(D.nilp).one=true:=rfl
theorem zdib {i o:Nat}:(D.ptr i o).one=true:=rfl
theorem zve:(D.iface t d).one=true:=rfl
theorem zkb:(D.niliface).one=true:=rfl
theorem zfxb {g:Fn}:(D.fn g a cs).one=true:=rfl
theorem zvf:(D.nilfn).one=true:=rfl
theorem zfrb:(D.agg cs).ok=true:=rfl
theorem zftb:(D.int k n).ok=true:=rfl
theorem zc9b:(D.bool b).ok=true:=rfl
theorem zfwb:(D.str s).ok=true:=rfl
theorem zddb:(D.nils).ok=true:=rfl
theorem zdbb:(D.list r cs).ok=true:=rfl
theorem zdcb:(D.nilp).ok=true:=rfl
theorem zfvb {i o:Nat}:(D.ptr i o).ok=true:=rfl
theorem zx8:(D.iface t d).ok=true:=rfl
theorem zmj:(D.niliface).ok=true:=rfl
theorem ziub {g:Fn}:(D.fn g a cs).ok=true:=rfl
theorem zx9:(D.nilfn).ok=true:=rfl
theorem ztt {i o l:Nat}:(D.arr r i o l).cells=[D.arr r i o l]:=rfl
theorem zp9:D.empt.cells=[D.empt]:=rfl
theorem ztv {i:Nat}:(D.map i).cells=[D.map i]:=rfl
theorem zit:D.nilmap.cells=[D.nilmap]:=rfl
theorem zdfb {i o l:Nat}:(D.arr r i o l).one=true:=rfl
theorem zyd:D.empt.one=true:=rfl
theorem zdhb {i:Nat}:(D.map i).one=true:=rfl
theorem zrt:D.nilmap.one=true:=rfl
theorem zfsb {i o l:Nat}:(D.arr r i o l).ok=true:=rfl
theorem zdab:D.empt.ok=true:=rfl
theorem zfub {i:Nat}:(D.map i).ok=true:=rfl
theorem zvb:D.nilmap.ok=true:=rfl
theorem zu2 {i o l:Nat}:lenOf (.arr r i o l)=some l:=rfl
theorem zq5:lenOf .empt=some 0:=rfl
theorem zlf:jM .empt=some []:=rfl
theorem zl6:(D.nils).isNilS?=some true:=rfl
theorem zq2 {i o l:Nat}:(D.arr r i o l).isNilS?=some false:=rfl
theorem zjj:(eJ r cs).isNilS?=some cs.isEmpty:=by cases cs <;> rfl
theorem zqz:D.nilmap.isNilM?=some true:=rfl
theorem zqy {i:Nat}:(D.map i).isNilM?=some false:=rfl
theorem zma {os:List (Nat × List Cell)}:iR os .nils=some []:=rfl
theorem zl8 {os:List (Nat × List Cell)}:iR os .empt=some []:=rfl
theorem zl9 {os:List (Nat × List Cell)}:iR os (.list r cs)=some cs:=rfl
theorem qE {os:List (Nat × List Cell)}:iR os (eJ r cs)=some cs:=by cases cs <;> rfl
theorem mH {sz n i o l:Nat}:iD sz (.arr r i o l) n=ifB (r.sz == sz && decide (n < l)) (some (.ptr i ((o + n) * sz))) none:=rfl
theorem zq0:D.nilp.isNilP?=some true:=rfl
theorem zq1 {i o:Nat}:(D.ptr i o).isNilP?=some false:=rfl
theorem zl4:(D.eptr d).isNilP?=some false:=rfl
theorem fM:(eJ r cs).one=true:=by cases cs <;> rfl
theorem gZ:(eJ r cs).ok=true:=by cases cs <;> rfl
theorem fG:(eJ r cs).cells=[eJ r cs]:=by cases cs <;> rfl
theorem zds:eJ r []=.nils:=rfl
theorem zq7:lenOf .nils=some 0:=rfl
theorem zq6:lenOf (.list r cs)=some cs.length:=rfl
theorem zl7:lenOf (eJ r cs)=some cs.length:=by cases cs <;> rfl
theorem zlg:jM .nils=some []:=rfl
theorem pR:jM (.list r cs)=some cs:=rfl
theorem sH:jM (eJ r cs)=some cs:=by cases cs <;> rfl
theorem nat?_nat {i:Nat}:D.nat? (.int k (i:Int))=some i:=by
 simp [D.nat?,dJ]
theorem nat?_zero:D.nat? (.int k 0)=some 0:=rfl
theorem zvo {i o:Nat}:sB (.ptr i o)=some (.ptr i o):=rfl
theorem zr0:sB (.eptr d)=some (.eptr d):=rfl
theorem zr1:sB .nilp=none:=rfl
end
section
variable {o o' b:Bool} {k:IntKind} {n:Int} {s:List UInt8} {ds:List D} {kr:RowK} {r:List Cell} {dr:List D}
theorem zi5:jN []=false:=rfl
theorem zi4:jN (⟨o,.int k n⟩ :: r)=jN r:=rfl
theorem zeq:jN (⟨o,.bool b⟩ :: r)=jN r:=rfl
theorem zi6:jN (⟨o,.str s⟩ :: r)=jN r:=rfl
theorem zet:jN (⟨o,.nils⟩ :: r)=jN r:=rfl
theorem zes:jN (⟨o,.list kr ds⟩ :: r)=o:=rfl
theorem zer:jN [⟨o,eJ kr ds⟩]=(!ds.isEmpty && o):=by cases ds <;> rfl
theorem zsy:kC []=[]:=rfl
theorem zsx:kC (⟨o,.int k n⟩ :: r)=⟨o,.int k n⟩ :: kC r:=rfl
theorem znj:kC (⟨o,.bool b⟩ :: r)=⟨o,.bool b⟩ :: kC r:=rfl
theorem zsz:kC (⟨o,.str s⟩ :: r)=⟨o,.str s⟩ :: kC r:=rfl
theorem znl:kC (⟨o,.nils⟩ :: r)=⟨o,.nils⟩ :: kC r:=rfl
theorem znk:kC [⟨o,eJ kr ds⟩]=[⟨ds.isEmpty && o,eJ kr ds⟩]:=by cases ds <;> rfl
theorem zxw:nM o []=[]:=rfl
theorem zxv:nM o (.int k n :: dr)=⟨false,.int k n⟩ :: nM o dr:=rfl
theorem zuy:nM o (.bool b :: dr)=⟨false,.bool b⟩ :: nM o dr:=rfl
theorem zxx:nM o (.str s :: dr)=⟨false,.str s⟩ :: nM o dr:=rfl
theorem zu1:nM o (.nils :: dr)=⟨false,.nils⟩ :: nM o dr:=rfl
theorem zu0:nM o (.list kr ds :: dr)=⟨o,.list kr ds⟩ :: dr.map Cell.of:=rfl
theorem zuz:nM o [eJ kr ds]=[⟨!ds.isEmpty && o,eJ kr ds⟩]:=by cases ds <;> rfl
end
theorem Gq {α β:Type} (f:α→β):∀ (l:List α) (i:Nat),nth (l.map f) i=(nth l i).map f
 | [],_=>rfl
 | _ :: _,0=>rfl
 | _ :: l,i + 1=>Gq f l i
theorem Gp {α:Type}:∀ (l:List α) (i:Nat) (h:i < l.length),nth l i=some (l[i])
 | x :: l,0,_=>rfl
 | _ :: l,i + 1,h=>Gp l i (by simpa using h)
theorem pQ {sz:Nat}:∀ {ds:List D},(∀ d∈ds,d.ok=true∧d.cells.length=sz)→eM sz ds=true
 | [],_=>rfl
 | d :: r,h=>by
  obtain ⟨h1,h2⟩:=h d (aQ ..)
  simp only [eM,h1,h2,bW,bX]
  exact pQ fun x hx=>h x (aI _ hx)
theorem zpu {r:RowK} {by_:Nat} {es:List D} {o:Bool} {y:D} (ho:es≠[]→o=true) (hy1:y.ok=true) (hy2:y.cells.length=r.sz) (h1:(es.length + 1) * by_≤eL) (h2:es.length + 1≤eL) :
  gC r by_ ⟨o,eJ r es⟩ [y]=some ⟨true,eJ r (es ++ [y])⟩:=by
 have hm:pM r ⟨o,eJ r es⟩=true:=by
  cases es with
  | nil=>rfl
  | cons x l=>simp [pM,eJ,ho (by simp),RowK.same]
 have hj:pG r (eJ r es) [y]=eJ r (es ++ [y]):=by
  cases es <;> rfl
 simp only [gC,sH,pR,hm,hj,eM,hy1,hy2,dG,dK,aG,aH,aN,decide_eq_true h1,decide_eq_true h2,bW,aY,dJ]
theorem Ue {r:RowK} {by_:Nat} {es ys:List D} {o:Bool} (ho:es≠[]→o=true) (hy:∀ d∈ys,d.ok=true∧d.cells.length=r.sz) (h1:(es.length + ys.length) * by_≤eL) (h2:es.length + ys.length≤eL) :
  gC r by_ ⟨o,eJ r es⟩ ys=some ⟨true,eJ r (es ++ ys)⟩:=by
 have hm:pM r ⟨o,eJ r es⟩=true:=by
  cases es with
  | nil=>rfl
  | cons x l=>simp [pM,eJ,ho (by simp),RowK.same]
 have hj:pG r (eJ r es) ys=eJ r (es ++ ys):=by
  cases es <;> rfl
 simp only [gC,sH,hm,hj,pQ hy,dG,dK,decide_eq_true h1,decide_eq_true h2,aY,dJ]
def qP (p:Nat→Prop):Prop:=∃ n0,∀ n,n0≤n→p n
theorem qP.all {p:Nat→Prop} (h:∀ n,p n):qP p:=⟨0,fun n _=>h n⟩
theorem qP.and {p q:Nat→Prop} (h:qP p) (k:qP q):qP fun n=>p n∧q n:=by
 obtain ⟨a,ha⟩:=h
 obtain ⟨b,hb⟩:=k
 exact ⟨max a b,fun n hn=>⟨ha n (by omega),hb n (by omega)⟩⟩
theorem qP.mono {p q:Nat→Prop} (h:qP p) (k:∀ n,p n→q n):qP q:=by
 obtain ⟨a,ha⟩:=h
 exact ⟨a,fun n hn=>k n (ha n hn)⟩
theorem qP.step {p q:Nat→Prop} (h:qP p) (k:Nat) (s:∀ n,k≤n→p n→q (n + 1)):qP q:=by
 obtain ⟨a,ha⟩:=h
 refine ⟨max a k + 1,fun n hn=>?_⟩
 obtain ⟨m,rfl⟩:∃ m,n=m + 1:=⟨n - 1,by omega⟩
 exact s m (by omega) (ha m (by omega))
theorem qP.list {α:Type} (l:List α) {p:α→Nat→Prop} (h:∀ x∈l,qP (p x)):qP fun n=>∀ x∈l,p x n:=by
 induction l with
 | nil=>exact .all fun n x hx=>by cases hx
 | cons a l ih =>
  refine ((h a (aQ ..)).and (ih fun x hx=>h x (aI _ hx))).mono fun n hn x hx=>?_
  rcases aS.1 hx with e | k
  ·rw [e]; exact hn.1
  ·exact hn.2 x k
theorem qP.below {p:Nat→Nat→Prop}:∀ (k:Nat),(∀ i,i < k→qP (p i))→qP fun n=>∀ i,i < k→p i n
 | 0,_=>.all fun n i hi=>by omega
 | k + 1,h=>((qP.below k fun i hi=>h i (by omega)).and (h k (by omega))).mono fun n hn i hi=>by
  by_cases hik:i=k
  ·rw [hik]; exact hn.2
  ·exact hn.1 i (by omega)
theorem iL {body:Env→Store→mS} (E:Nat→Env) (S:Nat→Store) (k:Nat) {r:AExit × Env × Store} (hr:∀ e σ,r≠(.normal,e,σ)) (hstep:∀ i,i < k→body (E i) (S i)=some (.normal,E (i + 1),S (i + 1))) (hend:body (E k) (S k)=some r) :
  ∀ (j n:Nat),j≤k→k < n + j→gU body n (E j) (S j)=some r
 | j,0,h1,h2=>by omega
 | j,n + 1,h1,h2=>by
  rw [gU]
  by_cases hj:j=k
  ·rw [hj,hend]
   obtain ⟨x,e,σ⟩:=r
   cases x with
   | normal=>exact absurd rfl (hr e σ)
   | _=>rfl
  ·rw [hstep j (by omega)]
   exact iL E S k hr hstep hend (j + 1) n (by omega) (by omega)
theorem xN {body:Env→Store→mS} (E:Nat→Env) (S:Nat→Store) (k:Nat) (p:Nat→Bool) {r:AExit × Env × Store} (stop:Nat→AExit × Env × Store) (hr:∀ e σ,r≠(.normal,e,σ)) (hs:∀ i e σ,stop i≠(.normal,e,σ))
  (hstep:∀ i,i < k→p i=true→body (E i) (S i)=some (.normal,E (i + 1),S (i + 1))) (hstop:∀ i,i < k→p i=false→body (E i) (S i)=some (stop i)) (hend:body (E k) (S k)=some r) :
  ∀ (n j:Nat),j≤k→k < n + j→(∃ i,j≤i∧i < k∧p i=false∧(∀ i',j≤i'→i' < i→p i'=true)∧gU body n (E j) (S j)=some (stop i))∨((∀ i,j≤i→i < k→p i=true)∧gU body n (E j) (S j)=some r)
 | 0,j,h1,h2=>by omega
 | n + 1,j,h1,h2=>by
  rw [gU]
  by_cases hj:j=k
  ·refine .inr ⟨fun i h3 h4=>by omega,?_⟩
   rw [hj,hend]
   obtain ⟨x,e,σ⟩:=r
   cases x with
   | normal=>exact absurd rfl (hr e σ)
   | _=>rfl
  ·cases hp:p j with
   | false =>
    refine .inl ⟨j,by omega,by omega,hp,fun i' h3 h4=>by omega,?_⟩
    rw [hstop j (by omega) hp]
    cases hst:stop j with
    | mk x y =>
    obtain ⟨e,σ⟩:=y
    cases x with
    | normal=>exact absurd hst (hs j e σ)
    | _=>rfl
   | true =>
    rw [hstep j (by omega) hp]
    rcases xN E S k p stop hr hs hstep hstop hend n (j + 1) (by omega) (by omega) with ⟨i,h3,h4,h5,h6,h7⟩ | ⟨h3,h4⟩
    ·refine .inl ⟨i,by omega,h4,h5,fun i' h8 h9=>?_,h7⟩
     by_cases hij:i'=j
     ·rw [hij]; exact hp
     ·exact h6 i' (by omega) h9
    ·refine .inr ⟨fun i h5 h6=>?_,h4⟩
     by_cases hij:i=j
     ·rw [hij]; exact hp
     ·exact h3 i (by omega) h6
end Go.Mx
namespace Go.Mx
open Go
theorem szB:(∀ b:Bool,(false && b)=false)∧(∀ b:Bool,(true && b)=b)∧(∀ b:Bool,(b && true)=b)∧(∀ b:Bool,(b && false)=false)∧(∀ b:Bool,(b || true)=true)∧(∀ b:Bool,(true || b)=true)∧(∀ b:Bool,(b || false)=b)∧(∀ b:Bool,(false || b)=b)∧(∀ b:Bool,(true == b)=b)∧(∀ b:Bool,(false == b)=!b)∧((!true)=false)∧((!false)=true) :=
 ⟨Bool.false_and,bX,Bool.and_true,Bool.and_false,Bool.or_true,Bool.true_or,bY,Bool.false_or,Bool.true_beq,Bool.false_beq,bZ,Bool.not_false⟩
theorem szL:(∀ {α β:Type} {f:α→β} {a:α} {l:List α},(a :: l).map f=f a :: l.map f)∧(∀ {α β:Type} {f:α→β},([]:List α).map f=[])∧(∀ {α:Type} {a:α} {l:List α},(a :: l).length=l.length + 1)∧(∀ {α:Type},([]:List α).length=0)∧(∀ {α:Type} (l:List α),l ++ []=l)∧(∀ {α:Type} (l:List α),[] ++ l=l)∧(∀ {α:Type} {a:α} {l m:List α},(a :: l) ++ m=a :: (l ++ m))∧(∀ {α:Type},([]:List α).isEmpty=true)∧(∀ {α:Type} {a:α} {l:List α},(a :: l).isEmpty=false)∧(∀ {α:Type} {p:α→Bool},([]:List α).all p=true)∧(∀ {α:Type} {p:α→Bool} {a:α} {l:List α},(a :: l).all p=(p a && l.all p))∧(∀ {α:Type} (a b:α),(some a).getD b=a)∧(∀ {α:Type} (b:α),(none:Option α).getD b=b) :=
 ⟨aO,aZ,aG,aH,bP,bG,aW,List.isEmpty_nil,List.isEmpty_cons,List.all_nil,List.all_cons,fun a b=>Option.getD_some,fun b=>Option.getD_none⟩
theorem szQ:(∀ n:Nat,0 + n=n)∧(∀ n:Nat,n + 0=n)∧(∀ {α:Type} [BEq α] [ReflBEq α] {a:α},(a == a)=true)∧(∀ [h:Decidable True],@decide True h=true)∧(∀ [h:Decidable False],@decide False h=false)∧(∀ n:Nat,n≤n) :=
 ⟨aN,Nat.add_zero,bW _,fun {_}=>decide_true _,fun {_}=>decide_false _,aM⟩
theorem szC:(∀ {α β:Type} (n:β) (f:α→β),eZ none n f=n)∧(∀ {α β:Type} (a:α) (n:β) (f:α→β),eZ (some a) n f=f a)∧(∀ {β:Type} (x y:β),ifB true x y=x)∧(∀ {β:Type} (x y:β),ifB false x y=y)∧(∀ {α β:Type} (x:Option α) (f:α→Option β),dG x f=eZ x none f) :=
 ⟨fR,dK,dJ,dH,fun _ _=>rfl⟩
def sA0:=aB (aB (aB (aB (aB szQ (aB szB szL)) (aB szC (aB @Bd.eq_1 @mem.eq_1))) (aB (aB @mem.eq_2 (aB @jE.eq_1 @sP.eq_1)) (aB @sP.eq_2 (aB @qL.eq_1 @qL.eq_2)))) (aB (aB (aB @iW.eq_1 (aB @iW.eq_2 @iW.eq_3)) (aB @opd.eq_1 (aB @opd.eq_2 @opd.eq_3))) (aB (aB @lZ.eq_1 (aB @lZ.eq_2 @rY.eq_1)) (aB @rY.eq_2 (aB @mI.eq_1 @fN.eq_1))))) (aB (aB (aB (aB @fN.eq_2 (aB @Env.put.eq_1 @Env.put.eq_2)) (aB @Env.putV.eq_1 (aB @Env.putV.eq_2 @Env.putV.eq_3))) (aB (aB @Env.box.eq_1 (aB @Env.bare.eq_1 @lE.eq_1)) (aB @lE.eq_2 (aB @lE.eq_3 @lE.eq_4)))) (aB (aB (aB @kX.eq_1 (aB @kX.eq_2 @zii.eq_1)) (aB @zii.eq_2 (aB @zii.eq_3 @zg1.eq_1))) (aB (aB @zg1.eq_2 (aB @Ah.eq_1 @Ah.eq_2)) (aB @Ah.eq_3 (aB @nA.eq_1 @nA.eq_2)))))
def sA1:=aB (aB (aB (aB (aB @nA.eq_3 (aB @nA.eq_4 @nA.eq_5)) (aB @nA.eq_6 (aB @nA.eq_7 @nA.eq_8))) (aB (aB @nA.eq_9 (aB @nA.eq_10 @nA.eq_11)) (aB @nA.eq_12 (aB @rD.eq_1 @rD.eq_2)))) (aB (aB (aB @rD.eq_3 (aB @rD.eq_4 @rD.eq_5)) (aB @rD.eq_6 (aB @rD.eq_7 @rD.eq_8))) (aB (aB @unD.eq_1 (aB @unD.eq_2 @unD.eq_3)) (aB @mmD.eq_1 (aB @mmD.eq_2 @AOpd.drop.eq_1))))) (aB (aB (aB (aB @AOpd.drop.eq_2 (aB @Cell.of.eq_1 @kP.eq_1)) (aB @kP.eq_2 (aB @kP.eq_3 @kP.eq_4))) (aB (aB @kN.eq_1 (aB @kN.eq_2 @kN.eq_3)) (aB @kN.eq_4 (aB @kN.eq_5 @kN.eq_6)))) (aB (aB (aB @kN.eq_7 (aB @kN.eq_8 @kN.eq_9)) (aB @wH.eq_1 (aB @wH.eq_2 @wH.eq_3))) (aB (aB @wN.eq_1 (aB @wN.eq_2 @wN.eq_3)) (aB @Rz.eq_1 (aB @Rz.eq_2 @lJ.eq_1)))))
def sA2:=aB (aB (aB (aB (aB @lJ.eq_2 (aB @lJ.eq_3 @lJ.eq_4)) (aB @jF.eq_1 (aB @jF.eq_2 @jF.eq_3))) (aB (aB @qX.eq_1 (aB @gG.eq_1 @putCells.eq_1)) (aB @putCells.eq_2 (aB @putCells.eq_3 @putCells.eq_4)))) (aB (aB (aB @uN.eq_1 (aB @uN.eq_2 @uN.eq_3)) (aB @uN.eq_4 (aB @It.eq_1 @It.eq_2))) (aB (aB @rN.eq_1 (aB @rN.eq_2 @tH.eq_1)) (aB @tH.eq_2 (aB @zZ.eq_1 @zZ.eq_2))))) (aB (aB (aB (aB @eM.eq_1 (aB @eM.eq_2 @fV.eq_1)) (aB @fV.eq_2 (aB @mU.eq_1 @mU.eq_2))) (aB (aB @qZ.eq_1 (aB @qZ.eq_2 @qZ.eq_3)) (aB @oP.eq_1 (aB @oP.eq_2 @Dc)))) (aB (aB (aB @zss (aB @zv5 @zni)) (aB @Lo (aB @zli @zpz))) (aB (aB @zij (aB @zmr @zad)) (aB @zae (aB @ztr @zlj)))))
def sA3:=aB (aB (aB (aB (aB @zse (aB @zsd @zm2)) (aB @jW (aB @zr4 @zmv))) (aB (aB @zuc (aB @zua @zxg)) (aB @zql (aB @zff @zmx)))) (aB (aB (aB @zr9 (aB @zks @zlu)) (aB @Vp (aB @zt9 @Yq))) (aB (aB @zub (aB @zai @Uh)) (aB @zxh (aB @zlw @zqm))))) (aB (aB (aB (aB @zfb (aB @zvs @zvq)) (aB @zvr (aB @bool?_bool @bool?_undef))) (aB (aB @int?_int (aB @str?_str @tup?_tup)) (aB @fn?_fn (aB @fnF?_fn @fn?_yld)))) (aB (aB (aB @agg?_agg (aB @row?_list @isNil?_iface)) (aB @isNil?_nil (aB @zts @ztu))) (aB (aB @zp8 (aB @ztx @zqc)) (aB @zqa (aB @zqb @ztw)))))
def sA4:=aB (aB (aB (aB (aB @zlk (aB @zw5 @zll)) (aB @zb8 (aB @zdeb @zdgb))) (aB (aB @zyc (aB @zdjb @zyg)) (aB @zye (aB @zyf @zdib)))) (aB (aB (aB @zve (aB @zkb @zfxb)) (aB @zvf (aB @zfrb @zftb))) (aB (aB @zc9b (aB @zfwb @zddb)) (aB @zdbb (aB @zdcb @zfvb))))) (aB (aB (aB (aB @zx8 (aB @zmj @ziub)) (aB @zx9 (aB @ztt @zp9))) (aB (aB @ztv (aB @zit @zdfb)) (aB @zyd (aB @zdhb @zrt)))) (aB (aB (aB @zfsb (aB @zdab @zfub)) (aB @zvb (aB @zu2 @zq5))) (aB (aB @zlf (aB @zl6 @zq2)) (aB @zjj (aB @zqz @zqy)))))
def sA5:=aB (aB (aB (aB (aB @zma (aB @zl8 @zl9)) (aB @qE (aB @zq0 @zq1))) (aB (aB @zl4 (aB @fM @gZ)) (aB @fG (aB @zds @zq7)))) (aB (aB (aB @zq6 (aB @zl7 @zlg)) (aB @pR (aB @sH @nat?_nat))) (aB (aB @nat?_zero (aB @zvo @zr0)) (aB @zr1 (aB @zi5 @zi4))))) (aB (aB (aB (aB @zeq (aB @zi6 @zet)) (aB @zes (aB @zer @zsy))) (aB (aB @zsx (aB @znj @zsz)) (aB @znl (aB @znk @zxw)))) (aB (aB (aB @zxv (aB @zuy @zxx)) (aB @zu1 (aB @zu0 @zuz))) (aB (aB @jP.eq_1 (aB @dX.eq_1 @dX.eq_2)) (aB @dX.eq_3 (aB @dX.eq_4 @dX.eq_5)))))
def sA6:=aB (aB (aB (aB (aB @dX.eq_6 (aB @dX.eq_7 @dX.eq_8)) (aB @dX.eq_9 (aB @dX.eq_10 @dX.eq_11))) (aB (aB @dX.eq_12 (aB @dX.eq_13 @dX.eq_14)) (aB @dX.eq_15 (aB @dX.eq_16 @dX.eq_17)))) (aB (aB (aB @dX.eq_18 (aB @dX.eq_19 @dX.eq_20)) (aB @dX.eq_21 (aB @dX.eq_22 @dX.eq_23))) (aB (aB @dX.eq_24 (aB @dX.eq_25 @dX.eq_26)) (aB @dX.eq_27 (aB @dX.eq_28 @dX.eq_29))))) (aB (aB (aB (aB @dX.eq_30 (aB @dX.eq_31 @dX.eq_32)) (aB @dX.eq_33 (aB @dX.eq_34 @dX.eq_35))) (aB (aB @qA.eq_1 (aB @qA.eq_2 @qA.eq_3)) (aB @qA.eq_4 (aB @qA.eq_5 @xA.eq_1)))) (aB (aB (aB @xA.eq_2 (aB @dO.eq_1 @dO.eq_2)) (aB @dO.eq_3 (aB @dO.eq_4 @dO.eq_5))) (aB (aB @dO.eq_6 (aB @dO.eq_7 @dO.eq_8)) (aB @dO.eq_9 (aB @dO.eq_10 @dO.eq_11)))))
def sA7:=aB (aB (aB (aB (aB @dO.eq_12 (aB @dO.eq_13 @dO.eq_14)) (aB @dO.eq_15 (aB @dO.eq_16 @dO.eq_17))) (aB (aB @dO.eq_18 (aB @dO.eq_19 @dO.eq_20)) (aB @dO.eq_21 (aB @dO.eq_22 @dO.eq_23)))) (aB (aB (aB @dO.eq_24 (aB @dO.eq_25 @dO.eq_26)) (aB @dO.eq_27 (aB @dO.eq_28 @dO.eq_29))) (aB (aB @dO.eq_30 (aB @dO.eq_31 @dO.eq_32)) (aB @dO.eq_33 (aB @dO.eq_34 @dO.eq_35))))) (aB (aB (aB (aB @dO.eq_36 (aB @dO.eq_37 @dO.eq_38)) (aB @dO.eq_39 (aB @dO.eq_40 @AOp.kind.eq_1))) (aB (aB @AOp.kind.eq_2 (aB @AOp.kind.eq_3 @AOp.kind.eq_4)) (aB @AOp.kind.eq_5 (aB @AOp.kind.eq_6 @dE.eq_1)))) (aB (aB (aB @dE.eq_2 (aB @dZ.eq_1 @dZ.eq_2)) (aB @yT.eq_1 (aB @yT.eq_2 @eE.eq_1))) (aB (aB @eE.eq_2 (aB @nth.eq_1 @nth.eq_2)) (aB @nth.eq_3 (aB @mt.eq_1 @mw.eq_1)))))
def sA8:=aB (aB @mo.eq_1 @Nat.ble.eq_1) (aB @Nat.ble.eq_2 @Nat.ble.eq_3)
def sA:=aB (aB (aB sA0 sA1) (aB sA2 sA3)) (aB (aB sA4 sA5) (aB sA6 (aB sA7 sA8)))
end Go.Mx
namespace Go.Mx
open Go
section
variable [LoopKit] {P:Program} {κ:Ctx} {qR:FuncId→List D→Cell→Prop}
def Nr (P:Program) (κ:Ctx) (f:FuncId) (ds:List D) (c:Cell):Prop:=∀ σ,mZ P κ f ds σ (.ret c) σ
def Has (P:Program) (κ:Ctx) (qR:FuncId→List D→Cell→Prop) (f:FuncId) (ds:List D):Prop:=∃ c,qR f ds c∧Nr P κ f ds c
open Classical in
noncomputable def orc (P:Program) (κ:Ctx) (qR:FuncId→List D→Cell→Prop):dQ:=fun f ds σ=>if h:Has P κ qR f ds then some (.ret (Classical.choose h),σ) else none
theorem zeb:lM P κ (orc P κ qR):=by
 intro f ds σ out σ' h
 unfold orc at h
 split at h
 ·rename_i hs
  cases h
  exact (Classical.choose_spec hs).2 σ
 ·cases h
theorem zo2 {f:FuncId} {ds:List D} (h:Has P κ qR f ds):∃ c,qR f ds c∧∀ σ,orc P κ qR f ds σ=some (.ret c,σ):=by
 refine ⟨Classical.choose h,(Classical.choose_spec h).1,fun σ=>?_⟩
 unfold orc
 rw [dif_pos h]
theorem Nr.weak {f:FuncId} {ds:List D} {o:Bool} {d:D} (hY:isY f=false) (h:Nr P κ f ds ⟨o,d⟩):Nr P κ f ds ⟨false,d⟩:=by
 intro σ
 have h1:=(lG hY).1 (h σ)
 refine (lG hY).2 ⟨h1.1,fun ι j own w vs hS hB hG hr=>(h1.2 ι j own w vs hS hB hG hr).mono ?_⟩
 rintro e w' ⟨ι',j',own',k1,k2,k3,k4⟩
 refine ⟨ι',j',own',k1,k2,k3,?_⟩
 cases e with
 | returned v=>exact ⟨k4.1,fun h=>by cases h⟩
 | panicked c=>exact k4
 | outgrown=>exact k4
theorem zcv:Ae P κ (fun _ _ _=>none):=fun _ _ _ _ _ h=>by cases h
theorem Ge [K:KitOf P ‹LoopKit›] {C:dQ} {R:pP} (hC:lM P κ C) (hR:Ar P κ R) {n f:Nat} {fn:Func} {af:AFun} {ds:List D} {σ':Store} {c:Cell} (hY:isY f=false) (hfn:P.funcs[f]?=some fn) (hok:dS P fn af=true) (hlen:ds.length=af.nargs)
  (hd:eB ds=true) (hc:eT c.d=true) (h:(match exec C n none af.body (jE ds) σ0 with
     | some r=>qC R (fun _ _ _=>none) false af 0 r
     | none=>none)=some (.ret c,σ')):Nr P κ f ds c :=
 fun σ=>Ja hY (zbsb hC zcv hR hY hfn hok hlen h) hd hc σ
abbrev eD:=List (FuncId × (List D→Cell→Prop))
def zh8 (S:eD) (f:FuncId) (ds:List D) (c:Cell):Prop:=∃ s,dE S f=some s∧s ds c
def has (S:eD) (f:FuncId):Bool:=eZ (dE S f) false fun _=>true
noncomputable def Ld (P:Program) (κ:Ctx) (Γ:FuncId→Option AFun) (R:pP) (X:dQ) (S:eD) (n:Nat):dQ :=
 nE (fun f=>ifB (has S f) none (Γ f)) R (fun f ds σ=>ifB (has S f) (orc P κ (zh8 S) f ds σ) (X f ds σ)) n false
noncomputable def Tm (P:Program) (κ:Ctx) (Γ:FuncId→Option AFun) (R:pP) (X:dQ) (S:eD) (n:Nat):dQ :=
 nE (fun f=>ifB (has S f) none (Γ f)) R (fun f ds σ=>ifB (has S f) (orc P κ (zh8 S) f ds σ) (X f ds σ)) n true
theorem Le [K:KitOf P ‹LoopKit›] {Γ:FuncId→Option AFun} {R:pP} {X:dQ} {S:eD} (hΓ:Holds P Γ) (hR:Ar P κ R) (hX:lM P κ X) (n:Nat):lM P κ (Ld P κ Γ R X S n)∧Ae P κ (Tm P κ Γ R X S n):=by
 refine Eh (fun f af h=>?_) hR (fun f ds σ out σ' h=>?_) n
 ·cases hs:has S f with
  | true=>rw [hs] at h; cases h
  | false=>rw [hs] at h; exact hΓ f af h
 ·cases hs:has S f with
  | true=>rw [hs] at h; exact zeb _ _ _ _ _ h
  | false=>rw [hs] at h; exact hX _ _ _ _ _ h
theorem Xk {Γ:FuncId→Option AFun} {R:pP} {X:dQ} {S:eD} {n:Nat} {f:FuncId} {af:AFun} {ds:List D} {σ:Store} (hs:has S f=false) (h:Γ f=some af) (hl:ds.length=af.nargs) :
  Ld P κ Γ R X S (n + 1) f ds σ=oM R (Tm P κ Γ R X S n) af σ.next (exec (Ld P κ Γ R X S n) n none af.body (jE ds) σ):=zys (by rw [hs]; exact h) hl
theorem zko {Γ:FuncId→Option AFun} {R:pP} {X:dQ} {S:eD} {n:Nat} {f:FuncId} {ds:List D} {σ:Store} (hs:has S f=false) (h:Γ f=none) (hY:isY f=false):Ld P κ Γ R X S (n + 1) f ds σ=X f ds σ:=by
 refine (zkn (by rw [hs]; exact h) hY).trans ?_
 rw [hs]
 rfl
theorem zkp {Γ:FuncId→Option AFun} {R:pP} {X:dQ} {S:eD} {f:FuncId} {s:List D→Cell→Prop} {ds:List D} {c:Cell} (hf:dE S f=some s) (hY:isY f=false) (hs:s ds c) (hp:Nr P κ f ds c):∃ c',s ds c'∧∀ n σ,Ld P κ Γ R X S (n + 1) f ds σ=some (.ret c',σ):=by
 have hh:has S f=true:=by unfold has; rw [hf]; rfl
 obtain ⟨c',⟨s',h1,h2⟩,h3⟩:=zo2 (P:=P) (κ:=κ) (qR:=zh8 S) (f:=f) (ds:=ds) ⟨c,⟨s,hf,hs⟩,hp⟩
 rw [hf] at h1
 cases h1
 refine ⟨c',h2,fun n σ=>?_⟩
 refine (zkn (by rw [hh]; rfl) hY).trans ?_
 rw [hh]
 exact h3 σ
end
end Go.Mx

/-
  The machine's run as equations that a rewriting follows: what is asked stands first, and is rewritten alone.
-/
import Derived.Test.YtldfbnbckiifeaaGreatDoorMyCore
set_option linter.unusedSimpArgs false
set_option linter.unusedVariables false
set_option linter.unusedSectionVars false
set_option linter.defProp false
namespace Go.Mx
open Go
abbrev XRes := Option (AExit × Env × Store)
def thenX (x : XRes) (f : Env → Store → XRes) : XRes := match x with
  | some (.normal, e, σ) => f e σ
  | r => r
def zhq (id : Nat) (x : XRes) : XRes := match x with
  | some (.exit id', e, σ) => ifB (id' == id) (some (.normal, e, σ)) (some (.exit id', e, σ))
  | r => r
def zh3 (x : XRes) : XRes := match x with
  | some (.goto _, _, _) => none
  | r => r
def opsX (perm : Option (List Nat)) (clr : List Nat) (x : Option OpsOut) : XRes := match x with
  | some (.normal e σ) => some (.normal, zja e clr, σ)
  | some (.panic d e σ) => some (.panic d, caseO perm e (fun _ => e.bare), σ)
  | none => none
def callX (C : CallF) (rest : List AOper) (dst : Option Nat) (st : Option (List Nat)) (e : Env) (σ0 : Store) (r : Option (Out × Store)) : Option OpsOut := match r with
  | some (.ret c, σ) => ifB (stOK st e σ0 σ) (zbg C rest (e.put dst c) σ) none
  | some (.panic d, σ) => ifB (stOK st e σ0 σ) (some (.panic d e σ)) none
  | none => none
def stepX (C : CallF) (rest : List AOper) (dst : Option Nat) (st : Option (List Nat)) (e : Env) (σ : Store) (s : Option Step) : Option OpsOut := match s with
  | some (.next e' σ') => ifB (stOK st e σ σ') (zbg C rest e' σ') none
  | some (.call f as) => callX C rest dst st e σ (C f as σ)
  | some (.panic d) => some (.panic d e σ)
  | none => none
@[congr] theorem zl7b {x y : XRes} (f : Env → Store → XRes) (h : x = y) : thenX x f = thenX y f := by rw [h]
@[congr] theorem zkcb {x y : XRes} (id : Nat) (h : x = y) : zhq id x = zhq id y := by rw [h]
@[congr] theorem zlsb {x y : XRes} (h : x = y) : zh3 x = zh3 y := by rw [h]
@[congr] theorem zl9b {x y : Option OpsOut} (p : Option (List Nat)) (l : List Nat) (h : x = y) : opsX p l x = opsX p l y := by rw [h]
@[congr] theorem zl4b {x y : Option (Out × Store)} (C : CallF) (rest : List AOper) (dst : Option Nat) (st : Option (List Nat)) (e : Env) (σ0 : Store) (h : x = y) : callX C rest dst st e σ0 x = callX C rest dst st e σ0 y := by rw [h]
@[congr] theorem zl6b {x y : Option Step} (C : CallF) (rest : List AOper) (dst : Option Nat) (st : Option (List Nat)) (e : Env) (σ : Store) (h : x = y) : stepX C rest dst st e σ x = stepX C rest dst st e σ y := by rw [h]
section
variable {C : CallF} {n : Nat} {e : Env} {σ : Store}
theorem zwh {f : Env → Store → XRes} : thenX (some (.normal, e, σ)) f = f e σ := rfl
theorem zb0b {id : Nat} {f : Env → Store → XRes} : thenX (some (.exit id, e, σ)) f = some (.exit id, e, σ) := rfl
theorem ze5b {f : Env → Store → XRes} : thenX (some (.ret, e, σ)) f = some (.ret, e, σ) := rfl
theorem zyi {d : D} {f : Env → Store → XRes} : thenX (some (.panic d, e, σ)) f = some (.panic d, e, σ) := rfl
theorem zs1 {id : Nat} : zhq id (some (.normal, e, σ)) = some (.normal, e, σ) := rfl
theorem zwp {id id' : Nat} : zhq id (some (.exit id', e, σ)) = ifB (id' == id) (some (.normal, e, σ)) (some (.exit id', e, σ)) := rfl
theorem zzs {id : Nat} : zhq id (some (.ret, e, σ)) = some (.ret, e, σ) := rfl
theorem zt5 {id : Nat} {d : D} : zhq id (some (.panic d, e, σ)) = some (.panic d, e, σ) := rfl
theorem zxw {p : Option (List Nat)} {l : List Nat} : opsX p l (some (.normal e σ)) = some (.normal, zja e l, σ) := rfl
theorem zqi {l : List Nat} {d : D} : opsX none l (some (.panic d e σ)) = some (.panic d, e, σ) := rfl
theorem zqj {p : List Nat} {l : List Nat} {d : D} : opsX (some p) l (some (.panic d e σ)) = some (.panic d, e.bare, σ) := rfl
theorem zcpb {rest : List AOper} {dst : Option Nat} {c : Cell} {σ0 : Store} : callX C rest dst none e σ0 (some (.ret c, σ)) = zbg C rest (e.put dst c) σ := rfl
theorem zwq {rest : List AOper} {dst : Option Nat} {d : D} {σ0 : Store} : callX C rest dst none e σ0 (some (.panic d, σ)) = some (.panic d e σ) := rfl
theorem zbrb {rest : List AOper} {dst : Option Nat} {e' : Env} {σ' : Store} : stepX C rest dst none e σ (some (.next e' σ')) = zbg C rest e' σ' := rfl
theorem zbqb {rest : List AOper} {dst : Option Nat} {st : Option (List Nat)} {f : FuncId} {as : List D} : stepX C rest dst st e σ (some (.call f as)) = callX C rest dst st e σ (C f as σ) := rfl
theorem zx4 {rest : List AOper} {dst : Option Nat} {st : Option (List Nat)} {d : D} : stepX C rest dst st e σ (some (.panic d)) = some (.panic d e σ) := rfl
theorem zts (k : IntKind) : zb8 k k = true := by cases k <;> rfl
mutual
theorem D.same_refl : ∀ d : D, D.same d d = true
  | .undef => rfl
  | .bool b => by simp [D.same]
  | .int k n => by simp [D.same, zts]
  | .str s => by simp [D.same]
  | .nils => rfl
  | .list k es => by simp [D.same, zfs es]
  | .agg es => by simp [D.same, zfs es]
  | .tup es => by simp [D.same, zfs es]
  | .nilp => rfl
  | .ptr a b => by simp [D.same]
  | .eptr d => by simp [D.same, D.same_refl d]
  | .fn f a b => by simp [D.same, zfs a, zfs b]
  | .nilfn => rfl
  | .iface t d => by simp [D.same, D.same_refl d]
  | .niliface => rfl
  | .junk => rfl
  | .arr k a b c => by simp [D.same]
  | .empt => rfl
  | .map a => by simp [D.same]
  | .nilmap => rfl
  | .yld a => by simp [D.same]
theorem zfs : ∀ l : List D, sameL l l = true
  | [] => rfl
  | d :: l => by simp [sameL, D.same_refl d, zfs l]
end
theorem zok : ∀ l : List Cell, zh1 l l = true
  | [] => rfl
  | c :: l => by simp [zh1, D.same_refl, zok l]
theorem zol : ∀ l : List (D × D × Nat), zh2 l l = true
  | [] => rfl
  | (a, b, c) :: l => by simp [zh2, D.same_refl, zol l]
theorem zbmb (x : List Cell) : sameO (some x) (some x) = true := zok x
theorem zblb (x : Oth) : sameM (some x) (some x) = true := by
  cases x with
  | it s n => simp [sameM]
  | map es c => simp [sameM, zol]
  | loop r => simp [sameM]
  | dfr => simp [sameM]
theorem zbnb (e : Env) (σ : Store) (s : Nat) : sameW e σ σ s = true := by
  unfold sameW
  cases aget e.slots s with
  | none => rfl
  | some c =>
    simp only [zab]
    cases c.d <;> try rfl
    · rename_i id off
      show (caseO (aget σ.objs id) true fun cs => sameO (some cs) (aget σ.objs id)) = true
      cases h : aget σ.objs id with
      | none => rfl
      | some x => exact zbmb x
    · rename_i id
      show (caseO (aget σ.oth id) true fun x => sameM (some x) (aget σ.oth id)) = true
      cases h : aget σ.oth id with
      | none => rfl
      | some x => exact zblb x
theorem zbk {C : CallF} {e : Env} {σ : Store} {rest : List AOper} {dst : Option Nat} {c : Cell} {ws : List Nat} : callX C rest dst (some ws) e σ (some (.ret c, σ)) = zbg C rest (e.put dst c) σ := by
  show ifB (ws.all (sameW e σ σ)) _ none = _
  have : ws.all (sameW e σ σ) = true := List.all_eq_true.2 fun s _ => zbnb e σ s
  rw [this]
  rfl
theorem zbjb : zbg C [] e σ = some (.normal e σ) := rfl
theorem zxz {o : AOper} {rest : List AOper} : zbg C (o :: rest) e σ = stepX C rest o.dst (zb9 o.op) e σ (zby o e σ) := by
  simp only [zbg, bindO, caseO, stepX]
  cases zby o e σ with
  | none => rfl
  | some s =>
    cases s with
    | next e' σ' => rfl
    | panic d => rfl
    | call f as =>
      simp only [callX]
      cases C f as σ with
      | none => rfl
      | some r => obtain ⟨o, s⟩ := r; cases o <;> rfl
theorem zdbb {ro : Option Nat} : exec C n ro .skip e σ = some (.normal, e, σ) := rfl
theorem zc9b {ro : Option Nat} {id : Nat} : exec C n ro (.exit id) e σ = some (.exit id, e, σ) := rfl
theorem zfyb {ro : Option Nat} : exec C n ro .ret e σ = some (.ret, e, σ) := rfl
theorem zabb {ro : Option Nat} {b : ACode} : exec C n ro (.scope b) e σ = zh3 (exec C n ro b e σ) := by
  rw [exec]
  unfold zh3
  rfl
theorem ztt : zh3 (some (.normal, e, σ)) = some (.normal, e, σ) := rfl
theorem zx1 {id : Nat} : zh3 (some (.exit id, e, σ)) = some (.exit id, e, σ) := rfl
theorem zbob : zh3 (some (.ret, e, σ)) = some (.ret, e, σ) := rfl
theorem zvv {d : D} : zh3 (some (.panic d, e, σ)) = some (.panic d, e, σ) := rfl
theorem zwy {ro : Option Nat} {ops : List AOper} {p : Option (List Nat)} {clr : List Nat} : exec C n ro (.region ops p clr) e σ = opsX p clr (zbg C ops e σ) := by
  rw [exec]
  unfold opsX
  cases zbg C ops e σ with
  | none => rfl
  | some r => cases r <;> rfl
theorem zfzb {ro : Option Nat} {a b : ACode} : exec C n ro (.seq a b) e σ = thenX (exec C n ro a e σ) (exec C n ro b) := by
  rw [exec]
  unfold thenX
  cases exec C n ro a e σ with
  | none => rfl
  | some r => obtain ⟨x, e', σ'⟩ := r; cases x <;> rfl
theorem zc8b {ro : Option Nat} {c : AOpd} {t f : ACode} : exec C n ro (.cond c t f) e σ = bindO (opd e c) fun c => bindO c.d.bool? fun b => ifB b (exec C n ro t e σ) (exec C n ro f e σ) := by rw [exec]
theorem zaab {ro : Option Nat} {id : Nat} {b : ACode} : exec C n ro (.block id b) e σ = zhq id (exec C n ro b e σ) := by
  rw [exec]
  unfold zhq
  cases exec C n ro b e σ with
  | none => rfl
  | some r => obtain ⟨x, e', σ'⟩ := r; cases x <;> rfl
theorem zdab {ro : Option Nat} {b : ACode} : exec C n ro (.loop b) e σ = loopN (exec C n ro b) n e σ := by rw [exec]
end
def zqo (l : Nat) (e : Env) (x : Option (Out × Store)) : XRes := match x with
  | some (.ret _, σ) => endLoop l e σ
  | _ => none
@[congr] theorem zlob (l : Nat) (e : Env) {x y : Option (Out × Store)} (h : x = y) : zqo l e x = zqo l e y := by rw [h]
theorem zbgb {l : Nat} {e : Env} {c : Cell} {σ : Store} : zqo l e (some (.ret c, σ)) = endLoop l e σ := rfl
theorem zwx {C : CallF} {n : Nat} {e : Env} {σ : Store} {ro : Option Nat} {g : AOpd} {ps : List Nat} {a b : ACode} : exec C n ro (.rangeF g ps a b) e σ = bindO (opd e g) fun c => bindO c.d.fnF? fun f =>
    bindO (enterLoop ro ⟨snap e.slots, ps, a, b, .ready⟩ e σ) fun x => zqo x.1 x.2.1 (C f.1 (f.2.1 ++ [.yld x.1] ++ f.2.2) x.2.2) := by
  rw [exec]
  simp only [bindO]
  congr 1
  funext c
  congr 1
  funext f
  congr 1
  funext x
  cases C f.1 (f.2.1 ++ [.yld x.1] ++ f.2.2) x.2.2 with
  | none => rfl
  | some r => obtain ⟨o, s⟩ := r; cases o <;> rfl
def finX (R : RecF) (C : CallF) (af : AFun) (m : Nat) (x : XRes) : Option (Out × Store) := match x with
  | some r => ze1 R C false af m r
  | none => none
@[congr] theorem zl8b (R : RecF) (C : CallF) (af : AFun) (m : Nat) {x y : XRes} (h : x = y) : finX R C af m x = finX R C af m y := by rw [h]
def resX (af : AFun) (m : Nat) (e : Env) (r : Option (Option D × Store)) : Option (Out × Store) := match r with
  | some (none, σ) => bindO (zdb e σ af.res) fun c => some (.ret c, ifB af.gc (σ.trunc m) σ)
  | _ => none
def resP (af : AFun) (m : Nat) (e : Env) (r : Option (Option D × Store)) : Option (Out × Store) := match r with
  | some (none, σ) => bindO (zdb e σ af.res) fun c => some (.ret c, ifB af.gc (σ.trunc m) σ)
  | some (some d, σ) => some (.panic d, ifB af.gc (σ.trunc m) σ)
  | none => none
@[congr] theorem zmbb (af : AFun) (m : Nat) (e : Env) {x y : Option (Option D × Store)} (h : x = y) : resX af m e x = resX af m e y := by rw [h]
@[congr] theorem zmab (af : AFun) (m : Nat) (e : Env) {x y : Option (Option D × Store)} (h : x = y) : resP af m e x = resP af m e y := by rw [h]
section
variable {R : RecF} {C : CallF} {af : AFun} {m : Nat} {e : Env} {σ : Store}
theorem zf0b : finX R C af m (some (.ret, e, σ)) = resX af m e (zbm R C none e.defers σ) := by
  simp only [finX, ze1, Bool.false_and, zaf, resX, bindO]
  cases zbm R C none e.defers σ with
  | none => rfl
  | some r => obtain ⟨x, s⟩ := r; cases x <;> rfl
theorem zw0 : finX R C af m (some (.normal, e, σ)) = resX af m e (zbm R C none e.defers σ) := by
  simp only [finX, ze1, Bool.false_and, zaf, resX, bindO]
  cases zbm R C none e.defers σ with
  | none => rfl
  | some r => obtain ⟨x, s⟩ := r; cases x <;> rfl
theorem zadb {d : D} : finX R C af m (some (.panic d, e, σ)) = resP af m e (zbm R C (some d) e.defers σ) := by
  simp only [finX, ze1, Bool.false_and, zaf, resP, bindO]
  cases zbm R C (some d) e.defers σ with
  | none => rfl
  | some r => obtain ⟨x, s⟩ := r; cases x <;> rfl
theorem ztq {d : Option D} : zbm R C d [] σ = some (d, σ) := rfl
theorem zesb : resX af m e (some (none, σ)) = bindO (zdb e σ af.res) fun c => some (.ret c, ifB af.gc (σ.trunc m) σ) := rfl
theorem zeqb : resP af m e (some (none, σ)) = bindO (zdb e σ af.res) fun c => some (.ret c, ifB af.gc (σ.trunc m) σ) := rfl
theorem zerb {d : D} : resP af m e (some (some d, σ)) = some (.panic d, ifB af.gc (σ.trunc m) σ) := rfl
end
section
variable {Γ : FuncId → Option AFun} {R : RecF} {X : CallF}
theorem zg5b {n : Nat} {f : FuncId} {af : AFun} {ds : List D} {σ : Store} (h : Γ f = some af) (hl : ds.length = af.nargs) : runQ Γ R X (n + 1) false f ds σ = finX R (runQ Γ R X n true) af σ.next (exec (runQ Γ R X n false) n none af.body (zbp ds) σ) := by
  rw [runQ, h]
  simp only [hl, beq_self_eq_true, zad]
  unfold finX
  cases exec (runQ Γ R X n false) n none af.body (zbp ds) σ <;> rfl
theorem zvs {n : Nat} {f : FuncId} {ds : List D} {σ : Store} (h : Γ f = none) (hY : isY f = false) : runQ Γ R X (n + 1) false f ds σ = X f ds σ := by
  rw [runQ, h]
  simp only [zaf, hY]
end
section
variable {b : Bool} {k : IntKind} {n : Int} {s : List UInt8} {ds a cs : List D} {f : FuncId} {t : TypeId} {d : D} {r : RowK}
theorem bool?_bool : (D.bool b).bool? = some b := rfl
theorem bool?_undef : (D.undef).bool? = none := rfl
theorem int?_int : (D.int k n).int? = some (k, n) := rfl
theorem str?_str : (D.str s).str? = some s := rfl
theorem tup?_tup : (D.tup ds).tup? = some ds := rfl
theorem fn?_fn (h : isY f = false) : (D.fn (.func f) a cs).fn? = some (f, a, cs) := by simp only [D.fn?, h, zaf]
theorem fnF?_fn (h : isY f = false) : (D.fn (.func f) a cs).fnF? = some (f, a, cs) := by simp only [D.fnF?, h, zaf]
theorem fn?_yld {id : Nat} : (D.yld id).fn? = some (zcu + id, [], []) := rfl
theorem agg?_agg : (D.agg cs).agg? = some cs := rfl
theorem row?_list : (D.list r cs).row? = some (r, cs) := rfl
theorem isNil?_iface : (D.iface t d).isNil? = some false := rfl
theorem isNil?_nil : (D.niliface).isNil? = some true := rfl
theorem zcwb : (D.agg cs).cells = cs := rfl
theorem zcyb : (D.int k n).cells = [D.int k n] := rfl
theorem zz1 : (D.bool b).cells = [D.bool b] := rfl
theorem zc1b : (D.str s).cells = [D.str s] := rfl
theorem zz5 : (D.nils).cells = [D.nils] := rfl
theorem zz3 : (D.list r cs).cells = [D.list r cs] := rfl
theorem zz4 : (D.nilp).cells = [D.nilp] := rfl
theorem zc0b {i o : Nat} : (D.ptr i o).cells = [D.ptr i o] := rfl
theorem zwr : (D.iface t d).cells = [D.iface t d] := rfl
theorem zfwb {g : Fn} : (D.fn g a cs).cells = [D.fn g a cs] := rfl
theorem zws : (D.nilfn).cells = [D.nilfn] := rfl
theorem zq4 : (D.niliface).cells = [D.niliface] := rfl
theorem zjab : (D.agg cs).one = false := rfl
theorem zjcb : (D.int k n).one = true := rfl
theorem zgtb : (D.bool b).one = true := rfl
theorem zjfb : (D.str s).one = true := rfl
theorem zgxb : (D.nils).one = true := rfl
theorem zgvb : (D.list r cs).one = true := rfl
theorem zgwb : (D.nilp).one = true := rfl
theorem zjeb {i o : Nat} : (D.ptr i o).one = true := rfl
theorem zedb : (D.iface t d).one = true := rfl
theorem zvk : (D.niliface).one = true := rfl
theorem zlib {g : Fn} : (D.fn g a cs).one = true := rfl
theorem zeeb : (D.nilfn).one = true := rfl
theorem zlcb : (D.agg cs).ok = true := rfl
theorem zleb : (D.int k n).ok = true := rfl
theorem zi5b : (D.bool b).ok = true := rfl
theorem zlhb : (D.str s).ok = true := rfl
theorem zi9b : (D.nils).ok = true := rfl
theorem zi7b : (D.list r cs).ok = true := rfl
theorem zi8b : (D.nilp).ok = true := rfl
theorem zlgb {i o : Nat} : (D.ptr i o).ok = true := rfl
theorem zgrb : (D.iface t d).ok = true := rfl
theorem zxh : (D.niliface).ok = true := rfl
theorem ok_fn {g : Fn} : (D.fn g a cs).ok = true := rfl
theorem zgsb : (D.nilfn).ok = true := rfl
theorem zcxb {i o l : Nat} : (D.arr r i o l).cells = [D.arr r i o l] := rfl
theorem zz2 : D.empt.cells = [D.empt] := rfl
theorem zczb {i : Nat} : (D.map i).cells = [D.map i] := rfl
theorem zt8 : D.nilmap.cells = [D.nilmap] := rfl
theorem zjbb {i o l : Nat} : (D.arr r i o l).one = true := rfl
theorem zgub : D.empt.one = true := rfl
theorem zjdb {i : Nat} : (D.map i).one = true := rfl
theorem zbab : D.nilmap.one = true := rfl
theorem zldb {i o l : Nat} : (D.arr r i o l).ok = true := rfl
theorem zi6b : D.empt.ok = true := rfl
theorem zlfb {i : Nat} : (D.map i).ok = true := rfl
theorem zeab : D.nilmap.ok = true := rfl
theorem zdxb {i o l : Nat} : lenOf (.arr r i o l) = some l := rfl
theorem zatb : lenOf .empt = some 0 := rfl
theorem zwm : zbl .empt = some [] := rfl
theorem zw9 : (D.nils).isNilS? = some true := rfl
theorem zarb {i o l : Nat} : (D.arr r i o l).isNilS? = some false := rfl
theorem zus : (dlist r cs).isNilS? = some cs.isEmpty := by cases cs <;> rfl
theorem zaob : D.nilmap.isNilM? = some true := rfl
theorem zanb {i : Nat} : (D.map i).isNilM? = some false := rfl
theorem zxd {os : List (Nat × List Cell)} : zb1 os .nils = some [] := rfl
theorem zxb {os : List (Nat × List Cell)} : zb1 os .empt = some [] := rfl
theorem zxc {os : List (Nat × List Cell)} : zb1 os (.list r cs) = some cs := rfl
theorem zek {os : List (Nat × List Cell)} : zb1 os (dlist r cs) = some cs := by cases cs <;> rfl
theorem zapb : D.nilp.isNilP? = some true := rfl
theorem zaqb {i o : Nat} : (D.ptr i o).isNilP? = some false := rfl
theorem zw7 : (D.eptr d).isNilP? = some false := rfl
theorem zcg : (dlist r cs).one = true := by cases cs <;> rfl
theorem zf6 : (dlist r cs).ok = true := by cases cs <;> rfl
theorem zec : (dlist r cs).cells = [dlist r cs] := by cases cs <;> rfl
theorem zsf : dlist r [] = .nils := rfl
theorem zavb : lenOf .nils = some 0 := rfl
theorem zaub : lenOf (.list r cs) = some cs.length := rfl
theorem zxa : lenOf (dlist r cs) = some cs.length := by cases cs <;> rfl
theorem zwn : zbl .nils = some [] := rfl
theorem zco : zbl (.list r cs) = some cs := rfl
theorem zdq : zbl (dlist r cs) = some cs := by cases cs <;> rfl
theorem nat?_nat {i : Nat} : D.nat? (.int k (i : Int)) = some i := by
  simp [D.nat?, zad]
theorem nat?_zero : D.nat? (.int k 0) = some 0 := rfl
theorem zeob {i o : Nat} : ptrOf (.ptr i o) = some (.ptr i o) := rfl
theorem zbdb : ptrOf (.eptr d) = some (.eptr d) := rfl
theorem zbeb : ptrOf .nilp = none := rfl
end
section
variable {o o' b : Bool} {k : IntKind} {n : Int} {s : List UInt8} {ds : List D} {kr : RowK} {r : List Cell} {dr : List D}
theorem zuh : zbx [] = false := rfl
theorem zug : zbx (⟨o, .int k n⟩ :: r) = zbx r := rfl
theorem zs5 : zbx (⟨o, .bool b⟩ :: r) = zbx r := rfl
theorem zui : zbx (⟨o, .str s⟩ :: r) = zbx r := rfl
theorem zs8 : zbx (⟨o, .nils⟩ :: r) = zbx r := rfl
theorem zs7 : zbx (⟨o, .list kr ds⟩ :: r) = o := rfl
theorem zs6 : zbx [⟨o, dlist kr ds⟩] = (!ds.isEmpty && o) := by cases ds <;> rfl
theorem zb4b : zb6 [] = [] := rfl
theorem zb3b : zb6 (⟨o, .int k n⟩ :: r) = ⟨o, .int k n⟩ :: zb6 r := rfl
theorem zyj : zb6 (⟨o, .bool b⟩ :: r) = ⟨o, .bool b⟩ :: zb6 r := rfl
theorem zb5b : zb6 (⟨o, .str s⟩ :: r) = ⟨o, .str s⟩ :: zb6 r := rfl
theorem zyl : zb6 (⟨o, .nils⟩ :: r) = ⟨o, .nils⟩ :: zb6 r := rfl
theorem zyk : zb6 [⟨o, dlist kr ds⟩] = [⟨ds.isEmpty && o, dlist kr ds⟩] := by cases ds <;> rfl
theorem zgeb : layA o [] = [] := rfl
theorem zgdb : layA o (.int k n :: dr) = ⟨false, .int k n⟩ :: layA o dr := rfl
theorem zdsb : layA o (.bool b :: dr) = ⟨false, .bool b⟩ :: layA o dr := rfl
theorem zgfb : layA o (.str s :: dr) = ⟨false, .str s⟩ :: layA o dr := rfl
theorem zdvb : layA o (.nils :: dr) = ⟨false, .nils⟩ :: layA o dr := rfl
theorem zdub : layA o (.list kr ds :: dr) = ⟨o, .list kr ds⟩ :: dr.map Cell.of := rfl
theorem zdtb : layA o [dlist kr ds] = [⟨!ds.isEmpty && o, dlist kr ds⟩] := by cases ds <;> rfl
end
theorem zri {α β : Type} (f : α → β) : ∀ (l : List α) (i : Nat), nth (l.map f) i = (nth l i).map f
  | [], _ => rfl
  | _ :: _, 0 => rfl
  | _ :: l, i + 1 => zri f l i
theorem zrh {α : Type} : ∀ (l : List α) (i : Nat) (h : i < l.length), nth l i = some (l[i])
  | x :: l, 0, _ => rfl
  | _ :: l, i + 1, h => zrh l i (by simpa using h)
theorem zn7 {sz : Nat} : ∀ {ds : List D}, (∀ d ∈ ds, d.ok = true ∧ d.cells.length = sz) → za6 sz ds = true
  | [], _ => rfl
  | d :: r, h => by
    obtain ⟨h1, h2⟩ := h d (List.mem_cons_self ..)
    simp only [za6, h1, h2, beq_self_eq_true, Bool.true_and]
    exact zn7 fun x hx => h x (List.mem_cons_of_mem _ hx)
theorem zzn {r : RowK} {by_ : Nat} {es : List D} {o : Bool} {y : D} (ho : es ≠ [] → o = true) (hy1 : y.ok = true) (hy2 : y.cells.length = r.sz) (h1 : (es.length + 1) * by_ ≤ bound) (h2 : es.length + 1 ≤ bound) :
    za1 r by_ ⟨o, dlist r es⟩ [y] = some ⟨true, dlist r (es ++ [y])⟩ := by
  have hm : zc8 r ⟨o, dlist r es⟩ = true := by
    cases es with
    | nil => rfl
    | cons x l => simp [zc8, dlist, ho (by simp), RowK.same]
  have hj : zds r (dlist r es) [y] = dlist r (es ++ [y]) := by
    cases es <;> rfl
  simp only [za1, zdq, zco, hm, hj, za6, hy1, hy2, bindO, zab, List.length_cons, List.length_nil, Nat.zero_add, decide_eq_true h1, decide_eq_true h2, beq_self_eq_true, Bool.and_self, zad]
theorem zhh {r : RowK} {by_ : Nat} {es ys : List D} {o : Bool} (ho : es ≠ [] → o = true) (hy : ∀ d ∈ ys, d.ok = true ∧ d.cells.length = r.sz) (h1 : (es.length + ys.length) * by_ ≤ bound) (h2 : es.length + ys.length ≤ bound) :
    za1 r by_ ⟨o, dlist r es⟩ ys = some ⟨true, dlist r (es ++ ys)⟩ := by
  have hm : zc8 r ⟨o, dlist r es⟩ = true := by
    cases es with
    | nil => rfl
    | cons x l => simp [zc8, dlist, ho (by simp), RowK.same]
  have hj : zds r (dlist r es) ys = dlist r (es ++ ys) := by
    cases es <;> rfl
  simp only [za1, zdq, hm, hj, zn7 hy, bindO, zab, decide_eq_true h1, decide_eq_true h2, Bool.and_self, zad]
def Evly (p : Nat → Prop) : Prop := ∃ n0, ∀ n, n0 ≤ n → p n
theorem Evly.all {p : Nat → Prop} (h : ∀ n, p n) : Evly p := ⟨0, fun n _ => h n⟩
theorem Evly.and {p q : Nat → Prop} (h : Evly p) (k : Evly q) : Evly fun n => p n ∧ q n := by
  obtain ⟨a, ha⟩ := h
  obtain ⟨b, hb⟩ := k
  exact ⟨max a b, fun n hn => ⟨ha n (by omega), hb n (by omega)⟩⟩
theorem Evly.mono {p q : Nat → Prop} (h : Evly p) (k : ∀ n, p n → q n) : Evly q := by
  obtain ⟨a, ha⟩ := h
  exact ⟨a, fun n hn => k n (ha n hn)⟩
theorem Evly.step {p q : Nat → Prop} (h : Evly p) (k : Nat) (s : ∀ n, k ≤ n → p n → q (n + 1)) : Evly q := by
  obtain ⟨a, ha⟩ := h
  refine ⟨max a k + 1, fun n hn => ?_⟩
  obtain ⟨m, rfl⟩ : ∃ m, n = m + 1 := ⟨n - 1, by omega⟩
  exact s m (by omega) (ha m (by omega))
theorem Evly.list {α : Type} (l : List α) {p : α → Nat → Prop} (h : ∀ x ∈ l, Evly (p x)) : Evly fun n => ∀ x ∈ l, p x n := by
  induction l with
  | nil => exact .all fun n x hx => by cases hx
  | cons a l ih =>
    refine ((h a (List.mem_cons_self ..)).and (ih fun x hx => h x (List.mem_cons_of_mem _ hx))).mono fun n hn x hx => ?_
    rcases List.mem_cons.1 hx with e | k
    · rw [e]; exact hn.1
    · exact hn.2 x k
theorem Evly.below {p : Nat → Nat → Prop} : ∀ (k : Nat), (∀ i, i < k → Evly (p i)) → Evly fun n => ∀ i, i < k → p i n
  | 0, _ => .all fun n i hi => by omega
  | k + 1, h => ((Evly.below k fun i hi => h i (by omega)).and (h k (by omega))).mono fun n hn i hi => by
    by_cases hik : i = k
    · rw [hik]; exact hn.2
    · exact hn.1 i (by omega)
theorem za4 {body : Env → Store → XRes} (E : Nat → Env) (S : Nat → Store) (k : Nat) {r : AExit × Env × Store} (hr : ∀ e σ, r ≠ (.normal, e, σ)) (hstep : ∀ i, i < k → body (E i) (S i) = some (.normal, E (i + 1), S (i + 1))) (hend : body (E k) (S k) = some r) :
    ∀ (j n : Nat), j ≤ k → k < n + j → loopN body n (E j) (S j) = some r
  | j, 0, h1, h2 => by omega
  | j, n + 1, h1, h2 => by
    rw [loopN]
    by_cases hj : j = k
    · rw [hj, hend]
      obtain ⟨x, e, σ⟩ := r
      cases x with
      | normal => exact absurd rfl (hr e σ)
      | _ => rfl
    · rw [hstep j (by omega)]
      exact za4 E S k hr hstep hend (j + 1) n (by omega) (by omega)
theorem zhl {body : Env → Store → XRes} (E : Nat → Env) (S : Nat → Store) (k : Nat) (p : Nat → Bool) {r : AExit × Env × Store} (stop : Nat → AExit × Env × Store) (hr : ∀ e σ, r ≠ (.normal, e, σ)) (hs : ∀ i e σ, stop i ≠ (.normal, e, σ))
    (hstep : ∀ i, i < k → p i = true → body (E i) (S i) = some (.normal, E (i + 1), S (i + 1))) (hstop : ∀ i, i < k → p i = false → body (E i) (S i) = some (stop i)) (hend : body (E k) (S k) = some r) :
    ∀ (n j : Nat), j ≤ k → k < n + j → (∃ i, j ≤ i ∧ i < k ∧ p i = false ∧ (∀ i', j ≤ i' → i' < i → p i' = true) ∧ loopN body n (E j) (S j) = some (stop i)) ∨ ((∀ i, j ≤ i → i < k → p i = true) ∧ loopN body n (E j) (S j) = some r)
  | 0, j, h1, h2 => by omega
  | n + 1, j, h1, h2 => by
    rw [loopN]
    by_cases hj : j = k
    · refine .inr ⟨fun i h3 h4 => by omega, ?_⟩
      rw [hj, hend]
      obtain ⟨x, e, σ⟩ := r
      cases x with
      | normal => exact absurd rfl (hr e σ)
      | _ => rfl
    · cases hp : p j with
      | false =>
        refine .inl ⟨j, by omega, by omega, hp, fun i' h3 h4 => by omega, ?_⟩
        rw [hstop j (by omega) hp]
        cases hst : stop j with
        | mk x y =>
        obtain ⟨e, σ⟩ := y
        cases x with
        | normal => exact absurd hst (hs j e σ)
        | _ => rfl
      | true =>
        rw [hstep j (by omega) hp]
        rcases zhl E S k p stop hr hs hstep hstop hend n (j + 1) (by omega) (by omega) with ⟨i, h3, h4, h5, h6, h7⟩ | ⟨h3, h4⟩
        · refine .inl ⟨i, by omega, h4, h5, fun i' h8 h9 => ?_, h7⟩
          by_cases hij : i' = j
          · rw [hij]; exact hp
          · exact h6 i' (by omega) h9
        · refine .inr ⟨fun i h5 h6 => ?_, h4⟩
          by_cases hij : i = j
          · rw [hij]; exact hp
          · exact h3 i (by omega) h6
end Go.Mx
namespace Go.Mx
open Go
theorem szB : (∀ b : Bool, (false && b) = false) ∧ (∀ b : Bool, (true && b) = b) ∧ (∀ b : Bool, (b && true) = b) ∧ (∀ b : Bool, (b && false) = false) ∧ (∀ b : Bool, (b || true) = true) ∧ (∀ b : Bool, (true || b) = true) ∧ (∀ b : Bool, (b || false) = b) ∧ (∀ b : Bool, (false || b) = b) ∧ (∀ b : Bool, (true == b) = b) ∧ (∀ b : Bool, (false == b) = !b) ∧ ((!true) = false) ∧ ((!false) = true) :=
  ⟨Bool.false_and, Bool.true_and, Bool.and_true, Bool.and_false, Bool.or_true, Bool.true_or, Bool.or_false, Bool.false_or, Bool.true_beq, Bool.false_beq, Bool.not_true, Bool.not_false⟩
theorem szL : (∀ {α β : Type} {f : α → β} {a : α} {l : List α}, (a :: l).map f = f a :: l.map f) ∧ (∀ {α β : Type} {f : α → β}, ([] : List α).map f = []) ∧ (∀ {α : Type} {a : α} {l : List α}, (a :: l).length = l.length + 1) ∧ (∀ {α : Type}, ([] : List α).length = 0) ∧ (∀ {α : Type} (l : List α), l ++ [] = l) ∧ (∀ {α : Type} (l : List α), [] ++ l = l) ∧ (∀ {α : Type} {a : α} {l m : List α}, (a :: l) ++ m = a :: (l ++ m)) ∧ (∀ {α : Type}, ([] : List α).isEmpty = true) ∧ (∀ {α : Type} {a : α} {l : List α}, (a :: l).isEmpty = false) ∧ (∀ {α : Type} {p : α → Bool}, ([] : List α).all p = true) ∧ (∀ {α : Type} {p : α → Bool} {a : α} {l : List α}, (a :: l).all p = (p a && l.all p)) ∧ (∀ {α : Type} (a b : α), (some a).getD b = a) ∧ (∀ {α : Type} (b : α), (none : Option α).getD b = b) :=
  ⟨List.map_cons, List.map_nil, List.length_cons, List.length_nil, List.append_nil, List.nil_append, List.cons_append, List.isEmpty_nil, List.isEmpty_cons, List.all_nil, List.all_cons, fun a b => Option.getD_some, fun b => Option.getD_none⟩
theorem szQ : (∀ n : Nat, 0 + n = n) ∧ (∀ n : Nat, n + 0 = n) ∧ (∀ {α : Type} [BEq α] [ReflBEq α] {a : α}, (a == a) = true) ∧ (∀ [h : Decidable True], @decide True h = true) ∧ (∀ [h : Decidable False], @decide False h = false) ∧ (∀ n : Nat, n ≤ n) :=
  ⟨Nat.zero_add, Nat.add_zero, beq_self_eq_true _, fun {_} => decide_true _, fun {_} => decide_false _, Nat.le_refl⟩
theorem szC : (∀ {α β : Type} (n : β) (f : α → β), caseO none n f = n) ∧ (∀ {α β : Type} (a : α) (n : β) (f : α → β), caseO (some a) n f = f a) ∧ (∀ {β : Type} (x y : β), ifB true x y = x) ∧ (∀ {β : Type} (x y : β), ifB false x y = y) ∧ (∀ {α β : Type} (x : Option α) (f : α → Option β), bindO x f = caseO x none f) :=
  ⟨za8, zab, zad, zaf, fun _ _ => rfl⟩
def sA0 := And.intro (And.intro (And.intro (And.intro (And.intro szQ (And.intro szB szL)) (And.intro szC (And.intro @zja.eq_1 @mem.eq_1))) (And.intro (And.intro @mem.eq_2 (And.intro @zbp.eq_1 @zfe.eq_1)) (And.intro @zfe.eq_2 (And.intro @zeq.eq_1 @zeq.eq_2)))) (And.intro (And.intro (And.intro @addr.eq_1 (And.intro @addr.eq_2 @addr.eq_3)) (And.intro @opd.eq_1 (And.intro @opd.eq_2 @opd.eq_3))) (And.intro (And.intro @opds.eq_1 (And.intro @opds.eq_2 @lkill.eq_1)) (And.intro @lkill.eq_2 (And.intro @lfree.eq_1 @za9.eq_1))))) (And.intro (And.intro (And.intro (And.intro @za9.eq_2 (And.intro @Env.put.eq_1 @Env.put.eq_2)) (And.intro @Env.putV.eq_1 (And.intro @Env.putV.eq_2 @Env.putV.eq_3))) (And.intro (And.intro @Env.box.eq_1 (And.intro @Env.bare.eq_1 @zck.eq_1)) (And.intro @zck.eq_2 (And.intro @zck.eq_3 @zck.eq_4)))) (And.intro (And.intro (And.intro @zce.eq_1 (And.intro @zce.eq_2 @binD.eq_1)) (And.intro @binD.eq_2 (And.intro @binD.eq_3 @binBD.eq_1))) (And.intro (And.intro @binBD.eq_2 (And.intro @zi1.eq_1 @zi1.eq_2)) (And.intro @zi1.eq_3 (And.intro @zc5.eq_1 @zc5.eq_2)))))
def sA1 := And.intro (And.intro (And.intro (And.intro (And.intro @zc5.eq_3 (And.intro @zc5.eq_4 @zc5.eq_5)) (And.intro @zc5.eq_6 (And.intro @zc5.eq_7 @zc5.eq_8))) (And.intro (And.intro @zc5.eq_9 (And.intro @zc5.eq_10 @zc5.eq_11)) (And.intro @zc5.eq_12 (And.intro @zez.eq_1 @zez.eq_2)))) (And.intro (And.intro (And.intro @zez.eq_3 (And.intro @zez.eq_4 @zez.eq_5)) (And.intro @zez.eq_6 (And.intro @zez.eq_7 @zez.eq_8))) (And.intro (And.intro @unD.eq_1 (And.intro @unD.eq_2 @unD.eq_3)) (And.intro @mmD.eq_1 (And.intro @mmD.eq_2 @AOpd.drop.eq_1))))) (And.intro (And.intro (And.intro (And.intro @AOpd.drop.eq_2 (And.intro @Cell.of.eq_1 @zb9.eq_1)) (And.intro @zb9.eq_2 (And.intro @zb9.eq_3 @zb9.eq_4))) (And.intro (And.intro @zb8.eq_1 (And.intro @zb8.eq_2 @zb8.eq_3)) (And.intro @zb8.eq_4 (And.intro @zb8.eq_5 @zb8.eq_6)))) (And.intro (And.intro (And.intro @zb8.eq_7 (And.intro @zb8.eq_8 @zb8.eq_9)) (And.intro @zg0.eq_1 (And.intro @zg0.eq_2 @zg0.eq_3))) (And.intro (And.intro @eqlB.eq_1 (And.intro @eqlB.eq_2 @eqlB.eq_3)) (And.intro @zn0.eq_1 (And.intro @zn0.eq_2 @takeC.eq_1)))))
def sA2 := And.intro (And.intro (And.intro (And.intro (And.intro @takeC.eq_2 (And.intro @takeC.eq_3 @takeC.eq_4)) (And.intro @zbt.eq_1 (And.intro @zbt.eq_2 @zbt.eq_3))) (And.intro (And.intro @fits.eq_1 (And.intro @zbf.eq_1 @zat.eq_1)) (And.intro @zat.eq_2 (And.intro @zat.eq_3 @zat.eq_4)))) (And.intro (And.intro (And.intro @putD.eq_1 (And.intro @putD.eq_2 @putD.eq_3)) (And.intro @putD.eq_4 (And.intro @fillD.eq_1 @fillD.eq_2))) (And.intro (And.intro @ze6.eq_1 (And.intro @ze6.eq_2 @optLo.eq_1)) (And.intro @optLo.eq_2 (And.intro @optHi.eq_1 @optHi.eq_2))))) (And.intro (And.intro (And.intro (And.intro @za6.eq_1 (And.intro @za6.eq_2 @zbm.eq_1)) (And.intro @zbm.eq_2 (And.intro @zdb.eq_1 @zdb.eq_2))) (And.intro (And.intro @zew.eq_1 (And.intro @zew.eq_2 @zew.eq_3)) (And.intro @zdv.eq_1 (And.intro @zdv.eq_2 @zwh)))) (And.intro (And.intro (And.intro @zb0b (And.intro @ze5b @zyi)) (And.intro @zs1 (And.intro @zwp @zzs))) (And.intro (And.intro @zt5 (And.intro @zxw @zqi)) (And.intro @zqj (And.intro @zcpb @zwq)))))
def sA3 := And.intro (And.intro (And.intro (And.intro (And.intro @zbrb (And.intro @zbqb @zx4)) (And.intro @zbk (And.intro @zbjb @zxz))) (And.intro (And.intro @zdbb (And.intro @zc9b @zfyb)) (And.intro @zabb (And.intro @ztt @zx1)))) (And.intro (And.intro (And.intro @zbob (And.intro @zvv @zwy)) (And.intro @zfzb (And.intro @zc8b @zaab))) (And.intro (And.intro @zdab (And.intro @zbgb @zwx)) (And.intro @zf0b (And.intro @zw0 @zadb))))) (And.intro (And.intro (And.intro (And.intro @ztq (And.intro @zesb @zeqb)) (And.intro @zerb (And.intro @bool?_bool @bool?_undef))) (And.intro (And.intro @int?_int (And.intro @str?_str @tup?_tup)) (And.intro @fn?_fn (And.intro @fnF?_fn @fn?_yld)))) (And.intro (And.intro (And.intro @agg?_agg (And.intro @row?_list @isNil?_iface)) (And.intro @isNil?_nil (And.intro @zcwb @zcyb))) (And.intro (And.intro @zz1 (And.intro @zc1b @zz5)) (And.intro @zz3 (And.intro @zz4 @zc0b)))))
def sA4 := And.intro (And.intro (And.intro (And.intro (And.intro @zwr (And.intro @zfwb @zws)) (And.intro @zq4 (And.intro @zjab @zjcb))) (And.intro (And.intro @zgtb (And.intro @zjfb @zgxb)) (And.intro @zgvb (And.intro @zgwb @zjeb)))) (And.intro (And.intro (And.intro @zedb (And.intro @zvk @zlib)) (And.intro @zeeb (And.intro @zlcb @zleb))) (And.intro (And.intro @zi5b (And.intro @zlhb @zi9b)) (And.intro @zi7b (And.intro @zi8b @zlgb))))) (And.intro (And.intro (And.intro (And.intro @zgrb (And.intro @zxh @ok_fn)) (And.intro @zgsb (And.intro @zcxb @zz2))) (And.intro (And.intro @zczb (And.intro @zt8 @zjbb)) (And.intro @zgub (And.intro @zjdb @zbab)))) (And.intro (And.intro (And.intro @zldb (And.intro @zi6b @zlfb)) (And.intro @zeab (And.intro @zdxb @zatb))) (And.intro (And.intro @zwm (And.intro @zw9 @zarb)) (And.intro @zus (And.intro @zaob @zanb)))))
def sA5 := And.intro (And.intro (And.intro (And.intro (And.intro @zxd (And.intro @zxb @zxc)) (And.intro @zek (And.intro @zapb @zaqb))) (And.intro (And.intro @zw7 (And.intro @zcg @zf6)) (And.intro @zec (And.intro @zsf @zavb)))) (And.intro (And.intro (And.intro @zaub (And.intro @zxa @zwn)) (And.intro @zco (And.intro @zdq @nat?_nat))) (And.intro (And.intro @nat?_zero (And.intro @zeob @zbdb)) (And.intro @zbeb (And.intro @zuh @zug))))) (And.intro (And.intro (And.intro (And.intro @zs5 (And.intro @zui @zs8)) (And.intro @zs7 (And.intro @zs6 @zb4b))) (And.intro (And.intro @zb3b (And.intro @zyj @zb5b)) (And.intro @zyl (And.intro @zyk @zgeb)))) (And.intro (And.intro (And.intro @zgdb (And.intro @zdsb @zgfb)) (And.intro @zdvb (And.intro @zdub @zdtb))) (And.intro (And.intro @zby.eq_1 (And.intro @zam.eq_1 @zam.eq_2)) (And.intro @zam.eq_3 (And.intro @zam.eq_4 @zam.eq_5)))))
def sA6 := And.intro (And.intro (And.intro (And.intro (And.intro @zam.eq_6 (And.intro @zam.eq_7 @zam.eq_8)) (And.intro @zam.eq_9 (And.intro @zam.eq_10 @zam.eq_11))) (And.intro (And.intro @zam.eq_12 (And.intro @zam.eq_13 @zam.eq_14)) (And.intro @zam.eq_15 (And.intro @zam.eq_16 @zam.eq_17)))) (And.intro (And.intro (And.intro @zam.eq_18 (And.intro @zam.eq_19 @zam.eq_20)) (And.intro @zam.eq_21 (And.intro @zam.eq_22 @zam.eq_23))) (And.intro (And.intro @zam.eq_24 (And.intro @zam.eq_25 @zam.eq_26)) (And.intro @zam.eq_27 (And.intro @zam.eq_28 @zam.eq_29))))) (And.intro (And.intro (And.intro (And.intro @zam.eq_30 (And.intro @zam.eq_31 @zam.eq_32)) (And.intro @zam.eq_33 (And.intro @zam.eq_34 @zam.eq_35))) (And.intro (And.intro @zei.eq_1 (And.intro @zei.eq_2 @zei.eq_3)) (And.intro @zei.eq_4 (And.intro @zei.eq_5 @zha.eq_1)))) (And.intro (And.intro (And.intro @zha.eq_2 (And.intro @evalV.eq_1 @evalV.eq_2)) (And.intro @evalV.eq_3 (And.intro @evalV.eq_4 @evalV.eq_5))) (And.intro (And.intro @evalV.eq_6 (And.intro @evalV.eq_7 @evalV.eq_8)) (And.intro @evalV.eq_9 (And.intro @evalV.eq_10 @evalV.eq_11)))))
def sA7 := And.intro (And.intro (And.intro (And.intro (And.intro @evalV.eq_12 (And.intro @evalV.eq_13 @evalV.eq_14)) (And.intro @evalV.eq_15 (And.intro @evalV.eq_16 @evalV.eq_17))) (And.intro (And.intro @evalV.eq_18 (And.intro @evalV.eq_19 @evalV.eq_20)) (And.intro @evalV.eq_21 (And.intro @evalV.eq_22 @evalV.eq_23)))) (And.intro (And.intro (And.intro @evalV.eq_24 (And.intro @evalV.eq_25 @evalV.eq_26)) (And.intro @evalV.eq_27 (And.intro @evalV.eq_28 @evalV.eq_29))) (And.intro (And.intro @evalV.eq_30 (And.intro @evalV.eq_31 @evalV.eq_32)) (And.intro @evalV.eq_33 (And.intro @evalV.eq_34 @evalV.eq_35))))) (And.intro (And.intro (And.intro (And.intro @evalV.eq_36 (And.intro @evalV.eq_37 @evalV.eq_38)) (And.intro @evalV.eq_39 (And.intro @evalV.eq_40 @AOp.kind.eq_1))) (And.intro (And.intro @AOp.kind.eq_2 (And.intro @AOp.kind.eq_3 @AOp.kind.eq_4)) (And.intro @AOp.kind.eq_5 (And.intro @AOp.kind.eq_6 @aget.eq_1)))) (And.intro (And.intro (And.intro @aget.eq_2 (And.intro @aset.eq_1 @aset.eq_2)) (And.intro @adel.eq_1 (And.intro @adel.eq_2 @adel1.eq_1))) (And.intro (And.intro @adel1.eq_2 (And.intro @nth.eq_1 @nth.eq_2)) (And.intro @nth.eq_3 (And.intro @mt.eq_1 @mw.eq_1)))))
def sA8 := And.intro (And.intro @mo.eq_1 @Nat.ble.eq_1) (And.intro @Nat.ble.eq_2 @Nat.ble.eq_3)
def sA := And.intro (And.intro (And.intro sA0 sA1) (And.intro sA2 sA3)) (And.intro (And.intro sA4 sA5) (And.intro sA6 (And.intro sA7 sA8)))
end Go.Mx

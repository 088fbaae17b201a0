/-
  The machine's run as equations that a rewriting follows: what is asked stands first, and is rewritten alone.
-/
import Derived.Test.YtkgdpcnobfadaaaGreatDoorMzCore
set_option linter.unusedSimpArgs false
set_option linter.unusedVariables false
namespace Go.Mx
open Go
abbrev XRes := Option (AExit × Env × Store)
def thenX (x : XRes) (f : Env → Store → XRes) : XRes := match x with
  | some (.normal, e, σ) => f e σ
  | r => r
def zdk (id : Nat) (x : XRes) : XRes := match x with
  | some (.exit id', e, σ) => ifB (id' == id) (some (.normal, e, σ)) (some (.exit id', e, σ))
  | r => r
def opsX (perm : Option (List Nat)) (clr : List Nat) (x : Option OpsOut) : XRes := match x with
  | some (.normal e σ) => some (.normal, zex e clr, σ)
  | some (.panic d e σ) => some (.panic d, caseO perm e (fun _ => e.bare), σ)
  | none => none
def callX (C : CallF) (rest : List AOper) (dst : Option Nat) (st : Bool) (e : Env) (σ0 : Store) (r : Option (Out × Store)) : Option OpsOut := match r with
  | some (.ret c, σ) => ifB (stOK st σ0 σ) (za0 C rest (e.put dst c) σ) none
  | some (.panic d, σ) => ifB (stOK st σ0 σ) (some (.panic d e σ)) none
  | none => none
def stepX (C : CallF) (rest : List AOper) (dst : Option Nat) (st : Bool) (e : Env) (σ : Store) (s : Option Step) : Option OpsOut := match s with
  | some (.next e' σ') => za0 C rest e' σ'
  | some (.call f as) => callX C rest dst st e σ (C f as σ)
  | some (.panic d) => some (.panic d e σ)
  | none => none
@[congr] theorem zikb {x y : XRes} (f : Env → Store → XRes) (h : x = y) : thenX x f = thenX y f := by rw [h]
@[congr] theorem zhkb {x y : XRes} (id : Nat) (h : x = y) : zdk id x = zdk id y := by rw [h]
@[congr] theorem zimb {x y : Option OpsOut} (p : Option (List Nat)) (l : List Nat) (h : x = y) : opsX p l x = opsX p l y := by rw [h]
@[congr] theorem zihb {x y : Option (Out × Store)} (C : CallF) (rest : List AOper) (dst : Option Nat) (st : Bool) (e : Env) (σ0 : Store) (h : x = y) : callX C rest dst st e σ0 x = callX C rest dst st e σ0 y := by rw [h]
@[congr] theorem zijb {x y : Option Step} (C : CallF) (rest : List AOper) (dst : Option Nat) (st : Bool) (e : Env) (σ : Store) (h : x = y) : stepX C rest dst st e σ x = stepX C rest dst st e σ y := by rw [h]
section
variable {C : CallF} {n : Nat} {e : Env} {σ : Store}
theorem zs8 {f : Env → Store → XRes} : thenX (some (.normal, e, σ)) f = f e σ := rfl
theorem zyw {id : Nat} {f : Env → Store → XRes} : thenX (some (.exit id, e, σ)) f = some (.exit id, e, σ) := rfl
theorem zbtb {f : Env → Store → XRes} : thenX (some (.ret, e, σ)) f = some (.ret, e, σ) := rfl
theorem zvm {d : D} {f : Env → Store → XRes} : thenX (some (.panic d, e, σ)) f = some (.panic d, e, σ) := rfl
theorem zqb {id : Nat} : zdk id (some (.normal, e, σ)) = some (.normal, e, σ) := rfl
theorem zt0 {id id' : Nat} : zdk id (some (.exit id', e, σ)) = ifB (id' == id) (some (.normal, e, σ)) (some (.exit id', e, σ)) := rfl
theorem zw6 {id : Nat} : zdk id (some (.ret, e, σ)) = some (.ret, e, σ) := rfl
theorem zq9 {id : Nat} {d : D} : zdk id (some (.panic d, e, σ)) = some (.panic d, e, σ) := rfl
theorem zu4 {p : Option (List Nat)} {l : List Nat} : opsX p l (some (.normal e σ)) = some (.normal, zex e l, σ) := rfl
theorem zod {l : List Nat} {d : D} : opsX none l (some (.panic d e σ)) = some (.panic d, e, σ) := rfl
theorem zoe {p : List Nat} {l : List Nat} {d : D} : opsX (some p) l (some (.panic d e σ)) = some (.panic d, e.bare, σ) := rfl
theorem zzh {rest : List AOper} {dst : Option Nat} {c : Cell} {σ0 : Store} : callX C rest dst false e σ0 (some (.ret c, σ)) = za0 C rest (e.put dst c) σ := rfl
theorem zt1 {rest : List AOper} {dst : Option Nat} {d : D} {σ0 : Store} : callX C rest dst false e σ0 (some (.panic d, σ)) = some (.panic d e σ) := rfl
theorem zyo {rest : List AOper} {dst : Option Nat} {st : Bool} {e' : Env} {σ' : Store} : stepX C rest dst st e σ (some (.next e' σ')) = za0 C rest e' σ' := rfl
theorem zyn {rest : List AOper} {dst : Option Nat} {st : Bool} {f : FuncId} {as : List D} : stepX C rest dst st e σ (some (.call f as)) = callX C rest dst st e σ (C f as σ) := rfl
theorem zu9 {rest : List AOper} {dst : Option Nat} {st : Bool} {d : D} : stepX C rest dst st e σ (some (.panic d)) = some (.panic d e σ) := rfl
theorem zqu (k : IntKind) : za3 k k = true := by cases k <;> rfl
mutual
theorem D.same_refl : ∀ d : D, D.same d d = true
  | .undef => rfl
  | .bool b => by simp [D.same]
  | .int k n => by simp [D.same, zqu]
  | .str s => by simp [D.same]
  | .nils => rfl
  | .list k es => by simp [D.same, zel es]
  | .agg es => by simp [D.same, zel es]
  | .tup es => by simp [D.same, zel es]
  | .nilp => rfl
  | .ptr a b => by simp [D.same]
  | .eptr d => by simp [D.same, D.same_refl d]
  | .fn f a b => by simp [D.same, zel a, zel b]
  | .nilfn => rfl
  | .iface t d => by simp [D.same, D.same_refl d]
  | .niliface => rfl
  | .junk => rfl
  | .arr k a b c => by simp [D.same]
  | .empt => rfl
  | .map a => by simp [D.same]
  | .nilmap => rfl
theorem zel : ∀ l : List D, sameL l l = true
  | [] => rfl
  | d :: l => by simp [sameL, D.same_refl d, zel l]
end
theorem zmp : ∀ l : List Cell, zgn l l = true
  | [] => rfl
  | c :: l => by simp [zgn, D.same_refl, zmp l]
theorem zmq : ∀ l : List (D × D × Nat), zgo l l = true
  | [] => rfl
  | (a, b, c) :: l => by simp [zgo, D.same_refl, zmq l]
theorem zmx {α : Type} : ∀ (l : List (Nat × α)) (p : Nat × α), p ∈ l → (aget l p.1).isSome = true
  | [], _, h => by cases h
  | (k, v) :: l, p, h => by
    simp only [aget]
    cases hk : k == p.1 with
    | true => rfl
    | false =>
      rcases List.mem_cons.1 h with rfl | h
      · simp at hk
      · exact zmx l p h
theorem zpk (σ : Store) : zcn σ σ = true := by
  unfold zcn
  rw [Bool.and_eq_true, List.all_eq_true, List.all_eq_true]
  refine ⟨fun p hp => ?_, fun p hp => ?_⟩
  · obtain ⟨x, hx⟩ := Option.isSome_iff_exists.1 (zmx _ p hp)
    rw [hx]
    exact zmp x
  · obtain ⟨x, hx⟩ := Option.isSome_iff_exists.1 (zmx _ p hp)
    rw [hx]
    cases x with
    | it s n => simp [sameM]
    | map es c => simp [sameM, zmq]
theorem zw7 {C : CallF} {e : Env} {σ : Store} {rest : List AOper} {dst : Option Nat} {c : Cell} : callX C rest dst true e σ (some (.ret c, σ)) = za0 C rest (e.put dst c) σ := by
  show ifB (zcn σ σ) _ none = _
  rw [zpk]
  rfl
theorem zyj : za0 C [] e σ = some (.normal e σ) := rfl
theorem zu7 {o : AOper} {rest : List AOper} : za0 C (o :: rest) e σ = stepX C rest o.dst (zch o.op) e σ (zah o e σ) := by
  simp only [za0, bindO, caseO, stepX]
  cases zah o e σ with
  | none => rfl
  | some s =>
    cases s with
    | next e' σ' => rfl
    | panic d => rfl
    | call f as =>
      simp only [callX]
      cases C f as σ with
      | none => rfl
      | some r => obtain ⟨o, s⟩ := r; cases o <;> rfl
theorem zzx : exec C n .skip e σ = some (.normal, e, σ) := rfl
theorem zzv {id : Nat} : exec C n (.exit id) e σ = some (.exit id, e, σ) := rfl
theorem zcjb : exec C n .ret e σ = some (.ret, e, σ) := rfl
theorem zxi {b : ACode} : exec C n (.scope b) e σ = exec C n b e σ := rfl
theorem zua {ops : List AOper} {p : Option (List Nat)} {clr : List Nat} : exec C n (.region ops p clr) e σ = opsX p clr (za0 C ops e σ) := by
  rw [exec]
  unfold opsX
  cases za0 C ops e σ with
  | none => rfl
  | some r => cases r <;> rfl
theorem zckb {a b : ACode} : exec C n (.seq a b) e σ = thenX (exec C n a e σ) (exec C n b) := by
  rw [exec]
  unfold thenX
  cases exec C n a e σ with
  | none => rfl
  | some r => obtain ⟨x, e', σ'⟩ := r; cases x <;> rfl
theorem zzu {c : AOpd} {t f : ACode} : exec C n (.cond c t f) e σ = bindO (opd e c) fun c => bindO c.d.bool? fun b => ifB b (exec C n t e σ) (exec C n f e σ) := by rw [exec]
theorem zxh {id : Nat} {b : ACode} : exec C n (.block id b) e σ = zdk id (exec C n b e σ) := by
  rw [exec]
  unfold zdk
  cases exec C n b e σ with
  | none => rfl
  | some r => obtain ⟨x, e', σ'⟩ := r; cases x <;> rfl
theorem zzw {b : ACode} : exec C n (.loop b) e σ = loopN (exec C n b) n e σ := by rw [exec]
end
def finX (R : RecF) (C : CallF) (af : AFun) (m : Nat) (x : XRes) : Option (Out × Store) := match x with
  | some r => zfh R C false af m r
  | none => none
@[congr] theorem zilb (R : RecF) (C : CallF) (af : AFun) (m : Nat) {x y : XRes} (h : x = y) : finX R C af m x = finX R C af m y := by rw [h]
def resX (af : AFun) (m : Nat) (e : Env) (r : Option (Option D × Store)) : Option (Out × Store) := match r with
  | some (none, σ) => bindO (zb2 e σ af.res) fun c => some (.ret c, ifB af.gc (σ.trunc m) σ)
  | _ => none
def resP (af : AFun) (m : Nat) (e : Env) (r : Option (Option D × Store)) : Option (Out × Store) := match r with
  | some (none, σ) => bindO (zb2 e σ af.res) fun c => some (.ret c, ifB af.gc (σ.trunc m) σ)
  | some (some d, σ) => some (.panic d, ifB af.gc (σ.trunc m) σ)
  | none => none
@[congr] theorem ziob (af : AFun) (m : Nat) (e : Env) {x y : Option (Option D × Store)} (h : x = y) : resX af m e x = resX af m e y := by rw [h]
@[congr] theorem zinb (af : AFun) (m : Nat) (e : Env) {x y : Option (Option D × Store)} (h : x = y) : resP af m e x = resP af m e y := by rw [h]
section
variable {R : RecF} {C : CallF} {af : AFun} {m : Nat} {e : Env} {σ : Store}
theorem zclb : finX R C af m (some (.ret, e, σ)) = resX af m e (zaz R C none e.defers σ) := by
  simp only [finX, zfh, Bool.false_and, zac, resX, bindO]
  cases zaz R C none e.defers σ with
  | none => rfl
  | some r => obtain ⟨x, s⟩ := r; cases x <;> rfl
theorem zub : finX R C af m (some (.normal, e, σ)) = resX af m e (zaz R C none e.defers σ) := by
  simp only [finX, zfh, Bool.false_and, zac, resX, bindO]
  cases zaz R C none e.defers σ with
  | none => rfl
  | some r => obtain ⟨x, s⟩ := r; cases x <;> rfl
theorem zxj {d : D} : finX R C af m (some (.panic d, e, σ)) = resP af m e (zaz R C (some d) e.defers σ) := by
  simp only [finX, zfh, Bool.false_and, zac, resP, bindO]
  cases zaz R C (some d) e.defers σ with
  | none => rfl
  | some r => obtain ⟨x, s⟩ := r; cases x <;> rfl
theorem zqs {d : Option D} : zaz R C d [] σ = some (d, σ) := rfl
theorem zblb : resX af m e (some (none, σ)) = bindO (zb2 e σ af.res) fun c => some (.ret c, ifB af.gc (σ.trunc m) σ) := rfl
theorem zbjb : resP af m e (some (none, σ)) = bindO (zb2 e σ af.res) fun c => some (.ret c, ifB af.gc (σ.trunc m) σ) := rfl
theorem zbkb {d : D} : resP af m e (some (some d, σ)) = some (.panic d, ifB af.gc (σ.trunc m) σ) := rfl
end
section
variable {Γ : FuncId → Option AFun} {R : RecF} {X : CallF}
theorem zezb {n : Nat} {f : FuncId} {af : AFun} {ds : List D} {σ : Store} (h : Γ f = some af) (hl : ds.length = af.nargs) : runQ Γ R X (n + 1) false f ds σ = finX R (runQ Γ R X n true) af σ.next (exec (runQ Γ R X n false) n af.body (zc9 ds) σ) := by
  rw [runQ, h]
  simp only [hl, beq_self_eq_true, zae]
  unfold finX
  cases exec (runQ Γ R X n false) n af.body (zc9 ds) σ <;> rfl
theorem ze0b {n : Nat} {f : FuncId} {ds : List D} {σ : Store} (h : Γ f = none) : runQ Γ R X (n + 1) false f ds σ = X f ds σ := by
  rw [runQ, h]
  rfl
end
section
variable {b : Bool} {k : IntKind} {n : Int} {s : List UInt8} {ds a cs : List D} {f : FuncId} {t : TypeId} {d : D} {r : RowK}
theorem bool?_bool : (D.bool b).bool? = some b := rfl
theorem bool?_undef : (D.undef).bool? = none := rfl
theorem int?_int : (D.int k n).int? = some (k, n) := rfl
theorem str?_str : (D.str s).str? = some s := rfl
theorem tup?_tup : (D.tup ds).tup? = some ds := rfl
theorem fn?_fn : (D.fn (.func f) a cs).fn? = some (f, a, cs) := rfl
theorem agg?_agg : (D.agg cs).agg? = some cs := rfl
theorem row?_list : (D.list r cs).row? = some (r, cs) := rfl
theorem isNil?_iface : (D.iface t d).isNil? = some false := rfl
theorem isNil?_nil : (D.niliface).isNil? = some true := rfl
theorem zzj : (D.agg cs).cells = cs := rfl
theorem zzl : (D.int k n).cells = [D.int k n] := rfl
theorem zxa : (D.bool b).cells = [D.bool b] := rfl
theorem zzo : (D.str s).cells = [D.str s] := rfl
theorem zxe : (D.nils).cells = [D.nils] := rfl
theorem zxc : (D.list r cs).cells = [D.list r cs] := rfl
theorem zxd : (D.nilp).cells = [D.nilp] := rfl
theorem zzn {i o : Nat} : (D.ptr i o).cells = [D.ptr i o] := rfl
theorem zt2 : (D.iface t d).cells = [D.iface t d] := rfl
theorem zchb {g : Fn} : (D.fn g a cs).cells = [D.fn g a cs] := rfl
theorem zt3 : (D.nilfn).cells = [D.nilfn] := rfl
theorem zow : (D.niliface).cells = [D.niliface] := rfl
theorem zg4b : (D.agg cs).one = false := rfl
theorem zg6b : (D.int k n).one = true := rfl
theorem zenb : (D.bool b).one = true := rfl
theorem zg9b : (D.str s).one = true := rfl
theorem zerb : (D.nils).one = true := rfl
theorem zepb : (D.list r cs).one = true := rfl
theorem zeqb : (D.nilp).one = true := rfl
theorem zg8b {i o : Nat} : (D.ptr i o).one = true := rfl
theorem za3b : (D.iface t d).one = true := rfl
theorem zso : (D.niliface).one = true := rfl
theorem zh5b {g : Fn} : (D.fn g a cs).one = true := rfl
theorem za4b : (D.nilfn).one = true := rfl
theorem zhzb : (D.agg cs).ok = true := rfl
theorem zh1b : (D.int k n).ok = true := rfl
theorem zgzb : (D.bool b).ok = true := rfl
theorem zh4b : (D.str s).ok = true := rfl
theorem zg3b : (D.nils).ok = true := rfl
theorem zg1b : (D.list r cs).ok = true := rfl
theorem zg2b : (D.nilp).ok = true := rfl
theorem zh3b {i o : Nat} : (D.ptr i o).ok = true := rfl
theorem zelb : (D.iface t d).ok = true := rfl
theorem zus : (D.niliface).ok = true := rfl
theorem ok_fn {g : Fn} : (D.fn g a cs).ok = true := rfl
theorem zemb : (D.nilfn).ok = true := rfl
theorem zzk {i o l : Nat} : (D.arr r i o l).cells = [D.arr r i o l] := rfl
theorem zxb : D.empt.cells = [D.empt] := rfl
theorem zzm {i : Nat} : (D.map i).cells = [D.map i] := rfl
theorem zrb : D.nilmap.cells = [D.nilmap] := rfl
theorem zg5b {i o l : Nat} : (D.arr r i o l).one = true := rfl
theorem zeob : D.empt.one = true := rfl
theorem zg7b {i : Nat} : (D.map i).one = true := rfl
theorem zya : D.nilmap.one = true := rfl
theorem zh0b {i o l : Nat} : (D.arr r i o l).ok = true := rfl
theorem zg0b : D.empt.ok = true := rfl
theorem zh2b {i : Nat} : (D.map i).ok = true := rfl
theorem za1b : D.nilmap.ok = true := rfl
theorem zakb {i o l : Nat} : lenOf (.arr r i o l) = some l := rfl
theorem zxu : lenOf .empt = some 0 := rfl
theorem ztk : zbh .empt = some [] := rfl
theorem zul : (D.nils).isNilS? = some true := rfl
theorem zxs {i o l : Nat} : (D.arr r i o l).isNilS? = some false := rfl
theorem zrt : (dlist r cs).isNilS? = some cs.isEmpty := by cases cs <;> rfl
theorem zxp : D.nilmap.isNilM? = some true := rfl
theorem zxo {i : Nat} : (D.map i).isNilM? = some false := rfl
theorem zuo {os : List (Nat × List Cell)} : zbm os .nils = some [] := rfl
theorem zun {os : List (Nat × List Cell)} : zbm os .empt = some [] := rfl
theorem zih {os : List (Nat × List Cell)} : zbm os (.list r cs) = some cs := rfl
theorem zr1 {os : List (Nat × List Cell)} : zbm os (dlist r cs) = some cs := by cases cs <;> rfl
theorem zfl {sz l i o n : Nat} {h : Option Nat} : zbd sz (.arr r i o n) l h = ifB (decide (l ≤ h.getD n) && decide (h.getD n ≤ n) && r.sz == sz) (some (.arr r i (o + l) (h.getD n - l))) none := rfl
theorem zb0 {sz n i o l : Nat} : zav sz (.arr r i o l) n = ifB (r.sz == sz && decide (n < l)) (some (.ptr i ((o + n) * sz))) none := rfl
theorem zxq : D.nilp.isNilP? = some true := rfl
theorem zxr {i o : Nat} : (D.ptr i o).isNilP? = some false := rfl
theorem zuj : (D.eptr d).isNilP? = some false := rfl
theorem zdr : (dlist r cs).one = true := by cases cs <;> rfl
theorem zhr : (dlist r cs).ok = true := by cases cs <;> rfl
theorem zf4 : (dlist r cs).cells = [dlist r cs] := by cases cs <;> rfl
theorem zcv : dlist r [] = .nils := rfl
theorem zxw : lenOf .nils = some 0 := rfl
theorem zxv : lenOf (.list r cs) = some cs.length := rfl
theorem zax : lenOf (dlist r cs) = some cs.length := by cases cs <;> rfl
theorem ztl : zbh .nils = some [] := rfl
theorem zl7 : zbh (.list r cs) = some cs := rfl
theorem zhi : zbh (dlist r cs) = some cs := by cases cs <;> rfl
theorem nat?_nat {i : Nat} : D.nat? (.int k (i : Int)) = some i := by
  simp [D.nat?, zae]
theorem nat?_zero : D.nat? (.int k 0) = some 0 := rfl
theorem zbfb {i o : Nat} : ptrOf (.ptr i o) = some (.ptr i o) := rfl
theorem zyf : ptrOf (.eptr d) = some (.eptr d) := rfl
theorem zyg : ptrOf .nilp = none := rfl
end
section
variable {o o' b : Bool} {k : IntKind} {n : Int} {s : List UInt8} {ds : List D} {kr : RowK} {r : List Cell} {dr : List D}
theorem zrj : zaw [] = false := rfl
theorem zri : zaw (⟨o, .int k n⟩ :: r) = zaw r := rfl
theorem zqc : zaw (⟨o, .bool b⟩ :: r) = zaw r := rfl
theorem zrk : zaw (⟨o, .str s⟩ :: r) = zaw r := rfl
theorem zqf : zaw (⟨o, .nils⟩ :: r) = zaw r := rfl
theorem zqe : zaw (⟨o, .list kr ds⟩ :: r) = o := rfl
theorem zqd : zaw [⟨o, dlist kr ds⟩] = (!ds.isEmpty && o) := by cases ds <;> rfl
theorem zyy : za9 [] = [] := rfl
theorem zyx : za9 (⟨o, .int k n⟩ :: r) = ⟨o, .int k n⟩ :: za9 r := rfl
theorem zvs : za9 (⟨o, .bool b⟩ :: r) = ⟨o, .bool b⟩ :: za9 r := rfl
theorem zyz : za9 (⟨o, .str s⟩ :: r) = ⟨o, .str s⟩ :: za9 r := rfl
theorem zvu : za9 (⟨o, .nils⟩ :: r) = ⟨o, .nils⟩ :: za9 r := rfl
theorem zvt : za9 [⟨o, dlist kr ds⟩] = [⟨ds.isEmpty && o, dlist kr ds⟩] := by cases ds <;> rfl
theorem zd0b : layA o [] = [] := rfl
theorem zdzb : layA o (.int k n :: dr) = ⟨false, .int k n⟩ :: layA o dr := rfl
theorem zaeb : layA o (.bool b :: dr) = ⟨false, .bool b⟩ :: layA o dr := rfl
theorem zd1b : layA o (.str s :: dr) = ⟨false, .str s⟩ :: layA o dr := rfl
theorem zahb : layA o (.nils :: dr) = ⟨false, .nils⟩ :: layA o dr := rfl
theorem zagb : layA o (.list kr ds :: dr) = ⟨o, .list kr ds⟩ :: dr.map Cell.of := rfl
theorem zafb : layA o [dlist kr ds] = [⟨!ds.isEmpty && o, dlist kr ds⟩] := by cases ds <;> rfl
end
theorem zo5 {α β : Type} (f : α → β) : ∀ (l : List α) (i : Nat), nth (l.map f) i = (nth l i).map f
  | [], _ => rfl
  | _ :: _, 0 => rfl
  | _ :: l, i + 1 => zo5 f l i
theorem zo4 {α : Type} : ∀ (l : List α) (i : Nat) (h : i < l.length), nth l i = some (l[i])
  | x :: l, 0, _ => rfl
  | _ :: l, i + 1, h => zo4 l i (by simpa using h)
theorem zl5 {sz : Nat} : ∀ {ds : List D}, (∀ d ∈ ds, d.ok = true ∧ d.cells.length = sz) → zau sz ds = true
  | [], _ => rfl
  | d :: r, h => by
    obtain ⟨h1, h2⟩ := h d (List.mem_cons_self ..)
    simp only [zau, h1, h2, beq_self_eq_true, Bool.true_and]
    exact zl5 fun x hx => h x (List.mem_cons_of_mem _ hx)
theorem zfd {r : RowK} {by_ : Nat} {es : List D} {o : Bool} {y : D} (ho : es ≠ [] → o = true) (hy1 : y.ok = true) (hy2 : y.cells.length = r.sz) (h1 : (es.length + 1) * by_ ≤ bound) (h2 : es.length + 1 ≤ bound) :
    zbe r by_ ⟨o, dlist r es⟩ [y] = some ⟨true, dlist r (es ++ [y])⟩ := by
  have hm : zcw r ⟨o, dlist r es⟩ = true := by
    cases es with
    | nil => rfl
    | cons x l => simp [zcw, dlist, ho (by simp), RowK.same]
  have hj : zc3 r (dlist r es) [y] = dlist r (es ++ [y]) := by
    cases es <;> rfl
  simp only [zbe, zhi, zl7, hm, hj, zau, hy1, hy2, bindO, zaa, List.length_cons, List.length_nil, Nat.zero_add, decide_eq_true h1, decide_eq_true h2, beq_self_eq_true, Bool.and_self, zae]
theorem ztj {r : RowK} {by_ : Nat} {es ys : List D} {o : Bool} (ho : es ≠ [] → o = true) (hy : ∀ d ∈ ys, d.ok = true ∧ d.cells.length = r.sz) (h1 : (es.length + ys.length) * by_ ≤ bound) (h2 : es.length + ys.length ≤ bound) :
    zbe r by_ ⟨o, dlist r es⟩ ys = some ⟨true, dlist r (es ++ ys)⟩ := by
  have hm : zcw r ⟨o, dlist r es⟩ = true := by
    cases es with
    | nil => rfl
    | cons x l => simp [zcw, dlist, ho (by simp), RowK.same]
  have hj : zc3 r (dlist r es) ys = dlist r (es ++ ys) := by
    cases es <;> rfl
  simp only [zbe, zhi, hm, hj, zl5 hy, bindO, zaa, decide_eq_true h1, decide_eq_true h2, Bool.and_self, zae]
def Evly (p : Nat → Prop) : Prop := ∃ n0, ∀ n, n0 ≤ n → p n
theorem Evly.all {p : Nat → Prop} (h : ∀ n, p n) : Evly p := ⟨0, fun n _ => h n⟩
theorem Evly.and {p q : Nat → Prop} (h : Evly p) (k : Evly q) : Evly fun n => p n ∧ q n := by
  obtain ⟨a, ha⟩ := h
  obtain ⟨b, hb⟩ := k
  exact ⟨max a b, fun n hn => ⟨ha n (by omega), hb n (by omega)⟩⟩
theorem Evly.mono {p q : Nat → Prop} (h : Evly p) (k : ∀ n, p n → q n) : Evly q := by
  obtain ⟨a, ha⟩ := h
  exact ⟨a, fun n hn => k n (ha n hn)⟩
theorem Evly.step {p q : Nat → Prop} (h : Evly p) (k : Nat) (s : ∀ n, k ≤ n → p n → q (n + 1)) : Evly q := by
  obtain ⟨a, ha⟩ := h
  refine ⟨max a k + 1, fun n hn => ?_⟩
  obtain ⟨m, rfl⟩ : ∃ m, n = m + 1 := ⟨n - 1, by omega⟩
  exact s m (by omega) (ha m (by omega))
theorem Evly.list {α : Type} (l : List α) {p : α → Nat → Prop} (h : ∀ x ∈ l, Evly (p x)) : Evly fun n => ∀ x ∈ l, p x n := by
  induction l with
  | nil => exact .all fun n x hx => by cases hx
  | cons a l ih =>
    refine ((h a (List.mem_cons_self ..)).and (ih fun x hx => h x (List.mem_cons_of_mem _ hx))).mono fun n hn x hx => ?_
    rcases List.mem_cons.1 hx with e | k
    · rw [e]; exact hn.1
    · exact hn.2 x k
theorem Evly.below {p : Nat → Nat → Prop} : ∀ (k : Nat), (∀ i, i < k → Evly (p i)) → Evly fun n => ∀ i, i < k → p i n
  | 0, _ => .all fun n i hi => by omega
  | k + 1, h => ((Evly.below k fun i hi => h i (by omega)).and (h k (by omega))).mono fun n hn i hi => by
    by_cases hik : i = k
    · rw [hik]; exact hn.2
    · exact hn.1 i (by omega)
theorem zbr {body : Env → Store → XRes} (E : Nat → Env) (S : Nat → Store) (k : Nat) {r : AExit × Env × Store} (hr : ∀ e σ, r ≠ (.normal, e, σ)) (hstep : ∀ i, i < k → body (E i) (S i) = some (.normal, E (i + 1), S (i + 1))) (hend : body (E k) (S k) = some r) :
    ∀ (j n : Nat), j ≤ k → k < n + j → loopN body n (E j) (S j) = some r
  | j, 0, h1, h2 => by omega
  | j, n + 1, h1, h2 => by
    rw [loopN]
    by_cases hj : j = k
    · rw [hj, hend]
      obtain ⟨x, e, σ⟩ := r
      cases x with
      | normal => exact absurd rfl (hr e σ)
      | _ => rfl
    · rw [hstep j (by omega)]
      exact zbr E S k hr hstep hend (j + 1) n (by omega) (by omega)
theorem zdi {body : Env → Store → XRes} (E : Nat → Env) (S : Nat → Store) (k : Nat) (p : Nat → Bool) {r : AExit × Env × Store} (stop : Nat → AExit × Env × Store) (hr : ∀ e σ, r ≠ (.normal, e, σ)) (hs : ∀ i e σ, stop i ≠ (.normal, e, σ))
    (hstep : ∀ i, i < k → p i = true → body (E i) (S i) = some (.normal, E (i + 1), S (i + 1))) (hstop : ∀ i, i < k → p i = false → body (E i) (S i) = some (stop i)) (hend : body (E k) (S k) = some r) :
    ∀ (n j : Nat), j ≤ k → k < n + j → (∃ i, j ≤ i ∧ i < k ∧ p i = false ∧ (∀ i', j ≤ i' → i' < i → p i' = true) ∧ loopN body n (E j) (S j) = some (stop i)) ∨ ((∀ i, j ≤ i → i < k → p i = true) ∧ loopN body n (E j) (S j) = some r)
  | 0, j, h1, h2 => by omega
  | n + 1, j, h1, h2 => by
    rw [loopN]
    by_cases hj : j = k
    · refine .inr ⟨fun i h3 h4 => by omega, ?_⟩
      rw [hj, hend]
      obtain ⟨x, e, σ⟩ := r
      cases x with
      | normal => exact absurd rfl (hr e σ)
      | _ => rfl
    · cases hp : p j with
      | false =>
        refine .inl ⟨j, by omega, by omega, hp, fun i' h3 h4 => by omega, ?_⟩
        rw [hstop j (by omega) hp]
        cases hst : stop j with
        | mk x y =>
        obtain ⟨e, σ⟩ := y
        cases x with
        | normal => exact absurd hst (hs j e σ)
        | _ => rfl
      | true =>
        rw [hstep j (by omega) hp]
        rcases zdi E S k p stop hr hs hstep hstop hend n (j + 1) (by omega) (by omega) with ⟨i, h3, h4, h5, h6, h7⟩ | ⟨h3, h4⟩
        · refine .inl ⟨i, by omega, h4, h5, fun i' h8 h9 => ?_, h7⟩
          by_cases hij : i' = j
          · rw [hij]; exact hp
          · exact h6 i' (by omega) h9
        · refine .inr ⟨fun i h5 h6 => ?_, h4⟩
          by_cases hij : i = j
          · rw [hij]; exact hp
          · exact h3 i (by omega) h6
end Go.Mx
namespace Go.Mx
open Go
theorem sy0 : (∀ {e : Env} {σ : Store} {f : Env → Store → XRes}, thenX (some (AExit.normal, e, σ)) f = f e σ) ∧ (∀ {e : Env} {σ : Store} {id : Nat} {f : Env → Store → XRes}, thenX (some (AExit.exit id, e, σ)) f = some (AExit.exit id, e, σ)) ∧ (∀ {e : Env} {σ : Store} {f : Env → Store → XRes}, thenX (some (AExit.ret, e, σ)) f = some (AExit.ret, e, σ)) ∧ (∀ {e : Env} {σ : Store} {d : D} {f : Env → Store → XRes}, thenX (some (AExit.panic d, e, σ)) f = some (AExit.panic d, e, σ)) ∧ (∀ {e : Env} {σ : Store} {id : Nat}, zdk id (some (AExit.normal, e, σ)) = some (AExit.normal, e, σ)) ∧ (∀ {e : Env} {σ : Store} {id id' : Nat}, zdk id (some (AExit.exit id', e, σ)) = ifB (id' == id) (some (AExit.normal, e, σ)) (some (AExit.exit id', e, σ))) ∧ (∀ {e : Env} {σ : Store} {id : Nat}, zdk id (some (AExit.ret, e, σ)) = some (AExit.ret, e, σ)) ∧ (∀ {e : Env} {σ : Store} {id : Nat} {d : D}, zdk id (some (AExit.panic d, e, σ)) = some (AExit.panic d, e, σ)) ∧ (∀ {e : Env} {σ : Store} {p : Option (List Nat)} {l : List Nat}, opsX p l (some (OpsOut.normal e σ)) = some (AExit.normal, zex e l, σ)) ∧ (∀ {e : Env} {σ : Store} {l : List Nat} {d : D}, opsX none l (some (OpsOut.panic d e σ)) = some (AExit.panic d, e, σ)) ∧ (∀ {e : Env} {σ : Store} {p l : List Nat} {d : D}, opsX (some p) l (some (OpsOut.panic d e σ)) = some (AExit.panic d, Env.bare e, σ)) ∧ (∀ {C : CallF} {e : Env} {σ : Store} {rest : List AOper} {dst : Option Nat} {c : Cell} {σ0 : Store}, callX C rest dst false e σ0 (some (Out.ret c, σ)) = za0 C rest (Env.put e dst c) σ) ∧ (∀ {C : CallF} {e : Env} {σ : Store} {rest : List AOper} {dst : Option Nat} {d : D} {σ0 : Store}, callX C rest dst false e σ0 (some (Out.panic d, σ)) = some (OpsOut.panic d e σ)) ∧ (∀ {C : CallF} {e : Env} {σ : Store} {rest : List AOper} {dst : Option Nat} {st : Bool} {e' : Env} {σ' : Store}, stepX C rest dst st e σ (some (Step.next e' σ')) = za0 C rest e' σ') ∧ (∀ {C : CallF} {e : Env} {σ : Store} {rest : List AOper} {dst : Option Nat} {st : Bool} {f : Go.FuncId} {as : List D}, stepX C rest dst st e σ (some (Step.call f as)) = callX C rest dst st e σ (C f as σ)) ∧ (∀ {C : CallF} {e : Env} {σ : Store} {rest : List AOper} {dst : Option Nat} {st : Bool} {d : D}, stepX C rest dst st e σ (some (Step.panic d)) = some (OpsOut.panic d e σ)) ∧ (∀ {C : CallF} {e : Env} {σ : Store} {rest : List AOper} {dst : Option Nat} {c : Cell}, callX C rest dst true e σ (some (Out.ret c, σ)) = za0 C rest (Env.put e dst c) σ) ∧ (∀ {C : CallF} {e : Env} {σ : Store}, za0 C [] e σ = some (OpsOut.normal e σ)) ∧ (∀ {C : CallF} {e : Env} {σ : Store} {o : AOper} {rest : List AOper}, za0 C (o :: rest) e σ = stepX C rest (AOper.dst o) (zch (AOper.op o)) e σ (zah o e σ)) ∧ (∀ {C : CallF} {n : Nat} {e : Env} {σ : Store}, exec C n ACode.skip e σ = some (AExit.normal, e, σ)) ∧ (∀ {C : CallF} {n : Nat} {e : Env} {σ : Store} {id : Nat}, exec C n (ACode.exit id) e σ = some (AExit.exit id, e, σ)) ∧ (∀ {C : CallF} {n : Nat} {e : Env} {σ : Store}, exec C n ACode.ret e σ = some (AExit.ret, e, σ)) ∧ (∀ {C : CallF} {n : Nat} {e : Env} {σ : Store} {b : ACode}, exec C n (ACode.scope b) e σ = exec C n b e σ) ∧ (∀ {C : CallF} {n : Nat} {e : Env} {σ : Store} {ops : List AOper} {p : Option (List Nat)} {clr : List Nat}, exec C n (ACode.region ops p clr) e σ = opsX p clr (za0 C ops e σ)) :=
  And.intro @zs8 (And.intro @zyw (And.intro @zbtb (And.intro @zvm (And.intro @zqb (And.intro @zt0 (And.intro @zw6 (And.intro @zq9 (And.intro @zu4 (And.intro @zod (And.intro @zoe (And.intro @zzh (And.intro @zt1 (And.intro @zyo (And.intro @zyn (And.intro @zu9 (And.intro @zw7 (And.intro @zyj (And.intro @zu7 (And.intro @zzx (And.intro @zzv (And.intro @zcjb (And.intro @zxi (@zua)))))))))))))))))))))))
theorem sy1 : (∀ {C : CallF} {n : Nat} {e : Env} {σ : Store} {a b : ACode}, exec C n (ACode.seq a b) e σ = thenX (exec C n a e σ) (exec C n b)) ∧ (∀ {C : CallF} {n : Nat} {e : Env} {σ : Store} {c : AOpd} {t f : ACode}, exec C n (ACode.cond c t f) e σ = bindO (opd e c) fun (c : Cell) => bindO (D.bool? (Cell.d c)) fun (b : Bool) => ifB b (exec C n t e σ) (exec C n f e σ)) ∧ (∀ {C : CallF} {n : Nat} {e : Env} {σ : Store} {id : Nat} {b : ACode}, exec C n (ACode.block id b) e σ = zdk id (exec C n b e σ)) ∧ (∀ {C : CallF} {n : Nat} {e : Env} {σ : Store} {b : ACode}, exec C n (ACode.loop b) e σ = loopN (exec C n b) n e σ) ∧ (∀ {R : RecF} {C : CallF} {af : AFun} {m : Nat} {e : Env} {σ : Store}, finX R C af m (some (AExit.ret, e, σ)) = resX af m e (zaz R C none (Env.defers e) σ)) ∧ (∀ {R : RecF} {C : CallF} {af : AFun} {m : Nat} {e : Env} {σ : Store}, finX R C af m (some (AExit.normal, e, σ)) = resX af m e (zaz R C none (Env.defers e) σ)) ∧ (∀ {R : RecF} {C : CallF} {af : AFun} {m : Nat} {e : Env} {σ : Store} {d : D}, finX R C af m (some (AExit.panic d, e, σ)) = resP af m e (zaz R C (some d) (Env.defers e) σ)) ∧ (∀ {R : RecF} {C : CallF} {σ : Store} {d : Option D}, zaz R C d [] σ = some (d, σ)) ∧ (∀ {af : AFun} {m : Nat} {e : Env} {σ : Store}, resX af m e (some (none, σ)) = bindO (zb2 e σ (AFun.res af)) fun (c : Cell) => some (Out.ret c, ifB (AFun.gc af) (Store.trunc σ m) σ)) ∧ (∀ {af : AFun} {m : Nat} {e : Env} {σ : Store}, resP af m e (some (none, σ)) = bindO (zb2 e σ (AFun.res af)) fun (c : Cell) => some (Out.ret c, ifB (AFun.gc af) (Store.trunc σ m) σ)) ∧ (∀ {af : AFun} {m : Nat} {e : Env} {σ : Store} {d : D}, resP af m e (some (some d, σ)) = some (Out.panic d, ifB (AFun.gc af) (Store.trunc σ m) σ)) ∧ (∀ {b : Bool}, D.bool? (D.bool b) = some b) ∧ (D.bool? D.undef = none) ∧ (∀ {k : Go.IntKind} {n : Int}, D.int? (D.int k n) = some (k, n)) ∧ (∀ {s : List UInt8}, D.str? (D.str s) = some s) ∧ (∀ {ds : List D}, D.tup? (D.tup ds) = some ds) ∧ (∀ {a cs : List D} {f : Go.FuncId}, D.fn? (D.fn (Go.Fn.func f) a cs) = some (f, a, cs)) ∧ (∀ {cs : List D}, D.agg? (D.agg cs) = some cs) ∧ (∀ {cs : List D} {r : RowK}, D.row? (D.list r cs) = some (r, cs)) ∧ (∀ {t : Go.TypeId} {d : D}, D.isNil? (D.iface t d) = some false) ∧ (D.isNil? D.niliface = some true) ∧ (∀ {cs : List D}, D.cells (D.agg cs) = cs) ∧ (∀ {k : Go.IntKind} {n : Int}, D.cells (D.int k n) = [D.int k n]) ∧ (∀ {b : Bool}, D.cells (D.bool b) = [D.bool b]) :=
  And.intro @zckb (And.intro @zzu (And.intro @zxh (And.intro @zzw (And.intro @zclb (And.intro @zub (And.intro @zxj (And.intro @zqs (And.intro @zblb (And.intro @zbjb (And.intro @zbkb (And.intro @bool?_bool (And.intro @bool?_undef (And.intro @int?_int (And.intro @str?_str (And.intro @tup?_tup (And.intro @fn?_fn (And.intro @agg?_agg (And.intro @row?_list (And.intro @isNil?_iface (And.intro @isNil?_nil (And.intro @zzj (And.intro @zzl (@zxa)))))))))))))))))))))))
theorem sy2 : (∀ {s : List UInt8}, D.cells (D.str s) = [D.str s]) ∧ (D.cells D.nils = [D.nils]) ∧ (∀ {cs : List D} {r : RowK}, D.cells (D.list r cs) = [D.list r cs]) ∧ (D.cells D.nilp = [D.nilp]) ∧ (∀ {i o : Nat}, D.cells (D.ptr i o) = [D.ptr i o]) ∧ (∀ {t : Go.TypeId} {d : D}, D.cells (D.iface t d) = [D.iface t d]) ∧ (∀ {a cs : List D} {g : Go.Fn}, D.cells (D.fn g a cs) = [D.fn g a cs]) ∧ (D.cells D.nilfn = [D.nilfn]) ∧ (D.cells D.niliface = [D.niliface]) ∧ (∀ {cs : List D}, D.one (D.agg cs) = false) ∧ (∀ {k : Go.IntKind} {n : Int}, D.one (D.int k n) = true) ∧ (∀ {b : Bool}, D.one (D.bool b) = true) ∧ (∀ {s : List UInt8}, D.one (D.str s) = true) ∧ (D.one D.nils = true) ∧ (∀ {cs : List D} {r : RowK}, D.one (D.list r cs) = true) ∧ (D.one D.nilp = true) ∧ (∀ {i o : Nat}, D.one (D.ptr i o) = true) ∧ (∀ {t : Go.TypeId} {d : D}, D.one (D.iface t d) = true) ∧ (D.one D.niliface = true) ∧ (∀ {a cs : List D} {g : Go.Fn}, D.one (D.fn g a cs) = true) ∧ (D.one D.nilfn = true) ∧ (∀ {cs : List D}, D.ok (D.agg cs) = true) ∧ (∀ {k : Go.IntKind} {n : Int}, D.ok (D.int k n) = true) ∧ (∀ {b : Bool}, D.ok (D.bool b) = true) :=
  And.intro @zzo (And.intro @zxe (And.intro @zxc (And.intro @zxd (And.intro @zzn (And.intro @zt2 (And.intro @zchb (And.intro @zt3 (And.intro @zow (And.intro @zg4b (And.intro @zg6b (And.intro @zenb (And.intro @zg9b (And.intro @zerb (And.intro @zepb (And.intro @zeqb (And.intro @zg8b (And.intro @za3b (And.intro @zso (And.intro @zh5b (And.intro @za4b (And.intro @zhzb (And.intro @zh1b (@zgzb)))))))))))))))))))))))
theorem sy3 : (∀ {s : List UInt8}, D.ok (D.str s) = true) ∧ (D.ok D.nils = true) ∧ (∀ {cs : List D} {r : RowK}, D.ok (D.list r cs) = true) ∧ (D.ok D.nilp = true) ∧ (∀ {i o : Nat}, D.ok (D.ptr i o) = true) ∧ (∀ {t : Go.TypeId} {d : D}, D.ok (D.iface t d) = true) ∧ (D.ok D.niliface = true) ∧ (∀ {a cs : List D} {g : Go.Fn}, D.ok (D.fn g a cs) = true) ∧ (D.ok D.nilfn = true) ∧ (∀ {r : RowK} {i o l : Nat}, D.cells (D.arr r i o l) = [D.arr r i o l]) ∧ (D.cells D.empt = [D.empt]) ∧ (∀ {i : Nat}, D.cells (D.map i) = [D.map i]) ∧ (D.cells D.nilmap = [D.nilmap]) ∧ (∀ {r : RowK} {i o l : Nat}, D.one (D.arr r i o l) = true) ∧ (D.one D.empt = true) ∧ (∀ {i : Nat}, D.one (D.map i) = true) ∧ (D.one D.nilmap = true) ∧ (∀ {r : RowK} {i o l : Nat}, D.ok (D.arr r i o l) = true) ∧ (D.ok D.empt = true) ∧ (∀ {i : Nat}, D.ok (D.map i) = true) ∧ (D.ok D.nilmap = true) ∧ (∀ {r : RowK} {i o l : Nat}, lenOf (D.arr r i o l) = some l) ∧ (lenOf D.empt = some 0) ∧ (zbh D.empt = some []) :=
  And.intro @zh4b (And.intro @zg3b (And.intro @zg1b (And.intro @zg2b (And.intro @zh3b (And.intro @zelb (And.intro @zus (And.intro @ok_fn (And.intro @zemb (And.intro @zzk (And.intro @zxb (And.intro @zzm (And.intro @zrb (And.intro @zg5b (And.intro @zeob (And.intro @zg7b (And.intro @zya (And.intro @zh0b (And.intro @zg0b (And.intro @zh2b (And.intro @za1b (And.intro @zakb (And.intro @zxu (@ztk)))))))))))))))))))))))
theorem sy4 : (D.isNilS? D.nils = some true) ∧ (∀ {r : RowK} {i o l : Nat}, D.isNilS? (D.arr r i o l) = some false) ∧ (∀ {cs : List D} {r : RowK}, D.isNilS? (dlist r cs) = some (List.isEmpty cs)) ∧ (D.isNilM? D.nilmap = some true) ∧ (∀ {i : Nat}, D.isNilM? (D.map i) = some false) ∧ (∀ {os : List (Nat × List Cell)}, zbm os D.nils = some []) ∧ (∀ {os : List (Nat × List Cell)}, zbm os D.empt = some []) ∧ (∀ {cs : List D} {r : RowK} {os : List (Nat × List Cell)}, zbm os (D.list r cs) = some cs) ∧ (∀ {cs : List D} {r : RowK} {os : List (Nat × List Cell)}, zbm os (dlist r cs) = some cs) ∧ (D.isNilP? D.nilp = some true) ∧ (∀ {i o : Nat}, D.isNilP? (D.ptr i o) = some false) ∧ (∀ {d : D}, D.isNilP? (D.eptr d) = some false) ∧ (∀ {cs : List D} {r : RowK}, D.one (dlist r cs) = true) ∧ (∀ {cs : List D} {r : RowK}, D.ok (dlist r cs) = true) ∧ (∀ {cs : List D} {r : RowK}, D.cells (dlist r cs) = [dlist r cs]) ∧ (∀ {r : RowK}, dlist r [] = D.nils) ∧ (lenOf D.nils = some 0) ∧ (∀ {cs : List D} {r : RowK}, lenOf (D.list r cs) = some (List.length cs)) ∧ (∀ {cs : List D} {r : RowK}, lenOf (dlist r cs) = some (List.length cs)) ∧ (zbh D.nils = some []) ∧ (∀ {cs : List D} {r : RowK}, zbh (D.list r cs) = some cs) ∧ (∀ {cs : List D} {r : RowK}, zbh (dlist r cs) = some cs) ∧ (∀ {k : Go.IntKind} {i : Nat}, D.nat? (D.int k ↑i) = some i) ∧ (∀ {k : Go.IntKind}, D.nat? (D.int k 0) = some 0) :=
  And.intro @zul (And.intro @zxs (And.intro @zrt (And.intro @zxp (And.intro @zxo (And.intro @zuo (And.intro @zun (And.intro @zih (And.intro @zr1 (And.intro @zxq (And.intro @zxr (And.intro @zuj (And.intro @zdr (And.intro @zhr (And.intro @zf4 (And.intro @zcv (And.intro @zxw (And.intro @zxv (And.intro @zax (And.intro @ztl (And.intro @zl7 (And.intro @zhi (And.intro @nat?_nat (@nat?_zero)))))))))))))))))))))))
theorem sy5 : (∀ {i o : Nat}, ptrOf (D.ptr i o) = some (Ptr.ptr i o)) ∧ (∀ {d : D}, ptrOf (D.eptr d) = some (Ptr.eptr d)) ∧ (ptrOf D.nilp = none) ∧ (zaw [] = false) ∧ (∀ {o : Bool} {k : Go.IntKind} {n : Int} {r : List Cell}, zaw ({ own := o, d := D.int k n } :: r) = zaw r) ∧ (∀ {o b : Bool} {r : List Cell}, zaw ({ own := o, d := D.bool b } :: r) = zaw r) ∧ (∀ {o : Bool} {s : List UInt8} {r : List Cell}, zaw ({ own := o, d := D.str s } :: r) = zaw r) ∧ (∀ {o : Bool} {r : List Cell}, zaw ({ own := o, d := D.nils } :: r) = zaw r) ∧ (∀ {o : Bool} {ds : List D} {kr : RowK} {r : List Cell}, zaw ({ own := o, d := D.list kr ds } :: r) = o) ∧ (∀ {o : Bool} {ds : List D} {kr : RowK}, zaw [{ own := o, d := dlist kr ds }] = (!List.isEmpty ds && o)) ∧ (za9 [] = []) ∧ (∀ {o : Bool} {k : Go.IntKind} {n : Int} {r : List Cell}, za9 ({ own := o, d := D.int k n } :: r) = { own := o, d := D.int k n } :: za9 r) ∧ (∀ {o b : Bool} {r : List Cell}, za9 ({ own := o, d := D.bool b } :: r) = { own := o, d := D.bool b } :: za9 r) ∧ (∀ {o : Bool} {s : List UInt8} {r : List Cell}, za9 ({ own := o, d := D.str s } :: r) = { own := o, d := D.str s } :: za9 r) ∧ (∀ {o : Bool} {r : List Cell}, za9 ({ own := o, d := D.nils } :: r) = { own := o, d := D.nils } :: za9 r) ∧ (∀ {o : Bool} {ds : List D} {kr : RowK}, za9 [{ own := o, d := dlist kr ds }] = [{ own := List.isEmpty ds && o, d := dlist kr ds }]) ∧ (∀ {o : Bool}, layA o [] = []) ∧ (∀ {o : Bool} {k : Go.IntKind} {n : Int} {dr : List D}, layA o (D.int k n :: dr) = { own := false, d := D.int k n } :: layA o dr) ∧ (∀ {o b : Bool} {dr : List D}, layA o (D.bool b :: dr) = { own := false, d := D.bool b } :: layA o dr) ∧ (∀ {o : Bool} {s : List UInt8} {dr : List D}, layA o (D.str s :: dr) = { own := false, d := D.str s } :: layA o dr) ∧ (∀ {o : Bool} {dr : List D}, layA o (D.nils :: dr) = { own := false, d := D.nils } :: layA o dr) ∧ (∀ {o : Bool} {ds : List D} {kr : RowK} {dr : List D}, layA o (D.list kr ds :: dr) = { own := o, d := D.list kr ds } :: List.map Cell.of dr) ∧ (∀ {o : Bool} {ds : List D} {kr : RowK}, layA o [dlist kr ds] = [{ own := !List.isEmpty ds && o, d := dlist kr ds }]) :=
  And.intro @zbfb (And.intro @zyf (And.intro @zyg (And.intro @zrj (And.intro @zri (And.intro @zqc (And.intro @zrk (And.intro @zqf (And.intro @zqe (And.intro @zqd (And.intro @zyy (And.intro @zyx (And.intro @zvs (And.intro @zyz (And.intro @zvu (And.intro @zvt (And.intro @zd0b (And.intro @zdzb (And.intro @zaeb (And.intro @zd1b (And.intro @zahb (And.intro @zagb (@zafb))))))))))))))))))))))
end Go.Mx

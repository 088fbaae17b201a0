/-
  The machine's run as equations that a rewriting follows: what is asked stands first, and is rewritten alone.
-/
import Derived.Test.YtkgdpcnobfadaaaDoorMzCore
set_option linter.unusedSimpArgs false
set_option linter.unusedVariables false
namespace Go.Mx
open Go
abbrev XRes := Option (AExit × Env × Store)
def thenX (x : XRes) (f : Env → Store → XRes) : XRes := match x with
  | some (.normal, e, σ) => f e σ
  | r => r
def blockX (id : Nat) (x : XRes) : XRes := match x with
  | some (.exit id', e, σ) => ifB (id' == id) (some (.normal, e, σ)) (some (.exit id', e, σ))
  | r => r
def opsX (perm : Option (List Nat)) (clr : List Nat) (x : Option OpsOut) : XRes := match x with
  | some (.normal e σ) => some (.normal, clearEnv e clr, σ)
  | some (.panic d e σ) => some (.panic d, caseO perm e (fun _ => e.bare), σ)
  | none => none
def callX (C : CallF) (rest : List AOper) (dst : Option Nat) (st : Bool) (e : Env) (σ0 : Store) (r : Option (Out × Store)) : Option OpsOut := match r with
  | some (.ret c, σ) => ifB (stOK st σ0 σ) (runOps C rest (e.put dst c) σ) none
  | some (.panic d, σ) => ifB (stOK st σ0 σ) (some (.panic d e σ)) none
  | none => none
def stepX (C : CallF) (rest : List AOper) (dst : Option Nat) (st : Bool) (e : Env) (σ : Store) (s : Option Step) : Option OpsOut := match s with
  | some (.next e' σ') => runOps C rest e' σ'
  | some (.call f as) => callX C rest dst st e σ (C f as σ)
  | some (.panic d) => some (.panic d e σ)
  | none => none
@[congr] theorem thenX_congr {x y : XRes} (f : Env → Store → XRes) (h : x = y) : thenX x f = thenX y f := by rw [h]
@[congr] theorem blockX_congr {x y : XRes} (id : Nat) (h : x = y) : blockX id x = blockX id y := by rw [h]
@[congr] theorem opsX_congr {x y : Option OpsOut} (p : Option (List Nat)) (l : List Nat) (h : x = y) : opsX p l x = opsX p l y := by rw [h]
@[congr] theorem callX_congr {x y : Option (Out × Store)} (C : CallF) (rest : List AOper) (dst : Option Nat) (st : Bool) (e : Env) (σ0 : Store) (h : x = y) : callX C rest dst st e σ0 x = callX C rest dst st e σ0 y := by rw [h]
@[congr] theorem stepX_congr {x y : Option Step} (C : CallF) (rest : List AOper) (dst : Option Nat) (st : Bool) (e : Env) (σ : Store) (h : x = y) : stepX C rest dst st e σ x = stepX C rest dst st e σ y := by rw [h]
section
variable {C : CallF} {n : Nat} {e : Env} {σ : Store}
theorem thenX_normal {f : Env → Store → XRes} : thenX (some (.normal, e, σ)) f = f e σ := rfl
theorem thenX_exit {id : Nat} {f : Env → Store → XRes} : thenX (some (.exit id, e, σ)) f = some (.exit id, e, σ) := rfl
theorem thenX_ret {f : Env → Store → XRes} : thenX (some (.ret, e, σ)) f = some (.ret, e, σ) := rfl
theorem thenX_panic {d : D} {f : Env → Store → XRes} : thenX (some (.panic d, e, σ)) f = some (.panic d, e, σ) := rfl
theorem blockX_normal {id : Nat} : blockX id (some (.normal, e, σ)) = some (.normal, e, σ) := rfl
theorem blockX_exit {id id' : Nat} : blockX id (some (.exit id', e, σ)) = ifB (id' == id) (some (.normal, e, σ)) (some (.exit id', e, σ)) := rfl
theorem blockX_ret {id : Nat} : blockX id (some (.ret, e, σ)) = some (.ret, e, σ) := rfl
theorem blockX_panic {id : Nat} {d : D} : blockX id (some (.panic d, e, σ)) = some (.panic d, e, σ) := rfl
theorem opsX_normal {p : Option (List Nat)} {l : List Nat} : opsX p l (some (.normal e σ)) = some (.normal, clearEnv e l, σ) := rfl
theorem opsX_panic_none {l : List Nat} {d : D} : opsX none l (some (.panic d e σ)) = some (.panic d, e, σ) := rfl
theorem opsX_panic_some {p : List Nat} {l : List Nat} {d : D} : opsX (some p) l (some (.panic d e σ)) = some (.panic d, e.bare, σ) := rfl
theorem callX_ret {rest : List AOper} {dst : Option Nat} {c : Cell} {σ0 : Store} : callX C rest dst false e σ0 (some (.ret c, σ)) = runOps C rest (e.put dst c) σ := rfl
theorem callX_retW {rest : List AOper} {dst : Option Nat} {c : Cell} {σ0 : Store} : callX C rest dst true e σ0 (some (.ret c, σ)) = ifB (sameStore σ0 σ) (runOps C rest (e.put dst c) σ) none := rfl
theorem callX_panic {rest : List AOper} {dst : Option Nat} {d : D} {σ0 : Store} : callX C rest dst false e σ0 (some (.panic d, σ)) = some (.panic d e σ) := rfl
theorem stepX_next {rest : List AOper} {dst : Option Nat} {st : Bool} {e' : Env} {σ' : Store} : stepX C rest dst st e σ (some (.next e' σ')) = runOps C rest e' σ' := rfl
theorem stepX_call {rest : List AOper} {dst : Option Nat} {st : Bool} {f : FuncId} {as : List D} : stepX C rest dst st e σ (some (.call f as)) = callX C rest dst st e σ (C f as σ) := rfl
theorem stepX_panic {rest : List AOper} {dst : Option Nat} {st : Bool} {d : D} : stepX C rest dst st e σ (some (.panic d)) = some (.panic d e σ) := rfl
theorem sameKind_refl (k : IntKind) : sameKind k k = true := by cases k <;> rfl
mutual
theorem D.same_refl : ∀ d : D, D.same d d = true
  | .undef => rfl
  | .bool b => by simp [D.same]
  | .int k n => by simp [D.same, sameKind_refl]
  | .str s => by simp [D.same]
  | .nils => rfl
  | .list k es => by simp [D.same, sameL_refl es]
  | .agg es => by simp [D.same, sameL_refl es]
  | .tup es => by simp [D.same, sameL_refl es]
  | .nilp => rfl
  | .ptr a b => by simp [D.same]
  | .eptr d => by simp [D.same, D.same_refl d]
  | .fn f a b => by simp [D.same, sameL_refl a, sameL_refl b]
  | .nilfn => rfl
  | .iface t d => by simp [D.same, D.same_refl d]
  | .niliface => rfl
  | .junk => rfl
  | .arr k a b c => by simp [D.same]
  | .empt => rfl
  | .map a => by simp [D.same]
  | .nilmap => rfl
theorem sameL_refl : ∀ l : List D, sameL l l = true
  | [] => rfl
  | d :: l => by simp [sameL, D.same_refl d, sameL_refl l]
end
theorem sameCs_refl : ∀ l : List Cell, sameCs l l = true
  | [] => rfl
  | c :: l => by simp [sameCs, D.same_refl, sameCs_refl l]
theorem sameEs_refl : ∀ l : List (D × D × Nat), sameEs l l = true
  | [] => rfl
  | (a, b, c) :: l => by simp [sameEs, D.same_refl, sameEs_refl l]
theorem aget_mem {α : Type} : ∀ (l : List (Nat × α)) (p : Nat × α), p ∈ l → (aget l p.1).isSome = true
  | [], _, h => by cases h
  | (k, v) :: l, p, h => by
    simp only [aget]
    cases hk : k == p.1 with
    | true => rfl
    | false =>
      rcases List.mem_cons.1 h with rfl | h
      · simp at hk
      · exact aget_mem l p h
theorem sameStore_refl (σ : Store) : sameStore σ σ = true := by
  unfold sameStore
  rw [Bool.and_eq_true, List.all_eq_true, List.all_eq_true]
  refine ⟨fun p hp => ?_, fun p hp => ?_⟩
  · obtain ⟨x, hx⟩ := Option.isSome_iff_exists.1 (aget_mem _ p hp)
    rw [hx]
    exact sameCs_refl x
  · obtain ⟨x, hx⟩ := Option.isSome_iff_exists.1 (aget_mem _ p hp)
    rw [hx]
    cases x with
    | it s n => simp [sameM]
    | map es c => simp [sameM, sameEs_refl]
theorem callX_same {C : CallF} {e : Env} {σ : Store} {rest : List AOper} {dst : Option Nat} {c : Cell} : callX C rest dst true e σ (some (.ret c, σ)) = runOps C rest (e.put dst c) σ := by
  show ifB (sameStore σ σ) _ none = _
  rw [sameStore_refl]
  rfl
theorem runOps_nil : runOps C [] e σ = some (.normal e σ) := rfl
theorem runOps_cons {o : AOper} {rest : List AOper} : runOps C (o :: rest) e σ = stepX C rest o.dst (stableOf o.op) e σ (stepOp o e σ) := by
  simp only [runOps, bindO, caseO, stepX]
  cases stepOp o e σ with
  | none => rfl
  | some s =>
    cases s with
    | next e' σ' => rfl
    | panic d => rfl
    | call f as =>
      simp only [callX]
      cases C f as σ with
      | none => rfl
      | some r => obtain ⟨o, s⟩ := r; cases o <;> rfl
theorem stepOp_op {o : AOper} (h : o.op.kind = .op) : stepOp o e σ = bindO (wantedA o.guard e) fun w => ifB w (bindO (evalOp o.dst o.op e σ) fun r => some (.next r.1 r.2)) (some (.next (e.put o.dst ⟨false, .undef⟩) σ)) := by
  unfold stepOp
  rw [h]
theorem exec_skip : exec C n .skip e σ = some (.normal, e, σ) := rfl
theorem exec_exit {id : Nat} : exec C n (.exit id) e σ = some (.exit id, e, σ) := rfl
theorem exec_ret : exec C n .ret e σ = some (.ret, e, σ) := rfl
theorem exec_scope {b : ACode} : exec C n (.scope b) e σ = exec C n b e σ := rfl
theorem exec_region {ops : List AOper} {p : Option (List Nat)} {clr : List Nat} : exec C n (.region ops p clr) e σ = opsX p clr (runOps C ops e σ) := by
  rw [exec]
  unfold opsX
  cases runOps C ops e σ with
  | none => rfl
  | some r => cases r <;> rfl
theorem exec_seq {a b : ACode} : exec C n (.seq a b) e σ = thenX (exec C n a e σ) (exec C n b) := by
  rw [exec]
  unfold thenX
  cases exec C n a e σ with
  | none => rfl
  | some r => obtain ⟨x, e', σ'⟩ := r; cases x <;> rfl
theorem exec_cond {c : AOpd} {t f : ACode} : exec C n (.cond c t f) e σ = bindO (opd e c) fun c => bindO c.d.bool? fun b => ifB b (exec C n t e σ) (exec C n f e σ) := by rw [exec]
theorem exec_block {id : Nat} {b : ACode} : exec C n (.block id b) e σ = blockX id (exec C n b e σ) := by
  rw [exec]
  unfold blockX
  cases exec C n b e σ with
  | none => rfl
  | some r => obtain ⟨x, e', σ'⟩ := r; cases x <;> rfl
theorem exec_loop {b : ACode} : exec C n (.loop b) e σ = loopN (exec C n b) n e σ := by rw [exec]
end
/-- What is behind a body. -/
def finX (R : RecF) (C : CallF) (af : AFun) (m : Nat) (x : XRes) : Option (Out × Store) := match x with
  | some r => finish R C false af m r
  | none => none
@[congr] theorem finX_congr (R : RecF) (C : CallF) (af : AFun) (m : Nat) {x y : XRes} (h : x = y) : finX R C af m x = finX R C af m y := by rw [h]
def resX (af : AFun) (m : Nat) (e : Env) (r : Option (Option D × Store)) : Option (Out × Store) := match r with
  | some (none, σ) => bindO (readRes e σ af.res) fun c => some (.ret c, ifB af.gc (σ.trunc m) σ)
  | _ => none
def resP (af : AFun) (m : Nat) (e : Env) (r : Option (Option D × Store)) : Option (Out × Store) := match r with
  | some (none, σ) => bindO (readRes e σ af.res) fun c => some (.ret c, ifB af.gc (σ.trunc m) σ)
  | some (some d, σ) => some (.panic d, ifB af.gc (σ.trunc m) σ)
  | none => none
@[congr] theorem resX_congr (af : AFun) (m : Nat) (e : Env) {x y : Option (Option D × Store)} (h : x = y) : resX af m e x = resX af m e y := by rw [h]
@[congr] theorem resP_congr (af : AFun) (m : Nat) (e : Env) {x y : Option (Option D × Store)} (h : x = y) : resP af m e x = resP af m e y := by rw [h]
section
variable {R : RecF} {C : CallF} {af : AFun} {m : Nat} {e : Env} {σ : Store}
theorem finX_ret : finX R C af m (some (.ret, e, σ)) = resX af m e (runDefers R C none e.defers σ) := by
  simp only [finX, finish, Bool.false_and, ifB_false, resX, bindO]
  cases runDefers R C none e.defers σ with
  | none => rfl
  | some r => obtain ⟨x, s⟩ := r; cases x <;> rfl
theorem finX_normal : finX R C af m (some (.normal, e, σ)) = resX af m e (runDefers R C none e.defers σ) := by
  simp only [finX, finish, Bool.false_and, ifB_false, resX, bindO]
  cases runDefers R C none e.defers σ with
  | none => rfl
  | some r => obtain ⟨x, s⟩ := r; cases x <;> rfl
theorem finX_panic {d : D} : finX R C af m (some (.panic d, e, σ)) = resP af m e (runDefers R C (some d) e.defers σ) := by
  simp only [finX, finish, Bool.false_and, ifB_false, resP, bindO]
  cases runDefers R C (some d) e.defers σ with
  | none => rfl
  | some r => obtain ⟨x, s⟩ := r; cases x <;> rfl
theorem runDefers_nil {d : Option D} : runDefers R C d [] σ = some (d, σ) := rfl
theorem resX_none : resX af m e (some (none, σ)) = bindO (readRes e σ af.res) fun c => some (.ret c, ifB af.gc (σ.trunc m) σ) := rfl
theorem resP_none : resP af m e (some (none, σ)) = bindO (readRes e σ af.res) fun c => some (.ret c, ifB af.gc (σ.trunc m) σ) := rfl
theorem resP_some {d : D} : resP af m e (some (some d, σ)) = some (.panic d, ifB af.gc (σ.trunc m) σ) := rfl
end
section
variable {Γ : FuncId → Option AFun} {R : RecF} {X : CallF}
theorem runQ_fun {n : Nat} {f : FuncId} {af : AFun} {ds : List D} {σ : Store} (h : Γ f = some af) (hl : ds.length = af.nargs) : runQ Γ R X (n + 1) false f ds σ = finX R (runQ Γ R X n true) af σ.next (exec (runQ Γ R X n false) n af.body (initEnv ds) σ) := by
  rw [runQ, h]
  simp only [hl, beq_self_eq_true, ifB_true]
  unfold finX
  cases exec (runQ Γ R X n false) n af.body (initEnv ds) σ <;> rfl
theorem runQ_ret {n : Nat} {q : Bool} {f : FuncId} {af : AFun} {ds : List D} {σ σ2 : Store} {e : Env} {c : Cell} (h : Γ f = some af) (hl : ds.length = af.nargs) (hx : exec (runQ Γ R X n false) n af.body (initEnv ds) σ = some (.ret, e, σ2)) (hd : e.defers = []) (hr : readRes e σ2 af.res = some c) :
    runQ Γ R X (n + 1) q f ds σ = some (.ret c, ifB af.gc (σ2.trunc σ.next) σ2) := by
  rw [runQ, h]
  simp only [hl, beq_self_eq_true, ifB_true, hx, finish, hd, List.isEmpty_nil, Bool.not_true, Bool.and_false, ifB_false, runDefers, bindO, caseO_some, hr]
theorem runQ_lib {n : Nat} {f : FuncId} {ds : List D} {σ : Store} (h : Γ f = none) : runQ Γ R X (n + 1) false f ds σ = X f ds σ := by
  rw [runQ, h]
  rfl
end
section
variable {b : Bool} {k : IntKind} {n : Int} {s : List UInt8} {ds a cs : List D} {f : FuncId} {t : TypeId} {d : D} {r : RowK}
theorem bool?_bool : (D.bool b).bool? = some b := rfl
theorem bool?_undef : (D.undef).bool? = none := rfl
theorem int?_int : (D.int k n).int? = some (k, n) := rfl
theorem str?_str : (D.str s).str? = some s := rfl
theorem tup?_tup : (D.tup ds).tup? = some ds := rfl
theorem fn?_fn : (D.fn (.func f) a cs).fn? = some (f, a, cs) := rfl
theorem agg?_agg : (D.agg cs).agg? = some cs := rfl
theorem row?_list : (D.list r cs).row? = some (r, cs) := rfl
theorem isNil?_iface : (D.iface t d).isNil? = some false := rfl
theorem isNil?_nil : (D.niliface).isNil? = some true := rfl
theorem cells_agg : (D.agg cs).cells = cs := rfl
theorem cells_int : (D.int k n).cells = [D.int k n] := rfl
theorem cells_bool : (D.bool b).cells = [D.bool b] := rfl
theorem cells_str : (D.str s).cells = [D.str s] := rfl
theorem cells_nils : (D.nils).cells = [D.nils] := rfl
theorem cells_list : (D.list r cs).cells = [D.list r cs] := rfl
theorem cells_nilp : (D.nilp).cells = [D.nilp] := rfl
theorem cells_ptr {i o : Nat} : (D.ptr i o).cells = [D.ptr i o] := rfl
theorem cells_iface : (D.iface t d).cells = [D.iface t d] := rfl
theorem cells_fn {g : Fn} : (D.fn g a cs).cells = [D.fn g a cs] := rfl
theorem cells_nilfn : (D.nilfn).cells = [D.nilfn] := rfl
theorem cells_niliface : (D.niliface).cells = [D.niliface] := rfl
theorem one_agg : (D.agg cs).one = false := rfl
theorem one_int : (D.int k n).one = true := rfl
theorem one_bool : (D.bool b).one = true := rfl
theorem one_str : (D.str s).one = true := rfl
theorem one_nils : (D.nils).one = true := rfl
theorem one_list : (D.list r cs).one = true := rfl
theorem one_nilp : (D.nilp).one = true := rfl
theorem one_ptr {i o : Nat} : (D.ptr i o).one = true := rfl
theorem one_iface : (D.iface t d).one = true := rfl
theorem one_niliface : (D.niliface).one = true := rfl
theorem one_fn {g : Fn} : (D.fn g a cs).one = true := rfl
theorem one_nilfn : (D.nilfn).one = true := rfl
theorem ok_agg : (D.agg cs).ok = true := rfl
theorem ok_int : (D.int k n).ok = true := rfl
theorem ok_bool : (D.bool b).ok = true := rfl
theorem ok_str : (D.str s).ok = true := rfl
theorem ok_nils : (D.nils).ok = true := rfl
theorem ok_list : (D.list r cs).ok = true := rfl
theorem ok_nilp : (D.nilp).ok = true := rfl
theorem ok_ptr {i o : Nat} : (D.ptr i o).ok = true := rfl
theorem ok_iface : (D.iface t d).ok = true := rfl
theorem ok_niliface : (D.niliface).ok = true := rfl
theorem ok_fn {g : Fn} : (D.fn g a cs).ok = true := rfl
theorem ok_nilfn : (D.nilfn).ok = true := rfl
theorem cells_arr {i o l : Nat} : (D.arr r i o l).cells = [D.arr r i o l] := rfl
theorem cells_empt : D.empt.cells = [D.empt] := rfl
theorem cells_map {i : Nat} : (D.map i).cells = [D.map i] := rfl
theorem cells_nilmap : D.nilmap.cells = [D.nilmap] := rfl
theorem one_arr {i o l : Nat} : (D.arr r i o l).one = true := rfl
theorem one_empt : D.empt.one = true := rfl
theorem one_map {i : Nat} : (D.map i).one = true := rfl
theorem one_nilmap : D.nilmap.one = true := rfl
theorem ok_arr {i o l : Nat} : (D.arr r i o l).ok = true := rfl
theorem ok_empt : D.empt.ok = true := rfl
theorem ok_map {i : Nat} : (D.map i).ok = true := rfl
theorem ok_nilmap : D.nilmap.ok = true := rfl
theorem lenOf_arr {i o l : Nat} : lenOf (.arr r i o l) = some l := rfl
theorem lenOf_empt : lenOf .empt = some 0 := rfl
theorem asList_empt : asList .empt = some [] := rfl
theorem isNilS_nils : (D.nils).isNilS? = some true := rfl
theorem isNilS_arr {i o l : Nat} : (D.arr r i o l).isNilS? = some false := rfl
theorem isNilS_dlist : (dlist r cs).isNilS? = some cs.isEmpty := by cases cs <;> rfl
theorem isNilM_nil : D.nilmap.isNilM? = some true := rfl
theorem isNilM_map {i : Nat} : (D.map i).isNilM? = some false := rfl
theorem listOf_nils {os : List (Nat × List Cell)} : listOf os .nils = some [] := rfl
theorem listOf_empt {os : List (Nat × List Cell)} : listOf os .empt = some [] := rfl
theorem listOf_list {os : List (Nat × List Cell)} : listOf os (.list r cs) = some cs := rfl
theorem listOf_dlist {os : List (Nat × List Cell)} : listOf os (dlist r cs) = some cs := by cases cs <;> rfl
theorem sliceD_arr {sz l i o n : Nat} {h : Option Nat} : sliceD sz (.arr r i o n) l h = ifB (decide (l ≤ h.getD n) && decide (h.getD n ≤ n) && r.sz == sz) (some (.arr r i (o + l) (h.getD n - l))) none := rfl
theorem indexD_arr {sz n i o l : Nat} : indexD sz (.arr r i o l) n = ifB (r.sz == sz && decide (n < l)) (some (.ptr i ((o + n) * sz))) none := rfl
theorem isNilP_nil : D.nilp.isNilP? = some true := rfl
theorem isNilP_ptr {i o : Nat} : (D.ptr i o).isNilP? = some false := rfl
theorem isNilP_eptr : (D.eptr d).isNilP? = some false := rfl
theorem one_dlist : (dlist r cs).one = true := by cases cs <;> rfl
theorem ok_dlist : (dlist r cs).ok = true := by cases cs <;> rfl
theorem cells_dlist : (dlist r cs).cells = [dlist r cs] := by cases cs <;> rfl
theorem dlist_nil : dlist r [] = .nils := rfl
theorem lenOf_nils : lenOf .nils = some 0 := rfl
theorem lenOf_list : lenOf (.list r cs) = some cs.length := rfl
theorem lenOf_dlist : lenOf (dlist r cs) = some cs.length := by cases cs <;> rfl
theorem asList_nils : asList .nils = some [] := rfl
theorem asList_list : asList (.list r cs) = some cs := rfl
theorem asList_dlist : asList (dlist r cs) = some cs := by cases cs <;> rfl
theorem row?_dlist (h : cs ≠ []) : (dlist r cs).row? = some (r, cs) := by
  cases cs with
  | nil => exact absurd rfl h
  | cons x l => rfl
theorem nat?_nat {i : Nat} : D.nat? (.int k (i : Int)) = some i := by
  simp [D.nat?, ifB_true]
theorem nat?_zero : D.nat? (.int k 0) = some 0 := rfl
theorem ptrOf_ptr {i o : Nat} : ptrOf (.ptr i o) = some (.ptr i o) := rfl
theorem ptrOf_eptr : ptrOf (.eptr d) = some (.eptr d) := rfl
theorem ptrOf_nilp : ptrOf .nilp = none := rfl
end
section
variable {o o' b : Bool} {k : IntKind} {n : Int} {s : List UInt8} {ds : List D} {kr : RowK} {r : List Cell} {dr : List D}
theorem firstOwn_nil : firstOwn [] = false := rfl
theorem firstOwn_int : firstOwn (⟨o, .int k n⟩ :: r) = firstOwn r := rfl
theorem firstOwn_bool : firstOwn (⟨o, .bool b⟩ :: r) = firstOwn r := rfl
theorem firstOwn_str : firstOwn (⟨o, .str s⟩ :: r) = firstOwn r := rfl
theorem firstOwn_nils : firstOwn (⟨o, .nils⟩ :: r) = firstOwn r := rfl
theorem firstOwn_list : firstOwn (⟨o, .list kr ds⟩ :: r) = o := rfl
theorem firstOwn_last : firstOwn [⟨o, dlist kr ds⟩] = (!ds.isEmpty && o) := by cases ds <;> rfl
theorem unownF_nil : unownF [] = [] := rfl
theorem unownF_int : unownF (⟨o, .int k n⟩ :: r) = ⟨o, .int k n⟩ :: unownF r := rfl
theorem unownF_bool : unownF (⟨o, .bool b⟩ :: r) = ⟨o, .bool b⟩ :: unownF r := rfl
theorem unownF_str : unownF (⟨o, .str s⟩ :: r) = ⟨o, .str s⟩ :: unownF r := rfl
theorem unownF_nils : unownF (⟨o, .nils⟩ :: r) = ⟨o, .nils⟩ :: unownF r := rfl
theorem unownF_last : unownF [⟨o, dlist kr ds⟩] = [⟨ds.isEmpty && o, dlist kr ds⟩] := by cases ds <;> rfl
theorem layA_nil : layA o [] = [] := rfl
theorem layA_int : layA o (.int k n :: dr) = ⟨false, .int k n⟩ :: layA o dr := rfl
theorem layA_bool : layA o (.bool b :: dr) = ⟨false, .bool b⟩ :: layA o dr := rfl
theorem layA_str : layA o (.str s :: dr) = ⟨false, .str s⟩ :: layA o dr := rfl
theorem layA_nils : layA o (.nils :: dr) = ⟨false, .nils⟩ :: layA o dr := rfl
theorem layA_list : layA o (.list kr ds :: dr) = ⟨o, .list kr ds⟩ :: dr.map Cell.of := rfl
theorem layA_last : layA o [dlist kr ds] = [⟨!ds.isEmpty && o, dlist kr ds⟩] := by cases ds <;> rfl
end
theorem nth_map {α β : Type} (f : α → β) : ∀ (l : List α) (i : Nat), nth (l.map f) i = (nth l i).map f
  | [], _ => rfl
  | _ :: _, 0 => rfl
  | _ :: l, i + 1 => nth_map f l i
theorem nth_get {α : Type} : ∀ (l : List α) (i : Nat) (h : i < l.length), nth l i = some (l[i])
  | x :: l, 0, _ => rfl
  | _ :: l, i + 1, h => nth_get l i (by simpa using h)
theorem allSize_all {sz : Nat} : ∀ {ds : List D}, (∀ d ∈ ds, d.ok = true ∧ d.cells.length = sz) → allSize sz ds = true
  | [], _ => rfl
  | d :: r, h => by
    obtain ⟨h1, h2⟩ := h d (List.mem_cons_self ..)
    simp only [allSize, h1, h2, beq_self_eq_true, Bool.true_and]
    exact allSize_all fun x hx => h x (List.mem_cons_of_mem _ hx)
/-- A list that one makes by appending: it owns its room as soon as it has one. -/
def ownL {α : Type} (es : List α) : Bool := !es.isEmpty
theorem append_one {r : RowK} {by_ : Nat} {es : List D} {o : Bool} {y : D} (ho : es ≠ [] → o = true) (hy1 : y.ok = true) (hy2 : y.cells.length = r.sz) (h1 : (es.length + 1) * by_ ≤ bound) (h2 : es.length + 1 ≤ bound) :
    appendD r by_ ⟨o, dlist r es⟩ [y] = some ⟨true, dlist r (es ++ [y])⟩ := by
  have hm : mayAppend r ⟨o, dlist r es⟩ = true := by
    cases es with
    | nil => rfl
    | cons x l => simp [mayAppend, dlist, ho (by simp), RowK.same]
  have hj : joined r (dlist r es) [y] = dlist r (es ++ [y]) := by
    cases es <;> rfl
  simp only [appendD, asList_dlist, asList_list, hm, hj, allSize, hy1, hy2, bindO, caseO_some, List.length_cons, List.length_nil, Nat.zero_add, decide_eq_true h1, decide_eq_true h2, beq_self_eq_true, Bool.and_self, ifB_true]
theorem append_more {r : RowK} {by_ : Nat} {es ys : List D} {o : Bool} (ho : es ≠ [] → o = true) (hy : ∀ d ∈ ys, d.ok = true ∧ d.cells.length = r.sz) (h1 : (es.length + ys.length) * by_ ≤ bound) (h2 : es.length + ys.length ≤ bound) :
    appendD r by_ ⟨o, dlist r es⟩ ys = some ⟨true, dlist r (es ++ ys)⟩ := by
  have hm : mayAppend r ⟨o, dlist r es⟩ = true := by
    cases es with
    | nil => rfl
    | cons x l => simp [mayAppend, dlist, ho (by simp), RowK.same]
  have hj : joined r (dlist r es) ys = dlist r (es ++ ys) := by
    cases es <;> rfl
  simp only [appendD, asList_dlist, hm, hj, allSize_all hy, bindO, caseO_some, decide_eq_true h1, decide_eq_true h2, Bool.and_self, ifB_true]
/-- From some fuel on. -/
def Evly (p : Nat → Prop) : Prop := ∃ n0, ∀ n, n0 ≤ n → p n
theorem Evly.all {p : Nat → Prop} (h : ∀ n, p n) : Evly p := ⟨0, fun n _ => h n⟩
theorem Evly.and {p q : Nat → Prop} (h : Evly p) (k : Evly q) : Evly fun n => p n ∧ q n := by
  obtain ⟨a, ha⟩ := h
  obtain ⟨b, hb⟩ := k
  exact ⟨max a b, fun n hn => ⟨ha n (by omega), hb n (by omega)⟩⟩
theorem Evly.mono {p q : Nat → Prop} (h : Evly p) (k : ∀ n, p n → q n) : Evly q := by
  obtain ⟨a, ha⟩ := h
  exact ⟨a, fun n hn => k n (ha n hn)⟩
/-- What holds behind one step more, with as much fuel as one likes. -/
theorem Evly.step {p q : Nat → Prop} (h : Evly p) (k : Nat) (s : ∀ n, k ≤ n → p n → q (n + 1)) : Evly q := by
  obtain ⟨a, ha⟩ := h
  refine ⟨max a k + 1, fun n hn => ?_⟩
  obtain ⟨m, rfl⟩ : ∃ m, n = m + 1 := ⟨n - 1, by omega⟩
  exact s m (by omega) (ha m (by omega))
theorem Evly.list {α : Type} (l : List α) {p : α → Nat → Prop} (h : ∀ x ∈ l, Evly (p x)) : Evly fun n => ∀ x ∈ l, p x n := by
  induction l with
  | nil => exact .all fun n x hx => by cases hx
  | cons a l ih =>
    refine ((h a (List.mem_cons_self ..)).and (ih fun x hx => h x (List.mem_cons_of_mem _ hx))).mono fun n hn x hx => ?_
    rcases List.mem_cons.1 hx with e | k
    · rw [e]; exact hn.1
    · exact hn.2 x k
theorem Evly.below {p : Nat → Nat → Prop} : ∀ (k : Nat), (∀ i, i < k → Evly (p i)) → Evly fun n => ∀ i, i < k → p i n
  | 0, _ => .all fun n i hi => by omega
  | k + 1, h => ((Evly.below k fun i hi => h i (by omega)).and (h k (by omega))).mono fun n hn i hi => by
    by_cases hik : i = k
    · rw [hik]; exact hn.2
    · exact hn.1 i (by omega)
/-- A loop that goes on so many times, and then ends. -/
theorem loopN_run {body : Env → Store → XRes} (E : Nat → Env) (S : Nat → Store) (k : Nat) {r : AExit × Env × Store} (hr : ∀ e σ, r ≠ (.normal, e, σ)) (hstep : ∀ i, i < k → body (E i) (S i) = some (.normal, E (i + 1), S (i + 1))) (hend : body (E k) (S k) = some r) :
    ∀ (j n : Nat), j ≤ k → k < n + j → loopN body n (E j) (S j) = some r
  | j, 0, h1, h2 => by omega
  | j, n + 1, h1, h2 => by
    rw [loopN]
    by_cases hj : j = k
    · rw [hj, hend]
      obtain ⟨x, e, σ⟩ := r
      cases x with
      | normal => exact absurd rfl (hr e σ)
      | _ => rfl
    · rw [hstep j (by omega)]
      exact loopN_run E S k hr hstep hend (j + 1) n (by omega) (by omega)
/-- A loop over numbers up to k that stops ahead of the first that is not so. -/
theorem loopN_until {body : Env → Store → XRes} (E : Nat → Env) (S : Nat → Store) (k : Nat) (p : Nat → Bool) {r : AExit × Env × Store} (stop : Nat → AExit × Env × Store) (hr : ∀ e σ, r ≠ (.normal, e, σ)) (hs : ∀ i e σ, stop i ≠ (.normal, e, σ))
    (hstep : ∀ i, i < k → p i = true → body (E i) (S i) = some (.normal, E (i + 1), S (i + 1))) (hstop : ∀ i, i < k → p i = false → body (E i) (S i) = some (stop i)) (hend : body (E k) (S k) = some r) :
    ∀ (n j : Nat), j ≤ k → k < n + j → (∃ i, j ≤ i ∧ i < k ∧ p i = false ∧ (∀ i', j ≤ i' → i' < i → p i' = true) ∧ loopN body n (E j) (S j) = some (stop i)) ∨ ((∀ i, j ≤ i → i < k → p i = true) ∧ loopN body n (E j) (S j) = some r)
  | 0, j, h1, h2 => by omega
  | n + 1, j, h1, h2 => by
    rw [loopN]
    by_cases hj : j = k
    · refine .inr ⟨fun i h3 h4 => by omega, ?_⟩
      rw [hj, hend]
      obtain ⟨x, e, σ⟩ := r
      cases x with
      | normal => exact absurd rfl (hr e σ)
      | _ => rfl
    · cases hp : p j with
      | false =>
        refine .inl ⟨j, by omega, by omega, hp, fun i' h3 h4 => by omega, ?_⟩
        rw [hstop j (by omega) hp]
        cases hst : stop j with
        | mk x y =>
        obtain ⟨e, σ⟩ := y
        cases x with
        | normal => exact absurd hst (hs j e σ)
        | _ => rfl
      | true =>
        rw [hstep j (by omega) hp]
        rcases loopN_until E S k p stop hr hs hstep hstop hend n (j + 1) (by omega) (by omega) with ⟨i, h3, h4, h5, h6, h7⟩ | ⟨h3, h4⟩
        · refine .inl ⟨i, by omega, h4, h5, fun i' h8 h9 => ?_, h7⟩
          by_cases hij : i' = j
          · rw [hij]; exact hp
          · exact h6 i' (by omega) h9
        · refine .inr ⟨fun i h5 h6 => ?_, h4⟩
          by_cases hij : i = j
          · rw [hij]; exact hp
          · exact h3 i (by omega) h6
end Go.Mx

/-
  The equations of the machine, in bundles.
-/
namespace Go.Mx
open Go
theorem sy0 : (∀ {e : Go.Mx.Env} {σ : Go.Mx.Store} {f : Go.Mx.Env → Go.Mx.Store → Go.Mx.XRes}, Go.Mx.thenX (Option.some (Go.Mx.AExit.normal, e, σ)) f = f e σ) ∧ (∀ {e : Go.Mx.Env} {σ : Go.Mx.Store} {id : Nat} {f : Go.Mx.Env → Go.Mx.Store → Go.Mx.XRes}, Go.Mx.thenX (Option.some (Go.Mx.AExit.exit id, e, σ)) f = Option.some (Go.Mx.AExit.exit id, e, σ)) ∧ (∀ {e : Go.Mx.Env} {σ : Go.Mx.Store} {f : Go.Mx.Env → Go.Mx.Store → Go.Mx.XRes}, Go.Mx.thenX (Option.some (Go.Mx.AExit.ret, e, σ)) f = Option.some (Go.Mx.AExit.ret, e, σ)) ∧ (∀ {e : Go.Mx.Env} {σ : Go.Mx.Store} {d : Go.Mx.D} {f : Go.Mx.Env → Go.Mx.Store → Go.Mx.XRes}, Go.Mx.thenX (Option.some (Go.Mx.AExit.panic d, e, σ)) f = Option.some (Go.Mx.AExit.panic d, e, σ)) ∧ (∀ {e : Go.Mx.Env} {σ : Go.Mx.Store} {id : Nat}, Go.Mx.blockX id (Option.some (Go.Mx.AExit.normal, e, σ)) = Option.some (Go.Mx.AExit.normal, e, σ)) ∧ (∀ {e : Go.Mx.Env} {σ : Go.Mx.Store} {id id' : Nat}, Go.Mx.blockX id (Option.some (Go.Mx.AExit.exit id', e, σ)) = Go.Mx.ifB (id' == id) (Option.some (Go.Mx.AExit.normal, e, σ)) (Option.some (Go.Mx.AExit.exit id', e, σ))) ∧ (∀ {e : Go.Mx.Env} {σ : Go.Mx.Store} {id : Nat}, Go.Mx.blockX id (Option.some (Go.Mx.AExit.ret, e, σ)) = Option.some (Go.Mx.AExit.ret, e, σ)) ∧ (∀ {e : Go.Mx.Env} {σ : Go.Mx.Store} {id : Nat} {d : Go.Mx.D}, Go.Mx.blockX id (Option.some (Go.Mx.AExit.panic d, e, σ)) = Option.some (Go.Mx.AExit.panic d, e, σ)) ∧ (∀ {e : Go.Mx.Env} {σ : Go.Mx.Store} {p : Option (List Nat)} {l : List Nat}, Go.Mx.opsX p l (Option.some (Go.Mx.OpsOut.normal e σ)) = Option.some (Go.Mx.AExit.normal, Go.Mx.clearEnv e l, σ)) ∧ (∀ {e : Go.Mx.Env} {σ : Go.Mx.Store} {l : List Nat} {d : Go.Mx.D}, Go.Mx.opsX Option.none l (Option.some (Go.Mx.OpsOut.panic d e σ)) = Option.some (Go.Mx.AExit.panic d, e, σ)) ∧ (∀ {e : Go.Mx.Env} {σ : Go.Mx.Store} {p l : List Nat} {d : Go.Mx.D}, Go.Mx.opsX (Option.some p) l (Option.some (Go.Mx.OpsOut.panic d e σ)) = Option.some (Go.Mx.AExit.panic d, Go.Mx.Env.bare e, σ)) ∧ (∀ {C : Go.Mx.CallF} {e : Go.Mx.Env} {σ : Go.Mx.Store} {rest : List Go.Mx.AOper} {dst : Option Nat} {c : Go.Mx.Cell} {σ0 : Go.Mx.Store}, Go.Mx.callX C rest dst Bool.false e σ0 (Option.some (Go.Mx.Out.ret c, σ)) = Go.Mx.runOps C rest (Go.Mx.Env.put e dst c) σ) ∧ (∀ {C : Go.Mx.CallF} {e : Go.Mx.Env} {σ : Go.Mx.Store} {rest : List Go.Mx.AOper} {dst : Option Nat} {d : Go.Mx.D} {σ0 : Go.Mx.Store}, Go.Mx.callX C rest dst Bool.false e σ0 (Option.some (Go.Mx.Out.panic d, σ)) = Option.some (Go.Mx.OpsOut.panic d e σ)) ∧ (∀ {C : Go.Mx.CallF} {e : Go.Mx.Env} {σ : Go.Mx.Store} {rest : List Go.Mx.AOper} {dst : Option Nat} {st : Bool} {e' : Go.Mx.Env} {σ' : Go.Mx.Store}, Go.Mx.stepX C rest dst st e σ (Option.some (Go.Mx.Step.next e' σ')) = Go.Mx.runOps C rest e' σ') ∧ (∀ {C : Go.Mx.CallF} {e : Go.Mx.Env} {σ : Go.Mx.Store} {rest : List Go.Mx.AOper} {dst : Option Nat} {st : Bool} {f : Go.FuncId} {as : List Go.Mx.D}, Go.Mx.stepX C rest dst st e σ (Option.some (Go.Mx.Step.call f as)) = Go.Mx.callX C rest dst st e σ (C f as σ)) ∧ (∀ {C : Go.Mx.CallF} {e : Go.Mx.Env} {σ : Go.Mx.Store} {rest : List Go.Mx.AOper} {dst : Option Nat} {st : Bool} {d : Go.Mx.D}, Go.Mx.stepX C rest dst st e σ (Option.some (Go.Mx.Step.panic d)) = Option.some (Go.Mx.OpsOut.panic d e σ)) ∧ (∀ {C : Go.Mx.CallF} {e : Go.Mx.Env} {σ : Go.Mx.Store} {rest : List Go.Mx.AOper} {dst : Option Nat} {c : Go.Mx.Cell}, Go.Mx.callX C rest dst Bool.true e σ (Option.some (Go.Mx.Out.ret c, σ)) = Go.Mx.runOps C rest (Go.Mx.Env.put e dst c) σ) ∧ (∀ {C : Go.Mx.CallF} {e : Go.Mx.Env} {σ : Go.Mx.Store}, Go.Mx.runOps C [] e σ = Option.some (Go.Mx.OpsOut.normal e σ)) ∧ (∀ {C : Go.Mx.CallF} {e : Go.Mx.Env} {σ : Go.Mx.Store} {o : Go.Mx.AOper} {rest : List Go.Mx.AOper}, Go.Mx.runOps C (o :: rest) e σ = Go.Mx.stepX C rest (Go.Mx.AOper.dst o) (Go.Mx.stableOf (Go.Mx.AOper.op o)) e σ (Go.Mx.stepOp o e σ)) ∧ (∀ {C : Go.Mx.CallF} {n : Nat} {e : Go.Mx.Env} {σ : Go.Mx.Store}, Go.Mx.exec C n Go.Mx.ACode.skip e σ = Option.some (Go.Mx.AExit.normal, e, σ)) ∧ (∀ {C : Go.Mx.CallF} {n : Nat} {e : Go.Mx.Env} {σ : Go.Mx.Store} {id : Nat}, Go.Mx.exec C n (Go.Mx.ACode.exit id) e σ = Option.some (Go.Mx.AExit.exit id, e, σ)) ∧ (∀ {C : Go.Mx.CallF} {n : Nat} {e : Go.Mx.Env} {σ : Go.Mx.Store}, Go.Mx.exec C n Go.Mx.ACode.ret e σ = Option.some (Go.Mx.AExit.ret, e, σ)) ∧ (∀ {C : Go.Mx.CallF} {n : Nat} {e : Go.Mx.Env} {σ : Go.Mx.Store} {b : Go.Mx.ACode}, Go.Mx.exec C n (Go.Mx.ACode.scope b) e σ = Go.Mx.exec C n b e σ) ∧ (∀ {C : Go.Mx.CallF} {n : Nat} {e : Go.Mx.Env} {σ : Go.Mx.Store} {ops : List Go.Mx.AOper} {p : Option (List Nat)} {clr : List Nat}, Go.Mx.exec C n (Go.Mx.ACode.region ops p clr) e σ = Go.Mx.opsX p clr (Go.Mx.runOps C ops e σ)) :=
  And.intro @thenX_normal (And.intro @thenX_exit (And.intro @thenX_ret (And.intro @thenX_panic (And.intro @blockX_normal (And.intro @blockX_exit (And.intro @blockX_ret (And.intro @blockX_panic (And.intro @opsX_normal (And.intro @opsX_panic_none (And.intro @opsX_panic_some (And.intro @callX_ret (And.intro @callX_panic (And.intro @stepX_next (And.intro @stepX_call (And.intro @stepX_panic (And.intro @callX_same (And.intro @runOps_nil (And.intro @runOps_cons (And.intro @exec_skip (And.intro @exec_exit (And.intro @exec_ret (And.intro @exec_scope (@exec_region)))))))))))))))))))))))
theorem sy1 : (∀ {C : Go.Mx.CallF} {n : Nat} {e : Go.Mx.Env} {σ : Go.Mx.Store} {a b : Go.Mx.ACode}, Go.Mx.exec C n (Go.Mx.ACode.seq a b) e σ = Go.Mx.thenX (Go.Mx.exec C n a e σ) (Go.Mx.exec C n b)) ∧ (∀ {C : Go.Mx.CallF} {n : Nat} {e : Go.Mx.Env} {σ : Go.Mx.Store} {c : Go.Mx.AOpd} {t f : Go.Mx.ACode}, Go.Mx.exec C n (Go.Mx.ACode.cond c t f) e σ = Go.Mx.bindO (Go.Mx.opd e c) fun (c : Go.Mx.Cell) => Go.Mx.bindO (Go.Mx.D.bool? (Go.Mx.Cell.d c)) fun (b : Bool) => Go.Mx.ifB b (Go.Mx.exec C n t e σ) (Go.Mx.exec C n f e σ)) ∧ (∀ {C : Go.Mx.CallF} {n : Nat} {e : Go.Mx.Env} {σ : Go.Mx.Store} {id : Nat} {b : Go.Mx.ACode}, Go.Mx.exec C n (Go.Mx.ACode.block id b) e σ = Go.Mx.blockX id (Go.Mx.exec C n b e σ)) ∧ (∀ {C : Go.Mx.CallF} {n : Nat} {e : Go.Mx.Env} {σ : Go.Mx.Store} {b : Go.Mx.ACode}, Go.Mx.exec C n (Go.Mx.ACode.loop b) e σ = Go.Mx.loopN (Go.Mx.exec C n b) n e σ) ∧ (∀ {R : Go.Mx.RecF} {C : Go.Mx.CallF} {af : Go.Mx.AFun} {m : Nat} {e : Go.Mx.Env} {σ : Go.Mx.Store}, Go.Mx.finX R C af m (Option.some (Go.Mx.AExit.ret, e, σ)) = Go.Mx.resX af m e (Go.Mx.runDefers R C Option.none (Go.Mx.Env.defers e) σ)) ∧ (∀ {R : Go.Mx.RecF} {C : Go.Mx.CallF} {af : Go.Mx.AFun} {m : Nat} {e : Go.Mx.Env} {σ : Go.Mx.Store}, Go.Mx.finX R C af m (Option.some (Go.Mx.AExit.normal, e, σ)) = Go.Mx.resX af m e (Go.Mx.runDefers R C Option.none (Go.Mx.Env.defers e) σ)) ∧ (∀ {R : Go.Mx.RecF} {C : Go.Mx.CallF} {af : Go.Mx.AFun} {m : Nat} {e : Go.Mx.Env} {σ : Go.Mx.Store} {d : Go.Mx.D}, Go.Mx.finX R C af m (Option.some (Go.Mx.AExit.panic d, e, σ)) = Go.Mx.resP af m e (Go.Mx.runDefers R C (Option.some d) (Go.Mx.Env.defers e) σ)) ∧ (∀ {R : Go.Mx.RecF} {C : Go.Mx.CallF} {σ : Go.Mx.Store} {d : Option Go.Mx.D}, Go.Mx.runDefers R C d [] σ = Option.some (d, σ)) ∧ (∀ {af : Go.Mx.AFun} {m : Nat} {e : Go.Mx.Env} {σ : Go.Mx.Store}, Go.Mx.resX af m e (Option.some (Option.none, σ)) = Go.Mx.bindO (Go.Mx.readRes e σ (Go.Mx.AFun.res af)) fun (c : Go.Mx.Cell) => Option.some (Go.Mx.Out.ret c, Go.Mx.ifB (Go.Mx.AFun.gc af) (Go.Mx.Store.trunc σ m) σ)) ∧ (∀ {af : Go.Mx.AFun} {m : Nat} {e : Go.Mx.Env} {σ : Go.Mx.Store}, Go.Mx.resP af m e (Option.some (Option.none, σ)) = Go.Mx.bindO (Go.Mx.readRes e σ (Go.Mx.AFun.res af)) fun (c : Go.Mx.Cell) => Option.some (Go.Mx.Out.ret c, Go.Mx.ifB (Go.Mx.AFun.gc af) (Go.Mx.Store.trunc σ m) σ)) ∧ (∀ {af : Go.Mx.AFun} {m : Nat} {e : Go.Mx.Env} {σ : Go.Mx.Store} {d : Go.Mx.D}, Go.Mx.resP af m e (Option.some (Option.some d, σ)) = Option.some (Go.Mx.Out.panic d, Go.Mx.ifB (Go.Mx.AFun.gc af) (Go.Mx.Store.trunc σ m) σ)) ∧ (∀ {b : Bool}, Go.Mx.D.bool? (Go.Mx.D.bool b) = Option.some b) ∧ (Go.Mx.D.bool? Go.Mx.D.undef = Option.none) ∧ (∀ {k : Go.IntKind} {n : Int}, Go.Mx.D.int? (Go.Mx.D.int k n) = Option.some (k, n)) ∧ (∀ {s : List UInt8}, Go.Mx.D.str? (Go.Mx.D.str s) = Option.some s) ∧ (∀ {ds : List Go.Mx.D}, Go.Mx.D.tup? (Go.Mx.D.tup ds) = Option.some ds) ∧ (∀ {a cs : List Go.Mx.D} {f : Go.FuncId}, Go.Mx.D.fn? (Go.Mx.D.fn (Go.Fn.func f) a cs) = Option.some (f, a, cs)) ∧ (∀ {cs : List Go.Mx.D}, Go.Mx.D.agg? (Go.Mx.D.agg cs) = Option.some cs) ∧ (∀ {cs : List Go.Mx.D} {r : Go.Mx.RowK}, Go.Mx.D.row? (Go.Mx.D.list r cs) = Option.some (r, cs)) ∧ (∀ {t : Go.TypeId} {d : Go.Mx.D}, Go.Mx.D.isNil? (Go.Mx.D.iface t d) = Option.some Bool.false) ∧ (Go.Mx.D.isNil? Go.Mx.D.niliface = Option.some Bool.true) ∧ (∀ {cs : List Go.Mx.D}, Go.Mx.D.cells (Go.Mx.D.agg cs) = cs) ∧ (∀ {k : Go.IntKind} {n : Int}, Go.Mx.D.cells (Go.Mx.D.int k n) = [Go.Mx.D.int k n]) ∧ (∀ {b : Bool}, Go.Mx.D.cells (Go.Mx.D.bool b) = [Go.Mx.D.bool b]) :=
  And.intro @exec_seq (And.intro @exec_cond (And.intro @exec_block (And.intro @exec_loop (And.intro @finX_ret (And.intro @finX_normal (And.intro @finX_panic (And.intro @runDefers_nil (And.intro @resX_none (And.intro @resP_none (And.intro @resP_some (And.intro @bool?_bool (And.intro @bool?_undef (And.intro @int?_int (And.intro @str?_str (And.intro @tup?_tup (And.intro @fn?_fn (And.intro @agg?_agg (And.intro @row?_list (And.intro @isNil?_iface (And.intro @isNil?_nil (And.intro @cells_agg (And.intro @cells_int (@cells_bool)))))))))))))))))))))))
theorem sy2 : (∀ {s : List UInt8}, Go.Mx.D.cells (Go.Mx.D.str s) = [Go.Mx.D.str s]) ∧ (Go.Mx.D.cells Go.Mx.D.nils = [Go.Mx.D.nils]) ∧ (∀ {cs : List Go.Mx.D} {r : Go.Mx.RowK}, Go.Mx.D.cells (Go.Mx.D.list r cs) = [Go.Mx.D.list r cs]) ∧ (Go.Mx.D.cells Go.Mx.D.nilp = [Go.Mx.D.nilp]) ∧ (∀ {i o : Nat}, Go.Mx.D.cells (Go.Mx.D.ptr i o) = [Go.Mx.D.ptr i o]) ∧ (∀ {t : Go.TypeId} {d : Go.Mx.D}, Go.Mx.D.cells (Go.Mx.D.iface t d) = [Go.Mx.D.iface t d]) ∧ (∀ {a cs : List Go.Mx.D} {g : Go.Fn}, Go.Mx.D.cells (Go.Mx.D.fn g a cs) = [Go.Mx.D.fn g a cs]) ∧ (Go.Mx.D.cells Go.Mx.D.nilfn = [Go.Mx.D.nilfn]) ∧ (Go.Mx.D.cells Go.Mx.D.niliface = [Go.Mx.D.niliface]) ∧ (∀ {cs : List Go.Mx.D}, Go.Mx.D.one (Go.Mx.D.agg cs) = Bool.false) ∧ (∀ {k : Go.IntKind} {n : Int}, Go.Mx.D.one (Go.Mx.D.int k n) = Bool.true) ∧ (∀ {b : Bool}, Go.Mx.D.one (Go.Mx.D.bool b) = Bool.true) ∧ (∀ {s : List UInt8}, Go.Mx.D.one (Go.Mx.D.str s) = Bool.true) ∧ (Go.Mx.D.one Go.Mx.D.nils = Bool.true) ∧ (∀ {cs : List Go.Mx.D} {r : Go.Mx.RowK}, Go.Mx.D.one (Go.Mx.D.list r cs) = Bool.true) ∧ (Go.Mx.D.one Go.Mx.D.nilp = Bool.true) ∧ (∀ {i o : Nat}, Go.Mx.D.one (Go.Mx.D.ptr i o) = Bool.true) ∧ (∀ {t : Go.TypeId} {d : Go.Mx.D}, Go.Mx.D.one (Go.Mx.D.iface t d) = Bool.true) ∧ (Go.Mx.D.one Go.Mx.D.niliface = Bool.true) ∧ (∀ {a cs : List Go.Mx.D} {g : Go.Fn}, Go.Mx.D.one (Go.Mx.D.fn g a cs) = Bool.true) ∧ (Go.Mx.D.one Go.Mx.D.nilfn = Bool.true) ∧ (∀ {cs : List Go.Mx.D}, Go.Mx.D.ok (Go.Mx.D.agg cs) = Bool.true) ∧ (∀ {k : Go.IntKind} {n : Int}, Go.Mx.D.ok (Go.Mx.D.int k n) = Bool.true) ∧ (∀ {b : Bool}, Go.Mx.D.ok (Go.Mx.D.bool b) = Bool.true) :=
  And.intro @cells_str (And.intro @cells_nils (And.intro @cells_list (And.intro @cells_nilp (And.intro @cells_ptr (And.intro @cells_iface (And.intro @cells_fn (And.intro @cells_nilfn (And.intro @cells_niliface (And.intro @one_agg (And.intro @one_int (And.intro @one_bool (And.intro @one_str (And.intro @one_nils (And.intro @one_list (And.intro @one_nilp (And.intro @one_ptr (And.intro @one_iface (And.intro @one_niliface (And.intro @one_fn (And.intro @one_nilfn (And.intro @ok_agg (And.intro @ok_int (@ok_bool)))))))))))))))))))))))
theorem sy3 : (∀ {s : List UInt8}, Go.Mx.D.ok (Go.Mx.D.str s) = Bool.true) ∧ (Go.Mx.D.ok Go.Mx.D.nils = Bool.true) ∧ (∀ {cs : List Go.Mx.D} {r : Go.Mx.RowK}, Go.Mx.D.ok (Go.Mx.D.list r cs) = Bool.true) ∧ (Go.Mx.D.ok Go.Mx.D.nilp = Bool.true) ∧ (∀ {i o : Nat}, Go.Mx.D.ok (Go.Mx.D.ptr i o) = Bool.true) ∧ (∀ {t : Go.TypeId} {d : Go.Mx.D}, Go.Mx.D.ok (Go.Mx.D.iface t d) = Bool.true) ∧ (Go.Mx.D.ok Go.Mx.D.niliface = Bool.true) ∧ (∀ {a cs : List Go.Mx.D} {g : Go.Fn}, Go.Mx.D.ok (Go.Mx.D.fn g a cs) = Bool.true) ∧ (Go.Mx.D.ok Go.Mx.D.nilfn = Bool.true) ∧ (∀ {r : Go.Mx.RowK} {i o l : Nat}, Go.Mx.D.cells (Go.Mx.D.arr r i o l) = [Go.Mx.D.arr r i o l]) ∧ (Go.Mx.D.cells Go.Mx.D.empt = [Go.Mx.D.empt]) ∧ (∀ {i : Nat}, Go.Mx.D.cells (Go.Mx.D.map i) = [Go.Mx.D.map i]) ∧ (Go.Mx.D.cells Go.Mx.D.nilmap = [Go.Mx.D.nilmap]) ∧ (∀ {r : Go.Mx.RowK} {i o l : Nat}, Go.Mx.D.one (Go.Mx.D.arr r i o l) = Bool.true) ∧ (Go.Mx.D.one Go.Mx.D.empt = Bool.true) ∧ (∀ {i : Nat}, Go.Mx.D.one (Go.Mx.D.map i) = Bool.true) ∧ (Go.Mx.D.one Go.Mx.D.nilmap = Bool.true) ∧ (∀ {r : Go.Mx.RowK} {i o l : Nat}, Go.Mx.D.ok (Go.Mx.D.arr r i o l) = Bool.true) ∧ (Go.Mx.D.ok Go.Mx.D.empt = Bool.true) ∧ (∀ {i : Nat}, Go.Mx.D.ok (Go.Mx.D.map i) = Bool.true) ∧ (Go.Mx.D.ok Go.Mx.D.nilmap = Bool.true) ∧ (∀ {r : Go.Mx.RowK} {i o l : Nat}, Go.Mx.lenOf (Go.Mx.D.arr r i o l) = Option.some l) ∧ (Go.Mx.lenOf Go.Mx.D.empt = Option.some 0) ∧ (Go.Mx.asList Go.Mx.D.empt = Option.some []) :=
  And.intro @ok_str (And.intro @ok_nils (And.intro @ok_list (And.intro @ok_nilp (And.intro @ok_ptr (And.intro @ok_iface (And.intro @ok_niliface (And.intro @ok_fn (And.intro @ok_nilfn (And.intro @cells_arr (And.intro @cells_empt (And.intro @cells_map (And.intro @cells_nilmap (And.intro @one_arr (And.intro @one_empt (And.intro @one_map (And.intro @one_nilmap (And.intro @ok_arr (And.intro @ok_empt (And.intro @ok_map (And.intro @ok_nilmap (And.intro @lenOf_arr (And.intro @lenOf_empt (@asList_empt)))))))))))))))))))))))
theorem sy4 : (Go.Mx.D.isNilS? Go.Mx.D.nils = Option.some Bool.true) ∧ (∀ {r : Go.Mx.RowK} {i o l : Nat}, Go.Mx.D.isNilS? (Go.Mx.D.arr r i o l) = Option.some Bool.false) ∧ (∀ {cs : List Go.Mx.D} {r : Go.Mx.RowK}, Go.Mx.D.isNilS? (Go.Mx.dlist r cs) = Option.some (List.isEmpty cs)) ∧ (Go.Mx.D.isNilM? Go.Mx.D.nilmap = Option.some Bool.true) ∧ (∀ {i : Nat}, Go.Mx.D.isNilM? (Go.Mx.D.map i) = Option.some Bool.false) ∧ (∀ {os : List (Nat × List Go.Mx.Cell)}, Go.Mx.listOf os Go.Mx.D.nils = Option.some []) ∧ (∀ {os : List (Nat × List Go.Mx.Cell)}, Go.Mx.listOf os Go.Mx.D.empt = Option.some []) ∧ (∀ {cs : List Go.Mx.D} {r : Go.Mx.RowK} {os : List (Nat × List Go.Mx.Cell)}, Go.Mx.listOf os (Go.Mx.D.list r cs) = Option.some cs) ∧ (∀ {cs : List Go.Mx.D} {r : Go.Mx.RowK} {os : List (Nat × List Go.Mx.Cell)}, Go.Mx.listOf os (Go.Mx.dlist r cs) = Option.some cs) ∧ (Go.Mx.D.isNilP? Go.Mx.D.nilp = Option.some Bool.true) ∧ (∀ {i o : Nat}, Go.Mx.D.isNilP? (Go.Mx.D.ptr i o) = Option.some Bool.false) ∧ (∀ {d : Go.Mx.D}, Go.Mx.D.isNilP? (Go.Mx.D.eptr d) = Option.some Bool.false) ∧ (∀ {cs : List Go.Mx.D} {r : Go.Mx.RowK}, Go.Mx.D.one (Go.Mx.dlist r cs) = Bool.true) ∧ (∀ {cs : List Go.Mx.D} {r : Go.Mx.RowK}, Go.Mx.D.ok (Go.Mx.dlist r cs) = Bool.true) ∧ (∀ {cs : List Go.Mx.D} {r : Go.Mx.RowK}, Go.Mx.D.cells (Go.Mx.dlist r cs) = [Go.Mx.dlist r cs]) ∧ (∀ {r : Go.Mx.RowK}, Go.Mx.dlist r [] = Go.Mx.D.nils) ∧ (Go.Mx.lenOf Go.Mx.D.nils = Option.some 0) ∧ (∀ {cs : List Go.Mx.D} {r : Go.Mx.RowK}, Go.Mx.lenOf (Go.Mx.D.list r cs) = Option.some (List.length cs)) ∧ (∀ {cs : List Go.Mx.D} {r : Go.Mx.RowK}, Go.Mx.lenOf (Go.Mx.dlist r cs) = Option.some (List.length cs)) ∧ (Go.Mx.asList Go.Mx.D.nils = Option.some []) ∧ (∀ {cs : List Go.Mx.D} {r : Go.Mx.RowK}, Go.Mx.asList (Go.Mx.D.list r cs) = Option.some cs) ∧ (∀ {cs : List Go.Mx.D} {r : Go.Mx.RowK}, Go.Mx.asList (Go.Mx.dlist r cs) = Option.some cs) ∧ (∀ {k : Go.IntKind} {i : Nat}, Go.Mx.D.nat? (Go.Mx.D.int k ↑i) = Option.some i) ∧ (∀ {k : Go.IntKind}, Go.Mx.D.nat? (Go.Mx.D.int k 0) = Option.some 0) :=
  And.intro @isNilS_nils (And.intro @isNilS_arr (And.intro @isNilS_dlist (And.intro @isNilM_nil (And.intro @isNilM_map (And.intro @listOf_nils (And.intro @listOf_empt (And.intro @listOf_list (And.intro @listOf_dlist (And.intro @isNilP_nil (And.intro @isNilP_ptr (And.intro @isNilP_eptr (And.intro @one_dlist (And.intro @ok_dlist (And.intro @cells_dlist (And.intro @dlist_nil (And.intro @lenOf_nils (And.intro @lenOf_list (And.intro @lenOf_dlist (And.intro @asList_nils (And.intro @asList_list (And.intro @asList_dlist (And.intro @nat?_nat (@nat?_zero)))))))))))))))))))))))
theorem sy5 : (∀ {i o : Nat}, Go.Mx.ptrOf (Go.Mx.D.ptr i o) = Option.some (Go.Mx.Ptr.ptr i o)) ∧ (∀ {d : Go.Mx.D}, Go.Mx.ptrOf (Go.Mx.D.eptr d) = Option.some (Go.Mx.Ptr.eptr d)) ∧ (Go.Mx.ptrOf Go.Mx.D.nilp = Option.none) ∧ (Go.Mx.firstOwn [] = Bool.false) ∧ (∀ {o : Bool} {k : Go.IntKind} {n : Int} {r : List Go.Mx.Cell}, Go.Mx.firstOwn ({ own := o, d := Go.Mx.D.int k n } :: r) = Go.Mx.firstOwn r) ∧ (∀ {o b : Bool} {r : List Go.Mx.Cell}, Go.Mx.firstOwn ({ own := o, d := Go.Mx.D.bool b } :: r) = Go.Mx.firstOwn r) ∧ (∀ {o : Bool} {s : List UInt8} {r : List Go.Mx.Cell}, Go.Mx.firstOwn ({ own := o, d := Go.Mx.D.str s } :: r) = Go.Mx.firstOwn r) ∧ (∀ {o : Bool} {r : List Go.Mx.Cell}, Go.Mx.firstOwn ({ own := o, d := Go.Mx.D.nils } :: r) = Go.Mx.firstOwn r) ∧ (∀ {o : Bool} {ds : List Go.Mx.D} {kr : Go.Mx.RowK} {r : List Go.Mx.Cell}, Go.Mx.firstOwn ({ own := o, d := Go.Mx.D.list kr ds } :: r) = o) ∧ (∀ {o : Bool} {ds : List Go.Mx.D} {kr : Go.Mx.RowK}, Go.Mx.firstOwn [{ own := o, d := Go.Mx.dlist kr ds }] = (!List.isEmpty ds && o)) ∧ (Go.Mx.unownF [] = []) ∧ (∀ {o : Bool} {k : Go.IntKind} {n : Int} {r : List Go.Mx.Cell}, Go.Mx.unownF ({ own := o, d := Go.Mx.D.int k n } :: r) = { own := o, d := Go.Mx.D.int k n } :: Go.Mx.unownF r) ∧ (∀ {o b : Bool} {r : List Go.Mx.Cell}, Go.Mx.unownF ({ own := o, d := Go.Mx.D.bool b } :: r) = { own := o, d := Go.Mx.D.bool b } :: Go.Mx.unownF r) ∧ (∀ {o : Bool} {s : List UInt8} {r : List Go.Mx.Cell}, Go.Mx.unownF ({ own := o, d := Go.Mx.D.str s } :: r) = { own := o, d := Go.Mx.D.str s } :: Go.Mx.unownF r) ∧ (∀ {o : Bool} {r : List Go.Mx.Cell}, Go.Mx.unownF ({ own := o, d := Go.Mx.D.nils } :: r) = { own := o, d := Go.Mx.D.nils } :: Go.Mx.unownF r) ∧ (∀ {o : Bool} {ds : List Go.Mx.D} {kr : Go.Mx.RowK}, Go.Mx.unownF [{ own := o, d := Go.Mx.dlist kr ds }] = [{ own := List.isEmpty ds && o, d := Go.Mx.dlist kr ds }]) ∧ (∀ {o : Bool}, Go.Mx.layA o [] = []) ∧ (∀ {o : Bool} {k : Go.IntKind} {n : Int} {dr : List Go.Mx.D}, Go.Mx.layA o (Go.Mx.D.int k n :: dr) = { own := Bool.false, d := Go.Mx.D.int k n } :: Go.Mx.layA o dr) ∧ (∀ {o b : Bool} {dr : List Go.Mx.D}, Go.Mx.layA o (Go.Mx.D.bool b :: dr) = { own := Bool.false, d := Go.Mx.D.bool b } :: Go.Mx.layA o dr) ∧ (∀ {o : Bool} {s : List UInt8} {dr : List Go.Mx.D}, Go.Mx.layA o (Go.Mx.D.str s :: dr) = { own := Bool.false, d := Go.Mx.D.str s } :: Go.Mx.layA o dr) ∧ (∀ {o : Bool} {dr : List Go.Mx.D}, Go.Mx.layA o (Go.Mx.D.nils :: dr) = { own := Bool.false, d := Go.Mx.D.nils } :: Go.Mx.layA o dr) ∧ (∀ {o : Bool} {ds : List Go.Mx.D} {kr : Go.Mx.RowK} {dr : List Go.Mx.D}, Go.Mx.layA o (Go.Mx.D.list kr ds :: dr) = { own := o, d := Go.Mx.D.list kr ds } :: List.map Go.Mx.Cell.of dr) ∧ (∀ {o : Bool} {ds : List Go.Mx.D} {kr : Go.Mx.RowK}, Go.Mx.layA o [Go.Mx.dlist kr ds] = [{ own := !List.isEmpty ds && o, d := Go.Mx.dlist kr ds }]) :=
  And.intro @ptrOf_ptr (And.intro @ptrOf_eptr (And.intro @ptrOf_nilp (And.intro @firstOwn_nil (And.intro @firstOwn_int (And.intro @firstOwn_bool (And.intro @firstOwn_str (And.intro @firstOwn_nils (And.intro @firstOwn_list (And.intro @firstOwn_last (And.intro @unownF_nil (And.intro @unownF_int (And.intro @unownF_bool (And.intro @unownF_str (And.intro @unownF_nils (And.intro @unownF_last (And.intro @layA_nil (And.intro @layA_int (And.intro @layA_bool (And.intro @layA_str (And.intro @layA_nils (And.intro @layA_list (@layA_last))))))))))))))))))))))
end Go.Mx


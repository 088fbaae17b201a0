/-
  A deferred function that asks recover first, and goes on az the machine's code.
-/
import Derived.Recover
import Derived.Test.YtmhedpkbfaginaaGreatDoorMyFrame
set_option linter.unusedSimpArgs false
set_option linter.unusedVariables false
set_option linter.unusedSectionVars false
namespace Go.Mx
open Go
theorem Evo.toShared {ι0 ι : Imm} {j0 j : Lay} {own0 own : Own} {w0 w : World} (hE : Evo ι0 j0 own0 w0 ι j own w (fun _ => True)) : Evo ι0 j0 own0 w0 ι j (shared own) w (fun _ => True) := by
  refine ⟨hE.os, hE.tape, hE.output, hE.size, hE.imm, hE.lay, fun b hb ht => ?_⟩
  have hn : own0 b = none := by
    cases h : own0 b with
    | none => rfl
    | some t => exact absurd trivial (ht t h)
  obtain ⟨k1, k2, k3⟩ := hE.block b hb ht
  refine ⟨k1, ?_, k3⟩
  unfold shared
  rw [k2, hn]
def recEnv (ds : List D) (s0 s1 : Nat) (m : Option D) : Env := ((initEnv ds).put (some s0) ⟨false, m.getD .niliface⟩).put (some s1) ⟨false, m.getD .niliface⟩
noncomputable def recRun (C : CallF) (n : Nat) (body : ACode) (nargs s0 s1 : Nat) (ds : List D) (m : Option D) (σ : Store) : Option (Option D × Store) :=
  ifB (ds.length == nargs) (match exec C n none body (recEnv ds s0 s1 m) σ with
    | some (.normal, e, σ') => ifB e.defers.isEmpty (some (none, σ')) none
    | some (.ret, e, σ') => ifB e.defers.isEmpty (some (none, σ')) none
    | _ => none) none
theorem rec_sound [LoopKit] {P : Program} [K : KitOf P ‹LoopKit›] {κ : Ctx} {C : CallF} (hC : CSound P κ C) {n : Nat} {f : FuncId} {fn : Func} {id : Nat} {o0 o1 : Oper} {rest : Code} {rest' : ACode} {nargs s0 s1 : Nat} (hf : P.funcs[f]? = some fn) (hname : (fn.name == "runtime.NumGoroutine") = false)
    (hb : fn.body = some (.seq (.region id #[o0, o1] false) rest)) (h0 : o0.op = .call { callee := .builtin .recover, args := #[], argTypes := #[] }) (g0 : o0.guard = none) (d0 : o0.dst = some s0)
    (h1 : o1.op = .assign (.tmp s0)) (g1 : o1.guard = none) (d1 : o1.dst = some s1) (l0 : s0 < fn.ntmps) (l1 : s1 < fn.ntmps) (hres : fn.results = #[]) (hN : nargs ≤ fn.ntmps) (hok : okCode P fn.ntmps false rest rest' = true)
    {ds : List D} {m m' : Option D} {σ σ' : Store} (h : recRun C n rest' nargs s0 s1 ds m σ = some (m', σ')) : HasBody P f ∧ ∀ ι j own w vs u, Shared own → Base κ own w → GSim ι j own σ w → RepL ι j ds vs → ModeRel ι j m u →
      CallsD P f ⟨vs⟩ u w fun e u' w' => ∃ v ι' j' own', e = .returned v ∧ GSim ι' j' own' σ' w' ∧ Evo ι j own w ι' j' own' w' (fun _ => True) ∧ Shared own' ∧ ModeRel ι' j' m' (settle u') := by
  refine ⟨⟨fn, _, hf, hname, hb⟩, fun ι j own w vs u hS hB hG hr hm => ?_⟩
  unfold recRun at h
  obtain ⟨hlen, h⟩ := ifB_some h
  have hlen : ds.length = nargs := by simpa using hlen
  cases hx : exec C n none rest' (recEnv ds s0 s1 m) σ with
  | none => rw [hx] at h; cases h
  | some r =>
    rw [hx] at h
    obtain ⟨x, e1, σ1⟩ := r
    have hL := init_sim (N := fn.ntmps) hG hr (by omega)
    -- what recover answers
    have go : ∀ (vv : Value) (c₀ : Frame) (cs cs' : List Frame) (u' : FrameMode), Rep ι j (m.getD .niliface) vv → cs' = { c₀ with mode := u' } :: cs → settle u' = .returning →
        rest.wpS P (bodyPostS P fn c₀ cs fun e u' w' => ∃ v ι' j' own', e = .returned v ∧ GSim ι' j' own' σ' w' ∧ Evo ι j own w ι' j' own' w' (fun _ => True) ∧ Shared own' ∧ ModeRel ι' j' m' (settle u'))
          (((({ tmps := (⟨vs⟩ : Array Value) ++ Array.replicate (fn.ntmps - vs.length) undef, defers := [] } : Go.Act).put (some s0) vv)).put (some s1) vv) cs' w := by
      rintro vv c₀ cs cs' u' hv rfl hset
      have hL1 := (hL.putC l0 (c := ⟨false, m.getD .niliface⟩) (x := vv) ⟨hv, fun h => by cases h⟩).putC l1 (c := ⟨false, m.getD .niliface⟩) (x := vv) ⟨hv, fun h => by cases h⟩
      refine wpS_of_wp (wpIn_wide.1 (exec_sound (own0 := own) (w0 := w) hC hB n (ro := none) (rr := none) (rd := false) rfl (.inl rfl) rest' rest hok hx ⟨ι, j, own, _, hG, hL1, Evo.refl _ _ _ _ _⟩ ?_))
      have last : ∀ a1 w1, e1.defers = [] → σ1 = σ' → m' = none → St ι j own w fn.ntmps e1 σ1 a1 w1 → a1.defers = [] ∧ ∃ u'', ({ c₀ with mode := u' } :: cs : List Frame) = { c₀ with mode := u'' } :: cs ∧ ∃ v, (results fn a1.tmps).run P w1 = .ok v w1 ∧
          ∃ v' ι' j' own', (Ending.returned v) = .returned v' ∧ GSim ι' j' own' σ' w1 ∧ Evo ι j own w ι' j' own' w1 (fun _ => True) ∧ Shared own' ∧ ModeRel ι' j' m' (settle u'') := by
        rintro a1 w1 hd rfl rfl ⟨ι', j', own', lb', k1, k2, k3⟩
        have hdd := k2.defers
        rw [hd] at hdd
        simp only [DefRel] at hdd
        refine ⟨hdd, u', rfl, .tuple #[], ?_, _, ι', j', shared own', rfl, k1.toShared, k3.toShared, shared_shared own', by simp only [ModeRel]; exact hset⟩
        rw [results_eq, hres]
        simp
      cases x with
      | normal =>
        simp only at h
        obtain ⟨hd, h⟩ := ifB_some h
        cases h
        exact fun a1 w1 hs => last a1 w1 (by simpa using hd) rfl rfl hs
      | ret =>
        simp only at h
        obtain ⟨hd, h⟩ := ifB_some h
        cases h
        exact fun a1 w1 hs => last a1 w1 (by simpa using hd) rfl rfl hs
      | exit id => cases h
      | panic d => cases h
      | goto l => cases h
    refine callsD_of_wpS hf hb fun c₀ cs hu => ?_
    apply wpS_seq
    apply wpS_region
    have hsz : (#[o0, o1] : Array Oper).size = 2 := rfl
    have hrange : List.range (#[o0, o1] : Array Oper).size = [0, 1] := rfl
    have hex0 : ∀ a : Go.Act, (execOp a.eval o0).run P w = .ok .recover w := fun a => by
      simp only [execOp, h0]
      rfl
    have w0' : ∀ t : Array Value, Region.wanted o0 (yielded #[o0, o1] t) = true := fun t => by simp [Region.wanted, g0]
    have w1' : ∀ t : Array Value, Region.wanted o1 (yielded #[o0, o1] t) = true := fun t => by simp [Region.wanted, g1]
    have hex1 : ∀ (a : Go.Act) (vv : Value), s0 < a.tmps.size → (execOp (a.put (some s0) vv).eval o1).run P w = .ok (.value vv) w := fun a vv hlt => by
      have : (a.put (some s0) vv).eval (.tmp s0) = vv := getD_put_same hlt
      simp only [execOp, h1, this]
      rfl
    have hlt : s0 < ((⟨vs⟩ : Array Value) ++ Array.replicate (fn.ntmps - vs.length) undef).size := by
      have := hr.length
      simp
      omega
    rw [hrange]
    cases m with
    | none =>
      simp only [ModeRel] at hm
      subst hm
      have hrd : recoverD (c₀ :: cs) = none := by simp [recoverD, hu]
      have hc0 : ({ c₀ with mode := .returning } : Frame) = c₀ := by rw [← hu]
      simp only [wpOpsS, List.getElem?_toArray, List.getElem?_cons_zero, List.getElem?_cons_succ, w0', if_true, hex0, hrd, w1']
      rw [d0, hex1 _ _ hlt]
      simp only [Oper.upon, d1, Exit.thenS]
      exact go .nilIface c₀ cs (c₀ :: cs) .returning (by simp [Rep]) (by rw [hc0]) rfl
    | some d =>
      obtain ⟨v, rfl, hv⟩ := hm
      have hrd : recoverD (c₀ :: cs) = some (v, { c₀ with mode := .panicking [{ v := v, recovered := true }] } :: cs) := by simp [recoverD, hu]
      simp only [wpOpsS, List.getElem?_toArray, List.getElem?_cons_zero, List.getElem?_cons_succ, w0', if_true, hex0, hrd, w1']
      rw [d0, hex1 _ _ hlt]
      simp only [Oper.upon, d1, Exit.thenS]
      exact go v c₀ cs _ _ hv rfl rfl
end Go.Mx

/-
  What is called with data that hold no place of the store leaves the store: proved at the empty store, it holds at every one. And library functions that only read.
-/
import Derived.Below
import Derived.Test.YtkgdpcnobfadaaaDoorMzRun
import Derived.Recover
set_option linter.unusedSimpArgs false
set_option linter.unusedVariables false
namespace Go.Mx
open Go
mutual
def noPtr : D → Bool
  | .ptr _ _ => false
  | .arr _ _ _ _ => false
  | .map _ => false
  | .agg cs => noPtrL cs
  | .tup ds => noPtrL ds
  | .list _ es => noPtrL es
  | .eptr d => noPtr d
  | .fn _ a b => noPtrL a && noPtrL b
  | .iface _ d => noPtr d
  | _ => true
def noPtrL : List D → Bool
  | [] => true
  | d :: l => noPtr d && noPtrL l
end
mutual
theorem Rep.swap {ι : Imm} {j j' : Lay} : ∀ (d : D) (v : Value), noPtr d = true → Rep ι j d v → Rep ι j' d v
  | .undef, _, _, h | .bool _, _, _, h | .int _ _, _, _, h | .str _, _, _, h | .nils, _, _, h | .nilp, _, _, h | .nilfn, _, _, h | .niliface, _, _, h | .empt, _, _, h | .nilmap, _, _, h => by simpa only [Rep] using h
  | .arr _ _ _ _, _, hp, _ | .map _, _, hp, _ => by simp only [noPtr, Bool.false_eq_true] at hp
  | .junk, _, _, _ => by simp only [Rep]
  | .list sz es, v, hp, h => by
    simp only [noPtr] at hp
    simp only [Rep] at h ⊢
    obtain ⟨a, cap, h1, h2, h3, h4⟩ := h
    refine ⟨a, cap, h1, h2, h3, ?_⟩
    rcases h4 with h4 | ⟨b, o, ha, hr⟩
    · exact .inl h4
    · exact .inr ⟨b, o, ha, RepRow.swap sz.sz es b o hp hr⟩
  | .agg cs, v, hp, h => by
    simp only [noPtr] at hp
    simp only [Rep] at h ⊢
    obtain ⟨vs, h1, h2, h3⟩ := h
    exact ⟨vs, h1, RepL.swap cs vs hp h2, h3⟩
  | .tup ds, v, hp, h => by
    simp only [noPtr] at hp
    simp only [Rep] at h ⊢
    obtain ⟨vs, h1, h2⟩ := h
    exact ⟨vs, h1, RepL.swap ds vs hp h2⟩
  | .ptr id off, v, hp, h => by simp [noPtr] at hp
  | .eptr d, v, hp, h => by
    simp only [noPtr] at hp
    simp only [Rep] at h ⊢
    obtain ⟨b, o, x, h1, h2, h3⟩ := h
    exact ⟨b, o, x, h1, h2, Rep.swap d x hp h3⟩
  | .fn f first caps, v, hp, h => by
    simp only [noPtr, Bool.and_eq_true] at hp
    simp only [Rep] at h ⊢
    obtain ⟨vf, vc, h1, h2, h3⟩ := h
    exact ⟨vf, vc, h1, RepL.swap first vf hp.1 h2, RepL.swap caps vc hp.2 h3⟩
  | .iface t d, v, hp, h => by
    simp only [noPtr] at hp
    simp only [Rep] at h ⊢
    obtain ⟨x, h1, h2⟩ := h
    exact ⟨x, h1, Rep.swap d x hp h2⟩
theorem RepL.swap {ι : Imm} {j j' : Lay} : ∀ (ds : List D) (vs : List Value), noPtrL ds = true → RepL ι j ds vs → RepL ι j' ds vs
  | [], _, _, h => by simpa only [RepL] using h
  | d :: ds, vs, hp, h => by
    simp only [noPtrL, Bool.and_eq_true] at hp
    simp only [RepL] at h ⊢
    obtain ⟨x, r, h1, h2, h3⟩ := h
    exact ⟨x, r, h1, Rep.swap d x hp.1 h2, RepL.swap ds r hp.2 h3⟩
theorem RepRow.swap {ι : Imm} {j j' : Lay} (sz : Nat) : ∀ (ds : List D) (b o : Nat), noPtrL ds = true → RepRow ι j sz ds b o → RepRow ι j' sz ds b o
  | [], _, _, _, _ => by simp only [RepRow]
  | d :: ds, b, o, hp, h => by
    simp only [noPtrL, Bool.and_eq_true] at hp
    simp only [RepRow] at h ⊢
    obtain ⟨⟨x, h1, h2, h3⟩, h4⟩ := h
    exact ⟨⟨x, h1, h2, Rep.swap d x hp.1 h3⟩, RepRow.swap sz ds b (o + sz) hp.2 h4⟩
end
def σ0 : Store := { objs := [], tys := [], oth := [], next := 0 }
section
variable {P : Program} {ι : Imm} {j : Lay} {own : Own} {w : World} {σ : Store} {κ : Ctx}
theorem GSim.empty (hG : GSim ι j own σ w) : GSim ι (fun _ => none) (fun _ => none) σ0 w where
  holds := hG.holds
  noimm := fun _ _ h => by cases h
  objs := fun id cs h => by simp [σ0, aget_nil] at h
  tys := fun id t cs h => by simp [σ0, aget_nil] at h
  oth := fun id x h => by simp [σ0, aget_nil] at h
  jlt := fun _ _ h => by cases h
  ownlt := fun _ _ h => by cases h
/-- Where all old blocks are as they were, what is known of them stands. -/
theorem GSim.onto {ι' : Imm} {j' : Lay} {own' : Own} {σ' : Store} {w' : World} (hG : GSim ι j own σ w) (hG' : GSim ι' j' own' σ' w') (hE : Evo ι (fun _ => none) (fun _ => none) w ι' j' own' w' (fun _ => True)) :
    GSim ι' j own σ w' ∧ Evo ι j own w ι' j own w' (fun _ => True) := by
  have hE2 : Evo ι j own w ι' j own w' (fun _ => False) := ⟨hE.os, hE.tape, hE.output, hE.size, hE.imm, fun _ _ h => h, fun b hb _ => by
    obtain ⟨k1, _, k3⟩ := hE.block b hb (fun t h => by cases h)
    exact ⟨k1, rfl, k3⟩⟩
  refine ⟨hG.evo hE2 hG'.holds (fun b t h hu o => ?_) (fun b t h => Nat.lt_of_lt_of_le (hG.ownlt b t h) hE.size) hG.jlt (fun _ _ _ => ⟨fun h => h, fun _ _ _ _ h => h⟩) (fun _ _ _ h => h), hE2.weaken fun _ h => h.elim⟩
  rw [(hE2.block b (hG.ownlt b t h) (fun _ _ h => h)).2.2 o]
  exact hG.noimm b t h hu o
def Out.clean : Out → Bool
  | .ret c => noPtr c.d
  | .panic d => noPtr d
theorem frame_rule {f : FuncId} {ds : List D} {out : Out} {σ' : Store} (h : CallOK P κ f ds σ0 out σ') (hd : noPtrL ds = true) (hc : out.clean = true) (σ : Store) : CallOK P κ f ds σ out σ := by
  refine ⟨h.1, fun ι j own w vs hS hB hG hr => ?_⟩
  refine (h.2 ι (fun _ => none) (fun _ => none) w vs (fun _ _ h => by cases h) ⟨hB.size, fun _ _ => rfl, hB.K⟩ hG.empty (RepL.swap ds vs hd hr)).mono ?_
  rintro e w' ⟨ι', j', own', k1, k2, k3, k4⟩
  obtain ⟨g1, g2⟩ := hG.onto k1 k2
  refine ⟨ι', j, own, g1, g2, hS, ?_⟩
  cases out with
  | ret c =>
    cases e with
    | returned v =>
      simp only at k4 ⊢
      refine ⟨Rep.swap c.d v hc k4.1, fun ho => ?_⟩
      have hF := k4.2 ho
      unfold Fresh at hF ⊢
      cases hp : prin c.d v with
      | none => trivial
      | some p =>
        rw [hp] at hF
        rcases hF with hF | ⟨b, cap, cur, T, f1, f2, f3, f4, f5, f6⟩
        · exact .inl hF
        · have hb : w.heap.size ≤ b := f2.resolve_right (by simp)
          refine .inr ⟨b, cap, cur, T, f1, .inl hb, ?_, f4, f5, f6⟩
          cases ho : own b with
          | none => rfl
          | some t => have := hG.ownlt b t ho; omega
    | panicked chain => exact k4.elim
    | outgrown => exact k4.elim
  | panic d =>
    cases e with
    | returned v => exact k4.elim
    | outgrown => exact k4.elim
    | panicked chain =>
      obtain ⟨v, rfl, hv⟩ := k4
      exact ⟨v, rfl, Rep.swap d v hc hv⟩
/-- A library function that only reads, or makes new memory. -/
theorem pure_call {f : FuncId} {ds : List D} {c : D} (hb : HasBody P f) (h : ∀ ι j own w vs, Base κ own w → GSim ι j own σ w → RepL ι j ds vs → Calls P f ⟨vs⟩ w fun e w' => ∃ v, e = .returned v ∧ RowKit.Below w.heap.size w w' ∧ Rep ι j c v) : CallOK P κ f ds σ (.ret ⟨false, c⟩) σ := by
  refine ⟨hb, fun ι j own w vs hS hB hG hr => (h ι j own w vs hB hG hr).mono ?_⟩
  rintro e w' ⟨v, rfl, hx, hv⟩
  have hE : Evo ι j own w ι j own w' (fun _ => False) := ⟨hx.os, hx.tape, hx.output, hx.size, fun _ _ _ h => h, fun _ _ h => h, fun b hb _ => ⟨hx.block b hb, rfl, fun _ => rfl⟩⟩
  refine ⟨ι, j, own, hG.evo hE (fun b o v h => ?_) hG.noimm (fun b t h => Nat.lt_of_lt_of_le (hG.ownlt b t h) hx.size) hG.jlt (fun _ _ _ => ⟨fun h => h, fun _ _ _ _ h => h⟩) (fun _ _ _ h => h), hE.weaken (fun _ h => h.elim), hS, hv, fun h => by cases h⟩
  rw [World.cell?_of_block (w := w) (w' := w') (a := ⟨b, o, none⟩) (hx.block b (imm_lt hG h))]
  exact hG.holds b o v h
/-- An object of the store whose cells are laid anew. -/
theorem GSim.setObj (hG : GSim ι j own σ w) {id B : Nat} {cs cs' : List Cell} {cur : Array Value} {T : TypeId} {vs' : List Value} {w' : World} (hcs : aget σ.objs id = some cs) (hB : j id = some B) (hown : own B = some (.obj id))
    (hos : w'.os = w.os) (htape : w'.tape = w.tape) (hout : w'.output = w.output) (hsize : w.heap.size ≤ w'.heap.size) (hoth : ∀ b, b ≠ B → w'.heap[b]? = w.heap[b]?) (h0 : w.heap[B]? = some (.cells cur T (0, 0))) (h1 : w'.heap[B]? = some (.cells ⟨vs'⟩ T (0, 0)))
    (hlen : cs'.length ≤ vs'.length) (hcur : vs'.length = cur.size) (hcells : ∀ (i : Nat) (c : Cell), cs'[i]? = some c → ∃ v, vs'[i]? = some v ∧ v.oneCell' = true ∧ CellRel ι j own w' (.ocell id i) c v) :
    GSim ι j own { σ with objs := aset σ.objs id cs' } w' ∧ Evo ι j own w ι j own w' (fun t => t = .obj id) := by
  have hE : Evo ι j own w ι j own w' (fun t => t = .obj id) := ⟨hos, htape, hout, hsize, fun _ _ _ h => h, fun _ _ h => h, fun b _ hb => ⟨hoth b (fun e => hb _ (e ▸ hown) rfl), rfl, fun _ => rfl⟩⟩
  refine ⟨⟨fun b o v h => ?_, hG.noimm, fun id' cs2 h => ?_, fun id' t cs2 k1 k2 b hb => ?_, fun id' x h => ?_, hG.jlt, fun b t h => Nat.lt_of_lt_of_le (hG.ownlt b t h) hsize⟩, hE⟩
  · have hne : b ≠ B := fun e => by
      rw [e, hG.noimm B _ hown rfl o] at h
      cases h
    rw [World.cell?_of_block (w := w) (w' := w') (a := ⟨b, o, none⟩) (hoth b hne)]
    exact hG.holds b o v h
  · simp only [aget_aset] at h
    by_cases hid : id = id'
    · subst hid
      rw [if_pos rfl] at h
      cases h
      exact ⟨B, hB, hown, vs', T, h1, by omega, hcells⟩
    · rw [if_neg hid] at h
      obtain ⟨B2, q1, q2, q3⟩ := hG.objs id' cs2 h
      exact ⟨B2, q1, q2, hE.boxRel q2 (fun h => by cases h; exact hid rfl) (fun _ _ _ _ h => by cases h) q3⟩
  · have hex : ∃ cs0, aget σ.objs id' = some cs0 := by
      simp only [aget_aset] at k2
      split at k2
      · rename_i hh; subst hh; exact ⟨cs, hcs⟩
      · exact ⟨cs2, k2⟩
    obtain ⟨cs0, hcs0⟩ := hex
    have hty := hG.tys id' t cs0 k1 hcs0 b hb
    by_cases hbB : b = B
    · subst hbB
      obtain ⟨row, hrow, hsz⟩ := hty
      have hrc := hrow
      rw [h0] at hrc
      cases hrc
      refine ⟨_, h1, fun hp => ?_⟩
      obtain ⟨c, e1, e2, e3⟩ := hsz hp
      exact ⟨c, e1, by rw [← e2, ← hcur]; rfl, e3⟩
    · exact hty.keep (hoth b hbB) (fun _ _ h => h)
  · obtain ⟨B2, q1, q2, q3⟩ := hG.oth id' x h
    have hbB : B2 ≠ B := fun e => by
      subst e
      exact q3.notCells h0
    exact ⟨B2, q1, q2, q3.keep (hoth B2 hbB) (fun _ _ _ h => h) (fun _ _ h => h)⟩
end
end Go.Mx

/-
  A deferred function that asks recover first, and goes on as the machine's code.
-/
namespace Go.Mx
open Go
theorem Evo.toShared {ι0 ι : Imm} {j0 j : Lay} {own0 own : Own} {w0 w : World} (hE : Evo ι0 j0 own0 w0 ι j own w (fun _ => True)) : Evo ι0 j0 own0 w0 ι j (shared own) w (fun _ => True) := by
  refine ⟨hE.os, hE.tape, hE.output, hE.size, hE.imm, hE.lay, fun b hb ht => ?_⟩
  have hn : own0 b = none := by
    cases h : own0 b with
    | none => rfl
    | some t => exact absurd trivial (ht t h)
  obtain ⟨k1, k2, k3⟩ := hE.block b hb ht
  refine ⟨k1, ?_, k3⟩
  unfold shared
  rw [k2, hn]
/-- The code behind the question, with what it answered on two slots. -/
def recEnv (ds : List D) (s0 s1 : Nat) (m : Option D) : Env := ((initEnv ds).put (some s0) ⟨false, m.getD .niliface⟩).put (some s1) ⟨false, m.getD .niliface⟩
def recRun (C : CallF) (n : Nat) (body : ACode) (nargs s0 s1 : Nat) (ds : List D) (m : Option D) (σ : Store) : Option (Option D × Store) :=
  ifB (ds.length == nargs) (match exec C n body (recEnv ds s0 s1 m) σ with
    | some (.normal, e, σ') => ifB e.defers.isEmpty (some (none, σ')) none
    | some (.ret, e, σ') => ifB e.defers.isEmpty (some (none, σ')) none
    | _ => none) none
theorem rec_sound {P : Program} {κ : Ctx} {C : CallF} (hC : CSound P κ C) {n : Nat} {f : FuncId} {fn : Func} {id : Nat} {o0 o1 : Oper} {rest : Code} {rest' : ACode} {nargs s0 s1 : Nat} (hf : P.funcs[f]? = some fn) (hname : (fn.name == "runtime.NumGoroutine") = false)
    (hb : fn.body = some (.seq (.region id #[o0, o1] false) rest)) (h0 : o0.op = .call { callee := .builtin .recover, args := #[], argTypes := #[] }) (g0 : o0.guard = none) (d0 : o0.dst = some s0)
    (h1 : o1.op = .assign (.tmp s0)) (g1 : o1.guard = none) (d1 : o1.dst = some s1) (l0 : s0 < fn.ntmps) (l1 : s1 < fn.ntmps) (hres : fn.results = #[]) (hN : nargs ≤ fn.ntmps) (hok : okCode P fn.ntmps rest rest' = true)
    {ds : List D} {m m' : Option D} {σ σ' : Store} (h : recRun C n rest' nargs s0 s1 ds m σ = some (m', σ')) : HasBody P f ∧ ∀ ι j own w vs u, Shared own → Base κ own w → GSim ι j own σ w → RepL ι j ds vs → ModeRel ι j m u →
      CallsD P f ⟨vs⟩ u w fun e u' w' => ∃ v ι' j' own', e = .returned v ∧ GSim ι' j' own' σ' w' ∧ Evo ι j own w ι' j' own' w' (fun _ => True) ∧ Shared own' ∧ ModeRel ι' j' m' (settle u') := by
  refine ⟨⟨fn, _, hf, hname, hb⟩, fun ι j own w vs u hS hB hG hr hm => ?_⟩
  unfold recRun at h
  obtain ⟨hlen, h⟩ := ifB_some h
  have hlen : ds.length = nargs := by simpa using hlen
  cases hx : exec C n rest' (recEnv ds s0 s1 m) σ with
  | none => rw [hx] at h; cases h
  | some r =>
    rw [hx] at h
    obtain ⟨x, e1, σ1⟩ := r
    have hL := init_sim (N := fn.ntmps) hG hr (by omega)
    -- what recover answers
    have go : ∀ (vv : Value) (c₀ : Frame) (cs cs' : List Frame) (u' : FrameMode), Rep ι j (m.getD .niliface) vv → cs' = { c₀ with mode := u' } :: cs → settle u' = .returning →
        rest.wpS P (bodyPostS P fn c₀ cs fun e u' w' => ∃ v ι' j' own', e = .returned v ∧ GSim ι' j' own' σ' w' ∧ Evo ι j own w ι' j' own' w' (fun _ => True) ∧ Shared own' ∧ ModeRel ι' j' m' (settle u'))
          (((({ tmps := (⟨vs⟩ : Array Value) ++ Array.replicate (fn.ntmps - vs.length) undef, defers := [] } : Go.Act).put (some s0) vv)).put (some s1) vv) cs' w := by
      rintro vv c₀ cs cs' u' hv rfl hset
      have hL1 := (hL.putC l0 (c := ⟨false, m.getD .niliface⟩) (x := vv) ⟨hv, fun h => by cases h⟩).putC l1 (c := ⟨false, m.getD .niliface⟩) (x := vv) ⟨hv, fun h => by cases h⟩
      refine wpS_of_wp (exec_sound (own0 := own) (w0 := w) hC hB n rest' rest hok hx ⟨ι, j, own, _, hG, hL1, Evo.refl _ _ _ _ _⟩ ?_)
      have last : ∀ a1 w1, e1.defers = [] → σ1 = σ' → m' = none → St ι j own w fn.ntmps e1 σ1 a1 w1 → a1.defers = [] ∧ ∃ u'', ({ c₀ with mode := u' } :: cs : List Frame) = { c₀ with mode := u'' } :: cs ∧ ∃ v, (results fn a1.tmps).run P w1 = .ok v w1 ∧
          ∃ v' ι' j' own', (Ending.returned v) = .returned v' ∧ GSim ι' j' own' σ' w1 ∧ Evo ι j own w ι' j' own' w1 (fun _ => True) ∧ Shared own' ∧ ModeRel ι' j' m' (settle u'') := by
        rintro a1 w1 hd rfl rfl ⟨ι', j', own', lb', k1, k2, k3⟩
        have hdd := k2.defers
        rw [hd] at hdd
        simp only [DefRel] at hdd
        refine ⟨hdd, u', rfl, .tuple #[], ?_, _, ι', j', shared own', rfl, k1.toShared, k3.toShared, shared_shared own', by simp only [ModeRel]; exact hset⟩
        rw [results_eq, hres]
        simp
      cases x with
      | normal =>
        simp only at h
        obtain ⟨hd, h⟩ := ifB_some h
        cases h
        exact fun a1 w1 hs => last a1 w1 (by simpa using hd) rfl rfl hs
      | ret =>
        simp only at h
        obtain ⟨hd, h⟩ := ifB_some h
        cases h
        exact fun a1 w1 hs => last a1 w1 (by simpa using hd) rfl rfl hs
      | exit id => cases h
      | panic d => cases h
    refine callsD_of_wpS hf hb fun c₀ cs hu => ?_
    apply wpS_seq
    apply wpS_region
    have hsz : (#[o0, o1] : Array Oper).size = 2 := rfl
    have hrange : List.range (#[o0, o1] : Array Oper).size = [0, 1] := rfl
    have hex0 : ∀ a : Go.Act, (execOp a.eval o0).run P w = .ok .recover w := fun a => by
      simp only [execOp, h0]
      rfl
    have w0' : ∀ t : Array Value, Region.wanted o0 (yielded #[o0, o1] t) = true := fun t => by simp [Region.wanted, g0]
    have w1' : ∀ t : Array Value, Region.wanted o1 (yielded #[o0, o1] t) = true := fun t => by simp [Region.wanted, g1]
    have hex1 : ∀ (a : Go.Act) (vv : Value), s0 < a.tmps.size → (execOp (a.put (some s0) vv).eval o1).run P w = .ok (.value vv) w := fun a vv hlt => by
      have : (a.put (some s0) vv).eval (.tmp s0) = vv := getD_put_same hlt
      simp only [execOp, h1, this]
      rfl
    have hlt : s0 < ((⟨vs⟩ : Array Value) ++ Array.replicate (fn.ntmps - vs.length) undef).size := by
      have := hr.length
      simp
      omega
    rw [hrange]
    cases m with
    | none =>
      simp only [ModeRel] at hm
      subst hm
      have hrd : recoverD (c₀ :: cs) = none := by simp [recoverD, hu]
      have hc0 : ({ c₀ with mode := .returning } : Frame) = c₀ := by rw [← hu]
      simp only [wpOpsS, List.getElem?_toArray, List.getElem?_cons_zero, List.getElem?_cons_succ, w0', if_true, hex0, hrd, w1']
      rw [d0, hex1 _ _ hlt]
      simp only [Oper.upon, d1, Exit.thenS]
      exact go .nilIface c₀ cs (c₀ :: cs) .returning (by simp [Rep]) (by rw [hc0]) rfl
    | some d =>
      obtain ⟨v, rfl, hv⟩ := hm
      have hrd : recoverD (c₀ :: cs) = some (v, { c₀ with mode := .panicking [{ v := v, recovered := true }] } :: cs) := by simp [recoverD, hu]
      simp only [wpOpsS, List.getElem?_toArray, List.getElem?_cons_zero, List.getElem?_cons_succ, w0', if_true, hex0, hrd, w1']
      rw [d0, hex1 _ _ hlt]
      simp only [Oper.upon, d1, Exit.thenS]
      exact go v c₀ cs _ _ hv rfl rfl
end Go.Mx


/-
  The operations that yield a value: what comes of them, marks and all.
-/
import Derived.Test.YtdoppkjoemlhjaaDoorMxAppend
set_option linter.unusedSimpArgs false
set_option linter.unusedVariables false
namespace Go.Mx
open Go
section
variable {P : Program} {ι : Imm} {j : Lay} {own : Own} {lb : Lay} {N : Nat} {e : Env} {a : Go.Act} {w : World} {σ : Store}

theorem loadL_load {k : Option Nat} {mv : Bool} {x : AOpd} {v : Val} (h : evalV (.loadL k mv x) e σ = some v) : evalV (.load k mv x) e σ = some v := by
  simp only [evalV] at h ⊢
  obtain ⟨p, hp, h⟩ := bindO_some h
  rw [hp]
  simp only [bindO, caseO_some]
  cases p with
  | loc b off => exact h
  | ptr id off => cases h
  | eptr d => exact h
theorem sliceB_eq {t : TypeId} {sz : Nat} (h : (match elemB P t with | some e => sizeB P e == some sz | none => false) = true) : ∃ el, elemB P t = some el ∧ sizeB P el = some sz := by
  cases he : elemB P t with
  | none => rw [he] at h; cases h
  | some el => rw [he] at h; exact ⟨el, rfl, by simpa using h⟩
theorem eqlB_of {op : BinOp} {b : Bool} {d : D} (h : eqlB op b = some d) {P : Program} {w : World} {t : TypeId} {x y : Value} (hi : ∀ k m, x ≠ .int k m) (hf : ∀ k m, x ≠ .float k m) (hc : ∀ k m n, x ≠ .complex k m n) (hs : ∀ m, x ≠ .string m) (he : (Op.equal t x y).run P w = .ok b w) :
    ∃ r, d = .bool r ∧ (binOp op t x y).run P w = .ok (.bool r) w := by
  cases op <;> simp only [eqlB, reduceCtorEq, Option.some.injEq] at h <;> subst h
  · refine ⟨b, rfl, ?_⟩
    cases x <;> first
      | exact absurd rfl (hi _ _)
      | exact absurd rfl (hf _ _)
      | exact absurd rfl (hc _ _ _)
      | exact absurd rfl (hs _)
      | simp [binOp, he]
  · refine ⟨!b, rfl, ?_⟩
    cases x <;> first
      | exact absurd rfl (hi _ _)
      | exact absurd rfl (hf _ _)
      | exact absurd rfl (hc _ _ _)
      | exact absurd rfl (hs _)
      | simp [binOp, he]
theorem eqGuard_nil (op : BinOp) (t : TypeId) (x : Operand) (z v : Value) (hz : z = .nilIface ∨ z = .pointer none) : (eqGuard op t x (.const z) v z).run P w = .ok () w := by
  unfold eqGuard
  rcases hz with rfl | rfl <;> cases op <;> simp <;> cases v <;> simp
theorem run_equal_iface {t : TypeId} {ms : Array (String × TypeId)} (ht : P.underlying t = some (.interface ms)) (tt : TypeId) (vv : Value) : (Op.equal t (.iface tt vv) .nilIface).run P w = .ok false w := by
  show (Op.equalIn (9999 + 1) t (.iface tt vv) .nilIface).run P w = _
  rw [Op.equalIn]
  simp only [Sem.run_bind, run_underlying ht, Result.andThen_ok]
  rfl
theorem run_equal_nilI {t : TypeId} {ms : Array (String × TypeId)} (ht : P.underlying t = some (.interface ms)) : (Op.equal t .nilIface .nilIface).run P w = .ok true w := by
  show (Op.equalIn (9999 + 1) t .nilIface .nilIface).run P w = _
  rw [Op.equalIn]
  simp only [Sem.run_bind, run_underlying ht, Result.andThen_ok]
  rfl
theorem run_equal_ptr {t el : TypeId} (ht : P.underlying t = some (.pointer el)) (ad : Option Addr) : (Op.equal t (.pointer ad) (.pointer none)).run P w = .ok ad.isNone w := by
  show (Op.equalIn (9999 + 1) t (.pointer ad) (.pointer none)).run P w = _
  rw [Op.equalIn]
  simp only [Sem.run_bind, run_underlying ht, Result.andThen_ok]
  cases ad <;> rfl
theorem val_isNil (hL : LSim ι j own lb N e a w) {o : Oper} {op : BinOp} {t u : TypeId} {x : Operand} {y : AOpd} (ho : o.op = .binOp op t x (.const .nilIface) u) (hk : okOpd x y = true) (ht : ifaceB P t = some true) {v : Val}
    (h : evalV (.isNil op y) e σ = some v) : ∃ u, (execOp a.eval o).run P w = .ok (.value u) w ∧ ValRel ι j lb v u := by
  have ht : ∃ ms, P.underlying t = some (.interface ms) := by
    unfold ifaceB at ht
    split at ht
    · rename_i ms hm; exact ⟨ms, hm⟩
    · simp at ht
    · cases ht
  obtain ⟨ms, ht⟩ := ht
  simp only [evalV] at h
  obtain ⟨c, h1, h⟩ := bindO_some h
  obtain ⟨b, h2, h⟩ := bindO_some h
  obtain ⟨d, h3, h⟩ := bindO_some h
  cases h
  have hr := opd_rel hL hk h1
  have hz : a.eval (.const .nilIface) = .nilIface := rfl
  have key : ∀ xv, a.eval x = xv → (Op.equal t xv .nilIface).run P w = .ok b w → (xv = .nilIface ∨ ∃ tt vv, xv = .iface tt vv) → ∃ u, (execOp a.eval o).run P w = .ok (.value u) w ∧ ValRel ι j lb (.c ⟨false, d⟩) u := by
    intro xv hx he hform
    obtain ⟨r, rfl, hb⟩ := eqlB_of (t := t) (x := xv) (y := .nilIface) h3 (by rcases hform with rfl | ⟨_, _, rfl⟩ <;> simp) (by rcases hform with rfl | ⟨_, _, rfl⟩ <;> simp) (by rcases hform with rfl | ⟨_, _, rfl⟩ <;> simp) (by rcases hform with rfl | ⟨_, _, rfl⟩ <;> simp) he
    refine ⟨.bool r, ?_, by simp only [ValRel, Rep]⟩
    simp only [execOp, ho, hz, hx, Sem.run_bind, eqGuard_nil op t x .nilIface xv (.inl rfl), Result.andThen_ok, hb, Sem.run_pure]
  cases hd : c.d <;> rw [hd] at h2 hr <;> simp only [D.isNil?, reduceCtorEq, Option.some.injEq] at h2 <;> subst h2 <;> simp only [Rep] at hr
  · obtain ⟨xv, hx, _⟩ := hr
    exact key _ hx (run_equal_iface ht _ _) (.inr ⟨_, _, rfl⟩)
  · exact key _ hr (run_equal_nilI ht) (.inl rfl)
theorem val_isNilP (hL : LSim ι j own lb N e a w) {o : Oper} {op : BinOp} {t u : TypeId} {x : Operand} {y : AOpd} (ho : o.op = .binOp op t x (.const (.pointer none)) u) (hk : okOpd x y = true) (ht : ptrB P t = true) {v : Val}
    (h : evalV (.isNilP op y) e σ = some v) : ∃ u, (execOp a.eval o).run P w = .ok (.value u) w ∧ ValRel ι j lb v u := by
  have ht : ∃ el, P.underlying t = some (.pointer el) := by
    unfold ptrB at ht
    split at ht
    · rename_i ms hm; exact ⟨ms, hm⟩
    · cases ht
  obtain ⟨el, ht⟩ := ht
  simp only [evalV] at h
  obtain ⟨c, h1, h⟩ := bindO_some h
  obtain ⟨b, h2, h⟩ := bindO_some h
  obtain ⟨d, h3, h⟩ := bindO_some h
  cases h
  have hr := opd_rel hL hk h1
  have hz : a.eval (.const (.pointer none)) = .pointer none := rfl
  have key : ∀ ad, a.eval x = .pointer ad → (Op.equal t (.pointer ad) (.pointer none)).run P w = .ok b w → ∃ u, (execOp a.eval o).run P w = .ok (.value u) w ∧ ValRel ι j lb (.c ⟨false, d⟩) u := by
    intro ad hx he
    obtain ⟨r, rfl, hb⟩ := eqlB_of (t := t) (x := .pointer ad) (y := .pointer none) h3 (by simp) (by simp) (by simp) (by simp) he
    refine ⟨.bool r, ?_, by simp only [ValRel, Rep]⟩
    simp only [execOp, ho, hz, hx, Sem.run_bind, eqGuard_nil op t x (.pointer none) (.pointer ad) (.inr rfl), Result.andThen_ok, hb, Sem.run_pure]
  cases hd : c.d <;> rw [hd] at h2 hr <;> simp only [D.isNilP?, reduceCtorEq, Option.some.injEq] at h2 <;> subst h2 <;> simp only [Rep] at hr
  · exact key _ hr (run_equal_ptr ht _)
  · obtain ⟨b', _, hx⟩ := hr
    exact key _ hx (run_equal_ptr ht _)
  · obtain ⟨b', o', xv, hx, _⟩ := hr
    exact key _ hx (run_equal_ptr ht _)
theorem val_assertT (hL : LSim ι j own lb N e a w) {o : Oper} {t u : TypeId} {x : Operand} {y : AOpd} {z : D} {zv : Value} (ho : o.op = .typeAssert x u t true) (hk : okOpd x y = true) (ht : ifaceB P t = some false) (hz : (P.info? t).bind (·.zero) = some zv) (hzr : okConst z zv = true) {v : Val}
    (h : evalV (.assertT t z y) e σ = some v) : ∃ u, (execOp a.eval o).run P w = .ok (.value u) w ∧ ValRel ι j lb v u := by
  have ht : ∃ d, P.underlying t = some d ∧ ∀ m, d ≠ .interface m := by
    cases hd : P.underlying t with
    | none => unfold ifaceB at ht; rw [hd] at ht; cases ht
    | some d =>
      refine ⟨d, rfl, fun m e => ?_⟩
      subst e
      unfold ifaceB at ht
      rw [hd] at ht
      simp at ht
  obtain ⟨td, hu, hni⟩ := ht
  have hzv : (zeroValue t).run P w = .ok zv w := by
    obtain ⟨i, hi, hz⟩ := Option.bind_eq_some_iff.1 hz
    simp [zeroValue, typeInfo, hi, hz]
  simp only [evalV] at h
  obtain ⟨c, h1, h⟩ := bindO_some h
  obtain ⟨d, h2, h⟩ := bindO_some h
  cases h
  have hr := opd_rel hL hk h1
  have hzrep := okConst_rep (ι := ι) (j := j) z zv hzr
  have fin : ∀ xv r, a.eval x = xv → (Instr.typeAssert xv u t true).run P w = .ok r w → Rep ι j d r → ∃ u, (execOp a.eval o).run P w = .ok (.value u) w ∧ ValRel ι j lb (.c ⟨false, d⟩) u := by
    intro xv r hx hrun hrep
    exact ⟨r, by simp only [execOp, ho, hx, Sem.run_bind, hrun, Result.andThen_ok, Sem.run_pure], hrep⟩
  cases hd : c.d with
  | iface t' dd =>
    rw [hd] at h2 hr
    simp only [assertD, Option.some.injEq] at h2
    subst h2
    simp only [Rep] at hr
    obtain ⟨xv, hx, hxr⟩ := hr
    by_cases htt : t' = t
    · subst htt
      refine fin _ (.tuple #[xv, .bool true]) hx ?_ ?_
      · simp only [Instr.typeAssert, Sem.run_bind, run_underlying hu, Result.andThen_ok]
        cases td <;> first | exact absurd rfl (hni _) | rfl | simp
      · simp [Rep, RepL, ifB, hxr]
    · have hb : (t' == t) = false := by simpa using htt
      refine fin _ (.tuple #[zv, .bool false]) hx ?_ ?_
      · simp only [Instr.typeAssert, Sem.run_bind, run_underlying hu, Result.andThen_ok]
        cases td <;> first | exact absurd rfl (hni _) | (simp [htt, hzv])
      · simp [Rep, RepL, ifB, hb, hzrep]
  | niliface =>
    rw [hd] at h2 hr
    simp only [assertD, Option.some.injEq] at h2
    subst h2
    simp only [Rep] at hr
    refine fin _ (.tuple #[zv, .bool false]) hr ?_ ?_
    · simp only [Instr.typeAssert, Sem.run_bind, run_underlying hu, Result.andThen_ok]
      cases td <;> first | exact absurd rfl (hni _) | (simp [hzv])
    · simp [Rep, RepL, hzrep]
  | _ => rw [hd] at h2; simp [assertD] at h2
theorem evalV_sound (hG : GSim ι j own σ w) (hL : LSim ι j own lb N e a w) {o : Oper} {o' : AOp} (hk : okV P o.op o' = true) {v : Val} (h : evalV o' e σ = some v) :
    ∃ u, (execOp a.eval o).run P w = .ok (.value u) w ∧ ValRel ι j lb v u := by
  generalize ho : o.op = op at hk
  unfold okV at hk
  split at hk <;> try simp only [Bool.and_eq_true, beq_iff_eq, Bool.false_eq_true] at hk
  · exact val_move hL (.inl ho) hk h
  · exact val_move hL (.inr ho) hk h
  · exact val_pick hL ho hk.1.1 hk.1.2 hk.2 h
  · split at hk
    · rename_i h1 h2
      simp only [Bool.and_eq_true] at hk
      exact val_build hL ho h1 hk.1.1 h2 hk.2 hk.1.2 h
    · cases hk
  · exact val_load hG hL ho hk.1 hk.2 h
  · exact val_load hG hL ho hk.1 hk.2 (loadL_load h)
  · exact val_nilCheck hL ho hk h
  · have := of_decide_eq_true hk.1.1
    subst this
    exact val_bin hL ho hk.1.2 hk.2 h
  · have := of_decide_eq_true hk.1.1.1
    subst this
    exact val_binB hL ho hk.1.1.2 hk.1.2 hk.2 h
  · have := of_decide_eq_true hk.1.1
    subst this
    exact val_isNil hL ho hk.1.2 hk.2 h
  · have := of_decide_eq_true hk.1.1
    subst this
    exact val_isNilP hL ho hk.1.2 hk.2 h
  · obtain ⟨⟨⟨rfl, h1⟩, h2⟩, h3⟩ := hk
    split at h3
    · rename_i zv hzv
      exact val_assertT hL ho h1 h2 hzv h3 h
    · cases h3
  · have := of_decide_eq_true hk.1
    subst this
    exact val_un hL ho hk.2 h
  · exact val_toInt hL ho hk.1.1 hk.2 hk.1.2 h
  · exact val_toStr hL ho hk.1.1 hk.2 hk.1.2 h
  · obtain ⟨⟨h1, h2⟩, h3⟩ := hk
    split at h3
    · rename_i el hel
      have hi : P.underlying el = some (.int .u8) := by
        unfold intB at h3
        split at h3
        · rename_i k hk
          have : k = .u8 := by simpa using h3
          rw [hk, this]
        · simp at h3
      exact val_bytesToStr hG hL ho h1 (elemB_eq hel) hi (strB_eq h2) h
    · cases h3
  · obtain ⟨⟨rfl, h1⟩, h2⟩ := hk
    exact val_mkIface hL ho h1 h2 h
  · rename_i f as bs f' as' bs'
    cases f with
    | func g =>
      cases f' with
      | func g' =>
        have := hk.1.1
        simp only [sameFn, beq_iff_eq] at this
        subst this
        exact val_mkFunc hL ho hk.1.2 hk.2 h
      | _ => have := hk.1.1; simp [sameFn] at this
    | _ => have := hk.1.1; cases f' <;> simp [sameFn] at this
  · obtain ⟨el, h1, h2⟩ := sliceB_eq hk.2
    exact val_slice hL ho hk.1.1.1 hk.1.1.2 hk.1.2 (elemB_eq h1) h2 h
  · exact val_sliceS hL ho hk.1.1.1 hk.1.1.2 hk.1.2 (strB_eq hk.2) h
  · obtain ⟨h1, h2⟩ := hk
    split at h2
    · rename_i hf
      split at h2
      · rename_i hi
        simp only [Bool.and_eq_true, beq_iff_eq, bne_iff_ne, ne_eq] at h2
        exact val_fieldAddr hL ho h1 hf hi h2.1.1 h2.1.2 h2.2 h
      · cases h2
    · cases h2
  · obtain ⟨h1, h2⟩ := hk
    split at h2
    · rename_i hf
      split at h2
      · rename_i hi
        simp only [Bool.and_eq_true, beq_iff_eq] at h2
        exact val_field hL ho h1 hf hi h2.1 h2.2 h
      · cases h2
    · cases h2
  · obtain ⟨el, h1, h2⟩ := sliceB_eq hk.2
    exact val_indexAddr hL ho hk.1.1 hk.1.2 (elemB_eq h1) h2 h
  · exact val_index hL ho hk.1.1 hk.1.2 hk.2 h
  · obtain ⟨h1, rfl⟩ := hk
    exact val_extract hL ho h1 h
  · exact val_len hL ho hk.1 hk.2 h
  · exact val_lenS hL ho hk.1 hk.2 h

def Val.owns : Val → Bool
  | .c x => x.own
  | .l _ _ => false
/-- Operations that yield a value and touch no mark. -/
def plainV : AOp → Bool
  | .mov _ => false
  | .load _ mv _ => !mv
  | .loadL _ mv _ => !mv
  | _ => true
theorem plain_own : ∀ (o' : AOp) {v : Val}, plainV o' = true → evalV o' e σ = some v → v.owns = false ∧ dropOwn o' e = e ∧ dropOwnS o' e σ = σ := by
  intro o' v hp h
  refine ⟨?_, ?_⟩
  · cases o' <;> simp only [plainV, Bool.false_eq_true, Bool.not_eq_true'] at hp <;> simp only [evalV, bindO, caseO, ifB, hp, Bool.false_and, reduceCtorEq] at h <;>
      (repeat' split at h) <;> first | (cases h; rfl) | cases h
  · cases o' <;> simp only [plainV, Bool.false_eq_true, Bool.not_eq_true'] at hp <;> first | exact ⟨rfl, rfl⟩ | (subst hp; exact ⟨rfl, rfl⟩)
theorem LSim.putVal (hL : LSim ι j own lb N e a w) {d : Option Nat} (hd : ∀ s, d = some s → s < N) {v : Val} {u : Value} (hv : ValRel ι j lb v u) (ho : v.owns = false) : LSim ι j own lb N (e.putV d v) (a.put d u) w := by
  cases d with
  | none => cases v <;> exact hL
  | some s =>
    cases v with
    | c c =>
      have ho : c.own = false := ho
      exact hL.putC (hd s rfl) ⟨hv, fun h => by rw [ho] at h; cases h⟩
    | l b off =>
      obtain ⟨B, hB, rfl⟩ := hv
      exact hL.putL (hd s rfl) hB
theorem step_plain (hG : GSim ι j own σ w) (hL : LSim ι j own lb N e a w) {o : Oper} {o' : AOp} (hk : okV P o.op o' = true) (hd : ∀ s, o.dst = some s → s < N) (hp : plainV o' = true) {v : Val} (h : evalV o' e σ = some v) :
    Did P N ι j own w o a ((dropOwn o' e).putV o.dst v) (dropOwnS o' e σ) := by
  obtain ⟨u, hrun, hv⟩ := evalV_sound hG hL hk h
  obtain ⟨h1, h2, h3⟩ := plain_own o' hp h
  rw [h2, h3]
  exact ⟨_, w, _, hrun, .inl ⟨u, rfl, rfl⟩, ι, j, own, lb, hG, hL.putVal hd hv h1, Evo.refl _ _ _ _ _⟩
theorem step_mov (hG : GSim ι j own σ w) (hL : LSim ι j own lb N e a w) {o : Oper} {y : AOpd} (hk : okV P o.op (.mov y) = true) (hd : ∀ s, o.dst = some s → s < N) {v : Val} (h : evalV (.mov y) e σ = some v) :
    Did P N ι j own w o a ((y.drop e).putV o.dst v) σ := by
  obtain ⟨u, hrun, hv⟩ := evalV_sound hG hL hk h
  simp only [evalV] at h
  obtain ⟨c, h1, h⟩ := bindO_some h
  cases h
  cases how : c.own with
  | false => exact ⟨_, w, _, hrun, .inl ⟨u, rfl, rfl⟩, ι, j, own, lb, hG, (hL.drop y).putVal hd hv how, Evo.refl _ _ _ _ _⟩
  | true =>
    have hu : ∃ x, okOpd x y = true ∧ u = a.eval x := by
      generalize ho : o.op = op at hk
      cases op <;> first
        | (rename_i x; refine ⟨x, hk, ?_⟩; simp only [execOp, ho, Sem.run_pure] at hrun; cases hrun; rfl)
        | (simp [okV] at hk)
    obtain ⟨x, hx, rfl⟩ := hu
    cases hds : o.dst with
    | none => exact ⟨_, w, _, hrun, .inl ⟨_, rfl, rfl⟩, ι, j, own, lb, hG, by rw [hds]; exact hL.drop y, Evo.refl _ _ _ _ _⟩
    | some s =>
      obtain ⟨own', k1, k2, k3, k4⟩ := moveMark hG hL hx h1 (t' := .slot s) rfl
      exact ⟨_, w, _, hrun, .inl ⟨_, rfl, rfl⟩, ι, j, own', lb, k1, by rw [hds]; exact putOver (hd s hds) (k2.forget s) ⟨hv, fun h => k3 h⟩, k4⟩

theorem unownAt_at : ∀ (cs : List Cell) (o : Nat), (unownAt cs o).length = cs.length ∧ ∀ (i : Nat) (c : Cell), (unownAt cs o)[i]? = some c → ∃ c0, cs[i]? = some c0 ∧ c0.d = c.d ∧ (c.own = true → c0.own = true ∧ i ≠ o)
  | [], o => by
    refine ⟨by cases o <;> rfl, fun i c h => ?_⟩
    cases o <;> simp [unownAt] at h
  | c0 :: cs, 0 => by
    refine ⟨by simp [unownAt], fun i c h => ?_⟩
    cases i with
    | zero =>
      simp [unownAt] at h
      subst h
      exact ⟨c0, rfl, rfl, fun h => by cases h⟩
    | succ i =>
      simp [unownAt] at h
      exact ⟨c, by simpa using h, rfl, fun h => ⟨h, by omega⟩⟩
  | c0 :: cs, o + 1 => by
    obtain ⟨h1, h2⟩ := unownAt_at cs o
    refine ⟨by simp [unownAt, h1], fun i c h => ?_⟩
    cases i with
    | zero =>
      simp [unownAt] at h
      subst h
      exact ⟨c0, rfl, rfl, fun h => ⟨h, by omega⟩⟩
    | succ i =>
      simp [unownAt] at h
      obtain ⟨c1, k1, k2, k3⟩ := h2 i c h
      exact ⟨c1, by simpa using k1, k2, fun h => ⟨(k3 h).1, by have := (k3 h).2; omega⟩⟩
theorem unownAt_weaker (cs : List Cell) (o : Nat) : Weaker (unownAt cs o) cs :=
  ⟨(unownAt_at cs o).1, fun i c h => by
    obtain ⟨c0, k1, k2, k3⟩ := (unownAt_at cs o).2 i c h
    exact ⟨c0, k1, k2, fun h => (k3 h).1⟩⟩
theorem GSim.sub {σ' : Store} (hG : GSim ι j own σ w) (h1 : ∀ id cs, aget σ'.objs id = some cs → ∃ cs0, aget σ.objs id = some cs0 ∧ Weaker cs cs0) (h2 : σ.next ≤ σ'.next) (h3 : ∀ id t, aget σ'.tys id = some t → aget σ.tys id = some t) (h4 : ∀ id x, aget σ'.iters id = some x → aget σ.iters id = some x) : GSim ι j own σ' w where
  holds := hG.holds
  noimm := hG.noimm
  objs := fun id cs h => by
    obtain ⟨cs0, k1, k2⟩ := h1 id cs h
    obtain ⟨b, q1, q2, q3⟩ := hG.objs id cs0 k1
    exact ⟨b, q1, q2, q3.weaken k2⟩
  tys := fun id t cs k1 k2 b hb => by
    obtain ⟨cs0, q1, _⟩ := h1 id cs k2
    exact hG.tys id t cs0 (h3 id t k1) q1 b hb
  iters := fun id s pos k => hG.iters id s pos (h4 id _ k)
  jlt := fun id b h => Nat.lt_of_lt_of_le (hG.jlt id b h) h2
  ownlt := hG.ownlt
/-- A load that takes the mark along. -/
theorem step_loadMv (hG : GSim ι j own σ w) (hL : LSim ι j own lb N e a w) {o : Oper} {t : TypeId} {x : Operand} {y : AOpd} {k : Option Nat} (ho : o.op = .load t x) (hk : okOpd x y = true) (hk1 : okK P t k = true) (hd : ∀ s, o.dst = some s → s < N) {v : Val}
    (h : evalV (.load k true y) e σ = some v) : Did P N ι j own w o a ((dropOwn (.load k true y) e).putV o.dst v) (dropOwnS (.load k true y) e σ) := by
  have fin : ∀ {b off : Nat} {u : Value}, a.eval x = .pointer (some ⟨b, off, none⟩) → (loadVar t ⟨b, off, none⟩).run P w = .ok u w → (execOp a.eval o).run P w = .ok (.value u) w := by
    intro b off u h1 h2
    simp only [execOp, ho, h1, Instr.loadAt, Instr.sureAddr, Sem.run_bind, Sem.run_pure, Result.andThen_ok, h2]
  have hval := val_load hG hL ho hk hk1 h
  simp only [evalV] at h
  obtain ⟨p, hp, h⟩ := bindO_some h
  have hr := addr_rel hL hk hp
  cases p with
  | loc b off =>
    obtain ⟨B, hB, hx⟩ := hr
    obtain ⟨cs, h1, h⟩ := bindO_some h
    obtain ⟨c, h2, h⟩ := bindO_some h
    cases h
    obtain ⟨B', hB', hown, hbox⟩ := hL.boxes b cs h1
    rw [hB] at hB'
    cases hB'
    obtain ⟨u, hu, hru, q1, q2⟩ := readCells_rel hbox hk1 h2
    have hdr : dropOwn (.load k true y) e = { e with boxes := aset e.boxes b (unownAt cs off) } := by
      simp only [dropOwn, hp, caseO_some, h1]
    have hdrS : dropOwnS (.load k true y) e σ = σ := by simp only [dropOwnS, hp, caseO_some]
    rw [hdr, hdrS]
    have hL0 : LSim ι j own lb N { e with boxes := aset e.boxes b (unownAt cs off) } a w :=
      hL.sub (fun s c h => ⟨c, h, rfl, fun h => h⟩) (fun _ _ h => h) (fun s cs' h => by
        simp only [aget_aset] at h
        split at h
        · rename_i hs; subst hs; cases h; exact ⟨cs, h1, unownAt_weaker cs off⟩
        · exact ⟨cs', h, Weaker.refl cs'⟩) rfl
    cases how : c.own with
    | false => exact ⟨_, w, _, fin hx hu, .inl ⟨u, rfl, rfl⟩, ι, j, own, lb, hG, hL0.putVal hd (v := .c ⟨true && false, c.d⟩) hru rfl, Evo.refl _ _ _ _ _⟩
    | true =>
      cases k with
      | some n => rw [q2 (by simp)] at how; cases how
      | none =>
        obtain ⟨hat, _, hcr⟩ := q1 rfl
        have hO := hcr.2 how
        cases hds : o.dst with
        | none => exact ⟨_, w, _, fin hx hu, .inl ⟨_, rfl, rfl⟩, ι, j, own, lb, hG, by rw [hds]; exact hL0, Evo.refl _ _ _ _ _⟩
        | some s =>
          obtain ⟨own', k1, k2, k3, k4⟩ := retag (t := .cell b off) (t' := .slot s) rfl rfl hG hL0 (fun _ _ _ _ h => by cases h) (fun s' cs' hs' i c' hi hc' heq => by
            cases heq
            simp only [aget_aset, if_true, Option.some.injEq] at hs'
            subst hs'
            obtain ⟨c0, _, _, q⟩ := (unownAt_at cs off).2 off c' hi
            exact (q hc').2 rfl) (fun _ _ _ _ _ _ _ h => by cases h) hO
          exact ⟨_, w, _, fin hx hu, .inl ⟨_, rfl, rfl⟩, ι, j, own', lb, k1, by rw [hds]; exact putOver (hd s hds) (k2.forget s) ⟨hru, fun _ => k3⟩, k4.weaken fun _ _ => trivial⟩
  | ptr id off =>
    obtain ⟨B, hB, hx⟩ := hr
    obtain ⟨cs, h1, h⟩ := bindO_some h
    obtain ⟨c, h2, h⟩ := bindO_some h
    cases h
    obtain ⟨B', hB', hown, hbox⟩ := hG.objs id cs h1
    rw [hB] at hB'
    cases hB'
    obtain ⟨u, hu, hru, q1, q2⟩ := readCells_rel hbox hk1 h2
    have hdr : dropOwn (.load k true y) e = e := by simp only [dropOwn, hp, caseO_some]
    have hdrS : dropOwnS (.load k true y) e σ = { σ with objs := aset σ.objs id (unownAt cs off) } := by simp only [dropOwnS, hp, caseO_some, h1]
    rw [hdr, hdrS]
    have hG0 : GSim ι j own { σ with objs := aset σ.objs id (unownAt cs off) } w :=
      hG.sub (fun id' cs' h => by
        simp only [aget_aset] at h
        split at h
        · rename_i hs; subst hs; cases h; exact ⟨cs, h1, unownAt_weaker cs off⟩
        · exact ⟨cs', h, Weaker.refl cs'⟩) (Nat.le_refl _) (fun _ _ h => h) (fun _ _ h => h)
    cases how : c.own with
    | false => exact ⟨_, w, _, fin hx hu, .inl ⟨u, rfl, rfl⟩, ι, j, own, lb, hG0, hL.putVal hd (v := .c ⟨true && false, c.d⟩) hru rfl, Evo.refl _ _ _ _ _⟩
    | true =>
      cases k with
      | some n => rw [q2 (by simp)] at how; cases how
      | none =>
        obtain ⟨hat, _, hcr⟩ := q1 rfl
        have hO := hcr.2 how
        cases hds : o.dst with
        | none => exact ⟨_, w, _, fin hx hu, .inl ⟨_, rfl, rfl⟩, ι, j, own, lb, hG0, by rw [hds]; exact hL, Evo.refl _ _ _ _ _⟩
        | some s =>
          obtain ⟨own', k1, k2, k3, k4⟩ := retag (t := .ocell id off) (t' := .slot s) rfl rfl hG0 hL (fun _ _ _ _ h => by cases h) (fun _ _ _ _ _ _ _ h => by cases h) (fun id' cs' hs' i c' hi hc' heq => by
            cases heq
            simp only [aget_aset, if_true, Option.some.injEq] at hs'
            subst hs'
            obtain ⟨c0, _, _, q⟩ := (unownAt_at cs off).2 off c' hi
            exact (q hc').2 rfl) hO
          exact ⟨_, w, _, fin hx hu, .inl ⟨_, rfl, rfl⟩, ι, j, own', lb, k1, by rw [hds]; exact putOver (hd s hds) (k2.forget s) ⟨hru, fun _ => k3⟩, k4.weaken fun _ _ => trivial⟩
  | eptr d =>
    have hdr : dropOwn (.load k true y) e = e := by simp only [dropOwn, hp, caseO_some]
    have hdrS : dropOwnS (.load k true y) e σ = σ := by simp only [dropOwnS, hp, caseO_some]
    rw [hdr, hdrS]
    obtain ⟨u, hrun, hv⟩ := hval
    refine ⟨_, w, _, hrun, .inl ⟨u, rfl, rfl⟩, ι, j, own, lb, hG, hL.putVal hd hv ?_, Evo.refl _ _ _ _ _⟩
    cases k with
    | none =>
      obtain ⟨_, h⟩ := ifB_some h
      cases h
      rfl
    | some n =>
      obtain ⟨cs, _, h⟩ := bindO_some h
      obtain ⟨_, h⟩ := ifB_some h
      cases h
      rfl
end
end Go.Mx

/-
  One operation of a region: its fit, and that the machine's step is the program's.
-/
namespace Go.Mx
open Go

def okZero (P : Program) (t : TypeId) (z : List D) : Bool := match zeroB P t with
  | some zs => okConsts z zs
  | none => false
def okElem (P : Program) (t : TypeId) (k : RowK) : Bool := match elemB P t with
  | some el => (match sizeB P el, zeroB P el with
    | some n, some zs => el == k.el && n == k.sz && zs.length == k.sz && decide (0 < k.sz)
    | _, _ => false)
  | none => false
def okBytes (P : Program) (t : TypeId) (by_ : Nat) : Bool := match elemB P t with
  | some el => bytesB P el == some by_
  | none => false
/-- The fit of an operation. -/
def okOp (P : Program) (o : Oper) : AOp → Bool
  | .alloc z => o.dst.isSome && (match o.op with | .alloc t => okZero P t z | _ => false)
  | .box y => o.dst.isSome && (match o.op with | .box _ x => okOpd x y | _ => false)
  | .galloc t' z => match o.op with | .alloc t => okZero P t z && t == t' | _ => false
  | .gbox t' y => match o.op with | .box t x => okOpd x y && t == t' | _ => false
  | .strToBytes k y => match o.op with | .convert s t x => okOpd x y && strB P s && elemB P t == some k.el && intB P k.el == some .u8 && k.sz == 1 | _ => false
  | .rangeS y => match o.op with | .range t x => okOpd x y && strB P t | _ => false
  | .nextS y => match o.op with | .next x true => okOpd x y | _ => false
  | .buildSlice k qs => o.dst.isSome && (match o.op with | .buildSlice t len ps => okRow 0 ps.toList qs && len == qs.length && okElem P t k | _ => false)
  | .store k x' y' => match o.op with | .store t x y => okOpd x x' && okOpd y y' && sizeB P t == some k | _ => false
  | .append sz by_ x' y' => o.dst.isSome && (match o.op with
    | .call { callee := .builtin .append, args := ⟨[x, y]⟩, argTypes := ⟨[t, t']⟩ } => t == t' && okOpd x x' && okOpd y y' && okElem P t sz && okBytes P t by_
    | _ => false)
  | .appendS k by_ x' y' => o.dst.isSome && (match o.op with
    | .call { callee := .builtin .append, args := ⟨[x, y]⟩, argTypes := ⟨[t, t']⟩ } => strB P t' && okOpd x x' && okOpd y y' && okElem P t k && k.sz == 1 && okBytes P t by_
    | _ => false)
  | .deferv f' as' => match o.op with | .defer { callee := .value f, args := as, .. } => okOpd f f' && okOpds as.toList as' | _ => false
  | .call g as' => match o.op with | .call { callee := .value f, args := as, .. } => okOpd f (.const (.fn (.func g) [] [])) && okOpds as.toList as' | _ => false
  | .callv f' as' => match o.op with | .call { callee := .value f, args := as, .. } => okOpd f f' && okOpds as.toList as' | _ => false
  | .panic y => match o.op with | .panic x => okOpd x y | _ => false
  | o' => okV P o.op o'
def okDst (N : Nat) : Option Nat → Option Nat → Bool
  | none, none => true
  | some s, some s' => s == s' && decide (s < N)
  | _, _ => false
theorem okDst_eq {N : Nat} {d d' : Option Nat} (h : okDst N d d' = true) : d = d' ∧ ∀ s, d = some s → s < N := by
  cases d <;> cases d' <;> simp only [okDst, Bool.false_eq_true, Bool.and_eq_true, beq_iff_eq, decide_eq_true_eq] at h
  · exact ⟨rfl, fun s h => by cases h⟩
  · exact ⟨by rw [h.1], fun s hs => by cases hs; exact h.2⟩
/-- The guard of an operation: the slot of the operation it stands on. -/
def okGuard (ops : Array Oper) : Option (Nat × Bool) → Option (Nat × Bool) → Bool
  | none, none => true
  | some (i, b), some (s, b') => (match ops[i]? with | some o => o.dst == some s | none => false) && b == b'
  | _, _ => false
def okOper (P : Program) (N : Nat) (ops : Array Oper) (o : Oper) (o' : AOper) : Bool := okDst N o.dst o'.dst && okGuard ops o.guard o'.guard && okOp P o o'.op
section
variable {P : Program} {ι : Imm} {j : Lay} {own : Own} {lb : Lay} {N : Nat} {e : Env} {a : Go.Act} {w : World} {σ : Store}

theorem okElem_eq {t : TypeId} {k : RowK} (h : okElem P t k = true) : ∃ zs, elemB P t = some k.el ∧ sizeB P k.el = some k.sz ∧ zeroB P k.el = some zs ∧ zs.length = k.sz ∧ 0 < k.sz := by
  unfold okElem at h
  split at h
  · rename_i el hel
    split at h
    · rename_i n zs hn hz
      simp only [Bool.and_eq_true, beq_iff_eq, decide_eq_true_eq] at h
      obtain ⟨⟨⟨rfl, h1⟩, h2⟩, h3⟩ := h
      exact ⟨zs, hel, h1 ▸ hn, hz, h2, h3⟩
    · cases h
  · cases h
theorem okZero_eq {t : TypeId} {z : List D} (h : okZero P t z = true) : ∃ zs, zeroB P t = some zs ∧ okConsts z zs = true := by
  unfold okZero at h
  split at h
  · rename_i zs hz
    exact ⟨zs, hz, h⟩
  · cases h
theorem fn_of {d : D} {f : FuncId} {x y : List D} (h : d.fn? = some (f, x, y)) {v : Value} (hr : Rep ι j d v) : ∃ vf vc, v = .func (.func f) ⟨vf⟩ ⟨vc⟩ ∧ RepL ι j x vf ∧ RepL ι j y vc := by
  cases d with
  | fn g a b =>
    cases g with
    | func g =>
      simp only [D.fn?, Option.some.injEq, Prod.mk.injEq] at h
      obtain ⟨rfl, rfl, rfl⟩ := h
      simpa only [Rep] using hr
    | _ => simp [D.fn?] at h
  | _ => simp [D.fn?] at h
theorem step_deferv (hG : GSim ι j own σ w) (hL : LSim ι j own lb N e a w) {o : Oper} {f : Operand} {f' : AOpd} {as : Array Operand} {ts : Array TypeId} {as' : List AOpd} {c : Cell} {g : FuncId} {x y ds : List D} (ho : o.op = .defer { callee := .value f, args := as, argTypes := ts })
    (hd : ∀ s, o.dst = some s → s < N) (hk : okOpd f f' = true) (hk1 : okOpds as.toList as' = true) (h1 : opd e f' = some c) (h2 : c.d.fn? = some (g, x, y)) (h3 : opds e as' = some ds) :
    Did P N ι j own w o a (Env.put { e with defers := (g, x ++ ds ++ y) :: e.defers } o.dst ⟨false, .undef⟩) σ := by
  obtain ⟨vf, vc, hv, r1, r2⟩ := fn_of h2 (opd_rel hL hk h1)
  have hr := opds_rel hL hk1 h3
  refine ⟨.defer { target := .fn (.func g) ⟨vc⟩, args := ⟨vf⟩ ++ as.map a.eval }, w, _, ?_, .inr (.inr ⟨_, rfl, rfl⟩), ι, j, own, lb, hG, ?_, Evo.refl _ _ _ _ _⟩
  · simp only [execOp, ho, resolve, hv, Deferred.ofValue, Sem.run_bind, Sem.run_pure, Result.andThen_ok]
  · have hL' : LSim ι j own lb N { e with defers := (g, x ++ ds ++ y) :: e.defers } ({ a with defers := { target := .fn (.func g) ⟨vc⟩, args := ⟨vf⟩ ++ as.map a.eval } :: a.defers } : Go.Act) w :=
      { size := hL.size, slots := hL.slots, locs := hL.locs, boxes := hL.boxes, defers := by
          simp only [DefRel]
          refine ⟨⟨vc⟩, ⟨vf⟩ ++ as.map a.eval, _, rfl, ?_, hL.defers⟩
          have := (r1.append hr).append r2
          simpa using this }
    cases hds : o.dst with
    | none => exact hL'
    | some s => exact hL'.putC (hd s hds) ⟨by simp only [Rep], fun h => by cases h⟩

theorem intB_u8 {t : TypeId} (h : intB P t = some .u8) : P.underlying t = some (.int .u8) := by
  unfold intB at h
  split at h
  · rename_i k hk
    simp only [Option.some.injEq] at h
    rw [hk, h]
  · cases h
theorem step_strToBytes (hG : GSim ι j own σ w) (hL : LSim ι j own lb N e a w) {o : Oper} {t u : TypeId} {k : RowK} {x : Operand} {y : AOpd} {c : Cell} {s : List UInt8} (ho : o.op = .convert u t x) (hd : ∀ s, o.dst = some s → s < N) (hk : okOpd x y = true)
    (hu : P.underlying u = some .string) (ht : P.underlying t = some (.slice k.el)) (he : P.underlying k.el = some (.int .u8)) (hk1 : k.sz = 1) (hc : opd e y = some c) (hs : c.d.str? = some s) (hb : s.length ≤ bound) :
    Did P N ι j own w o a (e.put o.dst ⟨false, .list k (bytesD s)⟩) σ := by
  have hx := str_of hs (opd_rel hL hk hc)
  have hrun := run_bytes_of_string (P := P) w u t k.el ⟨⟨s⟩⟩ hu ht he
  have hsz : (⟨⟨s⟩⟩ : ByteArray).size = s.length := rfl
  rw [hsz] at hrun
  generalize hcap : grownCap w s.length 0 k.el = cap at hrun
  have hb' : s.length ≤ 1099511627776 := hb
  have hge : s.length ≤ cap := hcap ▸ grownCap_ge w _ 0 k.el
  have hle : cap ≤ maxLen := hcap ▸ grownCap_le_maxLen w _ 0 k.el (by simp only [maxLen]; omega)
  generalize hcur : bytesRow ⟨⟨s⟩⟩ cap = cur at hrun
  generalize hfr : (cur.size, cur.size + 1) = fr at hrun
  have hat : ∀ (n : Nat) (y : Value), (s.map fun b => Value.int .u8 b.toNat)[n]? = some y → cur[n]? = some y := by
    intro n y hn
    have hlt := (List.getElem?_eq_some_iff.1 hn).1
    rw [← hcur]
    unfold bytesRow
    rw [Array.getElem?_append_left (by simpa using hlt)]
    simpa using hn
  generalize hw' : w.drew.alloc (.cells cur k.el fr) = w' at hrun
  have hnew : w'.heap[w.heap.size]? = some (.cells cur k.el fr) := hw' ▸ heap_alloc_new w.drew _
  have hold : ∀ b, b < w.heap.size → w'.heap[b]? = w.heap[b]? := fun b hb => hw' ▸ heap_alloc_old w.drew _ hb
  have hsize : w.heap.size ≤ w'.heap.size := Nat.le_of_lt (Array.getElem?_eq_some_iff.1 hnew).1
  have hE : Evo ι j own w (addImm ι w.heap.size 0 s.length (fun o => (s.map fun b => Value.int .u8 b.toNat)[o]?)) j own w' (fun _ => False) := by
    refine ⟨by rw [← hw']; rfl, by rw [← hw']; rfl, by rw [← hw']; rfl, hsize, fun b o v h => ?_, fun _ _ h => h, fun b hb _ => ⟨hold b hb, rfl, fun o => if_neg (by omega)⟩⟩
    have := imm_lt hG h
    unfold addImm
    rw [if_neg (by omega)]
    exact h
  have hG' : GSim (addImm ι w.heap.size 0 s.length (fun o => (s.map fun b => Value.int .u8 b.toNat)[o]?)) j own σ w' := by
    refine hG.evo hE (fun b o v h => ?_) (fun b u h hu o => ?_) (fun b u h => Nat.lt_of_lt_of_le (hG.ownlt b u h) hsize) hG.jlt (fun _ _ _ => ⟨fun h => h, fun _ _ _ _ h => h⟩) (fun _ _ _ h => h)
    · unfold addImm at h
      by_cases hcnd : b = w.heap.size ∧ 0 ≤ o ∧ o < s.length
      · rw [if_pos hcnd] at h
        obtain ⟨rfl, _, ho⟩ := hcnd
        rw [cell_of_row w' _ o cur k.el fr hnew]
        exact hat o v h
      · rw [if_neg hcnd] at h
        have hb := imm_lt hG h
        rw [World.cell?_of_block (w := w) (w' := w') (a := ⟨b, o, none⟩) (hold b hb)]
        exact hG.holds b o v h
    · have := hG.ownlt b u h
      unfold addImm
      rw [if_neg (by omega)]
      exact hG.noimm b u h hu o
  refine ⟨.value (.slice (some ⟨w.heap.size, 0, none⟩) s.length cap), w', _, ?_, .inl ⟨_, rfl, rfl⟩, _, j, own, lb, hG', ?_, hE.weaken fun _ h => h.elim⟩
  · simp only [execOp, ho, hx, Sem.run_bind, hrun, Result.andThen_ok, Sem.run_pure]
  · have hL' := hL.evo hE (fun _ _ _ _ h => h) (fun _ _ _ => ⟨fun h => h, fun _ _ _ _ h => h⟩)
    cases hds : o.dst with
    | none => exact hL'
    | some d =>
      refine hL'.putC (hd d hds) ⟨?_, fun h => by cases h⟩
      simp only [Rep]
      refine ⟨_, cap, by rw [bytesD_length], by rw [bytesD_length]; exact hge, hle, .inr ⟨w.heap.size, 0, rfl, RepRow.of_vals (bytesD_rel s) (fun x hx => ?_) fun n y hn => ?_⟩⟩
      · obtain ⟨b, _, rfl⟩ := List.mem_map.1 hx
        rw [hk1]
        rfl
      · rw [flat_bytes] at hn
        have hlt := (List.getElem?_eq_some_iff.1 hn).1
        rw [List.length_map] at hlt
        unfold addImm
        rw [if_pos ⟨rfl, by omega, by omega⟩, Nat.zero_add]
        exact hn
theorem step_rangeS (hG : GSim ι j own σ w) (hL : LSim ι j own lb N e a w) {o : Oper} {t : TypeId} {x : Operand} {y : AOpd} {c : Cell} {s : List UInt8} (ho : o.op = .range t x) (hd : ∀ s, o.dst = some s → s < N) (hk : okOpd x y = true) (ht : strB P t = true) (hc : opd e y = some c) (hs : c.d.str? = some s) :
    Did P N ι j own w o a (e.put o.dst ⟨false, .ptr σ.next 0⟩) { σ with iters := (σ.next, (s, 0)) :: σ.iters, next := σ.next + 1 } := by
  classical
  have hx := str_of hs (opd_rel hL hk hc)
  let j' : Lay := fun i => if i = σ.next then some w.heap.size else j i
  have hjn : ∀ i b, j i = some b → i ≠ σ.next := fun i b h e => by have := hG.jlt i b h; omega
  have hE0 := newBlock_evo hG (.stringIter ⟨⟨s⟩⟩ 0) (.obj σ.next)
  have hE : Evo ι j own w ι j' (fun b => if b = w.heap.size then some (.obj σ.next) else own b) (w.alloc (.stringIter ⟨⟨s⟩⟩ 0)) (fun _ => False) :=
    ⟨hE0.os, hE0.tape, hE0.output, hE0.size, hE0.imm, fun i b h => by simp only [j', if_neg (hjn i b h)]; exact h, hE0.block⟩
  have hG0 := newBlock_gsim hG (.stringIter ⟨⟨s⟩⟩ 0) (.obj σ.next)
  have hG' : GSim ι j' (fun b => if b = w.heap.size then some (.obj σ.next) else own b) { σ with iters := (σ.next, (s, 0)) :: σ.iters, next := σ.next + 1 } (w.alloc (.stringIter ⟨⟨s⟩⟩ 0)) := by
    refine ⟨hG0.holds, hG0.noimm, fun id cs h => ?_, fun id t cs h1 h2 b hb => ?_, fun id s' pos h => ?_, fun id b h => ?_, hG0.ownlt⟩
    · obtain ⟨B, q1, q2, q3⟩ := hG.objs id cs h
      have hlt := hG.ownlt B _ q2
      exact ⟨B, hE.lay _ _ q1, by rw [if_neg (by omega)]; exact q2, hE.boxRel q2 (fun h => h) (fun _ _ _ _ h => h) q3⟩
    · obtain ⟨B, q1, q2, q3⟩ := hG.objs id cs h2
      have hb' := hE.lay _ _ q1
      rw [hb] at hb'
      cases hb'
      obtain ⟨row, hrow⟩ := hG.tys id t cs h1 h2 b q1
      exact ⟨row, (heap_alloc_old w _ (Array.getElem?_eq_some_iff.1 hrow).1).trans hrow⟩
    · simp only [aget_cons] at h
      by_cases hid : σ.next = id
      · rw [if_pos hid] at h
        cases h
        subst hid
        exact ⟨w.heap.size, if_pos rfl, if_pos rfl, heap_alloc_new w _⟩
      · rw [if_neg hid] at h
        obtain ⟨B, q1, q2, q3⟩ := hG.iters id s' pos h
        have hlt := hG.ownlt B _ q2
        exact ⟨B, hE.lay _ _ q1, by rw [if_neg (by omega)]; exact q2, (heap_alloc_old w _ hlt).trans q3⟩
    · by_cases hid : id = σ.next
      · simp only; omega
      · simp only [j', if_neg hid] at h
        have := hG.jlt id b h
        simp only; omega
  refine ⟨.value (.pointer (some ⟨w.heap.size, 0, none⟩)), _, _, ?_, .inl ⟨_, rfl, rfl⟩, ι, j', _, lb, hG', ?_, hE.weaken (fun _ h => h.elim)⟩
  · simp only [execOp, ho, hx, Instr.range, Sem.run_bind, run_underlying (strB_eq ht), Result.andThen_ok, Sem.run_pure, run_newObj]
    rfl
  · have hL' := hL.evo hE (fun _ _ _ _ h => h) (fun _ _ _ => ⟨fun h => h, fun _ _ _ _ h => h⟩)
    cases hds : o.dst with
    | none => exact hL'
    | some d => exact hL'.putC (hd d hds) ⟨by simp only [Rep]; exact ⟨w.heap.size, if_pos rfl, rfl⟩, fun h => by cases h⟩
theorem step_nextS (hG : GSim ι j own σ w) (hL : LSim ι j own lb N e a w) {o : Oper} {x : Operand} {y : AOpd} {id pos : Nat} {s : List UInt8} (ho : o.op = .next x true) (hd : ∀ s, o.dst = some s → s < N) (hk : okOpd x y = true) (hp : addr e y = some (.ptr id 0)) (hi : aget σ.iters id = some (s, pos)) :
    (pos < s.length → Did P N ι j own w o a (e.put o.dst ⟨false, .tup [.bool true, .int .i64 pos, .int .i32 (Utf8.decode ⟨⟨s⟩⟩ pos).1]⟩) { σ with iters := aset σ.iters id (s, pos + (Utf8.decode ⟨⟨s⟩⟩ pos).2) }) ∧
    (¬ pos < s.length → Did P N ι j own w o a (e.put o.dst ⟨false, .tup [.bool false]⟩) σ) := by
  obtain ⟨B, hB, hx⟩ := addr_rel hL hk hp
  obtain ⟨B', hB', hown, hheap⟩ := hG.iters id s pos hi
  rw [hB] at hB'
  cases hB'
  have hsz : (⟨⟨s⟩⟩ : ByteArray).size = s.length := rfl
  have hget : (getObj B).run P w = .ok (.stringIter ⟨⟨s⟩⟩ pos) w := by
    simp [getObj, Sem.run, hheap]
  refine ⟨fun hlt => ?_, fun hge => ?_⟩
  · generalize hw' : ({ w with heap := w.heap.setIfInBounds B (.stringIter ⟨⟨s⟩⟩ (pos + (Utf8.decode ⟨⟨s⟩⟩ pos).2)) } : World) = w'
    have hBlt : B < w.heap.size := (Array.getElem?_eq_some_iff.1 hheap).1
    have hoth : ∀ b, b ≠ B → w'.heap[b]? = w.heap[b]? := fun b hb => by
      rw [← hw']
      simp [Array.getElem?_setIfInBounds_ne (Ne.symm hb)]
    have hE : Evo ι j own w ι j own w' (fun t => t = .obj id) := by
      refine ⟨by rw [← hw'], by rw [← hw'], by rw [← hw'], by rw [← hw']; simp, fun _ _ _ h => h, fun _ _ h => h, fun b _ hb => ⟨hoth b (fun e => hb _ (e ▸ hown) rfl), rfl, fun _ => rfl⟩⟩
    have hG' : GSim ι j own { σ with iters := aset σ.iters id (s, pos + (Utf8.decode ⟨⟨s⟩⟩ pos).2) } w' := by
      refine ⟨fun b o' v h => ?_, hG.noimm, fun id' cs h => ?_, fun id' t cs h1 h2 b hb => ?_, fun id' s' pos' h => ?_, hG.jlt, fun b t h => Nat.lt_of_lt_of_le (hG.ownlt b t h) hE.size⟩
      · have hne : b ≠ B := fun e => by
          rw [e, hG.noimm B _ hown rfl o'] at h
          cases h
        rw [World.cell?_of_block (w := w) (w' := w') (a := ⟨b, o', none⟩) (hoth b hne)]
        exact hG.holds b o' v h
      · obtain ⟨B2, q1, q2, q3⟩ := hG.objs id' cs h
        have hne : B2 ≠ B := fun e => by
          obtain ⟨vs, T, h1, _⟩ := q3
          rw [e, hheap] at h1
          cases h1
        have hid : id' ≠ id := fun e => by
          subst e
          rw [hB] at q1
          cases q1
          exact hne rfl
        exact ⟨B2, q1, q2, hE.boxRel q2 (fun h => by cases h; exact hid rfl) (fun _ _ _ _ h => by cases h) q3⟩
      · obtain ⟨row, hrow⟩ := hG.tys id' t cs h1 h2 b hb
        have hne : b ≠ B := fun e => by
          rw [e, hheap] at hrow
          cases hrow
        exact ⟨row, (hoth b hne).trans hrow⟩
      · simp only [aget_aset] at h
        by_cases hid : id = id'
        · subst hid
          rw [if_pos rfl] at h
          cases h
          exact ⟨B, hB, hown, by rw [← hw']; simp [hBlt]⟩
        · rw [if_neg hid] at h
          obtain ⟨B2, q1, q2, q3⟩ := hG.iters id' s' pos' h
          have hne : B2 ≠ B := fun e => by
            rw [e, hown] at q2
            cases q2
            exact hid rfl
          exact ⟨B2, q1, q2, (hoth B2 hne).trans q3⟩
    refine ⟨.value (.tuple #[.bool true, .int .i64 pos, .int .i32 (Utf8.decode ⟨⟨s⟩⟩ pos).1]), w', _, ?_, .inl ⟨_, rfl, rfl⟩, ι, j, own, lb, hG', ?_, hE.weaken fun _ _ => trivial⟩
    · have hset : (setObj B (.stringIter ⟨⟨s⟩⟩ (pos + (Utf8.decode ⟨⟨s⟩⟩ pos).2))).run P w = .ok () w' := by
        simp [setObj, Sem.run, hheap, hw']
      simp only [execOp, ho, hx, Instr.next, Sem.run_bind, hget, Result.andThen_ok, hsz, if_pos hlt, hset, Sem.run_pure, goInt]
    · have hL' := hL.evo hE (fun _ _ _ _ h => by cases h) (fun _ _ _ => ⟨(fun h => by cases h), (fun _ _ _ _ h => by cases h)⟩)
      cases hds : o.dst with
      | none => exact hL'
      | some d => exact hL'.putC (hd d hds) ⟨by simp [Rep, RepL], fun h => by cases h⟩
  · refine ⟨.value (.tuple #[.bool false]), w, _, ?_, .inl ⟨_, rfl, rfl⟩, ι, j, own, lb, hG, ?_, Evo.refl _ _ _ _ _⟩
    · simp only [execOp, ho, hx, Instr.next, Sem.run_bind, hget, Result.andThen_ok, hsz, if_neg hge, Sem.run_pure]
    · cases hds : o.dst with
      | none => exact hL
      | some d => exact hL.putC (hd d hds) ⟨by simp [Rep, RepL], fun h => by cases h⟩

theorem evalOp_sound (hG : GSim ι j own σ w) (hL : LSim ι j own lb N e a w) {o : Oper} {o' : AOp} (hk : okOp P o o' = true) (hd : ∀ s, o.dst = some s → s < N) {e' : Env} {σ' : Store} (h : evalOp o.dst o' e σ = some (e', σ')) :
    Did P N ι j own w o a e' σ' := by
  have value : okV P o.op o' = true → (∀ v, evalV o' e σ = some v → e' = (dropOwn o' e).putV o.dst v → σ' = dropOwnS o' e σ → Did P N ι j own w o a e' σ') := by
    rintro hv v hev rfl rfl
    cases hp : plainV o' with
    | true => exact step_plain hG hL hv hd hp hev
    | false =>
      cases o' <;> simp only [plainV, Bool.true_eq_false, Bool.not_eq_false'] at hp
      · exact step_mov hG hL hv hd hev
      · subst hp
        generalize ho : o.op = op at hv
        cases op <;> first
          | (simp only [okV, Bool.and_eq_true] at hv; exact step_loadMv hG hL ho hv.1 hv.2 hd hev)
          | (simp [okV] at hv)
      · subst hp
        generalize ho : o.op = op at hv
        cases op <;> first
          | (simp only [okV, Bool.and_eq_true] at hv
             rename_i k y t x
             have hev' := loadL_load hev
             have e1 : dropOwn (.loadL k true y) e = dropOwn (.load k true y) e := rfl
             have e2 : dropOwnS (.loadL k true y) e σ = dropOwnS (.load k true y) e σ := by
               simp only [evalV] at hev
               obtain ⟨p, hp, hev⟩ := bindO_some hev
               cases p with
               | ptr id off => cases hev
               | loc b off => simp only [dropOwnS, hp, caseO_some]
               | eptr d => simp only [dropOwnS, hp, caseO_some]
             rw [e1, e2]
             exact step_loadMv hG hL ho hv.1 hv.2 hd hev')
          | (simp [okV] at hv)
  cases o' with
  | alloc z =>
    simp only [okOp, Bool.and_eq_true] at hk
    obtain ⟨s, hs⟩ := Option.isSome_iff_exists.1 hk.1
    have hk := hk.2
    split at hk
    · rename_i t ho
      obtain ⟨zs, h1, h2⟩ := okZero_eq hk
      simp only [evalOp, hs, bindO, caseO_some, Option.some.injEq, Prod.mk.injEq] at h
      obtain ⟨rfl, rfl⟩ := h
      exact step_alloc hG hL ho hs (hd s hs) h1 h2
    · cases hk
  | box y =>
    simp only [okOp, Bool.and_eq_true] at hk
    obtain ⟨s, hs⟩ := Option.isSome_iff_exists.1 hk.1
    have hk := hk.2
    split at hk
    · rename_i t x ho
      simp only [evalOp, hs, bindO, caseO_some] at h
      obtain ⟨c, h1, h⟩ := bindO_some h
      obtain ⟨h2, h⟩ := ifB_some h
      cases h
      exact step_box hG hL ho hs (hd s hs) hk h1 h2
    · cases hk
  | galloc t' z =>
    simp only [okOp] at hk
    split at hk
    · rename_i t ho
      simp only [Bool.and_eq_true, beq_iff_eq] at hk
      obtain ⟨hk, rfl⟩ := hk
      obtain ⟨zs, h1, h2⟩ := okZero_eq hk
      simp only [evalOp, Option.some.injEq, Prod.mk.injEq] at h
      obtain ⟨rfl, rfl⟩ := h
      exact step_galloc hG hL ho hd h1 h2
    · cases hk
  | gbox t' y =>
    simp only [okOp] at hk
    split at hk
    · rename_i t x ho
      simp only [Bool.and_eq_true, beq_iff_eq] at hk
      obtain ⟨hk, rfl⟩ := hk
      simp only [evalOp] at h
      obtain ⟨c, h1, h⟩ := bindO_some h
      obtain ⟨h2, h⟩ := ifB_some h
      cases h
      exact step_gbox hG hL ho hd hk h1 h2
    · cases hk
  | buildSlice sz qs =>
    simp only [okOp, Bool.and_eq_true] at hk
    obtain ⟨s, hs⟩ := Option.isSome_iff_exists.1 hk.1
    have hk := hk.2
    split at hk
    · rename_i t len ps ho
      simp only [Bool.and_eq_true, beq_iff_eq] at hk
      obtain ⟨zs, k1, k2, k3, k4, k5⟩ := okElem_eq hk.2
      simp only [evalOp] at h
      obtain ⟨ds, h1, h⟩ := bindO_some h
      obtain ⟨h2, h⟩ := ifB_some h
      cases h
      simp only [Bool.and_eq_true, decide_eq_true_eq] at h2
      exact step_buildSlice hG hL ho hs (hd s hs) hk.1.1 hk.1.2 k1 k2 k3 k4 k5 h1 h2.1 h2.2
    · cases hk
  | store k x' y' =>
    simp only [okOp] at hk
    split at hk
    · rename_i t x y ho
      simp only [Bool.and_eq_true, beq_iff_eq] at hk
      obtain ⟨⟨k1, k2⟩, k3⟩ := hk
      simp only [evalOp] at h
      obtain ⟨p, h1, h⟩ := bindO_some h
      obtain ⟨c, h2, h⟩ := bindO_some h
      cases p with
      | loc b off =>
        obtain ⟨cs, h3, h⟩ := bindO_some h
        obtain ⟨h4, h⟩ := ifB_some h
        cases h
        exact step_storeLoc hG hL ho hd k1 k2 k3 h1 h2 h3 h4
      | ptr id off =>
        obtain ⟨cs, h3, h⟩ := bindO_some h
        obtain ⟨h4, h⟩ := ifB_some h
        cases h
        exact step_storePtr hG hL ho hd k1 k2 k3 h1 h2 h3 h4
      | eptr d => cases h
    · cases hk
  | append sz by_ x' y' =>
    simp only [okOp, Bool.and_eq_true] at hk
    obtain ⟨s, hs⟩ := Option.isSome_iff_exists.1 hk.1
    have hk := hk.2
    split at hk
    · rename_i x y t t' ho
      simp only [Bool.and_eq_true, beq_iff_eq] at hk
      obtain ⟨⟨⟨⟨rfl, k1⟩, k2⟩, k3⟩, k4⟩ := hk
      obtain ⟨zs, q1, q2, q3, q4, q5⟩ := okElem_eq k3
      have q6 : bytesB P sz.el = some by_ := by
        unfold okBytes at k4
        rw [q1] at k4
        simpa using k4
      simp only [evalOp] at h
      obtain ⟨c, h1, h⟩ := bindO_some h
      obtain ⟨d, h2, h⟩ := bindO_some h
      obtain ⟨r, h3, h⟩ := bindO_some h
      cases h
      exact step_append hG hL ho hs (hd s hs) k1 k2 q1 q2 q3 q4 q5 q6 h1 h2 h3
    · cases hk
  | strToBytes k y =>
    simp only [okOp] at hk
    split at hk
    · rename_i u t x ho
      simp only [Bool.and_eq_true, beq_iff_eq] at hk
      obtain ⟨⟨⟨⟨k1, k2⟩, k3⟩, k4⟩, k5⟩ := hk
      simp only [evalOp] at h
      obtain ⟨c, h1, h⟩ := bindO_some h
      obtain ⟨str, h2, h⟩ := bindO_some h
      obtain ⟨h3, h⟩ := ifB_some h
      cases h
      exact step_strToBytes hG hL ho hd k1 (strB_eq k2) (elemB_eq k3) (intB_u8 k4) k5 h1 h2 (of_decide_eq_true h3)
    · cases hk
  | rangeS y =>
    simp only [okOp] at hk
    split at hk
    · rename_i t x ho
      simp only [Bool.and_eq_true] at hk
      simp only [evalOp] at h
      obtain ⟨c, h1, h⟩ := bindO_some h
      obtain ⟨str, h2, h⟩ := bindO_some h
      cases h
      exact step_rangeS hG hL ho hd hk.1 hk.2 h1 h2
    · cases hk
  | nextS y =>
    simp only [okOp] at hk
    split at hk
    · rename_i x ho
      simp only [evalOp] at h
      obtain ⟨p, h1, h⟩ := bindO_some h
      cases p with
      | ptr id off =>
        cases off with
        | zero =>
          obtain ⟨⟨str, pos⟩, h2, h⟩ := bindO_some h
          simp only at h
          obtain ⟨k1, k2⟩ := step_nextS hG hL ho hd hk h1 h2
          by_cases hlt : pos < str.length
          · simp only [hlt, decide_true, ifB_true, Option.some.injEq, Prod.mk.injEq] at h
            obtain ⟨rfl, rfl⟩ := h
            exact k1 hlt
          · simp only [hlt, decide_false, ifB_false, Option.some.injEq, Prod.mk.injEq] at h
            obtain ⟨rfl, rfl⟩ := h
            exact k2 hlt
        | succ n => cases h
      | loc b off => cases h
      | eptr d => cases h
    · cases hk
  | appendS sz by_ x' y' =>
    simp only [okOp, Bool.and_eq_true] at hk
    obtain ⟨s, hs⟩ := Option.isSome_iff_exists.1 hk.1
    have hk := hk.2
    split at hk
    · rename_i x y t t' ho
      simp only [Bool.and_eq_true, beq_iff_eq] at hk
      obtain ⟨⟨⟨⟨⟨k0, k1⟩, k2⟩, k3⟩, k3b⟩, k4⟩ := hk
      obtain ⟨zs, q1, q2, q3, q4, q5⟩ := okElem_eq k3
      have q6 : bytesB P sz.el = some by_ := by
        unfold okBytes at k4
        rw [q1] at k4
        simpa using k4
      simp only [evalOp] at h
      obtain ⟨c, h1, h⟩ := bindO_some h
      obtain ⟨d, h2, h⟩ := bindO_some h
      obtain ⟨str, h3, h⟩ := bindO_some h
      obtain ⟨r, h4, h⟩ := bindO_some h
      cases h
      have hds : d.d = .str str := by
        cases hdd : d.d <;> rw [hdd] at h3 <;> simp only [D.str?, reduceCtorEq, Option.some.injEq] at h3
        rw [h3]
      obtain ⟨ke, ks⟩ := sz
      simp only at k3b
      subst k3b
      exact step_appendS hG hL ho hs (hd s hs) k1 k2 q1 q2 q3 q4 q6 (strB_eq k0) h1 h2 hds h4
    · cases hk
  | deferv f' as' =>
    simp only [okOp] at hk
    split at hk
    · rename_i f as ts ho
      simp only [Bool.and_eq_true] at hk
      simp only [evalOp] at h
      obtain ⟨c, h1, h⟩ := bindO_some h
      obtain ⟨⟨g, x, y⟩, h2, h⟩ := bindO_some h
      obtain ⟨ds, h3, h⟩ := bindO_some h
      cases h
      exact step_deferv hG hL ho hd hk.1 hk.2 h1 h2 h3
    · cases hk
  | call g as' => simp only [evalOp, evalV, bindO, caseO_none, reduceCtorEq] at h
  | callv g as' => simp only [evalOp, evalV, bindO, caseO_none, reduceCtorEq] at h
  | panic y => simp only [evalOp, evalV, bindO, caseO_none, reduceCtorEq] at h
  | _ =>
    simp only [okOp] at hk
    simp only [evalOp] at h
    obtain ⟨v, h1, h⟩ := bindO_some h
    cases h
    exact value hk v h1 rfl rfl

/-- The guard's word. -/
theorem wanted_sound (hL : LSim ι j own lb N e a w) {ops : Array Oper} {o : Oper} {g : Option (Nat × Bool)} (hk : okGuard ops o.guard g = true) (hN : ∀ i s b, o.guard = some (i, b) → ((ops[i]?).bind (·.dst)) = some s → s < N) {b : Bool} (h : wantedA g e = some b) :
    Region.wanted o (yielded ops a.tmps) = b := by
  unfold Region.wanted
  cases hg : o.guard with
  | none =>
    rw [hg] at hk
    cases g with
    | none => simp only [wantedA, Option.some.injEq] at h; subst h; rfl
    | some p => simp [okGuard] at hk
  | some p =>
    obtain ⟨i, want⟩ := p
    rw [hg] at hk
    cases g with
    | none => simp [okGuard] at hk
    | some q =>
      obtain ⟨s, want'⟩ := q
      simp only [okGuard, Bool.and_eq_true, beq_iff_eq] at hk
      obtain ⟨h1, rfl⟩ := hk
      have hdst : ((ops[i]?).bind (·.dst)) = some s := by
        cases ho : ops[i]? with
        | none => rw [ho] at h1; cases h1
        | some o => rw [ho] at h1; simpa using h1
      have hlt := hN i s want hg hdst
      simp only [wantedA] at h
      obtain ⟨c, h2, h⟩ := bindO_some h
      have hr := (hL.slots s c h2).1
      have hget : a.tmps[s]? = some (a.tmps.getD s Go.undef) := by
        rw [Array.getD_eq_getD_getElem?, Array.getElem?_eq_getElem (by rw [hL.size]; exact hlt)]
        rfl
      simp only [yielded, hdst, Option.bind_some, hget]
      cases hb : c.d.bool? with
      | some t =>
        rw [hb] at h
        simp only [caseO_some, Option.some.injEq] at h
        cases hd : c.d <;> rw [hd] at hb <;> simp only [D.bool?, reduceCtorEq, Option.some.injEq] at hb
        subst hb
        rw [hd] at hr
        simp only [Rep] at hr
        rw [hr]
        subst h
        simp
      | none =>
        rw [hb] at h
        simp only [caseO_none] at h
        cases hd : c.d <;> rw [hd] at h <;> simp only [isUndef, ifB_true, ifB_false, reduceCtorEq, Option.some.injEq] at h
        subst h
        rw [hd] at hr
        simp only [Rep] at hr
        rw [hr]
        rfl
end
end Go.Mx


/-
  Whole bodies, whole calls: if the machine runs to an end, the program's function ends so, in every world.
-/
import Derived.Defers
import Derived.LoopN
import Derived.Scope
import Derived.Test.YtdoppkjoemlhjaaDoorMxDrawn
import Derived.Below
import Derived.OpenShut
import Derived.Carry
import Derived.ChangeSlices
import Derived.ChangeSame
import Derived.Deep.DeepHandedRow
import Derived.Stop.LaidErr
import Derived.Deep.DeepLaidRun
import Derived.Lib.LaidTab
set_option linter.unusedSimpArgs false
set_option linter.unusedVariables false
namespace Go.Mx
open Go

def okCode (P : Program) (N : Nat) : Code → ACode → Bool
  | .skip, .skip => true
  | .region _ ops false, .region l none _ => okDsts N ops && okOps P N ops ops.toList l
  | .region _ ops true, .region l (some p) _ => P.follows .mixedOrders && okDrawn P N ops l p
  | .seq a b, .seq a' b' => okCode P N a a' && okCode P N b b'
  | .cond c t f, .cond c' t' f' => okOpd c c' && okCode P N t t' && okCode P N f f'
  | .block i b, .block i' b' => i == i' && okCode P N b b'
  | .loop b, .loop b' => okCode P N b b'
  | .exit i, .exit i' => i == i'
  | .ret, .ret => true
  | .scope b, .scope b' => okCode P N b b'
  | _, .stuck => true
  | _, _ => false
def okRes (P : Program) : List ResultVar → List ARes → Bool
  | [], [] => true
  | .tmp t :: l, .tmp s :: r => t == s && okRes P l r
  | .cell t ty :: l, .cell s k :: r => t == s && okK P ty k && okRes P l r
  | .cell t ty :: l, .cellA s k :: r => t == s && okK P ty (some k) && okRes P l r
  | _, _ => false
def okFun (P : Program) (fn : Func) (af : AFun) : Bool := match fn.body with
  | some c => !(fn.name == "runtime.NumGoroutine") && decide (af.nargs ≤ fn.ntmps) && okCode P fn.ntmps c af.body && okRes P fn.results.toList af.res
  | none => false

section
variable {P : Program} {N : Nat} {e : Env} {a : Go.Act} {w : World} {σ : Store} {ι ι0 : Imm} {j j0 : Lay} {own own0 : Own} {w0 : World} {lb : Lay} {κ : Ctx}

def Post (ι0 : Imm) (j0 : Lay) (own0 : Own) (w0 : World) (N : Nat) (Q : Exit → Go.Act → World → Prop) : AExit × Env × Store → Prop
  | (.normal, e, σ) => ∀ a w, St ι0 j0 own0 w0 N e σ a w → Q .normal a w
  | (.exit id, e, σ) => ∀ a w, St ι0 j0 own0 w0 N e σ a w → Q (.exit id) a w
  | (.ret, e, σ) => ∀ a w, St ι0 j0 own0 w0 N e σ a w → Q .ret a w
  | (.panic d, e, σ) => ∀ a w chain, StP ι0 j0 own0 w0 N d chain e σ a w → Q (.panic chain) a w
theorem St.clear (h : St ι0 j0 own0 w0 N e σ a w) (clr : List Nat) : St ι0 j0 own0 w0 N (clearEnv e clr) σ a w := by
  obtain ⟨ι, j, own, lb, h1, h2, h3⟩ := h
  exact ⟨ι, j, own, lb, h1, h2.sub (fun s c h => ⟨c, aget_adel _ _ _ _ h, rfl, fun h => h⟩) (fun s p h => aget_adel _ _ _ _ h) (fun s cs h => ⟨cs, aget_adel _ _ _ _ h, Weaker.refl cs⟩) rfl, h3⟩
theorem Post.noGoto {Q : Exit → Go.Act → World → Prop} {r : AExit × Env × Store} (h : Post ι0 j0 own0 w0 N Q r) : Post ι0 j0 own0 w0 N (Exit.noGoto Q) r := by
  obtain ⟨x, e1, σ1⟩ := r
  cases x <;> exact h
theorem exec_sound {C : CallF} (hC : CSound P κ C) (hB : Base κ own0 w0) (n : Nat) : ∀ (c' : ACode) (c : Code), okCode P N c c' = true → ∀ {e σ a w r Q}, exec C n c' e σ = some r → St ι0 j0 own0 w0 N e σ a w → Post ι0 j0 own0 w0 N Q r → c.wp P Q a w
  | .skip, c, hk, e, σ, a, w, r, Q, h, hSt, hQ => by
    cases c <;> simp only [okCode, Bool.false_eq_true] at hk
    simp only [exec, Option.some.injEq] at h
    subst h
    exact wp_skip (hQ a w hSt)
  | .ret, c, hk, e, σ, a, w, r, Q, h, hSt, hQ => by
    cases c <;> simp only [okCode, Bool.false_eq_true] at hk
    simp only [exec, Option.some.injEq] at h
    subst h
    exact wp_ret (hQ a w hSt)
  | .exit id, c, hk, e, σ, a, w, r, Q, h, hSt, hQ => by
    cases c <;> simp only [okCode, Bool.false_eq_true, beq_iff_eq] at hk
    subst hk
    simp only [exec, Option.some.injEq] at h
    subst h
    exact wp_exit (hQ a w hSt)
  | .seq x' y', c, hk, e, σ, a, w, r, Q, h, hSt, hQ => by
    cases c <;> simp only [okCode, Bool.false_eq_true, Bool.and_eq_true] at hk
    rename_i x y
    simp only [exec] at h
    cases hx : exec C n x' e σ with
    | none => rw [hx] at h; cases h
    | some r1 =>
      obtain ⟨ex, e1, σ1⟩ := r1
      rw [hx] at h
      refine wp_seq (exec_sound hC hB n x' x hk.1 hx hSt ?_)
      cases ex with
      | normal => exact fun a1 w1 h1 => exec_sound hC hB n y' y hk.2 h h1 hQ
      | exit id => simp only [Option.some.injEq] at h; subst h; exact hQ
      | ret => simp only [Option.some.injEq] at h; subst h; exact hQ
      | panic d => simp only [Option.some.injEq] at h; subst h; exact hQ
  | .cond c0 t' f', c, hk, e, σ, a, w, r, Q, h, hSt, hQ => by
    cases c <;> simp only [okCode, Bool.false_eq_true, Bool.and_eq_true] at hk
    rename_i x t f
    simp only [exec] at h
    obtain ⟨cl, h1, h⟩ := bindO_some h
    obtain ⟨b, h2, h⟩ := bindO_some h
    have hx : a.eval x = .bool b := by
      obtain ⟨ι, j, own, lb, g1, g2, g3⟩ := hSt
      have hr := opd_rel g2 hk.1.1 h1
      cases hd : cl.d <;> rw [hd] at h2 hr <;> simp only [D.bool?, reduceCtorEq, Option.some.injEq] at h2
      subst h2
      simpa only [Rep] using hr
    refine wp_cond hx ?_
    cases b with
    | true => exact exec_sound hC hB n t' t hk.1.2 h hSt hQ
    | false => exact exec_sound hC hB n f' f hk.2 h hSt hQ
  | .block id b', c, hk, e, σ, a, w, r, Q, h, hSt, hQ => by
    cases c <;> simp only [okCode, Bool.false_eq_true, Bool.and_eq_true, beq_iff_eq] at hk
    rename_i id2 b
    obtain ⟨rfl, hk⟩ := hk
    simp only [exec] at h
    cases hx : exec C n b' e σ with
    | none => rw [hx] at h; cases h
    | some r1 =>
      obtain ⟨ex, e1, σ1⟩ := r1
      rw [hx] at h
      refine wp_block (exec_sound hC hB n b' b hk hx hSt ?_)
      cases ex with
      | normal => simp only [Option.some.injEq] at h; subst h; exact hQ
      | exit id' =>
        simp only at h
        by_cases hid : id' = id2
        · subst hid
          simp only [beq_self_eq_true, ifB_true, Option.some.injEq] at h
          subst h
          intro a1 w1 h1
          simp only [Exit.inBlock, if_true]
          exact hQ a1 w1 h1
        · have : (id' == id2) = false := by simpa using hid
          simp only [this, ifB_false, Option.some.injEq] at h
          subst h
          intro a1 w1 h1
          simp only [Exit.inBlock, if_neg hid]
          exact hQ a1 w1 h1
      | ret => simp only [Option.some.injEq] at h; subst h; exact hQ
      | panic d => simp only [Option.some.injEq] at h; subst h; exact hQ
  | .stuck, c, hk, e, σ, a, w, r, Q, h, hSt, hQ => by
    simp only [exec, reduceCtorEq] at h
  | .scope b', c, hk, e, σ, a, w, r, Q, h, hSt, hQ => by
    cases c <;> simp only [okCode, Bool.false_eq_true] at hk
    simp only [exec] at h
    exact wp_scope_straight (exec_sound hC hB n b' _ hk h hSt hQ.noGoto)
  | .loop b', c, hk, e, σ, a, w, r, Q, h, hSt, hQ => by
    cases c <;> simp only [okCode, Bool.false_eq_true] at hk
    rename_i b
    simp only [exec] at h
    have key : ∀ (m : Nat) {e σ a w}, loopN (exec C n b') m e σ = some r → St ι0 j0 own0 w0 N e σ a w → Code.rounds P b Q m a w := by
      intro m
      induction m with
      | zero => intro e σ a w h _; cases h
      | succ m ih =>
        intro e σ a w h hSt
        simp only [loopN] at h
        cases hx : exec C n b' e σ with
        | none => rw [hx] at h; cases h
        | some r1 =>
          obtain ⟨ex, e1, σ1⟩ := r1
          rw [hx] at h
          rw [rounds_succ]
          refine exec_sound hC hB n b' b hk hx hSt ?_
          cases ex with
          | normal => exact fun a1 w1 h1 => ih h h1
          | exit id => simp only [Option.some.injEq] at h; subst h; exact hQ
          | ret => simp only [Option.some.injEq] at h; subst h; exact hQ
          | panic d => simp only [Option.some.injEq] at h; subst h; exact hQ
    exact wp_loop_rounds n (key n h hSt)
  | .region l perm clr, c, hk, e, σ, a, w, r, Q, h, hSt, hQ => by
    simp only [exec] at h
    cases ho : runOps C l e σ with
    | none => rw [ho] at h; cases h
    | some out =>
      rw [ho] at h
      have hpost : perm = none → OpsPost ι0 j0 own0 w0 N Q out := by
        rintro rfl
        cases out with
        | normal e1 σ1 =>
          simp only [Option.some.injEq] at h
          subst h
          exact fun a1 w1 h1 => hQ a1 w1 (h1.clear clr)
        | panic d e1 σ1 =>
          simp only [Option.some.injEq] at h
          subst h
          exact hQ
      have hpostD : ∀ p, perm = some p → OpsPostD ι0 j0 own0 w0 N Q out := by
        rintro p rfl
        cases out with
        | normal e1 σ1 =>
          simp only [Option.some.injEq] at h
          subst h
          exact fun a1 w1 h1 => hQ a1 w1 (h1.clear clr)
        | panic d e1 σ1 =>
          simp only [Option.some.injEq] at h
          subst h
          exact hQ
      cases c with
      | region id ops d =>
        cases d with
        | false =>
          cases perm with
          | none =>
            simp only [okCode, Bool.and_eq_true] at hk
            exact wp_region_list (wpList_sound hC hB hk.1 _ _ hk.2 ho hSt (hpost rfl))
          | some p => simp [okCode] at hk
        | true =>
          cases perm with
          | none => simp [okCode] at hk
          | some p =>
            simp only [okCode, okDrawn, Bool.and_eq_true, beq_iff_eq] at hk
            obtain ⟨hm, ⟨⟨⟨⟨⟨⟨⟨k1, k2⟩, k3⟩, k3b⟩, k4⟩, k5⟩, k6⟩, k7⟩⟩ := hk
            refine wp_region_any hm ?_
            have hmap1 : (p.zip l).map (·.1) = p := by
              rw [show ((p.zip l).map (·.1)) = (p.zip l).map Prod.fst from rfl, List.map_fst_zip (by omega)]
            have hmap2 : (p.zip l).map (·.2) = l := by
              rw [show ((p.zip l).map (·.2)) = (p.zip l).map Prod.snd from rfl, List.map_snd_zip (by omega)]
            have hlen : (p.zip l).length = ops.size := by rw [List.length_zip]; omega
            have hall : ∀ k, k < ops.size → k ∈ p := fun k hk => by
              simpa using List.all_eq_true.1 k3b k (List.mem_range.2 hk)
            have := wpAny_drawn hC hB k4 k5 (p.zip l) (Array.replicate ops.size false) (Q := Q) k6 k7 (by rw [hmap1]; exact nodupN_spec k3) (by simp) (fun k hk => by
              rw [hmap1]
              refine ⟨fun _ => hall k hk, fun _ => ?_⟩
              simp [hk]) (fun k hk hn => absurd (by rw [hmap1]; exact hall k hk) hn) (by rw [hmap2]; exact ho) hSt.draw (hpostD p rfl)
            rw [hlen] at this
            exact this
      | _ => simp [okCode] at hk
end
end Go.Mx

/-
  Whole calls: results, deferred calls, and the theorem: what the machine yields, the program's function answers.
-/
namespace Go.Mx
open Go
def CSoundD (P : Program) (κ : Ctx) (C : CallF) : Prop := ∀ f ds σ out σ', C f ds σ = some (out, σ') → CallOKD P κ f ds σ out σ'
section
variable {P : Program} {N : Nat} {e : Env} {a : Go.Act} {w : World} {σ : Store} {ι ι0 : Imm} {j j0 : Lay} {own own0 : Own} {w0 : World} {lb : Lay} {κ : Ctx}

/-! ### Results -/
def resOf (tmps : Array Value) : ResultVar → Sem Value
  | .tmp t => pure (tmps.getD t undef)
  | .cell a t => do loadVar t (← asAddr (tmps.getD a undef))
theorem readRes1_sound (hG : GSim ι j own σ w) (hL : LSim ι j own lb N e a w) {r : ResultVar} {r' : ARes} (hk : okRes P [r] [r'] = true) {c : Cell} (h : readRes1 e σ r' = some c) :
    ∃ v, (resOf a.tmps r).run P w = .ok v w ∧ Rep ι j c.d v ∧ (c.own = true → ∃ t, t.isLocal = true ∧ Owned ι own w t c.d v) := by
  cases r with
  | tmp t =>
    cases r' <;> simp only [okRes, Bool.false_eq_true, Bool.and_eq_true, beq_iff_eq] at hk
    obtain ⟨rfl, _⟩ := hk
    simp only [readRes1] at h
    have hr := hL.slots _ c h
    exact ⟨_, rfl, hr.1, fun ho => ⟨_, rfl, hr.2 ho⟩⟩
  | cell t ty =>
    have hkk : (∃ k, r' = .cell t k ∧ okK P ty k = true) ∨ ∃ k, r' = .cellA t k ∧ okK P ty (some k) = true := by
      cases r' with
      | tmp s => simp [okRes] at hk
      | cell s k =>
        simp only [okRes, Bool.and_eq_true, beq_iff_eq] at hk
        exact .inl ⟨k, by rw [hk.1.1], hk.1.2⟩
      | cellA s k =>
        simp only [okRes, Bool.and_eq_true, beq_iff_eq] at hk
        exact .inr ⟨k, by rw [hk.1.1], hk.1.2⟩
    rcases hkk with ⟨k, rfl, hkk⟩ | ⟨k, rfl, hkk⟩
    case inr =>
      simp only [readRes1] at h
      obtain ⟨p, h1, h⟩ := bindO_some h
      have hx := addr_rel (x := .tmp t) hL (by simp [okOpd]) h1
      have ev : a.eval (.tmp t) = a.tmps.getD t undef := rfl
      rw [ev] at hx
      split at h
      · obtain ⟨B, hB, hx⟩ := hx
        obtain ⟨cs, h2, h⟩ := bindO_some h
        obtain ⟨h3, h⟩ := ifB_some h
        cases h
        obtain ⟨B', hB', _, hbox⟩ := hL.boxes _ cs h2
        rw [hB] at hB'
        cases hB'
        obtain ⟨u, hu, hru, hO⟩ := whole_rel hbox hkk (by simpa using h3)
        exact ⟨u, by simp only [resOf, hx, asAddr, Sem.run_bind, Sem.run_pure, Result.andThen_ok, hu], hru, fun ho => ⟨_, rfl, hO ho⟩⟩
      · cases h
    simp only [readRes1] at h
    obtain ⟨p, h1, h⟩ := bindO_some h
    have hx := addr_rel (x := .tmp t) hL (by simp [okOpd]) h1
    have ev : a.eval (.tmp t) = a.tmps.getD t undef := rfl
    rw [ev] at hx
    cases p with
    | loc b off =>
      obtain ⟨B, hB, hx⟩ := hx
      obtain ⟨cs, h2, h⟩ := bindO_some h
      obtain ⟨B', hB', _, hbox⟩ := hL.boxes b cs h2
      rw [hB] at hB'
      cases hB'
      obtain ⟨u, hu, hru, q1, q2⟩ := readCells_rel hbox hkk h
      refine ⟨u, ?_, hru, fun ho => ?_⟩
      · simp only [resOf, hx, asAddr, Sem.run_bind, Sem.run_pure, Result.andThen_ok, hu]
      · cases k with
        | none => exact ⟨_, rfl, (q1 rfl).2.2.2 ho⟩
        | some n => rw [q2 (by simp)] at ho; cases ho
    | ptr id off =>
      obtain ⟨B, hB, hx⟩ := hx
      obtain ⟨cs, h2, h⟩ := bindO_some h
      obtain ⟨c', h3, h⟩ := bindO_some h
      cases h
      obtain ⟨B', hB', _, hbox⟩ := hG.objs id cs h2
      rw [hB] at hB'
      cases hB'
      obtain ⟨u, hu, hru, _⟩ := readCells_rel hbox hkk h3
      exact ⟨u, by simp only [resOf, hx, asAddr, Sem.run_bind, Sem.run_pure, Result.andThen_ok, hu], hru, fun ho => by cases ho⟩
    | eptr d => cases h
theorem readRess_sound (hG : GSim ι j own σ w) (hL : LSim ι j own lb N e a w) : ∀ {rs : List ResultVar} {rs' : List ARes}, okRes P rs rs' = true → ∀ {ds : List D}, readRess e σ rs' = some ds → ∃ vs : List Value, (rs.mapM (resOf a.tmps)).run P w = .ok vs w ∧ RepL ι j ds vs
  | [], [], _, ds, h => by
    simp only [readRess, Option.some.injEq] at h
    subst h
    exact ⟨[], by simp, by simp only [RepL]⟩
  | [], _ :: _, hk, _, _ => by simp [okRes] at hk
  | _ :: _, [], hk, _, _ => by simp [okRes] at hk
  | r :: rs, r' :: rs', hk, ds, h => by
    simp only [readRess] at h
    obtain ⟨c, h1, h⟩ := bindO_some h
    obtain ⟨ds', h2, h⟩ := bindO_some h
    cases h
    have hk2 : okRes P [r] [r'] = true ∧ okRes P rs rs' = true := by
      cases r <;> cases r' <;> simp_all [okRes]
    obtain ⟨v, k1, k2, _⟩ := readRes1_sound hG hL hk2.1 h1
    obtain ⟨vs, q1, q2⟩ := readRess_sound hG hL hk2.2 h2
    refine ⟨v :: vs, ?_, by simp only [RepL]; exact ⟨_, _, rfl, k2, q2⟩⟩
    simp only [List.mapM_cons, Sem.run_bind, k1, Result.andThen_ok, q1, Sem.run_pure]
theorem results_eq (fn : Func) (tmps : Array Value) : results fn tmps = (do let vs ← fn.results.mapM (resOf tmps); pure (if h : vs.size = 1 then vs[0] else .tuple vs)) := by
  unfold results
  congr 1
theorem readRes_sound (hG : GSim ι j own σ w) (hL : LSim ι j own lb N e a w) {fn : Func} {rs' : List ARes} (hk : okRes P fn.results.toList rs' = true) {c : Cell} (h : readRes e σ rs' = some c) :
    ∃ v, (results fn a.tmps).run P w = .ok v w ∧ Rep ι j c.d v ∧ (c.own = true → ∃ t, t.isLocal = true ∧ Owned ι own w t c.d v) := by
  rw [results_eq, Array.mapM_eq_mapM_toList]
  simp only [map_eq_pure_bind, Sem.run_bind]
  have one : ∀ r r', fn.results.toList = [r] → rs' = [r'] → ∃ v, (((fn.results.toList.mapM (resOf a.tmps)).run P w).andThen fun x => (pure x.toArray : Sem (Array Value)).run P).andThen (fun vs => (pure (if h : vs.size = 1 then vs[0] else .tuple vs) : Sem Value).run P) = .ok v w ∧ Rep ι j c.d v ∧ (c.own = true → ∃ t, t.isLocal = true ∧ Owned ι own w t c.d v) := by
    rintro r r' hl rfl
    rw [hl] at hk ⊢
    obtain ⟨v, k1, k2, k3⟩ := readRes1_sound hG hL hk h
    refine ⟨v, ?_, k2, k3⟩
    simp only [List.mapM_cons, List.mapM_nil, Sem.run_bind, k1, Result.andThen_ok, Sem.run_pure]
    rfl
  have many : readRes e σ rs' = (bindO (readRess e σ rs') fun ds => some ⟨false, .tup ds⟩) → rs'.length ≠ 1 → ∃ v, (((fn.results.toList.mapM (resOf a.tmps)).run P w).andThen fun x => (pure x.toArray : Sem (Array Value)).run P).andThen (fun vs => (pure (if h : vs.size = 1 then vs[0] else .tuple vs) : Sem Value).run P) = .ok v w ∧ Rep ι j c.d v ∧ (c.own = true → ∃ t, t.isLocal = true ∧ Owned ι own w t c.d v) := by
    intro hr hl
    rw [hr] at h
    obtain ⟨ds, h1, h⟩ := bindO_some h
    cases h
    obtain ⟨vs, k1, k2⟩ := readRess_sound hG hL hk h1
    have hlen : ∀ {rs' : List ARes} {ds : List D}, readRess e σ rs' = some ds → ds.length = rs'.length := by
      intro rs'
      induction rs' with
      | nil => intro ds h; simp only [readRess, Option.some.injEq] at h; subst h; rfl
      | cons r rs' ih =>
        intro ds h
        simp only [readRess] at h
        obtain ⟨c, _, h⟩ := bindO_some h
        obtain ⟨ds', h2, h⟩ := bindO_some h
        cases h
        simp [ih h2]
    have hsz : ¬ vs.toArray.size = 1 := by
      have := k2.length
      have := hlen h1
      simp only [List.size_toArray]
      omega
    refine ⟨.tuple vs.toArray, ?_, by simp only [Rep]; exact ⟨vs, rfl, k2⟩, fun h => by cases h⟩
    simp only [k1, Result.andThen_ok, Sem.run_pure, dif_neg hsz]
  cases rs' with
  | nil => exact many rfl (by simp)
  | cons r' rs' =>
    cases rs' with
    | nil =>
      cases hl : fn.results.toList with
      | nil => rw [hl] at hk; simp [okRes] at hk
      | cons r rs =>
        cases rs with
        | nil => rw [← hl]; exact one r r' hl rfl
        | cons r2 rs => rw [hl] at hk; cases r <;> cases r' <;> simp [okRes] at hk
    | cons r2 rs' => exact many rfl (by simp)

/-! ### What is handed out -/
theorem Answer.ret (hG : GSim ι j own σ w) (hE : Evo ι0 j0 own0 w0 ι j own w (fun _ => True)) {c : Cell} {v : Value} (hr : Rep ι j c.d v) (ho : c.own = true → ∃ t, t.isLocal = true ∧ Owned ι own w t c.d v) : Answer ι0 j0 own0 w0 (.ret c) σ (.returned v) w := by
  have hE' : Evo ι0 j0 own0 w0 ι j (shared own) w (fun _ => True) := by
    refine ⟨hE.os, hE.tape, hE.output, hE.size, hE.imm, hE.lay, fun b hb ht => ?_⟩
    have hn : own0 b = none := by
      cases h : own0 b with
      | none => rfl
      | some t => exact absurd trivial (ht t h)
    obtain ⟨k1, k2, k3⟩ := hE.block b hb ht
    refine ⟨k1, ?_, k3⟩
    unfold shared
    rw [k2, hn]
  refine ⟨ι, j, shared own, hG.toShared, hE', shared_shared own, hr, fun h => ?_⟩
  obtain ⟨t, ht, hO⟩ := ho h
  unfold Owned at hO
  unfold Fresh
  cases hp : prin c.d v with
  | none => trivial
  | some p =>
    rw [hp] at hO
    rcases hO with hO | ⟨b, cap, cur, T, f1, f2, f3, f4, f5⟩
    · exact .inl hO
    · refine .inr ⟨b, cap, cur, T, f1, ?_, ?_, f3, f4, f5⟩
      · by_cases hb : w0.heap.size ≤ b
        · exact .inl hb
        · cases h0 : own0 b with
          | some u => exact .inr rfl
          | none =>
            have := (hE.block b (by omega) (fun t h => by rw [h0] at h; cases h)).2.1
            rw [f2, h0] at this
            cases this
      · unfold shared
        rw [f2]
        simp [ht]
theorem Answer.panic (hG : GSim ι j own σ w) (hE : Evo ι0 j0 own0 w0 ι j own w (fun _ => True)) {d : D} {v : Value} (hr : Rep ι j d v) : Answer ι0 j0 own0 w0 (.panic d) σ (.panicked [{ v := v, recovered := false }]) w := by
  have hE' : Evo ι0 j0 own0 w0 ι j (shared own) w (fun _ => True) := by
    refine ⟨hE.os, hE.tape, hE.output, hE.size, hE.imm, hE.lay, fun b hb ht => ?_⟩
    have hn : own0 b = none := by
      cases h : own0 b with
      | none => rfl
      | some t => exact absurd trivial (ht t h)
    obtain ⟨k1, k2, k3⟩ := hE.block b hb ht
    refine ⟨k1, ?_, k3⟩
    unfold shared
    rw [k2, hn]
  exact ⟨ι, j, shared own, hG.toShared, hE', shared_shared own, v, rfl, hr⟩
theorem aget_filter {α : Type} (m : Nat) : ∀ (l : List (Nat × α)) (id : Nat) (x : α), aget (l.filter fun p => p.1 < m) id = some x → aget l id = some x
  | [], _, _, h => by simp [aget_nil] at h
  | (k, v) :: l, id, x, h => by
    rw [List.filter_cons] at h
    by_cases hk : k < m
    · simp only [hk, decide_true, if_true] at h
      rw [aget_cons] at h ⊢
      split at h
      · rename_i hki; rw [if_pos hki]; exact h
      · rename_i hki; rw [if_neg hki]; exact aget_filter m l id x h
    · simp only [hk, decide_false, Bool.false_eq_true, if_false] at h
      rw [aget_cons]
      by_cases hki : k = id
      · subst hki
        exfalso
        -- nothing of this key is left
        have : ∀ (l : List (Nat × α)), aget (l.filter fun p => p.1 < m) k = none := by
          intro l
          induction l with
          | nil => rfl
          | cons q l ih =>
            obtain ⟨q, u⟩ := q
            rw [List.filter_cons]
            by_cases hq : q < m
            · simp only [hq, decide_true, if_true]
              rw [aget_cons, if_neg (by omega)]
              exact ih
            · simp only [hq, decide_false, Bool.false_eq_true, if_false]
              exact ih
        rw [this] at h
        cases h
      · rw [if_neg hki]
        exact aget_filter m l id x h
theorem GSim.trunc (hG : GSim ι j own σ w) (b : Bool) (m : Nat) : GSim ι j own (ifB b (σ.trunc m) σ) w := by
  cases b with
  | false => exact hG
  | true => exact hG.sub (fun id cs h => ⟨cs, aget_filter m _ _ _ h, Weaker.refl cs⟩) (Nat.le_refl _) (fun id t h => aget_filter m _ _ _ h) (fun id x h => aget_filter m _ _ _ h)

/-! ### Deferred calls -/
def ModeRel (ι : Imm) (j : Lay) : Option D → FrameMode → Prop
  | none, u => u = .returning
  | some d, u => ∃ v, u = .panicking [{ v := v, recovered := false }] ∧ Rep ι j d v
theorem ModeRel.run {m : Option D} {u : FrameMode} (h : ModeRel ι j m u) : u ≠ .run ∧ settle u = u := by
  cases m with
  | none => subst h; exact ⟨(fun h => by cases h), rfl⟩
  | some d => obtain ⟨v, rfl, _⟩ := h; exact ⟨(fun h => by cases h), rfl⟩
theorem ModeRel.evo {ι' : Imm} {j' : Lay} {own' : Own} {w' : World} {TT : Tag → Prop} (h : Evo ι j own w ι' j' own' w' TT) {m : Option D} {u : FrameMode} (k : ModeRel ι j m u) : ModeRel ι' j' m u := by
  cases m with
  | none => exact k
  | some d => obtain ⟨v, h1, h2⟩ := k; exact ⟨v, h1, h.rep h2⟩
/-- What is said of a deferred function that may recover. -/
def RSound (P : Program) (κ : Ctx) (R : RecF) : Prop := ∀ f ds m σ m' σ', R f ds m σ = some (m', σ') → HasBody P f ∧ ∀ ι j own w vs u, Shared own → Base κ own w → GSim ι j own σ w → RepL ι j ds vs → ModeRel ι j m u →
  CallsD P f ⟨vs⟩ u w fun e u' w' => ∃ v ι' j' own', e = .returned v ∧ GSim ι' j' own' σ' w' ∧ Evo ι j own w ι' j' own' w' (fun _ => True) ∧ Shared own' ∧ ModeRel ι' j' m' (settle u')
theorem defers_sound {Rc : RecF} {C : CallF} (hR : RSound P κ Rc) (hD : CSoundD P κ C) (hB : Base κ own0 w0) {fn : Func} {R : Ending → World → Prop} {tmps : Array Value} {e0 : Env} : ∀ (l : List (FuncId × List D)) (ds : List Deferred) {m : Option D} {u : FrameMode} {ι j own lb w σ r} {a : Go.Act}, a.tmps = tmps → ModeRel ι j m u → DefRel ι j l ds →
    GSim ι j own σ w → LSim ι j own lb N e0 a w → Evo ι0 j0 own0 w0 ι j own w (fun _ => True) → runDefers Rc C m l σ = some r →
    (∀ (ι' : Imm) (j' : Lay) own' w' u', ModeRel ι' j' r.1 u' → GSim ι' j' own' r.2 w' → LSim ι' j' own' lb N e0 a w' → Evo ι j own w ι' j' own' w' (fun _ => True) → Evo ι0 j0 own0 w0 ι' j' own' w' (fun _ => True) → Leaves P fn tmps R [] u' w') → Leaves P fn tmps R ds u w
  | [], ds, m, u, ι, j, own, lb, w, σ, r, a, _, hm, hd, hG, hL, hE, hr, hfin => by
    simp only [DefRel] at hd
    subst hd
    simp only [runDefers, Option.some.injEq] at hr
    subst hr
    exact hfin ι j own w u hm hG hL (Evo.refl _ _ _ _ _) hE
  | (f, as) :: l, ds, m, u, ι, j, own, lb, w, σ, r, a, ha, hm, hd, hG, hL, hE, hr, hfin => by
    simp only [DefRel] at hd
    obtain ⟨cap, args, ds', rfl, hrep, hd⟩ := hd
    simp only [runDefers] at hr
    obtain ⟨hu, hset⟩ := hm.run
    cases hrec : Rc f as m σ with
    | some x =>
      rw [hrec] at hr
      simp only at hr
      obtain ⟨m1, σ1⟩ := x
      obtain ⟨⟨fn', c', b1, b2, b3⟩, hcall⟩ := hR f as m σ m1 σ1 hrec
      refine leaves_cons hu (f := f) (args := args ++ cap) ?_ ?_
      · simp only [invoke]
        exact MuLone.run_callFunc_enter b1 b2 b3 _ w
      · have hc := hcall ι j (shared own) w (args ++ cap).toList u (shared_shared own) (hB.evo hE).shared hG.toShared hrep hm
        refine hc.mono ?_
        rintro en u' w' ⟨v, ι', j', own1, rfl, k1, k2, k3, k4⟩
        obtain ⟨own2, q1, q2, q3, _⟩ := call_back hG hL k1 k2 k3 0 false .undef v (fun h => by cases h)
        exact defers_sound hR hD hB l ds' ha k4 (q3.defRel _ _ hd) q1 q2 (hE.trans q3) hr (fun ι'' j'' own'' w'' u'' g0 g1 g2 g3 g4 => hfin ι'' j'' own'' w'' u'' g0 g1 g2 (q3.trans g3) g4)
    | none =>
      rw [hrec] at hr
      simp only at hr
      obtain ⟨⟨o, σ1⟩, h1, hr⟩ := bindO_some hr
      obtain ⟨⟨fn', c', b1, b2, b3⟩, hcall⟩ := hD f as σ o σ1 h1
      refine leaves_cons hu (f := f) (args := args ++ cap) ?_ ?_
      · simp only [invoke]
        exact MuLone.run_callFunc_enter b1 b2 b3 _ w
      · have hc := hcall ι j (shared own) w (args ++ cap).toList u (shared_shared own) (hB.evo hE).shared hG.toShared hrep
        refine hc.mono ?_
        rintro en u' w' ⟨rfl, ι', j', own1, k1, k2, k3, k4⟩
        cases o with
        | panic d => simp only at hr; cases hr
        | ret c =>
          cases en with
          | panicked chain => exact k4.elim
          | outgrown => exact k4.elim
          | returned v =>
            simp only at hr
            obtain ⟨own2, q1, q2, q3, _⟩ := call_back hG hL k1 k2 k3 0 false c.d v (fun h => by cases h)
            simp only [hset]
            exact defers_sound hR hD hB l ds' ha (hm.evo q3) (q3.defRel _ _ hd) q1 q2 (hE.trans q3) hr (fun ι'' j'' own'' w'' u'' g0 g1 g2 g3 g4 => hfin ι'' j'' own'' w'' u'' g0 g1 g2 (q3.trans g3) g4)

/-! ### A call -/
theorem init_sim (hG : GSim ι j own σ w) {ds : List D} {vs : List Value} (hr : RepL ι j ds vs) (hN : ds.length ≤ N) :
    LSim ι j own (fun _ => none) N (initEnv ds) { tmps := (⟨vs⟩ : Array Value) ++ Array.replicate (N - vs.length) undef, defers := [] } w := by
  have hl := hr.length
  have key : ∀ (ds : List D) (vs : List Value) (i : Nat), RepL ι j ds vs → ∀ s c, aget (initSlots i ds) s = some c → ∃ d v, c = ⟨false, d⟩ ∧ i ≤ s ∧ vs[s - i]? = some v ∧ Rep ι j d v := by
    intro ds
    induction ds with
    | nil => intro vs i _ s c h; simp [initSlots, aget_nil] at h
    | cons d ds ih =>
      intro vs i hr s c h
      simp only [RepL] at hr
      obtain ⟨x, r, rfl, h1, h2⟩ := hr
      simp only [initSlots, aget_cons] at h
      by_cases his : i = s
      · subst his
        rw [if_pos rfl] at h
        cases h
        exact ⟨d, x, rfl, Nat.le_refl _, by simp, h1⟩
      · rw [if_neg his] at h
        obtain ⟨d', v, k1, k2, k3, k4⟩ := ih r (i + 1) h2 s c h
        refine ⟨d', v, k1, by omega, ?_, k4⟩
        have : s - i = (s - (i + 1)) + 1 := by omega
        rw [this, List.getElem?_cons_succ]
        exact k3
  refine ⟨by simp; omega, fun s c h => ?_, fun s b o h => by simp [initEnv, aget_nil] at h, fun s cs h => by simp [initEnv, aget_nil] at h, by simp [initEnv, DefRel]⟩
  obtain ⟨d, v, rfl, _, h2, h3⟩ := key ds vs 0 hr s c h
  refine ⟨?_, fun h => by cases h⟩
  have : (((⟨vs⟩ : Array Value) ++ Array.replicate (N - vs.length) undef).getD s Go.undef) = v := by
    have hlt := (List.getElem?_eq_some_iff.1 h2).1
    rw [Array.getD_eq_getD_getElem?, Array.getElem?_append_left (by simpa using hlt)]
    simp only [Nat.sub_zero] at h2
    simp [h2]
  rw [this]
  exact h3

def Holds (P : Program) (Γ : FuncId → Option AFun) : Prop := ∀ f af, Γ f = some af → ∃ fn, P.funcs[f]? = some fn ∧ okFun P fn af = true
theorem run_sound {Γ : FuncId → Option AFun} {R : RecF} {X : CallF} (hΓ : Holds P Γ) (hR : RSound P κ R) (hX : CSound P κ X) : ∀ n, CSound P κ (runQ Γ R X n false) ∧ CSoundD P κ (runQ Γ R X n true)
  | 0 => ⟨fun _ _ _ _ _ h => by simp [runQ] at h, fun _ _ _ _ _ h => by simp [runQ] at h⟩
  | n + 1 => by
    obtain ⟨hC, hD⟩ := run_sound hΓ hR hX n
    have body : ∀ {quiet f ds σ out σ'}, runQ Γ R X (n + 1) quiet f ds σ = some (out, σ') → (Γ f = none ∧ quiet = false ∧ X f ds σ = some (out, σ')) ∨
        ∃ fn c, P.funcs[f]? = some fn ∧ fn.body = some c ∧ (fn.name == "runtime.NumGoroutine") = false ∧ ∀ ι j own w vs, Shared own → Base κ own w → GSim ι j own σ w → RepL ι j ds vs →
          (quiet = false → c.wp P (bodyPostD P fn (Answer ι j own w out σ')) { tmps := (⟨vs⟩ : Array Value) ++ Array.replicate (fn.ntmps - vs.length) undef, defers := [] } w) ∧
          (quiet = true → c.wp P (bodyPost P fn (Answer ι j own w out σ')) { tmps := (⟨vs⟩ : Array Value) ++ Array.replicate (fn.ntmps - vs.length) undef, defers := [] } w) := by
      intro quiet f ds σ out σ' h
      simp only [runQ] at h
      cases hg : Γ f with
      | none =>
        rw [hg] at h
        simp only at h
        obtain ⟨h1, h⟩ := ifB_some' h
        exact .inl ⟨rfl, h1, h⟩
      | some af =>
        rw [hg] at h
        simp only at h
        obtain ⟨hlen, h⟩ := ifB_some h
        obtain ⟨fn, hfn, hok⟩ := hΓ f af hg
        unfold okFun at hok
        split at hok
        · rename_i c hc
          simp only [Bool.and_eq_true, Bool.not_eq_true', decide_eq_true_eq] at hok
          obtain ⟨⟨⟨hname, hnt⟩, hcode⟩, hres⟩ := hok
          simp only [beq_iff_eq] at hlen
          refine .inr ⟨fn, c, hfn, hc, hname, fun ι j own w vs hS hB hG hr => ?_⟩
          cases hx : exec (runQ Γ R X n false) n af.body (initEnv ds) σ with
          | none => rw [hx] at h; cases h
          | some r =>
            rw [hx] at h
            simp only at h
            obtain ⟨x, e1, σ1⟩ := r
            simp only [finish] at h
            obtain ⟨hq, h⟩ := ifB_some' h
            have hL := init_sim (N := fn.ntmps) hG hr (by omega)
            have hSt : St ι j own w fn.ntmps (initEnv ds) σ { tmps := (⟨vs⟩ : Array Value) ++ Array.replicate (fn.ntmps - vs.length) undef, defers := [] } w := ⟨ι, j, own, _, hG, hL, Evo.refl _ _ _ _ _⟩
            -- how it ends, by returning
            have fin1 : ∀ {c0 : Cell} {σ2 : Store}, readRes e1 σ2 af.res = some c0 → out = .ret c0 → σ' = ifB af.gc (σ2.trunc σ.next) σ2 → ∀ {ι' j' own' lb' w'} {a' : Go.Act}, GSim ι' j' own' σ2 w' → LSim ι' j' own' lb' fn.ntmps e1 a' w' → Evo ι j own w ι' j' own' w' (fun _ => True) →
                ∃ v, (results fn a'.tmps).run P w' = .ok v w' ∧ Answer ι j own w out σ' (.returned v) w' := by
              rintro c0 σ2 hres2 rfl rfl ι' j' own' lb' w' a' g1 g2 g3
              obtain ⟨v, k1, k2, k3⟩ := readRes_sound g1 g2 hres hres2
              exact ⟨v, k1, Answer.ret (g1.trunc _ _) g3 k2 k3⟩
            -- how the deferred calls end
            have fin2 : ∀ {m : Option D} {r : Option D × Store}, runDefers R (runQ Γ R X n true) m e1.defers σ1 = some r →
                (match r.1 with | none => bindO (readRes e1 r.2 af.res) fun c => some (Out.ret c, ifB af.gc (r.2.trunc σ.next) r.2) | some d' => some (Out.panic d', ifB af.gc (r.2.trunc σ.next) r.2)) = some (out, σ') →
                ∀ {ι' j' own' lb'} {a1 : Go.Act} {w1 u}, ModeRel ι' j' m u → GSim ι' j' own' σ1 w1 → LSim ι' j' own' lb' fn.ntmps e1 a1 w1 → Evo ι j own w ι' j' own' w1 (fun _ => True) →
                Leaves P fn a1.tmps (Answer ι j own w out σ') a1.defers u w1 ∧ (e1.defers = [] → a1.defers = [] ∧ Leaves P fn a1.tmps (Answer ι j own w out σ') [] u w1) := by
              intro m r h1 h2 ι' j' own' lb' a1 w1 u hm g1 g2 g3
              have last : ∀ (ι'' : Imm) (j'' : Lay) own'' w'' u', ModeRel ι'' j'' r.1 u' → GSim ι'' j'' own'' r.2 w'' → LSim ι'' j'' own'' lb' fn.ntmps e1 a1 w'' → Evo ι j own w ι'' j'' own'' w'' (fun _ => True) → Leaves P fn a1.tmps (Answer ι j own w out σ') [] u' w'' := by
                intro ι'' j'' own'' w'' u' hm' k1 k2 k3
                obtain ⟨rm, rσ⟩ := r
                cases rm with
                | none =>
                  simp only [ModeRel] at hm'
                  subst hm'
                  simp only at h2
                  obtain ⟨c0, h3, h2⟩ := bindO_some h2
                  cases h2
                  exact fin1 h3 rfl rfl k1 k2 k3
                | some d' =>
                  obtain ⟨v, rfl, hv⟩ := hm'
                  simp only [Option.some.injEq, Prod.mk.injEq] at h2
                  obtain ⟨rfl, rfl⟩ := h2
                  exact Answer.panic (k1.trunc _ _) k3 hv
              refine ⟨defers_sound hR hD hB e1.defers a1.defers rfl hm g2.defers g1 g2 g3 h1 (fun ι'' j'' own'' w'' u' k0 k1 k2 k3 k4 => last ι'' j'' own'' w'' u' k0 k1 k2 k4), fun hnil => ?_⟩
              have hd := g2.defers
              rw [hnil] at hd h1
              simp only [DefRel] at hd
              simp only [runDefers, Option.some.injEq] at h1
              subst h1
              exact ⟨hd, last ι' j' own' w1 u hm g1 g2 g3⟩
            -- the two ways to leave the body
            have retd : ∀ {r : Option D × Store}, runDefers R (runQ Γ R X n true) none e1.defers σ1 = some r →
                (match r.1 with | none => bindO (readRes e1 r.2 af.res) fun c => some (Out.ret c, ifB af.gc (r.2.trunc σ.next) r.2) | some _ => none) = some (out, σ') →
                ∀ a1 w1, St ι j own w fn.ntmps e1 σ1 a1 w1 → Leaves P fn a1.tmps (Answer ι j own w out σ') a1.defers .returning w1 ∧ (e1.defers = [] → a1.defers = [] ∧ Leaves P fn a1.tmps (Answer ι j own w out σ') [] .returning w1) := by
              rintro ⟨rm, rσ⟩ h1 h2 a1 w1 ⟨ι', j', own', lb', g1, g2, g3⟩
              cases rm with
              | none => exact fin2 h1 h2 (m := none) (by simp only [ModeRel]) g1 g2 g3
              | some d' => simp only at h2; cases h2
            have pand : ∀ {d : D} {r : Option D × Store}, runDefers R (runQ Γ R X n true) (some d) e1.defers σ1 = some r →
                (match r.1 with | none => bindO (readRes e1 r.2 af.res) fun c => some (Out.ret c, ifB af.gc (r.2.trunc σ.next) r.2) | some d' => some (Out.panic d', ifB af.gc (r.2.trunc σ.next) r.2)) = some (out, σ') →
                ∀ a1 w1 chain, StP ι j own w fn.ntmps d chain e1 σ1 a1 w1 → Leaves P fn a1.tmps (Answer ι j own w out σ') a1.defers (.panicking chain) w1 ∧ (e1.defers = [] → a1.defers = [] ∧ Leaves P fn a1.tmps (Answer ι j own w out σ') [] (.panicking chain) w1) := by
              rintro d r h1 h2 a1 w1 chain ⟨ι', j', own', lb', g1, g2, g3, v, rfl, g4⟩
              exact fin2 h1 h2 (m := some d) ⟨v, rfl, g4⟩ g1 g2 g3
            refine ⟨fun _ => ?_, fun hqt => ?_⟩
            · refine exec_sound hC hB n af.body c hcode hx hSt ?_
              cases x with
              | normal =>
                obtain ⟨r, h1, h⟩ := bindO_some h
                exact fun a1 w1 hs => (retd h1 h a1 w1 hs).1
              | ret =>
                obtain ⟨r, h1, h⟩ := bindO_some h
                exact fun a1 w1 hs => (retd h1 h a1 w1 hs).1
              | panic d =>
                obtain ⟨r, h1, h⟩ := bindO_some h
                exact fun a1 w1 chain hs => (pand h1 h a1 w1 chain hs).1
              | exit id => cases h
            · have hnil : e1.defers = [] := by
                rw [hqt] at hq
                simpa using hq
              refine exec_sound hC hB n af.body c hcode hx hSt ?_
              cases x with
              | normal =>
                obtain ⟨r, h1, h⟩ := bindO_some h
                exact fun a1 w1 hs => (retd h1 h a1 w1 hs).2 hnil
              | ret =>
                obtain ⟨r, h1, h⟩ := bindO_some h
                exact fun a1 w1 hs => (retd h1 h a1 w1 hs).2 hnil
              | panic d =>
                obtain ⟨r, h1, h⟩ := bindO_some h
                exact fun a1 w1 chain hs => (pand h1 h a1 w1 chain hs).2 hnil
              | exit id => cases h
        · cases hok
    refine ⟨fun f ds σ out σ' h => ?_, fun f ds σ out σ' h => ?_⟩
    · rcases body h with ⟨_, _, hx⟩ | ⟨fn, c, h1, h2, h3, h4⟩
      · exact hX f ds σ out σ' hx
      · exact ⟨⟨fn, c, h1, h3, h2⟩, fun ι j own w vs hS hB hG hr => calls_of_wp_defers h1 h2 ((h4 ι j own w vs hS hB hG hr).1 rfl)⟩
    · rcases body h with ⟨_, hq, _⟩ | ⟨fn, c, h1, h2, h3, h4⟩
      · cases hq
      · exact ⟨⟨fn, c, h1, h3, h2⟩, fun ι j own w vs u hS hB hG hr => callsD_of_wp h1 h2 ((h4 ι j own w vs hS hB hG hr).2 rfl)⟩
end
end Go.Mx

/-
  What is called with data that hold no place of the store leaves the store: proved at the empty store, it holds at every one. And library functions that only read.
-/
namespace Go.Mx
open Go
mutual
def noPtr : D → Bool
  | .ptr _ _ => false
  | .agg cs => noPtrL cs
  | .tup ds => noPtrL ds
  | .list _ es => noPtrL es
  | .eptr d => noPtr d
  | .fn _ a b => noPtrL a && noPtrL b
  | .iface _ d => noPtr d
  | _ => true
def noPtrL : List D → Bool
  | [] => true
  | d :: l => noPtr d && noPtrL l
end
mutual
theorem Rep.swap {ι : Imm} {j j' : Lay} : ∀ (d : D) (v : Value), noPtr d = true → Rep ι j d v → Rep ι j' d v
  | .undef, _, _, h | .bool _, _, _, h | .int _ _, _, _, h | .str _, _, _, h | .nils, _, _, h | .nilp, _, _, h | .nilfn, _, _, h | .niliface, _, _, h => by simpa only [Rep] using h
  | .junk, _, _, _ => by simp only [Rep]
  | .list sz es, v, hp, h => by
    simp only [noPtr] at hp
    simp only [Rep] at h ⊢
    obtain ⟨a, cap, h1, h2, h3, h4⟩ := h
    refine ⟨a, cap, h1, h2, h3, ?_⟩
    rcases h4 with h4 | ⟨b, o, ha, hr⟩
    · exact .inl h4
    · exact .inr ⟨b, o, ha, RepRow.swap sz.sz es b o hp hr⟩
  | .agg cs, v, hp, h => by
    simp only [noPtr] at hp
    simp only [Rep] at h ⊢
    obtain ⟨vs, h1, h2, h3⟩ := h
    exact ⟨vs, h1, RepL.swap cs vs hp h2, h3⟩
  | .tup ds, v, hp, h => by
    simp only [noPtr] at hp
    simp only [Rep] at h ⊢
    obtain ⟨vs, h1, h2⟩ := h
    exact ⟨vs, h1, RepL.swap ds vs hp h2⟩
  | .ptr id off, v, hp, h => by simp [noPtr] at hp
  | .eptr d, v, hp, h => by
    simp only [noPtr] at hp
    simp only [Rep] at h ⊢
    obtain ⟨b, o, x, h1, h2, h3⟩ := h
    exact ⟨b, o, x, h1, h2, Rep.swap d x hp h3⟩
  | .fn f first caps, v, hp, h => by
    simp only [noPtr, Bool.and_eq_true] at hp
    simp only [Rep] at h ⊢
    obtain ⟨vf, vc, h1, h2, h3⟩ := h
    exact ⟨vf, vc, h1, RepL.swap first vf hp.1 h2, RepL.swap caps vc hp.2 h3⟩
  | .iface t d, v, hp, h => by
    simp only [noPtr] at hp
    simp only [Rep] at h ⊢
    obtain ⟨x, h1, h2⟩ := h
    exact ⟨x, h1, Rep.swap d x hp h2⟩
theorem RepL.swap {ι : Imm} {j j' : Lay} : ∀ (ds : List D) (vs : List Value), noPtrL ds = true → RepL ι j ds vs → RepL ι j' ds vs
  | [], _, _, h => by simpa only [RepL] using h
  | d :: ds, vs, hp, h => by
    simp only [noPtrL, Bool.and_eq_true] at hp
    simp only [RepL] at h ⊢
    obtain ⟨x, r, h1, h2, h3⟩ := h
    exact ⟨x, r, h1, Rep.swap d x hp.1 h2, RepL.swap ds r hp.2 h3⟩
theorem RepRow.swap {ι : Imm} {j j' : Lay} (sz : Nat) : ∀ (ds : List D) (b o : Nat), noPtrL ds = true → RepRow ι j sz ds b o → RepRow ι j' sz ds b o
  | [], _, _, _, _ => by simp only [RepRow]
  | d :: ds, b, o, hp, h => by
    simp only [noPtrL, Bool.and_eq_true] at hp
    simp only [RepRow] at h ⊢
    obtain ⟨⟨x, h1, h2, h3⟩, h4⟩ := h
    exact ⟨⟨x, h1, h2, Rep.swap d x hp.1 h3⟩, RepRow.swap sz ds b (o + sz) hp.2 h4⟩
end
def σ0 : Store := { objs := [], tys := [], iters := [], next := 0 }
section
variable {P : Program} {ι : Imm} {j : Lay} {own : Own} {w : World} {σ : Store} {κ : Ctx}
theorem GSim.empty (hG : GSim ι j own σ w) : GSim ι (fun _ => none) (fun _ => none) σ0 w where
  holds := hG.holds
  noimm := fun _ _ h => by cases h
  objs := fun id cs h => by simp [σ0, aget_nil] at h
  tys := fun id t cs h => by simp [σ0, aget_nil] at h
  iters := fun id s pos h => by simp [σ0, aget_nil] at h
  jlt := fun _ _ h => by cases h
  ownlt := fun _ _ h => by cases h
/-- Where all old blocks are as they were, what is known of them stands. -/
theorem GSim.onto {ι' : Imm} {j' : Lay} {own' : Own} {σ' : Store} {w' : World} (hG : GSim ι j own σ w) (hG' : GSim ι' j' own' σ' w') (hE : Evo ι (fun _ => none) (fun _ => none) w ι' j' own' w' (fun _ => True)) :
    GSim ι' j own σ w' ∧ Evo ι j own w ι' j own w' (fun _ => True) := by
  have hE2 : Evo ι j own w ι' j own w' (fun _ => False) := ⟨hE.os, hE.tape, hE.output, hE.size, hE.imm, fun _ _ h => h, fun b hb _ => by
    obtain ⟨k1, _, k3⟩ := hE.block b hb (fun t h => by cases h)
    exact ⟨k1, rfl, k3⟩⟩
  refine ⟨hG.evo hE2 hG'.holds (fun b t h hu o => ?_) (fun b t h => Nat.lt_of_lt_of_le (hG.ownlt b t h) hE.size) hG.jlt (fun _ _ _ => ⟨fun h => h, fun _ _ _ _ h => h⟩) (fun _ _ _ h => h), hE2.weaken fun _ h => h.elim⟩
  rw [(hE2.block b (hG.ownlt b t h) (fun _ _ h => h)).2.2 o]
  exact hG.noimm b t h hu o
def Out.clean : Out → Bool
  | .ret c => noPtr c.d
  | .panic d => noPtr d
theorem frame_rule {f : FuncId} {ds : List D} {out : Out} {σ' : Store} (h : CallOK P κ f ds σ0 out σ') (hd : noPtrL ds = true) (hc : out.clean = true) (σ : Store) : CallOK P κ f ds σ out σ := by
  refine ⟨h.1, fun ι j own w vs hS hB hG hr => ?_⟩
  refine (h.2 ι (fun _ => none) (fun _ => none) w vs (fun _ _ h => by cases h) ⟨hB.size, fun _ _ => rfl, hB.K⟩ hG.empty (RepL.swap ds vs hd hr)).mono ?_
  rintro e w' ⟨ι', j', own', k1, k2, k3, k4⟩
  obtain ⟨g1, g2⟩ := hG.onto k1 k2
  refine ⟨ι', j, own, g1, g2, hS, ?_⟩
  cases out with
  | ret c =>
    cases e with
    | returned v =>
      simp only at k4 ⊢
      refine ⟨Rep.swap c.d v hc k4.1, fun ho => ?_⟩
      have hF := k4.2 ho
      unfold Fresh at hF ⊢
      cases hp : prin c.d v with
      | none => trivial
      | some p =>
        rw [hp] at hF
        rcases hF with hF | ⟨b, cap, cur, T, f1, f2, f3, f4, f5, f6⟩
        · exact .inl hF
        · have hb : w.heap.size ≤ b := f2.resolve_right (by simp)
          refine .inr ⟨b, cap, cur, T, f1, .inl hb, ?_, f4, f5, f6⟩
          cases ho : own b with
          | none => rfl
          | some t => have := hG.ownlt b t ho; omega
    | panicked chain => exact k4.elim
    | outgrown => exact k4.elim
  | panic d =>
    cases e with
    | returned v => exact k4.elim
    | outgrown => exact k4.elim
    | panicked chain =>
      obtain ⟨v, rfl, hv⟩ := k4
      exact ⟨v, rfl, Rep.swap d v hc hv⟩
/-- A library function that only reads, or makes new memory. -/
theorem pure_call {f : FuncId} {ds : List D} {c : D} (hb : HasBody P f) (h : ∀ ι j own w vs, Base κ own w → GSim ι j own σ w → RepL ι j ds vs → Calls P f ⟨vs⟩ w fun e w' => ∃ v, e = .returned v ∧ RowKit.Below w.heap.size w w' ∧ Rep ι j c v) : CallOK P κ f ds σ (.ret ⟨false, c⟩) σ := by
  refine ⟨hb, fun ι j own w vs hS hB hG hr => (h ι j own w vs hB hG hr).mono ?_⟩
  rintro e w' ⟨v, rfl, hx, hv⟩
  have hE : Evo ι j own w ι j own w' (fun _ => False) := ⟨hx.os, hx.tape, hx.output, hx.size, fun _ _ _ h => h, fun _ _ h => h, fun b hb _ => ⟨hx.block b hb, rfl, fun _ => rfl⟩⟩
  refine ⟨ι, j, own, hG.evo hE (fun b o v h => ?_) hG.noimm (fun b t h => Nat.lt_of_lt_of_le (hG.ownlt b t h) hx.size) hG.jlt (fun _ _ _ => ⟨fun h => h, fun _ _ _ _ h => h⟩) (fun _ _ _ h => h), hE.weaken (fun _ h => h.elim), hS, hv, fun h => by cases h⟩
  rw [World.cell?_of_block (w := w) (w' := w') (a := ⟨b, o, none⟩) (hx.block b (imm_lt hG h))]
  exact hG.holds b o v h
/-- An object of the store whose cells are laid anew. -/
theorem GSim.setObj (hG : GSim ι j own σ w) {id B : Nat} {cs cs' : List Cell} {cur : Array Value} {T : TypeId} {vs' : List Value} {w' : World} (hcs : aget σ.objs id = some cs) (hB : j id = some B) (hown : own B = some (.obj id))
    (hos : w'.os = w.os) (htape : w'.tape = w.tape) (hout : w'.output = w.output) (hsize : w.heap.size ≤ w'.heap.size) (hoth : ∀ b, b ≠ B → w'.heap[b]? = w.heap[b]?) (h0 : w.heap[B]? = some (.cells cur T (0, 0))) (h1 : w'.heap[B]? = some (.cells ⟨vs'⟩ T (0, 0)))
    (hlen : vs'.length = cs'.length) (hcells : ∀ (i : Nat) (c : Cell), cs'[i]? = some c → ∃ v, vs'[i]? = some v ∧ v.oneCell' = true ∧ CellRel ι j own w' (.ocell id i) c v) :
    GSim ι j own { σ with objs := aset σ.objs id cs' } w' ∧ Evo ι j own w ι j own w' (fun t => t = .obj id) := by
  have hE : Evo ι j own w ι j own w' (fun t => t = .obj id) := ⟨hos, htape, hout, hsize, fun _ _ _ h => h, fun _ _ h => h, fun b _ hb => ⟨hoth b (fun e => hb _ (e ▸ hown) rfl), rfl, fun _ => rfl⟩⟩
  refine ⟨⟨fun b o v h => ?_, hG.noimm, fun id' cs2 h => ?_, fun id' t cs2 k1 k2 b hb => ?_, fun id' s pos h => ?_, hG.jlt, fun b t h => Nat.lt_of_lt_of_le (hG.ownlt b t h) hsize⟩, hE⟩
  · have hne : b ≠ B := fun e => by
      rw [e, hG.noimm B _ hown rfl o] at h
      cases h
    rw [World.cell?_of_block (w := w) (w' := w') (a := ⟨b, o, none⟩) (hoth b hne)]
    exact hG.holds b o v h
  · simp only [aget_aset] at h
    by_cases hid : id = id'
    · subst hid
      rw [if_pos rfl] at h
      cases h
      exact ⟨B, hB, hown, vs', T, h1, hlen, hcells⟩
    · rw [if_neg hid] at h
      obtain ⟨B2, q1, q2, q3⟩ := hG.objs id' cs2 h
      exact ⟨B2, q1, q2, hE.boxRel q2 (fun h => by cases h; exact hid rfl) (fun _ _ _ _ h => by cases h) q3⟩
  · have hex : ∃ cs0, aget σ.objs id' = some cs0 := by
      simp only [aget_aset] at k2
      split at k2
      · rename_i hh; subst hh; exact ⟨cs, hcs⟩
      · exact ⟨cs2, k2⟩
    obtain ⟨cs0, hcs0⟩ := hex
    obtain ⟨row, hrow⟩ := hG.tys id' t cs0 k1 hcs0 b hb
    by_cases hbB : b = B
    · subst hbB
      rw [h0] at hrow
      cases hrow
      exact ⟨_, h1⟩
    · exact ⟨row, (hoth b hbB).trans hrow⟩
  · obtain ⟨B2, q1, q2, q3⟩ := hG.iters id' s pos h
    have hbB : B2 ≠ B := fun e => by
      subst e
      rw [h0] at q3
      cases q3
    exact ⟨B2, q1, q2, (hoth B2 hbB).trans q3⟩
end
end Go.Mx

/-
  From what the machine answers to a law's row: the arguments read as the machine's data, all memory there is is read alone; behind the call it stands as it stood.
-/
namespace Go.Mx
open Go Go.ChangeShapes Go.WideShapes Go.RowKit
theorem trodAll_below {H : Type} {enc : TypeId × Value → H} {P : Program} (hl : laidOutB P = true) {W W' : World} (hb : Below W.heap.size W W') : ∀ {ts : List TypeId} {vs : List Value} {ds : List (DataW H)} {ps : List MemPlace}, (∀ t ∈ ts, P.readableRec t = true ∧ t < P.types.size) →
    DataW.TrodAll enc P W 0 (fun _ => true) true ts vs ds ps → (∀ x ∈ ps, x.block < W.heap.size) → DataW.TrodAll enc P W' 0 (fun b => decide (b < W.heap.size)) true ts vs ds ps
  | [], vs, ds, ps, _, h, _ => by
    obtain ⟨rfl, rfl, rfl⟩ := trodAll_nil h
    exact trodAll_mk0
  | t :: ts, vs, ds, ps, ht, h, hlt => by
    obtain ⟨v, vs', d, ds', p, q, rfl, rfl, rfl, h1, h2⟩ := trodAll_cons h
    obtain ⟨hr, hs⟩ := ht t (List.mem_cons_self ..)
    exact trodAll_cons_mk (Below.trod hl hr hs h1 hb fun x hx => hlt x (List.mem_append_left _ hx)) (trodAll_below hl hb (fun u hu => ht u (List.mem_cons_of_mem _ hu)) h2 fun x hx => hlt x (List.mem_append_right _ hx))
/-- What a law's row asks behind the call. -/
theorem post_true {H : Type} {enc : TypeId × Value → H} {P : Program} {f : Func} {s : ChangeSpec} {fresh handsOn : Bool} {W W' : World} {args : Array Value} {ds : List (DataW H)} {before : List MemPlace} (hl : laidOutB P = true) (hb : Below W.heap.size W W')
    (hv : s.vars = []) (hps : ∀ t ∈ f.params.toList, P.readableRec t = true ∧ t < P.types.size) (hW : DataW.Whole enc P f.params.toList s.vars false W args.toList ds [] before) (hA : DataW.TrodAll enc P W 0 (fun _ => true) true f.params.toList args.toList ds before)
    {tb : TypeId} (hres : f.resultTypes.toList = [tb]) (htb : P.underlying tb = some .bool) (hrf : (s.fn H (ds ++ [])).results = [.lit (.bool true)]) (haf : (s.fn H (ds ++ [])).args = ds) (hvf : (s.fn H (ds ++ [])).vars = []) :
    s.post enc P f false fresh handsOn false W args (.bool true) W' := by
  have hlt : ∀ x ∈ before, x.block < W.heap.size := fun x hx => hW.lt x hx
  have hsz : f.resultTypes.size = 1 := by
    have := congrArg List.length hres
    simpa using this
  refine ⟨ds, [], before, [], before, [], hW, ?_, ?_, ?_, hb.frame _, fun h => by cases h⟩
  · rw [hres, hrf, hsz]
    exact trodAll_cons_mk (shut_bool htb true) trodAll_mk0
  · rw [haf]
    exact trodAll_below hl hb hps hA hlt
  · rw [hv, hvf]
    rfl
/-- All memory there is is read alone. -/
def allImm (W : World) : Imm := fun b o => W.cell? ⟨b, o, none⟩
theorem law_call {P : Program} {κ : Ctx} {f : FuncId} {Ds : List D} {args : List Value} {W : World} {σ' : Store} (hn : κ.n ≤ W.heap.size) (hK : κ.K W) (hC : CallOK P κ f Ds σ0 (.ret ⟨false, .bool true⟩) σ') (hr : RepL (allImm W) (fun _ => none) Ds args) :
    Calls P f ⟨args⟩ W fun e W' => e = .returned (.bool true) ∧ Below W.heap.size W W' := by
  refine (hC.2 (allImm W) (fun _ => none) (fun _ => none) W args (fun _ _ h => by cases h) ⟨hn, fun _ _ => rfl, hK⟩ ⟨fun _ _ _ h => h, (fun _ _ h => by cases h), (fun _ _ h => by cases h), (fun _ _ _ h => by cases h), (fun _ _ _ h => by cases h), (fun _ _ h => by cases h), (fun _ _ h => by cases h)⟩ hr).mono ?_
  rintro e W' ⟨ι', j', own', k1, k2, k3, k4⟩
  cases e with
  | returned v =>
    have hv := k4.1
    simp only [Rep] at hv
    rw [hv]
    exact ⟨rfl, ⟨k2.os, k2.tape, k2.output, k2.size, fun b hb => (k2.block b hb fun _ h => by cases h).1⟩⟩
  | panicked c => exact k4.elim
  | outgrown => exact k4.elim
/-- Are these data the numbers' row? -/
def IntRow (k : RowK) (d : D) (xs : List Int) : Prop := lenOf d = some xs.length ∧ (xs ≠ [] → d.row? = some (k, xs.map fun x => .int .i64 x))
theorem small_of_wf {n : Int} (h : (Lit.int .i64 n).wf = true) : -9223372036854775808 ≤ n ∧ n ≤ 9223372036854775807 := by
  have e1 : IntKind.i64.min = -9223372036854775808 := rfl
  have e2 : IntKind.i64.max = 9223372036854775807 := rfl
  simpa [Lit.wf, e1, e2] using h
theorem repRow_ints {W : World} {k : RowK} (hk : k.sz = 1) {b : Nat} : ∀ (xs : List Int) (o : Nat), (∀ i, i < xs.length → W.cell? ⟨b, o + i, none⟩ = some (.int .i64 (xs.getD i 0))) → RepRow (allImm W) (fun _ => none) k.sz (xs.map fun x => .int .i64 x) b o
  | [], _, _ => by simp [RepRow]
  | x :: xs, o, h => by
    simp only [List.map_cons, RepRow]
    refine ⟨⟨.int .i64 x, fun i y hy => ?_, by rw [hk]; rfl, by simp [Rep]⟩, repRow_ints hk xs (o + k.sz) fun i hi => ?_⟩
    · cases i with
      | zero =>
        simp [Value.cells] at hy
        subst hy
        have := h 0 (by simp)
        simpa [allImm] using this
      | succ i => simp [Value.cells] at hy
    · have := h (i + 1) (by simpa using hi)
      rw [hk, show o + 1 + i = o + (i + 1) by omega]
      simpa using this
theorem rep_ints {H : Type} {enc : TypeId × Value → H} {P : Program} {W : World} {t e : TypeId} {v : Value} {d0 : DataW H} {p : List MemPlace} (ht : P.underlying t = some (.slice e)) (he : P.underlying e = some (.int .i64)) (hc : P.cellsOf e = 1) {base : Nat} (hval : Value.okWide P W .any base t v)
    (h : DataW.Trod enc P W 0 (fun _ => true) true t v d0 p) (k : RowK) (hk : k.sz = 1) : ∃ d xs, IntRow k d xs ∧ (∀ x ∈ xs, -9223372036854775808 ≤ x ∧ x ≤ 9223372036854775807) ∧ Rep (allImm W) (fun _ => none) d v := by
  obtain ⟨a0, len, cap, rfl⟩ := okWide_slice ht hval
  obtain ⟨fuel, hf⟩ := h
  rcases open_ints ht he hc hf with ⟨hcs, hx⟩ | ⟨a, len', cap', zs, hcs, _, hl, hm, hz, hx, hcell, hwz⟩
  · simp [Value.cells] at hcs
    obtain ⟨rfl, rfl, rfl⟩ := hcs
    exact ⟨.nils, [], ⟨rfl, fun h => absurd rfl h⟩, (fun x hx => by cases hx), by simp [Rep]⟩
  · simp [Value.cells] at hcs
    obtain ⟨rfl, rfl, rfl⟩ := hcs
    simp only [if_true] at hz
    have hlen : (zs.take len).length = len := by simp; omega
    refine ⟨.list k ((zs.take len).map fun x => .int .i64 x), zs.take len, ⟨by simp [lenOf], fun _ => rfl⟩, fun x hx => small_of_wf (hwz x (List.mem_of_mem_take hx)), ?_⟩
    simp only [Rep]
    refine ⟨some a, cap, by rw [List.length_map, hlen], by rw [List.length_map, hlen]; exact hl, hm, ?_⟩
    by_cases h0 : len = 0
    · left; subst h0; simp
    · right
      obtain ⟨b, off, spot⟩ := a
      have hspot : spot = none := by simpa [Addr.add] using World.cell?_spot (hcell 0 (by omega))
      subst hspot
      refine ⟨b, off, rfl, repRow_ints hk _ _ fun i hi => ?_⟩
      rw [hlen] at hi
      have := hcell i (by omega)
      rw [add_plain] at this
      rw [this, List.getD_eq_getElem?_getD, List.getD_eq_getElem?_getD, List.getElem?_take_of_lt hi]
theorem rep_int {H : Type} {enc : TypeId × Value → H} {P : Program} {W : World} {t : TypeId} {v : Value} {d0 : DataW H} {p : List MemPlace} (ht : P.underlying t = some (.int .i64)) {base : Nat} (hval : Value.okWide P W .any base t v)
    (h : DataW.Trod enc P W 0 (fun _ => true) true t v d0 p) : ∃ n, (-9223372036854775808 ≤ n ∧ n ≤ 9223372036854775807) ∧ Rep (allImm W) (fun _ => none) (.int .i64 n) v := by
  obtain ⟨n, rfl, _, _, hw⟩ := open_int ht hval h
  exact ⟨n, small_of_wf hw, by simp [Rep]⟩
theorem rep_str {P : Program} {W : World} {t : TypeId} {v : Value} (ht : P.underlying t = some .string) {base : Nat} (hval : Value.okWide P W .any base t v) : ∃ s : List UInt8, Rep (allImm W) (fun _ => none) (.str s) v := by
  obtain ⟨⟨⟨s⟩⟩, rfl⟩ := okWide_string ht hval
  exact ⟨s, by simp only [Rep]⟩
theorem rep_bool {P : Program} {W : World} {t : TypeId} {v : Value} (ht : P.underlying t = some .bool) {base : Nat} (hval : Value.okWide P W .any base t v) : ∃ b : Bool, Rep (allImm W) (fun _ => none) (.bool b) v := by
  obtain ⟨b, rfl⟩ := okWide_bool ht hval
  exact ⟨b, by simp only [Rep]⟩
end Go.Mx


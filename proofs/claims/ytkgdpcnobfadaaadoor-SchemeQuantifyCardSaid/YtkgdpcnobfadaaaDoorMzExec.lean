/-
  Whole bodies, whole calls: if the machine runs to an end, the program's function ends so, in every world.
-/
import Derived.Defers
import Derived.LoopN
import Derived.Scope
import Derived.Test.YtkgdpcnobfadaaaDoorMzFrz
set_option linter.unusedSimpArgs false
set_option linter.unusedVariables false
namespace Go.Mx
open Go

def okCode (P : Program) (N : Nat) : Code → ACode → Bool
  | .skip, .skip => true
  | .region _ ops false, .region l none _ => okDsts N ops && okOps P N ops ops.toList l
  | .region _ ops true, .region l (some p) _ => P.follows .mixedOrders && okDrawn P N ops l p
  | .seq a b, .seq a' b' => okCode P N a a' && okCode P N b b'
  | .cond c t f, .cond c' t' f' => okOpd c c' && okCode P N t t' && okCode P N f f'
  | .block i b, .block i' b' => i == i' && okCode P N b b'
  | .loop b, .loop b' => okCode P N b b'
  | .exit i, .exit i' => i == i'
  | .ret, .ret => true
  | .scope b, .scope b' => okCode P N b b'
  | _, .stuck => true
  | c, .frz _ b' => okCode P N c b'
  | _, _ => false
def okRes (P : Program) : List ResultVar → List ARes → Bool
  | [], [] => true
  | .tmp t :: l, .tmp s :: r => t == s && okRes P l r
  | .cell t ty :: l, .cell s k :: r => t == s && okK P ty k && okRes P l r
  | .cell t ty :: l, .cellA s k :: r => t == s && okK P ty (some k) && okRes P l r
  | _, _ => false
def okFun (P : Program) (fn : Func) (af : AFun) : Bool := match fn.body with
  | some c => !(fn.name == "runtime.NumGoroutine") && decide (af.nargs ≤ fn.ntmps) && okCode P fn.ntmps c af.body && okRes P fn.results.toList af.res
  | none => false

section
variable {P : Program} {N : Nat} {e : Env} {a : Go.Act} {w : World} {σ : Store} {ι ι0 : Imm} {j j0 : Lay} {own own0 : Own} {w0 : World} {lb : Lay} {κ : Ctx}

def Post (ι0 : Imm) (j0 : Lay) (own0 : Own) (w0 : World) (N : Nat) (Q : Exit → Go.Act → World → Prop) : AExit × Env × Store → Prop
  | (.normal, e, σ) => ∀ a w, St ι0 j0 own0 w0 N e σ a w → Q .normal a w
  | (.exit id, e, σ) => ∀ a w, St ι0 j0 own0 w0 N e σ a w → Q (.exit id) a w
  | (.ret, e, σ) => ∀ a w, St ι0 j0 own0 w0 N e σ a w → Q .ret a w
  | (.panic d, e, σ) => ∀ a w chain, StP ι0 j0 own0 w0 N d chain e σ a w → Q (.panic chain) a w
theorem St.clear (h : St ι0 j0 own0 w0 N e σ a w) (clr : List Nat) : St ι0 j0 own0 w0 N (clearEnv e clr) σ a w := by
  obtain ⟨ι, j, own, lb, h1, h2, h3⟩ := h
  exact ⟨ι, j, own, lb, h1, h2.sub (fun s c h => ⟨c, aget_adel _ _ _ _ h, rfl, fun h => h⟩) (fun s p h => aget_adel _ _ _ _ h) (fun s cs h => ⟨cs, aget_adel _ _ _ _ h, Weaker.refl cs⟩) rfl, h3⟩
theorem Post.noGoto {Q : Exit → Go.Act → World → Prop} {r : AExit × Env × Store} (h : Post ι0 j0 own0 w0 N Q r) : Post ι0 j0 own0 w0 N (Exit.noGoto Q) r := by
  obtain ⟨x, e1, σ1⟩ := r
  cases x <;> exact h
theorem exec_sound {C : CallF} (hC : CSound P κ C) (hB : Base κ own0 w0) (n : Nat) : ∀ (c' : ACode) (c : Code), okCode P N c c' = true → ∀ {e σ a w r Q}, exec C n c' e σ = some r → St ι0 j0 own0 w0 N e σ a w → Post ι0 j0 own0 w0 N Q r → c.wp P Q a w
  | .skip, c, hk, e, σ, a, w, r, Q, h, hSt, hQ => by
    cases c <;> simp only [okCode, Bool.false_eq_true] at hk
    simp only [exec, Option.some.injEq] at h
    subst h
    exact wp_skip (hQ a w hSt)
  | .ret, c, hk, e, σ, a, w, r, Q, h, hSt, hQ => by
    cases c <;> simp only [okCode, Bool.false_eq_true] at hk
    simp only [exec, Option.some.injEq] at h
    subst h
    exact wp_ret (hQ a w hSt)
  | .exit id, c, hk, e, σ, a, w, r, Q, h, hSt, hQ => by
    cases c <;> simp only [okCode, Bool.false_eq_true, beq_iff_eq] at hk
    subst hk
    simp only [exec, Option.some.injEq] at h
    subst h
    exact wp_exit (hQ a w hSt)
  | .seq x' y', c, hk, e, σ, a, w, r, Q, h, hSt, hQ => by
    cases c <;> simp only [okCode, Bool.false_eq_true, Bool.and_eq_true] at hk
    rename_i x y
    simp only [exec] at h
    cases hx : exec C n x' e σ with
    | none => rw [hx] at h; cases h
    | some r1 =>
      obtain ⟨ex, e1, σ1⟩ := r1
      rw [hx] at h
      refine wp_seq (exec_sound hC hB n x' x hk.1 hx hSt ?_)
      cases ex with
      | normal => exact fun a1 w1 h1 => exec_sound hC hB n y' y hk.2 h h1 hQ
      | exit id => simp only [Option.some.injEq] at h; subst h; exact hQ
      | ret => simp only [Option.some.injEq] at h; subst h; exact hQ
      | panic d => simp only [Option.some.injEq] at h; subst h; exact hQ
  | .cond c0 t' f', c, hk, e, σ, a, w, r, Q, h, hSt, hQ => by
    cases c <;> simp only [okCode, Bool.false_eq_true, Bool.and_eq_true] at hk
    rename_i x t f
    simp only [exec] at h
    obtain ⟨cl, h1, h⟩ := bindO_some h
    obtain ⟨b, h2, h⟩ := bindO_some h
    have hx : a.eval x = .bool b := by
      obtain ⟨ι, j, own, lb, g1, g2, g3⟩ := hSt
      have hr := opd_rel g2 hk.1.1 h1
      cases hd : cl.d <;> rw [hd] at h2 hr <;> simp only [D.bool?, reduceCtorEq, Option.some.injEq] at h2
      subst h2
      simpa only [Rep] using hr
    refine wp_cond hx ?_
    cases b with
    | true => exact exec_sound hC hB n t' t hk.1.2 h hSt hQ
    | false => exact exec_sound hC hB n f' f hk.2 h hSt hQ
  | .block id b', c, hk, e, σ, a, w, r, Q, h, hSt, hQ => by
    cases c <;> simp only [okCode, Bool.false_eq_true, Bool.and_eq_true, beq_iff_eq] at hk
    rename_i id2 b
    obtain ⟨rfl, hk⟩ := hk
    simp only [exec] at h
    cases hx : exec C n b' e σ with
    | none => rw [hx] at h; cases h
    | some r1 =>
      obtain ⟨ex, e1, σ1⟩ := r1
      rw [hx] at h
      refine wp_block (exec_sound hC hB n b' b hk hx hSt ?_)
      cases ex with
      | normal => simp only [Option.some.injEq] at h; subst h; exact hQ
      | exit id' =>
        simp only at h
        by_cases hid : id' = id2
        · subst hid
          simp only [beq_self_eq_true, ifB_true, Option.some.injEq] at h
          subst h
          intro a1 w1 h1
          simp only [Exit.inBlock, if_true]
          exact hQ a1 w1 h1
        · have : (id' == id2) = false := by simpa using hid
          simp only [this, ifB_false, Option.some.injEq] at h
          subst h
          intro a1 w1 h1
          simp only [Exit.inBlock, if_neg hid]
          exact hQ a1 w1 h1
      | ret => simp only [Option.some.injEq] at h; subst h; exact hQ
      | panic d => simp only [Option.some.injEq] at h; subst h; exact hQ
  | .frz ts b', c, hk, e, σ, a, w, r, Q, h, hSt, hQ => by
    have hk' : okCode P N c b' = true := by cases c <;> simpa only [okCode] using hk
    simp only [exec] at h
    obtain ⟨⟨e1, σ1⟩, h1, h⟩ := bindO_some h
    obtain ⟨ι, j, own, lb, g1, g2, g3⟩ := hSt
    obtain ⟨ι1, own1, k1, k2, k3⟩ := freezes_sound h1 g1 g2
    exact exec_sound hC hB n b' c hk' h ⟨ι1, j, own1, lb, k1, k2, g3.trans k3⟩ hQ
  | .stuck, c, hk, e, σ, a, w, r, Q, h, hSt, hQ => by
    simp only [exec, reduceCtorEq] at h
  | .scope b', c, hk, e, σ, a, w, r, Q, h, hSt, hQ => by
    cases c <;> simp only [okCode, Bool.false_eq_true] at hk
    simp only [exec] at h
    exact wp_scope_straight (exec_sound hC hB n b' _ hk h hSt hQ.noGoto)
  | .loop b', c, hk, e, σ, a, w, r, Q, h, hSt, hQ => by
    cases c <;> simp only [okCode, Bool.false_eq_true] at hk
    rename_i b
    simp only [exec] at h
    have key : ∀ (m : Nat) {e σ a w}, loopN (exec C n b') m e σ = some r → St ι0 j0 own0 w0 N e σ a w → Code.rounds P b Q m a w := by
      intro m
      induction m with
      | zero => intro e σ a w h _; cases h
      | succ m ih =>
        intro e σ a w h hSt
        simp only [loopN] at h
        cases hx : exec C n b' e σ with
        | none => rw [hx] at h; cases h
        | some r1 =>
          obtain ⟨ex, e1, σ1⟩ := r1
          rw [hx] at h
          rw [rounds_succ]
          refine exec_sound hC hB n b' b hk hx hSt ?_
          cases ex with
          | normal => exact fun a1 w1 h1 => ih h h1
          | exit id => simp only [Option.some.injEq] at h; subst h; exact hQ
          | ret => simp only [Option.some.injEq] at h; subst h; exact hQ
          | panic d => simp only [Option.some.injEq] at h; subst h; exact hQ
    exact wp_loop_rounds n (key n h hSt)
  | .region l perm clr, c, hk, e, σ, a, w, r, Q, h, hSt, hQ => by
    simp only [exec] at h
    cases ho : runOps C l e σ with
    | none => rw [ho] at h; cases h
    | some out =>
      rw [ho] at h
      have hpost : perm = none → OpsPost ι0 j0 own0 w0 N Q out := by
        rintro rfl
        cases out with
        | normal e1 σ1 =>
          simp only [Option.some.injEq] at h
          subst h
          exact fun a1 w1 h1 => hQ a1 w1 (h1.clear clr)
        | panic d e1 σ1 =>
          simp only [Option.some.injEq] at h
          subst h
          exact hQ
      have hpostD : ∀ p, perm = some p → OpsPostD ι0 j0 own0 w0 N Q out := by
        rintro p rfl
        cases out with
        | normal e1 σ1 =>
          simp only [Option.some.injEq] at h
          subst h
          exact fun a1 w1 h1 => hQ a1 w1 (h1.clear clr)
        | panic d e1 σ1 =>
          simp only [Option.some.injEq] at h
          subst h
          exact hQ
      cases c with
      | region id ops d =>
        cases d with
        | false =>
          cases perm with
          | none =>
            simp only [okCode, Bool.and_eq_true] at hk
            exact wp_region_list (wpList_sound hC hB hk.1 _ _ hk.2 ho hSt (hpost rfl))
          | some p => simp [okCode] at hk
        | true =>
          cases perm with
          | none => simp [okCode] at hk
          | some p =>
            simp only [okCode, okDrawn, Bool.and_eq_true, beq_iff_eq] at hk
            obtain ⟨hm, ⟨⟨⟨⟨⟨⟨⟨k1, k2⟩, k3⟩, k3b⟩, k4⟩, k5⟩, k6⟩, k7⟩⟩ := hk
            refine wp_region_any hm ?_
            have hmap1 : (p.zip l).map (·.1) = p := by
              rw [show ((p.zip l).map (·.1)) = (p.zip l).map Prod.fst from rfl, List.map_fst_zip (by omega)]
            have hmap2 : (p.zip l).map (·.2) = l := by
              rw [show ((p.zip l).map (·.2)) = (p.zip l).map Prod.snd from rfl, List.map_snd_zip (by omega)]
            have hlen : (p.zip l).length = ops.size := by rw [List.length_zip]; omega
            have hall : ∀ k, k < ops.size → k ∈ p := fun k hk => by
              simpa using List.all_eq_true.1 k3b k (List.mem_range.2 hk)
            have := wpAny_drawn hC hB k4 k5 (p.zip l) (Array.replicate ops.size false) (Q := Q) k6 k7 (by rw [hmap1]; exact nodupN_spec k3) (by simp) (fun k hk => by
              rw [hmap1]
              refine ⟨fun _ => hall k hk, fun _ => ?_⟩
              simp [hk]) (fun k hk hn => absurd (by rw [hmap1]; exact hall k hk) hn) (by rw [hmap2]; exact ho) hSt.draw (hpostD p rfl)
            rw [hlen] at this
            exact this
      | _ => simp [okCode] at hk
end
end Go.Mx


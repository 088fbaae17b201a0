/-
  strconv.Atoi at the print of a number, in the machine's words.
-/
import Derived.Lib.AtoiErrMem
import Derived.Lib.AtoiAllCases
import Derived.Test.YtdoppkjoemlhjaaDoorTrydAtoi
import Derived.Test.YtdoppkjoemlhjaaDoorShGoodD
set_option linter.unusedSimpArgs false
set_option linter.unusedVariables false
namespace Go.Proofs.YtdoppkjoemlhjaaDoor.Sh
open Go Go.Mx
theorem itoaN_sgn (x : Int) : itoaN x = ifB (decide (x < 0)) (45 :: digF 20 x.natAbs []) (digF 20 x.natAbs []) := by
  cases x with
  | ofNat m =>
    have : ¬ (Int.ofNat m < 0) := by simp
    rw [decide_eq_false this]
    rfl
  | negSucc m =>
    have : Int.negSucc m < 0 := Int.negSucc_lt_zero m
    rw [decide_eq_true this]
    rfl
def xAtoi : List D → Option D
  | [.str s] => ifB (decide (s.length ≤ 9223372036854775806)) (match Lib.atoiAll s with
    | .ok v => some (.tup [.int .i64 v, .niliface])
    | _ => none) none
  | _ => none
theorem xAtoi_ok {ds : List D} {d : D} (h : xAtoi ds = some d) (σ : Store) : CallOK Tryd.prog κ 57 ds σ (.ret ⟨false, d⟩) σ := by
  unfold xAtoi at h
  split at h
  · rename_i s
    obtain ⟨h1, h⟩ := ifB_some h
    have h1 := of_decide_eq_true h1
    split at h
    · rename_i v hv
      cases h
      refine pure_call ⟨_, _, Tryd.func57, by kernel_rfl, rfl⟩ (fun ι j own w vs hB hG hr => ?_)
      obtain ⟨x, rfl, hx⟩ := repL1 hr
      simp only [Rep] at hx
      subst hx
      refine (Tryd.strconv_Atoi_ok ⟨⟨s⟩⟩ h1 v hv w).mono ?_
      rintro e w' ⟨rfl, hb⟩
      refine ⟨_, rfl, ?_, ?_⟩
      · rcases hb with rfl | ⟨t, rfl⟩
        · exact RowKit.Below.refl _ _
        · exact Lib.bytesWorld_below w 5 t
      · simp only [Rep, RepL]
        exact ⟨_, rfl, _, _, rfl, rfl, _, _, rfl, rfl, rfl⟩
    · cases h
  · cases h
/-- Digits that are read on from a number. -/
theorem parse_digF : ∀ (k n acc : Nat) (t : List UInt8), n < 10 ^ (k + 1) → acc * 10 ^ (k + 1) + n < 18446744073709551616 →
    ∃ j, j ≤ k + 1 ∧ n < 10 ^ j ∧ Lib.parseUint10 acc (digF (k + 1) n t) = Lib.parseUint10 (acc * 10 ^ j + n) t := by
  intro k
  induction k with
  | zero =>
    intro n acc t hn hb
    have hn : n < 10 := by simpa using hn
    refine ⟨1, by omega, by omega, ?_⟩
    rw [digF, decide_eq_true hn, ifB_true, Lib.parseUint10]
    have e : (UInt8.ofNat (48 + n)).toNat = 48 + n := by
      rw [UInt8.toNat_ofNat']
      exact Nat.mod_eq_of_lt (by omega)
    rw [e, if_pos (by omega), if_neg (by omega), if_neg (by omega)]
    congr 1
    omega
  | succ k ih =>
    intro n acc t hn hb
    rw [digF]
    by_cases h10 : n < 10
    · rw [decide_eq_true h10, ifB_true, Lib.parseUint10]
      have e : (UInt8.ofNat (48 + n)).toNat = 48 + n := by
        rw [UInt8.toNat_ofNat']
        exact Nat.mod_eq_of_lt (by omega)
      have hp : 10 ≤ 10 ^ (k + 1 + 1) := by
        rw [Nat.pow_succ]
        have := Nat.pow_pos (n := k + 1) (show 0 < 10 by omega)
        omega
      have hle : acc * 10 ≤ acc * 10 ^ (k + 1 + 1) := Nat.mul_le_mul_left _ hp
      refine ⟨1, by omega, by omega, ?_⟩
      rw [e, if_pos (by omega), if_neg (by omega), if_neg (by omega)]
      congr 1
      omega
    · rw [decide_eq_false h10, ifB_false]
      have hq : n / 10 < 10 ^ (k + 1) := by rw [Nat.pow_succ] at hn; omega
      have hle : acc * 10 ^ (k + 1) ≤ acc * 10 ^ (k + 1 + 1) := Nat.mul_le_mul_left _ (by rw [Nat.pow_succ]; omega)
      obtain ⟨j, h1, h2, h3⟩ := ih (n / 10) acc (UInt8.ofNat (48 + n % 10) :: t) hq (by omega)
      refine ⟨j + 1, by omega, by rw [Nat.pow_succ]; omega, ?_⟩
      rw [h3, Lib.parseUint10]
      have e : (UInt8.ofNat (48 + n % 10)).toNat = 48 + n % 10 := by
        rw [UInt8.toNat_ofNat']
        exact Nat.mod_eq_of_lt (by omega)
      have hpow : 10 ^ (j + 1) ≤ 10 ^ (k + 1 + 1) := Nat.pow_le_pow_right (by omega) (by omega)
      have hle2 : acc * 10 ^ (j + 1) ≤ acc * 10 ^ (k + 1 + 1) := Nat.mul_le_mul_left _ hpow
      have hm : acc * 10 ^ (j + 1) = acc * 10 ^ j * 10 := by rw [Nat.pow_succ, Nat.mul_assoc]
      rw [e, if_pos (by omega), if_neg (by omega), if_neg (by omega)]
      congr 1
      omega
theorem atoi_itoa (x : Int) (hx : Small' x) : Lib.atoiAll (itoaN x) = .ok x := by
  obtain ⟨h1, h2⟩ := hx
  have hp : x.natAbs < 10 ^ (19 + 1) := by
    have e : (10 : Nat) ^ (19 + 1) = 100000000000000000000 := by decide
    omega
  obtain ⟨j, _, _, h3⟩ := parse_digF 19 x.natAbs 0 [] hp (by omega)
  have hne : digF 20 x.natAbs [] ≠ [] := digN_ne x.natAbs
  have hmag : Lib.parseMag (digF 20 x.natAbs []) = .ok x.natAbs := by
    unfold Lib.parseMag
    rw [if_neg hne]
    rw [show (20 : Nat) = 19 + 1 from rfl, h3, Lib.parseUint10]
    congr 1
    omega
  rw [itoaN_sgn x]
  by_cases h0 : x < 0
  · rw [decide_eq_true h0, ifB_true, Lib.atoiAll_minus, hmag]
    simp only [Lib.signed]
    rw [if_neg (by omega)]
    congr 1
    omega
  · rw [decide_eq_false h0, ifB_false]
    have hd : ∀ c r, digF 20 x.natAbs [] = c :: r → c.toNat ≠ 43 ∧ c.toNat ≠ 45 := fun c r e => by
      rw [e] at hmag
      unfold Lib.parseMag at hmag
      rw [if_neg (by simp), Lib.parseUint10] at hmag
      split at hmag
      · omega
      · cases hmag
    cases hds : digF 20 x.natAbs [] with
    | nil => exact absurd hds hne
    | cons c r =>
      obtain ⟨k1, k2⟩ := hd c r hds
      rw [Lib.atoiAll_plain c r k1 k2, ← hds, hmag]
      simp only [Lib.signless]
      rw [if_neg (by omega)]
      congr 1
      omega
end Go.Proofs.YtdoppkjoemlhjaaDoor.Sh

/-
  Prints, served from without.
-/
namespace Go.Proofs.YtdoppkjoemlhjaaDoor.Sh
open Go Go.Mx
theorem map_inj {l l' : List V} (h : ∀ v ∈ l, ∀ w, dV v = dV w → v = w) (e : l.map dV = l'.map dV) : l = l' := by
  induction l generalizing l' with
  | nil =>
    cases l' with
    | nil => rfl
    | cons b r => simp at e
  | cons a l ih =>
    cases l' with
    | nil => simp at e
    | cons b r =>
      simp only [List.map_cons, List.cons.injEq] at e
      rw [h a (List.mem_cons_self ..) b e.1, ih (fun v hv => h v (List.mem_cons_of_mem _ hv)) e.2]
theorem dlist_inj {k : RowK} {a b : List D} (h : dlist k a = dlist k b) : a = b := by
  cases a <;> cases b <;> simp_all [dlist]
theorem dV_inj (v : V) (hf : Fit v) : ∀ w, dV v = dV w → v = w := by
  induction hf with
  | mk f n s ks h hk ih =>
    intro w e
    cases w with
    | mk f' n' s' ks' =>
      rw [dV_eq, dV_eq] at e
      simp only [V.form, V.n, V.name, V.kids, D.agg.injEq, List.cons.injEq, D.int.injEq, D.str.injEq, true_and, and_true] at e
      obtain ⟨e1, e2, e3, e4⟩ := e
      rw [e1, e2, e3, map_inj ih (dlist_inj e4)]
/-- A value whose print is not too long. -/
def Printable (v : V) : Prop := FitN v ∧ (told v 40 = true → (ptext v false).length < 1000000000)
open Classical in
noncomputable def xPrint (ds : List D) : Option (List UInt8) := if h : ∃ v, Printable v ∧ ds = [dV v] then some (pprint (Classical.choose h)) else none
theorem xPrint_dV {v : V} (h : Printable v) : xPrint [dV v] = some (pprint v) := by
  have hx : ∃ w, Printable w ∧ [dV v] = [dV w] := ⟨v, h, rfl⟩
  unfold xPrint
  rw [dif_pos hx]
  have hs := Classical.choose_spec hx
  have : v = Classical.choose hx := dV_inj v h.1.fit _ (by simpa using hs.2)
  rw [← this]
theorem printable_of {v : V} (h : Nums v) (hw : wt v < 1000000) : Printable v :=
  ⟨fitN_of h hw, fun _ => by have := ptext_len v false; omega⟩
/-- Upper names and prints, served. -/
noncomputable def Xq : CallF := fun f ds σ => match f with
  | 12 => bindO (xPrint ds) fun s => some (.ret ⟨false, .str s⟩, σ)
  | f => Xu Xl f ds σ
theorem Xq_sound : CSound Tryd.prog κ Xq := by
  intro f ds σ out σ' h
  unfold Xq at h
  split at h
  · obtain ⟨s, h1, h2⟩ := bindO_some h
    cases h2
    unfold xPrint at h1
    split at h1
    · rename_i hx
      cases h1
      obtain ⟨k1, k2⟩ := Classical.choose_spec hx
      generalize Classical.choose hx = v at k1 k2
      rw [k2]
      exact print_ok v k1.1 k1.2 σ
    · cases h1
  · exact Xu_sound Xl_sound _ _ _ _ _ h
end Go.Proofs.YtdoppkjoemlhjaaDoor.Sh


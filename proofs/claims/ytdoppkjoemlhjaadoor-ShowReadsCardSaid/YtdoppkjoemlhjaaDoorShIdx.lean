/-
  strconv.Atoi's contracts, laid over this program (out of lay-plain.mjs's text).
-/
import Derived.Shelf.LaysC
import Derived.Shelf.Strconv.AtoiAll
import Derived.Test.YtdoppkjoemlhjaaDoorProg
import Derived.Lib.AtoiErrMem
import Derived.Lib.AtoiAllCases
import Derived.Test.YtdoppkjoemlhjaaDoorShRun0
import Derived.Test.YtdoppkjoemlhjaaDoorShV
import Derived.Laws.RangeString
import Derived.Laws.RangeAny
import Derived.Test.YtdoppkjoemlhjaaDoorMxSy
set_option linter.unusedSimpArgs false
set_option linter.unusedVariables false
namespace Go.Proofs
open Go.Shelf
def Tryd.laysC172_ren : Go.Shelf.Ren := ⟨fun | 172 => 57 | 244 => 65 | 245 => 66 | 247 => 79 | 279 => 80 | 280 => 81 | 281 => 82 | 282 => 83 | 287 => 90 | 316 => 91 | 171 => 31 | 205 => 92 | 321 => 94 | 322 => 95 | 243 => 44 | 246 => 55 | 283 => 60 | 284 => 61 | 285 => 62 | 286 => 63 | 129 => 71 | 317 => 70 | 318 => 72 | 319 => 73 | 320 => 74 | 337 => 84 | 338 => 85 | n => n, fun | 9 => 9 | 3 => 3 | 75 => 52 | 76 => 54 | 4 => 4 | 5 => 5 | 167 => 105 | 37 => 47 | 0 => 0 | 85 => 106 | 2 => 2 | 168 => 108 | 53 => 83 | 175 => 115 | 46 => 98 | 210 => 119 | 127 => 69 | 145 => 126 | 143 => 124 | 21 => 21 | 171 => 82 | 173 => 86 | 212 => 94 | 51 => 95 | 20 => 20 | 213 => 96 | 232 => 121 | 233 => 122 | 80 => 56 | n => n, fun | 15 => 1 | 16 => 2 | 17 => 0 | 18 => 3 | 19 => 4 | n => n⟩
theorem Tryd.laysC172 : Go.Proofs.LaysC.n172 Tryd.prog Tryd.laysC172_ren := {
  mixed := by kernel_rfl
  f129 := Tryd.func71.trans (congrArg some (by kernel_rfl))
  f171 := Tryd.func31.trans (congrArg some (by kernel_rfl))
  f172 := Tryd.func57.trans (congrArg some (by kernel_rfl))
  f205 := Tryd.func92.trans (congrArg some (by kernel_rfl))
  f243 := Tryd.func44.trans (congrArg some (by kernel_rfl))
  f244 := Tryd.func65.trans (congrArg some (by kernel_rfl))
  f245 := Tryd.func66.trans (congrArg some (by kernel_rfl))
  f246 := Tryd.func55.trans (congrArg some (by kernel_rfl))
  f247 := Tryd.func79.trans (congrArg some (by kernel_rfl))
  f279 := Tryd.func80.trans (congrArg some (by kernel_rfl))
  f280 := Tryd.func81.trans (congrArg some (by kernel_rfl))
  f281 := Tryd.func82.trans (congrArg some (by kernel_rfl))
  f282 := Tryd.func83.trans (congrArg some (by kernel_rfl))
  f283 := Tryd.func60.trans (congrArg some (by kernel_rfl))
  f284 := Tryd.func61.trans (congrArg some (by kernel_rfl))
  f285 := Tryd.func62.trans (congrArg some (by kernel_rfl))
  f286 := Tryd.func63.trans (congrArg some (by kernel_rfl))
  f287 := Tryd.func90.trans (congrArg some (by kernel_rfl))
  f316 := Tryd.func91.trans (congrArg some (by kernel_rfl))
  f317 := Tryd.func70.trans (congrArg some (by kernel_rfl))
  f318 := Tryd.func72.trans (congrArg some (by kernel_rfl))
  f319 := Tryd.func73.trans (congrArg some (by kernel_rfl))
  f320 := Tryd.func74.trans (congrArg some (by kernel_rfl))
  f321 := Tryd.func94.trans (congrArg some (by kernel_rfl))
  f322 := Tryd.func95.trans (congrArg some (by kernel_rfl))
  f337 := Tryd.func84.trans (congrArg some (by kernel_rfl))
  f338 := Tryd.func85.trans (congrArg some (by kernel_rfl))
  t0 := Tryd.underlying0
  a0 := Tryd.isAgg0
  z0 := Tryd.sizeOf0
  v0 := Tryd.zeroValue0
  t2 := Tryd.underlying2
  a2 := Tryd.isAgg2
  z2 := Tryd.sizeOf2
  v2 := Tryd.zeroValue2
  t3 := Tryd.underlying3
  a3 := Tryd.isAgg3
  z3 := Tryd.sizeOf3
  v3 := Tryd.zeroValue3
  t4 := Tryd.underlying4
  a4 := Tryd.isAgg4
  z4 := Tryd.sizeOf4
  v4 := Tryd.zeroValue4
  t5 := Tryd.underlying5
  a5 := Tryd.isAgg5
  z5 := Tryd.sizeOf5
  v5 := Tryd.zeroValue5
  t9 := Tryd.underlying9
  a9 := Tryd.isAgg9
  z9 := Tryd.sizeOf9
  v9 := Tryd.zeroValue9
  t20 := Tryd.underlying20
  a20 := Tryd.isAgg20
  z20 := Tryd.sizeOf20
  v20 := Tryd.zeroValue20
  t21 := Tryd.underlying21
  a21 := Tryd.isAgg21
  z21 := Tryd.sizeOf21
  v21 := Tryd.zeroValue21
  t37 := Tryd.underlying47
  a37 := Tryd.isAgg47
  z37 := Tryd.sizeOf47
  v37 := Tryd.zeroValue47
  t46 := Tryd.underlying98
  a46 := Tryd.isAgg98
  z46 := Tryd.sizeOf98
  v46 := Tryd.zeroValue98
  t51 := Tryd.underlying95
  a51 := Tryd.isAgg95
  z51 := Tryd.sizeOf95
  v51 := Tryd.zeroValue95
  t53 := Tryd.underlying83
  a53 := Tryd.isAgg83
  z53 := Tryd.sizeOf83
  v53 := Tryd.zeroValue83
  t75 := Tryd.underlying52
  a75 := Tryd.isAgg52
  z75 := Tryd.sizeOf52
  v75 := Tryd.zeroValue52
  t76 := Tryd.underlying54
  a76 := Tryd.isAgg54
  z76 := Tryd.sizeOf54
  v76 := Tryd.zeroValue54
  t85 := Tryd.underlying106
  a85 := Tryd.isAgg106
  z85 := Tryd.sizeOf106
  v85 := Tryd.zeroValue106
  t127 := Tryd.underlying69
  a127 := Tryd.isAgg69
  z127 := Tryd.sizeOf69
  v127 := Tryd.zeroValue69
  t143 := Tryd.underlying124
  a143 := Tryd.isAgg124
  z143 := Tryd.sizeOf124
  v143 := Tryd.zeroValue124
  t145 := Tryd.underlying126
  a145 := Tryd.isAgg126
  z145 := Tryd.sizeOf126
  v145 := Tryd.zeroValue126
  t167 := Tryd.underlying105
  a167 := Tryd.isAgg105
  z167 := Tryd.sizeOf105
  v167 := Tryd.zeroValue105
  t168 := Tryd.underlying108
  a168 := Tryd.isAgg108
  z168 := Tryd.sizeOf108
  v168 := Tryd.zeroValue108
  t171 := Tryd.underlying82
  a171 := Tryd.isAgg82
  z171 := Tryd.sizeOf82
  v171 := Tryd.zeroValue82
  t173 := Tryd.underlying86
  a173 := Tryd.isAgg86
  z173 := Tryd.sizeOf86
  v173 := Tryd.zeroValue86
  t175 := Tryd.underlying115
  a175 := Tryd.isAgg115
  z175 := Tryd.sizeOf115
  v175 := Tryd.zeroValue115
  t210 := Tryd.underlying119
  a210 := Tryd.isAgg119
  z210 := Tryd.sizeOf119
  v210 := Tryd.zeroValue119
  t212 := Tryd.underlying94
  a212 := Tryd.isAgg94
  z212 := Tryd.sizeOf94
  v212 := Tryd.zeroValue94
  t213 := Tryd.underlying96
  a213 := Tryd.isAgg96
  z213 := Tryd.sizeOf96
  t232 := Tryd.underlying121
  a232 := Tryd.isAgg121
  z232 := Tryd.sizeOf121
  v232 := Tryd.zeroValue121
  t233 := Tryd.underlying122
  a233 := Tryd.isAgg122
  z233 := Tryd.sizeOf122
  v233 := Tryd.zeroValue122
  g15 := by kernel_rfl
  g16 := by kernel_rfl
  g17 := by kernel_rfl
  g18 := by kernel_rfl
  g19 := by kernel_rfl
  t80 := Tryd.underlying56
  a80 := Tryd.isAgg56
  z80 := Tryd.sizeOf56
  v80 := Tryd.zeroValue56
  i0 := by kernel_rfl
  i2 := by kernel_rfl
  i3 := by kernel_rfl
  i4 := by kernel_rfl
  i5 := by kernel_rfl
  i9 := by kernel_rfl
  i20 := by kernel_rfl
  i21 := by kernel_rfl
  i37 := by kernel_rfl
  i46 := by kernel_rfl
  i51 := by kernel_rfl
  i53 := by kernel_rfl
  i75 := by kernel_rfl
  i76 := by kernel_rfl
  i80 := by kernel_rfl
  i85 := by kernel_rfl
  i127 := by kernel_rfl
  i143 := by kernel_rfl
  i145 := by kernel_rfl
  i167 := by kernel_rfl
  i168 := by kernel_rfl
  i171 := by kernel_rfl
  i173 := by kernel_rfl
  i175 := by kernel_rfl
  i210 := by kernel_rfl
  i212 := by kernel_rfl
  i232 := by kernel_rfl
  i233 := by kernel_rfl
  m15 := by kernel_rfl
  m16 := by kernel_rfl
  m17 := by kernel_rfl
  m18 := by kernel_rfl
  m19 := by kernel_rfl
  c0 := by kernel_rfl
  c2 := by kernel_rfl
  c3 := by kernel_rfl
  c4 := by kernel_rfl
  c5 := by kernel_rfl
  c9 := by kernel_rfl
  c20 := by kernel_rfl
  c21 := by kernel_rfl
  c37 := by kernel_rfl
  c46 := by kernel_rfl
  c51 := by kernel_rfl
  c53 := by kernel_rfl
  c75 := by kernel_rfl
  c76 := by kernel_rfl
  c80 := by kernel_rfl
  c85 := by kernel_rfl
  c127 := by kernel_rfl
  c143 := by kernel_rfl
  c145 := by kernel_rfl
  c167 := by kernel_rfl
  c168 := by kernel_rfl
  c171 := by kernel_rfl
  c173 := by kernel_rfl
  c175 := by kernel_rfl
  c210 := by kernel_rfl
  c212 := by kernel_rfl
  c213 := by kernel_rfl
  c232 := by kernel_rfl
  c233 := by kernel_rfl }
open Go.RowKit in
theorem Tryd.strconv_Atoi_ok (s : ByteArray) (hmax : s.size ≤ 9223372036854775806) (v : Int) (h : Lib.atoiAll s.data.toList = .ok v) (w : World) :
    Calls Tryd.prog 57 #[.string s] w fun e w' => e = .returned (.tuple #[.int .i64 v, .nilIface]) ∧ (w' = w ∨ ∃ t, w' = Lib.bytesWorld w 5 t) := Any.strconv_Atoi_ok Tryd.laysC172 s hmax v h w
end Go.Proofs

/-
  strconv.Atoi at the print of a number, in the machine's words.
-/
namespace Go.Proofs.YtdoppkjoemlhjaaDoor.Sh
open Go Go.Mx
theorem itoaN_sgn (x : Int) : itoaN x = ifB (decide (x < 0)) (45 :: digF 20 x.natAbs []) (digF 20 x.natAbs []) := by
  cases x with
  | ofNat m =>
    have : ¬ (Int.ofNat m < 0) := by simp
    rw [decide_eq_false this]
    rfl
  | negSucc m =>
    have : Int.negSucc m < 0 := Int.negSucc_lt_zero m
    rw [decide_eq_true this]
    rfl
def xAtoi : List D → Option D
  | [.str s] => ifB (decide (s.length ≤ 281474976710656)) (match Lib.atoiAll s with
    | .ok v => some (.tup [.int .i64 v, .niliface])
    | _ => some (.tup [.junk, .iface 108 .junk])) none
  | _ => none
theorem xAtoi_ok {ds : List D} {d : D} (h : xAtoi ds = some d) (σ : Store) : CallOK Tryd.prog κ 57 ds σ (.ret ⟨false, d⟩) σ := by
  unfold xAtoi at h
  split at h
  · rename_i s
    obtain ⟨h1, h⟩ := ifB_some h
    have h1 := of_decide_eq_true h1
    refine pure_call ⟨_, _, Tryd.func57, by kernel_rfl, rfl⟩ (fun ι j own w vs hB hG hr => ?_)
    obtain ⟨x, rfl, hx⟩ := repL1 hr
    simp only [Rep] at hx
    subst hx
    have hlen : (⟨⟨s⟩⟩ : ByteArray).size = s.length := rfl
    obtain ⟨_, ⟨t1, p1, k1⟩, ⟨t2, p2, k2⟩⟩ := hB.K
    split at h
    · rename_i v hv
      cases h
      refine (Tryd.strconv_Atoi_ok ⟨⟨s⟩⟩ (by omega) v hv w).mono ?_
      rintro e w' ⟨rfl, hb⟩
      refine ⟨_, rfl, ?_, ?_⟩
      · rcases hb with rfl | ⟨t, rfl⟩
        · exact RowKit.Below.refl _ _
        · exact Lib.bytesWorld_below w 5 t
      · simp only [Rep, RepL]
        exact ⟨_, rfl, _, _, rfl, rfl, _, _, rfl, rfl, rfl⟩
    · rename_i hno
      cases h
      have fin : ∀ (n : Int) (e : Ending) (w' : World), (∃ N, e = .returned (.tuple #[.int .i64 n, .iface 108 (.pointer (some ⟨N, 0, none⟩))]) ∧ w.heap.size ≤ N ∧ w'.heap[N]? = some (.cells #[.string ⟨#[65, 116, 111, 105]⟩, .string ⟨⟨s⟩⟩, .iface t1 p1] 119 (0, 0)) ∧ RowKit.Below w.heap.size w w' ∨ e = .returned (.tuple #[.int .i64 n, .iface 108 (.pointer (some ⟨N, 0, none⟩))]) ∧ RowKit.Below w.heap.size w w') →
          ∃ v, e = .returned v ∧ RowKit.Below w.heap.size w w' ∧ Rep ι j (.tup [.junk, .iface 108 .junk]) v := by
        rintro n e w' ⟨N, hq⟩
        have hq' : e = .returned (.tuple #[.int .i64 n, .iface 108 (.pointer (some ⟨N, 0, none⟩))]) ∧ RowKit.Below w.heap.size w w' := by
          rcases hq with ⟨q1, _, _, q4⟩ | hq
          · exact ⟨q1, q4⟩
          · exact hq
        refine ⟨_, hq'.1, hq'.2, ?_⟩
        simp only [Rep, RepL]
        exact ⟨_, rfl, _, _, rfl, trivial, _, _, rfl, ⟨_, rfl, trivial⟩, rfl⟩
      have hc : ∀ e, Lib.atoiAll s = e → (∀ v, e ≠ .ok v) → Calls Tryd.prog 57 #[.string ⟨⟨s⟩⟩] w fun e w' => ∃ v, e = .returned v ∧ RowKit.Below w.heap.size w w' ∧ Rep ι j (.tup [.junk, .iface 108 .junk]) v := by
        intro e he hne
        cases e with
        | ok v => exact absurd rfl (hne v)
        | range => exact (Any.strconv_Atoi_range Tryd.laysC172 ⟨⟨s⟩⟩ (by omega) he _ w k2 (.inr ⟨t2, p2, rfl⟩)).mono fun e w' ⟨N, q1, _, _, q4⟩ => fin _ e w' ⟨N, .inr ⟨q1, q4⟩⟩
        | _ => exact (Any.strconv_Atoi_syntax Tryd.laysC172 ⟨⟨s⟩⟩ (by omega) he _ w k1 (.inr ⟨t1, p1, rfl⟩)).mono fun e w' ⟨N, q1, _, _, q4⟩ => fin _ e w' ⟨N, .inr ⟨q1, q4⟩⟩
      exact hc _ rfl hno
  · cases h
/-- Digits that are read on from a number. -/
theorem parse_digF : ∀ (k n acc : Nat) (t : List UInt8), n < 10 ^ (k + 1) → acc * 10 ^ (k + 1) + n < 18446744073709551616 →
    ∃ j, j ≤ k + 1 ∧ n < 10 ^ j ∧ Lib.parseUint10 acc (digF (k + 1) n t) = Lib.parseUint10 (acc * 10 ^ j + n) t := by
  intro k
  induction k with
  | zero =>
    intro n acc t hn hb
    have hn : n < 10 := by simpa using hn
    refine ⟨1, by omega, by omega, ?_⟩
    rw [digF, decide_eq_true hn, ifB_true, Lib.parseUint10]
    have e : (UInt8.ofNat (48 + n)).toNat = 48 + n := by
      rw [UInt8.toNat_ofNat']
      exact Nat.mod_eq_of_lt (by omega)
    rw [e, if_pos (by omega), if_neg (by omega), if_neg (by omega)]
    congr 1
    omega
  | succ k ih =>
    intro n acc t hn hb
    rw [digF]
    by_cases h10 : n < 10
    · rw [decide_eq_true h10, ifB_true, Lib.parseUint10]
      have e : (UInt8.ofNat (48 + n)).toNat = 48 + n := by
        rw [UInt8.toNat_ofNat']
        exact Nat.mod_eq_of_lt (by omega)
      have hp : 10 ≤ 10 ^ (k + 1 + 1) := by
        rw [Nat.pow_succ]
        have := Nat.pow_pos (n := k + 1) (show 0 < 10 by omega)
        omega
      have hle : acc * 10 ≤ acc * 10 ^ (k + 1 + 1) := Nat.mul_le_mul_left _ hp
      refine ⟨1, by omega, by omega, ?_⟩
      rw [e, if_pos (by omega), if_neg (by omega), if_neg (by omega)]
      congr 1
      omega
    · rw [decide_eq_false h10, ifB_false]
      have hq : n / 10 < 10 ^ (k + 1) := by rw [Nat.pow_succ] at hn; omega
      have hle : acc * 10 ^ (k + 1) ≤ acc * 10 ^ (k + 1 + 1) := Nat.mul_le_mul_left _ (by rw [Nat.pow_succ]; omega)
      obtain ⟨j, h1, h2, h3⟩ := ih (n / 10) acc (UInt8.ofNat (48 + n % 10) :: t) hq (by omega)
      refine ⟨j + 1, by omega, by rw [Nat.pow_succ]; omega, ?_⟩
      rw [h3, Lib.parseUint10]
      have e : (UInt8.ofNat (48 + n % 10)).toNat = 48 + n % 10 := by
        rw [UInt8.toNat_ofNat']
        exact Nat.mod_eq_of_lt (by omega)
      have hpow : 10 ^ (j + 1) ≤ 10 ^ (k + 1 + 1) := Nat.pow_le_pow_right (by omega) (by omega)
      have hle2 : acc * 10 ^ (j + 1) ≤ acc * 10 ^ (k + 1 + 1) := Nat.mul_le_mul_left _ hpow
      have hm : acc * 10 ^ (j + 1) = acc * 10 ^ j * 10 := by rw [Nat.pow_succ, Nat.mul_assoc]
      rw [e, if_pos (by omega), if_neg (by omega), if_neg (by omega)]
      congr 1
      omega
theorem atoi_itoa (x : Int) (hx : Small' x) : Lib.atoiAll (itoaN x) = .ok x := by
  obtain ⟨h1, h2⟩ := hx
  have hp : x.natAbs < 10 ^ (19 + 1) := by
    have e : (10 : Nat) ^ (19 + 1) = 100000000000000000000 := by decide
    omega
  obtain ⟨j, _, _, h3⟩ := parse_digF 19 x.natAbs 0 [] hp (by omega)
  have hne : digF 20 x.natAbs [] ≠ [] := digN_ne x.natAbs
  have hmag : Lib.parseMag (digF 20 x.natAbs []) = .ok x.natAbs := by
    unfold Lib.parseMag
    rw [if_neg hne]
    rw [show (20 : Nat) = 19 + 1 from rfl, h3, Lib.parseUint10]
    congr 1
    omega
  rw [itoaN_sgn x]
  by_cases h0 : x < 0
  · rw [decide_eq_true h0, ifB_true, Lib.atoiAll_minus, hmag]
    simp only [Lib.signed]
    rw [if_neg (by omega)]
    congr 1
    omega
  · rw [decide_eq_false h0, ifB_false]
    have hd : ∀ c r, digF 20 x.natAbs [] = c :: r → c.toNat ≠ 43 ∧ c.toNat ≠ 45 := fun c r e => by
      rw [e] at hmag
      unfold Lib.parseMag at hmag
      rw [if_neg (by simp), Lib.parseUint10] at hmag
      split at hmag
      · omega
      · cases hmag
    cases hds : digF 20 x.natAbs [] with
    | nil => exact absurd hds hne
    | cons c r =>
      obtain ⟨k1, k2⟩ := hd c r hds
      rw [Lib.atoiAll_plain c r k1 k2, ← hds, hmag]
      simp only [Lib.signless]
      rw [if_neg (by omega)]
      congr 1
      omega
end Go.Proofs.YtdoppkjoemlhjaaDoor.Sh

/-
  strings.IndexAny and strings.IndexRune as the machine's code (printed by gen.py, the parts that are not reached left out), their fit, and what they call.
-/
namespace Go.Proofs.YtdoppkjoemlhjaaDoor.Sh
open Go Go.Mx
def a75_l0 : ACode :=
  (.seq
   (.region [
     ⟨(some 176), .nextS (.tmp 175), none⟩,
     ⟨(some 177), .extract (.tmp 176) 0, none⟩] none [5, 181])
   (.seq
    (.cond (.tmp 177)
     .skip
     (.exit 9))
    (.block 10
     (.seq
      (.region [
        ⟨(some 178), .extract (.tmp 176) 1, none⟩,
        ⟨(some 179), .extract (.tmp 176) 2, none⟩,
        ⟨(some 5), .mov (.mv 178), none⟩,
        ⟨(some 6), .mov (.mv 179), none⟩] none [176, 177, 178, 179])
      (.seq
       (.region [
         ⟨(some 180), .mov (.tmp 6), none⟩,
         ⟨(some 181), .bin .eql (.tmp 180) (.const (.int .i32 65533)), none⟩] none [6, 180])
       (.cond (.tmp 181)
        (.seq
         (.region [
           ⟨(some 182), .mov (.mv 5), none⟩,
           ⟨(some 4), .mov (.mv 182), none⟩] none [5, 175, 181, 182])
         .ret)
        .skip))))))
def a75_l2 : ACode :=
  (.seq
   (.seq
    (.region [
      ⟨(some 23), .mov (.tmp 9), none⟩,
      ⟨(some 24), .mov (.tmp 0), none⟩,
      ⟨(some 25), .lenS (.tmp 24), none⟩,
      ⟨(some 26), .bin .lss (.tmp 23) (.tmp 25), none⟩] none [23, 24, 25])
    (.cond (.tmp 26)
     .skip
     (.exit 1)))
   (.block 2
    (.scope
     (.seq
      (.seq
       (.region [
         ⟨(some 27), .mov (.tmp 0), none⟩,
         ⟨(some 28), .mov (.tmp 9), none⟩,
         ⟨(some 29), .index (.tmp 27) (.tmp 28), none⟩,
         ⟨(some 30), .mov (.tmp 7), none⟩,
         ⟨(some 31), .mov (.tmp 8), none⟩,
         ⟨(some 32), .index (.tmp 30) (.tmp 31), none⟩,
         ⟨(some 33), .bin .neq (.tmp 29) (.tmp 32), none⟩] (some [0, 1, 2, 3, 4, 5, 6]) [26, 27, 28, 29, 30, 31, 32])
       (.cond (.tmp 33)
        (.seq
         (.region [
           ⟨(some 34), .mov (.tmp 0), none⟩,
           ⟨(some 35), .mov (.tmp 9), none⟩,
           ⟨(some 36), .bin .add (.tmp 35) (.const (.int .i64 1)), none⟩,
           ⟨(some 37), .sliceS (.tmp 34) (some (.tmp 36)) none, none⟩,
           ⟨(some 38), .mov (.tmp 7), none⟩,
           ⟨(some 39), .mov (.tmp 8), none⟩,
           ⟨(some 40), .index (.tmp 38) (.tmp 39), none⟩,
           ⟨(some 41), .call 86 [(.tmp 37), (.tmp 40)], none⟩,
           ⟨(some 11), .mov (.mv 41), none⟩] (some [0, 1, 2, 3, 4, 5, 6, 7, 8]) [33, 34, 35, 36, 37, 38, 39, 40, 41])
         (.seq
          (.seq
           (.region [
             ⟨(some 42), .mov (.tmp 11), none⟩,
             ⟨(some 43), .bin .lss (.tmp 42) (.const (.int .i64 0)), none⟩] none [42])
           (.cond (.tmp 43)
            (.seq
             (.region [
               ⟨(some 4), .mov (.const (.int .i64 (-1))), none⟩] none [0, 7, 8, 9, 11, 43])
             .ret)
            .skip))
          .stuck))
        .skip))
      .stuck))))
/-- strings.IndexRune -/
def a75 : AFun :=
  { nargs := 2, ntmps := 187, res := [.tmp 4], gc := true, body :=
  (.seq
   (.region [
     ⟨(some 4), .mov (.const (.int .i64 0)), none⟩] none [4])
   (.block 0
    (.seq
     (.region [
       ⟨(some 161), .mov (.tmp 1), none⟩,
       ⟨(some 162), .bin .leq (.const (.int .i32 0)) (.tmp 161), none⟩,
       ⟨(some 163), .mov (.mv 162), none⟩,
       ⟨(some 164), .mov (.tmp 1), (some (163, true))⟩,
       ⟨(some 165), .bin .lss (.tmp 164) (.const (.int .i32 128)), (some (163, true))⟩,
       ⟨(some 166), .pick (.tmp 163) (.tmp 165) (.const (.bool false)), none⟩,
       ⟨(some 160), .mov (.mv 166), none⟩] none [161, 162, 163, 164, 165, 166])
     (.cond (.tmp 160)
      (.seq
       (.region [
         ⟨(some 167), .mov (.mv 0), none⟩,
         ⟨(some 168), .mov (.mv 1), none⟩,
         ⟨(some 169), .toInt .u8 (.tmp 168), none⟩,
         ⟨(some 170), .call 86 [(.tmp 167), (.tmp 169)], none⟩,
         ⟨(some 4), .mov (.mv 170), none⟩] none [0, 1, 160, 167, 168, 169, 170])
       .ret)
      (.seq
       (.region [
         ⟨(some 172), .mov (.tmp 1), none⟩,
         ⟨(some 173), .bin .eql (.tmp 172) (.const (.int .i32 65533)), none⟩,
         ⟨(some 171), .mov (.mv 173), none⟩] none [160, 172, 173])
       (.cond (.tmp 171)
        (.seq
         (.seq
          (.region [
            ⟨(some 174), .mov (.tmp 0), none⟩,
            ⟨(some 175), .rangeS (.tmp 174), none⟩] none [0, 1, 171, 174])
          (.block 9
           (.loop a75_l0)))
         (.seq
          (.region [
            ⟨(some 4), .mov (.const (.int .i64 (-1))), none⟩] none [5, 175, 176, 177, 181])
          .ret))
        (.seq
         (.region [
           ⟨(some 184), .mov (.tmp 1), none⟩,
           ⟨(some 185), .call 87 [(.tmp 184)], none⟩,
           ⟨(some 186), .un .not (.tmp 185), none⟩,
           ⟨(some 183), .mov (.mv 186), none⟩] none [171, 184, 185, 186])
         (.cond (.tmp 183)
          (.seq
           (.region [
             ⟨(some 4), .mov (.const (.int .i64 (-1))), none⟩] none [0, 1, 183])
           .ret)
          (.scope
           (.seq
            (.region [
              ⟨(some 17), .mov (.tmp 1), none⟩,
              ⟨(some 18), .runeStr (.tmp 17), none⟩,
              ⟨(some 7), .mov (.mv 18), none⟩] none [1, 17, 18, 183])
            (.seq
             (.region [
               ⟨(some 19), .mov (.tmp 7), none⟩,
               ⟨(some 20), .lenS (.tmp 19), none⟩,
               ⟨(some 21), .bin .sub (.tmp 20) (.const (.int .i64 1)), none⟩,
               ⟨(some 8), .mov (.mv 21), none⟩] none [19, 20, 21])
             (.seq
              (.region [
                ⟨(some 22), .mov (.tmp 8), none⟩,
                ⟨(some 9), .mov (.mv 22), none⟩] none [22])
              (.seq
               (.region [
                 ⟨(some 10), .mov (.const (.int .i64 0)), none⟩] none [10])
               (.seq
                (.block 1
                 (.loop a75_l2))
                (.seq
                 (.seq
                  (.region [
                    ⟨(some 4), .mov (.const (.int .i64 (-1))), none⟩] none [0, 7, 8, 9, 26])
                  .ret)
                 .stuck))))))))))))))) }

def a64_l1 : ACode :=
  (.seq
   (.region [
     ⟨(some 46), .nextS (.tmp 45), none⟩,
     ⟨(some 47), .extract (.tmp 46) 0, none⟩] none [9, 53])
   (.seq
    (.cond (.tmp 47)
     .skip
     (.exit 2))
    (.block 3
     (.seq
      (.region [
        ⟨(some 48), .extract (.tmp 46) 1, none⟩,
        ⟨(some 49), .extract (.tmp 46) 2, none⟩,
        ⟨(some 9), .mov (.mv 48), none⟩,
        ⟨(some 10), .mov (.mv 49), none⟩] none [46, 47, 48, 49])
      (.seq
       (.region [
         ⟨(some 50), .mov (.tmp 1), none⟩,
         ⟨(some 51), .mov (.tmp 10), none⟩,
         ⟨(some 52), .call 75 [(.tmp 50), (.tmp 51)], none⟩,
         ⟨(some 53), .bin .geq (.tmp 52) (.const (.int .i64 0)), none⟩] none [10, 50, 51, 52])
       (.cond (.tmp 53)
        (.seq
         (.region [
           ⟨(some 54), .mov (.mv 9), none⟩,
           ⟨(some 4), .mov (.mv 54), none⟩] none [1, 9, 45, 53, 54])
         .ret)
        .skip))))))
/-- strings.IndexAny -/
def a64 : AFun :=
  { nargs := 2, ntmps := 55, res := [.tmp 4], gc := true, body :=
  (.seq
   (.region [
     ⟨(some 4), .mov (.const (.int .i64 0)), none⟩] none [4])
   (.seq
    (.seq
     (.region [
       ⟨(some 11), .mov (.tmp 1), none⟩,
       ⟨(some 12), .bin .eql (.tmp 11) (.const (.str [])), none⟩] none [11])
     (.cond (.tmp 12)
      (.seq
       (.region [
         ⟨(some 4), .mov (.const (.int .i64 (-1))), none⟩] none [0, 1, 12])
       .ret)
      .skip))
    (.seq
     (.seq
      (.region [
        ⟨(some 13), .mov (.tmp 1), none⟩,
        ⟨(some 14), .lenS (.tmp 13), none⟩,
        ⟨(some 15), .bin .eql (.tmp 14) (.const (.int .i64 1)), none⟩] none [12, 13, 14])
      (.cond (.tmp 15)
       (.seq
        (.region [
          ⟨(some 16), .mov (.tmp 1), none⟩,
          ⟨(some 17), .index (.tmp 16) (.const (.int .i64 0)), none⟩,
          ⟨(some 18), .toInt .i32 (.tmp 17), none⟩,
          ⟨(some 5), .mov (.mv 18), none⟩] none [1, 15, 16, 17, 18])
        (.seq
         (.seq
          (.region [
            ⟨(some 19), .mov (.tmp 5), none⟩,
            ⟨(some 20), .bin .geq (.tmp 19) (.const (.int .i32 128)), none⟩] none [19])
          (.cond (.tmp 20)
           (.region [
             ⟨(some 5), .mov (.const (.int .i32 65533)), none⟩] none [20])
           .skip))
         (.seq
          (.region [
            ⟨(some 21), .mov (.mv 0), none⟩,
            ⟨(some 22), .mov (.mv 5), none⟩,
            ⟨(some 23), .call 75 [(.tmp 21), (.tmp 22)], none⟩,
            ⟨(some 4), .mov (.mv 23), none⟩] none [0, 5, 20, 21, 22, 23])
          .ret)))
       .skip))
     (.seq
      (.seq
       (.region [
         ⟨(some 24), .mov (.tmp 0), none⟩,
         ⟨(some 25), .lenS (.tmp 24), none⟩,
         ⟨(some 26), .call 76 [(.tmp 25)], none⟩] none [15, 24, 25])
       (.cond (.tmp 26)
        .stuck
        .skip))
      (.seq
       (.seq
        (.region [
          ⟨(some 44), .mov (.tmp 0), none⟩,
          ⟨(some 45), .rangeS (.tmp 44), none⟩] none [0, 6, 26, 32, 44])
        (.block 2
         (.loop a64_l1)))
       (.seq
        (.region [
          ⟨(some 4), .mov (.const (.int .i64 (-1))), none⟩] none [1, 9, 45, 46, 47, 53])
        .ret)))))) }

theorem ok64 : okFun Tryd.prog Tryd.f64 a64 = true := by kernel_rfl
theorem ok75 : okFun Tryd.prog Tryd.f75 a75 = true := by kernel_rfl
def xByteAt : List D → Option D
  | [.str s, .int .u8 c] => some (.int .i64 (Lib.indexByte s c.toNat.toUInt8))
  | _ => none
def xManyB : List D → Option D
  | [.int .i64 n] => some (.bool (decide (8 < n)))
  | _ => none
def xValidR : List D → Option D
  | [.int .i32 r] => some (.bool (Lib.validRune r))
  | _ => none
def Xi : CallF := fun f ds σ => match f with
  | 76 => bindO (xManyB ds) fun d => some (.ret ⟨false, d⟩, σ)
  | 86 => bindO (xByteAt ds) fun d => some (.ret ⟨false, d⟩, σ)
  | 87 => bindO (xValidR ds) fun d => some (.ret ⟨false, d⟩, σ)
  | _ => none
def Γi : FuncId → Option AFun := fun f => match f with
  | 64 => some a64
  | 75 => some a75
  | _ => none
theorem Γi_holds : Holds Tryd.prog Γi := by
  intro f af h
  unfold Γi at h
  split at h
  · cases h; exact ⟨_, Tryd.func64, ok64⟩
  · cases h; exact ⟨_, Tryd.func75, ok75⟩
  · cases h
theorem Xi_sound : CSound Tryd.prog κ Xi := by
  intro f ds σ out σ' h
  unfold Xi at h
  split at h
  · obtain ⟨d, h1, h⟩ := bindO_some h
    cases h
    unfold xManyB at h1
    split at h1
    · cases h1
      refine pure_call ⟨_, _, Tryd.func76, by kernel_rfl, rfl⟩ (fun ι j own w vs hB hG hr => ?_)
      obtain ⟨v, rfl, hv⟩ := repL1 hr
      simp only [Rep] at hv
      subst hv
      refine (Tryd.strings_shouldUseASCIISet _ w).mono ?_
      rintro e w' ⟨rfl, rfl⟩
      exact ⟨_, rfl, RowKit.Below.refl _ _, by simp only [Rep]⟩
    · cases h1
  · obtain ⟨d, h1, h⟩ := bindO_some h
    cases h
    unfold xByteAt at h1
    split at h1
    · cases h1
      refine pure_call ⟨_, _, Tryd.func86, by kernel_rfl, rfl⟩ (fun ι j own w vs hB hG hr => ?_)
      obtain ⟨v, v', rfl, hv, hv'⟩ := repL2 hr
      simp only [Rep] at hv hv'
      subst hv
      subst hv'
      refine (Tryd.strings_IndexByte _ _ w).mono ?_
      rintro e w' ⟨rfl, rfl⟩
      exact ⟨_, rfl, RowKit.Below.refl _ _, by simp only [Rep]⟩
    · cases h1
  · obtain ⟨d, h1, h⟩ := bindO_some h
    cases h
    unfold xValidR at h1
    split at h1
    · cases h1
      refine pure_call ⟨_, _, Tryd.func87, by kernel_rfl, rfl⟩ (fun ι j own w vs hB hG hr => ?_)
      obtain ⟨v, rfl, hv⟩ := repL1 hr
      simp only [Rep] at hv
      subst hv
      refine (Tryd.utf8_ValidRune _ w).mono ?_
      rintro e w' ⟨rfl, rfl⟩
      exact ⟨_, rfl, RowKit.Below.refl _ _, by simp only [Rep]⟩
    · cases h1
  · cases h
end Go.Proofs.YtdoppkjoemlhjaaDoor.Sh

/-
  strings.IndexAny at a text of at most eight bytes, whatever they are: where it ends.
-/
namespace Go.Proofs.YtdoppkjoemlhjaaDoor.Sh
open Go Go.Mx
def RNone : RecF := fun _ _ _ _ => none
theorem RNone_sound : RSound Tryd.prog κ RNone := fun _ _ _ _ _ _ h => by cases h
def TI (n : Nat) : CallF := runQ Γi RNone Xi n false
def TID (n : Nat) : CallF := runQ Γi RNone Xi n true
theorem TI_sound (n : Nat) : CSound Tryd.prog κ (TI n) := (run_sound Γi_holds RNone_sound Xi_sound n).1
theorem TI_fun {n : Nat} {f : FuncId} {af : AFun} {ds : List D} {σ : Store} (h : Γi f = some af) (hl : ds.length = af.nargs) : TI (n + 1) f ds σ = finX RNone (TID n) af σ.next (exec (TI n) n af.body (initEnv ds) σ) := runQ_fun h hl
theorem TI_lib {n : Nat} {f : FuncId} {ds : List D} {σ : Store} (h : Γi f = none) : TI (n + 1) f ds σ = Xi f ds σ := runQ_lib h
theorem loopN_ex {body : Env → Store → XRes} (I : Nat → Env → Store → Prop) (Q : AExit × Env × Store → Prop)
    (hstep : ∀ k e σ, I k e σ → (∃ r, body e σ = some r ∧ (∀ e' σ', r ≠ (.normal, e', σ')) ∧ Q r) ∨ (∃ k' e' σ', k' < k ∧ body e σ = some (.normal, e', σ') ∧ I k' e' σ')) : ∀ (n k : Nat) (e : Env) (σ : Store), k < n → I k e σ → ∃ r, loopN body n e σ = some r ∧ Q r
  | 0, k, e, σ, h, _ => by omega
  | n + 1, k, e, σ, h, hI => by
    rw [loopN]
    rcases hstep k e σ hI with ⟨r, hr, hn, hq⟩ | ⟨k', e', σ', hk, hb, hI'⟩
    · refine ⟨r, ?_, hq⟩
      rw [hr]
      obtain ⟨x, e', σ'⟩ := r
      cases x with
      | normal => exact absurd rfl (hn e' σ')
      | _ => rfl
    · rw [hb]
      exact loopN_ex I Q hstep n k' e' σ' (by omega) hI'
theorem encode_form (r : Int) (h : 128 ≤ r) : (∃ a b : UInt8, (Utf8.encode r).data.toList = [a, b] ∧ 128 ≤ b.toNat) ∨ 3 ≤ (Utf8.encode r).data.toList.length := by
  unfold Utf8.encode
  have hc : 128 ≤ (if Utf8.valid r = true then r.toNat else Utf8.runeError) := by
    split
    · omega
    · decide
  generalize (if Utf8.valid r = true then r.toNat else Utf8.runeError) = c at hc
  simp only
  rw [if_neg (by omega)]
  split
  · left
    refine ⟨_, _, rfl, ?_⟩
    rw [UInt8.toNat_ofNat']
    omega
  · right
    split
    · simp
    · simp
def S64 (s : List UInt8) (p nx : Nat) : Store := { objs := [], tys := [], iters := [(0, (s, p))], next := nx }
theorem S64_next {s : List UInt8} {p nx : Nat} : (S64 s p nx).next = nx := rfl
theorem S64_trunc {s : List UInt8} {p nx nx' : Nat} (h : 1 ≤ nx) : (S64 s p nx').trunc nx = S64 s p nx' := by
  have : 0 < nx := by omega
  simp [S64, Store.trunc, this]
theorem S64_trunc2 {s : List UInt8} {p nx nx' : Nat} {x : List UInt8 × Nat} (h : 1 ≤ nx) : ({ objs := [], tys := [], iters := [(nx, x), (0, (s, p))], next := nx' } : Store).trunc nx = S64 s p nx' := by
  have : 0 < nx := by omega
  simp [S64, Store.trunc, this]
set_option maxRecDepth 10000
theorem byteAt_run : Evly fun n => ∀ s c σ, TI n 86 [.str s, .int .u8 c] σ = some (.ret ⟨false, .int .i64 (Lib.indexByte s c.toNat.toUInt8)⟩, σ) := (Evly.all (p := fun _ => True) fun _ => trivial).step 0 fun n _ _ s c σ => by rw [TI_lib rfl]; rfl
theorem validR_run : Evly fun n => ∀ r σ, TI n 87 [.int .i32 r] σ = some (.ret ⟨false, .bool (Lib.validRune r)⟩, σ) := (Evly.all (p := fun _ => True) fun _ => trivial).step 0 fun n _ _ r σ => by rw [TI_lib rfl]; rfl
theorem manyB_run : Evly fun n => ∀ k σ, TI n 76 [.int .i64 k] σ = some (.ret ⟨false, .bool (decide (8 < k))⟩, σ) := (Evly.all (p := fun _ => True) fun _ => trivial).step 0 fun n _ _ r σ => by rw [TI_lib rfl]; rfl
theorem wrapI {x : Int} (h1 : -1000 ≤ x) (h2 : x ≤ 1000) : IntKind.i64.wrap x = x := by
  simp [IntKind.wrap, IntKind.bits, IntKind.signed]
  omega
theorem loopN_on {body : Env → Store → XRes} {n : Nat} {e e' : Env} {σ σ' : Store} (h : body e σ = some (.normal, e', σ')) : loopN body (n + 1) e σ = loopN body n e' σ' := by rw [loopN, h]
theorem loopN_exit {body : Env → Store → XRes} {n id : Nat} {e e' : Env} {σ σ' : Store} (h : body e σ = some (.exit id, e', σ')) : loopN body (n + 1) e σ = some (.exit id, e', σ') := by rw [loopN, h]
theorem loopN_ret {body : Env → Store → XRes} {n : Nat} {e e' : Env} {σ σ' : Store} (h : body e σ = some (.ret, e', σ')) : loopN body (n + 1) e σ = some (.ret, e', σ') := by rw [loopN, h]
section
variable {C : CallF} {n : Nat} {s : List UInt8} {p nx : Nat}
def SE (s : List UInt8) (p nx j : Nat) : Store := { objs := [], tys := [], iters := [(nx, ([32, 41], j)), (0, (s, p))], next := nx + 1 }
theorem dec0 : Utf8.decode ⟨⟨[32, 41]⟩⟩ 0 = (32, 1) := by kernel_rfl
theorem dec1 : Utf8.decode ⟨⟨[32, 41]⟩⟩ 1 = (41, 1) := by kernel_rfl
theorem l75_r0 : exec C n a75_l0 { slots := [(175, ⟨false, .ptr nx 0⟩)], locs := [], boxes := [], defers := [] } (SE s p nx 0) = some (.normal, { slots := [(175, ⟨false, .ptr nx 0⟩), (5, ⟨false, .int .i64 0⟩), (181, ⟨false, .bool false⟩)], locs := [], boxes := [], defers := [] }, SE s p nx 1) := by
  have f : ((((32 : Nat) : Int)) == 65533) = false := by decide
  simp only [a75_l0, SE, sy0, sy1, sy2, sy3, sy4, sy5, clearEnv, adel, mem, initEnv, initSlots, stepOp, wantedA, evalOp, callOf, panicOf, evalV, addr, opd, opds, aget, aset, adel1, lkill, readCells, nth, Env.put, Env.putV, Env.box, Env.bare, dropOwn, dropOwnS, binD, binBD, binBool, binInt, binStr, unD, AOpd.drop, Cell.of, AOp.kind, sameKind, assertD, eqlB, isUndef, takeC, unownAt, fits, layCells, putCells, putD, fillD, partsOf, optLo, optHi, allSize, Option.getD_some, Option.getD_none, runDefers, readRes, readRes1, readRess, Nat.reduceAdd, Nat.reduceSub, Nat.reduceMul, Nat.reduceBEq, Bool.false_and, Bool.true_and, Bool.and_true, Bool.and_false, Nat.zero_add, Nat.add_zero, beq_self_eq_true, Bool.true_beq, Bool.false_beq, Bool.not_true, Bool.not_false, decide_true, decide_false, bindO, List.map_cons, List.map_nil, List.length_cons, List.length_nil, List.append_nil, List.nil_append, List.cons_append, List.isEmpty_nil, List.isEmpty_cons, Nat.reduceLeDiff, Int.reduceBEq, Int.reduceNeg, Nat.le_refl, dec0, f]
  rfl
theorem l75_r1 : exec C n a75_l0 { slots := [(175, ⟨false, .ptr nx 0⟩), (5, ⟨false, .int .i64 0⟩), (181, ⟨false, .bool false⟩)], locs := [], boxes := [], defers := [] } (SE s p nx 1) = some (.normal, { slots := [(175, ⟨false, .ptr nx 0⟩), (5, ⟨false, .int .i64 1⟩), (181, ⟨false, .bool false⟩)], locs := [], boxes := [], defers := [] }, SE s p nx 2) := by
  have f : ((((41 : Nat) : Int)) == 65533) = false := by decide
  simp only [a75_l0, SE, sy0, sy1, sy2, sy3, sy4, sy5, clearEnv, adel, mem, initEnv, initSlots, stepOp, wantedA, evalOp, callOf, panicOf, evalV, addr, opd, opds, aget, aset, adel1, lkill, readCells, nth, Env.put, Env.putV, Env.box, Env.bare, dropOwn, dropOwnS, binD, binBD, binBool, binInt, binStr, unD, AOpd.drop, Cell.of, AOp.kind, sameKind, assertD, eqlB, isUndef, takeC, unownAt, fits, layCells, putCells, putD, fillD, partsOf, optLo, optHi, allSize, Option.getD_some, Option.getD_none, runDefers, readRes, readRes1, readRess, Nat.reduceAdd, Nat.reduceSub, Nat.reduceMul, Nat.reduceBEq, Bool.false_and, Bool.true_and, Bool.and_true, Bool.and_false, Nat.zero_add, Nat.add_zero, beq_self_eq_true, Bool.true_beq, Bool.false_beq, Bool.not_true, Bool.not_false, decide_true, decide_false, bindO, List.map_cons, List.map_nil, List.length_cons, List.length_nil, List.append_nil, List.nil_append, List.cons_append, List.isEmpty_nil, List.isEmpty_cons, Nat.reduceLeDiff, Int.reduceBEq, Int.reduceNeg, Nat.le_refl, dec1, f]
  rfl
theorem l75_r2 : exec C n a75_l0 { slots := [(175, ⟨false, .ptr nx 0⟩), (5, ⟨false, .int .i64 1⟩), (181, ⟨false, .bool false⟩)], locs := [], boxes := [], defers := [] } (SE s p nx 2) = some (.exit 9, { slots := [(175, ⟨false, .ptr nx 0⟩), (176, ⟨false, .tup [.bool false]⟩), (177, ⟨false, .bool false⟩)], locs := [], boxes := [], defers := [] }, SE s p nx 2) := by
  have f : decide (2 < 2) = false := rfl
  simp only [a75_l0, SE, sy0, sy1, sy2, sy3, sy4, sy5, clearEnv, adel, mem, initEnv, initSlots, stepOp, wantedA, evalOp, callOf, panicOf, evalV, addr, opd, opds, aget, aset, adel1, lkill, readCells, nth, Env.put, Env.putV, Env.box, Env.bare, dropOwn, dropOwnS, binD, binBD, binBool, binInt, binStr, unD, AOpd.drop, Cell.of, AOp.kind, sameKind, assertD, eqlB, isUndef, takeC, unownAt, fits, layCells, putCells, putD, fillD, partsOf, optLo, optHi, allSize, Option.getD_some, Option.getD_none, runDefers, readRes, readRes1, readRess, Nat.reduceAdd, Nat.reduceSub, Nat.reduceMul, Nat.reduceBEq, Bool.false_and, Bool.true_and, Bool.and_true, Bool.and_false, Nat.zero_add, Nat.add_zero, beq_self_eq_true, Bool.true_beq, Bool.false_beq, Bool.not_true, Bool.not_false, decide_true, decide_false, bindO, List.map_cons, List.map_nil, List.length_cons, List.length_nil, List.append_nil, List.nil_append, List.cons_append, List.isEmpty_nil, List.isEmpty_cons, Nat.reduceLeDiff, Int.reduceBEq, Int.reduceNeg, Nat.le_refl, f]
def E75 (rs : List UInt8) (k : Int) : Env := { slots := [(0, ⟨false, .str [32, 41]⟩), (7, ⟨false, .str rs⟩), (8, ⟨false, .int .i64 k⟩), (9, ⟨false, .int .i64 k⟩)], locs := [], boxes := [], defers := [] }
theorem l75_two {a b : UInt8} (hb : 128 ≤ b.toNat) (hC : ∀ c, C 86 [.str [], .int .u8 c] (S64 s p nx) = some (.ret ⟨false, .int .i64 (-1)⟩, S64 s p nx)) : exec C n a75_l2 (E75 [a, b] 1) (S64 s p nx) = some (.ret, { slots := [(4, ⟨false, .int .i64 (-1)⟩)], locs := [], boxes := [], defers := [] }, S64 s p nx) := by
  have f : (((41 : UInt8).toNat : Int) != (b.toNat : Int)) = true := by simp; omega
  have g1 : (D.int .i64 1).nat? = some 1 := rfl
  have g2 : (D.int .i64 2).nat? = some 2 := rfl
  have g3 : IntKind.i64.wrap (1 + 1) = 2 := rfl
  have g4 : sliceStr [32, 41] 2 none = some (.str []) := rfl
  have f2 : ((1 : Int) < ((2 : Nat) : Int)) := by omega
  have f3 : ((-1 : Int) < 0) := by omega
  simp only [a75_l2, E75, sy0, sy1, sy2, sy3, sy4, sy5, clearEnv, adel, mem, initEnv, initSlots, stepOp, wantedA, evalOp, callOf, panicOf, evalV, addr, opd, opds, aget, aset, adel1, lkill, readCells, nth, Env.put, Env.putV, Env.box, Env.bare, dropOwn, dropOwnS, binD, binBD, binBool, binInt, binStr, unD, AOpd.drop, Cell.of, AOp.kind, sameKind, assertD, eqlB, isUndef, takeC, unownAt, fits, layCells, putCells, putD, fillD, partsOf, optLo, optHi, allSize, Option.getD_some, Option.getD_none, runDefers, readRes, readRes1, readRess, Nat.reduceAdd, Nat.reduceSub, Nat.reduceMul, Nat.reduceBEq, Bool.false_and, Bool.true_and, Bool.and_true, Bool.and_false, Nat.zero_add, Nat.add_zero, beq_self_eq_true, Bool.true_beq, Bool.false_beq, Bool.not_true, Bool.not_false, decide_true, decide_false, bindO, List.map_cons, List.map_nil, List.length_cons, List.length_nil, List.append_nil, List.nil_append, List.cons_append, List.isEmpty_nil, List.isEmpty_cons, Nat.reduceLeDiff, Int.reduceBEq, Int.reduceNeg, Nat.le_refl, f, f2, f3, g1, g2, g3, g4, hC]
theorem l75_far {rs : List UInt8} {k : Int} (hk : 2 ≤ k) : exec C n a75_l2 (E75 rs k) (S64 s p nx) = some (.exit 1, { slots := [(0, ⟨false, .str [32, 41]⟩), (7, ⟨false, .str rs⟩), (8, ⟨false, .int .i64 k⟩), (9, ⟨false, .int .i64 k⟩), (26, ⟨false, .bool false⟩)], locs := [], boxes := [], defers := [] }, S64 s p nx) := by
  have f2 : ¬ (k < ((2 : Nat) : Int)) := by omega
  simp only [a75_l2, E75, sy0, sy1, sy2, sy3, sy4, sy5, clearEnv, adel, mem, initEnv, initSlots, stepOp, wantedA, evalOp, callOf, panicOf, evalV, addr, opd, opds, aget, aset, adel1, lkill, readCells, nth, Env.put, Env.putV, Env.box, Env.bare, dropOwn, dropOwnS, binD, binBD, binBool, binInt, binStr, unD, AOpd.drop, Cell.of, AOp.kind, sameKind, assertD, eqlB, isUndef, takeC, unownAt, fits, layCells, putCells, putD, fillD, partsOf, optLo, optHi, allSize, Option.getD_some, Option.getD_none, runDefers, readRes, readRes1, readRess, Nat.reduceAdd, Nat.reduceSub, Nat.reduceMul, Nat.reduceBEq, Bool.false_and, Bool.true_and, Bool.and_true, Bool.and_false, Nat.zero_add, Nat.add_zero, beq_self_eq_true, Bool.true_beq, Bool.false_beq, Bool.not_true, Bool.not_false, decide_true, decide_false, bindO, List.map_cons, List.map_nil, List.length_cons, List.length_nil, List.append_nil, List.nil_append, List.cons_append, List.isEmpty_nil, List.isEmpty_cons, Nat.reduceLeDiff, Int.reduceBEq, Int.reduceNeg, Nat.le_refl, f2]
end
theorem rune_run : Evly fun n => ∀ (c : Nat) s p nx, 1 ≤ nx → ∃ (i : Int) (nx' : Nat), nx ≤ nx' ∧ TI n 75 [.str [32, 41], .int .i32 (c : Int)] (S64 s p nx) = some (.ret ⟨false, .int .i64 i⟩, S64 s p nx') := by
  refine ((byteAt_run.and validR_run).and manyB_run).step 10 fun m hm ⟨⟨hbyte, hval⟩, hmany⟩ c s p nx hnx => ?_
  rw [TI_fun (af := a75) rfl rfl]
  have h0 : ((0 : Int) ≤ (c : Int)) := by omega
  have tr := S64_trunc (s := s) (p := p) (nx := nx) (nx' := nx) hnx
  by_cases h1 : c < 128
  · have f1 : ((c : Int) < 128) := by omega
    have hw : IntKind.u8.wrap (c : Int) = (c : Int) := by
      simp [IntKind.wrap, IntKind.bits, IntKind.signed]
      omega
    have hb := hbyte [32, 41] (c : Int) (S64 s p nx)
    refine ⟨Lib.indexByte [32, 41] ((c : Int)).toNat.toUInt8, nx, Nat.le_refl _, ?_⟩
    simp only [a75, sy0, sy1, sy2, sy3, sy4, sy5, clearEnv, adel, mem, initEnv, initSlots, stepOp, wantedA, evalOp, callOf, panicOf, evalV, addr, opd, opds, aget, aset, adel1, lkill, readCells, nth, Env.put, Env.putV, Env.box, Env.bare, dropOwn, dropOwnS, binD, binBD, binBool, binInt, binStr, unD, AOpd.drop, Cell.of, AOp.kind, sameKind, assertD, eqlB, isUndef, takeC, unownAt, fits, layCells, putCells, putD, fillD, partsOf, optLo, optHi, allSize, Option.getD_some, Option.getD_none, runDefers, readRes, readRes1, readRess, Nat.reduceAdd, Nat.reduceSub, Nat.reduceMul, Nat.reduceBEq, Bool.false_and, Bool.true_and, Bool.and_true, Bool.and_false, Nat.zero_add, Nat.add_zero, beq_self_eq_true, Bool.true_beq, Bool.false_beq, Bool.not_true, Bool.not_false, decide_true, decide_false, bindO, List.map_cons, List.map_nil, List.length_cons, List.length_nil, List.append_nil, List.nil_append, List.cons_append, List.isEmpty_nil, List.isEmpty_cons, Nat.reduceLeDiff, Int.reduceBEq, Int.reduceNeg, Nat.le_refl, h0, f1, hw, hb, S64_next, tr]
  · have f1 : ¬ ((c : Int) < 128) := by omega
    by_cases h2 : c = 65533
    · have f2 : ((c : Int) == 65533) = true := by rw [h2]; rfl
      refine ⟨-1, nx + 1, by omega, ?_⟩
      obtain ⟨k, rfl⟩ : ∃ k, m = k + 3 := ⟨m - 3, by omega⟩
      have hloop := (loopN_on (n := k + 2) (l75_r0 (C := TI (k + 3)) (n := k + 3) (s := s) (p := p) (nx := nx))).trans ((loopN_on (n := k + 1) l75_r1).trans (loopN_exit (n := k) l75_r2))
      have tr2 := S64_trunc2 (s := s) (p := p) (nx := nx) (nx' := nx + 1) (x := ([32, 41], 2)) hnx
      simp only [SE, S64] at hloop tr2
      simp only [a75, sy0, sy1, sy2, sy3, sy4, sy5, clearEnv, adel, mem, initEnv, initSlots, stepOp, wantedA, evalOp, callOf, panicOf, evalV, addr, opd, opds, aget, aset, adel1, lkill, readCells, nth, Env.put, Env.putV, Env.box, Env.bare, dropOwn, dropOwnS, binD, binBD, binBool, binInt, binStr, unD, AOpd.drop, Cell.of, AOp.kind, sameKind, assertD, eqlB, isUndef, takeC, unownAt, fits, layCells, putCells, putD, fillD, partsOf, optLo, optHi, allSize, Option.getD_some, Option.getD_none, runDefers, readRes, readRes1, readRess, Nat.reduceAdd, Nat.reduceSub, Nat.reduceMul, Nat.reduceBEq, Bool.false_and, Bool.true_and, Bool.and_true, Bool.and_false, Nat.zero_add, Nat.add_zero, beq_self_eq_true, Bool.true_beq, Bool.false_beq, Bool.not_true, Bool.not_false, decide_true, decide_false, bindO, List.map_cons, List.map_nil, List.length_cons, List.length_nil, List.append_nil, List.nil_append, List.cons_append, List.isEmpty_nil, List.isEmpty_cons, Nat.reduceLeDiff, Int.reduceBEq, Int.reduceNeg, Nat.le_refl, h0, f1, f2, S64_next, S64, hloop, tr2]
    · have f2 : ((c : Int) == 65533) = false := by simp; omega
      have hv := hval (c : Int) (S64 s p nx)
      cases hvr : Lib.validRune (c : Int) with
      | false =>
        rw [hvr] at hv
        refine ⟨-1, nx, Nat.le_refl _, ?_⟩
        simp only [a75, sy0, sy1, sy2, sy3, sy4, sy5, clearEnv, adel, mem, initEnv, initSlots, stepOp, wantedA, evalOp, callOf, panicOf, evalV, addr, opd, opds, aget, aset, adel1, lkill, readCells, nth, Env.put, Env.putV, Env.box, Env.bare, dropOwn, dropOwnS, binD, binBD, binBool, binInt, binStr, unD, AOpd.drop, Cell.of, AOp.kind, sameKind, assertD, eqlB, isUndef, takeC, unownAt, fits, layCells, putCells, putD, fillD, partsOf, optLo, optHi, allSize, Option.getD_some, Option.getD_none, runDefers, readRes, readRes1, readRess, Nat.reduceAdd, Nat.reduceSub, Nat.reduceMul, Nat.reduceBEq, Bool.false_and, Bool.true_and, Bool.and_true, Bool.and_false, Nat.zero_add, Nat.add_zero, beq_self_eq_true, Bool.true_beq, Bool.false_beq, Bool.not_true, Bool.not_false, decide_true, decide_false, bindO, List.map_cons, List.map_nil, List.length_cons, List.length_nil, List.append_nil, List.nil_append, List.cons_append, List.isEmpty_nil, List.isEmpty_cons, Nat.reduceLeDiff, Int.reduceBEq, Int.reduceNeg, Nat.le_refl, h0, f1, f2, hv, S64_next, tr]
      | true =>
        rw [hvr] at hv
        refine ⟨-1, nx, Nat.le_refl _, ?_⟩
        have hform := encode_form (c : Int) (by omega)
        have hlen : (Utf8.encode (c : Int)).data.toList.length ≤ 4 := by
          unfold Utf8.encode
          simp only
          repeat' split
          all_goals simp
        generalize he : (Utf8.encode (c : Int)).data.toList = rs at hform hlen
        obtain ⟨k, rfl⟩ : ∃ k, m = k + 1 := ⟨m - 1, by omega⟩
        rcases hform with ⟨a, b, rfl, hb⟩ | hf
        · have hloop := loopN_ret (n := k) (l75_two (n := k + 1) (s := s) (p := p) (nx := nx) (a := a) hb (fun c => hbyte [] c (S64 s p nx)))
          have hk : IntKind.i64.wrap (((2 : Nat) : Int) - 1) = 1 := rfl
          simp only [E75] at hloop
          simp only [a75, sy0, sy1, sy2, sy3, sy4, sy5, clearEnv, adel, mem, initEnv, initSlots, stepOp, wantedA, evalOp, callOf, panicOf, evalV, addr, opd, opds, aget, aset, adel1, lkill, readCells, nth, Env.put, Env.putV, Env.box, Env.bare, dropOwn, dropOwnS, binD, binBD, binBool, binInt, binStr, unD, AOpd.drop, Cell.of, AOp.kind, sameKind, assertD, eqlB, isUndef, takeC, unownAt, fits, layCells, putCells, putD, fillD, partsOf, optLo, optHi, allSize, Option.getD_some, Option.getD_none, runDefers, readRes, readRes1, readRess, Nat.reduceAdd, Nat.reduceSub, Nat.reduceMul, Nat.reduceBEq, Bool.false_and, Bool.true_and, Bool.and_true, Bool.and_false, Nat.zero_add, Nat.add_zero, beq_self_eq_true, Bool.true_beq, Bool.false_beq, Bool.not_true, Bool.not_false, decide_true, decide_false, bindO, List.map_cons, List.map_nil, List.length_cons, List.length_nil, List.append_nil, List.nil_append, List.cons_append, List.isEmpty_nil, List.isEmpty_cons, Nat.reduceLeDiff, Int.reduceBEq, Int.reduceNeg, Nat.le_refl, h0, f1, f2, hv, he, S64_next, hk, hloop, tr]
        · have hk : IntKind.i64.wrap ((rs.length : Int) - 1) = (rs.length : Int) - 1 := wrapI (by omega) (by omega)
          have hloop := loopN_exit (n := k) (l75_far (C := TI (k + 1)) (n := k + 1) (s := s) (p := p) (nx := nx) (rs := rs) (k := (rs.length : Int) - 1) (by omega))
          simp only [E75] at hloop
          simp only [a75, sy0, sy1, sy2, sy3, sy4, sy5, clearEnv, adel, mem, initEnv, initSlots, stepOp, wantedA, evalOp, callOf, panicOf, evalV, addr, opd, opds, aget, aset, adel1, lkill, readCells, nth, Env.put, Env.putV, Env.box, Env.bare, dropOwn, dropOwnS, binD, binBD, binBool, binInt, binStr, unD, AOpd.drop, Cell.of, AOp.kind, sameKind, assertD, eqlB, isUndef, takeC, unownAt, fits, layCells, putCells, putD, fillD, partsOf, optLo, optHi, allSize, Option.getD_some, Option.getD_none, runDefers, readRes, readRes1, readRess, Nat.reduceAdd, Nat.reduceSub, Nat.reduceMul, Nat.reduceBEq, Bool.false_and, Bool.true_and, Bool.and_true, Bool.and_false, Nat.zero_add, Nat.add_zero, beq_self_eq_true, Bool.true_beq, Bool.false_beq, Bool.not_true, Bool.not_false, decide_true, decide_false, bindO, List.map_cons, List.map_nil, List.length_cons, List.length_nil, List.append_nil, List.nil_append, List.cons_append, List.isEmpty_nil, List.isEmpty_cons, Nat.reduceLeDiff, Int.reduceBEq, Int.reduceNeg, Nat.le_refl, h0, f1, f2, hv, he, S64_next, hk, hloop, tr]
/-! strings.IndexAny -/
def Ex64 (ex : List (Nat × Cell)) : Env := { slots := [(1, ⟨false, .str [32, 41]⟩), (45, ⟨false, .ptr 0 0⟩)] ++ ex, locs := [], boxes := [], defers := [] }
def Ext64 (ex : List (Nat × Cell)) : Prop := ex = [] ∨ ∃ x, ex = [(9, ⟨false, .int .i64 x⟩), (53, ⟨false, .bool false⟩)]
theorem decode_wide (s : List UInt8) (i : Nat) : 1 ≤ (Utf8.decode ⟨⟨s⟩⟩ i).2 := by
  unfold Utf8.decode
  simp only
  repeat' split
  all_goals simp
section
variable {C : CallF} {n : Nat} {s : List UInt8} {p nx nx' : Nat} {ex : List (Nat × Cell)}
theorem l64_step (hx : Ext64 ex) (h : p < s.length) {i : Int} (hi : ¬ i ≥ 0) (hC : C 75 [.str [32, 41], .int .i32 ((Utf8.decode ⟨⟨s⟩⟩ p).1 : Int)] (S64 s (p + (Utf8.decode ⟨⟨s⟩⟩ p).2) nx) = some (.ret ⟨false, .int .i64 i⟩, S64 s (p + (Utf8.decode ⟨⟨s⟩⟩ p).2) nx')) :
    ∃ ex', Ext64 ex' ∧ exec C n a64_l1 (Ex64 ex) (S64 s p nx) = some (.normal, Ex64 ex', S64 s (p + (Utf8.decode ⟨⟨s⟩⟩ p).2) nx') := by
  refine ⟨_, .inr ⟨(p : Int), rfl⟩, ?_⟩
  simp only [S64] at hC
  rcases hx with rfl | ⟨x, rfl⟩
  · simp only [a64_l1, Ex64, S64, sy0, sy1, sy2, sy3, sy4, sy5, clearEnv, adel, mem, initEnv, initSlots, stepOp, wantedA, evalOp, callOf, panicOf, evalV, addr, opd, opds, aget, aset, adel1, lkill, readCells, nth, Env.put, Env.putV, Env.box, Env.bare, dropOwn, dropOwnS, binD, binBD, binBool, binInt, binStr, unD, AOpd.drop, Cell.of, AOp.kind, sameKind, assertD, eqlB, isUndef, takeC, unownAt, fits, layCells, putCells, putD, fillD, partsOf, optLo, optHi, allSize, Option.getD_some, Option.getD_none, runDefers, readRes, readRes1, readRess, Nat.reduceAdd, Nat.reduceSub, Nat.reduceMul, Nat.reduceBEq, Bool.false_and, Bool.true_and, Bool.and_true, Bool.and_false, Nat.zero_add, Nat.add_zero, beq_self_eq_true, Bool.true_beq, Bool.false_beq, Bool.not_true, Bool.not_false, decide_true, decide_false, bindO, List.map_cons, List.map_nil, List.length_cons, List.length_nil, List.append_nil, List.nil_append, List.cons_append, List.isEmpty_nil, List.isEmpty_cons, Nat.reduceLeDiff, Int.reduceBEq, Int.reduceNeg, Nat.le_refl, h, hC, hi]
  · simp only [a64_l1, Ex64, S64, sy0, sy1, sy2, sy3, sy4, sy5, clearEnv, adel, mem, initEnv, initSlots, stepOp, wantedA, evalOp, callOf, panicOf, evalV, addr, opd, opds, aget, aset, adel1, lkill, readCells, nth, Env.put, Env.putV, Env.box, Env.bare, dropOwn, dropOwnS, binD, binBD, binBool, binInt, binStr, unD, AOpd.drop, Cell.of, AOp.kind, sameKind, assertD, eqlB, isUndef, takeC, unownAt, fits, layCells, putCells, putD, fillD, partsOf, optLo, optHi, allSize, Option.getD_some, Option.getD_none, runDefers, readRes, readRes1, readRess, Nat.reduceAdd, Nat.reduceSub, Nat.reduceMul, Nat.reduceBEq, Bool.false_and, Bool.true_and, Bool.and_true, Bool.and_false, Nat.zero_add, Nat.add_zero, beq_self_eq_true, Bool.true_beq, Bool.false_beq, Bool.not_true, Bool.not_false, decide_true, decide_false, bindO, List.map_cons, List.map_nil, List.length_cons, List.length_nil, List.append_nil, List.nil_append, List.cons_append, List.isEmpty_nil, List.isEmpty_cons, Nat.reduceLeDiff, Int.reduceBEq, Int.reduceNeg, Nat.le_refl, h, hC, hi]
theorem l64_stop (hx : Ext64 ex) (h : p < s.length) {i : Int} (hi : i ≥ 0) (hC : C 75 [.str [32, 41], .int .i32 ((Utf8.decode ⟨⟨s⟩⟩ p).1 : Int)] (S64 s (p + (Utf8.decode ⟨⟨s⟩⟩ p).2) nx) = some (.ret ⟨false, .int .i64 i⟩, S64 s (p + (Utf8.decode ⟨⟨s⟩⟩ p).2) nx')) :
    exec C n a64_l1 (Ex64 ex) (S64 s p nx) = some (.ret, { slots := [(4, ⟨false, .int .i64 (p : Int)⟩)], locs := [], boxes := [], defers := [] }, S64 s (p + (Utf8.decode ⟨⟨s⟩⟩ p).2) nx') := by
  simp only [S64] at hC
  rcases hx with rfl | ⟨x, rfl⟩
  · simp only [a64_l1, Ex64, S64, sy0, sy1, sy2, sy3, sy4, sy5, clearEnv, adel, mem, initEnv, initSlots, stepOp, wantedA, evalOp, callOf, panicOf, evalV, addr, opd, opds, aget, aset, adel1, lkill, readCells, nth, Env.put, Env.putV, Env.box, Env.bare, dropOwn, dropOwnS, binD, binBD, binBool, binInt, binStr, unD, AOpd.drop, Cell.of, AOp.kind, sameKind, assertD, eqlB, isUndef, takeC, unownAt, fits, layCells, putCells, putD, fillD, partsOf, optLo, optHi, allSize, Option.getD_some, Option.getD_none, runDefers, readRes, readRes1, readRess, Nat.reduceAdd, Nat.reduceSub, Nat.reduceMul, Nat.reduceBEq, Bool.false_and, Bool.true_and, Bool.and_true, Bool.and_false, Nat.zero_add, Nat.add_zero, beq_self_eq_true, Bool.true_beq, Bool.false_beq, Bool.not_true, Bool.not_false, decide_true, decide_false, bindO, List.map_cons, List.map_nil, List.length_cons, List.length_nil, List.append_nil, List.nil_append, List.cons_append, List.isEmpty_nil, List.isEmpty_cons, Nat.reduceLeDiff, Int.reduceBEq, Int.reduceNeg, Nat.le_refl, h, hC, hi]
  · simp only [a64_l1, Ex64, S64, sy0, sy1, sy2, sy3, sy4, sy5, clearEnv, adel, mem, initEnv, initSlots, stepOp, wantedA, evalOp, callOf, panicOf, evalV, addr, opd, opds, aget, aset, adel1, lkill, readCells, nth, Env.put, Env.putV, Env.box, Env.bare, dropOwn, dropOwnS, binD, binBD, binBool, binInt, binStr, unD, AOpd.drop, Cell.of, AOp.kind, sameKind, assertD, eqlB, isUndef, takeC, unownAt, fits, layCells, putCells, putD, fillD, partsOf, optLo, optHi, allSize, Option.getD_some, Option.getD_none, runDefers, readRes, readRes1, readRess, Nat.reduceAdd, Nat.reduceSub, Nat.reduceMul, Nat.reduceBEq, Bool.false_and, Bool.true_and, Bool.and_true, Bool.and_false, Nat.zero_add, Nat.add_zero, beq_self_eq_true, Bool.true_beq, Bool.false_beq, Bool.not_true, Bool.not_false, decide_true, decide_false, bindO, List.map_cons, List.map_nil, List.length_cons, List.length_nil, List.append_nil, List.nil_append, List.cons_append, List.isEmpty_nil, List.isEmpty_cons, Nat.reduceLeDiff, Int.reduceBEq, Int.reduceNeg, Nat.le_refl, h, hC, hi]
theorem l64_end (hx : Ext64 ex) (h : ¬ p < s.length) : exec C n a64_l1 (Ex64 ex) (S64 s p nx) = some (.exit 2, { slots := [(1, ⟨false, .str [32, 41]⟩), (45, ⟨false, .ptr 0 0⟩), (46, ⟨false, .tup [.bool false]⟩), (47, ⟨false, .bool false⟩)], locs := [], boxes := [], defers := [] }, S64 s p nx) := by
  rcases hx with rfl | ⟨x, rfl⟩
  · simp only [a64_l1, Ex64, S64, sy0, sy1, sy2, sy3, sy4, sy5, clearEnv, adel, mem, initEnv, initSlots, stepOp, wantedA, evalOp, callOf, panicOf, evalV, addr, opd, opds, aget, aset, adel1, lkill, readCells, nth, Env.put, Env.putV, Env.box, Env.bare, dropOwn, dropOwnS, binD, binBD, binBool, binInt, binStr, unD, AOpd.drop, Cell.of, AOp.kind, sameKind, assertD, eqlB, isUndef, takeC, unownAt, fits, layCells, putCells, putD, fillD, partsOf, optLo, optHi, allSize, Option.getD_some, Option.getD_none, runDefers, readRes, readRes1, readRess, Nat.reduceAdd, Nat.reduceSub, Nat.reduceMul, Nat.reduceBEq, Bool.false_and, Bool.true_and, Bool.and_true, Bool.and_false, Nat.zero_add, Nat.add_zero, beq_self_eq_true, Bool.true_beq, Bool.false_beq, Bool.not_true, Bool.not_false, decide_true, decide_false, bindO, List.map_cons, List.map_nil, List.length_cons, List.length_nil, List.append_nil, List.nil_append, List.cons_append, List.isEmpty_nil, List.isEmpty_cons, Nat.reduceLeDiff, Int.reduceBEq, Int.reduceNeg, Nat.le_refl, h]
  · simp only [a64_l1, Ex64, S64, sy0, sy1, sy2, sy3, sy4, sy5, clearEnv, adel, mem, initEnv, initSlots, stepOp, wantedA, evalOp, callOf, panicOf, evalV, addr, opd, opds, aget, aset, adel1, lkill, readCells, nth, Env.put, Env.putV, Env.box, Env.bare, dropOwn, dropOwnS, binD, binBD, binBool, binInt, binStr, unD, AOpd.drop, Cell.of, AOp.kind, sameKind, assertD, eqlB, isUndef, takeC, unownAt, fits, layCells, putCells, putD, fillD, partsOf, optLo, optHi, allSize, Option.getD_some, Option.getD_none, runDefers, readRes, readRes1, readRess, Nat.reduceAdd, Nat.reduceSub, Nat.reduceMul, Nat.reduceBEq, Bool.false_and, Bool.true_and, Bool.and_true, Bool.and_false, Nat.zero_add, Nat.add_zero, beq_self_eq_true, Bool.true_beq, Bool.false_beq, Bool.not_true, Bool.not_false, decide_true, decide_false, bindO, List.map_cons, List.map_nil, List.length_cons, List.length_nil, List.append_nil, List.nil_append, List.cons_append, List.isEmpty_nil, List.isEmpty_cons, Nat.reduceLeDiff, Int.reduceBEq, Int.reduceNeg, Nat.le_refl, h]
end
/-- Where the loop ends. -/
def End64 (s : List UInt8) (r : AExit × Env × Store) : Prop := (∃ (p q nx : Nat), p < s.length ∧ r = (.ret, { slots := [(4, ⟨false, .int .i64 (p : Int)⟩)], locs := [], boxes := [], defers := [] }, S64 s q nx)) ∨
  ∃ q nx, r = (.exit 2, { slots := [(1, ⟨false, .str [32, 41]⟩), (45, ⟨false, .ptr 0 0⟩), (46, ⟨false, .tup [.bool false]⟩), (47, ⟨false, .bool false⟩)], locs := [], boxes := [], defers := [] }, S64 s q nx)
theorem any_run (s : List UInt8) (hs : s.length ≤ 8) : Evly fun n => ∃ (i : Int) (nx : Nat), -1 ≤ i ∧ i < (s.length : Int) ∧ TI n 64 [.str s, .str [32, 41]] σ0 = some (.ret ⟨false, .int .i64 i⟩, { objs := [], tys := [], iters := [], next := nx }) := by
  refine (rune_run.and manyB_run).step 10 fun m hm ⟨hrune, hmany⟩ => ?_
  obtain ⟨r, hr, hend⟩ := loopN_ex (body := exec (TI m) m a64_l1) (fun k e σ => ∃ ex p nx, 1 ≤ nx ∧ Ext64 ex ∧ k = s.length - p ∧ e = Ex64 ex ∧ σ = S64 s p nx) (End64 s) (fun k e σ ⟨ex, p, nx, h1, hx, hk, he, hσ⟩ => by
    subst he hσ
    by_cases hp : p < s.length
    · obtain ⟨i, nx', h2, hc⟩ := hrune (Utf8.decode ⟨⟨s⟩⟩ p).1 s (p + (Utf8.decode ⟨⟨s⟩⟩ p).2) nx h1
      by_cases hi : i ≥ 0
      · exact .inl ⟨_, l64_stop hx hp hi hc, (fun _ _ h => by cases h), .inl ⟨p, _, _, hp, rfl⟩⟩
      · obtain ⟨ex', hx', hb⟩ := l64_step (n := m) hx hp hi hc
        have hw := decode_wide s p
        exact .inr ⟨_, _, _, by omega, hb, ex', _, nx', by omega, hx', rfl, rfl, rfl⟩
    · exact .inl ⟨_, l64_end hx hp, (fun _ _ h => by cases h), .inr ⟨_, _, rfl⟩⟩) m s.length (Ex64 []) (S64 s 0 1) (by omega) ⟨[], 0, 1, Nat.le_refl _, .inl rfl, rfl, rfl, rfl⟩
  rw [TI_fun (af := a64) rfl rfl]
  have hm8 := hmany (s.length : Int) σ0
  have f8 : ¬ (8 < (s.length : Int)) := by omega
  simp only [f8, decide_false] at hm8
  simp only [Ex64, S64, List.append_nil] at hr
  have e1 : (([32, 41] : List UInt8) == []) = false := rfl
  have e2 : (((2 : Nat) : Int) == 1) = false := rfl
  rcases hend with ⟨p, q, nx, hp, rfl⟩ | ⟨q, nx, rfl⟩
  · refine ⟨p, nx, by omega, by omega, ?_⟩
    simp only [S64, σ0] at hr hm8
    simp only [a64, σ0, sy0, sy1, sy2, sy3, sy4, sy5, clearEnv, adel, mem, initEnv, initSlots, stepOp, wantedA, evalOp, callOf, panicOf, evalV, addr, opd, opds, aget, aset, adel1, lkill, readCells, nth, Env.put, Env.putV, Env.box, Env.bare, dropOwn, dropOwnS, binD, binBD, binBool, binInt, binStr, unD, AOpd.drop, Cell.of, AOp.kind, sameKind, assertD, eqlB, isUndef, takeC, unownAt, fits, layCells, putCells, putD, fillD, partsOf, optLo, optHi, allSize, Option.getD_some, Option.getD_none, runDefers, readRes, readRes1, readRess, Nat.reduceAdd, Nat.reduceSub, Nat.reduceMul, Nat.reduceBEq, Bool.false_and, Bool.true_and, Bool.and_true, Bool.and_false, Nat.zero_add, Nat.add_zero, beq_self_eq_true, Bool.true_beq, Bool.false_beq, Bool.not_true, Bool.not_false, decide_true, decide_false, bindO, List.map_cons, List.map_nil, List.length_cons, List.length_nil, List.append_nil, List.nil_append, List.cons_append, List.isEmpty_nil, List.isEmpty_cons, Nat.reduceLeDiff, Int.reduceBEq, Int.reduceNeg, Nat.le_refl, hm8, hr, e1, e2]
    rfl
  · refine ⟨-1, nx, by omega, by omega, ?_⟩
    simp only [S64, σ0] at hr hm8
    simp only [a64, σ0, sy0, sy1, sy2, sy3, sy4, sy5, clearEnv, adel, mem, initEnv, initSlots, stepOp, wantedA, evalOp, callOf, panicOf, evalV, addr, opd, opds, aget, aset, adel1, lkill, readCells, nth, Env.put, Env.putV, Env.box, Env.bare, dropOwn, dropOwnS, binD, binBD, binBool, binInt, binStr, unD, AOpd.drop, Cell.of, AOp.kind, sameKind, assertD, eqlB, isUndef, takeC, unownAt, fits, layCells, putCells, putD, fillD, partsOf, optLo, optHi, allSize, Option.getD_some, Option.getD_none, runDefers, readRes, readRes1, readRess, Nat.reduceAdd, Nat.reduceSub, Nat.reduceMul, Nat.reduceBEq, Bool.false_and, Bool.true_and, Bool.and_true, Bool.and_false, Nat.zero_add, Nat.add_zero, beq_self_eq_true, Bool.true_beq, Bool.false_beq, Bool.not_true, Bool.not_false, decide_true, decide_false, bindO, List.map_cons, List.map_nil, List.length_cons, List.length_nil, List.append_nil, List.nil_append, List.cons_append, List.isEmpty_nil, List.isEmpty_cons, Nat.reduceLeDiff, Int.reduceBEq, Int.reduceNeg, Nat.le_refl, hm8, hr, e1, e2]
    rfl
theorem any_ok (s : List UInt8) (hs : s.length ≤ 8) : ∃ i : Int, -1 ≤ i ∧ i < (s.length : Int) ∧ ∀ σ, CallOK Tryd.prog κ 64 [.str s, .str [32, 41]] σ (.ret ⟨false, .int .i64 i⟩) σ := by
  obtain ⟨n, hn⟩ := any_run s hs
  obtain ⟨i, nx, h1, h2, h3⟩ := hn n (Nat.le_refl _)
  exact ⟨i, h1, h2, fun σ => frame_rule (TI_sound n 64 _ σ0 _ _ h3) rfl rfl σ⟩
end Go.Proofs.YtdoppkjoemlhjaaDoor.Sh


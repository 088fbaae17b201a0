/-
  What the library's functions yield, as functions on the machine's data.
-/
import Derived.Test.YtdoppkjoemlhjaaDoorShCode
import Derived.Test.YtdoppkjoemlhjaaDoorMxRecover
import Derived.Test.YtdoppkjoemlhjaaDoorProg
import Derived.WalkKit
import Derived.Lib.Builder
import Derived.Laws.Externs
import Derived.Lib.MakeNoZero
import Derived.Laws.IdiomCopy
import Derived.Shelf.Strings.Builder1
import Derived.Test.YtdoppkjoemlhjaaDoorMxRow
import Derived.Test.YtdoppkjoemlhjaaDoorMxSy
set_option linter.unusedSimpArgs false
set_option linter.unusedVariables false
namespace Go.Proofs.YtdoppkjoemlhjaaDoor.Sh
open Go Go.Mx
/-- A number's digits, reckoned with fuel. -/
def digF : Nat → Nat → List UInt8 → List UInt8
  | 0, _, acc => acc
  | k + 1, n, acc => ifB (decide (n < 10)) (UInt8.ofNat (48 + n) :: acc) (digF k (n / 10) (UInt8.ofNat (48 + n % 10) :: acc))
def digN (n : Nat) : List UInt8 := digF 20 n []
def itoaN (n : Int) : List UInt8 := match n with
  | .ofNat m => digN m
  | .negSucc m => 45 :: digN (m + 1)
def inI64 (n : Int) : Bool := decide (-9223372036854775808 ≤ n) && decide (n ≤ 9223372036854775807)
def xItoa : List D → Option D
  | [.int .i64 n] => ifB (inI64 n) (some (.str (itoaN n))) none
  | _ => none
def mem8 : List UInt8 → UInt8 → Bool
  | [], _ => false
  | x :: l, b => ifB (x == b) true (mem8 l b)
def anyAt : List UInt8 → List UInt8 → Nat → Option Nat
  | [], _, _ => none
  | b :: l, c, i => ifB (mem8 c b) (some i) (anyAt l c (i + 1))
def ascii : List UInt8 → Bool
  | [] => true
  | b :: l => ifB (decide (b.toNat < 128)) (ascii l) false
def xIndexAny : List D → Option D
  | [.str s, .str c] => ifB (ascii s && ascii c && decide (s.length < 4294967281) && decide (c.length < 4294967281)) (some (match anyAt s c 0 with | some i => .int .i64 i | none => .int .i64 (-1))) none
  | _ => none
def xCopy (ds : List D) (σ : Store) : Option (Out × Store) := match ds with
  | [.ptr id 0] => bindO (aget σ.tys id) fun t => ifB (t == 49) (bindO (aget σ.objs id) fun cs => match cs with
    | [c0, c1] => (match c0.d with
      | .nilp => some (.ret ⟨false, .tup []⟩, { σ with objs := aset σ.objs id [⟨false, .ptr id 0⟩, c1] })
      | .ptr id' 0 => ifB (id' == id) (some (.ret ⟨false, .tup []⟩, σ)) none
      | _ => none)
    | _ => none) none
  | _ => none
def isByteRow (k : RowK) : Bool := k.el == 5 && k.sz == 1
def xString (ds : List D) (σ : Store) : Option (Out × Store) := match ds with
  | [.ptr id 0] => bindO (aget σ.tys id) fun t => ifB (t == 49) (bindO (aget σ.objs id) fun cs => match cs with
    | [c0, c1] => (match c1.d with
      | .list k es => ifB (c1.own && isByteRow k && !es.isEmpty) (bindO (bytesOf es) fun s => some (.ret ⟨false, .str s⟩, { σ with objs := aset σ.objs id [c0, ⟨false, c1.d⟩] })) none
      | _ => none)
    | _ => none) none
  | _ => none
def Xl : CallF := fun f ds σ => match f with
  | 31 => bindO (xItoa ds) fun d => some (.ret ⟨false, d⟩, σ)
  | 64 => bindO (xIndexAny ds) fun d => some (.ret ⟨false, d⟩, σ)
  | 43 => xCopy ds σ
  | 32 => xString ds σ
  | _ => none
/-- show.Read's recovering function. -/
def Rl : RecF := fun f ds m σ => match f with
  | 34 => recRun (fun _ _ _ => none) 3 r34 2 3 2 ds m σ
  | _ => none
def Γl : FuncId → Option AFun := fun f => match f with
  | 3 => some a3
  | 4 => some a4
  | 5 => some a5
  | 6 => some a6
  | 7 => some a7
  | 8 => some a8
  | 9 => some a9
  | 10 => some a10
  | 11 => some a11
  | 12 => some a12
  | 13 => some a13
  | 14 => some a14
  | 15 => some a15
  | 16 => some a16
  | 17 => some a17
  | 18 => some a18
  | 19 => some a19
  | 20 => some a20
  | 21 => some a21
  | 22 => some a22
  | 23 => some a23
  | 24 => some a24
  | 25 => some a25
  | 26 => some a26
  | 27 => some a27
  | 28 => some a28
  | 29 => some a29
  | 30 => some a30
  | 33 => some a33
  | 35 => some a35
  | 36 => some a36
  | 37 => some a37
  | 38 => some a38
  | 39 => some a39
  | 40 => some a40
  | 41 => some a41
  | 42 => some a42
  | 45 => some a45
  | 46 => some a46
  | 47 => some a47
  | 48 => some a48
  | 49 => some a49
  | 50 => some a50
  | 51 => some a51
  | 52 => some a52
  | 53 => some a53
  | 56 => some a56
  | 57 => some a57
  | 58 => some a58
  | 59 => some a59
  | 65 => some a65
  | 67 => some a67
  | 68 => some a68
  | 69 => some a69
  | 79 => some a79
  | 90 => some a90
  | 94 => some a94
  | 95 => some a95
  | _ => none
def lives0 : Option (Out × Store) := runQ Γl Rl Xl 200 false 14 [] { objs := [], tys := [], iters := [], next := 0 }
def okLives : Bool := match lives0 with
  | some (.ret c, _) => !c.own && (match c.d with | .bool b => b | _ => false)
  | _ => false

theorem lives_runs : okLives = true := by kernel_rfl
/-- The document's example is served from without. -/
def Γm : FuncId → Option AFun := fun f => ifB (f == 14) none (Γl f)
def Xm : CallF := fun f ds σ => match f with
  | 14 => ifB ds.isEmpty (some (.ret ⟨false, .bool true⟩, σ)) none
  | f => Xl f ds σ
end Go.Proofs.YtdoppkjoemlhjaaDoor.Sh

/-
  A builder's own check, walked: a fresh one lays its own place, a used one stays.
-/
namespace Go.Proofs.YtdoppkjoemlhjaaDoor.Sh
open Go Go.RowKit
set_option maxHeartbeats 1000000 in
set_option maxRecDepth 100000 in
theorem copy_used (b : Nat) (w : World) (h0 : w.cell? ⟨b, 0, none⟩ = some (.pointer (some ⟨b, 0, none⟩))) :
    Calls Tryd.prog 43 #[.pointer (some ⟨b, 0, none⟩)] w fun e w' => e = .returned (.tuple #[]) ∧ w' = w := by
  obtain ⟨j, hj, _⟩ := Option.map_eq_some_iff.1 (show (Tryd.prog.info? 49).map (·.size) = some 2 by kernel_rfl)
  go_enter Tryd.func43, Tryd.ntmps43
  go_wp2
  rw [Lib.run_neq_ptr_same w _ Tryd.underlying46 hj]
  go_wp2
  go_end0
  exact ⟨rfl, rfl⟩
set_option maxHeartbeats 1000000 in
set_option maxRecDepth 100000 in
theorem copy_fresh (b : Nat) (w : World) (h0 : w.cell? ⟨b, 0, none⟩ = some (.pointer none)) (hsh : w.shape? b = some (49, 2)) (hfz : w.frozen? ⟨b, 0, none⟩ = false) :
    Calls Tryd.prog 43 #[.pointer (some ⟨b, 0, none⟩)] w fun e w' => e = .returned (.tuple #[]) ∧ w' = w.setCell ⟨b, 0, none⟩ (.pointer (some ⟨b, 0, none⟩)) := by
  obtain ⟨j, hj, hjs⟩ := Option.map_eq_some_iff.1 (show (Tryd.prog.info? 49).map (·.size) = some 2 by kernel_rfl)
  go_enter Tryd.func43, Tryd.ntmps43
  go_wp2
  rw [Lib.run_to_unsafe w ⟨b, 0, none⟩ Tryd.underlying46 Tryd.underlying78 hj (by rw [hjs]; decide) hsh (Nat.zero_lt_succ 1)]
  simp only [Result.andThen]
  rw [Oper.upon_value]
  go_wp2
  rw [run_callFunc_extern Tryd.func54 (by kernel_rfl) (by kernel_rfl) (by kernel_rfl) (e := Extern.AbiNoEscape.same) (by kernel_rfl)]
  rw [Lib.run_noEscape]
  simp only [Result.andThen]
  rw [Oper.upon_value]
  go_wp2
  rw [Lib.run_from_unsafe w ⟨b, 0, none⟩ Tryd.underlying78 Tryd.underlying46 hj hsh (by kernel_rfl)]
  simp only [Result.andThen]
  rw [Oper.upon_value]
  go_wp2
  go_end0
  exact ⟨rfl, rfl⟩
end Go.Proofs.YtdoppkjoemlhjaaDoor.Sh

/-
  A builder's String, walked: the bytes that it holds; they are frozen in its buffer.
-/
namespace Go.Proofs.YtdoppkjoemlhjaaDoor.Sh
open Go Go.RowKit
set_option maxHeartbeats 2000000 in
set_option maxRecDepth 100000 in
theorem string_walk (b g cap : Nat) (p : Value) (cur : Array Value) (l : List UInt8) (w : World) (h0 : l ≠ []) (hbk : w.heap[b]? = some (.cells #[p, .slice (some ⟨g, 0, none⟩) l.length cap] 49 (0, 0))) (hg : w.heap[g]? = some (.cells cur 5 (0, 0)))
    (hnc : l.length ≤ cap) (hcm : cap ≤ maxLen) (hcs : cur.size = cap * 1) (hcells : ∀ (j : Nat) (x : UInt8), l[j]? = some x → w.cell? ⟨g, j, none⟩ = some (.int .u8 x.toNat)) :
    Calls Tryd.prog 32 #[.pointer (some ⟨b, 0, none⟩)] w fun e w' => e = .returned (.string ⟨l.toArray⟩) ∧ w' = w.drew.freeze ⟨g, 0, none⟩ l.length := by
  have hl0 : l.length ≠ 0 := by simpa using h0
  have c1 : w.drew.cell? ⟨b, 1, none⟩ = some (.slice (some ⟨g, 0, none⟩) l.length cap) := by
    have : w.drew.heap[b]? = some (.cells #[p, .slice (some ⟨g, 0, none⟩) l.length cap] 49 (0, 0)) := hbk
    rw [Lib.cell_of_heap this]; rfl
  have hSD : (Builtin.unsafeSliceData_ #[47] 69 #[.slice (some ⟨g, 0, none⟩) l.length cap]).run Tryd.prog w.drew = .ok (.pointer (some ⟨g, 0, none⟩)) w.drew :=
    Lib.run_unsafeSliceData_row _ _ _ _ _ _ (by omega)
  have hUS : (Builtin.unsafeString_ #[69, 3] 9 #[.pointer (some ⟨g, 0, none⟩), .int .i64 l.length]).run Tryd.prog w.drew = .ok (.string ⟨l.toArray⟩) (w.drew.freeze ⟨g, 0, none⟩ l.length) := by
    refine Lib.run_unsafeString_row w.drew 69 3 9 5 Tryd.underlying69 (by kernel_rfl) g cur.size (by have hg' : w.drew.heap[g]? = some (.cells cur 5 (0, 0)) := hg; simp [World.shape?, hg']) l h0 (by omega) (by unfold maxLen at hcm; omega) ?_
    intro j x hx
    have := hcells j x hx
    simpa [Addr.add_lit] using this
  clear hcells
  go_enter Tryd.func32, Tryd.ntmps32
  go_wp2
  go_region
  all_goals (go_wp2; go_ret; exact ⟨rfl, rfl⟩)
end Go.Proofs.YtdoppkjoemlhjaaDoor.Sh

/-
  The library's contracts, laid over this program, in the machine's words.
-/
namespace Go.Proofs.YtdoppkjoemlhjaaDoor.Sh
open Go Go.Mx
theorem gTab : Tryd.prog.globalNamed "internal/strconv.uint64pow10" = some 0 := by kernel_rfl
/-- What is known of the first blocks: the table of powers of ten; the two errors' variables hold something. -/
def κ : Ctx where
  n := 2 + 1
  K := fun w => Lib.TabIs Tryd.prog w "internal/strconv.uint64pow10" .u64 Lib.pow10Tab ∧ (∃ t p, w.cell? ⟨1, 0, none⟩ = some (.iface t p)) ∧ ∃ t p, w.cell? ⟨2, 0, none⟩ = some (.iface t p)
  stable := fun w w' h k => by
    obtain ⟨k, ⟨t1, p1, k1⟩, ⟨t2, p2, k2⟩⟩ := k
    refine ⟨?_, ⟨t1, p1, ?_⟩, ⟨t2, p2, ?_⟩⟩
    · unfold Lib.TabIs World.var? at k ⊢
      rw [gTab] at k ⊢
      simp only [Option.bind_some] at k ⊢
      rw [h 0 (by omega)]
      exact k
    · rw [World.cell?_of_block (w := w) (w' := w') (a := ⟨1, 0, none⟩) (h 1 (by omega))]
      exact k1
    · rw [World.cell?_of_block (w := w) (w' := w') (a := ⟨2, 0, none⟩) (h 2 (by omega))]
      exact k2
theorem digF_eq : ∀ (k n : Nat) (acc : List UInt8), n < 10 ^ k → digF k n acc = if k = 0 then acc else Lib.decDigits n ++ acc
  | 0, n, acc, _ => rfl
  | k + 1, n, acc, h => by
    rw [if_neg (by omega)]
    unfold digF
    by_cases h10 : n < 10
    · simp only [h10, decide_true, ifB_true]
      rw [Lib.decDigits, dif_pos h10]
      rfl
    · simp only [h10, decide_false, ifB_false]
      have hk : n / 10 < 10 ^ k := by
        rw [Nat.div_lt_iff_lt_mul (by omega)]
        rw [Nat.pow_succ] at h
        exact h
      have hk0 : k ≠ 0 := by
        intro e
        subst e
        simp at hk
        omega
      rw [digF_eq k (n / 10) _ hk, if_neg hk0, Lib.decDigits.eq_def n, dif_neg h10]
      simp
theorem digN_eq {n : Nat} (h : n < 10 ^ 20) : digN n = Lib.decDigits n := by
  unfold digN
  rw [digF_eq 20 n [] h]
  simp
theorem itoaN_eq {n : Int} (h : inI64 n = true) : itoaN n = Lib.itoa n := by
  simp only [inI64, Bool.and_eq_true, decide_eq_true_eq] at h
  cases n with
  | ofNat m =>
    have h2 : (m : Int) ≤ 9223372036854775807 := h.2
    simp only [itoaN, Lib.itoa]
    rw [if_neg (by simp), digN_eq (by omega)]
    rfl
  | negSucc m =>
    have h1 : -9223372036854775808 ≤ Int.negSucc m := h.1
    simp only [itoaN, Lib.itoa]
    rw [if_pos (Int.negSucc_lt_zero m), digN_eq (by omega)]
    rfl
theorem repL1 {ι : Imm} {j : Lay} {d : D} {vs : List Value} (h : RepL ι j [d] vs) : ∃ v, vs = [v] ∧ Rep ι j d v := by
  simp only [RepL] at h
  obtain ⟨x, r, rfl, h1, rfl⟩ := h
  exact ⟨x, rfl, h1⟩
theorem repL2 {ι : Imm} {j : Lay} {d d' : D} {vs : List Value} (h : RepL ι j [d, d'] vs) : ∃ v v', vs = [v, v'] ∧ Rep ι j d v ∧ Rep ι j d' v' := by
  simp only [RepL] at h
  obtain ⟨x, r, rfl, h1, y, r', rfl, h2, rfl⟩ := h
  exact ⟨x, y, rfl, h1, h2⟩
theorem xItoa_ok {ds : List D} {d : D} (h : xItoa ds = some d) (σ : Store) : CallOK Tryd.prog κ 31 ds σ (.ret ⟨false, d⟩) σ := by
  unfold xItoa at h
  split at h
  · rename_i n
    obtain ⟨h1, h⟩ := ifB_some h
    cases h
    refine pure_call ⟨_, _, Tryd.func31, by kernel_rfl, rfl⟩ (fun ι j own w vs hB hG hr => ?_)
    obtain ⟨v, rfl, hv⟩ := repL1 hr
    simp only [Rep] at hv
    subst hv
    have hb := h1
    simp only [inI64, Bool.and_eq_true, decide_eq_true_eq] at hb
    refine (Tryd.strconv_Itoa n hb.1 hb.2 w hB.K.1).mono ?_
    rintro e w' ⟨rfl, k, os, rfl⟩
    refine ⟨_, rfl, ?_, by simp only [Rep]; rw [itoaN_eq h1]⟩
    have hd : RowKit.Below w.heap.size w (w.drewN k) := ⟨rfl, rfl, rfl, Nat.le_refl _, fun _ _ => rfl⟩
    refine hd.trans ⟨rfl, rfl, rfl, by simp [Sort.grow], fun i hi => ?_⟩
    show (w.heap ++ os)[i]? = w.heap[i]?
    rw [Array.getElem?_append_left hi]
  · cases h
theorem mem8_eq (b : UInt8) : ∀ (l : List UInt8), mem8 l b = l.contains b
  | [] => rfl
  | x :: l => by
    simp only [mem8, List.contains_cons, mem8_eq b l]
    by_cases h : x = b
    · subst h; simp [ifB]
    · have h1 : (x == b) = false := by simpa using h
      have h2 : (b == x) = false := by simpa using (fun e => h (Eq.symm e))
      rw [h1, h2, ifB_false, Bool.false_or]
theorem anyAt_eq (c : List UInt8) : ∀ (l : List UInt8) (i : Nat), anyAt l c i = if Lib.indexAny l c = -1 then none else some (i + (Lib.indexAny l c).toNat)
  | [], i => by simp [anyAt, Lib.indexAny]
  | b :: l, i => by
    simp only [anyAt, Lib.indexAny, mem8_eq]
    by_cases hb : c.contains b = true
    · simp only [hb, if_true]
      simp [ifB]
    · have hb' : c.contains b = false := by simpa using hb
      simp only [hb', ifB_false, Bool.false_eq_true, if_false]
      rw [anyAt_eq c l (i + 1)]
      have hge := Lib.indexAny_ge c l
      by_cases h : Lib.indexAny l c = -1
      · simp [h]
      · have h1 : (Lib.indexAny l c == -1) = false := by simpa using h
        rw [if_neg h, h1]
        simp only [Bool.false_eq_true, if_false]
        rw [if_neg (by omega)]
        congr 1
        omega
theorem ascii_at : ∀ {l : List UInt8}, ascii l = true → ∀ (j : Nat) (b : UInt8), l[j]? = some b → b.toNat < 128
  | [], _, j, b, hb => by simp at hb
  | x :: l, h, j, b, hb => by
    simp only [ascii] at h
    cases hx : decide (x.toNat < 128) with
    | false => rw [hx] at h; cases h
    | true =>
      rw [hx, ifB_true] at h
      cases j with
      | zero =>
        simp at hb
        subst hb
        exact of_decide_eq_true hx
      | succ j => exact ascii_at h j b (by simpa using hb)
theorem xIndexAny_ok {ds : List D} {d : D} (h : xIndexAny ds = some d) (σ : Store) : CallOK Tryd.prog κ 64 ds σ (.ret ⟨false, d⟩) σ := by
  unfold xIndexAny at h
  split at h
  · rename_i s c
    obtain ⟨h1, h⟩ := ifB_some h
    simp only [Bool.and_eq_true, decide_eq_true_eq] at h1
    obtain ⟨⟨⟨h1, h2⟩, h3⟩, h4⟩ := h1
    cases h
    refine pure_call ⟨_, _, Tryd.func64, by kernel_rfl, rfl⟩ (fun ι j own w vs hB hG hr => ?_)
    obtain ⟨v, v', rfl, hv, hv'⟩ := repL2 hr
    simp only [Rep] at hv hv'
    subst hv
    subst hv'
    refine (Tryd.strings_IndexAny_laid ⟨⟨s⟩⟩ ⟨⟨c⟩⟩ w h3 h4 (ascii_at h1) (ascii_at h2)).mono ?_
    rintro e w' ⟨rfl, hb⟩
    refine ⟨_, rfl, hb, ?_⟩
    have hge := Lib.indexAny_ge c s
    rw [anyAt_eq c s 0]
    by_cases hn : Lib.indexAny s c = -1
    · simp [hn, Rep]
    · rw [if_neg hn]
      simp only [Rep]
      congr 1
      omega
  · cases h
theorem setCell_heap {w : World} {b : Nat} {vs : List Value} {T : TypeId} (h : w.heap[b]? = some (.cells ⟨vs⟩ T (0, 0))) (v : Value) : (w.setCell ⟨b, 0, none⟩ v).heap[b]? = some (.cells ⟨vs.set 0 v⟩ T (0, 0)) := by
  have hlt := (Array.getElem?_eq_some_iff.1 h).1
  have hv := (Array.getElem?_eq_some_iff.1 h).2
  simp only [World.setCell, Array.getElem?_modify, if_true, h, Option.map_some]
  simp
theorem xCopy_ok {ds : List D} {σ σ' : Store} {out : Out} (h : xCopy ds σ = some (out, σ')) : CallOK Tryd.prog κ 43 ds σ out σ' := by
  refine ⟨⟨_, _, Tryd.func43, by kernel_rfl, rfl⟩, fun ι j own w vs hS hB hG hr => ?_⟩
  unfold xCopy at h
  split at h
  · rename_i id
    obtain ⟨t, h1, ha⟩ := bindO_some h
    obtain ⟨h2, hb⟩ := ifB_some ha
    obtain ⟨cs, h3, hc⟩ := bindO_some hb
    clear h ha hb
    have ht : t = 49 := by simpa using h2
    subst ht
    obtain ⟨v, rfl, hv⟩ := repL1 hr
    simp only [Rep] at hv
    obtain ⟨b, hjb, rfl⟩ := hv
    obtain ⟨b', hjb', hown, row, T, hheap, hlen, hcell⟩ := hG.objs id cs h3
    rw [hjb] at hjb'
    cases hjb'
    obtain ⟨row', hrow'⟩ := hG.tys id 49 cs h1 h3 b hjb
    rw [hheap] at hrow'
    cases hrow'
    split at hc
    · rename_i c0 c1
      obtain ⟨v0, hv0, _, hr0, _⟩ := hcell 0 c0 rfl
      have hc0 : w.cell? ⟨b, 0, none⟩ = some v0 := by
        rw [cell_of_row w b 0 _ _ _ hheap]
        simpa using hv0
      split at hc
      · rename_i hd
        cases hc
        rw [hd] at hr0
        simp only [Rep] at hr0
        subst hr0
        have hl : row.length = 2 := by simpa using hlen
        have hsh : w.shape? b = some (49, 2) := by simp [World.shape?, hheap, hl]
        have hfz : w.frozen? ⟨b, 0, none⟩ = false := Lib.frozen_of_heap hheap 0
        refine (copy_fresh b w hc0 hsh hfz).mono ?_
        rintro e w' ⟨rfl, rfl⟩
        have hnew := setCell_heap hheap (.pointer (some ⟨b, 0, none⟩))
        have hrest : ∀ k, k ≠ b → (w.setCell ⟨b, 0, none⟩ (.pointer (some ⟨b, 0, none⟩))).heap[k]? = w.heap[k]? := fun k hk => RowKit.Below.heap_setCell w ⟨b, 0, none⟩ _ k hk
        have hcl : ∀ (i : Nat) (c : Cell), [(⟨false, .ptr id 0⟩ : Cell), c1][i]? = some c → ∃ v, (row.set 0 (.pointer (some ⟨b, 0, none⟩)))[i]? = some v ∧ v.oneCell' = true ∧ CellRel ι j own (w.setCell ⟨b, 0, none⟩ (.pointer (some ⟨b, 0, none⟩))) (.ocell id i) c v := by
          intro i c hi
          match i with
          | 0 =>
            simp only [List.getElem?_cons_zero, Option.some.injEq] at hi
            subst hi
            refine ⟨_, List.getElem?_set_self (by omega), rfl, ?_, fun h => by cases h⟩
            simp only [Rep]
            exact ⟨b, hjb, rfl⟩
          | 1 =>
            obtain ⟨v1, q1, q2, q3, q4⟩ := hcell 1 c1 rfl
            simp only [List.getElem?_cons_succ, List.getElem?_cons_zero, Option.some.injEq] at hi
            subst hi
            exact ⟨v1, by rw [List.getElem?_set_ne (by omega)]; exact q1, q2, q3, fun ho => owned_other (B := b) (by rw [hown]; intro h; cases h) hrest (q4 ho)⟩
          | n + 2 => simp at hi
        obtain ⟨g1, g2⟩ := hG.setObj (w' := w.setCell ⟨b, 0, none⟩ (.pointer (some ⟨b, 0, none⟩))) h3 hjb hown rfl rfl rfl (by simp [World.setCell]) hrest hheap hnew (by simp [hl]) hcl
        exact ⟨ι, j, own, g1, g2.weaken (fun _ _ => trivial), hS, by simp [Rep, RepL], fun h => by cases h⟩
      · rename_i id' hd
        obtain ⟨h4, hc⟩ := ifB_some hc
        cases hc
        have hid : id' = id := by simpa using h4
        subst hid
        rw [hd] at hr0
        simp only [Rep] at hr0
        obtain ⟨b2, hjb2, rfl⟩ := hr0
        rw [hjb] at hjb2
        cases hjb2
        refine (copy_used b w hc0).mono ?_
        rintro e w' ⟨rfl, rfl⟩
        exact ⟨ι, j, own, hG, Evo.refl _ _ _ _ _, hS, by simp [Rep, RepL], fun h => by cases h⟩
      · cases hc
    · cases hc
  · cases h
theorem freeze_heap {w : World} {g n : Nat} {cur : Array Value} {T : TypeId} (h : w.heap[g]? = some (.cells cur T (0, 0))) : ∃ fr, (w.freeze ⟨g, 0, none⟩ n).heap[g]? = some (.cells cur T fr) := by
  unfold World.freeze
  split
  · exact ⟨_, h⟩
  · simp only [Array.getElem?_modify, if_true, h, Option.map_some]
    exact ⟨_, rfl⟩
theorem freeze_other {w : World} {g n b : Nat} (hb : b ≠ g) : (w.freeze ⟨g, 0, none⟩ n).heap[b]? = w.heap[b]? := by
  unfold World.freeze
  split
  · rfl
  · simp only [Array.getElem?_modify]
    rw [if_neg (fun e => hb e.symm)]
theorem freeze_frame {w : World} {g n : Nat} : (w.freeze ⟨g, 0, none⟩ n).os = w.os ∧ (w.freeze ⟨g, 0, none⟩ n).tape = w.tape ∧ (w.freeze ⟨g, 0, none⟩ n).output = w.output ∧ (w.freeze ⟨g, 0, none⟩ n).heap.size = w.heap.size := by
  unfold World.freeze
  split
  · exact ⟨rfl, rfl, rfl, rfl⟩
  · exact ⟨rfl, rfl, rfl, by simp⟩
/-- A buffer that is frozen is nobody's behind it. -/
theorem frozen_sim {ι : Imm} {j : Lay} {own : Own} {σ : Store} {w w' : World} {g id : Nat} {c0 c1 : Cell} {cur : Array Value} {T : TypeId} {fr : Nat × Nat} (hG : GSim ι j own σ w) (hg : w.heap[g]? = some (.cells cur T (0, 0))) (hown : own g = some (.ocell id 1))
    (hcs : aget σ.objs id = some [c0, c1]) (h1 : w'.heap[g]? = some (.cells cur T fr)) (hoth : ∀ b, b ≠ g → w'.heap[b]? = w.heap[b]?) (hos : w'.os = w.os) (ht : w'.tape = w.tape) (hout : w'.output = w.output) (hsz : w'.heap.size = w.heap.size) :
    ∃ own', GSim ι j own' { σ with objs := aset σ.objs id [c0, ⟨false, c1.d⟩] } w' ∧ Evo ι j own w ι j own' w' (fun _ => True) ∧ (Shared own → Shared own') := by
  classical
  let own' : Own := fun b => if b = g then none else own b
  have hsub : ∀ b t, own' b = some t → own b = some t ∧ b ≠ g := by
    intro b t h
    by_cases hb : b = g
    · simp only [own', if_pos hb] at h; cases h
    · simp only [own', if_neg hb] at h; exact ⟨h, hb⟩
  have hkeep : ∀ b t, own b = some t → t ≠ .ocell id 1 → own' b = some t ∧ b ≠ g := by
    intro b t h hne
    have hb : b ≠ g := fun e => by subst e; rw [hown] at h; cases h; exact hne rfl
    exact ⟨by simp only [own', if_neg hb]; exact h, hb⟩
  have hown' : ∀ {t : Tag} {d : D} {v : Value}, t ≠ .ocell id 1 → Owned ι own w t d v → Owned ι own' w' t d v := by
    intro t d v hne k
    unfold Owned at k ⊢
    cases hp : prin d v with
    | none => trivial
    | some p =>
      rw [hp] at k
      rcases k with k | ⟨b, cap, cur', T', k1, k2, k3, k4⟩
      · exact .inl k
      · obtain ⟨q1, q2⟩ := hkeep b t k2 hne
        exact .inr ⟨b, cap, cur', T', k1, q1, (hoth b q2).trans k3, k4⟩
  refine ⟨own', ⟨fun b o v h => ?_, fun b t h hu => hG.noimm b t (hsub b t h).1 hu, fun id' cs h => ?_, fun id' t cs k1 k2 b hb => ?_, fun id' s pos h => ?_, hG.jlt, fun b t h => by rw [hsz]; exact hG.ownlt b t (hsub b t h).1⟩,
    ⟨hos, ht, hout, Nat.le_of_eq hsz.symm, fun _ _ _ h => h, fun _ _ h => h, fun b hb hn => ?_⟩, fun hS b t h => hS b t (hsub b t h).1⟩
  · by_cases hb : b = g
    · subst hb
      have := hG.holds b o v h
      rw [cell_of_row w b o cur T (0, 0) hg] at this
      rw [cell_of_row w' b o cur T fr h1]
      exact this
    · rw [World.cell?_of_block (w := w) (w' := w') (a := ⟨b, o, none⟩) (hoth b hb)]
      exact hG.holds b o v h
  · have hex : ∃ cs0, aget σ.objs id' = some cs0 ∧ cs0.length = cs.length ∧ ∀ (i : Nat) (c : Cell), cs[i]? = some c → ∃ c0, cs0[i]? = some c0 ∧ c0.d = c.d ∧ (c.own = true → c0.own = true ∧ Tag.ocell id' i ≠ .ocell id 1) := by
      simp only [aget_aset] at h
      by_cases hid : id = id'
      · subst hid
        rw [if_pos rfl] at h
        cases h
        refine ⟨_, hcs, rfl, fun i c hi => ?_⟩
        match i with
        | 0 =>
          simp only [List.getElem?_cons_zero, Option.some.injEq] at hi
          subst hi
          exact ⟨c0, rfl, rfl, fun ho => ⟨ho, by simp⟩⟩
        | 1 =>
          simp only [List.getElem?_cons_succ, List.getElem?_cons_zero, Option.some.injEq] at hi
          subst hi
          exact ⟨c1, rfl, rfl, fun ho => by cases ho⟩
        | n + 2 => simp at hi
      · rw [if_neg hid] at h
        exact ⟨cs, h, rfl, fun i c hi => ⟨c, hi, rfl, fun ho => ⟨ho, fun e => by cases e; exact hid rfl⟩⟩⟩
    obtain ⟨cs0, e1, e2, e3⟩ := hex
    obtain ⟨b, q1, q2, vs, T', r1, r2, r3⟩ := hG.objs id' cs0 e1
    obtain ⟨k1, k2⟩ := hkeep b _ q2 (by simp)
    refine ⟨b, q1, k1, vs, T', (hoth b k2).trans r1, r2.trans e2, fun i c hi => ?_⟩
    obtain ⟨c0', f1, f2, f3⟩ := e3 i c hi
    obtain ⟨v, s1, s2, s3, s4⟩ := r3 i c0' f1
    exact ⟨v, s1, s2, f2 ▸ s3, fun ho => f2 ▸ hown' (f3 ho).2 (s4 (f3 ho).1)⟩
  · have hex : ∃ cs0, aget σ.objs id' = some cs0 := by
      simp only [aget_aset] at k2
      split at k2
      · rename_i hh; subst hh; exact ⟨_, hcs⟩
      · exact ⟨cs, k2⟩
    obtain ⟨cs0, e1⟩ := hex
    obtain ⟨row, hrow⟩ := hG.tys id' t cs0 k1 e1 b hb
    obtain ⟨B2, q1, q2, _⟩ := hG.objs id' cs0 e1
    rw [hb] at q1
    cases q1
    exact ⟨row, (hoth b (hkeep b _ q2 (by simp)).2).trans hrow⟩
  · obtain ⟨b, q1, q2, q3⟩ := hG.iters id' s pos h
    obtain ⟨k1, k2⟩ := hkeep b _ q2 (by simp)
    exact ⟨b, q1, k1, (hoth b k2).trans q3⟩
  · have hbg : b ≠ g := fun e => by subst e; exact hn _ hown trivial
    exact ⟨hoth b hbg, by simp only [own', if_neg hbg], fun _ => rfl⟩
theorem xString_ok {ds : List D} {σ σ' : Store} {out : Out} (h : xString ds σ = some (out, σ')) : CallOK Tryd.prog κ 32 ds σ out σ' := by
  refine ⟨⟨_, _, Tryd.func32, by kernel_rfl, rfl⟩, fun ι j own w vs hS hB hG hr => ?_⟩
  unfold xString at h
  split at h
  · rename_i id
    obtain ⟨t, h1, ha⟩ := bindO_some h
    obtain ⟨h2, hb⟩ := ifB_some ha
    obtain ⟨cs, h3, hc⟩ := bindO_some hb
    clear h ha hb
    have ht : t = 49 := by simpa using h2
    subst ht
    obtain ⟨v, rfl, hv⟩ := repL1 hr
    simp only [Rep] at hv
    obtain ⟨b, hjb, rfl⟩ := hv
    obtain ⟨b', hjb', hown, row, T, hheap, hlen, hcell⟩ := hG.objs id cs h3
    rw [hjb] at hjb'
    cases hjb'
    obtain ⟨row', hrow'⟩ := hG.tys id 49 cs h1 h3 b hjb
    rw [hheap] at hrow'
    cases hrow'
    split at hc
    · rename_i c0 c1
      split at hc
      · rename_i k es hd
        obtain ⟨h4, hc⟩ := ifB_some hc
        obtain ⟨s, h5, hc⟩ := bindO_some hc
        cases hc
        simp only [Bool.and_eq_true, Bool.not_eq_true', List.isEmpty_eq_false_iff] at h4
        obtain ⟨⟨ho, hk⟩, hne⟩ := h4
        have hk5 : k = ⟨5, 1⟩ := by
          cases k
          simpa [isByteRow] using hk
        subst hk5
        obtain ⟨b1, b2⟩ := bytesOf_rel h5
        obtain ⟨v0, q0, _⟩ := hcell 0 c0 rfl
        obtain ⟨v1, q1, _, q3, q4⟩ := hcell 1 c1 rfl
        have hO := q4 ho
        rw [hd] at hO q3
        simp only [Rep] at q3
        obtain ⟨ad, cap, hv1, hle, hmax, hrow⟩ := q3
        obtain ⟨g0, o0, hg0, hrr⟩ := hrow.resolve_left hne
        simp only [Owned] at hO
        have hnn : v1 ≠ .slice none 0 0 := by
          rw [hv1, hg0]
          simp
        obtain ⟨g, cap', cur, T', e1, e2, e3, ⟨e4, e5⟩, e6⟩ := hO.resolve_left hnn
        rw [hv1, hg0] at e1
        simp only [Value.slice.injEq, Option.some.injEq, Addr.mk.injEq, and_true, true_and] at e1
        obtain ⟨⟨rfl, rfl⟩, rfl⟩ := e1
        subst e4
        have hrow2 : row = [v0, v1] := by
          have hl : row.length = 2 := by simpa using hlen
          match row, hl with
          | [x, y], _ =>
            simp at q0 q1
            rw [q0, q1]
        have hs0 : s ≠ [] := by
          intro e
          subst e
          exact hne (List.eq_nil_of_length_eq_zero b1.symm)
        have hbk : w.heap[b]? = some (.cells #[v0, .slice (some ⟨g0, 0, none⟩) s.length cap] 49 (0, 0)) := by
          rw [hheap, hrow2, hv1, hg0, b1]
        refine (string_walk b g0 cap v0 cur s w hs0 hbk e3 (by omega) hmax e5 (fun jx x hx => ?_)).mono ?_
        · obtain ⟨u, r1, _, r3⟩ := hrr.at jx _ (b2 jx x hx)
          simp only [Rep] at r3
          subst r3
          have := hG.holds _ _ _ (r1 0 (.int .u8 x.toNat) rfl)
          simpa using this
        · rintro e w' ⟨rfl, rfl⟩
          obtain ⟨fr, hfr⟩ := freeze_heap (w := w.drew) (g := g0) (n := s.length) (show w.drew.heap[g0]? = some (.cells cur 5 (0, 0)) from e3)
          obtain ⟨f1, f2, f3, f4⟩ := freeze_frame (w := w.drew) (g := g0) (n := s.length)
          obtain ⟨own', g1, g2, g3⟩ := frozen_sim hG e3 e2 h3 hfr (fun b hb => freeze_other (w := w.drew) hb) f1 f2 f3 f4
          rw [hd] at g1
          refine ⟨ι, j, own', ?_, g2, g3 hS, by simp only [Rep], fun h => by cases h⟩
          rw [hd]
          exact g1
      · cases hc
    · cases hc
  · cases h
theorem Xl_sound : CSound Tryd.prog κ Xl := by
  intro f ds σ out σ' h
  unfold Xl at h
  split at h
  · obtain ⟨d, h1, h⟩ := bindO_some h
    cases h
    exact xItoa_ok h1 σ
  · obtain ⟨d, h1, h⟩ := bindO_some h
    cases h
    exact xIndexAny_ok h1 σ
  · exact xCopy_ok h
  · exact xString_ok h
  · cases h
end Go.Proofs.YtdoppkjoemlhjaaDoor.Sh

/-
  The program's functions run by the machine: what the machine answers is what they answer.
-/
namespace Go.Proofs.YtdoppkjoemlhjaaDoor.Sh
open Go Go.Mx
theorem Γl_holds : Holds Tryd.prog Γl := by
  intro f af h
  unfold Γl at h
  split at h
  · cases h; exact ⟨_, Tryd.func3, ok3⟩
  · cases h; exact ⟨_, Tryd.func4, ok4⟩
  · cases h; exact ⟨_, Tryd.func5, ok5⟩
  · cases h; exact ⟨_, Tryd.func6, ok6⟩
  · cases h; exact ⟨_, Tryd.func7, ok7⟩
  · cases h; exact ⟨_, Tryd.func8, ok8⟩
  · cases h; exact ⟨_, Tryd.func9, ok9⟩
  · cases h; exact ⟨_, Tryd.func10, ok10⟩
  · cases h; exact ⟨_, Tryd.func11, ok11⟩
  · cases h; exact ⟨_, Tryd.func12, ok12⟩
  · cases h; exact ⟨_, Tryd.func13, ok13⟩
  · cases h; exact ⟨_, Tryd.func14, ok14⟩
  · cases h; exact ⟨_, Tryd.func15, ok15⟩
  · cases h; exact ⟨_, Tryd.func16, ok16⟩
  · cases h; exact ⟨_, Tryd.func17, ok17⟩
  · cases h; exact ⟨_, Tryd.func18, ok18⟩
  · cases h; exact ⟨_, Tryd.func19, ok19⟩
  · cases h; exact ⟨_, Tryd.func20, ok20⟩
  · cases h; exact ⟨_, Tryd.func21, ok21⟩
  · cases h; exact ⟨_, Tryd.func22, ok22⟩
  · cases h; exact ⟨_, Tryd.func23, ok23⟩
  · cases h; exact ⟨_, Tryd.func24, ok24⟩
  · cases h; exact ⟨_, Tryd.func25, ok25⟩
  · cases h; exact ⟨_, Tryd.func26, ok26⟩
  · cases h; exact ⟨_, Tryd.func27, ok27⟩
  · cases h; exact ⟨_, Tryd.func28, ok28⟩
  · cases h; exact ⟨_, Tryd.func29, ok29⟩
  · cases h; exact ⟨_, Tryd.func30, ok30⟩
  · cases h; exact ⟨_, Tryd.func33, ok33⟩
  · cases h; exact ⟨_, Tryd.func35, ok35⟩
  · cases h; exact ⟨_, Tryd.func36, ok36⟩
  · cases h; exact ⟨_, Tryd.func37, ok37⟩
  · cases h; exact ⟨_, Tryd.func38, ok38⟩
  · cases h; exact ⟨_, Tryd.func39, ok39⟩
  · cases h; exact ⟨_, Tryd.func40, ok40⟩
  · cases h; exact ⟨_, Tryd.func41, ok41⟩
  · cases h; exact ⟨_, Tryd.func42, ok42⟩
  · cases h; exact ⟨_, Tryd.func45, ok45⟩
  · cases h; exact ⟨_, Tryd.func46, ok46⟩
  · cases h; exact ⟨_, Tryd.func47, ok47⟩
  · cases h; exact ⟨_, Tryd.func48, ok48⟩
  · cases h; exact ⟨_, Tryd.func49, ok49⟩
  · cases h; exact ⟨_, Tryd.func50, ok50⟩
  · cases h; exact ⟨_, Tryd.func51, ok51⟩
  · cases h; exact ⟨_, Tryd.func52, ok52⟩
  · cases h; exact ⟨_, Tryd.func53, ok53⟩
  · cases h; exact ⟨_, Tryd.func56, ok56⟩
  · cases h; exact ⟨_, Tryd.func57, ok57⟩
  · cases h; exact ⟨_, Tryd.func58, ok58⟩
  · cases h; exact ⟨_, Tryd.func59, ok59⟩
  · cases h; exact ⟨_, Tryd.func65, ok65⟩
  · cases h; exact ⟨_, Tryd.func67, ok67⟩
  · cases h; exact ⟨_, Tryd.func68, ok68⟩
  · cases h; exact ⟨_, Tryd.func69, ok69⟩
  · cases h; exact ⟨_, Tryd.func79, ok79⟩
  · cases h; exact ⟨_, Tryd.func90, ok90⟩
  · cases h; exact ⟨_, Tryd.func94, ok94⟩
  · cases h; exact ⟨_, Tryd.func95, ok95⟩
  · cases h
theorem none_sound {κ' : Ctx} : CSound Tryd.prog κ' (fun _ _ _ => none) := fun _ _ _ _ _ h => by cases h
theorem r34_ok : ∃ rest, Tryd.f34.body = some (.seq (.region 0 #[⟨some 3, .call { callee := .builtin .recover, args := #[], argTypes := #[] }, 20, "show.go:140", #[], none⟩, ⟨some 2, .assign (.tmp 3), 20, "show.go:140", #[⟨0, .data⟩, ⟨0, .chain⟩, ⟨0, .phase⟩], none⟩] false) rest) ∧ okCode Tryd.prog Tryd.f34.ntmps rest r34 = true := ⟨_, rfl, by kernel_rfl⟩
theorem Rl_sound : RSound Tryd.prog κ Rl := by
  intro f ds m σ m' σ' h
  unfold Rl at h
  split at h
  · obtain ⟨rest, h1, h2⟩ := r34_ok
    exact rec_sound none_sound Tryd.func34 rfl h1 rfl rfl rfl rfl rfl rfl (by decide) (by decide) rfl (by decide) h2 h
  · cases h
theorem T0_sound (n : Nat) : CSound Tryd.prog κ (runQ Γl Rl Xl n false) := (run_sound Γl_holds Rl_sound Xl_sound n).1
theorem lives_ok (σ : Store) : CallOK Tryd.prog κ 14 [] σ (.ret ⟨false, .bool true⟩) σ := by
  have h := lives_runs
  unfold okLives lives0 at h
  cases hx : runQ Γl Rl Xl 200 false 14 [] { objs := [], tys := [], iters := [], next := 0 } with
  | none => rw [hx] at h; cases h
  | some r =>
    obtain ⟨o, s⟩ := r
    cases o with
    | panic d => rw [hx] at h; cases h
    | ret c =>
      rw [hx] at h
      obtain ⟨own, d⟩ := c
      cases own with
      | true => simp at h
      | false =>
        cases d with
        | bool b =>
          simp at h
          subst h
          exact frame_rule (T0_sound 200 14 [] σ0 _ _ hx) rfl rfl σ
        | _ => simp at h
end Go.Proofs.YtdoppkjoemlhjaaDoor.Sh

/-
  A value of the program (api.Value) as plain data, and what the machine asks of it.
-/
namespace Go.Proofs.YtdoppkjoemlhjaaDoor.Sh
open Go Go.Mx
inductive V where
  | mk (form n : Int) (name : List UInt8) (kids : List V)
namespace V
def form : V → Int | mk f _ _ _ => f
def n : V → Int | mk _ n _ _ => n
def name : V → List UInt8 | mk _ _ s _ => s
def kids : V → List V | mk _ _ _ k => k
end V
abbrev kV : RowK := ⟨25, 4⟩
mutual
def dV : V → D | .mk f n s ks => .agg [.int .i64 f, .int .i64 n, .str s, dlist kV (dVs ks)]
def dVs : List V → List D | [] => [] | v :: r => dV v :: dVs r
end
theorem dVs_eq : ∀ l : List V, dVs l = l.map dV
  | [] => rfl
  | v :: l => by simp [dVs, dVs_eq l]
theorem dV_eq (v : V) : dV v = .agg [.int .i64 v.form, .int .i64 v.n, .str v.name, dlist kV (v.kids.map dV)] := by
  cases v
  simp [dV, V.form, V.n, V.name, V.kids, dVs_eq]
theorem wrap64 {n : Int} (h1 : -9223372036854775808 ≤ n) (h2 : n ≤ 9223372036854775807) : IntKind.i64.wrap n = n := by
  simp [IntKind.wrap, IntKind.bits, IntKind.signed]
  omega
theorem wrap64_succ {i : Nat} (h : i < 1099511627776) : IntKind.i64.wrap ((i : Int) + 1) = ((i + 1 : Nat) : Int) := by
  rw [wrap64 (by omega) (by omega)]
  rfl
theorem kid_nth (l : List V) (i : Nat) (h : i < l.length) : nth (l.map dV) i = some (dV l[i]) := by
  rw [nth_map, nth_get _ _ h]
  rfl
theorem kid_row (l : List V) (i : Nat) (h : i < l.length) : (dlist kV (l.map dV)).row? = some (kV, l.map dV) := row?_dlist (by
  intro e
  have := congrArg List.length e
  simp at this
  rw [this] at h
  simp at h)
theorem kid_nthx (l : List V) (i : Nat) (h : i < l.length) : nth (l.map dV) i = some (.agg [.int .i64 l[i].form, .int .i64 l[i].n, .str l[i].name, dlist kV (l[i].kids.map dV)]) := by
  rw [kid_nth l i h, dV_eq]
theorem agg?_dV (v : V) : (dV v).agg? = some (dV v).cells := by rw [dV_eq]; rfl
theorem cells_dV (v : V) : (dV v).cells.length = 4 := by rw [dV_eq]; rfl
theorem ok_dV (v : V) : (dV v).ok = true := by rw [dV_eq]; rfl
theorem one_dV (v : V) : (dV v).one = false := by rw [dV_eq]; rfl
section
variable {f n : Int} {s : List UInt8} {ks : List V}
theorem form_mk : (V.mk f n s ks).form = f := rfl
theorem n_mk : (V.mk f n s ks).n = n := rfl
theorem name_mk : (V.mk f n s ks).name = s := rfl
theorem kids_mk : (V.mk f n s ks).kids = ks := rfl
end
theorem zeroI : ((0 : Nat) : Int) = 0 := rfl
/-- Is a list's room owned, so many laid? -/
def ow : Nat → Bool
  | 0 => false
  | _ + 1 => true
/-- What is laid so far, and one more. -/
theorem app_take (l : List V) (i : Nat) (h : i < l.length) (hl : l.length < 1048576) : appendD kV 56 ⟨ow i, dlist kV ((l.take i).map dV)⟩ (.list kV [dV l[i]]) = some ⟨ow (i + 1), dlist kV ((l.take (i + 1)).map dV)⟩ := by
  have hlen : ((l.take i).map dV).length = i := by simp; omega
  rw [append_one (fun hne => by
      cases i with
      | zero => simp at hne
      | succ i => rfl) (ok_dV _) (cells_dV _) (by rw [hlen]; unfold bound; omega) (by rw [hlen]; unfold bound; omega)]
  rw [List.take_add_one, List.map_append]
  simp [h, ow]
/-- No list in it is longer than any machine's. -/
inductive Fit : V → Prop
  | mk (f n : Int) (s : List UInt8) (ks : List V) (h : ks.length < 1048576) (hk : ∀ k ∈ ks, Fit k) : Fit (.mk f n s ks)
end Go.Proofs.YtdoppkjoemlhjaaDoor.Sh


/-
  Types made of types; numbers made small.
-/
import Derived.Test.YtjldgfgjbdogoaaGreatDoorFkG
import Derived.Test.YtjldgfgjbdogoaaGreatDoorFkIds
set_option linter.unusedSimpArgs false
set_option linter.unusedVariables false
set_option linter.unusedSectionVars false
namespace Go.Fu
open Go Go.Mx
set_option maxRecDepth 10000
theorem zt9 {n : Int} (h1 : -9223372036854775808 ≤ n) (h2 : n ≤ 9223372036854775807) : IntKind.i64.wrap n = n := by
  simp [IntKind.wrap, IntKind.bits, IntKind.signed]
  omega
theorem zm7 {i : Nat} (h : i < 1099511627776) : IntKind.i64.wrap ((i : Int) + 1) = ((i + 1 : Nat) : Int) := by
  rw [zt9 (by omega) (by omega)]
  rfl
theorem zeroI : ((0 : Nat) : Int) = 0 := rfl
theorem zqr {α : Type} (l : List α) (i : Nat) (h : i < l.length) : l.take i ++ [l[i]] = l.take (i + 1) := by
  rw [List.take_add_one, List.getElem?_eq_getElem h]
  simp
def ow : Nat → Bool
  | 0 => false
  | _ + 1 => true
theorem ow_ne {α : Type} {l : List α} {i : Nat} : l.take i ≠ [] → ow i = true := by
  cases i with
  | zero => intro h; simp at h
  | succ i => intro _; rfl
theorem zcob {i : Nat} : ow (i + 1) = true := rfl
theorem zcpb : ow 0 = false := rfl
theorem zna (t : Tp) : t.args.length ≤ 2 := by cases t <;> simp [Tp.args]
theorem zb5b {α : Type} {k : RowK} {sz : Nat} (hs : k.sz = sz) (f : α → D) (l : List α) (i : Nat) (h : i < l.length) : zdr sz (dlist k (l.map f)) i = some (.eptr (f l[i])) := by
  have hn : nth (l.map f) i = some (f l[i]) := by rw [zpr, zpq _ _ h]; rfl
  cases l with
  | nil => simp at h
  | cons x r =>
    simp only [List.map_cons, dlist, zdr, hs, beq_self_eq_true, zay] at hn ⊢
    rw [hn]
    rfl
theorem idx_T (l : List Tp) (i : Nat) (h : i < l.length) : zdr 4 (dlist k_1 (l.map dT)) i = some (.eptr (dT l[i])) := zb5b rfl _ _ _ h
theorem zamb (l : List Tp) (v : Tp) (o : Bool) (ho : l ≠ [] → o = true) (hl : l.length < 1048576) : zdh k_1 56 ⟨o, dlist k_1 (l.map dT)⟩ [dT v] = some ⟨true, dlist k_1 ((l ++ [v]).map dT)⟩ := by
  rw [zwp (fun h => ho (by simpa using h)) (ok_dT _) (zgk _) (by simp [bound]; omega) (by simp [bound]; omega)]
  simp
section own
variable {C : CallF} {n : Nat} {σ : Store}
def Eown (t : Tp) (i : Nat) : Env := { slots := [(3, ⟨ow i, dlist k_1 ((t.args.take i).map dT)⟩), (7, ⟨false, dlist k_1 (t.args.map dT)⟩), (8, ⟨false, .int .i64 t.args.length⟩), (9, ⟨false, .int .i64 i⟩)], locs := [(1, 1, 0), (2, 2, 0)], boxes := [(1, [⟨false, .int .i64 t.form⟩, ⟨false, .int .i64 0⟩, ⟨false, .str t.name⟩, ⟨false, dlist k_1 (t.args.map dT)⟩]), (2, [⟨false, .int .i64 0⟩, ⟨false, .int .i64 0⟩, ⟨false, .str []⟩, ⟨false, .nils⟩])], defers := [] }
theorem zzi (t : Tp) (i : Nat) (h : i < t.args.length) (hc : C n_27 [dT t.args[i]] σ = some (.ret ⟨false, dT t.args[i]⟩, σ)) : exec C n none a_44 (Eown t i) σ = some (.normal, Eown t (i + 1), σ) := by
  have hi : ((i : Int) < (t.args.length : Int)) := by omega
  have ha := zamb (t.args.take i) t.args[i] (ow i) ow_ne (by have := zna t; simp; omega)
  rw [zqr _ _ h] at ha
  have hd := dT_eq t.args[i]
  simp only [cT] at hd
  rw [hd] at hc ha
  simp only [a_44, Eown, sy0, sy1, sy2, sy3, sy4, sy5, sy6, zbh, zab, zaw, zay, clearEnv, adel, mem, zb1, zb4, stepOp, zcb, zbe, zcj, zci, evalV, addr, opd, opds, aget, aset, adel1, lkill, lfree, zbg, nth, Env.put, Env.putV, Env.box, Env.bare, zbz, zbt, binD, binBD, zco, zcu, zcv, unD, mmD, AOpd.drop, Cell.of, AOp.kind, stableOf, zb8, zck, eqlB, zcp, takeC, zbu, fits, zbk, zbf, putD, fillD, zce, optLo, optHi, zbq, Option.getD_some, Option.getD_none, runDefers, readRes, zb7, zb2, Nat.reduceAdd, Nat.reduceSub, Nat.reduceMul, Nat.reduceBEq, Nat.ble, Bool.false_and, Bool.true_and, Bool.and_true, Bool.and_false, Bool.or_true, Bool.true_or, Bool.or_false, Bool.false_or, Nat.zero_add, Nat.add_zero, beq_self_eq_true, Bool.true_beq, Bool.false_beq, Bool.not_true, Bool.not_false, decide_true, decide_false, bindO, List.map_cons, List.map_nil, List.length_cons, List.length_nil, List.append_nil, List.nil_append, List.cons_append, List.isEmpty_nil, List.isEmpty_cons, List.all_nil, List.all_cons, Nat.reduceLeDiff, Int.reduceBEq, Int.reduceBNe, Int.reduceLE, Int.reduceLT, Int.reduceGE, Int.reduceGT, Int.reduceNeg, Nat.le_refl, k_7, k_5, k_6, k_13, k_11, k_12, k_16, k_14, k_15, k_10, k_8, k_9, k_4, k_2, k_3, nat1, nat2, nat3, nat4, nat5, nat6, nat7, nat8, idxL, hi, idx_T _ _ h, hd, hc, ha, zm7 (i := i) (by have := zna t; omega), zcob]
theorem za4b (t : Tp) : exec C n none a_44 (Eown t t.args.length) σ = some (.exit 0, { Eown t t.args.length with slots := [(3, ⟨ow t.args.length, dlist k_1 (t.args.map dT)⟩), (7, ⟨false, dlist k_1 (t.args.map dT)⟩), (8, ⟨false, .int .i64 t.args.length⟩), (9, ⟨false, .int .i64 t.args.length⟩), (10, ⟨false, .bool false⟩)] }, σ) := by
  have hi : ¬ ((t.args.length : Int) < (t.args.length : Int)) := by omega
  simp only [a_44, Eown, sy0, sy1, sy2, sy3, sy4, sy5, sy6, zbh, zab, zaw, zay, clearEnv, adel, mem, zb1, zb4, stepOp, zcb, zbe, zcj, zci, evalV, addr, opd, opds, aget, aset, adel1, lkill, lfree, zbg, nth, Env.put, Env.putV, Env.box, Env.bare, zbz, zbt, binD, binBD, zco, zcu, zcv, unD, mmD, AOpd.drop, Cell.of, AOp.kind, stableOf, zb8, zck, eqlB, zcp, takeC, zbu, fits, zbk, zbf, putD, fillD, zce, optLo, optHi, zbq, Option.getD_some, Option.getD_none, runDefers, readRes, zb7, zb2, Nat.reduceAdd, Nat.reduceSub, Nat.reduceMul, Nat.reduceBEq, Nat.ble, Bool.false_and, Bool.true_and, Bool.and_true, Bool.and_false, Bool.or_true, Bool.true_or, Bool.or_false, Bool.false_or, Nat.zero_add, Nat.add_zero, beq_self_eq_true, Bool.true_beq, Bool.false_beq, Bool.not_true, Bool.not_false, decide_true, decide_false, bindO, List.map_cons, List.map_nil, List.length_cons, List.length_nil, List.append_nil, List.nil_append, List.cons_append, List.isEmpty_nil, List.isEmpty_cons, List.all_nil, List.all_cons, Nat.reduceLeDiff, Int.reduceBEq, Int.reduceBNe, Int.reduceLE, Int.reduceLT, Int.reduceGE, Int.reduceGT, Int.reduceNeg, Nat.le_refl, k_7, k_5, k_6, k_13, k_11, k_12, k_16, k_14, k_15, k_10, k_8, k_9, k_4, k_2, k_3, nat1, nat2, nat3, nat4, nat5, nat6, nat7, nat8, idxL, hi, List.take_length]
end own
def Tp.ht : Tp → Nat
  | .con _ => 0
  | .app f a => max f.ht a.ht + 1
theorem zma : ∀ (t : Tp) (n : Nat) (σ : Store), t.ht + 5 ≤ n → T n n_27 [dT t] σ = some (.ret ⟨false, dT t⟩, σ) := by
  intro t n σ hn
  obtain ⟨m, rfl⟩ : ∃ m, n = m + 1 := ⟨n - 1, by omega⟩
  have hk : ∀ i (h : i < t.args.length), T m n_27 [dT t.args[i]] σ = some (.ret ⟨false, dT t.args[i]⟩, σ) := by
    cases t with
    | app f a =>
      simp only [Tp.ht] at hn
      intro i hi
      match i, hi with
      | 0, _ => exact zma f m σ (by omega)
      | 1, _ => exact zma a m σ (by omega)
    | con n => exact fun i hi => absurd hi (by simp [Tp.args])
  rw [T_fun (af := a_63) rfl rfl]
  have hloop := zlj (body := exec (T m) m none a_44) (Eown t) (fun _ => σ) t.args.length (r := _) (fun _ _ h => by cases h) (fun i hi => zzi t i hi (hk i hi)) (za4b t) 0 m (by omega) (by have := zna t; omega)
  simp only [Eown, zeroI, List.take_zero, List.map_nil, zeo, zcpb] at hloop
  simp only [a_63, sy0, sy1, sy2, sy3, sy4, sy5, sy6, zbh, zab, zaw, zay, clearEnv, adel, mem, zb1, zb4, stepOp, zcb, zbe, zcj, zci, evalV, addr, opd, opds, aget, aset, adel1, lkill, lfree, zbg, nth, Env.put, Env.putV, Env.box, Env.bare, zbz, zbt, binD, binBD, zco, zcu, zcv, unD, mmD, AOpd.drop, Cell.of, AOp.kind, stableOf, zb8, zck, eqlB, zcp, takeC, zbu, fits, zbk, zbf, putD, fillD, zce, optLo, optHi, zbq, Option.getD_some, Option.getD_none, runDefers, readRes, zb7, zb2, Nat.reduceAdd, Nat.reduceSub, Nat.reduceMul, Nat.reduceBEq, Nat.ble, Bool.false_and, Bool.true_and, Bool.and_true, Bool.and_false, Bool.or_true, Bool.true_or, Bool.or_false, Bool.false_or, Nat.zero_add, Nat.add_zero, beq_self_eq_true, Bool.true_beq, Bool.false_beq, Bool.not_true, Bool.not_false, decide_true, decide_false, bindO, List.map_cons, List.map_nil, List.length_cons, List.length_nil, List.append_nil, List.nil_append, List.cons_append, List.isEmpty_nil, List.isEmpty_cons, List.all_nil, List.all_cons, Nat.reduceLeDiff, Int.reduceBEq, Int.reduceBNe, Int.reduceLE, Int.reduceLT, Int.reduceGE, Int.reduceGT, Int.reduceNeg, Nat.le_refl, k_7, k_5, k_6, k_13, k_11, k_12, k_16, k_14, k_15, k_10, k_8, k_9, k_4, k_2, k_3, nat1, nat2, nat3, nat4, nat5, nat6, nat7, nat8, idxL, dT_eq t, cT, List.length_map, hloop]
theorem zsc (n : Nat) (s : List UInt8) (σ : Store) : T (n + 1) n_53 [.str s] σ = some (.ret ⟨false, dT (.con s)⟩, σ) := by
  rw [T_fun (af := a_60) rfl rfl]
  simp only [a_60, sy0, sy1, sy2, sy3, sy4, sy5, sy6, zbh, zab, zaw, zay, clearEnv, adel, mem, zb1, zb4, stepOp, zcb, zbe, zcj, zci, evalV, addr, opd, opds, aget, aset, adel1, lkill, lfree, zbg, nth, Env.put, Env.putV, Env.box, Env.bare, zbz, zbt, binD, binBD, zco, zcu, zcv, unD, mmD, AOpd.drop, Cell.of, AOp.kind, stableOf, zb8, zck, eqlB, zcp, takeC, zbu, fits, zbk, zbf, putD, fillD, zce, optLo, optHi, zbq, Option.getD_some, Option.getD_none, runDefers, readRes, zb7, zb2, Nat.reduceAdd, Nat.reduceSub, Nat.reduceMul, Nat.reduceBEq, Nat.ble, Bool.false_and, Bool.true_and, Bool.and_true, Bool.and_false, Bool.or_true, Bool.true_or, Bool.or_false, Bool.false_or, Nat.zero_add, Nat.add_zero, beq_self_eq_true, Bool.true_beq, Bool.false_beq, Bool.not_true, Bool.not_false, decide_true, decide_false, bindO, List.map_cons, List.map_nil, List.length_cons, List.length_nil, List.append_nil, List.nil_append, List.cons_append, List.isEmpty_nil, List.isEmpty_cons, List.all_nil, List.all_cons, Nat.reduceLeDiff, Int.reduceBEq, Int.reduceBNe, Int.reduceLE, Int.reduceLT, Int.reduceGE, Int.reduceGT, Int.reduceNeg, Nat.le_refl, k_7, k_5, k_6, k_13, k_11, k_12, k_16, k_14, k_15, k_10, k_8, k_9, k_4, k_2, k_3, nat1, nat2, nat3, nat4, nat5, nat6, nat7, nat8, idxL, dT]
theorem zqd (n : Nat) (f a : Tp) (σ : Store) : T (n + 1) n_69 [dT f, dT a] σ = some (.ret ⟨false, dT (.app f a)⟩, σ) := by
  rw [T_fun (af := a_62) rfl rfl]
  simp only [a_62, sy0, sy1, sy2, sy3, sy4, sy5, sy6, zbh, zab, zaw, zay, clearEnv, adel, mem, zb1, zb4, stepOp, zcb, zbe, zcj, zci, evalV, addr, opd, opds, aget, aset, adel1, lkill, lfree, zbg, nth, Env.put, Env.putV, Env.box, Env.bare, zbz, zbt, binD, binBD, zco, zcu, zcv, unD, mmD, AOpd.drop, Cell.of, AOp.kind, stableOf, zb8, zck, eqlB, zcp, takeC, zbu, fits, zbk, zbf, putD, fillD, zce, optLo, optHi, zbq, Option.getD_some, Option.getD_none, runDefers, readRes, zb7, zb2, Nat.reduceAdd, Nat.reduceSub, Nat.reduceMul, Nat.reduceBEq, Nat.ble, Bool.false_and, Bool.true_and, Bool.and_true, Bool.and_false, Bool.or_true, Bool.true_or, Bool.or_false, Bool.false_or, Nat.zero_add, Nat.add_zero, beq_self_eq_true, Bool.true_beq, Bool.false_beq, Bool.not_true, Bool.not_false, decide_true, decide_false, bindO, List.map_cons, List.map_nil, List.length_cons, List.length_nil, List.append_nil, List.nil_append, List.cons_append, List.isEmpty_nil, List.isEmpty_cons, List.all_nil, List.all_cons, Nat.reduceLeDiff, Int.reduceBEq, Int.reduceBNe, Int.reduceLE, Int.reduceLT, Int.reduceGE, Int.reduceGT, Int.reduceNeg, Nat.le_refl, k_7, k_5, k_6, k_13, k_11, k_12, k_16, k_14, k_15, k_10, k_8, k_9, k_4, k_2, k_3, nat1, nat2, nat3, nat4, nat5, nat6, nat7, nat8, idxL, dT, dT_eq f, dT_eq a, cT]
theorem zxm {body : Env → Store → XRes} {n : Nat} {e : Env} {σ : Store} {e' : Env} {σ' : Store} (h : body e σ = some (.normal, e', σ')) : loopN body (n + 1) e σ = loopN body n e' σ' := by rw [loopN, h]
theorem zxl {body : Env → Store → XRes} {n : Nat} {e : Env} {σ : Store} {e' : Env} {σ' : Store} {i : Nat} (h : body e σ = some (.exit i, e', σ')) : loopN body (n + 1) e σ = some (.exit i, e', σ') := by rw [loopN, h]
theorem zsn {f a : Tp} : (Tp.app f a).form = 4 := rfl
theorem zsw {f a : Tp} : (Tp.app f a).name = [] := rfl
theorem zr5 {f a : Tp} : (Tp.app f a).args = [f, a] := rfl
theorem znb {s : List UInt8} : (Tp.con s).form = 3 := rfl
theorem znf {s : List UInt8} : (Tp.con s).name = s := rfl
theorem zm9 {s : List UInt8} : (Tp.con s).args = [] := rfl
theorem oneI : ((1 : Nat) : Int) = 1 := rfl
theorem dlist_cons' {r : RowK} {x : D} {es : List D} : dlist r (x :: es) = .list r (x :: es) := rfl
def Efun (s : List UInt8) (t : Tp) (i : Int) : Env := { slots := [(1, ⟨false, .list k_1 [.agg [.int .i64 3, .int .i64 0, .str s, .nils]]⟩), (10, ⟨false, .int .i64 1⟩), (11, ⟨false, .int .i64 i⟩)], locs := [(4, 4, 0), (5, 5, 0)], boxes := [(4, [⟨false, .int .i64 0⟩, ⟨false, .int .i64 0⟩, ⟨false, .str []⟩, ⟨false, .nils⟩]), (5, [⟨false, .int .i64 t.form⟩, ⟨false, .int .i64 0⟩, ⟨false, .str t.name⟩, ⟨false, dlist k_1 (t.args.map dT)⟩])], defers := [] }
theorem zatb (n : Nat) (s : List UInt8) (t : Tp) (σ : Store) : exec (T (n + 6)) (n + 6) none a_43 (Efun s t 0) σ = some (.normal, Efun s (.app (.app (.con [45, 62]) (.con s)) t) 1, σ) := by
  have h1 := zsc (n + 5) [45, 62] σ
  have h2 := zma (.con s) (n + 6) σ (by simp only [Tp.ht]; omega)
  have h3 := zqd (n + 5) (.con [45, 62]) (.con s) σ
  have h4 := zqd (n + 5) (.app (.con [45, 62]) (.con s)) t σ
  simp only [dT, dT_eq t, cT] at h1 h2 h3 h4
  have w : IntKind.i64.wrap (0 + 1) = 1 := rfl
  have w1 : IntKind.i64.wrap (1 - 1) = 0 := rfl
  have w2 : IntKind.i64.wrap (0 - 0) = 0 := rfl
  have w3 : (D.int IntKind.i64 0).nat? = some 0 := rfl
  simp only [a_43, Efun, sy0, sy1, sy2, sy3, sy4, sy5, sy6, zbh, zab, zaw, zay, clearEnv, adel, mem, zb1, zb4, stepOp, zcb, zbe, zcj, zci, evalV, addr, opd, opds, aget, aset, adel1, lkill, lfree, zbg, nth, Env.put, Env.putV, Env.box, Env.bare, zbz, zbt, binD, binBD, zco, zcu, zcv, unD, mmD, AOpd.drop, Cell.of, AOp.kind, stableOf, zb8, zck, eqlB, zcp, takeC, zbu, fits, zbk, zbf, putD, fillD, zce, optLo, optHi, zbq, Option.getD_some, Option.getD_none, runDefers, readRes, zb7, zb2, Nat.reduceAdd, Nat.reduceSub, Nat.reduceMul, Nat.reduceBEq, Nat.ble, Bool.false_and, Bool.true_and, Bool.and_true, Bool.and_false, Bool.or_true, Bool.true_or, Bool.or_false, Bool.false_or, Nat.zero_add, Nat.add_zero, beq_self_eq_true, Bool.true_beq, Bool.false_beq, Bool.not_true, Bool.not_false, decide_true, decide_false, bindO, List.map_cons, List.map_nil, List.length_cons, List.length_nil, List.append_nil, List.nil_append, List.cons_append, List.isEmpty_nil, List.isEmpty_cons, List.all_nil, List.all_cons, Nat.reduceLeDiff, Int.reduceBEq, Int.reduceBNe, Int.reduceLE, Int.reduceLT, Int.reduceGE, Int.reduceGT, Int.reduceNeg, Nat.le_refl, k_7, k_5, k_6, k_13, k_11, k_12, k_16, k_14, k_15, k_10, k_8, k_9, k_4, k_2, k_3, nat1, nat2, nat3, nat4, nat5, nat6, nat7, nat8, idxL, zn6, oneI, w, w1, w2, w3, h1, h2, h3, h4, zsn, zsw, zr5, dlist_cons', zeo, dT, dT_eq t, cT]
theorem zb3b (n : Nat) (s : List UInt8) (t : Tp) (σ : Store) : exec (T n) n none a_43 (Efun s t 1) σ = some (.exit 0, { Efun s t 1 with slots := [(1, ⟨false, .list k_1 [.agg [.int .i64 3, .int .i64 0, .str s, .nils]]⟩), (10, ⟨false, .int .i64 1⟩), (11, ⟨false, .int .i64 1⟩), (12, ⟨false, .bool false⟩)] }, σ) := by
  simp only [a_43, Efun, sy0, sy1, sy2, sy3, sy4, sy5, sy6, zbh, zab, zaw, zay, clearEnv, adel, mem, zb1, zb4, stepOp, zcb, zbe, zcj, zci, evalV, addr, opd, opds, aget, aset, adel1, lkill, lfree, zbg, nth, Env.put, Env.putV, Env.box, Env.bare, zbz, zbt, binD, binBD, zco, zcu, zcv, unD, mmD, AOpd.drop, Cell.of, AOp.kind, stableOf, zb8, zck, eqlB, zcp, takeC, zbu, fits, zbk, zbf, putD, fillD, zce, optLo, optHi, zbq, Option.getD_some, Option.getD_none, runDefers, readRes, zb7, zb2, Nat.reduceAdd, Nat.reduceSub, Nat.reduceMul, Nat.reduceBEq, Nat.ble, Bool.false_and, Bool.true_and, Bool.and_true, Bool.and_false, Bool.or_true, Bool.true_or, Bool.or_false, Bool.false_or, Nat.zero_add, Nat.add_zero, beq_self_eq_true, Bool.true_beq, Bool.false_beq, Bool.not_true, Bool.not_false, decide_true, decide_false, bindO, List.map_cons, List.map_nil, List.length_cons, List.length_nil, List.append_nil, List.nil_append, List.cons_append, List.isEmpty_nil, List.isEmpty_cons, List.all_nil, List.all_cons, Nat.reduceLeDiff, Int.reduceBEq, Int.reduceBNe, Int.reduceLE, Int.reduceLT, Int.reduceGE, Int.reduceGT, Int.reduceNeg, Nat.le_refl, k_7, k_5, k_6, k_13, k_11, k_12, k_16, k_14, k_15, k_10, k_8, k_9, k_4, k_2, k_3, nat1, nat2, nat3, nat4, nat5, nat6, nat7, nat8, idxL]
theorem zb4b (n : Nat) (s : List UInt8) (t : Tp) (σ : Store) (h : t.ht < n) : T (n + 7) n_304 [dT t, .list k_1 [dT (.con s)]] σ = some (.ret ⟨false, dT (.app (.app (.con [45, 62]) (.con s)) t)⟩, σ) := by
  have h1 := zma t (n + 6) σ (by omega)
  have hl : loopN (exec (T (n + 6)) (n + 6) none a_43) (n + 6) (Efun s t 0) σ = _ := (zxm (zatb n s t σ)).trans (zxl (zb3b (n + 6) s _ σ))
  rw [T_fun (af := a_61) rfl rfl]
  simp only [Efun, dT_eq t, cT] at hl h1
  have e1 : Tp.form (.app (.app (.con [45, 62]) (.con s)) t) = 4 := rfl
  have e2 : Tp.name (.app (.app (.con [45, 62]) (.con s)) t) = [] := rfl
  have e3 : Tp.args (.app (.app (.con [45, 62]) (.con s)) t) = [.app (.con [45, 62]) (.con s), t] := rfl
  simp only [a_61, sy0, sy1, sy2, sy3, sy4, sy5, sy6, zbh, zab, zaw, zay, clearEnv, adel, mem, zb1, zb4, stepOp, zcb, zbe, zcj, zci, evalV, addr, opd, opds, aget, aset, adel1, lkill, lfree, zbg, nth, Env.put, Env.putV, Env.box, Env.bare, zbz, zbt, binD, binBD, zco, zcu, zcv, unD, mmD, AOpd.drop, Cell.of, AOp.kind, stableOf, zb8, zck, eqlB, zcp, takeC, zbu, fits, zbk, zbf, putD, fillD, zce, optLo, optHi, zbq, Option.getD_some, Option.getD_none, runDefers, readRes, zb7, zb2, Nat.reduceAdd, Nat.reduceSub, Nat.reduceMul, Nat.reduceBEq, Nat.ble, Bool.false_and, Bool.true_and, Bool.and_true, Bool.and_false, Bool.or_true, Bool.true_or, Bool.or_false, Bool.false_or, Nat.zero_add, Nat.add_zero, beq_self_eq_true, Bool.true_beq, Bool.false_beq, Bool.not_true, Bool.not_false, decide_true, decide_false, bindO, List.map_cons, List.map_nil, List.length_cons, List.length_nil, List.append_nil, List.nil_append, List.cons_append, List.isEmpty_nil, List.isEmpty_cons, List.all_nil, List.all_cons, Nat.reduceLeDiff, Int.reduceBEq, Int.reduceBNe, Int.reduceLE, Int.reduceLT, Int.reduceGE, Int.reduceGT, Int.reduceNeg, Nat.le_refl, k_7, k_5, k_6, k_13, k_11, k_12, k_16, k_14, k_15, k_10, k_8, k_9, k_4, k_2, k_3, nat1, nat2, nat3, nat4, nat5, nat6, nat7, nat8, idxL, dT, dT_eq t, cT, h1, hl, e1, e2, e3, oneI, dlist_cons', zeo]
def posOf (x : Int) : Int := if x < 0 then -(x + 1) else x
def aro (x : Int) (m : Nat) : Nat := (posOf x % (m : Int)).toNat
theorem zyp (x : Int) {m : Nat} (h : 0 < m) : aro x m < m := by
  unfold aro
  have := Int.emod_lt_of_pos (posOf x) (show (0 : Int) < m by omega)
  have := Int.emod_nonneg (posOf x) (show (m : Int) ≠ 0 by omega)
  omega
theorem zbfb (x : Int) : 0 ≤ posOf x := by unfold posOf; split <;> omega
theorem zr6 (x : Int) {m : Nat} (h : 0 < m) : (posOf x).tmod m = ((aro x m : Nat) : Int) := by
  unfold aro
  rw [Int.tmod_eq_emod_of_nonneg (zbfb x)]
  have := Int.emod_nonneg (posOf x) (show (m : Int) ≠ 0 by omega)
  omega
def Small (x : Int) : Prop := -9223372036854775808 ≤ x ∧ x ≤ 9223372036854775807
theorem zn4 (n : Nat) (x : Int) (m : Nat) (σ : Store) (hx : Small x) (hm : 0 < m) (hm2 : m < 1048576) : T (n + 1) n_254 [.int .i64 x, .int .i64 m] σ = some (.ret ⟨false, .int .i64 (aro x m)⟩, σ) := by
  rw [T_fun (af := a_42) rfl rfl]
  unfold Small at hx
  have hm0 : (((m : Nat) : Int) == 0) = false := by simp; omega
  by_cases h : x < 0
  · have hp : posOf x = -(x + 1) := if_pos h
    have w1 : IntKind.i64.wrap (x + 1) = x + 1 := zt9 (by omega) (by omega)
    have w2 : IntKind.i64.wrap (0 - (x + 1)) = posOf x := by rw [hp, zt9 (by omega) (by omega)]; omega
    simp only [a_42, sy0, sy1, sy2, sy3, sy4, sy5, sy6, zbh, zab, zaw, zay, clearEnv, adel, mem, zb1, zb4, stepOp, zcb, zbe, zcj, zci, evalV, addr, opd, opds, aget, aset, adel1, lkill, lfree, zbg, nth, Env.put, Env.putV, Env.box, Env.bare, zbz, zbt, binD, binBD, zco, zcu, zcv, unD, mmD, AOpd.drop, Cell.of, AOp.kind, stableOf, zb8, zck, eqlB, zcp, takeC, zbu, fits, zbk, zbf, putD, fillD, zce, optLo, optHi, zbq, Option.getD_some, Option.getD_none, runDefers, readRes, zb7, zb2, Nat.reduceAdd, Nat.reduceSub, Nat.reduceMul, Nat.reduceBEq, Nat.ble, Bool.false_and, Bool.true_and, Bool.and_true, Bool.and_false, Bool.or_true, Bool.true_or, Bool.or_false, Bool.false_or, Nat.zero_add, Nat.add_zero, beq_self_eq_true, Bool.true_beq, Bool.false_beq, Bool.not_true, Bool.not_false, decide_true, decide_false, bindO, List.map_cons, List.map_nil, List.length_cons, List.length_nil, List.append_nil, List.nil_append, List.cons_append, List.isEmpty_nil, List.isEmpty_cons, List.all_nil, List.all_cons, Nat.reduceLeDiff, Int.reduceBEq, Int.reduceBNe, Int.reduceLE, Int.reduceLT, Int.reduceGE, Int.reduceGT, Int.reduceNeg, Nat.le_refl, k_7, k_5, k_6, k_13, k_11, k_12, k_16, k_14, k_15, k_10, k_8, k_9, k_4, k_2, k_3, nat1, nat2, nat3, nat4, nat5, nat6, nat7, nat8, idxL, h, w1, w2, hm0, zr6 x hm]
  · have hp : posOf x = x := if_neg h
    have ht := zr6 x hm
    rw [hp] at ht
    simp only [a_42, sy0, sy1, sy2, sy3, sy4, sy5, sy6, zbh, zab, zaw, zay, clearEnv, adel, mem, zb1, zb4, stepOp, zcb, zbe, zcj, zci, evalV, addr, opd, opds, aget, aset, adel1, lkill, lfree, zbg, nth, Env.put, Env.putV, Env.box, Env.bare, zbz, zbt, binD, binBD, zco, zcu, zcv, unD, mmD, AOpd.drop, Cell.of, AOp.kind, stableOf, zb8, zck, eqlB, zcp, takeC, zbu, fits, zbk, zbf, putD, fillD, zce, optLo, optHi, zbq, Option.getD_some, Option.getD_none, runDefers, readRes, zb7, zb2, Nat.reduceAdd, Nat.reduceSub, Nat.reduceMul, Nat.reduceBEq, Nat.ble, Bool.false_and, Bool.true_and, Bool.and_true, Bool.and_false, Bool.or_true, Bool.true_or, Bool.or_false, Bool.false_or, Nat.zero_add, Nat.add_zero, beq_self_eq_true, Bool.true_beq, Bool.false_beq, Bool.not_true, Bool.not_false, decide_true, decide_false, bindO, List.map_cons, List.map_nil, List.length_cons, List.length_nil, List.append_nil, List.nil_append, List.cons_append, List.isEmpty_nil, List.isEmpty_cons, List.all_nil, List.all_cons, Nat.reduceLeDiff, Int.reduceBEq, Int.reduceBNe, Int.reduceLE, Int.reduceLT, Int.reduceGE, Int.reduceGT, Int.reduceNeg, Nat.le_refl, k_7, k_5, k_6, k_13, k_11, k_12, k_16, k_14, k_15, k_10, k_8, k_9, k_4, k_2, k_3, nat1, nat2, nat3, nat4, nat5, nat6, nat7, nat8, idxL, h, hm0, ht]
end Go.Fu

/-
  The kind of every type of functions over numbers and truths, of at most eight: reckoned by the kernel where all are numbers, and told of the others by what each name is.
-/
import Derived.Test.YtjldgfgjbdogoaaGreatDoorFkB
import Derived.Test.YtjldgfgjbdogoaaGreatDoorFkC
set_option linter.unusedSimpArgs false
set_option linter.unusedVariables false
set_option linter.unusedSectionVars false
namespace Go.Fu
open Go Go.Mx
set_option maxRecDepth 1000000
def nm : Bool → List UInt8
  | true => [66, 111, 111, 108]
  | false => [73, 110, 116]
def arr1 (b : Bool) : Tp := .app (.con [45, 62]) (.con (nm b))
def tyB : List Bool → Tp
  | [] => .con (nm false)
  | b :: l => .app (arr1 b) (tyB l)
def tyI : Nat → Tp
  | 0 => .con (nm false)
  | n + 1 => .app (arr1 false) (tyI n)
noncomputable def stR (r : Option (Out × Store)) : Store := match r with
  | some (_, σ) => σ
  | none => σe
noncomputable def gof (n : Nat) (t : Tp) (σ : Store) : Option (Out × Store) := TF n n_17 [.ptr 8 0, .map 29, dT t] σ
noncomputable def sK : Nat → List Cell → Store
  | 0, x => S0 x
  | k + 1, x => stR (gof (55 - k) (arr1 false) (sK k x))
theorem zy5 (n : Nat) (t : Tp) (σ : Store) : T0 n n_17 [.ptr 8 0, .map 29, dT t] σ = gof n t σ := by rw [T0_eq]; rfl
theorem zpj {m : Nat} {s : List UInt8} {σ : Store} {V : D} {es : List (D × D × Nat)} {ck b i : Nat} {p q : Int} {r : D} {c5 c7 : Cell} {o6 : Bool} (h8 : aget σ.objs 8 = some [c5, ⟨o6, .map 6⟩, c7]) (hm : aget σ.oth 6 = some (.map es ck))
    (hf : findM (.str s) es = some (some (.agg [.int .i64 p, .int .i64 q, r], b, i))) (hr : r.one = true) : T0 (m + 2) n_17 [.ptr 8 0, V, dT (.con s)] σ = some (.ret ⟨false, .agg [.int .i64 p, .int .i64 q, r]⟩, σ) := by
  have h1 : T0 (m + 1) n_41 [.map 6, .str s] σ = some (.ret ⟨false, .agg [.int .i64 p, .int .i64 q, r]⟩, σ) := by
    rw [zgy (af := a_57) rfl rfl]
    simp only [a_57, sy0, sy1, sy2, sy3, sy4, sy5, sy6, zbh, zab, zaw, zay, clearEnv, adel, mem, zb1, zb4, stepOp, zcb, zbe, zcj, zci, evalV, addr, opd, opds, aget, aset, adel1, lkill, lfree, zbg, nth, Env.put, Env.putV, Env.box, Env.bare, zbz, zbt, binD, binBD, zco, zcu, zcv, unD, mmD, AOpd.drop, Cell.of, AOp.kind, stableOf, zb8, zck, eqlB, zcp, takeC, zbu, fits, zbk, zbf, putD, fillD, zce, optLo, optHi, zbq, Option.getD_some, Option.getD_none, runDefers, readRes, zb7, zb2, Nat.reduceAdd, Nat.reduceSub, Nat.reduceMul, Nat.reduceBEq, Nat.ble, Bool.false_and, Bool.true_and, Bool.and_true, Bool.and_false, Bool.or_true, Bool.true_or, Bool.or_false, Bool.false_or, Nat.zero_add, Nat.add_zero, beq_self_eq_true, Bool.true_beq, Bool.false_beq, Bool.not_true, Bool.not_false, decide_true, decide_false, bindO, List.map_cons, List.map_nil, List.length_cons, List.length_nil, List.append_nil, List.nil_append, List.cons_append, List.isEmpty_nil, List.isEmpty_cons, List.all_nil, List.all_cons, Nat.reduceLeDiff, Int.reduceBEq, Int.reduceBNe, Int.reduceLE, Int.reduceLT, Int.reduceGE, Int.reduceGT, Int.reduceNeg, Nat.le_refl, k_7, k_5, k_6, k_13, k_11, k_12, k_16, k_14, k_15, k_10, k_8, k_9, k_4, k_2, k_3, nat1, nat2, nat3, nat4, nat5, nat6, nat7, nat8, idxL, mapOf, hm, keyD, hf, hr]
  rw [zgy (af := a_26) rfl rfl]
  simp only [a_26, sy0, sy1, sy2, sy3, sy4, sy5, sy6, zbh, zab, zaw, zay, clearEnv, adel, mem, zb1, zb4, stepOp, zcb, zbe, zcj, zci, evalV, addr, opd, opds, aget, aset, adel1, lkill, lfree, zbg, nth, Env.put, Env.putV, Env.box, Env.bare, zbz, zbt, binD, binBD, zco, zcu, zcv, unD, mmD, AOpd.drop, Cell.of, AOp.kind, stableOf, zb8, zck, eqlB, zcp, takeC, zbu, fits, zbk, zbf, putD, fillD, zce, optLo, optHi, zbq, Option.getD_some, Option.getD_none, runDefers, readRes, zb7, zb2, Nat.reduceAdd, Nat.reduceSub, Nat.reduceMul, Nat.reduceBEq, Nat.ble, Bool.false_and, Bool.true_and, Bool.and_true, Bool.and_false, Bool.or_true, Bool.true_or, Bool.or_false, Bool.false_or, Nat.zero_add, Nat.add_zero, beq_self_eq_true, Bool.true_beq, Bool.false_beq, Bool.not_true, Bool.not_false, decide_true, decide_false, bindO, List.map_cons, List.map_nil, List.length_cons, List.length_nil, List.append_nil, List.nil_append, List.cons_append, List.isEmpty_nil, List.isEmpty_cons, List.all_nil, List.all_cons, Nat.reduceLeDiff, Int.reduceBEq, Int.reduceBNe, Int.reduceLE, Int.reduceLT, Int.reduceGE, Int.reduceGT, Int.reduceNeg, Nat.le_refl, k_7, k_5, k_6, k_13, k_11, k_12, k_16, k_14, k_15, k_10, k_8, k_9, k_4, k_2, k_3, nat1, nat2, nat3, nat4, nat5, nat6, nat7, nat8, idxL, dT, h8, h1, hr]
def isTm : Option (Option (D × Nat × Nat)) → Bool
  | some (some (.agg [.int .i64 _, .int .i64 _, r], _, _)) => r.one
  | _ => false
def isSt : Option (Option (D × Nat × Nat)) → Bool
  | some (some (.agg [.int .i64 2, .int .i64 0, .nils], _, _)) => true
  | _ => false
def prj (σ : Store) : Bool := match aget σ.objs 8, aget σ.oth 6 with
  | some [_, ⟨_, .map 6⟩, _], some (.map es _) => isTm (findM (.str [45, 62]) es) && (isSt (findM (.str (nm false)) es) && isSt (findM (.str (nm true)) es))
  | _, _ => false
theorem prj0 (x : List Cell) : prj (sK 0 x) = true := by kernel_rfl
theorem prj1 (x : List Cell) : prj (sK 1 x) = true := by kernel_rfl
theorem prj2 (x : List Cell) : prj (sK 2 x) = true := by kernel_rfl
theorem prj3 (x : List Cell) : prj (sK 3 x) = true := by kernel_rfl
theorem prj4 (x : List Cell) : prj (sK 4 x) = true := by kernel_rfl
theorem prj5 (x : List Cell) : prj (sK 5 x) = true := by kernel_rfl
theorem prj6 (x : List Cell) : prj (sK 6 x) = true := by kernel_rfl
theorem prj7 (x : List Cell) : prj (sK 7 x) = true := by kernel_rfl
theorem zwl (k : Nat) (h : k < 8) (x : List Cell) : prj (sK k x) = true := by
  match k, h with
  | 0, _ => exact prj0 x
  | 1, _ => exact prj1 x
  | 2, _ => exact prj2 x
  | 3, _ => exact prj3 x
  | 4, _ => exact prj4 x
  | 5, _ => exact prj5 x
  | 6, _ => exact prj6 x
  | 7, _ => exact prj7 x
theorem zqg {v : Option (Option (D × Nat × Nat))} (h : isSt v = true) : ∃ b i, v = some (some (tm 2 0, b, i)) := by
  unfold isSt at h
  split at h
  · exact ⟨_, _, rfl⟩
  · cases h
theorem zy9 {v : Option (Option (D × Nat × Nat))} (h : isTm v = true) : ∃ p q r b i, v = some (some (.agg [.int .i64 p, .int .i64 q, r], b, i)) ∧ r.one = true := by
  unfold isTm at h
  split at h
  · exact ⟨_, _, _, _, _, rfl, h⟩
  · cases h
theorem zwm {σ : Store} {V : D} (h : prj σ = true) (m : Nat) (b : Bool) : (∃ c, T0 (m + 2) n_17 [.ptr 8 0, V, dT (.con [45, 62])] σ = some (.ret c, σ)) ∧ T0 (m + 2) n_17 [.ptr 8 0, V, dT (.con (nm b))] σ = some (.ret ⟨false, tm 2 0⟩, σ) := by
  unfold prj at h
  split at h
  · rename_i c5 o6 c7 es ck h8 hm
    simp only [Bool.and_eq_true] at h
    obtain ⟨h1, h2, h3⟩ := h
    obtain ⟨p, q, r, b1, i1, e1, hr⟩ := zy9 h1
    obtain ⟨b2, i2, e2⟩ := zqg h2
    obtain ⟨b3, i3, e3⟩ := zqg h3
    refine ⟨⟨_, zpj h8 hm e1 hr⟩, ?_⟩
    cases b with
    | false => exact zpj h8 hm e2 rfl
    | true => exact zpj h8 hm e3 rfl
  · cases h
theorem zzk : ∀ (bs : List Bool) (k : Nat) (x : List Cell), k + bs.length ≤ 8 → T0 (56 - k) n_17 [.ptr 8 0, .map 29, dT (tyB bs)] (sK k x) = T0 (56 - k) n_17 [.ptr 8 0, .map 29, dT (tyI bs.length)] (sK k x)
  | [], _, _, _ => rfl
  | b :: l, k, x, h => by
    simp only [List.length_cons] at h
    have hk : k < 8 := by omega
    have ih := zzk l (k + 1) x (by omega)
    rw [show 56 - k = (54 - k) + 1 + 1 by omega]
    refine zwj (zwj rfl fun c σ1 hc => ?_) fun c σ1 hc => ?_
    · obtain ⟨⟨c0, hc0⟩, hb⟩ := zwm (V := .map 29) (zwl k hk x) (52 - k) b
      have hn := (zwm (V := .map 29) (zwl k hk x) (52 - k) false).2
      rw [show 52 - k + 2 = 54 - k by omega] at hc0 hb hn
      rw [hc0] at hc
      cases hc
      rw [hb, hn]
    · rw [zy5] at hc
      have hs : sK (k + 1) x = σ1 := by
        rw [sK, show 55 - k = 54 - k + 1 by omega]
        exact congrArg stR hc
      rw [hs, show 56 - (k + 1) = 54 - k + 1 by omega] at ih
      exact ih
noncomputable def chk (r : Option (Out × Store)) : Option (Int × Int × Cell × List (Option (List Cell))) := match r with
  | some (.ret ⟨false, .agg [.int .i64 p, .int .i64 q, .nils]⟩, σ5) => match TF 56 n_35 [.ptr 5 0, tm p q] σ5 with
    | some (.ret c, σ6) => some (p, q, c, [aget σ5.objs 0, aget σ5.objs 2, aget σ5.objs 27, aget σ5.objs 8, aget σ6.objs 3, aget σ6.objs 28])
    | _ => none
  | _ => none
def want (x : List Cell) : Option (Cell × List (Option (List Cell))) := some (⟨false, .agg [.nils]⟩, [some [⟨false, .nils⟩], some x, some [⟨false, .ptr 8 0⟩], some [⟨false, .ptr 5 0⟩, ⟨false, .map 6⟩, ⟨false, .map 7⟩], some [⟨false, .nils⟩], some [⟨false, .bool false⟩]])
theorem chk0 (x : List Cell) : (chk (gof 56 (tyI 0) (S0 x))).map (fun r => r.2.2) = want x := by kernel_rfl
theorem chk1 (x : List Cell) : (chk (gof 56 (tyI 1) (S0 x))).map (fun r => r.2.2) = want x := by kernel_rfl
theorem chk2 (x : List Cell) : (chk (gof 56 (tyI 2) (S0 x))).map (fun r => r.2.2) = want x := by kernel_rfl
theorem chk3 (x : List Cell) : (chk (gof 56 (tyI 3) (S0 x))).map (fun r => r.2.2) = want x := by kernel_rfl
theorem chk4 (x : List Cell) : (chk (gof 56 (tyI 4) (S0 x))).map (fun r => r.2.2) = want x := by kernel_rfl
theorem chk5 (x : List Cell) : (chk (gof 56 (tyI 5) (S0 x))).map (fun r => r.2.2) = want x := by kernel_rfl
theorem chk6 (x : List Cell) : (chk (gof 56 (tyI 6) (S0 x))).map (fun r => r.2.2) = want x := by kernel_rfl
theorem chk7 (x : List Cell) : (chk (gof 56 (tyI 7) (S0 x))).map (fun r => r.2.2) = want x := by kernel_rfl
theorem chk8 (x : List Cell) : (chk (gof 56 (tyI 8) (S0 x))).map (fun r => r.2.2) = want x := by kernel_rfl
theorem zb1b (n : Nat) (h : n ≤ 8) (x : List Cell) : (chk (gof 56 (tyI n) (S0 x))).map (fun r => r.2.2) = want x := by
  match n, h with
  | 0, _ => exact chk0 x
  | 1, _ => exact chk1 x
  | 2, _ => exact chk2 x
  | 3, _ => exact chk3 x
  | 4, _ => exact chk4 x
  | 5, _ => exact chk5 x
  | 6, _ => exact chk6 x
  | 7, _ => exact chk7 x
  | 8, _ => exact chk8 x
theorem zaob {r : Option (Out × Store)} {x : List Cell} (h : (chk r).map (fun r => r.2.2) = want x) : ∃ p q σ5 σ6, r = some (.ret ⟨false, tm p q⟩, σ5) ∧ TF 56 n_35 [.ptr 5 0, tm p q] σ5 = some (.ret ⟨false, .agg [.nils]⟩, σ6) ∧
    aget σ5.objs 0 = some [⟨false, .nils⟩] ∧ aget σ5.objs 2 = some x ∧ aget σ5.objs 27 = some [⟨false, .ptr 8 0⟩] ∧ aget σ5.objs 8 = some [⟨false, .ptr 5 0⟩, ⟨false, .map 6⟩, ⟨false, .map 7⟩] ∧ aget σ6.objs 3 = some [⟨false, .nils⟩] ∧ aget σ6.objs 28 = some [⟨false, .bool false⟩] := by
  unfold chk want at h
  split at h
  · rename_i p q σ5
    split at h
    · rename_i c σ6 hk
      simp only [Option.map_some, Option.some.injEq, Prod.mk.injEq, List.cons.injEq, and_true] at h
      obtain ⟨rfl, h0, h2, h27, h8, h3, h28⟩ := h
      exact ⟨p, q, σ5, σ6, rfl, hk, h0, h2, h27, h8, h3, h28⟩
    · cases h
  · cases h
theorem zccb (bs : List Bool) (h : bs.length ≤ 8) : ∃ σ6 : Store, aget σ6.objs 3 = some [⟨false, .nils⟩] ∧ aget σ6.objs 28 = some [⟨false, .bool false⟩] ∧ T0 57 n_64 [.ptr 27 0, .ptr 0 0, .ptr 1 0, .ptr 2 0, .ptr 3 0] (S3 (atys (tyB bs))) = some (.ret ⟨false, .tup []⟩, { σ6 with objs := aset σ6.objs 3 [⟨false, .nils⟩] }) := by
  have h1 := zzk bs 0 (atys (tyB bs)) (by omega)
  obtain ⟨p, q, σ5, σ6, e1, e2, h0, h2, h27, h8, h3, h28⟩ := zaob (zb1b bs.length h (atys (tyB bs)))
  rw [← zy5] at e1
  have e3 : T0 56 n_17 [.ptr 8 0, .map 29, dT (tyB bs)] (S0 (atys (tyB bs))) = some (.ret ⟨false, tm p q⟩, σ5) := h1.trans e1
  rw [← T0_eq] at e2
  exact ⟨σ6, h3, h28, zcbb e3 e2 h0 h2 h27 h8 h3⟩
end Go.Fu

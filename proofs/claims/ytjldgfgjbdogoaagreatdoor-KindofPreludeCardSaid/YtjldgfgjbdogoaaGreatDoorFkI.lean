/-
  The law: the prelude, told anew, is the document's; a type of functions over numbers and truths is of the kind of types.
-/
import Derived.Test.YtjldgfgjbdogoaaGreatDoorFkH
set_option linter.unusedSimpArgs false
set_option linter.unusedVariables false
set_option linter.unusedSectionVars false
namespace Go.Fu
open Go Go.Mx
set_option maxRecDepth 1000000
def aS : List UInt8 := [45, 62]
def bS : List UInt8 := [73, 110, 116]
def cS : List UInt8 := [66, 111, 111, 108]
def cK (a b c : List UInt8) (i j l : Nat) : List Cell := [⟨false, .str a⟩, ⟨false, .int .i64 0⟩, ⟨false, .arr k_0 i 0 2⟩, ⟨false, .arr k_23 j 0 2⟩, ⟨false, .nils⟩, ⟨false, .str b⟩, ⟨false, .int .i64 0⟩, ⟨false, .nils⟩, ⟨false, .nils⟩, ⟨false, .nils⟩, ⟨false, .str c⟩, ⟨false, .int .i64 0⟩, ⟨false, .nils⟩, ⟨false, .nils⟩, ⟨false, .arr k_28 l 0 2⟩]
def cC : List Cell := [⟨false, .str [70, 97, 108, 115, 101]⟩, ⟨false, .int .i64 0⟩, ⟨false, .nils⟩, ⟨false, .str [84, 114, 117, 101]⟩, ⟨false, .int .i64 0⟩, ⟨false, .nils⟩]
def stP (a b c : List UInt8) : Store := { objs := [(6, cK a b c 0 2 4), (4, cC), (2, [⟨false, .nils⟩, ⟨false, .nils⟩]), (0, [⟨false, .str [97]⟩, ⟨false, .str [98]⟩])], tys := [(6, ⟨29, 5⟩), (4, ⟨45, 3⟩), (2, ⟨49, 1⟩), (0, ⟨9, 1⟩)], oth := [], next := 8 }
def stQ (a b c : List UInt8) : Store := { objs := [(14, cK aS bS cS 8 10 12), (12, cC), (10, [⟨false, .nils⟩, ⟨false, .nils⟩]), (8, [⟨false, .str [97]⟩, ⟨false, .str [98]⟩]), (6, cK a b c 0 2 4), (4, cC), (2, [⟨false, .nils⟩, ⟨false, .nils⟩]), (0, [⟨false, .str [97]⟩, ⟨false, .str [98]⟩])], tys := [(14, ⟨29, 5⟩), (12, ⟨45, 3⟩), (10, ⟨49, 1⟩), (8, ⟨9, 1⟩), (6, ⟨29, 5⟩), (4, ⟨45, 3⟩), (2, ⟨49, 1⟩), (0, ⟨9, 1⟩)], oth := [], next := 16 }
def dRef : D := .list k_19 [.agg [.str [45, 62], .int .i64 0, .list k_0 [.str [97], .str [98]], .list k_23 [.agg [.nils], .agg [.nils]], .nils], .agg [.str [73, 110, 116], .int .i64 0, .nils, .nils, .nils], .agg [.str [66, 111, 111, 108], .int .i64 0, .nils, .nils, .list k_28 [.agg [.str [70, 97, 108, 115, 101], .int .i64 0, .nils], .agg [.str [84, 114, 117, 101], .int .i64 0, .nils]]]]
theorem pre1 : T 40 n_32 [] σe = some (.ret ⟨false, .arr k_19 6 0 3⟩, stP aS bS cS) := by kernel_rfl
theorem pre2 (a b c : List UInt8) : T 40 n_32 [] (stP a b c) = some (.ret ⟨false, .arr k_19 14 0 3⟩, stQ a b c) := by kernel_rfl
theorem pre3 (a b c : List UInt8) : T 40 n_298 [] (stQ a b c) = some (.ret ⟨true, dRef⟩, stQ a b c) := by kernel_rfl
def EL0 (d : D) : Env := { slots := [(0, ⟨false, d⟩), (6, ⟨false, .arr k_19 14 0 3⟩), (7, ⟨true, dRef⟩), (8, ⟨false, .int .i64 0⟩)], locs := [], boxes := [], defers := [] }
def EL1 (d : D) : Env := { slots := [(0, ⟨false, d⟩), (6, ⟨false, .arr k_19 14 0 3⟩), (7, ⟨true, dRef⟩), (8, ⟨false, .int .i64 3⟩), (26, ⟨false, .bool false⟩)], locs := [], boxes := [], defers := [] }
theorem loop0 (d : D) (a b c : List UInt8) : exec (T 40) 40 none (.loop a_263) (EL0 d) (stQ a b c) = some (.exit 0, EL1 d, stQ a b c) := by kernel_rfl
def bitOf (x : Int) : Bool := aro x 2 == 1
def bits (xs : List Int) (i : Nat) : List Bool := ((xs.take i).map bitOf).reverse
theorem zyq (xs : List Int) (i : Nat) (h : i < xs.length) : bits xs (i + 1) = bitOf xs[i] :: bits xs i := by
  unfold bits
  rw [← zqr xs i h, List.map_append, List.reverse_append]
  rfl
theorem zr8 (xs : List Int) (i : Nat) : (bits xs i).length ≤ i := by
  unfold bits
  simp
  omega
theorem zy6 : ∀ bs : List Bool, (tyB bs).ht ≤ bs.length + 2
  | [] => by simp [tyB, Tp.ht]
  | b :: l => by
    have := zy6 l
    simp only [tyB, arr1, Tp.ht, List.length_cons]
    omega
theorem zctb {k : RowK} (hk : k.sz = 1) {d : D} {xs : List Int} (h : zhx k d xs) (i : Nat) (hi : i < xs.length) : zdr 1 d i = some (.eptr (.int .i64 xs[i])) := by
  rcases h with rfl | ⟨rfl, rfl⟩
  · have hn : nth (xs.map fun x => D.int .i64 x) i = some (.int .i64 xs[i]) := by rw [zpr, zpq _ _ hi]; rfl
    simp only [zdr, hk, beq_self_eq_true, zay, hn]
    rfl
  · simp at hi
theorem zwn {k : RowK} {d : D} {xs : List Int} (h : zhx k d xs) : lenOf d = some xs.length := by
  rcases h with rfl | ⟨rfl, rfl⟩
  · simp [lenOf]
  · rfl
def EM (d : D) (t : Tp) (i : Nat) : Env := { slots := [(0, ⟨false, d⟩), (6, ⟨false, .arr k_19 14 0 3⟩), (10, ⟨false, .int .i64 i⟩)], locs := [(9, 9, 0)], boxes := [(9, [⟨false, .int .i64 t.form⟩, ⟨false, .int .i64 0⟩, ⟨false, .str t.name⟩, ⟨false, dlist k_1 (t.args.map dT)⟩])], defers := [] }
theorem pick2 (x : Int) : nth [D.str [73, 110, 116], D.str [66, 111, 111, 108]] (aro x 2) = some (.str (nm (bitOf x))) := by
  have h : aro x 2 < 2 := zyp x (by omega)
  unfold bitOf
  match h2 : aro x 2, h with
  | 0, _ => rfl
  | 1, _ => rfl
theorem natI (n : Nat) : D.nat? (.int .i64 (n : Int)) = some n := by
  simp only [D.nat?]
  have : (0 : Int) ≤ (n : Int) := by omega
  rw [decide_eq_true this]
  rfl
theorem zxk {d : D} {xs : List Int} (hd : zhx k_int d xs) (hs : ∀ x ∈ xs, Small x) (σ : Store) (i : Nat) (hi : i < xs.length) (h8 : i < 8) : exec (T 40) 40 none a_34 (EM d (tyB (bits xs i)) i) σ = some (.normal, EM d (tyB (bits xs (i + 1))) (i + 1), σ) := by
  have hl := zwn hd
  have hx := zctb (k := k_int) rfl hd i hi
  have ha := zn4 39 xs[i] 2 σ (hs _ (List.getElem_mem hi)) (by omega) (by omega)
  have hc := zsc 39 (nm (bitOf xs[i])) σ
  have hf := zb4b 33 (nm (bitOf xs[i])) (tyB (bits xs i)) σ (by have := zy6 (bits xs i); have := zr8 xs i; omega)
  have c1 : ((i : Int) < (xs.length : Int)) := by omega
  have c2 : ((i : Int) < 8) := by omega
  have hp := pick2 xs[i]
  have w := zm7 (i := i) (by omega)
  have e2 : ((2 : Nat) : Int) = 2 := rfl
  rw [e2] at ha
  have et : tyB (bits xs (i + 1)) = .app (.app (.con [45, 62]) (.con (nm (bitOf xs[i])))) (tyB (bits xs i)) := by rw [zyq xs i hi]; rfl
  rw [et]
  simp only [dT, dT_eq (tyB (bits xs i)), cT] at hc hf
  simp only [a_34, EM, sy0, sy1, sy2, sy3, sy4, sy5, sy6, zbh, zab, zaw, zay, clearEnv, adel, mem, zb1, zb4, stepOp, zcb, zbe, zcj, zci, evalV, addr, opd, opds, aget, aset, adel1, lkill, lfree, zbg, nth, Env.put, Env.putV, Env.box, Env.bare, zbz, zbt, binD, binBD, zco, zcu, zcv, unD, mmD, AOpd.drop, Cell.of, AOp.kind, stableOf, zb8, zck, eqlB, zcp, takeC, zbu, fits, zbk, zbf, putD, fillD, zce, optLo, optHi, zbq, Option.getD_some, Option.getD_none, runDefers, readRes, zb7, zb2, Nat.reduceAdd, Nat.reduceSub, Nat.reduceMul, Nat.reduceBEq, Nat.ble, Bool.false_and, Bool.true_and, Bool.and_true, Bool.and_false, Bool.or_true, Bool.true_or, Bool.or_false, Bool.false_or, Nat.zero_add, Nat.add_zero, beq_self_eq_true, Bool.true_beq, Bool.false_beq, Bool.not_true, Bool.not_false, decide_true, decide_false, bindO, List.map_cons, List.map_nil, List.length_cons, List.length_nil, List.append_nil, List.nil_append, List.cons_append, List.isEmpty_nil, List.isEmpty_cons, List.all_nil, List.all_cons, Nat.reduceLeDiff, Int.reduceBEq, Int.reduceBNe, Int.reduceLE, Int.reduceLT, Int.reduceGE, Int.reduceGT, Int.reduceNeg, Nat.le_refl, k_7, k_5, k_6, k_13, k_11, k_12, k_16, k_14, k_15, k_10, k_8, k_9, k_4, k_2, k_3, nat1, nat2, nat3, nat4, nat5, nat6, nat7, nat8, idxL, hl, hx, ha, hc, hf, c1, c2, hp, w, natI, zsn, zsw, zr5, dlist_cons', zeo, dT, dT_eq (tyB (bits xs i)), cT]
theorem zzh {d : D} {xs : List Int} (hd : zhx k_int d xs) (t : Tp) (σ : Store) (i : Nat) (hi : ¬ (i < xs.length ∧ i < 8)) : exec (T 40) 40 none a_34 (EM d t i) σ = some (.exit 2, { EM d t i with slots := [(0, ⟨false, d⟩), (6, ⟨false, .arr k_19 14 0 3⟩), (10, ⟨false, .int .i64 i⟩), (91, ⟨false, .bool false⟩)] }, σ) := by
  have hl := zwn hd
  by_cases h : i < xs.length
  · have c1 : ((i : Int) < (xs.length : Int)) := by omega
    have c2 : ¬ ((i : Int) < 8) := by omega
    simp only [a_34, EM, sy0, sy1, sy2, sy3, sy4, sy5, sy6, zbh, zab, zaw, zay, clearEnv, adel, mem, zb1, zb4, stepOp, zcb, zbe, zcj, zci, evalV, addr, opd, opds, aget, aset, adel1, lkill, lfree, zbg, nth, Env.put, Env.putV, Env.box, Env.bare, zbz, zbt, binD, binBD, zco, zcu, zcv, unD, mmD, AOpd.drop, Cell.of, AOp.kind, stableOf, zb8, zck, eqlB, zcp, takeC, zbu, fits, zbk, zbf, putD, fillD, zce, optLo, optHi, zbq, Option.getD_some, Option.getD_none, runDefers, readRes, zb7, zb2, Nat.reduceAdd, Nat.reduceSub, Nat.reduceMul, Nat.reduceBEq, Nat.ble, Bool.false_and, Bool.true_and, Bool.and_true, Bool.and_false, Bool.or_true, Bool.true_or, Bool.or_false, Bool.false_or, Nat.zero_add, Nat.add_zero, beq_self_eq_true, Bool.true_beq, Bool.false_beq, Bool.not_true, Bool.not_false, decide_true, decide_false, bindO, List.map_cons, List.map_nil, List.length_cons, List.length_nil, List.append_nil, List.nil_append, List.cons_append, List.isEmpty_nil, List.isEmpty_cons, List.all_nil, List.all_cons, Nat.reduceLeDiff, Int.reduceBEq, Int.reduceBNe, Int.reduceLE, Int.reduceLT, Int.reduceGE, Int.reduceGT, Int.reduceNeg, Nat.le_refl, k_7, k_5, k_6, k_13, k_11, k_12, k_16, k_14, k_15, k_10, k_8, k_9, k_4, k_2, k_3, nat1, nat2, nat3, nat4, nat5, nat6, nat7, nat8, idxL, hl, c1, c2]
  · have c1 : ¬ ((i : Int) < (xs.length : Int)) := by omega
    simp only [a_34, EM, sy0, sy1, sy2, sy3, sy4, sy5, sy6, zbh, zab, zaw, zay, clearEnv, adel, mem, zb1, zb4, stepOp, zcb, zbe, zcj, zci, evalV, addr, opd, opds, aget, aset, adel1, lkill, lfree, zbg, nth, Env.put, Env.putV, Env.box, Env.bare, zbz, zbt, binD, binBD, zco, zcu, zcv, unD, mmD, AOpd.drop, Cell.of, AOp.kind, stableOf, zb8, zck, eqlB, zcp, takeC, zbu, fits, zbk, zbf, putD, fillD, zce, optLo, optHi, zbq, Option.getD_some, Option.getD_none, runDefers, readRes, zb7, zb2, Nat.reduceAdd, Nat.reduceSub, Nat.reduceMul, Nat.reduceBEq, Nat.ble, Bool.false_and, Bool.true_and, Bool.and_true, Bool.and_false, Bool.or_true, Bool.true_or, Bool.or_false, Bool.false_or, Nat.zero_add, Nat.add_zero, beq_self_eq_true, Bool.true_beq, Bool.false_beq, Bool.not_true, Bool.not_false, decide_true, decide_false, bindO, List.map_cons, List.map_nil, List.length_cons, List.length_nil, List.append_nil, List.nil_append, List.cons_append, List.isEmpty_nil, List.isEmpty_cons, List.all_nil, List.all_cons, Nat.reduceLeDiff, Int.reduceBEq, Int.reduceBNe, Int.reduceLE, Int.reduceLT, Int.reduceGE, Int.reduceGT, Int.reduceNeg, Nat.le_refl, k_7, k_5, k_6, k_13, k_11, k_12, k_16, k_14, k_15, k_10, k_8, k_9, k_4, k_2, k_3, nat1, nat2, nat3, nat4, nat5, nat6, nat7, nat8, idxL, hl, c1]
theorem zli {d : D} {xs : List Int} (hd : zhx k_int d xs) (hs : ∀ x ∈ xs, Small x) (σ : Store) : ∃ (k : Nat) (bs : List Bool), bs.length ≤ 8 ∧ loopN (exec (T 40) 40 none a_34) 40 (EM d (.con bS) 0) σ = some (.exit 2, { EM d (tyB bs) k with slots := [(0, ⟨false, d⟩), (6, ⟨false, .arr k_19 14 0 3⟩), (10, ⟨false, .int .i64 k⟩), (91, ⟨false, .bool false⟩)] }, σ) :=
  ⟨min xs.length 8, bits xs (min xs.length 8), Nat.le_trans (zr8 _ _) (Nat.min_le_right ..), zlj (body := exec (T 40) 40 none a_34) (fun i => EM d (tyB (bits xs i)) i) (fun _ => σ) (min xs.length 8) (r := _) (fun _ _ h => by cases h) (fun i hi => zxk hd hs σ i (by omega) (by omega)) (zzh hd _ σ _ (by omega)) 0 40 (by omega) (by omega)⟩
theorem zuu {d : D} {xs : List Int} (n : Int) (hd : zhx k_int d xs) (hs : ∀ x ∈ xs, Small x) (hn : Small n) : ∃ σ1, T 41 n_457 [d, .int .i64 n] σe = some (.ret ⟨false, .bool true⟩, σ1) := by
  have h1 := pre1
  have hc : ∀ σ, T 40 n_53 [.str [73, 110, 116]] σ = some (.ret ⟨false, dT (.con bS)⟩, σ) := fun σ => zsc 39 bS σ
  have ha := zn4 39 n 3 (stP aS bS cS) hn (by omega) (by omega)
  have e3 : ((3 : Nat) : Int) = 3 := rfl
  have e2 : ((2 : Nat) : Int) = 2 := rfl
  rw [e3] at ha
  have hlt : aro n 3 < 3 := zyp n (by omega)
  have hP : aget (stP aS bS cS).objs 6 = some (cK aS bS cS 0 2 4) := rfl
  have hcl : (cK aS bS cS 0 2 4).length = 15 := rfl
  have hix : ∀ i : Nat, i < 3 → zdr 5 (.arr k_19 6 0 3) i = some (.ptr 6 ((0 + i) * 5)) := fun i hi => by
    simp only [zdr, decide_eq_true hi]
    rfl
  have hl3 : ∀ i, lenOf (.arr k_19 i 0 3) = some 3 := fun _ => rfl
  have hx2 : zdr 5 (.arr k_19 14 0 3) 2 = some (.ptr 14 10) := rfl
  have hn14 : nth (cK aS bS cS 8 10 12) 14 = some ⟨false, .arr k_28 12 0 2⟩ := rfl
  have hx0 : zdr 3 (.arr k_28 12 0 2) 0 = some (.ptr 12 0) := rfl
  have hx1 : zdr 3 (.arr k_28 12 0 2) 1 = some (.ptr 12 3) := rfl
  have hn0 : nth cC 0 = some ⟨false, .str [70, 97, 108, 115, 101]⟩ := rfl
  have hn3 : nth cC 3 = some ⟨false, .str [84, 114, 117, 101]⟩ := rfl
  have n0 : (D.int IntKind.i64 0).nat? = some 0 := rfl
  have hlv := fun σ => zbzb 39 σ
  rw [T_fun (af := a_38) rfl rfl]
  match h3 : aro n 3, hlt with
  | 0, _ =>
    rw [h3] at ha
    obtain ⟨k, bs, hb, hl⟩ := zli hd hs (stQ [120] bS cS)
    have h2 := pre2 [120] bS cS
    have h4 := pre3 [120] bS cS
    have h5 := loop0 d [120] bS cS
    have hi := hix 0 (by omega)
    have hst := zr4 39 bs hb (stQ [120] bS cS)
    have hput : ({ objs := aset (stP aS bS cS).objs 6 (zbf (cK aS bS cS 0 2 4) 0 [⟨false, .str [120]⟩]), tys := (stP aS bS cS).tys, oth := (stP aS bS cS).oth, next := (stP aS bS cS).next } : Store) = stP [120] bS cS := rfl
    have hQ : aget (stQ [120] bS cS).objs 14 = some (cK aS bS cS 8 10 12) := rfl
    have hR : aget (stQ [120] bS cS).objs 12 = some cC := rfl
    have ee : ((0 : Nat) : Int) = 0 := rfl
    rw [ee] at ha
    simp only [EL0, EL1] at h5
    simp only [EM, znb, znf, zm9, List.map_nil, zeo, zeroI] at hl
    simp only [dT_eq (tyB bs), cT] at hst
    refine ⟨stQ [120] bS cS, ?_⟩
    simp only [a_38, sy0, sy1, sy2, sy3, sy4, sy5, sy6, zbh, zab, zaw, zay, clearEnv, adel, mem, zb1, zb4, stepOp, zcb, zbe, zcj, zci, evalV, addr, opd, opds, aget, aset, adel1, lkill, lfree, zbg, nth, Env.put, Env.putV, Env.box, Env.bare, zbz, zbt, binD, binBD, zco, zcu, zcv, unD, mmD, AOpd.drop, Cell.of, AOp.kind, stableOf, zb8, zck, eqlB, zcp, takeC, zbu, fits, zbk, zbf, putD, fillD, zce, optLo, optHi, zbq, Option.getD_some, Option.getD_none, runDefers, readRes, zb7, zb2, Nat.reduceAdd, Nat.reduceSub, Nat.reduceMul, Nat.reduceBEq, Nat.ble, Bool.false_and, Bool.true_and, Bool.and_true, Bool.and_false, Bool.or_true, Bool.true_or, Bool.or_false, Bool.false_or, Nat.zero_add, Nat.add_zero, beq_self_eq_true, Bool.true_beq, Bool.false_beq, Bool.not_true, Bool.not_false, decide_true, decide_false, bindO, List.map_cons, List.map_nil, List.length_cons, List.length_nil, List.append_nil, List.nil_append, List.cons_append, List.isEmpty_nil, List.isEmpty_cons, List.all_nil, List.all_cons, Nat.reduceLeDiff, Int.reduceBEq, Int.reduceBNe, Int.reduceLE, Int.reduceLT, Int.reduceGE, Int.reduceGT, Int.reduceNeg, Nat.le_refl, k_7, k_5, k_6, k_13, k_11, k_12, k_16, k_14, k_15, k_10, k_8, k_9, k_4, k_2, k_3, nat1, nat2, nat3, nat4, nat5, nat6, nat7, nat8, idxL, h1, ha, hP, hi, hl3, hcl, hput, e3, e2, oneI, h2, h4, h5, hc, dT, hl, hst, hQ, hR, hx2, hn14, hx0, hx1, hn0, hn3, hlv, n0]
  | 1, _ =>
    rw [h3] at ha
    obtain ⟨k, bs, hb, hl⟩ := zli hd hs (stQ aS [120] cS)
    have h2 := pre2 aS [120] cS
    have h4 := pre3 aS [120] cS
    have h5 := loop0 d aS [120] cS
    have hi := hix 1 (by omega)
    have hst := zr4 39 bs hb (stQ aS [120] cS)
    have hput : ({ objs := aset (stP aS bS cS).objs 6 (zbf (cK aS bS cS 0 2 4) 5 [⟨false, .str [120]⟩]), tys := (stP aS bS cS).tys, oth := (stP aS bS cS).oth, next := (stP aS bS cS).next } : Store) = stP aS [120] cS := rfl
    have hQ : aget (stQ aS [120] cS).objs 14 = some (cK aS bS cS 8 10 12) := rfl
    have hR : aget (stQ aS [120] cS).objs 12 = some cC := rfl
    have ee : ((1 : Nat) : Int) = 1 := rfl
    rw [ee] at ha
    simp only [EL0, EL1] at h5
    simp only [EM, znb, znf, zm9, List.map_nil, zeo, zeroI] at hl
    simp only [dT_eq (tyB bs), cT] at hst
    refine ⟨stQ aS [120] cS, ?_⟩
    simp only [a_38, sy0, sy1, sy2, sy3, sy4, sy5, sy6, zbh, zab, zaw, zay, clearEnv, adel, mem, zb1, zb4, stepOp, zcb, zbe, zcj, zci, evalV, addr, opd, opds, aget, aset, adel1, lkill, lfree, zbg, nth, Env.put, Env.putV, Env.box, Env.bare, zbz, zbt, binD, binBD, zco, zcu, zcv, unD, mmD, AOpd.drop, Cell.of, AOp.kind, stableOf, zb8, zck, eqlB, zcp, takeC, zbu, fits, zbk, zbf, putD, fillD, zce, optLo, optHi, zbq, Option.getD_some, Option.getD_none, runDefers, readRes, zb7, zb2, Nat.reduceAdd, Nat.reduceSub, Nat.reduceMul, Nat.reduceBEq, Nat.ble, Bool.false_and, Bool.true_and, Bool.and_true, Bool.and_false, Bool.or_true, Bool.true_or, Bool.or_false, Bool.false_or, Nat.zero_add, Nat.add_zero, beq_self_eq_true, Bool.true_beq, Bool.false_beq, Bool.not_true, Bool.not_false, decide_true, decide_false, bindO, List.map_cons, List.map_nil, List.length_cons, List.length_nil, List.append_nil, List.nil_append, List.cons_append, List.isEmpty_nil, List.isEmpty_cons, List.all_nil, List.all_cons, Nat.reduceLeDiff, Int.reduceBEq, Int.reduceBNe, Int.reduceLE, Int.reduceLT, Int.reduceGE, Int.reduceGT, Int.reduceNeg, Nat.le_refl, k_7, k_5, k_6, k_13, k_11, k_12, k_16, k_14, k_15, k_10, k_8, k_9, k_4, k_2, k_3, nat1, nat2, nat3, nat4, nat5, nat6, nat7, nat8, idxL, h1, ha, hP, hi, hl3, hcl, hput, e3, e2, oneI, h2, h4, h5, hc, dT, hl, hst, hQ, hR, hx2, hn14, hx0, hx1, hn0, hn3, hlv, n0]
  | 2, _ =>
    rw [h3] at ha
    obtain ⟨k, bs, hb, hl⟩ := zli hd hs (stQ aS bS [120])
    have h2 := pre2 aS bS [120]
    have h4 := pre3 aS bS [120]
    have h5 := loop0 d aS bS [120]
    have hi := hix 2 (by omega)
    have hst := zr4 39 bs hb (stQ aS bS [120])
    have hput : ({ objs := aset (stP aS bS cS).objs 6 (zbf (cK aS bS cS 0 2 4) 10 [⟨false, .str [120]⟩]), tys := (stP aS bS cS).tys, oth := (stP aS bS cS).oth, next := (stP aS bS cS).next } : Store) = stP aS bS [120] := rfl
    have hQ : aget (stQ aS bS [120]).objs 14 = some (cK aS bS cS 8 10 12) := rfl
    have hR : aget (stQ aS bS [120]).objs 12 = some cC := rfl
    have ee : ((2 : Nat) : Int) = 2 := rfl
    rw [ee] at ha
    simp only [EL0, EL1] at h5
    simp only [EM, znb, znf, zm9, List.map_nil, zeo, zeroI] at hl
    simp only [dT_eq (tyB bs), cT] at hst
    refine ⟨stQ aS bS [120], ?_⟩
    simp only [a_38, sy0, sy1, sy2, sy3, sy4, sy5, sy6, zbh, zab, zaw, zay, clearEnv, adel, mem, zb1, zb4, stepOp, zcb, zbe, zcj, zci, evalV, addr, opd, opds, aget, aset, adel1, lkill, lfree, zbg, nth, Env.put, Env.putV, Env.box, Env.bare, zbz, zbt, binD, binBD, zco, zcu, zcv, unD, mmD, AOpd.drop, Cell.of, AOp.kind, stableOf, zb8, zck, eqlB, zcp, takeC, zbu, fits, zbk, zbf, putD, fillD, zce, optLo, optHi, zbq, Option.getD_some, Option.getD_none, runDefers, readRes, zb7, zb2, Nat.reduceAdd, Nat.reduceSub, Nat.reduceMul, Nat.reduceBEq, Nat.ble, Bool.false_and, Bool.true_and, Bool.and_true, Bool.and_false, Bool.or_true, Bool.true_or, Bool.or_false, Bool.false_or, Nat.zero_add, Nat.add_zero, beq_self_eq_true, Bool.true_beq, Bool.false_beq, Bool.not_true, Bool.not_false, decide_true, decide_false, bindO, List.map_cons, List.map_nil, List.length_cons, List.length_nil, List.append_nil, List.nil_append, List.cons_append, List.isEmpty_nil, List.isEmpty_cons, List.all_nil, List.all_cons, Nat.reduceLeDiff, Int.reduceBEq, Int.reduceBNe, Int.reduceLE, Int.reduceLT, Int.reduceGE, Int.reduceGT, Int.reduceNeg, Nat.le_refl, k_7, k_5, k_6, k_13, k_11, k_12, k_16, k_14, k_15, k_10, k_8, k_9, k_4, k_2, k_3, nat1, nat2, nat3, nat4, nat5, nat6, nat7, nat8, idxL, h1, ha, hP, hi, hl3, hcl, hput, e3, e2, oneI, h2, h4, h5, hc, dT, hl, hst, hQ, hR, hx2, hn14, hx0, hx1, hn0, hn3, hlv, n0]
end Go.Fu

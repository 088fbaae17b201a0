/-
  Kinds are made, whatever the numbers.
-/
import Derived.Test.YtkgdpcnobfadaaaGreatDoorFnY3
import Derived.Test.YtkgdpcnobfadaaaGreatDoorFnN1
set_option linter.unusedSimpArgs false
set_option linter.unusedVariables false
namespace Go.Fu
open Go Go.Mx
set_option maxRecDepth 10000
def OkK (es : List D) : Prop := ∀ e ∈ es, e.ok = true ∧ e.cells.length = 1
def KOK (deep : Nat) (d : D) (xs : List Int) : Prop := ∃ es d' xs', OkK es ∧ es.length ≤ 2 ∧ Row d' xs' ∧ zbj xs' ∧ Evly fun n => ∀ σ, T n n_163 [d, .int .i64 deep] σ = some (.ret ⟨false, .tup [.agg [dlist k_4 es], d']⟩, σ)
section
variable {C : CallF} {n : Nat} {σ : Store}
def Ek (d : D) (deep q i : Nat) (es : List D) : Env := { slots := [(0, ⟨false, d⟩), (1, ⟨false, .int .i64 deep⟩), (7, ⟨false, .int .i64 q⟩), (8, ⟨false, .int .i64 i⟩)], locs := [(4, 4, 0), (6, 6, 0)], boxes := [(4, [⟨false, .nils⟩]), (6, [⟨ow es.length, dlist k_4 es⟩])], defers := [] }
def Eke (d : D) (deep q i : Nat) (es : List D) : Env := { slots := [(0, ⟨false, d⟩), (1, ⟨false, .int .i64 deep⟩), (7, ⟨false, .int .i64 q⟩), (8, ⟨false, .int .i64 i⟩), (30, ⟨false, .bool false⟩)], locs := [(4, 4, 0), (6, 6, 0)], boxes := [(4, [⟨false, .nils⟩]), (6, [⟨ow es.length, dlist k_4 es⟩])], defers := [] }
theorem zi1 (es : List D) : (D.agg [dlist k_4 es]).ok = true ∧ (D.agg [dlist k_4 es]).cells.length = 1 := by
  constructor
  · simp only [D.ok, List.all_cons, zdr, List.all_nil, Bool.and_self]
  · rfl
theorem zgtb (d d2 : D) (deep q i : Nat) (es es2 : List D) (hi : i < q) (hq : q ≤ 2) (hdp : deep < 100) (hes : es.length = i) (hc : C n_163 [d, .int .i64 (deep + 1 : Nat)] σ = some (.ret ⟨false, .tup [.agg [dlist k_4 es2], d2]⟩, σ)) :
    exec C n a_73 (Ek d deep q i es) σ = some (.normal, Ek d2 deep q (i + 1) (es ++ [.agg [dlist k_4 es2]]), σ) := by
  have h1 : ((i : Int) < (q : Int)) := by omega
  have w1 := zam (i := deep) (by omega)
  have w2 := zam (i := i) (by omega)
  have ha := zfd (r := k_4) (by_ := 24) (es := es) (o := ow es.length) (y := .agg [dlist k_4 es2]) (by cases es with
    | nil => intro h; exact absurd rfl h
    | cons x r => intro _; rfl) (zi1 es2).1 (zi1 es2).2 (by simp [bound]; omega) (by simp [bound]; omega)
  have how : ow (es ++ [D.agg [dlist k_4 es2]]).length = true := by simp [zcc]
  simp only [a_73, Ek, de0, de1, de2, szQ, szB, szL, sy0, sy1, sy2, sy3, sy4, sy5, zad, zaa, zac, zae, adel, zah, zag, zai, zaf, evalV, aget, aset, adel1, nth, AOp.kind, Nat.reduceAdd, Nat.reduceSub, Nat.reduceMul, Nat.reduceBEq, Nat.ble, bindO, Nat.reduceLeDiff, Int.reduceBEq, Int.reduceBNe, Int.reduceLE, Int.reduceLT, Int.reduceGE, Int.reduceGT, Int.reduceNeg, ks, h1, w1, w2, hc, ha, how]
theorem zhub (d : D) (deep q : Nat) (es : List D) : exec C n a_73 (Ek d deep q q es) σ = some (.exit 0, Eke d deep q q es, σ) := by
  have h1 : ¬ ((q : Int) < (q : Int)) := by omega
  simp only [a_73, Ek, Eke, de0, de1, de2, szQ, szB, szL, sy0, sy1, sy2, sy3, sy4, sy5, zad, zaa, zac, zae, adel, zah, zag, zai, zaf, evalV, aget, aset, adel1, nth, AOp.kind, Nat.reduceAdd, Nat.reduceSub, Nat.reduceMul, Nat.reduceBEq, Nat.ble, bindO, Nat.reduceLeDiff, Int.reduceBEq, Int.reduceBNe, Int.reduceLE, Int.reduceLT, Int.reduceGE, Int.reduceGT, Int.reduceNeg, ks, h1]
end
theorem zekb {es : List D} (h : OkK es) (es2 : List D) : OkK (es ++ [.agg [dlist k_4 es2]]) := by
  intro e he
  rcases List.mem_append.1 he with he | he
  · exact h e he
  · rw [List.mem_singleton.1 he]; exact zi1 es2
theorem zk8 (deep q : Nat) (hq : q ≤ 2) (hdp : deep < 100) (H : ∀ d xs, Row d xs → zbj xs → KOK (deep + 1) d xs) : ∀ (c i : Nat) (d : D) (xs : List Int) (es : List D), i + c = q → Row d xs → zbj xs → OkK es → es.length = i →
    ∃ d' xs' es', Row d' xs' ∧ zbj xs' ∧ OkK es' ∧ es'.length ≤ 2 ∧ Evly fun m => ∀ k σ, c + 1 ≤ k → loopN (exec (T m) m a_73) k (Ek d deep q i es) σ = some (.exit 0, Eke d' deep q q es', σ)
  | 0, i, d, xs, es, hc, hR, hS, hK, hl => ⟨d, xs, es, hR, hS, hK, by omega, .all fun m k σ hk => by
    obtain ⟨k, rfl⟩ : ∃ j, k = j + 1 := ⟨k - 1, by omega⟩
    have : i = q := by omega
    subst this
    exact za7 (zhub d deep i es)⟩
  | c + 1, i, d, xs, es, hc, hR, hS, hK, hl => by
    obtain ⟨es2, d2, xs2, hK2, _, hR2, hS2, h2⟩ := H d xs hR hS
    obtain ⟨d', xs', es', hR', hS', hK', hl', hrest⟩ := zk8 deep q hq hdp H c (i + 1) d2 xs2 _ (by omega) hR2 hS2 (zekb hK es2) (by simp; omega)
    refine ⟨d', xs', es', hR', hS', hK', hl', (hrest.and h2).mono fun m h k σ hk => ?_⟩
    obtain ⟨k, rfl⟩ : ∃ j, k = j + 1 := ⟨k - 1, by omega⟩
    rw [zb4 (zgtb d d2 deep q i es es2 (by omega) hq hdp hl (h.2 σ))]
    exact h.1 k σ (by omega)
theorem zrx : ∀ (r deep : Nat), deep + r = 4 → ∀ d xs, Row d xs → zbj xs → KOK deep d xs
  | _, deep, hr, d, [], hR, hS => by
    refine ⟨[], d, [], (fun e he => by cases he), by simp, hR, hS, any _ fun n σ => ?_⟩
    have hl := zda hR
    rw [T_fun (af := a_26) rfl rfl]
    simp only [List.length_nil] at hl
    simp only [a_26, de0, de1, de2, szQ, szB, szL, sy0, sy1, sy2, sy3, sy4, sy5, zad, zaa, zac, zae, adel, zah, zag, zai, zaf, evalV, aget, aset, adel1, nth, AOp.kind, Nat.reduceAdd, Nat.reduceSub, Nat.reduceMul, Nat.reduceBEq, Nat.ble, bindO, Nat.reduceLeDiff, Int.reduceBEq, Int.reduceBNe, Int.reduceLE, Int.reduceLT, Int.reduceGE, Int.reduceGT, Int.reduceNeg, ks, hl, lz, zcv]
  | 0, deep, hr, d, x :: xs, hR, hS => by
    refine ⟨[], d, _, (fun e he => by cases he), by simp, hR, hS, any _ fun n σ => ?_⟩
    have hl := zda hR
    have hdp : (deep : Int) > 3 := by omega
    have hne : ((((x :: xs).length : Nat) : Int) == 0) = false := by simp; omega
    rw [T_fun (af := a_26) rfl rfl]
    generalize (x :: xs).length = l at hl hne
    simp only [a_26, de0, de1, de2, szQ, szB, szL, sy0, sy1, sy2, sy3, sy4, sy5, zad, zaa, zac, zae, adel, zah, zag, zai, zaf, evalV, aget, aset, adel1, nth, AOp.kind, Nat.reduceAdd, Nat.reduceSub, Nat.reduceMul, Nat.reduceBEq, Nat.ble, bindO, Nat.reduceLeDiff, Int.reduceBEq, Int.reduceBNe, Int.reduceLE, Int.reduceLT, Int.reduceGE, Int.reduceGT, Int.reduceNeg, ks, hl, hdp, hne, zcv]
  | r + 1, deep, hr, d, x :: xs, hR, hS => by
    obtain ⟨d1, hs, hR1⟩ := zhu hR
    have hS1 : zbj xs := fun y hy => hS y (List.mem_cons_of_mem _ hy)
    have hl := zda hR
    have hx := zl0 hR 0 (by simp)
    simp only [List.getElem_cons_zero] at hx
    have hpick : Evly fun n => ∀ σ, T n n_5 [.int .i64 x, .int .i64 4] σ = some (.ret ⟨false, .int .i64 (aro x 4)⟩, σ) := zd0.mono fun n h σ => h x 4 4 σ (hS x (by simp)) rfl (by omega) (by omega)
    have hn := zf9 x (m := 4) (by omega)
    generalize aro x 4 = n at hpick hn
    have hdp : ¬ ((deep : Int) > 3) := by omega
    have hne : ((((x :: xs).length : Nat) : Int) == 0) = false := by simp; omega
    generalize (x :: xs).length = l at hl hne
    have H : ∀ d xs, Row d xs → zbj xs → KOK (deep + 1) d xs := fun d xs h1 h2 => zrx r (deep + 1) (by omega) d xs h1 h2
    by_cases h3 : n ≤ 2
    · obtain ⟨d', xs', es', hR', hS', hK', hl', hloop⟩ := zk8 deep n h3 (by omega) H n 0 d1 xs [] (by omega) hR1 hS1 (fun e he => by cases he) rfl
      refine ⟨es', d', xs', hK', hl', hR', hS', (hpick.and hloop).step 4 fun m hm h σ => ?_⟩
      have e1 := h.1 σ
      have e2 := h.2 m σ (by omega)
      have hn2 : ¬ ((n : Int) > 2) := by omega
      rw [T_fun (af := a_26) rfl rfl]
      simp only [Ek, Eke, zcv, List.length_nil, zcp, zeroI] at e2
      simp only [a_26, de0, de1, de2, szQ, szB, szL, sy0, sy1, sy2, sy3, sy4, sy5, zad, zaa, zac, zae, adel, zah, zag, zai, zaf, evalV, aget, aset, adel1, nth, AOp.kind, Nat.reduceAdd, Nat.reduceSub, Nat.reduceMul, Nat.reduceBEq, Nat.ble, bindO, Nat.reduceLeDiff, Int.reduceBEq, Int.reduceBNe, Int.reduceLE, Int.reduceLT, Int.reduceGE, Int.reduceGT, Int.reduceNeg, ks, hl, hx, hs, e1, e2, hne, hdp, hn2]
    · obtain ⟨d', xs', es', hR', hS', hK', hl', hloop⟩ := zk8 deep 0 (by omega) (by omega) H 0 0 d1 xs [] (by omega) hR1 hS1 (fun e he => by cases he) rfl
      refine ⟨es', d', xs', hK', hl', hR', hS', (hpick.and hloop).step 4 fun m hm h σ => ?_⟩
      have e1 := h.1 σ
      have e2 := h.2 m σ (by omega)
      have hn2 : ((n : Int) > 2) := by omega
      rw [T_fun (af := a_26) rfl rfl]
      simp only [Ek, Eke, zcv, List.length_nil, zcp, zeroI] at e2
      simp only [a_26, de0, de1, de2, szQ, szB, szL, sy0, sy1, sy2, sy3, sy4, sy5, zad, zaa, zac, zae, adel, zah, zag, zai, zaf, evalV, aget, aset, adel1, nth, AOp.kind, Nat.reduceAdd, Nat.reduceSub, Nat.reduceMul, Nat.reduceBEq, Nat.ble, bindO, Nat.reduceLeDiff, Int.reduceBEq, Int.reduceBNe, Int.reduceLE, Int.reduceLT, Int.reduceGE, Int.reduceGT, Int.reduceNeg, ks, hl, hx, hs, e1, e2, hne, hdp, hn2]
theorem zcwb (d : D) (xs : List Int) (hR : Row d xs) (hS : zbj xs) : ∃ es, Evly fun n => ∀ σ, T n n_110 [d] σ = some (.ret ⟨false, .agg [dlist k_4 es]⟩, σ) := by
  obtain ⟨d1, hR1, o, h1⟩ := zj1 d xs 12 hR (by omega)
  obtain ⟨es, d2, xs2, _, _, _, _, h2⟩ := zrx 4 0 (by omega) d1 _ hR1 (zf7 hS 12)
  refine ⟨es, (h1.and h2).step 0 fun m _ h σ => ?_⟩
  have e1 := h.1 σ
  have e2 := h.2 σ
  rw [T_fun (af := a_123) rfl rfl]
  have l12 : ((12 : Nat) : Int) = 12 := rfl
  simp only [l12, zeroI] at e1 e2 ⊢
  simp only [a_123, de0, de1, de2, szQ, szB, szL, sy0, sy1, sy2, sy3, sy4, sy5, zad, zaa, zac, zae, adel, zah, zag, zai, zaf, evalV, aget, aset, adel1, nth, AOp.kind, Nat.reduceAdd, Nat.reduceSub, Nat.reduceMul, Nat.reduceBEq, Nat.ble, bindO, Nat.reduceLeDiff, Int.reduceBEq, Int.reduceBNe, Int.reduceLE, Int.reduceLT, Int.reduceGE, Int.reduceGT, Int.reduceNeg, ks, e1, e2]
end Go.Fu
namespace Go.Fu
open Go Go.Mx
set_option maxRecDepth 10000
def vnS (n : Nat) : List UInt8 := match n with
  | 0 => [97]
  | 1 => [98]
  | 2 => [99]
  | 3 => [120]
  | _ => [102]
theorem zb8b (n : Nat) : nth [D.str [97], D.str [98], D.str [99], D.str [120], D.str [102]] (n % 5) = some (.str (vnS (n % 5))) := by
  have hk : n % 5 = 0 ∨ n % 5 = 1 ∨ n % 5 = 2 ∨ n % 5 = 3 ∨ n % 5 = 4 := by omega
  rcases hk with hk | hk | hk | hk | hk <;> rw [hk] <;> rfl
def vnL (a : Nat) : Nat → List (List UInt8)
  | 0 => []
  | i + 1 => vnL a i ++ [vnS ((i + a) % 5)]
theorem zjf (a : Nat) : ∀ i, (vnL a i).length = i
  | 0 => rfl
  | i + 1 => by simp [vnL, zjf a i]
theorem zifb (n : Nat) : okV (vnS n) = true := by
  unfold vnS
  split <;> rfl
theorem ztf (a : Nat) : ∀ q, ∀ v ∈ vnL a q, okV v = true
  | 0, v, h => by simp [vnL] at h
  | i + 1, v, h => by
    simp only [vnL, List.mem_append, List.mem_singleton] at h
    rcases h with h | rfl
    · exact ztf a i v h
    · exact zifb _
def kdL (K : Nat → List D) : Nat → List D
  | 0 => []
  | i + 1 => kdL K i ++ [.agg [dlist k_4 (K i)]]
theorem zwe (K : Nat → List D) : ∀ i, (kdL K i).length = i
  | 0 => rfl
  | i + 1 => by simp [kdL, zwe K i]
theorem zj9 (z : Int) : Small (IntKind.i64.wrap z) := by
  unfold Small
  rw [IntKind.wrap_i64]
  omega
theorem zym {x : Int} (h : Small x) (m : Nat) : Small (x.tdiv (m : Int)) := by
  unfold Small at *
  by_cases h0 : 0 ≤ x
  · rw [Int.tdiv_eq_ediv_of_nonneg h0]
    have e1 := Int.ediv_le_self (m : Int) h0
    have e2 := Int.ediv_nonneg h0 (show (0 : Int) ≤ m by omega)
    generalize x / (m : Int) = y at *
    omega
  · obtain ⟨y, rfl⟩ : ∃ y, x = -y := ⟨-x, by omega⟩
    have hy : 0 ≤ y := by omega
    rw [Int.neg_tdiv, Int.tdiv_eq_ediv_of_nonneg hy]
    have e1 := Int.ediv_le_self (m : Int) hy
    have e2 := Int.ediv_nonneg hy (show (0 : Int) ≤ m by omega)
    generalize y / (m : Int) = z at *
    omega
section
variable {C : CallF} {n : Nat} {σ : Store}
def bM (vs : List (List UInt8)) (kd : List D) (ps : List Pr) (t : Tp) : List Cell := ⟨ow vs.length, dlist k_0 (vs.map D.str)⟩ :: ⟨ow kd.length, dlist k_4 kd⟩ :: ⟨false, dlist k_1 (ps.map dP)⟩ :: bT t
def b0 : List Cell := [⟨false, .nils⟩, ⟨false, .nils⟩, ⟨false, .nils⟩, ⟨false, .int .i64 0⟩, ⟨false, .int .i64 0⟩, ⟨false, .str []⟩, ⟨false, .nils⟩]
def Em (x : Int) (q i : Nat) (vs : List (List UInt8)) (kd : List D) (ps : List Pr) (t : Tp) : Env := { slots := [(2, ⟨false, .int .i64 x⟩), (8, ⟨false, .int .i64 q⟩), (9, ⟨false, .int .i64 i⟩)], locs := [(6, 6, 0), (7, 7, 0)], boxes := [(6, b0), (7, bM vs kd ps t)], defers := [] }
def Eme (x : Int) (q i : Nat) (vs : List (List UInt8)) (kd : List D) (ps : List Pr) (t : Tp) : Env := { slots := [(2, ⟨false, .int .i64 x⟩), (8, ⟨false, .int .i64 q⟩), (9, ⟨false, .int .i64 i⟩), (26, ⟨false, .bool false⟩)], locs := [(6, 6, 0), (7, 7, 0)], boxes := [(6, b0), (7, bM vs kd ps t)], defers := [] }
theorem zasb (x : Int) (q : Nat) (vs : List (List UInt8)) (kd : List D) (ps : List Pr) (t : Tp) : exec C n a_27 (Em x q q vs kd ps t) σ = some (.exit 0, Eme x q q vs kd ps t, σ) := by
  have h1 : ¬ ((q : Int) < (q : Int)) := by omega
  simp only [a_27, Em, Eme, bM, b0, bT, de0, de1, de2, szQ, szB, szL, sy0, sy1, sy2, sy3, sy4, sy5, zad, zaa, zac, zae, adel, zah, zag, zai, zaf, evalV, aget, aset, adel1, nth, AOp.kind, Nat.reduceAdd, Nat.reduceSub, Nat.reduceMul, Nat.reduceBEq, Nat.ble, bindO, Nat.reduceLeDiff, Int.reduceBEq, Int.reduceBNe, Int.reduceLE, Int.reduceLT, Int.reduceGE, Int.reduceGT, Int.reduceNeg, ks, h1]
theorem zd9b (x : Int) (q i a b : Nat) (vs : List (List UInt8)) (kd : List D) (ps : List Pr) (t : Tp) (hi : i < q) (hq : q < 100) (ha : a < 100) (hv : vs.length = i) (hb : b ≠ 1)
    (w18 : IntKind.i64.wrap (x.tdiv 18) = x.tdiv 18) (w90 : IntKind.i64.wrap (x.tdiv 90) = x.tdiv 90)
    (hc1 : C n_5 [.int .i64 (x.tdiv 18), .int .i64 5] σ = some (.ret ⟨false, .int .i64 a⟩, σ)) (hc2 : C n_5 [.int .i64 (x.tdiv 90), .int .i64 2] σ = some (.ret ⟨false, .int .i64 b⟩, σ)) :
    exec C n a_27 (Em x q i vs kd ps t) σ = some (.normal, Em x q (i + 1) (vs ++ [vnS ((i + a) % 5)]) kd ps t, σ) := by
  have h1 : ((i : Int) < (q : Int)) := by omega
  have w1 := zam (i := i) (by omega)
  have w2 : IntKind.i64.wrap ((i : Int) + (a : Int)) = ((i + a : Nat) : Int) := by rw [zbc (by omega) (by omega)]; omega
  have w3 : (((i + a : Nat) : Int)).tmod 5 = (((i + a) % 5 : Nat) : Int) := tmodN _ 5
  have hx := zb8b (i + a)
  have hap := zfo vs (vnS ((i + a) % 5)) (ow vs.length) (by cases vs with
    | nil => intro h; exact absurd rfl h
    | cons x r => intro _; rfl) (by omega)
  have how : ow (vs ++ [vnS ((i + a) % 5)]).length = true := by simp [zcc]
  have hb1 : (((b : Nat) : Int) == 1) = false := by simp; omega
  simp only [a_27, Em, bM, b0, bT, de0, de1, de2, szQ, szB, szL, sy0, sy1, sy2, sy3, sy4, sy5, zad, zaa, zac, zae, adel, zah, zag, zai, zaf, evalV, aget, aset, adel1, nth, AOp.kind, Nat.reduceAdd, Nat.reduceSub, Nat.reduceMul, Nat.reduceBEq, Nat.ble, bindO, Nat.reduceLeDiff, Int.reduceBEq, Int.reduceBNe, Int.reduceLE, Int.reduceLT, Int.reduceGE, Int.reduceGT, Int.reduceNeg, ks, h1, w1, w2, w3, w18, w90, hc1, hc2, hx, hap, how, hb1]
theorem zgvb (x : Int) (q i a : Nat) (vs : List (List UInt8)) (kd : List D) (ps : List Pr) (t : Tp) (K : List D) (hi : i < q) (hq : q < 100) (ha : a < 100) (hv : vs.length = i) (hk : kd.length = i)
    (w18 : IntKind.i64.wrap (x.tdiv 18) = x.tdiv 18) (w90 : IntKind.i64.wrap (x.tdiv 90) = x.tdiv 90) (w7 : IntKind.i64.wrap (x.tdiv 7) = x.tdiv 7)
    (hc1 : C n_5 [.int .i64 (x.tdiv 18), .int .i64 5] σ = some (.ret ⟨false, .int .i64 a⟩, σ)) (hc2 : C n_5 [.int .i64 (x.tdiv 90), .int .i64 2] σ = some (.ret ⟨false, .int .i64 1⟩, σ))
    (hc3 : C n_110 [.list k_int [.int .i64 (IntKind.i64.wrap (x + i)), .int .i64 i, .int .i64 (x.tdiv 7), .int .i64 (IntKind.i64.wrap (i * x))]] σ = some (.ret ⟨false, .agg [dlist k_4 K]⟩, σ)) :
    exec C n a_27 (Em x q i vs kd ps t) σ = some (.normal, Em x q (i + 1) (vs ++ [vnS ((i + a) % 5)]) (kd ++ [.agg [dlist k_4 K]]) ps t, σ) := by
  have h1 : ((i : Int) < (q : Int)) := by omega
  have w1 := zam (i := i) (by omega)
  have w2 : IntKind.i64.wrap ((i : Int) + (a : Int)) = ((i + a : Nat) : Int) := by rw [zbc (by omega) (by omega)]; omega
  have w3 : (((i + a : Nat) : Int)).tmod 5 = (((i + a) % 5 : Nat) : Int) := tmodN _ 5
  have hx := zb8b (i + a)
  have hap := zfo vs (vnS ((i + a) % 5)) (ow vs.length) (by cases vs with
    | nil => intro h; exact absurd rfl h
    | cons x r => intro _; rfl) (by omega)
  have hak := zfd (r := k_4) (by_ := 24) (es := kd) (o := ow kd.length) (y := .agg [dlist k_4 K]) (by cases kd with
    | nil => intro h; exact absurd rfl h
    | cons x r => intro _; rfl) (zi1 K).1 (zi1 K).2 (by simp [bound]; omega) (by simp [bound]; omega)
  have how : ow (vs ++ [vnS ((i + a) % 5)]).length = true := by simp [zcc]
  have how2 : ow (kd ++ [D.agg [dlist k_4 K]]).length = true := by simp [zcc]
  simp only [a_27, Em, bM, b0, bT, de0, de1, de2, szQ, szB, szL, sy0, sy1, sy2, sy3, sy4, sy5, zad, zaa, zac, zae, adel, zah, zag, zai, zaf, evalV, aget, aset, adel1, nth, AOp.kind, Nat.reduceAdd, Nat.reduceSub, Nat.reduceMul, Nat.reduceBEq, Nat.ble, bindO, Nat.reduceLeDiff, Int.reduceBEq, Int.reduceBNe, Int.reduceLE, Int.reduceLT, Int.reduceGE, Int.reduceGT, Int.reduceNeg, ks, h1, w1, w2, w3, w7, w18, w90, hc1, hc2, hc3, hx, hap, hak, how, how2]
theorem zr3 (m : Nat) (d d1 : D) (o : Bool) (x : Int) (a q : Nat) (t t2 t3 : Tp) (ps : List Pr) (vs : List (List UInt8)) (kd : List D) (h1 : T m n_180 [d] σ = some (.ret ⟨false, dT t⟩, σ)) (h2 : T m n_179 [d1, .int .i64 4] σ = some (.ret ⟨o, dPs ps⟩, σ))
    (h3 : T m n_5 [.int .i64 x, .int .i64 3] σ = some (.ret ⟨false, .int .i64 a⟩, σ)) (h4 : T m n_5 [.int .i64 (x.tdiv 3), .int .i64 6] σ = some (.ret ⟨false, .int .i64 q⟩, σ)) (hw : IntKind.i64.wrap (x.tdiv 3) = x.tdiv 3)
    (h6 : T m n_178 [d] σ = some (.ret ⟨false, dT t2⟩, σ)) (h3t : t3 = if a = 2 then t2 else t) (hloop : loopN (exec (T m) m a_27) m (Em x q 0 [] [] ps t3) σ = some (.exit 0, Eme x q q vs kd ps t3, σ)) :
    T (m + 1) n_181 [d, d1, .int .i64 x] σ = some (.ret ⟨false, .agg (dSs vs :: dlist k_4 kd :: dPs ps :: cT t3)⟩, σ) := by
  rw [T_fun (af := a_107) rfl rfl]
  simp only [dT_eq, cT, dPs, dSs] at h1 h2 h6 ⊢
  simp only [Em, Eme, bM, b0, bT, List.map_nil, zcv, List.length_nil, zcp, zeroI] at hloop
  by_cases h5 : a = 2
  · rw [if_pos h5] at h3t
    subst h3t
    have h5' : ((a : Int) == 2) = true := by simp; omega
    simp only [a_107, de0, de1, de2, szQ, szB, szL, sy0, sy1, sy2, sy3, sy4, sy5, zad, zaa, zac, zae, adel, zah, zag, zai, zaf, evalV, aget, aset, adel1, nth, AOp.kind, Nat.reduceAdd, Nat.reduceSub, Nat.reduceMul, Nat.reduceBEq, Nat.ble, bindO, Nat.reduceLeDiff, Int.reduceBEq, Int.reduceBNe, Int.reduceLE, Int.reduceLT, Int.reduceGE, Int.reduceGT, Int.reduceNeg, ks, h1, h2, h3, h4, h5', hw, h6, hloop]
    done
  · rw [if_neg h5] at h3t
    subst h3t
    have h5' : ((a : Int) == 2) = false := by simp; omega
    simp only [a_107, de0, de1, de2, szQ, szB, szL, sy0, sy1, sy2, sy3, sy4, sy5, zad, zaa, zac, zae, adel, zah, zag, zai, zaf, evalV, aget, aset, adel1, nth, AOp.kind, Nat.reduceAdd, Nat.reduceSub, Nat.reduceMul, Nat.reduceBEq, Nat.ble, bindO, Nat.reduceLeDiff, Int.reduceBEq, Int.reduceBNe, Int.reduceLE, Int.reduceLT, Int.reduceGE, Int.reduceGT, Int.reduceNeg, ks, h1, h2, h3, h4, h5', hw, hloop]
    done
end
theorem zefb (d d1 : D) (xs ys : List Int) (x : Int) (hR : Row d xs) (hS : zbj xs) (hR1 : Row d1 ys) (hS1 : zbj ys) (hx : Small x) : ∃ (vs : List (List UInt8)) (kd : List D) (ps : List Pr) (t : Tp), (vs.length ≤ 5 ∧ ∀ v ∈ vs, okV v = true) ∧ (ps.length ≤ 4 ∧ ∀ p ∈ ps, LP p) ∧ LB 5 t ∧
    Evly fun n => ∀ σ, T n n_181 [d, d1, .int .i64 x] σ = some (.ret ⟨false, .agg (dSs vs :: dlist k_4 kd :: dPs ps :: cT t)⟩, σ) := by
  obtain ⟨t, hLt, h1⟩ := zfab d xs hR hS
  obtain ⟨t2, hLt2, h6⟩ := zbab d xs hR hS
  obtain ⟨ps, hps, h2⟩ := zbdb d1 ys hR1 hS1
  have small : ∀ m : Nat, Small (x.tdiv (m : Int)) := zym hx
  have s3 := small 3
  have s7 := small 7
  have s18 := small 18
  have s90 := small 90
  have w3 : IntKind.i64.wrap (x.tdiv 3) = x.tdiv 3 := zbc s3.1 s3.2
  have w7 : IntKind.i64.wrap (x.tdiv 7) = x.tdiv 7 := zbc s7.1 s7.2
  have w18 : IntKind.i64.wrap (x.tdiv 18) = x.tdiv 18 := zbc s18.1 s18.2
  have w90 : IntKind.i64.wrap (x.tdiv 90) = x.tdiv 90 := zbc s90.1 s90.2
  have hq := zf9 (x.tdiv 3) (m := 6) (by omega)
  have ha5 := zf9 (x.tdiv 18) (m := 5) (by omega)
  have r3 : Evly fun n => ∀ σ, T n n_5 [.int .i64 x, .int .i64 3] σ = some (.ret ⟨false, .int .i64 (aro x 3)⟩, σ) := zd0.mono fun n h σ => h x 3 3 σ hx rfl (by omega) (by omega)
  have r6 : Evly fun n => ∀ σ, T n n_5 [.int .i64 (x.tdiv 3), .int .i64 6] σ = some (.ret ⟨false, .int .i64 (aro (x.tdiv 3) 6)⟩, σ) := zd0.mono fun n h σ => h _ 6 6 σ s3 rfl (by omega) (by omega)
  have r18 : Evly fun n => ∀ σ, T n n_5 [.int .i64 (x.tdiv 18), .int .i64 5] σ = some (.ret ⟨false, .int .i64 (aro (x.tdiv 18) 5)⟩, σ) := zd0.mono fun n h σ => h _ 5 5 σ s18 rfl (by omega) (by omega)
  have r90 : Evly fun n => ∀ σ, T n n_5 [.int .i64 (x.tdiv 90), .int .i64 2] σ = some (.ret ⟨false, .int .i64 (aro (x.tdiv 90) 2)⟩, σ) := zd0.mono fun n h σ => h _ 2 2 σ s90 rfl (by omega) (by omega)
  generalize aro (x.tdiv 3) 6 = q at hq r6
  generalize aro (x.tdiv 18) 5 = a at ha5 r18
  by_cases hb : aro (x.tdiv 90) 2 = 1
  · rw [hb] at r90
    have hK : ∀ i : Nat, ∃ K : List D, Evly fun n => ∀ σ, T n n_110 [.list k_int [.int .i64 (IntKind.i64.wrap (x + i)), .int .i64 (IntKind.i64.wrap i), .int .i64 (x.tdiv 7), .int .i64 (IntKind.i64.wrap (i * x))]] σ = some (.ret ⟨false, .agg [dlist k_4 K]⟩, σ) := fun i =>
      zcwb _ [IntKind.i64.wrap (x + i), IntKind.i64.wrap i, x.tdiv 7, IntKind.i64.wrap (i * x)] (.inl rfl) (fun y hy => by
        simp only [List.mem_cons, List.not_mem_nil, or_false] at hy
        rcases hy with rfl | rfl | rfl | rfl
        · exact zj9 _
        · exact zj9 _
        · exact s7
        · exact zj9 _)
    obtain ⟨K, hK⟩ := Classical.skolem.1 hK
    have hKs : Evly fun n => ∀ i, i < q → ∀ σ, T n n_110 [.list k_int [.int .i64 (IntKind.i64.wrap (x + i)), .int .i64 i, .int .i64 (x.tdiv 7), .int .i64 (IntKind.i64.wrap (i * x))]] σ = some (.ret ⟨false, .agg [dlist k_4 (K i)]⟩, σ) :=
      Evly.below _ fun i hi => (hK i).mono fun n h σ => by
        have := h σ
        rw [zbc (n := (i : Int)) (by omega) (by omega)] at this
        exact this
    refine ⟨vnL a q, kdL K q, ps, (if aro x 3 = 2 then t2 else t), ⟨by rw [zjf]; omega, ztf a q⟩, hps, (by split <;> first | exact hLt2 | exact hLt.toB), (h1.and (h2.and (h6.and (r3.and (r6.and (r18.and (r90.and hKs))))))).step 8 fun m hm h σ => ?_⟩
    obtain ⟨e1, e2, e6, e3, e4, e18, e90, eK⟩ := h
    have hloop := zbr (body := exec (T m) m a_27) (fun i => Em x q i (vnL a i) (kdL K i) ps (if aro x 3 = 2 then t2 else t)) (fun _ => σ) q (r := _) (fun _ _ h => by cases h)
      (fun i hi => zgvb x q i a (vnL a i) (kdL K i) ps _ (K i) hi (by omega) (by omega) (zjf a i) (zwe K i) w18 w90 w7 (e18 σ) (e90 σ) (eK i hi σ)) (zasb x q _ _ ps _) 0 m (by omega) (by omega)
    exact zr3 m d d1 _ x (aro x 3) q t t2 _ ps _ _ (e1 σ) (e2 σ) (e3 σ) (e4 σ) w3 (e6 σ) rfl hloop
  · refine ⟨vnL a q, [], ps, (if aro x 3 = 2 then t2 else t), ⟨by rw [zjf]; omega, ztf a q⟩, hps, (by split <;> first | exact hLt2 | exact hLt.toB), (h1.and (h2.and (h6.and (r3.and (r6.and (r18.and r90)))))).step 8 fun m hm h σ => ?_⟩
    obtain ⟨e1, e2, e6, e3, e4, e18, e90⟩ := h
    have hloop := zbr (body := exec (T m) m a_27) (fun i => Em x q i (vnL a i) [] ps (if aro x 3 = 2 then t2 else t)) (fun _ => σ) q (r := _) (fun _ _ h => by cases h)
      (fun i hi => zd9b x q i a _ (vnL a i) [] ps _ hi (by omega) (by omega) (zjf a i) hb w18 w90 (e18 σ) (e90 σ)) (zasb x q _ _ ps _) 0 m (by omega) (by omega)
    exact zr3 m d d1 _ x (aro x 3) q t t2 _ ps _ _ (e1 σ) (e2 σ) (e3 σ) (e4 σ) w3 (e6 σ) rfl hloop
end Go.Fu
namespace Go.Fu
open Go Go.Mx
set_option maxRecDepth 10000
theorem wf0 : WF σ0 := ⟨fun p hp => by simp [σ0] at hp, fun p hp => by simp [σ0] at hp, fun p hp => by simp [σ0] at hp⟩
theorem sc_ok (vs : List (List UInt8)) (ps : List Pr) (t : Tp) : (scD vs ps t).ok = true := by
  simp only [scD, cT, D.ok, List.all_cons, D.one, zhb, List.all_nil, Bool.and_self]
theorem zadb (d d1 : D) (xs ys : List Int) (x : Int) (hR : Row d xs) (hR1 : Row d1 ys) (hS : zbj xs) (hS1 : zbj ys) (hx : Small x) : Evly fun n => ∃ σ', T n n_233 [d, d1, .int .i64 x] σ0 = some (.ret ⟨false, .bool true⟩, σ') := by
  obtain ⟨vs, kd, ps, t, hv, hp, hL, hmade⟩ := zefb d d1 xs ys x hR hS hR1 hS1 hx
  have H : SOK vs ps t := ⟨by have := hv.1; omega, hv.2, hp.1, hp.2, hL⟩
  have hb := hL.2
  rw [bz5] at hb
  have hren := zu6 vs (dlist k_4 kd) ps t H.vl (by have := hp.1; omega)
  have htold := ze9b vs (dlist k_4 kd) ps t (by have := H.vl; omega) (by omega)
  have hnm := zxz vs (dlist k_4 kd) ps t H.vl
  have hput := zv4 ps vs (vnT vs.length) (by have := hp.1; omega) (by have := H.vl; omega) (zfc _)
  obtain ⟨o1, o2, o3, o4, o5⟩ := zh8b H
  have hcx := zpu vs ps t (can_x H)
  have hpx := zmn vs ps t _ _ _ o1 o2 o3 o4 hcx
  have heq := zyl (cLs vs ps t) (cPs vs ps t) (cTy vs ps t) (by omega) (by omega)
  -- the other scheme
  have side : ∃ qs : List Pr, (qs = if (vs.all fun v => (freeR t []).contains v) = true then (rnP vs ps).reverse else rnP vs ps) ∧ CanOK (vsN vs) qs (rnT vs t) ∧ cLs (vsN vs) qs (rnT vs t) = cLs vs ps t ∧ cTy (vsN vs) qs (rnT vs t) = cTy vs ps t ∧ cPs (vsN vs) qs (rnT vs t) = cPs vs ps t := by
    by_cases ht : (vs.all fun v => (freeR t []).contains v) = true
    · refine ⟨_, rfl, ?_⟩
      rw [if_pos ht]
      refine zeyb H fun v hv => ?_
      have := List.all_eq_true.1 ht v hv
      have hm := (zk1 v t []).1 (zbz.1 this)
      simpa using hm
    · refine ⟨_, rfl, ?_⟩
      rw [if_neg ht]
      exact zz6 H
  obtain ⟨qs, hqs, C, c1, c2, c3⟩ := side
  have hcy := zpu (vsN vs) qs (rnT vs t) C
  rw [c1, c2, c3] at hcy
  have hpy := zmn (vsN vs) qs (rnT vs t) _ _ _ o1 o2 o3 o4 hcy
  have hsxy := zmr (scD vs ps t) (scD (vsN vs) qs (rnT vs t)) ⟨sc_ok _ _ _, _, _, _, _, rfl, rfl⟩ ⟨_, _, _, _, rfl, rfl⟩ _ _ _ o5 (by omega) (fun p hp => (o2 p hp).1) hcx hcy
  have hsyx := zmr (scD (vsN vs) qs (rnT vs t)) (scD vs ps t) ⟨sc_ok _ _ _, _, _, _, _, rfl, rfl⟩ ⟨_, _, _, _, rfl, rfl⟩ _ _ _ o5 (by omega) (fun p hp => (o2 p hp).1) hcy hcx
  refine (hmade.and (hren.and (htold.and (hnm.and (hput.and (hpx.and (hpy.and (hsxy.and (hsyx.and (hcx.and (hcy.and (heq.and zarb)))))))))))).step 20 fun m hm h => ?_
  obtain ⟨e1, e2, e3, e4, e5, e6, e7, e8, e9, e10, e11, e12, e13⟩ := h
  have f1 := e1 σ0
  have f2 := e2 σ0
  obtain ⟨σ1, f3, x3⟩ := e3 σ0 wf0
  have f4 := e4 σ1
  have f5 := e5 σ1
  obtain ⟨σ2, f6, x6⟩ := e6 σ1 x3.wf
  obtain ⟨σ3, f7, x7⟩ := e7 σ2 x6.wf
  obtain ⟨σ4, f8, x8⟩ := e8 σ3 x7.wf
  obtain ⟨σ5, f9, x9⟩ := e9 σ4 x8.wf
  obtain ⟨σ6, f10, x10⟩ := e10 σ5 x9.wf
  obtain ⟨σ7, f11, x11⟩ := e11 σ6 x10.wf
  have f12 := e12 σ7
  have f13 := e13 σ7
  refine ⟨σ7, ?_⟩
  have hse : (scS (cPs vs ps t) (cTy vs ps t) == scS (cPs vs ps t) (cTy vs ps t)) = true := by simp
  have hvN : vsN vs = (vnR vs.length).reverse := rfl
  have hrT : rnT vs t = subT vs (vnT vs.length) t := rfl
  rw [← hvN, ← hrT] at f2
  have hrP : ps.map (putP vs (vnT vs.length)) = rnP vs ps := rfl
  rw [hrP] at f2 f5
  generalize rnT vs t = u at *
  generalize vsN vs = V at *
  rw [T_fun (af := a_101) rfl rfl]
  have g1 : (dPs (rnP vs ps)).one = true := zdr
  have g2 : (dPs (rnP vs ps)).ok = true := zhr
  have g3 : (dPs (rnP vs ps)).cells = [dPs (rnP vs ps)] := zf4
  by_cases ht : (vs.all fun v => (freeR t []).contains v) = true
  · rw [if_pos ht] at hqs
    rw [ht] at f3
    rw [← hqs] at f2
    generalize scS (cPs vs ps t) (cTy vs ps t) = ss at *
    simp only [scD, cT] at f1 f2 f3 f6 f7 f8 f9 f10 f11 f12
    simp only [a_101, de0, de1, de2, szQ, szB, szL, sy0, sy1, sy2, sy3, sy4, sy5, zad, zaa, zac, zae, adel, zah, zag, zai, zaf, evalV, aget, aset, adel1, nth, AOp.kind, Nat.reduceAdd, Nat.reduceSub, Nat.reduceMul, Nat.reduceBEq, Nat.ble, bindO, Nat.reduceLeDiff, Int.reduceBEq, Int.reduceBNe, Int.reduceLE, Int.reduceLT, Int.reduceGE, Int.reduceGT, Int.reduceNeg, ks, lz, f1, f2, f3, f6, f7, f8, f9, f10, f11, f12, f13, hse]
  · have ht' : (vs.all fun v => (freeR t []).contains v) = false := by simpa using ht
    rw [if_neg ht] at hqs
    rw [ht'] at f3
    subst hqs
    generalize scS (cPs vs ps t) (cTy vs ps t) = ss at *
    simp only [scD, cT] at f1 f2 f3 f4 f6 f7 f8 f9 f10 f11 f12
    simp only [a_101, de0, de1, de2, szQ, szB, szL, sy0, sy1, sy2, sy3, sy4, sy5, zad, zaa, zac, zae, adel, zah, zag, zai, zaf, evalV, aget, aset, adel1, nth, AOp.kind, Nat.reduceAdd, Nat.reduceSub, Nat.reduceMul, Nat.reduceBEq, Nat.ble, bindO, Nat.reduceLeDiff, Int.reduceBEq, Int.reduceBNe, Int.reduceLE, Int.reduceLT, Int.reduceGE, Int.reduceGT, Int.reduceNeg, ks, lz, f1, f2, f3, f4, f5, g1, g2, g3, f6, f7, f8, f9, f10, f11, f12, f13, hse]
end Go.Fu

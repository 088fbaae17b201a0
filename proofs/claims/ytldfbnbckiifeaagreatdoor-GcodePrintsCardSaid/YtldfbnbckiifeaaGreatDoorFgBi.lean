/-
  Alternatives that are made.
-/
import Derived.Test.YtldfbnbckiifeaaGreatDoorFgBc
set_option maxHeartbeats 4000000
set_option linter.unusedSimpArgs false
set_option linter.unusedVariables false
set_option linter.unusedSectionVars false
namespace Go.Fu
open Go Go.Mx
set_option maxRecDepth 10000
def szT : Nat → Nat
  | 0 => 1
  | d + 1 => 4 * szT d + 10
def szN : Nat → Nat
  | 0 => 1
  | d + 1 => 4 * szN d + 5
def PT (ns : List Tx) (deep i : Nat) : Prop := ns ≠ [] ∧ ns.length + 2 * deep ≤ 100 ∧ (∀ s ∈ ns, s.length ≤ 5) ∧ i + szN deep ≤ 1000000
def TmOK (ns : List Tx) (deep i : Nat) (c : Co) (j : Nat) : Prop := Good ns c ∧ Shp 5 c ∧ c.size ≤ szT deep ∧ hgt c ≤ deep + 1 ∧ j ≤ i + szN deep
def zqu (d : D) (xs : List Int) : List D → Cell → Prop := fun ds c => ∀ i : Nat, ds = [d, .int .i64 i] → c = ⟨false, .int .i64 (pickM xs i : Nat)⟩
theorem zdh {S : Specs} {d : D} {xs : List Int} (hS : aget S n_17 = some (zqu d xs)) (hR : IR d xs) (i : Nat) (hi : i < 1099511627776) (n : Nat) (σ : Store) : T S (n + 1) n_17 [d, .int .i64 i] σ = some (.ret ⟨false, .int .i64 (pickM xs i : Nat)⟩, σ) := by
  obtain ⟨c, h1, h2⟩ := T_orc (S := S) hS rfl (c := ⟨false, .int .i64 (pickM xs i : Nat)⟩) (fun j e => by
    simp only [List.cons.injEq, D.int.injEq, true_and, and_true] at e
    rw [show j = i by omega]) (zejb hR i hi)
  rw [h2, h1 i rfl]
def lS (b : List Tx) : D := .list k_1 (b.map D.str)
theorem zzt (a b : List Tx) (hl : a.length + b.length < 1000000000) : OkP n_2 [dSs a, lS b] ⟨false, dSs (a ++ b)⟩ := by
  have hn : noPtr (lS b) = true := by rw [lS, noPtr]; exact zc3 (fun _ => rfl) b
  refine OkP.weak (o := true) rfl (zap (af := a_86) (n := 1) (σ' := σ0) (zar [] 0) rfl rfl (by simp [zan, zas, hn]) (zas _) ?_)
  simp only [a_86, lS, sA, Nat.reduceAdd, Nat.reduceSub, Nat.reduceMul, Nat.reduceBEq, Nat.reduceLeDiff, Int.reduceBEq, Int.reduceBNe, Int.reduceLE, Int.reduceLT, Int.reduceGE, Int.reduceGT, Int.reduceNeg, kn, zk7, zco, appS0 a false (by omega), appS a b true (fun _ => rfl) hl]
theorem zdrb {a b : List Tx} (h : lS a = lS b) : a = b := by
  simp only [lS, D.list.injEq, true_and] at h
  exact zi4 (fun h => by simpa using h) h
theorem zdqb {a b : List Tx} (h : lS a = dSs b) : a = b := by
  cases b with
  | nil => cases h
  | cons x r => exact zdrb (b := x :: r) h
def znr : List D → Cell → Prop := fun ds c => ∀ a b, (ds = [dSs a, dSs b] ∨ ds = [dSs a, lS b]) → c = ⟨false, dSs (a ++ b)⟩
theorem zzx {S : Specs} (hS : aget S n_2 = some znr) (a b : List Tx) (hl : a.length + b.length < 1000000000) (n : Nat) (σ : Store) : T S (n + 1) n_2 [dSs a, dSs b] σ = some (.ret ⟨false, dSs (a ++ b)⟩, σ) := by
  obtain ⟨c, h1, h2⟩ := T_orc (S := S) hS rfl (c := ⟨false, dSs (a ++ b)⟩) (fun a' b' e => by
    rcases e with e | e
    · simp only [List.cons.injEq, and_true] at e
      rw [zbn e.1, zbn e.2]
    · simp only [List.cons.injEq, and_true] at e
      rw [zbn e.1, zdqb e.2.symm]) (zr9 a b hl)
  rw [h2, h1 a b (.inl rfl)]
theorem zpu {S : Specs} (hS : aget S n_2 = some znr) (a b : List Tx) (hl : a.length + b.length < 1000000000) (n : Nat) (σ : Store) : T S (n + 1) n_2 [dSs a, lS b] σ = some (.ret ⟨false, dSs (a ++ b)⟩, σ) := by
  obtain ⟨c, h1, h2⟩ := T_orc (S := S) hS rfl (c := ⟨false, dSs (a ++ b)⟩) (fun a' b' e => by
    rcases e with e | e
    · simp only [List.cons.injEq, and_true] at e
      rw [zbn e.1, zdqb e.2]
    · simp only [List.cons.injEq, and_true] at e
      rw [zbn e.1, zdrb e.2]) (zzt a b hl)
  rw [h2, h1 a b (.inr rfl)]
def spTm (d : D) (deep : Nat) : List D → Cell → Prop := fun ds c => ∀ (i : Nat) ns, ds = [d, .int .i64 i, dSs ns, .int .i64 deep] → PT ns deep i → ∃ co j, c = ⟨false, .tup [dCo co, .int .i64 (j : Nat)]⟩ ∧ TmOK ns deep i co j
def TmHas (d : D) (deep : Nat) : Prop := ∀ (i : Nat) ns, PT ns deep i → ∃ co j, OkP n_8 [d, .int .i64 i, dSs ns, .int .i64 deep] ⟨false, .tup [dCo co, .int .i64 (j : Nat)]⟩ ∧ TmOK ns deep i co j
theorem zfk {S : Specs} {d : D} {deep : Nat} (hS : aget S n_8 = some (spTm d deep)) (hT : TmHas d deep) (i : Nat) (ns : List Tx) (hp : PT ns deep i) : ∃ co j, TmOK ns deep i co j ∧ ∀ n σ, T S (n + 1) n_8 [d, .int .i64 i, dSs ns, .int .i64 deep] σ = some (.ret ⟨false, .tup [dCo co, .int .i64 (j : Nat)]⟩, σ) := by
  obtain ⟨co, j, h1, h2⟩ := hT i ns hp
  obtain ⟨c, h3, h4⟩ := T_orc (S := S) hS rfl (c := ⟨false, .tup [dCo co, .int .i64 (j : Nat)]⟩) (fun i' ns' e _ => by
    simp only [List.cons.injEq, D.int.injEq, true_and, and_true] at e
    obtain rfl : i = i' := by omega
    obtain rfl := zbn e.2
    exact ⟨co, j, rfl, h2⟩) h1
  obtain ⟨co', j', rfl, h5⟩ := h3 i ns rfl hp
  exact ⟨co', j', h5, h4⟩
def headM (v : Nat) : Hd := if v / 8 % 3 = 1 then ⟨2, ((v / 24 % 5 : Nat) : Int) - 2, [], []⟩ else if v / 8 % 3 = 2 ∧ v / 24 % 2 = 1 then ⟨3, 0, [], []⟩ else ⟨1, 0, (FL.getD (v % 5) f0).name, [[117], [118]].take (FL.getD (v % 5) f0).arity.toNat⟩
theorem zfjb : ∀ f ∈ FL, zd4 FL f.name (([[117], [118]] : List Tx).take f.arity.toNat).length = true := by decide
theorem zf5b (v : Nat) : HdOk (headM v) ∧ (headM v).name.length ≤ 5 ∧ (∀ s ∈ (headM v).vars, s.length ≤ 5) ∧ (headM v).vars.length ≤ 2 := by
  unfold headM
  by_cases h1 : v / 8 % 3 = 1
  · rw [if_pos h1]
    exact ⟨⟨by unfold Small; simp only; omega, rfl, .inr (.inl ⟨rfl, rfl⟩)⟩, by simp, by simp, by simp⟩
  · rw [if_neg h1]
    by_cases h2 : v / 8 % 3 = 2 ∧ v / 24 % 2 = 1
    · rw [if_pos h2]
      exact ⟨⟨zS, rfl, .inr (.inr ⟨rfl, rfl⟩)⟩, by simp, by simp, by simp⟩
    · rw [if_neg h2]
      have hj : v % 5 < FL.length := Nat.mod_lt _ (by decide)
      rw [za0 FL _ _ hj]
      have hm := List.getElem_mem hj
      generalize FL[v % 5] = f at hm
      have h3 := zty f hm
      have h4 := zfjb f hm
      refine ⟨⟨zS, ?_, .inl ⟨rfl, h4⟩⟩, h3.2.2.1, ?_, ?_⟩
      · rcases h3.2.2.2 with e | e | e <;> rw [e] <;> rfl
      · intro s hs
        have := List.mem_of_mem_take hs
        simp only [List.mem_cons, List.not_mem_nil, or_false] at this
        rcases this with rfl | rfl <;> simp
      · simp only [List.length_take]; simp; omega
section
variable {C : CallF} {n : Nat} {σ : Store}
def Ecs (d : D) (ns : List Tx) (deep N0 : Nat) (al : List (Hd × Co)) (j k : Nat) : Env := { slots := [(0, ⟨false, d⟩), (1, ⟨false, .int .i64 j⟩), (2, ⟨false, dSs ns⟩), (3, ⟨false, .int .i64 (deep + 1 : Nat)⟩), (10, ⟨false, .int .i64 N0⟩), (11, ⟨false, dFs FL⟩), (12, ⟨ow k, dAl al⟩), (13, ⟨false, .int .i64 k⟩)], locs := [], boxes := [], defers := [] }
end
end Go.Fu
namespace Go.Fu
open Go Go.Mx
set_option maxRecDepth 10000
section
variable {C : CallF} {n : Nat} {σ : Store}
set_option maxHeartbeats 8000000 in
theorem zh0b (d : D) (ns : List Tx) (deep N0 : Nat) (al : List (Hd × Co)) (j k v j' : Nat) (c : Co) (hk : k < N0 % 4) (hN : N0 < 9223372036854775808) (hv : v < 9223372036854775808) (hj : j < 1000000) (hd : deep < 1000) (hal : al.length < 100) (hne : al ≠ [] → ow k = true)
    (h1 : C n_17 [d, .int .i64 j] σ = some (.ret ⟨false, .int .i64 v⟩, σ))
    (h2 : C n_2 [dSs ns, dSs (headM v).vars] σ = some (.ret ⟨false, dSs (ns ++ (headM v).vars)⟩, σ))
    (h3 : C n_8 [d, .int .i64 (j + 1 : Nat), dSs (ns ++ (headM v).vars), .int .i64 deep] σ = some (.ret ⟨false, .tup [dCo c, .int .i64 j']⟩, σ)) :
    exec C n none a_43 (Ecs d ns deep N0 al j k) σ = some (.normal, Ecs d ns deep N0 (al ++ [(headM v, c)]) j' (k + 1), σ) := by
  have tN : ((N0 : Int)).tmod 4 = ((N0 % 4 : Nat) : Int) := tmodN N0 4
  have hlt : ((k : Int) < ((N0 % 4 : Nat) : Int)) := by omega
  have hl5 : ((FL.length : Nat) : Int) = 5 := rfl
  have t5 : ((v : Int)).tmod 5 = ((v % 5 : Nat) : Int) := tmodN v 5
  have d8 : ((v : Int)).tdiv 8 = ((v / 8 : Nat) : Int) := tdivN v 8
  have w8 : IntKind.i64.wrap ((v / 8 : Nat) : Int) = ((v / 8 : Nat) : Int) := zbu (by omega) (by omega)
  have t3 : (((v / 8 : Nat) : Int)).tmod 3 = ((v / 8 % 3 : Nat) : Int) := tmodN _ 3
  have d24 : ((v : Int)).tdiv 24 = ((v / 24 : Nat) : Int) := tdivN v 24
  have w24 : IntKind.i64.wrap ((v / 24 : Nat) : Int) = ((v / 24 : Nat) : Int) := zbu (by omega) (by omega)
  have t2 : (((v / 24 : Nat) : Int)).tmod 2 = ((v / 24 % 2 : Nat) : Int) := tmodN _ 2
  have t25 : (((v / 24 : Nat) : Int)).tmod 5 = ((v / 24 % 5 : Nat) : Int) := tmodN _ 5
  have w25 : IntKind.i64.wrap (((v / 24 % 5 : Nat) : Int) - 2) = ((v / 24 % 5 : Nat) : Int) - 2 := zbu (by omega) (by omega)
  have wj := zaj (i := j) (by omega)
  have wk := zaj (i := k) (by omega)
  have wd : IntKind.i64.wrap (((deep + 1 : Nat) : Int) - 1) = (deep : Int) := by rw [zbu (by omega) (by omega)]; omega
  have hj5 : v % 5 < FL.length := Nat.mod_lt _ (by decide)
  have hx := idx_F FL (v % 5) hj5
  have hFm := zty _ (List.getElem_mem hj5)
  have hgd := za0 FL (v % 5) f0 hj5
  have ha := appA1 al (headM v, c) (ow k) hne (by omega)
  have hdA := dA_eq (headM v, c)
  rw [hdA] at ha
  unfold headM at h2 h3 ha ⊢
  rw [hgd] at h2 h3 ha ⊢
  generalize FL[v % 5] = f at hx hFm h2 h3 ha
  have hq : v / 8 % 3 = 0 ∨ v / 8 % 3 = 1 ∨ v / 8 % 3 = 2 := by omega
  have hp : v / 24 % 2 = 0 ∨ v / 24 % 2 = 1 := by omega
  have ap0 : za1 k_1 16 ⟨false, .nils⟩ [] = some ⟨true, .nils⟩ := appS0 [] false (by decide)
  have ap1 : za1 k_1 16 ⟨false, .nils⟩ [.str [117]] = some ⟨true, .list k_1 [.str [117]]⟩ := appS0 [[117]] false (by decide)
  have ap2 : za1 k_1 16 ⟨false, .nils⟩ [.str [117], .str [118]] = some ⟨true, .list k_1 [.str [117], .str [118]]⟩ := appS0 [[117], [118]] false (by decide)
  simp only [dF] at hx
  have p0 : Mx.part none [.str f.name, .int .i64 f.tag, .int .i64 f.many, .int .i64 f.arity, .int .i64 0, .int .i64 0, .str [], .nils] 0 = some (.str f.name) := rfl
  have p3 : Mx.part none [.str f.name, .int .i64 f.tag, .int .i64 f.many, .int .i64 f.arity, .int .i64 0, .int .i64 0, .str [], .nils] 3 = some (.int .i64 f.arity) := rfl
  simp only [zae, zai] at h3 ha
  have s0 : zf0 1 (.list k_1 [.str [117], .str [118]]) 0 (some 0) = some (.list k_1 []) := rfl
  have s1 : zf0 1 (.list k_1 [.str [117], .str [118]]) 0 (some 1) = some (.list k_1 [.str [117]]) := rfl
  have s2 : zf0 1 (.list k_1 [.str [117], .str [118]]) 0 (some 2) = some (.list k_1 [.str [117], .str [118]]) := rfl
  have tk1 : ([[117], [118]] : List Tx).take (1 : Int).toNat = [[117]] := rfl
  have tk2 : ([[117], [118]] : List Tx).take (2 : Int).toNat = [[117], [118]] := rfl
  have tk0 : ([[117], [118]] : List Tx).take (0 : Int).toNat = [] := rfl
  have en0 : dSs [] = .nils := rfl
  have en1 : dSs [[117]] = .list k_1 [.str [117]] := rfl
  have en2 : dSs [[117], [118]] = .list k_1 [.str [117], .str [118]] := rfl
  have b01 : (((0 : Nat) : Int) == 1) = false := rfl
  have b02 : (((0 : Nat) : Int) == 2) = false := rfl
  have b11 : (((1 : Nat) : Int) == 1) = true := rfl
  have b12 : (((1 : Nat) : Int) == 2) = false := rfl
  have b21 : (((2 : Nat) : Int) == 1) = false := rfl
  have b22 : (((2 : Nat) : Int) == 2) = true := rfl
  rcases hq with q | q | q
  · rw [if_neg (by omega), if_neg (by omega)] at h2 h3 ha ⊢
    simp only at h2 h3 ha ⊢
    rcases hFm.2.2.2 with e | e | e
    all_goals
      rw [e] at hx p0 p3 h2 h3 ha
      simp only [e, tk0, tk1, tk2, en0, en1, en2, List.append_nil] at h2 h3 ha ⊢
      simp only [a_43, Ecs, sA, Nat.reduceAdd, Nat.reduceSub, Nat.reduceMul, Nat.reduceBEq, Nat.reduceLeDiff, Int.reduceBEq, Int.reduceBNe, Int.reduceLE, Int.reduceLT, Int.reduceGE, Int.reduceGT, Int.reduceNeg, kn, tN, hlt, h1, len_F, hl5, t5, natI, nat0, nat1, nat2, hx, p0, p3, s0, s1, s2, ap0, ap1, ap2, d8, w8, t3, q, b01, b02, wj, wd, h2, h3, ha, wk, onel, okl, celll, zbk, zco, zcr]
  · rw [if_pos q] at h2 h3 ha ⊢
    simp only at h2 h3 ha ⊢
    rcases hFm.2.2.2 with e | e | e
    all_goals
      rw [e] at hx p0 p3
      simp only [en0, zeroI, List.append_nil] at h2 h3 ha ⊢
      simp only [a_43, Ecs, sA, Nat.reduceAdd, Nat.reduceSub, Nat.reduceMul, Nat.reduceBEq, Nat.reduceLeDiff, Int.reduceBEq, Int.reduceBNe, Int.reduceLE, Int.reduceLT, Int.reduceGE, Int.reduceGT, Int.reduceNeg, kn, tN, hlt, h1, len_F, hl5, t5, natI, nat0, nat1, nat2, hx, p0, p3, s0, s1, s2, ap0, ap1, ap2, d8, w8, t3, d24, w24, t25, w25, t2, q, b11, b12, wj, wd, h2, h3, ha, wk, onel, okl, celll, zbk, zco, zcr]
  · rw [if_neg (by omega)] at h2 h3 ha ⊢
    rcases hp with p | p
    · rw [if_neg (by omega)] at h2 h3 ha ⊢
      simp only at h2 h3 ha ⊢
      rcases hFm.2.2.2 with e | e | e
      all_goals
        rw [e] at hx p0 p3 h2 h3 ha
        simp only [e, tk0, tk1, tk2, en0, en1, en2, List.append_nil] at h2 h3 ha ⊢
        simp only [a_43, Ecs, sA, Nat.reduceAdd, Nat.reduceSub, Nat.reduceMul, Nat.reduceBEq, Nat.reduceLeDiff, Int.reduceBEq, Int.reduceBNe, Int.reduceLE, Int.reduceLT, Int.reduceGE, Int.reduceGT, Int.reduceNeg, kn, tN, hlt, h1, len_F, hl5, t5, natI, nat0, nat1, nat2, hx, p0, p3, s0, s1, s2, ap0, ap1, ap2, d8, w8, t3, d24, w24, t2, q, p, b21, b22, b01, wj, wd, h2, h3, ha, wk, onel, okl, celll, zbk, zco, zcr]
    · rw [if_pos ⟨q, p⟩] at h2 h3 ha ⊢
      simp only at h2 h3 ha ⊢
      rcases hFm.2.2.2 with e | e | e
      all_goals
        rw [e] at hx p0 p3
        simp only [en0, zeroI, List.append_nil] at h2 h3 ha ⊢
        simp only [a_43, Ecs, sA, Nat.reduceAdd, Nat.reduceSub, Nat.reduceMul, Nat.reduceBEq, Nat.reduceLeDiff, Int.reduceBEq, Int.reduceBNe, Int.reduceLE, Int.reduceLT, Int.reduceGE, Int.reduceGT, Int.reduceNeg, kn, tN, hlt, h1, len_F, hl5, t5, natI, nat0, nat1, nat2, hx, p0, p3, s0, s1, s2, ap0, ap1, ap2, d8, w8, t3, d24, w24, t25, w25, t2, q, p, b11, b21, b22, wj, wd, h2, h3, ha, wk, onel, okl, celll, zbk, zco, zcr]
end
end Go.Fu
namespace Go.Fu
open Go Go.Mx
set_option maxRecDepth 10000
section
variable {C : CallF} {n : Nat} {σ : Store}
theorem zkjb (d : D) (ns : List Tx) (deep N0 : Nat) (al : List (Hd × Co)) (j : Nat) : exec C n none a_43 (Ecs d ns deep N0 al j (N0 % 4)) σ = some (.exit 0, { Ecs d ns deep N0 al j (N0 % 4) with slots := [(0, ⟨false, d⟩), (1, ⟨false, .int .i64 j⟩), (2, ⟨false, dSs ns⟩), (3, ⟨false, .int .i64 (deep + 1 : Nat)⟩), (10, ⟨false, .int .i64 N0⟩), (11, ⟨false, dFs FL⟩), (12, ⟨ow (N0 % 4), dAl al⟩), (13, ⟨false, .int .i64 (N0 % 4 : Nat)⟩), (28, ⟨false, .bool false⟩)] }, σ) := by
  have tN : ((N0 : Int)).tmod 4 = ((N0 % 4 : Nat) : Int) := tmodN N0 4
  have hlt : ¬ (((N0 % 4 : Nat) : Int) < ((N0 % 4 : Nat) : Int)) := by omega
  simp only [a_43, Ecs, sA, Nat.reduceAdd, Nat.reduceSub, Nat.reduceMul, Nat.reduceBEq, Nat.reduceLeDiff, Int.reduceBEq, Int.reduceBNe, Int.reduceLE, Int.reduceLT, Int.reduceGE, Int.reduceGT, Int.reduceNeg, kn, tN, hlt]
end
theorem zd7b (l : List (Hd × Co)) : noPtr (dAl l) = true := by rw [dAl, zdk]; exact zc3 zu3 l
def AlP (ns : List Tx) (deep : Nat) (al : List (Hd × Co)) : Prop := ∀ a ∈ al, HdOk a.1 ∧ a.1.name.length ≤ 5 ∧ (∀ s ∈ a.1.vars, s.length ≤ 5) ∧ Good (ns ++ a.1.vars) a.2 ∧ Shp 5 a.2 ∧ hgt a.2 ≤ deep + 1
def AlOK (ns : List Tx) (deep i : Nat) (al : List (Hd × Co)) (j : Nat) : Prop := AlP ns deep al ∧ szA al ≤ 3 * (szT deep + 3) ∧ j ≤ i + 1 + 3 * (1 + szN deep)
def SCa (d : D) (xs : List Int) (deep : Nat) : Specs := [(n_17, zqu d xs), (n_24, zgl), (n_2, znr), (n_8, spTm d deep)]
theorem zcub {d : D} {xs : List Int} (hR : IR d xs) {deep : Nat} (hT : TmHas d deep) (hd : deep < 1000) (i : Nat) (ns : List Tx) (h0 : ns ≠ []) (hl : ns.length + 2 * (deep + 1) ≤ 100) (h5 : ∀ s ∈ ns, s.length ≤ 5) (hi : i + 1 + 3 * (1 + szN deep) ≤ 1000000) :
    ∃ al j, OkP n_120 [d, .int .i64 i, dSs ns, .int .i64 (deep + 1 : Nat)] ⟨false, .tup [dAl al, .int .i64 (j : Nat)]⟩ ∧ AlOK ns deep i al j := by
  have hp := zdh (S := SCa d xs deep) rfl hR i (by omega) 0 σ0
  have hF := zj9 (S := SCa d xs deep) rfl 0 σ0
  have hv := zfj hR.small i
  generalize pickM xs i = N0 at hp hv
  have hN4 : N0 % 4 < 4 := Nat.mod_lt _ (by decide)
  obtain ⟨r, hr, al, j, rfl, q1, q2, q3, q4⟩ := zer (body := exec (T (SCa d xs deep) 1) 5 none a_43)
    (fun k e σ => σ = σ0 ∧ ∃ al j, e = Ecs d ns deep N0 al j k ∧ AlP ns deep al ∧ al.length = k ∧ szA al ≤ k * (szT deep + 3) ∧ j ≤ i + 1 + k * (1 + szN deep))
    (fun r => ∃ al j, r = (.exit 0, { Ecs d ns deep N0 al j (N0 % 4) with slots := [(0, ⟨false, d⟩), (1, ⟨false, .int .i64 j⟩), (2, ⟨false, dSs ns⟩), (3, ⟨false, .int .i64 (deep + 1 : Nat)⟩), (10, ⟨false, .int .i64 N0⟩), (11, ⟨false, dFs FL⟩), (12, ⟨ow (N0 % 4), dAl al⟩), (13, ⟨false, .int .i64 (N0 % 4 : Nat)⟩), (28, ⟨false, .bool false⟩)] }, σ0) ∧ AlP ns deep al ∧ al.length = N0 % 4 ∧ szA al ≤ (N0 % 4) * (szT deep + 3) ∧ j ≤ i + 1 + (N0 % 4) * (1 + szN deep)) (N0 % 4)
    (fun k e σ hk ⟨hσ, al, j, he, p1, p2, p3, p4⟩ => by
      subst hσ he
      have hkm : (k + 1) * (1 + szN deep) ≤ 3 * (1 + szN deep) := Nat.mul_le_mul_right _ (by omega)
      rw [Nat.succ_mul] at hkm
      have h1 := zdh (S := SCa d xs deep) rfl hR j (by omega) 0 σ0
      have hv1 := zfj hR.small j
      generalize pickM xs j = v at h1 hv1
      obtain ⟨g1, g2, g3, g4⟩ := zf5b v
      have h2 := zzx (S := SCa d xs deep) rfl ns (headM v).vars (by omega) 0 σ0
      obtain ⟨c, j', ⟨t1, t2, t3, t4, t5⟩, h3⟩ := zfk (S := SCa d xs deep) rfl hT (j + 1) (ns ++ (headM v).vars) ⟨by simp [h0], by rw [List.length_append]; omega, fun s hs => by
        rcases List.mem_append.1 hs with h | h
        · exact h5 s h
        · exact g3 s h, by omega⟩
      refine ⟨_, _, zh0b d ns deep N0 al j k v j' c hk hv hv1 (by omega) hd (by omega) (fun h => ?_) h1 h2 (h3 0 σ0), rfl, _, _, rfl, fun a ha => ?_, by simp; omega, ?_, ?_⟩
      · cases k with
        | zero => exact absurd (List.length_eq_zero_iff.1 p2) h
        | succ k => rfl
      · rcases List.mem_append.1 ha with h | h
        · exact p1 a h
        · rw [List.mem_singleton.1 h]
          exact ⟨g1, g2, g3, t1, t2, t4⟩
      · rw [ziw, Nat.succ_mul]
        simp only [szA]
        omega
      · rw [Nat.succ_mul]; omega)
    (fun e σ ⟨hσ, al, j, he, p1, p2, p3, p4⟩ => by
      subst hσ he
      exact ⟨_, zkjb d ns deep N0 al j, fun _ _ h => (by cases h), al, j, rfl, p1, p2, p3, p4⟩) 0 5 (Ecs d ns deep N0 [] (i + 1) 0) σ0 (by omega) (by omega)
    ⟨rfl, _, _, rfl, (fun a h => by cases h), rfl, by simp [szA], by omega⟩
  have hm1 : (N0 % 4) * (szT deep + 3) ≤ 3 * (szT deep + 3) := Nat.mul_le_mul_right _ (by omega)
  have hm2 : (N0 % 4) * (1 + szN deep) ≤ 3 * (1 + szN deep) := Nat.mul_le_mul_right _ (by omega)
  refine ⟨al, j, zap (af := a_136) (n := 5) (σ' := σ0) (zar (SCa d xs deep) 1) rfl rfl (by simp [zan, hR.np, noPtr, zas]) (by simp [noPtr, zan, zd7b]) ?_, q1, by omega, by omega⟩
  have wi := zaj (i := i) (by omega)
  have e0 : ow 0 = false := rfl
  have e1 : dAl [] = .nils := rfl
  simp only [Ecs, zeroI, e0, e1] at hr
  simp only [a_136, sA, Nat.reduceAdd, Nat.reduceSub, Nat.reduceMul, Nat.reduceBEq, Nat.reduceLeDiff, Int.reduceBEq, Int.reduceBNe, Int.reduceLE, Int.reduceLT, Int.reduceGE, Int.reduceGT, Int.reduceNeg, kn, hp, hF, wi, hr]
end Go.Fu
namespace Go.Fu
open Go Go.Mx
set_option maxRecDepth 10000
def spLf : List D → Cell → Prop := fun ds c => ∀ (v : Nat) ns, ds = [.int .i64 v, dSs ns] → ∃ co, c = ⟨false, dCo co⟩ ∧ Good ns co ∧ Shp 5 co ∧ co.size = 1 ∧ hgt co = 1
theorem zhvb {S : Specs} (hS : aget S n_106 = some spLf) (v : Nat) (hv : v < 9223372036854775808) (ns : List Tx) (h0 : ns ≠ []) (hn : ns.length < 1000) (h5 : ∀ s ∈ ns, s.length ≤ 5) : ∃ co, (Good ns co ∧ Shp 5 co ∧ co.size = 1 ∧ hgt co = 1) ∧ ∀ n σ, T S (n + 1) n_106 [.int .i64 v, dSs ns] σ = some (.ret ⟨false, dCo co⟩, σ) := by
  obtain ⟨co, h1, h2⟩ := ziyb v hv ns h0 hn h5
  obtain ⟨c, h3, h4⟩ := T_orc (S := S) hS rfl (c := ⟨false, dCo co⟩) (fun v' ns' e => by
    simp only [List.cons.injEq, D.int.injEq, true_and, and_true] at e
    obtain rfl := zbn e.2
    exact ⟨co, rfl, h2⟩) h1
  obtain ⟨co', rfl, h5⟩ := h3 v ns rfl
  exact ⟨co', h5, h4⟩
def spCa (d : D) (deep : Nat) : List D → Cell → Prop := fun ds c => ∀ (i : Nat) ns, ds = [d, .int .i64 i, dSs ns, .int .i64 (deep + 1 : Nat)] → ∃ al j, c = ⟨false, .tup [dAl al, .int .i64 (j : Nat)]⟩ ∧ AlOK ns deep i al j
theorem zhub {S : Specs} {d : D} {xs : List Int} {deep : Nat} (hS : aget S n_120 = some (spCa d deep)) (hR : IR d xs) (hT : TmHas d deep) (hd : deep < 1000) (i : Nat) (ns : List Tx) (h0 : ns ≠ []) (hl : ns.length + 2 * (deep + 1) ≤ 100) (h5 : ∀ s ∈ ns, s.length ≤ 5) (hi : i + 1 + 3 * (1 + szN deep) ≤ 1000000) :
    ∃ al j, AlOK ns deep i al j ∧ ∀ n σ, T S (n + 1) n_120 [d, .int .i64 i, dSs ns, .int .i64 (deep + 1 : Nat)] σ = some (.ret ⟨false, .tup [dAl al, .int .i64 (j : Nat)]⟩, σ) := by
  obtain ⟨al, j, h1, h2⟩ := zcub hR hT hd i ns h0 hl h5 hi
  obtain ⟨c, h3, h4⟩ := T_orc (S := S) hS rfl (c := ⟨false, .tup [dAl al, .int .i64 (j : Nat)]⟩) (fun i' ns' e => by
    simp only [List.cons.injEq, D.int.injEq, true_and, and_true] at e
    obtain rfl : i = i' := by omega
    obtain rfl := zbn e.2
    exact ⟨al, j, rfl, h2⟩) h1
  obtain ⟨al', j', rfl, h5⟩ := h3 i ns rfl
  exact ⟨al', j', h5, h4⟩
def STm (d : D) (xs : List Int) (deep : Nat) : Specs := [(n_17, zqu d xs), (n_106, spLf), (n_2, znr), (n_8, spTm d deep), (n_120, spCa d deep)]
theorem zjvb : ∀ d, 1 ≤ szT d
  | 0 => by simp [szT]
  | d + 1 => by simp only [szT]; omega
theorem zjub : ∀ d, 1 ≤ szN d
  | 0 => by simp [szN]
  | d + 1 => by simp only [szN]; omega
theorem zzk {d : D} {xs : List Int} (hR : IR d xs) (deep i : Nat) (ns : List Tx) (hp : PT ns deep i) (hc : deep = 0 ∨ pickM xs i % 8 < 2) (hd : deep < 1000) :
    ∃ co j, OkP n_8 [d, .int .i64 i, dSs ns, .int .i64 deep] ⟨false, .tup [dCo co, .int .i64 (j : Nat)]⟩ ∧ TmOK ns deep i co j := by
  obtain ⟨h0, hl, h5, hi⟩ := hp
  have h1 := zdh (S := STm d xs 0) rfl hR i (by omega) 0 σ0
  have hv := zfj hR.small i
  generalize pickM xs i = v at h1 hv hc
  obtain ⟨co, ⟨g1, g2, g3, g4⟩, h2⟩ := zhvb (S := STm d xs 0) rfl (v / 8) (by omega) ns h0 (by omega) h5
  have h2 := h2 0 σ0
  have d8 : ((v : Int)).tdiv 8 = ((v / 8 : Nat) : Int) := tdivN v 8
  have w8 : IntKind.i64.wrap ((v / 8 : Nat) : Int) = ((v / 8 : Nat) : Int) := zbu (by omega) (by omega)
  have t8 : ((v : Int)).tmod 8 = ((v % 8 : Nat) : Int) := tmodN v 8
  have wi := zaj (i := i) (by omega)
  have hN := zjub deep
  have hT := zjvb deep
  refine ⟨co, i + 1, zap (af := a_18) (n := 1) (σ' := σ0) (zar (STm d xs 0) 1) rfl rfl (by simp [zan, hR.np, noPtr, zas]) (by simp [noPtr, zan, za5]) ?_, g1, g2, by omega, by omega, by omega⟩
  simp only [zae, zai] at h2 ⊢
  by_cases hd0 : deep = 0
  · subst hd0
    have hle : (((0 : Nat) : Int) ≤ 0) := by omega
    simp only [a_18, sA, Nat.reduceAdd, Nat.reduceSub, Nat.reduceMul, Nat.reduceBEq, Nat.reduceLeDiff, Int.reduceBEq, Int.reduceBNe, Int.reduceLE, Int.reduceLT, Int.reduceGE, Int.reduceGT, Int.reduceNeg, kn, h1, wi, hle, d8, w8, h2, onel, okl, celll]
  · have hle : ¬ ((deep : Int) ≤ 0) := by omega
    have hlt : (((v % 8 : Nat) : Int) < 2) := by omega
    simp only [a_18, sA, Nat.reduceAdd, Nat.reduceSub, Nat.reduceMul, Nat.reduceBEq, Nat.reduceLeDiff, Int.reduceBEq, Int.reduceBNe, Int.reduceLE, Int.reduceLT, Int.reduceGE, Int.reduceGT, Int.reduceNeg, kn, h1, wi, hle, t8, hlt, d8, w8, h2, onel, okl, celll]
end Go.Fu
namespace Go.Fu
open Go Go.Mx
set_option maxRecDepth 10000
set_option maxHeartbeats 4000000
theorem zdjb {m : Nat} : ∀ l : List (Tx × Co), (∀ x ∈ l, hgt x.2 ≤ m) → hgB l ≤ m
  | [], _ => by simp [hgB]
  | (s, y) :: r, h => by
    have h1 := h (s, y) (by simp)
    have h2 := zdjb r fun x hx => h x (List.mem_cons_of_mem _ hx)
    simp only [hgB] at h1 ⊢
    omega
theorem zdib {m : Nat} : ∀ l : List (Hd × Co), (∀ x ∈ l, hgt x.2 ≤ m) → hgA l ≤ m
  | [], _ => by simp [hgA]
  | (s, y) :: r, h => by
    have h1 := h (s, y) (by simp)
    have h2 := zdib r fun x hx => h x (List.mem_cons_of_mem _ hx)
    simp only [hgA] at h1 ⊢
    omega
theorem zh4 {D : Nat} (h : D < 1000) : IntKind.i64.wrap (((D + 1 : Nat) : Int) - 1) = (D : Int) := by rw [zbu (by omega) (by omega)]; omega
theorem tm_mk {d : D} {xs : List Int} (hR : IR d xs) {D i j : Nat} {ns : List Tx} {co : Co} {o : Bool} (hr : finX Ra (fun _ _ _ => none) a_18 0 (exec (T (STm d xs D) 1) 5 none a_18.body (zbp [d, .int .i64 i, dSs ns, .int .i64 (D + 1 : Nat)]) σ0) = some (.ret ⟨o, .tup [dCo co, .int .i64 j]⟩, σ0)) :
    OkP n_8 [d, .int .i64 i, dSs ns, .int .i64 (D + 1 : Nat)] ⟨false, .tup [dCo co, .int .i64 (j : Nat)]⟩ :=
  OkP.weak (o := o) rfl (zap (af := a_18) (n := 5) (σ' := σ0) (zar (STm d xs D) 1) rfl rfl (by simp [zan, hR.np, noPtr, zas]) (by simp [noPtr, zan, za5]) hr)
theorem zjyb {d : D} {xs : List Int} (hR : IR d xs) (D i : Nat) (ns : List Tx) (hp : PT ns (D + 1) i) (hc : pickM xs i % 8 = 5) (hd : D < 1000) :
    ∃ co j, OkP n_8 [d, .int .i64 i, dSs ns, .int .i64 (D + 1 : Nat)] ⟨false, .tup [dCo co, .int .i64 (j : Nat)]⟩ ∧ TmOK ns (D + 1) i co j := by
  obtain ⟨h0, hl, h5, hi⟩ := hp
  have h1 := zdh (S := STm d xs D) rfl hR i (by omega) 0 σ0
  have hv := zfj hR.small i
  generalize pickM xs i = v at h1 hv hc
  have t8 : ((v : Int)).tmod 8 = 5 := by rw [show ((v : Int)).tmod 8 = ((v % 8 : Nat) : Int) from tmodN v 8, hc]; rfl
  have wi := zaj (i := i) (by omega)
  have hle : ¬ (((D + 1 : Nat) : Int) ≤ 0) := by omega
  refine ⟨.mk 11 0 [] [] [] [], i + 1, tm_mk hR (o := false) ?_, .fail, .leaf (.inr (.inr (.inr rfl))) zS (by simp), by simp only [Co.size, szK, szB, szA, szT]; omega, by simp [hgt, hgK, hgB, hgA], by simp only [szN]; omega⟩
  simp only [a_18, sA, Nat.reduceAdd, Nat.reduceSub, Nat.reduceMul, Nat.reduceBEq, Nat.reduceLeDiff, Int.reduceBEq, Int.reduceBNe, Int.reduceLE, Int.reduceLT, Int.reduceGE, Int.reduceGT, Int.reduceNeg, kn, h1, wi, hle, t8, zae, zai, co]
  rfl
theorem zlvb {d : D} {xs : List Int} (hR : IR d xs) (D i : Nat) (hT : TmHas d D) (ns : List Tx) (hp : PT ns (D + 1) i) (hc : pickM xs i % 8 = 6 ∨ pickM xs i % 8 = 7) (hd : D < 1000) :
    ∃ co j, OkP n_8 [d, .int .i64 i, dSs ns, .int .i64 (D + 1 : Nat)] ⟨false, .tup [dCo co, .int .i64 (j : Nat)]⟩ ∧ TmOK ns (D + 1) i co j := by
  obtain ⟨h0, hl, h5, hi⟩ := hp
  simp only [szN] at hi
  have h1 := zdh (S := STm d xs D) rfl hR i (by omega) 0 σ0
  have hv := zfj hR.small i
  generalize pickM xs i = v at h1 hv hc
  have wi := zaj (i := i) (by omega)
  have wd := zh4 hd
  have hle : ¬ (((D + 1 : Nat) : Int) ≤ 0) := by omega
  obtain ⟨a, j1, ⟨a1, a2, a3, a4, a5⟩, h2⟩ := zfk (S := STm d xs D) rfl hT (i + 1) ns ⟨h0, by omega, h5, by omega⟩
  obtain ⟨b, j2, ⟨b1, b2, b3, b4, b5⟩, h3⟩ := zfk (S := STm d xs D) rfl hT j1 ns ⟨h0, by omega, h5, by omega⟩
  have h2 := h2 0 σ0
  have h3 := h3 0 σ0
  have hsz : (Co.mk 4 0 [] [a, b] [] []).size = 1 + a.size + b.size := by simp only [Co.size, szK, szB, szA]; omega
  refine ⟨.mk 4 0 [] [a, b] [] [], j2, tm_mk hR (o := false) ?_, .app a1 b1, .app (by simp) a2 b2, by rw [hsz]; simp only [szT]; omega, by simp only [hgt, hgK, hgB, hgA]; omega, by simp only [szN]; omega⟩
  have eC : dCs [a, b] = .list k_6 [dCo a, dCo b] := rfl
  rcases hc with hc | hc
  · have t8 : ((v : Int)).tmod 8 = 6 := by rw [show ((v : Int)).tmod 8 = ((v % 8 : Nat) : Int) from tmodN v 8, hc]; rfl
    rw [zae (.mk 4 0 [] [a, b] [] []), zai]
    simp only [co, eC]
    simp only [zae, zai] at h2 h3 ⊢
    simp only [a_18, sA, Nat.reduceAdd, Nat.reduceSub, Nat.reduceMul, Nat.reduceBEq, Nat.reduceLeDiff, Int.reduceBEq, Int.reduceBNe, Int.reduceLE, Int.reduceLT, Int.reduceGE, Int.reduceGT, Int.reduceNeg, kn, h1, wi, wd, hle, t8, h2, h3, onel, okl, celll]
    rfl
  · have t8 : ((v : Int)).tmod 8 = 7 := by rw [show ((v : Int)).tmod 8 = ((v % 8 : Nat) : Int) from tmodN v 8, hc]; rfl
    rw [zae (.mk 4 0 [] [a, b] [] []), zai]
    simp only [co, eC]
    simp only [zae, zai] at h2 h3 ⊢
    simp only [a_18, sA, Nat.reduceAdd, Nat.reduceSub, Nat.reduceMul, Nat.reduceBEq, Nat.reduceLeDiff, Int.reduceBEq, Int.reduceBNe, Int.reduceLE, Int.reduceLT, Int.reduceGE, Int.reduceGT, Int.reduceNeg, kn, h1, wi, wd, hle, t8, h2, h3, onel, okl, celll]
    rfl
end Go.Fu
namespace Go.Fu
open Go Go.Mx
set_option maxRecDepth 10000
set_option maxHeartbeats 4000000
def all6 : List Tx := [[97, 100, 100], [115, 117, 98], [109, 117, 108], [100, 105, 118], [101, 113], [108, 116]]
theorem zhpb : ∀ s ∈ all6, (primM s == []) = false ∧ s.length ≤ 5 := by decide
theorem zjzb {d : D} {xs : List Int} (hR : IR d xs) (D i : Nat) (hT : TmHas d D) (ns : List Tx) (hp : PT ns (D + 1) i) (hc : pickM xs i % 8 = 3) (hd : D < 1000) :
    ∃ co j, OkP n_8 [d, .int .i64 i, dSs ns, .int .i64 (D + 1 : Nat)] ⟨false, .tup [dCo co, .int .i64 (j : Nat)]⟩ ∧ TmOK ns (D + 1) i co j := by
  obtain ⟨h0, hl, h5, hi⟩ := hp
  simp only [szN] at hi
  have h1 := zdh (S := STm d xs D) rfl hR i (by omega) 0 σ0
  have hv := zfj hR.small i
  generalize pickM xs i = v at h1 hv hc
  have wi := zaj (i := i) (by omega)
  have wd := zh4 hd
  have hle : ¬ (((D + 1 : Nat) : Int) ≤ 0) := by omega
  obtain ⟨a, j1, ⟨a1, a2, a3, a4, a5⟩, h2⟩ := zfk (S := STm d xs D) rfl hT (i + 1) ns ⟨h0, by omega, h5, by omega⟩
  obtain ⟨b, j2, ⟨b1, b2, b3, b4, b5⟩, h3⟩ := zfk (S := STm d xs D) rfl hT j1 ns ⟨h0, by omega, h5, by omega⟩
  have h2 := h2 0 σ0
  have h3 := h3 0 σ0
  have d8 : ((v : Int)).tdiv 8 = ((v / 8 : Nat) : Int) := tdivN v 8
  have w8 : IntKind.i64.wrap ((v / 8 : Nat) : Int) = ((v / 8 : Nat) : Int) := zbu (by omega) (by omega)
  have t6 : (((v / 8 : Nat) : Int)).tmod 6 = ((v / 8 % 6 : Nat) : Int) := tmodN _ 6
  have hj : v / 8 % 6 < all6.length := Nat.mod_lt _ (by decide)
  have hx := idx_S all6 _ hj
  have hs := zhpb _ (List.getElem_mem hj)
  generalize all6[v / 8 % 6] = s at hx hs
  have hx : za7 1 (.list k_1 [.str [97, 100, 100], .str [115, 117, 98], .str [109, 117, 108], .str [100, 105, 118], .str [101, 113], .str [108, 116]]) (v / 8 % 6) = some (.eptr (.str s)) := hx
  have hsz : (Co.mk 10 0 s [a, b] [] []).size = 1 + a.size + b.size := by simp only [Co.size, szK, szB, szA]; omega
  refine ⟨.mk 10 0 s [a, b] [] [], j2, tm_mk hR (o := false) ?_, .prim hs.1 a1 b1, .prim hs.2 a2 b2, by rw [hsz]; simp only [szT]; omega, by simp only [hgt, hgK, hgB, hgA]; omega, by simp only [szN]; omega⟩
  have eC : dCs [a, b] = .list k_6 [dCo a, dCo b] := rfl
  have t8 : ((v : Int)).tmod 8 = 3 := by rw [show ((v : Int)).tmod 8 = ((v % 8 : Nat) : Int) from tmodN v 8, hc]; rfl
  rw [zae (.mk 10 0 s [a, b] [] []), zai]
  simp only [co, eC]
  simp only [zae, zai] at h2 h3 ⊢
  simp only [a_18, sA, Nat.reduceAdd, Nat.reduceSub, Nat.reduceMul, Nat.reduceBEq, Nat.reduceLeDiff, Int.reduceBEq, Int.reduceBNe, Int.reduceLE, Int.reduceLT, Int.reduceGE, Int.reduceGT, Int.reduceNeg, kn, h1, wi, wd, hle, t8, h2, h3, onel, okl, celll, d8, w8, t6, natI, hx]
  rfl
theorem zjxb {d : D} {xs : List Int} (hR : IR d xs) (D i : Nat) (hT : TmHas d D) (ns : List Tx) (hp : PT ns (D + 1) i) (hc : pickM xs i % 8 = 2) (hd : D < 1000) :
    ∃ co j, OkP n_8 [d, .int .i64 i, dSs ns, .int .i64 (D + 1 : Nat)] ⟨false, .tup [dCo co, .int .i64 (j : Nat)]⟩ ∧ TmOK ns (D + 1) i co j := by
  obtain ⟨h0, hl, h5, hi⟩ := hp
  simp only [szN] at hi
  have h1 := zdh (S := STm d xs D) rfl hR i (by omega) 0 σ0
  have hv := zfj hR.small i
  generalize pickM xs i = v at h1 hv hc
  have wi := zaj (i := i) (by omega)
  have wd := zh4 hd
  have hle : ¬ (((D + 1 : Nat) : Int) ≤ 0) := by omega
  obtain ⟨a, j1, ⟨a1, a2, a3, a4, a5⟩, h2⟩ := zfk (S := STm d xs D) rfl hT (i + 1) ns ⟨h0, by omega, h5, by omega⟩
  obtain ⟨al, j2, ⟨b1, b2, b3⟩, h3⟩ := zhub (S := STm d xs D) rfl hR hT hd j1 ns h0 hl h5 (by omega)
  have h2 := h2 0 σ0
  have h3 := h3 0 σ0
  have hsz : (Co.mk 9 0 [] [a] [] al).size = 1 + a.size + szA al := by simp only [Co.size, szK, szB]; omega
  have hh := zdib al fun x hx => (b1 x hx).2.2.2.2.2
  refine ⟨.mk 9 0 [] [a] [] al, j2, tm_mk hR (o := false) ?_, .cas a1 (fun x hx => (b1 x hx).1) (fun x hx => (b1 x hx).2.2.2.1), .cas (by simp) (fun x hx => ⟨(b1 x hx).1.1, (b1 x hx).2.1, (b1 x hx).2.2.1⟩) a2 (fun x hx => (b1 x hx).2.2.2.2.1), by rw [hsz]; simp only [szT]; omega, by simp only [hgt, hgK, hgB]; omega, by simp only [szN]; omega⟩
  have eC : dCs [a] = .list k_6 [dCo a] := rfl
  have t8 : ((v : Int)).tmod 8 = 2 := by rw [show ((v : Int)).tmod 8 = ((v % 8 : Nat) : Int) from tmodN v 8, hc]; rfl
  rw [zae (.mk 9 0 [] [a] [] al), zai]
  simp only [co, eC]
  simp only [zae, zai] at h2 h3 ⊢
  simp only [a_18, sA, Nat.reduceAdd, Nat.reduceSub, Nat.reduceMul, Nat.reduceBEq, Nat.reduceLeDiff, Int.reduceBEq, Int.reduceBNe, Int.reduceLE, Int.reduceLT, Int.reduceGE, Int.reduceGT, Int.reduceNeg, kn, h1, wi, wd, hle, t8, h2, h3, onel, okl, celll]
  rfl
end Go.Fu

/-
  The maker of patterns: what it holds; what is of any type, numbers.
-/
import Derived.Test.YtmhedpkbfaginaaGreatDoorFlZc
set_option maxHeartbeats 4000000
set_option linter.unusedSimpArgs false
set_option linter.unusedVariables false
set_option linter.unusedSectionVars false
set_option linter.defProp false
namespace Go.Fu
open Go Go.Mx
set_option maxRecDepth 100000
set_option maxHeartbeats 1000000
structure Fx (σ σ' : Store) (X : Nat → Prop) (m : Nat) : Prop where
  le : σ.next ≤ σ'.next
  objs : ∀ j, j < σ.next → ¬ X j → aget σ'.objs j = aget σ.objs j
  oth : ∀ j, j < σ.next → j ≠ m → aget σ'.oth j = aget σ.oth j
  tys : ∀ j, j < σ.next → ¬ X j → aget σ'.tys j = aget σ.tys j
theorem Fx.refl (σ : Store) (X : Nat → Prop) (m : Nat) : Fx σ σ X m := ⟨Nat.le_refl _, fun _ _ _ => rfl, fun _ _ _ => rfl, fun _ _ _ => rfl⟩
theorem Fx.trans {a b c : Store} {X Y : Nat → Prop} {m : Nat} (h : Fx a b X m) (k : Fx b c Y m) (hY : ∀ j, j < a.next → Y j → X j) : Fx a c X m :=
  ⟨Nat.le_trans h.le k.le, fun j hj hx => (k.objs j (Nat.lt_of_lt_of_le hj h.le) fun y => hx (hY j hj y)).trans (h.objs j hj hx), fun j hj hm => (k.oth j (Nat.lt_of_lt_of_le hj h.le) hm).trans (h.oth j hj hm), fun j hj hx => (k.tys j (Nat.lt_of_lt_of_le hj h.le) fun y => hx (hY j hj y)).trans (h.tys j hj hx)⟩
theorem Fx.mono {a b : Store} {X Y : Nat → Prop} {m : Nat} (h : Fx a b X m) (hX : ∀ j, j < a.next → X j → Y j) : Fx a b Y m :=
  ⟨h.le, fun j hj hy => h.objs j hj fun x => hy (hX j hj x), h.oth, fun j hj hy => h.tys j hj fun x => hy (hX j hj x)⟩
theorem Fr.fx {a b : Store} (h : Fr a b) (X : Nat → Prop) (m : Nat) : Fx a b X m := ⟨h.le, fun j hj _ => h.objs j hj, fun j hj _ => h.oth j hj, fun j hj _ => h.tys j hj⟩
theorem Fp.fx {a b : Store} {p m : Nat} (h : Fp a b p m) : Fx a b (fun j => j = p) m := ⟨h.le, fun j hj hx => h.objs j hj hx, h.oth, fun j hj _ => h.tys j hj⟩
theorem fx_SO (σ : Store) (p : Nat) (cs : List Cell) (m : Nat) : Fx σ (SO σ p cs) (fun j => j = p) m :=
  ⟨Nat.le_refl _, fun j _ hx => agB _ _ _ (beq_false_of_ne fun e => hx e.symm) _, fun _ _ _ => rfl, fun _ _ _ => rfl⟩
def vid : D → Option Nat
  | .arr _ id _ _ => some id
  | _ => none
inductive VA (σ : Store) (c : Nat) : D → Prop
  | nil : VA σ c .nils
  | arr {id len : Nat} {cs : List Cell} (h1 : aget σ.objs id = some cs) (h2 : len * 5 ≤ cs.length) (h3 : aget σ.tys id = some ⟨k_16.el, k_16.sz⟩) (h4 : id < σ.next) (h5 : len ≤ c) : VA σ c (.arr k_16 id 0 len)
def LW : List Da := pre3 ++ worldM
structure MI (σ : Store) (pm pc mc ps m n : Nat) (K : Kn) (v : D) (c : Nat) : Prop where
  obj : aget σ.objs pm = some [⟨false, .ptr pc 0⟩, ⟨false, .ptr ps 0⟩, ⟨false, v⟩]
  lt : pm < σ.next
  sk : SK σ ps m n K
  pn : PN σ pc mc LW (conAts LW 0)
  ltc : mc < σ.next
  va : VA σ c v
  ne1 : pm ≠ ps
  ne2 : pm ≠ pc
  ne3 : ps ≠ pc
  ne4 : m ≠ mc
  nv : ∀ j, vid v = some j → j ≠ pm ∧ j ≠ ps ∧ j ≠ pc
theorem VA.fx {σ σ' : Store} {c : Nat} {v : D} {X : Nat → Prop} {m : Nat} (h : VA σ c v) (hf : Fx σ σ' X m) (hX : ∀ j, vid v = some j → ¬ X j) : VA σ' c v := by
  cases h with
  | nil => exact .nil
  | arr h1 h2 h3 h4 h5 => exact .arr ((hf.objs _ h4 (hX _ rfl)).trans h1) h2 ((hf.tys _ h4 (hX _ rfl)).trans h3) (Nat.lt_of_lt_of_le h4 hf.le) h5
theorem VA.lt {σ : Store} {c : Nat} {v : D} (h : VA σ c v) : ∀ j, vid v = some j → j < σ.next := by
  cases h with
  | nil => intro j h; cases h
  | arr h1 h2 h3 h4 h5 =>
    intro j h
    cases h
    exact h4
theorem VA.mono {σ : Store} {c d : Nat} {v : D} (h : VA σ c v) (hd : c ≤ d) : VA σ d v := by
  cases h with
  | nil => exact .nil
  | arr h1 h2 h3 h4 h5 => exact .arr h1 h2 h3 h4 (by omega)
theorem MI.fx {σ σ' : Store} {pm pc mc ps m n : Nat} {K : Kn} {v : D} {c : Nat} (h : MI σ pm pc mc ps m n K v c) {X : Nat → Prop} (hf : Fx σ σ' X m) (h1 : ¬ X pm) (h3 : ¬ X pc) (h4 : ∀ j, vid v = some j → ¬ X j) {n' : Nat} {K' : Kn} (hs : SK σ' ps m n' K') : MI σ' pm pc mc ps m n' K' v c :=
  ⟨(hf.objs _ h.lt h1).trans h.obj, Nat.lt_of_lt_of_le h.lt hf.le, hs, ⟨(hf.objs _ h.pn.lt h3).trans h.pn.obj, (hf.oth _ h.ltc (Ne.symm h.ne4)).trans h.pn.map, Nat.lt_of_lt_of_le h.pn.lt hf.le⟩, Nat.lt_of_lt_of_le h.ltc hf.le, h.va.fx hf h4, h.ne1, h.ne2, h.ne3, h.ne4, h.nv⟩
theorem SK.fx {σ σ' : Store} {p m n : Nat} {K : Kn} (h : SK σ p m n K) {X : Nat → Prop} {m' : Nat} (hf : Fx σ σ' X m') (h1 : ¬ X p) (h2 : m ≠ m') : SK σ' p m n K :=
  ⟨(hf.objs _ h.lt h1).trans h.obj, (hf.oth _ h.ltm h2).trans h.map, Nat.lt_of_lt_of_le h.lt hf.le, Nat.lt_of_lt_of_le h.ltm hf.le⟩
theorem MI.fr {σ σ' : Store} {pm pc mc ps m n : Nat} {K : Kn} {v : D} {c : Nat} (h : MI σ pm pc mc ps m n K v c) (hf : Fr σ σ') : MI σ' pm pc mc ps m n K v c :=
  h.fx (hf.fx (fun _ => False) m) (fun x => x) (fun x => x) (fun _ _ x => x) (SB.fr h.sk hf)
def XM (pm ps : Nat) (v : D) (j : Nat) : Prop := j = ps ∨ j = pm ∨ vid v = some j
theorem mStoreP {σ : Store} {k : Nat} {x y : AOpd} {e : Env} : memOp (.storeP k x y) e σ = bindO (addr e x) fun p => bindO (opd e y) fun c => match p with
    | .ptr id off => bindO (aget σ.objs id) fun cs => ifB (fits ⟨false, c.d⟩ k off cs) (some (.undef, SO σ id (putCells cs off (layCells ⟨false, c.d⟩)))) none
    | _ => none := rfl
end Go.Fu
namespace Go.Fu
open Go Go.Mx
set_option maxRecDepth 100000
set_option maxHeartbeats 1000000
def kstar : D := .agg [.int .i64 2, .int .i64 0, .nils]
def kcD : Nat → D
  | 0 => kstar
  | n + 1 => .agg [.int .i64 3, .int .i64 0, .list k_3 [kstar, kcD n]]
def kf : Nat → Int
  | 0 => 2
  | _ + 1 => 3
def ka : Nat → D
  | 0 => .nils
  | n + 1 => .list k_3 [kcD 0, kcD n]
theorem kcD_eq (n : Nat) : kcD n = .agg [.int .i64 (kf n), .int .i64 0, ka n] := by cases n <;> rfl
theorem ok_ka (n : Nat) : (ka n).ok = true := by cases n <;> rfl
theorem one_ka (n : Nat) : (ka n).one = true := by cases n <;> rfl
theorem cells_ka (n : Nat) : (ka n).cells = [ka n] := by cases n <;> rfl
theorem kf_ne (n : Nat) : (kf n == 1) = false := by cases n <;> rfl
def kvD (k : Int) : D := .agg [.int .i64 1, .int .i64 k, .nils]
def dKc (l : List Nat) : D := dlist k_3 (l.map kcD)
theorem len_Kc (l : List Nat) : lenOf (dKc l) = some l.length := len_map _ l
theorem idx_Kc (l : List Nat) (i : Nat) (h : i < l.length) : indexD 3 (dKc l) i = some (.eptr (kcD l[i])) := idx_map rfl _ _ _ h
theorem ok_dKc (l : List Nat) : (dKc l).ok = true := ok_dlist
theorem one_dKc (l : List Nat) : (dKc l).one = true := one_dl _ _
theorem cells_dKc (l : List Nat) : (dKc l).cells = [dKc l] := cells_dlist
set_option linter.defProp false in
def kon := And.intro @ok_ka (And.intro @one_ka (And.intro @cells_ka (And.intro @ok_dKc (And.intro @one_dKc @cells_dKc))))
theorem terms_pure : ∀ n, n < 4 → OkP n_23 [dKl n] ⟨false, dKc (List.replicate n 0)⟩
  | 0, _ => closed 20 rfl (by kernel_rfl) (by kernel_rfl) (σ' := σ0) (by kernel_rfl)
  | 1, _ => OkP.weak (o := true) rfl (closed 20 rfl (by kernel_rfl) (by kernel_rfl) (σ' := σ0) (by kernel_rfl))
  | 2, _ => OkP.weak (o := true) rfl (closed 20 rfl (by kernel_rfl) (by kernel_rfl) (σ' := σ0) (by kernel_rfl))
  | 3, _ => OkP.weak (o := true) rfl (closed 20 rfl (by kernel_rfl) (by kernel_rfl) (σ' := σ0) (by kernel_rfl))
theorem copied_pure : ∀ n, n < 4 → OkP n_9 [kcD n] ⟨false, kcD n⟩
  | 0, _ => closed 20 rfl (by kernel_rfl) (by kernel_rfl) (σ' := σ0) (by kernel_rfl)
  | 1, _ => closed 20 rfl (by kernel_rfl) (by kernel_rfl) (σ' := σ0) (by kernel_rfl)
  | 2, _ => closed 20 rfl (by kernel_rfl) (by kernel_rfl) (σ' := σ0) (by kernel_rfl)
  | 3, _ => closed 20 rfl (by kernel_rfl) (by kernel_rfl) (σ' := σ0) (by kernel_rfl)
section
variable {C : CallF} {n : Nat} {σ : Store}
def z3k : List Cell := [⟨false, .int .i64 0⟩, ⟨false, .int .i64 0⟩, ⟨false, .nils⟩]
def Ekl (p : Nat) (f k : Int) (a : D) : Env := { slots := [(0, ⟨false, .ptr p 0⟩)], locs := [(3, 3, 0), (4, 4, 0)], boxes := [(3, [⟨false, .int .i64 f⟩, ⟨false, .int .i64 k⟩, ⟨false, a⟩]), (4, z3k)], defers := [] }
theorem kl_step {p m c q : Nat} {es : List (D × D × Nat)} (h : SB σ p m q es c) (k : Int) (j : Nat) {b i : Nat} (hs : findM (.int .i64 k) es = some (some (kcD j, b, i))) : exec C n none a_27 (Ekl p 1 k .nils) σ = some (.normal, Ekl p (kf j) 0 (ka j), σ) := by
  have ho := h.obj
  have hma : mapOf σ.oth (.map m) = some es := by simp only [mapOf, h.map, bindO, caseO_some]
  have hkd : keyD false (.int .i64 k) = true := rfl
  have z : ((1 : Int) == 1) = true := rfl
  rw [kcD_eq] at hs
  simp only [a_27, Ekl, z3k, sA, Nat.reduceAdd, Nat.reduceSub, Nat.reduceMul, Nat.reduceBEq, Nat.reduceLeDiff, Int.reduceBEq, Int.reduceBNe, Int.reduceLE, Int.reduceLT, Int.reduceGE, Int.reduceGT, Int.reduceNeg, kn, onel, kon, ho, hma, hkd, hs, z]
theorem kl_free {p m c q : Nat} {es : List (D × D × Nat)} (h : SB σ p m q es c) (k : Int) (hn : findM (.int .i64 k) es = some none) : exec C n none a_27 (Ekl p 1 k .nils) σ = some (.ret, { slots := [], locs := [(4, 4, 0)], boxes := [(4, [⟨false, .int .i64 1⟩, ⟨false, .int .i64 k⟩, ⟨false, .nils⟩])], defers := [] }, σ) := by
  have ho := h.obj
  have hma : mapOf σ.oth (.map m) = some es := by simp only [mapOf, h.map, bindO, caseO_some]
  have hkd : keyD false (.int .i64 k) = true := rfl
  have z : ((1 : Int) == 1) = true := rfl
  simp only [a_27, Ekl, z3k, sA, Nat.reduceAdd, Nat.reduceSub, Nat.reduceMul, Nat.reduceBEq, Nat.reduceLeDiff, Int.reduceBEq, Int.reduceBNe, Int.reduceLE, Int.reduceLT, Int.reduceGE, Int.reduceGT, Int.reduceNeg, kn, onel, kon, ho, hma, hkd, hn, z]
theorem kl_done (p : Nat) (f k : Int) (a : D) (h1 : (f == 1) = false) : exec C n none a_27 (Ekl p f k a) σ = some (.exit 0, { Ekl p f k a with slots := [(0, ⟨false, .ptr p 0⟩), (9, ⟨false, .bool false⟩)] }, σ) := by
  simp only [a_27, Ekl, z3k, sA, Nat.reduceAdd, Nat.reduceSub, Nat.reduceMul, Nat.reduceBEq, Nat.reduceLeDiff, Int.reduceBEq, Int.reduceBNe, Int.reduceLE, Int.reduceLT, Int.reduceGE, Int.reduceGT, Int.reduceNeg, kn, onel, h1]
end
def KindS (S : Specs) : Prop := has S n_14 = false ∧ has S n_133 = false ∧ has S n_134 = false ∧ has S n_158 = false ∧ has S n_159 = false ∧ has S n_132 = false ∧ has S n_31 = false ∧ has S n_150 = false ∧ has S n_153 = false ∧ has S n_151 = false ∧ has S n_148 = false ∧ has S n_73 = false ∧ has S n_126 = false ∧ has S n_146 = false
theorem klook_c {S : Specs} (hS : KindS S) (p j n : Nat) (σ : Store) : T S (n + 2) n_14 [.ptr p 0, kcD j] σ = some (.ret ⟨false, kcD j⟩, σ) := by
  rw [T_fun (af := a_13) hS.1 rfl rfl]
  have hr := loopN_stop (n := n) (kl_done (C := T S (n + 1)) (n := n + 1) (σ := σ) p (kf j) 0 (ka j) (kf_ne j))
  unfold Ekl at hr
  simp only [z3k] at hr
  rw [kcD_eq]
  simp only [a_13, sA, Nat.reduceAdd, Nat.reduceSub, Nat.reduceMul, Nat.reduceBEq, Nat.reduceLeDiff, Int.reduceBEq, Int.reduceBNe, Int.reduceLE, Int.reduceLT, Int.reduceGE, Int.reduceGT, Int.reduceNeg, kn, onel, kon, hr]
theorem klook_v {S : Specs} (hS : KindS S) {p m c q : Nat} {es : List (D × D × Nat)} {σ : Store} (h : SB σ p m q es c) (k : Int) (j : Nat) {b i : Nat} (hs : findM (.int .i64 k) es = some (some (kcD j, b, i))) (n : Nat) : T S (n + 3) n_14 [.ptr p 0, kvD k] σ = some (.ret ⟨false, kcD j⟩, σ) := by
  rw [T_fun (af := a_13) hS.1 rfl rfl]
  have hr := (loopN_succ (n := n + 1) (kl_step (C := T S (n + 2)) (n := n + 2) h k j hs)).trans (loopN_stop (kl_done (C := T S (n + 2)) (n := n + 2) (σ := σ) p (kf j) 0 (ka j) (kf_ne j)))
  unfold Ekl at hr
  simp only [z3k] at hr
  rw [kcD_eq, kvD]
  simp only [a_13, sA, Nat.reduceAdd, Nat.reduceSub, Nat.reduceMul, Nat.reduceBEq, Nat.reduceLeDiff, Int.reduceBEq, Int.reduceBNe, Int.reduceLE, Int.reduceLT, Int.reduceGE, Int.reduceGT, Int.reduceNeg, kn, onel, kon, hr]
theorem klook_n {S : Specs} (hS : KindS S) {p m c q : Nat} {es : List (D × D × Nat)} {σ : Store} (h : SB σ p m q es c) (k : Int) (hn : findM (.int .i64 k) es = some none) (n : Nat) : T S (n + 2) n_14 [.ptr p 0, kvD k] σ = some (.ret ⟨false, kvD k⟩, σ) := by
  rw [T_fun (af := a_13) hS.1 rfl rfl]
  have hr := loopN_ret (n := n) (kl_free (C := T S (n + 1)) (n := n + 1) h k hn)
  unfold Ekl at hr
  simp only [z3k] at hr
  rw [kvD]
  simp only [a_13, sA, Nat.reduceAdd, Nat.reduceSub, Nat.reduceMul, Nat.reduceBEq, Nat.reduceLeDiff, Int.reduceBEq, Int.reduceBNe, Int.reduceLE, Int.reduceLT, Int.reduceGE, Int.reduceGT, Int.reduceNeg, kn, onel, kon, hr]
end Go.Fu
namespace Go.Fu
open Go Go.Mx
set_option maxRecDepth 100000
set_option maxHeartbeats 1000000
section
variable {C : CallF} {n : Nat} {σ : Store}
def Exk (L : List Nat) (g : D) (i : Nat) : Env := { slots := [(0, ⟨false, dKc L⟩), (1, ⟨false, g⟩), (7, ⟨false, .int .i64 L.length⟩), (8, ⟨false, .int .i64 i⟩)], locs := [], boxes := [], defers := [] }
theorem xk_step (L : List Nat) (g : D) (fid : Nat) (ca : List D) (hg : D.fn? g = some (fid, [], ca)) (i : Nat) (h : i < L.length) (hl : L.length < 1000000000) {σ' : Store} (h1 : C fid (kcD L[i] :: ca) σ = some (.ret ⟨false, .bool false⟩, σ')) : exec C n none a_55 (Exk L g i) σ = some (.normal, Exk L g (i + 1), σ') := by
  have hlt : ((i : Int) < (L.length : Int)) := by omega
  have w := wrap64_succ (i := i) (by omega)
  have hx := idx_Kc L i h
  generalize L[i] = f at hx h1
  rw [kcD_eq] at hx h1
  simp only [a_55, Exk, sA, Nat.reduceAdd, Nat.reduceSub, Nat.reduceMul, Nat.reduceBEq, Nat.reduceLeDiff, Int.reduceBEq, Int.reduceBNe, Int.reduceLE, Int.reduceLT, Int.reduceGE, Int.reduceGT, Int.reduceNeg, kn, onel, kon, hlt, natI, hx, hg, h1, w]
theorem xk_end (L : List Nat) (g : D) : exec C n none a_55 (Exk L g L.length) σ = some (.exit 0, { slots := [(0, ⟨false, dKc L⟩), (1, ⟨false, g⟩), (7, ⟨false, .int .i64 L.length⟩), (8, ⟨false, .int .i64 L.length⟩), (9, ⟨false, .bool false⟩)], locs := [], boxes := [], defers := [] }, σ) := by
  have hlt : ¬ ((L.length : Int) < (L.length : Int)) := by omega
  simp only [a_55, Exk, sA, Nat.reduceAdd, Nat.reduceSub, Nat.reduceMul, Nat.reduceBEq, Nat.reduceLeDiff, Int.reduceBEq, Int.reduceBNe, Int.reduceLE, Int.reduceLT, Int.reduceGE, Int.reduceGT, Int.reduceNeg, kn, onel, hlt]
end
theorem xk_loop {S : Specs} (L : List Nat) (g : D) (fid : Nat) (ca : List D) (hg : D.fn? g = some (fid, [], ca)) (hL : L.length < 1000000) (Inv : Store → Prop) (hI : ∀ σ σ', Inv σ → Fr σ σ' → Inv σ')
    (hC : ∀ i (hi : i < L.length), ∀ σ, Inv σ → ∃ σ', Fr σ σ' ∧ ∃ N, ∀ n, N ≤ n → T S n fid (kcD L[i] :: ca) σ = some (.ret ⟨false, .bool false⟩, σ')) : ∀ (k i : Nat), i + k = L.length → ∀ σ, Inv σ → ∃ σ', Fr σ σ' ∧ ∃ N, ∀ n m, N ≤ n → N ≤ m → loopN (exec (T S n) n none a_55) m (Exk L g i) σ = some (.exit 0, { slots := [(0, ⟨false, dKc L⟩), (1, ⟨false, g⟩), (7, ⟨false, .int .i64 L.length⟩), (8, ⟨false, .int .i64 L.length⟩), (9, ⟨false, .bool false⟩)], locs := [], boxes := [], defers := [] }, σ')
  | 0, i, h, σ, hσ => by
    have : i = L.length := by omega
    subst this
    refine ⟨σ, Fr.refl σ, 1, fun n m _ hm => ?_⟩
    obtain ⟨m, rfl⟩ : ∃ k, m = k + 1 := ⟨m - 1, by omega⟩
    exact loopN_stop (xk_end L g)
  | k + 1, i, h, σ, hσ => by
    have hi : i < L.length := by omega
    obtain ⟨σ1, f1, N1, r1⟩ := hC i hi σ hσ
    obtain ⟨σ2, f2, N2, r2⟩ := xk_loop L g fid ca hg hL Inv hI hC k (i + 1) (by omega) σ1 (hI _ _ hσ f1)
    refine ⟨σ2, f1.trans f2, N1 + N2 + 1, fun n m hn hm => ?_⟩
    obtain ⟨m, rfl⟩ : ∃ k, m = k + 1 := ⟨m - 1, by omega⟩
    rw [loopN_succ (xk_step L g fid ca hg i hi (by omega) (r1 n (by omega)))]
    exact r2 n m (by omega) (by omega)
theorem ck_run {S : Specs} (hS : KindS S) (L : List Nat) (g : D) (fid : Nat) (ca : List D) (hg : D.fn? g = some (fid, [], ca)) (hL : L.length < 1000000) (Inv : Store → Prop) (hI : ∀ σ σ', Inv σ → Fr σ σ' → Inv σ')
    (hC : ∀ i (hi : i < L.length), ∀ σ, Inv σ → ∃ σ', Fr σ σ' ∧ ∃ N, ∀ n, N ≤ n → T S n fid (kcD L[i] :: ca) σ = some (.ret ⟨false, .bool false⟩, σ')) (σ : Store) (hσ : Inv σ) : ∃ σ', Fr σ σ' ∧ ∃ N, ∀ n, N ≤ n → T S n n_158 [dKc L, g] σ = some (.ret ⟨false, .bool false⟩, σ') := by
  obtain ⟨σ', f, N, h⟩ := xk_loop L g fid ca hg hL Inv hI hC L.length 0 (by omega) σ hσ
  refine ⟨σ', f, N + 2, fun n hn => ?_⟩
  obtain ⟨n, rfl⟩ : ∃ k, n = k + 2 := ⟨n - 2, by omega⟩
  have h := h n n (by omega) (by omega)
  simp only [Exk, zeroI] at h
  have hlen := len_Kc L
  rw [T_fun (af := a_114) hS.2.2.2.1 rfl rfl]
  have h2 : T S (n + 1) n_159 [dKc L, g] σ = some (.ret ⟨false, .int .i64 (-1)⟩, σ') := by
    rw [T_fun (af := a_116) hS.2.2.2.2.1 rfl rfl]
    simp only [a_116, sA, Nat.reduceAdd, Nat.reduceSub, Nat.reduceMul, Nat.reduceBEq, Nat.reduceLeDiff, Int.reduceBEq, Int.reduceBNe, Int.reduceLE, Int.reduceLT, Int.reduceGE, Int.reduceGT, Int.reduceNeg, kn, onel, kon, hlen, h]
  have hv : ¬ (-1 : Int) ≥ 0 := by omega
  simp only [a_114, sA, Nat.reduceAdd, Nat.reduceSub, Nat.reduceMul, Nat.reduceBEq, Nat.reduceLeDiff, Int.reduceBEq, Int.reduceBNe, Int.reduceLE, Int.reduceLT, Int.reduceGE, Int.reduceGT, Int.reduceNeg, kn, onel, kon, h2, hv]
theorem kwithin_run {S : Specs} (hS : KindS S) (p : Nat) (k : Int) : ∀ (j : Nat) (σ : Store), ∃ σ', Fr σ σ' ∧ ∃ N, ∀ n, N ≤ n → T S n n_133 [.ptr p 0, .int .i64 k, kcD j] σ = some (.ret ⟨false, .bool false⟩, σ') := by
  intro j
  induction j using Nat.strongRecOn with
  | ind j ih =>
    intro σ
    obtain ⟨τ, hτ⟩ : ∃ τ, τ = GA (GA σ t_81 [⟨false, .ptr p 0⟩]) t_int [⟨false, .int .i64 k⟩] := ⟨_, rfl⟩
    have fτ : Fr σ τ := by rw [hτ]; exact (fr_GA _ _ _).trans (fr_GA _ _ _)
    have o1 : aget τ.objs σ.next = some [⟨false, .ptr p 0⟩] := by
      rw [hτ]
      exact (agC _ _ _ _ (by show σ.next + 1 ≠ σ.next; omega)).trans (agS _ _ _)
    have o2 : aget τ.objs (σ.next + 1) = some [⟨false, .int .i64 k⟩] := by
      rw [hτ]
      exact agS _ _ _
    have n2 : τ.next = σ.next + 2 := by rw [hτ]; rfl
    have hg1 : memOp (.gbox t_81 (.tmp 0)) { slots := [(0, ⟨false, .ptr p 0⟩), (1, ⟨false, .int .i64 k⟩), (2, ⟨false, kcD j⟩)], locs := [], boxes := [], defers := [] } σ = some (.ptr σ.next 0, GA σ t_81 [⟨false, .ptr p 0⟩]) := rfl
    have hg2 : memOp (.gbox t_int (.tmp 1)) { slots := [(0, ⟨false, .ptr p 0⟩), (1, ⟨false, .int .i64 k⟩), (2, ⟨false, kcD j⟩), (3, ⟨false, .ptr σ.next 0⟩)], locs := [], boxes := [], defers := [] } (GA σ t_81 [⟨false, .ptr p 0⟩]) = some (.ptr (σ.next + 1) 0, τ) := by rw [hτ]; rfl
    have hI : ∀ σ1 σ2, (aget σ1.objs σ.next = some [⟨false, .ptr p 0⟩] ∧ aget σ1.objs (σ.next + 1) = some [⟨false, .int .i64 k⟩] ∧ σ.next + 2 ≤ σ1.next) → Fr σ1 σ2 → (aget σ2.objs σ.next = some [⟨false, .ptr p 0⟩] ∧ aget σ2.objs (σ.next + 1) = some [⟨false, .int .i64 k⟩] ∧ σ.next + 2 ≤ σ2.next) := by
      rintro σ1 σ2 ⟨g2, g3, g4⟩ f
      exact ⟨(f.objs _ (by omega)).trans g2, (f.objs _ (by omega)).trans g3, Nat.le_trans g4 f.le⟩
    have row : ∃ L : List Nat, ka j = dKc L ∧ L.length ≤ 2 ∧ ∀ i (hi : i < L.length), L[i] < j := by
      cases j with
      | zero => exact ⟨[], rfl, by simp, fun i hi => absurd hi (by simp)⟩
      | succ j =>
        refine ⟨[0, j], rfl, by simp, fun i hi => ?_⟩
        match i, hi with
        | 0, _ => show 0 < j + 1; omega
        | 1, _ => show j < j + 1; omega
    obtain ⟨L, hka, hL, hlt⟩ := row
    obtain ⟨σ', f', N, hN⟩ := ck_run hS L (.fn (.func n_134) [] [.ptr σ.next 0, .ptr (σ.next + 1) 0]) n_134 [.ptr σ.next 0, .ptr (σ.next + 1) 0] rfl (by omega) _ hI (fun i hi σ1 hσ1 => by
      obtain ⟨g2, g3, g4⟩ := hσ1
      obtain ⟨σ2, f2, N2, r2⟩ := ih L[i] (hlt i hi) σ1
      refine ⟨σ2, f2, N2 + 1, fun n hn => ?_⟩
      obtain ⟨n, rfl⟩ : ∃ k, n = k + 1 := ⟨n - 1, by omega⟩
      have r2 := r2 n (by omega)
      rw [T_fun (af := a_99) hS.2.2.1 rfl rfl]
      generalize L[i] = v at *
      rw [kcD_eq] at r2 ⊢
      simp only [a_99, sA, Nat.reduceAdd, Nat.reduceSub, Nat.reduceMul, Nat.reduceBEq, Nat.reduceLeDiff, Int.reduceBEq, Int.reduceBNe, Int.reduceLE, Int.reduceLT, Int.reduceGE, Int.reduceGT, Int.reduceNeg, kn, onel, kon, g2, g3, r2]) τ ⟨o1, o2, by omega⟩
    refine ⟨σ', fτ.trans f', N + 20, fun n hn => ?_⟩
    obtain ⟨n, rfl⟩ : ∃ k, n = k + 3 := ⟨n - 3, by omega⟩
    rw [T_fun (af := a_98) hS.2.1 rfl rfl]
    have hl := klook_c hS p j n τ
    have hN := hN (n + 2) (by omega)
    have b1 := kf_ne j
    rw [← hka] at hN
    rw [kcD_eq] at hl hg1 hg2 ⊢
    simp only [a_98, sA, Nat.reduceAdd, Nat.reduceSub, Nat.reduceMul, Nat.reduceBEq, Nat.reduceLeDiff, Int.reduceBEq, Int.reduceBNe, Int.reduceLE, Int.reduceLT, Int.reduceGE, Int.reduceGT, Int.reduceNeg, kn, onel, kon, memE, hg1, hg2, hl, o1, o2, b1, hN]
def SQ (σ : Store) (p m q : Nat) (Q : List (Int × D)) : Prop := SB σ p m q (esQ Q 0) Q.length
theorem SQ.put {σ : Store} {p m n : Nat} {Q : List (Int × D)} (h : SQ σ p m n Q) (k : Int) (t : D) : SQ (SM σ m (.map (esQ (Q ++ [(k, t)]) 0) (Q ++ [(k, t)]).length)) p m n (Q ++ [(k, t)]) := ⟨h.obj, SM_self, h.lt, h.ltm⟩
def sp_copied : List D → Cell → Prop := fun ds c => ∀ d, ds = [d] → c = ⟨false, d⟩
theorem call_copied {S : Specs} (hS : aget S n_9 = some sp_copied) {j : Nat} (hj : j < 4) (n : Nat) (σ : Store) : T S (n + 1) n_9 [kcD j] σ = some (.ret ⟨false, kcD j⟩, σ) := by
  obtain ⟨c, g1, g2⟩ := T_orc (S := S) hS rfl (s := sp_copied) (c := ⟨false, kcD j⟩) (fun d e => by
    rw [(List.cons.inj e).1]) (copied_pure j hj)
  rw [g2, g1 _ rfl]
theorem kbind_run {S : Specs} (hS : KindS S) (hC : aget S n_9 = some sp_copied) {p m q : Nat} {Q : List (Int × D)} {k : Int} (hk : knoQ k Q = none) {j : Nat} (hj : j < 4) (σ : Store) (hB : SQ σ p m q Q) : ∃ σ', Fm σ σ' m ∧ SQ σ' p m q (Q ++ [(k, kcD j)]) ∧ ∃ N, ∀ n, N ≤ n → T S n n_132 [.ptr p 0, .int .i64 k, kcD j] σ = some (.ret ⟨false, .int .i64 0⟩, σ') := by
  obtain ⟨σ1, f1, N, hN⟩ := kwithin_run hS p k j σ
  have hB1 : SQ σ1 p m q Q := SB.fr hB f1
  have hB2 := hB1.put k (kcD j)
  refine ⟨_, f1.fm.trans (Fm.SM _), hB2, N + 4, fun n hn => ?_⟩
  obtain ⟨n, rfl⟩ : ∃ k, n = k + 2 := ⟨n - 2, by omega⟩
  have hN := hN (n + 1) (by omega)
  have hc := call_copied hC hj n σ1
  have ho := hB1.obj
  have ma : mapAt σ1.oth (.map m) = some (m, esQ Q 0, Q.length) := by simp only [mapAt, hB1.map, bindO, caseO_some]
  have hf := findQ_none 0 hk
  have es : esQ Q 0 ++ [(D.int .i64 k, kcD j, Q.length)] = esQ (Q ++ [(k, kcD j)]) 0 := by
    rw [esQ_snoc, Nat.zero_add]
    rfl
  have el : Q.length + 1 = (Q ++ [(k, kcD j)]).length := by simp
  have b1 := kf_ne j
  have kd : keyD false (.int .i64 k) = true := rfl
  generalize Q ++ [(k, kcD j)] = Q2 at *
  rw [T_fun (af := a_97) hS.2.2.2.2.2.1 rfl rfl]
  have okc : (D.agg [.int .i64 (kf j), .int .i64 0, ka j]).ok = true := rfl
  rw [kcD_eq] at hN hc es ⊢
  simp only [a_97, sA, Nat.reduceAdd, Nat.reduceSub, Nat.reduceMul, Nat.reduceBEq, Nat.reduceLeDiff, Int.reduceBEq, Int.reduceBNe, Int.reduceLE, Int.reduceLT, Int.reduceGE, Int.reduceGT, Int.reduceNeg, kn, onel, kon, b1, hN, hc, ho, memE, mUpd, ma, hf, es, el, kd, okc]
end Go.Fu
namespace Go.Fu
open Go Go.Mx
set_option maxRecDepth 100000
set_option maxHeartbeats 1000000
def TQ (Q : List (Int × D)) (a : D) (j : Nat) : Prop := a = kcD j ∨ ∃ k, a = kvD k ∧ knoQ k Q = some (kcD j)
theorem TQ.look {S : Specs} (hS : KindS S) {Q : List (Int × D)} {a : D} {j : Nat} (h : TQ Q a j) {σ : Store} {p m q : Nat} (hB : SQ σ p m q Q) (n : Nat) : T S (n + 3) n_14 [.ptr p 0, a] σ = some (.ret ⟨false, kcD j⟩, σ) := by
  rcases h with rfl | ⟨k, rfl, hk⟩
  · exact klook_c hS p j (n + 1) σ
  · obtain ⟨b, i, hf, _⟩ := findQ_some 0 hk
    exact klook_v hS hB k j hf n
theorem TQ.agg {Q : List (Int × D)} {a : D} {j : Nat} (h : TQ Q a j) : ∃ f n x, a = .agg [.int .i64 f, .int .i64 n, x] ∧ x.ok = true ∧ x.one = true ∧ x.cells = [x] := by
  rcases h with rfl | ⟨k, rfl, _⟩
  · exact ⟨kf j, 0, ka j, kcD_eq j, ok_ka j, one_ka j, cells_ka j⟩
  · exact ⟨1, k, .nils, rfl, rfl, rfl, rfl⟩
theorem TQ.more {Q Q' : List (Int × D)} {a : D} {j : Nat} (h : TQ Q a j) (hs : ∀ k x, knoQ k Q = some x → knoQ k Q' = some x) : TQ Q' a j := by
  rcases h with rfl | ⟨k, rfl, hk⟩
  · exact .inl rfl
  · exact .inr ⟨k, rfl, hs k _ hk⟩
section
variable {C : CallF} {n : Nat} {σ : Store}
def Eqk (p : Nat) (f1 n1 : Int) (a1 : D) (f2 n2 : Int) (a2 : D) (len i : Nat) : Env := { slots := [(0, ⟨false, .ptr p 0⟩), (41, ⟨false, .int .i64 len⟩), (42, ⟨false, .int .i64 i⟩)], locs := [(4, 4, 0), (5, 5, 0)], boxes := [(4, [⟨false, .int .i64 f1⟩, ⟨false, .int .i64 n1⟩, ⟨false, a1⟩]), (5, [⟨false, .int .i64 f2⟩, ⟨false, .int .i64 n2⟩, ⟨false, a2⟩])], defers := [] }
theorem qk_step (p : Nat) (f1 n1 : Int) (a1 : D) (f2 n2 : Int) (a2 : D) (len i : Nat) (hi : i < len) (hl : len < 1000) (u1 u2 v1 v2 : Int) (ux vx : D) (hx : indexD 3 a1 i = some (.eptr (.agg [.int .i64 u1, .int .i64 u2, ux]))) (hy : indexD 3 a2 i = some (.eptr (.agg [.int .i64 v1, .int .i64 v2, vx]))) (o1 : a1.ok = true) (o2 : a1.one = true) (o3 : a1.cells = [a1]) (p1 : a2.ok = true) (p2 : a2.one = true) (p3 : a2.cells = [a2]) {σ' : Store} (h1 : C n_31 [.ptr p 0, .agg [.int .i64 u1, .int .i64 u2, ux], .agg [.int .i64 v1, .int .i64 v2, vx]] σ = some (.ret ⟨false, .int .i64 0⟩, σ')) : exec C n none a_68 (Eqk p f1 n1 a1 f2 n2 a2 len i) σ = some (.normal, Eqk p f1 n1 a1 f2 n2 a2 len (i + 1), σ') := by
  have hlt : ((i : Int) < len) := by omega
  have w := wrap64_succ (i := i) (by omega)
  simp only [a_68, Eqk, sA, Nat.reduceAdd, Nat.reduceSub, Nat.reduceMul, Nat.reduceBEq, Nat.reduceLeDiff, Int.reduceBEq, Int.reduceBNe, Int.reduceLE, Int.reduceLT, Int.reduceGE, Int.reduceGT, Int.reduceNeg, kn, onel, hlt, natI, hx, hy, h1, w, bne_self_eq_false, o1, o2, o3, p1, p2, p3]
theorem qk_end (p : Nat) (f1 n1 : Int) (a1 : D) (f2 n2 : Int) (a2 : D) (len : Nat) : exec C n none a_68 (Eqk p f1 n1 a1 f2 n2 a2 len len) σ = some (.exit 1, { Eqk p f1 n1 a1 f2 n2 a2 len len with slots := [(0, ⟨false, .ptr p 0⟩), (41, ⟨false, .int .i64 len⟩), (42, ⟨false, .int .i64 len⟩), (43, ⟨false, .bool false⟩)] }, σ) := by
  have hlt : ¬ ((len : Int) < len) := by omega
  simp only [a_68, Eqk, sA, Nat.reduceAdd, Nat.reduceSub, Nat.reduceMul, Nat.reduceBEq, Nat.reduceLeDiff, Int.reduceBEq, Int.reduceBNe, Int.reduceLE, Int.reduceLT, Int.reduceGE, Int.reduceGT, Int.reduceNeg, kn, onel, hlt]
end
theorem keq_star {S : Specs} (hS : KindS S) {Q : List (Int × D)} {a : D} (h : TQ Q a 0) {σ : Store} {p m q : Nat} (hB : SQ σ p m q Q) (n : Nat) (hn : 5 ≤ n) : T S n n_31 [.ptr p 0, kcD 0, a] σ = some (.ret ⟨false, .int .i64 0⟩, σ) := by
  obtain ⟨n, rfl⟩ : ∃ k, n = k + 5 := ⟨n - 5, by omega⟩
  have l1 := klook_c hS p 0 (n + 2) σ
  have l2 := h.look hS hB (n + 1)
  obtain ⟨f, x, y, rfl, o1, o2, o3⟩ := h.agg
  have hr := loopN_stop (n := n + 3) (qk_end (C := T S (n + 4)) (n := n + 4) (σ := σ) p 2 0 .nils 2 0 .nils 0)
  have e0 : kcD 0 = .agg [.int .i64 2, .int .i64 0, .nils] := rfl
  have z : ((2 : Int) == 1) = false := rfl
  rw [e0] at l1 l2 ⊢
  rw [T_fun (af := a_20) hS.2.2.2.2.2.2.1 rfl rfl]
  rw [show n + 3 + 1 = n + 4 from rfl] at hr
  simp only [Eqk, zeroI] at hr
  simp only [a_20, sA, Nat.reduceAdd, Nat.reduceSub, Nat.reduceMul, Nat.reduceBEq, Nat.reduceLeDiff, Int.reduceBEq, Int.reduceBNe, Int.reduceLE, Int.reduceLT, Int.reduceGE, Int.reduceGT, Int.reduceNeg, kn, onel, o1, o2, o3, l1, l2, z, bne_self_eq_false, zeroI, hr]
theorem keq_bind {S : Specs} (hS : KindS S) (hC : aget S n_9 = some sp_copied) {p m q : Nat} {Q : List (Int × D)} {k : Int} (hk : knoQ k Q = none) {j : Nat} (hj : j < 4) (σ : Store) (hB : SQ σ p m q Q) : ∃ σ', Fm σ σ' m ∧ SQ σ' p m q (Q ++ [(k, kcD j)]) ∧ ∃ N, ∀ n, N ≤ n → T S n n_31 [.ptr p 0, kcD j, kvD k] σ = some (.ret ⟨false, .int .i64 0⟩, σ') := by
  obtain ⟨σ', f, h, N, hN⟩ := kbind_run hS hC hk hj σ hB
  refine ⟨σ', f, h, N + 5, fun n hn => ?_⟩
  obtain ⟨n, rfl⟩ : ∃ k, n = k + 5 := ⟨n - 5, by omega⟩
  have l1 := klook_c hS p j (n + 2) σ
  have l2 := klook_n hS hB k (findQ_none 0 hk) (n + 2)
  have hN := hN (n + 4) (by omega)
  have b1 := kf_ne j
  have z : ((1 : Int) == 1) = true := rfl
  rw [T_fun (af := a_20) hS.2.2.2.2.2.2.1 rfl rfl]
  rw [kcD_eq] at l1 hN ⊢
  rw [kvD] at l2 ⊢
  simp only [a_20, sA, Nat.reduceAdd, Nat.reduceSub, Nat.reduceMul, Nat.reduceBEq, Nat.reduceLeDiff, Int.reduceBEq, Int.reduceBNe, Int.reduceLE, Int.reduceLT, Int.reduceGE, Int.reduceGT, Int.reduceNeg, kn, onel, kon, l1, l2, b1, z, hN]
def arD (a t : D) : D := .agg [.int .i64 3, .int .i64 0, .list k_3 [a, t]]
theorem keq_arrow {S : Specs} (hS : KindS S) (hC : aget S n_9 = some sp_copied) {p m q : Nat} {Q : List (Int × D)} {k : Int} (hk : knoQ k Q = none) {j : Nat} (hj : j < 4) {f a : D} (hf : TQ Q f (j + 1)) (ha : TQ Q a 0) (σ : Store) (hB : SQ σ p m q Q) : ∃ σ', Fm σ σ' m ∧ SQ σ' p m q (Q ++ [(k, kcD j)]) ∧ ∃ N, ∀ n, N ≤ n → T S n n_31 [.ptr p 0, f, arD a (kvD k)] σ = some (.ret ⟨false, .int .i64 0⟩, σ') := by
  obtain ⟨σ', g, h, N, hN⟩ := keq_bind hS hC hk hj σ hB
  refine ⟨σ', g, h, N + 8, fun n hn => ?_⟩
  obtain ⟨n, rfl⟩ : ∃ k, n = k + 6 := ⟨n - 6, by omega⟩
  have l1 := hf.look hS hB (n + 2)
  have l2 : T S (n + 5) n_14 [.ptr p 0, arD a (kvD k)] σ = some (.ret ⟨false, arD a (kvD k)⟩, σ) := by
    rw [T_fun (af := a_13) hS.1 rfl rfl]
    have hr := loopN_stop (n := n + 3) (kl_done (C := T S (n + 4)) (n := n + 4) (σ := σ) p 3 0 (.list k_3 [a, kvD k]) rfl)
    unfold Ekl at hr
    simp only [z3k] at hr
    simp only [a_13, arD, sA, Nat.reduceAdd, Nat.reduceSub, Nat.reduceMul, Nat.reduceBEq, Nat.reduceLeDiff, Int.reduceBEq, Int.reduceBNe, Int.reduceLE, Int.reduceLT, Int.reduceGE, Int.reduceGT, Int.reduceNeg, kn, onel, hr]
  have e1 := keq_star hS ha hB (n + 5) (by omega)
  have e2 := hN (n + 5) (by omega)
  obtain ⟨ff, fn, fx, rfl, o1, o2, o3⟩ := hf.agg
  obtain ⟨af, an, ax, rfl, p1, p2, p3⟩ := ha.agg
  have hx0 : indexD 3 (.list k_3 [kcD 0, kcD j]) 0 = some (.eptr (.agg [.int .i64 2, .int .i64 0, .nils])) := rfl
  have hx1 : indexD 3 (.list k_3 [kcD 0, kcD j]) 1 = some (.eptr (.agg [.int .i64 (kf j), .int .i64 0, ka j])) := by
    rw [← kcD_eq]
    rfl
  have hy0 : indexD 3 (.list k_3 [.agg [.int .i64 af, .int .i64 an, ax], kvD k]) 0 = some (.eptr (.agg [.int .i64 af, .int .i64 an, ax])) := rfl
  have hy1 : indexD 3 (.list k_3 [.agg [.int .i64 af, .int .i64 an, ax], kvD k]) 1 = some (.eptr (.agg [.int .i64 1, .int .i64 k, .nils])) := rfl
  rw [kcD_eq j, kvD] at e2
  have s0 := qk_step (C := T S (n + 5)) (n := n + 5) p 3 0 (.list k_3 [kcD 0, kcD j]) 3 0 (.list k_3 [.agg [.int .i64 af, .int .i64 an, ax], kvD k]) 2 0 (by omega) (by omega) 2 0 af an .nils ax hx0 hy0 rfl rfl rfl rfl rfl rfl e1
  have s1 := qk_step (C := T S (n + 5)) (n := n + 5) p 3 0 (.list k_3 [kcD 0, kcD j]) 3 0 (.list k_3 [.agg [.int .i64 af, .int .i64 an, ax], kvD k]) 2 1 (by omega) (by omega) (kf j) 0 1 k (ka j) .nils hx1 hy1 rfl rfl rfl rfl rfl rfl e2
  have hr := (loopN_succ (n := n + 4) s0).trans ((loopN_succ (n := n + 3) s1).trans (loopN_stop (n := n + 2) (qk_end (C := T S (n + 5)) (n := n + 5) (σ := σ') p 3 0 (.list k_3 [kcD 0, kcD j]) 3 0 (.list k_3 [.agg [.int .i64 af, .int .i64 an, ax], kvD k]) 2)))
  have ek : kcD (j + 1) = .agg [.int .i64 3, .int .i64 0, .list k_3 [kcD 0, kcD j]] := rfl
  have z : ((3 : Int) == 1) = false := rfl
  have w2 : ((2 : Nat) : Int) = 2 := rfl
  have ll : ∀ x y : D, lenOf (.list k_3 [x, y]) = some 2 := fun _ _ => rfl
  rw [ek] at l1
  rw [T_fun (af := a_20) hS.2.2.2.2.2.2.1 rfl rfl]
  rw [show n + 4 + 1 = n + 5 from rfl] at hr
  simp only [Eqk, zeroI, w2] at hr
  simp only [arD] at l2 ⊢
  generalize kvD k = kv at *
  generalize kcD 0 = c0 at *
  generalize kcD j = cj at *
  simp only [a_20, sA, Nat.reduceAdd, Nat.reduceSub, Nat.reduceMul, Nat.reduceBEq, Nat.reduceLeDiff, Int.reduceBEq, Int.reduceBNe, Int.reduceLE, Int.reduceLT, Int.reduceGE, Int.reduceGT, Int.reduceNeg, kn, onel, o1, o2, o3, l1, l2, z, bne_self_eq_false, ll, w2, hr]
theorem kEqual_run {S : Specs} (hS : KindS S) (hC : aget S n_9 = some sp_copied) {p m q : Nat} {Q : List (Int × D)} {k : Int} (hk : knoQ k Q = none) {j : Nat} (hj : j < 4) {f a : D} (hf : TQ Q f (j + 1)) (ha : TQ Q a 0) (σ : Store) (hB : SQ σ p m q Q) : ∃ σ', Fm σ σ' m ∧ SQ σ' p m q (Q ++ [(k, kcD j)]) ∧ ∃ N, ∀ n, N ≤ n → T S n n_150 [.ptr p 0, f, arD a (kvD k)] σ = some (.ret ⟨false, .int .i64 0⟩, σ') := by
  obtain ⟨τ, hτ⟩ : ∃ τ, τ = GM σ (.map (esQ Q 0) Q.length) := ⟨_, rfl⟩
  have f0 : Fr σ τ := by rw [hτ]; exact fr_GM _ _
  have s0 : SQ τ p m q Q := SB.fr hB f0
  obtain ⟨σ1, f1, s1, N1, g1⟩ := keq_arrow hS hC hk hj hf ha τ s0
  have hcl : ∀ n, T S (n + 1) n_153 [.map m] σ = some (.ret ⟨false, .map σ.next⟩, τ) := by
    intro n
    have hm := hB.map
    rw [T_fun (af := a_101) hS.2.2.2.2.2.2.2.2.1 rfl rfl]
    simp only [a_101, sA, Nat.reduceAdd, Nat.reduceSub, Nat.reduceMul, Nat.reduceBEq, Nat.reduceLeDiff, Int.reduceBEq, Int.reduceBNe, Int.reduceLE, Int.reduceLT, Int.reduceGE, Int.reduceGT, Int.reduceNeg, kn, onel, hm, fold_GM, ← hτ]
  refine ⟨σ1, f0.fm.trans f1, s1, N1 + 3, fun n hn => ?_⟩
  obtain ⟨n, rfl⟩ : ∃ k, n = k + 2 := ⟨n - 2, by omega⟩
  have g1 := g1 (n + 1) (by omega)
  have hcl := hcl n
  have ho := hB.obj
  obtain ⟨ff, fn, fx, rfl, o1, o2, o3⟩ := hf.agg
  simp only [arD] at g1 ⊢
  rw [T_fun (af := a_94) hS.2.2.2.2.2.2.2.1 rfl rfl]
  simp only [a_94, sA, Nat.reduceAdd, Nat.reduceSub, Nat.reduceMul, Nat.reduceBEq, Nat.reduceLeDiff, Int.reduceBEq, Int.reduceBNe, Int.reduceLE, Int.reduceLT, Int.reduceGE, Int.reduceGT, Int.reduceNeg, kn, onel, o1, o2, o3, ho, hcl, g1, bne_self_eq_false]
end Go.Fu

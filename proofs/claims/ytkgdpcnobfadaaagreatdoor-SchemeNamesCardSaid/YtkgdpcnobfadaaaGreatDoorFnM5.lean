/-
  Whether all variables are told, run.
-/
import Derived.Test.YtkgdpcnobfadaaaGreatDoorFnY6
import Derived.Test.YtkgdpcnobfadaaaGreatDoorFnM3
import Derived.Test.YtkgdpcnobfadaaaGreatDoorFnY3
set_option linter.unusedSimpArgs false
set_option linter.unusedVariables false
namespace Go.Fu
open Go Go.Mx
set_option maxRecDepth 10000
section
variable {C : CallF} {n : Nat} {σ : Store}
structure Rds (σ : Store) (d : D) (l : List (List UInt8)) : Prop where
  len : lenOf d = some l.length
  get : ∀ i, ∀ h : i < l.length, zav 1 d i = some (.eptr (.str l[i])) ∨ ∃ id, zav 1 d i = some (.ptr id i) ∧ ∃ cs, aget σ.objs id = some cs ∧ nth cs i = some ⟨false, .str l[i]⟩
def EHa (d : D) (s : List UInt8) (i : Nat) : Env := { slots := [(0, ⟨false, d⟩), (1, ⟨false, .str s⟩), (5, ⟨false, .int .i64 i⟩)], locs := [], boxes := [], defers := [] }
theorem zc5b (d : D) (l : List (List UInt8)) (s : List UInt8) (i : Nat) (hr : Rds σ d l) (h : i < l.length) (hl : l.length < 1048576) (hp : (l[i] == s) = false) : exec C n a_25 (EHa d s i) σ = some (.normal, EHa d s (i + 1), σ) := by
  have hi : ((i : Int) < (l.length : Int)) := by omega
  have w1 := zam (i := i) (by omega)
  have hln := hr.len
  rcases hr.get i h with hx | ⟨id, hx, cs, ha, hn⟩
  · simp only [a_25, EHa, de0, de1, de2, szQ, szB, szL, sy0, sy1, sy2, sy3, sy4, sy5, zad, zaa, zac, zae, adel, zah, zag, zai, zaf, evalV, aget, aset, adel1, nth, AOp.kind, Nat.reduceAdd, Nat.reduceSub, Nat.reduceMul, Nat.reduceBEq, Nat.ble, bindO, Nat.reduceLeDiff, Int.reduceBEq, Int.reduceBNe, Int.reduceLE, Int.reduceLT, Int.reduceGE, Int.reduceGT, Int.reduceNeg, ks, lz, memE, memOp, hi, w1, hln, hx, hp]
  · simp only [a_25, EHa, de0, de1, de2, szQ, szB, szL, sy0, sy1, sy2, sy3, sy4, sy5, zad, zaa, zac, zae, adel, zah, zag, zai, zaf, evalV, aget, aset, adel1, nth, AOp.kind, Nat.reduceAdd, Nat.reduceSub, Nat.reduceMul, Nat.reduceBEq, Nat.ble, bindO, Nat.reduceLeDiff, Int.reduceBEq, Int.reduceBNe, Int.reduceLE, Int.reduceLT, Int.reduceGE, Int.reduceGT, Int.reduceNeg, ks, lz, memE, memOp, hi, w1, hln, hx, ha, hn, hp]
theorem zc6b (d : D) (l : List (List UInt8)) (s : List UInt8) (i : Nat) (hr : Rds σ d l) (h : i < l.length) (hp : (l[i] == s) = true) : exec C n a_25 (EHa d s i) σ = some (.ret, { slots := [(4, ⟨false, .bool true⟩)], locs := [], boxes := [], defers := [] }, σ) := by
  have hi : ((i : Int) < (l.length : Int)) := by omega
  have hln := hr.len
  rcases hr.get i h with hx | ⟨id, hx, cs, ha, hn⟩
  · simp only [a_25, EHa, de0, de1, de2, szQ, szB, szL, sy0, sy1, sy2, sy3, sy4, sy5, zad, zaa, zac, zae, adel, zah, zag, zai, zaf, evalV, aget, aset, adel1, nth, AOp.kind, Nat.reduceAdd, Nat.reduceSub, Nat.reduceMul, Nat.reduceBEq, Nat.ble, bindO, Nat.reduceLeDiff, Int.reduceBEq, Int.reduceBNe, Int.reduceLE, Int.reduceLT, Int.reduceGE, Int.reduceGT, Int.reduceNeg, ks, lz, memE, memOp, hi, hln, hx, hp]
  · simp only [a_25, EHa, de0, de1, de2, szQ, szB, szL, sy0, sy1, sy2, sy3, sy4, sy5, zad, zaa, zac, zae, adel, zah, zag, zai, zaf, evalV, aget, aset, adel1, nth, AOp.kind, Nat.reduceAdd, Nat.reduceSub, Nat.reduceMul, Nat.reduceBEq, Nat.ble, bindO, Nat.reduceLeDiff, Int.reduceBEq, Int.reduceBNe, Int.reduceLE, Int.reduceLT, Int.reduceGE, Int.reduceGT, Int.reduceNeg, ks, lz, memE, memOp, hi, hln, hx, ha, hn, hp]
theorem zf3b (d : D) (l : List (List UInt8)) (s : List UInt8) (hr : Rds σ d l) : exec C n a_25 (EHa d s l.length) σ = some (.exit 0, { EHa d s l.length with slots := [(0, ⟨false, d⟩), (1, ⟨false, .str s⟩), (5, ⟨false, .int .i64 l.length⟩), (9, ⟨false, .bool false⟩)] }, σ) := by
  have hi : ¬ ((l.length : Int) < (l.length : Int)) := by omega
  have hln := hr.len
  simp only [a_25, EHa, de0, de1, de2, szQ, szB, szL, sy0, sy1, sy2, sy3, sy4, sy5, zad, zaa, zac, zae, adel, zah, zag, zai, zaf, evalV, aget, aset, adel1, nth, AOp.kind, Nat.reduceAdd, Nat.reduceSub, Nat.reduceMul, Nat.reduceBEq, Nat.ble, bindO, Nat.reduceLeDiff, Int.reduceBEq, Int.reduceBNe, Int.reduceLE, Int.reduceLT, Int.reduceGE, Int.reduceGT, Int.reduceNeg, ks, lz, hi, hln]
end
def neF (l : List (List UInt8)) (s : List UInt8) (i : Nat) : Bool := match l[i]? with
  | some x => !(x == s)
  | none => true
theorem zlz {l : List (List UInt8)} {s : List UInt8} {i : Nat} (h : i < l.length) : neF l s i = !(l[i] == s) := by simp [neF, h]
theorem zm4 (l : List (List UInt8)) (s : List UInt8) (hl : l.length < 1048576) : Evly fun n => ∀ σ d, Rds σ d l → T n n_32 [d, .str s] σ = some (.ret ⟨false, .bool (l.contains s)⟩, σ) :=
  (Evly.all (p := fun _ => True) fun _ => trivial).step (l.length + 2) fun m hm _ σ d hr => by
  have hloop := zdi (body := exec (T m) m a_25) (EHa d s) (fun _ => σ) l.length (neF l s) (stop := fun i => (.ret, { slots := [(4, ⟨false, .bool true⟩)], locs := [], boxes := [], defers := [] }, σ)) (fun _ _ h => by cases h) (fun _ _ _ h => by cases h)
    (fun i hi hp => zc5b d l s i hr hi hl (by rw [zlz hi] at hp; simpa using hp)) (fun i hi hp => zc6b d l s i hr hi (by rw [zlz hi] at hp; simpa using hp)) (zf3b d l s hr) m 0 (by omega) (by omega)
  simp only [EHa, zeroI] at hloop
  rw [T_fun (af := a_104) rfl rfl]
  rcases hloop with ⟨i, _, hi, hp, hb, hrest⟩ | ⟨hp, hrest⟩
  · have hc : l.contains s = true := by
      rw [zlz hi] at hp
      have : l[i] = s := by simpa using hp
      rw [← this]; simp
    simp only [a_104, de0, de1, de2, szQ, szB, szL, sy0, sy1, sy2, sy3, sy4, sy5, zad, zaa, zac, zae, adel, zah, zag, zai, zaf, evalV, aget, aset, adel1, nth, AOp.kind, Nat.reduceAdd, Nat.reduceSub, Nat.reduceMul, Nat.reduceBEq, Nat.ble, bindO, Nat.reduceLeDiff, Int.reduceBEq, Int.reduceBNe, Int.reduceLE, Int.reduceLT, Int.reduceGE, Int.reduceGT, Int.reduceNeg, ks, lz, hrest, hc]
  · have hc : l.contains s = false := by
      cases h : l.contains s with
      | false => rfl
      | true =>
        have hm : s ∈ l := by simpa using h
        obtain ⟨i, hi, he⟩ := List.getElem_of_mem hm
        have := hp i (Nat.zero_le _) hi
        rw [zlz hi, he] at this
        simp at this
    simp only [a_104, de0, de1, de2, szQ, szB, szL, sy0, sy1, sy2, sy3, sy4, sy5, zad, zaa, zac, zae, adel, zah, zag, zai, zaf, evalV, aget, aset, adel1, nth, AOp.kind, Nat.reduceAdd, Nat.reduceSub, Nat.reduceMul, Nat.reduceBEq, Nat.ble, bindO, Nat.reduceLeDiff, Int.reduceBEq, Int.reduceBNe, Int.reduceLE, Int.reduceLT, Int.reduceGE, Int.reduceGT, Int.reduceNeg, ks, lz, hrest, hc]
theorem zewb (σ : Store) (l : List (List UInt8)) : Rds σ (dSs l) l := ⟨by simp only [dSs, zax, List.length_map], fun i h => .inl (idx_S l i h)⟩
theorem zwt {σ : Store} {r : D} {l : List (List UInt8)} (h : ArrIn σ r l) : Rds σ r l := by
  refine ⟨h.len, fun i hi => ?_⟩
  rcases h with ⟨rfl, rfl⟩ | ⟨id, rfl, ha, _, _⟩
  · simp at hi
  · refine .inr ⟨id, ?_, _, ha, zdg l i hi⟩
    rw [zb0]
    have : decide (i < l.length) = true := decide_eq_true hi
    simp only [k_60, beq_self_eq_true, this, Bool.and_self, zae, Nat.zero_add, Nat.mul_one]
def freeR : Tp → List (List UInt8) → List (List UInt8)
  | .var s, out => if out.contains s then out else out ++ [s]
  | .app f a, out => freeR a (freeR f out)
  | _, out => out
theorem zh1 : ∀ (t : Tp) (out : List (List UInt8)), (freeR t out).length ≤ out.length + nT t
  | .var s, out => by
    unfold freeR
    split <;> simp [nT]
  | .con c, out => by simp [freeR, nT]
  | .hole x, out => by simp [freeR, nT]
  | .app f a, out => by
    have h1 := zh1 f out
    have h2 := zh1 a (freeR f out)
    simp only [freeR, nT]; omega
section
variable {C : CallF} {n : Nat}
def ERf (f a : Tp) (r : D) (i : Nat) : Env := { slots := [(1, ⟨false, .nils⟩), (2, ⟨false, r⟩), (8, ⟨false, .int .i64 i⟩)], locs := [(3, 3, 0)], boxes := [(3, bA f a)], defers := [] }
theorem zz9 (f a : Tp) (r r' : D) (σ σ' : Store) (h : C n_112 [dT f, .nils, r] σ = some (.ret ⟨false, r'⟩, σ')) : exec C n a_34 (ERf f a r 0) σ = some (.normal, ERf f a r' 1, σ') := by
  have w1 : IntKind.i64.wrap (0 + 1) = 1 := by decide
  rw [dT_eq f] at h
  simp only [cT] at h
  simp only [a_34, ERf, bA, de0, de1, de2, szQ, szB, szL, sy0, sy1, sy2, sy3, sy4, sy5, zad, zaa, zac, zae, adel, zah, zag, zai, zaf, evalV, aget, aset, adel1, nth, AOp.kind, Nat.reduceAdd, Nat.reduceSub, Nat.reduceMul, Nat.reduceBEq, Nat.ble, bindO, Nat.reduceLeDiff, Int.reduceBEq, Int.reduceBNe, Int.reduceLE, Int.reduceLT, Int.reduceGE, Int.reduceGT, Int.reduceNeg, ks, lz, Mx.part, dT_eq f, dT_eq a, cT, w1, h]
theorem zaab (f a : Tp) (r r' : D) (σ σ' : Store) (h : C n_112 [dT a, .nils, r] σ = some (.ret ⟨false, r'⟩, σ')) : exec C n a_34 (ERf f a r 1) σ = some (.normal, ERf f a r' 2, σ') := by
  have w1 : IntKind.i64.wrap (1 + 1) = 2 := by decide
  rw [dT_eq a] at h
  simp only [cT] at h
  simp only [a_34, ERf, bA, de0, de1, de2, szQ, szB, szL, sy0, sy1, sy2, sy3, sy4, sy5, zad, zaa, zac, zae, adel, zah, zag, zai, zaf, evalV, aget, aset, adel1, nth, AOp.kind, Nat.reduceAdd, Nat.reduceSub, Nat.reduceMul, Nat.reduceBEq, Nat.ble, bindO, Nat.reduceLeDiff, Int.reduceBEq, Int.reduceBNe, Int.reduceLE, Int.reduceLT, Int.reduceGE, Int.reduceGT, Int.reduceNeg, ks, lz, Mx.part, dT_eq f, dT_eq a, cT, w1, h]
theorem zgkb (f a : Tp) (r : D) (σ : Store) : exec C n a_34 (ERf f a r 2) σ = some (.exit 0, { ERf f a r 2 with slots := [(1, ⟨false, .nils⟩), (2, ⟨false, r⟩), (8, ⟨false, .int .i64 2⟩), (43, ⟨false, .bool false⟩)] }, σ) := by
  simp only [a_34, ERf, bA, de0, de1, de2, szQ, szB, szL, sy0, sy1, sy2, sy3, sy4, sy5, zad, zaa, zac, zae, adel, zah, zag, zai, zaf, evalV, aget, aset, adel1, nth, AOp.kind, Nat.reduceAdd, Nat.reduceSub, Nat.reduceMul, Nat.reduceBEq, Nat.ble, bindO, Nat.reduceLeDiff, Int.reduceBEq, Int.reduceBNe, Int.reduceLE, Int.reduceLT, Int.reduceGE, Int.reduceGT, Int.reduceNeg, ks, lz]
theorem zwi (f x : Int) (s : List UInt8) (r : D) (σ : Store) : exec C n a_34 { slots := [(1, ⟨false, .nils⟩), (2, ⟨false, r⟩), (8, ⟨false, .int .i64 0⟩)], locs := [(3, 3, 0)], boxes := [(3, [⟨false, .int .i64 f⟩, ⟨false, .int .i64 x⟩, ⟨false, .str s⟩, ⟨false, .nils⟩])], defers := [] } σ =
    some (.exit 0, { slots := [(1, ⟨false, .nils⟩), (2, ⟨false, r⟩), (8, ⟨false, .int .i64 0⟩), (43, ⟨false, .bool false⟩)], locs := [(3, 3, 0)], boxes := [(3, [⟨false, .int .i64 f⟩, ⟨false, .int .i64 x⟩, ⟨false, .str s⟩, ⟨false, .nils⟩])], defers := [] }, σ) := by
  simp only [a_34, de0, de1, de2, szQ, szB, szL, sy0, sy1, sy2, sy3, sy4, sy5, zad, zaa, zac, zae, adel, zah, zag, zai, zaf, evalV, aget, aset, adel1, nth, AOp.kind, Nat.reduceAdd, Nat.reduceSub, Nat.reduceMul, Nat.reduceBEq, Nat.ble, bindO, Nat.reduceLeDiff, Int.reduceBEq, Int.reduceBNe, Int.reduceLE, Int.reduceLT, Int.reduceGE, Int.reduceGT, Int.reduceNeg, ks, lz]
end
theorem zjy : ∀ (t : Tp) (out : List (List UInt8)), out.length + nT t < 1000000 → Evly fun n => ∀ σ0 σ r, ArrOf σ0 σ r out → ∃ r' σ', T n n_112 [dT t, .nils, r] σ = some (.ret ⟨false, r'⟩, σ') ∧ ArrOf σ0 σ' r' (freeR t out)
  | .con c, out, _ => (Evly.all (p := fun _ => True) fun _ => trivial).step 2 fun m hm _ σ0 σ r hr => by
      obtain ⟨j, rfl⟩ : ∃ j, m = j + 1 := ⟨m - 1, by omega⟩
      refine ⟨r, σ, ?_, hr⟩
      have hl := za7 (k := j) (zwi (C := T (j + 1)) (n := j + 1) 3 0 c r σ)
      rw [T_fun (af := a_19) rfl rfl]
      simp only [a_19, de0, de1, de2, szQ, szB, szL, sy0, sy1, sy2, sy3, sy4, sy5, zad, zaa, zac, zae, adel, zah, zag, zai, zaf, evalV, aget, aset, adel1, nth, AOp.kind, Nat.reduceAdd, Nat.reduceSub, Nat.reduceMul, Nat.reduceBEq, Nat.ble, bindO, Nat.reduceLeDiff, Int.reduceBEq, Int.reduceBNe, Int.reduceLE, Int.reduceLT, Int.reduceGE, Int.reduceGT, Int.reduceNeg, ks, lz, dT, hl]
  | .hole x, out, _ => (Evly.all (p := fun _ => True) fun _ => trivial).step 2 fun m hm _ σ0 σ r hr => by
      obtain ⟨j, rfl⟩ : ∃ j, m = j + 1 := ⟨m - 1, by omega⟩
      refine ⟨r, σ, ?_, hr⟩
      have hl := za7 (k := j) (zwi (C := T (j + 1)) (n := j + 1) 1 x [] r σ)
      rw [T_fun (af := a_19) rfl rfl]
      simp only [a_19, de0, de1, de2, szQ, szB, szL, sy0, sy1, sy2, sy3, sy4, sy5, zad, zaa, zac, zae, adel, zah, zag, zai, zaf, evalV, aget, aset, adel1, nth, AOp.kind, Nat.reduceAdd, Nat.reduceSub, Nat.reduceMul, Nat.reduceBEq, Nat.ble, bindO, Nat.reduceLeDiff, Int.reduceBEq, Int.reduceBNe, Int.reduceLE, Int.reduceLT, Int.reduceGE, Int.reduceGT, Int.reduceNeg, ks, lz, dT, hl]
  | .var s, out, hb => ((zm4 [] s (by simp)).and (zm4 out s (by simp only [nT] at hb; omega))).step 2 fun m hm h σ0 σ r hr => by
      simp only [nT] at hb
      have h1 := h.1 σ .nils (zwt (.inl ⟨rfl, rfl⟩))
      have h2 := h.2 σ r (zwt hr.isIn)
      have c0 : ([] : List (List UInt8)).contains s = false := rfl
      rw [c0] at h1
      cases hc : out.contains s with
      | true =>
        rw [hc] at h2
        refine ⟨r, σ, ?_, by simp only [freeR, hc, if_true]; exact hr⟩
        rw [T_fun (af := a_19) rfl rfl]
        simp only [a_19, de0, de1, de2, szQ, szB, szL, sy0, sy1, sy2, sy3, sy4, sy5, zad, zaa, zac, zae, adel, zah, zag, zai, zaf, evalV, aget, aset, adel1, nth, AOp.kind, Nat.reduceAdd, Nat.reduceSub, Nat.reduceMul, Nat.reduceBEq, Nat.ble, bindO, Nat.reduceLeDiff, Int.reduceBEq, Int.reduceBNe, Int.reduceLE, Int.reduceLT, Int.reduceGE, Int.reduceGT, Int.reduceNeg, ks, lz, dT, h1, h2]
      | false =>
        rw [hc] at h2
        obtain ⟨r', σ', ha, hr'⟩ := apA (ys := [s]) hr (Ext.refl hr.1.wf) (by simp) (by simp only [List.length_cons, List.length_nil]; omega)
        refine ⟨r', σ', ?_, by simp only [freeR, hc, Bool.false_eq_true, if_false]; exact hr'⟩
        simp only [List.map_cons, List.map_nil] at ha
        rw [T_fun (af := a_19) rfl rfl]
        simp only [a_19, de0, de1, de2, szQ, szB, szL, sy0, sy1, sy2, sy3, sy4, sy5, zad, zaa, zac, zae, adel, zah, zag, zai, zaf, evalV, aget, aset, adel1, nth, AOp.kind, Nat.reduceAdd, Nat.reduceSub, Nat.reduceMul, Nat.reduceBEq, Nat.ble, bindO, Nat.reduceLeDiff, Int.reduceBEq, Int.reduceBNe, Int.reduceLE, Int.reduceLT, Int.reduceGE, Int.reduceGT, Int.reduceNeg, ks, lz, memE, memOp, zih, dT, h1, h2, ha]
  | .app f a, out, hb => by
      simp only [nT] at hb
      have hfl := zh1 f out
      refine ((zjy f out (by omega)).and (zjy a (freeR f out) (by omega))).step 4 fun m hm h σ0 σ r hr => ?_
      obtain ⟨r1, σ1, g1, hr1⟩ := h.1 σ0 σ r hr
      obtain ⟨r2, σ2, g2, hr2⟩ := h.2 σ0 σ1 r1 hr1
      refine ⟨r2, σ2, ?_, hr2⟩
      obtain ⟨j, rfl⟩ : ∃ j, m = j + 3 := ⟨m - 3, by omega⟩
      have hl := (zb4 (k := j + 2) (zz9 (C := T (j + 3)) (n := j + 3) f a r r1 σ σ1 g1)).trans ((zb4 (k := j + 1) (zaab (C := T (j + 3)) (n := j + 3) f a r1 r2 σ1 σ2 g2)).trans (za7 (k := j) (zgkb (C := T (j + 3)) (n := j + 3) f a r2 σ2)))
      simp only [ERf, bA, zeroI] at hl
      rw [T_fun (af := a_19) rfl rfl]
      simp only [a_19, de0, de1, de2, szQ, szB, szL, sy0, sy1, sy2, sy3, sy4, sy5, zad, zaa, zac, zae, adel, zah, zag, zai, zaf, evalV, aget, aset, adel1, nth, AOp.kind, Nat.reduceAdd, Nat.reduceSub, Nat.reduceMul, Nat.reduceBEq, Nat.ble, bindO, Nat.reduceLeDiff, Int.reduceBEq, Int.reduceBNe, Int.reduceLE, Int.reduceLT, Int.reduceGE, Int.reduceGT, Int.reduceNeg, ks, lz, dT, hl]
theorem zw1 (t : Tp) (hb : nT t < 100000) : Evly fun n => ∀ σ, WF σ → ∃ σ', T n n_164 [dT t] σ = some (.ret ⟨false, dSs (freeR t [])⟩, σ') ∧ Ext σ σ' := (zjy t [] (by simp only [List.length_nil]; omega)).step 0 fun m _ h σ hw => by
  obtain ⟨r, σ1, g1, hr⟩ := h σ σ .nils ⟨Ext.refl hw, .inl ⟨rfl, rfl⟩⟩
  obtain ⟨σ2, hz, hx⟩ := zjz hr 2 { slots := [(2, ⟨false, r⟩)], locs := [], boxes := [], defers := [] } rfl
  refine ⟨σ2, ?_, hx⟩
  simp only [aset, de0, de1, de2, szQ, szB, szL, sy0, sy1, sy2, sy3, sy4, sy5, zad, zaa, zac, zae, adel, zah, zag, zai, zaf, evalV, aget, aset, adel1, nth, AOp.kind, Nat.reduceAdd, Nat.reduceSub, Nat.reduceMul, Nat.reduceBEq, Nat.ble, bindO, Nat.reduceLeDiff, Int.reduceBEq, Int.reduceBNe, Int.reduceLE, Int.reduceLT, Int.reduceGE, Int.reduceGT, Int.reduceNeg] at hz
  rw [dT_eq t] at g1 ⊢
  simp only [cT] at g1 ⊢
  rw [T_fun (af := a_126) rfl rfl]
  simp only [a_126, de0, de1, de2, szQ, szB, szL, sy0, sy1, sy2, sy3, sy4, sy5, zad, zaa, zac, zae, adel, zah, zag, zai, zaf, evalV, aget, aset, adel1, nth, AOp.kind, Nat.reduceAdd, Nat.reduceSub, Nat.reduceMul, Nat.reduceBEq, Nat.ble, bindO, Nat.reduceLeDiff, Int.reduceBEq, Int.reduceBNe, Int.reduceLE, Int.reduceLT, Int.reduceGE, Int.reduceGT, Int.reduceNeg, ks, lz, g1, zfr, hz]
section
variable {C : CallF} {n : Nat} {σ : Store}
def ETd (vs : List (List UInt8)) (kd : D) (ps : List Pr) (t : Tp) (F : List (List UInt8)) (i : Nat) : Env := { slots := [(3, ⟨false, dSs F⟩), (4, ⟨false, .int .i64 i⟩)], locs := [(1, 1, 0)], boxes := [(1, xRn vs kd ps t)], defers := [] }
theorem zdsb (vs : List (List UInt8)) (kd : D) (ps : List Pr) (t : Tp) (F : List (List UInt8)) (i : Nat) (h : i < vs.length) (hl : vs.length < 1000) (hc : C n_32 [dSs F, .str vs[i]] σ = some (.ret ⟨false, .bool true⟩, σ)) : exec C n a_43 (ETd vs kd ps t F i) σ = some (.normal, ETd vs kd ps t F (i + 1), σ) := by
  have h0 : ((i : Int) < (vs.length : Int)) := by omega
  have w1 := zam (i := i) (by omega)
  have hlv : lenOf (dSs vs) = some vs.length := by simp only [dSs, zax, List.length_map]
  have hx : zav 1 (dSs vs) i = some (.eptr (.str vs[i])) := idx_S vs i h
  simp only [a_43, ETd, xRn, bT, de0, de1, de2, szQ, szB, szL, sy0, sy1, sy2, sy3, sy4, sy5, zad, zaa, zac, zae, adel, zah, zag, zai, zaf, evalV, aget, aset, adel1, nth, AOp.kind, Nat.reduceAdd, Nat.reduceSub, Nat.reduceMul, Nat.reduceBEq, Nat.ble, bindO, Nat.reduceLeDiff, Int.reduceBEq, Int.reduceBNe, Int.reduceLE, Int.reduceLT, Int.reduceGE, Int.reduceGT, Int.reduceNeg, ks, lz, h0, w1, hlv, hx, hc]
theorem zdtb (vs : List (List UInt8)) (kd : D) (ps : List Pr) (t : Tp) (F : List (List UInt8)) (i : Nat) (h : i < vs.length) (hc : C n_32 [dSs F, .str vs[i]] σ = some (.ret ⟨false, .bool false⟩, σ)) : exec C n a_43 (ETd vs kd ps t F i) σ = some (.ret, { slots := [(2, ⟨false, .bool false⟩)], locs := [], boxes := [], defers := [] }, σ) := by
  have h0 : ((i : Int) < (vs.length : Int)) := by omega
  have hlv : lenOf (dSs vs) = some vs.length := by simp only [dSs, zax, List.length_map]
  have hx : zav 1 (dSs vs) i = some (.eptr (.str vs[i])) := idx_S vs i h
  simp only [a_43, ETd, xRn, bT, de0, de1, de2, szQ, szB, szL, sy0, sy1, sy2, sy3, sy4, sy5, zad, zaa, zac, zae, adel, zah, zag, zai, zaf, evalV, aget, aset, adel1, nth, AOp.kind, Nat.reduceAdd, Nat.reduceSub, Nat.reduceMul, Nat.reduceBEq, Nat.ble, bindO, Nat.reduceLeDiff, Int.reduceBEq, Int.reduceBNe, Int.reduceLE, Int.reduceLT, Int.reduceGE, Int.reduceGT, Int.reduceNeg, ks, lz, h0, hlv, hx, hc]
theorem zgmb (vs : List (List UInt8)) (kd : D) (ps : List Pr) (t : Tp) (F : List (List UInt8)) : exec C n a_43 (ETd vs kd ps t F vs.length) σ = some (.exit 0, { ETd vs kd ps t F vs.length with slots := [(3, ⟨false, dSs F⟩), (4, ⟨false, .int .i64 vs.length⟩), (12, ⟨false, .bool false⟩)] }, σ) := by
  have h0 : ¬ ((vs.length : Int) < (vs.length : Int)) := by omega
  have hlv : lenOf (dSs vs) = some vs.length := by simp only [dSs, zax, List.length_map]
  simp only [a_43, ETd, xRn, bT, de0, de1, de2, szQ, szB, szL, sy0, sy1, sy2, sy3, sy4, sy5, zad, zaa, zac, zae, adel, zah, zag, zai, zaf, evalV, aget, aset, adel1, nth, AOp.kind, Nat.reduceAdd, Nat.reduceSub, Nat.reduceMul, Nat.reduceBEq, Nat.ble, bindO, Nat.reduceLeDiff, Int.reduceBEq, Int.reduceBNe, Int.reduceLE, Int.reduceLT, Int.reduceGE, Int.reduceGT, Int.reduceNeg, ks, lz, h0, hlv]
end
def tdF (vs F : List (List UInt8)) (i : Nat) : Bool := match vs[i]? with
  | some x => F.contains x
  | none => true
theorem zl2 {vs F : List (List UInt8)} {i : Nat} (h : i < vs.length) : tdF vs F i = F.contains vs[i] := by simp [tdF, h]
theorem ze9b (vs : List (List UInt8)) (kd : D) (ps : List Pr) (t : Tp) (hl : vs.length < 1000) (hb : nT t < 100000) : Evly fun n => ∀ σ, WF σ → ∃ σ', T n n_197 [.agg (dSs vs :: kd :: dPs ps :: cT t)] σ = some (.ret ⟨false, .bool (vs.all fun v => (freeR t []).contains v)⟩, σ') ∧ Ext σ σ' := by
  have hfl := zh1 t []
  simp only [List.length_nil] at hfl
  have hh : Evly fun n => ∀ i, i < vs.length → ∀ h : i < vs.length, ∀ σ, T n n_32 [dSs (freeR t []), .str vs[i]] σ = some (.ret ⟨false, .bool ((freeR t []).contains vs[i])⟩, σ) := Evly.below _ fun i hi => (zm4 (freeR t []) vs[i] (by omega)).mono fun n h _ σ => h σ _ (zewb σ _)
  refine ((zw1 t hb).and hh).step (vs.length + 4) fun m hm h σ hw => ?_
  obtain ⟨σ1, g1, x1⟩ := h.1 σ hw
  refine ⟨σ1, ?_, x1⟩
  have hloop := zdi (body := exec (T m) m a_43) (ETd vs kd ps t (freeR t [])) (fun _ => σ1) vs.length (tdF vs (freeR t [])) (stop := fun i => (.ret, { slots := [(2, ⟨false, .bool false⟩)], locs := [], boxes := [], defers := [] }, σ1)) (fun _ _ h => by cases h) (fun _ _ _ h => by cases h)
    (fun i hi hp => zdsb vs kd ps t _ i hi hl (by have := h.2 i hi hi σ1; rw [zl2 hi] at hp; rw [hp] at this; exact this)) (fun i hi hp => zdtb vs kd ps t _ i hi (by have := h.2 i hi hi σ1; rw [zl2 hi] at hp; rw [hp] at this; exact this)) (zgmb vs kd ps t _) m 0 (by omega) (by omega)
  rw [dT_eq t] at g1
  simp only [ETd, xRn, bT, zeroI] at hloop
  simp only [cT] at g1
  rw [T_fun (af := a_102) rfl rfl]
  rcases hloop with ⟨i, _, hi, hp, hb, hrest⟩ | ⟨hp, hrest⟩
  · have hc : (vs.all fun v => (freeR t []).contains v) = false := by
      rw [List.all_eq_false]
      refine ⟨vs[i], List.getElem_mem hi, ?_⟩
      rw [zl2 hi] at hp
      simpa using hp
    simp only [a_102, cT, de0, de1, de2, szQ, szB, szL, sy0, sy1, sy2, sy3, sy4, sy5, zad, zaa, zac, zae, adel, zah, zag, zai, zaf, evalV, aget, aset, adel1, nth, AOp.kind, Nat.reduceAdd, Nat.reduceSub, Nat.reduceMul, Nat.reduceBEq, Nat.ble, bindO, Nat.reduceLeDiff, Int.reduceBEq, Int.reduceBNe, Int.reduceLE, Int.reduceLT, Int.reduceGE, Int.reduceGT, Int.reduceNeg, ks, lz, memE, memOp, g1, hrest, hc]
  · have hc : (vs.all fun v => (freeR t []).contains v) = true := by
      rw [List.all_eq_true]
      intro v hv
      obtain ⟨i, hi, rfl⟩ := List.getElem_of_mem hv
      have := hp i (Nat.zero_le _) hi
      rwa [zl2 hi] at this
    simp only [a_102, cT, de0, de1, de2, szQ, szB, szL, sy0, sy1, sy2, sy3, sy4, sy5, zad, zaa, zac, zae, adel, zah, zag, zai, zaf, evalV, aget, aset, adel1, nth, AOp.kind, Nat.reduceAdd, Nat.reduceSub, Nat.reduceMul, Nat.reduceBEq, Nat.ble, bindO, Nat.reduceLeDiff, Int.reduceBEq, Int.reduceBNe, Int.reduceLE, Int.reduceLT, Int.reduceGE, Int.reduceGT, Int.reduceNeg, ks, lz, memE, memOp, g1, hrest, hc]
theorem zk1 (s : List UInt8) : ∀ (t : Tp) (out : List (List UInt8)), s ∈ freeR t out ↔ s ∈ out ∨ s ∈ freeT t
  | .var x, out => by
    unfold freeR freeT
    by_cases h : x ∈ out
    · rw [if_pos (by simpa using h)]
      constructor
      · exact .inl
      · rintro (h1 | h1)
        · exact h1
        · rw [List.mem_singleton.1 h1]; exact h
    · rw [if_neg (by simpa using h)]
      simp
  | .con c, out => by simp [freeR, freeT]
  | .hole x, out => by simp [freeR, freeT]
  | .app f a, out => by
    rw [freeR, zk1 s a, zk1 s f, zd9]
    constructor
    · rintro ((h | h) | h)
      · exact .inl h
      · exact .inr (.inl h)
      · exact .inr (.inr h)
    · rintro (h | h | h)
      · exact .inl (.inl h)
      · exact .inl (.inr h)
      · exact .inr h
end Go.Fu
namespace Go.Fu
open Go Go.Mx
set_option maxRecDepth 10000
theorem zor : ∀ t : Tp, szT t = 10 * nT t
  | .var s => rfl
  | .con s => rfl
  | .hole x => rfl
  | .app f a => by simp only [szT, nT, zor f, zor a]; omega
theorem zgyb {s : List UInt8} (h : okV s = true) : s.length = 1 := by
  obtain ⟨c, rfl, _⟩ := zha h
  rfl
theorem zg8 : ∀ t : Tp, tyB t = true → smT t = true
  | .var s, h => by
    have := zgyb (s := s) h
    simp only [smT, decide_eq_true_eq]; omega
  | .con s, h => h
  | .hole x, h => h
  | .app f a, h => by
    simp only [tyB, Bool.and_eq_true] at h
    simp only [smT, Bool.and_eq_true]
    exact ⟨zg8 f h.1, zg8 a h.2⟩
theorem subV (ns L : List (List UInt8)) (s : List UInt8) : ∃ s', subT ns (L.map Tp.var) (.var s) = .var s' ∧ (s' = s ∨ s' ∈ L) := by
  unfold subT
  cases hp : posS s ns with
  | none => exact ⟨s, rfl, .inl rfl⟩
  | some i =>
    by_cases h : i < L.length
    · have h1 : i < (L.map Tp.var).length := by rw [List.length_map]; exact h
      refine ⟨L[i], ?_, .inr (List.getElem_mem h)⟩
      simp only [List.getD_eq_getElem?_getD, List.getElem?_eq_getElem h1, Option.getD_some, List.getElem_map]
    · refine ⟨s, ?_, .inl rfl⟩
      have h1 : (L.map Tp.var)[i]? = none := by rw [List.getElem?_eq_none]; rw [List.length_map]; omega
      simp only [List.getD_eq_getElem?_getD, h1, Option.getD_none]
theorem zpl (ns L : List (List UInt8)) (hL : ∀ s ∈ L, okV s = true) : ∀ u : Tp, okA u = true → okA (subT ns (L.map Tp.var) u) = true
  | .con c, h => h
  | .hole x, h => h
  | .app f a, h => by
    simp only [okA, Bool.and_eq_true] at h
    simp only [subT, okA, Bool.and_eq_true]
    exact ⟨zpl ns L hL f h.1, zpl ns L hL a h.2⟩
  | .var s, h => by
    obtain ⟨s', h1, h2⟩ := subV ns L s
    rw [h1]
    rcases h2 with rfl | h2
    · exact h
    · exact hL s' h2
theorem zpm (ns L : List (List UInt8)) (hL : ∀ s ∈ L, okV s = true) : ∀ u : Tp, tyB u = true → tyB (subT ns (L.map Tp.var) u) = true
  | .con c, h => h
  | .hole x, h => h
  | .app f a, h => by
    simp only [tyB, Bool.and_eq_true] at h
    simp only [subT, tyB, Bool.and_eq_true]
    exact ⟨zpm ns L hL f h.1, zpm ns L hL a h.2⟩
  | .var s, h => by
    obtain ⟨s', h1, h2⟩ := subV ns L s
    rw [h1]
    rcases h2 with rfl | h2
    · exact h
    · exact hL s' h2
theorem zlq (ns L : List (List UInt8)) : ∀ u : Tp, nT (subT ns (L.map Tp.var) u) = nT u
  | .con c => rfl
  | .hole x => rfl
  | .app f a => by simp only [subT, nT, zlq ns L f, zlq ns L a]
  | .var s => by
    obtain ⟨s', h1, _⟩ := subV ns L s
    rw [h1]
    rfl
theorem bz3 : bz 3 = 29 := rfl
theorem bz5 : bz 5 = 125 := rfl
theorem zhab (t : Tp) (ps : List Pr) (B : Nat) (ht : nT t ≤ B) (hp : ∀ p ∈ ps, nT p.ty ≤ B) : (othA t ps).length ≤ B * (ps.length + 1) := by
  have h1 := zcl t
  have : ∀ l : List Pr, (∀ p ∈ l, nT p.ty ≤ B) → (l.flatMap fun p => freeT p.ty).length ≤ B * l.length := by
    intro l
    induction l with
    | nil => intro _; simp
    | cons p l ih =>
      intro h
      have h2 := ih fun x hx => h x (List.mem_cons_of_mem _ hx)
      have h3 := zcl p.ty
      have h4 := h p (by simp)
      simp only [List.flatMap_cons, List.length_append, List.length_cons, Nat.mul_succ]
      omega
  have h2 := this ps hp
  unfold othA
  rw [List.length_append, Nat.mul_succ]
  omega
theorem zhxb (vs : List (List UInt8)) (t : Tp) (ps : List Pr) (B : Nat) (ht : nT t ≤ B) (hp : ∀ p ∈ ps, nT p.ty ≤ B) : (nmI vs t ps).length ≤ B * (ps.length + 1) := by
  have key : ∀ (l : List Pr) (ns : List (List UInt8)), (∀ p ∈ l, nT p.ty ≤ B) → (l.foldl (fun ns p => meetL vs ns (freeT p.ty)) ns).length ≤ ns.length + B * l.length := by
    intro l
    induction l with
    | nil => intro ns _; simp
    | cons p l ih =>
      intro ns h
      have h1 := ih (meetL vs ns (freeT p.ty)) fun x hx => h x (List.mem_cons_of_mem _ hx)
      have h2 := zgf vs (freeT p.ty) ns
      have h3 := zcl p.ty
      have h4 := h p (by simp)
      simp only [List.foldl_cons, List.length_cons, Nat.mul_succ]
      omega
  have h1 := key ps (meetL vs [] (freeT t)) hp
  have h2 := zgf vs (freeT t) []
  have h3 := zcl t
  unfold nmI
  simp only [List.length_nil] at h2
  rw [Nat.mul_succ]
  omega
theorem zra (vs : List (List UInt8)) (ps : List Pr) (t : Tp) (hv : vs.length < 1000) (hp : ps.length ≤ 4) (ht : nT t ≤ 125) (hts : ∀ p ∈ ps, nT p.ty ≤ 125) (hnx : ∀ i, i < (cNs vs ps t).length → Nx (cTl vs ps t) (kk (cTl vs ps t) i) (nxt (cTl vs ps t) (kk (cTl vs ps t) i)) ∧ nxt (cTl vs ps t) (kk (cTl vs ps t) i) < 26)
    (hok : ∀ p ∈ ps.map (putP (cNs vs ps t) ((cLs vs ps t).map Tp.var)), okP p) (hne : cNs vs ps t ≠ [] → vs.length ≠ 0) : CanOK vs ps t := by
  have hsub : ∀ i, ∀ p ∈ ps.take i, nT p.ty ≤ 125 := fun i p hp => hts p (List.mem_of_mem_take hp)
  refine ⟨hv, by omega, by omega, fun p hp => by have := hts p hp; omega, fun i hi => ?_, fun i hi => ?_, hnx, hok, hne⟩
  · have := zhab t (ps.take i) 125 ht (hsub i)
    rw [List.length_take] at this
    have h2 : min i ps.length + 1 ≤ 5 := by omega
    have h3 : 125 * (min i ps.length + 1) ≤ 125 * 5 := Nat.mul_le_mul_left _ h2
    omega
  · have := zhxb vs t (ps.take i) 125 ht (hsub i)
    rw [List.length_take] at this
    have h2 : min i ps.length + 1 ≤ 5 := by omega
    have h3 : 125 * (min i ps.length + 1) ≤ 125 * 5 := Nat.mul_le_mul_left _ h2
    omega
theorem zlx : ∀ t : Tp, v5T t = true → ∀ s ∈ freeT t, s ∈ V5
  | .var x, h, s, hs => by
    simp only [freeT, List.mem_singleton] at hs
    rw [hs]
    exact zbz.1 h
  | .con c, _, s, hs => by simp [freeT] at hs
  | .hole x, _, s, hs => by simp [freeT] at hs
  | .app f a, h, s, hs => by
    simp only [v5T, Bool.and_eq_true] at h
    rcases (zd9 s f a).1 hs with h1 | h1
    · exact zlx f h.1 s h1
    · exact zlx a h.2 s h1
theorem zhwb : ∀ k, k < 26 → ltr k ∈ V5 → k = 0 ∨ k = 1 ∨ k = 2 ∨ k = 5 ∨ k = 23 := by
  have : ∀ k, k < 26 → V5.contains (ltr k) = true → (k = 0 ∨ k = 1 ∨ k = 2 ∨ k = 5 ∨ k = 23) := by decide +kernel
  intro k hk h
  exact this k hk (zbz.2 h)
theorem zr8 (tl : List (List UInt8)) : ∀ (f k j : Nat), j < f → tl.contains (ltr (k + j)) = false → Nx tl k (nxF tl f k) ∧ nxF tl f k ≤ k + j
  | 0, k, j, hj, _ => by omega
  | f + 1, k, j, hj, h => by
    unfold nxF
    cases hc : tl.contains (ltr k) with
    | false =>
      rw [if_neg (by simp)]
      exact ⟨⟨Nat.le_refl _, fun i h1 h2 => by omega, hc⟩, by omega⟩
    | true =>
      rw [if_pos rfl]
      have hj0 : j ≠ 0 := fun e => by subst e; rw [Nat.add_zero] at h; rw [h] at hc; cases hc
      have ih := zr8 tl f (k + 1) (j - 1) (by omega) (by rw [show k + 1 + (j - 1) = k + j by omega]; exact h)
      refine ⟨⟨by have := ih.1.le; omega, fun i h1 h2 => ?_, ih.1.free⟩, by have := ih.2; omega⟩
      by_cases hi : i = k
      · rw [hi]; exact hc
      · exact ih.1.taken i (by omega) h2
theorem nx_ok (tl : List (List UInt8)) (h5 : ∀ s ∈ tl, s ∈ V5) (k : Nat) (hk : k ≤ 18) : Nx tl k (nxt tl k) ∧ nxt tl k ≤ k + 3 := by
  have hj : ∃ j, j ≤ 3 ∧ tl.contains (ltr (k + j)) = false := by
    have key : ∀ k, k ≤ 18 → ∃ j, j ≤ 3 ∧ ¬ (k + j = 0 ∨ k + j = 1 ∨ k + j = 2 ∨ k + j = 5 ∨ k + j = 23) := by
      intro k hk
      by_cases h : k ≤ 2
      · exact ⟨3 - k, by omega, by omega⟩
      · by_cases h5 : k = 5
        · exact ⟨1, by omega, by omega⟩
        · exact ⟨0, by omega, by omega⟩
    obtain ⟨j, hj, hn⟩ := key k hk
    refine ⟨j, hj, ?_⟩
    cases hc : tl.contains (ltr (k + j)) with
    | false => rfl
    | true => exact absurd (zhwb (k + j) (by omega) (h5 _ (zbz.1 hc))) hn
  obtain ⟨j, hj, hc⟩ := hj
  have := zr8 tl 30 k j (by omega) hc
  exact ⟨this.1, by have := this.2; unfold nxt; omega⟩
theorem kk_le (tl : List (List UInt8)) (h5 : ∀ s ∈ tl, s ∈ V5) : ∀ i, i ≤ 4 → kk tl i ≤ 4 * i
  | 0, _ => Nat.le_refl _
  | i + 1, h => by
    have ih := kk_le tl h5 i (by omega)
    have := (nx_ok tl h5 (kk tl i) (by omega)).2
    simp only [kk]; omega
theorem zr9 (tl : List (List UInt8)) (h5 : ∀ s ∈ tl, s ∈ V5) (i : Nat) (hi : i < 5) : Nx tl (kk tl i) (nxt tl (kk tl i)) ∧ nxt tl (kk tl i) < 26 := by
  have h1 := kk_le tl h5 i (by omega)
  have := nx_ok tl h5 (kk tl i) (by omega)
  exact ⟨this.1, by have := this.2; omega⟩
theorem zhvb : ∀ k, k < 26 → okV (ltr k) = true := by decide +kernel
theorem zwn (tl : List (List UInt8)) (h5 : ∀ s ∈ tl, s ∈ V5) : ∀ n, n ≤ 5 → ∀ s ∈ lets tl n, okV s = true
  | 0, _, s, h => by simp [lets] at h
  | n + 1, hn, s, h => by
    simp only [lets, List.mem_append, List.mem_singleton] at h
    rcases h with h | rfl
    · exact zwn tl h5 n (by omega) s h
    · exact zhvb _ (zr9 tl h5 n (by omega)).2
theorem zii (vs : List (List UInt8)) : ∀ (l ns : List (List UInt8)), ns.Nodup → (meetL vs ns l).Nodup
  | [], ns, h => h
  | x :: l, ns, h => by
    show (meetL vs (if vs.contains x && !(ns.contains x) then ns ++ [x] else ns) l).Nodup
    refine zii vs l _ ?_
    by_cases hc : (vs.contains x && !(ns.contains x)) = true
    · rw [if_pos hc]
      simp only [Bool.and_eq_true, Bool.not_eq_true'] at hc
      rw [List.nodup_append]
      refine ⟨h, by simp, fun a ha b hb e => ?_⟩
      rw [List.mem_singleton.1 hb] at e
      rw [e] at ha
      rw [zbz.2 ha] at hc
      cases hc.2
    · rw [if_neg hc]; exact h
theorem zeib (vs : List (List UInt8)) (t : Tp) (ps : List Pr) : (nmI vs t ps).Nodup := by
  have key : ∀ (l : List Pr) (ns : List (List UInt8)), ns.Nodup → (l.foldl (fun ns p => meetL vs ns (freeT p.ty)) ns).Nodup := by
    intro l
    induction l with
    | nil => intro ns h; exact h
    | cons p l ih => intro ns h; exact ih _ (zii vs _ ns h)
  exact key ps _ (zii vs _ [] List.nodup_nil)
structure Facts (vs : List (List UInt8)) (ps : List Pr) (t : Tp) : Prop where
  n5 : (cNs vs ps t).length ≤ 5
  tl5 : ∀ s ∈ cTl vs ps t, s ∈ V5
  lok : ∀ s ∈ cLs vs ps t, okV s = true
  put : ∀ p ∈ ps.map (putP (cNs vs ps t) ((cLs vs ps t).map Tp.var)), okA p.ty = true ∧ okS p
theorem zju {vs : List (List UInt8)} {ps : List Pr} {t : Tp} (H : SOK vs ps t) : Facts vs ps t := by
  have hn : (cNs vs ps t).length ≤ 5 := by
    have h1 : (cNs vs ps t).length ≤ vs.length := List.Nodup.length_le_of_subset (zeib vs t ps) (fun s hs => (zr6 H s hs).2)
    have := H.vl
    omega
  have h5 : ∀ s ∈ cTl vs ps t, s ∈ V5 := fun s hs => by
    have hm : s ∈ othA t ps := (List.mem_filter.1 hs).1
    unfold othA at hm
    rcases List.mem_append.1 hm with h | h
    · exact zlx t H.tB.1.2 s h
    · obtain ⟨p, hp, hm⟩ := List.mem_flatMap.1 h
      exact zlx p.ty (H.po p hp).1.1.2 s hm
  have hL := zwn (cTl vs ps t) h5 (cNs vs ps t).length hn
  refine ⟨hn, h5, hL, fun p hp => ?_⟩
  obtain ⟨q, hq, rfl⟩ := List.mem_map.1 hp
  have hLP := H.po q hq
  have hA := zpl (cNs vs ps t) (cLs vs ps t) hL q.ty hLP.1.1.1
  have hnT := zlq (cNs vs ps t) (cLs vs ps t) q.ty
  have hb := hLP.1.2
  rw [bz3] at hb
  refine ⟨hA, ⟨zg8 _ (zg9 _ hA), ?_⟩, hLP.2⟩
  show szT (subT (cNs vs ps t) ((cLs vs ps t).map Tp.var) q.ty) ≤ 1048576
  rw [zor, hnT]
  omega
end Go.Fu

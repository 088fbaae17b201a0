/-
  The free variables of every type, run.
-/
import Derived.Test.YtkgdpcnobfadaaaGreatDoorFnX2
set_option linter.unusedSimpArgs false
set_option linter.unusedVariables false
namespace Go.Fu
open Go Go.Mx
set_option maxRecDepth 10000
section
variable {C : CallF} {n : Nat}
def EF1 (f a : Tp) (r : D) (i : Nat) : Env := { slots := [(3, ⟨false, r⟩), (15, ⟨false, .list k_3 [dT f, dT a]⟩), (16, ⟨false, .int .i64 2⟩), (17, ⟨false, .int .i64 i⟩)], locs := [(1, 1, 0)], boxes := [(1, bA f a)], defers := [] }
theorem zwf (f a : Tp) (i : Nat) (out L : List (List UInt8)) (σ0 σ : Store) (r : D) (hr : ArrOf σ0 σ r out) (hout : out.length + L.length < 1048576) (hn : L.length < n) (hc : ∀ j, ∀ h : j < L.length, ∀ σ r, ArrIn σ r (addA out (L.take j)) → C n_10 [r, .str L[j]] σ = some (.ret ⟨false, .bool ((addA out (L.take j)).contains L[j])⟩, σ)) :
    ∃ r' σ', loopN (exec C n a_51) n (EF0 f a r i L 0) σ = some (.exit 2, { EF0 f a r' i L L.length with slots := [(3, ⟨false, r'⟩), (15, ⟨false, .list k_3 [dT f, dT a]⟩), (16, ⟨false, .int .i64 2⟩), (17, ⟨false, .int .i64 i⟩), (22, ⟨false, dSs L⟩), (23, ⟨false, .int .i64 L.length⟩), (24, ⟨false, .int .i64 L.length⟩), (25, ⟨false, .bool false⟩)] }, σ') ∧ ArrOf σ0 σ' r' (addA out L) := by
  have h := zbw (body := exec C n a_51) (fun j e σ => ∃ r, e = EF0 f a r i L j ∧ ArrOf σ0 σ r (addA out (L.take j)))
    (fun x => ∃ r', x.1 = .exit 2 ∧ x.2.1 = { EF0 f a r' i L L.length with slots := [(3, ⟨false, r'⟩), (15, ⟨false, .list k_3 [dT f, dT a]⟩), (16, ⟨false, .int .i64 2⟩), (17, ⟨false, .int .i64 i⟩), (22, ⟨false, dSs L⟩), (23, ⟨false, .int .i64 L.length⟩), (24, ⟨false, .int .i64 L.length⟩), (25, ⟨false, .bool false⟩)] } ∧ ArrOf σ0 x.2.2 r' (addA out L)) L.length
    (fun j e σ hj hp => zc4b f a i out L σ0 hout hc j e σ hj hp)
    (fun e σ hp => by
      obtain ⟨r, rfl, hr⟩ := hp
      rw [List.take_length] at hr
      exact ⟨_, zf1b f a i L r σ, fun _ _ h => (by cases h), r, rfl, rfl, hr⟩) 0 n (EF0 f a r i L 0) σ (by omega) (by omega) ⟨r, rfl, hr⟩
  obtain ⟨⟨x, e, σ'⟩, h1, r', h2, h3, h4⟩ := h
  simp only at h2 h3 h4
  subst h2 h3
  exact ⟨r', σ', h1, h4⟩
def FreeC (C : CallF) (t : Tp) : Prop := ∀ σ, WF σ → ∃ r σ', C n_66 [dT t] σ = some (.ret ⟨false, r⟩, σ') ∧ ArrOf σ σ' r (freeT t)
theorem zz7 (f a : Tp) (out : List (List UInt8)) (σ0 σ : Store) (r : D) (hr : ArrOf σ0 σ r out) (hf : FreeC C f) (hout : out.length + (freeT f).length < 1048576) (hn : (freeT f).length < n)
    (hc : ∀ j, ∀ h : j < (freeT f).length, ∀ σ r, ArrIn σ r (addA out ((freeT f).take j)) → C n_10 [r, .str (freeT f)[j]] σ = some (.ret ⟨false, .bool ((addA out ((freeT f).take j)).contains (freeT f)[j])⟩, σ)) :
    ∃ r' σ', exec C n a_38 (EF1 f a r 0) σ = some (.normal, EF1 f a r' 1, σ') ∧ ArrOf σ0 σ' r' (addA out (freeT f)) := by
  obtain ⟨q, σ1, h1, hq⟩ := hf σ hr.1.wf
  obtain ⟨σ2, hz, hx⟩ := zjz hq 22 { slots := [(3, ⟨false, r⟩), (15, ⟨false, .list k_3 [dT f, dT a]⟩), (16, ⟨false, .int .i64 2⟩), (17, ⟨false, .int .i64 0⟩), (22, ⟨false, q⟩), (23, ⟨false, .int .i64 (freeT f).length⟩), (24, ⟨false, .int .i64 0⟩)], locs := [(1, 1, 0)], boxes := [(1, bA f a)], defers := [] } rfl
  obtain ⟨r', σ', hl, hr'⟩ := zwf (C := C) (n := n) f a 0 out (freeT f) σ0 σ2 r (hr.ext hx) hout hn hc
  refine ⟨r', σ', ?_, hr'⟩
  have hlen := hq.len
  have w1 : IntKind.i64.wrap (0 + 1) = 1 := by decide
  have h02 : (0 : Nat) < 2 := by decide
  rw [dT_eq f] at h1
  simp only [bA, dT_eq f, dT_eq a, cT, aset, de0, de1, de2, szQ, szB, szL, sy0, sy1, sy2, sy3, sy4, sy5, zad, zaa, zac, zae, adel, zah, zag, zai, zaf, evalV, aget, aset, adel1, nth, AOp.kind, Nat.reduceAdd, Nat.reduceSub, Nat.reduceMul, Nat.reduceBEq, Nat.ble, bindO, Nat.reduceLeDiff, Int.reduceBEq, Int.reduceBNe, Int.reduceLE, Int.reduceLT, Int.reduceGE, Int.reduceGT, Int.reduceNeg] at hz
  simp only [EF0, bA, dT_eq f, dT_eq a, cT, zeroI] at hl
  simp only [cT] at h1
  simp only [a_38, EF1, bA, de0, de1, de2, szQ, szB, szL, sy0, sy1, sy2, sy3, sy4, sy5, zad, zaa, zac, zae, adel, zah, zag, zai, zaf, evalV, aget, aset, adel1, nth, AOp.kind, Nat.reduceAdd, Nat.reduceSub, Nat.reduceMul, Nat.reduceBEq, Nat.ble, bindO, Nat.reduceLeDiff, Int.reduceBEq, Int.reduceBNe, Int.reduceLE, Int.reduceLT, Int.reduceGE, Int.reduceGT, Int.reduceNeg, ks, lz, dT_eq f, dT_eq a, cT, h02, h1, hlen, zfr, hz, hl, w1]
theorem zz8 (f a : Tp) (out : List (List UInt8)) (σ0 σ : Store) (r : D) (hr : ArrOf σ0 σ r out) (hf : FreeC C a) (hout : out.length + (freeT a).length < 1048576) (hn : (freeT a).length < n)
    (hc : ∀ j, ∀ h : j < (freeT a).length, ∀ σ r, ArrIn σ r (addA out ((freeT a).take j)) → C n_10 [r, .str (freeT a)[j]] σ = some (.ret ⟨false, .bool ((addA out ((freeT a).take j)).contains (freeT a)[j])⟩, σ)) :
    ∃ r' σ', exec C n a_38 (EF1 f a r 1) σ = some (.normal, EF1 f a r' 2, σ') ∧ ArrOf σ0 σ' r' (addA out (freeT a)) := by
  obtain ⟨q, σ1, h1, hq⟩ := hf σ hr.1.wf
  obtain ⟨σ2, hz, hx⟩ := zjz hq 22 { slots := [(3, ⟨false, r⟩), (15, ⟨false, .list k_3 [dT f, dT a]⟩), (16, ⟨false, .int .i64 2⟩), (17, ⟨false, .int .i64 1⟩), (22, ⟨false, q⟩), (23, ⟨false, .int .i64 (freeT a).length⟩), (24, ⟨false, .int .i64 0⟩)], locs := [(1, 1, 0)], boxes := [(1, bA f a)], defers := [] } rfl
  obtain ⟨r', σ', hl, hr'⟩ := zwf (C := C) (n := n) f a 1 out (freeT a) σ0 σ2 r (hr.ext hx) hout hn hc
  refine ⟨r', σ', ?_, hr'⟩
  have hlen := hq.len
  have w1 : IntKind.i64.wrap (1 + 1) = 2 := by decide
  have h02 : (1 : Nat) < 2 := by decide
  rw [dT_eq a] at h1
  simp only [bA, dT_eq f, dT_eq a, cT, aset, de0, de1, de2, szQ, szB, szL, sy0, sy1, sy2, sy3, sy4, sy5, zad, zaa, zac, zae, adel, zah, zag, zai, zaf, evalV, aget, aset, adel1, nth, AOp.kind, Nat.reduceAdd, Nat.reduceSub, Nat.reduceMul, Nat.reduceBEq, Nat.ble, bindO, Nat.reduceLeDiff, Int.reduceBEq, Int.reduceBNe, Int.reduceLE, Int.reduceLT, Int.reduceGE, Int.reduceGT, Int.reduceNeg] at hz
  simp only [EF0, bA, dT_eq f, dT_eq a, cT, zeroI, lz] at hl
  simp only [cT] at h1
  simp only [a_38, EF1, bA, de0, de1, de2, szQ, szB, szL, sy0, sy1, sy2, sy3, sy4, sy5, zad, zaa, zac, zae, adel, zah, zag, zai, zaf, evalV, aget, aset, adel1, nth, AOp.kind, Nat.reduceAdd, Nat.reduceSub, Nat.reduceMul, Nat.reduceBEq, Nat.ble, bindO, Nat.reduceLeDiff, Int.reduceBEq, Int.reduceBNe, Int.reduceLE, Int.reduceLT, Int.reduceGE, Int.reduceGT, Int.reduceNeg, ks, lz, dT_eq f, dT_eq a, cT, h02, h1, hlen, zfr, hz, hl, w1]
theorem zf2b (f a : Tp) (r : D) (σ : Store) : exec C n a_38 (EF1 f a r 2) σ = some (.exit 0, { EF1 f a r 2 with slots := [(3, ⟨false, r⟩), (15, ⟨false, .list k_3 [dT f, dT a]⟩), (16, ⟨false, .int .i64 2⟩), (17, ⟨false, .int .i64 2⟩), (18, ⟨false, .bool false⟩)] }, σ) := by
  simp only [a_38, EF1, bA, de0, de1, de2, szQ, szB, szL, sy0, sy1, sy2, sy3, sy4, sy5, zad, zaa, zac, zae, adel, zah, zag, zai, zaf, evalV, aget, aset, adel1, nth, AOp.kind, Nat.reduceAdd, Nat.reduceSub, Nat.reduceMul, Nat.reduceBEq, Nat.ble, bindO, Nat.reduceLeDiff, Int.reduceBEq, Int.reduceBNe, Int.reduceLE, Int.reduceLT, Int.reduceGE, Int.reduceGT, Int.reduceNeg, ks, lz]
theorem zwg {σ : Store} (f x : Int) (s : List UInt8) : exec C n a_38 { slots := [(3, ⟨false, .nils⟩), (15, ⟨false, .nils⟩), (16, ⟨false, .int .i64 0⟩), (17, ⟨false, .int .i64 0⟩)], locs := [(1, 1, 0)], boxes := [(1, [⟨false, .int .i64 f⟩, ⟨false, .int .i64 x⟩, ⟨false, .str s⟩, ⟨false, .nils⟩])], defers := [] } σ =
    some (.exit 0, { slots := [(3, ⟨false, .nils⟩), (15, ⟨false, .nils⟩), (16, ⟨false, .int .i64 0⟩), (17, ⟨false, .int .i64 0⟩), (18, ⟨false, .bool false⟩)], locs := [(1, 1, 0)], boxes := [(1, [⟨false, .int .i64 f⟩, ⟨false, .int .i64 x⟩, ⟨false, .str s⟩, ⟨false, .nils⟩])], defers := [] }, σ) := by
  simp only [a_38, de0, de1, de2, szQ, szB, szL, sy0, sy1, sy2, sy3, sy4, sy5, zad, zaa, zac, zae, adel, zah, zag, zai, zaf, evalV, aget, aset, adel1, nth, AOp.kind, Nat.reduceAdd, Nat.reduceSub, Nat.reduceMul, Nat.reduceBEq, Nat.ble, bindO, Nat.reduceLeDiff, Int.reduceBEq, Int.reduceBNe, Int.reduceLE, Int.reduceLT, Int.reduceGE, Int.reduceGT, Int.reduceNeg, ks, lz]
end
theorem zk2 (m : Nat) (t : Tp) (σ : Store) (hw : WF σ) (ha : isApp t = false) (hm : 1 ≤ m) : ∃ r σ', T (m + 1) n_66 [dT t] σ = some (.ret ⟨false, r⟩, σ') ∧ ArrOf σ σ' r (freeT t) := by
  cases t with
  | app f a => cases ha
  | var s =>
    refine ⟨.arr k_0 σ.next 0 1, za4 σ k_0 (cellsOf [.str s]), ?_, zwc hw _ _, .inr ⟨σ.next, rfl, ?_, ?_, Nat.le_refl _, ?_, by simp [freeT]⟩⟩
    · rw [T_fun (af := a_29) rfl rfl]
      simp only [a_29, de0, de1, de2, szQ, szB, szL, sy0, sy1, sy2, sy3, sy4, sy5, zad, zaa, zac, zae, adel, zah, zag, zai, zaf, evalV, aget, aset, adel1, nth, AOp.kind, Nat.reduceAdd, Nat.reduceSub, Nat.reduceMul, Nat.reduceBEq, Nat.ble, bindO, Nat.reduceLeDiff, Int.reduceBEq, Int.reduceBNe, Int.reduceLE, Int.reduceLT, Int.reduceGE, Int.reduceGT, Int.reduceNeg, ks, lz, dT, memE, memOp]
    · simp [za4, aget, ifB, freeT]
    · simp [za4, aget, ifB]
    · simp only [za4]; omega
  | con c =>
    refine ⟨.nils, σ, ?_, Ext.refl hw, .inl ⟨rfl, rfl⟩⟩
    obtain ⟨j, rfl⟩ : ∃ j, m = j + 1 := ⟨m - 1, by omega⟩
    have hl := za7 (k := j) (zwg (C := T (j + 1)) (n := j + 1) (σ := σ) 3 0 c)
    rw [T_fun (af := a_29) rfl rfl]
    simp only [a_29, de0, de1, de2, szQ, szB, szL, sy0, sy1, sy2, sy3, sy4, sy5, zad, zaa, zac, zae, adel, zah, zag, zai, zaf, evalV, aget, aset, adel1, nth, AOp.kind, Nat.reduceAdd, Nat.reduceSub, Nat.reduceMul, Nat.reduceBEq, Nat.ble, bindO, Nat.reduceLeDiff, Int.reduceBEq, Int.reduceBNe, Int.reduceLE, Int.reduceLT, Int.reduceGE, Int.reduceGT, Int.reduceNeg, ks, lz, dT, hl]
  | hole x =>
    refine ⟨.nils, σ, ?_, Ext.refl hw, .inl ⟨rfl, rfl⟩⟩
    obtain ⟨j, rfl⟩ : ∃ j, m = j + 1 := ⟨m - 1, by omega⟩
    have hl := za7 (k := j) (zwg (C := T (j + 1)) (n := j + 1) (σ := σ) 1 x [])
    rw [T_fun (af := a_29) rfl rfl]
    simp only [a_29, de0, de1, de2, szQ, szB, szL, sy0, sy1, sy2, sy3, sy4, sy5, zad, zaa, zac, zae, adel, zah, zag, zai, zaf, evalV, aget, aset, adel1, nth, AOp.kind, Nat.reduceAdd, Nat.reduceSub, Nat.reduceMul, Nat.reduceBEq, Nat.ble, bindO, Nat.reduceLeDiff, Int.reduceBEq, Int.reduceBNe, Int.reduceLE, Int.reduceLT, Int.reduceGE, Int.reduceGT, Int.reduceNeg, ks, lz, dT, hl]
theorem zcnb (m : Nat) (hm : 4 ≤ m) (f a : Tp) (σ : Store) (hw : WF σ) (hf : FreeC (T m) f) (ha : FreeC (T m) a) (hn : nT f + nT a < m) (hb : nT f + nT a < 100000)
    (hc1 : ∀ j, j < (freeT f).length → ∀ h : j < (freeT f).length, ∀ σ r, ArrIn σ r (addA [] ((freeT f).take j)) → T m n_10 [r, .str (freeT f)[j]] σ = some (.ret ⟨false, .bool ((addA [] ((freeT f).take j)).contains (freeT f)[j])⟩, σ))
    (hc2 : ∀ j, j < (freeT a).length → ∀ h : j < (freeT a).length, ∀ σ r, ArrIn σ r (addA (addA [] (freeT f)) ((freeT a).take j)) → T m n_10 [r, .str (freeT a)[j]] σ = some (.ret ⟨false, .bool ((addA (addA [] (freeT f)) ((freeT a).take j)).contains (freeT a)[j])⟩, σ)) :
    ∃ r σ', T (m + 1) n_66 [dT (.app f a)] σ = some (.ret ⟨false, r⟩, σ') ∧ ArrOf σ σ' r (freeT (.app f a)) := by
  have l1 := zcl f
  have l2 := zcl a
  have l3 := zd7 (freeT f) []
  simp only [List.length_nil] at l3
  obtain ⟨r1, σ1, e1, h1⟩ := zz7 (C := T m) (n := m) f a [] σ σ .nils ⟨Ext.refl hw, .inl ⟨rfl, rfl⟩⟩ hf (by simp only [List.length_nil]; omega) (by omega) (fun j h => hc1 j h h)
  obtain ⟨r2, σ2, e2, h2⟩ := zz8 (C := T m) (n := m) f a (addA [] (freeT f)) σ σ1 r1 h1 ha (by omega) (by omega) (fun j h => hc2 j h h)
  refine ⟨r2, σ2, ?_, h2⟩
  obtain ⟨j, rfl⟩ : ∃ j, m = j + 3 := ⟨m - 3, by omega⟩
  have hl := (zb4 (k := j + 2) e1).trans ((zb4 (k := j + 1) e2).trans (za7 (k := j) (zf2b f a r2 σ2)))
  rw [T_fun (af := a_29) rfl rfl]
  simp only [EF1, bA, zeroI] at hl
  simp only [a_29, de0, de1, de2, szQ, szB, szL, sy0, sy1, sy2, sy3, sy4, sy5, zad, zaa, zac, zae, adel, zah, zag, zai, zaf, evalV, aget, aset, adel1, nth, AOp.kind, Nat.reduceAdd, Nat.reduceSub, Nat.reduceMul, Nat.reduceBEq, Nat.ble, bindO, Nat.reduceLeDiff, Int.reduceBEq, Int.reduceBNe, Int.reduceLE, Int.reduceLT, Int.reduceGE, Int.reduceGT, Int.reduceNeg, ks, lz, dT, hl]
theorem zhn : ∀ t : Tp, nT t < 100000 → Evly fun n => FreeC (T n) t
  | .var s, _ => (Evly.all (p := fun _ => True) fun _ => trivial).step 1 fun m hm _ σ hw => zk2 m _ σ hw rfl hm
  | .con s, _ => (Evly.all (p := fun _ => True) fun _ => trivial).step 1 fun m hm _ σ hw => zk2 m _ σ hw rfl hm
  | .hole s, _ => (Evly.all (p := fun _ => True) fun _ => trivial).step 1 fun m hm _ σ hw => zk2 m _ σ hw rfl hm
  | .app f a, hb => by
    simp only [nT] at hb
    have l1 := zcl f
    have l2 := zcl a
    have l3 := zd7 (freeT f) []
    have hc1 : Evly fun n => ∀ j, j < (freeT f).length → ∀ h : j < (freeT f).length, ∀ σ r, ArrIn σ r (addA [] ((freeT f).take j)) → T n n_10 [r, .str (freeT f)[j]] σ = some (.ret ⟨false, .bool ((addA [] ((freeT f).take j)).contains (freeT f)[j])⟩, σ) :=
      Evly.below _ fun j hj => (zrr (addA [] ((freeT f).take j)) (freeT f)[j] (by
        have := zd7 ((freeT f).take j) []
        simp only [List.length_nil, List.length_take] at this
        omega)).mono fun n h _ σ r hr => h σ r hr
    have hc2 : Evly fun n => ∀ j, j < (freeT a).length → ∀ h : j < (freeT a).length, ∀ σ r, ArrIn σ r (addA (addA [] (freeT f)) ((freeT a).take j)) → T n n_10 [r, .str (freeT a)[j]] σ = some (.ret ⟨false, .bool ((addA (addA [] (freeT f)) ((freeT a).take j)).contains (freeT a)[j])⟩, σ) :=
      Evly.below _ fun j hj => (zrr (addA (addA [] (freeT f)) ((freeT a).take j)) (freeT a)[j] (by
        have := zd7 ((freeT a).take j) (addA [] (freeT f))
        simp only [List.length_nil, List.length_take] at this l3
        omega)).mono fun n h _ σ r hr => h σ r hr
    exact ((zhn f (by omega)).and ((zhn a (by omega)).and (hc1.and hc2))).step (nT f + nT a + 5) fun m hm h σ hw => zcnb m (by omega) f a σ hw h.1 h.2.1 (by omega) (by omega) h.2.2.1 h.2.2.2
end Go.Fu
namespace Go.Fu
open Go Go.Mx
set_option maxRecDepth 10000
theorem zfy : ∀ (cs : List Cell) (i : Nat), zap cs i [] = cs
  | [], _ => rfl
  | _ :: _, 0 => rfl
  | _ :: _, _ + 1 => rfl
theorem zbhb : ∀ (l : List (List UInt8)) (i : Nat) (s : List UInt8), i < l.length → zap (cellsOf (l.map D.str)) i [⟨false, .str s⟩] = cellsOf ((l.set i s).map D.str)
  | [], i, s, h => by simp at h
  | x :: l, 0, s, h => by
    simp only [List.map_cons, cellsOf, D.cells, List.cons_append, List.nil_append, zap, zfy, List.set_cons_zero]
    rfl
  | x :: l, i + 1, s, h => by
    have := zbhb l i s (by simpa using h)
    simp only [List.map_cons, cellsOf, D.cells, List.map_nil, List.cons_append, List.nil_append, zap, List.set_cons_succ, this]
theorem row_S : ∀ n : Nat, rowOf [D.str []] n = cellsOf ((List.replicate n ([] : List UInt8)).map D.str)
  | 0 => rfl
  | n + 1 => by
    simp only [rowOf, row_S n, List.replicate_succ, List.map_cons, cellsOf]
    rfl
theorem zj7 : ∀ (l : List (List UInt8)) (i : Nat), i ≤ l.length → zap (cellsOf (l.map D.str)) i (cellsOf ((List.replicate (l.length - i) ([] : List UInt8)).map D.str)) = cellsOf ((l.take i ++ List.replicate (l.length - i) []).map D.str)
  | [], i, h => by
    simp only [List.length_nil, Nat.le_zero] at h
    subst h
    rfl
  | x :: l, 0, h => by
    have := zj7 l 0 (Nat.zero_le _)
    simp only [Nat.sub_zero, List.take_zero, List.nil_append] at this
    simp only [List.length_cons, Nat.sub_zero, List.replicate_succ, List.map_cons, cellsOf, D.cells, List.map_nil, List.cons_append, List.nil_append, zap, List.take_zero, this]
  | x :: l, i + 1, h => by
    have := zj7 l i (by simpa using h)
    simp only [List.length_cons, Nat.add_sub_add_right, List.map_cons, cellsOf, D.cells, List.map_nil, List.cons_append, List.nil_append, List.take_succ_cons]
    cases hr : cellsOf ((List.replicate (l.length - i) ([] : List UInt8)).map D.str) with
    | nil =>
      rw [hr, zfy] at this
      rw [zfy, this]
    | cons c r =>
      rw [hr] at this
      exact congrArg (Cell.of (.str x) :: ·) this
def setO (σ : Store) (id : Nat) (cs : List Cell) : Store := { objs := aset σ.objs id cs, tys := σ.tys, oth := σ.oth, next := σ.next }
theorem zbv (σ : Store) (id i : Nat) (cs : List Cell) : aget (setO σ id cs).objs i = if i = id then some cs else aget σ.objs i := zao _ _ _ _
theorem zlr {σ : Store} (h : WF σ) (id : Nat) (cs : List Cell) (hi : id < σ.next) : WF (setO σ id cs) :=
  ⟨fun p hp => by
    rcases zr5 _ _ _ _ hp with h1 | h1
    · rw [h1]; exact hi
    · exact h.objs p h1, h.tys, h.oth⟩
theorem apA0 {σ0 σ σ1 : Store} {r : D} {ls : List (List UInt8)} (h : ArrOf σ0 σ r ls) (hx : Ext σ σ1) (hl : ls.length < 1048576) : ∃ r' σ', zb9 σ1 k_0 16 r [] = some (r', σ') ∧ ArrOf σ0 σ' r' ls := by
  have h' := h.ext hx
  rcases h'.2 with ⟨rfl, rfl⟩ | ⟨id, rfl, h1, h2, h3, h4, h5⟩
  · exact ⟨.nils, σ1, rfl, h'⟩
  · have hwf := h'.1.wf
    refine ⟨.arr k_0 σ1.next 0 ls.length, za4 { σ1 with objs := adel1 σ1.objs id } k_0 (cellsOf (ls.map D.str)), ?_, ?_⟩
    · have hc := zb8 (ls.map D.str) fun d hd => (zem ls d hd).1
      rw [List.length_map] at hc
      have ht : (cellsOf (ls.map D.str)).take (ls.length * k_0.sz) = cellsOf (ls.map D.str) := List.take_of_length_le (by omega)
      have e0 : decide (ls.length * k_0.sz ≤ (cellsOf (ls.map D.str)).length) = true := by simp; omega
      have e1 : decide (ls.length * 16 ≤ bound) = true := decide_eq_true (show ls.length * 16 ≤ 1099511627776 by omega)
      have e2 : decide (ls.length ≤ bound) = true := decide_eq_true (show ls.length ≤ 1099511627776 by omega)
      have ek : k_0.same k_0 = true := by simp [RowK.same]
      have ea : zau k_0.sz [] = true := rfl
      simp only [zb9, ea, zae, h1, h2, bindO, zaa, ek, beq_self_eq_true, List.length_nil, Nat.add_zero, e0, e1, e2, Bool.and_self, ht, cellsOf, List.append_nil, zg2]
    · have hd : Ext σ0 { σ1 with objs := adel1 σ1.objs id } := by
        refine ⟨⟨fun p hp => hwf.objs p (zdq _ _ _ hp), hwf.tys, hwf.oth⟩, h'.1.next, fun i hi => ?_, h'.1.tys, h'.1.oth⟩
        rw [← h'.1.objs i hi]
        exact zar _ _ _ (by omega)
      refine ⟨hd.trans (zey hd.wf _ _ 2 (by omega)), .inr ⟨σ1.next, rfl, ?_, ?_, h'.1.next, ?_, h5⟩⟩
      · simp [za4, aget, ifB]
      · simp [za4, aget, ifB]
      · simp only [za4]; omega
theorem zapb {σ : Store} {r : D} {ls : List (List UInt8)} (h : ArrIn σ r ls) : zbm σ.objs r = some (ls.map D.str) := by
  rcases h with ⟨rfl, rfl⟩ | ⟨id, rfl, h1, _, _⟩
  · rfl
  · have e := zid (k := k_0) (ds := ls.map D.str) (zem ls)
    have hc := zb8 (ls.map D.str) fun d hd => (zem ls d hd).1
    rw [List.length_map] at e hc
    have hk : (k_0.ag || k_0.sz == 1) = true := rfl
    have hd : decide ((0 + ls.length) * k_0.sz ≤ (cellsOf (ls.map D.str)).length) = true := by simp; omega
    simp only [zbm, h1, bindO, zaa, hk, hd, Bool.and_self, zae, e]
def DelC (C : CallF) (vs : List (List UInt8)) (cap : Nat) (σ : Store) (s : List UInt8) : Prop := C n_21 [.str s, .ptr cap 0] σ = some (.ret ⟨false, .bool (vs.contains s)⟩, σ)
theorem zyb (vs : List (List UInt8)) (hv : vs.length < 1048576) (s : List UInt8) : Evly fun n => ∀ σ cap rest, aget σ.objs cap = some (⟨false, dSs vs⟩ :: rest) → DelC (T n) vs cap σ s := (zly vs s hv).step 0 fun m _ h σ cap rest ho => by
  have h1 := h σ
  unfold DelC
  rw [T_fun (af := a_148) rfl rfl]
  simp only [a_148, de0, de1, de2, szQ, szB, szL, sy0, sy1, sy2, sy3, sy4, sy5, zad, zaa, zac, zae, adel, zah, zag, zai, zaf, evalV, aget, aset, adel1, nth, AOp.kind, Nat.reduceAdd, Nat.reduceSub, Nat.reduceMul, Nat.reduceBEq, Nat.ble, bindO, Nat.reduceLeDiff, Int.reduceBEq, Int.reduceBNe, Int.reduceLE, Int.reduceLT, Int.reduceGE, Int.reduceGT, Int.reduceNeg, ks, lz, memE, memOp, ho, h1]
section
variable {C : CallF} {n : Nat}
def EXf (id cap : Nat) (l : List (List UInt8)) (i : Nat) : Env := { slots := [(0, ⟨false, .arr k_0 id 0 l.length⟩), (1, ⟨false, .fn (.func n_21) [] [.ptr cap 0]⟩), (7, ⟨false, .int .i64 l.length⟩), (8, ⟨false, .int .i64 i⟩)], locs := [], boxes := [], defers := [] }
theorem zdub (vs : List (List UInt8)) (σ : Store) (id cap : Nat) (l : List (List UInt8)) (i : Nat) (h : i < l.length) (hl : l.length < 1048576) (ha : aget σ.objs id = some (cellsOf (l.map D.str))) (hc : DelC C vs cap σ l[i]) (hp : vs.contains l[i] = false) : exec C n a_28 (EXf id cap l i) σ = some (.normal, EXf id cap l (i + 1), σ) := by
  have hi : ((i : Int) < (l.length : Int)) := by omega
  have hx := zdg l i h
  unfold DelC at hc
  rw [hp] at hc
  simp only [a_28, EXf, de0, de1, de2, szQ, szB, szL, sy0, sy1, sy2, sy3, sy4, sy5, zad, zaa, zac, zae, adel, zah, zag, zai, zaf, evalV, aget, aset, adel1, nth, AOp.kind, Nat.reduceAdd, Nat.reduceSub, Nat.reduceMul, Nat.reduceBEq, Nat.ble, bindO, Nat.reduceLeDiff, Int.reduceBEq, Int.reduceBNe, Int.reduceLE, Int.reduceLT, Int.reduceGE, Int.reduceGT, Int.reduceNeg, ks, lz, memE, memOp, zb0, Nat.mul_one, hi, h, ha, hx, hc, zam (i := i) (by omega)]
theorem zdvb (vs : List (List UInt8)) (σ : Store) (id cap : Nat) (l : List (List UInt8)) (i : Nat) (h : i < l.length) (ha : aget σ.objs id = some (cellsOf (l.map D.str))) (hc : DelC C vs cap σ l[i]) (hp : vs.contains l[i] = true) : exec C n a_28 (EXf id cap l i) σ = some (.ret, { slots := [(4, ⟨false, .int .i64 i⟩)], locs := [], boxes := [], defers := [] }, σ) := by
  have hi : ((i : Int) < (l.length : Int)) := by omega
  have hx := zdg l i h
  unfold DelC at hc
  rw [hp] at hc
  simp only [a_28, EXf, de0, de1, de2, szQ, szB, szL, sy0, sy1, sy2, sy3, sy4, sy5, zad, zaa, zac, zae, adel, zah, zag, zai, zaf, evalV, aget, aset, adel1, nth, AOp.kind, Nat.reduceAdd, Nat.reduceSub, Nat.reduceMul, Nat.reduceBEq, Nat.ble, bindO, Nat.reduceLeDiff, Int.reduceBEq, Int.reduceBNe, Int.reduceLE, Int.reduceLT, Int.reduceGE, Int.reduceGT, Int.reduceNeg, ks, lz, memE, memOp, zb0, Nat.mul_one, hi, h, ha, hx, hc]
theorem zgnb (σ : Store) (id cap : Nat) (l : List (List UInt8)) : exec C n a_28 (EXf id cap l l.length) σ = some (.exit 0, { EXf id cap l l.length with slots := [(0, ⟨false, .arr k_0 id 0 l.length⟩), (1, ⟨false, .fn (.func n_21) [] [.ptr cap 0]⟩), (7, ⟨false, .int .i64 l.length⟩), (8, ⟨false, .int .i64 l.length⟩), (9, ⟨false, .bool false⟩)] }, σ) := by
  have hi : ¬ ((l.length : Int) < (l.length : Int)) := by omega
  simp only [a_28, EXf, de0, de1, de2, szQ, szB, szL, sy0, sy1, sy2, sy3, sy4, sy5, zad, zaa, zac, zae, adel, zah, zag, zai, zaf, evalV, aget, aset, adel1, nth, AOp.kind, Nat.reduceAdd, Nat.reduceSub, Nat.reduceMul, Nat.reduceBEq, Nat.ble, bindO, Nat.reduceLeDiff, Int.reduceBEq, Int.reduceBNe, Int.reduceLE, Int.reduceLT, Int.reduceGE, Int.reduceGT, Int.reduceNeg, ks, hi]
end
def nvF (vs l : List (List UInt8)) (i : Nat) : Bool := match l[i]? with
  | some x => !(vs.contains x)
  | none => true
theorem ziy {vs l : List (List UInt8)} {i : Nat} (h : i < l.length) : nvF vs l i = !(vs.contains l[i]) := by simp [nvF, h]
theorem ixf (m : Nat) (vs l : List (List UInt8)) (σ : Store) (id cap : Nat) (hl : l.length < 1048576) (hm : l.length < m) (ha : aget σ.objs id = some (cellsOf (l.map D.str))) (hc : ∀ s ∈ l, DelC (T m) vs cap σ s) :
    (∃ i, ∃ h : i < l.length, vs.contains l[i] = true ∧ (∀ j, ∀ h : j < l.length, j < i → vs.contains l[j] = false) ∧ T (m + 1) n_167 [.arr k_0 id 0 l.length, .fn (.func n_21) [] [.ptr cap 0]] σ = some (.ret ⟨false, .int .i64 i⟩, σ)) ∨
    ((∀ j, ∀ h : j < l.length, vs.contains l[j] = false) ∧ T (m + 1) n_167 [.arr k_0 id 0 l.length, .fn (.func n_21) [] [.ptr cap 0]] σ = some (.ret ⟨false, .int .i64 (-1)⟩, σ)) := by
  rw [T_fun (af := a_59) rfl rfl]
  have hloop := zdi (body := exec (T m) m a_28) (EXf id cap l) (fun _ => σ) l.length (nvF vs l) (stop := fun i => (.ret, { slots := [(4, ⟨false, .int .i64 i⟩)], locs := [], boxes := [], defers := [] }, σ)) (fun _ _ h => by cases h) (fun _ _ _ h => by cases h)
    (fun i hi hp => zdub vs σ id cap l i hi hl ha (hc _ (List.getElem_mem hi)) (by rw [ziy hi] at hp; simpa using hp)) (fun i hi hp => zdvb vs σ id cap l i hi ha (hc _ (List.getElem_mem hi)) (by rw [ziy hi] at hp; simpa using hp)) (zgnb σ id cap l) m 0 (by omega) (by omega)
  simp only [EXf, zeroI] at hloop
  rcases hloop with ⟨i, _, hi, hp, hb, hrest⟩ | ⟨hp, hrest⟩
  · refine .inl ⟨i, hi, by rw [ziy hi] at hp; simpa using hp, fun j hj hji => by have := hb j (Nat.zero_le _) hji; rw [ziy hj] at this; simpa using this, ?_⟩
    simp only [a_59, de0, de1, de2, szQ, szB, szL, sy0, sy1, sy2, sy3, sy4, sy5, zad, zaa, zac, zae, adel, zah, zag, zai, zaf, evalV, aget, aset, adel1, nth, AOp.kind, Nat.reduceAdd, Nat.reduceSub, Nat.reduceMul, Nat.reduceBEq, Nat.ble, bindO, Nat.reduceLeDiff, Int.reduceBEq, Int.reduceBNe, Int.reduceLE, Int.reduceLT, Int.reduceGE, Int.reduceGT, Int.reduceNeg, ks, hrest]
  · refine .inr ⟨fun j hj => by have := hp j (Nat.zero_le _) hj; rw [ziy hj] at this; simpa using this, ?_⟩
    simp only [a_59, de0, de1, de2, szQ, szB, szL, sy0, sy1, sy2, sy3, sy4, sy5, zad, zaa, zac, zae, adel, zah, zag, zai, zaf, evalV, aget, aset, adel1, nth, AOp.kind, Nat.reduceAdd, Nat.reduceSub, Nat.reduceMul, Nat.reduceBEq, Nat.ble, bindO, Nat.reduceLeDiff, Int.reduceBEq, Int.reduceBNe, Int.reduceLE, Int.reduceLT, Int.reduceGE, Int.reduceGT, Int.reduceNeg, ks, hrest]
section
variable {C : CallF} {n : Nat}
def EDf (id cap len i j : Nat) : Env := { slots := [(0, ⟨false, .arr k_0 id 0 len⟩), (1, ⟨false, .fn (.func n_21) [] [.ptr cap 0]⟩), (5, ⟨false, .int .i64 i⟩), (6, ⟨false, .int .i64 j⟩)], locs := [], boxes := [], defers := [] }
theorem zc1b (vs : List (List UInt8)) (σ : Store) (id cap i j : Nat) (A : List (List UInt8)) (h : j < A.length) (hl : A.length < 1048576) (ha : aget σ.objs id = some (cellsOf (A.map D.str))) (hc : DelC C vs cap σ A[j]) (hp : vs.contains A[j] = true) : exec C n a_37 (EDf id cap A.length i j) σ = some (.normal, EDf id cap A.length i (j + 1), σ) := by
  have hi : ((j : Int) < (A.length : Int)) := by omega
  have hx := zdg A j h
  unfold DelC at hc
  rw [hp] at hc
  simp only [a_37, EDf, de0, de1, de2, szQ, szB, szL, sy0, sy1, sy2, sy3, sy4, sy5, zad, zaa, zac, zae, adel, zah, zag, zai, zaf, evalV, aget, aset, adel1, nth, AOp.kind, Nat.reduceAdd, Nat.reduceSub, Nat.reduceMul, Nat.reduceBEq, Nat.ble, bindO, Nat.reduceLeDiff, Int.reduceBEq, Int.reduceBNe, Int.reduceLE, Int.reduceLT, Int.reduceGE, Int.reduceGT, Int.reduceNeg, ks, lz, memE, memOp, zb0, Nat.mul_one, hi, h, ha, hx, hc, zam (i := j) (by omega)]
theorem zc0b (vs : List (List UInt8)) (σ : Store) (id cap i j : Nat) (A : List (List UInt8)) (h : j < A.length) (hij : i < A.length) (hl : A.length < 1048576) (ha : aget σ.objs id = some (cellsOf (A.map D.str))) (hc : DelC C vs cap σ A[j]) (hp : vs.contains A[j] = false) : exec C n a_37 (EDf id cap A.length i j) σ = some (.normal, EDf id cap A.length (i + 1) (j + 1), setO σ id (cellsOf ((A.set i A[j]).map D.str))) := by
  have hi : ((j : Int) < (A.length : Int)) := by omega
  have hx := zdg A j h
  have hs := zbhb A i A[j] hij
  have hlen := zb8 (z := 1) (A.map D.str) fun d hd => (zem A d hd).1
  rw [List.length_map, Nat.mul_one] at hlen
  have d1 : i + 1 ≤ (cellsOf (A.map D.str)).length := by omega
  unfold DelC at hc
  rw [hp] at hc
  simp only [a_37, EDf, de0, de1, de2, szQ, szB, szL, sy0, sy1, sy2, sy3, sy4, sy5, zad, zaa, zac, zae, adel, zah, zag, zai, zaf, evalV, aget, aset, adel1, nth, AOp.kind, Nat.reduceAdd, Nat.reduceSub, Nat.reduceMul, Nat.reduceBEq, Nat.ble, bindO, Nat.reduceLeDiff, Int.reduceBEq, Int.reduceBNe, Int.reduceLE, Int.reduceLT, Int.reduceGE, Int.reduceGT, Int.reduceNeg, ks, lz, memE, memOp, zb0, Nat.mul_one, hi, h, hij, ha, hx, hc, hs, d1, setO, zam (i := j) (by omega), zam (i := i) (by omega)]
theorem zfyb (σ : Store) (id cap len i : Nat) : exec C n a_37 (EDf id cap len i len) σ = some (.exit 0, { EDf id cap len i len with slots := [(0, ⟨false, .arr k_0 id 0 len⟩), (1, ⟨false, .fn (.func n_21) [] [.ptr cap 0]⟩), (5, ⟨false, .int .i64 i⟩), (6, ⟨false, .int .i64 len⟩), (19, ⟨false, .bool false⟩)] }, σ) := by
  have hi : ¬ ((len : Int) < (len : Int)) := by omega
  simp only [a_37, EDf, de0, de1, de2, szQ, szB, szL, sy0, sy1, sy2, sy3, sy4, sy5, zad, zaa, zac, zae, adel, zah, zag, zai, zaf, evalV, aget, aset, adel1, nth, AOp.kind, Nat.reduceAdd, Nat.reduceSub, Nat.reduceMul, Nat.reduceBEq, Nat.ble, bindO, Nat.reduceLeDiff, Int.reduceBEq, Int.reduceBNe, Int.reduceLE, Int.reduceLT, Int.reduceGE, Int.reduceGT, Int.reduceNeg, ks, hi]
end
def keepV (vs l : List (List UInt8)) : List (List UInt8) := l.filter fun s => !(vs.contains s)
structure DInv (vs l : List (List UInt8)) (id cap : Nat) (σ : Store) (j : Nat) (e : Env) (σ' : Store) : Prop where
  ex : ∃ (i : Nat) (A : List (List UInt8)), e = EDf id cap l.length i j ∧ i ≤ j ∧ A.length = l.length ∧ A.take i = keepV vs (l.take j) ∧ A.drop j = l.drop j ∧ aget σ'.objs id = some (cellsOf (A.map D.str))
  objs : ∀ k, k ≠ id → aget σ'.objs k = aget σ.objs k
  wf : WF σ'
  tys : σ'.tys = σ.tys
  oth : σ'.oth = σ.oth
  next : σ'.next = σ.next
theorem zzs {C : CallF} {n : Nat} (vs l : List (List UInt8)) (σ : Store) (id cap : Nat) (rest : List Cell) (hcap : aget σ.objs cap = some (⟨false, dSs vs⟩ :: rest)) (hne : cap ≠ id) (hid : id < σ.next) (hl : l.length < 1048576)
    (hc : ∀ s ∈ l, ∀ σ', aget σ'.objs cap = some (⟨false, dSs vs⟩ :: rest) → DelC C vs cap σ' s) (j : Nat) (e : Env) (σ' : Store) (hj : j < l.length) (h : DInv vs l id cap σ j e σ') :
    ∃ e' σ'', exec C n a_37 e σ' = some (.normal, e', σ'') ∧ DInv vs l id cap σ (j + 1) e' σ'' := by
  obtain ⟨i, A, rfl, hij, hA, ht, hd, ha⟩ := h.ex
  have hjA : j < A.length := by omega
  have hg : A[j] = l[j] := by
    have h1 : (A.drop j)[0]'(by simp; omega) = A[j] := by simp
    have h2 : (l.drop j)[0]'(by simp; omega) = l[j] := by simp
    rw [← h1, ← h2]
    simp only [hd]
  have hcc := hc l[j] (List.getElem_mem hj) σ' (by rw [h.objs cap hne]; exact hcap)
  have hdrop : A.drop (j + 1) = l.drop (j + 1) := by
    have e1 : A.drop (j + 1) = (A.drop j).drop 1 := by rw [List.drop_drop]
    have e2 : l.drop (j + 1) = (l.drop j).drop 1 := by rw [List.drop_drop]
    rw [e1, e2, hd]
  have hk : keepV vs (l.take (j + 1)) = keepV vs (l.take j) ++ (if vs.contains l[j] then [] else [l[j]]) := by
    rw [← za8 l j hj]
    unfold keepV
    rw [List.filter_append]
    cases hv : vs.contains l[j] with
    | true => simp only [List.filter_cons, hv, Bool.not_true, Bool.false_eq_true, if_false, List.filter_nil, if_true]
    | false => simp only [List.filter_cons, hv, Bool.not_false, if_true, List.filter_nil, Bool.false_eq_true, if_false]
  cases hv : vs.contains l[j] with
  | true =>
    rw [hv, if_pos rfl, List.append_nil] at hk
    refine ⟨EDf id cap l.length i (j + 1), σ', ?_, ⟨⟨i, A, rfl, by omega, hA, by rw [ht, hk], hdrop, ha⟩, h.objs, h.wf, h.tys, h.oth, h.next⟩⟩
    have := zc1b (C := C) (n := n) vs σ' id cap i j A hjA (by omega) ha (by rw [hg]; exact hcc) (by rw [hg]; exact hv)
    rw [hA] at this
    exact this
  | false =>
    rw [hv, if_neg (by simp)] at hk
    have hiA : i < A.length := by omega
    refine ⟨EDf id cap l.length (i + 1) (j + 1), setO σ' id (cellsOf ((A.set i A[j]).map D.str)), ?_, ⟨⟨i + 1, A.set i A[j], rfl, by omega, by simp [hA], ?_, ?_, ?_⟩, fun k hk => ?_, zlr h.wf _ _ (by rw [h.next]; exact hid), h.tys, h.oth, h.next⟩⟩
    · have := zc0b (C := C) (n := n) vs σ' id cap i j A hjA hiA (by omega) ha (by rw [hg]; exact hcc) (by rw [hg]; exact hv)
      rw [hA] at this
      exact this
    · have hiS : i < (A.set i A[j]).length := by simpa using hiA
      rw [hk, ← ht, ← za8 _ _ hiS, List.getElem_set_self, List.take_set_of_le (Nat.le_refl _), hg]
    · rw [← hdrop, List.drop_set_of_lt (by omega)]
    · rw [zbv, if_pos rfl]
    · rw [zbv, if_neg hk]
      exact h.objs k ‹_›
end Go.Fu

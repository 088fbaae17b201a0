/-
  A type in memory of its own; where a text stands among texts; a copy of a list of types.
-/
import Derived.Test.YtkgdpcnobfadaaaGreatDoorFnA
import Derived.Test.YtkgdpcnobfadaaaGreatDoorFnIds
set_option linter.unusedSimpArgs false
set_option linter.unusedVariables false
namespace Go.Fu
open Go Go.Mx
set_option maxRecDepth 10000
theorem za8 {α : Type} (l : List α) (i : Nat) (h : i < l.length) : l.take i ++ [l[i]] = l.take (i + 1) := by
  rw [List.take_add_one, List.getElem?_eq_getElem h]
  simp
theorem ow_ne {α : Type} {l : List α} {i : Nat} : l.take i ≠ [] → ow i = true := by
  cases i with
  | zero => intro h; simp at h
  | succ i => intro _; rfl
theorem zcc {i : Nat} : ow (i + 1) = true := rfl
theorem zcp : ow 0 = false := rfl
section own
variable {C : CallF} {n : Nat} {σ : Store}
def Eown (t : Tp) (i : Nat) : Env := { slots := [(3, ⟨ow i, dlist k_3 ((t.args.take i).map dT)⟩), (7, ⟨false, dlist k_3 (t.args.map dT)⟩), (8, ⟨false, .int .i64 t.args.length⟩), (9, ⟨false, .int .i64 i⟩)], locs := [(1, 1, 0), (2, 2, 0)], boxes := [(1, [⟨false, .int .i64 t.form⟩, ⟨false, .int .i64 t.num⟩, ⟨false, .str t.name⟩, ⟨false, dlist k_3 (t.args.map dT)⟩]), (2, [⟨false, .int .i64 0⟩, ⟨false, .int .i64 0⟩, ⟨false, .str []⟩, ⟨false, .nils⟩])], defers := [] }
theorem zatb (t : Tp) (i : Nat) (h : i < t.args.length) (hc : C n_33 [dT t.args[i]] σ = some (.ret ⟨false, dT t.args[i]⟩, σ)) : exec C n a_91 (Eown t i) σ = some (.normal, Eown t (i + 1), σ) := by
  have hi : ((i : Int) < (t.args.length : Int)) := by omega
  have ha := zjl (t.args.take i) t.args[i] (ow i) ow_ne (by have := zhh t; simp; omega)
  rw [za8 _ _ h] at ha
  have hd := dT_eq t.args[i]
  simp only [cT] at hd
  rw [hd] at hc ha
  simp only [a_91, Eown, de0, de1, de2, szQ, szB, szL, sy0, sy1, sy2, sy3, sy4, sy5, zad, zaa, zac, zae, adel, zah, zag, zai, zaf, evalV, aget, aset, adel1, nth, AOp.kind, Nat.reduceAdd, Nat.reduceSub, Nat.reduceMul, Nat.reduceBEq, Nat.ble, bindO, Nat.reduceLeDiff, Int.reduceBEq, Int.reduceBNe, Int.reduceLE, Int.reduceLT, Int.reduceGE, Int.reduceGT, Int.reduceNeg, ks, hi, idx_T _ _ h, hd, hc, ha, zam (i := i) (by have := zhh t; omega), zcc]
theorem zeab (t : Tp) : exec C n a_91 (Eown t t.args.length) σ = some (.exit 0, { Eown t t.args.length with slots := [(3, ⟨ow t.args.length, dlist k_3 (t.args.map dT)⟩), (7, ⟨false, dlist k_3 (t.args.map dT)⟩), (8, ⟨false, .int .i64 t.args.length⟩), (9, ⟨false, .int .i64 t.args.length⟩), (10, ⟨false, .bool false⟩)] }, σ) := by
  have hi : ¬ ((t.args.length : Int) < (t.args.length : Int)) := by omega
  simp only [a_91, Eown, de0, de1, de2, szQ, szB, szL, sy0, sy1, sy2, sy3, sy4, sy5, zad, zaa, zac, zae, adel, zah, zag, zai, zaf, evalV, aget, aset, adel1, nth, AOp.kind, Nat.reduceAdd, Nat.reduceSub, Nat.reduceMul, Nat.reduceBEq, Nat.ble, bindO, Nat.reduceLeDiff, Int.reduceBEq, Int.reduceBNe, Int.reduceLE, Int.reduceLT, Int.reduceGE, Int.reduceGT, Int.reduceNeg, ks, hi, List.take_length]
end own
theorem zhc : ∀ t : Tp, Evly fun n => ∀ σ, T n n_33 [dT t] σ = some (.ret ⟨false, dT t⟩, σ) := by
  intro t
  have hk : Evly fun n => ∀ i (h : i < t.args.length) σ, T n n_33 [dT t.args[i]] σ = some (.ret ⟨false, dT t.args[i]⟩, σ) := by
    cases t with
    | app f a =>
      refine ((zhc f).and (zhc a)).mono fun n h i hi σ => ?_
      match i, hi with
      | 0, _ => exact h.1 σ
      | 1, _ => exact h.2 σ
    | hole n => exact .all fun n i hi => absurd hi (by simp [Tp.args])
    | var n => exact .all fun n i hi => absurd hi (by simp [Tp.args])
    | con n => exact .all fun n i hi => absurd hi (by simp [Tp.args])
  refine hk.step 4 fun m hm hrun σ => ?_
  rw [T_fun (af := a_161) rfl rfl]
  have hloop := zbr (body := exec (T m) m a_91) (Eown t) (fun _ => σ) t.args.length (r := _) (fun _ _ h => by cases h) (fun i hi => zatb t i hi (hrun i hi σ)) (zeab t) 0 m (by omega) (by have := zhh t; omega)
  simp only [Eown, zeroI, List.take_zero, List.map_nil, zcv, zcp] at hloop
  simp only [a_161, de0, de1, de2, szQ, szB, szL, sy0, sy1, sy2, sy3, sy4, sy5, zad, zaa, zac, zae, adel, zah, zag, zai, zaf, evalV, aget, aset, adel1, nth, AOp.kind, Nat.reduceAdd, Nat.reduceSub, Nat.reduceMul, Nat.reduceBEq, Nat.ble, bindO, Nat.reduceLeDiff, Int.reduceBEq, Int.reduceBNe, Int.reduceLE, Int.reduceLT, Int.reduceGE, Int.reduceGT, Int.reduceNeg, ks, dT_eq t, cT, List.length_map, hloop]
section idx
variable {C : CallF} {n : Nat} {σ : Store}
def Eidx (l : List (List UInt8)) (s : List UInt8) (i : Nat) : Env := { slots := [(0, ⟨false, dlist k_0 (l.map D.str)⟩), (1, ⟨false, .str s⟩), (7, ⟨false, .int .i64 l.length⟩), (8, ⟨false, .int .i64 i⟩)], locs := [], boxes := [], defers := [] }
theorem zalb (l : List (List UInt8)) (s : List UInt8) (i : Nat) (h : i < l.length) (hl : l.length < 1048576) (hp : (s == l[i]) = false) : exec C n a_12 (Eidx l s i) σ = some (.normal, Eidx l s (i + 1), σ) := by
  have hi : ((i : Int) < (l.length : Int)) := by omega
  simp only [a_12, Eidx, de0, de1, de2, szQ, szB, szL, sy0, sy1, sy2, sy3, sy4, sy5, zad, zaa, zac, zae, adel, zah, zag, zai, zaf, evalV, aget, aset, adel1, nth, AOp.kind, Nat.reduceAdd, Nat.reduceSub, Nat.reduceMul, Nat.reduceBEq, Nat.ble, bindO, Nat.reduceLeDiff, Int.reduceBEq, Int.reduceBNe, Int.reduceLE, Int.reduceLT, Int.reduceGE, Int.reduceGT, Int.reduceNeg, ks, hi, idx_S _ _ h, hp, zam (i := i) (by omega)]
theorem zamb (l : List (List UInt8)) (s : List UInt8) (i : Nat) (h : i < l.length) (hl : l.length < 1048576) (hp : (s == l[i]) = true) : exec C n a_12 (Eidx l s i) σ = some (.ret, { slots := [(4, ⟨false, .int .i64 i⟩)], locs := [], boxes := [], defers := [] }, σ) := by
  have hi : ((i : Int) < (l.length : Int)) := by omega
  simp only [a_12, Eidx, de0, de1, de2, szQ, szB, szL, sy0, sy1, sy2, sy3, sy4, sy5, zad, zaa, zac, zae, adel, zah, zag, zai, zaf, evalV, aget, aset, adel1, nth, AOp.kind, Nat.reduceAdd, Nat.reduceSub, Nat.reduceMul, Nat.reduceBEq, Nat.ble, bindO, Nat.reduceLeDiff, Int.reduceBEq, Int.reduceBNe, Int.reduceLE, Int.reduceLT, Int.reduceGE, Int.reduceGT, Int.reduceNeg, ks, hi, idx_S _ _ h, hp]
theorem zd6b (l : List (List UInt8)) (s : List UInt8) : exec C n a_12 (Eidx l s l.length) σ = some (.exit 0, { Eidx l s l.length with slots := [(0, ⟨false, dlist k_0 (l.map D.str)⟩), (1, ⟨false, .str s⟩), (7, ⟨false, .int .i64 l.length⟩), (8, ⟨false, .int .i64 l.length⟩), (9, ⟨false, .bool false⟩)] }, σ) := by
  have hi : ¬ ((l.length : Int) < (l.length : Int)) := by omega
  simp only [a_12, Eidx, de0, de1, de2, szQ, szB, szL, sy0, sy1, sy2, sy3, sy4, sy5, zad, zaa, zac, zae, adel, zah, zag, zai, zaf, evalV, aget, aset, adel1, nth, AOp.kind, Nat.reduceAdd, Nat.reduceSub, Nat.reduceMul, Nat.reduceBEq, Nat.ble, bindO, Nat.reduceLeDiff, Int.reduceBEq, Int.reduceBNe, Int.reduceLE, Int.reduceLT, Int.reduceGE, Int.reduceGT, Int.reduceNeg, ks, hi]
end idx
def posS (s : List UInt8) : List (List UInt8) → Option Nat
  | [] => none
  | x :: l => if s == x then some 0 else (posS s l).map (· + 1)
def posI (s : List UInt8) (l : List (List UInt8)) : Int := match posS s l with
  | some k => k
  | none => -1
theorem zh4 {s : List UInt8} : ∀ {l : List (List UInt8)}, (∀ i (h : i < l.length), (s == l[i]) = false) → posS s l = none
  | [], _ => rfl
  | x :: l, h => by
    have h0 := h 0 (by simp)
    simp only [List.getElem_cons_zero] at h0
    simp only [posS, h0, Bool.false_eq_true, if_false]
    rw [zh4 (l := l) fun i hi => by have := h (i + 1) (by simpa using hi); simpa using this]
    rfl
theorem zh5 {s : List UInt8} : ∀ {l : List (List UInt8)} {k : Nat} (hk : k < l.length), (∀ i (h : i < l.length), i < k → (s == l[i]) = false) → (s == l[k]) = true → posS s l = some k
  | [], k, hk, _, _ => by simp at hk
  | x :: l, 0, hk, _, h => by
    simp only [List.getElem_cons_zero] at h
    simp only [posS, h, if_true]
  | x :: l, k + 1, hk, h, hp => by
    have h0 := h 0 (by simp) (by omega)
    simp only [List.getElem_cons_zero] at h0
    simp only [posS, h0, Bool.false_eq_true, if_false]
    rw [zh5 (l := l) (k := k) (by simpa using hk) (fun i hi hik => by have := h (i + 1) (by simpa using hi) (by omega); simpa using this) (by simpa using hp)]
    rfl
theorem zhd {s : List UInt8} : ∀ {l : List (List UInt8)} {k : Nat}, posS s l = some k → k < l.length
  | [], k, h => by simp [posS] at h
  | x :: l, k, h => by
    simp only [posS] at h
    split at h
    · cases h; simp
    · cases hp : posS s l with
      | none => rw [hp] at h; simp at h
      | some j =>
        rw [hp] at h
        simp at h
        have := zhd hp
        simp
        omega
def atF (l : List (List UInt8)) (s : List UInt8) (i : Nat) : Bool := match l[i]? with
  | some x => !(s == x)
  | none => true
theorem zcf {l : List (List UInt8)} {s : List UInt8} {i : Nat} (h : i < l.length) : atF l s i = !(s == l[i]) := by simp [atF, h]
theorem zh2 (l : List (List UInt8)) (s : List UInt8) (hl : l.length < 1048576) : Evly fun n => ∀ σ, T n n_64 [dSs l, .str s] σ = some (.ret ⟨false, .int .i64 (posI s l)⟩, σ) :=
  (Evly.all (p := fun _ => True) fun _ => trivial).step (l.length + 2) fun m hm _ σ => by
  rw [T_fun (af := a_23) rfl rfl]
  have hloop := zdi (body := exec (T m) m a_12) (Eidx l s) (fun _ => σ) l.length (atF l s) (stop := fun i => (.ret, { slots := [(4, ⟨false, .int .i64 i⟩)], locs := [], boxes := [], defers := [] }, σ)) (fun _ _ h => by cases h) (fun _ _ _ h => by cases h)
    (fun i hi hp => zalb l s i hi hl (by rw [zcf hi] at hp; simpa using hp)) (fun i hi hp => zamb l s i hi hl (by rw [zcf hi] at hp; simpa using hp)) (zd6b l s) m 0 (by omega) (by omega)
  simp only [Eidx, zeroI] at hloop
  rcases hloop with ⟨i, _, hi, hp, hb, hrest⟩ | ⟨hp, hrest⟩
  · have hv : posI s l = i := by
      unfold posI
      rw [zh5 hi (fun k hk hki => by have := hb k (Nat.zero_le _) hki; rw [zcf hk] at this; simpa using this) (by rw [zcf hi] at hp; simpa using hp)]
    simp only [a_23, de0, de1, de2, szQ, szB, szL, sy0, sy1, sy2, sy3, sy4, sy5, zad, zaa, zac, zae, adel, zah, zag, zai, zaf, evalV, aget, aset, adel1, nth, AOp.kind, Nat.reduceAdd, Nat.reduceSub, Nat.reduceMul, Nat.reduceBEq, Nat.ble, bindO, Nat.reduceLeDiff, Int.reduceBEq, Int.reduceBNe, Int.reduceLE, Int.reduceLT, Int.reduceGE, Int.reduceGT, Int.reduceNeg, ks, dSs, List.length_map, hrest, hv]
  · have hv : posI s l = -1 := by
      unfold posI
      rw [zh4 fun k hk => by have := hp k (Nat.zero_le _) hk; rw [zcf hk] at this; simpa using this]
    simp only [a_23, de0, de1, de2, szQ, szB, szL, sy0, sy1, sy2, sy3, sy4, sy5, zad, zaa, zac, zae, adel, zah, zag, zai, zaf, evalV, aget, aset, adel1, nth, AOp.kind, Nat.reduceAdd, Nat.reduceSub, Nat.reduceMul, Nat.reduceBEq, Nat.ble, bindO, Nat.reduceLeDiff, Int.reduceBEq, Int.reduceBNe, Int.reduceLE, Int.reduceLT, Int.reduceGE, Int.reduceGT, Int.reduceNeg, ks, dSs, List.length_map, hrest, hv]
end Go.Fu
namespace Go.Fu
open Go Go.Mx
set_option maxRecDepth 10000
def subT (names : List (List UInt8)) (bys : List Tp) : Tp → Tp
  | .var s => match posS s names with
    | some k => bys.getD k (.var s)
    | none => .var s
  | .app f a => .app (subT names bys f) (subT names bys a)
  | .hole n => .hole n
  | .con s => .con s
theorem Evly.here {p : Nat → Prop} (h : Evly p) : Evly p := h
theorem zh9 (names : List (List UInt8)) (bys : List Tp) (hl : names.length < 1048576) (hb : bys.length = names.length) : ∀ t : Tp, Evly fun n => ∀ σ, T n n_55 [dT t, dSs names, dTs bys] σ = some (.ret ⟨false, dT (subT names bys t)⟩, σ)
  | .hole x => (zhc (.hole x)).step 0 fun m _ hown σ => by
    have h1 := hown σ
    simp only [dT] at h1
    rw [T_fun (af := a_20) rfl rfl]
    simp only [a_20, de0, de1, de2, szQ, szB, szL, sy0, sy1, sy2, sy3, sy4, sy5, zad, zaa, zac, zae, adel, zah, zag, zai, zaf, evalV, aget, aset, adel1, nth, AOp.kind, Nat.reduceAdd, Nat.reduceSub, Nat.reduceMul, Nat.reduceBEq, Nat.ble, bindO, Nat.reduceLeDiff, Int.reduceBEq, Int.reduceBNe, Int.reduceLE, Int.reduceLT, Int.reduceGE, Int.reduceGT, Int.reduceNeg, ks, subT, dT, h1]
  | .con s => (zhc (.con s)).step 0 fun m _ hown σ => by
    have h1 := hown σ
    simp only [dT] at h1
    rw [T_fun (af := a_20) rfl rfl]
    simp only [a_20, de0, de1, de2, szQ, szB, szL, sy0, sy1, sy2, sy3, sy4, sy5, zad, zaa, zac, zae, adel, zah, zag, zai, zaf, evalV, aget, aset, adel1, nth, AOp.kind, Nat.reduceAdd, Nat.reduceSub, Nat.reduceMul, Nat.reduceBEq, Nat.ble, bindO, Nat.reduceLeDiff, Int.reduceBEq, Int.reduceBNe, Int.reduceLE, Int.reduceLT, Int.reduceGE, Int.reduceGT, Int.reduceNeg, ks, subT, dT, h1]
  | .app f a => ((zh9 names bys hl hb f).and ((zh9 names bys hl hb a).and zzd)).step 0 fun m _ h σ => by
    have h1 := h.1 σ
    have h2 := h.2.1 σ
    have h3 := h.2.2 (subT names bys f) (subT names bys a) σ
    rw [T_fun (af := a_20) rfl rfl]
    simp only [subT, dT] at h3 ⊢
    rw [dT_eq f] at h1 ⊢
    rw [dT_eq a] at h2 ⊢
    rw [dT_eq (subT names bys f)] at h1 h3 ⊢
    rw [dT_eq (subT names bys a)] at h2 h3 ⊢
    simp only [cT] at h1 h2 h3 ⊢
    simp only [a_20, de0, de1, de2, szQ, szB, szL, sy0, sy1, sy2, sy3, sy4, sy5, zad, zaa, zac, zae, adel, zah, zag, zai, zaf, evalV, aget, aset, adel1, nth, AOp.kind, Nat.reduceAdd, Nat.reduceSub, Nat.reduceMul, Nat.reduceBEq, Nat.ble, bindO, Nat.reduceLeDiff, Int.reduceBEq, Int.reduceBNe, Int.reduceLE, Int.reduceLT, Int.reduceGE, Int.reduceGT, Int.reduceNeg, ks, h1, h2, h3]
  | .var s => by
    cases hp : posS s names with
    | none =>
      refine ((zhc (.var s)).and (zh2 names s hl)).step 0 fun m _ h σ => ?_
      have h1 := h.1 σ
      have h2 := h.2 σ
      simp only [dT, posI, hp] at h1 h2
      rw [T_fun (af := a_20) rfl rfl]
      simp only [a_20, de0, de1, de2, szQ, szB, szL, sy0, sy1, sy2, sy3, sy4, sy5, zad, zaa, zac, zae, adel, zah, zag, zai, zaf, evalV, aget, aset, adel1, nth, AOp.kind, Nat.reduceAdd, Nat.reduceSub, Nat.reduceMul, Nat.reduceBEq, Nat.ble, bindO, Nat.reduceLeDiff, Int.reduceBEq, Int.reduceBNe, Int.reduceLE, Int.reduceLT, Int.reduceGE, Int.reduceGT, Int.reduceNeg, ks, subT, dT, h1, h2, hp]
    | some k =>
      have hk := zhd hp
      have hkb : k < bys.length := by omega
      refine ((zhc bys[k]).and (zh2 names s hl)).step 0 fun m _ h σ => ?_
      have h1 := h.1 σ
      have h2 := h.2 σ
      have h0 : (0 : Int) ≤ (k : Int) := by omega
      have hx := idx_T bys k hkb
      have hg : bys.getD k (.var s) = bys[k] := by simp [hkb]
      simp only [posI, hp] at h2
      rw [T_fun (af := a_20) rfl rfl]
      simp only [subT, hp, hg]
      rw [dT_eq bys[k]] at h1 hx ⊢
      simp only [cT] at h1 hx ⊢
      simp only [a_20, de0, de1, de2, szQ, szB, szL, sy0, sy1, sy2, sy3, sy4, sy5, zad, zaa, zac, zae, adel, zah, zag, zai, zaf, evalV, aget, aset, adel1, nth, AOp.kind, Nat.reduceAdd, Nat.reduceSub, Nat.reduceMul, Nat.reduceBEq, Nat.ble, bindO, Nat.reduceLeDiff, Int.reduceBEq, Int.reduceBNe, Int.reduceLE, Int.reduceLT, Int.reduceGE, Int.reduceGT, Int.reduceNeg, ks, subT, dTs, dT, h1, h2, h0, hx]
end Go.Fu
namespace Go.Fu
open Go Go.Mx
set_option maxRecDepth 10000
theorem za7 {body : Env → Store → XRes} {k : Nat} {e e' : Env} {σ : Store} {x : Nat} (h : body e σ = some (.exit x, e', σ)) : loopN body (k + 1) e σ = some (.exit x, e', σ) := by
  rw [loopN, h]
theorem zb4 {body : Env → Store → XRes} {k : Nat} {e e' : Env} {σ σ' : Store} (h : body e σ = some (.normal, e', σ')) : loopN body (k + 1) e σ = loopN body k e' σ' := by
  rw [loopN, h]
def bT (t : Tp) : List Cell := [⟨false, .int .i64 t.form⟩, ⟨false, .int .i64 t.num⟩, ⟨false, .str t.name⟩, ⟨false, dlist k_3 (t.args.map dT)⟩]
section
variable {C : CallF} {n : Nat} {σ : Store}
def Eeq (t : Tp) (i : Nat) : Env := { slots := [(5, ⟨false, .int .i64 i⟩)], locs := [(2, 2, 0), (3, 3, 0)], boxes := [(2, bT t), (3, bT t)], defers := [] }
theorem zd3b (t : Tp) (i : Nat) (h : i < t.args.length) (hc : C n_94 [dT t.args[i], dT t.args[i]] σ = some (.ret ⟨false, .bool true⟩, σ)) : exec C n a_74 (Eeq t i) σ = some (.normal, Eeq t (i + 1), σ) := by
  have hi : ((i : Int) < (t.args.length : Int)) := by omega
  have hx := idx_T t.args i h
  rw [dT_eq t.args[i]] at hc hx
  simp only [cT] at hc hx
  simp only [a_74, Eeq, bT, de0, de1, de2, szQ, szB, szL, sy0, sy1, sy2, sy3, sy4, sy5, zad, zaa, zac, zae, adel, zah, zag, zai, zaf, evalV, aget, aset, adel1, nth, AOp.kind, Nat.reduceAdd, Nat.reduceSub, Nat.reduceMul, Nat.reduceBEq, Nat.ble, bindO, Nat.reduceLeDiff, Int.reduceBEq, Int.reduceBNe, Int.reduceLE, Int.reduceLT, Int.reduceGE, Int.reduceGT, Int.reduceNeg, ks, List.length_map, hi, hx, hc, zam (i := i) (by have := zhh t; omega)]
theorem zgqb (t : Tp) : exec C n a_74 (Eeq t t.args.length) σ = some (.exit 0, { Eeq t t.args.length with slots := [(5, ⟨false, .int .i64 t.args.length⟩), (39, ⟨false, .bool false⟩)] }, σ) := by
  have hi : ¬ ((t.args.length : Int) < (t.args.length : Int)) := by omega
  simp only [a_74, Eeq, bT, de0, de1, de2, szQ, szB, szL, sy0, sy1, sy2, sy3, sy4, sy5, zad, zaa, zac, zae, adel, zah, zag, zai, zaf, evalV, aget, aset, adel1, nth, AOp.kind, Nat.reduceAdd, Nat.reduceSub, Nat.reduceMul, Nat.reduceBEq, Nat.ble, bindO, Nat.reduceLeDiff, Int.reduceBEq, Int.reduceBNe, Int.reduceLE, Int.reduceLT, Int.reduceGE, Int.reduceGT, Int.reduceNeg, ks, List.length_map, hi]
def EPs (ps : List Pr) (i : Nat) : Env := { slots := [(0, ⟨false, dlist k_1 (ps.map dP)⟩), (1, ⟨false, dlist k_1 (ps.map dP)⟩), (5, ⟨false, .int .i64 i⟩)], locs := [], boxes := [], defers := [] }
theorem zdmb (ps : List Pr) (i : Nat) (h : i < ps.length) (hl : ps.length < 1048576) (hc : C n_165 [dP ps[i], dP ps[i]] σ = some (.ret ⟨false, .bool true⟩, σ)) : exec C n a_75 (EPs ps i) σ = some (.normal, EPs ps (i + 1), σ) := by
  have hi : ((i : Int) < (ps.length : Int)) := by omega
  have hx := idx_P ps i h
  simp only [dP, cT] at hc hx
  simp only [a_75, EPs, de0, de1, de2, szQ, szB, szL, sy0, sy1, sy2, sy3, sy4, sy5, zad, zaa, zac, zae, adel, zah, zag, zai, zaf, evalV, aget, aset, adel1, nth, AOp.kind, Nat.reduceAdd, Nat.reduceSub, Nat.reduceMul, Nat.reduceBEq, Nat.ble, bindO, Nat.reduceLeDiff, Int.reduceBEq, Int.reduceBNe, Int.reduceLE, Int.reduceLT, Int.reduceGE, Int.reduceGT, Int.reduceNeg, ks, List.length_map, hi, hx, hc, zam (i := i) (by omega)]
theorem zgeb (ps : List Pr) : exec C n a_75 (EPs ps ps.length) σ = some (.exit 0, { EPs ps ps.length with slots := [(0, ⟨false, dlist k_1 (ps.map dP)⟩), (1, ⟨false, dlist k_1 (ps.map dP)⟩), (5, ⟨false, .int .i64 ps.length⟩), (15, ⟨false, .bool false⟩)] }, σ) := by
  have hi : ¬ ((ps.length : Int) < (ps.length : Int)) := by omega
  simp only [a_75, EPs, de0, de1, de2, szQ, szB, szL, sy0, sy1, sy2, sy3, sy4, sy5, zad, zaa, zac, zae, adel, zah, zag, zai, zaf, evalV, aget, aset, adel1, nth, AOp.kind, Nat.reduceAdd, Nat.reduceSub, Nat.reduceMul, Nat.reduceBEq, Nat.ble, bindO, Nat.reduceLeDiff, Int.reduceBEq, Int.reduceBNe, Int.reduceLE, Int.reduceLT, Int.reduceGE, Int.reduceGT, Int.reduceNeg, ks, List.length_map, hi]
end
theorem zh0 : ∀ t : Tp, Evly fun n => ∀ σ, T n n_94 [dT t, dT t] σ = some (.ret ⟨false, .bool true⟩, σ) := by
  intro t
  have hk : Evly fun n => ∀ i (h : i < t.args.length) σ, T n n_94 [dT t.args[i], dT t.args[i]] σ = some (.ret ⟨false, .bool true⟩, σ) := by
    cases t with
    | app f a =>
      refine ((zh0 f).and (zh0 a)).mono fun n h i hi σ => ?_
      match i, hi with
      | 0, _ => exact h.1 σ
      | 1, _ => exact h.2 σ
    | hole n => exact .all fun n i hi => absurd hi (by simp [Tp.args])
    | var n => exact .all fun n i hi => absurd hi (by simp [Tp.args])
    | con n => exact .all fun n i hi => absurd hi (by simp [Tp.args])
  refine hk.step 4 fun m hm hrun σ => ?_
  rw [T_fun (af := a_125) rfl rfl]
  have hloop := zbr (body := exec (T m) m a_74) (Eeq t) (fun _ => σ) t.args.length (r := _) (fun _ _ h => by cases h) (fun i hi => zd3b t i hi (hrun i hi σ)) (zgqb t) 0 m (by omega) (by have := zhh t; omega)
  simp only [Eeq, bT, zeroI] at hloop
  have e1 : (t.form != t.form) = false := by simp
  have e2 : (t.num != t.num) = false := by simp
  have e3 : (t.name != t.name) = false := by simp
  have e4 : ((t.args.length : Int) != (t.args.length : Int)) = false := by simp
  simp only [a_125, de0, de1, de2, szQ, szB, szL, sy0, sy1, sy2, sy3, sy4, sy5, zad, zaa, zac, zae, adel, zah, zag, zai, zaf, evalV, aget, aset, adel1, nth, AOp.kind, Nat.reduceAdd, Nat.reduceSub, Nat.reduceMul, Nat.reduceBEq, Nat.ble, bindO, Nat.reduceLeDiff, Int.reduceBEq, Int.reduceBNe, Int.reduceLE, Int.reduceLT, Int.reduceGE, Int.reduceGT, Int.reduceNeg, ks, dT_eq t, cT, List.length_map, e1, e2, e3, e4, hloop]
theorem zbeb (p : Pr) : Evly fun n => ∀ σ, T n n_165 [dP p, dP p] σ = some (.ret ⟨false, .bool true⟩, σ) := (zh0 p.ty).step 0 fun m _ h σ => by
  have h1 := h σ
  rw [dT_eq] at h1
  rw [T_fun (af := a_135) rfl rfl]
  have e1 : (p.cls == p.cls) = true := by simp
  simp only [cT] at h1
  simp only [a_135, de0, de1, de2, szQ, szB, szL, sy0, sy1, sy2, sy3, sy4, sy5, zad, zaa, zac, zae, adel, zah, zag, zai, zaf, evalV, aget, aset, adel1, nth, AOp.kind, Nat.reduceAdd, Nat.reduceSub, Nat.reduceMul, Nat.reduceBEq, Nat.ble, bindO, Nat.reduceLeDiff, Int.reduceBEq, Int.reduceBNe, Int.reduceLE, Int.reduceLT, Int.reduceGE, Int.reduceGT, Int.reduceNeg, ks, dP, cT, h1, e1]
theorem zb9b (ps : List Pr) (hl : ps.length < 1048576) : Evly fun n => ∀ σ, T n n_202 [dPs ps, dPs ps] σ = some (.ret ⟨false, .bool true⟩, σ) := by
  have hk : Evly fun n => ∀ i, i < ps.length → ∀ (h : i < ps.length) σ, T n n_165 [dP ps[i], dP ps[i]] σ = some (.ret ⟨false, .bool true⟩, σ) :=
    Evly.below _ fun i hi => (zbeb ps[i]).mono fun n h _ σ => h σ
  refine hk.step (ps.length + 2) fun m hm hrun σ => ?_
  rw [T_fun (af := a_133) rfl rfl]
  have hloop := zbr (body := exec (T m) m a_75) (EPs ps) (fun _ => σ) ps.length (r := _) (fun _ _ h => by cases h) (fun i hi => zdmb ps i hi hl (hrun i hi hi σ)) (zgeb ps) 0 m (by omega) (by omega)
  simp only [EPs, zeroI] at hloop
  have e4 : ((ps.length : Int) != (ps.length : Int)) = false := by simp
  simp only [a_133, de0, de1, de2, szQ, szB, szL, sy0, sy1, sy2, sy3, sy4, sy5, zad, zaa, zac, zae, adel, zah, zag, zai, zaf, evalV, aget, aset, adel1, nth, AOp.kind, Nat.reduceAdd, Nat.reduceSub, Nat.reduceMul, Nat.reduceBEq, Nat.ble, bindO, Nat.reduceLeDiff, Int.reduceBEq, Int.reduceBNe, Int.reduceLE, Int.reduceLT, Int.reduceGE, Int.reduceGT, Int.reduceNeg, ks, dPs, List.length_map, e4, hloop]
end Go.Fu
namespace Go.Fu
open Go Go.Mx
set_option maxRecDepth 10000
theorem zd0 : Evly fun n => ∀ (x : Int) (m : Nat) (k : Int) σ, Small x → k = (m : Int) → 0 < m → m < 1048576 → T n n_5 [.int .i64 x, .int .i64 k] σ = some (.ret ⟨false, .int .i64 (aro x m)⟩, σ) := zw3.mono fun n h x m k σ hx hk h1 h2 => by
  subst hk
  exact h x m σ hx h1 h2
def dI (x : Int) : D := .int .i64 x
def Row (d : D) (xs : List Int) : Prop := zy9 k_int d xs
theorem zda {d : D} {xs : List Int} (h : Row d xs) : lenOf d = some xs.length := by
  rcases h with rfl | ⟨rfl, rfl⟩
  · simp [lenOf]
  · rfl
theorem zl0 {d : D} {xs : List Int} (h : Row d xs) (i : Nat) (hi : i < xs.length) : zav 1 d i = some (.eptr (.int .i64 xs[i])) := by
  rcases h with rfl | ⟨rfl, rfl⟩
  · have hn : nth (xs.map fun x => D.int .i64 x) i = some (.int .i64 xs[i]) := by rw [zo5, zo4 _ _ hi]; rfl
    rw [idxL, hn]
    rfl
  · simp at hi
theorem zhu {d : D} {x : Int} {xs : List Int} (h : Row d (x :: xs)) : ∃ d', zbd 1 d 1 none = some d' ∧ Row d' xs := by
  rcases h with rfl | ⟨h, _⟩
  · refine ⟨.list k_int (xs.map fun x => .int .i64 x), ?_, .inl rfl⟩
    have h1 : (xs.map fun x => D.int .i64 x).take xs.length = xs.map fun x => .int .i64 x := List.take_of_length_le (by simp)
    simp only [zbd, List.map_cons, List.length_cons, Option.getD_none, List.length_map, List.drop_succ_cons, List.drop_zero, k_175]
    simp [ifB]
    exact h1
  · cases h
theorem zj1 (d : D) (xs : List Int) (m : Nat) (h : Row d xs) (hm : m < 1048576) : ∃ d', Row d' (xs.take m) ∧ ∃ o, Evly fun n => ∀ σ, T n n_109 [d, .int .i64 m] σ = some (.ret ⟨o, d'⟩, σ) := by
  have hlen := zda h
  have hmin : ifB (decide ((m : Int) < ((xs.length : Nat) : Int))) (m : Int) ((xs.length : Nat) : Int) = ((min xs.length m : Nat) : Int) := by
    by_cases hc : (m : Int) < ((xs.length : Nat) : Int)
    · rw [decide_eq_true hc, zae]; omega
    · rw [decide_eq_false hc, zac]; omega
  rcases h with rfl | ⟨rfl, rfl⟩
  · refine ⟨dlist k_int ((xs.take m).map dI), ?_, true, any _ fun n σ => ?_⟩
    · cases xs with
      | nil => exact .inr ⟨by simp, by simp [dlist]⟩
      | cons x r => cases m with
        | zero => exact .inr ⟨by simp, by simp [dlist]⟩
        | succ m => exact .inl (by simp [dlist, dI]; rfl)
    · rw [T_fun (af := a_71) rfl rfl]
      have hs : zbd 1 (.list k_int (xs.map fun x => .int .i64 x)) 0 (some (min xs.length m)) = some (.list k_int ((xs.take m).map dI)) := by
        have h1 : (xs.map fun x => D.int .i64 x).take (min xs.length m) = (xs.take m).map dI := by
          rcases Nat.le_total m xs.length with h | h
          · rw [Nat.min_eq_right h, List.map_take]; rfl
          · rw [Nat.min_eq_left h, List.take_of_length_le (by simp), List.take_of_length_le h]; rfl
        simp only [zbd, Option.getD_some, List.length_map, k_175]
        simp [ifB, Nat.min_le_left]
        exact h1.trans (by rw [List.map_take])
      have ha := ztj (r := k_int) (by_ := 8) (es := []) (ys := (xs.take m).map dI) (o := false) (fun h => absurd rfl h) (by intro d hd; obtain ⟨v, _, rfl⟩ := List.mem_map.1 hd; exact ⟨rfl, rfl⟩) (by simp [bound]; omega) (by simp [bound]; omega)
      simp only [zcv, List.nil_append] at ha
      simp only [a_71, de0, de1, de2, szQ, szB, szL, sy0, sy1, sy2, sy3, sy4, sy5, zad, zaa, zac, zae, adel, zah, zag, zai, zaf, evalV, aget, aset, adel1, nth, AOp.kind, Nat.reduceAdd, Nat.reduceSub, Nat.reduceMul, Nat.reduceBEq, Nat.ble, bindO, Nat.reduceLeDiff, Int.reduceBEq, Int.reduceBNe, Int.reduceLE, Int.reduceLT, Int.reduceGE, Int.reduceGT, Int.reduceNeg, ks, hlen, hs, ha, List.length_map, hmin]
      done
  · refine ⟨.nils, .inr ⟨by simp, rfl⟩, true, any _ fun n σ => ?_⟩
    rw [T_fun (af := a_71) rfl rfl]
    have hmin0 : ifB (decide ((m : Int) < ((0 : Nat) : Int))) (m : Int) ((0 : Nat) : Int) = 0 := by
      rw [decide_eq_false (by omega), zac]
      rfl
    have hs0 : zbd 1 .nils 0 (some 0) = some .nils := rfl
    have ha0 : zbe k_int 8 ⟨false, .nils⟩ [] = some ⟨true, .nils⟩ := rfl
    simp only [a_71, de0, de1, de2, szQ, szB, szL, sy0, sy1, sy2, sy3, sy4, sy5, zad, zaa, zac, zae, adel, zah, zag, zai, zaf, evalV, aget, aset, adel1, nth, AOp.kind, Nat.reduceAdd, Nat.reduceSub, Nat.reduceMul, Nat.reduceBEq, Nat.ble, bindO, Nat.reduceLeDiff, Int.reduceBEq, Int.reduceBNe, Int.reduceLE, Int.reduceLT, Int.reduceGE, Int.reduceGT, Int.reduceNeg, ks, hmin0, hs0, ha0]
    done
def pk : List Int → Nat
  | [] => 0
  | x :: _ => aro x 100000
theorem pk_lt (xs : List Int) : pk xs < 100000 := by
  cases xs with
  | nil => simp [pk]
  | cons x r => exact zf9 x (by omega)
theorem znf (d : D) (xs : List Int) (h : Row d xs) (hs : ∀ x ∈ xs, Small x) : Evly fun n => ∀ σ, T n n_13 [d, .int .i64 0] σ = some (.ret ⟨false, .int .i64 (pk xs)⟩, σ) := zd0.step 0 fun n _ har σ => by
  rw [T_fun (af := a_106) rfl rfl]
  have hlen := zda h
  cases xs with
  | nil => simp only [a_106, de0, de1, de2, szQ, szB, szL, sy0, sy1, sy2, sy3, sy4, sy5, zad, zaa, zac, zae, adel, zah, zag, zai, zaf, evalV, aget, aset, adel1, nth, AOp.kind, Nat.reduceAdd, Nat.reduceSub, Nat.reduceMul, Nat.reduceBEq, Nat.ble, bindO, Nat.reduceLeDiff, Int.reduceBEq, Int.reduceBNe, Int.reduceLE, Int.reduceLT, Int.reduceGE, Int.reduceGT, Int.reduceNeg, ks, hlen, pk, lz]
           done
  | cons x r =>
    have hx := zl0 h 0 (by simp)
    have h1 := har x 100000 100000 σ (hs x (by simp)) rfl (by omega) (by omega)
    have hg : ¬ ((0 : Int) ≥ ((r.length + 1 : Nat) : Int)) := by omega
    simp only [List.getElem_cons_zero] at hx
    simp only [a_106, de0, de1, de2, szQ, szB, szL, sy0, sy1, sy2, sy3, sy4, sy5, zad, zaa, zac, zae, adel, zah, zag, zai, zaf, evalV, aget, aset, adel1, nth, AOp.kind, Nat.reduceAdd, Nat.reduceSub, Nat.reduceMul, Nat.reduceBEq, Nat.ble, bindO, Nat.reduceLeDiff, Int.reduceBEq, Int.reduceBNe, Int.reduceLE, Int.reduceLT, Int.reduceGE, Int.reduceGT, Int.reduceNeg, ks, hlen, hx, hg, pk, h1]
    done
def nmS (x : Int) : List UInt8 := match aro x 4 with
  | 0 => [97]
  | 1 => [98]
  | 2 => [99]
  | _ => [120]
theorem ze1 : Evly fun n => ∀ (x : Int) σ, Small x → T n n_24 [.int .i64 x] σ = some (.ret ⟨false, .str (nmS x)⟩, σ) := zd0.step 0 fun n _ har x σ hx => by
  rw [T_fun (af := a_128) rfl rfl]
  have h1 := har x 4 4 σ hx rfl (by omega) (by omega)
  have h2 := zf9 x (m := 4) (by omega)
  have h4 : aro x 4 = 0 ∨ aro x 4 = 1 ∨ aro x 4 = 2 ∨ aro x 4 = 3 := by omega
  rcases h4 with h4 | h4 | h4 | h4 <;> rw [h4] at h1 <;> simp only [lz] at h1 <;> simp only [nmS, h4] <;> simp only [a_128, de0, de1, de2, szQ, szB, szL, sy0, sy1, sy2, sy3, sy4, sy5, zad, zaa, zac, zae, adel, zah, zag, zai, zaf, evalV, aget, aset, adel1, nth, AOp.kind, Nat.reduceAdd, Nat.reduceSub, Nat.reduceMul, Nat.reduceBEq, Nat.ble, bindO, Nat.reduceLeDiff, Int.reduceBEq, Int.reduceBNe, Int.reduceLE, Int.reduceLT, Int.reduceGE, Int.reduceGT, Int.reduceNeg, ks, lz, h1]
  all_goals done
def cnS (x : Int) : List UInt8 := match aro x 6 with
  | 0 => [73, 110, 116]
  | 1 => [66, 111, 111, 108]
  | 2 => [76]
  | 3 => [80]
  | 4 => [70]
  | _ => [45, 62]
theorem zlv : Evly fun n => ∀ (x : Int) σ, Small x → T n n_93 [.int .i64 x] σ = some (.ret ⟨false, .str (cnS x)⟩, σ) := zd0.step 0 fun n _ har x σ hx => by
  rw [T_fun (af := a_124) rfl rfl]
  have h1 := har x 6 6 σ hx rfl (by omega) (by omega)
  have h2 := zf9 x (m := 6) (by omega)
  have h4 : aro x 6 = 0 ∨ aro x 6 = 1 ∨ aro x 6 = 2 ∨ aro x 6 = 3 ∨ aro x 6 = 4 ∨ aro x 6 = 5 := by omega
  rcases h4 with h4 | h4 | h4 | h4 | h4 | h4 <;> rw [h4] at h1 <;> simp only [lz] at h1 <;> simp only [cnS, h4] <;> simp only [a_124, de0, de1, de2, szQ, szB, szL, sy0, sy1, sy2, sy3, sy4, sy5, zad, zaa, zac, zae, adel, zah, zag, zai, zaf, evalV, aget, aset, adel1, nth, AOp.kind, Nat.reduceAdd, Nat.reduceSub, Nat.reduceMul, Nat.reduceBEq, Nat.ble, bindO, Nat.reduceLeDiff, Int.reduceBEq, Int.reduceBNe, Int.reduceLE, Int.reduceLT, Int.reduceGE, Int.reduceGT, Int.reduceNeg, ks, lz, h1]
  all_goals done
end Go.Fu
namespace Go.Fu
open Go Go.Mx
set_option maxRecDepth 10000
theorem dec0 (n : Nat) (x : Int) (u : List UInt8) (σ : Store) (h1 : x.tmod 10 = x) (h2 : ¬ (x < 0)) (h3 : x > -10) (h4 : x < 10) (w : IntKind.i64.wrap (48 + x) = 48 + x) (w8 : IntKind.u8.wrap (48 + x) = 48 + x) (hb : zd3 [D.int .u8 (48 + x)] = some u) : T (n + 1) n_31 [.int .i64 x] σ = some (.ret ⟨false, .str u⟩, σ) := by
  rw [T_fun (af := a_121) rfl rfl]
  simp only [a_121, de0, de1, de2, szQ, szB, szL, sy0, sy1, sy2, sy3, sy4, sy5, zad, zaa, zac, zae, adel, zah, zag, zai, zaf, evalV, aget, aset, adel1, nth, AOp.kind, Nat.reduceAdd, Nat.reduceSub, Nat.reduceMul, Nat.reduceBEq, Nat.ble, bindO, Nat.reduceLeDiff, Int.reduceBEq, Int.reduceBNe, Int.reduceLE, Int.reduceLT, Int.reduceGE, Int.reduceGT, Int.reduceNeg, ks, k_232, k_230, k_231, h1, h2, h3, h4, w, w8, hb]
theorem zl8 : Evly fun n => ∀ (x : Nat) σ, x < 6 → T n n_31 [.int .i64 (x : Int)] σ = some (.ret ⟨false, .str [UInt8.ofNat (48 + x)]⟩, σ) := any _ fun n x σ hx => by
  have h : x = 0 ∨ x = 1 ∨ x = 2 ∨ x = 3 ∨ x = 4 ∨ x = 5 := by omega
  rcases h with rfl | rfl | rfl | rfl | rfl | rfl <;> exact dec0 n _ _ σ (by decide) (by decide) (by decide) (by decide) (by decide) (by decide) rfl
theorem itoa0 (n : Nat) (x : Int) (u : List UInt8) (σ : Store) (h : xItoa [.int .i64 x] = some (.str u)) : T (n + 1) n_53 [.int .i64 x] σ = some (.ret ⟨false, .str u⟩, σ) := by
  rw [T_lib rfl]
  show bindO (xItoa [.int .i64 x]) _ = _
  rw [h]
  rfl
theorem zm8 : Evly fun n => ∀ (x : Nat) σ, x < 6 → T n n_53 [.int .i64 (x : Int)] σ = some (.ret ⟨false, .str [UInt8.ofNat (48 + x)]⟩, σ) := any _ fun n x σ hx => by
  have h : x = 0 ∨ x = 1 ∨ x = 2 ∨ x = 3 ∨ x = 4 ∨ x = 5 := by omega
  rcases h with rfl | rfl | rfl | rfl | rfl | rfl <;> exact itoa0 n _ _ σ rfl
structure WF (σ : Store) : Prop where
  objs : ∀ p ∈ σ.objs, p.1 < σ.next
  tys : ∀ p ∈ σ.tys, p.1 < σ.next
  oth : ∀ p ∈ σ.oth, p.1 < σ.next
theorem zpw {α : Type} (l : List (Nat × α)) (n : Nat) (h : ∀ p ∈ l, p.1 < n) : l.filter (fun p => decide (p.1 < n)) = l := by
  rw [List.filter_eq_self]
  intro p hp
  exact decide_eq_true (h p hp)
theorem zgq {n : Nat} {k : RowK} {cs : List D} {os : Objs} : za1 (n + 1) (dlist k cs) os = some (dlist k cs, os) := by cases cs <;> rfl
theorem zfr {C : CallF} {n : Nat} {ts : List FTgt} {b : ACode} {e : Env} {σ : Store} : exec C n (.frz ts b) e σ = bindO (zcz ts e σ) fun x => exec C n b x.1 x.2 := rfl
theorem zif {n : Nat} {k : IntKind} {x : Int} {os : Objs} : za1 (n + 1) (.int k x) os = some (.int k x, os) := rfl
theorem zig {n : Nat} {x : List UInt8} {os : Objs} : za1 (n + 1) (.str x) os = some (.str x, os) := rfl
theorem zie {n : Nat} {k : RowK} {id off len : Nat} {os : Objs} : za1 (n + 1) (.arr k id off len) os = bindO (aget os id) fun cs => ifB ((k.ag || k.sz == 1) && decide ((off + len) * k.sz ≤ cs.length)) (bindO (zc8 (za1 n) (elems k cs off len) (adel1 os id)) fun r => some (.list k r.1, r.2)) none := rfl
theorem zud {n : Nat} {ds : List D} {os : Objs} : za1 (n + 1) (.agg ds) os = bindO (zc8 (za1 n) ds os) fun r => some (.agg r.1, r.2) := rfl
end Go.Fu
namespace Go.Fu
open Go Go.Mx
set_option maxRecDepth 10000
theorem zdm : ∀ a b : List D, cellsOf (a ++ b) = cellsOf a ++ cellsOf b
  | [], b => rfl
  | d :: a, b => by simp only [List.cons_append, cellsOf, zdm a b, List.append_assoc]
theorem zg2 : ∀ a : List D, (cellsOf a).map (fun c => Cell.of c.d) = cellsOf a
  | [] => rfl
  | d :: a => by
    simp only [cellsOf, List.map_append, List.map_map, zg2 a]
    rfl
theorem zb8 {z : Nat} : ∀ a : List D, (∀ d ∈ a, d.cells.length = z) → (cellsOf a).length = a.length * z
  | [], _ => by simp [cellsOf]
  | d :: a, h => by
    have h1 := h d (by simp)
    have h2 := zb8 a fun x hx => h x (List.mem_cons_of_mem _ hx)
    simp only [cellsOf, List.length_append, List.length_map, h1, h2, List.length_cons, Nat.succ_mul, Nat.add_comm]
theorem zq3 {σ : Store} {k : RowK} {by_ id : Nat} {ds : List D} {y : D} {os : Objs} (ha : aget σ.objs id = some (cellsOf ds)) (hb' : aget σ.tys id = some ⟨k.el, k.sz⟩) (hd : adel1 σ.objs id = os)
    (hs : ∀ d ∈ ds, d.cells.length = k.sz) (hk : y.ok = true) (hy : y.cells.length = k.sz) (hb : (ds.length + 1) * by_ ≤ bound) (hb2 : ds.length + 1 ≤ bound) :
    zb9 σ k by_ (.arr k id 0 ds.length) [y] = some (.arr k σ.next 0 (ds.length + 1), { objs := (σ.next, cellsOf (ds ++ [y])) :: os, tys := (σ.next, ⟨k.el, k.sz⟩) :: σ.tys, oth := σ.oth, next := σ.next + 2 }) := by
  have h1 : zau k.sz [y] = true := by simp [zau, hk, hy]
  have hl := zb8 ds hs
  have ht2 : (cellsOf ds).take (ds.length * k.sz) = cellsOf ds := List.take_of_length_le (by omega)
  have e0 : decide (ds.length * k.sz ≤ (cellsOf ds).length) = true := by simp; omega
  have e1 : decide ((ds.length + 1) * by_ ≤ bound) = true := by simpa using hb
  have e2 : decide (ds.length + 1 ≤ bound) = true := by simpa using hb2
  have ek : k.same k = true := by simp [RowK.same]
  have en : (cellsOf ds).map (fun c => Cell.of c.d) ++ cellsOf [y] = cellsOf (ds ++ [y]) := by rw [zg2, zdm]
  simp only [zb9, h1, ifB, ha, bindO, zaa, hb', ek, List.length_cons, List.length_nil, Nat.zero_add, e0, e1, e2, hd, ht2, en, za4, beq_self_eq_true, Bool.and_self]
theorem zq4 {σ : Store} {k : RowK} {by_ : Nat} {y : D} (hk : y.ok = true) (hy : y.cells.length = k.sz) (hb : by_ ≤ bound) :
    zb9 σ k by_ .nils [y] = some (.arr k σ.next 0 1, { objs := (σ.next, cellsOf [y]) :: σ.objs, tys := (σ.next, ⟨k.el, k.sz⟩) :: σ.tys, oth := σ.oth, next := σ.next + 2 }) := by
  have h1 : zau k.sz [y] = true := by simp [zau, hk, hy]
  have e1 : decide (1 * by_ ≤ bound) = true := by simpa using hb
  have e2 : decide (1 ≤ bound) = true := by decide
  simp only [zb9, h1, ifB, List.length_cons, List.length_nil, Nat.zero_add, e1, e2, za4, List.isEmpty_cons, Bool.and_self]
theorem zkr {k : RowK} : ∀ ds : List D, (∀ d ∈ ds, d.cells.length = k.sz ∧ packD k d.cells = d) → zcs k ds.length ((cellsOf ds).map fun c => c.d) = ds
  | [], _ => rfl
  | d :: ds, h => by
    obtain ⟨h1, h2⟩ := h d (by simp)
    have h3 := zkr ds fun x hx => h x (List.mem_cons_of_mem _ hx)
    have e1 : (d.cells.map Cell.of).map (fun c => c.d) = d.cells := by
      rw [List.map_map]
      exact List.map_id'' (fun _ => rfl) _
    simp only [List.length_cons, zcs, cellsOf, List.map_append, e1]
    rw [List.take_left' h1, List.drop_left' h1, h2, h3]
theorem zid {k : RowK} {ds : List D} (h : ∀ d ∈ ds, d.cells.length = k.sz ∧ packD k d.cells = d) : elems k (cellsOf ds) 0 ds.length = ds := by
  simp only [elems, Nat.zero_mul, List.drop_zero]
  exact zkr ds h
theorem zg4 {n : Nat} {os : Objs} : ∀ ds : List D, (∀ d ∈ ds, za1 n d os = some (d, os)) → zc8 (za1 n) ds os = some (ds, os)
  | [], _ => rfl
  | d :: ds, h => by
    have h1 := h d (by simp)
    have h2 := zg4 ds fun x hx => h x (List.mem_cons_of_mem _ hx)
    simp only [zc8, h1, bindO, zaa, h2]
theorem zuf {k : RowK} {id n : Nat} {ds : List D} {os os' : Objs} (ho : aget os id = some (cellsOf ds)) (hd : adel1 os id = os') (hk : (k.ag || k.sz == 1) = true) (h : ∀ d ∈ ds, d.cells.length = k.sz ∧ packD k d.cells = d) (hf : ∀ d ∈ ds, za1 n d os' = some (d, os')) :
    za1 (n + 1) (.arr k id 0 ds.length) os = some (.list k ds, os') := by
  have hl := zb8 ds fun d hd => (h d hd).1
  have e0 : decide ((0 + ds.length) * k.sz ≤ (cellsOf ds).length) = true := by simp; omega
  simp only [zie, ho, bindO, zaa, hk, e0, Bool.and_self, ifB, zid h, hd, zg4 ds hf]
end Go.Fu

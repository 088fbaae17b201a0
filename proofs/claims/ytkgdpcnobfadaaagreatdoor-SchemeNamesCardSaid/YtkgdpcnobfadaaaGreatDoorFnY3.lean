/-
  A small world's predicates are made, whatever the numbers.
-/
import Derived.Test.YtkgdpcnobfadaaaGreatDoorFnG1
import Derived.Test.YtkgdpcnobfadaaaGreatDoorFnM3
import Derived.Test.YtkgdpcnobfadaaaGreatDoorFnY5
set_option linter.unusedSimpArgs false
set_option linter.unusedVariables false
namespace Go.Fu
open Go Go.Mx
set_option maxRecDepth 10000
def nms5 : D := dSs [[65], [66], [67], [68], [69]]
def clS (n : Nat) : List UInt8 := match n with
  | 0 => [65]
  | 1 => [66]
  | 2 => [67]
  | 3 => [68]
  | _ => [69]
theorem zfmb (n : Nat) : zav 1 nms5 (n % 5) = some (.eptr (.str (clS (n % 5)))) := by
  have hk : n % 5 = 0 ∨ n % 5 = 1 ∨ n % 5 = 2 ∨ n % 5 = 3 ∨ n % 5 = 4 := by omega
  rcases hk with hk | hk | hk | hk | hk <;> rw [hk] <;> rfl
section
variable {C : CallF} {n : Nat} {σ : Store}
def Epr (o : Bool) (d : D) (out : List Pr) : Env := { slots := [(0, ⟨o, d⟩), (1, ⟨false, .int .i64 4⟩), (5, ⟨false, nms5⟩), (7, ⟨ow out.length, dlist k_1 (out.map dP)⟩)], locs := [], boxes := [], defers := [] }
def Epe (o : Bool) (d : D) (out : List Pr) : Env := { slots := [(0, ⟨o, d⟩), (1, ⟨false, .int .i64 4⟩), (5, ⟨false, nms5⟩), (7, ⟨ow out.length, dlist k_1 (out.map dP)⟩), (25, ⟨false, .bool false⟩)], locs := [], boxes := [], defers := [] }
theorem zedb (o : Bool) (d d1 d2 : D) (l p : Nat) (t : Tp) (out : List Pr) (hl : lenOf d = some l) (h0 : 0 < l) (ho : out.length < 4) (hp : C n_13 [d, .int .i64 0] σ = some (.ret ⟨false, .int .i64 p⟩, σ)) (hs : zbd 1 d 1 none = some d1)
    (hc : C n_9 [d1, .int .i64 1] σ = some (.ret ⟨false, .tup [dT t, d2]⟩, σ)) : exec C n a_45 (Epr o d out) σ = some (.normal, Epr false d2 (out ++ [⟨clS (p % 5), t⟩]), σ) := by
  have h1 : ((l : Int) > 0) := by omega
  have h2 : ((out.length : Int) < 4) := by omega
  have hm : ((p : Int)).tmod 5 = ((p % 5 : Nat) : Int) := tmodN p 5
  have hx := zfmb p
  have ha := zmy out ⟨clS (p % 5), t⟩ (ow out.length) (by cases out with
    | nil => intro h; exact absurd rfl h
    | cons x r => intro _; rfl) (by omega)
  rw [dT_eq t] at hc
  have how : ow (out ++ [(⟨clS (p % 5), t⟩ : Pr)]).length = true := by simp [zcc]
  simp only [dP_eq, cT] at hc ha
  simp only [a_45, Epr, de0, de1, de2, szQ, szB, szL, sy0, sy1, sy2, sy3, sy4, sy5, zad, zaa, zac, zae, adel, zah, zag, zai, zaf, evalV, aget, aset, adel1, nth, AOp.kind, Nat.reduceAdd, Nat.reduceSub, Nat.reduceMul, Nat.reduceBEq, Nat.ble, bindO, Nat.reduceLeDiff, Int.reduceBEq, Int.reduceBNe, Int.reduceLE, Int.reduceLT, Int.reduceGE, Int.reduceGT, Int.reduceNeg, ks, List.length_map, hl, h1, h2, hp, hs, hc, hm, hx, ha, how]
theorem zebb (o : Bool) (d : D) (out : List Pr) (hl : lenOf d = some 0) : exec C n a_45 (Epr o d out) σ = some (.exit 0, Epe o d out, σ) := by
  have h1 : ¬ (((0 : Nat) : Int) > 0) := by omega
  simp only [a_45, Epr, Epe, de0, de1, de2, szQ, szB, szL, sy0, sy1, sy2, sy3, sy4, sy5, zad, zaa, zac, zae, adel, zah, zag, zai, zaf, evalV, aget, aset, adel1, nth, AOp.kind, Nat.reduceAdd, Nat.reduceSub, Nat.reduceMul, Nat.reduceBEq, Nat.ble, bindO, Nat.reduceLeDiff, Int.reduceBEq, Int.reduceBNe, Int.reduceLE, Int.reduceLT, Int.reduceGE, Int.reduceGT, Int.reduceNeg, ks, List.length_map, hl, h1]
theorem zecb (o : Bool) (d : D) (l : Nat) (out : List Pr) (hl : lenOf d = some l) (h0 : 0 < l) (ho : out.length = 4) : exec C n a_45 (Epr o d out) σ = some (.exit 0, Epe o d out, σ) := by
  have h1 : ((l : Int) > 0) := by omega
  have h2 : ¬ ((out.length : Int) < 4) := by omega
  simp only [a_45, Epr, Epe, de0, de1, de2, szQ, szB, szL, sy0, sy1, sy2, sy3, sy4, sy5, zad, zaa, zac, zae, adel, zah, zag, zai, zaf, evalV, aget, aset, adel1, nth, AOp.kind, Nat.reduceAdd, Nat.reduceSub, Nat.reduceMul, Nat.reduceBEq, Nat.ble, bindO, Nat.reduceLeDiff, Int.reduceBEq, Int.reduceBNe, Int.reduceLE, Int.reduceLT, Int.reduceGE, Int.reduceGT, Int.reduceNeg, ks, List.length_map, hl, h1, h2]
end
def LP (p : Pr) : Prop := LA 3 p.ty ∧ p.cls.length ≤ 1000
theorem zflb (n : Nat) : (clS n).length ≤ 1000 := by
  unfold clS
  split <;> decide
theorem zog : ∀ (c : Nat) (o : Bool) (d : D) (xs : List Int) (out : List Pr), out.length + c = 4 → Row d xs → zbj xs → (∀ p ∈ out, LP p) → ∃ o' d' out', (out'.length ≤ 4 ∧ ∀ p ∈ out', LP p) ∧ Evly fun m => ∀ k σ, c + 1 ≤ k → loopN (exec (T m) m a_45) k (Epr o d out) σ = some (.exit 0, Epe o' d' out', σ)
  | c, o, d, [], out, hc, hR, hS, hL => ⟨o, d, out, ⟨by omega, hL⟩, .all fun m k σ hk => by
    obtain ⟨k, rfl⟩ : ∃ j, k = j + 1 := ⟨k - 1, by omega⟩
    exact za7 (zebb o d out (zda hR))⟩
  | 0, o, d, x :: xs, out, hc, hR, hS, hL => ⟨o, d, out, ⟨by omega, hL⟩, .all fun m k σ hk => by
    obtain ⟨k, rfl⟩ : ∃ j, k = j + 1 := ⟨k - 1, by omega⟩
    exact za7 (zecb o d _ out (zda hR) (by simp) hc)⟩
  | c + 1, o, d, x :: xs, out, hc, hR, hS, hL => by
    obtain ⟨d1, hs, hR1⟩ := zhu hR
    have hS1 : zbj xs := fun y hy => hS y (List.mem_cons_of_mem _ hy)
    obtain ⟨t, d2, xs2, hLt, hR2, hS2, _, ht⟩ := zos 3 1 (by omega) d1 xs hR1 hS1
    have hpick := znf d _ hR hS
    obtain ⟨o', d', out', hl, hrest⟩ := zog c false d2 xs2 (out ++ [⟨clS (pk (x :: xs) % 5), t⟩]) (by simp; omega) hR2 hS2 (fun p hp => by
      rcases List.mem_append.1 hp with hp | hp
      · exact hL p hp
      · rw [List.mem_singleton.1 hp]; exact ⟨hLt, zflb _⟩)
    refine ⟨o', d', out', hl, (hrest.and (ht.and hpick)).mono fun m h k σ hk => ?_⟩
    obtain ⟨k, rfl⟩ : ∃ j, k = j + 1 := ⟨k - 1, by omega⟩
    rw [zb4 (zedb o d d1 d2 _ _ t out (zda hR) (by simp) (by omega) (h.2.2 σ) hs (h.2.1 σ))]
    exact h.1 k σ (by omega)
theorem zbdb (d : D) (xs : List Int) (hR : Row d xs) (hS : zbj xs) : ∃ ps : List Pr, (ps.length ≤ 4 ∧ ∀ p ∈ ps, LP p) ∧ Evly fun n => ∀ σ, T n n_179 [d, .int .i64 4] σ = some (.ret ⟨ow ps.length, dPs ps⟩, σ) := by
  obtain ⟨d1, hR1, o, h1⟩ := zj1 d xs 30 hR (by omega)
  obtain ⟨o', d', ps, hl, h2⟩ := zog 4 o d1 _ [] (by simp) hR1 (zf7 hS 30) (by simp)
  refine ⟨ps, hl, (h1.and (h2.and zawb)).step 6 fun m hm h σ => ?_⟩
  have e1 := h.1 σ
  have e2 := h.2.1 m σ (by omega)
  have e3 := h.2.2 σ
  have l30 : ((30 : Nat) : Int) = 30 := rfl
  rw [T_fun (af := a_132) rfl rfl]
  simp only [l30, Epr, Epe, List.map_nil, zcv, List.length_nil, zcp, nms5] at e1 e2
  simp only [a_132, de0, de1, de2, szQ, szB, szL, sy0, sy1, sy2, sy3, sy4, sy5, zad, zaa, zac, zae, adel, zah, zag, zai, zaf, evalV, aget, aset, adel1, nth, AOp.kind, Nat.reduceAdd, Nat.reduceSub, Nat.reduceMul, Nat.reduceBEq, Nat.ble, bindO, Nat.reduceLeDiff, Int.reduceBEq, Int.reduceBNe, Int.reduceLE, Int.reduceLT, Int.reduceGE, Int.reduceGT, Int.reduceNeg, ks, e1, e2, e3, dPs]
end Go.Fu
namespace Go.Fu
open Go Go.Mx
set_option maxRecDepth 10000
theorem zkd : ∀ t : Tp, tyB t = true → vOK t = true
  | .var s, h => h
  | .con s, _ => rfl
  | .hole x, _ => rfl
  | .app f a, h => by
    simp only [tyB, Bool.and_eq_true] at h
    simp only [vOK, Bool.and_eq_true]
    exact ⟨zkd f h.1, zkd a h.2⟩
structure SOK (vs : List (List UInt8)) (ps : List Pr) (t : Tp) : Prop where
  vl : vs.length < 6
  vo : ∀ v ∈ vs, okV v = true
  pl : ps.length ≤ 4
  po : ∀ p ∈ ps, LP p
  tB : LB 5 t
theorem SOK.tv {vs : List (List UInt8)} {ps : List Pr} {t : Tp} (H : SOK vs ps t) : vOK t = true := zkd t H.tB.1.1
theorem SOK.pv {vs : List (List UInt8)} {ps : List Pr} {t : Tp} (H : SOK vs ps t) : ∀ p ∈ ps, vOK p.ty = true := fun p hp => zkc p.ty (H.po p hp).1.1.1
def rnP (vs : List (List UInt8)) (ps : List Pr) : List Pr := ps.map (putP vs (vnT vs.length))
def rnT (vs : List (List UInt8)) (t : Tp) : Tp := subT vs (vnT vs.length) t
theorem zh7b {vs : List (List UInt8)} {ps : List Pr} {t : Tp} (H : SOK vs ps t) : ∀ s ∈ othA t ps, okV s = true := fun s hs => by
  unfold othA at hs
  rcases List.mem_append.1 hs with h | h
  · exact zc7 t H.tv s h
  · obtain ⟨p, hp, hm⟩ := List.mem_flatMap.1 h
    exact zc7 p.ty (H.pv p hp) s hm
theorem zhbb {vs : List (List UInt8)} {ps : List Pr} {t : Tp} (H : SOK vs ps t) : othA (rnT vs t) (rnP vs ps) = (othA t ps).map (rnm vs) := by
  unfold othA rnT rnP
  rw [zea vs H.vl t H.tv, List.map_append]
  congr 1
  have : ∀ l : List Pr, (∀ p ∈ l, vOK p.ty = true) → ((l.map (putP vs (vnT vs.length))).flatMap fun p => freeT p.ty) = (l.flatMap fun p => freeT p.ty).map (rnm vs) := by
    intro l
    induction l with
    | nil => intro _; rfl
    | cons p l ih =>
      intro h
      have h1 := zea vs H.vl p.ty (h p (by simp))
      have h2 := ih fun x hx => h x (List.mem_cons_of_mem _ hx)
      simp only [List.map_cons, List.flatMap_cons, h2, List.map_append]
      congr 1
  exact this ps H.pv
theorem zru (vs : List (List UInt8)) (hl : vs.length < 6) : ∀ l : List (List UInt8), (∀ s ∈ l, okV s = true) → keepV (vsN vs) (l.map (rnm vs)) = keepV vs l
  | [], _ => rfl
  | s :: l, h => by
    have hs := h s (by simp)
    have ih := zru vs hl l fun x hx => h x (List.mem_cons_of_mem _ hx)
    have hv := zpp vs hl s hs
    unfold keepV at *
    rw [List.map_cons, List.filter_cons, List.filter_cons, hv, ih]
    cases hc : vs.contains s with
    | true => rfl
    | false =>
      have hn : ¬ s ∈ vs := fun h => by rw [zbz.2 h] at hc; cases hc
      rw [zf0 hn]
theorem zr6 {vs : List (List UInt8)} {ps : List Pr} {t : Tp} (H : SOK vs ps t) : ∀ s ∈ nmI vs t ps, okV s = true ∧ s ∈ vs := by
  have key : ∀ (l : List Pr) (ns : List (List UInt8)), (∀ s ∈ ns, s ∈ vs) → ∀ s ∈ l.foldl (fun ns p => meetL vs ns (freeT p.ty)) ns, s ∈ vs := by
    intro l
    induction l with
    | nil => intro ns h s hs; exact h s hs
    | cons p l ih =>
      intro ns h s hs
      exact ih (meetL vs ns (freeT p.ty)) (fun x hx => by
        rcases (zdf vs x _ _).1 hx with h1 | h1
        · exact h x h1
        · exact h1.2) s hs
  intro s hs
  have hv := key ps (meetL vs [] (freeT t)) (fun x hx => by
    rcases (zdf vs x _ _).1 hx with h1 | h1
    · simp at h1
    · exact h1.2) s hs
  exact ⟨H.vo s hv, hv⟩
theorem zhyb {vs : List (List UInt8)} {ps : List Pr} {t : Tp} (H : SOK vs ps t) : nmI (vsN vs) (rnT vs t) (rnP vs ps) = (nmI vs t ps).map (rnm vs) := by
  have key : ∀ (l : List Pr) (ns : List (List UInt8)), (∀ p ∈ l, vOK p.ty = true) → (∀ s ∈ ns, okV s = true) → (l.map (putP vs (vnT vs.length))).foldl (fun ns p => meetL (vsN vs) ns (freeT p.ty)) (ns.map (rnm vs)) = (l.foldl (fun ns p => meetL vs ns (freeT p.ty)) ns).map (rnm vs) := by
    intro l
    induction l with
    | nil => intro ns _ _; rfl
    | cons p l ih =>
      intro ns h ho
      have hp := h p (by simp)
      have h1 : freeT (putP vs (vnT vs.length) p).ty = (freeT p.ty).map (rnm vs) := zea vs H.vl p.ty hp
      have h2 := zgg vs H.vl (freeT p.ty) ns (zc7 p.ty hp) ho
      simp only [List.map_cons, List.foldl_cons, h1, h2]
      exact ih (meetL vs ns (freeT p.ty)) (fun x hx => h x (List.mem_cons_of_mem _ hx)) (fun x hx => by
        rcases (zdf vs x _ _).1 hx with h3 | h3
        · exact ho x h3
        · exact zc7 p.ty hp x h3.1)
  unfold nmI rnT rnP
  have h0 := zgg vs H.vl (freeT t) [] (zc7 t H.tv) (by simp)
  rw [zea vs H.vl t H.tv]
  simp only [List.map_nil] at h0
  rw [h0]
  exact key ps _ H.pv (fun x hx => by
    rcases (zdf vs x _ _).1 hx with h3 | h3
    · simp at h3
    · exact zc7 t H.tv x h3.1)
theorem sub_sub (vs ns L : List (List UInt8)) (hl : vs.length < 6) (hns : ∀ s ∈ ns, okV s = true ∧ s ∈ vs) (hL : L.length = ns.length) : ∀ u : Tp, vOK u = true → (∀ s ∈ freeT u, s ∈ vs → s ∈ ns) → subT (ns.map (rnm vs)) (L.map Tp.var) (rnT vs u) = subT ns (L.map Tp.var) u
  | .con c, _, _ => rfl
  | .hole x, _, _ => rfl
  | .app f a, h, ho => by
    simp only [vOK, Bool.and_eq_true] at h
    have hf := sub_sub vs ns L hl hns hL f h.1 fun s hs => ho s ((zd9 s f a).2 (.inl hs))
    have ha := sub_sub vs ns L hl hns hL a h.2 fun s hs => ho s ((zd9 s f a).2 (.inr hs))
    unfold rnT at *
    simp only [subT, hf, ha]
  | .var s, h, ho => by
    unfold rnT
    rw [zwx]
    have hs : okV s = true := h
    have pm : ∀ (l : List (List UInt8)), (∀ x ∈ l, okV x = true) → posS (rnm vs s) (l.map (rnm vs)) = posS s l := by
      intro l
      induction l with
      | nil => intro _; rfl
      | cons x l ih =>
        intro hx
        have h1 := ih fun y hy => hx y (List.mem_cons_of_mem _ hy)
        have he : (rnm vs s == rnm vs x) = (s == x) := by
          rw [Bool.eq_iff_iff, beq_iff_eq, beq_iff_eq]
          exact ⟨zwv vs hl s x hs (hx x (by simp)), fun e => by rw [e]⟩
        simp only [List.map_cons, posS, he, h1]
    have hp := pm ns fun x hx => (hns x hx).1
    unfold subT
    rw [hp]
    by_cases hv : s ∈ vs
    · have hn := ho s (by simp [freeT]) hv
      obtain ⟨i, hi⟩ := zmm hn
      rw [hi]
      have hlt := zhd hi
      have h1 : i < (L.map Tp.var).length := by rw [List.length_map]; omega
      simp only [List.getD_eq_getElem?_getD, List.getElem?_eq_getElem h1, Option.getD_some]
    · have hn : ¬ s ∈ ns := fun e => hv (hns s e).2
      rw [zml hn, zf0 hv]
theorem zazb {vs : List (List UInt8)} {ps : List Pr} {t : Tp} : (∀ s ∈ freeT t, s ∈ vs → s ∈ nmI vs t ps) ∧ ∀ p ∈ ps, ∀ s ∈ freeT p.ty, s ∈ vs → s ∈ nmI vs t ps := by
  have mono : ∀ (l : List Pr) (ns : List (List UInt8)) (s : List UInt8), s ∈ ns → s ∈ l.foldl (fun ns p => meetL vs ns (freeT p.ty)) ns := by
    intro l
    induction l with
    | nil => intro ns s h; exact h
    | cons p l ih => intro ns s h; exact ih _ s ((zdf vs s _ _).2 (.inl h))
  refine ⟨fun s hs hv => mono ps _ s ((zdf vs s _ _).2 (.inr ⟨hs, hv⟩)), ?_⟩
  have key : ∀ (l : List Pr) (ns : List (List UInt8)), ∀ p ∈ l, ∀ s ∈ freeT p.ty, s ∈ vs → s ∈ l.foldl (fun ns p => meetL vs ns (freeT p.ty)) ns := by
    intro l
    induction l with
    | nil => intro ns p hp; simp at hp
    | cons q l ih =>
      intro ns p hp s hs hv
      rcases List.mem_cons.1 hp with rfl | hp
      · exact mono l _ s ((zdf vs s _ _).2 (.inr ⟨hs, hv⟩))
      · exact ih _ p hp s hs hv
  exact key ps _
theorem zlb {tl tl' : List (List UInt8)} (h : ∀ s, tl.contains s = tl'.contains s) : ∀ f k, nxF tl f k = nxF tl' f k
  | 0, k => rfl
  | f + 1, k => by simp only [nxF, h, zlb h f]
theorem zrw {tl tl' : List (List UInt8)} (h : ∀ s, tl.contains s = tl'.contains s) : ∀ i, kk tl i = kk tl' i
  | 0 => rfl
  | i + 1 => by simp only [kk, nxt, zlb h, zrw h i]
theorem zn2 {tl tl' : List (List UInt8)} (h : ∀ s, tl.contains s = tl'.contains s) : ∀ i, lets tl i = lets tl' i
  | 0 => rfl
  | i + 1 => by simp only [lets, nxt, zlb h, zrw h i, zn2 h i]
theorem zjo {vs : List (List UInt8)} {ps : List Pr} {t : Tp} (H : SOK vs ps t) : cTl (vsN vs) (rnP vs ps) (rnT vs t) = cTl vs ps t ∧ cNs (vsN vs) (rnP vs ps) (rnT vs t) = (cNs vs ps t).map (rnm vs) ∧ cLs (vsN vs) (rnP vs ps) (rnT vs t) = cLs vs ps t := by
  have h1 : cTl (vsN vs) (rnP vs ps) (rnT vs t) = cTl vs ps t := by
    unfold cTl
    rw [zhbb H, zru vs H.vl _ (zh7b H)]
  have h2 : cNs (vsN vs) (rnP vs ps) (rnT vs t) = (cNs vs ps t).map (rnm vs) := zhyb H
  refine ⟨h1, h2, ?_⟩
  unfold cLs
  rw [h1, h2, List.length_map]
theorem zkq {vs : List (List UInt8)} {ps : List Pr} {t : Tp} (H : SOK vs ps t) (L : List (List UInt8)) (hL : L.length = (cNs vs ps t).length) :
    subT ((cNs vs ps t).map (rnm vs)) (L.map Tp.var) (rnT vs t) = subT (cNs vs ps t) (L.map Tp.var) t ∧ (rnP vs ps).map (putP ((cNs vs ps t).map (rnm vs)) (L.map Tp.var)) = ps.map (putP (cNs vs ps t) (L.map Tp.var)) := by
  have hns := zr6 H
  have hh := zazb (vs := vs) (ps := ps) (t := t)
  refine ⟨sub_sub vs _ L H.vl hns hL t H.tv hh.1, ?_⟩
  unfold rnP
  rw [List.map_map]
  refine List.map_congr_left fun p hp => ?_
  have := sub_sub vs (cNs vs ps t) L H.vl hns hL p.ty (H.pv p hp) (hh.2 p hp)
  show Pr.mk p.cls (subT ((cNs vs ps t).map (rnm vs)) (L.map Tp.var) (rnT vs p.ty)) = Pr.mk p.cls (subT (cNs vs ps t) (L.map Tp.var) p.ty)
  rw [this]
theorem zw9 {vs : List (List UInt8)} {ps : List Pr} {t : Tp} (H : SOK vs ps t) : cLs (vsN vs) (rnP vs ps) (rnT vs t) = cLs vs ps t ∧ cPs (vsN vs) (rnP vs ps) (rnT vs t) = cPs vs ps t ∧ cTy (vsN vs) (rnP vs ps) (rnT vs t) = cTy vs ps t := by
  obtain ⟨h1, h2, h3⟩ := zjo H
  have hL : (cLs vs ps t).length = (cNs vs ps t).length := zez _ _
  obtain ⟨p1, p2⟩ := zkq H (cLs vs ps t) hL
  refine ⟨h3, ?_, ?_⟩
  · unfold cPs
    rw [h2, h3, p2]
  · unfold cTy
    rw [h2, h3, p1]
end Go.Fu
namespace Go.Fu
open Go Go.Mx
set_option maxRecDepth 10000
theorem zkg : ∀ a b : List UInt8, za6 (a ++ b) = za6 a ++ za6 b
  | [], b => rfl
  | x :: a, b => by simp only [List.cons_append, za6, zkg a b]
theorem zfe : ∀ a : List UInt8, (za6 a).length = a.length
  | [] => rfl
  | x :: a => by simp only [za6, List.length_cons, zfe a]
theorem zps : ∀ a : List UInt8, zd3 (za6 a) = some a
  | [] => rfl
  | x :: a => by
    have hx : x.toNat < 256 := x.toNat_lt
    have h1 : decide (0 ≤ ((x.toNat : Nat) : Int)) = true := decide_eq_true (by omega)
    have h2 : decide (((x.toNat : Nat) : Int) < 256) = true := decide_eq_true (by omega)
    simp only [za6, zd3, h1, h2, Bool.and_self, zae, zps a, bindO, zaa, Int.toNat_natCast, UInt8.ofNat_toNat]
theorem zpr : ∀ s : List UInt8, zau k_11.sz (za6 s) = true
  | [] => rfl
  | x :: s => by simp only [za6, zau, zpr s]; rfl
theorem zzc (a s : List UInt8) (h : a.length + s.length < 1000000000) : zbe k_11 1 ⟨true, .list k_11 (za6 a)⟩ (za6 s) = some ⟨true, .list k_11 (za6 (a ++ s))⟩ := by
  have hm : zcw k_11 ⟨true, .list k_11 (za6 a)⟩ = true := rfl
  have e1 : decide (((za6 a).length + (za6 s).length) * 1 ≤ bound) = true := decide_eq_true (by rw [zfe, zfe]; show (a.length + s.length) * 1 ≤ 1099511627776; omega)
  have e2 : decide ((za6 a).length + (za6 s).length ≤ bound) = true := decide_eq_true (by rw [zfe, zfe]; show a.length + s.length ≤ 1099511627776; omega)
  simp only [zbe, zbh, bindO, zaa, hm, zpr, e1, e2, Bool.and_self, zae, zc3, zkg]
def bdO (id : Nat) (a : List UInt8) : List Cell := [⟨false, .ptr id 0⟩, ⟨true, .list k_11 (za6 a)⟩]
theorem tb : (t_6 == t_6) = true := by simp
theorem zhlb (n id : Nat) (a : List UInt8) (σ : Store) (ht : aget σ.tys id = some ⟨t_6, 0⟩) (ho : aget σ.objs id = some (bdO id a)) : T (n + 1) n_54 [.ptr id 0] σ = some (.ret ⟨false, .tup []⟩, σ) := by
  rw [T_lib rfl]
  have h : Xs n_54 [.ptr id 0] σ = xCopy [.ptr id 0] σ := rfl
  rw [h]
  simp only [xCopy, ht, bindO, zaa, tb, zae, ho, bdO, beq_self_eq_true]
theorem zti (n id : Nat) (a s : List UInt8) (σ : Store) (h : a.length + s.length < 1000000000) (ht : aget σ.tys id = some ⟨t_6, 0⟩) (ho : aget σ.objs id = some (bdO id a)) :
    T (n + 2) n_98 [.ptr id 0, .str s] σ = some (.ret ⟨false, .tup [.int .i64 s.length, .niliface]⟩, setO σ id (bdO id (a ++ s))) := by
  have hc := zhlb n id a σ ht ho
  have ha := zzc a s h
  rw [T_fun (af := a_154) rfl rfl]
  simp only [bdO] at ho
  simp only [a_154, de0, de1, de2, szQ, szB, szL, sy0, sy1, sy2, sy3, sy4, sy5, zad, zaa, zac, zae, adel, zah, zag, zai, zaf, evalV, aget, aset, adel1, nth, AOp.kind, Nat.reduceAdd, Nat.reduceSub, Nat.reduceMul, Nat.reduceBEq, Nat.ble, bindO, Nat.reduceLeDiff, Int.reduceBEq, Int.reduceBNe, Int.reduceLE, Int.reduceLT, Int.reduceGE, Int.reduceGT, Int.reduceNeg, ks, lz, memE, memOp, hc, ho, ha, zce, zhy, D.one, D.ok, D.cells, setO, bdO]
theorem zicb (n id : Nat) (a : List UInt8) (hne : a ≠ []) (σ : Store) (ht : aget σ.tys id = some ⟨t_6, 0⟩) (ho : aget σ.objs id = some (bdO id a)) :
    T (n + 1) n_65 [.ptr id 0] σ = some (.ret ⟨false, .str a⟩, setO σ id [⟨false, .ptr id 0⟩, ⟨false, .list k_11 (za6 a)⟩]) := by
  rw [T_lib rfl]
  have h : Xs n_65 [.ptr id 0] σ = zji [.ptr id 0] σ := rfl
  rw [h]
  have hb : zk7 k_11 = true := rfl
  have he : (za6 a).isEmpty = false := by cases a with
    | nil => exact absurd rfl hne
    | cons x r => rfl
  simp only [zji, ht, bindO, zaa, tb, zae, ho, bdO, hb, he, Bool.not_false, Bool.and_self, zps, setO]
theorem zhqb (n id k : Nat) (hk : 0 < k) (hk2 : k < 1000000000) (σ : Store) (ht : aget σ.tys id = some ⟨t_6, 0⟩) (ho : aget σ.objs id = some [⟨false, .nilp⟩, ⟨false, .nils⟩]) :
    T (n + 1) n_97 [.ptr id 0, .int .i64 (k : Int)] σ = some (.ret ⟨false, .tup []⟩, setO σ id (bdO id [])) := by
  rw [T_lib rfl]
  have h : Xs n_97 [.ptr id 0, .int .i64 (k : Int)] σ = xGrow [.ptr id 0, .int .i64 (k : Int)] σ := rfl
  rw [h]
  have d1 : decide (0 < k) = true := decide_eq_true hk
  have d2 : decide (k ≤ 1099511627776) = true := decide_eq_true (by omega)
  have hc : ((k : Nat) : Int) = Int.ofNat k := rfl
  rw [hc]
  simp only [xGrow, ht, bindO, zaa, tb, d1, d2, Bool.and_self, zae, ho, setO, bdO, za6]
def joinS (sep : List UInt8) : List (List UInt8) → List UInt8
  | [] => []
  | s :: r => s ++ r.flatMap fun x => sep ++ x
theorem zxt (sep : List UInt8) (s : List UInt8) (r : List (List UInt8)) (i : Nat) (h : i < r.length) : joinS sep (s :: r.take (i + 1)) = joinS sep (s :: r.take i) ++ sep ++ r[i] := by
  rw [← za8 r i h]
  simp only [joinS, List.flatMap_append, List.flatMap_cons, List.flatMap_nil, List.append_nil, List.append_assoc]
section
variable {C : CallF} {n : Nat}
def EJ0 (l : List (List UInt8)) (sep : List UInt8) (k i : Nat) : Env := { slots := [(0, ⟨false, dSs l⟩), (1, ⟨false, .str sep⟩), (5, ⟨false, .int .i64 k⟩), (39, ⟨false, dSs l⟩), (40, ⟨false, .int .i64 l.length⟩), (41, ⟨false, .int .i64 i⟩)], locs := [], boxes := [], defers := [] }
theorem zdab (l : List (List UInt8)) (sep : List UInt8) (k i : Nat) (σ : Store) (hi : i < l.length) (hl : l.length < 1000) (hk : k + l[i].length < 1000000000) : exec C n a_89 (EJ0 l sep k i) σ = some (.normal, EJ0 l sep (k + l[i].length) (i + 1), σ) := by
  have h1 : ((i : Int) < (l.length : Int)) := by omega
  have hx : zav 1 (dSs l) i = some (.eptr (.str l[i])) := idx_S l i hi
  have w1 := zam (i := i) (by omega)
  have w2 : IntKind.i64.wrap (9223372036854775807 - (k : Int)) = 9223372036854775807 - (k : Int) := zbc (by omega) (by omega)
  have h2 : ¬ ((l[i].length : Int) > 9223372036854775807 - (k : Int)) := by omega
  have w3 : IntKind.i64.wrap ((k : Int) + (l[i].length : Int)) = ((k + l[i].length : Nat) : Int) := by rw [zbc (by omega) (by omega)]; omega
  simp only [a_89, EJ0, de0, de1, de2, szQ, szB, szL, sy0, sy1, sy2, sy3, sy4, sy5, zad, zaa, zac, zae, adel, zah, zag, zai, zaf, evalV, aget, aset, adel1, nth, AOp.kind, Nat.reduceAdd, Nat.reduceSub, Nat.reduceMul, Nat.reduceBEq, Nat.ble, bindO, Nat.reduceLeDiff, Int.reduceBEq, Int.reduceBNe, Int.reduceLE, Int.reduceLT, Int.reduceGE, Int.reduceGT, Int.reduceNeg, ks, lz, h1, hx, w1, w2, h2, w3]
theorem zf4b (l : List (List UInt8)) (sep : List UInt8) (k : Nat) (σ : Store) : exec C n a_89 (EJ0 l sep k l.length) σ = some (.exit 1, { EJ0 l sep k l.length with slots := [(0, ⟨false, dSs l⟩), (1, ⟨false, .str sep⟩), (5, ⟨false, .int .i64 k⟩), (39, ⟨false, dSs l⟩), (40, ⟨false, .int .i64 l.length⟩), (41, ⟨false, .int .i64 l.length⟩), (42, ⟨false, .bool false⟩)] }, σ) := by
  have hi : ¬ ((l.length : Int) < (l.length : Int)) := by omega
  simp only [a_89, EJ0, de0, de1, de2, szQ, szB, szL, sy0, sy1, sy2, sy3, sy4, sy5, zad, zaa, zac, zae, adel, zah, zag, zai, zaf, evalV, aget, aset, adel1, nth, AOp.kind, Nat.reduceAdd, Nat.reduceSub, Nat.reduceMul, Nat.reduceBEq, Nat.ble, bindO, Nat.reduceLeDiff, Int.reduceBEq, Int.reduceBNe, Int.reduceLE, Int.reduceLT, Int.reduceGE, Int.reduceGT, Int.reduceNeg, ks, hi]
def EJ1 (sep : List UInt8) (id : Nat) (r : List (List UInt8)) (i : Nat) : Env := { slots := [(1, ⟨false, .str sep⟩), (8, ⟨false, .ptr id 0⟩), (63, ⟨false, dSs r⟩), (64, ⟨false, .int .i64 r.length⟩), (65, ⟨false, .int .i64 i⟩)], locs := [], boxes := [], defers := [] }
theorem zdbb (sep : List UInt8) (id : Nat) (r : List (List UInt8)) (i : Nat) (σ σ1 σ2 : Store) (hi : i < r.length) (hl : r.length < 1000) (x y : D) (h1 : C n_98 [.ptr id 0, .str sep] σ = some (.ret ⟨false, x⟩, σ1)) (h2 : C n_98 [.ptr id 0, .str r[i]] σ1 = some (.ret ⟨false, y⟩, σ2)) :
    exec C n a_90 (EJ1 sep id r i) σ = some (.normal, EJ1 sep id r (i + 1), σ2) := by
  have hi' : ((i : Int) < (r.length : Int)) := by omega
  have hx : zav 1 (dSs r) i = some (.eptr (.str r[i])) := idx_S r i hi
  have w1 := zam (i := i) (by omega)
  simp only [a_90, EJ1, de0, de1, de2, szQ, szB, szL, sy0, sy1, sy2, sy3, sy4, sy5, zad, zaa, zac, zae, adel, zah, zag, zai, zaf, evalV, aget, aset, adel1, nth, AOp.kind, Nat.reduceAdd, Nat.reduceSub, Nat.reduceMul, Nat.reduceBEq, Nat.ble, bindO, Nat.reduceLeDiff, Int.reduceBEq, Int.reduceBNe, Int.reduceLE, Int.reduceLT, Int.reduceGE, Int.reduceGT, Int.reduceNeg, ks, lz, hi', hx, w1, h1, h2]
theorem zf5b (sep : List UInt8) (id : Nat) (r : List (List UInt8)) (σ : Store) : exec C n a_90 (EJ1 sep id r r.length) σ = some (.exit 3, { EJ1 sep id r r.length with slots := [(1, ⟨false, .str sep⟩), (8, ⟨false, .ptr id 0⟩), (63, ⟨false, dSs r⟩), (64, ⟨false, .int .i64 r.length⟩), (65, ⟨false, .int .i64 r.length⟩), (66, ⟨false, .bool false⟩)] }, σ) := by
  have hi : ¬ ((r.length : Int) < (r.length : Int)) := by omega
  simp only [a_90, EJ1, de0, de1, de2, szQ, szB, szL, sy0, sy1, sy2, sy3, sy4, sy5, zad, zaa, zac, zae, adel, zah, zag, zai, zaf, evalV, aget, aset, adel1, nth, AOp.kind, Nat.reduceAdd, Nat.reduceSub, Nat.reduceMul, Nat.reduceBEq, Nat.ble, bindO, Nat.reduceLeDiff, Int.reduceBEq, Int.reduceBNe, Int.reduceLE, Int.reduceLT, Int.reduceGE, Int.reduceGT, Int.reduceNeg, ks, hi]
end
end Go.Fu
namespace Go.Fu
open Go Go.Mx
set_option maxRecDepth 10000
def zbl (l : List (List UInt8)) : Nat := (l.map List.length).sum
theorem zmf (l : List (List UInt8)) (i : Nat) (h : i < l.length) : zbl (l.take (i + 1)) = zbl (l.take i) + l[i].length := by
  rw [← za8 l i h]
  simp only [zbl, List.map_append, List.map_cons, List.map_nil, List.sum_append, List.sum_cons, List.sum_nil, Nat.add_zero]
theorem zla (l : List (List UInt8)) (i : Nat) : zbl (l.take i) ≤ zbl l := by
  have : zbl l = zbl (l.take i) + zbl (l.drop i) := by
    unfold zbl
    rw [← List.sum_append, ← List.map_append, List.take_append_drop]
  omega
theorem zm9 (sep s : List UInt8) (r : List (List UInt8)) : (joinS sep (s :: r)).length = s.length + zbl r + sep.length * r.length := by
  unfold joinS
  rw [List.length_append]
  have : ∀ r : List (List UInt8), (r.flatMap fun x => sep ++ x).length = zbl r + sep.length * r.length := by
    intro r
    induction r with
    | nil => rfl
    | cons x r ih =>
      simp only [List.flatMap_cons, List.length_append, ih, zbl, List.map_cons, List.sum_cons, List.length_cons, Nat.mul_succ]
      omega
  rw [this]
  omega
theorem zcub (m : Nat) (s : List UInt8) (r : List (List UInt8)) (hr : r ≠ []) (hl : r.length < 900) (hm : r.length + 8 ≤ m) (hs : zbl (s :: r) < 100000000) (σ : Store) (hw : WF σ) :
    ∃ σ', T (m + 3) n_185 [dSs (s :: r), .str [44, 32]] σ = some (.ret ⟨false, .str (joinS [44, 32] (s :: r))⟩, σ') ∧ Ext σ σ' := by
  have hrl : 0 < r.length := by cases r with
    | nil => exact absurd rfl hr
    | cons a b => simp
  have hsz : zbl (s :: r) = s.length + zbl r := rfl
  have hjl := zm9 [44, 32] s r
  simp only [List.length_cons, List.length_nil, Nat.zero_add, Nat.reduceAdd] at hjl
  -- the sizes
  obtain ⟨⟨x0, e0, σ0⟩, hl0, hx1, hx2, hx3⟩ := zbw (body := exec (T (m + 2)) (m + 2) a_89) (fun i e σ' => e = EJ0 (s :: r) [44, 32] (2 * r.length + zbl ((s :: r).take i)) i ∧ σ' = σ)
    (fun x => x.1 = .exit 1 ∧ x.2.1 = { EJ0 (s :: r) [44, 32] (2 * r.length + zbl (s :: r)) (s :: r).length with slots := [(0, ⟨false, dSs (s :: r)⟩), (1, ⟨false, .str [44, 32]⟩), (5, ⟨false, .int .i64 (2 * r.length + zbl (s :: r) : Nat)⟩), (39, ⟨false, dSs (s :: r)⟩), (40, ⟨false, .int .i64 (s :: r).length⟩), (41, ⟨false, .int .i64 (s :: r).length⟩), (42, ⟨false, .bool false⟩)] } ∧ x.2.2 = σ) (s :: r).length
    (fun i e σ' hi hp => by
      obtain ⟨rfl, rfl⟩ := hp
      have h1 := zmf (s :: r) i hi
      have h2 := zla (s :: r) (i + 1)
      have h3 := zdab (C := T (m + 2)) (n := m + 2) (s :: r) [44, 32] (2 * r.length + zbl ((s :: r).take i)) i σ' hi (by simp; omega) (by omega)
      refine ⟨_, _, h3, ?_, rfl⟩
      rw [h1, Nat.add_assoc])
    (fun e σ' hp => by
      obtain ⟨rfl, rfl⟩ := hp
      rw [List.take_length]
      exact ⟨_, zf4b (s :: r) [44, 32] _ σ', fun _ _ h => (by cases h), rfl, rfl, rfl⟩) 0 (m + 2) (EJ0 (s :: r) [44, 32] (2 * r.length) 0) σ (by omega) (by simp only [List.length_cons]; omega) ⟨rfl, rfl⟩
  simp only at hx1 hx2 hx3
  subst hx1 hx2 hx3
  -- the builder
  have hxb := zlw hw [⟨false, .nilp⟩, ⟨false, .nils⟩] ⟨t_6, 0⟩
  have ht0 : aget ((σ0.next, (⟨t_6, 0⟩ : Ty)) :: σ0.tys) σ0.next = some ⟨t_6, 0⟩ := by simp [aget, ifB]
  have hg := zhqb (m + 1) σ0.next (2 * r.length + zbl (s :: r)) (by omega) (by omega) { objs := (σ0.next, [⟨false, .nilp⟩, ⟨false, .nils⟩]) :: σ0.objs, tys := (σ0.next, ⟨t_6, 0⟩) :: σ0.tys, oth := σ0.oth, next := σ0.next + 1 } ht0 (by simp [aget, ifB])
  have hw1 := zti m σ0.next [] s (setO { objs := (σ0.next, [⟨false, .nilp⟩, ⟨false, .nils⟩]) :: σ0.objs, tys := (σ0.next, ⟨t_6, 0⟩) :: σ0.tys, oth := σ0.oth, next := σ0.next + 1 } σ0.next (bdO σ0.next [])) (by simp only [List.length_nil]; omega) ht0 (by rw [zbv, if_pos rfl])
  have hbase : ∃ σb, σb = setO (setO { objs := (σ0.next, [⟨false, .nilp⟩, ⟨false, .nils⟩]) :: σ0.objs, tys := (σ0.next, ⟨t_6, 0⟩) :: σ0.tys, oth := σ0.oth, next := σ0.next + 1 } σ0.next (bdO σ0.next [])) σ0.next (bdO σ0.next ([] ++ s)) := ⟨_, rfl⟩
  obtain ⟨σb, hσb⟩ := hbase
  rw [← hσb] at hw1
  have hb1 : SameB σ0.next { objs := (σ0.next, [⟨false, .nilp⟩, ⟨false, .nils⟩]) :: σ0.objs, tys := (σ0.next, ⟨t_6, 0⟩) :: σ0.tys, oth := σ0.oth, next := σ0.next + 1 } σb := by
    rw [hσb]
    have h1 := zds (id := σ0.next) hxb.wf (bdO σ0.next []) (by simp)
    exact h1.trans (zds h1.wf _ (by rw [h1.next]; simp))
  have hob : aget σb.objs σ0.next = some (bdO σ0.next s) := by rw [hσb, zbv, if_pos rfl]; rfl
  -- the others
  obtain ⟨⟨x1, e1, σ1⟩, hl1, hy1, hy2, hy3, hy4⟩ := zbw (body := exec (T (m + 2)) (m + 2) a_90) (fun i e σ' => e = EJ1 [44, 32] σ0.next r i ∧ SameB σ0.next { objs := (σ0.next, [⟨false, .nilp⟩, ⟨false, .nils⟩]) :: σ0.objs, tys := (σ0.next, ⟨t_6, 0⟩) :: σ0.tys, oth := σ0.oth, next := σ0.next + 1 } σ' ∧ aget σ'.objs σ0.next = some (bdO σ0.next (joinS [44, 32] (s :: r.take i))))
    (fun x => x.1 = .exit 3 ∧ x.2.1 = { EJ1 [44, 32] σ0.next r r.length with slots := [(1, ⟨false, .str [44, 32]⟩), (8, ⟨false, .ptr σ0.next 0⟩), (63, ⟨false, dSs r⟩), (64, ⟨false, .int .i64 r.length⟩), (65, ⟨false, .int .i64 r.length⟩), (66, ⟨false, .bool false⟩)] } ∧ SameB σ0.next { objs := (σ0.next, [⟨false, .nilp⟩, ⟨false, .nils⟩]) :: σ0.objs, tys := (σ0.next, ⟨t_6, 0⟩) :: σ0.tys, oth := σ0.oth, next := σ0.next + 1 } x.2.2 ∧ aget x.2.2.objs σ0.next = some (bdO σ0.next (joinS [44, 32] (s :: r)))) r.length
    (fun i e σ' hi hp => by
      obtain ⟨rfl, hx, ho⟩ := hp
      have hty : aget σ'.tys σ0.next = some ⟨t_6, 0⟩ := by rw [hx.tys]; exact ht0
      have hlt : σ0.next < σ'.next := by rw [hx.next]; simp
      have hjt := zm9 [44, 32] s (r.take i)
      have hle := zla r i
      have hle1 := zla r (i + 1)
      have hlt1 := zmf r i hi
      have htl : (r.take i).length = i := by rw [List.length_take]; omega
      simp only [List.length_cons, List.length_nil, Nat.zero_add, Nat.reduceAdd, htl] at hjt
      have g1 := zti m σ0.next _ [44, 32] σ' (by simp only [List.length_cons, List.length_nil]; omega) hty ho
      have h1 := zds (id := σ0.next) hx.wf (bdO σ0.next (joinS [44, 32] (s :: r.take i) ++ [44, 32])) hlt
      have hty2 : aget (setO σ' σ0.next (bdO σ0.next (joinS [44, 32] (s :: r.take i) ++ [44, 32]))).tys σ0.next = some ⟨t_6, 0⟩ := hty
      have g2 := zti m σ0.next (joinS [44, 32] (s :: r.take i) ++ [44, 32]) r[i] (setO σ' σ0.next (bdO σ0.next (joinS [44, 32] (s :: r.take i) ++ [44, 32]))) (by simp only [List.length_append, List.length_cons, List.length_nil]; omega) hty2 (by rw [zbv, if_pos rfl])
      refine ⟨_, _, zdbb [44, 32] σ0.next r i σ' _ _ hi (by omega) _ _ g1 g2, rfl, hx.trans (h1.trans (zds h1.wf _ (by rw [h1.next]; exact hlt))), ?_⟩
      rw [zbv, if_pos rfl, zxt [44, 32] s r i hi])
    (fun e σ' hp => by
      obtain ⟨rfl, hx, ho⟩ := hp
      rw [List.take_length] at ho
      exact ⟨_, zf5b [44, 32] σ0.next r σ', fun _ _ h => (by cases h), rfl, rfl, hx, ho⟩) 0 (m + 2) (EJ1 [44, 32] σ0.next r 0) σb (by omega) (by omega) ⟨rfl, hb1, by rw [hob]; simp [joinS]⟩
  simp only at hy1 hy2 hy3 hy4
  subst hy1 hy2
  have hst := zicb (m + 1) σ0.next (joinS [44, 32] (s :: r)) (by
    intro he
    have := congrArg List.length he
    rw [hjl, List.length_nil] at this
    omega) σ1 (by rw [hy3.tys]; exact ht0) hy4
  have hfin := zds (id := σ0.next) hy3.wf [⟨false, .ptr σ0.next 0⟩, ⟨false, .list k_11 (za6 (joinS [44, 32] (s :: r)))⟩] (by rw [hy3.next]; show σ0.next < σ0.next + 1; omega)
  refine ⟨setO σ1 σ0.next [⟨false, .ptr σ0.next 0⟩, ⟨false, .list k_11 (za6 (joinS [44, 32] (s :: r)))⟩], ?_, ?_⟩
  rotate_left
  · have hall := hy3.trans hfin
    exact ⟨hall.wf, by rw [hall.next]; show σ0.next ≤ σ0.next + 1; omega, fun i hi => (hall.objs i (by omega)).trans (hxb.objs i hi), fun i hi => by rw [hall.tys]; exact hxb.tys i hi, by rw [hall.oth]⟩
  · have hln : lenOf (dSs (s :: r)) = some (r.length + 1) := by simp only [dSs, zax, List.length_map, List.length_cons]
    have c0 : (((r.length + 1 : Nat) : Int) == 0) = false := beq_false_of_ne (by omega)
    have c1 : (((r.length + 1 : Nat) : Int) == 1) = false := beq_false_of_ne (by omega)
    have w1 : IntKind.i64.wrap (((r.length + 1 : Nat) : Int) - 1) = (r.length : Int) := by rw [zbc (by omega) (by omega)]; omega
    have hq1 : (9223372036854775807 : Int).tdiv (r.length : Int) = ((9223372036854775807 / r.length : Nat) : Int) := by
      rw [Int.tdiv_eq_ediv_of_nonneg (by omega)]
      rfl
    have hq2 : 1000000000 ≤ 9223372036854775807 / r.length := by
      rw [Nat.le_div_iff_mul_le hrl]
      have : 1000000000 * r.length ≤ 1000000000 * 900 := Nat.mul_le_mul_left _ (by omega)
      omega
    have hq3 : 9223372036854775807 / r.length ≤ 9223372036854775807 := Nat.div_le_self _ _
    have w2 : IntKind.i64.wrap ((9223372036854775807 : Int).tdiv (r.length : Int)) = ((9223372036854775807 / r.length : Nat) : Int) := by
      rw [hq1]
      generalize 9223372036854775807 / r.length = q at hq2 hq3
      exact zbc (by omega) (by omega)
    have hge : ¬ ((2 : Int) ≥ ((9223372036854775807 / r.length : Nat) : Int)) := by
      generalize 9223372036854775807 / r.length = q at hq2 hq3
      omega
    have w3 : IntKind.i64.wrap (2 * (r.length : Int)) = ((2 * r.length : Nat) : Int) := by rw [zbc (by omega) (by omega)]; omega
    have w4 : IntKind.i64.wrap (0 + ((2 * r.length : Nat) : Int)) = ((2 * r.length : Nat) : Int) := by rw [zbc (by omega) (by omega)]; omega
    have hne0 : ((r.length : Int) == 0) = false := beq_false_of_ne (by omega)
    have hx0 : zav 1 (dSs (s :: r)) 0 = some (.eptr (.str s)) := rfl
    have hsl : zbd 1 (dSs (s :: r)) 1 none = some (dSs r) := by
      have hd : dSs r = .list k_0 (r.map D.str) := by
        cases r with
        | nil => exact absurd rfl hr
        | cons a b => rfl
      rw [hd]
      simp only [dSs, dlist, List.map_cons, zbd, List.length_cons, List.length_map, Option.getD_none, k_60, List.drop_succ_cons, List.drop_zero]
      simp [ifB, dlist, List.take_of_length_le]
    have hlr : lenOf (dSs r) = some r.length := by simp only [dSs, zax, List.length_map]
    simp only [EJ0, List.length_cons, zeroI] at hl0
    simp only [EJ1, zeroI] at hl1
    rw [hσb] at hl1
    rw [hσb] at hw1
    simp only [setO, List.nil_append, aset, beq_self_eq_true, zae] at hg hw1 hst hl1
    rw [T_fun (af := a_155) rfl rfl]
    simp only [a_155, de0, de1, de2, szQ, szB, szL, sy0, sy1, sy2, sy3, sy4, sy5, zad, zaa, zac, zae, adel, zah, zag, zai, zaf, evalV, aget, aset, adel1, nth, AOp.kind, Nat.reduceAdd, Nat.reduceSub, Nat.reduceMul, Nat.reduceBEq, Nat.ble, bindO, Nat.reduceLeDiff, Int.reduceBEq, Int.reduceBNe, Int.reduceLE, Int.reduceLT, Int.reduceGE, Int.reduceGT, Int.reduceNeg, ks, lz, memE, memOp, hln, c0, c1, w1, w2, w3, w4, hge, hne0, hl0, hg, hx0, hw1, hsl, hlr, hl1, hst, setO]
end Go.Fu

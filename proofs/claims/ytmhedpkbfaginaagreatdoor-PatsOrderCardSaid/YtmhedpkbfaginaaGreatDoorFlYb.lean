/-
  A pattern's type becomes one of the five, or a list of a new one.
-/
import Derived.Test.YtmhedpkbfaginaaGreatDoorFlZb
set_option maxHeartbeats 4000000
set_option linter.unusedSimpArgs false
set_option linter.unusedVariables false
set_option linter.unusedSectionVars false
namespace Go.Fu
open Go Go.Mx
set_option maxRecDepth 10000
theorem one_con {K : Kn} {hh : Nat} {a : Ty} {s s' : Tx} (ha : lookF 6 K a = some (tCon s)) : ∃ r, OneK 6 (hh + 1) K a (tCon s') r K ∧ (s = s' → r = 0) ∧ (s ≠ s' → r ≠ 0) := by
  have lf : lookF 6 K (tCon s') = some (tCon s') := lookF_own (d := 5) (by show (3 : Int) ≠ 1; omega)
  by_cases h : s = s'
  · subst h
    exact ⟨0, one_same ha lf rfl rfl, fun _ => rfl, fun e => absurd rfl e⟩
  · exact ⟨31, .name ha lf (by show (3 : Int) ≠ 1; omega) (by show (3 : Int) ≠ 1; omega) rfl (by show (3 : Int) ≠ 5; omega) h, fun e => absurd e h, fun _ => by omega⟩
theorem one_form {K : Kn} {hh : Nat} {a b u v : Ty} (ha : lookF 6 K a = some u) (hb : lookF 6 K b = some v) (h1 : u.f ≠ 1) (h2 : v.f ≠ 1) (h3 : u.f ≠ v.f) : OneK 6 (hh + 1) K a b 31 K := .form ha hb h1 h2 h3
theorem look_root {K : Kn} {x : Ty} (h : kno 1 K = some x) (hx : x.f ≠ 1) : lookF 6 K (tMeta 1) = some x := (lookF_meta (d := 5) h).trans (lookF_own (d := 4) hx)
theorem StK.first {K : Kn} (h : StK K 1 .un) {t : Nat} (ht : t < 5) : StK (K ++ [(1, wt t)]) 1 (infT t) := by
  have hk : kno 1 K = none := h.root.1
  have hn := kno_new (t := wt t) hk
  refine ⟨keys_put (k := 1) h.keys (Nat.le_refl _) (Nat.le_refl _) (Nat.le_refl _), Nat.le_refl _, ?_, fun k h1 h2 => absurd h1 (by omega)⟩
  match t, ht with
  | 0, _ => exact hn
  | 1, _ => exact hn
  | 2, _ => exact ⟨⟨elT 1, hn, EK.con (by omega) (by omega)⟩, fun e => absurd e (by omega)⟩
  | 3, _ => exact hn
  | 4, _ => exact ⟨⟨elT 2, hn, EK.con (by omega) (by omega)⟩, fun e => absurd e (by omega)⟩
theorem within_wt {K : Kn} (t : Nat) (ht : t < 5) (k : Int) : withinF 6 K k (wt t) = some false := by
  have c : ∀ s : Tx, withinF 6 K k (tCon s) = some false := fun s => within_flat (d := 5) (lookF_own (d := 5) (by show (3 : Int) ≠ 1; omega)) (fun e => absurd e.1 (by show (3 : Int) ≠ 1; omega)) rfl
  have l : ∀ s : Tx, withinF 6 K k (tL (tCon s)) = some false := fun s => within_L (d := 4) (lookF_own (d := 4) (by show (3 : Int) ≠ 1; omega)) (fun e => absurd e.1 (by show (3 : Int) ≠ 1; omega)) rfl
  match t, ht with
  | 0, _ => exact c _
  | 1, _ => exact c _
  | 2, _ => exact l _
  | 3, _ => exact c _
  | 4, _ => exact l _
theorem wt_f {t : Nat} (ht : t < 5) : (wt t).f ≠ 1 := by
  match t, ht with
  | 0, _ => exact (by decide : (3 : Int) ≠ 1)
  | 1, _ => exact (by decide : (3 : Int) ≠ 1)
  | 2, _ => exact (by decide : (4 : Int) ≠ 1)
  | 3, _ => exact (by decide : (3 : Int) ≠ 1)
  | 4, _ => exact (by decide : (4 : Int) ≠ 1)
def JoinOk (K' : Kn) (n : Nat) (r : Int) : Option Inf → Prop
  | some j => r = 0 ∧ StK K' n j
  | none => r ≠ 0
theorem root_wt {K : Kn} {n : Nat} {i : Inf} (h : StK K n i) {t : Nat} (ht : t < 5) : ∃ r K', OneK 6 3 K (tMeta 1) (wt t) r K' ∧ JoinOk K' n r (join i (infT t)) := by
  have lf : lookF 6 K (wt t) = some (wt t) := lookF_own (d := 5) (wt_f ht)
  have conC : ∀ (s : Tx) (hs : kno 1 K = some (tCon s)) (s' : Tx), ∃ r, OneK 6 3 K (tMeta 1) (tCon s') r K ∧ (s = s' → r = 0) ∧ (s ≠ s' → r ≠ 0) := fun s hs s' => one_con (look_root hs (by show (3 : Int) ≠ 1; omega))
  have conL : ∀ (s : Tx) (hs : kno 1 K = some (tCon s)) (z : Ty), OneK 6 3 K (tMeta 1) (tL z) 31 K := fun s hs z => one_form (look_root hs (by show (3 : Int) ≠ 1; omega)) (lookF_own (d := 5) (by show (4 : Int) ≠ 1; omega)) (by show (3 : Int) ≠ 1; omega) (by show (4 : Int) ≠ 1; omega) (by show (3 : Int) ≠ 4; omega)
  have one : ∀ (s s' : Tx) (hs : kno 1 K = some (tCon s)) (j : Option Inf), (s = s' → ∃ i', j = some i' ∧ StK K n i') → (s ≠ s' → j = none) → ∃ r K', OneK 6 3 K (tMeta 1) (tCon s') r K' ∧ JoinOk K' n r j := by
    intro s s' hs j h1 h2
    obtain ⟨r, hr, e1, e2⟩ := conC s hs s'
    by_cases e : s = s'
    · obtain ⟨i', rfl, hi⟩ := h1 e
      exact ⟨r, K, hr, e1 e, hi⟩
    · rw [h2 e]
      exact ⟨r, K, hr, e2 e⟩
  cases i with
  | un =>
    have hn : n = 1 := h.root.2
    subst hn
    have h1 := h.first ht
    have e : join .un (infT t) = some (infT t) := rfl
    rw [e]
    refine ⟨0, _, .left (lookF_free (d := 5) h.root.1) lf rfl (.put (fun e => wt_f ht e.1) (fun e => wt_f ht e.1) (within_wt t ht _) h.root.1 h1.fit), rfl, h1⟩
  | int =>
    have hr := h.root
    match t, ht with
    | 0, _ => exact one _ _ hr _ (fun _ => ⟨.int, rfl, h⟩) (fun e => absurd rfl e)
    | 1, _ => exact one _ _ hr _ (fun e => absurd e (by decide)) (fun _ => rfl)
    | 2, _ => exact ⟨31, K, conL _ hr _, by show (31 : Int) ≠ 0; omega⟩
    | 3, _ => exact one _ _ hr _ (fun e => absurd e (by decide)) (fun _ => rfl)
    | 4, _ => exact ⟨31, K, conL _ hr _, by show (31 : Int) ≠ 0; omega⟩
  | bool =>
    have hr := h.root
    match t, ht with
    | 0, _ => exact one _ _ hr _ (fun e => absurd e (by decide)) (fun _ => rfl)
    | 1, _ => exact one _ _ hr _ (fun _ => ⟨.bool, rfl, h⟩) (fun e => absurd rfl e)
    | 2, _ => exact ⟨31, K, conL _ hr _, by show (31 : Int) ≠ 0; omega⟩
    | 3, _ => exact one _ _ hr _ (fun e => absurd e (by decide)) (fun _ => rfl)
    | 4, _ => exact ⟨31, K, conL _ hr _, by show (31 : Int) ≠ 0; omega⟩
  | tt =>
    have hr := h.root
    match t, ht with
    | 0, _ => exact one _ _ hr _ (fun e => absurd e (by decide)) (fun _ => rfl)
    | 1, _ => exact one _ _ hr _ (fun e => absurd e (by decide)) (fun _ => rfl)
    | 2, _ => exact ⟨31, K, conL _ hr _, by show (31 : Int) ≠ 0; omega⟩
    | 3, _ => exact one _ _ hr _ (fun _ => ⟨.tt, rfl, h⟩) (fun e => absurd rfl e)
    | 4, _ => exact ⟨31, K, conL _ hr _, by show (31 : Int) ≠ 0; omega⟩
  | li e =>
    obtain ⟨⟨z, hz, ez⟩, _⟩ := h.root
    have lr := look_root hz (by show (4 : Int) ≠ 1; omega)
    have lc : ∀ s : Tx, OneK 6 3 K (tMeta 1) (tCon s) 31 K := fun s => one_form lr (lookF_own (d := 5) (by show (3 : Int) ≠ 1; omega)) (by show (4 : Int) ≠ 1; omega) (by show (3 : Int) ≠ 1; omega) (by show (4 : Int) ≠ 3; omega)
    have ll : ∀ f, f ≠ 0 → f ≤ 2 → ∃ r K', OneK 6 3 K (tMeta 1) (tL (elT f)) r K' ∧ JoinOk K' n r ((joinE e f).map .li) := by
      intro f hf h2
      obtain ⟨r, K', h1, h3⟩ := el_con h ez hf h2 1
      refine ⟨r, K', one_lists lr h1, ?_⟩
      cases hj : joinE e f with
      | none =>
        rw [hj] at h3
        exact h3
      | some g =>
        rw [hj] at h3
        exact h3
    match t, ht with
    | 0, _ => exact ⟨31, K, lc _, by show (31 : Int) ≠ 0; omega⟩
    | 1, _ => exact ⟨31, K, lc _, by show (31 : Int) ≠ 0; omega⟩
    | 2, _ => exact ll 1 (by omega) (by omega)
    | 3, _ => exact ⟨31, K, lc _, by show (31 : Int) ≠ 0; omega⟩
    | 4, _ => exact ll 2 (by omega) (by omega)
theorem list_list {K : Kn} {n e : Nat} (h : StK K n (.li e)) {k : Nat} (h1 : 2 ≤ k) (h2 : k ≤ n) : ∃ K', OneK 6 3 K (tL (tMeta k)) (tL (tMeta ((n + 1 : Nat) : Int))) 0 K' ∧ StK K' (n + 1) (.li e) := by
  obtain ⟨e', he, ek⟩ := h.others k h1 h2
  cases he
  exact ⟨_, one_lists (lookF_own (d := 5) (by show (4 : Int) ≠ 1; omega)) (el_meta h ek 1), h.more ek.few⟩
theorem root_list {K : Kn} {n : Nat} {i : Inf} (h : StK K n i) : ∃ r K', OneK 6 3 K (tMeta 1) (tL (tMeta ((n + 1 : Nat) : Int))) r K' ∧ JoinOk K' (n + 1) r (join i (.li 0)) := by
  have conL : ∀ (s : Tx) (hs : kno 1 K = some (tCon s)) (z : Ty), OneK 6 3 K (tMeta 1) (tL z) 31 K := fun s hs z => one_form (look_root hs (by show (3 : Int) ≠ 1; omega)) (lookF_own (d := 5) (by show (4 : Int) ≠ 1; omega)) (by show (3 : Int) ≠ 1; omega) (by show (4 : Int) ≠ 1; omega) (by show (3 : Int) ≠ 4; omega)
  cases i with
  | un =>
    have hn : n = 1 := h.root.2
    subst hn
    have hk : kno 1 K = none := h.root.1
    have hf : kno 2 K = none := h.fresh
    have hn := kno_new (t := tL (tMeta 2)) hk
    have hf2 : kno 2 (K ++ [(1, tL (tMeta 2))]) = none := kno_off hf (by omega)
    have ek : EK (K ++ [(1, tL (tMeta 2))]) 0 (tMeta 2) := ⟨by omega, fun _ => lookF_free (d := 1) hf2, fun e => absurd rfl e, .inl rfl⟩
    have hs : StK (K ++ [(1, tL (tMeta 2))]) 2 (.li 0) := ⟨keys_put (k := 1) h.keys (by omega) (by omega) (by omega), by omega, ⟨⟨tMeta 2, hn, ek⟩, fun _ => ⟨Nat.le_refl _, hf2⟩⟩, fun k h1 h2 => by
      have : k = 2 := by omega
      subst this
      exact ⟨0, rfl, ek⟩⟩
    refine ⟨0, _, .left (lookF_free (d := 5) hk) (lookF_own (d := 5) (by show (4 : Int) ≠ 1; omega)) rfl (.put (fun e => absurd e.1 (by show (4 : Int) ≠ 1; omega)) (fun e => absurd e.1 (by show (4 : Int) ≠ 1; omega)) (within_L (d := 4) (lookF_free (d := 4) hf) (fun e => absurd e.2 (by show (2 : Int) ≠ 1; omega)) rfl) hk hs.fit), rfl, hs⟩
  | int => exact ⟨31, K, conL _ h.root _, by show (31 : Int) ≠ 0; omega⟩
  | bool => exact ⟨31, K, conL _ h.root _, by show (31 : Int) ≠ 0; omega⟩
  | tt => exact ⟨31, K, conL _ h.root _, by show (31 : Int) ≠ 0; omega⟩
  | li e =>
    obtain ⟨⟨z, hz, ez⟩, _⟩ := h.root
    have lr := look_root hz (by show (4 : Int) ≠ 1; omega)
    have ej : join (.li e) (.li 0) = some (.li e) := by
      simp only [join, joinE]
      by_cases e0 : e = 0
      · subst e0; rfl
      · rw [if_neg e0]; rfl
    rw [ej]
    exact ⟨0, _, one_lists lr (el_meta h ez 1), rfl, h.more ez.few⟩
theorem same_con {K : Kn} {t : Nat} (ht : t = 0 ∨ t = 1 ∨ t = 3) : OneK 6 3 K (wt t) (wt t) 0 K := by
  rcases ht with rfl | rfl | rfl <;> exact one_same (lookF_own (d := 5) (by show (3 : Int) ≠ 1; omega)) (lookF_own (d := 5) (by show (3 : Int) ≠ 1; omega)) rfl rfl
end Go.Fu
namespace Go.Fu
open Go Go.Mx
set_option maxRecDepth 100000
set_option maxHeartbeats 1000000
structure Fx (σ σ' : Store) (X : Nat → Prop) (m : Nat) : Prop where
  le : σ.next ≤ σ'.next
  objs : ∀ j, j < σ.next → ¬ X j → aget σ'.objs j = aget σ.objs j
  oth : ∀ j, j < σ.next → j ≠ m → aget σ'.oth j = aget σ.oth j
  tys : ∀ j, j < σ.next → ¬ X j → aget σ'.tys j = aget σ.tys j
theorem Fx.refl (σ : Store) (X : Nat → Prop) (m : Nat) : Fx σ σ X m := ⟨Nat.le_refl _, fun _ _ _ => rfl, fun _ _ _ => rfl, fun _ _ _ => rfl⟩
theorem Fx.trans {a b c : Store} {X Y : Nat → Prop} {m : Nat} (h : Fx a b X m) (k : Fx b c Y m) (hY : ∀ j, j < a.next → Y j → X j) : Fx a c X m :=
  ⟨Nat.le_trans h.le k.le, fun j hj hx => (k.objs j (Nat.lt_of_lt_of_le hj h.le) fun y => hx (hY j hj y)).trans (h.objs j hj hx), fun j hj hm => (k.oth j (Nat.lt_of_lt_of_le hj h.le) hm).trans (h.oth j hj hm), fun j hj hx => (k.tys j (Nat.lt_of_lt_of_le hj h.le) fun y => hx (hY j hj y)).trans (h.tys j hj hx)⟩
theorem Fx.mono {a b : Store} {X Y : Nat → Prop} {m : Nat} (h : Fx a b X m) (hX : ∀ j, j < a.next → X j → Y j) : Fx a b Y m :=
  ⟨h.le, fun j hj hy => h.objs j hj fun x => hy (hX j hj x), h.oth, fun j hj hy => h.tys j hj fun x => hy (hX j hj x)⟩
theorem Fr.fx {a b : Store} (h : Fr a b) (X : Nat → Prop) (m : Nat) : Fx a b X m := ⟨h.le, fun j hj _ => h.objs j hj, fun j hj _ => h.oth j hj, fun j hj _ => h.tys j hj⟩
theorem Fp.fx {a b : Store} {p m : Nat} (h : Fp a b p m) : Fx a b (fun j => j = p) m := ⟨h.le, fun j hj hx => h.objs j hj hx, h.oth, fun j hj _ => h.tys j hj⟩
theorem fx_SO (σ : Store) (p : Nat) (cs : List Cell) (m : Nat) : Fx σ (SO σ p cs) (fun j => j = p) m :=
  ⟨Nat.le_refl _, fun j _ hx => agB _ _ _ (beq_false_of_ne fun e => hx e.symm) _, fun _ _ _ => rfl, fun _ _ _ => rfl⟩
def vid : D → Option Nat
  | .arr _ id _ _ => some id
  | _ => none
inductive VA (σ : Store) (c : Nat) : D → Prop
  | nil : VA σ c .nils
  | arr {id len : Nat} {cs : List Cell} (h1 : aget σ.objs id = some cs) (h2 : len * 5 ≤ cs.length) (h3 : aget σ.tys id = some ⟨k_4.el, k_4.sz⟩) (h4 : id < σ.next) (h5 : len ≤ c) : VA σ c (.arr k_4 id 0 len)
def LW : List Da := pre3 ++ worldM
structure MI (σ : Store) (pm pc mc ps m n : Nat) (K : Kn) (v : D) (c : Nat) : Prop where
  obj : aget σ.objs pm = some [⟨false, .ptr pc 0⟩, ⟨false, .ptr ps 0⟩, ⟨false, v⟩]
  lt : pm < σ.next
  sk : SK σ ps m n K
  pn : PN σ pc mc LW (conAts LW 0)
  ltc : mc < σ.next
  va : VA σ c v
  ne1 : pm ≠ ps
  ne2 : pm ≠ pc
  ne3 : ps ≠ pc
  ne4 : m ≠ mc
  nv : ∀ j, vid v = some j → j ≠ pm ∧ j ≠ ps ∧ j ≠ pc
theorem VA.fx {σ σ' : Store} {c : Nat} {v : D} {X : Nat → Prop} {m : Nat} (h : VA σ c v) (hf : Fx σ σ' X m) (hX : ∀ j, vid v = some j → ¬ X j) : VA σ' c v := by
  cases h with
  | nil => exact .nil
  | arr h1 h2 h3 h4 h5 => exact .arr ((hf.objs _ h4 (hX _ rfl)).trans h1) h2 ((hf.tys _ h4 (hX _ rfl)).trans h3) (Nat.lt_of_lt_of_le h4 hf.le) h5
theorem VA.lt {σ : Store} {c : Nat} {v : D} (h : VA σ c v) : ∀ j, vid v = some j → j < σ.next := by
  cases h with
  | nil => intro j h; cases h
  | arr h1 h2 h3 h4 h5 =>
    intro j h
    cases h
    exact h4
theorem VA.mono {σ : Store} {c d : Nat} {v : D} (h : VA σ c v) (hd : c ≤ d) : VA σ d v := by
  cases h with
  | nil => exact .nil
  | arr h1 h2 h3 h4 h5 => exact .arr h1 h2 h3 h4 (by omega)
theorem MI.fx {σ σ' : Store} {pm pc mc ps m n : Nat} {K : Kn} {v : D} {c : Nat} (h : MI σ pm pc mc ps m n K v c) {X : Nat → Prop} (hf : Fx σ σ' X m) (h1 : ¬ X pm) (h3 : ¬ X pc) (h4 : ∀ j, vid v = some j → ¬ X j) {n' : Nat} {K' : Kn} (hs : SK σ' ps m n' K') : MI σ' pm pc mc ps m n' K' v c :=
  ⟨(hf.objs _ h.lt h1).trans h.obj, Nat.lt_of_lt_of_le h.lt hf.le, hs, ⟨(hf.objs _ h.pn.lt h3).trans h.pn.obj, (hf.oth _ h.ltc (Ne.symm h.ne4)).trans h.pn.map, Nat.lt_of_lt_of_le h.pn.lt hf.le⟩, Nat.lt_of_lt_of_le h.ltc hf.le, h.va.fx hf h4, h.ne1, h.ne2, h.ne3, h.ne4, h.nv⟩
theorem SK.fx {σ σ' : Store} {p m n : Nat} {K : Kn} (h : SK σ p m n K) {X : Nat → Prop} {m' : Nat} (hf : Fx σ σ' X m') (h1 : ¬ X p) (h2 : m ≠ m') : SK σ' p m n K :=
  ⟨(hf.objs _ h.lt h1).trans h.obj, (hf.oth _ h.ltm h2).trans h.map, Nat.lt_of_lt_of_le h.lt hf.le, Nat.lt_of_lt_of_le h.ltm hf.le⟩
theorem MI.fr {σ σ' : Store} {pm pc mc ps m n : Nat} {K : Kn} {v : D} {c : Nat} (h : MI σ pm pc mc ps m n K v c) (hf : Fr σ σ') : MI σ' pm pc mc ps m n K v c :=
  h.fx (hf.fx (fun _ => False) m) (fun x => x) (fun x => x) (fun _ _ x => x) (SB.fr h.sk hf)
def XM (pm ps : Nat) (v : D) (j : Nat) : Prop := j = ps ∨ j = pm ∨ vid v = some j
def cP (x : Pt) (t : Ty) (kids types : D) : List Cell := [⟨false, .int .i64 x.form⟩, ⟨false, .int .i64 x.pos⟩, ⟨false, .int .i64 x.n⟩, ⟨false, .str x.name⟩, ⟨false, kids⟩, ⟨false, .int .i64 t.f⟩, ⟨false, .int .i64 t.n⟩, ⟨false, .str t.s⟩, ⟨false, dTl t.as_⟩, ⟨false, types⟩]
def MakeS (S : Specs) : Prop := UnifyS S ∧ has S n_50 = false ∧ has S n_48 = false ∧ has S n_49 = false ∧ has S n_17 = false ∧ has S n_18 = false ∧ has S n_24 = false ∧ has S n_38 = false ∧ has S n_105 = false ∧ aget S n_29 = some sp_Con ∧ aget S n_5 = some sp_psub ∧ aget S n_51 = some sp_pown
theorem wild_run {S : Specs} (hS : MakeS S) (pm q : Nat) (t : Ty) (n : Nat) (σ : Store) : T S (n + 1) n_50 [.ptr pm 0, .ptr q 0, dTy t] σ = some (.ret ⟨false, .int .i64 0⟩, σ) := by
  rw [T_fun (af := a_117) hS.2.1 rfl rfl]
  simp only [a_117, sA, Nat.reduceAdd, Nat.reduceSub, Nat.reduceMul, Nat.reduceBEq, Nat.reduceLeDiff, Int.reduceBEq, Int.reduceBNe, Int.reduceLE, Int.reduceLT, Int.reduceGE, Int.reduceGT, Int.reduceNeg, kn, onel, dTy_eq, cTy_eq]
theorem number_run {S : Specs} (hS : MakeS S) {σ : Store} {pm pc mc ps m n : Nat} {K : Kn} {v : D} {c : Nat} (h : MI σ pm pc mc ps m n K v c) (q : Nat) (t : Ty) (ht : Fine t) (hK : FineK K) {r : Int} {K' : Kn} (hO : OneK 6 3 K t (wt 0) r K') : FineK K' ∧ ∃ σ', Fx σ σ' (XM pm ps v) m ∧ (r = 0 → MI σ' pm pc mc ps m n K' v c) ∧ ∃ N, ∀ n, N ≤ n → T S n n_49 [.ptr pm 0, .ptr q 0, dTy t] σ = some (.ret ⟨false, .int .i64 r⟩, σ') := by
  obtain ⟨hK2, σ', f, hs, N, hN⟩ := unify_run hS.1 hO hK ht (fine_con _) σ h.sk
  refine ⟨hK2, σ', f.fx.mono fun j _ e => .inl e, fun hr => h.fx f.fx h.ne1 (Ne.symm h.ne3) (fun j hj => (h.nv j hj).2.1) (hs hr), N + 2, fun n hn => ?_⟩
  obtain ⟨n, rfl⟩ : ∃ k, n = k + 2 := ⟨n - 2, by omega⟩
  have hN := hN (n + 1) (by omega)
  have hc := call_Con hS.2.2.2.2.2.2.2.2.2.1 [73, 110, 116] n σ
  have ho := h.obj
  have e0 : wt 0 = tCon [73, 110, 116] := rfl
  rw [e0] at hN
  rw [T_fun (af := a_116) hS.2.2.2.1 rfl rfl]
  generalize tCon [73, 110, 116] = z at *
  simp only [dTy_eq, cTy_eq] at hN hc
  simp only [a_116, sA, Nat.reduceAdd, Nat.reduceSub, Nat.reduceMul, Nat.reduceBEq, Nat.reduceLeDiff, Int.reduceBEq, Int.reduceBNe, Int.reduceLE, Int.reduceLT, Int.reduceGE, Int.reduceGT, Int.reduceNeg, kn, onel, dTy_eq, cTy_eq, ho, hc, hN]
theorem mStoreP {σ : Store} {k : Nat} {x y : AOpd} {e : Env} : memOp (.storeP k x y) e σ = bindO (addr e x) fun p => bindO (opd e y) fun c => match p with
    | .ptr id off => bindO (aget σ.objs id) fun cs => ifB (fits ⟨false, c.d⟩ k off cs) (some (.undef, SO σ id (putCells cs off (layCells ⟨false, c.d⟩)))) none
    | _ => none := rfl
theorem mAppA {σ : Store} {k : RowK} {by_ : Nat} {x y : AOpd} {e : Env} : memOp (.appendA k by_ x y) e σ = bindO (opd e x) fun c => bindO (opd e y) fun d => bindO (listOf σ.objs d.d) fun ys => appendAD σ k by_ c.d ys := rfl
theorem listOf_l {os : Objs} {k : RowK} {ds : List D} : listOf os (.list k ds) = some ds := rfl
theorem va_app {σ : Store} {c : Nat} {v : D} (h : VA σ c v) (hc : c < 1000) (d : D) (hd : d.ok = true) (hl : d.cells.length = 5) : ∃ σ1 len, appendAD σ k_4 72 v [d] = some (.arr k_4 σ.next 0 len, σ1) ∧ VA σ1 (c + 1) (.arr k_4 σ.next 0 len) ∧ ∀ m, Fx σ σ1 (fun j => vid v = some j) m := by
  have hall : allSize k_4.sz [d] = true := allSize_all fun d' h => by
    rw [List.mem_singleton.1 h]
    exact ⟨hd, hl⟩
  have hce : (cellsOf [d]).length = 5 := by simp only [cellsOf, List.append_nil, List.length_map, hl]
  cases h with
  | nil =>
    refine ⟨newArr σ k_4 (cellsOf [d]), 1, ?_, .arr (agS _ _ _) (by rw [hce]; omega) (agS _ _ _) (show σ.next < σ.next + 2 by omega) (by omega), fun _ => ⟨Nat.le_add_right _ _, fun j hj _ => agC _ _ _ _ (by omega), fun _ _ _ => rfl, fun j hj _ => agC _ _ _ _ (by omega)⟩⟩
    have e1 : decide (1 * 72 ≤ bound) = true := decide_eq_true (show 1 * 72 ≤ 1099511627776 by omega)
    have e2 : decide (1 ≤ bound) = true := decide_eq_true (show 1 ≤ 1099511627776 by omega)
    simp only [appendAD, hall, ifB_true, List.isEmpty_cons, ifB_false, e1, e2, Bool.and_self, List.length_cons, List.length_nil, Nat.zero_add]
  | @arr id len cs h1 h2 h3 h4 h5 =>
    have hnew : (cs.take (len * 5)).map (fun c => Cell.of c.d) ++ cellsOf [d] = (cs.take (len * k_4.sz)).map (fun c => Cell.of c.d) ++ cellsOf [d] := rfl
    refine ⟨newArr { σ with objs := adel1 σ.objs id } k_4 ((cs.take (len * k_4.sz)).map (fun c => Cell.of c.d) ++ cellsOf [d]), len + 1, ?_, .arr (agS _ _ _) ?_ (agS _ _ _) (show σ.next < σ.next + 2 by omega) (by omega), fun _ => ⟨Nat.le_add_right _ _, fun j hj hx => ?_, fun _ _ _ => rfl, fun j hj _ => agC _ _ _ _ (by show σ.next ≠ j; omega)⟩⟩
    · have ek : k_4.same k_4 = true := rfl
      have e0 : decide (len * k_4.sz ≤ cs.length) = true := decide_eq_true h2
      have e1 : decide ((len + ([d] : List D).length) * 72 ≤ bound) = true := decide_eq_true (show (len + 1) * 72 ≤ 1099511627776 by omega)
      have e2 : decide (len + ([d] : List D).length ≤ bound) = true := decide_eq_true (show len + 1 ≤ 1099511627776 by omega)
      simp only [appendAD, hall, ifB_true, h1, h3, bindO, caseO_some, ek, beq_self_eq_true, e0, e1, e2, Bool.and_self]
      rfl
    · rw [List.length_append, hce, List.length_map, List.length_take]
      show (len + 1) * 5 ≤ min (len * 5) cs.length + 5
      rw [Nat.min_eq_left h2]
      omega
    · refine (agC _ _ _ _ (by show σ.next ≠ j; omega)).trans (aget_adel id j ?_ _)
      intro e
      exact hx (by rw [← e]; rfl)
theorem name_run {S : Specs} (hS : MakeS S) {σ : Store} {pm pc mc ps m n : Nat} {K : Kn} {v : D} {c : Nat} (h : MI σ pm pc mc ps m n K v c) (hc : c < 1000) (q : Nat) (x : Pt) (t u : Ty) (kids types : D) (hx : aget σ.objs q = some (cP x u kids types)) : ∃ σ' v', Fx σ σ' (XM pm ps v) m ∧ MI σ' pm pc mc ps m n K v' (c + 1) ∧ (∀ j, vid v' = some j → σ.next ≤ j) ∧ ∀ n, T S (n + 1) n_48 [.ptr pm 0, .ptr q 0, dTy t] σ = some (.ret ⟨false, .int .i64 0⟩, σ') := by
  obtain ⟨σ1, len, ha, hv, f1⟩ := va_app h.va hc (.agg [.str x.name, .int .i64 t.f, .int .i64 t.n, .str t.s, dTl t.as_]) rfl rfl
  have hl1 : σ.next ≤ σ1.next := (f1 m).le
  have o1 : aget σ1.objs pm = some [⟨false, .ptr pc 0⟩, ⟨false, .ptr ps 0⟩, ⟨false, v⟩] := ((f1 m).objs _ h.lt fun e => (h.nv _ e).1 rfl).trans h.obj
  have hid : σ.next < σ1.next := hv.lt _ rfl
  obtain ⟨σ2, e2⟩ : ∃ σ2, σ2 = SO σ1 pm [⟨false, .ptr pc 0⟩, ⟨false, .ptr ps 0⟩, ⟨false, .arr k_4 σ.next 0 len⟩] := ⟨_, rfl⟩
  have f2 : ∀ m, Fx σ1 σ2 (fun j => j = pm) m := fun m => by rw [e2]; exact fx_SO _ _ _ _
  have fB : ∀ m, Fx σ σ2 (fun j => j = pm ∨ vid v = some j) m := fun m => ((f1 m).mono fun j _ e => .inr e).trans (f2 m) fun j _ e => .inl e
  have hpc := h.pn.lt
  have hps := h.sk.lt
  have hlt := h.lt
  have fA : Fx σ σ2 (XM pm ps v) m := (fB m).mono fun j _ e => .inr e
  have n1 : ¬ (ps = pm ∨ vid v = some ps) := by
    rintro (e | e)
    · exact h.ne1 e.symm
    · exact (h.nv _ e).2.1 rfl
  have n2 : ¬ (pc = pm ∨ vid v = some pc) := by
    rintro (e | e)
    · exact h.ne2 e.symm
    · exact (h.nv _ e).2.2 rfl
  refine ⟨σ2, .arr k_4 σ.next 0 len, fA, ⟨?_, Nat.lt_of_lt_of_le h.lt fA.le, h.sk.fx (fB (m + 1)) n1 (by omega), ⟨((fB (mc + 1)).objs _ h.pn.lt n2).trans h.pn.obj, ((fB (mc + 1)).oth _ h.ltc (by omega)).trans h.pn.map, Nat.lt_of_lt_of_le h.pn.lt fA.le⟩, Nat.lt_of_lt_of_le h.ltc fA.le, hv.fx (f2 m) ?_, h.ne1, h.ne2, h.ne3, h.ne4, ?_⟩, ?_, fun n => ?_⟩
  · rw [e2]
    exact agA _ _ _
  · intro j hj e
    cases hj
    omega
  · intro j hj
    cases hj
    exact ⟨by omega, by omega, by omega⟩
  · intro j hj
    cases hj
    exact Nat.le_refl _
  · have ho := h.obj
    have hva := h.va
    have hx' := hx
    simp only [cP] at hx'
    rw [T_fun (af := a_95) hS.2.2.1 rfl rfl]
    cases hva with
    | nil => simp only [a_95, sA, Nat.reduceAdd, Nat.reduceSub, Nat.reduceMul, Nat.reduceBEq, Nat.reduceLeDiff, Int.reduceBEq, Int.reduceBNe, Int.reduceLE, Int.reduceLT, Int.reduceGE, Int.reduceGT, Int.reduceNeg, kn, onel, dTy_eq, cTy_eq, ho, hx', memE, mAppA, mStoreP, listOf_l, ha, o1, ← e2]
    | arr _ _ _ _ _ => simp only [a_95, sA, Nat.reduceAdd, Nat.reduceSub, Nat.reduceMul, Nat.reduceBEq, Nat.reduceLeDiff, Int.reduceBEq, Int.reduceBNe, Int.reduceLE, Int.reduceLT, Int.reduceGE, Int.reduceGT, Int.reduceNeg, kn, onel, dTy_eq, cTy_eq, ho, hx', memE, mAppA, mStoreP, listOf_l, ha, o1, ← e2]
end Go.Fu
namespace Go.Fu
open Go Go.Mx
set_option maxRecDepth 100000
set_option maxHeartbeats 1000000
theorem fz_dl (n : Nat) (k : RowK) (l : List D) (os : Objs) : freezeD (n + 1) (dlist k l) os = some (dlist k l, os) := by
  cases l <;> rfl
theorem keeps_f (d : D) : Cell.keeps ⟨false, d⟩ = false := by cases d <;> rfl
theorem fz_dTy (n : Nat) (t : Ty) (os : Objs) : freezeD (n + 2) (dTy t) os = some (dTy t, os) := by
  have h : freezeD (n + 1) (dTl t.as_) os = some (dTl t.as_, os) := fz_dl n _ _ _
  have i1 : ∀ k (a : Int), freezeD (n + 1) (.int k a) os = some (.int k a, os) := fun _ _ => rfl
  have i2 : ∀ a, freezeD (n + 1) (.str a) os = some (.str a, os) := fun _ => rfl
  rw [dTy_eq, cTy]
  show (bindO (freezeL (freezeD (n + 1)) [.int .i64 t.f, .int .i64 t.n, .str t.s, dTl t.as_] os) fun r => some (D.agg r.1, r.2)) = _
  simp only [freezeL, i1, i2, h, bindO, caseO_some]
theorem fz_cP (x : Pt) (t : Ty) (l : List Pt) (ty ty' : D) (os os' : Objs) (h : freezeD 40 ty os = some (ty', os')) : freezeC (cP x t (dPl l) ty) os = some (cP x t (dPl l) ty', os') := by
  have h1 : freezeD 40 (dPl l) os = some (dPl l, os) := fz_dl 39 _ _ _
  have h2 : freezeD 40 (dTl t.as_) os = some (dTl t.as_, os) := fz_dl 39 _ _ _
  have i1 : ∀ k (a : Int), freezeD 40 (.int k a) os = some (.int k a, os) := fun _ _ => rfl
  have i2 : ∀ a, freezeD 40 (.str a) os = some (.str a, os) := fun _ => rfl
  simp only [cP, freezeC, i1, i2, h1, h2, h, bindO, caseO_some, keeps_f]
theorem el_one (u : Ty) : elems k_0 (cellsOf [dTy u]) 0 1 = [dTy u] := by
  rw [dTy_eq]
  rfl
theorem frz_none {σ : Store} {q : Nat} {x : Pt} {t : Ty} {l : List Pt} (h : aget σ.objs q = some (cP x t (dPl l) .nils)) {e : Env} {b : Bool} (he : aget e.slots 1 = some ⟨b, .ptr q 0⟩) : freezes [.obj 1] e σ = some (e, { σ with objs := aset (adel1 σ.objs q) q (cP x t (dPl l) .nils) }) := by
  have hf := fz_cP x t l .nils .nils (adel1 σ.objs q) (adel1 σ.objs q) rfl
  simp only [freezes, freeze1, he, bindO, caseO_some, h, hf]
theorem frz_one {σ : Store} {q id : Nat} {x : Pt} {t u : Ty} {l : List Pt} (h : aget σ.objs q = some (cP x t (dPl l) (.arr k_0 id 0 1))) (hi : aget σ.objs id = some (cellsOf [dTy u])) (hne : q ≠ id) {e : Env} {b : Bool} (he : aget e.slots 1 = some ⟨b, .ptr q 0⟩) : freezes [.obj 1] e σ = some (e, { σ with objs := aset (adel1 (adel1 σ.objs q) id) q (cP x t (dPl l) (dTl [u])) }) := by
  have hi2 : aget (adel1 σ.objs q) id = some (cellsOf [dTy u]) := (aget_adel q id hne _).trans hi
  have hc : ((k_0.ag || k_0.sz == 1) && decide ((0 + 1) * k_0.sz ≤ (cellsOf [dTy u]).length)) = true := by
    rw [dTy_eq]
    rfl
  have hz : freezeD 40 (.arr k_0 id 0 1) (adel1 σ.objs q) = some (dTl [u], adel1 (adel1 σ.objs q) id) := by
    rw [freezeD]
    simp only [hi2, bindO, caseO_some, hc, ifB_true, el_one, freezeL, fz_dTy]
    rfl
  have hf := fz_cP x t l _ _ _ _ hz
  simp only [freezes, freeze1, he, bindO, caseO_some, h, hf]
section
variable {C : CallF} {n : Nat} {σ : Store}
def Emc (pm q : Nat) (t : Ty) (d : Da) (len i : Nat) : Env := { slots := [(0, ⟨false, .ptr pm 0⟩), (1, ⟨false, .ptr q 0⟩), (45, ⟨false, .int .i64 len⟩), (46, ⟨false, .int .i64 i⟩)], locs := [(5, 5, 0), (7, 7, 0)], boxes := [(5, bT t), (7, bD d)], defers := [] }
theorem mc_end (pm q : Nat) (t : Ty) (d : Da) (len : Nat) : exec C n none a_69 (Emc pm q t d len len) σ = some (.exit 1, { Emc pm q t d len len with slots := [(0, ⟨false, .ptr pm 0⟩), (1, ⟨false, .ptr q 0⟩), (45, ⟨false, .int .i64 len⟩), (46, ⟨false, .int .i64 len⟩), (47, ⟨false, .bool false⟩)] }, σ) := by
  have hlt : ¬ ((len : Int) < len) := by omega
  simp only [a_69, Emc, sA, Nat.reduceAdd, Nat.reduceSub, Nat.reduceMul, Nat.reduceBEq, Nat.reduceLeDiff, Int.reduceBEq, Int.reduceBNe, Int.reduceLE, Int.reduceLT, Int.reduceGE, Int.reduceGT, Int.reduceNeg, kn, hlt]
end
def zTy4 : D := .agg [.int .i64 0, .int .i64 0, .str [], .nils]
theorem mStoreD {σ : Store} {b : Bool} {s k : Nat} {x y : AOpd} {e : Env} : memOp (.storeD b s k x y) e σ = bindO (addr e x) fun p => bindO (opd e y) fun c => bindO (aget e.slots s) fun z => bindO (idOf z.d) fun id' => match p with
    | .ptr id off => ifB ((id' == id) == b) (bindO (aget σ.objs id) fun cs => ifB (fits ⟨false, c.d⟩ k off cs) (some (.undef, SO σ id (putCells cs off (layCells ⟨false, c.d⟩)))) none) none
    | _ => none := rfl
theorem app_zero {σ : Store} : appendAD σ k_0 56 .nils [zTy4] = some (.arr k_0 σ.next 0 1, newArr σ k_0 (cellsOf [zTy4])) := rfl
theorem sameW_obj {e : Env} {σ σ' : Store} {s q : Nat} {b : Bool} {off : Nat} (h : aget e.slots s = some ⟨b, .ptr q off⟩) (h1 : aget σ'.objs q = aget σ.objs q) : sameW e σ σ' s = true := by
  unfold sameW
  rw [h]
  show (caseO (aget σ.objs q) true fun cs => sameO (some cs) (aget σ'.objs q)) = true
  rw [h1]
  cases aget σ.objs q with
  | none => rfl
  | some x => exact sameO_refl x
theorem mc_step {S : Specs} {n : Nat} (pm q ps pc : Nat) (t u : Ty) (d : Da) (x : Pt) (l : List Pt) (v : D) {σ σb σc σd σe : Store} (hm : aget σ.objs pm = some [⟨false, .ptr pc 0⟩, ⟨false, .ptr ps 0⟩, ⟨false, v⟩]) (hq : aget σ.objs q = some (cP x t (dPl l) .nils)) (hF : T S n n_16 [.ptr ps 0] σ = some (.ret ⟨false, dTy u⟩, σb)) (hqb : aget σb.objs q = some (cP x t (dPl l) .nils)) (ec : σc = newArr σb k_0 (cellsOf [zTy4])) (ed : σd = SO σc σb.next (cellsOf [dTy u])) (ee : σe = SO σd q (cP x t (dPl l) (.arr k_0 σb.next 0 1))) (hqd : aget σd.objs q = some (cP x t (dPl l) .nils)) (hcd : aget σc.objs σb.next = some (cellsOf [zTy4])) (hne : (σb.next == q) = false) : exec (T S n) n none a_69 (Emc pm q t d 1 0) σ = some (.normal, Emc pm q t d 1 1, σe) := by
  have w1 : IntKind.i64.wrap (0 + 1) = 1 := rfl
  have hsw : ∀ e : Env, aget e.slots 50 = some ⟨false, .ptr q 9⟩ → sameW e σ σb 50 = true := fun e he => sameW_obj he (hqb.trans hq.symm)
  have happ := app_zero (σ := σb)
  have hio : idOf (D.arr k_0 σb.next 0 1) = some σb.next := rfl
  have hix : indexD 4 (.arr k_0 σb.next 0 1) 0 = some (.ptr σb.next 0) := rfl
  have ecz : cellsOf [zTy4] = [⟨false, .int .i64 0⟩, ⟨false, .int .i64 0⟩, ⟨false, .str []⟩, ⟨false, .nils⟩] := rfl
  have ecu : cellsOf [dTy u] = [⟨false, .int .i64 u.f⟩, ⟨false, .int .i64 u.n⟩, ⟨false, .str u.s⟩, ⟨false, dTl u.as_⟩] := by
    rw [dTy_eq]
    rfl
  have hlt : (0 : Int) < 1 := by omega
  rw [← ec] at happ
  rw [ecz] at hcd
  rw [ecu] at ed
  simp only [cP] at hq hqb hqd ee
  simp only [zTy4] at happ
  simp only [dTy_eq, cTy_eq] at hF
  simp only [a_69, Emc, sA, Nat.reduceAdd, Nat.reduceSub, Nat.reduceMul, Nat.reduceBEq, Nat.reduceLeDiff, Int.reduceBEq, Int.reduceBNe, Int.reduceLE, Int.reduceLT, Int.reduceGE, Int.reduceGT, Int.reduceNeg, kn, onel, zeroI, oneI, hlt, hm, hq, hF, happ, memE, mAppA, mStoreD, listOf_l, hix, hcd, callX_retW, List.all_cons, List.all_nil, hsw, Bool.and_true, hio, beq_self_eq_true, ← ed, hqd, ← ee, w1, hne, natI, nat0]
end Go.Fu

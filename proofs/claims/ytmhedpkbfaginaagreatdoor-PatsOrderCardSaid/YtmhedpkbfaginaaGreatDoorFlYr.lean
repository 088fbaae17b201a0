/-
  What was made of a pattern, where all is known, has the types that it has to have.
-/
import Derived.Test.YtmhedpkbfaginaaGreatDoorFlYn
set_option maxHeartbeats 4000000
set_option linter.unusedSimpArgs false
set_option linter.unusedVariables false
set_option linter.unusedSectionVars false
namespace Go.Fu
open Go Go.Mx
set_option maxRecDepth 10000
set_option maxHeartbeats 1000000
def vt (t : Nat) : Sx → Nat
  | .R => t
  | .E => if t = 2 then 0 else 1
  | .G u => u
theorem apply_flat {K : Kn} {d : Nat} {τ u : Ty} (h : lookF (d + 1) K τ = some u) (h0 : u.as_ = []) : applyF (d + 1) K τ = some u := by
  rw [applyF, h]
  simp only [Option.bind_some, h0, mapF]
  cases u
  simp only [Ty.as_] at h0
  subst h0
  rfl
theorem apply_L {K : Kn} {d : Nat} {τ z w : Ty} (h : lookF (d + 2) K τ = some (tL z)) (hz : applyF (d + 1) K z = some w) : applyF (d + 2) K τ = some (tL w) := by
  have hc : applyF (d + 1) K (tCon [76]) = some (tCon [76]) := apply_flat (lookF_own (by show (3 : Int) ≠ 1; omega)) rfl
  rw [applyF, h]
  show (mapF (applyF (d + 1) K) [tCon [76], z]).bind _ = _
  simp only [mapF, hc, hz, Option.bind_some]
  rfl
theorem apply_elem {K : Kn} {e : Nat} {z : Ty} (h : EK K e z) (he : e ≠ 0) (d : Nat) : applyF (d + 3) K z = some (elT e) := apply_flat (look_le (h.more he) (by omega)) (elT_f he).2
theorem app_ty {K : Kn} {n t own : Nat} {s : Sx} {τ : Ty} (ht : t < 5) (h : StK K n (infT t)) (hτ : TyC own n s τ) : applyF 8 K τ = some (wt (vt t s)) := by
  have hel : ∀ e, infT t = .li e → e ≠ 0 ∧ wt (vt t .E) = elT e ∧ wt t = tL (elT e) := by
    intro e he
    match t, ht with
    | 0, _ => cases he
    | 1, _ => cases he
    | 2, _ => cases he; exact ⟨by omega, rfl, rfl⟩
    | 3, _ => cases he
    | 4, _ => cases he; exact ⟨by omega, rfl, rfl⟩
  cases s with
  | R =>
    show applyF 8 K τ = some (wt t)
    rcases hτ with rfl | ⟨_, k, h1, h2, rfl⟩
    · have con : ∀ s, kno 1 K = some (tCon s) → applyF 8 K (tMeta 1) = some (tCon s) := fun s hs => apply_flat (d := 7) ((lookF_meta (d := 7) hs).trans (lookF_own (d := 6) (by show (3 : Int) ≠ 1; omega))) rfl
      have li : ∀ e, RootK K n (.li e) → e ≠ 0 → applyF 8 K (tMeta 1) = some (tL (elT e)) := fun e hr he => by
        obtain ⟨⟨z, hz, ez⟩, _⟩ := hr
        exact apply_L (d := 6) ((lookF_meta (d := 7) hz).trans (lookF_own (d := 6) (by show (4 : Int) ≠ 1; omega))) (apply_elem ez he 4)
      have hr := h.root
      match t, ht, hr with
      | 0, _, hr => exact con _ hr
      | 1, _, hr => exact con _ hr
      | 2, _, hr => exact li 1 hr (by omega)
      | 3, _, hr => exact con _ hr
      | 4, _, hr => exact li 2 hr (by omega)
    · obtain ⟨e, he, ek⟩ := h.others k h1 h2
      obtain ⟨e0, _, e2⟩ := hel e he
      rw [e2]
      exact apply_L (d := 6) (lookF_own (d := 7) (by show (4 : Int) ≠ 1; omega)) (apply_elem ek e0 4)
  | E =>
    obtain ⟨_, k, h1, h2, rfl⟩ := hτ
    obtain ⟨e, he, ek⟩ := h.others k h1 h2
    obtain ⟨e0, e1, _⟩ := hel e he
    rw [e1]
    exact apply_elem ek e0 5
  | G u =>
    obtain ⟨rfl, h3, rfl⟩ := hτ
    show applyF 8 K (wt u) = some (wt u)
    rcases h3 with rfl | rfl | rfl <;> exact apply_flat (d := 7) (lookF_own (d := 7) (by show (3 : Int) ≠ 1; omega)) rfl
theorem kids_list {own t : Nat} (ho : own = 2 ∨ own = 4) (ht : t < 5) {nm : Tx} {ks ks' : List Nat} (hm : (nm, ks) ∈ wcons own) (hl : lookN nm (wcons t) = some ks') : (t = 2 ∨ t = 4) ∧ ks' = (kcl own ks).map (fun c => vt t c.2) ∧ (nm, ks') ∈ wcons t := by
  have key : ∀ own, (own = 2 ∨ own = 4) → ∀ t, t < 5 → ∀ p, p ∈ wcons own → ∀ ks', lookN p.1 (wcons t) = some ks' → (t = 2 ∨ t = 4) ∧ ks' = (kcl own p.2).map (fun c => vt t c.2) ∧ (p.1, ks') ∈ wcons t := by
    intro own ho t ht p hp ks' h
    rcases ho with rfl | rfl <;> (simp only [wcons, List.mem_cons, List.not_mem_nil, or_false] at hp; rcases hp with rfl | rfl) <;> (match t, ht with
      | 0, _ => exact absurd h (by simp [wcons, lookN])
      | 1, _ => exact absurd h (by simp [wcons, lookN])
      | 2, _ => first | (have : ks' = [] := (Option.some.inj h).symm; subst this; exact ⟨by omega, rfl, by simp [wcons]⟩) | (have : ks' = [0, 2] := (Option.some.inj h).symm; subst this; exact ⟨by omega, rfl, by simp [wcons]⟩)
      | 3, _ => exact absurd h (by simp [wcons, lookN])
      | 4, _ => first | (have : ks' = [] := (Option.some.inj h).symm; subst this; exact ⟨by omega, rfl, by simp [wcons]⟩) | (have : ks' = [1, 4] := (Option.some.inj h).symm; subst this; exact ⟨by omega, rfl, by simp [wcons]⟩))
  exact key own ho t ht (nm, ks) hm ks' hl
theorem kids_ground {own u t : Nat} (ho : own = 1 ∨ own = 3) (hu : u < 5) {nm : Tx} {ks ks' : List Nat} (hm : (nm, ks) ∈ wcons own) (hl : lookN nm (wcons u) = some ks') : u = own ∧ ks' = (kcl own ks).map (fun c => vt t c.2) ∧ (nm, ks') ∈ wcons u := by
  have hk : (kcl own ks).map (fun c => vt t c.2) = ks := by
    rw [kcl_G (by omega), List.map_map]
    exact List.map_id _
  rw [hk]
  have key : ∀ own, (own = 1 ∨ own = 3) → ∀ u, u < 5 → ∀ p, p ∈ wcons own → ∀ ks', lookN p.1 (wcons u) = some ks' → u = own ∧ ks' = p.2 ∧ (p.1, ks') ∈ wcons u := by
    intro own ho u hu p hp ks' h
    rcases ho with rfl | rfl
    · simp only [wcons, List.mem_cons, List.not_mem_nil, or_false] at hp
      rcases hp with rfl | rfl <;> (match u, hu with
        | 0, _ => exact absurd h (by simp [wcons, lookN])
        | 1, _ => (have : ks' = [] := (Option.some.inj h).symm; subst this; exact ⟨rfl, rfl, by simp [wcons]⟩)
        | 2, _ => exact absurd h (by simp [wcons, lookN])
        | 3, _ => exact absurd h (by simp [wcons, lookN])
        | 4, _ => exact absurd h (by simp [wcons, lookN]))
    · simp only [wcons, List.mem_cons, List.not_mem_nil, or_false] at hp
      rcases hp with rfl | rfl | rfl <;> (match u, hu with
        | 0, _ => exact absurd h (by simp [wcons, lookN])
        | 1, _ => exact absurd h (by simp [wcons, lookN])
        | 2, _ => exact absurd h (by simp [wcons, lookN])
        | 3, _ => (have := (Option.some.inj h).symm; subst this; exact ⟨rfl, rfl, by simp [wcons, lookN]⟩)
        | 4, _ => exact absurd h (by simp [wcons, lookN]))
  exact key own ho u hu (nm, ks) hm ks' hl
theorem vt_lt {t : Nat} (ht : t < 5) : ∀ {s : Sx} {own n : Nat} {τ : Ty}, TyC own n s τ → vt t s < 5
  | .R, _, _, _, _ => ht
  | .E, _, _, _, _ => by
    show (if t = 2 then 0 else 1) < 5
    by_cases h : t = 2
    · rw [if_pos h]; omega
    · rw [if_neg h]; omega
  | .G u, _, _, _, h => by
    show u < 5
    have := h.1
    have := h.2.1
    omega
def FullS (S : Specs) : Prop := MakeS S ∧ has S n_23 = false
mutual
theorem full_run {S : Specs} (hS : FullS S) {σ : Store} {ps m q n t : Nat} {K : Kn} (ht : t < 5) (hst : StK K n (infT t)) (hK : FineK K) (hsk : SK σ ps m q K) : ∀ {x y : Pt} {own : Nat} {s : Sx}, Mp n own s x y → (fitsM x (vt t s)).1 = 0 → ∃ z, Tp (vt t s) z ∧ ∃ N, ∀ k, N ≤ k → T S k n_23 [.ptr ps 0, dPt y] σ = some (.ret ⟨false, dPt z⟩, σ)
  | .mk f p m0 nm l ty ts, y, own, s, h, hf => by
    cases h with
    | flat hff hτ =>
      rename_i τ
      obtain ⟨N, hN⟩ := apply_run hS.1.1 hK hsk 8 τ (wt (vt t s)) hτ.fine (app_ty ht hst hτ)
      refine ⟨.mk f p m0 nm [] (wt (vt t s)) [], .flat (by omega), N + 202, fun k hk => ?_⟩
      obtain ⟨k, rfl⟩ : ∃ j, k = j + 1 := ⟨k - 1, by omega⟩
      exact full_core hS.2 k ps σ (.mk f p m0 nm [] τ []) (wt (vt t s)) [] [] (hN k (by omega)) rfl rfl (by simp) (by simp) (by omega) (fun i h => absurd h (by simp [Pt.types])) (fun i h => absurd h (by simp [Pt.kids]))
    | con hm hτ hu hl =>
      rename_i ks l' τ us
      obtain ⟨N, hN⟩ := apply_run hS.1.1 hK hsk 8 τ (wt (vt t s)) hτ.fine (app_ty ht hst hτ)
      have hlt := vt_lt ht hτ
      have hfm : fitsM (.mk 4 p m0 nm l ty ts) (vt t s) = match lookN nm (wcons (vt t s)) with
          | none => (31, p)
          | some ks => fitsL l ks := by
        simp only [fitsM]
        rfl
      rw [hfm] at hf
      cases hln : lookN nm (wcons (vt t s)) with
      | none =>
        rw [hln] at hf
        exact absurd hf (by show ¬ ((31 : Int) = 0); omega)
      | some ks' =>
        rw [hln] at hf
        have key : ks' = (kcl own ks).map (fun c => vt t c.2) ∧ (nm, ks') ∈ wcons (vt t s) ∧ ∃ us', us.length = us'.length ∧ us' = wargs (vt t s) ∧ ∃ N, ∀ k, N ≤ k → ∀ i (h : i < us.length) (h' : i < us'.length), T S k n_9 [.ptr ps 0, dTy us[i]] σ = some (.ret ⟨false, dTy us'[i]⟩, σ) := by
          rcases hu with ⟨ho, rfl, k0, h1, h2, rfl⟩ | ⟨ho, rfl⟩
          · obtain ⟨h3, h4, h5⟩ := kids_list ho ht hm hln
            obtain ⟨e, he, ek⟩ := hst.others k0 h1 h2
            have hee : wargs t = [elT e] ∧ e ≠ 0 := by
              rcases h3 with rfl | rfl
              · cases he
                exact ⟨rfl, by omega⟩
              · cases he
                exact ⟨rfl, by omega⟩
            obtain ⟨N2, hN2⟩ := apply_run hS.1.1 hK hsk 8 (tMeta k0) (elT e) (fine_meta _) (apply_elem ek hee.2 5)
            refine ⟨h4, h5, [elT e], rfl, hee.1.symm, N2, fun k hk i h h' => ?_⟩
            have : i = 0 := by simp at h; omega
            subst this
            exact hN2 k hk
          · obtain ⟨h3, h4, h5⟩ := kids_ground (t := t) ho hlt hm hln
            refine ⟨h4, h5, [], rfl, ?_, 0, fun k hk i h h' => absurd h (by simp)⟩
            rw [h3]
            rcases ho with rfl | rfl <;> rfl
        obtain ⟨hks, hmem, us', hul, huw, N2, hN2⟩ := key
        rw [hks] at hf
        obtain ⟨l'', hl1, hl2, N3, hN3⟩ := fulls_run hS ht hst hK hsk hl hf
        have hfew : ks'.length ≤ 2 := (wcons_ok _ hlt _ hmem).1
        have hl3 := hl1.len
        rw [← hks] at hl3
        refine ⟨.mk 4 p m0 nm l'' (wt (vt t s)) (wargs (vt t s)), .con hmem (by rw [hks]; exact hl1), N + N2 + N3 + 202, fun k hk => ?_⟩
        obtain ⟨k, rfl⟩ : ∃ j, k = j + 1 := ⟨k - 1, by omega⟩
        have h9 : us'.length < 100 := by
          rw [huw]
          match vt t s, hlt with
          | 0, _ => decide
          | 1, _ => decide
          | 2, _ => decide
          | 3, _ => decide
          | 4, _ => decide
        have := full_core hS.2 k ps σ (.mk 4 p m0 nm l' τ us) (wt (vt t s)) us' l'' (hN k (by omega)) hul hl2.symm h9 (by omega) (by omega) (fun i h h' => hN2 k (by omega) i h h') (fun i h h' => hN3 k (by omega) i h h')
        rw [huw] at this
        exact this
theorem fulls_run {S : Specs} (hS : FullS S) {σ : Store} {ps m q n t : Nat} {K : Kn} (ht : t < 5) (hst : StK K n (infT t)) (hK : FineK K) (hsk : SK σ ps m q K) : ∀ {l l' : List Pt} {cs : List (Nat × Sx)}, MpL n cs l l' → (fitsL l (cs.map fun c => vt t c.2)).1 = 0 → ∃ l'', TpL (cs.map fun c => vt t c.2) l'' ∧ l''.length = l'.length ∧ ∃ N, ∀ k, N ≤ k → ∀ i (h : i < l'.length) (h' : i < l''.length), T S k n_23 [.ptr ps 0, dPt l'[i]] σ = some (.ret ⟨false, dPt l''[i]⟩, σ)
  | [], _, _, h, _ => by
    cases h
    exact ⟨[], .nil, rfl, 0, fun k hk i h => absurd h (by simp)⟩
  | x :: r, _, _, h, hf => by
    cases h with
    | cons h hl =>
      rename_i c cs y r'
      simp only [List.map_cons, fitsL] at hf
      by_cases h0 : (fitsM x (vt t c.2)).1 = 0
      · rw [if_pos h0] at hf
        obtain ⟨z, hz, N1, r1⟩ := full_run hS ht hst hK hsk h h0
        obtain ⟨l'', g1, g2, N2, r2⟩ := fulls_run hS ht hst hK hsk hl hf
        refine ⟨z :: l'', .cons hz g1, by simp only [List.length_cons, g2], N1 + N2, fun k hk i h h' => ?_⟩
        cases i with
        | zero => exact r1 k (by omega)
        | succ i => exact r2 k (by omega) i (by simpa using h) (by simpa using h')
      · rw [if_neg h0] at hf
        exact absurd hf h0
end
end Go.Fu
namespace Go.Fu
open Go Go.Mx
set_option maxRecDepth 10000
set_option maxHeartbeats 1000000
theorem fits_con4 {p m0 : Int} {nm : Tx} {l : List Pt} {ty : Ty} {ts : List Ty} {t : Nat} : fitsM (.mk 4 p m0 nm l ty ts) t = match lookN nm (wcons t) with
    | none => (31, p)
    | some ks => fitsL l ks := by
  simp only [fitsM]
  rfl
theorem fits_free1 {p m0 : Int} {nm : Tx} {l : List Pt} {ty : Ty} {ts : List Ty} {t : Nat} : fitsM (.mk 1 p m0 nm l ty ts) t = (0, 0) := by
  simp only [fitsM]
  rfl
theorem fits_free2 {p m0 : Int} {nm : Tx} {l : List Pt} {ty : Ty} {ts : List Ty} {t : Nat} : fitsM (.mk 2 p m0 nm l ty ts) t = (0, 0) := by
  simp only [fitsM]
  rfl
theorem fits_num3 {p m0 : Int} {nm : Tx} {l : List Pt} {ty : Ty} {ts : List Ty} {t : Nat} : fitsM (.mk 3 p m0 nm l ty ts) t = if t = 0 then (0, 0) else (31, p) := by
  simp only [fitsM]
  rfl
theorem fitsL_cons {x : Pt} {r : List Pt} {k : Nat} {ks : List Nat} : (fitsL (x :: r) (k :: ks)).1 = 0 ↔ (fitsM x k).1 = 0 ∧ (fitsL r ks).1 = 0 := by
  simp only [fitsL]
  by_cases h : (fitsM x k).1 = 0
  · rw [if_pos h]
    exact ⟨fun h2 => ⟨h, h2⟩, fun h2 => h2.2⟩
  · rw [if_neg h]
    exact ⟨fun h2 => absurd h2 h, fun h2 => absurd h2.1 h⟩
theorem look_self : ∀ t < 5, ∀ p ∈ wcons t, lookN p.1 (wcons t) = some p.2 := by decide
mutual
theorem fits_self : ∀ {x : Pt} {own : Nat}, own < 5 → W own x → (fitsM x own).1 = 0
  | .mk f p m0 nm l ty ts, own, ho, h => by
    cases h with
    | wild => rw [fits_free1]
    | name => rw [fits_free2]
    | num => rw [fits_num3]; rfl
    | con hm h =>
      rename_i ks
      have h1 := look_self own ho _ hm
      simp only at h1
      rw [fits_con4, h1]
      exact fitsL_self (wcons_ok own ho _ hm).2 h
theorem fitsL_self : ∀ {l : List Pt} {ks : List Nat}, (∀ t ∈ ks, t < 5) → WL ks l → (fitsL l ks).1 = 0
  | [], _, _, .nil => rfl
  | x :: r, _ :: _, h5, .cons h hl => fitsL_cons.2 ⟨fits_self (h5 _ (by simp)) h, fitsL_self (fun t ht => h5 t (by simp [ht])) hl⟩
end
theorem fits_el {x : Pt} {own t : Nat} (ho : own = 0 ∨ own = 1) (ht : t = 0 ∨ t = 1) (h : W own x) : (fitsM x t).1 = 0 ↔ (isK x = false ∨ own = t) := by
  cases h with
  | wild => rw [fits_free1]; exact ⟨fun _ => .inl rfl, fun _ => rfl⟩
  | name => rw [fits_free2]; exact ⟨fun _ => .inl rfl, fun _ => rfl⟩
  | num =>
    rw [fits_num3]
    rcases ht with rfl | rfl
    · exact ⟨fun _ => .inr rfl, fun _ => rfl⟩
    · exact ⟨fun h => absurd h (by show ¬ ((31 : Int) = 0); omega), fun h => by
        rcases h with h | h
        · exact absurd h (show ¬ (true = false) by decide)
        · omega⟩
  | con hm hl =>
    rw [fits_con4]
    rcases ho with rfl | rfl
    · exact absurd hm (by simp [wcons])
    · simp only [wcons, List.mem_cons, List.not_mem_nil, or_false, Prod.mk.injEq] at hm
      rcases ht with rfl | rfl
      · rcases hm with ⟨rfl, rfl⟩ | ⟨rfl, rfl⟩ <;> exact ⟨fun h => absurd h (by show ¬ ((31 : Int) = 0); omega), fun h => by
          rcases h with h | h
          · exact absurd h (show ¬ (true = false) by decide)
          · omega⟩
      · rcases hm with ⟨rfl, rfl⟩ | ⟨rfl, rfl⟩
        · cases hl
          exact ⟨fun _ => .inr rfl, fun _ => rfl⟩
        · cases hl
          exact ⟨fun _ => .inr rfl, fun _ => rfl⟩
theorem fits_li : ∀ {x : Pt} {own t : Nat}, (own = 2 ∨ own = 4) → (t = 2 ∨ t = 4) → W own x → ((fitsM x t).1 = 0 ↔ (lkE x = false ∨ own = t))
  | .mk f p m0 nm l ty ts, own, t, ho, ht, h => by
    cases h with
    | wild => rw [fits_free1]; exact ⟨fun _ => .inl rfl, fun _ => rfl⟩
    | name => rw [fits_free2]; exact ⟨fun _ => .inl rfl, fun _ => rfl⟩
    | num => omega
    | con hm hl =>
      rename_i ks
      rw [fits_con4]
      have nil : ks = [] → lookN nm (wcons t) = some [] → ((match lookN nm (wcons t) with
          | none => (31, p)
          | some ks => fitsL l ks).1 = 0 ↔ (lkE (.mk 4 p m0 nm l ty ts) = false ∨ own = t)) := by
        intro hk hln
        subst hk
        cases hl
        rw [hln]
        exact ⟨fun _ => .inl rfl, fun _ => rfl⟩
      have two : ∀ a b, (a = 0 ∨ a = 1) → (b = 0 ∨ b = 1) → (a = b ↔ own = t) → ks = [a, own] → lookN nm (wcons t) = some [b, t] → ((match lookN nm (wcons t) with
          | none => (31, p)
          | some ks => fitsL l ks).1 = 0 ↔ (lkE (.mk 4 p m0 nm l ty ts) = false ∨ own = t)) := by
        intro a b ha hb hab hk hln
        subst hk
        match l, hl with
        | [x, y], .cons h1 (.cons h2 .nil) =>
          rw [hln]
          have g1 := fits_el ha hb h1
          have g2 := fits_li ho ht h2
          have e : lkE (.mk 4 p m0 nm [x, y] ty ts) = (isK x || lkE y) := rfl
          show (fitsL [x, y] [b, t]).1 = 0 ↔ _
          rw [fitsL_cons, fitsL_cons, g1, g2, e, hab]
          cases isK x <;> cases lkE y <;> simp [fitsL]
      rcases ho with rfl | rfl
      · simp only [wcons, List.mem_cons, List.not_mem_nil, or_false, Prod.mk.injEq] at hm
        rcases hm with ⟨rfl, rfl⟩ | ⟨rfl, rfl⟩
        · rcases ht with rfl | rfl <;> exact nil rfl rfl
        · rcases ht with rfl | rfl
          · exact two 0 0 (.inl rfl) (.inl rfl) (by omega) rfl rfl
          · exact two 0 1 (.inl rfl) (.inr rfl) (by omega) rfl rfl
      · simp only [wcons, List.mem_cons, List.not_mem_nil, or_false, Prod.mk.injEq] at hm
        rcases hm with ⟨rfl, rfl⟩ | ⟨rfl, rfl⟩
        · rcases ht with rfl | rfl <;> exact nil rfl rfl
        · rcases ht with rfl | rfl
          · exact two 1 0 (.inr rfl) (.inl rfl) (by omega) rfl rfl
          · exact two 1 1 (.inr rfl) (.inr rfl) (by omega) rfl rfl
theorem fits_off {x : Pt} {own t : Nat} (ho : own < 5) (ht : t < 5) (h : W own x) (hk : isK x = true) (hne : own ≠ t) (h2 : ¬ ((own = 2 ∨ own = 4) ∧ (t = 2 ∨ t = 4))) : (fitsM x t).1 ≠ 0 := by
  cases h with
  | wild => exact absurd hk (show ¬ (false = true) by decide)
  | name => exact absurd hk (show ¬ (false = true) by decide)
  | num =>
    rw [fits_num3, if_neg (by omega)]
    show (31 : Int) ≠ 0
    omega
  | con hm hl =>
    rename_i p m0 nm ks l ty ts
    rw [fits_con4]
    have key : ∀ own < 5, ∀ t < 5, ∀ p ∈ wcons own, own = t ∨ ((own = 2 ∨ own = 4) ∧ (t = 2 ∨ t = 4)) ∨ (lookN p.1 (wcons t)).isNone = true := by decide
    have this : lookN nm (wcons t) = none := by
      rcases key own ho t ht _ hm with h | h | h
      · exact absurd h hne
      · exact absurd h h2
      · exact Option.isNone_iff_eq_none.1 h
    rw [this]
    show (31 : Int) ≠ 0
    omega
theorem pinf_not {own : Nat} {x : Pt} (h : isK x = false) : pinf own x = .un := by
  unfold pinf
  rw [if_neg (by rw [h]; decide)]
theorem pinf_list {own : Nat} (ho : own = 2 ∨ own = 4) {x : Pt} (h : isK x = true) : pinf own x = .li (if lkE x then own / 2 else 0) := by
  unfold pinf
  rw [if_pos h]
  rcases ho with rfl | rfl <;> rfl
theorem infT_list {t : Nat} (ht : t = 2 ∨ t = 4) : infT t = .li (t / 2) := by rcases ht with rfl | rfl <;> rfl
theorem join_off {own t : Nat} (ho : own < 5) (ht : t < 5) (hne : own ≠ t) (h2 : ¬ ((own = 2 ∨ own = 4) ∧ (t = 2 ∨ t = 4))) {x : Pt} (hk : isK x = true) : join (pinf own x) (infT t) = none := by
  have five : ∀ n, n < 5 → n = 0 ∨ n = 1 ∨ n = 2 ∨ n = 3 ∨ n = 4 := by omega
  by_cases h : own = 2 ∨ own = 4
  · rw [pinf_list h hk]
    rcases five t ht with rfl | rfl | rfl | rfl | rfl
    · rfl
    · rfl
    · exact absurd ⟨h, .inl rfl⟩ h2
    · rfl
    · exact absurd ⟨h, .inr rfl⟩ h2
  · rw [pinf_ground (by omega) hk]
    rcases five own ho with rfl | rfl | rfl | rfl | rfl <;> rcases five t ht with rfl | rfl | rfl | rfl | rfl <;> first | rfl | (exfalso; omega)
theorem fits_join {x : Pt} {own t : Nat} (ho : own < 5) (ht : t < 5) (h : W own x) : (fitsM x t).1 = 0 ↔ (join (pinf own x) (infT t)).isSome = true := by
  cases hk : isK x with
  | false =>
    rw [pinf_not hk]
    have : (fitsM x t).1 = 0 := by
      cases h with
      | wild => rw [fits_free1]
      | name => rw [fits_free2]
      | num => exact absurd hk (show ¬ (true = false) by decide)
      | con _ _ => exact absurd hk (show ¬ (true = false) by decide)
    rw [this]
    have e : join .un (infT t) = some (infT t) := rfl
    rw [e]
    simp
  | true =>
    by_cases h2 : (own = 2 ∨ own = 4) ∧ (t = 2 ∨ t = 4)
    · rw [fits_li h2.1 h2.2 h, pinf_list h2.1 hk, infT_list h2.2]
      obtain ⟨h3, h4⟩ := h2
      rcases h3 with rfl | rfl <;> rcases h4 with rfl | rfl <;> cases lkE x <;> simp [join, joinE]
    · by_cases he : own = t
      · subst he
        rw [fits_self ho h, pinf_ground (by omega) hk]
        have five : ∀ n, n < 5 → n = 0 ∨ n = 1 ∨ n = 2 ∨ n = 3 ∨ n = 4 := by omega
        rcases five own ho with rfl | rfl | rfl | rfl | rfl <;> first | (simp [infT, join]; done) | (exfalso; omega)
      · have h3 := fits_off ho ht h hk he h2
        rw [join_off ho ht he h2 hk]
        exact ⟨fun e => absurd e h3, fun e => by cases e⟩
theorem joinE_comm (a b : Nat) : joinE a b = joinE b a := by
  unfold joinE
  by_cases ha : a = 0
  · by_cases hb : b = 0
    · rw [if_pos ha, if_pos hb, ha, hb]
    · rw [if_pos ha, if_neg hb, if_pos ha]
  · by_cases hb : b = 0
    · rw [if_neg ha, if_pos hb, if_pos hb]
    · rw [if_neg ha, if_neg hb, if_neg hb, if_neg ha]
      by_cases e : a = b
      · rw [if_pos e, if_pos e.symm, e]
      · rw [if_neg e, if_neg (Ne.symm e)]
theorem join_comm (i j : Inf) : join i j = join j i := by
  cases i <;> cases j <;> first | rfl | (simp only [join, joinE_comm])
theorem join_infT {i j : Inf} {t : Nat} (ht : t < 5) (h : join i (infT t) = some j) : j = infT t := by
  have li : ∀ e f, f ≠ 0 → (joinE e f).map Inf.li = some j → j = .li f := by
    intro e f hf h
    unfold joinE at h
    by_cases he : e = 0
    · rw [if_pos he] at h
      exact (Option.some.inj h).symm
    · rw [if_neg he, if_neg hf] at h
      by_cases hef : e = f
      · rw [if_pos hef] at h
        rw [← hef]
        exact (Option.some.inj h).symm
      · rw [if_neg hef] at h
        cases h
  have five : ∀ n, n < 5 → n = 0 ∨ n = 1 ∨ n = 2 ∨ n = 3 ∨ n = 4 := by omega
  rcases five t ht with rfl | rfl | rfl | rfl | rfl <;> cases i <;> first
    | exact (Option.some.inj h).symm
    | (exact li _ _ (by omega) h)
    | cases h
end Go.Fu
namespace Go.Fu
open Go Go.Mx
set_option maxRecDepth 100000
set_option maxHeartbeats 1000000
mutual
theorem bareM_size : ∀ (x : Pt) (a : Nat), (bareM x a).1.size = x.size
  | .mk f p n s l ty ts, a => by simp only [bareM, Pt.size, baresM_size l]
theorem baresM_size : ∀ (l : List Pt) (a : Nat), Pt.sizes (baresM l a).1 = Pt.sizes l
  | [], a => rfl
  | x :: r, a => by simp only [baresM, Pt.sizes, baresM_size r, bareM_size x]
end
def OneP (d : D) (p : Pt × Nat) : Prop := p.2 < 5 ∧ W p.2 p.1 ∧ p.1.size ≤ 16 ∧ OkP n_39 [d] ⟨false, .tup [dPt p.1, .int .i64 p.2]⟩
noncomputable def oneV (d : D) : Pt × Nat := @Classical.epsilon _ ⟨(zPt, 0)⟩ (OneP d)
theorem oneV_ok {d0 : D} {xs : List Int} (hR : IR d0 xs) : OneP d0 (oneV d0) := by
  obtain ⟨y, t, ht, hw, ho⟩ := one_ok hR
  have h : OneP d0 ((bareM y 1).1, t) := ⟨ht, hw.1.bare 1, by rw [bareM_size]; have := hw.2; have : (2 : Nat) ^ (3 + 1) = 16 := rfl; omega, ho⟩
  exact @Classical.epsilon_spec _ (OneP d0) ⟨_, h⟩
noncomputable def oneC (d : D) : Cell := ⟨false, .tup [dPt (oneV d).1, .int .i64 (oneV d).2]⟩
end Go.Fu
namespace Go.Fu
open Go Go.Mx
set_option maxRecDepth 100000
set_option maxHeartbeats 1000000
def sp_one : List D → Cell → Prop := fun ds c => ∀ d, ds = [d] → c = oneC d
theorem call_one {S : Specs} (hS : aget S n_39 = some sp_one) {d : D} (h : OneP d (oneV d)) (n : Nat) (σ : Store) : T S (n + 1) n_39 [d] σ = some (.ret (oneC d), σ) := by
  obtain ⟨c, g1, g2⟩ := T_orc (S := S) hS rfl (s := sp_one) (c := oneC d) (fun d' e => by
    rw [(List.cons.inj e).1]) h.2.2.2
  rw [g2, g1 _ rfl]
def sp_wty : List D → Cell → Prop := fun ds c => ∀ t : Nat, ds = [.int .i64 t] → c = ⟨false, dTy (wt t)⟩
theorem call_wty {S : Specs} (hS : aget S n_6 = some sp_wty) {t : Nat} (ht : t < 5) (n : Nat) (σ : Store) : T S (n + 1) n_6 [.int .i64 t] σ = some (.ret ⟨false, dTy (wt t)⟩, σ) := by
  obtain ⟨c, g1, g2⟩ := T_orc (S := S) hS rfl (s := sp_wty) (c := ⟨false, dTy (wt t)⟩) (fun t' e => by
    simp only [List.cons.injEq, D.int.injEq, true_and, and_true, Int.natCast_inj] at e
    rw [e]) (wtype_pure t ht)
  rw [g2, g1 _ rfl]
theorem call_typed {S : Specs} (hS : aget S n_15 = some sp_typed) {x : Pt} {t : Nat} (h : TypedOk x t) (n : Nat) (σ : Store) : T S (n + 1) n_15 [dPr worldM, dPt x, dTy (wt t)] σ = some (.ret ⟨false, .bool true⟩, σ) := by
  obtain ⟨c, g1, g2⟩ := T_orc (S := S) (f := n_15) hS rfl (s := sp_typed) rfl h
  rw [g2, g1]
def SLp : Specs := [(n_39, sp_one), (n_87, spK (dPr worldM)), (n_47, sp_prelude), (n_53, sp_cat), (n_27, sp_meta), (n_40, sp_App), (n_29, sp_Con), (n_5, sp_psub), (n_51, sp_pown), (n_6, sp_wty), (n_26, sp_fits), (n_15, sp_typed), (n_37, spK (.bool true))]
theorem SLp_unify : UnifyS SLp := ⟨rfl, rfl, rfl, rfl, rfl, rfl, rfl, rfl, rfl, rfl, rfl, rfl, rfl, rfl, rfl, rfl, rfl⟩
theorem SLp_make : MakeS SLp := ⟨SLp_unify, rfl, rfl, rfl, rfl, rfl, rfl, rfl, rfl, rfl, rfl, rfl⟩
theorem SLp_full : FullS SLp := ⟨SLp_make, rfl⟩
theorem unew_all {S : Specs} (hS0 : has S n_30 = false) (σ : Store) : ∃ σ' p m, Fr σ σ' ∧ SK σ' p m 0 [] ∧ σ.next ≤ p ∧ σ.next ≤ m ∧ ∀ n, T S (n + 1) n_30 [] σ = some (.ret ⟨false, .ptr p 0⟩, σ') := by
  refine ⟨GA (GM σ (.map [] 0)) t_142 [⟨false, .int .i64 0⟩, ⟨false, .map σ.next⟩], σ.next + 1, σ.next, (fr_GM _ _).trans (fr_GA _ _ _), ⟨agS _ _ _, agS _ _ _, Nat.lt_succ_self _, Nat.lt_of_lt_of_le (Nat.lt_succ_self _) (Nat.le_succ _)⟩, Nat.le_succ _, Nat.le_refl _, fun n => ?_⟩
  rw [T_fun (af := a_130) hS0 rfl rfl]
  have hg : memOp (.gbox t_142 (.tmp 2)) { slots := [(1, ⟨false, .map σ.next⟩), (2, ⟨false, .agg [.int .i64 0, .map σ.next]⟩)], locs := [], boxes := [], defers := [] } (GM σ (.map [] 0)) = some (.ptr (σ.next + 1) 0, GA (GM σ (.map [] 0)) t_142 [⟨false, .int .i64 0⟩, ⟨false, .map σ.next⟩]) := rfl
  simp only [a_130, sA, Nat.reduceAdd, Nat.reduceSub, Nat.reduceMul, Nat.reduceBEq, Nat.reduceLeDiff, Int.reduceBEq, Int.reduceBNe, Int.reduceLE, Int.reduceLT, Int.reduceGE, Int.reduceGT, Int.reduceNeg, kn, onel, memE, mMake, hg]
theorem unew_one {S : Specs} (hS : UnifyS S) (σ : Store) : ∃ σ1 σ2 p m, Fr σ σ2 ∧ SK σ2 p m 1 [] ∧ σ.next ≤ p ∧ σ.next ≤ m ∧ (∀ n, T S (n + 1) n_30 [] σ = some (.ret ⟨false, .ptr p 0⟩, σ1)) ∧ ∀ n, T S (n + 2) n_16 [.ptr p 0] σ1 = some (.ret ⟨false, dTy (tMeta 1)⟩, σ2) := by
  obtain ⟨σ1, p, m, f1, s1, l1, l2, r1⟩ := unew_all hS.2.2.2.2.2.2.2.2.2.2.2.2.2.2.1 σ
  have hF := fun k => fresh_run hS.2.2.2.2.2.2.2.2.2.2.2.2.2.1 hS.2.2.2.2.2.2.2.2.2.2.2.2.2.2.2.1 s1 (by omega) k
  have f2 : Fx σ1 (SO σ1 p [⟨false, .int .i64 (0 + 1 : Nat)⟩, ⟨false, .map m⟩]) (fun j => j = p) m := fx_SO _ _ _ _
  refine ⟨σ1, _, p, m, ⟨Nat.le_trans f1.le f2.le, fun j hj => ?_, fun j hj => f1.oth j hj, fun j hj => f1.tys j hj⟩, (hF 0).2, l1, l2, r1, fun n => (hF n).1⟩
  exact (f2.objs j (Nat.lt_of_lt_of_le hj f1.le) (by omega)).trans (f1.objs j hj)
theorem StK.start : StK [] 1 .un := ⟨fun _ h => (by cases h), Nat.le_refl _, ⟨rfl, rfl⟩, fun k h1 h2 => absurd h1 (by omega)⟩
theorem new_all {S : Specs} (hS0 : has S n_86 = false) (hS1 : aget S n_47 = some sp_prelude) (hS2 : aget S n_53 = some sp_cat) (σ : Store) : ∃ σ' p m, Fr σ σ' ∧ PN σ' p m LW (conAts LW 0) ∧ m < σ'.next ∧ σ.next ≤ p ∧ σ.next ≤ m ∧ ∀ n, 2001 ≤ n → T S (n + 1) n_86 [dPr worldM] σ = some (.ret ⟨false, .ptr p 0⟩, σ') := by
  have h1 : ((conAts LW 0).map fun x => x.1).Nodup := by decide
  have hlen := len_D LW
  have hL : LW.length ≤ 1000 := LW_len
  have hc : ∀ d ∈ LW, d.cons.length ≤ 1000 := by decide
  have p1 := fun n => pureC_prelude hS1 n
  have p2 := fun n => pureC_cat hS2 pre3 worldM (by simp [pre3]) (by simp [pre3, worldM]) n
  have eLW : pre3 ++ worldM = LW := rfl
  rw [eLW] at p2
  generalize LW = L at *
  obtain ⟨τ, hτ⟩ : ∃ τ, τ = GO (GM σ (.map [] 0)) [⟨false, dDl L⟩, ⟨false, .map σ.next⟩] := ⟨_, rfl⟩
  have hnx : (GM σ (.map [] 0)).next = σ.next + 1 := rfl
  have ho : aget τ.objs (σ.next + 1) = some [⟨false, dDl L⟩, ⟨false, .map σ.next⟩] := by rw [hτ]; exact agS _ _ _
  have hz : SF τ σ.next (conAts (L.take 0) 0) = τ := by
    rw [hτ]
    simp [SF, SM, GO, GM, conAts, esOf, aset, ifB]
  refine ⟨SF τ σ.next (conAts L 0), σ.next + 1, σ.next, ⟨?_, fun j hj => ?_, fun j hj => ?_, fun j hj => ?_⟩, ⟨ho, SF_self, ?_⟩, ?_, Nat.le_succ _, Nat.le_refl _, fun n hn => ?_⟩
  · rw [hτ]
    show σ.next ≤ σ.next + 1 + 1
    omega
  · rw [hτ]
    exact agC _ _ _ _ (by show σ.next + 1 ≠ j; omega)
  · rw [hτ]
    refine (agB _ _ _ (beq_false_of_ne (by omega)) _).trans (agC _ _ _ _ (by omega))
  · rw [hτ]
    exact aget_adel _ _ (by show σ.next + 1 ≠ j; omega) _
  · rw [hτ]
    show σ.next + 1 < σ.next + 1 + 1
    omega
  · rw [hτ]
    show σ.next < σ.next + 1 + 1
    omega
  · obtain ⟨n, rfl⟩ : ∃ k, n = k + 1 := ⟨n - 1, by omega⟩
    have p1 := p1 n
    have p2 := p2 n
    have hd : dd pre3 worldM = .list k_60 [dDl pre3, dDl worldM] := rfl
    rw [hd] at p2
    rw [T_fun (af := a_114) hS0 rfl rfl]
    have hr := loopN_run (body := exec (T S (n + 1)) (n + 1) none a_68) (En1 L (σ.next + 1)) (fun i => SF τ σ.next (conAts (L.take i) 0)) L.length (r := _) (fun _ _ h => by cases h) (fun i hi => n1_step L _ _ i ho hi hL (hc _ (List.getElem_mem hi)) (by omega) h1) (n1_end L _) 0 (n + 1) (by omega) (by omega)
    simp only [hz, List.take_length] at hr
    simp only [En1, zeroI] at hr
    generalize SF τ σ.next (conAts L 0) = τ' at *
    simp only [a_114, dPr, sA, Nat.reduceAdd, Nat.reduceSub, Nat.reduceMul, Nat.reduceBEq, Nat.reduceLeDiff, Int.reduceBEq, Int.reduceBNe, Int.reduceLE, Int.reduceLT, Int.reduceGE, Int.reduceGT, Int.reduceNeg, kn, onel, p1, p2, memE, mMake, hlen, exec_frz, prom]
    rw [hnx, ← hτ]
    simp only [sA, Nat.reduceAdd, Nat.reduceSub, Nat.reduceMul, Nat.reduceBEq, Nat.reduceLeDiff, Int.reduceBEq, Int.reduceBNe, Int.reduceLE, Int.reduceLT, Int.reduceGE, Int.reduceGT, Int.reduceNeg, kn, onel, hlen, ho, hr]
end Go.Fu

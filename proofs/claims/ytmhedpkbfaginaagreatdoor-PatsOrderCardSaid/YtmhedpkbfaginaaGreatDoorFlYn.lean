/-
  A pattern of the world is made: whatever is known, what it tells, or that it is refused.
-/
import Derived.Test.YtmhedpkbfaginaaGreatDoorFlYj
set_option maxHeartbeats 4000000
set_option linter.unusedSimpArgs false
set_option linter.unusedVariables false
set_option linter.unusedSectionVars false
namespace Go.Fu
open Go Go.Mx
set_option maxRecDepth 10000
set_option maxHeartbeats 1000000
theorem join_un (i : Inf) : join i .un = some i := by cases i <;> rfl
theorem TyC.elem {own n : Nat} {τ : Ty} {K : Kn} {i : Inf} (h : StK K n i) (hτ : TyC own n .E τ) : (own = 0 ∨ own = 1) ∧ ∃ e, i = .li e ∧ EK K e τ := by
  obtain ⟨ho, k, h1, h2, rfl⟩ := hτ
  exact ⟨ho, h.others k h1 h2⟩
theorem learn_flat {own n : Nat} {s : Sx} {τ : Ty} {K : Kn} {i : Inf} {x : Pt} (h : StK K n i) (hτ : TyC own n s τ) (hx : isK x = false) : learn i s own x = some i := by
  cases s with
  | R =>
    have : pinf own x = .un := by
      unfold pinf
      rw [if_neg (by rw [hx]; decide)]
    rw [learn, this]
    exact join_un i
  | E =>
    obtain ⟨_, e, rfl, _⟩ := hτ.elem h
    rw [learn, hx]
    rfl
  | G t => rfl
theorem pinf_ground {own : Nat} (ho : own = 0 ∨ own = 1 ∨ own = 3) {x : Pt} (hx : isK x = true) : pinf own x = infT own := by
  unfold pinf
  rw [if_pos hx]
  rcases ho with rfl | rfl | rfl <;> rfl
theorem un_ground {own n : Nat} {s : Sx} {τ : Ty} {K : Kn} {i : Inf} {x : Pt} (ho : own = 0 ∨ own = 1 ∨ own = 3) (h : StK K n i) (hτ : TyC own n s τ) (hx : isK x = true) : ∃ r K', OneK 6 3 K τ (wt own) r K' ∧ JoinOk K' n r (learn i s own x) := by
  cases s with
  | R =>
    rcases hτ with rfl | ⟨h2, _⟩
    · rw [learn, pinf_ground ho hx]
      exact root_wt h (by omega)
    · omega
  | E =>
    obtain ⟨h01, e, rfl, ek⟩ := hτ.elem h
    rw [learn, hx]
    have key : ∀ f, f ≠ 0 → f ≤ 2 → ∃ r K', OneK 6 3 K τ (elT f) r K' ∧ JoinOk K' n r ((joinE e f).map Inf.li) := by
      intro f hf h2
      obtain ⟨r, K', h1, h3⟩ := el_con h ek hf h2 2
      refine ⟨r, K', h1, ?_⟩
      cases hj : joinE e f with
      | none =>
        rw [hj] at h3
        exact h3
      | some g =>
        rw [hj] at h3
        exact h3
    rcases h01 with rfl | rfl
    · exact key 1 (by omega) (by omega)
    · exact key 2 (by omega) (by omega)
  | G t =>
    obtain ⟨rfl, _, rfl⟩ := hτ
    exact ⟨0, K, same_con ho, rfl, h⟩
theorem un_list {own n : Nat} {s : Sx} {τ : Ty} {K : Kn} {i : Inf} (ho : own = 2 ∨ own = 4) (h : StK K n i) (hτ : TyC own n s τ) : s = .R ∧ ∃ r K', OneK 6 3 K τ (tL (tMeta ((n + 1 : Nat) : Int))) r K' ∧ JoinOk K' (n + 1) r (join i (.li 0)) := by
  cases s with
  | R =>
    refine ⟨rfl, ?_⟩
    rcases hτ with rfl | ⟨_, k, h1, h2, rfl⟩
    · exact root_list h
    · obtain ⟨e, rfl, ek⟩ := h.others k h1 h2
      obtain ⟨K', g1, g2⟩ := list_list h h1 h2
      have ej : join (.li e) (.li 0) = some (.li e) := by
        simp only [join, joinE]
        by_cases e0 : e = 0
        · subst e0; rfl
        · rw [if_neg e0]; rfl
      rw [ej]
      exact ⟨0, K', g1, rfl, g2⟩
  | E =>
    obtain ⟨h1, _⟩ := hτ
    omega
  | G t =>
    obtain ⟨_, h1, _⟩ := hτ
    omega
theorem make_wild {S : Specs} (hS : MakeS S) {own : Nat} {s : Sx} {p m0 : Int} {nm : Tx} {ty : Ty} {ts : List Ty} : MakeOk S own s (.mk 1 p m0 nm [] ty ts) := by
  intro σ pm pc mc ps m n K v c i τ hmi hst hK hτ hb1 hb2
  have hl := learn_flat (x := .mk 1 p m0 nm [] ty ts) hst hτ rfl
  refine flat_ok hS hmi rfl n_50 (.inl ⟨rfl, rfl⟩) 0 (S2 σ (.mk 1 p m0 nm [] ty ts) τ) (Fx.refl _ _ _) ?_ ⟨1, fun k hk => ?_⟩ (.flat (.inl rfl) hτ)
  · rw [hl]
    exact ⟨rfl, K, v, c, hmi.fr (S2_fr _ _ _), hst, hK, by omega, .inl rfl⟩
  · obtain ⟨k, rfl⟩ : ∃ j, k = j + 1 := ⟨k - 1, by omega⟩
    exact wild_run hS pm σ.next τ k _
theorem make_name {S : Specs} (hS : MakeS S) {own : Nat} {s : Sx} {p m0 : Int} {nm : Tx} {ty : Ty} {ts : List Ty} : MakeOk S own s (.mk 2 p m0 nm [] ty ts) := by
  intro σ pm pc mc ps m n K v c i τ hmi hst hK hτ hb1 hb2
  have hl := learn_flat (x := .mk 2 p m0 nm [] ty ts) hst hτ rfl
  have hmi2 := hmi.fr (S2_fr σ (.mk 2 p m0 nm [] ty ts) τ)
  obtain ⟨σ3, v', f3, hmi3, hv, hr⟩ := name_run hS hmi2 (by omega) σ.next (.mk 2 p m0 nm [] ty ts) τ τ (dPl []) .nils (S2_obj σ _ τ)
  refine flat_ok hS hmi rfl n_48 (.inr (.inl ⟨rfl, rfl⟩)) 0 σ3 f3 ?_ ⟨1, fun k hk => ?_⟩ (.flat (.inr (.inl rfl)) hτ)
  · rw [hl]
    exact ⟨rfl, K, v', c + 1, hmi3, hst, hK, by rw [Pt.size_eq]; omega, .inr hv⟩
  · obtain ⟨k, rfl⟩ : ∃ j, k = j + 1 := ⟨k - 1, by omega⟩
    exact hr k
theorem make_num {S : Specs} (hS : MakeS S) {s : Sx} {p m0 : Int} {nm : Tx} {ty : Ty} {ts : List Ty} : MakeOk S 0 s (.mk 3 p m0 nm [] ty ts) := by
  intro σ pm pc mc ps m n K v c i τ hmi hst hK hτ hb1 hb2
  have hmi2 := hmi.fr (S2_fr σ (.mk 3 p m0 nm [] ty ts) τ)
  obtain ⟨r, K', hO, hJ⟩ := un_ground (x := .mk 3 p m0 nm [] ty ts) (.inl rfl) hst hτ rfl
  obtain ⟨hK2, σ3, f3, hm3, hr⟩ := number_run hS hmi2 σ.next τ hτ.fine hK hO
  refine flat_ok hS hmi rfl n_49 (.inr (.inr ⟨rfl, rfl⟩)) r σ3 f3 ?_ hr (.flat (.inr (.inr ⟨rfl, rfl⟩)) hτ)
  cases hl : learn i s 0 (.mk 3 p m0 nm [] ty ts) with
  | none =>
    rw [hl] at hJ
    exact hJ
  | some j =>
    rw [hl] at hJ
    obtain ⟨he, hst'⟩ := hJ
    exact ⟨he, K', v, c, hm3 he, hst', hK2, by omega, .inl rfl⟩
theorem WL.kids {P : Nat → Pt → Prop} : ∀ {ks : List Nat} {l : List Pt}, WL ks l → (∀ t x, W t x → P t x) → ∀ i (h1 : i < ks.length) (h2 : i < l.length), P ks[i] l[i]
  | [], [], _, _, i, h, _ => absurd h (by simp)
  | _ :: _, _ :: _, .cons h hl, hP, 0, _, _ => hP _ _ h
  | _ :: _, _ :: _, .cons h hl, hP, i + 1, h1, h2 => hl.kids hP i (by simpa using h1) (by simpa using h2)
theorem kcl_G {own : Nat} (h : ¬ (own = 2 ∨ own = 4)) (ks : List Nat) : kcl own ks = ks.map fun t => (t, Sx.G t) := by
  unfold kcl
  rw [if_neg h]
theorem kcl_L {own : Nat} (h : own = 2 ∨ own = 4) (a b : Nat) : kcl own [a, b] = [(a, .E), (b, .R)] := by
  unfold kcl
  rw [if_pos h]
theorem kcl_N {own : Nat} (h : own = 2 ∨ own = 4) : kcl own [] = [] := by
  unfold kcl
  rw [if_pos h]
theorem ground_con {S : Specs} (hS : MakeS S) {own : Nat} (ho : own = 1 ∨ own = 3) {s : Sx} {p m0 : Int} {nm : Tx} {ks : List Nat} {l : List Pt} {ty : Ty} {ts : List Ty} (hm : (nm, ks) ∈ wcons own) (hl : WL ks l) (h10 : l.length ≤ 10) (k : Nat) (hk : k < (wd own).cons.length) (hcm : conM nm LW = some (wd own, k)) (hfs : (wd own).cons[k].fs = ks.map wt) (hks : ∀ t ∈ ks, t = 0 ∨ t = 1 ∨ t = 3) (hM : ∀ i (h1 : i < ks.length) (h2 : i < l.length) (s : Sx), MakeOk S ks[i] s l[i]) : MakeOk S own s (.mk 4 p m0 nm l ty ts) := by
  intro σ pm pc mc ps m n K v c i τ hmi hst hK hτ hb1 hb2
  have hmi2 := hmi.fr (S2_fr σ (.mk 4 p m0 nm l ty ts) τ)
  have l1 := hmi.lt
  have l2 := hmi.sk.lt
  have l3 := hmi.pn.lt
  have l4 : ∀ j, vid v = some j → j < σ.next := hmi.va.lt
  obtain ⟨r, K', hO, hJ⟩ := un_ground (x := .mk 4 p m0 nm l ty ts) (by omega) hst hτ rfl
  have hcs : kcl own ks = ks.map fun t => (t, Sx.G t) := kcl_G (by omega) ks
  have hlen : (wd own).cons[k].fs.length = l.length := by rw [hfs, List.length_map, hl.len]
  have ew : tCon (wd own).name = wt own := by rcases ho with rfl | rfl <;> rfl
  have ev : (wd own).vars = [] := by rcases ho with rfl | rfl <;> rfl
  rw [← ew] at hO
  obtain ⟨hK2, σ3, f3, hm3, hq3, hr⟩ := mcon_none hS hmi2 σ.next (by omega) (by omega) (by omega) (fun e => by have := l4 _ e; omega) (by rw [S2_next]; omega) (.mk 4 p m0 nm l ty ts) τ l (S2_obj σ _ τ) (wd own) k hcm hk hlen ev hτ.fine hK hO
  refine con_ok hS hmi rfl hb1 hb2 (wd own) k hcm hk hlen h10 r [] σ3 n (Nat.le_refl _) (by omega) K' hK2 _ hJ f3 hm3 hq3 hr (kcl own ks) (by rw [hcs, List.length_map]; exact hl.len.symm) ?_ ?_ ?_ ?_
  · cases learn i s own (.mk 4 p m0 nm l ty ts) with
    | none => rfl
    | some j =>
      rw [hcs]
      exact (learn_G j ks _).symm
  · intro a ha hc
    rw [hcs, List.length_map] at hc
    have e1 : (wd own).cons[k].fs[a] = wt ks[a] := by simp only [hfs, List.getElem_map]
    have e2 : (kcl own ks)[a]'(by rw [hcs, List.length_map]; exact hc) = (ks[a], Sx.G ks[a]) := by simp only [hcs, List.getElem_map]
    rw [e1, e2, ev]
    have h3 := hks ks[a] (List.getElem_mem hc)
    refine ⟨?_, rfl, h3, rfl⟩
    show OkP n_5 [dTy (wt ks[a]), dSs [], dTl []] ⟨false, dTy (wt ks[a])⟩
    rcases h3 with h3 | h3 | h3
    · rw [h3]; exact psub_0
    · rw [h3]; exact psub_1
    · rw [h3]; exact psub_3
  · intro a ha hc
    rw [hcs, List.length_map] at hc
    have e2 : (kcl own ks)[a]'(by rw [hcs, List.length_map]; exact hc) = (ks[a], Sx.G ks[a]) := by simp only [hcs, List.getElem_map]
    rw [e2]
    exact hM a hc ha _
  · intro n' L' hn' hL'
    exact .con hm (hτ.mono hn') (.inr ⟨ho, rfl⟩) hL'
theorem list_con {S : Specs} (hS : MakeS S) {own : Nat} (ho : own = 2 ∨ own = 4) {s : Sx} {p m0 : Int} {nm : Tx} {ks : List Nat} {l : List Pt} {ty : Ty} {ts : List Ty} (hm : (nm, ks) ∈ wcons own) (hl : WL ks l) (h10 : l.length ≤ 10) (k : Nat) (hk : k < (wd own).cons.length) (hcm : conM nm LW = some (wd own, k)) (hfs : (ks = [] ∧ (wd own).cons[k].fs = []) ∨ ∃ a, (a = 0 ∨ a = 1) ∧ ks = [a, own] ∧ (wd own).cons[k].fs = [tVar [97], tL (tVar [97])]) (hM : ∀ i (h1 : i < ks.length) (h2 : i < l.length) (s : Sx), MakeOk S ks[i] s l[i]) : MakeOk S own s (.mk 4 p m0 nm l ty ts) := by
  intro σ pm pc mc ps m n K v c i τ hmi hst hK hτ hb1 hb2
  have hmi2 := hmi.fr (S2_fr σ (.mk 4 p m0 nm l ty ts) τ)
  have l1 := hmi.lt
  have l2 := hmi.sk.lt
  have l3 := hmi.pn.lt
  have l4 : ∀ j, vid v = some j → j < σ.next := hmi.va.lt
  have hone := hst.one
  obtain ⟨rfl, r, K', hO, hJ⟩ := un_list ho hst hτ
  have hlen : (wd own).cons[k].fs.length = l.length := by
    rcases hfs with ⟨h1, h2⟩ | ⟨a, _, h1, h2⟩
    · rw [h2, hl.len, h1]
      rfl
    · rw [h2, hl.len, h1]
      rfl
  have ew : tApp (tCon (wd own).name) (tMeta ((n + 1 : Nat) : Int)) = tL (tMeta ((n + 1 : Nat) : Int)) := by rcases ho with rfl | rfl <;> rfl
  have ev : (wd own).vars = [[97]] := by rcases ho with rfl | rfl <;> rfl
  rw [← ew] at hO
  obtain ⟨hK2, σ3, f3, hm3, hq3, hr⟩ := mcon_one hS hmi2 (by omega) σ.next (by omega) (by omega) (by omega) (fun e => by have := l4 _ e; omega) (by rw [S2_next]; omega) (.mk 4 p m0 nm l ty ts) τ l (S2_obj σ _ τ) (wd own) k hcm hk hlen [97] ev hτ.fine hK hO
  have hkl : (kcl own ks).length = l.length := by
    rcases hfs with ⟨h1, h2⟩ | ⟨a, _, h1, h2⟩
    · rw [hl.len, h1, kcl_N ho]
      rfl
    · rw [hl.len, h1, kcl_L ho]
      rfl
  refine con_ok hS hmi rfl hb1 hb2 (wd own) k hcm hk hlen h10 r [tMeta ((n + 1 : Nat) : Int)] σ3 (n + 1) (by omega) (Nat.le_refl _) K' hK2 _ hJ f3 hm3 hq3 hr (kcl own ks) hkl (learn_con ho hm hl i hst.valid).symm ?_ ?_ ?_
  · intro j hj hc
    rcases hfs with ⟨h1, h2⟩ | ⟨a, ha, h1, h2⟩
    · rw [h2] at hj
      exact absurd hj (by simp)
    · have e2 : kcl own ks = [(a, .E), (own, .R)] := by rw [h1, kcl_L ho]
      rw [h2] at hj
      simp only [h2, e2, ev]
      match j, hj with
      | 0, _ => exact ⟨psub_var _, ha, n + 1, by omega, Nat.le_refl _, rfl⟩
      | 1, _ => exact ⟨psub_list _, .inr ⟨ho, n + 1, by omega, Nat.le_refl _, rfl⟩⟩
  · intro j hj hc
    have hjk : j < ks.length := by rw [← hl.len]; exact hj
    rcases hfs with ⟨h1, h2⟩ | ⟨a, ha, h1, h2⟩
    · rw [h1] at hjk
      exact absurd hjk (by simp)
    · have e2 : kcl own ks = [(a, .E), (own, .R)] := by rw [h1, kcl_L ho]
      have hM' := hM j hjk hj
      subst h1
      simp only [e2]
      match j, hjk, hj, hM' with
      | 0, _, _, hM' => exact hM' _
      | 1, _, _, hM' => exact hM' _
  · intro n' L' hn' hL'
    exact .con hm (hτ.mono (by omega)) (.inl ⟨ho, rfl, n + 1, by omega, hn', rfl⟩) hL'
mutual
theorem make_all {S : Specs} (hS : MakeS S) : ∀ {x : Pt} {own : Nat}, own < 5 → W own x → ∀ s, MakeOk S own s x
  | .mk f p m nm l ty ts, own, ho, h, s => by
    cases h with
    | wild => exact make_wild hS
    | name => exact make_name hS
    | num => exact make_num hS
    | con hm h =>
      have hw := wcons_ok own ho _ hm
      have h10 : l.length ≤ 10 := by rw [h.len]; have := hw.1; simp only at this; omega
      have hM := makes_all hS h hw.2
      match own, ho, hm with
      | 0, _, hm => exact absurd hm (by simp [wcons])
      | 1, _, hm =>
        have hm2 := hm
        simp only [wcons, List.mem_cons, List.not_mem_nil, or_false, Prod.mk.injEq] at hm2
        rcases hm2 with ⟨rfl, rfl⟩ | ⟨rfl, rfl⟩
        · exact ground_con hS (.inl rfl) hm h h10 0 (by decide) rfl rfl (fun _ h => by cases h) hM
        · exact ground_con hS (.inl rfl) hm h h10 1 (by decide) rfl rfl (fun _ h => by cases h) hM
      | 2, _, hm =>
        have hm2 := hm
        simp only [wcons, List.mem_cons, List.not_mem_nil, or_false, Prod.mk.injEq] at hm2
        rcases hm2 with ⟨rfl, rfl⟩ | ⟨rfl, rfl⟩
        · exact list_con hS (.inl rfl) hm h h10 0 (by decide) rfl (.inl ⟨rfl, rfl⟩) hM
        · exact list_con hS (.inl rfl) hm h h10 1 (by decide) rfl (.inr ⟨0, .inl rfl, rfl, rfl⟩) hM
      | 3, _, hm =>
        have hm2 := hm
        simp only [wcons, List.mem_cons, List.not_mem_nil, or_false, Prod.mk.injEq] at hm2
        rcases hm2 with ⟨rfl, rfl⟩ | ⟨rfl, rfl⟩ | ⟨rfl, rfl⟩
        · exact ground_con hS (.inr rfl) hm h h10 0 (by decide) rfl rfl (fun _ h => by cases h) hM
        · exact ground_con hS (.inr rfl) hm h h10 1 (by decide) rfl rfl (by decide) hM
        · exact ground_con hS (.inr rfl) hm h h10 2 (by decide) rfl rfl (by decide) hM
      | 4, _, hm =>
        have hm2 := hm
        simp only [wcons, List.mem_cons, List.not_mem_nil, or_false, Prod.mk.injEq] at hm2
        rcases hm2 with ⟨rfl, rfl⟩ | ⟨rfl, rfl⟩
        · exact list_con hS (.inr rfl) hm h h10 0 (by decide) rfl (.inl ⟨rfl, rfl⟩) hM
        · exact list_con hS (.inr rfl) hm h h10 1 (by decide) rfl (.inr ⟨1, .inr rfl, rfl, rfl⟩) hM
theorem makes_all {S : Specs} (hS : MakeS S) : ∀ {l : List Pt} {ks : List Nat}, WL ks l → (∀ t ∈ ks, t < 5) → ∀ i (h1 : i < ks.length) (h2 : i < l.length) (s : Sx), MakeOk S ks[i] s l[i]
  | [], _, .nil, _, i, h, _, _ => absurd h (by simp)
  | _ :: _, _ :: _, .cons h hl, h5, 0, _, _, s => make_all hS (h5 _ (by simp)) h s
  | _ :: _, _ :: _, .cons h hl, h5, i + 1, h1, h2, s => makes_all hS hl (fun t ht => h5 t (by simp [ht])) i (by simpa using h1) (by simpa using h2) s
end
end Go.Fu
namespace Go.Fu
open Go Go.Mx
set_option maxRecDepth 100000
set_option maxHeartbeats 1000000
def patR (y : Pt) (v : D) (e a : Int) : Cell := ⟨false, .tup [dPt y, v, .agg [.int .i64 e, .int .i64 a]]⟩
theorem pat_core {S : Specs} (hS : MakeS S) {n : Nat} {σ σ1 σ2 : Store} (pc ps : Nat) (x y : Pt) (τ : Ty) (v : D) (e a : Int) (h1 : σ1 = GA σ t_109 [⟨false, .ptr pc 0⟩, ⟨false, .ptr ps 0⟩, ⟨false, .nils⟩]) (hr : T S n n_18 [.ptr σ.next 0, dPt x, dTy τ] σ1 = some (.ret (mkR y e a), σ2)) (hm : e = 0 → aget σ2.objs σ.next = some [⟨false, .ptr pc 0⟩, ⟨false, .ptr ps 0⟩, ⟨false, v⟩]) (hv1 : v.ok = true) (hv2 : v.cells = [v]) (hv3 : v.one = true) : T S (n + 1) n_24 [.ptr pc 0, .ptr ps 0, dPt x, dTy τ] σ = some (.ret (if e = 0 then patR y v e a else patR zPt .nils e a), σ2) := by
  have hg : ∀ (l : List (Nat × Cell)) (bx : List (Nat × List Cell)) (lo : List (Nat × Nat × Nat)), memOp (.gbox t_109 (.tmp 16)) { slots := l, locs := lo, boxes := bx, defers := [] } σ = bindO (opd { slots := l, locs := lo, boxes := bx, defers := [] } (.tmp 16)) fun c => ifB c.d.ok (some (.ptr σ.next 0, GA σ t_109 (c.d.cells.map Cell.of))) none := fun _ _ _ => rfl
  have ez : dPt zPt = .agg [.int .i64 0, .int .i64 0, .int .i64 0, .str [], .nils, .int .i64 0, .int .i64 0, .str [], .nils, .nils] := rfl
  rw [T_fun (af := a_94) hS.2.2.2.2.2.2.1 rfl rfl]
  simp only [mkR] at hr
  simp only [patR, ez]
  by_cases he : e = 0
  · subst he
    have hm := hm rfl
    simp only [if_pos]
    simp only [dPt_eq, cPt, dTy_eq, cTy_eq] at hr ⊢
    simp only [a_94, sA, Nat.reduceAdd, Nat.reduceSub, Nat.reduceMul, Nat.reduceBEq, Nat.reduceLeDiff, Int.reduceBEq, Int.reduceBNe, Int.reduceLE, Int.reduceLT, Int.reduceGE, Int.reduceGT, Int.reduceNeg, kn, onel, onep, memE, hg, List.map_cons, List.map_nil, ← h1, hr, bne_self_eq_false, hm, hv1, hv2, hv3]
  · have hne : (e != 0) = true := by simpa using he
    simp only [if_neg he]
    simp only [dPt_eq, cPt, dTy_eq, cTy_eq] at hr ⊢
    simp only [a_94, sA, Nat.reduceAdd, Nat.reduceSub, Nat.reduceMul, Nat.reduceBEq, Nat.reduceLeDiff, Int.reduceBEq, Int.reduceBNe, Int.reduceLE, Int.reduceLT, Int.reduceGE, Int.reduceGT, Int.reduceNeg, kn, onel, onep, memE, hg, List.map_cons, List.map_nil, ← h1, hr, hne]
theorem pat_run {S : Specs} (hS : MakeS S) {σ : Store} {pc mc ps m n own : Nat} {K : Kn} {i : Inf} {x : Pt} (hpn : PN σ pc mc LW (conAts LW 0)) (hmc : mc < σ.next) (hsk : SK σ ps m n K) (ne3 : ps ≠ pc) (ne4 : m ≠ mc) (hst : StK K n i) (hK : FineK K) (ho : own < 5) (hx : W own x) (hn : n + x.size < 900) : ∃ (σ' : Store) (e a : Int) (y : Pt) (v : D), Fx σ σ' (fun j => j = ps) m ∧ (match join i (pinf own x) with
    | some j => e = 0 ∧ ∃ n' K', SK σ' ps m n' K' ∧ StK K' n' j ∧ FineK K' ∧ n' ≤ n + x.size ∧ Mp n' own .R x y
    | none => e ≠ 0) ∧ v.ok = true ∧ v.cells = [v] ∧ v.one = true ∧ ∃ N, ∀ k, N ≤ k → T S k n_24 [.ptr pc 0, .ptr ps 0, dPt x, dTy (tMeta 1)] σ = some (.ret (patR y v e a), σ') := by
  obtain ⟨σ1, h1⟩ : ∃ σ1, σ1 = GA σ t_109 [⟨false, .ptr pc 0⟩, ⟨false, .ptr ps 0⟩, ⟨false, .nils⟩] := ⟨_, rfl⟩
  have f1 : Fr σ σ1 := by rw [h1]; exact fr_GA _ _ _
  have o1 : aget σ1.objs σ.next = some [⟨false, .ptr pc 0⟩, ⟨false, .ptr ps 0⟩, ⟨false, .nils⟩] := by rw [h1]; exact agS _ _ _
  have l1 : σ.next < σ1.next := by rw [h1]; exact Nat.lt_succ_self _
  have lpc := hpn.lt
  have lps := hsk.lt
  have hmi : MI σ1 σ.next pc mc ps m n K .nils 0 := ⟨o1, l1, SB.fr hsk f1, ⟨(f1.objs _ hpn.lt).trans hpn.obj, (f1.oth _ hmc).trans hpn.map, Nat.lt_of_lt_of_le hpn.lt f1.le⟩, Nat.lt_of_lt_of_le hmc f1.le, .nil, by omega, by omega, ne3, ne4, fun j h => by cases h⟩
  obtain ⟨σ2, e, a, y, f2, hres, N, hN⟩ := make_all hS ho hx .R σ1 σ.next pc mc ps m n K .nils 0 i (tMeta 1) hmi hst hK (.inl rfl) hn (by omega)
  have f : Fx σ σ2 (fun j => j = ps) m := f1.then f2 fun j hj h => by
    rcases h with h | h | h
    · exact h
    · omega
    · cases h
  simp only [learn] at hres
  cases hj : join i (pinf own x) with
  | none =>
    rw [hj] at hres
    have hres : e ≠ 0 := hres
    refine ⟨σ2, e, a, zPt, .nils, f, hres, rfl, rfl, rfl, N + 1, fun k hk => ?_⟩
    obtain ⟨k, rfl⟩ : ∃ j, k = j + 1 := ⟨k - 1, by omega⟩
    have := pat_core hS pc ps x y (tMeta 1) .nils e a h1 (hN k (by omega)) (fun h => absurd h hres) rfl rfl rfl
    rw [if_neg hres] at this
    exact this
  | some j =>
    rw [hj] at hres
    obtain ⟨he, n', K', v', c', g1, g2, g3, g4, g5, g6, g7, g8⟩ := hres
    subst he
    have hv : v'.ok = true ∧ v'.cells = [v'] ∧ v'.one = true := by
      cases g1.va with
      | nil => exact ⟨rfl, rfl, rfl⟩
      | arr _ _ _ _ _ => exact ⟨rfl, rfl, rfl⟩
    refine ⟨σ2, 0, a, y, v', f, ⟨rfl, n', K', g1.sk, g2, g3, g5, g8⟩, hv.1, hv.2.1, hv.2.2, N + 1, fun k hk => ?_⟩
    obtain ⟨k, rfl⟩ : ∃ j, k = j + 1 := ⟨k - 1, by omega⟩
    have := pat_core hS pc ps x y (tMeta 1) v' 0 a h1 (hN k (by omega)) (fun _ => g1.obj) hv.1 hv.2.1 hv.2.2
    simp only [if_pos] at this
    exact this
end Go.Fu
namespace Go.Fu
open Go Go.Mx
set_option maxRecDepth 100000
set_option maxHeartbeats 1000000
section
variable {C : CallF} {n : Nat} {σ : Store}
def bFu (y : Pt) (t : Ty) (ty : D) : List Cell := [⟨false, .int .i64 y.form⟩, ⟨false, .int .i64 y.pos⟩, ⟨false, .int .i64 y.n⟩, ⟨false, .str y.name⟩, ⟨false, dPl y.kids⟩, ⟨false, .int .i64 t.f⟩, ⟨false, .int .i64 t.n⟩, ⟨false, .str t.s⟩, ⟨false, dTl t.as_⟩, ⟨false, ty⟩]
def Ef0 (ps : Nat) (y : Pt) (t : Ty) (us : List Ty) (i : Nat) : Env := { slots := [(0, ⟨false, .ptr ps 0⟩), (5, ⟨ow i, dTl (us.take i)⟩), (6, ⟨false, .int .i64 i⟩)], locs := [(3, 3, 0), (4, 4, 0)], boxes := [(3, bFu y t (dTl y.types)), (4, z10)], defers := [] }
theorem f0_step (ps : Nat) (y : Pt) (t : Ty) (us : List Ty) (hl : y.types.length = us.length) (h10 : us.length < 1000) (i : Nat) (hi : i < us.length) (h1 : C n_9 [.ptr ps 0, dTy (y.types[i]'(by omega))] σ = some (.ret ⟨false, dTy us[i]⟩, σ)) : exec C n none a_65 (Ef0 ps y t us i) σ = some (.normal, Ef0 ps y t us (i + 1), σ) := by
  have hi2 : i < y.types.length := by omega
  have hx := idx_T y.types i hi2
  have hlen := len_T y.types
  have hlt : ((i : Int) < y.types.length) := by omega
  have w := wrap64_succ (i := i) (by omega)
  have happ := app_T (us.take i) us[i] (ow i) ow_ne (by rw [List.length_take]; omega)
  rw [take_snoc us i hi] at happ
  generalize y.types[i] = a at *
  generalize us[i] = b at *
  simp only [dTy_eq, cTy_eq] at h1 happ hx
  simp only [a_65, Ef0, bFu, z10, sA, Nat.reduceAdd, Nat.reduceSub, Nat.reduceMul, Nat.reduceBEq, Nat.reduceLeDiff, Int.reduceBEq, Int.reduceBNe, Int.reduceLE, Int.reduceLT, Int.reduceGE, Int.reduceGT, Int.reduceNeg, kn, onel, onep, hx, hlen, hlt, natI, h1, happ, w, ow_succ]
theorem f0_end (ps : Nat) (y : Pt) (t : Ty) (us : List Ty) (hl : y.types.length = us.length) : exec C n none a_65 (Ef0 ps y t us us.length) σ = some (.exit 0, { slots := [(0, ⟨false, .ptr ps 0⟩), (5, ⟨ow us.length, dTl us⟩), (6, ⟨false, .int .i64 us.length⟩), (18, ⟨false, .bool false⟩)], locs := [(3, 3, 0), (4, 4, 0)], boxes := [(3, bFu y t (dTl y.types)), (4, z10)], defers := [] }, σ) := by
  have hlen := len_T y.types
  have hlt : ¬ ((us.length : Int) < y.types.length) := by omega
  simp only [a_65, Ef0, bFu, z10, sA, Nat.reduceAdd, Nat.reduceSub, Nat.reduceMul, Nat.reduceBEq, Nat.reduceLeDiff, Int.reduceBEq, Int.reduceBNe, Int.reduceLE, Int.reduceLT, Int.reduceGE, Int.reduceGT, Int.reduceNeg, kn, onel, onep, hlen, hlt, List.take_length]
def Ef1 (ps : Nat) (y : Pt) (t : Ty) (us : D) (l : List Pt) (i : Nat) : Env := { slots := [(0, ⟨false, .ptr ps 0⟩), (7, ⟨ow i, dPl (l.take i)⟩), (8, ⟨false, .int .i64 i⟩)], locs := [(3, 3, 0), (4, 4, 0)], boxes := [(3, bFu y t us), (4, z10)], defers := [] }
theorem f1_step (ps : Nat) (y : Pt) (t : Ty) (us : D) (l : List Pt) (hl : y.kids.length = l.length) (h10 : l.length < 1000) (i : Nat) (hi : i < l.length) (h1 : C n_23 [.ptr ps 0, dPt (y.kids[i]'(by omega))] σ = some (.ret ⟨false, dPt l[i]⟩, σ)) : exec C n none a_66 (Ef1 ps y t us l i) σ = some (.normal, Ef1 ps y t us l (i + 1), σ) := by
  have hi2 : i < y.kids.length := by omega
  have hx := idx_P y.kids i hi2
  have hlen := len_P y.kids
  have hlt : ((i : Int) < y.kids.length) := by omega
  have w := wrap64_succ (i := i) (by omega)
  have happ := app_P (l.take i) l[i] (ow i) ow_ne (by rw [List.length_take]; omega)
  rw [take_snoc l i hi] at happ
  generalize y.kids[i] = a at *
  generalize l[i] = b at *
  simp only [dPt_eq, cPt] at h1 happ hx
  simp only [a_66, Ef1, bFu, z10, sA, Nat.reduceAdd, Nat.reduceSub, Nat.reduceMul, Nat.reduceBEq, Nat.reduceLeDiff, Int.reduceBEq, Int.reduceBNe, Int.reduceLE, Int.reduceLT, Int.reduceGE, Int.reduceGT, Int.reduceNeg, kn, onel, onep, hx, hlen, hlt, natI, h1, happ, w, ow_succ]
theorem f1_end (ps : Nat) (y : Pt) (t : Ty) (us : D) (l : List Pt) (hl : y.kids.length = l.length) : exec C n none a_66 (Ef1 ps y t us l l.length) σ = some (.exit 2, { slots := [(0, ⟨false, .ptr ps 0⟩), (7, ⟨ow l.length, dPl l⟩), (8, ⟨false, .int .i64 l.length⟩), (37, ⟨false, .bool false⟩)], locs := [(3, 3, 0), (4, 4, 0)], boxes := [(3, bFu y t us), (4, z10)], defers := [] }, σ) := by
  have hlen := len_P y.kids
  have hlt : ¬ ((l.length : Int) < y.kids.length) := by omega
  simp only [a_66, Ef1, bFu, z10, sA, Nat.reduceAdd, Nat.reduceSub, Nat.reduceMul, Nat.reduceBEq, Nat.reduceLeDiff, Int.reduceBEq, Int.reduceBNe, Int.reduceLE, Int.reduceLT, Int.reduceGE, Int.reduceGT, Int.reduceNeg, kn, onel, onep, hlen, hlt, List.take_length]
end
theorem full_core {S : Specs} (hS : has S n_23 = false) (n ps : Nat) (σ : Store) (y : Pt) (t : Ty) (us : List Ty) (l : List Pt) (h1 : T S n n_9 [.ptr ps 0, dTy y.ty] σ = some (.ret ⟨false, dTy t⟩, σ)) (hu : y.types.length = us.length) (hk : y.kids.length = l.length) (hu2 : us.length < 100) (hk2 : l.length < 100) (hn : 200 ≤ n) (h2 : ∀ i (h : i < y.types.length) (h' : i < us.length), T S n n_9 [.ptr ps 0, dTy y.types[i]] σ = some (.ret ⟨false, dTy us[i]⟩, σ)) (h3 : ∀ i (h : i < y.kids.length) (h' : i < l.length), T S n n_23 [.ptr ps 0, dPt y.kids[i]] σ = some (.ret ⟨false, dPt l[i]⟩, σ)) : T S (n + 1) n_23 [.ptr ps 0, dPt y] σ = some (.ret ⟨false, dPt (yPt y t l us)⟩, σ) := by
  have r0 := loopN_run (body := exec (T S n) n none a_65) (Ef0 ps y t us) (fun _ => σ) us.length (r := _) (fun _ _ h => by cases h) (fun i hi => f0_step ps y t us hu (by omega) i hi (h2 i (by omega) hi)) (f0_end ps y t us hu) 0 n (by omega) (by omega)
  have r1 := loopN_run (body := exec (T S n) n none a_66) (Ef1 ps y t (dTl us) l) (fun _ => σ) l.length (r := _) (fun _ _ h => by cases h) (fun i hi => f1_step ps y t (dTl us) l hk (by omega) i hi (h3 i (by omega) hi)) (f1_end ps y t (dTl us) l hk) 0 n (by omega) (by omega)
  rw [T_fun (af := a_112) hS rfl rfl]
  have ey : dPt (yPt y t l us) = .agg [.int .i64 y.form, .int .i64 y.pos, .int .i64 y.n, .str y.name, dPl l, .int .i64 t.f, .int .i64 t.n, .str t.s, dTl t.as_, dTl us] := dPt_eq _
  have e1 : dTl [] = .nils := rfl
  have e2 : dPl [] = .nils := rfl
  simp only [Ef0, bFu, z10, zeroI, List.take_zero, ow_zero, e1] at r0
  simp only [Ef1, bFu, z10, zeroI, List.take_zero, ow_zero, e2] at r1
  rw [ey]
  simp only [dTy_eq, cTy_eq] at h1
  simp only [a_112, sA, Nat.reduceAdd, Nat.reduceSub, Nat.reduceMul, Nat.reduceBEq, Nat.reduceLeDiff, Int.reduceBEq, Int.reduceBNe, Int.reduceLE, Int.reduceLT, Int.reduceGE, Int.reduceGT, Int.reduceNeg, kn, onel, onep, dPt_eq, cPt, h1, r0, r1]
end Go.Fu
namespace Go.Fu
open Go Go.Mx
set_option maxRecDepth 100000
set_option maxHeartbeats 1000000
mutual
inductive Tp : Nat → Pt → Prop
  | flat {t : Nat} {f p n : Int} {s : Tx} (hf : f ≠ 4) : Tp t (.mk f p n s [] (wt t) [])
  | con {t : Nat} {p n : Int} {s : Tx} {ks : List Nat} {l : List Pt} (hm : (s, ks) ∈ wcons t) (hl : TpL ks l) : Tp t (.mk 4 p n s l (wt t) (wargs t))
inductive TpL : List Nat → List Pt → Prop
  | nil : TpL [] []
  | cons {k : Nat} {ks : List Nat} {x : Pt} {l : List Pt} (h : Tp k x) (hl : TpL ks l) : TpL (k :: ks) (x :: l)
end
theorem TpL.len : ∀ {ks : List Nat} {l : List Pt}, TpL ks l → l.length = ks.length
  | [], _, .nil => rfl
  | _ :: _, _, .cons _ h => by simp only [List.length_cons, h.len]
abbrev TypedOk (x : Pt) (t : Nat) : Prop := OkP n_15 [dPr worldM, dPt x, dTy (wt t)] ⟨false, .bool true⟩
section
variable {C : CallF} {n : Nat} {σ : Store}
def Ety0 (x : Pt) (d : Da) (k : Nat) (args : List Ty) (i : Nat) : Env := { slots := [(8, ⟨false, dTl args⟩), (11, ⟨false, .int .i64 k⟩), (13, ⟨false, .int .i64 i⟩)], locs := [(3, 3, 0), (4, 4, 0), (10, 10, 0)], boxes := [(3, bPrg), (4, bPx x), (10, bD d)], defers := [] }
theorem ty0_step (x : Pt) (d : Da) (k : Nat) (args : List Ty) (i : Nat) (hi : i < args.length) (hl : args.length ≤ 100) (he : x.types = args) (h1 : C n_19 [dTy args[i], dTy args[i]] σ = some (.ret ⟨false, .bool true⟩, σ)) : exec C n none a_72 (Ety0 x d k args i) σ = some (.normal, Ety0 x d k args (i + 1), σ) := by
  have hx := idx_T args i hi
  have hlen := len_T args
  have hlt : ((i : Int) < args.length) := by omega
  have w := wrap64_succ (i := i) (by omega)
  generalize args[i] = a at *
  simp only [dTy_eq, cTy_eq] at h1 hx
  simp only [a_72, Ety0, bPrg, bPx, bD, sA, Nat.reduceAdd, Nat.reduceSub, Nat.reduceMul, Nat.reduceBEq, Nat.reduceLeDiff, Int.reduceBEq, Int.reduceBNe, Int.reduceLE, Int.reduceLT, Int.reduceGE, Int.reduceGT, Int.reduceNeg, kn, onel, onep, he, hx, hlen, hlt, natI, h1, w, Bool.not_true]
theorem ty0_end (x : Pt) (d : Da) (k : Nat) (args : List Ty) : exec C n none a_72 (Ety0 x d k args args.length) σ = some (.exit 0, { Ety0 x d k args args.length with slots := [(8, ⟨false, dTl args⟩), (11, ⟨false, .int .i64 k⟩), (13, ⟨false, .int .i64 args.length⟩), (74, ⟨false, .bool false⟩)] }, σ) := by
  have hlen := len_T args
  have hlt : ¬ ((args.length : Int) < args.length) := by omega
  simp only [a_72, Ety0, bPrg, bPx, bD, sA, Nat.reduceAdd, Nat.reduceSub, Nat.reduceMul, Nat.reduceBEq, Nat.reduceLeDiff, Int.reduceBEq, Int.reduceBNe, Int.reduceLE, Int.reduceLT, Int.reduceGE, Int.reduceGT, Int.reduceNeg, kn, onel, onep, hlen, hlt]
def Ety1 (x : Pt) (d : Da) (k : Nat) (args : List Ty) (i : Nat) : Env := { slots := [(8, ⟨false, dTl args⟩), (11, ⟨false, .int .i64 k⟩), (15, ⟨false, .int .i64 i⟩)], locs := [(3, 3, 0), (4, 4, 0), (10, 10, 0)], boxes := [(3, bPrg), (4, bPx x), (10, bD d)], defers := [] }
theorem ty1_step (x : Pt) (d : Da) (k : Nat) (hk : k < d.cons.length) (args : List Ty) (i : Nat) (hi : i < x.kids.length) (hl : x.kids.length ≤ 100) (hf : i < d.cons[k].fs.length) (u : Ty) (h1 : C n_8 [dTy (d.cons[k].fs[i]), dSs d.vars, dTl args] σ = some (.ret ⟨false, dTy u⟩, σ)) (h2 : C n_15 [dPr worldM, dPt x.kids[i], dTy u] σ = some (.ret ⟨false, .bool true⟩, σ)) : exec C n none a_73 (Ety1 x d k args i) σ = some (.normal, Ety1 x d k args (i + 1), σ) := by
  have hx := idx_P x.kids i hi
  have hlen := len_P x.kids
  have hlt : ((i : Int) < x.kids.length) := by omega
  have w := wrap64_succ (i := i) (by omega)
  have hy := idx_C d.cons k hk
  have hz := idx_T d.cons[k].fs i hf
  generalize d.cons[k].fs[i] = v at *
  generalize d.cons[k] = c at *
  generalize x.kids[i] = z at *
  have epr : dPr worldM = .agg [dDl worldM, .nils, .nils, .nils] := rfl
  rw [epr] at h2
  simp only [dPt_eq, cPt, dTy_eq, cTy_eq] at h1 h2 hx hz
  simp only [dCn_eq] at hy
  simp only [a_73, Ety1, bPrg, bPx, bD, sA, Nat.reduceAdd, Nat.reduceSub, Nat.reduceMul, Nat.reduceBEq, Nat.reduceLeDiff, Int.reduceBEq, Int.reduceBNe, Int.reduceLE, Int.reduceLT, Int.reduceGE, Int.reduceGT, Int.reduceNeg, kn, onel, onep, natI, hx, hy, hz, hlen, hlt, h1, h2, w, Bool.not_true]
theorem ty1_end (x : Pt) (d : Da) (k : Nat) (args : List Ty) : exec C n none a_73 (Ety1 x d k args x.kids.length) σ = some (.exit 2, { Ety1 x d k args x.kids.length with slots := [(8, ⟨false, dTl args⟩), (11, ⟨false, .int .i64 k⟩), (15, ⟨false, .int .i64 x.kids.length⟩), (93, ⟨false, .bool false⟩)] }, σ) := by
  have hlen := len_P x.kids
  have hlt : ¬ ((x.kids.length : Int) < x.kids.length) := by omega
  simp only [a_73, Ety1, bPrg, bPx, bD, sA, Nat.reduceAdd, Nat.reduceSub, Nat.reduceMul, Nat.reduceBEq, Nat.reduceLeDiff, Int.reduceBEq, Int.reduceBNe, Int.reduceLE, Int.reduceLT, Int.reduceGE, Int.reduceGT, Int.reduceNeg, kn, onel, onep, hlen, hlt]
end
def sp_typed : List D → Cell → Prop := fun _ c => c = ⟨false, .bool true⟩
def STz (t : Nat) (s : Tx) : Specs := [(n_89, spK (.tup [.str (wname t), dTl (wargs t)])), (n_101, spK (conR (conM s (pre3 ++ worldM)))), (n_8, sp_sub), (n_19, sp_equal), (n_15, sp_typed)]
theorem fine_wt (t : Nat) : Fine (wt t) := by
  match t with
  | 0 => exact fine_con _
  | 1 => exact fine_con _
  | 2 => exact fine_app (fine_con _) (fine_con _)
  | 3 => exact fine_con _
  | _ + 4 => exact fine_app (fine_con _) (fine_con _)
theorem fine_wargs (t : Nat) : ∀ a ∈ wargs t, Fine a := by
  match t with
  | 0 => intro a h; cases h
  | 1 => intro a h; cases h
  | 2 => intro a h; rw [List.mem_singleton.1 h]; exact fine_con _
  | 3 => intro a h; cases h
  | 4 => intro a h; rw [List.mem_singleton.1 h]; exact fine_con _
  | _ + 5 => intro a h; cases h
theorem typed_fun {x : Pt} {t n : Nat} {s : Tx} (hr : finX Ra (fun _ _ _ => none) a_58 0 (exec (T (STz t s) 1) n none a_58.body (initEnv [dPr worldM, dPt x, dTy (wt t)]) σ0) = some (.ret ⟨false, .bool true⟩, σ0)) : TypedOk x t :=
  pure_fun (af := a_58) (n := n) (σ' := σ0) (T_sound (STz t s) 1) rfl rfl (by simp [noPtrL, noPtr_dPt, noPtr_dPr, noPtr_dTy]) rfl hr
theorem typed_flat (x : Pt) (t : Nat) (ht : t < 5) (h4 : x.form ≠ 4) (hty : x.ty = wt t) (hts : x.types = []) : TypedOk x t := by
  have hs := callK (S := STz t x.name) rfl rfl (spine_pure t ht) 0 σ0
  have he := call_equal (S := STz t x.name) rfl (wt t) (fine_wt t) 0 σ0
  have b4 : (x.form != 4) = true := by simpa using h4
  refine typed_fun (s := x.name) (n := 1) ?_
  have epr : dPr worldM = .agg [dDl worldM, .nils, .nils, .nils] := rfl
  have z00 : (((0 : Nat) : Int) == 0) = true := rfl
  have el : lenOf (dTl []) = some 0 := rfl
  rw [epr, dPt_eq]
  generalize wt t = w at *
  generalize dTl (wargs t) = A at *
  simp only [dTy_eq, cTy_eq] at hs he ⊢
  simp only [a_58, sA, Nat.reduceAdd, Nat.reduceSub, Nat.reduceMul, Nat.reduceBEq, Nat.reduceLeDiff, Int.reduceBEq, Int.reduceBNe, Int.reduceLE, Int.reduceLT, Int.reduceGE, Int.reduceGT, Int.reduceNeg, kn, onel, onep, cPt, hs, b4, hty, hts, he, el, z00]
theorem typed_con (t k : Nat) (ht : t < 5) (hk : k < (wcons t).length) (x : Pt) (h4 : x.form = 4) (hn : x.name = ((wcons t).getD k ([], [])).1) (hl : x.kids.length = ((wcons t).getD k ([], [])).2.length) (h2 : x.kids.length ≤ 2) (hty : x.ty = wt t) (hts : x.types = wargs t) (ih : ∀ i (hi : i < x.kids.length), TypedOk x.kids[i] (((wcons t).getD k ([], [])).2.getD i 0)) : TypedOk x t := by
  have hcw : conM x.name (pre3 ++ worldM) = some (wd t, k) := by
    rw [hn, getD_eq _ _ _ hk]
    exact conM_world t ht k hk
  have hs := callK (S := STz t x.name) rfl rfl (spine_pure t ht) 0 σ0
  have he := call_equal (S := STz t x.name) rfl (wt t) (fine_wt t) 0 σ0
  have hc := callK (S := STz t x.name) rfl rfl (rcon_pure worldM world_fine x.name) 0 σ0
  rw [hcw] at hc
  obtain ⟨hkc, hfl⟩ := no_len t ht k hk
  rw [← hl, getD_eq _ _ _ hkc] at hfl
  have hag : agree t t = true := by
    revert ht hk
    match t with
    | 0 => intro _ h; exact absurd h (by simp [wcons])
    | 1 => intro _ _; rfl
    | 2 => intro _ _; rfl
    | 3 => intro _ _; rfl
    | 4 => intro _ _; rfl
    | n + 5 => intro h; omega
  have hkn : kidsN t k t = ((wcons t).getD k ([], [])).2 := by
    have : ∀ t < 5, ∀ k < (wcons t).length, kidsN t k t = ((wcons t).getD k ([], [])).2 := by decide +kernel
    exact this t ht k hk
  have hsub := agree_sub t ht t ht k hk hag
  have b4 : (x.form != 4) = false := by rw [h4]; rfl
  have epr : dPr worldM = .agg [dDl worldM, .nils, .nils, .nils] := rfl
  have hy := idx_C (wd t).cons k hkc
  have hlf := len_T (wd t).cons[k].fs
  have hlk := len_P x.kids
  rw [hfl] at hlf
  have hla := len_T (wargs t)
  have hal : (wargs t).length ≤ 100 := by
    match t with
    | 0 => simp [wargs]
    | 1 => simp [wargs]
    | 2 => simp [wargs]
    | 3 => simp [wargs]
    | 4 => simp [wargs]
    | _ + 5 => simp [wargs]
  have c1 : ∀ i (hi : i < x.kids.length) (hf : i < (wd t).cons[k].fs.length), T (STz t x.name) 1 n_8 [dTy ((wd t).cons[k].fs[i]), dSs (wd t).vars, dTl (wargs t)] σ0 = some (.ret ⟨false, dTy (wt (((wcons t).getD k ([], [])).2.getD i 0))⟩, σ0) := fun i hi hf => by
    have := call_sub (S := STz t x.name) rfl _ (hsub i (by rw [hkn]; omega)) 0 σ0
    simp only [getD_eq _ _ _ hkc, getD_eq _ _ _ hf, hkn] at this
    exact this
  have c2 : ∀ i (hi : i < x.kids.length), T (STz t x.name) 1 n_15 [dPr worldM, dPt x.kids[i], dTy (wt (((wcons t).getD k ([], [])).2.getD i 0))] σ0 = some (.ret ⟨false, .bool true⟩, σ0) := fun i hi => by
    obtain ⟨c, g1, g2⟩ := T_orc (S := STz t x.name) (f := n_15) rfl rfl (s := sp_typed) rfl (ih i hi)
    rw [g2, g1]
  have r0 := loopN_run (body := exec (T (STz t x.name) 1) 120 none a_72) (Ety0 x (wd t) k (wargs t)) (fun _ => σ0) (wargs t).length (r := _) (fun _ _ h => by cases h) (fun i hi => ty0_step x (wd t) k (wargs t) i hi hal hts (call_equal (S := STz t x.name) rfl _ (fine_wargs t _ (List.getElem_mem hi)) 0 σ0)) (ty0_end x (wd t) k (wargs t)) 0 120 (by omega) (by omega)
  have r1 := loopN_run (body := exec (T (STz t x.name) 1) 120 none a_73) (Ety1 x (wd t) k (wargs t)) (fun _ => σ0) x.kids.length (r := _) (fun _ _ h => by cases h) (fun i hi => ty1_step x (wd t) k hkc (wargs t) i hi (by omega) (by omega) _ (c1 i hi (by omega)) (c2 i hi)) (ty1_end x (wd t) k (wargs t)) 0 120 (by omega) (by omega)
  refine typed_fun (s := x.name) (n := 120) ?_
  simp only [Ety0, bPrg, bPx, bD, zeroI] at r0
  simp only [Ety1, bPrg, bPx, bD, zeroI] at r1
  rw [epr, dPt_eq]
  rw [epr] at hc
  rw [hts] at r0 r1
  rw [hty] at r0 r1
  generalize wt t = w at *
  generalize wargs t = A at *
  generalize (wd t).cons[k] = c at *
  generalize wd t = d at *
  simp only [conR] at hc
  simp only [dTy_eq, cTy_eq, dDa_eq] at hs hc he ⊢
  simp only [dCn_eq] at hy
  simp only [a_58, sA, Nat.reduceAdd, Nat.reduceSub, Nat.reduceMul, Nat.reduceBEq, Nat.reduceLeDiff, Int.reduceBEq, Int.reduceBNe, Int.reduceLE, Int.reduceLT, Int.reduceGE, Int.reduceGT, Int.reduceNeg, kn, onel, onep, cPt, hs, b4, hty, hts, he, hc, natI, hy, hlf, hlk, hla, bne_self_eq_false, Bool.not_true, r0, r1]
mutual
theorem typed_pure : ∀ {x : Pt} {t : Nat}, t < 5 → Tp t x → TypedOk x t
  | .mk f p n s l ty ts, t, ht, h => by
    cases h with
    | flat hf => exact typed_flat _ t ht hf rfl rfl
    | con hm hl =>
      obtain ⟨k, hk, e⟩ := List.getElem_of_mem hm
      have e' : (wcons t).getD k ([], []) = (wcons t)[k] := getD_eq _ _ _ hk
      rw [e] at e'
      have hw := wcons_ok t ht _ hm
      have hlen := hl.len
      refine typed_con t k ht hk _ rfl (by rw [e']; rfl) (by rw [e']; exact hlen) (by show l.length ≤ 2; have := hw.1; simp only at this; omega) rfl rfl (fun i hi => ?_)
      rw [e']
      exact typedL_pure hl hw.2 i hi
theorem typedL_pure : ∀ {l : List Pt} {ks : List Nat}, TpL ks l → (∀ m ∈ ks, m < 5) → ∀ i (hi : i < l.length), TypedOk l[i] (ks.getD i 0)
  | [], _, .nil, _, i, hi => absurd hi (by simp)
  | x :: r, _ :: _, .cons h hl, h5, 0, _ => typed_pure (h5 _ (by simp)) h
  | x :: r, _ :: _, .cons h hl, h5, i + 1, hi => typedL_pure hl (fun m hm => h5 m (by simp [hm])) i (by simpa using hi)
end
end Go.Fu

/-
  A type's kind, whatever is left behind; a new signature.
-/
import Derived.Test.YtmhedpkbfaginaaGreatDoorFlKl
import Derived.Test.YtmhedpkbfaginaaGreatDoorFlZc
set_option maxHeartbeats 4000000
set_option linter.unusedSimpArgs false
set_option linter.unusedVariables false
set_option linter.unusedSectionVars false
namespace Go.Fu
open Go Go.Mx
set_option maxRecDepth 100000
set_option maxHeartbeats 1000000
theorem new_fr {S : Specs} (hS0 : has S n_136 = false) (hS1 : aget S n_11 = some sp_prelude) (hS2 : aget S n_10 = some sp_cat) (ds : List Da) (hl : ds.length ≤ 900) (hc : ∀ d ∈ ds, d.cons.length ≤ 1000) (h1 : ((conAts (pre3 ++ ds) 0).map fun x => x.1).Nodup) (n : Nat) (hn : 2000 ≤ n) (σ : Store) : ∃ σ' p m, T S (n + 1) n_136 [dPr ds] σ = some (.ret ⟨false, .ptr p 0⟩, σ') ∧ PN σ' p m (pre3 ++ ds) (conAts (pre3 ++ ds) 0) ∧ m < σ'.next := by
  obtain ⟨n, rfl⟩ : ∃ k, n = k + 1 := ⟨n - 1, by omega⟩
  rw [T_fun (af := a_103) hS0 rfl rfl]
  have p1 := pureC_prelude hS1 n
  have p2 := pureC_cat hS2 pre3 ds (by simp [pre3]) (by simp [pre3]; omega) n
  have hlen := len_D (pre3 ++ ds)
  have hL : (pre3 ++ ds).length ≤ 1000 := by simp [pre3]; omega
  have hc' : ∀ d ∈ pre3 ++ ds, d.cons.length ≤ 1000 := by
    intro d hd
    rcases List.mem_append.1 hd with h | h
    · simp only [pre3, List.mem_cons, List.not_mem_nil, or_false] at h
      rcases h with rfl | rfl | rfl <;> simp
    · exact hc d h
  generalize pre3 ++ ds = L at *
  have hd : dd pre3 ds = .list k_15 [dDl pre3, dDl ds] := rfl
  rw [hd] at p2
  obtain ⟨τ, hτ⟩ : ∃ τ, τ = GO (GM σ (.map [] 0)) [⟨false, dDl L⟩, ⟨false, .map σ.next⟩] := ⟨_, rfl⟩
  have hnx : (GM σ (.map [] 0)).next = σ.next + 1 := rfl
  have ho : aget τ.objs (σ.next + 1) = some [⟨false, dDl L⟩, ⟨false, .map σ.next⟩] := by rw [hτ]; exact agS _ _ _
  have hz : SF τ σ.next (conAts (L.take 0) 0) = τ := by
    rw [hτ]
    simp [SF, SM, GO, GM, conAts, esOf, aset, ifB]
  have hr := loopN_run (body := exec (T S (n + 1)) (n + 1) none a_43) (En1 L (σ.next + 1)) (fun i => SF τ σ.next (conAts (L.take i) 0)) L.length (r := _) (fun _ _ h => by cases h) (fun i hi => n1_step L _ _ i ho hi hL (hc' _ (List.getElem_mem hi)) hn h1) (n1_end L _) 0 (n + 1) (by omega) (by omega)
  simp only [hz, List.take_length] at hr
  refine ⟨SF τ σ.next (conAts L 0), σ.next + 1, σ.next, ?_, ?_⟩
  · simp only [En1, zeroI] at hr
    generalize SF τ σ.next (conAts L 0) = τ' at *
    simp only [a_103, dPr, sA, Nat.reduceAdd, Nat.reduceSub, Nat.reduceMul, Nat.reduceBEq, Nat.reduceLeDiff, Int.reduceBEq, Int.reduceBNe, Int.reduceLE, Int.reduceLT, Int.reduceGE, Int.reduceGT, Int.reduceNeg, kn, onel, p1, p2, memE, mMake, hlen, exec_frz, prom]
    rw [hnx, ← hτ]
    simp only [sA, Nat.reduceAdd, Nat.reduceSub, Nat.reduceMul, Nat.reduceBEq, Nat.reduceLeDiff, Int.reduceBEq, Int.reduceBNe, Int.reduceLE, Int.reduceLT, Int.reduceGE, Int.reduceGT, Int.reduceNeg, kn, onel, hlen, ho, hr]
  · refine ⟨⟨ho, SF_self, ?_⟩, ?_⟩
    · rw [hτ]
      show σ.next + 1 < σ.next + 1 + 1
      omega
    · rw [hτ]
      show σ.next < σ.next + 1 + 1
      omega
def SKn : Specs := [(n_9, sp_copied), (n_23, sp_terms), (n_30, sp_chain), (n_11, sp_prelude), (n_10, sp_cat)]
theorem SKn_kind : KndS SKn := ⟨⟨rfl, rfl, rfl, rfl, rfl, rfl, rfl, rfl, rfl, rfl, rfl, rfl, rfl, rfl⟩, rfl, rfl, rfl, rfl, rfl, rfl, rfl, rfl, rfl, rfl, rfl, rfl⟩
theorem kof_pure {ds : List Da} (h : MadeP ds) (hk : MadeK ds) {d : Da} (hd : d ∈ pre3 ++ ds) {c : Cn} (hc : c ∈ d.cons) (h2 : c.fs.length ≤ 10) (hf : ∀ t ∈ c.fs, KF d.vars (arl (pre3 ++ ds)) t) : OkP n_72 [dPr ds, dSs d.vars, dKl d.vars.length, dTy (typM d c)] ⟨false, .tup [.agg [.nils], .int .i64 0]⟩ := by
  have hv := made_arl h
  have hA : ∀ x ∈ arl (pre3 ++ ds), x.2 < 4 := fun x hx => by
    obtain ⟨e, he, rfl⟩ := List.mem_map.1 hx
    exact hv e he
  have h3 : ∀ x ∈ arl pre3, x ∈ arl (pre3 ++ ds) := fun x hx => by
    rw [arl, List.map_append]
    exact List.mem_append_left _ hx
  have hko : KO d.vars (arl (pre3 ++ ds)) (typM d c) 0 := KO.typM (List.mem_map.2 ⟨d, hd, rfl⟩) hf hA h3
  obtain ⟨σ', N, hN⟩ := kof_run SKn_kind ds (by have := h.1; omega) hv (made_nodup h hk) d.vars (hv d hd) (made_vars hk d hd) _ hko (tsz_typM (hv d hd) h2 hf hA) σ0
  refine pure_fun (af := a_36) (n := N) (σ' := σ') (T_sound SKn N) rfl rfl (by simp [noPtrL, noPtr_dPr, noPtr_dSs, noPtr_dKl, noPtr_dTy]) rfl ?_
  exact hN N _ (Nat.le_refl _)
end Go.Fu
namespace Go.Fu
open Go Go.Mx
set_option maxRecDepth 100000
set_option maxHeartbeats 4000000
theorem kStar_ok : OkP n_17 [] ⟨false, .agg [.nils]⟩ := by
  first
  | exact closed 20 rfl (by kernel_rfl) (by kernel_rfl) (σ' := σ0) (by kernel_rfl)
  | exact OkP.weak (o := true) rfl (closed 20 rfl (by kernel_rfl) (by kernel_rfl) (σ' := σ0) (by kernel_rfl))
theorem kSame_ok : OkP n_131 [.agg [.nils], .agg [.nils]] ⟨false, .bool true⟩ := closed 20 rfl (by kernel_rfl) (by kernel_rfl) (σ' := σ0) (by kernel_rfl)
theorem rem_pick (z : Int) (n : Nat) (hn : 0 < n) (hb : n ≤ 100000) : (0 ≤ z.tmod n ∧ ∃ j : Nat, j < n ∧ z.tmod n = j) ∨ (z.tmod n < 0 ∧ ∃ j : Nat, j < n ∧ z.tmod n + n = j) := by
  have h2 : z.tmod n < n := Int.tmod_lt_of_pos z (by omega)
  have h3 : -(n : Int) < z.tmod n := by
    have := Int.lt_tmod_of_pos z (b := (n : Int)) (by omega)
    omega
  by_cases h : 0 ≤ z.tmod n
  · exact .inl ⟨h, (z.tmod n).toNat, by omega, by omega⟩
  · exact .inr ⟨by omega, (z.tmod n + n).toNat, by omega, by omega⟩
def SLk (ds : List Da) : Specs := [(n_156, spK (dPr ds)), (n_11, sp_prelude), (n_10, sp_cat), (n_24, sp_typeOf), (n_25, sp_All), (n_65, sp_cloneS), (n_33, sp_cloneK), (n_72, spK (.tup [.agg [.nils], .int .i64 0])), (n_17, spK (.agg [.nils])), (n_131, spK (.bool true)), (n_135, spK (.bool true))]
theorem made_flds {ds : List Da} (hk : MadeK ds) : ∀ d ∈ pre3 ++ ds, ∀ c ∈ d.cons, ∀ t ∈ c.fs, KF d.vars (arl (pre3 ++ ds)) t := fun d hd c hc t ht => by
  rcases List.mem_append.1 hd with hd | hd
  · simp only [pre3, List.mem_cons, List.not_mem_nil, or_false] at hd
    rcases hd with rfl | rfl | rfl
    · cases hc
    · cases hc
    · simp only [List.mem_cons, List.not_mem_nil, or_false] at hc
      rcases hc with rfl | rfl <;> cases ht
  · refine (hk.flds d hd c hc t ht).mono fun x hx => ?_
    rw [arl, List.map_append]
    exact List.mem_append_right _ hx
theorem made_short {ds : List Da} (h : MadeP ds) : ∀ d ∈ pre3 ++ ds, ∀ c ∈ d.cons, c.fs.length ≤ 10 := fun d hd c hc => by
  rcases List.mem_append.1 hd with hd | hd
  · simp only [pre3, List.mem_cons, List.not_mem_nil, or_false] at hd
    rcases hd with rfl | rfl | rfl
    · cases hc
    · cases hc
    · simp only [List.mem_cons, List.not_mem_nil, or_false] at hc
      rcases hc with rfl | rfl <;> simp
  · obtain ⟨i, hi, rfl⟩ := List.getElem_of_mem hd
    have := (h.2 i _ (List.getElem?_eq_getElem hi)).short c hc
    omega
theorem law_kinds {d0 : D} {xs : List Int} (hR : IR d0 xs) (z : Int) : ∃ S σ1, T S 3001 n_312 [d0, .int .i64 z] σ0 = some (.ret ⟨false, .bool true⟩, σ1) := by
  obtain ⟨ds, hm, hf, hk, hok⟩ := made_ok2 hR
  obtain ⟨S, hS⟩ : ∃ S, S = SLk ds := ⟨_, rfl⟩
  have hMd := callK (S := S) (by rw [hS]; rfl) rfl hok 2999 σ0
  obtain ⟨_, hfl⟩ := fine_all3 hf
  have h4 := hm.1
  have hL : (pre3 ++ ds).length ≤ 1000 := by simp [pre3]; omega
  obtain ⟨σ1, p, m, hN, hP, hml⟩ := new_fr (S := S) (by rw [hS]; rfl) (by rw [hS]; rfl) (by rw [hS]; rfl) ds (by omega) (fun d hd => (hf.2 d hd).cons) (made_once hm) 2999 (by omega) σ0
  obtain ⟨σ2, o, hF, hFo⟩ := fields_fr (S := S) ⟨by rw [hS]; rfl, by rw [hS]; rfl, by rw [hS]; rfl, by rw [hS]; rfl, by rw [hS]; rfl⟩ hP hL hfl 2996 (by omega)
  have hP2 : PN σ2 p m (pre3 ++ ds) (conAts (pre3 ++ ds) 0) := ⟨(hFo.objs _ hP.lt).trans hP.obj, (hFo.oth _ hml).trans hP.map, Nat.lt_of_lt_of_le hP.lt hFo.le⟩
  have hSc := fun s => scheme_run (S := S) (by rw [hS]; rfl) (by rw [hS]; rfl) (by rw [hS]; rfl) (by rw [hS]; rfl) (by rw [hS]; rfl) hP2 hL hfl s 2998
  have hlenF : (fieldsM (pre3 ++ ds)).length ≤ 100000 := by
    have h7 : (pre3 ++ ds).length ≤ 7 := by simp [pre3]; omega
    have := fieldsM_len (pre3 ++ ds) fun d hd => (hfl d hd).cons
    omega
  have hpos := fields_pos ds
  have hLv := callK (S := S) (by rw [hS]; rfl) rfl lives_ok 2999 σ2
  have hSt := callK (S := S) (by rw [hS]; rfl) rfl kStar_ok 2999 σ2
  have hSm := callK (S := S) (by rw [hS]; rfl) rfl kSame_ok 2999 σ2
  have key : ∀ j (hj : j < (fieldsM (pre3 ++ ds)).length), ∃ d k c, T S 3000 n_75 [.ptr p 0, .str (fieldsM (pre3 ++ ds))[j].name] σ2 = some (.ret ⟨false, .tup [.agg ([dSs d.vars, dKl d.vars.length, .nils] ++ cTy (typM d c)), .bool true]⟩, σ2) ∧ k = d.vars.length ∧ T S 3000 n_72 [dPr ds, dSs d.vars, dKl d.vars.length, dTy (typM d c)] σ2 = some (.ret ⟨false, .tup [.agg [.nils], .int .i64 0]⟩, σ2) := by
    intro j hj
    have h1 := hSc (fieldsM (pre3 ++ ds))[j].name
    have h2 := conM_isSome (pre3 ++ ds) (List.mem_map_of_mem (f := Fi.name) (List.getElem_mem hj))
    unfold schR at h1
    cases hc : conM (fieldsM (pre3 ++ ds))[j].name (pre3 ++ ds) with
    | none => rw [hc] at h2; cases h2
    | some q =>
      obtain ⟨d, k⟩ := q
      obtain ⟨c, hck⟩ := conM_at hc
      obtain ⟨hk', _⟩ := List.getElem?_eq_some_iff.1 hck
      rw [hc] at h1
      simp only [getD_eq _ _ _ hk'] at h1
      have hd := conM_mem hc
      have hcm := List.getElem_mem hk'
      exact ⟨d, _, d.cons[k], h1, rfl, callK (S := S) (by rw [hS]; rfl) rfl (kof_pure hm hk hd hcm (made_short hm d hd _ hcm) (made_flds hk d hd _ hcm)) 2999 σ2⟩
  have hlen := len_F (fieldsM (pre3 ++ ds))
  have hidx := idx_F (fieldsM (pre3 ++ ds))
  have hn0 : (((fieldsM (pre3 ++ ds)).length : Int) == 0) = false := beq_false_of_ne (by omega)
  refine ⟨S, σ2, ?_⟩
  rw [T_fun (af := a_69) (by rw [hS]; rfl) rfl rfl]
  have epr : dPr ds = .agg [dDl ds, .nils, .nils, .nils] := rfl
  rcases rem_pick z _ hpos hlenF with ⟨hge, j, hj, e⟩ | ⟨hlt, j, hj, e⟩
  · obtain ⟨d, k, c, h1, _, h2⟩ := key j hj
    have hx := hidx j hj
    have w := wrap64 (n := z.tmod (fieldsM (pre3 ++ ds)).length) (by omega) (by omega)
    rw [e] at w
    have hnl : ¬ ((j : Int) < 0) := by omega
    rw [epr] at hMd hN h2
    generalize (fieldsM (pre3 ++ ds))[j] = x at *
    generalize fieldsM (pre3 ++ ds) = FF at *
    generalize typM d c = t at *
    simp only [dFi, cFi, dTy_eq, cTy_eq, List.cons_append, List.nil_append] at hx h1 h2
    simp only [a_69, sA, Nat.reduceAdd, Nat.reduceSub, Nat.reduceMul, Nat.reduceBEq, Nat.reduceLeDiff, Int.reduceBEq, Int.reduceBNe, Int.reduceLE, Int.reduceLT, Int.reduceGE, Int.reduceGT, Int.reduceNeg, kn, onel, hMd, hN, hF, hlen, hn0, e, w, hnl, natI, hx, h1, h2, hSt, hSm, hLv]
  · obtain ⟨d, k, c, h1, _, h2⟩ := key j hj
    have hx := hidx j hj
    have w := wrap64 (n := z.tmod (fieldsM (pre3 ++ ds)).length) (by omega) (by omega)
    have w2 := wrap64 (n := z.tmod (fieldsM (pre3 ++ ds)).length + (fieldsM (pre3 ++ ds)).length) (by omega) (by omega)
    rw [e] at w2
    rw [epr] at hMd hN h2
    generalize (fieldsM (pre3 ++ ds))[j] = x at *
    generalize fieldsM (pre3 ++ ds) = FF at *
    generalize typM d c = t at *
    simp only [dFi, cFi, dTy_eq, cTy_eq, List.cons_append, List.nil_append] at hx h1 h2
    simp only [a_69, sA, Nat.reduceAdd, Nat.reduceSub, Nat.reduceMul, Nat.reduceBEq, Nat.reduceLeDiff, Int.reduceBEq, Int.reduceBNe, Int.reduceLE, Int.reduceLT, Int.reduceGE, Int.reduceGT, Int.reduceNeg, kn, onel, hMd, hN, hF, hlen, hn0, e, w, w2, hlt, natI, hx, h1, h2, hSt, hSm, hLv]
end Go.Fu

/-
  What is made: all of it.
-/
import Derived.Test.YtmhedpkbfaginaaGreatDoorFlU2
import Derived.Test.YtmhedpkbfaginaaGreatDoorFlT
import Derived.Test.YtmhedpkbfaginaaGreatDoorFlX
import Derived.Test.YtmhedpkbfaginaaGreatDoorFlIds
set_option maxHeartbeats 4000000
set_option linter.unusedSimpArgs false
set_option linter.unusedVariables false
set_option linter.unusedSectionVars false
namespace Go.Fu
open Go Go.Mx
set_option maxRecDepth 10000
set_option maxHeartbeats 4000000
theorem nms_snoc (i k : Nat) (hk : k < 3) : nms i (k + 1) = nms i k ++ [nm4.getD i [] ++ all3.getD k []] := by
  have h : k < all3.length := hk
  simp only [nms]
  rw [← take_snoc all3 k h, List.map_append, getD_eq _ _ _ h]
  rfl
theorem m2_end {C : CallF} {n : Nat} {σ : Store} (d0 : D) (ds : List Da) (i a v : Nat) (hv9 : v < 9223372036854775808) (s : Tx) (p : Int) (vs : List Tx) (cs : List Cn) (hcs : cs.length = v / 4 % 4) : exec C n none a_26 (Em2 d0 ds i a v s p vs cs) σ = some (.exit 4, { Em2 d0 ds i a v s p vs cs with slots := [(0, ⟨false, d0⟩), (3, ⟨true, nmD⟩), (4, ⟨true, alD⟩), (6, ⟨false, .int .i64 a⟩), (7, ⟨false, .int .i64 i⟩), (9, ⟨false, .int .i64 v⟩), (11, ⟨false, .int .i64 cs.length⟩), (60, ⟨false, .bool false⟩)] }, σ) := by
  have t4 : (((v / 4 : Nat) : Int)).tmod 4 = ((v / 4 % 4 : Nat) : Int) := tmodN _ 4
  have w4 : IntKind.i64.wrap ((v / 4 % 4 : Nat) : Int) = ((v / 4 % 4 : Nat) : Int) := wrap64 (by omega) (by omega)
  have q4 : ((v : Int)).tdiv 4 = ((v / 4 : Nat) : Int) := tdivN v 4
  have wq : IntKind.i64.wrap ((v / 4 : Nat) : Int) = ((v / 4 : Nat) : Int) := wrap64 (by omega) (by omega)
  rw [← hcs] at t4 w4
  have hlt : ¬ ((cs.length : Int) < (cs.length : Int)) := by omega
  simp only [a_26, Em2, sA, Nat.reduceAdd, Nat.reduceSub, Nat.reduceMul, Nat.reduceBEq, Nat.reduceLeDiff, Int.reduceBEq, Int.reduceBNe, Int.reduceLE, Int.reduceLT, Int.reduceGE, Int.reduceGT, Int.reduceNeg, kn, onel, q4, wq, t4, w4, hlt]
structure MC (i : Nat) (cs : List Cn) : Prop where
  nm : cs.map Cn.name = nms i cs.length
  sh : ∀ c ∈ cs, c.fs.length ≤ 2 ∧ ∀ t ∈ c.fs, Fine t
theorem m2_run {d0 : D} {xs : List Int} (hR : IR d0 xs) (ds : List Da) (hds : ds.length ≤ 100) (hvs : ∀ d ∈ ds, d.vars.length ≤ 3) (i a v : Nat) (hi : i < 4) (hv9 : v < 9223372036854775808) (ha : a < 700000) (s : Tx) (p : Int) (vs : List Tx) (hv : vs.length ≤ 3) (σ : Store) :
    ∃ cs a', loopN (exec (T (SMd d0 xs) 1) 5 none a_26) 5 (Em2 d0 ds i a v s p vs []) σ = some (.exit 4, { Em2 d0 ds i a' v s p vs cs with slots := [(0, ⟨false, d0⟩), (3, ⟨true, nmD⟩), (4, ⟨true, alD⟩), (6, ⟨false, .int .i64 (a' : Nat)⟩), (7, ⟨false, .int .i64 i⟩), (9, ⟨false, .int .i64 v⟩), (11, ⟨false, .int .i64 cs.length⟩), (60, ⟨false, .bool false⟩)] }, σ) ∧ cs.length ≤ 3 ∧ MC i cs ∧ a' ≤ a + 9 := by
  obtain ⟨r, hr, cs, a', rfl, h1, h2, h3⟩ := loopN_inv (body := exec (T (SMd d0 xs) 1) 5 none a_26)
    (fun k e σ' => σ' = σ ∧ ∃ cs a', e = Em2 d0 ds i a' v s p vs cs ∧ cs.length = k ∧ MC i cs ∧ a' ≤ a + 3 * k)
    (fun r => ∃ cs a', r = (.exit 4, { Em2 d0 ds i a' v s p vs cs with slots := [(0, ⟨false, d0⟩), (3, ⟨true, nmD⟩), (4, ⟨true, alD⟩), (6, ⟨false, .int .i64 (a' : Nat)⟩), (7, ⟨false, .int .i64 i⟩), (9, ⟨false, .int .i64 v⟩), (11, ⟨false, .int .i64 cs.length⟩), (60, ⟨false, .bool false⟩)] }, σ) ∧ cs.length ≤ 3 ∧ MC i cs ∧ a' ≤ a + 9) (v / 4 % 4)
    (fun k e σ' hk ⟨hσ, cs, a', he, hl, hm, hb⟩ => by
      subst he
      subst hσ
      obtain ⟨c, a2, g1, g2, g3, g4, g5⟩ := m2_step hR ds hds hvs i a' v hi hv9 (by omega) s p vs hv cs (by omega) σ'
      refine ⟨_, _, g1, rfl, cs ++ [c], a2, rfl, by simp [hl], ⟨?_, fun x hx => ?_⟩, by omega⟩
      · rw [List.length_append, List.length_singleton, List.map_append, nms_snoc i _ (by omega), hm.nm]
        simp only [List.map_cons, List.map_nil, g2]
      · rcases List.mem_append.1 hx with h | h
        · exact hm.sh x h
        · rw [List.mem_singleton.1 h]; exact ⟨g3, g4⟩)
    (fun e σ' ⟨hσ, cs, a', he, hl, hm, hb⟩ => by
      subst he
      subst hσ
      exact ⟨_, m2_end d0 ds i a' v hv9 s p vs cs hl, fun _ _ h => (by cases h), cs, a', rfl, by omega, hm, by omega⟩) 0 5 (Em2 d0 ds i a v s p vs []) σ (by omega) (by omega) ⟨rfl, [], a, rfl, rfl, ⟨rfl, fun _ h => (by cases h)⟩, by omega⟩
  exact ⟨cs, a', hr, h1, h2, h3⟩
structure MP (ds : List Da) : Prop where
  each : ∀ i d, ds[i]? = some d → d.name = nm4.getD i [] ∧ d.vars.length ≤ 3 ∧ d.cons.length ≤ 3 ∧ MC i d.cons
theorem MP.vars {ds : List Da} (h : MP ds) : ∀ d ∈ ds, d.vars.length ≤ 3 := fun d hd => by
  obtain ⟨i, hi, rfl⟩ := List.getElem_of_mem hd
  exact (h.each i _ (List.getElem?_eq_getElem hi)).2.1
def Em3 (d0 : D) (ds : List Da) (a : Nat) : Env := { slots := [(0, ⟨false, d0⟩), (3, ⟨true, nmD⟩), (4, ⟨true, alD⟩), (6, ⟨false, .int .i64 a⟩), (7, ⟨false, .int .i64 ds.length⟩)], locs := [(2, 2, 0), (5, 5, 0)], boxes := [(2, z4o), (5, bPr ds)], defers := [] }
theorem m3_step {d0 : D} {xs : List Int} (hR : IR d0 xs) (ds : List Da) (hm : MP ds) (a : Nat) (ha : a < 600000) (hk : ds.length < pickM xs 0 % 5) (σ : Store) : ∃ d a', exec (T (SMd d0 xs) 1) 5 none a_44 (Em3 d0 ds a) σ = some (.normal, Em3 d0 (ds ++ [d]) a', σ) ∧ MP (ds ++ [d]) ∧ a' ≤ a + 10 := by
  have hi : ds.length < nm4.length := by show ds.length < 4; omega
  have hp0 := call_pick hR 0 (by omega) 0 σ
  rw [zeroI] at hp0
  have hx0 := pickM_lt hR.small 0
  have t5 : ((pickM xs 0 : Nat) : Int).tmod 5 = ((pickM xs 0 % 5 : Nat) : Int) := tmodN _ 5
  have w5 : IntKind.i64.wrap ((pickM xs 0 % 5 : Nat) : Int) = ((pickM xs 0 % 5 : Nat) : Int) := wrap64 (by omega) (by omega)
  have hlt : (ds.length : Int) < ((pickM xs 0 % 5 : Nat) : Int) := by omega
  have hx : indexD 1 nmD ds.length = some (.eptr (.str nm4[ds.length])) := idx_S nm4 _ hi
  have hon : nmD.one = true := rfl
  have hoa : alD.one = true := rfl
  have wi := wrap64_succ (i := ds.length) (by omega)
  have wa := wrap64_succ (i := a) (by omega)
  have hpa := call_pick hR a (by omega) 0 σ
  obtain ⟨v, hv⟩ : ∃ v, v = pickM xs a := ⟨_, rfl⟩
  have hv9 : v < 9223372036854775808 := by rw [hv]; exact pickM_lt hR.small _
  rw [← hv] at hpa
  have t4 : ((v : Int)).tmod 4 = ((v % 4 : Nat) : Int) := tmodN v 4
  have w4 : IntKind.i64.wrap ((v % 4 : Nat) : Int) = ((v % 4 : Nat) : Int) := wrap64 (by omega) (by omega)
  obtain ⟨vs, hvs⟩ : ∃ vs, vs = all3.take (v % 4) := ⟨_, rfl⟩
  have hvl : vs.length = v % 4 := by rw [hvs, List.length_take]; show min (v % 4) 3 = _; omega
  obtain ⟨S, hS1, hS2⟩ : ∃ S, sliceD 1 alD 0 (some (v % 4)) = some S ∧ asList S = some (vs.map D.str) := by
    refine ⟨.list k_2 (vs.map D.str), ?_, rfl⟩
    rw [hvs]
    have h4 : v % 4 < 4 := by omega
    generalize v % 4 = c at h4
    match c, h4 with
    | 0, _ => rfl
    | 1, _ => rfl
    | 2, _ => rfl
    | 3, _ => rfl
  have hapv : appendD k_2 16 ⟨false, .nils⟩ (vs.map D.str) = some ⟨true, dSs vs⟩ := by
    have h := append_more (r := k_2) (by_ := 16) (es := []) (ys := vs.map D.str) (o := false) (fun h => absurd rfl h) (fun d hd => by
      obtain ⟨x, _, rfl⟩ := List.mem_map.1 hd
      exact ⟨rfl, rfl⟩) (by simp [bound]; omega) (by simp [bound]; omega)
    exact h
  have hr0 := loopN_run (body := exec (T (SMd d0 xs) 1) 5 none a_43) (Em0 d0 ds ds.length (a + 1) v nm4[ds.length] ((ds.length + 1 : Nat) : Int) vs) (fun _ => σ) (v % 4) (r := _) (fun _ _ h => by cases h) (fun m hm => m0_step d0 ds ds.length (a + 1) v hv9 nm4[ds.length] ((ds.length + 1 : Nat) : Int) vs m hm) (m0_end d0 ds ds.length (a + 1) v hv9 nm4[ds.length] ((ds.length + 1 : Nat) : Int) vs) 0 5 (by omega) (by omega)
  obtain ⟨cs, a', hr2, h1, h2, h3⟩ := m2_run hR ds (by omega) hm.vars ds.length (a + 1) v (by omega) hv9 (by omega) nm4[ds.length] ((ds.length + 1 : Nat) : Int) vs (by omega) σ
  have hap := app_D ds ⟨nm4[ds.length], ((ds.length + 1 : Nat) : Int), vs, cs⟩ (fl ds) fl_ne (by omega)
  refine ⟨⟨nm4[ds.length], ((ds.length + 1 : Nat) : Int), vs, cs⟩, a', ?_, ⟨fun k d hd => ?_⟩, by omega⟩
  · unfold Em3
    rw [List.length_append, List.length_singleton]
    simp only [bPr]
    rw [fl_snoc]
    have ek : dDa ⟨nm4[ds.length], ((ds.length + 1 : Nat) : Int), vs, cs⟩ = .agg [.str nm4[ds.length], .int .i64 ((ds.length + 1 : Nat) : Int), dSs vs, dKl vs.length, dCl cs] := rfl
    rw [ek] at hap
    generalize ds ++ [⟨nm4[ds.length], ((ds.length + 1 : Nat) : Int), vs, cs⟩] = ds' at *
    generalize nm4[ds.length] = x at *
    have o0 : ow 0 = false := rfl
    have k0 : dKl 0 = .nils := rfl
    have f0 : fl ([] : List Cn) = false := rfl
    have c0 : dCl [] = .nils := rfl
    rw [← hvl] at hr0 hS1 t4 w4
    simp only [Em0, bDa, bPr, zeroI, o0, k0, f0, c0] at hr0
    simp only [Em2, bDa, bPr, List.length_nil, zeroI, f0, c0] at hr2
    simp only [a_44, sA, Nat.reduceAdd, Nat.reduceSub, Nat.reduceMul, Nat.reduceBEq, Nat.reduceLeDiff, Int.reduceBEq, Int.reduceBNe, Int.reduceLE, Int.reduceLT, Int.reduceGE, Int.reduceGT, Int.reduceNeg, kn, onel, zeroI, hp0, t5, w5, hlt, hx, hon, hoa, natI, wi, wa, hpa, t4, w4, hS1, hS2, hapv, hr0, hr2, hap]
  · rcases Nat.lt_or_ge k ds.length with h | h
    · rw [List.getElem?_append_left h] at hd
      exact hm.each k d hd
    · rw [List.getElem?_append_right h] at hd
      obtain ⟨hk0, e⟩ := List.getElem?_eq_some_iff.1 hd
      have : k = ds.length := by simp at hk0; omega
      subst this
      simp only [Nat.sub_self, List.getElem_cons_zero] at e
      subst e
      exact ⟨(getD_eq _ _ _ hi).symm, by show vs.length ≤ 3; omega, h1, h2⟩
theorem m3_end {d0 : D} {xs : List Int} (hR : IR d0 xs) (ds : List Da) (a : Nat) (hk : ds.length = pickM xs 0 % 5) (σ : Store) : exec (T (SMd d0 xs) 1) 5 none a_44 (Em3 d0 ds a) σ = some (.exit 0, { Em3 d0 ds a with slots := [(0, ⟨false, d0⟩), (3, ⟨true, nmD⟩), (4, ⟨true, alD⟩), (6, ⟨false, .int .i64 a⟩), (7, ⟨false, .int .i64 ds.length⟩), (21, ⟨false, .bool false⟩)] }, σ) := by
  have hp0 := call_pick hR 0 (by omega) 0 σ
  rw [zeroI] at hp0
  have hx0 := pickM_lt hR.small 0
  have t5 : ((pickM xs 0 : Nat) : Int).tmod 5 = ((pickM xs 0 % 5 : Nat) : Int) := tmodN _ 5
  have w5 : IntKind.i64.wrap ((pickM xs 0 % 5 : Nat) : Int) = ((pickM xs 0 % 5 : Nat) : Int) := wrap64 (by omega) (by omega)
  rw [← hk] at t5 w5
  have hlt : ¬ ((ds.length : Int) < (ds.length : Int)) := by omega
  simp only [a_44, Em3, sA, Nat.reduceAdd, Nat.reduceSub, Nat.reduceMul, Nat.reduceBEq, Nat.reduceLeDiff, Int.reduceBEq, Int.reduceBNe, Int.reduceLE, Int.reduceLT, Int.reduceGE, Int.reduceGT, Int.reduceNeg, kn, onel, hp0, t5, w5, hlt]
theorem MP.made {ds : List Da} (h : MP ds) (hl : ds.length ≤ 4) : MadeP ds := ⟨hl, fun i d hd => by
  obtain ⟨h1, h2, h3, h4⟩ := h.each i d hd
  exact ⟨h1, h2, h3, h4.nm, fun c hc => (h4.sh c hc).1⟩⟩
theorem MP.fine {ds : List Da} (h : MP ds) (hl : ds.length ≤ 4) : FineL ds := ⟨by omega, fun d hd => by
  obtain ⟨i, hi, rfl⟩ := List.getElem_of_mem hd
  obtain ⟨h1, h2, h3, h4⟩ := h.each i _ (List.getElem?_eq_getElem hi)
  exact ⟨by omega, by omega, fun c hc => ⟨by have := (h4.sh c hc).1; omega, (h4.sh c hc).2⟩⟩⟩
theorem made_ok {d0 : D} {xs : List Int} (hR : IR d0 xs) : ∃ ds, MadeP ds ∧ FineL ds ∧ OkP n_127 [d0] ⟨false, dPr ds⟩ := by
  have hlt5 : pickM xs 0 % 5 < 5 := Nat.mod_lt _ (by omega)
  obtain ⟨r, hr, ds, a, rfl, h1, h2⟩ := loopN_inv (body := exec (T (SMd d0 xs) 1) 5 none a_44)
    (fun k e σ' => σ' = σ0 ∧ ∃ ds a, e = Em3 d0 ds a ∧ ds.length = k ∧ MP ds ∧ a ≤ 1 + 10 * k)
    (fun r => ∃ ds a, r = (.exit 0, { Em3 d0 ds a with slots := [(0, ⟨false, d0⟩), (3, ⟨true, nmD⟩), (4, ⟨true, alD⟩), (6, ⟨false, .int .i64 a⟩), (7, ⟨false, .int .i64 ds.length⟩), (21, ⟨false, .bool false⟩)] }, σ0) ∧ ds.length ≤ 4 ∧ MP ds) (pickM xs 0 % 5)
    (fun k e σ' hk ⟨hσ, ds, a, he, hl, hm, hb⟩ => by
      subst he
      subst hσ
      obtain ⟨d, a2, g1, g2, g3⟩ := m3_step hR ds hm a (by omega) (by omega) σ0
      exact ⟨_, _, g1, rfl, ds ++ [d], a2, rfl, by simp [hl], g2, by omega⟩)
    (fun e σ' ⟨hσ, ds, a, he, hl, hm, hb⟩ => by
      subst he
      subst hσ
      exact ⟨_, m3_end hR ds a hl σ0, fun _ _ h => (by cases h), ds, a, rfl, by omega, hm⟩) 0 5 (Em3 d0 [] 1) σ0 (by omega) (by omega) ⟨rfl, [], 1, rfl, rfl, ⟨fun i d h => by simp at h⟩, by omega⟩
  refine ⟨ds, h2.made h1, h2.fine h1, ?_⟩
  refine pure_fun (af := a_94) (n := 5) (σ' := σ0) (T_sound (SMd d0 xs) 1) rfl rfl (by simp [noPtrL, hR.np]) (noPtr_dPr _) ?_
  have f0 : fl ([] : List Da) = false := rfl
  have d00 : dDl [] = .nils := rfl
  have hN : D.list k_2 [.str [76], .str [80], .str [81], .str [84]] = nmD := rfl
  have hA : D.list k_2 [.str [97], .str [98], .str [99]] = alD := rfl
  simp only [Em3, bPr, z4o, f0, d00, List.length_nil, zeroI, oneI] at hr
  simp only [a_94, sA, Nat.reduceAdd, Nat.reduceSub, Nat.reduceMul, Nat.reduceBEq, Nat.reduceLeDiff, Int.reduceBEq, Int.reduceBNe, Int.reduceLE, Int.reduceLT, Int.reduceGE, Int.reduceGT, Int.reduceNeg, kn, onel, hN, hA, dPr, hr]
end Go.Fu
namespace Go.Fu
open Go Go.Mx
set_option maxRecDepth 1000000
theorem lives_runs : livesA 60 n_76 = true := by kernel_rfl
theorem lives_ok : OkP n_76 [] ⟨false, .bool true⟩ := by
  intro σ
  have h := lives_runs
  unfold livesA at h
  split at h
  · rename_i s hx
    exact frame_rule rfl ((run_sound Γa_holds Ra_sound Xa_sound 60).1 _ [] σ0 _ _ hx) rfl rfl σ
  · cases h
end Go.Fu
namespace Go.Fu
open Go Go.Mx
set_option maxRecDepth 10000
set_option maxHeartbeats 4000000
def spK (d : D) : List D → Cell → Prop := fun _ c => c = ⟨false, d⟩
theorem callK {S : Specs} {f : FuncId} {d : D} {args : List D} (hS : aget S f = some (spK d)) (hY : isY f = false) (h : OkP f args ⟨false, d⟩) (n : Nat) (σ : Store) : T S (n + 1) f args σ = some (.ret ⟨false, d⟩, σ) := by
  obtain ⟨c, g1, g2⟩ := T_orc (S := S) hS hY (s := spK d) rfl h
  rw [g2, g1]
def SLw (ds : List Da) (s : Tx) : Specs := [(n_127, spK (dPr ds)), (n_17, sp_prelude), (n_21, sp_cat), (n_18, sp_typeOf), (n_22, sp_All), (n_65, sp_cloneS), (n_31, sp_cloneK),
  (n_124, spK (conR (conM s (pre3 ++ ds)))), (n_125, spK (dataR (dataM s (pre3 ++ ds)))), (n_126, spK (dFl (fieldsM (pre3 ++ ds)))), (n_128, spK (.bool true)), (n_11, sp_rtype), (n_8, sp_equal), (n_76, spK (.bool true))]
theorem dataR_eq (o : Option Da) : dataR o = .tup [dDa (o.getD zDa), .bool o.isSome] := by cases o <;> rfl
theorem fields_fine : ∀ (L : List Da), (∀ d ∈ L, FineD d) → ∀ x ∈ fieldsM L, Fine x.ty := by
  have h1 : ∀ (d : Da) (l : List Cn) (k : Nat), (∀ c ∈ l, FineC c) → ∀ x ∈ fieldsD d l k, Fine x.ty := by
    intro d l
    induction l with
    | nil => intro k _ x hx; cases hx
    | cons c r ih =>
      intro k hc x hx
      rcases List.mem_cons.1 hx with rfl | hx
      · exact fine_allM _ (fine_typ (hc c (by simp))) _
      · exact ih (k + 1) (fun c' h => hc c' (by simp [h])) x hx
  intro L
  induction L with
  | nil => intro _ x hx; cases hx
  | cons d r ih =>
    intro hd x hx
    rcases List.mem_append.1 hx with hx | hx
    · exact h1 d _ _ (hd d (by simp)).each x hx
    · exact ih (fun d' h => hd d' (by simp [h])) x hx
theorem law_tells {d0 : D} {xs : List Int} (hR : IR d0 xs) (s : Tx) : ∃ S σ1, T S 3001 n_266 [d0, .str s] σ0 = some (.ret ⟨false, .bool true⟩, σ1) := by
  obtain ⟨ds, hm, hf, hok⟩ := made_ok hR
  obtain ⟨S, hS⟩ : ∃ S, S = SLw ds s := ⟨_, rfl⟩
  have hMd := callK (S := S) (by rw [hS]; rfl) rfl hok 2999 σ0
  obtain ⟨_, hfl⟩ := fine_all3 hf
  have h4 := hm.1
  have hL : (pre3 ++ ds).length ≤ 1000 := by simp [pre3]; omega
  obtain ⟨σ1, p, m, hN, hP⟩ := new_run (S := S) (by rw [hS]; rfl) (by rw [hS]; rfl) (by rw [hS]; rfl) ds (by omega) (fun d hd => (hf.2 d hd).cons) (made_once hm) 2999 (by omega) σ0
  have hC := con_run (S := S) (by rw [hS]; rfl) hP hL s 2999
  obtain ⟨σ2, hD, hP2⟩ := data_run (S := S) (by rw [hS]; rfl) (by rw [hS]; rfl) (by rw [hS]; rfl) hP hL s 2998 (by omega)
  have hSc := scheme_run (S := S) (by rw [hS]; rfl) (by rw [hS]; rfl) (by rw [hS]; rfl) (by rw [hS]; rfl) (by rw [hS]; rfl) hP2 hL hfl s 2998
  obtain ⟨σ3, o, hF⟩ := fields_run (S := S) ⟨by rw [hS]; rfl, by rw [hS]; rfl, by rw [hS]; rfl, by rw [hS]; rfl, by rw [hS]; rfl⟩ hP2 hL hfl 2996 (by omega)
  have hRC := callK (S := S) (by rw [hS]; rfl) rfl (rcon_pure ds hf s) 2999 σ1
  have hRD := callK (S := S) (by rw [hS]; rfl) rfl (rdata_pure ds hf s) 2999 σ2
  have hRF := callK (S := S) (by rw [hS]; rfl) rfl (rfields_pure ds hf) 2999 σ3
  have hlenF : (fieldsM (pre3 ++ ds)).length ≤ 100000 := by
    have h7 : (pre3 ++ ds).length ≤ 7 := by simp [pre3]; omega
    have := fieldsM_len (pre3 ++ ds) fun d hd => (hfl d hd).cons
    omega
  have hSF := callK (S := S) (by rw [hS]; rfl) rfl (same_pure (fieldsM (pre3 ++ ds)) hlenF (fields_fine _ hfl)) 2999 σ3
  have hLv := callK (S := S) (by rw [hS]; rfl) rfl lives_ok 2999 σ3
  refine ⟨S, σ3, ?_⟩
  rw [T_fun (af := a_68) (by rw [hS]; rfl) rfl rfl]
  generalize fieldsM (pre3 ++ ds) = FF at *
  unfold schR at hSc
  rw [dataR_eq] at hD hRD
  generalize (dataM s (pre3 ++ ds)).getD zDa = dt at *
  generalize (dataM s (pre3 ++ ds)).isSome = db at *
  have hTy : ∀ d k, conM s (pre3 ++ ds) = some (d, k) → ∃ h : k < d.cons.length, T S 3000 n_11 [dDa d, .int .i64 k] σ3 = some (.ret ⟨false, dTy (typM d (d.cons[k]'h))⟩, σ3) ∧ T S 3000 n_8 [dTy (typM d (d.cons[k]'h)), dTy (typM d (d.cons[k]'h))] σ3 = some (.ret ⟨false, .bool true⟩, σ3) := by
    intro d k h
    obtain ⟨c, hck⟩ := conM_at h
    obtain ⟨hk, _⟩ := List.getElem?_eq_some_iff.1 hck
    have hdl := hfl d (conM_mem h)
    exact ⟨hk, call_rtype (S := S) (by rw [hS]; rfl) d hdl k hk 2999 σ3, call_equal (S := S) (by rw [hS]; rfl) _ (fine_typ (hdl.each _ (List.getElem_mem hk))) 2999 σ3⟩
  have epr : dPr ds = .agg [dDl ds, .nils, .nils, .nils] := rfl
  rw [epr] at hMd hN hRC hRD hRF
  generalize conM s (pre3 ++ ds) = cm at *
  cases cm with
  | none =>
    have ez : dDa zDa = .agg [.str [], .int .i64 0, .nils, .nils, .nils] := rfl
    simp only [conR, ez] at hC hRC
    simp only [dDa_eq] at hD hRD
    simp only at hSc
    simp only [a_68, sA, Nat.reduceAdd, Nat.reduceSub, Nat.reduceMul, Nat.reduceBEq, Nat.reduceLeDiff, Int.reduceBEq, Int.reduceBNe, Int.reduceLE, Int.reduceLT, Int.reduceGE, Int.reduceGT, Int.reduceNeg, kn, onel, hMd, hN, hC, hRC, hD, hRD, hSc, hF, hRF, hSF, hLv, bne_self_eq_false]
  | some q =>
    obtain ⟨d, k⟩ := q
    obtain ⟨hk, hT, hE⟩ := hTy d k rfl
    have l1 := len_S d.vars
    have l2 := len_K d.vars.length
    have z00 : (((0 : Nat) : Int) == 0) = true := rfl
    simp only [conR] at hC hRC
    simp only [getD_eq _ _ _ hk] at hSc
    generalize typM d d.cons[k] = t at *
    simp only [dDa_eq, dTy_eq, cTy_eq, List.cons_append, List.nil_append] at hD hRD hC hRC hSc hT hE
    simp only [a_68, sA, Nat.reduceAdd, Nat.reduceSub, Nat.reduceMul, Nat.reduceBEq, Nat.reduceLeDiff, Int.reduceBEq, Int.reduceBNe, Int.reduceLE, Int.reduceLT, Int.reduceGE, Int.reduceGT, Int.reduceNeg, kn, onel, hMd, hN, hC, hRC, hD, hRD, hSc, hF, hRF, hSF, hLv, hT, hE, l1, l2, z00, bne_self_eq_false]
theorem IR.of {d : D} {xs : List Int} (hR : IntRow k_int d xs) (hs : ∀ x ∈ xs, Small x) : IR d xs := by
  have key : ∀ ys : List Int, (∀ x ∈ ys, Small x) → IR (.list k_int (ys.map fun x => .int .i64 x)) ys := by
    intro ys hs
    refine ⟨by simp [lenOf], fun i h => ?_, by rw [noPtr]; exact noPtrL_map (fun _ => rfl) ys, hs⟩
    have hn : nth (ys.map fun x => D.int .i64 x) i = some (.int .i64 ys[i]) := by rw [nth_map, nth_get _ _ h]; rfl
    have hk : (k_int.sz == 1) = true := rfl
    rw [idxL, hk, hn]
    rfl
  rcases hR with rfl | ⟨rfl, rfl⟩
  · exact key xs hs
  · exact ⟨rfl, fun i h => by simp at h, rfl, hs⟩
end Go.Fu

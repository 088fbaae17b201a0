/-
  What is made: kinds, constructors' fields.
-/
import Derived.Test.YtmhedpkbfaginaaGreatDoorFlS
set_option maxHeartbeats 4000000
set_option linter.unusedSimpArgs false
set_option linter.unusedVariables false
set_option linter.unusedSectionVars false
namespace Go.Fu
open Go Go.Mx
set_option maxRecDepth 10000
set_option maxHeartbeats 4000000
def nmD : D := dSs nm4
def alD : D := dSs all3
def z4o : List Cell := [⟨false, .nils⟩, ⟨false, .nils⟩, ⟨false, .nils⟩, ⟨false, .nils⟩]
def bPr (ds : List Da) : List Cell := [⟨fl ds, dDl ds⟩, ⟨false, .nils⟩, ⟨false, .nils⟩, ⟨false, .nils⟩]
def bDa (s : Tx) (p : Int) (vs : List Tx) (k : Nat) (cs : List Cn) : List Cell := [⟨false, .str s⟩, ⟨false, .int .i64 p⟩, ⟨true, dSs vs⟩, ⟨ow k, dKl k⟩, ⟨fl cs, dCl cs⟩]
theorem app_K (k : Nat) (hl : k < 1000000) : appendD k_4 24 ⟨ow k, dKl k⟩ [dKi] = some ⟨true, dKl (k + 1)⟩ := by
  have h := append_one (r := k_4) (by_ := 24) (es := List.replicate k dKi) (y := dKi) (o := ow k) (fun h => by
    cases k with
    | zero => exact absurd rfl h
    | succ k => rfl) rfl rfl (by simp [bound]; omega) (by simp [bound]; omega)
  have e : List.replicate (k + 1) dKi = List.replicate k dKi ++ [dKi] := by
    rw [List.replicate_succ']
  rw [dKl, dKl, e]
  exact h
section
variable {C : CallF} {n : Nat} {σ : Store}
def Em0 (d0 : D) (ds : List Da) (i a v : Nat) (s : Tx) (p : Int) (vs : List Tx) (m : Nat) : Env := { slots := [(0, ⟨false, d0⟩), (3, ⟨true, nmD⟩), (4, ⟨true, alD⟩), (6, ⟨false, .int .i64 a⟩), (7, ⟨false, .int .i64 i⟩), (9, ⟨false, .int .i64 v⟩), (10, ⟨false, .int .i64 m⟩)], locs := [(2, 2, 0), (5, 5, 0), (8, 8, 0)], boxes := [(2, z4o), (5, bPr ds), (8, bDa s p vs m [])], defers := [] }
theorem m0_step (d0 : D) (ds : List Da) (i a v : Nat) (hv : v < 9223372036854775808) (s : Tx) (p : Int) (vs : List Tx) (m : Nat) (hm : m < v % 4) : exec C n none a_45 (Em0 d0 ds i a v s p vs m) σ = some (.normal, Em0 d0 ds i a v s p vs (m + 1), σ) := by
  have t4 : ((v : Int)).tmod 4 = ((v % 4 : Nat) : Int) := tmodN v 4
  have w4 : IntKind.i64.wrap ((v % 4 : Nat) : Int) = ((v % 4 : Nat) : Int) := wrap64 (by omega) (by omega)
  have hlt : (m : Int) < ((v % 4 : Nat) : Int) := by omega
  have w := wrap64_succ (i := m) (by omega)
  have hap := app_K m (by omega)
  rw [show dKi = .agg [.nils] from rfl] at hap
  have o1 : ow (m + 1) = true := rfl
  simp only [a_45, Em0, bDa, bPr, z4o, o1, sA, Nat.reduceAdd, Nat.reduceSub, Nat.reduceMul, Nat.reduceBEq, Nat.reduceLeDiff, Int.reduceBEq, Int.reduceBNe, Int.reduceLE, Int.reduceLT, Int.reduceGE, Int.reduceGT, Int.reduceNeg, kn, onel, t4, w4, hlt, hap, w]
theorem m0_end (d0 : D) (ds : List Da) (i a v : Nat) (hv : v < 9223372036854775808) (s : Tx) (p : Int) (vs : List Tx) : exec C n none a_45 (Em0 d0 ds i a v s p vs (v % 4)) σ = some (.exit 2, { slots := [(0, ⟨false, d0⟩), (3, ⟨true, nmD⟩), (4, ⟨true, alD⟩), (6, ⟨false, .int .i64 a⟩), (7, ⟨false, .int .i64 i⟩), (9, ⟨false, .int .i64 v⟩), (10, ⟨false, .int .i64 (v % 4 : Nat)⟩), (47, ⟨false, .bool false⟩)], locs := [(2, 2, 0), (5, 5, 0), (8, 8, 0)], boxes := [(2, z4o), (5, bPr ds), (8, bDa s p vs (v % 4) [])], defers := [] }, σ) := by
  have t4 : ((v : Int)).tmod 4 = ((v % 4 : Nat) : Int) := tmodN v 4
  have w4 : IntKind.i64.wrap ((v % 4 : Nat) : Int) = ((v % 4 : Nat) : Int) := wrap64 (by omega) (by omega)
  have hlt : ¬ (((v % 4 : Nat) : Int) < ((v % 4 : Nat) : Int)) := by omega
  simp only [a_45, Em0, sA, Nat.reduceAdd, Nat.reduceSub, Nat.reduceMul, Nat.reduceBEq, Nat.reduceLeDiff, Int.reduceBEq, Int.reduceBNe, Int.reduceLE, Int.reduceLT, Int.reduceGE, Int.reduceGT, Int.reduceNeg, kn, onel, t4, w4, hlt]
def bCn (s : Tx) (p : Int) (ts : List Ty) : List Cell := [⟨false, .str s⟩, ⟨false, .int .i64 p⟩, ⟨fl ts, dTl ts⟩]
def Em1 (d0 : D) (ds : List Da) (i a v j w : Nat) (s : Tx) (p : Int) (vs : List Tx) (cs : List Cn) (s' : Tx) (p' : Int) (ts : List Ty) : Env := { slots := [(0, ⟨false, d0⟩), (3, ⟨true, nmD⟩), (4, ⟨true, alD⟩), (6, ⟨false, .int .i64 a⟩), (7, ⟨false, .int .i64 i⟩), (9, ⟨false, .int .i64 v⟩), (11, ⟨false, .int .i64 j⟩), (13, ⟨false, .int .i64 w⟩), (14, ⟨false, .int .i64 ts.length⟩)], locs := [(2, 2, 0), (5, 5, 0), (8, 8, 0), (12, 12, 0)], boxes := [(2, z4o), (5, bPr ds), (8, bDa s p vs vs.length cs), (12, bCn s' p' ts)], defers := [] }
theorem m1_step (d0 : D) (ds : List Da) (i a v j w x : Nat) (hw : w < 9223372036854775808) (ha : a < 1000000) (hds : ds.length ≤ 100) (s : Tx) (p : Int) (vs : List Tx) (cs : List Cn) (s' : Tx) (p' : Int) (ts : List Ty) (t : Ty) (hm : ts.length < w % 3) (h1 : C n_18 [d0, .int .i64 a] σ = some (.ret ⟨false, .int .i64 x⟩, σ)) (h2 : C n_32 [.int .i64 x, dSs vs, dDl (ds ++ [⟨s, p, vs, cs⟩])] σ = some (.ret ⟨false, dTy t⟩, σ)) :
    exec C n none a_28 (Em1 d0 ds i a v j w s p vs cs s' p' ts) σ = some (.normal, Em1 d0 ds i (a + 1) v j w s p vs cs s' p' (ts ++ [t]), σ) := by
  have t3 : ((w : Int)).tmod 3 = ((w % 3 : Nat) : Int) := tmodN w 3
  have w3 : IntKind.i64.wrap ((w % 3 : Nat) : Int) = ((w % 3 : Nat) : Int) := wrap64 (by omega) (by omega)
  have hlt : (ts.length : Int) < ((w % 3 : Nat) : Int) := by omega
  have wt := wrap64_succ (i := ts.length) (by omega)
  have wa := wrap64_succ (i := a) (by omega)
  have hap := app_T ts t (fl ts) fl_ne (by omega)
  have ha1 := app_Ds [] ds false (fun h => absurd rfl h) (by simp; omega)
  have ha2 := app_D ds ⟨s, p, vs, cs⟩ true (fun _ => rfl) (by omega)
  have hasl := asL_D ds
  have e0 : dDl [] = .nils := rfl
  have ek : dDa ⟨s, p, vs, cs⟩ = .agg [.str s, .int .i64 p, dSs vs, dKl vs.length, dCl cs] := rfl
  rw [e0, List.nil_append] at ha1
  rw [ek] at ha2
  simp only [dTy_eq, cTy_eq] at h2 hap
  unfold Em1
  rw [List.length_append, List.length_singleton]
  simp only [bCn]
  rw [fl_snoc]
  generalize ds ++ [⟨s, p, vs, cs⟩] = es at *
  generalize ts ++ [t] = us at *
  generalize ds.map dDa = dl at *
  simp only [a_28, bDa, bPr, z4o, bCn, sA, Nat.reduceAdd, Nat.reduceSub, Nat.reduceMul, Nat.reduceBEq, Nat.reduceLeDiff, Int.reduceBEq, Int.reduceBNe, Int.reduceLE, Int.reduceLT, Int.reduceGE, Int.reduceGT, Int.reduceNeg, kn, onel, t3, w3, hlt, h1, hasl, ha1, ha2, h2, hap, wt, wa]
end
end Go.Fu
namespace Go.Fu
open Go Go.Mx
set_option maxRecDepth 10000
set_option maxHeartbeats 4000000
def sp_pick (d0 : D) (xs : List Int) : List D → Cell → Prop := fun ds c => ∀ i : Nat, ds = [d0, .int .i64 i] → c = ⟨false, .int .i64 (pickM xs i : Nat)⟩
def sp_field : List D → Cell → Prop := fun ds c => ∀ p vs L, ds = [p, dSs vs, dDl L] → ∃ t, Fine t ∧ KF vs (arl L) t ∧ c = ⟨false, dTy t⟩
def SMd (d0 : D) (xs : List Int) : Specs := [(n_18, sp_pick d0 xs), (n_32, sp_field)]
theorem call_pick {d0 : D} {xs : List Int} (hR : IR d0 xs) (i : Nat) (hi : i < 1000000) (n : Nat) (σ : Store) : T (SMd d0 xs) (n + 1) n_18 [d0, .int .i64 i] σ = some (.ret ⟨false, .int .i64 (pickM xs i : Nat)⟩, σ) := by
  obtain ⟨c, g1, g2⟩ := T_orc (S := SMd d0 xs) (f := n_18) rfl rfl (s := sp_pick d0 xs) (c := ⟨false, .int .i64 (pickM xs i : Nat)⟩) (fun j e => by
    simp only [List.cons.injEq, D.int.injEq, true_and, and_true, Int.natCast_inj] at e
    rw [e]) (pick_pure hR i (by omega))
  rw [g2, g1 _ rfl]
theorem call_field {d0 : D} {xs : List Int} (p : Nat) (hp : p < 9223372036854775808) (vs : List Tx) (hvl : vs.length ≤ 1000) (L : List Da) (hL : L.length ≤ 1000) (hvs : ∀ d ∈ L, d.vars.length ≤ 1000) : ∃ t, Fine t ∧ KF vs (arl L) t ∧ ∀ n σ, T (SMd d0 xs) (n + 1) n_32 [.int .i64 p, dSs vs, dDl L] σ = some (.ret ⟨false, dTy t⟩, σ) := by
  obtain ⟨t, ht, hk, hp⟩ := field_ok p hp vs hvl L hL hvs
  obtain ⟨c, h1, g2⟩ := T_orc (S := SMd d0 xs) (f := n_32) rfl rfl (s := sp_field) (c := ⟨false, dTy t⟩) (fun p' vs' L' e => by
    simp only [List.cons.injEq, and_true] at e
    obtain ⟨_, e1, e2⟩ := e
    obtain rfl := dSs_inj e1
    obtain rfl := dDl_inj e2
    exact ⟨t, ht, hk, rfl⟩) hp
  obtain ⟨t', ht', hk', rfl⟩ := h1 _ _ _ rfl
  exact ⟨t', ht', hk', g2⟩
theorem m1_end {C : CallF} {n : Nat} {σ : Store} (d0 : D) (ds : List Da) (i a v j w : Nat) (hw : w < 9223372036854775808) (s : Tx) (p : Int) (vs : List Tx) (cs : List Cn) (s' : Tx) (p' : Int) (ts : List Ty) (hm : ts.length = w % 3) : exec C n none a_28 (Em1 d0 ds i a v j w s p vs cs s' p' ts) σ = some (.exit 6, { Em1 d0 ds i a v j w s p vs cs s' p' ts with slots := [(0, ⟨false, d0⟩), (3, ⟨true, nmD⟩), (4, ⟨true, alD⟩), (6, ⟨false, .int .i64 a⟩), (7, ⟨false, .int .i64 i⟩), (9, ⟨false, .int .i64 v⟩), (11, ⟨false, .int .i64 j⟩), (13, ⟨false, .int .i64 w⟩), (14, ⟨false, .int .i64 ts.length⟩), (85, ⟨false, .bool false⟩)] }, σ) := by
  have t3 : ((w : Int)).tmod 3 = ((w % 3 : Nat) : Int) := tmodN w 3
  have w3 : IntKind.i64.wrap ((w % 3 : Nat) : Int) = ((w % 3 : Nat) : Int) := wrap64 (by omega) (by omega)
  rw [← hm] at t3 w3
  have hlt : ¬ ((ts.length : Int) < (ts.length : Int)) := by omega
  simp only [a_28, Em1, sA, Nat.reduceAdd, Nat.reduceSub, Nat.reduceMul, Nat.reduceBEq, Nat.reduceLeDiff, Int.reduceBEq, Int.reduceBNe, Int.reduceLE, Int.reduceLT, Int.reduceGE, Int.reduceGT, Int.reduceNeg, kn, onel, t3, w3, hlt]
theorem m1_run {d0 : D} {xs : List Int} (hR : IR d0 xs) (ds : List Da) (hds : ds.length ≤ 100) (hvs : ∀ d ∈ ds, d.vars.length ≤ 3) (i a v j w : Nat) (hw : w < 9223372036854775808) (ha : a < 900000) (s : Tx) (p : Int) (vs : List Tx) (hv : vs.length ≤ 3) (cs : List Cn) (s' : Tx) (p' : Int) (σ : Store) : ∃ ts a', loopN (exec (T (SMd d0 xs) 1) 5 none a_28) 5 (Em1 d0 ds i a v j w s p vs cs s' p' []) σ = some (.exit 6, { Em1 d0 ds i a' v j w s p vs cs s' p' ts with slots := [(0, ⟨false, d0⟩), (3, ⟨true, nmD⟩), (4, ⟨true, alD⟩), (6, ⟨false, .int .i64 (a' : Nat)⟩), (7, ⟨false, .int .i64 i⟩), (9, ⟨false, .int .i64 v⟩), (11, ⟨false, .int .i64 j⟩), (13, ⟨false, .int .i64 w⟩), (14, ⟨false, .int .i64 ts.length⟩), (85, ⟨false, .bool false⟩)] }, σ) ∧ ts.length ≤ 2 ∧ (∀ t ∈ ts, Fine t ∧ KF vs (arl ds ++ [(s, vs.length)]) t) ∧ a' ≤ a + 2 := by
  obtain ⟨r, hr, ts, a', rfl, h1, h2, h3⟩ := loopN_inv (body := exec (T (SMd d0 xs) 1) 5 none a_28)
    (fun k e σ' => σ' = σ ∧ ∃ ts, e = Em1 d0 ds i (a + k) v j w s p vs cs s' p' ts ∧ ts.length = k ∧ ∀ t ∈ ts, Fine t ∧ KF vs (arl ds ++ [(s, vs.length)]) t)
    (fun r => ∃ ts a', r = (.exit 6, { Em1 d0 ds i a' v j w s p vs cs s' p' ts with slots := [(0, ⟨false, d0⟩), (3, ⟨true, nmD⟩), (4, ⟨true, alD⟩), (6, ⟨false, .int .i64 (a' : Nat)⟩), (7, ⟨false, .int .i64 i⟩), (9, ⟨false, .int .i64 v⟩), (11, ⟨false, .int .i64 j⟩), (13, ⟨false, .int .i64 w⟩), (14, ⟨false, .int .i64 ts.length⟩), (85, ⟨false, .bool false⟩)] }, σ) ∧ ts.length ≤ 2 ∧ (∀ t ∈ ts, Fine t ∧ KF vs (arl ds ++ [(s, vs.length)]) t) ∧ a' ≤ a + 2) (w % 3)
    (fun k e σ' hk ⟨hσ, ts, he, hl, hf⟩ => by
      subst he
      subst hσ
      obtain ⟨t, ht, hkf, hc⟩ := call_field (d0 := d0) (xs := xs) (pickM xs (a + k)) (pickM_lt hR.small _) vs (by omega) (ds ++ [⟨s, p, vs, cs⟩]) (by simp; omega) (fun d hd => by
        rcases List.mem_append.1 hd with h | h
        · have := hvs d h; omega
        · rw [List.mem_singleton.1 h]; show vs.length ≤ 1000; omega)
      have hs := m1_step (n := 5) d0 ds i (a + k) v j w _ hw (by omega) hds s p vs cs s' p' ts t (by omega) (call_pick hR (a + k) (by omega) 0 σ') (hc 0 σ')
      refine ⟨_, _, hs, rfl, ts ++ [t], rfl, by simp [hl], fun x hx => ?_⟩
      rcases List.mem_append.1 hx with h | h
      · exact hf x h
      · rw [List.mem_singleton.1 h]; exact ⟨ht, by have e : arl (ds ++ [⟨s, p, vs, cs⟩]) = arl ds ++ [(s, vs.length)] := by simp [arl]
                                                   rw [← e]; exact hkf⟩)
    (fun e σ' ⟨hσ, ts, he, hl, hf⟩ => by
      subst he
      subst hσ
      exact ⟨_, m1_end d0 ds i (a + w % 3) v j w hw s p vs cs s' p' ts hl, fun _ _ h => (by cases h), ts, a + w % 3, rfl, by omega, hf, by omega⟩) 0 5 (Em1 d0 ds i a v j w s p vs cs s' p' []) σ (by omega) (by omega) ⟨rfl, [], rfl, rfl, fun _ h => (by cases h)⟩
  exact ⟨ts, a', hr, h1, h2, h3⟩
def Em2 (d0 : D) (ds : List Da) (i a v : Nat) (s : Tx) (p : Int) (vs : List Tx) (cs : List Cn) : Env := { slots := [(0, ⟨false, d0⟩), (3, ⟨true, nmD⟩), (4, ⟨true, alD⟩), (6, ⟨false, .int .i64 a⟩), (7, ⟨false, .int .i64 i⟩), (9, ⟨false, .int .i64 v⟩), (11, ⟨false, .int .i64 cs.length⟩)], locs := [(2, 2, 0), (5, 5, 0), (8, 8, 0)], boxes := [(2, z4o), (5, bPr ds), (8, bDa s p vs vs.length cs)], defers := [] }
theorem m2_step {d0 : D} {xs : List Int} (hR : IR d0 xs) (ds : List Da) (hds : ds.length ≤ 100) (hvs : ∀ d ∈ ds, d.vars.length ≤ 3) (i a v : Nat) (hi : i < 4) (hv9 : v < 9223372036854775808) (ha : a < 800000) (s : Tx) (p : Int) (vs : List Tx) (hv : vs.length ≤ 3) (cs : List Cn) (hcs : cs.length < v / 4 % 4) (σ : Store) :
    ∃ c a', exec (T (SMd d0 xs) 1) 5 none a_29 (Em2 d0 ds i a v s p vs cs) σ = some (.normal, Em2 d0 ds i a' v s p vs (cs ++ [c]), σ) ∧ c.name = nm4.getD i [] ++ all3.getD cs.length [] ∧ c.fs.length ≤ 2 ∧ (∀ t ∈ c.fs, Fine t ∧ KF vs (arl ds ++ [(s, vs.length)]) t) ∧ a' ≤ a + 3 := by
  have t4 : (((v / 4 : Nat) : Int)).tmod 4 = ((v / 4 % 4 : Nat) : Int) := tmodN _ 4
  have w4 : IntKind.i64.wrap ((v / 4 % 4 : Nat) : Int) = ((v / 4 % 4 : Nat) : Int) := wrap64 (by omega) (by omega)
  have q4 : ((v : Int)).tdiv 4 = ((v / 4 : Nat) : Int) := tdivN v 4
  have wq : IntKind.i64.wrap ((v / 4 : Nat) : Int) = ((v / 4 : Nat) : Int) := wrap64 (by omega) (by omega)
  have hlt : (cs.length : Int) < ((v / 4 % 4 : Nat) : Int) := by omega
  have h3 : cs.length < 3 := by omega
  have wc := wrap64_succ (i := cs.length) (by omega)
  have wa := wrap64_succ (i := a) (by omega)
  have hx : indexD 1 nmD i = some (.eptr (.str nm4[i])) := idx_S nm4 i hi
  have hy : indexD 1 alD cs.length = some (.eptr (.str all3[cs.length])) := idx_S all3 _ h3
  have wm : IntKind.i64.wrap (10 * (i : Int)) = 10 * (i : Int) := wrap64 (by omega) (by omega)
  have wp : IntKind.i64.wrap (10 * (i : Int) + (cs.length : Int)) = 10 * (i : Int) + (cs.length : Int) := wrap64 (by omega) (by omega)
  have hp := call_pick hR a (by omega) 0 σ
  have hon : nmD.one = true := rfl
  have hoa : alD.one = true := rfl
  obtain ⟨ts, a', h1, h2, h3', h4⟩ := m1_run hR ds hds hvs i (a + 1) v cs.length (pickM xs a) (pickM_lt hR.small _) (by omega) s p vs hv cs (nm4[i]'hi ++ all3[cs.length]'h3) (10 * (i : Int) + (cs.length : Int)) σ
  refine ⟨⟨nm4[i]'hi ++ all3[cs.length]'h3, 10 * (i : Int) + (cs.length : Int), ts⟩, a', ?_, ?_, h2, h3', by omega⟩
  · have hap := app_C cs ⟨nm4[i]'hi ++ all3[cs.length]'h3, 10 * (i : Int) + (cs.length : Int), ts⟩ (fl cs) fl_ne (by omega)
    unfold Em2
    rw [List.length_append, List.length_singleton]
    simp only [bDa]
    rw [fl_snoc]
    generalize cs ++ [⟨nm4[i]'hi ++ all3[cs.length]'h3, 10 * (i : Int) + (cs.length : Int), ts⟩] = cs' at *
    have f0 : fl ([] : List Ty) = false := rfl
    simp only [Em1, bCn, bDa, List.length_nil, zeroI, f0, tys0] at h1
    simp only [dCn_eq] at hap
    have hxy : (nm4[i]'hi).length + (all3[cs.length]'h3).length ≤ 281474976710656 := by
      have a1 : ∀ x ∈ nm4, x.length ≤ 1 := by decide
      have a2 : ∀ x ∈ all3, x.length ≤ 1 := by decide
      have := a1 _ (List.getElem_mem hi)
      have := a2 _ (List.getElem_mem h3)
      omega
    generalize nm4[i] = x at *
    generalize all3[cs.length] = y at *
    simp only [a_29, sA, Nat.reduceAdd, Nat.reduceSub, Nat.reduceMul, Nat.reduceBEq, Nat.reduceLeDiff, Int.reduceBEq, Int.reduceBNe, Int.reduceLE, Int.reduceLT, Int.reduceGE, Int.reduceGT, Int.reduceNeg, kn, onel, q4, wq, t4, w4, hlt, hx, hy, hon, hoa, wm, wp, natI, hxy, hp, wa, h1, hap, wc]
  · show nm4[i] ++ all3[cs.length] = _
    rw [getD_eq _ _ _ hi, getD_eq _ _ _ h3]
end Go.Fu
namespace Go.Fu
open Go Go.Mx
set_option maxRecDepth 10000
set_option maxHeartbeats 4000000
theorem nms_snoc (i k : Nat) (hk : k < 3) : nms i (k + 1) = nms i k ++ [nm4.getD i [] ++ all3.getD k []] := by
  have h : k < all3.length := hk
  simp only [nms]
  rw [← take_snoc all3 k h, List.map_append, getD_eq _ _ _ h]
  rfl
theorem m2_end {C : CallF} {n : Nat} {σ : Store} (d0 : D) (ds : List Da) (i a v : Nat) (hv9 : v < 9223372036854775808) (s : Tx) (p : Int) (vs : List Tx) (cs : List Cn) (hcs : cs.length = v / 4 % 4) : exec C n none a_29 (Em2 d0 ds i a v s p vs cs) σ = some (.exit 4, { Em2 d0 ds i a v s p vs cs with slots := [(0, ⟨false, d0⟩), (3, ⟨true, nmD⟩), (4, ⟨true, alD⟩), (6, ⟨false, .int .i64 a⟩), (7, ⟨false, .int .i64 i⟩), (9, ⟨false, .int .i64 v⟩), (11, ⟨false, .int .i64 cs.length⟩), (60, ⟨false, .bool false⟩)] }, σ) := by
  have t4 : (((v / 4 : Nat) : Int)).tmod 4 = ((v / 4 % 4 : Nat) : Int) := tmodN _ 4
  have w4 : IntKind.i64.wrap ((v / 4 % 4 : Nat) : Int) = ((v / 4 % 4 : Nat) : Int) := wrap64 (by omega) (by omega)
  have q4 : ((v : Int)).tdiv 4 = ((v / 4 : Nat) : Int) := tdivN v 4
  have wq : IntKind.i64.wrap ((v / 4 : Nat) : Int) = ((v / 4 : Nat) : Int) := wrap64 (by omega) (by omega)
  rw [← hcs] at t4 w4
  have hlt : ¬ ((cs.length : Int) < (cs.length : Int)) := by omega
  simp only [a_29, Em2, sA, Nat.reduceAdd, Nat.reduceSub, Nat.reduceMul, Nat.reduceBEq, Nat.reduceLeDiff, Int.reduceBEq, Int.reduceBNe, Int.reduceLE, Int.reduceLT, Int.reduceGE, Int.reduceGT, Int.reduceNeg, kn, onel, q4, wq, t4, w4, hlt]
structure MC (i : Nat) (vs : List Tx) (ar : List (Tx × Nat)) (cs : List Cn) : Prop where
  nm : cs.map Cn.name = nms i cs.length
  sh : ∀ c ∈ cs, c.fs.length ≤ 2 ∧ ∀ t ∈ c.fs, Fine t ∧ KF vs ar t
theorem m2_run {d0 : D} {xs : List Int} (hR : IR d0 xs) (ds : List Da) (hds : ds.length ≤ 100) (hvs : ∀ d ∈ ds, d.vars.length ≤ 3) (i a v : Nat) (hi : i < 4) (hv9 : v < 9223372036854775808) (ha : a < 700000) (s : Tx) (p : Int) (vs : List Tx) (hv : vs.length ≤ 3) (σ : Store) :
    ∃ cs a', loopN (exec (T (SMd d0 xs) 1) 5 none a_29) 5 (Em2 d0 ds i a v s p vs []) σ = some (.exit 4, { Em2 d0 ds i a' v s p vs cs with slots := [(0, ⟨false, d0⟩), (3, ⟨true, nmD⟩), (4, ⟨true, alD⟩), (6, ⟨false, .int .i64 (a' : Nat)⟩), (7, ⟨false, .int .i64 i⟩), (9, ⟨false, .int .i64 v⟩), (11, ⟨false, .int .i64 cs.length⟩), (60, ⟨false, .bool false⟩)] }, σ) ∧ cs.length ≤ 3 ∧ MC i vs (arl ds ++ [(s, vs.length)]) cs ∧ a' ≤ a + 9 := by
  obtain ⟨r, hr, cs, a', rfl, h1, h2, h3⟩ := loopN_inv (body := exec (T (SMd d0 xs) 1) 5 none a_29)
    (fun k e σ' => σ' = σ ∧ ∃ cs a', e = Em2 d0 ds i a' v s p vs cs ∧ cs.length = k ∧ MC i vs (arl ds ++ [(s, vs.length)]) cs ∧ a' ≤ a + 3 * k)
    (fun r => ∃ cs a', r = (.exit 4, { Em2 d0 ds i a' v s p vs cs with slots := [(0, ⟨false, d0⟩), (3, ⟨true, nmD⟩), (4, ⟨true, alD⟩), (6, ⟨false, .int .i64 (a' : Nat)⟩), (7, ⟨false, .int .i64 i⟩), (9, ⟨false, .int .i64 v⟩), (11, ⟨false, .int .i64 cs.length⟩), (60, ⟨false, .bool false⟩)] }, σ) ∧ cs.length ≤ 3 ∧ MC i vs (arl ds ++ [(s, vs.length)]) cs ∧ a' ≤ a + 9) (v / 4 % 4)
    (fun k e σ' hk ⟨hσ, cs, a', he, hl, hm, hb⟩ => by
      subst he
      subst hσ
      obtain ⟨c, a2, g1, g2, g3, g4, g5⟩ := m2_step hR ds hds hvs i a' v hi hv9 (by omega) s p vs hv cs (by omega) σ'
      refine ⟨_, _, g1, rfl, cs ++ [c], a2, rfl, by simp [hl], ⟨?_, fun x hx => ?_⟩, by omega⟩
      · rw [List.length_append, List.length_singleton, List.map_append, nms_snoc i _ (by omega), hm.nm]
        simp only [List.map_cons, List.map_nil, g2]
      · rcases List.mem_append.1 hx with h | h
        · exact hm.sh x h
        · rw [List.mem_singleton.1 h]; exact ⟨g3, g4⟩)
    (fun e σ' ⟨hσ, cs, a', he, hl, hm, hb⟩ => by
      subst he
      subst hσ
      exact ⟨_, m2_end d0 ds i a' v hv9 s p vs cs hl, fun _ _ h => (by cases h), cs, a', rfl, by omega, hm, by omega⟩) 0 5 (Em2 d0 ds i a v s p vs []) σ (by omega) (by omega) ⟨rfl, [], a, rfl, rfl, ⟨rfl, fun _ h => (by cases h)⟩, by omega⟩
  exact ⟨cs, a', hr, h1, h2, h3⟩
structure MP (ds : List Da) : Prop where
  each : ∀ i d, ds[i]? = some d → d.name = nm4.getD i [] ∧ d.vars.length ≤ 3 ∧ d.cons.length ≤ 3 ∧ MC i d.vars (arl (ds.take (i + 1))) d.cons
  vrs : ∀ d ∈ ds, d.vars = all3.take d.vars.length
theorem MP.vars {ds : List Da} (h : MP ds) : ∀ d ∈ ds, d.vars.length ≤ 3 := fun d hd => by
  obtain ⟨i, hi, rfl⟩ := List.getElem_of_mem hd
  exact (h.each i _ (List.getElem?_eq_getElem hi)).2.1
def Em3 (d0 : D) (ds : List Da) (a : Nat) : Env := { slots := [(0, ⟨false, d0⟩), (3, ⟨true, nmD⟩), (4, ⟨true, alD⟩), (6, ⟨false, .int .i64 a⟩), (7, ⟨false, .int .i64 ds.length⟩)], locs := [(2, 2, 0), (5, 5, 0)], boxes := [(2, z4o), (5, bPr ds)], defers := [] }
theorem m3_step {d0 : D} {xs : List Int} (hR : IR d0 xs) (ds : List Da) (hm : MP ds) (a : Nat) (ha : a < 600000) (hk : ds.length < pickM xs 0 % 5) (σ : Store) : ∃ d a', exec (T (SMd d0 xs) 1) 5 none a_46 (Em3 d0 ds a) σ = some (.normal, Em3 d0 (ds ++ [d]) a', σ) ∧ MP (ds ++ [d]) ∧ a' ≤ a + 10 := by
  have hi : ds.length < nm4.length := by show ds.length < 4; omega
  have hp0 := call_pick hR 0 (by omega) 0 σ
  rw [zeroI] at hp0
  have hx0 := pickM_lt hR.small 0
  have t5 : ((pickM xs 0 : Nat) : Int).tmod 5 = ((pickM xs 0 % 5 : Nat) : Int) := tmodN _ 5
  have w5 : IntKind.i64.wrap ((pickM xs 0 % 5 : Nat) : Int) = ((pickM xs 0 % 5 : Nat) : Int) := wrap64 (by omega) (by omega)
  have hlt : (ds.length : Int) < ((pickM xs 0 % 5 : Nat) : Int) := by omega
  have hx : indexD 1 nmD ds.length = some (.eptr (.str nm4[ds.length])) := idx_S nm4 _ hi
  have hon : nmD.one = true := rfl
  have hoa : alD.one = true := rfl
  have wi := wrap64_succ (i := ds.length) (by omega)
  have wa := wrap64_succ (i := a) (by omega)
  have hpa := call_pick hR a (by omega) 0 σ
  obtain ⟨v, hv⟩ : ∃ v, v = pickM xs a := ⟨_, rfl⟩
  have hv9 : v < 9223372036854775808 := by rw [hv]; exact pickM_lt hR.small _
  rw [← hv] at hpa
  have t4 : ((v : Int)).tmod 4 = ((v % 4 : Nat) : Int) := tmodN v 4
  have w4 : IntKind.i64.wrap ((v % 4 : Nat) : Int) = ((v % 4 : Nat) : Int) := wrap64 (by omega) (by omega)
  obtain ⟨vs, hvs⟩ : ∃ vs, vs = all3.take (v % 4) := ⟨_, rfl⟩
  have hvl : vs.length = v % 4 := by rw [hvs, List.length_take]; show min (v % 4) 3 = _; omega
  obtain ⟨S, hS1, hS2⟩ : ∃ S, sliceD 1 alD 0 (some (v % 4)) = some S ∧ asList S = some (vs.map D.str) := by
    refine ⟨.list k_2 (vs.map D.str), ?_, rfl⟩
    rw [hvs]
    have h4 : v % 4 < 4 := by omega
    generalize v % 4 = c at h4
    match c, h4 with
    | 0, _ => rfl
    | 1, _ => rfl
    | 2, _ => rfl
    | 3, _ => rfl
  have hapv : appendD k_2 16 ⟨false, .nils⟩ (vs.map D.str) = some ⟨true, dSs vs⟩ := by
    have h := append_more (r := k_2) (by_ := 16) (es := []) (ys := vs.map D.str) (o := false) (fun h => absurd rfl h) (fun d hd => by
      obtain ⟨x, _, rfl⟩ := List.mem_map.1 hd
      exact ⟨rfl, rfl⟩) (by simp [bound]; omega) (by simp [bound]; omega)
    exact h
  have hr0 := loopN_run (body := exec (T (SMd d0 xs) 1) 5 none a_45) (Em0 d0 ds ds.length (a + 1) v nm4[ds.length] ((ds.length + 1 : Nat) : Int) vs) (fun _ => σ) (v % 4) (r := _) (fun _ _ h => by cases h) (fun m hm => m0_step d0 ds ds.length (a + 1) v hv9 nm4[ds.length] ((ds.length + 1 : Nat) : Int) vs m hm) (m0_end d0 ds ds.length (a + 1) v hv9 nm4[ds.length] ((ds.length + 1 : Nat) : Int) vs) 0 5 (by omega) (by omega)
  obtain ⟨cs, a', hr2, h1, h2, h3⟩ := m2_run hR ds (by omega) hm.vars ds.length (a + 1) v (by omega) hv9 (by omega) nm4[ds.length] ((ds.length + 1 : Nat) : Int) vs (by omega) σ
  have hap := app_D ds ⟨nm4[ds.length], ((ds.length + 1 : Nat) : Int), vs, cs⟩ (fl ds) fl_ne (by omega)
  refine ⟨⟨nm4[ds.length], ((ds.length + 1 : Nat) : Int), vs, cs⟩, a', ?_, ⟨fun k d hd => ?_, fun d hd => ?_⟩, by omega⟩
  · unfold Em3
    rw [List.length_append, List.length_singleton]
    simp only [bPr]
    rw [fl_snoc]
    have ek : dDa ⟨nm4[ds.length], ((ds.length + 1 : Nat) : Int), vs, cs⟩ = .agg [.str nm4[ds.length], .int .i64 ((ds.length + 1 : Nat) : Int), dSs vs, dKl vs.length, dCl cs] := rfl
    rw [ek] at hap
    generalize ds ++ [⟨nm4[ds.length], ((ds.length + 1 : Nat) : Int), vs, cs⟩] = ds' at *
    generalize nm4[ds.length] = x at *
    have o0 : ow 0 = false := rfl
    have k0 : dKl 0 = .nils := rfl
    have f0 : fl ([] : List Cn) = false := rfl
    have c0 : dCl [] = .nils := rfl
    rw [← hvl] at hr0 hS1 t4 w4
    simp only [Em0, bDa, bPr, zeroI, o0, k0, f0, c0] at hr0
    simp only [Em2, bDa, bPr, List.length_nil, zeroI, f0, c0] at hr2
    simp only [a_46, sA, Nat.reduceAdd, Nat.reduceSub, Nat.reduceMul, Nat.reduceBEq, Nat.reduceLeDiff, Int.reduceBEq, Int.reduceBNe, Int.reduceLE, Int.reduceLT, Int.reduceGE, Int.reduceGT, Int.reduceNeg, kn, onel, zeroI, hp0, t5, w5, hlt, hx, hon, hoa, natI, wi, wa, hpa, t4, w4, hS1, hS2, hapv, hr0, hr2, hap]
  · rcases Nat.lt_or_ge k ds.length with h | h
    · rw [List.getElem?_append_left h] at hd
      rw [List.take_append_of_le_length (by omega)]
      exact hm.each k d hd
    · rw [List.getElem?_append_right h] at hd
      obtain ⟨hk0, e⟩ := List.getElem?_eq_some_iff.1 hd
      have : k = ds.length := by simp at hk0; omega
      subst this
      simp only [Nat.sub_self, List.getElem_cons_zero] at e
      subst e
      refine ⟨(getD_eq _ _ _ hi).symm, by show vs.length ≤ 3; omega, h1, ?_⟩
      have e : arl ((ds ++ [(⟨nm4[ds.length], ((ds.length + 1 : Nat) : Int), vs, cs⟩ : Da)]).take (ds.length + 1)) = arl ds ++ [(nm4[ds.length], vs.length)] := by
        rw [List.take_of_length_le (by simp)]
        simp [arl]
      rw [e]
      exact h2
  · rcases List.mem_append.1 hd with h | h
    · exact hm.vrs d h
    · rw [List.mem_singleton.1 h]
      show vs = all3.take vs.length
      rw [hvl, hvs]
theorem m3_end {d0 : D} {xs : List Int} (hR : IR d0 xs) (ds : List Da) (a : Nat) (hk : ds.length = pickM xs 0 % 5) (σ : Store) : exec (T (SMd d0 xs) 1) 5 none a_46 (Em3 d0 ds a) σ = some (.exit 0, { Em3 d0 ds a with slots := [(0, ⟨false, d0⟩), (3, ⟨true, nmD⟩), (4, ⟨true, alD⟩), (6, ⟨false, .int .i64 a⟩), (7, ⟨false, .int .i64 ds.length⟩), (21, ⟨false, .bool false⟩)] }, σ) := by
  have hp0 := call_pick hR 0 (by omega) 0 σ
  rw [zeroI] at hp0
  have hx0 := pickM_lt hR.small 0
  have t5 : ((pickM xs 0 : Nat) : Int).tmod 5 = ((pickM xs 0 % 5 : Nat) : Int) := tmodN _ 5
  have w5 : IntKind.i64.wrap ((pickM xs 0 % 5 : Nat) : Int) = ((pickM xs 0 % 5 : Nat) : Int) := wrap64 (by omega) (by omega)
  rw [← hk] at t5 w5
  have hlt : ¬ ((ds.length : Int) < (ds.length : Int)) := by omega
  simp only [a_46, Em3, sA, Nat.reduceAdd, Nat.reduceSub, Nat.reduceMul, Nat.reduceBEq, Nat.reduceLeDiff, Int.reduceBEq, Int.reduceBNe, Int.reduceLE, Int.reduceLT, Int.reduceGE, Int.reduceGT, Int.reduceNeg, kn, onel, hp0, t5, w5, hlt]
theorem MP.made {ds : List Da} (h : MP ds) (hl : ds.length ≤ 4) : MadeP ds := ⟨hl, fun i d hd => by
  obtain ⟨h1, h2, h3, h4⟩ := h.each i d hd
  exact ⟨h1, h2, h3, h4.nm, fun c hc => (h4.sh c hc).1⟩⟩
theorem MP.fine {ds : List Da} (h : MP ds) (hl : ds.length ≤ 4) : FineL ds := ⟨by omega, fun d hd => by
  obtain ⟨i, hi, rfl⟩ := List.getElem_of_mem hd
  obtain ⟨h1, h2, h3, h4⟩ := h.each i _ (List.getElem?_eq_getElem hi)
  exact ⟨by omega, by omega, fun c hc => ⟨by have := (h4.sh c hc).1; omega, fun t ht => ((h4.sh c hc).2 t ht).1⟩⟩⟩
structure MadeK (ds : List Da) : Prop where
  vars : ∀ d ∈ ds, d.vars = all3.take d.vars.length
  flds : ∀ d ∈ ds, ∀ c ∈ d.cons, ∀ t ∈ c.fs, KF d.vars (arl ds) t
  nms : ∀ i d, ds[i]? = some d → d.name = nm4.getD i []
theorem MP.kinds {ds : List Da} (h : MP ds) : MadeK ds := ⟨h.vrs, fun d hd c hc t ht => by
  obtain ⟨i, hi, rfl⟩ := List.getElem_of_mem hd
  obtain ⟨h1, h2, h3, h4⟩ := h.each i _ (List.getElem?_eq_getElem hi)
  refine ((h4.sh c hc).2 t ht).2.mono fun x hx => ?_
  obtain ⟨d', hd', rfl⟩ := List.mem_map.1 hx
  exact List.mem_map.2 ⟨d', List.mem_of_mem_take hd', rfl⟩, fun i d hd => (h.each i d hd).1⟩
theorem made_ok2 {d0 : D} {xs : List Int} (hR : IR d0 xs) : ∃ ds, MadeP ds ∧ FineL ds ∧ MadeK ds ∧ OkP n_156 [d0] ⟨false, dPr ds⟩ := by
  have hlt5 : pickM xs 0 % 5 < 5 := Nat.mod_lt _ (by omega)
  obtain ⟨r, hr, ds, a, rfl, h1, h2⟩ := loopN_inv (body := exec (T (SMd d0 xs) 1) 5 none a_46)
    (fun k e σ' => σ' = σ0 ∧ ∃ ds a, e = Em3 d0 ds a ∧ ds.length = k ∧ MP ds ∧ a ≤ 1 + 10 * k)
    (fun r => ∃ ds a, r = (.exit 0, { Em3 d0 ds a with slots := [(0, ⟨false, d0⟩), (3, ⟨true, nmD⟩), (4, ⟨true, alD⟩), (6, ⟨false, .int .i64 a⟩), (7, ⟨false, .int .i64 ds.length⟩), (21, ⟨false, .bool false⟩)] }, σ0) ∧ ds.length ≤ 4 ∧ MP ds) (pickM xs 0 % 5)
    (fun k e σ' hk ⟨hσ, ds, a, he, hl, hm, hb⟩ => by
      subst he
      subst hσ
      obtain ⟨d, a2, g1, g2, g3⟩ := m3_step hR ds hm a (by omega) (by omega) σ0
      exact ⟨_, _, g1, rfl, ds ++ [d], a2, rfl, by simp [hl], g2, by omega⟩)
    (fun e σ' ⟨hσ, ds, a, he, hl, hm, hb⟩ => by
      subst he
      subst hσ
      exact ⟨_, m3_end hR ds a hl σ0, fun _ _ h => (by cases h), ds, a, rfl, by omega, hm⟩) 0 5 (Em3 d0 [] 1) σ0 (by omega) (by omega) ⟨rfl, [], 1, rfl, rfl, ⟨fun i d h => by simp at h, fun d h => by cases h⟩, by omega⟩
  refine ⟨ds, h2.made h1, h2.fine h1, h2.kinds, ?_⟩
  refine pure_fun (af := a_109) (n := 5) (σ' := σ0) (T_sound (SMd d0 xs) 1) rfl rfl (by simp [noPtrL, hR.np]) (noPtr_dPr _) ?_
  have f0 : fl ([] : List Da) = false := rfl
  have d00 : dDl [] = .nils := rfl
  have hN : D.list k_2 [.str [76], .str [80], .str [81], .str [84]] = nmD := rfl
  have hA : D.list k_2 [.str [97], .str [98], .str [99]] = alD := rfl
  simp only [Em3, bPr, z4o, f0, d00, List.length_nil, zeroI, oneI] at hr
  simp only [a_109, sA, Nat.reduceAdd, Nat.reduceSub, Nat.reduceMul, Nat.reduceBEq, Nat.reduceLeDiff, Int.reduceBEq, Int.reduceBNe, Int.reduceLE, Int.reduceLT, Int.reduceGE, Int.reduceGT, Int.reduceNeg, kn, onel, hN, hA, dPr, hr]
end Go.Fu

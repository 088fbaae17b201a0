/-
  Terms that are made: let.
-/
import Derived.Test.YtldfbnbckiifeaaGreatDoorFgBi
import Derived.Test.YtldfbnbckiifeaaGreatDoorFgIds
set_option maxHeartbeats 4000000
set_option linter.unusedSimpArgs false
set_option linter.unusedVariables false
set_option linter.unusedSectionVars false
namespace Go.Fu
open Go Go.Mx
set_option maxRecDepth 10000
set_option maxHeartbeats 4000000
def own2 : List Tx := [[97], [98]]
theorem zql (r : Nat) (h : r < 3) : zf0 1 (.list k_1 [.str [97], .str [98]]) 0 (some r) = some (lS (own2.take r)) := by
  have : r = 0 ∨ r = 1 ∨ r = 2 := by omega
  rcases this with rfl | rfl | rfl <;> rfl
theorem zehb (r : Nat) (h : r < 3) : zea (own2.take r) = false := by
  have : r = 0 ∨ r = 1 ∨ r = 2 := by omega
  rcases this with rfl | rfl | rfl <;> decide
section
variable {C : CallF} {n : Nat} {σ : Store}
def bLet (o : Bool) (bs : List (Tx × Co)) : List Cell := [⟨false, .int .i64 8⟩, ⟨false, .int .i64 0⟩, ⟨false, .str []⟩, ⟨false, .int .i64 0⟩, ⟨false, .int .i64 0⟩, ⟨false, .str []⟩, ⟨false, .nils⟩, ⟨false, .nils⟩, ⟨o, dBl bs⟩, ⟨false, .nils⟩]
def Elt (d : D) (ns : List Tx) (D r : Nat) (bs : List (Tx × Co)) (j k : Nat) : Env := { slots := [(0, ⟨false, d⟩), (1, ⟨false, .int .i64 j⟩), (2, ⟨false, dSs ns⟩), (3, ⟨false, .int .i64 (D + 1 : Nat)⟩), (20, ⟨true, .list k_1 [.str [97], .str [98]]⟩), (21, ⟨false, .int .i64 r⟩), (23, ⟨false, .int .i64 k⟩)], locs := [(8, 8, 0), (22, 22, 0)], boxes := [(8, z10), (22, bLet (ow k) bs)], defers := [] }
theorem zi0b (d : D) (ns : List Tx) (D r : Nat) (bs : List (Tx × Co)) (j k j' : Nat) (c : Co) (hk : k < r) (hr : r < 3) (hd : D < 1000) (hb : bs.length < 100) (hne : bs ≠ [] → ow k = true)
    (h1 : C n_2 [dSs ns, lS (own2.take r)] σ = some (.ret ⟨false, dSs (ns ++ own2.take r)⟩, σ))
    (h2 : C n_8 [d, .int .i64 j, dSs (ns ++ own2.take r), .int .i64 D] σ = some (.ret ⟨false, .tup [dCo c, .int .i64 j']⟩, σ)) :
    exec C n none a_80 (Elt d ns D r bs j k) σ = some (.normal, Elt d ns D r (bs ++ [(own2.getD k [], c)]) j' (k + 1), σ) := by
  have hlt : ((k : Int) < (r : Int)) := by omega
  have wd := zh4 hd
  have wk := zaj (i := k) (by omega)
  have hs := zql r hr
  have ho : k < own2.length := by simp [own2]; omega
  have hx := idx_S own2 k ho
  rw [← za0 own2 k [] ho] at hx
  have ha := appB1 bs (own2.getD k [], c) (ow k) hne (by omega)
  rw [dB_eq] at ha
  generalize own2.getD k [] = s at hx ha
  have hx : za7 1 (.list k_1 [.str [97], .str [98]]) k = some (.eptr (.str s)) := hx
  simp only [zae, zai] at h2 ha
  simp only [a_80, Elt, bLet, z10, sA, Nat.reduceAdd, Nat.reduceSub, Nat.reduceMul, Nat.reduceBEq, Nat.reduceLeDiff, Int.reduceBEq, Int.reduceBNe, Int.reduceLE, Int.reduceLT, Int.reduceGE, Int.reduceGT, Int.reduceNeg, kn, hlt, natI, hs, h1, wd, h2, hx, ha, wk, onel, okl, celll, zbk, zcr]
theorem zk8b (d : D) (ns : List Tx) (D r : Nat) (bs : List (Tx × Co)) (j : Nat) : exec C n none a_80 (Elt d ns D r bs j r) σ = some (.exit 1, { Elt d ns D r bs j r with slots := [(0, ⟨false, d⟩), (1, ⟨false, .int .i64 j⟩), (2, ⟨false, dSs ns⟩), (3, ⟨false, .int .i64 (D + 1 : Nat)⟩), (20, ⟨true, .list k_1 [.str [97], .str [98]]⟩), (21, ⟨false, .int .i64 r⟩), (23, ⟨false, .int .i64 r⟩), (116, ⟨false, .bool false⟩)] }, σ) := by
  have hlt : ¬ ((r : Int) < (r : Int)) := by omega
  simp only [a_80, Elt, sA, Nat.reduceAdd, Nat.reduceSub, Nat.reduceMul, Nat.reduceBEq, Nat.reduceLeDiff, Int.reduceBEq, Int.reduceBNe, Int.reduceLE, Int.reduceLT, Int.reduceGE, Int.reduceGT, Int.reduceNeg, kn, hlt]
end
theorem zlwb {d : D} {xs : List Int} (hR : IR d xs) (D i : Nat) (hT : TmHas d D) (ns : List Tx) (hp : PT ns (D + 1) i) (hc : pickM xs i % 8 = 4) (hd : D < 1000) :
    ∃ co j, OkP n_8 [d, .int .i64 i, dSs ns, .int .i64 (D + 1 : Nat)] ⟨false, .tup [dCo co, .int .i64 (j : Nat)]⟩ ∧ TmOK ns (D + 1) i co j := by
  obtain ⟨h0, hl, h5, hi⟩ := hp
  simp only [szN] at hi
  have h1 := zdh (S := STm d xs D) rfl hR i (by omega) 0 σ0
  have hv := zfj hR.small i
  generalize pickM xs i = v at h1 hv hc
  have wi := zaj (i := i) (by omega)
  have wd := zh4 hd
  have hle : ¬ (((D + 1 : Nat) : Int) ≤ 0) := by omega
  have d8 : ((v : Int)).tdiv 8 = ((v / 8 : Nat) : Int) := tdivN v 8
  have w8 : IntKind.i64.wrap ((v / 8 : Nat) : Int) = ((v / 8 : Nat) : Int) := zbu (by omega) (by omega)
  have t3 : (((v / 8 : Nat) : Int)).tmod 3 = ((v / 8 % 3 : Nat) : Int) := tmodN _ 3
  have hr3 : v / 8 % 3 < 3 := Nat.mod_lt _ (by decide)
  have t8 : ((v : Int)).tmod 8 = 4 := by rw [show ((v : Int)).tmod 8 = ((v % 8 : Nat) : Int) from tmodN v 8, hc]; rfl
  generalize v / 8 % 3 = r at t3 hr3
  have hol : (own2.take r).length ≤ 2 := by simp [own2]; omega
  have hb := zpu (S := STm d xs D) rfl ns (own2.take r) (by omega) 0 σ0
  have hn5 : ∀ s ∈ ns ++ own2.take r, s.length ≤ 5 := fun s hs => by
    rcases List.mem_append.1 hs with h | h
    · exact h5 s h
    · have := List.mem_of_mem_take h
      simp only [own2, List.mem_cons, List.not_mem_nil, or_false] at this
      rcases this with rfl | rfl <;> simp
  have hn0 : ns ++ own2.take r ≠ [] := by simp [h0]
  have hnl : (ns ++ own2.take r).length + 2 * D ≤ 100 := by rw [List.length_append]; omega
  obtain ⟨res, hr, bs, j, rfl, q1, q2, q3, q4⟩ := zer (body := exec (T (STm d xs D) 1) 5 none a_80)
    (fun k e σ => σ = σ0 ∧ ∃ bs j, e = Elt d ns D r bs j k ∧ bs.map Prod.fst = own2.take k ∧ (∀ p ∈ bs, Good (ns ++ own2.take r) p.2 ∧ Shp 5 p.2 ∧ hgt p.2 ≤ D + 1) ∧ szB bs ≤ k * (szT D + 1) ∧ j ≤ i + 1 + k * szN D)
    (fun res => ∃ bs j, res = (.exit 1, { Elt d ns D r bs j r with slots := [(0, ⟨false, d⟩), (1, ⟨false, .int .i64 j⟩), (2, ⟨false, dSs ns⟩), (3, ⟨false, .int .i64 (D + 1 : Nat)⟩), (20, ⟨true, .list k_1 [.str [97], .str [98]]⟩), (21, ⟨false, .int .i64 r⟩), (23, ⟨false, .int .i64 r⟩), (116, ⟨false, .bool false⟩)] }, σ0) ∧ bs.map Prod.fst = own2.take r ∧ (∀ p ∈ bs, Good (ns ++ own2.take r) p.2 ∧ Shp 5 p.2 ∧ hgt p.2 ≤ D + 1) ∧ szB bs ≤ r * (szT D + 1) ∧ j ≤ i + 1 + r * szN D) r
    (fun k e σ hk ⟨hσ, bs, j, he, p1, p2, p3, p4⟩ => by
      subst hσ he
      have hkm : (k + 1) * szN D ≤ 2 * szN D := Nat.mul_le_mul_right _ (by omega)
      rw [Nat.succ_mul] at hkm
      obtain ⟨c, j', ⟨a1, a2, a3, a4, a5⟩, h2⟩ := zfk (S := STm d xs D) rfl hT j (ns ++ own2.take r) ⟨hn0, hnl, hn5, by omega⟩
      have hlb : bs.length = (own2.take k).length := by rw [← p1, List.length_map]
      have hlk : (own2.take k).length ≤ 2 := by simp [own2]; omega
      have hko : k < own2.length := by simp [own2]; omega
      refine ⟨_, _, zi0b d ns D r bs j k j' c hk hr3 hd (by omega) (fun h => ?_) hb (h2 0 σ0), rfl, _, _, rfl, ?_, fun p hp => ?_, ?_, ?_⟩
      · cases k with
        | zero => exact absurd (List.length_eq_zero_iff.1 (by rw [hlb]; rfl)) h
        | succ k => rfl
      · rw [List.map_append, p1, ← zba own2 k hko, ← za0 own2 k [] hko]
        rfl
      · rcases List.mem_append.1 hp with h | h
        · exact p2 p h
        · rw [List.mem_singleton.1 h]
          exact ⟨a1, a2, a4⟩
      · rw [zix, Nat.succ_mul]
        simp only [szB]
        omega
      · rw [Nat.succ_mul]; omega)
    (fun e σ ⟨hσ, bs, j, he, p1, p2, p3, p4⟩ => by
      subst hσ he
      exact ⟨_, zk8b d ns D r bs j, fun _ _ h => (by cases h), bs, j, rfl, p1, p2, p3, p4⟩) 0 5 (Elt d ns D r [] (i + 1) 0) σ0 (by omega) (by omega)
    ⟨rfl, _, _, rfl, rfl, (fun a h => by cases h), by simp [szB], by omega⟩
  have hm1 : r * (szT D + 1) ≤ 2 * (szT D + 1) := Nat.mul_le_mul_right _ (by omega)
  have hm2 : r * szN D ≤ 2 * szN D := Nat.mul_le_mul_right _ (by omega)
  obtain ⟨b, j2, ⟨b1, b2, b3, b4, b5⟩, h3⟩ := zfk (S := STm d xs D) rfl hT j (ns ++ own2.take r) ⟨hn0, hnl, hn5, by omega⟩
  have h3 := h3 0 σ0
  have hsz : (Co.mk 8 0 [] [b] bs []).size = 1 + b.size + szB bs := by simp only [Co.size, szK, szA]; omega
  have hh := zdjb bs fun x hx => (q2 x hx).2.2
  refine ⟨.mk 8 0 [] [b] bs [], j2, tm_mk hR (o := false) ?_, .lt (by rw [q1]; exact zehb r hr3) (fun p hp => by rw [q1]; exact (q2 p hp).1) (by rw [q1]; exact b1), .lt (by simp) (fun p hp => ?_) (fun p hp => (q2 p hp).2.1) b2, by rw [hsz]; simp only [szT]; omega, by simp only [hgt, hgK, hgA]; omega, by simp only [szN]; omega⟩
  · have eC : dCs [b] = .list k_6 [dCo b] := rfl
    rw [zae (.mk 8 0 [] [b] bs []), zai]
    simp only [co, eC]
    have e0 : ow 0 = false := rfl
    have e1 : dBl [] = .nils := rfl
    have hs := zql r hr3
    simp only [Elt, bLet, z10, zeroI, e0, e1] at hr
    simp only [zae, zai] at h3 ⊢
    simp only [a_18, sA, Nat.reduceAdd, Nat.reduceSub, Nat.reduceMul, Nat.reduceBEq, Nat.reduceLeDiff, Int.reduceBEq, Int.reduceBNe, Int.reduceLE, Int.reduceLT, Int.reduceGE, Int.reduceGT, Int.reduceNeg, kn, h1, wi, wd, hle, t8, d8, w8, t3, hr, natI, hs, hb, h3, onel, okl, celll]
    rfl
  · have : p.1 ∈ own2.take r := by rw [← q1]; exact List.mem_map_of_mem hp
    exact hn5 _ (List.mem_append.2 (.inr this))
end Go.Fu
namespace Go.Fu
open Go Go.Mx
set_option maxRecDepth 10000
set_option maxHeartbeats 4000000
theorem ze6b {d : D} {xs : List Int} (hR : IR d xs) : ∀ deep, deep < 1000 → TmHas d deep
  | 0, h => fun i ns hp => zzk hR 0 i ns hp (.inl rfl) h
  | D + 1, h => fun i ns hp => by
    have ih := ze6b hR D (by omega)
    have h8 : pickM xs i % 8 < 2 ∨ pickM xs i % 8 = 2 ∨ pickM xs i % 8 = 3 ∨ pickM xs i % 8 = 4 ∨ pickM xs i % 8 = 5 ∨ (pickM xs i % 8 = 6 ∨ pickM xs i % 8 = 7) := by omega
    rcases h8 with q | q | q | q | q | q
    · exact zzk hR (D + 1) i ns hp (.inr q) h
    · exact zjxb hR D i ih ns hp q (by omega)
    · exact zjzb hR D i ih ns hp q (by omega)
    · exact zlwb hR D i ih ns hp q (by omega)
    · exact zjyb hR D i ns hp q (by omega)
    · exact zlvb hR D i ih ns hp q (by omega)
def all4 : List Tx := [[102], [103], [104], [120]]
def own3 : List Tx := [[120], [121], [122]]
def lAll : D := .list k_1 [.str [102], .str [103], .str [104], .str [120]]
def lOwn : D := .list k_1 [.str [120], .str [121], .str [122]]
theorem zzm (m : Nat) (h : m < 4) : zf0 1 lAll 0 (some (m + 1)) = some (dSs (all4.take (m + 1))) := by
  have : m = 0 ∨ m = 1 ∨ m = 2 ∨ m = 3 := by omega
  rcases this with rfl | rfl | rfl | rfl <;> rfl
theorem zbbb (k : Nat) (h : k < 4) : zf0 1 lOwn 0 (some k) = some (lS (own3.take k)) := by
  have : k = 0 ∨ k = 1 ∨ k = 2 ∨ k = 3 := by omega
  rcases this with rfl | rfl | rfl | rfl <;> rfl
theorem zeib (k : Nat) (h : k < 4) : zea (own3.take k) = false := by
  have : k = 0 ∨ k = 1 ∨ k = 2 ∨ k = 3 := by omega
  rcases this with rfl | rfl | rfl | rfl <;> decide
theorem zcib (m : Nat) (h : m < 4) : zea (FL.map Fd.name ++ all4.take (m + 1)) = false := by
  have : m = 0 ∨ m = 1 ∨ m = 2 ∨ m = 3 := by omega
  rcases this with rfl | rfl | rfl | rfl <;> decide
section
variable {C : CallF} {n : Nat} {σ : Store}
def Emd (d : D) (m : Nat) (us : List Su) (j i : Nat) : Env := { slots := [(0, ⟨false, d⟩), (3, ⟨true, lAll⟩), (4, ⟨true, lOwn⟩), (5, ⟨false, .int .i64 (m + 1 : Nat)⟩), (6, ⟨false, .int .i64 j⟩), (7, ⟨ow i, dUs us⟩), (8, ⟨false, .int .i64 i⟩)], locs := [], boxes := [], defers := [] }
theorem zi2b (d : D) (m : Nat) (us : List Su) (j i v j' : Nat) (c : Co) (hi : i < m + 1) (hm : m < 4) (hj : j < 1000000) (hul : us.length < 100) (hne : us ≠ [] → ow i = true)
    (h1 : C n_17 [d, .int .i64 j] σ = some (.ret ⟨false, .int .i64 v⟩, σ))
    (h2 : C n_2 [dSs (all4.take (m + 1)), lS (own3.take (v % 4))] σ = some (.ret ⟨false, dSs (all4.take (m + 1) ++ own3.take (v % 4))⟩, σ))
    (h3 : C n_8 [d, .int .i64 (j + 1 : Nat), dSs (all4.take (m + 1) ++ own3.take (v % 4)), .int .i64 4] σ = some (.ret ⟨false, .tup [dCo c, .int .i64 j']⟩, σ)) :
    exec C n none a_66 (Emd d m us j i) σ = some (.normal, Emd d m (us ++ [⟨all4.getD i [], own3.take (v % 4), c⟩]) j' (i + 1), σ) := by
  have hlt : ((i : Int) < ((m + 1 : Nat) : Int)) := by omega
  have t4 : ((v : Int)).tmod 4 = ((v % 4 : Nat) : Int) := tmodN v 4
  have hv4 : v % 4 < 4 := Nat.mod_lt _ (by decide)
  have wj := zaj (i := j) (by omega)
  have wi := zaj (i := i) (by omega)
  have hs1 := zzm m hm
  have hs2 := zbbb (v % 4) hv4
  have ho : i < all4.length := by simp [all4]; omega
  have hx := idx_S all4 i ho
  rw [← za0 all4 i [] ho] at hx
  have ap : za1 k_1 16 ⟨false, .nils⟩ ((own3.take (v % 4)).map D.str) = some ⟨true, dSs (own3.take (v % 4))⟩ := appS0 _ false (by simp [own3]; omega)
  have ha := appU1 us ⟨all4.getD i [], own3.take (v % 4), c⟩ (ow i) hne (by omega)
  have has : zbl (lS (own3.take (v % 4))) = some ((own3.take (v % 4)).map D.str) := rfl
  rw [dU_eq, cU] at ha
  generalize all4.getD i [] = s at hx ha
  have hx : za7 1 lAll i = some (.eptr (.str s)) := hx
  generalize own3.take (v % 4) = o3 at *
  simp only [zae, zai] at h3 ha
  simp only [a_66, Emd, sA, Nat.reduceAdd, Nat.reduceSub, Nat.reduceMul, Nat.reduceBEq, Nat.reduceLeDiff, Int.reduceBEq, Int.reduceBNe, Int.reduceLE, Int.reduceLT, Int.reduceGE, Int.reduceGT, Int.reduceNeg, kn, hlt, natI, hs1, hs2, h1, h2, t4, wj, h3, hx, ha, has, ap, wi, onel, okl, celll, zbk, zcr]
theorem zk9b (d : D) (m : Nat) (us : List Su) (j : Nat) : exec C n none a_66 (Emd d m us j (m + 1)) σ = some (.exit 0, { Emd d m us j (m + 1) with slots := [(0, ⟨false, d⟩), (3, ⟨true, lAll⟩), (4, ⟨true, lOwn⟩), (5, ⟨false, .int .i64 (m + 1 : Nat)⟩), (6, ⟨false, .int .i64 j⟩), (7, ⟨true, dUs us⟩), (8, ⟨false, .int .i64 (m + 1 : Nat)⟩), (26, ⟨false, .bool false⟩)] }, σ) := by
  have hlt : ¬ (((m + 1 : Nat) : Int) < ((m + 1 : Nat) : Int)) := by omega
  simp only [a_66, Emd, sA, Nat.reduceAdd, Nat.reduceSub, Nat.reduceMul, Nat.reduceBEq, Nat.reduceLeDiff, Int.reduceBEq, Int.reduceBNe, Int.reduceLE, Int.reduceLT, Int.reduceGE, Int.reduceGT, Int.reduceNeg, kn, hlt, zcr]
end
end Go.Fu
namespace Go.Fu
open Go Go.Mx
set_option maxRecDepth 10000
set_option maxHeartbeats 4000000
def SMd (d : D) (xs : List Int) : Specs := [(n_17, zqu d xs), (n_2, znr), (n_8, spTm d 4)]
def zcgb (us : List Su) : Prop := GoodP us ∧ us.length ≤ 4 ∧ ∀ u ∈ us, PreU 5 200 u ∧ u.body.size ≤ 1200
theorem zsj {d : D} {xs : List Int} (hR : IR d xs) : ∃ (m : Nat) (us : List Su) (j : Nat), m < 4 ∧ (∀ σ, T (SMd d xs) 1 n_17 [d, .int .i64 0] σ = some (.ret ⟨false, .int .i64 (pickM xs 0 : Nat)⟩, σ)) ∧ m = pickM xs 0 % 4 ∧
    loopN (exec (T (SMd d xs) 1) 6 none a_66) 6 (Emd d m [] 1 0) σ0 = some (.exit 0, { Emd d m us j (m + 1) with slots := [(0, ⟨false, d⟩), (3, ⟨true, lAll⟩), (4, ⟨true, lOwn⟩), (5, ⟨false, .int .i64 (m + 1 : Nat)⟩), (6, ⟨false, .int .i64 j⟩), (7, ⟨true, dUs us⟩), (8, ⟨false, .int .i64 (m + 1 : Nat)⟩), (26, ⟨false, .bool false⟩)] }, σ0) ∧ zcgb us := by
  have hp0 : ∀ σ, T (SMd d xs) 1 n_17 [d, .int .i64 0] σ = some (.ret ⟨false, .int .i64 (pickM xs 0 : Nat)⟩, σ) := fun σ => zdh (S := SMd d xs) rfl hR 0 (by omega) 0 σ
  obtain ⟨m, hm⟩ : ∃ m, m = pickM xs 0 % 4 := ⟨_, rfl⟩
  have hm4 : m < 4 := by rw [hm]; exact Nat.mod_lt _ (by decide)
  have hN : szN 4 = 681 := rfl
  have hT4 : szT 4 = 1106 := rfl
  have hal : (all4.take (m + 1)).length = m + 1 := by simp [all4]; omega
  obtain ⟨r, hr, us, j, rfl, q1, q2⟩ := zer (body := exec (T (SMd d xs) 1) 6 none a_66)
    (fun i e σ => σ = σ0 ∧ ∃ us j, e = Emd d m us j i ∧ us.map Su.name = all4.take i ∧ j ≤ 1 + i * 682 ∧ ∀ u ∈ us, ∃ k, k < 4 ∧ u.ps = own3.take k ∧ u.name.length = 1 ∧ Good (all4.take (m + 1) ++ u.ps) u.body ∧ Shp 5 u.body ∧ u.body.size ≤ 1106 ∧ hgt u.body ≤ 5)
    (fun r => ∃ us j, r = (.exit 0, { Emd d m us j (m + 1) with slots := [(0, ⟨false, d⟩), (3, ⟨true, lAll⟩), (4, ⟨true, lOwn⟩), (5, ⟨false, .int .i64 (m + 1 : Nat)⟩), (6, ⟨false, .int .i64 j⟩), (7, ⟨true, dUs us⟩), (8, ⟨false, .int .i64 (m + 1 : Nat)⟩), (26, ⟨false, .bool false⟩)] }, σ0) ∧ us.map Su.name = all4.take (m + 1) ∧ ∀ u ∈ us, ∃ k, k < 4 ∧ u.ps = own3.take k ∧ u.name.length = 1 ∧ Good (all4.take (m + 1) ++ u.ps) u.body ∧ Shp 5 u.body ∧ u.body.size ≤ 1106 ∧ hgt u.body ≤ 5) (m + 1)
    (fun i e σ hi ⟨hσ, us, j, he, p1, p2, p3⟩ => by
      subst hσ he
      have h1 := zdh (S := SMd d xs) rfl hR j (by omega) 0 σ0
      generalize pickM xs j = v at h1
      have hv4 : v % 4 < 4 := Nat.mod_lt _ (by decide)
      have hol : (own3.take (v % 4)).length ≤ 3 := by simp [own3]; omega
      have h2 := zpu (S := SMd d xs) rfl (all4.take (m + 1)) (own3.take (v % 4)) (by omega) 0 σ0
      have hlu : us.length = (all4.take i).length := by rw [← p1, List.length_map]
      have hli : (all4.take i).length ≤ 4 := by simp [all4]; omega
      have hio : i < all4.length := by simp [all4]; omega
      obtain ⟨c, j', ⟨a1, a2, a3, a4, a5⟩, h3⟩ := zfk (S := SMd d xs) rfl (ze6b hR 4 (by omega)) (j + 1) (all4.take (m + 1) ++ own3.take (v % 4)) ⟨fun h => by
          have := congrArg List.length h
          rw [List.length_append, hal] at this
          simp at this, by rw [List.length_append, hal]; omega, fun s hs => by
          rcases List.mem_append.1 hs with h | h
          · have := List.mem_of_mem_take h
            simp only [all4, List.mem_cons, List.not_mem_nil, or_false] at this
            rcases this with rfl | rfl | rfl | rfl <;> simp
          · have := List.mem_of_mem_take h
            simp only [own3, List.mem_cons, List.not_mem_nil, or_false] at this
            rcases this with rfl | rfl | rfl <;> simp, by omega⟩
      have hng : (all4.getD i []).length = 1 := by
        rw [za0 all4 i [] hio]
        have := List.getElem_mem hio
        generalize all4[i] = s at this
        simp only [all4, List.mem_cons, List.not_mem_nil, or_false] at this
        rcases this with rfl | rfl | rfl | rfl <;> rfl
      refine ⟨_, _, zi2b d m us j i v j' c hi hm4 (by omega) (by omega) (fun h => ?_) h1 h2 (h3 0 σ0), rfl, _, _, rfl, ?_, by omega, fun u hu => ?_⟩
      · cases i with
        | zero => exact absurd (List.length_eq_zero_iff.1 (by rw [hlu]; rfl)) h
        | succ i => rfl
      · rw [List.map_append, p1, ← zba all4 i hio, ← za0 all4 i [] hio]
        rfl
      · rcases List.mem_append.1 hu with h | h
        · exact p3 u h
        · rw [List.mem_singleton.1 h]
          exact ⟨v % 4, hv4, rfl, hng, a1, a2, by simp only; omega, by simp only; omega⟩)
    (fun e σ ⟨hσ, us, j, he, p1, p2, p3⟩ => by
      subst hσ he
      exact ⟨_, zk9b d m us j, fun _ _ h => (by cases h), us, j, rfl, p1, p3⟩) 0 6 (Emd d m [] 1 0) σ0 (by omega) (by omega)
    ⟨rfl, _, _, rfl, rfl, by omega, (fun a h => by cases h)⟩
  have hul : us.length = m + 1 := by rw [← hal, ← q1, List.length_map]
  refine ⟨m, us, j, hm4, hp0, hm, hr, ⟨by omega, by rw [q1]; exact zcib m hm4, fun u hu => ?_, fun u hu => ?_⟩, by omega, fun u hu => ?_⟩
  · obtain ⟨k, hk, e, _⟩ := q2 u hu
    rw [e]
    exact ⟨zeib k hk, by simp [own3]; omega⟩
  · obtain ⟨k, hk, e, h1, h2, h3, h4, h5⟩ := q2 u hu
    rw [q1]
    exact ⟨h2, by omega⟩
  · obtain ⟨k, hk, e, h1, h2, h3, h4, h5⟩ := q2 u hu
    have hpl : u.ps.length ≤ 3 := by rw [e]; simp [own3]; omega
    exact ⟨⟨h3, by omega, by omega, by omega⟩, by omega⟩
theorem zi1b {d : D} {xs : List Int} (hR : zt0 k_int d xs) (hS : ∀ x ∈ xs, Small x) : ∃ us, OkP n_153 [d] ⟨false, dUs us⟩ ∧ zcgb us := by
  have mkIR : ∀ ys : List Int, (∀ x ∈ ys, Small x) → IR (.list k_int (ys.map fun x => .int .i64 x)) ys := fun ys hs => by
    refine ⟨by simp [lenOf], fun i h => ?_, by rw [noPtr]; exact zc3 (fun _ => rfl) ys, hs⟩
    have hn : nth (ys.map fun x => D.int .i64 x) i = some (.int .i64 ys[i]) := by rw [zri, zrh _ _ h]; rfl
    have hk : (k_int.sz == 1) = true := rfl
    rw [idxL, hk, hn]
    rfl
  have e0 : ow 0 = false := rfl
  have e1 : dUs [] = .nils := rfl
  have hI : IR d xs := by
    rcases hR with rfl | ⟨rfl, rfl⟩
    · exact mkIR xs hS
    · exact ⟨rfl, fun i h => by simp at h, rfl, hS⟩
  by_cases hl : xs.length ≤ 80
  · obtain ⟨m, us, j, hm, hp, hpm, hr, hok⟩ := zsj hI
    refine ⟨us, OkP.weak (o := true) rfl (zap (af := a_78) (n := 6) (σ' := σ0) (zar (SMd d xs) 1) rfl rfl (by simp [zan, hI.np]) (zdj _) ?_), hok⟩
    have hg : ¬ ((80 : Int) < (xs.length : Int)) := by omega
    have t4 : ((pickM xs 0 : Nat) : Int).tmod 4 = (m : Int) := by rw [hpm]; exact tmodN _ 4
    have wm := zaj (i := m) (by omega)
    have hp := hp σ0
    generalize pickM xs 0 = v at hp t4
    simp only [Emd, zeroI, oneI, e0, e1, lAll, lOwn] at hr
    simp only [a_78, sA, Nat.reduceAdd, Nat.reduceSub, Nat.reduceMul, Nat.reduceBEq, Nat.reduceLeDiff, Int.reduceBEq, Int.reduceBNe, Int.reduceLE, Int.reduceLT, Int.reduceGE, Int.reduceGT, Int.reduceNeg, kn, hI.len, hg, hp, t4, wm, hr]
  · rcases hR with rfl | ⟨rfl, rfl⟩
    · have hI2 := mkIR (xs.take 80) fun x hx => hS x (List.mem_of_mem_take hx)
      obtain ⟨m, us, j, hm, hp, hpm, hr, hok⟩ := zsj hI2
      refine ⟨us, OkP.weak (o := true) rfl (zap (af := a_78) (n := 6) (σ' := σ0) (zar (SMd (.list k_int ((xs.take 80).map fun x => .int .i64 x)) (xs.take 80)) 1) rfl rfl (by simp only [zan, hI.np]; rfl) (zdj _) ?_), hok⟩
      have hg : ((80 : Int) < (xs.length : Int)) := by omega
      have t4 : ((pickM (xs.take 80) 0 : Nat) : Int).tmod 4 = (m : Int) := by rw [hpm]; exact tmodN _ 4
      have wm := zaj (i := m) (by omega)
      have hsl : zf0 1 (.list k_int (xs.map fun x => .int .i64 x)) 0 (some 80) = some (.list k_int ((xs.take 80).map fun x => .int .i64 x)) := by
        have h1 : decide (0 ≤ 80) = true := rfl
        have h2 : decide (80 ≤ (xs.map fun x => D.int .i64 x).length) = true := by simp; omega
        have h3 : (k_int.sz == 1) = true := rfl
        simp only [zf0, Option.getD_some, h2, h3, List.drop_zero, Nat.sub_zero, List.map_take]
        rfl
      have hp := hp σ0
      have hlen := hI.len
      generalize pickM (xs.take 80) 0 = v at hp t4
      generalize D.list k_int ((xs.take 80).map fun x => D.int .i64 x) = d2 at *
      generalize D.list k_int (xs.map fun x => D.int .i64 x) = d1 at *
      have n80 : ∀ {k : IntKind}, D.nat? (.int k 80) = some 80 := rfl
      simp only [Emd, zeroI, oneI, e0, e1, lAll, lOwn] at hr
      simp only [a_78, sA, Nat.reduceAdd, Nat.reduceSub, Nat.reduceMul, Nat.reduceBEq, Nat.reduceLeDiff, Int.reduceBEq, Int.reduceBNe, Int.reduceLE, Int.reduceLT, Int.reduceGE, Int.reduceGT, Int.reduceNeg, kn, hlen, hg, hsl, n80, hp, t4, wm, hr]
    · exact absurd (Nat.zero_le 80) hl
end Go.Fu
namespace Go.Fu
open Go Go.Mx
set_option maxRecDepth 10000
set_option maxHeartbeats 4000000
def isN (s : Tx) : Bool := (s == [80, 85, 83, 72, 71] || s == [80, 65, 67, 75]) || s == [84, 69, 83, 84]
def isM (s : Tx) : Bool := s == [80, 65, 67, 75] || s == [84, 69, 83, 84, 73]
def nums : List Tx := [[80, 85, 83, 72, 73], [80, 85, 83, 72, 65], [80, 65, 67, 75], [83, 76, 73, 68, 69], [80, 79, 80], [85, 80, 68, 65, 84, 69], [65, 76, 76, 79, 67], [84, 69, 83, 84], [84, 69, 83, 84, 73], [83, 80, 76, 73, 84], [74, 85, 77, 80]]
def isK (s : Tx) : Bool := nums.any (· == s)
def lineM (i : In) : Tx := (((32 :: i.op) ++ ifB (isN i.op) (32 :: i.name) []) ++ ifB (isM i.op) (32 :: itoaN i.m) []) ++ ifB (isK i.op) (32 :: itoaN i.n) []
theorem zrb {b : Bool} {x : Tx} {n : Nat} (h : x.length ≤ n) : (ifB b x []).length ≤ n := by cases b <;> simp [ifB, h]
theorem zm3 {B : Nat} {i : In} (h : GI B i) : (lineM i).length ≤ B + 60 := by
  have h1 : (ifB (isN i.op) (32 :: i.name) []).length ≤ B + 1 := zrb (by have := h.2.2.2; simp; omega)
  have h2 : (ifB (isM i.op) (32 :: itoaN i.m) []).length ≤ 22 := zrb (by have := zc0 i.m; simp; omega)
  have h3 : (ifB (isK i.op) (32 :: itoaN i.n) []).length ≤ 22 := zrb (by have := zc0 i.n; simp; omega)
  have := h.1
  simp only [lineM, List.length_append, List.length_cons]
  omega
def SLn : Specs := [(n_16, zj5)]
theorem zdzb (op : Tx) (n m : Int) (nm : Tx) (e : op = [80, 85, 83, 72, 71]) : lineM ⟨op, n, m, nm⟩ = (32 :: op) ++ [32] ++ nm := by
  subst e
  have h1 : isN [80, 85, 83, 72, 71] = true := by decide
  have h2 : isM [80, 85, 83, 72, 71] = false := by decide
  have h3 : isK [80, 85, 83, 72, 71] = false := by decide
  simp [lineM, h1, h2, h3, ifB]
theorem zd1b (op : Tx) (n m : Int) (nm : Tx) (e : op = [80, 65, 67, 75]) : lineM ⟨op, n, m, nm⟩ = (32 :: op) ++ [32] ++ nm ++ [32] ++ itoaN m ++ [32] ++ itoaN n := by
  subst e
  have h1 : isN [80, 65, 67, 75] = true := by decide
  have h2 : isM [80, 65, 67, 75] = true := by decide
  have h3 : isK [80, 65, 67, 75] = true := by decide
  simp [lineM, h1, h2, h3, ifB]
theorem zd3b (op : Tx) (n m : Int) (nm : Tx) (e : op = [84, 69, 83, 84]) : lineM ⟨op, n, m, nm⟩ = (32 :: op) ++ [32] ++ nm ++ [32] ++ itoaN n := by
  subst e
  have h1 : isN [84, 69, 83, 84] = true := by decide
  have h2 : isM [84, 69, 83, 84] = false := by decide
  have h3 : isK [84, 69, 83, 84] = true := by decide
  simp [lineM, h1, h2, h3, ifB]
theorem zd0b (op : Tx) (n m : Int) (nm : Tx) (e : op = [84, 69, 83, 84, 73]) : lineM ⟨op, n, m, nm⟩ = (32 :: op) ++ [32] ++ itoaN m ++ [32] ++ itoaN n := by
  subst e
  have h1 : isN [84, 69, 83, 84, 73] = false := by decide
  have h2 : isM [84, 69, 83, 84, 73] = true := by decide
  have h3 : isK [84, 69, 83, 84, 73] = true := by decide
  simp [lineM, h1, h2, h3, ifB]
def nums8 : List Tx := [[80, 85, 83, 72, 73], [80, 85, 83, 72, 65], [83, 76, 73, 68, 69], [80, 79, 80], [85, 80, 68, 65, 84, 69], [65, 76, 76, 79, 67], [83, 80, 76, 73, 84], [74, 85, 77, 80]]
theorem zhu (op : Tx) (n m : Int) (nm : Tx) (e : op ∈ nums8) : lineM ⟨op, n, m, nm⟩ = (32 :: op) ++ [32] ++ itoaN n := by
  have h : isN op = false ∧ isM op = false ∧ isK op = true := by
    revert op
    decide
  simp [lineM, h, ifB]
theorem zk7b (op : Tx) (n m : Int) (nm : Tx) (h1 : (op == [80, 85, 83, 72, 71]) = false) (h2 : (op == [80, 65, 67, 75]) = false) (h3 : (op == [84, 69, 83, 84]) = false) (h4 : (op == [84, 69, 83, 84, 73]) = false) (h5 : op ∉ nums8) : lineM ⟨op, n, m, nm⟩ = 32 :: op := by
  have e1 : isN op = false := by simp only [isN, h1, h2, h3, Bool.or_self]
  have e2 : isM op = false := by simp only [isM, h2, h4, Bool.or_self]
  have e3 : isK op = false := by
    simp only [isK, List.any_eq_false, beq_iff_eq]
    intro x hx hxe
    subst hxe
    simp only [nums, List.mem_cons, List.not_mem_nil, or_false] at hx
    simp only [nums8, List.mem_cons, List.not_mem_nil, or_false, not_or] at h5
    simp only [beq_eq_false_iff_ne, ne_eq] at h1 h2 h3 h4
    rcases hx with h | h | h | h | h | h | h | h | h | h | h <;> simp_all
  simp [lineM, e1, e2, e3, ifB]
end Go.Fu
namespace Go.Fu
open Go Go.Mx
set_option maxRecDepth 10000
set_option maxHeartbeats 4000000
set_option maxHeartbeats 4000000 in
theorem zd2b {B : Nat} (i : In) (hg : GI B i) (hB : B ≤ 1000000) : OkP n_107 [dI i] ⟨false, .str (lineM i)⟩ := by
  refine zap (af := a_14) (n := 1) (σ' := σ0) (zar SLn 1) rfl rfl rfl rfl ?_
  obtain ⟨op, n, m, nm⟩ := i
  obtain ⟨g1, g2, g3, g4⟩ := hg
  simp only at g1 g2 g3 g4
  have hn := zhi (S := SLn) rfl n g2 0 σ0
  have hm := zhi (S := SLn) rfl m g3 0 σ0
  have b1 : 1 + op.length ≤ 281474976710656 := by omega
  have b2 : op.length ≤ 281474976710654 := by omega
  have ln := zc0 n
  have lm := zc0 m
  have p1 : (op ++ [32]).length + 1 + (nm).length ≤ 281474976710656 := by simp; omega
  have p2 : (op ++ [32]).length + 1 + (itoaN m).length ≤ 281474976710656 := by simp; omega
  have p3 : (op ++ [32]).length + 1 + (itoaN n).length ≤ 281474976710656 := by simp; omega
  have p4 : (op ++ [32] ++ nm ++ [32]).length + 1 + (itoaN m).length ≤ 281474976710656 := by simp; omega
  have p5 : (op ++ [32] ++ nm ++ [32]).length + 1 + (itoaN n).length ≤ 281474976710656 := by simp; omega
  have p6 : (op ++ [32] ++ nm ++ [32] ++ itoaN m ++ [32]).length + 1 + (itoaN n).length ≤ 281474976710656 := by simp; omega
  have p7 : (op ++ [32] ++ itoaN m ++ [32]).length + 1 + (itoaN n).length ≤ 281474976710656 := by simp; omega
  have p8 : (op ++ [32] ++ nm).length ≤ 281474976710654 := by simp; omega
  have p9 : (op ++ [32] ++ nm ++ [32] ++ itoaN m).length ≤ 281474976710654 := by simp; omega
  have p10 : (op ++ [32] ++ itoaN m).length ≤ 281474976710654 := by simp; omega
  cases e1 : op == [80, 85, 83, 72, 71] with
  | true =>
    rw [zdzb op n m nm (by simpa using e1)]
    simp only [a_14, dI, sA, Nat.reduceAdd, Nat.reduceSub, Nat.reduceMul, Nat.reduceBEq, Nat.reduceLeDiff, Int.reduceBEq, Int.reduceBNe, Int.reduceLE, Int.reduceLT, Int.reduceGE, Int.reduceGT, Int.reduceNeg, kn, b1, b2, p1, p2, p3, p4, p5, p6, p7, p8, p9, p10, e1]
    try simp
  | false =>
    cases e2 : op == [80, 65, 67, 75] with
    | true =>
      rw [zd1b op n m nm (by simpa using e2)]
      simp only [a_14, dI, sA, Nat.reduceAdd, Nat.reduceSub, Nat.reduceMul, Nat.reduceBEq, Nat.reduceLeDiff, Int.reduceBEq, Int.reduceBNe, Int.reduceLE, Int.reduceLT, Int.reduceGE, Int.reduceGT, Int.reduceNeg, kn, b1, b2, p1, p2, p3, p4, p5, p6, p7, p8, p9, p10, e1, e2, zbk, hn, hm]
      try simp
    | false =>
      cases e3 : op == [84, 69, 83, 84] with
      | true =>
        rw [zd3b op n m nm (by simpa using e3)]
        simp only [a_14, dI, sA, Nat.reduceAdd, Nat.reduceSub, Nat.reduceMul, Nat.reduceBEq, Nat.reduceLeDiff, Int.reduceBEq, Int.reduceBNe, Int.reduceLE, Int.reduceLT, Int.reduceGE, Int.reduceGT, Int.reduceNeg, kn, b1, b2, p1, p2, p3, p4, p5, p6, p7, p8, p9, p10, e1, e2, e3, zbk, hn, hm]
        try simp
      | false =>
        cases e4 : op == [84, 69, 83, 84, 73] with
        | true =>
          rw [zd0b op n m nm (by simpa using e4)]
          simp only [a_14, dI, sA, Nat.reduceAdd, Nat.reduceSub, Nat.reduceMul, Nat.reduceBEq, Nat.reduceLeDiff, Int.reduceBEq, Int.reduceBNe, Int.reduceLE, Int.reduceLT, Int.reduceGE, Int.reduceGT, Int.reduceNeg, kn, b1, b2, p1, p2, p3, p4, p5, p6, p7, p8, p9, p10, e1, e2, e3, e4, zbk, hn, hm]
          try simp
        | false =>
          cases f0 : op == [80, 85, 83, 72, 73] with
          | true =>
            have e : op = [80, 85, 83, 72, 73] := by simpa using f0
            rw [zhu op n m nm (by rw [e]; simp [nums8])]
            simp only [a_14, dI, sA, Nat.reduceAdd, Nat.reduceSub, Nat.reduceMul, Nat.reduceBEq, Nat.reduceLeDiff, Int.reduceBEq, Int.reduceBNe, Int.reduceLE, Int.reduceLT, Int.reduceGE, Int.reduceGT, Int.reduceNeg, kn, b1, b2, p1, p2, p3, p4, p5, p6, p7, p8, p9, p10, e1, e2, e3, e4, f0, hn]
            try simp
          | false =>
            cases f1 : op == [80, 85, 83, 72, 65] with
            | true =>
              have e : op = [80, 85, 83, 72, 65] := by simpa using f1
              rw [zhu op n m nm (by rw [e]; simp [nums8])]
              simp only [a_14, dI, sA, Nat.reduceAdd, Nat.reduceSub, Nat.reduceMul, Nat.reduceBEq, Nat.reduceLeDiff, Int.reduceBEq, Int.reduceBNe, Int.reduceLE, Int.reduceLT, Int.reduceGE, Int.reduceGT, Int.reduceNeg, kn, b1, b2, p1, p2, p3, p4, p5, p6, p7, p8, p9, p10, e1, e2, e3, e4, f0, f1, hn]
              try simp
            | false =>
              cases f2 : op == [83, 76, 73, 68, 69] with
              | true =>
                have e : op = [83, 76, 73, 68, 69] := by simpa using f2
                rw [zhu op n m nm (by rw [e]; simp [nums8])]
                simp only [a_14, dI, sA, Nat.reduceAdd, Nat.reduceSub, Nat.reduceMul, Nat.reduceBEq, Nat.reduceLeDiff, Int.reduceBEq, Int.reduceBNe, Int.reduceLE, Int.reduceLT, Int.reduceGE, Int.reduceGT, Int.reduceNeg, kn, b1, b2, p1, p2, p3, p4, p5, p6, p7, p8, p9, p10, e1, e2, e3, e4, f0, f1, f2, hn]
                try simp
              | false =>
                cases f3 : op == [80, 79, 80] with
                | true =>
                  have e : op = [80, 79, 80] := by simpa using f3
                  rw [zhu op n m nm (by rw [e]; simp [nums8])]
                  simp only [a_14, dI, sA, Nat.reduceAdd, Nat.reduceSub, Nat.reduceMul, Nat.reduceBEq, Nat.reduceLeDiff, Int.reduceBEq, Int.reduceBNe, Int.reduceLE, Int.reduceLT, Int.reduceGE, Int.reduceGT, Int.reduceNeg, kn, b1, b2, p1, p2, p3, p4, p5, p6, p7, p8, p9, p10, e1, e2, e3, e4, f0, f1, f2, f3, hn]
                  try simp
                | false =>
                  cases f4 : op == [85, 80, 68, 65, 84, 69] with
                  | true =>
                    have e : op = [85, 80, 68, 65, 84, 69] := by simpa using f4
                    rw [zhu op n m nm (by rw [e]; simp [nums8])]
                    simp only [a_14, dI, sA, Nat.reduceAdd, Nat.reduceSub, Nat.reduceMul, Nat.reduceBEq, Nat.reduceLeDiff, Int.reduceBEq, Int.reduceBNe, Int.reduceLE, Int.reduceLT, Int.reduceGE, Int.reduceGT, Int.reduceNeg, kn, b1, b2, p1, p2, p3, p4, p5, p6, p7, p8, p9, p10, e1, e2, e3, e4, f0, f1, f2, f3, f4, hn]
                    try simp
                  | false =>
                    cases f5 : op == [65, 76, 76, 79, 67] with
                    | true =>
                      have e : op = [65, 76, 76, 79, 67] := by simpa using f5
                      rw [zhu op n m nm (by rw [e]; simp [nums8])]
                      simp only [a_14, dI, sA, Nat.reduceAdd, Nat.reduceSub, Nat.reduceMul, Nat.reduceBEq, Nat.reduceLeDiff, Int.reduceBEq, Int.reduceBNe, Int.reduceLE, Int.reduceLT, Int.reduceGE, Int.reduceGT, Int.reduceNeg, kn, b1, b2, p1, p2, p3, p4, p5, p6, p7, p8, p9, p10, e1, e2, e3, e4, f0, f1, f2, f3, f4, f5, hn]
                      try simp
                    | false =>
                      cases f6 : op == [83, 80, 76, 73, 84] with
                      | true =>
                        have e : op = [83, 80, 76, 73, 84] := by simpa using f6
                        rw [zhu op n m nm (by rw [e]; simp [nums8])]
                        simp only [a_14, dI, sA, Nat.reduceAdd, Nat.reduceSub, Nat.reduceMul, Nat.reduceBEq, Nat.reduceLeDiff, Int.reduceBEq, Int.reduceBNe, Int.reduceLE, Int.reduceLT, Int.reduceGE, Int.reduceGT, Int.reduceNeg, kn, b1, b2, p1, p2, p3, p4, p5, p6, p7, p8, p9, p10, e1, e2, e3, e4, f0, f1, f2, f3, f4, f5, f6, hn]
                        try simp
                      | false =>
                        cases f7 : op == [74, 85, 77, 80] with
                        | true =>
                          have e : op = [74, 85, 77, 80] := by simpa using f7
                          rw [zhu op n m nm (by rw [e]; simp [nums8])]
                          simp only [a_14, dI, sA, Nat.reduceAdd, Nat.reduceSub, Nat.reduceMul, Nat.reduceBEq, Nat.reduceLeDiff, Int.reduceBEq, Int.reduceBNe, Int.reduceLE, Int.reduceLT, Int.reduceGE, Int.reduceGT, Int.reduceNeg, kn, b1, b2, p1, p2, p3, p4, p5, p6, p7, p8, p9, p10, e1, e2, e3, e4, f0, f1, f2, f3, f4, f5, f6, f7, hn]
                          try simp
                        | false =>
                          rw [zk7b op n m nm e1 e2 e3 e4 (by simp only [beq_eq_false_iff_ne, ne_eq] at f0 f1 f2 f3 f4 f5 f6 f7; simp only [nums8, List.mem_cons, List.not_mem_nil, or_false, not_or]; exact ⟨f0, f1, f2, f3, f4, f5, f6, f7⟩)]
                          simp only [a_14, dI, sA, Nat.reduceAdd, Nat.reduceSub, Nat.reduceMul, Nat.reduceBEq, Nat.reduceLeDiff, Int.reduceBEq, Int.reduceBNe, Int.reduceLE, Int.reduceLT, Int.reduceGE, Int.reduceGT, Int.reduceNeg, kn, b1, b2, p1, p2, p3, p4, p5, p6, p7, p8, p9, p10, e1, e2, e3, e4, f0, f1, f2, f3, f4, f5, f6, f7]
end Go.Fu
namespace Go.Fu
open Go Go.Mx
set_option maxRecDepth 10000
set_option maxHeartbeats 4000000
def bodyM (l : List In) : Tx := l.flatMap fun i => lineM i ++ [10]
def headC (c : Cd) : Tx := c.name ++ [47] ++ itoaN c.arity ++ [10]
def zay (cs : List Cd) : Tx := cs.flatMap fun c => headC c ++ bodyM c.body
theorem idx_D (l : List Cd) (i : Nat) (h : i < l.length) : za7 3 (dDs l) i = some (.eptr (dD l[i])) := zfn rfl _ _ _ h
theorem len_D (l : List Cd) : lenOf (dDs l) = some l.length := zfp _ l
theorem zla (l : List In) (i : Nat) (h : i < l.length) : bodyM (l.take (i + 1)) = bodyM (l.take i) ++ lineM l[i] ++ [10] := by
  rw [← zba l i h, bodyM, List.flatMap_append, bodyM]
  simp only [List.flatMap_cons, List.flatMap_nil, List.append_nil, List.append_assoc]
theorem zhm (l : List Cd) (i : Nat) (h : i < l.length) : zay (l.take (i + 1)) = zay (l.take i) ++ (headC l[i] ++ bodyM l[i].body) := by
  rw [← zba l i h, zay, List.flatMap_append, zay]
  simp only [List.flatMap_cons, List.flatMap_nil, List.append_nil]
section
variable {C : CallF} {n : Nat} {σ : Store}
def Epl (cs : List Cd) (acc : Tx) (k i : Nat) : Env := { slots := [(0, ⟨false, dDs cs⟩), (3, ⟨false, .str acc⟩), (4, ⟨false, .int .i64 k⟩), (5, ⟨false, .int .i64 i⟩)], locs := [], boxes := [], defers := [] }
theorem zjmb (cs : List Cd) (c : Cd) (acc : Tx) (k i : Nat) (hx : za7 3 (dDs cs) k = some (.eptr (dD c))) (hi : i < c.body.length) (hl : c.body.length < 1000000000) (ha : acc.length ≤ 140737488355328) (hb : (lineM c.body[i]).length ≤ 1000000)
    (h1 : C n_107 [dI c.body[i]] σ = some (.ret ⟨false, .str (lineM c.body[i])⟩, σ)) : exec C n none a_67 (Epl cs acc k i) σ = some (.normal, Epl cs (acc ++ lineM c.body[i] ++ [10]) k (i + 1), σ) := by
  have hlt : ((i : Int) < (c.body.length : Int)) := by omega
  have hy := idx_I c.body i hi
  have w := zaj (i := i) (by omega)
  generalize lineM c.body[i] = ln at hb h1 ⊢
  have b1 : acc.length + ln.length ≤ 281474976710656 := by omega
  have b2 : (acc ++ ln).length ≤ 281474976710655 := by simp; omega
  simp only [dD] at hx
  have hp : Mx.part none [.str c.name, .int .i64 c.arity, dIs c.body] 2 = some (dIs c.body) := rfl
  generalize c.body[i] = ins at hy h1
  simp only [dI] at hy h1
  simp only [a_67, Epl, sA, Nat.reduceAdd, Nat.reduceSub, Nat.reduceMul, Nat.reduceBEq, Nat.reduceLeDiff, Int.reduceBEq, Int.reduceBNe, Int.reduceLE, Int.reduceLT, Int.reduceGE, Int.reduceGT, Int.reduceNeg, kn, hx, hp, natI, onel, len_I, hlt, hy, h1, b1, b2, w]
theorem zlnb (cs : List Cd) (c : Cd) (acc : Tx) (k : Nat) (hx : za7 3 (dDs cs) k = some (.eptr (dD c))) : exec C n none a_67 (Epl cs acc k c.body.length) σ = some (.exit 2, { Epl cs acc k c.body.length with slots := [(0, ⟨false, dDs cs⟩), (3, ⟨false, .str acc⟩), (4, ⟨false, .int .i64 k⟩), (5, ⟨false, .int .i64 c.body.length⟩), (35, ⟨false, .bool false⟩)] }, σ) := by
  have hlt : ¬ ((c.body.length : Int) < (c.body.length : Int)) := by omega
  have hp : Mx.part none [.str c.name, .int .i64 c.arity, dIs c.body] 2 = some (dIs c.body) := rfl
  simp only [dD] at hx
  simp only [a_67, Epl, sA, Nat.reduceAdd, Nat.reduceSub, Nat.reduceMul, Nat.reduceBEq, Nat.reduceLeDiff, Int.reduceBEq, Int.reduceBNe, Int.reduceLE, Int.reduceLT, Int.reduceGE, Int.reduceGT, Int.reduceNeg, kn, hx, hp, natI, onel, len_I, hlt]
end
end Go.Fu

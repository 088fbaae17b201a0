/-
  The free names of core.
-/
import Derived.Test.YtldfbnbckiifeaaGreatDoorFgL
set_option linter.unusedSimpArgs false
set_option linter.unusedVariables false
set_option linter.unusedSectionVars false
namespace Go.Fu
open Go Go.Mx
set_option maxRecDepth 10000
def hasN (l : List Tx) (s : Tx) : Bool := l.any (· == s)
def c0 : Co := .mk 0 0 [] [] [] []
def newF (c : Co) (g s h : List Tx) : Bool := (((c.f == 1) && !hasN g c.s) && hasN s c.s) && !hasN h c.s
def freeM : Nat → Co → List Tx → List Tx → List Tx → List Tx
  | 0, _, _, _, h => h
  | k + 1, c, g, s, h => ifB (newF c g s h) (h ++ [c.s]) ((List.range (zac c).length).foldl (fun h i => freeM k ((zac c).getD i c0) (g ++ zaw c i) s h) h)
theorem zll {α β : Type} {f g : β → α → β} : ∀ (l : List α) (b : β), (∀ a ∈ l, ∀ b, f b a = g b a) → l.foldl f b = l.foldl g b
  | [], _, _ => rfl
  | a :: l, b, h => by
    simp only [List.foldl_cons]
    rw [h a (List.mem_cons_self ..) b]
    exact zll l _ fun x hx => h x (List.mem_cons_of_mem _ hx)
theorem zafb : ∀ (m : Nat) (c : Co), c.size = m → ∀ (k k' : Nat) (g s h : List Tx), c.size ≤ k → c.size ≤ k' → freeM k c g s h = freeM k' c g s h := by
  intro m
  induction m using Nat.strongRecOn with
  | ind m ih =>
    intro c hm k k' g s h hk hk'
    have hp := zch c
    obtain ⟨k, rfl⟩ : ∃ j, k = j + 1 := ⟨k - 1, by omega⟩
    obtain ⟨k', rfl⟩ : ∃ j, k' = j + 1 := ⟨k' - 1, by omega⟩
    simp only [freeM]
    congr 1
    refine zll _ _ fun i hi b => ?_
    have hi := List.mem_range.1 hi
    rw [za0 _ _ _ hi]
    have hlt := ze5 c _ (List.getElem_mem hi)
    exact ih _ (by omega) _ rfl _ _ _ _ _ (by omega) (by omega)
theorem zju : ∀ (m : Nat) (c : Co) (g s h : List Tx), (freeM m c g s h).length ≤ h.length + c.size
  | 0, c, g, s, h => by simp [freeM]
  | m + 1, c, g, s, h => by
    simp only [freeM]
    have hp := zch c
    cases newF c g s h with
    | true => simp only [zad, List.length_append, List.length_cons, List.length_nil]; omega
    | false =>
      simp only [zaf]
      have hf : ∀ (n : Nat) (h : List Tx), n ≤ (zac c).length → ((List.range n).foldl (fun h i => freeM m ((zac c).getD i c0) (g ++ zaw c i) s h) h).length ≤ h.length + szK ((zac c).take n) := by
        intro n
        induction n with
        | zero => intro h _; simp
        | succ n ihn =>
          intro h hn
          rw [List.range_succ, List.foldl_append]
          simp only [List.foldl_cons, List.foldl_nil]
          have h1 := zju m ((zac c).getD n c0) (g ++ zaw c n) s ((List.range n).foldl (fun h i => freeM m ((zac c).getD i c0) (g ++ zaw c i) s h) h)
          have h2 := ihn h (by omega)
          rw [← zba (zac c) n (by omega), zd9]
          rw [za0 _ _ _ (show n < (zac c).length by omega)] at h1 ⊢
          simp only [szK, Nat.add_zero]
          omega
      have := hf (zac c).length h (Nat.le_refl _)
      rw [List.take_length] at this
      have hs : szK (zac c) ≤ c.size := by
        have hsz := za3 c
        have hbs : ∀ l : List (Tx × Co), szK (l.map Prod.snd) ≤ szB l := by
          intro l
          induction l with
          | nil => simp [szK, szB]
          | cons x r ih => obtain ⟨t, d⟩ := x; simp only [List.map_cons, szK, szB]; omega
        have has : ∀ l : List (Hd × Co), szK (l.map Prod.snd) ≤ szA l := by
          intro l
          induction l with
          | nil => simp [szK, szA]
          | cons x r ih => obtain ⟨t, d⟩ := x; simp only [List.map_cons, szK, szA]; omega
        rw [zac, zd9, zd9]
        have := hbs c.bs
        have := has c.al
        omega
      omega
def SFr : Specs := [(n_38, sp_in), (n_31, zjl), (n_30, zpk), (n_2, zhg), (n_37, fun ds c => ∀ co g s h, ds = [dCo co, dSs g, dSs s, dSs h] → c = ⟨false, dSs (freeM co.size co g s h)⟩)]
def zzg : List D → Cell → Prop := fun ds c => ∀ co g s h, ds = [dCo co, dSs g, dSs s, dSs h] → c = ⟨false, dSs (freeM co.size co g s h)⟩
theorem call_Free' {S : Specs} (hS : aget S n_37 = some zzg) (co : Co) (g s h : List Tx) (hp : OkP n_37 [dCo co, dSs g, dSs s, dSs h] ⟨false, dSs (freeM co.size co g s h)⟩) (n : Nat) (σ : Store) : T S (n + 1) n_37 [dCo co, dSs g, dSs s, dSs h] σ = some (.ret ⟨false, dSs (freeM co.size co g s h)⟩, σ) := by
  obtain ⟨c, h1, h2⟩ := T_orc (S := S) hS rfl (c := ⟨false, dSs (freeM co.size co g s h)⟩) (fun co' g' s' h' e => by
    simp only [List.cons.injEq, and_true] at e
    rw [zcn e.1, zbn e.2.1, zbn e.2.2.1, zbn e.2.2.2]) hp
  rw [h2, h1 co g s h rfl]
section
variable {C : CallF} {n : Nat} {σ : Store}
def hadM (c : Co) (g s h : List Tx) (i : Nat) : List Tx := (List.range i).foldl (fun h i => freeM ((zac c).getD i c0).size ((zac c).getD i c0) (g ++ zaw c i) s h) h
theorem zsh (c : Co) (g s h : List Tx) (i : Nat) (hi : i < (zac c).length) : hadM c g s h (i + 1) = freeM (zac c)[i].size (zac c)[i] (g ++ zaw c i) s (hadM c g s h i) := by
  rw [hadM, List.range_succ, List.foldl_append]
  simp only [List.foldl_cons, List.foldl_nil, za0 _ _ _ hi]
  rfl
theorem zf4b (c : Co) (g s h : List Tx) (hn : newF c g s h = false) : hadM c g s h (zac c).length = freeM c.size c g s h := by
  have hp := zch c
  obtain ⟨k, hk⟩ : ∃ k, c.size = k + 1 := ⟨c.size - 1, by omega⟩
  rw [hk]
  simp only [freeM, hn, zaf, hadM]
  refine zll _ _ fun i hi b => ?_
  have hi := List.mem_range.1 hi
  rw [za0 _ _ _ hi]
  have hlt := ze5 c _ (List.getElem_mem hi)
  exact zafb _ _ rfl _ _ _ _ _ (Nat.le_refl _) (by omega)
def Efr (c : Co) (g s h : List Tx) (i : Nat) : Env := { slots := [(1, ⟨false, dSs g⟩), (2, ⟨false, dSs s⟩), (3, ⟨false, dSs (hadM c g s h i)⟩), (12, ⟨false, dCs (zac c)⟩), (13, ⟨false, .int .i64 i⟩)], locs := [(4, 4, 0)], boxes := [(4, bC c)], defers := [] }
theorem zicb (c : Co) (g s h : List Tx) (i : Nat) (hi : i < (zac c).length) (hl : (zac c).length < 100000000) (hg : C n_30 [dCo c, .int .i64 i] σ = some (.ret ⟨false, dSs (zaw c i)⟩, σ)) (hb : C n_2 [dSs g, dSs (zaw c i)] σ = some (.ret ⟨false, dSs (g ++ zaw c i)⟩, σ))
    (hc : C n_37 [dCo (zac c)[i], dSs (g ++ zaw c i), dSs s, dSs (hadM c g s h i)] σ = some (.ret ⟨false, dSs (freeM (zac c)[i].size (zac c)[i] (g ++ zaw c i) s (hadM c g s h i))⟩, σ)) : exec C n none a_77 (Efr c g s h i) σ = some (.normal, Efr c g s h (i + 1), σ) := by
  have hlt : ((i : Int) < ((zac c).length : Int)) := by omega
  have hx := idx_C (zac c) i hi
  have hd := zae (zac c)[i]
  rw [← zsh c g s h i hi] at hc
  rw [hd] at hc hx
  rw [zae c, zai] at hg
  simp only [a_77, Efr, bC, sA, Nat.reduceAdd, Nat.reduceSub, Nat.reduceMul, Nat.reduceBEq, Nat.reduceLeDiff, Int.reduceBEq, Int.reduceBNe, Int.reduceLE, Int.reduceLT, Int.reduceGE, Int.reduceGT, Int.reduceNeg, kn, len_C, hlt, natI, hx, zfo, zbk, hg, hb, hc, zaj (i := i) (by omega)]
theorem zkub (c : Co) (g s h : List Tx) : exec C n none a_77 (Efr c g s h (zac c).length) σ = some (.exit 0, { Efr c g s h (zac c).length with slots := [(1, ⟨false, dSs g⟩), (2, ⟨false, dSs s⟩), (3, ⟨false, dSs (hadM c g s h (zac c).length)⟩), (12, ⟨false, dCs (zac c)⟩), (13, ⟨false, .int .i64 (zac c).length⟩), (51, ⟨false, .bool false⟩)] }, σ) := by
  have hi : ¬ (((zac c).length : Int) < ((zac c).length : Int)) := by omega
  simp only [a_77, Efr, bC, sA, Nat.reduceAdd, Nat.reduceSub, Nat.reduceMul, Nat.reduceBEq, Nat.reduceLeDiff, Int.reduceBEq, Int.reduceBNe, Int.reduceLE, Int.reduceLT, Int.reduceGE, Int.reduceGT, Int.reduceNeg, kn, len_C, hi]
end
theorem zuq (c : Co) (g s h : List Tx) : ∀ i, i ≤ (zac c).length → (hadM c g s h i).length ≤ h.length + szK ((zac c).take i)
  | 0, _ => by simp [hadM]
  | i + 1, hi => by
    rw [zsh c g s h i (by omega)]
    have h1 := zju (zac c)[i].size (zac c)[i] (g ++ zaw c i) s (hadM c g s h i)
    have h2 := zuq c g s h i (by omega)
    rw [← zba (zac c) i (by omega), zd9]
    simp only [szK, Nat.add_zero]
    omega
theorem ze3b (c : Co) : szK (zac c) ≤ c.size := by
  have hsz := za3 c
  have hbs : ∀ l : List (Tx × Co), szK (l.map Prod.snd) ≤ szB l := by
    intro l
    induction l with
    | nil => simp [szK, szB]
    | cons x r ih => obtain ⟨t, d⟩ := x; simp only [List.map_cons, szK, szB]; omega
  have has : ∀ l : List (Hd × Co), szK (l.map Prod.snd) ≤ szA l := by
    intro l
    induction l with
    | nil => simp [szK, szA]
    | cons x r ih => obtain ⟨t, d⟩ := x; simp only [List.map_cons, szK, szA]; omega
  rw [zac, zd9, zd9]
  have := hbs c.bs
  have := has c.al
  omega
theorem zwf (l : List Co) (i : Nat) (h : i < l.length) : szK (l.take i) + l[i].size ≤ szK l := by
  have : szK l = szK (l.take (i + 1)) + szK (l.drop (i + 1)) := by rw [← zd9, List.take_append_drop]
  rw [this, ← zba l i h, zd9]
  simp only [szK]
  omega
theorem zp3 (c : Co) (i : Nat) (hi : i < (zac c).length) : (zaw c i).length + (zac c)[i].size ≤ c.size := by
  have hsz := za3 c
  have hlen := zev c
  have hb := zbs c.bs
  unfold zaw
  split
  · rw [za0 _ _ _ (by simp; omega), List.getElem_map]
    have hm := zep c.al _ (List.getElem_mem (show i - (c.bs.length + c.ks.length) < c.al.length by omega))
    have he : (zac c)[i] = c.al[i - (c.bs.length + c.ks.length)].2 := by
      simp only [zac]
      rw [List.getElem_append_right (by simp; omega), List.getElem_map]
      congr 2
      simp
    rw [he]
    omega
  · rename_i hge
    have hm : (zac c)[i].size ≤ szB c.bs - c.bs.length + szK c.ks := by
      have hin : (zac c)[i] ∈ c.bs.map Prod.snd ++ c.ks := by
        simp only [zac]
        rw [List.getElem_append_left (by simp; omega)]
        exact List.getElem_mem _
      have hbl : ∀ (l : List (Tx × Co)) (x : Tx × Co), x ∈ l → x.2.size + l.length ≤ szB l := by
        intro l
        induction l with
        | nil => intro x hx; cases hx
        | cons y r ihl =>
          intro x hx
          obtain ⟨s, c'⟩ := y
          simp only [szB, List.length_cons]
          rcases List.mem_cons.1 hx with rfl | hx
          · have := zbs r; simp only; omega
          · have := ihl x hx; omega
      rcases List.mem_append.1 hin with h4 | h4
      · obtain ⟨p, hp, e⟩ := List.mem_map.1 h4
        have := hbl c.bs p hp
        rw [← e]
        omega
      · have := zgn c.ks _ h4
        omega
    simp
    omega
theorem zceb : ∀ (k : Nat) (c : Co) (g s h : List Tx), c.size = k → g.length + c.size < 100000000 → h.length + c.size < 100000000 → s.length < 100000000 → OkP n_37 [dCo c, dSs g, dSs s, dSs h] ⟨false, dSs (freeM c.size c g s h)⟩ := by
  intro k
  induction k using Nat.strongRecOn with
  | ind k ih =>
    intro c g s h hk hl hlh hls
    have hlen := zev c
    have hsz := za3 c
    have hb := zbs c.bs
    have hks := ze8 c.ks
    have ha := zc1 c.al
    have hsp := ze3b c
    have h1 := zny (S := SFr) rfl g c.s (by omega) 0 σ0
    have h2 := zny (S := SFr) rfl s c.s (by omega) 0 σ0
    have h3 := zny (S := SFr) rfl h c.s (by omega) 0 σ0
    have h4 := zij (S := SFr) rfl c (by omega) 0 σ0
    have hn1 : ∀ l t, List.any l (fun x => x == t) = hasN l t := fun _ _ => rfl
    rw [hn1] at h1 h2 h3
    cases hnew : newF c g s h with
    | true =>
      have hk2 : freeM c.size c g s h = h ++ [c.s] := by
        obtain ⟨j, hj⟩ : ∃ j, c.size = j + 1 := ⟨c.size - 1, by have := zch c; omega⟩
        rw [hj, freeM, hnew]
        rfl
      rw [hk2]
      refine OkP.weak (o := true) rfl (zap (af := a_41) (n := 1) (σ' := σ0) (zar SFr 1) rfl rfl (by simp [zan, za5, zas]) (zas _) ?_)
      simp only [newF, Bool.and_eq_true, Bool.not_eq_true'] at hnew
      obtain ⟨⟨⟨e1, e2⟩, e3⟩, e4⟩ := hnew
      rw [e2] at h1
      rw [e3] at h2
      rw [e4] at h3
      have hap := zf3 h c.s true (fun _ => rfl) (by omega)
      simp only [a_41, sA, Nat.reduceAdd, Nat.reduceSub, Nat.reduceMul, Nat.reduceBEq, Nat.reduceLeDiff, Int.reduceBEq, Int.reduceBNe, Int.reduceLE, Int.reduceLT, Int.reduceGE, Int.reduceGT, Int.reduceNeg, kn, zae c, zai, zbj, zbi, zbh, h1, h2, h3, e1, zk7, appS0 h false (by omega), hap]
    | false =>
      refine zap (af := a_41) (n := c.size + 1) (σ' := σ0) (zar SFr 1) rfl rfl (by simp [zan, za5, zas]) (zas _) ?_
      have hg : ∀ i (hi : i < (zac c).length), T SFr 1 n_30 [dCo c, .int .i64 i] σ0 = some (.ret ⟨false, dSs (zaw c i)⟩, σ0) := fun i hi => zpw (S := SFr) rfl c i hi (by omega) 0 σ0
      have hbo : ∀ i (hi : i < (zac c).length), T SFr 1 n_2 [dSs g, dSs (zaw c i)] σ0 = some (.ret ⟨false, dSs (g ++ zaw c i)⟩, σ0) := fun i hi => zfb (S := SFr) rfl g (zaw c i) (by have := zp3 c i hi; omega) 0 σ0
      have hrec : ∀ i (hi : i < (zac c).length), T SFr 1 n_37 [dCo (zac c)[i], dSs (g ++ zaw c i), dSs s, dSs (hadM c g s h i)] σ0 = some (.ret ⟨false, dSs (freeM (zac c)[i].size (zac c)[i] (g ++ zaw c i) s (hadM c g s h i))⟩, σ0) := fun i hi => by
        have hlt := ze5 c _ (List.getElem_mem hi)
        have hgs := zp3 c i hi
        have hhl := zuq c g s h i (by omega)
        have htk := zwf (zac c) i hi
        exact call_Free' (S := SFr) rfl _ _ _ _ (ih _ (by omega) (zac c)[i] _ _ _ rfl (by simp; omega) (by omega) hls) 0 σ0
      have hl0 := za4 (body := exec (T SFr 1) (c.size + 1) none a_77) (Efr c g s h) (fun _ => σ0) (zac c).length (r := _) (fun _ _ h => by cases h) (fun i hi => zicb c g s h i hi (by omega) (hg i hi) (hbo i hi) (hrec i hi)) (zkub c g s h) 0 (c.size + 1) (by omega) (by omega)
      rw [zf4b c g s h hnew] at hl0
      have hh0 : hadM c g s h 0 = h := rfl
      simp only [Efr, bC, zeroI, hh0] at hl0
      simp only [zae c, zai] at h4
      simp only [newF] at hnew
      cases e1 : (c.f == 1) with
      | false => simp only [a_41, sA, Nat.reduceAdd, Nat.reduceSub, Nat.reduceMul, Nat.reduceBEq, Nat.reduceLeDiff, Int.reduceBEq, Int.reduceBNe, Int.reduceLE, Int.reduceLT, Int.reduceGE, Int.reduceGT, Int.reduceNeg, kn, zae c, zai, zbj, zbi, zbh, h1, h2, h3, h4, e1, hl0]
      | true =>
        cases e2 : hasN g c.s with
        | true =>
          rw [e2] at h1
          simp only [a_41, sA, Nat.reduceAdd, Nat.reduceSub, Nat.reduceMul, Nat.reduceBEq, Nat.reduceLeDiff, Int.reduceBEq, Int.reduceBNe, Int.reduceLE, Int.reduceLT, Int.reduceGE, Int.reduceGT, Int.reduceNeg, kn, zae c, zai, zbj, zbi, zbh, h1, h2, h3, h4, e1, hl0]
        | false =>
          rw [e2] at h1
          cases e3 : hasN s c.s with
          | false =>
            rw [e3] at h2
            simp only [a_41, sA, Nat.reduceAdd, Nat.reduceSub, Nat.reduceMul, Nat.reduceBEq, Nat.reduceLeDiff, Int.reduceBEq, Int.reduceBNe, Int.reduceLE, Int.reduceLT, Int.reduceGE, Int.reduceGT, Int.reduceNeg, kn, zae c, zai, zbj, zbi, zbh, h1, h2, h3, h4, e1, hl0]
          | true =>
            rw [e3] at h2
            simp only [e1, e2, e3, Bool.not_false, Bool.and_self, Bool.true_and, Bool.not_eq_false'] at hnew
            rw [hnew] at h3
            simp only [a_41, sA, Nat.reduceAdd, Nat.reduceSub, Nat.reduceMul, Nat.reduceBEq, Nat.reduceLeDiff, Int.reduceBEq, Int.reduceBNe, Int.reduceLE, Int.reduceLT, Int.reduceGE, Int.reduceGT, Int.reduceNeg, kn, zae c, zai, zbj, zbi, zbh, h1, h2, h3, h4, e1, hl0]
end Go.Fu
namespace Go.Fu
open Go Go.Mx
set_option maxRecDepth 10000
def mapB (F : Co → List Su → Co × List Su) : List (Tx × Co) → List Su → List (Tx × Co) × List Su
  | [], m => ([], m)
  | p :: r, m => ((p.1, (F p.2 m).1) :: (mapB F r (F p.2 m).2).1, (mapB F r (F p.2 m).2).2)
def mapK (F : Co → List Su → Co × List Su) : List Co → List Su → List Co × List Su
  | [], m => ([], m)
  | p :: r, m => ((F p m).1 :: (mapK F r (F p m).2).1, (mapK F r (F p m).2).2)
def mapA (F : Hd → Co → List Su → Co × List Su) : List (Hd × Co) → List Su → List (Hd × Co) × List Su
  | [], m => ([], m)
  | p :: r, m => ((p.1, (F p.1 p.2 m).1) :: (mapA F r (F p.1 p.2 m).2).1, (mapA F r (F p.1 p.2 m).2).2)
theorem zsl (F : Co → List Su → Co × List Su) (p : Tx × Co) : ∀ (l : List (Tx × Co)) (m : List Su), mapB F (l ++ [p]) m = ((mapB F l m).1 ++ [(p.1, (F p.2 (mapB F l m).2).1)], (F p.2 (mapB F l m).2).2)
  | [], m => rfl
  | q :: l, m => by simp only [List.cons_append, mapB, zsl F p l]
theorem zsm (F : Co → List Su → Co × List Su) (p : Co) : ∀ (l : List Co) (m : List Su), mapK F (l ++ [p]) m = ((mapK F l m).1 ++ [(F p (mapK F l m).2).1], (F p (mapK F l m).2).2)
  | [], m => rfl
  | q :: l, m => by simp only [List.cons_append, mapK, zsm F p l]
theorem zsk (F : Hd → Co → List Su → Co × List Su) (p : Hd × Co) : ∀ (l : List (Hd × Co)) (m : List Su), mapA F (l ++ [p]) m = ((mapA F l m).1 ++ [(p.1, (F p.1 p.2 (mapA F l m).2).1)], (F p.1 p.2 (mapA F l m).2).2)
  | [], m => rfl
  | q :: l, m => by simp only [List.cons_append, mapA, zsk F p l]
theorem zlr {F G : Co → List Su → Co × List Su} : ∀ (l : List (Tx × Co)) (m : List Su), (∀ p ∈ l, ∀ m, F p.2 m = G p.2 m) → mapB F l m = mapB G l m
  | [], m, _ => rfl
  | p :: l, m, h => by
    simp only [mapB]
    rw [h p (List.mem_cons_self ..) m, zlr l _ fun q hq => h q (List.mem_cons_of_mem _ hq)]
theorem zls {F G : Co → List Su → Co × List Su} : ∀ (l : List Co) (m : List Su), (∀ p ∈ l, ∀ m, F p m = G p m) → mapK F l m = mapK G l m
  | [], m, _ => rfl
  | p :: l, m, h => by
    simp only [mapK]
    rw [h p (List.mem_cons_self ..) m, zls l _ fun q hq => h q (List.mem_cons_of_mem _ hq)]
theorem zlq {F G : Hd → Co → List Su → Co × List Su} : ∀ (l : List (Hd × Co)) (m : List Su), (∀ p ∈ l, ∀ m, F p.1 p.2 m = G p.1 p.2 m) → mapA F l m = mapA G l m
  | [], m, _ => rfl
  | p :: l, m, h => by
    simp only [mapA]
    rw [h p (List.mem_cons_self ..) m, zlq l _ fun q hq => h q (List.mem_cons_of_mem _ hq)]
theorem zux (F : Co → List Su → Co × List Su) : ∀ (l : List (Tx × Co)) (m : List Su), (mapB F l m).1.length = l.length
  | [], m => rfl
  | p :: l, m => by simp only [mapB, List.length_cons, zux F l]
theorem zuz (F : Co → List Su → Co × List Su) : ∀ (l : List Co) (m : List Su), (mapK F l m).1.length = l.length
  | [], m => rfl
  | p :: l, m => by simp only [mapK, List.length_cons, zuz F l]
theorem zuv (F : Hd → Co → List Su → Co × List Su) : ∀ (l : List (Hd × Co)) (m : List Su), (mapA F l m).1.length = l.length
  | [], m => rfl
  | p :: l, m => by simp only [mapA, List.length_cons, zuv F l]
theorem zm5 (F : Co → List Su → Co × List Su) : ∀ (l : List (Tx × Co)) (m : List Su), (∀ p ∈ l, ∀ m, (F p.2 m).2.length ≤ m.length + p.2.size) → (mapB F l m).2.length ≤ m.length + szB l
  | [], m, _ => by simp [mapB]
  | (s, c) :: l, m, h => by
    have h1 := h (s, c) (List.mem_cons_self ..) m
    have h2 := zm5 F l (F c m).2 fun q hq => h q (List.mem_cons_of_mem _ hq)
    simp only [mapB, szB] at h1 h2 ⊢
    omega
theorem zm6 (F : Co → List Su → Co × List Su) : ∀ (l : List Co) (m : List Su), (∀ p ∈ l, ∀ m, (F p m).2.length ≤ m.length + p.size) → (mapK F l m).2.length ≤ m.length + szK l
  | [], m, _ => by simp [mapK]
  | c :: l, m, h => by
    have h1 := h c (List.mem_cons_self ..) m
    have h2 := zm6 F l (F c m).2 fun q hq => h q (List.mem_cons_of_mem _ hq)
    simp only [mapK, szK] at h1 h2 ⊢
    omega
theorem zm4 (F : Hd → Co → List Su → Co × List Su) : ∀ (l : List (Hd × Co)) (m : List Su), (∀ p ∈ l, ∀ m, (F p.1 p.2 m).2.length ≤ m.length + p.2.size) → (mapA F l m).2.length ≤ m.length + szA l
  | [], m, _ => by simp [mapA]
  | (s, c) :: l, m, h => by
    have h1 := h (s, c) (List.mem_cons_self ..) m
    have h2 := zm4 F l (F s c m).2 fun q hq => h q (List.mem_cons_of_mem _ hq)
    simp only [mapA, szA] at h1 h2 ⊢
    omega
def zdt (c : Co) (lz : Bool) : Bool := lz && (((c.f == 9) || (c.f == 10)) || (c.f == 11))
def liftN (t : Tx) (m : List Su) : Tx := (t ++ [37]) ++ itoaN ((m.length : Int) + 1)
def liftM (c : Co) (ar : List Tx) (t : Tx) (m : List Su) : Co × List Su := (zdr (varC (liftN t m)) (freeM c.size c [] ar []), m ++ [⟨liftN t m, freeM c.size c [] ar [], c⟩])
def flatM : Nat → Co → Bool → List Tx → Tx → List Su → Co × List Su
  | 0, c, _, _, _, m => (c, m)
  | k + 1, c, lz, ar, t, m => ifB (zdt c lz) (liftM c ar t m) (
      (.mk c.f c.n c.s (mapK (fun x m => flatM k x (lz || (c.f == 4)) (ar ++ c.bs.map Prod.fst) t m) c.ks (mapB (fun x m => flatM k x true (ar ++ c.bs.map Prod.fst) t m) c.bs m).2).1 (mapB (fun x m => flatM k x true (ar ++ c.bs.map Prod.fst) t m) c.bs m).1
        (mapA (fun h x m => flatM k x false (ar ++ h.vars) t m) c.al (mapK (fun x m => flatM k x (lz || (c.f == 4)) (ar ++ c.bs.map Prod.fst) t m) c.ks (mapB (fun x m => flatM k x true (ar ++ c.bs.map Prod.fst) t m) c.bs m).2).2).1),
      (mapA (fun h x m => flatM k x false (ar ++ h.vars) t m) c.al (mapK (fun x m => flatM k x (lz || (c.f == 4)) (ar ++ c.bs.map Prod.fst) t m) c.ks (mapB (fun x m => flatM k x true (ar ++ c.bs.map Prod.fst) t m) c.bs m).2).2).2)
theorem zlj : ∀ (n : Nat) (c : Co), c.size = n → ∀ (k k' : Nat) (lz : Bool) (ar : List Tx) (t : Tx) (m : List Su), c.size ≤ k → c.size ≤ k' → flatM k c lz ar t m = flatM k' c lz ar t m := by
  intro n
  induction n using Nat.strongRecOn with
  | ind n ih =>
    intro c hn k k' lz ar t m hk hk'
    have hp := zch c
    have hsz := za3 c
    obtain ⟨k, rfl⟩ : ∃ j, k = j + 1 := ⟨k - 1, by omega⟩
    obtain ⟨k', rfl⟩ : ∃ j, k' = j + 1 := ⟨k' - 1, by omega⟩
    have hB : ∀ m, mapB (fun x m => flatM k x true (ar ++ c.bs.map Prod.fst) t m) c.bs m = mapB (fun x m => flatM k' x true (ar ++ c.bs.map Prod.fst) t m) c.bs m := fun m => zlr _ _ fun p hp m => by
      have := zfu c.bs p hp
      exact ih _ (by omega) _ rfl _ _ _ _ _ _ (by omega) (by omega)
    have hK : ∀ m, mapK (fun x m => flatM k x (lz || (c.f == 4)) (ar ++ c.bs.map Prod.fst) t m) c.ks m = mapK (fun x m => flatM k' x (lz || (c.f == 4)) (ar ++ c.bs.map Prod.fst) t m) c.ks m := fun m => zls _ _ fun p hp m => by
      have := zgn c.ks p hp
      exact ih _ (by omega) _ rfl _ _ _ _ _ _ (by omega) (by omega)
    have hA : ∀ m, mapA (fun h x m => flatM k x false (ar ++ h.vars) t m) c.al m = mapA (fun h x m => flatM k' x false (ar ++ h.vars) t m) c.al m := fun m => zlq _ _ fun p hp m => by
      have := zep c.al p hp
      exact ih _ (by omega) _ rfl _ _ _ _ _ _ (by omega) (by omega)
    simp only [flatM, hB, hK, hA]
theorem zim : ∀ (k : Nat) (c : Co) (lz : Bool) (ar : List Tx) (t : Tx) (m : List Su), (flatM k c lz ar t m).2.length ≤ m.length + c.size
  | 0, c, lz, ar, t, m => by simp [flatM]
  | k + 1, c, lz, ar, t, m => by
    have hp := zch c
    have hsz := za3 c
    simp only [flatM]
    cases zdt c lz with
    | true => simp only [zad, liftM, List.length_append, List.length_cons, List.length_nil]; omega
    | false =>
      simp only [zaf]
      have h1 := zm5 (fun x m => flatM k x true (ar ++ c.bs.map Prod.fst) t m) c.bs m fun p _ m => zim k p.2 _ _ _ m
      have h2 := zm6 (fun x m => flatM k x (lz || (c.f == 4)) (ar ++ c.bs.map Prod.fst) t m) c.ks (mapB (fun x m => flatM k x true (ar ++ c.bs.map Prod.fst) t m) c.bs m).2 fun p _ m => zim k p _ _ _ m
      have h3 := zm4 (fun h x m => flatM k x false (ar ++ h.vars) t m) c.al (mapK (fun x m => flatM k x (lz || (c.f == 4)) (ar ++ c.bs.map Prod.fst) t m) c.ks (mapB (fun x m => flatM k x true (ar ++ c.bs.map Prod.fst) t m) c.bs m).2).2 fun p _ m => zim k p.2 _ _ _ m
      omega
def flM (c : Co) (lz : Bool) (ar : List Tx) (t : Tx) (m : List Su) : Co × List Su := flatM c.size c lz ar t m
def fB (c : Co) (ar : List Tx) (t : Tx) (m : List Su) (i : Nat) : List (Tx × Co) × List Su := mapB (fun x m => flM x true (ar ++ c.bs.map Prod.fst) t m) (c.bs.take i) m
def fK (c : Co) (lz : Bool) (ar : List Tx) (t : Tx) (m : List Su) (i : Nat) : List Co × List Su := mapK (fun x m => flM x (lz || (c.f == 4)) (ar ++ c.bs.map Prod.fst) t m) (c.ks.take i) m
def fA (c : Co) (ar : List Tx) (t : Tx) (m : List Su) (i : Nat) : List (Hd × Co) × List Su := mapA (fun h x m => flM x false (ar ++ h.vars) t m) (c.al.take i) m
theorem zh5b (c : Co) (ar : List Tx) (t : Tx) (m : List Su) (i : Nat) (h : i < c.bs.length) : fB c ar t m (i + 1) = ((fB c ar t m i).1 ++ [(c.bs[i].1, (flM c.bs[i].2 true (ar ++ c.bs.map Prod.fst) t (fB c ar t m i).2).1)], (flM c.bs[i].2 true (ar ++ c.bs.map Prod.fst) t (fB c ar t m i).2).2) := by
  rw [fB, ← zba c.bs i h, zsl]
  rfl
theorem zh6b (c : Co) (lz : Bool) (ar : List Tx) (t : Tx) (m : List Su) (i : Nat) (h : i < c.ks.length) : fK c lz ar t m (i + 1) = ((fK c lz ar t m i).1 ++ [(flM c.ks[i] (lz || (c.f == 4)) (ar ++ c.bs.map Prod.fst) t (fK c lz ar t m i).2).1], (flM c.ks[i] (lz || (c.f == 4)) (ar ++ c.bs.map Prod.fst) t (fK c lz ar t m i).2).2) := by
  rw [fK, ← zba c.ks i h, zsm]
  rfl
theorem zh4b (c : Co) (ar : List Tx) (t : Tx) (m : List Su) (i : Nat) (h : i < c.al.length) : fA c ar t m (i + 1) = ((fA c ar t m i).1 ++ [(c.al[i].1, (flM c.al[i].2 false (ar ++ c.al[i].1.vars) t (fA c ar t m i).2).1)], (flM c.al[i].2 false (ar ++ c.al[i].1.vars) t (fA c ar t m i).2).2) := by
  rw [fA, ← zba c.al i h, zsk]
  rfl
theorem zht (c : Co) (lz : Bool) (ar : List Tx) (t : Tx) (m : List Su) (h : zdt c lz = false) : flM c lz ar t m = (.mk c.f c.n c.s (fK c lz ar t (fB c ar t m c.bs.length).2 c.ks.length).1 (fB c ar t m c.bs.length).1 (fA c ar t (fK c lz ar t (fB c ar t m c.bs.length).2 c.ks.length).2 c.al.length).1,
    (fA c ar t (fK c lz ar t (fB c ar t m c.bs.length).2 c.ks.length).2 c.al.length).2) := by
  have hp := zch c
  have hsz := za3 c
  obtain ⟨k, hk⟩ : ∃ j, c.size = j + 1 := ⟨c.size - 1, by omega⟩
  have hB : ∀ m, mapB (fun x m => flatM k x true (ar ++ c.bs.map Prod.fst) t m) c.bs m = mapB (fun x m => flM x true (ar ++ c.bs.map Prod.fst) t m) c.bs m := fun m => zlr _ _ fun p hp m => by
    have := zfu c.bs p hp
    exact zlj _ _ rfl _ _ _ _ _ _ (by omega) (Nat.le_refl _)
  have hK : ∀ m, mapK (fun x m => flatM k x (lz || (c.f == 4)) (ar ++ c.bs.map Prod.fst) t m) c.ks m = mapK (fun x m => flM x (lz || (c.f == 4)) (ar ++ c.bs.map Prod.fst) t m) c.ks m := fun m => zls _ _ fun p hp m => by
    have := zgn c.ks p hp
    exact zlj _ _ rfl _ _ _ _ _ _ (by omega) (Nat.le_refl _)
  have hA : ∀ m, mapA (fun h x m => flatM k x false (ar ++ h.vars) t m) c.al m = mapA (fun h x m => flM x false (ar ++ h.vars) t m) c.al m := fun m => zlq _ _ fun p hp m => by
    have := zep c.al p hp
    exact zlj _ _ rfl _ _ _ _ _ _ (by omega) (Nat.le_refl _)
  rw [flM, hk, flatM, h]
  simp only [zaf, hB, hK, hA, fB, fK, fA, List.take_length]
theorem zjb (c : Co) (lz : Bool) (ar : List Tx) (t : Tx) (m : List Su) (h : zdt c lz = true) : flM c lz ar t m = liftM c ar t m := by
  have hp := zch c
  obtain ⟨k, hk⟩ : ∃ j, c.size = j + 1 := ⟨c.size - 1, by omega⟩
  rw [flM, hk, flatM, h]
  rfl
theorem zox (c : Co) (lz : Bool) (ar : List Tx) (t : Tx) (m : List Su) : (flM c lz ar t m).2.length ≤ m.length + c.size := zim _ _ _ _ _ _
theorem zy5 (c : Co) (ar : List Tx) (t : Tx) (m : List Su) (i : Nat) : (fB c ar t m i).2.length ≤ m.length + szB (c.bs.take i) := zm5 _ _ _ fun p _ m => zox _ _ _ _ _
theorem zy6 (c : Co) (lz : Bool) (ar : List Tx) (t : Tx) (m : List Su) (i : Nat) : (fK c lz ar t m i).2.length ≤ m.length + szK (c.ks.take i) := zm6 _ _ _ fun p _ m => zox _ _ _ _ _
theorem zh3b (c : Co) (ar : List Tx) (t : Tx) (m : List Su) (i : Nat) : (fA c ar t m i).2.length ≤ m.length + szA (c.al.take i) := zm4 _ _ _ fun p _ m => zox _ _ _ _ _
end Go.Fu

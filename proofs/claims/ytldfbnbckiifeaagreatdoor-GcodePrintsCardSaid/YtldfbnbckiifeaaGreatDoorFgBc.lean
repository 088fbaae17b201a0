/-
  Every flat core has code, strict and in the tail.
-/
import Derived.Test.YtldfbnbckiifeaaGreatDoorFgX
set_option maxHeartbeats 4000000
set_option linter.unusedSimpArgs false
set_option linter.unusedVariables false
set_option linter.unusedSectionVars false
namespace Go.Fu
open Go Go.Mx
set_option maxRecDepth 10000
theorem zsd {B : Nat} (c : Co) (env : List Tx) (t : Bool) (hl : env.length + c.size < 10000000) (hg : ∀ a ∈ c.al, Small a.1.num ∧ a.1.name.length ≤ B)
    (hk : ∀ a ∈ c.al, ∀ e : List Tx, e.length + a.2.size < 10000000 → OkI B (8 * a.2.size) n_7 [dCo a.2, dSs e] ∧ OkI B (8 * a.2.size + 3) n_10 [dCo a.2, dSs e]) :
    ∀ (j i : Nat), c.al.length ≤ i + j → OkI B (2 + 8 * szA (c.al.drop i)) n_11 [dCo c, .int .i64 i, dSs env, .bool t]
  | 0, i, h => by
    obtain ⟨is, h1, h2⟩ := zse (B := B) c i env t (by omega)
    exact ⟨is, h1, gc_le h2 (by omega)⟩
  | j + 1, i, h => by
    by_cases hi : i < c.al.length
    · have ih := zsd c env t hl hg hk j (i + 1) (by omega)
      have hm := List.getElem_mem hi
      have h1 := hg _ hm
      have h2 := zep _ _ hm
      have h3 := za3 c
      exact zz0 c i env t hi hl h1 (fun e he => hk _ hm e (by omega)) ih
    · obtain ⟨is, h1, h2⟩ := zse (B := B) c i env t (by omega)
      exact ⟨is, h1, gc_le h2 (by omega)⟩
theorem zhzb {B : Nat} : ∀ (k : Nat) (c : Co), c.size = k → Fl B false c → ∀ env : List Tx, env.length + c.size < 10000000 → OkI B (8 * c.size) n_7 [dCo c, dSs env] ∧ OkI B (8 * c.size + 3) n_10 [dCo c, dSs env] := by
  intro k
  induction k using Nat.strongRecOn with
  | ind k ih =>
    intro c hk hf env hl
    have hsz := za3 c
    have kids : ∀ x ∈ c.ks, ∀ e : List Tx, e.length + x.size < 10000000 → Fl B false x → OkI B (8 * x.size) n_7 [dCo x, dSs e] ∧ OkI B (8 * x.size + 3) n_10 [dCo x, dSs e] := fun x hx e he hfx => by
      have := zgn _ _ hx
      exact ih x.size (by omega) x rfl hfx e he
    have hcs : c.f = 9 → ∀ t, OkI B (2 + 8 * szA (c.al.drop 0)) n_11 [dCo c, .int .i64 (0 : Nat), dSs env, .bool t] := fun h9 t => by
      have hh : (∀ a ∈ c.al, Small a.1.num ∧ a.1.name.length ≤ B) ∧ ∀ a ∈ c.al, Fl B false a.2 := by
        cases hf with
        | leaf h => rcases h with h | h | h <;> subst h <;> simp [co] at h9
        | app => simp [co] at h9
        | lt => simp [co] at h9
        | fail => simp [co] at h9
        | prim => simp [co] at h9
        | cas _ h2 _ h4 => exact ⟨fun a ha => ⟨(h2 a ha).1, (h2 a ha).2.1⟩, h4⟩
      refine zsd c env t hl hh.1 (fun a ha e he => ?_) c.al.length 0 (by omega)
      have := zep _ _ ha
      exact ih a.2.size (by omega) a.2 rfl (hh.2 a ha) e he
    have hS := ze2b c env hf hl (fun x hx e he hfx => (kids x hx e he hfx).1) (fun h9 => hcs h9 false)
    exact ⟨hS, zjwb c env hf hl hS (fun x hx e he hfx => kids x hx e he hfx) (fun h9 => hcs h9 true)⟩
end Go.Fu
namespace Go.Fu
open Go Go.Mx
set_option maxRecDepth 10000
mutual
def hgt : Co → Nat
  | .mk _ _ _ ks bs al => 1 + max (hgK ks) (max (hgB bs) (hgA al))
def hgK : List Co → Nat
  | [] => 0
  | c :: r => max (hgt c) (hgK r)
def hgB : List (Tx × Co) → Nat
  | [] => 0
  | (_, c) :: r => max (hgt c) (hgB r)
def hgA : List (Hd × Co) → Nat
  | [] => 0
  | (_, c) :: r => max (hgt c) (hgA r)
end
theorem zdkb (c : Co) : hgt c = 1 + max (hgK c.ks) (max (hgB c.bs) (hgA c.al)) := by
  cases c
  rw [hgt]
  rfl
theorem zy9 : ∀ (l : List Co) (x : Co), x ∈ l → hgt x ≤ hgK l
  | y :: r, x, h => by
    simp only [hgK]
    rcases List.mem_cons.1 h with rfl | h
    · omega
    · have := zy9 r x h; omega
theorem zy8 : ∀ (l : List (Tx × Co)) (x : Tx × Co), x ∈ l → hgt x.2 ≤ hgB l
  | (s, y) :: r, x, h => by
    simp only [hgB]
    rcases List.mem_cons.1 h with rfl | h
    · simp only; omega
    · have := zy8 r x h; omega
theorem zy7 : ∀ (l : List (Hd × Co)) (x : Hd × Co), x ∈ l → hgt x.2 ≤ hgA l
  | (s, y) :: r, x, h => by
    simp only [hgA]
    rcases List.mem_cons.1 h with rfl | h
    · simp only; omega
    · have := zy7 r x h; omega
theorem zuy {F : Co → List Su → Co × List Su} {Q : Su → Prop} : ∀ (l : List (Tx × Co)) (m : List Su), (∀ p ∈ l, ∀ m, ∀ u ∈ (F p.2 m).2, u ∈ m ∨ Q u) → ∀ u ∈ (mapB F l m).2, u ∈ m ∨ Q u
  | [], m, _, u, hu => .inl hu
  | (s, c) :: l, m, h, u, hu => by
    rcases zuy l (F c m).2 (fun q hq => h q (List.mem_cons_of_mem _ hq)) u hu with h1 | h1
    · exact h (s, c) (List.mem_cons_self ..) m u h1
    · exact .inr h1
theorem zu0 {F : Co → List Su → Co × List Su} {Q : Su → Prop} : ∀ (l : List Co) (m : List Su), (∀ p ∈ l, ∀ m, ∀ u ∈ (F p m).2, u ∈ m ∨ Q u) → ∀ u ∈ (mapK F l m).2, u ∈ m ∨ Q u
  | [], m, _, u, hu => .inl hu
  | c :: l, m, h, u, hu => by
    rcases zu0 l (F c m).2 (fun q hq => h q (List.mem_cons_of_mem _ hq)) u hu with h1 | h1
    · exact h c (List.mem_cons_self ..) m u h1
    · exact .inr h1
theorem zuw {F : Hd → Co → List Su → Co × List Su} {Q : Su → Prop} : ∀ (l : List (Hd × Co)) (m : List Su), (∀ p ∈ l, ∀ m, ∀ u ∈ (F p.1 p.2 m).2, u ∈ m ∨ Q u) → ∀ u ∈ (mapA F l m).2, u ∈ m ∨ Q u
  | [], m, _, u, hu => .inl hu
  | (s, c) :: l, m, h, u, hu => by
    rcases zuw l (F s c m).2 (fun q hq => h q (List.mem_cons_of_mem _ hq)) u hu with h1 | h1
    · exact h (s, c) (List.mem_cons_self ..) m u h1
    · exact .inr h1
theorem zh9b : ∀ (k : Nat) (c : Co), c.size = k → ∀ (z : Bool) (ar : List Tx) (t : Tx) (m : List Su), ∀ u ∈ (flM c z ar t m).2, u ∈ m ∨ (hgt u.body ≤ hgt c ∧ (zdt c z = false → hgt u.body < hgt c)) := by
  intro k
  induction k using Nat.strongRecOn with
  | ind k ih =>
    intro c hk z ar t m u hu
    have hz := za3 c
    have hh := zdkb c
    cases hl : zdt c z with
    | true =>
      rw [zjb _ _ _ _ _ hl] at hu
      simp only [liftM, List.mem_append, List.mem_singleton] at hu
      rcases hu with h | rfl
      · exact .inl h
      · exact .inr ⟨Nat.le_refl _, fun h => by cases h⟩
    | false =>
      rw [zht _ _ _ _ _ hl] at hu
      have key : u ∈ m ∨ hgt u.body < hgt c := by
        simp only [fA, fK, fB, List.take_length] at hu
        rcases zuw (Q := fun u => hgt u.body < hgt c) _ _ (fun p hp m' u' hu' => by
          have h1 := zep _ _ hp
          have h2 := zy7 _ _ hp
          rcases ih p.2.size (by omega) p.2 rfl _ _ _ _ u' hu' with h | h
          · exact .inl h
          · exact .inr (by omega)) u hu with h | h
        · rcases zu0 (Q := fun u => hgt u.body < hgt c) _ _ (fun p hp m' u' hu' => by
            have h1 := zgn _ _ hp
            have h2 := zy9 _ _ hp
            rcases ih p.size (by omega) p rfl _ _ _ _ u' hu' with h | h
            · exact .inl h
            · exact .inr (by omega)) u h with h | h
          · rcases zuy (Q := fun u => hgt u.body < hgt c) _ _ (fun p hp m' u' hu' => by
              have h1 := zfu _ _ hp
              have h2 := zy8 _ _ hp
              rcases ih p.2.size (by omega) p.2 rfl _ _ _ _ u' hu' with h | h
              · exact .inl h
              · exact .inr (by omega)) u h with h | h
            · exact .inl h
            · exact .inr h
          · exact .inr h
        · exact .inr h
      rcases key with h | h
      · exact .inl h
      · exact .inr ⟨by omega, fun _ => h⟩
theorem zddb (c : Co) (ar : List Tx) (t : Tx) : ∀ u ∈ (flM c false ar t []).2, hgt u.body < hgt c := fun u hu => by
  rcases zh9b _ c rfl false ar t [] u hu with h | h
  · cases h
  · exact h.2 rfl
end Go.Fu
namespace Go.Fu
open Go Go.Mx
set_option maxRecDepth 10000
def FlU (B : Nat) (u : Su) : Prop := Fl B false u.body ∧ u.name.length ≤ B ∧ u.ps.length + u.body.size < 1000000
def FO (B n : Nat) (us : List Su) : Prop := (∀ u ∈ us, FlU B u) ∧ us.length ≤ n ∧ szU us ≤ 3 * n * n
def PreU (B B' : Nat) (s : Su) : Prop := Shp B s.body ∧ s.name.length + 22 * hgt s.body ≤ B' ∧ s.ps.length ≤ 100000 ∧ s.body.size ≤ 100000
def spF (B B' : Nat) : List D → Cell → Prop := fun ds c => ∀ s, ds = [dU s] → PreU B B' s → ∃ us, c = ⟨false, dUs us⟩ ∧ FO B' s.body.size us
theorem zcrb {B B' : Nat} {S : Specs} (hS : aget S n_36 = some (spF B B')) (s : Su) (hs : PreU B B' s) (hp : ∃ us, OkP n_36 [dU s] ⟨false, dUs us⟩ ∧ FO B' s.body.size us) : ∃ us, FO B' s.body.size us ∧ ∀ n σ, T S (n + 1) n_36 [dU s] σ = some (.ret ⟨false, dUs us⟩, σ) := by
  obtain ⟨js, h1, h2⟩ := hp
  obtain ⟨c, h3, h4⟩ := T_orc (S := S) hS rfl (c := ⟨false, dUs js⟩) (fun a' e _ => by
    simp only [List.cons.injEq, and_true] at e
    obtain rfl := zc5b e
    exact ⟨js, rfl, h2⟩) h1
  obtain ⟨is, rfl, h5⟩ := h3 s rfl hs
  exact ⟨is, h5, h4⟩
def SFt (B B' : Nat) : Specs := [(n_22, zrw), (n_36, spF B B')]
theorem zzj : ∀ (l : List Su) (x : Su), x ∈ l → x.body.size ≤ szU l
  | y :: r, x, h => by
    simp only [szU]
    rcases List.mem_cons.1 h with rfl | h
    · omega
    · have := zzj r x h; omega
theorem zwg (l : List Su) (i : Nat) (h : i < l.length) : szU (l.take (i + 1)) = szU (l.take i) + l[i].body.size := by
  rw [← zba l i h, ziy]
  simp [szU]
theorem zos (l : List Su) (i : Nat) : szU (l.take i) ≤ szU l := by
  have := ziy (l.take i) (l.drop i)
  rw [List.take_append_drop] at this
  omega
theorem zzi : ∀ l : List Su, l.length ≤ szU l
  | [] => by simp [szU]
  | y :: r => by
    have := zzi r
    have := zch y.body
    simp only [szU, List.length_cons]
    omega
section
variable {C : CallF} {n : Nat} {σ : Store}
def Efl (m acc : List Su) (i : Nat) : Env := { slots := [(4, ⟨false, dUs m⟩), (5, ⟨true, dUs acc⟩), (6, ⟨false, .int .i64 i⟩)], locs := [], boxes := [], defers := [] }
theorem ziab (m acc us : List Su) (i : Nat) (h : i < m.length) (hm : m.length < 100000000) (hl : acc.length + us.length < 1000000000) (hc : C n_36 [dU m[i]] σ = some (.ret ⟨false, dUs us⟩, σ)) : exec C n none a_76 (Efl m acc i) σ = some (.normal, Efl m (acc ++ us) (i + 1), σ) := by
  have hi : ((i : Int) < (m.length : Int)) := by omega
  have hx := idx_U m i h
  rw [dU_eq, cU] at hc hx
  simp only [zai] at hc hx
  simp only [a_76, Efl, sA, Nat.reduceAdd, Nat.reduceSub, Nat.reduceMul, Nat.reduceBEq, Nat.reduceLeDiff, Int.reduceBEq, Int.reduceBNe, Int.reduceLE, Int.reduceLT, Int.reduceGE, Int.reduceGT, Int.reduceNeg, kn, len_U, hi, natI, hx, hc, zk8, appU acc us true (fun _ => rfl) hl, zaj (i := i) (by omega)]
theorem zktb (m acc : List Su) : exec C n none a_76 (Efl m acc m.length) σ = some (.exit 0, { Efl m acc m.length with slots := [(4, ⟨false, dUs m⟩), (5, ⟨true, dUs acc⟩), (6, ⟨false, .int .i64 m.length⟩), (27, ⟨false, .bool false⟩)] }, σ) := by
  have hi : ¬ ((m.length : Int) < (m.length : Int)) := by omega
  simp only [a_76, Efl, sA, Nat.reduceAdd, Nat.reduceSub, Nat.reduceMul, Nat.reduceBEq, Nat.reduceLeDiff, Int.reduceBEq, Int.reduceBNe, Int.reduceLE, Int.reduceLT, Int.reduceGE, Int.reduceGT, Int.reduceNeg, kn, len_U, hi]
end
theorem zibb {B B' : Nat} (hB : B ≤ B') (hB' : B' ≤ 10000000) : ∀ (k : Nat) (s : Su), s.body.size = k → PreU B B' s → ∃ us, OkP n_36 [dU s] ⟨false, dUs us⟩ ∧ FO B' s.body.size us := by
  intro k
  induction k using Nat.strongRecOn with
  | ind k ih =>
    intro s hk ⟨hs, hn, hps, hsz⟩
    have hpos := zch s.body
    have hhp := zdkb s.body
    have h1 := zjr (S := SFt B B') rfl s.body false s.ps s.name [] (zdeb _ _ _ _ _ _ rfl (by omega) (by simp; omega) (by omega)) 0 σ0
    obtain ⟨r1, r2, r3, r4⟩ := znz (B := B) (B' := B') (t := s.name) hs hB (by omega) false s.ps []
    have r5 := zf1b (B := B) (B' := B') (t := s.name) hs hB (by omega) s.ps []
    have r6 := zddb s.body s.ps s.name
    generalize flM s.body false s.ps s.name [] = fr at h1 r1 r2 r3 r4 r5 r6
    obtain ⟨b, m⟩ := fr
    simp only [szU, Nat.zero_add] at h1 r1 r2 r3 r4 r5 r6
    have pre : ∀ u ∈ m, PreU B B' u ∧ u.body.size < k := fun u hu => by
      have h2 := zzj m u hu
      have h6 := r6 u hu
      rcases r4 u hu with h | ⟨h3, h4, h5, _⟩
      · cases h
      · exact ⟨⟨h3, by omega, by omega, by omega⟩, by omega⟩
    have hml := zzi m
    have hu0 : FlU B' ⟨s.name, s.ps, b⟩ := ⟨r1, by simp only; omega, by simp only; omega⟩
    obtain ⟨r, hr, acc, rfl, q1, q2, q3⟩ := zer (body := exec (T (SFt B B') 1) (m.length + 1) none a_76)
      (fun i e σ => σ = σ0 ∧ ∃ acc, e = Efl m acc i ∧ (∀ u ∈ acc, FlU B' u) ∧ acc.length ≤ 1 + szU (m.take i) ∧ szU acc ≤ 3 * k + 3 * k * szU (m.take i))
      (fun r => ∃ acc, r = (.exit 0, { Efl m acc m.length with slots := [(4, ⟨false, dUs m⟩), (5, ⟨true, dUs acc⟩), (6, ⟨false, .int .i64 m.length⟩), (27, ⟨false, .bool false⟩)] }, σ0) ∧ (∀ u ∈ acc, FlU B' u) ∧ acc.length ≤ 1 + szU m ∧ szU acc ≤ 3 * k + 3 * k * szU m) m.length
      (fun i e σ hi ⟨hσ, acc, he, p1, p2, p3⟩ => by
        subst hσ he
        have hmem := List.getElem_mem hi
        obtain ⟨hpre, hlt⟩ := pre _ hmem
        obtain ⟨us, ⟨g1, g2, g3⟩, hc⟩ := zcrb (S := SFt B B') rfl m[i] hpre (ih _ hlt _ rfl hpre)
        have ht := zwg m i hi
        have htl := zos m (i + 1)
        refine ⟨_, _, ziab m acc us i hi (by omega) (by omega) (hc 0 σ0), rfl, acc ++ us, rfl, fun u hu => ?_, ?_, ?_⟩
        · rcases List.mem_append.1 hu with h | h
          · exact p1 u h
          · exact g1 u h
        · rw [List.length_append, ht]; omega
        · rw [ziy, ht, Nat.mul_add]
          have : 3 * m[i].body.size * m[i].body.size ≤ 3 * k * m[i].body.size := Nat.mul_le_mul_right _ (by omega)
          omega)
      (fun e σ ⟨hσ, acc, he, p1, p2, p3⟩ => by
        subst hσ he
        rw [List.take_length] at p2 p3
        exact ⟨_, zktb m acc, fun _ _ h => (by cases h), acc, rfl, p1, p2, p3⟩) 0 (m.length + 1) (Efl m [⟨s.name, s.ps, b⟩] 0) σ0 (by omega) (by omega)
      ⟨rfl, _, rfl, fun u hu => by rw [List.mem_singleton.1 hu]; exact hu0, by simp, by simp only [szU]; omega⟩
    refine ⟨acc, OkP.weak (o := true) rfl (zap (af := a_131) (n := m.length + 1) (σ' := σ0) (zar (SFt B B') 1) rfl rfl (by simp [zan, zu4]) (zdj _) ?_), q1, by omega, ?_⟩
    · have e1 : dUs [⟨s.name, s.ps, b⟩] = .list k_9 [dU ⟨s.name, s.ps, b⟩] := rfl
      simp only [Efl, zeroI, e1] at hr
      simp only [dU_eq, cU, zae, zai] at h1 hr
      have en : dUs [] = .nils := rfl
      rw [en] at h1
      simp only [a_131, sA, Nat.reduceAdd, Nat.reduceSub, Nat.reduceMul, Nat.reduceBEq, Nat.reduceLeDiff, Int.reduceBEq, Int.reduceBNe, Int.reduceLE, Int.reduceLT, Int.reduceGE, Int.reduceGT, Int.reduceNeg, kn, dU_eq, cU, zai, onel, okl, celll, h1, hr]
    · have h6 : 3 * k * szU m ≤ 3 * k * (k - 1) := Nat.mul_le_mul_left _ (by omega)
      have h7 : 3 * k + 3 * k * (k - 1) = 3 * k * k := by
        obtain ⟨j, rfl⟩ : ∃ j, k = j + 1 := ⟨k - 1, by omega⟩
        simp only [Nat.add_sub_cancel]
        generalize 3 * (j + 1) = z
        rw [Nat.mul_succ]
        omega
      rw [hk]
      omega
end Go.Fu
namespace Go.Fu
open Go Go.Mx
set_option maxRecDepth 10000
def sPACK : Tx := [80, 65, 67, 75]
def zdn (f : Fd) : Cd := ⟨f.name, f.arity, [⟨sPACK, f.arity, f.tag, f.name⟩, ⟨zcs, 0, 0, []⟩, ⟨sPOP, 0, 0, []⟩, ⟨zhe, 0, 0, []⟩]⟩
theorem ok_dD (c : Cd) : (dD c).ok = true := by simp [dD, D.ok, dIs, D.one, zcg]
theorem zfvb (c : Cd) : (dD c).cells.length = 3 := rfl
theorem appD1 (a : List Cd) (x : Cd) (o : Bool) (ho : a ≠ [] → o = true) (hl : a.length < 1000000000) : za1 k_3 48 ⟨o, dDs a⟩ [dD x] = some ⟨true, dDs (a ++ [x])⟩ := zet ok_dD zfvb (by omega) a x o ho hl
section
variable {C : CallF} {n : Nat} {σ : Store}
def Eca (us : List Su) (i : Nat) : Env := { slots := [(0, ⟨false, dFs FL⟩), (1, ⟨false, dUs us⟩), (7, ⟨ow i, dDs ((FL.take i).map zdn)⟩), (8, ⟨false, .int .i64 i⟩)], locs := [], boxes := [], defers := [] }
theorem zhtb (us : List Su) (i : Nat) (h : i < FL.length) : exec C n none a_74 (Eca us i) σ = some (.normal, Eca us (i + 1), σ) := by
  have hi : ((i : Int) < (FL.length : Int)) := by omega
  have hl : FL.length = 5 := rfl
  have hx := idx_F FL i h
  have ha := appD1 ((FL.take i).map zdn) (zdn FL[i]) (ow i) (fun h => ow_ne (fun e => h (by rw [e]; rfl))) (by simp; omega)
  have e : (FL.take i).map zdn ++ [zdn FL[i]] = (FL.take (i + 1)).map zdn := by rw [← zba FL i h, List.map_append]; rfl
  rw [e] at ha
  generalize FL[i] = f at hx ha
  simp only [dF] at hx
  simp only [dD, zdn, dIs, dI, List.map_cons, List.map_nil, dlist, sPACK, zcs, sPOP, zhe] at ha
  simp only [a_74, Eca, sA, Nat.reduceAdd, Nat.reduceSub, Nat.reduceMul, Nat.reduceBEq, Nat.reduceLeDiff, Int.reduceBEq, Int.reduceBNe, Int.reduceLE, Int.reduceLT, Int.reduceGE, Int.reduceGT, Int.reduceNeg, kn, len_F, hi, natI, hx, ha, zaj (i := i) (by omega), zcr]
theorem zkdb (us : List Su) : exec C n none a_74 (Eca us FL.length) σ = some (.exit 0, { Eca us FL.length with slots := [(0, ⟨false, dFs FL⟩), (1, ⟨false, dUs us⟩), (7, ⟨true, dDs (FL.map zdn)⟩), (8, ⟨false, .int .i64 FL.length⟩), (23, ⟨false, .bool false⟩)] }, σ) := by
  have hi : ¬ ((FL.length : Int) < (FL.length : Int)) := by omega
  simp only [a_74, Eca, sA, Nat.reduceAdd, Nat.reduceSub, Nat.reduceMul, Nat.reduceBEq, Nat.reduceLeDiff, Int.reduceBEq, Int.reduceBNe, Int.reduceLE, Int.reduceLT, Int.reduceGE, Int.reduceGT, Int.reduceNeg, kn, len_F, hi, List.take_length]
  rfl
def Ecb (us : List Su) (cs : List Cd) (k : Nat) (fs : List Su) (i : Nat) : Env := { slots := [(1, ⟨false, dUs us⟩), (7, ⟨true, dDs cs⟩), (11, ⟨false, .int .i64 k⟩), (12, ⟨false, dUs fs⟩), (13, ⟨false, .int .i64 i⟩)], locs := [], boxes := [], defers := [] }
theorem zhxb (us : List Su) (cs : List Cd) (k : Nat) (fs : List Su) (i : Nat) (is : List In) (h : i < fs.length) (hl : fs.length < 100000000) (hc : cs.length < 1000000000) (h1 : C n_59 [dSs fs[i].ps] σ = some (.ret ⟨false, dSs fs[i].ps.reverse⟩, σ)) (h2 : C n_10 [dCo fs[i].body, dSs fs[i].ps.reverse] σ = some (.ret ⟨false, dIs is⟩, σ)) :
    exec C n none a_50 (Ecb us cs k fs i) σ = some (.normal, Ecb us (cs ++ [⟨fs[i].name, fs[i].ps.length, is⟩]) k fs (i + 1), σ) := by
  have hi : ((i : Int) < (fs.length : Int)) := by omega
  have hx := idx_U fs i h
  have ha := appD1 cs ⟨fs[i].name, fs[i].ps.length, is⟩ true (fun _ => rfl) hc
  generalize fs[i] = u at hx ha h1 h2
  rw [dU_eq, cU] at hx
  have hp := partU u
  simp only [cU, zai, zae] at hx h2 hp
  simp only [dD] at ha
  simp only [a_50, Ecb, sA, Nat.reduceAdd, Nat.reduceSub, Nat.reduceMul, Nat.reduceBEq, Nat.reduceLeDiff, Int.reduceBEq, Int.reduceBNe, Int.reduceLE, Int.reduceLT, Int.reduceGE, Int.reduceGT, Int.reduceNeg, kn, len_U, len_S, onel, okl, celll, hi, natI, hx, hp, zbk, h1, h2, ha, zaj (i := i) (by omega)]
theorem zkfb (us : List Su) (cs : List Cd) (k : Nat) (fs : List Su) : exec C n none a_50 (Ecb us cs k fs fs.length) σ = some (.exit 4, { Ecb us cs k fs fs.length with slots := [(1, ⟨false, dUs us⟩), (7, ⟨true, dDs cs⟩), (11, ⟨false, .int .i64 k⟩), (12, ⟨false, dUs fs⟩), (13, ⟨false, .int .i64 fs.length⟩), (64, ⟨false, .bool false⟩)] }, σ) := by
  have hi : ¬ ((fs.length : Int) < (fs.length : Int)) := by omega
  simp only [a_50, Ecb, sA, Nat.reduceAdd, Nat.reduceSub, Nat.reduceMul, Nat.reduceBEq, Nat.reduceLeDiff, Int.reduceBEq, Int.reduceBNe, Int.reduceLE, Int.reduceLT, Int.reduceGE, Int.reduceGT, Int.reduceNeg, kn, len_U, hi]
end
end Go.Fu
namespace Go.Fu
open Go Go.Mx
set_option maxRecDepth 10000
def CO (B : Nat) (cs : List Cd) : Prop := ∀ c ∈ cs, c.name.length ≤ B ∧ Small c.arity ∧ ∀ i ∈ c.body, GI B i
def wt : List Cd → Nat
  | [] => 0
  | c :: r => c.body.length + 1 + wt r
theorem zkab (a : List Cd) (c : Cd) : wt (a ++ [c]) = wt a + (c.body.length + 1) := by
  induction a with
  | nil => simp [wt]
  | cons x r ih => simp only [List.cons_append, wt, ih]; omega
theorem znv : ∀ a : List Cd, a.length ≤ wt a
  | [] => by simp [wt]
  | x :: r => by
    have := znv r
    simp only [wt, List.length_cons]
    omega
def zv2 : List D → Cell → Prop := fun ds c => ∀ us, ds = [dFs FL, dUs us] → GoodP us → c = ⟨false, .int .i64 0⟩
theorem zzv {S : Specs} (hS : aget S n_119 = some zv2) (us : List Su) (hg : GoodP us) (n : Nat) (σ : Store) : T S (n + 1) n_119 [dFs FL, dUs us] σ = some (.ret ⟨false, .int .i64 0⟩, σ) := by
  obtain ⟨c, h1, h2⟩ := T_orc (S := S) hS rfl (c := ⟨false, .int .i64 0⟩) (fun a' e _ => rfl) (zzl us hg)
  rw [h2, h1 us rfl hg]
def SCo (B B' : Nat) : Specs := [(n_119, zv2), (n_36, spF B B'), (n_59, zrv), (n_10, spT B')]
section
variable {C : CallF} {n : Nat} {σ : Store}
def Ecc (us : List Su) (cs : List Cd) (k : Nat) : Env := { slots := [(1, ⟨false, dUs us⟩), (7, ⟨true, dDs cs⟩), (11, ⟨false, .int .i64 k⟩)], locs := [], boxes := [], defers := [] }
theorem zhyb (us : List Su) (cs cs' : List Cd) (k : Nat) (fs : List Su) (h : k < us.length) (hl : us.length < 1000) (h1 : C n_36 [dU us[k]] σ = some (.ret ⟨false, dUs fs⟩, σ))
    (h2 : loopN (exec C n none a_50) n (Ecb us cs k fs 0) σ = some (.exit 4, { Ecb us cs' k fs fs.length with slots := [(1, ⟨false, dUs us⟩), (7, ⟨true, dDs cs'⟩), (11, ⟨false, .int .i64 k⟩), (12, ⟨false, dUs fs⟩), (13, ⟨false, .int .i64 fs.length⟩), (64, ⟨false, .bool false⟩)] }, σ)) :
    exec C n none a_75 (Ecc us cs k) σ = some (.normal, Ecc us cs' (k + 1), σ) := by
  have hi : ((k : Int) < (us.length : Int)) := by omega
  have hx := idx_U us k h
  rw [dU_eq, cU] at hx h1
  simp only [zai] at hx h1
  simp only [Ecb, zeroI] at h2
  simp only [a_75, Ecc, sA, Nat.reduceAdd, Nat.reduceSub, Nat.reduceMul, Nat.reduceBEq, Nat.reduceLeDiff, Int.reduceBEq, Int.reduceBNe, Int.reduceLE, Int.reduceLT, Int.reduceGE, Int.reduceGT, Int.reduceNeg, kn, len_U, hi, natI, hx, h1, h2, zaj (i := k) (by omega)]
theorem zkgb (us : List Su) (cs : List Cd) : exec C n none a_75 (Ecc us cs us.length) σ = some (.exit 2, { Ecc us cs us.length with slots := [(1, ⟨false, dUs us⟩), (7, ⟨true, dDs cs⟩), (11, ⟨false, .int .i64 us.length⟩), (53, ⟨false, .bool false⟩)] }, σ) := by
  have hi : ¬ ((us.length : Int) < (us.length : Int)) := by omega
  simp only [a_75, Ecc, sA, Nat.reduceAdd, Nat.reduceSub, Nat.reduceMul, Nat.reduceBEq, Nat.reduceLeDiff, Int.reduceBEq, Int.reduceBNe, Int.reduceLE, Int.reduceLT, Int.reduceGE, Int.reduceGT, Int.reduceNeg, kn, len_U, hi]
end
theorem zhfb {B B' : Nat} {fs : List Su} {us : List Su} {cs : List Cd} {k n : Nat} (hf : ∀ u ∈ fs, FlU B' u) (hlen : fs.length < 100000000) (hn : fs.length < n) (hco : CO B' cs) (hw : wt cs + 12 * szU fs < 1000000000) :
    ∃ cs', loopN (exec (T (SCo B B') 1) n none a_50) n (Ecb us cs k fs 0) σ0 = some (.exit 4, { Ecb us cs' k fs fs.length with slots := [(1, ⟨false, dUs us⟩), (7, ⟨true, dDs cs'⟩), (11, ⟨false, .int .i64 k⟩), (12, ⟨false, dUs fs⟩), (13, ⟨false, .int .i64 fs.length⟩), (64, ⟨false, .bool false⟩)] }, σ0) ∧ CO B' cs' ∧ wt cs' ≤ wt cs + 12 * szU fs ∧ cs.length ≤ cs'.length := by
  obtain ⟨r, hr, cs', rfl, h1, h2, h3⟩ := zer (body := exec (T (SCo B B') 1) n none a_50)
    (fun i e σ => σ = σ0 ∧ ∃ cs', e = Ecb us cs' k fs i ∧ CO B' cs' ∧ wt cs' ≤ wt cs + 12 * szU (fs.take i) ∧ cs.length ≤ cs'.length)
    (fun r => ∃ cs', r = (.exit 4, { Ecb us cs' k fs fs.length with slots := [(1, ⟨false, dUs us⟩), (7, ⟨true, dDs cs'⟩), (11, ⟨false, .int .i64 k⟩), (12, ⟨false, dUs fs⟩), (13, ⟨false, .int .i64 fs.length⟩), (64, ⟨false, .bool false⟩)] }, σ0) ∧ CO B' cs' ∧ wt cs' ≤ wt cs + 12 * szU fs ∧ cs.length ≤ cs'.length) fs.length
    (fun i e σ hi ⟨hσ, acc, he, p1, p2, p3⟩ => by
      subst hσ he
      obtain ⟨q1, q2, q3⟩ := hf _ (List.getElem_mem hi)
      have ht := zwg fs i hi
      have htl := zos fs (i + 1)
      have hpos := zch fs[i].body
      have hwl := znv acc
      obtain ⟨is, gi, hT⟩ := zcsb (S := SCo B B') rfl fs[i].body fs[i].ps.reverse ((zhzb _ fs[i].body rfl q1 fs[i].ps.reverse (by simp; omega)).2)
      have hb := zd0 (S := SCo B B') rfl fs[i].ps (by omega) 0 σ0
      refine ⟨_, _, zhxb us acc k fs i is hi hlen (by omega) hb (hT 0 σ0), rfl, _, rfl, fun c hc => ?_, ?_, by rw [List.length_append]; omega⟩
      · rcases List.mem_append.1 hc with h | h
        · exact p1 c h
        · rw [List.mem_singleton.1 h]
          exact ⟨q2, zct (by omega), gi.1⟩
      · rw [zkab, ht]
        have := gi.2
        simp only
        omega)
    (fun e σ ⟨hσ, acc, he, p1, p2, p3⟩ => by
      subst hσ he
      rw [List.take_length] at p2
      exact ⟨_, zkfb us acc k fs, fun _ _ h => (by cases h), acc, rfl, p1, p2, p3⟩) 0 n (Ecb us cs k fs 0) σ0 (by omega) (by omega)
    ⟨rfl, _, rfl, hco, by omega, Nat.le_refl _⟩
  exact ⟨cs', hr, h1, h2, h3⟩
theorem zdcb {B : Nat} (hB : 5 ≤ B) : CO B (FL.map zdn) := by
  have h0 : Small 0 := zS
  have h1 : Small 1 := oneS
  have h2 : Small 2 := ⟨by decide, by decide⟩
  have e : ∀ (s : Tx), s.length ≤ 5 → s.length ≤ B := fun s h => by omega
  intro c hc
  obtain ⟨f, hf, rfl⟩ := List.mem_map.1 hc
  have hf' : f.name.length ≤ 5 ∧ Small f.arity ∧ Small f.tag := by
    simp only [FL, List.mem_cons, List.not_mem_nil, or_false] at hf
    rcases hf with rfl | rfl | rfl | rfl | rfl <;> simp [h0, h1, h2]
  refine ⟨e _ hf'.1, hf'.2.1, fun i hi => ?_⟩
  simp only [zdn, List.mem_cons, List.not_mem_nil, or_false] at hi
  rcases hi with rfl | rfl | rfl | rfl
  · exact ⟨by simp [sPACK], hf'.2.1, hf'.2.2, e _ hf'.1⟩
  · exact ⟨by simp [zcs], h0, h0, by simp⟩
  · exact ⟨by simp [sPOP], h0, h0, by simp⟩
  · exact ⟨by simp [zhe], h0, h0, by simp⟩
theorem zz6 {B B' : Nat} (hB : B ≤ B') (h5 : 5 ≤ B') (hB' : B' ≤ 10000000) (us : List Su) (hg : GoodP us) (h4 : us.length ≤ 4) (hp : ∀ u ∈ us, PreU B B' u ∧ u.body.size ≤ 1200) :
    ∃ cs, OkP n_152 [dFs FL, dUs us] ⟨false, .tup [dDs cs, .int .i64 0]⟩ ∧ CO B' cs ∧ wt cs ≤ 25 + 51840000 * us.length ∧ 5 ≤ cs.length := by
  have h0 := zzv (S := SCo B B') rfl us hg 0 σ0
  have hl0 := za4 (body := exec (T (SCo B B') 1) 1000000 none a_74) (Eca us) (fun _ => σ0) FL.length (r := _) (fun _ _ h => by cases h) (fun i hi => zhtb us i hi) (zkdb us) 0 1000000 (by decide) (by decide)
  have hw0 : wt (FL.map zdn) = 25 := rfl
  obtain ⟨r, hr, cs, rfl, q1, q2, q3⟩ := zer (body := exec (T (SCo B B') 1) 1000000 none a_75)
    (fun k e σ => σ = σ0 ∧ ∃ cs, e = Ecc us cs k ∧ CO B' cs ∧ wt cs ≤ 25 + 51840000 * k ∧ 5 ≤ cs.length)
    (fun r => ∃ cs, r = (.exit 2, { Ecc us cs us.length with slots := [(1, ⟨false, dUs us⟩), (7, ⟨true, dDs cs⟩), (11, ⟨false, .int .i64 us.length⟩), (53, ⟨false, .bool false⟩)] }, σ0) ∧ CO B' cs ∧ wt cs ≤ 25 + 51840000 * us.length ∧ 5 ≤ cs.length) us.length
    (fun k e σ hk ⟨hσ, acc, he, p1, p2, p3⟩ => by
      subst hσ he
      obtain ⟨hpre, hsz⟩ := hp _ (List.getElem_mem hk)
      obtain ⟨fs, ⟨g1, g2, g3⟩, hF⟩ := zcrb (S := SCo B B') rfl us[k] hpre (zibb hB hB' _ _ rfl hpre)
      have h6 : 3 * us[k].body.size * us[k].body.size ≤ 4320000 := by
        have := Nat.mul_le_mul (Nat.mul_le_mul_left 3 hsz) hsz
        omega
      obtain ⟨cs', h7, h8, h9, h10⟩ := zhfb (B := B) (us := us) (cs := acc) (k := k) (n := 1000000) g1 (by omega) (by omega) p1 (by omega)
      exact ⟨_, _, zhyb us acc cs' k fs hk (by omega) (hF 0 σ0) h7, rfl, cs', rfl, h8, by omega, by omega⟩)
    (fun e σ ⟨hσ, acc, he, p1, p2, p3⟩ => by
      subst hσ he
      exact ⟨_, zkgb us acc, fun _ _ h => (by cases h), acc, rfl, p1, p2, p3⟩) 0 1000000 (Ecc us (FL.map zdn) 0) σ0 (by omega) (by omega)
    ⟨rfl, _, rfl, zdcb h5, by omega, by decide⟩
  refine ⟨cs, zap (af := a_129) (n := 1000000) (σ' := σ0) (zar (SCo B B') 1) rfl rfl (by simp [zan, zgf, zdj]) (by simp [noPtr, zan, zfi]) ?_, q1, q2, q3⟩
  have e0 : ow 0 = false := rfl
  have e1 : dDs ((FL.take 0).map zdn) = .nils := rfl
  simp only [Eca, zeroI, e0, e1] at hl0
  simp only [Ecc, zeroI] at hr
  simp only [a_129, sA, Nat.reduceAdd, Nat.reduceSub, Nat.reduceMul, Nat.reduceBEq, Nat.reduceLeDiff, Int.reduceBEq, Int.reduceBNe, Int.reduceLE, Int.reduceLT, Int.reduceGE, Int.reduceGT, Int.reduceNeg, kn, h0, hl0, hr]
end Go.Fu
namespace Go.Fu
open Go Go.Mx
set_option maxRecDepth 10000
structure IR (d : D) (xs : List Int) : Prop where
  len : lenOf d = some xs.length
  idx : ∀ i (h : i < xs.length), za7 1 d i = some (.eptr (.int .i64 xs[i]))
  np : noPtr d = true
  small : ∀ x ∈ xs, Small x
def pickI (x : Int) : Nat := (if x < 0 then -(x + 1) else x).toNat
def pickM (xs : List Int) (at' : Nat) : Nat := if h : at' < xs.length then pickI xs[at'] else 0
theorem zg2b {x : Int} (h : Small x) : pickI x < 9223372036854775808 := by
  unfold pickI Small at *
  split <;> omega
theorem zfj {xs : List Int} (h : ∀ x ∈ xs, Small x) (i : Nat) : pickM xs i < 9223372036854775808 := by
  unfold pickM
  split
  · exact zg2b (h _ (List.getElem_mem _))
  · omega
theorem zejb {d : D} {xs : List Int} (hR : IR d xs) (i : Nat) (hi : i < 1099511627776) : OkP n_17 [d, .int .i64 i] ⟨false, .int .i64 (pickM xs i : Nat)⟩ := by
  refine zap (af := a_99) (n := 1) (σ' := σ0) (zar [] 0) rfl rfl (by simp [zan, hR.np, noPtr]) rfl ?_
  by_cases h : i < xs.length
  · have h1 : ¬ ((xs.length : Int) ≤ (i : Int)) := by omega
    have hx := hR.idx i h
    have hs := hR.small _ (List.getElem_mem h)
    have hp : pickM xs i = pickI xs[i] := by simp [pickM, h]
    rw [hp]
    generalize xs[i] = x at hx hs
    unfold Small at hs
    by_cases h2 : x < 0
    · have e1 : IntKind.i64.wrap (x + 1) = x + 1 := zbu (by omega) (by omega)
      have e2 : IntKind.i64.wrap (0 - (x + 1)) = (pickI x : Int) := by
        rw [zbu (by omega) (by omega)]
        simp only [pickI, if_pos h2]
        omega
      simp only [a_99, sA, Nat.reduceAdd, Nat.reduceSub, Nat.reduceMul, Nat.reduceBEq, Nat.reduceLeDiff, Int.reduceBEq, Int.reduceBNe, Int.reduceLE, Int.reduceLT, Int.reduceGE, Int.reduceGT, Int.reduceNeg, kn, hR.len, h1, natI, hx, h2, e1, e2]
    · have e2 : x = (pickI x : Int) := by
        simp only [pickI, if_neg h2]
        omega
      simp only [a_99, sA, Nat.reduceAdd, Nat.reduceSub, Nat.reduceMul, Nat.reduceBEq, Nat.reduceLeDiff, Int.reduceBEq, Int.reduceBNe, Int.reduceLE, Int.reduceLT, Int.reduceGE, Int.reduceGT, Int.reduceNeg, kn, hR.len, h1, natI, hx, h2]
      rw [← e2]
  · have h1 : ((xs.length : Int) ≤ (i : Int)) := by omega
    have hp : pickM xs i = 0 := by simp [pickM, h]
    rw [hp]
    simp only [a_99, sA, Nat.reduceAdd, Nat.reduceSub, Nat.reduceMul, Nat.reduceBEq, Nat.reduceLeDiff, Int.reduceBEq, Int.reduceBNe, Int.reduceLE, Int.reduceLT, Int.reduceGE, Int.reduceGT, Int.reduceNeg, kn, hR.len, h1]
    rfl
theorem zwz : OkP n_24 [] ⟨false, dFs FL⟩ := by
  refine OkP.weak (o := true) rfl (zap (af := a_130) (n := 1) (σ' := σ0) (zar [] 0) rfl rfl rfl (by simp [zgf]) ?_)
  simp only [a_130, sA, Nat.reduceAdd, Nat.reduceSub, Nat.reduceMul, Nat.reduceBEq, Nat.reduceLeDiff, Int.reduceBEq, Int.reduceBNe, Int.reduceLE, Int.reduceLT, Int.reduceGE, Int.reduceGT, Int.reduceNeg, kn]
  rfl
def zgl : List D → Cell → Prop := fun ds c => ds = [] → c = ⟨false, dFs FL⟩
theorem zj9 {S : Specs} (hS : aget S n_24 = some zgl) (n : Nat) (σ : Store) : T S (n + 1) n_24 [] σ = some (.ret ⟨false, dFs FL⟩, σ) := by
  obtain ⟨c, h1, h2⟩ := T_orc (S := S) hS rfl (c := ⟨false, dFs FL⟩) (fun _ => rfl) zwz
  rw [h2, h1 rfl]
theorem tmodN (a b : Nat) : ((a : Int)).tmod (b : Int) = ((a % b : Nat) : Int) := by rw [Int.tmod_eq_emod_of_nonneg (by omega)]; omega
theorem tdivN (a b : Nat) : ((a : Int)).tdiv (b : Int) = ((a / b : Nat) : Int) := by rw [Int.tdiv_eq_ediv_of_nonneg (by omega)]; omega
theorem zty : ∀ f ∈ FL, zd4 FL f.name (-1) = true ∧ zd4 FL f.name f.arity = true ∧ f.name.length ≤ 5 ∧ (f.arity = 0 ∨ f.arity = 1 ∨ f.arity = 2) := by decide
def co10 (f n : Int) (s : Tx) : Co := .mk f n s [] [] []
theorem ziyb (v : Nat) (hv : v < 9223372036854775808) (ns : List Tx) (h0 : ns ≠ []) (hn : ns.length < 1000) (h5 : ∀ s ∈ ns, s.length ≤ 5) :
    ∃ c, OkP n_106 [.int .i64 v, dSs ns] ⟨false, dCo c⟩ ∧ Good ns c ∧ Shp 5 c ∧ c.size = 1 ∧ hgt c = 1 := by
  have mk : ∀ {c : Co} {o : Bool} {σ'}, finX Ra (fun _ _ _ => none) a_53 0 (exec (T [(n_24, zgl)] 1) 1 none a_53.body (zbp [.int .i64 v, dSs ns]) σ0) = some (.ret ⟨o, dCo c⟩, σ') → OkP n_106 [.int .i64 v, dSs ns] ⟨false, dCo c⟩ := fun {c o σ'} hr =>
    OkP.weak (o := o) rfl (zap (af := a_53) (n := 1) (σ' := σ') (zar [(n_24, zgl)] 1) rfl rfl (by simp [zan, noPtr, zas]) (za5 _) hr)
  have hF := zj9 (S := [(n_24, zgl)]) rfl 0 σ0
  have t4 : ((v : Int)).tmod 4 = ((v % 4 : Nat) : Int) := tmodN v 4
  have d4 : ((v : Int)).tdiv 4 = ((v / 4 : Nat) : Int) := tdivN v 4
  have w4 : IntKind.i64.wrap ((v / 4 : Nat) : Int) = ((v / 4 : Nat) : Int) := zbu (by omega) (by omega)
  by_cases c0 : v % 4 = 0
  · have t7 : (((v / 4 : Nat) : Int)).tmod 7 = ((v / 4 % 7 : Nat) : Int) := tmodN _ 7
    have w7 : IntKind.i64.wrap (((v / 4 % 7 : Nat) : Int) - 3) = ((v / 4 % 7 : Nat) : Int) - 3 := zbu (by omega) (by omega)
    have hsm : Small (((v / 4 % 7 : Nat) : Int) - 3) := by unfold Small; omega
    refine ⟨co10 3 (((v / 4 % 7 : Nat) : Int) - 3) [], mk (o := false) (σ' := σ0) ?_, .int hsm, .leaf (.inr (.inr (.inl rfl))) hsm (by simp), rfl, rfl⟩
    simp only [a_53, sA, Nat.reduceAdd, Nat.reduceSub, Nat.reduceMul, Nat.reduceBEq, Nat.reduceLeDiff, Int.reduceBEq, Int.reduceBNe, Int.reduceLE, Int.reduceLT, Int.reduceGE, Int.reduceGT, Int.reduceNeg, kn, co10, zae, zai, co, hF, t4, c0, d4, w4, t7, w7]
    rfl
  · have ne0 : (((v % 4 : Nat) : Int) == 0) = false := by simp; omega
    by_cases c1 : v % 4 = 1
    · have t5 : (((v / 4 : Nat) : Int)).tmod 5 = ((v / 4 % 5 : Nat) : Int) := tmodN _ 5
      have hj : v / 4 % 5 < FL.length := Nat.mod_lt _ (by decide)
      have hx := idx_F FL (v / 4 % 5) hj
      have hl : ((FL.length : Nat) : Int) = 5 := rfl
      have hnm := zty _ (List.getElem_mem hj)
      generalize FL[v / 4 % 5] = f at hx hnm
      simp only [dF] at hx
      refine ⟨co10 2 0 f.name, mk (o := false) (σ' := σ0) ?_, .con hnm.1, .leaf (.inr (.inl rfl)) zS hnm.2.2.1, rfl, rfl⟩
      simp only [a_53, sA, Nat.reduceAdd, Nat.reduceSub, Nat.reduceMul, Nat.reduceBEq, Nat.reduceLeDiff, Int.reduceBEq, Int.reduceBNe, Int.reduceLE, Int.reduceLT, Int.reduceGE, Int.reduceGT, Int.reduceNeg, kn, co10, zae, zai, co, hF, t4, c1, d4, w4, len_F, hl, t5, natI, hx]
      rfl
    · have ne1 : (((v % 4 : Nat) : Int) == 1) = false := by simp; omega
      have hnl : 0 < ns.length := List.length_pos_iff.2 h0
      have tn : (((v / 4 : Nat) : Int)).tmod (ns.length : Int) = ((v / 4 % ns.length : Nat) : Int) := tmodN _ _
      have hj : v / 4 % ns.length < ns.length := Nat.mod_lt _ hnl
      have hx := idx_S ns (v / 4 % ns.length) hj
      have hz : ((ns.length : Int) == 0) = false := by simp; omega
      have hm := List.getElem_mem hj
      generalize ns[v / 4 % ns.length] = s at hx hm
      have hany : ns.any (· == s) = true := List.any_eq_true.2 ⟨s, hm, by simp⟩
      refine ⟨co10 1 0 s, mk (o := false) (σ' := σ0) ?_, .var hany, .leaf (.inl rfl) zS (h5 s hm), rfl, rfl⟩
      simp only [a_53, sA, Nat.reduceAdd, Nat.reduceSub, Nat.reduceMul, Nat.reduceBEq, Nat.reduceLeDiff, Int.reduceBEq, Int.reduceBNe, Int.reduceLE, Int.reduceLT, Int.reduceGE, Int.reduceGT, Int.reduceNeg, kn, co10, zae, zai, co, hF, t4, ne0, ne1, d4, w4, len_S, hz, tn, natI, hx]
      rfl
end Go.Fu

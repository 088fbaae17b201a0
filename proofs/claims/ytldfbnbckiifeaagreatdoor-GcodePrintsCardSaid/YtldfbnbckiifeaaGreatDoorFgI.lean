/-
  Combinators of numbers are right: their forms, their names.
-/
import Derived.Test.YtldfbnbckiifeaaGreatDoorFgG
set_option linter.unusedSimpArgs false
set_option linter.unusedVariables false
set_option linter.unusedSectionVars false
namespace Go.Fu
open Go Go.Mx
set_option maxRecDepth 10000
def HdOk (h : Hd) : Prop := Small h.num ∧ zea h.vars = false ∧ ((h.form = 1 ∧ zd4 FL h.name h.vars.length = true) ∨ (h.form = 2 ∧ h.vars = []) ∨ (h.form = 3 ∧ h.vars = []))
inductive Good : List Tx → Co → Prop
  | int {ns n} : Small n → Good ns (.mk 3 n [] [] [] [])
  | con {ns s} : zd4 FL s (-1) = true → Good ns (.mk 2 0 s [] [] [])
  | var {ns s} : ns.any (· == s) = true → Good ns (.mk 1 0 s [] [] [])
  | fail {ns} : Good ns (.mk 11 0 [] [] [] [])
  | app {ns a b} : Good ns a → Good ns b → Good ns (.mk 4 0 [] [a, b] [] [])
  | prim {ns s a b} : (primM s == []) = false → Good ns a → Good ns b → Good ns (.mk 10 0 s [a, b] [] [])
  | lt {ns b bs} : zea (bs.map Prod.fst) = false → (∀ p ∈ bs, Good (ns ++ bs.map Prod.fst) p.2) → Good (ns ++ bs.map Prod.fst) b → Good ns (.mk 8 0 [] [b] bs [])
  | cas {ns x al} : Good ns x → (∀ a ∈ al, HdOk a.1) → (∀ a ∈ al, Good (ns ++ a.1.vars) a.2) → Good ns (.mk 9 0 [] [x] [] al)
section
variable {f n : Int} {s : Tx} {ks : List Co} {bs : List (Tx × Co)} {al : List (Hd × Co)}
theorem co : (Co.mk f n s ks bs al).f = f ∧ (Co.mk f n s ks bs al).n = n ∧ (Co.mk f n s ks bs al).s = s ∧ (Co.mk f n s ks bs al).ks = ks ∧ (Co.mk f n s ks bs al).bs = bs ∧ (Co.mk f n s ks bs al).al = al := ⟨rfl, rfl, rfl, rfl, rfl, rfl⟩
end
theorem ze5 (c : Co) (x : Co) (h : x ∈ zac c) : x.size < c.size := by
  have hs := za3 c
  simp only [zac, List.mem_append, List.mem_map] at h
  rcases h with (⟨p, hp, rfl⟩ | h) | ⟨p, hp, rfl⟩
  · have := zfu c.bs p hp; omega
  · have := zgn c.ks x h; omega
  · have := zep c.al p hp; omega
theorem zmx {ns : List Tx} {c : Co} (h : Good ns c) (i : Nat) (hi : i < (zac c).length) : Good (ns ++ zaw c i) (zac c)[i] := by
  cases h with
  | int _ => simp [zac, co] at hi
  | con _ => simp [zac, co] at hi
  | var _ => simp [zac, co] at hi
  | fail => simp [zac, co] at hi
  | @app _ a b ha hb =>
    have hg : zaw (.mk 4 0 [] [a, b] [] []) i = [] := by
      simp only [zac, co, List.map_nil, List.nil_append, List.append_nil, List.length_cons, List.length_nil] at hi
      unfold zaw
      split
      · simp [co] at *
        try omega
      · rfl
    rw [hg, List.append_nil]
    simp only [zac, co, List.map_nil, List.nil_append, List.append_nil, List.length_cons, List.length_nil] at hi ⊢
    match i, hi with
    | 0, _ => exact ha
    | 1, _ => exact hb
  | @prim _ s a b _ ha hb =>
    have hg : zaw (.mk 10 0 s [a, b] [] []) i = [] := by
      simp only [zac, co, List.map_nil, List.nil_append, List.append_nil, List.length_cons, List.length_nil] at hi
      unfold zaw
      split
      · simp [co] at *
        try omega
      · rfl
    rw [hg, List.append_nil]
    simp only [zac, co, List.map_nil, List.nil_append, List.append_nil, List.length_cons, List.length_nil] at hi ⊢
    match i, hi with
    | 0, _ => exact ha
    | 1, _ => exact hb
  | @lt _ b bs h1 h2 h3 =>
    have hg : zaw (.mk 8 0 [] [b] bs []) i = bs.map Prod.fst := by
      simp only [zac, co, List.map_nil, List.append_nil, List.length_append, List.length_map, List.length_cons, List.length_nil] at hi
      unfold zaw
      rw [if_neg (by simp only [co, List.length_cons, List.length_nil]; omega)]
      rfl
    rw [hg]
    simp only [zac, co, List.map_nil, List.append_nil] at hi ⊢
    by_cases hlt : i < bs.length
    · rw [List.getElem_append_left (by simpa using hlt)]
      rw [List.getElem_map]
      exact h2 _ (List.getElem_mem hlt)
    · rw [List.getElem_append_right (by simpa using hlt)]
      simpa using h3
  | @cas _ x al h1 h2 h3 =>
    simp only [zac, co, List.map_nil, List.nil_append] at hi ⊢
    match i, hi with
    | 0, _ =>
      have hg : zaw (.mk 9 0 [] [x] [] al) 0 = [] := by
        unfold zaw
        rw [if_neg (by simp [co])]
        rfl
      rw [hg, List.append_nil]
      exact h1
    | i + 1, hi =>
      simp only [List.cons_append, List.nil_append, List.length_cons, List.length_map] at hi
      have hlt : i < al.length := by omega
      have hg : zaw (.mk 9 0 [] [x] [] al) (i + 1) = al[i].1.vars := by
        unfold zaw
        rw [if_pos (by simp [co])]
        simp only [co, List.length_nil, List.length_cons]
        rw [za0 _ _ _ (by simp; omega)]
        simp
      rw [hg]
      simp only [List.cons_append, List.nil_append, List.getElem_cons_succ, List.getElem_map]
      exact h3 _ (List.getElem_mem hlt)
/-! ### Forms -/
def SPr : Specs := [(n_72, zry)]
section
variable {C : CallF} {n : Nat} {σ : Store}
def Esh (c : Co) (i : Nat) : Env := { slots := [(4, ⟨false, .int .i64 i⟩)], locs := [(1, 1, 0)], boxes := [(1, bC c)], defers := [] }
theorem zjrb (c : Co) (i : Nat) (h : i < c.al.length) (hl : c.size < 100000000) (hh : HdOk c.al[i].1) : exec C n none a_55 (Esh c i) σ = some (.normal, Esh c (i + 1), σ) := by
  have ha := zc1 c.al
  have hsz := za3 c
  have hi : ((i : Int) < (c.al.length : Int)) := by omega
  have hx := idx_A c.al i h
  have w := zaj (i := i) (by omega)
  have hd := dA_eq c.al[i]
  simp only [zai] at hd
  rw [hd] at hx
  obtain ⟨_, _, hf | ⟨hf, hv⟩ | ⟨hf, hv⟩⟩ := hh
  · simp only [a_55, Esh, bC, sA, Nat.reduceAdd, Nat.reduceSub, Nat.reduceMul, Nat.reduceBEq, Nat.reduceLeDiff, Int.reduceBEq, Int.reduceBNe, Int.reduceLE, Int.reduceLT, Int.reduceGE, Int.reduceGT, Int.reduceNeg, kn, len_A, hi, natI, hx, zem, zbj, zbi, zbh, hf.1, w]
  · simp only [a_55, Esh, bC, sA, Nat.reduceAdd, Nat.reduceSub, Nat.reduceMul, Nat.reduceBEq, Nat.reduceLeDiff, Int.reduceBEq, Int.reduceBNe, Int.reduceLE, Int.reduceLT, Int.reduceGE, Int.reduceGT, Int.reduceNeg, kn, len_A, hi, natI, hx, zem, zbj, zbi, zbh, hf, hv, len_S, List.length_nil, zeroI, w]
  · simp only [a_55, Esh, bC, sA, Nat.reduceAdd, Nat.reduceSub, Nat.reduceMul, Nat.reduceBEq, Nat.reduceLeDiff, Int.reduceBEq, Int.reduceBNe, Int.reduceLE, Int.reduceLT, Int.reduceGE, Int.reduceGT, Int.reduceNeg, kn, len_A, hi, natI, hx, zem, zbj, zbi, zbh, hf, hv, len_S, List.length_nil, zeroI, w]
theorem zltb (c : Co) : exec C n none a_55 (Esh c c.al.length) σ = some (.exit 1, { Esh c c.al.length with slots := [(4, ⟨false, .int .i64 c.al.length⟩), (90, ⟨false, .bool false⟩)] }, σ) := by
  have hi : ¬ ((c.al.length : Int) < (c.al.length : Int)) := by omega
  simp only [a_55, Esh, bC, sA, Nat.reduceAdd, Nat.reduceSub, Nat.reduceMul, Nat.reduceBEq, Nat.reduceLeDiff, Int.reduceBEq, Int.reduceBNe, Int.reduceLE, Int.reduceLT, Int.reduceGE, Int.reduceGT, Int.reduceNeg, kn, len_A, hi]
end
set_option maxHeartbeats 4000000 in
theorem zbpb {ns : List Tx} {c : Co} (h : Good ns c) (hl : c.size < 100000000) : OkP n_159 [dCo c] ⟨false, .bool true⟩ := by
  refine zap (af := a_29) (n := c.size + 1) (σ' := σ0) (zar SPr 1) rfl rfl (by simp [zan, za5]) rfl ?_
  have hp := zsc (S := SPr) rfl c.s 0 σ0
  have ha := zc1 c.al
  have hsz := za3 c
  have h2 : ((2 : Nat) : Int) = 2 := rfl
  have hloop : (∀ a ∈ c.al, HdOk a.1) → _ := fun hh => za4 (body := exec (T SPr 1) (c.size + 1) none a_55) (Esh c) (fun _ => σ0) c.al.length (r := _) (fun _ _ h => by cases h) (fun i hi => zjrb c i hi hl (hh _ (List.getElem_mem hi))) (zltb c) 0 (c.size + 1) (by omega) (by omega)
  simp only [Esh, bC, zeroI] at hloop
  have e0 : dCs [] = .nils := rfl
  have e1 : dBl [] = .nils := rfl
  have e2 : dAl [] = .nils := rfl
  cases h with
  | int _ => simp only [co] at hp; simp only [a_29, sA, Nat.reduceAdd, Nat.reduceSub, Nat.reduceMul, Nat.reduceBEq, Nat.reduceLeDiff, Int.reduceBEq, Int.reduceBNe, Int.reduceLE, Int.reduceLT, Int.reduceGE, Int.reduceGT, Int.reduceNeg, kn, zae, zai, zbj, zbi, zbh, co, hp, len_C, len_B, len_A, List.length_nil, zeroI]
  | con _ => simp only [co] at hp; simp only [a_29, sA, Nat.reduceAdd, Nat.reduceSub, Nat.reduceMul, Nat.reduceBEq, Nat.reduceLeDiff, Int.reduceBEq, Int.reduceBNe, Int.reduceLE, Int.reduceLT, Int.reduceGE, Int.reduceGT, Int.reduceNeg, kn, zae, zai, zbj, zbi, zbh, co, hp, len_C, len_B, len_A, List.length_nil, zeroI]
  | var _ => simp only [co] at hp; simp only [a_29, sA, Nat.reduceAdd, Nat.reduceSub, Nat.reduceMul, Nat.reduceBEq, Nat.reduceLeDiff, Int.reduceBEq, Int.reduceBNe, Int.reduceLE, Int.reduceLT, Int.reduceGE, Int.reduceGT, Int.reduceNeg, kn, zae, zai, zbj, zbi, zbh, co, hp, len_C, len_B, len_A, List.length_nil, zeroI]
  | fail => simp only [co] at hp; simp only [a_29, sA, Nat.reduceAdd, Nat.reduceSub, Nat.reduceMul, Nat.reduceBEq, Nat.reduceLeDiff, Int.reduceBEq, Int.reduceBNe, Int.reduceLE, Int.reduceLT, Int.reduceGE, Int.reduceGT, Int.reduceNeg, kn, zae, zai, zbj, zbi, zbh, co, hp, len_C, len_B, len_A, List.length_nil, zeroI]
  | app _ _ => simp only [co] at hp; simp only [a_29, sA, Nat.reduceAdd, Nat.reduceSub, Nat.reduceMul, Nat.reduceBEq, Nat.reduceLeDiff, Int.reduceBEq, Int.reduceBNe, Int.reduceLE, Int.reduceLT, Int.reduceGE, Int.reduceGT, Int.reduceNeg, kn, zae, zai, zbj, zbi, zbh, co, hp, len_C, len_B, len_A, List.length_nil, List.length_cons, zeroI, h2, Nat.zero_add]
  | prim h1 _ _ =>
    simp only [co] at hp
    simp only [a_29, sA, Nat.reduceAdd, Nat.reduceSub, Nat.reduceMul, Nat.reduceBEq, Nat.reduceLeDiff, Int.reduceBEq, Int.reduceBNe, Int.reduceLE, Int.reduceLT, Int.reduceGE, Int.reduceGT, Int.reduceNeg, kn, zae, zai, zbj, zbi, zbh, co, hp, len_C, len_B, len_A, List.length_nil, List.length_cons, zeroI, h2, h1, Nat.zero_add]
  | lt _ _ _ => simp only [co] at hp; simp only [a_29, sA, Nat.reduceAdd, Nat.reduceSub, Nat.reduceMul, Nat.reduceBEq, Nat.reduceLeDiff, Int.reduceBEq, Int.reduceBNe, Int.reduceLE, Int.reduceLT, Int.reduceGE, Int.reduceGT, Int.reduceNeg, kn, zae, zai, zbj, zbi, zbh, co, hp, len_C, len_B, len_A, List.length_nil, List.length_cons, zeroI, oneI, Nat.zero_add]
  | cas _ h2 _ =>
    have hw := hloop h2
    simp only [co] at hp hw
    simp only [a_29, sA, Nat.reduceAdd, Nat.reduceSub, Nat.reduceMul, Nat.reduceBEq, Nat.reduceLeDiff, Int.reduceBEq, Int.reduceBNe, Int.reduceLE, Int.reduceLT, Int.reduceGE, Int.reduceGT, Int.reduceNeg, kn, zae, zai, zbj, zbi, zbh, co, hp, hw, len_C, len_B, len_A, List.length_nil, List.length_cons, zeroI, oneI, Nat.zero_add]
def zn3 : List D → Cell → Prop := fun _ c => c = ⟨false, .bool true⟩
def zjk : List D → Cell → Prop := fun _ c => c = ⟨false, .bool false⟩
theorem zmn {S : Specs} {f : FuncId} (hS : aget S f = some zn3) (hY : isY f = false) {ds : List D} (h : OkP f ds ⟨false, .bool true⟩) (n : Nat) (σ : Store) : T S (n + 1) f ds σ = some (.ret ⟨false, .bool true⟩, σ) := by
  obtain ⟨c, h1, h2⟩ := T_orc (S := S) hS hY (c := ⟨false, .bool true⟩) rfl h
  rw [h2, h1]
theorem zii {S : Specs} {f : FuncId} (hS : aget S f = some zjk) (hY : isY f = false) {ds : List D} (h : OkP f ds ⟨false, .bool false⟩) (n : Nat) (σ : Store) : T S (n + 1) f ds σ = some (.ret ⟨false, .bool false⟩, σ) := by
  obtain ⟨c, h1, h2⟩ := T_orc (S := S) hS hY (c := ⟨false, .bool false⟩) rfl h
  rw [h2, h1]
def SSh : Specs := [(n_159, zn3), (n_62, zn3), (n_31, zjl)]
section
variable {C : CallF} {n : Nat} {σ : Store}
def Eshs (l : List Co) (i : Nat) : Env := { slots := [(3, ⟨false, .bool true⟩), (4, ⟨false, dCs l⟩), (5, ⟨false, .int .i64 i⟩)], locs := [], boxes := [], defers := [] }
theorem zhbb (l : List Co) (i : Nat) (h : i < l.length) (hl : l.length < 100000000) (hc : C n_62 [dCo l[i]] σ = some (.ret ⟨false, .bool true⟩, σ)) : exec C n none a_100 (Eshs l i) σ = some (.normal, Eshs l (i + 1), σ) := by
  have hi : ((i : Int) < (l.length : Int)) := by omega
  have hx := idx_C l i h
  have hd := zae l[i]
  rw [hd] at hc hx
  simp only [a_100, Eshs, sA, Nat.reduceAdd, Nat.reduceSub, Nat.reduceMul, Nat.reduceBEq, Nat.reduceLeDiff, Int.reduceBEq, Int.reduceBNe, Int.reduceLE, Int.reduceLT, Int.reduceGE, Int.reduceGT, Int.reduceNeg, kn, len_C, hi, natI, hx, zfo, hc, zaj (i := i) (by omega)]
theorem zjsb (l : List Co) : exec C n none a_100 (Eshs l l.length) σ = some (.exit 0, { Eshs l l.length with slots := [(3, ⟨false, .bool true⟩), (4, ⟨false, dCs l⟩), (5, ⟨false, .int .i64 l.length⟩), (16, ⟨false, .bool false⟩)] }, σ) := by
  have hi : ¬ ((l.length : Int) < (l.length : Int)) := by omega
  simp only [a_100, Eshs, sA, Nat.reduceAdd, Nat.reduceSub, Nat.reduceMul, Nat.reduceBEq, Nat.reduceLeDiff, Int.reduceBEq, Int.reduceBNe, Int.reduceLE, Int.reduceLT, Int.reduceGE, Int.reduceGT, Int.reduceNeg, kn, len_C, hi]
end
theorem zx2 : ∀ (k : Nat) (c : Co) (ns : List Tx), c.size = k → Good ns c → c.size < 100000000 → OkP n_62 [dCo c] ⟨false, .bool true⟩ := by
  intro k
  induction k using Nat.strongRecOn with
  | ind k ih =>
    intro c ns hk h hl
    have hlen := zev c
    have hsz := za3 c
    have hb := zbs c.bs
    have hks := ze8 c.ks
    have ha := zc1 c.al
    refine zap (af := a_144) (n := c.size + 1) (σ' := σ0) (zar SSh 1) rfl rfl (by simp [zan, za5]) rfl ?_
    have h1 := zmn (S := SSh) rfl rfl (zbpb h hl) 0 σ0
    have h2 := zij (S := SSh) rfl c hl 0 σ0
    have hrec : ∀ i (hi : i < (zac c).length), T SSh 1 n_62 [dCo (zac c)[i]] σ0 = some (.ret ⟨false, .bool true⟩, σ0) := fun i hi => by
      have hlt := ze5 c _ (List.getElem_mem hi)
      exact zmn (S := SSh) rfl rfl (ih _ (by omega) (zac c)[i] _ rfl (zmx h i hi) (by omega)) 0 σ0
    have hloop := za4 (body := exec (T SSh 1) (c.size + 1) none a_100) (Eshs (zac c)) (fun _ => σ0) (zac c).length (r := _) (fun _ _ h => by cases h) (fun i hi => zhbb (zac c) i hi (by omega) (hrec i hi)) (zjsb (zac c)) 0 (c.size + 1) (by omega) (by omega)
    simp only [Eshs, zeroI] at hloop
    simp only [zae c, zai] at h1 h2
    simp only [a_144, sA, Nat.reduceAdd, Nat.reduceSub, Nat.reduceMul, Nat.reduceBEq, Nat.reduceLeDiff, Int.reduceBEq, Int.reduceBNe, Int.reduceLE, Int.reduceLT, Int.reduceGE, Int.reduceGT, Int.reduceNeg, kn, zae c, zai, zbj, zbi, zbh, h1, h2, hloop]
end Go.Fu
namespace Go.Fu
open Go Go.Mx
set_option maxRecDepth 10000
def SDb : Specs := [(n_21, zf7), (n_25, zpl), (n_31, zjl), (n_60, zjk)]
section
variable {C : CallF} {n : Nat} {σ : Store}
def Eda (c : Co) (i : Nat) : Env := { slots := [(3, ⟨false, .bool false⟩), (4, ⟨false, .int .i64 i⟩)], locs := [(1, 1, 0)], boxes := [(1, bC c)], defers := [] }
theorem zh1b (c : Co) (i : Nat) (h : i < c.al.length) (hl : c.size < 100000000) (hc : C n_25 [dSs c.al[i].1.vars] σ = some (.ret ⟨false, .bool false⟩, σ)) : exec C n none a_87 (Eda c i) σ = some (.normal, Eda c (i + 1), σ) := by
  have ha := zc1 c.al
  have hsz := za3 c
  have hi : ((i : Int) < (c.al.length : Int)) := by omega
  have hp := partA c.al[i]
  simp only [a_87, Eda, bC, sA, Nat.reduceAdd, Nat.reduceSub, Nat.reduceMul, Nat.reduceBEq, Nat.reduceLeDiff, Int.reduceBEq, Int.reduceBNe, Int.reduceLE, Int.reduceLT, Int.reduceGE, Int.reduceGT, Int.reduceNeg, kn, len_A, hi, natI, idx_A _ i h, agg?_dA, hp, zem, hc, zaj (i := i) (by omega)]
theorem zkmb (c : Co) : exec C n none a_87 (Eda c c.al.length) σ = some (.exit 0, { Eda c c.al.length with slots := [(3, ⟨false, .bool false⟩), (4, ⟨false, .int .i64 c.al.length⟩), (15, ⟨false, .bool false⟩)] }, σ) := by
  have hi : ¬ ((c.al.length : Int) < (c.al.length : Int)) := by omega
  simp only [a_87, Eda, bC, sA, Nat.reduceAdd, Nat.reduceSub, Nat.reduceMul, Nat.reduceBEq, Nat.reduceLeDiff, Int.reduceBEq, Int.reduceBNe, Int.reduceLE, Int.reduceLT, Int.reduceGE, Int.reduceGT, Int.reduceNeg, kn, len_A, hi]
def Edb (l : List Co) (i : Nat) : Env := { slots := [(3, ⟨false, .bool false⟩), (6, ⟨false, dCs l⟩), (7, ⟨false, .int .i64 i⟩)], locs := [], boxes := [], defers := [] }
theorem zh2b (l : List Co) (i : Nat) (h : i < l.length) (hl : l.length < 100000000) (hc : C n_60 [dCo l[i]] σ = some (.ret ⟨false, .bool false⟩, σ)) : exec C n none a_88 (Edb l i) σ = some (.normal, Edb l (i + 1), σ) := by
  have hi : ((i : Int) < (l.length : Int)) := by omega
  have hx := idx_C l i h
  have hd := zae l[i]
  rw [hd] at hc hx
  simp only [a_88, Edb, sA, Nat.reduceAdd, Nat.reduceSub, Nat.reduceMul, Nat.reduceBEq, Nat.reduceLeDiff, Int.reduceBEq, Int.reduceBNe, Int.reduceLE, Int.reduceLT, Int.reduceGE, Int.reduceGT, Int.reduceNeg, kn, len_C, hi, natI, hx, zfo, hc, zaj (i := i) (by omega)]
theorem zknb (l : List Co) : exec C n none a_88 (Edb l l.length) σ = some (.exit 2, { Edb l l.length with slots := [(3, ⟨false, .bool false⟩), (6, ⟨false, dCs l⟩), (7, ⟨false, .int .i64 l.length⟩), (38, ⟨false, .bool false⟩)] }, σ) := by
  have hi : ¬ ((l.length : Int) < (l.length : Int)) := by omega
  simp only [a_88, Edb, sA, Nat.reduceAdd, Nat.reduceSub, Nat.reduceMul, Nat.reduceBEq, Nat.reduceLeDiff, Int.reduceBEq, Int.reduceBNe, Int.reduceLE, Int.reduceLT, Int.reduceGE, Int.reduceGT, Int.reduceNeg, kn, len_C, hi]
end
theorem zakb {ns : List Tx} {c : Co} (h : Good ns c) : zea (c.bs.map Prod.fst) = false := by
  cases h <;> first | rfl | assumption
theorem zp4 {ns : List Tx} {c : Co} (h : Good ns c) : ∀ a ∈ c.al, HdOk a.1 := by
  cases h <;> first | (intro a ha; cases ha; done) | assumption
theorem zuc : ∀ (k : Nat) (c : Co) (ns : List Tx), c.size = k → Good ns c → c.size < 100000000 → OkP n_60 [dCo c] ⟨false, .bool false⟩ := by
  intro k
  induction k using Nat.strongRecOn with
  | ind k ih =>
    intro c ns hk h hl
    have hlen := zev c
    have hsz := za3 c
    have hb := zbs c.bs
    have hks := ze8 c.ks
    have ha := zc1 c.al
    refine zap (af := a_137) (n := c.size + 1) (σ' := σ0) (zar SDb 1) rfl rfl (by simp [zan, za5]) rfl ?_
    have h1 := zih (S := SDb) rfl c hl 0 σ0
    have h2 := zik (S := SDb) rfl (c.bs.map Prod.fst) (by simp; omega) 0 σ0
    rw [zakb h] at h2
    have h3 := zij (S := SDb) rfl c hl 0 σ0
    have hv : ∀ i (hi : i < c.al.length), T SDb 1 n_25 [dSs c.al[i].1.vars] σ0 = some (.ret ⟨false, .bool false⟩, σ0) := fun i hi => by
      have hm := zep c.al _ (List.getElem_mem hi)
      have := zik (S := SDb) rfl c.al[i].1.vars (by omega) 0 σ0
      rw [(zp4 h _ (List.getElem_mem hi)).2.1] at this
      exact this
    have hrec : ∀ i (hi : i < (zac c).length), T SDb 1 n_60 [dCo (zac c)[i]] σ0 = some (.ret ⟨false, .bool false⟩, σ0) := fun i hi => by
      have hlt := ze5 c _ (List.getElem_mem hi)
      exact zii (S := SDb) rfl rfl (ih _ (by omega) (zac c)[i] _ rfl (zmx h i hi) (by omega)) 0 σ0
    have hl0 := za4 (body := exec (T SDb 1) (c.size + 1) none a_87) (Eda c) (fun _ => σ0) c.al.length (r := _) (fun _ _ h => by cases h) (fun i hi => zh1b c i hi hl (hv i hi)) (zkmb c) 0 (c.size + 1) (by omega) (by omega)
    have hl1 := za4 (body := exec (T SDb 1) (c.size + 1) none a_88) (Edb (zac c)) (fun _ => σ0) (zac c).length (r := _) (fun _ _ h => by cases h) (fun i hi => zh2b (zac c) i hi (by omega) (hrec i hi)) (zknb (zac c)) 0 (c.size + 1) (by omega) (by omega)
    simp only [Eda, bC, zeroI] at hl0
    simp only [Edb, zeroI] at hl1
    simp only [zae c, zai] at h1 h3
    simp only [a_137, sA, Nat.reduceAdd, Nat.reduceSub, Nat.reduceMul, Nat.reduceBEq, Nat.reduceLeDiff, Int.reduceBEq, Int.reduceBNe, Int.reduceLE, Int.reduceLT, Int.reduceGE, Int.reduceGT, Int.reduceNeg, kn, zae c, zai, zbj, zbi, zbh, h1, h2, h3, hl0, hl1]
def SSt : Specs := [(n_38, sp_in), (n_61, zv3), (n_21, zf7), (n_31, zjl), (n_30, zpk), (n_2, zhg), (n_63, zjk)]
section
variable {C : CallF} {n : Nat} {σ : Store}
def Esa (ns : List Tx) (c : Co) (i : Nat) : Env := { slots := [(0, ⟨false, dFs FL⟩), (1, ⟨false, dSs ns⟩), (9, ⟨false, .int .i64 i⟩)], locs := [(5, 5, 0)], boxes := [(5, bC c)], defers := [] }
theorem zjpb (ns : List Tx) (c : Co) (i : Nat) (h : i < c.al.length) (hl : c.size < 100000000) (hh : HdOk c.al[i].1) (hc : C n_61 [dFs FL, .str c.al[i].1.name, .int .i64 c.al[i].1.vars.length] σ = some (.ret ⟨false, .bool (zd4 FL c.al[i].1.name c.al[i].1.vars.length)⟩, σ)) :
    exec C n none a_56 (Esa ns c i) σ = some (.normal, Esa ns c (i + 1), σ) := by
  have ha := zc1 c.al
  have hsz := za3 c
  have hi : ((i : Int) < (c.al.length : Int)) := by omega
  have hp := partA c.al[i]
  have w := zaj (i := i) (by omega)
  obtain ⟨_, _, hf | hf | hf⟩ := hh
  · rw [hf.2] at hc
    simp only [a_56, Esa, bC, sA, Nat.reduceAdd, Nat.reduceSub, Nat.reduceMul, Nat.reduceBEq, Nat.reduceLeDiff, Int.reduceBEq, Int.reduceBNe, Int.reduceLE, Int.reduceLT, Int.reduceGE, Int.reduceGT, Int.reduceNeg, kn, len_A, hi, natI, idx_A _ i h, agg?_dA, hp, zem, len_S, hc, hf.1, w]
  · simp only [a_56, Esa, bC, sA, Nat.reduceAdd, Nat.reduceSub, Nat.reduceMul, Nat.reduceBEq, Nat.reduceLeDiff, Int.reduceBEq, Int.reduceBNe, Int.reduceLE, Int.reduceLT, Int.reduceGE, Int.reduceGT, Int.reduceNeg, kn, len_A, hi, natI, idx_A _ i h, agg?_dA, hp, zem, len_S, hc, hf.1, w]
  · simp only [a_56, Esa, bC, sA, Nat.reduceAdd, Nat.reduceSub, Nat.reduceMul, Nat.reduceBEq, Nat.reduceLeDiff, Int.reduceBEq, Int.reduceBNe, Int.reduceLE, Int.reduceLT, Int.reduceGE, Int.reduceGT, Int.reduceNeg, kn, len_A, hi, natI, idx_A _ i h, agg?_dA, hp, zem, len_S, hc, hf.1, w]
theorem zlpb (ns : List Tx) (c : Co) : exec C n none a_56 (Esa ns c c.al.length) σ = some (.exit 0, { Esa ns c c.al.length with slots := [(0, ⟨false, dFs FL⟩), (1, ⟨false, dSs ns⟩), (9, ⟨false, .int .i64 c.al.length⟩), (50, ⟨false, .bool false⟩)] }, σ) := by
  have hi : ¬ ((c.al.length : Int) < (c.al.length : Int)) := by omega
  simp only [a_56, Esa, bC, sA, Nat.reduceAdd, Nat.reduceSub, Nat.reduceMul, Nat.reduceBEq, Nat.reduceLeDiff, Int.reduceBEq, Int.reduceBNe, Int.reduceLE, Int.reduceLT, Int.reduceGE, Int.reduceGT, Int.reduceNeg, kn, len_A, hi]
def Esb (ns : List Tx) (c : Co) (i : Nat) : Env := { slots := [(0, ⟨false, dFs FL⟩), (1, ⟨false, dSs ns⟩), (11, ⟨false, dCs (zac c)⟩), (12, ⟨false, .int .i64 i⟩)], locs := [(5, 5, 0)], boxes := [(5, bC c)], defers := [] }
theorem zjqb (ns : List Tx) (c : Co) (i : Nat) (h : i < (zac c).length) (hl : (zac c).length < 100000000) (hg : C n_30 [dCo c, .int .i64 i] σ = some (.ret ⟨false, dSs (zaw c i)⟩, σ)) (hb : C n_2 [dSs ns, dSs (zaw c i)] σ = some (.ret ⟨false, dSs (ns ++ zaw c i)⟩, σ))
    (hc : C n_63 [dFs FL, dSs (ns ++ zaw c i), dCo (zac c)[i]] σ = some (.ret ⟨false, .bool false⟩, σ)) : exec C n none a_102 (Esb ns c i) σ = some (.normal, Esb ns c (i + 1), σ) := by
  have hi : ((i : Int) < ((zac c).length : Int)) := by omega
  have hx := idx_C (zac c) i h
  have hd := zae (zac c)[i]
  rw [hd] at hc hx
  rw [zae c, zai] at hg
  simp only [a_102, Esb, bC, sA, Nat.reduceAdd, Nat.reduceSub, Nat.reduceMul, Nat.reduceBEq, Nat.reduceLeDiff, Int.reduceBEq, Int.reduceBNe, Int.reduceLE, Int.reduceLT, Int.reduceGE, Int.reduceGT, Int.reduceNeg, kn, len_C, hi, natI, hx, zfo, zbk, hg, hb, hc, zaj (i := i) (by omega)]
theorem zlrb (ns : List Tx) (c : Co) : exec C n none a_102 (Esb ns c (zac c).length) σ = some (.exit 2, { Esb ns c (zac c).length with slots := [(0, ⟨false, dFs FL⟩), (1, ⟨false, dSs ns⟩), (11, ⟨false, dCs (zac c)⟩), (12, ⟨false, .int .i64 (zac c).length⟩), (84, ⟨false, .bool false⟩)] }, σ) := by
  have hi : ¬ (((zac c).length : Int) < ((zac c).length : Int)) := by omega
  simp only [a_102, Esb, bC, sA, Nat.reduceAdd, Nat.reduceSub, Nat.reduceMul, Nat.reduceBEq, Nat.reduceLeDiff, Int.reduceBEq, Int.reduceBNe, Int.reduceLE, Int.reduceLT, Int.reduceGE, Int.reduceGT, Int.reduceNeg, kn, len_C, hi]
end
theorem zaib (c : Co) (i : Nat) (hi : i < (zac c).length) : (zaw c i).length ≤ c.size := by
  have hsz := za3 c
  have hb := zbs c.bs
  have hlen := zev c
  unfold zaw
  split
  · rw [za0 _ _ _ (by simp; omega), List.getElem_map]
    have := zep c.al _ (List.getElem_mem (show i - (c.bs.length + c.ks.length) < c.al.length by omega))
    omega
  · simp; omega
theorem zdhb {ns : List Tx} {c : Co} (h : Good ns c) : (c.f = 1 ∧ ns.any (· == c.s) = true) ∨ (c.f = 2 ∧ zd4 FL c.s (-1) = true) ∨ ((c.f == 1) = false ∧ (c.f == 2) = false) := by
  cases h with
  | int _ => exact .inr (.inr ⟨rfl, rfl⟩)
  | con h => exact .inr (.inl ⟨rfl, h⟩)
  | var h => exact .inl ⟨rfl, h⟩
  | fail => exact .inr (.inr ⟨rfl, rfl⟩)
  | app _ _ => exact .inr (.inr ⟨rfl, rfl⟩)
  | prim _ _ _ => exact .inr (.inr ⟨rfl, rfl⟩)
  | lt _ _ _ => exact .inr (.inr ⟨rfl, rfl⟩)
  | cas _ _ _ => exact .inr (.inr ⟨rfl, rfl⟩)
theorem zwc : ∀ (k : Nat) (c : Co) (ns : List Tx), c.size = k → Good ns c → ns.length + c.size < 100000000 → OkP n_63 [dFs FL, dSs ns, dCo c] ⟨false, .bool false⟩ := by
  intro k
  induction k using Nat.strongRecOn with
  | ind k ih =>
    intro c ns hk h hl
    have hlen := zev c
    have hsz := za3 c
    have hb := zbs c.bs
    have hks := ze8 c.ks
    have ha := zc1 c.al
    refine zap (af := a_101) (n := c.size + 1) (σ' := σ0) (zar SSt 1) rfl rfl (by simp [zan, za5, zas, zgf]) rfl ?_
    have h1 := zny (S := SSt) rfl ns c.s (by omega) 0 σ0
    have h2 := zpv (S := SSt) rfl FL c.s (-1) (by decide) 0 σ0
    have h3 := zij (S := SSt) rfl c (by omega) 0 σ0
    have hg : ∀ i (hi : i < (zac c).length), T SSt 1 n_30 [dCo c, .int .i64 i] σ0 = some (.ret ⟨false, dSs (zaw c i)⟩, σ0) := fun i hi => zpw (S := SSt) rfl c i hi (by omega) 0 σ0
    have hbo : ∀ i (hi : i < (zac c).length), T SSt 1 n_2 [dSs ns, dSs (zaw c i)] σ0 = some (.ret ⟨false, dSs (ns ++ zaw c i)⟩, σ0) := fun i hi => zfb (S := SSt) rfl ns (zaw c i) (by have := zaib c i hi; omega) 0 σ0
    have hf : ∀ i (hi : i < c.al.length), T SSt 1 n_61 [dFs FL, .str c.al[i].1.name, .int .i64 c.al[i].1.vars.length] σ0 = some (.ret ⟨false, .bool (zd4 FL c.al[i].1.name c.al[i].1.vars.length)⟩, σ0) := fun i hi => zpv (S := SSt) rfl FL _ _ (by decide) 0 σ0
    have hrec : ∀ i (hi : i < (zac c).length), T SSt 1 n_63 [dFs FL, dSs (ns ++ zaw c i), dCo (zac c)[i]] σ0 = some (.ret ⟨false, .bool false⟩, σ0) := fun i hi => by
      have hlt := ze5 c _ (List.getElem_mem hi)
      have hgl : (zaw c i).length + (zac c)[i].size ≤ c.size := by
        unfold zaw
        split
        · rw [za0 _ _ _ (by simp; omega), List.getElem_map]
          have hm := zep c.al _ (List.getElem_mem (show i - (c.bs.length + c.ks.length) < c.al.length by omega))
          have he : (zac c)[i] = c.al[i - (c.bs.length + c.ks.length)].2 := by
            simp only [zac]
            rw [List.getElem_append_right (by simp; omega), List.getElem_map]
            congr 2
            simp
          rw [he]
          omega
        · rename_i hge
          have hm : (zac c)[i].size ≤ szB c.bs - c.bs.length + szK c.ks := by
            have hin : (zac c)[i] ∈ c.bs.map Prod.snd ++ c.ks := by
              simp only [zac]
              rw [List.getElem_append_left (by simp; omega)]
              exact List.getElem_mem _
            have hbl : ∀ (l : List (Tx × Co)) (x : Tx × Co), x ∈ l → x.2.size + l.length ≤ szB l := by
              intro l
              induction l with
              | nil => intro x hx; cases hx
              | cons y r ihl =>
                intro x hx
                obtain ⟨s, c'⟩ := y
                simp only [szB, List.length_cons]
                rcases List.mem_cons.1 hx with rfl | hx
                · have := zbs r; simp only; omega
                · have := ihl x hx; omega
            rcases List.mem_append.1 hin with h4 | h4
            · obtain ⟨p, hp, e⟩ := List.mem_map.1 h4
              have := hbl c.bs p hp
              rw [← e]
              omega
            · have := zgn c.ks _ h4
              omega
          simp
          omega
      exact zii (S := SSt) rfl rfl (ih _ (by omega) (zac c)[i] _ rfl (zmx h i hi) (by simp; omega)) 0 σ0
    have hl0 := za4 (body := exec (T SSt 1) (c.size + 1) none a_56) (Esa ns c) (fun _ => σ0) c.al.length (r := _) (fun _ _ h => by cases h) (fun i hi => zjpb ns c i hi (by omega) (zp4 h _ (List.getElem_mem hi)) (hf i hi)) (zlpb ns c) 0 (c.size + 1) (by omega) (by omega)
    have hl1 := za4 (body := exec (T SSt 1) (c.size + 1) none a_102) (Esb ns c) (fun _ => σ0) (zac c).length (r := _) (fun _ _ h => by cases h) (fun i hi => zjqb ns c i hi (by omega) (hg i hi) (hbo i hi) (hrec i hi)) (zlrb ns c) 0 (c.size + 1) (by omega) (by omega)
    simp only [Esa, bC, zeroI] at hl0
    simp only [Esb, bC, zeroI] at hl1
    simp only [zae c, zai] at h3
    rcases zdhb h with ⟨e1, e2⟩ | ⟨e1, e2⟩ | ⟨e1, e2⟩
    · rw [e2] at h1
      simp only [e1] at hl0 hl1 h3
      simp only [a_101, sA, Nat.reduceAdd, Nat.reduceSub, Nat.reduceMul, Nat.reduceBEq, Nat.reduceLeDiff, Int.reduceBEq, Int.reduceBNe, Int.reduceLE, Int.reduceLT, Int.reduceGE, Int.reduceGT, Int.reduceNeg, kn, zae c, zai, zbj, zbi, zbh, h1, h2, h3, e1, hl0, hl1]
    · rw [e2] at h2
      simp only [e1] at hl0 hl1 h3
      simp only [a_101, sA, Nat.reduceAdd, Nat.reduceSub, Nat.reduceMul, Nat.reduceBEq, Nat.reduceLeDiff, Int.reduceBEq, Int.reduceBNe, Int.reduceLE, Int.reduceLT, Int.reduceGE, Int.reduceGT, Int.reduceNeg, kn, zae c, zai, zbj, zbi, zbh, h1, h2, h3, e1, hl0, hl1]
    · simp only [a_101, sA, Nat.reduceAdd, Nat.reduceSub, Nat.reduceMul, Nat.reduceBEq, Nat.reduceLeDiff, Int.reduceBEq, Int.reduceBNe, Int.reduceLE, Int.reduceLT, Int.reduceGE, Int.reduceGT, Int.reduceNeg, kn, zae c, zai, zbj, zbi, zbh, h1, h2, h3, e1, e2, hl0, hl1]
end Go.Fu

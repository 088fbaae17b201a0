/-
  The code of strict places and of tails, where a case's code is known.
-/
import Derived.Test.YtldfbnbckiifeaaGreatDoorFgR
import Derived.Test.YtldfbnbckiifeaaGreatDoorFgOk
set_option maxHeartbeats 4000000
set_option linter.unusedSimpArgs false
set_option linter.unusedVariables false
set_option linter.unusedSectionVars false
namespace Go.Fu
open Go Go.Mx
set_option maxRecDepth 10000
def GC (B n : Nat) (is : List In) : Prop := (∀ i ∈ is, GI B i) ∧ is.length ≤ n
def OkI (B n : Nat) (f : FuncId) (ds : List D) : Prop := ∃ is, OkP f ds ⟨false, dIs is⟩ ∧ GC B n is
def spS (B : Nat) : List D → Cell → Prop := fun ds c => ∀ co env, ds = [dCo co, dSs env] → ∃ is, c = ⟨false, dIs is⟩ ∧ GC B (8 * co.size) is
def spT (B : Nat) : List D → Cell → Prop := fun ds c => ∀ co env, ds = [dCo co, dSs env] → ∃ is, c = ⟨false, dIs is⟩ ∧ GC B (8 * co.size + 3) is
def spC (B : Nat) : List D → Cell → Prop := fun ds c => ∀ co (i : Nat) env t, ds = [dCo co, .int .i64 i, dSs env, .bool t] → ∃ is, c = ⟨false, dIs is⟩ ∧ GC B (2 + 8 * szA (co.al.drop i)) is
theorem zkn {B : Nat} {S : Specs} (hS : aget S n_7 = some (spS B)) (a : Co) (env : List Tx) (hp : OkI B (8 * a.size) n_7 [dCo a, dSs env]) : ∃ is, GC B (8 * a.size) is ∧ ∀ n σ, T S (n + 1) n_7 [dCo a, dSs env] σ = some (.ret ⟨false, dIs is⟩, σ) := by
  obtain ⟨js, h1, h2⟩ := hp
  obtain ⟨c, h3, h4⟩ := T_orc (S := S) hS rfl (c := ⟨false, dIs js⟩) (fun a' b' e => by
    simp only [List.cons.injEq, and_true] at e
    obtain rfl := zcn e.1
    exact ⟨js, rfl, h2⟩) h1
  obtain ⟨is, rfl, h5⟩ := h3 a env rfl
  exact ⟨is, h5, h4⟩
theorem zcsb {B : Nat} {S : Specs} (hS : aget S n_10 = some (spT B)) (a : Co) (env : List Tx) (hp : OkI B (8 * a.size + 3) n_10 [dCo a, dSs env]) : ∃ is, GC B (8 * a.size + 3) is ∧ ∀ n σ, T S (n + 1) n_10 [dCo a, dSs env] σ = some (.ret ⟨false, dIs is⟩, σ) := by
  obtain ⟨js, h1, h2⟩ := hp
  obtain ⟨c, h3, h4⟩ := T_orc (S := S) hS rfl (c := ⟨false, dIs js⟩) (fun a' b' e => by
    simp only [List.cons.injEq, and_true] at e
    obtain rfl := zcn e.1
    exact ⟨js, rfl, h2⟩) h1
  obtain ⟨is, rfl, h5⟩ := h3 a env rfl
  exact ⟨is, h5, h4⟩
theorem zcqb {B : Nat} {S : Specs} (hS : aget S n_11 = some (spC B)) (a : Co) (i : Nat) (env : List Tx) (t : Bool) (hp : OkI B (2 + 8 * szA (a.al.drop i)) n_11 [dCo a, .int .i64 i, dSs env, .bool t]) :
    ∃ is, GC B (2 + 8 * szA (a.al.drop i)) is ∧ ∀ n σ, T S (n + 1) n_11 [dCo a, .int .i64 i, dSs env, .bool t] σ = some (.ret ⟨false, dIs is⟩, σ) := by
  obtain ⟨js, h1, h2⟩ := hp
  obtain ⟨c, h3, h4⟩ := T_orc (S := S) hS rfl (c := ⟨false, dIs js⟩) (fun a' i' b' t' e => by
    simp only [List.cons.injEq, D.int.injEq, D.bool.injEq, true_and, and_true] at e
    obtain rfl := zcn e.1
    obtain rfl : i = i' := by omega
    exact ⟨js, rfl, h2⟩) h1
  obtain ⟨is, rfl, h5⟩ := h3 a i env t rfl
  exact ⟨is, h5, h4⟩
def SSx (B : Nat) : Specs := [(n_5, sp_op), (n_4, zrx), (n_71, zv7), (n_72, zry), (n_15, zru), (n_39, zv5), (n_7, spS B), (n_10, spT B), (n_11, spC B)]
def sFAIL : Tx := [70, 65, 73, 76]
def sEVAL : Tx := [69, 86, 65, 76]
def sPOP : Tx := [80, 79, 80]
def zhe : Tx := [85, 78, 87, 73, 78, 68]
theorem zcd {B m n : Nat} {a b : List In} (ha : GC B m a) (hb : GC B n b) : GC B (m + n) (joinM a b) := ⟨zg2 ha.1 hb.1, by rw [zbc]; have := ha.2; have := hb.2; omega⟩
theorem gc_op {B : Nat} {s : Tx} {x : Int} (hs : s.length ≤ 6) (hx : Small x) : GC B 1 [op1 s x] := ⟨zgt (gi_op hs hx), by simp⟩
theorem gc_le {B m n : Nat} {a : List In} (h : GC B m a) (hmn : m ≤ n) : GC B n a := ⟨h.1, Nat.le_trans h.2 hmn⟩
theorem zemb (s : Tx) : (primM s).length ≤ 6 := by
  unfold primM
  cases s == [97, 100, 100] <;> cases s == [115, 117, 98] <;> cases s == [109, 117, 108] <;> cases s == [100, 105, 118] <;> cases s == [101, 113] <;> cases s == [108, 116] <;> simp [ifB]
theorem zrd {B : Nat} (c : Co) (z : Bool) (env : List Tx) (hf : Fl B z c) (hz : z = true ∨ (c.f = 1 ∨ c.f = 2 ∨ c.f = 3 ∨ c.f = 4)) (hl : env.length + c.size < 10000000) : OkP n_15 [dCo c, dSs env] ⟨false, dIs (lazM c env)⟩ := zcfb _ c z env rfl hf hz (by omega)
theorem zdwb {B : Nat} (c : Co) (env : List Tx) (hbs : ∀ p ∈ c.bs, Fl B true p.2) (hl : env.length + c.size < 10000000) : OkP n_39 [dCo c, dSs env] ⟨false, .tup [dIs (layM c env c.bs.length), dSs (env ++ nms c)]⟩ :=
  zuu c env hbs (by omega) fun i hi => zrd _ true _ (hbs _ (List.getElem_mem hi)) (.inl rfl) (by
    have := zpn c.bs _ (List.getElem_mem hi)
    have := za3 c
    simp [nms]
    omega)
theorem ze2b {B : Nat} (c : Co) (env : List Tx) (hf : Fl B false c) (hl : env.length + c.size < 10000000) (hk : ∀ x ∈ c.ks, ∀ e : List Tx, e.length + x.size < 10000000 → Fl B false x → OkI B (8 * x.size) n_7 [dCo x, dSs e]) (hc : c.f = 9 → OkI B (2 + 8 * szA (c.al.drop 0)) n_11 [dCo c, .int .i64 (0 : Nat), dSs env, .bool false]) :
    OkI B (8 * c.size) n_7 [dCo c, dSs env] := by
  have mk : ∀ {is : List In} {o : Bool}, finX Ra (fun _ _ _ => none) a_33 0 (exec (T (SSx B) 1) 1 none a_33.body (zbp [dCo c, dSs env]) σ0) = some (.ret ⟨o, dIs is⟩, σ0) → OkP n_7 [dCo c, dSs env] ⟨false, dIs is⟩ := fun {is o} hr =>
    OkP.weak (o := o) rfl (zap (af := a_33) (n := 1) (σ' := σ0) (zar (SSx B) 1) rfl rfl (by simp [zan, za5, zas]) (zdi _) hr)
  have hsz := za3 c
  have plain : (c.f = 1 ∨ c.f = 2 ∨ c.f = 3 ∨ c.f = 4) → OkI B (8 * c.size) n_7 [dCo c, dSs env] := fun hform => by
    have h1 := zf9 (S := SSx B) rfl c env (zrd c false env hf (.inr hform) hl) 0 σ0
    obtain ⟨g1, g2⟩ := zfh c false env hf (.inr hform) (by omega)
    have h2 := zcy (S := SSx B) rfl sEVAL 0 0 σ0
    have h3 := zb0 (S := SSx B) rfl (lazM c env) [op1 sEVAL 0] (by simp; omega) 0 σ0
    refine ⟨joinM (lazM c env) [op1 sEVAL 0], mk (o := false) ?_, gc_le (zcd ⟨g1, g2⟩ (gc_op (by decide) zS)) (by have := zch c; omega)⟩
    simp only [sEVAL] at h2 h3 ⊢
    simp only [zae, zai] at h1
    have e : (c.f == 8) = false ∧ (c.f == 10) = false ∧ (c.f == 11) = false ∧ (c.f == 9) = false := by rcases hform with h | h | h | h <;> rw [h] <;> exact ⟨rfl, rfl, rfl, rfl⟩
    simp only [a_33, sA, Nat.reduceAdd, Nat.reduceSub, Nat.reduceMul, Nat.reduceBEq, Nat.reduceLeDiff, Int.reduceBEq, Int.reduceBNe, Int.reduceLE, Int.reduceLT, Int.reduceGE, Int.reduceGT, Int.reduceNeg, kn, zae, zai, onel, e, h1, h2, h3]
  cases hf with
  | leaf h => exact plain (by rcases h with h | h | h <;> subst h <;> simp [co])
  | app => exact plain (by simp [co])
  | @fail n s =>
    have h2 := zcy (S := SSx B) rfl sFAIL 0 0 σ0
    refine ⟨[op1 sFAIL 0], mk (o := false) ?_, gc_le (gc_op (by decide) zS) (by have := zch (.mk 11 n s [] [] []); omega)⟩
    simp only [sFAIL] at h2 ⊢
    simp only [a_33, sA, Nat.reduceAdd, Nat.reduceSub, Nat.reduceMul, Nat.reduceBEq, Nat.reduceLeDiff, Int.reduceBEq, Int.reduceBNe, Int.reduceLE, Int.reduceLT, Int.reduceGE, Int.reduceGT, Int.reduceNeg, kn, zae, zai, co, onel, h2]
  | @lt _ s b bs _ _ hbs hb =>
    have hsa : (Co.mk 8 0 s [b] bs []).size = 1 + b.size + szB bs := by simp only [Co.size, szK, szA]; omega
    have hbl := zbs bs
    have hen : nms (.mk 8 0 s [b] bs []) = bs.map Prod.fst := rfl
    have h1 := zov (S := SSx B) rfl (.mk 8 0 s [b] bs []) env (zdwb _ env hbs (by omega)) 0 σ0
    rw [hen] at h1
    obtain ⟨is, gi, h2⟩ := zkn (S := SSx B) rfl b (env ++ bs.map Prod.fst) (hk b (by simp [co]) _ (by simp; omega) hb)
    have h2 := h2 0 σ0
    have g1 := zjv (B := B) (.mk 8 0 s [b] bs []) env hbs (by omega) bs.length (Nat.le_refl _)
    simp only [co, List.take_length] at g1
    have gil := gi.2
    have h3 := zb0 (S := SSx B) rfl (layM (.mk 8 0 s [b] bs []) env bs.length) is (by omega) 0 σ0
    have h4 := zcy (S := SSx B) rfl zda bs.length 0 σ0
    have h5 := zb0 (S := SSx B) rfl (joinM (layM (.mk 8 0 s [b] bs []) env bs.length) is) [op1 zda bs.length] (by rw [zbc]; simp; omega) 0 σ0
    have hx0 : za7 10 (dCs [b]) 0 = some (.eptr (dCo b)) := rfl
    refine ⟨joinM (joinM (layM (.mk 8 0 s [b] bs []) env bs.length) is) [op1 zda bs.length], mk (o := false) ?_, gc_le (zcd (zcd g1 gi) (gc_op (by decide) (zct (by omega)))) (by omega)⟩
    simp only [zda] at h4 h5 ⊢
    simp only [zae, zai, co] at h1 h2 hx0
    simp only [a_33, sA, Nat.reduceAdd, Nat.reduceSub, Nat.reduceMul, Nat.reduceBEq, Nat.reduceLeDiff, Int.reduceBEq, Int.reduceBNe, Int.reduceLE, Int.reduceLT, Int.reduceGE, Int.reduceGT, Int.reduceNeg, kn, zae, zai, co, onel, len_B, nat0, hx0, h1, h2, h3, h4, h5]
  | @prim s a b _ ha hb =>
    have hsa : (Co.mk 10 0 s [a, b] [] []).size = 1 + a.size + b.size := by simp only [Co.size, szK, szB, szA]; omega
    obtain ⟨is, gi, h1⟩ := zkn (S := SSx B) rfl a env (hk a (by simp [co]) _ (by omega) ha)
    have h1 := h1 0 σ0
    have h2 := zt6 (S := SSx B) rfl env (env.length + 1) (by omega) 0 σ0
    have hpl : (padM env (env.length + 1)).length = env.length + 1 := by simp [padM]
    obtain ⟨js, gj, h3⟩ := zkn (S := SSx B) rfl b (padM env (env.length + 1)) (hk b (by simp [co]) _ (by omega) hb)
    have h3 := h3 0 σ0
    have gil := gi.2
    have gjl := gj.2
    have h4 := zb0 (S := SSx B) rfl is js (by omega) 0 σ0
    have h5 := zsc (S := SSx B) rfl s 0 σ0
    have h6 := zcy (S := SSx B) rfl (primM s) 0 0 σ0
    have h7 := zb0 (S := SSx B) rfl (joinM is js) [op1 (primM s) 0] (by rw [zbc]; simp; omega) 0 σ0
    have w := zaj (i := env.length) (by omega)
    have hx1 : za7 10 (dCs [a, b]) 1 = some (.eptr (dCo b)) := rfl
    have hx0 : za7 10 (dCs [a, b]) 0 = some (.eptr (dCo a)) := rfl
    refine ⟨joinM (joinM is js) [op1 (primM s) 0], mk (o := false) ?_, gc_le (zcd (zcd gi gj) (gc_op (zemb s) zS)) (by omega)⟩
    simp only [zae, zai] at h1 h3 hx1 hx0
    simp only [a_33, sA, Nat.reduceAdd, Nat.reduceSub, Nat.reduceMul, Nat.reduceBEq, Nat.reduceLeDiff, Int.reduceBEq, Int.reduceBNe, Int.reduceLE, Int.reduceLT, Int.reduceGE, Int.reduceGT, Int.reduceNeg, kn, zae, zai, co, onel, nat0, len_S, w, hx1, hx0, zbk, h1, h2, h3, h4, h5, h6, h7]
  | @cas s x al _ _ hx hxs =>
    have hsa : (Co.mk 9 0 s [x] [] al).size = 1 + x.size + szA al := by simp only [Co.size, szK, szB]; omega
    obtain ⟨is, gi, h1⟩ := zkn (S := SSx B) rfl x env (hk x (by simp [co]) _ (by omega) hx)
    have h1 := h1 0 σ0
    obtain ⟨js, gj, h2⟩ := zcqb (S := SSx B) rfl (.mk 9 0 s [x] [] al) 0 env false (hc rfl)
    have h2 := h2 0 σ0
    have gil := gi.2
    have gjl := gj.2
    simp only [co, List.drop_zero] at gjl gj
    have h3 := zb0 (S := SSx B) rfl is js (by omega) 0 σ0
    have hx0 : za7 10 (dCs [x]) 0 = some (.eptr (dCo x)) := rfl
    refine ⟨joinM is js, mk (o := false) ?_, gc_le (zcd gi gj) (by omega)⟩
    simp only [zae, zai, co, zeroI] at h1 h2 hx0
    simp only [a_33, sA, Nat.reduceAdd, Nat.reduceSub, Nat.reduceMul, Nat.reduceBEq, Nat.reduceLeDiff, Int.reduceBEq, Int.reduceBNe, Int.reduceLE, Int.reduceLT, Int.reduceGE, Int.reduceGT, Int.reduceNeg, kn, zae, zai, co, onel, nat0, hx0, h1, h2, h3]
theorem zgkb {B : Nat} (c : Co) (env : List Tx) (hf : Fl B false c) (hform : c.f = 1 ∨ c.f = 2 ∨ c.f = 3 ∨ c.f = 4 ∨ c.f = 10) (hl : env.length + c.size < 10000000) (hs : OkI B (8 * c.size) n_7 [dCo c, dSs env]) : OkI B (8 * c.size) n_70 [dCo c, dSs env] := by
  have mk : ∀ {is : List In} {o : Bool}, finX Ra (fun _ _ _ => none) a_65 0 (exec (T (SSx B) 1) 1 none a_65.body (zbp [dCo c, dSs env]) σ0) = some (.ret ⟨o, dIs is⟩, σ0) → OkP n_70 [dCo c, dSs env] ⟨false, dIs is⟩ := fun {is o} hr =>
    OkP.weak (o := o) rfl (zap (af := a_65) (n := 1) (σ' := σ0) (zar (SSx B) 1) rfl rfl (by simp [zan, za5, zas]) (zdi _) hr)
  by_cases h10 : c.f = 10
  · obtain ⟨is, gi, h1⟩ := zkn (S := SSx B) rfl c env hs
    have h1 := h1 0 σ0
    refine ⟨is, mk (o := false) ?_, gi⟩
    simp only [zae, zai, h10] at h1
    simp only [a_65, sA, Nat.reduceAdd, Nat.reduceSub, Nat.reduceMul, Nat.reduceBEq, Nat.reduceLeDiff, Int.reduceBEq, Int.reduceBNe, Int.reduceLE, Int.reduceLT, Int.reduceGE, Int.reduceGT, Int.reduceNeg, kn, zae, zai, onel, h10, h1]
  · have hform : c.f = 1 ∨ c.f = 2 ∨ c.f = 3 ∨ c.f = 4 := by omega
    have h1 := zf9 (S := SSx B) rfl c env (zrd c false env hf (.inr hform) hl) 0 σ0
    obtain ⟨g1, g2⟩ := zfh c false env hf (.inr hform) (by omega)
    refine ⟨lazM c env, mk (o := false) ?_, gc_le ⟨g1, g2⟩ (by omega)⟩
    have e : (c.f == 10) = false := by simpa using h10
    simp only [zae, zai] at h1
    simp only [a_65, sA, Nat.reduceAdd, Nat.reduceSub, Nat.reduceMul, Nat.reduceBEq, Nat.reduceLeDiff, Int.reduceBEq, Int.reduceBNe, Int.reduceLE, Int.reduceLT, Int.reduceGE, Int.reduceGT, Int.reduceNeg, kn, zae, zai, onel, e, h1]
def spZ (B : Nat) : List D → Cell → Prop := fun ds c => ∀ co env, ds = [dCo co, dSs env] → ∃ is, c = ⟨false, dIs is⟩ ∧ GC B (8 * co.size) is
theorem zkeb {B : Nat} {S : Specs} (hS : aget S n_70 = some (spZ B)) (a : Co) (env : List Tx) (hp : OkI B (8 * a.size) n_70 [dCo a, dSs env]) : ∃ is, GC B (8 * a.size) is ∧ ∀ n σ, T S (n + 1) n_70 [dCo a, dSs env] σ = some (.ret ⟨false, dIs is⟩, σ) := by
  obtain ⟨js, h1, h2⟩ := hp
  obtain ⟨c, h3, h4⟩ := T_orc (S := S) hS rfl (c := ⟨false, dIs js⟩) (fun a' b' e => by
    simp only [List.cons.injEq, and_true] at e
    obtain rfl := zcn e.1
    exact ⟨js, rfl, h2⟩) h1
  obtain ⟨is, rfl, h5⟩ := h3 a env rfl
  exact ⟨is, h5, h4⟩
def SSy (B : Nat) : Specs := (n_70, spZ B) :: SSx B
theorem zjwb {B : Nat} (c : Co) (env : List Tx) (hf : Fl B false c) (hl : env.length + c.size < 10000000) (hs : OkI B (8 * c.size) n_7 [dCo c, dSs env]) (hk : ∀ x ∈ c.ks, ∀ e : List Tx, e.length + x.size < 10000000 → Fl B false x → OkI B (8 * x.size) n_7 [dCo x, dSs e] ∧ OkI B (8 * x.size + 3) n_10 [dCo x, dSs e])
    (hc : c.f = 9 → OkI B (2 + 8 * szA (c.al.drop 0)) n_11 [dCo c, .int .i64 (0 : Nat), dSs env, .bool true]) : OkI B (8 * c.size + 3) n_10 [dCo c, dSs env] := by
  have mk : ∀ {is : List In} {o : Bool}, finX Ra (fun _ _ _ => none) a_42 0 (exec (T (SSy B) 1) 1 none a_42.body (zbp [dCo c, dSs env]) σ0) = some (.ret ⟨o, dIs is⟩, σ0) → OkP n_10 [dCo c, dSs env] ⟨false, dIs is⟩ := fun {is o} hr =>
    OkP.weak (o := o) rfl (zap (af := a_42) (n := 1) (σ' := σ0) (zar (SSy B) 1) rfl rfl (by simp [zan, za5, zas]) (zdi _) hr)
  have hsz := za3 c
  have plain : (c.f = 1 ∨ c.f = 2 ∨ c.f = 3 ∨ c.f = 4 ∨ c.f = 10) → OkI B (8 * c.size + 3) n_10 [dCo c, dSs env] := fun hform => by
    obtain ⟨is, gi, h1⟩ := zkeb (S := SSy B) rfl c env (zgkb c env hf hform hl hs)
    have h1 := h1 0 σ0
    have gil := gi.2
    have h2 := zcy (S := SSy B) rfl zcs env.length 0 σ0
    have h3 := zb0 (S := SSy B) rfl is [op1 zcs env.length] (by simp; omega) 0 σ0
    have h4 := zcy (S := SSy B) rfl sPOP env.length 0 σ0
    have h5 := zb0 (S := SSy B) rfl (joinM is [op1 zcs env.length]) [op1 sPOP env.length] (by rw [zbc]; simp; omega) 0 σ0
    have h6 := zcy (S := SSy B) rfl zhe 0 0 σ0
    have h7 := zb0 (S := SSy B) rfl (joinM (joinM is [op1 zcs env.length]) [op1 sPOP env.length]) [op1 zhe 0] (by rw [zbc, zbc]; simp; omega) 0 σ0
    have hsm : Small (env.length : Int) := zct (by omega)
    refine ⟨joinM (joinM (joinM is [op1 zcs env.length]) [op1 sPOP env.length]) [op1 zhe 0], mk (o := false) ?_, gc_le (zcd (zcd (zcd gi (gc_op (by decide) hsm)) (gc_op (by decide) hsm)) (gc_op (by decide) zS)) (by omega)⟩
    have e : (c.f == 8) = false ∧ (c.f == 11) = false ∧ (c.f == 9) = false := by rcases hform with h | h | h | h | h <;> rw [h] <;> exact ⟨rfl, rfl, rfl⟩
    simp only [zcs, sPOP, zhe] at h2 h3 h4 h5 h6 h7 ⊢
    simp only [zae, zai] at h1
    simp only [a_42, sA, Nat.reduceAdd, Nat.reduceSub, Nat.reduceMul, Nat.reduceBEq, Nat.reduceLeDiff, Int.reduceBEq, Int.reduceBNe, Int.reduceLE, Int.reduceLT, Int.reduceGE, Int.reduceGT, Int.reduceNeg, kn, zae, zai, onel, e, len_S, h1, h2, h3, h4, h5, h6, h7]
  cases hf with
  | leaf h => exact plain (by rcases h with h | h | h <;> subst h <;> simp [co])
  | app => exact plain (by simp [co])
  | prim => exact plain (by simp [co])
  | @fail n s =>
    have h2 := zcy (S := SSy B) rfl sFAIL 0 0 σ0
    refine ⟨[op1 sFAIL 0], mk (o := false) ?_, gc_le (gc_op (by decide) zS) (by omega)⟩
    simp only [sFAIL] at h2 ⊢
    simp only [a_42, sA, Nat.reduceAdd, Nat.reduceSub, Nat.reduceMul, Nat.reduceBEq, Nat.reduceLeDiff, Int.reduceBEq, Int.reduceBNe, Int.reduceLE, Int.reduceLT, Int.reduceGE, Int.reduceGT, Int.reduceNeg, kn, zae, zai, co, onel, h2]
  | @lt _ s b bs _ _ hbs hb =>
    have hsa : (Co.mk 8 0 s [b] bs []).size = 1 + b.size + szB bs := by simp only [Co.size, szK, szA]; omega
    have hbl := zbs bs
    have hen : nms (.mk 8 0 s [b] bs []) = bs.map Prod.fst := rfl
    have h1 := zov (S := SSy B) rfl (.mk 8 0 s [b] bs []) env (zdwb _ env hbs (by omega)) 0 σ0
    rw [hen] at h1
    obtain ⟨is, gi, h2⟩ := zcsb (S := SSy B) rfl b (env ++ bs.map Prod.fst) (hk b (by simp [co]) _ (by simp; omega) hb).2
    have h2 := h2 0 σ0
    have g1 := zjv (B := B) (.mk 8 0 s [b] bs []) env hbs (by omega) bs.length (Nat.le_refl _)
    simp only [co, List.take_length] at g1
    have gil := gi.2
    have h3 := zb0 (S := SSy B) rfl (layM (.mk 8 0 s [b] bs []) env bs.length) is (by omega) 0 σ0
    have hx0 : za7 10 (dCs [b]) 0 = some (.eptr (dCo b)) := rfl
    refine ⟨joinM (layM (.mk 8 0 s [b] bs []) env bs.length) is, mk (o := false) ?_, gc_le (zcd g1 gi) (by omega)⟩
    simp only [zae, zai, co] at h1 h2 hx0
    simp only [a_42, sA, Nat.reduceAdd, Nat.reduceSub, Nat.reduceMul, Nat.reduceBEq, Nat.reduceLeDiff, Int.reduceBEq, Int.reduceBNe, Int.reduceLE, Int.reduceLT, Int.reduceGE, Int.reduceGT, Int.reduceNeg, kn, zae, zai, co, onel, len_B, nat0, hx0, h1, h2, h3]
  | @cas s x al _ _ hx hxs =>
    have hsa : (Co.mk 9 0 s [x] [] al).size = 1 + x.size + szA al := by simp only [Co.size, szK, szB]; omega
    obtain ⟨is, gi, h1⟩ := zkn (S := SSy B) rfl x env (hk x (by simp [co]) _ (by omega) hx).1
    have h1 := h1 0 σ0
    obtain ⟨js, gj, h2⟩ := zcqb (S := SSy B) rfl (.mk 9 0 s [x] [] al) 0 env true (hc rfl)
    have h2 := h2 0 σ0
    have gil := gi.2
    have gjl := gj.2
    simp only [co, List.drop_zero] at gjl gj
    have h3 := zb0 (S := SSy B) rfl is js (by omega) 0 σ0
    have hx0 : za7 10 (dCs [x]) 0 = some (.eptr (dCo x)) := rfl
    refine ⟨joinM is js, mk (o := false) ?_, gc_le (zcd gi gj) (by omega)⟩
    simp only [zae, zai, co, zeroI] at h1 h2 hx0
    simp only [a_42, sA, Nat.reduceAdd, Nat.reduceSub, Nat.reduceMul, Nat.reduceBEq, Nat.reduceLeDiff, Int.reduceBEq, Int.reduceBNe, Int.reduceLE, Int.reduceLT, Int.reduceGE, Int.reduceGT, Int.reduceNeg, kn, zae, zai, co, onel, nat0, hx0, h1, h2, h3]
end Go.Fu
namespace Go.Fu
open Go Go.Mx
set_option maxRecDepth 10000
def sTEST : Tx := [84, 69, 83, 84]
def znn : Tx := [84, 69, 83, 84, 73]
def zk2 : Tx := [83, 80, 76, 73, 84]
def altM (a : Hd × Co) (env : List Tx) : List In × List Tx :=
  ifB (a.1.form == 1) ([⟨sTEST, 0, 0, a.1.name⟩, op1 zk2 a.1.vars.length], env ++ a.1.vars.reverse) (ifB (a.1.form == 2) ([⟨znn, 0, a.1.num, []⟩, op1 sPOP 1], env) ([op1 sPOP 1], env))
theorem zu3 (a : Hd × Co) : noPtr (dA a) = true := by
  have h : dAs [a] = [dA a] := by rw [zkp]; rfl
  have h1 := zm7 [a]
  rw [h] at h1
  simpa [zan] using h1
theorem zkkb {a b : Hd × Co} (h : dA a = dA b) : a = b := by
  have h1 : dAs [a] = dAs [b] := by rw [zkp, zkp]; simp only [List.map_cons, List.map_nil, h]
  have := zq6 h1
  simpa using this
def SAl : Specs := [(n_5, sp_op), (n_59, zrv), (n_2, zhg)]
theorem zfmb (a : Hd × Co) (env : List Tx) (hl : env.length + a.1.vars.length < 100000000) : OkP n_105 [dA a, dSs env] ⟨false, .tup [dIs (altM a env).1, dSs (altM a env).2]⟩ := by
  have mk : ∀ {σ'}, finX Ra (fun _ _ _ => none) a_51 0 (exec (T SAl 1) 1 none a_51.body (zbp [dA a, dSs env]) σ0) = some (.ret ⟨false, .tup [dIs (altM a env).1, dSs (altM a env).2]⟩, σ') → OkP n_105 [dA a, dSs env] ⟨false, .tup [dIs (altM a env).1, dSs (altM a env).2]⟩ := fun {σ'} hr =>
    zap (af := a_51) (n := 1) (σ' := σ') (zar SAl 1) rfl rfl (by simp [zan, zu3, zas]) (by simp [noPtr, zan, zdi, zas]) hr
  have hp := partA a
  have h1 := zcy (S := SAl) rfl zk2 a.1.vars.length 0 σ0
  have h2 := zd0 (S := SAl) rfl a.1.vars (by omega) 0 σ0
  have h3 := zfb (S := SAl) rfl env a.1.vars.reverse (by simp; omega) 0 σ0
  have h4 := zcy (S := SAl) rfl sPOP 1 0 σ0
  have hap : ∀ (x y : In), za1 k_0 48 ⟨true, dIs [x]⟩ [dI y] = some ⟨true, dIs [x, y]⟩ := fun x y => appI1 [x] y true (fun _ => rfl) (by simp)
  have ha1 := hap ⟨sTEST, 0, 0, a.1.name⟩ (op1 zk2 a.1.vars.length)
  have ha2 := hap ⟨znn, 0, a.1.num, []⟩ (op1 sPOP 1)
  simp only [zk2, sPOP] at h1 h4
  refine mk (σ' := σ0) ?_
  unfold altM
  cases e1 : a.1.form == 1 with
  | true =>
    simp only [zad]
    simp only [dIs, List.map_cons, List.map_nil, dlist, dI, sTEST, zk2] at h1 ha1 ⊢
    simp only [a_51, sA, Nat.reduceAdd, Nat.reduceSub, Nat.reduceMul, Nat.reduceBEq, Nat.reduceLeDiff, Int.reduceBEq, Int.reduceBNe, Int.reduceLE, Int.reduceLT, Int.reduceGE, Int.reduceGT, Int.reduceNeg, kn, dA_eq, zai, onel, e1, len_S, h1, h2, h3, ha1]
  | false =>
    cases e2 : a.1.form == 2 with
    | true =>
      simp only [zad, zaf]
      simp only [dIs, List.map_cons, List.map_nil, dlist, dI, znn, sPOP] at h4 ha2 ⊢
      simp only [a_51, sA, Nat.reduceAdd, Nat.reduceSub, Nat.reduceMul, Nat.reduceBEq, Nat.reduceLeDiff, Int.reduceBEq, Int.reduceBNe, Int.reduceLE, Int.reduceLT, Int.reduceGE, Int.reduceGT, Int.reduceNeg, kn, dA_eq, zai, onel, e1, e2, len_S, h4, ha2]
    | false =>
      simp only [zaf]
      simp only [sPOP] at h4 ⊢
      simp only [a_51, sA, Nat.reduceAdd, Nat.reduceSub, Nat.reduceMul, Nat.reduceBEq, Nat.reduceLeDiff, Int.reduceBEq, Int.reduceBNe, Int.reduceLE, Int.reduceLT, Int.reduceGE, Int.reduceGT, Int.reduceNeg, kn, dA_eq, zai, onel, e1, e2, len_S, h4]
def zewb : List D → Cell → Prop := fun ds c => ∀ a env, ds = [dA a, dSs env] → c = ⟨false, .tup [dIs (altM a env).1, dSs (altM a env).2]⟩
theorem znw (a : Hd × Co) (env : List Tx) : (altM a env).1 ≠ [] := by
  unfold altM
  cases a.1.form == 1 <;> cases a.1.form == 2 <;> simp [ifB]
theorem zt2 (a : Hd × Co) (env : List Tx) : (altM a env).2.length ≤ env.length + a.1.vars.length := by
  unfold altM
  cases a.1.form == 1 <;> cases a.1.form == 2 <;> simp [ifB]
theorem oneS : Small 1 := ⟨by decide, by decide⟩
theorem zcjb {B : Nat} (a : Hd × Co) (env : List Tx) (hn : Small a.1.num) (hB : a.1.name.length ≤ B) (hl : a.1.vars.length < 100000000) : GC B 2 (altM a env).1 := by
  unfold altM
  have g1 : GI B (op1 sPOP 1) := gi_op (by decide) oneS
  have g2 : GI B (op1 zk2 a.1.vars.length) := gi_op (by decide) (zct (by omega))
  have g3 : GI B ⟨sTEST, 0, 0, a.1.name⟩ := ⟨by simp [sTEST], zS, zS, hB⟩
  have g4 : GI B ⟨znn, 0, a.1.num, []⟩ := ⟨by simp [znn], zS, hn, by simp⟩
  cases a.1.form == 1 <;> cases a.1.form == 2 <;> simp only [zad, zaf] <;> refine ⟨?_, by simp⟩ <;> simp [g1, g2, g3, g4]
end Go.Fu
namespace Go.Fu
open Go Go.Mx
def zcp : ACode := (.seq (sq [ mt 10 6, mt 11 1, mo 12 (.len (.tmp 11)), mo 13 (.bin .lss (.tmp 10) (.tmp 12))] [10, 11, 12] (.cond (.tmp 13) .skip (.exit 0))) (.seq (.block 1 (sq [ mt 16 1, mt 17 6, mo 18 (.indexAddr 4 (.tmp 16) (.tmp 17)), mo 19 (.load (some 4) false (.tmp 18)),
 mo 7 (.alloc [.str [], .int .i64 0, .int .i64 0, .str []]), ⟨none, .store 4 (.tmp 7) (.mv 19), none⟩] [13, 16, 17, 18, 19] (.seq (sq [ mf 20 0 7, ml 21 20, mo 22 (.bin .eql (.tmp 21) (.const (.str [84, 69, 83, 84]))), mw 23 22, ⟨some 24, .fieldAddr 0 none (.tmp 7), (some (23, false))⟩,
 ⟨some 25, .load none false (.tmp 24), (some (23, false))⟩, ⟨some 26, .bin .eql (.tmp 25) (.const (.str [84, 69, 83, 84, 73])), (some (23, false))⟩, mo 27 (.pick (.tmp 23) (.const (.bool true)) (.tmp 26)), mw 28 27, ⟨some 29, .fieldAddr 0 none (.tmp 7), (some (28, false))⟩,
 ⟨some 30, .load none false (.tmp 29), (some (28, false))⟩, ⟨some 31, .bin .eql (.tmp 30) (.const (.str [74, 85, 77, 80])), (some (28, false))⟩, mo 32 (.pick (.tmp 28) (.const (.bool true)) (.tmp 31))] [20, 21, 22, 23, 24, 25, 26, 27, 28, 29, 30, 31] (.cond (.tmp 32) (rg [ mf 33 1 7, ml 34 33,
 mt 35 0, mo 36 (.len (.tmp 35)), mo 37 (.bin .add (.tmp 34) (.tmp 36)), mf 38 1 7, ⟨none, .store 1 (.tmp 38) (.mv 37), none⟩] [32, 33, 34, 35, 36, 37, 38]) .skip)) (rg [ mw 39 5, mo 40 (.load (some 4) false (.tmp 7)), mo 41 (.buildSlice k_0 [.tmp 40]),
 mo 42 (.appendA k_0 48 (.mv 39) (.tmp 41)), mw 5 42] [7, 32, 39, 40, 41, 42])))) (rg [ mt 14 6, mo 15 (.bin .add (.tmp 14) (ci 1)), mw 6 15] [14, 15])))
def zgq : AFun := { nargs := 2, ntmps := 44, res := [.tmp 4], gc := false, body := (sq [ mo 4 (.mov (.const .nils))] [4] (sq [ mt 8 0, mo 9 (.appendA k_0 48 (.const .nils) (.tmp 8)), mw 5 9] [8, 9] (.seq (sq [ mo 6 (.mov (ci 0))] [] (.block 0 (.loop zcp))) (sq [ mw 43 5,
 mw 4 43] [0, 1, 5, 6, 13, 43] .ret)))) }
def zci : AFun := { nargs := 4, ntmps := 92, res := [.tmp 8], gc := false, body := (sq [ mo 4 (.box (.tmp 0)), mo 8 (.mov (.const .nils))] [0, 8] (.seq (sq [ mt 13 1, mf 14 9 4, ml 15 14, mo 16 (.len (.tmp 15)), mo 17 (.bin .geq (.tmp 13) (.tmp 16))] [13, 14, 15, 16] (.cond (.tmp 17) (.seq
 (sq [ mt 18 3] [1, 2, 3, 4, 17] (.cond (.tmp 18) (sq [ mo 19 (.call n_5 [(.const (.str [70, 65, 73, 76])), (ci 0)]), mw 8 19] [18, 19] .ret) .skip)) (sq [ mo 20 (.call n_5 [(.const (.str [80, 79, 80])), (ci 1)]), mo 21 (.call n_5 [(.const (.str [70, 65, 73, 76])), (ci 0)]),
 mo 22 (.append k_0 48 (.mv 20) (.tmp 21)), mw 8 22] [18, 20, 21, 22] .ret)) .skip)) (sq [ mf 23 9 4, ml 24 23, mt 25 1, mo 26 (.indexAddr 14 (.tmp 24) (.tmp 25)), mo 27 (.load (some 14) false (.tmp 26)),
 mo 9 (.alloc [.int .i64 0, .int .i64 0, .str [], .nils, .int .i64 0, .int .i64 0, .str [], .int .i64 0, .int .i64 0, .str [], .nils, .nils, .nils, .nils]), ⟨none, .store 14 (.tmp 9) (.mv 27), none⟩] [17, 23, 24, 25, 26, 27] (sq [ mo 29 (.load (some 14) false (.tmp 9)), mt 30 2,
 mo 31 (.call n_105 [.tmp 29, .tmp 30]), mw 28 31, mo 32 (.extract (.tmp 28) 0), mo 33 (.extract (.tmp 28) 1), mw 10 32, mw 11 33] [28, 29, 30, 31, 32, 33] (.seq (sq [ mt 34 3] [] (.cond (.tmp 34) (rg [ mt 35 10, mo 36 (.fieldAddr 4 (some 10) (.tmp 9)), mo 37 (.load (some 10) false (.tmp 36)),
 mt 38 11, mo 39 (.call n_10 [.tmp 37, .tmp 38]), mo 40 (.call n_4 [.tmp 35, .tmp 39]), mw 10 40] [11, 34, 35, 36, 37, 38, 39, 40]) (rg [ mt 41 10, mo 42 (.fieldAddr 4 (some 10) (.tmp 9)), mo 43 (.load (some 10) false (.tmp 42)), mt 44 11, mo 45 (.call n_7 [.tmp 43, .tmp 44]),
 mo 46 (.call n_4 [.tmp 41, .tmp 45]), mw 10 46] [11, 34, 41, 42, 43, 44, 45, 46]))) (.seq (sq [ mt 47 3, mo 48 (.un .not (.tmp 47)), mw 49 48, ⟨some 50, .fieldAddr 0 none (.tmp 9), (some (49, true))⟩, ⟨some 51, .load none false (.tmp 50), (some (49, true))⟩,
 ⟨some 52, .bin .eql (.tmp 51) (ci 1), (some (49, true))⟩, mo 53 (.pick (.tmp 49) (.tmp 52) (.const (.bool false)))] [47, 48, 49, 50, 51, 52] (.cond (.tmp 53) (rg [ mt 54 10, mf 55 3 9, ml 56 55, mo 57 (.len (.tmp 56)), mo 58 (.call n_5 [(.const (.str [83, 76, 73, 68, 69])), .tmp 57]),
 mo 59 (.call n_4 [.tmp 54, .tmp 58]), mw 10 59] [53, 54, 55, 56, 57, 58, 59]) .skip)) (sq [ mo 12 (.mov (.const .nils))] [53] (.seq (sq [ mf 60 0 9, ml 61 60, mo 62 (.bin .neq (.tmp 61) (ci 3))] [60, 61] (.cond (.tmp 62) (rg [ mo 63 (.load (some 10) false (.tmp 4)), mt 64 1,
 mo 65 (.bin .add (.tmp 64) (ci 1)), mt 66 2, mt 67 3, mo 68 (.call n_11 [.tmp 63, .tmp 65, .tmp 66, .tmp 67]), mw 12 68] [1, 2, 4, 62, 63, 64, 65, 66, 67, 68]) .skip)) (.seq (sq [ mt 69 3, mo 70 (.un .not (.tmp 69))] [1, 2, 3, 4, 62, 69] (.cond (.tmp 70) (rg [ mw 71 10, mt 72 10,
 mo 73 (.len (.tmp 72)), mo 74 (.bin .add (.tmp 73) (ci 1)), mt 75 12, mo 76 (.len (.tmp 75)), mo 77 (.bin .add (.tmp 74) (.tmp 76)), mo 78 (.build [.str [], .int .i64 0, .int .i64 0, .str []] [(0, 1, (.const (.str [74, 85, 77, 80]))), (1, 1, (.tmp 77))]), mo 79 (.buildSlice k_0 [.tmp 78]),
 mo 80 (.appendA k_0 48 (.mv 71) (.tmp 79)), mw 10 80] [70, 71, 72, 73, 74, 75, 76, 77, 78, 79, 80]) .skip)) (.seq (sq [ mf 81 0 9, ml 82 81, mo 83 (.bin .neq (.tmp 82) (ci 3))] [9, 70, 81, 82] (.cond (.tmp 83) (rg [ mt 84 10, mt 85 10, mo 86 (.len (.tmp 85)),
 mo 87 (.indexAddr 4 (.tmp 84) (ci 0)), mf 88 1 87, ⟨none, .store 1 (.tmp 88) (.mv 86), none⟩] [83, 84, 85, 86, 87, 88]) .skip)) (sq [ mw 89 10, mw 90 12, mo 91 (.call n_4 [.tmp 89, .tmp 90]), mw 8 91] [10, 12, 83, 89, 90, 91] (.frz [.slot 8] .ret)))))))))))) }
def zbv : AFun := { nargs := 4, ntmps := 96, res := [.tmp 8], gc := false, body := (sq [ mo 8 (.mov (.const .nils))] [8] (sq [ mt 12 0, mo 13 (.appendA k_3 48 (.const .nils) (.tmp 12)), mw 9 13] [12, 13] (.seq (sq [ mt 14 1, mo 15 (.bin .lss (.tmp 14) (ci 0)), mw 16 15,
 ⟨some 17, .mov (.tmp 1), (some (16, false))⟩, ⟨some 18, .mov (.tmp 0), (some (16, false))⟩, ⟨some 19, .len (.tmp 18), (some (16, false))⟩, ⟨some 20, .bin .geq (.tmp 17) (.tmp 19), (some (16, false))⟩, mo 21 (.pick (.tmp 16) (.const (.bool true)) (.tmp 20)), mw 22 21,
 ⟨some 23, .mov (.tmp 2), (some (22, false))⟩, ⟨some 24, .bin .lss (.tmp 23) (ci 0), (some (22, false))⟩, mo 25 (.pick (.tmp 22) (.const (.bool true)) (.tmp 24)), mw 26 25, ⟨some 27, .mov (.tmp 2), (some (26, false))⟩, ⟨some 28, .mov (.tmp 0), (some (26, false))⟩,
 ⟨some 29, .mov (.tmp 1), (some (26, false))⟩, ⟨some 30, .indexAddr 3 (.tmp 28) (.tmp 29), (some (26, false))⟩, ⟨some 31, .fieldAddr 2 none (.tmp 30), (some (26, false))⟩, ⟨some 32, .load none false (.tmp 31), (some (26, false))⟩, ⟨some 33, .len (.tmp 32), (some (26, false))⟩,
 ⟨some 34, .bin .geq (.tmp 27) (.tmp 33), (some (26, false))⟩, mo 35 (.pick (.tmp 26) (.const (.bool true)) (.tmp 34))] [14, 15, 16, 17, 18, 19, 20, 21, 22, 23, 24, 25, 26, 27, 28, 29, 30, 31, 32, 33, 34] (.cond (.tmp 35) (sq [ mw 36 9, mw 8 36] [0, 1, 2, 3, 9, 35, 36] (.frz [.slot 8] .ret)) .skip))
 (sq [ mt 37 0, mt 38 1, mo 39 (.indexAddr 3 (.tmp 37) (.tmp 38)), mo 40 (.load (some 3) false (.tmp 39)), mo 10 (.alloc [.str [], .int .i64 0, .nils]), ⟨none, .store 3 (.tmp 10) (.mv 40), none⟩] [0, 35, 37, 38, 39, 40] (sq [ mf 41 2 10, ml 42 41,
 mo 43 (.appendA k_0 48 (.const .nils) (.tmp 42)), mf 44 2 10, ⟨none, .store 1 (.tmp 44) (.mv 43), none⟩] [41, 42, 43, 44] (sq [ mf 45 2 10, ml 46 45, mt 47 2, mo 48 (.indexAddr 4 (.tmp 46) (.tmp 47)), mo 49 (.load (some 4) false (.tmp 48)),
 mo 11 (.alloc [.str [], .int .i64 0, .int .i64 0, .str []]), ⟨none, .store 4 (.tmp 11) (.mv 49), none⟩] [45, 46, 47, 48, 49] (.seq (sq [ mt 50 3] [3] (.block 0 (sq [ mo 52 (.bin .eql (.tmp 50) (ci 0)), mw 51 52] [52] (.cond (.tmp 51) (rg [ mf 53 1 11, ml 54 53, mo 55 (.bin .add (.tmp 54) (ci 1)),
 mf 56 1 11, ⟨none, .store 1 (.tmp 56) (.mv 55), none⟩] [50, 51, 53, 54, 55, 56]) (sq [ mo 58 (.bin .eql (.tmp 50) (ci 1)), mw 57 58] [51, 58] (.cond (.tmp 57) (rg [ mf 59 1 11, ml 60 59, mo 61 (.bin .sub (.tmp 60) (ci 1)), mf 62 1 11,
 ⟨none, .store 1 (.tmp 62) (.mv 61), none⟩] [50, 57, 59, 60, 61, 62]) (sq [ mo 64 (.bin .eql (.tmp 50) (ci 2)), mw 63 64] [57, 64] (.cond (.tmp 63) (rg [ mf 65 0 11, ⟨none, .store 1 (.tmp 65) (.const (.str [80, 79, 80])), none⟩] [50, 63, 65]) (sq [ mo 67 (.bin .eql (.tmp 50) (ci 3)),
 mw 66 67] [63, 67] (.cond (.tmp 66) (rg [ mf 68 0 11, ⟨none, .store 1 (.tmp 68) (.const (.str [69, 86, 65, 76])), none⟩] [50, 66, 68]) (sq [ mo 70 (.bin .eql (.tmp 50) (ci 4)), mw 69 70] [66, 70] (.cond (.tmp 69) (rg [ mf 71 3 11,
 ⟨none, .store 1 (.tmp 71) (.const (.str [110, 111, 110, 101])), none⟩] [50, 69, 71]) (sq [ mo 73 (.bin .eql (.tmp 50) (ci 5)), mw 72 73] [69, 73] (.cond (.tmp 72) (rg [ mt 74 2, mo 75 (.bin .add (.tmp 74) (ci 2)),
 mo 76 (.build [.str [], .int .i64 0, .int .i64 0, .str []] [(0, 1, (.const (.str [74, 85, 77, 80]))), (1, 1, (.tmp 75))]), ⟨none, .store 4 (.tmp 11) (.mv 76), none⟩] [50, 72, 74, 75, 76]) (sq [ mo 78 (.bin .eql (.tmp 50) (ci 6)), mw 77 78] [72, 78] (.cond (.tmp 77) (rg [ mf 79 1 10, ml 80 79,
 mo 81 (.bin .add (.tmp 80) (ci 1)), mf 82 1 10, ⟨none, .store 1 (.tmp 82) (.mv 81), none⟩] [50, 77, 79, 80, 81, 82]) (sq [ mo 84 (.bin .eql (.tmp 50) (ci 7)), mw 83 84] [50, 77, 84] (.cond (.tmp 83) (rg [ mf 85 0 11,
 ⟨none, .store 1 (.tmp 85) (.const (.str [85, 78, 87, 73, 78, 68])), none⟩] [83, 85]) .skip)))))))))))))))))) (sq [ mf 86 2 10, ml 87 86, mt 88 2, mo 89 (.load (some 4) false (.tmp 11)), mo 90 (.indexAddr 4 (.tmp 87) (.tmp 88)),
 ⟨none, .store 4 (.tmp 90) (.mv 89), none⟩] [2, 11, 83, 86, 87, 88, 89, 90] (sq [ mt 91 9, mt 92 1, mo 93 (.load (some 3) false (.tmp 10)), mo 94 (.indexAddr 3 (.tmp 91) (.tmp 92)), ⟨none, .store 3 (.tmp 94) (.mv 93), none⟩] [1, 10, 91, 92, 93, 94] (sq [ mw 95 9, mw 8 95] [9, 95]
 (.frz [.slot 8] .ret))))))))))) }
theorem zvj : okFun Go.Proofs.Tryz.prog Go.Proofs.Tryz.f59 zgq = true := by kernel_rfl
theorem ztn : okFun Go.Proofs.Tryz.prog Go.Proofs.Tryz.f62 zci = true := by kernel_rfl
theorem zvi : okFun Go.Proofs.Tryz.prog Go.Proofs.Tryz.f12 zbv = true := by kernel_rfl
end Go.Fu

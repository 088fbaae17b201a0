/-
  The code of lazy places, as a function.
-/
import Derived.Test.YtldfbnbckiifeaaGreatDoorFgP
set_option maxHeartbeats 4000000
set_option linter.unusedSimpArgs false
set_option linter.unusedVariables false
set_option linter.unusedSectionVars false
namespace Go.Fu
open Go Go.Mx
set_option maxRecDepth 10000
def znm : Tx := [80, 85, 83, 72, 73]
def zh0 : Tx := [80, 85, 83, 72, 71]
def znl : Tx := [80, 85, 83, 72, 65]
def sMKAP : Tx := [77, 75, 65, 80]
def zda : Tx := [83, 76, 73, 68, 69]
def zqs : Tx := [65, 76, 76, 79, 67]
def zcs : Tx := [85, 80, 68, 65, 84, 69]
def kid (c : Co) (i : Nat) : Co := c.ks.getD i c0
def nms (c : Co) : List Tx := c.bs.map Prod.fst
def wsub (a b : Int) : Int := IntKind.i64.wrap (IntKind.i64.wrap (a - 1) - b)
def layW (L : Co → List Tx → List In) (c : Co) (env : List Tx) (i : Nat) : List In := (List.range i).foldl (fun out i => joinM (joinM out (L (c.bs.getD i ([], c0)).2 (env ++ nms c))) [op1 zcs (wsub c.bs.length i)]) [op1 zqs c.bs.length]
def lazyM : Nat → Co → List Tx → List In
  | 0, _, _ => []
  | k + 1, c, env => ifB (c.f == 3) [op1 znm c.n] (ifB (c.f == 2) [⟨zh0, 0, 0, c.s⟩] (ifB (c.f == 1) (ifB (decide (lieM env c.s < 0)) [⟨zh0, 0, 0, c.s⟩] [op1 znl (wsub env.length (lieM env c.s))])
      (ifB (c.f == 4) (joinM (joinM (lazyM k (kid c 1) env) (lazyM k (kid c 0) (padM env (env.length + 1)))) [op1 sMKAP 0])
        (joinM (joinM (layW (lazyM k) c env c.bs.length) (lazyM k (kid c 0) (env ++ nms c))) [op1 zda c.bs.length]))))
def lazM (c : Co) (env : List Tx) : List In := lazyM c.size c env
def layM (c : Co) (env : List Tx) (i : Nat) : List In := layW lazM c env i
theorem zfqb (c : Co) (i : Nat) (h : i < c.bs.length) : (c.bs.getD i ([], c0)).2.size < c.size := by
  rw [za0 _ _ _ h]
  have := zfu c.bs _ (List.getElem_mem h)
  have := za3 c
  omega
theorem zjw (L : Co → List Tx → List In) (c : Co) (env : List Tx) (i : Nat) : layW L c env (i + 1) = joinM (joinM (layW L c env i) (L (c.bs.getD i ([], c0)).2 (env ++ nms c))) [op1 zcs (wsub c.bs.length i)] := by
  rw [layW, List.range_succ, List.foldl_append]
  rfl
theorem zlo {L L' : Co → List Tx → List In} (c : Co) (env : List Tx) (h : ∀ i, i < c.bs.length → ∀ e, L (c.bs.getD i ([], c0)).2 e = L' (c.bs.getD i ([], c0)).2 e) : ∀ i, i ≤ c.bs.length → layW L c env i = layW L' c env i
  | 0, _ => rfl
  | i + 1, hi => by rw [zjw, zjw, zlo c env h i (by omega), h i (by omega)]
theorem zjz (k : Nat) (n : Int) (s : Tx) (env : List Tx) : lazyM (k + 1) (.mk 3 n s [] [] []) env = [op1 znm n] := rfl
theorem zjy (k : Nat) (n : Int) (s : Tx) (env : List Tx) : lazyM (k + 1) (.mk 2 n s [] [] []) env = [⟨zh0, 0, 0, s⟩] := rfl
theorem zj0 (k : Nat) (n : Int) (s : Tx) (env : List Tx) : lazyM (k + 1) (.mk 1 n s [] [] []) env = ifB (decide (lieM env s < 0)) [⟨zh0, 0, 0, s⟩] [op1 znl (wsub env.length (lieM env s))] := rfl
theorem zjx (k : Nat) (s : Tx) (a b : Co) (env : List Tx) : lazyM (k + 1) (.mk 4 0 s [a, b] [] []) env = joinM (joinM (lazyM k b env) (lazyM k a (padM env (env.length + 1)))) [op1 sMKAP 0] := rfl
theorem zlp (k : Nat) (s : Tx) (b : Co) (bs : List (Tx × Co)) (env : List Tx) : lazyM (k + 1) (.mk 8 0 s [b] bs []) env = joinM (joinM (layW (lazyM k) (.mk 8 0 s [b] bs []) env bs.length) (lazyM k b (env ++ bs.map Prod.fst))) [op1 zda bs.length] := rfl
theorem zS : Small 0 := ⟨by decide, by decide⟩
theorem zin {B : Nat} : ∀ (n : Nat) (c : Co), c.size = n → ∀ (z : Bool), Fl B z c → (c.f = 1 ∨ c.f = 2 ∨ c.f = 3 ∨ c.f = 4 ∨ c.f = 8) → ∀ (k k' : Nat) (env : List Tx), (z = true ∨ c.f ≠ 8) → c.size ≤ k → c.size ≤ k' → lazyM k c env = lazyM k' c env := by
  intro n
  induction n using Nat.strongRecOn with
  | ind n ih =>
    intro c hn z hf hform k k' env hz hk hk'
    have hp := zch c
    obtain ⟨k, rfl⟩ : ∃ j, k = j + 1 := ⟨k - 1, by omega⟩
    obtain ⟨k', rfl⟩ : ∃ j, k' = j + 1 := ⟨k' - 1, by omega⟩
    have hform' : ∀ {c : Co}, Fl B true c → (c.f = 1 ∨ c.f = 2 ∨ c.f = 3 ∨ c.f = 4 ∨ c.f = 8) := fun h => by
      cases h with
      | leaf h => rcases h with rfl | rfl | rfl <;> simp [co]
      | app => simp [co]
      | lt => simp [co]
    cases hf with
    | leaf h =>
      rcases h with rfl | rfl | rfl
      · rw [zj0, zj0]
      · rw [zjy, zjy]
      · rw [zjz, zjz]
    | @app _ s a b _ ha hb =>
      have sa : a.size < (Co.mk 4 0 s [a, b] [] []).size := by simp only [Co.size, szK]; omega
      have sb : b.size < (Co.mk 4 0 s [a, b] [] []).size := by simp only [Co.size, szK]; omega
      rw [zjx, zjx, ih _ (by omega) b rfl true hb (hform' hb) k k' _ (.inl rfl) (by omega) (by omega), ih _ (by omega) a rfl true ha (hform' ha) k k' _ (.inl rfl) (by omega) (by omega)]
    | @lt _ s b bs _ _ hbs hb =>
      have hzt : z = true := hz.resolve_right (fun h => h rfl)
      subst hzt
      have sb : b.size < (Co.mk 8 0 s [b] bs []).size := by simp only [Co.size, szK]; omega
      have hl := zlo (L := lazyM k) (L' := lazyM k') (.mk 8 0 s [b] bs []) env (fun i hi e => by
        have h1 := zfqb (.mk 8 0 s [b] bs []) i hi
        have h2 : Fl B true (bs.getD i ([], c0)).2 := by rw [za0 bs i _ hi]; exact hbs _ (List.getElem_mem hi)
        simp only [co] at h1 ⊢
        exact ih _ (by omega) _ rfl true h2 (hform' h2) k k' _ (.inl rfl) (by omega) (by omega)) bs.length (Nat.le_refl _)
      rw [zlp, zlp, hl, ih _ (by omega) b rfl true hb (hform' hb) k k' _ (.inl rfl) (by omega) (by omega)]
    | fail => simp [co] at hform
    | prim _ _ _ => simp [co] at hform
    | cas _ _ _ _ => simp [co] at hform
theorem zn2 {B : Nat} {c : Co} (h : Fl B true c) : c.f = 1 ∨ c.f = 2 ∨ c.f = 3 ∨ c.f = 4 ∨ c.f = 8 := by
  cases h with
  | leaf h => rcases h with rfl | rfl | rfl <;> simp [co]
  | app => simp [co]
  | lt => simp [co]
def GI (B : Nat) (i : In) : Prop := i.op.length ≤ 6 ∧ Small i.n ∧ Small i.m ∧ i.name.length ≤ B
theorem gi_op {B : Nat} {s : Tx} {x : Int} (hs : s.length ≤ 6) (hx : Small x) : GI B (op1 s x) := ⟨hs, hx, (⟨by decide, by decide⟩ : Small 0), by simp [op1]⟩
theorem zg2 {B : Nat} {a b : List In} (ha : ∀ i ∈ a, GI B i) (hb : ∀ i ∈ b, GI B i) : ∀ i ∈ joinM a b, GI B i := by
  intro i hi
  simp only [joinM, List.mem_append, List.mem_map] at hi
  rcases hi with h | ⟨x, hx, rfl⟩
  · exact ha i h
  · have := hb x hx
    unfold shI
    cases goesI x.op with
    | true => exact ⟨this.1, zft _, this.2.2.1, this.2.2.2⟩
    | false => exact this
theorem zgt {B : Nat} {x : In} (h : GI B x) : ∀ i ∈ [x], GI B i := fun i hi => by
  simp only [List.mem_cons, List.not_mem_nil, or_false] at hi
  rw [hi]
  exact h
theorem zct {k : Nat} (h : k < 1000000000) : Small (k : Int) := ⟨by omega, by omega⟩
theorem zm1 {B : Nat} {L : Co → List Tx → List In} (c : Co) (env : List Tx) (hl : c.bs.length < 1000000000) (h : ∀ i, i < c.bs.length → ∀ e, (∀ x ∈ L (c.bs.getD i ([], c0)).2 e, GI B x) ∧ (L (c.bs.getD i ([], c0)).2 e).length ≤ 6 * (c.bs.getD i ([], c0)).2.size) :
    ∀ i, i ≤ c.bs.length → (∀ x ∈ layW L c env i, GI B x) ∧ (layW L c env i).length ≤ 1 + 6 * szB (c.bs.take i)
  | 0, _ => ⟨zgt (gi_op (by decide) (zct hl)), by simp [layW]⟩
  | i + 1, hi => by
    obtain ⟨h1, h2⟩ := zm1 c env hl h i (by omega)
    obtain ⟨h3, h4⟩ := h i (by omega) (env ++ nms c)
    rw [zjw]
    refine ⟨zg2 (zg2 h1 h3) (zgt (gi_op (by decide) (zft _))), ?_⟩
    rw [zbc, zbc, ← zba c.bs i (by omega), zix]
    have hg := za0 c.bs i ([], c0) (by omega)
    have hz : szB [c.bs[i]] = c.bs[i].2.size + 1 := by cases c.bs[i]; simp only [szB]; omega
    rw [hg] at h4 ⊢
    rw [hz]
    simp only [List.length_cons, List.length_nil]
    omega
theorem zgu {B : Nat} : ∀ (k : Nat) (c : Co) (z : Bool) (env : List Tx), Fl B z c → (z = true ∨ (c.f = 1 ∨ c.f = 2 ∨ c.f = 3 ∨ c.f = 4)) → c.size < 100000000 → (∀ i ∈ lazyM k c env, GI B i) ∧ (lazyM k c env).length ≤ 6 * c.size
  | 0, c, z, env, _, _, _ => ⟨fun i hi => (by cases hi), by simp [lazyM]⟩
  | k + 1, c, z, env, hf, hz, hs => by
    have hp := zch c
    have hsz := za3 c
    cases hf with
    | @leaf _ f n s h hn hl =>
      have hg : GI B ⟨zh0, 0, 0, s⟩ := ⟨(by decide : zh0.length ≤ 6), zS, zS, hl⟩
      rcases h with rfl | rfl | rfl
      · rw [zj0]
        cases decide (lieM env s < 0) with
        | true => exact ⟨zgt hg, by simp only [zad, List.length_cons, List.length_nil]; omega⟩
        | false => exact ⟨zgt (gi_op (by decide) (zft _)), by simp only [zaf, List.length_cons, List.length_nil]; omega⟩
      · rw [zjy]
        exact ⟨zgt hg, by simp only [List.length_cons, List.length_nil]; omega⟩
      · rw [zjz]
        exact ⟨zgt (gi_op (by decide) hn), by simp only [List.length_cons, List.length_nil]; omega⟩
    | @app _ s a b _ ha hb =>
      obtain ⟨a1, a2⟩ := zgu k a true (padM env (env.length + 1)) ha (.inl rfl) (by simp only [Co.size, szK] at hs; omega)
      obtain ⟨b1, b2⟩ := zgu k b true env hb (.inl rfl) (by simp only [Co.size, szK] at hs; omega)
      rw [zjx]
      refine ⟨zg2 (zg2 b1 a1) (zgt (gi_op (by decide) ⟨by decide, by decide⟩)), ?_⟩
      rw [zbc, zbc]
      simp only [Co.size, szK, List.length_cons, List.length_nil]
      omega
    | @lt _ s b bs _ _ hbs hb =>
      have hzt : z = true := hz.resolve_right (by simp [co])
      subst hzt
      have hbl := zbs bs
      simp only [co] at hsz
      obtain ⟨b1, b2⟩ := zgu k b true (env ++ bs.map Prod.fst) hb (.inl rfl) (by simp only [Co.size, szK] at hs; omega)
      have hlay := zm1 (B := B) (L := lazyM k) (.mk 8 0 s [b] bs []) env (by simp only [co]; omega) (fun i hi e => by
        simp only [co] at hi ⊢
        have hm := zfu bs _ (List.getElem_mem hi)
        rw [za0 bs i _ hi]
        exact zgu k _ true e (hbs _ (List.getElem_mem hi)) (.inl rfl) (by omega)) bs.length (Nat.le_refl _)
      rw [zlp]
      refine ⟨zg2 (zg2 hlay.1 b1) (zgt (gi_op (by decide) (zct (by omega)))), ?_⟩
      have := hlay.2
      simp only [co, List.take_length] at this
      rw [zbc, zbc]
      simp only [Co.size, szK, szA, List.length_cons, List.length_nil]
      omega
    | fail => simp [co] at hz
    | prim _ _ _ => simp [co] at hz
    | cas _ _ _ _ => simp [co] at hz
end Go.Fu
namespace Go.Fu
open Go Go.Mx
set_option maxRecDepth 10000
theorem zggb {B : Nat} {s : Tx} {a b : Co} (env : List Tx) (ha : Fl B true a) (hb : Fl B true b) : lazM (.mk 4 0 s [a, b] [] []) env = joinM (joinM (lazM b env) (lazM a (padM env (env.length + 1)))) [op1 sMKAP 0] := by
  have hz : (Co.mk 4 0 s [a, b] [] []).size = (a.size + b.size) + 1 := by simp only [Co.size, szK, szB, szA]; omega
  rw [lazM, hz, zjx, lazM, lazM, zin _ b rfl true hb (zn2 hb) _ b.size _ (.inl rfl) (by omega) (by omega), zin _ a rfl true ha (zn2 ha) _ a.size _ (.inl rfl) (by omega) (by omega)]
theorem zixb {B : Nat} {s : Tx} {b : Co} {bs : List (Tx × Co)} (env : List Tx) (hbs : ∀ p ∈ bs, Fl B true p.2) (hb : Fl B true b) : lazM (.mk 8 0 s [b] bs []) env = joinM (joinM (layM (.mk 8 0 s [b] bs []) env bs.length) (lazM b (env ++ bs.map Prod.fst))) [op1 zda bs.length] := by
  have hz : (Co.mk 8 0 s [b] bs []).size = (szB bs + b.size) + 1 := by simp only [Co.size, szK, szA]; omega
  have hl := zlo (L := lazyM (szB bs + b.size)) (L' := lazM) (.mk 8 0 s [b] bs []) env (fun i hi e => by
    have hi : i < bs.length := hi
    have h2 : Fl B true (bs.getD i ([], c0)).2 := by rw [za0 bs i _ hi]; exact hbs _ (List.getElem_mem hi)
    have hm : (bs.getD i ([], c0)).2.size ≤ szB bs := by
      rw [za0 bs i _ hi]
      have := zfu bs _ (List.getElem_mem hi)
      omega
    exact zin _ _ rfl true h2 (zn2 h2) _ _ _ (.inl rfl) (by first | omega | (simp only [co]; omega)) (Nat.le_refl _)) bs.length (Nat.le_refl _)
  rw [lazM, hz, zlp, hl, zin _ b rfl true hb (zn2 hb) _ b.size _ (.inl rfl) (by omega) (by omega)]
  rfl
theorem zgib (n : Int) (s : Tx) (env : List Tx) : lazM (.mk 3 n s [] [] []) env = [op1 znm n] := by
  have hz : (Co.mk 3 n s [] [] []).size = 0 + 1 := by simp only [Co.size, szK, szB, szA]
  rw [lazM, hz, zjz]
theorem zghb (n : Int) (s : Tx) (env : List Tx) : lazM (.mk 2 n s [] [] []) env = [⟨zh0, 0, 0, s⟩] := by
  have hz : (Co.mk 2 n s [] [] []).size = 0 + 1 := by simp only [Co.size, szK, szB, szA]
  rw [lazM, hz, zjy]
theorem zgjb (n : Int) (s : Tx) (env : List Tx) : lazM (.mk 1 n s [] [] []) env = ifB (decide (lieM env s < 0)) [⟨zh0, 0, 0, s⟩] [op1 znl (wsub env.length (lieM env s))] := by
  have hz : (Co.mk 1 n s [] [] []).size = 0 + 1 := by simp only [Co.size, szK, szB, szA]
  rw [lazM, hz, zj0]
theorem zfh {B : Nat} (c : Co) (z : Bool) (env : List Tx) (hf : Fl B z c) (hz : z = true ∨ (c.f = 1 ∨ c.f = 2 ∨ c.f = 3 ∨ c.f = 4)) (hs : c.size < 100000000) : (∀ i ∈ lazM c env, GI B i) ∧ (lazM c env).length ≤ 6 * c.size := zgu _ _ _ _ hf hz hs
theorem zjv {B : Nat} (c : Co) (env : List Tx) (hbs : ∀ p ∈ c.bs, Fl B true p.2) (hs : c.size < 100000000) (i : Nat) (hi : i ≤ c.bs.length) : (∀ x ∈ layM c env i, GI B x) ∧ (layM c env i).length ≤ 1 + 6 * szB (c.bs.take i) := by
  have hsz := za3 c
  have hb := zbs c.bs
  refine zm1 c env (by omega) (fun j hj e => ?_) i hi
  rw [za0 c.bs j _ hj]
  have := zfu c.bs _ (List.getElem_mem hj)
  exact zfh _ true e (hbs _ (List.getElem_mem hj)) (.inl rfl) (by omega)
def zru : List D → Cell → Prop := fun ds c => ∀ co env, ds = [dCo co, dSs env] → c = ⟨false, dIs (lazM co env)⟩
theorem zf9 {S : Specs} (hS : aget S n_15 = some zru) (a : Co) (env : List Tx) (hp : OkP n_15 [dCo a, dSs env] ⟨false, dIs (lazM a env)⟩) (n : Nat) (σ : Store) : T S (n + 1) n_15 [dCo a, dSs env] σ = some (.ret ⟨false, dIs (lazM a env)⟩, σ) := by
  obtain ⟨c, h1, h2⟩ := T_orc (S := S) hS rfl (c := ⟨false, dIs (lazM a env)⟩) (fun a' b' e => by
    simp only [List.cons.injEq, and_true] at e
    rw [zcn e.1, zbn e.2]) hp
  rw [h2, h1 a env rfl]
def zv5 : List D → Cell → Prop := fun ds c => ∀ co env, ds = [dCo co, dSs env] → c = ⟨false, .tup [dIs (layM co env co.bs.length), dSs (env ++ nms co)]⟩
theorem zov {S : Specs} (hS : aget S n_39 = some zv5) (a : Co) (env : List Tx) (hp : OkP n_39 [dCo a, dSs env] ⟨false, .tup [dIs (layM a env a.bs.length), dSs (env ++ nms a)]⟩) (n : Nat) (σ : Store) : T S (n + 1) n_39 [dCo a, dSs env] σ = some (.ret ⟨false, .tup [dIs (layM a env a.bs.length), dSs (env ++ nms a)]⟩, σ) := by
  obtain ⟨c, h1, h2⟩ := T_orc (S := S) hS rfl (c := ⟨false, .tup [dIs (layM a env a.bs.length), dSs (env ++ nms a)]⟩) (fun a' b' e => by
    simp only [List.cons.injEq, and_true] at e
    rw [zcn e.1, zbn e.2]) hp
  rw [h2, h1 a env rfl]
def SLa : Specs := [(n_5, sp_op), (n_4, zrx), (n_71, zv7), (n_122, zexb), (n_21, zf7), (n_2, zhg), (n_15, zru), (n_39, zv5)]
section
variable {C : CallF} {n : Nat} {σ : Store}
def Ela (c : Co) (env : List Tx) (o : Bool) (i : Nat) : Env := { slots := [(6, ⟨false, .int .i64 c.bs.length⟩), (7, ⟨false, dSs (env ++ nms c)⟩), (8, ⟨o, dIs (layM c env i)⟩), (9, ⟨false, .int .i64 i⟩)], locs := [(2, 2, 0)], boxes := [(2, bC c)], defers := [] }
theorem zivb (c : Co) (env : List Tx) (i : Nat) (h : i < c.bs.length) (hl : c.size < 100000000) (h1 : C n_15 [dCo c.bs[i].2, dSs (env ++ nms c)] σ = some (.ret ⟨false, dIs (lazM c.bs[i].2 (env ++ nms c))⟩, σ))
    (h2 : C n_4 [dIs (layM c env i), dIs (lazM c.bs[i].2 (env ++ nms c))] σ = some (.ret ⟨false, dIs (joinM (layM c env i) (lazM c.bs[i].2 (env ++ nms c)))⟩, σ)) (h3 : C n_5 [.str zcs, .int .i64 (wsub c.bs.length i)] σ = some (.ret ⟨false, dIs [op1 zcs (wsub c.bs.length i)]⟩, σ))
    (h4 : C n_4 [dIs (joinM (layM c env i) (lazM c.bs[i].2 (env ++ nms c))), dIs [op1 zcs (wsub c.bs.length i)]] σ = some (.ret ⟨false, dIs (layM c env (i + 1))⟩, σ)) : exec C n none a_92 (Ela c env false i) σ = some (.normal, Ela c env false (i + 1), σ) := by
  have hb := zbs c.bs
  have hsz := za3 c
  have hi : ((i : Int) < (c.bs.length : Int)) := by omega
  have hp := partB c.bs[i]
  simp only [zcs, wsub] at h3 h4
  simp only [zae, zai] at h1 hp
  simp only [a_92, Ela, bC, sA, Nat.reduceAdd, Nat.reduceSub, Nat.reduceMul, Nat.reduceBEq, Nat.reduceLeDiff, Int.reduceBEq, Int.reduceBNe, Int.reduceLE, Int.reduceLT, Int.reduceGE, Int.reduceGT, Int.reduceNeg, kn, len_B, hi, natI, idx_B _ i h, agg?_dB, hp, h1, h2, h3, h4, zaj (i := i) (by omega)]
theorem zk4b (c : Co) (env : List Tx) : exec C n none a_92 (Ela c env false c.bs.length) σ = some (.exit 0, { Ela c env false c.bs.length with slots := [(6, ⟨false, .int .i64 c.bs.length⟩), (7, ⟨false, dSs (env ++ nms c)⟩), (8, ⟨false, dIs (layM c env c.bs.length)⟩), (9, ⟨false, .int .i64 c.bs.length⟩), (21, ⟨false, .bool false⟩)] }, σ) := by
  have hi : ¬ ((c.bs.length : Int) < (c.bs.length : Int)) := by omega
  simp only [a_92, Ela, bC, sA, Nat.reduceAdd, Nat.reduceSub, Nat.reduceMul, Nat.reduceBEq, Nat.reduceLeDiff, Int.reduceBEq, Int.reduceBNe, Int.reduceLE, Int.reduceLT, Int.reduceGE, Int.reduceGT, Int.reduceNeg, kn, hi]
end
theorem zuu {B : Nat} (c : Co) (env : List Tx) (hbs : ∀ p ∈ c.bs, Fl B true p.2) (hl : env.length + c.size < 100000000) (hL : ∀ i (hi : i < c.bs.length), OkP n_15 [dCo c.bs[i].2, dSs (env ++ nms c)] ⟨false, dIs (lazM c.bs[i].2 (env ++ nms c))⟩) :
    OkP n_39 [dCo c, dSs env] ⟨false, .tup [dIs (layM c env c.bs.length), dSs (env ++ nms c)]⟩ := by
  have hsz := za3 c
  have hb := zbs c.bs
  refine zap (af := a_140) (n := c.size + 1) (σ' := σ0) (zar SLa 1) rfl rfl (by simp [zan, za5, zas]) (by simp [noPtr, zan, zdi, zas]) ?_
  have h1 := zih (S := SLa) rfl c (by omega) 0 σ0
  have h2 := zfb (S := SLa) rfl env (nms c) (by simp [nms]; omega) 0 σ0
  have h3 := zcy (S := SLa) rfl zqs c.bs.length 0 σ0
  have hl0 := za4 (body := exec (T SLa 1) (c.size + 1) none a_92) (Ela c env false) (fun _ => σ0) c.bs.length (r := _) (fun _ _ h => by cases h) (fun i hi => by
    obtain ⟨g1, g2⟩ := zjv c env hbs (by omega) i (by omega)
    have ht := zwe c.bs i hi
    obtain ⟨g3, g4⟩ := zfh (B := B) c.bs[i].2 true (env ++ nms c) (hbs _ (List.getElem_mem hi)) (.inl rfl) (by omega)
    have e : joinM (joinM (layM c env i) (lazM c.bs[i].2 (env ++ nms c))) [op1 zcs (wsub c.bs.length i)] = layM c env (i + 1) := by
      rw [layM, layM, zjw, za0 c.bs i _ hi]
    have h4 := zb0 (S := SLa) rfl (joinM (layM c env i) (lazM c.bs[i].2 (env ++ nms c))) [op1 zcs (wsub c.bs.length i)] (by rw [zbc]; simp; omega) 0 σ0
    rw [e] at h4
    exact zivb c env i hi (by omega) (zf9 (S := SLa) rfl _ _ (hL i hi) 0 σ0) (zb0 (S := SLa) rfl _ _ (by omega) 0 σ0) (zcy (S := SLa) rfl _ _ 0 σ0) h4) (zk4b c env) 0 (c.size + 1) (by omega) (by omega)
  have e0 : layM c env 0 = [op1 zqs c.bs.length] := rfl
  have en : c.bs.map Prod.fst = nms c := rfl
  rw [en] at h1
  simp only [zqs] at h3 e0
  simp only [Ela, bC, zeroI, e0] at hl0
  simp only [zae, zai] at h1
  simp only [a_140, sA, Nat.reduceAdd, Nat.reduceSub, Nat.reduceMul, Nat.reduceBEq, Nat.reduceLeDiff, Int.reduceBEq, Int.reduceBNe, Int.reduceLE, Int.reduceLT, Int.reduceGE, Int.reduceGT, Int.reduceNeg, kn, zae, zai, onel, len_B, h1, h2, h3, hl0]
theorem zcfb {B : Nat} : ∀ (k : Nat) (c : Co) (z : Bool) (env : List Tx), c.size = k → Fl B z c → (z = true ∨ (c.f = 1 ∨ c.f = 2 ∨ c.f = 3 ∨ c.f = 4)) → env.length + c.size < 100000000 → OkP n_15 [dCo c, dSs env] ⟨false, dIs (lazM c env)⟩ := by
  intro k
  induction k using Nat.strongRecOn with
  | ind k ih =>
    intro c z env hk hf hz hl
    have mk : ∀ {o : Bool}, finX Ra (fun _ _ _ => none) a_28 0 (exec (T SLa 1) 1 none a_28.body (zbp [dCo c, dSs env]) σ0) = some (.ret ⟨o, dIs (lazM c env)⟩, σ0) → OkP n_15 [dCo c, dSs env] ⟨false, dIs (lazM c env)⟩ := fun {o} hr =>
      OkP.weak (o := o) rfl (zap (af := a_28) (n := 1) (σ' := σ0) (zar SLa 1) rfl rfl (by simp [zan, za5, zas]) (zdi _) hr)
    cases hf with
    | @leaf _ f n s h _ _ =>
      rcases h with rfl | rfl | rfl
      · have h1 := zfrb (S := SLa) rfl env s (by omega) 0 σ0
        have hr := zawb env s
        rw [zgjb] at mk ⊢
        by_cases hlt : lieM env s < 0
        · simp only [decide_eq_true hlt, zad] at mk ⊢
          refine mk (o := true) ?_
          simp only [a_28, sA, Nat.reduceAdd, Nat.reduceSub, Nat.reduceMul, Nat.reduceBEq, Nat.reduceLeDiff, Int.reduceBEq, Int.reduceBNe, Int.reduceLE, Int.reduceLT, Int.reduceGE, Int.reduceGT, Int.reduceNeg, kn, zae, zai, co, onel, h1, hlt]
          rfl
        · have h2 := zcy (S := SLa) rfl znl (wsub env.length (lieM env s)) 0 σ0
          simp only [decide_eq_false hlt, zaf] at mk ⊢
          refine mk (o := false) ?_
          simp only [znl, wsub] at h2 ⊢
          simp only [a_28, sA, Nat.reduceAdd, Nat.reduceSub, Nat.reduceMul, Nat.reduceBEq, Nat.reduceLeDiff, Int.reduceBEq, Int.reduceBNe, Int.reduceLE, Int.reduceLT, Int.reduceGE, Int.reduceGT, Int.reduceNeg, kn, zae, zai, co, onel, len_S, h1, hlt, h2]
      · rw [zghb] at mk ⊢
        refine mk (o := true) ?_
        simp only [a_28, sA, Nat.reduceAdd, Nat.reduceSub, Nat.reduceMul, Nat.reduceBEq, Nat.reduceLeDiff, Int.reduceBEq, Int.reduceBNe, Int.reduceLE, Int.reduceLT, Int.reduceGE, Int.reduceGT, Int.reduceNeg, kn, zae, zai, co, onel]
        rfl
      · have h2 := zcy (S := SLa) rfl znm n 0 σ0
        rw [zgib] at mk ⊢
        refine mk (o := false) ?_
        simp only [znm] at h2 ⊢
        simp only [a_28, sA, Nat.reduceAdd, Nat.reduceSub, Nat.reduceMul, Nat.reduceBEq, Nat.reduceLeDiff, Int.reduceBEq, Int.reduceBNe, Int.reduceLE, Int.reduceLT, Int.reduceGE, Int.reduceGT, Int.reduceNeg, kn, zae, zai, co, onel, h2]
    | @app _ s a b _ ha hb =>
      have hsa : (Co.mk 4 0 s [a, b] [] []).size = 1 + a.size + b.size := by simp only [Co.size, szK, szB, szA]; omega
      have h1 := zf9 (S := SLa) rfl b env (ih _ (by omega) b true env rfl hb (.inl rfl) (by omega)) 0 σ0
      have h2 := zt6 (S := SLa) rfl env (env.length + 1) (by omega) 0 σ0
      have hpl : (padM env (env.length + 1)).length = env.length + 1 := by simp [padM]
      have h3 := zf9 (S := SLa) rfl a (padM env (env.length + 1)) (ih _ (by omega) a true _ rfl ha (.inl rfl) (by omega)) 0 σ0
      have g1 := (zfh b true env hb (.inl rfl) (by omega)).2
      have g2 := (zfh a true (padM env (env.length + 1)) ha (.inl rfl) (by omega)).2
      have h4 := zb0 (S := SLa) rfl (lazM b env) (lazM a (padM env (env.length + 1))) (by omega) 0 σ0
      have h5 := zcy (S := SLa) rfl sMKAP 0 0 σ0
      have h6 := zb0 (S := SLa) rfl (joinM (lazM b env) (lazM a (padM env (env.length + 1)))) [op1 sMKAP 0] (by rw [zbc]; simp; omega) 0 σ0
      have w := zaj (i := env.length) (by omega)
      have hx1 : za7 10 (dCs [a, b]) 1 = some (.eptr (dCo b)) := rfl
      have hx0 : za7 10 (dCs [a, b]) 0 = some (.eptr (dCo a)) := rfl
      rw [zggb env ha hb] at mk ⊢
      refine mk (o := false) ?_
      simp only [sMKAP] at h5 h6 ⊢
      simp only [zae, zai] at h1 h3 hx1 hx0
      simp only [a_28, sA, Nat.reduceAdd, Nat.reduceSub, Nat.reduceMul, Nat.reduceBEq, Nat.reduceLeDiff, Int.reduceBEq, Int.reduceBNe, Int.reduceLE, Int.reduceLT, Int.reduceGE, Int.reduceGT, Int.reduceNeg, kn, zae, zai, co, onel, nat0, len_S, w, hx1, hx0, zbk, h1, h2, h3, h4, h5, h6]
    | @lt _ s b bs _ _ hbs hb =>
      have hzt : z = true := hz.resolve_right (by simp [co])
      subst hzt
      have hsa : (Co.mk 8 0 s [b] bs []).size = 1 + b.size + szB bs := by simp only [Co.size, szK, szA]; omega
      have hbl := zbs bs
      have hen : nms (.mk 8 0 s [b] bs []) = bs.map Prod.fst := rfl
      have h1 := zov (S := SLa) rfl (.mk 8 0 s [b] bs []) env (zuu (B := B) _ env hbs (by omega) (fun i hi => by
        have hi : i < bs.length := hi
        have hm := zpn bs _ (List.getElem_mem hi)
        exact ih _ (by first | omega | (simp only [co]; omega)) bs[i].2 true _ rfl (hbs _ (List.getElem_mem hi)) (.inl rfl) (by rw [hen]; simp; omega))) 0 σ0
      rw [hen] at h1
      have h2 := zf9 (S := SLa) rfl b (env ++ bs.map Prod.fst) (ih _ (by omega) b true _ rfl hb (.inl rfl) (by simp; omega)) 0 σ0
      have g1 := (zjv (B := B) (.mk 8 0 s [b] bs []) env hbs (by omega) bs.length (Nat.le_refl _)).2
      simp only [co, List.take_length] at g1
      have g2 := (zfh b true (env ++ bs.map Prod.fst) hb (.inl rfl) (by omega)).2
      have h3 := zb0 (S := SLa) rfl (layM (.mk 8 0 s [b] bs []) env bs.length) (lazM b (env ++ bs.map Prod.fst)) (by omega) 0 σ0
      have h4 := zcy (S := SLa) rfl zda bs.length 0 σ0
      have h5 := zb0 (S := SLa) rfl (joinM (layM (.mk 8 0 s [b] bs []) env bs.length) (lazM b (env ++ bs.map Prod.fst))) [op1 zda bs.length] (by rw [zbc]; simp; omega) 0 σ0
      have hx0 : za7 10 (dCs [b]) 0 = some (.eptr (dCo b)) := rfl
      rw [zixb env hbs hb] at mk ⊢
      refine mk (o := false) ?_
      simp only [zda] at h4 h5 ⊢
      simp only [zae, zai, co] at h1 h2 hx0
      simp only [a_28, sA, Nat.reduceAdd, Nat.reduceSub, Nat.reduceMul, Nat.reduceBEq, Nat.reduceLeDiff, Int.reduceBEq, Int.reduceBNe, Int.reduceLE, Int.reduceLT, Int.reduceGE, Int.reduceGT, Int.reduceNeg, kn, zae, zai, co, onel, len_B, nat0, hx0, h1, h2, h3, h4, h5]
    | fail => simp [co] at hz
    | prim _ _ _ => simp [co] at hz
    | cas _ _ _ _ => simp [co] at hz
end Go.Fu

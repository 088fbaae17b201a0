/-
  What a pattern of the world tells of its type; a pattern that was made.
-/
import Derived.Test.YtmhedpkbfaginaaGreatDoorFlYh
set_option maxHeartbeats 4000000
set_option linter.unusedSimpArgs false
set_option linter.unusedVariables false
set_option linter.unusedSectionVars false
namespace Go.Fu
open Go Go.Mx
set_option maxRecDepth 10000
inductive Sx where
  | R | E
  | G (t : Nat)
def isK (x : Pt) : Bool := x.form == 3 || x.form == 4
mutual
def lkE : Pt → Bool
  | .mk _ _ _ _ l _ _ => lkL l
def lkL : List Pt → Bool
  | [] => false
  | x :: r => match r with
    | [] => lkE x
    | _ :: _ => isK x || lkL r
end
def pinf (own : Nat) (x : Pt) : Inf := if isK x then (match own with
  | 0 => .int
  | 1 => .bool
  | 2 => .li (if lkE x then 1 else 0)
  | 3 => .tt
  | _ => .li (if lkE x then 2 else 0)) else .un
def learnE (A : Bool) (c : Nat) : Inf → Option Inf
  | .li e => if A then (joinE e c).map Inf.li else some (.li e)
  | _ => none
def learn (i : Inf) : Sx → Nat → Pt → Option Inf
  | .R, own, x => join i (pinf own x)
  | .E, own, x => learnE (isK x) (own + 1) i
  | .G _, _, _ => some i
def learnL (i : Inf) : List (Nat × Sx) → List Pt → Option Inf
  | c :: cs, x :: l => (learn i c.2 c.1 x).bind fun j => learnL j cs l
  | _, _ => some i
def kcl (own : Nat) (ks : List Nat) : List (Nat × Sx) := if own = 2 ∨ own = 4 then (match ks with
  | [a, b] => [(a, .E), (b, .R)]
  | _ => []) else ks.map fun t => (t, .G t)
def Valid : Inf → Prop
  | .li e => e ≤ 2
  | _ => True
theorem StK.valid {K : Kn} {n : Nat} {i : Inf} (h : StK K n i) : Valid i := by
  cases i with
  | li e => exact h.root.1.elim fun z hz => hz.2.few
  | _ => exact trivial
theorem learn_list (i : Inf) (hi : Valid i) (A B L : Bool) (hL : B = false → L = false) (c : Nat) (hc : c = 1 ∨ c = 2) : (join i (.li 0)).bind (fun j => (learnE A c j).bind fun j' => join j' (if B then .li (if L then c else 0) else .un)) = join i (.li (if A || L then c else 0)) := by
  have three : ∀ e, e ≤ 2 → e = 0 ∨ e = 1 ∨ e = 2 := by omega
  cases i with
  | un => rcases hc with rfl | rfl <;> cases A <;> cases B <;> cases L <;> first | rfl | (exact absurd (hL rfl) (by decide))
  | int => rfl
  | bool => rfl
  | tt => rfl
  | li e => rcases three e hi with rfl | rfl | rfl <;> rcases hc with rfl | rfl <;> cases A <;> cases B <;> cases L <;> first | rfl | (exact absurd (hL rfl) (by decide))
theorem W.free {t : Nat} {x : Pt} (h : W t x) : isK x = false → lkE x = false := by
  cases h with
  | wild => intro _; rfl
  | name => intro _; rfl
  | num =>
    intro h
    exact absurd h (show ¬ (true = false) by decide)
  | con _ _ =>
    intro h
    exact absurd h (show ¬ (true = false) by decide)
theorem learn_con {own : Nat} (ho : own = 2 ∨ own = 4) {p m : Int} {s : Tx} {ks : List Nat} {l : List Pt} {ty : Ty} {ts : List Ty} (hm : (s, ks) ∈ wcons own) (hl : WL ks l) (i : Inf) (hi : Valid i) : (join i (.li 0)).bind (fun j => learnL j (kcl own ks) l) = learn i .R own (.mk 4 p m s l ty ts) := by
  have hK : isK (.mk 4 p m s l ty ts) = true := rfl
  have nil : l = [] → ks = [] → (join i (.li 0)).bind (fun j => learnL j (kcl own ks) l) = learn i .R own (.mk 4 p m s l ty ts) := by
    intro e1 e2
    subst e1
    subst e2
    have e3 : kcl own [] = [] := by rcases ho with rfl | rfl <;> rfl
    rw [e3]
    simp only [learnL, learn, pinf, hK]
    rcases ho with rfl | rfl
    · show (join i (.li 0)).bind some = join i (.li 0)
      cases join i (.li 0) <;> rfl
    · show (join i (.li 0)).bind some = join i (.li 0)
      cases join i (.li 0) <;> rfl
  have two : ∀ a c : Nat, (c = 1 ∨ c = 2) → own = 2 * c → ks = [a, own] → a + 1 = c → (join i (.li 0)).bind (fun j => learnL j (kcl own ks) l) = learn i .R own (.mk 4 p m s l ty ts) := by
    intro a c hc h2 hk ha
    subst hk
    cases hl with
    | cons h1 hr =>
      rename_i x r
      cases hr with
      | cons h3 hr =>
        rename_i y r
        cases hr
        have e3 : kcl own [a, own] = [(a, .E), (own, .R)] := by rw [kcl, if_pos ho]
        have hx := learn_list i hi (isK x) (isK y) (lkE y) h3.free c hc
        have e4 : pinf own (.mk 4 p m s [x, y] ty ts) = .li (if isK x || lkE y then c else 0) := by
          rcases hc with rfl | rfl
          · subst h2; rfl
          · subst h2; rfl
        have e5 : pinf own y = (if isK y then .li (if lkE y then c else 0) else .un) := by
          rcases hc with rfl | rfl
          · subst h2; rfl
          · subst h2; rfl
        rw [e3]
        simp only [learnL, learn, e4, e5, ha]
        rw [← hx]
        congr 1
        funext j
        cases learnE (isK x) c j with
        | none => rfl
        | some j' =>
          show (join j' _).bind some = join j' _
          cases join j' (if isK y = true then Inf.li (if lkE y = true then c else 0) else Inf.un) <;> rfl
  rcases ho with rfl | rfl
  · simp only [wcons, List.mem_cons, List.not_mem_nil, or_false, Prod.mk.injEq] at hm
    rcases hm with ⟨_, rfl⟩ | ⟨_, rfl⟩
    · cases hl
      exact nil rfl rfl
    · exact two 0 1 (.inl rfl) rfl rfl rfl
  · simp only [wcons, List.mem_cons, List.not_mem_nil, or_false, Prod.mk.injEq] at hm
    rcases hm with ⟨_, rfl⟩ | ⟨_, rfl⟩
    · cases hl
      exact nil rfl rfl
    · exact two 1 2 (.inr rfl) rfl rfl rfl
theorem learn_G (i : Inf) : ∀ (ks : List Nat) (l : List Pt), learnL i (ks.map fun t => (t, Sx.G t)) l = some i
  | [], _ => rfl
  | k :: ks, [] => rfl
  | k :: ks, x :: l => by
    simp only [List.map_cons, learnL, learn, Option.bind_some]
    exact learn_G i ks l
def TyC (own n : Nat) : Sx → Ty → Prop
  | .R, τ => τ = tMeta 1 ∨ ((own = 2 ∨ own = 4) ∧ ∃ k : Nat, 2 ≤ k ∧ k ≤ n ∧ τ = tL (tMeta k))
  | .E, τ => (own = 0 ∨ own = 1) ∧ ∃ k : Nat, 2 ≤ k ∧ k ≤ n ∧ τ = tMeta k
  | .G t, τ => t = own ∧ (own = 0 ∨ own = 1 ∨ own = 3) ∧ τ = wt t
theorem TyC.mono {own n m : Nat} {s : Sx} {τ : Ty} (h : TyC own n s τ) (hn : n ≤ m) : TyC own m s τ := by
  cases s with
  | R =>
    rcases h with h | ⟨ho, k, h1, h2, h3⟩
    · exact .inl h
    · exact .inr ⟨ho, k, h1, by omega, h3⟩
  | E =>
    obtain ⟨ho, k, h1, h2, h3⟩ := h
    exact ⟨ho, k, h1, by omega, h3⟩
  | G t => exact h
theorem TyC.fine {own n : Nat} {s : Sx} {τ : Ty} (h : TyC own n s τ) : Fine τ := by
  cases s with
  | R =>
    rcases h with rfl | ⟨ho, k, h1, h2, rfl⟩
    · exact fine_meta _
    · exact fine_app (fine_con _) (fine_meta _)
  | E =>
    obtain ⟨ho, k, h1, h2, rfl⟩ := h
    exact fine_meta _
  | G t =>
    obtain ⟨rfl, ho, rfl⟩ := h
    rcases ho with rfl | rfl | rfl <;> exact fine_con _
mutual
inductive Mp (n : Nat) : Nat → Sx → Pt → Pt → Prop
  | flat {own : Nat} {s : Sx} {f p m : Int} {nm : Tx} {τ ty : Ty} {ts : List Ty} (hf : f = 1 ∨ f = 2 ∨ (f = 3 ∧ own = 0)) (hτ : TyC own n s τ) : Mp n own s (.mk f p m nm [] ty ts) (.mk f p m nm [] τ [])
  | con {own : Nat} {s : Sx} {p m : Int} {nm : Tx} {ks : List Nat} {l l' : List Pt} {τ ty : Ty} {ts us : List Ty} (hm : (nm, ks) ∈ wcons own) (hτ : TyC own n s τ) (hu : ((own = 2 ∨ own = 4) ∧ s = .R ∧ ∃ k : Nat, 2 ≤ k ∧ k ≤ n ∧ us = [tMeta k]) ∨ ((own = 1 ∨ own = 3) ∧ us = [])) (hl : MpL n (kcl own ks) l l') : Mp n own s (.mk 4 p m nm l ty ts) (.mk 4 p m nm l' τ us)
inductive MpL (n : Nat) : List (Nat × Sx) → List Pt → List Pt → Prop
  | nil : MpL n [] [] []
  | cons {c : Nat × Sx} {cs : List (Nat × Sx)} {x y : Pt} {l l' : List Pt} (h : Mp n c.1 c.2 x y) (hl : MpL n cs l l') : MpL n (c :: cs) (x :: l) (y :: l')
end
mutual
theorem Mp.mono {n n' : Nat} (hn : n ≤ n') : ∀ {x y : Pt} {own : Nat} {s : Sx}, Mp n own s x y → Mp n' own s x y
  | .mk f p m nm l ty ts, y, own, s, h => by
    cases h with
    | flat hf hτ => exact .flat hf (hτ.mono hn)
    | con hm hτ hu hl =>
      refine .con hm (hτ.mono hn) ?_ (hl.mono hn)
      rcases hu with ⟨h1, h2, k, h3, h4, h5⟩ | h
      · exact .inl ⟨h1, h2, k, h3, by omega, h5⟩
      · exact .inr h
theorem MpL.mono {n n' : Nat} (hn : n ≤ n') : ∀ {l l' : List Pt} {cs : List (Nat × Sx)}, MpL n cs l l' → MpL n' cs l l'
  | [], _, _, h => by
    cases h
    exact .nil
  | x :: r, _, _, h => by
    cases h with
    | cons h hl => exact .cons (h.mono hn) (hl.mono hn)
end
end Go.Fu
namespace Go.Fu
open Go Go.Mx
set_option maxRecDepth 10000
set_option maxHeartbeats 1000000
theorem Pt.size_eq (x : Pt) : x.size = 1 + Pt.sizes x.kids := by
  cases x
  rfl
structure Off (σ : Store) (pm pc ps : Nat) (v : D) (q : Nat) : Prop where
  lt : q < σ.next
  m : q ≠ pm
  c : q ≠ pc
  s : q ≠ ps
  v : vid v ≠ some q
theorem Off.not {σ : Store} {pm pc ps q : Nat} {v : D} (h : Off σ pm pc ps v q) : ¬ XM pm ps v q := by
  rintro (e | e | e)
  · exact h.s e
  · exact h.m e
  · exact h.v e
theorem Off.next {σ σ' : Store} {pm pc ps q : Nat} {v v' : D} (h : Off σ pm pc ps v q) (hl : σ.next ≤ σ'.next) (hv : vid v' = vid v ∨ ∀ j, vid v' = some j → σ.next ≤ j) : Off σ' pm pc ps v' q := by
  refine ⟨Nat.lt_of_lt_of_le h.lt hl, h.m, h.c, h.s, fun e => ?_⟩
  rcases hv with hv | hv
  · exact h.v (hv ▸ e)
  · have := hv q e
    have := h.lt
    omega
def MakeOk (S : Specs) (own : Nat) (s : Sx) (x : Pt) : Prop := ∀ (σ : Store) (pm pc mc ps m n : Nat) (K : Kn) (v : D) (c : Nat) (i : Inf) (τ : Ty), MI σ pm pc mc ps m n K v c → StK K n i → FineK K → TyC own n s τ → n + x.size < 900 → c + x.size < 900 → ∃ (σ' : Store) (e at_ : Int) (y : Pt), Fx σ σ' (XM pm ps v) m ∧ (match learn i s own x with
    | some j => e = 0 ∧ ∃ n' K' v' c', MI σ' pm pc mc ps m n' K' v' c' ∧ StK K' n' j ∧ FineK K' ∧ n ≤ n' ∧ n' ≤ n + x.size ∧ c' ≤ c + x.size ∧ (vid v' = vid v ∨ ∀ j, vid v' = some j → σ.next ≤ j) ∧ Mp n' own s x y
    | none => e ≠ 0) ∧ ∃ N, ∀ k, N ≤ k → T S k n_18 [.ptr pm 0, dPt x, dTy τ] σ = some (.ret (mkR y e at_), σ')
theorem MpL.snoc {n : Nat} : ∀ {cs : List (Nat × Sx)} {l l' : List Pt} {c : Nat × Sx} {x y : Pt}, MpL n cs l l' → Mp n c.1 c.2 x y → MpL n (cs ++ [c]) (l ++ [x]) (l' ++ [y])
  | [], _, _, _, _, _, .nil, h => .cons h .nil
  | _ :: _, _, _, _, _, _, .cons h1 h2, h => .cons h1 (h2.snoc h)
theorem vid_trans {σ σ1 : Store} {v v1 v2 : D} (hl : σ.next ≤ σ1.next) (h1 : vid v1 = vid v ∨ ∀ j, vid v1 = some j → σ.next ≤ j) (h2 : vid v2 = vid v1 ∨ ∀ j, vid v2 = some j → σ1.next ≤ j) : vid v2 = vid v ∨ ∀ j, vid v2 = some j → σ.next ≤ j := by
  rcases h2 with h2 | h2
  · rw [h2]
    exact h1
  · exact .inr fun j hj => Nat.le_trans hl (h2 j hj)
theorem XM.old {σ : Store} {pm ps : Nat} {v v1 : D} (h1 : vid v1 = vid v ∨ ∀ j, vid v1 = some j → σ.next ≤ j) {j : Nat} (hj : j < σ.next) (h : XM pm ps v1 j) : XM pm ps v j := by
  rcases h with h | h | h
  · exact .inl h
  · exact .inr (.inl h)
  · rcases h1 with h1 | h1
    · exact .inr (.inr (h1 ▸ h))
    · have := h1 j h
      omega
theorem mk_loop {S : Specs} (hS : MakeS S) (pm pc mc ps m q kid : Nat) (d : Da) (fs us : List Ty) (cs : List (Nat × Sx)) (x : Pt) (τ : Ty) (n1 len : Nat) (hfs : fs.length = len) (hcs : cs.length = len) (hkl : x.kids.length = len) (hl10 : len ≤ 10) (hqk : q ≠ kid) (hT : ∀ i (hi : i < fs.length) (hc : i < cs.length), OkP n_5 [dTy fs[i], dSs d.vars, dTl us] ⟨false, dTy (subM fs[i] us)⟩ ∧ TyC cs[i].1 n1 cs[i].2 (subM fs[i] us)) (hM : ∀ i (hi : i < x.kids.length) (hc : i < cs.length), MakeOk S cs[i].1 cs[i].2 x.kids[i]) : ∀ (k i : Nat) (L : List Pt) (σ : Store) (n : Nat) (K : Kn) (v : D) (c : Nat) (j : Inf), i + k = len → L.length = len → L.drop i = x.kids.drop i → MI σ pm pc mc ps m n K v c → StK K n j → FineK K → n1 ≤ n → n + Pt.sizes (x.kids.drop i) < 900 → c + Pt.sizes (x.kids.drop i) < 900 → Off σ pm pc ps v q → Off σ pm pc ps v kid → aget σ.objs q = some (cP x τ (.arr k_1 kid 0 len) (dTl us)) → aget σ.objs kid = some (pcl L) → MpL n (cs.take i) (x.kids.take i) (L.take i) → ∃ σ' o, Fx σ σ' (fun a => XM pm ps v a ∨ a = kid) m ∧ (match learnL j (cs.drop i) (x.kids.drop i) with
    | some j' => o = none ∧ ∃ n' K' v' c' L', MI σ' pm pc mc ps m n' K' v' c' ∧ StK K' n' j' ∧ FineK K' ∧ n ≤ n' ∧ n' ≤ n + Pt.sizes (x.kids.drop i) ∧ c' ≤ c + Pt.sizes (x.kids.drop i) ∧ (vid v' = vid v ∨ ∀ a, vid v' = some a → σ.next ≤ a) ∧ L'.length = len ∧ aget σ'.objs q = some (cP x τ (.arr k_1 kid 0 len) (dTl us)) ∧ aget σ'.objs kid = some (pcl L') ∧ MpL n' cs x.kids L'
    | none => ∃ p : Int × Int, o = some p ∧ p.1 ≠ 0) ∧ ∃ N, ∀ a b, N ≤ a → N ≤ b → loopN (exec (T S a) a none a_32) b (Emk pm q d fs len i) σ = some ((mkE pm q d fs len o).1, (mkE pm q d fs len o).2, σ')
  | 0, i, L, σ, n, K, v, c, j, h, hLl, hdr, hmi, hst, hK, hn1, hb1, hb2, hoq, hok, hq, hk, hmp => by
    have e : i = len := by omega
    subst e
    have e1 : cs.drop i = [] := by rw [List.drop_eq_nil_iff]; omega
    have e2 : x.kids.drop i = [] := by rw [List.drop_eq_nil_iff]; omega
    rw [e1, e2]
    have e3 : cs.take i = cs := List.take_of_length_le (by omega)
    have e4 : x.kids.take i = x.kids := List.take_of_length_le (by omega)
    have e5 : L.take i = L := List.take_of_length_le (by omega)
    rw [e3, e4, e5] at hmp
    refine ⟨σ, none, Fx.refl _ _ _, ⟨rfl, n, K, v, c, L, hmi, hst, hK, Nat.le_refl _, by simp [Pt.sizes], by simp [Pt.sizes], .inl rfl, hLl, hq, hk, hmp⟩, 1, fun a b _ hb => ?_⟩
    obtain ⟨b, rfl⟩ : ∃ k, b = k + 1 := ⟨b - 1, by omega⟩
    exact loopN_stop (mk_end pm q d fs i)
  | k + 1, i, L, σ, n, K, v, c, j, h, hLl, hdr, hmi, hst, hK, hn1, hb1, hb2, hoq, hok, hq, hk, hmp => by
    have hi : i < fs.length := by omega
    have hic : i < cs.length := by omega
    have hik : i < x.kids.length := by omega
    have hiL : i < L.length := by omega
    have eL : L[i] = x.kids[i] := by
      have h1 := List.drop_eq_getElem_cons hiL
      have h2 := List.drop_eq_getElem_cons hik
      rw [h1, h2] at hdr
      exact (List.cons.inj hdr).1
    have eD : L.drop (i + 1) = x.kids.drop (i + 1) := by
      have h1 := List.drop_eq_getElem_cons hiL
      have h2 := List.drop_eq_getElem_cons hik
      rw [h1, h2] at hdr
      exact (List.cons.inj hdr).2
    have hsz : Pt.sizes (x.kids.drop i) = x.kids[i].size + Pt.sizes (x.kids.drop (i + 1)) := by
      rw [List.drop_eq_getElem_cons hik]
      rfl
    obtain ⟨hsub, hty⟩ := hT i hi hic
    obtain ⟨σ1, e, at_, y, f1, hm, N1, r1⟩ := hM i hik hic σ pm pc mc ps m n K v c j _ hmi hst hK (hty.mono hn1) (by omega) (by omega)
    rw [List.drop_eq_getElem_cons hic, List.drop_eq_getElem_cons hik]
    simp only [learnL]
    have hps : ∀ a σ, 1 ≤ a → T S a n_5 [dTy fs[i], dSs d.vars, dTl us] σ = some (.ret ⟨false, dTy (subM fs[i] us)⟩, σ) := fun a σ ha => by
      obtain ⟨a, rfl⟩ : ∃ k, a = k + 1 := ⟨a - 1, by omega⟩
      exact call_psub hS.2.2.2.2.2.2.2.2.2.2.1 hsub a σ
    have hlL : fs.length = L.length := by omega
    have hq0 := hq
    rw [← hLl] at hq0
    cases hlr : learn j cs[i].2 cs[i].1 x.kids[i] with
    | none =>
      rw [hlr] at hm
      have hm : e ≠ 0 := hm
      simp only [Option.bind_none]
      refine ⟨σ1, some (e, at_), f1.mono fun _ _ h => .inl h, ⟨(e, at_), rfl, hm⟩, N1 + 2, fun a b ha hb => ?_⟩
      obtain ⟨b, rfl⟩ : ∃ k, b = k + 1 := ⟨b - 1, by omega⟩
      have st := mk_stop (C := T S a) (n := a) pm q pc ps kid d fs us L x y τ _ i hi hlL at_ e hm hq0 hk (hps a σ (by omega)) (by rw [eL]; exact r1 a (by omega))
      rw [hLl] at st
      exact loopN_ret st
    | some j1 =>
      rw [hlr] at hm
      obtain ⟨he, n2, K2, v2, c2, hmi2, hst2, hK2, hn2, hn2', hc2, hv2, hmp2⟩ := hm
      subst he
      simp only [Option.bind_some]
      have hq1 : aget σ1.objs q = some (cP x τ (.arr k_1 kid 0 len) (dTl us)) := (f1.objs q hoq.lt hoq.not).trans hq
      have hk1 : aget σ1.objs kid = some (pcl L) := (f1.objs kid hok.lt hok.not).trans hk
      have hq10 := hq1
      rw [← hLl] at hq10
      obtain ⟨σ2, e2⟩ : ∃ σ2, σ2 = SO σ1 kid (pcl (L.set i y)) := ⟨_, rfl⟩
      have f2 : ∀ m, Fx σ1 σ2 (fun a => a = kid) m := fun m => by rw [e2]; exact fx_SO _ _ _ _
      have hoq1 := hoq.next f1.le hv2
      have hok1 := hok.next f1.le hv2
      have hmi3 : MI σ2 pm pc mc ps m n2 K2 v2 c2 := hmi2.fx (f2 m) (fun e => hok1.m e.symm) (fun e => hok1.c e.symm) (fun a ha e => hok1.v (by rw [ha, e])) (hmi2.sk.fx (f2 (m + 1)) (fun e => hok1.s e.symm) (by omega))
      have hq2 : aget σ2.objs q = some (cP x τ (.arr k_1 kid 0 len) (dTl us)) := ((f2 m).objs q hoq1.lt hqk).trans hq1
      have hk2 : aget σ2.objs kid = some (pcl (L.set i y)) := by rw [e2]; exact agA _ _ _
      have t1 : cs.take (i + 1) = cs.take i ++ [cs[i]] := (take_snoc cs i hic).symm
      have t2 : x.kids.take (i + 1) = x.kids.take i ++ [x.kids[i]] := (take_snoc x.kids i hik).symm
      have t3 : (L.set i y).take (i + 1) = L.take i ++ [y] := by
        rw [← take_snoc (L.set i y) i (by rw [List.length_set]; omega)]
        rw [List.take_set_of_le (Nat.le_refl _), List.getElem_set_self]
      have t4 : (L.set i y).drop (i + 1) = x.kids.drop (i + 1) := by
        rw [List.drop_set_of_lt (by omega)]
        exact eD
      have hmp3 : MpL n2 (cs.take (i + 1)) (x.kids.take (i + 1)) ((L.set i y).take (i + 1)) := by
        rw [t1, t2, t3]
        exact (hmp.mono hn2).snoc hmp2
      obtain ⟨σ3, o, f3, hres, N3, r3⟩ := mk_loop hS pm pc mc ps m q kid d fs us cs x τ n1 len hfs hcs hkl hl10 hqk hT hM k (i + 1) (L.set i y) σ2 n2 K2 v2 c2 j1 (by omega) (by rw [List.length_set]; exact hLl) t4 hmi3 hst2 hK2 (by omega) (by omega) (by omega) (hoq1.next (f2 m).le (.inl rfl)) (hok1.next (f2 m).le (.inl rfl)) hq2 hk2 hmp3
      have f12 : Fx σ σ2 (fun a => XM pm ps v a ∨ a = kid) m := (f1.mono fun _ _ h => .inl h).trans (f2 m) fun _ _ h => .inr h
      have f123 : Fx σ σ3 (fun a => XM pm ps v a ∨ a = kid) m := f12.trans f3 fun a ha h => by
        rcases h with h | h
        · exact .inl (XM.old hv2 ha h)
        · exact .inr h
      refine ⟨σ3, o, f123, ?_, N1 + N3 + 2, fun a b ha hb => ?_⟩
      · cases hl2 : learnL j1 (cs.drop (i + 1)) (x.kids.drop (i + 1)) with
        | none =>
          rw [hl2] at hres
          exact hres
        | some j2 =>
          rw [hl2] at hres
          obtain ⟨ho, n4, K4, v4, c4, L4, g1, g2, g3, g4, g5, g6, g7, g8, g9, g10, g11⟩ := hres
          exact ⟨ho, n4, K4, v4, c4, L4, g1, g2, g3, by omega, by rw [← List.drop_eq_getElem_cons hik, hsz]; omega, by rw [← List.drop_eq_getElem_cons hik, hsz]; omega, vid_trans (Nat.le_trans f1.le (f2 m).le) hv2 g7, g8, g9, g10, g11⟩
      · obtain ⟨b, rfl⟩ : ∃ k, b = k + 1 := ⟨b - 1, by omega⟩
        have st := mk_step (C := T S a) (n := a) pm q pc ps kid d fs us L x y τ _ v i hi hlL (by omega) at_ hq0 hk (hps a σ (by omega)) (by rw [eL]; exact r1 a (by omega)) hq10 hk1
        rw [hLl, ← e2] at st
        rw [loopN_succ st]
        exact r3 a b (by omega) (by omega)
end Go.Fu
namespace Go.Fu
open Go Go.Mx
set_option maxRecDepth 10000
set_option maxHeartbeats 1000000
def MakeR (S : Specs) (own : Nat) (s : Sx) (x : Pt) (σ : Store) (pm pc mc ps m n : Nat) (v : D) (c : Nat) (i : Inf) (τ : Ty) : Prop := ∃ (σ' : Store) (e at_ : Int) (y : Pt), Fx σ σ' (XM pm ps v) m ∧ (match learn i s own x with
    | some j => e = 0 ∧ ∃ n' K' v' c', MI σ' pm pc mc ps m n' K' v' c' ∧ StK K' n' j ∧ FineK K' ∧ n ≤ n' ∧ n' ≤ n + x.size ∧ c' ≤ c + x.size ∧ (vid v' = vid v ∨ ∀ j, vid v' = some j → σ.next ≤ j) ∧ Mp n' own s x y
    | none => e ≠ 0) ∧ ∃ N, ∀ k, N ≤ k → T S k n_18 [.ptr pm 0, dPt x, dTy τ] σ = some (.ret (mkR y e at_), σ')
theorem Fr.then {σ σ1 σ2 : Store} {X Y : Nat → Prop} {m : Nat} (h : Fr σ σ1) (k : Fx σ1 σ2 X m) (hX : ∀ j, j < σ.next → X j → Y j) : Fx σ σ2 Y m := (h.fx Y m).trans k hX
theorem flat_ok {S : Specs} (hS : MakeS S) {own : Nat} {s : Sx} {x : Pt} {σ : Store} {pm pc mc ps m n : Nat} {K : Kn} {v : D} {c : Nat} {i : Inf} {τ : Ty} (hmi : MI σ pm pc mc ps m n K v c) (hkd : x.kids = []) (w : FuncId) (hw : (x.form = 1 ∧ w = n_50) ∨ (x.form = 2 ∧ w = n_48) ∨ (x.form = 3 ∧ w = n_49)) (e : Int) (σ3 : Store) (f3 : Fx (S2 σ x τ) σ3 (XM pm ps v) m) (hres : match learn i s own x with
    | some j => e = 0 ∧ ∃ K' v' c', MI σ3 pm pc mc ps m n K' v' c' ∧ StK K' n j ∧ FineK K' ∧ c' ≤ c + x.size ∧ (vid v' = vid v ∨ ∀ j, vid v' = some j → σ.next + 1 ≤ j)
    | none => e ≠ 0) (hr : ∃ N, ∀ k, N ≤ k → T S k w [.ptr pm 0, .ptr σ.next 0, dTy τ] (S2 σ x τ) = some (.ret ⟨false, .int .i64 e⟩, σ3)) (hmp : Mp n own s x (yPt x τ [] [])) : MakeR S own s x σ pm pc mc ps m n v c i τ := by
  obtain ⟨N, hN⟩ := hr
  have l1 := hmi.lt
  have l2 := hmi.sk.lt
  have l3 := hmi.pn.lt
  have l4 : ∀ j, vid v = some j → j < σ.next := hmi.va.lt
  have hnx : ¬ XM pm ps v σ.next := by
    rintro (e | e | e)
    · omega
    · omega
    · have := l4 _ e
      omega
  have hq : aget σ3.objs σ.next = some (cP x τ .nils .nils) := by
    have := (f3.objs σ.next (by rw [S2_next]; omega) hnx).trans (S2_obj σ x τ)
    rw [hkd] at this
    exact this
  have fσ3 : Fx σ σ3 (XM pm ps v) m := (S2_fr σ x τ).then f3 fun _ _ h => h
  cases hl : learn i s own x with
  | none =>
    rw [hl] at hres
    have hres : e ≠ 0 := hres
    refine ⟨σ3, e, x.pos, zPt, fσ3, by rw [hl]; exact hres, N + 2, fun k hk => ?_⟩
    obtain ⟨k, rfl⟩ : ∃ j, k = j + 1 := ⟨k - 1, by omega⟩
    have := mk_flat hS pm x τ hkd w hw e (hN k (by omega)) hq (by omega)
    rw [if_neg hres, if_neg hres] at this
    exact this
  | some j =>
    rw [hl] at hres
    obtain ⟨he, K', v', c', g1, g2, g3, g4, g5⟩ := hres
    subst he
    obtain ⟨σ', e'⟩ : ∃ σ', σ' = SO σ3 σ.next (cP x τ .nils .nils) := ⟨_, rfl⟩
    have f' : ∀ m, Fx σ3 σ' (fun a => a = σ.next) m := fun m => by rw [e']; exact fx_SO _ _ _ _
    have hv' : ∀ a, vid v' = some a → a ≠ σ.next := fun a ha e => by
      rcases g5 with g5 | g5
      · have := l4 a (by rw [← g5]; exact ha)
        omega
      · have := g5 a ha
        omega
    refine ⟨σ', 0, 0, yPt x τ [] [], fσ3.trans (f' m) fun a ha e => by omega, ?_, N + 2, fun k hk => ?_⟩
    · rw [hl]
      refine ⟨rfl, n, K', v', c', g1.fx (f' m) (by omega) (by omega) hv' (g1.sk.fx (f' (m + 1)) (by omega) (by omega)), g2, g3, Nat.le_refl _, by omega, g4, ?_, hmp⟩
      rcases g5 with g5 | g5
      · exact .inl g5
      · exact .inr fun a ha => by have := g5 a ha; omega
    · obtain ⟨k, rfl⟩ : ∃ j, k = j + 1 := ⟨k - 1, by omega⟩
      have := mk_flat hS pm x τ hkd w hw 0 (hN k (by omega)) hq (by omega)
      simp only [if_pos] at this
      rw [e']
      exact this
theorem fz_cPk (x : Pt) (t : Ty) (kd : D) (l : List Pt) (us : List Ty) (os os' : Objs) (h : freezeD 40 kd os = some (dPl l, os')) : freezeC (cP x t kd (dTl us)) os = some (cP x t (dPl l) (dTl us), os') := by
  have h2 : freezeD 40 (dTl t.as_) os' = some (dTl t.as_, os') := fz_dl 39 _ _ _
  have h3 : freezeD 40 (dTl us) os' = some (dTl us, os') := fz_dl 39 _ _ _
  have i1 : ∀ (os : Objs) k (a : Int), freezeD 40 (.int k a) os = some (.int k a, os) := fun _ _ _ => rfl
  have i2 : ∀ (os : Objs) a, freezeD 40 (.str a) os = some (.str a, os) := fun _ _ => rfl
  simp only [cP, freezeC, i1, i2, h, h2, h3, bindO, caseO_some, keeps_f]
theorem con_ok {S : Specs} (hS : MakeS S) {own : Nat} {s : Sx} {x : Pt} {σ : Store} {pm pc mc ps m n : Nat} {K : Kn} {v : D} {c : Nat} {i : Inf} {τ : Ty} (hmi : MI σ pm pc mc ps m n K v c) (hf : x.form = 4) (hb1 : n + x.size < 900) (hb2 : c + x.size < 900) (d : Da) (k : Nat) (hcm : conM x.name LW = some (d, k)) (hk : k < d.cons.length) (hlen : d.cons[k].fs.length = x.kids.length) (h10 : x.kids.length ≤ 10) (e : Int) (us : List Ty) (σ3 : Store) (n1 : Nat) (hn1 : n ≤ n1) (hn1' : n1 ≤ n + 1) (K1 : Kn) (hK1 : FineK K1) (jo : Option Inf) (hJ : JoinOk K1 n1 e jo) (f3 : Fx (S2 σ x τ) σ3 (fun a => XM pm ps v a ∨ a = σ.next) m) (hmi3 : e = 0 → MI σ3 pm pc mc ps m n1 K1 v c) (hq3 : aget σ3.objs σ.next = some (cP x τ (dPl x.kids) (dTl us))) (hr : ∃ N, ∀ k, N ≤ k → T S k n_17 [.ptr pm 0, .ptr σ.next 0, dTy τ] (S2 σ x τ) = some (.ret ⟨false, .int .i64 e⟩, σ3)) (cs : List (Nat × Sx)) (hcs : cs.length = x.kids.length) (hlearn : learn i s own x = jo.bind fun j => learnL j cs x.kids) (hT : ∀ i (hi : i < d.cons[k].fs.length) (hc : i < cs.length), OkP n_5 [dTy d.cons[k].fs[i], dSs d.vars, dTl us] ⟨false, dTy (subM d.cons[k].fs[i] us)⟩ ∧ TyC cs[i].1 n1 cs[i].2 (subM d.cons[k].fs[i] us)) (hM : ∀ i (hi : i < x.kids.length) (hc : i < cs.length), MakeOk S cs[i].1 cs[i].2 x.kids[i]) (hmp : ∀ n' L', n1 ≤ n' → MpL n' cs x.kids L' → Mp n' own s x (yPt x τ L' us)) : MakeR S own s x σ pm pc mc ps m n v c i τ := by
  obtain ⟨N, hN⟩ := hr
  have l1 := hmi.lt
  have l2 := hmi.sk.lt
  have l3 := hmi.pn.lt
  have l4 : ∀ j, vid v = some j → j < σ.next := hmi.va.lt
  have fσ3 : Fx σ σ3 (XM pm ps v) m := (S2_fr σ x τ).then f3 fun a ha h => by
    rcases h with h | h
    · exact h
    · omega
  have hsx := Pt.size_eq x
  cases jo with
  | none =>
    have he : e ≠ 0 := hJ
    refine ⟨σ3, e, x.pos, zPt, fσ3, by rw [hlearn]; exact he, N + 2, fun k' hk' => ?_⟩
    obtain ⟨k', rfl⟩ : ∃ j, k' = j + 1 := ⟨k' - 1, by omega⟩
    exact mkc_no hS pm x τ (dTl us) hf e he (hN k' (by omega)) hq3
  | some j0 =>
    obtain ⟨he, hst⟩ := hJ
    subst he
    have hmi3 := hmi3 rfl
    have ln3 : σ.next < σ3.next := Nat.lt_of_lt_of_le (by rw [S2_next]; omega) f3.le
    have off3 : Off σ3 pm pc ps v σ.next := ⟨ln3, by omega, by omega, by omega, fun e => by have := l4 _ e; omega⟩
    simp only [Option.bind_some] at hlearn
    cases hkn : x.kids with
    | nil =>
      -- no kids
      have hcs0 : cs = [] := by
        rw [hkn] at hcs
        exact List.length_eq_zero_iff.1 hcs
      subst hcs0
      rw [hkn] at hlearn hlen hq3
      have hl0 : learn i s own x = some j0 := hlearn
      obtain ⟨σ5, e5⟩ : ∃ σ5, σ5 = SO σ3 σ.next (cP x τ .nils (dTl us)) := ⟨_, rfl⟩
      have f5 : ∀ m, Fx σ3 σ5 (fun a => a = σ.next) m := fun m => by rw [e5]; exact fx_SO _ _ _ _
      have hmi5 : MI σ5 pm pc mc ps m n1 K1 v c := hmi3.fx (f5 m) (by omega) (by omega) (fun a ha e => by have := l4 a ha; omega) (hmi3.sk.fx (f5 (m + 1)) (by omega) (by omega))
      have o5 : aget σ5.objs σ.next = some (cP x τ .nils (dTl us)) := by rw [e5]; exact agA _ _ _
      obtain ⟨σ7, e7⟩ : ∃ σ7, σ7 = SO σ5 σ.next (cP x τ .nils (dTl us)) := ⟨_, rfl⟩
      have e75 : σ7 = σ5 := by
        rw [e7, e5]
        simp only [SO, aset_aset]
      refine ⟨σ5, 0, 0, yPt x τ [] us, fσ3.trans (f5 m) fun a ha e => by omega, ?_, N + 5, fun k' hk' => ?_⟩
      · rw [hl0]
        exact ⟨rfl, n1, K1, v, c, hmi5, hst, hK1, hn1, by omega, by omega, .inl rfl, hmp n1 [] (Nat.le_refl _) (by rw [hkn]; exact .nil)⟩
      · obtain ⟨k', rfl⟩ : ∃ j, k' = j + 2 := ⟨k' - 2, by omega⟩
        have hc := con_run (S := S) hS.2.2.2.2.2.2.2.1 hmi5.pn LW_len x.name k'
        rw [hcm] at hc
        have hcl := cloneP_nil hS k' σ3
        have h := (mkc_loop hS (n := k' + 1) pm pc ps k x τ us v .nils d hf (hN (k' + 1) (by omega)) (by rw [hkn]; exact hq3) (by rw [hkn]; exact hcl) rfl rfl rfl (by rw [hkn]; exact hq3) e5 hmi5.obj hc hk 0 hlen none (loopN_stop (mk_end pm σ.next d _ 0))).2 [] σ7.objs rfl o5 (by rw [← e7]; exact fz_cPk x τ .nils [] us _ _ rfl)
        rw [← e7] at h
        rw [h, e75]
    | cons k0 kr =>
      have hne : x.kids ≠ [] := by rw [hkn]; simp
      obtain ⟨σ4, f4, ok4, lk4, r4⟩ := cloneP_run hS x.kids hne h10 σ3
      obtain ⟨kid, hkid⟩ : ∃ kid, kid = σ3.next + 2 := ⟨_, rfl⟩
      rw [← hkid] at ok4 lk4 r4
      have hqk : σ.next ≠ kid := by omega
      have hmi4 := hmi3.fr f4
      have o4 : aget σ4.objs σ.next = some (cP x τ (dPl x.kids) (dTl us)) := (f4.objs _ ln3).trans hq3
      obtain ⟨σ5, e5⟩ : ∃ σ5, σ5 = SO σ4 σ.next (cP x τ (.arr k_1 kid 0 x.kids.length) (dTl us)) := ⟨_, rfl⟩
      have f5 : ∀ m, Fx σ4 σ5 (fun a => a = σ.next) m := fun m => by rw [e5]; exact fx_SO _ _ _ _
      have hmi5 : MI σ5 pm pc mc ps m n1 K1 v c := hmi4.fx (f5 m) (by omega) (by omega) (fun a ha e => by have := l4 a ha; omega) (hmi4.sk.fx (f5 (m + 1)) (by omega) (by omega))
      have o5 : aget σ5.objs σ.next = some (cP x τ (.arr k_1 kid 0 x.kids.length) (dTl us)) := by rw [e5]; exact agA _ _ _
      have ok5 : aget σ5.objs kid = some (pcl x.kids) := ((f5 m).objs kid lk4 (fun e => hqk e.symm)).trans ok4
      have ln5 : σ4.next ≤ σ5.next := (f5 m).le
      have off5 : Off σ5 pm pc ps v σ.next := off3.next (Nat.le_trans f4.le ln5) (.inl rfl)
      have offk : Off σ5 pm pc ps v kid := ⟨by omega, by omega, by omega, by omega, fun e => by have := l4 _ e; omega⟩
      obtain ⟨σ6, o, f6, hres, N6, r6⟩ := mk_loop hS pm pc mc ps m σ.next kid d d.cons[k].fs us cs x τ n1 x.kids.length hlen hcs rfl h10 hqk hT hM x.kids.length 0 x.kids σ5 n1 K1 v c j0 (by omega) rfl rfl hmi5 hst hK1 (Nat.le_refl _) (by simp only [List.drop_zero]; omega) (by simp only [List.drop_zero]; omega) off5 offk o5 ok5 (by simp only [List.take_zero]; exact .nil)
      simp only [List.drop_zero] at hres
      have f356 : Fx σ σ6 (XM pm ps v) m := by
        have g1 : Fx σ σ4 (XM pm ps v) m := fσ3.trans (f4.fx (fun _ => False) m) fun _ _ h => h.elim
        have g2 : Fx σ σ5 (XM pm ps v) m := g1.trans (f5 m) fun a ha e => by omega
        exact g2.trans f6 fun a ha e => by
          rcases e with e | e
          · exact e
          · omega
      have hrun : ∀ k', N + N6 + 5 ≤ k' → ∃ k'', k' = k'' + 2 ∧ T S (k'' + 1) n_38 [.ptr pc 0, .str x.name] σ5 = some (.ret ⟨false, .tup [dDa d, .int .i64 k, .bool true]⟩, σ5) := fun k' hk' => by
        obtain ⟨k', rfl⟩ : ∃ j, k' = j + 2 := ⟨k' - 2, by omega⟩
        have hc := con_run (S := S) hS.2.2.2.2.2.2.2.1 hmi5.pn LW_len x.name k'
        rw [hcm] at hc
        exact ⟨k', rfl, hc⟩
      cases hl : learnL j0 cs x.kids with
      | none =>
        rw [hl] at hres hlearn
        obtain ⟨p, hp, hp1⟩ := hres
        refine ⟨σ6, p.1, p.2, zPt, f356, by rw [hlearn]; exact hp1, N + N6 + 5, fun k' hk' => ?_⟩
        obtain ⟨k'', rfl, hc⟩ := hrun k' hk'
        exact (mkc_loop hS (n := k'' + 1) pm pc ps k x τ us v _ d hf (hN (k'' + 1) (by omega)) hq3 (r4 k'') rfl rfl rfl o4 e5 hmi5.obj hc hk x.kids.length hlen o (r6 (k'' + 1) (k'' + 1) (by omega) (by omega))).1 p hp
      | some j' =>
        rw [hl] at hres hlearn
        obtain ⟨ho, n', K', v', c', L', g1, g2, g3, g4, g5, g6, g7, g8, g9, g10, g11⟩ := hres
        have offq6 := off5.next f6.le g7
        have offk6 := offk.next f6.le g7
        obtain ⟨σ7, e7⟩ : ∃ σ7, σ7 = SO σ6 σ.next (cP x τ (.arr k_1 kid 0 x.kids.length) (dTl us)) := ⟨_, rfl⟩
        have f7 : ∀ m, Fx σ6 σ7 (fun a => a = σ.next) m := fun m => by rw [e7]; exact fx_SO _ _ _ _
        have hmi7 : MI σ7 pm pc mc ps m n' K' v' c' := g1.fx (f7 m) (fun e => offq6.m e.symm) (fun e => offq6.c e.symm) (fun a ha e => offq6.v (by rw [ha, e])) (g1.sk.fx (f7 (m + 1)) (fun e => offq6.s e.symm) (by omega))
        have ok7 : aget σ7.objs kid = some (pcl L') := ((f7 m).objs kid offk6.lt (fun e => hqk e.symm)).trans g10
        have offk7 := offk6.next (f7 m).le (.inl rfl)
        obtain ⟨σ8, e8⟩ : ∃ σ8 : Store, σ8 = { σ7 with objs := adel1 σ7.objs kid } := ⟨_, rfl⟩
        have f8 : ∀ m, Fx σ7 σ8 (fun a => a = kid) m := fun m => by
          rw [e8]
          exact ⟨Nat.le_refl _, fun a _ h => aget_adel kid a (fun e => h e.symm) _, fun _ _ _ => rfl, fun _ _ _ => rfl⟩
        have hmi8 : MI σ8 pm pc mc ps m n' K' v' c' := hmi7.fx (f8 m) (fun e => offk7.m e.symm) (fun e => offk7.c e.symm) (fun a ha e => offk7.v (by rw [ha, e])) (hmi7.sk.fx (f8 (m + 1)) (fun e => offk7.s e.symm) (by omega))
        have hL0 : L' ≠ [] := fun e => by
          rw [e] at g8
          exact hne (List.length_eq_zero_iff.1 g8.symm)
        have hfz := fz_kids ok7 hL0
        rw [g8] at hfz
        have lσ5 : σ.next ≤ σ5.next := by omega
        refine ⟨σ8, 0, 0, yPt x τ L' us, (f356.trans (f7 m) fun a ha e => by omega).trans (f8 m) fun a ha e => by omega, ?_, N + N6 + 5, fun k' hk' => ?_⟩
        · rw [hlearn]
          refine ⟨rfl, n', K', v', c', hmi8, g2, g3, by omega, by omega, by omega, ?_, hmp n' L' g4 g11⟩
          rcases g7 with g7 | g7
          · exact .inl g7
          · exact .inr fun a ha => Nat.le_trans lσ5 (g7 a ha)
        · obtain ⟨k'', rfl, hc⟩ := hrun k' hk'
          have h := (mkc_loop hS (n := k'' + 1) pm pc ps k x τ us v _ d hf (hN (k'' + 1) (by omega)) hq3 (r4 k'') rfl rfl rfl o4 e5 hmi5.obj hc hk x.kids.length hlen o (r6 (k'' + 1) (k'' + 1) (by omega) (by omega))).2 L' (adel1 σ7.objs kid) ho g9 (by rw [← e7]; exact fz_cPk x τ _ L' us _ _ hfz)
          rw [← e7, ← e8] at h
          exact h
end Go.Fu

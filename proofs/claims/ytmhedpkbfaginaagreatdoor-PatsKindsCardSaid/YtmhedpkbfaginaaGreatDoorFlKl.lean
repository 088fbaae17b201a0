/-
  What a pattern of the world tells of its type; a pattern that was made.
-/
import Derived.Test.YtmhedpkbfaginaaGreatDoorFlYh
set_option maxHeartbeats 4000000
set_option linter.unusedSimpArgs false
set_option linter.unusedVariables false
set_option linter.unusedSectionVars false
namespace Go.Fu
open Go Go.Mx
set_option maxRecDepth 10000
inductive Sx where
  | R | E
  | G (t : Nat)
def isK (x : Pt) : Bool := x.form == 3 || x.form == 4
mutual
def lkE : Pt → Bool
  | .mk _ _ _ _ l _ _ => lkL l
def lkL : List Pt → Bool
  | [] => false
  | x :: r => match r with
    | [] => lkE x
    | _ :: _ => isK x || lkL r
end
def pinf (own : Nat) (x : Pt) : Inf := if isK x then (match own with
  | 0 => .int
  | 1 => .bool
  | 2 => .li (if lkE x then 1 else 0)
  | 3 => .tt
  | _ => .li (if lkE x then 2 else 0)) else .un
def learnE (A : Bool) (c : Nat) : Inf → Option Inf
  | .li e => if A then (joinE e c).map Inf.li else some (.li e)
  | _ => none
def learn (i : Inf) : Sx → Nat → Pt → Option Inf
  | .R, own, x => join i (pinf own x)
  | .E, own, x => learnE (isK x) (own + 1) i
  | .G _, _, _ => some i
def kcl (own : Nat) (ks : List Nat) : List (Nat × Sx) := if own = 2 ∨ own = 4 then (match ks with
  | [a, b] => [(a, .E), (b, .R)]
  | _ => []) else ks.map fun t => (t, .G t)
theorem W.free {t : Nat} {x : Pt} (h : W t x) : isK x = false → lkE x = false := by
  cases h with
  | wild => intro _; rfl
  | name => intro _; rfl
  | num =>
    intro h
    exact absurd h (show ¬ (true = false) by decide)
  | con _ _ =>
    intro h
    exact absurd h (show ¬ (true = false) by decide)
def TyC (own n : Nat) : Sx → Ty → Prop
  | .R, τ => τ = tMeta 1 ∨ ((own = 2 ∨ own = 4) ∧ ∃ k : Nat, 2 ≤ k ∧ k ≤ n ∧ τ = tL (tMeta k))
  | .E, τ => (own = 0 ∨ own = 1) ∧ ∃ k : Nat, 2 ≤ k ∧ k ≤ n ∧ τ = tMeta k
  | .G t, τ => t = own ∧ (own = 0 ∨ own = 1 ∨ own = 3) ∧ τ = wt t
theorem TyC.mono {own n m : Nat} {s : Sx} {τ : Ty} (h : TyC own n s τ) (hn : n ≤ m) : TyC own m s τ := by
  cases s with
  | R =>
    rcases h with h | ⟨ho, k, h1, h2, h3⟩
    · exact .inl h
    · exact .inr ⟨ho, k, h1, by omega, h3⟩
  | E =>
    obtain ⟨ho, k, h1, h2, h3⟩ := h
    exact ⟨ho, k, h1, by omega, h3⟩
  | G t => exact h
theorem TyC.fine {own n : Nat} {s : Sx} {τ : Ty} (h : TyC own n s τ) : Fine τ := by
  cases s with
  | R =>
    rcases h with rfl | ⟨ho, k, h1, h2, rfl⟩
    · exact fine_meta _
    · exact fine_app (fine_con _) (fine_meta _)
  | E =>
    obtain ⟨ho, k, h1, h2, rfl⟩ := h
    exact fine_meta _
  | G t =>
    obtain ⟨rfl, ho, rfl⟩ := h
    rcases ho with rfl | rfl | rfl <;> exact fine_con _
mutual
inductive Mp (n : Nat) : Nat → Sx → Pt → Pt → Prop
  | flat {own : Nat} {s : Sx} {f p m : Int} {nm : Tx} {τ ty : Ty} {ts : List Ty} (hf : f = 1 ∨ f = 2 ∨ (f = 3 ∧ own = 0)) (hτ : TyC own n s τ) : Mp n own s (.mk f p m nm [] ty ts) (.mk f p m nm [] τ [])
  | con {own : Nat} {s : Sx} {p m : Int} {nm : Tx} {ks : List Nat} {l l' : List Pt} {τ ty : Ty} {ts us : List Ty} (hm : (nm, ks) ∈ wcons own) (hτ : TyC own n s τ) (hu : ((own = 2 ∨ own = 4) ∧ s = .R ∧ ∃ k : Nat, 2 ≤ k ∧ k ≤ n ∧ us = [tMeta k]) ∨ ((own = 1 ∨ own = 3) ∧ us = [])) (hl : MpL n (kcl own ks) l l') : Mp n own s (.mk 4 p m nm l ty ts) (.mk 4 p m nm l' τ us)
inductive MpL (n : Nat) : List (Nat × Sx) → List Pt → List Pt → Prop
  | nil : MpL n [] [] []
  | cons {c : Nat × Sx} {cs : List (Nat × Sx)} {x y : Pt} {l l' : List Pt} (h : Mp n c.1 c.2 x y) (hl : MpL n cs l l') : MpL n (c :: cs) (x :: l) (y :: l')
end
mutual
theorem Mp.mono {n n' : Nat} (hn : n ≤ n') : ∀ {x y : Pt} {own : Nat} {s : Sx}, Mp n own s x y → Mp n' own s x y
  | .mk f p m nm l ty ts, y, own, s, h => by
    cases h with
    | flat hf hτ => exact .flat hf (hτ.mono hn)
    | con hm hτ hu hl =>
      refine .con hm (hτ.mono hn) ?_ (hl.mono hn)
      rcases hu with ⟨h1, h2, k, h3, h4, h5⟩ | h
      · exact .inl ⟨h1, h2, k, h3, by omega, h5⟩
      · exact .inr h
theorem MpL.mono {n n' : Nat} (hn : n ≤ n') : ∀ {l l' : List Pt} {cs : List (Nat × Sx)}, MpL n cs l l' → MpL n' cs l l'
  | [], _, _, h => by
    cases h
    exact .nil
  | x :: r, _, _, h => by
    cases h with
    | cons h hl => exact .cons (h.mono hn) (hl.mono hn)
end
end Go.Fu
namespace Go.Fu
open Go Go.Mx
set_option maxRecDepth 10000
set_option maxHeartbeats 1000000
structure Off (σ : Store) (pm pc ps : Nat) (v : D) (q : Nat) : Prop where
  lt : q < σ.next
  m : q ≠ pm
  c : q ≠ pc
  s : q ≠ ps
  v : vid v ≠ some q
theorem Off.not {σ : Store} {pm pc ps q : Nat} {v : D} (h : Off σ pm pc ps v q) : ¬ XM pm ps v q := by
  rintro (e | e | e)
  · exact h.s e
  · exact h.m e
  · exact h.v e
theorem Off.next {σ σ' : Store} {pm pc ps q : Nat} {v v' : D} (h : Off σ pm pc ps v q) (hl : σ.next ≤ σ'.next) (hv : vid v' = vid v ∨ ∀ j, vid v' = some j → σ.next ≤ j) : Off σ' pm pc ps v' q := by
  refine ⟨Nat.lt_of_lt_of_le h.lt hl, h.m, h.c, h.s, fun e => ?_⟩
  rcases hv with hv | hv
  · exact h.v (hv ▸ e)
  · have := hv q e
    have := h.lt
    omega
def MakeOk (S : Specs) (own : Nat) (s : Sx) (x : Pt) : Prop := ∀ (σ : Store) (pm pc mc ps m n : Nat) (K : Kn) (v : D) (c : Nat) (i : Inf) (τ : Ty), MI σ pm pc mc ps m n K v c → StK K n i → FineK K → TyC own n s τ → n + x.size < 900 → c + x.size < 900 → ∃ (σ' : Store) (e at_ : Int) (y : Pt), Fx σ σ' (XM pm ps v) m ∧ (match learn i s own x with
    | some j => e = 0 ∧ ∃ n' K' v' c', MI σ' pm pc mc ps m n' K' v' c' ∧ StK K' n' j ∧ FineK K' ∧ n ≤ n' ∧ n' ≤ n + x.size ∧ c' ≤ c + x.size ∧ (vid v' = vid v ∨ ∀ j, vid v' = some j → σ.next ≤ j) ∧ Mp n' own s x y
    | none => e ≠ 0) ∧ ∃ N, ∀ k, N ≤ k → T S k n_155 [.ptr pm 0, dPt x, dTy τ] σ = some (.ret (mkR y e at_), σ')
theorem MpL.snoc {n : Nat} : ∀ {cs : List (Nat × Sx)} {l l' : List Pt} {c : Nat × Sx} {x y : Pt}, MpL n cs l l' → Mp n c.1 c.2 x y → MpL n (cs ++ [c]) (l ++ [x]) (l' ++ [y])
  | [], _, _, _, _, _, .nil, h => .cons h .nil
  | _ :: _, _, _, _, _, _, .cons h1 h2, h => .cons h1 (h2.snoc h)
theorem XM.old {σ : Store} {pm ps : Nat} {v v1 : D} (h1 : vid v1 = vid v ∨ ∀ j, vid v1 = some j → σ.next ≤ j) {j : Nat} (hj : j < σ.next) (h : XM pm ps v1 j) : XM pm ps v j := by
  rcases h with h | h | h
  · exact .inl h
  · exact .inr (.inl h)
  · rcases h1 with h1 | h1
    · exact .inr (.inr (h1 ▸ h))
    · have := h1 j h
      omega
end Go.Fu
namespace Go.Fu
open Go Go.Mx
set_option maxRecDepth 10000
set_option maxHeartbeats 1000000
theorem Fr.then {σ σ1 σ2 : Store} {X Y : Nat → Prop} {m : Nat} (h : Fr σ σ1) (k : Fx σ1 σ2 X m) (hX : ∀ j, j < σ.next → X j → Y j) : Fx σ σ2 Y m := (h.fx Y m).trans k hX
end Go.Fu
namespace Go.Fu
open Go Go.Mx
set_option maxRecDepth 100000
set_option maxHeartbeats 1000000
structure GB (σ : Store) (pg p m md mc : Nat) (ar : List (Tx × Nat)) : Prop where
  obj : aget σ.objs pg = some [⟨false, .ptr p 0⟩, ⟨false, .map md⟩, ⟨false, .map mc⟩]
  lt : pg < σ.next
  ne : pg ≠ p
  sq : SQ σ p m 0 []
  dat : ∃ es c, aget σ.oth md = some (.map es c) ∧ ∀ s j, (s, j) ∈ ar → ∃ b i, findM (.str s) es = some (some (kcD j, b, i))
  ltd : md < σ.next
  nd : md ≠ m
theorem GB.fr {σ σ' : Store} {pg p m md mc : Nat} {ar : List (Tx × Nat)} (h : GB σ pg p m md mc ar) (f : Fr σ σ') : GB σ' pg p m md mc ar := by
  obtain ⟨es, c, g1, g2⟩ := h.dat
  exact ⟨(f.objs _ h.lt).trans h.obj, Nat.lt_of_lt_of_le h.lt f.le, h.ne, SB.fr h.sq f, ⟨es, c, (f.oth _ h.ltd).trans g1, g2⟩, Nat.lt_of_lt_of_le h.ltd f.le, h.nd⟩
theorem of1_run {S : Specs} (hS : KndS S) {σ : Store} {pg p m md mc bg bn bk bt bo : Nat} {vs : List Tx} {ar : List (Tx × Nat)} {t : Ty} (hv : vs.length < 4) (hn : vs.Nodup) (hko : KO vs ar t 0) (hsz : tsz t < 90000) (h : GB σ pg p m md mc ar) (hbg : aget σ.objs bg = some [⟨false, .ptr pg 0⟩]) (hbn : aget σ.objs bn = some [⟨false, dSs vs⟩]) (hbk : aget σ.objs bk = some [⟨false, dKl vs.length⟩]) (hbt : aget σ.objs bt = some (bT t)) (hbo : aget σ.objs bo = some [⟨false, .nils⟩]) (lbg : bg < σ.next) (lbt : bt < σ.next) (lbo : bo < σ.next) (nbg : bg ≠ p) (nbo : bo ≠ p) : ∃ σ', Fx σ σ' (fun j => j = p ∨ j = bo) m ∧ aget σ'.objs bo = some [⟨false, .nils⟩] ∧ ∃ N, ∀ k, N ≤ k → T S k n_60 [.ptr bg 0, .ptr bn 0, .ptr bk 0, .ptr bt 0, .ptr bo 0] σ = some (.ret ⟨false, .tup []⟩, σ') := by
  obtain ⟨σ1, mv, ev, cv, f1, lm, lm2, g1, g2, N1, r1⟩ := zip_run hS vs hv hn σ
  have h1 := h.fr f1
  have lp := h.sq.lt
  have lmm := h.sq.ltm
  have hG : GI σ1 pg p m 0 [] md mc mv vs ar := ⟨h1.obj, h1.lt, h1.ne, h1.sq, h1.dat, h1.ltd, h1.nd, ⟨ev, cv, g1, g2⟩, lm2, by omega, fun _ h => by cases h⟩
  obtain ⟨σ2, τ, q, Q, f2, h2, t2, _, _, N2, r2⟩ := of_run hS.1 hS.2.1 hko σ1 0 [] hG (by omega)
  obtain ⟨σ3, e3⟩ : ∃ σ3, σ3 = SO σ2 bo [⟨false, .nils⟩] := ⟨_, rfl⟩
  have f3 : Fx σ2 σ3 (fun j => j = bo) m := by rw [e3]; exact fx_SO _ _ _ _
  have f12 : Fx σ σ2 (fun j => j = p) m := f1.then f2 fun _ _ h => h
  have hbo2 : aget σ2.objs bo = some [⟨false, .nils⟩] := (f12.objs _ lbo nbo).trans hbo
  refine ⟨σ3, (f12.mono fun _ _ h => .inl h).trans f3 fun _ _ h => .inr h, by rw [e3]; exact agA _ _ _, N1 + N2 + 8, fun k hk => ?_⟩
  obtain ⟨k, rfl⟩ : ∃ j, k = j + 2 := ⟨k - 2, by omega⟩
  have ht := call_terms hS.2.2.1 hv k σ
  have r1 := r1 (k + 1) (by omega)
  have r2 := r2 (k + 1) (by omega)
  have hK := kkind_run hS t2 h2.sq (k + 1) (by omega)
  have ho := h.obj
  have a0 : ∀ e : Env, aget e.slots 0 = some ⟨false, .ptr bg 0⟩ → sameW e σ σ1 0 = true := fun e he => sameW_obj he (f1.objs _ lbg)
  have a3 : ∀ e : Env, aget e.slots 3 = some ⟨false, .ptr bt 0⟩ → sameW e σ σ1 3 = true := fun e he => sameW_obj he (f1.objs _ lbt)
  have a7 : ∀ e : Env, aget e.slots 7 = some ⟨false, .ptr pg 0⟩ → sameW e σ σ1 7 = true := fun e he => sameW_obj he (f1.objs _ h.lt)
  have b0 : ∀ e : Env, aget e.slots 0 = some ⟨false, .ptr bg 0⟩ → sameW e σ1 σ2 0 = true := fun e he => sameW_obj he (f2.objs _ (Nat.lt_of_lt_of_le lbg f1.le) nbg)
  have b7 : ∀ e : Env, aget e.slots 7 = some ⟨false, .ptr pg 0⟩ → sameW e σ1 σ2 7 = true := fun e he => sameW_obj he (f2.objs _ h1.lt h.ne)
  obtain ⟨tf, tn, tx, rfl, o1, o2, o3⟩ := t2.agg
  simp only [bT] at hbt
  simp only [dTy_eq, cTy_eq] at r2
  rw [T_fun (af := a_84) hS.2.2.2.2.2.2.2.2.2.1 rfl rfl]
  simp only [a_84, sA, Nat.reduceAdd, Nat.reduceSub, Nat.reduceMul, Nat.reduceBEq, Nat.reduceLeDiff, Int.reduceBEq, Int.reduceBNe, Int.reduceLE, Int.reduceLT, Int.reduceGE, Int.reduceGT, Int.reduceNeg, kn, onel, kon, hbg, hbn, hbk, hbt, ho, ht, r1, r2, hK, callX_retW, List.all_cons, List.all_nil, a0, a3, a7, b0, b7, Bool.and_true, memE, mStoreP, hbo2, ← e3, o1, o2, o3]
end Go.Fu
namespace Go.Fu
open Go Go.Mx
set_option maxRecDepth 100000
set_option maxHeartbeats 1000000
theorem kfnF {f : FuncId} {a b : List D} : (D.fn (.func f) a b).fnF? = ifB (isY f) none (some (f, a, b)) := rfl
theorem kfn {f : FuncId} {a b : List D} : (D.fn (.func f) a b).fn? = ifB (isY f) none (some (f, a, b)) := rfl
theorem y_tried1 : isY n_128 = false := rfl
theorem y_of1 : isY n_60 = false := rfl
theorem tried1_run (q : Nat) (σ : Store) : Ra n_128 [.ptr q 0] none σ = some (none, σ) := by
  have h : Ra n_128 [.ptr q 0] none σ = recRun (fun _ _ _ => none) 3 a_91 1 4 1 [.ptr q 0] none σ := rfl
  rw [h]
  unfold recRun recEnv
  simp only [a_91, sA, Nat.reduceAdd, Nat.reduceSub, Nat.reduceMul, Nat.reduceBEq, Nat.reduceLeDiff, Int.reduceBEq, Int.reduceBNe, Int.reduceLE, Int.reduceLT, Int.reduceGE, Int.reduceGT, Int.reduceNeg, kn, D.isNil?]
theorem tried_run {S : Specs} (hS : has S n_127 = false) (a b c d e : Nat) (σ σ2 : Store) (h : aget σ2.objs σ.next = some [⟨false, .bool false⟩]) (n : Nat) (h1 : T S (n + 1) n_60 [.ptr a 0, .ptr b 0, .ptr c 0, .ptr d 0, .ptr e 0] (GA σ t_bool [⟨false, .bool false⟩]) = some (.ret ⟨false, .tup []⟩, σ2)) : T S (n + 2) n_127 [.fn (.func n_60) [] [.ptr a 0, .ptr b 0, .ptr c 0, .ptr d 0, .ptr e 0]] σ = some (.ret ⟨false, .bool true⟩, SO σ2 σ.next [⟨false, .bool true⟩]) := by
  rw [T_fun (af := a_90) hS rfl rfl]
  have hs : aget (SO σ2 σ.next [⟨false, .bool true⟩]).objs σ.next = some [⟨false, .bool true⟩] := agA _ _ _
  have hz : ∀ x : D, [x].map Cell.of = [Cell.of x] := fun _ => rfl
  have hc : Cell.of (.bool false) = ⟨false, .bool false⟩ := rfl
  have hr := tried1_run σ.next (SO σ2 σ.next [⟨false, .bool true⟩])
  simp only [a_90, sA, Nat.reduceAdd, Nat.reduceSub, Nat.reduceMul, Nat.reduceBEq, Nat.reduceLeDiff, Int.reduceBEq, Int.reduceBNe, Int.reduceLE, Int.reduceLT, Int.reduceGE, Int.reduceGT, Int.reduceNeg, kn, memE, mGalloc, hz, hc, kfnF, kfn, y_tried1, y_of1, h1, h, fold_SO, hr, hs]
end Go.Fu
namespace Go.Fu
open Go Go.Mx
set_option maxRecDepth 100000
set_option maxHeartbeats 1000000
theorem of_bT (t : Ty) : (cTy t).map Cell.of = bT t := rfl
theorem of_one (x : D) : [x].map Cell.of = [⟨false, x⟩] := rfl
theorem kof_run {S : Specs} (hS : KndS S) (ds : List Da) (hl : ds.length ≤ 900) (hv : ∀ d ∈ pre3 ++ ds, d.vars.length < 4) (hn : ((pre3 ++ ds).map Da.name).Nodup) (vs : List Tx) (hvl : vs.length < 4) (hvn : vs.Nodup) (t : Ty) (hko : KO vs (arl (pre3 ++ ds)) t 0) (hsz : tsz t < 90000) (σ : Store) : ∃ σ' N, ∀ k C, N ≤ k → finX Ra C a_36 σ.next (exec (T S k) k none a_36.body (initEnv [dPr ds, dSs vs, dKl vs.length, dTy t]) σ) = some (.ret ⟨false, .tup [.agg [.nils], .int .i64 0]⟩, σ') := by
  obtain ⟨σ1, e1⟩ : ∃ σ1, σ1 = GA σ t_35 [⟨false, dSs vs⟩] := ⟨_, rfl⟩
  obtain ⟨σ2, e2⟩ : ∃ σ2, σ2 = GA σ1 t_229 [⟨false, dKl vs.length⟩] := ⟨_, rfl⟩
  obtain ⟨σ3, e3⟩ : ∃ σ3, σ3 = GA σ2 t_82 (bT t) := ⟨_, rfl⟩
  obtain ⟨σ4, e4⟩ : ∃ σ4, σ4 = GA σ3 t_231 [⟨false, .nils⟩] := ⟨_, rfl⟩
  have n1 : σ1.next = σ.next + 1 := by rw [e1]; rfl
  have n2 : σ2.next = σ.next + 2 := by rw [e2]; show σ1.next + 1 = _; omega
  have n3 : σ3.next = σ.next + 3 := by rw [e3]; show σ2.next + 1 = _; omega
  have n4 : σ4.next = σ.next + 4 := by rw [e4]; show σ3.next + 1 = _; omega
  have f2 : Fr σ1 σ2 := by rw [e2]; exact fr_GA _ _ _
  have f3 : Fr σ2 σ3 := by rw [e3]; exact fr_GA _ _ _
  have f4 : Fr σ3 σ4 := by rw [e4]; exact fr_GA _ _ _
  have o1 : aget σ1.objs σ.next = some [⟨false, dSs vs⟩] := by rw [e1]; exact GA_self
  have o2 : aget σ2.objs (σ.next + 1) = some [⟨false, dKl vs.length⟩] := by rw [e2, ← n1]; exact GA_self
  have o3 : aget σ3.objs (σ.next + 2) = some (bT t) := by rw [e3, ← n2]; exact GA_self
  have o4 : aget σ4.objs (σ.next + 3) = some [⟨false, .nils⟩] := by rw [e4, ← n3]; exact GA_self
  obtain ⟨σ5, pg, p, m, md, mc, f5, p1, p2, p3, p4, p5, p6, p7, p8, p9, p10, Nb, rb⟩ := behind_run hS ds hl hv hn σ4
  obtain ⟨σ6, e6⟩ : ∃ σ6, σ6 = GA σ5 t_230 [⟨false, .nilp⟩] := ⟨_, rfl⟩
  have n6 : σ6.next = σ5.next + 1 := by rw [e6]; rfl
  have f6 : Fr σ5 σ6 := by rw [e6]; exact fr_GA _ _ _
  have o6 : aget σ6.objs σ5.next = some [⟨false, .nilp⟩] := by rw [e6]; exact GA_self
  obtain ⟨σ7, e7⟩ : ∃ σ7, σ7 = SO σ6 σ5.next [⟨false, .ptr pg 0⟩] := ⟨_, rfl⟩
  have o7 : aget σ7.objs σ5.next = some [⟨false, .ptr pg 0⟩] := by rw [e7]; exact agA _ _ _
  have f7 : Fr σ5 σ7 := by
    have g : Fx σ6 σ7 (fun j => j = σ5.next) m := by rw [e7]; exact fx_SO _ _ _ _
    refine ⟨Nat.le_trans f6.le g.le, fun j hj => (g.objs j (by omega) (by omega)).trans (f6.objs j hj), fun j hj => ?_, fun j hj => ?_⟩
    · rw [e7]; exact f6.oth j hj
    · rw [e7]; exact f6.tys j hj
  have n7 : σ7.next = σ5.next + 1 := by rw [e7]; exact n6
  obtain ⟨σ8, e8⟩ : ∃ σ8, σ8 = GA σ7 t_bool [⟨false, .bool false⟩] := ⟨_, rfl⟩
  have f8 : Fr σ7 σ8 := by rw [e8]; exact fr_GA _ _ _
  have n8 : σ8.next = σ5.next + 2 := by rw [e8]; show σ7.next + 1 = _; omega
  have o8 : aget σ8.objs σ7.next = some [⟨false, .bool false⟩] := by rw [e8]; exact GA_self
  have l5 := f5.le
  have f48 : Fr σ4 σ8 := (f5.trans f7).trans f8
  have hG : GB σ5 pg p m md mc (arl (pre3 ++ ds)) := ⟨p1, p2, p3, p4, ⟨_, _, p5, fun s j hs => by
    obtain ⟨d, hd, e⟩ := List.mem_map.1 hs
    cases e
    refine findS_some 0 (List.mem_map.2 ⟨d, hd, rfl⟩) ?_
    rw [List.map_map]
    exact hn⟩, p6, p7⟩
  obtain ⟨σ9, f9, ob, N9, r9⟩ := of1_run (bg := σ5.next) (bn := σ.next) (bk := σ.next + 1) (bt := σ.next + 2) (bo := σ.next + 3) hS hvl hvn hko hsz (hG.fr (f7.trans f8)) ((f8.objs _ (by omega)).trans o7) ((f48.objs _ (by omega)).trans ((f4.objs _ (by omega)).trans ((f3.objs _ (by omega)).trans ((f2.objs _ (by omega)).trans o1)))) ((f48.objs _ (by omega)).trans ((f4.objs _ (by omega)).trans ((f3.objs _ (by omega)).trans o2))) ((f48.objs _ (by omega)).trans ((f4.objs _ (by omega)).trans o3)) ((f48.objs _ (by omega)).trans o4) (by omega) (by omega) (by omega) (by have := p4.lt; omega) (by omega)
  have o9 : aget σ9.objs σ7.next = some [⟨false, .bool false⟩] := (f9.objs _ (by omega) (by have := p4.lt; omega)).trans o8
  obtain ⟨σa, ea⟩ : ∃ σa, σa = SO σ9 σ7.next [⟨false, .bool true⟩] := ⟨_, rfl⟩
  have oa : aget σa.objs (σ.next + 3) = some [⟨false, .nils⟩] := by
    rw [ea]
    exact (agB _ _ _ (beq_false_of_ne (by omega)) _).trans ob
  obtain ⟨σb, eb⟩ : ∃ σb, σb = SO σa (σ.next + 3) [⟨false, .nils⟩] := ⟨_, rfl⟩
  have hob : aget σb.objs (σ.next + 3) = some [⟨false, .nils⟩] := by rw [eb]; exact agA _ _ _
  have hoc : aget (SO σb (σ.next + 3) [⟨false, .nils⟩]).objs (σ.next + 3) = some [⟨false, .nils⟩] := agA _ _ _
  refine ⟨SO σb (σ.next + 3) [⟨false, .nils⟩], Nb + N9 + 5, fun k C hk => ?_⟩
  obtain ⟨k, rfl⟩ : ∃ j, k = j + 2 := ⟨k - 2, by omega⟩
  have rb := rb (k + 2) (by omega)
  have rt := tried_run hS.2.2.2.2.2.2.2.2.2.2.1 σ5.next σ.next (σ.next + 1) (σ.next + 2) (σ.next + 3) σ7 σ9 o9 k (by rw [← e8]; exact r9 (k + 1) (by omega))
  rw [← ea] at rt
  have hP : dPr ds = .agg [dDl ds, .nils, .nils, .nils] := rfl
  have hnp : Cell.of .nilp = ⟨false, .nilp⟩ := rfl
  simp only [a_36, sA, Nat.reduceAdd, Nat.reduceSub, Nat.reduceMul, Nat.reduceBEq, Nat.reduceLeDiff, Int.reduceBEq, Int.reduceBNe, Int.reduceLE, Int.reduceLT, Int.reduceGE, Int.reduceGT, Int.reduceNeg, kn, onel, memE, mGbox, mGalloc, dTy_eq, hP, of_bT, of_one, ← e1, n1, ← e2, n2, ← e3, n3, ← e4, rb, ← e6, o6, fold_SO, ← e7, y_of1, rt, oa, ← eb, hob, hoc]
end Go.Fu
namespace Go.Fu
open Go Go.Mx
set_option maxRecDepth 100000
set_option maxHeartbeats 1000000
theorem KO.given {vs : List Tx} {ar : List (Tx × Nat)} : ∀ (l : List Ty) (f : Ty) (j : Nat), (∀ a ∈ l, KO vs ar a 0) → j + l.length ≤ 4 → KO vs ar f (j + l.length) → KO vs ar (l.foldl tApp f) j
  | [], _, _, _, _, h => h
  | a :: r, f, j, ha, hj, h => by
    simp only [List.length_cons] at hj h
    exact KO.given r (tApp f a) j (fun x hx => ha x (by simp [hx])) (by omega) (.app (by rw [Nat.add_assoc]; exact h) (ha a (by simp)) (by omega))
theorem KO.fun {vs : List Tx} {ar : List (Tx × Nat)} {a b : Ty} (h : (arrowN, 2) ∈ ar) (ha : KO vs ar a 0) (hb : KO vs ar b 0) : KO vs ar (tFun a b) 0 :=
  .app (.app (.con h (by omega)) ha (by omega)) hb (by omega)
theorem KF.ko {vs : List Tx} {ar : List (Tx × Nat)} {t : Ty} (h : KF vs ar t) (hA : ∀ x ∈ ar, x.2 < 4) (h3 : ∀ x ∈ arl pre3, x ∈ ar) : KO vs ar t 0 := by
  have hI : KO vs ar (givenM [73, 110, 116] []) 0 := .con (h3 _ (by decide)) (by omega)
  have hB : KO vs ar (givenM [66, 111, 111, 108] []) 0 := .con (h3 _ (by decide)) (by omega)
  cases h with
  | var h => exact .var h
  | int => exact hI
  | fn => exact KO.fun (h3 _ (by decide)) hI hB
  | @data s l h hl =>
    have hs := hA _ h
    simp only at hs
    refine KO.given l (tCon s) 0 (fun a ha => ?_) (by omega) (.con (by simpa using h) (by omega))
    obtain ⟨x, hx, rfl⟩ := hl a ha
    exact .var hx
theorem KO.funM {vs : List Tx} {ar : List (Tx × Nat)} {to : Ty} (h : (arrowN, 2) ∈ ar) (ht : KO vs ar to 0) : ∀ l : List Ty, (∀ a ∈ l, KO vs ar a 0) → KO vs ar (funM to l) 0
  | [], _ => ht
  | a :: r, ha => KO.fun h (ha a (by simp)) (KO.funM h ht r fun x hx => ha x (by simp [hx]))
theorem KO.typM {ar : List (Tx × Nat)} {d : Da} {c : Cn} (hd : (d.name, d.vars.length) ∈ ar) (hf : ∀ t ∈ c.fs, KF d.vars ar t) (hA : ∀ x ∈ ar, x.2 < 4) (h3 : ∀ x ∈ arl pre3, x ∈ ar) : KO d.vars ar (typM d c) 0 := by
  have hs := hA _ hd
  simp only at hs
  refine KO.funM (h3 _ (by decide)) (KO.given _ (tCon d.name) 0 (fun a ha => ?_) (by simp only [List.length_map]; omega) (.con (by simpa using hd) (by simp only [List.length_map]; omega))) _ fun t ht => (hf t ht).ko hA h3
  obtain ⟨x, hx, rfl⟩ := List.mem_map.1 ha
  exact .var hx
theorem tsz_var (x : Tx) : tsz (tVar x) = 1 := rfl
theorem tsz_given : ∀ (l : List Ty) (f : Ty), (∀ a ∈ l, tsz a = 1) → tsz (l.foldl tApp f) = tsz f + 2 * l.length
  | [], _, _ => rfl
  | a :: r, f, h => by
    have h1 := h a (by simp)
    rw [List.foldl_cons, tsz_given r (tApp f a) fun x hx => h x (by simp [hx]), tsz_app, h1, List.length_cons]
    omega
theorem tsz_fun (a b : Ty) : tsz (tFun a b) = 3 + tsz a + tsz b := by
  have : tsz (tCon arrowN) = 1 := rfl
  rw [tFun, tsz_app, tsz_app, this]
  omega
theorem KF.tsz {vs : List Tx} {ar : List (Tx × Nat)} {t : Ty} (h : KF vs ar t) (hA : ∀ x ∈ ar, x.2 < 4) : tsz t ≤ 7 := by
  have hI : Go.Fu.tsz (givenM [73, 110, 116] []) = 1 := rfl
  have hB : Go.Fu.tsz (givenM [66, 111, 111, 108] []) = 1 := rfl
  cases h with
  | var h => rw [tsz_var]; omega
  | int => rw [hI]; omega
  | fn => rw [tsz_fun, hI, hB]; omega
  | @data s l h hl =>
    have hs := hA _ h
    simp only at hs
    have : Go.Fu.tsz (tCon s) = 1 := rfl
    rw [givenM, tsz_given l _ fun a ha => by
      obtain ⟨x, _, rfl⟩ := hl a ha
      rfl, this]
    omega
theorem tsz_typM {ar : List (Tx × Nat)} {d : Da} {c : Cn} (hd : d.vars.length < 4) (h2 : c.fs.length ≤ 10) (hf : ∀ t ∈ c.fs, KF d.vars ar t) (hA : ∀ x ∈ ar, x.2 < 4) : tsz (typM d c) < 90000 := by
  have key : ∀ (to : Ty) (l : List Ty), (∀ t ∈ l, tsz t ≤ 7) → tsz (funM to l) ≤ tsz to + 10 * l.length := by
    intro to l
    induction l with
    | nil => intro _; exact Nat.le_refl _
    | cons a r ih =>
      intro h
      have h1 := h a (by simp)
      have h2 := ih fun x hx => h x (by simp [hx])
      have e : funM to (a :: r) = tFun a (funM to r) := rfl
      rw [e, tsz_fun, List.length_cons]
      omega
  have h := key (givenM d.name (d.vars.map tVar)) c.fs fun t ht => (hf t ht).tsz hA
  have hg : tsz (givenM d.name (d.vars.map tVar)) = tsz (tCon d.name) + 2 * (d.vars.map tVar).length := tsz_given _ _ fun a ha => by
    obtain ⟨x, _, rfl⟩ := List.mem_map.1 ha
    rfl
  have : tsz (tCon d.name) = 1 := rfl
  rw [hg, this, List.length_map] at h
  unfold typM
  omega
theorem made_arl {ds : List Da} (h : MadeP ds) : ∀ d ∈ pre3 ++ ds, d.vars.length < 4 := fun d hd => by
  rcases List.mem_append.1 hd with hd | hd
  · simp only [pre3, List.mem_cons, List.not_mem_nil, or_false] at hd
    rcases hd with rfl | rfl | rfl <;> simp
  · obtain ⟨i, hi, rfl⟩ := List.getElem_of_mem hd
    have := (h.2 i _ (List.getElem?_eq_getElem hi)).vars
    omega
theorem made_nodup {ds : List Da} (h : MadeP ds) (hk : MadeK ds) : ((pre3 ++ ds).map Da.name).Nodup := by
  have e : ds.map Da.name = nm4.take ds.length := by
    refine List.ext_getElem (by have := h.1; simp only [List.length_map, List.length_take]; show _ = min _ 4; omega) fun i h1 h2 => ?_
    have hi : i < ds.length := by simpa using h1
    have := hk.nms i _ (List.getElem?_eq_getElem hi)
    have h4 : i < nm4.length := by have := h.1; show i < 4; omega
    rw [List.getElem_map, this, getD_eq _ _ _ h4, List.getElem_take]
  rw [List.map_append, e]
  have h4 := h.1
  generalize ds.length = n at h4
  match n, h4 with
  | 0, _ => decide
  | 1, _ => decide
  | 2, _ => decide
  | 3, _ => decide
  | 4, _ => decide
theorem made_vars {ds : List Da} (hk : MadeK ds) : ∀ d ∈ pre3 ++ ds, d.vars.Nodup := fun d hd => by
  rcases List.mem_append.1 hd with hd | hd
  · simp only [pre3, List.mem_cons, List.not_mem_nil, or_false] at hd
    rcases hd with rfl | rfl | rfl <;> decide
  · rw [hk.vars d hd]
    exact (List.take_sublist _ _).nodup (by decide)
theorem conIn_isSome {s : Tx} : ∀ (l : List Cn) (k : Nat), s ∈ l.map Cn.name → (conIn s l k).isSome = true
  | c :: r, k, h => by
    simp only [conIn]
    by_cases e : c.name = s
    · rw [if_pos e]; rfl
    · rw [if_neg e]
      refine conIn_isSome r (k + 1) ?_
      rw [List.map_cons, List.mem_cons] at h
      rcases h with h | h
      · exact absurd h.symm e
      · exact h
theorem fieldsD_names (d : Da) : ∀ (l : List Cn) (k : Nat), (fieldsD d l k).map Fi.name = l.map Cn.name
  | [], _ => rfl
  | c :: r, k => by rw [fieldsD, List.map_cons, fieldsD_names d r (k + 1)]; rfl
theorem conM_isSome {s : Tx} : ∀ L : List Da, s ∈ (fieldsM L).map Fi.name → (conM s L).isSome = true
  | [], h => by cases h
  | d :: r, h => by
    rw [fieldsM, List.map_append, fieldsD_names, List.mem_append] at h
    simp only [conM]
    cases hc : conIn s d.cons 0 with
    | some k => rfl
    | none =>
      rcases h with h | h
      · have := conIn_isSome d.cons 0 h
        rw [hc] at this
        cases this
      · exact conM_isSome r h
theorem fields_pos (ds : List Da) : 0 < (fieldsM (pre3 ++ ds)).length := by
  have e : fieldsM (pre3 ++ ds) = fieldsD pre3[2] pre3[2].cons 0 ++ fieldsM ds := rfl
  rw [e, List.length_append]
  have : (fieldsD pre3[2] pre3[2].cons 0).length = 2 := rfl
  omega
end Go.Fu
namespace Go.Fu
open Go Go.Mx
set_option maxRecDepth 10000
set_option maxHeartbeats 4000000
structure Fo (σ σ' : Store) : Prop where
  le : σ.next ≤ σ'.next
  objs : ∀ j, j < σ.next → aget σ'.objs j = aget σ.objs j
  oth : ∀ j, j < σ.next → aget σ'.oth j = aget σ.oth j
theorem Fo.refl (σ : Store) : Fo σ σ := ⟨Nat.le_refl _, fun _ _ => rfl, fun _ _ => rfl⟩
structure DF (σb σ : Store) (ids : List Nat) : Prop where
  ds : DS σ ids
  base : ∀ x ∈ ids, σb.next ≤ x
  fo : Fo σb σ
theorem run_dfrf (R : RecF) (C : CallF) : ∀ (ids : List Nat) (σ : Store), DS σ ids → ∃ σ', runDefers R C none (dfs ids) σ = some (none, σ') ∧ σ'.objs = σ.objs ∧ σ'.next = σ.next ∧ ∀ j, j ∉ ids → aget σ'.oth j = aget σ.oth j
  | [], σ, _ => ⟨σ, rfl, rfl, rfl, fun _ _ => rfl⟩
  | x :: r, σ, h => by
    have hY : isY (yldBase + x) = true := Nat.ble_eq_true_of_le (by omega)
    have hx := (h.all x (by simp)).1
    have hr : DS { σ with oth := adel1 σ.oth x } r := by
      refine ⟨fun y hy => ?_, (List.nodup_cons.1 h.once).2⟩
      have hne : x ≠ y := fun e => (List.nodup_cons.1 h.once).1 (e ▸ hy)
      have h2 := h.all y (by simp [hy])
      refine ⟨?_, h2.2⟩
      show aget (adel1 σ.oth x) y = _
      rw [aget_adel1, if_neg hne]
      exact h2.1
    obtain ⟨σ', h2, h3, h4, h5⟩ := run_dfrf R C r _ hr
    refine ⟨σ', ?_, h3, h4, fun j hj => (h5 j fun hm => hj (by simp [hm])).trans ?_⟩
    · simp only [dfs] at h2 ⊢
      simp only [List.map_cons, runDefers, hY, ifB_true, Nat.add_sub_cancel_left, hx, bindO, caseO_some, h2]
    · show aget (adel1 σ.oth x) j = _
      rw [aget_adel1, if_neg fun e => hj (by simp [e])]
theorem fgf_step {σb : Store} {S : Specs} (hg : FgS S) (L : List Da) (acc : List Fi) (i : Nat) (d : Da) (hd : FineD d) (k : Nat) (h : k < d.cons.length) (ha : acc.length ≤ 10000000) (ids : List Nat) (σ : Store) (hDF : DF σb σ ids) (n N : Nat) (hN : 1001 ≤ N) : ∃ σ' ids', exec (T S (N + 3)) n none a_39 (Efg L acc i d k ids) σ = some (.normal, Efg L acc i d (k + 1) ids', σ') ∧ DF σb σ' ids' := by
  have hD := hDF.ds
  have hle := hDF.fo.le
  have hv := hd.vars
  have hc := hd.cons
  have hi : ((k : Int) < (d.cons.length : Int)) := by omega
  have hy := idx_C _ _ h
  have w := wrap64_succ (i := k) (by omega)
  have hti := fine_typ (d := d) (hd.each _ (List.getElem_mem h))
  have h1 := call_typeOf (S := S) hg.ty d hd k h (N + 2) (GA σ t_82 [⟨false, .int .i64 0⟩, ⟨false, .int .i64 0⟩, ⟨false, .str []⟩, ⟨false, .nils⟩])
  have h1' := call_typeOf (S := S) hg.ty d hd k h (N + 2) σ
  have e : fieldsD d (d.cons.take (k + 1)) 0 = fieldsD d (d.cons.take k) 0 ++ [fieldM d k d.cons[k]] := by
    rw [← take_snoc _ k h, fieldsD_snoc]
    congr 3
    simp
    omega
  have hF : fieldM d k d.cons[k] = ⟨d.cons[k].name, k, d.cons.length, d.cons[k].fs.length, allM d.vars (typM d d.cons[k])⟩ := rfl
  unfold Efg
  rw [e, ← List.append_assoc, fl_snoc]
  have hlen : (acc ++ fieldsD d (d.cons.take k) 0).length ≤ 10001000 := by
    rw [List.length_append, fieldsD_len, List.length_take]
    omega
  generalize acc ++ fieldsD d (d.cons.take k) 0 = A at hlen
  have hap := app_F A (fieldM d k d.cons[k]) (fl A) fl_ne (by omega)
  rw [hF] at hap ⊢
  generalize typM d d.cons[k] = t at *
  obtain ⟨σ2, hσ2⟩ : ∃ σ2, σ2 = SO (GA σ t_82 [⟨false, .int .i64 0⟩, ⟨false, .int .i64 0⟩, ⟨false, .str []⟩, ⟨false, .nils⟩]) σ.next (bT t) := ⟨_, rfl⟩
  have hB := mkB_run (S := S) hg.b0 d.vars (N + 2) σ2
  have n2 : σ2.next = σ.next + 1 := by rw [hσ2]; rfl
  obtain ⟨σ3, hσ3⟩ : ∃ σ3, σ3 = GA σ2 t_35 [⟨false, dSs d.vars⟩] := ⟨_, rfl⟩
  rw [← hσ3] at hB
  have n3 : σ3.next = σ.next + 2 := by rw [hσ3]; show σ2.next + 1 = _; omega
  obtain ⟨sl, hsl⟩ : ∃ sl, sl = slF σ.next (dFl A) (.int .i64 k) (dDl L) (.int .i64 L.length) (.int .i64 i) (dCl d.cons) (.int .i64 d.cons.length) (.int .i64 k) (fnB (σ.next + 1)) := ⟨_, rfl⟩
  obtain ⟨τ, hτ⟩ : ∃ τ : Store, τ = { objs := σ3.objs, tys := σ3.tys, oth := (σ3.next + 1, .loop (RF sl .ready)) :: (σ3.next, .dfr) :: σ3.oth, next := σ3.next + 2 } := ⟨_, rfl⟩
  have oa3 : aget σ3.objs σ.next = some (bT t) := by
    rw [hσ3]
    refine (agC _ _ _ _ (by omega)).trans ?_
    rw [hσ2]
    exact agA _ _ _
  have ob3 : aget σ3.objs (σ.next + 1) = some [⟨false, dSs d.vars⟩] := by
    rw [hσ3, ← n2]
    exact agS _ _ _
  have ot3 : σ3.oth = σ.oth := by rw [hσ3, hσ2]; rfl
  have hY : YS τ τ σ.next (σ3.next + 1) t sl .ready := by
    refine ⟨?_, ?_, fun _ _ => rfl, fun _ _ => rfl, rfl⟩
    · rw [hτ]; exact oa3
    · rw [hτ]; exact agS _ _ _
  obtain ⟨σ4, hbk, h4⟩ := backward_run (S := S) hg.b1 hg.al (sl := sl) (by rw [hsl]; exact isF _ _ _ _ _ _ _ _ _ _) d.vars (b := σ.next + 1) (by omega) (by rw [hτ]; exact ob3) hY hti hv N hN
  rw [hτ] at hbk
  obtain ⟨σ5, hσ5⟩ : ∃ σ5 : Store, σ5 = { objs := σ4.objs, tys := σ4.tys, oth := adel1 σ4.oth (σ3.next + 1), next := σ4.next } := ⟨_, rfl⟩
  have he : ∀ e : Env, endLoop (σ3.next + 1) e σ4 = some (.normal, e, σ5) := fun e => by
    have l4 : loopAt σ4 (σ3.next + 1) = some (RF sl .ready) := by simp only [loopAt, h4.rl, bindO, caseO_some]
    rw [hσ5]
    simp only [endLoop, l4, bindO, caseO_some]
    rfl
  have oa5 : aget σ5.objs σ.next = some (bT (allM d.vars t)) := by rw [hσ5]; exact h4.oa
  have hot : ∀ x, x < σ3.next + 1 → aget σ5.oth x = aget τ.oth x := fun x hx => by
    rw [hσ5]
    show aget (adel1 σ4.oth (σ3.next + 1)) x = _
    rw [aget_adel1, if_neg (by omega)]
    exact h4.ft x (by omega)
  have hD5 : DS σ5 (σ3.next :: ids) := by
    have hn5 : σ5.next = σ3.next + 2 := by
      rw [hσ5]
      show σ4.next = _
      rw [h4.nx, hτ]
    refine ⟨fun x hx => ?_, List.nodup_cons.2 ⟨fun hm => ?_, hD.once⟩⟩
    · rcases List.mem_cons.1 hx with rfl | hx
      · refine ⟨?_, by omega⟩
        rw [hot _ (by omega), hτ]
        exact (agC _ _ _ _ (by omega)).trans (agS _ _ _)
      · have h2 := hD.all x hx
        refine ⟨?_, by omega⟩
        rw [hot _ (by omega), hτ]
        refine (agC _ _ _ _ (by omega)).trans ((agC _ _ _ _ (by omega)).trans ?_)
        rw [ot3]
        exact h2.1
    · have := (hD.all _ hm).2
      omega
  have hob : ∀ x, x < σ.next → aget σ5.objs x = aget σ.objs x := fun x hx => by
    rw [hσ5]
    refine (h4.fo x (by omega)).trans ?_
    rw [hτ]
    show aget σ3.objs x = _
    rw [hσ3]
    refine (agC _ _ _ _ (by omega)).trans ?_
    rw [hσ2]
    exact (agB _ _ _ (beq_false_of_ne (by omega)) _).trans (agC _ _ _ _ (by omega))
  have hox : ∀ x, x < σ.next → aget σ5.oth x = aget σ.oth x := fun x hx => by
    rw [hot _ (by omega), hτ]
    refine (agC _ _ _ _ (by omega)).trans ((agC _ _ _ _ (by omega)).trans ?_)
    rw [ot3]
  have hnl : σ.next ≤ σ5.next := by
    rw [hσ5]
    show _ ≤ σ4.next
    rw [h4.nx, hτ]
    show _ ≤ σ3.next + 2
    omega
  have hD6 : DF σb σ5 (σ3.next :: ids) := ⟨hD5, fun x hx => by
    rcases List.mem_cons.1 hx with rfl | hx
    · omega
    · exact hDF.base x hx, ⟨by omega, fun j hj => (hob j (by omega)).trans (hDF.fo.objs j hj), fun j hj => (hox j (by omega)).trans (hDF.fo.oth j hj)⟩⟩
  refine ⟨σ5, σ3.next :: ids, ?_, hD6⟩
  have hfn : D.fnF? (fnB (σ.next + 1)) = some (n_64, [], [.ptr (σ.next + 1) 0]) := rfl
  rw [n2] at hB
  rw [hσ2] at hB
  generalize allM d.vars t = u at *
  generalize d.cons[k] = c at *
  simp only [dFi, cFi, cTy_eq] at hap
  simp only [dCn_eq] at hy
  simp only [dDa_eq, dTy_eq, cTy_eq] at h1 h1'
  rw [hsl] at hbk
  simp only [RF, slF, asgF] at hbk
  rw [show N + 2 + 1 = N + 3 from rfl] at hB h1 h1'
  clear hob hox hnl hτ hY h4 hot hD6 hD5 hσ3 hF e oa3 ob3 ot3
  simp only [bT] at oa5
  simp only [bT] at hB
  simp only [dfs, List.map_cons]
  simp only [a_39, sA, Nat.reduceAdd, Nat.reduceSub, Nat.reduceMul, Nat.reduceBEq, Nat.reduceLeDiff, Int.reduceBEq, Int.reduceBNe, Int.reduceLE, Int.reduceLT, Int.reduceGE, Int.reduceGT, Int.reduceNeg, kn, bD, len_C, len_S, len_T, hi, natI, hy, onel, h1, h1', memE, mGalloc, fold_SO, GA_self, hB, exec_rangeF, enterLoop_none, snap, hfn, hbk, rangeX_ret, he, oa5, hap, w]
theorem fhf_step {σb : Store} {S : Specs} (hg : FgS S) (L : List Da) (hL : L.length ≤ 1000) (hd : ∀ d ∈ L, FineD d) (i : Nat) (hi : i < L.length) (ids : List Nat) (σ : Store) (hD : DF σb σ ids) (n N : Nat) (hN : 1001 ≤ N) (hn : 1001 ≤ n) : ∃ σ' ids', exec (T S (N + 3)) n none a_40 (Efh L i ids) σ = some (.normal, Efh L (i + 1) ids', σ') ∧ DF σb σ' ids' := by
  have hx := idx_D L i hi
  have hlt : ((i : Int) < (L.length : Int)) := by omega
  have w := wrap64_succ (i := i) (by omega)
  have hdi := hd _ (List.getElem_mem hi)
  have hc := hdi.cons
  have e : fieldsM (L.take (i + 1)) = fieldsM (L.take i) ++ fieldsD L[i] L[i].cons 0 := by rw [← take_snoc _ i hi, fieldsM_snoc]
  have hlen : (fieldsM (L.take i)).length ≤ 10000000 := by
    have := fieldsM_len (L.take i) fun d h => (hd d (List.mem_of_mem_take h)).cons
    rw [List.length_take] at this
    have : min i L.length ≤ 1000 := by omega
    omega
  unfold Efh
  rw [e]
  generalize fieldsM (L.take i) = A at *
  generalize L[i] = d at *
  obtain ⟨r, hr, σ', ids', rfl, hw⟩ := loopN_inv (body := exec (T S (N + 3)) n none a_39)
    (fun k e σ => ∃ ids, e = Efg L A i d k ids ∧ DF σb σ ids)
    (fun r => ∃ σ' ids', r = (.exit 2, { slots := [(3, ⟨fl (A ++ fieldsD d d.cons 0), dFl (A ++ fieldsD d d.cons 0)⟩), (14, ⟨false, dDl L⟩), (15, ⟨false, .int .i64 L.length⟩), (16, ⟨false, .int .i64 i⟩), (21, ⟨false, dCl d.cons⟩), (22, ⟨false, .int .i64 d.cons.length⟩), (23, ⟨false, .int .i64 d.cons.length⟩), (24, ⟨false, .bool false⟩)], locs := [(5, 5, 0)], boxes := [(5, bD d)], defers := dfs ids' }, σ') ∧ DF σb σ' ids') d.cons.length
    (fun k e σ hk ⟨ids, he, hw⟩ => by
      subst he
      obtain ⟨σ', ids', h1, h2⟩ := fgf_step hg L A i d hdi k hk hlen ids σ hw n N hN
      exact ⟨_, _, h1, ids', rfl, h2⟩)
    (fun e σ ⟨ids, he, hw⟩ => by
      subst he
      exact ⟨_, fg_end L A i d ids σ, fun _ _ h => (by cases h), σ, ids, rfl, hw⟩) 0 n (Efg L A i d 0 ids) σ (by omega) (by omega) ⟨ids, rfl, hD⟩
  refine ⟨σ', ids', ?_, hw⟩
  have hlc := len_C d.cons
  have d0 : fieldsD d (d.cons.take 0) 0 = [] := rfl
  simp only [dDa_eq] at hx
  simp only [Efg, zeroI, d0, List.append_nil, bD] at hr
  generalize A ++ fieldsD d d.cons 0 = B at *
  generalize dfs ids = u at *
  generalize dfs ids' = v at *
  simp only [a_40, sA, Nat.reduceAdd, Nat.reduceSub, Nat.reduceMul, Nat.reduceBEq, Nat.reduceLeDiff, Int.reduceBEq, Int.reduceBNe, Int.reduceLE, Int.reduceLT, Int.reduceGE, Int.reduceGT, Int.reduceNeg, kn, onel, hx, hlt, natI, hlc, hr, w]
theorem fields_fr {S : Specs} (hg : FgS S) {σ : Store} {p m : Nat} {L : List Da} {es : List (Tx × Nat × Nat)} (h : PN σ p m L es) (hL : L.length ≤ 1000) (hd : ∀ d ∈ L, FineD d) (N : Nat) (hN : 1001 ≤ N) : ∃ σ' o, T S (N + 4) n_154 [.ptr p 0] σ = some (.ret ⟨o, dFl (fieldsM L)⟩, σ') ∧ Fo σ σ' := by
  obtain ⟨r, hr, σ', ids', rfl, hw⟩ := loopN_inv (body := exec (T S (N + 3)) (N + 3) none a_40)
    (fun i e σ' => ∃ ids, e = Efh L i ids ∧ DF σ σ' ids)
    (fun r => ∃ σ' ids', r = (.exit 0, { slots := [(3, ⟨fl (fieldsM L), dFl (fieldsM L)⟩), (14, ⟨false, dDl L⟩), (15, ⟨false, .int .i64 L.length⟩), (16, ⟨false, .int .i64 L.length⟩), (17, ⟨false, .bool false⟩)], locs := [], boxes := [], defers := dfs ids' }, σ') ∧ DF σ σ' ids') L.length
    (fun i e σ2 hi ⟨ids, he, hw⟩ => by
      subst he
      obtain ⟨σ', ids', h1, h2⟩ := fhf_step hg L hL hd i hi ids σ2 hw (N + 3) N hN (by omega)
      exact ⟨_, _, h1, ids', rfl, h2⟩)
    (fun e σ2 ⟨ids, he, hw⟩ => by
      subst he
      exact ⟨_, fh_end L ids σ2, fun _ _ h => (by cases h), σ2, ids, rfl, hw⟩) 0 (N + 3) (Efh L 0 []) σ (by omega) (by omega) ⟨[], rfl, ⟨⟨fun _ h => (by cases h), List.nodup_nil⟩, fun _ h => (by cases h), Fo.refl σ⟩⟩
  obtain ⟨σ'', hd2, q1, q2, q3⟩ := run_dfrf Ra (TD S (N + 3)) ids' σ' hw.ds
  refine ⟨σ'', fl (fieldsM L), ?_, ⟨by rw [q2]; exact hw.fo.le, fun j hj => by rw [q1]; exact hw.fo.objs j hj, fun j hj => (q3 j fun hm => by have := hw.base j hm; omega).trans (hw.fo.oth j hj)⟩⟩
  rw [T_fun (af := a_102) hg.f0 rfl rfl]
  have ho := h.obj
  have hlen := len_D L
  have e0 : fl (fieldsM (L.take 0)) = false := rfl
  have e1 : dFl (fieldsM (L.take 0)) = .nils := rfl
  have e2 : dfs [] = [] := rfl
  simp only [Efh, e0, e1, e2, zeroI] at hr
  generalize dfs ids' = v at *
  simp only [a_102, sA, Nat.reduceAdd, Nat.reduceSub, Nat.reduceMul, Nat.reduceBEq, Nat.reduceLeDiff, Int.reduceBEq, Int.reduceBNe, Int.reduceLE, Int.reduceLT, Int.reduceGE, Int.reduceGT, Int.reduceNeg, kn, onel, ho, hlen, hr]
  rw [hd2]
  rfl
end Go.Fu

/-
  A row ranged over from behind: the round.
-/
import Derived.Test.YtmhedpkbfaginaaGreatDoorFlQ
import Derived.Test.YtmhedpkbfaginaaGreatDoorFlK
set_option maxHeartbeats 4000000
set_option linter.unusedSimpArgs false
set_option linter.unusedVariables false
set_option linter.unusedSectionVars false
namespace Go.Fu
open Go Go.Mx
set_option maxRecDepth 10000
set_option maxHeartbeats 4000000
def SO (σ : Store) (id : Nat) (cs : List Cell) : Store := { σ with objs := aset σ.objs id cs }
def asgF : ACode := .region [⟨(some 10), .mov (.tmp 35), none⟩] none [3, 5, 6, 7, 14, 15, 16, 21, 22, 23, 33, 34, 35]
def slF (a : Nat) (x3 x6 x14 x15 x16 x21 x22 x23 x33 : D) : List (Nat × Cell) := [(3, ⟨false, x3⟩), (6, ⟨false, x6⟩), (8, ⟨false, .ptr a 0⟩), (14, ⟨false, x14⟩), (15, ⟨false, x15⟩), (16, ⟨false, x16⟩), (21, ⟨false, x21⟩), (22, ⟨false, x22⟩), (23, ⟨false, x23⟩), (33, ⟨false, x33⟩)]
def IsF (a : Nat) (sl : List (Nat × Cell)) : Prop := ∀ (C : CallF) (n : Nat) (ro : Option Nat) (i : Int) (s : Tx) (σ : Store), exec C n ro asgF { slots := putArgs [34, 35] [.int .i64 i, .str s] sl, locs := [], boxes := [], defers := [] } σ = some (.normal, { slots := [(8, ⟨false, .ptr a 0⟩), (10, ⟨false, .str s⟩)], locs := [], boxes := [], defers := [] }, σ)
theorem isF (a : Nat) (x3 x6 x14 x15 x16 x21 x22 x23 x33 : D) : IsF a (slF a x3 x6 x14 x15 x16 x21 x22 x23 x33) := by
  intro C n ro i s σ
  simp only [asgF, slF, putArgs, sA, Nat.reduceAdd, Nat.reduceSub, Nat.reduceMul, Nat.reduceBEq, Nat.reduceLeDiff, Int.reduceBEq, Int.reduceBNe, Int.reduceLE, Int.reduceLT, Int.reduceGE, Int.reduceGT, Int.reduceNeg, kn]
def RF (sl : List (Nat × Cell)) (s : LSt) : LRec := { slots := sl, params := [34, 35], assign := asgF, body := a_35, st := s }
structure YS (τ τ' : Store) (a c : Nat) (t : Ty) (sl : List (Nat × Cell)) (s : LSt) : Prop where
  oa : aget τ'.objs a = some (bT t)
  rl : aget τ'.oth c = some (.loop (RF sl s))
  fo : ∀ j, j ≠ a → aget τ'.objs j = aget τ.objs j
  ft : ∀ j, j ≠ c → aget τ'.oth j = aget τ.oth j
  nx : τ'.next = τ.next
theorem YS.set {τ σ : Store} {a c : Nat} {t : Ty} {sl : List (Nat × Cell)} {s : LSt} (h : YS τ σ a c t sl s) (u : LSt) : YS τ (setLoop σ c (RF sl s) u) a c t sl u := by
  refine ⟨h.oa, agA _ _ _, h.fo, fun j hj => ?_, h.nx⟩
  exact (agB _ _ _ (beq_false_of_ne fun e => hj e.symm) _).trans (h.ft j hj)
theorem YS.so {τ σ : Store} {a c : Nat} {t u : Ty} {sl : List (Nat × Cell)} {s : LSt} (h : YS τ σ a c t sl s) : YS τ (SO σ a (bT u)) a c u sl s := by
  refine ⟨agA _ _ _, h.rl, fun j hj => ?_, h.ft, h.nx⟩
  exact (agB _ _ _ (beq_false_of_ne fun e => hj e.symm) _).trans (h.fo j hj)
theorem T_yld {S : Specs} {n c : Nat} {ds : List D} {σ : Store} : T S (n + 1) (yldBase + c) ds σ = runY (T S n) n c ds σ := by
  have hY : isY (yldBase + c) = true := Nat.ble_eq_true_of_le (by omega)
  have h0 : Γa (yldBase + c) = none := by
    cases h : Γa (yldBase + c) with
    | none => rfl
    | some af =>
      have := (Γa_holds _ _ h).1
      rw [hY] at this
      cases this
  have h : (fun f => ifB (has S f) none (Γa f)) (yldBase + c) = none := by
    simp only [h0]
    cases has S (yldBase + c) <;> rfl
  have e := runQ_yld (Γ := fun f => ifB (has S f) none (Γa f)) (R := Ra) (X := fun f ds σ => ifB (has S f) (orc Go.Proofs.Tryz.prog κ (PostOf S) f ds σ) (Xa f ds σ)) (n := n) (ds := ds) (σ := σ) h hY
  rw [Nat.add_sub_cancel_left] at e
  exact e
theorem yield_run {S : Specs} (hS : aget S n_22 = some sp_All) {τ σ : Store} {a c : Nat} {t : Ty} {sl : List (Nat × Cell)} (hsl : IsF a sl) (h : YS τ σ a c t sl .ready) (ht : Fine t) (i : Int) (s : Tx) (N : Nat) : ∃ σ', T S (N + 2) (yldBase + c) [.int .i64 i, .str s] σ = some (.ret ⟨false, .bool true⟩, σ') ∧ YS τ σ' a c (tAll s t) sl .ready := by
  have hb := h.set .busy
  obtain ⟨σb, hσb⟩ : ∃ σb, σb = setLoop σ c (RF sl .ready) .busy := ⟨_, rfl⟩
  rw [← hσb] at hb
  have hc := hb.so (u := tAll s t)
  have hf := hc.set .ready
  have hbody : exec (T S (N + 1)) (N + 1) (some c) a_35 { slots := [(8, ⟨false, .ptr a 0⟩), (10, ⟨false, .str s⟩)], locs := [], boxes := [], defers := [] } σb = some (.normal, { slots := [], locs := [], boxes := [], defers := [] }, SO σb a (bT (tAll s t))) := by
    have o1 := hb.oa
    have h1 := call_All hS s t ht N σb
    generalize tAll s t = u at *
    simp only [bT] at o1 ⊢
    simp only [dTy_eq, cTy_eq] at h1
    simp only [a_35, sA, Nat.reduceAdd, Nat.reduceSub, Nat.reduceMul, Nat.reduceBEq, Nat.reduceLeDiff, Int.reduceBEq, Int.reduceBNe, Int.reduceLE, Int.reduceLT, Int.reduceGE, Int.reduceGT, Int.reduceNeg, kn, onel, o1, h1]
    rfl
  refine ⟨_, ?_, hf⟩
  rw [T_yld]
  have l1 : loopAt σ c = some (RF sl .ready) := by simp only [loopAt, h.rl, bindO, caseO_some]
  have l2 : loopAt (SO σb a (bT (tAll s t))) c = some (RF sl .busy) := by simp only [loopAt, hc.rl, bindO, caseO_some]
  unfold runY
  simp only [l1, bindO, caseO_some]
  show ifB true (roundA (T S (N + 1)) (N + 1) c a_35 (exec (T S (N + 1)) (N + 1) (some c) asgF { slots := putArgs [34, 35] [.int .i64 i, .str s] sl, locs := [], boxes := [], defers := [] } σ)) none = _
  rw [hsl, ifB_true]
  unfold roundA
  simp only [l1, bindO, caseO_some]
  show ifB true (roundB (T S (N + 1)) (N + 1) c (exec (T S (N + 1)) (N + 1) (some c) a_35 { slots := [(8, ⟨false, .ptr a 0⟩), (10, ⟨false, .str s⟩)], locs := [], boxes := [], defers := [] } (setLoop σ c (RF sl .ready) .busy))) none = _
  rw [← hσb, hbody, ifB_true]
  unfold roundB
  simp only [l2, bindO, caseO_some]
end Go.Fu
namespace Go.Fu
open Go Go.Mx
set_option maxRecDepth 10000
set_option maxHeartbeats 4000000
theorem loopN_inv {body : Env → Store → XRes} (P : Nat → Env → Store → Prop) (Q : AExit × Env × Store → Prop) (k : Nat) (hstep : ∀ i e σ, i < k → P i e σ → ∃ e' σ', body e σ = some (.normal, e', σ') ∧ P (i + 1) e' σ')
    (hend : ∀ e σ, P k e σ → ∃ r, body e σ = some r ∧ (∀ e σ, r ≠ (.normal, e, σ)) ∧ Q r) : ∀ (j n : Nat) (e : Env) (σ : Store), j ≤ k → k < n + j → P j e σ → ∃ r, loopN body n e σ = some r ∧ Q r
  | j, 0, e, σ, h1, h2, _ => by omega
  | j, n + 1, e, σ, h1, h2, hp => by
    rw [loopN]
    by_cases hj : j = k
    · subst hj
      obtain ⟨r, hr, hn, hq⟩ := hend e σ hp
      rw [hr]
      obtain ⟨x, e', σ'⟩ := r
      cases x with
      | normal => exact absurd rfl (hn e' σ')
      | _ => exact ⟨_, rfl, hq⟩
    · obtain ⟨e', σ', hb, hp'⟩ := hstep j e σ (by omega) hp
      rw [hb]
      exact loopN_inv P Q k hstep hend (j + 1) n e' σ' (by omega) (by omega) hp'
section
variable {n : Nat}
def Ebk (b c : Nat) (l : List Tx) (m : Nat) : Env := { slots := [(0, ⟨false, .yld c⟩), (1, ⟨false, .ptr b 0⟩), (3, ⟨false, .int .i64 ((l.length : Int) - 1 - (m : Nat))⟩)], locs := [], boxes := [], defers := [] }
theorem bk_step {C : CallF} (b c : Nat) (l : List Tx) (m : Nat) (h : m < l.length) (hl : l.length ≤ 1000) (σ σ' : Store) (hb : aget σ.objs b = some [⟨false, dSs l⟩]) (h1 : C (yldBase + c) [.int .i64 ((l.length - 1 - m : Nat) : Int), .str (l[l.length - 1 - m]'(by omega))] σ = some (.ret ⟨false, .bool true⟩, σ')) : exec C n none a_51 (Ebk b c l m) σ = some (.normal, Ebk b c l (m + 1), σ') := by
  have hy := idx_S l (l.length - 1 - m) (by omega)
  have hz : (l.length : Int) - 1 - (m : Nat) = ((l.length - 1 - m : Nat) : Int) := by omega
  have hp : (0 : Int) ≤ ((l.length - 1 - m : Nat) : Int) := by omega
  have w : IntKind.i64.wrap (((l.length - 1 - m : Nat) : Int) - 1) = (l.length : Int) - 1 - ((m + 1 : Nat) : Int) := by rw [wrap64 (by omega) (by omega)]; omega
  have hfn : D.fn? (.yld c) = some (yldBase + c, [], []) := rfl
  unfold Ebk
  rw [hz]
  generalize l[l.length - 1 - m]'(by omega) = x at *
  simp only [a_51, sA, Nat.reduceAdd, Nat.reduceSub, Nat.reduceMul, Nat.reduceBEq, Nat.reduceLeDiff, Int.reduceBEq, Int.reduceBNe, Int.reduceLE, Int.reduceLT, Int.reduceGE, Int.reduceGT, Int.reduceNeg, kn, onel, hp, natI, hy, hb, hfn, h1, w]
theorem bk_end {C : CallF} (b c : Nat) (l : List Tx) (σ : Store) : exec C n none a_51 (Ebk b c l l.length) σ = some (.exit 0, { slots := [(0, ⟨false, .yld c⟩), (1, ⟨false, .ptr b 0⟩), (3, ⟨false, .int .i64 (-1)⟩), (8, ⟨false, .bool false⟩)], locs := [], boxes := [], defers := [] }, σ) := by
  have hz : (l.length : Int) - 1 - (l.length : Nat) = -1 := by omega
  unfold Ebk
  rw [hz]
  simp only [a_51, sA, Nat.reduceAdd, Nat.reduceSub, Nat.reduceMul, Nat.reduceBEq, Nat.reduceLeDiff, Int.reduceBEq, Int.reduceBNe, Int.reduceLE, Int.reduceLT, Int.reduceGE, Int.reduceGT, Int.reduceNeg, kn, onel]
end
theorem fine_allD (t : Ty) (ht : Fine t) (l : List Tx) (m : Nat) : Fine (allM (l.drop (l.length - m)) t) := fine_allM t ht _
theorem backward_run {S : Specs} (hS0 : has S n_64 = false) (hS : aget S n_22 = some sp_All) {τ σ : Store} {a b c : Nat} {t : Ty} {sl : List (Nat × Cell)} (hsl : IsF a sl) (l : List Tx) (hab : b ≠ a) (hb : aget τ.objs b = some [⟨false, dSs l⟩]) (h : YS τ σ a c t sl .ready) (ht : Fine t) (hl : l.length ≤ 1000) (N : Nat) (hN : 1001 ≤ N) : ∃ σ', T S (N + 3) n_64 [.yld c, .ptr b 0] σ = some (.ret ⟨false, .tup []⟩, σ') ∧ YS τ σ' a c (allM l t) sl .ready := by
  have d0 : l.drop (l.length - 0) = [] := by simp
  have d1 : l.drop (l.length - l.length) = l := by simp
  obtain ⟨r, hr, σ', rfl, hw⟩ := loopN_inv (body := exec (T S (N + 2)) (N + 2) none a_51)
    (fun m e σ => e = Ebk b c l m ∧ YS τ σ a c (allM (l.drop (l.length - m)) t) sl .ready)
    (fun r => ∃ σ', r = (.exit 0, { slots := [(0, ⟨false, .yld c⟩), (1, ⟨false, .ptr b 0⟩), (3, ⟨false, .int .i64 (-1)⟩), (8, ⟨false, .bool false⟩)], locs := [], boxes := [], defers := [] }, σ') ∧ YS τ σ' a c (allM (l.drop (l.length - l.length)) t) sl .ready) l.length
    (fun m e σ hi ⟨he, hw⟩ => by
      subst he
      have e : l.drop (l.length - (m + 1)) = l[l.length - 1 - m]'(by omega) :: l.drop (l.length - m) := by
        rw [show l.length - (m + 1) = l.length - 1 - m by omega, List.drop_eq_getElem_cons (by omega), show l.length - 1 - m + 1 = l.length - m by omega]
      obtain ⟨σ', h1, h2⟩ := yield_run hS hsl hw (fine_allD t ht l m) ((l.length - 1 - m : Nat) : Int) (l[l.length - 1 - m]'(by omega)) N
      refine ⟨_, _, bk_step b c l m hi hl σ σ' ((hw.fo b hab).trans hb) h1, rfl, ?_⟩
      rw [e]
      exact h2)
    (fun e σ ⟨he, hw⟩ => by
      subst he
      exact ⟨_, bk_end b c l σ, fun _ _ h => (by cases h), σ, rfl, hw⟩) 0 (N + 2) (Ebk b c l 0) σ (by omega) (by omega) ⟨rfl, by rw [d0]; exact h⟩
  rw [d1] at hw
  refine ⟨σ', ?_, hw⟩
  rw [T_fun (af := a_100) hS0 rfl rfl]
  have ob := (h.fo b hab).trans hb
  have hlen := len_S l
  have w : IntKind.i64.wrap ((l.length : Int) - 1) = (l.length : Int) - 1 := wrap64 (by omega) (by omega)
  have n0 : ((0 : Nat) : Int) = 0 := rfl
  simp only [Ebk, n0, Int.sub_zero] at hr
  simp only [a_100, sA, Nat.reduceAdd, Nat.reduceSub, Nat.reduceMul, Nat.reduceBEq, Nat.reduceLeDiff, Int.reduceBEq, Int.reduceBNe, Int.reduceLE, Int.reduceLT, Int.reduceGE, Int.reduceGT, Int.reduceNeg, kn, onel, ob, hlen, w, hr]
structure DS (σ : Store) (ids : List Nat) : Prop where
  all : ∀ x ∈ ids, aget σ.oth x = some .dfr ∧ x < σ.next
  once : ids.Nodup
def dfs (ids : List Nat) : List (FuncId × List D) := ids.map fun x => (yldBase + x, [])
theorem run_dfr (R : RecF) (C : CallF) : ∀ (ids : List Nat) (σ : Store), DS σ ids → ∃ σ', runDefers R C none (dfs ids) σ = some (none, σ')
  | [], σ, _ => ⟨σ, rfl⟩
  | x :: r, σ, h => by
    have hY : isY (yldBase + x) = true := Nat.ble_eq_true_of_le (by omega)
    have hx := (h.all x (by simp)).1
    have hr : DS { σ with oth := adel1 σ.oth x } r := by
      refine ⟨fun y hy => ?_, (List.nodup_cons.1 h.once).2⟩
      have hne : x ≠ y := fun e => (List.nodup_cons.1 h.once).1 (e ▸ hy)
      have h2 := h.all y (by simp [hy])
      refine ⟨?_, h2.2⟩
      show aget (adel1 σ.oth x) y = _
      rw [aget_adel1, if_neg hne]
      exact h2.1
    obtain ⟨σ', h2⟩ := run_dfr R C r _ hr
    refine ⟨σ', ?_⟩
    simp only [dfs] at h2 ⊢
    simp only [List.map_cons, runDefers, hY, ifB_true, Nat.add_sub_cancel_left, hx, bindO, caseO_some, h2]
end Go.Fu
namespace Go.Fu
open Go Go.Mx
set_option maxRecDepth 10000
set_option maxHeartbeats 4000000
structure FgS (S : Specs) : Prop where
  ty : aget S n_18 = some sp_typeOf
  al : aget S n_22 = some sp_All
  b0 : has S n_115 = false
  b1 : has S n_64 = false
  f0 : has S n_123 = false
theorem enterLoop_none {r : LRec} {e : Env} {σ : Store} : enterLoop none r e σ = some (σ.next + 1, { e with defers := (yldBase + σ.next, []) :: e.defers }, { σ with oth := (σ.next + 1, .loop r) :: (σ.next, .dfr) :: σ.oth, next := σ.next + 2 }) := rfl
theorem fold_SO {σ : Store} {id : Nat} {cs : List Cell} : ({ objs := aset σ.objs id cs, tys := σ.tys, oth := σ.oth, next := σ.next } : Store) = SO σ id cs := rfl
theorem GA_self {σ : Store} {t : Nat} {cs : List Cell} : aget (GA σ t cs).objs σ.next = some cs := agS _ _ _
theorem mGalloc {σ : Store} {t : Nat} {z : List D} {e : Env} : memOp (.galloc t z) e σ = some (.ptr σ.next 0, GA σ t (z.map Cell.of)) := rfl
def fnB (b : Nat) : D := .fn (.func n_64) [] [.ptr b 0]
theorem mkB_run {S : Specs} (hS : has S n_115 = false) (l : List Tx) (n : Nat) (σ : Store) : T S (n + 1) n_115 [dSs l] σ = some (.ret ⟨false, fnB σ.next⟩, GA σ t_81 [⟨false, dSs l⟩]) := by
  rw [T_fun (af := a_99) hS rfl rfl]
  have hg : ∀ e, memOp (.gbox t_81 (.tmp 0)) { slots := (0, ⟨false, dSs l⟩) :: e, locs := [], boxes := [], defers := [] } σ = some (.ptr σ.next 0, GA σ t_81 [⟨false, dSs l⟩]) := fun e => by
    cases l <;> rfl
  simp only [a_99, sA, Nat.reduceAdd, Nat.reduceSub, Nat.reduceMul, Nat.reduceBEq, Nat.reduceLeDiff, Int.reduceBEq, Int.reduceBNe, Int.reduceLE, Int.reduceLT, Int.reduceGE, Int.reduceGT, Int.reduceNeg, kn, onel, memE, hg, fnB]
def Efg (L : List Da) (acc : List Fi) (i : Nat) (d : Da) (k : Nat) (ids : List Nat) : Env := { slots := [(3, ⟨fl (acc ++ fieldsD d (d.cons.take k) 0), dFl (acc ++ fieldsD d (d.cons.take k) 0)⟩), (14, ⟨false, dDl L⟩), (15, ⟨false, .int .i64 L.length⟩), (16, ⟨false, .int .i64 i⟩), (21, ⟨false, dCl d.cons⟩), (22, ⟨false, .int .i64 d.cons.length⟩), (23, ⟨false, .int .i64 k⟩)], locs := [(5, 5, 0)], boxes := [(5, bD d)], defers := dfs ids }
theorem fg_step {S : Specs} (hg : FgS S) (L : List Da) (acc : List Fi) (i : Nat) (d : Da) (hd : FineD d) (k : Nat) (h : k < d.cons.length) (ha : acc.length ≤ 10000000) (ids : List Nat) (σ : Store) (hD : DS σ ids) (n N : Nat) (hN : 1001 ≤ N) : ∃ σ' ids', exec (T S (N + 3)) n none a_33 (Efg L acc i d k ids) σ = some (.normal, Efg L acc i d (k + 1) ids', σ') ∧ DS σ' ids' := by
  have hv := hd.vars
  have hc := hd.cons
  have hi : ((k : Int) < (d.cons.length : Int)) := by omega
  have hy := idx_C _ _ h
  have w := wrap64_succ (i := k) (by omega)
  have hti := fine_typ (d := d) (hd.each _ (List.getElem_mem h))
  have h1 := call_typeOf (S := S) hg.ty d hd k h (N + 2) (GA σ t_133 [⟨false, .int .i64 0⟩, ⟨false, .int .i64 0⟩, ⟨false, .str []⟩, ⟨false, .nils⟩])
  have h1' := call_typeOf (S := S) hg.ty d hd k h (N + 2) σ
  have e : fieldsD d (d.cons.take (k + 1)) 0 = fieldsD d (d.cons.take k) 0 ++ [fieldM d k d.cons[k]] := by
    rw [← take_snoc _ k h, fieldsD_snoc]
    congr 3
    simp
    omega
  have hF : fieldM d k d.cons[k] = ⟨d.cons[k].name, k, d.cons.length, d.cons[k].fs.length, allM d.vars (typM d d.cons[k])⟩ := rfl
  unfold Efg
  rw [e, ← List.append_assoc, fl_snoc]
  have hlen : (acc ++ fieldsD d (d.cons.take k) 0).length ≤ 10001000 := by
    rw [List.length_append, fieldsD_len, List.length_take]
    omega
  generalize acc ++ fieldsD d (d.cons.take k) 0 = A at hlen
  have hap := app_F A (fieldM d k d.cons[k]) (fl A) fl_ne (by omega)
  rw [hF] at hap ⊢
  generalize typM d d.cons[k] = t at *
  obtain ⟨σ2, hσ2⟩ : ∃ σ2, σ2 = SO (GA σ t_133 [⟨false, .int .i64 0⟩, ⟨false, .int .i64 0⟩, ⟨false, .str []⟩, ⟨false, .nils⟩]) σ.next (bT t) := ⟨_, rfl⟩
  have hB := mkB_run (S := S) hg.b0 d.vars (N + 2) σ2
  have n2 : σ2.next = σ.next + 1 := by rw [hσ2]; rfl
  obtain ⟨σ3, hσ3⟩ : ∃ σ3, σ3 = GA σ2 t_81 [⟨false, dSs d.vars⟩] := ⟨_, rfl⟩
  rw [← hσ3] at hB
  have n3 : σ3.next = σ.next + 2 := by rw [hσ3]; show σ2.next + 1 = _; omega
  obtain ⟨sl, hsl⟩ : ∃ sl, sl = slF σ.next (dFl A) (.int .i64 k) (dDl L) (.int .i64 L.length) (.int .i64 i) (dCl d.cons) (.int .i64 d.cons.length) (.int .i64 k) (fnB (σ.next + 1)) := ⟨_, rfl⟩
  obtain ⟨τ, hτ⟩ : ∃ τ : Store, τ = { objs := σ3.objs, tys := σ3.tys, oth := (σ3.next + 1, .loop (RF sl .ready)) :: (σ3.next, .dfr) :: σ3.oth, next := σ3.next + 2 } := ⟨_, rfl⟩
  have oa3 : aget σ3.objs σ.next = some (bT t) := by
    rw [hσ3]
    refine (agC _ _ _ _ (by omega)).trans ?_
    rw [hσ2]
    exact agA _ _ _
  have ob3 : aget σ3.objs (σ.next + 1) = some [⟨false, dSs d.vars⟩] := by
    rw [hσ3, ← n2]
    exact agS _ _ _
  have ot3 : σ3.oth = σ.oth := by rw [hσ3, hσ2]; rfl
  have hY : YS τ τ σ.next (σ3.next + 1) t sl .ready := by
    refine ⟨?_, ?_, fun _ _ => rfl, fun _ _ => rfl, rfl⟩
    · rw [hτ]; exact oa3
    · rw [hτ]; exact agS _ _ _
  obtain ⟨σ4, hbk, h4⟩ := backward_run (S := S) hg.b1 hg.al (sl := sl) (by rw [hsl]; exact isF _ _ _ _ _ _ _ _ _ _) d.vars (b := σ.next + 1) (by omega) (by rw [hτ]; exact ob3) hY hti hv N hN
  rw [hτ] at hbk
  obtain ⟨σ5, hσ5⟩ : ∃ σ5 : Store, σ5 = { objs := σ4.objs, tys := σ4.tys, oth := adel1 σ4.oth (σ3.next + 1), next := σ4.next } := ⟨_, rfl⟩
  have he : ∀ e : Env, endLoop (σ3.next + 1) e σ4 = some (.normal, e, σ5) := fun e => by
    have l4 : loopAt σ4 (σ3.next + 1) = some (RF sl .ready) := by simp only [loopAt, h4.rl, bindO, caseO_some]
    rw [hσ5]
    simp only [endLoop, l4, bindO, caseO_some]
    rfl
  have oa5 : aget σ5.objs σ.next = some (bT (allM d.vars t)) := by rw [hσ5]; exact h4.oa
  have hot : ∀ x, x < σ3.next + 1 → aget σ5.oth x = aget τ.oth x := fun x hx => by
    rw [hσ5]
    show aget (adel1 σ4.oth (σ3.next + 1)) x = _
    rw [aget_adel1, if_neg (by omega)]
    exact h4.ft x (by omega)
  have hD5 : DS σ5 (σ3.next :: ids) := by
    have hn5 : σ5.next = σ3.next + 2 := by
      rw [hσ5]
      show σ4.next = _
      rw [h4.nx, hτ]
    refine ⟨fun x hx => ?_, List.nodup_cons.2 ⟨fun hm => ?_, hD.once⟩⟩
    · rcases List.mem_cons.1 hx with rfl | hx
      · refine ⟨?_, by omega⟩
        rw [hot _ (by omega), hτ]
        exact (agC _ _ _ _ (by omega)).trans (agS _ _ _)
      · have h2 := hD.all x hx
        refine ⟨?_, by omega⟩
        rw [hot _ (by omega), hτ]
        refine (agC _ _ _ _ (by omega)).trans ((agC _ _ _ _ (by omega)).trans ?_)
        rw [ot3]
        exact h2.1
    · have := (hD.all _ hm).2
      omega
  refine ⟨σ5, σ3.next :: ids, ?_, hD5⟩
  have hfn : D.fnF? (fnB (σ.next + 1)) = some (n_64, [], [.ptr (σ.next + 1) 0]) := rfl
  rw [n2] at hB
  rw [hσ2] at hB
  generalize allM d.vars t = u at *
  generalize d.cons[k] = c at *
  simp only [dFi, cFi, cTy_eq] at hap
  simp only [dCn_eq] at hy
  simp only [dDa_eq, dTy_eq, cTy_eq] at h1 h1'
  rw [hsl] at hbk
  simp only [RF, slF, asgF] at hbk
  rw [show N + 2 + 1 = N + 3 from rfl] at hB h1 h1'
  clear hτ hY h4 hot hD5 hσ3 hF e oa3 ob3 ot3
  simp only [bT] at oa5
  simp only [bT] at hB
  simp only [dfs, List.map_cons]
  simp only [a_33, sA, Nat.reduceAdd, Nat.reduceSub, Nat.reduceMul, Nat.reduceBEq, Nat.reduceLeDiff, Int.reduceBEq, Int.reduceBNe, Int.reduceLE, Int.reduceLT, Int.reduceGE, Int.reduceGT, Int.reduceNeg, kn, bD, len_C, len_S, len_T, hi, natI, hy, onel, h1, h1', memE, mGalloc, fold_SO, GA_self, hB, exec_rangeF, enterLoop_none, snap, hfn, hbk, rangeX_ret, he, oa5, hap, w]
theorem fg_end {C : CallF} {n : Nat} (L : List Da) (acc : List Fi) (i : Nat) (d : Da) (ids : List Nat) (σ : Store) : exec C n none a_33 (Efg L acc i d d.cons.length ids) σ = some (.exit 2, { slots := [(3, ⟨fl (acc ++ fieldsD d d.cons 0), dFl (acc ++ fieldsD d d.cons 0)⟩), (14, ⟨false, dDl L⟩), (15, ⟨false, .int .i64 L.length⟩), (16, ⟨false, .int .i64 i⟩), (21, ⟨false, dCl d.cons⟩), (22, ⟨false, .int .i64 d.cons.length⟩), (23, ⟨false, .int .i64 d.cons.length⟩), (24, ⟨false, .bool false⟩)], locs := [(5, 5, 0)], boxes := [(5, bD d)], defers := dfs ids }, σ) := by
  have hlt : ¬ ((d.cons.length : Int) < (d.cons.length : Int)) := by omega
  unfold Efg
  rw [List.take_length]
  generalize acc ++ fieldsD d d.cons 0 = A
  simp only [a_33, bD, sA, Nat.reduceAdd, Nat.reduceSub, Nat.reduceMul, Nat.reduceBEq, Nat.reduceLeDiff, Int.reduceBEq, Int.reduceBNe, Int.reduceLE, Int.reduceLT, Int.reduceGE, Int.reduceGT, Int.reduceNeg, kn, onel, hlt]
def Efh (L : List Da) (i : Nat) (ids : List Nat) : Env := { slots := [(3, ⟨fl (fieldsM (L.take i)), dFl (fieldsM (L.take i))⟩), (14, ⟨false, dDl L⟩), (15, ⟨false, .int .i64 L.length⟩), (16, ⟨false, .int .i64 i⟩)], locs := [], boxes := [], defers := dfs ids }
theorem fh_step {S : Specs} (hg : FgS S) (L : List Da) (hL : L.length ≤ 1000) (hd : ∀ d ∈ L, FineD d) (i : Nat) (hi : i < L.length) (ids : List Nat) (σ : Store) (hD : DS σ ids) (n N : Nat) (hN : 1001 ≤ N) (hn : 1001 ≤ n) : ∃ σ' ids', exec (T S (N + 3)) n none a_34 (Efh L i ids) σ = some (.normal, Efh L (i + 1) ids', σ') ∧ DS σ' ids' := by
  have hx := idx_D L i hi
  have hlt : ((i : Int) < (L.length : Int)) := by omega
  have w := wrap64_succ (i := i) (by omega)
  have hdi := hd _ (List.getElem_mem hi)
  have hc := hdi.cons
  have e : fieldsM (L.take (i + 1)) = fieldsM (L.take i) ++ fieldsD L[i] L[i].cons 0 := by rw [← take_snoc _ i hi, fieldsM_snoc]
  have hlen : (fieldsM (L.take i)).length ≤ 10000000 := by
    have := fieldsM_len (L.take i) fun d h => (hd d (List.mem_of_mem_take h)).cons
    rw [List.length_take] at this
    have : min i L.length ≤ 1000 := by omega
    omega
  unfold Efh
  rw [e]
  generalize fieldsM (L.take i) = A at *
  generalize L[i] = d at *
  obtain ⟨r, hr, σ', ids', rfl, hw⟩ := loopN_inv (body := exec (T S (N + 3)) n none a_33)
    (fun k e σ => ∃ ids, e = Efg L A i d k ids ∧ DS σ ids)
    (fun r => ∃ σ' ids', r = (.exit 2, { slots := [(3, ⟨fl (A ++ fieldsD d d.cons 0), dFl (A ++ fieldsD d d.cons 0)⟩), (14, ⟨false, dDl L⟩), (15, ⟨false, .int .i64 L.length⟩), (16, ⟨false, .int .i64 i⟩), (21, ⟨false, dCl d.cons⟩), (22, ⟨false, .int .i64 d.cons.length⟩), (23, ⟨false, .int .i64 d.cons.length⟩), (24, ⟨false, .bool false⟩)], locs := [(5, 5, 0)], boxes := [(5, bD d)], defers := dfs ids' }, σ') ∧ DS σ' ids') d.cons.length
    (fun k e σ hk ⟨ids, he, hw⟩ => by
      subst he
      obtain ⟨σ', ids', h1, h2⟩ := fg_step hg L A i d hdi k hk hlen ids σ hw n N hN
      exact ⟨_, _, h1, ids', rfl, h2⟩)
    (fun e σ ⟨ids, he, hw⟩ => by
      subst he
      exact ⟨_, fg_end L A i d ids σ, fun _ _ h => (by cases h), σ, ids, rfl, hw⟩) 0 n (Efg L A i d 0 ids) σ (by omega) (by omega) ⟨ids, rfl, hD⟩
  refine ⟨σ', ids', ?_, hw⟩
  have hlc := len_C d.cons
  have d0 : fieldsD d (d.cons.take 0) 0 = [] := rfl
  simp only [dDa_eq] at hx
  simp only [Efg, zeroI, d0, List.append_nil, bD] at hr
  generalize A ++ fieldsD d d.cons 0 = B at *
  generalize dfs ids = u at *
  generalize dfs ids' = v at *
  simp only [a_34, sA, Nat.reduceAdd, Nat.reduceSub, Nat.reduceMul, Nat.reduceBEq, Nat.reduceLeDiff, Int.reduceBEq, Int.reduceBNe, Int.reduceLE, Int.reduceLT, Int.reduceGE, Int.reduceGT, Int.reduceNeg, kn, onel, hx, hlt, natI, hlc, hr, w]
theorem fh_end {C : CallF} {n : Nat} (L : List Da) (ids : List Nat) (σ : Store) : exec C n none a_34 (Efh L L.length ids) σ = some (.exit 0, { slots := [(3, ⟨fl (fieldsM L), dFl (fieldsM L)⟩), (14, ⟨false, dDl L⟩), (15, ⟨false, .int .i64 L.length⟩), (16, ⟨false, .int .i64 L.length⟩), (17, ⟨false, .bool false⟩)], locs := [], boxes := [], defers := dfs ids }, σ) := by
  have hlt : ¬ ((L.length : Int) < (L.length : Int)) := by omega
  unfold Efh
  rw [List.take_length]
  simp only [a_34, sA, Nat.reduceAdd, Nat.reduceSub, Nat.reduceMul, Nat.reduceBEq, Nat.reduceLeDiff, Int.reduceBEq, Int.reduceBNe, Int.reduceLE, Int.reduceLT, Int.reduceGE, Int.reduceGT, Int.reduceNeg, kn, onel, hlt]
theorem fields_run {S : Specs} (hg : FgS S) {σ : Store} {p m : Nat} {L : List Da} {es : List (Tx × Nat × Nat)} (h : PN σ p m L es) (hL : L.length ≤ 1000) (hd : ∀ d ∈ L, FineD d) (N : Nat) (hN : 1001 ≤ N) : ∃ σ' o, T S (N + 4) n_123 [.ptr p 0] σ = some (.ret ⟨o, dFl (fieldsM L)⟩, σ') := by
  obtain ⟨r, hr, σ', ids', rfl, hw⟩ := loopN_inv (body := exec (T S (N + 3)) (N + 3) none a_34)
    (fun i e σ => ∃ ids, e = Efh L i ids ∧ DS σ ids)
    (fun r => ∃ σ' ids', r = (.exit 0, { slots := [(3, ⟨fl (fieldsM L), dFl (fieldsM L)⟩), (14, ⟨false, dDl L⟩), (15, ⟨false, .int .i64 L.length⟩), (16, ⟨false, .int .i64 L.length⟩), (17, ⟨false, .bool false⟩)], locs := [], boxes := [], defers := dfs ids' }, σ') ∧ DS σ' ids') L.length
    (fun i e σ hi ⟨ids, he, hw⟩ => by
      subst he
      obtain ⟨σ', ids', h1, h2⟩ := fh_step hg L hL hd i hi ids σ hw (N + 3) N hN (by omega)
      exact ⟨_, _, h1, ids', rfl, h2⟩)
    (fun e σ ⟨ids, he, hw⟩ => by
      subst he
      exact ⟨_, fh_end L ids σ, fun _ _ h => (by cases h), σ, ids, rfl, hw⟩) 0 (N + 3) (Efh L 0 []) σ (by omega) (by omega) ⟨[], rfl, ⟨fun _ h => (by cases h), List.nodup_nil⟩⟩
  obtain ⟨σ'', hd2⟩ := run_dfr Ra (TD S (N + 3)) ids' σ' hw
  refine ⟨σ'', fl (fieldsM L), ?_⟩
  rw [T_fun (af := a_85) hg.f0 rfl rfl]
  have ho := h.obj
  have hlen := len_D L
  have e0 : fl (fieldsM (L.take 0)) = false := rfl
  have e1 : dFl (fieldsM (L.take 0)) = .nils := rfl
  have e2 : dfs [] = [] := rfl
  simp only [Efh, e0, e1, e2, zeroI] at hr
  generalize dfs ids' = v at *
  simp only [a_85, sA, Nat.reduceAdd, Nat.reduceSub, Nat.reduceMul, Nat.reduceBEq, Nat.reduceLeDiff, Int.reduceBEq, Int.reduceBNe, Int.reduceLE, Int.reduceLT, Int.reduceGE, Int.reduceGT, Int.reduceNeg, kn, onel, ho, hlen, hr]
  rw [hd2]
  rfl
end Go.Fu
namespace Go.Fu
open Go Go.Mx
set_option maxRecDepth 10000
set_option maxHeartbeats 4000000
theorem append_new {r : RowK} {by_ : Nat} {ys : List D} (hy : ∀ d ∈ ys, d.ok = true ∧ d.cells.length = r.sz) (h1 : ys.length * by_ ≤ bound) (h2 : ys.length ≤ bound) : appendD r by_ ⟨true, .list r []⟩ ys = some ⟨true, .list r ys⟩ := by
  have hm : mayAppend r ⟨true, .list r []⟩ = true := by simp [mayAppend, RowK.same]
  have ha : asList (.list r []) = some [] := rfl
  have hj : joined r (.list r []) ys = .list r ys := rfl
  have h1' : ((([] : List D).length + ys.length) * by_ ≤ bound) := by simpa using h1
  have h2' : (([] : List D).length + ys.length ≤ bound) := by simpa using h2
  simp only [appendD, ha, hm, hj, allSize_all hy, bindO, caseO_some, decide_eq_true h1', decide_eq_true h2', Bool.and_self, ifB_true]
theorem cloneS_pure (l : List Tx) (hl : l.length ≤ 1000) : OkP n_65 [dSs l] ⟨false, dSs l⟩ := by
  cases l with
  | nil =>
    refine pure_fun (af := a_53) (n := 1) (σ' := σ0) (T_sound [] 0) rfl rfl rfl rfl ?_
    simp only [a_53, sA, Nat.reduceAdd, Nat.reduceSub, Nat.reduceMul, Nat.reduceBEq, Nat.reduceLeDiff, Int.reduceBEq, Int.reduceBNe, Int.reduceLE, Int.reduceLT, Int.reduceGE, Int.reduceGT, Int.reduceNeg, kn, onel, show dSs [] = .nils from rfl]
  | cons x r =>
    refine OkP.weak (o := true) rfl (pure_fun (af := a_53) (n := 1) (σ' := σ0) (T_sound [] 0) rfl rfl (by simp [noPtrL, noPtr_dSs]) (noPtr_dSs (x :: r)) ?_)
    have h := append_new (r := k_2) (by_ := 16) (ys := (x :: r).map D.str) (fun d hd => by
      obtain ⟨y, _, rfl⟩ := List.mem_map.1 hd
      exact ⟨rfl, rfl⟩) (by simp [bound] at hl ⊢; omega) (by simp [bound] at hl ⊢; omega)
    have e : dSs (x :: r) = .list k_2 ((x :: r).map D.str) := rfl
    rw [e]
    have hn : (D.list k_2 ((x :: r).map D.str)).isNilS? = some false := rfl
    have ha : asList (D.list k_2 ((x :: r).map D.str)) = some ((x :: r).map D.str) := rfl
    generalize (x :: r).map D.str = q at *
    simp only [a_53, sA, Nat.reduceAdd, Nat.reduceSub, Nat.reduceMul, Nat.reduceBEq, Nat.reduceLeDiff, Int.reduceBEq, Int.reduceBNe, Int.reduceLE, Int.reduceLT, Int.reduceGE, Int.reduceGT, Int.reduceNeg, kn, onel, hn, ha, h]
theorem cloneK_pure (k : Nat) (hl : k ≤ 1000) : OkP n_31 [dKl k] ⟨false, dKl k⟩ := by
  cases k with
  | zero =>
    refine pure_fun (af := a_52) (n := 1) (σ' := σ0) (T_sound [] 0) rfl rfl rfl rfl ?_
    simp only [a_52, sA, Nat.reduceAdd, Nat.reduceSub, Nat.reduceMul, Nat.reduceBEq, Nat.reduceLeDiff, Int.reduceBEq, Int.reduceBNe, Int.reduceLE, Int.reduceLT, Int.reduceGE, Int.reduceGT, Int.reduceNeg, kn, onel, show dKl 0 = .nils from rfl]
  | succ r =>
    refine OkP.weak (o := true) rfl (pure_fun (af := a_52) (n := 1) (σ' := σ0) (T_sound [] 0) rfl rfl (by simp [noPtrL, noPtr_dKl]) (noPtr_dKl (r + 1)) ?_)
    have h := append_new (r := k_3) (by_ := 24) (ys := List.replicate (r + 1) dKi) (fun d hd => by
      rw [List.eq_of_mem_replicate hd]
      exact ⟨rfl, rfl⟩) (by simp [bound] at hl ⊢; omega) (by simp [bound] at hl ⊢; omega)
    have e : dKl (r + 1) = .list k_3 (List.replicate (r + 1) dKi) := rfl
    rw [e]
    have hn : (D.list k_3 (List.replicate (r + 1) dKi)).isNilS? = some false := rfl
    have ha : asList (D.list k_3 (List.replicate (r + 1) dKi)) = some (List.replicate (r + 1) dKi) := rfl
    generalize List.replicate (r + 1) dKi = q at *
    simp only [a_52, sA, Nat.reduceAdd, Nat.reduceSub, Nat.reduceMul, Nat.reduceBEq, Nat.reduceLeDiff, Int.reduceBEq, Int.reduceBNe, Int.reduceLE, Int.reduceLT, Int.reduceGE, Int.reduceGT, Int.reduceNeg, kn, onel, hn, ha, h]
def sp_cloneS : List D → Cell → Prop := fun ds c => ∀ l, ds = [dSs l] → c = ⟨false, dSs l⟩
def sp_cloneK : List D → Cell → Prop := fun ds c => ∀ k, ds = [dKl k] → c = ⟨false, dKl k⟩
theorem dKl_inj {a b : Nat} (h : dKl a = dKl b) : a = b := by
  have := congrArg lenOf h
  rw [len_K, len_K] at this
  simpa using this
theorem call_cloneS {S : Specs} (hS : aget S n_65 = some sp_cloneS) (l : List Tx) (hl : l.length ≤ 1000) (n : Nat) (σ : Store) : T S (n + 1) n_65 [dSs l] σ = some (.ret ⟨false, dSs l⟩, σ) := by
  obtain ⟨c, g1, g2⟩ := T_orc (S := S) hS rfl (c := ⟨false, dSs l⟩) (fun l' e => by
    simp only [List.cons.injEq, and_true] at e
    rw [dSs_inj e]) (cloneS_pure l hl)
  rw [g2, g1 _ rfl]
theorem call_cloneK {S : Specs} (hS : aget S n_31 = some sp_cloneK) (k : Nat) (hl : k ≤ 1000) (n : Nat) (σ : Store) : T S (n + 1) n_31 [dKl k] σ = some (.ret ⟨false, dKl k⟩, σ) := by
  obtain ⟨c, g1, g2⟩ := T_orc (S := S) hS rfl (c := ⟨false, dKl k⟩) (fun l' e => by
    simp only [List.cons.injEq, and_true] at e
    rw [dKl_inj e]) (cloneK_pure k hl)
  rw [g2, g1 _ rfl]
theorem conM_mem {s : Tx} {L : List Da} {d : Da} {k : Nat} (h : conM s L = some (d, k)) : d ∈ L := by
  have := conAts_find s L 0
  rw [h] at this
  obtain ⟨n, h1, _⟩ := this
  exact List.mem_of_getElem? h1
def schR (s : Tx) (L : List Da) : D := match conM s L with
  | none => .tup [.agg [.nils, .nils, .nils, .int .i64 0, .int .i64 0, .str [], .nils], .bool false]
  | some p => .tup [.agg ([dSs p.1.vars, dKl p.1.vars.length, .nils] ++ cTy (typM p.1 (p.1.cons.getD p.2 zCn))), .bool true]
theorem scheme_run {S : Specs} (hS0 : has S n_113 = false) (hS1 : has S n_29 = false) (hS2 : aget S n_65 = some sp_cloneS) (hS3 : aget S n_31 = some sp_cloneK) (hS4 : aget S n_18 = some sp_typeOf) {σ : Store} {p m : Nat} {L : List Da} (h : PN σ p m L (conAts L 0)) (hL : L.length ≤ 1000) (hd : ∀ d ∈ L, FineD d) (s : Tx) (n : Nat) : T S (n + 2) n_113 [.ptr p 0, .str s] σ = some (.ret ⟨false, schR s L⟩, σ) := by
  have hc := con_run hS1 h hL s n
  rw [T_fun (af := a_71) hS0 rfl rfl]
  unfold schR
  cases hm : conM s L with
  | none =>
    rw [hm] at hc
    have ez : dDa zDa = .agg [.str [], .int .i64 0, .nils, .nils, .nils] := rfl
    simp only [conR, ez] at hc
    simp only [a_71, sA, Nat.reduceAdd, Nat.reduceSub, Nat.reduceMul, Nat.reduceBEq, Nat.reduceLeDiff, Int.reduceBEq, Int.reduceBNe, Int.reduceLE, Int.reduceLT, Int.reduceGE, Int.reduceGT, Int.reduceNeg, kn, onel, hc]
  | some q =>
    obtain ⟨d, k⟩ := q
    rw [hm] at hc
    have hdl := hd d (conM_mem hm)
    obtain ⟨c, hck⟩ := conM_at hm
    obtain ⟨hk, _⟩ := List.getElem?_eq_some_iff.1 hck
    have h1 := call_cloneS hS2 d.vars hdl.vars n σ
    have h2 := call_cloneK hS3 d.vars.length hdl.vars n σ
    have h3 := call_typeOf hS4 d hdl k hk n σ
    simp only [conR, getD_eq _ _ _ hk] at hc ⊢
    generalize typM d d.cons[k] = t at *
    simp only [dDa_eq, dTy_eq, cTy_eq] at hc h3
    simp only [a_71, sA, Nat.reduceAdd, Nat.reduceSub, Nat.reduceMul, Nat.reduceBEq, Nat.reduceLeDiff, Int.reduceBEq, Int.reduceBNe, Int.reduceLE, Int.reduceLT, Int.reduceGE, Int.reduceGT, Int.reduceNeg, kn, onel, hc, h1, h2, h3, cTy_eq, List.cons_append, List.nil_append]
end Go.Fu

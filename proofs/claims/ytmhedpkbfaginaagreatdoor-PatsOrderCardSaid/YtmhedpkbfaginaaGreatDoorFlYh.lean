/-
  The maker's constructors.
-/
import Derived.Test.YtmhedpkbfaginaaGreatDoorFlYb
set_option maxHeartbeats 4000000
set_option linter.unusedSimpArgs false
set_option linter.unusedVariables false
set_option linter.unusedSectionVars false
namespace Go.Fu
open Go Go.Mx
set_option maxRecDepth 100000
set_option maxHeartbeats 1000000
def EmcE (pm q : Nat) (t : Ty) (d : Da) (len : Nat) : Env := { slots := [(0, ⟨false, .ptr pm 0⟩), (1, ⟨false, .ptr q 0⟩), (45, ⟨false, .int .i64 len⟩), (46, ⟨false, .int .i64 len⟩), (47, ⟨false, .bool false⟩)], locs := [(5, 5, 0), (7, 7, 0)], boxes := [(5, bT t), (7, bD d)], defers := [] }
theorem mcon_core {S : Specs} (hS : MakeS S) {n : Nat} (pm q ps pc : Nat) (t g : Ty) (d : Da) (k : Nat) (x : Pt) (l : List Pt) (ts : List Ty) (v v' : D) {σ σa σe σf σ' : Store} {r : Int} (hk : k < d.cons.length) (hlen : d.cons[k].fs.length = l.length) (hm : aget σ.objs pm = some [⟨false, .ptr pc 0⟩, ⟨false, .ptr ps 0⟩, ⟨false, v⟩]) (hq : aget σ.objs q = some (cP x t (dPl l) .nils)) (hc : T S n n_38 [.ptr pc 0, .str x.name] σ = some (.ret ⟨false, .tup [dDa d, .int .i64 k, .bool true]⟩, σ)) (ea : σa = SO σ q (cP x t (dPl l) .nils))
    (hloop : loopN (exec (T S n) n none a_69) n (Emc pm q t d d.vars.length 0) σa = some (.exit 1, EmcE pm q t d d.vars.length, σe)) (hfrz : freezes [.obj 1] (EmcE pm q t d d.vars.length) σe = some (EmcE pm q t d d.vars.length, σf)) (hmf : aget σf.objs pm = some [⟨false, .ptr pc 0⟩, ⟨false, .ptr ps 0⟩, ⟨false, v'⟩]) (hqf : aget σf.objs q = some (cP x t (dPl l) (dTl ts))) (hown : T S n n_51 [dDa d, dTl ts] σf = some (.ret ⟨false, dTy g⟩, σf)) (hU : T S n n_55 [.ptr ps 0, dTy t, dTy g] σf = some (.ret ⟨false, .int .i64 r⟩, σ')) : T S (n + 1) n_17 [.ptr pm 0, .ptr q 0, dTy t] σ = some (.ret ⟨false, .int .i64 r⟩, σ') := by
  rw [T_fun (af := a_115) hS.2.2.2.2.1 rfl rfl]
  have hx := idx_C d.cons k hk
  have l1 := len_T d.cons[k].fs
  have l2 := len_P l
  have l3 := len_S d.vars
  rw [hlen] at l1
  generalize d.cons[k] = cn at *
  simp only [cP] at hq hqf ea
  simp only [Emc, EmcE, bT, bD, zeroI] at hloop hfrz
  simp only [dDa_eq, dTy_eq, cTy_eq] at hc hown hU
  simp only [dCn_eq] at hx
  simp only [a_115, sA, Nat.reduceAdd, Nat.reduceSub, Nat.reduceMul, Nat.reduceBEq, Nat.reduceLeDiff, Int.reduceBEq, Int.reduceBNe, Int.reduceLE, Int.reduceLT, Int.reduceGE, Int.reduceGT, Int.reduceNeg, kn, onel, onep, dTy_eq, cTy_eq, hm, hq, hc, hx, l1, l2, l3, natI, bne_self_eq_false, fold_SO, ← ea, hloop, exec_frz, hfrz, hmf, hqf, hown, hU]
theorem LW_len : LW.length ≤ 1000 := by decide
theorem mcon_none {S : Specs} (hS : MakeS S) {σ : Store} {pm pc mc ps m n : Nat} {K : Kn} {v : D} {c : Nat} (h : MI σ pm pc mc ps m n K v c) (q : Nat) (hqm : q ≠ pm) (hqs : q ≠ ps) (hqc : q ≠ pc) (hqv : vid v ≠ some q) (hql : q < σ.next) (x : Pt) (t : Ty) (l : List Pt) (hq : aget σ.objs q = some (cP x t (dPl l) .nils)) (d : Da) (k : Nat) (hcm : conM x.name LW = some (d, k)) (hk : k < d.cons.length) (hlen : d.cons[k].fs.length = l.length) (hv : d.vars = []) (ht : Fine t) (hK : FineK K) {r : Int} {K' : Kn} (hO : OneK 6 3 K t (tCon d.name) r K') : FineK K' ∧ ∃ σ', Fx σ σ' (fun j => XM pm ps v j ∨ j = q) m ∧ (r = 0 → MI σ' pm pc mc ps m n K' v c) ∧ aget σ'.objs q = some (cP x t (dPl l) .nils) ∧ ∃ N, ∀ n, N ≤ n → T S n n_17 [.ptr pm 0, .ptr q 0, dTy t] σ = some (.ret ⟨false, .int .i64 r⟩, σ') := by
  obtain ⟨σa, ea⟩ : ∃ σa, σa = SO σ q (cP x t (dPl l) .nils) := ⟨_, rfl⟩
  have fa : ∀ m, Fx σ σa (fun j => j = q) m := fun m => by rw [ea]; exact fx_SO _ _ _ _
  have ha : MI σa pm pc mc ps m n K v c := h.fx (fa m) (fun e => hqm e.symm) (fun e => hqc e.symm) (fun j hj e => hqv (by rw [hj, e])) (h.sk.fx (fa (m + 1)) (fun e => hqs e.symm) (by omega))
  have oa : aget σa.objs q = some (cP x t (dPl l) .nils) := by rw [ea]; exact agA _ _ _
  obtain ⟨σf, ef⟩ : ∃ σf : Store, σf = { σa with objs := aset (adel1 σa.objs q) q (cP x t (dPl l) .nils) } := ⟨_, rfl⟩
  have ff : ∀ m, Fx σa σf (fun j => j = q) m := fun m => by
    rw [ef]
    exact ⟨Nat.le_refl _, fun j _ hx => (agB _ _ _ (beq_false_of_ne fun e => hx e.symm) _).trans (aget_adel q j (fun e => hx e.symm) _), fun _ _ _ => rfl, fun _ _ _ => rfl⟩
  have hf : MI σf pm pc mc ps m n K v c := ha.fx (ff m) (fun e => hqm e.symm) (fun e => hqc e.symm) (fun j hj e => hqv (by rw [hj, e])) (ha.sk.fx (ff (m + 1)) (fun e => hqs e.symm) (by omega))
  have of : aget σf.objs q = some (cP x t (dPl l) .nils) := by rw [ef]; exact agA _ _ _
  have lqf : q < σf.next := Nat.lt_of_lt_of_le hql (Nat.le_trans (fa m).le (ff m).le)
  obtain ⟨hK2, σ', fu, hs, N, hN⟩ := unify_run hS.1 hO hK ht (fine_con _) σf hf.sk
  refine ⟨hK2, σ', ?_, fun hr => hf.fx fu.fx h.ne1 (Ne.symm h.ne3) (fun j hj => (h.nv j hj).2.1) (hs hr), (fu.fx.objs q lqf hqs).trans of, N + 5, fun n hn => ?_⟩
  · exact (((fa m).trans (ff m) fun j _ e => e).mono fun j _ e => .inr e).trans fu.fx fun j _ e => .inl (.inl e)
  · obtain ⟨n, rfl⟩ : ∃ k, n = k + 2 := ⟨n - 2, by omega⟩
    have hc := con_run (S := S) hS.2.2.2.2.2.2.2.1 h.pn LW_len x.name n
    rw [hcm] at hc
    refine mcon_core hS pm q ps pc t (tCon d.name) d k x l [] v v hk hlen h.obj hq hc ea (σe := σa) (σf := σf) ?_ ?_ hf.obj of ?_ (hN _ (by omega))
    · rw [hv]
      exact loopN_stop (mc_end pm q t d 0)
    · rw [hv, ef]
      exact frz_none oa rfl
    · exact call_pown hS.2.2.2.2.2.2.2.2.2.2.2 d [] (fun _ h => by cases h) (by simp) n σf
theorem mcon_one {S : Specs} (hS : MakeS S) {σ : Store} {pm pc mc ps m n : Nat} {K : Kn} {v : D} {c : Nat} (h : MI σ pm pc mc ps m n K v c) (hn : n < 1000) (q : Nat) (hqm : q ≠ pm) (hqs : q ≠ ps) (hqc : q ≠ pc) (hqv : vid v ≠ some q) (hql : q < σ.next) (x : Pt) (t : Ty) (l : List Pt) (hq : aget σ.objs q = some (cP x t (dPl l) .nils)) (d : Da) (k : Nat) (hcm : conM x.name LW = some (d, k)) (hk : k < d.cons.length) (hlen : d.cons[k].fs.length = l.length) (a : Tx) (hv : d.vars = [a]) (ht : Fine t) (hK : FineK K) {r : Int} {K' : Kn} (hO : OneK 6 3 K t (tApp (tCon d.name) (tMeta ((n + 1 : Nat) : Int))) r K') : FineK K' ∧ ∃ σ', Fx σ σ' (fun j => XM pm ps v j ∨ j = q) m ∧ (r = 0 → MI σ' pm pc mc ps m (n + 1) K' v c) ∧ aget σ'.objs q = some (cP x t (dPl l) (dTl [tMeta ((n + 1 : Nat) : Int)])) ∧ ∃ N, ∀ n, N ≤ n → T S n n_17 [.ptr pm 0, .ptr q 0, dTy t] σ = some (.ret ⟨false, .int .i64 r⟩, σ') := by
  obtain ⟨σa, ea⟩ : ∃ σa, σa = SO σ q (cP x t (dPl l) .nils) := ⟨_, rfl⟩
  have fa : ∀ m, Fx σ σa (fun j => j = q) m := fun m => by rw [ea]; exact fx_SO _ _ _ _
  have ha : MI σa pm pc mc ps m n K v c := h.fx (fa m) (fun e => hqm e.symm) (fun e => hqc e.symm) (fun j hj e => hqv (by rw [hj, e])) (h.sk.fx (fa (m + 1)) (fun e => hqs e.symm) (by omega))
  have oa : aget σa.objs q = some (cP x t (dPl l) .nils) := by rw [ea]; exact agA _ _ _
  have lqa : q < σa.next := Nat.lt_of_lt_of_le hql (fa m).le
  -- a new number
  obtain ⟨σb, eb⟩ : ∃ σb, σb = SO σa ps [⟨false, .int .i64 (n + 1 : Nat)⟩, ⟨false, .map m⟩] := ⟨_, rfl⟩
  have hFr : ∀ k, T S (k + 2) n_16 [.ptr ps 0] σa = some (.ret ⟨false, dTy (tMeta (n + 1 : Nat))⟩, σb) ∧ SK σb ps m (n + 1) K := fun k => by
    rw [eb]
    exact fresh_run hS.1.2.2.2.2.2.2.2.2.2.2.2.2.2.1 hS.1.2.2.2.2.2.2.2.2.2.2.2.2.2.2.2.1 ha.sk (by omega) k
  have fb : ∀ m, Fx σa σb (fun j => j = ps) m := fun m => by rw [eb]; exact fx_SO _ _ _ _
  have hb : MI σb pm pc mc ps m (n + 1) K v c := ha.fx (fb m) h.ne1 (Ne.symm h.ne3) (fun j hj => (h.nv j hj).2.1) (hFr 0).2
  have ob : aget σb.objs q = some (cP x t (dPl l) .nils) := ((fb m).objs q lqa hqs).trans oa
  have lqb : q < σb.next := Nat.lt_of_lt_of_le lqa (fb m).le
  have hid : σb.next ≠ q := by omega
  -- its place
  obtain ⟨σc, ec⟩ : ∃ σc, σc = newArr σb k_0 (cellsOf [zTy4]) := ⟨_, rfl⟩
  have fc : Fr σb σc := by
    rw [ec]
    exact ⟨Nat.le_add_right _ _, fun j hj => agC _ _ _ _ (by omega), fun _ _ => rfl, fun j hj => agC _ _ _ _ (by omega)⟩
  have hc : MI σc pm pc mc ps m (n + 1) K v c := hb.fr fc
  have oc : aget σc.objs q = some (cP x t (dPl l) .nils) := (fc.objs q lqb).trans ob
  have zc : aget σc.objs σb.next = some (cellsOf [zTy4]) := by rw [ec]; exact agS _ _ _
  have lc : σb.next < σc.next := by rw [ec]; show σb.next < σb.next + 2; omega
  obtain ⟨σd, ed⟩ : ∃ σd, σd = SO σc σb.next (cellsOf [dTy (tMeta ((n + 1 : Nat) : Int))]) := ⟨_, rfl⟩
  have fd : ∀ m, Fx σc σd (fun j => j = σb.next) m := fun m => by rw [ed]; exact fx_SO _ _ _ _
  have lpm := hb.lt
  have lps := hb.sk.lt
  have lpc := hb.pn.lt
  have lv : ∀ j, vid v = some j → j < σb.next := hb.va.lt
  have hd : MI σd pm pc mc ps m (n + 1) K v c := hc.fx (fd m) (by omega) (by omega) (fun j hj e => by have := lv j hj; omega) (hc.sk.fx (fd (m + 1)) (by omega) (by omega))
  have od : aget σd.objs q = some (cP x t (dPl l) .nils) := ((fd m).objs q (by omega) (fun e => hid e.symm)).trans oc
  have zd : aget σd.objs σb.next = some (cellsOf [dTy (tMeta ((n + 1 : Nat) : Int))]) := by rw [ed]; exact agA _ _ _
  obtain ⟨σe, ee⟩ : ∃ σe, σe = SO σd q (cP x t (dPl l) (.arr k_0 σb.next 0 1)) := ⟨_, rfl⟩
  have fe : ∀ m, Fx σd σe (fun j => j = q) m := fun m => by rw [ee]; exact fx_SO _ _ _ _
  have lqd : q < σd.next := Nat.lt_of_lt_of_le (Nat.lt_of_lt_of_le lqb fc.le) (fd m).le
  have he : MI σe pm pc mc ps m (n + 1) K v c := hd.fx (fe m) (fun e => hqm e.symm) (fun e => hqc e.symm) (fun j hj e => hqv (by rw [hj, e])) (hd.sk.fx (fe (m + 1)) (fun e => hqs e.symm) (by omega))
  have oe : aget σe.objs q = some (cP x t (dPl l) (.arr k_0 σb.next 0 1)) := by rw [ee]; exact agA _ _ _
  have ze : aget σe.objs σb.next = some (cellsOf [dTy (tMeta ((n + 1 : Nat) : Int))]) := ((fe m).objs _ (Nat.lt_of_lt_of_le lc (fd m).le) hid).trans zd
  obtain ⟨σf, ef⟩ : ∃ σf : Store, σf = { σe with objs := aset (adel1 (adel1 σe.objs q) σb.next) q (cP x t (dPl l) (dTl [tMeta ((n + 1 : Nat) : Int)])) } := ⟨_, rfl⟩
  have ff : ∀ m, Fx σe σf (fun j => j = q ∨ j = σb.next) m := fun m => by
    rw [ef]
    exact ⟨Nat.le_refl _, fun j _ hx => (agB _ _ _ (beq_false_of_ne fun e => hx (.inl e.symm)) _).trans ((aget_adel _ j (fun e => hx (.inr e.symm)) _).trans (aget_adel q j (fun e => hx (.inl e.symm)) _)), fun _ _ _ => rfl, fun _ _ _ => rfl⟩
  have hf : MI σf pm pc mc ps m (n + 1) K v c := he.fx (ff m) (by rintro (e | e) <;> omega) (by rintro (e | e) <;> omega) (fun j hj e => by
    rcases e with e | e
    · exact hqv (by rw [hj, e])
    · have := lv j hj
      omega) (he.sk.fx (ff (m + 1)) (by rintro (e | e) <;> omega) (by omega))
  have of : aget σf.objs q = some (cP x t (dPl l) (dTl [tMeta ((n + 1 : Nat) : Int)])) := by rw [ef]; exact agA _ _ _
  have lqf : q < σf.next := Nat.lt_of_lt_of_le lqd (Nat.le_trans (fe m).le (ff m).le)
  obtain ⟨hK2, σ', fu, hs, N, hN⟩ := unify_run hS.1 hO hK ht (fine_app (fine_con _) (fine_meta _)) σf hf.sk
  have lall : σ.next ≤ σb.next := Nat.le_trans (fa m).le (fb m).le
  refine ⟨hK2, σ', ?_, fun hr => hf.fx fu.fx h.ne1 (Ne.symm h.ne3) (fun j hj => (h.nv j hj).2.1) (hs hr), (fu.fx.objs q lqf hqs).trans of, N + 5, fun n' hn' => ?_⟩
  · have g1 : Fx σ σb (fun j => XM pm ps v j ∨ j = q) m := ((fa m).mono fun j _ e => .inr e).trans (fb m) fun j _ e => .inl (.inl e)
    have g2 : Fx σ σc (fun j => XM pm ps v j ∨ j = q) m := g1.trans (fc.fx (fun _ => False) m) fun j _ e => e.elim
    have g3 : Fx σ σd (fun j => XM pm ps v j ∨ j = q) m := g2.trans (fd m) fun j hj e => by omega
    have g4 : Fx σ σe (fun j => XM pm ps v j ∨ j = q) m := g3.trans (fe m) fun j hj e => .inr e
    have g5 : Fx σ σf (fun j => XM pm ps v j ∨ j = q) m := g4.trans (ff m) fun j hj e => by
      rcases e with e | e
      · exact .inr e
      · omega
    exact g5.trans fu.fx fun j _ e => .inl (.inl e)
  · obtain ⟨n', rfl⟩ : ∃ k, n' = k + 3 := ⟨n' - 3, by omega⟩
    have hcr := con_run (S := S) hS.2.2.2.2.2.2.2.1 h.pn LW_len x.name (n' + 1)
    rw [hcm] at hcr
    refine mcon_core hS pm q ps pc t (tApp (tCon d.name) (tMeta ((n + 1 : Nat) : Int))) d k x l [tMeta ((n + 1 : Nat) : Int)] v v hk hlen h.obj hq hcr ea (σe := σe) (σf := σf) ?_ ?_ hf.obj of ?_ (hN _ (by omega))
    · rw [hv]
      have hst := mc_step (S := S) (n := n' + 2) pm q ps pc t (tMeta ((n + 1 : Nat) : Int)) d x l v ha.obj oa (hFr n').1 ob ec ed ee od zc (beq_false_of_ne hid)
      rw [show n' + 2 = n' + 1 + 1 from rfl] at hst ⊢
      exact (loopN_succ hst).trans (loopN_stop (mc_end pm q t d 1))
    · rw [hv, ef]
      exact frz_one oe ze (Ne.symm hid) rfl
    · exact call_pown hS.2.2.2.2.2.2.2.2.2.2.2 d [tMeta ((n + 1 : Nat) : Int)] (fun a h => by rw [List.mem_singleton.1 h]; exact fine_meta _) (by simp) (n' + 1) σf
end Go.Fu
namespace Go.Fu
open Go Go.Mx
set_option maxRecDepth 100000
set_option maxHeartbeats 1000000
def pcs (x : Pt) : List Cell := cP x x.ty (dPl x.kids) (dTl x.types)
theorem pcs_cells (x : Pt) : (dPt x).cells.map Cell.of = pcs x := by
  rw [dPt_eq]
  rfl
theorem pcs_len (x : Pt) : (pcs x).length = 10 := rfl
def pcl : List Pt → List Cell
  | [] => []
  | x :: r => pcs x ++ pcl r
theorem pcl_eq : ∀ l : List Pt, cellsOf (l.map dPt) = pcl l
  | [] => rfl
  | x :: r => by rw [List.map_cons, cellsOf, pcl, pcs_cells, pcl_eq r]
theorem pcl_len : ∀ l : List Pt, (pcl l).length = l.length * 10
  | [] => rfl
  | x :: r => by
    rw [pcl, List.length_append, pcs_len, pcl_len r, List.length_cons]
    omega
theorem takeC_skip : ∀ (a b : List Cell) (n k : Nat), takeC (a ++ b) (a.length + n) k = takeC b n k
  | [], b, n, k => by
    rw [List.nil_append, List.length_nil, Nat.zero_add]
  | x :: a, b, n, k => by
    rw [List.cons_append, List.length_cons, show a.length + 1 + n = (a.length + n) + 1 by omega]
    cases k with
    | zero =>
      have ih := takeC_skip a b n 0
      simp only [takeC] at ih ⊢
      exact ih
    | succ k =>
      have ih := takeC_skip a b n (k + 1)
      simp only [takeC] at ih ⊢
      exact ih
theorem takeC_head (x : Pt) (b : List Cell) : takeC (pcs x ++ b) 0 10 = some (cPt x) := by
  simp only [pcs, cP, cPt, List.cons_append, List.nil_append, takeC, bindO, caseO_some]
theorem takeC_pcl : ∀ (l : List Pt) (i : Nat) (h : i < l.length), takeC (pcl l) (i * 10) 10 = some (cPt l[i])
  | x :: r, 0, _ => by
    rw [Nat.zero_mul]
    exact takeC_head x _
  | x :: r, i + 1, h => by
    have ih := takeC_pcl r i (by simpa using h)
    rw [show (i + 1) * 10 = (pcs x).length + i * 10 by rw [pcs_len]; omega, pcl, takeC_skip, ih]
    rfl
theorem putC_skip : ∀ (a b : List Cell) (n : Nat) (c : List Cell), putCells (a ++ b) (a.length + n) c = a ++ putCells b n c
  | [], b, n, c => by rw [List.nil_append, List.length_nil, Nat.zero_add, List.nil_append]
  | x :: a, b, n, [] => by simp only [putCells]
  | x :: a, b, n, y :: c => by
    rw [List.cons_append, List.length_cons, show a.length + 1 + n = (a.length + n) + 1 by omega, List.cons_append]
    simp only [putCells]
    rw [putC_skip a b n (y :: c)]
theorem putC_head (x y : Pt) (b : List Cell) : putCells (pcs x ++ b) 0 (pcs y) = pcs y ++ b := by
  simp only [pcs, cP, List.cons_append, List.nil_append, putCells]
theorem putC_pcl : ∀ (l : List Pt) (i : Nat) (h : i < l.length) (y : Pt), putCells (pcl l) (i * 10) (pcs y) = pcl (l.set i y)
  | x :: r, 0, _, y => by
    rw [Nat.zero_mul]
    exact putC_head x y _
  | x :: r, i + 1, h, y => by
    have ih := putC_pcl r i (by simpa using h) y
    rw [show (i + 1) * 10 = (pcs x).length + i * 10 by rw [pcs_len]; omega, pcl, putC_skip, ih]
    rfl
theorem chunks_pcl : ∀ l : List Pt, chunks k_1 l.length ((pcl l).map fun c => c.d) = l.map dPt
  | [] => rfl
  | x :: r => by
    have ih := chunks_pcl r
    rw [List.length_cons, List.map_cons, pcl, List.map_append]
    show (D.agg (cPt x)) :: chunks k_1 r.length ((pcl r).map fun c => c.d) = _
    rw [ih, dPt_eq]
theorem elems_pcl (l : List Pt) : elems k_1 (pcl l) 0 l.length = l.map dPt := by
  rw [elems, Nat.zero_mul, List.drop_zero, chunks_pcl]
theorem fz_dPt (n : Nat) (x : Pt) (os : Objs) : freezeD (n + 2) (dPt x) os = some (dPt x, os) := by
  have h1 : freezeD (n + 1) (dTl x.ty.as_) os = some (dTl x.ty.as_, os) := fz_dl n _ _ _
  have h2 : freezeD (n + 1) (dTl x.types) os = some (dTl x.types, os) := fz_dl n _ _ _
  have h3 : freezeD (n + 1) (dPl x.kids) os = some (dPl x.kids, os) := fz_dl n _ _ _
  have i1 : ∀ k (a : Int), freezeD (n + 1) (.int k a) os = some (.int k a, os) := fun _ _ => rfl
  have i2 : ∀ a, freezeD (n + 1) (.str a) os = some (.str a, os) := fun _ => rfl
  rw [dPt_eq, cPt]
  show (bindO (freezeL (freezeD (n + 1)) [.int .i64 x.form, .int .i64 x.pos, .int .i64 x.n, .str x.name, dPl x.kids, .int .i64 x.ty.f, .int .i64 x.ty.n, .str x.ty.s, dTl x.ty.as_, dTl x.types] os) fun r => some (D.agg r.1, r.2)) = _
  simp only [freezeL, i1, i2, h1, h2, h3, bindO, caseO_some]
theorem fzL_pts (n : Nat) (os : Objs) : ∀ l : List Pt, freezeL (freezeD (n + 2)) (l.map dPt) os = some (l.map dPt, os)
  | [] => rfl
  | x :: r => by simp only [List.map_cons, freezeL, fz_dPt, bindO, caseO_some, fzL_pts n os r]
theorem fz_kids {os : Objs} {id : Nat} {l : List Pt} (h : aget os id = some (pcl l)) (h0 : l ≠ []) : freezeD 40 (.arr k_1 id 0 l.length) os = some (dPl l, adel1 os id) := by
  have hc : ((k_1.ag || k_1.sz == 1) && decide ((0 + l.length) * k_1.sz ≤ (pcl l).length)) = true := by
    have e : decide ((0 + l.length) * 10 ≤ (pcl l).length) = true := by
      rw [pcl_len]
      exact decide_eq_true (by omega)
    exact e
  rw [freezeD]
  simp only [h, bindO, caseO_some, hc, ifB_true, elems_pcl, fzL_pts]
  cases l with
  | nil => exact absurd rfl h0
  | cons x r => rfl
end Go.Fu
namespace Go.Fu
open Go Go.Mx
set_option maxRecDepth 100000
set_option maxHeartbeats 1000000
def zPt : Pt := .mk 0 0 0 [] [] zTy []
def z2 : List Cell := [⟨false, .int .i64 0⟩, ⟨false, .int .i64 0⟩]
section
variable {C : CallF} {n : Nat} {σ : Store}
def Emk (pm q : Nat) (d : Da) (fs : List Ty) (len i : Nat) : Env := { slots := [(0, ⟨false, .ptr pm 0⟩), (4, ⟨false, .ptr q 0⟩), (60, ⟨false, dTl fs⟩), (61, ⟨false, .int .i64 len⟩), (62, ⟨false, .int .i64 i⟩)], locs := [(6, 6, 0), (7, 7, 0), (10, 10, 0)], boxes := [(6, z10), (7, z2), (10, bD d)], defers := [] }
theorem idx_arr (id len i : Nat) (h : i < len) : indexD 10 (.arr k_1 id 0 len) i = some (.ptr id (i * 10)) := by
  have e : decide (i < len) = true := decide_eq_true h
  have ek : (k_1.sz == 10) = true := rfl
  simp only [indexD, ek, e, Bool.and_self, ifB_true, Nat.zero_add]
theorem mk_step (pm q pc ps kid : Nat) (d : Da) (fs us : List Ty) (L : List Pt) (x y : Pt) (τ g : Ty) (v : D) (i : Nat) (hi : i < fs.length) (hL : fs.length = L.length) (hl : L.length ≤ 10) (at_ : Int) {σ' : Store} (hq : aget σ.objs q = some (cP x τ (.arr k_1 kid 0 L.length) (dTl us))) (hk : aget σ.objs kid = some (pcl L)) (h1 : C n_5 [dTy fs[i], dSs d.vars, dTl us] σ = some (.ret ⟨false, dTy g⟩, σ)) (h2 : C n_18 [.ptr pm 0, dPt (L[i]'(by omega)), dTy g] σ = some (.ret ⟨false, .tup [dPt y, .agg [.int .i64 0, .int .i64 at_]]⟩, σ')) (hq' : aget σ'.objs q = some (cP x τ (.arr k_1 kid 0 L.length) (dTl us))) (hk' : aget σ'.objs kid = some (pcl L)) : exec C n none a_32 (Emk pm q d fs L.length i) σ = some (.normal, Emk pm q d fs L.length (i + 1), SO σ' kid (pcl (L.set i y))) := by
  have hi2 : i < L.length := by omega
  have hlt : ((i : Int) < L.length) := by omega
  have w := wrap64_succ (i := i) (by omega)
  have hx := idx_T fs i hi
  have hix := idx_arr kid L.length i hi2
  have hrd := takeC_pcl L i hi2
  have hfit : decide (i * 10 + 10 ≤ (pcl L).length) = true := by
    rw [pcl_len]
    exact decide_eq_true (by omega)
  have hput := putC_pcl L i hi2 y
  simp only [pcs, cP] at hput
  generalize fs[i] = f at *
  generalize L[i] = a at *
  generalize pcl (L.set i y) = R at *
  generalize pcl L = P at *
  simp only [cP] at hq hq'
  simp only [dTy_eq, cTy_eq] at h1 h2 hx
  simp only [dPt_eq, cPt] at h2 hrd
  simp only [a_32, Emk, z10, z2, bD, sA, Nat.reduceAdd, Nat.reduceSub, Nat.reduceMul, Nat.reduceBEq, Nat.reduceLeDiff, Int.reduceBEq, Int.reduceBNe, Int.reduceLE, Int.reduceLT, Int.reduceGE, Int.reduceGT, Int.reduceNeg, kn, onel, onep, hlt, hx, natI, hq, hk, hix, hrd, h1, h2, bne_self_eq_false, hq', hk', hfit, hput, fold_SO, w, cPt]
theorem mk_stop (pm q pc ps kid : Nat) (d : Da) (fs us : List Ty) (L : List Pt) (x y : Pt) (τ g : Ty) (i : Nat) (hi : i < fs.length) (hL : fs.length = L.length) (at_ e : Int) (he : e ≠ 0) {σ' : Store} (hq : aget σ.objs q = some (cP x τ (.arr k_1 kid 0 L.length) (dTl us))) (hk : aget σ.objs kid = some (pcl L)) (h1 : C n_5 [dTy fs[i], dSs d.vars, dTl us] σ = some (.ret ⟨false, dTy g⟩, σ)) (h2 : C n_18 [.ptr pm 0, dPt (L[i]'(by omega)), dTy g] σ = some (.ret ⟨false, .tup [dPt y, .agg [.int .i64 e, .int .i64 at_]]⟩, σ')) : exec C n none a_32 (Emk pm q d fs L.length i) σ = some (.ret, { slots := [], locs := [(6, 6, 0), (7, 7, 0)], boxes := [(6, z10), (7, [⟨false, .int .i64 e⟩, ⟨false, .int .i64 at_⟩])], defers := [] }, σ') := by
  have hi2 : i < L.length := by omega
  have hlt : ((i : Int) < L.length) := by omega
  have hx := idx_T fs i hi
  have hix := idx_arr kid L.length i hi2
  have hrd := takeC_pcl L i hi2
  have hne : (e != 0) = true := by simpa using he
  generalize fs[i] = f at *
  generalize L[i] = a at *
  generalize pcl L = P at *
  simp only [cP] at hq
  simp only [dTy_eq, cTy_eq] at h1 h2 hx
  simp only [dPt_eq, cPt] at h2 hrd
  simp only [a_32, Emk, z10, z2, bD, sA, Nat.reduceAdd, Nat.reduceSub, Nat.reduceMul, Nat.reduceBEq, Nat.reduceLeDiff, Int.reduceBEq, Int.reduceBNe, Int.reduceLE, Int.reduceLT, Int.reduceGE, Int.reduceGT, Int.reduceNeg, kn, onel, onep, hlt, hx, natI, hq, hk, hix, hrd, h1, h2, hne]
theorem mk_end (pm q : Nat) (d : Da) (fs : List Ty) (len : Nat) : exec C n none a_32 (Emk pm q d fs len len) σ = some (.exit 0, { Emk pm q d fs len len with slots := [(0, ⟨false, .ptr pm 0⟩), (4, ⟨false, .ptr q 0⟩), (60, ⟨false, dTl fs⟩), (61, ⟨false, .int .i64 len⟩), (62, ⟨false, .int .i64 len⟩), (63, ⟨false, .bool false⟩)] }, σ) := by
  have hlt : ¬ ((len : Int) < len) := by omega
  simp only [a_32, Emk, sA, Nat.reduceAdd, Nat.reduceSub, Nat.reduceMul, Nat.reduceBEq, Nat.reduceLeDiff, Int.reduceBEq, Int.reduceBNe, Int.reduceLE, Int.reduceLT, Int.reduceGE, Int.reduceGT, Int.reduceNeg, kn, hlt]
end
end Go.Fu
namespace Go.Fu
open Go Go.Mx
set_option maxRecDepth 100000
set_option maxHeartbeats 2000000
theorem cloneP_nil {S : Specs} (hS : MakeS S) (n : Nat) (σ : Store) : T S (n + 1) n_105 [.nils] σ = some (.ret ⟨false, .nils⟩, σ) := by
  rw [T_fun (af := a_75) hS.2.2.2.2.2.2.2.2.1 rfl rfl]
  simp only [a_75, sA, Nat.reduceAdd, Nat.reduceSub, Nat.reduceMul, Nat.reduceBEq, Nat.reduceLeDiff, Int.reduceBEq, Int.reduceBNe, Int.reduceLE, Int.reduceLT, Int.reduceGE, Int.reduceGT, Int.reduceNeg, kn]
theorem allS_pts (l : List Pt) : allSize k_1.sz (l.map dPt) = true := allSize_all fun d h => by
  obtain ⟨x, _, rfl⟩ := List.mem_map.1 h
  exact ⟨ok_dPt x, cells_dPt x⟩
theorem cloneP_run {S : Specs} (hS : MakeS S) (l : List Pt) (h0 : l ≠ []) (hl : l.length ≤ 10) (σ : Store) : ∃ σ', Fr σ σ' ∧ aget σ'.objs (σ.next + 2) = some (pcl l) ∧ σ.next + 2 < σ'.next ∧ ∀ n, T S (n + 1) n_105 [dPl l] σ = some (.ret ⟨false, .arr k_1 (σ.next + 2) 0 l.length⟩, σ') := by
  obtain ⟨τ, hτ⟩ : ∃ τ, τ = newArr σ k_1 (cellsOf []) := ⟨_, rfl⟩
  have ho : aget τ.objs σ.next = some [] := by rw [hτ]; exact agS _ _ _
  have ht : aget τ.tys σ.next = some ⟨k_1.el, k_1.sz⟩ := by rw [hτ]; exact agS _ _ _
  have hn : τ.next = σ.next + 2 := by rw [hτ]; rfl
  have fτ : Fr σ τ := by
    rw [hτ]
    exact ⟨Nat.le_add_right _ _, fun j hj => agC _ _ _ _ (by omega), fun _ _ => rfl, fun j hj => agC _ _ _ _ (by omega)⟩
  obtain ⟨σ', hσ'⟩ : ∃ σ', σ' = newArr { τ with objs := adel1 τ.objs σ.next } k_1 (pcl l) := ⟨_, rfl⟩
  refine ⟨σ', ?_, ?_, ?_, fun n => ?_⟩
  · rw [hσ']
    refine ⟨by show σ.next ≤ τ.next + 2; omega, fun j hj => ?_, fun j hj => fτ.oth j hj, fun j hj => (agC _ _ _ _ (by show τ.next ≠ j; omega)).trans (fτ.tys j hj)⟩
    exact (agC _ _ _ _ (by show τ.next ≠ j; omega)).trans ((aget_adel σ.next j (by omega) _).trans (fτ.objs j hj))
  · rw [hσ', ← hn]
    exact agS _ _ _
  · rw [hσ']
    show σ.next + 2 < τ.next + 2
    omega
  · have hap : appendAD τ k_1 144 (.arr k_1 σ.next 0 0) (l.map dPt) = some (.arr k_1 (σ.next + 2) 0 l.length, σ') := by
      have ek : k_1.same k_1 = true := rfl
      have e0 : decide (0 * k_1.sz ≤ ([] : List Cell).length) = true := by decide
      have e1 : decide (l.length * 144 ≤ bound) = true := decide_eq_true (show l.length * 144 ≤ 1099511627776 by omega)
      have e2 : decide (l.length ≤ bound) = true := decide_eq_true (show l.length ≤ 1099511627776 by omega)
      have e3 : 0 + l.length = l.length := Nat.zero_add _
      have e4 : newArr { objs := adel1 τ.objs σ.next, tys := τ.tys, oth := τ.oth, next := σ.next + 2 } k_1 (pcl l) = σ' := by rw [hσ', ← hn]
      simp only [appendAD, allS_pts, ifB_true, ho, ht, bindO, caseO_some, ek, beq_self_eq_true, List.length_map, e0, e1, e2, Bool.and_self, List.take_nil, List.map_nil, List.nil_append, pcl_eq, hn, e3, e4, Bool.true_and]
    have hlist : listOf τ.objs (dPl l) = some (l.map dPt) := by
      cases l with
      | nil => exact absurd rfl h0
      | cons x r => rfl
    have hnil : (dPl l).isNilS? = some false := by
      cases l with
      | nil => exact absurd rfl h0
      | cons x r => rfl
    have hb : ∀ e : Env, memOp (.buildA k_1 []) e σ = some (.arr k_1 σ.next 0 0, τ) := fun e => by
      rw [hτ]
      rfl
    rw [T_fun (af := a_75) hS.2.2.2.2.2.2.2.2.1 rfl rfl]
    simp only [a_75, sA, Nat.reduceAdd, Nat.reduceSub, Nat.reduceMul, Nat.reduceBEq, Nat.reduceLeDiff, Int.reduceBEq, Int.reduceBNe, Int.reduceLE, Int.reduceLT, Int.reduceGE, Int.reduceGT, Int.reduceNeg, kn, onel, onep, hnil, memE, hb, mAppA, hlist, hap]
def S1 (σ : Store) (x : Pt) : Store := GA σ t_108 (pcs x)
def S2 (σ : Store) (x : Pt) (τ : Ty) : Store := SO (SO (S1 σ x) σ.next (cP x τ (dPl x.kids) (dTl x.types))) σ.next (cP x τ (dPl x.kids) .nils)
theorem S2_obj (σ : Store) (x : Pt) (τ : Ty) : aget (S2 σ x τ).objs σ.next = some (cP x τ (dPl x.kids) .nils) := agA _ _ _
theorem S2_fr (σ : Store) (x : Pt) (τ : Ty) : Fr σ (S2 σ x τ) := by
  refine ⟨Nat.le_succ _, fun j hj => ?_, fun _ _ => rfl, fun j hj => agC _ _ _ _ (by omega)⟩
  have e : (σ.next == j) = false := beq_false_of_ne (by omega)
  exact (agB _ _ _ e _).trans ((agB _ _ _ e _).trans (agC _ _ _ _ (by omega)))
theorem S2_next (σ : Store) (x : Pt) (τ : Ty) : (S2 σ x τ).next = σ.next + 1 := rfl
def yPt (x : Pt) (τ : Ty) (l : List Pt) (us : List Ty) : Pt := .mk x.form x.pos x.n x.name l τ us
def mkR (y : Pt) (e a : Int) : Cell := ⟨false, .tup [dPt y, .agg [.int .i64 e, .int .i64 a]]⟩
theorem d15 : decide ((1 : Nat) < 5) = true := rfl
theorem d25 : decide ((2 : Nat) < 5) = true := rfl
theorem d35 : decide ((3 : Nat) < 5) = true := rfl
theorem d45 : decide ((4 : Nat) < 5) = true := rfl
theorem mk_flat {S : Specs} (hS : MakeS S) {n : Nat} {σ σ3 : Store} (pm : Nat) (x : Pt) (τ : Ty) (hkd : x.kids = []) (w : FuncId) (hw : (x.form = 1 ∧ w = n_50) ∨ (x.form = 2 ∧ w = n_48) ∨ (x.form = 3 ∧ w = n_49)) (e : Int) (hr : T S n w [.ptr pm 0, .ptr σ.next 0, dTy τ] (S2 σ x τ) = some (.ret ⟨false, .int .i64 e⟩, σ3)) (hq : aget σ3.objs σ.next = some (cP x τ .nils .nils)) (hn : 1 ≤ n) : T S (n + 1) n_18 [.ptr pm 0, dPt x, dTy τ] σ = some (if e = 0 then .ret (mkR (yPt x τ [] []) 0 0) else .ret (mkR zPt e x.pos), if e = 0 then SO σ3 σ.next (cP x τ .nils .nils) else σ3) := by
  obtain ⟨σ1, h1⟩ : ∃ σ1, σ1 = S1 σ x := ⟨_, rfl⟩
  obtain ⟨σa, ha⟩ : ∃ σa, σa = SO σ1 σ.next (cP x τ (dPl x.kids) (dTl x.types)) := ⟨_, rfl⟩
  obtain ⟨σ2, h2⟩ : ∃ σ2, σ2 = SO σa σ.next (cP x τ (dPl x.kids) .nils) := ⟨_, rfl⟩
  have e2 : S2 σ x τ = σ2 := by rw [h2, ha, h1]; rfl
  have o1 : aget σ1.objs σ.next = some (pcs x) := by rw [h1]; exact agS _ _ _
  have oa : aget σa.objs σ.next = some (cP x τ (dPl x.kids) (dTl x.types)) := by rw [ha]; exact agA _ _ _
  have o2 : aget σ2.objs σ.next = some (cP x τ (dPl x.kids) .nils) := by rw [h2]; exact agA _ _ _
  obtain ⟨σ4, h4⟩ : ∃ σ4, σ4 = SO σ3 σ.next (cP x τ .nils .nils) := ⟨_, rfl⟩
  have o4 : aget σ4.objs σ.next = some (cP x τ .nils .nils) := by rw [h4]; exact agA _ _ _
  have e45 : SO σ4 σ.next (cP x τ .nils .nils) = σ4 := by
    rw [h4]
    simp only [SO, aset_aset]
  rw [e2] at hr
  rw [← h4]
  obtain ⟨n, rfl⟩ : ∃ k, n = k + 1 := ⟨n - 1, by omega⟩
  have hcl := cloneP_nil hS n σ3
  have hg : ∀ e : Env, memOp (.gbox t_108 (.tmp 1)) { slots := [(0, ⟨false, .ptr pm 0⟩), (1, ⟨false, .agg (cPt x)⟩), (2, ⟨false, .agg (cTy τ)⟩)], locs := [], boxes := [], defers := [] } σ = some (.ptr σ.next 0, σ1) := fun _ => by
    rw [h1]
    rfl
  have hg := hg ⟨[], [], [], []⟩
  have f1 : D.fn? (.fn (.func n_50) [] []) = some (n_50, [], []) := rfl
  have f2 : D.fn? (.fn (.func n_48) [] []) = some (n_48, [], []) := rfl
  have f3 : D.fn? (.fn (.func n_49) [] []) = some (n_49, [], []) := rfl
  have hz := fz_cP x τ [] .nils .nils σ4.objs σ4.objs rfl
  have ek : dPl [] = .nils := rfl
  rw [ek] at hz
  rw [hkd, ek] at ha h2 oa o2
  have hfz : freezes [.box 6] { slots := [], locs := [(6, 6, 0), (7, 7, 0)], boxes := [(6, cP x τ .nils .nils), (7, z2)], defers := [] } σ4 = some ({ slots := [], locs := [(6, 6, 0), (7, 7, 0)], boxes := [(6, cP x τ .nils .nils), (7, z2)], defers := [] }, σ4) := by
    simp only [freezes, freeze1, aget, beq_self_eq_true, ifB_true, bindO, caseO_some, hz]
    rfl
  rw [T_fun (af := a_20) hS.2.2.2.2.2.1 rfl rfl]
  have ey : dPt (yPt x τ [] []) = .agg [.int .i64 x.form, .int .i64 x.pos, .int .i64 x.n, .str x.name, .nils, .int .i64 τ.f, .int .i64 τ.n, .str τ.s, dTl τ.as_, .nils] := dPt_eq _
  have ez : dPt zPt = .agg [.int .i64 0, .int .i64 0, .int .i64 0, .str [], .nils, .int .i64 0, .int .i64 0, .str [], .nils, .nils] := rfl
  rw [mkR, mkR, ey, ez]
  simp only [pcs, hkd, ek] at o1
  simp only [cPt, hkd, ek, cTy] at hg
  simp only [cP, z2] at o1 oa o2 o4 ha h2 h4 hq hfz e45
  simp only [dTy_eq, cTy_eq] at hr
  rcases hw with ⟨hf, rfl⟩ | ⟨hf, rfl⟩ | ⟨hf, rfl⟩
  all_goals
    simp only [hf] at hg o1 oa o2 o4 ha h2 h4 hq hfz e45 ⊢
    by_cases he : e = 0
    · subst he
      simp only [if_pos]
      simp only [a_20, sA, Nat.reduceAdd, Nat.reduceSub, Nat.reduceMul, Nat.reduceBEq, Nat.reduceLeDiff, Int.reduceBEq, Int.reduceBNe, Int.reduceLE, Int.reduceLT, Int.reduceGE, Int.reduceGT, Int.reduceNeg, kn, onel, onep, dTy_eq, cTy_eq, dPt_eq, cPt, hkd, ek, memE, hg, o1, fold_SO, ← ha, oa, ← h2, o2, hf, f1, f2, f3, d15, d25, d35, hr, bne_self_eq_false, hq, hcl, ← h4, o4, e45, exec_frz, hfz]
    · have hne : (e != 0) = true := by simpa using he
      simp only [if_neg he]
      simp only [a_20, sA, Nat.reduceAdd, Nat.reduceSub, Nat.reduceMul, Nat.reduceBEq, Nat.reduceLeDiff, Int.reduceBEq, Int.reduceBNe, Int.reduceLE, Int.reduceLT, Int.reduceGE, Int.reduceGT, Int.reduceNeg, kn, onel, onep, dTy_eq, cTy_eq, dPt_eq, cPt, hkd, ek, memE, hg, o1, fold_SO, ← ha, oa, ← h2, o2, hf, f1, f2, f3, d15, d25, d35, hr, hne, hq]
end Go.Fu
namespace Go.Fu
open Go Go.Mx
set_option maxRecDepth 100000
set_option maxHeartbeats 2000000
def EmkE (pm q : Nat) (d : Da) (fs : List Ty) (len : Nat) : Env := { slots := [(0, ⟨false, .ptr pm 0⟩), (4, ⟨false, .ptr q 0⟩), (60, ⟨false, dTl fs⟩), (61, ⟨false, .int .i64 len⟩), (62, ⟨false, .int .i64 len⟩), (63, ⟨false, .bool false⟩)], locs := [(6, 6, 0), (7, 7, 0), (10, 10, 0)], boxes := [(6, z10), (7, z2), (10, bD d)], defers := [] }
def mkE (pm q : Nat) (d : Da) (fs : List Ty) (len : Nat) : Option (Int × Int) → AExit × Env
  | none => (.exit 0, EmkE pm q d fs len)
  | some p => (.ret, { slots := [], locs := [(6, 6, 0), (7, 7, 0)], boxes := [(6, z10), (7, [⟨false, .int .i64 p.1⟩, ⟨false, .int .i64 p.2⟩])], defers := [] })
theorem mkc_no {S : Specs} (hS : MakeS S) {n : Nat} {σ σ3 : Store} (pm : Nat) (x : Pt) (τ : Ty) (ty : D) (hf : x.form = 4) (e : Int) (he : e ≠ 0) (hr : T S n n_17 [.ptr pm 0, .ptr σ.next 0, dTy τ] (S2 σ x τ) = some (.ret ⟨false, .int .i64 e⟩, σ3)) (hq : aget σ3.objs σ.next = some (cP x τ (dPl x.kids) ty)) : T S (n + 1) n_18 [.ptr pm 0, dPt x, dTy τ] σ = some (.ret (mkR zPt e x.pos), σ3) := by
  obtain ⟨σ1, h1⟩ : ∃ σ1, σ1 = S1 σ x := ⟨_, rfl⟩
  obtain ⟨σa, ha⟩ : ∃ σa, σa = SO σ1 σ.next (cP x τ (dPl x.kids) (dTl x.types)) := ⟨_, rfl⟩
  obtain ⟨σ2, h2⟩ : ∃ σ2, σ2 = SO σa σ.next (cP x τ (dPl x.kids) .nils) := ⟨_, rfl⟩
  have e2 : S2 σ x τ = σ2 := by rw [h2, ha, h1]; rfl
  have o1 : aget σ1.objs σ.next = some (pcs x) := by rw [h1]; exact agS _ _ _
  have oa : aget σa.objs σ.next = some (cP x τ (dPl x.kids) (dTl x.types)) := by rw [ha]; exact agA _ _ _
  have o2 : aget σ2.objs σ.next = some (cP x τ (dPl x.kids) .nils) := by rw [h2]; exact agA _ _ _
  rw [e2] at hr
  have hg : memOp (.gbox t_108 (.tmp 1)) { slots := [(0, ⟨false, .ptr pm 0⟩), (1, ⟨false, .agg (cPt x)⟩), (2, ⟨false, .agg (cTy τ)⟩)], locs := [], boxes := [], defers := [] } σ = some (.ptr σ.next 0, σ1) := by
    rw [h1]
    rfl
  have f4 : D.fn? (.fn (.func n_17) [] []) = some (n_17, [], []) := rfl
  rw [T_fun (af := a_20) hS.2.2.2.2.2.1 rfl rfl]
  have ez : dPt zPt = .agg [.int .i64 0, .int .i64 0, .int .i64 0, .str [], .nils, .int .i64 0, .int .i64 0, .str [], .nils, .nils] := rfl
  have hne : (e != 0) = true := by simpa using he
  rw [mkR, ez]
  simp only [pcs] at o1
  simp only [cPt, cTy] at hg
  simp only [cP] at o1 oa o2 ha h2 hq
  simp only [hf] at hg o1 oa o2 ha h2 hq ⊢
  simp only [dTy_eq, cTy_eq] at hr
  simp only [a_20, sA, Nat.reduceAdd, Nat.reduceSub, Nat.reduceMul, Nat.reduceBEq, Nat.reduceLeDiff, Int.reduceBEq, Int.reduceBNe, Int.reduceLE, Int.reduceLT, Int.reduceGE, Int.reduceGT, Int.reduceNeg, kn, onel, onep, dTy_eq, cTy_eq, dPt_eq, cPt, memE, hg, o1, fold_SO, ← ha, oa, ← h2, o2, hf, f4, d45, hr, hne, hq]
theorem mkc_loop {S : Specs} (hS : MakeS S) {n : Nat} {σ σ3 σ4 σ5 σ6 : Store} (pm pc ps k : Nat) (x : Pt) (τ : Ty) (us : List Ty) (v kd : D) (d : Da) (hf : x.form = 4) (hr : T S n n_17 [.ptr pm 0, .ptr σ.next 0, dTy τ] (S2 σ x τ) = some (.ret ⟨false, .int .i64 0⟩, σ3)) (hq : aget σ3.objs σ.next = some (cP x τ (dPl x.kids) (dTl us))) (hcl : T S n n_105 [dPl x.kids] σ3 = some (.ret ⟨false, kd⟩, σ4)) (hk1 : kd.ok = true) (hk2 : kd.cells = [kd]) (hk3 : kd.one = true) (o4 : aget σ4.objs σ.next = some (cP x τ (dPl x.kids) (dTl us))) (h5 : σ5 = SO σ4 σ.next (cP x τ kd (dTl us))) (hm5 : aget σ5.objs pm = some [⟨false, .ptr pc 0⟩, ⟨false, .ptr ps 0⟩, ⟨false, v⟩]) (hc : T S n n_38 [.ptr pc 0, .str x.name] σ5 = some (.ret ⟨false, .tup [dDa d, .int .i64 k, .bool true]⟩, σ5)) (hk : k < d.cons.length) (len : Nat) (hlen : d.cons[k].fs.length = len) (o : Option (Int × Int)) (hl : loopN (exec (T S n) n none a_32) n (Emk pm σ.next d d.cons[k].fs len 0) σ5 = some ((mkE pm σ.next d d.cons[k].fs len o).1, (mkE pm σ.next d d.cons[k].fs len o).2, σ6)) : (∀ p, o = some p → T S (n + 1) n_18 [.ptr pm 0, dPt x, dTy τ] σ = some (.ret (mkR zPt p.1 p.2), σ6)) ∧ (∀ l' os, o = none → aget σ6.objs σ.next = some (cP x τ kd (dTl us)) → freezeC (cP x τ kd (dTl us)) (SO σ6 σ.next (cP x τ kd (dTl us))).objs = some (cP x τ (dPl l') (dTl us), os) → T S (n + 1) n_18 [.ptr pm 0, dPt x, dTy τ] σ = some (.ret (mkR (yPt x τ l' us) 0 0), { SO σ6 σ.next (cP x τ kd (dTl us)) with objs := os })) := by
  obtain ⟨σ1, h1⟩ : ∃ σ1, σ1 = S1 σ x := ⟨_, rfl⟩
  obtain ⟨σa, ha⟩ : ∃ σa, σa = SO σ1 σ.next (cP x τ (dPl x.kids) (dTl x.types)) := ⟨_, rfl⟩
  obtain ⟨σ2, h2⟩ : ∃ σ2, σ2 = SO σa σ.next (cP x τ (dPl x.kids) .nils) := ⟨_, rfl⟩
  have e2 : S2 σ x τ = σ2 := by rw [h2, ha, h1]; rfl
  have o1 : aget σ1.objs σ.next = some (pcs x) := by rw [h1]; exact agS _ _ _
  have oa : aget σa.objs σ.next = some (cP x τ (dPl x.kids) (dTl x.types)) := by rw [ha]; exact agA _ _ _
  have o2 : aget σ2.objs σ.next = some (cP x τ (dPl x.kids) .nils) := by rw [h2]; exact agA _ _ _
  have o5 : aget σ5.objs σ.next = some (cP x τ kd (dTl us)) := by rw [h5]; exact agA _ _ _
  rw [e2] at hr
  have hg : memOp (.gbox t_108 (.tmp 1)) { slots := [(0, ⟨false, .ptr pm 0⟩), (1, ⟨false, .agg (cPt x)⟩), (2, ⟨false, .agg (cTy τ)⟩)], locs := [], boxes := [], defers := [] } σ = some (.ptr σ.next 0, σ1) := by
    rw [h1]
    rfl
  have f4 : D.fn? (.fn (.func n_17) [] []) = some (n_17, [], []) := rfl
  have hx := idx_C d.cons k hk
  have l1 := len_T d.cons[k].fs
  rw [hlen] at l1
  generalize d.cons[k] = cn at *
  have ez : dPt zPt = .agg [.int .i64 0, .int .i64 0, .int .i64 0, .str [], .nils, .int .i64 0, .int .i64 0, .str [], .nils, .nils] := rfl
  simp only [pcs] at o1
  simp only [cPt, cTy] at hg
  simp only [dTy_eq, cTy_eq] at hr
  simp only [dDa_eq] at hc
  simp only [dCn_eq] at hx
  constructor
  · intro p hp
    subst hp
    rw [T_fun (af := a_20) hS.2.2.2.2.2.1 rfl rfl]
    rw [mkR, ez]
    simp only [cP] at o1 oa o2 o4 o5 ha h2 h5 hq
    simp only [hf] at hg o1 oa o2 o4 o5 ha h2 h5 hq
    simp only [mkE, Emk, z10, z2, bD, zeroI] at hl
    simp only [a_20, sA, Nat.reduceAdd, Nat.reduceSub, Nat.reduceMul, Nat.reduceBEq, Nat.reduceLeDiff, Int.reduceBEq, Int.reduceBNe, Int.reduceLE, Int.reduceLT, Int.reduceGE, Int.reduceGT, Int.reduceNeg, kn, onel, onep, dTy_eq, cTy_eq, dPt_eq, cPt, memE, hg, o1, fold_SO, ← ha, oa, ← h2, o2, hf, f4, d45, hr, bne_self_eq_false, hq, hcl, hk1, hk2, hk3, o4, ← h5, o5, hm5, hc, hx, l1, natI, hl]
  · intro l' os ho h6 hz
    subst ho
    obtain ⟨σ7, h7⟩ : ∃ σ7, σ7 = SO σ6 σ.next (cP x τ kd (dTl us)) := ⟨_, rfl⟩
    rw [← h7] at hz ⊢
    have hfz : freezes [.box 6] { slots := [], locs := [(6, 6, 0), (7, 7, 0)], boxes := [(6, cP x τ kd (dTl us)), (7, z2)], defers := [] } σ7 = some ({ slots := [], locs := [(6, 6, 0), (7, 7, 0)], boxes := [(6, cP x τ (dPl l') (dTl us)), (7, z2)], defers := [] }, { σ7 with objs := os }) := by
      simp only [freezes, freeze1, aget, beq_self_eq_true, ifB_true, bindO, caseO_some, hz]
      rfl
    rw [T_fun (af := a_20) hS.2.2.2.2.2.1 rfl rfl]
    have ey : dPt (yPt x τ l' us) = .agg [.int .i64 x.form, .int .i64 x.pos, .int .i64 x.n, .str x.name, dPl l', .int .i64 τ.f, .int .i64 τ.n, .str τ.s, dTl τ.as_, dTl us] := dPt_eq _
    rw [mkR, ey]
    simp only [cP, z2] at o1 oa o2 o4 o5 h6 h7 ha h2 h5 hq hfz
    simp only [hf] at hg o1 oa o2 o4 o5 h6 h7 ha h2 h5 hq hfz ⊢
    simp only [mkE, Emk, EmkE, z10, z2, bD, zeroI] at hl
    simp only [a_20, sA, Nat.reduceAdd, Nat.reduceSub, Nat.reduceMul, Nat.reduceBEq, Nat.reduceLeDiff, Int.reduceBEq, Int.reduceBNe, Int.reduceLE, Int.reduceLT, Int.reduceGE, Int.reduceGT, Int.reduceNeg, kn, onel, onep, dTy_eq, cTy_eq, dPt_eq, cPt, memE, hg, o1, fold_SO, ← ha, oa, ← h2, o2, hf, f4, d45, hr, bne_self_eq_false, hq, hcl, hk1, hk2, hk3, o4, ← h5, o5, hm5, hc, hx, l1, natI, hl, h6, ← h7, exec_frz, hfz]
end Go.Fu

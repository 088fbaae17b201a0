/-
  Names padded, turned round, found, twice; the prims' instructions.
-/
import Derived.Test.YtldfbnbckiifeaaGreatDoorFgE
set_option linter.unusedSimpArgs false
set_option linter.unusedVariables false
set_option linter.unusedSectionVars false
namespace Go.Fu
open Go Go.Mx
set_option maxRecDepth 10000
theorem zxe {body : Env → Store → XRes} (E : Nat → Env) (σ : Store) (k : Nat) (q : Nat → Bool) (stop : Nat → AExit × Env × Store) {r : AExit × Env × Store} (hr : ∀ e σ, r ≠ (.normal, e, σ)) (hs : ∀ i e σ, stop i ≠ (.normal, e, σ))
    (hstep : ∀ i, i < k → q i = false → body (E i) σ = some (.normal, E (i + 1), σ)) (hstop : ∀ i, i < k → q i = true → body (E i) σ = some (stop i)) (hend : body (E k) σ = some r) (n : Nat) (hn : k < n) : loopN body n (E 0) σ = some (caseO ((List.range k).find? q) r stop) := by
  rcases zhl (body := body) E (fun _ => σ) k (fun i => !q i) (r := r) stop hr hs (fun i hi hq => hstep i hi (by simpa using hq)) (fun i hi hq => hstop i hi (by simpa using hq)) hend n 0 (Nat.zero_le _) (by omega) with ⟨i, _, hi, hq, hall, h⟩ | ⟨hq, h⟩
  · have : (List.range k).find? q = some i := List.find?_range_eq_some.2 ⟨by simpa using hq, List.mem_range.2 hi, fun j hj => hall j (Nat.zero_le _) hj⟩
    rw [h, this]
    rfl
  · have : (List.range k).find? q = none := List.find?_range_eq_none.2 fun i hi => hq i (Nat.zero_le _) hi
    rw [h, this]
    rfl
def lieM (env : List Tx) (s : Tx) : Int := caseO ((List.range env.length).find? fun j => env.getD (env.length - 1 - j) [] == s) (-1) fun j => ((env.length - 1 - j : Nat) : Int)
section
variable {C : CallF} {n : Nat} {σ : Store}
def Elie (l : List Tx) (s : Tx) (j : Nat) : Env := { slots := [(0, ⟨false, dSs l⟩), (1, ⟨false, .str s⟩), (5, ⟨false, .int .i64 ((l.length : Int) - 1 - j)⟩)], locs := [], boxes := [], defers := [] }
theorem zgmb (l : List Tx) (s : Tx) (j : Nat) (h : j < l.length) (hl : l.length < 1000000000) (hq : (l.getD (l.length - 1 - j) [] == s) = false) : exec C n none a_54 (Elie l s j) σ = some (.normal, Elie l s (j + 1), σ) := by
  have hlt : l.length - 1 - j < l.length := by omega
  rw [za0 _ _ _ hlt] at hq
  have e : ((l.length : Int) - 1 - (j : Int)) = ((l.length - 1 - j : Nat) : Int) := by omega
  have hge : (((l.length - 1 - j : Nat) : Int) ≥ 0) := by omega
  have w : IntKind.i64.wrap (((l.length - 1 - j : Nat) : Int) - 1) = (l.length : Int) - 1 - ((j + 1 : Nat) : Int) := by rw [zbu (by omega) (by omega)]; omega
  simp only [a_54, Elie, e, sA, Nat.reduceAdd, Nat.reduceSub, Nat.reduceMul, Nat.reduceBEq, Nat.reduceLeDiff, Int.reduceBEq, Int.reduceBNe, Int.reduceLE, Int.reduceLT, Int.reduceGE, Int.reduceGT, Int.reduceNeg, kn, hge, natI, idx_S l _ hlt, hq, w]
def zn1 (l : List Tx) (σ : Store) (j : Nat) : AExit × Env × Store := (.ret, { slots := [(4, ⟨false, .int .i64 ((l.length - 1 - j : Nat) : Int)⟩)], locs := [], boxes := [], defers := [] }, σ)
theorem zgnb (l : List Tx) (s : Tx) (j : Nat) (h : j < l.length) (hq : (l.getD (l.length - 1 - j) [] == s) = true) : exec C n none a_54 (Elie l s j) σ = some (zn1 l σ j) := by
  have hlt : l.length - 1 - j < l.length := by omega
  rw [za0 _ _ _ hlt] at hq
  have e : ((l.length : Int) - 1 - (j : Int)) = ((l.length - 1 - j : Nat) : Int) := by omega
  have hge : (((l.length - 1 - j : Nat) : Int) ≥ 0) := by omega
  simp only [a_54, Elie, e, sA, Nat.reduceAdd, Nat.reduceSub, Nat.reduceMul, Nat.reduceBEq, Nat.reduceLeDiff, Int.reduceBEq, Int.reduceBNe, Int.reduceLE, Int.reduceLT, Int.reduceGE, Int.reduceGT, Int.reduceNeg, kn, hge, natI, idx_S l _ hlt, hq, zn1]
theorem zizb (l : List Tx) (s : Tx) : exec C n none a_54 (Elie l s l.length) σ = some (.exit 0, { Elie l s l.length with slots := [(0, ⟨false, dSs l⟩), (1, ⟨false, .str s⟩), (5, ⟨false, .int .i64 (-1)⟩), (10, ⟨false, .bool false⟩)] }, σ) := by
  have e : ((l.length : Int) - 1 - (l.length : Int)) = -1 := by omega
  simp only [a_54, Elie, e, sA, Nat.reduceAdd, Nat.reduceSub, Nat.reduceMul, Nat.reduceBEq, Nat.reduceLeDiff, Int.reduceBEq, Int.reduceBNe, Int.reduceLE, Int.reduceLT, Int.reduceGE, Int.reduceGT, Int.reduceNeg, kn]
end
theorem zglb (l : List Tx) (s : Tx) (hl : l.length < 1000000000) : OkP n_122 [dSs l, .str s] ⟨false, .int .i64 (lieM l s)⟩ := by
  refine zap (af := a_113) (n := l.length + 1) (σ' := σ0) (zar [] 0) rfl rfl (by simp [zan, zas, noPtr]) rfl ?_
  have h := zxe (body := exec (T [] 0) (l.length + 1) none a_54) (Elie l s) σ0 l.length (fun j => l.getD (l.length - 1 - j) [] == s) (zn1 l σ0) (fun _ _ h => by cases h) (fun _ _ _ h => by cases h) (fun i hi hq => zgmb l s i hi hl hq) (fun i hi hq => zgnb l s i hi hq) (zizb l s) (l.length + 1) (by omega)
  have w : IntKind.i64.wrap ((l.length : Int) - 1) = (l.length : Int) - 1 := zbu (by omega) (by omega)
  have e0 : (l.length : Int) - 1 - ((0 : Nat) : Int) = (l.length : Int) - 1 := by omega
  simp only [Elie, e0] at h
  unfold lieM
  cases hf : (List.range l.length).find? fun j => l.getD (l.length - 1 - j) [] == s with
  | none =>
    rw [hf] at h
    simp only [za8] at h
    simp only [a_113, sA, Nat.reduceAdd, Nat.reduceSub, Nat.reduceMul, Nat.reduceBEq, Nat.reduceLeDiff, Int.reduceBEq, Int.reduceBNe, Int.reduceLE, Int.reduceLT, Int.reduceGE, Int.reduceGT, Int.reduceNeg, kn, len_S, w, h]
  | some j =>
    rw [hf] at h
    simp only [zab, zn1] at h
    simp only [a_113, sA, Nat.reduceAdd, Nat.reduceSub, Nat.reduceMul, Nat.reduceBEq, Nat.reduceLeDiff, Int.reduceBEq, Int.reduceBNe, Int.reduceLE, Int.reduceLT, Int.reduceGE, Int.reduceGT, Int.reduceNeg, kn, len_S, w, h]
def zexb : List D → Cell → Prop := fun ds c => ∀ l s, ds = [dSs l, .str s] → c = ⟨false, .int .i64 (lieM l s)⟩
theorem zfrb {S : Specs} (hS : aget S n_122 = some zexb) (l : List Tx) (s : Tx) (hl : l.length < 1000000000) (n : Nat) (σ : Store) : T S (n + 1) n_122 [dSs l, .str s] σ = some (.ret ⟨false, .int .i64 (lieM l s)⟩, σ) := by
  obtain ⟨c, h1, h2⟩ := T_orc (S := S) hS rfl (c := ⟨false, .int .i64 (lieM l s)⟩) (fun l' s' e => by
    simp only [List.cons.injEq, D.str.injEq, and_true] at e
    obtain ⟨e1, rfl⟩ := e
    rw [zbn e1]) (zglb l s hl)
  rw [h2, h1 l s rfl]
theorem zawb (l : List Tx) (s : Tx) : -1 ≤ lieM l s ∧ lieM l s < l.length := by
  unfold lieM
  cases hf : (List.range l.length).find? fun j => l.getD (l.length - 1 - j) [] == s with
  | none => simp only [za8]; omega
  | some j =>
    have := List.mem_range.1 (List.mem_of_find?_eq_some hf)
    simp only [zab]
    omega
def padM (l : List Tx) (d : Nat) : List Tx := l ++ List.replicate (d - l.length) []
section
variable {C : CallF} {n : Nat} {σ : Store}
def Epad (l : List Tx) (d : Nat) (i : Nat) : Env := { slots := [(1, ⟨false, .int .i64 d⟩), (5, ⟨true, dSs (l ++ List.replicate i [])⟩)], locs := [], boxes := [], defers := [] }
theorem zg0b (l : List Tx) (d i : Nat) (h : i < d - l.length) (hl : l.length + d < 1000000000) : exec C n none a_96 (Epad l d i) σ = some (.normal, Epad l d (i + 1), σ) := by
  have hi : (((l ++ List.replicate i ([] : Tx)).length : Int) < (d : Int)) := by simp; omega
  have ha := zf3 (l ++ List.replicate i []) [] true (fun _ => rfl) (by simp; omega)
  have e : l ++ List.replicate i ([] : Tx) ++ [[]] = l ++ List.replicate (i + 1) [] := by rw [List.append_assoc, List.replicate_succ']
  rw [e] at ha
  simp only [a_96, Epad, sA, Nat.reduceAdd, Nat.reduceSub, Nat.reduceMul, Nat.reduceBEq, Nat.reduceLeDiff, Int.reduceBEq, Int.reduceBNe, Int.reduceLE, Int.reduceLT, Int.reduceGE, Int.reduceGT, Int.reduceNeg, kn, len_S, hi, ha]
theorem zjjb (l : List Tx) (d : Nat) : exec C n none a_96 (Epad l d (d - l.length)) σ = some (.exit 0, { Epad l d (d - l.length) with slots := [(1, ⟨false, .int .i64 d⟩), (5, ⟨true, dSs (padM l d)⟩), (11, ⟨false, .bool false⟩)] }, σ) := by
  have hi : ¬ (((l ++ List.replicate (d - l.length) ([] : Tx)).length : Int) < (d : Int)) := by simp; omega
  simp only [a_96, Epad, sA, Nat.reduceAdd, Nat.reduceSub, Nat.reduceMul, Nat.reduceBEq, Nat.reduceLeDiff, Int.reduceBEq, Int.reduceBNe, Int.reduceLE, Int.reduceLT, Int.reduceGE, Int.reduceGT, Int.reduceNeg, kn, len_S, hi, padM]
end
theorem zgzb (l : List Tx) (d : Nat) (hl : l.length + d < 1000000000) : OkP n_71 [dSs l, .int .i64 d] ⟨false, dSs (padM l d)⟩ := by
  refine OkP.weak (o := true) rfl (zap (af := a_142) (n := d + 1) (σ' := σ0) (zar [] 0) rfl rfl (by simp [zan, zas, noPtr]) (zas _) ?_)
  have h := za4 (body := exec (T [] 0) (d + 1) none a_96) (Epad l d) (fun _ => σ0) (d - l.length) (r := _) (fun _ _ h => by cases h) (fun i hi => zg0b l d i hi hl) (zjjb l d) 0 (d + 1) (by omega) (by omega)
  simp only [Epad, List.replicate_zero, List.append_nil] at h
  simp only [a_142, sA, Nat.reduceAdd, Nat.reduceSub, Nat.reduceMul, Nat.reduceBEq, Nat.reduceLeDiff, Int.reduceBEq, Int.reduceBNe, Int.reduceLE, Int.reduceLT, Int.reduceGE, Int.reduceGT, Int.reduceNeg, kn, zk7, appS0 l false (by omega), h]
def zv7 : List D → Cell → Prop := fun ds c => ∀ l (d : Nat), ds = [dSs l, .int .i64 d] → c = ⟨false, dSs (padM l d)⟩
theorem zt6 {S : Specs} (hS : aget S n_71 = some zv7) (l : List Tx) (d : Nat) (hl : l.length + d < 1000000000) (n : Nat) (σ : Store) : T S (n + 1) n_71 [dSs l, .int .i64 d] σ = some (.ret ⟨false, dSs (padM l d)⟩, σ) := by
  obtain ⟨c, h1, h2⟩ := T_orc (S := S) hS rfl (c := ⟨false, dSs (padM l d)⟩) (fun l' d' e => by
    simp only [List.cons.injEq, D.int.injEq, true_and, and_true] at e
    rw [zbn e.1, show d = d' by omega]) (zgzb l d hl)
  rw [h2, h1 l d rfl]
section
variable {C : CallF} {n : Nat} {σ : Store}
def Eback (l : List Tx) (j : Nat) : Env := { slots := [(0, ⟨false, dSs l⟩), (3, ⟨ow j, dSs (l.reverse.take j)⟩), (4, ⟨false, .int .i64 ((l.length : Int) - 1 - j)⟩)], locs := [], boxes := [], defers := [] }
theorem zclb (l : List Tx) (j : Nat) (h : j < l.length) (hl : l.length < 1000000000) : exec C n none a_84 (Eback l j) σ = some (.normal, Eback l (j + 1), σ) := by
  have hlt : l.length - 1 - j < l.length := by omega
  have e : ((l.length : Int) - 1 - (j : Int)) = ((l.length - 1 - j : Nat) : Int) := by omega
  have hge : (((l.length - 1 - j : Nat) : Int) ≥ 0) := by omega
  have w : IntKind.i64.wrap (((l.length - 1 - j : Nat) : Int) - 1) = (l.length : Int) - 1 - ((j + 1 : Nat) : Int) := by rw [zbu (by omega) (by omega)]; omega
  have ha := zf3 (l.reverse.take j) l[l.length - 1 - j] (ow j) ow_ne (by simp; omega)
  have e2 : l.reverse.take j ++ [l[l.length - 1 - j]] = l.reverse.take (j + 1) := by rw [← zba l.reverse j (by simpa using h), List.getElem_reverse]
  rw [e2] at ha
  simp only [a_84, Eback, e, sA, Nat.reduceAdd, Nat.reduceSub, Nat.reduceMul, Nat.reduceBEq, Nat.reduceLeDiff, Int.reduceBEq, Int.reduceBNe, Int.reduceLE, Int.reduceLT, Int.reduceGE, Int.reduceGT, Int.reduceNeg, kn, hge, natI, idx_S l _ hlt, ha, w, zcr]
theorem zfpb (l : List Tx) : exec C n none a_84 (Eback l l.length) σ = some (.exit 0, { Eback l l.length with slots := [(0, ⟨false, dSs l⟩), (3, ⟨ow l.length, dSs l.reverse⟩), (4, ⟨false, .int .i64 (-1)⟩), (9, ⟨false, .bool false⟩)] }, σ) := by
  have e : ((l.length : Int) - 1 - (l.length : Int)) = -1 := by omega
  have e2 : l.reverse.take l.length = l.reverse := by rw [List.take_of_length_le (by simp)]
  simp only [a_84, Eback, e, sA, Nat.reduceAdd, Nat.reduceSub, Nat.reduceMul, Nat.reduceBEq, Nat.reduceLeDiff, Int.reduceBEq, Int.reduceBNe, Int.reduceLE, Int.reduceLT, Int.reduceGE, Int.reduceGT, Int.reduceNeg, kn, e2]
end
theorem zckb (l : List Tx) (hl : l.length < 1000000000) : OkP n_59 [dSs l] ⟨false, dSs l.reverse⟩ := by
  refine OkP.weak (o := ow l.length) rfl (zap (af := a_134) (n := l.length + 1) (σ' := σ0) (zar [] 0) rfl rfl (by simp [zan, zas]) (zas _) ?_)
  have h := za4 (body := exec (T [] 0) (l.length + 1) none a_84) (Eback l) (fun _ => σ0) l.length (r := _) (fun _ _ h => by cases h) (fun i hi => zclb l i hi hl) (zfpb l) 0 (l.length + 1) (by omega) (by omega)
  have w : IntKind.i64.wrap ((l.length : Int) - 1) = (l.length : Int) - 1 := zbu (by omega) (by omega)
  have e0 : (l.length : Int) - 1 - ((0 : Nat) : Int) = (l.length : Int) - 1 := by omega
  have e1 : dSs [] = .nils := rfl
  simp only [Eback, e0, List.take_zero, e1, zgi] at h
  simp only [a_134, sA, Nat.reduceAdd, Nat.reduceSub, Nat.reduceMul, Nat.reduceBEq, Nat.reduceLeDiff, Int.reduceBEq, Int.reduceBNe, Int.reduceLE, Int.reduceLT, Int.reduceGE, Int.reduceGT, Int.reduceNeg, kn, len_S, w, h]
def zrv : List D → Cell → Prop := fun ds c => ∀ l, ds = [dSs l] → c = ⟨false, dSs l.reverse⟩
theorem zd0 {S : Specs} (hS : aget S n_59 = some zrv) (l : List Tx) (hl : l.length < 1000000000) (n : Nat) (σ : Store) : T S (n + 1) n_59 [dSs l] σ = some (.ret ⟨false, dSs l.reverse⟩, σ) := by
  obtain ⟨c, h1, h2⟩ := T_orc (S := S) hS rfl (c := ⟨false, dSs l.reverse⟩) (fun l' e => by
    simp only [List.cons.injEq, and_true] at e
    rw [zbn e]) (zckb l hl)
  rw [h2, h1 l rfl]
def primM (s : Tx) : Tx := ifB (s == [97, 100, 100]) [65, 68, 68] (ifB (s == [115, 117, 98]) [83, 85, 66] (ifB (s == [109, 117, 108]) [77, 85, 76] (ifB (s == [100, 105, 118]) [68, 73, 86] (ifB (s == [101, 113]) [69, 81] (ifB (s == [108, 116]) [76, 84] [])))))
theorem zenb (s : Tx) : OkP n_72 [.str s] ⟨false, .str (primM s)⟩ := by
  refine zap (af := a_35) (n := 1) (σ' := σ0) (zar [] 0) rfl rfl rfl rfl ?_
  unfold primM
  cases h1 : s == [97, 100, 100] with
  | true => simp only [a_35, sA, Nat.reduceAdd, Nat.reduceSub, Nat.reduceMul, Nat.reduceBEq, Nat.reduceLeDiff, Int.reduceBEq, Int.reduceBNe, Int.reduceLE, Int.reduceLT, Int.reduceGE, Int.reduceGT, Int.reduceNeg, kn, h1]
  | false =>
    cases h2 : s == [115, 117, 98] with
    | true => simp only [a_35, sA, Nat.reduceAdd, Nat.reduceSub, Nat.reduceMul, Nat.reduceBEq, Nat.reduceLeDiff, Int.reduceBEq, Int.reduceBNe, Int.reduceLE, Int.reduceLT, Int.reduceGE, Int.reduceGT, Int.reduceNeg, kn, h1, h2]
    | false =>
      cases h3 : s == [109, 117, 108] with
      | true => simp only [a_35, sA, Nat.reduceAdd, Nat.reduceSub, Nat.reduceMul, Nat.reduceBEq, Nat.reduceLeDiff, Int.reduceBEq, Int.reduceBNe, Int.reduceLE, Int.reduceLT, Int.reduceGE, Int.reduceGT, Int.reduceNeg, kn, h1, h2, h3]
      | false =>
        cases h4 : s == [100, 105, 118] with
        | true => simp only [a_35, sA, Nat.reduceAdd, Nat.reduceSub, Nat.reduceMul, Nat.reduceBEq, Nat.reduceLeDiff, Int.reduceBEq, Int.reduceBNe, Int.reduceLE, Int.reduceLT, Int.reduceGE, Int.reduceGT, Int.reduceNeg, kn, h1, h2, h3, h4]
        | false =>
          cases h5 : s == [101, 113] with
          | true => simp only [a_35, sA, Nat.reduceAdd, Nat.reduceSub, Nat.reduceMul, Nat.reduceBEq, Nat.reduceLeDiff, Int.reduceBEq, Int.reduceBNe, Int.reduceLE, Int.reduceLT, Int.reduceGE, Int.reduceGT, Int.reduceNeg, kn, h1, h2, h3, h4, h5]
          | false =>
            cases h6 : s == [108, 116] with
            | true => simp only [a_35, sA, Nat.reduceAdd, Nat.reduceSub, Nat.reduceMul, Nat.reduceBEq, Nat.reduceLeDiff, Int.reduceBEq, Int.reduceBNe, Int.reduceLE, Int.reduceLT, Int.reduceGE, Int.reduceGT, Int.reduceNeg, kn, h1, h2, h3, h4, h5, h6]
            | false => simp only [a_35, sA, Nat.reduceAdd, Nat.reduceSub, Nat.reduceMul, Nat.reduceBEq, Nat.reduceLeDiff, Int.reduceBEq, Int.reduceBNe, Int.reduceLE, Int.reduceLT, Int.reduceGE, Int.reduceGT, Int.reduceNeg, kn, h1, h2, h3, h4, h5, h6]
def zry : List D → Cell → Prop := fun ds c => ∀ s, ds = [.str s] → c = ⟨false, .str (primM s)⟩
theorem zsc {S : Specs} (hS : aget S n_72 = some zry) (s : Tx) (n : Nat) (σ : Store) : T S (n + 1) n_72 [.str s] σ = some (.ret ⟨false, .str (primM s)⟩, σ) := by
  obtain ⟨c, h1, h2⟩ := T_orc (S := S) hS rfl (c := ⟨false, .str (primM s)⟩) (fun s' e => by
    simp only [List.cons.injEq, D.str.injEq, and_true] at e
    rw [e]) (zenb s)
  rw [h2, h1 s rfl]
end Go.Fu
namespace Go.Fu
open Go Go.Mx
set_option maxRecDepth 10000
def zea (l : List Tx) : Bool := (List.range l.length).any fun i => (List.range i).any fun k => l.getD i [] == l.getD k []
section
variable {C : CallF} {n : Nat} {σ : Store}
def Etw (l : List Tx) (i k : Nat) : Env := { slots := [(0, ⟨false, dSs l⟩), (3, ⟨false, .int .i64 i⟩), (4, ⟨false, .int .i64 k⟩)], locs := [], boxes := [], defers := [] }
def znu : Env := { slots := [(2, ⟨false, .bool true⟩)], locs := [], boxes := [], defers := [] }
theorem zj0b (l : List Tx) (i k : Nat) (h : i < l.length) (hk : k < i) (hl : l.length < 1000000000) (hq : (l.getD i [] == l.getD k []) = false) : exec C n none a_46 (Etw l i k) σ = some (.normal, Etw l i (k + 1), σ) := by
  rw [za0 _ _ _ h, za0 _ _ _ (by omega)] at hq
  have hi : ((k : Int) < (i : Int)) := by omega
  simp only [a_46, Etw, sA, Nat.reduceAdd, Nat.reduceSub, Nat.reduceMul, Nat.reduceBEq, Nat.reduceLeDiff, Int.reduceBEq, Int.reduceBNe, Int.reduceLE, Int.reduceLT, Int.reduceGE, Int.reduceGT, Int.reduceNeg, kn, hi, natI, idx_S l i h, idx_S l k (by omega), hq, zaj (i := k) (by omega)]
theorem zj1b (l : List Tx) (i k : Nat) (h : i < l.length) (hk : k < i) (hq : (l.getD i [] == l.getD k []) = true) : exec C n none a_46 (Etw l i k) σ = some (.ret, znu, σ) := by
  rw [za0 _ _ _ h, za0 _ _ _ (by omega)] at hq
  have hi : ((k : Int) < (i : Int)) := by omega
  simp only [a_46, Etw, znu, sA, Nat.reduceAdd, Nat.reduceSub, Nat.reduceMul, Nat.reduceBEq, Nat.reduceLeDiff, Int.reduceBEq, Int.reduceBNe, Int.reduceLE, Int.reduceLT, Int.reduceGE, Int.reduceGT, Int.reduceNeg, kn, hi, natI, idx_S l i h, idx_S l k (by omega), hq]
theorem zlxb (l : List Tx) (i : Nat) : exec C n none a_46 (Etw l i i) σ = some (.exit 2, { Etw l i i with slots := [(0, ⟨false, dSs l⟩), (3, ⟨false, .int .i64 i⟩), (4, ⟨false, .int .i64 i⟩), (13, ⟨false, .bool false⟩)] }, σ) := by
  have hi : ¬ ((i : Int) < (i : Int)) := by omega
  simp only [a_46, Etw, sA, Nat.reduceAdd, Nat.reduceSub, Nat.reduceMul, Nat.reduceBEq, Nat.reduceLeDiff, Int.reduceBEq, Int.reduceBNe, Int.reduceLE, Int.reduceLT, Int.reduceGE, Int.reduceGT, Int.reduceNeg, kn, hi]
def Etx (l : List Tx) (i : Nat) : Env := { slots := [(0, ⟨false, dSs l⟩), (3, ⟨false, .int .i64 i⟩)], locs := [], boxes := [], defers := [] }
theorem tx_in (l : List Tx) (i : Nat) (h : i < l.length) (hl : l.length < 1000000000) (hn : l.length < n) : loopN (exec C n none a_46) n (Etw l i 0) σ = some (ifB ((List.range i).any fun k => l.getD i [] == l.getD k []) (.ret, znu, σ) (.exit 2, { Etw l i i with slots := [(0, ⟨false, dSs l⟩), (3, ⟨false, .int .i64 i⟩), (4, ⟨false, .int .i64 i⟩), (13, ⟨false, .bool false⟩)] }, σ)) :=
  zio (body := exec C n none a_46) (Etw l i) σ i (fun k => l.getD i [] == l.getD k []) (fun _ _ h => by cases h) (fun _ _ h => by cases h) (fun k hk hq => zj0b l i k h hk hl hq) (fun k hk hq => zj1b l i k h hk hq) (zlxb l i) n (by omega)
theorem zj2b (l : List Tx) (i : Nat) (h : i < l.length) (hl : l.length < 1000000000) (hn : l.length < n) (hq : ((List.range i).any fun k => l.getD i [] == l.getD k []) = false) : exec C n none a_57 (Etx l i) σ = some (.normal, Etx l (i + 1), σ) := by
  have hi : ((i : Int) < (l.length : Int)) := by omega
  have hx := tx_in (C := C) (σ := σ) l i h hl hn
  rw [hq] at hx
  simp only [zaf, Etw, zeroI] at hx
  simp only [a_57, Etx, sA, Nat.reduceAdd, Nat.reduceSub, Nat.reduceMul, Nat.reduceBEq, Nat.reduceLeDiff, Int.reduceBEq, Int.reduceBNe, Int.reduceLE, Int.reduceLT, Int.reduceGE, Int.reduceGT, Int.reduceNeg, kn, len_S, hi, hx, zaj (i := i) (by omega)]
theorem zj3b (l : List Tx) (i : Nat) (h : i < l.length) (hl : l.length < 1000000000) (hn : l.length < n) (hq : ((List.range i).any fun k => l.getD i [] == l.getD k []) = true) : exec C n none a_57 (Etx l i) σ = some (.ret, znu, σ) := by
  have hi : ((i : Int) < (l.length : Int)) := by omega
  have hx := tx_in (C := C) (σ := σ) l i h hl hn
  rw [hq] at hx
  simp only [zad, Etw, zeroI] at hx
  simp only [a_57, Etx, sA, Nat.reduceAdd, Nat.reduceSub, Nat.reduceMul, Nat.reduceBEq, Nat.reduceLeDiff, Int.reduceBEq, Int.reduceBNe, Int.reduceLE, Int.reduceLT, Int.reduceGE, Int.reduceGT, Int.reduceNeg, kn, len_S, hi, hx]
theorem zlyb (l : List Tx) : exec C n none a_57 (Etx l l.length) σ = some (.exit 0, { Etx l l.length with slots := [(0, ⟨false, dSs l⟩), (3, ⟨false, .int .i64 l.length⟩), (8, ⟨false, .bool false⟩)] }, σ) := by
  have hi : ¬ ((l.length : Int) < (l.length : Int)) := by omega
  simp only [a_57, Etx, sA, Nat.reduceAdd, Nat.reduceSub, Nat.reduceMul, Nat.reduceBEq, Nat.reduceLeDiff, Int.reduceBEq, Int.reduceBNe, Int.reduceLE, Int.reduceLT, Int.reduceGE, Int.reduceGT, Int.reduceNeg, kn, len_S, hi]
end
theorem zb2b (l : List Tx) (hl : l.length < 1000000000) : OkP n_25 [dSs l] ⟨false, .bool (zea l)⟩ := by
  refine zap (af := a_114) (n := l.length + 1) (σ' := σ0) (zar [] 0) rfl rfl (by simp [zan, zas]) rfl ?_
  have h := zio (body := exec (T [] 0) (l.length + 1) none a_57) (Etx l) σ0 l.length (fun i => (List.range i).any fun k => l.getD i [] == l.getD k []) (fun _ _ h => by cases h) (fun _ _ h => by cases h) (fun i hi hq => zj2b l i hi hl (by omega) hq) (fun i hi hq => zj3b l i hi hl (by omega) hq) (zlyb l) (l.length + 1) (by omega)
  have ht : ((List.range l.length).any fun i => (List.range i).any fun k => l.getD i [] == l.getD k []) = zea l := rfl
  rw [ht] at h
  simp only [Etx, zeroI, znu] at h
  cases hb : zea l with
  | true =>
    rw [hb] at h
    simp only [a_114, sA, Nat.reduceAdd, Nat.reduceSub, Nat.reduceMul, Nat.reduceBEq, Nat.reduceLeDiff, Int.reduceBEq, Int.reduceBNe, Int.reduceLE, Int.reduceLT, Int.reduceGE, Int.reduceGT, Int.reduceNeg, kn, h]
  | false =>
    rw [hb] at h
    simp only [a_114, sA, Nat.reduceAdd, Nat.reduceSub, Nat.reduceMul, Nat.reduceBEq, Nat.reduceLeDiff, Int.reduceBEq, Int.reduceBNe, Int.reduceLE, Int.reduceLT, Int.reduceGE, Int.reduceGT, Int.reduceNeg, kn, h]
def zpl : List D → Cell → Prop := fun ds c => ∀ l, ds = [dSs l] → c = ⟨false, .bool (zea l)⟩
theorem zik {S : Specs} (hS : aget S n_25 = some zpl) (l : List Tx) (hl : l.length < 1000000000) (n : Nat) (σ : Store) : T S (n + 1) n_25 [dSs l] σ = some (.ret ⟨false, .bool (zea l)⟩, σ) := by
  obtain ⟨c, h1, h2⟩ := T_orc (S := S) hS rfl (c := ⟨false, .bool (zea l)⟩) (fun l' e => by
    simp only [List.cons.injEq, and_true] at e
    rw [zbn e]) (zb2b l hl)
  rw [h2, h1 l rfl]
def FL : List Fd := [⟨[70, 97, 108, 115, 101], 0, 2, 0⟩, ⟨[84, 114, 117, 101], 1, 2, 0⟩, ⟨[78, 105, 108], 0, 2, 0⟩, ⟨[67, 111, 110, 115], 1, 2, 2⟩, ⟨[79, 110, 101], 0, 1, 1⟩]
theorem zklb {a b : Fd} (h : dF a = dF b) : a = b := by
  cases a; cases b
  simpa [dF] using h
theorem zyx {a b : List Fd} (h : dFs a = dFs b) : a = b := zi4 zklb (zfd h)
theorem len_F (l : List Fd) : lenOf (dFs l) = some l.length := zfp _ l
theorem idx_F (l : List Fd) (i : Nat) (h : i < l.length) : za7 8 (dFs l) i = some (.eptr (dF l[i])) := zfn rfl _ _ _ h
def fits1 (s : Tx) (m : Int) (f : Fd) : Bool := (f.name == s) && (decide (m < 0) || (f.arity == m))
def zd4 (l : List Fd) (s : Tx) (m : Int) : Bool := l.any (fits1 s m)
section
variable {C : CallF} {n : Nat} {σ : Store}
def Efd (l : List Fd) (s : Tx) (m : Int) (i : Nat) : Env := { slots := [(0, ⟨false, dFs l⟩), (1, ⟨false, .str s⟩), (2, ⟨false, .int .i64 m⟩), (7, ⟨false, .int .i64 i⟩)], locs := [], boxes := [], defers := [] }
def f0 : Fd := ⟨[], 0, 0, 0⟩
theorem zh7b (l : List Fd) (s : Tx) (m : Int) (i : Nat) (h : i < l.length) (hl : l.length < 1000000000) (hq : fits1 s m (l.getD i f0) = false) : exec C n none a_34 (Efd l s m i) σ = some (.normal, Efd l s m (i + 1), σ) := by
  rw [za0 _ _ _ h] at hq
  have hi : ((i : Int) < (l.length : Int)) := by omega
  have hx := idx_F l i h
  have w := zaj (i := i) (by omega)
  cases hf : l[i] with
  | mk nm tg mn ar =>
  rw [hf] at hq hx
  simp only [fits1] at hq
  simp only [dF] at hx
  cases h1 : nm == s with
  | false => simp only [a_34, Efd, sA, Nat.reduceAdd, Nat.reduceSub, Nat.reduceMul, Nat.reduceBEq, Nat.reduceLeDiff, Int.reduceBEq, Int.reduceBNe, Int.reduceLE, Int.reduceLT, Int.reduceGE, Int.reduceGT, Int.reduceNeg, kn, Mx.part, len_F, hi, natI, hx, h1, w]
  | true =>
    simp only [h1, Bool.true_and, Bool.or_eq_false_iff, decide_eq_false_iff_not] at hq
    simp only [a_34, Efd, sA, Nat.reduceAdd, Nat.reduceSub, Nat.reduceMul, Nat.reduceBEq, Nat.reduceLeDiff, Int.reduceBEq, Int.reduceBNe, Int.reduceLE, Int.reduceLT, Int.reduceGE, Int.reduceGT, Int.reduceNeg, kn, Mx.part, len_F, hi, natI, hx, h1, hq.1, hq.2, w]
theorem zh8b (l : List Fd) (s : Tx) (m : Int) (i : Nat) (h : i < l.length) (hq : fits1 s m (l.getD i f0) = true) : exec C n none a_34 (Efd l s m i) σ = some (.ret, { slots := [(6, ⟨false, .bool true⟩)], locs := [], boxes := [], defers := [] }, σ) := by
  rw [za0 _ _ _ h] at hq
  have hi : ((i : Int) < (l.length : Int)) := by omega
  have hx := idx_F l i h
  cases hf : l[i] with
  | mk nm tg mn ar =>
  rw [hf] at hq hx
  simp only [fits1, Bool.and_eq_true] at hq
  simp only [dF] at hx
  by_cases h2 : m < 0
  · simp only [a_34, Efd, sA, Nat.reduceAdd, Nat.reduceSub, Nat.reduceMul, Nat.reduceBEq, Nat.reduceLeDiff, Int.reduceBEq, Int.reduceBNe, Int.reduceLE, Int.reduceLT, Int.reduceGE, Int.reduceGT, Int.reduceNeg, kn, Mx.part, len_F, hi, natI, hx, hq.1, h2]
  · have h3 := hq.2
    simp only [h2, decide_false, Bool.false_or] at h3
    simp only [a_34, Efd, sA, Nat.reduceAdd, Nat.reduceSub, Nat.reduceMul, Nat.reduceBEq, Nat.reduceLeDiff, Int.reduceBEq, Int.reduceBNe, Int.reduceLE, Int.reduceLT, Int.reduceGE, Int.reduceGT, Int.reduceNeg, kn, Mx.part, len_F, hi, natI, hx, hq.1, h2, h3]
theorem zkrb (l : List Fd) (s : Tx) (m : Int) : exec C n none a_34 (Efd l s m l.length) σ = some (.exit 0, { Efd l s m l.length with slots := [(0, ⟨false, dFs l⟩), (1, ⟨false, .str s⟩), (2, ⟨false, .int .i64 m⟩), (7, ⟨false, .int .i64 l.length⟩), (11, ⟨false, .bool false⟩)] }, σ) := by
  have hi : ¬ ((l.length : Int) < (l.length : Int)) := by omega
  simp only [a_34, Efd, sA, Nat.reduceAdd, Nat.reduceSub, Nat.reduceMul, Nat.reduceBEq, Nat.reduceLeDiff, Int.reduceBEq, Int.reduceBNe, Int.reduceLE, Int.reduceLT, Int.reduceGE, Int.reduceGT, Int.reduceNeg, kn, len_F, hi]
end
theorem zacb (l : List Fd) (s : Tx) (m : Int) (hl : l.length < 1000000000) : OkP n_61 [dFs l, .str s, .int .i64 m] ⟨false, .bool (zd4 l s m)⟩ := by
  refine zap (af := a_110) (n := l.length + 1) (σ' := σ0) (zar [] 0) rfl rfl (by simp [zan, zgf, noPtr]) rfl ?_
  have h := zio (body := exec (T [] 0) (l.length + 1) none a_34) (Efd l s m) σ0 l.length (fun i => fits1 s m (l.getD i f0)) (fun _ _ h => by cases h) (fun _ _ h => by cases h) (fun i hi hq => zh7b l s m i hi hl hq) (fun i hi hq => zh8b l s m i hi hq) (zkrb l s m) (l.length + 1) (by omega)
  rw [zr5 l f0 (fits1 s m)] at h
  have ht : l.any (fits1 s m) = zd4 l s m := rfl
  rw [ht] at h
  simp only [Efd, zeroI] at h
  cases hb : zd4 l s m with
  | true =>
    rw [hb] at h
    simp only [a_110, sA, Nat.reduceAdd, Nat.reduceSub, Nat.reduceMul, Nat.reduceBEq, Nat.reduceLeDiff, Int.reduceBEq, Int.reduceBNe, Int.reduceLE, Int.reduceLT, Int.reduceGE, Int.reduceGT, Int.reduceNeg, kn, h]
  | false =>
    rw [hb] at h
    simp only [a_110, sA, Nat.reduceAdd, Nat.reduceSub, Nat.reduceMul, Nat.reduceBEq, Nat.reduceLeDiff, Int.reduceBEq, Int.reduceBNe, Int.reduceLE, Int.reduceLT, Int.reduceGE, Int.reduceGT, Int.reduceNeg, kn, h]
def zv3 : List D → Cell → Prop := fun ds c => ∀ l s m, ds = [dFs l, .str s, .int .i64 m] → c = ⟨false, .bool (zd4 l s m)⟩
theorem zpv {S : Specs} (hS : aget S n_61 = some zv3) (l : List Fd) (s : Tx) (m : Int) (hl : l.length < 1000000000) (n : Nat) (σ : Store) : T S (n + 1) n_61 [dFs l, .str s, .int .i64 m] σ = some (.ret ⟨false, .bool (zd4 l s m)⟩, σ) := by
  obtain ⟨c, h1, h2⟩ := T_orc (S := S) hS rfl (c := ⟨false, .bool (zd4 l s m)⟩) (fun l' s' m' e => by
    simp only [List.cons.injEq, D.str.injEq, D.int.injEq, true_and, and_true] at e
    rw [zyx e.1, e.2.1, e.2.2]) (zacb l s m hl)
  rw [h2, h1 l s m rfl]
end Go.Fu

/-
  Code, as the document prints it: all of it.
-/
import Derived.Test.YtldfbnbckiifeaaGreatDoorFgBo
import Derived.Test.YtldfbnbckiifeaaGreatDoorFgE
set_option maxHeartbeats 4000000
set_option linter.unusedSimpArgs false
set_option linter.unusedVariables false
set_option linter.unusedSectionVars false
namespace Go.Fu
open Go Go.Mx
set_option maxRecDepth 10000
set_option maxHeartbeats 4000000
def zzh : List D → Cell → Prop := fun ds c => ∀ i, ds = [dI i] → c = ⟨false, .str (lineM i)⟩
theorem zctb {S : Specs} (hS : aget S n_107 = some zzh) {B : Nat} (i : In) (hg : GI B i) (hB : B ≤ 900000) (n : Nat) (σ : Store) : T S (n + 1) n_107 [dI i] σ = some (.ret ⟨false, .str (lineM i)⟩, σ) := by
  obtain ⟨c, h1, h2⟩ := T_orc (S := S) hS rfl (c := ⟨false, .str (lineM i)⟩) (fun a' e => by
    simp only [List.cons.injEq, and_true] at e
    rw [zc4b e]) (zd2b i hg (by omega))
  rw [h2, h1 i rfl]
def SPz : Specs := [(n_16, zj5), (n_107, zzh)]
section
variable {C : CallF} {n : Nat} {σ : Store}
def Epk (cs : List Cd) (acc : Tx) (k : Nat) : Env := { slots := [(0, ⟨false, dDs cs⟩), (3, ⟨false, .str acc⟩), (4, ⟨false, .int .i64 k⟩)], locs := [], boxes := [], defers := [] }
theorem zjlb (cs : List Cd) (c : Cd) (acc acc' : Tx) (k : Nat) (hk : k < cs.length) (hl : cs.length < 1000000000) (hx : za7 3 (dDs cs) k = some (.eptr (dD c))) (ha : acc.length ≤ 140737488355328) (hb : c.name.length ≤ 1000000)
    (h1 : C n_16 [.int .i64 c.arity] σ = some (.ret ⟨false, .str (itoaN c.arity)⟩, σ))
    (h2 : loopN (exec C n none a_67) n (Epl cs (acc ++ c.name ++ [47] ++ itoaN c.arity ++ [10]) k 0) σ = some (.exit 2, { Epl cs acc' k c.body.length with slots := [(0, ⟨false, dDs cs⟩), (3, ⟨false, .str acc'⟩), (4, ⟨false, .int .i64 k⟩), (5, ⟨false, .int .i64 c.body.length⟩), (35, ⟨false, .bool false⟩)] }, σ)) :
    exec C n none a_79 (Epk cs acc k) σ = some (.normal, Epk cs acc' (k + 1), σ) := by
  have hlt : ((k : Int) < (cs.length : Int)) := by omega
  have w := zaj (i := k) (by omega)
  have ln := zc0 c.arity
  have b1 : acc.length + c.name.length ≤ 281474976710656 := by omega
  have b2 : (acc ++ c.name).length ≤ 281474976710655 := by simp; omega
  have b3 : (acc ++ c.name ++ [47]).length + (itoaN c.arity).length ≤ 281474976710656 := by simp; omega
  have b4 : (acc ++ c.name ++ [47] ++ itoaN c.arity).length ≤ 281474976710655 := by simp; omega
  simp only [dD] at hx
  have hp0 : Mx.part none [.str c.name, .int .i64 c.arity, dIs c.body] 0 = some (.str c.name) := rfl
  have hp1 : Mx.part none [.str c.name, .int .i64 c.arity, dIs c.body] 1 = some (.int .i64 c.arity) := rfl
  simp only [Epl, zeroI] at h2
  simp only [a_79, Epk, sA, Nat.reduceAdd, Nat.reduceSub, Nat.reduceMul, Nat.reduceBEq, Nat.reduceLeDiff, Int.reduceBEq, Int.reduceBNe, Int.reduceLE, Int.reduceLT, Int.reduceGE, Int.reduceGT, Int.reduceNeg, kn, hx, hp0, hp1, natI, onel, len_D, hlt, zbk, h1, h2, b1, b2, b3, b4, w]
theorem zlmb (cs : List Cd) (acc : Tx) : exec C n none a_79 (Epk cs acc cs.length) σ = some (.exit 0, { Epk cs acc cs.length with slots := [(0, ⟨false, dDs cs⟩), (3, ⟨false, .str acc⟩), (4, ⟨false, .int .i64 cs.length⟩), (9, ⟨false, .bool false⟩)] }, σ) := by
  have hlt : ¬ ((cs.length : Int) < (cs.length : Int)) := by omega
  simp only [a_79, Epk, sA, Nat.reduceAdd, Nat.reduceSub, Nat.reduceMul, Nat.reduceBEq, Nat.reduceLeDiff, Int.reduceBEq, Int.reduceBNe, Int.reduceLE, Int.reduceLT, Int.reduceGE, Int.reduceGT, Int.reduceNeg, kn, len_D, hlt]
end
theorem zr8 {B : Nat} : ∀ l : List In, (∀ i ∈ l, GI B i) → (bodyM l).length ≤ l.length * (B + 61)
  | [], _ => by simp [bodyM]
  | i :: r, h => by
    have h1 := zm3 (h i (by simp))
    have h2 := zr8 r fun x hx => h x (List.mem_cons_of_mem _ hx)
    simp only [bodyM, List.flatMap_cons, List.length_append, List.length_cons, List.length_nil, Nat.succ_mul] at h2 ⊢
    omega
theorem zqn {B : Nat} : ∀ cs : List Cd, CO B cs → (zay cs).length ≤ wt cs * (B + 61)
  | [], _ => by simp [zay]
  | c :: r, h => by
    have h1 := h c (by simp)
    have h2 := zqn r fun x hx => h x (List.mem_cons_of_mem _ hx)
    have h3 := zr8 c.body h1.2.2
    have h4 := zc0 c.arity
    have h5 := h1.1
    simp only [zay, List.flatMap_cons, List.length_append, headC, List.length_cons, List.length_nil, wt, Nat.add_mul, Nat.one_mul] at h2 ⊢
    omega
theorem zxy {B : Nat} (cs : List Cd) (hc : CO B cs) (hB : B ≤ 900000) (hw : wt cs < 900000000) (hlen : (zay cs).length ≤ 100000000000000) : OkP n_154 [dDs cs] ⟨false, .str (zay cs)⟩ := by
  have hl := znv cs
  have hpre : ∀ k, (zay (cs.take k)).length ≤ (zay cs).length := fun k => by
    have e : zay cs = zay (cs.take k) ++ zay (cs.drop k) := by
      rw [zay, zay, zay, ← List.flatMap_append, List.take_append_drop]
    rw [e, List.length_append]
    omega
  have hwm : ∀ (l : List Cd) (c : Cd), c ∈ l → c.body.length ≤ wt l := by
    intro l
    induction l with
    | nil => intro c h; cases h
    | cons x r ih =>
      intro c h
      rcases List.mem_cons.1 h with rfl | h
      · simp only [wt]; omega
      · have := ih c h; simp only [wt]; omega
  have hrun := za4 (body := exec (T SPz 1) 1000000000 none a_79) (fun k => Epk cs (zay (cs.take k)) k) (fun _ => σ0) cs.length (r := _) (fun _ _ h => by cases h) (fun k hk => by
    have hx := idx_D cs k hk
    have hm := List.getElem_mem hk
    obtain ⟨c1, c2, c3⟩ := hc _ hm
    have hwc := hwm _ _ hm
    have h1 := hpre k
    have h2 := hpre (k + 1)
    rw [zhm cs k hk, List.length_append, List.length_append] at h2
    have hh : (headC cs[k]).length ≤ 1000000 := by
      have := zc0 cs[k].arity
      simp only [headC, List.length_append, List.length_cons, List.length_nil]
      omega
    have hin := za4 (body := exec (T SPz 1) 1000000000 none a_67) (fun i => Epl cs (zay (cs.take k) ++ headC cs[k] ++ bodyM (cs[k].body.take i)) k i) (fun _ => σ0) cs[k].body.length (r := _) (fun _ _ h => by cases h) (fun i hi => by
      have hg := c3 _ (List.getElem_mem hi)
      have hbt : (bodyM (cs[k].body.take i)).length ≤ (bodyM cs[k].body).length := by
        have e : bodyM cs[k].body = bodyM (cs[k].body.take i) ++ bodyM (cs[k].body.drop i) := by
          rw [bodyM, bodyM, bodyM, ← List.flatMap_append, List.take_append_drop]
        rw [e, List.length_append]
        omega
      have hs := zjmb (C := T SPz 1) (n := 1000000000) (σ := σ0) cs cs[k] (zay (cs.take k) ++ headC cs[k] ++ bodyM (cs[k].body.take i)) k i hx hi (by omega) (by rw [List.length_append, List.length_append]; omega) (by have := zm3 hg; omega) (zctb (S := SPz) rfl _ hg hB 0 σ0)
      rw [zla _ i hi]
      simp only [List.append_assoc] at hs ⊢
      exact hs) (zlnb cs cs[k] (zay (cs.take k) ++ headC cs[k] ++ bodyM (cs[k].body.take cs[k].body.length)) k hx) 0 1000000000 (by omega) (by omega)
    rw [List.take_length] at hin
    have e0 : zay (cs.take k) ++ headC cs[k] ++ bodyM (cs[k].body.take 0) = zay (cs.take k) ++ cs[k].name ++ [47] ++ itoaN cs[k].arity ++ [10] := by simp [headC, bodyM]
    simp only [e0] at hin
    have := zjlb (C := T SPz 1) (n := 1000000000) (σ := σ0) cs cs[k] (zay (cs.take k)) (zay (cs.take k) ++ headC cs[k] ++ bodyM cs[k].body) k hk (by omega) hx (by omega) (by omega) (zhi (S := SPz) rfl _ c2 0 σ0) hin
    rw [zhm cs k hk, ← List.append_assoc]
    exact this) (zlmb cs (zay (cs.take cs.length))) 0 1000000000 (by omega) (by omega)
  rw [List.take_length] at hrun
  refine zap (af := a_132) (n := 1000000000) (σ' := σ0) (zar SPz 1) rfl rfl (by simp [zan, zfi]) rfl ?_
  have e0 : zay (cs.take 0) = [] := rfl
  simp only [Epk, zeroI, e0] at hrun
  simp only [a_132, sA, Nat.reduceAdd, Nat.reduceSub, Nat.reduceMul, Nat.reduceBEq, Nat.reduceLeDiff, Int.reduceBEq, Int.reduceBNe, Int.reduceLE, Int.reduceLT, Int.reduceGE, Int.reduceGT, Int.reduceNeg, kn, hrun]
end Go.Fu
namespace Go.Fu
open Go Go.Mx
set_option maxRecDepth 10000
section
variable {C : CallF} {n : Nat} {σ : Store}
def Eix (l : List Tx) (s : Tx) (i : Nat) : Env := { slots := [(0, ⟨false, dSs l⟩), (1, ⟨false, .str s⟩), (7, ⟨false, .int .i64 l.length⟩), (8, ⟨false, .int .i64 i⟩)], locs := [], boxes := [], defers := [] }
theorem zirb (l : List Tx) (s : Tx) (i : Nat) (h : i < l.length) (hl : l.length < 1000000000) (hq : (s == l.getD i []) = false) : exec C n none a_58 (Eix l s i) σ = some (.normal, Eix l s (i + 1), σ) := by
  rw [za0 _ _ _ h] at hq
  have hi : ((i : Int) < (l.length : Int)) := by omega
  simp only [a_58, Eix, sA, Nat.reduceAdd, Nat.reduceSub, Nat.reduceMul, Nat.reduceBEq, Nat.reduceLeDiff, Int.reduceBEq, Int.reduceBNe, Int.reduceLE, Int.reduceLT, Int.reduceGE, Int.reduceGT, Int.reduceNeg, kn, len_S, hi, natI, idx_S l i h, hq, zaj (i := i) (by omega)]
theorem zisb (l : List Tx) (s : Tx) (i : Nat) (h : i < l.length) (hq : (s == l.getD i []) = true) : exec C n none a_58 (Eix l s i) σ = some (.ret, { slots := [(4, ⟨false, .int .i64 i⟩)], locs := [], boxes := [], defers := [] }, σ) := by
  rw [za0 _ _ _ h] at hq
  have hi : ((i : Int) < (l.length : Int)) := by omega
  simp only [a_58, Eix, sA, Nat.reduceAdd, Nat.reduceSub, Nat.reduceMul, Nat.reduceBEq, Nat.reduceLeDiff, Int.reduceBEq, Int.reduceBNe, Int.reduceLE, Int.reduceLT, Int.reduceGE, Int.reduceGT, Int.reduceNeg, kn, len_S, hi, natI, idx_S l i h, hq]
theorem zk2b (l : List Tx) (s : Tx) : exec C n none a_58 (Eix l s l.length) σ = some (.exit 0, { Eix l s l.length with slots := [(0, ⟨false, dSs l⟩), (1, ⟨false, .str s⟩), (7, ⟨false, .int .i64 l.length⟩), (8, ⟨false, .int .i64 l.length⟩), (9, ⟨false, .bool false⟩)] }, σ) := by
  have hi : ¬ ((l.length : Int) < (l.length : Int)) := by omega
  simp only [a_58, Eix, sA, Nat.reduceAdd, Nat.reduceSub, Nat.reduceMul, Nat.reduceBEq, Nat.reduceLeDiff, Int.reduceBEq, Int.reduceBNe, Int.reduceLE, Int.reduceLT, Int.reduceGE, Int.reduceGT, Int.reduceNeg, kn, len_S, hi]
end
theorem zt3 (l : List Tx) (s : Tx) : (l.any fun x => s == x) = l.any (· == s) := by
  induction l with
  | nil => rfl
  | cons a r ih =>
    simp only [List.any_cons, ih]
    congr 1
    rw [Bool.eq_iff_iff, beq_iff_eq, beq_iff_eq]
    exact eq_comm
theorem zalb (l : List Tx) (s : Tx) (hl : l.length < 1000000000) : ∃ v : Int, OkP n_108 [dSs l, .str s] ⟨false, .int .i64 v⟩ ∧ (v ≥ 0 ↔ l.any (· == s) = true) := by
  have hr := zhl (body := exec (T [] 0) (l.length + 1) none a_58) (Eix l s) (fun _ => σ0) l.length (fun i => !(s == l.getD i [])) (r := _) (fun i => (.ret, { slots := [(4, ⟨false, .int .i64 i⟩)], locs := [], boxes := [], defers := [] }, σ0)) (fun _ _ h => by cases h) (fun _ _ _ h => by cases h) (fun i hi hq => zirb l s i hi hl (by simpa using hq)) (fun i hi hq => zisb l s i hi (by simpa using hq)) (zk2b l s) (l.length + 1) 0 (Nat.zero_le _) (by omega)
  simp only [Eix, zeroI] at hr
  rcases hr with ⟨i, _, hi, hq, _, h⟩ | ⟨hq, h⟩
  · refine ⟨i, zap (af := a_103) (n := l.length + 1) (σ' := σ0) (zar [] 0) rfl rfl (by simp [zan, zas, noPtr]) rfl ?_, ?_⟩
    · simp only [a_103, sA, Nat.reduceAdd, Nat.reduceSub, Nat.reduceMul, Nat.reduceBEq, Nat.reduceLeDiff, Int.reduceBEq, Int.reduceBNe, Int.reduceLE, Int.reduceLT, Int.reduceGE, Int.reduceGT, Int.reduceNeg, kn, len_S, h]
    · refine ⟨fun _ => ?_, fun _ => by omega⟩
      rw [← zt3, List.any_eq_true]
      rw [za0 _ _ _ hi] at hq
      exact ⟨_, List.getElem_mem hi, by simpa using hq⟩
  · refine ⟨-1, zap (af := a_103) (n := l.length + 1) (σ' := σ0) (zar [] 0) rfl rfl (by simp [zan, zas, noPtr]) rfl ?_, ?_⟩
    · simp only [a_103, sA, Nat.reduceAdd, Nat.reduceSub, Nat.reduceMul, Nat.reduceBEq, Nat.reduceLeDiff, Int.reduceBEq, Int.reduceBNe, Int.reduceLE, Int.reduceLT, Int.reduceGE, Int.reduceGT, Int.reduceNeg, kn, len_S, h]
    · refine ⟨fun h => by omega, fun ha => ?_⟩
      rw [← zt3, List.any_eq_true] at ha
      obtain ⟨x, hx, hxs⟩ := ha
      obtain ⟨i, hi, rfl⟩ := List.getElem_of_mem hx
      have := hq i (Nat.zero_le _) hi
      rw [za0 _ _ _ hi] at this
      simp only [hxs] at this
      cases this
def zpj : List D → Cell → Prop := fun ds c => ∀ l s, ds = [dSs l, .str s] → ∃ v : Int, c = ⟨false, .int .i64 v⟩ ∧ (v ≥ 0 ↔ l.any (· == s) = true)
theorem zzu {S : Specs} (hS : aget S n_108 = some zpj) (l : List Tx) (s : Tx) (hl : l.length < 1000000000) : ∃ v : Int, (∀ n σ, T S (n + 1) n_108 [dSs l, .str s] σ = some (.ret ⟨false, .int .i64 v⟩, σ)) ∧ (v ≥ 0 ↔ l.any (· == s) = true) := by
  obtain ⟨v, hp, hv⟩ := zalb l s hl
  obtain ⟨c, h1, h2⟩ := T_orc (S := S) hS rfl (c := ⟨false, .int .i64 v⟩) (fun l' s' e => by
    simp only [List.cons.injEq, D.str.injEq, and_true] at e
    obtain ⟨e1, rfl⟩ := e
    obtain rfl := zbn e1
    exact ⟨v, rfl, hv⟩) hp
  obtain ⟨u, rfl, hu⟩ := h1 l s rfl
  exact ⟨u, h2, hu⟩
theorem zs4 (l : List Tx) (s : Tx) (hl : l.length < 1000000000) : OkP n_40 [dSs l, .str s] ⟨false, .bool (l.any (· == s))⟩ := by
  obtain ⟨v, h1, h2⟩ := zzu (S := [(n_108, zpj)]) rfl l s hl
  refine zap (af := a_115) (n := 1) (σ' := σ0) (zar [(n_108, zpj)] 1) rfl rfl (by simp [zan, zas, noPtr]) rfl ?_
  have h1 := h1 0 σ0
  cases hb : l.any (· == s) with
  | true =>
    have hv : v ≥ 0 := h2.2 hb
    simp only [a_115, sA, Nat.reduceAdd, Nat.reduceSub, Nat.reduceMul, Nat.reduceBEq, Nat.reduceLeDiff, Int.reduceBEq, Int.reduceBNe, Int.reduceLE, Int.reduceLT, Int.reduceGE, Int.reduceGT, Int.reduceNeg, kn, h1, hv]
  | false =>
    have hv : ¬ v ≥ 0 := fun h => by rw [h2.1 h] at hb; cases hb
    simp only [a_115, sA, Nat.reduceAdd, Nat.reduceSub, Nat.reduceMul, Nat.reduceBEq, Nat.reduceLeDiff, Int.reduceBEq, Int.reduceBNe, Int.reduceLE, Int.reduceLT, Int.reduceGE, Int.reduceGT, Int.reduceNeg, kn, h1, hv]
def zkl : List D → Cell → Prop := fun ds c => ∀ l s, ds = [dSs l, .str s] → c = ⟨false, .bool (l.any (· == s))⟩
theorem zs2 {S : Specs} (hS : aget S n_40 = some zkl) (l : List Tx) (s : Tx) (hl : l.length < 1000000000) (n : Nat) (σ : Store) : T S (n + 1) n_40 [dSs l, .str s] σ = some (.ret ⟨false, .bool (l.any (· == s))⟩, σ) := by
  obtain ⟨c, h1, h2⟩ := T_orc (S := S) hS rfl (c := ⟨false, .bool (l.any (· == s))⟩) (fun l' s' e => by
    simp only [List.cons.injEq, D.str.injEq, and_true] at e
    obtain ⟨e1, rfl⟩ := e
    rw [zbn e1]) (zs4 l s hl)
  rw [h2, h1 l s rfl]
end Go.Fu
namespace Go.Fu
open Go Go.Mx
set_option maxRecDepth 10000
set_option maxHeartbeats 4000000
theorem zte (s : Tx) : OkP n_117 [.str s] ⟨false, .bool (isK s)⟩ := by
  refine zap (af := a_127) (n := 1) (σ' := σ0) (zar [(n_40, zkl)] 1) rfl rfl rfl rfl ?_
  have h1 := zs2 (S := [(n_40, zkl)]) rfl nums s (by decide) 0 σ0
  simp only [dSs, nums, dlist, List.map_cons, List.map_nil] at h1
  simp only [isK]
  simp only [nums]
  generalize ([[80, 85, 83, 72, 73], [80, 85, 83, 72, 65], [80, 65, 67, 75], [83, 76, 73, 68, 69], [80, 79, 80], [85, 80, 68, 65, 84, 69], [65, 76, 76, 79, 67], [84, 69, 83, 84], [84, 69, 83, 84, 73], [83, 80, 76, 73, 84], [74, 85, 77, 80]] : List Tx).any (· == s) = b at h1 ⊢
  simp only [a_127, sA, Nat.reduceAdd, Nat.reduceSub, Nat.reduceMul, Nat.reduceBEq, Nat.reduceLeDiff, Int.reduceBEq, Int.reduceBNe, Int.reduceLE, Int.reduceLT, Int.reduceGE, Int.reduceGT, Int.reduceNeg, kn, h1]
def zon : List D → Cell → Prop := fun ds c => ∀ s, ds = [.str s] → c = ⟨false, .bool (isK s)⟩
theorem zs3 {S : Specs} (hS : aget S n_117 = some zon) (s : Tx) (n : Nat) (σ : Store) : T S (n + 1) n_117 [.str s] σ = some (.ret ⟨false, .bool (isK s)⟩, σ) := by
  obtain ⟨c, h1, h2⟩ := T_orc (S := S) hS rfl (c := ⟨false, .bool (isK s)⟩) (fun s' e => by
    simp only [List.cons.injEq, D.str.injEq, and_true] at e
    rw [e]) (zte s)
  rw [h2, h1 s rfl]
theorem zl6 : ∀ a b : List UInt8, zbb (a ++ b) = zbb a ++ zbb b
  | [], b => rfl
  | x :: a, b => by simp only [List.cons_append, zbb, zl6 a b]
theorem zeu : ∀ a : List UInt8, (zbb a).length = a.length
  | [] => rfl
  | x :: a => by simp only [zbb, List.length_cons, zeu a]
theorem zsa : ∀ a : List UInt8, zeh (zbb a) = some a
  | [] => rfl
  | x :: a => by
    have hx : x.toNat < 256 := x.toNat_lt
    have h1 : decide (0 ≤ ((x.toNat : Nat) : Int)) = true := decide_eq_true (by omega)
    have h2 : decide (((x.toNat : Nat) : Int) < 256) = true := decide_eq_true (by omega)
    simp only [zbb, zeh, h1, h2, Bool.and_self, zad, zsa a, bindO, zab, Int.toNat_natCast, UInt8.ofNat_toNat]
theorem zmk : ∀ s : List UInt8, za6 k_12.sz (zbb s) = true
  | [] => rfl
  | x :: s => by simp only [zbb, za6, zmk s]; rfl
def bdC (a : Tx) : Cell := match a with
  | [] => ⟨false, .nils⟩
  | _ :: _ => ⟨true, .list k_12 (zbb a)⟩
def bdP (a : Tx) : D := match a with
  | [] => .nilp
  | _ :: _ => .ptr 0 0
theorem zr6 (a s : Tx) (hs : s ≠ []) (h : a.length + s.length ≤ 1099511627776) : za1 k_12 1 (bdC a) (zbb s) = some ⟨true, .list k_12 (zbb (a ++ s))⟩ := by
  cases a with
  | nil =>
    have e1 : decide ((([] : List D).length + (zbb s).length) * 1 ≤ bound) = true := decide_eq_true (by rw [zeu]; simpa [bound] using h)
    have e2 : decide (([] : List D).length + (zbb s).length ≤ bound) = true := decide_eq_true (by rw [zeu]; simpa [bound] using h)
    cases s with
    | nil => exact absurd rfl hs
    | cons x r =>
      simp only [za1, bdC, zbl, bindO, zab, zc8, zmk, e1, e2, Bool.and_self, zad, zds, List.nil_append]
      rfl
  | cons x r =>
    have hm : zc8 k_12 ⟨true, .list k_12 (zbb (x :: r))⟩ = true := rfl
    have e1 : decide (((zbb (x :: r)).length + (zbb s).length) * 1 ≤ bound) = true := decide_eq_true (by rw [zeu, zeu]; simpa [bound] using h)
    have e2 : decide ((zbb (x :: r)).length + (zbb s).length ≤ bound) = true := decide_eq_true (by rw [zeu, zeu]; simpa [bound] using h)
    simp only [za1, bdC, zbl, bindO, zab, hm, zmk, e1, e2, Bool.and_self, zad, zds, zl6]
def BS (a : Tx) : Store := { objs := [(0, [⟨false, bdP a⟩, bdC a])], tys := [(0, ⟨t_13, 0⟩)], oth := [], next := 1 }
theorem tb : (t_13 == t_13) = true := by simp
def BSc (a : Tx) : Store := { objs := [(0, [⟨false, .ptr 0 0⟩, bdC a])], tys := [(0, ⟨t_13, 0⟩)], oth := [], next := 1 }
theorem zcvb {S : Specs} (hs : has S n_26 = false) (n : Nat) (a : Tx) : T S (n + 1) n_26 [.ptr 0 0] (BS a) = some (.ret ⟨false, .tup []⟩, BSc a) := by
  rw [T_lib hs rfl rfl]
  have h : Xa n_26 [.ptr 0 0] (BS a) = xCopy [.ptr 0 0] (BS a) := rfl
  rw [h]
  cases a with
  | nil => rfl
  | cons x r => rfl
theorem zcnb (a s : Tx) (hs : s ≠ []) : BS (a ++ s) = { objs := [(0, [⟨false, .ptr 0 0⟩, ⟨true, .list k_12 (zbb (a ++ s))⟩])], tys := [(0, ⟨t_13, 0⟩)], oth := [], next := 1 } := by
  have hn : a ++ s ≠ [] := by simp [hs]
  generalize a ++ s = b at hn
  cases b with
  | nil => exact absurd rfl hn
  | cons x r => rfl
theorem zfgb {S : Specs} (h1 : has S n_26 = false) (h2 : has S n_49 = false) (n : Nat) (a s : Tx) (hs : s ≠ []) (h : a.length + s.length ≤ 1099511627776) :
    T S (n + 2) n_49 [.ptr 0 0, .str s] (BS a) = some (.ret ⟨false, .tup [.int .i64 s.length, .niliface]⟩, BS (a ++ s)) := by
  have hc := zcvb h1 n a
  have ha := zr6 a s hs h
  rw [zcnb a s hs]
  rw [T_fun (af := a_146) h2 rfl rfl]
  simp only [BSc] at hc
  generalize bdC a = b at hc ha
  obtain ⟨bo, bd⟩ := b
  simp only [a_146, sA, Nat.reduceAdd, Nat.reduceSub, Nat.reduceMul, Nat.reduceBEq, Nat.reduceLeDiff, Int.reduceBEq, Int.reduceBNe, Int.reduceLE, Int.reduceLT, Int.reduceGE, Int.reduceGT, Int.reduceNeg, kn, memE, memOp, hc, ha]
theorem zl2b {S : Specs} (h1 : has S n_26 = false) (h2 : has S n_155 = false) (n : Nat) (a : Tx) (h : a.length + 1 ≤ 1099511627776) :
    T S (n + 2) n_155 [.ptr 0 0, .int .u8 10] (BS a) = some (.ret ⟨false, .niliface⟩, BS (a ++ [10])) := by
  have hc := zcvb h1 n a
  have ha := zr6 a [10] (by simp) h
  rw [zcnb a [10] (by simp)]
  rw [T_fun (af := a_145) h2 rfl rfl]
  simp only [BSc] at hc
  generalize bdC a = b at hc ha
  obtain ⟨bo, bd⟩ := b
  have hb : zbb [10] = [.int .u8 10] := rfl
  rw [hb] at ha
  simp only [a_145, sA, Nat.reduceAdd, Nat.reduceSub, Nat.reduceMul, Nat.reduceBEq, Nat.reduceLeDiff, Int.reduceBEq, Int.reduceBNe, Int.reduceLE, Int.reduceLT, Int.reduceGE, Int.reduceGT, Int.reduceNeg, kn, memE, memOp, hc, ha]
theorem zlub {S : Specs} (h1 : has S n_64 = false) (n : Nat) (a : Tx) (hne : a ≠ []) : ∃ σ', T S (n + 1) n_64 [.ptr 0 0] (BS a) = some (.ret ⟨false, .str a⟩, σ') := by
  rw [T_lib h1 rfl rfl]
  have h : Xa n_64 [.ptr 0 0] (BS a) = zk6 [.ptr 0 0] (BS a) := rfl
  rw [h]
  cases a with
  | nil => exact absurd rfl hne
  | cons x r =>
    have hb : zmz k_12 = true := rfl
    have he : (zbb (x :: r)).isEmpty = false := rfl
    have h2 := zsa (x :: r)
    refine ⟨{ objs := [(0, [⟨false, .ptr 0 0⟩, ⟨false, .list k_12 (zbb (x :: r))⟩])], tys := [(0, ⟨t_13, 0⟩)], oth := [], next := 1 }, ?_⟩
    simp only [zk6, BS, aget, beq_self_eq_true, zad, bindO, zab, tb, bdC, bdP, hb, he, Bool.not_false, Bool.and_self, h2]
    rfl
theorem zut {S : Specs} (h1 : has S n_32 = false) (n : Nat) (x : Int) (hx : Small x) (σ : Store) : T S (n + 1) n_32 [.int .i64 x] σ = some (.ret ⟨false, .str (itoaN x)⟩, σ) := by
  rw [T_lib h1 rfl rfl]
  have h2 : inI64 x = true := by simp [inI64, hx.1, hx.2]
  have h : Xa n_32 [.int .i64 x] σ = bindO (xItoa [.int .i64 x]) fun d => some (.ret ⟨false, d⟩, σ) := rfl
  rw [h]
  simp only [xItoa, h2, zad, bindO, zab]
end Go.Fu
namespace Go.Fu
open Go Go.Mx
set_option maxRecDepth 10000
set_option maxHeartbeats 4000000
def SGp : Specs := [(n_117, zon)]
section
variable {n N : Nat}
def Egl (cs : List Cd) (k : Nat) (b : List In) (i : Nat) : Env := { slots := [(3, ⟨false, .ptr 0 0⟩), (8, ⟨false, dDs cs⟩), (9, ⟨false, .int .i64 cs.length⟩), (10, ⟨false, .int .i64 k⟩), (24, ⟨false, dIs b⟩), (25, ⟨false, .int .i64 b.length⟩), (26, ⟨false, .int .i64 i⟩)], locs := [], boxes := [], defers := [] }
set_option maxHeartbeats 4000000 in
theorem zilb (cs : List Cd) (k : Nat) (b : List In) (acc : Tx) (i : Nat) (hi : i < b.length) (hl : b.length < 1000000000) {B : Nat} (hg : GI B b[i]) (hB : B ≤ 900000) (ha : acc.length ≤ 1099510627776) :
    exec (T SGp (N + 2)) n none a_23 (Egl cs k b i) (BS acc) = some (.normal, Egl cs k b (i + 1), BS (acc ++ lineM b[i] ++ [10])) := by
  have hlt : ((i : Int) < (b.length : Int)) := by omega
  have hy := idx_I b i hi
  have w := zaj (i := i) (by omega)
  have hlen := zm3 hg
  generalize b[i] = ins at hy hg hlen ⊢
  obtain ⟨op, x, y, nm⟩ := ins
  obtain ⟨g1, g2, g3, g4⟩ := hg
  simp only at g1 g2 g3 g4
  have ln := zc0 x
  have lm := zc0 y
  have c1 := zut (S := SGp) rfl (N + 1) x g2
  have c2 := zut (S := SGp) rfl (N + 1) y g3
  have ck := zs3 (S := SGp) rfl op (N + 1)
  have W : ∀ a s : Tx, s ≠ [] → a.length + s.length ≤ 1099511627776 → T SGp (N + 2) n_49 [.ptr 0 0, .str s] (BS a) = some (.ret ⟨false, .tup [.int .i64 s.length, .niliface]⟩, BS (a ++ s)) := fun a s h1 h2 => zfgb rfl rfl N a s h1 h2
  have Y : ∀ a : Tx, a.length + 1 ≤ 1099511627776 → T SGp (N + 2) n_155 [.ptr 0 0, .int .u8 10] (BS a) = some (.ret ⟨false, .niliface⟩, BS (a ++ [10])) := fun a h => zl2b rfl rfl N a h
  have d1 : 1 + op.length ≤ 281474976710656 := by omega
  have d2 : 1 + nm.length ≤ 281474976710656 := by omega
  have d3 : 1 + (itoaN x).length ≤ 281474976710656 := by omega
  have d4 : 1 + (itoaN y).length ≤ 281474976710656 := by omega
  have W1 := W acc (32 :: op) (by simp) (by simp; omega)
  simp only [dI] at hy
  cases e1 : op == [80, 85, 83, 72, 71] with
  | true =>
    have e : op = [80, 85, 83, 72, 71] := by simpa using e1
    have e2 : (op == [80, 65, 67, 75]) = false := by rw [e]; rfl
    have e4 : (op == [84, 69, 83, 84, 73]) = false := by rw [e]; rfl
    have ek : isK op = false := by rw [e]; decide
    rw [ek] at ck
    have W2 := W (acc ++ 32 :: op) (32 :: nm) (by simp) (by simp; omega)
    have Y2 := Y (acc ++ 32 :: op ++ 32 :: nm) (by simp; omega)
    have eq : acc ++ lineM ⟨op, x, y, nm⟩ ++ [10] = acc ++ 32 :: op ++ 32 :: nm ++ [10] := by rw [zdzb op x y nm e]; simp
    rw [eq]
    clear eq e hlen
    generalize BS (acc ++ 32 :: op ++ 32 :: nm ++ [10]) = Z at *
    simp only [a_23, Egl, sA, Nat.reduceAdd, Nat.reduceSub, Nat.reduceMul, Nat.reduceBEq, Nat.reduceLeDiff, Int.reduceBEq, Int.reduceBNe, Int.reduceLE, Int.reduceLT, Int.reduceGE, Int.reduceGT, Int.reduceNeg, kn, hlt, hy, w, d1, d2, d3, d4, e1, e2, e4, ck, W1, W2, Y2]
  | false =>
    cases e2 : op == [80, 65, 67, 75] with
    | true =>
      have e : op = [80, 65, 67, 75] := by simpa using e2
      have ek : isK op = true := by rw [e]; decide
      rw [ek] at ck
      have W2 := W (acc ++ 32 :: op) (32 :: nm) (by simp) (by simp; omega)
      have W3 := W (acc ++ 32 :: op ++ 32 :: nm) (32 :: itoaN y) (by simp) (by simp; omega)
      have W4 := W (acc ++ 32 :: op ++ 32 :: nm ++ 32 :: itoaN y) (32 :: itoaN x) (by simp) (by simp; omega)
      have Y2 := Y (acc ++ 32 :: op ++ 32 :: nm ++ 32 :: itoaN y ++ 32 :: itoaN x) (by simp; omega)
      have eq : acc ++ lineM ⟨op, x, y, nm⟩ ++ [10] = acc ++ 32 :: op ++ 32 :: nm ++ 32 :: itoaN y ++ 32 :: itoaN x ++ [10] := by rw [zd1b op x y nm e]; simp
      rw [eq]
      clear eq e hlen
      simp only [a_23, Egl, sA, Nat.reduceAdd, Nat.reduceSub, Nat.reduceMul, Nat.reduceBEq, Nat.reduceLeDiff, Int.reduceBEq, Int.reduceBNe, Int.reduceLE, Int.reduceLT, Int.reduceGE, Int.reduceGT, Int.reduceNeg, kn, hlt, hy, w, d1, d2, d3, d4, e1, e2, ck, c1, c2, W1, W2, W3, W4, Y2]
    | false =>
      cases e3 : op == [84, 69, 83, 84] with
      | true =>
        have e : op = [84, 69, 83, 84] := by simpa using e3
        have e4 : (op == [84, 69, 83, 84, 73]) = false := by rw [e]; rfl
        have ek : isK op = true := by rw [e]; decide
        rw [ek] at ck
        have W2 := W (acc ++ 32 :: op) (32 :: nm) (by simp) (by simp; omega)
        have W3 := W (acc ++ 32 :: op ++ 32 :: nm) (32 :: itoaN x) (by simp) (by simp; omega)
        have Y2 := Y (acc ++ 32 :: op ++ 32 :: nm ++ 32 :: itoaN x) (by simp; omega)
        have eq : acc ++ lineM ⟨op, x, y, nm⟩ ++ [10] = acc ++ 32 :: op ++ 32 :: nm ++ 32 :: itoaN x ++ [10] := by rw [zd3b op x y nm e]; simp
        rw [eq]
        clear eq e hlen
        simp only [a_23, Egl, sA, Nat.reduceAdd, Nat.reduceSub, Nat.reduceMul, Nat.reduceBEq, Nat.reduceLeDiff, Int.reduceBEq, Int.reduceBNe, Int.reduceLE, Int.reduceLT, Int.reduceGE, Int.reduceGT, Int.reduceNeg, kn, hlt, hy, w, d1, d2, d3, d4, e1, e2, e3, e4, ck, c1, c2, W1, W2, W3, Y2]
      | false =>
        cases e4 : op == [84, 69, 83, 84, 73] with
        | true =>
          have e : op = [84, 69, 83, 84, 73] := by simpa using e4
          have ek : isK op = true := by rw [e]; decide
          rw [ek] at ck
          have W2 := W (acc ++ 32 :: op) (32 :: itoaN y) (by simp) (by simp; omega)
          have W3 := W (acc ++ 32 :: op ++ 32 :: itoaN y) (32 :: itoaN x) (by simp) (by simp; omega)
          have Y2 := Y (acc ++ 32 :: op ++ 32 :: itoaN y ++ 32 :: itoaN x) (by simp; omega)
          have eq : acc ++ lineM ⟨op, x, y, nm⟩ ++ [10] = acc ++ 32 :: op ++ 32 :: itoaN y ++ 32 :: itoaN x ++ [10] := by rw [zd0b op x y nm e]; simp
          rw [eq]
          clear eq e hlen
          simp only [a_23, Egl, sA, Nat.reduceAdd, Nat.reduceSub, Nat.reduceMul, Nat.reduceBEq, Nat.reduceLeDiff, Int.reduceBEq, Int.reduceBNe, Int.reduceLE, Int.reduceLT, Int.reduceGE, Int.reduceGT, Int.reduceNeg, kn, hlt, hy, w, d1, d2, d3, d4, e1, e2, e3, e4, ck, c1, c2, W1, W2, W3, Y2]
        | false =>
          have hN : isN op = false := by simp only [isN, e1, e2, e3, Bool.or_self]
          have hM : isM op = false := by simp only [isM, e2, e4, Bool.or_self]
          cases ek : isK op with
          | true =>
            rw [ek] at ck
            have W2 := W (acc ++ 32 :: op) (32 :: itoaN x) (by simp) (by simp; omega)
            have Y2 := Y (acc ++ 32 :: op ++ 32 :: itoaN x) (by simp; omega)
            have eq : acc ++ lineM ⟨op, x, y, nm⟩ ++ [10] = acc ++ 32 :: op ++ 32 :: itoaN x ++ [10] := by simp [lineM, hN, hM, ek, ifB]
            rw [eq]
            clear eq hlen
            simp only [a_23, Egl, sA, Nat.reduceAdd, Nat.reduceSub, Nat.reduceMul, Nat.reduceBEq, Nat.reduceLeDiff, Int.reduceBEq, Int.reduceBNe, Int.reduceLE, Int.reduceLT, Int.reduceGE, Int.reduceGT, Int.reduceNeg, kn, hlt, hy, w, d1, d2, d3, d4, e1, e2, e3, e4, ck, c1, c2, W1, W2, Y2]
          | false =>
            rw [ek] at ck
            have Y2 := Y (acc ++ 32 :: op) (by simp; omega)
            have eq : acc ++ lineM ⟨op, x, y, nm⟩ ++ [10] = acc ++ 32 :: op ++ [10] := by simp [lineM, hN, hM, ek, ifB]
            rw [eq]
            clear eq hlen
            simp only [a_23, Egl, sA, Nat.reduceAdd, Nat.reduceSub, Nat.reduceMul, Nat.reduceBEq, Nat.reduceLeDiff, Int.reduceBEq, Int.reduceBNe, Int.reduceLE, Int.reduceLT, Int.reduceGE, Int.reduceGT, Int.reduceNeg, kn, hlt, hy, w, d1, d2, d3, d4, e1, e2, e3, e4, ck, c1, c2, W1, Y2]
theorem zk0b (cs : List Cd) (k : Nat) (b : List In) (σ : Store) {C : CallF} : exec C n none a_23 (Egl cs k b b.length) σ = some (.exit 2, { Egl cs k b b.length with slots := [(3, ⟨false, .ptr 0 0⟩), (8, ⟨false, dDs cs⟩), (9, ⟨false, .int .i64 cs.length⟩), (10, ⟨false, .int .i64 k⟩), (24, ⟨false, dIs b⟩), (25, ⟨false, .int .i64 b.length⟩), (26, ⟨false, .int .i64 b.length⟩), (27, ⟨false, .bool false⟩)] }, σ) := by
  have hlt : ¬ ((b.length : Int) < (b.length : Int)) := by omega
  simp only [a_23, Egl, sA, Nat.reduceAdd, Nat.reduceSub, Nat.reduceMul, Nat.reduceBEq, Nat.reduceLeDiff, Int.reduceBEq, Int.reduceBNe, Int.reduceLE, Int.reduceLT, Int.reduceGE, Int.reduceGT, Int.reduceNeg, kn, hlt]
def Egk (cs : List Cd) (k : Nat) : Env := { slots := [(3, ⟨false, .ptr 0 0⟩), (8, ⟨false, dDs cs⟩), (9, ⟨false, .int .i64 cs.length⟩), (10, ⟨false, .int .i64 k⟩)], locs := [], boxes := [], defers := [] }
set_option maxHeartbeats 4000000 in
theorem zikb {C : CallF} (cs : List Cd) (c : Cd) (acc acc' : Tx) (k : Nat) (hk : k < cs.length) (hl : cs.length < 1000000000) (hx : za7 3 (dDs cs) k = some (.eptr (dD c))) (hb : c.name.length ≤ 1000000)
    (h1 : ∀ σ, C n_32 [.int .i64 c.arity] σ = some (.ret ⟨false, .str (itoaN c.arity)⟩, σ))
    (h3 : C n_49 [.ptr 0 0, .str (headC c)] (BS acc) = some (.ret ⟨false, .tup [.int .i64 (headC c).length, .niliface]⟩, BS (acc ++ headC c)))
    (h2 : loopN (exec C n none a_23) n (Egl cs k c.body 0) (BS (acc ++ headC c)) = some (.exit 2, { Egl cs k c.body c.body.length with slots := [(3, ⟨false, .ptr 0 0⟩), (8, ⟨false, dDs cs⟩), (9, ⟨false, .int .i64 cs.length⟩), (10, ⟨false, .int .i64 k⟩), (24, ⟨false, dIs c.body⟩), (25, ⟨false, .int .i64 c.body.length⟩), (26, ⟨false, .int .i64 c.body.length⟩), (27, ⟨false, .bool false⟩)] }, BS acc')) :
    exec C n none a_73 (Egk cs k) (BS acc) = some (.normal, Egk cs (k + 1), BS acc') := by
  have hlt : ((k : Int) < (cs.length : Int)) := by omega
  have w := zaj (i := k) (by omega)
  have ln := zc0 c.arity
  have b2 : c.name.length ≤ 281474976710655 := by omega
  have b3 : (c.name ++ [47]).length + (itoaN c.arity).length ≤ 281474976710656 := by simp; omega
  have b4 : (c.name ++ [47] ++ itoaN c.arity).length ≤ 281474976710655 := by simp; omega
  simp only [headC] at h3 h2
  generalize BS acc = Z1 at h3 ⊢
  generalize BS (acc ++ (c.name ++ [47] ++ itoaN c.arity ++ [10])) = Z2 at h3 h2
  generalize BS acc' = Z3 at h2 ⊢
  simp only [dD] at hx
  simp only [Egl, zeroI] at h2
  simp only [a_73, Egk, sA, Nat.reduceAdd, Nat.reduceSub, Nat.reduceMul, Nat.reduceBEq, Nat.reduceLeDiff, Int.reduceBEq, Int.reduceBNe, Int.reduceLE, Int.reduceLT, Int.reduceGE, Int.reduceGT, Int.reduceNeg, kn, memE, memOp, hx, len_I, hlt, zbk, h1, h3, h2, b2, b3, b4, w]
theorem zkzb {C : CallF} (cs : List Cd) (σ : Store) : exec C n none a_73 (Egk cs cs.length) σ = some (.exit 0, { Egk cs cs.length with slots := [(3, ⟨false, .ptr 0 0⟩), (8, ⟨false, dDs cs⟩), (9, ⟨false, .int .i64 cs.length⟩), (10, ⟨false, .int .i64 cs.length⟩), (11, ⟨false, .bool false⟩)] }, σ) := by
  have hlt : ¬ ((cs.length : Int) < (cs.length : Int)) := by omega
  simp only [a_73, Egk, sA, Nat.reduceAdd, Nat.reduceSub, Nat.reduceMul, Nat.reduceBEq, Nat.reduceLeDiff, Int.reduceBEq, Int.reduceBNe, Int.reduceLE, Int.reduceLT, Int.reduceGE, Int.reduceGT, Int.reduceNeg, kn, hlt]
end
end Go.Fu
namespace Go.Fu
open Go Go.Mx
set_option maxRecDepth 10000
set_option maxHeartbeats 4000000
theorem zw5 {B : Nat} (cs : List Cd) (hne : cs ≠ []) (hc : CO B cs) (hB : B ≤ 900000) (hw : wt cs < 900000000) (hlen : (zay cs).length ≤ 1099510000000) : OkP n_116 [dDs cs] ⟨false, .str (zay cs)⟩ := by
  have hl := znv cs
  have hpre : ∀ k, (zay (cs.take k)).length ≤ (zay cs).length := fun k => by
    have e : zay cs = zay (cs.take k) ++ zay (cs.drop k) := by
      rw [zay, zay, zay, ← List.flatMap_append, List.take_append_drop]
    rw [e, List.length_append]
    omega
  have hwm : ∀ (l : List Cd) (c : Cd), c ∈ l → c.body.length ≤ wt l := by
    intro l
    induction l with
    | nil => intro c h; cases h
    | cons x r ih =>
      intro c h
      rcases List.mem_cons.1 h with rfl | h
      · simp only [wt]; omega
      · have := ih c h; simp only [wt]; omega
  have hrun := za4 (body := exec (T SGp 2) 1000000000 none a_73) (fun k => Egk cs k) (fun k => BS (zay (cs.take k))) cs.length (r := _) (fun _ _ h => by cases h) (fun k hk => by
    have hx := idx_D cs k hk
    have hm := List.getElem_mem hk
    obtain ⟨c1, c2, c3⟩ := hc _ hm
    have hwc := hwm _ _ hm
    have h1 := hpre k
    have h2 := hpre (k + 1)
    rw [zhm cs k hk, List.length_append, List.length_append] at h2
    have hin := za4 (body := exec (T SGp 2) 1000000000 none a_23) (fun i => Egl cs k cs[k].body i) (fun i => BS (zay (cs.take k) ++ headC cs[k] ++ bodyM (cs[k].body.take i))) cs[k].body.length (r := _) (fun _ _ h => by cases h) (fun i hi => by
      have hg := c3 _ (List.getElem_mem hi)
      have hbt : (bodyM (cs[k].body.take (i + 1))).length ≤ (bodyM cs[k].body).length := by
        have e : bodyM cs[k].body = bodyM (cs[k].body.take (i + 1)) ++ bodyM (cs[k].body.drop (i + 1)) := by
          rw [bodyM, bodyM, bodyM, ← List.flatMap_append, List.take_append_drop]
        rw [e, List.length_append]
        omega
      rw [zla _ i hi, List.length_append, List.length_append] at hbt
      have hs := zilb (n := 1000000000) (N := 0) cs k cs[k].body (zay (cs.take k) ++ headC cs[k] ++ bodyM (cs[k].body.take i)) i hi (by omega) hg hB (by rw [List.length_append, List.length_append]; omega)
      rw [zla _ i hi]
      simp only [List.append_assoc] at hs ⊢
      exact hs) (zk0b cs k cs[k].body _) 0 1000000000 (by omega) (by omega)
    rw [List.take_length] at hin
    have e0 : zay (cs.take k) ++ headC cs[k] ++ bodyM (cs[k].body.take 0) = zay (cs.take k) ++ headC cs[k] := by simp [bodyM]
    simp only [e0] at hin
    have := zikb (C := T SGp 2) (n := 1000000000) cs cs[k] (zay (cs.take k)) (zay (cs.take k) ++ headC cs[k] ++ bodyM cs[k].body) k hk (by omega) hx (by omega) (fun σ => zut (S := SGp) rfl 1 _ c2 σ) (zfgb (S := SGp) rfl rfl 0 _ _ (by simp [headC]) (by omega)) hin
    rw [zhm cs k hk, ← List.append_assoc]
    exact this) (zkzb cs (BS (zay (cs.take cs.length)))) 0 1000000000 (by omega) (by omega)
  rw [List.take_length] at hrun
  have hnn : zay cs ≠ [] := by
    cases cs with
    | nil => exact absurd rfl hne
    | cons c r => simp [zay, headC]
  obtain ⟨σ', hst⟩ := zlub (S := SGp) rfl 1 (zay cs) hnn
  refine zap (af := a_126) (n := 1000000000) (σ' := σ') (zar SGp 2) rfl rfl (by simp [zan, zfi]) rfl ?_
  have e0 : zay (cs.take 0) = [] := rfl
  have e1 : BS [] = { objs := [(0, [⟨false, .nilp⟩, ⟨false, .nils⟩])], tys := [(0, ⟨t_13, 0⟩)], oth := [], next := 1 } := rfl
  generalize zay cs = pm at *
  simp only [Egk, zeroI, e0, e1] at hrun
  generalize BS pm = Z at *
  simp only [a_126, sA, Nat.reduceAdd, Nat.reduceSub, Nat.reduceMul, Nat.reduceBEq, Nat.reduceLeDiff, Int.reduceBEq, Int.reduceBNe, Int.reduceLE, Int.reduceLT, Int.reduceGE, Int.reduceGT, Int.reduceNeg, kn, memE, memOp, σ0, len_D, hrun, hst]
end Go.Fu

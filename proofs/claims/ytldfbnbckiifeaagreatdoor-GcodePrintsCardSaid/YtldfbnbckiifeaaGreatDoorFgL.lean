/-
  Combinators that are right are not refused.
-/
import Derived.Test.YtldfbnbckiifeaaGreatDoorFgI
set_option linter.unusedSimpArgs false
set_option linter.unusedVariables false
set_option linter.unusedSectionVars false
namespace Go.Fu
open Go Go.Mx
set_option maxRecDepth 10000
def cU (u : Su) : List D := .str u.name :: dSs u.ps :: cCo u.body
theorem agg?_dU (u : Su) : (dU u).agg? = some (cU u) := rfl
theorem dU_eq (u : Su) : dU u = .agg (cU u) := rfl
theorem partU (u : Su) : Mx.part none (cU u) 0 = some (.str u.name) ∧ Mx.part none (cU u) 1 = some (dSs u.ps) ∧ Mx.part (some 10) (cU u) 2 = some (dCo u.body) := by
  refine ⟨rfl, rfl, ?_⟩
  rw [← zub]
  rfl
theorem ok_dU (u : Su) : (dU u).ok = true := by
  rw [dU_eq]
  simp only [cU, zai, D.ok, List.all_cons, D.one, zem, zbj, zbi, zbh, List.all_nil, Bool.and_self]
theorem zt7 (u : Su) : (dU u).cells.length = 12 := rfl
theorem len_U (l : List Su) : lenOf (dUs l) = some l.length := zfp _ l
theorem idx_U (l : List Su) (i : Nat) (h : i < l.length) : za7 12 (dUs l) i = some (.eptr (dU l[i])) := zfn rfl _ _ _ h
theorem zk8 (l : List Su) : zbl (dUs l) = some (l.map dU) := zdq
section
variable {C : CallF} {n : Nat} {σ : Store}
def Ena (fs : List Fd) (us : List Su) (i : Nat) : Env := { slots := [(0, ⟨false, dFs fs⟩), (1, ⟨false, dUs us⟩), (6, ⟨ow i, dSs ((fs.take i).map Fd.name)⟩), (7, ⟨false, .nils⟩), (8, ⟨false, .int .i64 i⟩)], locs := [], boxes := [], defers := [] }
theorem zi3b (fs : List Fd) (us : List Su) (i : Nat) (h : i < fs.length) (hl : fs.length < 100000000) : exec C n none a_93 (Ena fs us i) σ = some (.normal, Ena fs us (i + 1), σ) := by
  have hi : ((i : Int) < (fs.length : Int)) := by omega
  have hx := idx_F fs i h
  have ha := zf3 ((fs.take i).map Fd.name) fs[i].name (ow i) (fun h => ow_ne (fun e => h (by rw [e]; rfl))) (by simp; omega)
  have e : (fs.take i).map Fd.name ++ [fs[i].name] = (fs.take (i + 1)).map Fd.name := by rw [← zba fs i h, List.map_append]; rfl
  rw [e] at ha
  simp only [dF] at hx
  simp only [a_93, Ena, sA, Nat.reduceAdd, Nat.reduceSub, Nat.reduceMul, Nat.reduceBEq, Nat.reduceLeDiff, Int.reduceBEq, Int.reduceBNe, Int.reduceLE, Int.reduceLT, Int.reduceGE, Int.reduceGT, Int.reduceNeg, kn, Mx.part, len_F, hi, natI, hx, ha, zaj (i := i) (by omega), zcr]
theorem zlab (fs : List Fd) (us : List Su) : exec C n none a_93 (Ena fs us fs.length) σ = some (.exit 0, { Ena fs us fs.length with slots := [(0, ⟨false, dFs fs⟩), (1, ⟨false, dUs us⟩), (6, ⟨ow fs.length, dSs (fs.map Fd.name)⟩), (7, ⟨false, .nils⟩), (8, ⟨false, .int .i64 fs.length⟩), (13, ⟨false, .bool false⟩)] }, σ) := by
  have hi : ¬ ((fs.length : Int) < (fs.length : Int)) := by omega
  simp only [a_93, Ena, sA, Nat.reduceAdd, Nat.reduceSub, Nat.reduceMul, Nat.reduceBEq, Nat.reduceLeDiff, Int.reduceBEq, Int.reduceBNe, Int.reduceLE, Int.reduceLT, Int.reduceGE, Int.reduceGT, Int.reduceNeg, kn, len_F, hi, List.take_length]
def Enb (fs : List Fd) (us : List Su) (i : Nat) : Env := { slots := [(1, ⟨false, dUs us⟩), (6, ⟨ow (fs.length + i), dSs (fs.map Fd.name ++ (us.take i).map Su.name)⟩), (7, ⟨ow i, dSs ((us.take i).map Su.name)⟩), (9, ⟨false, .int .i64 i⟩)], locs := [], boxes := [], defers := [] }
theorem zqk {k : Nat} (h : k ≠ 0) : ow k = true := by cases k with
  | zero => exact absurd rfl h
  | succ k => rfl
theorem zi4b (fs : List Fd) (us : List Su) (i : Nat) (h : i < us.length) (hl : fs.length + us.length < 100000000) : exec C n none a_94 (Enb fs us i) σ = some (.normal, Enb fs us (i + 1), σ) := by
  have hi : ((i : Int) < (us.length : Int)) := by omega
  have hx := idx_U us i h
  have hp := partU us[i]
  have e : (us.take i).map Su.name ++ [us[i].name] = (us.take (i + 1)).map Su.name := by rw [← zba us i h, List.map_append]; rfl
  have ha := zf3 (fs.map Fd.name ++ (us.take i).map Su.name) us[i].name (ow (fs.length + i)) (fun h2 => zqk (fun e => by
    have h3 : fs.length = 0 := by omega
    have h4 : i = 0 := by omega
    subst h4
    have : fs = [] := List.eq_nil_of_length_eq_zero h3
    subst this
    exact h2 rfl)) (by simp; omega)
  have hb := zf3 ((us.take i).map Su.name) us[i].name (ow i) (fun h => ow_ne (fun e => h (by rw [e]; rfl))) (by simp; omega)
  rw [List.append_assoc, e] at ha
  rw [e] at hb
  have e2 : ow (fs.length + (i + 1)) = true := rfl
  simp only [a_94, Enb, sA, Nat.reduceAdd, Nat.reduceSub, Nat.reduceMul, Nat.reduceBEq, Nat.reduceLeDiff, Int.reduceBEq, Int.reduceBNe, Int.reduceLE, Int.reduceLT, Int.reduceGE, Int.reduceGT, Int.reduceNeg, kn, len_U, hi, natI, hx, agg?_dU, hp, ha, hb, zaj (i := i) (by omega), zcr, e2]
theorem zlbb (fs : List Fd) (us : List Su) : exec C n none a_94 (Enb fs us us.length) σ = some (.exit 2, { Enb fs us us.length with slots := [(1, ⟨false, dUs us⟩), (6, ⟨ow (fs.length + us.length), dSs (fs.map Fd.name ++ us.map Su.name)⟩), (7, ⟨ow us.length, dSs (us.map Su.name)⟩), (9, ⟨false, .int .i64 us.length⟩), (27, ⟨false, .bool false⟩)] }, σ) := by
  have hi : ¬ ((us.length : Int) < (us.length : Int)) := by omega
  simp only [a_94, Enb, sA, Nat.reduceAdd, Nat.reduceSub, Nat.reduceMul, Nat.reduceBEq, Nat.reduceLeDiff, Int.reduceBEq, Int.reduceBNe, Int.reduceLE, Int.reduceLT, Int.reduceGE, Int.reduceGT, Int.reduceNeg, kn, len_U, hi, List.take_length]
end
theorem za4b (fs : List Fd) (us : List Su) (hl : fs.length + us.length < 100000000) : OkP n_123 [dFs fs, dUs us] ⟨false, .tup [dSs (fs.map Fd.name ++ us.map Su.name), dSs (us.map Su.name)]⟩ := by
  refine zap (af := a_141) (n := fs.length + us.length + 1) (σ' := σ0) (zar [] 1) rfl rfl (by simp [zan, zgf, zdj]) (by simp [noPtr, zan, zas]) ?_
  have h1 := za4 (body := exec (T [] 1) (fs.length + us.length + 1) none a_93) (Ena fs us) (fun _ => σ0) fs.length (r := _) (fun _ _ h => by cases h) (fun i hi => zi3b fs us i hi (by omega)) (zlab fs us) 0 (fs.length + us.length + 1) (by omega) (by omega)
  have h2 := za4 (body := exec (T [] 1) (fs.length + us.length + 1) none a_94) (Enb fs us) (fun _ => σ0) us.length (r := _) (fun _ _ h => by cases h) (fun i hi => zi4b fs us i hi (by omega)) (zlbb fs us) 0 (fs.length + us.length + 1) (by omega) (by omega)
  have e1 : dSs [] = .nils := rfl
  simp only [Ena, zeroI, List.take_zero, List.map_nil, e1, zgi] at h1
  simp only [Enb, zeroI, List.take_zero, List.map_nil, List.append_nil, e1, zgi, Nat.add_zero] at h2
  simp only [a_141, sA, Nat.reduceAdd, Nat.reduceSub, Nat.reduceMul, Nat.reduceBEq, Nat.reduceLeDiff, Int.reduceBEq, Int.reduceBNe, Int.reduceLE, Int.reduceLT, Int.reduceGE, Int.reduceGT, Int.reduceNeg, kn, h1, h2]
def zv6 : List D → Cell → Prop := fun ds c => ∀ fs us, ds = [dFs fs, dUs us] → c = ⟨false, .tup [dSs (fs.map Fd.name ++ us.map Su.name), dSs (us.map Su.name)]⟩
theorem zzz {S : Specs} (hS : aget S n_123 = some zv6) (fs : List Fd) (us : List Su) (hl : fs.length + us.length < 100000000) (n : Nat) (σ : Store) : T S (n + 1) n_123 [dFs fs, dUs us] σ = some (.ret ⟨false, .tup [dSs (fs.map Fd.name ++ us.map Su.name), dSs (us.map Su.name)]⟩, σ) := by
  obtain ⟨c, h1, h2⟩ := T_orc (S := S) hS rfl (c := ⟨false, .tup [dSs (fs.map Fd.name ++ us.map Su.name), dSs (us.map Su.name)]⟩) (fun a b e => by
    simp only [List.cons.injEq, and_true] at e
    rw [zyx e.1, zy1 e.2]) (za4b fs us hl)
  rw [h2, h1 fs us rfl]
structure GoodP (us : List Su) : Prop where
  few : us.length < 1000
  once : zea (FL.map Fd.name ++ us.map Su.name) = false
  ps : ∀ u ∈ us, zea u.ps = false ∧ u.ps.length < 1000
  body : ∀ u ∈ us, Good (us.map Su.name ++ u.ps) u.body ∧ u.body.size < 10000000
def SWr : Specs := [(n_123, zv6), (n_62, zn3), (n_25, zpl), (n_60, zjk), (n_2, zhg), (n_63, zjk)]
section
variable {C : CallF} {n : Nat} {σ : Store}
def Ewa (us : List Su) (al : D) (i : Nat) : Env := { slots := [(0, ⟨false, dFs FL⟩), (1, ⟨false, dUs us⟩), (5, ⟨false, al⟩), (6, ⟨false, dSs (us.map Su.name)⟩), (7, ⟨false, .int .i64 i⟩)], locs := [], boxes := [], defers := [] }
theorem zj7b (us : List Su) (al : D) (i : Nat) (h : i < us.length) (hl : us.length < 1000) (hc : C n_62 [dCo us[i].body] σ = some (.ret ⟨false, .bool true⟩, σ)) : exec C n none a_81 (Ewa us al i) σ = some (.normal, Ewa us al (i + 1), σ) := by
  have hi : ((i : Int) < (us.length : Int)) := by omega
  have hx := idx_U us i h
  have hp := partU us[i]
  have hd := zae us[i].body
  rw [hd] at hc hp
  simp only [a_81, Ewa, sA, Nat.reduceAdd, Nat.reduceSub, Nat.reduceMul, Nat.reduceBEq, Nat.reduceLeDiff, Int.reduceBEq, Int.reduceBNe, Int.reduceLE, Int.reduceLT, Int.reduceGE, Int.reduceGT, Int.reduceNeg, kn, len_U, hi, natI, hx, agg?_dU, hp, zfo, hc, zaj (i := i) (by omega)]
theorem zl0b (us : List Su) (al : D) : exec C n none a_81 (Ewa us al us.length) σ = some (.exit 0, { Ewa us al us.length with slots := [(0, ⟨false, dFs FL⟩), (1, ⟨false, dUs us⟩), (5, ⟨false, al⟩), (6, ⟨false, dSs (us.map Su.name)⟩), (7, ⟨false, .int .i64 us.length⟩), (24, ⟨false, .bool false⟩)] }, σ) := by
  have hi : ¬ ((us.length : Int) < (us.length : Int)) := by omega
  simp only [a_81, Ewa, sA, Nat.reduceAdd, Nat.reduceSub, Nat.reduceMul, Nat.reduceBEq, Nat.reduceLeDiff, Int.reduceBEq, Int.reduceBNe, Int.reduceLE, Int.reduceLT, Int.reduceGE, Int.reduceGT, Int.reduceNeg, kn, len_U, hi]
def Ewb (us : List Su) (i : Nat) : Env := { slots := [(0, ⟨false, dFs FL⟩), (1, ⟨false, dUs us⟩), (6, ⟨false, dSs (us.map Su.name)⟩), (9, ⟨false, .bool false⟩), (10, ⟨false, .int .i64 i⟩)], locs := [], boxes := [], defers := [] }
theorem zj8b (us : List Su) (i : Nat) (h : i < us.length) (hl : us.length < 1000) (ht : C n_25 [dSs us[i].ps] σ = some (.ret ⟨false, .bool false⟩, σ)) (hc : C n_60 [dCo us[i].body] σ = some (.ret ⟨false, .bool false⟩, σ)) : exec C n none a_82 (Ewb us i) σ = some (.normal, Ewb us (i + 1), σ) := by
  have hi : ((i : Int) < (us.length : Int)) := by omega
  have hx := idx_U us i h
  have hp := partU us[i]
  have hd := zae us[i].body
  rw [hd] at hc hp
  simp only [a_82, Ewb, sA, Nat.reduceAdd, Nat.reduceSub, Nat.reduceMul, Nat.reduceBEq, Nat.reduceLeDiff, Int.reduceBEq, Int.reduceBNe, Int.reduceLE, Int.reduceLT, Int.reduceGE, Int.reduceGT, Int.reduceNeg, kn, len_U, hi, natI, hx, agg?_dU, hp, zem, zfo, ht, hc, zaj (i := i) (by omega)]
theorem zl1b (us : List Su) : exec C n none a_82 (Ewb us us.length) σ = some (.exit 2, { Ewb us us.length with slots := [(0, ⟨false, dFs FL⟩), (1, ⟨false, dUs us⟩), (6, ⟨false, dSs (us.map Su.name)⟩), (9, ⟨false, .bool false⟩), (10, ⟨false, .int .i64 us.length⟩), (44, ⟨false, .bool false⟩)] }, σ) := by
  have hi : ¬ ((us.length : Int) < (us.length : Int)) := by omega
  simp only [a_82, Ewb, sA, Nat.reduceAdd, Nat.reduceSub, Nat.reduceMul, Nat.reduceBEq, Nat.reduceLeDiff, Int.reduceBEq, Int.reduceBNe, Int.reduceLE, Int.reduceLT, Int.reduceGE, Int.reduceGT, Int.reduceNeg, kn, len_U, hi]
def Ewc (us : List Su) (i : Nat) : Env := { slots := [(0, ⟨false, dFs FL⟩), (1, ⟨false, dUs us⟩), (6, ⟨false, dSs (us.map Su.name)⟩), (13, ⟨false, .int .i64 i⟩)], locs := [], boxes := [], defers := [] }
theorem zj9b (us : List Su) (i : Nat) (h : i < us.length) (hl : us.length < 1000) (ht : C n_2 [dSs (us.map Su.name), dSs us[i].ps] σ = some (.ret ⟨false, dSs (us.map Su.name ++ us[i].ps)⟩, σ)) (hc : C n_63 [dFs FL, dSs (us.map Su.name ++ us[i].ps), dCo us[i].body] σ = some (.ret ⟨false, .bool false⟩, σ)) :
    exec C n none a_83 (Ewc us i) σ = some (.normal, Ewc us (i + 1), σ) := by
  have hi : ((i : Int) < (us.length : Int)) := by omega
  have hx := idx_U us i h
  have hp := partU us[i]
  have hd := zae us[i].body
  rw [hd] at hc hp
  simp only [a_83, Ewc, sA, Nat.reduceAdd, Nat.reduceSub, Nat.reduceMul, Nat.reduceBEq, Nat.reduceLeDiff, Int.reduceBEq, Int.reduceBNe, Int.reduceLE, Int.reduceLT, Int.reduceGE, Int.reduceGT, Int.reduceNeg, kn, len_U, hi, natI, hx, agg?_dU, hp, zem, zfo, zbk, ht, hc, zaj (i := i) (by omega)]
theorem zl3b (us : List Su) : exec C n none a_83 (Ewc us us.length) σ = some (.exit 4, { Ewc us us.length with slots := [(0, ⟨false, dFs FL⟩), (1, ⟨false, dUs us⟩), (6, ⟨false, dSs (us.map Su.name)⟩), (13, ⟨false, .int .i64 us.length⟩), (67, ⟨false, .bool false⟩)] }, σ) := by
  have hi : ¬ ((us.length : Int) < (us.length : Int)) := by omega
  simp only [a_83, Ewc, sA, Nat.reduceAdd, Nat.reduceSub, Nat.reduceMul, Nat.reduceBEq, Nat.reduceLeDiff, Int.reduceBEq, Int.reduceBNe, Int.reduceLE, Int.reduceLT, Int.reduceGE, Int.reduceGT, Int.reduceNeg, kn, len_U, hi]
end
theorem zzl (us : List Su) (hg : GoodP us) : OkP n_119 [dFs FL, dUs us] ⟨false, .int .i64 0⟩ := by
  have hfew := hg.few
  have hF : FL.length = 5 := rfl
  refine zap (af := a_133) (n := us.length + 1) (σ' := σ0) (zar SWr 1) rfl rfl (by simp [zan, zgf, zdj]) rfl ?_
  have h1 := zzz (S := SWr) rfl FL us (by omega) 0 σ0
  have h2 := zik (S := SWr) rfl (FL.map Fd.name ++ us.map Su.name) (by simp; omega) 0 σ0
  rw [hg.once] at h2
  have hl0 := za4 (body := exec (T SWr 1) (us.length + 1) none a_81) (Ewa us (dSs (FL.map Fd.name ++ us.map Su.name))) (fun _ => σ0) us.length (r := _) (fun _ _ h => by cases h) (fun i hi => zj7b us _ i hi hfew (by
    have hb := hg.body _ (List.getElem_mem hi)
    exact zmn (S := SWr) rfl rfl (zx2 _ _ _ rfl hb.1 (by omega)) 0 σ0)) (zl0b us _) 0 (us.length + 1) (by omega) (by omega)
  have hl1 := za4 (body := exec (T SWr 1) (us.length + 1) none a_82) (Ewb us) (fun _ => σ0) us.length (r := _) (fun _ _ h => by cases h) (fun i hi => zj8b us i hi hfew (by
    have hp := hg.ps _ (List.getElem_mem hi)
    have := zik (S := SWr) rfl us[i].ps (by omega) 0 σ0
    rw [hp.1] at this
    exact this) (by
    have hb := hg.body _ (List.getElem_mem hi)
    exact zii (S := SWr) rfl rfl (zuc _ _ _ rfl hb.1 (by omega)) 0 σ0)) (zl1b us) 0 (us.length + 1) (by omega) (by omega)
  have hl2 := za4 (body := exec (T SWr 1) (us.length + 1) none a_83) (Ewc us) (fun _ => σ0) us.length (r := _) (fun _ _ h => by cases h) (fun i hi => zj9b us i hi hfew (by
    have hp := hg.ps _ (List.getElem_mem hi)
    exact zfb (S := SWr) rfl _ us[i].ps (by simp; omega) 0 σ0) (by
    have hb := hg.body _ (List.getElem_mem hi)
    have hp := hg.ps _ (List.getElem_mem hi)
    exact zii (S := SWr) rfl rfl (zwc _ _ _ rfl hb.1 (by simp; omega)) 0 σ0)) (zl3b us) 0 (us.length + 1) (by omega) (by omega)
  simp only [Ewa, zeroI] at hl0
  simp only [Ewb, zeroI] at hl1
  simp only [Ewc, zeroI] at hl2
  simp only [a_133, sA, Nat.reduceAdd, Nat.reduceSub, Nat.reduceMul, Nat.reduceBEq, Nat.reduceLeDiff, Int.reduceBEq, Int.reduceBNe, Int.reduceLE, Int.reduceLT, Int.reduceGE, Int.reduceGT, Int.reduceNeg, kn, h1, h2, hl0, hl1, hl2]
end Go.Fu
namespace Go.Fu
open Go Go.Mx
set_option maxRecDepth 10000
section
variable {C : CallF} {n : Nat} {σ : Store}
def Edg (x m : Int) (s : Tx) : Env := { slots := [(0, ⟨false, .int .i64 x⟩), (3, ⟨false, .str s⟩), (4, ⟨false, .int .i64 m⟩)], locs := [], boxes := [], defers := [] }
def chr (d : Nat) : UInt8 := UInt8.ofNat (48 + d)
theorem zcob (d : Nat) (h : d < 10) : zeh [.int .u8 (IntKind.u8.wrap (48 + (d : Int)))] = some [chr d] := by
  have hw : IntKind.u8.wrap (48 + (d : Int)) = ((48 + d : Nat) : Int) := by
    simp [IntKind.wrap, IntKind.bits, IntKind.signed]
    omega
  rw [hw]
  have h1 : decide ((0 : Int) ≤ ((48 + d : Nat) : Int)) = true := decide_eq_true (by omega)
  have h2 : decide (((48 + d : Nat) : Int) < 256) = true := decide_eq_true (by omega)
  simp only [zeh, h1, h2, Bool.and_self, zad, bindO, zab, Int.toNat_natCast, chr]
theorem zq1 (a : Nat) : (-(a : Int)).tmod 10 = -((a % 10 : Nat) : Int) := by rw [Int.neg_tmod, Int.tmod_eq_emod_of_nonneg (by omega)]; omega
theorem zq0 (a : Nat) : (-(a : Int)).tdiv 10 = -((a / 10 : Nat) : Int) := by rw [Int.neg_tdiv, Int.tdiv_eq_ediv_of_nonneg (by omega)]; omega
theorem zb1b (a : Nat) : ((a : Int)).tmod 10 = ((a % 10 : Nat) : Int) := by rw [Int.tmod_eq_emod_of_nonneg (by omega)]; omega
theorem zbzb (a : Nat) : ((a : Int)).tdiv 10 = ((a / 10 : Nat) : Int) := by rw [Int.tdiv_eq_ediv_of_nonneg (by omega)]; omega
theorem zkqb (x : Int) (a : Nat) (s : Tx) (ha : a ≤ 9223372036854775808) (hs : s.length < 1000) (hc : a ≠ 0 ∨ s = []) (hsm : a ≤ 9223372036854775807) : exec C n none a_27 (Edg x a s) σ = some (.normal, Edg x ((a / 10 : Nat) : Int) (chr (a % 10) :: s), σ) := by
  have hb := zcob (a % 10) (by omega)
  have hlt : ¬ (((a % 10 : Nat) : Int) < 0) := by omega
  have w1 : IntKind.i64.wrap (48 + ((a % 10 : Nat) : Int)) = 48 + ((a % 10 : Nat) : Int) := zbu (by omega) (by omega)
  have w2 : IntKind.i64.wrap ((a / 10 : Nat) : Int) = ((a / 10 : Nat) : Int) := zbu (by omega) (by omega)
  have hl : (0 + 1 + s.length ≤ 281474976710656) := by omega
  have hl2 : (1 + s.length ≤ 281474976710656) := by omega
  by_cases h0 : a = 0
  · subst h0
    have hs0 : s = [] := hc.resolve_left (by simp)
    subst hs0
    have e1 : (((0 : Nat) : Int) != 0) = false := rfl
    simp only [Nat.zero_mod, Nat.zero_div] at hb hlt w1 w2 ⊢
    simp only [a_27, Edg, sA, Nat.reduceAdd, Nat.reduceSub, Nat.reduceMul, Nat.reduceBEq, Nat.reduceLeDiff, Int.reduceBEq, Int.reduceBNe, Int.reduceLE, Int.reduceLT, Int.reduceGE, Int.reduceGT, Int.reduceNeg, kn, e1, zeroI, Int.zero_tmod, Int.zero_tdiv, zco] at hb hlt w1 w2 ⊢
    rfl
  · have e1 : ((a : Int) != 0) = true := by simp; omega
    simp only [a_27, Edg, sA, Nat.reduceAdd, Nat.reduceSub, Nat.reduceMul, Nat.reduceBEq, Nat.reduceLeDiff, Int.reduceBEq, Int.reduceBNe, Int.reduceLE, Int.reduceLT, Int.reduceGE, Int.reduceGT, Int.reduceNeg, kn, e1, zb1b, zbzb, hlt, w1, w2, zco, hb, hl, hl2]
theorem zkpb (x : Int) (a : Nat) (s : Tx) (ha : a ≤ 9223372036854775808) (hs : s.length < 1000) (h0 : a ≠ 0) : exec C n none a_27 (Edg x (-(a : Int)) s) σ = some (.normal, Edg x (-((a / 10 : Nat) : Int)) (chr (a % 10) :: s), σ) := by
  have hb := zcob (a % 10) (by omega)
  have w1 : IntKind.i64.wrap (48 + ((a % 10 : Nat) : Int)) = 48 + ((a % 10 : Nat) : Int) := zbu (by omega) (by omega)
  have w2 : IntKind.i64.wrap (-((a / 10 : Nat) : Int)) = -((a / 10 : Nat) : Int) := zbu (by omega) (by omega)
  have w3 : IntKind.i64.wrap (0 - -((a % 10 : Nat) : Int)) = ((a % 10 : Nat) : Int) := by rw [zbu (by omega) (by omega)]; omega
  have hl : (0 + 1 + s.length ≤ 281474976710656) := by omega
  have hl2 : (1 + s.length ≤ 281474976710656) := by omega
  have e1 : ((-(a : Int)) != 0) = true := by simp; omega
  by_cases hlt : (-((a % 10 : Nat) : Int)) < 0
  · simp only [a_27, Edg, sA, Nat.reduceAdd, Nat.reduceSub, Nat.reduceMul, Nat.reduceBEq, Nat.reduceLeDiff, Int.reduceBEq, Int.reduceBNe, Int.reduceLE, Int.reduceLT, Int.reduceGE, Int.reduceGT, Int.reduceNeg, kn, e1, zq1, zq0, hlt, w1, w2, w3, zco, hb, hl, hl2]
  · have hz : a % 10 = 0 := by omega
    have e2 : -((a % 10 : Nat) : Int) = ((a % 10 : Nat) : Int) := by omega
    rw [e2] at hlt
    simp only [a_27, Edg, sA, Nat.reduceAdd, Nat.reduceSub, Nat.reduceMul, Nat.reduceBEq, Nat.reduceLeDiff, Int.reduceBEq, Int.reduceBNe, Int.reduceLE, Int.reduceLT, Int.reduceGE, Int.reduceGT, Int.reduceNeg, kn, e1, zq1, zq0, e2, hlt, w1, w2, zco, hb, hl, hl2]
theorem zkob (x : Int) (s : Tx) (h : s ≠ []) : exec C n none a_27 (Edg x 0 s) σ = some (.exit 0, { Edg x 0 s with slots := [(0, ⟨false, .int .i64 x⟩), (3, ⟨false, .str s⟩), (4, ⟨false, .int .i64 0⟩), (12, ⟨false, .bool false⟩)] }, σ) := by
  have e : (s == []) = false := by cases s with
    | nil => exact absurd rfl h
    | cons a b => rfl
  simp only [a_27, Edg, sA, Nat.reduceAdd, Nat.reduceSub, Nat.reduceMul, Nat.reduceBEq, Nat.reduceLeDiff, Int.reduceBEq, Int.reduceBNe, Int.reduceLE, Int.reduceLT, Int.reduceGE, Int.reduceGT, Int.reduceNeg, kn, e]
theorem zlf : ∀ (k a : Nat) (s : Tx), (digF k a s).length ≤ s.length + k
  | 0, a, s => by simp [digF]
  | k + 1, a, s => by
    unfold digF
    by_cases h : a < 10
    · rw [decide_eq_true h]
      simp only [zad, List.length_cons]
      omega
    · rw [decide_eq_false h]
      simp only [zaf]
      have := zlf k (a / 10) (UInt8.ofNat (48 + a % 10) :: s)
      simp only [List.length_cons] at this
      omega
theorem zq7 (x : Int) (neg : Bool) : ∀ (k a : Nat) (s : Tx) (m : Nat), 1 ≤ k → a < 10 ^ k → (a ≠ 0 ∨ (s = [] ∧ neg = false)) → s.length + k < 1000 → k < m → a ≤ 9223372036854775808 → (neg = false → a ≤ 9223372036854775807) →
    loopN (exec C n none a_27) m (Edg x (ifB neg (-(a : Int)) a) s) σ = some (.exit 0, { Edg x 0 s with slots := [(0, ⟨false, .int .i64 x⟩), (3, ⟨false, .str (digF k a s)⟩), (4, ⟨false, .int .i64 0⟩), (12, ⟨false, .bool false⟩)] }, σ)
  | 0, a, s, m, h1, hk, hc, hs, hm, ha, hp => by omega
  | k + 1, a, s, m, h1, hk, hc, hs, hm, ha, hp => by
    obtain ⟨m, rfl⟩ : ∃ m', m = m' + 1 := ⟨m - 1, by omega⟩
    have hstep : exec C n none a_27 (Edg x (ifB neg (-(a : Int)) a) s) σ = some (.normal, Edg x (ifB neg (-((a / 10 : Nat) : Int)) ((a / 10 : Nat) : Int)) (chr (a % 10) :: s), σ) := by
      cases neg with
      | false => exact zkqb x a s ha (by omega) (hc.imp id fun h => h.1) (hp rfl)
      | true => exact zkpb x a s ha (by omega) (hc.resolve_right fun h => by cases h.2)
    rw [za3b hstep]
    by_cases h10 : a < 10
    · have e : a / 10 = 0 := by omega
      have e2 : a % 10 = a := by omega
      have e3 : digF (k + 1) a s = chr a :: s := by
        unfold digF
        rw [decide_eq_true h10]
        rfl
      have e4 : ifB neg (-((0 : Nat) : Int)) ((0 : Nat) : Int) = 0 := by cases neg <;> rfl
      obtain ⟨m, rfl⟩ : ∃ m', m = m' + 1 := ⟨m - 1, by omega⟩
      rw [e, e2, e3, e4]
      rw [za2b (zkob x (chr a :: s) (by simp))]
      rfl
    · have e3 : digF (k + 1) a s = digF k (a / 10) (chr (a % 10) :: s) := by
        rw [digF, decide_eq_false h10]
        rfl
      have hk1 : 1 ≤ k := by
        cases k with
        | zero => simp at hk; omega
        | succ k => omega
      have ih := zq7 x neg k (a / 10) (chr (a % 10) :: s) m hk1 (by rw [Nat.pow_succ] at hk; omega) (.inl (by omega)) (by simp; omega) (by omega) (by omega) (fun h => by have := hp h; omega)
      rw [e3, ih]
      rfl
end
theorem zwl (x : Int) (hx : Small x) : OkP n_16 [.int .i64 x] ⟨false, .str (itoaN x)⟩ := by
  refine zap (af := a_109) (n := 30) (σ' := σ0) (zar [] 1) rfl rfl rfl rfl ?_
  unfold Small at hx
  cases x with
  | ofNat a =>
    have hx1 : (a : Int) ≤ 9223372036854775807 := hx.2
    have h := zq7 (C := T [] 1) (n := 30) (σ := σ0) (Int.ofNat a) false 20 a [] 30 (by omega) (by omega) (by by_cases h : a = 0; exact .inr ⟨rfl, rfl⟩; exact .inl h) (by simp) (by omega) (by omega) (fun _ => by omega)
    have hlt : ¬ (Int.ofNat a < 0) := by simp
    simp only [Edg, zaf] at h
    have ei : ((a : Nat) : Int) = Int.ofNat a := rfl
    rw [ei] at h
    simp only [a_109, sA, Nat.reduceAdd, Nat.reduceSub, Nat.reduceMul, Nat.reduceBEq, Nat.reduceLeDiff, Int.reduceBEq, Int.reduceBNe, Int.reduceLE, Int.reduceLT, Int.reduceGE, Int.reduceGT, Int.reduceNeg, kn, h, hlt, itoaN, digN]
  | negSucc a =>
    have hx1 : -9223372036854775808 ≤ Int.negSucc a := hx.1
    have h := zq7 (C := T [] 1) (n := 30) (σ := σ0) (Int.negSucc a) true 20 (a + 1) [] 30 (by omega) (by omega) (.inl (by omega)) (by simp) (by omega) (by omega) (fun h => by cases h)
    have hlt : (Int.negSucc a < 0) := Int.negSucc_lt_zero a
    simp only [Edg, zad] at h
    have ei : -((a + 1 : Nat) : Int) = Int.negSucc a := rfl
    rw [ei] at h
    have hl : (0 + 1 + (digF 20 (a + 1) []).length ≤ 281474976710656) := by
      have := zlf 20 (a + 1) []
      simp only [List.length_nil] at this
      omega
    simp only [a_109, sA, Nat.reduceAdd, Nat.reduceSub, Nat.reduceMul, Nat.reduceBEq, Nat.reduceLeDiff, Int.reduceBEq, Int.reduceBNe, Int.reduceLE, Int.reduceLT, Int.reduceGE, Int.reduceGT, Int.reduceNeg, kn, h, hlt, hl, itoaN, digN]
def zj5 : List D → Cell → Prop := fun ds c => ∀ x, ds = [.int .i64 x] → c = ⟨false, .str (itoaN x)⟩
theorem zhi {S : Specs} (hS : aget S n_16 = some zj5) (x : Int) (hx : Small x) (n : Nat) (σ : Store) : T S (n + 1) n_16 [.int .i64 x] σ = some (.ret ⟨false, .str (itoaN x)⟩, σ) := by
  obtain ⟨c, h1, h2⟩ := T_orc (S := S) hS rfl (c := ⟨false, .str (itoaN x)⟩) (fun l' e => by
    simp only [List.cons.injEq, D.int.injEq, true_and, and_true] at e
    rw [e]) (zwl x hx)
  rw [h2, h1 x rfl]
end Go.Fu
namespace Go.Fu
open Go Go.Mx
set_option maxRecDepth 10000
def varC (s : Tx) : Co := .mk 1 0 s [] [] []
def appC' (a b : Co) : Co := .mk 4 0 [] [a, b] [] []
def zdr (c : Co) : List Tx → Co
  | [] => c
  | s :: l => zdr (appC' c (varC s)) l
theorem zw4 (c : Co) (l : List Tx) (s : Tx) : zdr c (l ++ [s]) = appC' (zdr c l) (varC s) := by
  induction l generalizing c with
  | nil => rfl
  | cons x r ih => simp only [List.cons_append, zdr, ih]
theorem zv0 (s : Tx) : (varC s).size = 1 := by simp [varC, Co.size, szK, szB, szA]
theorem zhcb (a b : Co) : (appC' a b).size = 1 + a.size + b.size := by simp [appC', Co.size, szK, szB, szA]; omega
theorem zx3 (c : Co) (l : List Tx) : (zdr c l).size = c.size + 2 * l.length := by
  induction l generalizing c with
  | nil => simp [zdr]
  | cons x r ih => simp only [zdr, ih, zhcb, zv0, List.length_cons]; omega
section
variable {C : CallF} {n : Nat} {σ : Store}
def Egi (s : Tx) (l : List Tx) (i : Nat) : Env := { slots := [(1, ⟨false, dSs l⟩), (6, ⟨false, .int .i64 i⟩)], locs := [(4, 4, 0), (5, 5, 0)], boxes := [(4, [⟨false, .int .i64 0⟩, ⟨false, .int .i64 0⟩, ⟨false, .str []⟩, ⟨false, .int .i64 0⟩, ⟨false, .int .i64 0⟩, ⟨false, .str []⟩, ⟨false, .nils⟩, ⟨false, .nils⟩, ⟨false, .nils⟩, ⟨false, .nils⟩]), (5, bC (zdr (varC s) (l.take i)))], defers := [] }
theorem zc3b : dCs [] = .nils ∧ dBl [] = .nils ∧ dAl [] = .nils := ⟨rfl, rfl, rfl⟩
theorem dCs2 (a b : Co) : dCs [a, b] = .list k_6 [dCo a, dCo b] := rfl
theorem zijb (s : Tx) (l : List Tx) (i : Nat) (h : i < l.length) (hl : l.length < 100000000) : exec C n none a_91 (Egi s l i) σ = some (.normal, Egi s l (i + 1), σ) := by
  have hi : ((i : Int) < (l.length : Int)) := by omega
  rw [Egi, Egi, ← zba l i h, zw4]
  have hx := idx_S l i h
  simp only [a_91, bC, sA, Nat.reduceAdd, Nat.reduceSub, Nat.reduceMul, Nat.reduceBEq, Nat.reduceLeDiff, Int.reduceBEq, Int.reduceBNe, Int.reduceLE, Int.reduceLT, Int.reduceGE, Int.reduceGT, Int.reduceNeg, kn, len_S, hi, natI, hx, zbj, zbi, zbh, zaj (i := i) (by omega), appC', co, zc3b, dCs2, zae, zai, varC]
theorem zkyb (s : Tx) (l : List Tx) : exec C n none a_91 (Egi s l l.length) σ = some (.exit 0, { Egi s l l.length with slots := [(1, ⟨false, dSs l⟩), (6, ⟨false, .int .i64 l.length⟩), (12, ⟨false, .bool false⟩)] }, σ) := by
  have hi : ¬ ((l.length : Int) < (l.length : Int)) := by omega
  simp only [a_91, Egi, bC, sA, Nat.reduceAdd, Nat.reduceSub, Nat.reduceMul, Nat.reduceBEq, Nat.reduceLeDiff, Int.reduceBEq, Int.reduceBNe, Int.reduceLE, Int.reduceLT, Int.reduceGE, Int.reduceGT, Int.reduceNeg, kn, len_S, hi]
end
theorem zahb (s : Tx) (l : List Tx) (hl : l.length < 100000000) : OkP n_121 [.str s, dSs l] ⟨false, dCo (zdr (varC s) l)⟩ := by
  refine zap (af := a_138) (n := l.length + 1) (σ' := σ0) (zar [] 1) rfl rfl (by simp [zan, noPtr, zas]) (za5 _) ?_
  have h1 := za4 (body := exec (T [] 1) (l.length + 1) none a_91) (Egi s l) (fun _ => σ0) l.length (r := _) (fun _ _ h => by cases h) (fun i hi => zijb s l i hi hl) (zkyb s l) 0 (l.length + 1) (by omega) (by omega)
  simp only [Egi, zeroI, List.take_zero, zdr, varC, bC, co, zc3b, List.take_length] at h1
  simp only [a_138, sA, Nat.reduceAdd, Nat.reduceSub, Nat.reduceMul, Nat.reduceBEq, Nat.reduceLeDiff, Int.reduceBEq, Int.reduceBNe, Int.reduceLE, Int.reduceLT, Int.reduceGE, Int.reduceGT, Int.reduceNeg, kn, h1, zbj, zbi, zbh, zae, zai, varC]
def zv4 : List D → Cell → Prop := fun ds c => ∀ s l, ds = [.str s, dSs l] → c = ⟨false, dCo (zdr (varC s) l)⟩
theorem zzy {S : Specs} (hS : aget S n_121 = some zv4) (s : Tx) (l : List Tx) (hl : l.length < 100000000) (n : Nat) (σ : Store) : T S (n + 1) n_121 [.str s, dSs l] σ = some (.ret ⟨false, dCo (zdr (varC s) l)⟩, σ) := by
  obtain ⟨c, h1, h2⟩ := T_orc (S := S) hS rfl (c := ⟨false, dCo (zdr (varC s) l)⟩) (fun s' l' e => by
    simp only [List.cons.injEq, D.str.injEq, and_true] at e
    rw [e.1, zbn e.2]) (zahb s l hl)
  rw [h2, h1 s l rfl]
end Go.Fu

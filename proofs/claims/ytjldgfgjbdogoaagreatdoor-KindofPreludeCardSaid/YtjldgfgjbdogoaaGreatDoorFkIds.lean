/-
  What is called with data that hold no place of the store leaves the store: proved at the empty store, it holds at every one. And library functions that only read.
-/
import Derived.Below
import Derived.Test.YtjldgfgjbdogoaaGreatDoorMyRun
import Derived.OpenShut
import Derived.Carry
import Derived.ChangeSlices
import Derived.ChangeSame
import Derived.Deep.DeepHandedRow
import Derived.Stop.LaidErr
import Derived.Deep.DeepLaidRun
import Derived.Lib.LaidTab
set_option linter.unusedSimpArgs false
set_option linter.unusedVariables false
set_option linter.unusedSectionVars false
namespace Go.Mx
open Go
mutual
def noPtr : D → Bool
  | .ptr _ _ => false
  | .arr _ _ _ _ => false
  | .map _ => false
  | .yld _ => false
  | .agg cs => zek cs
  | .tup ds => zek ds
  | .list _ es => zek es
  | .eptr d => noPtr d
  | .fn _ a b => zek a && zek b
  | .iface _ d => noPtr d
  | _ => true
def zek : List D → Bool
  | [] => true
  | d :: l => noPtr d && zek l
end
mutual
theorem Rep.swap {ι : Imm} {j j' : Lay} : ∀ (d : D) (v : Value), noPtr d = true → Rep ι j d v → Rep ι j' d v
  | .undef, _, _, h | .bool _, _, _, h | .int _ _, _, _, h | .str _, _, _, h | .nils, _, _, h | .nilp, _, _, h | .nilfn, _, _, h | .niliface, _, _, h | .empt, _, _, h | .nilmap, _, _, h => by simpa only [Rep] using h
  | .arr _ _ _ _, _, hp, _ | .map _, _, hp, _ | .yld _, _, hp, _ => by simp only [noPtr, Bool.false_eq_true] at hp
  | .junk, _, _, _ => by simp only [Rep]
  | .list sz es, v, hp, h => by
    simp only [noPtr] at hp
    simp only [Rep] at h ⊢
    obtain ⟨a, cap, h1, h2, h3, h4⟩ := h
    refine ⟨a, cap, h1, h2, h3, ?_⟩
    rcases h4 with h4 | ⟨b, o, ha, hr⟩
    · exact .inl h4
    · exact .inr ⟨b, o, ha, zb5.swap sz.sz es b o hp hr⟩
  | .agg cs, v, hp, h => by
    simp only [noPtr] at hp
    simp only [Rep] at h ⊢
    obtain ⟨vs, h1, h2, h3⟩ := h
    exact ⟨vs, h1, RepL.swap cs vs hp h2, h3⟩
  | .tup ds, v, hp, h => by
    simp only [noPtr] at hp
    simp only [Rep] at h ⊢
    obtain ⟨vs, h1, h2⟩ := h
    exact ⟨vs, h1, RepL.swap ds vs hp h2⟩
  | .ptr id off, v, hp, h => by simp [noPtr] at hp
  | .eptr d, v, hp, h => by
    simp only [noPtr] at hp
    simp only [Rep] at h ⊢
    obtain ⟨b, o, x, h1, h2, h3⟩ := h
    exact ⟨b, o, x, h1, h2, Rep.swap d x hp h3⟩
  | .fn f first caps, v, hp, h => by
    simp only [noPtr, Bool.and_eq_true] at hp
    simp only [Rep] at h ⊢
    obtain ⟨vf, vc, h1, h2, h3⟩ := h
    exact ⟨vf, vc, h1, RepL.swap first vf hp.1 h2, RepL.swap caps vc hp.2 h3⟩
  | .iface t d, v, hp, h => by
    simp only [noPtr] at hp
    simp only [Rep] at h ⊢
    obtain ⟨x, h1, h2⟩ := h
    exact ⟨x, h1, Rep.swap d x hp h2⟩
theorem RepL.swap {ι : Imm} {j j' : Lay} : ∀ (ds : List D) (vs : List Value), zek ds = true → RepL ι j ds vs → RepL ι j' ds vs
  | [], _, _, h => by simpa only [RepL] using h
  | d :: ds, vs, hp, h => by
    simp only [zek, Bool.and_eq_true] at hp
    simp only [RepL] at h ⊢
    obtain ⟨x, r, h1, h2, h3⟩ := h
    exact ⟨x, r, h1, Rep.swap d x hp.1 h2, RepL.swap ds r hp.2 h3⟩
theorem zb5.swap {ι : Imm} {j j' : Lay} (sz : Nat) : ∀ (ds : List D) (b o : Nat), zek ds = true → zb5 ι j sz ds b o → zb5 ι j' sz ds b o
  | [], _, _, _, _ => by simp only [zb5]
  | d :: ds, b, o, hp, h => by
    simp only [zek, Bool.and_eq_true] at hp
    simp only [zb5] at h ⊢
    obtain ⟨⟨x, h1, h2, h3⟩, h4⟩ := h
    exact ⟨⟨x, h1, h2, Rep.swap d x hp.1 h3⟩, zb5.swap sz ds b (o + sz) hp.2 h4⟩
end
def σ0 : Store := { objs := [], tys := [], oth := [], next := 0 }
section
variable [LoopKit] {P : Program} {ι : Imm} {j : Lay} {own : Own} {w : World} {σ : Store} {κ : Ctx}
theorem GSim.empty (hG : GSim ι j own σ w) : GSim ι (fun _ => none) (fun _ => none) σ0 w where
  holds := hG.holds
  noimm := fun _ _ h => by cases h
  objs := fun id cs h => by simp [σ0, zc1] at h
  tys := fun id t cs h => by simp [σ0, zc1] at h
  oth := fun id x h => by simp [σ0, zc1] at h
  jlt := fun _ _ h => by cases h
  ownlt := fun _ _ h => by cases h
theorem GSim.onto {ι' : Imm} {j' : Lay} {own' : Own} {σ' : Store} {w' : World} (hG : GSim ι j own σ w) (hG' : GSim ι' j' own' σ' w') (hE : Evo ι (fun _ => none) (fun _ => none) w ι' j' own' w' (fun _ => True)) :
    GSim ι' j own σ w' ∧ Evo ι j own w ι' j own w' (fun _ => True) := by
  have hE2 : Evo ι j own w ι' j own w' (fun _ => False) := ⟨hE.os, hE.tape, hE.output, hE.size, hE.imm, fun _ _ h => h, fun b hb _ => by
    obtain ⟨k1, _, k3⟩ := hE.block b hb (fun t h => by cases h)
    exact ⟨k1, rfl, k3⟩⟩
  refine ⟨hG.evo hE2 hG'.holds (fun b t h hu o => ?_) (fun b t h => Nat.lt_of_lt_of_le (hG.ownlt b t h) hE.size) hG.jlt (fun _ _ _ => ⟨fun h => h, fun _ _ _ _ h => h⟩) (fun _ _ _ h => h), hE2.weaken fun _ h => h.elim⟩
  rw [(hE2.block b (hG.ownlt b t h) (fun _ _ h => h)).2.2 o]
  exact hG.noimm b t h hu o
def Out.clean : Out → Bool
  | .ret c => noPtr c.d
  | .panic d => noPtr d
theorem zoa {f : FuncId} {ds : List D} {out : Out} {σ' : Store} (hY : isY f = false) (h : ze1 P κ f ds σ0 out σ') (hd : zek ds = true) (hc : out.clean = true) (σ : Store) : ze1 P κ f ds σ out σ := by
  replace h := (zft hY).1 h
  refine (zft hY).2 ⟨h.1, fun ι j own w vs hS hB hG hr => ?_⟩
  refine (h.2 ι (fun _ => none) (fun _ => none) w vs (fun _ _ h => by cases h) ⟨hB.size, fun _ _ => rfl, hB.K⟩ hG.empty (RepL.swap ds vs hd hr)).mono ?_
  rintro e w' ⟨ι', j', own', k1, k2, k3, k4⟩
  obtain ⟨g1, g2⟩ := hG.onto k1 k2
  refine ⟨ι', j, own, g1, g2, hS, ?_⟩
  cases out with
  | ret c =>
    cases e with
    | returned v =>
      simp only at k4 ⊢
      refine ⟨Rep.swap c.d v hc k4.1, fun ho => ?_⟩
      have hF := k4.2 ho
      unfold Fresh at hF ⊢
      cases hp : prin c.d v with
      | none => trivial
      | some p =>
        rw [hp] at hF
        rcases hF with hF | ⟨b, cap, cur, T, f1, f2, f3, f4, f5, f6⟩
        · exact .inl hF
        · have hb : w.heap.size ≤ b := f2.resolve_right (by simp)
          refine .inr ⟨b, cap, cur, T, f1, .inl hb, ?_, f4, f5, f6⟩
          cases ho : own b with
          | none => rfl
          | some t => have := hG.ownlt b t ho; omega
    | panicked chain => exact k4.elim
    | outgrown => exact k4.elim
  | panic d =>
    cases e with
    | returned v => exact k4.elim
    | outgrown => exact k4.elim
    | panicked chain =>
      obtain ⟨v, rfl, hv⟩ := k4
      exact ⟨v, rfl, Rep.swap d v hc hv⟩
theorem GSim.setObj (hG : GSim ι j own σ w) {id B : Nat} {cs cs' : List Cell} {cur : Array Value} {T : TypeId} {vs' : List Value} {w' : World} (hcs : aget σ.objs id = some cs) (hB : j id = some B) (hown : own B = some (.obj id))
    (hos : w'.os = w.os) (htape : w'.tape = w.tape) (hout : w'.output = w.output) (hsize : w.heap.size ≤ w'.heap.size) (hoth : ∀ b, b ≠ B → w'.heap[b]? = w.heap[b]?) (h0 : w.heap[B]? = some (.cells cur T (0, 0))) (h1 : w'.heap[B]? = some (.cells ⟨vs'⟩ T (0, 0)))
    (hlen : cs'.length ≤ vs'.length) (hcur : vs'.length = cur.size) (hcells : ∀ (i : Nat) (c : Cell), cs'[i]? = some c → ∃ v, vs'[i]? = some v ∧ v.oneCell' = true ∧ zdk ι j own w' (.ocell id i) c v) :
    GSim ι j own { σ with objs := aset σ.objs id cs' } w' ∧ Evo ι j own w ι j own w' (fun t => t = .obj id) := by
  have hE : Evo ι j own w ι j own w' (fun t => t = .obj id) := ⟨hos, htape, hout, hsize, fun _ _ _ h => h, fun _ _ h => h, fun b _ hb => ⟨hoth b (fun e => hb _ (e ▸ hown) rfl), rfl, fun _ => rfl⟩⟩
  refine ⟨⟨fun b o v h => ?_, hG.noimm, fun id' cs2 h => ?_, fun id' t cs2 k1 k2 b hb => ?_, fun id' x h => ?_, hG.jlt, fun b t h => Nat.lt_of_lt_of_le (hG.ownlt b t h) hsize⟩, hE⟩
  · have hne : b ≠ B := fun e => by
      rw [e, hG.noimm B _ hown rfl o] at h
      cases h
    rw [World.cell?_of_block (w := w) (w' := w') (a := ⟨b, o, none⟩) (hoth b hne)]
    exact hG.holds b o v h
  · simp only [zbp] at h
    by_cases hid : id = id'
    · subst hid
      rw [if_pos rfl] at h
      cases h
      exact ⟨B, hB, hown, vs', T, h1, by omega, hcells⟩
    · rw [if_neg hid] at h
      obtain ⟨B2, q1, q2, q3⟩ := hG.objs id' cs2 h
      exact ⟨B2, q1, q2, hE.boxRel q2 (fun h => by cases h; exact hid rfl) (fun _ _ _ _ h => by cases h) q3⟩
  · have hex : ∃ cs0, aget σ.objs id' = some cs0 := by
      simp only [zbp] at k2
      split at k2
      · rename_i hh; subst hh; exact ⟨cs, hcs⟩
      · exact ⟨cs2, k2⟩
    obtain ⟨cs0, hcs0⟩ := hex
    have hty := hG.tys id' t cs0 k1 hcs0 b hb
    by_cases hbB : b = B
    · subst hbB
      obtain ⟨row, hrow, hsz⟩ := hty
      have hrc := hrow
      rw [h0] at hrc
      cases hrc
      refine ⟨_, h1, fun hp => ?_⟩
      obtain ⟨c, e1, e2, e3⟩ := hsz hp
      exact ⟨c, e1, by rw [← e2, ← hcur]; rfl, e3⟩
    · exact hty.keep (hoth b hbB) (fun _ _ h => h)
  · obtain ⟨B2, q1, q2, q3⟩ := hG.oth id' x h
    have hbB : B2 ≠ B := fun e => by
      subst e
      exact q3.notCells h0
    exact ⟨B2, q1, q2, q3.keep (hoth B2 hbB) (fun _ _ _ h => h) (fun _ _ h => h)⟩
end
end Go.Mx
namespace Go.Mx
open Go Go.ChangeShapes Go.WideShapes Go.RowKit
theorem zkt {H : Type} {enc : TypeId × Value → H} {P : Program} (hl : laidOutB P = true) {W W' : World} (hb : Below W.heap.size W W') : ∀ {ts : List TypeId} {vs : List Value} {ds : List (DataW H)} {ps : List MemPlace}, (∀ t ∈ ts, P.readableRec t = true ∧ t < P.types.size) →
    DataW.TrodAll enc P W 0 (fun _ => true) true ts vs ds ps → (∀ x ∈ ps, x.block < W.heap.size) → DataW.TrodAll enc P W' 0 (fun b => decide (b < W.heap.size)) true ts vs ds ps
  | [], vs, ds, ps, _, h, _ => by
    obtain ⟨rfl, rfl, rfl⟩ := trodAll_nil h
    exact trodAll_mk0
  | t :: ts, vs, ds, ps, ht, h, hlt => by
    obtain ⟨v, vs', d, ds', p, q, rfl, rfl, rfl, h1, h2⟩ := trodAll_cons h
    obtain ⟨hr, hs⟩ := ht t (List.mem_cons_self ..)
    exact trodAll_cons_mk (Below.trod hl hr hs h1 hb fun x hx => hlt x (List.mem_append_left _ hx)) (zkt hl hb (fun u hu => ht u (List.mem_cons_of_mem _ hu)) h2 fun x hx => hlt x (List.mem_append_right _ hx))
theorem zzs {H : Type} {enc : TypeId × Value → H} {P : Program} {f : Func} {s : ChangeSpec} {fresh handsOn : Bool} {W W' : World} {args : Array Value} {ds : List (DataW H)} {before : List MemPlace} (hl : laidOutB P = true) (hb : Below W.heap.size W W')
    (hv : s.vars = []) (hps : ∀ t ∈ f.params.toList, P.readableRec t = true ∧ t < P.types.size) (hW : DataW.Whole enc P f.params.toList s.vars false W args.toList ds [] before) (hA : DataW.TrodAll enc P W 0 (fun _ => true) true f.params.toList args.toList ds before)
    {tb : TypeId} (hres : f.resultTypes.toList = [tb]) (htb : P.underlying tb = some .bool) (hrf : (s.fn H (ds ++ [])).results = [.lit (.bool true)]) (haf : (s.fn H (ds ++ [])).args = ds) (hvf : (s.fn H (ds ++ [])).vars = []) :
    s.post enc P f false fresh handsOn false W args (.bool true) W' := by
  have hlt : ∀ x ∈ before, x.block < W.heap.size := fun x hx => hW.lt x hx
  have hsz : f.resultTypes.size = 1 := by
    have := congrArg List.length hres
    simpa using this
  refine ⟨ds, [], before, [], before, [], hW, ?_, ?_, ?_, hb.frame _, fun h => by cases h⟩
  · rw [hres, hrf, hsz]
    exact trodAll_cons_mk (shut_bool htb true) trodAll_mk0
  · rw [haf]
    exact zkt hl hb hps hA hlt
  · rw [hv, hvf]
    rfl
def zi0 (W : World) : Imm := fun b o => W.cell? ⟨b, o, none⟩
theorem zayb [LoopKit] {P : Program} {κ : Ctx} {f : FuncId} {Ds : List D} {args : List Value} {W : World} {σ' : Store} (hY : isY f = false) (hn : κ.n ≤ W.heap.size) (hK : κ.K W) (hC : ze1 P κ f Ds σ0 (.ret ⟨false, .bool true⟩) σ') (hr : RepL (zi0 W) (fun _ => none) Ds args) :
    Calls P f ⟨args⟩ W fun e W' => e = .returned (.bool true) ∧ Below W.heap.size W W' := by
  refine (((zft hY).1 hC).2 (zi0 W) (fun _ => none) (fun _ => none) W args (fun _ _ h => by cases h) ⟨hn, fun _ _ => rfl, hK⟩ ⟨fun _ _ _ h => h, (fun _ _ h => by cases h), (fun _ _ h => by cases h), (fun _ _ _ h => by cases h), (fun _ _ h => by cases h), (fun _ _ h => by cases h), (fun _ _ h => by cases h)⟩ hr).mono ?_
  rintro e W' ⟨ι', j', own', k1, k2, k3, k4⟩
  cases e with
  | returned v =>
    have hv := k4.1
    simp only [Rep] at hv
    rw [hv]
    exact ⟨rfl, ⟨k2.os, k2.tape, k2.output, k2.size, fun b hb => (k2.block b hb fun _ h => by cases h).1⟩⟩
  | panicked c => exact k4.elim
  | outgrown => exact k4.elim
def zhx (k : RowK) (d : D) (xs : List Int) : Prop := d = .list k (xs.map fun x => .int .i64 x) ∨ (xs = [] ∧ d = .nils)
theorem zm2 {n : Int} (h : (Lit.int .i64 n).wf = true) : -9223372036854775808 ≤ n ∧ n ≤ 9223372036854775807 := by
  have e1 : IntKind.i64.min = -9223372036854775808 := rfl
  have e2 : IntKind.i64.max = 9223372036854775807 := rfl
  simpa [Lit.wf, e1, e2] using h
theorem zmz {W : World} {k : RowK} (hk : k.sz = 1) {b : Nat} : ∀ (xs : List Int) (o : Nat), (∀ i, i < xs.length → W.cell? ⟨b, o + i, none⟩ = some (.int .i64 (xs.getD i 0))) → zb5 (zi0 W) (fun _ => none) k.sz (xs.map fun x => .int .i64 x) b o
  | [], _, _ => by simp [zb5]
  | x :: xs, o, h => by
    simp only [List.map_cons, zb5]
    refine ⟨⟨.int .i64 x, fun i y hy => ?_, by rw [hk]; rfl, by simp [Rep]⟩, zmz hk xs (o + k.sz) fun i hi => ?_⟩
    · cases i with
      | zero =>
        simp [Value.cells] at hy
        subst hy
        have := h 0 (by simp)
        simpa [zi0] using this
      | succ i => simp [Value.cells] at hy
    · have := h (i + 1) (by simpa using hi)
      rw [hk, show o + 1 + i = o + (i + 1) by omega]
      simpa using this
theorem zbib {H : Type} {enc : TypeId × Value → H} {P : Program} {W : World} {t e : TypeId} {v : Value} {d0 : DataW H} {p : List MemPlace} (ht : P.underlying t = some (.slice e)) (he : P.underlying e = some (.int .i64)) (hc : P.cellsOf e = 1) {base : Nat} (hval : Value.okWide P W .any base t v)
    (h : DataW.Trod enc P W 0 (fun _ => true) true t v d0 p) (k : RowK) (hk : k.sz = 1) : ∃ d xs, zhx k d xs ∧ (∀ x ∈ xs, -9223372036854775808 ≤ x ∧ x ≤ 9223372036854775807) ∧ Rep (zi0 W) (fun _ => none) d v := by
  obtain ⟨a0, len, cap, rfl⟩ := okWide_slice ht hval
  obtain ⟨fuel, hf⟩ := h
  rcases open_ints ht he hc hf with ⟨hcs, hx⟩ | ⟨a, len', cap', zs, hcs, _, hl, hm, hz, hx, hcell, hwz⟩
  · simp [Value.cells] at hcs
    obtain ⟨rfl, rfl, rfl⟩ := hcs
    exact ⟨.nils, [], .inr ⟨rfl, rfl⟩, (fun x hx => by cases hx), by simp [Rep]⟩
  · simp [Value.cells] at hcs
    obtain ⟨rfl, rfl, rfl⟩ := hcs
    simp only [if_true] at hz
    have hlen : (zs.take len).length = len := by simp; omega
    refine ⟨.list k ((zs.take len).map fun x => .int .i64 x), zs.take len, .inl rfl, fun x hx => zm2 (hwz x (List.mem_of_mem_take hx)), ?_⟩
    simp only [Rep]
    refine ⟨some a, cap, by rw [List.length_map, hlen], by rw [List.length_map, hlen]; exact hl, hm, ?_⟩
    by_cases h0 : len = 0
    · left; subst h0; simp
    · right
      obtain ⟨b, off, spot⟩ := a
      have hspot : spot = none := by simpa [Addr.add] using World.cell?_spot (hcell 0 (by omega))
      subst hspot
      refine ⟨b, off, rfl, zmz hk _ _ fun i hi => ?_⟩
      rw [hlen] at hi
      have := hcell i (by omega)
      rw [add_plain] at this
      rw [this, List.getD_eq_getElem?_getD, List.getD_eq_getElem?_getD, List.getElem?_take_of_lt hi]
theorem zcrb {H : Type} {enc : TypeId × Value → H} {P : Program} {W : World} {t : TypeId} {v : Value} {d0 : DataW H} {p : List MemPlace} (ht : P.underlying t = some (.int .i64)) {base : Nat} (hval : Value.okWide P W .any base t v)
    (h : DataW.Trod enc P W 0 (fun _ => true) true t v d0 p) : ∃ n, (-9223372036854775808 ≤ n ∧ n ≤ 9223372036854775807) ∧ Rep (zi0 W) (fun _ => none) (.int .i64 n) v := by
  obtain ⟨n, rfl, _, _, hw⟩ := open_int ht hval h
  exact ⟨n, zm2 hw, by simp [Rep]⟩
end Go.Mx
namespace Go.Fu
open Go Go.Mx
def n_32 : FuncId := 4
def n_254 : FuncId := 5
def n_298 : FuncId := 6
def n_481 : FuncId := 7
def n_460 : FuncId := 8
def n_53 : FuncId := 9
def n_304 : FuncId := 10
def n_33 : FuncId := 11
def n_30 : FuncId := 12
def n_80 : FuncId := 13
def n_281 : FuncId := 14
def n_27 : FuncId := 15
def n_69 : FuncId := 16
def n_269 : FuncId := 17
def n_471 : FuncId := 18
def n_429 : FuncId := 19
def n_256 : FuncId := 20
def n_49 : FuncId := 21
def n_50 : FuncId := 22
def n_64 : FuncId := 23
def n_35 : FuncId := 24
def n_17 : FuncId := 25
def n_77 : FuncId := 26
def n_65 : FuncId := 27
def n_480 : FuncId := 28
def n_18 : FuncId := 29
def n_479 : FuncId := 30
def n_475 : FuncId := 31
def n_490 : FuncId := 32
def n_489 : FuncId := 33
def n_492 : FuncId := 34
def n_444 : FuncId := 35
def n_438 : FuncId := 36
def n_301 : FuncId := 37
def n_430 : FuncId := 38
def n_450 : FuncId := 39
def n_75 : FuncId := 40
def n_435 : FuncId := 41
def n_431 : FuncId := 42
def n_253 : FuncId := 43
def n_249 : FuncId := 44
def n_51 : FuncId := 45
def n_76 : FuncId := 46
def n_79 : FuncId := 47
def n_453 : FuncId := 48
def n_41 : FuncId := 49
def n_78 : FuncId := 50
def n_40 : FuncId := 51
def n_270 : FuncId := 52
def n_464 : FuncId := 53
def n_67 : FuncId := 54
def n_25 : FuncId := 55
def n_474 : FuncId := 56
def n_473 : FuncId := 57
def n_476 : FuncId := 58
def n_289 : FuncId := 59
def n_291 : FuncId := 60
def n_21 : FuncId := 61
def n_22 : FuncId := 62
def n_452 : FuncId := 63
def n_445 : FuncId := 64
def n_442 : FuncId := 65
def n_299 : FuncId := 66
def n_449 : FuncId := 67
def n_271 : FuncId := 68
def n_446 : FuncId := 69
def n_447 : FuncId := 70
def n_252 : FuncId := 71
def n_250 : FuncId := 72
def n_451 : FuncId := 73
def n_439 : FuncId := 74
def n_433 : FuncId := 75
def n_440 : FuncId := 76
def n_441 : FuncId := 77
def n_448 : FuncId := 78
def n_494 : FuncId := 79
def n_272 : FuncId := 80
def n_498 : FuncId := 81
def n_506 : FuncId := 82
def n_305 : FuncId := 83
def n_436 : FuncId := 84
def n_251 : FuncId := 85
def n_432 : FuncId := 86
def n_274 : FuncId := 87
def n_486 : FuncId := 88
def n_456 : FuncId := 89
def n_81 : FuncId := 90
def n_454 : FuncId := 91
def n_465 : FuncId := 92
def n_466 : FuncId := 93
def n_66 : FuncId := 94
def n_294 : FuncId := 95
def n_37 : FuncId := 96
def n_31 : FuncId := 97
def n_86 : FuncId := 98
def n_296 : FuncId := 99
def n_20 : FuncId := 100
def n_259 : FuncId := 101
def n_84 : FuncId := 102
def n_293 : FuncId := 103
def n_258 : FuncId := 104
def n_288 : FuncId := 105
def n_443 : FuncId := 106
def n_273 : FuncId := 107
def n_483 : FuncId := 108
def n_482 : FuncId := 109
def n_300 : FuncId := 110
def n_501 : FuncId := 111
def n_437 : FuncId := 112
def n_428 : FuncId := 113
def n_434 : FuncId := 114
def n_495 : FuncId := 115
def n_493 : FuncId := 116
def n_68 : FuncId := 117
def n_488 : FuncId := 118
def n_275 : FuncId := 119
def n_487 : FuncId := 120
def n_458 : FuncId := 121
def n_277 : FuncId := 122
def n_255 : FuncId := 123
def n_459 : FuncId := 124
def n_461 : FuncId := 125
def n_467 : FuncId := 126
def n_82 : FuncId := 127
def n_463 : FuncId := 128
def n_468 : FuncId := 129
def n_36 : FuncId := 130
def n_85 : FuncId := 131
def n_257 : FuncId := 132
def n_285 : FuncId := 133
def n_470 : FuncId := 134
def n_52 : FuncId := 135
def n_297 : FuncId := 136
def n_484 : FuncId := 137
def n_503 : FuncId := 138
def n_268 : FuncId := 139
def n_302 : FuncId := 140
def n_508 : FuncId := 141
def n_491 : FuncId := 142
def n_276 : FuncId := 144
def n_280 : FuncId := 145
def n_286 : FuncId := 146
def n_469 : FuncId := 147
def n_287 : FuncId := 148
def n_282 : FuncId := 149
def n_477 : FuncId := 150
def n_478 : FuncId := 151
def n_472 : FuncId := 152
def n_290 : FuncId := 153
def n_497 : FuncId := 154
def n_485 : FuncId := 155
def n_303 : FuncId := 156
def n_88 : FuncId := 157
def n_261 : FuncId := 158
def n_87 : FuncId := 159
def n_507 : FuncId := 160
def n_505 : FuncId := 161
def n_278 : FuncId := 162
def n_279 : FuncId := 163
def n_462 : FuncId := 164
def n_83 : FuncId := 165
def n_283 : FuncId := 166
def n_284 : FuncId := 167
def n_292 : FuncId := 168
def n_499 : FuncId := 169
def n_502 : FuncId := 170
def n_427 : FuncId := 171
def n_496 : FuncId := 172
def n_455 : FuncId := 173
def n_295 : FuncId := 174
def n_260 : FuncId := 175
def n_504 : FuncId := 176
def n_500 : FuncId := 177
def n_457 : FuncId := 3
def k_265 : RowK := ⟨23, 1, false⟩
def k_266 : RowK := ⟨202, 1, false⟩
def k_72 : RowK := ⟨22, 1, false⟩
def k_267 : RowK := ⟨79, 1, false⟩
def k_45 : RowK := ⟨198, 33, true⟩
def k_73 : RowK := ⟨64, 6, true⟩
def k_28 : RowK := ⟨45, 3, true⟩
def k_19 : RowK := ⟨29, 5, true⟩
def k_29 : RowK := ⟨196, 15, true⟩
def k_74 : RowK := ⟨95, 6, true⟩
def k_23 : RowK := ⟨49, 1, true⟩
theorem k_4 : k_23.sz = 1 := rfl
theorem k_2 : k_23.ag = true := rfl
theorem k_3 : k_23.same k_23 = true := rfl
def k_46 : RowK := ⟨239, 10, true⟩
def k_47 : RowK := ⟨163, 5, true⟩
def k_48 : RowK := ⟨70, 9, true⟩
def k_1 : RowK := ⟨35, 4, true⟩
theorem k_7 : k_1.sz = 4 := rfl
theorem k_5 : k_1.ag = true := rfl
theorem k_6 : k_1.same k_1 = true := rfl
def zza : RowK := ⟨4, 1, false⟩
def k_39 : RowK := ⟨126, 4, true⟩
def k_int : RowK := ⟨3, 1, false⟩
theorem k_10 : k_int.sz = 1 := rfl
theorem k_8 : k_int.ag = false := rfl
theorem k_9 : k_int.same k_int = true := rfl
def k_24 : RowK := ⟨81, 3, true⟩
theorem k_13 : k_24.sz = 3 := rfl
theorem k_11 : k_24.ag = true := rfl
theorem k_12 : k_24.same k_24 = true := rfl
def k_0 : RowK := ⟨9, 1, false⟩
theorem k_16 : k_0.sz = 1 := rfl
theorem k_14 : k_0.ag = false := rfl
theorem k_15 : k_0.same k_0 = true := rfl
def t_int : Nat := 3
def zz4 : Nat := 4
def t_313 : Nat := 9
def t_511 : Nat := 23
def t_308 : Nat := 25
def t_307 : Nat := 26
def t_262 : Nat := 35
def t_510 : Nat := 39
def t_519 : Nat := 43
def t_309 : Nat := 49
def t_516 : Nat := 58
def t_517 : Nat := 64
def t_520 : Nat := 68
def t_54 : Nat := 71
def t_515 : Nat := 75
def t_523 : Nat := 78
def t_513 : Nat := 79
def t_525 : Nat := 81
def t_310 : Nat := 90
def t_518 : Nat := 95
def t_527 : Nat := 98
def t_514 : Nat := 105
def t_70 : Nat := 115
def t_312 : Nat := 137
def t_306 : Nat := 140
def t_522 : Nat := 149
def t_526 : Nat := 154
def t_311 : Nat := 168
def t_524 : Nat := 170
def t_509 : Nat := 201
def t_512 : Nat := 202
end Go.Fu

/-
  What is called with data that hold no place of the store leaves the store: proved at the empty store, it holds at every one. And library functions that only read.
-/
import Derived.Below
import Derived.Test.YtldfbnbckiifeaaGreatDoorMyRun
import Derived.OpenShut
import Derived.Carry
import Derived.ChangeSlices
import Derived.ChangeSame
import Derived.Deep.DeepHandedRow
import Derived.Stop.LaidErr
import Derived.Deep.DeepLaidRun
import Derived.Lib.LaidTab
import Derived.Shelf.Small.Bits
import Derived.Shelf.Strconv.Itoa0
import Derived.Shelf.Strconv.Itoa1
import Derived.Shelf.LaysM
import Derived.Shelf.Strconv.Itoa2
import Derived.Shelf.Strconv.Itoa3
import Derived.Ground.Names2Prog
import Derived.Ground.SlgnProg
import Derived.Test.YtldfbnbckiifeaaGreatDoorProg
set_option linter.unusedSimpArgs false
set_option linter.unusedVariables false
set_option linter.unusedSectionVars false
namespace Go.Mx
open Go
mutual
def noPtr : D → Bool
  | .ptr _ _ => false
  | .arr _ _ _ _ => false
  | .map _ => false
  | .yld _ => false
  | .agg cs => zan cs
  | .tup ds => zan ds
  | .list _ es => zan es
  | .eptr d => noPtr d
  | .fn _ a b => zan a && zan b
  | .iface _ d => noPtr d
  | _ => true
def zan : List D → Bool
  | [] => true
  | d :: l => noPtr d && zan l
end
mutual
theorem Rep.swap {ι : Imm} {j j' : Lay} : ∀ (d : D) (v : Value), noPtr d = true → Rep ι j d v → Rep ι j' d v
  | .undef, _, _, h | .bool _, _, _, h | .int _ _, _, _, h | .str _, _, _, h | .nils, _, _, h | .nilp, _, _, h | .nilfn, _, _, h | .niliface, _, _, h | .empt, _, _, h | .nilmap, _, _, h => by simpa only [Rep] using h
  | .arr _ _ _ _, _, hp, _ | .map _, _, hp, _ | .yld _, _, hp, _ => by simp only [noPtr, Bool.false_eq_true] at hp
  | .junk, _, _, _ => by simp only [Rep]
  | .list sz es, v, hp, h => by
    simp only [noPtr] at hp
    simp only [Rep] at h ⊢
    obtain ⟨a, cap, h1, h2, h3, h4⟩ := h
    refine ⟨a, cap, h1, h2, h3, ?_⟩
    rcases h4 with h4 | ⟨b, o, ha, hr⟩
    · exact .inl h4
    · exact .inr ⟨b, o, ha, zax.swap sz.sz es b o hp hr⟩
  | .agg cs, v, hp, h => by
    simp only [noPtr] at hp
    simp only [Rep] at h ⊢
    obtain ⟨vs, h1, h2, h3⟩ := h
    exact ⟨vs, h1, RepL.swap cs vs hp h2, h3⟩
  | .tup ds, v, hp, h => by
    simp only [noPtr] at hp
    simp only [Rep] at h ⊢
    obtain ⟨vs, h1, h2⟩ := h
    exact ⟨vs, h1, RepL.swap ds vs hp h2⟩
  | .ptr id off, v, hp, h => by simp [noPtr] at hp
  | .eptr d, v, hp, h => by
    simp only [noPtr] at hp
    simp only [Rep] at h ⊢
    obtain ⟨b, o, x, h1, h2, h3⟩ := h
    exact ⟨b, o, x, h1, h2, Rep.swap d x hp h3⟩
  | .fn f first caps, v, hp, h => by
    simp only [noPtr, Bool.and_eq_true] at hp
    simp only [Rep] at h ⊢
    obtain ⟨vf, vc, h1, h2, h3⟩ := h
    exact ⟨vf, vc, h1, RepL.swap first vf hp.1 h2, RepL.swap caps vc hp.2 h3⟩
  | .iface t d, v, hp, h => by
    simp only [noPtr] at hp
    simp only [Rep] at h ⊢
    obtain ⟨x, h1, h2⟩ := h
    exact ⟨x, h1, Rep.swap d x hp h2⟩
theorem RepL.swap {ι : Imm} {j j' : Lay} : ∀ (ds : List D) (vs : List Value), zan ds = true → RepL ι j ds vs → RepL ι j' ds vs
  | [], _, _, h => by simpa only [RepL] using h
  | d :: ds, vs, hp, h => by
    simp only [zan, Bool.and_eq_true] at hp
    simp only [RepL] at h ⊢
    obtain ⟨x, r, h1, h2, h3⟩ := h
    exact ⟨x, r, h1, Rep.swap d x hp.1 h2, RepL.swap ds r hp.2 h3⟩
theorem zax.swap {ι : Imm} {j j' : Lay} (sz : Nat) : ∀ (ds : List D) (b o : Nat), zan ds = true → zax ι j sz ds b o → zax ι j' sz ds b o
  | [], _, _, _, _ => by simp only [zax]
  | d :: ds, b, o, hp, h => by
    simp only [zan, Bool.and_eq_true] at hp
    simp only [zax] at h ⊢
    obtain ⟨⟨x, h1, h2, h3⟩, h4⟩ := h
    exact ⟨⟨x, h1, h2, Rep.swap d x hp.1 h3⟩, zax.swap sz ds b (o + sz) hp.2 h4⟩
end
def σ0 : Store := { objs := [], tys := [], oth := [], next := 0 }
section
variable [LoopKit] {P : Program} {ι : Imm} {j : Lay} {own : Own} {w : World} {σ : Store} {κ : Ctx}
theorem GSim.empty (hG : GSim ι j own σ w) : GSim ι (fun _ => none) (fun _ => none) σ0 w where
  holds := hG.holds
  noimm := fun _ _ h => by cases h
  objs := fun id cs h => by simp [σ0, zb3] at h
  tys := fun id t cs h => by simp [σ0, zb3] at h
  oth := fun id x h => by simp [σ0, zb3] at h
  jlt := fun _ _ h => by cases h
  ownlt := fun _ _ h => by cases h
theorem GSim.onto {ι' : Imm} {j' : Lay} {own' : Own} {σ' : Store} {w' : World} (hG : GSim ι j own σ w) (hG' : GSim ι' j' own' σ' w') (hE : Evo ι (fun _ => none) (fun _ => none) w ι' j' own' w' (fun _ => True)) :
    GSim ι' j own σ w' ∧ Evo ι j own w ι' j own w' (fun _ => True) := by
  have hE2 : Evo ι j own w ι' j own w' (fun _ => False) := ⟨hE.os, hE.tape, hE.output, hE.size, hE.imm, fun _ _ h => h, fun b hb _ => by
    obtain ⟨k1, _, k3⟩ := hE.block b hb (fun t h => by cases h)
    exact ⟨k1, rfl, k3⟩⟩
  refine ⟨hG.evo hE2 hG'.holds (fun b t h hu o => ?_) (fun b t h => Nat.lt_of_lt_of_le (hG.ownlt b t h) hE.size) hG.jlt (fun _ _ _ => ⟨fun h => h, fun _ _ _ _ h => h⟩) (fun _ _ _ h => h), hE2.weaken fun _ h => h.elim⟩
  rw [(hE2.block b (hG.ownlt b t h) (fun _ _ h => h)).2.2 o]
  exact hG.noimm b t h hu o
def Out.clean : Out → Bool
  | .ret c => noPtr c.d
  | .panic d => noPtr d
theorem zp1 {f : FuncId} {ds : List D} {out : Out} {σ' : Store} (hY : isY f = false) (h : zdp P κ f ds σ0 out σ') (hd : zan ds = true) (hc : out.clean = true) (σ : Store) : zdp P κ f ds σ out σ := by
  replace h := (zcz hY).1 h
  refine (zcz hY).2 ⟨h.1, fun ι j own w vs hS hB hG hr => ?_⟩
  refine (h.2 ι (fun _ => none) (fun _ => none) w vs (fun _ _ h => by cases h) ⟨hB.size, fun _ _ => rfl, hB.K⟩ hG.empty (RepL.swap ds vs hd hr)).mono ?_
  rintro e w' ⟨ι', j', own', k1, k2, k3, k4⟩
  obtain ⟨g1, g2⟩ := hG.onto k1 k2
  refine ⟨ι', j, own, g1, g2, hS, ?_⟩
  cases out with
  | ret c =>
    cases e with
    | returned v =>
      simp only at k4 ⊢
      refine ⟨Rep.swap c.d v hc k4.1, fun ho => ?_⟩
      have hF := k4.2 ho
      unfold Fresh at hF ⊢
      cases hp : prin c.d v with
      | none => trivial
      | some p =>
        rw [hp] at hF
        rcases hF with hF | ⟨b, cap, cur, T, f1, f2, f3, f4, f5, f6⟩
        · exact .inl hF
        · have hb : w.heap.size ≤ b := f2.resolve_right (by simp)
          refine .inr ⟨b, cap, cur, T, f1, .inl hb, ?_, f4, f5, f6⟩
          cases ho : own b with
          | none => rfl
          | some t => have := hG.ownlt b t ho; omega
    | panicked chain => exact k4.elim
    | outgrown => exact k4.elim
  | panic d =>
    cases e with
    | returned v => exact k4.elim
    | outgrown => exact k4.elim
    | panicked chain =>
      obtain ⟨v, rfl, hv⟩ := k4
      exact ⟨v, rfl, Rep.swap d v hc hv⟩
theorem zepb {f : FuncId} {ds : List D} {c : D} (hY : isY f = false) (hb : zi0 P f) (h : ∀ ι j own w vs, Base κ own w → GSim ι j own σ w → RepL ι j ds vs → Calls P f ⟨vs⟩ w fun e w' => ∃ v, e = .returned v ∧ RowKit.Below w.heap.size w w' ∧ Rep ι j c v) : zdp P κ f ds σ (.ret ⟨false, c⟩) σ := by
  refine (zcz hY).2 ⟨hb, fun ι j own w vs hS hB hG hr => (h ι j own w vs hB hG hr).mono ?_⟩
  rintro e w' ⟨v, rfl, hx, hv⟩
  have hE : Evo ι j own w ι j own w' (fun _ => False) := ⟨hx.os, hx.tape, hx.output, hx.size, fun _ _ _ h => h, fun _ _ h => h, fun b hb _ => ⟨hx.block b hb, rfl, fun _ => rfl⟩⟩
  refine ⟨ι, j, own, hG.evo hE (fun b o v h => ?_) hG.noimm (fun b t h => Nat.lt_of_lt_of_le (hG.ownlt b t h) hx.size) hG.jlt (fun _ _ _ => ⟨fun h => h, fun _ _ _ _ h => h⟩) (fun _ _ _ h => h), hE.weaken (fun _ h => h.elim), hS, hv, fun h => by cases h⟩
  rw [World.cell?_of_block (w := w) (w' := w') (a := ⟨b, o, none⟩) (hx.block b (zfx hG h))]
  exact hG.holds b o v h
theorem GSim.setObj (hG : GSim ι j own σ w) {id B : Nat} {cs cs' : List Cell} {cur : Array Value} {T : TypeId} {vs' : List Value} {w' : World} (hcs : aget σ.objs id = some cs) (hB : j id = some B) (hown : own B = some (.obj id))
    (hos : w'.os = w.os) (htape : w'.tape = w.tape) (hout : w'.output = w.output) (hsize : w.heap.size ≤ w'.heap.size) (hoth : ∀ b, b ≠ B → w'.heap[b]? = w.heap[b]?) (h0 : w.heap[B]? = some (.cells cur T (0, 0))) (h1 : w'.heap[B]? = some (.cells ⟨vs'⟩ T (0, 0)))
    (hlen : cs'.length ≤ vs'.length) (hcur : vs'.length = cur.size) (hcells : ∀ (i : Nat) (c : Cell), cs'[i]? = some c → ∃ v, vs'[i]? = some v ∧ v.oneCell' = true ∧ zcx ι j own w' (.ocell id i) c v) :
    GSim ι j own { σ with objs := aset σ.objs id cs' } w' ∧ Evo ι j own w ι j own w' (fun t => t = .obj id) := by
  have hE : Evo ι j own w ι j own w' (fun t => t = .obj id) := ⟨hos, htape, hout, hsize, fun _ _ _ h => h, fun _ _ h => h, fun b _ hb => ⟨hoth b (fun e => hb _ (e ▸ hown) rfl), rfl, fun _ => rfl⟩⟩
  refine ⟨⟨fun b o v h => ?_, hG.noimm, fun id' cs2 h => ?_, fun id' t cs2 k1 k2 b hb => ?_, fun id' x h => ?_, hG.jlt, fun b t h => Nat.lt_of_lt_of_le (hG.ownlt b t h) hsize⟩, hE⟩
  · have hne : b ≠ B := fun e => by
      rw [e, hG.noimm B _ hown rfl o] at h
      cases h
    rw [World.cell?_of_block (w := w) (w' := w') (a := ⟨b, o, none⟩) (hoth b hne)]
    exact hG.holds b o v h
  · simp only [zaq] at h
    by_cases hid : id = id'
    · subst hid
      rw [if_pos rfl] at h
      cases h
      exact ⟨B, hB, hown, vs', T, h1, by omega, hcells⟩
    · rw [if_neg hid] at h
      obtain ⟨B2, q1, q2, q3⟩ := hG.objs id' cs2 h
      exact ⟨B2, q1, q2, hE.boxRel q2 (fun h => by cases h; exact hid rfl) (fun _ _ _ _ h => by cases h) q3⟩
  · have hex : ∃ cs0, aget σ.objs id' = some cs0 := by
      simp only [zaq] at k2
      split at k2
      · rename_i hh; subst hh; exact ⟨cs, hcs⟩
      · exact ⟨cs2, k2⟩
    obtain ⟨cs0, hcs0⟩ := hex
    have hty := hG.tys id' t cs0 k1 hcs0 b hb
    by_cases hbB : b = B
    · subst hbB
      obtain ⟨row, hrow, hsz⟩ := hty
      have hrc := hrow
      rw [h0] at hrc
      cases hrc
      refine ⟨_, h1, fun hp => ?_⟩
      obtain ⟨c, e1, e2, e3⟩ := hsz hp
      exact ⟨c, e1, by rw [← e2, ← hcur]; rfl, e3⟩
    · exact hty.keep (hoth b hbB) (fun _ _ h => h)
  · obtain ⟨B2, q1, q2, q3⟩ := hG.oth id' x h
    have hbB : B2 ≠ B := fun e => by
      subst e
      exact q3.notCells h0
    exact ⟨B2, q1, q2, q3.keep (hoth B2 hbB) (fun _ _ _ h => h) (fun _ _ h => h)⟩
end
end Go.Mx
namespace Go.Mx
open Go Go.ChangeShapes Go.WideShapes Go.RowKit
theorem zmc {H : Type} {enc : TypeId × Value → H} {P : Program} (hl : laidOutB P = true) {W W' : World} (hb : Below W.heap.size W W') : ∀ {ts : List TypeId} {vs : List Value} {ds : List (DataW H)} {ps : List MemPlace}, (∀ t ∈ ts, P.readableRec t = true ∧ t < P.types.size) →
    DataW.TrodAll enc P W 0 (fun _ => true) true ts vs ds ps → (∀ x ∈ ps, x.block < W.heap.size) → DataW.TrodAll enc P W' 0 (fun b => decide (b < W.heap.size)) true ts vs ds ps
  | [], vs, ds, ps, _, h, _ => by
    obtain ⟨rfl, rfl, rfl⟩ := trodAll_nil h
    exact trodAll_mk0
  | t :: ts, vs, ds, ps, ht, h, hlt => by
    obtain ⟨v, vs', d, ds', p, q, rfl, rfl, rfl, h1, h2⟩ := trodAll_cons h
    obtain ⟨hr, hs⟩ := ht t (List.mem_cons_self ..)
    exact trodAll_cons_mk (Below.trod hl hr hs h1 hb fun x hx => hlt x (List.mem_append_left _ hx)) (zmc hl hb (fun u hu => ht u (List.mem_cons_of_mem _ hu)) h2 fun x hx => hlt x (List.mem_append_right _ hx))
theorem zelb {H : Type} {enc : TypeId × Value → H} {P : Program} {f : Func} {s : ChangeSpec} {fresh handsOn : Bool} {W W' : World} {args : Array Value} {ds : List (DataW H)} {before : List MemPlace} (hl : laidOutB P = true) (hb : Below W.heap.size W W')
    (hv : s.vars = []) (hps : ∀ t ∈ f.params.toList, P.readableRec t = true ∧ t < P.types.size) (hW : DataW.Whole enc P f.params.toList s.vars false W args.toList ds [] before) (hA : DataW.TrodAll enc P W 0 (fun _ => true) true f.params.toList args.toList ds before)
    {tb : TypeId} (hres : f.resultTypes.toList = [tb]) (htb : P.underlying tb = some .bool) (hrf : (s.fn H (ds ++ [])).results = [.lit (.bool true)]) (haf : (s.fn H (ds ++ [])).args = ds) (hvf : (s.fn H (ds ++ [])).vars = []) :
    s.post enc P f false fresh handsOn false W args (.bool true) W' := by
  have hlt : ∀ x ∈ before, x.block < W.heap.size := fun x hx => hW.lt x hx
  have hsz : f.resultTypes.size = 1 := by
    have := congrArg List.length hres
    simpa using this
  refine ⟨ds, [], before, [], before, [], hW, ?_, ?_, ?_, hb.frame _, fun h => by cases h⟩
  · rw [hres, hrf, hsz]
    exact trodAll_cons_mk (shut_bool htb true) trodAll_mk0
  · rw [haf]
    exact zmc hl hb hps hA hlt
  · rw [hv, hvf]
    rfl
def zkm (W : World) : Imm := fun b o => W.cell? ⟨b, o, none⟩
theorem zgcb [LoopKit] {P : Program} {κ : Ctx} {f : FuncId} {Ds : List D} {args : List Value} {W : World} {σ' : Store} (hY : isY f = false) (hn : κ.n ≤ W.heap.size) (hK : κ.K W) (hC : zdp P κ f Ds σ0 (.ret ⟨false, .bool true⟩) σ') (hr : RepL (zkm W) (fun _ => none) Ds args) :
    Calls P f ⟨args⟩ W fun e W' => e = .returned (.bool true) ∧ Below W.heap.size W W' := by
  refine (((zcz hY).1 hC).2 (zkm W) (fun _ => none) (fun _ => none) W args (fun _ _ h => by cases h) ⟨hn, fun _ _ => rfl, hK⟩ ⟨fun _ _ _ h => h, (fun _ _ h => by cases h), (fun _ _ h => by cases h), (fun _ _ _ h => by cases h), (fun _ _ h => by cases h), (fun _ _ h => by cases h), (fun _ _ h => by cases h)⟩ hr).mono ?_
  rintro e W' ⟨ι', j', own', k1, k2, k3, k4⟩
  cases e with
  | returned v =>
    have hv := k4.1
    simp only [Rep] at hv
    rw [hv]
    exact ⟨rfl, ⟨k2.os, k2.tape, k2.output, k2.size, fun b hb => (k2.block b hb fun _ h => by cases h).1⟩⟩
  | panicked c => exact k4.elim
  | outgrown => exact k4.elim
def zt0 (k : RowK) (d : D) (xs : List Int) : Prop := d = .list k (xs.map fun x => .int .i64 x) ∨ (xs = [] ∧ d = .nils)
theorem zom {n : Int} (h : (Lit.int .i64 n).wf = true) : -9223372036854775808 ≤ n ∧ n ≤ 9223372036854775807 := by
  have e1 : IntKind.i64.min = -9223372036854775808 := rfl
  have e2 : IntKind.i64.max = 9223372036854775807 := rfl
  simpa [Lit.wf, e1, e2] using h
theorem zoj {W : World} {k : RowK} (hk : k.sz = 1) {b : Nat} : ∀ (xs : List Int) (o : Nat), (∀ i, i < xs.length → W.cell? ⟨b, o + i, none⟩ = some (.int .i64 (xs.getD i 0))) → zax (zkm W) (fun _ => none) k.sz (xs.map fun x => .int .i64 x) b o
  | [], _, _ => by simp [zax]
  | x :: xs, o, h => by
    simp only [List.map_cons, zax]
    refine ⟨⟨.int .i64 x, fun i y hy => ?_, by rw [hk]; rfl, by simp [Rep]⟩, zoj hk xs (o + k.sz) fun i hi => ?_⟩
    · cases i with
      | zero =>
        simp [Value.cells] at hy
        subst hy
        have := h 0 (by simp)
        simpa [zkm] using this
      | succ i => simp [Value.cells] at hy
    · have := h (i + 1) (by simpa using hi)
      rw [hk, show o + 1 + i = o + (i + 1) by omega]
      simpa using this
theorem zg4b {H : Type} {enc : TypeId × Value → H} {P : Program} {W : World} {t e : TypeId} {v : Value} {d0 : DataW H} {p : List MemPlace} (ht : P.underlying t = some (.slice e)) (he : P.underlying e = some (.int .i64)) (hc : P.cellsOf e = 1) {base : Nat} (hval : Value.okWide P W .any base t v)
    (h : DataW.Trod enc P W 0 (fun _ => true) true t v d0 p) (k : RowK) (hk : k.sz = 1) : ∃ d xs, zt0 k d xs ∧ (∀ x ∈ xs, -9223372036854775808 ≤ x ∧ x ≤ 9223372036854775807) ∧ Rep (zkm W) (fun _ => none) d v := by
  obtain ⟨a0, len, cap, rfl⟩ := okWide_slice ht hval
  obtain ⟨fuel, hf⟩ := h
  rcases open_ints ht he hc hf with ⟨hcs, hx⟩ | ⟨a, len', cap', zs, hcs, _, hl, hm, hz, hx, hcell, hwz⟩
  · simp [Value.cells] at hcs
    obtain ⟨rfl, rfl, rfl⟩ := hcs
    exact ⟨.nils, [], .inr ⟨rfl, rfl⟩, (fun x hx => by cases hx), by simp [Rep]⟩
  · simp [Value.cells] at hcs
    obtain ⟨rfl, rfl, rfl⟩ := hcs
    simp only [if_true] at hz
    have hlen : (zs.take len).length = len := by simp; omega
    refine ⟨.list k ((zs.take len).map fun x => .int .i64 x), zs.take len, .inl rfl, fun x hx => zom (hwz x (List.mem_of_mem_take hx)), ?_⟩
    simp only [Rep]
    refine ⟨some a, cap, by rw [List.length_map, hlen], by rw [List.length_map, hlen]; exact hl, hm, ?_⟩
    by_cases h0 : len = 0
    · left; subst h0; simp
    · right
      obtain ⟨b, off, spot⟩ := a
      have hspot : spot = none := by simpa [Addr.add] using World.cell?_spot (hcell 0 (by omega))
      subst hspot
      refine ⟨b, off, rfl, zoj hk _ _ fun i hi => ?_⟩
      rw [hlen] at hi
      have := hcell i (by omega)
      rw [add_plain] at this
      rw [this, List.getD_eq_getElem?_getD, List.getD_eq_getElem?_getD, List.getElem?_take_of_lt hi]
theorem zrs {H : Type} {enc : TypeId × Value → H} {P : Program} {W : World} {t : TypeId} {v : Value} {d0 : DataW H} {p : List MemPlace} (ht : P.underlying t = some (.int .i64)) {base : Nat} (hval : Value.okWide P W .any base t v)
    (h : DataW.Trod enc P W 0 (fun _ => true) true t v d0 p) : ∃ n, (-9223372036854775808 ≤ n ∧ n ≤ 9223372036854775807) ∧ Rep (zkm W) (fun _ => none) (.int .i64 n) v := by
  obtain ⟨n, rfl, _, _, hw⟩ := open_int ht hval h
  exact ⟨n, zom hw, by simp [Rep]⟩
end Go.Mx
namespace Go.Proofs
open Go.Shelf
open Go.Lib in
open Go.Lib in
open Go.Lib in
open Go.Lib in
open Go.RowKit Go.Sort Go.Lib in
open Go.RowKit Go.Sort Go.Lib in
open Go.RowKit Go.Sort Go.Lib in
open Go.RowKit Go.Sort Go.Lib in
open Go.RowKit Go.Sort Go.Lib in
def Tryz.laysM171_ren : Go.Shelf.Ren := ⟨fun | 171 => 30 | 243 => 67 | 246 => 118 | 283 => 143 | 284 => 144 | 285 => 145 | 286 => 146 | 129 => 160 | 317 => 159 | 318 => 161 | 319 => 162 | 320 => 163 | 337 => 177 | 338 => 178 | n => n, fun | 3 => 3 | 9 => 9 | 2 => 2 | 4 => 4 | 171 => 182 | 0 => 0 | 53 => 183 | 37 => 68 | 5 => 5 | 173 => 186 | 212 => 199 | 51 => 200 | 20 => 20 | 213 => 201 | 46 => 191 | 232 => 230 | 233 => 231 | n => n, fun | 17 => 0 | 18 => 1 | 19 => 2 | n => n⟩
theorem Tryz.laysM171 : Go.Proofs.LaysM.n171 Tryz.prog Tryz.laysM171_ren := {
  mixed := by kernel_rfl
  f129 := Tryz.func160.trans (congrArg some (by kernel_rfl))
  f171 := Tryz.func30.trans (congrArg some (by kernel_rfl))
  f243 := Tryz.func67.trans (congrArg some (by kernel_rfl))
  f246 := Tryz.func118.trans (congrArg some (by kernel_rfl))
  f283 := Tryz.func143.trans (congrArg some (by kernel_rfl))
  f284 := Tryz.func144.trans (congrArg some (by kernel_rfl))
  f285 := Tryz.func145.trans (congrArg some (by kernel_rfl))
  f286 := Tryz.func146.trans (congrArg some (by kernel_rfl))
  f317 := Tryz.func159.trans (congrArg some (by kernel_rfl))
  f318 := Tryz.func161.trans (congrArg some (by kernel_rfl))
  f319 := Tryz.func162.trans (congrArg some (by kernel_rfl))
  f320 := Tryz.func163.trans (congrArg some (by kernel_rfl))
  f337 := Tryz.func177.trans (congrArg some (by kernel_rfl))
  f338 := Tryz.func178.trans (congrArg some (by kernel_rfl))
  t0 := Tryz.underlying0
  a0 := Tryz.isAgg0
  z0 := Tryz.sizeOf0
  v0 := Tryz.zeroValue0
  t2 := Tryz.underlying2
  a2 := Tryz.isAgg2
  z2 := Tryz.sizeOf2
  v2 := Tryz.zeroValue2
  t3 := Tryz.underlying3
  a3 := Tryz.isAgg3
  z3 := Tryz.sizeOf3
  v3 := Tryz.zeroValue3
  t4 := Tryz.underlying4
  a4 := Tryz.isAgg4
  z4 := Tryz.sizeOf4
  v4 := Tryz.zeroValue4
  t5 := Tryz.underlying5
  a5 := Tryz.isAgg5
  z5 := Tryz.sizeOf5
  v5 := Tryz.zeroValue5
  t9 := Tryz.underlying9
  a9 := Tryz.isAgg9
  z9 := Tryz.sizeOf9
  v9 := Tryz.zeroValue9
  t20 := Tryz.underlying20
  a20 := Tryz.isAgg20
  z20 := Tryz.sizeOf20
  v20 := Tryz.zeroValue20
  t37 := Tryz.underlying68
  a37 := Tryz.isAgg68
  z37 := Tryz.sizeOf68
  v37 := Tryz.zeroValue68
  t46 := Tryz.underlying191
  a46 := Tryz.isAgg191
  z46 := Tryz.sizeOf191
  v46 := Tryz.zeroValue191
  t51 := Tryz.underlying200
  a51 := Tryz.isAgg200
  z51 := Tryz.sizeOf200
  v51 := Tryz.zeroValue200
  t53 := Tryz.underlying183
  a53 := Tryz.isAgg183
  z53 := Tryz.sizeOf183
  v53 := Tryz.zeroValue183
  t171 := Tryz.underlying182
  a171 := Tryz.isAgg182
  z171 := Tryz.sizeOf182
  v171 := Tryz.zeroValue182
  t173 := Tryz.underlying186
  a173 := Tryz.isAgg186
  z173 := Tryz.sizeOf186
  v173 := Tryz.zeroValue186
  t212 := Tryz.underlying199
  a212 := Tryz.isAgg199
  z212 := Tryz.sizeOf199
  v212 := Tryz.zeroValue199
  t213 := Tryz.underlying201
  a213 := Tryz.isAgg201
  z213 := Tryz.sizeOf201
  t232 := Tryz.underlying230
  a232 := Tryz.isAgg230
  z232 := Tryz.sizeOf230
  v232 := Tryz.zeroValue230
  t233 := Tryz.underlying231
  a233 := Tryz.isAgg231
  z233 := Tryz.sizeOf231
  v233 := Tryz.zeroValue231
  g17 := by kernel_rfl
  g18 := by kernel_rfl
  g19 := by kernel_rfl
  i0 := by kernel_rfl
  i2 := by kernel_rfl
  i3 := by kernel_rfl
  i4 := by kernel_rfl
  i5 := by kernel_rfl
  i9 := by kernel_rfl
  i20 := by kernel_rfl
  i37 := by kernel_rfl
  i46 := by kernel_rfl
  i51 := by kernel_rfl
  i53 := by kernel_rfl
  i171 := by kernel_rfl
  i173 := by kernel_rfl
  i212 := by kernel_rfl
  i232 := by kernel_rfl
  i233 := by kernel_rfl
  m17 := by kernel_rfl
  m18 := by kernel_rfl
  m19 := by kernel_rfl }
open Go.RowKit Go.Sort Go.Lib in
theorem Tryz.strconv_Itoa (n : Int) (h0 : -9223372036854775808 ≤ n) (h1 : n ≤ 9223372036854775807) (w : World) (htab : Lib.TabIs Tryz.prog w "internal/strconv.uint64pow10" .u64 Lib.pow10Tab) :
    Calls Tryz.prog 30 #[.int .i64 n] w fun e w' => e = .returned (.string ⟨(Lib.itoa n).toArray⟩) ∧ ∃ k os, w' = grow (w.drewN k) os := Any.strconv_Itoa Tryz.laysM171 n h0 h1 w htab
end Go.Proofs
namespace Go.Fu
open Go Go.Mx
def n_152 : FuncId := 9
def n_24 : FuncId := 10
def n_153 : FuncId := 11
def n_69 : FuncId := 12
def n_116 : FuncId := 13
def n_154 : FuncId := 14
def n_118 : FuncId := 15
def n_225 : FuncId := 17
def n_271 : FuncId := 19
def n_119 : FuncId := 22
def n_36 : FuncId := 23
def n_10 : FuncId := 24
def n_59 : FuncId := 25
def n_17 : FuncId := 26
def n_8 : FuncId := 27
def n_2 : FuncId := 28
def n_49 : FuncId := 29
def n_32 : FuncId := 30
def n_117 : FuncId := 31
def n_155 : FuncId := 32
def n_64 : FuncId := 33
def n_16 : FuncId := 34
def n_107 : FuncId := 35
def n_25 : FuncId := 36
def n_38 : FuncId := 37
def n_287 : FuncId := 39
def n_268 : FuncId := 40
def n_269 : FuncId := 41
def n_40 : FuncId := 42
def n_270 : FuncId := 43
def n_284 : FuncId := 44
def n_151 : FuncId := 45
def n_229 : FuncId := 46
def n_315 : FuncId := 47
def n_295 : FuncId := 48
def n_48 : FuncId := 49
def n_227 : FuncId := 50
def n_272 : FuncId := 51
def n_123 : FuncId := 53
def n_62 : FuncId := 54
def n_60 : FuncId := 55
def n_63 : FuncId := 56
def n_22 : FuncId := 57
def n_39 : FuncId := 58
def n_4 : FuncId := 59
def n_5 : FuncId := 60
def n_7 : FuncId := 61
def n_11 : FuncId := 62
def n_70 : FuncId := 63
def n_106 : FuncId := 64
def n_120 : FuncId := 65
def n_26 : FuncId := 66
def n_108 : FuncId := 70
def n_285 : FuncId := 71
def n_280 : FuncId := 72
def n_286 : FuncId := 73
def n_283 : FuncId := 74
def n_323 : FuncId := 75
def n_324 : FuncId := 76
def n_314 : FuncId := 77
def n_228 : FuncId := 78
def n_319 : FuncId := 79
def n_318 : FuncId := 80
def n_296 : FuncId := 81
def n_230 : FuncId := 82
def n_297 : FuncId := 83
def n_149 : FuncId := 84
def n_289 : FuncId := 85
def n_293 : FuncId := 86
def n_298 : FuncId := 87
def n_158 : FuncId := 88
def n_156 : FuncId := 89
def n_160 : FuncId := 90
def n_299 : FuncId := 91
def n_300 : FuncId := 92
def n_301 : FuncId := 93
def n_302 : FuncId := 95
def n_303 : FuncId := 96
def n_291 : FuncId := 97
def n_124 : FuncId := 98
def n_288 : FuncId := 99
def n_281 : FuncId := 100
def n_150 : FuncId := 101
def n_321 : FuncId := 102
def n_278 : FuncId := 103
def n_273 : FuncId := 104
def n_157 : FuncId := 105
def n_21 : FuncId := 106
def n_159 : FuncId := 107
def n_31 : FuncId := 108
def n_61 : FuncId := 109
def n_30 : FuncId := 110
def n_37 : FuncId := 111
def n_121 : FuncId := 112
def n_15 : FuncId := 113
def n_71 : FuncId := 114
def n_72 : FuncId := 115
def n_105 : FuncId := 116
def n_313 : FuncId := 119
def n_322 : FuncId := 120
def n_325 : FuncId := 121
def n_320 : FuncId := 122
def n_317 : FuncId := 123
def n_290 : FuncId := 124
def n_292 : FuncId := 125
def n_316 : FuncId := 126
def n_282 : FuncId := 127
def n_266 : FuncId := 128
def n_267 : FuncId := 129
def n_294 : FuncId := 130
def n_311 : FuncId := 131
def n_312 : FuncId := 132
def n_310 : FuncId := 133
def n_305 : FuncId := 134
def n_279 : FuncId := 135
def n_226 : FuncId := 136
def n_274 : FuncId := 137
def n_276 : FuncId := 138
def n_277 : FuncId := 139
def n_275 : FuncId := 140
def n_148 : FuncId := 141
def n_122 : FuncId := 142
def n_309 : FuncId := 147
def n_161 : FuncId := 148
def n_306 : FuncId := 149
def n_308 : FuncId := 160
def n_329 : FuncId := 164
def n_328 : FuncId := 165
def n_326 : FuncId := 166
def n_327 : FuncId := 167
def n_333 : FuncId := 168
def n_330 : FuncId := 169
def n_224 : FuncId := 170
def n_331 : FuncId := 171
def n_332 : FuncId := 172
def n_307 : FuncId := 173
def n_304 : FuncId := 3
def k_47 : RowK := ⟨39, 1, false⟩
def k_19 : RowK := ⟨90, 14, true⟩
def k_20 : RowK := ⟨92, 15, true⟩
def k_3 : RowK := ⟨52, 3, true⟩
def k_6 : RowK := ⟨47, 10, true⟩
def k_104 : RowK := ⟨57, 8, true⟩
def k_0 : RowK := ⟨59, 4, true⟩
def k_9 : RowK := ⟨49, 12, true⟩
def k_147 : RowK := ⟨42, 4, true⟩
def zp5 : RowK := ⟨1, 1, false⟩
def k_int : RowK := ⟨3, 1, false⟩
def k_1 : RowK := ⟨9, 1, false⟩
def k_12 : RowK := ⟨5, 1, false⟩
def t_233 : Nat := 9
def t_335 : Nat := 22
def t_231 : Nat := 27
def t_334 : Nat := 29
def t_125 : Nat := 39
def t_337 : Nat := 49
def t_336 : Nat := 59
def t_13 : Nat := 70
def t_162 : Nat := 93
def t_163 : Nat := 94
def t_232 : Nat := 96
def t_338 : Nat := 132
def t_339 : Nat := 143
def t_340 : Nat := 149
def rg (o : List AOper) (c : List Nat) : ACode := .region o none c
def sq (o : List AOper) (c : List Nat) (x : ACode) : ACode := .seq (.region o none c) x
def ml (s t : Nat) : AOper := ⟨some s, .load none false (.tmp t), none⟩
def mf (s k t : Nat) : AOper := ⟨some s, .fieldAddr k none (.tmp t), none⟩
def ci (n : Int) : AOpd := .const (.int .i64 n)
end Go.Fu

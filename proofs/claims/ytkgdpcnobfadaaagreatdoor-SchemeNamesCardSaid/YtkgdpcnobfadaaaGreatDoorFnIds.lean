/-
  From what the machine answers to a law's row: the arguments read as the machine's data, all memory there is is read alone; behind the call it stands as it stood.
-/
import Derived.OpenShut
import Derived.Carry
import Derived.ChangeSlices
import Derived.ChangeSame
import Derived.Deep.DeepHandedRow
import Derived.Stop.LaidErr
import Derived.Deep.DeepLaidRun
import Derived.Lib.LaidTab
import Derived.Test.YtkgdpcnobfadaaaGreatDoorMzFrame
set_option linter.unusedSimpArgs false
set_option linter.unusedVariables false
namespace Go.Mx
open Go Go.ChangeShapes Go.WideShapes Go.RowKit
theorem zkm {H : Type} {enc : TypeId × Value → H} {P : Program} (hl : laidOutB P = true) {W W' : World} (hb : Below W.heap.size W W') : ∀ {ts : List TypeId} {vs : List Value} {ds : List (DataW H)} {ps : List MemPlace}, (∀ t ∈ ts, P.readableRec t = true ∧ t < P.types.size) →
    DataW.TrodAll enc P W 0 (fun _ => true) true ts vs ds ps → (∀ x ∈ ps, x.block < W.heap.size) → DataW.TrodAll enc P W' 0 (fun b => decide (b < W.heap.size)) true ts vs ds ps
  | [], vs, ds, ps, _, h, _ => by
    obtain ⟨rfl, rfl, rfl⟩ := trodAll_nil h
    exact trodAll_mk0
  | t :: ts, vs, ds, ps, ht, h, hlt => by
    obtain ⟨v, vs', d, ds', p, q, rfl, rfl, rfl, h1, h2⟩ := trodAll_cons h
    obtain ⟨hr, hs⟩ := ht t (List.mem_cons_self ..)
    exact trodAll_cons_mk (Below.trod hl hr hs h1 hb fun x hx => hlt x (List.mem_append_left _ hx)) (zkm hl hb (fun u hu => ht u (List.mem_cons_of_mem _ hu)) h2 fun x hx => hlt x (List.mem_append_right _ hx))
theorem zbbb {H : Type} {enc : TypeId × Value → H} {P : Program} {f : Func} {s : ChangeSpec} {fresh handsOn : Bool} {W W' : World} {args : Array Value} {ds : List (DataW H)} {before : List MemPlace} (hl : laidOutB P = true) (hb : Below W.heap.size W W')
    (hv : s.vars = []) (hps : ∀ t ∈ f.params.toList, P.readableRec t = true ∧ t < P.types.size) (hW : DataW.Whole enc P f.params.toList s.vars false W args.toList ds [] before) (hA : DataW.TrodAll enc P W 0 (fun _ => true) true f.params.toList args.toList ds before)
    {tb : TypeId} (hres : f.resultTypes.toList = [tb]) (htb : P.underlying tb = some .bool) (hrf : (s.fn H (ds ++ [])).results = [.lit (.bool true)]) (haf : (s.fn H (ds ++ [])).args = ds) (hvf : (s.fn H (ds ++ [])).vars = []) :
    s.post enc P f false fresh handsOn false W args (.bool true) W' := by
  have hlt : ∀ x ∈ before, x.block < W.heap.size := fun x hx => hW.lt x hx
  have hsz : f.resultTypes.size = 1 := by
    have := congrArg List.length hres
    simpa using this
  refine ⟨ds, [], before, [], before, [], hW, ?_, ?_, ?_, hb.frame _, fun h => by cases h⟩
  · rw [hres, hrf, hsz]
    exact trodAll_cons_mk (shut_bool htb true) trodAll_mk0
  · rw [haf]
    exact zkm hl hb hps hA hlt
  · rw [hv, hvf]
    rfl
def ziu (W : World) : Imm := fun b o => W.cell? ⟨b, o, none⟩
theorem zdyb {P : Program} {κ : Ctx} {f : FuncId} {Ds : List D} {args : List Value} {W : World} {σ' : Store} (hn : κ.n ≤ W.heap.size) (hK : κ.K W) (hC : zeo P κ f Ds σ0 (.ret ⟨false, .bool true⟩) σ') (hr : RepL (ziu W) (fun _ => none) Ds args) :
    Calls P f ⟨args⟩ W fun e W' => e = .returned (.bool true) ∧ Below W.heap.size W W' := by
  refine (hC.2 (ziu W) (fun _ => none) (fun _ => none) W args (fun _ _ h => by cases h) ⟨hn, fun _ _ => rfl, hK⟩ ⟨fun _ _ _ h => h, (fun _ _ h => by cases h), (fun _ _ h => by cases h), (fun _ _ _ h => by cases h), (fun _ _ h => by cases h), (fun _ _ h => by cases h), (fun _ _ h => by cases h)⟩ hr).mono ?_
  rintro e W' ⟨ι', j', own', k1, k2, k3, k4⟩
  cases e with
  | returned v =>
    have hv := k4.1
    simp only [Rep] at hv
    rw [hv]
    exact ⟨rfl, ⟨k2.os, k2.tape, k2.output, k2.size, fun b hb => (k2.block b hb fun _ h => by cases h).1⟩⟩
  | panicked c => exact k4.elim
  | outgrown => exact k4.elim
def zy9 (k : RowK) (d : D) (xs : List Int) : Prop := d = .list k (xs.map fun x => .int .i64 x) ∨ (xs = [] ∧ d = .nils)
theorem zms {n : Int} (h : (Lit.int .i64 n).wf = true) : -9223372036854775808 ≤ n ∧ n ≤ 9223372036854775807 := by
  have e1 : IntKind.i64.min = -9223372036854775808 := rfl
  have e2 : IntKind.i64.max = 9223372036854775807 := rfl
  simpa [Lit.wf, e1, e2] using h
theorem zmo {W : World} {k : RowK} (hk : k.sz = 1) {b : Nat} : ∀ (xs : List Int) (o : Nat), (∀ i, i < xs.length → W.cell? ⟨b, o + i, none⟩ = some (.int .i64 (xs.getD i 0))) → zat (ziu W) (fun _ => none) k.sz (xs.map fun x => .int .i64 x) b o
  | [], _, _ => by simp [zat]
  | x :: xs, o, h => by
    simp only [List.map_cons, zat]
    refine ⟨⟨.int .i64 x, fun i y hy => ?_, by rw [hk]; rfl, by simp [Rep]⟩, zmo hk xs (o + k.sz) fun i hi => ?_⟩
    · cases i with
      | zero =>
        simp [Value.cells] at hy
        subst hy
        have := h 0 (by simp)
        simpa [ziu] using this
      | succ i => simp [Value.cells] at hy
    · have := h (i + 1) (by simpa using hi)
      rw [hk, show o + 1 + i = o + (i + 1) by omega]
      simpa using this
theorem zsw {H : Type} {enc : TypeId × Value → H} {P : Program} {W : World} {t e : TypeId} {v : Value} {d0 : DataW H} {p : List MemPlace} (ht : P.underlying t = some (.slice e)) (he : P.underlying e = some (.int .i64)) (hc : P.cellsOf e = 1) {base : Nat} (hval : Value.okWide P W .any base t v)
    (h : DataW.Trod enc P W 0 (fun _ => true) true t v d0 p) (k : RowK) (hk : k.sz = 1) : ∃ d xs, zy9 k d xs ∧ (∀ x ∈ xs, -9223372036854775808 ≤ x ∧ x ≤ 9223372036854775807) ∧ Rep (ziu W) (fun _ => none) d v := by
  obtain ⟨a0, len, cap, rfl⟩ := okWide_slice ht hval
  obtain ⟨fuel, hf⟩ := h
  rcases open_ints ht he hc hf with ⟨hcs, hx⟩ | ⟨a, len', cap', zs, hcs, _, hl, hm, hz, hx, hcell, hwz⟩
  · simp [Value.cells] at hcs
    obtain ⟨rfl, rfl, rfl⟩ := hcs
    exact ⟨.nils, [], .inr ⟨rfl, rfl⟩, (fun x hx => by cases hx), by simp [Rep]⟩
  · simp [Value.cells] at hcs
    obtain ⟨rfl, rfl, rfl⟩ := hcs
    simp only [if_true] at hz
    have hlen : (zs.take len).length = len := by simp; omega
    refine ⟨.list k ((zs.take len).map fun x => .int .i64 x), zs.take len, .inl rfl, fun x hx => zms (hwz x (List.mem_of_mem_take hx)), ?_⟩
    simp only [Rep]
    refine ⟨some a, cap, by rw [List.length_map, hlen], by rw [List.length_map, hlen]; exact hl, hm, ?_⟩
    by_cases h0 : len = 0
    · left; subst h0; simp
    · right
      obtain ⟨b, off, spot⟩ := a
      have hspot : spot = none := by simpa [Addr.add] using World.cell?_spot (hcell 0 (by omega))
      subst hspot
      refine ⟨b, off, rfl, zmo hk _ _ fun i hi => ?_⟩
      rw [hlen] at hi
      have := hcell i (by omega)
      rw [add_plain] at this
      rw [this, List.getD_eq_getElem?_getD, List.getD_eq_getElem?_getD, List.getElem?_take_of_lt hi]
theorem zhdb {H : Type} {enc : TypeId × Value → H} {P : Program} {W : World} {t : TypeId} {v : Value} {d0 : DataW H} {p : List MemPlace} (ht : P.underlying t = some (.int .i64)) {base : Nat} (hval : Value.okWide P W .any base t v)
    (h : DataW.Trod enc P W 0 (fun _ => true) true t v d0 p) : ∃ n, (-9223372036854775808 ≤ n ∧ n ≤ 9223372036854775807) ∧ Rep (ziu W) (fun _ => none) (.int .i64 n) v := by
  obtain ⟨n, rfl, _, _, hw⟩ := open_int ht hval h
  exact ⟨n, zms hw, by simp [Rep]⟩
end Go.Mx
namespace Go.Fu
open Go Go.Mx
def n_181 : FuncId := 9
def n_5 : FuncId := 11
def n_94 : FuncId := 14
def n_202 : FuncId := 15
def n_182 : FuncId := 16
def n_52 : FuncId := 17
def n_40 : FuncId := 18
def n_204 : FuncId := 19
def n_197 : FuncId := 20
def n_196 : FuncId := 21
def n_113 : FuncId := 22
def n_183 : FuncId := 23
def n_203 : FuncId := 24
def n_41 : FuncId := 25
def n_235 : FuncId := 34
def n_180 : FuncId := 37
def n_179 : FuncId := 38
def n_178 : FuncId := 39
def n_110 : FuncId := 40
def n_207 : FuncId := 42
def n_165 : FuncId := 44
def n_200 : FuncId := 45
def n_61 : FuncId := 46
def n_164 : FuncId := 47
def n_32 : FuncId := 48
def n_198 : FuncId := 49
def n_42 : FuncId := 50
def n_238 : FuncId := 51
def n_237 : FuncId := 52
def n_186 : FuncId := 53
def n_31 : FuncId := 54
def n_67 : FuncId := 55
def n_185 : FuncId := 56
def n_62 : FuncId := 57
def n_15 : FuncId := 58
def n_209 : FuncId := 59
def n_208 : FuncId := 60
def n_211 : FuncId := 61
def n_199 : FuncId := 62
def n_234 : FuncId := 63
def n_206 : FuncId := 64
def n_114 : FuncId := 65
def n_205 : FuncId := 66
def n_236 : FuncId := 67
def n_64 : FuncId := 68
def n_168 : FuncId := 69
def n_95 : FuncId := 70
def n_166 : FuncId := 71
def n_53 : FuncId := 72
def n_55 : FuncId := 87
def n_9 : FuncId := 91
def n_109 : FuncId := 92
def n_201 : FuncId := 93
def n_13 : FuncId := 94
def n_8 : FuncId := 95
def n_163 : FuncId := 96
def n_112 : FuncId := 97
def n_33 : FuncId := 98
def n_116 : FuncId := 99
def n_16 : FuncId := 100
def n_97 : FuncId := 101
def n_98 : FuncId := 102
def n_65 : FuncId := 103
def n_195 : FuncId := 104
def n_176 : FuncId := 105
def n_100 : FuncId := 106
def n_66 : FuncId := 107
def n_96 : FuncId := 108
def n_21 : FuncId := 109
def n_10 : FuncId := 110
def n_63 : FuncId := 111
def n_108 : FuncId := 112
def n_184 : FuncId := 114
def n_239 : FuncId := 130
def n_24 : FuncId := 133
def n_93 : FuncId := 134
def n_111 : FuncId := 135
def n_99 : FuncId := 136
def n_187 : FuncId := 137
def n_54 : FuncId := 138
def n_177 : FuncId := 140
def n_188 : FuncId := 141
def n_167 : FuncId := 142
def n_115 : FuncId := 143
def n_210 : FuncId := 144
def n_233 : FuncId := 4
def k_4 : RowK := ⟨77, 1, true⟩
theorem k_220 : k_4.sz = 1 := rfl
theorem k_218 : k_4.ag = true := rfl
theorem k_219 : k_4.same k_4 = true := rfl
def k_1 : RowK := ⟨88, 5, true⟩
theorem k_92 : k_1.sz = 5 := rfl
theorem k_221 : k_1.ag = true := rfl
theorem k_222 : k_1.same k_1 = true := rfl
def k_3 : RowK := ⟨28, 4, true⟩
theorem k_225 : k_3.sz = 4 := rfl
theorem k_223 : k_3.ag = true := rfl
theorem k_224 : k_3.same k_3 = true := rfl
def k_int : RowK := ⟨3, 1, false⟩
theorem k_175 : k_int.sz = 1 := rfl
theorem k_226 : k_int.ag = false := rfl
theorem k_227 : k_int.same k_int = true := rfl
def k_0 : RowK := ⟨9, 1, false⟩
theorem k_60 : k_0.sz = 1 := rfl
theorem k_228 : k_0.ag = false := rfl
theorem k_229 : k_0.same k_0 = true := rfl
def k_11 : RowK := ⟨5, 1, false⟩
theorem k_232 : k_11.sz = 1 := rfl
theorem k_230 : k_11.ag = false := rfl
theorem k_231 : k_11.same k_11 = true := rfl
def t_212 : Nat := 9
def t_117 : Nat := 30
def t_169 : Nat := 102
def t_170 : Nat := 105
def t_6 : Nat := 153
end Go.Fu

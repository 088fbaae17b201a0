/-
  From what the machine answers to a law's row: the arguments read az the machine's data, all memory there is is read alone; behind the call it stands az it stood.
-/
import Derived.OpenShut
import Derived.Carry
import Derived.ChangeSlices
import Derived.ChangeSame
import Derived.Deep.DeepHandedRow
import Derived.Stop.LaidErr
import Derived.Deep.DeepLaidRun
import Derived.Lib.LaidTab
import Derived.Test.YtmhedpkbfaginaaGreatDoorMyFrame
set_option linter.unusedSimpArgs false
set_option linter.unusedVariables false
set_option linter.unusedSectionVars false
namespace Go.Mx
open Go Go.ChangeShapes Go.WideShapes Go.RowKit
theorem trodAll_below {H : Type} {enc : TypeId × Value → H} {P : Program} (hl : laidOutB P = true) {W W' : World} (hb : Below W.heap.size W W') : ∀ {ts : List TypeId} {vs : List Value} {ds : List (DataW H)} {ps : List MemPlace}, (∀ t ∈ ts, P.readableRec t = true ∧ t < P.types.size) →
    DataW.TrodAll enc P W 0 (fun _ => true) true ts vs ds ps → (∀ x ∈ ps, x.block < W.heap.size) → DataW.TrodAll enc P W' 0 (fun b => decide (b < W.heap.size)) true ts vs ds ps
  | [], vs, ds, ps, _, h, _ => by
    obtain ⟨rfl, rfl, rfl⟩ := trodAll_nil h
    exact trodAll_mk0
  | t :: ts, vs, ds, ps, ht, h, hlt => by
    obtain ⟨v, vs', d, ds', p, q, rfl, rfl, rfl, h1, h2⟩ := trodAll_cons h
    obtain ⟨hr, hs⟩ := ht t (List.mem_cons_self ..)
    exact trodAll_cons_mk (Below.trod hl hr hs h1 hb fun x hx => hlt x (List.mem_append_left _ hx)) (trodAll_below hl hb (fun u hu => ht u (List.mem_cons_of_mem _ hu)) h2 fun x hx => hlt x (List.mem_append_right _ hx))
theorem post_true {H : Type} {enc : TypeId × Value → H} {P : Program} {f : Func} {s : ChangeSpec} {fresh handsOn : Bool} {W W' : World} {args : Array Value} {ds : List (DataW H)} {before : List MemPlace} (hl : laidOutB P = true) (hb : Below W.heap.size W W')
    (hv : s.vars = []) (hps : ∀ t ∈ f.params.toList, P.readableRec t = true ∧ t < P.types.size) (hW : DataW.Whole enc P f.params.toList s.vars false W args.toList ds [] before) (hA : DataW.TrodAll enc P W 0 (fun _ => true) true f.params.toList args.toList ds before)
    {tb : TypeId} (hres : f.resultTypes.toList = [tb]) (htb : P.underlying tb = some .bool) (hrf : (s.fn H (ds ++ [])).results = [.lit (.bool true)]) (haf : (s.fn H (ds ++ [])).args = ds) (hvf : (s.fn H (ds ++ [])).vars = []) :
    s.post enc P f false fresh handsOn false W args (.bool true) W' := by
  have hlt : ∀ x ∈ before, x.block < W.heap.size := fun x hx => hW.lt x hx
  have hsz : f.resultTypes.size = 1 := by
    have := congrArg List.length hres
    simpa using this
  refine ⟨ds, [], before, [], before, [], hW, ?_, ?_, ?_, hb.frame _, fun h => by cases h⟩
  · rw [hres, hrf, hsz]
    exact trodAll_cons_mk (shut_bool htb true) trodAll_mk0
  · rw [haf]
    exact trodAll_below hl hb hps hA hlt
  · rw [hv, hvf]
    rfl
def allImm (W : World) : Imm := fun b o => W.cell? ⟨b, o, none⟩
theorem law_call [LoopKit] {P : Program} {κ : Ctx} {f : FuncId} {Ds : List D} {args : List Value} {W : World} {σ' : Store} (hY : isY f = false) (hn : κ.n ≤ W.heap.size) (hK : κ.K W) (hC : CallOK P κ f Ds σ0 (.ret ⟨false, .bool true⟩) σ') (hr : RepL (allImm W) (fun _ => none) Ds args) :
    Calls P f ⟨args⟩ W fun e W' => e = .returned (.bool true) ∧ Below W.heap.size W W' := by
  refine (((callOK_fn hY).1 hC).2 (allImm W) (fun _ => none) (fun _ => none) W args (fun _ _ h => by cases h) ⟨hn, fun _ _ => rfl, hK⟩ ⟨fun _ _ _ h => h, (fun _ _ h => by cases h), (fun _ _ h => by cases h), (fun _ _ _ h => by cases h), (fun _ _ h => by cases h), (fun _ _ h => by cases h), (fun _ _ h => by cases h)⟩ hr).mono ?_
  rintro e W' ⟨ι', j', own', k1, k2, k3, k4⟩
  cases e with
  | returned v =>
    have hv := k4.1
    simp only [Rep] at hv
    rw [hv]
    exact ⟨rfl, ⟨k2.os, k2.tape, k2.output, k2.size, fun b hb => (k2.block b hb fun _ h => by cases h).1⟩⟩
  | panicked c => exact k4.elim
  | outgrown => exact k4.elim
def IntRow (k : RowK) (d : D) (xs : List Int) : Prop := d = .list k (xs.map fun x => .int .i64 x) ∨ (xs = [] ∧ d = .nils)
theorem small_of_wf {n : Int} (h : (Lit.int .i64 n).wf = true) : -9223372036854775808 ≤ n ∧ n ≤ 9223372036854775807 := by
  have e1 : IntKind.i64.min = -9223372036854775808 := rfl
  have e2 : IntKind.i64.max = 9223372036854775807 := rfl
  simpa [Lit.wf, e1, e2] using h
theorem repRow_ints {W : World} {k : RowK} (hk : k.sz = 1) {b : Nat} : ∀ (xs : List Int) (o : Nat), (∀ i, i < xs.length → W.cell? ⟨b, o + i, none⟩ = some (.int .i64 (xs.getD i 0))) → RepRow (allImm W) (fun _ => none) k.sz (xs.map fun x => .int .i64 x) b o
  | [], _, _ => by simp [RepRow]
  | x :: xs, o, h => by
    simp only [List.map_cons, RepRow]
    refine ⟨⟨.int .i64 x, fun i y hy => ?_, by rw [hk]; rfl, by simp [Rep]⟩, repRow_ints hk xs (o + k.sz) fun i hi => ?_⟩
    · cases i with
      | zero =>
        simp [Value.cells] at hy
        subst hy
        have := h 0 (by simp)
        simpa [allImm] using this
      | succ i => simp [Value.cells] at hy
    · have := h (i + 1) (by simpa using hi)
      rw [hk, show o + 1 + i = o + (i + 1) by omega]
      simpa using this
theorem rep_ints {H : Type} {enc : TypeId × Value → H} {P : Program} {W : World} {t e : TypeId} {v : Value} {d0 : DataW H} {p : List MemPlace} (ht : P.underlying t = some (.slice e)) (he : P.underlying e = some (.int .i64)) (hc : P.cellsOf e = 1) {base : Nat} (hval : Value.okWide P W .any base t v)
    (h : DataW.Trod enc P W 0 (fun _ => true) true t v d0 p) (k : RowK) (hk : k.sz = 1) : ∃ d xs, IntRow k d xs ∧ (∀ x ∈ xs, -9223372036854775808 ≤ x ∧ x ≤ 9223372036854775807) ∧ Rep (allImm W) (fun _ => none) d v := by
  obtain ⟨a0, len, cap, rfl⟩ := okWide_slice ht hval
  obtain ⟨fuel, hf⟩ := h
  rcases open_ints ht he hc hf with ⟨hcs, hx⟩ | ⟨a, len', cap', zs, hcs, _, hl, hm, hz, hx, hcell, hwz⟩
  · simp [Value.cells] at hcs
    obtain ⟨rfl, rfl, rfl⟩ := hcs
    exact ⟨.nils, [], .inr ⟨rfl, rfl⟩, (fun x hx => by cases hx), by simp [Rep]⟩
  · simp [Value.cells] at hcs
    obtain ⟨rfl, rfl, rfl⟩ := hcs
    simp only [if_true] at hz
    have hlen : (zs.take len).length = len := by simp; omega
    refine ⟨.list k ((zs.take len).map fun x => .int .i64 x), zs.take len, .inl rfl, fun x hx => small_of_wf (hwz x (List.mem_of_mem_take hx)), ?_⟩
    simp only [Rep]
    refine ⟨some a, cap, by rw [List.length_map, hlen], by rw [List.length_map, hlen]; exact hl, hm, ?_⟩
    by_cases h0 : len = 0
    · left; subst h0; simp
    · right
      obtain ⟨b, off, spot⟩ := a
      have hspot : spot = none := by simpa [Addr.add] using World.cell?_spot (hcell 0 (by omega))
      subst hspot
      refine ⟨b, off, rfl, repRow_ints hk _ _ fun i hi => ?_⟩
      rw [hlen] at hi
      have := hcell i (by omega)
      rw [add_plain] at this
      rw [this, List.getD_eq_getElem?_getD, List.getD_eq_getElem?_getD, List.getElem?_take_of_lt hi]
theorem rep_str {P : Program} {W : World} {t : TypeId} {v : Value} (ht : P.underlying t = some .string) {base : Nat} (hval : Value.okWide P W .any base t v) : ∃ s : List UInt8, Rep (allImm W) (fun _ => none) (.str s) v := by
  obtain ⟨⟨⟨s⟩⟩, rfl⟩ := okWide_string ht hval
  exact ⟨s, by simp only [Rep]⟩
end Go.Mx
namespace Go.Fu
open Go Go.Mx
def n_273 : FuncId := 9
def n_296 : FuncId := 10
def n_190 : FuncId := 11
def n_114 : FuncId := 12
def n_268 : FuncId := 13
def n_76 : FuncId := 14
def n_129 : FuncId := 16
def n_297 : FuncId := 17
def n_127 : FuncId := 20
def n_29 : FuncId := 21
def n_124 : FuncId := 22
def n_122 : FuncId := 23
def n_125 : FuncId := 24
def n_113 : FuncId := 25
def n_128 : FuncId := 26
def n_123 : FuncId := 27
def n_126 : FuncId := 28
def n_8 : FuncId := 29
def n_11 : FuncId := 30
def n_75 : FuncId := 33
def n_4 : FuncId := 36
def n_131 : FuncId := 37
def n_21 : FuncId := 38
def n_17 : FuncId := 39
def n_183 : FuncId := 40
def n_276 : FuncId := 41
def n_119 : FuncId := 42
def n_267 : FuncId := 45
def n_192 : FuncId := 46
def n_13 : FuncId := 47
def n_30 : FuncId := 48
def n_20 : FuncId := 49
def n_117 : FuncId := 50
def n_61 : FuncId := 51
def n_65 : FuncId := 52
def n_31 : FuncId := 53
def n_18 : FuncId := 54
def n_115 : FuncId := 55
def n_22 : FuncId := 56
def n_19 : FuncId := 57
def n_116 : FuncId := 68
def n_272 : FuncId := 69
def n_270 : FuncId := 70
def n_271 : FuncId := 71
def n_269 : FuncId := 72
def n_283 : FuncId := 73
def n_80 : FuncId := 74
def n_274 : FuncId := 75
def n_189 : FuncId := 76
def n_291 : FuncId := 77
def n_120 : FuncId := 78
def n_300 : FuncId := 79
def n_63 : FuncId := 81
def n_191 : FuncId := 86
def n_292 : FuncId := 87
def n_79 : FuncId := 88
def n_62 : FuncId := 89
def n_77 : FuncId := 90
def n_64 : FuncId := 91
def n_5 : FuncId := 92
def n_23 : FuncId := 103
def n_130 : FuncId := 104
def n_9 : FuncId := 105
def n_295 : FuncId := 106
def n_280 : FuncId := 107
def n_185 : FuncId := 108
def n_278 : FuncId := 109
def n_32 : FuncId := 110
def n_184 : FuncId := 111
def n_282 : FuncId := 112
def n_289 : FuncId := 113
def n_277 : FuncId := 114
def n_284 : FuncId := 115
def n_275 : FuncId := 116
def n_67 : FuncId := 117
def n_193 : FuncId := 123
def n_66 : FuncId := 124
def n_298 : FuncId := 125
def n_118 : FuncId := 132
def n_78 : FuncId := 133
def n_286 : FuncId := 135
def n_281 : FuncId := 136
def n_279 : FuncId := 137
def n_265 : FuncId := 138
def n_290 : FuncId := 139
def n_294 : FuncId := 142
def n_293 : FuncId := 143
def n_188 : FuncId := 144
def n_285 : FuncId := 147
def n_299 : FuncId := 148
def n_132 : FuncId := 149
def n_288 : FuncId := 154
def n_186 : FuncId := 155
def n_187 : FuncId := 156
def n_287 : FuncId := 161
def n_266 : FuncId := 6
def k_27 : RowK := ⟨31, 1, false⟩
theorem k_226 : k_27.sz = 1 := rfl
theorem k_224 : k_27.ag = false := rfl
theorem k_225 : k_27.same k_27 = true := rfl
def k_110 : RowK := ⟨22, 1, false⟩
theorem k_229 : k_110.sz = 1 := rfl
theorem k_227 : k_110.ag = false := rfl
theorem k_228 : k_110.same k_110 = true := rfl
def k_7 : RowK := ⟨92, 3, true⟩
theorem k_232 : k_7.sz = 3 := rfl
theorem k_230 : k_7.ag = true := rfl
theorem k_231 : k_7.same k_7 = true := rfl
def k_0 : RowK := ⟨62, 5, true⟩
theorem k_121 : k_0.sz = 5 := rfl
theorem k_233 : k_0.ag = true := rfl
theorem k_234 : k_0.same k_0 = true := rfl
def k_10 : RowK := ⟨82, 8, true⟩
theorem k_237 : k_10.sz = 8 := rfl
theorem k_235 : k_10.ag = true := rfl
theorem k_236 : k_10.same k_10 = true := rfl
def k_3 : RowK := ⟨84, 1, true⟩
theorem k_240 : k_3.sz = 1 := rfl
theorem k_238 : k_3.ag = true := rfl
theorem k_239 : k_3.same k_3 = true := rfl
def k_28 : RowK := ⟨28, 10, true⟩
theorem k_243 : k_28.sz = 10 := rfl
theorem k_241 : k_28.ag = true := rfl
theorem k_242 : k_28.same k_28 = true := rfl
def k_59 : RowK := ⟨158, 5, true⟩
theorem k_246 : k_59.sz = 5 := rfl
theorem k_244 : k_59.ag = true := rfl
theorem k_245 : k_59.same k_59 = true := rfl
def k_1 : RowK := ⟨26, 4, true⟩
theorem k_249 : k_1.sz = 4 := rfl
theorem k_247 : k_1.ag = true := rfl
theorem k_248 : k_1.same k_1 = true := rfl
def k_int : RowK := ⟨3, 1, false⟩
theorem k_252 : k_int.sz = 1 := rfl
theorem k_250 : k_int.ag = false := rfl
theorem k_251 : k_int.same k_int = true := rfl
def k_111 : RowK := ⟨140, 3, true⟩
theorem k_255 : k_111.sz = 3 := rfl
theorem k_253 : k_111.ag = true := rfl
theorem k_254 : k_111.same k_111 = true := rfl
def k_60 : RowK := ⟨110, 5, true⟩
theorem k_258 : k_60.sz = 5 := rfl
theorem k_256 : k_60.ag = true := rfl
theorem k_257 : k_60.same k_60 = true := rfl
def k_2 : RowK := ⟨9, 1, false⟩
theorem k_261 : k_2.sz = 1 := rfl
theorem k_259 : k_2.ag = false := rfl
theorem k_260 : k_2.same k_2 = true := rfl
def k_112 : RowK := ⟨5, 1, false⟩
theorem k_264 : k_112.sz = 1 := rfl
theorem k_262 : k_112.ag = false := rfl
theorem k_263 : k_112.same k_112 = true := rfl
def t_int : Nat := 3
def t_24 : Nat := 9
def t_133 : Nat := 26
def t_303 : Nat := 28
def t_302 : Nat := 38
def t_81 : Nat := 58
def t_304 : Nat := 71
def t_194 : Nat := 94
def t_306 : Nat := 96
def t_305 : Nat := 106
def t_301 : Nat := 188
end Go.Fu

/-
  From what the machine answers to a law's row: the arguments read az the machine's data, all memory there is is read alone; behind the call it stands az it stood.
-/
import Derived.OpenShut
import Derived.Carry
import Derived.ChangeSlices
import Derived.ChangeSame
import Derived.Deep.DeepHandedRow
import Derived.Stop.LaidErr
import Derived.Deep.DeepLaidRun
import Derived.Lib.LaidTab
import Derived.Test.YtmhedpkbfaginaaGreatDoorMyFrame
set_option linter.unusedSimpArgs false
set_option linter.unusedVariables false
set_option linter.unusedSectionVars false
namespace Go.Mx
open Go Go.ChangeShapes Go.WideShapes Go.RowKit
theorem trodAll_below {H : Type} {enc : TypeId × Value → H} {P : Program} (hl : laidOutB P = true) {W W' : World} (hb : Below W.heap.size W W') : ∀ {ts : List TypeId} {vs : List Value} {ds : List (DataW H)} {ps : List MemPlace}, (∀ t ∈ ts, P.readableRec t = true ∧ t < P.types.size) →
    DataW.TrodAll enc P W 0 (fun _ => true) true ts vs ds ps → (∀ x ∈ ps, x.block < W.heap.size) → DataW.TrodAll enc P W' 0 (fun b => decide (b < W.heap.size)) true ts vs ds ps
  | [], vs, ds, ps, _, h, _ => by
    obtain ⟨rfl, rfl, rfl⟩ := trodAll_nil h
    exact trodAll_mk0
  | t :: ts, vs, ds, ps, ht, h, hlt => by
    obtain ⟨v, vs', d, ds', p, q, rfl, rfl, rfl, h1, h2⟩ := trodAll_cons h
    obtain ⟨hr, hs⟩ := ht t (List.mem_cons_self ..)
    exact trodAll_cons_mk (Below.trod hl hr hs h1 hb fun x hx => hlt x (List.mem_append_left _ hx)) (trodAll_below hl hb (fun u hu => ht u (List.mem_cons_of_mem _ hu)) h2 fun x hx => hlt x (List.mem_append_right _ hx))
theorem post_true {H : Type} {enc : TypeId × Value → H} {P : Program} {f : Func} {s : ChangeSpec} {fresh handsOn : Bool} {W W' : World} {args : Array Value} {ds : List (DataW H)} {before : List MemPlace} (hl : laidOutB P = true) (hb : Below W.heap.size W W')
    (hv : s.vars = []) (hps : ∀ t ∈ f.params.toList, P.readableRec t = true ∧ t < P.types.size) (hW : DataW.Whole enc P f.params.toList s.vars false W args.toList ds [] before) (hA : DataW.TrodAll enc P W 0 (fun _ => true) true f.params.toList args.toList ds before)
    {tb : TypeId} (hres : f.resultTypes.toList = [tb]) (htb : P.underlying tb = some .bool) (hrf : (s.fn H (ds ++ [])).results = [.lit (.bool true)]) (haf : (s.fn H (ds ++ [])).args = ds) (hvf : (s.fn H (ds ++ [])).vars = []) :
    s.post enc P f false fresh handsOn false W args (.bool true) W' := by
  have hlt : ∀ x ∈ before, x.block < W.heap.size := fun x hx => hW.lt x hx
  have hsz : f.resultTypes.size = 1 := by
    have := congrArg List.length hres
    simpa using this
  refine ⟨ds, [], before, [], before, [], hW, ?_, ?_, ?_, hb.frame _, fun h => by cases h⟩
  · rw [hres, hrf, hsz]
    exact trodAll_cons_mk (shut_bool htb true) trodAll_mk0
  · rw [haf]
    exact trodAll_below hl hb hps hA hlt
  · rw [hv, hvf]
    rfl
def allImm (W : World) : Imm := fun b o => W.cell? ⟨b, o, none⟩
theorem law_call [LoopKit] {P : Program} {κ : Ctx} {f : FuncId} {Ds : List D} {args : List Value} {W : World} {σ' : Store} (hY : isY f = false) (hn : κ.n ≤ W.heap.size) (hK : κ.K W) (hC : CallOK P κ f Ds σ0 (.ret ⟨false, .bool true⟩) σ') (hr : RepL (allImm W) (fun _ => none) Ds args) :
    Calls P f ⟨args⟩ W fun e W' => e = .returned (.bool true) ∧ Below W.heap.size W W' := by
  refine (((callOK_fn hY).1 hC).2 (allImm W) (fun _ => none) (fun _ => none) W args (fun _ _ h => by cases h) ⟨hn, fun _ _ => rfl, hK⟩ ⟨fun _ _ _ h => h, (fun _ _ h => by cases h), (fun _ _ h => by cases h), (fun _ _ _ h => by cases h), (fun _ _ h => by cases h), (fun _ _ h => by cases h), (fun _ _ h => by cases h)⟩ hr).mono ?_
  rintro e W' ⟨ι', j', own', k1, k2, k3, k4⟩
  cases e with
  | returned v =>
    have hv := k4.1
    simp only [Rep] at hv
    rw [hv]
    exact ⟨rfl, ⟨k2.os, k2.tape, k2.output, k2.size, fun b hb => (k2.block b hb fun _ h => by cases h).1⟩⟩
  | panicked c => exact k4.elim
  | outgrown => exact k4.elim
def IntRow (k : RowK) (d : D) (xs : List Int) : Prop := d = .list k (xs.map fun x => .int .i64 x) ∨ (xs = [] ∧ d = .nils)
theorem small_of_wf {n : Int} (h : (Lit.int .i64 n).wf = true) : -9223372036854775808 ≤ n ∧ n ≤ 9223372036854775807 := by
  have e1 : IntKind.i64.min = -9223372036854775808 := rfl
  have e2 : IntKind.i64.max = 9223372036854775807 := rfl
  simpa [Lit.wf, e1, e2] using h
theorem repRow_ints {W : World} {k : RowK} (hk : k.sz = 1) {b : Nat} : ∀ (xs : List Int) (o : Nat), (∀ i, i < xs.length → W.cell? ⟨b, o + i, none⟩ = some (.int .i64 (xs.getD i 0))) → RepRow (allImm W) (fun _ => none) k.sz (xs.map fun x => .int .i64 x) b o
  | [], _, _ => by simp [RepRow]
  | x :: xs, o, h => by
    simp only [List.map_cons, RepRow]
    refine ⟨⟨.int .i64 x, fun i y hy => ?_, by rw [hk]; rfl, by simp [Rep]⟩, repRow_ints hk xs (o + k.sz) fun i hi => ?_⟩
    · cases i with
      | zero =>
        simp [Value.cells] at hy
        subst hy
        have := h 0 (by simp)
        simpa [allImm] using this
      | succ i => simp [Value.cells] at hy
    · have := h (i + 1) (by simpa using hi)
      rw [hk, show o + 1 + i = o + (i + 1) by omega]
      simpa using this
theorem rep_ints {H : Type} {enc : TypeId × Value → H} {P : Program} {W : World} {t e : TypeId} {v : Value} {d0 : DataW H} {p : List MemPlace} (ht : P.underlying t = some (.slice e)) (he : P.underlying e = some (.int .i64)) (hc : P.cellsOf e = 1) {base : Nat} (hval : Value.okWide P W .any base t v)
    (h : DataW.Trod enc P W 0 (fun _ => true) true t v d0 p) (k : RowK) (hk : k.sz = 1) : ∃ d xs, IntRow k d xs ∧ (∀ x ∈ xs, -9223372036854775808 ≤ x ∧ x ≤ 9223372036854775807) ∧ Rep (allImm W) (fun _ => none) d v := by
  obtain ⟨a0, len, cap, rfl⟩ := okWide_slice ht hval
  obtain ⟨fuel, hf⟩ := h
  rcases open_ints ht he hc hf with ⟨hcs, hx⟩ | ⟨a, len', cap', zs, hcs, _, hl, hm, hz, hx, hcell, hwz⟩
  · simp [Value.cells] at hcs
    obtain ⟨rfl, rfl, rfl⟩ := hcs
    exact ⟨.nils, [], .inr ⟨rfl, rfl⟩, (fun x hx => by cases hx), by simp [Rep]⟩
  · simp [Value.cells] at hcs
    obtain ⟨rfl, rfl, rfl⟩ := hcs
    simp only [if_true] at hz
    have hlen : (zs.take len).length = len := by simp; omega
    refine ⟨.list k ((zs.take len).map fun x => .int .i64 x), zs.take len, .inl rfl, fun x hx => small_of_wf (hwz x (List.mem_of_mem_take hx)), ?_⟩
    simp only [Rep]
    refine ⟨some a, cap, by rw [List.length_map, hlen], by rw [List.length_map, hlen]; exact hl, hm, ?_⟩
    by_cases h0 : len = 0
    · left; subst h0; simp
    · right
      obtain ⟨b, off, spot⟩ := a
      have hspot : spot = none := by simpa [Addr.add] using World.cell?_spot (hcell 0 (by omega))
      subst hspot
      refine ⟨b, off, rfl, repRow_ints hk _ _ fun i hi => ?_⟩
      rw [hlen] at hi
      have := hcell i (by omega)
      rw [add_plain] at this
      rw [this, List.getD_eq_getElem?_getD, List.getD_eq_getElem?_getD, List.getElem?_take_of_lt hi]
theorem rep_int {H : Type} {enc : TypeId × Value → H} {P : Program} {W : World} {t : TypeId} {v : Value} {d0 : DataW H} {p : List MemPlace} (ht : P.underlying t = some (.int .i64)) {base : Nat} (hval : Value.okWide P W .any base t v)
    (h : DataW.Trod enc P W 0 (fun _ => true) true t v d0 p) : ∃ n, (-9223372036854775808 ≤ n ∧ n ≤ 9223372036854775807) ∧ Rep (allImm W) (fun _ => none) (.int .i64 n) v := by
  obtain ⟨n, rfl, _, _, hw⟩ := open_int ht hval h
  exact ⟨n, small_of_wf hw, by simp [Rep]⟩
end Go.Mx
namespace Go.Fu
open Go Go.Mx
def n_319 : FuncId := 9
def n_343 : FuncId := 10
def n_225 : FuncId := 11
def n_136 : FuncId := 12
def n_314 : FuncId := 13
def n_135 : FuncId := 14
def n_157 : FuncId := 16
def n_344 : FuncId := 17
def n_156 : FuncId := 20
def n_61 : FuncId := 21
def n_75 : FuncId := 25
def n_154 : FuncId := 27
def n_72 : FuncId := 31
def n_131 : FuncId := 32
def n_17 : FuncId := 33
def n_6 : FuncId := 36
def n_161 : FuncId := 37
def n_10 : FuncId := 38
def n_11 : FuncId := 39
def n_155 : FuncId := 40
def n_322 : FuncId := 41
def n_140 : FuncId := 42
def n_313 : FuncId := 45
def n_227 : FuncId := 46
def n_18 : FuncId := 47
def n_32 : FuncId := 48
def n_65 : FuncId := 52
def n_33 : FuncId := 53
def n_24 : FuncId := 54
def n_137 : FuncId := 55
def n_25 : FuncId := 56
def n_77 : FuncId := 57
def n_147 : FuncId := 58
def n_127 : FuncId := 59
def n_60 : FuncId := 60
def n_74 : FuncId := 61
def n_73 : FuncId := 62
def n_149 : FuncId := 63
def n_23 : FuncId := 64
def n_333 : FuncId := 65
def n_138 : FuncId := 68
def n_318 : FuncId := 69
def n_316 : FuncId := 70
def n_317 : FuncId := 71
def n_315 : FuncId := 72
def n_329 : FuncId := 73
def n_80 : FuncId := 74
def n_320 : FuncId := 75
def n_224 : FuncId := 76
def n_338 : FuncId := 77
def n_141 : FuncId := 78
def n_347 : FuncId := 79
def n_63 : FuncId := 81
def n_226 : FuncId := 86
def n_339 : FuncId := 87
def n_79 : FuncId := 88
def n_62 : FuncId := 89
def n_76 : FuncId := 90
def n_64 : FuncId := 91
def n_5 : FuncId := 92
def n_129 : FuncId := 93
def n_30 : FuncId := 94
def n_130 : FuncId := 95
def n_128 : FuncId := 96
def n_14 : FuncId := 97
def n_310 : FuncId := 98
def n_126 : FuncId := 99
def n_151 : FuncId := 100
def n_148 : FuncId := 101
def n_146 : FuncId := 102
def n_26 : FuncId := 103
def n_160 : FuncId := 104
def n_12 : FuncId := 105
def n_342 : FuncId := 106
def n_326 : FuncId := 107
def n_220 : FuncId := 108
def n_324 : FuncId := 109
def n_34 : FuncId := 110
def n_219 : FuncId := 111
def n_328 : FuncId := 112
def n_336 : FuncId := 113
def n_323 : FuncId := 114
def n_330 : FuncId := 115
def n_321 : FuncId := 116
def n_67 : FuncId := 117
def n_228 : FuncId := 123
def n_66 : FuncId := 124
def n_345 : FuncId := 125
def n_311 : FuncId := 129
def n_152 : FuncId := 130
def n_150 : FuncId := 131
def n_139 : FuncId := 132
def n_78 : FuncId := 133
def n_332 : FuncId := 135
def n_327 : FuncId := 136
def n_325 : FuncId := 137
def n_309 : FuncId := 138
def n_337 : FuncId := 139
def n_341 : FuncId := 142
def n_340 : FuncId := 143
def n_223 : FuncId := 144
def n_331 : FuncId := 147
def n_346 : FuncId := 148
def n_162 : FuncId := 149
def n_153 : FuncId := 152
def n_31 : FuncId := 153
def n_335 : FuncId := 154
def n_221 : FuncId := 155
def n_222 : FuncId := 156
def n_334 : FuncId := 161
def n_132 : FuncId := 162
def n_133 : FuncId := 165
def n_9 : FuncId := 166
def n_158 : FuncId := 172
def n_134 : FuncId := 173
def n_159 : FuncId := 179
def n_312 : FuncId := 7
def k_15 : RowK := ⟨31, 1, false⟩
theorem k_270 : k_15.sz = 1 := rfl
theorem k_268 : k_15.ag = false := rfl
theorem k_269 : k_15.same k_15 = true := rfl
def k_124 : RowK := ⟨22, 1, false⟩
theorem k_273 : k_124.sz = 1 := rfl
theorem k_271 : k_124.ag = false := rfl
theorem k_272 : k_124.same k_124 = true := rfl
def k_8 : RowK := ⟨92, 3, true⟩
theorem k_276 : k_8.sz = 3 := rfl
theorem k_274 : k_8.ag = true := rfl
theorem k_275 : k_8.same k_8 = true := rfl
def k_0 : RowK := ⟨62, 5, true⟩
theorem k_145 : k_0.sz = 5 := rfl
theorem k_277 : k_0.ag = true := rfl
theorem k_278 : k_0.same k_0 = true := rfl
def k_21 : RowK := ⟨82, 8, true⟩
theorem k_281 : k_21.sz = 8 := rfl
theorem k_279 : k_21.ag = true := rfl
theorem k_280 : k_21.same k_21 = true := rfl
def k_4 : RowK := ⟨84, 1, true⟩
theorem k_284 : k_4.sz = 1 := rfl
theorem k_282 : k_4.ag = true := rfl
theorem k_283 : k_4.same k_4 = true := rfl
def k_22 : RowK := ⟨28, 10, true⟩
theorem k_287 : k_22.sz = 10 := rfl
theorem k_285 : k_22.ag = true := rfl
theorem k_286 : k_22.same k_22 = true := rfl
def k_59 : RowK := ⟨158, 5, true⟩
theorem k_290 : k_59.sz = 5 := rfl
theorem k_288 : k_59.ag = true := rfl
theorem k_289 : k_59.same k_59 = true := rfl
def k_1 : RowK := ⟨26, 4, true⟩
theorem k_293 : k_1.sz = 4 := rfl
theorem k_291 : k_1.ag = true := rfl
theorem k_292 : k_1.same k_1 = true := rfl
def k_int : RowK := ⟨3, 1, false⟩
theorem k_296 : k_int.sz = 1 := rfl
theorem k_294 : k_int.ag = false := rfl
theorem k_295 : k_int.same k_int = true := rfl
def k_3 : RowK := ⟨140, 3, true⟩
theorem k_299 : k_3.sz = 3 := rfl
theorem k_297 : k_3.ag = true := rfl
theorem k_298 : k_3.same k_3 = true := rfl
def k_16 : RowK := ⟨110, 5, true⟩
theorem k_302 : k_16.sz = 5 := rfl
theorem k_300 : k_16.ag = true := rfl
theorem k_301 : k_16.same k_16 = true := rfl
def k_2 : RowK := ⟨9, 1, false⟩
theorem k_305 : k_2.sz = 1 := rfl
theorem k_303 : k_2.ag = false := rfl
theorem k_304 : k_2.same k_2 = true := rfl
def k_125 : RowK := ⟨5, 1, false⟩
theorem k_308 : k_125.sz = 1 := rfl
theorem k_306 : k_125.ag = false := rfl
theorem k_307 : k_125.same k_125 = true := rfl
def t_int : Nat := 3
def t_bool : Nat := 4
def t_234 : Nat := 9
def t_82 : Nat := 26
def t_350 : Nat := 28
def t_349 : Nat := 38
def t_35 : Nat := 58
def t_229 : Nat := 59
def t_351 : Nat := 71
def t_231 : Nat := 84
def t_232 : Nat := 94
def t_353 : Nat := 96
def t_352 : Nat := 106
def t_230 : Nat := 130
def t_81 : Nat := 134
def t_142 : Nat := 137
def t_143 : Nat := 178
def t_348 : Nat := 188
def t_233 : Nat := 215
def t_83 : Nat := 217
end Go.Fu

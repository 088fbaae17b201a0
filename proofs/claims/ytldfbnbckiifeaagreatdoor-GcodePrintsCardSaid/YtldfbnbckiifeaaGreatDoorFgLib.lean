/-
  The table of the functions that the machine runs, and their fit.
-/
import Derived.Test.YtldfbnbckiifeaaGreatDoorFgOk
import Derived.Test.YtldfbnbckiifeaaGreatDoorFgIds
set_option linter.unusedSimpArgs false
set_option linter.unusedVariables false
set_option linter.unusedSectionVars false
namespace Go.Fu
open Go Go.Mx
set_option maxRecDepth 100000
instance : LoopKit := ⟨fun N c c2 => zbd Go.Proofs.Tryz.prog N true c c2 = true⟩
instance : KitOf Go.Proofs.Tryz.prog inferInstance := ⟨fun _ _ _ => Iff.rfl⟩
def Γa : FuncId → Option AFun := fun f => match f with
  | 3 => some a_128
  | 9 => some a_129
  | 10 => some a_130
  | 11 => some a_78
  | 13 => some a_126
  | 14 => some a_132
  | 15 => some a_196
  | 17 => some a_164
  | 19 => some a_168
  | 22 => some a_133
  | 23 => some a_131
  | 24 => some a_42
  | 25 => some a_134
  | 26 => some a_99
  | 27 => some a_18
  | 28 => some a_86
  | 29 => some a_146
  | 31 => some a_127
  | 32 => some a_145
  | 34 => some a_109
  | 35 => some a_14
  | 36 => some a_114
  | 37 => some a_112
  | 39 => some a_184
  | 40 => some a_165
  | 41 => some a_166
  | 42 => some a_115
  | 43 => some a_167
  | 44 => some a_181
  | 45 => some a_189
  | 46 => some a_210
  | 47 => some a_209
  | 48 => some a_190
  | 49 => some a_172
  | 50 => some a_178
  | 51 => some a_169
  | 53 => some a_141
  | 54 => some a_144
  | 55 => some a_137
  | 56 => some a_101
  | 57 => some a_44
  | 58 => some a_140
  | 59 => some a_139
  | 60 => some a_95
  | 61 => some a_33
  | 63 => some a_65
  | 64 => some a_53
  | 65 => some a_136
  | 70 => some a_103
  | 71 => some a_182
  | 72 => some a_177
  | 74 => some a_180
  | 75 => some a_219
  | 76 => some a_220
  | 77 => some a_206
  | 78 => some a_204
  | 79 => some a_215
  | 80 => some a_214
  | 81 => some a_191
  | 82 => some a_211
  | 83 => some a_192
  | 84 => some a_176
  | 85 => some a_186
  | 86 => some a_188
  | 87 => some a_193
  | 88 => some a_183
  | 90 => some a_208
  | 92 => some a_194
  | 95 => some a_195
  | 97 => some a_187
  | 98 => some a_207
  | 99 => some a_185
  | 101 => some a_179
  | 102 => some a_217
  | 103 => some a_174
  | 104 => some a_170
  | 105 => some a_173
  | 106 => some a_135
  | 107 => some a_29
  | 108 => some a_143
  | 109 => some a_110
  | 110 => some a_111
  | 111 => some a_41
  | 112 => some a_138
  | 113 => some a_28
  | 114 => some a_142
  | 115 => some a_35
  | 116 => some a_51
  | 119 => some a_205
  | 120 => some a_218
  | 121 => some a_221
  | 122 => some a_216
  | 123 => some a_213
  | 126 => some a_212
  | 131 => some a_202
  | 132 => some a_203
  | 133 => some a_201
  | 134 => some a_197
  | 135 => some a_175
  | 141 => some a_171
  | 142 => some a_113
  | 147 => some a_200
  | 148 => some a_223
  | 149 => some a_198
  | 160 => some a_199
  | 164 => some a_222
  | _ => none
theorem Γa_holds : Holds Go.Proofs.Tryz.prog Γa := by
  intro f af h
  unfold Γa at h
  split at h
  · cases h; exact ⟨rfl, _, Go.Proofs.Tryz.func3, zng⟩
  · cases h; exact ⟨rfl, _, Go.Proofs.Tryz.func9, zro⟩
  · cases h; exact ⟨rfl, _, Go.Proofs.Tryz.func10, ztk⟩
  · cases h; exact ⟨rfl, _, Go.Proofs.Tryz.func11, zxl⟩
  · cases h; exact ⟨rfl, _, Go.Proofs.Tryz.func13, zrk⟩
  · cases h; exact ⟨rfl, _, Go.Proofs.Tryz.func14, zu7⟩
  · cases h; exact ⟨rfl, _, Go.Proofs.Tryz.func15, zu5⟩
  · cases h; exact ⟨rfl, _, Go.Proofs.Tryz.func17, zrj⟩
  · cases h; exact ⟨rfl, _, Go.Proofs.Tryz.func19, zo7⟩
  · cases h; exact ⟨rfl, _, Go.Proofs.Tryz.func22, zu8⟩
  · cases h; exact ⟨rfl, _, Go.Proofs.Tryz.func23, zxi⟩
  · cases h; exact ⟨rfl, _, Go.Proofs.Tryz.func24, zxm⟩
  · cases h; exact ⟨rfl, _, Go.Proofs.Tryz.func25, zxo⟩
  · cases h; exact ⟨rfl, _, Go.Proofs.Tryz.func26, zxu⟩
  · cases h; exact ⟨rfl, _, Go.Proofs.Tryz.func27, zxn⟩
  · cases h; exact ⟨rfl, _, Go.Proofs.Tryz.func28, zxp⟩
  · cases h; exact ⟨rfl, _, Go.Proofs.Tryz.func29, zgw⟩
  · cases h; exact ⟨rfl, _, Go.Proofs.Tryz.func31, zn5⟩
  · cases h; exact ⟨rfl, _, Go.Proofs.Tryz.func32, zg9⟩
  · cases h; exact ⟨rfl, _, Go.Proofs.Tryz.func34, ztj⟩
  · cases h; exact ⟨rfl, _, Go.Proofs.Tryz.func35, zxt⟩
  · cases h; exact ⟨rfl, _, Go.Proofs.Tryz.func36, zvh⟩
  · cases h; exact ⟨rfl, _, Go.Proofs.Tryz.func37, zebb⟩
  · cases h; exact ⟨rfl, _, Go.Proofs.Tryz.func39, zmg⟩
  · cases h; exact ⟨rfl, _, Go.Proofs.Tryz.func40, zo4⟩
  · cases h; exact ⟨rfl, _, Go.Proofs.Tryz.func41, zo5⟩
  · cases h; exact ⟨rfl, _, Go.Proofs.Tryz.func42, zir⟩
  · cases h; exact ⟨rfl, _, Go.Proofs.Tryz.func43, zo6⟩
  · cases h; exact ⟨rfl, _, Go.Proofs.Tryz.func44, zrl⟩
  · cases h; exact ⟨rfl, _, Go.Proofs.Tryz.func45, zrm⟩
  · cases h; exact ⟨rfl, _, Go.Proofs.Tryz.func46, zg7⟩
  · cases h; exact ⟨rfl, _, Go.Proofs.Tryz.func47, zhx⟩
  · cases h; exact ⟨rfl, _, Go.Proofs.Tryz.func48, zrn⟩
  · cases h; exact ⟨rfl, _, Go.Proofs.Tryz.func49, znd⟩
  · cases h; exact ⟨rfl, _, Go.Proofs.Tryz.func50, zth⟩
  · cases h; exact ⟨rfl, _, Go.Proofs.Tryz.func51, ztf⟩
  · cases h; exact ⟨rfl, _, Go.Proofs.Tryz.func53, zve⟩
  · cases h; exact ⟨rfl, _, Go.Proofs.Tryz.func54, ztm⟩
  · cases h; exact ⟨rfl, _, Go.Proofs.Tryz.func55, zrp⟩
  · cases h; exact ⟨rfl, _, Go.Proofs.Tryz.func56, zrq⟩
  · cases h; exact ⟨rfl, _, Go.Proofs.Tryz.func57, zxq⟩
  · cases h; exact ⟨rfl, _, Go.Proofs.Tryz.func58, za7b⟩
  · cases h; exact ⟨rfl, _, Go.Proofs.Tryz.func59, zxr⟩
  · cases h; exact ⟨rfl, _, Go.Proofs.Tryz.func60, zecb⟩
  · cases h; exact ⟨rfl, _, Go.Proofs.Tryz.func61, ztl⟩
  · cases h; exact ⟨rfl, _, Go.Proofs.Tryz.func63, zu6⟩
  · cases h; exact ⟨rfl, _, Go.Proofs.Tryz.func64, zxs⟩
  · cases h; exact ⟨rfl, _, Go.Proofs.Tryz.func65, zva⟩
  · cases h; exact ⟨rfl, _, Go.Proofs.Tryz.func70, zke⟩
  · cases h; exact ⟨rfl, _, Go.Proofs.Tryz.func71, zo9⟩
  · cases h; exact ⟨rfl, _, Go.Proofs.Tryz.func72, zo8⟩
  · cases h; exact ⟨rfl, _, Go.Proofs.Tryz.func74, zti⟩
  · cases h; exact ⟨rfl, _, Go.Proofs.Tryz.func75, zjp⟩
  · cases h; exact ⟨rfl, _, Go.Proofs.Tryz.func76, zjq⟩
  · cases h; exact ⟨rfl, _, Go.Proofs.Tryz.func77, zjg⟩
  · cases h; exact ⟨rfl, _, Go.Proofs.Tryz.func78, zkd⟩
  · cases h; exact ⟨rfl, _, Go.Proofs.Tryz.func79, zis⟩
  · cases h; exact ⟨rfl, _, Go.Proofs.Tryz.func80, zjh⟩
  · cases h; exact ⟨rfl, _, Go.Proofs.Tryz.func81, zpa⟩
  · cases h; exact ⟨rfl, _, Go.Proofs.Tryz.func82, zg8⟩
  · cases h; exact ⟨rfl, _, Go.Proofs.Tryz.func83, znf⟩
  · cases h; exact ⟨rfl, _, Go.Proofs.Tryz.func84, ztg⟩
  · cases h; exact ⟨rfl, _, Go.Proofs.Tryz.func85, zly⟩
  · cases h; exact ⟨rfl, _, Go.Proofs.Tryz.func86, zne⟩
  · cases h; exact ⟨rfl, _, Go.Proofs.Tryz.func87, zpb⟩
  · cases h; exact ⟨rfl, _, Go.Proofs.Tryz.func88, zlw⟩
  · cases h; exact ⟨rfl, _, Go.Proofs.Tryz.func90, zia⟩
  · cases h; exact ⟨rfl, _, Go.Proofs.Tryz.func92, zpc⟩
  · cases h; exact ⟨rfl, _, Go.Proofs.Tryz.func95, zpd⟩
  · cases h; exact ⟨rfl, _, Go.Proofs.Tryz.func97, zqh⟩
  · cases h; exact ⟨rfl, _, Go.Proofs.Tryz.func98, zjn⟩
  · cases h; exact ⟨rfl, _, Go.Proofs.Tryz.func99, zlx⟩
  · cases h; exact ⟨rfl, _, Go.Proofs.Tryz.func101, zlv⟩
  · cases h; exact ⟨rfl, _, Go.Proofs.Tryz.func102, zji⟩
  · cases h; exact ⟨rfl, _, Go.Proofs.Tryz.func103, zmf⟩
  · cases h; exact ⟨rfl, _, Go.Proofs.Tryz.func104, zqg⟩
  · cases h; exact ⟨rfl, _, Go.Proofs.Tryz.func105, zme⟩
  · cases h; exact ⟨rfl, _, Go.Proofs.Tryz.func106, zu9⟩
  · cases h; exact ⟨rfl, _, Go.Proofs.Tryz.func107, zvg⟩
  · cases h; exact ⟨rfl, _, Go.Proofs.Tryz.func108, zvf⟩
  · cases h; exact ⟨rfl, _, Go.Proofs.Tryz.func109, zvb⟩
  · cases h; exact ⟨rfl, _, Go.Proofs.Tryz.func110, zvd⟩
  · cases h; exact ⟨rfl, _, Go.Proofs.Tryz.func111, zxj⟩
  · cases h; exact ⟨rfl, _, Go.Proofs.Tryz.func112, zvc⟩
  · cases h; exact ⟨rfl, _, Go.Proofs.Tryz.func113, zxk⟩
  · cases h; exact ⟨rfl, _, Go.Proofs.Tryz.func114, za9b⟩
  · cases h; exact ⟨rfl, _, Go.Proofs.Tryz.func115, zxv⟩
  · cases h; exact ⟨rfl, _, Go.Proofs.Tryz.func116, za6b⟩
  · cases h; exact ⟨rfl, _, Go.Proofs.Tryz.func119, zjf⟩
  · cases h; exact ⟨rfl, _, Go.Proofs.Tryz.func120, zkw⟩
  · cases h; exact ⟨rfl, _, Go.Proofs.Tryz.func121, ziu⟩
  · cases h; exact ⟨rfl, _, Go.Proofs.Tryz.func122, zit⟩
  · cases h; exact ⟨rfl, _, Go.Proofs.Tryz.func123, zjo⟩
  · cases h; exact ⟨rfl, _, Go.Proofs.Tryz.func126, zkv⟩
  · cases h; exact ⟨rfl, _, Go.Proofs.Tryz.func131, zku⟩
  · cases h; exact ⟨rfl, _, Go.Proofs.Tryz.func132, zlz⟩
  · cases h; exact ⟨rfl, _, Go.Proofs.Tryz.func133, zmh⟩
  · cases h; exact ⟨rfl, _, Go.Proofs.Tryz.func134, zn6⟩
  · cases h; exact ⟨rfl, _, Go.Proofs.Tryz.func135, zkt⟩
  · cases h; exact ⟨rfl, _, Go.Proofs.Tryz.func141, zmd⟩
  · cases h; exact ⟨rfl, _, Go.Proofs.Tryz.func142, za8b⟩
  · cases h; exact ⟨rfl, _, Go.Proofs.Tryz.func147, zh9⟩
  · cases h; exact ⟨rfl, _, Go.Proofs.Tryz.func148, zgo⟩
  · cases h; exact ⟨rfl, _, Go.Proofs.Tryz.func149, zpe⟩
  · cases h; exact ⟨rfl, _, Go.Proofs.Tryz.func160, znh⟩
  · cases h; exact ⟨rfl, _, Go.Proofs.Tryz.func164, zfa⟩
  · cases h
def Ra : RecF := fun _ _ _ _ => none
theorem zgz {κ2 : Ctx} : zi8 Go.Proofs.Tryz.prog κ2 Ra := fun _ _ _ _ _ _ h => by cases h
def zd5b (n : Nat) (f : FuncId) : Bool := match runQ Γa Ra Xa n false f [] { objs := [], tys := [], oth := [], next := 0 } with
  | some (.ret ⟨false, .bool true⟩, _) => true
  | _ => false
end Go.Fu
namespace Go.Fu
open Go Go.Mx
theorem gTab : Go.Proofs.Tryz.prog.globalNamed "internal/strconv.uint64pow10" = some 0 := by kernel_rfl
def κ : Ctx where
  n := 0 + 1
  K := fun w => Lib.TabIs Go.Proofs.Tryz.prog w "internal/strconv.uint64pow10" .u64 Lib.pow10Tab
  stable := fun w w' h k => by
    unfold Lib.TabIs World.var? at k ⊢
    rw [gTab] at k ⊢
    simp only [Option.bind_some] at k ⊢
    rw [h 0 (by omega)]
    exact k
theorem zy3 : ∀ (k n : Nat) (acc : List UInt8), n < 10 ^ k → digF k n acc = if k = 0 then acc else Lib.decDigits n ++ acc
  | 0, n, acc, _ => rfl
  | k + 1, n, acc, h => by
    rw [if_neg (by omega)]
    unfold digF
    by_cases h10 : n < 10
    · simp only [h10, decide_true, zad]
      rw [Lib.decDigits, dif_pos h10]
      rfl
    · simp only [h10, decide_false, zaf]
      have hk : n / 10 < 10 ^ k := by
        rw [Nat.div_lt_iff_lt_mul (by omega)]
        rw [Nat.pow_succ] at h
        exact h
      have hk0 : k ≠ 0 := by
        intro e
        subst e
        simp at hk
        omega
      rw [zy3 k (n / 10) _ hk, if_neg hk0, Lib.decDigits.eq_def n, dif_neg h10]
      simp
theorem zy4 {n : Nat} (h : n < 10 ^ 20) : digN n = Lib.decDigits n := by
  unfold digN
  rw [zy3 20 n [] h]
  simp
theorem zf9b {n : Int} (h : inI64 n = true) : itoaN n = Lib.itoa n := by
  simp only [inI64, Bool.and_eq_true, decide_eq_true_eq] at h
  cases n with
  | ofNat m =>
    have h2 : (m : Int) ≤ 9223372036854775807 := h.2
    simp only [itoaN, Lib.itoa]
    rw [if_neg (by simp), zy4 (by omega)]
    rfl
  | negSucc m =>
    have h1 : -9223372036854775808 ≤ Int.negSucc m := h.1
    simp only [itoaN, Lib.itoa]
    rw [if_pos (Int.negSucc_lt_zero m), zy4 (by omega)]
    rfl
theorem repL1 {ι : Imm} {j : Lay} {d : D} {vs : List Value} (h : RepL ι j [d] vs) : ∃ v, vs = [v] ∧ Rep ι j d v := by
  simp only [RepL] at h
  obtain ⟨x, r, rfl, h1, rfl⟩ := h
  exact ⟨x, rfl, h1⟩
theorem zhmb {ds : List D} {d : D} (h : xItoa ds = some d) (σ : Store) : zdp Go.Proofs.Tryz.prog κ 30 ds σ (.ret ⟨false, d⟩) σ := by
  unfold xItoa at h
  split at h
  · rename_i n
    obtain ⟨h1, h⟩ := zah h
    cases h
    refine zepb rfl ⟨_, _, Go.Proofs.Tryz.func30, by kernel_rfl, rfl⟩ (fun ι j own w vs hB hG hr => ?_)
    obtain ⟨v, rfl, hv⟩ := repL1 hr
    simp only [Rep] at hv
    subst hv
    have hb := h1
    simp only [inI64, Bool.and_eq_true, decide_eq_true_eq] at hb
    refine (Go.Proofs.Tryz.strconv_Itoa n hb.1 hb.2 w hB.K).mono ?_
    rintro e w' ⟨rfl, k, os, rfl⟩
    refine ⟨_, rfl, ?_, by simp only [Rep]; rw [zf9b h1]⟩
    have hd : RowKit.Below w.heap.size w (w.drewN k) := ⟨rfl, rfl, rfl, Nat.le_refl _, fun _ _ => rfl⟩
    refine hd.trans ⟨rfl, rfl, rfl, by simp [Sort.grow], fun i hi => ?_⟩
    show (w.heap ++ os)[i]? = w.heap[i]?
    rw [Array.getElem?_append_left hi]
  · cases h
theorem zvw {w : World} {b : Nat} {vs : List Value} {T : TypeId} (h : w.heap[b]? = some (.cells ⟨vs⟩ T (0, 0))) (v : Value) : (w.setCell ⟨b, 0, none⟩ v).heap[b]? = some (.cells ⟨vs.set 0 v⟩ T (0, 0)) := by
  have hlt := (Array.getElem?_eq_some_iff.1 h).1
  have hv := (Array.getElem?_eq_some_iff.1 h).2
  simp only [World.setCell, Array.getElem?_modify, if_true, h, Option.map_some]
  simp
theorem zhlb {ds : List D} {σ σ' : Store} {out : Out} (h : xCopy ds σ = some (out, σ')) : zdp Go.Proofs.Tryz.prog κ 66 ds σ out σ' := by
  refine (zcz (show isY 66 = false from rfl)).2 ⟨⟨_, _, Go.Proofs.Tryz.func66, by kernel_rfl, rfl⟩, fun ι j own w vs hS hB hG hr => ?_⟩
  unfold xCopy at h
  split at h
  · rename_i id
    obtain ⟨t, h1, ha⟩ := zaa h
    obtain ⟨h2, hb⟩ := zah ha
    obtain ⟨cs, h3, hc⟩ := zaa hb
    clear h ha hb
    have ht : t.t = t_13 := by simpa using h2
    obtain ⟨v, rfl, hv⟩ := repL1 hr
    simp only [Rep] at hv
    obtain ⟨b, hjb, rfl⟩ := hv
    obtain ⟨b', hjb', hown, row, T, hheap, hlen, hcell⟩ := hG.objs id cs h3
    rw [hjb] at hjb'
    cases hjb'
    obtain ⟨row', hrow', _⟩ := hG.tys id t cs h1 h3 b hjb
    rw [ht, hheap] at hrow'
    cases hrow'
    split at hc
    · rename_i c0 c1
      obtain ⟨v0, hv0, _, hr0, _⟩ := hcell 0 c0 rfl
      have hc0 : w.cell? ⟨b, 0, none⟩ = some v0 := by
        rw [cell_of_row w b 0 _ _ _ hheap]
        simpa using hv0
      split at hc
      · rename_i hd
        cases hc
        rw [hd] at hr0
        simp only [Rep] at hr0
        subst hr0
        have hl : 2 ≤ row.length := by simpa using hlen
        have hsh : w.shape? b = some (t_13, row.length) := by simp [World.shape?, hheap]
        have hfz : w.frozen? ⟨b, 0, none⟩ = false := Lib.frozen_of_heap hheap 0
        refine (zz7 b w hc0 hl hsh hfz).mono ?_
        rintro e w' ⟨rfl, rfl⟩
        have hnew := zvw hheap (.pointer (some ⟨b, 0, none⟩))
        have hrest : ∀ k, k ≠ b → (w.setCell ⟨b, 0, none⟩ (.pointer (some ⟨b, 0, none⟩))).heap[k]? = w.heap[k]? := fun k hk => RowKit.Below.heap_setCell w ⟨b, 0, none⟩ _ k hk
        have hcl : ∀ (i : Nat) (c : Cell), [(⟨false, .ptr id 0⟩ : Cell), c1][i]? = some c → ∃ v, (row.set 0 (.pointer (some ⟨b, 0, none⟩)))[i]? = some v ∧ v.oneCell' = true ∧ zcx ι j own (w.setCell ⟨b, 0, none⟩ (.pointer (some ⟨b, 0, none⟩))) (.ocell id i) c v := by
          intro i c hi
          match i with
          | 0 =>
            simp only [List.getElem?_cons_zero, Option.some.injEq] at hi
            subst hi
            refine ⟨_, List.getElem?_set_self (by omega), rfl, ?_, fun h => by cases h⟩
            simp only [Rep]
            exact ⟨b, hjb, rfl⟩
          | 1 =>
            obtain ⟨v1, q1, q2, q3, q4⟩ := hcell 1 c1 rfl
            simp only [List.getElem?_cons_succ, List.getElem?_cons_zero, Option.some.injEq] at hi
            subst hi
            exact ⟨v1, by rw [List.getElem?_set_ne (by omega)]; exact q1, q2, q3, fun ho => zdl (B := b) (by rw [hown]; intro h; cases h) hrest (q4 ho)⟩
          | n + 2 => simp at hi
        obtain ⟨g1, g2⟩ := hG.setObj (w' := w.setCell ⟨b, 0, none⟩ (.pointer (some ⟨b, 0, none⟩))) h3 hjb hown rfl rfl rfl (by simp [World.setCell]) hrest hheap hnew (by simpa using hl) (by simp) hcl
        exact ⟨ι, j, own, g1, g2.weaken (fun _ _ => trivial), hS, by simp [Rep, RepL], fun h => by cases h⟩
      · rename_i id' hd
        obtain ⟨h4, hc⟩ := zah hc
        cases hc
        have hid : id' = id := by simpa using h4
        subst hid
        rw [hd] at hr0
        simp only [Rep] at hr0
        obtain ⟨b2, hjb2, rfl⟩ := hr0
        rw [hjb] at hjb2
        cases hjb2
        refine (zc2b b w hc0).mono ?_
        rintro e w' ⟨rfl, rfl⟩
        exact ⟨ι, j, own, hG, Evo.refl _ _ _ _ _, hS, by simp [Rep, RepL], fun h => by cases h⟩
      · cases hc
    · cases hc
  · cases h
theorem zw3 {w : World} {g n : Nat} {cur : Array Value} {T : TypeId} (h : w.heap[g]? = some (.cells cur T (0, 0))) : ∃ fr, (w.freeze ⟨g, 0, none⟩ n).heap[g]? = some (.cells cur T fr) := by
  unfold World.freeze
  split
  · exact ⟨_, h⟩
  · simp only [Array.getElem?_modify, if_true, h, Option.map_some]
    exact ⟨_, rfl⟩
theorem zum {w : World} {g n b : Nat} (hb : b ≠ g) : (w.freeze ⟨g, 0, none⟩ n).heap[b]? = w.heap[b]? := by
  unfold World.freeze
  split
  · rfl
  · simp only [Array.getElem?_modify]
    rw [if_neg (fun e => hb e.symm)]
theorem zul {w : World} {g n : Nat} : (w.freeze ⟨g, 0, none⟩ n).os = w.os ∧ (w.freeze ⟨g, 0, none⟩ n).tape = w.tape ∧ (w.freeze ⟨g, 0, none⟩ n).output = w.output ∧ (w.freeze ⟨g, 0, none⟩ n).heap.size = w.heap.size := by
  unfold World.freeze
  split
  · exact ⟨rfl, rfl, rfl, rfl⟩
  · exact ⟨rfl, rfl, rfl, by simp⟩
theorem zagb {ι : Imm} {j : Lay} {own : Own} {σ : Store} {w w' : World} {g id : Nat} {c0 c1 : Cell} {cur : Array Value} {T : TypeId} {fr : Nat × Nat} (hG : GSim ι j own σ w) (hg : w.heap[g]? = some (.cells cur T (0, 0))) (hown : own g = some (.ocell id 1))
    (hcs : aget σ.objs id = some [c0, c1]) (h1 : w'.heap[g]? = some (.cells cur T fr)) (hoth : ∀ b, b ≠ g → w'.heap[b]? = w.heap[b]?) (hos : w'.os = w.os) (ht : w'.tape = w.tape) (hout : w'.output = w.output) (hsz : w'.heap.size = w.heap.size) :
    ∃ own', GSim ι j own' { σ with objs := aset σ.objs id [c0, ⟨false, c1.d⟩] } w' ∧ Evo ι j own w ι j own' w' (fun _ => True) ∧ (zef own → zef own') := by
  classical
  let own' : Own := fun b => if b = g then none else own b
  have hsub : ∀ b t, own' b = some t → own b = some t ∧ b ≠ g := by
    intro b t h
    by_cases hb : b = g
    · simp only [own', if_pos hb] at h; cases h
    · simp only [own', if_neg hb] at h; exact ⟨h, hb⟩
  have hkeep : ∀ b t, own b = some t → t ≠ .ocell id 1 → own' b = some t ∧ b ≠ g := by
    intro b t h hne
    have hb : b ≠ g := fun e => by subst e; rw [hown] at h; cases h; exact hne rfl
    exact ⟨by simp only [own', if_neg hb]; exact h, hb⟩
  have hown' : ∀ {t : Tag} {d : D} {v : Value}, t ≠ .ocell id 1 → Owned ι own w t d v → Owned ι own' w' t d v := by
    intro t d v hne k
    unfold Owned at k ⊢
    cases hp : prin d v with
    | none => trivial
    | some p =>
      rw [hp] at k
      rcases k with k | ⟨b, cap, cur', T', k1, k2, k3, k4⟩
      · exact .inl k
      · obtain ⟨q1, q2⟩ := hkeep b t k2 hne
        exact .inr ⟨b, cap, cur', T', k1, q1, (hoth b q2).trans k3, k4⟩
  refine ⟨own', ⟨fun b o v h => ?_, fun b t h hu => hG.noimm b t (hsub b t h).1 hu, fun id' cs h => ?_, fun id' t cs k1 k2 b hb => ?_, fun id' x h => ?_, hG.jlt, fun b t h => by rw [hsz]; exact hG.ownlt b t (hsub b t h).1⟩,
    ⟨hos, ht, hout, Nat.le_of_eq hsz.symm, fun _ _ _ h => h, fun _ _ h => h, fun b hb hn => ?_⟩, fun hS b t h => hS b t (hsub b t h).1⟩
  · by_cases hb : b = g
    · subst hb
      have := hG.holds b o v h
      rw [cell_of_row w b o cur T (0, 0) hg] at this
      rw [cell_of_row w' b o cur T fr h1]
      exact this
    · rw [World.cell?_of_block (w := w) (w' := w') (a := ⟨b, o, none⟩) (hoth b hb)]
      exact hG.holds b o v h
  · have hex : ∃ cs0, aget σ.objs id' = some cs0 ∧ cs0.length = cs.length ∧ ∀ (i : Nat) (c : Cell), cs[i]? = some c → ∃ c0, cs0[i]? = some c0 ∧ c0.d = c.d ∧ (c.own = true → c0.own = true ∧ Tag.ocell id' i ≠ .ocell id 1) := by
      simp only [zaq] at h
      by_cases hid : id = id'
      · subst hid
        rw [if_pos rfl] at h
        cases h
        refine ⟨_, hcs, rfl, fun i c hi => ?_⟩
        match i with
        | 0 =>
          simp only [List.getElem?_cons_zero, Option.some.injEq] at hi
          subst hi
          exact ⟨c0, rfl, rfl, fun ho => ⟨ho, by simp⟩⟩
        | 1 =>
          simp only [List.getElem?_cons_succ, List.getElem?_cons_zero, Option.some.injEq] at hi
          subst hi
          exact ⟨c1, rfl, rfl, fun ho => by cases ho⟩
        | n + 2 => simp at hi
      · rw [if_neg hid] at h
        exact ⟨cs, h, rfl, fun i c hi => ⟨c, hi, rfl, fun ho => ⟨ho, fun e => by cases e; exact hid rfl⟩⟩⟩
    obtain ⟨cs0, e1, e2, e3⟩ := hex
    obtain ⟨b, q1, q2, vs, T', r1, r2, r3⟩ := hG.objs id' cs0 e1
    obtain ⟨k1, k2⟩ := hkeep b _ q2 (by simp)
    refine ⟨b, q1, k1, vs, T', (hoth b k2).trans r1, by omega, fun i c hi => ?_⟩
    obtain ⟨c0', f1, f2, f3⟩ := e3 i c hi
    obtain ⟨v, s1, s2, s3, s4⟩ := r3 i c0' f1
    exact ⟨v, s1, s2, f2 ▸ s3, fun ho => f2 ▸ hown' (f3 ho).2 (s4 (f3 ho).1)⟩
  · have hex : ∃ cs0, aget σ.objs id' = some cs0 := by
      simp only [zaq] at k2
      split at k2
      · rename_i hh; subst hh; exact ⟨_, hcs⟩
      · exact ⟨cs, k2⟩
    obtain ⟨cs0, e1⟩ := hex
    have hty := hG.tys id' t cs0 k1 e1 b hb
    obtain ⟨B2, q1, q2, _⟩ := hG.objs id' cs0 e1
    rw [hb] at q1
    cases q1
    exact hty.keep (hoth b (hkeep b _ q2 (by simp)).2) (fun _ _ h => h)
  · obtain ⟨b, q1, q2, q3⟩ := hG.oth id' x h
    obtain ⟨k1, k2⟩ := hkeep b _ q2 (by simp)
    exact ⟨b, q1, k1, q3.keep (hoth b k2) (fun _ _ _ h => h) (fun _ _ h => h)⟩
  · have hbg : b ≠ g := fun e => by subst e; exact hn _ hown trivial
    exact ⟨hoth b hbg, by simp only [own', if_neg hbg], fun _ => rfl⟩
theorem zcdb {ds : List D} {σ σ' : Store} {out : Out} (h : zk6 ds σ = some (out, σ')) : zdp Go.Proofs.Tryz.prog κ 33 ds σ out σ' := by
  refine (zcz (show isY 33 = false from rfl)).2 ⟨⟨_, _, Go.Proofs.Tryz.func33, by kernel_rfl, rfl⟩, fun ι j own w vs hS hB hG hr => ?_⟩
  unfold zk6 at h
  split at h
  · rename_i id
    obtain ⟨t, h1, ha⟩ := zaa h
    obtain ⟨h2, hb⟩ := zah ha
    obtain ⟨cs, h3, hc⟩ := zaa hb
    clear h ha hb
    have ht : t.t = t_13 := by simpa using h2
    obtain ⟨v, rfl, hv⟩ := repL1 hr
    simp only [Rep] at hv
    obtain ⟨b, hjb, rfl⟩ := hv
    obtain ⟨b', hjb', hown, row, T, hheap, hlen, hcell⟩ := hG.objs id cs h3
    rw [hjb] at hjb'
    cases hjb'
    obtain ⟨row', hrow', _⟩ := hG.tys id t cs h1 h3 b hjb
    rw [ht, hheap] at hrow'
    cases hrow'
    split at hc
    · rename_i c0 c1
      split at hc
      · rename_i k es hd
        obtain ⟨h4, hc⟩ := zah hc
        obtain ⟨s, h5, hc⟩ := zaa hc
        cases hc
        simp only [Bool.and_eq_true, Bool.not_eq_true', List.isEmpty_eq_false_iff] at h4
        obtain ⟨⟨ho, hk⟩, hne⟩ := h4
        obtain ⟨hk1, hk2⟩ : k.el = 5 ∧ k.sz = 1 := by simpa [zmz, k_12] using hk
        obtain ⟨b1, b2⟩ := zj8 h5
        obtain ⟨v0, q0, _⟩ := hcell 0 c0 rfl
        obtain ⟨v1, q1, _, q3, q4⟩ := hcell 1 c1 rfl
        have hO := q4 ho
        rw [hd] at hO q3
        simp only [Rep] at q3
        obtain ⟨ad, cap, hv1, hle, hmax, hrow⟩ := q3
        obtain ⟨g0, o0, hg0, hrr⟩ := hrow.resolve_left hne
        simp only [Owned] at hO
        obtain ⟨g, cap', cur, T', e1, e2, e3, ⟨e4, e5⟩, e6⟩ := hO.resolve_left (fun ⟨_, _, h⟩ => hne (h hk1))
        rw [hv1, hg0] at e1
        simp only [Value.slice.injEq, Option.some.injEq, Addr.mk.injEq, and_true, true_and] at e1
        obtain ⟨⟨rfl, rfl⟩, rfl⟩ := e1
        rw [hk1] at e4
        subst e4
        rw [hk2] at e5 hrr
        obtain ⟨rest, hrow2⟩ : ∃ rest, row = v0 :: v1 :: rest := by
          have hl : 2 ≤ row.length := by simpa using hlen
          match row, hl with
          | x :: y :: r, _ =>
            simp at q0 q1
            exact ⟨r, by rw [q0, q1]⟩
        have hs0 : s ≠ [] := by
          intro e
          subst e
          exact hne (List.eq_nil_of_length_eq_zero b1.symm)
        have hbk : w.heap[b]? = some (.cells ⟨v0 :: .slice (some ⟨g0, 0, none⟩) s.length cap :: rest⟩ t_13 (0, 0)) := by
          rw [hheap, hrow2, hv1, hg0, b1]
        refine (zyh b g0 cap v0 rest cur s w hs0 hbk e3 (by omega) hmax e5 (fun jx x hx => ?_)).mono ?_
        · obtain ⟨u, r1, _, r3⟩ := hrr.at jx _ (b2 jx x hx)
          simp only [Rep] at r3
          subst r3
          have := hG.holds _ _ _ (r1 0 (.int .u8 x.toNat) rfl)
          simpa using this
        · rintro e w' ⟨rfl, rfl⟩
          obtain ⟨fr, hfr⟩ := zw3 (w := w.drew) (g := g0) (n := s.length) (show w.drew.heap[g0]? = some (.cells cur 5 (0, 0)) from e3)
          obtain ⟨f1, f2, f3, f4⟩ := zul (w := w.drew) (g := g0) (n := s.length)
          obtain ⟨own', g1, g2, g3⟩ := zagb hG e3 e2 h3 hfr (fun b hb => zum (w := w.drew) hb) f1 f2 f3 f4
          rw [hd] at g1
          refine ⟨ι, j, own', ?_, g2, g3 hS, by simp only [Rep], fun h => by cases h⟩
          rw [hd]
          exact g1
      · cases hc
    · cases hc
  · cases h
end Go.Fu

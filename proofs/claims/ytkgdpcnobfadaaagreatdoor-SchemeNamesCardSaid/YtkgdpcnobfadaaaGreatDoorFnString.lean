/-
  The fit of the program's functions and the machine's code: reckoned by the kernel.
-/
import Derived.Test.YtkgdpcnobfadaaaGreatDoorProg
import Derived.Test.YtkgdpcnobfadaaaGreatDoorFnCode2
import Derived.Recover
import Derived.Test.YtkgdpcnobfadaaaGreatDoorMzFrame
import Derived.Shelf.Strconv.Itoa0
import Derived.Shelf.Strconv.Itoa1
import Derived.Shelf.LaysM
import Derived.Shelf.Strconv.Itoa2
import Derived.Shelf.Strconv.Itoa3
import Derived.WalkKit
import Derived.Lib.Builder
import Derived.Laws.Externs
import Derived.Lib.MakeNoZero
import Derived.Laws.IdiomCopy
import Derived.Shelf.Strings.Builder1
set_option linter.unusedSimpArgs false
set_option linter.unusedVariables false
namespace Go.Fu
open Go Go.Mx
theorem zlh : okFun Go.Proofs.Tryz.prog Go.Proofs.Tryz.f4 a_101 = true := by kernel_rfl
theorem zu3 : okFun Go.Proofs.Tryz.prog Go.Proofs.Tryz.f9 a_107 = true := by kernel_rfl
theorem zqm : okFun Go.Proofs.Tryz.prog Go.Proofs.Tryz.f11 a_103 = true := by kernel_rfl
theorem zsc : okFun Go.Proofs.Tryz.prog Go.Proofs.Tryz.f14 a_125 = true := by kernel_rfl
theorem zuz : okFun Go.Proofs.Tryz.prog Go.Proofs.Tryz.f15 a_133 = true := by kernel_rfl
theorem zx9 : okFun Go.Proofs.Tryz.prog Go.Proofs.Tryz.f16 a_137 = true := by kernel_rfl
theorem zse : okFun Go.Proofs.Tryz.prog Go.Proofs.Tryz.f17 a_18 = true := by kernel_rfl
theorem zsa : okFun Go.Proofs.Tryz.prog Go.Proofs.Tryz.f18 a_189 = true := by kernel_rfl
theorem zo8 : okFun Go.Proofs.Tryz.prog Go.Proofs.Tryz.f19 a_138 = true := by kernel_rfl
theorem zur : okFun Go.Proofs.Tryz.prog Go.Proofs.Tryz.f20 a_102 = true := by kernel_rfl
theorem zsb : okFun Go.Proofs.Tryz.prog Go.Proofs.Tryz.f21 a_120 = true := by kernel_rfl
theorem zob : okFun Go.Proofs.Tryz.prog Go.Proofs.Tryz.f22 a_82 = true := by kernel_rfl
theorem zpa : okFun Go.Proofs.Tryz.prog Go.Proofs.Tryz.f23 a_141 = true := by kernel_rfl
theorem zsi : okFun Go.Proofs.Tryz.prog Go.Proofs.Tryz.f24 a_136 = true := by kernel_rfl
theorem zoa : okFun Go.Proofs.Tryz.prog Go.Proofs.Tryz.f25 a_139 = true := by kernel_rfl
theorem zo9 : okFun Go.Proofs.Tryz.prog Go.Proofs.Tryz.f34 a_191 = true := by kernel_rfl
theorem zu0 : okFun Go.Proofs.Tryz.prog Go.Proofs.Tryz.f37 a_134 = true := by kernel_rfl
theorem zsh : okFun Go.Proofs.Tryz.prog Go.Proofs.Tryz.f38 a_132 = true := by kernel_rfl
theorem zsd : okFun Go.Proofs.Tryz.prog Go.Proofs.Tryz.f39 a_129 = true := by kernel_rfl
theorem zuu : okFun Go.Proofs.Tryz.prog Go.Proofs.Tryz.f40 a_123 = true := by kernel_rfl
theorem zqn : okFun Go.Proofs.Tryz.prog Go.Proofs.Tryz.f42 a_149 = true := by kernel_rfl
theorem zu2 : okFun Go.Proofs.Tryz.prog Go.Proofs.Tryz.f44 a_135 = true := by kernel_rfl
theorem za2b : okFun Go.Proofs.Tryz.prog Go.Proofs.Tryz.f45 a_105 = true := by kernel_rfl
theorem zx7 : okFun Go.Proofs.Tryz.prog Go.Proofs.Tryz.f46 a_130 = true := by kernel_rfl
theorem zuw : okFun Go.Proofs.Tryz.prog Go.Proofs.Tryz.f47 a_126 = true := by kernel_rfl
theorem zx4 : okFun Go.Proofs.Tryz.prog Go.Proofs.Tryz.f48 a_104 = true := by kernel_rfl
theorem zo7 : okFun Go.Proofs.Tryz.prog Go.Proofs.Tryz.f49 a_190 = true := by kernel_rfl
theorem zsm : okFun Go.Proofs.Tryz.prog Go.Proofs.Tryz.f50 a_158 = true := by kernel_rfl
theorem zsl : okFun Go.Proofs.Tryz.prog Go.Proofs.Tryz.f51 a_194 = true := by kernel_rfl
theorem zsj : okFun Go.Proofs.Tryz.prog Go.Proofs.Tryz.f52 a_192 = true := by kernel_rfl
theorem zsk : okFun Go.Proofs.Tryz.prog Go.Proofs.Tryz.f53 a_193 = true := by kernel_rfl
theorem zo6 : okFun Go.Proofs.Tryz.prog Go.Proofs.Tryz.f54 a_121 = true := by kernel_rfl
theorem zpb : okFun Go.Proofs.Tryz.prog Go.Proofs.Tryz.f55 a_156 = true := by kernel_rfl
theorem zoc : okFun Go.Proofs.Tryz.prog Go.Proofs.Tryz.f56 a_155 = true := by kernel_rfl
theorem znc : okFun Go.Proofs.Tryz.prog Go.Proofs.Tryz.f57 a_142 = true := by kernel_rfl
theorem zl4 : okFun Go.Proofs.Tryz.prog Go.Proofs.Tryz.f58 a_143 = true := by kernel_rfl
theorem zik : okFun Go.Proofs.Tryz.prog Go.Proofs.Tryz.f59 a_151 = true := by kernel_rfl
theorem zhs : okFun Go.Proofs.Tryz.prog Go.Proofs.Tryz.f60 a_150 = true := by kernel_rfl
theorem zqp : okFun Go.Proofs.Tryz.prog Go.Proofs.Tryz.f61 a_157 = true := by kernel_rfl
theorem znb : okFun Go.Proofs.Tryz.prog Go.Proofs.Tryz.f62 a_122 = true := by kernel_rfl
theorem znd : okFun Go.Proofs.Tryz.prog Go.Proofs.Tryz.f64 a_147 = true := by kernel_rfl
theorem zhw : okFun Go.Proofs.Tryz.prog Go.Proofs.Tryz.f65 a_146 = true := by kernel_rfl
theorem zgu : okFun Go.Proofs.Tryz.prog Go.Proofs.Tryz.f66 a_144 = true := by kernel_rfl
theorem zil : okFun Go.Proofs.Tryz.prog Go.Proofs.Tryz.f68 a_23 = true := by kernel_rfl
theorem zfn : okFun Go.Proofs.Tryz.prog Go.Proofs.Tryz.f69 a_152 = true := by kernel_rfl
theorem zgv : okFun Go.Proofs.Tryz.prog Go.Proofs.Tryz.f70 a_48 = true := by kernel_rfl
theorem zl3 : okFun Go.Proofs.Tryz.prog Go.Proofs.Tryz.f71 a_140 = true := by kernel_rfl
theorem zpc : okFun Go.Proofs.Tryz.prog Go.Proofs.Tryz.f87 a_20 = true := by kernel_rfl
theorem zx8 : okFun Go.Proofs.Tryz.prog Go.Proofs.Tryz.f91 a_2 = true := by kernel_rfl
theorem zut : okFun Go.Proofs.Tryz.prog Go.Proofs.Tryz.f92 a_71 = true := by kernel_rfl
theorem zsg : okFun Go.Proofs.Tryz.prog Go.Proofs.Tryz.f93 a_131 = true := by kernel_rfl
theorem zu1 : okFun Go.Proofs.Tryz.prog Go.Proofs.Tryz.f94 a_106 = true := by kernel_rfl
theorem zsf : okFun Go.Proofs.Tryz.prog Go.Proofs.Tryz.f95 a_7 = true := by kernel_rfl
theorem zuv : okFun Go.Proofs.Tryz.prog Go.Proofs.Tryz.f96 a_26 = true := by kernel_rfl
theorem zuy : okFun Go.Proofs.Tryz.prog Go.Proofs.Tryz.f97 a_19 = true := by kernel_rfl
theorem zsn : okFun Go.Proofs.Tryz.prog Go.Proofs.Tryz.f98 a_161 = true := by kernel_rfl
theorem zpd : okFun Go.Proofs.Tryz.prog Go.Proofs.Tryz.f99 a_159 = true := by kernel_rfl
theorem zpg : okFun Go.Proofs.Tryz.prog Go.Proofs.Tryz.f100 a_17 = true := by kernel_rfl
theorem zfj : okFun Go.Proofs.Tryz.prog Go.Proofs.Tryz.f102 a_154 = true := by kernel_rfl
theorem zql : okFun Go.Proofs.Tryz.prog Go.Proofs.Tryz.f104 a_69 = true := by kernel_rfl
theorem zi2 : okFun Go.Proofs.Tryz.prog Go.Proofs.Tryz.f105 a_68 = true := by kernel_rfl
theorem zqq : okFun Go.Proofs.Tryz.prog Go.Proofs.Tryz.f106 a_30 = true := by kernel_rfl
theorem zqo : okFun Go.Proofs.Tryz.prog Go.Proofs.Tryz.f107 a_29 = true := by kernel_rfl
theorem zgj : okFun Go.Proofs.Tryz.prog Go.Proofs.Tryz.f108 a_58 = true := by kernel_rfl
theorem zli : okFun Go.Proofs.Tryz.prog Go.Proofs.Tryz.f109 a_148 = true := by kernel_rfl
theorem zg5 : okFun Go.Proofs.Tryz.prog Go.Proofs.Tryz.f110 a_57 = true := by kernel_rfl
theorem zfw : okFun Go.Proofs.Tryz.prog Go.Proofs.Tryz.f111 a_145 = true := by kernel_rfl
theorem zna : okFun Go.Proofs.Tryz.prog Go.Proofs.Tryz.f112 a_118 = true := by kernel_rfl
theorem zfx : okFun Go.Proofs.Tryz.prog Go.Proofs.Tryz.f114 a_153 = true := by kernel_rfl
theorem zux : okFun Go.Proofs.Tryz.prog Go.Proofs.Tryz.f133 a_128 = true := by kernel_rfl
theorem zx5 : okFun Go.Proofs.Tryz.prog Go.Proofs.Tryz.f134 a_124 = true := by kernel_rfl
theorem zx6 : okFun Go.Proofs.Tryz.prog Go.Proofs.Tryz.f135 a_127 = true := by kernel_rfl
theorem zpe : okFun Go.Proofs.Tryz.prog Go.Proofs.Tryz.f136 a_14 = true := by kernel_rfl
theorem zne : okFun Go.Proofs.Tryz.prog Go.Proofs.Tryz.f137 a_160 = true := by kernel_rfl
theorem zkn : okFun Go.Proofs.Tryz.prog Go.Proofs.Tryz.f140 a_119 = true := by kernel_rfl
theorem zpf : okFun Go.Proofs.Tryz.prog Go.Proofs.Tryz.f141 a_162 = true := by kernel_rfl
theorem zgw : okFun Go.Proofs.Tryz.prog Go.Proofs.Tryz.f142 a_59 = true := by kernel_rfl
theorem zek : okFun Go.Proofs.Tryz.prog Go.Proofs.Tryz.f143 a_88 = true := by kernel_rfl
end Go.Fu
namespace Go.Mx
open Go
theorem Evo.toShared {ι0 ι : Imm} {j0 j : Lay} {own0 own : Own} {w0 w : World} (hE : Evo ι0 j0 own0 w0 ι j own w (fun _ => True)) : Evo ι0 j0 own0 w0 ι j (shared own) w (fun _ => True) := by
  refine ⟨hE.os, hE.tape, hE.output, hE.size, hE.imm, hE.lay, fun b hb ht => ?_⟩
  have hn : own0 b = none := by
    cases h : own0 b with
    | none => rfl
    | some t => exact absurd trivial (ht t h)
  obtain ⟨k1, k2, k3⟩ := hE.block b hb ht
  refine ⟨k1, ?_, k3⟩
  unfold shared
  rw [k2, hn]
end Go.Mx
namespace Go.Fu
open Go Go.Mx
def digF : Nat → Nat → List UInt8 → List UInt8
  | 0, _, acc => acc
  | k + 1, n, acc => ifB (decide (n < 10)) (UInt8.ofNat (48 + n) :: acc) (digF k (n / 10) (UInt8.ofNat (48 + n % 10) :: acc))
def digN (n : Nat) : List UInt8 := digF 20 n []
def itoaN (n : Int) : List UInt8 := match n with
  | .ofNat m => digN m
  | .negSucc m => 45 :: digN (m + 1)
def inI64 (n : Int) : Bool := decide (-9223372036854775808 ≤ n) && decide (n ≤ 9223372036854775807)
def xItoa : List D → Option D
  | [.int .i64 n] => ifB (inI64 n) (some (.str (itoaN n))) none
  | _ => none
def xCopy (ds : List D) (σ : Store) : Option (Out × Store) := match ds with
  | [.ptr id 0] => bindO (aget σ.tys id) fun t => ifB (t.t == t_6) (bindO (aget σ.objs id) fun cs => match cs with
    | [c0, c1] => (match c0.d with
      | .nilp => some (.ret ⟨false, .tup []⟩, { σ with objs := aset σ.objs id [⟨false, .ptr id 0⟩, c1] })
      | .ptr id' 0 => ifB (id' == id) (some (.ret ⟨false, .tup []⟩, σ)) none
      | _ => none)
    | _ => none) none
  | _ => none
def zk7 (k : RowK) : Bool := k.el == k_11.el && k.sz == 1
def zji (ds : List D) (σ : Store) : Option (Out × Store) := match ds with
  | [.ptr id 0] => bindO (aget σ.tys id) fun t => ifB (t.t == t_6) (bindO (aget σ.objs id) fun cs => match cs with
    | [c0, c1] => (match c1.d with
      | .list k es => ifB (c1.own && zk7 k && !es.isEmpty) (bindO (zd3 es) fun s => some (.ret ⟨false, .str s⟩, { σ with objs := aset σ.objs id [c0, ⟨false, c1.d⟩] })) none
      | _ => none)
    | _ => none) none
  | _ => none
def xGrow (ds : List D) (σ : Store) : Option (Out × Store) := match ds with
  | [.ptr id 0, .int .i64 (.ofNat n)] => bindO (aget σ.tys id) fun t => ifB (t.t == t_6 && decide (0 < n) && decide (n ≤ 1099511627776)) (bindO (aget σ.objs id) fun cs => match cs with
    | [c0, c1] => (match c0.d, c1.d with
      | .nilp, .nils => some (.ret ⟨false, .tup []⟩, { σ with objs := aset σ.objs id [⟨false, .ptr id 0⟩, ⟨true, .list k_11 []⟩] })
      | _, _ => none)
    | _ => none) none
  | _ => none
end Go.Fu
namespace Go.Fu
open Go Go.Mx
def Γa : FuncId → Option AFun := fun f => match f with
  | 4 => some a_101
  | 9 => some a_107
  | 11 => some a_103
  | 14 => some a_125
  | 15 => some a_133
  | 16 => some a_137
  | 17 => some a_18
  | 18 => some a_189
  | 19 => some a_138
  | 20 => some a_102
  | 21 => some a_120
  | 22 => some a_82
  | 23 => some a_141
  | 24 => some a_136
  | 25 => some a_139
  | 34 => some a_191
  | 37 => some a_134
  | 38 => some a_132
  | 39 => some a_129
  | 40 => some a_123
  | 42 => some a_149
  | 44 => some a_135
  | 45 => some a_105
  | 46 => some a_130
  | 47 => some a_126
  | 48 => some a_104
  | 49 => some a_190
  | 50 => some a_158
  | 51 => some a_194
  | 52 => some a_192
  | 53 => some a_193
  | 54 => some a_121
  | 55 => some a_156
  | 56 => some a_155
  | 57 => some a_142
  | 58 => some a_143
  | 59 => some a_151
  | 60 => some a_150
  | 61 => some a_157
  | 62 => some a_122
  | 64 => some a_147
  | 65 => some a_146
  | 66 => some a_144
  | 68 => some a_23
  | 69 => some a_152
  | 70 => some a_48
  | 71 => some a_140
  | 87 => some a_20
  | 91 => some a_2
  | 92 => some a_71
  | 93 => some a_131
  | 94 => some a_106
  | 95 => some a_7
  | 96 => some a_26
  | 97 => some a_19
  | 98 => some a_161
  | 99 => some a_159
  | 100 => some a_17
  | 102 => some a_154
  | 104 => some a_69
  | 105 => some a_68
  | 106 => some a_30
  | 107 => some a_29
  | 108 => some a_58
  | 109 => some a_148
  | 110 => some a_57
  | 111 => some a_145
  | 112 => some a_118
  | 114 => some a_153
  | 133 => some a_128
  | 134 => some a_124
  | 135 => some a_127
  | 136 => some a_14
  | 137 => some a_160
  | 140 => some a_119
  | 141 => some a_162
  | 142 => some a_59
  | 143 => some a_88
  | _ => none
theorem Γa_holds : Holds Go.Proofs.Tryz.prog Γa := by
  intro f af h
  unfold Γa at h
  split at h
  · cases h; exact ⟨_, Go.Proofs.Tryz.func4, zlh⟩
  · cases h; exact ⟨_, Go.Proofs.Tryz.func9, zu3⟩
  · cases h; exact ⟨_, Go.Proofs.Tryz.func11, zqm⟩
  · cases h; exact ⟨_, Go.Proofs.Tryz.func14, zsc⟩
  · cases h; exact ⟨_, Go.Proofs.Tryz.func15, zuz⟩
  · cases h; exact ⟨_, Go.Proofs.Tryz.func16, zx9⟩
  · cases h; exact ⟨_, Go.Proofs.Tryz.func17, zse⟩
  · cases h; exact ⟨_, Go.Proofs.Tryz.func18, zsa⟩
  · cases h; exact ⟨_, Go.Proofs.Tryz.func19, zo8⟩
  · cases h; exact ⟨_, Go.Proofs.Tryz.func20, zur⟩
  · cases h; exact ⟨_, Go.Proofs.Tryz.func21, zsb⟩
  · cases h; exact ⟨_, Go.Proofs.Tryz.func22, zob⟩
  · cases h; exact ⟨_, Go.Proofs.Tryz.func23, zpa⟩
  · cases h; exact ⟨_, Go.Proofs.Tryz.func24, zsi⟩
  · cases h; exact ⟨_, Go.Proofs.Tryz.func25, zoa⟩
  · cases h; exact ⟨_, Go.Proofs.Tryz.func34, zo9⟩
  · cases h; exact ⟨_, Go.Proofs.Tryz.func37, zu0⟩
  · cases h; exact ⟨_, Go.Proofs.Tryz.func38, zsh⟩
  · cases h; exact ⟨_, Go.Proofs.Tryz.func39, zsd⟩
  · cases h; exact ⟨_, Go.Proofs.Tryz.func40, zuu⟩
  · cases h; exact ⟨_, Go.Proofs.Tryz.func42, zqn⟩
  · cases h; exact ⟨_, Go.Proofs.Tryz.func44, zu2⟩
  · cases h; exact ⟨_, Go.Proofs.Tryz.func45, za2b⟩
  · cases h; exact ⟨_, Go.Proofs.Tryz.func46, zx7⟩
  · cases h; exact ⟨_, Go.Proofs.Tryz.func47, zuw⟩
  · cases h; exact ⟨_, Go.Proofs.Tryz.func48, zx4⟩
  · cases h; exact ⟨_, Go.Proofs.Tryz.func49, zo7⟩
  · cases h; exact ⟨_, Go.Proofs.Tryz.func50, zsm⟩
  · cases h; exact ⟨_, Go.Proofs.Tryz.func51, zsl⟩
  · cases h; exact ⟨_, Go.Proofs.Tryz.func52, zsj⟩
  · cases h; exact ⟨_, Go.Proofs.Tryz.func53, zsk⟩
  · cases h; exact ⟨_, Go.Proofs.Tryz.func54, zo6⟩
  · cases h; exact ⟨_, Go.Proofs.Tryz.func55, zpb⟩
  · cases h; exact ⟨_, Go.Proofs.Tryz.func56, zoc⟩
  · cases h; exact ⟨_, Go.Proofs.Tryz.func57, znc⟩
  · cases h; exact ⟨_, Go.Proofs.Tryz.func58, zl4⟩
  · cases h; exact ⟨_, Go.Proofs.Tryz.func59, zik⟩
  · cases h; exact ⟨_, Go.Proofs.Tryz.func60, zhs⟩
  · cases h; exact ⟨_, Go.Proofs.Tryz.func61, zqp⟩
  · cases h; exact ⟨_, Go.Proofs.Tryz.func62, znb⟩
  · cases h; exact ⟨_, Go.Proofs.Tryz.func64, znd⟩
  · cases h; exact ⟨_, Go.Proofs.Tryz.func65, zhw⟩
  · cases h; exact ⟨_, Go.Proofs.Tryz.func66, zgu⟩
  · cases h; exact ⟨_, Go.Proofs.Tryz.func68, zil⟩
  · cases h; exact ⟨_, Go.Proofs.Tryz.func69, zfn⟩
  · cases h; exact ⟨_, Go.Proofs.Tryz.func70, zgv⟩
  · cases h; exact ⟨_, Go.Proofs.Tryz.func71, zl3⟩
  · cases h; exact ⟨_, Go.Proofs.Tryz.func87, zpc⟩
  · cases h; exact ⟨_, Go.Proofs.Tryz.func91, zx8⟩
  · cases h; exact ⟨_, Go.Proofs.Tryz.func92, zut⟩
  · cases h; exact ⟨_, Go.Proofs.Tryz.func93, zsg⟩
  · cases h; exact ⟨_, Go.Proofs.Tryz.func94, zu1⟩
  · cases h; exact ⟨_, Go.Proofs.Tryz.func95, zsf⟩
  · cases h; exact ⟨_, Go.Proofs.Tryz.func96, zuv⟩
  · cases h; exact ⟨_, Go.Proofs.Tryz.func97, zuy⟩
  · cases h; exact ⟨_, Go.Proofs.Tryz.func98, zsn⟩
  · cases h; exact ⟨_, Go.Proofs.Tryz.func99, zpd⟩
  · cases h; exact ⟨_, Go.Proofs.Tryz.func100, zpg⟩
  · cases h; exact ⟨_, Go.Proofs.Tryz.func102, zfj⟩
  · cases h; exact ⟨_, Go.Proofs.Tryz.func104, zql⟩
  · cases h; exact ⟨_, Go.Proofs.Tryz.func105, zi2⟩
  · cases h; exact ⟨_, Go.Proofs.Tryz.func106, zqq⟩
  · cases h; exact ⟨_, Go.Proofs.Tryz.func107, zqo⟩
  · cases h; exact ⟨_, Go.Proofs.Tryz.func108, zgj⟩
  · cases h; exact ⟨_, Go.Proofs.Tryz.func109, zli⟩
  · cases h; exact ⟨_, Go.Proofs.Tryz.func110, zg5⟩
  · cases h; exact ⟨_, Go.Proofs.Tryz.func111, zfw⟩
  · cases h; exact ⟨_, Go.Proofs.Tryz.func112, zna⟩
  · cases h; exact ⟨_, Go.Proofs.Tryz.func114, zfx⟩
  · cases h; exact ⟨_, Go.Proofs.Tryz.func133, zux⟩
  · cases h; exact ⟨_, Go.Proofs.Tryz.func134, zx5⟩
  · cases h; exact ⟨_, Go.Proofs.Tryz.func135, zx6⟩
  · cases h; exact ⟨_, Go.Proofs.Tryz.func136, zpe⟩
  · cases h; exact ⟨_, Go.Proofs.Tryz.func137, zne⟩
  · cases h; exact ⟨_, Go.Proofs.Tryz.func140, zkn⟩
  · cases h; exact ⟨_, Go.Proofs.Tryz.func141, zpf⟩
  · cases h; exact ⟨_, Go.Proofs.Tryz.func142, zgw⟩
  · cases h; exact ⟨_, Go.Proofs.Tryz.func143, zek⟩
  · cases h
def Xa : CallF := fun f ds σ => ifB (f == n_53) (bindO (xItoa ds) fun d => some (.ret ⟨false, d⟩, σ)) (ifB (f == n_54) (xCopy ds σ) (ifB (f == n_65) (zji ds σ) (ifB (f == n_97) (xGrow ds σ) none)))
def Ra : RecF := fun _ _ _ _ => none
def zaqb (n : Nat) (f : FuncId) : Bool := match runQ Γa Ra Xa n false f [] { objs := [], tys := [], oth := [], next := 0 } with
  | some (.ret ⟨false, .bool true⟩, _) => true
  | _ => false
end Go.Fu
namespace Go.Proofs
open Go.Shelf
open Go.Lib in
open Go.Lib in
open Go.Lib in
open Go.Lib in
open Go.RowKit Go.Sort Go.Lib in
open Go.RowKit Go.Sort Go.Lib in
open Go.RowKit Go.Sort Go.Lib in
open Go.RowKit Go.Sort Go.Lib in
open Go.RowKit Go.Sort Go.Lib in
def Tryz.laysM171_ren : Go.Shelf.Ren := ⟨fun | 171 => 72 | 243 => 115 | 246 => 145 | 283 => 166 | 284 => 167 | 285 => 168 | 286 => 169 | 129 => 185 | 317 => 184 | 318 => 186 | 319 => 187 | 320 => 188 | 337 => 190 | 338 => 191 | n => n, fun | 3 => 3 | 9 => 9 | 2 => 2 | 4 => 4 | 171 => 228 | 0 => 0 | 53 => 229 | 37 => 149 | 5 => 5 | 173 => 232 | 212 => 252 | 51 => 253 | 20 => 20 | 213 => 254 | 46 => 227 | 232 => 260 | 233 => 261 | n => n, fun | 17 => 1 | 18 => 2 | 19 => 3 | n => n⟩
theorem Tryz.laysM171 : Go.Proofs.LaysM.n171 Tryz.prog Tryz.laysM171_ren := {
  mixed := by kernel_rfl
  f129 := Tryz.func185.trans (congrArg some (by kernel_rfl))
  f171 := Tryz.func72.trans (congrArg some (by kernel_rfl))
  f243 := Tryz.func115.trans (congrArg some (by kernel_rfl))
  f246 := Tryz.func145.trans (congrArg some (by kernel_rfl))
  f283 := Tryz.func166.trans (congrArg some (by kernel_rfl))
  f284 := Tryz.func167.trans (congrArg some (by kernel_rfl))
  f285 := Tryz.func168.trans (congrArg some (by kernel_rfl))
  f286 := Tryz.func169.trans (congrArg some (by kernel_rfl))
  f317 := Tryz.func184.trans (congrArg some (by kernel_rfl))
  f318 := Tryz.func186.trans (congrArg some (by kernel_rfl))
  f319 := Tryz.func187.trans (congrArg some (by kernel_rfl))
  f320 := Tryz.func188.trans (congrArg some (by kernel_rfl))
  f337 := Tryz.func190.trans (congrArg some (by kernel_rfl))
  f338 := Tryz.func191.trans (congrArg some (by kernel_rfl))
  t0 := Tryz.underlying0
  a0 := Tryz.isAgg0
  z0 := Tryz.sizeOf0
  v0 := Tryz.zeroValue0
  t2 := Tryz.underlying2
  a2 := Tryz.isAgg2
  z2 := Tryz.sizeOf2
  v2 := Tryz.zeroValue2
  t3 := Tryz.underlying3
  a3 := Tryz.isAgg3
  z3 := Tryz.sizeOf3
  v3 := Tryz.zeroValue3
  t4 := Tryz.underlying4
  a4 := Tryz.isAgg4
  z4 := Tryz.sizeOf4
  v4 := Tryz.zeroValue4
  t5 := Tryz.underlying5
  a5 := Tryz.isAgg5
  z5 := Tryz.sizeOf5
  v5 := Tryz.zeroValue5
  t9 := Tryz.underlying9
  a9 := Tryz.isAgg9
  z9 := Tryz.sizeOf9
  v9 := Tryz.zeroValue9
  t20 := Tryz.underlying20
  a20 := Tryz.isAgg20
  z20 := Tryz.sizeOf20
  v20 := Tryz.zeroValue20
  t37 := Tryz.underlying149
  a37 := Tryz.isAgg149
  z37 := Tryz.sizeOf149
  v37 := Tryz.zeroValue149
  t46 := Tryz.underlying227
  a46 := Tryz.isAgg227
  z46 := Tryz.sizeOf227
  v46 := Tryz.zeroValue227
  t51 := Tryz.underlying253
  a51 := Tryz.isAgg253
  z51 := Tryz.sizeOf253
  v51 := Tryz.zeroValue253
  t53 := Tryz.underlying229
  a53 := Tryz.isAgg229
  z53 := Tryz.sizeOf229
  v53 := Tryz.zeroValue229
  t171 := Tryz.underlying228
  a171 := Tryz.isAgg228
  z171 := Tryz.sizeOf228
  v171 := Tryz.zeroValue228
  t173 := Tryz.underlying232
  a173 := Tryz.isAgg232
  z173 := Tryz.sizeOf232
  v173 := Tryz.zeroValue232
  t212 := Tryz.underlying252
  a212 := Tryz.isAgg252
  z212 := Tryz.sizeOf252
  v212 := Tryz.zeroValue252
  t213 := Tryz.underlying254
  a213 := Tryz.isAgg254
  z213 := Tryz.sizeOf254
  t232 := Tryz.underlying260
  a232 := Tryz.isAgg260
  z232 := Tryz.sizeOf260
  v232 := Tryz.zeroValue260
  t233 := Tryz.underlying261
  a233 := Tryz.isAgg261
  z233 := Tryz.sizeOf261
  v233 := Tryz.zeroValue261
  g17 := by kernel_rfl
  g18 := by kernel_rfl
  g19 := by kernel_rfl
  i0 := by kernel_rfl
  i2 := by kernel_rfl
  i3 := by kernel_rfl
  i4 := by kernel_rfl
  i5 := by kernel_rfl
  i9 := by kernel_rfl
  i20 := by kernel_rfl
  i37 := by kernel_rfl
  i46 := by kernel_rfl
  i51 := by kernel_rfl
  i53 := by kernel_rfl
  i171 := by kernel_rfl
  i173 := by kernel_rfl
  i212 := by kernel_rfl
  i232 := by kernel_rfl
  i233 := by kernel_rfl
  m17 := by kernel_rfl
  m18 := by kernel_rfl
  m19 := by kernel_rfl }
open Go.RowKit Go.Sort Go.Lib in
theorem Tryz.strconv_Itoa (n : Int) (h0 : -9223372036854775808 ≤ n) (h1 : n ≤ 9223372036854775807) (w : World) (htab : Lib.TabIs Tryz.prog w "internal/strconv.uint64pow10" .u64 Lib.pow10Tab) :
    Calls Tryz.prog 72 #[.int .i64 n] w fun e w' => e = .returned (.string ⟨(Lib.itoa n).toArray⟩) ∧ ∃ k os, w' = grow (w.drewN k) os := Any.strconv_Itoa Tryz.laysM171 n h0 h1 w htab
end Go.Proofs
namespace Go.Fu
open Go Go.RowKit
theorem zanb {P : Program} {T : TypeId} {n : Nat} (hd : (P.depth == 0) = false) (hc : P.cellsOf T = 2) (hs : sameLayout P P.depth T T = true) (hn : 2 ≤ n) : liesAt P P.depth T (n / P.cellsOf T) 0 T 1 = true := by
  have h0 : P.depth ≠ 0 := by simpa using hd
  obtain ⟨d, hd⟩ : ∃ d, P.depth = d + 1 := ⟨P.depth - 1, by omega⟩
  have hk : 1 ≤ n / 2 := by omega
  rw [hd] at hs ⊢
  unfold liesAt
  rw [hd]
  unfold rowAt
  simp only [hc, hs, Nat.zero_div, Nat.zero_mod]
  simp [hk]
set_option maxHeartbeats 1000000 in
set_option maxRecDepth 100000 in
theorem zzq (b : Nat) (w : World) (h0 : w.cell? ⟨b, 0, none⟩ = some (.pointer (some ⟨b, 0, none⟩))) :
    Calls Go.Proofs.Tryz.prog n_54 #[.pointer (some ⟨b, 0, none⟩)] w fun e w' => e = .returned (.tuple #[]) ∧ w' = w := by
  obtain ⟨j, hj, _⟩ := Option.map_eq_some_iff.1 (show (Go.Proofs.Tryz.prog.info? t_6).map (·.size) = some 2 by kernel_rfl)
  go_enter Go.Proofs.Tryz.func138, Go.Proofs.Tryz.ntmps138
  go_wp2
  rw [Lib.run_neq_ptr_same w _ Go.Proofs.Tryz.underlying151 hj]
  go_wp2
  go_end0
  exact ⟨rfl, rfl⟩
set_option maxHeartbeats 1000000 in
set_option maxRecDepth 100000 in
theorem znu (b : Nat) (w : World) (h0 : w.cell? ⟨b, 0, none⟩ = some (.pointer none)) {n : Nat} (hn : 2 ≤ n) (hsh : w.shape? b = some (t_6, n)) (hfz : w.frozen? ⟨b, 0, none⟩ = false) :
    Calls Go.Proofs.Tryz.prog n_54 #[.pointer (some ⟨b, 0, none⟩)] w fun e w' => e = .returned (.tuple #[]) ∧ w' = w.setCell ⟨b, 0, none⟩ (.pointer (some ⟨b, 0, none⟩)) := by
  obtain ⟨j, hj, hjs⟩ := Option.map_eq_some_iff.1 (show (Go.Proofs.Tryz.prog.info? t_6).map (·.size) = some 2 by kernel_rfl)
  go_enter Go.Proofs.Tryz.func138, Go.Proofs.Tryz.ntmps138
  go_wp2
  rw [Lib.run_to_unsafe w ⟨b, 0, none⟩ Go.Proofs.Tryz.underlying151 Go.Proofs.Tryz.underlying224 hj (by rw [hjs]; decide) hsh (by show 0 < n; omega)]
  simp only [Result.andThen]
  rw [Oper.upon_value]
  go_wp2
  rw [run_callFunc_extern Go.Proofs.Tryz.func163 (by kernel_rfl) (by kernel_rfl) (by kernel_rfl) (e := Extern.AbiNoEscape.same) (by kernel_rfl)]
  rw [Lib.run_noEscape]
  simp only [Result.andThen]
  rw [Oper.upon_value]
  go_wp2
  rw [Lib.run_from_unsafe w ⟨b, 0, none⟩ Go.Proofs.Tryz.underlying224 Go.Proofs.Tryz.underlying151 hj hsh (zanb (by kernel_rfl) (by kernel_rfl) (by kernel_rfl) hn)]
  simp only [Result.andThen]
  rw [Oper.upon_value]
  go_wp2
  go_end0
  exact ⟨rfl, rfl⟩
end Go.Fu
namespace Go.Fu
open Go Go.RowKit
set_option maxHeartbeats 2000000 in
set_option maxRecDepth 100000 in
theorem zvl (b g cap : Nat) (p : Value) (rest : List Value) (cur : Array Value) (l : List UInt8) (w : World) (h0 : l ≠ []) (hbk : w.heap[b]? = some (.cells ⟨p :: .slice (some ⟨g, 0, none⟩) l.length cap :: rest⟩ t_6 (0, 0))) (hg : w.heap[g]? = some (.cells cur 5 (0, 0)))
    (hnc : l.length ≤ cap) (hcm : cap ≤ maxLen) (hcs : cur.size = cap * 1) (hcells : ∀ (j : Nat) (x : UInt8), l[j]? = some x → w.cell? ⟨g, j, none⟩ = some (.int .u8 x.toNat)) :
    Calls Go.Proofs.Tryz.prog n_65 #[.pointer (some ⟨b, 0, none⟩)] w fun e w' => e = .returned (.string ⟨l.toArray⟩) ∧ w' = w.drew.freeze ⟨g, 0, none⟩ l.length := by
  have hl0 : l.length ≠ 0 := by simpa using h0
  have c1 : w.drew.cell? ⟨b, 1, none⟩ = some (.slice (some ⟨g, 0, none⟩) l.length cap) := by
    have : w.drew.heap[b]? = some (.cells ⟨p :: .slice (some ⟨g, 0, none⟩) l.length cap :: rest⟩ t_6 (0, 0)) := hbk
    rw [Lib.cell_of_heap this]; rfl
  have hSD : (Builtin.unsafeSliceData_ #[149] 201 #[.slice (some ⟨g, 0, none⟩) l.length cap]).run Go.Proofs.Tryz.prog w.drew = .ok (.pointer (some ⟨g, 0, none⟩)) w.drew :=
    Lib.run_unsafeSliceData_row _ _ _ _ _ _ (by omega)
  have hUS : (Builtin.unsafeString_ #[201, 3] 9 #[.pointer (some ⟨g, 0, none⟩), .int .i64 l.length]).run Go.Proofs.Tryz.prog w.drew = .ok (.string ⟨l.toArray⟩) (w.drew.freeze ⟨g, 0, none⟩ l.length) := by
    refine Lib.run_unsafeString_row w.drew 201 3 9 5 Go.Proofs.Tryz.underlying201 (by kernel_rfl) g cur.size (by have hg' : w.drew.heap[g]? = some (.cells cur 5 (0, 0)) := hg; simp [World.shape?, hg']) l h0 (by omega) (by unfold maxLen at hcm; omega) ?_
    intro j x hx
    have := hcells j x hx
    simpa [Addr.add_lit] using this
  clear hcells
  go_enter Go.Proofs.Tryz.func103, Go.Proofs.Tryz.ntmps103
  go_wp2
  go_region
  all_goals (go_wp2; go_ret; exact ⟨rfl, rfl⟩)
end Go.Fu

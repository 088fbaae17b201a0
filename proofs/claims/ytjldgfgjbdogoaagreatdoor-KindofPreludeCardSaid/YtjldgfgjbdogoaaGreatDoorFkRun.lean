/-
  The table of the functions that the machine runs, and their fit.
-/
import Derived.Test.YtjldgfgjbdogoaaGreatDoorMyRecover
set_option linter.unusedSimpArgs false
set_option linter.unusedVariables false
set_option linter.unusedSectionVars false
namespace Go.Fu
open Go Go.Mx
set_option maxRecDepth 100000
instance : LoopKit := ⟨fun N c c2 => zcn Go.Proofs.Tryz.prog N true c c2 = true⟩
instance : KitOf Go.Proofs.Tryz.prog inferInstance := ⟨fun _ _ _ => Iff.rfl⟩
def Γa : FuncId → Option AFun := fun f => match f with
  | 3 => some a_38
  | 4 => some a_94
  | 5 => some a_42
  | 6 => some a_210
  | 7 => some a_211
  | 8 => some a_151
  | 9 => some a_60
  | 10 => some a_61
  | 11 => some a_59
  | 12 => some a_147
  | 13 => some a_144
  | 14 => some a_164
  | 15 => some a_63
  | 16 => some a_62
  | 17 => some a_55
  | 18 => some a_177
  | 19 => some a_92
  | 20 => some a_163
  | 21 => some a_102
  | 22 => some a_58
  | 23 => some a_56
  | 24 => some a_137
  | 25 => some a_26
  | 26 => some a_131
  | 27 => some a_129
  | 28 => some a_207
  | 29 => some a_195
  | 30 => some a_200
  | 31 => some a_183
  | 32 => some a_221
  | 33 => some a_220
  | 34 => some a_223
  | 35 => some a_113
  | 36 => some a_106
  | 37 => some a_228
  | 38 => some a_93
  | 39 => some a_121
  | 40 => some a_126
  | 41 => some a_99
  | 42 => some a_95
  | 43 => some a_133
  | 44 => some a_105
  | 45 => some a_134
  | 47 => some a_140
  | 48 => some a_132
  | 49 => some a_57
  | 50 => some a_136
  | 51 => some a_123
  | 52 => some a_101
  | 53 => some a_157
  | 54 => some a_192
  | 55 => some a_191
  | 56 => some a_181
  | 57 => some a_180
  | 58 => some a_186
  | 59 => some a_182
  | 60 => some a_197
  | 61 => some a_194
  | 62 => some a_185
  | 63 => some a_125
  | 64 => some a_114
  | 65 => some a_110
  | 66 => some a_212
  | 67 => some a_120
  | 68 => some a_103
  | 69 => some a_115
  | 70 => some a_116
  | 71 => some a_128
  | 72 => some a_122
  | 73 => some a_124
  | 74 => some a_107
  | 75 => some a_97
  | 76 => some a_108
  | 77 => some a_109
  | 78 => some a_119
  | 79 => some a_225
  | 80 => some a_112
  | 81 => some a_232
  | 82 => some a_243
  | 83 => some a_246
  | 84 => some a_100
  | 85 => some a_127
  | 86 => some a_96
  | 87 => some a_118
  | 88 => some a_217
  | 89 => some a_143
  | 90 => some a_146
  | 91 => some a_135
  | 92 => some a_158
  | 93 => some a_160
  | 94 => some a_187
  | 95 => some a_202
  | 96 => some a_190
  | 97 => some a_205
  | 98 => some a_206
  | 99 => some a_208
  | 100 => some a_193
  | 101 => some a_204
  | 102 => some a_169
  | 103 => some a_199
  | 104 => some a_201
  | 105 => some a_178
  | 106 => some a_111
  | 107 => some a_117
  | 108 => some a_214
  | 109 => some a_213
  | 110 => some a_226
  | 111 => some a_236
  | 112 => some a_104
  | 113 => some a_90
  | 114 => some a_98
  | 115 => some a_227
  | 116 => some a_224
  | 117 => some a_245
  | 118 => some a_219
  | 119 => some a_130
  | 120 => some a_218
  | 121 => some a_148
  | 122 => some a_139
  | 123 => some a_159
  | 124 => some a_150
  | 125 => some a_152
  | 126 => some a_161
  | 127 => some a_149
  | 128 => some a_156
  | 129 => some a_162
  | 130 => some a_171
  | 131 => some a_170
  | 132 => some a_174
  | 133 => some a_172
  | 134 => some a_173
  | 135 => some a_184
  | 136 => some a_209
  | 137 => some a_215
  | 138 => some a_239
  | 139 => some a_91
  | 140 => some a_235
  | 141 => some a_248
  | 142 => some a_222
  | 144 => some a_138
  | 145 => some a_153
  | 146 => some a_175
  | 147 => some a_166
  | 148 => some a_176
  | 149 => some a_165
  | 150 => some a_188
  | 151 => some a_189
  | 152 => some a_179
  | 153 => some a_196
  | 154 => some a_231
  | 155 => some a_216
  | 156 => some a_237
  | 157 => some a_241
  | 158 => some a_244
  | 159 => some a_230
  | 160 => some a_247
  | 161 => some a_242
  | 162 => some a_141
  | 163 => some a_145
  | 164 => some a_154
  | 165 => some a_155
  | 166 => some a_167
  | 167 => some a_168
  | 168 => some a_198
  | 169 => some a_233
  | 170 => some a_238
  | 171 => some a_89
  | 172 => some a_229
  | 173 => some a_142
  | 174 => some a_203
  | 175 => some a_240
  | 177 => some a_234
  | _ => none
theorem Γa_holds : Holds Go.Proofs.Tryz.prog Γa := by
  intro f af h
  unfold Γa at h
  split at h
  · cases h; exact ⟨rfl, _, Go.Proofs.Tryz.func3, zka⟩
  · cases h; exact ⟨rfl, _, Go.Proofs.Tryz.func4, zmg⟩
  · cases h; exact ⟨rfl, _, Go.Proofs.Tryz.func5, zq7⟩
  · cases h; exact ⟨rfl, _, Go.Proofs.Tryz.func6, zp3⟩
  · cases h; exact ⟨rfl, _, Go.Proofs.Tryz.func7, znq⟩
  · cases h; exact ⟨rfl, _, Go.Proofs.Tryz.func8, zno⟩
  · cases h; exact ⟨rfl, _, Go.Proofs.Tryz.func9, ztk⟩
  · cases h; exact ⟨rfl, _, Go.Proofs.Tryz.func10, ztl⟩
  · cases h; exact ⟨rfl, _, Go.Proofs.Tryz.func11, zu2⟩
  · cases h; exact ⟨rfl, _, Go.Proofs.Tryz.func12, zs0⟩
  · cases h; exact ⟨rfl, _, Go.Proofs.Tryz.func13, zq6⟩
  · cases h; exact ⟨rfl, _, Go.Proofs.Tryz.func14, zu7⟩
  · cases h; exact ⟨rfl, _, Go.Proofs.Tryz.func15, ztn⟩
  · cases h; exact ⟨rfl, _, Go.Proofs.Tryz.func16, zp5⟩
  · cases h; exact ⟨rfl, _, Go.Proofs.Tryz.func17, zsx⟩
  · cases h; exact ⟨rfl, _, Go.Proofs.Tryz.func18, zpy⟩
  · cases h; exact ⟨rfl, _, Go.Proofs.Tryz.func19, zon⟩
  · cases h; exact ⟨rfl, _, Go.Proofs.Tryz.func20, zs6⟩
  · cases h; exact ⟨rfl, _, Go.Proofs.Tryz.func21, znk⟩
  · cases h; exact ⟨rfl, _, Go.Proofs.Tryz.func22, zov⟩
  · cases h; exact ⟨rfl, _, Go.Proofs.Tryz.func23, zps⟩
  · cases h; exact ⟨rfl, _, Go.Proofs.Tryz.func24, zj7⟩
  · cases h; exact ⟨rfl, _, Go.Proofs.Tryz.func25, zls⟩
  · cases h; exact ⟨rfl, _, Go.Proofs.Tryz.func26, zq5⟩
  · cases h; exact ⟨rfl, _, Go.Proofs.Tryz.func27, zou⟩
  · cases h; exact ⟨rfl, _, Go.Proofs.Tryz.func28, ztg⟩
  · cases h; exact ⟨rfl, _, Go.Proofs.Tryz.func29, zve⟩
  · cases h; exact ⟨rfl, _, Go.Proofs.Tryz.func30, znp⟩
  · cases h; exact ⟨rfl, _, Go.Proofs.Tryz.func31, zs8⟩
  · cases h; exact ⟨rfl, _, Go.Proofs.Tryz.func32, zkc⟩
  · cases h; exact ⟨rfl, _, Go.Proofs.Tryz.func33, zjc⟩
  · cases h; exact ⟨rfl, _, Go.Proofs.Tryz.func34, zkd⟩
  · cases h; exact ⟨rfl, _, Go.Proofs.Tryz.func35, zos⟩
  · cases h; exact ⟨rfl, _, Go.Proofs.Tryz.func36, zmj⟩
  · cases h; exact ⟨rfl, _, Go.Proofs.Tryz.func37, zjd⟩
  · cases h; exact ⟨rfl, _, Go.Proofs.Tryz.func38, zmf⟩
  · cases h; exact ⟨rfl, _, Go.Proofs.Tryz.func39, zj5⟩
  · cases h; exact ⟨rfl, _, Go.Proofs.Tryz.func40, zmo⟩
  · cases h; exact ⟨rfl, _, Go.Proofs.Tryz.func41, zq4⟩
  · cases h; exact ⟨rfl, _, Go.Proofs.Tryz.func42, znj⟩
  · cases h; exact ⟨rfl, _, Go.Proofs.Tryz.func43, zsy⟩
  · cases h; exact ⟨rfl, _, Go.Proofs.Tryz.func44, zor⟩
  · cases h; exact ⟨rfl, _, Go.Proofs.Tryz.func45, zu1⟩
  · cases h; exact ⟨rfl, _, Go.Proofs.Tryz.func47, zj9⟩
  · cases h; exact ⟨rfl, _, Go.Proofs.Tryz.func48, zpw⟩
  · cases h; exact ⟨rfl, _, Go.Proofs.Tryz.func49, zot⟩
  · cases h; exact ⟨rfl, _, Go.Proofs.Tryz.func50, zja⟩
  · cases h; exact ⟨rfl, _, Go.Proofs.Tryz.func51, zj6⟩
  · cases h; exact ⟨rfl, _, Go.Proofs.Tryz.func52, zoq⟩
  · cases h; exact ⟨rfl, _, Go.Proofs.Tryz.func53, zxp⟩
  · cases h; exact ⟨rfl, _, Go.Proofs.Tryz.func54, zrh⟩
  · cases h; exact ⟨rfl, _, Go.Proofs.Tryz.func55, ztc⟩
  · cases h; exact ⟨rfl, _, Go.Proofs.Tryz.func56, zrd⟩
  · cases h; exact ⟨rfl, _, Go.Proofs.Tryz.func57, zp0⟩
  · cases h; exact ⟨rfl, _, Go.Proofs.Tryz.func58, zrf⟩
  · cases h; exact ⟨rfl, _, Go.Proofs.Tryz.func59, zox⟩
  · cases h; exact ⟨rfl, _, Go.Proofs.Tryz.func60, zrj⟩
  · cases h; exact ⟨rfl, _, Go.Proofs.Tryz.func61, ztd⟩
  · cases h; exact ⟨rfl, _, Go.Proofs.Tryz.func62, zre⟩
  · cases h; exact ⟨rfl, _, Go.Proofs.Tryz.func63, zif⟩
  · cases h; exact ⟨rfl, _, Go.Proofs.Tryz.func64, zmk⟩
  · cases h; exact ⟨rfl, _, Go.Proofs.Tryz.func65, zpt⟩
  · cases h; exact ⟨rfl, _, Go.Proofs.Tryz.func66, zrn⟩
  · cases h; exact ⟨rfl, _, Go.Proofs.Tryz.func67, zi8⟩
  · cases h; exact ⟨rfl, _, Go.Proofs.Tryz.func68, zmi⟩
  · cases h; exact ⟨rfl, _, Go.Proofs.Tryz.func69, zml⟩
  · cases h; exact ⟨rfl, _, Go.Proofs.Tryz.func70, zmm⟩
  · cases h; exact ⟨rfl, _, Go.Proofs.Tryz.func71, zpv⟩
  · cases h; exact ⟨rfl, _, Go.Proofs.Tryz.func72, zie⟩
  · cases h; exact ⟨rfl, _, Go.Proofs.Tryz.func73, zh7⟩
  · cases h; exact ⟨rfl, _, Go.Proofs.Tryz.func74, zkv⟩
  · cases h; exact ⟨rfl, _, Go.Proofs.Tryz.func75, zoo⟩
  · cases h; exact ⟨rfl, _, Go.Proofs.Tryz.func76, zkw⟩
  · cases h; exact ⟨rfl, _, Go.Proofs.Tryz.func77, zkx⟩
  · cases h; exact ⟨rfl, _, Go.Proofs.Tryz.func78, zi7⟩
  · cases h; exact ⟨rfl, _, Go.Proofs.Tryz.func79, zkz⟩
  · cases h; exact ⟨rfl, _, Go.Proofs.Tryz.func80, znm⟩
  · cases h; exact ⟨rfl, _, Go.Proofs.Tryz.func81, zk1⟩
  · cases h; exact ⟨rfl, _, Go.Proofs.Tryz.func82, ztj⟩
  · cases h; exact ⟨rfl, _, Go.Proofs.Tryz.func83, ztm⟩
  · cases h; exact ⟨rfl, _, Go.Proofs.Tryz.func84, zop⟩
  · cases h; exact ⟨rfl, _, Go.Proofs.Tryz.func85, zpu⟩
  · cases h; exact ⟨rfl, _, Go.Proofs.Tryz.func86, zlr⟩
  · cases h; exact ⟨rfl, _, Go.Proofs.Tryz.func87, zj4⟩
  · cases h; exact ⟨rfl, _, Go.Proofs.Tryz.func88, zgh⟩
  · cases h; exact ⟨rfl, _, Go.Proofs.Tryz.func89, zpx⟩
  · cases h; exact ⟨rfl, _, Go.Proofs.Tryz.func90, zsz⟩
  · cases h; exact ⟨rfl, _, Go.Proofs.Tryz.func91, zi9⟩
  · cases h; exact ⟨rfl, _, Go.Proofs.Tryz.func92, zs4⟩
  · cases h; exact ⟨rfl, _, Go.Proofs.Tryz.func93, zxq⟩
  · cases h; exact ⟨rfl, _, Go.Proofs.Tryz.func94, zvd⟩
  · cases h; exact ⟨rfl, _, Go.Proofs.Tryz.func95, zrk⟩
  · cases h; exact ⟨rfl, _, Go.Proofs.Tryz.func96, zrg⟩
  · cases h; exact ⟨rfl, _, Go.Proofs.Tryz.func97, zrm⟩
  · cases h; exact ⟨rfl, _, Go.Proofs.Tryz.func98, zp2⟩
  · cases h; exact ⟨rfl, _, Go.Proofs.Tryz.func99, zth⟩
  · cases h; exact ⟨rfl, _, Go.Proofs.Tryz.func100, zri⟩
  · cases h; exact ⟨rfl, _, Go.Proofs.Tryz.func101, zrl⟩
  · cases h; exact ⟨rfl, _, Go.Proofs.Tryz.func102, zva⟩
  · cases h; exact ⟨rfl, _, Go.Proofs.Tryz.func103, zp1⟩
  · cases h; exact ⟨rfl, _, Go.Proofs.Tryz.func104, zoy⟩
  · cases h; exact ⟨rfl, _, Go.Proofs.Tryz.func105, zrc⟩
  · cases h; exact ⟨rfl, _, Go.Proofs.Tryz.func106, znl⟩
  · cases h; exact ⟨rfl, _, Go.Proofs.Tryz.func107, zmn⟩
  · cases h; exact ⟨rfl, _, Go.Proofs.Tryz.func108, zvg⟩
  · cases h; exact ⟨rfl, _, Go.Proofs.Tryz.func109, zo0⟩
  · cases h; exact ⟨rfl, _, Go.Proofs.Tryz.func110, zk0⟩
  · cases h; exact ⟨rfl, _, Go.Proofs.Tryz.func111, zgs⟩
  · cases h; exact ⟨rfl, _, Go.Proofs.Tryz.func112, zku⟩
  · cases h; exact ⟨rfl, _, Go.Proofs.Tryz.func113, zlq⟩
  · cases h; exact ⟨rfl, _, Go.Proofs.Tryz.func114, zmh⟩
  · cases h; exact ⟨rfl, _, Go.Proofs.Tryz.func115, zit⟩
  · cases h; exact ⟨rfl, _, Go.Proofs.Tryz.func116, zke⟩
  · cases h; exact ⟨rfl, _, Go.Proofs.Tryz.func117, zp4⟩
  · cases h; exact ⟨rfl, _, Go.Proofs.Tryz.func118, zkb⟩
  · cases h; exact ⟨rfl, _, Go.Proofs.Tryz.func119, znn⟩
  · cases h; exact ⟨rfl, _, Go.Proofs.Tryz.func120, zf6⟩
  · cases h; exact ⟨rfl, _, Go.Proofs.Tryz.func121, zh9⟩
  · cases h; exact ⟨rfl, _, Go.Proofs.Tryz.func122, zjb⟩
  · cases h; exact ⟨rfl, _, Go.Proofs.Tryz.func123, zs5⟩
  · cases h; exact ⟨rfl, _, Go.Proofs.Tryz.func124, zs1⟩
  · cases h; exact ⟨rfl, _, Go.Proofs.Tryz.func125, zs2⟩
  · cases h; exact ⟨rfl, _, Go.Proofs.Tryz.func126, zu6⟩
  · cases h; exact ⟨rfl, _, Go.Proofs.Tryz.func127, zxo⟩
  · cases h; exact ⟨rfl, _, Go.Proofs.Tryz.func128, zu5⟩
  · cases h; exact ⟨rfl, _, Go.Proofs.Tryz.func129, zq9⟩
  · cases h; exact ⟨rfl, _, Go.Proofs.Tryz.func130, zzm⟩
  · cases h; exact ⟨rfl, _, Go.Proofs.Tryz.func131, zxt⟩
  · cases h; exact ⟨rfl, _, Go.Proofs.Tryz.func132, zvb⟩
  · cases h; exact ⟨rfl, _, Go.Proofs.Tryz.func133, zs7⟩
  · cases h; exact ⟨rfl, _, Go.Proofs.Tryz.func134, zra⟩
  · cases h; exact ⟨rfl, _, Go.Proofs.Tryz.func135, zs9⟩
  · cases h; exact ⟨rfl, _, Go.Proofs.Tryz.func136, zvf⟩
  · cases h; exact ⟨rfl, _, Go.Proofs.Tryz.func137, zvh⟩
  · cases h; exact ⟨rfl, _, Go.Proofs.Tryz.func138, zg6⟩
  · cases h; exact ⟨rfl, _, Go.Proofs.Tryz.func139, zni⟩
  · cases h; exact ⟨rfl, _, Go.Proofs.Tryz.func140, ziu⟩
  · cases h; exact ⟨rfl, _, Go.Proofs.Tryz.func141, zp6⟩
  · cases h; exact ⟨rfl, _, Go.Proofs.Tryz.func142, zky⟩
  · cases h; exact ⟨rfl, _, Go.Proofs.Tryz.func144, zj8⟩
  · cases h; exact ⟨rfl, _, Go.Proofs.Tryz.func145, zu4⟩
  · cases h; exact ⟨rfl, _, Go.Proofs.Tryz.func146, zrb⟩
  · cases h; exact ⟨rfl, _, Go.Proofs.Tryz.func147, zxr⟩
  · cases h; exact ⟨rfl, _, Go.Proofs.Tryz.func148, zvc⟩
  · cases h; exact ⟨rfl, _, Go.Proofs.Tryz.func149, zu8⟩
  · cases h; exact ⟨rfl, _, Go.Proofs.Tryz.func150, zta⟩
  · cases h; exact ⟨rfl, _, Go.Proofs.Tryz.func151, ztb⟩
  · cases h; exact ⟨rfl, _, Go.Proofs.Tryz.func152, zpz⟩
  · cases h; exact ⟨rfl, _, Go.Proofs.Tryz.func153, zte⟩
  · cases h; exact ⟨rfl, _, Go.Proofs.Tryz.func154, zia⟩
  · cases h; exact ⟨rfl, _, Go.Proofs.Tryz.func155, zro⟩
  · cases h; exact ⟨rfl, _, Go.Proofs.Tryz.func156, zfg⟩
  · cases h; exact ⟨rfl, _, Go.Proofs.Tryz.func157, zgi⟩
  · cases h; exact ⟨rfl, _, Go.Proofs.Tryz.func158, zrp⟩
  · cases h; exact ⟨rfl, _, Go.Proofs.Tryz.func159, zhn⟩
  · cases h; exact ⟨rfl, _, Go.Proofs.Tryz.func160, zo1⟩
  · cases h; exact ⟨rfl, _, Go.Proofs.Tryz.func161, zti⟩
  · cases h; exact ⟨rfl, _, Go.Proofs.Tryz.func162, zis⟩
  · cases h; exact ⟨rfl, _, Go.Proofs.Tryz.func163, zow⟩
  · cases h; exact ⟨rfl, _, Go.Proofs.Tryz.func164, zs3⟩
  · cases h; exact ⟨rfl, _, Go.Proofs.Tryz.func165, zq8⟩
  · cases h; exact ⟨rfl, _, Go.Proofs.Tryz.func166, zxs⟩
  · cases h; exact ⟨rfl, _, Go.Proofs.Tryz.func167, zu9⟩
  · cases h; exact ⟨rfl, _, Go.Proofs.Tryz.func168, ztf⟩
  · cases h; exact ⟨rfl, _, Go.Proofs.Tryz.func169, zig⟩
  · cases h; exact ⟨rfl, _, Go.Proofs.Tryz.func170, zg5⟩
  · cases h; exact ⟨rfl, _, Go.Proofs.Tryz.func171, znh⟩
  · cases h; exact ⟨rfl, _, Go.Proofs.Tryz.func172, zfl⟩
  · cases h; exact ⟨rfl, _, Go.Proofs.Tryz.func173, zh8⟩
  · cases h; exact ⟨rfl, _, Go.Proofs.Tryz.func174, zoz⟩
  · cases h; exact ⟨rfl, _, Go.Proofs.Tryz.func175, zge⟩
  · cases h; exact ⟨rfl, _, Go.Proofs.Tryz.func177, zgd⟩
  · cases h
theorem zok {κ2 : Ctx} : zef Go.Proofs.Tryz.prog κ2 (fun _ _ _ => none) := fun _ _ _ _ _ h => by cases h
def Ra : RecF := fun f ds m σ => match f with
  | 46 => zlx (fun _ _ _ => none) 3 a_71 1 4 1 ds m σ
  | _ => none
def zzz (fn : Func) : Code := match fn.body with
  | some (.seq _ r) => r
  | _ => .skip
def zzp (fn : Func) (i : Nat) : Oper := match fn.body with
  | some (.seq (.region _ ops _) _) => ops.getD i default
  | _ => default
theorem zbhb : zcn Go.Proofs.Tryz.prog Go.Proofs.Tryz.f46.ntmps false (zzz Go.Proofs.Tryz.f46) a_71 = true := by kernel_rfl
theorem zr2 {κ2 : Ctx} : zr1 Go.Proofs.Tryz.prog κ2 Ra := by
  intro f ds m σ m2 σ2 h
  unfold Ra at h
  split at h
  · exact zzu (fn := Go.Proofs.Tryz.f46) (id := 0) (o0 := zzp Go.Proofs.Tryz.f46 0) (o1 := zzp Go.Proofs.Tryz.f46 1) (rest := zzz Go.Proofs.Tryz.f46) zok Go.Proofs.Tryz.func46 rfl rfl rfl rfl rfl rfl rfl rfl (by decide) (by decide) rfl (by decide) zbhb h
  · cases h
def Xa : CallF := fun _ _ _ => none
theorem zajb {κ2 : Ctx} : zef Go.Proofs.Tryz.prog κ2 Xa := zok
end Go.Fu

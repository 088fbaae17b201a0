/-
 The fit of the program's functions and the machine's code: reckoned by the kernel.
-/
import Derived.Test.YtldfbnbckiifeaaGreatDoorProg
import Derived.Test.YtldfbnbckiifeaaGreatDoorFgString
import Derived.Test.YtldfbnbckiifeaaGreatDoorFgIds
import Derived.Test.YtldfbnbckiifeaaGreatDoorMyFrame
set_option maxHeartbeats 4000000
set_option linter.unusedSimpArgs false
set_option linter.unusedVariables false
set_option linter.unusedSectionVars false
namespace Go.Fu
open Go Go.Mx
theorem zsx:okFun Go.Proofs.Tryz.prog Go.Proofs.Tryz.f8 a_84=true:=by kernel_rfl
theorem zwd:okFun Go.Proofs.Tryz.prog Go.Proofs.Tryz.f10 a_161=true:=by kernel_rfl
theorem zawb:okFun Go.Proofs.Tryz.prog Go.Proofs.Tryz.f11 a_87=true:=by kernel_rfl
theorem zua:okFun Go.Proofs.Tryz.prog Go.Proofs.Tryz.f13 a_133=true:=by kernel_rfl
theorem zyl:okFun Go.Proofs.Tryz.prog Go.Proofs.Tryz.f15 a_232=true:=by kernel_rfl
theorem zt9:okFun Go.Proofs.Tryz.prog Go.Proofs.Tryz.f17 a_217=true:=by kernel_rfl
theorem zrm:okFun Go.Proofs.Tryz.prog Go.Proofs.Tryz.f19 a_221=true:=by kernel_rfl
theorem zayb:okFun Go.Proofs.Tryz.prog Go.Proofs.Tryz.f25 a_162=true:=by kernel_rfl
theorem za1b:okFun Go.Proofs.Tryz.prog Go.Proofs.Tryz.f26 a_91=true:=by kernel_rfl
theorem zaxb:okFun Go.Proofs.Tryz.prog Go.Proofs.Tryz.f27 a_22=true:=by kernel_rfl
theorem zazb:okFun Go.Proofs.Tryz.prog Go.Proofs.Tryz.f28 a_90=true:=by kernel_rfl
theorem zhs:okFun Go.Proofs.Tryz.prog Go.Proofs.Tryz.f29 a_173=true:=by kernel_rfl
theorem zqa:okFun Go.Proofs.Tryz.prog Go.Proofs.Tryz.f31 a_150=true:=by kernel_rfl
theorem zh9:okFun Go.Proofs.Tryz.prog Go.Proofs.Tryz.f32 a_172=true:=by kernel_rfl
theorem zoj:okFun Go.Proofs.Tryz.prog Go.Proofs.Tryz.f39 a_231=true:=by kernel_rfl
theorem zrj:okFun Go.Proofs.Tryz.prog Go.Proofs.Tryz.f40 a_218=true:=by kernel_rfl
theorem zrk:okFun Go.Proofs.Tryz.prog Go.Proofs.Tryz.f41 a_219=true:=by kernel_rfl
theorem zjf:okFun Go.Proofs.Tryz.prog Go.Proofs.Tryz.f42 a_112=true:=by kernel_rfl
theorem zrl:okFun Go.Proofs.Tryz.prog Go.Proofs.Tryz.f43 a_220=true:=by kernel_rfl
theorem zub:okFun Go.Proofs.Tryz.prog Go.Proofs.Tryz.f44 a_228=true:=by kernel_rfl
theorem zuc:okFun Go.Proofs.Tryz.prog Go.Proofs.Tryz.f45 a_80=true:=by kernel_rfl
theorem zh7:okFun Go.Proofs.Tryz.prog Go.Proofs.Tryz.f46 a_111=true:=by kernel_rfl
theorem ziq:okFun Go.Proofs.Tryz.prog Go.Proofs.Tryz.f47 a_242=true:=by kernel_rfl
theorem zud:okFun Go.Proofs.Tryz.prog Go.Proofs.Tryz.f48 a_153=true:=by kernel_rfl
theorem zpk:okFun Go.Proofs.Tryz.prog Go.Proofs.Tryz.f49 a_224=true:=by kernel_rfl
theorem zv9:okFun Go.Proofs.Tryz.prog Go.Proofs.Tryz.f50 a_146=true:=by kernel_rfl
theorem zv7:okFun Go.Proofs.Tryz.prog Go.Proofs.Tryz.f51 a_222=true:=by kernel_rfl
theorem za0b:okFun Go.Proofs.Tryz.prog Go.Proofs.Tryz.f64 a_54=true:=by kernel_rfl
theorem zym:okFun Go.Proofs.Tryz.prog Go.Proofs.Tryz.f65 a_163=true:=by kernel_rfl
theorem zlr:okFun Go.Proofs.Tryz.prog Go.Proofs.Tryz.f70 a_95=true:=by kernel_rfl
theorem zro:okFun Go.Proofs.Tryz.prog Go.Proofs.Tryz.f71 a_229=true:=by kernel_rfl
theorem zrn:okFun Go.Proofs.Tryz.prog Go.Proofs.Tryz.f72 a_225=true:=by kernel_rfl
theorem zwb:okFun Go.Proofs.Tryz.prog Go.Proofs.Tryz.f74 a_227=true:=by kernel_rfl
theorem zk0:okFun Go.Proofs.Tryz.prog Go.Proofs.Tryz.f75 a_169=true:=by kernel_rfl
theorem zk1:okFun Go.Proofs.Tryz.prog Go.Proofs.Tryz.f76 a_170=true:=by kernel_rfl
theorem zkj:okFun Go.Proofs.Tryz.prog Go.Proofs.Tryz.f77 a_240=true:=by kernel_rfl
theorem zlq:okFun Go.Proofs.Tryz.prog Go.Proofs.Tryz.f78 a_239=true:=by kernel_rfl
theorem zjg:okFun Go.Proofs.Tryz.prog Go.Proofs.Tryz.f79 a_93=true:=by kernel_rfl
theorem zkk:okFun Go.Proofs.Tryz.prog Go.Proofs.Tryz.f80 a_243=true:=by kernel_rfl
theorem zrp:okFun Go.Proofs.Tryz.prog Go.Proofs.Tryz.f81 a_154=true:=by kernel_rfl
theorem zh8:okFun Go.Proofs.Tryz.prog Go.Proofs.Tryz.f82 a_166=true:=by kernel_rfl
theorem zpn:okFun Go.Proofs.Tryz.prog Go.Proofs.Tryz.f83 a_155=true:=by kernel_rfl
theorem zv8:okFun Go.Proofs.Tryz.prog Go.Proofs.Tryz.f84 a_25=true:=by kernel_rfl
theorem znq:okFun Go.Proofs.Tryz.prog Go.Proofs.Tryz.f85 a_149=true:=by kernel_rfl
theorem zpm:okFun Go.Proofs.Tryz.prog Go.Proofs.Tryz.f86 a_151=true:=by kernel_rfl
theorem zrq:okFun Go.Proofs.Tryz.prog Go.Proofs.Tryz.f87 a_156=true:=by kernel_rfl
theorem zno:okFun Go.Proofs.Tryz.prog Go.Proofs.Tryz.f88 a_65=true:=by kernel_rfl
theorem zp9:okFun Go.Proofs.Tryz.prog Go.Proofs.Tryz.f89 a_134=true:=by kernel_rfl
theorem zi5:okFun Go.Proofs.Tryz.prog Go.Proofs.Tryz.f90 a_165=true:=by kernel_rfl
theorem zpo:okFun Go.Proofs.Tryz.prog Go.Proofs.Tryz.f91 a_157=true:=by kernel_rfl
theorem zrr:okFun Go.Proofs.Tryz.prog Go.Proofs.Tryz.f92 a_158=true:=by kernel_rfl
theorem zrs:okFun Go.Proofs.Tryz.prog Go.Proofs.Tryz.f93 a_159=true:=by kernel_rfl
theorem zpp:okFun Go.Proofs.Tryz.prog Go.Proofs.Tryz.f94 a_82=true:=by kernel_rfl
theorem zrt:okFun Go.Proofs.Tryz.prog Go.Proofs.Tryz.f95 a_42=true:=by kernel_rfl
theorem zpq:okFun Go.Proofs.Tryz.prog Go.Proofs.Tryz.f96 a_83=true:=by kernel_rfl
theorem zsw:okFun Go.Proofs.Tryz.prog Go.Proofs.Tryz.f97 a_17=true:=by kernel_rfl
theorem zky:okFun Go.Proofs.Tryz.prog Go.Proofs.Tryz.f98 a_241=true:=by kernel_rfl
theorem znp:okFun Go.Proofs.Tryz.prog Go.Proofs.Tryz.f99 a_148=true:=by kernel_rfl
theorem zpl:okFun Go.Proofs.Tryz.prog Go.Proofs.Tryz.f100 a_145=true:=by kernel_rfl
theorem znn:okFun Go.Proofs.Tryz.prog Go.Proofs.Tryz.f101 a_226=true:=by kernel_rfl
theorem zkl:okFun Go.Proofs.Tryz.prog Go.Proofs.Tryz.f102 a_96=true:=by kernel_rfl
theorem zoi:okFun Go.Proofs.Tryz.prog Go.Proofs.Tryz.f103 a_143=true:=by kernel_rfl
theorem zsu:okFun Go.Proofs.Tryz.prog Go.Proofs.Tryz.f104 a_135=true:=by kernel_rfl
theorem zoh:okFun Go.Proofs.Tryz.prog Go.Proofs.Tryz.f105 a_32=true:=by kernel_rfl
theorem zki:okFun Go.Proofs.Tryz.prog Go.Proofs.Tryz.f119 a_164=true:=by kernel_rfl
theorem zmg:okFun Go.Proofs.Tryz.prog Go.Proofs.Tryz.f120 a_244=true:=by kernel_rfl
theorem zji:okFun Go.Proofs.Tryz.prog Go.Proofs.Tryz.f121 a_171=true:=by kernel_rfl
theorem zjh:okFun Go.Proofs.Tryz.prog Go.Proofs.Tryz.f122 a_168=true:=by kernel_rfl
theorem zkz:okFun Go.Proofs.Tryz.prog Go.Proofs.Tryz.f123 a_167=true:=by kernel_rfl
theorem zyk:okFun Go.Proofs.Tryz.prog Go.Proofs.Tryz.f124 a_78=true:=by kernel_rfl
theorem zqb:okFun Go.Proofs.Tryz.prog Go.Proofs.Tryz.f125 a_79=true:=by kernel_rfl
theorem zmf:okFun Go.Proofs.Tryz.prog Go.Proofs.Tryz.f126 a_113=true:=by kernel_rfl
theorem zwa:okFun Go.Proofs.Tryz.prog Go.Proofs.Tryz.f127 a_147=true:=by kernel_rfl
theorem zarb:okFun Go.Proofs.Tryz.prog Go.Proofs.Tryz.f128 a_129=true:=by kernel_rfl
theorem zasb:okFun Go.Proofs.Tryz.prog Go.Proofs.Tryz.f129 a_130=true:=by kernel_rfl
theorem zwc:okFun Go.Proofs.Tryz.prog Go.Proofs.Tryz.f130 a_152=true:=by kernel_rfl
theorem zme:okFun Go.Proofs.Tryz.prog Go.Proofs.Tryz.f131 a_237=true:=by kernel_rfl
theorem znr:okFun Go.Proofs.Tryz.prog Go.Proofs.Tryz.f132 a_238=true:=by kernel_rfl
theorem zok:okFun Go.Proofs.Tryz.prog Go.Proofs.Tryz.f133 a_236=true:=by kernel_rfl
theorem zqc:okFun Go.Proofs.Tryz.prog Go.Proofs.Tryz.f134 a_160=true:=by kernel_rfl
theorem zmd:okFun Go.Proofs.Tryz.prog Go.Proofs.Tryz.f135 a_144=true:=by kernel_rfl
theorem zpj:okFun Go.Proofs.Tryz.prog Go.Proofs.Tryz.f136 a_138=true:=by kernel_rfl
theorem znl:okFun Go.Proofs.Tryz.prog Go.Proofs.Tryz.f137 a_73=true:=by kernel_rfl
theorem zmb:okFun Go.Proofs.Tryz.prog Go.Proofs.Tryz.f138 a_141=true:=by kernel_rfl
theorem zmc:okFun Go.Proofs.Tryz.prog Go.Proofs.Tryz.f139 a_142=true:=by kernel_rfl
theorem zma:okFun Go.Proofs.Tryz.prog Go.Proofs.Tryz.f140 a_31=true:=by kernel_rfl
theorem zog:okFun Go.Proofs.Tryz.prog Go.Proofs.Tryz.f141 a_223=true:=by kernel_rfl
theorem zi4:okFun Go.Proofs.Tryz.prog Go.Proofs.Tryz.f147 a_235=true:=by kernel_rfl
theorem zhi:okFun Go.Proofs.Tryz.prog Go.Proofs.Tryz.f148 a_246=true:=by kernel_rfl
theorem zru:okFun Go.Proofs.Tryz.prog Go.Proofs.Tryz.f149 a_233=true:=by kernel_rfl
theorem zsv:okFun Go.Proofs.Tryz.prog Go.Proofs.Tryz.f150 a_53=true:=by kernel_rfl
theorem zatb:okFun Go.Proofs.Tryz.prog Go.Proofs.Tryz.f151 a_131=true:=by kernel_rfl
theorem znm:okFun Go.Proofs.Tryz.prog Go.Proofs.Tryz.f153 a_139=true:=by kernel_rfl
theorem zlo:okFun Go.Proofs.Tryz.prog Go.Proofs.Tryz.f154 a_136=true:=by kernel_rfl
theorem zlp:okFun Go.Proofs.Tryz.prog Go.Proofs.Tryz.f156 a_137=true:=by kernel_rfl
theorem zkx:okFun Go.Proofs.Tryz.prog Go.Proofs.Tryz.f158 a_140=true:=by kernel_rfl
theorem zpr:okFun Go.Proofs.Tryz.prog Go.Proofs.Tryz.f160 a_234=true:=by kernel_rfl
theorem zf0:okFun Go.Proofs.Tryz.prog Go.Proofs.Tryz.f164 a_245=true:=by kernel_rfl
theorem zaub:okFun Go.Proofs.Tryz.prog Go.Proofs.Tryz.f174 a_132=true:=by kernel_rfl
theorem zl9:okFun Go.Proofs.Tryz.prog Go.Proofs.Tryz.f176 a_201=true:=by kernel_rfl
theorem zue:okFun Go.Proofs.Tryz.prog Go.Proofs.Tryz.f185 a_174=true:=by kernel_rfl
theorem zyn:okFun Go.Proofs.Tryz.prog Go.Proofs.Tryz.f187 a_175=true:=by kernel_rfl
end Go.Fu
namespace Go.Fu
open Go Go.Mx
set_option maxRecDepth 100000
instance:LoopKit:=⟨fun N c c2=>zbc Go.Proofs.Tryz.prog N true c c2=true⟩
instance:KitOf Go.Proofs.Tryz.prog inferInstance:=⟨fun _ _ _=>Iff.rfl⟩
def Γa:FuncId→Option AFun:=fun f=>match f with
 | 8=>some a_84
 | 10=>some a_161
 | 11=>some a_87
 | 13=>some a_133
 | 15=>some a_232
 | 17=>some a_217
 | 19=>some a_221
 | 25=>some a_162
 | 26=>some a_91
 | 27=>some a_22
 | 28=>some a_90
 | 29=>some a_173
 | 31=>some a_150
 | 32=>some a_172
 | 39=>some a_231
 | 40=>some a_218
 | 41=>some a_219
 | 42=>some a_112
 | 43=>some a_220
 | 44=>some a_228
 | 45=>some a_80
 | 46=>some a_111
 | 47=>some a_242
 | 48=>some a_153
 | 49=>some a_224
 | 50=>some a_146
 | 51=>some a_222
 | 64=>some a_54
 | 65=>some a_163
 | 70=>some a_95
 | 71=>some a_229
 | 72=>some a_225
 | 74=>some a_227
 | 75=>some a_169
 | 76=>some a_170
 | 77=>some a_240
 | 78=>some a_239
 | 79=>some a_93
 | 80=>some a_243
 | 81=>some a_154
 | 82=>some a_166
 | 83=>some a_155
 | 84=>some a_25
 | 85=>some a_149
 | 86=>some a_151
 | 87=>some a_156
 | 88=>some a_65
 | 89=>some a_134
 | 90=>some a_165
 | 91=>some a_157
 | 92=>some a_158
 | 93=>some a_159
 | 94=>some a_82
 | 95=>some a_42
 | 96=>some a_83
 | 97=>some a_17
 | 98=>some a_241
 | 99=>some a_148
 | 100=>some a_145
 | 101=>some a_226
 | 102=>some a_96
 | 103=>some a_143
 | 104=>some a_135
 | 105=>some a_32
 | 119=>some a_164
 | 120=>some a_244
 | 121=>some a_171
 | 122=>some a_168
 | 123=>some a_167
 | 124=>some a_78
 | 125=>some a_79
 | 126=>some a_113
 | 127=>some a_147
 | 128=>some a_129
 | 129=>some a_130
 | 130=>some a_152
 | 131=>some a_237
 | 132=>some a_238
 | 133=>some a_236
 | 134=>some a_160
 | 135=>some a_144
 | 136=>some a_138
 | 137=>some a_73
 | 138=>some a_141
 | 139=>some a_142
 | 140=>some a_31
 | 141=>some a_223
 | 147=>some a_235
 | 148=>some a_246
 | 149=>some a_233
 | 150=>some a_53
 | 151=>some a_131
 | 153=>some a_139
 | 154=>some a_136
 | 156=>some a_137
 | 158=>some a_140
 | 160=>some a_234
 | 164=>some a_245
 | 174=>some a_132
 | 176=>some a_201
 | 185=>some a_174
 | 187=>some a_175
 | _=>none
theorem Γa_holds:Holds Go.Proofs.Tryz.prog Γa:=by
 intro f af h
 unfold Γa at h
 split at h
 ·cases h; exact ⟨rfl,_,Go.Proofs.Tryz.func8,zsx⟩
 ·cases h; exact ⟨rfl,_,Go.Proofs.Tryz.func10,zwd⟩
 ·cases h; exact ⟨rfl,_,Go.Proofs.Tryz.func11,zawb⟩
 ·cases h; exact ⟨rfl,_,Go.Proofs.Tryz.func13,zua⟩
 ·cases h; exact ⟨rfl,_,Go.Proofs.Tryz.func15,zyl⟩
 ·cases h; exact ⟨rfl,_,Go.Proofs.Tryz.func17,zt9⟩
 ·cases h; exact ⟨rfl,_,Go.Proofs.Tryz.func19,zrm⟩
 ·cases h; exact ⟨rfl,_,Go.Proofs.Tryz.func25,zayb⟩
 ·cases h; exact ⟨rfl,_,Go.Proofs.Tryz.func26,za1b⟩
 ·cases h; exact ⟨rfl,_,Go.Proofs.Tryz.func27,zaxb⟩
 ·cases h; exact ⟨rfl,_,Go.Proofs.Tryz.func28,zazb⟩
 ·cases h; exact ⟨rfl,_,Go.Proofs.Tryz.func29,zhs⟩
 ·cases h; exact ⟨rfl,_,Go.Proofs.Tryz.func31,zqa⟩
 ·cases h; exact ⟨rfl,_,Go.Proofs.Tryz.func32,zh9⟩
 ·cases h; exact ⟨rfl,_,Go.Proofs.Tryz.func39,zoj⟩
 ·cases h; exact ⟨rfl,_,Go.Proofs.Tryz.func40,zrj⟩
 ·cases h; exact ⟨rfl,_,Go.Proofs.Tryz.func41,zrk⟩
 ·cases h; exact ⟨rfl,_,Go.Proofs.Tryz.func42,zjf⟩
 ·cases h; exact ⟨rfl,_,Go.Proofs.Tryz.func43,zrl⟩
 ·cases h; exact ⟨rfl,_,Go.Proofs.Tryz.func44,zub⟩
 ·cases h; exact ⟨rfl,_,Go.Proofs.Tryz.func45,zuc⟩
 ·cases h; exact ⟨rfl,_,Go.Proofs.Tryz.func46,zh7⟩
 ·cases h; exact ⟨rfl,_,Go.Proofs.Tryz.func47,ziq⟩
 ·cases h; exact ⟨rfl,_,Go.Proofs.Tryz.func48,zud⟩
 ·cases h; exact ⟨rfl,_,Go.Proofs.Tryz.func49,zpk⟩
 ·cases h; exact ⟨rfl,_,Go.Proofs.Tryz.func50,zv9⟩
 ·cases h; exact ⟨rfl,_,Go.Proofs.Tryz.func51,zv7⟩
 ·cases h; exact ⟨rfl,_,Go.Proofs.Tryz.func64,za0b⟩
 ·cases h; exact ⟨rfl,_,Go.Proofs.Tryz.func65,zym⟩
 ·cases h; exact ⟨rfl,_,Go.Proofs.Tryz.func70,zlr⟩
 ·cases h; exact ⟨rfl,_,Go.Proofs.Tryz.func71,zro⟩
 ·cases h; exact ⟨rfl,_,Go.Proofs.Tryz.func72,zrn⟩
 ·cases h; exact ⟨rfl,_,Go.Proofs.Tryz.func74,zwb⟩
 ·cases h; exact ⟨rfl,_,Go.Proofs.Tryz.func75,zk0⟩
 ·cases h; exact ⟨rfl,_,Go.Proofs.Tryz.func76,zk1⟩
 ·cases h; exact ⟨rfl,_,Go.Proofs.Tryz.func77,zkj⟩
 ·cases h; exact ⟨rfl,_,Go.Proofs.Tryz.func78,zlq⟩
 ·cases h; exact ⟨rfl,_,Go.Proofs.Tryz.func79,zjg⟩
 ·cases h; exact ⟨rfl,_,Go.Proofs.Tryz.func80,zkk⟩
 ·cases h; exact ⟨rfl,_,Go.Proofs.Tryz.func81,zrp⟩
 ·cases h; exact ⟨rfl,_,Go.Proofs.Tryz.func82,zh8⟩
 ·cases h; exact ⟨rfl,_,Go.Proofs.Tryz.func83,zpn⟩
 ·cases h; exact ⟨rfl,_,Go.Proofs.Tryz.func84,zv8⟩
 ·cases h; exact ⟨rfl,_,Go.Proofs.Tryz.func85,znq⟩
 ·cases h; exact ⟨rfl,_,Go.Proofs.Tryz.func86,zpm⟩
 ·cases h; exact ⟨rfl,_,Go.Proofs.Tryz.func87,zrq⟩
 ·cases h; exact ⟨rfl,_,Go.Proofs.Tryz.func88,zno⟩
 ·cases h; exact ⟨rfl,_,Go.Proofs.Tryz.func89,zp9⟩
 ·cases h; exact ⟨rfl,_,Go.Proofs.Tryz.func90,zi5⟩
 ·cases h; exact ⟨rfl,_,Go.Proofs.Tryz.func91,zpo⟩
 ·cases h; exact ⟨rfl,_,Go.Proofs.Tryz.func92,zrr⟩
 ·cases h; exact ⟨rfl,_,Go.Proofs.Tryz.func93,zrs⟩
 ·cases h; exact ⟨rfl,_,Go.Proofs.Tryz.func94,zpp⟩
 ·cases h; exact ⟨rfl,_,Go.Proofs.Tryz.func95,zrt⟩
 ·cases h; exact ⟨rfl,_,Go.Proofs.Tryz.func96,zpq⟩
 ·cases h; exact ⟨rfl,_,Go.Proofs.Tryz.func97,zsw⟩
 ·cases h; exact ⟨rfl,_,Go.Proofs.Tryz.func98,zky⟩
 ·cases h; exact ⟨rfl,_,Go.Proofs.Tryz.func99,znp⟩
 ·cases h; exact ⟨rfl,_,Go.Proofs.Tryz.func100,zpl⟩
 ·cases h; exact ⟨rfl,_,Go.Proofs.Tryz.func101,znn⟩
 ·cases h; exact ⟨rfl,_,Go.Proofs.Tryz.func102,zkl⟩
 ·cases h; exact ⟨rfl,_,Go.Proofs.Tryz.func103,zoi⟩
 ·cases h; exact ⟨rfl,_,Go.Proofs.Tryz.func104,zsu⟩
 ·cases h; exact ⟨rfl,_,Go.Proofs.Tryz.func105,zoh⟩
 ·cases h; exact ⟨rfl,_,Go.Proofs.Tryz.func119,zki⟩
 ·cases h; exact ⟨rfl,_,Go.Proofs.Tryz.func120,zmg⟩
 ·cases h; exact ⟨rfl,_,Go.Proofs.Tryz.func121,zji⟩
 ·cases h; exact ⟨rfl,_,Go.Proofs.Tryz.func122,zjh⟩
 ·cases h; exact ⟨rfl,_,Go.Proofs.Tryz.func123,zkz⟩
 ·cases h; exact ⟨rfl,_,Go.Proofs.Tryz.func124,zyk⟩
 ·cases h; exact ⟨rfl,_,Go.Proofs.Tryz.func125,zqb⟩
 ·cases h; exact ⟨rfl,_,Go.Proofs.Tryz.func126,zmf⟩
 ·cases h; exact ⟨rfl,_,Go.Proofs.Tryz.func127,zwa⟩
 ·cases h; exact ⟨rfl,_,Go.Proofs.Tryz.func128,zarb⟩
 ·cases h; exact ⟨rfl,_,Go.Proofs.Tryz.func129,zasb⟩
 ·cases h; exact ⟨rfl,_,Go.Proofs.Tryz.func130,zwc⟩
 ·cases h; exact ⟨rfl,_,Go.Proofs.Tryz.func131,zme⟩
 ·cases h; exact ⟨rfl,_,Go.Proofs.Tryz.func132,znr⟩
 ·cases h; exact ⟨rfl,_,Go.Proofs.Tryz.func133,zok⟩
 ·cases h; exact ⟨rfl,_,Go.Proofs.Tryz.func134,zqc⟩
 ·cases h; exact ⟨rfl,_,Go.Proofs.Tryz.func135,zmd⟩
 ·cases h; exact ⟨rfl,_,Go.Proofs.Tryz.func136,zpj⟩
 ·cases h; exact ⟨rfl,_,Go.Proofs.Tryz.func137,znl⟩
 ·cases h; exact ⟨rfl,_,Go.Proofs.Tryz.func138,zmb⟩
 ·cases h; exact ⟨rfl,_,Go.Proofs.Tryz.func139,zmc⟩
 ·cases h; exact ⟨rfl,_,Go.Proofs.Tryz.func140,zma⟩
 ·cases h; exact ⟨rfl,_,Go.Proofs.Tryz.func141,zog⟩
 ·cases h; exact ⟨rfl,_,Go.Proofs.Tryz.func147,zi4⟩
 ·cases h; exact ⟨rfl,_,Go.Proofs.Tryz.func148,zhi⟩
 ·cases h; exact ⟨rfl,_,Go.Proofs.Tryz.func149,zru⟩
 ·cases h; exact ⟨rfl,_,Go.Proofs.Tryz.func150,zsv⟩
 ·cases h; exact ⟨rfl,_,Go.Proofs.Tryz.func151,zatb⟩
 ·cases h; exact ⟨rfl,_,Go.Proofs.Tryz.func153,znm⟩
 ·cases h; exact ⟨rfl,_,Go.Proofs.Tryz.func154,zlo⟩
 ·cases h; exact ⟨rfl,_,Go.Proofs.Tryz.func156,zlp⟩
 ·cases h; exact ⟨rfl,_,Go.Proofs.Tryz.func158,zkx⟩
 ·cases h; exact ⟨rfl,_,Go.Proofs.Tryz.func160,zpr⟩
 ·cases h; exact ⟨rfl,_,Go.Proofs.Tryz.func164,zf0⟩
 ·cases h; exact ⟨rfl,_,Go.Proofs.Tryz.func174,zaub⟩
 ·cases h; exact ⟨rfl,_,Go.Proofs.Tryz.func176,zl9⟩
 ·cases h; exact ⟨rfl,_,Go.Proofs.Tryz.func185,zue⟩
 ·cases h; exact ⟨rfl,_,Go.Proofs.Tryz.func187,zyn⟩
 ·cases h
def Ra:RecF:=fun _ _ _ _=>none
theorem zf1 {κ2:Ctx}:zjy Go.Proofs.Tryz.prog κ2 Ra:=fun _ _ _ _ _ _ h=>by cases h
def zhwb (n:Nat) (f:FuncId):Bool:=match runQ Γa Ra Xa n false f [] {objs:=[],tys:=[],oth:=[],next:=0} with
 | some (.ret ⟨false,.bool true⟩,_)=>true
 | _=>false
end Go.Fu
namespace Go.Fu
open Go Go.Mx
theorem gTab:Go.Proofs.Tryz.prog.globalNamed "internal/strconv.uint64pow10"=some 0:=by kernel_rfl
def κ:Ctx where
 n:=0 + 1
 K:=fun w=>Lib.TabIs Go.Proofs.Tryz.prog w "internal/strconv.uint64pow10" .u64 Lib.pow10Tab
 stable:=fun w w' h k=>by
  unfold Lib.TabIs World.var? at k ⊢
  rw [gTab] at k ⊢
  simp only [Option.bind_some] at k ⊢
  rw [h 0 (by omega)]
  exact k
theorem zcnb:∀ (k n:Nat) (acc:List UInt8),n < 10 ^ k→digF k n acc=if k=0 then acc else Lib.decDigits n ++ acc
 | 0,n,acc,_=>rfl
 | k + 1,n,acc,h=>by
  rw [if_neg (by omega)]
  unfold digF
  by_cases h10:n < 10
  ·simp only [h10,decide_true,zab]
   rw [Lib.decDigits,dif_pos h10]
   rfl
  ·simp only [h10,decide_false,zad]
   have hk:n / 10 < 10 ^ k:=by
    rw [Nat.div_lt_iff_lt_mul (by omega)]
    rw [Nat.pow_succ] at h
    exact h
   have hk0:k≠0:=by
    intro e
    subst e
    simp at hk
    omega
   rw [zcnb k (n / 10) _ hk,if_neg hk0,Lib.decDigits.eq_def n,dif_neg h10]
   simp
theorem zcpb {n:Nat} (h:n < 10 ^ 20):digN n=Lib.decDigits n:=by
 unfold digN
 rw [zcnb 20 n [] h]
 simp
theorem zj9b {n:Int} (h:inI64 n=true):itoaN n=Lib.itoa n:=by
 simp only [inI64,Bool.and_eq_true,decide_eq_true_eq] at h
 cases n with
 | ofNat m =>
  have h2:(m:Int)≤9223372036854775807:=h.2
  simp only [itoaN,Lib.itoa]
  rw [if_neg (by simp),zcpb (by omega)]
  rfl
 | negSucc m =>
  have h1:-9223372036854775808≤Int.negSucc m:=h.1
  simp only [itoaN,Lib.itoa]
  rw [if_pos (Int.negSucc_lt_zero m),zcpb (by omega)]
  rfl
theorem repL1 {ι:Imm} {j:Lay} {d:D} {vs:List Value} (h:RepL ι j [d] vs):∃ v,vs=[v]∧Rep ι j d v:=by
 simp only [RepL] at h
 obtain ⟨x,r,rfl,h1,rfl⟩:=h
 exact ⟨x,rfl,h1⟩
theorem zlsb {ds:List D} {d:D} (h:xItoa ds=some d) (σ:Store):zdn Go.Proofs.Tryz.prog κ 30 ds σ (.ret ⟨false,d⟩) σ:=by
 unfold xItoa at h
 split at h
 ·rename_i n
  obtain ⟨h1,h⟩:=zae h
  cases h
  refine zieb rfl ⟨_,_,Go.Proofs.Tryz.func30,by kernel_rfl,rfl⟩ (fun ι j own w vs hB hG hr=>?_)
  obtain ⟨v,rfl,hv⟩:=repL1 hr
  simp only [Rep] at hv
  subst hv
  have hb:=h1
  simp only [inI64,Bool.and_eq_true,decide_eq_true_eq] at hb
  refine (Go.Proofs.Tryz.strconv_Itoa n hb.1 hb.2 w hB.K).mono ?_
  rintro e w' ⟨rfl,k,os,rfl⟩
  refine ⟨_,rfl,?_,by simp only [Rep]; rw [zj9b h1]⟩
  have hd:RowKit.Below w.heap.size w (w.drewN k):=⟨rfl,rfl,rfl,Nat.le_refl _,fun _ _=>rfl⟩
  refine hd.trans ⟨rfl,rfl,rfl,by simp [Sort.grow],fun i hi=>?_⟩
  show (w.heap ++ os)[i]?=w.heap[i]?
  rw [Array.getElem?_append_left hi]
 ·cases h
theorem zy6 {w:World} {b:Nat} {vs:List Value} {T:TypeId} (h:w.heap[b]?=some (.cells ⟨vs⟩ T (0,0))) (v:Value):(w.setCell ⟨b,0,none⟩ v).heap[b]?=some (.cells ⟨vs.set 0 v⟩ T (0,0)):=by
 have hlt:=(Array.getElem?_eq_some_iff.1 h).1
 have hv:=(Array.getElem?_eq_some_iff.1 h).2
 simp only [World.setCell,Array.getElem?_modify,if_true,h,Option.map_some]
 simp
theorem zlrb {ds:List D} {σ σ':Store} {out:Out} (h:xCopy ds σ=some (out,σ')):zdn Go.Proofs.Tryz.prog κ 66 ds σ out σ':=by
 refine (zc2 (show isY 66=false from rfl)).2 ⟨⟨_,_,Go.Proofs.Tryz.func66,by kernel_rfl,rfl⟩,fun ι j own w vs hS hB hG hr=>?_⟩
 unfold xCopy at h
 split at h
 ·rename_i id
  obtain ⟨t,h1,ha⟩:=zaa h
  obtain ⟨h2,hb⟩:=zae ha
  obtain ⟨cs,h3,hc⟩:=zaa hb
  clear h ha hb
  have ht:t.t=t_11:=by simpa using h2
  obtain ⟨v,rfl,hv⟩:=repL1 hr
  simp only [Rep] at hv
  obtain ⟨b,hjb,rfl⟩:=hv
  obtain ⟨b',hjb',hown,row,T,hheap,hlen,hcell⟩:=hG.objs id cs h3
  rw [hjb] at hjb'
  cases hjb'
  obtain ⟨row',hrow',_⟩:=hG.tys id t cs h1 h3 b hjb
  rw [ht,hheap] at hrow'
  cases hrow'
  split at hc
  ·rename_i c0 c1
   obtain ⟨v0,hv0,_,hr0,_⟩:=hcell 0 c0 rfl
   have hc0:w.cell? ⟨b,0,none⟩=some v0:=by
    rw [cell_of_row w b 0 _ _ _ hheap]
    simpa using hv0
   split at hc
   ·rename_i hd
    cases hc
    rw [hd] at hr0
    simp only [Rep] at hr0
    subst hr0
    have hl:2≤row.length:=by simpa using hlen
    have hsh:w.shape? b=some (t_11,row.length):=by simp [World.shape?,hheap]
    have hfz:w.frozen? ⟨b,0,none⟩=false:=Lib.frozen_of_heap hheap 0
    refine (zd0b b w hc0 hl hsh hfz).mono ?_
    rintro e w' ⟨rfl,rfl⟩
    have hnew:=zy6 hheap (.pointer (some ⟨b,0,none⟩))
    have hrest:∀ k,k≠b→(w.setCell ⟨b,0,none⟩ (.pointer (some ⟨b,0,none⟩))).heap[k]?=w.heap[k]?:=fun k hk=>RowKit.Below.heap_setCell w ⟨b,0,none⟩ _ k hk
    have hcl:∀ (i:Nat) (c:Cell),[(⟨false,.ptr id 0⟩:Cell),c1][i]?=some c→∃ v,(row.set 0 (.pointer (some ⟨b,0,none⟩)))[i]?=some v∧v.oneCell'=true∧zc8 ι j own (w.setCell ⟨b,0,none⟩ (.pointer (some ⟨b,0,none⟩))) (.ocell id i) c v:=by
     intro i c hi
     match i with
     | 0 =>
      simp only [List.getElem?_cons_zero,Option.some.injEq] at hi
      subst hi
      refine ⟨_,List.getElem?_set_self (by omega),rfl,?_,fun h=>by cases h⟩
      simp only [Rep]
      exact ⟨b,hjb,rfl⟩
     | 1 =>
      obtain ⟨v1,q1,q2,q3,q4⟩:=hcell 1 c1 rfl
      simp only [List.getElem?_cons_succ,List.getElem?_cons_zero,Option.some.injEq] at hi
      subst hi
      exact ⟨v1,by rw [List.getElem?_set_ne (by omega)]; exact q1,q2,q3,fun ho=>zeb (B:=b) (by rw [hown]; intro h; cases h) hrest (q4 ho)⟩
     | n + 2=>simp at hi
    obtain ⟨g1,g2⟩:=hG.setObj (w':=w.setCell ⟨b,0,none⟩ (.pointer (some ⟨b,0,none⟩))) h3 hjb hown rfl rfl rfl (by simp [World.setCell]) hrest hheap hnew (by simpa using hl) (by simp) hcl
    exact ⟨ι,j,own,g1,g2.weaken (fun _ _=>trivial),hS,by simp [Rep,RepL],fun h=>by cases h⟩
   ·rename_i id' hd
    obtain ⟨h4,hc⟩:=zae hc
    cases hc
    have hid:id'=id:=by simpa using h4
    subst hid
    rw [hd] at hr0
    simp only [Rep] at hr0
    obtain ⟨b2,hjb2,rfl⟩:=hr0
    rw [hjb] at hjb2
    cases hjb2
    refine (zgtb b w hc0).mono ?_
    rintro e w' ⟨rfl,rfl⟩
    exact ⟨ι,j,own,hG,Evo.refl _ _ _ _ _,hS,by simp [Rep,RepL],fun h=>by cases h⟩
   ·cases hc
  ·cases hc
 ·cases h
theorem zaab {w:World} {g n:Nat} {cur:Array Value} {T:TypeId} (h:w.heap[g]?=some (.cells cur T (0,0))):∃ fr,(w.freeze ⟨g,0,none⟩ n).heap[g]?=some (.cells cur T fr):=by
 unfold World.freeze
 split
 ·exact ⟨_,h⟩
 ·simp only [Array.getElem?_modify,if_true,h,Option.map_some]
  exact ⟨_,rfl⟩
theorem zxt {w:World} {g n b:Nat} (hb:b≠g):(w.freeze ⟨g,0,none⟩ n).heap[b]?=w.heap[b]?:=by
 unfold World.freeze
 split
 ·rfl
 ·simp only [Array.getElem?_modify]
  rw [if_neg (fun e=>hb e.symm)]
theorem zxs {w:World} {g n:Nat}:(w.freeze ⟨g,0,none⟩ n).os=w.os∧(w.freeze ⟨g,0,none⟩ n).tape=w.tape∧(w.freeze ⟨g,0,none⟩ n).output=w.output∧(w.freeze ⟨g,0,none⟩ n).heap.size=w.heap.size:=by
 unfold World.freeze
 split
 ·exact ⟨rfl,rfl,rfl,rfl⟩
 ·exact ⟨rfl,rfl,rfl,by simp⟩
theorem zd7b {ι:Imm} {j:Lay} {own:Own} {σ:Store} {w w':World} {g id:Nat} {c0 c1:Cell} {cur:Array Value} {T:TypeId} {fr:Nat × Nat} (hG:GSim ι j own σ w) (hg:w.heap[g]?=some (.cells cur T (0,0))) (hown:own g=some (.ocell id 1))
  (hcs:aget σ.objs id=some [c0,c1]) (h1:w'.heap[g]?=some (.cells cur T fr)) (hoth:∀ b,b≠g→w'.heap[b]?=w.heap[b]?) (hos:w'.os=w.os) (ht:w'.tape=w.tape) (hout:w'.output=w.output) (hsz:w'.heap.size=w.heap.size) :
  ∃ own',GSim ι j own' {σ with objs:=aset σ.objs id [c0,⟨false,c1.d⟩]} w'∧Evo ι j own w ι j own' w' (fun _=>True)∧(ze1 own→ze1 own'):=by
 classical
 let own':Own:=fun b=>if b=g then none else own b
 have hsub:∀ b t,own' b=some t→own b=some t∧b≠g:=by
  intro b t h
  by_cases hb:b=g
  ·simp only [own',if_pos hb] at h; cases h
  ·simp only [own',if_neg hb] at h; exact ⟨h,hb⟩
 have hkeep:∀ b t,own b=some t→t≠.ocell id 1→own' b=some t∧b≠g:=by
  intro b t h hne
  have hb:b≠g:=fun e=>by subst e; rw [hown] at h; cases h; exact hne rfl
  exact ⟨by simp only [own',if_neg hb]; exact h,hb⟩
 have hown':∀ {t:Tag} {d:D} {v:Value},t≠.ocell id 1→Owned ι own w t d v→Owned ι own' w' t d v:=by
  intro t d v hne k
  unfold Owned at k ⊢
  cases hp:prin d v with
  | none=>trivial
  | some p =>
   rw [hp] at k
   rcases k with k | ⟨b,cap,cur',T',k1,k2,k3,k4⟩
   ·exact .inl k
   ·obtain ⟨q1,q2⟩:=hkeep b t k2 hne
    exact .inr ⟨b,cap,cur',T',k1,q1,(hoth b q2).trans k3,k4⟩
 refine ⟨own',⟨fun b o v h=>?_,fun b t h hu=>hG.noimm b t (hsub b t h).1 hu,fun id' cs h=>?_,fun id' t cs k1 k2 b hb=>?_,fun id' x h=>?_,hG.jlt,fun b t h=>by rw [hsz]; exact hG.ownlt b t (hsub b t h).1⟩,
  ⟨hos,ht,hout,Nat.le_of_eq hsz.symm,fun _ _ _ h=>h,fun _ _ h=>h,fun b hb hn=>?_⟩,fun hS b t h=>hS b t (hsub b t h).1⟩
 ·by_cases hb:b=g
  ·subst hb
   have:=hG.holds b o v h
   rw [cell_of_row w b o cur T (0,0) hg] at this
   rw [cell_of_row w' b o cur T fr h1]
   exact this
  ·rw [World.cell?_of_block (w:=w) (w':=w') (a:=⟨b,o,none⟩) (hoth b hb)]
   exact hG.holds b o v h
 ·have hex:∃ cs0,aget σ.objs id'=some cs0∧cs0.length=cs.length∧∀ (i:Nat) (c:Cell),cs[i]?=some c→∃ c0,cs0[i]?=some c0∧c0.d=c.d∧(c.own=true→c0.own=true∧Tag.ocell id' i≠.ocell id 1):=by
   simp only [zal] at h
   by_cases hid:id=id'
   ·subst hid
    rw [if_pos rfl] at h
    cases h
    refine ⟨_,hcs,rfl,fun i c hi=>?_⟩
    match i with
    | 0 =>
     simp only [List.getElem?_cons_zero,Option.some.injEq] at hi
     subst hi
     exact ⟨c0,rfl,rfl,fun ho=>⟨ho,by simp⟩⟩
    | 1 =>
     simp only [List.getElem?_cons_succ,List.getElem?_cons_zero,Option.some.injEq] at hi
     subst hi
     exact ⟨c1,rfl,rfl,fun ho=>by cases ho⟩
    | n + 2=>simp at hi
   ·rw [if_neg hid] at h
    exact ⟨cs,h,rfl,fun i c hi=>⟨c,hi,rfl,fun ho=>⟨ho,fun e=>by cases e; exact hid rfl⟩⟩⟩
  obtain ⟨cs0,e1,e2,e3⟩:=hex
  obtain ⟨b,q1,q2,vs,T',r1,r2,r3⟩:=hG.objs id' cs0 e1
  obtain ⟨k1,k2⟩:=hkeep b _ q2 (by simp)
  refine ⟨b,q1,k1,vs,T',(hoth b k2).trans r1,by omega,fun i c hi=>?_⟩
  obtain ⟨c0',f1,f2,f3⟩:=e3 i c hi
  obtain ⟨v,s1,s2,s3,s4⟩:=r3 i c0' f1
  exact ⟨v,s1,s2,f2 ▸ s3,fun ho=>f2 ▸ hown' (f3 ho).2 (s4 (f3 ho).1)⟩
 ·have hex:∃ cs0,aget σ.objs id'=some cs0:=by
   simp only [zal] at k2
   split at k2
   ·rename_i hh; subst hh; exact ⟨_,hcs⟩
   ·exact ⟨cs,k2⟩
  obtain ⟨cs0,e1⟩:=hex
  have hty:=hG.tys id' t cs0 k1 e1 b hb
  obtain ⟨B2,q1,q2,_⟩:=hG.objs id' cs0 e1
  rw [hb] at q1
  cases q1
  exact hty.keep (hoth b (hkeep b _ q2 (by simp)).2) (fun _ _ h=>h)
 ·obtain ⟨b,q1,q2,q3⟩:=hG.oth id' x h
  obtain ⟨k1,k2⟩:=hkeep b _ q2 (by simp)
  exact ⟨b,q1,k1,q3.keep (hoth b k2) (fun _ _ _ h=>h) (fun _ _ h=>h)⟩
 ·have hbg:b≠g:=fun e=>by subst e; exact hn _ hown trivial
  exact ⟨hoth b hbg,by simp only [own',if_neg hbg],fun _=>rfl⟩
theorem zf0b {ds:List D} {σ σ':Store} {out:Out} (h:zmt ds σ=some (out,σ')):zdn Go.Proofs.Tryz.prog κ 33 ds σ out σ':=by
 refine (zc2 (show isY 33=false from rfl)).2 ⟨⟨_,_,Go.Proofs.Tryz.func33,by kernel_rfl,rfl⟩,fun ι j own w vs hS hB hG hr=>?_⟩
 unfold zmt at h
 split at h
 ·rename_i id
  obtain ⟨t,h1,ha⟩:=zaa h
  obtain ⟨h2,hb⟩:=zae ha
  obtain ⟨cs,h3,hc⟩:=zaa hb
  clear h ha hb
  have ht:t.t=t_11:=by simpa using h2
  obtain ⟨v,rfl,hv⟩:=repL1 hr
  simp only [Rep] at hv
  obtain ⟨b,hjb,rfl⟩:=hv
  obtain ⟨b',hjb',hown,row,T,hheap,hlen,hcell⟩:=hG.objs id cs h3
  rw [hjb] at hjb'
  cases hjb'
  obtain ⟨row',hrow',_⟩:=hG.tys id t cs h1 h3 b hjb
  rw [ht,hheap] at hrow'
  cases hrow'
  split at hc
  ·rename_i c0 c1
   split at hc
   ·rename_i k es hd
    obtain ⟨h4,hc⟩:=zae hc
    obtain ⟨s,h5,hc⟩:=zaa hc
    cases hc
    simp only [Bool.and_eq_true,Bool.not_eq_true',List.isEmpty_eq_false_iff] at h4
    obtain ⟨⟨ho,hk⟩,hne⟩:=h4
    obtain ⟨hk1,hk2⟩:k.el=5∧k.sz=1:=by simpa [zo5,k_12] using hk
    obtain ⟨b1,b2⟩:=zli h5
    obtain ⟨v0,q0,_⟩:=hcell 0 c0 rfl
    obtain ⟨v1,q1,_,q3,q4⟩:=hcell 1 c1 rfl
    have hO:=q4 ho
    rw [hd] at hO q3
    simp only [Rep] at q3
    obtain ⟨ad,cap,hv1,hle,hmax,hrow⟩:=q3
    obtain ⟨g0,o0,hg0,hrr⟩:=hrow.resolve_left hne
    simp only [Owned] at hO
    obtain ⟨g,cap',cur,T',e1,e2,e3,⟨e4,e5⟩,e6⟩:=hO.resolve_left (fun ⟨_,_,h⟩=>hne (h hk1))
    rw [hv1,hg0] at e1
    simp only [Value.slice.injEq,Option.some.injEq,Addr.mk.injEq,and_true,true_and] at e1
    obtain ⟨⟨rfl,rfl⟩,rfl⟩:=e1
    rw [hk1] at e4
    subst e4
    rw [hk2] at e5 hrr
    obtain ⟨rest,hrow2⟩:∃ rest,row=v0 :: v1 :: rest:=by
     have hl:2≤row.length:=by simpa using hlen
     match row,hl with
     | x :: y :: r,_ =>
      simp at q0 q1
      exact ⟨r,by rw [q0,q1]⟩
    have hs0:s≠[]:=by
     intro e
     subst e
     exact hne (List.eq_nil_of_length_eq_zero b1.symm)
    have hbk:w.heap[b]?=some (.cells ⟨v0 :: .slice (some ⟨g0,0,none⟩) s.length cap :: rest⟩ t_11 (0,0)):=by
     rw [hheap,hrow2,hv1,hg0,b1]
    refine (zbpb b g0 cap v0 rest cur s w hs0 hbk e3 (by omega) hmax e5 (fun jx x hx=>?_)).mono ?_
    ·obtain ⟨u,r1,_,r3⟩:=hrr.at jx _ (b2 jx x hx)
     simp only [Rep] at r3
     subst r3
     have:=hG.holds _ _ _ (r1 0 (.int .u8 x.toNat) rfl)
     simpa using this
    ·rintro e w' ⟨rfl,rfl⟩
     obtain ⟨fr,hfr⟩:=zaab (w:=w.drew) (g:=g0) (n:=s.length) (show w.drew.heap[g0]?=some (.cells cur 5 (0,0)) from e3)
     obtain ⟨f1,f2,f3,f4⟩:=zxs (w:=w.drew) (g:=g0) (n:=s.length)
     obtain ⟨own',g1,g2,g3⟩:=zd7b hG e3 e2 h3 hfr (fun b hb=>zxt (w:=w.drew) hb) f1 f2 f3 f4
     rw [hd] at g1
     refine ⟨ι,j,own',?_,g2,g3 hS,by simp only [Rep],fun h=>by cases h⟩
     rw [hd]
     exact g1
   ·cases hc
  ·cases hc
 ·cases h
end Go.Fu

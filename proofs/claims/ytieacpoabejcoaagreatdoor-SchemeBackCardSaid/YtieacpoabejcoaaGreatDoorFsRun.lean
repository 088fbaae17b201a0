/-
 The table of the functions that the machine runs,and their fit.
-/
import Derived.Test.YtieacpoabejcoaaGreatDoorFsOk
import Derived.Test.YtieacpoabejcoaaGreatDoorFsCopy
set_option maxHeartbeats 4000000
set_option linter.unusedSimpArgs false
set_option linter.unusedVariables false
set_option linter.unusedSectionVars false
namespace Go.Fu
open Go Go.Mx
set_option maxRecDepth 100000
instance:LoopKit:=⟨fun N c c2=>za3 Go.Proofs.Tryz.prog N true c c2=true⟩
instance:KitOf Go.Proofs.Tryz.prog inferInstance:=⟨fun _ _ _=>Iff.rfl⟩
def Γa:FuncId→Option AFun:=fun f=>match f with
 | 3=>some a_132
 | 7=>some a_110
 | 8=>some a_114
 | 9=>some a_164
 | 12=>some a_145
 | 13=>some a_147
 | 14=>some a_94
 | 15=>some a_136
 | 16=>some a_163
 | 17=>some a_205
 | 23=>some a_207
 | 25=>some a_206
 | 27=>some a_143
 | 28=>some a_142
 | 29=>some a_108
 | 30=>some a_139
 | 31=>some a_134
 | 32=>some a_158
 | 34=>some a_146
 | 37=>some a_152
 | 38=>some a_111
 | 39=>some a_148
 | 40=>some a_149
 | 41=>some a_154
 | 42=>some a_153
 | 43=>some a_160
 | 44=>some a_133
 | 45=>some a_19
 | 46=>some a_115
 | 47=>some a_167
 | 48=>some a_91
 | 49=>some a_216
 | 50=>some a_157
 | 51=>some a_214
 | 52=>some a_208
 | 63=>some a_22
 | 68=>some a_211
 | 69=>some a_210
 | 70=>some a_209
 | 72=>some a_28
 | 73=>some a_155
 | 74=>some a_55
 | 75=>some a_144
 | 78=>some a_3
 | 79=>some a_81
 | 80=>some a_141
 | 81=>some a_109
 | 82=>some a_6
 | 83=>some a_33
 | 85=>some a_113
 | 86=>some a_79
 | 87=>some a_78
 | 88=>some a_159
 | 89=>some a_36
 | 91=>some a_45
 | 92=>some a_93
 | 93=>some a_92
 | 94=>some a_213
 | 104=>some a_140
 | 113=>some a_215
 | 114=>some a_70
 | 115=>some a_151
 | 116=>some a_69
 | 117=>some a_150
 | 118=>some a_130
 | 120=>some a_156
 | 121=>some a_138
 | 122=>some a_135
 | 123=>some a_137
 | 125=>some a_131
 | 126=>some a_18
 | 127=>some a_162
 | 128=>some a_72
 | 129=>some a_165
 | 131=>some a_212
 | 148=>some a_71
 | 149=>some a_89
 | 155=>some a_15
 | 156=>some a_161
 | 157=>some a_112
 | 158=>some a_166
 | 159=>some a_20
 | 178=>some a_88
 | _=>none
theorem Γa_holds:Holds Go.Proofs.Tryz.prog Γa:=by
 intro f af h
 unfold Γa at h
 split at h
 ·cases h; exact ⟨rfl,_,Go.Proofs.Tryz.func3,zoz⟩
 ·cases h; exact ⟨rfl,_,Go.Proofs.Tryz.func7,zz6⟩
 ·cases h; exact ⟨rfl,_,Go.Proofs.Tryz.func8,zxk⟩
 ·cases h; exact ⟨rfl,_,Go.Proofs.Tryz.func9,zl9⟩
 ·cases h; exact ⟨rfl,_,Go.Proofs.Tryz.func12,zri⟩
 ·cases h; exact ⟨rfl,_,Go.Proofs.Tryz.func13,zs1⟩
 ·cases h; exact ⟨rfl,_,Go.Proofs.Tryz.func14,zma⟩
 ·cases h; exact ⟨rfl,_,Go.Proofs.Tryz.func15,zxa⟩
 ·cases h; exact ⟨rfl,_,Go.Proofs.Tryz.func16,zl8⟩
 ·cases h; exact ⟨rfl,_,Go.Proofs.Tryz.func17,zw9⟩
 ·cases h; exact ⟨rfl,_,Go.Proofs.Tryz.func23,zs0⟩
 ·cases h; exact ⟨rfl,_,Go.Proofs.Tryz.func25,zrh⟩
 ·cases h; exact ⟨rfl,_,Go.Proofs.Tryz.func27,zz4⟩
 ·cases h; exact ⟨rfl,_,Go.Proofs.Tryz.func28,zxe⟩
 ·cases h; exact ⟨rfl,_,Go.Proofs.Tryz.func29,zux⟩
 ·cases h; exact ⟨rfl,_,Go.Proofs.Tryz.func30,zxb⟩
 ·cases h; exact ⟨rfl,_,Go.Proofs.Tryz.func31,zz1⟩
 ·cases h; exact ⟨rfl,_,Go.Proofs.Tryz.func32,zu0⟩
 ·cases h; exact ⟨rfl,_,Go.Proofs.Tryz.func34,zl7⟩
 ·cases h; exact ⟨rfl,_,Go.Proofs.Tryz.func37,zuy⟩
 ·cases h; exact ⟨rfl,_,Go.Proofs.Tryz.func38,zgs⟩
 ·cases h; exact ⟨rfl,_,Go.Proofs.Tryz.func39,zqb⟩
 ·cases h; exact ⟨rfl,_,Go.Proofs.Tryz.func40,zo1⟩
 ·cases h; exact ⟨rfl,_,Go.Proofs.Tryz.func41,zkm⟩
 ·cases h; exact ⟨rfl,_,Go.Proofs.Tryz.func42,zjt⟩
 ·cases h; exact ⟨rfl,_,Go.Proofs.Tryz.func43,zu1⟩
 ·cases h; exact ⟨rfl,_,Go.Proofs.Tryz.func44,zn3⟩
 ·cases h; exact ⟨rfl,_,Go.Proofs.Tryz.func45,zn5⟩
 ·cases h; exact ⟨rfl,_,Go.Proofs.Tryz.func46,zmx⟩
 ·cases h; exact ⟨rfl,_,Go.Proofs.Tryz.func47,zu3⟩
 ·cases h; exact ⟨rfl,_,Go.Proofs.Tryz.func48,zxi⟩
 ·cases h; exact ⟨rfl,_,Go.Proofs.Tryz.func49,zxh⟩
 ·cases h; exact ⟨rfl,_,Go.Proofs.Tryz.func50,zxf⟩
 ·cases h; exact ⟨rfl,_,Go.Proofs.Tryz.func51,zxg⟩
 ·cases h; exact ⟨rfl,_,Go.Proofs.Tryz.func52,zrj⟩
 ·cases h; exact ⟨rfl,_,Go.Proofs.Tryz.func63,zs3⟩
 ·cases h; exact ⟨rfl,_,Go.Proofs.Tryz.func68,zqc⟩
 ·cases h; exact ⟨rfl,_,Go.Proofs.Tryz.func69,zjy⟩
 ·cases h; exact ⟨rfl,_,Go.Proofs.Tryz.func70,zif⟩
 ·cases h; exact ⟨rfl,_,Go.Proofs.Tryz.func72,zkn⟩
 ·cases h; exact ⟨rfl,_,Go.Proofs.Tryz.func73,zgz⟩
 ·cases h; exact ⟨rfl,_,Go.Proofs.Tryz.func74,zig⟩
 ·cases h; exact ⟨rfl,_,Go.Proofs.Tryz.func75,zo0⟩
 ·cases h; exact ⟨rfl,_,Go.Proofs.Tryz.func78,zdyb⟩
 ·cases h; exact ⟨rfl,_,Go.Proofs.Tryz.func79,zz0⟩
 ·cases h; exact ⟨rfl,_,Go.Proofs.Tryz.func80,zxd⟩
 ·cases h; exact ⟨rfl,_,Go.Proofs.Tryz.func81,zz5⟩
 ·cases h; exact ⟨rfl,_,Go.Proofs.Tryz.func82,zxc⟩
 ·cases h; exact ⟨rfl,_,Go.Proofs.Tryz.func83,zz2⟩
 ·cases h; exact ⟨rfl,_,Go.Proofs.Tryz.func85,zmv⟩
 ·cases h; exact ⟨rfl,_,Go.Proofs.Tryz.func86,zuw⟩
 ·cases h; exact ⟨rfl,_,Go.Proofs.Tryz.func87,zk5⟩
 ·cases h; exact ⟨rfl,_,Go.Proofs.Tryz.func88,zs2⟩
 ·cases h; exact ⟨rfl,_,Go.Proofs.Tryz.func89,zu2⟩
 ·cases h; exact ⟨rfl,_,Go.Proofs.Tryz.func91,zmw⟩
 ·cases h; exact ⟨rfl,_,Go.Proofs.Tryz.func92,zxj⟩
 ·cases h; exact ⟨rfl,_,Go.Proofs.Tryz.func93,zs4⟩
 ·cases h; exact ⟨rfl,_,Go.Proofs.Tryz.func94,zrk⟩
 ·cases h; exact ⟨rfl,_,Go.Proofs.Tryz.func104,zdxb⟩
 ·cases h; exact ⟨rfl,_,Go.Proofs.Tryz.func113,zuz⟩
 ·cases h; exact ⟨rfl,_,Go.Proofs.Tryz.func114,zh3⟩
 ·cases h; exact ⟨rfl,_,Go.Proofs.Tryz.func115,zn4⟩
 ·cases h; exact ⟨rfl,_,Go.Proofs.Tryz.func116,zix⟩
 ·cases h; exact ⟨rfl,_,Go.Proofs.Tryz.func117,zg9⟩
 ·cases h; exact ⟨rfl,_,Go.Proofs.Tryz.func118,zqa⟩
 ·cases h; exact ⟨rfl,_,Go.Proofs.Tryz.func120,zha⟩
 ·cases h; exact ⟨rfl,_,Go.Proofs.Tryz.func121,zz3⟩
 ·cases h; exact ⟨rfl,_,Go.Proofs.Tryz.func122,zdvb⟩
 ·cases h; exact ⟨rfl,_,Go.Proofs.Tryz.func123,zdwb⟩
 ·cases h; exact ⟨rfl,_,Go.Proofs.Tryz.func125,zmu⟩
 ·cases h; exact ⟨rfl,_,Go.Proofs.Tryz.func126,zs7⟩
 ·cases h; exact ⟨rfl,_,Go.Proofs.Tryz.func127,zs6⟩
 ·cases h; exact ⟨rfl,_,Go.Proofs.Tryz.func128,zk6⟩
 ·cases h; exact ⟨rfl,_,Go.Proofs.Tryz.func129,zmb⟩
 ·cases h; exact ⟨rfl,_,Go.Proofs.Tryz.func131,zgt⟩
 ·cases h; exact ⟨rfl,_,Go.Proofs.Tryz.func148,zih⟩
 ·cases h; exact ⟨rfl,_,Go.Proofs.Tryz.func149,zfr⟩
 ·cases h; exact ⟨rfl,_,Go.Proofs.Tryz.func155,zs5⟩
 ·cases h; exact ⟨rfl,_,Go.Proofs.Tryz.func156,zqd⟩
 ·cases h; exact ⟨rfl,_,Go.Proofs.Tryz.func157,zh2⟩
 ·cases h; exact ⟨rfl,_,Go.Proofs.Tryz.func158,zjz⟩
 ·cases h; exact ⟨rfl,_,Go.Proofs.Tryz.func159,zmy⟩
 ·cases h; exact ⟨rfl,_,Go.Proofs.Tryz.func178,zju⟩
 ·cases h
def Ra:RecF:=fun _ _ _ _=>none
theorem zg0 {κ2:Ctx}:zjb Go.Proofs.Tryz.prog κ2 Ra:=fun _ _ _ _ _ _ h=>by cases h
noncomputable def zgvb (n:Nat) (f:FuncId):Bool:=match runQ Γa Ra Xa n false f [] {objs:=[],tys:=[],oth:=[],next:=0} with
 | some (.ret ⟨false,.bool true⟩,_)=>true
 | _=>false
end Go.Fu

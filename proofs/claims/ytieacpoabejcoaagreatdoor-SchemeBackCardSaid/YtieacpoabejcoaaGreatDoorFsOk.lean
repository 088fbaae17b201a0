/-
 The fit of the program's functions and the machine's code: reckoned by the kernel.
-/
import Derived.Test.YtieacpoabejcoaaGreatDoorProg
import Derived.Test.YtieacpoabejcoaaGreatDoorFsCopy
set_option maxHeartbeats 4000000
set_option linter.unusedSimpArgs false
set_option linter.unusedVariables false
set_option linter.unusedSectionVars false
namespace Go.Fu
open Go Go.Mx
theorem zoz:okFun Go.Proofs.Tryz.prog Go.Proofs.Tryz.f3 a_132=true:=by kernel_rfl
theorem zz6:okFun Go.Proofs.Tryz.prog Go.Proofs.Tryz.f7 a_110=true:=by kernel_rfl
theorem zxk:okFun Go.Proofs.Tryz.prog Go.Proofs.Tryz.f8 a_114=true:=by kernel_rfl
theorem zl9:okFun Go.Proofs.Tryz.prog Go.Proofs.Tryz.f9 a_164=true:=by kernel_rfl
theorem zri:okFun Go.Proofs.Tryz.prog Go.Proofs.Tryz.f12 a_145=true:=by kernel_rfl
theorem zs1:okFun Go.Proofs.Tryz.prog Go.Proofs.Tryz.f13 a_147=true:=by kernel_rfl
theorem zma:okFun Go.Proofs.Tryz.prog Go.Proofs.Tryz.f14 a_94=true:=by kernel_rfl
theorem zxa:okFun Go.Proofs.Tryz.prog Go.Proofs.Tryz.f15 a_136=true:=by kernel_rfl
theorem zl8:okFun Go.Proofs.Tryz.prog Go.Proofs.Tryz.f16 a_163=true:=by kernel_rfl
theorem zw9:okFun Go.Proofs.Tryz.prog Go.Proofs.Tryz.f17 a_205=true:=by kernel_rfl
theorem zs0:okFun Go.Proofs.Tryz.prog Go.Proofs.Tryz.f23 a_207=true:=by kernel_rfl
theorem zrh:okFun Go.Proofs.Tryz.prog Go.Proofs.Tryz.f25 a_206=true:=by kernel_rfl
theorem zz4:okFun Go.Proofs.Tryz.prog Go.Proofs.Tryz.f27 a_143=true:=by kernel_rfl
theorem zxe:okFun Go.Proofs.Tryz.prog Go.Proofs.Tryz.f28 a_142=true:=by kernel_rfl
theorem zux:okFun Go.Proofs.Tryz.prog Go.Proofs.Tryz.f29 a_108=true:=by kernel_rfl
theorem zxb:okFun Go.Proofs.Tryz.prog Go.Proofs.Tryz.f30 a_139=true:=by kernel_rfl
theorem zz1:okFun Go.Proofs.Tryz.prog Go.Proofs.Tryz.f31 a_134=true:=by kernel_rfl
theorem zu0:okFun Go.Proofs.Tryz.prog Go.Proofs.Tryz.f32 a_158=true:=by kernel_rfl
theorem zl7:okFun Go.Proofs.Tryz.prog Go.Proofs.Tryz.f34 a_146=true:=by kernel_rfl
theorem zuy:okFun Go.Proofs.Tryz.prog Go.Proofs.Tryz.f37 a_152=true:=by kernel_rfl
theorem zgs:okFun Go.Proofs.Tryz.prog Go.Proofs.Tryz.f38 a_111=true:=by kernel_rfl
theorem zqb:okFun Go.Proofs.Tryz.prog Go.Proofs.Tryz.f39 a_148=true:=by kernel_rfl
theorem zo1:okFun Go.Proofs.Tryz.prog Go.Proofs.Tryz.f40 a_149=true:=by kernel_rfl
theorem zkm:okFun Go.Proofs.Tryz.prog Go.Proofs.Tryz.f41 a_154=true:=by kernel_rfl
theorem zjt:okFun Go.Proofs.Tryz.prog Go.Proofs.Tryz.f42 a_153=true:=by kernel_rfl
theorem zu1:okFun Go.Proofs.Tryz.prog Go.Proofs.Tryz.f43 a_160=true:=by kernel_rfl
theorem zn3:okFun Go.Proofs.Tryz.prog Go.Proofs.Tryz.f44 a_133=true:=by kernel_rfl
theorem zn5:okFun Go.Proofs.Tryz.prog Go.Proofs.Tryz.f45 a_19=true:=by kernel_rfl
theorem zmx:okFun Go.Proofs.Tryz.prog Go.Proofs.Tryz.f46 a_115=true:=by kernel_rfl
theorem zu3:okFun Go.Proofs.Tryz.prog Go.Proofs.Tryz.f47 a_167=true:=by kernel_rfl
theorem zxi:okFun Go.Proofs.Tryz.prog Go.Proofs.Tryz.f48 a_91=true:=by kernel_rfl
theorem zxh:okFun Go.Proofs.Tryz.prog Go.Proofs.Tryz.f49 a_216=true:=by kernel_rfl
theorem zxf:okFun Go.Proofs.Tryz.prog Go.Proofs.Tryz.f50 a_157=true:=by kernel_rfl
theorem zxg:okFun Go.Proofs.Tryz.prog Go.Proofs.Tryz.f51 a_214=true:=by kernel_rfl
theorem zrj:okFun Go.Proofs.Tryz.prog Go.Proofs.Tryz.f52 a_208=true:=by kernel_rfl
theorem zs3:okFun Go.Proofs.Tryz.prog Go.Proofs.Tryz.f63 a_22=true:=by kernel_rfl
theorem zqc:okFun Go.Proofs.Tryz.prog Go.Proofs.Tryz.f68 a_211=true:=by kernel_rfl
theorem zjy:okFun Go.Proofs.Tryz.prog Go.Proofs.Tryz.f69 a_210=true:=by kernel_rfl
theorem zif:okFun Go.Proofs.Tryz.prog Go.Proofs.Tryz.f70 a_209=true:=by kernel_rfl
theorem zkn:okFun Go.Proofs.Tryz.prog Go.Proofs.Tryz.f72 a_28=true:=by kernel_rfl
theorem zgz:okFun Go.Proofs.Tryz.prog Go.Proofs.Tryz.f73 a_155=true:=by kernel_rfl
theorem zig:okFun Go.Proofs.Tryz.prog Go.Proofs.Tryz.f74 a_55=true:=by kernel_rfl
theorem zo0:okFun Go.Proofs.Tryz.prog Go.Proofs.Tryz.f75 a_144=true:=by kernel_rfl
theorem zdyb:okFun Go.Proofs.Tryz.prog Go.Proofs.Tryz.f78 a_3=true:=by kernel_rfl
theorem zz0:okFun Go.Proofs.Tryz.prog Go.Proofs.Tryz.f79 a_81=true:=by kernel_rfl
theorem zxd:okFun Go.Proofs.Tryz.prog Go.Proofs.Tryz.f80 a_141=true:=by kernel_rfl
theorem zz5:okFun Go.Proofs.Tryz.prog Go.Proofs.Tryz.f81 a_109=true:=by kernel_rfl
theorem zxc:okFun Go.Proofs.Tryz.prog Go.Proofs.Tryz.f82 a_6=true:=by kernel_rfl
theorem zz2:okFun Go.Proofs.Tryz.prog Go.Proofs.Tryz.f83 a_33=true:=by kernel_rfl
theorem zmv:okFun Go.Proofs.Tryz.prog Go.Proofs.Tryz.f85 a_113=true:=by kernel_rfl
theorem zuw:okFun Go.Proofs.Tryz.prog Go.Proofs.Tryz.f86 a_79=true:=by kernel_rfl
theorem zk5:okFun Go.Proofs.Tryz.prog Go.Proofs.Tryz.f87 a_78=true:=by kernel_rfl
theorem zs2:okFun Go.Proofs.Tryz.prog Go.Proofs.Tryz.f88 a_159=true:=by kernel_rfl
theorem zu2:okFun Go.Proofs.Tryz.prog Go.Proofs.Tryz.f89 a_36=true:=by kernel_rfl
theorem zmw:okFun Go.Proofs.Tryz.prog Go.Proofs.Tryz.f91 a_45=true:=by kernel_rfl
theorem zxj:okFun Go.Proofs.Tryz.prog Go.Proofs.Tryz.f92 a_93=true:=by kernel_rfl
theorem zs4:okFun Go.Proofs.Tryz.prog Go.Proofs.Tryz.f93 a_92=true:=by kernel_rfl
theorem zrk:okFun Go.Proofs.Tryz.prog Go.Proofs.Tryz.f94 a_213=true:=by kernel_rfl
theorem zdxb:okFun Go.Proofs.Tryz.prog Go.Proofs.Tryz.f104 a_140=true:=by kernel_rfl
theorem zuz:okFun Go.Proofs.Tryz.prog Go.Proofs.Tryz.f113 a_215=true:=by kernel_rfl
theorem zh3:okFun Go.Proofs.Tryz.prog Go.Proofs.Tryz.f114 a_70=true:=by kernel_rfl
theorem zn4:okFun Go.Proofs.Tryz.prog Go.Proofs.Tryz.f115 a_151=true:=by kernel_rfl
theorem zix:okFun Go.Proofs.Tryz.prog Go.Proofs.Tryz.f116 a_69=true:=by kernel_rfl
theorem zg9:okFun Go.Proofs.Tryz.prog Go.Proofs.Tryz.f117 a_150=true:=by kernel_rfl
theorem zqa:okFun Go.Proofs.Tryz.prog Go.Proofs.Tryz.f118 a_130=true:=by kernel_rfl
theorem zha:okFun Go.Proofs.Tryz.prog Go.Proofs.Tryz.f120 a_156=true:=by kernel_rfl
theorem zz3:okFun Go.Proofs.Tryz.prog Go.Proofs.Tryz.f121 a_138=true:=by kernel_rfl
theorem zdvb:okFun Go.Proofs.Tryz.prog Go.Proofs.Tryz.f122 a_135=true:=by kernel_rfl
theorem zdwb:okFun Go.Proofs.Tryz.prog Go.Proofs.Tryz.f123 a_137=true:=by kernel_rfl
theorem zmu:okFun Go.Proofs.Tryz.prog Go.Proofs.Tryz.f125 a_131=true:=by kernel_rfl
theorem zs7:okFun Go.Proofs.Tryz.prog Go.Proofs.Tryz.f126 a_18=true:=by kernel_rfl
theorem zs6:okFun Go.Proofs.Tryz.prog Go.Proofs.Tryz.f127 a_162=true:=by kernel_rfl
theorem zk6:okFun Go.Proofs.Tryz.prog Go.Proofs.Tryz.f128 a_72=true:=by kernel_rfl
theorem zmb:okFun Go.Proofs.Tryz.prog Go.Proofs.Tryz.f129 a_165=true:=by kernel_rfl
theorem zgt:okFun Go.Proofs.Tryz.prog Go.Proofs.Tryz.f131 a_212=true:=by kernel_rfl
theorem zih:okFun Go.Proofs.Tryz.prog Go.Proofs.Tryz.f148 a_71=true:=by kernel_rfl
theorem zfr:okFun Go.Proofs.Tryz.prog Go.Proofs.Tryz.f149 a_89=true:=by kernel_rfl
theorem zs5:okFun Go.Proofs.Tryz.prog Go.Proofs.Tryz.f155 a_15=true:=by kernel_rfl
theorem zqd:okFun Go.Proofs.Tryz.prog Go.Proofs.Tryz.f156 a_161=true:=by kernel_rfl
theorem zh2:okFun Go.Proofs.Tryz.prog Go.Proofs.Tryz.f157 a_112=true:=by kernel_rfl
theorem zjz:okFun Go.Proofs.Tryz.prog Go.Proofs.Tryz.f158 a_166=true:=by kernel_rfl
theorem zmy:okFun Go.Proofs.Tryz.prog Go.Proofs.Tryz.f159 a_20=true:=by kernel_rfl
theorem zju:okFun Go.Proofs.Tryz.prog Go.Proofs.Tryz.f178 a_88=true:=by kernel_rfl
end Go.Fu

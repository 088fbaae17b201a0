/-
 The fit of the program's functions and the machine's code: reckoned by the kernel.
-/
import Derived.Test.YtldfbnbckiifeaaGreatDoorProg
import Derived.Test.YtldfbnbckiifeaaGreatDoorFgString
import Derived.Test.YtldfbnbckiifeaaGreatDoorFgIds
import Derived.Test.YtldfbnbckiifeaaGreatDoorMyFrame
set_option maxHeartbeats 4000000
set_option linter.unusedSimpArgs false
set_option linter.unusedVariables false
set_option linter.unusedSectionVars false
namespace Go.Fu
open Go Go.Mx
theorem Ub:dS Go.Proofs.Tryz.prog Go.Proofs.Tryz.f7 zgi=true:=by kernel_rfl
theorem ze6:dS Go.Proofs.Tryz.prog Go.Proofs.Tryz.f10 zgk=true:=by kernel_rfl
theorem zmk:dS Go.Proofs.Tryz.prog Go.Proofs.Tryz.f11 zbk=true:=by kernel_rfl
theorem zcx:dS Go.Proofs.Tryz.prog Go.Proofs.Tryz.f13 zzw=true:=by kernel_rfl
theorem zj6:dS Go.Proofs.Tryz.prog Go.Proofs.Tryz.f15 zz8=true:=by kernel_rfl
theorem zcw:dS Go.Proofs.Tryz.prog Go.Proofs.Tryz.f17 zzr=true:=by kernel_rfl
theorem Wv:dS Go.Proofs.Tryz.prog Go.Proofs.Tryz.f19 zzv=true:=by kernel_rfl
theorem zml:dS Go.Proofs.Tryz.prog Go.Proofs.Tryz.f20 zgm=true:=by kernel_rfl
theorem ze7:dS Go.Proofs.Tryz.prog Go.Proofs.Tryz.f21 zgl=true:=by kernel_rfl
theorem zmn:dS Go.Proofs.Tryz.prog Go.Proofs.Tryz.f25 zgn=true:=by kernel_rfl
theorem zmq:dS Go.Proofs.Tryz.prog Go.Proofs.Tryz.f26 zbt=true:=by kernel_rfl
theorem zmm:dS Go.Proofs.Tryz.prog Go.Proofs.Tryz.f27 vK=true:=by kernel_rfl
theorem zmo:dS Go.Proofs.Tryz.prog Go.Proofs.Tryz.f28 zbs=true:=by kernel_rfl
theorem vT:dS Go.Proofs.Tryz.prog Go.Proofs.Tryz.f29 zaob=true:=by kernel_rfl
theorem Tz:dS Go.Proofs.Tryz.prog Go.Proofs.Tryz.f31 zz7=true:=by kernel_rfl
theorem wZ:dS Go.Proofs.Tryz.prog Go.Proofs.Tryz.f32 zanb=true:=by kernel_rfl
theorem zvc:dS Go.Proofs.Tryz.prog Go.Proofs.Tryz.f37 Yc=true:=by kernel_rfl
theorem Me:dS Go.Proofs.Tryz.prog Go.Proofs.Tryz.f39 zz6=true:=by kernel_rfl
theorem Wq:dS Go.Proofs.Tryz.prog Go.Proofs.Tryz.f40 zzs=true:=by kernel_rfl
theorem Ws:dS Go.Proofs.Tryz.prog Go.Proofs.Tryz.f41 zzt=true:=by kernel_rfl
theorem zV:dS Go.Proofs.Tryz.prog Go.Proofs.Tryz.f42 Ye=true:=by kernel_rfl
theorem Wu:dS Go.Proofs.Tryz.prog Go.Proofs.Tryz.f43 zzu=true:=by kernel_rfl
theorem zcy:dS Go.Proofs.Tryz.prog Go.Proofs.Tryz.f44 zz3=true:=by kernel_rfl
theorem zcz:dS Go.Proofs.Tryz.prog Go.Proofs.Tryz.f45 zbg=true:=by kernel_rfl
theorem wX:dS Go.Proofs.Tryz.prog Go.Proofs.Tryz.f46 Yd=true:=by kernel_rfl
theorem yE:dS Go.Proofs.Tryz.prog Go.Proofs.Tryz.f47 zaib=true:=by kernel_rfl
theorem zc0:dS Go.Proofs.Tryz.prog Go.Proofs.Tryz.f48 zgb=true:=by kernel_rfl
theorem Qi:dS Go.Proofs.Tryz.prog Go.Proofs.Tryz.f49 zzz=true:=by kernel_rfl
theorem ze2:dS Go.Proofs.Tryz.prog Go.Proofs.Tryz.f50 zf5=true:=by kernel_rfl
theorem ze0:dS Go.Proofs.Tryz.prog Go.Proofs.Tryz.f51 zzx=true:=by kernel_rfl
theorem ze8:dS Go.Proofs.Tryz.prog Go.Proofs.Tryz.f52 zbu=true:=by kernel_rfl
theorem zmp:dS Go.Proofs.Tryz.prog Go.Proofs.Tryz.f64 Ny=true:=by kernel_rfl
theorem zj8:dS Go.Proofs.Tryz.prog Go.Proofs.Tryz.f65 zgp=true:=by kernel_rfl
theorem Fq:dS Go.Proofs.Tryz.prog Go.Proofs.Tryz.f70 zb2=true:=by kernel_rfl
theorem Wx:dS Go.Proofs.Tryz.prog Go.Proofs.Tryz.f71 zz4=true:=by kernel_rfl
theorem Ww:dS Go.Proofs.Tryz.prog Go.Proofs.Tryz.f72 zz0=true:=by kernel_rfl
theorem ze4:dS Go.Proofs.Tryz.prog Go.Proofs.Tryz.f74 zz2=true:=by kernel_rfl
theorem Dn:dS Go.Proofs.Tryz.prog Go.Proofs.Tryz.f75 zgv=true:=by kernel_rfl
theorem Do:dS Go.Proofs.Tryz.prog Go.Proofs.Tryz.f76 zgw=true:=by kernel_rfl
theorem Bv:dS Go.Proofs.Tryz.prog Go.Proofs.Tryz.f77 zagb=true:=by kernel_rfl
theorem Fp:dS Go.Proofs.Tryz.prog Go.Proofs.Tryz.f78 zafb=true:=by kernel_rfl
theorem zW:dS Go.Proofs.Tryz.prog Go.Proofs.Tryz.f79 zb0=true:=by kernel_rfl
theorem Bz:dS Go.Proofs.Tryz.prog Go.Proofs.Tryz.f80 zajb=true:=by kernel_rfl
theorem Wy:dS Go.Proofs.Tryz.prog Go.Proofs.Tryz.f81 zgc=true:=by kernel_rfl
theorem wY:dS Go.Proofs.Tryz.prog Go.Proofs.Tryz.f82 zgs=true:=by kernel_rfl
theorem Ql:dS Go.Proofs.Tryz.prog Go.Proofs.Tryz.f83 zgd=true:=by kernel_rfl
theorem ze1:dS Go.Proofs.Tryz.prog Go.Proofs.Tryz.f84 wF=true:=by kernel_rfl
theorem Kr:dS Go.Proofs.Tryz.prog Go.Proofs.Tryz.f85 zf8=true:=by kernel_rfl
theorem Qk:dS Go.Proofs.Tryz.prog Go.Proofs.Tryz.f86 zf9=true:=by kernel_rfl
theorem Xb:dS Go.Proofs.Tryz.prog Go.Proofs.Tryz.f87 zge=true:=by kernel_rfl
theorem Kp:dS Go.Proofs.Tryz.prog Go.Proofs.Tryz.f88 Vi=true:=by kernel_rfl
theorem Tv:dS Go.Proofs.Tryz.prog Go.Proofs.Tryz.f89 zft=true:=by kernel_rfl
theorem zB:dS Go.Proofs.Tryz.prog Go.Proofs.Tryz.f90 zgr=true:=by kernel_rfl
theorem Qm:dS Go.Proofs.Tryz.prog Go.Proofs.Tryz.f91 zgf=true:=by kernel_rfl
theorem Xd:dS Go.Proofs.Tryz.prog Go.Proofs.Tryz.f92 zgg=true:=by kernel_rfl
theorem Xe:dS Go.Proofs.Tryz.prog Go.Proofs.Tryz.f93 zgh=true:=by kernel_rfl
theorem Qn:dS Go.Proofs.Tryz.prog Go.Proofs.Tryz.f94 zbi=true:=by kernel_rfl
theorem Xf:dS Go.Proofs.Tryz.prog Go.Proofs.Tryz.f95 Ib=true:=by kernel_rfl
theorem Qo:dS Go.Proofs.Tryz.prog Go.Proofs.Tryz.f96 zbj=true:=by kernel_rfl
theorem zaa:dS Go.Proofs.Tryz.prog Go.Proofs.Tryz.f97 uF=true:=by kernel_rfl
theorem Dl:dS Go.Proofs.Tryz.prog Go.Proofs.Tryz.f98 zahb=true:=by kernel_rfl
theorem Kq:dS Go.Proofs.Tryz.prog Go.Proofs.Tryz.f99 zf7=true:=by kernel_rfl
theorem Qj:dS Go.Proofs.Tryz.prog Go.Proofs.Tryz.f100 zf4=true:=by kernel_rfl
theorem Ko:dS Go.Proofs.Tryz.prog Go.Proofs.Tryz.f101 zz1=true:=by kernel_rfl
theorem Cb:dS Go.Proofs.Tryz.prog Go.Proofs.Tryz.f102 zb3=true:=by kernel_rfl
theorem Md:dS Go.Proofs.Tryz.prog Go.Proofs.Tryz.f103 zf2=true:=by kernel_rfl
theorem Zy:dS Go.Proofs.Tryz.prog Go.Proofs.Tryz.f104 zfu=true:=by kernel_rfl
theorem Mc:dS Go.Proofs.Tryz.prog Go.Proofs.Tryz.f105 yR=true:=by kernel_rfl
theorem zj7:dS Go.Proofs.Tryz.prog Go.Proofs.Tryz.f106 zgo=true:=by kernel_rfl
theorem Bt:dS Go.Proofs.Tryz.prog Go.Proofs.Tryz.f119 zgq=true:=by kernel_rfl
theorem He:dS Go.Proofs.Tryz.prog Go.Proofs.Tryz.f120 zakb=true:=by kernel_rfl
theorem zY:dS Go.Proofs.Tryz.prog Go.Proofs.Tryz.f121 zgx=true:=by kernel_rfl
theorem zX:dS Go.Proofs.Tryz.prog Go.Proofs.Tryz.f122 zgu=true:=by kernel_rfl
theorem Dm:dS Go.Proofs.Tryz.prog Go.Proofs.Tryz.f123 zgt=true:=by kernel_rfl
theorem zj5:dS Go.Proofs.Tryz.prog Go.Proofs.Tryz.f124 zbe=true:=by kernel_rfl
theorem Ua:dS Go.Proofs.Tryz.prog Go.Proofs.Tryz.f125 zbf=true:=by kernel_rfl
theorem Ha:dS Go.Proofs.Tryz.prog Go.Proofs.Tryz.f126 Yf=true:=by kernel_rfl
theorem ze3:dS Go.Proofs.Tryz.prog Go.Proofs.Tryz.f127 zf6=true:=by kernel_rfl
theorem zmf:dS Go.Proofs.Tryz.prog Go.Proofs.Tryz.f128 zfp=true:=by kernel_rfl
theorem zmg:dS Go.Proofs.Tryz.prog Go.Proofs.Tryz.f129 zfq=true:=by kernel_rfl
theorem ze5:dS Go.Proofs.Tryz.prog Go.Proofs.Tryz.f130 zga=true:=by kernel_rfl
theorem Gz:dS Go.Proofs.Tryz.prog Go.Proofs.Tryz.f131 zadb=true:=by kernel_rfl
theorem Ks:dS Go.Proofs.Tryz.prog Go.Proofs.Tryz.f132 zaeb=true:=by kernel_rfl
theorem My:dS Go.Proofs.Tryz.prog Go.Proofs.Tryz.f133 zacb=true:=by kernel_rfl
theorem Uc:dS Go.Proofs.Tryz.prog Go.Proofs.Tryz.f134 zgj=true:=by kernel_rfl
theorem Gy:dS Go.Proofs.Tryz.prog Go.Proofs.Tryz.f135 zf3=true:=by kernel_rfl
theorem Qh:dS Go.Proofs.Tryz.prog Go.Proofs.Tryz.f136 zfx=true:=by kernel_rfl
theorem Jy:dS Go.Proofs.Tryz.prog Go.Proofs.Tryz.f137 za9=true:=by kernel_rfl
theorem Gw:dS Go.Proofs.Tryz.prog Go.Proofs.Tryz.f138 zf0=true:=by kernel_rfl
theorem Gx:dS Go.Proofs.Tryz.prog Go.Proofs.Tryz.f139 zf1=true:=by kernel_rfl
theorem Gv:dS Go.Proofs.Tryz.prog Go.Proofs.Tryz.f140 yQ=true:=by kernel_rfl
theorem Ly:dS Go.Proofs.Tryz.prog Go.Proofs.Tryz.f141 zzy=true:=by kernel_rfl
theorem zA:dS Go.Proofs.Tryz.prog Go.Proofs.Tryz.f147 zabb=true:=by kernel_rfl
theorem vH:dS Go.Proofs.Tryz.prog Go.Proofs.Tryz.f148 zamb=true:=by kernel_rfl
theorem Xg:dS Go.Proofs.Tryz.prog Go.Proofs.Tryz.f149 zz9=true:=by kernel_rfl
theorem Zz:dS Go.Proofs.Tryz.prog Go.Proofs.Tryz.f150 Nu=true:=by kernel_rfl
theorem zmh:dS Go.Proofs.Tryz.prog Go.Proofs.Tryz.f151 zfr=true:=by kernel_rfl
theorem Jz:dS Go.Proofs.Tryz.prog Go.Proofs.Tryz.f153 zfy=true:=by kernel_rfl
theorem Fj:dS Go.Proofs.Tryz.prog Go.Proofs.Tryz.f154 zfv=true:=by kernel_rfl
theorem Fo:dS Go.Proofs.Tryz.prog Go.Proofs.Tryz.f156 zfw=true:=by kernel_rfl
theorem Dk:dS Go.Proofs.Tryz.prog Go.Proofs.Tryz.f158 zfz=true:=by kernel_rfl
theorem Qp:dS Go.Proofs.Tryz.prog Go.Proofs.Tryz.f160 zaab=true:=by kernel_rfl
theorem sD:dS Go.Proofs.Tryz.prog Go.Proofs.Tryz.f164 zalb=true:=by kernel_rfl
theorem zmi:dS Go.Proofs.Tryz.prog Go.Proofs.Tryz.f174 zfs=true:=by kernel_rfl
theorem Gu:dS Go.Proofs.Tryz.prog Go.Proofs.Tryz.f176 zpq=true:=by kernel_rfl
theorem zc1:dS Go.Proofs.Tryz.prog Go.Proofs.Tryz.f185 zgy=true:=by kernel_rfl
theorem zj9:dS Go.Proofs.Tryz.prog Go.Proofs.Tryz.f187 zgz=true:=by kernel_rfl
end Go.Fu
namespace Go.Fu
open Go Go.Mx
set_option maxRecDepth 100000
instance:LoopKit:=⟨fun N c c2=>gI Go.Proofs.Tryz.prog N true c c2=true⟩
instance:KitOf Go.Proofs.Tryz.prog inferInstance:=⟨fun _ _ _=>Iff.rfl⟩
def Γa:FuncId→Option AFun:=fun f=>match f with
 | 7=>some zgi
 | 10=>some zgk
 | 11=>some zbk
 | 13=>some zzw
 | 15=>some zz8
 | 17=>some zzr
 | 19=>some zzv
 | 20=>some zgm
 | 21=>some zgl
 | 25=>some zgn
 | 26=>some zbt
 | 27=>some vK
 | 28=>some zbs
 | 29=>some zaob
 | 31=>some zz7
 | 32=>some zanb
 | 37=>some Yc
 | 39=>some zz6
 | 40=>some zzs
 | 41=>some zzt
 | 42=>some Ye
 | 43=>some zzu
 | 44=>some zz3
 | 45=>some zbg
 | 46=>some Yd
 | 47=>some zaib
 | 48=>some zgb
 | 49=>some zzz
 | 50=>some zf5
 | 51=>some zzx
 | 52=>some zbu
 | 64=>some Ny
 | 65=>some zgp
 | 70=>some zb2
 | 71=>some zz4
 | 72=>some zz0
 | 74=>some zz2
 | 75=>some zgv
 | 76=>some zgw
 | 77=>some zagb
 | 78=>some zafb
 | 79=>some zb0
 | 80=>some zajb
 | 81=>some zgc
 | 82=>some zgs
 | 83=>some zgd
 | 84=>some wF
 | 85=>some zf8
 | 86=>some zf9
 | 87=>some zge
 | 88=>some Vi
 | 89=>some zft
 | 90=>some zgr
 | 91=>some zgf
 | 92=>some zgg
 | 93=>some zgh
 | 94=>some zbi
 | 95=>some Ib
 | 96=>some zbj
 | 97=>some uF
 | 98=>some zahb
 | 99=>some zf7
 | 100=>some zf4
 | 101=>some zz1
 | 102=>some zb3
 | 103=>some zf2
 | 104=>some zfu
 | 105=>some yR
 | 106=>some zgo
 | 119=>some zgq
 | 120=>some zakb
 | 121=>some zgx
 | 122=>some zgu
 | 123=>some zgt
 | 124=>some zbe
 | 125=>some zbf
 | 126=>some Yf
 | 127=>some zf6
 | 128=>some zfp
 | 129=>some zfq
 | 130=>some zga
 | 131=>some zadb
 | 132=>some zaeb
 | 133=>some zacb
 | 134=>some zgj
 | 135=>some zf3
 | 136=>some zfx
 | 137=>some za9
 | 138=>some zf0
 | 139=>some zf1
 | 140=>some yQ
 | 141=>some zzy
 | 147=>some zabb
 | 148=>some zamb
 | 149=>some zz9
 | 150=>some Nu
 | 151=>some zfr
 | 153=>some zfy
 | 154=>some zfv
 | 156=>some zfw
 | 158=>some zfz
 | 160=>some zaab
 | 164=>some zalb
 | 174=>some zfs
 | 176=>some zpq
 | 185=>some zgy
 | 187=>some zgz
 | _=>none
theorem Γa_holds:Holds Go.Proofs.Tryz.prog Γa:=by
 intro f af h
 unfold Γa at h
 split at h
 ·cases h; exact ⟨rfl,_,Go.Proofs.Tryz.func7,Ub⟩
 ·cases h; exact ⟨rfl,_,Go.Proofs.Tryz.func10,ze6⟩
 ·cases h; exact ⟨rfl,_,Go.Proofs.Tryz.func11,zmk⟩
 ·cases h; exact ⟨rfl,_,Go.Proofs.Tryz.func13,zcx⟩
 ·cases h; exact ⟨rfl,_,Go.Proofs.Tryz.func15,zj6⟩
 ·cases h; exact ⟨rfl,_,Go.Proofs.Tryz.func17,zcw⟩
 ·cases h; exact ⟨rfl,_,Go.Proofs.Tryz.func19,Wv⟩
 ·cases h; exact ⟨rfl,_,Go.Proofs.Tryz.func20,zml⟩
 ·cases h; exact ⟨rfl,_,Go.Proofs.Tryz.func21,ze7⟩
 ·cases h; exact ⟨rfl,_,Go.Proofs.Tryz.func25,zmn⟩
 ·cases h; exact ⟨rfl,_,Go.Proofs.Tryz.func26,zmq⟩
 ·cases h; exact ⟨rfl,_,Go.Proofs.Tryz.func27,zmm⟩
 ·cases h; exact ⟨rfl,_,Go.Proofs.Tryz.func28,zmo⟩
 ·cases h; exact ⟨rfl,_,Go.Proofs.Tryz.func29,vT⟩
 ·cases h; exact ⟨rfl,_,Go.Proofs.Tryz.func31,Tz⟩
 ·cases h; exact ⟨rfl,_,Go.Proofs.Tryz.func32,wZ⟩
 ·cases h; exact ⟨rfl,_,Go.Proofs.Tryz.func37,zvc⟩
 ·cases h; exact ⟨rfl,_,Go.Proofs.Tryz.func39,Me⟩
 ·cases h; exact ⟨rfl,_,Go.Proofs.Tryz.func40,Wq⟩
 ·cases h; exact ⟨rfl,_,Go.Proofs.Tryz.func41,Ws⟩
 ·cases h; exact ⟨rfl,_,Go.Proofs.Tryz.func42,zV⟩
 ·cases h; exact ⟨rfl,_,Go.Proofs.Tryz.func43,Wu⟩
 ·cases h; exact ⟨rfl,_,Go.Proofs.Tryz.func44,zcy⟩
 ·cases h; exact ⟨rfl,_,Go.Proofs.Tryz.func45,zcz⟩
 ·cases h; exact ⟨rfl,_,Go.Proofs.Tryz.func46,wX⟩
 ·cases h; exact ⟨rfl,_,Go.Proofs.Tryz.func47,yE⟩
 ·cases h; exact ⟨rfl,_,Go.Proofs.Tryz.func48,zc0⟩
 ·cases h; exact ⟨rfl,_,Go.Proofs.Tryz.func49,Qi⟩
 ·cases h; exact ⟨rfl,_,Go.Proofs.Tryz.func50,ze2⟩
 ·cases h; exact ⟨rfl,_,Go.Proofs.Tryz.func51,ze0⟩
 ·cases h; exact ⟨rfl,_,Go.Proofs.Tryz.func52,ze8⟩
 ·cases h; exact ⟨rfl,_,Go.Proofs.Tryz.func64,zmp⟩
 ·cases h; exact ⟨rfl,_,Go.Proofs.Tryz.func65,zj8⟩
 ·cases h; exact ⟨rfl,_,Go.Proofs.Tryz.func70,Fq⟩
 ·cases h; exact ⟨rfl,_,Go.Proofs.Tryz.func71,Wx⟩
 ·cases h; exact ⟨rfl,_,Go.Proofs.Tryz.func72,Ww⟩
 ·cases h; exact ⟨rfl,_,Go.Proofs.Tryz.func74,ze4⟩
 ·cases h; exact ⟨rfl,_,Go.Proofs.Tryz.func75,Dn⟩
 ·cases h; exact ⟨rfl,_,Go.Proofs.Tryz.func76,Do⟩
 ·cases h; exact ⟨rfl,_,Go.Proofs.Tryz.func77,Bv⟩
 ·cases h; exact ⟨rfl,_,Go.Proofs.Tryz.func78,Fp⟩
 ·cases h; exact ⟨rfl,_,Go.Proofs.Tryz.func79,zW⟩
 ·cases h; exact ⟨rfl,_,Go.Proofs.Tryz.func80,Bz⟩
 ·cases h; exact ⟨rfl,_,Go.Proofs.Tryz.func81,Wy⟩
 ·cases h; exact ⟨rfl,_,Go.Proofs.Tryz.func82,wY⟩
 ·cases h; exact ⟨rfl,_,Go.Proofs.Tryz.func83,Ql⟩
 ·cases h; exact ⟨rfl,_,Go.Proofs.Tryz.func84,ze1⟩
 ·cases h; exact ⟨rfl,_,Go.Proofs.Tryz.func85,Kr⟩
 ·cases h; exact ⟨rfl,_,Go.Proofs.Tryz.func86,Qk⟩
 ·cases h; exact ⟨rfl,_,Go.Proofs.Tryz.func87,Xb⟩
 ·cases h; exact ⟨rfl,_,Go.Proofs.Tryz.func88,Kp⟩
 ·cases h; exact ⟨rfl,_,Go.Proofs.Tryz.func89,Tv⟩
 ·cases h; exact ⟨rfl,_,Go.Proofs.Tryz.func90,zB⟩
 ·cases h; exact ⟨rfl,_,Go.Proofs.Tryz.func91,Qm⟩
 ·cases h; exact ⟨rfl,_,Go.Proofs.Tryz.func92,Xd⟩
 ·cases h; exact ⟨rfl,_,Go.Proofs.Tryz.func93,Xe⟩
 ·cases h; exact ⟨rfl,_,Go.Proofs.Tryz.func94,Qn⟩
 ·cases h; exact ⟨rfl,_,Go.Proofs.Tryz.func95,Xf⟩
 ·cases h; exact ⟨rfl,_,Go.Proofs.Tryz.func96,Qo⟩
 ·cases h; exact ⟨rfl,_,Go.Proofs.Tryz.func97,zaa⟩
 ·cases h; exact ⟨rfl,_,Go.Proofs.Tryz.func98,Dl⟩
 ·cases h; exact ⟨rfl,_,Go.Proofs.Tryz.func99,Kq⟩
 ·cases h; exact ⟨rfl,_,Go.Proofs.Tryz.func100,Qj⟩
 ·cases h; exact ⟨rfl,_,Go.Proofs.Tryz.func101,Ko⟩
 ·cases h; exact ⟨rfl,_,Go.Proofs.Tryz.func102,Cb⟩
 ·cases h; exact ⟨rfl,_,Go.Proofs.Tryz.func103,Md⟩
 ·cases h; exact ⟨rfl,_,Go.Proofs.Tryz.func104,Zy⟩
 ·cases h; exact ⟨rfl,_,Go.Proofs.Tryz.func105,Mc⟩
 ·cases h; exact ⟨rfl,_,Go.Proofs.Tryz.func106,zj7⟩
 ·cases h; exact ⟨rfl,_,Go.Proofs.Tryz.func119,Bt⟩
 ·cases h; exact ⟨rfl,_,Go.Proofs.Tryz.func120,He⟩
 ·cases h; exact ⟨rfl,_,Go.Proofs.Tryz.func121,zY⟩
 ·cases h; exact ⟨rfl,_,Go.Proofs.Tryz.func122,zX⟩
 ·cases h; exact ⟨rfl,_,Go.Proofs.Tryz.func123,Dm⟩
 ·cases h; exact ⟨rfl,_,Go.Proofs.Tryz.func124,zj5⟩
 ·cases h; exact ⟨rfl,_,Go.Proofs.Tryz.func125,Ua⟩
 ·cases h; exact ⟨rfl,_,Go.Proofs.Tryz.func126,Ha⟩
 ·cases h; exact ⟨rfl,_,Go.Proofs.Tryz.func127,ze3⟩
 ·cases h; exact ⟨rfl,_,Go.Proofs.Tryz.func128,zmf⟩
 ·cases h; exact ⟨rfl,_,Go.Proofs.Tryz.func129,zmg⟩
 ·cases h; exact ⟨rfl,_,Go.Proofs.Tryz.func130,ze5⟩
 ·cases h; exact ⟨rfl,_,Go.Proofs.Tryz.func131,Gz⟩
 ·cases h; exact ⟨rfl,_,Go.Proofs.Tryz.func132,Ks⟩
 ·cases h; exact ⟨rfl,_,Go.Proofs.Tryz.func133,My⟩
 ·cases h; exact ⟨rfl,_,Go.Proofs.Tryz.func134,Uc⟩
 ·cases h; exact ⟨rfl,_,Go.Proofs.Tryz.func135,Gy⟩
 ·cases h; exact ⟨rfl,_,Go.Proofs.Tryz.func136,Qh⟩
 ·cases h; exact ⟨rfl,_,Go.Proofs.Tryz.func137,Jy⟩
 ·cases h; exact ⟨rfl,_,Go.Proofs.Tryz.func138,Gw⟩
 ·cases h; exact ⟨rfl,_,Go.Proofs.Tryz.func139,Gx⟩
 ·cases h; exact ⟨rfl,_,Go.Proofs.Tryz.func140,Gv⟩
 ·cases h; exact ⟨rfl,_,Go.Proofs.Tryz.func141,Ly⟩
 ·cases h; exact ⟨rfl,_,Go.Proofs.Tryz.func147,zA⟩
 ·cases h; exact ⟨rfl,_,Go.Proofs.Tryz.func148,vH⟩
 ·cases h; exact ⟨rfl,_,Go.Proofs.Tryz.func149,Xg⟩
 ·cases h; exact ⟨rfl,_,Go.Proofs.Tryz.func150,Zz⟩
 ·cases h; exact ⟨rfl,_,Go.Proofs.Tryz.func151,zmh⟩
 ·cases h; exact ⟨rfl,_,Go.Proofs.Tryz.func153,Jz⟩
 ·cases h; exact ⟨rfl,_,Go.Proofs.Tryz.func154,Fj⟩
 ·cases h; exact ⟨rfl,_,Go.Proofs.Tryz.func156,Fo⟩
 ·cases h; exact ⟨rfl,_,Go.Proofs.Tryz.func158,Dk⟩
 ·cases h; exact ⟨rfl,_,Go.Proofs.Tryz.func160,Qp⟩
 ·cases h; exact ⟨rfl,_,Go.Proofs.Tryz.func164,sD⟩
 ·cases h; exact ⟨rfl,_,Go.Proofs.Tryz.func174,zmi⟩
 ·cases h; exact ⟨rfl,_,Go.Proofs.Tryz.func176,Gu⟩
 ·cases h; exact ⟨rfl,_,Go.Proofs.Tryz.func185,zc1⟩
 ·cases h; exact ⟨rfl,_,Go.Proofs.Tryz.func187,zj9⟩
 ·cases h
def Ra:pP:=fun _ _ _ _=>none
theorem sE {κ2:Ctx}:Ar Go.Proofs.Tryz.prog κ2 Ra:=fun _ _ _ _ _ _ h=>by cases h
def zu6 (n:Nat) (f:FuncId):Bool:=match nE Γa Ra Xa n false f [] {objs:=[],tys:=[],oth:=[],next:=0} with
 | some (.ret ⟨false,.bool true⟩,_)=>true
 | _=>false
end Go.Fu
namespace Go.Fu
open Go Go.Mx
theorem zxk:Go.Proofs.Tryz.prog.globalNamed "internal/strconv.uint64pow10"=some 0:=by kernel_rfl
def κ:Ctx where
 n:=0 + 1
 K:=fun w=>Lib.TabIs Go.Proofs.Tryz.prog w "internal/strconv.uint64pow10" .u64 Lib.pow10Tab
 stable:=fun w w' h k=>by
  unfold Lib.TabIs World.var? at k ⊢
  rw [zxk] at k ⊢
  simp only [Option.bind_some] at k ⊢
  rw [h 0 (by omega)]
  exact k
theorem zod:∀ (k n:Nat) (acc:List UInt8),n < 10 ^ k→Im k n acc=if k=0 then acc else Lib.decDigits n ++ acc
 | 0,n,acc,_=>rfl
 | k + 1,n,acc,h=>by
  rw [if_neg (by omega)]
  unfold Im
  by_cases h10:n < 10
  ·simp only [h10,decide_true,dJ]
   rw [Lib.decDigits,dif_pos h10]
   rfl
  ·simp only [h10,decide_false,dH]
   have hk:n / 10 < 10 ^ k:=by
    rw [Nat.div_lt_iff_lt_mul (by omega)]
    rw [Nat.pow_succ] at h
    exact h
   have hk0:k≠0:=by
    intro e
    subst e
    simp at hk
    omega
   rw [zod k (n / 10) _ hk,if_neg hk0,Lib.decDigits.eq_def n,dif_neg h10]
   simp
theorem zof {n:Nat} (h:n < 10 ^ 20):zce n=Lib.decDigits n:=by
 unfold zce
 rw [zod 20 n [] h]
 simp
theorem zxs {n:Int} (h:Ry n=true):tB n=Lib.itoa n:=by
 simp only [Ry,aC,cE] at h
 cases n with
 | ofNat m =>
  have h2:(m:Int)≤9223372036854775807:=h.2
  simp only [tB,Lib.itoa]
  rw [if_neg (by simp),zof (by omega)]
  rfl
 | negSucc m =>
  have h1:-9223372036854775808≤Int.negSucc m:=h.1
  simp only [tB,Lib.itoa]
  rw [if_pos (Int.negSucc_lt_zero m),zof (by omega)]
  rfl
theorem zaj {ι:Imm} {j:Lay} {d:D} {vs:List Value} (h:dM ι j [d] vs):∃ v,vs=[v]∧Rep ι j d v:=by
 simp only [dM] at h
 obtain ⟨x,r,rfl,h1,rfl⟩:=h
 exact ⟨x,rfl,h1⟩
theorem zzi {ds:List D} {d:D} (h:za6 ds=some d) (σ:Store):mZ Go.Proofs.Tryz.prog κ 30 ds σ (.ret ⟨false,d⟩) σ:=by
 unfold za6 at h
 split at h
 ·rename_i n
  obtain ⟨h1,h⟩:=dN h
  cases h
  refine zvp rfl ⟨_,_,Go.Proofs.Tryz.func30,by kernel_rfl,rfl⟩ (fun ι j own w vs hB hG hr=>?_)
  obtain ⟨v,rfl,hv⟩:=zaj hr
  simp only [Rep] at hv
  subst hv
  have hb:=h1
  simp only [Ry,aC,cE] at hb
  refine (Go.Proofs.Tryz.strconv_Itoa n hb.1 hb.2 w hB.K).mono ?_
  rintro e w' ⟨rfl,k,os,rfl⟩
  refine ⟨_,rfl,?_,by simp only [Rep]; rw [zxs h1]⟩
  have hd:RowKit.Below w.heap.size w (w.drewN k):=⟨rfl,rfl,rfl,aM _,fun _ _=>rfl⟩
  refine hd.trans ⟨rfl,rfl,rfl,by simp [Sort.grow],fun i hi=>?_⟩
  show (w.heap ++ os)[i]?=w.heap[i]?
  rw [Array.getElem?_append_left hi]
 ·cases h
theorem zkt {w:World} {b:Nat} {vs:List Value} {T:TypeId} (h:w.heap[b]?=some (.cells ⟨vs⟩ T (0,0))) (v:Value):(w.setCell ⟨b,0,none⟩ v).heap[b]?=some (.cells ⟨vs.set 0 v⟩ T (0,0)):=by
 have hlt:=(Array.getElem?_eq_some_iff.1 h).1
 have hv:=(Array.getElem?_eq_some_iff.1 h).2
 simp only [World.setCell,Array.getElem?_modify,if_true,h,bN]
 simp
theorem zzh {ds:List D} {σ σ':Store} {out:Out} (h:zs8 ds σ=some (out,σ')):mZ Go.Proofs.Tryz.prog κ 66 ds σ out σ':=by
 refine (lG (show isY 66=false from rfl)).2 ⟨⟨_,_,Go.Proofs.Tryz.func66,by kernel_rfl,rfl⟩,fun ι j own w vs hS hB hG hr=>?_⟩
 unfold zs8 at h
 split at h
 ·rename_i id
  obtain ⟨t,h1,ha⟩:=dC h
  obtain ⟨h2,hb⟩:=dN ha
  obtain ⟨cs,h3,hc⟩:=dC hb
  clear h ha hb
  have ht:t.t=wA:=by simpa using h2
  obtain ⟨v,rfl,hv⟩:=zaj hr
  simp only [Rep] at hv
  obtain ⟨b,hjb,rfl⟩:=hv
  obtain ⟨b',hjb',hown,row,T,hheap,hlen,hcell⟩:=hG.objs id cs h3
  rw [hjb] at hjb'
  cases hjb'
  obtain ⟨row',hrow',_⟩:=hG.tys id t cs h1 h3 b hjb
  rw [ht,hheap] at hrow'
  cases hrow'
  split at hc
  ·rename_i c0 c1
   obtain ⟨v0,hv0,_,hr0,_⟩:=hcell 0 c0 rfl
   have hc0:w.cell? ⟨b,0,none⟩=some v0:=by
    rw [cell_of_row w b 0 _ _ _ hheap]
    simpa using hv0
   split at hc
   ·rename_i hd
    cases hc
    rw [hd] at hr0
    simp only [Rep] at hr0
    subst hr0
    have hl:2≤row.length:=by simpa using hlen
    have hsh:w.shape? b=some (wA,row.length):=by simp [World.shape?,hheap]
    have hfz:w.frozen? ⟨b,0,none⟩=false:=Lib.frozen_of_heap hheap 0
    refine (zqh b w hc0 hl hsh hfz).mono ?_
    rintro e w' ⟨rfl,rfl⟩
    have hnew:=zkt hheap (.pointer (some ⟨b,0,none⟩))
    have hrest:∀ k,k≠b→(w.setCell ⟨b,0,none⟩ (.pointer (some ⟨b,0,none⟩))).heap[k]?=w.heap[k]?:=fun k hk=>RowKit.Below.heap_setCell w ⟨b,0,none⟩ _ k hk
    have hcl:∀ (i:Nat) (c:Cell),[(⟨false,.ptr id 0⟩:Cell),c1][i]?=some c→∃ v,(row.set 0 (.pointer (some ⟨b,0,none⟩)))[i]?=some v∧v.oneCell'=true∧lP ι j own (w.setCell ⟨b,0,none⟩ (.pointer (some ⟨b,0,none⟩))) (.ocell id i) c v:=by
     intro i c hi
     match i with
     | 0 =>
      simp only [List.getElem?_cons_zero,aA] at hi
      subst hi
      refine ⟨_,List.getElem?_set_self (by omega),rfl,?_,fun h=>by cases h⟩
      simp only [Rep]
      exact ⟨b,hjb,rfl⟩
     | 1 =>
      obtain ⟨v1,q1,q2,q3,q4⟩:=hcell 1 c1 rfl
      simp only [List.getElem?_cons_succ,List.getElem?_cons_zero,aA] at hi
      subst hi
      exact ⟨v1,by rw [List.getElem?_set_ne (by omega)]; exact q1,q2,q3,fun ho=>oC (B:=b) (by rw [hown]; intro h; cases h) hrest (q4 ho)⟩
     | n + 2=>simp at hi
    obtain ⟨g1,g2⟩:=hG.setObj (w':=w.setCell ⟨b,0,none⟩ (.pointer (some ⟨b,0,none⟩))) h3 hjb hown rfl rfl rfl (by simp [World.setCell]) hrest hheap hnew (by simpa using hl) (by simp) hcl
    exact ⟨ι,j,own,g1,g2.weaken (fun _ _=>trivial),hS,by simp [Rep,dM],fun h=>by cases h⟩
   ·rename_i id' hd
    obtain ⟨h4,hc⟩:=dN hc
    cases hc
    have hid:id'=id:=by simpa using h4
    subst hid
    rw [hd] at hr0
    simp only [Rep] at hr0
    obtain ⟨b2,hjb2,rfl⟩:=hr0
    rw [hjb] at hjb2
    cases hjb2
    refine (zt4 b w hc0).mono ?_
    rintro e w' ⟨rfl,rfl⟩
    exact ⟨ι,j,own,hG,Evo.refl _ _ _ _ _,hS,by simp [Rep,dM],fun h=>by cases h⟩
   ·cases hc
  ·cases hc
 ·cases h
theorem zlz {w:World} {g n:Nat} {cur:Array Value} {T:TypeId} (h:w.heap[g]?=some (.cells cur T (0,0))):∃ fr,(w.freeze ⟨g,0,none⟩ n).heap[g]?=some (.cells cur T fr):=by
 unfold World.freeze
 split
 ·exact ⟨_,h⟩
 ·simp only [Array.getElem?_modify,if_true,h,bN]
  exact ⟨_,rfl⟩
theorem zjb {w:World} {g n b:Nat} (hb:b≠g):(w.freeze ⟨g,0,none⟩ n).heap[b]?=w.heap[b]?:=by
 unfold World.freeze
 split
 ·rfl
 ·simp only [Array.getElem?_modify]
  rw [if_neg (fun e=>hb e.symm)]
theorem zja {w:World} {g n:Nat}:(w.freeze ⟨g,0,none⟩ n).os=w.os∧(w.freeze ⟨g,0,none⟩ n).tape=w.tape∧(w.freeze ⟨g,0,none⟩ n).output=w.output∧(w.freeze ⟨g,0,none⟩ n).heap.size=w.heap.size:=by
 unfold World.freeze
 split
 ·exact ⟨rfl,rfl,rfl,rfl⟩
 ·exact ⟨rfl,rfl,rfl,by simp⟩
theorem zqp {ι:Imm} {j:Lay} {own:Own} {σ:Store} {w w':World} {g id:Nat} {c0 c1:Cell} {cur:Array Value} {T:TypeId} {fr:Nat × Nat} (hG:GSim ι j own σ w) (hg:w.heap[g]?=some (.cells cur T (0,0))) (hown:own g=some (.ocell id 1))
  (hcs:dE σ.objs id=some [c0,c1]) (h1:w'.heap[g]?=some (.cells cur T fr)) (hoth:∀ b,b≠g→w'.heap[b]?=w.heap[b]?) (hos:w'.os=w.os) (ht:w'.tape=w.tape) (hout:w'.output=w.output) (hsz:w'.heap.size=w.heap.size) :
  ∃ own',GSim ι j own' {σ with objs:=dZ σ.objs id [c0,⟨false,c1.d⟩]} w'∧Evo ι j own w ι j own' w' (fun _=>True)∧(pX own→pX own'):=by
 classical
 let own':Own:=fun b=>if b=g then none else own b
 have hsub:∀ b t,own' b=some t→own b=some t∧b≠g:=by
  intro b t h
  by_cases hb:b=g
  ·simp only [own',if_pos hb] at h; cases h
  ·simp only [own',if_neg hb] at h; exact ⟨h,hb⟩
 have hkeep:∀ b t,own b=some t→t≠.ocell id 1→own' b=some t∧b≠g:=by
  intro b t h hne
  have hb:b≠g:=fun e=>by subst e; rw [hown] at h; cases h; exact hne rfl
  exact ⟨by simp only [own',if_neg hb]; exact h,hb⟩
 have hown':∀ {t:Tag} {d:D} {v:Value},t≠.ocell id 1→iP ι own w t d v→iP ι own' w' t d v:=by
  intro t d v hne k
  unfold iP at k ⊢
  cases hp:vU d v with
  | none=>trivial
  | some p =>
   rw [hp] at k
   rcases k with k | ⟨b,cap,cur',T',k1,k2,k3,k4⟩
   ·exact .inl k
   ·obtain ⟨q1,q2⟩:=hkeep b t k2 hne
    exact .inr ⟨b,cap,cur',T',k1,q1,(hoth b q2).trans k3,k4⟩
 refine ⟨own',⟨fun b o v h=>?_,fun b t h hu=>hG.noimm b t (hsub b t h).1 hu,fun id' cs h=>?_,fun id' t cs k1 k2 b hb=>?_,fun id' x h=>?_,hG.jlt,fun b t h=>by rw [hsz]; exact hG.ownlt b t (hsub b t h).1⟩,
  ⟨hos,ht,hout,Nat.le_of_eq hsz.symm,fun _ _ _ h=>h,fun _ _ h=>h,fun b hb hn=>?_⟩,fun hS b t h=>hS b t (hsub b t h).1⟩
 ·by_cases hb:b=g
  ·subst hb
   have:=hG.holds b o v h
   rw [cell_of_row w b o cur T (0,0) hg] at this
   rw [cell_of_row w' b o cur T fr h1]
   exact this
  ·rw [World.cell?_of_block (w:=w) (w':=w') (a:=⟨b,o,none⟩) (hoth b hb)]
   exact hG.holds b o v h
 ·have hex:∃ cs0,dE σ.objs id'=some cs0∧cs0.length=cs.length∧∀ (i:Nat) (c:Cell),cs[i]?=some c→∃ c0,cs0[i]?=some c0∧c0.d=c.d∧(c.own=true→c0.own=true∧Tag.ocell id' i≠.ocell id 1):=by
   simp only [dY] at h
   by_cases hid:id=id'
   ·subst hid
    rw [if_pos rfl] at h
    cases h
    refine ⟨_,hcs,rfl,fun i c hi=>?_⟩
    match i with
    | 0 =>
     simp only [List.getElem?_cons_zero,aA] at hi
     subst hi
     exact ⟨c0,rfl,rfl,fun ho=>⟨ho,by simp⟩⟩
    | 1 =>
     simp only [List.getElem?_cons_succ,List.getElem?_cons_zero,aA] at hi
     subst hi
     exact ⟨c1,rfl,rfl,fun ho=>by cases ho⟩
    | n + 2=>simp at hi
   ·rw [if_neg hid] at h
    exact ⟨cs,h,rfl,fun i c hi=>⟨c,hi,rfl,fun ho=>⟨ho,fun e=>by cases e; exact hid rfl⟩⟩⟩
  obtain ⟨cs0,e1,e2,e3⟩:=hex
  obtain ⟨b,q1,q2,vs,T',r1,r2,r3⟩:=hG.objs id' cs0 e1
  obtain ⟨k1,k2⟩:=hkeep b _ q2 (by simp)
  refine ⟨b,q1,k1,vs,T',(hoth b k2).trans r1,by omega,fun i c hi=>?_⟩
  obtain ⟨c0',f1,f2,f3⟩:=e3 i c hi
  obtain ⟨v,s1,s2,s3,s4⟩:=r3 i c0' f1
  exact ⟨v,s1,s2,f2 ▸ s3,fun ho=>f2 ▸ hown' (f3 ho).2 (s4 (f3 ho).1)⟩
 ·have hex:∃ cs0,dE σ.objs id'=some cs0:=by
   simp only [dY] at k2
   split at k2
   ·rename_i hh; subst hh; exact ⟨_,hcs⟩
   ·exact ⟨cs,k2⟩
  obtain ⟨cs0,e1⟩:=hex
  have hty:=hG.tys id' t cs0 k1 e1 b hb
  obtain ⟨B2,q1,q2,_⟩:=hG.objs id' cs0 e1
  rw [hb] at q1
  cases q1
  exact hty.keep (hoth b (hkeep b _ q2 (by simp)).2) (fun _ _ h=>h)
 ·obtain ⟨b,q1,q2,q3⟩:=hG.oth id' x h
  obtain ⟨k1,k2⟩:=hkeep b _ q2 (by simp)
  exact ⟨b,q1,k1,q3.keep (hoth b k2) (fun _ _ _ h=>h) (fun _ _ h=>h)⟩
 ·have hbg:b≠g:=fun e=>by subst e; exact hn _ hown trivial
  exact ⟨hoth b hbg,by simp only [own',if_neg hbg],fun _=>rfl⟩
theorem zs9 {ds:List D} {σ σ':Store} {out:Out} (h:zdh ds σ=some (out,σ')):mZ Go.Proofs.Tryz.prog κ 33 ds σ out σ':=by
 refine (lG (show isY 33=false from rfl)).2 ⟨⟨_,_,Go.Proofs.Tryz.func33,by kernel_rfl,rfl⟩,fun ι j own w vs hS hB hG hr=>?_⟩
 unfold zdh at h
 split at h
 ·rename_i id
  obtain ⟨t,h1,ha⟩:=dC h
  obtain ⟨h2,hb⟩:=dN ha
  obtain ⟨cs,h3,hc⟩:=dC hb
  clear h ha hb
  have ht:t.t=wA:=by simpa using h2
  obtain ⟨v,rfl,hv⟩:=zaj hr
  simp only [Rep] at hv
  obtain ⟨b,hjb,rfl⟩:=hv
  obtain ⟨b',hjb',hown,row,T,hheap,hlen,hcell⟩:=hG.objs id cs h3
  rw [hjb] at hjb'
  cases hjb'
  obtain ⟨row',hrow',_⟩:=hG.tys id t cs h1 h3 b hjb
  rw [ht,hheap] at hrow'
  cases hrow'
  split at hc
  ·rename_i c0 c1
   split at hc
   ·rename_i k es hd
    obtain ⟨h4,hc⟩:=dN hc
    obtain ⟨s,h5,hc⟩:=dC hc
    cases hc
    simp only [aC,Bool.not_eq_true',List.isEmpty_eq_false_iff] at h4
    obtain ⟨⟨ho,hk⟩,hne⟩:=h4
    obtain ⟨hk1,hk2⟩:k.el=5∧k.sz=1:=by simpa [zdx,Jh] using hk
    obtain ⟨b1,b2⟩:=Ey h5
    obtain ⟨v0,q0,_⟩:=hcell 0 c0 rfl
    obtain ⟨v1,q1,_,q3,q4⟩:=hcell 1 c1 rfl
    have hO:=q4 ho
    rw [hd] at hO q3
    simp only [Rep] at q3
    obtain ⟨ad,cap,hv1,hle,hmax,hrow⟩:=q3
    obtain ⟨g0,o0,hg0,hrr⟩:=hrow.resolve_left hne
    simp only [iP] at hO
    obtain ⟨g,cap',cur,T',e1,e2,e3,⟨e4,e5⟩,e6⟩:=hO.resolve_left (fun ⟨_,_,h⟩=>hne (h hk1))
    rw [hv1,hg0] at e1
    simp only [Value.slice.injEq,aA,Addr.mk.injEq,and_true,true_and] at e1
    obtain ⟨⟨rfl,rfl⟩,rfl⟩:=e1
    rw [hk1] at e4
    subst e4
    rw [hk2] at e5 hrr
    obtain ⟨rest,hrow2⟩:∃ rest,row=v0 :: v1 :: rest:=by
     have hl:2≤row.length:=by simpa using hlen
     match row,hl with
     | x :: y :: r,_ =>
      simp at q0 q1
      exact ⟨r,by rw [q0,q1]⟩
    have hs0:s≠[]:=by
     intro e
     subst e
     exact hne (bL b1.symm)
    have hbk:w.heap[b]?=some (.cells ⟨v0 :: .slice (some ⟨g0,0,none⟩) s.length cap :: rest⟩ wA (0,0)):=by
     rw [hheap,hrow2,hv1,hg0,b1]
    refine (zng b g0 cap v0 rest cur s w hs0 hbk e3 (by omega) hmax e5 (fun jx x hx=>?_)).mono ?_
    ·obtain ⟨u,r1,_,r3⟩:=hrr.at jx _ (b2 jx x hx)
     simp only [Rep] at r3
     subst r3
     have:=hG.holds _ _ _ (r1 0 (.int .u8 x.toNat) rfl)
     simpa using this
    ·rintro e w' ⟨rfl,rfl⟩
     obtain ⟨fr,hfr⟩:=zlz (w:=w.drew) (g:=g0) (n:=s.length) (show w.drew.heap[g0]?=some (.cells cur 5 (0,0)) from e3)
     obtain ⟨f1,f2,f3,f4⟩:=zja (w:=w.drew) (g:=g0) (n:=s.length)
     obtain ⟨own',g1,g2,g3⟩:=zqp hG e3 e2 h3 hfr (fun b hb=>zjb (w:=w.drew) hb) f1 f2 f3 f4
     rw [hd] at g1
     refine ⟨ι,j,own',?_,g2,g3 hS,by simp only [Rep],fun h=>by cases h⟩
     rw [hd]
     exact g1
   ·cases hc
  ·cases hc
 ·cases h
end Go.Fu

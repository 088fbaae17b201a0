/-
  The fit of the program's functions and the machine's code: reckoned by the kernel.
-/
import Derived.Test.YtdoppkjoemlhjaaDoorShCode
set_option linter.unusedSimpArgs false
set_option linter.unusedVariables false
namespace Go.Proofs.YtdoppkjoemlhjaaDoor.Sh
open Go Go.Mx
theorem ok3 : okFun Tryd.prog Tryd.f3 a3 = true := by kernel_rfl
theorem ok4 : okFun Tryd.prog Tryd.f4 a4 = true := by kernel_rfl
theorem ok5 : okFun Tryd.prog Tryd.f5 a5 = true := by kernel_rfl
theorem ok6 : okFun Tryd.prog Tryd.f6 a6 = true := by kernel_rfl
theorem ok7 : okFun Tryd.prog Tryd.f7 a7 = true := by kernel_rfl
theorem ok8 : okFun Tryd.prog Tryd.f8 a8 = true := by kernel_rfl
theorem ok9 : okFun Tryd.prog Tryd.f9 a9 = true := by kernel_rfl
theorem ok10 : okFun Tryd.prog Tryd.f10 a10 = true := by kernel_rfl
theorem ok11 : okFun Tryd.prog Tryd.f11 a11 = true := by kernel_rfl
theorem ok12 : okFun Tryd.prog Tryd.f12 a12 = true := by kernel_rfl
theorem ok13 : okFun Tryd.prog Tryd.f13 a13 = true := by kernel_rfl
theorem ok14 : okFun Tryd.prog Tryd.f14 a14 = true := by kernel_rfl
theorem ok15 : okFun Tryd.prog Tryd.f15 a15 = true := by kernel_rfl
theorem ok16 : okFun Tryd.prog Tryd.f16 a16 = true := by kernel_rfl
theorem ok17 : okFun Tryd.prog Tryd.f17 a17 = true := by kernel_rfl
theorem ok18 : okFun Tryd.prog Tryd.f18 a18 = true := by kernel_rfl
theorem ok19 : okFun Tryd.prog Tryd.f19 a19 = true := by kernel_rfl
theorem ok20 : okFun Tryd.prog Tryd.f20 a20 = true := by kernel_rfl
theorem ok21 : okFun Tryd.prog Tryd.f21 a21 = true := by kernel_rfl
theorem ok22 : okFun Tryd.prog Tryd.f22 a22 = true := by kernel_rfl
theorem ok23 : okFun Tryd.prog Tryd.f23 a23 = true := by kernel_rfl
theorem ok24 : okFun Tryd.prog Tryd.f24 a24 = true := by kernel_rfl
theorem ok25 : okFun Tryd.prog Tryd.f25 a25 = true := by kernel_rfl
theorem ok26 : okFun Tryd.prog Tryd.f26 a26 = true := by kernel_rfl
theorem ok27 : okFun Tryd.prog Tryd.f27 a27 = true := by kernel_rfl
theorem ok28 : okFun Tryd.prog Tryd.f28 a28 = true := by kernel_rfl
theorem ok29 : okFun Tryd.prog Tryd.f29 a29 = true := by kernel_rfl
theorem ok30 : okFun Tryd.prog Tryd.f30 a30 = true := by kernel_rfl
theorem ok33 : okFun Tryd.prog Tryd.f33 a33 = true := by kernel_rfl
theorem ok35 : okFun Tryd.prog Tryd.f35 a35 = true := by kernel_rfl
theorem ok36 : okFun Tryd.prog Tryd.f36 a36 = true := by kernel_rfl
theorem ok37 : okFun Tryd.prog Tryd.f37 a37 = true := by kernel_rfl
theorem ok38 : okFun Tryd.prog Tryd.f38 a38 = true := by kernel_rfl
theorem ok39 : okFun Tryd.prog Tryd.f39 a39 = true := by kernel_rfl
theorem ok40 : okFun Tryd.prog Tryd.f40 a40 = true := by kernel_rfl
theorem ok41 : okFun Tryd.prog Tryd.f41 a41 = true := by kernel_rfl
theorem ok42 : okFun Tryd.prog Tryd.f42 a42 = true := by kernel_rfl
theorem ok45 : okFun Tryd.prog Tryd.f45 a45 = true := by kernel_rfl
theorem ok46 : okFun Tryd.prog Tryd.f46 a46 = true := by kernel_rfl
theorem ok47 : okFun Tryd.prog Tryd.f47 a47 = true := by kernel_rfl
theorem ok48 : okFun Tryd.prog Tryd.f48 a48 = true := by kernel_rfl
theorem ok49 : okFun Tryd.prog Tryd.f49 a49 = true := by kernel_rfl
theorem ok50 : okFun Tryd.prog Tryd.f50 a50 = true := by kernel_rfl
theorem ok51 : okFun Tryd.prog Tryd.f51 a51 = true := by kernel_rfl
theorem ok52 : okFun Tryd.prog Tryd.f52 a52 = true := by kernel_rfl
theorem ok53 : okFun Tryd.prog Tryd.f53 a53 = true := by kernel_rfl
theorem ok56 : okFun Tryd.prog Tryd.f56 a56 = true := by kernel_rfl
theorem ok57 : okFun Tryd.prog Tryd.f57 a57 = true := by kernel_rfl
theorem ok58 : okFun Tryd.prog Tryd.f58 a58 = true := by kernel_rfl
theorem ok59 : okFun Tryd.prog Tryd.f59 a59 = true := by kernel_rfl
theorem ok65 : okFun Tryd.prog Tryd.f65 a65 = true := by kernel_rfl
theorem ok67 : okFun Tryd.prog Tryd.f67 a67 = true := by kernel_rfl
theorem ok68 : okFun Tryd.prog Tryd.f68 a68 = true := by kernel_rfl
theorem ok69 : okFun Tryd.prog Tryd.f69 a69 = true := by kernel_rfl
theorem ok79 : okFun Tryd.prog Tryd.f79 a79 = true := by kernel_rfl
theorem ok90 : okFun Tryd.prog Tryd.f90 a90 = true := by kernel_rfl
theorem ok94 : okFun Tryd.prog Tryd.f94 a94 = true := by kernel_rfl
theorem ok95 : okFun Tryd.prog Tryd.f95 a95 = true := by kernel_rfl
end Go.Proofs.YtdoppkjoemlhjaaDoor.Sh


/-
 A deferred function that asks recover first,and goes on az the machine's code.
-/
import Derived.Recover
import Derived.Test.YtmhedpkbfaginaaGreatDoorMyFrame
set_option linter.unusedSimpArgs false
set_option linter.unusedVariables false
set_option linter.unusedSectionVars false
namespace Go.Mx
open Go
theorem Evo.toShared {ι0 ι:Imm} {j0 j:Lay} {own0 own:Own} {w0 w:World} (hE:Evo ι0 j0 own0 w0 ι j own w (fun _=>True)):Evo ι0 j0 own0 w0 ι j (shared own) w (fun _=>True):=by
 refine ⟨hE.os,hE.tape,hE.output,hE.size,hE.imm,hE.lay,fun b hb ht=>?_⟩
 have hn:own0 b=none:=by
  cases h:own0 b with
  | none=>rfl
  | some t=>exact absurd trivial (ht t h)
 obtain ⟨k1,k2,k3⟩:=hE.block b hb ht
 refine ⟨k1,?_,k3⟩
 unfold shared
 rw [k2,hn]
end Go.Mx

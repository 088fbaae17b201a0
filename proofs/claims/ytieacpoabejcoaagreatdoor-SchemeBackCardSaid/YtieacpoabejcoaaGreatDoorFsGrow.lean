/-
 A fresh builder's Grow,walked: a new row of bytes is its buffer,none of them its own yet.
-/
import Derived.Test.YtieacpoabejcoaaGreatDoorFsCopy
import Derived.Test.YtieacpoabejcoaaGreatDoorMySteps
import Derived.Lib.Builder
import Derived.Lib.MakeNoZero
import Derived.Laws.Externs
import Derived.Laws.IdiomCopy
import Derived.Shelf.Strings.Builder2
set_option maxHeartbeats 4000000
set_option linter.unusedSimpArgs false
set_option linter.unusedVariables false
set_option linter.unusedSectionVars false
namespace Go.Fu
open Go Go.RowKit
def Grown (b:Nat) (rest:List Value) (w w':World):Prop:=w'.os=w.os∧w'.tape=w.tape∧w'.output=w.output∧w.heap.size < w'.heap.size∧(∀ i,i < w.heap.size→i≠b→w'.heap[i]?=w.heap[i]?) ∧
 ∃ cs:Array Value,cs.size≤maxLen∧w'.heap[w.heap.size]?=some (.cells cs 5 (0,0))∧w'.heap[b]?=some (.cells ⟨.pointer (some ⟨b,0,none⟩) :: .slice (some ⟨w.heap.size,0,none⟩) 0 cs.size :: rest⟩ t_12 (0,0))
theorem zi7b {b:Nat} {rest:List Value} {cs:Array Value} {w w':World} (hw':w'=((w.setCell ⟨b,1,none⟩ (.slice (some ⟨w.heap.size,0,none⟩) 0 cs.size)).alloc (.cells cs 5)).drew.drew.drew) (hm:cs.size≤maxLen) (hbk:w.heap[b]?=some (.cells ⟨.pointer (some ⟨b,0,none⟩) :: .slice none 0 0 :: rest⟩ t_12 (0,0))) :
  Grown b rest w w':=by
 have hlt:b < w.heap.size:=(Array.getElem?_eq_some_iff.1 hbk).1
 have hs:(w.setCell ⟨b,1,none⟩ (.slice (some ⟨w.heap.size,0,none⟩) 0 cs.size)).heap.size=w.heap.size:=by simp [World.setCell]
 have hh:w'.heap=(w.setCell ⟨b,1,none⟩ (.slice (some ⟨w.heap.size,0,none⟩) 0 cs.size)).heap.push (.cells cs 5):=by rw [hw']; rfl
 refine ⟨by rw [hw']; rfl,by rw [hw']; rfl,by rw [hw']; rfl,by rw [hh,Array.size_push,hs]; omega,fun i hi hne=>?_,cs,hm,?_,?_⟩
 ·rw [hh,Array.getElem?_push,if_neg (by omega)]
  exact RowKit.Below.heap_setCell w ⟨b,1,none⟩ _ i hne
 ·rw [hh,Array.getElem?_push,if_pos hs.symm]
 ·rw [hh,Array.getElem?_push,if_neg (by omega)]
  simp [World.setCell,Array.getElem?_modify,hbk]
set_option maxHeartbeats 2000000 in
set_option maxRecDepth 1000000 in
theorem zf4b (b n:Nat) (rest:List Value) (w:World) (hbk:w.heap[b]?=some (.cells ⟨.pointer (some ⟨b,0,none⟩) :: .slice none 0 0 :: rest⟩ t_12 (0,0))) (hn:n≤1099511627776) :
  Calls Go.Proofs.Tryz.prog 161 #[.pointer (some ⟨b,0,none⟩),.int .i64 n] w fun e w'=>e=.returned (.tuple #[])∧Grown b rest w w':=by
 obtain ⟨cs,hrun,hle,hmax⟩:=Lib.run_makeNoZero (P:=Go.Proofs.Tryz.prog) w.drew #[3] 170 5 Go.Proofs.Tryz.underlying170 n (by omega)
 have hw:IntKind.i64.wrap (IntKind.i64.wrap 0 + (n:Int))=n:=by
  rw [IntKind.wrap_i64,IntKind.wrap_i64]
  omega
 have hcall:(callFunc 180 #[.int .i64 (IntKind.i64.wrap (IntKind.i64.wrap 0 + (n:Int)))]).run Go.Proofs.Tryz.prog w.drew=.ok (.value (.slice (some ⟨w.drew.heap.size,0,none⟩) n cs.size)) (w.drew.drew.drew.alloc (.cells cs 5)):=by
  rw [hw,run_callFunc_extern Go.Proofs.Tryz.func180 (by kernel_rfl) (by kernel_rfl) (by kernel_rfl) (e:=Extern.BytealgMakeNoZero.makeNoZero #[3] #[170]) (by kernel_rfl),hrun]
  rfl
 have hlt:b < w.heap.size:=(Array.getElem?_eq_some_iff.1 hbk).1
 have c1:w.drew.cell? ⟨b,1,none⟩=some (.slice none 0 0):=by
  have:w.drew.heap[b]?=_:=hbk
  rw [Lib.cell_of_heap this]; rfl
 have c2:(w.alloc (.cells cs 5)).cell? ⟨b,1,none⟩=some (.slice none 0 0):=by
  have:(w.alloc (.cells cs 5)).heap[b]?=_:=(Lib.alloc_old w _ b hlt).trans hbk
  rw [Lib.cell_of_heap this]; rfl
 have f2:(w.alloc (.cells cs 5)).frozen? ⟨b,1,none⟩=false:=Lib.frozen_of_heap ((Lib.alloc_old w _ b hlt).trans hbk) 1
 have hcopy:∀ W:World,(Builtin.copy_ #[170,170] 3 #[.slice (some ⟨w.heap.size,0,none⟩) 0 cs.size,.slice none 0 0]).run Go.Proofs.Tryz.prog W=.ok (goInt 0) W :=
  fun W=>run_copy_none W 170 170 3 5 _ _ 0 cs.size 0 0 Go.Proofs.Tryz.underlying170 (by kernel_rfl) rfl
 clear hw
 have mixed:Go.Proofs.Tryz.prog.follows .mixedOrders=true:=by kernel_rfl
 have hmx:cs.size≤maxLen:=hmax (by unfold maxLen; omega)
 go_enter Go.Proofs.Tryz.func161,Go.Proofs.Tryz.ntmps161
 go_wp2
 go_region_o
 all_goals (go_wp2; go_end0; exact ⟨rfl,zi7b rfl hmx hbk⟩)
end Go.Fu

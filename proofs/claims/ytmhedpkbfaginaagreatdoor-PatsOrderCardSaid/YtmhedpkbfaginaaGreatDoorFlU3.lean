/-
  What is made: kinds, constructors' fields.
-/
import Derived.Test.YtmhedpkbfaginaaGreatDoorFlS
set_option maxHeartbeats 4000000
set_option linter.unusedSimpArgs false
set_option linter.unusedVariables false
set_option linter.unusedSectionVars false
namespace Go.Fu
open Go Go.Mx
set_option maxRecDepth 10000
set_option maxHeartbeats 4000000
section
variable {C : CallF} {n : Nat} {σ : Store}
end
end Go.Fu
namespace Go.Fu
open Go Go.Mx
set_option maxRecDepth 10000
set_option maxHeartbeats 4000000
def sp_pick (d0 : D) (xs : List Int) : List D → Cell → Prop := fun ds c => ∀ i : Nat, ds = [d0, .int .i64 i] → c = ⟨false, .int .i64 (pickM xs i : Nat)⟩
end Go.Fu
namespace Go.Fu
open Go Go.Mx
set_option maxRecDepth 10000
set_option maxHeartbeats 4000000
structure MC (i : Nat) (cs : List Cn) : Prop where
  nm : cs.map Cn.name = nms i cs.length
  sh : ∀ c ∈ cs, c.fs.length ≤ 2 ∧ ∀ t ∈ c.fs, Fine t
structure MP (ds : List Da) : Prop where
  each : ∀ i d, ds[i]? = some d → d.name = nm4.getD i [] ∧ d.vars.length ≤ 3 ∧ d.cons.length ≤ 3 ∧ MC i d.cons
theorem MP.vars {ds : List Da} (h : MP ds) : ∀ d ∈ ds, d.vars.length ≤ 3 := fun d hd => by
  obtain ⟨i, hi, rfl⟩ := List.getElem_of_mem hd
  exact (h.each i _ (List.getElem?_eq_getElem hi)).2.1
theorem MP.made {ds : List Da} (h : MP ds) (hl : ds.length ≤ 4) : MadeP ds := ⟨hl, fun i d hd => by
  obtain ⟨h1, h2, h3, h4⟩ := h.each i d hd
  exact ⟨h1, h2, h3, h4.nm, fun c hc => (h4.sh c hc).1⟩⟩
theorem MP.fine {ds : List Da} (h : MP ds) (hl : ds.length ≤ 4) : FineL ds := ⟨by omega, fun d hd => by
  obtain ⟨i, hi, rfl⟩ := List.getElem_of_mem hd
  obtain ⟨h1, h2, h3, h4⟩ := h.each i _ (List.getElem?_eq_getElem hi)
  exact ⟨by omega, by omega, fun c hc => ⟨by have := (h4.sh c hc).1; omega, (h4.sh c hc).2⟩⟩⟩
end Go.Fu

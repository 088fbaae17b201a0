/-
  One operation of a region: its fit, and that the machine's step is the program's.
-/
import Derived.Test.YtdoppkjoemlhjaaDoorMxMark
import Derived.Conc.MuLone
set_option linter.unusedSimpArgs false
set_option linter.unusedVariables false
namespace Go.Mx
open Go

def okZero (P : Program) (t : TypeId) (z : List D) : Bool := match zeroB P t with
  | some zs => okConsts z zs
  | none => false
def okElem (P : Program) (t : TypeId) (k : RowK) : Bool := match elemB P t with
  | some el => (match sizeB P el, zeroB P el with
    | some n, some zs => el == k.el && n == k.sz && zs.length == k.sz && decide (0 < k.sz)
    | _, _ => false)
  | none => false
def okBytes (P : Program) (t : TypeId) (by_ : Nat) : Bool := match elemB P t with
  | some el => bytesB P el == some by_
  | none => false
/-- The fit of an operation. -/
def okOp (P : Program) (o : Oper) : AOp → Bool
  | .alloc z => o.dst.isSome && (match o.op with | .alloc t => okZero P t z | _ => false)
  | .box y => o.dst.isSome && (match o.op with | .box _ x => okOpd x y | _ => false)
  | .galloc t' z => match o.op with | .alloc t => okZero P t z && t == t' | _ => false
  | .gbox t' y => match o.op with | .box t x => okOpd x y && t == t' | _ => false
  | .strToBytes k y => match o.op with | .convert s t x => okOpd x y && strB P s && elemB P t == some k.el && intB P k.el == some .u8 && k.sz == 1 | _ => false
  | .rangeS y => match o.op with | .range t x => okOpd x y && strB P t | _ => false
  | .nextS y => match o.op with | .next x true => okOpd x y | _ => false
  | .buildSlice k qs => o.dst.isSome && (match o.op with | .buildSlice t len ps => okRow 0 ps.toList qs && len == qs.length && okElem P t k | _ => false)
  | .store k x' y' => match o.op with | .store t x y => okOpd x x' && okOpd y y' && sizeB P t == some k | _ => false
  | .loadA k x' => match o.op with | .load t x => okOpd x x' && okK P t (some k) | _ => false
  | .storeA k x' y' => match o.op with | .store t x y => okOpd x x' && okOpd y y' && sizeB P t == some k | _ => false
  | .append sz by_ x' y' => o.dst.isSome && (match o.op with
    | .call { callee := .builtin .append, args := ⟨[x, y]⟩, argTypes := ⟨[t, t']⟩ } => t == t' && okOpd x x' && okOpd y y' && okElem P t sz && okBytes P t by_
    | _ => false)
  | .appendS k by_ x' y' => o.dst.isSome && (match o.op with
    | .call { callee := .builtin .append, args := ⟨[x, y]⟩, argTypes := ⟨[t, t']⟩ } => strB P t' && okOpd x x' && okOpd y y' && okElem P t k && k.sz == 1 && okBytes P t by_
    | _ => false)
  | .deferv f' as' => match o.op with | .defer { callee := .value f, args := as, .. } => okOpd f f' && okOpds as.toList as' | _ => false
  | .call g as' => match o.op with | .call { callee := .value f, args := as, .. } => okOpd f (.const (.fn (.func g) [] [])) && okOpds as.toList as' | _ => false
  | .callv f' as' => match o.op with | .call { callee := .value f, args := as, .. } => okOpd f f' && okOpds as.toList as' | _ => false
  | .panic y => match o.op with | .panic x => okOpd x y | _ => false
  | o' => okV P o.op o'
def okDst (N : Nat) : Option Nat → Option Nat → Bool
  | none, none => true
  | some s, some s' => s == s' && decide (s < N)
  | _, _ => false
theorem okDst_eq {N : Nat} {d d' : Option Nat} (h : okDst N d d' = true) : d = d' ∧ ∀ s, d = some s → s < N := by
  cases d <;> cases d' <;> simp only [okDst, Bool.false_eq_true, Bool.and_eq_true, beq_iff_eq, decide_eq_true_eq] at h
  · exact ⟨rfl, fun s h => by cases h⟩
  · exact ⟨by rw [h.1], fun s hs => by cases hs; exact h.2⟩
/-- The guard of an operation: the slot of the operation it stands on. -/
def okGuard (ops : Array Oper) : Option (Nat × Bool) → Option (Nat × Bool) → Bool
  | none, none => true
  | some (i, b), some (s, b') => (match ops[i]? with | some o => o.dst == some s | none => false) && b == b'
  | _, _ => false
def okOper (P : Program) (N : Nat) (ops : Array Oper) (o : Oper) (o' : AOper) : Bool := okDst N o.dst o'.dst && okGuard ops o.guard o'.guard && okOp P o o'.op
section
variable {P : Program} {ι : Imm} {j : Lay} {own : Own} {lb : Lay} {N : Nat} {e : Env} {a : Go.Act} {w : World} {σ : Store}

theorem okElem_eq {t : TypeId} {k : RowK} (h : okElem P t k = true) : ∃ zs, elemB P t = some k.el ∧ sizeB P k.el = some k.sz ∧ zeroB P k.el = some zs ∧ zs.length = k.sz ∧ 0 < k.sz := by
  unfold okElem at h
  split at h
  · rename_i el hel
    split at h
    · rename_i n zs hn hz
      simp only [Bool.and_eq_true, beq_iff_eq, decide_eq_true_eq] at h
      obtain ⟨⟨⟨rfl, h1⟩, h2⟩, h3⟩ := h
      exact ⟨zs, hel, h1 ▸ hn, hz, h2, h3⟩
    · cases h
  · cases h
theorem okZero_eq {t : TypeId} {z : List D} (h : okZero P t z = true) : ∃ zs, zeroB P t = some zs ∧ okConsts z zs = true := by
  unfold okZero at h
  split at h
  · rename_i zs hz
    exact ⟨zs, hz, h⟩
  · cases h
theorem fn_of {d : D} {f : FuncId} {x y : List D} (h : d.fn? = some (f, x, y)) {v : Value} (hr : Rep ι j d v) : ∃ vf vc, v = .func (.func f) ⟨vf⟩ ⟨vc⟩ ∧ RepL ι j x vf ∧ RepL ι j y vc := by
  cases d with
  | fn g a b =>
    cases g with
    | func g =>
      simp only [D.fn?, Option.some.injEq, Prod.mk.injEq] at h
      obtain ⟨rfl, rfl, rfl⟩ := h
      simpa only [Rep] using hr
    | _ => simp [D.fn?] at h
  | _ => simp [D.fn?] at h
theorem step_deferv (hG : GSim ι j own σ w) (hL : LSim ι j own lb N e a w) {o : Oper} {f : Operand} {f' : AOpd} {as : Array Operand} {ts : Array TypeId} {as' : List AOpd} {c : Cell} {g : FuncId} {x y ds : List D} (ho : o.op = .defer { callee := .value f, args := as, argTypes := ts })
    (hd : ∀ s, o.dst = some s → s < N) (hk : okOpd f f' = true) (hk1 : okOpds as.toList as' = true) (h1 : opd e f' = some c) (h2 : c.d.fn? = some (g, x, y)) (h3 : opds e as' = some ds) :
    Did P N ι j own w o a (Env.put { e with defers := (g, x ++ ds ++ y) :: e.defers } o.dst ⟨false, .undef⟩) σ := by
  obtain ⟨vf, vc, hv, r1, r2⟩ := fn_of h2 (opd_rel hL hk h1)
  have hr := opds_rel hL hk1 h3
  refine ⟨.defer { target := .fn (.func g) ⟨vc⟩, args := ⟨vf⟩ ++ as.map a.eval }, w, _, ?_, .inr (.inr ⟨_, rfl, rfl⟩), ι, j, own, lb, hG, ?_, Evo.refl _ _ _ _ _⟩
  · simp only [execOp, ho, resolve, hv, Deferred.ofValue, Sem.run_bind, Sem.run_pure, Result.andThen_ok]
  · have hL' : LSim ι j own lb N { e with defers := (g, x ++ ds ++ y) :: e.defers } ({ a with defers := { target := .fn (.func g) ⟨vc⟩, args := ⟨vf⟩ ++ as.map a.eval } :: a.defers } : Go.Act) w :=
      { size := hL.size, slots := hL.slots, locs := hL.locs, boxes := hL.boxes, defers := by
          simp only [DefRel]
          refine ⟨⟨vc⟩, ⟨vf⟩ ++ as.map a.eval, _, rfl, ?_, hL.defers⟩
          have := (r1.append hr).append r2
          simpa using this }
    cases hds : o.dst with
    | none => exact hL'
    | some s => exact hL'.putC (hd s hds) ⟨by simp only [Rep], fun h => by cases h⟩

theorem intB_u8 {t : TypeId} (h : intB P t = some .u8) : P.underlying t = some (.int .u8) := by
  unfold intB at h
  split at h
  · rename_i k hk
    simp only [Option.some.injEq] at h
    rw [hk, h]
  · cases h
theorem step_strToBytes (hG : GSim ι j own σ w) (hL : LSim ι j own lb N e a w) {o : Oper} {t u : TypeId} {k : RowK} {x : Operand} {y : AOpd} {c : Cell} {s : List UInt8} (ho : o.op = .convert u t x) (hd : ∀ s, o.dst = some s → s < N) (hk : okOpd x y = true)
    (hu : P.underlying u = some .string) (ht : P.underlying t = some (.slice k.el)) (he : P.underlying k.el = some (.int .u8)) (hk1 : k.sz = 1) (hc : opd e y = some c) (hs : c.d.str? = some s) (hb : s.length ≤ bound) :
    Did P N ι j own w o a (e.put o.dst ⟨false, .list k (bytesD s)⟩) σ := by
  have hx := str_of hs (opd_rel hL hk hc)
  have hrun := run_bytes_of_string (P := P) w u t k.el ⟨⟨s⟩⟩ hu ht he
  have hsz : (⟨⟨s⟩⟩ : ByteArray).size = s.length := rfl
  rw [hsz] at hrun
  generalize hcap : grownCap w s.length 0 k.el = cap at hrun
  have hb' : s.length ≤ 1099511627776 := hb
  have hge : s.length ≤ cap := hcap ▸ grownCap_ge w _ 0 k.el
  have hle : cap ≤ maxLen := hcap ▸ grownCap_le_maxLen w _ 0 k.el (by simp only [maxLen]; omega)
  generalize hcur : bytesRow ⟨⟨s⟩⟩ cap = cur at hrun
  generalize hfr : (cur.size, cur.size + 1) = fr at hrun
  have hat : ∀ (n : Nat) (y : Value), (s.map fun b => Value.int .u8 b.toNat)[n]? = some y → cur[n]? = some y := by
    intro n y hn
    have hlt := (List.getElem?_eq_some_iff.1 hn).1
    rw [← hcur]
    unfold bytesRow
    rw [Array.getElem?_append_left (by simpa using hlt)]
    simpa using hn
  generalize hw' : w.drew.alloc (.cells cur k.el fr) = w' at hrun
  have hnew : w'.heap[w.heap.size]? = some (.cells cur k.el fr) := hw' ▸ heap_alloc_new w.drew _
  have hold : ∀ b, b < w.heap.size → w'.heap[b]? = w.heap[b]? := fun b hb => hw' ▸ heap_alloc_old w.drew _ hb
  have hsize : w.heap.size ≤ w'.heap.size := Nat.le_of_lt (Array.getElem?_eq_some_iff.1 hnew).1
  have hE : Evo ι j own w (addImm ι w.heap.size 0 s.length (fun o => (s.map fun b => Value.int .u8 b.toNat)[o]?)) j own w' (fun _ => False) := by
    refine ⟨by rw [← hw']; rfl, by rw [← hw']; rfl, by rw [← hw']; rfl, hsize, fun b o v h => ?_, fun _ _ h => h, fun b hb _ => ⟨hold b hb, rfl, fun o => if_neg (by omega)⟩⟩
    have := imm_lt hG h
    unfold addImm
    rw [if_neg (by omega)]
    exact h
  have hG' : GSim (addImm ι w.heap.size 0 s.length (fun o => (s.map fun b => Value.int .u8 b.toNat)[o]?)) j own σ w' := by
    refine hG.evo hE (fun b o v h => ?_) (fun b u h hu o => ?_) (fun b u h => Nat.lt_of_lt_of_le (hG.ownlt b u h) hsize) hG.jlt (fun _ _ _ => ⟨fun h => h, fun _ _ _ _ h => h⟩) (fun _ _ _ h => h)
    · unfold addImm at h
      by_cases hcnd : b = w.heap.size ∧ 0 ≤ o ∧ o < s.length
      · rw [if_pos hcnd] at h
        obtain ⟨rfl, _, ho⟩ := hcnd
        rw [cell_of_row w' _ o cur k.el fr hnew]
        exact hat o v h
      · rw [if_neg hcnd] at h
        have hb := imm_lt hG h
        rw [World.cell?_of_block (w := w) (w' := w') (a := ⟨b, o, none⟩) (hold b hb)]
        exact hG.holds b o v h
    · have := hG.ownlt b u h
      unfold addImm
      rw [if_neg (by omega)]
      exact hG.noimm b u h hu o
  refine ⟨.value (.slice (some ⟨w.heap.size, 0, none⟩) s.length cap), w', _, ?_, .inl ⟨_, rfl, rfl⟩, _, j, own, lb, hG', ?_, hE.weaken fun _ h => h.elim⟩
  · simp only [execOp, ho, hx, Sem.run_bind, hrun, Result.andThen_ok, Sem.run_pure]
  · have hL' := hL.evo hE (fun _ _ _ _ h => h) (fun _ _ _ => ⟨fun h => h, fun _ _ _ _ h => h⟩)
    cases hds : o.dst with
    | none => exact hL'
    | some d =>
      refine hL'.putC (hd d hds) ⟨?_, fun h => by cases h⟩
      simp only [Rep]
      refine ⟨_, cap, by rw [bytesD_length], by rw [bytesD_length]; exact hge, hle, .inr ⟨w.heap.size, 0, rfl, RepRow.of_vals (bytesD_rel s) (fun x hx => ?_) fun n y hn => ?_⟩⟩
      · obtain ⟨b, _, rfl⟩ := List.mem_map.1 hx
        rw [hk1]
        rfl
      · rw [flat_bytes] at hn
        have hlt := (List.getElem?_eq_some_iff.1 hn).1
        rw [List.length_map] at hlt
        unfold addImm
        rw [if_pos ⟨rfl, by omega, by omega⟩, Nat.zero_add]
        exact hn
theorem step_rangeS (hG : GSim ι j own σ w) (hL : LSim ι j own lb N e a w) {o : Oper} {t : TypeId} {x : Operand} {y : AOpd} {c : Cell} {s : List UInt8} (ho : o.op = .range t x) (hd : ∀ s, o.dst = some s → s < N) (hk : okOpd x y = true) (ht : strB P t = true) (hc : opd e y = some c) (hs : c.d.str? = some s) :
    Did P N ι j own w o a (e.put o.dst ⟨false, .ptr σ.next 0⟩) { σ with iters := (σ.next, (s, 0)) :: σ.iters, next := σ.next + 1 } := by
  classical
  have hx := str_of hs (opd_rel hL hk hc)
  let j' : Lay := fun i => if i = σ.next then some w.heap.size else j i
  have hjn : ∀ i b, j i = some b → i ≠ σ.next := fun i b h e => by have := hG.jlt i b h; omega
  have hE0 := newBlock_evo hG (.stringIter ⟨⟨s⟩⟩ 0) (.obj σ.next)
  have hE : Evo ι j own w ι j' (fun b => if b = w.heap.size then some (.obj σ.next) else own b) (w.alloc (.stringIter ⟨⟨s⟩⟩ 0)) (fun _ => False) :=
    ⟨hE0.os, hE0.tape, hE0.output, hE0.size, hE0.imm, fun i b h => by simp only [j', if_neg (hjn i b h)]; exact h, hE0.block⟩
  have hG0 := newBlock_gsim hG (.stringIter ⟨⟨s⟩⟩ 0) (.obj σ.next)
  have hG' : GSim ι j' (fun b => if b = w.heap.size then some (.obj σ.next) else own b) { σ with iters := (σ.next, (s, 0)) :: σ.iters, next := σ.next + 1 } (w.alloc (.stringIter ⟨⟨s⟩⟩ 0)) := by
    refine ⟨hG0.holds, hG0.noimm, fun id cs h => ?_, fun id t cs h1 h2 b hb => ?_, fun id s' pos h => ?_, fun id b h => ?_, hG0.ownlt⟩
    · obtain ⟨B, q1, q2, q3⟩ := hG.objs id cs h
      have hlt := hG.ownlt B _ q2
      exact ⟨B, hE.lay _ _ q1, by rw [if_neg (by omega)]; exact q2, hE.boxRel q2 (fun h => h) (fun _ _ _ _ h => h) q3⟩
    · obtain ⟨B, q1, q2, q3⟩ := hG.objs id cs h2
      have hb' := hE.lay _ _ q1
      rw [hb] at hb'
      cases hb'
      obtain ⟨row, hrow⟩ := hG.tys id t cs h1 h2 b q1
      exact ⟨row, (heap_alloc_old w _ (Array.getElem?_eq_some_iff.1 hrow).1).trans hrow⟩
    · simp only [aget_cons] at h
      by_cases hid : σ.next = id
      · rw [if_pos hid] at h
        cases h
        subst hid
        exact ⟨w.heap.size, if_pos rfl, if_pos rfl, heap_alloc_new w _⟩
      · rw [if_neg hid] at h
        obtain ⟨B, q1, q2, q3⟩ := hG.iters id s' pos h
        have hlt := hG.ownlt B _ q2
        exact ⟨B, hE.lay _ _ q1, by rw [if_neg (by omega)]; exact q2, (heap_alloc_old w _ hlt).trans q3⟩
    · by_cases hid : id = σ.next
      · simp only; omega
      · simp only [j', if_neg hid] at h
        have := hG.jlt id b h
        simp only; omega
  refine ⟨.value (.pointer (some ⟨w.heap.size, 0, none⟩)), _, _, ?_, .inl ⟨_, rfl, rfl⟩, ι, j', _, lb, hG', ?_, hE.weaken (fun _ h => h.elim)⟩
  · simp only [execOp, ho, hx, Instr.range, Sem.run_bind, run_underlying (strB_eq ht), Result.andThen_ok, Sem.run_pure, run_newObj]
    rfl
  · have hL' := hL.evo hE (fun _ _ _ _ h => h) (fun _ _ _ => ⟨fun h => h, fun _ _ _ _ h => h⟩)
    cases hds : o.dst with
    | none => exact hL'
    | some d => exact hL'.putC (hd d hds) ⟨by simp only [Rep]; exact ⟨w.heap.size, if_pos rfl, rfl⟩, fun h => by cases h⟩
theorem step_nextS (hG : GSim ι j own σ w) (hL : LSim ι j own lb N e a w) {o : Oper} {x : Operand} {y : AOpd} {id pos : Nat} {s : List UInt8} (ho : o.op = .next x true) (hd : ∀ s, o.dst = some s → s < N) (hk : okOpd x y = true) (hp : addr e y = some (.ptr id 0)) (hi : aget σ.iters id = some (s, pos)) :
    (pos < s.length → Did P N ι j own w o a (e.put o.dst ⟨false, .tup [.bool true, .int .i64 pos, .int .i32 (Utf8.decode ⟨⟨s⟩⟩ pos).1]⟩) { σ with iters := aset σ.iters id (s, pos + (Utf8.decode ⟨⟨s⟩⟩ pos).2) }) ∧
    (¬ pos < s.length → Did P N ι j own w o a (e.put o.dst ⟨false, .tup [.bool false]⟩) σ) := by
  obtain ⟨B, hB, hx⟩ := addr_rel hL hk hp
  obtain ⟨B', hB', hown, hheap⟩ := hG.iters id s pos hi
  rw [hB] at hB'
  cases hB'
  have hsz : (⟨⟨s⟩⟩ : ByteArray).size = s.length := rfl
  have hget : (getObj B).run P w = .ok (.stringIter ⟨⟨s⟩⟩ pos) w := by
    simp [getObj, Sem.run, hheap]
  refine ⟨fun hlt => ?_, fun hge => ?_⟩
  · generalize hw' : ({ w with heap := w.heap.setIfInBounds B (.stringIter ⟨⟨s⟩⟩ (pos + (Utf8.decode ⟨⟨s⟩⟩ pos).2)) } : World) = w'
    have hBlt : B < w.heap.size := (Array.getElem?_eq_some_iff.1 hheap).1
    have hoth : ∀ b, b ≠ B → w'.heap[b]? = w.heap[b]? := fun b hb => by
      rw [← hw']
      simp [Array.getElem?_setIfInBounds_ne (Ne.symm hb)]
    have hE : Evo ι j own w ι j own w' (fun t => t = .obj id) := by
      refine ⟨by rw [← hw'], by rw [← hw'], by rw [← hw'], by rw [← hw']; simp, fun _ _ _ h => h, fun _ _ h => h, fun b _ hb => ⟨hoth b (fun e => hb _ (e ▸ hown) rfl), rfl, fun _ => rfl⟩⟩
    have hG' : GSim ι j own { σ with iters := aset σ.iters id (s, pos + (Utf8.decode ⟨⟨s⟩⟩ pos).2) } w' := by
      refine ⟨fun b o' v h => ?_, hG.noimm, fun id' cs h => ?_, fun id' t cs h1 h2 b hb => ?_, fun id' s' pos' h => ?_, hG.jlt, fun b t h => Nat.lt_of_lt_of_le (hG.ownlt b t h) hE.size⟩
      · have hne : b ≠ B := fun e => by
          rw [e, hG.noimm B _ hown rfl o'] at h
          cases h
        rw [World.cell?_of_block (w := w) (w' := w') (a := ⟨b, o', none⟩) (hoth b hne)]
        exact hG.holds b o' v h
      · obtain ⟨B2, q1, q2, q3⟩ := hG.objs id' cs h
        have hne : B2 ≠ B := fun e => by
          obtain ⟨vs, T, h1, _⟩ := q3
          rw [e, hheap] at h1
          cases h1
        have hid : id' ≠ id := fun e => by
          subst e
          rw [hB] at q1
          cases q1
          exact hne rfl
        exact ⟨B2, q1, q2, hE.boxRel q2 (fun h => by cases h; exact hid rfl) (fun _ _ _ _ h => by cases h) q3⟩
      · obtain ⟨row, hrow⟩ := hG.tys id' t cs h1 h2 b hb
        have hne : b ≠ B := fun e => by
          rw [e, hheap] at hrow
          cases hrow
        exact ⟨row, (hoth b hne).trans hrow⟩
      · simp only [aget_aset] at h
        by_cases hid : id = id'
        · subst hid
          rw [if_pos rfl] at h
          cases h
          exact ⟨B, hB, hown, by rw [← hw']; simp [hBlt]⟩
        · rw [if_neg hid] at h
          obtain ⟨B2, q1, q2, q3⟩ := hG.iters id' s' pos' h
          have hne : B2 ≠ B := fun e => by
            rw [e, hown] at q2
            cases q2
            exact hid rfl
          exact ⟨B2, q1, q2, (hoth B2 hne).trans q3⟩
    refine ⟨.value (.tuple #[.bool true, .int .i64 pos, .int .i32 (Utf8.decode ⟨⟨s⟩⟩ pos).1]), w', _, ?_, .inl ⟨_, rfl, rfl⟩, ι, j, own, lb, hG', ?_, hE.weaken fun _ _ => trivial⟩
    · have hset : (setObj B (.stringIter ⟨⟨s⟩⟩ (pos + (Utf8.decode ⟨⟨s⟩⟩ pos).2))).run P w = .ok () w' := by
        simp [setObj, Sem.run, hheap, hw']
      simp only [execOp, ho, hx, Instr.next, Sem.run_bind, hget, Result.andThen_ok, hsz, if_pos hlt, hset, Sem.run_pure, goInt]
    · have hL' := hL.evo hE (fun _ _ _ _ h => by cases h) (fun _ _ _ => ⟨(fun h => by cases h), (fun _ _ _ _ h => by cases h)⟩)
      cases hds : o.dst with
      | none => exact hL'
      | some d => exact hL'.putC (hd d hds) ⟨by simp [Rep, RepL], fun h => by cases h⟩
  · refine ⟨.value (.tuple #[.bool false]), w, _, ?_, .inl ⟨_, rfl, rfl⟩, ι, j, own, lb, hG, ?_, Evo.refl _ _ _ _ _⟩
    · simp only [execOp, ho, hx, Instr.next, Sem.run_bind, hget, Result.andThen_ok, hsz, if_neg hge, Sem.run_pure]
    · cases hds : o.dst with
      | none => exact hL
      | some d => exact hL.putC (hd d hds) ⟨by simp [Rep, RepL], fun h => by cases h⟩

theorem evalOp_sound (hG : GSim ι j own σ w) (hL : LSim ι j own lb N e a w) {o : Oper} {o' : AOp} (hk : okOp P o o' = true) (hd : ∀ s, o.dst = some s → s < N) {e' : Env} {σ' : Store} (h : evalOp o.dst o' e σ = some (e', σ')) :
    Did P N ι j own w o a e' σ' := by
  have value : okV P o.op o' = true → (∀ v, evalV o' e σ = some v → e' = (dropOwn o' e).putV o.dst v → σ' = dropOwnS o' e σ → Did P N ι j own w o a e' σ') := by
    rintro hv v hev rfl rfl
    cases hp : plainV o' with
    | true => exact step_plain hG hL hv hd hp hev
    | false =>
      cases o' <;> simp only [plainV, Bool.true_eq_false, Bool.not_eq_false'] at hp
      · exact step_mov hG hL hv hd hev
      · subst hp
        generalize ho : o.op = op at hv
        cases op <;> first
          | (simp only [okV, Bool.and_eq_true] at hv; exact step_loadMv hG hL ho hv.1 hv.2 hd hev)
          | (simp [okV] at hv)
      · subst hp
        generalize ho : o.op = op at hv
        cases op <;> first
          | (simp only [okV, Bool.and_eq_true] at hv
             rename_i k y t x
             have hev' := loadL_load hev
             have e1 : dropOwn (.loadL k true y) e = dropOwn (.load k true y) e := rfl
             have e2 : dropOwnS (.loadL k true y) e σ = dropOwnS (.load k true y) e σ := by
               simp only [evalV] at hev
               obtain ⟨p, hp, hev⟩ := bindO_some hev
               cases p with
               | ptr id off => cases hev
               | loc b off => simp only [dropOwnS, hp, caseO_some]
               | eptr d => simp only [dropOwnS, hp, caseO_some]
             rw [e1, e2]
             exact step_loadMv hG hL ho hv.1 hv.2 hd hev')
          | (simp [okV] at hv)
  cases o' with
  | alloc z =>
    simp only [okOp, Bool.and_eq_true] at hk
    obtain ⟨s, hs⟩ := Option.isSome_iff_exists.1 hk.1
    have hk := hk.2
    split at hk
    · rename_i t ho
      obtain ⟨zs, h1, h2⟩ := okZero_eq hk
      simp only [evalOp, hs, bindO, caseO_some, Option.some.injEq, Prod.mk.injEq] at h
      obtain ⟨rfl, rfl⟩ := h
      exact step_alloc hG hL ho hs (hd s hs) h1 h2
    · cases hk
  | box y =>
    simp only [okOp, Bool.and_eq_true] at hk
    obtain ⟨s, hs⟩ := Option.isSome_iff_exists.1 hk.1
    have hk := hk.2
    split at hk
    · rename_i t x ho
      simp only [evalOp, hs, bindO, caseO_some] at h
      obtain ⟨c, h1, h⟩ := bindO_some h
      obtain ⟨h2, h⟩ := ifB_some h
      cases h
      exact step_box hG hL ho hs (hd s hs) hk h1 h2
    · cases hk
  | galloc t' z =>
    simp only [okOp] at hk
    split at hk
    · rename_i t ho
      simp only [Bool.and_eq_true, beq_iff_eq] at hk
      obtain ⟨hk, rfl⟩ := hk
      obtain ⟨zs, h1, h2⟩ := okZero_eq hk
      simp only [evalOp, Option.some.injEq, Prod.mk.injEq] at h
      obtain ⟨rfl, rfl⟩ := h
      exact step_galloc hG hL ho hd h1 h2
    · cases hk
  | gbox t' y =>
    simp only [okOp] at hk
    split at hk
    · rename_i t x ho
      simp only [Bool.and_eq_true, beq_iff_eq] at hk
      obtain ⟨hk, rfl⟩ := hk
      simp only [evalOp] at h
      obtain ⟨c, h1, h⟩ := bindO_some h
      obtain ⟨h2, h⟩ := ifB_some h
      cases h
      exact step_gbox hG hL ho hd hk h1 h2
    · cases hk
  | buildSlice sz qs =>
    simp only [okOp, Bool.and_eq_true] at hk
    obtain ⟨s, hs⟩ := Option.isSome_iff_exists.1 hk.1
    have hk := hk.2
    split at hk
    · rename_i t len ps ho
      simp only [Bool.and_eq_true, beq_iff_eq] at hk
      obtain ⟨zs, k1, k2, k3, k4, k5⟩ := okElem_eq hk.2
      simp only [evalOp] at h
      obtain ⟨ds, h1, h⟩ := bindO_some h
      obtain ⟨h2, h⟩ := ifB_some h
      cases h
      simp only [Bool.and_eq_true, decide_eq_true_eq] at h2
      exact step_buildSlice hG hL ho hs (hd s hs) hk.1.1 hk.1.2 k1 k2 k3 k4 k5 h1 h2.1 h2.2
    · cases hk
  | store k x' y' =>
    simp only [okOp] at hk
    split at hk
    · rename_i t x y ho
      simp only [Bool.and_eq_true, beq_iff_eq] at hk
      obtain ⟨⟨k1, k2⟩, k3⟩ := hk
      simp only [evalOp] at h
      obtain ⟨p, h1, h⟩ := bindO_some h
      obtain ⟨c, h2, h⟩ := bindO_some h
      cases p with
      | loc b off =>
        obtain ⟨cs, h3, h⟩ := bindO_some h
        obtain ⟨h4, h⟩ := ifB_some h
        cases h
        exact step_storeLoc hG hL ho hd k1 k2 k3 h1 h2 h3 h4
      | ptr id off =>
        obtain ⟨cs, h3, h⟩ := bindO_some h
        obtain ⟨h4, h⟩ := ifB_some h
        cases h
        exact step_storePtr hG hL ho hd k1 k2 k3 h1 h2 h3 h4
      | eptr d => cases h
    · cases hk
  | loadA k x' =>
    simp only [okOp] at hk
    split at hk
    · rename_i t x ho
      simp only [Bool.and_eq_true] at hk
      obtain ⟨k1, k2⟩ := hk
      simp only [evalOp] at h
      obtain ⟨p, h1, h⟩ := bindO_some h
      split at h
      · obtain ⟨cs, h3, h⟩ := bindO_some h
        obtain ⟨h4, h⟩ := ifB_some h
        cases h
        exact step_loadA hG hL ho k1 k2 hd h1 h3 (by simpa using h4)
      · cases h
    · cases hk
  | storeA k x' y' =>
    simp only [okOp] at hk
    split at hk
    · rename_i t x y ho
      simp only [Bool.and_eq_true, beq_iff_eq] at hk
      obtain ⟨⟨k1, k2⟩, k3⟩ := hk
      simp only [evalOp] at h
      obtain ⟨p, h1, h⟩ := bindO_some h
      obtain ⟨c, h2, h⟩ := bindO_some h
      split at h
      · obtain ⟨cs, h3, h⟩ := bindO_some h
        obtain ⟨ds, h5, h⟩ := bindO_some h
        obtain ⟨h4, h⟩ := ifB_some h
        cases h
        simp only [Bool.and_eq_true, beq_iff_eq] at h4
        have hds : c.d = .agg ds := by
          cases hcd : c.d <;> rw [hcd] at h5 <;> simp only [D.agg?, reduceCtorEq, Option.some.injEq] at h5
          rw [h5]
        exact step_storeA hG hL ho hd k1 k2 k3 h1 h2 h3 hds h4.1 h4.2
      · cases h
    · cases hk
  | append sz by_ x' y' =>
    simp only [okOp, Bool.and_eq_true] at hk
    obtain ⟨s, hs⟩ := Option.isSome_iff_exists.1 hk.1
    have hk := hk.2
    split at hk
    · rename_i x y t t' ho
      simp only [Bool.and_eq_true, beq_iff_eq] at hk
      obtain ⟨⟨⟨⟨rfl, k1⟩, k2⟩, k3⟩, k4⟩ := hk
      obtain ⟨zs, q1, q2, q3, q4, q5⟩ := okElem_eq k3
      have q6 : bytesB P sz.el = some by_ := by
        unfold okBytes at k4
        rw [q1] at k4
        simpa using k4
      simp only [evalOp] at h
      obtain ⟨c, h1, h⟩ := bindO_some h
      obtain ⟨d, h2, h⟩ := bindO_some h
      obtain ⟨r, h3, h⟩ := bindO_some h
      cases h
      exact step_append hG hL ho hs (hd s hs) k1 k2 q1 q2 q3 q4 q5 q6 h1 h2 h3
    · cases hk
  | strToBytes k y =>
    simp only [okOp] at hk
    split at hk
    · rename_i u t x ho
      simp only [Bool.and_eq_true, beq_iff_eq] at hk
      obtain ⟨⟨⟨⟨k1, k2⟩, k3⟩, k4⟩, k5⟩ := hk
      simp only [evalOp] at h
      obtain ⟨c, h1, h⟩ := bindO_some h
      obtain ⟨str, h2, h⟩ := bindO_some h
      obtain ⟨h3, h⟩ := ifB_some h
      cases h
      exact step_strToBytes hG hL ho hd k1 (strB_eq k2) (elemB_eq k3) (intB_u8 k4) k5 h1 h2 (of_decide_eq_true h3)
    · cases hk
  | rangeS y =>
    simp only [okOp] at hk
    split at hk
    · rename_i t x ho
      simp only [Bool.and_eq_true] at hk
      simp only [evalOp] at h
      obtain ⟨c, h1, h⟩ := bindO_some h
      obtain ⟨str, h2, h⟩ := bindO_some h
      cases h
      exact step_rangeS hG hL ho hd hk.1 hk.2 h1 h2
    · cases hk
  | nextS y =>
    simp only [okOp] at hk
    split at hk
    · rename_i x ho
      simp only [evalOp] at h
      obtain ⟨p, h1, h⟩ := bindO_some h
      cases p with
      | ptr id off =>
        cases off with
        | zero =>
          obtain ⟨⟨str, pos⟩, h2, h⟩ := bindO_some h
          simp only at h
          obtain ⟨k1, k2⟩ := step_nextS hG hL ho hd hk h1 h2
          by_cases hlt : pos < str.length
          · simp only [hlt, decide_true, ifB_true, Option.some.injEq, Prod.mk.injEq] at h
            obtain ⟨rfl, rfl⟩ := h
            exact k1 hlt
          · simp only [hlt, decide_false, ifB_false, Option.some.injEq, Prod.mk.injEq] at h
            obtain ⟨rfl, rfl⟩ := h
            exact k2 hlt
        | succ n => cases h
      | loc b off => cases h
      | eptr d => cases h
    · cases hk
  | appendS sz by_ x' y' =>
    simp only [okOp, Bool.and_eq_true] at hk
    obtain ⟨s, hs⟩ := Option.isSome_iff_exists.1 hk.1
    have hk := hk.2
    split at hk
    · rename_i x y t t' ho
      simp only [Bool.and_eq_true, beq_iff_eq] at hk
      obtain ⟨⟨⟨⟨⟨k0, k1⟩, k2⟩, k3⟩, k3b⟩, k4⟩ := hk
      obtain ⟨zs, q1, q2, q3, q4, q5⟩ := okElem_eq k3
      have q6 : bytesB P sz.el = some by_ := by
        unfold okBytes at k4
        rw [q1] at k4
        simpa using k4
      simp only [evalOp] at h
      obtain ⟨c, h1, h⟩ := bindO_some h
      obtain ⟨d, h2, h⟩ := bindO_some h
      obtain ⟨str, h3, h⟩ := bindO_some h
      obtain ⟨r, h4, h⟩ := bindO_some h
      cases h
      have hds : d.d = .str str := by
        cases hdd : d.d <;> rw [hdd] at h3 <;> simp only [D.str?, reduceCtorEq, Option.some.injEq] at h3
        rw [h3]
      obtain ⟨ke, ks⟩ := sz
      simp only at k3b
      subst k3b
      exact step_appendS hG hL ho hs (hd s hs) k1 k2 q1 q2 q3 q4 q6 (strB_eq k0) h1 h2 hds h4
    · cases hk
  | deferv f' as' =>
    simp only [okOp] at hk
    split at hk
    · rename_i f as ts ho
      simp only [Bool.and_eq_true] at hk
      simp only [evalOp] at h
      obtain ⟨c, h1, h⟩ := bindO_some h
      obtain ⟨⟨g, x, y⟩, h2, h⟩ := bindO_some h
      obtain ⟨ds, h3, h⟩ := bindO_some h
      cases h
      exact step_deferv hG hL ho hd hk.1 hk.2 h1 h2 h3
    · cases hk
  | call g as' => simp only [evalOp, evalV, bindO, caseO_none, reduceCtorEq] at h
  | callv g as' => simp only [evalOp, evalV, bindO, caseO_none, reduceCtorEq] at h
  | panic y => simp only [evalOp, evalV, bindO, caseO_none, reduceCtorEq] at h
  | _ =>
    simp only [okOp] at hk
    simp only [evalOp] at h
    obtain ⟨v, h1, h⟩ := bindO_some h
    cases h
    exact value hk v h1 rfl rfl

/-- The guard's word. -/
theorem wanted_sound (hL : LSim ι j own lb N e a w) {ops : Array Oper} {o : Oper} {g : Option (Nat × Bool)} (hk : okGuard ops o.guard g = true) (hN : ∀ i s b, o.guard = some (i, b) → ((ops[i]?).bind (·.dst)) = some s → s < N) {b : Bool} (h : wantedA g e = some b) :
    Region.wanted o (yielded ops a.tmps) = b := by
  unfold Region.wanted
  cases hg : o.guard with
  | none =>
    rw [hg] at hk
    cases g with
    | none => simp only [wantedA, Option.some.injEq] at h; subst h; rfl
    | some p => simp [okGuard] at hk
  | some p =>
    obtain ⟨i, want⟩ := p
    rw [hg] at hk
    cases g with
    | none => simp [okGuard] at hk
    | some q =>
      obtain ⟨s, want'⟩ := q
      simp only [okGuard, Bool.and_eq_true, beq_iff_eq] at hk
      obtain ⟨h1, rfl⟩ := hk
      have hdst : ((ops[i]?).bind (·.dst)) = some s := by
        cases ho : ops[i]? with
        | none => rw [ho] at h1; cases h1
        | some o => rw [ho] at h1; simpa using h1
      have hlt := hN i s want hg hdst
      simp only [wantedA] at h
      obtain ⟨c, h2, h⟩ := bindO_some h
      have hr := (hL.slots s c h2).1
      have hget : a.tmps[s]? = some (a.tmps.getD s Go.undef) := by
        rw [Array.getD_eq_getD_getElem?, Array.getElem?_eq_getElem (by rw [hL.size]; exact hlt)]
        rfl
      simp only [yielded, hdst, Option.bind_some, hget]
      cases hb : c.d.bool? with
      | some t =>
        rw [hb] at h
        simp only [caseO_some, Option.some.injEq] at h
        cases hd : c.d <;> rw [hd] at hb <;> simp only [D.bool?, reduceCtorEq, Option.some.injEq] at hb
        subst hb
        rw [hd] at hr
        simp only [Rep] at hr
        rw [hr]
        subst h
        simp
      | none =>
        rw [hb] at h
        simp only [caseO_none] at h
        cases hd : c.d <;> rw [hd] at h <;> simp only [isUndef, ifB_true, ifB_false, reduceCtorEq, Option.some.injEq] at h
        subst h
        rw [hd] at hr
        simp only [Rep] at hr
        rw [hr]
        rfl
end
end Go.Mx

/-
  Calls: what is said of one, and how a frame goes on behind it.
-/
namespace Go.Mx
open Go

/-- What is shared between frames of what is owned. -/
def shared (own : Own) : Own := fun b => match own b with
  | some t => if t.isLocal = true then none else some t
  | none => none
theorem shared_some {own : Own} {b : Nat} {t : Tag} (h : shared own b = some t) : own b = some t ∧ t.isLocal = false := by
  unfold shared at h
  cases ho : own b with
  | none => rw [ho] at h; cases h
  | some u =>
    rw [ho] at h
    simp only at h
    by_cases hu : u.isLocal = true
    · rw [if_pos hu] at h; cases h
    · rw [if_neg hu] at h; cases h; exact ⟨rfl, by simpa using hu⟩
theorem shared_of {own : Own} {b : Nat} {t : Tag} (h : own b = some t) (ht : t.isLocal = false) : shared own b = some t := by
  unfold shared
  rw [h]
  simp [ht]
def Shared (own : Own) : Prop := ∀ b t, own b = some t → t.isLocal = false
theorem shared_shared (own : Own) : Shared (shared own) := fun _ _ h => (shared_some h).2

/-- A list that is handed out with room of its own. -/
def FreshL (ι : Imm) (own0 : Own) (w0 : World) (own : Own) (w : World) (sz : RowK) (es : List D) (v : Value) : Prop :=
  v = .slice none 0 0 ∨ ∃ b cap cur T, v = .slice (some ⟨b, 0, none⟩) es.length cap ∧ (w0.heap.size ≤ b ∨ (own0 b).isSome = true) ∧ own b = none ∧
      w.heap[b]? = some (.cells cur T (0, 0)) ∧ (T = sz.el ∧ cur.size = cap * sz.sz) ∧ ∀ o, es.length * sz.sz ≤ o → ι b o = none
def Fresh (ι : Imm) (own0 : Own) (w0 : World) (own : Own) (w : World) (d : D) (v : Value) : Prop := match prin d v with
  | some p => FreshL ι own0 w0 own w p.1 p.2.1 p.2.2
  | none => True
/-- What a call answers. -/
def Answer (ι : Imm) (j : Lay) (own : Own) (w : World) (out : Out) (σ' : Store) (e : Ending) (w' : World) : Prop :=
  ∃ ι' j' own', GSim ι' j' own' σ' w' ∧ Evo ι j own w ι' j' own' w' (fun _ => True) ∧ Shared own' ∧ match out, e with
    | .ret c, .returned v => Rep ι' j' c.d v ∧ (c.own = true → Fresh ι' own w own' w' c.d v)
    | .panic d, .panicked chain => ∃ v, chain = [{ v := v, recovered := false }] ∧ Rep ι' j' d v
    | _, _ => False
/-- What is known of a world beyond the machine's state: of the first blocks, that nobody owns. -/
structure Ctx where
  n : Nat
  K : World → Prop
  stable : ∀ w w', (∀ b, b < n → w'.heap[b]? = w.heap[b]?) → K w → K w'
structure Base (κ : Ctx) (own : Own) (w : World) : Prop where
  size : κ.n ≤ w.heap.size
  free : ∀ b, b < κ.n → own b = none
  K : κ.K w
theorem Base.evo {κ : Ctx} {ι ι' : Imm} {j j' : Lay} {own own' : Own} {w w' : World} {TT : Tag → Prop} (h : Base κ own w) (hE : Evo ι j own w ι' j' own' w' TT) : Base κ own' w' where
  size := Nat.le_trans h.size hE.size
  free := fun b hb => by
    have hn := h.free b hb
    rw [(hE.block b (Nat.lt_of_lt_of_le hb h.size) (fun t k => by rw [hn] at k; cases k)).2.1, hn]
  K := κ.stable w w' (fun b hb => (hE.block b (Nat.lt_of_lt_of_le hb h.size) (fun t k => by rw [h.free b hb] at k; cases k)).1) h.K
theorem Base.shared {κ : Ctx} {own : Own} {w : World} (h : Base κ own w) : Base κ (shared own) w where
  size := h.size
  free := fun b hb => by
    unfold Go.Mx.shared
    rw [h.free b hb]
  K := h.K
def HasBody (P : Program) (f : FuncId) : Prop := ∃ fn c, P.funcs[f]? = some fn ∧ (fn.name == "runtime.NumGoroutine") = false ∧ fn.body = some c
def CallOK (P : Program) (κ : Ctx) (f : FuncId) (ds : List D) (σ : Store) (out : Out) (σ' : Store) : Prop :=
  HasBody P f ∧ ∀ ι j own w vs, Shared own → Base κ own w → GSim ι j own σ w → RepL ι j ds vs → Calls P f ⟨vs⟩ w (Answer ι j own w out σ')
def CallOKD (P : Program) (κ : Ctx) (f : FuncId) (ds : List D) (σ : Store) (out : Out) (σ' : Store) : Prop :=
  HasBody P f ∧ ∀ ι j own w vs u, Shared own → Base κ own w → GSim ι j own σ w → RepL ι j ds vs → CallsD P f ⟨vs⟩ u w fun e u' w' => u' = u ∧ Answer ι j own w out σ' e w'

section
variable {P : Program} {ι ι' : Imm} {j j' : Lay} {own own' : Own} {lb : Lay} {N : Nat} {e : Env} {a : Go.Act} {w w' : World} {σ σ' : Store}

theorem Owned.reown {t : Tag} {d : D} {v : Value} (h : ∀ b, own b = some t → own' b = some t) (k : Owned ι own w t d v) : Owned ι own' w t d v := by
  unfold Owned at k ⊢
  cases hp : prin d v with
  | none => trivial
  | some p =>
    rw [hp] at k
    rcases k with k | ⟨b, cap, cur, T, h1, h2, h3⟩
    · exact .inl k
    · exact .inr ⟨b, cap, cur, T, h1, h b h2, h3⟩
theorem BoxRel.reown {b : Nat} {mk : Nat → Tag} {cs : List Cell} (h : ∀ i b, own b = some (mk i) → own' b = some (mk i)) (k : BoxRel ι j own w b mk cs) : BoxRel ι j own' w b mk cs := by
  obtain ⟨vs, T, h1, h2, h3⟩ := k
  refine ⟨vs, T, h1, h2, fun i c hi => ?_⟩
  obtain ⟨v, q1, q2, q3, q4⟩ := h3 i c hi
  exact ⟨v, q1, q2, q3, fun ho => (q4 ho).reown (h i)⟩
theorem GSim.toShared (hG : GSim ι j own σ w) : GSim ι j (shared own) σ w where
  holds := hG.holds
  noimm := fun b t h => hG.noimm b t (shared_some h).1
  objs := fun id cs h => by
    obtain ⟨b, q1, q2, q3⟩ := hG.objs id cs h
    exact ⟨b, q1, shared_of q2 rfl, q3.reown fun i b h => shared_of h rfl⟩
  tys := hG.tys
  iters := fun id s pos h => by
    obtain ⟨b, q1, q2, q3⟩ := hG.iters id s pos h
    exact ⟨b, q1, shared_of q2 rfl, q3⟩
  jlt := hG.jlt
  ownlt := fun b t h => hG.ownlt b t (shared_some h).1
/-- The frame behind a call: its own blocks are as they were, and a list that came out of it with room of its own is borne by a slot. -/
theorem call_back {own1 : Own} (hG : GSim ι j own σ w) (hL : LSim ι j own lb N e a w) (hG1 : GSim ι' j' own1 σ' w') (hE : Evo ι j (shared own) w ι' j' own1 w' (fun _ => True)) (hS : Shared own1) (s : Nat) (mark : Bool) (d : D) (v : Value)
    (hF : mark = true → Fresh ι' (shared own) w own1 w' d v) :
    ∃ own2, GSim ι' j' own2 σ' w' ∧ LSim ι' j' own2 lb N e a w' ∧ Evo ι j own w ι' j' own2 w' (fun _ => True) ∧ (mark = true → Owned ι' own2 w' (.slot s) d v) := by
  classical
  -- the block that is marked
  obtain ⟨mb, hmb⟩ : ∃ mb : Option Nat, (∀ b, mb = some b → (w.heap.size ≤ b ∨ (shared own b).isSome = true) ∧ own1 b = none ∧ b < w'.heap.size) ∧
      (mark = true → ∀ p, prin d v = some p → p.2.2 = .slice none 0 0 ∨ ∃ b cap cur T, p.2.2 = .slice (some ⟨b, 0, none⟩) p.2.1.length cap ∧ mb = some b ∧ w'.heap[b]? = some (.cells cur T (0, 0)) ∧ (T = p.1.el ∧ cur.size = cap * p.1.sz) ∧ ∀ o, p.2.1.length * p.1.sz ≤ o → ι' b o = none) := by
    cases mark with
    | false => exact ⟨none, (fun _ h => by cases h), (fun h => by cases h)⟩
    | true =>
      have hF := hF rfl
      unfold Fresh at hF
      cases hp : prin d v with
      | none => exact ⟨none, (fun _ h => by cases h), (fun _ p h => by cases h)⟩
      | some p =>
        rw [hp] at hF
        rcases hF with hF | ⟨b, cap, cur, T, f1, f2, f3, f4, f5, f6⟩
        · exact ⟨none, (fun _ h => by cases h), (fun _ q h => by cases h; exact .inl hF)⟩
        · exact ⟨some b, (fun b' h => by cases h; exact ⟨f2, f3, (Array.getElem?_eq_some_iff.1 f4).1⟩), (fun _ q h => by cases h; exact .inr ⟨b, cap, cur, T, f1, rfl, f4, f5, f6⟩)⟩
  obtain ⟨hm1, hm2⟩ := hmb
  let loc : Nat → Prop := fun b => ∃ t, own b = some t ∧ t.isLocal = true
  let own2 : Own := fun b => if loc b then own b else if mb = some b then some (.slot s) else own1 b
  have hloc : ∀ b, loc b → own1 b = none ∧ w'.heap[b]? = w.heap[b]? ∧ (∀ o, ι' b o = ι b o) ∧ b < w.heap.size ∧ shared own b = none := by
    rintro b ⟨t, ht, htl⟩
    have hlt := hG.ownlt b t ht
    have hsn : shared own b = none := by
      unfold shared
      rw [ht]
      simp [htl]
    obtain ⟨k1, k2, k3⟩ := hE.block b hlt (fun t h => by rw [hsn] at h; cases h)
    exact ⟨k2.trans hsn, k1, k3, hlt, hsn⟩
  have hnm : ∀ b, loc b → mb ≠ some b := by
    intro b hb h
    obtain ⟨k1, _, _⟩ := hm1 b h
    obtain ⟨_, _, _, q1, q2⟩ := hloc b hb
    rcases k1 with k1 | k1
    · omega
    · rw [q2] at k1; cases k1
  -- the shared marks stand
  have hsh : ∀ b t, own1 b = some t → own2 b = some t := by
    intro b t h
    by_cases hb : loc b
    · rw [(hloc b hb).1] at h; cases h
    · have hne : mb ≠ some b := fun hm => by rw [(hm1 b hm).2.1] at h; cases h
      simp only [own2, if_neg hb, if_neg hne]
      exact h
  have hE2 : Evo ι j own w ι' j' own2 w' (fun t => t.isLocal = false) := by
    refine ⟨hE.os, hE.tape, hE.output, hE.size, hE.imm, hE.lay, fun b hb ht => ?_⟩
    have hsn : shared own b = none := by
      unfold shared
      cases ho : own b with
      | none => rfl
      | some t =>
        have : t.isLocal = true := by simpa using ht t ho
        simp [this]
    obtain ⟨k1, k2, k3⟩ := hE.block b hb (fun t h => by rw [hsn] at h; cases h)
    refine ⟨k1, ?_, k3⟩
    by_cases hl : loc b
    · simp only [own2, if_pos hl]
    · have hn : own b = none := by
        cases ho : own b with
        | none => rfl
        | some t => exact absurd ⟨t, ho, by simpa using ht t ho⟩ hl
      have hne : mb ≠ some b := fun hm => by
        rcases (hm1 b hm).1 with q | q
        · omega
        · rw [hsn] at q; cases q
      simp only [own2, if_neg hl, if_neg hne, hn]
      exact k2.trans hsn
  have hG2 : GSim ι' j' own2 σ' w' := by
    refine ⟨hG1.holds, fun b t h hu o => ?_, fun id cs h => ?_, hG1.tys, fun id s pos h => ?_, hG1.jlt, fun b t h => ?_⟩
    · by_cases hb : loc b
      · simp only [own2, if_pos hb] at h
        rw [(hloc b hb).2.2.1 o]
        exact hG.noimm b t h hu o
      · by_cases hm : mb = some b
        · simp only [own2, if_neg hb, if_pos hm, Option.some.injEq] at h
          subst h
          cases hu
        · simp only [own2, if_neg hb, if_neg hm] at h
          exact hG1.noimm b t h hu o
    · obtain ⟨b, q1, q2, q3⟩ := hG1.objs id cs h
      exact ⟨b, q1, hsh b _ q2, q3.reown fun i b h => hsh b _ h⟩
    · obtain ⟨b, q1, q2, q3⟩ := hG1.iters id s pos h
      exact ⟨b, q1, hsh b _ q2, q3⟩
    · by_cases hb : loc b
      · exact Nat.lt_of_lt_of_le (hloc b hb).2.2.2.1 hE.size
      · by_cases hm : mb = some b
        · exact (hm1 b hm).2.2
        · simp only [own2, if_neg hb, if_neg hm] at h
          exact hG1.ownlt b t h
  refine ⟨own2, hG2, hL.evo hE2 (fun _ _ _ _ h => by cases h) (fun _ _ _ => ⟨(fun h => by cases h), (fun _ _ _ _ h => by cases h)⟩), hE2.weaken fun _ _ => trivial, fun hmk => ?_⟩
  have := hm2 hmk
  unfold Owned
  cases hp : prin d v with
  | none => trivial
  | some p =>
    rcases this p hp with this | ⟨b, cap, cur, T, f1, f2, f3, f4, f5⟩
    · exact .inl this
    · have hnl : ¬ loc b := fun h => hnm b h f2
      refine .inr ⟨b, cap, cur, T, f1, ?_, f3, f4, f5⟩
      simp only [own2, if_neg hnl, if_pos f2]

/-- A frame's state, from where the function was entered on. -/
def St (ι0 : Imm) (j0 : Lay) (own0 : Own) (w0 : World) (N : Nat) (e : Env) (σ : Store) (a : Go.Act) (w : World) : Prop :=
  ∃ ι j own lb, GSim ι j own σ w ∧ LSim ι j own lb N e a w ∧ Evo ι0 j0 own0 w0 ι j own w (fun _ => True)
theorem LSim.bare (hL : LSim ι j own lb N e a w) : LSim ι j own lb N e.bare a w :=
  hL.sub (fun s c h => by simp [Env.bare, aget_nil] at h) (fun s p h => by simp [Env.bare, aget_nil] at h) (fun s cs h => by simp [Env.bare, aget_nil] at h) rfl
def StP (ι0 : Imm) (j0 : Lay) (own0 : Own) (w0 : World) (N : Nat) (d : D) (chain : List PanicEntry) (e : Env) (σ : Store) (a : Go.Act) (w : World) : Prop :=
  ∃ ι j own lb, GSim ι j own σ w ∧ LSim ι j own lb N e a w ∧ Evo ι0 j0 own0 w0 ι j own w (fun _ => True) ∧ ∃ v, chain = [{ v := v, recovered := false }] ∧ Rep ι j d v

variable {ι0 : Imm} {j0 : Lay} {own0 : Own} {w0 : World} {κ : Ctx}
def CSound (P : Program) (κ : Ctx) (C : CallF) : Prop := ∀ f ds σ out σ', C f ds σ = some (out, σ') → CallOK P κ f ds σ out σ'
/-- What one operation asks. -/
def opGoal (P : Program) (ops : Array Oper) (o : Oper) (Q : Exit → Go.Act → World → Prop) (K : Go.Act → World → Prop) (a : Go.Act) (w : World) : Prop :=
  if Region.wanted o (yielded ops a.tmps) then o.wp P a w K Q ∨ (o.asks P a w ∧ LetsOut Q) else K (a.put o.dst undef) w
/-- How the machine's step goes on. -/
def StepPost (ι0 : Imm) (j0 : Lay) (own0 : Own) (w0 : World) (N : Nat) (C : CallF) (o' : AOper) (e : Env) (σ : Store) (Q : Exit → Go.Act → World → Prop) (K : Go.Act → World → Prop) : Step → Prop
  | .next e' σ' => ∀ a' w', St ι0 j0 own0 w0 N e' σ' a' w' → K a' w'
  | .call f as => ∃ out σ', C f as σ = some (out, σ') ∧ match out with
    | .ret c => ∀ a' w', St ι0 j0 own0 w0 N (e.put o'.dst c) σ' a' w' → K a' w'
    | .panic d => ∀ a' w' chain, StP ι0 j0 own0 w0 N d chain e σ' a' w' → Q (.panic chain) a' w'
  | .panic d => ∀ a' w' chain, StP ι0 j0 own0 w0 N d chain e σ a' w' → Q (.panic chain) a' w'

theorem run_call {o : Oper} {f : Operand} {as : Array Operand} {ts : Array TypeId} {g : FuncId} {vf vc : List Value} (ho : o.op = .call { callee := .value f, args := as, argTypes := ts }) (hb : HasBody P g) (hv : a.eval f = .func (.func g) ⟨vf⟩ ⟨vc⟩) :
    (execOp a.eval o).run P w = .ok (.enter g (⟨vf ++ as.toList.map a.eval ++ vc⟩)) w := by
  obtain ⟨fn, c, h1, h2, h3⟩ := hb
  have harr : (⟨vf⟩ : Array Value) ++ as.map a.eval ++ ⟨vc⟩ = ⟨vf ++ as.toList.map a.eval ++ vc⟩ := by
    apply Array.ext'
    simp
  simp only [execOp, ho, resolve, hv, Deferred.ofValue, Sem.run_bind, Sem.run_pure, Result.andThen_ok, invoke, harr]
  exact MuLone.run_callFunc_enter h1 h2 h3 _ w

theorem op_wp {C : CallF} (hC : CSound P κ C) (hB : Base κ own0 w0) {ops : Array Oper} (hops : ∀ (i : Nat) (o : Oper) (s : Nat), ops[i]? = some o → o.dst = some s → s < N) {o : Oper} {o' : AOper} (hk : okOper P N ops o o' = true)
    (hSt : St ι0 j0 own0 w0 N e σ a w) {st : Step} (h : stepOp o' e σ = some st) {Q : Exit → Go.Act → World → Prop} {K : Go.Act → World → Prop} (hpost : StepPost ι0 j0 own0 w0 N C o' e σ Q K st) : opGoal P ops o Q K a w := by
  obtain ⟨ι, j, own, lb, hG, hL, hE⟩ := hSt
  simp only [okOper, Bool.and_eq_true] at hk
  obtain ⟨⟨hk1, hk2⟩, hk3⟩ := hk
  obtain ⟨hdst, hd⟩ := okDst_eq hk1
  unfold stepOp at h
  obtain ⟨b, hb, h⟩ := bindO_some h
  have hw := wanted_sound hL hk2 (fun i s b' hg hs => by
    cases ho : ops[i]? with
    | none => rw [ho] at hs; cases hs
    | some oi => rw [ho] at hs; exact hops i oi s ho hs) hb
  unfold opGoal
  rw [hw]
  cases b with
  | false =>
    simp only [ifB_false, Option.some.injEq] at h
    subst h
    simp only [Bool.false_eq_true, if_false]
    refine hpost _ _ ⟨ι, j, own, lb, hG, ?_, hE⟩
    rw [← hdst]
    cases hds : o.dst with
    | none => exact hL
    | some s => exact hL.putC (hd s hds) ⟨by simp only [Rep], fun h => by cases h⟩
  | true =>
    simp only [ifB_true] at h
    simp only [if_true]
    refine .inl ?_
    -- a call
    have called : ∀ {f : Operand} {as : Array Operand} {ts : Array TypeId} {g : FuncId} {vf vc : List Value} {x ds y : List D}, o.op = .call { callee := .value f, args := as, argTypes := ts } → a.eval f = .func (.func g) ⟨vf⟩ ⟨vc⟩ → RepL ι j x vf → RepL ι j ds (as.toList.map a.eval) → RepL ι j y vc →
        st = .call g (x ++ ds ++ y) → o.wp P a w K Q := by
      rintro f as ts g vf vc x ds y ho hv hx hds hy rfl
      obtain ⟨out, σ', hout, hpost⟩ := hpost
      obtain ⟨hbody, hcall⟩ := hC g _ σ out σ' hout
      unfold Oper.wp
      rw [run_call ho hbody hv]
      simp only [Oper.upon]
      refine (hcall ι j (shared own) w _ (shared_shared own) (hB.evo hE).shared hG.toShared ((hx.append hds).append hy)).mono ?_
      rintro en w' ⟨ι', j', own1, k1, k2, k3, k4⟩
      cases out with
      | ret c =>
        cases en with
        | returned v =>
          cases hdso : o.dst with
          | none =>
            obtain ⟨own2, q1, q2, q3, _⟩ := call_back hG hL k1 k2 k3 0 false c.d v (fun h => by cases h)
            refine hpost _ _ ⟨ι', j', own2, lb, q1, ?_, hE.trans q3⟩
            rw [← hdst, hdso]
            exact q2
          | some s =>
            obtain ⟨own2, q1, q2, q3, q4⟩ := call_back hG hL k1 k2 k3 s c.own c.d v k4.2
            refine hpost _ _ ⟨ι', j', own2, lb, q1, ?_, hE.trans q3⟩
            rw [← hdst, hdso]
            exact putOver (hd s hdso) (q2.forget s) ⟨k4.1, q4⟩
        | panicked chain => exact k4.elim
        | outgrown => exact k4.elim
      | panic d =>
        cases en with
        | returned v => exact k4.elim
        | outgrown => exact k4.elim
        | panicked chain =>
          obtain ⟨own2, q1, q2, q3, _⟩ := call_back hG hL k1 k2 k3 0 false d .nilFunc (fun h => by cases h)
          obtain ⟨v, rfl, hv⟩ := k4
          exact hpost _ _ _ ⟨ι', j', own2, lb, q1, q2, hE.trans q3, v, rfl, hv⟩
    cases hkind : o'.op.kind with
    | op =>
      rw [hkind] at h
      simp only at h
      obtain ⟨⟨e', σ'⟩, h1, h⟩ := bindO_some h
      cases h
      rw [← hdst] at h1
      obtain ⟨nx, w', a', hrun, hnx, ι', j', own', lb', k1, k2, k3⟩ := evalOp_sound hG hL hk3 hd h1
      have := hpost a' w' ⟨ι', j', own', lb', k1, k2, hE.trans k3⟩
      unfold Oper.wp
      rw [hrun]
      rcases hnx with ⟨v, rfl, rfl⟩ | ⟨rfl, rfl⟩ | ⟨d, rfl, rfl⟩ <;> exact this
    | call =>
      rw [hkind] at h
      simp only at h
      obtain ⟨⟨g, as⟩, h1, h⟩ := bindO_some h
      cases h
      cases hop : o'.op <;> rw [hop] at hkind h1 hk3 <;> simp only [AOp.kind, reduceCtorEq] at hkind
      · simp only [okOp] at hk3
        split at hk3
        · rename_i f as0 ts ho
          simp only [Bool.and_eq_true] at hk3
          simp only [callOf] at h1
          obtain ⟨ds, h2, h1⟩ := bindO_some h1
          cases h1
          have hf := opd_rel hL hk3.1 (c := ⟨false, .fn (.func g) [] []⟩) rfl
          simp only [Rep, RepL] at hf
          obtain ⟨vf, vc, hv, rfl, rfl⟩ := hf
          exact called ho hv (x := []) (y := []) (by simp only [RepL]) (opds_rel hL hk3.2 h2) (by simp only [RepL]) (by simp)
        · cases hk3
      · simp only [okOp] at hk3
        split at hk3
        · rename_i f as0 ts ho
          simp only [Bool.and_eq_true] at hk3
          simp only [callOf] at h1
          obtain ⟨c, h2, h1⟩ := bindO_some h1
          obtain ⟨⟨g', x, y⟩, h3, h1⟩ := bindO_some h1
          obtain ⟨ds, h4, h1⟩ := bindO_some h1
          cases h1
          obtain ⟨vf, vc, hv, r1, r2⟩ := fn_of h3 (opd_rel hL hk3.1 h2)
          exact called ho hv r1 (opds_rel hL hk3.2 h4) r2 rfl
        · cases hk3
    | panic =>
      rw [hkind] at h
      simp only at h
      obtain ⟨d, h1, h⟩ := bindO_some h
      cases h
      cases hop : o'.op <;> rw [hop] at hkind h1 hk3 <;> simp only [AOp.kind, reduceCtorEq] at hkind
      simp only [okOp] at hk3
      split at hk3
      · rename_i x ho
        simp only [panicOf] at h1
        obtain ⟨c, h2, h1⟩ := bindO_some h1
        have hr := opd_rel hL hk3 h2
        cases hd' : c.d <;> rw [hd'] at h1 hr <;> simp only [reduceCtorEq, Option.some.injEq] at h1
        subst h1
        obtain ⟨u, hu, hru⟩ := (by simpa only [Rep] using hr : ∃ u, a.eval x = .iface _ u ∧ Rep ι j _ u)
        unfold Oper.wp
        have hrun : (execOp a.eval o).run P w = .halt (.panic (a.eval x)) w := by
          simp only [execOp, ho, Instr.panic, hu, goPanic, Sem.run_bind]
          rfl
        rw [hrun]
        exact hpost a w _ ⟨ι, j, own, lb, hG, hL, hE, _, rfl, hr⟩
      · cases hk3
end
end Go.Mx


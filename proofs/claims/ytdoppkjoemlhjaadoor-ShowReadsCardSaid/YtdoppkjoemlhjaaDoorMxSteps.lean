/-
  What the operations of the small machine do, the model's operations do: fields, elements, aggregates.
-/
import Derived.Test.YtdoppkjoemlhjaaDoorMxOps2
set_option linter.unusedSimpArgs false
set_option linter.unusedVariables false
namespace Go.Mx
open Go
section
variable {P : Program} {ι : Imm} {j : Lay} {own : Own} {lb : Lay} {N : Nat} {e : Env} {a : Go.Act} {w : World} {σ : Store}

/-- A part of an aggregate. -/
theorem part_rel {cs : List D} {vs : List Value} (hr : RepL ι j cs vs) (h1 : ∀ x ∈ vs, x.oneCell' = true) {t : TypeId} {k : Option Nat} (hk : okK P t k = true) {off : Nat} {d : D} (h : Go.Mx.part k cs off = some d) :
    ∃ v, (Go.part t ⟨vs⟩ off).run P w = .ok v w ∧ Rep ι j d v ∧ ∀ i x, v.cells[i]? = some x → vs[off + i]? = some x := by
  cases k with
  | none =>
    simp only [okK, Bool.and_eq_true, beq_iff_eq] at hk
    simp only [Go.Mx.part, nth_eq] at h
    obtain ⟨v, hv, hd⟩ := hr.at off d h
    have hc1 : v.cells = #[v] := by
      have := h1 v (List.mem_of_getElem? hv)
      cases v <;> simp [Value.oneCell'] at this <;> rfl
    refine ⟨v, ?_, hd, fun i x hx => ?_⟩
    · simp only [Go.part, Sem.run_bind, run_isAgg_of hk.1, Result.andThen_ok, Bool.false_eq_true, if_false, List.getElem?_toArray, hv, Sem.run_pure]
    · rw [hc1] at hx
      cases i with
      | zero => simp at hx; subst hx; exact hv
      | succ i => simp at hx
  | some n =>
    simp only [okK, Bool.and_eq_true, beq_iff_eq] at hk
    simp only [Go.Mx.part] at h
    obtain ⟨h2, h⟩ := ifB_some h
    simp only [decide_eq_true_eq] at h2
    cases h
    have hl := hr.length
    have hex : (⟨vs⟩ : Array Value).extract off (off + n) = ⟨(vs.drop off).take n⟩ := by
      apply Array.ext'
      simp [List.take_drop]
    refine ⟨.agg ⟨(vs.drop off).take n⟩, ?_, ?_, fun i x hx => ?_⟩
    · simp only [Go.part, Sem.run_bind, run_isAgg_of hk.1, Result.andThen_ok, if_true, run_sizeOf_of hk.2, Sem.run_pure, hex]
    · simp only [Rep]
      refine ⟨_, rfl, RepL.of (by simp only [List.length_take, List.length_drop]; omega) (fun i d hi => ?_), fun x hx => h1 x (List.mem_of_mem_drop (List.mem_of_mem_take hx))⟩
      simp only [List.getElem?_take, List.getElem?_drop] at hi ⊢
      split at hi
      · rename_i hin
        rw [if_pos hin]
        exact hr.at _ _ hi
      · cases hi
    · simp only [Value.cells, List.getElem?_toArray, List.getElem?_take, List.getElem?_drop] at hx
      split at hx
      · exact hx
      · cases hx
theorem agg_of {d : D} {cs : List D} (h : d.agg? = some cs) {v : Value} (hr : Rep ι j d v) : ∃ vs, v = .agg ⟨vs⟩ ∧ RepL ι j cs vs ∧ ∀ x ∈ vs, x.oneCell' = true := by
  cases d <;> simp only [D.agg?, reduceCtorEq, Option.some.injEq] at h
  subst h
  simpa only [Rep] using hr
theorem val_fieldAddr (hL : LSim ι j own lb N e a w) {o : Oper} {t : TypeId} {x : Operand} {y : AOpd} {i off : Nat} {k : Option Nat} {fs : List Field} {f : Field} (ho : o.op = .fieldAddr t x i) (hk : okOpd x y = true)
    (hf : fieldsB P t = some fs) (hi : fs[i]? = some f) (hoff : f.offset = off) (hkk : okK P f.type k = true) (hs0 : sizeB P f.type ≠ some 0) {v : Val}
    (h : evalV (.fieldAddr off k y) e σ = some v) : ∃ u, (execOp a.eval o).run P w = .ok (.value u) w ∧ ValRel ι j lb v u := by
  have hu := fieldsB_eq hf
  have hi' : (⟨fs⟩ : Array Field)[i]? = some f := by simpa using hi
  have hsz : ∃ n, sizeB P f.type = some n ∧ n ≠ 0 := by
    cases k with
    | none =>
      simp only [okK, Bool.and_eq_true, beq_iff_eq] at hkk
      exact ⟨1, hkk.2, by omega⟩
    | some n =>
      simp only [okK, Bool.and_eq_true, beq_iff_eq] at hkk
      exact ⟨n, hkk.2, fun e => hs0 (e ▸ hkk.2)⟩
  obtain ⟨n, hn, hn0⟩ := hsz
  have hex : ∀ b o', a.eval x = .pointer (some ⟨b, o', none⟩) → (execOp a.eval o).run P w = .ok (.value (.pointer (some ⟨b, o' + off, none⟩))) w := by
    intro b o' hx
    simp only [execOp, ho, hx, Instr.fieldAt, Sem.run_bind, run_underlying hu, Result.andThen_ok, hi', Instr.sureAddr, Sem.run_pure, fieldPlace, run_sizeOf_of hn, if_neg hn0, Addr.add_lit, hoff]
  simp only [evalV] at h
  obtain ⟨p, hp, h⟩ := bindO_some h
  have hr := addr_rel hL hk hp
  cases p with
  | loc b o' =>
    cases h
    obtain ⟨B, hB, hx⟩ := hr
    exact ⟨_, hex B o' hx, B, hB, rfl⟩
  | ptr id o' =>
    cases h
    obtain ⟨B, hB, hx⟩ := hr
    exact ⟨_, hex B o' hx, by simp only [ValRel, Rep]; exact ⟨B, hB, rfl⟩⟩
  | eptr d =>
    obtain ⟨cs, h1, h⟩ := bindO_some h
    obtain ⟨d', h2, h⟩ := bindO_some h
    cases h
    obtain ⟨b, o', u, hx, hat, hd⟩ := hr
    obtain ⟨vs, rfl, hl, h1c⟩ := agg_of h1 hd
    obtain ⟨u', _, hu', hcells⟩ := part_rel (P := P) (w := w) hl h1c hkk h2
    refine ⟨_, hex b o' hx, ?_⟩
    simp only [ValRel, Rep]
    refine ⟨b, o' + off, u', rfl, fun i x hx => ?_, hu'⟩
    rw [Nat.add_assoc]
    exact hat (off + i) x (by simpa [Value.cells] using hcells i x hx)
theorem val_field (hL : LSim ι j own lb N e a w) {o : Oper} {t : TypeId} {x : Operand} {y : AOpd} {i off : Nat} {k : Option Nat} {fs : List Field} {f : Field} (ho : o.op = .field t x i) (hk : okOpd x y = true)
    (hf : fieldsB P t = some fs) (hi : fs[i]? = some f) (hoff : f.offset = off) (hkk : okK P f.type k = true) {v : Val}
    (h : evalV (.field off k y) e σ = some v) : ∃ u, (execOp a.eval o).run P w = .ok (.value u) w ∧ ValRel ι j lb v u := by
  have hu := fieldsB_eq hf
  have hi' : (⟨fs⟩ : Array Field)[i]? = some f := by simpa using hi
  simp only [evalV] at h
  obtain ⟨c, h1, h⟩ := bindO_some h
  obtain ⟨cs, h2, h⟩ := bindO_some h
  obtain ⟨d, h3, h⟩ := bindO_some h
  cases h
  obtain ⟨vs, hx, hl, h1c⟩ := agg_of h2 (opd_rel hL hk h1)
  obtain ⟨u, hrun, hru, _⟩ := part_rel (P := P) (w := w) hl h1c hkk h3
  refine ⟨u, ?_, hru⟩
  simp only [execOp, ho, hx, Instr.field, Sem.run_bind, run_underlying hu, Result.andThen_ok, hi', asAgg, Sem.run_pure, hoff, hrun]
theorem val_indexAddr (hL : LSim ι j own lb N e a w) {o : Oper} {t el : TypeId} {x i : Operand} {x' i' : AOpd} {sz : Nat} (ho : o.op = .indexAddr t x i) (hk : okOpd x x' = true) (hk1 : okOpd i i' = true)
    (ht : P.underlying t = some (.slice el)) (hsz : sizeB P el = some sz) {v : Val}
    (h : evalV (.indexAddr sz x' i') e σ = some v) : ∃ u, (execOp a.eval o).run P w = .ok (.value u) w ∧ ValRel ι j lb v u := by
  simp only [evalV] at h
  obtain ⟨c, h1, h⟩ := bindO_some h
  obtain ⟨r, h2, h⟩ := bindO_some h
  obtain ⟨c', h3, h⟩ := bindO_some h
  obtain ⟨n, h4, h⟩ := bindO_some h
  obtain ⟨h5, h⟩ := ifB_some h
  obtain ⟨d, h6, h⟩ := bindO_some h
  cases h
  have hr := opd_rel hL hk h1
  obtain ⟨k, hi⟩ := nat_of h4 (opd_rel hL hk1 h3)
  cases hd : c.d <;> rw [hd] at h2 hr <;> simp only [D.row?, reduceCtorEq, Option.some.injEq] at h2
  rename_i sz' es
  subst h2
  simp only [beq_iff_eq] at h5
  subst h5
  rw [nth_eq] at h6
  simp only [Rep] at hr
  obtain ⟨ad, cap, hx, _, _, hrow⟩ := hr
  have hlt := (List.getElem?_eq_some_iff.1 h6).1
  rcases hrow with hrow | ⟨b, off, rfl, hrow⟩
  · simp only at hlt
    rw [hrow] at hlt
    simp at hlt
  · obtain ⟨u, hat, _, hu⟩ := hrow.at n d h6
    have hb : 0 ≤ (n : Int) ∧ (n : Int) < es.length := ⟨by omega, by simp only at hlt; omega⟩
    refine ⟨.pointer (some ⟨b, off + n * sz'.sz, none⟩), ?_, ?_⟩
    · simp only [execOp, ho, hx, hi, Instr.indexAt, asIntOf, Sem.run_bind, Sem.run_pure, run_underlying ht, Result.andThen_ok]
      rw [if_pos hb]
      simp only [Sem.run_bind, run_sizeOf_of hsz, Result.andThen_ok, Sem.run_pure, Int.toNat_natCast, Addr.add_lit]
    · simp only [ValRel, Rep]
      exact ⟨b, off + n * sz'.sz, u, rfl, hat, hu⟩

/-! ### Aggregates that are built -/
theorem putD_at : ∀ (cs : List D) (off : Nat) (new : List D), off + new.length ≤ cs.length → (putD cs off new).length = cs.length ∧ ∀ k, (putD cs off new)[k]? = if off ≤ k ∧ k < off + new.length then new[k - off]? else cs[k]?
  | cs, off, [], _ => by
    have : putD cs off [] = cs := by cases cs <;> cases off <;> rfl
    rw [this]
    exact ⟨rfl, fun k => by rw [if_neg (by simp only [List.length_nil]; omega)]⟩
  | [], off, x :: new, h => by simp at h
  | c :: cs, 0, x :: new, h => by
    simp only [putD]
    obtain ⟨h1, h2⟩ := putD_at cs 0 new (by simp at h ⊢; omega)
    refine ⟨by simp [h1], fun k => ?_⟩
    cases k with
    | zero => simp
    | succ k =>
      simp only [List.getElem?_cons_succ, h2 k, List.length_cons]
      by_cases hk : k < new.length
      · rw [if_pos ⟨by omega, by omega⟩, if_pos ⟨by omega, by omega⟩]
        simp
      · rw [if_neg (by omega), if_neg (by omega)]
  | c :: cs, off + 1, x :: new, h => by
    simp only [putD]
    obtain ⟨h1, h2⟩ := putD_at cs off (x :: new) (by simp at h ⊢; omega)
    refine ⟨by simp [h1], fun k => ?_⟩
    cases k with
    | zero => rw [if_neg (by omega)]; simp
    | succ k =>
      simp only [List.getElem?_cons_succ, h2 k]
      by_cases hk : off ≤ k ∧ k < off + (x :: new).length
      · rw [if_pos hk, if_pos ⟨by omega, by omega⟩]
        congr 1
        omega
      · rw [if_neg hk, if_neg (by omega)]
theorem fill_rel {place : Nat → Option (Nat × Nat)} : ∀ (ps : List (Nat × Value)) (qs : List (Nat × Nat × D)) (cells : List Value) (cs cs' : List D),
    ps.length = qs.length → (∀ (n : Nat) (p : Nat × Value) (q : Nat × Nat × D), ps[n]? = some p → qs[n]? = some q → place p.1 = some (q.1, q.2.1) ∧ Rep ι j q.2.2 p.2) →
    RepL ι j cs cells → (∀ x ∈ cells, x.oneCell' = true) → fillD cs qs = some cs' →
    ∃ r, Instr.fill place ⟨cells⟩ ps = some ⟨r⟩ ∧ RepL ι j cs' r ∧ ∀ x ∈ r, x.oneCell' = true
  | [], [], cells, cs, cs', _, _, hr, h1, h => by
    simp only [fillD] at h
    cases h
    exact ⟨cells, rfl, hr, h1⟩
  | [], _ :: _, _, _, _, hl, _, _, _, _ => by simp at hl
  | _ :: _, [], _, _, _, hl, _, _, _, _ => by simp at hl
  | (i, v) :: ps, (off, n, d) :: qs, cells, cs, cs', hl, hp, hr, h1, h => by
    simp only [fillD] at h
    cases hb : d.ok && d.cells.length == n && decide (off + n ≤ cs.length) with
    | false => rw [hb] at h; cases h
    | true =>
      rw [hb, ifB_true] at h
      simp only [Bool.and_eq_true, beq_iff_eq, decide_eq_true_eq] at hb
      obtain ⟨⟨hok, hn⟩, hle⟩ := hb
      obtain ⟨hpl, hd⟩ := hp 0 (i, v) (off, n, d) rfl rfl
      simp only at hpl hd
      obtain ⟨hcr, hc1⟩ := hd.cellsRel hok
      have hvs : v.cells.size = n := by rw [hd.cellsSize hok, hn]
      have hlen := hr.length
      obtain ⟨f1, f2⟩ := Great.foldl_set off v.cells.toList 0 ⟨cells⟩
      have hzip : v.cells.zipIdx.toList = v.cells.toList.zipIdx 0 := by simp
      obtain ⟨q1, q2⟩ := putD_at cs off d.cells (by omega)
      generalize hnew : ((v.cells.toList.zipIdx 0).foldl (fun cs (x : Value × Nat) => cs.setIfInBounds (off + x.2) x.1) (⟨cells⟩ : Array Value)) = new at f1 f2
      have hnewl : new.toList.length = (putD cs off d.cells).length := by rw [q1, Array.length_toList, f1]; exact hlen
      have hnewr : RepL ι j (putD cs off d.cells) new.toList := by
        refine RepL.of hnewl fun k dk hk => ?_
        rw [q2 k] at hk
        have hkk := f2 k
        rw [← Array.getElem?_toList] at hkk
        rw [hkk]
        simp only [Nat.add_zero, Array.length_toList]
        by_cases hin : off ≤ k ∧ k < off + d.cells.length
        · rw [if_pos hin] at hk
          rw [if_pos ⟨hin.1, by omega, by show k < cells.length; omega⟩]
          exact hcr.at _ _ hk
        · rw [if_neg hin] at hk
          rw [if_neg (by omega)]
          simpa using hr.at _ _ hk
      have hnew1 : ∀ x ∈ new.toList, x.oneCell' = true := by
        intro x hx
        obtain ⟨k, hk⟩ := List.getElem?_of_mem hx
        rw [Array.getElem?_toList, f2 k] at hk
        split at hk
        · exact hc1 x (List.mem_of_getElem? hk)
        · exact h1 x (List.mem_of_getElem? (by simpa using hk))
      obtain ⟨r, k1, k2, k3⟩ := fill_rel (place := place) ps qs new.toList (putD cs off d.cells) cs' (by simpa using hl) (fun m p q hpm hqm => hp (m + 1) p q (by simpa using hpm) (by simpa using hqm)) hnewr hnew1 h
      refine ⟨r, ?_, k2, k3⟩
      simp only [Instr.fill, hpl]
      have hcond : ¬ ((decide (v.cells.size ≠ n) || decide (off + v.cells.size > (⟨cells⟩ : Array Value).size)) = true) := by
        have hsz : (⟨cells⟩ : Array Value).size = cells.length := rfl
        rw [hvs, hsz]
        simp
        omega
      rw [if_neg hcond]
      rw [← k1]
      congr 1
      rw [← Array.foldl_toList, hzip]
      exact hnew
theorem zeroB_run {t : TypeId} {zs : List Value} (h : zeroB P t = some zs) : ∃ v, (zeroValue t).run P w = .ok v w ∧ v.cells = ⟨zs⟩ := by
  obtain ⟨v, h1, h2⟩ := run_zero_of (w := w) h
  exact ⟨v, h1, by rw [← h2]⟩
theorem partsOf_rel (hL : LSim ι j own lb N e a w) {fs : List Field} : ∀ {ps : List (Nat × Operand)} {qs : List (Nat × Nat × AOpd)} (_ : okParts P fs ps qs = true) {rs : List (Nat × Nat × D)} (_ : partsOf e qs = some rs),
    ps.length = rs.length ∧ ∀ (n : Nat) (p : Nat × Operand) (q : Nat × Nat × D), ps[n]? = some p → rs[n]? = some q → (∃ f, fs[p.1]? = some f ∧ f.offset = q.1 ∧ sizeB P f.type = some q.2.1) ∧ Rep ι j q.2.2 (a.eval p.2)
  | [], [], _, rs, h => by simp only [partsOf] at h; cases h; exact ⟨rfl, fun n p q hp => by simp at hp⟩
  | [], _ :: _, hk, _, _ => by simp only [okParts, Bool.false_eq_true] at hk
  | _ :: _, [], hk, _, _ => by simp only [okParts, Bool.false_eq_true] at hk
  | (i, x) :: ps, (off, n, y) :: qs, hk, rs, h => by
    simp only [okParts, Bool.and_eq_true] at hk
    simp only [partsOf] at h
    obtain ⟨c, h1, h⟩ := bindO_some h
    obtain ⟨l, h2, h⟩ := bindO_some h
    cases h
    obtain ⟨⟨hk1, hk2⟩, hk3⟩ := hk
    obtain ⟨r1, r2⟩ := partsOf_rel hL hk3 h2
    refine ⟨by simp [r1], fun m p q hp hq => ?_⟩
    cases m with
    | zero =>
      simp at hp hq
      subst hp hq
      refine ⟨?_, opd_rel hL hk2 h1⟩
      split at hk1
      · rename_i f hf
        simp only [Bool.and_eq_true, beq_iff_eq] at hk1
        exact ⟨f, hf, hk1.1, hk1.2⟩
      · cases hk1
    | succ m => exact r2 m p q (by simpa using hp) (by simpa using hq)

theorem mapM_places {fs : Array Field} (hs : ∀ (i : Nat) (f : Field), fs[i]? = some f → (sizeB P f.type).isSome = true) :
    (fs.mapM (m := Sem) fun f => do pure (f.offset, ← sizeOf f.type)).run P w = .ok (fs.map fun f => (f.offset, (sizeB P f.type).getD 0)) w := by
  obtain ⟨l⟩ := fs
  rw [List.mapM_toArray]
  have key : ∀ (l : List Field), (∀ f ∈ l, (sizeB P f.type).isSome = true) → (l.mapM (m := Sem) fun f => do pure (f.offset, ← sizeOf f.type)).run P w = .ok (l.map fun f => (f.offset, (sizeB P f.type).getD 0)) w := by
    intro l
    induction l with
    | nil => intro _; simp
    | cons f l ih =>
      intro h
      obtain ⟨n, hn⟩ := Option.isSome_iff_exists.1 (h f (by simp))
      have ih := ih fun g hg => h g (by simp [hg])
      simp only [List.mapM_cons, Sem.run_bind, run_sizeOf_of hn, Result.andThen_ok, Sem.run_pure, ih, List.map_cons, hn, Option.getD_some]
  have hk := key l fun f hf => by
    obtain ⟨i, hi⟩ := List.getElem?_of_mem hf
    exact hs i f (by simpa using hi)
  simp only [Sem.run_map, hk, Result.andThen_ok, List.map_toArray]
theorem val_build (hL : LSim ι j own lb N e a w) {o : Oper} {t : TypeId} {ps : Array (Nat × Operand)} {z : List D} {qs : List (Nat × Nat × AOpd)} {fs : List Field} {zs : List Value} (ho : o.op = .build t ps)
    (hz : zeroB P t = some zs) (hzr : okConsts z zs = true) (hf : fieldsB P t = some fs) (hall : fs.all (fun f => (sizeB P f.type).isSome) = true) (hk : okParts P fs ps.toList qs = true) {v : Val}
    (h : evalV (.build z qs) e σ = some v) : ∃ u, (execOp a.eval o).run P w = .ok (.value u) w ∧ ValRel ι j lb v u := by
  simp only [evalV] at h
  obtain ⟨rs, h1, h⟩ := bindO_some h
  obtain ⟨cs', h2, h⟩ := bindO_some h
  cases h
  obtain ⟨p1, p2⟩ := partsOf_rel hL hk h1
  obtain ⟨zv, hzrun, hzc⟩ := zeroB_run (P := P) (w := w) hz
  obtain ⟨z1, z2⟩ := okConsts_rep ι j z zs hzr
  have hu := fieldsB_eq hf
  have hpl := mapM_places (P := P) (w := w) (fs := ⟨fs⟩) (fun i f hi => List.all_eq_true.1 hall f (List.mem_of_getElem? (by simpa using hi)))
  generalize hplaces : ((⟨fs⟩ : Array Field).map fun f => (f.offset, (sizeB P f.type).getD 0)) = places at hpl
  obtain ⟨r, k1, k2, k3⟩ := fill_rel (ι := ι) (j := j) (place := fun i => places[i]?) ((ps.toList.map fun p => (p.1, a.eval p.2))) rs zs z cs' (by simpa using p1) (fun n p q hp hq => by
    rw [List.getElem?_map] at hp
    cases hpo : ps.toList[n]? with
    | none => rw [hpo] at hp; cases hp
    | some po =>
      rw [hpo] at hp
      simp at hp
      subst hp
      obtain ⟨⟨f, f1, f2, f3⟩, f4⟩ := p2 n po q hpo hq
      refine ⟨?_, f4⟩
      rw [← hplaces]
      simp only [Array.getElem?_map, List.getElem?_toArray, f1, Option.map_some, f2, f3, Option.getD_some]) z1 z2 h2
  refine ⟨.agg ⟨r⟩, ?_, by simp only [ValRel, Rep]; exact ⟨r, rfl, k2, k3⟩⟩
  have hmap : (ps.map fun (i, x) => (i, a.eval x)).toList = ps.toList.map fun p => (p.1, a.eval p.2) := by
    rw [Array.toList_map]
  simp only [execOp, ho, Instr.build, Sem.run_bind, hzrun, Result.andThen_ok, hzc, run_underlying hu, hpl]
  rw [hmap, k1]
  rfl
theorem bytesOf_rel : ∀ {es : List D} {s : List UInt8}, bytesOf es = some s → s.length = es.length ∧ ∀ (i : Nat) (b : UInt8), s[i]? = some b → es[i]? = some (.int .u8 b.toNat)
  | [], s, h => by
    simp only [bytesOf, Option.some.injEq] at h
    subst h
    exact ⟨rfl, fun i b h => by simp at h⟩
  | d :: es, s, h => by
    cases d with
    | int k n =>
      cases k <;> simp only [bytesOf, reduceCtorEq] at h
      obtain ⟨h1, h⟩ := ifB_some h
      obtain ⟨s', h2, h⟩ := bindO_some h
      cases h
      obtain ⟨k1, k2⟩ := bytesOf_rel h2
      simp only [Bool.and_eq_true, decide_eq_true_eq] at h1
      refine ⟨by simp [k1], fun i b hi => ?_⟩
      cases i with
      | zero =>
        simp at hi
        subst hi
        have : ((UInt8.ofNat n.toNat).toNat : Int) = n := by
          simp only [UInt8.toNat_ofNat']
          omega
        simp only [List.getElem?_cons_zero, this]
      | succ i => simpa using k2 i b (by simpa using hi)
    | _ => simp only [bytesOf, reduceCtorEq] at h
theorem val_bytesToStr (hG : GSim ι j own σ w) (hL : LSim ι j own lb N e a w) {o : Oper} {s t el : TypeId} {x : Operand} {y : AOpd} (ho : o.op = .convert s t x) (hk : okOpd x y = true) (hs : P.underlying s = some (.slice el)) (he : P.underlying el = some (.int .u8)) (ht : P.underlying t = some .string) {v : Val}
    (h : evalV (.bytesToStr y) e σ = some v) : ∃ u, (execOp a.eval o).run P w = .ok (.value u) w ∧ ValRel ι j lb v u := by
  simp only [evalV] at h
  obtain ⟨c, h1, h⟩ := bindO_some h
  obtain ⟨es, h2, h⟩ := bindO_some h
  obtain ⟨l, h3, h⟩ := bindO_some h
  cases h
  obtain ⟨b1, b2⟩ := bytesOf_rel h3
  have hr := opd_rel hL hk h1
  refine ⟨.string ⟨⟨l⟩⟩, ?_, by simp only [ValRel, Rep]⟩
  have fin : (convert s t (a.eval x)).run P w = .ok (.string ⟨⟨l⟩⟩) w := by
    cases hd : c.d <;> rw [hd] at h2 hr <;> simp only [asList, reduceCtorEq, Option.some.injEq] at h2 <;> subst h2 <;> simp only [Rep] at hr
    · have hl0 : l = [] := List.eq_nil_of_length_eq_zero (by simpa using b1)
      subst hl0
      rw [hr, run_convert_bytes_string w s t el none 0 0 hs he ht]
      rfl
    · rename_i sz es
      obtain ⟨ad, cap, hv, _, _, h4⟩ := hr
      rw [hv]
      rcases h4 with rfl | ⟨b, o', rfl, hrow⟩
      · have hl0 : l = [] := List.eq_nil_of_length_eq_zero (by simpa using b1)
        subst hl0
        rw [run_convert_bytes_string w s t el ad _ cap hs he ht]
        cases ad with
        | none => rfl
        | some ad =>
          have := run_bytesToString (P := P) w ad 0 cap [] (run_loadCells_list (P := P) w ad [] (by simp))
          exact this
      · rw [← b1]
        refine run_convert_bytes_back w s t el ⟨b, o', none⟩ cap l hs he ht (fun i hi => ?_)
        have hb := b2 i l[i] (List.getElem?_eq_getElem hi)
        have hsz : ∀ (i : Nat) (b : UInt8), l[i]? = some b → sz.sz = 1 := by
          intro i b hb
          obtain ⟨u, _, q2, q3⟩ := hrow.at i _ (b2 i b hb)
          simp only [Rep] at q3
          subst q3
          exact q2.symm
        have hsz1 := hsz i l[i] (List.getElem?_eq_getElem hi)
        rw [hsz1] at hrow
        obtain ⟨u, q1, q2, q3⟩ := hrow.at i _ hb
        simp only [Rep] at q3
        subst q3
        rw [Addr.add_lit]
        refine hG.holds _ _ _ ?_
        have := q1 0 (.int .u8 l[i].toNat) rfl
        simpa using this
  simp only [execOp, ho, Sem.run_bind, fin, Result.andThen_ok, Sem.run_pure]
end
end Go.Mx

/-
  What a step leaves of the machine's state and the world's: slots, boxes, marks.
-/
namespace Go.Mx
open Go

theorem getD_put_same {a : Go.Act} {s : Nat} {x : Value} (h : s < a.tmps.size) : (a.put (some s) x).tmps.getD s Go.undef = x := by
  simp [Act.put, Array.getD, h]
theorem getD_put_other {a : Go.Act} {s t : Nat} {x : Value} (h : s ≠ t) : (a.put (some s) x).tmps.getD t Go.undef = a.tmps.getD t Go.undef := by
  simp only [Act.put, Array.getD_eq_getD_getElem?]
  rw [Array.getElem?_setIfInBounds_ne h]
theorem size_put {a : Go.Act} {d : Option Nat} {x : Value} : (a.put d x).tmps.size = a.tmps.size := by
  cases d <;> simp [Act.put]
theorem defers_put {a : Go.Act} {d : Option Nat} {x : Value} : (a.put d x).defers = a.defers := by
  cases d <;> rfl

/-- The same data, no more marks. -/
def Weaker (cs cs0 : List Cell) : Prop := cs.length = cs0.length ∧ ∀ (i : Nat) (c : Cell), cs[i]? = some c → ∃ c0, cs0[i]? = some c0 ∧ c0.d = c.d ∧ (c.own = true → c0.own = true)
theorem Weaker.refl (cs : List Cell) : Weaker cs cs := ⟨rfl, fun _ c h => ⟨c, h, rfl, id⟩⟩
section
variable {P : Program} {ι ι' : Imm} {j j' : Lay} {own own' : Own} {lb : Lay} {N : Nat} {e : Env} {a : Go.Act} {w w' : World} {σ : Store} {TT : Tag → Prop}
theorem CellRel.weaken {t : Tag} {c c0 : Cell} {v : Value} (h : CellRel ι j own w t c0 v) (hd : c0.d = c.d) (ho : c.own = true → c0.own = true) : CellRel ι j own w t c v :=
  ⟨hd ▸ h.1, fun x => hd ▸ h.2 (ho x)⟩
theorem BoxRel.weaken {b : Nat} {mk : Nat → Tag} {cs cs0 : List Cell} (h : BoxRel ι j own w b mk cs0) (hw : Weaker cs cs0) : BoxRel ι j own w b mk cs := by
  obtain ⟨vs, T, h1, h2, h3⟩ := h
  refine ⟨vs, T, h1, h2.trans hw.1.symm, fun i c hi => ?_⟩
  obtain ⟨c0, k1, k2, k3⟩ := hw.2 i c hi
  obtain ⟨v, q1, q2, q3⟩ := h3 i c0 k1
  exact ⟨v, q1, q2, q3.weaken k2 k3⟩
theorem LSim.sub {e' : Env} (hL : LSim ι j own lb N e a w) (h1 : ∀ s c, aget e'.slots s = some c → ∃ c0, aget e.slots s = some c0 ∧ c0.d = c.d ∧ (c.own = true → c0.own = true))
    (h2 : ∀ s p, aget e'.locs s = some p → aget e.locs s = some p) (h3 : ∀ s cs, aget e'.boxes s = some cs → ∃ cs0, aget e.boxes s = some cs0 ∧ Weaker cs cs0) (h4 : e'.defers = e.defers) : LSim ι j own lb N e' a w where
  size := hL.size
  slots := fun s c h => by
    obtain ⟨c0, k1, k2, k3⟩ := h1 s c h
    exact (hL.slots s c0 k1).weaken k2 k3
  locs := fun s b o h => hL.locs s b o (h2 s _ h)
  boxes := fun s cs h => by
    obtain ⟨cs0, k1, k2⟩ := h3 s cs h
    obtain ⟨B, q1, q2, q3⟩ := hL.boxes s cs0 k1
    exact ⟨B, q1, q2, q3.weaken k2⟩
  defers := h4 ▸ hL.defers
theorem LSim.evo (h : Evo ι j own w ι' j' own' w' TT) (hL : LSim ι j own lb N e a w) (hs : ∀ s c, aget e.slots s = some c → c.own = true → ¬ TT (.slot s))
    (hb : ∀ s cs, aget e.boxes s = some cs → ¬ TT (.box s) ∧ ∀ (i : Nat) (c : Cell), cs[i]? = some c → c.own = true → ¬ TT (.cell s i)) : LSim ι' j' own' lb N e a w' where
  size := hL.size
  slots := fun s c k => h.cellRel (hs s c k) (hL.slots s c k)
  locs := hL.locs
  boxes := fun s cs k => by
    obtain ⟨B, q1, q2, q3⟩ := hL.boxes s cs k
    obtain ⟨hb1, hb2⟩ := hb s cs k
    have hlt : B < w.heap.size := by
      obtain ⟨vs, T, h1, _⟩ := q3
      exact (Array.getElem?_eq_some_iff.1 h1).1
    exact ⟨B, q1, (h.block B hlt (fun t x => by rw [q2] at x; cases x; exact hb1)).2.1.trans q2, h.boxRel q2 hb1 hb2 q3⟩
  defers := h.defRel _ _ hL.defers
theorem GSim.evo (h : Evo ι j own w ι' j' own' w' TT) (hG : GSim ι j own σ w) (hh : ∀ b o v, ι' b o = some v → w'.cell? ⟨b, o, none⟩ = some v) (hn : ∀ b t, own' b = some t → t.isBox = true → ∀ o, ι' b o = none)
    (hl : ∀ b t, own' b = some t → b < w'.heap.size) (hj : ∀ id b, j' id = some b → id < σ.next)
    (hb : ∀ id cs, aget σ.objs id = some cs → ¬ TT (.obj id) ∧ ∀ (i : Nat) (c : Cell), cs[i]? = some c → c.own = true → ¬ TT (.ocell id i)) (hi : ∀ id x, aget σ.iters id = some x → ¬ TT (.obj id)) : GSim ι' j' own' σ w' where
  holds := hh
  noimm := hn
  objs := fun id cs k => by
    obtain ⟨B, q1, q2, q3⟩ := hG.objs id cs k
    obtain ⟨hb1, hb2⟩ := hb id cs k
    have hlt : B < w.heap.size := by
      obtain ⟨vs, T, h1, _⟩ := q3
      exact (Array.getElem?_eq_some_iff.1 h1).1
    exact ⟨B, h.lay _ _ q1, (h.block B hlt (fun t x => by rw [q2] at x; cases x; exact hb1)).2.1.trans q2, h.boxRel q2 hb1 hb2 q3⟩
  tys := fun id t cs h1 h2 b hjb => by
    obtain ⟨B, q1, q2, q3⟩ := hG.objs id cs h2
    have hB := h.lay _ _ q1
    rw [hjb] at hB
    cases hB
    obtain ⟨row, hrow⟩ := hG.tys id t cs h1 h2 b q1
    have hlt : b < w.heap.size := (Array.getElem?_eq_some_iff.1 hrow).1
    exact ⟨row, (h.block b hlt (fun t' x => by rw [q2] at x; cases x; exact (hb id cs h2).1)).1.trans hrow⟩
  iters := fun id s pos k => by
    obtain ⟨B, q1, q2, q3⟩ := hG.iters id s pos k
    have hlt : B < w.heap.size := (Array.getElem?_eq_some_iff.1 q3).1
    obtain ⟨b1, b2, _⟩ := h.block B hlt (fun t x => by rw [q2] at x; cases x; exact hi id _ k)
    exact ⟨B, h.lay _ _ q1, b2.trans q2, b1.trans q3⟩
  jlt := hj
  ownlt := hl
theorem LSim.putC (hL : LSim ι j own lb N e a w) {s : Nat} (hs : s < N) {c : Cell} {x : Value} (hc : CellRel ι j own w (.slot s) c x) : LSim ι j own lb N (e.put (some s) c) (a.put (some s) x) w where
  size := by rw [size_put]; exact hL.size
  slots := fun t c' h => by
    simp only [Env.put, aget_aset] at h
    by_cases hst : s = t
    · subst hst
      rw [if_pos rfl] at h
      cases h
      rw [getD_put_same (by rw [hL.size]; exact hs)]
      exact hc
    · rw [if_neg hst] at h
      rw [getD_put_other hst]
      exact hL.slots t c' h
  locs := fun t b o h => by
    simp only [Env.put, aget_adel1] at h
    by_cases hst : s = t
    · rw [if_pos hst] at h; cases h
    · rw [if_neg hst] at h
      rw [getD_put_other hst]
      exact hL.locs t b o h
  boxes := hL.boxes
  defers := by rw [defers_put]; exact hL.defers
theorem LSim.putNone (hL : LSim ι j own lb N e a w) (c : Cell) (x : Value) : LSim ι j own lb N (e.put none c) (a.put none x) w := hL
theorem LSim.putL (hL : LSim ι j own lb N e a w) {s : Nat} (hs : s < N) {b off B : Nat} (hB : lb b = some B) : LSim ι j own lb N (e.putV (some s) (.l b off)) (a.put (some s) (.pointer (some ⟨B, off, none⟩))) w where
  size := by rw [size_put]; exact hL.size
  slots := fun t c' h => by
    simp only [Env.putV, aget_adel1] at h
    by_cases hst : s = t
    · rw [if_pos hst] at h; cases h
    · rw [if_neg hst] at h
      rw [getD_put_other hst]
      exact hL.slots t c' h
  locs := fun t b' o h => by
    simp only [Env.putV, aget_aset] at h
    by_cases hst : s = t
    · subst hst
      rw [if_pos rfl] at h
      cases h
      exact ⟨B, hB, getD_put_same (by rw [hL.size]; exact hs)⟩
    · rw [if_neg hst] at h
      rw [getD_put_other hst]
      exact hL.locs t b' o h
  boxes := hL.boxes
  defers := by rw [defers_put]; exact hL.defers
theorem LSim.addBox (hL : LSim ι j own lb N e a w) {s B : Nat} {cs : List Cell} (h1 : lb s = some B) (h2 : own B = some (.box s)) (h3 : BoxRel ι j own w B (.cell s) cs) : LSim ι j own lb N { e with boxes := aset e.boxes s cs } a w where
  size := hL.size
  slots := hL.slots
  locs := hL.locs
  boxes := fun t cs' h => by
    simp only [aget_aset] at h
    by_cases hst : s = t
    · subst hst
      rw [if_pos rfl] at h
      cases h
      exact ⟨B, h1, h2, h3⟩
    · rw [if_neg hst] at h
      exact hL.boxes t cs' h
  defers := hL.defers
/-- A box made anew for a slot. -/
theorem LSim.newBox (hL : LSim ι j own lb N e a w) {s B : Nat} (hs : s < N) {cs : List Cell} (h2 : own B = some (.box s)) (h3 : BoxRel ι j own w B (.cell s) cs) :
    LSim ι j own (fun t => if t = s then some B else lb t) N (e.box s cs) (a.put (some s) (.pointer (some ⟨B, 0, none⟩))) w where
  size := by rw [size_put]; exact hL.size
  slots := fun t c' h => by
    simp only [Env.box, aget_adel1] at h
    by_cases hst : s = t
    · rw [if_pos hst] at h; cases h
    · rw [if_neg hst] at h
      rw [getD_put_other hst]
      exact hL.slots t c' h
  locs := fun t b o h => by
    simp only [Env.box, aget_aset] at h
    by_cases hst : s = t
    · subst hst
      rw [if_pos rfl] at h
      cases h
      exact ⟨B, if_pos rfl, getD_put_same (by rw [hL.size]; exact hs)⟩
    · rw [if_neg hst] at h
      obtain ⟨k1, k2⟩ := aget_lkill _ _ _ _ _ h
      rw [getD_put_other hst]
      obtain ⟨B', q1, q2⟩ := hL.locs t b o k2
      exact ⟨B', by rw [if_neg k1]; exact q1, q2⟩
  boxes := fun t cs' h => by
    simp only [Env.box, aget_aset] at h
    by_cases hst : s = t
    · subst hst
      rw [if_pos rfl] at h
      cases h
      exact ⟨B, if_pos rfl, h2, h3⟩
    · rw [if_neg hst] at h
      obtain ⟨B', q1, q2, q3⟩ := hL.boxes t cs' h
      exact ⟨B', by rw [if_neg (fun x => hst x.symm)]; exact q1, q2, q3⟩
  defers := by rw [defers_put]; exact hL.defers

/-! ### Marks that are dropped -/
theorem drop_sub (x : AOpd) : ∀ s c, aget (x.drop e).slots s = some c → ∃ c0, aget e.slots s = some c0 ∧ c0.d = c.d ∧ (c.own = true → c0.own = true) := by
  intro s c h
  cases x with
  | mv t =>
    simp only [AOpd.drop] at h
    cases ht : aget e.slots t with
    | none => rw [ht] at h; exact ⟨c, h, rfl, id⟩
    | some c1 =>
      rw [ht] at h
      simp only [caseO_some, aget_aset] at h
      by_cases hts : t = s
      · subst hts
        rw [if_pos rfl] at h
        cases h
        exact ⟨c1, ht, rfl, fun h => by cases h⟩
      · rw [if_neg hts] at h
        exact ⟨c, h, rfl, id⟩
  | tmp t => exact ⟨c, h, rfl, id⟩
  | const d => exact ⟨c, h, rfl, id⟩
theorem drop_rest (x : AOpd) : (x.drop e).locs = e.locs ∧ (x.drop e).boxes = e.boxes ∧ (x.drop e).defers = e.defers := by
  cases x with
  | mv t =>
    simp only [AOpd.drop]
    cases aget e.slots t <;> exact ⟨rfl, rfl, rfl⟩
  | _ => exact ⟨rfl, rfl, rfl⟩
theorem LSim.drop (hL : LSim ι j own lb N e a w) (x : AOpd) : LSim ι j own lb N (x.drop e) a w := by
  obtain ⟨h1, h2, h3⟩ := drop_rest (e := e) x
  exact hL.sub (drop_sub x) (fun s p h => by rw [h1] at h; exact h) (fun s cs h => by rw [h2] at h; exact ⟨cs, h, Weaker.refl cs⟩) h3
/-- Behind the drop of a slot's mark nothing claims it. -/
theorem drop_free {s : Nat} {t : Nat} {c : Cell} (h : aget ((AOpd.mv s).drop e).slots t = some c) (ho : c.own = true) (hs : (aget e.slots s).isSome = true) : t ≠ s := by
  intro hts
  subst hts
  simp only [AOpd.drop] at h
  obtain ⟨c1, h1⟩ := Option.isSome_iff_exists.1 hs
  rw [h1] at h
  simp only [caseO_some, aget_aset, if_true] at h
  cases h
  cases ho

/-- A mark goes over to another bearer. -/
theorem retag {t t' : Tag} (hb : t.isBox = false) (hb' : t'.isBox = false) (hG : GSim ι j own σ w) (hL : LSim ι j own lb N e a w)
    (f1 : ∀ s c, aget e.slots s = some c → c.own = true → Tag.slot s ≠ t) (f2 : ∀ s cs, aget e.boxes s = some cs → ∀ (i : Nat) (c : Cell), cs[i]? = some c → c.own = true → Tag.cell s i ≠ t)
    (f3 : ∀ id cs, aget σ.objs id = some cs → ∀ (i : Nat) (c : Cell), cs[i]? = some c → c.own = true → Tag.ocell id i ≠ t)
    {d : D} {x : Value} (ho : Owned ι own w t d x) : ∃ own', GSim ι j own' σ w ∧ LSim ι j own' lb N e a w ∧ Owned ι own' w t' d x ∧ Evo ι j own w ι j own' w (fun u => u = t) := by
  classical
  let own' : Own := fun b => if own b = some t then some t' else own b
  have hE : Evo ι j own w ι j own' w (fun u => u = t) :=
    ⟨rfl, rfl, rfl, Nat.le_refl _, fun _ _ _ h => h, fun _ _ h => h, fun b _ ht => ⟨rfl, if_neg (fun h => ht t h rfl), fun _ => rfl⟩⟩
  have hown : ∀ b u, own' b = some u → u.isBox = true → own b = some u := by
    intro b u h hu
    by_cases hbt : own b = some t
    · simp only [own', if_pos hbt, Option.some.injEq] at h
      subst h
      rw [hb'] at hu
      cases hu
    · simpa only [own', if_neg hbt] using h
  refine ⟨own', hG.evo hE hG.holds (fun b u h hu => hG.noimm b u (hown b u h hu) hu) (fun b u h => ?_) hG.jlt (fun id cs h => ⟨fun k => by (subst k; cases hb), f3 id cs h⟩) (fun id x _ k => by (subst k; cases hb)),
    hL.evo hE (fun s c h k => f1 s c h k) (fun s cs h => ⟨fun k => by (subst k; cases hb), f2 s cs h⟩), ?_, hE⟩
  · by_cases hbt : own b = some t
    · exact hG.ownlt b t hbt
    · exact hG.ownlt b u (by simpa only [own', if_neg hbt] using h)
  · unfold Owned at ho ⊢
    cases hp : prin d x with
    | none => trivial
    | some p =>
      rw [hp] at ho
      rcases ho with ho | ⟨b, cap, cur, T, h1, h2, h3, h4, h5⟩
      · exact .inl ho
      · exact .inr ⟨b, cap, cur, T, h1, if_pos h2, h3, h4, h5⟩
end
end Go.Mx

/-
  The operations that make or write memory: new boxes, stores.
-/
namespace Go.Mx
open Go
section
variable {P : Program} {ι : Imm} {j : Lay} {own : Own} {lb : Lay} {N : Nat} {e : Env} {a : Go.Act} {w : World} {σ : Store}

/-- What comes of an operation that does not call. -/
def Did (P : Program) (N : Nat) (ι : Imm) (j : Lay) (own : Own) (w : World) (o : Oper) (a : Go.Act) (e' : Env) (σ' : Store) : Prop :=
  ∃ nx w' a', (execOp a.eval o).run P w = .ok nx w' ∧
    ((∃ v, nx = .value v ∧ a' = a.put o.dst v) ∨ (nx = .skip ∧ a' = a.put o.dst Go.undef) ∨ (∃ d, nx = .defer d ∧ a' = ({ a with defers := d :: a.defers } : Go.Act).put o.dst Go.undef)) ∧
    ∃ ι' j' own' lb', GSim ι' j' own' σ' w' ∧ LSim ι' j' own' lb' N e' a' w' ∧ Evo ι j own w ι' j' own' w' (fun _ => True)

theorem newBlock_evo (_hG : GSim ι j own σ w) (ob : Obj) (t : Tag) : Evo ι j own w ι j (fun b => if b = w.heap.size then some t else own b) (w.alloc ob) (fun _ => False) where
  os := rfl
  tape := rfl
  output := rfl
  size := by simp
  imm := fun _ _ _ h => h
  lay := fun _ _ h => h
  block := fun b hb _ => ⟨heap_alloc_old w ob hb, if_neg (by omega), fun _ => rfl⟩
theorem imm_lt (hG : GSim ι j own σ w) {b o : Nat} {v : Value} (h : ι b o = some v) : b < w.heap.size := World.block_lt_of_cell? w ⟨b, o, none⟩ (hG.holds b o v h)
theorem newBlock_gsim (hG : GSim ι j own σ w) (ob : Obj) (t : Tag) : GSim ι j (fun b => if b = w.heap.size then some t else own b) σ (w.alloc ob) := by
  refine hG.evo (newBlock_evo hG ob t) (fun b o v h => ?_) (fun b u h hu o => ?_) (fun b u h => ?_) hG.jlt (fun _ _ _ => ⟨fun h => h, fun _ _ _ _ h => h⟩) (fun _ _ _ h => h)
  · have hlt := imm_lt hG h
    have := hG.holds b o v h
    rw [World.cell?_alloc_past ob b o hlt]
    exact this
  · by_cases hb : b = w.heap.size
    · cases hi : ι b o with
      | none => rfl
      | some v => have := imm_lt hG hi; omega
    · rw [if_neg hb] at h
      exact hG.noimm b u h hu o
  · by_cases hb : b = w.heap.size
    · subst hb; simp
    · rw [if_neg hb] at h
      have := hG.ownlt b u h
      simp
      omega
theorem newBlock_lsim (hG : GSim ι j own σ w) (hL : LSim ι j own lb N e a w) (ob : Obj) (t : Tag) : LSim ι j (fun b => if b = w.heap.size then some t else own b) lb N e a (w.alloc ob) :=
  hL.evo (newBlock_evo hG ob t) (fun _ _ _ _ h => h) (fun _ _ _ => ⟨fun h => h, fun _ _ _ _ h => h⟩)
/-- Cells that are laid, without marks. -/
theorem boxRel_new {own' : Own} {w' : World} {B : Nat} {T : TypeId} {mk : Nat → Tag} {ds : List D} {vs : List Value} (hh : w'.heap[B]? = some (.cells ⟨vs⟩ T (0, 0))) (hr : RepL ι j ds vs) (h1 : ∀ x ∈ vs, x.oneCell' = true) :
    BoxRel ι j own' w' B mk (ds.map Cell.of) := by
  refine ⟨vs, T, hh, by rw [hr.length, List.length_map], fun i c hi => ?_⟩
  rw [List.getElem?_map] at hi
  cases hd : ds[i]? with
  | none => rw [hd] at hi; cases hi
  | some d =>
    rw [hd] at hi
    simp at hi
    subst hi
    obtain ⟨v, hv, hrv⟩ := hr.at i d hd
    exact ⟨v, hv, h1 v (List.mem_of_getElem? hv), hrv, fun h => by cases h⟩
theorem step_newBox (hG : GSim ι j own σ w) (hL : LSim ι j own lb N e a w) {o : Oper} {s : Nat} (hd : o.dst = some s) (hs : s < N) {T : TypeId} {ds : List D} {vs : List Value} (hr : RepL ι j ds vs) (h1 : ∀ x ∈ vs, x.oneCell' = true)
    (hrun : (execOp a.eval o).run P w = .ok (.value (.pointer (some ⟨w.heap.size, 0, none⟩))) (w.alloc (.cells ⟨vs⟩ T))) : Did P N ι j own w o a (e.box s (ds.map Cell.of)) σ := by
  refine ⟨_, _, _, hrun, .inl ⟨_, rfl, rfl⟩, ι, j, _, (fun t => if t = s then some w.heap.size else lb t), newBlock_gsim hG _ (.box s), ?_, (newBlock_evo hG _ (.box s)).weaken (fun _ h => h.elim)⟩
  rw [hd]
  exact (newBlock_lsim hG hL _ (.box s)).newBox hs (if_pos rfl) (boxRel_new (heap_alloc_new w _) hr h1)
theorem step_alloc (hG : GSim ι j own σ w) (hL : LSim ι j own lb N e a w) {o : Oper} {t : TypeId} {z : List D} {zs : List Value} {s : Nat} (ho : o.op = .alloc t) (hd : o.dst = some s) (hs : s < N) (hz : zeroB P t = some zs) (hzr : okConsts z zs = true) :
    Did P N ι j own w o a (e.box s (z.map Cell.of)) σ := by
  obtain ⟨zv, hzrun, hzc⟩ := zeroB_run (P := P) (w := w) hz
  obtain ⟨z1, z2⟩ := okConsts_rep ι j z zs hzr
  refine step_newBox hG hL hd hs (T := t) z1 z2 ?_
  simp only [execOp, ho, Instr.alloc, Sem.run_bind, hzrun, Result.andThen_ok, newVar, newRow, run_newObj, Sem.run_pure, hzc]
  rfl
theorem step_box (hG : GSim ι j own σ w) (hL : LSim ι j own lb N e a w) {o : Oper} {t : TypeId} {x : Operand} {y : AOpd} {c : Cell} {s : Nat} (ho : o.op = .box t x) (hd : o.dst = some s) (hs : s < N) (hk : okOpd x y = true) (hc : opd e y = some c) (hok : c.d.ok = true) :
    Did P N ι j own w o a (e.box s (c.d.cells.map Cell.of)) σ := by
  obtain ⟨r1, r2⟩ := (opd_rel hL hk hc).cellsRel hok
  refine step_newBox hG hL hd hs (T := t) r1 r2 ?_
  simp only [execOp, ho, Instr.box, Sem.run_bind, newVar, newRow, run_newObj, Sem.run_pure, Result.andThen_ok]
  rfl
/-- A new object of the store. -/
theorem step_newObj (hG : GSim ι j own σ w) (hL : LSim ι j own lb N e a w) {o : Oper} (hs : ∀ s, o.dst = some s → s < N) {T : TypeId} {ds : List D} {vs : List Value} (hr : RepL ι j ds vs) (h1 : ∀ x ∈ vs, x.oneCell' = true)
    (hrun : (execOp a.eval o).run P w = .ok (.value (.pointer (some ⟨w.heap.size, 0, none⟩))) (w.alloc (.cells ⟨vs⟩ T))) :
    Did P N ι j own w o a (e.put o.dst ⟨false, .ptr σ.next 0⟩) { objs := (σ.next, ds.map Cell.of) :: σ.objs, tys := (σ.next, T) :: σ.tys, iters := σ.iters, next := σ.next + 1 } := by
  classical
  let j' : Lay := fun i => if i = σ.next then some w.heap.size else j i
  have hjn : ∀ i b, j i = some b → i ≠ σ.next := fun i b h e => by have := hG.jlt i b h; omega
  have hE0 := newBlock_evo hG (.cells ⟨vs⟩ T) (.obj σ.next)
  have hE : Evo ι j own w ι j' (fun b => if b = w.heap.size then some (.obj σ.next) else own b) (w.alloc (.cells ⟨vs⟩ T)) (fun _ => False) :=
    ⟨hE0.os, hE0.tape, hE0.output, hE0.size, hE0.imm, fun i b h => by simp only [j', if_neg (hjn i b h)]; exact h, hE0.block⟩
  have hG0 := newBlock_gsim hG (.cells ⟨vs⟩ T) (.obj σ.next)
  have hr' : RepL ι j' ds vs := hE.repL hr
  have hG' : GSim ι j' (fun b => if b = w.heap.size then some (.obj σ.next) else own b) { objs := (σ.next, ds.map Cell.of) :: σ.objs, tys := (σ.next, T) :: σ.tys, iters := σ.iters, next := σ.next + 1 } (w.alloc (.cells ⟨vs⟩ T)) := by
    have hlt' : ∀ id b, j id = some b → aget σ.tys id = aget ((σ.next, T) :: σ.tys) id := fun id b h => by
      rw [aget_cons, if_neg (fun e => hjn id b h e.symm)]
    refine ⟨hG0.holds, hG0.noimm, fun id cs h => ?_, fun id t cs h1 h2 b hb => ?_, fun id s pos h => ?_, fun id b h => ?_, hG0.ownlt⟩
    · simp only [aget_cons] at h
      by_cases hid : σ.next = id
      · rw [if_pos hid] at h
        cases h
        subst hid
        exact ⟨w.heap.size, if_pos rfl, if_pos rfl, boxRel_new (heap_alloc_new w _) hr' h1⟩
      · rw [if_neg hid] at h
        obtain ⟨B, q1, q2, q3⟩ := hG.objs id cs h
        have hlt := hG.ownlt B _ q2
        exact ⟨B, hE.lay _ _ q1, by rw [if_neg (by omega)]; exact q2, hE.boxRel q2 (fun h => h) (fun _ _ _ _ h => h) q3⟩
    · simp only [aget_cons] at h1 h2
      by_cases hid : σ.next = id
      · rw [if_pos hid] at h1
        cases h1
        subst hid
        simp only [j', if_pos rfl, Option.some.injEq] at hb
        subst hb
        exact ⟨_, heap_alloc_new w _⟩
      · rw [if_neg hid] at h1 h2
        simp only [j', if_neg (fun e => hid (Eq.symm e))] at hb
        obtain ⟨row, hrow⟩ := hG.tys id t cs h1 h2 b hb
        exact ⟨row, (heap_alloc_old w _ (Array.getElem?_eq_some_iff.1 hrow).1).trans hrow⟩
    · obtain ⟨B, q1, q2, q3⟩ := hG.iters id s pos h
      have hlt := hG.ownlt B _ q2
      exact ⟨B, hE.lay _ _ q1, by rw [if_neg (by omega)]; exact q2, (heap_alloc_old w _ hlt).trans q3⟩
    · by_cases hid : id = σ.next
      · simp only; omega
      · simp only [j', if_neg hid] at h
        have := hG.jlt id b h
        simp only; omega
  refine ⟨_, _, _, hrun, .inl ⟨_, rfl, rfl⟩, ι, j', _, lb, hG', ?_, hE.weaken (fun _ h => h.elim)⟩
  have hL' := hL.evo hE (fun _ _ _ _ h => h) (fun _ _ _ => ⟨fun h => h, fun _ _ _ _ h => h⟩)
  cases hd : o.dst with
  | none => exact hL'
  | some s =>
    exact hL'.putC (hs s hd) ⟨by simp only [Rep]; exact ⟨w.heap.size, if_pos rfl, rfl⟩, fun h => by cases h⟩
theorem step_galloc (hG : GSim ι j own σ w) (hL : LSim ι j own lb N e a w) {o : Oper} {t : TypeId} {z : List D} {zs : List Value} (ho : o.op = .alloc t) (hs : ∀ s, o.dst = some s → s < N) (hz : zeroB P t = some zs) (hzr : okConsts z zs = true) :
    Did P N ι j own w o a (e.put o.dst ⟨false, .ptr σ.next 0⟩) { objs := (σ.next, z.map Cell.of) :: σ.objs, tys := (σ.next, t) :: σ.tys, iters := σ.iters, next := σ.next + 1 } := by
  obtain ⟨zv, hzrun, hzc⟩ := zeroB_run (P := P) (w := w) hz
  obtain ⟨z1, z2⟩ := okConsts_rep ι j z zs hzr
  refine step_newObj hG hL hs (T := t) z1 z2 ?_
  simp only [execOp, ho, Instr.alloc, Sem.run_bind, hzrun, Result.andThen_ok, newVar, newRow, run_newObj, Sem.run_pure, hzc]
  rfl
theorem step_gbox (hG : GSim ι j own σ w) (hL : LSim ι j own lb N e a w) {o : Oper} {t : TypeId} {x : Operand} {y : AOpd} {c : Cell} (ho : o.op = .box t x) (hs : ∀ s, o.dst = some s → s < N) (hk : okOpd x y = true) (hc : opd e y = some c) (hok : c.d.ok = true) :
    Did P N ι j own w o a (e.put o.dst ⟨false, .ptr σ.next 0⟩) { objs := (σ.next, c.d.cells.map Cell.of) :: σ.objs, tys := (σ.next, t) :: σ.tys, iters := σ.iters, next := σ.next + 1 } := by
  obtain ⟨r1, r2⟩ := (opd_rel hL hk hc).cellsRel hok
  refine step_newObj hG hL hs (T := t) r1 r2 ?_
  simp only [execOp, ho, Instr.box, Sem.run_bind, newVar, newRow, run_newObj, Sem.run_pure, Result.andThen_ok]
  rfl

/-! ### Stores -/
theorem putCells_at : ∀ (cs : List Cell) (off : Nat) (new : List Cell), off + new.length ≤ cs.length → (putCells cs off new).length = cs.length ∧ ∀ k, (putCells cs off new)[k]? = if off ≤ k ∧ k < off + new.length then new[k - off]? else cs[k]?
  | cs, off, [], _ => by
    have : putCells cs off [] = cs := by cases cs <;> cases off <;> rfl
    rw [this]
    exact ⟨rfl, fun k => by rw [if_neg (by simp only [List.length_nil]; omega)]⟩
  | [], off, x :: new, h => by simp at h
  | c :: cs, 0, x :: new, h => by
    simp only [putCells]
    obtain ⟨h1, h2⟩ := putCells_at cs 0 new (by simp at h ⊢; omega)
    refine ⟨by simp [h1], fun k => ?_⟩
    cases k with
    | zero => simp
    | succ k =>
      simp only [List.getElem?_cons_succ, h2 k, List.length_cons]
      by_cases hk : k < new.length
      · rw [if_pos ⟨by omega, by omega⟩, if_pos ⟨by omega, by omega⟩]
        simp
      · rw [if_neg (by omega), if_neg (by omega)]
  | c :: cs, off + 1, x :: new, h => by
    simp only [putCells]
    obtain ⟨h1, h2⟩ := putCells_at cs off (x :: new) (by simp at h ⊢; omega)
    refine ⟨by simp [h1], fun k => ?_⟩
    cases k with
    | zero => rw [if_neg (by omega)]; simp
    | succ k =>
      simp only [List.getElem?_cons_succ, h2 k]
      by_cases hk : off ≤ k ∧ k < off + (x :: new).length
      · rw [if_pos hk, if_pos ⟨by omega, by omega⟩]
        congr 1
        omega
      · rw [if_neg hk, if_neg (by omega)]
/-- The cells of a box behind a store. -/
theorem boxRel_put {B : Nat} {mk : Nat → Tag} {cs : List Cell} (hb : BoxRel ι j own w B mk cs) {off : Nat} {new : List Cell} {us : List Value} (hle : off + new.length ≤ cs.length) (hu : us.length = new.length)
    (hnew : ∀ (i : Nat) (c : Cell), new[i]? = some c → ∃ u, us[i]? = some u ∧ u.oneCell' = true ∧ Rep ι j c.d u ∧ (c.own = true → ∀ w', (∀ b, b ≠ B → w'.heap[b]? = w.heap[b]?) → Owned ι own w' (mk (off + i)) c.d u))
    (hold : ∀ (i : Nat) (c : Cell) (u : Value), cs[i]? = some c → c.own = true → Owned ι own w (mk i) c.d u → ∀ w', (∀ b, b ≠ B → w'.heap[b]? = w.heap[b]?) → Owned ι own w' (mk i) c.d u) :
    ∃ (cur : Array Value) (T : TypeId), w.heap[B]? = some (.cells cur T (0, 0)) ∧ off + us.length ≤ cur.size ∧
      BoxRel ι j own (w.setRow B (cur.toList.take off ++ us ++ cur.toList.drop (off + us.length)).toArray) B mk (putCells cs off new) := by
  obtain ⟨vs, T, h1, h2, h3⟩ := hb
  obtain ⟨p1, p2⟩ := putCells_at cs off new hle
  have hrest : ∀ row, ∀ b, b ≠ B → (w.setRow B row).heap[b]? = w.heap[b]? := fun row b hb => setRow_other w B b row hb
  refine ⟨⟨vs⟩, T, h1, by simp; omega, _, T, setRow_heap w B _ _ T (0, 0) h1, ?_, fun i c hi => ?_⟩
  · simp only [List.length_append, List.length_take, List.length_drop]
    omega
  · rw [p2 i] at hi
    have hget : (vs.take off ++ us ++ vs.drop (off + us.length))[i]? = if off ≤ i ∧ i < off + new.length then us[i - off]? else vs[i]? := by
      by_cases h4 : i < off
      · rw [if_neg (by omega), List.append_assoc, List.getElem?_append_left (by simp; omega), List.getElem?_take, if_pos h4]
      · by_cases h5 : i < off + us.length
        · rw [if_pos (by omega), List.append_assoc, List.getElem?_append_right (by simp; omega), List.getElem?_append_left (by simp; omega)]
          congr 1
          simp
          omega
        · rw [if_neg (by omega), List.getElem?_append_right (by simp; omega), List.getElem?_drop]
          congr 1
          simp
          omega
    by_cases hin : off ≤ i ∧ i < off + new.length
    · rw [if_pos hin] at hi hget
      obtain ⟨u, q1, q2, q3, q4⟩ := hnew (i - off) c hi
      refine ⟨u, hget.trans q1, q2, q3, fun ho => ?_⟩
      have := q4 ho (w.setRow B (vs.take off ++ us ++ vs.drop (off + us.length)).toArray) (hrest _)
      rwa [show off + (i - off) = i by omega] at this
    · rw [if_neg hin] at hi hget
      obtain ⟨v, q1, q2, q3, q4⟩ := h3 i c hi
      exact ⟨v, hget.trans q1, q2, q3, fun ho => hold i c v hi ho (q4 ho) (w.setRow B (vs.take off ++ us ++ vs.drop (off + us.length)).toArray) (hrest _)⟩
theorem layCells_length {c : Cell} (hok : c.d.ok = true) : (layCells c).length = c.d.cells.length := by
  unfold layCells
  cases h : c.d.one with
  | true => cases c with | mk o d => cases d <;> simp only [D.one, Bool.false_eq_true] at h <;> rfl
  | false => simp [ifB]
theorem owned_other {t : Tag} {B : Nat} {w' : World} (hB : own B ≠ some t) (hrest : ∀ b, b ≠ B → w'.heap[b]? = w.heap[b]?) {d : D} {v : Value} (k : Owned ι own w t d v) : Owned ι own w' t d v := by
  unfold Owned at k ⊢
  cases hp : prin d v with
  | none => trivial
  | some p =>
    rw [hp] at k
    rcases k with k | ⟨b, cap, cur, T, h1, h2, h3, h4, h5⟩
    · exact .inl k
    · exact .inr ⟨b, cap, cur, T, h1, h2, (hrest b fun e => hB (e ▸ h2)).trans h3, h4, h5⟩

/-- The mark of an operand's list goes over to another bearer, and the operand's own is dropped. -/
theorem moveMark (hG : GSim ι j own σ w) (hL : LSim ι j own lb N e a w) {x : Operand} {y : AOpd} (hk : okOpd x y = true) {c : Cell} (hc : opd e y = some c) {t' : Tag} (hb' : t'.isBox = false) :
    ∃ own', GSim ι j own' σ w ∧ LSim ι j own' lb N (y.drop e) a w ∧ (c.own = true → Owned ι own' w t' c.d (a.eval x)) ∧ Evo ι j own w ι j own' w (fun _ => True) := by
  cases ho : c.own with
  | false => exact ⟨own, hG, hL.drop y, (fun h => by cases h), Evo.refl _ _ _ _ _⟩
  | true =>
    cases y with
    | tmp s =>
      simp only [opd] at hc
      obtain ⟨c', h1, h2⟩ := bindO_some hc
      cases h2
      cases ho
    | const d =>
      simp only [opd] at hc
      cases hc
      cases ho
    | mv s =>
      cases x <;> simp only [okOpd, Bool.false_eq_true] at hk
      have hk := eq_of_beq hk
      subst hk
      simp only [opd] at hc
      have how := (hL.slots _ c hc).2 ho
      obtain ⟨own', k1, k2, k3, k4⟩ := retag (t := .slot _) (t' := t') rfl hb' hG (hL.drop (.mv _)) (fun s c' h1 h2 h3 => by
        cases h3
        exact drop_free h1 h2 (by rw [hc]; rfl) rfl) (fun s cs _ i c' _ _ h => by cases h) (fun id cs _ i c' _ _ h => by cases h) how
      exact ⟨own', k1, k2, fun _ => k3, k4.weaken fun _ _ => trivial⟩
theorem setRow_evo {B : Nat} {cur : Array Value} {T : TypeId} (_h : w.heap[B]? = some (.cells cur T (0, 0))) (row : Array Value) {t : Tag} (ht : own B = some t) : Evo ι j own w ι j own (w.setRow B row) (fun u => u = t) where
  os := rfl
  tape := rfl
  output := rfl
  size := by simp [World.setRow]
  imm := fun _ _ _ h => h
  lay := fun _ _ h => h
  block := fun b _ hb => ⟨setRow_other w B b row (fun e => hb t (e ▸ ht) rfl), rfl, fun _ => rfl⟩
theorem run_storeVar_of {t : TypeId} {k : Nat} (hk : sizeB P t = some k) {B off : Nat} {cur : Array Value} {T : TypeId} (h : w.heap[B]? = some (.cells cur T (0, 0))) {v : Value} (hv : v.cells.size = k) (hle : off + v.cells.toList.length ≤ cur.size) (h1 : ∀ x ∈ v.cells.toList, x.oneCell' = true) :
    (storeVar t ⟨B, off, none⟩ v).run P w = .ok () (w.setRow B (cur.toList.take off ++ v.cells.toList ++ cur.toList.drop (off + v.cells.toList.length)).toArray) := by
  have hs := run_storeCells_at (P := P) B off T v.cells.toList 0 cur w h (by simpa using hle) h1
  simp only [Nat.add_zero] at hs
  simp only [storeVar, Sem.run_bind, run_sizeOf_of hk, Result.andThen_ok, hv]
  rw [if_neg (by simp)]
  exact hs
theorem layCells_rel {c : Cell} {v : Value} (hr : Rep ι j c.d v) (hok : c.d.ok = true) : v.cells.toList.length = (layCells c).length ∧
    ∀ (i : Nat) (c' : Cell), (layCells c)[i]? = some c' → ∃ u, v.cells.toList[i]? = some u ∧ u.oneCell' = true ∧ Rep ι j c'.d u ∧ (c'.own = true → i = 0 ∧ c' = c ∧ u = v) := by
  obtain ⟨r1, r2⟩ := hr.cellsRel hok
  refine ⟨by rw [layCells_length hok]; exact r1.length, fun i c' hi => ?_⟩
  unfold layCells at hi
  cases h : c.d.one with
  | true =>
    rw [h, ifB_true] at hi
    obtain ⟨h1, h2⟩ := hr.oneCell h
    cases i with
    | zero =>
      simp at hi
      subst hi
      exact ⟨v, by rw [h2]; rfl, h1, hr, fun _ => ⟨rfl, rfl, rfl⟩⟩
    | succ i => simp at hi
  | false =>
    rw [h, ifB_false, List.getElem?_map] at hi
    cases hd : c.d.cells[i]? with
    | none => rw [hd] at hi; cases hi
    | some d =>
      rw [hd] at hi
      simp at hi
      subst hi
      obtain ⟨u, hu, hru⟩ := r1.at i d hd
      exact ⟨u, hu, r2 u (List.mem_of_getElem? hu), hru, fun h => by cases h⟩
theorem fits_eq {c : Cell} {k off : Nat} {cs : List Cell} (h : fits c k off cs = true) : c.d.ok = true ∧ c.d.cells.length = k ∧ off + k ≤ cs.length := by
  simp only [fits, Bool.and_eq_true, beq_iff_eq, decide_eq_true_eq] at h
  exact ⟨h.1.1, h.1.2, h.2⟩
theorem step_storeLoc (hG : GSim ι j own σ w) (hL : LSim ι j own lb N e a w) {o : Oper} {t : TypeId} {x y : Operand} {x' y' : AOpd} {k b off : Nat} {c : Cell} {cs : List Cell} (ho : o.op = .store t x y) (hd : ∀ s, o.dst = some s → s < N)
    (hk : okOpd x x' = true) (hk1 : okOpd y y' = true) (hsz : sizeB P t = some k) (hp : addr e x' = some (.loc b off)) (hc : opd e y' = some c) (hcs : aget e.boxes b = some cs) (hf : fits c k off cs = true) :
    Did P N ι j own w o a (Env.put { y'.drop e with boxes := aset e.boxes b (putCells cs off (layCells c)) } o.dst ⟨false, .undef⟩) σ := by
  obtain ⟨hok, hlen, hle⟩ := fits_eq hf
  obtain ⟨B, hB, hx⟩ := addr_rel hL hk hp
  have hr := opd_rel hL hk1 hc
  obtain ⟨own1, hG1, hL1, hO, hE1⟩ := moveMark hG hL hk1 hc (t' := .cell b off) rfl
  obtain ⟨_, hbx, _⟩ := drop_rest (e := e) y'
  obtain ⟨B', hB', hown, hbox⟩ := hL1.boxes b cs (by rw [hbx]; exact hcs)
  rw [hB] at hB'
  cases hB'
  obtain ⟨l1, l2⟩ := layCells_rel hr hok
  have hlc : off + (layCells c).length ≤ cs.length := by rw [layCells_length hok]; omega
  obtain ⟨cur, T, hcur, hfit, hnew⟩ := boxRel_put hbox (us := (a.eval y).cells.toList) hlc l1 (fun i c' hi => by
    obtain ⟨u, q1, q2, q3, q4⟩ := l2 i c' hi
    refine ⟨u, q1, q2, q3, fun how w' hw' => ?_⟩
    obtain ⟨rfl, rfl, rfl⟩ := q4 how
    exact owned_other (by rw [hown]; intro h; cases h) hw' (hO how)) (fun i c' u hi how h w' hw' => owned_other (by rw [hown]; intro h; cases h) hw' h)
  have hvs : (a.eval y).cells.size = k := by rw [← Array.length_toList, l1, layCells_length hok, hlen]
  have hrun := run_storeVar_of (P := P) hsz hcur (v := a.eval y) hvs hfit (hr.cellsRel hok).2
  generalize hw' : w.setRow B _ = w' at hrun hnew
  have hE2 : Evo ι j own1 w ι j own1 w' (fun u => u = .box b) := hw' ▸ setRow_evo hcur _ hown
  have hG2 : GSim ι j own1 σ w' := by
    refine hG1.evo hE2 (fun b' o' v h => ?_) hG1.noimm (fun b' u h => Nat.lt_of_lt_of_le (hG1.ownlt b' u h) hE2.size) hG1.jlt (fun id cs _ => ⟨(fun h => by cases h), (fun _ _ _ _ h => by cases h)⟩) (fun _ _ _ h => by cases h)
    have hne : b' ≠ B := fun e => by
      rw [e, hG1.noimm B _ hown rfl o'] at h
      cases h
    rw [← hw', cell_setRow_other w B _ _ hne]
    exact hG1.holds b' o' v h
  have hL2 : LSim ι j own1 lb N { y'.drop e with boxes := aset e.boxes b (putCells cs off (layCells c)) } a w' := by
    have h0 : LSim ι j own1 lb N { y'.drop e with boxes := adel1 e.boxes b } a w :=
      hL1.sub (fun s c h => ⟨c, h, rfl, fun h => h⟩) (fun _ _ h => h) (fun s cs h => by
        simp only [aget_adel1] at h
        split at h
        · cases h
        · exact ⟨cs, by rw [hbx]; exact h, Weaker.refl cs⟩) rfl
    have h1 := (h0.evo hE2 (fun _ _ _ _ h => by cases h) (fun s cs h => ⟨(fun e => by
      cases e
      simp only [aget_adel1, if_true] at h
      cases h), (fun _ _ _ _ h => by cases h)⟩)).addBox hB hown hnew
    refine h1.sub (fun s c h => ⟨c, h, rfl, fun h => h⟩) (fun _ _ h => h) (fun s cs h => ⟨cs, ?_, Weaker.refl cs⟩) rfl
    simp only [aget_aset, aget_adel1] at h ⊢
    split
    · rename_i hs; rw [if_pos hs] at h; exact h
    · rename_i hs; rw [if_neg hs] at h; exact h
  refine ⟨.skip, w', _, ?_, .inr (.inl ⟨rfl, rfl⟩), ι, j, own1, lb, hG2, ?_, hE1.trans (hE2.weaken fun _ _ => trivial)⟩
  · simp only [execOp, ho, hx, Instr.storeAt, Instr.sureAddr, Sem.run_bind, Sem.run_pure, Result.andThen_ok, hrun]
  · cases hds : o.dst with
    | none => exact hL2
    | some s => exact hL2.putC (hd s hds) ⟨by simp only [Rep], fun h => by cases h⟩
theorem step_storePtr (hG : GSim ι j own σ w) (hL : LSim ι j own lb N e a w) {o : Oper} {t : TypeId} {x y : Operand} {x' y' : AOpd} {k id off : Nat} {c : Cell} {cs : List Cell} (ho : o.op = .store t x y) (hd : ∀ s, o.dst = some s → s < N)
    (hk : okOpd x x' = true) (hk1 : okOpd y y' = true) (hsz : sizeB P t = some k) (hp : addr e x' = some (.ptr id off)) (hc : opd e y' = some c) (hcs : aget σ.objs id = some cs) (hf : fits c k off cs = true) :
    Did P N ι j own w o a ((y'.drop e).put o.dst ⟨false, .undef⟩) { σ with objs := aset σ.objs id (putCells cs off (layCells c)) } := by
  obtain ⟨hok, hlen, hle⟩ := fits_eq hf
  obtain ⟨B, hB, hx⟩ := addr_rel hL hk hp
  have hr := opd_rel hL hk1 hc
  obtain ⟨own1, hG1, hL1, hO, hE1⟩ := moveMark hG hL hk1 hc (t' := .ocell id off) rfl
  obtain ⟨B', hB', hown, hbox⟩ := hG1.objs id cs hcs
  rw [hB] at hB'
  cases hB'
  obtain ⟨l1, l2⟩ := layCells_rel hr hok
  have hlc : off + (layCells c).length ≤ cs.length := by rw [layCells_length hok]; omega
  obtain ⟨cur, T, hcur, hfit, hnew⟩ := boxRel_put hbox (us := (a.eval y).cells.toList) hlc l1 (fun i c' hi => by
    obtain ⟨u, q1, q2, q3, q4⟩ := l2 i c' hi
    refine ⟨u, q1, q2, q3, fun how w' hw' => ?_⟩
    obtain ⟨rfl, rfl, rfl⟩ := q4 how
    exact owned_other (by rw [hown]; intro h; cases h) hw' (hO how)) (fun i c' u hi how h w' hw' => owned_other (by rw [hown]; intro h; cases h) hw' h)
  have hvs : (a.eval y).cells.size = k := by rw [← Array.length_toList, l1, layCells_length hok, hlen]
  have hrun := run_storeVar_of (P := P) hsz hcur (v := a.eval y) hvs hfit (hr.cellsRel hok).2
  generalize hw' : w.setRow B _ = w' at hrun hnew
  have hE2 : Evo ι j own1 w ι j own1 w' (fun u => u = .obj id) := hw' ▸ setRow_evo hcur _ hown
  have hG2 : GSim ι j own1 { σ with objs := aset σ.objs id (putCells cs off (layCells c)) } w' := by
    refine ⟨fun b' o' v h => ?_, hG1.noimm, fun id' cs' h => ?_, fun id' t' cs' h1 h2 b' hb' => ?_, fun id' s' pos' h => ?_, hG1.jlt, fun b' u h => Nat.lt_of_lt_of_le (hG1.ownlt b' u h) hE2.size⟩
    · have hne : b' ≠ B := fun e => by
        rw [e, hG1.noimm B _ hown rfl o'] at h
        cases h
      rw [← hw', cell_setRow_other w B _ _ hne]
      exact hG1.holds b' o' v h
    · simp only [aget_aset] at h
      by_cases hid : id = id'
      · subst hid
        rw [if_pos rfl] at h
        cases h
        exact ⟨B, hB, hown, hnew⟩
      · rw [if_neg hid] at h
        obtain ⟨B2, q1, q2, q3⟩ := hG1.objs id' cs' h
        exact ⟨B2, q1, q2, hE2.boxRel q2 (fun h => by cases h; exact hid rfl) (fun _ _ _ _ h => by cases h) q3⟩
    · have hex : ∃ cs0, aget σ.objs id' = some cs0 := by
        simp only [aget_aset] at h2
        split at h2
        · rename_i hh; subst hh; exact ⟨cs, hcs⟩
        · exact ⟨cs', h2⟩
      obtain ⟨cs0, hcs0⟩ := hex
      obtain ⟨row, hrow⟩ := hG1.tys id' t' cs0 h1 hcs0 b' hb'
      by_cases hbB : b' = B
      · subst hbB
        exact ⟨_, hw' ▸ setRow_heap w b' _ _ t' (0, 0) hrow⟩
      · exact ⟨row, by rw [← hw', setRow_other w B b' _ hbB]; exact hrow⟩
    · obtain ⟨B2, q1, q2, q3⟩ := hG1.iters id' s' pos' h
      have hbB : B2 ≠ B := fun e => by
        subst e
        rw [hcur] at q3
        cases q3
      exact ⟨B2, q1, q2, by rw [← hw', setRow_other w B B2 _ hbB]; exact q3⟩
  have hL2 : LSim ι j own1 lb N (y'.drop e) a w' := hL1.evo hE2 (fun _ _ _ _ h => by cases h) (fun _ _ _ => ⟨(fun h => by cases h), (fun _ _ _ _ h => by cases h)⟩)
  refine ⟨.skip, w', _, ?_, .inr (.inl ⟨rfl, rfl⟩), ι, j, own1, lb, hG2, ?_, hE1.trans (hE2.weaken fun _ _ => trivial)⟩
  · simp only [execOp, ho, hx, Instr.storeAt, Instr.sureAddr, Sem.run_bind, Sem.run_pure, Result.andThen_ok, hrun]
  · cases hds : o.dst with
    | none => exact hL2
    | some s => exact hL2.putC (hd s hds) ⟨by simp only [Rep], fun h => by cases h⟩
end
end Go.Mx


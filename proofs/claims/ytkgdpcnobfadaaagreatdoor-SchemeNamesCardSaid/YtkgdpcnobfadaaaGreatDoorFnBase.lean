/-
  The library's functions served; the document's example runs.
-/
import Derived.Test.YtkgdpcnobfadaaaGreatDoorFnString
import Derived.Test.YtkgdpcnobfadaaaGreatDoorFnLv
set_option linter.unusedSimpArgs false
set_option linter.unusedVariables false
namespace Go.Fu
open Go Go.Mx
theorem zz0 {ι : Imm} {j : Lay} {own : Own} {σ : Store} {w w1 w' : World} {b id : Nat} {cs0 : List Cell} {cur : List Value} {rest : List Value} {T : TypeId} (hG : GSim ι j own σ w) (hcs : aget σ.objs id = some cs0) (hjb : j id = some b) (hown : own b = some (.obj id))
    (hlen : cur.length = rest.length + 2) (hT : T = t_6) (h0 : w.heap[b]? = some (.cells ⟨cur⟩ T (0, 0))) (hos : w1.os = w.os) (ht : w1.tape = w.tape) (hout : w1.output = w.output) (hsz : w1.heap.size = w.heap.size) (hw1 : ∀ k, k ≠ b → w1.heap[k]? = w.heap[k]?) (hg : Grown b rest w1 w') :
    ∃ own', GSim ι j own' { σ with objs := aset σ.objs id [⟨false, .ptr id 0⟩, ⟨true, .list k_11 []⟩] } w' ∧ Evo ι j own w ι j own' w' (fun _ => True) ∧ (zdv own → zdv own') := by
  subst hT
  obtain ⟨g1, g2, g3, g4, g5, cs, g6, g7, g8⟩ := hg
  rw [hsz] at g4 g5 g7 g8
  have hblt : b < w.heap.size := (Array.getElem?_eq_some_iff.1 h0).1
  let own' : Own := fun x => if x = w.heap.size then some (.ocell id 1) else own x
  have hnew : own' w.heap.size = some (.ocell id 1) := if_pos rfl
  have hold : ∀ x, x < w.heap.size → own' x = own x := fun x hx => if_neg (by omega)
  have hoth : ∀ x, x < w.heap.size → x ≠ b → w'.heap[x]? = w.heap[x]? := fun x hx hne => (g5 x hx hne).trans (hw1 x hne)
  have hE : Evo ι j own w ι j own' w' (fun t => t = .obj id) := ⟨g1.trans hos, g2.trans ht, g3.trans hout, Nat.le_of_lt g4, fun _ _ _ h => h, fun _ _ h => h, fun x hx hn => ⟨hoth x hx (fun e => hn _ (e ▸ hown) rfl), hold x hx, fun _ => rfl⟩⟩
  have hnoimm : ∀ o, ι w.heap.size o = none := fun o => by
    cases hi : ι w.heap.size o with
    | none => rfl
    | some v => have := zdx hG hi; omega
  refine ⟨own', ⟨fun x o v h => ?_, fun x t h hu o => ?_, fun id' cs2 h => ?_, fun id' t cs2 k1 k2 x hx => ?_, fun id' y h => ?_, hG.jlt, fun x t h => ?_⟩, hE.weaken fun _ _ => trivial, fun hS x t h => ?_⟩
  · have hne : x ≠ b := fun e => by
      rw [e, hG.noimm b _ hown rfl o] at h
      cases h
    rw [World.cell?_of_block (w := w) (w' := w') (a := ⟨x, o, none⟩) (hoth x (zdx hG h) hne)]
    exact hG.holds x o v h
  · by_cases hx : x = w.heap.size
    · subst hx
      exact hnoimm o
    · simp only [own', if_neg hx] at h
      exact hG.noimm x t h hu o
  · simp only [zao] at h
    by_cases hid : id = id'
    · subst hid
      rw [if_pos rfl] at h
      cases h
      refine ⟨b, hjb, (hold b hblt).trans hown, _, _, g8, by simp, fun i c hi => ?_⟩
      match i with
      | 0 =>
        simp only [List.getElem?_cons_zero, Option.some.injEq] at hi
        subst hi
        refine ⟨_, rfl, rfl, ?_, fun h => by cases h⟩
        simp only [Rep]
        exact ⟨b, hjb, rfl⟩
      | 1 =>
        simp only [List.getElem?_cons_succ, List.getElem?_cons_zero, Option.some.injEq] at hi
        subst hi
        refine ⟨_, rfl, rfl, ?_, fun _ => ?_⟩
        · simp only [Rep]
          exact ⟨_, _, rfl, Nat.zero_le _, g6, .inl trivial⟩
        · simp only [zdt, zeq]
          exact .inr ⟨w.heap.size, cs.size, cs, _, rfl, hnew, g7, ⟨rfl, by simp [k_11]⟩, fun o _ => hnoimm o⟩
      | n + 2 => simp at hi
    · rw [if_neg hid] at h
      obtain ⟨B2, q1, q2, q3⟩ := hG.objs id' cs2 h
      exact ⟨B2, q1, (hold B2 (hG.ownlt _ _ q2)).trans q2, hE.boxRel q2 (fun h => by cases h; exact hid rfl) (fun _ _ _ _ h => by cases h) q3⟩
  · have hex : ∃ c0, aget σ.objs id' = some c0 := by
      simp only [zao] at k2
      split at k2
      · rename_i hh; subst hh; exact ⟨cs0, hcs⟩
      · exact ⟨cs2, k2⟩
    obtain ⟨c0, hc0⟩ := hex
    have hty := hG.tys id' t c0 k1 hc0 x hx
    by_cases hxB : x = b
    · subst hxB
      obtain ⟨row, hrow, hsz2⟩ := hty
      have hrc := hrow
      rw [h0] at hrc
      simp only [Option.some.injEq, Obj.cells.injEq] at hrc
      obtain ⟨rfl, hrc, _⟩ := hrc
      refine ⟨_, hrc ▸ g8, fun hp => ?_⟩
      obtain ⟨c, e1, e2, e3⟩ := hsz2 hp
      refine ⟨c, e1, ?_, e3⟩
      rw [← e2]
      show (rest.length + 2) = cur.length
      rw [hlen]
    · obtain ⟨B2, q1, q2, _⟩ := hG.objs id' c0 hc0
      rw [hx] at q1
      cases q1
      exact hty.keep (hoth x (hG.ownlt _ _ q2) hxB) (fun _ _ h => h)
  · obtain ⟨B2, q1, q2, q3⟩ := hG.oth id' y h
    have hbB : B2 ≠ b := fun e => by
      subst e
      exact q3.notCells h0
    exact ⟨B2, q1, (hold B2 (hG.ownlt _ _ q2)).trans q2, q3.keep (hoth B2 (hG.ownlt _ _ q2) hbB) (fun _ _ _ h => h) (fun _ _ h => h)⟩
  · by_cases hx : x = w.heap.size
    · subst hx; exact g4
    · simp only [own', if_neg hx] at h
      exact Nat.lt_trans (hG.ownlt x t h) g4
  · by_cases hx : x = w.heap.size
    · simp only [own', if_pos hx, Option.some.injEq] at h
      subst h
      rfl
    · simp only [own', if_neg hx] at h
      exact hS x t h
theorem zfgb {ds : List D} {σ σ' : Store} {out : Out} (h : xGrow ds σ = some (out, σ')) : zeo Go.Proofs.Tryz.prog κ 101 ds σ out σ' := by
  refine ⟨⟨_, _, Go.Proofs.Tryz.func101, by kernel_rfl, rfl⟩, fun ι j own w vs hS hB hG hr => ?_⟩
  unfold xGrow at h
  split at h
  · rename_i id n
    obtain ⟨t, h1, hb⟩ := zab h
    obtain ⟨h2, hc⟩ := zak hb
    obtain ⟨cs, h3, hd⟩ := zab hc
    clear h hb hc
    simp only [Bool.and_eq_true, beq_iff_eq, decide_eq_true_eq] at h2
    obtain ⟨⟨ht, hn0⟩, hn⟩ := h2
    obtain ⟨v, v', rfl, hv, hv'⟩ := repL2 hr
    simp only [Rep] at hv
    obtain ⟨b, hjb, rfl⟩ := hv
    obtain ⟨b', hjb', hown, row, T, hheap, hlen, hcell⟩ := hG.objs id cs h3
    rw [hjb] at hjb'
    cases hjb'
    obtain ⟨row', hrow', _⟩ := hG.tys id t cs h1 h3 b hjb
    rw [ht, hheap] at hrow'
    cases hrow'
    simp only [Rep] at hv'
    subst hv'
    split at hd
    · rename_i c0 c1
      split at hd
      · rename_i hd0 hd1
        cases hd
        obtain ⟨v0, q0, _, r0, _⟩ := hcell 0 c0 rfl
        obtain ⟨v1, q1, _, r1, _⟩ := hcell 1 c1 rfl
        rw [hd0] at r0
        rw [hd1] at r1
        simp only [Rep] at r0 r1
        subst r0 r1
        obtain ⟨rest, hrow2⟩ : ∃ rest, row = .pointer none :: .slice none 0 0 :: rest := by
          have hl : 2 ≤ row.length := by simpa using hlen
          match row, hl with
          | x :: y :: r, _ =>
            simp at q0 q1
            exact ⟨r, by rw [q0, q1]⟩
        rw [hrow2] at hheap
        refine (zy8 b n rest w hheap hn0 hn).mono ?_
        rintro e w' ⟨rfl, hg⟩
        obtain ⟨own', k1, k2, k3⟩ := zz0 (w1 := (w.setCell ⟨b, 0, none⟩ (.pointer (some ⟨b, 0, none⟩))).drew) hG h3 hjb hown (by simp) rfl hheap rfl rfl rfl (by simp [World.setCell, World.drew]) (fun k hk => RowKit.Below.heap_setCell w ⟨b, 0, none⟩ _ k hk) hg
        exact ⟨ι, j, own', k1, k2, k3 hS, by simp [Rep, RepL], fun h => by cases h⟩
      · cases hd
    · cases hd
  · cases h
theorem zq2 : zen Go.Proofs.Tryz.prog κ Xa := by
  intro f ds σ out σ' h
  unfold Xa at h
  by_cases h1 : f = n_53
  · subst h1
    simp only [beq_self_eq_true, zae] at h
    obtain ⟨d, h2, h⟩ := zab h
    cases h
    exact zfhb h2 σ
  have e1 : (f == n_53) = false := by simpa using h1
  rw [e1, zac] at h
  by_cases h2 : f = n_54
  · subst h2
    simp only [beq_self_eq_true, zae] at h
    exact zffb h
  have e2 : (f == n_54) = false := by simpa using h2
  rw [e2, zac] at h
  by_cases h3 : f = n_65
  · subst h3
    simp only [beq_self_eq_true, zae] at h
    exact zy7 h
  have e3 : (f == n_65) = false := by simpa using h3
  rw [e3, zac] at h
  by_cases h4 : f = n_97
  · subst h4
    simp only [beq_self_eq_true, zae] at h
    exact zfgb h
  have e4 : (f == n_97) = false := by simpa using h4
  rw [e4, zac] at h
  cases h
theorem zq1 : zq0 Go.Proofs.Tryz.prog κ Ra := fun _ _ _ _ _ _ h => by cases h
theorem zcbb (n : Nat) : zen Go.Proofs.Tryz.prog κ (runQ Γa Ra Xa n false) := (zln Γa_holds zq1 zq2 n).1
theorem zd8b (σ : Store) : zeo Go.Proofs.Tryz.prog κ 18 [] σ (.ret ⟨false, .bool true⟩) σ := by
  have h := zxy
  unfold zaqb at h
  cases hx : runQ Γa Ra Xa 60 false n_40 [] { objs := [], tys := [], oth := [], next := 0 } with
  | none => rw [hx] at h; cases h
  | some r =>
    obtain ⟨o, s⟩ := r
    cases o with
    | panic d => rw [hx] at h; cases h
    | ret c =>
      rw [hx] at h
      obtain ⟨own, d⟩ := c
      cases own with
      | true => simp at h
      | false =>
        cases d with
        | bool b =>
          cases b with
          | false => simp at h
          | true => exact zxk (zcbb 60 _ [] σ0 _ _ hx) rfl rfl σ
        | _ => simp at h
end Go.Fu

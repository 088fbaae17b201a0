/-
  Operations that may change places: the machine's side of a region whose order is drawn. Nothing here speaks of a world.
-/
import Derived.Test.YtkgdpcnobfadaaaGreatDoorMzSim
set_option linter.unusedSimpArgs false
set_option linter.unusedVariables false
namespace Go.Mx
open Go
structure Eqv (e e' : Env) : Prop where
  slots : ∀ s, aget e.slots s = aget e'.slots s
  locs : ∀ s, aget e.locs s = aget e'.locs s
  boxes : ∀ s, aget e.boxes s = aget e'.boxes s
  defers : e.defers = e'.defers
theorem Eqv.refl (e : Env) : Eqv e e := ⟨fun _ => rfl, fun _ => rfl, fun _ => rfl, rfl⟩
theorem Eqv.symm {e e' : Env} (h : Eqv e e') : Eqv e' e := ⟨fun s => (h.slots s).symm, fun s => (h.locs s).symm, fun s => (h.boxes s).symm, h.defers.symm⟩
theorem Eqv.trans {e e' e'' : Env} (h : Eqv e e') (k : Eqv e' e'') : Eqv e e'' := ⟨fun s => (h.slots s).trans (k.slots s), fun s => (h.locs s).trans (k.locs s), fun s => (h.boxes s).trans (k.boxes s), h.defers.trans k.defers⟩
def zal : AOpd → List Nat
  | .tmp s => [s]
  | .mv s => [s]
  | .const _ => []
def omvs : AOpd → List Nat
  | .mv s => [s]
  | _ => []
def osl : List AOpd → List Nat
  | [] => []
  | x :: l => zal x ++ osl l
def opsl : List (Nat × Nat × AOpd) → List Nat
  | [] => []
  | (_, _, x) :: l => zal x ++ opsl l
def oopt : Option AOpd → List Nat
  | some x => zal x
  | none => []
def isMem : AOp → Bool
  | .galloc _ _ => true
  | .gbox _ _ => true
  | .storeP _ _ _ => true
  | .makeA _ _ _ _ _ => true
  | .buildA _ _ => true
  | .appendA _ _ _ _ => true
  | .copyA _ _ _ => true
  | .clearA _ _ _ => true
  | .makeMap => true
  | .update _ _ _ _ => true
  | .delete _ _ _ => true
  | .entry _ _ _ _ => true
  | .entryStore _ _ _ => true
  | _ => false
def light : AOp → Bool
  | .storeP _ _ _ => false
  | .makeA _ _ _ _ _ => false
  | .buildA _ _ => false
  | .appendA _ _ _ _ => false
  | .copyA _ _ _ => false
  | .clearA _ _ _ => false
  | .makeMap => false
  | .update _ _ _ _ => false
  | .delete _ _ _ => false
  | .entry _ _ _ _ => false
  | .entryStore _ _ _ => false
  | .alloc _ => false
  | .box _ => false
  | .galloc _ _ => false
  | .gbox _ _ => false
  | .rangeS _ => false
  | .strToBytes _ _ => false
  | .nextS _ => false
  | .store _ _ _ => false
  | .loadA _ _ => false
  | .storeA _ _ _ => false
  | .deferv _ _ => false
  | .call _ _ => false
  | .callv _ _ => false
  | .callW _ _ => false
  | .callvW _ _ => false
  | .panic _ => false
  | .load _ mv _ => !mv
  | _ => true
def zet : AOp → Bool
  | .loadP _ _ => true
  | .load _ _ _ => true
  | .lookup _ _ _ _ _ => true
  | .lenM _ => true
  | _ => false
def looks : AOp → List Nat
  | .mov x => zal x
  | .pick c a b => zal c ++ (zal a ++ zal b)
  | .build _ ps => opsl ps
  | .buildSlice _ ps => osl ps
  | .loadL _ _ x => zal x
  | .load _ _ x => zal x
  | .nilCheck x => zal x
  | .bin _ x y => zal x ++ zal y
  | .binB _ x y => zal x ++ zal y
  | .un _ x => zal x
  | .toInt _ x => zal x
  | .toStr x => zal x
  | .runeStr x => zal x
  | .bytesToStr x => zal x
  | .mkIface _ x => zal x
  | .mkFunc _ a b => osl a ++ osl b
  | .slice _ x lo hi => zal x ++ (oopt lo ++ oopt hi)
  | .sliceS x lo hi => zal x ++ (oopt lo ++ oopt hi)
  | .fieldAddr _ _ x => zal x
  | .field _ _ x => zal x
  | .indexAddr _ x i => zal x ++ zal i
  | .index x i => zal x ++ zal i
  | .extract x _ => zal x
  | .len x => zal x
  | .lenS x => zal x
  | .append _ _ x y => zal x ++ zal y
  | .appendS _ _ x y => zal x ++ zal y
  | .isNil _ x => zal x
  | .isNilP _ x => zal x
  | .assertT _ _ x => zal x
  | .mm _ x y => zal x ++ zal y
  | .isNilS _ x => zal x
  | .isNilM _ x => zal x
  | .lookup _ _ _ x i => zal x ++ zal i
  | .lenM x => zal x
  | .slice3 _ x lo hi mx => zal x ++ (oopt lo ++ (zal hi ++ zal mx))
  | .eqA _ x y => zal x ++ zal y
  | .indexA _ _ x i => zal x ++ zal i
  | .indexAddrP _ _ x i => zal x ++ zal i
  | .storeP _ x y => zal x ++ zal y
  | .makeA _ _ _ x y => zal x ++ zal y
  | .buildA _ ps => osl ps
  | .appendA _ _ x y => zal x ++ zal y
  | .copyA _ x y => zal x ++ zal y
  | .clearA _ _ x => zal x
  | .update _ x i y => zal x ++ (zal i ++ zal y)
  | .delete _ x i => zal x ++ zal i
  | .entry _ _ x i => zal x ++ zal i
  | .entryStore x s y => zal x ++ (zal s ++ zal y)
  | .galloc _ _ => []
  | .gbox _ x => zal x
  | .allocN _ _ => []
  | .boxN _ x => zal x
  | .loadB _ _ x => zal x
  | .loadE _ x => zal x
  | .loadP _ x => zal x
  | .storeB _ _ x y => zal x ++ zal y
  | .callW _ as => osl as
  | .callvW x as => zal x ++ osl as
  | .call _ as => osl as
  | .callv x as => zal x ++ osl as
  | .panic x => zal x
  | _ => []
def mvBox : AOp → Bool
  | .loadL _ mv _ => mv
  | _ => false
def zdw : AOp → List Nat
  | .mov x => omvs x
  | .append _ _ x _ => omvs x
  | .appendS _ _ x _ => omvs x
  | .storeB _ _ _ y => omvs y
  | _ => []
def wb : AOp → Option (Option Nat)
  | .loadL _ true _ => some none
  | .storeB b _ _ _ => some (some b)
  | .allocN s _ => some (some s)
  | .boxN s _ => some (some s)
  | _ => none
def wd : AOp → Option Nat
  | .storeB b _ _ _ => some b
  | .allocN s _ => some s
  | .boxN s _ => some s
  | _ => none
def rb : AOp → Option (Option Nat)
  | .loadL _ _ _ => some none
  | .load _ _ _ => some none
  | .loadB b _ _ => some (some b)
  | .storeB b _ _ _ => some (some b)
  | _ => none
def zdj : AOp → Option Nat
  | .allocN s _ => some s
  | .boxN s _ => some s
  | _ => none
def clash : Option (Option Nat) → Option Nat → Bool
  | some none, some _ => true
  | some (some a), some b => a == b
  | _, _ => false
def ziv : Option (Option Nat) → Option (Option Nat) → Bool
  | none, _ => false
  | _, none => false
  | some (some a), some (some b) => a == b
  | _, _ => true
def zge (o : AOper) : List Nat := (match o.guard with | some (s, _) => [s] | none => []) ++ looks o.op
def unown (c : Cell) : Cell := ⟨false, c.d⟩
abbrev BF := Option (Nat × (Option (List Cell) → Option (List Cell)))
def dbox (op : AOp) (e : Env) : BF := match op with
  | .loadL _ true x => match addr e x with
    | some (.loc b off) => some (b, fun o => o.map fun cs => za5 cs off)
    | _ => none
  | .storeB b _ x y => match addr e x, opd e y with
    | some (.loc _ off), some c => some (b, fun o => o.map fun cs => zap cs off (zbb c))
    | _, _ => none
  | .allocN s z => some (s, fun _ => some (z.map Cell.of))
  | .boxN s x => match opd e x with
    | some c => some (s, fun _ => some (c.d.cells.map Cell.of))
    | none => none
  | _ => none
def valOf (op : AOp) (e : Env) (σ : Store) : Option Val := match op with
  | .buildSlice sz parts => bindO (opds e parts) fun ds => ifB (zau sz.sz ds && decide (ds.length * sz.sz ≤ 16777216)) (some (.c ⟨true, .list sz ds⟩)) none
  | .append sz by_ x y => bindO (opd e x) fun c => bindO (opd e y) fun d => bindO (zbh d.d) fun ys => bindO (zbe sz by_ c ys) fun r => some (.c r)
  | .appendS k by_ x y => bindO (opd e x) fun c => bindO (opd e y) fun d => bindO d.d.str? fun s => bindO (zbe k by_ c (za6 s)) fun r => some (.c r)
  | .slice3 sz x lo hi max => bindO (opd e x) fun c => bindO (optLo e lo) fun l => bindO (opd e hi) fun h => bindO h.d.nat? fun h => bindO (opd e max) fun m => bindO m.d.nat? fun m => bindO (zjc sz c.d l h m) fun d => some (.c ⟨true, d⟩)
  | .allocN s _ => ifB (lfree e.locs s) (some (.l s 0)) none
  | .boxN s x => bindO (opd e x) fun c => ifB (lfree e.locs s && c.d.ok) (some (.l s 0)) none
  | .storeB b k x y => bindO (addr e x) fun p => bindO (opd e y) fun c => match p with
    | .loc b' off => ifB (b' == b) (bindO (aget e.boxes b) fun cs => ifB (fits c k off cs) (some (.c ⟨false, .undef⟩)) none) none
    | _ => none
  | op => evalV op e σ
def dropE (op : AOp) (e : Env) : Env := match op with
  | .append _ _ x _ => x.drop e
  | .appendS _ _ x _ => x.drop e
  | .allocN s z => { e with boxes := aset e.boxes s (z.map Cell.of) }
  | .boxN s x => match opd e x with
    | some c => { e with boxes := aset e.boxes s (c.d.cells.map Cell.of) }
    | none => e
  | .storeB b _ x y => match addr e x, opd e y, aget e.boxes b with
    | some (.loc _ off), some c, some cs => { y.drop e with boxes := aset e.boxes b (zap cs off (zbb c)) }
    | _, _, _ => e
  | op => zbk op e
def Agree (L : List Nat) (e e' : Env) : Prop := ∀ s ∈ L, aget e.slots s = aget e'.slots s ∧ aget e.locs s = aget e'.locs s
theorem Agree.left {L M : List Nat} {e e' : Env} (h : Agree (L ++ M) e e') : Agree L e e' := fun s hs => h s (List.mem_append.2 (.inl hs))
theorem Agree.right {L M : List Nat} {e e' : Env} (h : Agree (L ++ M) e e') : Agree M e e' := fun s hs => h s (List.mem_append.2 (.inr hs))
def BoxD1 (e e' : Env) (b : Nat) : Prop := (aget e.boxes b).map (·.map Cell.d) = (aget e'.boxes b).map (·.map Cell.d)
def BoxD (e e' : Env) : Prop := ∀ b, BoxD1 e e' b
def BoxA (op : AOp) (e e' : Env) : Prop := match rb op with
  | none => True
  | some none => BoxD e e'
  | some (some b) => BoxD1 e e' b
section
variable {e e' : Env}
theorem zaj {x : AOpd} (h : Agree (zal x) e e') : opd e x = opd e' x := by
  cases x with
  | tmp s => simp only [opd, (h s (by simp [zal])).1]
  | mv s => simp only [opd, (h s (by simp [zal])).1]
  | const d => rfl
theorem zby {x : AOpd} (h : Agree (zal x) e e') : addr e x = addr e' x := by
  cases x with
  | tmp s => simp only [addr, (h s (by simp [zal])).1, (h s (by simp [zal])).2]
  | mv s => simp only [addr, (h s (by simp [zal])).1, (h s (by simp [zal])).2]
  | const d => rfl
theorem zcu : ∀ {l : List AOpd}, Agree (osl l) e e' → opds e l = opds e' l
  | [], _ => rfl
  | x :: l, h => by simp only [opds, zaj (Agree.left h), zcu (Agree.right h)]
theorem zkk : ∀ {l : List (Nat × Nat × AOpd)}, Agree (opsl l) e e' → zc1 e l = zc1 e' l
  | [], _ => rfl
  | (a, b, x) :: l, h => by simp only [zc1, zaj (Agree.left h), zkk (Agree.right h)]
theorem zin {x : Option AOpd} (h : Agree (oopt x) e e') : optLo e x = optLo e' x := by
  cases x with
  | none => rfl
  | some x => simp only [optLo, zaj (show Agree (zal x) e e' from h)]
theorem zmj {x : Option AOpd} (h : Agree (oopt x) e e') : optHi e x = optHi e' x := by
  cases x with
  | none => rfl
  | some x => simp only [optHi, zaj (show Agree (zal x) e e' from h)]
theorem zpn : ∀ (cs cs' : List Cell) (o n : Nat), cs.map Cell.d = cs'.map Cell.d → takeC cs o n = takeC cs' o n
  | [], [], o, n, _ => rfl
  | [], _ :: _, _, _, h => by simp at h
  | _ :: _, [], _, _, h => by simp at h
  | c :: cs, c' :: cs', 0, 0, _ => rfl
  | c :: cs, c' :: cs', 0, n + 1, h => by
    simp only [List.map_cons, List.cons.injEq] at h
    simp only [takeC, zpn cs cs' 0 n h.2, h.1]
  | c :: cs, c' :: cs', o + 1, n, h => by
    simp only [List.map_cons, List.cons.injEq] at h
    cases n <;> simp only [takeC, zpn cs cs' o _ h.2]
theorem zu5 {cs cs' : List Cell} (h : cs.map Cell.d = cs'.map Cell.d) (k : Option Nat) (off : Nat) : (za2 cs k off).map Cell.d = (za2 cs' k off).map Cell.d := by
  cases k with
  | none =>
    simp only [za2, zho]
    rw [← List.getElem?_map, ← List.getElem?_map, h]
  | some n => simp only [za2, zpn cs cs' off n h]
theorem zou {k : Option Nat} {b off : Nat} (h : BoxD1 e e' b) : (bindO (aget e.boxes b) fun cs => bindO (za2 cs k off) fun c => some (Val.c ⟨false, c.d⟩)) = bindO (aget e'.boxes b) fun cs => bindO (za2 cs k off) fun c => some (Val.c ⟨false, c.d⟩) := by
  have hb := h
  unfold BoxD1 at hb
  cases h1 : aget e.boxes b with
  | none =>
    rw [h1] at hb
    cases h2 : aget e'.boxes b with
    | none => rfl
    | some cs' => rw [h2] at hb; cases hb
  | some cs =>
    rw [h1] at hb
    cases h2 : aget e'.boxes b with
    | none => rw [h2] at hb; cases hb
    | some cs' =>
      rw [h2] at hb
      simp only [Option.map_some, Option.some.injEq] at hb
      have := zu5 hb k off
      simp only [bindO, zaa]
      cases h3 : za2 cs k off with
      | none =>
        rw [h3] at this
        cases h4 : za2 cs' k off with
        | none => rfl
        | some c => rw [h4] at this; cases this
      | some c =>
        rw [h3] at this
        cases h4 : za2 cs' k off with
        | none => rw [h4] at this; cases this
        | some c' =>
          rw [h4] at this
          simp only [Option.map_some, Option.some.injEq] at this
          simp only [zaa, this]
theorem zhpb {c : Cell} {k off : Nat} {cs cs' : List Cell} (h : cs.map Cell.d = cs'.map Cell.d) : fits c k off cs = fits c k off cs' := by
  have := congrArg List.length h
  simp only [List.length_map] at this
  simp only [fits, this]
theorem zvv {op : AOp} (σ : Store) (hl : light op = true) (h : Agree (looks op) e e') (hb : BoxA op e e') (hm : mvBox op = true → ∀ b, aget e.boxes b = aget e'.boxes b) (hf : ∀ s, zdj op = some s → lfree e.locs s = lfree e'.locs s) : valOf op e σ = valOf op e' σ := by
  cases op <;> simp only [light, Bool.false_eq_true] at hl <;> simp only [looks] at h <;> simp only [valOf, evalV]
  case mov x => rw [zaj h]
  case pick c a b => rw [zaj h.left, zaj h.right.left, zaj h.right.right]
  case build z ps => rw [zkk h]
  case buildSlice sz ps => rw [zcu h]
  case loadL k mv x =>
    rw [zby h]
    congr 1
    funext p
    cases p with
    | loc b off =>
      cases mv with
      | false => simp only [Bool.false_and]; exact zou (hb b)
      | true => simp only [hm rfl b]
    | ptr id off => rfl
    | eptr d => rfl
  case load k mv x =>
    simp only [Bool.not_eq_true'] at hl
    subst hl
    rw [zby h]
    congr 1
    funext p
    cases p with
    | loc b off => simp only [Bool.false_and]; exact zou (hb b)
    | ptr id off => rfl
    | eptr d => rfl
  case nilCheck x => rw [zby h]
  case loadB b k x =>
    rw [zby h]
    congr 1
    funext p
    cases p with
    | loc b' off =>
      simp only
      congr 1
      exact zou hb
    | ptr id off => rfl
    | eptr d => rfl
  case loadE k x => rw [zby h]
  case loadP k x => rw [zby h]
  case allocN s z => rw [hf s rfl]
  case boxN s x => rw [zaj h, hf s rfl]
  case storeB b k x y =>
    rw [zby h.left, zaj h.right]
    congr 1
    funext p
    congr 1
    funext c
    cases p with
    | loc b' off =>
      simp only
      congr 1
      have hb' : BoxD1 e e' b := hb
      unfold BoxD1 at hb'
      cases h1 : aget e.boxes b with
      | none =>
        rw [h1] at hb'
        cases h2 : aget e'.boxes b with
        | none => rfl
        | some cs' => rw [h2] at hb'; cases hb'
      | some cs =>
        rw [h1] at hb'
        cases h2 : aget e'.boxes b with
        | none => rw [h2] at hb'; cases hb'
        | some cs' =>
          rw [h2] at hb'
          simp only [Option.map_some, Option.some.injEq] at hb'
          simp only [bindO, zaa, zhpb hb']
    | ptr id off => rfl
    | eptr d => rfl
  case bin op x y => rw [zaj h.left, zaj h.right]
  case binB op x y => rw [zaj h.left, zaj h.right]
  case un op x => rw [zaj h]
  case toInt k x => rw [zaj h]
  case toStr x => rw [zaj h]
  case runeStr x => rw [zaj h]
  case bytesToStr x => rw [zaj h]
  case mkIface t x => rw [zaj h]
  case mkFunc f a b => rw [zcu h.left, zcu h.right]
  case slice sz x lo hi => rw [zaj h.left, zin h.right.left, zmj h.right.right]
  case sliceS x lo hi => rw [zaj h.left, zin h.right.left, zmj h.right.right]
  case fieldAddr off k x => rw [zby h]
  case field off k x => rw [zaj h]
  case indexAddr sz x i => rw [zaj h.left, zaj h.right]
  case index x i => rw [zaj h.left, zaj h.right]
  case extract x i => rw [zaj h]
  case len x => rw [zaj h]
  case lenS x => rw [zaj h]
  case append sz by_ x y => rw [zaj h.left, zaj h.right]
  case appendS k by_ x y => rw [zaj h.left, zaj h.right]
  case isNil op x => rw [zaj h]
  case isNilP op x => rw [zaj h]
  case assertT t z x => rw [zaj h]
  case mm mx x y => rw [zaj h.left, zaj h.right]
  case isNilS op x => rw [zaj h]
  case isNilM op x => rw [zaj h]
  case lookup ks z ok x i => rw [zaj h.left, zaj h.right]
  case lenM x => rw [zaj h]
  case slice3 sz x lo hi mx => rw [zaj h.left, zin h.right.left, zaj h.right.right.left, zaj h.right.right.right]
  case eqA op x y => rw [zaj h.left, zaj h.right]
  case indexA n sz x i => rw [zaj h.left, zaj h.right]
  case indexAddrP n sz x i => rw [zby h.left, zaj h.right]
theorem zmg {op : AOp} (σ : Store) (hl : isMem op = true) (h : Agree (looks op) e e') : memOp op e σ = memOp op e' σ := by
  cases op <;> simp only [isMem, Bool.false_eq_true] at hl <;> simp only [looks] at h <;> simp only [memOp]
  case gbox t x => rw [zaj h]
  case storeP k x y => rw [zby h.left, zaj h.right]
  case makeA k by_ z x y => rw [zaj h.left, zaj h.right]
  case buildA k ps => rw [zcu h]
  case appendA k by_ x y => rw [zaj h.left, zaj h.right]
  case copyA sz x y => rw [zaj h.left, zaj h.right]
  case clearA sz z x => rw [zaj h]
  case update ks x i y => rw [zaj h.left, zaj h.right.left, zaj h.right.right]
  case delete ks x i => rw [zaj h.left, zaj h.right]
  case entry ks z x i => rw [zaj h.left, zaj h.right]
  case entryStore x s y => rw [zaj h.left, zaj h.right.left, zaj h.right.right]
theorem znw {op : AOp} (hl : isMem op = true) (dst : Option Nat) (e : Env) (σ : Store) : zag dst op e σ = memE dst op e σ := by
  cases op <;> simp only [isMem, Bool.false_eq_true] at hl <;> rfl
theorem zrv {op : AOp} (hl : isMem op = true) : op.kind = .op := by
  cases op <;> simp only [isMem, Bool.false_eq_true] at hl <;> rfl
theorem zxg {op : AOp} (hl : light op = true) (h : Agree (looks op) e e') : dbox op e = dbox op e' := by
  cases op <;> simp only [light, Bool.false_eq_true] at hl <;> simp only [looks] at h <;> try rfl
  case loadL k mv x => cases mv <;> simp only [dbox, zby h]
  case storeB b k x y => simp only [dbox, zby h.left, zaj h.right]
  case boxN s x => simp only [dbox, zaj h]
theorem zvw {op : AOp} (hl : light op = true) (hn : zet op = false) (e : Env) (σ σ' : Store) : valOf op e σ = valOf op e σ' := by
  cases op <;> simp only [light, Bool.false_eq_true] at hl <;> simp only [zet, Bool.true_eq_false] at hn <;> rfl
theorem zkz {op : AOp} (hl : light op = true) (dst : Option Nat) (e : Env) (σ : Store) : zag dst op e σ = bindO (valOf op e σ) fun v => some ((dropE op e).putV dst v, σ) := by
  cases op <;> simp only [light, Bool.false_eq_true] at hl <;> try rfl
  case load k mv x =>
    simp only [Bool.not_eq_true'] at hl
    subst hl
    rfl
  case buildSlice sz ps =>
    simp only [zag, valOf]
    cases opds e ps with
    | none => rfl
    | some ds =>
      simp only [bindO, zaa]
      cases (zau sz.sz ds && decide (ds.length * sz.sz ≤ 16777216)) <;> cases dst <;> rfl
  case append sz by_ x y =>
    simp only [zag, valOf]
    cases opd e x with
    | none => rfl
    | some c =>
      simp only [bindO, zaa]
      cases opd e y with
      | none => rfl
      | some d =>
        simp only [zaa]
        cases zbh d.d with
        | none => rfl
        | some ys =>
          simp only [zaa]
          cases zbe sz by_ c ys with
          | none => rfl
          | some r => cases dst <;> rfl
  case appendS k by_ x y =>
    simp only [zag, valOf]
    cases opd e x with
    | none => rfl
    | some c =>
      simp only [bindO, zaa]
      cases opd e y with
      | none => rfl
      | some d =>
        simp only [zaa]
        cases d.d.str? with
        | none => rfl
        | some str =>
          simp only [zaa]
          cases zbe k by_ c (za6 str) with
          | none => rfl
          | some r => cases dst <;> rfl
  case slice3 sz x lo hi mx =>
    simp only [zag, valOf]
    cases opd e x with
    | none => rfl
    | some c =>
    simp only [bindO, zaa]
    cases optLo e lo with
    | none => rfl
    | some l =>
    simp only [zaa]
    cases opd e hi with
    | none => rfl
    | some h =>
    simp only [zaa]
    cases h.d.nat? with
    | none => rfl
    | some hn =>
    simp only [zaa]
    cases opd e mx with
    | none => rfl
    | some m =>
    simp only [zaa]
    cases m.d.nat? with
    | none => rfl
    | some mn =>
    simp only [zaa]
    cases zjc sz c.d l hn mn with
    | none => rfl
    | some d => cases dst <;> rfl
  case allocN s z =>
    simp only [zag, valOf]
    cases lfree e.locs s <;> rfl
  case boxN s x =>
    simp only [zag, valOf, dropE]
    cases opd e x with
    | none => rfl
    | some c =>
      simp only [bindO, zaa]
      cases lfree e.locs s && c.d.ok <;> rfl
  case storeB b k x y =>
    simp only [zag, valOf, dropE]
    cases addr e x with
    | none => rfl
    | some p =>
      simp only [bindO, zaa]
      cases opd e y with
      | none => rfl
      | some c =>
        simp only [zaa]
        cases p with
        | loc b' off =>
          simp only
          cases b' == b with
          | false => rfl
          | true =>
            simp only [zae]
            cases aget e.boxes b with
            | none => rfl
            | some cs =>
              simp only [zaa]
              cases fits c k off cs <;> cases dst <;> rfl
        | ptr id off => rfl
        | eptr d => rfl
/-! ### What an operation changes, slot by slot -/
def Val.cell? : Val → Option Cell
  | .c x => some x
  | .l _ _ => none
def Val.loc? : Val → Option (Nat × Nat)
  | .c _ => none
  | .l b off => some (b, off)
abbrev Dat := Val × List Nat × BF
structure Acts (dst : Option Nat) (dat : Dat) (e e1 : Env) : Prop where
  slots : ∀ s, aget e1.slots s = if dst = some s then dat.1.cell? else if s ∈ dat.2.1 then (aget e.slots s).map unown else aget e.slots s
  locs : ∀ s, aget e1.locs s = if dst = some s then dat.1.loc? else aget e.locs s
  boxes : ∀ b, aget e1.boxes b = match dat.2.2 with
    | some (b', f) => if b' = b then f (aget e.boxes b) else aget e.boxes b
    | none => aget e.boxes b
  defers : e1.defers = e.defers
theorem zei (x : AOpd) (s : Nat) : aget (x.drop e).slots s = if s ∈ omvs x then (aget e.slots s).map unown else aget e.slots s := by
  cases x with
  | mv t =>
    simp only [AOpd.drop, omvs, List.mem_singleton]
    cases ht : aget e.slots t with
    | none =>
      simp only [zad]
      split
      · rename_i h; subst h; rw [ht]; rfl
      · rfl
    | some c =>
      simp only [zaa, zao]
      by_cases h : t = s
      · subst h; rw [if_pos rfl, if_pos rfl, ht]; rfl
      · rw [if_neg h, if_neg (fun k => h k.symm)]
  | tmp t => simp [AOpd.drop, omvs]
  | const d => simp [AOpd.drop, omvs]
theorem zeh (x : AOpd) : (x.drop e).locs = e.locs ∧ (x.drop e).boxes = e.boxes ∧ (x.drop e).defers = e.defers := by
  cases x with
  | mv t =>
    simp only [AOpd.drop]
    cases aget e.slots t <;> exact ⟨rfl, rfl, rfl⟩
  | _ => exact ⟨rfl, rfl, rfl⟩
theorem zbs {dst : Option Nat} {v : Val} {e0 : Env} (D : List Nat) (B : BF) (h1 : ∀ s, aget e0.slots s = if s ∈ D then (aget e.slots s).map unown else aget e.slots s) (h2 : e0.locs = e.locs)
    (h3 : ∀ b, aget e0.boxes b = match B with | some (b', f) => if b' = b then f (aget e.boxes b) else aget e.boxes b | none => aget e.boxes b) (h4 : e0.defers = e.defers) : Acts dst (v, D, B) e (e0.putV dst v) := by
  cases dst with
  | none =>
    have : e0.putV none v = e0 := by cases v <;> rfl
    rw [this]
    exact ⟨fun s => by simp [h1 s], fun s => by simp [h2], h3, h4⟩
  | some d =>
    cases v with
    | c c =>
      refine ⟨fun s => ?_, fun s => ?_, h3, h4⟩
      · simp only [Env.putV, Env.put, zao, Option.some.injEq]
        split
        · rfl
        · exact h1 s
      · simp only [Env.putV, Env.put, zar, Option.some.injEq, h2]
        rfl
    | l b off =>
      refine ⟨fun s => ?_, fun s => ?_, h3, h4⟩
      · simp only [Env.putV, zar, Option.some.injEq]
        split
        · rfl
        · exact h1 s
      · simp only [Env.putV, zao, Option.some.injEq, h2]
        rfl
theorem znv {op : AOp} (hl : light op = true) (dst : Option Nat) (v : Val) {σ : Store} (hv : valOf op e σ = some v) : Acts dst (v, zdw op, dbox op e) e ((dropE op e).putV dst v) := by
  have plain : dropE op e = e → zdw op = [] → dbox op e = none → Acts dst (v, zdw op, dbox op e) e ((dropE op e).putV dst v) := by
    intro h1 h2 h3
    rw [h1, h2, h3]
    exact zbs [] none (fun s => by simp) rfl (fun b => rfl) rfl
  cases op <;> simp only [light, Bool.false_eq_true] at hl <;> try exact plain rfl rfl rfl
  case load k mv x =>
    simp only [Bool.not_eq_true'] at hl
    subst hl
    exact plain rfl rfl rfl
  case mov x =>
    obtain ⟨k1, k2, k3⟩ := zeh (e := e) x
    exact zbs (omvs x) none (zei x) k1 (fun b => by rw [show dropE (.mov x) e = x.drop e from rfl, k2]) k3
  case append sz by_ x y =>
    obtain ⟨k1, k2, k3⟩ := zeh (e := e) x
    exact zbs (omvs x) none (zei x) k1 (fun b => by rw [show dropE (.append sz by_ x y) e = x.drop e from rfl, k2]) k3
  case appendS k by_ x y =>
    obtain ⟨k1, k2, k3⟩ := zeh (e := e) x
    exact zbs (omvs x) none (zei x) k1 (fun b => by rw [show dropE (.appendS k by_ x y) e = x.drop e from rfl, k2]) k3
  case loadL k mv x =>
    cases mv with
    | false => exact plain rfl rfl rfl
    | true =>
      simp only [dropE, zbk, zdw, dbox]
      cases ha : addr e x with
      | none => exact zbs [] none (fun s => by simp [zad]) rfl (fun b => rfl) rfl
      | some p =>
        simp only [zaa]
        cases p with
        | loc b off =>
          simp only
          cases hb : aget e.boxes b with
          | none =>
            refine zbs [] _ (fun s => by simp [zad]) rfl (fun b' => ?_) rfl
            simp only [zad]
            split
            · rename_i h; subst h; rw [hb]; rfl
            · rfl
          | some cs =>
            refine zbs [] _ (fun s => by simp [zaa]) rfl (fun b' => ?_) rfl
            simp only [zaa, zao]
            split
            · rename_i h; subst h; rw [hb]; rfl
            · rfl
        | ptr id off => exact zbs [] none (fun s => by simp) rfl (fun b => rfl) rfl
        | eptr d => exact zbs [] none (fun s => by simp) rfl (fun b => rfl) rfl
  case allocN s z =>
    refine zbs [] (some (s, fun _ => some (z.map Cell.of))) (fun t => by simp [dropE]) rfl (fun b => ?_) rfl
    simp only [dropE, zao]
  case boxN s x =>
    simp only [valOf] at hv
    obtain ⟨c, h1, hv⟩ := zab hv
    simp only [dropE, dbox, zdw, h1]
    refine zbs [] (some (s, fun _ => some (c.d.cells.map Cell.of))) (fun t => by simp) rfl (fun b => ?_) rfl
    simp only [zao]
  case storeB b k x y =>
    simp only [valOf] at hv
    obtain ⟨p, h1, hv⟩ := zab hv
    obtain ⟨c, h2, hv⟩ := zab hv
    cases p with
    | loc b' off =>
      obtain ⟨h3, hv⟩ := zak hv
      obtain ⟨cs, h4, hv⟩ := zab hv
      simp only [dropE, dbox, zdw, h1, h2, h4]
      obtain ⟨k1, k2, k3⟩ := zeh (e := e) y
      refine zbs (omvs y) (some (b, fun o => o.map fun cs => zap cs off (zbb c))) (zei y) k1 (fun b2 => ?_) k3
      simp only [zao]
      split
      · rename_i h; subst h; rw [h4]; rfl
      · rfl
    | ptr id off => cases hv
    | eptr d => cases hv
def datO (o : AOper) (e : Env) (σ : Store) : Option Dat := bindO (zc2 o.guard e) fun w => ifB w (bindO (valOf o.op e σ) fun v => some (v, zdw o.op, dbox o.op e)) (some (.c ⟨false, .undef⟩, [], none))
theorem zgz {o : AOper} (h : Agree (zge o) e e') : zc2 o.guard e = zc2 o.guard e' := by
  unfold zge at h
  cases hg : o.guard with
  | none => rfl
  | some p =>
    obtain ⟨s, b⟩ := p
    rw [hg] at h
    simp only [zc2, (h s (by simp)).1]
theorem zg3 {o : AOper} (σ : Store) (hl : light o.op = true) (h : Agree (zge o) e e') (hb : BoxA o.op e e') (hm : mvBox o.op = true → ∀ b, aget e.boxes b = aget e'.boxes b) (hf : ∀ s, zdj o.op = some s → lfree e.locs s = lfree e'.locs s) : datO o e σ = datO o e' σ := by
  have h2 : Agree (looks o.op) e e' := Agree.right h
  simp only [datO, zgz h, zvv σ hl h2 hb hm hf, zxg hl h2]
theorem zxf {o : AOper} (hl : light o.op = true) (hn : zet o.op = false) (e : Env) (σ σ' : Store) : datO o e σ = datO o e σ' := by
  simp only [datO, zvw hl hn e σ σ']
theorem zny {op : AOp} (hl : light op = true) : op.kind = .op := by
  cases op <;> simp only [light, Bool.false_eq_true] at hl <;> rfl
theorem zka {o : AOper} (hl : light o.op = true) {σ : Store} {st : Step} (h : zah o e σ = some st) : ∃ dat e1, datO o e σ = some dat ∧ st = .next e1 σ ∧ Acts o.dst dat e e1 := by
  unfold zah at h
  obtain ⟨w, hw, h⟩ := zab h
  rw [zny hl] at h
  simp only [datO, hw, bindO, zaa]
  cases w with
  | true =>
    simp only [zae] at h ⊢
    obtain ⟨⟨e1, σ1⟩, h1, h⟩ := zab h
    cases h
    rw [zkz hl] at h1
    obtain ⟨v, hv, h1⟩ := zab h1
    cases h1
    exact ⟨_, _, by rw [hv]; rfl, rfl, znv hl _ v hv⟩
  | false =>
    simp only [zac, Option.some.injEq] at h ⊢
    subst h
    exact ⟨_, _, rfl, rfl, zbs (v := .c ⟨false, .undef⟩) [] none (fun s => by simp) rfl (fun b => rfl) rfl⟩
theorem zjr {o : AOper} (hl : light o.op = true) (σ : Store) {dat : Dat} (h : datO o e σ = some dat) : ∃ e1, zah o e σ = some (.next e1 σ) ∧ Acts o.dst dat e e1 := by
  unfold datO at h
  obtain ⟨w, hw, h⟩ := zab h
  simp only [zah, hw, bindO, zaa, zny hl, zkz hl]
  cases w with
  | true =>
    simp only [zae] at h ⊢
    obtain ⟨v, hv, h⟩ := zab h
    cases h
    rw [hv]
    exact ⟨_, rfl, znv hl _ v hv⟩
  | false =>
    simp only [zac, Option.some.injEq] at h ⊢
    subst h
    exact ⟨_, rfl, zbs (v := .c ⟨false, .undef⟩) [] none (fun s => by simp) rfl (fun b => rfl) rfl⟩
theorem Acts.eqv {dst : Option Nat} {dat : Dat} {e1 e1' : Env} (h : Acts dst dat e e1) (h' : Acts dst dat e' e1') (he : Eqv e e') : Eqv e1 e1' :=
  ⟨fun s => by rw [h.slots, h'.slots, he.slots], fun s => by rw [h.locs, h'.locs, he.locs], fun b => by rw [h.boxes, h'.boxes, he.boxes], by rw [h.defers, h'.defers, he.defers]⟩
theorem Acts.agree {dst : Option Nat} {dat : Dat} {e1 : Env} (h : Acts dst dat e e1) {L : List Nat} (h1 : ∀ d, dst = some d → d ∉ L) (h2 : ∀ s ∈ dat.2.1, s ∉ L) : Agree L e e1 := fun s hs => by
  have n1 : ¬ dst = some s := fun k => h1 s k hs
  have n2 : s ∉ dat.2.1 := fun k => h2 s k hs
  exact ⟨by rw [h.slots, if_neg n1, if_neg n2], by rw [h.locs, if_neg n1]⟩
theorem zp9 : ∀ (cs : List Cell) (o : Nat), (za5 cs o).map Cell.d = cs.map Cell.d
  | [], 0 => rfl
  | [], _ + 1 => rfl
  | _ :: _, 0 => rfl
  | c :: cs, o + 1 => by simp only [za5, List.map_cons, zp9 cs o]
theorem zku {op : AOp} {b : Nat} {f : Option (List Cell) → Option (List Cell)} (h : dbox op e = some (b, f)) : (wd op = some b ∨ ∀ o, (f o).map (·.map Cell.d) = o.map (·.map Cell.d)) ∧ ∀ b', wb op = some (some b') → b' = b := by
  unfold dbox at h
  split at h
  · split at h
    · cases h
      refine ⟨.inr fun o => ?_, fun b' h => by simp only [wb, Option.some.injEq, reduceCtorEq] at h⟩
      cases o with
      | none => rfl
      | some cs => simp only [Option.map_some, zp9]
    · cases h
  · split at h
    · cases h
      exact ⟨.inl rfl, fun b' h => by simp only [wb, Option.some.injEq] at h; exact h.symm⟩
    · cases h
  · cases h
    exact ⟨.inl rfl, fun b' h => by simp only [wb, Option.some.injEq] at h; exact h.symm⟩
  · split at h
    · cases h
      exact ⟨.inl rfl, fun b' h => by simp only [wb, Option.some.injEq] at h; exact h.symm⟩
    · cases h
  · cases h
theorem zhz {o : AOper} {dat : Dat} {σ : Store} (h : datO o e σ = some dat) : dat.2.2 = none ∨ dat.2.2 = dbox o.op e := by
  unfold datO at h
  obtain ⟨w, _, h⟩ := zab h
  cases w with
  | false => simp only [zac, Option.some.injEq] at h; subst h; exact .inl rfl
  | true =>
    simp only [zae] at h
    obtain ⟨v, _, h⟩ := zab h
    cases h
    exact .inr rfl
theorem Acts.boxD1 {o : AOper} {dat : Dat} {e1 : Env} {σ : Store} (h : Acts o.dst dat e e1) (hd : datO o e σ = some dat) {b : Nat} (hb : wd o.op ≠ some b) : BoxD1 e e1 b := by
  unfold BoxD1
  rw [h.boxes]
  rcases zhz hd with hn | hn
  · rw [hn]
  · cases hx : dat.2.2 with
    | none => rfl
    | some q =>
      obtain ⟨b', f⟩ := q
      rw [hx] at hn
      simp only
      by_cases hbb : b' = b
      · subst hbb
        rw [if_pos rfl]
        rcases (zku hn.symm).1 with h | h
        · exact absurd h hb
        · exact (h _).symm
      · rw [if_neg hbb]
theorem Acts.boxA {o : AOper} {dat : Dat} {e1 : Env} {σ : Store} {op : AOp} (h : Acts o.dst dat e e1) (hd : datO o e σ = some dat) (hc : clash (rb op) (wd o.op) = false) : BoxA op e e1 := by
  unfold BoxA
  cases hr : rb op with
  | none => trivial
  | some r =>
    rw [hr] at hc
    cases r with
    | none =>
      intro b
      refine h.boxD1 hd fun hw => ?_
      rw [hw] at hc
      cases hc
    | some b =>
      refine h.boxD1 hd fun hw => ?_
      rw [hw] at hc
      simp [clash] at hc
theorem zv5 {op : AOp} {e e' : Env} (h : ∀ b, aget e.boxes b = aget e'.boxes b) : BoxA op e e' := by
  unfold BoxA
  split
  · trivial
  · exact fun b => by unfold BoxD1; rw [h]
  · unfold BoxD1; rw [h]
theorem Acts.swap {dp di : Option Nat} {p i : Dat} {e1 e2 e1' e2' : Env} (h1 : Acts dp p e e1) (h2 : Acts di i e1 e2) (k1 : Acts di i e e1') (k2 : Acts dp p e1' e2')
    (hd : ∀ s, dp = some s → di ≠ some s) (hpi : ∀ s, dp = some s → s ∉ i.2.1) (hip : ∀ s, di = some s → s ∉ p.2.1) (hb : p.2.2 = none ∨ i.2.2 = none ∨ ∃ bp fp bi fi, p.2.2 = some (bp, fp) ∧ i.2.2 = some (bi, fi) ∧ bp ≠ bi) : Eqv e2 e2' := by
  refine ⟨fun s => ?_, fun s => ?_, fun b => ?_, by rw [h2.defers, h1.defers, k2.defers, k1.defers]⟩
  · rw [h2.slots, h1.slots, k2.slots, k1.slots]
    by_cases a : dp = some s
    · rw [if_pos a, if_neg (hd s a), if_neg (hpi s a), if_pos a]
    · by_cases b : di = some s
      · rw [if_pos b, if_neg a, if_neg (hip s b), if_pos b]
      · rw [if_neg b, if_neg a, if_neg a, if_neg b]
        by_cases c : s ∈ i.2.1 <;> by_cases d : s ∈ p.2.1 <;> simp [c, d]
  · rw [h2.locs, h1.locs, k2.locs, k1.locs]
    by_cases a : dp = some s
    · rw [if_pos a, if_neg (hd s a), if_pos a]
    · by_cases b : di = some s
      · rw [if_pos b, if_neg a, if_pos b]
      · rw [if_neg b, if_neg a, if_neg a, if_neg b]
  · rw [h2.boxes, h1.boxes, k2.boxes, k1.boxes]
    rcases hb with hb | hb | ⟨bp, fp, bi, fi, h1, h2, hne⟩
    · rw [hb]
    · rw [hb]
    · rw [h1, h2]
      simp only
      by_cases ha : bi = b
      · subst ha
        simp only [if_true, if_neg hne]
      · simp only [if_neg ha]
theorem zde {l : List (Nat × (Nat × Nat))} {s : Nat} : lfree l s = true ↔ aget l s = none ∧ ∀ t b o, aget l t = some (b, o) → b ≠ s := by
  unfold lfree
  cases h : aget l s with
  | some q => simp [zaa]
  | none =>
    rw [zad, List.all_eq_true]
    constructor
    · intro hall
      refine ⟨rfl, fun t b o ht => ?_⟩
      have hk : ∃ q ∈ l, q.1 = t := by
        clear hall h
        induction l with
        | nil => simp [zbu] at ht
        | cons p l ih =>
          obtain ⟨k, v⟩ := p
          rw [zay] at ht
          by_cases hkt : k = t
          · exact ⟨(k, v), by simp, hkt⟩
          · rw [if_neg hkt] at ht
            obtain ⟨q, hq, hqt⟩ := ih ht
            exact ⟨q, by simp [hq], hqt⟩
      obtain ⟨q, hq, rfl⟩ := hk
      have := hall q hq
      rw [ht, zaa] at this
      simpa using this
    · rintro ⟨_, h2⟩ q _
      cases hq : aget l q.1 with
      | none => rfl
      | some r =>
        obtain ⟨b, o⟩ := r
        rw [zaa]
        have := h2 _ b o hq
        simpa using this
mutual
theorem D.same_eq : ∀ {a b : D}, D.same a b = true → a = b
  | .undef, b, h => by cases b <;> simp_all [D.same]
  | .bool x, b, h => by cases b <;> simp_all [D.same]
  | .int k n, b, h => by
    cases b <;> simp only [D.same, Bool.false_eq_true, Bool.and_eq_true, beq_iff_eq] at h
    have hk : ∀ {k k' : IntKind}, za3 k k' = true → k = k' := by
      intro k k' h
      cases k <;> cases k' <;> simp_all [za3]
    rw [hk h.1, h.2]
  | .str x, b, h => by cases b <;> simp_all [D.same]
  | .nils, b, h => by cases b <;> simp_all [D.same]
  | .list k x, b, h => by
    cases b <;> simp only [D.same, Bool.false_eq_true, Bool.and_eq_true, beq_iff_eq] at h
    rename_i k' y
    obtain ⟨⟨⟨h1, h2⟩, h3⟩, h4⟩ := h
    have : k = k' := by cases k; cases k'; simp_all
    rw [this, zf1 h4]
  | .agg x, b, h => by
    cases b <;> simp only [D.same, Bool.false_eq_true] at h
    rw [zf1 h]
  | .tup x, b, h => by
    cases b <;> simp only [D.same, Bool.false_eq_true] at h
    rw [zf1 h]
  | .nilp, b, h => by cases b <;> simp_all [D.same]
  | .ptr x y, b, h => by cases b <;> simp_all [D.same]
  | .eptr x, b, h => by
    cases b <;> simp only [D.same, Bool.false_eq_true] at h
    rw [D.same_eq h]
  | .fn g x y, b, h => by
    cases b <;> simp only [D.same, Bool.false_eq_true, Bool.and_eq_true, decide_eq_true_eq] at h
    obtain ⟨⟨rfl, h1⟩, h2⟩ := h
    rw [zf1 h1, zf1 h2]
  | .nilfn, b, h => by cases b <;> simp_all [D.same]
  | .iface t x, b, h => by
    cases b <;> simp only [D.same, Bool.false_eq_true, Bool.and_eq_true, beq_iff_eq] at h
    rw [h.1, D.same_eq h.2]
  | .niliface, b, h => by cases b <;> simp_all [D.same]
  | .junk, b, h => by cases b <;> simp_all [D.same]
  | .arr k x y z, b, h => by
    cases b <;> simp only [D.same, Bool.false_eq_true, Bool.and_eq_true, beq_iff_eq] at h
    rename_i k' x' y' z'
    obtain ⟨⟨⟨⟨⟨h1, h2⟩, h3⟩, rfl⟩, rfl⟩, rfl⟩ := h
    have : k = k' := by cases k; cases k'; simp_all
    rw [this]
  | .empt, b, h => by cases b <;> simp_all [D.same]
  | .map x, b, h => by cases b <;> simp_all [D.same]
  | .nilmap, b, h => by cases b <;> simp_all [D.same]
theorem zf1 : ∀ {a b : List D}, sameL a b = true → a = b
  | [], b, h => by cases b <;> simp_all [sameL]
  | x :: a, b, h => by
    cases b with
    | nil => simp [sameL] at h
    | cons y b =>
      simp only [sameL, Bool.and_eq_true] at h
      rw [D.same_eq h.1, zf1 h.2]
end
theorem zp6 : ∀ {a b : List Cell}, zgn a b = true → a = b
  | [], b, h => by cases b <;> simp_all [zgn]
  | x :: a, b, h => by
    cases b with
    | nil => simp [zgn] at h
    | cons y b =>
      simp only [zgn, Bool.and_eq_true, beq_iff_eq] at h
      obtain ⟨⟨h1, h2⟩, h3⟩ := h
      obtain ⟨o, d⟩ := x
      obtain ⟨o', d'⟩ := y
      simp only at h1 h2
      rw [h1, D.same_eq h2, zp6 h3]
theorem zp7 : ∀ {a b : List (D × D × Nat)}, zgo a b = true → a = b
  | [], b, h => by cases b <;> simp_all [zgo]
  | (x, y, z) :: a, b, h => by
    cases b with
    | nil => simp [zgo] at h
    | cons q b =>
      obtain ⟨x', y', z'⟩ := q
      simp only [zgo, Bool.and_eq_true, beq_iff_eq] at h
      obtain ⟨⟨⟨h1, h2⟩, rfl⟩, h3⟩ := h
      rw [D.same_eq h1, D.same_eq h2, zp7 h3]
theorem ze3b {a b : Option (List Cell)} (h : sameO a b = true) : a = b := by
  cases a <;> cases b <;> simp only [sameO, Bool.false_eq_true] at h
  rw [zp6 h]
theorem ze2b {a b : Option Oth} (h : sameM a b = true) : a = b := by
  unfold sameM at h
  split at h
  · simp only [Bool.and_eq_true, beq_iff_eq] at h
    rw [zp7 h.1, h.2]
  · simp only [Bool.and_eq_true, beq_iff_eq] at h
    rw [h.1, h.2]
  · cases h
theorem zsx {α : Type} {l : List (Nat × α)} {f : Nat → Bool} (h : (l.all fun p => f p.1) = true) {id : Nat} {x : α} (hx : aget l id = some x) : f id = true := by
  induction l with
  | nil => simp [zbu] at hx
  | cons p l ih =>
    obtain ⟨k, v⟩ := p
    simp only [List.all_cons, Bool.and_eq_true] at h
    rw [zay] at hx
    by_cases hk : k = id
    · subst hk; exact h.1
    · rw [if_neg hk] at hx
      exact ih h.2 hx
theorem zjb {σ σ' : Store} (h : zcn σ σ' = true) {id : Nat} {cs : List Cell} (hc : aget σ.objs id = some cs) : aget σ'.objs id = some cs := by
  unfold zcn at h
  rw [Bool.and_eq_true] at h
  have := zsx (f := fun k => sameO (aget σ.objs k) (aget σ'.objs k)) h.1 hc
  rw [← ze3b this]
  exact hc
theorem zqv {σ σ' : Store} (h : zcn σ σ' = true) {id : Nat} {x : Oth} (hc : aget σ.oth id = some x) : aget σ'.oth id = some x := by
  unfold zcn at h
  rw [Bool.and_eq_true] at h
  have := zsx (f := fun k => sameM (aget σ.oth k) (aget σ'.oth k)) h.2 hc
  rw [← ze2b this]
  exact hc
theorem zy0 {op : AOp} (hl : light op = true) (hn : zet op = true) {σ σ' : Store} (h : zcn σ σ' = true) {v : Val} (hv : valOf op e σ = some v) : valOf op e σ' = some v := by
  have map_same : ∀ {d : D} {es : List (D × D × Nat)}, mapOf σ.oth d = some es → mapOf σ'.oth d = some es := by
    intro d es hd
    cases d <;> simp only [mapOf, reduceCtorEq] at hd ⊢
    · obtain ⟨x, h1, hd⟩ := zab hd
      rw [zqv h h1]
      exact hd
    · exact hd
  cases op <;> simp only [zet, Bool.false_eq_true] at hn
  case load k mv x =>
    simp only [valOf, evalV] at hv ⊢
    obtain ⟨p, h1, hv⟩ := zab hv
    rw [h1]
    simp only [bindO, zaa]
    cases p with
    | loc b off => exact hv
    | eptr d => exact hv
    | ptr id off =>
      obtain ⟨cs, h2, hv⟩ := zab hv
      simp only [zjb h h2, zaa]
      exact hv
  case loadP k x =>
    simp only [valOf, evalV] at hv ⊢
    obtain ⟨p, h1, hv⟩ := zab hv
    rw [h1]
    simp only [bindO, zaa]
    cases p with
    | loc b off => cases hv
    | eptr d => cases hv
    | ptr id off =>
      obtain ⟨cs, h2, hv⟩ := zab hv
      simp only [zjb h h2, zaa]
      exact hv
  case lookup ks z ok x y =>
    simp only [valOf, evalV] at hv ⊢
    obtain ⟨c, h1, hv⟩ := zab hv
    rw [h1]
    simp only [bindO, zaa]
    obtain ⟨k, h2, hv⟩ := zab hv
    obtain ⟨es, h3, hv⟩ := zab hv
    rw [h2, map_same h3]
    exact hv
  case lenM x =>
    simp only [valOf, evalV] at hv ⊢
    obtain ⟨c, h1, hv⟩ := zab hv
    rw [h1]
    simp only [bindO, zaa]
    obtain ⟨es, h3, hv⟩ := zab hv
    rw [map_same h3]
    exact hv
theorem zzr {o : AOper} (hl : light o.op = true) (hn : zet o.op = true) {σ σ' : Store} (h : zcn σ σ' = true) {dat : Dat} (hd : datO o e σ = some dat) : datO o e σ' = some dat := by
  unfold datO at hd ⊢
  obtain ⟨w, h1, hd⟩ := zab hd
  rw [h1]
  simp only [bindO, zaa]
  cases w with
  | false => exact hd
  | true =>
    simp only [zae] at hd ⊢
    obtain ⟨v, h2, hd⟩ := zab hd
    rw [zy0 hl hn h h2]
    exact hd
theorem zbzb {op : AOp} (hl : light op = true) (ha : zdj op = none) {σ : Store} {b off : Nat} (hv : valOf op e σ = some (.l b off)) : ∃ t o, aget e.locs t = some (b, o) := by
  have addr_loc : ∀ {x : AOpd} {b off : Nat}, addr e x = some (.loc b off) → ∃ t, aget e.locs t = some (b, off) := by
    intro x b off h
    have key : ∀ t, (caseO (aget e.locs t) (bindO (aget e.slots t) fun c => ptrOf c.d) fun p => some (.loc p.1 p.2)) = some (Ptr.loc b off) → aget e.locs t = some (b, off) := by
      intro t h
      cases hl : aget e.locs t with
      | some p =>
        obtain ⟨x, y⟩ := p
        rw [hl] at h
        simp only [zaa, Option.some.injEq, Ptr.loc.injEq] at h
        rw [h.1, h.2]
      | none =>
        rw [hl, zad] at h
        obtain ⟨c, h1, h⟩ := zab h
        cases hd : c.d <;> rw [hd] at h <;> simp only [ptrOf, reduceCtorEq, Option.some.injEq] at h
    cases x with
    | tmp t => exact ⟨t, key t h⟩
    | mv t => exact ⟨t, key t h⟩
    | const d => cases d <;> simp [addr, ptrOf] at h
  cases op <;> simp only [light, Bool.false_eq_true] at hl <;> simp only [zdj, reduceCtorEq] at ha <;> simp only [valOf, evalV] at hv
  case nilCheck x =>
    obtain ⟨p, h1, hv⟩ := zab hv
    cases p <;> simp only [Option.some.injEq, Val.l.injEq, reduceCtorEq] at hv
    obtain ⟨rfl, rfl⟩ := hv
    exact ⟨_, _, (addr_loc h1).choose_spec⟩
  case fieldAddr o k x =>
    obtain ⟨p, h1, hv⟩ := zab hv
    cases p with
    | loc b' o' =>
      simp only [Option.some.injEq, Val.l.injEq] at hv
      obtain ⟨rfl, rfl⟩ := hv
      exact ⟨_, _, (addr_loc h1).choose_spec⟩
    | ptr id o' => simp at hv
    | eptr d =>
      obtain ⟨cs, _, hv⟩ := zab hv
      obtain ⟨d', _, hv⟩ := zab hv
      cases hv
  case indexAddrP n sz x i =>
    obtain ⟨p, h1, hv⟩ := zab hv
    obtain ⟨ic, _, hv⟩ := zab hv
    obtain ⟨m, _, hv⟩ := zab hv
    obtain ⟨_, hv⟩ := zak hv
    cases p with
    | loc b' o' =>
      simp only [Option.some.injEq, Val.l.injEq] at hv
      obtain ⟨rfl, rfl⟩ := hv
      exact ⟨_, _, (addr_loc h1).choose_spec⟩
    | ptr id o' => simp at hv
    | eptr d => cases hv
  all_goals
    exfalso
    revert hv
    simp only [bindO, caseO, ifB]
    repeat' split
    all_goals simp
def disj (l m : List Nat) : Bool := l.all fun x => !m.contains x
def zof (op : AOp) : Bool := light op || isMem op || (match op with | .call _ _ => true | .callv _ _ => true | .callW _ _ => true | .callvW _ _ => true | .panic _ => true | _ => false)
def okAl (o : AOper) : Bool := match zdj o.op with
  | some s => o.dst == some s && o.guard.isNone
  | none => true
def apart (p i : AOper) : Bool :=
  light p.op && (zof i.op && (light i.op || !zet p.op || zch i.op) && disj p.dst.toList (zge i) && disj i.dst.toList (zge p) && disj p.dst.toList i.dst.toList && disj (zdw p.op) (zge i) && disj (zdw i.op) (zge p) &&
  disj p.dst.toList (zdw i.op) && disj i.dst.toList (zdw p.op) && !clash (rb p.op) (wd i.op) && !clash (rb i.op) (wd p.op) && !ziv (wb p.op) (wb i.op) && okAl p && okAl i && ((zdj i.op).isNone || (zdj p.op).isSome))
theorem zkw {l m : List Nat} (h : disj l m = true) : ∀ s ∈ l, s ∉ m := fun s hs => by
  simpa using List.all_eq_true.1 h s hs
theorem zkt {op : AOp} (h : wb op = none) : dbox op e = none := by
  cases op <;> simp only [wb, reduceCtorEq] at h <;> try rfl
  case loadL k mv x => cases mv <;> simp only [reduceCtorEq] at h; rfl
theorem Acts.box_none {o : AOper} {dat : Dat} {σ : Store} (hd : datO o e σ = some dat) (hm : wb o.op = none) : dat.2.2 = none := by
  rcases zhz hd with h | h
  · exact h
  · rw [h, zkt hm]
theorem zgd {o : AOper} {dat : Dat} {σ : Store} (hd : datO o e σ = some dat) : ∀ s ∈ dat.2.1, s ∈ zdw o.op := by
  unfold datO at hd
  obtain ⟨w, _, h⟩ := zab hd
  cases w with
  | false => simp only [zac, Option.some.injEq] at h; subst h; intro s hs; cases hs
  | true =>
    simp only [zae] at h
    obtain ⟨v, _, h⟩ := zab h
    cases h
    exact fun s hs => hs
theorem zgc {o : AOper} {dat : Dat} {σ : Store} (hd : datO o e σ = some dat) (ho : okAl o = true) {s : Nat} (ha : zdj o.op = some s) : o.dst = some s ∧ lfree e.locs s = true ∧ dat.1 = .l s 0 := by
  unfold okAl at ho
  rw [ha] at ho
  simp only [Bool.and_eq_true, beq_iff_eq, Option.isNone_iff_eq_none] at ho
  unfold datO at hd
  rw [ho.2] at hd
  simp only [zc2, bindO, zaa, zae] at hd
  cases hop : o.op <;> rw [hop] at ha hd <;> simp only [zdj, reduceCtorEq, Option.some.injEq] at ha <;> subst ha
  · simp only [valOf] at hd
    cases hf : lfree e.locs _ with
    | false => rw [hf] at hd; cases hd
    | true =>
      rw [hf] at hd
      simp only [zae, zaa, Option.some.injEq] at hd
      subst hd
      exact ⟨ho.1, rfl, rfl⟩
  · rename_i s x
    simp only [valOf] at hd
    cases hx : opd e x with
    | none => rw [hx] at hd; cases hd
    | some c =>
      rw [hx] at hd
      simp only [bindO, zaa] at hd
      cases hf : lfree e.locs s with
      | false => rw [hf] at hd; cases hd
      | true =>
        rw [hf, Bool.true_and] at hd
        cases hok : c.d.ok with
        | false => rw [hok] at hd; cases hd
        | true =>
          rw [hok] at hd
          simp only [zae, zaa, Option.some.injEq] at hd
          subst hd
          exact ⟨ho.1, rfl, rfl⟩
theorem zkp {op : AOp} (h : Agree (looks op) e e') : zai op e = zai op e' := by
  cases op <;> simp only [looks] at h <;> simp only [zai]
  case call f as => rw [zcu h]
  case callv x as => rw [zaj h.left, zcu h.right]
  case callW f as => rw [zcu h]
  case callvW x as => rw [zaj h.left, zcu h.right]
theorem zkj {op : AOp} (h : Agree (looks op) e e') : zaf op e = zaf op e' := by
  cases op <;> simp only [looks] at h <;> simp only [zaf]
  case panic x => rw [zaj h]
inductive OutEqv : OpsOut → OpsOut → Prop where
  | normal {e e' : Env} {σ : Store} (h : Eqv e e') : OutEqv (.normal e σ) (.normal e' σ)
  | panic {d : D} {e e' : Env} {σ : Store} (h : e.defers = e'.defers) : OutEqv (.panic d e σ) (.panic d e' σ)
theorem OutEqv.refl (o : OpsOut) : OutEqv o o := by
  cases o
  · exact .normal (Eqv.refl _)
  · exact .panic rfl
theorem OutEqv.trans {o o' o'' : OpsOut} (h : OutEqv o o') (k : OutEqv o' o'') : OutEqv o o'' := by
  cases h with
  | normal h => cases k with | normal k => exact .normal (h.trans k)
  | panic h => cases k with | panic k => exact .panic (h.trans k)
theorem Eqv.agree {e e' : Env} (h : Eqv e e') (L : List Nat) : Agree L e e' := fun s _ => ⟨h.slots s, h.locs s⟩
theorem Eqv.boxA {e e' : Env} (h : Eqv e e') (op : AOp) : BoxA op e e' := zv5 h.boxes
theorem Eqv.lfr {e e' : Env} (h : Eqv e e') (s : Nat) : lfree e.locs s = lfree e'.locs s := by
  have : lfree e.locs s = true ↔ lfree e'.locs s = true := by simp only [zde, h.locs]
  cases h1 : lfree e.locs s <;> cases h2 : lfree e'.locs s <;> simp_all
def zwd : AOp → Bool
  | .store _ _ _ => true
  | _ => false
def ze3 (op : AOp) : Bool := zof op || zwd op
theorem zi6 {e e' : Env} (h : Eqv e e') (d : Option Nat) (c : Cell) : Eqv (e.put d c) (e'.put d c) := by
  cases d with
  | none => exact h
  | some s => exact ⟨fun t => by simp only [Env.put, zao, h.slots], fun t => by simp only [Env.put, zar, h.locs], h.boxes, h.defers⟩
theorem zbqb {e e' : Env} (h : Eqv e e') {dst : Option Nat} {k : Nat} {x y : AOpd} {σ : Store} {e1 : Env} {σ1 : Store} (hs : zag dst (.store k x y) e σ = some (e1, σ1)) : ∃ e1', zag dst (.store k x y) e' σ = some (e1', σ1) ∧ Eqv e1 e1' := by
  have hd : Eqv (y.drop e) (y.drop e') := by
    obtain ⟨k1, k2, k3⟩ := zeh (e := e) y
    obtain ⟨q1, q2, q3⟩ := zeh (e := e') y
    exact ⟨fun s => by rw [zei, zei, h.slots], fun s => by rw [k1, q1, h.locs], fun s => by rw [k2, q2, h.boxes], by rw [k3, q3, h.defers]⟩
  simp only [zag] at hs ⊢
  rw [← zby (h.agree _), ← zaj (h.agree _)]
  obtain ⟨p, h1, hs⟩ := zab hs
  obtain ⟨c, h2, hs⟩ := zab hs
  rw [h1, h2]
  simp only [bindO, zaa]
  cases p with
  | loc b off =>
    simp only at hs ⊢
    obtain ⟨cs, h3, hs⟩ := zab hs
    obtain ⟨h4, hs⟩ := zak hs
    cases hs
    rw [← h.boxes, h3]
    simp only [zaa, h4, zae]
    have hE : Eqv { y.drop e with boxes := aset e.boxes b (zap cs off (zbb c)) } { y.drop e' with boxes := aset e'.boxes b (zap cs off (zbb c)) } :=
      ⟨hd.slots, hd.locs, fun s => by simp only [zao, h.boxes], hd.defers⟩
    exact ⟨_, rfl, zi6 hE _ _⟩
  | ptr id off =>
    simp only at hs ⊢
    obtain ⟨cs, h3, hs⟩ := zab hs
    obtain ⟨h4, hs⟩ := zak hs
    cases hs
    rw [h3]
    simp only [zaa, h4, zae]
    exact ⟨_, rfl, zi6 hd _ _⟩
  | eptr d => cases hs
theorem ze6b {e e' : Env} (h : Eqv e e') {o : AOper} (ho : ze3 o.op = true) {σ : Store} {st : Step} (hs : zah o e σ = some st) :
    (∃ e1 e1' σ1, st = .next e1 σ1 ∧ zah o e' σ = some (.next e1' σ1) ∧ Eqv e1 e1') ∨ ((∀ e1 σ1, st ≠ .next e1 σ1) ∧ zah o e' σ = some st) := by
  by_cases hl : light o.op = true
  · obtain ⟨dat, e1, h1, rfl, h2⟩ := zka hl hs
    rw [zg3 σ hl (h.agree _) (h.boxA _) (fun _ b => h.boxes b) (fun s _ => h.lfr s)] at h1
    obtain ⟨e1', k1, k2⟩ := zjr hl σ h1
    exact .inl ⟨e1, e1', σ, rfl, k1, h2.eqv k2 h⟩
  · unfold zah at hs ⊢
    obtain ⟨w, hw, hs⟩ := zab hs
    rw [← zgz (o := o) (h.agree _), hw]
    simp only [bindO, zaa]
    cases w with
    | false =>
      simp only [zac, Option.some.injEq] at hs ⊢
      subst hs
      exact .inl ⟨_, _, _, rfl, rfl, zi6 h _ _⟩
    | true =>
      simp only [zae] at hs ⊢
      by_cases hm : isMem o.op = true
      · rw [zrv hm] at hs ⊢
        simp only at hs ⊢
        rw [znw hm] at hs ⊢
        obtain ⟨⟨e1, σ1⟩, h1, hs⟩ := zab hs
        cases hs
        unfold memE at h1 ⊢
        rw [← zmg σ hm (h.agree _)]
        obtain ⟨r, h2, h1⟩ := zab h1
        cases h1
        rw [h2]
        exact .inl ⟨_, _, _, rfl, rfl, zi6 h _ _⟩
      have hm' : isMem o.op = false := by simpa using hm
      cases hk : o.op <;> rw [hk] at ho hl hs hm' <;> simp only [ze3, zof, light, zwd, hm', Bool.or_self, Bool.false_eq_true, not_true_eq_false] at ho hl <;> simp only [AOp.kind] at hs ⊢ <;> simp only [isMem, Bool.true_eq_false] at hm'
      · exfalso
        rename_i k mv x
        cases mv <;> simp at ho hl
      · obtain ⟨⟨e1, σ1⟩, h1, hs⟩ := zab hs
        cases hs
        obtain ⟨e1', k1, k2⟩ := zbqb h h1
        rw [k1]
        exact .inl ⟨e1, e1', σ1, rfl, rfl, k2⟩
      all_goals first
        | (obtain ⟨⟨f, as⟩, h1, hs⟩ := zab hs
           cases hs
           rw [← zkp (h.agree _), h1]
           exact .inr ⟨(fun _ _ h => by cases h), rfl⟩)
        | (obtain ⟨d, h1, hs⟩ := zab hs
           cases hs
           rw [← zkj (h.agree _), h1]
           exact .inr ⟨(fun _ _ h => by cases h), rfl⟩)
theorem zj8 {C : CallF} : ∀ {l : List AOper} (_ : ∀ o ∈ l, ze3 o.op = true) {e e' : Env} (_ : Eqv e e') {σ : Store} {out : OpsOut}, za0 C l e σ = some out → ∃ out', za0 C l e' σ = some out' ∧ OutEqv out out'
  | [], _, e, e', he, σ, out, h => by
    simp only [za0, Option.some.injEq] at h
    subst h
    exact ⟨_, rfl, .normal he⟩
  | o :: l, hl, e, e', he, σ, out, h => by
    simp only [za0] at h ⊢
    obtain ⟨st, h1, h⟩ := zab h
    have ih := @zj8 C l fun o ho => hl o (by simp [ho])
    rcases ze6b he (hl o (by simp)) h1 with ⟨e1, e1', σ1, rfl, k1, k2⟩ | ⟨k0, k1⟩
    · rw [k1]
      exact ih k2 h
    · rw [k1]
      simp only [bindO, zaa]
      cases st with
      | next e1 σ1 => exact absurd rfl (k0 e1 σ1)
      | call f as =>
        simp only at h ⊢
        obtain ⟨⟨r, σ1⟩, h2, h⟩ := zab h
        rw [h2]
        obtain ⟨h3, h⟩ := zak h
        simp only [zaa, h3, zae]
        cases r with
        | ret c => exact ih (zi6 he _ _) h
        | panic d =>
          simp only [Option.some.injEq] at h
          subst h
          exact ⟨_, rfl, .panic he.defers⟩
      | panic d =>
        simp only [Option.some.injEq] at h
        subst h
        exact ⟨_, rfl, .panic he.defers⟩
theorem zesb {C : CallF} {p i : AOper} (ha : apart p i = true) {l : List AOper} (hl : ∀ o ∈ l, ze3 o.op = true) {σ : Store} {out : OpsOut} (h : za0 C (p :: i :: l) e σ = some out) :
    ∃ out', za0 C (i :: p :: l) e σ = some out' ∧ OutEqv out out' := by
  simp only [apart, Bool.and_eq_true, Bool.not_eq_true'] at ha
  obtain ⟨hlp, ⟨⟨⟨⟨⟨⟨⟨⟨⟨⟨⟨⟨⟨⟨hpi, a0⟩, a1⟩, a2⟩, a3⟩, a4⟩, a5⟩, a6⟩, a7⟩, b1⟩, b2⟩, b3⟩, b4⟩, b5⟩, b6⟩⟩ := ha
  have a0' := Bool.or_eq_true_iff.1 a0
  have b6' := Bool.or_eq_true_iff.1 b6
  simp only [za0] at h ⊢
  obtain ⟨st, h1, h⟩ := zab h
  obtain ⟨pd, e1, q1, rfl, q2⟩ := zka hlp h1
  simp only at h
  obtain ⟨st2, h2, h⟩ := zab h
  have toL : ∀ {d : Option Nat} {L : List Nat}, disj d.toList L = true → ∀ s, d = some s → s ∉ L := fun hh s hs => zkw hh s (by simp [hs])
  have ag : Agree (zge i) e e1 := q2.agree (toL a1) (fun s hs => zkw a4 s (zgd q1 s hs))
  have mvp : mvBox p.op = true → wb i.op = none := fun hm => by
    cases hp : p.op <;> rw [hp] at hm <;> simp only [mvBox, Bool.false_eq_true] at hm
    subst hm
    rw [hp] at b3
    cases hw : wb i.op with
    | none => rfl
    | some r => rw [hw] at b3; cases r <;> simp [wb, ziv] at b3
  have mvi : mvBox i.op = true → wb p.op = none := fun hm => by
    cases hi : i.op <;> rw [hi] at hm <;> simp only [mvBox, Bool.false_eq_true] at hm
    subst hm
    rw [hi] at b3
    cases hw : wb p.op with
    | none => rfl
    | some r => rw [hw] at b3; cases r <;> simp [wb, ziv] at b3
  by_cases hli : light i.op = true
  · obtain ⟨idt, e2, r1, rfl, r2⟩ := zka hli h2
    have r1' : datO i e σ = some idt := by
      rw [← r1]
      refine zg3 σ hli ag (q2.boxA q1 b2) (fun hm b => ?_) (fun s' hs' => ?_)
      · rw [q2.boxes, Acts.box_none q1 (mvi hm)]
      · -- both make boxes
        have hp : (zdj p.op).isSome = true := b6'.resolve_left (by rw [hs']; simp)
        obtain ⟨s, hs⟩ := Option.isSome_iff_exists.1 hp
        obtain ⟨k1, k2, k3⟩ := zgc q1 b4 hs
        obtain ⟨g1, g2, g3⟩ := zgc r1 b5 hs'
        rw [g2]
        have hne : s ≠ s' := fun hh => toL a3 s k1 (by rw [g1, hh]; simp)
        obtain ⟨m1, m2⟩ := zde.1 g2
        obtain ⟨n1, n2⟩ := zde.1 k2
        refine zde.2 ⟨?_, fun t b o ht => ?_⟩
        · rw [q2.locs, if_neg (fun hh => hne (by rw [k1] at hh; exact Option.some.inj hh))] at m1
          exact m1
        · by_cases hts : t = s
          · rw [hts, n1] at ht
            cases ht
          · refine m2 t b o ?_
            rw [q2.locs, k1, if_neg (fun hh => hts (Option.some.inj hh).symm)]
            exact ht
    obtain ⟨e1', s1, s2⟩ := zjr hli σ r1'
    have q1' : datO p e1' σ = some pd := by
      rw [← q1]
      refine (zg3 σ hlp (s2.agree (toL a2) (fun s hs => zkw a5 s (zgd r1' s hs))) (s2.boxA r1' b1) (fun hm b => ?_) (fun s hs => ?_)).symm
      · rw [s2.boxes, Acts.box_none r1' (mvp hm)]
      · obtain ⟨k1, k2, k3⟩ := zgc q1 b4 hs
        rw [k2]
        symm
        obtain ⟨n1, n2⟩ := zde.1 k2
        have hd : i.dst ≠ some s := fun hh => toL a3 s k1 (by rw [hh]; simp)
        refine zde.2 ⟨by rw [s2.locs, if_neg hd]; exact n1, fun t b o ht => ?_⟩
        rw [s2.locs] at ht
        split at ht
        · -- what i yields
          cases hia : zdj i.op with
          | some s' =>
            obtain ⟨g1, g2, g3⟩ := zgc r1' b5 hia
            rw [g3] at ht
            simp only [Val.loc?, Option.some.injEq, Prod.mk.injEq] at ht
            intro hh
            apply hd
            rw [g1, ht.1, hh]
          | none =>
            cases hv : idt.1 with
            | c c => rw [hv] at ht; cases ht
            | l b' o' =>
              rw [hv] at ht
              simp only [Val.loc?, Option.some.injEq, Prod.mk.injEq] at ht
              obtain ⟨rfl, rfl⟩ := ht
              have hvv : ∃ v, valOf i.op e σ = some v ∧ v = idt.1 := by
                unfold datO at r1'
                obtain ⟨w, _, r1'⟩ := zab r1'
                cases w with
                | false => simp only [zac, Option.some.injEq] at r1'; subst r1'; cases hv
                | true =>
                  simp only [zae] at r1'
                  obtain ⟨v, hv', r1'⟩ := zab r1'
                  cases r1'
                  exact ⟨v, hv', rfl⟩
              obtain ⟨v, hv1, hv2⟩ := hvv
              rw [hv2, hv] at hv1
              obtain ⟨t', o2, hl'⟩ := zbzb hli hia hv1
              exact n2 t' _ _ hl'
        · exact n2 t b o ht
    obtain ⟨e2', t1, t2⟩ := zjr hlp σ q1'
    have hE : Eqv e2 e2' := q2.swap r2 s2 t2 (fun s hs k => toL a3 s hs (by simp [k])) (fun s hs k => toL a6 s hs (zgd r1' s k)) (fun s hs k => toL a7 s hs (zgd q1 s k)) (by
      rcases zhz q1 with hp | hp
      · exact .inl hp
      · rcases zhz r1' with hi | hi
        · exact .inr (.inl hi)
        · cases hpb : dbox p.op e with
          | none => exact .inl (hp.trans hpb)
          | some x =>
            cases hib : dbox i.op e with
            | none => exact .inr (.inl (hi.trans hib))
            | some y =>
              obtain ⟨bp, fp⟩ := x
              obtain ⟨bi, fi⟩ := y
              refine .inr (.inr ⟨bp, fp, bi, fi, hp.trans hpb, hi.trans hib, ?_⟩)
              have s1 := (zku hpb).2
              have s2 := (zku hib).2
              have n1 : wb p.op ≠ none := fun h => by rw [zkt h] at hpb; cases hpb
              have n2 : wb i.op ≠ none := fun h => by rw [zkt h] at hib; cases hib
              cases hwp : wb p.op with
              | none => exact absurd hwp n1
              | some x =>
                cases hwi : wb i.op with
                | none => exact absurd hwi n2
                | some y =>
                  rw [hwp, hwi] at b3
                  cases x with
                  | none => cases y <;> simp [ziv] at b3
                  | some x =>
                    cases y with
                    | none => simp [ziv] at b3
                    | some y =>
                      have := s1 x hwp
                      have := s2 y hwi
                      subst_vars
                      simpa [ziv] using b3)
    rw [s1]
    simp only [bindO, zaa, t1]
    exact zj8 hl hE h
  · -- a call, a panic, an operation on the store
    have hli' : light i.op = false := by simpa using hli
    unfold zah at h2 ⊢
    obtain ⟨w, hw, h2⟩ := zab h2
    rw [zgz ag, hw]
    simp only [bindO, zaa]
    have after : ∀ (c : Cell) (σ1 : Store) (out : OpsOut), (zet p.op = true → σ1 = σ ∨ zcn σ σ1 = true) → za0 C l (e1.put i.dst c) σ1 = some out → ∃ out', (caseO (zah p (e.put i.dst c) σ1) none fun s => match s with
        | .next e' σ' => za0 C l e' σ'
        | .call f as => bindO (C f as σ1) fun r => ifB (stOK (zch p.op) σ1 r.2) (match r.1 with
          | .ret c' => za0 C l ((e.put i.dst c).put p.dst c') r.2
          | .panic d => some (.panic d (e.put i.dst c) r.2)) none
        | .panic d => some (.panic d (e.put i.dst c) σ1)) = some out' ∧ OutEqv out out' := by
      intro c σ1 out hst hrun
      have s2 : Acts i.dst (.c c, [], none) e (e.put i.dst c) := zbs (v := .c c) [] none (fun s => by simp) rfl (fun b => rfl) rfl
      have r2 : Acts i.dst (.c c, [], none) e1 (e1.put i.dst c) := zbs (v := .c c) [] none (fun s => by simp) rfl (fun b => rfl) rfl
      have q1σ : datO p e σ1 = some pd := by
        cases hn : zet p.op with
        | false => rw [← zxf hlp hn e σ σ1]; exact q1
        | true =>
          rcases hst hn with rfl | hw1
          · exact q1
          · exact zzr hlp hn hw1 q1
      have q1' : datO p (e.put i.dst c) σ1 = some pd := by
        rw [← q1σ]
        refine (zg3 σ1 hlp (s2.agree (toL a2) (fun s hs => by cases hs)) (zv5 fun b => by rw [s2.boxes]) (fun _ b => by rw [s2.boxes]) (fun s hs => ?_)).symm
        obtain ⟨k1, k2, k3⟩ := zgc q1 b4 hs
        rw [k2]
        symm
        obtain ⟨n1, n2⟩ := zde.1 k2
        have hd : i.dst ≠ some s := fun hh => toL a3 s k1 (by rw [hh]; simp)
        refine zde.2 ⟨by rw [s2.locs, if_neg hd]; exact n1, fun t b o ht => ?_⟩
        rw [s2.locs] at ht
        split at ht
        · cases ht
        · exact n2 t b o ht
      obtain ⟨e2', t1, t2⟩ := zjr hlp σ1 q1'
      have hE := q2.swap r2 s2 t2 (fun s hs k => toL a3 s hs (by simp [k])) (fun s hs k => by cases k) (fun s hs k => toL a7 s hs (zgd q1 s k)) (.inr (.inl rfl))
      rw [t1]
      simp only [zaa]
      exact zj8 hl hE hrun
    cases w with
    | false =>
      simp only [zac, Option.some.injEq] at h2 ⊢
      subst h2
      simp only at h
      exact after _ σ out (fun _ => .inl rfl) h
    | true =>
      simp only [zae] at h2 ⊢
      have hdf : e1.defers = e.defers := q2.defers
      have ldw : zet p.op = true → zch i.op = true := fun hn => by
        rcases a0' with hx | hx
        · rcases Bool.or_eq_true_iff.1 hx with hx | hx
          · exact absurd hx hli
          · rw [hn] at hx; cases hx
        · exact hx
      by_cases hm : isMem i.op = true
      · rw [zrv hm] at h2 ⊢
        simp only at h2 ⊢
        rw [znw hm] at h2 ⊢
        obtain ⟨⟨e2, σ2⟩, h3, h2⟩ := zab h2
        cases h2
        unfold memE at h3 ⊢
        rw [zmg (e' := e1) σ hm (Agree.right ag)]
        obtain ⟨r, h4, h3⟩ := zab h3
        cases h3
        rw [h4]
        refine after _ _ out (fun hn => ?_) h
        exfalso
        have := ldw hn
        cases hi : i.op <;> rw [hi] at hm this <;> simp only [isMem, Bool.false_eq_true] at hm <;> simp only [zch, Bool.false_eq_true] at this
      have hm' : isMem i.op = false := by simpa using hm
      cases hk : i.op.kind with
      | op =>
        exfalso
        cases hi : i.op <;> rw [hi] at hpi hli' hm' hk <;> simp only [AOp.kind, reduceCtorEq] at hk <;> simp only [zof, hli', hm', Bool.or_self, Bool.false_eq_true] at hpi
      | call =>
        rw [hk] at h2
        simp only at h2 ⊢
        obtain ⟨⟨f, as⟩, h3, h2⟩ := zab h2
        cases h2
        rw [zkp (e' := e1) (Agree.right ag), h3]
        simp only [bindO, zaa] at h ⊢
        obtain ⟨⟨r, σ1⟩, h4, h⟩ := zab h
        rw [h4]
        simp only [zaa] at h ⊢
        obtain ⟨h5, h⟩ := zak h
        simp only [h5, zae]
        cases r with
        | ret c => exact after c σ1 out (fun hn => .inr (by rw [ldw hn] at h5; exact h5)) h
        | panic d =>
          simp only [Option.some.injEq] at h
          subst h
          exact ⟨_, rfl, .panic hdf⟩
      | panic =>
        rw [hk] at h2
        simp only at h2 ⊢
        obtain ⟨d, h3, h2⟩ := zab h2
        cases h2
        rw [zkj (e' := e1) (Agree.right ag), h3]
        simp only [Option.some.injEq] at h
        subst h
        exact ⟨_, rfl, .panic hdf⟩
theorem zst {C : CallF} {i : AOper} : ∀ {A B : List AOper} (_ : ∀ p ∈ A, apart p i = true) (_ : ∀ o ∈ A ++ B, ze3 o.op = true) {e : Env} {σ : Store} {out : OpsOut}, za0 C (A ++ i :: B) e σ = some out →
    ∃ out', za0 C (i :: (A ++ B)) e σ = some out' ∧ OutEqv out out'
  | [], B, _, _, e, σ, out, h => ⟨out, h, OutEqv.refl out⟩
  | p :: A, B, ha, hl, e, σ, out, h => by
    have hp := ha p (by simp)
    have hlp : light p.op = true := by
      simp only [apart, Bool.and_eq_true] at hp
      exact hp.1
    simp only [List.cons_append] at h ⊢
    simp only [za0] at h
    obtain ⟨st, h1, h⟩ := zab h
    obtain ⟨pd, e1, q1, rfl, q2⟩ := zka hlp h1
    simp only at h
    obtain ⟨out1, k1, k2⟩ := zst (fun q hq => ha q (by simp [hq])) (fun o ho => hl o (by simp at ho ⊢; exact .inr ho)) h
    have h3 : za0 C (p :: i :: (A ++ B)) e σ = some out1 := by
      rw [za0, h1]
      exact k1
    obtain ⟨out2, k3, k4⟩ := zesb hp (fun o ho => hl o (by simp at ho ⊢; exact .inr ho)) h3
    exact ⟨out2, k3, k2.trans k4⟩
end
end Go.Mx

/-
  The machine once more, by recursors, for the kernel to reckon; and that it is the same one.
-/
import Derived.Test.YtjldgfgjbdogoaaGreatDoorMyCore
set_option linter.unusedSimpArgs false
set_option linter.unusedVariables false
set_option linter.unusedSectionVars false
namespace Go.Mx
open Go
set_option maxRecDepth 100000
@[reducible] noncomputable def bR {β : Type} (f t : β) (b : Bool) : β := Bool.rec (motive := fun _ => β) f t b
@[reducible] noncomputable def bO {α β : Type} (x : Option α) (f : α → Option β) : Option β := Option.rec (motive := fun _ => Option β) none f x
@[reducible] noncomputable def cO {α β : Type} (x : Option α) (n : β) (f : α → β) : β := Option.rec (motive := fun _ => β) n f x
@[reducible] noncomputable def iB {β : Type} (b : Bool) (x y : β) : β := Bool.rec (motive := fun _ => β) y x b
theorem bO_eq {α β : Type} (x : Option α) (f : α → Option β) : bO x f = bindO x f := by cases x <;> rfl
theorem cO_eq {α β : Type} (x : Option α) (n : β) (f : α → β) : cO x n f = caseO x n f := by cases x <;> rfl
theorem iB_eq {β : Type} (b : Bool) (x y : β) : iB b x y = ifB b x y := by cases b <;> rfl
@[reducible] noncomputable def oR {α β : Type} (n : β) (f : α → β) (x : Option α) : β := Option.rec (motive := fun _ => β) n f x
noncomputable def agetF {α : Type} (l : List (Nat × α)) : Nat → Option α := List.rec (motive := fun _ => Nat → Option α) (fun _ => none) (fun p _ ih s => bR (ih s) (some p.2) (Nat.beq p.1 s)) l
theorem beqF (a b : Nat) : (a == b) = Nat.beq a b := by rw [Bool.eq_iff_iff]; simp
theorem zao {α : Type} (l : List (Nat × α)) (s : Nat) : agetF l s = aget l s := by
  induction l with
  | nil => rfl
  | cons p r ih =>
    obtain ⟨k, v⟩ := p
    show bR (agetF r s) (some v) (Nat.beq k s) = _
    rw [aget, beqF, ih]
    cases Nat.beq k s <;> rfl
noncomputable def nthF {α : Type} (l : List α) : Nat → Option α := List.rec (motive := fun _ => Nat → Option α) (fun _ => none) (fun x _ ih n => Nat.rec (motive := fun _ => Option α) (some x) (fun m _ => ih m) n) l
theorem za1 {α : Type} (l : List α) (n : Nat) : nthF l n = nth l n := by
  induction l generalizing n with
  | nil => cases n <;> rfl
  | cons x r ih =>
    cases n with
    | zero => rfl
    | succ n => exact ih n
noncomputable def asetF {α : Type} (l : List (Nat × α)) : Nat → α → List (Nat × α) := List.rec (motive := fun _ => Nat → α → List (Nat × α)) (fun s x => [(s, x)]) (fun p r ih s x => bR (bR (p :: ih s x) ((s, x) :: p :: r) (Nat.ble s p.1)) ((p.1, x) :: r) (Nat.beq p.1 s)) l
theorem zam {α : Type} (l : List (Nat × α)) (s : Nat) (x : α) : asetF l s x = aset l s x := by
  induction l with
  | nil => rfl
  | cons p r ih =>
    obtain ⟨k, v⟩ := p
    show bR (bR ((k, v) :: asetF r s x) ((s, x) :: (k, v) :: r) (Nat.ble s k)) ((k, x) :: r) (Nat.beq k s) = _
    rw [aset, beqF, ih]
    cases Nat.beq k s <;> cases Nat.ble s k <;> rfl
noncomputable def memF (l : List Nat) : Nat → Bool := List.rec (motive := fun _ => Nat → Bool) (fun _ => false) (fun x _ ih k => bR (ih k) true (Nat.beq x k)) l
theorem zaz (l : List Nat) (k : Nat) : memF l k = mem l k := by
  induction l with
  | nil => rfl
  | cons x r ih =>
    show bR (memF r k) true (Nat.beq x k) = _
    rw [mem, beqF, ih]
    cases Nat.beq x k <;> rfl
noncomputable def adelF {α : Type} (l : List (Nat × α)) : List Nat → List (Nat × α) := List.rec (motive := fun _ => List Nat → List (Nat × α)) (fun _ => []) (fun p _ ih c => bR (p :: ih c) (ih c) (memF c p.1)) l
theorem zan {α : Type} (l : List (Nat × α)) (c : List Nat) : adelF l c = adel l c := by
  induction l with
  | nil => rfl
  | cons p r ih =>
    obtain ⟨k, v⟩ := p
    show bR ((k, v) :: adelF r c) (adelF r c) (memF c k) = _
    rw [adel, zaz, ih]
    cases mem c k <;> rfl
noncomputable def zdj {α : Type} (l : List (Nat × α)) : Nat → List (Nat × α) := List.rec (motive := fun _ => Nat → List (Nat × α)) (fun _ => []) (fun p _ ih s => bR (p :: ih s) (ih s) (Nat.beq p.1 s)) l
theorem zag {α : Type} (l : List (Nat × α)) (s : Nat) : zdj l s = adel1 l s := by
  induction l with
  | nil => rfl
  | cons p r ih =>
    obtain ⟨k, v⟩ := p
    show bR ((k, v) :: zdj r s) (zdj r s) (Nat.beq k s) = _
    rw [adel1, beqF, ih]
    cases Nat.beq k s <;> rfl
noncomputable def zlh (l : List (Nat × (Nat × Nat))) : Nat → List (Nat × (Nat × Nat)) := List.rec (motive := fun _ => Nat → List (Nat × (Nat × Nat))) (fun _ => []) (fun p _ ih s => bR (p :: ih s) (zdj (ih s) p.1) (Nat.beq p.2.1 s)) l
theorem zah (l : List (Nat × (Nat × Nat))) (s : Nat) : zlh l s = lkill l s := by
  induction l with
  | nil => rfl
  | cons p r ih =>
    obtain ⟨k, b, o⟩ := p
    show bR ((k, (b, o)) :: zlh r s) (zdj (zlh r s) k) (Nat.beq b s) = _
    rw [lkill, beqF, zag, ih]
    cases Nat.beq b s <;> rfl
noncomputable def zd9 (l : List Cell) : Nat → List Cell → List Cell := List.rec (motive := fun _ => Nat → List Cell → List Cell) (fun _ _ => [])
  (fun c cs ih n new => List.rec (motive := fun _ => List Cell) (c :: cs) (fun x new' _ => Nat.rec (motive := fun _ => List Cell) (x :: ih 0 new') (fun m _ => c :: ih m new) n) new) l
theorem zac (l : List Cell) (n : Nat) (new : List Cell) : zd9 l n new = zbf l n new := by
  induction l generalizing n new with
  | nil => cases new <;> cases n <;> rfl
  | cons c r ih =>
    cases new with
    | nil => cases n <;> rfl
    | cons x new =>
      cases n with
      | zero =>
        show x :: zd9 r 0 new = _
        rw [zbf, ih]
      | succ n =>
        show c :: zd9 r n (x :: new) = _
        rw [ih]
        rfl
noncomputable def zpf (l : List Cell) : Nat → Nat → Option (List D) := List.rec (motive := fun _ => Nat → Nat → Option (List D)) (fun o n => Nat.rec (motive := fun _ => Option (List D)) (Nat.rec (motive := fun _ => Option (List D)) (some []) (fun _ _ => none) n) (fun _ _ => none) o)
  (fun c _ ih o n => Nat.rec (motive := fun _ => Option (List D)) (Nat.rec (motive := fun _ => Option (List D)) (some []) (fun m _ => oR none (fun l => some (c.d :: l)) (ih 0 m)) n) (fun o' _ => ih o' n) o) l
theorem zai (l : List Cell) (o n : Nat) : zpf l o n = takeC l o n := by
  induction l generalizing o n with
  | nil => cases o <;> cases n <;> rfl
  | cons c r ih =>
    cases o with
    | zero =>
      cases n with
      | zero => rfl
      | succ n =>
        show oR none (fun l => some (c.d :: l)) (zpf r 0 n) = _
        rw [takeC, ih]
        cases takeC r 0 n <;> rfl
    | succ o =>
      show zpf r o n = _
      rw [takeC, ih]
noncomputable def zlg (l : List (Nat × (Nat × Nat))) (s : Nat) : Bool := cO (agetF l s) (l.all fun p => cO (agetF l p.1) true fun q => !(q.1 == s)) fun _ => false
theorem zaj (x0 x1) : zlg x0 x1 = lfree x0 x1 := by
  (first | rfl | (simp only [zlg, lfree, bO_eq, cO_eq, iB_eq, zao, za1, zam, zaz, zan, zag, zah, zai, zac]; done) | (simp only [zlg, lfree, bO_eq, cO_eq, iB_eq, zao, za1, zam, zaz, zan, zag, zah, zai, zac]; rfl))
noncomputable def zht (os : List (Nat × List Cell)) : D → Option (List D)
  | .arr k id off len => bO (agetF os id) fun cs => iB ((k.ag || k.sz == 1) && decide ((off + len) * k.sz ≤ cs.length)) (some (elems k cs off len)) none
  | d => asList d
theorem zaf (x0 x1) : zht x0 x1 = listOf x0 x1 := by
  cases x1 <;> (first | rfl | (simp only [zht, listOf, bO_eq, cO_eq, iB_eq, zao, za1, zam, zaz, zan, zag, zah, zai, zac, zaj]; done) | (simp only [zht, listOf, bO_eq, cO_eq, iB_eq, zao, za1, zam, zaz, zan, zag, zah, zai, zac, zaj]; rfl))
noncomputable def partF (k : Option Nat) (cs : List D) (off : Nat) : Option D :=
  match k with
  | none => nthF cs off
  | some n => iB (decide (off + n ≤ cs.length)) (some (.agg ((cs.drop off).take n))) none
theorem zar (x0 x1 x2) : partF x0 x1 x2 = part x0 x1 x2 := by
  cases x0 <;> (first | rfl | (simp only [partF, part, bO_eq, cO_eq, iB_eq, zao, za1, zam, zaz, zan, zag, zah, zai, zac, zaj, zaf]; done) | (simp only [partF, part, bO_eq, cO_eq, iB_eq, zao, za1, zam, zaz, zan, zag, zah, zai, zac, zaj, zaf]; rfl))
noncomputable def opdF (e : Env) : AOpd → Option Cell
  | .tmp s => bO (agetF e.slots s) fun c => some ⟨false, c.d⟩
  | .mv s => agetF e.slots s
  | .const d => some ⟨false, d⟩
theorem za4 (x0 x1) : opdF x0 x1 = opd x0 x1 := by
  cases x1 <;> (first | rfl | (simp only [opdF, opd, bO_eq, cO_eq, iB_eq, zao, za1, zam, zaz, zan, zag, zah, zai, zac, zaj, zaf, zar]; done) | (simp only [opdF, opd, bO_eq, cO_eq, iB_eq, zao, za1, zam, zaz, zan, zag, zah, zai, zac, zaj, zaf, zar]; rfl))
noncomputable def opdsF (e : Env) (l : List AOpd) : Option (List D) := List.rec (motive := fun _ => Option (List D)) (some []) (fun x _ ih => oR none (fun c => oR none (fun ds => some (c.d :: ds)) ih) (opdF e x)) l
theorem zat (e : Env) (l : List AOpd) : opdsF e l = opds e l := by
  induction l with
  | nil => rfl
  | cons x r ih =>
    show oR none (fun c => oR none (fun ds => some (c.d :: ds)) (opdsF e r)) (opdF e x) = _
    rw [opds, za4, ih]
    cases opd e x with
    | none => rfl
    | some c => cases opds e r <;> rfl
noncomputable def AOpd.dropF (e : Env) : AOpd → Env
  | .mv s => cO (agetF e.slots s) e fun c => { e with slots := asetF e.slots s ⟨false, c.d⟩ }
  | _ => e
theorem AOpd.dropF_eq (x0 x1) : AOpd.dropF x0 x1 = AOpd.drop x0 x1 := by
  cases x1 <;> (first | rfl | (simp only [AOpd.dropF, AOpd.drop, bO_eq, cO_eq, iB_eq, zao, za1, zam, zaz, zan, zag, zah, zai, zac, zaj, zaf, zar, za4, zat]; done) | (simp only [AOpd.dropF, AOpd.drop, bO_eq, cO_eq, iB_eq, zao, za1, zam, zaz, zan, zag, zah, zai, zac, zaj, zaf, zar, za4, zat]; rfl))
noncomputable def addrF (e : Env) : AOpd → Option Ptr
  | .tmp s => cO (agetF e.locs s) (bO (agetF e.slots s) fun c => ptrOf c.d) fun p => some (.loc p.1 p.2)
  | .mv s => cO (agetF e.locs s) (bO (agetF e.slots s) fun c => ptrOf c.d) fun p => some (.loc p.1 p.2)
  | .const d => ptrOf d
theorem za0 (x0 x1) : addrF x0 x1 = addr x0 x1 := by
  cases x1 <;> (first | rfl | (simp only [addrF, addr, bO_eq, cO_eq, iB_eq, zao, za1, zam, zaz, zan, zag, zah, zai, zac, zaj, zaf, zar, za4, zat, AOpd.dropF_eq]; done) | (simp only [addrF, addr, bO_eq, cO_eq, iB_eq, zao, za1, zam, zaz, zan, zag, zah, zai, zac, zaj, zaf, zar, za4, zat, AOpd.dropF_eq]; rfl))
noncomputable def zns (e : Env) (l : List (Nat × Nat × AOpd)) : Option (List (Nat × Nat × D)) := List.rec (motive := fun _ => Option (List (Nat × Nat × D))) (some []) (fun x _ ih => oR none (fun c => oR none (fun l => some ((x.1, x.2.1, c.d) :: l)) ih) (opdF e x.2.2)) l
theorem zae (e : Env) (l : List (Nat × Nat × AOpd)) : zns e l = zce e l := by
  induction l with
  | nil => rfl
  | cons x r ih =>
    obtain ⟨a, b, x⟩ := x
    show oR none (fun c => oR none (fun l => some ((a, b, c.d) :: l)) (zns e r)) (opdF e x) = _
    rw [zce, za4, ih]
    cases opd e x with
    | none => rfl
    | some c => cases zce e r <;> rfl
noncomputable def zdg (cs : List Cell) (k : Option Nat) (off : Nat) : Option Cell :=
  match k with
  | none => nthF cs off
  | some n => bO (zpf cs off n) fun l => some ⟨false, .agg l⟩
theorem zad (x0 x1 x2) : zdg x0 x1 x2 = zbg x0 x1 x2 := by
  cases x1 <;> (first | rfl | (simp only [zdg, zbg, bO_eq, cO_eq, iB_eq, zao, za1, zam, zaz, zan, zag, zah, zai, zac, zaj, zaf, zar, za4, zat, AOpd.dropF_eq, za0, zae]; done) | (simp only [zdg, zbg, bO_eq, cO_eq, iB_eq, zao, za1, zam, zaz, zan, zag, zah, zai, zac, zaj, zaf, zar, za4, zat, AOpd.dropF_eq, za0, zae]; rfl))
noncomputable def zl9 (sz : Nat) (x : D) (n : Nat) : Option D := match x with
  | .list k es => iB (k.sz == sz) (bO (nthF es n) fun d => some (.eptr d)) none
  | .arr k id off len => iB (k.sz == sz && decide (n < len)) (some (.ptr id ((off + n) * sz))) none
  | _ => none
theorem zak (x0 x1 x2) : zl9 x0 x1 x2 = zdr x0 x1 x2 := by
  cases x1 <;> (first | rfl | (simp only [zl9, zdr, bO_eq, cO_eq, iB_eq, zao, za1, zam, zaz, zan, zag, zah, zai, zac, zaj, zaf, zar, za4, zat, AOpd.dropF_eq, za0, zae, zad]; done) | (simp only [zl9, zdr, bO_eq, cO_eq, iB_eq, zao, za1, zam, zaz, zan, zag, zah, zai, zac, zaj, zaf, zar, za4, zat, AOpd.dropF_eq, za0, zae, zad]; rfl))
noncomputable def zlk (ot : List (Nat × Oth)) : D → Option (List (D × D × Nat))
  | .nilmap => some []
  | .map id => bO (agetF ot id) fun x => match x with
    | .map es _ => some es
    | _ => none
  | _ => none
theorem zau (x0 x1) : zlk x0 x1 = mapOf x0 x1 := by
  cases x1 <;> (first | rfl | (simp only [zlk, mapOf, bO_eq, cO_eq, iB_eq, zao, za1, zam, zaz, zan, zag, zah, zai, zac, zaj, zaf, zar, za4, zat, AOpd.dropF_eq, za0, zae, zad, zak]; done) | (simp only [zlk, mapOf, bO_eq, cO_eq, iB_eq, zao, za1, zam, zaz, zan, zag, zah, zai, zac, zaj, zaf, zar, za4, zat, AOpd.dropF_eq, za0, zae, zad, zak]; rfl))
noncomputable def zh4 (ot : List (Nat × Oth)) : D → Option (Nat × List (D × D × Nat) × Nat)
  | .map id => bO (agetF ot id) fun x => match x with
    | .map es c => some (id, es, c)
    | _ => none
  | _ => none
theorem zax (x0 x1) : zh4 x0 x1 = mapAt x0 x1 := by
  cases x1 <;> (first | rfl | (simp only [zh4, mapAt, bO_eq, cO_eq, iB_eq, zao, za1, zam, zaz, zan, zag, zah, zai, zac, zaj, zaf, zar, za4, zat, AOpd.dropF_eq, za0, zae, zad, zak, zau]; done) | (simp only [zh4, mapAt, bO_eq, cO_eq, iB_eq, zao, za1, zam, zaz, zan, zag, zah, zai, zac, zaj, zaf, zar, za4, zat, AOpd.dropF_eq, za0, zae, zad, zak, zau]; rfl))
noncomputable def zjf (e : Env) : Option AOpd → Option Nat
  | some l => bO (opdF e l) fun c => c.d.nat?
  | none => some 0
theorem za2 (x0 x1) : zjf x0 x1 = optLo x0 x1 := by
  cases x1 <;> (first | rfl | (simp only [zjf, optLo, bO_eq, cO_eq, iB_eq, zao, za1, zam, zaz, zan, zag, zah, zai, zac, zaj, zaf, zar, za4, zat, AOpd.dropF_eq, za0, zae, zad, zak, zau, zax]; done) | (simp only [zjf, optLo, bO_eq, cO_eq, iB_eq, zao, za1, zam, zaz, zan, zag, zah, zai, zac, zaj, zaf, zar, za4, zat, AOpd.dropF_eq, za0, zae, zad, zak, zau, zax]; rfl))
noncomputable def zlu (e : Env) : Option AOpd → Option (Option Nat)
  | some h => bO (opdF e h) fun c => bO c.d.nat? fun n => some (some n)
  | none => some none
theorem za3 (x0 x1) : zlu x0 x1 = optHi x0 x1 := by
  cases x1 <;> (first | rfl | (simp only [zlu, optHi, bO_eq, cO_eq, iB_eq, zao, za1, zam, zaz, zan, zag, zah, zai, zac, zaj, zaf, zar, za4, zat, AOpd.dropF_eq, za0, zae, zad, zak, zau, zax, za2]; done) | (simp only [zlu, optHi, bO_eq, cO_eq, iB_eq, zao, za1, zam, zaz, zan, zag, zah, zai, zac, zaj, zaf, zar, za4, zat, AOpd.dropF_eq, za0, zae, zad, zak, zau, zax, za2]; rfl))
noncomputable def zsf (op : AOp) : Env → Store → Option Val := AOp.rec (motive := fun _ => Env → Store → Option Val)
  (fun x => fun e σ =>  bO (opdF e x) fun c => some (.c c))
  (fun c a b => fun e σ =>  bO (opdF e c) fun c => bO c.d.bool? fun t => bO (iB t (opdF e a) (opdF e b)) fun c => some (.c ⟨false, c.d⟩))
  (fun y0 => fun e σ =>  none)
  (fun y0 => fun e σ =>  none)
  (fun y0 y1 => fun e σ =>  none)
  (fun y0 y1 => fun e σ =>  none)
  (fun y0 => fun e σ =>  none)
  (fun y0 => fun e σ =>  none)
  (fun z parts => fun e σ =>  bO (zns e parts) fun ps => bO (fillD z ps) fun cs => some (.c ⟨false, .agg cs⟩))
  (fun y0 y1 => fun e σ =>  none)
  (fun k mv x => fun e σ =>  bO (addrF e x) fun p => match p with
    | .loc b off => bO (agetF e.boxes b) fun cs => bO (zdg cs k off) fun c => some (.c ⟨mv && c.own, c.d⟩)
    | .ptr id off => bO (agetF σ.objs id) fun cs => bO (zdg cs k off) fun c => some (.c ⟨mv && c.own, c.d⟩)
    | .eptr d => match k with
      | none => iB d.one (some (.c ⟨false, d⟩)) none
      | some n => bO d.agg? fun cs => iB (cs.length == n) (some (.c ⟨false, d⟩)) none)
  (fun k mv x => fun e σ =>  bO (addrF e x) fun p => match p with
    | .loc b off => bO (agetF e.boxes b) fun cs => bO (zdg cs k off) fun c => some (.c ⟨mv && c.own, c.d⟩)
    | .ptr _ _ => none
    | .eptr d => match k with
      | none => iB d.one (some (.c ⟨false, d⟩)) none
      | some n => bO d.agg? fun cs => iB (cs.length == n) (some (.c ⟨false, d⟩)) none)
  (fun y0 y1 y2 => fun e σ =>  none)
  (fun y0 y1 => fun e σ =>  none)
  (fun y0 y1 y2 => fun e σ =>  none)
  (fun x => fun e σ =>  bO (addrF e x) fun p => match p with
    | .loc b off => some (.l b off)
    | .ptr id off => some (.c ⟨false, .ptr id off⟩)
    | .eptr d => some (.c ⟨false, .eptr d⟩))
  (fun op x y => fun e σ =>  bO (opdF e x) fun a => bO (opdF e y) fun b => bO (binD op a.d b.d) fun d => some (.c ⟨false, d⟩))
  (fun op x y => fun e σ =>  bO (opdF e x) fun a => bO (opdF e y) fun b => bO (binBD op a.d b.d) fun d => some (.c ⟨false, d⟩))
  (fun op x => fun e σ =>  bO (opdF e x) fun a => bO (unD op a.d) fun d => some (.c ⟨false, d⟩))
  (fun k x => fun e σ =>  bO (opdF e x) fun a => bO a.d.int? fun n => some (.c ⟨false, .int k (k.wrap n.2)⟩))
  (fun x => fun e σ =>  bO (opdF e x) fun a => bO a.d.str? fun s => some (.c ⟨false, .str s⟩))
  (fun x => fun e σ =>  bO (opdF e x) fun a => bO a.d.int? fun n => some (.c ⟨false, .str (Utf8.encode n.2).data.toList⟩))
  (fun x => fun e σ =>  bO (opdF e x) fun c => bO (asList c.d) fun es => bO (zgj es) fun s => some (.c ⟨false, .str s⟩))
  (fun y0 y1 => fun e σ =>  none)
  (fun t x => fun e σ =>  bO (opdF e x) fun c => some (.c ⟨false, .iface t c.d⟩))
  (fun fn first caps => fun e σ =>  bO (opdsF e first) fun a => bO (opdsF e caps) fun b => some (.c ⟨false, .fn fn a b⟩))
  (fun sz x lo hi => fun e σ =>  bO (opdF e x) fun c => bO (zjf e lo) fun l => bO (zlu e hi) fun h => bO (zt0 sz c.d l h) fun d => some (.c ⟨false, d⟩))
  (fun x lo hi => fun e σ =>  bO (opdF e x) fun c => bO c.d.str? fun s => bO (zjf e lo) fun l => bO (zlu e hi) fun h => bO (zny s l h) fun d => some (.c ⟨false, d⟩))
  (fun off k x => fun e σ =>  bO (addrF e x) fun p => match p with
    | .loc b o => some (.l b (o + off))
    | .ptr id o => some (.c ⟨false, .ptr id (o + off)⟩)
    | .eptr d => bO d.agg? fun cs => bO (partF k cs off) fun d => some (.c ⟨false, .eptr d⟩))
  (fun off k x => fun e σ =>  bO (opdF e x) fun c => bO c.d.agg? fun cs => bO (partF k cs off) fun d => some (.c ⟨false, d⟩))
  (fun sz x i => fun e σ =>  bO (opdF e x) fun c => bO (opdF e i) fun i => bO i.d.nat? fun n => bO (zl9 sz c.d n) fun d => some (.c ⟨false, d⟩))
  (fun x i => fun e σ =>  bO (opdF e x) fun c => bO c.d.str? fun s => bO (opdF e i) fun i => bO i.d.nat? fun n =>
    bO (nthF s n) fun b => some (.c ⟨false, .int .u8 b.toNat⟩))
  (fun x i => fun e σ =>  bO (opdF e x) fun c => bO c.d.tup? fun ds => bO (nthF ds i) fun d => some (.c ⟨false, d⟩))
  (fun x => fun e σ =>  bO (opdF e x) fun c => bO (lenOf c.d) fun n => some (.c ⟨false, .int .i64 n⟩))
  (fun x => fun e σ =>  bO (opdF e x) fun c => bO c.d.str? fun s => some (.c ⟨false, .int .i64 s.length⟩))
  (fun y0 y1 y2 y3 => fun e σ =>  none)
  (fun y0 y1 y2 y3 => fun e σ =>  none)
  (fun op x => fun e σ =>  bO (opdF e x) fun c => bO c.d.isNil? fun b => bO (eqlB op b) fun d => some (.c ⟨false, d⟩))
  (fun op x => fun e σ =>  bO (opdF e x) fun c => bO c.d.isNilP? fun b => bO (eqlB op b) fun d => some (.c ⟨false, d⟩))
  (fun t z x => fun e σ =>  bO (opdF e x) fun c => bO (zck t z c.d) fun d => some (.c ⟨false, d⟩))
  (fun op x => fun e σ =>  bO (opdF e x) fun c => bO c.d.isNilS? fun b => bO (eqlB op b) fun d => some (.c ⟨false, d⟩))
  (fun op x => fun e σ =>  bO (opdF e x) fun c => bO c.d.isNilM? fun b => bO (eqlB op b) fun d => some (.c ⟨false, d⟩))
  (fun y0 y1 y2 y3 y4 => fun e σ =>  none)
  (fun y0 y1 y2 => fun e σ =>  none)
  (fun y0 y1 => fun e σ =>  none)
  (fun y0 y1 => fun e σ =>  none)
  (fun b k x => fun e σ =>  bO (addrF e x) fun p => match p with
    | .loc b' off => iB (b' == b) (bO (agetF e.boxes b) fun cs => bO (zdg cs k off) fun c => some (.c ⟨false, c.d⟩)) none
    | _ => none)
  (fun k x => fun e σ =>  bO (addrF e x) fun p => match p with
    | .eptr d => match k with
      | none => iB d.one (some (.c ⟨false, d⟩)) none
      | some n => bO d.agg? fun cs => iB (cs.length == n) (some (.c ⟨false, d⟩)) none
    | _ => none)
  (fun k x => fun e σ =>  bO (addrF e x) fun p => match p with
    | .ptr id off => bO (agetF σ.objs id) fun cs => bO (zdg cs k off) fun c => some (.c ⟨false, c.d⟩)
    | _ => none)
  (fun k x => fun e σ =>  bO (addrF e x) fun p => match p with
    | .loc _ _ => none
    | .ptr id off => bO (agetF σ.objs id) fun cs => bO (zdg cs k off) fun c => some (.c ⟨false, c.d⟩)
    | .eptr d => match k with
      | none => iB d.one (some (.c ⟨false, d⟩)) none
      | some n => bO d.agg? fun cs => iB (cs.length == n) (some (.c ⟨false, d⟩)) none)
  (fun y0 y1 y2 y3 => fun e σ =>  none)
  (fun y0 y1 y2 => fun e σ =>  none)
  (fun y0 y1 y2 => fun e σ =>  none)
  (fun mx x y => fun e σ =>  bO (opdF e x) fun a => bO (opdF e y) fun b => bO (mmD mx a.d b.d) fun d => some (.c ⟨false, d⟩))
  (fun n sz x i => fun e σ =>  bO (addrF e x) fun p => bO (opdF e i) fun i => bO i.d.nat? fun m => iB (decide (m < n)) (match p with
    | .loc b o => some (.l b (o + m * sz))
    | .ptr id o => some (.c ⟨false, .ptr id (o + m * sz)⟩)
    | .eptr _ => none) none)
  (fun n sz x i => fun e σ =>  bO (opdF e x) fun c => bO c.d.agg? fun cs => bO (opdF e i) fun i => bO i.d.nat? fun m => iB (decide (m < n) && sz == 1) (bO (nthF cs m) fun d => some (.c ⟨false, d⟩)) none)
  (fun op x y => fun e σ =>  bO (opdF e x) fun a => bO (opdF e y) fun b => bO a.d.agg? fun as => bO b.d.agg? fun bs => bO (ztw as bs) fun t => bO (eqlB op t) fun d => some (.c ⟨false, d⟩))
  (fun y0 y1 y2 y3 y4 => fun e σ =>  none)
  (fun y0 y1 => fun e σ =>  none)
  (fun y0 y1 y2 y3 => fun e σ =>  none)
  (fun y0 y1 y2 y3 y4 => fun e σ =>  none)
  (fun y0 y1 y2 => fun e σ =>  none)
  (fun y0 y1 y2 => fun e σ =>  none)
  (fun e σ =>  none)
  (fun y0 => fun e σ =>  none)
  (fun y0 y1 y2 y3 y4 => fun e σ =>  none)
  (fun y0 => fun e σ =>  none)
  (fun y0 y1 => fun e σ =>  none)
  (fun ks z ok x i => fun e σ =>  bO (opdF e x) fun c => bO (opdF e i) fun k => bO (zlk σ.oth c.d) fun es => iB (keyD ks k.d) (bO (findM k.d es) fun r => some (.c ⟨false, cO r (iB ok (.tup [z, .bool false]) z) fun v => iB ok (.tup [v.1, .bool true]) v.1⟩)) none)
  (fun y0 y1 y2 y3 => fun e σ =>  none)
  (fun x => fun e σ =>  bO (opdF e x) fun c => bO (zlk σ.oth c.d) fun es => some (.c ⟨false, .int .i64 es.length⟩))
  (fun y0 y1 y2 => fun e σ =>  none)
  (fun y0 y1 y2 y3 => fun e σ =>  none)
  (fun y0 y1 y2 => fun e σ =>  none)
  (fun y0 y1 => fun e σ =>  none)
  (fun y0 y1 => fun e σ =>  none)
  (fun y0 y1 => fun e σ =>  none)
  (fun y0 => fun e σ =>  none) op
noncomputable def zca (op : AOp) (e : Env) (σ : Store) : Option Val := zsf op e σ
theorem za5 (x0 x1 x2) : zca x0 x1 x2 = evalV x0 x1 x2 := by
  cases x0 <;> (first | rfl | (simp only [zca, evalV, bO_eq, cO_eq, iB_eq, zao, za1, zam, zaz, zan, zag, zah, zai, zac, zaj, zaf, zar, za4, zat, AOpd.dropF_eq, za0, zae, zad, zak, zau, zax, za2, za3, zsf]; done) | (simp only [zca, evalV, bO_eq, cO_eq, iB_eq, zao, za1, zam, zaz, zan, zag, zah, zai, zac, zaj, zaf, zar, za4, zat, AOpd.dropF_eq, za0, zae, zad, zak, zau, zax, za2, za3, zsf]; rfl))
noncomputable def zbs (op : AOp) (e : Env) : Env :=
  match op with
  | .mov x => x.dropF e
  | .load _ true x => cO (addrF e x) e fun p => match p with
    | .loc b off => cO (agetF e.boxes b) e fun cs => { e with boxes := asetF e.boxes b (zbu cs off) }
    | _ => e
  | .loadL _ true x => cO (addrF e x) e fun p => match p with
    | .loc b off => cO (agetF e.boxes b) e fun cs => { e with boxes := asetF e.boxes b (zbu cs off) }
    | _ => e
  | _ => e
theorem zap (x0 x1) : zbs x0 x1 = zbz x0 x1 := by
  cases x0 <;> (first | rfl | (simp only [zbs, zbz, bO_eq, cO_eq, iB_eq, zao, za1, zam, zaz, zan, zag, zah, zai, zac, zaj, zaf, zar, za4, zat, AOpd.dropF_eq, za0, zae, zad, zak, zau, zax, za2, za3, za5]; done) | (simp only [zbs, zbz, bO_eq, cO_eq, iB_eq, zao, za1, zam, zaz, zan, zag, zah, zai, zac, zaj, zaf, zar, za4, zat, AOpd.dropF_eq, za0, zae, zad, zak, zau, zax, za2, za3, za5]; rfl))
noncomputable def zbl (op : AOp) (e : Env) (σ : Store) : Store :=
  match op with
  | .load _ true x => cO (addrF e x) σ fun p => match p with
    | .ptr id off => cO (agetF σ.objs id) σ fun cs => { σ with objs := asetF σ.objs id (zbu cs off) }
    | _ => σ
  | _ => σ
theorem zal (x0 x1 x2) : zbl x0 x1 x2 = zbt x0 x1 x2 := by
  cases x0 <;> (first | rfl | (simp only [zbl, zbt, bO_eq, cO_eq, iB_eq, zao, za1, zam, zaz, zan, zag, zah, zai, zac, zaj, zaf, zar, za4, zat, AOpd.dropF_eq, za0, zae, zad, zak, zau, zax, za2, za3, za5, zap]; done) | (simp only [zbl, zbt, bO_eq, cO_eq, iB_eq, zao, za1, zam, zaz, zan, zag, zah, zai, zac, zaj, zaf, zar, za4, zat, AOpd.dropF_eq, za0, zae, zad, zak, zau, zax, za2, za3, za5, zap]; rfl))
noncomputable def Env.putF (e : Env) (dst : Option Nat) (c : Cell) : Env :=
  match dst with
  | some s => { e with slots := asetF e.slots s c, locs := zdj e.locs s }
  | none => e
theorem Env.putF_eq (x0 x1 x2) : Env.putF x0 x1 x2 = Env.put x0 x1 x2 := by
  (first | rfl | (simp only [Env.putF, Env.put, bO_eq, cO_eq, iB_eq, zao, za1, zam, zaz, zan, zag, zah, zai, zac, zaj, zaf, zar, za4, zat, AOpd.dropF_eq, za0, zae, zad, zak, zau, zax, za2, za3, za5, zap, zal]; done) | (simp only [Env.putF, Env.put, bO_eq, cO_eq, iB_eq, zao, za1, zam, zaz, zan, zag, zah, zai, zac, zaj, zaf, zar, za4, zat, AOpd.dropF_eq, za0, zae, zad, zak, zau, zax, za2, za3, za5, zap, zal]; rfl))
noncomputable def Env.putVF (e : Env) (dst : Option Nat) : Val → Env
  | .c c => e.putF dst c
  | .l b off => match dst with
    | some s => { e with slots := zdj e.slots s, locs := asetF e.locs s (b, off) }
    | none => e
theorem Env.putVF_eq (x0 x1 x2) : Env.putVF x0 x1 x2 = Env.putV x0 x1 x2 := by
  cases x2 <;> (first | rfl | (simp only [Env.putVF, Env.putV, bO_eq, cO_eq, iB_eq, zao, za1, zam, zaz, zan, zag, zah, zai, zac, zaj, zaf, zar, za4, zat, AOpd.dropF_eq, za0, zae, zad, zak, zau, zax, za2, za3, za5, zap, zal, Env.putF_eq]; done) | (simp only [Env.putVF, Env.putV, bO_eq, cO_eq, iB_eq, zao, za1, zam, zaz, zan, zag, zah, zai, zac, zaj, zaf, zar, za4, zat, AOpd.dropF_eq, za0, zae, zad, zak, zau, zax, za2, za3, za5, zap, zal, Env.putF_eq]; rfl))
noncomputable def Env.boxF (e : Env) (s : Nat) (cs : List Cell) : Env :=
  { e with slots := zdj e.slots s, locs := asetF (zlh e.locs s) s (s, 0), boxes := asetF e.boxes s cs }
theorem Env.boxF_eq (x0 x1 x2) : Env.boxF x0 x1 x2 = Env.box x0 x1 x2 := by
  (first | rfl | (simp only [Env.boxF, Env.box, bO_eq, cO_eq, iB_eq, zao, za1, zam, zaz, zan, zag, zah, zai, zac, zaj, zaf, zar, za4, zat, AOpd.dropF_eq, za0, zae, zad, zak, zau, zax, za2, za3, za5, zap, zal, Env.putF_eq, Env.putVF_eq]; done) | (simp only [Env.boxF, Env.box, bO_eq, cO_eq, iB_eq, zao, za1, zam, zaz, zan, zag, zah, zai, zac, zaj, zaf, zar, za4, zat, AOpd.dropF_eq, za0, zae, zad, zak, zau, zax, za2, za3, za5, zap, zal, Env.putF_eq, Env.putVF_eq]; rfl))
noncomputable def zg0 (σ : Store) (k : RowK) (by_ : Nat) (x : D) (ys : List D) : Option (D × Store) :=
  iB (zbq k.sz ys) (match x with
    | .nils => iB ys.isEmpty (some (.nils, σ)) (iB (decide (ys.length * by_ ≤ bound) && decide (ys.length ≤ bound)) (some (.arr k σ.next 0 ys.length, zc8 σ k (cellsOf ys))) none)
    | .empt => iB ys.isEmpty (some (.empt, σ)) (iB (decide (ys.length * by_ ≤ bound) && decide (ys.length ≤ bound)) (some (.arr k σ.next 0 ys.length, zc8 σ k (cellsOf ys))) none)
    | .arr k' id off n => bO (agetF σ.objs id) fun cs => bO (agetF σ.tys id) fun ty =>
      iB (k'.same k && ty.t == k.el && ty.sz == k.sz && off == 0 && decide (n * k.sz ≤ cs.length) && decide ((n + ys.length) * by_ ≤ bound) && decide (n + ys.length ≤ bound))
        (some (.arr k σ.next 0 (n + ys.length), zc8 { σ with objs := zdj σ.objs id } k ((cs.take (n * k.sz)).map (fun c => Cell.of c.d) ++ cellsOf ys))) none
    | _ => none) none
theorem zav (x0 x1 x2 x3 x4) : zg0 x0 x1 x2 x3 x4 = zfp x0 x1 x2 x3 x4 := by
  cases x3 <;> (first | rfl | (simp only [zg0, zfp, bO_eq, cO_eq, iB_eq, zao, za1, zam, zaz, zan, zag, zah, zai, zac, zaj, zaf, zar, za4, zat, AOpd.dropF_eq, za0, zae, zad, zak, zau, zax, za2, za3, za5, zap, zal, Env.putF_eq, Env.putVF_eq, Env.boxF_eq]; done) | (simp only [zg0, zfp, bO_eq, cO_eq, iB_eq, zao, za1, zam, zaz, zan, zag, zah, zai, zac, zaj, zaf, zar, za4, zat, AOpd.dropF_eq, za0, zae, zad, zak, zau, zax, za2, za3, za5, zap, zal, Env.putF_eq, Env.putVF_eq, Env.boxF_eq]; rfl))
noncomputable def zl7 (σ : Store) (sz : Nat) (x : D) (ys : List D) : Option (Nat × Store) := match x with
  | .nils => some (0, σ)
  | .empt => some (0, σ)
  | .arr k id off len => bO (agetF σ.objs id) fun cs => iB (k.sz == sz && zbq sz ys && decide ((off + len) * sz ≤ cs.length))
      (some (min len ys.length, { σ with objs := asetF σ.objs id (zd9 cs (off * sz) (cellsOf (ys.take len))) })) none
  | _ => none
theorem zbc (x0 x1 x2 x3) : zl7 x0 x1 x2 x3 = zi2 x0 x1 x2 x3 := by
  cases x2 <;> (first | rfl | (simp only [zl7, zi2, bO_eq, cO_eq, iB_eq, zao, za1, zam, zaz, zan, zag, zah, zai, zac, zaj, zaf, zar, za4, zat, AOpd.dropF_eq, za0, zae, zad, zak, zau, zax, za2, za3, za5, zap, zal, Env.putF_eq, Env.putVF_eq, Env.boxF_eq, zav]; done) | (simp only [zl7, zi2, bO_eq, cO_eq, iB_eq, zao, za1, zam, zaz, zan, zag, zah, zai, zac, zaj, zaf, zar, za4, zat, AOpd.dropF_eq, za0, zae, zad, zak, zau, zax, za2, za3, za5, zap, zal, Env.putF_eq, Env.putVF_eq, Env.boxF_eq, zav]; rfl))
noncomputable def zjs (σ : Store) (sz : Nat) (z : List D) (x : D) : Option Store := match x with
  | .nils => some σ
  | .empt => some σ
  | .arr k id off len => bO (agetF σ.objs id) fun cs => iB (k.sz == sz && z.length == sz && decide ((off + len) * sz ≤ cs.length))
      (some { σ with objs := asetF σ.objs id (zd9 cs (off * sz) (rowOf z len)) }) none
  | _ => none
theorem za7 (x0 x1 x2 x3) : zjs x0 x1 x2 x3 = zhr x0 x1 x2 x3 := by
  cases x3 <;> (first | rfl | (simp only [zjs, zhr, bO_eq, cO_eq, iB_eq, zao, za1, zam, zaz, zan, zag, zah, zai, zac, zaj, zaf, zar, za4, zat, AOpd.dropF_eq, za0, zae, zad, zak, zau, zax, za2, za3, za5, zap, zal, Env.putF_eq, Env.putVF_eq, Env.boxF_eq, zav, zbc]; done) | (simp only [zjs, zhr, bO_eq, cO_eq, iB_eq, zao, za1, zam, zaz, zan, zag, zah, zai, zac, zaj, zaf, zar, za4, zat, AOpd.dropF_eq, za0, zae, zad, zak, zau, zax, za2, za3, za5, zap, zal, Env.putF_eq, Env.putVF_eq, Env.boxF_eq, zav, zbc]; rfl))
noncomputable def zec : Nat → D → Objs → Option (D × Objs)
  | 0, _, _ => none
  | n + 1, d, os => match d with
    | .arr k id off len => bO (agetF os id) fun cs => iB ((k.ag || k.sz == 1) && decide ((off + len) * k.sz ≤ cs.length)) (bO (zex (zec n) (elems k cs off len) (zdj os id)) fun r => some (.list k r.1, r.2)) none
    | .agg ds => bO (zex (zec n) ds os) fun r => some (.agg r.1, r.2)
    | .tup ds => bO (zex (zec n) ds os) fun r => some (.tup r.1, r.2)
    | .iface t d => bO (zec n d os) fun r => some (.iface t r.1, r.2)
    | d => some (d, os)
theorem za8 : ∀ (n : Nat) (d : D) (os : Objs), zec n d os = zc3 n d os
  | 0, d, os => by simp only [zec, zc3]
  | n + 1, d, os => by
    have ih : zec n = zc3 n := by funext d os; exact za8 n d os
    cases d <;> simp only [zec, zc3, ih, bO_eq, cO_eq, iB_eq, zao, za1, zam, zaz, zan, zag, zah, zai, zac, zaj, zaf, zar, za4, zat, AOpd.dropF_eq, za0, zae, zad, zak, zau, zax, za2, za3, za5, zap, zal, Env.putF_eq, Env.putVF_eq, Env.boxF_eq, zav, zbc, za7]
noncomputable def zgn : List Cell → Objs → Option (List Cell × Objs)
  | [], os => some ([], os)
  | c :: r, os => bO (zec 40 c.d os) fun x => bO (zgn r x.2) fun y => some (⟨c.keeps, x.1⟩ :: y.1, y.2)
theorem za9 : ∀ (l : List Cell) (os : Objs), zgn l os = zfa l os
  | [], os => rfl
  | c :: r, os => by
    have ih : zgn r = zfa r := by funext os; exact za9 r os
    simp only [zgn, zfa, ih, bO_eq, cO_eq, iB_eq, zao, za1, zam, zaz, zan, zag, zah, zai, zac, zaj, zaf, zar, za4, zat, AOpd.dropF_eq, za0, zae, zad, zak, zau, zax, za2, za3, za5, zap, zal, Env.putF_eq, Env.putVF_eq, Env.boxF_eq, zav, zbc, za7, za8]
noncomputable def zjz (t : FTgt) (e : Env) (σ : Store) : Option (Env × Store) := match t with
  | .slot s => bO (agetF e.slots s) fun c => bO (zec 40 c.d σ.objs) fun r => some ({ e with slots := asetF e.slots s ⟨c.keeps, r.1⟩ }, { σ with objs := r.2 })
  | .box b => bO (agetF e.boxes b) fun cs => bO (zgn cs σ.objs) fun r => some ({ e with boxes := asetF e.boxes b r.1 }, { σ with objs := r.2 })
  | .obj s => bO (agetF e.slots s) fun p => match p.d with
    | .ptr id 0 => bO (agetF σ.objs id) fun cs => bO (zgn cs (zdj σ.objs id)) fun r => some (e, { σ with objs := asetF r.2 id r.1 })
    | _ => none
  | .promote s => bO (agetF e.boxes s) fun cs => bO (agetF e.locs s) fun p => iB (p.1 == s && p.2 == 0)
    (some ({ e with slots := asetF e.slots s ⟨false, .ptr σ.next 0⟩, locs := zlh (zdj e.locs s) s, boxes := zdj e.boxes s }, { σ with objs := (σ.next, cs.map fun c => Cell.of c.d) :: σ.objs, tys := zdj σ.tys σ.next, next := σ.next + 1 })) none
theorem zbd (x0 x1 x2) : zjz x0 x1 x2 = ze9 x0 x1 x2 := by
  cases x0 <;> (first | rfl | (simp only [zjz, ze9, bO_eq, cO_eq, iB_eq, zao, za1, zam, zaz, zan, zag, zah, zai, zac, zaj, zaf, zar, za4, zat, AOpd.dropF_eq, za0, zae, zad, zak, zau, zax, za2, za3, za5, zap, zal, Env.putF_eq, Env.putVF_eq, Env.boxF_eq, zav, zbc, za7, za8, za9]; done) | (simp only [zjz, ze9, bO_eq, cO_eq, iB_eq, zao, za1, zam, zaz, zan, zag, zah, zai, zac, zaj, zaf, zar, za4, zat, AOpd.dropF_eq, za0, zae, zad, zak, zau, zax, za2, za3, za5, zap, zal, Env.putF_eq, Env.putVF_eq, Env.boxF_eq, zav, zbc, za7, za8, za9]; rfl))
noncomputable def zgo : List FTgt → Env → Store → Option (Env × Store)
  | [], e, σ => some (e, σ)
  | t :: r, e, σ => bO (zjz t e σ) fun x => zgo r x.1 x.2
theorem zbb : ∀ (l : List FTgt) (e : Env) (σ : Store), zgo l e σ = zf0 l e σ
  | [], e, σ => rfl
  | c :: r, e, σ => by
    have ih : zgo r = zf0 r := by funext e σ; exact zbb r e σ
    simp only [zgo, zf0, ih, bO_eq, cO_eq, iB_eq, zao, za1, zam, zaz, zan, zag, zah, zai, zac, zaj, zaf, zar, za4, zat, AOpd.dropF_eq, za0, zae, zad, zak, zau, zax, za2, za3, za5, zap, zal, Env.putF_eq, Env.putVF_eq, Env.boxF_eq, zav, zbc, za7, za8, za9, zbd]
noncomputable def zsv (op : AOp) : Env → Store → Option (D × Store) := AOp.rec (motive := fun _ => Env → Store → Option (D × Store))
  (fun y0 => fun e σ =>  none)
  (fun y0 y1 y2 => fun e σ =>  none)
  (fun y0 => fun e σ =>  none)
  (fun y0 => fun e σ =>  none)
  (fun t z => fun e σ =>  some (.ptr σ.next 0, { objs := (σ.next, z.map Cell.of) :: σ.objs, tys := (σ.next, ⟨t, 0⟩) :: σ.tys, oth := σ.oth, next := σ.next + 1 }))
  (fun t x => fun e σ =>  bO (opdF e x) fun c => iB c.d.ok (some (.ptr σ.next 0, { objs := (σ.next, c.d.cells.map Cell.of) :: σ.objs, tys := (σ.next, ⟨t, 0⟩) :: σ.tys, oth := σ.oth, next := σ.next + 1 })) none)
  (fun y0 => fun e σ =>  none)
  (fun y0 => fun e σ =>  none)
  (fun y0 y1 => fun e σ =>  none)
  (fun y0 y1 => fun e σ =>  none)
  (fun y0 y1 y2 => fun e σ =>  none)
  (fun y0 y1 y2 => fun e σ =>  none)
  (fun y0 y1 y2 => fun e σ =>  none)
  (fun y0 y1 => fun e σ =>  none)
  (fun y0 y1 y2 => fun e σ =>  none)
  (fun y0 => fun e σ =>  none)
  (fun y0 y1 y2 => fun e σ =>  none)
  (fun y0 y1 y2 => fun e σ =>  none)
  (fun y0 y1 => fun e σ =>  none)
  (fun y0 y1 => fun e σ =>  none)
  (fun y0 => fun e σ =>  none)
  (fun y0 => fun e σ =>  none)
  (fun y0 => fun e σ =>  none)
  (fun y0 y1 => fun e σ =>  none)
  (fun y0 y1 => fun e σ =>  none)
  (fun y0 y1 y2 => fun e σ =>  none)
  (fun y0 y1 y2 y3 => fun e σ =>  none)
  (fun y0 y1 y2 => fun e σ =>  none)
  (fun y0 y1 y2 => fun e σ =>  none)
  (fun y0 y1 y2 => fun e σ =>  none)
  (fun y0 y1 y2 => fun e σ =>  none)
  (fun y0 y1 => fun e σ =>  none)
  (fun y0 y1 => fun e σ =>  none)
  (fun y0 => fun e σ =>  none)
  (fun y0 => fun e σ =>  none)
  (fun y0 y1 y2 y3 => fun e σ =>  none)
  (fun y0 y1 y2 y3 => fun e σ =>  none)
  (fun y0 y1 => fun e σ =>  none)
  (fun y0 y1 => fun e σ =>  none)
  (fun y0 y1 y2 => fun e σ =>  none)
  (fun y0 y1 => fun e σ =>  none)
  (fun y0 y1 => fun e σ =>  none)
  (fun y0 y1 y2 y3 y4 => fun e σ =>  none)
  (fun k x y => fun e σ =>  bO (addrF e x) fun p => bO (opdF e y) fun c => match p with
    | .ptr id off => bO (agetF σ.objs id) fun cs => iB (fits ⟨false, c.d⟩ k off cs) (some (.undef, { σ with objs := asetF σ.objs id (zd9 cs off (zbk ⟨false, c.d⟩)) })) none
    | _ => none)
  (fun y0 y1 => fun e σ =>  none)
  (fun y0 y1 => fun e σ =>  none)
  (fun y0 y1 y2 => fun e σ =>  none)
  (fun y0 y1 => fun e σ =>  none)
  (fun y0 y1 => fun e σ =>  none)
  (fun y0 y1 => fun e σ =>  none)
  (fun y0 y1 y2 y3 => fun e σ =>  none)
  (fun y0 y1 y2 => fun e σ =>  none)
  (fun y0 y1 y2 => fun e σ =>  none)
  (fun y0 y1 y2 => fun e σ =>  none)
  (fun y0 y1 y2 y3 => fun e σ =>  none)
  (fun y0 y1 y2 y3 => fun e σ =>  none)
  (fun y0 y1 y2 => fun e σ =>  none)
  (fun k by_ z len cap => fun e σ =>  bO (opdF e len) fun l => bO l.d.nat? fun l => bO (opdF e cap) fun c => bO c.d.nat? fun c =>
    iB (l == c && decide (l * by_ ≤ bound) && decide (l ≤ bound)) (some (.arr k σ.next 0 l, zc8 σ k (rowOf z l))) none)
  (fun k parts => fun e σ =>  bO (opdsF e parts) fun ds => iB (zbq k.sz ds && decide (ds.length * k.sz ≤ 16777216)) (some (.arr k σ.next 0 ds.length, zc8 σ k (cellsOf ds))) none)
  (fun k by_ x y => fun e σ =>  bO (opdF e x) fun c => bO (opdF e y) fun d => bO (zht σ.objs d.d) fun ys => zg0 σ k by_ c.d ys)
  (fun _ k by_ x y => fun e σ =>  bO (opdF e x) fun c => bO (opdF e y) fun d => bO (zht σ.objs d.d) fun ys => zg0 σ k by_ c.d ys)
  (fun sz x y => fun e σ =>  bO (opdF e x) fun c => bO (opdF e y) fun d => bO (zht σ.objs d.d) fun ys => bO (zl7 σ sz c.d ys) fun r => some (.int .i64 r.1, r.2))
  (fun sz z x => fun e σ =>  bO (opdF e x) fun c => bO (zjs σ sz z c.d) fun σ' => some (.tup [], σ'))
  (fun e σ =>  some (.map σ.next, { σ with oth := (σ.next, .map [] 0) :: σ.oth, next := σ.next + 1 }))
  (fun y0 => fun e σ =>  none)
  (fun y0 y1 y2 y3 y4 => fun e σ =>  none)
  (fun y0 => fun e σ =>  none)
  (fun y0 y1 => fun e σ =>  none)
  (fun y0 y1 y2 y3 y4 => fun e σ =>  none)
  (fun ks x i y => fun e σ =>  bO (opdF e x) fun c => bO (opdF e i) fun k => bO (opdF e y) fun v => bO (zh4 σ.oth c.d) fun m => iB (keyD ks k.d && v.d.ok) (bO (findM k.d m.2.1) fun r =>
      some (.undef, { σ with oth := asetF σ.oth m.1 (cO r (.map (m.2.1 ++ [(k.d, v.d, m.2.2)]) (m.2.2 + 1)) fun p => .map (m.2.1.set p.2.2 (k.d, v.d, p.2.1)) m.2.2) })) none)
  (fun y0 => fun e σ =>  none)
  (fun ks x i => fun e σ =>  bO (opdF e x) fun c => bO (opdF e i) fun k => bO (zh4 σ.oth c.d) fun m => iB (keyD ks k.d) (bO (findM k.d m.2.1) fun r =>
      some (.tup [], { σ with oth := asetF σ.oth m.1 (.map (cO r m.2.1 fun p => m.2.1.eraseIdx p.2.2) m.2.2) })) none)
  (fun ks z x i => fun e σ =>  bO (opdF e x) fun c => bO (opdF e i) fun k => bO (zh4 σ.oth c.d) fun m => iB (keyD ks k.d) (bO (findM k.d m.2.1) fun r =>
      some (cO r (.tup [z, .int .i64 m.2.2]) (fun p => .tup [p.1, .int .i64 p.2.1]), { σ with oth := asetF σ.oth m.1 (cO r (.map (m.2.1 ++ [(k.d, z, m.2.2)]) (m.2.2 + 1)) fun _ => .map m.2.1 m.2.2) })) none)
  (fun x s y => fun e σ =>  bO (opdF e x) fun c => bO (opdF e s) fun b => bO b.d.nat? fun b => bO (opdF e y) fun v => bO (zh4 σ.oth c.d) fun m => iB (v.d.ok && hasM b m.2.1)
      (some (.undef, { σ with oth := asetF σ.oth m.1 (.map (setM b v.d m.2.1) m.2.2) })) none)
  (fun y0 y1 => fun e σ =>  none)
  (fun y0 y1 => fun e σ =>  none)
  (fun y0 y1 => fun e σ =>  none)
  (fun y0 => fun e σ =>  none) op
noncomputable def zog (op : AOp) (e : Env) (σ : Store) : Option (D × Store) := zsv op e σ
theorem zbn (x0 x1 x2) : zog x0 x1 x2 = memOp x0 x1 x2 := by
  cases x0 <;> (first | rfl | (simp only [zog, memOp, bO_eq, cO_eq, iB_eq, zao, za1, zam, zaz, zan, zag, zah, zai, zac, zaj, zaf, zar, za4, zat, AOpd.dropF_eq, za0, zae, zad, zak, zau, zax, za2, za3, za5, zap, zal, Env.putF_eq, Env.putVF_eq, Env.boxF_eq, zav, zbc, za7, za8, za9, zbd, zbb, zsv]; done) | (simp only [zog, memOp, bO_eq, cO_eq, iB_eq, zao, za1, zam, zaz, zan, zag, zah, zai, zac, zaj, zaf, zar, za4, zat, AOpd.dropF_eq, za0, zae, zad, zak, zau, zax, za2, za3, za5, zap, zal, Env.putF_eq, Env.putVF_eq, Env.boxF_eq, zav, zbc, za7, za8, za9, zbd, zbb, zsv]; rfl))
noncomputable def memEF (dst : Option Nat) (op : AOp) (e : Env) (σ : Store) : Option (Env × Store) := bO (zog op e σ) fun r => some (e.putF dst ⟨false, r.1⟩, r.2)
theorem zbv (x0 x1 x2 x3) : memEF x0 x1 x2 x3 = memE x0 x1 x2 x3 := by
  (first | rfl | (simp only [memEF, memE, bO_eq, cO_eq, iB_eq, zao, za1, zam, zaz, zan, zag, zah, zai, zac, zaj, zaf, zar, za4, zat, AOpd.dropF_eq, za0, zae, zad, zak, zau, zax, za2, za3, za5, zap, zal, Env.putF_eq, Env.putVF_eq, Env.boxF_eq, zav, zbc, za7, za8, za9, zbd, zbb, zbn]; done) | (simp only [memEF, memE, bO_eq, cO_eq, iB_eq, zao, za1, zam, zaz, zan, zag, zah, zai, zac, zaj, zaf, zar, za4, zat, AOpd.dropF_eq, za0, zae, zad, zak, zau, zax, za2, za3, za5, zap, zal, Env.putF_eq, Env.putVF_eq, Env.boxF_eq, zav, zbc, za7, za8, za9, zbd, zbb, zbn]; rfl))
noncomputable def zpk (op : AOp) : Option Nat → Env → Store → Option (Env × Store) := AOp.rec (motive := fun _ => Option Nat → Env → Store → Option (Env × Store))
  (fun y0 => fun dst e σ =>  bO (zca (.mov y0) e σ) fun v => some ((zbs (.mov y0) e).putVF dst v, zbl (.mov y0) e σ))
  (fun y0 y1 y2 => fun dst e σ =>  bO (zca (.pick y0 y1 y2) e σ) fun v => some ((zbs (.pick y0 y1 y2) e).putVF dst v, zbl (.pick y0 y1 y2) e σ))
  (fun z => fun dst e σ =>  bO dst fun s => some (e.boxF s (z.map Cell.of), σ))
  (fun x => fun dst e σ =>  bO dst fun s => bO (opdF e x) fun c => iB c.d.ok (some (e.boxF s (c.d.cells.map Cell.of), σ)) none)
  (fun t z => fun dst e σ =>  memEF dst (.galloc t z) e σ)
  (fun t x => fun dst e σ =>  memEF dst (.gbox t x) e σ)
  (fun x => fun dst e σ =>  bO (opdF e x) fun c => bO c.d.str? fun s => some (e.putF dst ⟨false, .ptr σ.next 0⟩, { σ with oth := (σ.next, .it s 0) :: σ.oth, next := σ.next + 1 }))
  (fun x => fun dst e σ =>  bO (addrF e x) fun p => match p with
    | .ptr id 0 => bO (agetF σ.oth id) fun it => match it with
      | .it s pos => iB (decide (pos < s.length))
        (some (e.putF dst ⟨false, .tup [.bool true, .int .i64 pos, .int .i32 (Utf8.decode ⟨⟨s⟩⟩ pos).1]⟩, { σ with oth := asetF σ.oth id (.it s (pos + (Utf8.decode ⟨⟨s⟩⟩ pos).2)) }))
        (some (e.putF dst ⟨false, .tup [.bool false]⟩, σ))
      | _ => none
    | _ => none)
  (fun y0 y1 => fun dst e σ =>  bO (zca (.build y0 y1) e σ) fun v => some ((zbs (.build y0 y1) e).putVF dst v, zbl (.build y0 y1) e σ))
  (fun sz parts => fun dst e σ =>  bO (opdsF e parts) fun ds =>
    iB (zbq sz.sz ds && decide (ds.length * sz.sz ≤ 16777216)) (some (e.putF dst ⟨true, .list sz ds⟩, σ)) none)
  (fun y0 y1 y2 => fun dst e σ =>  bO (zca (.load y0 y1 y2) e σ) fun v => some ((zbs (.load y0 y1 y2) e).putVF dst v, zbl (.load y0 y1 y2) e σ))
  (fun y0 y1 y2 => fun dst e σ =>  bO (zca (.loadL y0 y1 y2) e σ) fun v => some ((zbs (.loadL y0 y1 y2) e).putVF dst v, zbl (.loadL y0 y1 y2) e σ))
  (fun k x y => fun dst e σ =>  bO (addrF e x) fun p => bO (opdF e y) fun c => match p with
    | .loc b off => bO (agetF e.boxes b) fun cs => iB (fits c k off cs)
        (some (Env.putF { y.dropF e with boxes := asetF e.boxes b (zd9 cs off (zbk c)) } dst ⟨false, .undef⟩, σ)) none
    | .ptr id off => bO (agetF σ.objs id) fun cs => iB (fits c k off cs)
        (some ((y.dropF e).putF dst ⟨false, .undef⟩, { σ with objs := asetF σ.objs id (zd9 cs off (zbk c)) })) none
    | .eptr _ => none)
  (fun k x => fun dst e σ =>  bO (addrF e x) fun p => match p with
    | .loc b 0 => bO (agetF e.boxes b) fun cs => iB (cs.length == k) (some (Env.putF { e with boxes := asetF e.boxes b (unownF cs) } dst ⟨firstOwn cs, .agg (cs.map fun c => c.d)⟩, σ)) none
    | _ => none)
  (fun k x y => fun dst e σ =>  bO (addrF e x) fun p => bO (opdF e y) fun c => match p with
    | .loc b 0 => bO (agetF e.boxes b) fun cs => bO c.d.agg? fun ds => iB (cs.length == k && ds.length == k) (some (Env.putF { y.dropF e with boxes := asetF e.boxes b (layA c.own ds) } dst ⟨false, .undef⟩, σ)) none
    | _ => none)
  (fun y0 => fun dst e σ =>  bO (zca (.nilCheck y0) e σ) fun v => some ((zbs (.nilCheck y0) e).putVF dst v, zbl (.nilCheck y0) e σ))
  (fun y0 y1 y2 => fun dst e σ =>  bO (zca (.bin y0 y1 y2) e σ) fun v => some ((zbs (.bin y0 y1 y2) e).putVF dst v, zbl (.bin y0 y1 y2) e σ))
  (fun y0 y1 y2 => fun dst e σ =>  bO (zca (.binB y0 y1 y2) e σ) fun v => some ((zbs (.binB y0 y1 y2) e).putVF dst v, zbl (.binB y0 y1 y2) e σ))
  (fun y0 y1 => fun dst e σ =>  bO (zca (.un y0 y1) e σ) fun v => some ((zbs (.un y0 y1) e).putVF dst v, zbl (.un y0 y1) e σ))
  (fun y0 y1 => fun dst e σ =>  bO (zca (.toInt y0 y1) e σ) fun v => some ((zbs (.toInt y0 y1) e).putVF dst v, zbl (.toInt y0 y1) e σ))
  (fun y0 => fun dst e σ =>  bO (zca (.toStr y0) e σ) fun v => some ((zbs (.toStr y0) e).putVF dst v, zbl (.toStr y0) e σ))
  (fun y0 => fun dst e σ =>  bO (zca (.runeStr y0) e σ) fun v => some ((zbs (.runeStr y0) e).putVF dst v, zbl (.runeStr y0) e σ))
  (fun y0 => fun dst e σ =>  bO (zca (.bytesToStr y0) e σ) fun v => some ((zbs (.bytesToStr y0) e).putVF dst v, zbl (.bytesToStr y0) e σ))
  (fun k x => fun dst e σ =>  bO (opdF e x) fun c => bO c.d.str? fun s => iB (decide (s.length ≤ bound)) (some (e.putF dst ⟨false, .list k (zd3 s)⟩, σ)) none)
  (fun y0 y1 => fun dst e σ =>  bO (zca (.mkIface y0 y1) e σ) fun v => some ((zbs (.mkIface y0 y1) e).putVF dst v, zbl (.mkIface y0 y1) e σ))
  (fun y0 y1 y2 => fun dst e σ =>  bO (zca (.mkFunc y0 y1 y2) e σ) fun v => some ((zbs (.mkFunc y0 y1 y2) e).putVF dst v, zbl (.mkFunc y0 y1 y2) e σ))
  (fun y0 y1 y2 y3 => fun dst e σ =>  bO (zca (.slice y0 y1 y2 y3) e σ) fun v => some ((zbs (.slice y0 y1 y2 y3) e).putVF dst v, zbl (.slice y0 y1 y2 y3) e σ))
  (fun y0 y1 y2 => fun dst e σ =>  bO (zca (.sliceS y0 y1 y2) e σ) fun v => some ((zbs (.sliceS y0 y1 y2) e).putVF dst v, zbl (.sliceS y0 y1 y2) e σ))
  (fun y0 y1 y2 => fun dst e σ =>  bO (zca (.fieldAddr y0 y1 y2) e σ) fun v => some ((zbs (.fieldAddr y0 y1 y2) e).putVF dst v, zbl (.fieldAddr y0 y1 y2) e σ))
  (fun y0 y1 y2 => fun dst e σ =>  bO (zca (.field y0 y1 y2) e σ) fun v => some ((zbs (.field y0 y1 y2) e).putVF dst v, zbl (.field y0 y1 y2) e σ))
  (fun y0 y1 y2 => fun dst e σ =>  bO (zca (.indexAddr y0 y1 y2) e σ) fun v => some ((zbs (.indexAddr y0 y1 y2) e).putVF dst v, zbl (.indexAddr y0 y1 y2) e σ))
  (fun y0 y1 => fun dst e σ =>  bO (zca (.index y0 y1) e σ) fun v => some ((zbs (.index y0 y1) e).putVF dst v, zbl (.index y0 y1) e σ))
  (fun y0 y1 => fun dst e σ =>  bO (zca (.extract y0 y1) e σ) fun v => some ((zbs (.extract y0 y1) e).putVF dst v, zbl (.extract y0 y1) e σ))
  (fun y0 => fun dst e σ =>  bO (zca (.len y0) e σ) fun v => some ((zbs (.len y0) e).putVF dst v, zbl (.len y0) e σ))
  (fun y0 => fun dst e σ =>  bO (zca (.lenS y0) e σ) fun v => some ((zbs (.lenS y0) e).putVF dst v, zbl (.lenS y0) e σ))
  (fun sz by_ x y => fun dst e σ =>  bO (opdF e x) fun c => bO (opdF e y) fun d => bO (asList d.d) fun ys => bO (zdh sz by_ c ys) fun r => some ((x.dropF e).putF dst r, σ))
  (fun k by_ x y => fun dst e σ =>  bO (opdF e x) fun c => bO (opdF e y) fun d => bO d.d.str? fun s => bO (zdh k by_ c (zd3 s)) fun r => some ((x.dropF e).putF dst r, σ))
  (fun y0 y1 => fun dst e σ =>  bO (zca (.isNil y0 y1) e σ) fun v => some ((zbs (.isNil y0 y1) e).putVF dst v, zbl (.isNil y0 y1) e σ))
  (fun y0 y1 => fun dst e σ =>  bO (zca (.isNilP y0 y1) e σ) fun v => some ((zbs (.isNilP y0 y1) e).putVF dst v, zbl (.isNilP y0 y1) e σ))
  (fun y0 y1 y2 => fun dst e σ =>  bO (zca (.assertT y0 y1 y2) e σ) fun v => some ((zbs (.assertT y0 y1 y2) e).putVF dst v, zbl (.assertT y0 y1 y2) e σ))
  (fun y0 y1 => fun dst e σ =>  bO (zca (.isNilS y0 y1) e σ) fun v => some ((zbs (.isNilS y0 y1) e).putVF dst v, zbl (.isNilS y0 y1) e σ))
  (fun y0 y1 => fun dst e σ =>  bO (zca (.isNilM y0 y1) e σ) fun v => some ((zbs (.isNilM y0 y1) e).putVF dst v, zbl (.isNilM y0 y1) e σ))
  (fun sz x lo hi max => fun dst e σ =>  bO (opdF e x) fun c => bO (zjf e lo) fun l => bO (opdF e hi) fun h => bO h.d.nat? fun h => bO (opdF e max) fun m => bO m.d.nat? fun m => bO (zhw sz c.d l h m) fun d => some (e.putF dst ⟨true, d⟩, σ))
  (fun k x y => fun dst e σ =>  memEF dst (.storeP k x y) e σ)
  (fun s z => fun dst e σ =>  iB (zlg e.locs s) (some (Env.putVF { e with boxes := asetF e.boxes s (z.map Cell.of) } dst (.l s 0), σ)) none)
  (fun s x => fun dst e σ =>  bO (opdF e x) fun c => iB (zlg e.locs s && c.d.ok) (some (Env.putVF { e with boxes := asetF e.boxes s (c.d.cells.map Cell.of) } dst (.l s 0), σ)) none)
  (fun y0 y1 y2 => fun dst e σ =>  bO (zca (.loadB y0 y1 y2) e σ) fun v => some ((zbs (.loadB y0 y1 y2) e).putVF dst v, zbl (.loadB y0 y1 y2) e σ))
  (fun y0 y1 => fun dst e σ =>  bO (zca (.loadE y0 y1) e σ) fun v => some ((zbs (.loadE y0 y1) e).putVF dst v, zbl (.loadE y0 y1) e σ))
  (fun y0 y1 => fun dst e σ =>  bO (zca (.loadP y0 y1) e σ) fun v => some ((zbs (.loadP y0 y1) e).putVF dst v, zbl (.loadP y0 y1) e σ))
  (fun y0 y1 => fun dst e σ =>  bO (zca (.loadG y0 y1) e σ) fun v => some ((zbs (.loadG y0 y1) e).putVF dst v, zbl (.loadG y0 y1) e σ))
  (fun b k x y => fun dst e σ =>  bO (addrF e x) fun p => bO (opdF e y) fun c => match p with
    | .loc b' off => iB (b' == b) (bO (agetF e.boxes b) fun cs => iB (fits c k off cs)
        (some (Env.putF { y.dropF e with boxes := asetF e.boxes b (zd9 cs off (zbk c)) } dst ⟨false, .undef⟩, σ)) none) none
    | _ => none)
  (fun y0 y1 y2 => fun dst e σ =>  bO (zca (.callW y0 y1 y2) e σ) fun v => some ((zbs (.callW y0 y1 y2) e).putVF dst v, zbl (.callW y0 y1 y2) e σ))
  (fun y0 y1 y2 => fun dst e σ =>  bO (zca (.callvW y0 y1 y2) e σ) fun v => some ((zbs (.callvW y0 y1 y2) e).putVF dst v, zbl (.callvW y0 y1 y2) e σ))
  (fun y0 y1 y2 => fun dst e σ =>  bO (zca (.mm y0 y1 y2) e σ) fun v => some ((zbs (.mm y0 y1 y2) e).putVF dst v, zbl (.mm y0 y1 y2) e σ))
  (fun y0 y1 y2 y3 => fun dst e σ =>  bO (zca (.indexAddrP y0 y1 y2 y3) e σ) fun v => some ((zbs (.indexAddrP y0 y1 y2 y3) e).putVF dst v, zbl (.indexAddrP y0 y1 y2 y3) e σ))
  (fun y0 y1 y2 y3 => fun dst e σ =>  bO (zca (.indexA y0 y1 y2 y3) e σ) fun v => some ((zbs (.indexA y0 y1 y2 y3) e).putVF dst v, zbl (.indexA y0 y1 y2 y3) e σ))
  (fun y0 y1 y2 => fun dst e σ =>  bO (zca (.eqA y0 y1 y2) e σ) fun v => some ((zbs (.eqA y0 y1 y2) e).putVF dst v, zbl (.eqA y0 y1 y2) e σ))
  (fun k by_ z len cap => fun dst e σ =>  memEF dst (.makeA k by_ z len cap) e σ)
  (fun k parts => fun dst e σ =>  memEF dst (.buildA k parts) e σ)
  (fun k by_ x y => fun dst e σ =>  memEF dst (.appendA k by_ x y) e σ)
  (fun ws k by_ x y => fun dst e σ =>  memEF dst (.appendW ws k by_ x y) e σ)
  (fun sz x y => fun dst e σ =>  memEF dst (.copyA sz x y) e σ)
  (fun sz z x => fun dst e σ =>  memEF dst (.clearA sz z x) e σ)
  (fun dst e σ =>  memEF dst .makeMap e σ)
  (fun x => fun dst e σ =>  bO (opdF e x) fun c => match c.d with
    | .iface t (.map id) => bO (agetF σ.oth id) fun x => match x with
      | .map es cl => some (e.putF dst ⟨false, .iface t (.map σ.next)⟩, { σ with oth := (σ.next, .map es cl) :: σ.oth, next := σ.next + 1 })
      | _ => none
    | _ => none)
  (fun k by_ z x n => fun dst e σ =>  bO (opdF e x) fun c => match c.d with
    | .nils => bO (opdF e n) fun m => match m.d with
      | .int .i64 (.ofNat m) => iB (decide (0 < m) && decide (m * by_ ≤ bound) && decide (m ≤ bound)) (some (e.putF dst ⟨false, .arr k σ.next 0 m⟩, zc8 σ k (rowOf z m))) none
      | _ => none
    | _ => none)
  (fun x => fun dst e σ =>  bO (opdF e x) fun c => match c.d with
    | .nils => some (e.putF dst ⟨false, .int .i64 0⟩, σ)
    | _ => none)
  (fun t x => fun dst e σ =>  bO (opdF e x) fun c => match c.d with
    | .iface t' d => iB (t' == t) (some (e.putF dst ⟨false, d⟩, σ)) none
    | _ => none)
  (fun y0 y1 y2 y3 y4 => fun dst e σ =>  bO (zca (.lookup y0 y1 y2 y3 y4) e σ) fun v => some ((zbs (.lookup y0 y1 y2 y3 y4) e).putVF dst v, zbl (.lookup y0 y1 y2 y3 y4) e σ))
  (fun ks x i y => fun dst e σ =>  memEF dst (.update ks x i y) e σ)
  (fun y0 => fun dst e σ =>  bO (zca (.lenM y0) e σ) fun v => some ((zbs (.lenM y0) e).putVF dst v, zbl (.lenM y0) e σ))
  (fun ks x i => fun dst e σ =>  memEF dst (.delete ks x i) e σ)
  (fun ks z x i => fun dst e σ =>  memEF dst (.entry ks z x i) e σ)
  (fun x s y => fun dst e σ =>  memEF dst (.entryStore x s y) e σ)
  (fun y0 y1 => fun dst e σ =>  bO (zca (.call y0 y1) e σ) fun v => some ((zbs (.call y0 y1) e).putVF dst v, zbl (.call y0 y1) e σ))
  (fun y0 y1 => fun dst e σ =>  bO (zca (.callv y0 y1) e σ) fun v => some ((zbs (.callv y0 y1) e).putVF dst v, zbl (.callv y0 y1) e σ))
  (fun x args => fun dst e σ =>  bO (opdF e x) fun c => bO c.d.fnF? fun f => bO (opdsF e args) fun as =>
    some (Env.putF { e with defers := (f.1, f.2.1 ++ as ++ f.2.2) :: e.defers } dst ⟨false, .undef⟩, σ))
  (fun y0 => fun dst e σ =>  bO (zca (.panic y0) e σ) fun v => some ((zbs (.panic y0) e).putVF dst v, zbl (.panic y0) e σ)) op
noncomputable def zl8 (dst : Option Nat) (op : AOp) (e : Env) (σ : Store) : Option (Env × Store) := zpk op dst e σ
theorem zbm (x0 x1 x2 x3) : zl8 x0 x1 x2 x3 = zbe x0 x1 x2 x3 := by
  cases x1 <;> (first | rfl | (simp only [zl8, zbe, bO_eq, cO_eq, iB_eq, zao, za1, zam, zaz, zan, zag, zah, zai, zac, zaj, zaf, zar, za4, zat, AOpd.dropF_eq, za0, zae, zad, zak, zau, zax, za2, za3, za5, zap, zal, Env.putF_eq, Env.putVF_eq, Env.boxF_eq, zav, zbc, za7, za8, za9, zbd, zbb, zbn, zbv, zpk]; done) | (simp only [zl8, zbe, bO_eq, cO_eq, iB_eq, zao, za1, zam, zaz, zan, zag, zah, zai, zac, zaj, zaf, zar, za4, zat, AOpd.dropF_eq, za0, zae, zad, zak, zau, zax, za2, za3, za5, zap, zal, Env.putF_eq, Env.putVF_eq, Env.boxF_eq, zav, zbc, za7, za8, za9, zbd, zbb, zbn, zbv, zpk]; rfl))
noncomputable def zkm (g : Option (Nat × Bool)) (e : Env) : Option Bool :=
  match g with
  | none => some true
  | some (s, want) => bO (agetF e.slots s) fun c => cO c.d.bool? (iB (zcp c.d) (some false) none) fun b => some (b == want)
theorem zbj (x0 x1) : zkm x0 x1 = zcb x0 x1 := by
  cases x0 <;> (first | rfl | (simp only [zkm, zcb, bO_eq, cO_eq, iB_eq, zao, za1, zam, zaz, zan, zag, zah, zai, zac, zaj, zaf, zar, za4, zat, AOpd.dropF_eq, za0, zae, zad, zak, zau, zax, za2, za3, za5, zap, zal, Env.putF_eq, Env.putVF_eq, Env.boxF_eq, zav, zbc, za7, za8, za9, zbd, zbb, zbn, zbv, zbm]; done) | (simp only [zkm, zcb, bO_eq, cO_eq, iB_eq, zao, za1, zam, zaz, zan, zag, zah, zai, zac, zaj, zaf, zar, za4, zat, AOpd.dropF_eq, za0, zae, zad, zak, zau, zax, za2, za3, za5, zap, zal, Env.putF_eq, Env.putVF_eq, Env.boxF_eq, zav, zbc, za7, za8, za9, zbd, zbb, zbn, zbv, zbm]; rfl))
noncomputable def zph (op : AOp) : Env → Option (FuncId × List D) := AOp.rec (motive := fun _ => Env → Option (FuncId × List D))
  (fun y0 => fun e =>  none)
  (fun y0 y1 y2 => fun e =>  none)
  (fun y0 => fun e =>  none)
  (fun y0 => fun e =>  none)
  (fun y0 y1 => fun e =>  none)
  (fun y0 y1 => fun e =>  none)
  (fun y0 => fun e =>  none)
  (fun y0 => fun e =>  none)
  (fun y0 y1 => fun e =>  none)
  (fun y0 y1 => fun e =>  none)
  (fun y0 y1 y2 => fun e =>  none)
  (fun y0 y1 y2 => fun e =>  none)
  (fun y0 y1 y2 => fun e =>  none)
  (fun y0 y1 => fun e =>  none)
  (fun y0 y1 y2 => fun e =>  none)
  (fun y0 => fun e =>  none)
  (fun y0 y1 y2 => fun e =>  none)
  (fun y0 y1 y2 => fun e =>  none)
  (fun y0 y1 => fun e =>  none)
  (fun y0 y1 => fun e =>  none)
  (fun y0 => fun e =>  none)
  (fun y0 => fun e =>  none)
  (fun y0 => fun e =>  none)
  (fun y0 y1 => fun e =>  none)
  (fun y0 y1 => fun e =>  none)
  (fun y0 y1 y2 => fun e =>  none)
  (fun y0 y1 y2 y3 => fun e =>  none)
  (fun y0 y1 y2 => fun e =>  none)
  (fun y0 y1 y2 => fun e =>  none)
  (fun y0 y1 y2 => fun e =>  none)
  (fun y0 y1 y2 => fun e =>  none)
  (fun y0 y1 => fun e =>  none)
  (fun y0 y1 => fun e =>  none)
  (fun y0 => fun e =>  none)
  (fun y0 => fun e =>  none)
  (fun y0 y1 y2 y3 => fun e =>  none)
  (fun y0 y1 y2 y3 => fun e =>  none)
  (fun y0 y1 => fun e =>  none)
  (fun y0 y1 => fun e =>  none)
  (fun y0 y1 y2 => fun e =>  none)
  (fun y0 y1 => fun e =>  none)
  (fun y0 y1 => fun e =>  none)
  (fun y0 y1 y2 y3 y4 => fun e =>  none)
  (fun y0 y1 y2 => fun e =>  none)
  (fun y0 y1 => fun e =>  none)
  (fun y0 y1 => fun e =>  none)
  (fun y0 y1 y2 => fun e =>  none)
  (fun y0 y1 => fun e =>  none)
  (fun y0 y1 => fun e =>  none)
  (fun y0 y1 => fun e =>  none)
  (fun y0 y1 y2 y3 => fun e =>  none)
  (fun _ f args => fun e =>  bO (opdsF e args) fun as => some (f, as))
  (fun _ x args => fun e =>  bO (opdF e x) fun c => bO c.d.fn? fun f => bO (opdsF e args) fun as => some (f.1, f.2.1 ++ as ++ f.2.2))
  (fun y0 y1 y2 => fun e =>  none)
  (fun y0 y1 y2 y3 => fun e =>  none)
  (fun y0 y1 y2 y3 => fun e =>  none)
  (fun y0 y1 y2 => fun e =>  none)
  (fun y0 y1 y2 y3 y4 => fun e =>  none)
  (fun y0 y1 => fun e =>  none)
  (fun y0 y1 y2 y3 => fun e =>  none)
  (fun y0 y1 y2 y3 y4 => fun e =>  none)
  (fun y0 y1 y2 => fun e =>  none)
  (fun y0 y1 y2 => fun e =>  none)
  (fun e =>  none)
  (fun y0 => fun e =>  none)
  (fun y0 y1 y2 y3 y4 => fun e =>  none)
  (fun y0 => fun e =>  none)
  (fun y0 y1 => fun e =>  none)
  (fun y0 y1 y2 y3 y4 => fun e =>  none)
  (fun y0 y1 y2 y3 => fun e =>  none)
  (fun y0 => fun e =>  none)
  (fun y0 y1 y2 => fun e =>  none)
  (fun y0 y1 y2 y3 => fun e =>  none)
  (fun y0 y1 y2 => fun e =>  none)
  (fun f args => fun e =>  bO (opdsF e args) fun as => some (f, as))
  (fun x args => fun e =>  bO (opdF e x) fun c => bO c.d.fn? fun f => bO (opdsF e args) fun as => some (f.1, f.2.1 ++ as ++ f.2.2))
  (fun y0 y1 => fun e =>  none)
  (fun y0 => fun e =>  none) op
noncomputable def zl6 (op : AOp) (e : Env) : Option (FuncId × List D) := zph op e
theorem zbr (x0 x1) : zl6 x0 x1 = zcj x0 x1 := by
  cases x0 <;> (first | rfl | (simp only [zl6, zcj, bO_eq, cO_eq, iB_eq, zao, za1, zam, zaz, zan, zag, zah, zai, zac, zaj, zaf, zar, za4, zat, AOpd.dropF_eq, za0, zae, zad, zak, zau, zax, za2, za3, za5, zap, zal, Env.putF_eq, Env.putVF_eq, Env.boxF_eq, zav, zbc, za7, za8, za9, zbd, zbb, zbn, zbv, zbm, zbj, zph]; done) | (simp only [zl6, zcj, bO_eq, cO_eq, iB_eq, zao, za1, zam, zaz, zan, zag, zah, zai, zac, zaj, zaf, zar, za4, zat, AOpd.dropF_eq, za0, zae, zad, zak, zau, zax, za2, za3, za5, zap, zal, Env.putF_eq, Env.putVF_eq, Env.boxF_eq, zav, zbc, za7, za8, za9, zbd, zbb, zbn, zbv, zbm, zbj, zph]; rfl))
noncomputable def zl3 (op : AOp) : Option (List Nat) := AOp.rec (motive := fun _ => Option (List Nat))
  (fun y0 =>  none)
  (fun y0 y1 y2 =>  none)
  (fun y0 =>  none)
  (fun y0 =>  none)
  (fun y0 y1 =>  none)
  (fun y0 y1 =>  none)
  (fun y0 =>  none)
  (fun y0 =>  none)
  (fun y0 y1 =>  none)
  (fun y0 y1 =>  none)
  (fun y0 y1 y2 =>  none)
  (fun y0 y1 y2 =>  none)
  (fun y0 y1 y2 =>  none)
  (fun y0 y1 =>  none)
  (fun y0 y1 y2 =>  none)
  (fun y0 =>  none)
  (fun y0 y1 y2 =>  none)
  (fun y0 y1 y2 =>  none)
  (fun y0 y1 =>  none)
  (fun y0 y1 =>  none)
  (fun y0 =>  none)
  (fun y0 =>  none)
  (fun y0 =>  none)
  (fun y0 y1 =>  none)
  (fun y0 y1 =>  none)
  (fun y0 y1 y2 =>  none)
  (fun y0 y1 y2 y3 =>  none)
  (fun y0 y1 y2 =>  none)
  (fun y0 y1 y2 =>  none)
  (fun y0 y1 y2 =>  none)
  (fun y0 y1 y2 =>  none)
  (fun y0 y1 =>  none)
  (fun y0 y1 =>  none)
  (fun y0 =>  none)
  (fun y0 =>  none)
  (fun y0 y1 y2 y3 =>  none)
  (fun y0 y1 y2 y3 =>  none)
  (fun y0 y1 =>  none)
  (fun y0 y1 =>  none)
  (fun y0 y1 y2 =>  none)
  (fun y0 y1 =>  none)
  (fun y0 y1 =>  none)
  (fun y0 y1 y2 y3 y4 =>  none)
  (fun y0 y1 y2 =>  none)
  (fun y0 y1 =>  none)
  (fun y0 y1 =>  none)
  (fun y0 y1 y2 =>  none)
  (fun y0 y1 =>  none)
  (fun y0 y1 =>  none)
  (fun y0 y1 =>  none)
  (fun y0 y1 y2 y3 =>  none)
  (fun ws _ _ =>  some ws)
  (fun ws _ _ =>  some ws)
  (fun y0 y1 y2 =>  none)
  (fun y0 y1 y2 y3 =>  none)
  (fun y0 y1 y2 y3 =>  none)
  (fun y0 y1 y2 =>  none)
  (fun y0 y1 y2 y3 y4 =>  none)
  (fun y0 y1 =>  none)
  (fun y0 y1 y2 y3 =>  none)
  (fun ws _ _ _ _ =>  some ws)
  (fun y0 y1 y2 =>  none)
  (fun y0 y1 y2 =>  none)
  ( none)
  (fun y0 =>  none)
  (fun y0 y1 y2 y3 y4 =>  none)
  (fun y0 =>  none)
  (fun y0 y1 =>  none)
  (fun y0 y1 y2 y3 y4 =>  none)
  (fun y0 y1 y2 y3 =>  none)
  (fun y0 =>  none)
  (fun y0 y1 y2 =>  none)
  (fun y0 y1 y2 y3 =>  none)
  (fun y0 y1 y2 =>  none)
  (fun y0 y1 =>  none)
  (fun y0 y1 =>  none)
  (fun y0 y1 =>  none)
  (fun y0 =>  none) op
noncomputable def zdv (op : AOp) : Option (List Nat) := zl3 op
theorem zbi (x0) : zdv x0 = stableOf x0 := by
  cases x0 <;> (first | rfl | (simp only [zdv, stableOf, bO_eq, cO_eq, iB_eq, zao, za1, zam, zaz, zan, zag, zah, zai, zac, zaj, zaf, zar, za4, zat, AOpd.dropF_eq, za0, zae, zad, zak, zau, zax, za2, za3, za5, zap, zal, Env.putF_eq, Env.putVF_eq, Env.boxF_eq, zav, zbc, za7, za8, za9, zbd, zbb, zbn, zbv, zbm, zbj, zbr, zl3]; done) | (simp only [zdv, stableOf, bO_eq, cO_eq, iB_eq, zao, za1, zam, zaz, zan, zag, zah, zai, zac, zaj, zaf, zar, za4, zat, AOpd.dropF_eq, za0, zae, zad, zak, zau, zax, za2, za3, za5, zap, zal, Env.putF_eq, Env.putVF_eq, Env.boxF_eq, zav, zbc, za7, za8, za9, zbd, zbb, zbn, zbv, zbm, zbj, zbr, zl3]; rfl))
noncomputable def zl0 (e : Env) (σ σ' : Store) (s : Nat) : Bool := cO (agetF e.slots s) true fun c => match c.d with
  | .ptr id _ => cO (agetF σ.objs id) true fun cs => sameO (some cs) (agetF σ'.objs id)
  | .map id => cO (agetF σ.oth id) true fun x => sameM (some x) (agetF σ'.oth id)
  | _ => true
theorem zb0 (x0 x1 x2 x3) : zl0 x0 x1 x2 x3 = sameW x0 x1 x2 x3 := by
  (first | rfl | (simp only [zl0, sameW, bO_eq, cO_eq, iB_eq, zao, za1, zam, zaz, zan, zag, zah, zai, zac, zaj, zaf, zar, za4, zat, AOpd.dropF_eq, za0, zae, zad, zak, zau, zax, za2, za3, za5, zap, zal, Env.putF_eq, Env.putVF_eq, Env.boxF_eq, zav, zbc, za7, za8, za9, zbd, zbb, zbn, zbv, zbm, zbj, zbr, zbi]; done) | (simp only [zl0, sameW, bO_eq, cO_eq, iB_eq, zao, za1, zam, zaz, zan, zag, zah, zai, zac, zaj, zaf, zar, za4, zat, AOpd.dropF_eq, za0, zae, zad, zak, zau, zax, za2, za3, za5, zap, zal, Env.putF_eq, Env.putVF_eq, Env.boxF_eq, zav, zbc, za7, za8, za9, zbd, zbb, zbn, zbv, zbm, zbj, zbr, zbi]; rfl))
theorem zbw (e : Env) (σ σ2 : Store) : zl0 e σ σ2 = sameW e σ σ2 := by funext s; exact zb0 e σ σ2 s
noncomputable def stOKF (b : Option (List Nat)) (e : Env) (σ σ' : Store) : Bool := cO b true fun ws => ws.all (zl0 e σ σ')
theorem zcg (x0 x1 x2 x3) : stOKF x0 x1 x2 x3 = stOK x0 x1 x2 x3 := by
  (first | rfl | (simp only [stOKF, stOK, bO_eq, cO_eq, iB_eq, zao, za1, zam, zaz, zan, zag, zah, zai, zac, zaj, zaf, zar, za4, zat, AOpd.dropF_eq, za0, zae, zad, zak, zau, zax, za2, za3, za5, zap, zal, Env.putF_eq, Env.putVF_eq, Env.boxF_eq, zav, zbc, za7, za8, za9, zbd, zbb, zbn, zbv, zbm, zbj, zbr, zbi, zb0, zbw]; done) | (simp only [stOKF, stOK, bO_eq, cO_eq, iB_eq, zao, za1, zam, zaz, zan, zag, zah, zai, zac, zaj, zaf, zar, za4, zat, AOpd.dropF_eq, za0, zae, zad, zak, zau, zax, za2, za3, za5, zap, zal, Env.putF_eq, Env.putVF_eq, Env.boxF_eq, zav, zbc, za7, za8, za9, zbd, zbb, zbn, zbv, zbm, zbj, zbr, zbi, zb0, zbw]; rfl))
noncomputable def AOp.kindK (op : AOp) : Kind := AOp.rec (motive := fun _ => Kind)
  (fun y0 =>  .op)
  (fun y0 y1 y2 =>  .op)
  (fun y0 =>  .op)
  (fun y0 =>  .op)
  (fun y0 y1 =>  .op)
  (fun y0 y1 =>  .op)
  (fun y0 =>  .op)
  (fun y0 =>  .op)
  (fun y0 y1 =>  .op)
  (fun y0 y1 =>  .op)
  (fun y0 y1 y2 =>  .op)
  (fun y0 y1 y2 =>  .op)
  (fun y0 y1 y2 =>  .op)
  (fun y0 y1 =>  .op)
  (fun y0 y1 y2 =>  .op)
  (fun y0 =>  .op)
  (fun y0 y1 y2 =>  .op)
  (fun y0 y1 y2 =>  .op)
  (fun y0 y1 =>  .op)
  (fun y0 y1 =>  .op)
  (fun y0 =>  .op)
  (fun y0 =>  .op)
  (fun y0 =>  .op)
  (fun y0 y1 =>  .op)
  (fun y0 y1 =>  .op)
  (fun y0 y1 y2 =>  .op)
  (fun y0 y1 y2 y3 =>  .op)
  (fun y0 y1 y2 =>  .op)
  (fun y0 y1 y2 =>  .op)
  (fun y0 y1 y2 =>  .op)
  (fun y0 y1 y2 =>  .op)
  (fun y0 y1 =>  .op)
  (fun y0 y1 =>  .op)
  (fun y0 =>  .op)
  (fun y0 =>  .op)
  (fun y0 y1 y2 y3 =>  .op)
  (fun y0 y1 y2 y3 =>  .op)
  (fun y0 y1 =>  .op)
  (fun y0 y1 =>  .op)
  (fun y0 y1 y2 =>  .op)
  (fun y0 y1 =>  .op)
  (fun y0 y1 =>  .op)
  (fun y0 y1 y2 y3 y4 =>  .op)
  (fun y0 y1 y2 =>  .op)
  (fun y0 y1 =>  .op)
  (fun y0 y1 =>  .op)
  (fun y0 y1 y2 =>  .op)
  (fun y0 y1 =>  .op)
  (fun y0 y1 =>  .op)
  (fun y0 y1 =>  .op)
  (fun y0 y1 y2 y3 =>  .op)
  (fun _ _ _ =>  .call)
  (fun _ _ _ =>  .call)
  (fun y0 y1 y2 =>  .op)
  (fun y0 y1 y2 y3 =>  .op)
  (fun y0 y1 y2 y3 =>  .op)
  (fun y0 y1 y2 =>  .op)
  (fun y0 y1 y2 y3 y4 =>  .op)
  (fun y0 y1 =>  .op)
  (fun y0 y1 y2 y3 =>  .op)
  (fun y0 y1 y2 y3 y4 =>  .op)
  (fun y0 y1 y2 =>  .op)
  (fun y0 y1 y2 =>  .op)
  ( .op)
  (fun y0 =>  .op)
  (fun y0 y1 y2 y3 y4 =>  .op)
  (fun y0 =>  .op)
  (fun y0 y1 =>  .op)
  (fun y0 y1 y2 y3 y4 =>  .op)
  (fun y0 y1 y2 y3 =>  .op)
  (fun y0 =>  .op)
  (fun y0 y1 y2 =>  .op)
  (fun y0 y1 y2 y3 =>  .op)
  (fun y0 y1 y2 =>  .op)
  (fun _ _ =>  .call)
  (fun _ _ =>  .call)
  (fun y0 y1 =>  .op)
  (fun _ =>  .panic) op
noncomputable def AOp.kindF (op : AOp) : Kind := AOp.kindK op
theorem AOp.kindF_eq (x0) : AOp.kindF x0 = AOp.kind x0 := by
  cases x0 <;> (first | rfl | (simp only [AOp.kindF, AOp.kind, bO_eq, cO_eq, iB_eq, zao, za1, zam, zaz, zan, zag, zah, zai, zac, zaj, zaf, zar, za4, zat, AOpd.dropF_eq, za0, zae, zad, zak, zau, zax, za2, za3, za5, zap, zal, Env.putF_eq, Env.putVF_eq, Env.boxF_eq, zav, zbc, za7, za8, za9, zbd, zbb, zbn, zbv, zbm, zbj, zbr, zbi, zb0, zbw, zcg, AOp.kindK]; done) | (simp only [AOp.kindF, AOp.kind, bO_eq, cO_eq, iB_eq, zao, za1, zam, zaz, zan, zag, zah, zai, zac, zaj, zaf, zar, za4, zat, AOpd.dropF_eq, za0, zae, zad, zak, zau, zax, za2, za3, za5, zap, zal, Env.putF_eq, Env.putVF_eq, Env.boxF_eq, zav, zbc, za7, za8, za9, zbd, zbb, zbn, zbv, zbm, zbj, zbr, zbi, zb0, zbw, zcg, AOp.kindK]; rfl))
noncomputable def znr (op : AOp) : Env → Option D := AOp.rec (motive := fun _ => Env → Option D)
  (fun y0 => fun e =>  none)
  (fun y0 y1 y2 => fun e =>  none)
  (fun y0 => fun e =>  none)
  (fun y0 => fun e =>  none)
  (fun y0 y1 => fun e =>  none)
  (fun y0 y1 => fun e =>  none)
  (fun y0 => fun e =>  none)
  (fun y0 => fun e =>  none)
  (fun y0 y1 => fun e =>  none)
  (fun y0 y1 => fun e =>  none)
  (fun y0 y1 y2 => fun e =>  none)
  (fun y0 y1 y2 => fun e =>  none)
  (fun y0 y1 y2 => fun e =>  none)
  (fun y0 y1 => fun e =>  none)
  (fun y0 y1 y2 => fun e =>  none)
  (fun y0 => fun e =>  none)
  (fun y0 y1 y2 => fun e =>  none)
  (fun y0 y1 y2 => fun e =>  none)
  (fun y0 y1 => fun e =>  none)
  (fun y0 y1 => fun e =>  none)
  (fun y0 => fun e =>  none)
  (fun y0 => fun e =>  none)
  (fun y0 => fun e =>  none)
  (fun y0 y1 => fun e =>  none)
  (fun y0 y1 => fun e =>  none)
  (fun y0 y1 y2 => fun e =>  none)
  (fun y0 y1 y2 y3 => fun e =>  none)
  (fun y0 y1 y2 => fun e =>  none)
  (fun y0 y1 y2 => fun e =>  none)
  (fun y0 y1 y2 => fun e =>  none)
  (fun y0 y1 y2 => fun e =>  none)
  (fun y0 y1 => fun e =>  none)
  (fun y0 y1 => fun e =>  none)
  (fun y0 => fun e =>  none)
  (fun y0 => fun e =>  none)
  (fun y0 y1 y2 y3 => fun e =>  none)
  (fun y0 y1 y2 y3 => fun e =>  none)
  (fun y0 y1 => fun e =>  none)
  (fun y0 y1 => fun e =>  none)
  (fun y0 y1 y2 => fun e =>  none)
  (fun y0 y1 => fun e =>  none)
  (fun y0 y1 => fun e =>  none)
  (fun y0 y1 y2 y3 y4 => fun e =>  none)
  (fun y0 y1 y2 => fun e =>  none)
  (fun y0 y1 => fun e =>  none)
  (fun y0 y1 => fun e =>  none)
  (fun y0 y1 y2 => fun e =>  none)
  (fun y0 y1 => fun e =>  none)
  (fun y0 y1 => fun e =>  none)
  (fun y0 y1 => fun e =>  none)
  (fun y0 y1 y2 y3 => fun e =>  none)
  (fun y0 y1 y2 => fun e =>  none)
  (fun y0 y1 y2 => fun e =>  none)
  (fun y0 y1 y2 => fun e =>  none)
  (fun y0 y1 y2 y3 => fun e =>  none)
  (fun y0 y1 y2 y3 => fun e =>  none)
  (fun y0 y1 y2 => fun e =>  none)
  (fun y0 y1 y2 y3 y4 => fun e =>  none)
  (fun y0 y1 => fun e =>  none)
  (fun y0 y1 y2 y3 => fun e =>  none)
  (fun y0 y1 y2 y3 y4 => fun e =>  none)
  (fun y0 y1 y2 => fun e =>  none)
  (fun y0 y1 y2 => fun e =>  none)
  (fun e =>  none)
  (fun y0 => fun e =>  none)
  (fun y0 y1 y2 y3 y4 => fun e =>  none)
  (fun y0 => fun e =>  none)
  (fun y0 y1 => fun e =>  none)
  (fun y0 y1 y2 y3 y4 => fun e =>  none)
  (fun y0 y1 y2 y3 => fun e =>  none)
  (fun y0 => fun e =>  none)
  (fun y0 y1 y2 => fun e =>  none)
  (fun y0 y1 y2 y3 => fun e =>  none)
  (fun y0 y1 y2 => fun e =>  none)
  (fun y0 y1 => fun e =>  none)
  (fun y0 y1 => fun e =>  none)
  (fun y0 y1 => fun e =>  none)
  (fun x => fun e =>  bO (opdF e x) fun c => match c.d with
    | .iface t d => some (.iface t d)
    | _ => none) op
noncomputable def zkf (op : AOp) (e : Env) : Option D := znr op e
theorem zb3 (x0 x1) : zkf x0 x1 = zci x0 x1 := by
  cases x0 <;> (first | rfl | (simp only [zkf, zci, bO_eq, cO_eq, iB_eq, zao, za1, zam, zaz, zan, zag, zah, zai, zac, zaj, zaf, zar, za4, zat, AOpd.dropF_eq, za0, zae, zad, zak, zau, zax, za2, za3, za5, zap, zal, Env.putF_eq, Env.putVF_eq, Env.boxF_eq, zav, zbc, za7, za8, za9, zbd, zbb, zbn, zbv, zbm, zbj, zbr, zbi, zb0, zbw, zcg, AOp.kindF_eq, znr]; done) | (simp only [zkf, zci, bO_eq, cO_eq, iB_eq, zao, za1, zam, zaz, zan, zag, zah, zai, zac, zaj, zaf, zar, za4, zat, AOpd.dropF_eq, za0, zae, zad, zak, zau, zax, za2, za3, za5, zap, zal, Env.putF_eq, Env.putVF_eq, Env.boxF_eq, zav, zbc, za7, za8, za9, zbd, zbb, zbn, zbv, zbm, zbj, zbr, zbi, zb0, zbw, zcg, AOp.kindF_eq, znr]; rfl))
noncomputable def zjn (o : AOper) (e : Env) (σ : Store) : Option Step :=
  bO (zkm o.guard e) fun w => iB w
    (match o.op.kindF with
     | .op => bO (zl8 o.dst o.op e σ) fun r => some (.next r.1 r.2)
     | .call => bO (zl6 o.op e) fun r => some (.call r.1 r.2)
     | .panic => bO (zkf o.op e) fun d => some (.panic d))
    (some (.next (e.putF o.dst ⟨false, .undef⟩) σ))
theorem zch (x0 x1 x2) : zjn x0 x1 x2 = stepOp x0 x1 x2 := by
  (first | rfl | (simp only [zjn, stepOp, bO_eq, cO_eq, iB_eq, zao, za1, zam, zaz, zan, zag, zah, zai, zac, zaj, zaf, zar, za4, zat, AOpd.dropF_eq, za0, zae, zad, zak, zau, zax, za2, za3, za5, zap, zal, Env.putF_eq, Env.putVF_eq, Env.boxF_eq, zav, zbc, za7, za8, za9, zbd, zbb, zbn, zbv, zbm, zbj, zbr, zbi, zb0, zbw, zcg, AOp.kindF_eq, zb3]; done) | (simp only [zjn, stepOp, bO_eq, cO_eq, iB_eq, zao, za1, zam, zaz, zan, zag, zah, zai, zac, zaj, zaf, zar, za4, zat, AOpd.dropF_eq, za0, zae, zad, zak, zau, zax, za2, za3, za5, zap, zal, Env.putF_eq, Env.putVF_eq, Env.boxF_eq, zav, zbc, za7, za8, za9, zbd, zbb, zbn, zbv, zbm, zbj, zbr, zbi, zb0, zbw, zcg, AOp.kindF_eq, zb3]; rfl))
noncomputable def zfe (C : CallF) (l : List AOper) : Env → Store → Option OpsOut := List.rec (motive := fun _ => Env → Store → Option OpsOut) (fun e σ => some (.normal e σ))
  (fun o _ ih e σ => oR none (fun s => Step.rec (motive := fun _ => Option OpsOut) (fun e' σ' => bR none (ih e' σ') (stOKF (zdv o.op) e σ σ'))
    (fun f as => oR none (fun r => bR none (Out.rec (motive := fun _ => Option OpsOut) (fun c => ih (e.putF o.dst c) r.2) (fun d => some (.panic d e r.2)) r.1) (stOKF (zdv o.op) e σ r.2)) (C f as σ)) (fun d => some (.panic d e σ)) s) (zjn o e σ)) l
theorem zcf (C : CallF) (l : List AOper) (e : Env) (σ : Store) : zfe C l e σ = runOps C l e σ := by
  induction l generalizing e σ with
  | nil => rfl
  | cons o r ih =>
    show oR none (fun s => Step.rec (motive := fun _ => Option OpsOut) (fun e' σ' => bR none (zfe C r e' σ') (stOKF (zdv o.op) e σ σ'))
      (fun f as => oR none (fun q => bR none (Out.rec (motive := fun _ => Option OpsOut) (fun c => zfe C r (e.putF o.dst c) q.2) (fun d => some (.panic d e q.2)) q.1) (stOKF (zdv o.op) e σ q.2)) (C f as σ)) (fun d => some (.panic d e σ)) s) (zjn o e σ) = _
    rw [runOps, zch]
    cases stepOp o e σ with
    | none => rfl
    | some s =>
      cases s with
      | next e' σ' =>
        show bR none (zfe C r e' σ') (stOKF (zdv o.op) e σ σ') = ifB (stOK (stableOf o.op) e σ σ') (runOps C r e' σ') none
        rw [zcg, ih, zbi]
        cases stOK (stableOf o.op) e σ σ' <;> rfl
      | panic d => rfl
      | call f as =>
        show oR none (fun q => bR none (Out.rec (motive := fun _ => Option OpsOut) (fun c => zfe C r (e.putF o.dst c) q.2) (fun d => some (.panic d e q.2)) q.1) (stOKF (zdv o.op) e σ q.2)) (C f as σ) = bindO (C f as σ) fun r' => ifB (stOK (stableOf o.op) e σ r'.2) (match r'.1 with
          | .ret c => runOps C r (e.put o.dst c) r'.2
          | .panic d => some (.panic d e r'.2)) none
        cases C f as σ with
        | none => rfl
        | some q =>
          obtain ⟨q1, q2⟩ := q
          show bR none (Out.rec (motive := fun _ => Option OpsOut) (fun c => zfe C r (e.putF o.dst c) q2) (fun d => some (.panic d e q2)) q1) (stOKF (zdv o.op) e σ q2) = ifB (stOK (stableOf o.op) e σ q2) (match q1 with
          | .ret c => runOps C r (e.put o.dst c) q2
          | .panic d => some (.panic d e q2)) none
          rw [zcg, zbi]
          cases q1 with
          | ret c =>
            show bR none (zfe C r (e.putF o.dst c) q2) _ = _
            rw [ih, Env.putF_eq]
            cases stOK (stableOf o.op) e σ q2 <;> rfl
          | panic d => cases stOK (stableOf o.op) e σ q2 <;> rfl
noncomputable def zfv (e : Env) (clr : List Nat) : Env := { e with slots := adelF e.slots clr, locs := adelF e.locs clr, boxes := adelF e.boxes clr }
theorem zb6 (x0 x1) : zfv x0 x1 = clearEnv x0 x1 := by
  (first | rfl | (simp only [zfv, clearEnv, bO_eq, cO_eq, iB_eq, zao, za1, zam, zaz, zan, zag, zah, zai, zac, zaj, zaf, zar, za4, zat, AOpd.dropF_eq, za0, zae, zad, zak, zau, zax, za2, za3, za5, zap, zal, Env.putF_eq, Env.putVF_eq, Env.boxF_eq, zav, zbc, za7, za8, za9, zbd, zbb, zbn, zbv, zbm, zbj, zbr, zbi, zb0, zbw, zcg, AOp.kindF_eq, zb3, zch, zcf]; done) | (simp only [zfv, clearEnv, bO_eq, cO_eq, iB_eq, zao, za1, zam, zaz, zan, zag, zah, zai, zac, zaj, zaf, zar, za4, zat, AOpd.dropF_eq, za0, zae, zad, zak, zau, zax, za2, za3, za5, zap, zal, Env.putF_eq, Env.putVF_eq, Env.boxF_eq, zav, zbc, za7, za8, za9, zbd, zbb, zbn, zbv, zbm, zbj, zbr, zbi, zb0, zbw, zcg, AOp.kindF_eq, zb3, zch, zcf]; rfl))
noncomputable def zof (body : Env → Store → Option (AExit × Env × Store)) (n : Nat) : Env → Store → Option (AExit × Env × Store) := Nat.rec (motive := fun _ => Env → Store → Option (AExit × Env × Store)) (fun _ _ => none)
  (fun _ ih e σ => oR none (fun r => AExit.rec (motive := fun _ => Option (AExit × Env × Store)) (ih r.2.1 r.2.2) (fun _ => some r) (some r) (fun _ => some r) (fun _ => some r) r.1) (body e σ)) n
theorem zcl (body : Env → Store → Option (AExit × Env × Store)) (n : Nat) (e : Env) (σ : Store) : zof body n e σ = loopN body n e σ := by
  induction n generalizing e σ with
  | zero => rfl
  | succ n ih =>
    show oR none (fun r => AExit.rec (motive := fun _ => Option (AExit × Env × Store)) (zof body n r.2.1 r.2.2) (fun _ => some r) (some r) (fun _ => some r) (fun _ => some r) r.1) (body e σ) = _
    rw [loopN]
    cases body e σ with
    | none => rfl
    | some r =>
      obtain ⟨x, e', σ'⟩ := r
      cases x <;> first | rfl | exact ih e' σ'
noncomputable def snapF (l : List (Nat × Cell)) : List (Nat × Cell) := List.rec (motive := fun _ => List (Nat × Cell)) [] (fun p _ ih => (p.1, ⟨false, p.2.d⟩) :: ih) l
theorem zct (l : List (Nat × Cell)) : snapF l = snap l := by
  induction l with
  | nil => rfl
  | cons p r ih =>
    obtain ⟨k, v⟩ := p
    show (k, _) :: snapF r = _
    rw [snap, ih]
noncomputable def zkg : List Nat → List D → List (Nat × Cell) → List (Nat × Cell)
  | p :: ps, d :: ds, l => zkg ps ds (asetF l p ⟨false, d⟩)
  | _, _, l => l
theorem zcd : ∀ (ps : List Nat) (ds : List D) (l : List (Nat × Cell)), zkg ps ds l = zfd ps ds l
  | [], ds, l => by cases ds <;> rfl
  | p :: ps, [], l => rfl
  | p :: ps, d :: ds, l => by rw [zkg, zfd, zam, zcd ps ds]
noncomputable def zf1 (σ : Store) (l : Nat) : Option LRec := bO (agetF σ.oth l) fun x => match x with
  | .loop r => some r
  | _ => none
theorem zcm (x0 x1) : zf1 x0 x1 = ze5 x0 x1 := by
  (first | rfl | (simp only [zf1, ze5, bO_eq, cO_eq, iB_eq, zao, za1, zam, zaz, zan, zag, zah, zai, zac, zaj, zaf, zar, za4, zat, AOpd.dropF_eq, za0, zae, zad, zak, zau, zax, za2, za3, za5, zap, zal, Env.putF_eq, Env.putVF_eq, Env.boxF_eq, zav, zbc, za7, za8, za9, zbd, zbb, zbn, zbv, zbm, zbj, zbr, zbi, zb0, zbw, zcg, AOp.kindF_eq, zb3, zch, zcf, zb6, zcl, zct, zcd]; done) | (simp only [zf1, ze5, bO_eq, cO_eq, iB_eq, zao, za1, zam, zaz, zan, zag, zah, zai, zac, zaj, zaf, zar, za4, zat, AOpd.dropF_eq, za0, zae, zad, zak, zau, zax, za2, za3, za5, zap, zal, Env.putF_eq, Env.putVF_eq, Env.boxF_eq, zav, zbc, za7, za8, za9, zbd, zbb, zbn, zbv, zbm, zbj, zbr, zbi, zb0, zbw, zcg, AOp.kindF_eq, zb3, zch, zcf, zb6, zcl, zct, zcd]; rfl))
noncomputable def zga (ro : Option Nat) (r : LRec) (e : Env) (σ : Store) : Option (Nat × Env × Store) :=
  match ro with
  | none => some (σ.next + 1, { e with defers := (yldBase + σ.next, []) :: e.defers }, { σ with oth := (σ.next + 1, .loop r) :: (σ.next, .dfr) :: σ.oth, next := σ.next + 2 })
  | some l => bO (zf1 σ l) fun _ => some (σ.next, e, { σ with oth := (σ.next, .loop r) :: σ.oth, next := σ.next + 1 })
theorem zcc (x0 x1 x2 x3) : zga x0 x1 x2 x3 = enterLoop x0 x1 x2 x3 := by
  cases x0 <;> (first | rfl | (simp only [zga, enterLoop, bO_eq, cO_eq, iB_eq, zao, za1, zam, zaz, zan, zag, zah, zai, zac, zaj, zaf, zar, za4, zat, AOpd.dropF_eq, za0, zae, zad, zak, zau, zax, za2, za3, za5, zap, zal, Env.putF_eq, Env.putVF_eq, Env.boxF_eq, zav, zbc, za7, za8, za9, zbd, zbb, zbn, zbv, zbm, zbj, zbr, zbi, zb0, zbw, zcg, AOp.kindF_eq, zb3, zch, zcf, zb6, zcl, zct, zcd, zcm]; done) | (simp only [zga, enterLoop, bO_eq, cO_eq, iB_eq, zao, za1, zam, zaz, zan, zag, zah, zai, zac, zaj, zaf, zar, za4, zat, AOpd.dropF_eq, za0, zae, zad, zak, zau, zax, za2, za3, za5, zap, zal, Env.putF_eq, Env.putVF_eq, Env.boxF_eq, zav, zbc, za7, za8, za9, zbd, zbb, zbn, zbv, zbm, zbj, zbr, zbi, zb0, zbw, zcg, AOp.kindF_eq, zb3, zch, zcf, zb6, zcl, zct, zcd, zcm]; rfl))
noncomputable def zh2 (l : Nat) (e : Env) (σ : Store) : Option (AExit × Env × Store) :=
  bO (zf1 σ l) fun r => match r.st with
    | .ready => some (.normal, e, { σ with oth := zdj σ.oth l })
    | .done (.exit i) => some (.exit i, e, { σ with oth := zdj σ.oth l })
    | .done .ret => some (.ret, e, { σ with oth := zdj σ.oth l })
    | .busy => none
    | .over => none
theorem zcr (x0 x1 x2) : zh2 x0 x1 x2 = endLoop x0 x1 x2 := by
  (first | rfl | (simp only [zh2, endLoop, bO_eq, cO_eq, iB_eq, zao, za1, zam, zaz, zan, zag, zah, zai, zac, zaj, zaf, zar, za4, zat, AOpd.dropF_eq, za0, zae, zad, zak, zau, zax, za2, za3, za5, zap, zal, Env.putF_eq, Env.putVF_eq, Env.boxF_eq, zav, zbc, za7, za8, za9, zbd, zbb, zbn, zbv, zbm, zbj, zbr, zbi, zb0, zbw, zcg, AOp.kindF_eq, zb3, zch, zcf, zb6, zcl, zct, zcd, zcm, zcc]; done) | (simp only [zh2, endLoop, bO_eq, cO_eq, iB_eq, zao, za1, zam, zaz, zan, zag, zah, zai, zac, zaj, zaf, zar, za4, zat, AOpd.dropF_eq, za0, zae, zad, zak, zau, zax, za2, za3, za5, zap, zal, Env.putF_eq, Env.putVF_eq, Env.boxF_eq, zav, zbc, za7, za8, za9, zbd, zbb, zbn, zbv, zbm, zbj, zbr, zbi, zb0, zbw, zcg, AOp.kindF_eq, zb3, zch, zcf, zb6, zcl, zct, zcd, zcm, zcc]; rfl))
noncomputable def zgp (args : List D) : Env := { slots := zb4 0 args, locs := [], boxes := [], defers := [] }
theorem zcw (x0) : zgp x0 = zb1 x0 := by
  (first | rfl | (simp only [zgp, zb1, bO_eq, cO_eq, iB_eq, zao, za1, zam, zaz, zan, zag, zah, zai, zac, zaj, zaf, zar, za4, zat, AOpd.dropF_eq, za0, zae, zad, zak, zau, zax, za2, za3, za5, zap, zal, Env.putF_eq, Env.putVF_eq, Env.boxF_eq, zav, zbc, za7, za8, za9, zbd, zbb, zbn, zbv, zbm, zbj, zbr, zbi, zb0, zbw, zcg, AOp.kindF_eq, zb3, zch, zcf, zb6, zcl, zct, zcd, zcm, zcc, zcr]; done) | (simp only [zgp, zb1, bO_eq, cO_eq, iB_eq, zao, za1, zam, zaz, zan, zag, zah, zai, zac, zaj, zaf, zar, za4, zat, AOpd.dropF_eq, za0, zae, zad, zak, zau, zax, za2, za3, za5, zap, zal, Env.putF_eq, Env.putVF_eq, Env.boxF_eq, zav, zbc, za7, za8, za9, zbd, zbb, zbn, zbv, zbm, zbj, zbr, zbi, zb0, zbw, zcg, AOp.kindF_eq, zb3, zch, zcf, zb6, zcl, zct, zcd, zcm, zcc, zcr]; rfl))
noncomputable def zea (R : RecF) (C : CallF) : Option D → List (FuncId × List D) → Store → Option (Option D × Store)
  | m, [], σ => some (m, σ)
  | m, (f, as) :: r, σ => iB (isY f) (bO (agetF σ.oth (f - yldBase)) fun x => match x with
    | .dfr => zea R C m r { σ with oth := zdj σ.oth (f - yldBase) }
    | _ => none) (match R f as m σ with
    | some x => zea R C x.1 r x.2
    | none => bO (C f as σ) fun o => match o.1 with
      | .ret _ => zea R C m r o.2
      | .panic _ => none)
theorem zcq (R : RecF) (C : CallF) : ∀ (m : Option D) (l : List (FuncId × List D)) (σ : Store), zea R C m l σ = runDefers R C m l σ
  | m, [], σ => rfl
  | m, (f, as) :: r, σ => by
    have ih : ∀ m, zea R C m r = runDefers R C m r := by intro m; funext σ; exact zcq R C m r σ
    simp only [zea, runDefers, ih, bO_eq, cO_eq, iB_eq, zao, za1, zam, zaz, zan, zag, zah, zai, zac, zaj, zaf, zar, za4, zat, AOpd.dropF_eq, za0, zae, zad, zak, zau, zax, za2, za3, za5, zap, zal, Env.putF_eq, Env.putVF_eq, Env.boxF_eq, zav, zbc, za7, za8, za9, zbd, zbb, zbn, zbv, zbm, zbj, zbr, zbi, zb0, zbw, zcg, AOp.kindF_eq, zb3, zch, zcf, zb6, zcl, zct, zcd, zcm, zcc, zcr, zcw]
    rfl
noncomputable def zg7 (e : Env) (σ : Store) : ARes → Option Cell
  | .tmp s => agetF e.slots s
  | .cell s k => bO (addrF e (.tmp s)) fun p => match p with
    | .loc b off => bO (agetF e.boxes b) fun cs => zdg cs k off
    | .ptr id off => bO (agetF σ.objs id) fun cs => bO (zdg cs k off) fun c => some ⟨false, c.d⟩
    | .eptr _ => none
  | .cellA s k => bO (addrF e (.tmp s)) fun p => match p with
    | .loc b 0 => bO (agetF e.boxes b) fun cs => iB (cs.length == k) (some ⟨firstOwn cs, .agg (cs.map fun c => c.d)⟩) none
    | _ => none
theorem zcy (x0 x1 x2) : zg7 x0 x1 x2 = zb7 x0 x1 x2 := by
  cases x2 <;> (first | rfl | (simp only [zg7, zb7, bO_eq, cO_eq, iB_eq, zao, za1, zam, zaz, zan, zag, zah, zai, zac, zaj, zaf, zar, za4, zat, AOpd.dropF_eq, za0, zae, zad, zak, zau, zax, za2, za3, za5, zap, zal, Env.putF_eq, Env.putVF_eq, Env.boxF_eq, zav, zbc, za7, za8, za9, zbd, zbb, zbn, zbv, zbm, zbj, zbr, zbi, zb0, zbw, zcg, AOp.kindF_eq, zb3, zch, zcf, zb6, zcl, zct, zcd, zcm, zcc, zcr, zcw, zcq]; done) | (simp only [zg7, zb7, bO_eq, cO_eq, iB_eq, zao, za1, zam, zaz, zan, zag, zah, zai, zac, zaj, zaf, zar, za4, zat, AOpd.dropF_eq, za0, zae, zad, zak, zau, zax, za2, za3, za5, zap, zal, Env.putF_eq, Env.putVF_eq, Env.boxF_eq, zav, zbc, za7, za8, za9, zbd, zbb, zbn, zbv, zbm, zbj, zbr, zbi, zb0, zbw, zcg, AOp.kindF_eq, zb3, zch, zcf, zb6, zcl, zct, zcd, zcm, zcc, zcr, zcw, zcq]; rfl))
noncomputable def zik (e : Env) (σ : Store) : List ARes → Option (List D)
  | [] => some []
  | r :: l => bO (zg7 e σ r) fun c => bO (zik e σ l) fun ds => some (c.d :: ds)
theorem zcz (e : Env) (σ : Store) : ∀ (l : List ARes), zik e σ l = zb2 e σ l
  | [] => rfl
  | c :: r => by
    have ih := zcz e σ r
    simp only [zik, zb2, ih, bO_eq, cO_eq, iB_eq, zao, za1, zam, zaz, zan, zag, zah, zai, zac, zaj, zaf, zar, za4, zat, AOpd.dropF_eq, za0, zae, zad, zak, zau, zax, za2, za3, za5, zap, zal, Env.putF_eq, Env.putVF_eq, Env.boxF_eq, zav, zbc, za7, za8, za9, zbd, zbb, zbn, zbv, zbm, zbj, zbr, zbi, zb0, zbw, zcg, AOp.kindF_eq, zb3, zch, zcf, zb6, zcl, zct, zcd, zcm, zcc, zcr, zcw, zcq, zcy]
noncomputable def zib (e : Env) (σ : Store) : List ARes → Option Cell
  | [r] => zg7 e σ r
  | l => bO (zik e σ l) fun ds => some ⟨false, .tup ds⟩
theorem zde (x0 x1 x2) : zib x0 x1 x2 = readRes x0 x1 x2 := by
  (first | rfl | (simp only [zib, readRes, bO_eq, cO_eq, iB_eq, zao, za1, zam, zaz, zan, zag, zah, zai, zac, zaj, zaf, zar, za4, zat, AOpd.dropF_eq, za0, zae, zad, zak, zau, zax, za2, za3, za5, zap, zal, Env.putF_eq, Env.putVF_eq, Env.boxF_eq, zav, zbc, za7, za8, za9, zbd, zbb, zbn, zbv, zbm, zbj, zbr, zbi, zb0, zbw, zcg, AOp.kindF_eq, zb3, zch, zcf, zb6, zcl, zct, zcd, zcm, zcc, zcr, zcw, zcq, zcy, zcz]; done) | (simp only [zib, readRes, bO_eq, cO_eq, iB_eq, zao, za1, zam, zaz, zan, zag, zah, zai, zac, zaj, zaf, zar, za4, zat, AOpd.dropF_eq, za0, zae, zad, zak, zau, zax, za2, za3, za5, zap, zal, Env.putF_eq, Env.putVF_eq, Env.boxF_eq, zav, zbc, za7, za8, za9, zbd, zbb, zbn, zbv, zbm, zbj, zbr, zbi, zb0, zbw, zcg, AOp.kindF_eq, zb3, zch, zcf, zb6, zcl, zct, zcd, zcm, zcc, zcr, zcw, zcq, zcy, zcz]; rfl))
noncomputable def zgm (R : RecF) (C : CallF) (quiet : Bool) (af : AFun) (m : Nat) : AExit × Env × Store → Option (Out × Store)
  | (x, e, σ) => iB (quiet && !e.defers.isEmpty) none (match x with
    | .normal | .ret => bO (zea R C none e.defers σ) fun r => match r.1 with
      | none => bO (zib e r.2 af.res) fun c => some (.ret c, iB af.gc (r.2.trunc m) r.2)
      | some _ => none
    | .panic d => bO (zea R C (some d) e.defers σ) fun r => match r.1 with
      | none => bO (zib e r.2 af.res) fun c => some (.ret c, iB af.gc (r.2.trunc m) r.2)
      | some d' => some (.panic d', iB af.gc (r.2.trunc m) r.2)
    | .exit _ => none
    | .goto _ => none)
theorem zdt (x0 x1 x2 x3 x4 x5) : zgm x0 x1 x2 x3 x4 x5 = zd5 x0 x1 x2 x3 x4 x5 := by
  (first | rfl | (simp only [zgm, zd5, bO_eq, cO_eq, iB_eq, zao, za1, zam, zaz, zan, zag, zah, zai, zac, zaj, zaf, zar, za4, zat, AOpd.dropF_eq, za0, zae, zad, zak, zau, zax, za2, za3, za5, zap, zal, Env.putF_eq, Env.putVF_eq, Env.boxF_eq, zav, zbc, za7, za8, za9, zbd, zbb, zbn, zbv, zbm, zbj, zbr, zbi, zb0, zbw, zcg, AOp.kindF_eq, zb3, zch, zcf, zb6, zcl, zct, zcd, zcm, zcc, zcr, zcw, zcq, zcy, zcz, zde]; done) | (simp only [zgm, zd5, bO_eq, cO_eq, iB_eq, zao, za1, zam, zaz, zan, zag, zah, zai, zac, zaj, zaf, zar, za4, zat, AOpd.dropF_eq, za0, zae, zad, zak, zau, zax, za2, za3, za5, zap, zal, Env.putF_eq, Env.putVF_eq, Env.boxF_eq, zav, zbc, za7, za8, za9, zbd, zbb, zbn, zbv, zbm, zbj, zbr, zbi, zb0, zbw, zcg, AOp.kindF_eq, zb3, zch, zcf, zb6, zcl, zct, zcd, zcm, zcc, zcr, zcw, zcq, zcy, zcz, zde]; rfl))
noncomputable def execF (c : ACode) : CallF → Nat → Option Nat → Env → Store → Option (AExit × Env × Store) := ACode.rec (motive := fun _ => CallF → Nat → Option Nat → Env → Store → Option (AExit × Env × Store))
  (fun _ _ _ e σ => some (.normal, e, σ))
  (fun ops perm clr C _ _ e σ => oR none (fun r => OpsOut.rec (motive := fun _ => Option (AExit × Env × Store)) (fun e' σ' => some (.normal, zfv e' clr, σ')) (fun d e' σ' => some (.panic d, caseO perm e' (fun _ => e'.bare), σ')) r) (zfe C ops e σ))
  (fun _ _ iha ihb C n ro e σ => oR none (fun r => AExit.rec (motive := fun _ => Option (AExit × Env × Store)) (ihb C n ro r.2.1 r.2.2) (fun _ => some r) (some r) (fun _ => some r) (fun _ => some r) r.1) (iha C n ro e σ))
  (fun c _ _ iht ihf C n ro e σ => oR none (fun c => oR none (fun b => bR (ihf C n ro e σ) (iht C n ro e σ) b) c.d.bool?) (opdF e c))
  (fun id _ ih C n ro e σ => oR none (fun r => AExit.rec (motive := fun _ => Option (AExit × Env × Store)) (some r) (fun i => bR (some r) (some (.normal, r.2.1, r.2.2)) (Nat.beq i id)) (some r) (fun _ => some r) (fun _ => some r) r.1) (ih C n ro e σ))
  (fun _ ih C n ro e σ => zof (ih C n ro) n e σ)
  (fun id _ _ _ e σ => some (.exit id, e, σ))
  (fun _ _ _ e σ => some (.ret, e, σ))
  (fun _ ih C n ro e σ => match ih C n ro e σ with
    | some (.goto _, _, _) => none
    | r => r)
  (fun _ _ _ _ _ => none)
  (fun ts _ ih C n ro e σ => bO (zgo ts e σ) fun x => ih C n ro x.1 x.2)
  (fun g ps assign body _ _ C _ ro e σ => bindO (opdF e g) fun c => bindO c.d.fnF? fun f =>
    bindO (zga ro ⟨snapF e.slots, ps, assign, body, .ready⟩ e σ) fun x => bindO (C f.1 (f.2.1 ++ [.yld x.1] ++ f.2.2) x.2.2) fun o => match o.1 with
      | .ret _ => zh2 x.1 x.2.1 o.2
      | .panic _ => none)
  (fun _ _ _ _ e σ => some (.normal, e, σ))
  (fun l _ _ _ e σ => some (.goto l, e, σ))
  (fun l _ _ ihb ihr C n ro e σ => jumpN l (ihr C n ro) n (ihb C n ro e σ)) c
theorem zsg (C : CallF) (n : Nat) (ro : Option Nat) : ∀ (c : ACode), execF c C n ro = exec C n ro c := by
  intro c
  induction c with
  | skip => rfl
  | region ops perm clr =>
    funext e σ
    show oR none (fun r => OpsOut.rec (motive := fun _ => Option (AExit × Env × Store)) (fun e' σ' => some (.normal, zfv e' clr, σ')) (fun d e' σ' => some (.panic d, caseO perm e' (fun _ => e'.bare), σ')) r) (zfe C ops e σ) = _
    rw [exec, zcf]
    cases runOps C ops e σ with
    | none => rfl
    | some r =>
      cases r with
      | normal e' σ' => show some (AExit.normal, zfv e' clr, σ') = _; rw [zb6]
      | panic d e' σ' => rfl
  | seq a b iha ihb =>
    funext e σ
    show oR none (fun r => AExit.rec (motive := fun _ => Option (AExit × Env × Store)) (execF b C n ro r.2.1 r.2.2) (fun _ => some r) (some r) (fun _ => some r) (fun _ => some r) r.1) (execF a C n ro e σ) = _
    rw [exec, iha, ihb]
    cases exec C n ro a e σ with
    | none => rfl
    | some r => obtain ⟨x, e', σ'⟩ := r; cases x <;> rfl
  | cond c t f iht ihf =>
    funext e σ
    show oR none (fun c => oR none (fun b => bR (execF f C n ro e σ) (execF t C n ro e σ) b) c.d.bool?) (opdF e c) = _
    rw [exec, za4, iht, ihf]
    cases opd e c with
    | none => rfl
    | some c =>
      show oR none (fun b => bR (exec C n ro f e σ) (exec C n ro t e σ) b) c.d.bool? = bindO c.d.bool? fun b => ifB b (exec C n ro t e σ) (exec C n ro f e σ)
      cases c.d.bool? with
      | none => rfl
      | some b => cases b <;> rfl
  | block id b ih =>
    funext e σ
    show oR none (fun r => AExit.rec (motive := fun _ => Option (AExit × Env × Store)) (some r) (fun i => bR (some r) (some (.normal, r.2.1, r.2.2)) (Nat.beq i id)) (some r) (fun _ => some r) (fun _ => some r) r.1) (execF b C n ro e σ) = _
    rw [exec, ih]
    cases exec C n ro b e σ with
    | none => rfl
    | some r =>
      obtain ⟨x, e', σ'⟩ := r
      cases x with
      | exit i =>
        show bR (some (AExit.exit i, e', σ')) (some (.normal, e', σ')) (Nat.beq i id) = ifB (i == id) (some (.normal, e', σ')) (some (.exit i, e', σ'))
        rw [beqF]
        cases Nat.beq i id <;> rfl
      | _ => rfl
  | loop b ih =>
    funext e σ
    show zof (execF b C n ro) n e σ = _
    rw [exec, zcl, ih]
  | exit id => rfl
  | ret => rfl
  | scope b ih =>
    funext e σ
    show (match execF b C n ro e σ with
      | some (.goto _, _, _) => none
      | r => r) = _
    rw [exec, ih]
    rfl
  | stuck => rfl
  | frz ts b ih =>
    funext e σ
    show (bO (zgo ts e σ) fun x => execF b C n ro x.1 x.2) = _
    rw [exec, zbb, ih, bO_eq]
  | rangeF g ps a b iha ihb =>
    funext e σ
    show (bindO (opdF e g) fun c => bindO c.d.fnF? fun f =>
      bindO (zga ro ⟨snapF e.slots, ps, a, b, .ready⟩ e σ) fun x => bindO (C f.1 (f.2.1 ++ [.yld x.1] ++ f.2.2) x.2.2) fun o => match o.1 with
      | .ret _ => zh2 x.1 x.2.1 o.2
      | .panic _ => none) = _
    rw [exec, za4, zct]
    simp only [zcc, zcr]
    rfl
  | label l => rfl
  | goto l => rfl
  | scopeJ l a b iha ihb =>
    funext e σ
    show jumpN l (execF b C n ro) n (execF a C n ro e σ) = _
    rw [exec, iha, ihb]
noncomputable def zsh (C : CallF) (n : Nat) (ro : Option Nat) (c : ACode) (e : Env) (σ : Store) : Option (AExit × Env × Store) := execF c C n ro e σ
theorem zep (C : CallF) (n : Nat) (ro : Option Nat) (c : ACode) (e : Env) (σ : Store) : zsh C n ro c e σ = exec C n ro c e σ := by
  show execF c C n ro e σ = _
  rw [zsg]
noncomputable def zfr (σ : Store) (l : Nat) (r : LRec) (s : LSt) : Store := { σ with oth := asetF σ.oth l (.loop { r with st := s }) }
theorem zey (x0 x1 x2 x3) : zfr x0 x1 x2 x3 = zem x0 x1 x2 x3 := by
  (first | rfl | (simp only [zfr, zem, bO_eq, cO_eq, iB_eq, zao, za1, zam, zaz, zan, zag, zah, zai, zac, zaj, zaf, zar, za4, zat, AOpd.dropF_eq, za0, zae, zad, zak, zau, zax, za2, za3, za5, zap, zal, Env.putF_eq, Env.putVF_eq, Env.boxF_eq, zav, zbc, za7, za8, za9, zbd, zbb, zbn, zbv, zbm, zbj, zbr, zbi, zb0, zbw, zcg, AOp.kindF_eq, zb3, zch, zcf, zb6, zcl, zct, zcd, zcm, zcc, zcr, zcw, zcq, zcy, zcz, zde, zdt, zep]; done) | (simp only [zfr, zem, bO_eq, cO_eq, iB_eq, zao, za1, zam, zaz, zan, zag, zah, zai, zac, zaj, zaf, zar, za4, zat, AOpd.dropF_eq, za0, zae, zad, zak, zau, zax, za2, za3, za5, zap, zal, Env.putF_eq, Env.putVF_eq, Env.boxF_eq, zav, zbc, za7, za8, za9, zbd, zbb, zbn, zbv, zbm, zbj, zbr, zbi, zb0, zbw, zcg, AOp.kindF_eq, zb3, zch, zcf, zb6, zcl, zct, zcd, zcm, zcc, zcr, zcw, zcq, zcy, zcz, zde, zdt, zep]; rfl))
noncomputable def zmc (C : CallF) (n l : Nat) : Option (AExit × Env × Store) → Option (Out × Store)
  | some (x, _, σ) => bO (zf1 σ l) fun r => match x with
    | .normal => some (.ret ⟨false, .bool true⟩, zfr σ l r .ready)
    | .exit i => some (.ret ⟨false, .bool false⟩, zfr σ l r (.done (.exit i)))
    | .ret => some (.ret ⟨false, .bool false⟩, zfr σ l r (.done .ret))
    | .panic _ => none
    | .goto _ => none
  | none => none
theorem zho (x0 x1 x2 x3) : zmc x0 x1 x2 x3 = zjl x0 x1 x2 x3 := by
  (first | rfl | (simp only [zmc, zjl, bO_eq, cO_eq, iB_eq, zao, za1, zam, zaz, zan, zag, zah, zai, zac, zaj, zaf, zar, za4, zat, AOpd.dropF_eq, za0, zae, zad, zak, zau, zax, za2, za3, za5, zap, zal, Env.putF_eq, Env.putVF_eq, Env.boxF_eq, zav, zbc, za7, za8, za9, zbd, zbb, zbn, zbv, zbm, zbj, zbr, zbi, zb0, zbw, zcg, AOp.kindF_eq, zb3, zch, zcf, zb6, zcl, zct, zcd, zcm, zcc, zcr, zcw, zcq, zcy, zcz, zde, zdt, zep, zey]; done) | (simp only [zmc, zjl, bO_eq, cO_eq, iB_eq, zao, za1, zam, zaz, zan, zag, zah, zai, zac, zaj, zaf, zar, za4, zat, AOpd.dropF_eq, za0, zae, zad, zak, zau, zax, za2, za3, za5, zap, zal, Env.putF_eq, Env.putVF_eq, Env.boxF_eq, zav, zbc, za7, za8, za9, zbd, zbb, zbn, zbv, zbm, zbj, zbr, zbi, zb0, zbw, zcg, AOp.kindF_eq, zb3, zch, zcf, zb6, zcl, zct, zcd, zcm, zcc, zcr, zcw, zcq, zcy, zcz, zde, zdt, zep, zey]; rfl))
noncomputable def zmb (C : CallF) (n l : Nat) (body : ACode) : Option (AExit × Env × Store) → Option (Out × Store)
  | some (.normal, e, σ) => bO (zf1 σ l) fun r => iB r.st.isReady (zmc C n l (zsh C n (some l) body e (zfr σ l r .busy))) none
  | _ => none
theorem zo6 (x0 x1 x2 x3 x4) : zmb x0 x1 x2 x3 x4 = zjk x0 x1 x2 x3 x4 := by
  (first | rfl | (simp only [zmb, zjk, bO_eq, cO_eq, iB_eq, zao, za1, zam, zaz, zan, zag, zah, zai, zac, zaj, zaf, zar, za4, zat, AOpd.dropF_eq, za0, zae, zad, zak, zau, zax, za2, za3, za5, zap, zal, Env.putF_eq, Env.putVF_eq, Env.boxF_eq, zav, zbc, za7, za8, za9, zbd, zbb, zbn, zbv, zbm, zbj, zbr, zbi, zb0, zbw, zcg, AOp.kindF_eq, zb3, zch, zcf, zb6, zcl, zct, zcd, zcm, zcc, zcr, zcw, zcq, zcy, zcz, zde, zdt, zep, zey, zho]; done) | (simp only [zmb, zjk, bO_eq, cO_eq, iB_eq, zao, za1, zam, zaz, zan, zag, zah, zai, zac, zaj, zaf, zar, za4, zat, AOpd.dropF_eq, za0, zae, zad, zak, zau, zax, za2, za3, za5, zap, zal, Env.putF_eq, Env.putVF_eq, Env.boxF_eq, zav, zbc, za7, za8, za9, zbd, zbb, zbn, zbv, zbm, zbj, zbr, zbi, zb0, zbw, zcg, AOp.kindF_eq, zb3, zch, zcf, zb6, zcl, zct, zcd, zcm, zcc, zcr, zcw, zcq, zcy, zcz, zde, zdt, zep, zey, zho]; rfl))
noncomputable def runYF (C : CallF) (n l : Nat) (args : List D) (σ : Store) : Option (Out × Store) :=
  bO (zf1 σ l) fun r => iB (args.length == r.params.length && r.st.isReady)
    (zmb C n l r.body (zsh C n (some l) r.assign { slots := zkg r.params args r.slots, locs := [], boxes := [], defers := [] } σ)) none
theorem zbkb (x0 x1 x2 x3 x4) : runYF x0 x1 x2 x3 x4 = runY x0 x1 x2 x3 x4 := by
  (first | rfl | (simp only [runYF, runY, bO_eq, cO_eq, iB_eq, zao, za1, zam, zaz, zan, zag, zah, zai, zac, zaj, zaf, zar, za4, zat, AOpd.dropF_eq, za0, zae, zad, zak, zau, zax, za2, za3, za5, zap, zal, Env.putF_eq, Env.putVF_eq, Env.boxF_eq, zav, zbc, za7, za8, za9, zbd, zbb, zbn, zbv, zbm, zbj, zbr, zbi, zb0, zbw, zcg, AOp.kindF_eq, zb3, zch, zcf, zb6, zcl, zct, zcd, zcm, zcc, zcr, zcw, zcq, zcy, zcz, zde, zdt, zep, zey, zho, zo6]; done) | (simp only [runYF, runY, bO_eq, cO_eq, iB_eq, zao, za1, zam, zaz, zan, zag, zah, zai, zac, zaj, zaf, zar, za4, zat, AOpd.dropF_eq, za0, zae, zad, zak, zau, zax, za2, za3, za5, zap, zal, Env.putF_eq, Env.putVF_eq, Env.boxF_eq, zav, zbc, za7, za8, za9, zbd, zbb, zbn, zbv, zbm, zbj, zbr, zbi, zb0, zbw, zcg, AOp.kindF_eq, zb3, zch, zcf, zb6, zcl, zct, zcd, zcm, zcc, zcr, zcw, zcq, zcy, zcz, zde, zdt, zep, zey, zho, zo6]; rfl))
noncomputable def runQF (Γ : FuncId → Option AFun) (R : RecF) (X : CallF) (n : Nat) : Bool → CallF := Nat.rec (motive := fun _ => Bool → CallF) (fun _ _ _ _ => none)
  (fun n ih quiet f args σ => oR (bR (bR (X f args σ) (runYF (ih false) n (f - yldBase) args σ) (isY f)) none quiet) (fun af => bR none (oR none (fun r => zgm R (ih true) quiet af σ.next r) (execF af.body (ih false) n none (zgp args) σ)) (Nat.beq args.length af.nargs)) (Γ f)) n
theorem znt (Γ : FuncId → Option AFun) (R : RecF) (X : CallF) : ∀ (n : Nat) (q : Bool), runQF Γ R X n q = runQ Γ R X n q
  | 0, q => rfl
  | n + 1, q => by
    have iht := znt Γ R X n true
    have ihf := znt Γ R X n false
    funext f args σ
    show oR (bR (bR (X f args σ) (runYF (runQF Γ R X n false) n (f - yldBase) args σ) (isY f)) none q) (fun af => bR none (oR none (fun r => zgm R (runQF Γ R X n true) q af σ.next r) (execF af.body (runQF Γ R X n false) n none (zgp args) σ)) (Nat.beq args.length af.nargs)) (Γ f) = _
    rw [runQ, iht, ihf]
    cases Γ f with
    | none =>
      show bR (bR (X f args σ) (runYF (runQ Γ R X n false) n (f - yldBase) args σ) (isY f)) none q = ifB q none (ifB (isY f) (runY (runQ Γ R X n false) n (f - yldBase) args σ) (X f args σ))
      rw [zbkb]
      cases q <;> cases isY f <;> rfl
    | some af =>
      show bR none (oR none (fun r => zgm R (runQ Γ R X n true) q af σ.next r) (execF af.body (runQ Γ R X n false) n none (zgp args) σ)) (Nat.beq args.length af.nargs) = ifB (args.length == af.nargs) (match exec (runQ Γ R X n false) n none af.body (zb1 args) σ with
        | some r => zd5 R (runQ Γ R X n true) q af σ.next r
        | none => none) none
      rw [zsg, zcw, beqF]
      cases Nat.beq args.length af.nargs with
      | false => rfl
      | true =>
        cases exec (runQ Γ R X n false) n none af.body (zb1 args) σ with
        | none => rfl
        | some r =>
          show zgm R (runQ Γ R X n true) q af σ.next r = zd5 R (runQ Γ R X n true) q af σ.next r
          exact zdt _ _ _ _ _ _
end Go.Mx

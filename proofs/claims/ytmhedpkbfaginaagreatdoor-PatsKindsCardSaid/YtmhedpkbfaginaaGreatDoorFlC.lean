/-
  The equations of the small definitions, in bundles.
-/
import Derived.Test.YtmhedpkbfaginaaGreatDoorMySz
import Derived.Test.YtmhedpkbfaginaaGreatDoorMyFrame
import Derived.Test.YtmhedpkbfaginaaGreatDoorMySym
import Derived.Test.YtmhedpkbfaginaaGreatDoorFlIds
set_option maxHeartbeats 4000000
set_option linter.unusedSimpArgs false
set_option linter.unusedVariables false
set_option linter.unusedSectionVars false
set_option linter.defProp false
namespace Go.Mx
open Go
theorem de0 : (∀ (e : Env) (clr : List Nat), clearEnv e clr = { slots := adel (Env.slots e) clr, locs := adel (Env.locs e) clr, boxes := adel (Env.boxes e) clr, defers := Env.defers e }) ∧ (∀ (x : Nat), mem [] x = false) ∧ (∀ (x x_2 : Nat) (l : List Nat), mem (x_2 :: l) x = ifB (x_2 == x) true (mem l x)) ∧ (∀ (args : List D), initEnv args = { slots := initSlots 0 args, locs := [], boxes := [], defers := [] }) ∧ (∀ (x : Nat), initSlots x [] = []) ∧ (∀ (x : Nat) (d : D) (r : List D), initSlots x (d :: r) = (x, { own := false, d := d }) :: initSlots (x + 1) r) ∧ (∀ (e : Env), wantedA none e = some true) ∧ (∀ (e : Env) (s : Nat) (want : Bool), wantedA (some (s, want)) e = bindO (aget (Env.slots e) s) fun (c : Cell) => caseO (D.bool? (Cell.d c)) (ifB (isUndef (Cell.d c)) (some false) none) fun (b : Bool) => some (b == want)) ∧ (∀ (e : Env) (s : Nat), addr e (AOpd.tmp s) = caseO (aget (Env.locs e) s) (bindO (aget (Env.slots e) s) fun (c : Cell) => ptrOf (Cell.d c)) fun (p : Nat × Nat) => some (Ptr.loc (Prod.fst p) (Prod.snd p))) ∧ (∀ (e : Env) (s : Nat), addr e (AOpd.mv s) = caseO (aget (Env.locs e) s) (bindO (aget (Env.slots e) s) fun (c : Cell) => ptrOf (Cell.d c)) fun (p : Nat × Nat) => some (Ptr.loc (Prod.fst p) (Prod.snd p))) ∧ (∀ (e : Env) (d : D), addr e (AOpd.const d) = ptrOf d) ∧ (∀ (e : Env) (s : Nat), opd e (AOpd.tmp s) = bindO (aget (Env.slots e) s) fun (c : Cell) => some { own := false, d := Cell.d c }) ∧ (∀ (e : Env) (s : Nat), opd e (AOpd.mv s) = aget (Env.slots e) s) ∧ (∀ (e : Env) (d : D), opd e (AOpd.const d) = some { own := false, d := d }) ∧ (∀ (e : Env), opds e [] = some []) ∧ (∀ (e : Env) (x_1 : AOpd) (l : List AOpd), opds e (x_1 :: l) = bindO (opd e x_1) fun (c : Cell) => bindO (opds e l) fun (ds : List D) => some (Cell.d c :: ds)) ∧ (∀ (x : Nat), lkill [] x = []) ∧ (∀ (x k b o : Nat) (r : List (Nat × Nat × Nat)), lkill ((k, b, o) :: r) x = ifB (b == x) (adel1 (lkill r x) k) ((k, b, o) :: lkill r x)) ∧ (∀ (l : List (Nat × Nat × Nat)) (s : Nat), lfree l s = caseO (aget l s) (List.all l fun (p : Nat × Nat × Nat) => caseO (aget l (Prod.fst p)) true fun (q : Nat × Nat) => !Prod.fst q == s) fun (x : Nat × Nat) => false) ∧ (∀ (cs : List Cell) (off : Nat), readCells cs none off = nth cs off) ∧ (∀ (cs : List Cell) (off n : Nat), readCells cs (some n) off = bindO (takeC cs off n) fun (l : List D) => some { own := false, d := D.agg l }) ∧ (∀ (e : Env) (c : Cell) (s : Nat), Env.put e (some s) c = { slots := aset (Env.slots e) s c, locs := adel1 (Env.locs e) s, boxes := Env.boxes e, defers := Env.defers e }) ∧ (∀ (e : Env) (c : Cell), Env.put e none c = e) ∧ (∀ (e : Env) (dst : Option Nat) (c : Cell), Env.putV e dst (Val.c c) = Env.put e dst c) ∧ (∀ (e : Env) (b off s : Nat), Env.putV e (some s) (Val.l b off) = { slots := adel1 (Env.slots e) s, locs := aset (Env.locs e) s (b, off), boxes := Env.boxes e, defers := Env.defers e }) ∧ (∀ (e : Env) (b off : Nat), Env.putV e none (Val.l b off) = e) ∧ (∀ (e : Env) (s : Nat) (cs : List Cell), Env.box e s cs = { slots := adel1 (Env.slots e) s, locs := aset (lkill (Env.locs e) s) s (s, 0), boxes := aset (Env.boxes e) s cs, defers := Env.defers e }) ∧ (∀ (e : Env), Env.bare e = { slots := [], locs := [], boxes := [], defers := Env.defers e }) ∧ (∀ (e : Env) (x : AOpd), dropOwn (AOp.mov x) e = AOpd.drop e x) ∧ (∀ (e : Env) (k : Option Nat) (x : AOpd), dropOwn (AOp.load k true x) e = caseO (addr e x) e fun (p : Ptr) => match p with | Ptr.loc b off => caseO (aget (Env.boxes e) b) e fun (cs : List Cell) => { slots := Env.slots e, locs := Env.locs e, boxes := aset (Env.boxes e) b (unownAt cs off), defers := Env.defers e } | x => e) ∧ (∀ (e : Env) (k : Option Nat) (x : AOpd), dropOwn (AOp.loadL k true x) e = caseO (addr e x) e fun (p : Ptr) => match p with | Ptr.loc b off => caseO (aget (Env.boxes e) b) e fun (cs : List Cell) => { slots := Env.slots e, locs := Env.locs e, boxes := aset (Env.boxes e) b (unownAt cs off), defers := Env.defers e } | x => e) ∧ (∀ (op : AOp) (e : Env), (∀ (x : AOpd), op = AOp.mov x → False) → (∀ (k : Option Nat) (x : AOpd), op = AOp.load k true x → False) → (∀ (k : Option Nat) (x : AOpd), op = AOp.loadL k true x → False) → dropOwn op e = e) ∧ (∀ (e : Env) (σ : Store) (k : Option Nat) (x : AOpd), dropOwnS (AOp.load k true x) e σ = caseO (addr e x) σ fun (p : Ptr) => match p with | Ptr.ptr id off => caseO (aget (Store.objs σ) id) σ fun (cs : List Cell) => { objs := aset (Store.objs σ) id (unownAt cs off), tys := Store.tys σ, oth := Store.oth σ, next := Store.next σ } | x => σ) ∧ (∀ (op : AOp) (e : Env) (σ : Store), (∀ (k : Option Nat) (x : AOpd), op = AOp.load k true x → False) → dropOwnS op e σ = σ) ∧ (∀ (op : Go.BinOp) (k : Go.IntKind) (a : Int) (k' : Go.IntKind) (b : Int), binD op (D.int k a) (D.int k' b) = ifB (sameKind k k') (binInt op k a b) none) ∧ (∀ (op : Go.BinOp) (a b : List UInt8), binD op (D.str a) (D.str b) = binStr op a b) ∧ (∀ (op : Go.BinOp) (x x_1 : D), (∀ (k : Go.IntKind) (a : Int) (k' : Go.IntKind) (b : Int), x = D.int k a → x_1 = D.int k' b → False) → (∀ (a b : List UInt8), x = D.str a → x_1 = D.str b → False) → binD op x x_1 = none) ∧ (∀ (op : Go.BinOp) (a b : Bool), binBD op (D.bool a) (D.bool b) = binBool op a b) ∧ (∀ (op : Go.BinOp) (x x_1 : D), (∀ (a b : Bool), x = D.bool a → x_1 = D.bool b → False) → binBD op x x_1 = none) ∧ (∀ (a b : Bool), binBool Go.BinOp.eql a b = some (D.bool (a == b))) ∧ (∀ (a b : Bool), binBool Go.BinOp.neq a b = some (D.bool !a == b)) ∧ (∀ (op : Go.BinOp) (a b : Bool), (op = Go.BinOp.eql → False) → (op = Go.BinOp.neq → False) → binBool op a b = none) ∧ (∀ (k : Go.IntKind) (a b : Int), binInt Go.BinOp.add k a b = some (D.int k (Go.IntKind.wrap k (a + b)))) ∧ (∀ (k : Go.IntKind) (a b : Int), binInt Go.BinOp.sub k a b = some (D.int k (Go.IntKind.wrap k (a - b)))) ∧ (∀ (k : Go.IntKind) (a b : Int), binInt Go.BinOp.mul k a b = some (D.int k (Go.IntKind.wrap k (a * b)))) ∧ (∀ (k : Go.IntKind) (a b : Int), binInt Go.BinOp.quo k a b = ifB (b == 0) none (some (D.int k (Go.IntKind.wrap k (Int.tdiv a b))))) :=
  And.intro @clearEnv.eq_1 (And.intro @mem.eq_1 (And.intro @mem.eq_2 (And.intro @initEnv.eq_1 (And.intro @initSlots.eq_1 (And.intro @initSlots.eq_2 (And.intro @wantedA.eq_1 (And.intro @wantedA.eq_2 (And.intro @addr.eq_1 (And.intro @addr.eq_2 (And.intro @addr.eq_3 (And.intro @opd.eq_1 (And.intro @opd.eq_2 (And.intro @opd.eq_3 (And.intro @opds.eq_1 (And.intro @opds.eq_2 (And.intro @lkill.eq_1 (And.intro @lkill.eq_2 (And.intro @lfree.eq_1 (And.intro @readCells.eq_1 (And.intro @readCells.eq_2 (And.intro @Env.put.eq_1 (And.intro @Env.put.eq_2 (And.intro @Env.putV.eq_1 (And.intro @Env.putV.eq_2 (And.intro @Env.putV.eq_3 (And.intro @Env.box.eq_1 (And.intro @Env.bare.eq_1 (And.intro @dropOwn.eq_1 (And.intro @dropOwn.eq_2 (And.intro @dropOwn.eq_3 (And.intro @dropOwn.eq_4 (And.intro @dropOwnS.eq_1 (And.intro @dropOwnS.eq_2 (And.intro @binD.eq_1 (And.intro @binD.eq_2 (And.intro @binD.eq_3 (And.intro @binBD.eq_1 (And.intro @binBD.eq_2 (And.intro @binBool.eq_1 (And.intro @binBool.eq_2 (And.intro @binBool.eq_3 (And.intro @binInt.eq_1 (And.intro @binInt.eq_2 (And.intro @binInt.eq_3 (@binInt.eq_4)))))))))))))))))))))))))))))))))))))))))))))
theorem de1 : (∀ (k : Go.IntKind) (a b : Int), binInt Go.BinOp.rem k a b = ifB (b == 0) none (some (D.int k (Int.tmod a b)))) ∧ (∀ (k : Go.IntKind) (a b : Int), binInt Go.BinOp.eql k a b = some (D.bool (a == b))) ∧ (∀ (k : Go.IntKind) (a b : Int), binInt Go.BinOp.neq k a b = some (D.bool (a != b))) ∧ (∀ (k : Go.IntKind) (a b : Int), binInt Go.BinOp.lss k a b = some (D.bool (Decidable.decide (a < b)))) ∧ (∀ (k : Go.IntKind) (a b : Int), binInt Go.BinOp.leq k a b = some (D.bool (Decidable.decide (a ≤ b)))) ∧ (∀ (k : Go.IntKind) (a b : Int), binInt Go.BinOp.gtr k a b = some (D.bool (Decidable.decide (a > b)))) ∧ (∀ (k : Go.IntKind) (a b : Int), binInt Go.BinOp.geq k a b = some (D.bool (Decidable.decide (a ≥ b)))) ∧ (∀ (op : Go.BinOp) (k : Go.IntKind) (a b : Int), (op = Go.BinOp.add → False) → (op = Go.BinOp.sub → False) → (op = Go.BinOp.mul → False) → (op = Go.BinOp.quo → False) → (op = Go.BinOp.rem → False) → (op = Go.BinOp.eql → False) → (op = Go.BinOp.neq → False) → (op = Go.BinOp.lss → False) → (op = Go.BinOp.leq → False) → (op = Go.BinOp.gtr → False) → (op = Go.BinOp.geq → False) → binInt op k a b = none) ∧ (∀ (a b : List UInt8), binStr Go.BinOp.add a b = ifB (Decidable.decide (List.length a + List.length b ≤ 281474976710656)) (some (D.str (a ++ b))) none) ∧ (∀ (a b : List UInt8), binStr Go.BinOp.eql a b = some (D.bool (a == b))) ∧ (∀ (a b : List UInt8), binStr Go.BinOp.neq a b = some (D.bool !a == b)) ∧ (∀ (a b : List UInt8), binStr Go.BinOp.lss a b = some (D.bool (Go.Op.bytesLess a b))) ∧ (∀ (a b : List UInt8), binStr Go.BinOp.leq a b = some (D.bool (Go.Op.bytesLess a b || a == b))) ∧ (∀ (a b : List UInt8), binStr Go.BinOp.gtr a b = some (D.bool !(Go.Op.bytesLess a b || a == b))) ∧ (∀ (a b : List UInt8), binStr Go.BinOp.geq a b = some (D.bool !Go.Op.bytesLess a b)) ∧ (∀ (op : Go.BinOp) (a b : List UInt8), (op = Go.BinOp.add → False) → (op = Go.BinOp.eql → False) → (op = Go.BinOp.neq → False) → (op = Go.BinOp.lss → False) → (op = Go.BinOp.leq → False) → (op = Go.BinOp.gtr → False) → (op = Go.BinOp.geq → False) → binStr op a b = none) ∧ (∀ (b : Bool), unD Go.UnOp.not (D.bool b) = some (D.bool !b)) ∧ (∀ (k : Go.IntKind) (n : Int), unD Go.UnOp.neg (D.int k n) = some (D.int k (Go.IntKind.wrap k (0 - n)))) ∧ (∀ (x : Go.UnOp) (x_1 : D), (∀ (b : Bool), x = Go.UnOp.not → x_1 = D.bool b → False) → (∀ (k : Go.IntKind) (n : Int), x = Go.UnOp.neg → x_1 = D.int k n → False) → unD x x_1 = none) ∧ (∀ (mx : Bool) (k : Go.IntKind) (a : Int) (k' : Go.IntKind) (b : Int), mmD mx (D.int k a) (D.int k' b) = ifB (sameKind k k') (some (D.int k (ifB mx (ifB (Decidable.decide (a < b)) b a) (ifB (Decidable.decide (b < a)) b a)))) none) ∧ (∀ (mx : Bool) (x x_1 : D), (∀ (k : Go.IntKind) (a : Int) (k' : Go.IntKind) (b : Int), x = D.int k a → x_1 = D.int k' b → False) → mmD mx x x_1 = none) ∧ (∀ (e : Env) (s : Nat), AOpd.drop e (AOpd.mv s) = caseO (aget (Env.slots e) s) e fun (c : Cell) => { slots := aset (Env.slots e) s { own := false, d := Cell.d c }, locs := Env.locs e, boxes := Env.boxes e, defers := Env.defers e }) ∧ (∀ (e : Env) (x : AOpd), (∀ (s : Nat), x = AOpd.mv s → False) → AOpd.drop e x = e) ∧ (∀ (d : D), Cell.of d = { own := false, d := d }) ∧ (∀ (ws : List Nat) (f : Go.FuncId) (args : List AOpd), stableOf (AOp.callW ws f args) = some ws) ∧ (∀ (ws : List Nat) (x_1 : AOpd) (args : List AOpd), stableOf (AOp.callvW ws x_1 args) = some ws) ∧ (∀ (ws : List Nat) (k : RowK) (by_ : Nat) (x_1 y : AOpd), stableOf (AOp.appendW ws k by_ x_1 y) = some ws) ∧ (∀ (x : AOp), (∀ (ws : List Nat) (f : Go.FuncId) (args : List AOpd), x = AOp.callW ws f args → False) → (∀ (ws : List Nat) (x_1 : AOpd) (args : List AOpd), x = AOp.callvW ws x_1 args → False) → (∀ (ws : List Nat) (k : RowK) (by_ : Nat) (x_1 y : AOpd), x = AOp.appendW ws k by_ x_1 y → False) → stableOf x = none) ∧ (sameKind Go.IntKind.i8 Go.IntKind.i8 = true) ∧ (sameKind Go.IntKind.i16 Go.IntKind.i16 = true) ∧ (sameKind Go.IntKind.i32 Go.IntKind.i32 = true) ∧ (sameKind Go.IntKind.i64 Go.IntKind.i64 = true) ∧ (sameKind Go.IntKind.u8 Go.IntKind.u8 = true) ∧ (sameKind Go.IntKind.u16 Go.IntKind.u16 = true) ∧ (sameKind Go.IntKind.u32 Go.IntKind.u32 = true) ∧ (sameKind Go.IntKind.u64 Go.IntKind.u64 = true) ∧ (∀ (x x_1 : Go.IntKind), (x = Go.IntKind.i8 → x_1 = Go.IntKind.i8 → False) → (x = Go.IntKind.i16 → x_1 = Go.IntKind.i16 → False) → (x = Go.IntKind.i32 → x_1 = Go.IntKind.i32 → False) → (x = Go.IntKind.i64 → x_1 = Go.IntKind.i64 → False) → (x = Go.IntKind.u8 → x_1 = Go.IntKind.u8 → False) → (x = Go.IntKind.u16 → x_1 = Go.IntKind.u16 → False) → (x = Go.IntKind.u32 → x_1 = Go.IntKind.u32 → False) → (x = Go.IntKind.u64 → x_1 = Go.IntKind.u64 → False) → sameKind x x_1 = false) ∧ (∀ (t : Nat) (z : D) (t' : Go.TypeId) (d : D), assertD t z (D.iface t' d) = some (D.tup [ifB (t' == t) d z, D.bool (t' == t)])) ∧ (∀ (t : Nat) (z : D), assertD t z D.niliface = some (D.tup [z, D.bool false])) ∧ (∀ (t : Nat) (z x : D), (∀ (t' : Go.TypeId) (d : D), x = D.iface t' d → False) → (x = D.niliface → False) → assertD t z x = none) ∧ (∀ (b : Bool), eqlB Go.BinOp.eql b = some (D.bool b)) ∧ (∀ (b : Bool), eqlB Go.BinOp.neq b = some (D.bool !b)) ∧ (∀ (op : Go.BinOp) (b : Bool), (op = Go.BinOp.eql → False) → (op = Go.BinOp.neq → False) → eqlB op b = none) ∧ (isUndef D.undef = true) ∧ (∀ (x : D), (x = D.undef → False) → isUndef x = false) ∧ (∀ (x : List Cell), takeC x 0 0 = some []) :=
  And.intro @binInt.eq_5 (And.intro @binInt.eq_6 (And.intro @binInt.eq_7 (And.intro @binInt.eq_8 (And.intro @binInt.eq_9 (And.intro @binInt.eq_10 (And.intro @binInt.eq_11 (And.intro @binInt.eq_12 (And.intro @binStr.eq_1 (And.intro @binStr.eq_2 (And.intro @binStr.eq_3 (And.intro @binStr.eq_4 (And.intro @binStr.eq_5 (And.intro @binStr.eq_6 (And.intro @binStr.eq_7 (And.intro @binStr.eq_8 (And.intro @unD.eq_1 (And.intro @unD.eq_2 (And.intro @unD.eq_3 (And.intro @mmD.eq_1 (And.intro @mmD.eq_2 (And.intro @AOpd.drop.eq_1 (And.intro @AOpd.drop.eq_2 (And.intro @Cell.of.eq_1 (And.intro @stableOf.eq_1 (And.intro @stableOf.eq_2 (And.intro @stableOf.eq_3 (And.intro @stableOf.eq_4 (And.intro @sameKind.eq_1 (And.intro @sameKind.eq_2 (And.intro @sameKind.eq_3 (And.intro @sameKind.eq_4 (And.intro @sameKind.eq_5 (And.intro @sameKind.eq_6 (And.intro @sameKind.eq_7 (And.intro @sameKind.eq_8 (And.intro @sameKind.eq_9 (And.intro @assertD.eq_1 (And.intro @assertD.eq_2 (And.intro @assertD.eq_3 (And.intro @eqlB.eq_1 (And.intro @eqlB.eq_2 (And.intro @eqlB.eq_3 (And.intro @isUndef.eq_1 (And.intro @isUndef.eq_2 (@takeC.eq_1)))))))))))))))))))))))))))))))))))))))))))))
theorem de2 : (∀ (x x_1 : Nat), (x = 0 → x_1 = 0 → False) → takeC [] x x_1 = none) ∧ (∀ (c : Cell) (cs : List Cell) (n : Nat), takeC (c :: cs) 0 (Nat.succ n) = bindO (takeC cs 0 n) fun (l : List D) => some (Cell.d c :: l)) ∧ (∀ (x : Nat) (head : Cell) (cs : List Cell) (o : Nat), takeC (head :: cs) (Nat.succ o) x = takeC cs o x) ∧ (∀ (x : Nat), unownAt [] x = []) ∧ (∀ (c : Cell) (cs : List Cell), unownAt (c :: cs) 0 = { own := false, d := Cell.d c } :: cs) ∧ (∀ (c : Cell) (cs : List Cell) (n : Nat), unownAt (c :: cs) (Nat.succ n) = c :: unownAt cs n) ∧ (∀ (c : Cell) (k off : Nat) (cs : List Cell), fits c k off cs = (D.ok (Cell.d c) && List.length (D.cells (Cell.d c)) == k && Decidable.decide (off + k ≤ List.length cs))) ∧ (∀ (c : Cell), layCells c = ifB (D.one (Cell.d c)) [c] (List.map Cell.of (D.cells (Cell.d c)))) ∧ (∀ (x : List Cell) (x_1 : Nat), putCells x x_1 [] = x) ∧ (∀ (x : Nat) (x_1 : List Cell), (x_1 = [] → False) → putCells [] x x_1 = []) ∧ (∀ (head : Cell) (cs : List Cell) (x_3 : Cell) (new : List Cell), putCells (head :: cs) 0 (x_3 :: new) = x_3 :: putCells cs 0 new) ∧ (∀ (x : List Cell) (c : Cell) (cs : List Cell) (n : Nat), (x = [] → False) → putCells (c :: cs) (Nat.succ n) x = c :: putCells cs n x) ∧ (∀ (x : List D) (x_1 : Nat), putD x x_1 [] = x) ∧ (∀ (x : Nat) (x_1 : List D), (x_1 = [] → False) → putD [] x x_1 = []) ∧ (∀ (head : D) (cs : List D) (x_3 : D) (new : List D), putD (head :: cs) 0 (x_3 :: new) = x_3 :: putD cs 0 new) ∧ (∀ (x : List D) (c : D) (cs : List D) (n : Nat), (x = [] → False) → putD (c :: cs) (Nat.succ n) x = c :: putD cs n x) ∧ (∀ (x : List D), fillD x [] = some x) ∧ (∀ (x : List D) (off n : Nat) (d : D) (r : List (Nat × Nat × D)), fillD x ((off, n, d) :: r) = ifB (D.ok d && List.length (D.cells d) == n && Decidable.decide (off + n ≤ List.length x)) (fillD (putD x off (D.cells d)) r) none) ∧ (∀ (e : Env), partsOf e [] = some []) ∧ (∀ (e : Env) (off n : Nat) (x_1 : AOpd) (r : List (Nat × Nat × AOpd)), partsOf e ((off, n, x_1) :: r) = bindO (opd e x_1) fun (c : Cell) => bindO (partsOf e r) fun (l : List (Nat × Nat × D)) => some ((off, n, Cell.d c) :: l)) ∧ (∀ (e : Env) (l : AOpd), optLo e (some l) = bindO (opd e l) fun (c : Cell) => D.nat? (Cell.d c)) ∧ (∀ (e : Env), optLo e none = some 0) ∧ (∀ (e : Env) (l : AOpd), optHi e (some l) = bindO (opd e l) fun (c : Cell) => bindO (D.nat? (Cell.d c)) fun (n : Nat) => some (some n)) ∧ (∀ (e : Env), optHi e none = some none) ∧ (∀ (sz : Nat), allSize sz [] = true) ∧ (∀ (sz : Nat) (x_1 : D) (es : List D), allSize sz (x_1 :: es) = (D.ok x_1 && List.length (D.cells x_1) == sz && allSize sz es)) ∧ (∀ (R : RecF) (C : CallF) (x : Option D) (x_1 : Store), runDefers R C x [] x_1 = some (x, x_1)) ∧ (∀ (R : RecF) (C : CallF) (x : Option D) (x_1 : Store) (f : Go.FuncId) (az : List D) (r : List (Go.FuncId × List D)), runDefers R C x ((f, az) :: r) x_1 = ifB (isY f) (bindO (aget (Store.oth x_1) (f - yldBase)) fun (x_2 : Oth) => match x_2 with | Oth.dfr => runDefers R C x r { objs := Store.objs x_1, tys := Store.tys x_1, oth := adel1 (Store.oth x_1) (f - yldBase), next := Store.next x_1 } | x => none) (match R f az x x_1 with | some x => runDefers R C (Prod.fst x) r (Prod.snd x) | none => bindO (C f az x_1) fun (o : Out × Store) => match Prod.fst o with | Out.ret c => runDefers R C x r (Prod.snd o) | Out.panic d => none)) ∧ (∀ (e : Env) (σ : Store) (r : ARes), readRes e σ [r] = readRes1 e σ r) ∧ (∀ (e : Env) (σ : Store) (x : List ARes), (∀ (r : ARes), x = [r] → False) → readRes e σ x = bindO (readRess e σ x) fun (ds : List D) => some { own := false, d := D.tup ds }) ∧ (∀ (e : Env) (σ : Store) (s : Nat), readRes1 e σ (ARes.tmp s) = aget (Env.slots e) s) ∧ (∀ (e : Env) (σ : Store) (s : Nat) (k : Option Nat), readRes1 e σ (ARes.cell s k) = bindO (addr e (AOpd.tmp s)) fun (p : Ptr) => match p with | Ptr.loc b off => bindO (aget (Env.boxes e) b) fun (cs : List Cell) => readCells cs k off | Ptr.ptr id off => bindO (aget (Store.objs σ) id) fun (cs : List Cell) => bindO (readCells cs k off) fun (c : Cell) => some { own := false, d := Cell.d c } | Ptr.eptr d => none) ∧ (∀ (e : Env) (σ : Store) (s k : Nat), readRes1 e σ (ARes.cellA s k) = bindO (addr e (AOpd.tmp s)) fun (p : Ptr) => match p with | Ptr.loc b 0 => bindO (aget (Env.boxes e) b) fun (cs : List Cell) => ifB (List.length cs == k) (some { own := firstOwn cs, d := D.agg (List.map (fun (c : Cell) => Cell.d c) cs) }) none | x => none) ∧ (∀ (e : Env) (σ : Store), readRess e σ [] = some []) ∧ (∀ (e : Env) (σ : Store) (r : ARes) (l : List ARes), readRess e σ (r :: l) = bindO (readRes1 e σ r) fun (c : Cell) => bindO (readRess e σ l) fun (ds : List D) => some (Cell.d c :: ds)) :=
  And.intro @takeC.eq_2 (And.intro @takeC.eq_3 (And.intro @takeC.eq_4 (And.intro @unownAt.eq_1 (And.intro @unownAt.eq_2 (And.intro @unownAt.eq_3 (And.intro @fits.eq_1 (And.intro @layCells.eq_1 (And.intro @putCells.eq_1 (And.intro @putCells.eq_2 (And.intro @putCells.eq_3 (And.intro @putCells.eq_4 (And.intro @putD.eq_1 (And.intro @putD.eq_2 (And.intro @putD.eq_3 (And.intro @putD.eq_4 (And.intro @fillD.eq_1 (And.intro @fillD.eq_2 (And.intro @partsOf.eq_1 (And.intro @partsOf.eq_2 (And.intro @optLo.eq_1 (And.intro @optLo.eq_2 (And.intro @optHi.eq_1 (And.intro @optHi.eq_2 (And.intro @allSize.eq_1 (And.intro @allSize.eq_2 (And.intro @runDefers.eq_1 (And.intro @runDefers.eq_2 (And.intro @readRes.eq_1 (And.intro @readRes.eq_2 (And.intro @readRes1.eq_1 (And.intro @readRes1.eq_2 (And.intro @readRes1.eq_3 (And.intro @readRess.eq_1 (@readRess.eq_2))))))))))))))))))))))))))))))))))
theorem szC : (∀ {α β : Type} (n : β) (f : α → β), caseO none n f = n) ∧ (∀ {α β : Type} (a : α) (n : β) (f : α → β), caseO (some a) n f = f a) ∧ (∀ {β : Type} (x y : β), ifB true x y = x) ∧ (∀ {β : Type} (x y : β), ifB false x y = y) ∧ (∀ {α β : Type} (x : Option α) (f : α → Option β), bindO x f = caseO x none f) :=
  ⟨caseO_none, caseO_some, ifB_true, ifB_false, fun _ _ => rfl⟩
set_option linter.defProp false in
def sA := And.intro de0 (And.intro de1 (And.intro de2 (And.intro szQ (And.intro szB (And.intro szL (And.intro szC (And.intro sy0 (And.intro sy1 (And.intro sy2 (And.intro sy3 (And.intro sy4 (And.intro sy5 (And.intro sy6 (And.intro @stepOp.eq_1 (And.intro @evalOp.eq_1 (And.intro @evalOp.eq_2 (And.intro @evalOp.eq_3 (And.intro @evalOp.eq_4 (And.intro @evalOp.eq_5 (And.intro @evalOp.eq_6 (And.intro @evalOp.eq_7 (And.intro @evalOp.eq_8 (And.intro @evalOp.eq_9 (And.intro @evalOp.eq_10 (And.intro @evalOp.eq_11 (And.intro @evalOp.eq_12 (And.intro @evalOp.eq_13 (And.intro @evalOp.eq_14 (And.intro @evalOp.eq_15 (And.intro @evalOp.eq_16 (And.intro @evalOp.eq_17 (And.intro @evalOp.eq_18 (And.intro @evalOp.eq_19 (And.intro @evalOp.eq_20 (And.intro @evalOp.eq_21 (And.intro @evalOp.eq_22 (And.intro @evalOp.eq_23 (And.intro @evalOp.eq_24 (And.intro @evalOp.eq_25 (And.intro @evalOp.eq_26 (And.intro @evalOp.eq_27 (And.intro @evalOp.eq_28 (And.intro @evalOp.eq_29 (And.intro @evalOp.eq_30 (And.intro @evalOp.eq_31 (And.intro @evalOp.eq_32 (And.intro @evalOp.eq_33 (And.intro @evalOp.eq_34 (And.intro @evalOp.eq_35 (And.intro @evalOp.eq_36 (And.intro @evalOp.eq_37 (And.intro @evalOp.eq_38 (And.intro @callOf.eq_1 (And.intro @callOf.eq_2 (And.intro @callOf.eq_3 (And.intro @callOf.eq_4 (And.intro @callOf.eq_5 (And.intro @callOf.eq_6 (And.intro @panicOf.eq_1 (And.intro @panicOf.eq_2 (And.intro @evalV.eq_1 (And.intro @evalV.eq_2 (And.intro @evalV.eq_3 (And.intro @evalV.eq_4 (And.intro @evalV.eq_5 (And.intro @evalV.eq_6 (And.intro @evalV.eq_7 (And.intro @evalV.eq_8 (And.intro @evalV.eq_9 (And.intro @evalV.eq_10 (And.intro @evalV.eq_11 (And.intro @evalV.eq_12 (And.intro @evalV.eq_13 (And.intro @evalV.eq_14 (And.intro @evalV.eq_15 (And.intro @evalV.eq_16 (And.intro @evalV.eq_17 (And.intro @evalV.eq_18 (And.intro @evalV.eq_19 (And.intro @evalV.eq_20 (And.intro @evalV.eq_21 (And.intro @evalV.eq_22 (And.intro @evalV.eq_23 (And.intro @evalV.eq_24 (And.intro @evalV.eq_25 (And.intro @evalV.eq_26 (And.intro @evalV.eq_27 (And.intro @evalV.eq_28 (And.intro @evalV.eq_29 (And.intro @evalV.eq_30 (And.intro @evalV.eq_31 (And.intro @evalV.eq_32 (And.intro @evalV.eq_33 (And.intro @evalV.eq_34 (And.intro @evalV.eq_35 (And.intro @evalV.eq_36 (And.intro @evalV.eq_37 (And.intro @evalV.eq_38 (And.intro @evalV.eq_39 (And.intro @evalV.eq_40 (And.intro @AOp.kind.eq_1 (And.intro @AOp.kind.eq_2 (And.intro @AOp.kind.eq_3 (And.intro @AOp.kind.eq_4 (And.intro @AOp.kind.eq_5 (And.intro @AOp.kind.eq_6 (And.intro @AOp.kind.eq_7 (And.intro @aget.eq_1 (And.intro @aget.eq_2 (And.intro @aset.eq_1 (And.intro @aset.eq_2 (And.intro @adel.eq_1 (And.intro @adel.eq_2 (And.intro @adel1.eq_1 (And.intro @adel1.eq_2 (And.intro @nth.eq_1 (And.intro @nth.eq_2 (And.intro @nth.eq_3 (And.intro @mt.eq_1 (And.intro @mw.eq_1 (And.intro @mo.eq_1 (And.intro @Nat.ble.eq_1 (And.intro @Nat.ble.eq_2 (@Nat.ble.eq_3))))))))))))))))))))))))))))))))))))))))))))))))))))))))))))))))))))))))))))))))))))))))))))))))))))))))))))))))))))))))))))
end Go.Mx
namespace Go.Mx
open Go
section
variable [LoopKit] {P : Program} {κ : Ctx} {Post : FuncId → List D → Cell → Prop}
def Pure (P : Program) (κ : Ctx) (f : FuncId) (ds : List D) (c : Cell) : Prop := ∀ σ, CallOK P κ f ds σ (.ret c) σ
def Has (P : Program) (κ : Ctx) (Post : FuncId → List D → Cell → Prop) (f : FuncId) (ds : List D) : Prop := ∃ c, Post f ds c ∧ Pure P κ f ds c
open Classical in
noncomputable def orc (P : Program) (κ : Ctx) (Post : FuncId → List D → Cell → Prop) : CallF := fun f ds σ => if h : Has P κ Post f ds then some (.ret (Classical.choose h), σ) else none
theorem orc_sound : CSound P κ (orc P κ Post) := by
  intro f ds σ out σ' h
  unfold orc at h
  split at h
  · rename_i hs
    cases h
    exact (Classical.choose_spec hs).2 σ
  · cases h
theorem orc_has {f : FuncId} {ds : List D} (h : Has P κ Post f ds) : ∃ c, Post f ds c ∧ ∀ σ, orc P κ Post f ds σ = some (.ret c, σ) := by
  refine ⟨Classical.choose h, (Classical.choose_spec h).1, fun σ => ?_⟩
  unfold orc
  rw [dif_pos h]
theorem Pure.weak {f : FuncId} {ds : List D} {o : Bool} {d : D} (hY : isY f = false) (h : Pure P κ f ds ⟨o, d⟩) : Pure P κ f ds ⟨false, d⟩ := by
  intro σ
  have h1 := (callOK_fn hY).1 (h σ)
  refine (callOK_fn hY).2 ⟨h1.1, fun ι j own w vs hS hB hG hr => (h1.2 ι j own w vs hS hB hG hr).mono ?_⟩
  rintro e w' ⟨ι', j', own', k1, k2, k3, k4⟩
  refine ⟨ι', j', own', k1, k2, k3, ?_⟩
  cases e with
  | returned v => exact ⟨k4.1, fun h => by cases h⟩
  | panicked c => exact k4
  | outgrown => exact k4
theorem nothing_soundD : CSoundD P κ (fun _ _ _ => none) := fun _ _ _ _ _ h => by cases h
theorem pure_of_run [K : KitOf P ‹LoopKit›] {C : CallF} {R : RecF} (hC : CSound P κ C) (hR : RSound P κ R) {n f : Nat} {fn : Func} {af : AFun} {ds : List D} {σ' : Store} {c : Cell} (hY : isY f = false) (hfn : P.funcs[f]? = some fn) (hok : okFun P fn af = true) (hlen : ds.length = af.nargs)
    (hd : noPtrL ds = true) (hc : noPtr c.d = true) (h : (match exec C n none af.body (initEnv ds) σ0 with
         | some r => finish R (fun _ _ _ => none) false af 0 r
         | none => none) = some (.ret c, σ')) : Pure P κ f ds c :=
  fun σ => frame_rule hY (call_ok hC nothing_soundD hR hY hfn hok hlen h) hd hc σ
abbrev Specs := List (FuncId × (List D → Cell → Prop))
def PostOf (S : Specs) (f : FuncId) (ds : List D) (c : Cell) : Prop := ∃ s, aget S f = some s ∧ s ds c
def has (S : Specs) (f : FuncId) : Bool := caseO (aget S f) false fun _ => true
noncomputable def runS (P : Program) (κ : Ctx) (Γ : FuncId → Option AFun) (R : RecF) (X : CallF) (S : Specs) (n : Nat) : CallF :=
  runQ (fun f => ifB (has S f) none (Γ f)) R (fun f ds σ => ifB (has S f) (orc P κ (PostOf S) f ds σ) (X f ds σ)) n false
noncomputable def runSD (P : Program) (κ : Ctx) (Γ : FuncId → Option AFun) (R : RecF) (X : CallF) (S : Specs) (n : Nat) : CallF :=
  runQ (fun f => ifB (has S f) none (Γ f)) R (fun f ds σ => ifB (has S f) (orc P κ (PostOf S) f ds σ) (X f ds σ)) n true
theorem runS_sound [K : KitOf P ‹LoopKit›] {Γ : FuncId → Option AFun} {R : RecF} {X : CallF} {S : Specs} (hΓ : Holds P Γ) (hR : RSound P κ R) (hX : CSound P κ X) (n : Nat) : CSound P κ (runS P κ Γ R X S n) ∧ CSoundD P κ (runSD P κ Γ R X S n) := by
  refine run_sound (fun f af h => ?_) hR (fun f ds σ out σ' h => ?_) n
  · cases hs : has S f with
    | true => rw [hs] at h; cases h
    | false => rw [hs] at h; exact hΓ f af h
  · cases hs : has S f with
    | true => rw [hs] at h; exact orc_sound _ _ _ _ _ h
    | false => rw [hs] at h; exact hX _ _ _ _ _ h
theorem runS_fun {Γ : FuncId → Option AFun} {R : RecF} {X : CallF} {S : Specs} {n : Nat} {f : FuncId} {af : AFun} {ds : List D} {σ : Store} (hs : has S f = false) (h : Γ f = some af) (hl : ds.length = af.nargs) :
    runS P κ Γ R X S (n + 1) f ds σ = finX R (runSD P κ Γ R X S n) af σ.next (exec (runS P κ Γ R X S n) n none af.body (initEnv ds) σ) := runQ_fun (by rw [hs]; exact h) hl
theorem runS_orc {Γ : FuncId → Option AFun} {R : RecF} {X : CallF} {S : Specs} {f : FuncId} {s : List D → Cell → Prop} {ds : List D} {c : Cell} (hf : aget S f = some s) (hY : isY f = false) (hs : s ds c) (hp : Pure P κ f ds c) : ∃ c', s ds c' ∧ ∀ n σ, runS P κ Γ R X S (n + 1) f ds σ = some (.ret c', σ) := by
  have hh : has S f = true := by unfold has; rw [hf]; rfl
  obtain ⟨c', ⟨s', h1, h2⟩, h3⟩ := orc_has (P := P) (κ := κ) (Post := PostOf S) (f := f) (ds := ds) ⟨c, ⟨s, hf, hs⟩, hp⟩
  rw [hf] at h1
  cases h1
  refine ⟨c', h2, fun n σ => ?_⟩
  refine (runQ_lib (by rw [hh]; rfl) hY).trans ?_
  rw [hh]
  exact h3 σ
end
end Go.Mx
namespace Go.Fu
open Go Go.Mx
set_option maxRecDepth 10000
abbrev Tx := List UInt8
def dSs (l : List Tx) : D := dlist k_2 (l.map D.str)
inductive Ty where
  | mk (f n : Int) (s : Tx) (az : List Ty)
namespace Ty
def f : Ty → Int
  | .mk f _ _ _ => f
def n : Ty → Int
  | .mk _ n _ _ => n
def s : Ty → Tx
  | .mk _ _ s _ => s
def as_ : Ty → List Ty
  | .mk _ _ _ l => l
end Ty
mutual
def dTy : Ty → D
  | .mk f n s l => .agg [.int .i64 f, .int .i64 n, .str s, dlist k_1 (dTys l)]
def dTys : List Ty → List D
  | [] => []
  | t :: r => dTy t :: dTys r
end
theorem dTys_map : ∀ l : List Ty, dTys l = l.map dTy
  | [] => by simp [dTys]
  | c :: r => by simp [dTys, dTys_map r]
def dTl (l : List Ty) : D := dlist k_1 (l.map dTy)
def cTy (t : Ty) : List D := [.int .i64 t.f, .int .i64 t.n, .str t.s, dTl t.as_]
theorem dTy_eq (t : Ty) : dTy t = .agg (cTy t) := by
  cases t
  simp only [dTy, cTy, Ty.f, Ty.n, Ty.s, Ty.as_, dTys_map, dTl]
theorem dTy_cells (t : Ty) : (dTy t).cells = cTy t := by rw [dTy_eq]; rfl
theorem cells_dTy (t : Ty) : (dTy t).cells.length = 4 := by rw [dTy_cells]; rfl
theorem one_dl (k : RowK) : ∀ l : List D, (dlist k l).one = true
  | [] => rfl
  | _ :: _ => rfl
theorem ok_dTy (t : Ty) : (dTy t).ok = true := by rw [dTy_eq]; rfl
structure Cn where
  name : Tx
  pos : Int
  fs : List Ty
structure Da where
  name : Tx
  pos : Int
  vars : List Tx
  cons : List Cn
structure Fi where
  name : Tx
  tag : Int
  many : Int
  arity : Int
  ty : Ty
def cCn (c : Cn) : List D := [.str c.name, .int .i64 c.pos, dTl c.fs]
def dCn (c : Cn) : D := .agg (cCn c)
def dKi : D := .agg [.nils]
def dKl (n : Nat) : D := dlist k_4 (List.replicate n dKi)
def dCl (l : List Cn) : D := dlist k_8 (l.map dCn)
def cDa (d : Da) : List D := [.str d.name, .int .i64 d.pos, dSs d.vars, dKl d.vars.length, dCl d.cons]
def dDa (d : Da) : D := .agg (cDa d)
def dDl (l : List Da) : D := dlist k_0 (l.map dDa)
def dPr (l : List Da) : D := .agg [dDl l, .nils, .nils, .nils]
def cFi (x : Fi) : List D := .str x.name :: .int .i64 x.tag :: .int .i64 x.many :: .int .i64 x.arity :: cTy x.ty
def dFi (x : Fi) : D := .agg (cFi x)
def dFl (l : List Fi) : D := dlist k_21 (l.map dFi)
theorem ok_dCn (c : Cn) : (dCn c).ok = true := rfl
theorem ok_dDa (d : Da) : (dDa d).ok = true := rfl
theorem ok_dFi (d : Fi) : (dFi d).ok = true := rfl
theorem cells_dCn (c : Cn) : (dCn c).cells.length = 3 := rfl
theorem cells_dDa (c : Da) : (dDa c).cells.length = 5 := rfl
theorem cells_dFi (c : Fi) : (dFi c).cells.length = 8 := rfl
/-! ### They hold no places of the store -/
theorem noPtrL_map {α : Type} {f : α → D} (hf : ∀ a, noPtr (f a) = true) : ∀ l : List α, noPtrL (l.map f) = true
  | [] => rfl
  | x :: r => by simp only [List.map_cons, noPtrL, hf, noPtrL_map hf r, Bool.and_self]
theorem noPtr_dl {k : RowK} : ∀ {l : List D}, noPtrL l = true → noPtr (dlist k l) = true
  | [], _ => rfl
  | x :: r, h => h
theorem noPtr_dSs (l : List Tx) : noPtr (dSs l) = true := noPtr_dl (noPtrL_map (fun _ => rfl) l)
mutual
theorem noPtr_dTy : ∀ t : Ty, noPtr (dTy t) = true
  | .mk f n s l => by
    have h : noPtr (dlist k_1 (dTys l)) = true := noPtr_dl (noPtrL_dTys l)
    simp only [dTy, noPtr, noPtrL, h, Bool.and_self]
theorem noPtrL_dTys : ∀ l : List Ty, noPtrL (dTys l) = true
  | [] => rfl
  | t :: r => by simp only [dTys, noPtrL, noPtr_dTy t, noPtrL_dTys r, Bool.and_self]
end
theorem noPtr_dTl (l : List Ty) : noPtr (dTl l) = true := noPtr_dl (noPtrL_map noPtr_dTy l)
theorem noPtr_dCn (c : Cn) : noPtr (dCn c) = true := by
  simp only [dCn, cCn, noPtr, noPtrL, noPtr_dTl, Bool.and_self]
theorem noPtr_dCl (l : List Cn) : noPtr (dCl l) = true := noPtr_dl (noPtrL_map noPtr_dCn l)
theorem noPtr_dKl (n : Nat) : noPtr (dKl n) = true := by
  refine noPtr_dl ?_
  induction n with
  | zero => rfl
  | succ n ih =>
    rw [List.replicate_succ]
    simp only [noPtrL, ih, Bool.and_true]
    rfl
theorem noPtr_dDa (d : Da) : noPtr (dDa d) = true := by
  simp only [dDa, cDa, noPtr, noPtrL, noPtr_dSs, noPtr_dKl, noPtr_dCl, Bool.and_self]
theorem noPtr_dDl (l : List Da) : noPtr (dDl l) = true := noPtr_dl (noPtrL_map noPtr_dDa l)
theorem noPtr_dPr (l : List Da) : noPtr (dPr l) = true := by
  simp only [dPr, noPtr, noPtrL, noPtr_dDl, Bool.and_self]
/-! ### They are told by their data -/
theorem dlist_inj {k : RowK} : ∀ {a b : List D}, dlist k a = dlist k b → a = b
  | [], [], _ => rfl
  | [], _ :: _, h => by cases h
  | _ :: _, [], h => by cases h
  | x :: a, y :: b, h => by
    simp only [dlist, D.list.injEq, true_and] at h
    exact h
theorem map_inj {α : Type} {g : α → D} (hg : ∀ {a b}, g a = g b → a = b) : ∀ {l m : List α}, l.map g = m.map g → l = m
  | [], [], _ => rfl
  | [], _ :: _, h => by simp at h
  | _ :: _, [], h => by simp at h
  | x :: l, y :: m, h => by
    simp only [List.map_cons, List.cons.injEq] at h
    rw [hg h.1, map_inj hg h.2]
theorem dSs_inj {a b : List Tx} (h : dSs a = dSs b) : a = b := map_inj (fun h => by simpa using h) (dlist_inj h)
mutual
theorem dTy_inj : ∀ {a b : Ty}, dTy a = dTy b → a = b
  | .mk f n s l, .mk f' n' s' l', h => by
    simp only [dTy, D.agg.injEq, List.cons.injEq, D.int.injEq, true_and, D.str.injEq, and_true] at h
    obtain ⟨rfl, rfl, rfl, h⟩ := h
    rw [dTys_inj (dlist_inj h)]
theorem dTys_inj : ∀ {a b : List Ty}, dTys a = dTys b → a = b
  | [], [], _ => rfl
  | [], _ :: _, h => by simp [dTys] at h
  | _ :: _, [], h => by simp [dTys] at h
  | x :: l, y :: m, h => by
    simp only [dTys, List.cons.injEq] at h
    rw [dTy_inj h.1, dTys_inj h.2]
end
theorem dTl_inj {a b : List Ty} (h : dTl a = dTl b) : a = b := map_inj dTy_inj (dlist_inj h)
theorem dCn_inj {a b : Cn} (h : dCn a = dCn b) : a = b := by
  obtain ⟨a1, a2, a3⟩ := a
  obtain ⟨b1, b2, b3⟩ := b
  simp only [dCn, cCn, D.agg.injEq, List.cons.injEq, D.int.injEq, true_and, D.str.injEq, and_true] at h
  obtain ⟨rfl, rfl, h⟩ := h
  rw [dTl_inj h]
theorem dDa_inj {a b : Da} (h : dDa a = dDa b) : a = b := by
  obtain ⟨a1, a2, a3, a4⟩ := a
  obtain ⟨b1, b2, b3, b4⟩ := b
  simp only [dDa, cDa, D.agg.injEq, List.cons.injEq, D.int.injEq, true_and, D.str.injEq, and_true] at h
  obtain ⟨rfl, rfl, h1, _, h2⟩ := h
  rw [dSs_inj h1, map_inj dCn_inj (dlist_inj h2)]
theorem dDl_inj {a b : List Da} (h : dDl a = dDl b) : a = b := map_inj dDa_inj (dlist_inj h)
end Go.Fu

/-
  Small facts in bundles.
-/
import Derived.Test.YtkgdpcnobfadaaaGreatDoorMzSy
import Derived.Test.YtkgdpcnobfadaaaGreatDoorFnBase
set_option linter.unusedSimpArgs false
set_option linter.unusedVariables false
namespace Go.Mx
open Go
theorem szB : (∀ b : Bool, (false && b) = false) ∧ (∀ b : Bool, (true && b) = b) ∧ (∀ b : Bool, (b && true) = b) ∧ (∀ b : Bool, (b && false) = false) ∧ (∀ b : Bool, (b || true) = true) ∧ (∀ b : Bool, (true || b) = true) ∧ (∀ b : Bool, (b || false) = b) ∧ (∀ b : Bool, (false || b) = b) ∧ (∀ b : Bool, (true == b) = b) ∧ (∀ b : Bool, (false == b) = !b) ∧ ((!true) = false) ∧ ((!false) = true) :=
  ⟨Bool.false_and, Bool.true_and, Bool.and_true, Bool.and_false, Bool.or_true, Bool.true_or, Bool.or_false, Bool.false_or, Bool.true_beq, Bool.false_beq, Bool.not_true, Bool.not_false⟩
theorem szL : (∀ {α β : Type} {f : α → β} {a : α} {l : List α}, (a :: l).map f = f a :: l.map f) ∧ (∀ {α β : Type} {f : α → β}, ([] : List α).map f = []) ∧ (∀ {α : Type} {a : α} {l : List α}, (a :: l).length = l.length + 1) ∧ (∀ {α : Type}, ([] : List α).length = 0) ∧ (∀ {α : Type} (l : List α), l ++ [] = l) ∧ (∀ {α : Type} (l : List α), [] ++ l = l) ∧ (∀ {α : Type} {a : α} {l m : List α}, (a :: l) ++ m = a :: (l ++ m)) ∧ (∀ {α : Type}, ([] : List α).isEmpty = true) ∧ (∀ {α : Type} {a : α} {l : List α}, (a :: l).isEmpty = false) ∧ (∀ {α : Type} {p : α → Bool}, ([] : List α).all p = true) ∧ (∀ {α : Type} {p : α → Bool} {a : α} {l : List α}, (a :: l).all p = (p a && l.all p)) ∧ (∀ {α : Type} (a b : α), (some a).getD b = a) ∧ (∀ {α : Type} (b : α), (none : Option α).getD b = b) :=
  ⟨List.map_cons, List.map_nil, List.length_cons, List.length_nil, List.append_nil, List.nil_append, List.cons_append, List.isEmpty_nil, List.isEmpty_cons, List.all_nil, List.all_cons, fun a b => Option.getD_some, fun b => Option.getD_none⟩
theorem szQ : (∀ n : Nat, 0 + n = n) ∧ (∀ n : Nat, n + 0 = n) ∧ (∀ {α : Type} [BEq α] [ReflBEq α] {a : α}, (a == a) = true) ∧ (∀ [h : Decidable True], @decide True h = true) ∧ (∀ [h : Decidable False], @decide False h = false) ∧ (∀ n : Nat, n ≤ n) :=
  ⟨Nat.zero_add, Nat.add_zero, beq_self_eq_true _, fun {_} => decide_true _, fun {_} => decide_false _, Nat.le_refl⟩
end Go.Mx
namespace Go.Mx
open Go
theorem de0 : (∀ (e : Env) (clr : List Nat), zex e clr = { slots := adel (Env.slots e) clr, locs := adel (Env.locs e) clr, boxes := adel (Env.boxes e) clr, defers := Env.defers e }) ∧ (∀ (x : Nat), mem [] x = false) ∧ (∀ (x x_2 : Nat) (l : List Nat), mem (x_2 :: l) x = ifB (x_2 == x) true (mem l x)) ∧ (∀ (args : List D), zc9 args = { slots := zcm 0 args, locs := [], boxes := [], defers := [] }) ∧ (∀ (x : Nat), zcm x [] = []) ∧ (∀ (x : Nat) (d : D) (r : List D), zcm x (d :: r) = (x, { own := false, d := d }) :: zcm (x + 1) r) ∧ (∀ (e : Env), zc2 none e = some true) ∧ (∀ (e : Env) (s : Nat) (want : Bool), zc2 (some (s, want)) e = bindO (aget (Env.slots e) s) fun (c : Cell) => caseO (D.bool? (Cell.d c)) (ifB (zfs (Cell.d c)) (some false) none) fun (b : Bool) => some (b == want)) ∧ (∀ (e : Env) (s : Nat), addr e (AOpd.tmp s) = caseO (aget (Env.locs e) s) (bindO (aget (Env.slots e) s) fun (c : Cell) => ptrOf (Cell.d c)) fun (p : Nat × Nat) => some (Ptr.loc (Prod.fst p) (Prod.snd p))) ∧ (∀ (e : Env) (s : Nat), addr e (AOpd.mv s) = caseO (aget (Env.locs e) s) (bindO (aget (Env.slots e) s) fun (c : Cell) => ptrOf (Cell.d c)) fun (p : Nat × Nat) => some (Ptr.loc (Prod.fst p) (Prod.snd p))) ∧ (∀ (e : Env) (d : D), addr e (AOpd.const d) = ptrOf d) ∧ (∀ (e : Env) (s : Nat), opd e (AOpd.tmp s) = bindO (aget (Env.slots e) s) fun (c : Cell) => some { own := false, d := Cell.d c }) ∧ (∀ (e : Env) (s : Nat), opd e (AOpd.mv s) = aget (Env.slots e) s) ∧ (∀ (e : Env) (d : D), opd e (AOpd.const d) = some { own := false, d := d }) ∧ (∀ (e : Env), opds e [] = some []) ∧ (∀ (e : Env) (x_1 : AOpd) (l : List AOpd), opds e (x_1 :: l) = bindO (opd e x_1) fun (c : Cell) => bindO (opds e l) fun (ds : List D) => some (Cell.d c :: ds)) ∧ (∀ (x : Nat), lkill [] x = []) ∧ (∀ (x k b o : Nat) (r : List (Nat × Nat × Nat)), lkill ((k, b, o) :: r) x = ifB (b == x) (adel1 (lkill r x) k) ((k, b, o) :: lkill r x)) ∧ (∀ (l : List (Nat × Nat × Nat)) (s : Nat), lfree l s = caseO (aget l s) (List.all l fun (p : Nat × Nat × Nat) => caseO (aget l (Prod.fst p)) true fun (q : Nat × Nat) => !Prod.fst q == s) fun (x : Nat × Nat) => false) ∧ (∀ (cs : List Cell) (off : Nat), za2 cs none off = nth cs off) ∧ (∀ (cs : List Cell) (off n : Nat), za2 cs (some n) off = bindO (takeC cs off n) fun (l : List D) => some { own := false, d := D.agg l }) ∧ (∀ (e : Env) (c : Cell) (s : Nat), Env.put e (some s) c = { slots := aset (Env.slots e) s c, locs := adel1 (Env.locs e) s, boxes := Env.boxes e, defers := Env.defers e }) ∧ (∀ (e : Env) (c : Cell), Env.put e none c = e) ∧ (∀ (e : Env) (dst : Option Nat) (c : Cell), Env.putV e dst (Val.c c) = Env.put e dst c) ∧ (∀ (e : Env) (b off s : Nat), Env.putV e (some s) (Val.l b off) = { slots := adel1 (Env.slots e) s, locs := aset (Env.locs e) s (b, off), boxes := Env.boxes e, defers := Env.defers e }) ∧ (∀ (e : Env) (b off : Nat), Env.putV e none (Val.l b off) = e) ∧ (∀ (e : Env) (s : Nat) (cs : List Cell), Env.box e s cs = { slots := adel1 (Env.slots e) s, locs := aset (lkill (Env.locs e) s) s (s, 0), boxes := aset (Env.boxes e) s cs, defers := Env.defers e }) ∧ (∀ (e : Env), Env.bare e = { slots := [], locs := [], boxes := [], defers := Env.defers e }) ∧ (∀ (e : Env) (x : AOpd), zbk (AOp.mov x) e = AOpd.drop e x) ∧ (∀ (e : Env) (k : Option Nat) (x : AOpd), zbk (AOp.load k true x) e = caseO (addr e x) e fun (p : Ptr) => match p with | Ptr.loc b off => caseO (aget (Env.boxes e) b) e fun (cs : List Cell) => { slots := Env.slots e, locs := Env.locs e, boxes := aset (Env.boxes e) b (za5 cs off), defers := Env.defers e } | x => e) ∧ (∀ (e : Env) (k : Option Nat) (x : AOpd), zbk (AOp.loadL k true x) e = caseO (addr e x) e fun (p : Ptr) => match p with | Ptr.loc b off => caseO (aget (Env.boxes e) b) e fun (cs : List Cell) => { slots := Env.slots e, locs := Env.locs e, boxes := aset (Env.boxes e) b (za5 cs off), defers := Env.defers e } | x => e) ∧ (∀ (op : AOp) (e : Env), (∀ (x : AOpd), op = AOp.mov x → False) → (∀ (k : Option Nat) (x : AOpd), op = AOp.load k true x → False) → (∀ (k : Option Nat) (x : AOpd), op = AOp.loadL k true x → False) → zbk op e = e) ∧ (∀ (e : Env) (σ : Store) (k : Option Nat) (x : AOpd), zbo (AOp.load k true x) e σ = caseO (addr e x) σ fun (p : Ptr) => match p with | Ptr.ptr id off => caseO (aget (Store.objs σ) id) σ fun (cs : List Cell) => { objs := aset (Store.objs σ) id (za5 cs off), tys := Store.tys σ, oth := Store.oth σ, next := Store.next σ } | x => σ) ∧ (∀ (op : AOp) (e : Env) (σ : Store), (∀ (k : Option Nat) (x : AOpd), op = AOp.load k true x → False) → zbo op e σ = σ) ∧ (∀ (op : Go.BinOp) (k : Go.IntKind) (a : Int) (k' : Go.IntKind) (b : Int), binD op (D.int k a) (D.int k' b) = ifB (za3 k k') (zbf op k a b) none) ∧ (∀ (op : Go.BinOp) (a b : List UInt8), binD op (D.str a) (D.str b) = zb3 op a b) ∧ (∀ (op : Go.BinOp) (x x_1 : D), (∀ (k : Go.IntKind) (a : Int) (k' : Go.IntKind) (b : Int), x = D.int k a → x_1 = D.int k' b → False) → (∀ (a b : List UInt8), x = D.str a → x_1 = D.str b → False) → binD op x x_1 = none) ∧ (∀ (op : Go.BinOp) (a b : Bool), binBD op (D.bool a) (D.bool b) = zd2 op a b) ∧ (∀ (op : Go.BinOp) (x x_1 : D), (∀ (a b : Bool), x = D.bool a → x_1 = D.bool b → False) → binBD op x x_1 = none) ∧ (∀ (a b : Bool), zd2 Go.BinOp.eql a b = some (D.bool (a == b))) ∧ (∀ (a b : Bool), zd2 Go.BinOp.neq a b = some (D.bool !a == b)) ∧ (∀ (op : Go.BinOp) (a b : Bool), (op = Go.BinOp.eql → False) → (op = Go.BinOp.neq → False) → zd2 op a b = none) ∧ (∀ (k : Go.IntKind) (a b : Int), zbf Go.BinOp.add k a b = some (D.int k (Go.IntKind.wrap k (a + b)))) ∧ (∀ (k : Go.IntKind) (a b : Int), zbf Go.BinOp.sub k a b = some (D.int k (Go.IntKind.wrap k (a - b)))) ∧ (∀ (k : Go.IntKind) (a b : Int), zbf Go.BinOp.mul k a b = some (D.int k (Go.IntKind.wrap k (a * b)))) ∧ (∀ (k : Go.IntKind) (a b : Int), zbf Go.BinOp.quo k a b = ifB (b == 0) none (some (D.int k (Go.IntKind.wrap k (Int.tdiv a b))))) :=
  And.intro @zex.eq_1 (And.intro @mem.eq_1 (And.intro @mem.eq_2 (And.intro @zc9.eq_1 (And.intro @zcm.eq_1 (And.intro @zcm.eq_2 (And.intro @zc2.eq_1 (And.intro @zc2.eq_2 (And.intro @addr.eq_1 (And.intro @addr.eq_2 (And.intro @addr.eq_3 (And.intro @opd.eq_1 (And.intro @opd.eq_2 (And.intro @opd.eq_3 (And.intro @opds.eq_1 (And.intro @opds.eq_2 (And.intro @lkill.eq_1 (And.intro @lkill.eq_2 (And.intro @lfree.eq_1 (And.intro @za2.eq_1 (And.intro @za2.eq_2 (And.intro @Env.put.eq_1 (And.intro @Env.put.eq_2 (And.intro @Env.putV.eq_1 (And.intro @Env.putV.eq_2 (And.intro @Env.putV.eq_3 (And.intro @Env.box.eq_1 (And.intro @Env.bare.eq_1 (And.intro @zbk.eq_1 (And.intro @zbk.eq_2 (And.intro @zbk.eq_3 (And.intro @zbk.eq_4 (And.intro @zbo.eq_1 (And.intro @zbo.eq_2 (And.intro @binD.eq_1 (And.intro @binD.eq_2 (And.intro @binD.eq_3 (And.intro @binBD.eq_1 (And.intro @binBD.eq_2 (And.intro @zd2.eq_1 (And.intro @zd2.eq_2 (And.intro @zd2.eq_3 (And.intro @zbf.eq_1 (And.intro @zbf.eq_2 (And.intro @zbf.eq_3 (@zbf.eq_4)))))))))))))))))))))))))))))))))))))))))))))
theorem de1 : (∀ (k : Go.IntKind) (a b : Int), zbf Go.BinOp.rem k a b = ifB (b == 0) none (some (D.int k (Int.tmod a b)))) ∧ (∀ (k : Go.IntKind) (a b : Int), zbf Go.BinOp.eql k a b = some (D.bool (a == b))) ∧ (∀ (k : Go.IntKind) (a b : Int), zbf Go.BinOp.neq k a b = some (D.bool (a != b))) ∧ (∀ (k : Go.IntKind) (a b : Int), zbf Go.BinOp.lss k a b = some (D.bool (Decidable.decide (a < b)))) ∧ (∀ (k : Go.IntKind) (a b : Int), zbf Go.BinOp.leq k a b = some (D.bool (Decidable.decide (a ≤ b)))) ∧ (∀ (k : Go.IntKind) (a b : Int), zbf Go.BinOp.gtr k a b = some (D.bool (Decidable.decide (a > b)))) ∧ (∀ (k : Go.IntKind) (a b : Int), zbf Go.BinOp.geq k a b = some (D.bool (Decidable.decide (a ≥ b)))) ∧ (∀ (op : Go.BinOp) (k : Go.IntKind) (a b : Int), (op = Go.BinOp.add → False) → (op = Go.BinOp.sub → False) → (op = Go.BinOp.mul → False) → (op = Go.BinOp.quo → False) → (op = Go.BinOp.rem → False) → (op = Go.BinOp.eql → False) → (op = Go.BinOp.neq → False) → (op = Go.BinOp.lss → False) → (op = Go.BinOp.leq → False) → (op = Go.BinOp.gtr → False) → (op = Go.BinOp.geq → False) → zbf op k a b = none) ∧ (∀ (a b : List UInt8), zb3 Go.BinOp.add a b = ifB (Decidable.decide (List.length a + List.length b ≤ 281474976710656)) (some (D.str (a ++ b))) none) ∧ (∀ (a b : List UInt8), zb3 Go.BinOp.eql a b = some (D.bool (a == b))) ∧ (∀ (a b : List UInt8), zb3 Go.BinOp.neq a b = some (D.bool !a == b)) ∧ (∀ (a b : List UInt8), zb3 Go.BinOp.lss a b = some (D.bool (Go.Op.bytesLess a b))) ∧ (∀ (a b : List UInt8), zb3 Go.BinOp.leq a b = some (D.bool (Go.Op.bytesLess a b || a == b))) ∧ (∀ (a b : List UInt8), zb3 Go.BinOp.gtr a b = some (D.bool !(Go.Op.bytesLess a b || a == b))) ∧ (∀ (a b : List UInt8), zb3 Go.BinOp.geq a b = some (D.bool !Go.Op.bytesLess a b)) ∧ (∀ (op : Go.BinOp) (a b : List UInt8), (op = Go.BinOp.add → False) → (op = Go.BinOp.eql → False) → (op = Go.BinOp.neq → False) → (op = Go.BinOp.lss → False) → (op = Go.BinOp.leq → False) → (op = Go.BinOp.gtr → False) → (op = Go.BinOp.geq → False) → zb3 op a b = none) ∧ (∀ (b : Bool), unD Go.UnOp.not (D.bool b) = some (D.bool !b)) ∧ (∀ (k : Go.IntKind) (n : Int), unD Go.UnOp.neg (D.int k n) = some (D.int k (Go.IntKind.wrap k (0 - n)))) ∧ (∀ (x : Go.UnOp) (x_1 : D), (∀ (b : Bool), x = Go.UnOp.not → x_1 = D.bool b → False) → (∀ (k : Go.IntKind) (n : Int), x = Go.UnOp.neg → x_1 = D.int k n → False) → unD x x_1 = none) ∧ (∀ (mx : Bool) (k : Go.IntKind) (a : Int) (k' : Go.IntKind) (b : Int), mmD mx (D.int k a) (D.int k' b) = ifB (za3 k k') (some (D.int k (ifB mx (ifB (Decidable.decide (a < b)) b a) (ifB (Decidable.decide (b < a)) b a)))) none) ∧ (∀ (mx : Bool) (x x_1 : D), (∀ (k : Go.IntKind) (a : Int) (k' : Go.IntKind) (b : Int), x = D.int k a → x_1 = D.int k' b → False) → mmD mx x x_1 = none) ∧ (∀ (e : Env) (s : Nat), AOpd.drop e (AOpd.mv s) = caseO (aget (Env.slots e) s) e fun (c : Cell) => { slots := aset (Env.slots e) s { own := false, d := Cell.d c }, locs := Env.locs e, boxes := Env.boxes e, defers := Env.defers e }) ∧ (∀ (e : Env) (x : AOpd), (∀ (s : Nat), x = AOpd.mv s → False) → AOpd.drop e x = e) ∧ (∀ (d : D), Cell.of d = { own := false, d := d }) ∧ (∀ (f : Go.FuncId) (args : List AOpd), zch (AOp.callW f args) = true) ∧ (∀ (x_1 : AOpd) (args : List AOpd), zch (AOp.callvW x_1 args) = true) ∧ (∀ (x : AOp), (∀ (f : Go.FuncId) (args : List AOpd), x = AOp.callW f args → False) → (∀ (x_1 : AOpd) (args : List AOpd), x = AOp.callvW x_1 args → False) → zch x = false) ∧ (za3 Go.IntKind.i8 Go.IntKind.i8 = true) ∧ (za3 Go.IntKind.i16 Go.IntKind.i16 = true) ∧ (za3 Go.IntKind.i32 Go.IntKind.i32 = true) ∧ (za3 Go.IntKind.i64 Go.IntKind.i64 = true) ∧ (za3 Go.IntKind.u8 Go.IntKind.u8 = true) ∧ (za3 Go.IntKind.u16 Go.IntKind.u16 = true) ∧ (za3 Go.IntKind.u32 Go.IntKind.u32 = true) ∧ (za3 Go.IntKind.u64 Go.IntKind.u64 = true) ∧ (∀ (x x_1 : Go.IntKind), (x = Go.IntKind.i8 → x_1 = Go.IntKind.i8 → False) → (x = Go.IntKind.i16 → x_1 = Go.IntKind.i16 → False) → (x = Go.IntKind.i32 → x_1 = Go.IntKind.i32 → False) → (x = Go.IntKind.i64 → x_1 = Go.IntKind.i64 → False) → (x = Go.IntKind.u8 → x_1 = Go.IntKind.u8 → False) → (x = Go.IntKind.u16 → x_1 = Go.IntKind.u16 → False) → (x = Go.IntKind.u32 → x_1 = Go.IntKind.u32 → False) → (x = Go.IntKind.u64 → x_1 = Go.IntKind.u64 → False) → za3 x x_1 = false) ∧ (∀ (t : Nat) (z : D) (t' : Go.TypeId) (d : D), zd1 t z (D.iface t' d) = some (D.tup [ifB (t' == t) d z, D.bool (t' == t)])) ∧ (∀ (t : Nat) (z : D), zd1 t z D.niliface = some (D.tup [z, D.bool false])) ∧ (∀ (t : Nat) (z x : D), (∀ (t' : Go.TypeId) (d : D), x = D.iface t' d → False) → (x = D.niliface → False) → zd1 t z x = none) ∧ (∀ (b : Bool), eqlB Go.BinOp.eql b = some (D.bool b)) ∧ (∀ (b : Bool), eqlB Go.BinOp.neq b = some (D.bool !b)) ∧ (∀ (op : Go.BinOp) (b : Bool), (op = Go.BinOp.eql → False) → (op = Go.BinOp.neq → False) → eqlB op b = none) ∧ (zfs D.undef = true) ∧ (∀ (x : D), (x = D.undef → False) → zfs x = false) ∧ (∀ (x : List Cell), takeC x 0 0 = some []) ∧ (∀ (x x_1 : Nat), (x = 0 → x_1 = 0 → False) → takeC [] x x_1 = none) :=
  And.intro @zbf.eq_5 (And.intro @zbf.eq_6 (And.intro @zbf.eq_7 (And.intro @zbf.eq_8 (And.intro @zbf.eq_9 (And.intro @zbf.eq_10 (And.intro @zbf.eq_11 (And.intro @zbf.eq_12 (And.intro @zb3.eq_1 (And.intro @zb3.eq_2 (And.intro @zb3.eq_3 (And.intro @zb3.eq_4 (And.intro @zb3.eq_5 (And.intro @zb3.eq_6 (And.intro @zb3.eq_7 (And.intro @zb3.eq_8 (And.intro @unD.eq_1 (And.intro @unD.eq_2 (And.intro @unD.eq_3 (And.intro @mmD.eq_1 (And.intro @mmD.eq_2 (And.intro @AOpd.drop.eq_1 (And.intro @AOpd.drop.eq_2 (And.intro @Cell.of.eq_1 (And.intro @zch.eq_1 (And.intro @zch.eq_2 (And.intro @zch.eq_3 (And.intro @za3.eq_1 (And.intro @za3.eq_2 (And.intro @za3.eq_3 (And.intro @za3.eq_4 (And.intro @za3.eq_5 (And.intro @za3.eq_6 (And.intro @za3.eq_7 (And.intro @za3.eq_8 (And.intro @za3.eq_9 (And.intro @zd1.eq_1 (And.intro @zd1.eq_2 (And.intro @zd1.eq_3 (And.intro @eqlB.eq_1 (And.intro @eqlB.eq_2 (And.intro @eqlB.eq_3 (And.intro @zfs.eq_1 (And.intro @zfs.eq_2 (And.intro @takeC.eq_1 (@takeC.eq_2)))))))))))))))))))))))))))))))))))))))))))))
theorem de2 : (∀ (c : Cell) (cs : List Cell) (n : Nat), takeC (c :: cs) 0 (Nat.succ n) = bindO (takeC cs 0 n) fun (l : List D) => some (Cell.d c :: l)) ∧ (∀ (x : Nat) (head : Cell) (cs : List Cell) (o : Nat), takeC (head :: cs) (Nat.succ o) x = takeC cs o x) ∧ (∀ (x : Nat), za5 [] x = []) ∧ (∀ (c : Cell) (cs : List Cell), za5 (c :: cs) 0 = { own := false, d := Cell.d c } :: cs) ∧ (∀ (c : Cell) (cs : List Cell) (n : Nat), za5 (c :: cs) (Nat.succ n) = c :: za5 cs n) ∧ (∀ (c : Cell) (k off : Nat) (cs : List Cell), fits c k off cs = (D.ok (Cell.d c) && List.length (D.cells (Cell.d c)) == k && Decidable.decide (off + k ≤ List.length cs))) ∧ (∀ (c : Cell), zbb c = ifB (D.one (Cell.d c)) [c] (List.map Cell.of (D.cells (Cell.d c)))) ∧ (∀ (x : List Cell) (x_1 : Nat), zap x x_1 [] = x) ∧ (∀ (x : Nat) (x_1 : List Cell), (x_1 = [] → False) → zap [] x x_1 = []) ∧ (∀ (head : Cell) (cs : List Cell) (x_3 : Cell) (new : List Cell), zap (head :: cs) 0 (x_3 :: new) = x_3 :: zap cs 0 new) ∧ (∀ (x : List Cell) (c : Cell) (cs : List Cell) (n : Nat), (x = [] → False) → zap (c :: cs) (Nat.succ n) x = c :: zap cs n x) ∧ (∀ (x : List D) (x_1 : Nat), putD x x_1 [] = x) ∧ (∀ (x : Nat) (x_1 : List D), (x_1 = [] → False) → putD [] x x_1 = []) ∧ (∀ (head : D) (cs : List D) (x_3 : D) (new : List D), putD (head :: cs) 0 (x_3 :: new) = x_3 :: putD cs 0 new) ∧ (∀ (x : List D) (c : D) (cs : List D) (n : Nat), (x = [] → False) → putD (c :: cs) (Nat.succ n) x = c :: putD cs n x) ∧ (∀ (x : List D), fillD x [] = some x) ∧ (∀ (x : List D) (off n : Nat) (d : D) (r : List (Nat × Nat × D)), fillD x ((off, n, d) :: r) = ifB (D.ok d && List.length (D.cells d) == n && Decidable.decide (off + n ≤ List.length x)) (fillD (putD x off (D.cells d)) r) none) ∧ (∀ (e : Env), zc1 e [] = some []) ∧ (∀ (e : Env) (off n : Nat) (x_1 : AOpd) (r : List (Nat × Nat × AOpd)), zc1 e ((off, n, x_1) :: r) = bindO (opd e x_1) fun (c : Cell) => bindO (zc1 e r) fun (l : List (Nat × Nat × D)) => some ((off, n, Cell.d c) :: l)) ∧ (∀ (e : Env) (l : AOpd), optLo e (some l) = bindO (opd e l) fun (c : Cell) => D.nat? (Cell.d c)) ∧ (∀ (e : Env), optLo e none = some 0) ∧ (∀ (e : Env) (l : AOpd), optHi e (some l) = bindO (opd e l) fun (c : Cell) => bindO (D.nat? (Cell.d c)) fun (n : Nat) => some (some n)) ∧ (∀ (e : Env), optHi e none = some none) ∧ (∀ (sz : Nat), zau sz [] = true) ∧ (∀ (sz : Nat) (x_1 : D) (es : List D), zau sz (x_1 :: es) = (D.ok x_1 && List.length (D.cells x_1) == sz && zau sz es)) ∧ (∀ (R : RecF) (C : CallF) (x : Option D) (x_1 : Store), zaz R C x [] x_1 = some (x, x_1)) ∧ (∀ (R : RecF) (C : CallF) (x : Option D) (x_1 : Store) (f : Go.FuncId) (az : List D) (r : List (Go.FuncId × List D)), zaz R C x ((f, az) :: r) x_1 = match R f az x x_1 with | some x => zaz R C (Prod.fst x) r (Prod.snd x) | none => bindO (C f az x_1) fun (o : Out × Store) => match Prod.fst o with | Out.ret c => zaz R C x r (Prod.snd o) | Out.panic d => none) ∧ (∀ (e : Env) (σ : Store) (r : ARes), zb2 e σ [r] = zca e σ r) ∧ (∀ (e : Env) (σ : Store) (x : List ARes), (∀ (r : ARes), x = [r] → False) → zb2 e σ x = bindO (zb6 e σ x) fun (ds : List D) => some { own := false, d := D.tup ds }) ∧ (∀ (e : Env) (σ : Store) (s : Nat), zca e σ (ARes.tmp s) = aget (Env.slots e) s) ∧ (∀ (e : Env) (σ : Store) (s : Nat) (k : Option Nat), zca e σ (ARes.cell s k) = bindO (addr e (AOpd.tmp s)) fun (p : Ptr) => match p with | Ptr.loc b off => bindO (aget (Env.boxes e) b) fun (cs : List Cell) => za2 cs k off | Ptr.ptr id off => bindO (aget (Store.objs σ) id) fun (cs : List Cell) => bindO (za2 cs k off) fun (c : Cell) => some { own := false, d := Cell.d c } | Ptr.eptr d => none) ∧ (∀ (e : Env) (σ : Store) (s k : Nat), zca e σ (ARes.cellA s k) = bindO (addr e (AOpd.tmp s)) fun (p : Ptr) => match p with | Ptr.loc b 0 => bindO (aget (Env.boxes e) b) fun (cs : List Cell) => ifB (List.length cs == k) (some { own := zaw cs, d := D.agg (List.map (fun (c : Cell) => Cell.d c) cs) }) none | x => none) ∧ (∀ (e : Env) (σ : Store), zb6 e σ [] = some []) ∧ (∀ (e : Env) (σ : Store) (r : ARes) (l : List ARes), zb6 e σ (r :: l) = bindO (zca e σ r) fun (c : Cell) => bindO (zb6 e σ l) fun (ds : List D) => some (Cell.d c :: ds)) :=
  And.intro @takeC.eq_3 (And.intro @takeC.eq_4 (And.intro @za5.eq_1 (And.intro @za5.eq_2 (And.intro @za5.eq_3 (And.intro @fits.eq_1 (And.intro @zbb.eq_1 (And.intro @zap.eq_1 (And.intro @zap.eq_2 (And.intro @zap.eq_3 (And.intro @zap.eq_4 (And.intro @putD.eq_1 (And.intro @putD.eq_2 (And.intro @putD.eq_3 (And.intro @putD.eq_4 (And.intro @fillD.eq_1 (And.intro @fillD.eq_2 (And.intro @zc1.eq_1 (And.intro @zc1.eq_2 (And.intro @optLo.eq_1 (And.intro @optLo.eq_2 (And.intro @optHi.eq_1 (And.intro @optHi.eq_2 (And.intro @zau.eq_1 (And.intro @zau.eq_2 (And.intro @zaz.eq_1 (And.intro @zaz.eq_2 (And.intro @zb2.eq_1 (And.intro @zb2.eq_2 (And.intro @zca.eq_1 (And.intro @zca.eq_2 (And.intro @zca.eq_3 (And.intro @zb6.eq_1 (@zb6.eq_2)))))))))))))))))))))))))))))))))
end Go.Mx
namespace Go.Fu
open Go Go.Mx
def Γs : FuncId → Option AFun := fun f => ifB (f == n_40) none (Γa f)
def Xs : CallF := fun f ds σ => ifB (f == n_40) (ifB ds.isEmpty (some (.ret ⟨false, .bool true⟩, σ)) none) (Xa f ds σ)
theorem Γs_holds : Holds Go.Proofs.Tryz.prog Γs := by
  intro f af h
  unfold Γs at h
  cases h1 : f == n_40 with
  | true => rw [h1] at h; cases h
  | false =>
    rw [h1, zac] at h
    exact Γa_holds f af h
theorem zccb : zen Go.Proofs.Tryz.prog κ Xs := by
  intro f ds σ out σ' h
  unfold Xs at h
  cases h1 : f == n_40 with
  | true =>
    rw [h1, zae] at h
    obtain ⟨h2, h3⟩ := zak h
    cases h3
    have : f = n_40 := by simpa using h1
    subst this
    cases ds with
    | nil => exact zd8b σ
    | cons d l => cases h2
  | false =>
    rw [h1, zac] at h
    exact zq2 _ _ _ _ _ h
def T (n : Nat) : CallF := runQ Γs Ra Xs n false
def TD (n : Nat) : CallF := runQ Γs Ra Xs n true
theorem zfjb (n : Nat) : zen Go.Proofs.Tryz.prog κ (T n) := (zln Γs_holds zq1 zccb n).1
theorem T_fun {n : Nat} {f : FuncId} {af : AFun} {ds : List D} {σ : Store} (h : Γs f = some af) (hl : ds.length = af.nargs) : T (n + 1) f ds σ = finX Ra (TD n) af σ.next (exec (T n) n af.body (zc9 ds) σ) := zezb h hl
theorem T_lib {n : Nat} {f : FuncId} {ds : List D} {σ : Store} (h : Γs f = none) : T (n + 1) f ds σ = Xs f ds σ := ze0b h
theorem any (p : Nat → Prop) (h : ∀ n, p (n + 1)) : Evly p := (Evly.all (p := fun _ => True) fun _ => trivial).step 0 fun n _ _ => h n
theorem zarb : Evly fun n => ∀ σ, T n n_40 [] σ = some (.ret ⟨false, .bool true⟩, σ) := any _ fun n σ => by rw [T_lib rfl]; rfl
theorem zbc {n : Int} (h1 : -9223372036854775808 ≤ n) (h2 : n ≤ 9223372036854775807) : IntKind.i64.wrap n = n := by
  simp [IntKind.wrap, IntKind.bits, IntKind.signed]
  omega
theorem zam {i : Nat} (h : i < 1099511627776) : IntKind.i64.wrap ((i : Int) + 1) = ((i + 1 : Nat) : Int) := by
  rw [zbc (by omega) (by omega)]
  rfl
theorem nat1 {k : IntKind} : D.nat? (.int k 1) = some 1 := rfl
theorem nat2 {k : IntKind} : D.nat? (.int k 2) = some 2 := rfl
theorem nat3 {k : IntKind} : D.nat? (.int k 3) = some 3 := rfl
theorem nat4 {k : IntKind} : D.nat? (.int k 4) = some 4 := rfl
theorem nat5 {k : IntKind} : D.nat? (.int k 5) = some 5 := rfl
theorem nat6 {k : IntKind} : D.nat? (.int k 6) = some 6 := rfl
theorem nat7 {k : IntKind} : D.nat? (.int k 7) = some 7 := rfl
theorem nat8 {k : IntKind} : D.nat? (.int k 8) = some 8 := rfl
theorem idxL {sz n : Nat} {k : RowK} {es : List D} : zav sz (.list k es) n = ifB (k.sz == sz) (bindO (nth es n) fun d => some (.eptr d)) none := rfl
theorem zeroI : ((0 : Nat) : Int) = 0 := rfl
theorem ks : (k_3.sz = 4) ∧ (k_3.ag = true) ∧ (k_3.same k_3 = true) ∧ (k_1.sz = 5) ∧ (k_1.ag = true) ∧ (k_1.same k_1 = true) ∧ (k_0.sz = 1) ∧ (k_0.ag = false) ∧ (k_0.same k_0 = true) ∧ (k_int.sz = 1) ∧ (k_int.ag = false) ∧ (k_int.same k_int = true) ∧ (k_4.sz = 1) ∧ (k_4.ag = true) ∧ (k_4.same k_4 = true) ∧ (∀ {k : IntKind}, D.nat? (.int k 1) = some 1) ∧ (∀ {k : IntKind}, D.nat? (.int k 2) = some 2) ∧ (∀ {k : IntKind}, D.nat? (.int k 3) = some 3) ∧ (∀ {k : IntKind}, D.nat? (.int k 4) = some 4) ∧ (∀ {k : IntKind}, D.nat? (.int k 5) = some 5) ∧ (∀ {k : IntKind}, D.nat? (.int k 6) = some 6) ∧ (∀ {k : IntKind}, D.nat? (.int k 7) = some 7) ∧ (∀ {k : IntKind}, D.nat? (.int k 8) = some 8) ∧ (∀ {sz n : Nat} {k : RowK} {es : List D}, zav sz (.list k es) n = ifB (k.sz == sz) (bindO (nth es n) fun d => some (.eptr d)) none) :=
  ⟨k_225, k_223, k_224, k_92, k_221, k_222, k_60, k_228, k_229, k_175, k_226, k_227, k_220, k_218, k_219, nat1, nat2, nat3, nat4, nat5, nat6, nat7, nat8, idxL⟩
theorem lz : (((0 : Nat) : Int) = 0) ∧ (((1 : Nat) : Int) = 1) ∧ (((2 : Nat) : Int) = 2) ∧ (((3 : Nat) : Int) = 3) ∧ (((4 : Nat) : Int) = 4) ∧ (((5 : Nat) : Int) = 5) ∧ (((6 : Nat) : Int) = 6) ∧ (((7 : Nat) : Int) = 7) ∧ (((8 : Nat) : Int) = 8) := ⟨rfl, rfl, rfl, rfl, rfl, rfl, rfl, rfl, rfl⟩
def Small (x : Int) : Prop := -9223372036854775808 ≤ x ∧ x ≤ 9223372036854775807
inductive Tp where
  | hole (n : Int)
  | var (s : List UInt8)
  | con (s : List UInt8)
  | app (f a : Tp)
namespace Tp
def form : Tp → Int
  | .hole _ => 1
  | .var _ => 2
  | .con _ => 3
  | .app _ _ => 4
def num : Tp → Int
  | .hole n => n
  | _ => 0
def name : Tp → List UInt8
  | .var s => s
  | .con s => s
  | _ => []
def args : Tp → List Tp
  | .app f a => [f, a]
  | _ => []
end Tp
def dT : Tp → D
  | .hole n => .agg [.int .i64 1, .int .i64 n, .str [], .nils]
  | .var s => .agg [.int .i64 2, .int .i64 0, .str s, .nils]
  | .con s => .agg [.int .i64 3, .int .i64 0, .str s, .nils]
  | .app f a => .agg [.int .i64 4, .int .i64 0, .str [], .list k_3 [dT f, dT a]]
def cT (t : Tp) : List D := [.int .i64 t.form, .int .i64 t.num, .str t.name, dlist k_3 (t.args.map dT)]
theorem dT_eq (t : Tp) : dT t = .agg (cT t) := by cases t <;> rfl
theorem zcgb (t : Tp) : (dT t).cells.length = 4 := by rw [dT_eq]; rfl
theorem ok_dT : ∀ t : Tp, (dT t).ok = true := by
  intro t
  rw [dT_eq]
  simp only [cT, D.ok, List.all_cons, D.one, zdr, List.all_nil, Bool.and_self]
theorem zhh (t : Tp) : t.args.length ≤ 2 := by cases t <;> simp [Tp.args]
structure Pr where
  cls : List UInt8
  ty : Tp
def dP (p : Pr) : D := .agg (.str p.cls :: cT p.ty)
theorem dP_eq (p : Pr) : dP p = .agg [.str p.cls, .int .i64 p.ty.form, .int .i64 p.ty.num, .str p.ty.name, dlist k_3 (p.ty.args.map dT)] := rfl
def dTs (l : List Tp) : D := dlist k_3 (l.map dT)
def dPs (l : List Pr) : D := dlist k_1 (l.map dP)
def dSs (l : List (List UInt8)) : D := dlist k_0 (l.map D.str)
theorem ok_dP (p : Pr) : (dP p).ok = true := by
  simp only [dP, cT, D.ok, List.all_cons, D.one, zdr, List.all_nil, Bool.and_self]
theorem zjp (p : Pr) : (dP p).cells.length = 5 := rfl
theorem zo0 {α : Type} {k : RowK} {sz : Nat} (hs : k.sz = sz) (f : α → D) (l : List α) (i : Nat) (h : i < l.length) : zav sz (dlist k (l.map f)) i = some (.eptr (f l[i])) := by
  have hn : nth (l.map f) i = some (f l[i]) := by rw [zo5, zo4 _ _ h]; rfl
  cases l with
  | nil => simp at h
  | cons x r =>
    simp only [List.map_cons, dlist, zav, hs, beq_self_eq_true, zae] at hn ⊢
    rw [hn]
    rfl
theorem idx_T (l : List Tp) (i : Nat) (h : i < l.length) : zav 4 (dlist k_3 (l.map dT)) i = some (.eptr (dT l[i])) := zo0 rfl _ _ _ h
theorem idx_P (l : List Pr) (i : Nat) (h : i < l.length) : zav 5 (dlist k_1 (l.map dP)) i = some (.eptr (dP l[i])) := zo0 rfl _ _ _ h
theorem idx_S (l : List (List UInt8)) (i : Nat) (h : i < l.length) : zav 1 (dlist k_0 (l.map D.str)) i = some (.eptr (.str l[i])) := zo0 rfl _ _ _ h
theorem zjl (l : List Tp) (v : Tp) (o : Bool) (ho : l ≠ [] → o = true) (hl : l.length < 1048576) : zbe k_3 56 ⟨o, dlist k_3 (l.map dT)⟩ [dT v] = some ⟨true, dlist k_3 ((l ++ [v]).map dT)⟩ := by
  rw [zfd (fun h => ho (by simpa using h)) (ok_dT _) (zcgb _) (by simp [bound]; omega) (by simp [bound]; omega)]
  simp
theorem zmy (l : List Pr) (v : Pr) (o : Bool) (ho : l ≠ [] → o = true) (hl : l.length < 1048576) : zbe k_1 72 ⟨o, dlist k_1 (l.map dP)⟩ [dP v] = some ⟨true, dlist k_1 ((l ++ [v]).map dP)⟩ := by
  rw [zfd (fun h => ho (by simpa using h)) (ok_dP _) (zjp _) (by simp [bound]; omega) (by simp [bound]; omega)]
  simp
theorem zfo (l : List (List UInt8)) (v : List UInt8) (o : Bool) (ho : l ≠ [] → o = true) (hl : l.length < 1048576) : zbe k_0 16 ⟨o, dlist k_0 (l.map D.str)⟩ [.str v] = some ⟨true, dlist k_0 ((l ++ [v]).map D.str)⟩ := by
  rw [zfd (fun h => ho (by simpa using h)) rfl rfl (by simp [bound]; omega) (by simp [bound]; omega)]
  simp
def ow : Nat → Bool
  | 0 => false
  | _ + 1 => true
end Go.Fu
namespace Go.Fu
open Go Go.Mx
set_option maxRecDepth 10000
def posOf (x : Int) : Int := if x < 0 then -(x + 1) else x
def aro (x : Int) (m : Nat) : Nat := (posOf x % (m : Int)).toNat
theorem zf9 (x : Int) {m : Nat} (h : 0 < m) : aro x m < m := by
  unfold aro
  have := Int.emod_lt_of_pos (posOf x) (show (0 : Int) < m by omega)
  have := Int.emod_nonneg (posOf x) (show (m : Int) ≠ 0 by omega)
  omega
theorem zetb (x : Int) : 0 ≤ posOf x := by unfold posOf; split <;> omega
theorem zq5 (x : Int) {m : Nat} (h : 0 < m) : (posOf x).tmod m = ((aro x m : Nat) : Int) := by
  unfold aro
  rw [Int.tmod_eq_emod_of_nonneg (zetb x)]
  have := Int.emod_nonneg (posOf x) (show (m : Int) ≠ 0 by omega)
  omega
theorem zw3 : Evly fun n => ∀ (x : Int) (m : Nat) σ, Small x → 0 < m → m < 1048576 → T n n_5 [.int .i64 x, .int .i64 m] σ = some (.ret ⟨false, .int .i64 (aro x m)⟩, σ) := any _ fun n x m σ hx hm hm2 => by
  rw [T_fun (af := a_103) rfl rfl]
  unfold Small at hx
  have hm0 : (((m : Nat) : Int) == 0) = false := by simp; omega
  by_cases h : x < 0
  · have hp : posOf x = -(x + 1) := if_pos h
    have w1 : IntKind.i64.wrap (x + 1) = x + 1 := zbc (by omega) (by omega)
    have w2 : IntKind.i64.wrap (0 - (x + 1)) = posOf x := by rw [hp, zbc (by omega) (by omega)]; omega
    simp only [a_103, de0, de1, de2, szQ, szB, szL, sy0, sy1, sy2, sy3, sy4, sy5, zad, zaa, zac, zae, adel, zah, zag, zai, zaf, evalV, aget, aset, adel1, nth, AOp.kind, Nat.reduceAdd, Nat.reduceSub, Nat.reduceMul, Nat.reduceBEq, Nat.ble, bindO, Nat.reduceLeDiff, Int.reduceBEq, Int.reduceBNe, Int.reduceLE, Int.reduceLT, Int.reduceGE, Int.reduceGT, Int.reduceNeg, ks, h, w1, w2, hm0, zq5 x hm]
  · have hp : posOf x = x := if_neg h
    have ht := zq5 x hm
    rw [hp] at ht
    simp only [a_103, de0, de1, de2, szQ, szB, szL, sy0, sy1, sy2, sy3, sy4, sy5, zad, zaa, zac, zae, adel, zah, zag, zai, zaf, evalV, aget, aset, adel1, nth, AOp.kind, Nat.reduceAdd, Nat.reduceSub, Nat.reduceMul, Nat.reduceBEq, Nat.ble, bindO, Nat.reduceLeDiff, Int.reduceBEq, Int.reduceBNe, Int.reduceLE, Int.reduceLT, Int.reduceGE, Int.reduceGT, Int.reduceNeg, ks, h, hm0, ht]
theorem zzd : Evly fun n => ∀ (f a : Tp) σ, T n n_116 [dT f, dT a] σ = some (.ret ⟨false, dT (.app f a)⟩, σ) := any _ fun n f a σ => by
  rw [T_fun (af := a_159) rfl rfl]
  simp only [a_159, de0, de1, de2, szQ, szB, szL, sy0, sy1, sy2, sy3, sy4, sy5, zad, zaa, zac, zae, adel, zah, zag, zai, zaf, evalV, aget, aset, adel1, nth, AOp.kind, Nat.reduceAdd, Nat.reduceSub, Nat.reduceMul, Nat.reduceBEq, Nat.ble, bindO, Nat.reduceLeDiff, Int.reduceBEq, Int.reduceBNe, Int.reduceLE, Int.reduceLT, Int.reduceGE, Int.reduceGT, Int.reduceNeg, ks, dT, dT_eq f, dT_eq a, cT]
theorem zls : Evly fun n => ∀ (f a : Tp) σ, T n n_61 [dT f, dT a] σ = some (.ret ⟨false, dT (.app f a)⟩, σ) := any _ fun n f a σ => by
  rw [T_fun (af := a_130) rfl rfl]
  simp only [a_130, de0, de1, de2, szQ, szB, szL, sy0, sy1, sy2, sy3, sy4, sy5, zad, zaa, zac, zae, adel, zah, zag, zai, zaf, evalV, aget, aset, adel1, nth, AOp.kind, Nat.reduceAdd, Nat.reduceSub, Nat.reduceMul, Nat.reduceBEq, Nat.ble, bindO, Nat.reduceLeDiff, Int.reduceBEq, Int.reduceBNe, Int.reduceLE, Int.reduceLT, Int.reduceGE, Int.reduceGT, Int.reduceNeg, ks, dT, dT_eq f, dT_eq a, cT]
theorem zoz : Evly fun n => ∀ (f a : Tp) σ, T n n_111 [dT f, dT a] σ = some (.ret ⟨false, dT (.app (.app (.con [45, 62]) f) a)⟩, σ) := zls.step 0 fun n _ h f a σ => by
  rw [T_fun (af := a_127) rfl rfl]
  have h1 := h (.con [45, 62]) f σ
  have h2 := h (.app (.con [45, 62]) f) a σ
  simp only [dT, dT_eq f, dT_eq a, cT] at h1 h2 ⊢
  simp only [a_127, de0, de1, de2, szQ, szB, szL, sy0, sy1, sy2, sy3, sy4, sy5, zad, zaa, zac, zae, adel, zah, zag, zai, zaf, evalV, aget, aset, adel1, nth, AOp.kind, Nat.reduceAdd, Nat.reduceSub, Nat.reduceMul, Nat.reduceBEq, Nat.ble, bindO, Nat.reduceLeDiff, Int.reduceBEq, Int.reduceBNe, Int.reduceLE, Int.reduceLT, Int.reduceGE, Int.reduceGT, Int.reduceNeg, ks, h1, h2]
theorem zawb : Evly fun n => ∀ σ, T n n_201 [] σ = some (.ret ⟨false, .tup [dSs [[65], [66], [67], [68], [69]], dSs [[73, 110, 116], [66, 111, 111, 108], [76]]]⟩, σ) := any _ fun n σ => by
  rw [T_fun (af := a_131) rfl rfl]
  simp only [a_131, de0, de1, de2, szQ, szB, szL, sy0, sy1, sy2, sy3, sy4, sy5, zad, zaa, zac, zae, adel, zah, zag, zai, zaf, evalV, aget, aset, adel1, nth, AOp.kind, Nat.reduceAdd, Nat.reduceSub, Nat.reduceMul, Nat.reduceBEq, Nat.ble, bindO, Nat.reduceLeDiff, Int.reduceBEq, Int.reduceBNe, Int.reduceLE, Int.reduceLT, Int.reduceGE, Int.reduceGT, Int.reduceNeg, ks, dSs, dlist]
end Go.Fu

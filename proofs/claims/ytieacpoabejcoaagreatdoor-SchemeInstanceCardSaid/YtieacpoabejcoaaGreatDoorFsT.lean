/-
 The equations of the small definitions,in bundles.
-/
import Derived.Test.YtieacpoabejcoaaGreatDoorMySz
import Derived.Test.YtieacpoabejcoaaGreatDoorFsCodeL
import Derived.Test.YtieacpoabejcoaaGreatDoorMyFrame
import Derived.Test.YtieacpoabejcoaaGreatDoorMyHas
set_option maxHeartbeats 4000000
set_option linter.unusedSimpArgs false
set_option linter.unusedVariables false
set_option linter.unusedSectionVars false
set_option linter.defProp false
namespace Go.Mx
open Go
theorem de0:(∀ (e:Env) (clr:List Nat),clearEnv e clr={slots:=adel (Env.slots e) clr,locs:=adel (Env.locs e) clr,boxes:=adel (Env.boxes e) clr,defers:=Env.defers e})∧(∀ (x:Nat),mem [] x=false)∧(∀ (x x_2:Nat) (l:List Nat),mem (x_2 :: l) x=ifB (x_2 == x) true (mem l x))∧(∀ (args:List D),initEnv args={slots:=initSlots 0 args,locs:=[],boxes:=[],defers:=[]})∧(∀ (x:Nat),initSlots x []=[])∧(∀ (x:Nat) (d:D) (r:List D),initSlots x (d :: r)=(x,{own:=false,d:=d}) :: initSlots (x + 1) r)∧(∀ (e:Env),wantedA none e=some true)∧(∀ (e:Env) (s:Nat) (want:Bool),wantedA (some (s,want)) e=bindO (aget (Env.slots e) s) fun (c:Cell)=>caseO (D.bool? (Cell.d c)) (ifB (isUndef (Cell.d c)) (some false) none) fun (b:Bool)=>some (b == want))∧(∀ (e:Env) (s:Nat),addr e (AOpd.tmp s)=caseO (aget (Env.locs e) s) (bindO (aget (Env.slots e) s) fun (c:Cell)=>ptrOf (Cell.d c)) fun (p:Nat × Nat)=>some (Ptr.loc (Prod.fst p) (Prod.snd p)))∧(∀ (e:Env) (s:Nat),addr e (AOpd.mv s)=caseO (aget (Env.locs e) s) (bindO (aget (Env.slots e) s) fun (c:Cell)=>ptrOf (Cell.d c)) fun (p:Nat × Nat)=>some (Ptr.loc (Prod.fst p) (Prod.snd p)))∧(∀ (e:Env) (d:D),addr e (AOpd.const d)=ptrOf d)∧(∀ (e:Env) (s:Nat),opd e (AOpd.tmp s)=bindO (aget (Env.slots e) s) fun (c:Cell)=>some {own:=false,d:=Cell.d c})∧(∀ (e:Env) (s:Nat),opd e (AOpd.mv s)=aget (Env.slots e) s)∧(∀ (e:Env) (d:D),opd e (AOpd.const d)=some {own:=false,d:=d})∧(∀ (e:Env),opds e []=some [])∧(∀ (e:Env) (x_1:AOpd) (l:List AOpd),opds e (x_1 :: l)=bindO (opd e x_1) fun (c:Cell)=>bindO (opds e l) fun (ds:List D)=>some (Cell.d c :: ds))∧(∀ (x:Nat),lkill [] x=[])∧(∀ (x k b o:Nat) (r:List (Nat × Nat × Nat)),lkill ((k,b,o) :: r) x=ifB (b == x) (adel1 (lkill r x) k) ((k,b,o) :: lkill r x))∧(∀ (l:List (Nat × Nat × Nat)) (s:Nat),lfree l s=caseO (aget l s) (List.all l fun (p:Nat × Nat × Nat)=>caseO (aget l (Prod.fst p)) true fun (q:Nat × Nat)=>!Prod.fst q == s) fun (x:Nat × Nat)=>false)∧(∀ (cs:List Cell) (off:Nat),readCells cs none off=nth cs off)∧(∀ (cs:List Cell) (off n:Nat),readCells cs (some n) off=bindO (takeC cs off n) fun (l:List D)=>some {own:=false,d:=D.agg l})∧(∀ (e:Env) (c:Cell) (s:Nat),Env.put e (some s) c={slots:=aset (Env.slots e) s c,locs:=adel1 (Env.locs e) s,boxes:=Env.boxes e,defers:=Env.defers e})∧(∀ (e:Env) (c:Cell),Env.put e none c=e)∧(∀ (e:Env) (dst:Option Nat) (c:Cell),Env.putV e dst (Val.c c)=Env.put e dst c)∧(∀ (e:Env) (b off s:Nat),Env.putV e (some s) (Val.l b off)={slots:=adel1 (Env.slots e) s,locs:=aset (Env.locs e) s (b,off),boxes:=Env.boxes e,defers:=Env.defers e})∧(∀ (e:Env) (b off:Nat),Env.putV e none (Val.l b off)=e)∧(∀ (e:Env) (s:Nat) (cs:List Cell),Env.box e s cs={slots:=adel1 (Env.slots e) s,locs:=aset (lkill (Env.locs e) s) s (s,0),boxes:=aset (Env.boxes e) s cs,defers:=Env.defers e})∧(∀ (e:Env),Env.bare e={slots:=[],locs:=[],boxes:=[],defers:=Env.defers e})∧(∀ (e:Env) (x:AOpd),dropOwn (AOp.mov x) e=AOpd.drop e x)∧(∀ (e:Env) (k:Option Nat) (x:AOpd),dropOwn (AOp.load k true x) e=caseO (addr e x) e fun (p:Ptr)=>match p with | Ptr.loc b off=>caseO (aget (Env.boxes e) b) e fun (cs:List Cell)=>{slots:=Env.slots e,locs:=Env.locs e,boxes:=aset (Env.boxes e) b (unownAt cs off),defers:=Env.defers e} | x=>e)∧(∀ (e:Env) (k:Option Nat) (x:AOpd),dropOwn (AOp.loadL k true x) e=caseO (addr e x) e fun (p:Ptr)=>match p with | Ptr.loc b off=>caseO (aget (Env.boxes e) b) e fun (cs:List Cell)=>{slots:=Env.slots e,locs:=Env.locs e,boxes:=aset (Env.boxes e) b (unownAt cs off),defers:=Env.defers e} | x=>e)∧(∀ (op:AOp) (e:Env),(∀ (x:AOpd),op=AOp.mov x→False)→(∀ (k:Option Nat) (x:AOpd),op=AOp.load k true x→False)→(∀ (k:Option Nat) (x:AOpd),op=AOp.loadL k true x→False)→dropOwn op e=e)∧(∀ (e:Env) (σ:Store) (k:Option Nat) (x:AOpd),dropOwnS (AOp.load k true x) e σ=caseO (addr e x) σ fun (p:Ptr)=>match p with | Ptr.ptr id off=>caseO (aget (Store.objs σ) id) σ fun (cs:List Cell)=>{objs:=aset (Store.objs σ) id (unownAt cs off),tys:=Store.tys σ,oth:=Store.oth σ,next:=Store.next σ} | x=>σ)∧(∀ (op:AOp) (e:Env) (σ:Store),(∀ (k:Option Nat) (x:AOpd),op=AOp.load k true x→False)→dropOwnS op e σ=σ)∧(∀ (op:Go.BinOp) (k:Go.IntKind) (a:Int) (k':Go.IntKind) (b:Int),binD op (D.int k a) (D.int k' b)=ifB (sameKind k k') (binInt op k a b) none)∧(∀ (op:Go.BinOp) (a b:List UInt8),binD op (D.str a) (D.str b)=binStr op a b)∧(∀ (op:Go.BinOp) (x x_1:D),(∀ (k:Go.IntKind) (a:Int) (k':Go.IntKind) (b:Int),x=D.int k a→x_1=D.int k' b→False)→(∀ (a b:List UInt8),x=D.str a→x_1=D.str b→False)→binD op x x_1=none)∧(∀ (op:Go.BinOp) (a b:Bool),binBD op (D.bool a) (D.bool b)=binBool op a b)∧(∀ (op:Go.BinOp) (x x_1:D),(∀ (a b:Bool),x=D.bool a→x_1=D.bool b→False)→binBD op x x_1=none)∧(∀ (a b:Bool),binBool Go.BinOp.eql a b=some (D.bool (a == b)))∧(∀ (a b:Bool),binBool Go.BinOp.neq a b=some (D.bool !a == b))∧(∀ (op:Go.BinOp) (a b:Bool),(op=Go.BinOp.eql→False)→(op=Go.BinOp.neq→False)→binBool op a b=none)∧(∀ (k:Go.IntKind) (a b:Int),binInt Go.BinOp.add k a b=some (D.int k (Go.IntKind.wrap k (a + b))))∧(∀ (k:Go.IntKind) (a b:Int),binInt Go.BinOp.sub k a b=some (D.int k (Go.IntKind.wrap k (a - b))))∧(∀ (k:Go.IntKind) (a b:Int),binInt Go.BinOp.mul k a b=some (D.int k (Go.IntKind.wrap k (a * b))))∧(∀ (k:Go.IntKind) (a b:Int),binInt Go.BinOp.quo k a b=ifB (b == 0) none (some (D.int k (Go.IntKind.wrap k (Int.tdiv a b))))) :=
 And.intro @clearEnv.eq_1 (And.intro @mem.eq_1 (And.intro @mem.eq_2 (And.intro @initEnv.eq_1 (And.intro @initSlots.eq_1 (And.intro @initSlots.eq_2 (And.intro @wantedA.eq_1 (And.intro @wantedA.eq_2 (And.intro @addr.eq_1 (And.intro @addr.eq_2 (And.intro @addr.eq_3 (And.intro @opd.eq_1 (And.intro @opd.eq_2 (And.intro @opd.eq_3 (And.intro @opds.eq_1 (And.intro @opds.eq_2 (And.intro @lkill.eq_1 (And.intro @lkill.eq_2 (And.intro @lfree.eq_1 (And.intro @readCells.eq_1 (And.intro @readCells.eq_2 (And.intro @Env.put.eq_1 (And.intro @Env.put.eq_2 (And.intro @Env.putV.eq_1 (And.intro @Env.putV.eq_2 (And.intro @Env.putV.eq_3 (And.intro @Env.box.eq_1 (And.intro @Env.bare.eq_1 (And.intro @dropOwn.eq_1 (And.intro @dropOwn.eq_2 (And.intro @dropOwn.eq_3 (And.intro @dropOwn.eq_4 (And.intro @dropOwnS.eq_1 (And.intro @dropOwnS.eq_2 (And.intro @binD.eq_1 (And.intro @binD.eq_2 (And.intro @binD.eq_3 (And.intro @binBD.eq_1 (And.intro @binBD.eq_2 (And.intro @binBool.eq_1 (And.intro @binBool.eq_2 (And.intro @binBool.eq_3 (And.intro @binInt.eq_1 (And.intro @binInt.eq_2 (And.intro @binInt.eq_3 (@binInt.eq_4)))))))))))))))))))))))))))))))))))))))))))))
theorem de1:(∀ (k:Go.IntKind) (a b:Int),binInt Go.BinOp.rem k a b=ifB (b == 0) none (some (D.int k (Int.tmod a b))))∧(∀ (k:Go.IntKind) (a b:Int),binInt Go.BinOp.eql k a b=some (D.bool (a == b)))∧(∀ (k:Go.IntKind) (a b:Int),binInt Go.BinOp.neq k a b=some (D.bool (a != b)))∧(∀ (k:Go.IntKind) (a b:Int),binInt Go.BinOp.lss k a b=some (D.bool (Decidable.decide (a < b))))∧(∀ (k:Go.IntKind) (a b:Int),binInt Go.BinOp.leq k a b=some (D.bool (Decidable.decide (a≤b))))∧(∀ (k:Go.IntKind) (a b:Int),binInt Go.BinOp.gtr k a b=some (D.bool (Decidable.decide (a > b))))∧(∀ (k:Go.IntKind) (a b:Int),binInt Go.BinOp.geq k a b=some (D.bool (Decidable.decide (a ≥ b))))∧(∀ (op:Go.BinOp) (k:Go.IntKind) (a b:Int),(op=Go.BinOp.add→False)→(op=Go.BinOp.sub→False)→(op=Go.BinOp.mul→False)→(op=Go.BinOp.quo→False)→(op=Go.BinOp.rem→False)→(op=Go.BinOp.eql→False)→(op=Go.BinOp.neq→False)→(op=Go.BinOp.lss→False)→(op=Go.BinOp.leq→False)→(op=Go.BinOp.gtr→False)→(op=Go.BinOp.geq→False)→binInt op k a b=none)∧(∀ (a b:List UInt8),binStr Go.BinOp.add a b=ifB (Decidable.decide (List.length a + List.length b≤281474976710656)) (some (D.str (a ++ b))) none)∧(∀ (a b:List UInt8),binStr Go.BinOp.eql a b=some (D.bool (a == b)))∧(∀ (a b:List UInt8),binStr Go.BinOp.neq a b=some (D.bool !a == b))∧(∀ (a b:List UInt8),binStr Go.BinOp.lss a b=some (D.bool (Go.Op.bytesLess a b)))∧(∀ (a b:List UInt8),binStr Go.BinOp.leq a b=some (D.bool (Go.Op.bytesLess a b || a == b)))∧(∀ (a b:List UInt8),binStr Go.BinOp.gtr a b=some (D.bool !(Go.Op.bytesLess a b || a == b)))∧(∀ (a b:List UInt8),binStr Go.BinOp.geq a b=some (D.bool !Go.Op.bytesLess a b))∧(∀ (op:Go.BinOp) (a b:List UInt8),(op=Go.BinOp.add→False)→(op=Go.BinOp.eql→False)→(op=Go.BinOp.neq→False)→(op=Go.BinOp.lss→False)→(op=Go.BinOp.leq→False)→(op=Go.BinOp.gtr→False)→(op=Go.BinOp.geq→False)→binStr op a b=none)∧(∀ (b:Bool),unD Go.UnOp.not (D.bool b)=some (D.bool !b))∧(∀ (k:Go.IntKind) (n:Int),unD Go.UnOp.neg (D.int k n)=some (D.int k (Go.IntKind.wrap k (0 - n))))∧(∀ (x:Go.UnOp) (x_1:D),(∀ (b:Bool),x=Go.UnOp.not→x_1=D.bool b→False)→(∀ (k:Go.IntKind) (n:Int),x=Go.UnOp.neg→x_1=D.int k n→False)→unD x x_1=none)∧(∀ (mx:Bool) (k:Go.IntKind) (a:Int) (k':Go.IntKind) (b:Int),mmD mx (D.int k a) (D.int k' b)=ifB (sameKind k k') (some (D.int k (ifB mx (ifB (Decidable.decide (a < b)) b a) (ifB (Decidable.decide (b < a)) b a)))) none)∧(∀ (mx:Bool) (x x_1:D),(∀ (k:Go.IntKind) (a:Int) (k':Go.IntKind) (b:Int),x=D.int k a→x_1=D.int k' b→False)→mmD mx x x_1=none)∧(∀ (e:Env) (s:Nat),AOpd.drop e (AOpd.mv s)=caseO (aget (Env.slots e) s) e fun (c:Cell)=>{slots:=aset (Env.slots e) s {own:=false,d:=Cell.d c},locs:=Env.locs e,boxes:=Env.boxes e,defers:=Env.defers e})∧(∀ (e:Env) (x:AOpd),(∀ (s:Nat),x=AOpd.mv s→False)→AOpd.drop e x=e)∧(∀ (d:D),Cell.of d={own:=false,d:=d})∧(∀ (ws:List Nat) (f:Go.FuncId) (args:List AOpd),stableOf (AOp.callW ws f args)=some ws)∧(∀ (ws:List Nat) (x_1:AOpd) (args:List AOpd),stableOf (AOp.callvW ws x_1 args)=some ws)∧(∀ (ws:List Nat) (k:RowK) (by_:Nat) (x_1 y:AOpd),stableOf (AOp.appendW ws k by_ x_1 y)=some ws)∧(∀ (x:AOp),(∀ (ws:List Nat) (f:Go.FuncId) (args:List AOpd),x=AOp.callW ws f args→False)→(∀ (ws:List Nat) (x_1:AOpd) (args:List AOpd),x=AOp.callvW ws x_1 args→False)→(∀ (ws:List Nat) (k:RowK) (by_:Nat) (x_1 y:AOpd),x=AOp.appendW ws k by_ x_1 y→False)→stableOf x=none)∧(sameKind Go.IntKind.i8 Go.IntKind.i8=true)∧(sameKind Go.IntKind.i16 Go.IntKind.i16=true)∧(sameKind Go.IntKind.i32 Go.IntKind.i32=true)∧(sameKind Go.IntKind.i64 Go.IntKind.i64=true)∧(sameKind Go.IntKind.u8 Go.IntKind.u8=true)∧(sameKind Go.IntKind.u16 Go.IntKind.u16=true)∧(sameKind Go.IntKind.u32 Go.IntKind.u32=true)∧(sameKind Go.IntKind.u64 Go.IntKind.u64=true)∧(∀ (x x_1:Go.IntKind),(x=Go.IntKind.i8→x_1=Go.IntKind.i8→False)→(x=Go.IntKind.i16→x_1=Go.IntKind.i16→False)→(x=Go.IntKind.i32→x_1=Go.IntKind.i32→False)→(x=Go.IntKind.i64→x_1=Go.IntKind.i64→False)→(x=Go.IntKind.u8→x_1=Go.IntKind.u8→False)→(x=Go.IntKind.u16→x_1=Go.IntKind.u16→False)→(x=Go.IntKind.u32→x_1=Go.IntKind.u32→False)→(x=Go.IntKind.u64→x_1=Go.IntKind.u64→False)→sameKind x x_1=false)∧(∀ (t:Nat) (z:D) (t':Go.TypeId) (d:D),assertD t z (D.iface t' d)=some (D.tup [ifB (t' == t) d z,D.bool (t' == t)]))∧(∀ (t:Nat) (z:D),assertD t z D.niliface=some (D.tup [z,D.bool false]))∧(∀ (t:Nat) (z x:D),(∀ (t':Go.TypeId) (d:D),x=D.iface t' d→False)→(x=D.niliface→False)→assertD t z x=none)∧(∀ (b:Bool),eqlB Go.BinOp.eql b=some (D.bool b))∧(∀ (b:Bool),eqlB Go.BinOp.neq b=some (D.bool !b))∧(∀ (op:Go.BinOp) (b:Bool),(op=Go.BinOp.eql→False)→(op=Go.BinOp.neq→False)→eqlB op b=none)∧(isUndef D.undef=true)∧(∀ (x:D),(x=D.undef→False)→isUndef x=false)∧(∀ (x:List Cell),takeC x 0 0=some []) :=
 And.intro @binInt.eq_5 (And.intro @binInt.eq_6 (And.intro @binInt.eq_7 (And.intro @binInt.eq_8 (And.intro @binInt.eq_9 (And.intro @binInt.eq_10 (And.intro @binInt.eq_11 (And.intro @binInt.eq_12 (And.intro @binStr.eq_1 (And.intro @binStr.eq_2 (And.intro @binStr.eq_3 (And.intro @binStr.eq_4 (And.intro @binStr.eq_5 (And.intro @binStr.eq_6 (And.intro @binStr.eq_7 (And.intro @binStr.eq_8 (And.intro @unD.eq_1 (And.intro @unD.eq_2 (And.intro @unD.eq_3 (And.intro @mmD.eq_1 (And.intro @mmD.eq_2 (And.intro @AOpd.drop.eq_1 (And.intro @AOpd.drop.eq_2 (And.intro @Cell.of.eq_1 (And.intro @stableOf.eq_1 (And.intro @stableOf.eq_2 (And.intro @stableOf.eq_3 (And.intro @stableOf.eq_4 (And.intro @sameKind.eq_1 (And.intro @sameKind.eq_2 (And.intro @sameKind.eq_3 (And.intro @sameKind.eq_4 (And.intro @sameKind.eq_5 (And.intro @sameKind.eq_6 (And.intro @sameKind.eq_7 (And.intro @sameKind.eq_8 (And.intro @sameKind.eq_9 (And.intro @assertD.eq_1 (And.intro @assertD.eq_2 (And.intro @assertD.eq_3 (And.intro @eqlB.eq_1 (And.intro @eqlB.eq_2 (And.intro @eqlB.eq_3 (And.intro @isUndef.eq_1 (And.intro @isUndef.eq_2 (@takeC.eq_1)))))))))))))))))))))))))))))))))))))))))))))
theorem de2:(∀ (x x_1:Nat),(x=0→x_1=0→False)→takeC [] x x_1=none)∧(∀ (c:Cell) (cs:List Cell) (n:Nat),takeC (c :: cs) 0 (Nat.succ n)=bindO (takeC cs 0 n) fun (l:List D)=>some (Cell.d c :: l))∧(∀ (x:Nat) (head:Cell) (cs:List Cell) (o:Nat),takeC (head :: cs) (Nat.succ o) x=takeC cs o x)∧(∀ (x:Nat),unownAt [] x=[])∧(∀ (c:Cell) (cs:List Cell),unownAt (c :: cs) 0={own:=false,d:=Cell.d c} :: cs)∧(∀ (c:Cell) (cs:List Cell) (n:Nat),unownAt (c :: cs) (Nat.succ n)=c :: unownAt cs n)∧(∀ (c:Cell) (k off:Nat) (cs:List Cell),fits c k off cs=(D.ok (Cell.d c) && List.length (D.cells (Cell.d c)) == k && Decidable.decide (off + k≤List.length cs)))∧(∀ (c:Cell),layCells c=ifB (D.one (Cell.d c)) [c] (List.map Cell.of (D.cells (Cell.d c))))∧(∀ (x:List Cell) (x_1:Nat),putCells x x_1 []=x)∧(∀ (x:Nat) (x_1:List Cell),(x_1=[]→False)→putCells [] x x_1=[])∧(∀ (head:Cell) (cs:List Cell) (x_3:Cell) (new:List Cell),putCells (head :: cs) 0 (x_3 :: new)=x_3 :: putCells cs 0 new)∧(∀ (x:List Cell) (c:Cell) (cs:List Cell) (n:Nat),(x=[]→False)→putCells (c :: cs) (Nat.succ n) x=c :: putCells cs n x)∧(∀ (x:List D) (x_1:Nat),putD x x_1 []=x)∧(∀ (x:Nat) (x_1:List D),(x_1=[]→False)→putD [] x x_1=[])∧(∀ (head:D) (cs:List D) (x_3:D) (new:List D),putD (head :: cs) 0 (x_3 :: new)=x_3 :: putD cs 0 new)∧(∀ (x:List D) (c:D) (cs:List D) (n:Nat),(x=[]→False)→putD (c :: cs) (Nat.succ n) x=c :: putD cs n x)∧(∀ (x:List D),fillD x []=some x)∧(∀ (x:List D) (off n:Nat) (d:D) (r:List (Nat × Nat × D)),fillD x ((off,n,d) :: r)=ifB (D.ok d && List.length (D.cells d) == n && Decidable.decide (off + n≤List.length x)) (fillD (putD x off (D.cells d)) r) none)∧(∀ (e:Env),partsOf e []=some [])∧(∀ (e:Env) (off n:Nat) (x_1:AOpd) (r:List (Nat × Nat × AOpd)),partsOf e ((off,n,x_1) :: r)=bindO (opd e x_1) fun (c:Cell)=>bindO (partsOf e r) fun (l:List (Nat × Nat × D))=>some ((off,n,Cell.d c) :: l))∧(∀ (e:Env) (l:AOpd),optLo e (some l)=bindO (opd e l) fun (c:Cell)=>D.nat? (Cell.d c))∧(∀ (e:Env),optLo e none=some 0)∧(∀ (e:Env) (l:AOpd),optHi e (some l)=bindO (opd e l) fun (c:Cell)=>bindO (D.nat? (Cell.d c)) fun (n:Nat)=>some (some n))∧(∀ (e:Env),optHi e none=some none)∧(∀ (sz:Nat),allSize sz []=true)∧(∀ (sz:Nat) (x_1:D) (es:List D),allSize sz (x_1 :: es)=(D.ok x_1 && List.length (D.cells x_1) == sz && allSize sz es))∧(∀ (R:RecF) (C:CallF) (x:Option D) (x_1:Store),runDefers R C x [] x_1=some (x,x_1))∧(∀ (R:RecF) (C:CallF) (x:Option D) (x_1:Store) (f:Go.FuncId) (az:List D) (r:List (Go.FuncId × List D)),runDefers R C x ((f,az) :: r) x_1=ifB (isY f) (bindO (aget (Store.oth x_1) (f - yldBase)) fun (x_2:Oth)=>match x_2 with | Oth.dfr=>runDefers R C x r {objs:=Store.objs x_1,tys:=Store.tys x_1,oth:=adel1 (Store.oth x_1) (f - yldBase),next:=Store.next x_1} | x=>none) (match R f az x x_1 with | some x=>runDefers R C (Prod.fst x) r (Prod.snd x) | none=>bindO (C f az x_1) fun (o:Out × Store)=>match Prod.fst o with | Out.ret c=>runDefers R C x r (Prod.snd o) | Out.panic d=>none))∧(∀ (e:Env) (σ:Store) (r:ARes),readRes e σ [r]=readRes1 e σ r)∧(∀ (e:Env) (σ:Store) (x:List ARes),(∀ (r:ARes),x=[r]→False)→readRes e σ x=bindO (readRess e σ x) fun (ds:List D)=>some {own:=false,d:=D.tup ds})∧(∀ (e:Env) (σ:Store) (s:Nat),readRes1 e σ (ARes.tmp s)=aget (Env.slots e) s)∧(∀ (e:Env) (σ:Store) (s:Nat) (k:Option Nat),readRes1 e σ (ARes.cell s k)=bindO (addr e (AOpd.tmp s)) fun (p:Ptr)=>match p with | Ptr.loc b off=>bindO (aget (Env.boxes e) b) fun (cs:List Cell)=>readCells cs k off | Ptr.ptr id off=>bindO (aget (Store.objs σ) id) fun (cs:List Cell)=>bindO (readCells cs k off) fun (c:Cell)=>some {own:=false,d:=Cell.d c} | Ptr.eptr d=>none)∧(∀ (e:Env) (σ:Store) (s k:Nat),readRes1 e σ (ARes.cellA s k)=bindO (addr e (AOpd.tmp s)) fun (p:Ptr)=>match p with | Ptr.loc b 0=>bindO (aget (Env.boxes e) b) fun (cs:List Cell)=>ifB (List.length cs == k) (some {own:=firstOwn cs,d:=D.agg (List.map (fun (c:Cell)=>Cell.d c) cs)}) none | x=>none)∧(∀ (e:Env) (σ:Store),readRess e σ []=some [])∧(∀ (e:Env) (σ:Store) (r:ARes) (l:List ARes),readRess e σ (r :: l)=bindO (readRes1 e σ r) fun (c:Cell)=>bindO (readRess e σ l) fun (ds:List D)=>some (Cell.d c :: ds)) :=
 And.intro @takeC.eq_2 (And.intro @takeC.eq_3 (And.intro @takeC.eq_4 (And.intro @unownAt.eq_1 (And.intro @unownAt.eq_2 (And.intro @unownAt.eq_3 (And.intro @fits.eq_1 (And.intro @layCells.eq_1 (And.intro @putCells.eq_1 (And.intro @putCells.eq_2 (And.intro @putCells.eq_3 (And.intro @putCells.eq_4 (And.intro @putD.eq_1 (And.intro @putD.eq_2 (And.intro @putD.eq_3 (And.intro @putD.eq_4 (And.intro @fillD.eq_1 (And.intro @fillD.eq_2 (And.intro @partsOf.eq_1 (And.intro @partsOf.eq_2 (And.intro @optLo.eq_1 (And.intro @optLo.eq_2 (And.intro @optHi.eq_1 (And.intro @optHi.eq_2 (And.intro @allSize.eq_1 (And.intro @allSize.eq_2 (And.intro @runDefers.eq_1 (And.intro @runDefers.eq_2 (And.intro @readRes.eq_1 (And.intro @readRes.eq_2 (And.intro @readRes1.eq_1 (And.intro @readRes1.eq_2 (And.intro @readRes1.eq_3 (And.intro @readRess.eq_1 (@readRess.eq_2))))))))))))))))))))))))))))))))))
theorem szC:(∀ {α β:Type} (n:β) (f:α→β),caseO none n f=n)∧(∀ {α β:Type} (a:α) (n:β) (f:α→β),caseO (some a) n f=f a)∧(∀ {β:Type} (x y:β),ifB true x y=x)∧(∀ {β:Type} (x y:β),ifB false x y=y)∧(∀ {α β:Type} (x:Option α) (f:α→Option β),bindO x f=caseO x none f) :=
 ⟨caseO_none,caseO_some,ifB_true,ifB_false,fun _ _=>rfl⟩
set_option linter.defProp false in
def sA:=And.intro de0 (And.intro de1 (And.intro de2 (And.intro szQ (And.intro szB (And.intro szL (And.intro szC (And.intro sy0 (And.intro sy1 (And.intro sy2 (And.intro sy3 (And.intro sy4 (And.intro sy5 (And.intro sy6 (And.intro @stepOp.eq_1 (And.intro @evalOp.eq_1 (And.intro @evalOp.eq_2 (And.intro @evalOp.eq_3 (And.intro @evalOp.eq_4 (And.intro @evalOp.eq_5 (And.intro @evalOp.eq_6 (And.intro @evalOp.eq_7 (And.intro @evalOp.eq_8 (And.intro @evalOp.eq_9 (And.intro @evalOp.eq_10 (And.intro @evalOp.eq_11 (And.intro @evalOp.eq_12 (And.intro @evalOp.eq_13 (And.intro @evalOp.eq_14 (And.intro @evalOp.eq_15 (And.intro @evalOp.eq_16 (And.intro @evalOp.eq_17 (And.intro @evalOp.eq_18 (And.intro @evalOp.eq_19 (And.intro @evalOp.eq_20 (And.intro @evalOp.eq_21 (And.intro @evalOp.eq_22 (And.intro @evalOp.eq_23 (And.intro @evalOp.eq_24 (And.intro @evalOp.eq_25 (And.intro @evalOp.eq_26 (And.intro @evalOp.eq_27 (And.intro @evalOp.eq_28 (And.intro @evalOp.eq_29 (And.intro @evalOp.eq_30 (And.intro @evalOp.eq_31 (And.intro @evalOp.eq_32 (And.intro @evalOp.eq_33 (And.intro @evalOp.eq_34 (And.intro @evalOp.eq_35 (And.intro @evalOp.eq_36 (And.intro @evalOp.eq_37 (And.intro @evalOp.eq_38 (And.intro @evalOp.eq_39 (And.intro @evalOp.eq_40 (And.intro @callOf.eq_1 (And.intro @callOf.eq_2 (And.intro @callOf.eq_3 (And.intro @callOf.eq_4 (And.intro @callOf.eq_5 (And.intro @callOf.eq_6 (And.intro @panicOf.eq_1 (And.intro @panicOf.eq_2 (And.intro @evalV.eq_1 (And.intro @evalV.eq_2 (And.intro @evalV.eq_3 (And.intro @evalV.eq_4 (And.intro @evalV.eq_5 (And.intro @evalV.eq_6 (And.intro @evalV.eq_7 (And.intro @evalV.eq_8 (And.intro @evalV.eq_9 (And.intro @evalV.eq_10 (And.intro @evalV.eq_11 (And.intro @evalV.eq_12 (And.intro @evalV.eq_13 (And.intro @evalV.eq_14 (And.intro @evalV.eq_15 (And.intro @evalV.eq_16 (And.intro @evalV.eq_17 (And.intro @evalV.eq_18 (And.intro @evalV.eq_19 (And.intro @evalV.eq_20 (And.intro @evalV.eq_21 (And.intro @evalV.eq_22 (And.intro @evalV.eq_23 (And.intro @evalV.eq_24 (And.intro @evalV.eq_25 (And.intro @evalV.eq_26 (And.intro @evalV.eq_27 (And.intro @evalV.eq_28 (And.intro @evalV.eq_29 (And.intro @evalV.eq_30 (And.intro @evalV.eq_31 (And.intro @evalV.eq_32 (And.intro @evalV.eq_33 (And.intro @evalV.eq_34 (And.intro @evalV.eq_35 (And.intro @evalV.eq_36 (And.intro @evalV.eq_37 (And.intro @evalV.eq_38 (And.intro @evalV.eq_39 (And.intro @evalV.eq_40 (And.intro @AOp.kind.eq_1 (And.intro @AOp.kind.eq_2 (And.intro @AOp.kind.eq_3 (And.intro @AOp.kind.eq_4 (And.intro @AOp.kind.eq_5 (And.intro @AOp.kind.eq_6 (And.intro @AOp.kind.eq_7 (And.intro @aget.eq_1 (And.intro @aget.eq_2 (And.intro @aset.eq_1 (And.intro @aset.eq_2 (And.intro @adel.eq_1 (And.intro @adel.eq_2 (And.intro @adel1.eq_1 (And.intro @adel1.eq_2 (And.intro @nth.eq_1 (And.intro @nth.eq_2 (And.intro @nth.eq_3 (And.intro @mt.eq_1 (And.intro @mw.eq_1 (And.intro @mo.eq_1 (And.intro @Nat.ble.eq_1 (And.intro @Nat.ble.eq_2 (@Nat.ble.eq_3))))))))))))))))))))))))))))))))))))))))))))))))))))))))))))))))))))))))))))))))))))))))))))))))))))))))))))))))))))))))))))))
end Go.Mx
namespace Go.Fu
open Go Go.Mx
set_option maxRecDepth 1000000
abbrev OkP (f:FuncId) (ds:List D) (c:Cell):Prop:=Pure Go.Proofs.Tryz.prog κ f ds c
theorem lives_runs:livesA 60 n_66=true:=by kernel_rfl
theorem lives_ok:OkP n_66 [] ⟨false,.bool true⟩:=by
 intro σ
 have h:=lives_runs
 unfold livesA at h
 split at h
 ·rename_i s hx
  exact frame_rule rfl ((run_sound Γa_holds Ra_sound Xa_sound 60).1 _ [] σ0 _ _ hx) rfl rfl σ
 ·cases h
def Γs:FuncId→Option AFun:=fun f=>ifB (f == n_29) (some b_scheme_put) (ifB (f == n_55) (some b_r04_free) (ifB (f == n_22) (some b_r04_Free) (ifB (f == n_17) (some b_r01_Has) (ifB (f == n_132) (some b_l13_may) (Γa f)))))
theorem Γs_holds:Holds Go.Proofs.Tryz.prog Γs:=by
 intro f af h
 unfold Γs at h
 cases h2:f == n_29 with
 | true =>
  rw [h2,ifB_true] at h
  cases h
  have:f=n_29:=by simpa using h2
  subst this
  exact ⟨rfl,_,Go.Proofs.Tryz.func37,okb_scheme_put⟩
 | false =>
  rw [h2,ifB_false] at h
  cases h3:f == n_55 with
  | true =>
   rw [h3,ifB_true] at h
   cases h
   have:f=n_55:=by simpa using h3
   subst this
   exact ⟨rfl,_,Go.Proofs.Tryz.func110,okb_r04_free⟩
  | false =>
   rw [h3,ifB_false] at h
   cases h4:f == n_22 with
   | true =>
    rw [h4,ifB_true] at h
    cases h
    have:f=n_22:=by simpa using h4
    subst this
    exact ⟨rfl,_,Go.Proofs.Tryz.func64,okb_r04_Free⟩
   | false =>
    rw [h4,ifB_false] at h
    cases h5:f == n_17 with
    | true =>
     rw [h5,ifB_true] at h
     cases h
     have:f=n_17:=by simpa using h5
     subst this
     exact ⟨rfl,_,Go.Proofs.Tryz.func67,okb_r01_Has⟩
    | false =>
     rw [h5,ifB_false] at h
     cases h6:f == n_132 with
     | true =>
      rw [h6,ifB_true] at h
      cases h
      have:f=n_132:=by simpa using h6
      subst this
      exact ⟨rfl,_,Go.Proofs.Tryz.func24,okb_l13_may⟩
     | false =>
      rw [h6,ifB_false] at h
      exact Γa_holds f af h
end Go.Fu
namespace Go.Fu
open Go Go.Mx
set_option maxRecDepth 1000000
noncomputable def TS (S:Specs) (n:Nat):CallF:=runS Go.Proofs.Tryz.prog κ Γs Ra Xa S n
noncomputable def TDS (S:Specs) (n:Nat):CallF:=runSD Go.Proofs.Tryz.prog κ Γs Ra Xa S n
def SL:Specs:=[(n_66,fun _ c=>c=⟨false,.bool true⟩)]
noncomputable def T (n:Nat):CallF:=TS SL n
noncomputable def TD (n:Nat):CallF:=TDS SL n
theorem T_sound (n:Nat):CSound Go.Proofs.Tryz.prog κ (T n):=(runS_sound Γs_holds Ra_sound Xa_sound n).1
theorem TS_fun {S:Specs} {n:Nat} {f:FuncId} {af:AFun} {ds:List D} {σ:Store} (hs:has S f=false) (h:Γs f=some af) (hl:ds.length=af.nargs):TS S (n + 1) f ds σ=finX Ra (TDS S n) af σ.next (exec (TS S n) n none af.body (initEnv ds) σ):=runS_fun hs h hl
theorem T_fun {n:Nat} {f:FuncId} {af:AFun} {ds:List D} {σ:Store} (h:Γs f=some af) (hl:ds.length=af.nargs) (hs:has SL f=false:=by rfl):T (n + 1) f ds σ=finX Ra (TD n) af σ.next (exec (T n) n none af.body (initEnv ds) σ):=TS_fun hs h hl
theorem T_lib {n:Nat} {f:FuncId} {ds:List D} {σ:Store} (h:Γs f=none) (hs:has SL f=false:=by rfl) (hY:isY f=false:=by rfl):T (n + 1) f ds σ=Xa f ds σ:=runS_lib hs h hY
theorem any (p:Nat→Prop) (h:∀ n,p (n + 1)):Evly p:=(Evly.all (p:=fun _=>True) fun _=>trivial).step 0 fun n _ _=>h n
theorem lives_run:Evly fun n=>∀ σ,T n n_66 [] σ=some (.ret ⟨false,.bool true⟩,σ):=any _ fun n σ=>by
 obtain ⟨c,h1,h2⟩:=runS_orc (P:=Go.Proofs.Tryz.prog) (κ:=κ) (Γ:=Γs) (R:=Ra) (X:=Xa) (S:=SL) (f:=n_66) (ds:=[]) rfl rfl (s:=fun _ c=>c=⟨false,.bool true⟩) rfl lives_ok
 rw [h1] at h2
 exact h2 n σ
theorem wrap64 {n:Int} (h1:-9223372036854775808≤n) (h2:n≤9223372036854775807):IntKind.i64.wrap n=n:=by
 simp [IntKind.wrap,IntKind.bits,IntKind.signed]
 omega
theorem wrap64_succ {i:Nat} (h:i < 1099511627776):IntKind.i64.wrap ((i:Int) + 1)=((i + 1:Nat):Int):=by
 rw [wrap64 (by omega) (by omega)]
 rfl
theorem nat1 {k:IntKind}:D.nat? (.int k 1)=some 1:=rfl
theorem nat2 {k:IntKind}:D.nat? (.int k 2)=some 2:=rfl
theorem nat3 {k:IntKind}:D.nat? (.int k 3)=some 3:=rfl
theorem nat4 {k:IntKind}:D.nat? (.int k 4)=some 4:=rfl
theorem nat5 {k:IntKind}:D.nat? (.int k 5)=some 5:=rfl
theorem idxL {sz n:Nat} {k:RowK} {es:List D}:indexD sz (.list k es) n=ifB (k.sz == sz) (bindO (nth es n) fun d=>some (.eptr d)) none:=rfl
theorem nat0 {k:IntKind}:D.nat? (.int k 0)=some 0:=rfl
theorem natI (n:Nat) {k:IntKind}:D.nat? (.int k (n:Int))=some n:=by
 simp only [D.nat?]
 have:(0:Int)≤(n:Int):=by omega
 rw [decide_eq_true this]
 rfl
theorem zeroI:((0:Nat):Int)=0:=rfl
def Small (x:Int):Prop:=-9223372036854775808≤x∧x≤9223372036854775807
inductive Tp where
 | hole (n:Int)
 | var (s:List UInt8)
 | con (s:List UInt8)
 | app (f a:Tp)
namespace Tp
def form:Tp→Int
 | .hole _=>1
 | .var _=>2
 | .con _=>3
 | .app _ _=>4
def num:Tp→Int
 | .hole n=>n
 | _=>0
def name:Tp→List UInt8
 | .var s=>s
 | .con s=>s
 | _=>[]
def args:Tp→List Tp
 | .app f a=>[f,a]
 | _=>[]
end Tp
def dT:Tp→D
 | .hole n=>.agg [.int .i64 1,.int .i64 n,.str [],.nils]
 | .var s=>.agg [.int .i64 2,.int .i64 0,.str s,.nils]
 | .con s=>.agg [.int .i64 3,.int .i64 0,.str s,.nils]
 | .app f a=>.agg [.int .i64 4,.int .i64 0,.str [],.list k_1 [dT f,dT a]]
def cT (t:Tp):List D:=[.int .i64 t.form,.int .i64 t.num,.str t.name,dlist k_1 (t.args.map dT)]
theorem dT_eq (t:Tp):dT t=.agg (cT t):=by cases t <;> rfl
theorem cells_dT (t:Tp):(dT t).cells.length=4:=by rw [dT_eq]; rfl
theorem ok_dT:∀ t:Tp,(dT t).ok=true:=by
 intro t
 rw [dT_eq]
 simp only [cT,D.ok,List.all_cons,D.one,one_dlist,List.all_nil,Bool.and_self]
theorem args_len (t:Tp):t.args.length≤2:=by cases t <;> simp [Tp.args]
structure Pr where
 cls:List UInt8
 ty:Tp
def dP (p:Pr):D:=.agg (.str p.cls :: cT p.ty)
theorem dP_eq (p:Pr):dP p=.agg [.str p.cls,.int .i64 p.ty.form,.int .i64 p.ty.num,.str p.ty.name,dlist k_1 (p.ty.args.map dT)]:=rfl
def dTs (l:List Tp):D:=dlist k_1 (l.map dT)
def dPs (l:List Pr):D:=dlist k_3 (l.map dP)
def dSs (l:List (List UInt8)):D:=dlist k_0 (l.map D.str)
theorem ok_dP (p:Pr):(dP p).ok=true:=by
 simp only [dP,cT,D.ok,List.all_cons,D.one,one_dlist,List.all_nil,Bool.and_self]
theorem cells_dP (p:Pr):(dP p).cells.length=5:=rfl
theorem idx_map {α:Type} {k:RowK} {sz:Nat} (hs:k.sz=sz) (f:α→D) (l:List α) (i:Nat) (h:i < l.length):indexD sz (dlist k (l.map f)) i=some (.eptr (f l[i])):=by
 have hn:nth (l.map f) i=some (f l[i]):=by rw [nth_map,nth_get _ _ h]; rfl
 cases l with
 | nil=>simp at h
 | cons x r =>
  simp only [List.map_cons,dlist,indexD,hs,beq_self_eq_true,ifB_true] at hn ⊢
  rw [hn]
  rfl
theorem idx_T (l:List Tp) (i:Nat) (h:i < l.length):indexD 4 (dlist k_1 (l.map dT)) i=some (.eptr (dT l[i])):=idx_map rfl _ _ _ h
theorem idx_P (l:List Pr) (i:Nat) (h:i < l.length):indexD 5 (dlist k_3 (l.map dP)) i=some (.eptr (dP l[i])):=idx_map rfl _ _ _ h
theorem idx_S (l:List (List UInt8)) (i:Nat) (h:i < l.length):indexD 1 (dlist k_0 (l.map D.str)) i=some (.eptr (.str l[i])):=idx_map rfl _ _ _ h
theorem append_T (l:List Tp) (v:Tp) (o:Bool) (ho:l≠[]→o=true) (hl:l.length < 1048576):appendD k_1 56 ⟨o,dlist k_1 (l.map dT)⟩ [dT v]=some ⟨true,dlist k_1 ((l ++ [v]).map dT)⟩:=by
 rw [append_one (fun h=>ho (by simpa using h)) (ok_dT _) (cells_dT _) (by simp [bound]; omega) (by simp [bound]; omega)]
 simp
theorem append_P (l:List Pr) (v:Pr) (o:Bool) (ho:l≠[]→o=true) (hl:l.length < 1048576):appendD k_3 72 ⟨o,dlist k_3 (l.map dP)⟩ [dP v]=some ⟨true,dlist k_3 ((l ++ [v]).map dP)⟩:=by
 rw [append_one (fun h=>ho (by simpa using h)) (ok_dP _) (cells_dP _) (by simp [bound]; omega) (by simp [bound]; omega)]
 simp
theorem append_S (l:List (List UInt8)) (v:List UInt8) (o:Bool) (ho:l≠[]→o=true) (hl:l.length < 1048576):appendD k_0 16 ⟨o,dlist k_0 (l.map D.str)⟩ [.str v]=some ⟨true,dlist k_0 ((l ++ [v]).map D.str)⟩:=by
 rw [append_one (fun h=>ho (by simpa using h)) rfl rfl (by simp [bound]; omega) (by simp [bound]; omega)]
 simp
def ow:Nat→Bool
 | 0=>false
 | _ + 1=>true
set_option linter.defProp false in
def kn:=(And.intro (And.intro (And.intro (And.intro (And.intro k_300 k_298) (And.intro k_299 (And.intro k_303 k_301))) (And.intro (And.intro k_302 (And.intro k_306 k_304)) (And.intro k_305 (And.intro k_309 k_307)))) (And.intro (And.intro (And.intro k_308 (And.intro k_312 k_310)) (And.intro k_311 (And.intro k_315 k_313))) (And.intro (And.intro k_314 (And.intro k_318 k_316)) (And.intro k_317 (And.intro k_321 k_319))))) (And.intro (And.intro (And.intro (And.intro k_320 k_324) (And.intro k_322 (And.intro k_323 k_327))) (And.intro (And.intro k_325 (And.intro k_326 k_180)) (And.intro k_328 (And.intro k_329 k_63)))) (And.intro (And.intro (And.intro k_330 (And.intro k_331 k_334)) (And.intro k_332 (And.intro k_333 @nat0))) (And.intro (And.intro @nat1 (And.intro @nat2 @nat3)) (And.intro @nat4 (And.intro @nat5 @idxL))))))
end Go.Fu

/-
 The equations of the small definitions,in bundles.
-/
import Derived.Test.YtieacpoabejcoaaGreatDoorMySz
import Derived.Test.YtieacpoabejcoaaGreatDoorFsCodeB
import Derived.Test.YtieacpoabejcoaaGreatDoorMyFrame
import Derived.Test.YtieacpoabejcoaaGreatDoorMyHas
set_option maxHeartbeats 4000000
set_option linter.unusedSimpArgs false
set_option linter.unusedVariables false
set_option linter.unusedSectionVars false
set_option linter.defProp false
namespace Go.Mx
open Go
theorem de0:(∀ (e:Env) (clr:List Nat),clearEnv e clr={slots:=adel (Env.slots e) clr,locs:=adel (Env.locs e) clr,boxes:=adel (Env.boxes e) clr,defers:=Env.defers e})∧(∀ (x:Nat),mem [] x=false)∧(∀ (x x_2:Nat) (l:List Nat),mem (x_2 :: l) x=ifB (x_2 == x) true (mem l x))∧(∀ (args:List D),zch args={slots:=zdb 0 args,locs:=[],boxes:=[],defers:=[]})∧(∀ (x:Nat),zdb x []=[])∧(∀ (x:Nat) (d:D) (r:List D),zdb x (d :: r)=(x,{own:=false,d:=d}) :: zdb (x + 1) r)∧(∀ (e:Env),zb4 none e=some true)∧(∀ (e:Env) (s:Nat) (want:Bool),zb4 (some (s,want)) e=bindO (aget (Env.slots e) s) fun (c:Cell)=>caseO (D.bool? (Cell.d c)) (ifB (zg5 (Cell.d c)) (some false) none) fun (b:Bool)=>some (b == want))∧(∀ (e:Env) (s:Nat),addr e (AOpd.tmp s)=caseO (aget (Env.locs e) s) (bindO (aget (Env.slots e) s) fun (c:Cell)=>ptrOf (Cell.d c)) fun (p:Nat × Nat)=>some (Ptr.loc (Prod.fst p) (Prod.snd p)))∧(∀ (e:Env) (s:Nat),addr e (AOpd.mv s)=caseO (aget (Env.locs e) s) (bindO (aget (Env.slots e) s) fun (c:Cell)=>ptrOf (Cell.d c)) fun (p:Nat × Nat)=>some (Ptr.loc (Prod.fst p) (Prod.snd p)))∧(∀ (e:Env) (d:D),addr e (AOpd.const d)=ptrOf d)∧(∀ (e:Env) (s:Nat),opd e (AOpd.tmp s)=bindO (aget (Env.slots e) s) fun (c:Cell)=>some {own:=false,d:=Cell.d c})∧(∀ (e:Env) (s:Nat),opd e (AOpd.mv s)=aget (Env.slots e) s)∧(∀ (e:Env) (d:D),opd e (AOpd.const d)=some {own:=false,d:=d})∧(∀ (e:Env),opds e []=some [])∧(∀ (e:Env) (x_1:AOpd) (l:List AOpd),opds e (x_1 :: l)=bindO (opd e x_1) fun (c:Cell)=>bindO (opds e l) fun (ds:List D)=>some (Cell.d c :: ds))∧(∀ (x:Nat),lkill [] x=[])∧(∀ (x k b o:Nat) (r:List (Nat × Nat × Nat)),lkill ((k,b,o) :: r) x=ifB (b == x) (adel1 (lkill r x) k) ((k,b,o) :: lkill r x))∧(∀ (l:List (Nat × Nat × Nat)) (s:Nat),lfree l s=caseO (aget l s) (List.all l fun (p:Nat × Nat × Nat)=>caseO (aget l (Prod.fst p)) true fun (q:Nat × Nat)=>!Prod.fst q == s) fun (x:Nat × Nat)=>false)∧(∀ (cs:List Cell) (off:Nat),zar cs none off=nth cs off)∧(∀ (cs:List Cell) (off n:Nat),zar cs (some n) off=bindO (takeC cs off n) fun (l:List D)=>some {own:=false,d:=D.agg l})∧(∀ (e:Env) (c:Cell) (s:Nat),Env.put e (some s) c={slots:=aset (Env.slots e) s c,locs:=adel1 (Env.locs e) s,boxes:=Env.boxes e,defers:=Env.defers e})∧(∀ (e:Env) (c:Cell),Env.put e none c=e)∧(∀ (e:Env) (dst:Option Nat) (c:Cell),Env.putV e dst (Val.c c)=Env.put e dst c)∧(∀ (e:Env) (b off s:Nat),Env.putV e (some s) (Val.l b off)={slots:=adel1 (Env.slots e) s,locs:=aset (Env.locs e) s (b,off),boxes:=Env.boxes e,defers:=Env.defers e})∧(∀ (e:Env) (b off:Nat),Env.putV e none (Val.l b off)=e)∧(∀ (e:Env) (s:Nat) (cs:List Cell),Env.box e s cs={slots:=adel1 (Env.slots e) s,locs:=aset (lkill (Env.locs e) s) s (s,0),boxes:=aset (Env.boxes e) s cs,defers:=Env.defers e})∧(∀ (e:Env),Env.bare e={slots:=[],locs:=[],boxes:=[],defers:=Env.defers e})∧(∀ (e:Env) (x:AOpd),zbd (AOp.mov x) e=AOpd.drop e x)∧(∀ (e:Env) (k:Option Nat) (x:AOpd),zbd (AOp.load k true x) e=caseO (addr e x) e fun (p:Ptr)=>match p with | Ptr.loc b off=>caseO (aget (Env.boxes e) b) e fun (cs:List Cell)=>{slots:=Env.slots e,locs:=Env.locs e,boxes:=aset (Env.boxes e) b (zay cs off),defers:=Env.defers e} | x=>e)∧(∀ (e:Env) (k:Option Nat) (x:AOpd),zbd (AOp.loadL k true x) e=caseO (addr e x) e fun (p:Ptr)=>match p with | Ptr.loc b off=>caseO (aget (Env.boxes e) b) e fun (cs:List Cell)=>{slots:=Env.slots e,locs:=Env.locs e,boxes:=aset (Env.boxes e) b (zay cs off),defers:=Env.defers e} | x=>e)∧(∀ (op:AOp) (e:Env),(∀ (x:AOpd),op=AOp.mov x→False)→(∀ (k:Option Nat) (x:AOpd),op=AOp.load k true x→False)→(∀ (k:Option Nat) (x:AOpd),op=AOp.loadL k true x→False)→zbd op e=e)∧(∀ (e:Env) (σ:Store) (k:Option Nat) (x:AOpd),zbi (AOp.load k true x) e σ=caseO (addr e x) σ fun (p:Ptr)=>match p with | Ptr.ptr id off=>caseO (aget (Store.objs σ) id) σ fun (cs:List Cell)=>{objs:=aset (Store.objs σ) id (zay cs off),tys:=Store.tys σ,oth:=Store.oth σ,next:=Store.next σ} | x=>σ)∧(∀ (op:AOp) (e:Env) (σ:Store),(∀ (k:Option Nat) (x:AOpd),op=AOp.load k true x→False)→zbi op e σ=σ)∧(∀ (op:Go.BinOp) (k:Go.IntKind) (a:Int) (k':Go.IntKind) (b:Int),binD op (D.int k a) (D.int k' b)=ifB (za1 k k') (zbg op k a b) none)∧(∀ (op:Go.BinOp) (a b:List UInt8),binD op (D.str a) (D.str b)=zcj op a b)∧(∀ (op:Go.BinOp) (x x_1:D),(∀ (k:Go.IntKind) (a:Int) (k':Go.IntKind) (b:Int),x=D.int k a→x_1=D.int k' b→False)→(∀ (a b:List UInt8),x=D.str a→x_1=D.str b→False)→binD op x x_1=none)∧(∀ (op:Go.BinOp) (a b:Bool),binBD op (D.bool a) (D.bool b)=zfa op a b)∧(∀ (op:Go.BinOp) (x x_1:D),(∀ (a b:Bool),x=D.bool a→x_1=D.bool b→False)→binBD op x x_1=none)∧(∀ (a b:Bool),zfa Go.BinOp.eql a b=some (D.bool (a == b)))∧(∀ (a b:Bool),zfa Go.BinOp.neq a b=some (D.bool !a == b))∧(∀ (op:Go.BinOp) (a b:Bool),(op=Go.BinOp.eql→False)→(op=Go.BinOp.neq→False)→zfa op a b=none)∧(∀ (k:Go.IntKind) (a b:Int),zbg Go.BinOp.add k a b=some (D.int k (Go.IntKind.wrap k (a + b))))∧(∀ (k:Go.IntKind) (a b:Int),zbg Go.BinOp.sub k a b=some (D.int k (Go.IntKind.wrap k (a - b))))∧(∀ (k:Go.IntKind) (a b:Int),zbg Go.BinOp.mul k a b=some (D.int k (Go.IntKind.wrap k (a * b))))∧(∀ (k:Go.IntKind) (a b:Int),zbg Go.BinOp.quo k a b=ifB (b == 0) none (some (D.int k (Go.IntKind.wrap k (Int.tdiv a b))))) :=
 And.intro @clearEnv.eq_1 (And.intro @mem.eq_1 (And.intro @mem.eq_2 (And.intro @zch.eq_1 (And.intro @zdb.eq_1 (And.intro @zdb.eq_2 (And.intro @zb4.eq_1 (And.intro @zb4.eq_2 (And.intro @addr.eq_1 (And.intro @addr.eq_2 (And.intro @addr.eq_3 (And.intro @opd.eq_1 (And.intro @opd.eq_2 (And.intro @opd.eq_3 (And.intro @opds.eq_1 (And.intro @opds.eq_2 (And.intro @lkill.eq_1 (And.intro @lkill.eq_2 (And.intro @lfree.eq_1 (And.intro @zar.eq_1 (And.intro @zar.eq_2 (And.intro @Env.put.eq_1 (And.intro @Env.put.eq_2 (And.intro @Env.putV.eq_1 (And.intro @Env.putV.eq_2 (And.intro @Env.putV.eq_3 (And.intro @Env.box.eq_1 (And.intro @Env.bare.eq_1 (And.intro @zbd.eq_1 (And.intro @zbd.eq_2 (And.intro @zbd.eq_3 (And.intro @zbd.eq_4 (And.intro @zbi.eq_1 (And.intro @zbi.eq_2 (And.intro @binD.eq_1 (And.intro @binD.eq_2 (And.intro @binD.eq_3 (And.intro @binBD.eq_1 (And.intro @binBD.eq_2 (And.intro @zfa.eq_1 (And.intro @zfa.eq_2 (And.intro @zfa.eq_3 (And.intro @zbg.eq_1 (And.intro @zbg.eq_2 (And.intro @zbg.eq_3 (@zbg.eq_4)))))))))))))))))))))))))))))))))))))))))))))
theorem de1:(∀ (k:Go.IntKind) (a b:Int),zbg Go.BinOp.rem k a b=ifB (b == 0) none (some (D.int k (Int.tmod a b))))∧(∀ (k:Go.IntKind) (a b:Int),zbg Go.BinOp.eql k a b=some (D.bool (a == b)))∧(∀ (k:Go.IntKind) (a b:Int),zbg Go.BinOp.neq k a b=some (D.bool (a != b)))∧(∀ (k:Go.IntKind) (a b:Int),zbg Go.BinOp.lss k a b=some (D.bool (Decidable.decide (a < b))))∧(∀ (k:Go.IntKind) (a b:Int),zbg Go.BinOp.leq k a b=some (D.bool (Decidable.decide (a≤b))))∧(∀ (k:Go.IntKind) (a b:Int),zbg Go.BinOp.gtr k a b=some (D.bool (Decidable.decide (a > b))))∧(∀ (k:Go.IntKind) (a b:Int),zbg Go.BinOp.geq k a b=some (D.bool (Decidable.decide (a ≥ b))))∧(∀ (op:Go.BinOp) (k:Go.IntKind) (a b:Int),(op=Go.BinOp.add→False)→(op=Go.BinOp.sub→False)→(op=Go.BinOp.mul→False)→(op=Go.BinOp.quo→False)→(op=Go.BinOp.rem→False)→(op=Go.BinOp.eql→False)→(op=Go.BinOp.neq→False)→(op=Go.BinOp.lss→False)→(op=Go.BinOp.leq→False)→(op=Go.BinOp.gtr→False)→(op=Go.BinOp.geq→False)→zbg op k a b=none)∧(∀ (a b:List UInt8),zcj Go.BinOp.add a b=ifB (Decidable.decide (List.length a + List.length b≤281474976710656)) (some (D.str (a ++ b))) none)∧(∀ (a b:List UInt8),zcj Go.BinOp.eql a b=some (D.bool (a == b)))∧(∀ (a b:List UInt8),zcj Go.BinOp.neq a b=some (D.bool !a == b))∧(∀ (a b:List UInt8),zcj Go.BinOp.lss a b=some (D.bool (Go.Op.bytesLess a b)))∧(∀ (a b:List UInt8),zcj Go.BinOp.leq a b=some (D.bool (Go.Op.bytesLess a b || a == b)))∧(∀ (a b:List UInt8),zcj Go.BinOp.gtr a b=some (D.bool !(Go.Op.bytesLess a b || a == b)))∧(∀ (a b:List UInt8),zcj Go.BinOp.geq a b=some (D.bool !Go.Op.bytesLess a b))∧(∀ (op:Go.BinOp) (a b:List UInt8),(op=Go.BinOp.add→False)→(op=Go.BinOp.eql→False)→(op=Go.BinOp.neq→False)→(op=Go.BinOp.lss→False)→(op=Go.BinOp.leq→False)→(op=Go.BinOp.gtr→False)→(op=Go.BinOp.geq→False)→zcj op a b=none)∧(∀ (b:Bool),unD Go.UnOp.not (D.bool b)=some (D.bool !b))∧(∀ (k:Go.IntKind) (n:Int),unD Go.UnOp.neg (D.int k n)=some (D.int k (Go.IntKind.wrap k (0 - n))))∧(∀ (x:Go.UnOp) (x_1:D),(∀ (b:Bool),x=Go.UnOp.not→x_1=D.bool b→False)→(∀ (k:Go.IntKind) (n:Int),x=Go.UnOp.neg→x_1=D.int k n→False)→unD x x_1=none)∧(∀ (mx:Bool) (k:Go.IntKind) (a:Int) (k':Go.IntKind) (b:Int),mmD mx (D.int k a) (D.int k' b)=ifB (za1 k k') (some (D.int k (ifB mx (ifB (Decidable.decide (a < b)) b a) (ifB (Decidable.decide (b < a)) b a)))) none)∧(∀ (mx:Bool) (x x_1:D),(∀ (k:Go.IntKind) (a:Int) (k':Go.IntKind) (b:Int),x=D.int k a→x_1=D.int k' b→False)→mmD mx x x_1=none)∧(∀ (e:Env) (s:Nat),AOpd.drop e (AOpd.mv s)=caseO (aget (Env.slots e) s) e fun (c:Cell)=>{slots:=aset (Env.slots e) s {own:=false,d:=Cell.d c},locs:=Env.locs e,boxes:=Env.boxes e,defers:=Env.defers e})∧(∀ (e:Env) (x:AOpd),(∀ (s:Nat),x=AOpd.mv s→False)→AOpd.drop e x=e)∧(∀ (d:D),Cell.of d={own:=false,d:=d})∧(∀ (ws:List Nat) (f:Go.FuncId) (args:List AOpd),stableOf (AOp.callW ws f args)=some ws)∧(∀ (ws:List Nat) (x_1:AOpd) (args:List AOpd),stableOf (AOp.callvW ws x_1 args)=some ws)∧(∀ (ws:List Nat) (k:RowK) (by_:Nat) (x_1 y:AOpd),stableOf (AOp.appendW ws k by_ x_1 y)=some ws)∧(∀ (x:AOp),(∀ (ws:List Nat) (f:Go.FuncId) (args:List AOpd),x=AOp.callW ws f args→False)→(∀ (ws:List Nat) (x_1:AOpd) (args:List AOpd),x=AOp.callvW ws x_1 args→False)→(∀ (ws:List Nat) (k:RowK) (by_:Nat) (x_1 y:AOpd),x=AOp.appendW ws k by_ x_1 y→False)→stableOf x=none)∧(za1 Go.IntKind.i8 Go.IntKind.i8=true)∧(za1 Go.IntKind.i16 Go.IntKind.i16=true)∧(za1 Go.IntKind.i32 Go.IntKind.i32=true)∧(za1 Go.IntKind.i64 Go.IntKind.i64=true)∧(za1 Go.IntKind.u8 Go.IntKind.u8=true)∧(za1 Go.IntKind.u16 Go.IntKind.u16=true)∧(za1 Go.IntKind.u32 Go.IntKind.u32=true)∧(za1 Go.IntKind.u64 Go.IntKind.u64=true)∧(∀ (x x_1:Go.IntKind),(x=Go.IntKind.i8→x_1=Go.IntKind.i8→False)→(x=Go.IntKind.i16→x_1=Go.IntKind.i16→False)→(x=Go.IntKind.i32→x_1=Go.IntKind.i32→False)→(x=Go.IntKind.i64→x_1=Go.IntKind.i64→False)→(x=Go.IntKind.u8→x_1=Go.IntKind.u8→False)→(x=Go.IntKind.u16→x_1=Go.IntKind.u16→False)→(x=Go.IntKind.u32→x_1=Go.IntKind.u32→False)→(x=Go.IntKind.u64→x_1=Go.IntKind.u64→False)→za1 x x_1=false)∧(∀ (t:Nat) (z:D) (t':Go.TypeId) (d:D),ze8 t z (D.iface t' d)=some (D.tup [ifB (t' == t) d z,D.bool (t' == t)]))∧(∀ (t:Nat) (z:D),ze8 t z D.niliface=some (D.tup [z,D.bool false]))∧(∀ (t:Nat) (z x:D),(∀ (t':Go.TypeId) (d:D),x=D.iface t' d→False)→(x=D.niliface→False)→ze8 t z x=none)∧(∀ (b:Bool),eqlB Go.BinOp.eql b=some (D.bool b))∧(∀ (b:Bool),eqlB Go.BinOp.neq b=some (D.bool !b))∧(∀ (op:Go.BinOp) (b:Bool),(op=Go.BinOp.eql→False)→(op=Go.BinOp.neq→False)→eqlB op b=none)∧(zg5 D.undef=true)∧(∀ (x:D),(x=D.undef→False)→zg5 x=false)∧(∀ (x:List Cell),takeC x 0 0=some []) :=
 And.intro @zbg.eq_5 (And.intro @zbg.eq_6 (And.intro @zbg.eq_7 (And.intro @zbg.eq_8 (And.intro @zbg.eq_9 (And.intro @zbg.eq_10 (And.intro @zbg.eq_11 (And.intro @zbg.eq_12 (And.intro @zcj.eq_1 (And.intro @zcj.eq_2 (And.intro @zcj.eq_3 (And.intro @zcj.eq_4 (And.intro @zcj.eq_5 (And.intro @zcj.eq_6 (And.intro @zcj.eq_7 (And.intro @zcj.eq_8 (And.intro @unD.eq_1 (And.intro @unD.eq_2 (And.intro @unD.eq_3 (And.intro @mmD.eq_1 (And.intro @mmD.eq_2 (And.intro @AOpd.drop.eq_1 (And.intro @AOpd.drop.eq_2 (And.intro @Cell.of.eq_1 (And.intro @stableOf.eq_1 (And.intro @stableOf.eq_2 (And.intro @stableOf.eq_3 (And.intro @stableOf.eq_4 (And.intro @za1.eq_1 (And.intro @za1.eq_2 (And.intro @za1.eq_3 (And.intro @za1.eq_4 (And.intro @za1.eq_5 (And.intro @za1.eq_6 (And.intro @za1.eq_7 (And.intro @za1.eq_8 (And.intro @za1.eq_9 (And.intro @ze8.eq_1 (And.intro @ze8.eq_2 (And.intro @ze8.eq_3 (And.intro @eqlB.eq_1 (And.intro @eqlB.eq_2 (And.intro @eqlB.eq_3 (And.intro @zg5.eq_1 (And.intro @zg5.eq_2 (@takeC.eq_1)))))))))))))))))))))))))))))))))))))))))))))
theorem de2:(∀ (x x_1:Nat),(x=0→x_1=0→False)→takeC [] x x_1=none)∧(∀ (c:Cell) (cs:List Cell) (n:Nat),takeC (c :: cs) 0 (Nat.succ n)=bindO (takeC cs 0 n) fun (l:List D)=>some (Cell.d c :: l))∧(∀ (x:Nat) (head:Cell) (cs:List Cell) (o:Nat),takeC (head :: cs) (Nat.succ o) x=takeC cs o x)∧(∀ (x:Nat),zay [] x=[])∧(∀ (c:Cell) (cs:List Cell),zay (c :: cs) 0={own:=false,d:=Cell.d c} :: cs)∧(∀ (c:Cell) (cs:List Cell) (n:Nat),zay (c :: cs) (Nat.succ n)=c :: zay cs n)∧(∀ (c:Cell) (k off:Nat) (cs:List Cell),fits c k off cs=(D.ok (Cell.d c) && List.length (D.cells (Cell.d c)) == k && Decidable.decide (off + k≤List.length cs)))∧(∀ (c:Cell),za7 c=ifB (D.one (Cell.d c)) [c] (List.map Cell.of (D.cells (Cell.d c))))∧(∀ (x:List Cell) (x_1:Nat),zan x x_1 []=x)∧(∀ (x:Nat) (x_1:List Cell),(x_1=[]→False)→zan [] x x_1=[])∧(∀ (head:Cell) (cs:List Cell) (x_3:Cell) (new:List Cell),zan (head :: cs) 0 (x_3 :: new)=x_3 :: zan cs 0 new)∧(∀ (x:List Cell) (c:Cell) (cs:List Cell) (n:Nat),(x=[]→False)→zan (c :: cs) (Nat.succ n) x=c :: zan cs n x)∧(∀ (x:List D) (x_1:Nat),putD x x_1 []=x)∧(∀ (x:Nat) (x_1:List D),(x_1=[]→False)→putD [] x x_1=[])∧(∀ (head:D) (cs:List D) (x_3:D) (new:List D),putD (head :: cs) 0 (x_3 :: new)=x_3 :: putD cs 0 new)∧(∀ (x:List D) (c:D) (cs:List D) (n:Nat),(x=[]→False)→putD (c :: cs) (Nat.succ n) x=c :: putD cs n x)∧(∀ (x:List D),fillD x []=some x)∧(∀ (x:List D) (off n:Nat) (d:D) (r:List (Nat × Nat × D)),fillD x ((off,n,d) :: r)=ifB (D.ok d && List.length (D.cells d) == n && Decidable.decide (off + n≤List.length x)) (fillD (putD x off (D.cells d)) r) none)∧(∀ (e:Env),zcz e []=some [])∧(∀ (e:Env) (off n:Nat) (x_1:AOpd) (r:List (Nat × Nat × AOpd)),zcz e ((off,n,x_1) :: r)=bindO (opd e x_1) fun (c:Cell)=>bindO (zcz e r) fun (l:List (Nat × Nat × D))=>some ((off,n,Cell.d c) :: l))∧(∀ (e:Env) (l:AOpd),optLo e (some l)=bindO (opd e l) fun (c:Cell)=>D.nat? (Cell.d c))∧(∀ (e:Env),optLo e none=some 0)∧(∀ (e:Env) (l:AOpd),optHi e (some l)=bindO (opd e l) fun (c:Cell)=>bindO (D.nat? (Cell.d c)) fun (n:Nat)=>some (some n))∧(∀ (e:Env),optHi e none=some none)∧(∀ (sz:Nat),zau sz []=true)∧(∀ (sz:Nat) (x_1:D) (es:List D),zau sz (x_1 :: es)=(D.ok x_1 && List.length (D.cells x_1) == sz && zau sz es))∧(∀ (R:RecF) (C:CallF) (x:Option D) (x_1:Store),runDefers R C x [] x_1=some (x,x_1))∧(∀ (R:RecF) (C:CallF) (x:Option D) (x_1:Store) (f:Go.FuncId) (az:List D) (r:List (Go.FuncId × List D)),runDefers R C x ((f,az) :: r) x_1=ifB (isY f) (bindO (aget (Store.oth x_1) (f - yldBase)) fun (x_2:Oth)=>match x_2 with | Oth.dfr=>runDefers R C x r {objs:=Store.objs x_1,tys:=Store.tys x_1,oth:=adel1 (Store.oth x_1) (f - yldBase),next:=Store.next x_1} | x=>none) (match R f az x x_1 with | some x=>runDefers R C (Prod.fst x) r (Prod.snd x) | none=>bindO (C f az x_1) fun (o:Out × Store)=>match Prod.fst o with | Out.ret c=>runDefers R C x r (Prod.snd o) | Out.panic d=>none))∧(∀ (e:Env) (σ:Store) (r:ARes),readRes e σ [r]=zcv e σ r)∧(∀ (e:Env) (σ:Store) (x:List ARes),(∀ (r:ARes),x=[r]→False)→readRes e σ x=bindO (zck e σ x) fun (ds:List D)=>some {own:=false,d:=D.tup ds})∧(∀ (e:Env) (σ:Store) (s:Nat),zcv e σ (ARes.tmp s)=aget (Env.slots e) s)∧(∀ (e:Env) (σ:Store) (s:Nat) (k:Option Nat),zcv e σ (ARes.cell s k)=bindO (addr e (AOpd.tmp s)) fun (p:Ptr)=>match p with | Ptr.loc b off=>bindO (aget (Env.boxes e) b) fun (cs:List Cell)=>zar cs k off | Ptr.ptr id off=>bindO (aget (Store.objs σ) id) fun (cs:List Cell)=>bindO (zar cs k off) fun (c:Cell)=>some {own:=false,d:=Cell.d c} | Ptr.eptr d=>none)∧(∀ (e:Env) (σ:Store) (s k:Nat),zcv e σ (ARes.cellA s k)=bindO (addr e (AOpd.tmp s)) fun (p:Ptr)=>match p with | Ptr.loc b 0=>bindO (aget (Env.boxes e) b) fun (cs:List Cell)=>ifB (List.length cs == k) (some {own:=firstOwn cs,d:=D.agg (List.map (fun (c:Cell)=>Cell.d c) cs)}) none | x=>none)∧(∀ (e:Env) (σ:Store),zck e σ []=some [])∧(∀ (e:Env) (σ:Store) (r:ARes) (l:List ARes),zck e σ (r :: l)=bindO (zcv e σ r) fun (c:Cell)=>bindO (zck e σ l) fun (ds:List D)=>some (Cell.d c :: ds)) :=
 And.intro @takeC.eq_2 (And.intro @takeC.eq_3 (And.intro @takeC.eq_4 (And.intro @zay.eq_1 (And.intro @zay.eq_2 (And.intro @zay.eq_3 (And.intro @fits.eq_1 (And.intro @za7.eq_1 (And.intro @zan.eq_1 (And.intro @zan.eq_2 (And.intro @zan.eq_3 (And.intro @zan.eq_4 (And.intro @putD.eq_1 (And.intro @putD.eq_2 (And.intro @putD.eq_3 (And.intro @putD.eq_4 (And.intro @fillD.eq_1 (And.intro @fillD.eq_2 (And.intro @zcz.eq_1 (And.intro @zcz.eq_2 (And.intro @optLo.eq_1 (And.intro @optLo.eq_2 (And.intro @optHi.eq_1 (And.intro @optHi.eq_2 (And.intro @zau.eq_1 (And.intro @zau.eq_2 (And.intro @runDefers.eq_1 (And.intro @runDefers.eq_2 (And.intro @readRes.eq_1 (And.intro @readRes.eq_2 (And.intro @zcv.eq_1 (And.intro @zcv.eq_2 (And.intro @zcv.eq_3 (And.intro @zck.eq_1 (@zck.eq_2))))))))))))))))))))))))))))))))))
theorem szC:(∀ {α β:Type} (n:β) (f:α→β),caseO none n f=n)∧(∀ {α β:Type} (a:α) (n:β) (f:α→β),caseO (some a) n f=f a)∧(∀ {β:Type} (x y:β),ifB true x y=x)∧(∀ {β:Type} (x y:β),ifB false x y=y)∧(∀ {α β:Type} (x:Option α) (f:α→Option β),bindO x f=caseO x none f) :=
 ⟨za0,zab,zac,zad,fun _ _=>rfl⟩
set_option linter.defProp false in
def sA:=And.intro de0 (And.intro de1 (And.intro de2 (And.intro szQ (And.intro szB (And.intro szL (And.intro szC (And.intro sy0 (And.intro sy1 (And.intro sy2 (And.intro sy3 (And.intro sy4 (And.intro sy5 (And.intro sy6 (And.intro @stepOp.eq_1 (And.intro @zag.eq_1 (And.intro @zag.eq_2 (And.intro @zag.eq_3 (And.intro @zag.eq_4 (And.intro @zag.eq_5 (And.intro @zag.eq_6 (And.intro @zag.eq_7 (And.intro @zag.eq_8 (And.intro @zag.eq_9 (And.intro @zag.eq_10 (And.intro @zag.eq_11 (And.intro @zag.eq_12 (And.intro @zag.eq_13 (And.intro @zag.eq_14 (And.intro @zag.eq_15 (And.intro @zag.eq_16 (And.intro @zag.eq_17 (And.intro @zag.eq_18 (And.intro @zag.eq_19 (And.intro @zag.eq_20 (And.intro @zag.eq_21 (And.intro @zag.eq_22 (And.intro @zag.eq_23 (And.intro @zag.eq_24 (And.intro @zag.eq_25 (And.intro @zag.eq_26 (And.intro @zag.eq_27 (And.intro @zag.eq_28 (And.intro @zag.eq_29 (And.intro @zag.eq_30 (And.intro @zag.eq_31 (And.intro @zag.eq_32 (And.intro @zag.eq_33 (And.intro @zag.eq_34 (And.intro @zag.eq_35 (And.intro @zag.eq_36 (And.intro @zag.eq_37 (And.intro @zag.eq_38 (And.intro @zag.eq_39 (And.intro @zag.eq_40 (And.intro @zc8.eq_1 (And.intro @zc8.eq_2 (And.intro @zc8.eq_3 (And.intro @zc8.eq_4 (And.intro @zc8.eq_5 (And.intro @zc8.eq_6 (And.intro @zhb.eq_1 (And.intro @zhb.eq_2 (And.intro @evalV.eq_1 (And.intro @evalV.eq_2 (And.intro @evalV.eq_3 (And.intro @evalV.eq_4 (And.intro @evalV.eq_5 (And.intro @evalV.eq_6 (And.intro @evalV.eq_7 (And.intro @evalV.eq_8 (And.intro @evalV.eq_9 (And.intro @evalV.eq_10 (And.intro @evalV.eq_11 (And.intro @evalV.eq_12 (And.intro @evalV.eq_13 (And.intro @evalV.eq_14 (And.intro @evalV.eq_15 (And.intro @evalV.eq_16 (And.intro @evalV.eq_17 (And.intro @evalV.eq_18 (And.intro @evalV.eq_19 (And.intro @evalV.eq_20 (And.intro @evalV.eq_21 (And.intro @evalV.eq_22 (And.intro @evalV.eq_23 (And.intro @evalV.eq_24 (And.intro @evalV.eq_25 (And.intro @evalV.eq_26 (And.intro @evalV.eq_27 (And.intro @evalV.eq_28 (And.intro @evalV.eq_29 (And.intro @evalV.eq_30 (And.intro @evalV.eq_31 (And.intro @evalV.eq_32 (And.intro @evalV.eq_33 (And.intro @evalV.eq_34 (And.intro @evalV.eq_35 (And.intro @evalV.eq_36 (And.intro @evalV.eq_37 (And.intro @evalV.eq_38 (And.intro @evalV.eq_39 (And.intro @evalV.eq_40 (And.intro @AOp.kind.eq_1 (And.intro @AOp.kind.eq_2 (And.intro @AOp.kind.eq_3 (And.intro @AOp.kind.eq_4 (And.intro @AOp.kind.eq_5 (And.intro @AOp.kind.eq_6 (And.intro @AOp.kind.eq_7 (And.intro @aget.eq_1 (And.intro @aget.eq_2 (And.intro @aset.eq_1 (And.intro @aset.eq_2 (And.intro @adel.eq_1 (And.intro @adel.eq_2 (And.intro @adel1.eq_1 (And.intro @adel1.eq_2 (And.intro @nth.eq_1 (And.intro @nth.eq_2 (And.intro @nth.eq_3 (And.intro @mt.eq_1 (And.intro @mw.eq_1 (And.intro @mo.eq_1 (And.intro @Nat.ble.eq_1 (And.intro @Nat.ble.eq_2 (@Nat.ble.eq_3))))))))))))))))))))))))))))))))))))))))))))))))))))))))))))))))))))))))))))))))))))))))))))))))))))))))))))))))))))))))))))))
end Go.Mx
namespace Go.Fu
open Go Go.Mx
set_option maxRecDepth 1000000
abbrev OkP (f:FuncId) (ds:List D) (c:Cell):Prop:=Pure Go.Proofs.Tryz.prog κ f ds c
theorem zdob:zgvb 60 n_99=true:=by kernel_rfl
theorem zkjb:OkP n_99 [] ⟨false,.bool true⟩:=by
 intro σ
 have h:=zdob
 unfold zgvb at h
 split at h
 ·rename_i s hx
  exact zis rfl ((zoc Γa_holds zg0 zps 60).1 _ [] σ0 _ _ hx) rfl rfl σ
 ·cases h
def bL:List (FuncId × AFun):=[(n_64,zeh),(n_31,zbn),(n_21,zcf),(n_177,zfd),(n_65,zc3),(n_176,zcq),(n_24,zci),(n_73,zfo),(n_102,zb5),(n_63,zhj)]
def Γs:FuncId→Option AFun:=fun f=>caseO (aget bL f) (Γa f) some
theorem zlm {α:Type} {k:Nat} {v:α}:∀ {l:List (Nat × α)},aget l k=some v→(k,v)∈l
 | [],h=>by cases h
 | (j,x) :: r,h=>by
  by_cases e:j=k
  ·subst e
   have:aget ((j,x) :: r) j=some x:=by simp [aget,ifB]
   rw [this] at h
   cases h
   exact List.mem_cons_self ..
  ·have hb:(j == k)=false:=by simpa using e
   have:aget ((j,x) :: r) k=aget r k:=by simp [aget,ifB,hb]
   rw [this] at h
   exact List.mem_cons_of_mem _ (zlm h)
theorem Γs_holds:Holds Go.Proofs.Tryz.prog Γs:=by
 intro f af h
 unfold Γs at h
 cases hb:aget bL f with
 | none =>
  rw [hb,za0] at h
  exact Γa_holds f af h
 | some b =>
  rw [hb,zab] at h
  cases h
  have hm:=zlm hb
  simp only [bL,List.mem_cons,List.not_mem_nil,or_false,Prod.mk.injEq] at hm
  rcases hm with ⟨rfl,rfl⟩ | ⟨rfl,rfl⟩ | ⟨rfl,rfl⟩ | ⟨rfl,rfl⟩ | ⟨rfl,rfl⟩ | ⟨rfl,rfl⟩ | ⟨rfl,rfl⟩ | ⟨rfl,rfl⟩ | ⟨rfl,rfl⟩ | ⟨rfl,rfl⟩
  ·exact ⟨rfl,_,Go.Proofs.Tryz.func10,zmz⟩
  ·exact ⟨rfl,_,Go.Proofs.Tryz.func35,zmc⟩
  ·exact ⟨rfl,_,Go.Proofs.Tryz.func38,zk7⟩
  ·exact ⟨rfl,_,Go.Proofs.Tryz.func68,zo2⟩
  ·exact ⟨rfl,_,Go.Proofs.Tryz.func69,zjv⟩
  ·exact ⟨rfl,_,Go.Proofs.Tryz.func70,zh4⟩
  ·exact ⟨rfl,_,Go.Proofs.Tryz.func113,zs9⟩
  ·exact ⟨rfl,_,Go.Proofs.Tryz.func25,zqe⟩
  ·exact ⟨rfl,_,Go.Proofs.Tryz.func36,zu5⟩
  ·exact ⟨rfl,_,Go.Proofs.Tryz.func11,zu4⟩
end Go.Fu
namespace Go.Fu
open Go Go.Mx
set_option maxRecDepth 1000000
noncomputable def TS (S:Specs) (n:Nat):CallF:=runS Go.Proofs.Tryz.prog κ Γs Ra Xa S n
noncomputable def TDS (S:Specs) (n:Nat):CallF:=runSD Go.Proofs.Tryz.prog κ Γs Ra Xa S n
def SL:Specs:=[(n_99,fun _ c=>c=⟨false,.bool true⟩)]
noncomputable def T (n:Nat):CallF:=TS SL n
noncomputable def TD (n:Nat):CallF:=TDS SL n
theorem zse (n:Nat):zcm Go.Proofs.Tryz.prog κ (T n):=(zrv Γs_holds zg0 zps n).1
theorem zbe {S:Specs} {n:Nat} {f:FuncId} {af:AFun} {ds:List D} {σ:Store} (hs:has S f=false) (h:Γs f=some af) (hl:ds.length=af.nargs):TS S (n + 1) f ds σ=finX Ra (TDS S n) af σ.next (exec (TS S n) n none af.body (zch ds) σ):=zlgb hs h hl
theorem T_fun {n:Nat} {f:FuncId} {af:AFun} {ds:List D} {σ:Store} (h:Γs f=some af) (hl:ds.length=af.nargs) (hs:has SL f=false:=by rfl):T (n + 1) f ds σ=finX Ra (TD n) af σ.next (exec (T n) n none af.body (zch ds) σ):=zbe hs h hl
theorem T_lib {n:Nat} {f:FuncId} {ds:List D} {σ:Store} (h:Γs f=none) (hs:has SL f=false:=by rfl) (hY:isY f=false:=by rfl):T (n + 1) f ds σ=Xa f ds σ:=zlhb hs h hY
theorem any (p:Nat→Prop) (h:∀ n,p (n + 1)):Evly p:=(Evly.all (p:=fun _=>True) fun _=>trivial).step 0 fun n _ _=>h n
theorem zb3 {n:Int} (h1:-9223372036854775808≤n) (h2:n≤9223372036854775807):IntKind.i64.wrap n=n:=by
 simp [IntKind.wrap,IntKind.bits,IntKind.signed]
 omega
theorem zaj {i:Nat} (h:i < 1099511627776):IntKind.i64.wrap ((i:Int) + 1)=((i + 1:Nat):Int):=by
 rw [zb3 (by omega) (by omega)]
 rfl
theorem nat1 {k:IntKind}:D.nat? (.int k 1)=some 1:=rfl
theorem nat2 {k:IntKind}:D.nat? (.int k 2)=some 2:=rfl
theorem nat3 {k:IntKind}:D.nat? (.int k 3)=some 3:=rfl
theorem nat4 {k:IntKind}:D.nat? (.int k 4)=some 4:=rfl
theorem nat5 {k:IntKind}:D.nat? (.int k 5)=some 5:=rfl
theorem idxL {sz n:Nat} {k:RowK} {es:List D}:zaw sz (.list k es) n=ifB (k.sz == sz) (bindO (nth es n) fun d=>some (.eptr d)) none:=rfl
theorem oneI:((1:Nat):Int)=1:=rfl
theorem nat0 {k:IntKind}:D.nat? (.int k 0)=some 0:=rfl
theorem natI (n:Nat) {k:IntKind}:D.nat? (.int k (n:Int))=some n:=by
 simp only [D.nat?]
 have:(0:Int)≤(n:Int):=by omega
 rw [decide_eq_true this]
 rfl
theorem zeroI:((0:Nat):Int)=0:=rfl
def Small (x:Int):Prop:=-9223372036854775808≤x∧x≤9223372036854775807
inductive Tp where
 | hole (n:Int)
 | var (s:List UInt8)
 | con (s:List UInt8)
 | app (f a:Tp)
namespace Tp
def form:Tp→Int
 | .hole _=>1
 | .var _=>2
 | .con _=>3
 | .app _ _=>4
def num:Tp→Int
 | .hole n=>n
 | _=>0
def name:Tp→List UInt8
 | .var s=>s
 | .con s=>s
 | _=>[]
def args:Tp→List Tp
 | .app f a=>[f,a]
 | _=>[]
end Tp
def dT:Tp→D
 | .hole n=>.agg [.int .i64 1,.int .i64 n,.str [],.nils]
 | .var s=>.agg [.int .i64 2,.int .i64 0,.str s,.nils]
 | .con s=>.agg [.int .i64 3,.int .i64 0,.str s,.nils]
 | .app f a=>.agg [.int .i64 4,.int .i64 0,.str [],.list k_2 [dT f,dT a]]
def cT (t:Tp):List D:=[.int .i64 t.form,.int .i64 t.num,.str t.name,dlist k_2 (t.args.map dT)]
theorem dT_eq (t:Tp):dT t=.agg (cT t):=by cases t <;> rfl
theorem zvu (t:Tp):(dT t).cells.length=4:=by rw [dT_eq]; rfl
theorem ok_dT:∀ t:Tp,(dT t).ok=true:=by
 intro t
 rw [dT_eq]
 simp only [cT,D.ok,List.all_cons,D.one,zbp,List.all_nil,Bool.and_self]
theorem zjf (t:Tp):t.args.length≤2:=by cases t <;> simp [Tp.args]
structure Pr where
 cls:List UInt8
 ty:Tp
def dP (p:Pr):D:=.agg (.str p.cls :: cT p.ty)
theorem dP_eq (p:Pr):dP p=.agg [.str p.cls,.int .i64 p.ty.form,.int .i64 p.ty.num,.str p.ty.name,dlist k_2 (p.ty.args.map dT)]:=rfl
def dTs (l:List Tp):D:=dlist k_2 (l.map dT)
def dPs (l:List Pr):D:=dlist k_1 (l.map dP)
def dSs (l:List (List UInt8)):D:=dlist k_0 (l.map D.str)
theorem zoxb (l:List Tp):∀ d∈l.map dT,d.ok=true∧d.cells.length=4:=by
 intro d hd
 obtain ⟨v,_,rfl⟩:=List.mem_map.1 hd
 exact ⟨ok_dT v,zvu v⟩
theorem ok_dP (p:Pr):(dP p).ok=true:=by
 simp only [dP,cT,D.ok,List.all_cons,D.one,zbp,List.all_nil,Bool.and_self]
theorem zf4 (p:Pr):(dP p).cells.length=5:=rfl
theorem zi4 {α:Type} {k:RowK} {sz:Nat} (hs:k.sz=sz) (f:α→D) (l:List α) (i:Nat) (h:i < l.length):zaw sz (dlist k (l.map f)) i=some (.eptr (f l[i])):=by
 have hn:nth (l.map f) i=some (f l[i]):=by rw [zkz,zky _ _ h]; rfl
 cases l with
 | nil=>simp at h
 | cons x r =>
  simp only [List.map_cons,dlist,zaw,hs,beq_self_eq_true,zac] at hn ⊢
  rw [hn]
  rfl
theorem idx_T (l:List Tp) (i:Nat) (h:i < l.length):zaw 4 (dlist k_2 (l.map dT)) i=some (.eptr (dT l[i])):=zi4 rfl _ _ _ h
theorem idx_P (l:List Pr) (i:Nat) (h:i < l.length):zaw 5 (dlist k_1 (l.map dP)) i=some (.eptr (dP l[i])):=zi4 rfl _ _ _ h
theorem idx_S (l:List (List UInt8)) (i:Nat) (h:i < l.length):zaw 1 (dlist k_0 (l.map D.str)) i=some (.eptr (.str l[i])):=zi4 rfl _ _ _ h
theorem zpu (l:List Tp) (v:Tp) (o:Bool) (ho:l≠[]→o=true) (hl:l.length < 1048576):zbb k_2 56 ⟨o,dlist k_2 (l.map dT)⟩ [dT v]=some ⟨true,dlist k_2 ((l ++ [v]).map dT)⟩:=by
 rw [zfn (fun h=>ho (by simpa using h)) (ok_dT _) (zvu _) (by simp [bound]; omega) (by simp [bound]; omega)]
 simp
theorem zvk (l:List Pr) (v:Pr) (o:Bool) (ho:l≠[]→o=true) (hl:l.length < 1048576):zbb k_1 72 ⟨o,dlist k_1 (l.map dP)⟩ [dP v]=some ⟨true,dlist k_1 ((l ++ [v]).map dP)⟩:=by
 rw [zfn (fun h=>ho (by simpa using h)) (ok_dP _) (zf4 _) (by simp [bound]; omega) (by simp [bound]; omega)]
 simp
theorem zln (l:List (List UInt8)) (v:List UInt8) (o:Bool) (ho:l≠[]→o=true) (hl:l.length < 1048576):zbb k_0 16 ⟨o,dlist k_0 (l.map D.str)⟩ [.str v]=some ⟨true,dlist k_0 ((l ++ [v]).map D.str)⟩:=by
 rw [zfn (fun h=>ho (by simpa using h)) rfl rfl (by simp [bound]; omega) (by simp [bound]; omega)]
 simp
def ow:Nat→Bool
 | 0=>false
 | _ + 1=>true
set_option linter.defProp false in
def kn:=(And.intro (And.intro (And.intro (And.intro (And.intro k_242 k_240) (And.intro k_241 (And.intro k_245 k_243))) (And.intro (And.intro k_244 (And.intro k_248 k_246)) (And.intro k_247 (And.intro k_251 k_249)))) (And.intro (And.intro (And.intro k_250 (And.intro k_254 k_252)) (And.intro k_253 (And.intro k_61 k_255))) (And.intro (And.intro k_256 (And.intro k_259 k_257)) (And.intro k_258 (And.intro k_262 k_260))))) (And.intro (And.intro (And.intro (And.intro k_261 k_264) (And.intro k_217 (And.intro k_263 k_267))) (And.intro (And.intro k_265 (And.intro k_266 k_98)) (And.intro k_268 (And.intro k_269 k_47)))) (And.intro (And.intro (And.intro k_270 (And.intro k_271 k_274)) (And.intro k_272 (And.intro k_273 @nat0))) (And.intro (And.intro @nat1 (And.intro @nat2 @nat3)) (And.intro @nat4 (And.intro @nat5 @idxL))))))
end Go.Fu

/-
 Operations that may change places: the machine's side of a region whose order is drawn. Nothing here speaks of a world.
-/
import Derived.Test.YtldfbnbckiifeaaGreatDoorMySim
set_option linter.unusedSimpArgs false
set_option linter.unusedVariables false
set_option linter.unusedSectionVars false
namespace Go.Mx
open Go
structure Eqv (e e':Env):Prop where
 slots:∀ s,aB e.slots s=aB e'.slots s
 locs:∀ s,aB e.locs s=aB e'.locs s
 boxes:∀ s,aB e.boxes s=aB e'.boxes s
 defers:e.defers=e'.defers
theorem Eqv.refl (e:Env):Eqv e e:=⟨fun _=>rfl,fun _=>rfl,fun _=>rfl,rfl⟩
theorem Eqv.symm {e e':Env} (h:Eqv e e'):Eqv e' e:=⟨fun s=>(h.slots s).symm,fun s=>(h.locs s).symm,fun s=>(h.boxes s).symm,h.defers.symm⟩
theorem Eqv.trans {e e' e'':Env} (h:Eqv e e') (k:Eqv e' e''):Eqv e e'':=⟨fun s=>(h.slots s).trans (k.slots s),fun s=>(h.locs s).trans (k.locs s),fun s=>(h.boxes s).trans (k.boxes s),h.defers.trans k.defers⟩
def aQ:AOpd→List Nat
 | .tmp s=>[s]
 | .mv s=>[s]
 | .const _=>[]
def wK:AOpd→List Nat
 | .mv s=>[s]
 | _=>[]
def osl:List AOpd→List Nat
 | []=>[]
 | x :: l=>aQ x ++ osl l
def zu6:List (Nat × Nat × AOpd)→List Nat
 | []=>[]
 | (_,_,x) :: l=>aQ x ++ zu6 l
def Tu:Option AOpd→List Nat
 | some x=>aQ x
 | none=>[]
def pH:AOp→Bool
 | .galloc _ _=>true
 | .gbox _ _=>true
 | .storeP _ _ _=>true
 | .makeA _ _ _ _ _=>true
 | .buildA _ _=>true
 | .appendA _ _ _ _=>true
 | .appendW _ _ _ _ _=>true
 | .copyA _ _ _=>true
 | .clearA _ _ _=>true
 | .makeMap=>true
 | .update _ _ _ _=>true
 | .delete _ _ _=>true
 | .entry _ _ _ _=>true
 | .entryStore _ _ _=>true
 | _=>false
def fX:AOp→Bool
 | .storeP _ _ _=>false
 | .makeA _ _ _ _ _=>false
 | .buildA _ _=>false
 | .appendA _ _ _ _=>false
 | .appendW _ _ _ _ _=>false
 | .copyA _ _ _=>false
 | .clearA _ _ _=>false
 | .makeMap=>false
 | .cloneM _=>false
 | .growZ _ _ _ _ _=>false
 | .capZ _=>false
 | .assertP _ _=>false
 | .update _ _ _ _=>false
 | .delete _ _ _=>false
 | .entry _ _ _ _=>false
 | .entryStore _ _ _=>false
 | .alloc _=>false
 | .box _=>false
 | .galloc _ _=>false
 | .gbox _ _=>false
 | .rangeS _=>false
 | .strToBytes _ _=>false
 | .nextS _=>false
 | .store _ _ _=>false
 | .loadA _ _=>false
 | .storeA _ _ _=>false
 | .deferv _ _=>false
 | .call _ _=>false
 | .callv _ _=>false
 | .callW _ _ _=>false
 | .callvW _ _ _=>false
 | .panic _=>false
 | .load _ mv _=>!mv
 | _=>true
def pW:AOp→Bool
 | .loadP _ _=>true
 | .loadG _ _=>true
 | .load _ _ _=>true
 | .lookup _ _ _ _ _=>true
 | .lenM _=>true
 | _=>false
def looks:AOp→List Nat
 | .mov x=>aQ x
 | .pick c a b=>aQ c ++ (aQ a ++ aQ b)
 | .build _ ps=>zu6 ps
 | .buildSlice _ ps=>osl ps
 | .loadL _ _ x=>aQ x
 | .load _ _ x=>aQ x
 | .nilCheck x=>aQ x
 | .bin _ x y=>aQ x ++ aQ y
 | .binB _ x y=>aQ x ++ aQ y
 | .un _ x=>aQ x
 | .toInt _ x=>aQ x
 | .toStr x=>aQ x
 | .runeStr x=>aQ x
 | .bytesToStr x=>aQ x
 | .mkIface _ x=>aQ x
 | .mkFunc _ a b=>osl a ++ osl b
 | .slice _ x lo hi=>aQ x ++ (Tu lo ++ Tu hi)
 | .sliceS x lo hi=>aQ x ++ (Tu lo ++ Tu hi)
 | .fieldAddr _ _ x=>aQ x
 | .field _ _ x=>aQ x
 | .indexAddr _ x i=>aQ x ++ aQ i
 | .index x i=>aQ x ++ aQ i
 | .extract x _=>aQ x
 | .len x=>aQ x
 | .lenS x=>aQ x
 | .append _ _ x y=>aQ x ++ aQ y
 | .appendS _ _ x y=>aQ x ++ aQ y
 | .isNil _ x=>aQ x
 | .isNilP _ x=>aQ x
 | .assertT _ _ x=>aQ x
 | .mm _ x y=>aQ x ++ aQ y
 | .isNilS _ x=>aQ x
 | .isNilM _ x=>aQ x
 | .lookup _ _ _ x i=>aQ x ++ aQ i
 | .lenM x=>aQ x
 | .slice3 _ x lo hi mx=>aQ x ++ (Tu lo ++ (aQ hi ++ aQ mx))
 | .eqA _ _ x y=>aQ x ++ aQ y
 | .indexA _ _ x i=>aQ x ++ aQ i
 | .indexAddrP _ _ x i=>aQ x ++ aQ i
 | .storeP _ x y=>aQ x ++ aQ y
 | .makeA _ _ _ x y=>aQ x ++ aQ y
 | .buildA _ ps=>osl ps
 | .appendA _ _ x y=>aQ x ++ aQ y
 | .appendW _ _ _ x y=>aQ x ++ aQ y
 | .copyA _ x y=>aQ x ++ aQ y
 | .clearA _ _ x=>aQ x
 | .update _ x i y=>aQ x ++ (aQ i ++ aQ y)
 | .delete _ x i=>aQ x ++ aQ i
 | .entry _ _ x i=>aQ x ++ aQ i
 | .entryStore x s y=>aQ x ++ (aQ s ++ aQ y)
 | .galloc _ _=>[]
 | .gbox _ x=>aQ x
 | .allocN _ _=>[]
 | .boxN _ x=>aQ x
 | .loadB _ _ x=>aQ x
 | .loadE _ x=>aQ x
 | .loadP _ x=>aQ x
 | .loadG _ x=>aQ x
 | .storeB _ _ x y=>aQ x ++ aQ y
 | .callW _ _ as=>osl as
 | .callvW _ x as=>aQ x ++ osl as
 | .call _ as=>osl as
 | .callv x as=>aQ x ++ osl as
 | .panic x=>aQ x
 | _=>[]
def Ol:AOp→Bool
 | .loadL _ mv _=>mv
 | _=>false
def oK:AOp→List Nat
 | .mov x=>wK x
 | .append _ _ x _=>wK x
 | .appendS _ _ x _=>wK x
 | .storeB _ _ _ y=>wK y
 | _=>[]
def wb:AOp→Option (Option Nat)
 | .loadL _ true _=>some none
 | .storeB b _ _ _=>some (some b)
 | .allocN s _=>some (some s)
 | .boxN s _=>some (some s)
 | _=>none
def wd:AOp→Option Nat
 | .storeB b _ _ _=>some b
 | .allocN s _=>some s
 | .boxN s _=>some s
 | _=>none
def rb:AOp→Option (Option Nat)
 | .loadL _ _ _=>some none
 | .load _ _ _=>some none
 | .loadB b _ _=>some (some b)
 | .storeB b _ _ _=>some (some b)
 | _=>none
def mY:AOp→Option Nat
 | .allocN s _=>some s
 | .boxN s _=>some s
 | _=>none
def zel:Option (Option Nat)→Option Nat→Bool
 | some none,some _=>true
 | some (some a),some b=>a == b
 | _,_=>false
def Ci:Option (Option Nat)→Option (Option Nat)→Bool
 | none,_=>false
 | _,none=>false
 | some (some a),some (some b)=>a == b
 | _,_=>true
def oL (o:AOper):List Nat:=(match o.guard with | some (s,_)=>[s] | none=>[]) ++ looks o.op
def zpp (c:Cell):Cell:=⟨false,c.d⟩
abbrev BF:=Option (Nat × (Option (List Cell)→Option (List Cell)))
def oZ (op:AOp) (e:Env):BF:=match op with
 | .loadL _ true x=>match eI e x with
  | some (.loc b off)=>some (b,fun o=>o.map fun cs=>eV cs off)
  | _=>none
 | .storeB b _ x y=>match eI e x,opd e y with
  | some (.loc _ off),some c=>some (b,fun o=>o.map fun cs=>putCells cs off (dE c))
  | _,_=>none
 | .allocN s z=>some (s,fun _=>some (z.map Cell.of))
 | .boxN s x=>match opd e x with
  | some c=>some (s,fun _=>some (c.d.cells.map Cell.of))
  | none=>none
 | _=>none
def gY (op:AOp) (e:Env) (σ:Store):Option Val:=match op with
 | .buildSlice sz parts=>aC (jC e parts) fun ds=>ifB (bI sz.sz ds && decide (ds.length * sz.sz≤16777216)) (some (.c ⟨true,.list sz ds⟩)) none
 | .append sz by_ x y=>aC (opd e x) fun c=>aC (opd e y) fun d=>aC (eL d.d) fun ys=>aC (cK sz by_ c ys) fun r=>some (.c r)
 | .appendS k by_ x y=>aC (opd e x) fun c=>aC (opd e y) fun d=>aC d.d.str? fun s=>aC (cK k by_ c (cT s)) fun r=>some (.c r)
 | .slice3 sz x lo hi max=>aC (opd e x) fun c=>aC (qN e lo) fun l=>aC (opd e hi) fun h=>aC h.d.nat? fun h=>aC (opd e max) fun m=>aC m.d.nat? fun m=>aC (Ea sz c.d l h m) fun d=>some (.c ⟨true,d⟩)
 | .allocN s _=>ifB (jK e.locs s) (some (.l s 0)) none
 | .boxN s x=>aC (opd e x) fun c=>ifB (jK e.locs s && c.d.ok) (some (.l s 0)) none
 | .storeB b k x y=>aC (eI e x) fun p=>aC (opd e y) fun c=>match p with
  | .loc b' off=>ifB (b' == b) (aC (aB e.boxes b) fun cs=>ifB (nU c k off cs) (some (.c ⟨false,.undef⟩)) none) none
  | _=>none
 | op=>aK op e σ
def pF (op:AOp) (e:Env):Env:=match op with
 | .append _ _ x _=>x.drop e
 | .appendS _ _ x _=>x.drop e
 | .allocN s z=>{e with boxes:=aU e.boxes s (z.map Cell.of)}
 | .boxN s x=>match opd e x with
  | some c=>{e with boxes:=aU e.boxes s (c.d.cells.map Cell.of)}
  | none=>e
 | .storeB b _ x y=>match eI e x,opd e y,aB e.boxes b with
  | some (.loc _ off),some c,some cs=>{y.drop e with boxes:=aU e.boxes b (putCells cs off (dE c))}
  | _,_,_=>e
 | op=>iI op e
def dT (L:List Nat) (e e':Env):Prop:=∀ s∈L,aB e.slots s=aB e'.slots s∧aB e.locs s=aB e'.locs s
theorem dT.left {L M:List Nat} {e e':Env} (h:dT (L ++ M) e e'):dT L e e':=fun s hs=>h s (List.mem_append.2 (.inl hs))
theorem dT.right {L M:List Nat} {e e':Env} (h:dT (L ++ M) e e'):dT M e e':=fun s hs=>h s (List.mem_append.2 (.inr hs))
def uQ (e e':Env) (b:Nat):Prop:=(aB e.boxes b).map (·.map Cell.d)=(aB e'.boxes b).map (·.map Cell.d)
def BoxD (e e':Env):Prop:=∀ b,uQ e e' b
def Qu (op:AOp) (e e':Env):Prop:=match rb op with
 | none=>True
 | some none=>BoxD e e'
 | some (some b)=>uQ e e' b
section
variable {e e':Env}
theorem aL {x:AOpd} (h:dT (aQ x) e e'):opd e x=opd e' x:=by
 cases x with
 | tmp s=>simp only [opd,(h s (by simp [aQ])).1]
 | mv s=>simp only [opd,(h s (by simp [aQ])).1]
 | const d=>rfl
theorem gU {x:AOpd} (h:dT (aQ x) e e'):eI e x=eI e' x:=by
 cases x with
 | tmp s=>simp only [eI,(h s (by simp [aQ])).1,(h s (by simp [aQ])).2]
 | mv s=>simp only [eI,(h s (by simp [aQ])).1,(h s (by simp [aQ])).2]
 | const d=>rfl
theorem lD:∀ {l:List AOpd},dT (osl l) e e'→jC e l=jC e' l
 | [],_=>rfl
 | x :: l,h=>by simp only [jC,aL (dT.left h),lD (dT.right h)]
theorem Ik:∀ {l:List (Nat × Nat × AOpd)},dT (zu6 l) e e'→oR e l=oR e' l
 | [],_=>rfl
 | (a,b,x) :: l,h=>by simp only [oR,aL (dT.left h),Ik (dT.right h)]
theorem Bt {x:Option AOpd} (h:dT (Tu x) e e'):qN e x=qN e' x:=by
 cases x with
 | none=>rfl
 | some x=>simp only [qN,aL (show dT (aQ x) e e' from h)]
theorem Qg {x:Option AOpd} (h:dT (Tu x) e e'):xE e x=xE e' x:=by
 cases x with
 | none=>rfl
 | some x=>simp only [xE,aL (show dT (aQ x) e e' from h)]
theorem za2:∀ (cs cs':List Cell) (o n:Nat),cs.map Cell.d=cs'.map Cell.d→iM cs o n=iM cs' o n
 | [],[],o,n,_=>rfl
 | [],_ :: _,_,_,h=>by simp at h
 | _ :: _,[],_,_,h=>by simp at h
 | c :: cs,c' :: cs',0,0,_=>rfl
 | c :: cs,c' :: cs',0,n + 1,h=>by
  simp only [List.map_cons,List.cons.injEq] at h
  simp only [iM,za2 cs cs' 0 n h.2,h.1]
 | c :: cs,c' :: cs',o + 1,n,h=>by
  simp only [List.map_cons,List.cons.injEq] at h
  cases n <;> simp only [iM,za2 cs cs' o _ h.2]
theorem zj5 {cs cs':List Cell} (h:cs.map Cell.d=cs'.map Cell.d) (k:Option Nat) (off:Nat):(cA cs k off).map Cell.d=(cA cs' k off).map Cell.d:=by
 cases k with
 | none =>
  simp only [cA,vI]
  rw [← List.getElem?_map,← List.getElem?_map,h]
 | some n=>simp only [cA,za2 cs cs' off n h]
theorem Zl {k:Option Nat} {b off:Nat} (h:uQ e e' b):(aC (aB e.boxes b) fun cs=>aC (cA cs k off) fun c=>some (Val.c ⟨false,c.d⟩))=aC (aB e'.boxes b) fun cs=>aC (cA cs k off) fun c=>some (Val.c ⟨false,c.d⟩):=by
 have hb:=h
 unfold uQ at hb
 cases h1:aB e.boxes b with
 | none =>
  rw [h1] at hb
  cases h2:aB e'.boxes b with
  | none=>rfl
  | some cs'=>rw [h2] at hb; cases hb
 | some cs =>
  rw [h1] at hb
  cases h2:aB e'.boxes b with
  | none=>rw [h2] at hb; cases hb
  | some cs' =>
   rw [h2] at hb
   simp only [Option.map_some,Option.some.injEq] at hb
   have:=zj5 hb k off
   simp only [aC,aF]
   cases h3:cA cs k off with
   | none =>
    rw [h3] at this
    cases h4:cA cs' k off with
    | none=>rfl
    | some c=>rw [h4] at this; cases this
   | some c =>
    rw [h3] at this
    cases h4:cA cs' k off with
    | none=>rw [h4] at this; cases this
    | some c' =>
     rw [h4] at this
     simp only [Option.map_some,Option.some.injEq] at this
     simp only [aF,this]
theorem zbeb {c:Cell} {k off:Nat} {cs cs':List Cell} (h:cs.map Cell.d=cs'.map Cell.d):nU c k off cs=nU c k off cs':=by
 have:=congrArg List.length h
 simp only [List.length_map] at this
 simp only [nU,this]
theorem zkw {op:AOp} (σ:Store) (hl:fX op=true) (h:dT (looks op) e e') (hb:Qu op e e') (hm:Ol op=true→∀ b,aB e.boxes b=aB e'.boxes b) (hf:∀ s,mY op=some s→jK e.locs s=jK e'.locs s):gY op e σ=gY op e' σ:=by
 cases op <;> simp only [fX,Bool.false_eq_true] at hl <;> simp only [looks] at h <;> simp only [gY,aK]
 case mov x=>rw [aL h]
 case pick c a b=>rw [aL h.left,aL h.right.left,aL h.right.right]
 case build z ps=>rw [Ik h]
 case buildSlice sz ps=>rw [lD h]
 case loadL k mv x =>
  rw [gU h]
  congr 1
  funext p
  cases p with
  | loc b off =>
   cases mv with
   | false=>simp only [Bool.false_and]; exact Zl (hb b)
   | true=>simp only [hm rfl b]
  | ptr id off=>rfl
  | eptr d=>rfl
 case load k mv x =>
  simp only [Bool.not_eq_true'] at hl
  subst hl
  rw [gU h]
  congr 1
  funext p
  cases p with
  | loc b off=>simp only [Bool.false_and]; exact Zl (hb b)
  | ptr id off=>rfl
  | eptr d=>rfl
 case nilCheck x=>rw [gU h]
 case loadB b k x =>
  rw [gU h]
  congr 1
  funext p
  cases p with
  | loc b' off =>
   simp only
   congr 1
   exact Zl hb
  | ptr id off=>rfl
  | eptr d=>rfl
 case loadE k x=>rw [gU h]
 case loadP k x=>rw [gU h]
 case loadG k x=>rw [gU h]
 case allocN s z=>rw [hf s rfl]
 case boxN s x=>rw [aL h,hf s rfl]
 case storeB b k x y =>
  rw [gU h.left,aL h.right]
  congr 1
  funext p
  congr 1
  funext c
  cases p with
  | loc b' off =>
   simp only
   congr 1
   have hb':uQ e e' b:=hb
   unfold uQ at hb'
   cases h1:aB e.boxes b with
   | none =>
    rw [h1] at hb'
    cases h2:aB e'.boxes b with
    | none=>rfl
    | some cs'=>rw [h2] at hb'; cases hb'
   | some cs =>
    rw [h1] at hb'
    cases h2:aB e'.boxes b with
    | none=>rw [h2] at hb'; cases hb'
    | some cs' =>
     rw [h2] at hb'
     simp only [Option.map_some,Option.some.injEq] at hb'
     simp only [aC,aF,zbeb hb']
  | ptr id off=>rfl
  | eptr d=>rfl
 case bin op x y=>rw [aL h.left,aL h.right]
 case binB op x y=>rw [aL h.left,aL h.right]
 case un op x=>rw [aL h]
 case toInt k x=>rw [aL h]
 case toStr x=>rw [aL h]
 case runeStr x=>rw [aL h]
 case bytesToStr x=>rw [aL h]
 case mkIface t x=>rw [aL h]
 case mkFunc f a b=>rw [lD h.left,lD h.right]
 case slice sz x lo hi=>rw [aL h.left,Bt h.right.left,Qg h.right.right]
 case sliceS x lo hi=>rw [aL h.left,Bt h.right.left,Qg h.right.right]
 case fieldAddr off k x=>rw [gU h]
 case field off k x=>rw [aL h]
 case indexAddr sz x i=>rw [aL h.left,aL h.right]
 case index x i=>rw [aL h.left,aL h.right]
 case extract x i=>rw [aL h]
 case len x=>rw [aL h]
 case lenS x=>rw [aL h]
 case append sz by_ x y=>rw [aL h.left,aL h.right]
 case appendS k by_ x y=>rw [aL h.left,aL h.right]
 case isNil op x=>rw [aL h]
 case isNilP op x=>rw [aL h]
 case assertT t z x=>rw [aL h]
 case mm mx x y=>rw [aL h.left,aL h.right]
 case isNilS op x=>rw [aL h]
 case isNilM op x=>rw [aL h]
 case lookup ks z ok x i=>rw [aL h.left,aL h.right]
 case lenM x=>rw [aL h]
 case slice3 sz x lo hi mx=>rw [aL h.left,Bt h.right.left,aL h.right.right.left,aL h.right.right.right]
 case eqA op ks x y=>rw [aL h.left,aL h.right]
 case indexA n sz x i=>rw [aL h.left,aL h.right]
 case indexAddrP n sz x i=>rw [gU h.left,aL h.right]
theorem Be {op:AOp} (σ:Store) (hl:pH op=true) (h:dT (looks op) e e'):eU op e σ=eU op e' σ:=by
 cases op <;> simp only [pH,Bool.false_eq_true] at hl <;> simp only [looks] at h <;> simp only [eU]
 case gbox t x=>rw [aL h]
 case storeP k x y=>rw [gU h.left,aL h.right]
 case makeA k by_ z x y=>rw [aL h.left,aL h.right]
 case buildA k ps=>rw [lD h]
 case appendA k by_ x y=>rw [aL h.left,aL h.right]
 case appendW ws k by_ x y=>rw [aL h.left,aL h.right]
 case copyA sz x y=>rw [aL h.left,aL h.right]
 case clearA sz z x=>rw [aL h]
 case update ks x i y=>rw [aL h.left,aL h.right.left,aL h.right.right]
 case delete ks x i=>rw [aL h.left,aL h.right]
 case entry ks z x i=>rw [aL h.left,aL h.right]
 case entryStore x s y=>rw [aL h.left,aL h.right.left,aL h.right.right]
theorem Fb {op:AOp} (hl:pH op=true) (dst:Option Nat) (e:Env) (σ:Store):aS dst op e σ=bF dst op e σ:=by
 cases op <;> simp only [pH,Bool.false_eq_true] at hl <;> rfl
theorem Ry {op:AOp} (hl:pH op=true):op.kind=.op:=by
 cases op <;> simp only [pH,Bool.false_eq_true] at hl <;> rfl
theorem znf {op:AOp} (hl:fX op=true) (h:dT (looks op) e e'):oZ op e=oZ op e':=by
 cases op <;> simp only [fX,Bool.false_eq_true] at hl <;> simp only [looks] at h <;> try rfl
 case loadL k mv x=>cases mv <;> simp only [oZ,gU h]
 case storeB b k x y=>simp only [oZ,gU h.left,aL h.right]
 case boxN s x=>simp only [oZ,aL h]
theorem zkx {op:AOp} (hl:fX op=true) (hn:pW op=false) (e:Env) (σ σ':Store):gY op e σ=gY op e σ':=by
 cases op <;> simp only [fX,Bool.false_eq_true] at hl <;> simp only [pW,Bool.true_eq_false] at hn <;> rfl
theorem Kp {op:AOp} (hl:fX op=true) (dst:Option Nat) (e:Env) (σ:Store):aS dst op e σ=aC (gY op e σ) fun v=>some ((pF op e).putV dst v,σ):=by
 cases op <;> simp only [fX,Bool.false_eq_true] at hl <;> try rfl
 case load k mv x =>
  simp only [Bool.not_eq_true'] at hl
  subst hl
  rfl
 case buildSlice sz ps =>
  simp only [aS,gY]
  cases jC e ps with
  | none=>rfl
  | some ds =>
   simp only [aC,aF]
   cases (bI sz.sz ds && decide (ds.length * sz.sz≤16777216)) <;> cases dst <;> rfl
 case append sz by_ x y =>
  simp only [aS,gY]
  cases opd e x with
  | none=>rfl
  | some c =>
   simp only [aC,aF]
   cases opd e y with
   | none=>rfl
   | some d =>
    simp only [aF]
    cases eL d.d with
    | none=>rfl
    | some ys =>
     simp only [aF]
     cases cK sz by_ c ys with
     | none=>rfl
     | some r=>cases dst <;> rfl
 case appendS k by_ x y =>
  simp only [aS,gY]
  cases opd e x with
  | none=>rfl
  | some c =>
   simp only [aC,aF]
   cases opd e y with
   | none=>rfl
   | some d =>
    simp only [aF]
    cases d.d.str? with
    | none=>rfl
    | some str =>
     simp only [aF]
     cases cK k by_ c (cT str) with
     | none=>rfl
     | some r=>cases dst <;> rfl
 case slice3 sz x lo hi mx =>
  simp only [aS,gY]
  cases opd e x with
  | none=>rfl
  | some c =>
  simp only [aC,aF]
  cases qN e lo with
  | none=>rfl
  | some l =>
  simp only [aF]
  cases opd e hi with
  | none=>rfl
  | some h =>
  simp only [aF]
  cases h.d.nat? with
  | none=>rfl
  | some hn =>
  simp only [aF]
  cases opd e mx with
  | none=>rfl
  | some m =>
  simp only [aF]
  cases m.d.nat? with
  | none=>rfl
  | some mn =>
  simp only [aF]
  cases Ea sz c.d l hn mn with
  | none=>rfl
  | some d=>cases dst <;> rfl
 case allocN s z =>
  simp only [aS,gY]
  cases jK e.locs s <;> rfl
 case boxN s x =>
  simp only [aS,gY,pF]
  cases opd e x with
  | none=>rfl
  | some c =>
   simp only [aC,aF]
   cases jK e.locs s && c.d.ok <;> rfl
 case storeB b k x y =>
  simp only [aS,gY,pF]
  cases eI e x with
  | none=>rfl
  | some p =>
   simp only [aC,aF]
   cases opd e y with
   | none=>rfl
   | some c =>
    simp only [aF]
    cases p with
    | loc b' off =>
     simp only
     cases b' == b with
     | false=>rfl
     | true =>
      simp only [aE]
      cases aB e.boxes b with
      | none=>rfl
      | some cs =>
       simp only [aF]
       cases nU c k off cs <;> cases dst <;> rfl
    | ptr id off=>rfl
    | eptr d=>rfl
/-! ### What an operation changes, slot by slot -/
def Val.cell?:Val→Option Cell
 | .c x=>some x
 | .l _ _=>none
def Val.loc?:Val→Option (Nat × Nat)
 | .c _=>none
 | .l b off=>some (b,off)
abbrev Dat:=Val × List Nat × BF
structure Acts (dst:Option Nat) (dat:Dat) (e e1:Env):Prop where
 slots:∀ s,aB e1.slots s=if dst=some s then dat.1.cell? else if s∈dat.2.1 then (aB e.slots s).map zpp else aB e.slots s
 locs:∀ s,aB e1.locs s=if dst=some s then dat.1.loc? else aB e.locs s
 boxes:∀ b,aB e1.boxes b=match dat.2.2 with
  | some (b',f)=>if b'=b then f (aB e.boxes b) else aB e.boxes b
  | none=>aB e.boxes b
 defers:e1.defers=e.defers
theorem qI (x:AOpd) (s:Nat):aB (x.drop e).slots s=if s∈wK x then (aB e.slots s).map zpp else aB e.slots s:=by
 cases x with
 | mv t =>
  simp only [AOpd.drop,wK,List.mem_singleton]
  cases ht:aB e.slots t with
  | none =>
   simp only [cC]
   split
   ·rename_i h; subst h; rw [ht]; rfl
   ·rfl
  | some c =>
   simp only [aF,aT]
   by_cases h:t=s
   ·subst h; rw [if_pos rfl,if_pos rfl,ht]; rfl
   ·rw [if_neg h,if_neg (fun k=>h k.symm)]
 | tmp t=>simp [AOpd.drop,wK]
 | const d=>simp [AOpd.drop,wK]
theorem qH (x:AOpd):(x.drop e).locs=e.locs∧(x.drop e).boxes=e.boxes∧(x.drop e).defers=e.defers:=by
 cases x with
 | mv t =>
  simp only [AOpd.drop]
  cases aB e.slots t <;> exact ⟨rfl,rfl,rfl⟩
 | _=>exact ⟨rfl,rfl,rfl⟩
theorem gJ {dst:Option Nat} {v:Val} {e0:Env} (D:List Nat) (B:BF) (h1:∀ s,aB e0.slots s=if s∈D then (aB e.slots s).map zpp else aB e.slots s) (h2:e0.locs=e.locs)
  (h3:∀ b,aB e0.boxes b=match B with | some (b',f)=>if b'=b then f (aB e.boxes b) else aB e.boxes b | none=>aB e.boxes b) (h4:e0.defers=e.defers):Acts dst (v,D,B) e (e0.putV dst v):=by
 cases dst with
 | none =>
  have:e0.putV none v=e0:=by cases v <;> rfl
  rw [this]
  exact ⟨fun s=>by simp [h1 s],fun s=>by simp [h2],h3,h4⟩
 | some d =>
  cases v with
  | c c =>
   refine ⟨fun s=>?_,fun s=>?_,h3,h4⟩
   ·simp only [Env.putV,Env.put,aT,Option.some.injEq]
    split
    ·rfl
    ·exact h1 s
   ·simp only [Env.putV,Env.put,bH,Option.some.injEq,h2]
    rfl
  | l b off =>
   refine ⟨fun s=>?_,fun s=>?_,h3,h4⟩
   ·simp only [Env.putV,bH,Option.some.injEq]
    split
    ·rfl
    ·exact h1 s
   ·simp only [Env.putV,aT,Option.some.injEq,h2]
    rfl
theorem Vh {op:AOp} (hl:fX op=true) (dst:Option Nat) (v:Val) {σ:Store} (hv:gY op e σ=some v):Acts dst (v,oK op,oZ op e) e ((pF op e).putV dst v):=by
 have plain:pF op e=e→oK op=[]→oZ op e=none→Acts dst (v,oK op,oZ op e) e ((pF op e).putV dst v):=by
  intro h1 h2 h3
  rw [h1,h2,h3]
  exact gJ [] none (fun s=>by simp) rfl (fun b=>rfl) rfl
 cases op <;> simp only [fX,Bool.false_eq_true] at hl <;> try exact plain rfl rfl rfl
 case load k mv x =>
  simp only [Bool.not_eq_true'] at hl
  subst hl
  exact plain rfl rfl rfl
 case mov x =>
  obtain ⟨k1,k2,k3⟩:=qH (e:=e) x
  exact gJ (wK x) none (qI x) k1 (fun b=>by rw [show pF (.mov x) e=x.drop e from rfl,k2]) k3
 case append sz by_ x y =>
  obtain ⟨k1,k2,k3⟩:=qH (e:=e) x
  exact gJ (wK x) none (qI x) k1 (fun b=>by rw [show pF (.append sz by_ x y) e=x.drop e from rfl,k2]) k3
 case appendS k by_ x y =>
  obtain ⟨k1,k2,k3⟩:=qH (e:=e) x
  exact gJ (wK x) none (qI x) k1 (fun b=>by rw [show pF (.appendS k by_ x y) e=x.drop e from rfl,k2]) k3
 case loadL k mv x =>
  cases mv with
  | false=>exact plain rfl rfl rfl
  | true =>
   simp only [pF,iI,oK,oZ]
   cases ha:eI e x with
   | none=>exact gJ [] none (fun s=>by simp [cC]) rfl (fun b=>rfl) rfl
   | some p =>
    simp only [aF]
    cases p with
    | loc b off =>
     simp only
     cases hb:aB e.boxes b with
     | none =>
      refine gJ [] _ (fun s=>by simp [cC]) rfl (fun b'=>?_) rfl
      simp only [cC]
      split
      ·rename_i h; subst h; rw [hb]; rfl
      ·rfl
     | some cs =>
      refine gJ [] _ (fun s=>by simp [aF]) rfl (fun b'=>?_) rfl
      simp only [aF,aT]
      split
      ·rename_i h; subst h; rw [hb]; rfl
      ·rfl
    | ptr id off=>exact gJ [] none (fun s=>by simp) rfl (fun b=>rfl) rfl
    | eptr d=>exact gJ [] none (fun s=>by simp) rfl (fun b=>rfl) rfl
 case allocN s z =>
  refine gJ [] (some (s,fun _=>some (z.map Cell.of))) (fun t=>by simp [pF]) rfl (fun b=>?_) rfl
  simp only [pF,aT]
 case boxN s x =>
  simp only [gY] at hv
  obtain ⟨c,h1,hv⟩:=aA hv
  simp only [pF,oZ,oK,h1]
  refine gJ [] (some (s,fun _=>some (c.d.cells.map Cell.of))) (fun t=>by simp) rfl (fun b=>?_) rfl
  simp only [aT]
 case storeB b k x y =>
  simp only [gY] at hv
  obtain ⟨p,h1,hv⟩:=aA hv
  obtain ⟨c,h2,hv⟩:=aA hv
  cases p with
  | loc b' off =>
   obtain ⟨h3,hv⟩:=aJ hv
   obtain ⟨cs,h4,hv⟩:=aA hv
   simp only [pF,oZ,oK,h1,h2,h4]
   obtain ⟨k1,k2,k3⟩:=qH (e:=e) y
   refine gJ (wK y) (some (b,fun o=>o.map fun cs=>putCells cs off (dE c))) (qI y) k1 (fun b2=>?_) k3
   simp only [aT]
   split
   ·rename_i h; subst h; rw [h4]; rfl
   ·rfl
  | ptr id off=>cases hv
  | eptr d=>cases hv
def jO (o:AOper) (e:Env) (σ:Store):Option Dat:=aC (nJ o.guard e) fun w=>ifB w (aC (gY o.op e σ) fun v=>some (v,oK o.op,oZ o.op e)) (some (.c ⟨false,.undef⟩,[],none))
theorem lZ {o:AOper} (h:dT (oL o) e e'):nJ o.guard e=nJ o.guard e':=by
 unfold oL at h
 cases hg:o.guard with
 | none=>rfl
 | some p =>
  obtain ⟨s,b⟩:=p
  rw [hg] at h
  simp only [nJ,(h s (by simp)).1]
theorem wU {o:AOper} (σ:Store) (hl:fX o.op=true) (h:dT (oL o) e e') (hb:Qu o.op e e') (hm:Ol o.op=true→∀ b,aB e.boxes b=aB e'.boxes b) (hf:∀ s,mY o.op=some s→jK e.locs s=jK e'.locs s):jO o e σ=jO o e' σ:=by
 have h2:dT (looks o.op) e e':=dT.right h
 simp only [jO,lZ h,zkw σ hl h2 hb hm hf,znf hl h2]
theorem zne {o:AOper} (hl:fX o.op=true) (hn:pW o.op=false) (e:Env) (σ σ':Store):jO o e σ=jO o e σ':=by
 simp only [jO,zkx hl hn e σ σ']
theorem Vn {op:AOp} (hl:fX op=true):op.kind=.op:=by
 cases op <;> simp only [fX,Bool.false_eq_true] at hl <;> rfl
theorem Ui {o:AOper} (hl:fX o.op=true) {σ:Store} {st:Step} (h:fG o e σ=some st):∃ dat e1,jO o e σ=some dat∧st=.next e1 σ∧Acts o.dst dat e e1:=by
 unfold fG at h
 obtain ⟨w,hw,h⟩:=aA h
 rw [Vn hl] at h
 simp only [jO,hw,aC,aF]
 cases w with
 | true =>
  simp only [aE] at h ⊢
  obtain ⟨⟨e1,σ1⟩,h1,h⟩:=aA h
  cases h
  rw [Kp hl] at h1
  obtain ⟨v,hv,h1⟩:=aA h1
  cases h1
  exact ⟨_,_,by rw [hv]; rfl,rfl,Vh hl _ v hv⟩
 | false =>
  simp only [aG,Option.some.injEq] at h ⊢
  subst h
  exact ⟨_,_,rfl,rfl,gJ (v:=.c ⟨false,.undef⟩) [] none (fun s=>by simp) rfl (fun b=>rfl) rfl⟩
theorem Ey {o:AOper} (hl:fX o.op=true) (σ:Store) {dat:Dat} (h:jO o e σ=some dat):∃ e1,fG o e σ=some (.next e1 σ)∧Acts o.dst dat e e1:=by
 unfold jO at h
 obtain ⟨w,hw,h⟩:=aA h
 simp only [fG,hw,aC,aF,Vn hl,Kp hl]
 cases w with
 | true =>
  simp only [aE] at h ⊢
  obtain ⟨v,hv,h⟩:=aA h
  cases h
  rw [hv]
  exact ⟨_,rfl,Vh hl _ v hv⟩
 | false =>
  simp only [aG,Option.some.injEq] at h ⊢
  subst h
  exact ⟨_,rfl,gJ (v:=.c ⟨false,.undef⟩) [] none (fun s=>by simp) rfl (fun b=>rfl) rfl⟩
theorem Acts.eqv {dst:Option Nat} {dat:Dat} {e1 e1':Env} (h:Acts dst dat e e1) (h':Acts dst dat e' e1') (he:Eqv e e'):Eqv e1 e1' :=
 ⟨fun s=>by rw [h.slots,h'.slots,he.slots],fun s=>by rw [h.locs,h'.locs,he.locs],fun b=>by rw [h.boxes,h'.boxes,he.boxes],by rw [h.defers,h'.defers,he.defers]⟩
theorem Acts.agree {dst:Option Nat} {dat:Dat} {e1:Env} (h:Acts dst dat e e1) {L:List Nat} (h1:∀ d,dst=some d→d ∉ L) (h2:∀ s∈dat.2.1,s ∉ L):dT L e e1:=fun s hs=>by
 have n1:¬ dst=some s:=fun k=>h1 s k hs
 have n2:s ∉ dat.2.1:=fun k=>h2 s k hs
 exact ⟨by rw [h.slots,if_neg n1,if_neg n2],by rw [h.locs,if_neg n1]⟩
theorem zb3:∀ (cs:List Cell) (o:Nat),(eV cs o).map Cell.d=cs.map Cell.d
 | [],0=>rfl
 | [],_ + 1=>rfl
 | _ :: _,0=>rfl
 | c :: cs,o + 1=>by simp only [eV,List.map_cons,zb3 cs o]
theorem Jv {op:AOp} {b:Nat} {f:Option (List Cell)→Option (List Cell)} (h:oZ op e=some (b,f)):(wd op=some b∨∀ o,(f o).map (·.map Cell.d)=o.map (·.map Cell.d))∧∀ b',wb op=some (some b')→b'=b:=by
 unfold oZ at h
 split at h
 ·split at h
  ·cases h
   refine ⟨.inr fun o=>?_,fun b' h=>by simp only [wb,Option.some.injEq,reduceCtorEq] at h⟩
   cases o with
   | none=>rfl
   | some cs=>simp only [Option.map_some,zb3]
  ·cases h
 ·split at h
  ·cases h
   exact ⟨.inl rfl,fun b' h=>by simp only [wb,Option.some.injEq] at h; exact h.symm⟩
  ·cases h
 ·cases h
  exact ⟨.inl rfl,fun b' h=>by simp only [wb,Option.some.injEq] at h; exact h.symm⟩
 ·split at h
  ·cases h
   exact ⟨.inl rfl,fun b' h=>by simp only [wb,Option.some.injEq] at h; exact h.symm⟩
  ·cases h
 ·cases h
theorem zX {o:AOper} {dat:Dat} {σ:Store} (h:jO o e σ=some dat):dat.2.2=none∨dat.2.2=oZ o.op e:=by
 unfold jO at h
 obtain ⟨w,_,h⟩:=aA h
 cases w with
 | false=>simp only [aG,Option.some.injEq] at h; subst h; exact .inl rfl
 | true =>
  simp only [aE] at h
  obtain ⟨v,_,h⟩:=aA h
  cases h
  exact .inr rfl
theorem Acts.boxD1 {o:AOper} {dat:Dat} {e1:Env} {σ:Store} (h:Acts o.dst dat e e1) (hd:jO o e σ=some dat) {b:Nat} (hb:wd o.op≠some b):uQ e e1 b:=by
 unfold uQ
 rw [h.boxes]
 rcases zX hd with hn | hn
 ·rw [hn]
 ·cases hx:dat.2.2 with
  | none=>rfl
  | some q =>
   obtain ⟨b',f⟩:=q
   rw [hx] at hn
   simp only
   by_cases hbb:b'=b
   ·subst hbb
    rw [if_pos rfl]
    rcases (Jv hn.symm).1 with h | h
    ·exact absurd h hb
    ·exact (h _).symm
   ·rw [if_neg hbb]
theorem Acts.boxA {o:AOper} {dat:Dat} {e1:Env} {σ:Store} {op:AOp} (h:Acts o.dst dat e e1) (hd:jO o e σ=some dat) (hc:zel (rb op) (wd o.op)=false):Qu op e e1:=by
 unfold Qu
 cases hr:rb op with
 | none=>trivial
 | some r =>
  rw [hr] at hc
  cases r with
  | none =>
   intro b
   refine h.boxD1 hd fun hw=>?_
   rw [hw] at hc
   cases hc
  | some b =>
   refine h.boxD1 hd fun hw=>?_
   rw [hw] at hc
   simp [zel] at hc
theorem zla {op:AOp} {e e':Env} (h:∀ b,aB e.boxes b=aB e'.boxes b):Qu op e e':=by
 unfold Qu
 split
 ·trivial
 ·exact fun b=>by unfold uQ; rw [h]
 ·unfold uQ; rw [h]
theorem Acts.swap {dp di:Option Nat} {p i:Dat} {e1 e2 e1' e2':Env} (h1:Acts dp p e e1) (h2:Acts di i e1 e2) (k1:Acts di i e e1') (k2:Acts dp p e1' e2')
  (hd:∀ s,dp=some s→di≠some s) (hpi:∀ s,dp=some s→s ∉ i.2.1) (hip:∀ s,di=some s→s ∉ p.2.1) (hb:p.2.2=none∨i.2.2=none∨∃ bp fp bi fi,p.2.2=some (bp,fp)∧i.2.2=some (bi,fi)∧bp≠bi):Eqv e2 e2':=by
 refine ⟨fun s=>?_,fun s=>?_,fun b=>?_,by rw [h2.defers,h1.defers,k2.defers,k1.defers]⟩
 ·rw [h2.slots,h1.slots,k2.slots,k1.slots]
  by_cases a:dp=some s
  ·rw [if_pos a,if_neg (hd s a),if_neg (hpi s a),if_pos a]
  ·by_cases b:di=some s
   ·rw [if_pos b,if_neg a,if_neg (hip s b),if_pos b]
   ·rw [if_neg b,if_neg a,if_neg a,if_neg b]
    by_cases c:s∈i.2.1 <;> by_cases d:s∈p.2.1 <;> simp [c,d]
 ·rw [h2.locs,h1.locs,k2.locs,k1.locs]
  by_cases a:dp=some s
  ·rw [if_pos a,if_neg (hd s a),if_pos a]
  ·by_cases b:di=some s
   ·rw [if_pos b,if_neg a,if_pos b]
   ·rw [if_neg b,if_neg a,if_neg a,if_neg b]
 ·rw [h2.boxes,h1.boxes,k2.boxes,k1.boxes]
  rcases hb with hb | hb | ⟨bp,fp,bi,fi,h1,h2,hne⟩
  ·rw [hb]
  ·rw [hb]
  ·rw [h1,h2]
   simp only
   by_cases ha:bi=b
   ·subst ha
    simp only [if_true,if_neg hne]
   ·simp only [if_neg ha]
theorem mJ {l:List (Nat × (Nat × Nat))} {s:Nat}:jK l s=true↔aB l s=none∧∀ t b o,aB l t=some (b,o)→b≠s:=by
 unfold jK
 cases h:aB l s with
 | some q=>simp [aF]
 | none =>
  rw [cC,List.all_eq_true]
  constructor
  ·intro hall
   refine ⟨rfl,fun t b o ht=>?_⟩
   have hk:∃ q∈l,q.1=t:=by
    clear hall h
    induction l with
    | nil=>simp [fO] at ht
    | cons p l ih =>
     obtain ⟨k,v⟩:=p
     rw [bU] at ht
     by_cases hkt:k=t
     ·exact ⟨(k,v),by simp,hkt⟩
     ·rw [if_neg hkt] at ht
      obtain ⟨q,hq,hqt⟩:=ih ht
      exact ⟨q,by simp [hq],hqt⟩
   obtain ⟨q,hq,rfl⟩:=hk
   have:=hall q hq
   rw [ht,aF] at this
   simpa using this
  ·rintro ⟨_,h2⟩ q _
   cases hq:aB l q.1 with
   | none=>rfl
   | some r =>
    obtain ⟨b,o⟩:=r
    rw [aF]
    have:=h2 _ b o hq
    simpa using this
mutual
theorem D.same_eq:∀ {a b:D},D.same a b=true→a=b
 | .undef,b,h=>by cases b <;> simp_all [D.same]
 | .bool x,b,h=>by cases b <;> simp_all [D.same]
 | .int k n,b,h=>by
  cases b <;> simp only [D.same,Bool.false_eq_true,Bool.and_eq_true,beq_iff_eq] at h
  have hk:∀ {k k':IntKind},gQ k k'=true→k=k':=by
   intro k k' h
   cases k <;> cases k' <;> simp_all [gQ]
  rw [hk h.1,h.2]
 | .str x,b,h=>by cases b <;> simp_all [D.same]
 | .nils,b,h=>by cases b <;> simp_all [D.same]
 | .list k x,b,h=>by
  cases b <;> simp only [D.same,Bool.false_eq_true,Bool.and_eq_true,beq_iff_eq] at h
  rename_i k' y
  obtain ⟨⟨⟨h1,h2⟩,h3⟩,h4⟩:=h
  have:k=k':=by cases k; cases k'; simp_all
  rw [this,uO h4]
 | .agg x,b,h=>by
  cases b <;> simp only [D.same,Bool.false_eq_true] at h
  rw [uO h]
 | .tup x,b,h=>by
  cases b <;> simp only [D.same,Bool.false_eq_true] at h
  rw [uO h]
 | .nilp,b,h=>by cases b <;> simp_all [D.same]
 | .ptr x y,b,h=>by cases b <;> simp_all [D.same]
 | .eptr x,b,h=>by
  cases b <;> simp only [D.same,Bool.false_eq_true] at h
  rw [D.same_eq h]
 | .fn g x y,b,h=>by
  cases b <;> simp only [D.same,Bool.false_eq_true,Bool.and_eq_true,decide_eq_true_eq] at h
  obtain ⟨⟨rfl,h1⟩,h2⟩:=h
  rw [uO h1,uO h2]
 | .nilfn,b,h=>by cases b <;> simp_all [D.same]
 | .iface t x,b,h=>by
  cases b <;> simp only [D.same,Bool.false_eq_true,Bool.and_eq_true,beq_iff_eq] at h
  rw [h.1,D.same_eq h.2]
 | .niliface,b,h=>by cases b <;> simp_all [D.same]
 | .junk,b,h=>by cases b <;> simp_all [D.same]
 | .arr k x y z,b,h=>by
  cases b <;> simp only [D.same,Bool.false_eq_true,Bool.and_eq_true,beq_iff_eq] at h
  rename_i k' x' y' z'
  obtain ⟨⟨⟨⟨⟨h1,h2⟩,h3⟩,rfl⟩,rfl⟩,rfl⟩:=h
  have:k=k':=by cases k; cases k'; simp_all
  rw [this]
 | .empt,b,h=>by cases b <;> simp_all [D.same]
 | .map x,b,h=>by cases b <;> simp_all [D.same]
 | .nilmap,b,h=>by cases b <;> simp_all [D.same]
 | .yld x,b,h=>by cases b <;> simp_all [D.same]
theorem uO:∀ {a b:List D},rH a b=true→a=b
 | [],b,h=>by cases b <;> simp_all [rH]
 | x :: a,b,h=>by
  cases b with
  | nil=>simp [rH] at h
  | cons y b =>
   simp only [rH,Bool.and_eq_true] at h
   rw [D.same_eq h.1,uO h.2]
end
theorem zby:∀ {a b:List Cell},vO a b=true→a=b
 | [],b,h=>by cases b <;> simp_all [vO]
 | x :: a,b,h=>by
  cases b with
  | nil=>simp [vO] at h
  | cons y b =>
   simp only [vO,Bool.and_eq_true,beq_iff_eq] at h
   obtain ⟨⟨h1,h2⟩,h3⟩:=h
   obtain ⟨o,d⟩:=x
   obtain ⟨o',d'⟩:=y
   simp only at h1 h2
   rw [h1,D.same_eq h2,zby h3]
theorem zbz:∀ {a b:List (D × D × Nat)},vP a b=true→a=b
 | [],b,h=>by cases b <;> simp_all [vP]
 | (x,y,z) :: a,b,h=>by
  cases b with
  | nil=>simp [vP] at h
  | cons q b =>
   obtain ⟨x',y',z'⟩:=q
   simp only [vP,Bool.and_eq_true,beq_iff_eq] at h
   obtain ⟨⟨⟨h1,h2⟩,rfl⟩,h3⟩:=h
   rw [D.same_eq h1,D.same_eq h2,zbz h3]
theorem zvk {a b:Option (List Cell)} (h:Xs a b=true):a=b:=by
 cases a <;> cases b <;> simp only [Xs,Bool.false_eq_true] at h
 rw [zby h]
theorem zvj {es:List (D × D × Nat)} {c:Nat} {b:Option Oth} (h:uZ (some (.map es c)) b=true):some (.map es c)=b:=by
 cases b with
 | none=>simp [uZ] at h
 | some b =>
  cases b <;> simp only [uZ,Bool.false_eq_true,Bool.and_eq_true,beq_iff_eq] at h
  rw [zbz h.1,h.2]
def qM:AOpd→Option Nat
 | .tmp s=>some s
 | .mv s=>some s
 | .const _=>none
def qJ:AOp→Option Nat
 | .load _ _ x=>qM x
 | .loadP _ x=>qM x
 | .loadG _ x=>qM x
 | .lookup _ _ _ x _=>qM x
 | .lenM x=>qM x
 | _=>none
def Pj (p i:AOper):Bool:=match qJ p.op,gR i.op with
 | some s,some ws=>ws.contains s && !(p.dst == some s)
 | _,_=>false
theorem Xx {b:Option (List Nat)} {σ σ':Store} (h:∀ s,(∀ ws,b=some ws→s∈ws→aB e.slots s=aB e'.slots s)):tK b e σ σ'=tK b e' σ σ':=by
 cases b with
 | none=>rfl
 | some ws =>
  unfold tK
  simp only [aF]
  have:∀ s∈ws,iL e σ σ' s=iL e' σ σ' s:=fun s hs=>by
   unfold iL
   rw [h s ws rfl hs]
  rw [Bool.eq_iff_iff,List.all_eq_true,List.all_eq_true]
  exact ⟨fun k s hs=>(this s hs) ▸ k s hs,fun k s hs=>(this s hs).symm ▸ k s hs⟩
theorem zl8 {s:Nat} {σ σ':Store} (h:(aB e.slots s).map Cell.d=(aB e'.slots s).map Cell.d):iL e σ σ' s=iL e' σ σ' s:=by
 unfold iL
 cases h1:aB e.slots s with
 | none =>
  rw [h1] at h
  cases h2:aB e'.slots s with
  | none=>rfl
  | some c=>rw [h2] at h; cases h
 | some c =>
  rw [h1] at h
  cases h2:aB e'.slots s with
  | none=>rw [h2] at h; cases h
  | some c' =>
   rw [h2] at h
   simp only [Option.map_some,Option.some.injEq] at h
   simp only [aF,h]
theorem Nr {x:AOpd} {s id off:Nat} {σ σ':Store} {cs:List Cell} (hx:qM x=some s) (hp:eI e x=some (.ptr id off)) (h:iL e σ σ' s=true) (hc:aB σ.objs id=some cs):aB σ'.objs id=some cs:=by
 have key:aB e.slots s=aB e.slots s→(aC (aB e.slots s) fun c=>pK c.d)=some (.ptr id off)→aB σ'.objs id=some cs:=by
  intro _ hp
  obtain ⟨c,h1,h2⟩:=aA hp
  unfold iL at h
  rw [h1] at h
  simp only [aF] at h
  cases hd:c.d <;> rw [hd] at h2 <;> simp only [pK,reduceCtorEq,Option.some.injEq,Ptr.ptr.injEq] at h2
  obtain ⟨rfl,rfl⟩:=h2
  rw [hd] at h
  simp only [hc,aF] at h
  exact (zvk h).symm
 cases x <;> simp only [qM,reduceCtorEq,Option.some.injEq] at hx <;> subst hx <;> simp only [eI] at hp
 all_goals
  cases hl:aB e.locs _ with
  | none=>rw [hl] at hp; exact key rfl hp
  | some q=>rw [hl] at hp; simp only [aF,reduceCtorEq,Option.some.injEq] at hp
theorem zb0 {x:AOpd} {s:Nat} {σ σ':Store} {c:Cell} {es:List (D × D × Nat)} (hx:qM x=some s) (hp:opd e x=some c) (h:iL e σ σ' s=true) (hc:rC σ.oth c.d=some es):rC σ'.oth c.d=some es:=by
 have key:∀ c0:Cell,aB e.slots s=some c0→c0.d=c.d→rC σ'.oth c.d=some es:=by
  intro c0 h1 h2
  unfold iL at h
  rw [h1] at h
  simp only [aF] at h
  rw [h2] at h
  cases hd:c.d <;> rw [hd] at hc h <;> simp only [rC,reduceCtorEq] at hc ⊢
  ·obtain ⟨y,h3,hc⟩:=aA hc
   cases y <;> simp only [reduceCtorEq] at hc
   simp only [h3,aF] at h
   rw [← zvj h]
   exact hc
  ·exact hc
 cases x <;> simp only [qM,reduceCtorEq,Option.some.injEq] at hx <;> subst hx <;> simp only [opd] at hp
 ·obtain ⟨c0,h1,h2⟩:=aA hp
  cases h2
  exact key c0 h1 rfl
 ·exact key c hp rfl
theorem zpt {op:AOp} (hl:fX op=true) (hn:pW op=true) {σ σ':Store} {s:Nat} (hs:qJ op=some s) (h:iL e σ σ' s=true) {v:Val} (hv:gY op e σ=some v):gY op e σ'=some v:=by
 cases op <;> simp only [pW,Bool.false_eq_true] at hn
 case load k mv x =>
  simp only [qJ] at hs
  simp only [gY,aK] at hv ⊢
  obtain ⟨p,h1,hv⟩:=aA hv
  rw [h1]
  simp only [aC,aF]
  cases p with
  | loc b off=>exact hv
  | eptr d=>exact hv
  | ptr id off =>
   obtain ⟨cs,h2,hv⟩:=aA hv
   simp only [Nr hs h1 h h2,aF]
   exact hv
 case loadP k x =>
  simp only [qJ] at hs
  simp only [gY,aK] at hv ⊢
  obtain ⟨p,h1,hv⟩:=aA hv
  rw [h1]
  simp only [aC,aF]
  cases p with
  | loc b off=>cases hv
  | eptr d=>cases hv
  | ptr id off =>
   obtain ⟨cs,h2,hv⟩:=aA hv
   simp only [Nr hs h1 h h2,aF]
   exact hv
 case loadG k x =>
  simp only [qJ] at hs
  simp only [gY,aK] at hv ⊢
  obtain ⟨p,h1,hv⟩:=aA hv
  rw [h1]
  simp only [aC,aF]
  cases p with
  | loc b off=>cases hv
  | eptr d=>exact hv
  | ptr id off =>
   obtain ⟨cs,h2,hv⟩:=aA hv
   simp only [Nr hs h1 h h2,aF]
   exact hv
 case lookup ks z ok x y =>
  simp only [qJ] at hs
  simp only [gY,aK] at hv ⊢
  obtain ⟨c,h1,hv⟩:=aA hv
  rw [h1]
  simp only [aC,aF]
  obtain ⟨k,h2,hv⟩:=aA hv
  obtain ⟨es,h3,hv⟩:=aA hv
  rw [h2,zb0 hs h1 h h3]
  exact hv
 case lenM x =>
  simp only [qJ] at hs
  simp only [gY,aK] at hv ⊢
  obtain ⟨c,h1,hv⟩:=aA hv
  rw [h1]
  simp only [aC,aF]
  obtain ⟨es,h3,hv⟩:=aA hv
  rw [zb0 hs h1 h h3]
  exact hv
theorem zqy {o:AOper} (hl:fX o.op=true) (hn:pW o.op=true) {σ σ':Store} {s:Nat} (hs:qJ o.op=some s) (h:iL e σ σ' s=true) {dat:Dat} (hd:jO o e σ=some dat):jO o e σ'=some dat:=by
 unfold jO at hd ⊢
 obtain ⟨w,h1,hd⟩:=aA hd
 rw [h1]
 simp only [aC,aF]
 cases w with
 | false=>exact hd
 | true =>
  simp only [aE] at hd ⊢
  obtain ⟨v,h2,hd⟩:=aA hd
  rw [zpt hl hn hs h h2]
  exact hd
theorem zsv {op:AOp} (hl:fX op=true) (ha:mY op=none) {σ:Store} {b off:Nat} (hv:gY op e σ=some (.l b off)):∃ t o,aB e.locs t=some (b,o):=by
 have addr_loc:∀ {x:AOpd} {b off:Nat},eI e x=some (.loc b off)→∃ t,aB e.locs t=some (b,off):=by
  intro x b off h
  have key:∀ t,(bT (aB e.locs t) (aC (aB e.slots t) fun c=>pK c.d) fun p=>some (.loc p.1 p.2))=some (Ptr.loc b off)→aB e.locs t=some (b,off):=by
   intro t h
   cases hl:aB e.locs t with
   | some p =>
    obtain ⟨x,y⟩:=p
    rw [hl] at h
    simp only [aF,Option.some.injEq,Ptr.loc.injEq] at h
    rw [h.1,h.2]
   | none =>
    rw [hl,cC] at h
    obtain ⟨c,h1,h⟩:=aA h
    cases hd:c.d <;> rw [hd] at h <;> simp only [pK,reduceCtorEq,Option.some.injEq] at h
  cases x with
  | tmp t=>exact ⟨t,key t h⟩
  | mv t=>exact ⟨t,key t h⟩
  | const d=>cases d <;> simp [eI,pK] at h
 cases op <;> simp only [fX,Bool.false_eq_true] at hl <;> simp only [mY,reduceCtorEq] at ha <;> simp only [gY,aK] at hv
 case nilCheck x =>
  obtain ⟨p,h1,hv⟩:=aA hv
  cases p <;> simp only [Option.some.injEq,Val.l.injEq,reduceCtorEq] at hv
  obtain ⟨rfl,rfl⟩:=hv
  exact ⟨_,_,(addr_loc h1).choose_spec⟩
 case fieldAddr o k x =>
  obtain ⟨p,h1,hv⟩:=aA hv
  cases p with
  | loc b' o' =>
   simp only [Option.some.injEq,Val.l.injEq] at hv
   obtain ⟨rfl,rfl⟩:=hv
   exact ⟨_,_,(addr_loc h1).choose_spec⟩
  | ptr id o'=>simp at hv
  | eptr d =>
   obtain ⟨cs,_,hv⟩:=aA hv
   obtain ⟨d',_,hv⟩:=aA hv
   cases hv
 case indexAddrP n sz x i =>
  obtain ⟨p,h1,hv⟩:=aA hv
  obtain ⟨ic,_,hv⟩:=aA hv
  obtain ⟨m,_,hv⟩:=aA hv
  obtain ⟨_,hv⟩:=aJ hv
  cases p with
  | loc b' o' =>
   simp only [Option.some.injEq,Val.l.injEq] at hv
   obtain ⟨rfl,rfl⟩:=hv
   exact ⟨_,_,(addr_loc h1).choose_spec⟩
  | ptr id o'=>simp at hv
  | eptr d=>cases hv
 all_goals
  exfalso
  revert hv
  simp only [aC,bT,ifB]
  repeat' split
  all_goals simp
def Fa (l m:List Nat):Bool:=l.all fun x=>!m.contains x
def Xf (op:AOp):Bool:=fX op || pH op || (match op with | .call _ _=>true | .callv _ _=>true | .callW _ _ _=>true | .callvW _ _ _=>true | .panic _=>true | _=>false)
def zom (o:AOper):Bool:=match mY o.op with
 | some s=>o.dst == some s && o.guard.isNone
 | none=>true
def En (p i:AOper):Bool :=
 fX p.op && (Xf i.op && (fX i.op || !pW p.op || Pj p i) && Fa p.dst.toList (oL i) && Fa i.dst.toList (oL p) && Fa p.dst.toList i.dst.toList && Fa (oK p.op) (oL i) && Fa (oK i.op) (oL p) &&
 Fa p.dst.toList (oK i.op) && Fa i.dst.toList (oK p.op) && !zel (rb p.op) (wd i.op) && !zel (rb i.op) (wd p.op) && !Ci (wb p.op) (wb i.op) && zom p && zom i && ((mY i.op).isNone || (mY p.op).isSome))
theorem vG {l m:List Nat} (h:Fa l m=true):∀ s∈l,s ∉ m:=fun s hs=>by
 simpa using List.all_eq_true.1 h s hs
theorem Ju {op:AOp} (h:wb op=none):oZ op e=none:=by
 cases op <;> simp only [wb,reduceCtorEq] at h <;> try rfl
 case loadL k mv x=>cases mv <;> simp only [reduceCtorEq] at h; rfl
theorem Acts.box_none {o:AOper} {dat:Dat} {σ:Store} (hd:jO o e σ=some dat) (hm:wb o.op=none):dat.2.2=none:=by
 rcases zX hd with h | h
 ·exact h
 ·rw [h,Ju hm]
theorem rY {o:AOper} {dat:Dat} {σ:Store} (hd:jO o e σ=some dat):∀ s∈dat.2.1,s∈oK o.op:=by
 unfold jO at hd
 obtain ⟨w,_,h⟩:=aA hd
 cases w with
 | false=>simp only [aG,Option.some.injEq] at h; subst h; intro s hs; cases hs
 | true =>
  simp only [aE] at h
  obtain ⟨v,_,h⟩:=aA h
  cases h
  exact fun s hs=>hs
theorem vF {o:AOper} {dat:Dat} {σ:Store} (hd:jO o e σ=some dat) (ho:zom o=true) {s:Nat} (ha:mY o.op=some s):o.dst=some s∧jK e.locs s=true∧dat.1=.l s 0:=by
 unfold zom at ho
 rw [ha] at ho
 simp only [Bool.and_eq_true,beq_iff_eq,Option.isNone_iff_eq_none] at ho
 unfold jO at hd
 rw [ho.2] at hd
 simp only [nJ,aC,aF,aE] at hd
 cases hop:o.op <;> rw [hop] at ha hd <;> simp only [mY,reduceCtorEq,Option.some.injEq] at ha <;> subst ha
 ·simp only [gY] at hd
  cases hf:jK e.locs _ with
  | false=>rw [hf] at hd; cases hd
  | true =>
   rw [hf] at hd
   simp only [aE,aF,Option.some.injEq] at hd
   subst hd
   exact ⟨ho.1,rfl,rfl⟩
 ·rename_i s x
  simp only [gY] at hd
  cases hx:opd e x with
  | none=>rw [hx] at hd; cases hd
  | some c =>
   rw [hx] at hd
   simp only [aC,aF] at hd
   cases hf:jK e.locs s with
   | false=>rw [hf] at hd; cases hd
   | true =>
    rw [hf,Bool.true_and] at hd
    cases hok:c.d.ok with
    | false=>rw [hok] at hd; cases hd
    | true =>
     rw [hok] at hd
     simp only [aE,aF,Option.some.injEq] at hd
     subst hd
     exact ⟨ho.1,rfl,rfl⟩
theorem yF {op:AOp} (h:dT (looks op) e e'):mZ op e=mZ op e':=by
 cases op <;> simp only [looks] at h <;> simp only [mZ]
 case call f as=>rw [lD h]
 case callv x as=>rw [aL h.left,lD h.right]
 case callW ws f as=>rw [lD h]
 case callvW ws x as=>rw [aL h.left,lD h.right]
theorem Ij {op:AOp} (h:dT (looks op) e e'):uK op e=uK op e':=by
 cases op <;> simp only [looks] at h <;> simp only [uK]
 case panic x=>rw [aL h]
inductive OutEqv:OpsOut→OpsOut→Prop where
 | normal {e e':Env} {σ:Store} (h:Eqv e e'):OutEqv (.normal e σ) (.normal e' σ)
 | panic {d:D} {e e':Env} {σ:Store} (h:e.defers=e'.defers):OutEqv (.panic d e σ) (.panic d e' σ)
theorem OutEqv.refl (o:OpsOut):OutEqv o o:=by
 cases o
 ·exact .normal (Eqv.refl _)
 ·exact .panic rfl
theorem OutEqv.trans {o o' o'':OpsOut} (h:OutEqv o o') (k:OutEqv o' o''):OutEqv o o'':=by
 cases h with
 | normal h=>cases k with | normal k=>exact .normal (h.trans k)
 | panic h=>cases k with | panic k=>exact .panic (h.trans k)
theorem Eqv.agree {e e':Env} (h:Eqv e e') (L:List Nat):dT L e e':=fun s _=>⟨h.slots s,h.locs s⟩
theorem Eqv.boxA {e e':Env} (h:Eqv e e') (op:AOp):Qu op e e':=zla h.boxes
theorem Eqv.lfr {e e':Env} (h:Eqv e e') (s:Nat):jK e.locs s=jK e'.locs s:=by
 have:jK e.locs s=true↔jK e'.locs s=true:=by simp only [mJ,h.locs]
 cases h1:jK e.locs s <;> cases h2:jK e'.locs s <;> simp_all
def zlu:AOp→Bool
 | .store _ _ _=>true
 | _=>false
def rZ (op:AOp):Bool:=Xf op || zlu op
theorem Dw {e e':Env} (h:Eqv e e') (d:Option Nat) (c:Cell):Eqv (e.put d c) (e'.put d c):=by
 cases d with
 | none=>exact h
 | some s=>exact ⟨fun t=>by simp only [Env.put,aT,h.slots],fun t=>by simp only [Env.put,bH,h.locs],h.boxes,h.defers⟩
theorem zsp {e e':Env} (h:Eqv e e') {dst:Option Nat} {k:Nat} {x y:AOpd} {σ:Store} {e1:Env} {σ1:Store} (hs:aS dst (.store k x y) e σ=some (e1,σ1)):∃ e1',aS dst (.store k x y) e' σ=some (e1',σ1)∧Eqv e1 e1':=by
 have hd:Eqv (y.drop e) (y.drop e'):=by
  obtain ⟨k1,k2,k3⟩:=qH (e:=e) y
  obtain ⟨q1,q2,q3⟩:=qH (e:=e') y
  exact ⟨fun s=>by rw [qI,qI,h.slots],fun s=>by rw [k1,q1,h.locs],fun s=>by rw [k2,q2,h.boxes],by rw [k3,q3,h.defers]⟩
 simp only [aS] at hs ⊢
 rw [← gU (h.agree _),← aL (h.agree _)]
 obtain ⟨p,h1,hs⟩:=aA hs
 obtain ⟨c,h2,hs⟩:=aA hs
 rw [h1,h2]
 simp only [aC,aF]
 cases p with
 | loc b off =>
  simp only at hs ⊢
  obtain ⟨cs,h3,hs⟩:=aA hs
  obtain ⟨h4,hs⟩:=aJ hs
  cases hs
  rw [← h.boxes,h3]
  simp only [aF,h4,aE]
  have hE:Eqv {y.drop e with boxes:=aU e.boxes b (putCells cs off (dE c))} {y.drop e' with boxes:=aU e'.boxes b (putCells cs off (dE c))} :=
   ⟨hd.slots,hd.locs,fun s=>by simp only [aT,h.boxes],hd.defers⟩
  exact ⟨_,rfl,Dw hE _ _⟩
 | ptr id off =>
  simp only at hs ⊢
  obtain ⟨cs,h3,hs⟩:=aA hs
  obtain ⟨h4,hs⟩:=aJ hs
  cases hs
  rw [h3]
  simp only [aF,h4,aE]
  exact ⟨_,rfl,Dw hd _ _⟩
 | eptr d=>cases hs
theorem zvv {e e':Env} (h:Eqv e e') {o:AOper} (ho:rZ o.op=true) {σ:Store} {st:Step} (hs:fG o e σ=some st) :
  (∃ e1 e1' σ1,st=.next e1 σ1∧fG o e' σ=some (.next e1' σ1)∧Eqv e1 e1')∨((∀ e1 σ1,st≠.next e1 σ1)∧fG o e' σ=some st):=by
 by_cases hl:fX o.op=true
 ·obtain ⟨dat,e1,h1,rfl,h2⟩:=Ui hl hs
  rw [wU σ hl (h.agree _) (h.boxA _) (fun _ b=>h.boxes b) (fun s _=>h.lfr s)] at h1
  obtain ⟨e1',k1,k2⟩:=Ey hl σ h1
  exact .inl ⟨e1,e1',σ,rfl,k1,h2.eqv k2 h⟩
 ·unfold fG at hs ⊢
  obtain ⟨w,hw,hs⟩:=aA hs
  rw [← lZ (o:=o) (h.agree _),hw]
  simp only [aC,aF]
  cases w with
  | false =>
   simp only [aG,Option.some.injEq] at hs ⊢
   subst hs
   exact .inl ⟨_,_,_,rfl,rfl,Dw h _ _⟩
  | true =>
   simp only [aE] at hs ⊢
   by_cases hm:pH o.op=true
   ·rw [Ry hm] at hs ⊢
    simp only at hs ⊢
    rw [Fb hm] at hs ⊢
    obtain ⟨⟨e1,σ1⟩,h1,hs⟩:=aA hs
    cases hs
    unfold bF at h1 ⊢
    rw [← Be σ hm (h.agree _)]
    obtain ⟨r,h2,h1⟩:=aA h1
    cases h1
    rw [h2]
    exact .inl ⟨_,_,_,rfl,rfl,Dw h _ _⟩
   have hm':pH o.op=false:=by simpa using hm
   cases hk:o.op <;> rw [hk] at ho hl hs hm' <;> simp only [rZ,Xf,fX,zlu,hm',Bool.or_self,Bool.false_eq_true,not_true_eq_false] at ho hl <;> simp only [AOp.kind] at hs ⊢ <;> simp only [pH,Bool.true_eq_false] at hm'
   ·exfalso
    rename_i k mv x
    cases mv <;> simp at ho hl
   ·obtain ⟨⟨e1,σ1⟩,h1,hs⟩:=aA hs
    cases hs
    obtain ⟨e1',k1,k2⟩:=zsp h h1
    rw [k1]
    exact .inl ⟨e1,e1',σ1,rfl,rfl,k2⟩
   all_goals first
    | (obtain ⟨⟨f,as⟩,h1,hs⟩:=aA hs
       cases hs
       rw [← yF (h.agree _),h1]
       exact .inr ⟨(fun _ _ h=>by cases h),rfl⟩)
    | (obtain ⟨d,h1,hs⟩:=aA hs
       cases hs
       rw [← Ij (h.agree _),h1]
       exact .inr ⟨(fun _ _ h=>by cases h),rfl⟩)
theorem Hq {C:aM}:∀ {l:List AOper} (_:∀ o∈l,rZ o.op=true) {e e':Env} (_:Eqv e e') {σ:Store} {out:OpsOut},dH C l e σ=some out→∃ out',dH C l e' σ=some out'∧OutEqv out out'
 | [],_,e,e',he,σ,out,h=>by
  simp only [dH,Option.some.injEq] at h
  subst h
  exact ⟨_,rfl,.normal he⟩
 | o :: l,hl,e,e',he,σ,out,h=>by
  simp only [dH] at h ⊢
  obtain ⟨st,h1,h⟩:=aA h
  have ih:=@Hq C l fun o ho=>hl o (by simp [ho])
  rcases zvv he (hl o (by simp)) h1 with ⟨e1,e1',σ1,rfl,k1,k2⟩ | ⟨k0,k1⟩
  ·rw [k1]
   simp only at h
   obtain ⟨h3,h⟩:=aJ h
   rw [Xx (e':=e') (fun s _ _ _=>he.slots s)] at h3
   simp only [aC,aF,h3,aE]
   exact ih k2 h
  ·rw [k1]
   simp only [aC,aF]
   cases st with
   | next e1 σ1=>exact absurd rfl (k0 e1 σ1)
   | call f as =>
    simp only at h ⊢
    obtain ⟨⟨r,σ1⟩,h2,h⟩:=aA h
    rw [h2]
    obtain ⟨h3,h⟩:=aJ h
    rw [Xx (e':=e') (fun s _ _ _=>he.slots s)] at h3
    simp only [aF,h3,aE]
    cases r with
    | ret c=>exact ih (Dw he _ _) h
    | panic d =>
     simp only [Option.some.injEq] at h
     subst h
     exact ⟨_,rfl,.panic he.defers⟩
   | panic d =>
    simp only [Option.some.injEq] at h
    subst h
    exact ⟨_,rfl,.panic he.defers⟩
def xU (C:aM) (i:AOper) (l:List AOper) (e:Env) (σ:Store):Option OpsOut:=aC (fG i e σ) fun s=>match s with
 | .next e' σ'=>dH C l e' σ'
 | .call f as=>aC (C f as σ) fun r=>match r.1 with
  | .ret c=>dH C l (e.put i.dst c) r.2
  | .panic d=>some (.panic d e r.2)
 | .panic d=>some (.panic d e σ)
def zc5 (C:aM) (i:AOper) (e:Env) (σ σ1:Store):Prop:=(∃ e',fG i e σ=some (.next e' σ1))∨∃ f as r,fG i e σ=some (.call f as)∧C f as σ=some (r,σ1)
theorem Qp {o:AOper} (h:fX o.op=true):gR o.op=none:=by
 cases ho:o.op <;> rw [ho] at h <;> simp only [fX,Bool.false_eq_true] at h <;> rfl
theorem zu7 {C:aM} {p i:AOper} (ha:En p i=true) {l:List AOper} (hl:∀ o∈l,rZ o.op=true) {σ:Store} {out:OpsOut} {pd:Dat} {e1:Env} (q1:jO p e σ=some pd) (q2:Acts p.dst pd e e1) (h:xU C i l e1 σ=some out)
  (hW:pW p.op=true→fX i.op=false→∀ σ1,zc5 C i e1 σ σ1→∃ s,qJ p.op=some s∧iL e σ σ1 s=true) :
  ∃ out',xU C i (p :: l) e σ=some out'∧OutEqv out out':=by
 simp only [En,Bool.and_eq_true,Bool.not_eq_true'] at ha
 obtain ⟨hlp,⟨⟨⟨⟨⟨⟨⟨⟨⟨⟨⟨⟨⟨⟨hpi,a0⟩,a1⟩,a2⟩,a3⟩,a4⟩,a5⟩,a6⟩,a7⟩,b1⟩,b2⟩,b3⟩,b4⟩,b5⟩,b6⟩⟩:=ha
 have a0':=Bool.or_eq_true_iff.1 a0
 have b6':=Bool.or_eq_true_iff.1 b6
 simp only [xU,dH] at h ⊢
 obtain ⟨st2,h2,h⟩:=aA h
 have toL:∀ {d:Option Nat} {L:List Nat},Fa d.toList L=true→∀ s,d=some s→s ∉ L:=fun hh s hs=>vG hh s (by simp [hs])
 have ag:dT (oL i) e e1:=q2.agree (toL a1) (fun s hs=>vG a4 s (rY q1 s hs))
 have mvp:Ol p.op=true→wb i.op=none:=fun hm=>by
  cases hp:p.op <;> rw [hp] at hm <;> simp only [Ol,Bool.false_eq_true] at hm
  subst hm
  rw [hp] at b3
  cases hw:wb i.op with
  | none=>rfl
  | some r=>rw [hw] at b3; cases r <;> simp [wb,Ci] at b3
 have mvi:Ol i.op=true→wb p.op=none:=fun hm=>by
  cases hi:i.op <;> rw [hi] at hm <;> simp only [Ol,Bool.false_eq_true] at hm
  subst hm
  rw [hi] at b3
  cases hw:wb p.op with
  | none=>rfl
  | some r=>rw [hw] at b3; cases r <;> simp [wb,Ci] at b3
 by_cases hli:fX i.op=true
 ·obtain ⟨idt,e2,r1,rfl,r2⟩:=Ui hli h2
  have r1':jO i e σ=some idt:=by
   rw [← r1]
   refine wU σ hli ag (q2.boxA q1 b2) (fun hm b=>?_) (fun s' hs'=>?_)
   ·rw [q2.boxes,Acts.box_none q1 (mvi hm)]
   ·
    have hp:(mY p.op).isSome=true:=b6'.resolve_left (by rw [hs']; simp)
    obtain ⟨s,hs⟩:=Option.isSome_iff_exists.1 hp
    obtain ⟨k1,k2,k3⟩:=vF q1 b4 hs
    obtain ⟨g1,g2,g3⟩:=vF r1 b5 hs'
    rw [g2]
    have hne:s≠s':=fun hh=>toL a3 s k1 (by rw [g1,hh]; simp)
    obtain ⟨m1,m2⟩:=mJ.1 g2
    obtain ⟨n1,n2⟩:=mJ.1 k2
    refine mJ.2 ⟨?_,fun t b o ht=>?_⟩
    ·rw [q2.locs,if_neg (fun hh=>hne (by rw [k1] at hh; exact Option.some.inj hh))] at m1
     exact m1
    ·by_cases hts:t=s
     ·rw [hts,n1] at ht
      cases ht
     ·refine m2 t b o ?_
      rw [q2.locs,k1,if_neg (fun hh=>hts (Option.some.inj hh).symm)]
      exact ht
  obtain ⟨e1',s1,s2⟩:=Ey hli σ r1'
  have q1':jO p e1' σ=some pd:=by
   rw [← q1]
   refine (wU σ hlp (s2.agree (toL a2) (fun s hs=>vG a5 s (rY r1' s hs))) (s2.boxA r1' b1) (fun hm b=>?_) (fun s hs=>?_)).symm
   ·rw [s2.boxes,Acts.box_none r1' (mvp hm)]
   ·obtain ⟨k1,k2,k3⟩:=vF q1 b4 hs
    rw [k2]
    symm
    obtain ⟨n1,n2⟩:=mJ.1 k2
    have hd:i.dst≠some s:=fun hh=>toL a3 s k1 (by rw [hh]; simp)
    refine mJ.2 ⟨by rw [s2.locs,if_neg hd]; exact n1,fun t b o ht=>?_⟩
    rw [s2.locs] at ht
    split at ht
    ·
     cases hia:mY i.op with
     | some s' =>
      obtain ⟨g1,g2,g3⟩:=vF r1' b5 hia
      rw [g3] at ht
      simp only [Val.loc?,Option.some.injEq,Prod.mk.injEq] at ht
      intro hh
      apply hd
      rw [g1,ht.1,hh]
     | none =>
      cases hv:idt.1 with
      | c c=>rw [hv] at ht; cases ht
      | l b' o' =>
       rw [hv] at ht
       simp only [Val.loc?,Option.some.injEq,Prod.mk.injEq] at ht
       obtain ⟨rfl,rfl⟩:=ht
       have hvv:∃ v,gY i.op e σ=some v∧v=idt.1:=by
        unfold jO at r1'
        obtain ⟨w,_,r1'⟩:=aA r1'
        cases w with
        | false=>simp only [aG,Option.some.injEq] at r1'; subst r1'; cases hv
        | true =>
         simp only [aE] at r1'
         obtain ⟨v,hv',r1'⟩:=aA r1'
         cases r1'
         exact ⟨v,hv',rfl⟩
       obtain ⟨v,hv1,hv2⟩:=hvv
       rw [hv2,hv] at hv1
       obtain ⟨t',o2,hl'⟩:=zsv hli hia hv1
       exact n2 t' _ _ hl'
    ·exact n2 t b o ht
  obtain ⟨e2',t1,t2⟩:=Ey hlp σ q1'
  have hE:Eqv e2 e2':=q2.swap r2 s2 t2 (fun s hs k=>toL a3 s hs (by simp [k])) (fun s hs k=>toL a6 s hs (rY r1' s k)) (fun s hs k=>toL a7 s hs (rY q1 s k)) (by
   rcases zX q1 with hp | hp
   ·exact .inl hp
   ·rcases zX r1' with hi | hi
    ·exact .inr (.inl hi)
    ·cases hpb:oZ p.op e with
     | none=>exact .inl (hp.trans hpb)
     | some x =>
      cases hib:oZ i.op e with
      | none=>exact .inr (.inl (hi.trans hib))
      | some y =>
       obtain ⟨bp,fp⟩:=x
       obtain ⟨bi,fi⟩:=y
       refine .inr (.inr ⟨bp,fp,bi,fi,hp.trans hpb,hi.trans hib,?_⟩)
       have s1:=(Jv hpb).2
       have s2:=(Jv hib).2
       have n1:wb p.op≠none:=fun h=>by rw [Ju h] at hpb; cases hpb
       have n2:wb i.op≠none:=fun h=>by rw [Ju h] at hib; cases hib
       cases hwp:wb p.op with
       | none=>exact absurd hwp n1
       | some x =>
        cases hwi:wb i.op with
        | none=>exact absurd hwi n2
        | some y =>
         rw [hwp,hwi] at b3
         cases x with
         | none=>cases y <;> simp [Ci] at b3
         | some x =>
          cases y with
          | none=>simp [Ci] at b3
          | some y =>
           have:=s1 x hwp
           have:=s2 y hwi
           subst_vars
           simpa [Ci] using b3)
  rw [s1]
  have hso:∀ ee σa σb,tK (gR p.op) ee σa σb=true:=fun ee σa σb=>by rw [Qp hlp]; rfl
  simp only [aC,aF,t1,hso,aE]
  exact Hq hl hE h
 ·
  have hli':fX i.op=false:=by simpa using hli
  have h2s:=h2
  unfold fG at h2 ⊢
  obtain ⟨w,hw,h2⟩:=aA h2
  rw [lZ ag,hw]
  simp only [aC,aF]
  have after:∀ (c:Cell) (σ1:Store) (out:OpsOut),(pW p.op=true→σ1=σ∨∃ s,qJ p.op=some s∧iL e σ σ1 s=true)→dH C l (e1.put i.dst c) σ1=some out→∃ out',(bT (fG p (e.put i.dst c) σ1) none fun s=>match s with
    | .next e' σ'=>ifB (tK (gR p.op) (e.put i.dst c) σ1 σ') (dH C l e' σ') none
    | .call f as=>aC (C f as σ1) fun r=>ifB (tK (gR p.op) (e.put i.dst c) σ1 r.2) (match r.1 with
     | .ret c'=>dH C l ((e.put i.dst c).put p.dst c') r.2
     | .panic d=>some (.panic d (e.put i.dst c) r.2)) none
    | .panic d=>some (.panic d (e.put i.dst c) σ1))=some out'∧OutEqv out out':=by
   intro c σ1 out hst hrun
   have s2:Acts i.dst (.c c,[],none) e (e.put i.dst c):=gJ (v:=.c c) [] none (fun s=>by simp) rfl (fun b=>rfl) rfl
   have r2:Acts i.dst (.c c,[],none) e1 (e1.put i.dst c):=gJ (v:=.c c) [] none (fun s=>by simp) rfl (fun b=>rfl) rfl
   have q1σ:jO p e σ1=some pd:=by
    cases hn:pW p.op with
    | false=>rw [← zne hlp hn e σ σ1]; exact q1
    | true =>
     rcases hst hn with rfl | ⟨s,hs1,hw1⟩
     ·exact q1
     ·exact zqy hlp hn hs1 hw1 q1
   have q1':jO p (e.put i.dst c) σ1=some pd:=by
    rw [← q1σ]
    refine (wU σ1 hlp (s2.agree (toL a2) (fun s hs=>by cases hs)) (zla fun b=>by rw [s2.boxes]) (fun _ b=>by rw [s2.boxes]) (fun s hs=>?_)).symm
    obtain ⟨k1,k2,k3⟩:=vF q1 b4 hs
    rw [k2]
    symm
    obtain ⟨n1,n2⟩:=mJ.1 k2
    have hd:i.dst≠some s:=fun hh=>toL a3 s k1 (by rw [hh]; simp)
    refine mJ.2 ⟨by rw [s2.locs,if_neg hd]; exact n1,fun t b o ht=>?_⟩
    rw [s2.locs] at ht
    split at ht
    ·cases ht
    ·exact n2 t b o ht
   obtain ⟨e2',t1,t2⟩:=Ey hlp σ1 q1'
   have hE:=q2.swap r2 s2 t2 (fun s hs k=>toL a3 s hs (by simp [k])) (fun s hs k=>by cases k) (fun s hs k=>toL a7 s hs (rY q1 s k)) (.inr (.inl rfl))
   rw [t1]
   have hso:∀ ee σa σb,tK (gR p.op) ee σa σb=true:=fun ee σa σb=>by rw [Qp hlp]; rfl
   simp only [aF,hso,aE]
   exact Hq hl hE hrun
  cases w with
  | false =>
   simp only [aG,Option.some.injEq] at h2 ⊢
   subst h2
   simp only at h
   exact after _ σ out (fun _=>.inl rfl) h
  | true =>
   simp only [aE] at h2 ⊢
   have hdf:e1.defers=e.defers:=q2.defers
   have ldw:pW p.op=true→Pj p i=true:=fun hn=>by
    rcases a0' with hx | hx
    ·rcases Bool.or_eq_true_iff.1 hx with hx | hx
     ·exact absurd hx hli
     ·rw [hn] at hx; cases hx
    ·exact hx
   by_cases hm:pH i.op=true
   ·rw [Ry hm] at h2 ⊢
    simp only at h2 ⊢
    rw [Fb hm] at h2 ⊢
    obtain ⟨⟨e2,σ2⟩,h3,h2⟩:=aA h2
    cases h2
    unfold bF at h3 ⊢
    rw [Be (e':=e1) σ hm (dT.right ag)]
    obtain ⟨r,h4,h3⟩:=aA h3
    cases h3
    rw [h4]
    refine after _ _ out (fun hn=>?_) h
    exact .inr (hW hn hli' _ (.inl ⟨_,h2s⟩))
   have hm':pH i.op=false:=by simpa using hm
   cases hk:i.op.kind with
   | op =>
    exfalso
    cases hi:i.op <;> rw [hi] at hpi hli' hm' hk <;> simp only [AOp.kind,reduceCtorEq] at hk <;> simp only [Xf,hli',hm',Bool.or_self,Bool.false_eq_true] at hpi
   | call =>
    rw [hk] at h2
    simp only at h2 ⊢
    obtain ⟨⟨f,as⟩,h3,h2⟩:=aA h2
    cases h2
    rw [yF (e':=e1) (dT.right ag),h3]
    simp only [aC,aF] at h ⊢
    obtain ⟨⟨r,σ1⟩,h4,h⟩:=aA h
    rw [h4]
    simp only [aF] at h ⊢
    cases r with
    | ret c=>exact after c σ1 out (fun hn=>.inr (hW hn hli' _ (.inr ⟨_,_,_,h2s,h4⟩))) h
    | panic d =>
     simp only [Option.some.injEq] at h
     subst h
     exact ⟨_,rfl,.panic hdf⟩
   | panic =>
    rw [hk] at h2
    simp only at h2 ⊢
    obtain ⟨d,h3,h2⟩:=aA h2
    cases h2
    rw [Ij (e':=e1) (dT.right ag),h3]
    simp only [Option.some.injEq] at h
    subst h
    exact ⟨_,rfl,.panic hdf⟩
theorem zmz {i:AOper} {σ:Store} {f:FuncId} {as:List D} (h:dT (oL i) e e') (hs:fG i e σ=some (.call f as)):fG i e' σ=some (.call f as):=by
 unfold fG at hs ⊢
 rw [← lZ h]
 obtain ⟨w,h1,hs⟩:=aA hs
 rw [h1]
 simp only [aC,aF]
 cases w with
 | false=>simp only [aG,Option.some.injEq,reduceCtorEq] at hs
 | true =>
  simp only [aE] at hs ⊢
  cases hk:i.op.kind with
  | op =>
   rw [hk] at hs
   obtain ⟨r,_,hs⟩:=aA hs
   cases hs
  | panic =>
   rw [hk] at hs
   obtain ⟨r,_,hs⟩:=aA hs
   cases hs
  | call =>
   rw [hk] at hs
   simp only at hs ⊢
   rw [← yF (dT.right h)]
   exact hs
theorem zok {i:AOper} (hm:pH i.op=true) {σ σ1:Store} {e1:Env} (h:dT (oL i) e e') (hs:fG i e σ=some (.next e1 σ1)):∃ e2,fG i e' σ=some (.next e2 σ1):=by
 unfold fG at hs ⊢
 rw [← lZ h]
 obtain ⟨w,h1,hs⟩:=aA hs
 rw [h1]
 simp only [aC,aF]
 cases w with
 | false =>
  simp only [aG,Option.some.injEq,Step.next.injEq] at hs ⊢
  exact ⟨_,rfl,hs.2⟩
 | true =>
  simp only [aE,Ry hm] at hs ⊢
  rw [Fb hm] at hs ⊢
  obtain ⟨r,h2,hs⟩:=aA hs
  cases hs
  unfold bF at h2 ⊢
  rw [← Be σ hm (dT.right h)]
  obtain ⟨q,h3,h2⟩:=aA h2
  cases h2
  rw [h3]
  exact ⟨_,rfl⟩
theorem zsj {C:aM} {i:AOper} (hs:(gR i.op).isSome=true) {σ σ1:Store} (h:dT (oL i) e e') (hr:zc5 C i e σ σ1):zc5 C i e' σ σ1:=by
 rcases hr with ⟨e2,h1⟩ | ⟨f,as,r,h1,h2⟩
 ·have hk:pH i.op=true∨i.op.kind=.call:=by
   cases ho:i.op <;> rw [ho] at hs <;> simp only [gR,Option.isSome_none,Bool.false_eq_true] at hs
   ·exact .inr rfl
   ·exact .inr rfl
   ·exact .inl rfl
  rcases hk with hm | hk
  ·exact .inl (zok hm h h1)
  ·
   unfold fG at h1
   obtain ⟨w,g1,h1⟩:=aA h1
   cases w with
   | true =>
    simp only [aE,hk] at h1
    obtain ⟨r,_,h1⟩:=aA h1
    cases h1
   | false =>
    simp only [aG,Option.some.injEq,Step.next.injEq] at h1
    refine .inl ⟨e'.put i.dst ⟨false,.undef⟩,?_⟩
    unfold fG
    rw [← lZ h,g1]
    simp only [aC,aF,aG,h1.2]
 ·exact .inr ⟨f,as,r,zmz h h1,h2⟩
def ztc:List AOper→Prop
 | []=>True
 | p :: l=>(∀ s,qJ p.op=some s→∀ a∈l,a.dst≠some s)∧ztc l
theorem zhu {C:aM} {i:AOper}:∀ {A B:List AOper} (_:∀ p∈A,En p i=true) (_:∀ o∈A ++ B,rZ o.op=true) (_:ztc A) {e:Env} {σ:Store} {out:OpsOut},dH C (A ++ i :: B) e σ=some out →
  ∃ out',xU C i (A ++ B) e σ=some out'∧OutEqv out out'∧∀ σ1,zc5 C i e σ σ1→∀ ws,gR i.op=some ws→∀ s∈ws,(∀ a∈A,a.dst≠some s)→iL e σ σ1 s=true
 | [],B,_,_,_,e,σ,out,h=>by
  simp only [List.nil_append,dH] at h
  refine ⟨out,?_,OutEqv.refl out,?_⟩
  ·simp only [List.nil_append,xU]
   obtain ⟨st,h1,h⟩:=aA h
   rw [h1]
   simp only [aC,aF]
   cases st with
   | next e' σ'=>exact (aJ h).2
   | panic d=>exact h
   | call f as =>
    simp only at h ⊢
    obtain ⟨r,h2,h⟩:=aA h
    rw [h2]
    exact (aJ h).2
  ·intro σ1 hres ws hws s hsw _
   obtain ⟨st,h1,h⟩:=aA h
   have key:tK (gR i.op) e σ σ1=true:=by
    rcases hres with ⟨e2,hs⟩ | ⟨f,as,r,hs,hc⟩
    ·rw [hs] at h1
     cases h1
     exact (aJ h).1
    ·rw [hs] at h1
     cases h1
     simp only at h
     obtain ⟨r',h2,h⟩:=aA h
     rw [hc] at h2
     cases h2
     exact (aJ h).1
   rw [hws] at key
   unfold tK at key
   simp only [aF] at key
   exact List.all_eq_true.1 key s hsw
 | p :: A,B,ha,hl,ho,e,σ,out,h=>by
  have hp:=ha p (by simp)
  have hp':=hp
  simp only [En,Bool.and_eq_true,Bool.not_eq_true'] at hp'
  obtain ⟨hlp,⟨⟨⟨⟨⟨⟨⟨⟨⟨⟨⟨⟨⟨⟨hpi,a0⟩,a1⟩,a2⟩,a3⟩,a4⟩,a5⟩,a6⟩,a7⟩,b1⟩,b2⟩,b3⟩,b4⟩,b5⟩,b6⟩⟩:=hp'
  simp only [List.cons_append] at h ⊢
  simp only [dH] at h
  obtain ⟨st,h1,h⟩:=aA h
  obtain ⟨pd,e1,q1,rfl,q2⟩:=Ui hlp h1
  simp only at h
  obtain ⟨_,h⟩:=aJ h
  obtain ⟨out1,k1,k2,k3⟩:=zhu (fun q hq=>ha q (by simp [hq])) (fun o ho=>hl o (by simp at ho ⊢; exact .inr ho)) ho.2 h
  have slotd:∀ s,p.dst≠some s→(aB e1.slots s).map Cell.d=(aB e.slots s).map Cell.d:=by
   intro s hs
   rw [q2.slots,if_neg hs]
   split
   ·cases aB e.slots s <;> rfl
   ·rfl
  have ag:dT (oL i) e e1:=q2.agree (fun s hs=>vG a1 s (by simp [hs])) (fun s hs=>vG a4 s (rY q1 s hs))
  obtain ⟨out2,g1,g2⟩:=zu7 hp (fun o ho=>hl o (by simp at ho ⊢; exact .inr ho)) q1 q2 k1 (fun hn hli σ1 hres=>by
   have hw:Pj p i=true:=by
    rcases Bool.or_eq_true_iff.1 a0 with hx | hx
    ·rcases Bool.or_eq_true_iff.1 hx with hx | hx
     ·rw [hli] at hx; cases hx
     ·rw [hn] at hx; cases hx
    ·exact hx
   unfold Pj at hw
   cases hl1:qJ p.op with
   | none=>rw [hl1] at hw; cases hw
   | some s =>
    cases hs1:gR i.op with
    | none=>rw [hl1,hs1] at hw; cases hw
    | some ws =>
     rw [hl1,hs1] at hw
     simp only [Bool.and_eq_true,Bool.not_eq_true',beq_eq_false_iff_ne] at hw
     refine ⟨s,rfl,?_⟩
     rw [← zl8 (slotd s hw.2)]
     exact k3 σ1 hres ws hs1 s (by simpa using hw.1) (ho.1 s hl1))
  refine ⟨out2,g1,k2.trans g2,fun σ1 hres ws hws s hsw hall=>?_⟩
  rw [← zl8 (slotd s (hall p (by simp)))]
  exact k3 σ1 (zsj (by rw [hws]; rfl) ag hres) ws hws s hsw (fun a ha=>hall a (by simp [ha]))
end
end Go.Mx

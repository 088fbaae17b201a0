/-
 Operations that may change places: the machine's side of a region whose order is drawn. Nothing here speaks of a world.
-/
import Derived.Test.YtldfbnbckiifeaaGreatDoorMySim
set_option linter.unusedSimpArgs false
set_option linter.unusedVariables false
set_option linter.unusedSectionVars false
namespace Go.Mx
open Go
structure Eqv (e e':Env):Prop where
 slots:∀ s,dE e.slots s=dE e'.slots s
 locs:∀ s,dE e.locs s=dE e'.locs s
 boxes:∀ s,dE e.boxes s=dE e'.boxes s
 defers:e.defers=e'.defers
theorem Eqv.refl (e:Env):Eqv e e:=⟨fun _=>rfl,fun _=>rfl,fun _=>rfl,rfl⟩
theorem Eqv.symm {e e':Env} (h:Eqv e e'):Eqv e' e:=⟨fun s=>(h.slots s).symm,fun s=>(h.locs s).symm,fun s=>(h.boxes s).symm,h.defers.symm⟩
theorem Eqv.trans {e e' e'':Env} (h:Eqv e e') (k:Eqv e' e''):Eqv e e'':=⟨fun s=>(h.slots s).trans (k.slots s),fun s=>(h.locs s).trans (k.locs s),fun s=>(h.boxes s).trans (k.boxes s),h.defers.trans k.defers⟩
def dW:AOpd→List Nat
 | .tmp s=>[s]
 | .mv s=>[s]
 | .const _=>[]
def zD:AOpd→List Nat
 | .mv s=>[s]
 | _=>[]
def osl:List AOpd→List Nat
 | []=>[]
 | x :: l=>dW x ++ osl l
def zyi:List (Nat × Nat × AOpd)→List Nat
 | []=>[]
 | (_,_,x) :: l=>dW x ++ zyi l
def Xh:Option AOpd→List Nat
 | some x=>dW x
 | none=>[]
def rX:AOp→Bool
 | .galloc _ _=>true
 | .gbox _ _=>true
 | .storeP _ _ _=>true
 | .makeA _ _ _ _ _=>true
 | .buildA _ _=>true
 | .appendA _ _ _ _=>true
 | .appendW _ _ _ _ _=>true
 | .copyA _ _ _=>true
 | .clearA _ _ _=>true
 | .makeMap=>true
 | .update _ _ _ _=>true
 | .delete _ _ _=>true
 | .entry _ _ _ _=>true
 | .entryStore _ _ _=>true
 | _=>false
def kE:AOp→Bool
 | .storeP _ _ _=>false
 | .makeA _ _ _ _ _=>false
 | .buildA _ _=>false
 | .appendA _ _ _ _=>false
 | .appendW _ _ _ _ _=>false
 | .copyA _ _ _=>false
 | .clearA _ _ _=>false
 | .makeMap=>false
 | .cloneM _=>false
 | .growZ _ _ _ _ _=>false
 | .capZ _=>false
 | .assertP _ _=>false
 | .update _ _ _ _=>false
 | .delete _ _ _=>false
 | .entry _ _ _ _=>false
 | .entryStore _ _ _=>false
 | .alloc _=>false
 | .box _=>false
 | .galloc _ _=>false
 | .gbox _ _=>false
 | .rangeS _=>false
 | .strToBytes _ _=>false
 | .nextS _=>false
 | .store _ _ _=>false
 | .loadA _ _=>false
 | .storeA _ _ _=>false
 | .deferv _ _=>false
 | .call _ _=>false
 | .callv _ _=>false
 | .callW _ _ _=>false
 | .callvW _ _ _=>false
 | .panic _=>false
 | .load _ mv _=>!mv
 | _=>true
def sQ:AOp→Bool
 | .loadP _ _=>true
 | .loadG _ _=>true
 | .load _ _ _=>true
 | .lookup _ _ _ _ _=>true
 | .lenM _=>true
 | _=>false
def looks:AOp→List Nat
 | .mov x=>dW x
 | .pick c a b=>dW c ++ (dW a ++ dW b)
 | .build _ ps=>zyi ps
 | .buildSlice _ ps=>osl ps
 | .loadL _ _ x=>dW x
 | .load _ _ x=>dW x
 | .nilCheck x=>dW x
 | .bin _ x y=>dW x ++ dW y
 | .binB _ x y=>dW x ++ dW y
 | .un _ x=>dW x
 | .toInt _ x=>dW x
 | .toStr x=>dW x
 | .runeStr x=>dW x
 | .bytesToStr x=>dW x
 | .mkIface _ x=>dW x
 | .mkFunc _ a b=>osl a ++ osl b
 | .slice _ x lo hi=>dW x ++ (Xh lo ++ Xh hi)
 | .sliceS x lo hi=>dW x ++ (Xh lo ++ Xh hi)
 | .fieldAddr _ _ x=>dW x
 | .field _ _ x=>dW x
 | .indexAddr _ x i=>dW x ++ dW i
 | .index x i=>dW x ++ dW i
 | .extract x _=>dW x
 | .len x=>dW x
 | .lenS x=>dW x
 | .append _ _ x y=>dW x ++ dW y
 | .appendS _ _ x y=>dW x ++ dW y
 | .isNil _ x=>dW x
 | .isNilP _ x=>dW x
 | .assertT _ _ x=>dW x
 | .mm _ x y=>dW x ++ dW y
 | .isNilS _ x=>dW x
 | .isNilM _ x=>dW x
 | .lookup _ _ _ x i=>dW x ++ dW i
 | .lenM x=>dW x
 | .slice3 _ x lo hi mx=>dW x ++ (Xh lo ++ (dW hi ++ dW mx))
 | .eqA _ _ x y=>dW x ++ dW y
 | .indexA _ _ x i=>dW x ++ dW i
 | .indexAddrP _ _ x i=>dW x ++ dW i
 | .storeP _ x y=>dW x ++ dW y
 | .makeA _ _ _ x y=>dW x ++ dW y
 | .buildA _ ps=>osl ps
 | .appendA _ _ x y=>dW x ++ dW y
 | .appendW _ _ _ x y=>dW x ++ dW y
 | .copyA _ x y=>dW x ++ dW y
 | .clearA _ _ x=>dW x
 | .update _ x i y=>dW x ++ (dW i ++ dW y)
 | .delete _ x i=>dW x ++ dW i
 | .entry _ _ x i=>dW x ++ dW i
 | .entryStore x s y=>dW x ++ (dW s ++ dW y)
 | .galloc _ _=>[]
 | .gbox _ x=>dW x
 | .allocN _ _=>[]
 | .boxN _ x=>dW x
 | .loadB _ _ x=>dW x
 | .loadE _ x=>dW x
 | .loadP _ x=>dW x
 | .loadG _ x=>dW x
 | .storeB _ _ x y=>dW x ++ dW y
 | .callW _ _ as=>osl as
 | .callvW _ x as=>dW x ++ osl as
 | .call _ as=>osl as
 | .callv x as=>dW x ++ osl as
 | .panic x=>dW x
 | _=>[]
def Sl:AOp→Bool
 | .loadL _ mv _=>mv
 | _=>false
def rF:AOp→List Nat
 | .mov x=>zD x
 | .append _ _ x _=>zD x
 | .appendS _ _ x _=>zD x
 | .storeB _ _ _ y=>zD y
 | _=>[]
def wb:AOp→Option (Option Nat)
 | .loadL _ true _=>some none
 | .storeB b _ _ _=>some (some b)
 | .allocN s _=>some (some s)
 | .boxN s _=>some (some s)
 | _=>none
def wd:AOp→Option Nat
 | .storeB b _ _ _=>some b
 | .allocN s _=>some s
 | .boxN s _=>some s
 | _=>none
def rb:AOp→Option (Option Nat)
 | .loadL _ _ _=>some none
 | .load _ _ _=>some none
 | .loadB b _ _=>some (some b)
 | .storeB b _ _ _=>some (some b)
 | _=>none
def pZ:AOp→Option Nat
 | .allocN s _=>some s
 | .boxN s _=>some s
 | _=>none
def zg2:Option (Option Nat)→Option Nat→Bool
 | some none,some _=>true
 | some (some a),some b=>a == b
 | _,_=>false
def Gk:Option (Option Nat)→Option (Option Nat)→Bool
 | none,_=>false
 | _,none=>false
 | some (some a),some (some b)=>a == b
 | _,_=>true
def rG (o:AOper):List Nat:=(match o.guard with | some (s,_)=>[s] | none=>[]) ++ looks o.op
def zsw (c:Cell):Cell:=⟨false,c.d⟩
abbrev BF:=Option (Nat × (Option (List Cell)→Option (List Cell)))
def rQ (op:AOp) (e:Env):BF:=match op with
 | .loadL _ true x=>match iW e x with
  | some (.loc b off)=>some (b,fun o=>o.map fun cs=>jF cs off)
  | _=>none
 | .storeB b _ x y=>match iW e x,opd e y with
  | some (.loc _ off),some c=>some (b,fun o=>o.map fun cs=>putCells cs off (gG c))
  | _,_=>none
 | .allocN s z=>some (s,fun _=>some (z.map Cell.of))
 | .boxN s x=>match opd e x with
  | some c=>some (s,fun _=>some (c.d.cells.map Cell.of))
  | none=>none
 | _=>none
def kU (op:AOp) (e:Env) (σ:Store):Option Val:=match op with
 | .buildSlice sz parts=>dG (lZ e parts) fun ds=>ifB (eM sz.sz ds && decide (ds.length * sz.sz≤16777216)) (some (.c ⟨true,.list sz ds⟩)) none
 | .append sz by_ x y=>dG (opd e x) fun c=>dG (opd e y) fun d=>dG (jM d.d) fun ys=>dG (gC sz by_ c ys) fun r=>some (.c r)
 | .appendS k by_ x y=>dG (opd e x) fun c=>dG (opd e y) fun d=>dG d.d.str? fun s=>dG (gC k by_ c (rE s)) fun r=>some (.c r)
 | .slice3 sz x lo hi max=>dG (opd e x) fun c=>dG (tH e lo) fun l=>dG (opd e hi) fun h=>dG h.d.nat? fun h=>dG (opd e max) fun m=>dG m.d.nat? fun m=>dG (Ho sz c.d l h m) fun d=>some (.c ⟨true,d⟩)
 | .allocN s _=>ifB (mI e.locs s) (some (.l s 0)) none
 | .boxN s x=>dG (opd e x) fun c=>ifB (mI e.locs s && c.d.ok) (some (.l s 0)) none
 | .storeB b k x y=>dG (iW e x) fun p=>dG (opd e y) fun c=>match p with
  | .loc b' off=>ifB (b' == b) (dG (dE e.boxes b) fun cs=>ifB (qX c k off cs) (some (.c ⟨false,.undef⟩)) none) none
  | _=>none
 | op=>dO op e σ
def rU (op:AOp) (e:Env):Env:=match op with
 | .append _ _ x _=>x.drop e
 | .appendS _ _ x _=>x.drop e
 | .allocN s z=>{e with boxes:=dZ e.boxes s (z.map Cell.of)}
 | .boxN s x=>match opd e x with
  | some c=>{e with boxes:=dZ e.boxes s (c.d.cells.map Cell.of)}
  | none=>e
 | .storeB b _ x y=>match iW e x,opd e y,dE e.boxes b with
  | some (.loc _ off),some c,some cs=>{y.drop e with boxes:=dZ e.boxes b (putCells cs off (gG c))}
  | _,_,_=>e
 | op=>lE op e
def iH (L:List Nat) (e e':Env):Prop:=∀ s∈L,dE e.slots s=dE e'.slots s∧dE e.locs s=dE e'.locs s
theorem iH.left {L M:List Nat} {e e':Env} (h:iH (L ++ M) e e'):iH L e e':=fun s hs=>h s (bJ.2 (.inl hs))
theorem iH.right {L M:List Nat} {e e':Env} (h:iH (L ++ M) e e'):iH M e e':=fun s hs=>h s (bJ.2 (.inr hs))
def xH (e e':Env) (b:Nat):Prop:=(dE e.boxes b).map (·.map Cell.d)=(dE e'.boxes b).map (·.map Cell.d)
def BoxD (e e':Env):Prop:=∀ b,xH e e' b
def Uz (op:AOp) (e e':Env):Prop:=match rb op with
 | none=>True
 | some none=>BoxD e e'
 | some (some b)=>xH e e' b
section
variable {e e':Env}
theorem dP {x:AOpd} (h:iH (dW x) e e'):opd e x=opd e' x:=by
 cases x with
 | tmp s=>simp only [opd,(h s (by simp [dW])).1]
 | mv s=>simp only [opd,(h s (by simp [dW])).1]
 | const d=>rfl
theorem kQ {x:AOpd} (h:iH (dW x) e e'):iW e x=iW e' x:=by
 cases x with
 | tmp s=>simp only [iW,(h s (by simp [dW])).1,(h s (by simp [dW])).2]
 | mv s=>simp only [iW,(h s (by simp [dW])).1,(h s (by simp [dW])).2]
 | const d=>rfl
theorem nW:∀ {l:List AOpd},iH (osl l) e e'→lZ e l=lZ e' l
 | [],_=>rfl
 | x :: l,h=>by simp only [lZ,dP (iH.left h),nW (iH.right h)]
theorem Lt:∀ {l:List (Nat × Nat × AOpd)},iH (zyi l) e e'→rN e l=rN e' l
 | [],_=>rfl
 | (a,b,x) :: l,h=>by simp only [rN,dP (iH.left h),Lt (iH.right h)]
theorem Fz {x:Option AOpd} (h:iH (Xh x) e e'):tH e x=tH e' x:=by
 cases x with
 | none=>rfl
 | some x=>simp only [tH,dP (show iH (dW x) e e' from h)]
theorem Un {x:Option AOpd} (h:iH (Xh x) e e'):zZ e x=zZ e' x:=by
 cases x with
 | none=>rfl
 | some x=>simp only [zZ,dP (show iH (dW x) e e' from h)]
theorem zdf:∀ (cs cs':List Cell) (o n:Nat),cs.map Cell.d=cs'.map Cell.d→lJ cs o n=lJ cs' o n
 | [],[],o,n,_=>rfl
 | [],_ :: _,_,_,h=>by simp at h
 | _ :: _,[],_,_,h=>by simp at h
 | c :: cs,c' :: cs',0,0,_=>rfl
 | c :: cs,c' :: cs',0,n + 1,h=>by
  simp only [aO,aL] at h
  simp only [lJ,zdf cs cs' 0 n h.2,h.1]
 | c :: cs,c' :: cs',o + 1,n,h=>by
  simp only [aO,aL] at h
  cases n <;> simp only [lJ,zdf cs cs' o _ h.2]
theorem zmu {cs cs':List Cell} (h:cs.map Cell.d=cs'.map Cell.d) (k:Option Nat) (off:Nat):(fN cs k off).map Cell.d=(fN cs' k off).map Cell.d:=by
 cases k with
 | none =>
  simp only [fN,yB]
  rw [← List.getElem?_map,← List.getElem?_map,h]
 | some n=>simp only [fN,zdf cs cs' off n h]
theorem zb7 {k:Option Nat} {b off:Nat} (h:xH e e' b):(dG (dE e.boxes b) fun cs=>dG (fN cs k off) fun c=>some (Val.c ⟨false,c.d⟩))=dG (dE e'.boxes b) fun cs=>dG (fN cs k off) fun c=>some (Val.c ⟨false,c.d⟩):=by
 have hb:=h
 unfold xH at hb
 cases h1:dE e.boxes b with
 | none =>
  rw [h1] at hb
  cases h2:dE e'.boxes b with
  | none=>rfl
  | some cs'=>rw [h2] at hb; cases hb
 | some cs =>
  rw [h1] at hb
  cases h2:dE e'.boxes b with
  | none=>rw [h2] at hb; cases hb
  | some cs' =>
   rw [h2] at hb
   simp only [bN,aA] at hb
   have:=zmu hb k off
   simp only [dG,dK]
   cases h3:fN cs k off with
   | none =>
    rw [h3] at this
    cases h4:fN cs' k off with
    | none=>rfl
    | some c=>rw [h4] at this; cases this
   | some c =>
    rw [h3] at this
    cases h4:fN cs' k off with
    | none=>rw [h4] at this; cases this
    | some c' =>
     rw [h4] at this
     simp only [bN,aA] at this
     simp only [dK,this]
theorem ze5b {c:Cell} {k off:Nat} {cs cs':List Cell} (h:cs.map Cell.d=cs'.map Cell.d):qX c k off cs=qX c k off cs':=by
 have:=congrArg List.length h
 simp only [aJ] at this
 simp only [qX,this]
theorem znm {op:AOp} (σ:Store) (hl:kE op=true) (h:iH (looks op) e e') (hb:Uz op e e') (hm:Sl op=true→∀ b,dE e.boxes b=dE e'.boxes b) (hf:∀ s,pZ op=some s→mI e.locs s=mI e'.locs s):kU op e σ=kU op e' σ:=by
 cases op <;> simp only [kE,aE] at hl <;> simp only [looks] at h <;> simp only [kU,dO]
 case mov x=>rw [dP h]
 case pick c a b=>rw [dP h.left,dP h.right.left,dP h.right.right]
 case build z ps=>rw [Lt h]
 case buildSlice sz ps=>rw [nW h]
 case loadL k mv x =>
  rw [kQ h]
  congr 1
  funext p
  cases p with
  | loc b off =>
   cases mv with
   | false=>simp only [Bool.false_and]; exact zb7 (hb b)
   | true=>simp only [hm rfl b]
  | ptr id off=>rfl
  | eptr d=>rfl
 case load k mv x =>
  simp only [Bool.not_eq_true'] at hl
  subst hl
  rw [kQ h]
  congr 1
  funext p
  cases p with
  | loc b off=>simp only [Bool.false_and]; exact zb7 (hb b)
  | ptr id off=>rfl
  | eptr d=>rfl
 case nilCheck x=>rw [kQ h]
 case loadB b k x =>
  rw [kQ h]
  congr 1
  funext p
  cases p with
  | loc b' off =>
   simp only
   congr 1
   exact zb7 hb
  | ptr id off=>rfl
  | eptr d=>rfl
 case loadE k x=>rw [kQ h]
 case loadP k x=>rw [kQ h]
 case loadG k x=>rw [kQ h]
 case allocN s z=>rw [hf s rfl]
 case boxN s x=>rw [dP h,hf s rfl]
 case storeB b k x y =>
  rw [kQ h.left,dP h.right]
  congr 1
  funext p
  congr 1
  funext c
  cases p with
  | loc b' off =>
   simp only
   congr 1
   have hb':xH e e' b:=hb
   unfold xH at hb'
   cases h1:dE e.boxes b with
   | none =>
    rw [h1] at hb'
    cases h2:dE e'.boxes b with
    | none=>rfl
    | some cs'=>rw [h2] at hb'; cases hb'
   | some cs =>
    rw [h1] at hb'
    cases h2:dE e'.boxes b with
    | none=>rw [h2] at hb'; cases hb'
    | some cs' =>
     rw [h2] at hb'
     simp only [bN,aA] at hb'
     simp only [dG,dK,ze5b hb']
  | ptr id off=>rfl
  | eptr d=>rfl
 case bin op x y=>rw [dP h.left,dP h.right]
 case binB op x y=>rw [dP h.left,dP h.right]
 case un op x=>rw [dP h]
 case toInt k x=>rw [dP h]
 case toStr x=>rw [dP h]
 case runeStr x=>rw [dP h]
 case bytesToStr x=>rw [dP h]
 case mkIface t x=>rw [dP h]
 case mkFunc f a b=>rw [nW h.left,nW h.right]
 case slice sz x lo hi=>rw [dP h.left,Fz h.right.left,Un h.right.right]
 case sliceS x lo hi=>rw [dP h.left,Fz h.right.left,Un h.right.right]
 case fieldAddr off k x=>rw [kQ h]
 case field off k x=>rw [dP h]
 case indexAddr sz x i=>rw [dP h.left,dP h.right]
 case index x i=>rw [dP h.left,dP h.right]
 case extract x i=>rw [dP h]
 case len x=>rw [dP h]
 case lenS x=>rw [dP h]
 case append sz by_ x y=>rw [dP h.left,dP h.right]
 case appendS k by_ x y=>rw [dP h.left,dP h.right]
 case isNil op x=>rw [dP h]
 case isNilP op x=>rw [dP h]
 case assertT t z x=>rw [dP h]
 case mm mx x y=>rw [dP h.left,dP h.right]
 case isNilS op x=>rw [dP h]
 case isNilM op x=>rw [dP h]
 case lookup ks z ok x i=>rw [dP h.left,dP h.right]
 case lenM x=>rw [dP h]
 case slice3 sz x lo hi mx=>rw [dP h.left,Fz h.right.left,dP h.right.right.left,dP h.right.right.right]
 case eqA op ks x y=>rw [dP h.left,dP h.right]
 case indexA n sz x i=>rw [dP h.left,dP h.right]
 case indexAddrP n sz x i=>rw [kQ h.left,dP h.right]
theorem Fb {op:AOp} (σ:Store) (hl:rX op=true) (h:iH (looks op) e e'):jK op e σ=jK op e' σ:=by
 cases op <;> simp only [rX,aE] at hl <;> simp only [looks] at h <;> simp only [jK]
 case gbox t x=>rw [dP h]
 case storeP k x y=>rw [kQ h.left,dP h.right]
 case makeA k by_ z x y=>rw [dP h.left,dP h.right]
 case buildA k ps=>rw [nW h]
 case appendA k by_ x y=>rw [dP h.left,dP h.right]
 case appendW ws k by_ x y=>rw [dP h.left,dP h.right]
 case copyA sz x y=>rw [dP h.left,dP h.right]
 case clearA sz z x=>rw [dP h]
 case update ks x i y=>rw [dP h.left,dP h.right.left,dP h.right.right]
 case delete ks x i=>rw [dP h.left,dP h.right]
 case entry ks z x i=>rw [dP h.left,dP h.right]
 case entryStore x s y=>rw [dP h.left,dP h.right.left,dP h.right.right]
theorem Iq {op:AOp} (hl:rX op=true) (dst:Option Nat) (e:Env) (σ:Store):dX dst op e σ=eI dst op e σ:=by
 cases op <;> simp only [rX,aE] at hl <;> rfl
theorem Vy {op:AOp} (hl:rX op=true):op.kind=.op:=by
 cases op <;> simp only [rX,aE] at hl <;> rfl
theorem zqj {op:AOp} (hl:kE op=true) (h:iH (looks op) e e'):rQ op e=rQ op e':=by
 cases op <;> simp only [kE,aE] at hl <;> simp only [looks] at h <;> try rfl
 case loadL k mv x=>cases mv <;> simp only [rQ,kQ h]
 case storeB b k x y=>simp only [rQ,kQ h.left,dP h.right]
 case boxN s x=>simp only [rQ,dP h]
theorem znn {op:AOp} (hl:kE op=true) (hn:sQ op=false) (e:Env) (σ σ':Store):kU op e σ=kU op e σ':=by
 cases op <;> simp only [kE,aE] at hl <;> simp only [sQ,Bool.true_eq_false] at hn <;> rfl
theorem Ox {op:AOp} (hl:kE op=true) (dst:Option Nat) (e:Env) (σ:Store):dX dst op e σ=dG (kU op e σ) fun v=>some ((rU op e).putV dst v,σ):=by
 cases op <;> simp only [kE,aE] at hl <;> try rfl
 case load k mv x =>
  simp only [Bool.not_eq_true'] at hl
  subst hl
  rfl
 case buildSlice sz ps =>
  simp only [dX,kU]
  cases lZ e ps with
  | none=>rfl
  | some ds =>
   simp only [dG,dK]
   cases (eM sz.sz ds && decide (ds.length * sz.sz≤16777216)) <;> cases dst <;> rfl
 case append sz by_ x y =>
  simp only [dX,kU]
  cases opd e x with
  | none=>rfl
  | some c =>
   simp only [dG,dK]
   cases opd e y with
   | none=>rfl
   | some d =>
    simp only [dK]
    cases jM d.d with
    | none=>rfl
    | some ys =>
     simp only [dK]
     cases gC sz by_ c ys with
     | none=>rfl
     | some r=>cases dst <;> rfl
 case appendS k by_ x y =>
  simp only [dX,kU]
  cases opd e x with
  | none=>rfl
  | some c =>
   simp only [dG,dK]
   cases opd e y with
   | none=>rfl
   | some d =>
    simp only [dK]
    cases d.d.str? with
    | none=>rfl
    | some str =>
     simp only [dK]
     cases gC k by_ c (rE str) with
     | none=>rfl
     | some r=>cases dst <;> rfl
 case slice3 sz x lo hi mx =>
  simp only [dX,kU]
  cases opd e x with
  | none=>rfl
  | some c =>
  simp only [dG,dK]
  cases tH e lo with
  | none=>rfl
  | some l =>
  simp only [dK]
  cases opd e hi with
  | none=>rfl
  | some h =>
  simp only [dK]
  cases h.d.nat? with
  | none=>rfl
  | some hn =>
  simp only [dK]
  cases opd e mx with
  | none=>rfl
  | some m =>
  simp only [dK]
  cases m.d.nat? with
  | none=>rfl
  | some mn =>
  simp only [dK]
  cases Ho sz c.d l hn mn with
  | none=>rfl
  | some d=>cases dst <;> rfl
 case allocN s z =>
  simp only [dX,kU]
  cases mI e.locs s <;> rfl
 case boxN s x =>
  simp only [dX,kU,rU]
  cases opd e x with
  | none=>rfl
  | some c =>
   simp only [dG,dK]
   cases mI e.locs s && c.d.ok <;> rfl
 case storeB b k x y =>
  simp only [dX,kU,rU]
  cases iW e x with
  | none=>rfl
  | some p =>
   simp only [dG,dK]
   cases opd e y with
   | none=>rfl
   | some c =>
    simp only [dK]
    cases p with
    | loc b' off =>
     simp only
     cases b' == b with
     | false=>rfl
     | true =>
      simp only [dJ]
      cases dE e.boxes b with
      | none=>rfl
      | some cs =>
       simp only [dK]
       cases qX c k off cs <;> cases dst <;> rfl
    | ptr id off=>rfl
    | eptr d=>rfl
/-! ### What an operation changes, slot by slot -/
def Val.cell?:Val→Option Cell
 | .c x=>some x
 | .l _ _=>none
def Val.loc?:Val→Option (Nat × Nat)
 | .c _=>none
 | .l b off=>some (b,off)
abbrev Dat:=Val × List Nat × BF
structure Acts (dst:Option Nat) (dat:Dat) (e e1:Env):Prop where
 slots:∀ s,dE e1.slots s=if dst=some s then dat.1.cell? else if s∈dat.2.1 then (dE e.slots s).map zsw else dE e.slots s
 locs:∀ s,dE e1.locs s=if dst=some s then dat.1.loc? else dE e.locs s
 boxes:∀ b,dE e1.boxes b=match dat.2.2 with
  | some (b',f)=>if b'=b then f (dE e.boxes b) else dE e.boxes b
  | none=>dE e.boxes b
 defers:e1.defers=e.defers
theorem tA (x:AOpd) (s:Nat):dE (x.drop e).slots s=if s∈zD x then (dE e.slots s).map zsw else dE e.slots s:=by
 cases x with
 | mv t =>
  simp only [AOpd.drop,zD,bO]
  cases ht:dE e.slots t with
  | none =>
   simp only [fR]
   split
   ·rename_i h; subst h; rw [ht]; rfl
   ·rfl
  | some c =>
   simp only [dK,dY]
   by_cases h:t=s
   ·subst h; rw [if_pos rfl,if_pos rfl,ht]; rfl
   ·rw [if_neg h,if_neg (fun k=>h k.symm)]
 | tmp t=>simp [AOpd.drop,zD]
 | const d=>simp [AOpd.drop,zD]
theorem sZ (x:AOpd):(x.drop e).locs=e.locs∧(x.drop e).boxes=e.boxes∧(x.drop e).defers=e.defers:=by
 cases x with
 | mv t =>
  simp only [AOpd.drop]
  cases dE e.slots t <;> exact ⟨rfl,rfl,rfl⟩
 | _=>exact ⟨rfl,rfl,rfl⟩
theorem kL {dst:Option Nat} {v:Val} {e0:Env} (D:List Nat) (B:BF) (h1:∀ s,dE e0.slots s=if s∈D then (dE e.slots s).map zsw else dE e.slots s) (h2:e0.locs=e.locs)
  (h3:∀ b,dE e0.boxes b=match B with | some (b',f)=>if b'=b then f (dE e.boxes b) else dE e.boxes b | none=>dE e.boxes b) (h4:e0.defers=e.defers):Acts dst (v,D,B) e (e0.putV dst v):=by
 cases dst with
 | none =>
  have:e0.putV none v=e0:=by cases v <;> rfl
  rw [this]
  exact ⟨fun s=>by simp [h1 s],fun s=>by simp [h2],h3,h4⟩
 | some d =>
  cases v with
  | c c =>
   refine ⟨fun s=>?_,fun s=>?_,h3,h4⟩
   ·simp only [Env.putV,Env.put,dY,aA]
    split
    ·rfl
    ·exact h1 s
   ·simp only [Env.putV,Env.put,eK,aA,h2]
    rfl
  | l b off =>
   refine ⟨fun s=>?_,fun s=>?_,h3,h4⟩
   ·simp only [Env.putV,eK,aA]
    split
    ·rfl
    ·exact h1 s
   ·simp only [Env.putV,dY,aA,h2]
    rfl
theorem Yp {op:AOp} (hl:kE op=true) (dst:Option Nat) (v:Val) {σ:Store} (hv:kU op e σ=some v):Acts dst (v,rF op,rQ op e) e ((rU op e).putV dst v):=by
 have plain:rU op e=e→rF op=[]→rQ op e=none→Acts dst (v,rF op,rQ op e) e ((rU op e).putV dst v):=by
  intro h1 h2 h3
  rw [h1,h2,h3]
  exact kL [] none (fun s=>by simp) rfl (fun b=>rfl) rfl
 cases op <;> simp only [kE,aE] at hl <;> try exact plain rfl rfl rfl
 case load k mv x =>
  simp only [Bool.not_eq_true'] at hl
  subst hl
  exact plain rfl rfl rfl
 case mov x =>
  obtain ⟨k1,k2,k3⟩:=sZ (e:=e) x
  exact kL (zD x) none (tA x) k1 (fun b=>by rw [show rU (.mov x) e=x.drop e from rfl,k2]) k3
 case append sz by_ x y =>
  obtain ⟨k1,k2,k3⟩:=sZ (e:=e) x
  exact kL (zD x) none (tA x) k1 (fun b=>by rw [show rU (.append sz by_ x y) e=x.drop e from rfl,k2]) k3
 case appendS k by_ x y =>
  obtain ⟨k1,k2,k3⟩:=sZ (e:=e) x
  exact kL (zD x) none (tA x) k1 (fun b=>by rw [show rU (.appendS k by_ x y) e=x.drop e from rfl,k2]) k3
 case loadL k mv x =>
  cases mv with
  | false=>exact plain rfl rfl rfl
  | true =>
   simp only [rU,lE,rF,rQ]
   cases ha:iW e x with
   | none=>exact kL [] none (fun s=>by simp [fR]) rfl (fun b=>rfl) rfl
   | some p =>
    simp only [dK]
    cases p with
    | loc b off =>
     simp only
     cases hb:dE e.boxes b with
     | none =>
      refine kL [] _ (fun s=>by simp [fR]) rfl (fun b'=>?_) rfl
      simp only [fR]
      split
      ·rename_i h; subst h; rw [hb]; rfl
      ·rfl
     | some cs =>
      refine kL [] _ (fun s=>by simp [dK]) rfl (fun b'=>?_) rfl
      simp only [dK,dY]
      split
      ·rename_i h; subst h; rw [hb]; rfl
      ·rfl
    | ptr id off=>exact kL [] none (fun s=>by simp) rfl (fun b=>rfl) rfl
    | eptr d=>exact kL [] none (fun s=>by simp) rfl (fun b=>rfl) rfl
 case allocN s z =>
  refine kL [] (some (s,fun _=>some (z.map Cell.of))) (fun t=>by simp [rU]) rfl (fun b=>?_) rfl
  simp only [rU,dY]
 case boxN s x =>
  simp only [kU] at hv
  obtain ⟨c,h1,hv⟩:=dC hv
  simp only [rU,rQ,rF,h1]
  refine kL [] (some (s,fun _=>some (c.d.cells.map Cell.of))) (fun t=>by simp) rfl (fun b=>?_) rfl
  simp only [dY]
 case storeB b k x y =>
  simp only [kU] at hv
  obtain ⟨p,h1,hv⟩:=dC hv
  obtain ⟨c,h2,hv⟩:=dC hv
  cases p with
  | loc b' off =>
   obtain ⟨h3,hv⟩:=dN hv
   obtain ⟨cs,h4,hv⟩:=dC hv
   simp only [rU,rQ,rF,h1,h2,h4]
   obtain ⟨k1,k2,k3⟩:=sZ (e:=e) y
   refine kL (zD y) (some (b,fun o=>o.map fun cs=>putCells cs off (gG c))) (tA y) k1 (fun b2=>?_) k3
   simp only [dY]
   split
   ·rename_i h; subst h; rw [h4]; rfl
   ·rfl
  | ptr id off=>cases hv
  | eptr d=>cases hv
def mN (o:AOper) (e:Env) (σ:Store):Option Dat:=dG (qL o.guard e) fun w=>ifB w (dG (kU o.op e σ) fun v=>some (v,rF o.op,rQ o.op e)) (some (.c ⟨false,.undef⟩,[],none))
theorem oY {o:AOper} (h:iH (rG o) e e'):qL o.guard e=qL o.guard e':=by
 unfold rG at h
 cases hg:o.guard with
 | none=>rfl
 | some p =>
  obtain ⟨s,b⟩:=p
  rw [hg] at h
  simp only [qL,(h s (by simp)).1]
theorem zN {o:AOper} (σ:Store) (hl:kE o.op=true) (h:iH (rG o) e e') (hb:Uz o.op e e') (hm:Sl o.op=true→∀ b,dE e.boxes b=dE e'.boxes b) (hf:∀ s,pZ o.op=some s→mI e.locs s=mI e'.locs s):mN o e σ=mN o e' σ:=by
 have h2:iH (looks o.op) e e':=iH.right h
 simp only [mN,oY h,znm σ hl h2 hb hm hf,zqj hl h2]
theorem zqi {o:AOper} (hl:kE o.op=true) (hn:sQ o.op=false) (e:Env) (σ σ':Store):mN o e σ=mN o e σ':=by
 simp only [mN,znn hl hn e σ σ']
theorem Yx {op:AOp} (hl:kE op=true):op.kind=.op:=by
 cases op <;> simp only [kE,aE] at hl <;> rfl
theorem Xs {o:AOper} (hl:kE o.op=true) {σ:Store} {st:Step} (h:jP o e σ=some st):∃ dat e1,mN o e σ=some dat∧st=.next e1 σ∧Acts o.dst dat e e1:=by
 unfold jP at h
 obtain ⟨w,hw,h⟩:=dC h
 rw [Yx hl] at h
 simp only [mN,hw,dG,dK]
 cases w with
 | true =>
  simp only [dJ] at h ⊢
  obtain ⟨⟨e1,σ1⟩,h1,h⟩:=dC h
  cases h
  rw [Ox hl] at h1
  obtain ⟨v,hv,h1⟩:=dC h1
  cases h1
  exact ⟨_,_,by rw [hv]; rfl,rfl,Yp hl _ v hv⟩
 | false =>
  simp only [dH,aA] at h ⊢
  subst h
  exact ⟨_,_,rfl,rfl,kL (v:=.c ⟨false,.undef⟩) [] none (fun s=>by simp) rfl (fun b=>rfl) rfl⟩
theorem Ik {o:AOper} (hl:kE o.op=true) (σ:Store) {dat:Dat} (h:mN o e σ=some dat):∃ e1,jP o e σ=some (.next e1 σ)∧Acts o.dst dat e e1:=by
 unfold mN at h
 obtain ⟨w,hw,h⟩:=dC h
 simp only [jP,hw,dG,dK,Yx hl,Ox hl]
 cases w with
 | true =>
  simp only [dJ] at h ⊢
  obtain ⟨v,hv,h⟩:=dC h
  cases h
  rw [hv]
  exact ⟨_,rfl,Yp hl _ v hv⟩
 | false =>
  simp only [dH,aA] at h ⊢
  subst h
  exact ⟨_,rfl,kL (v:=.c ⟨false,.undef⟩) [] none (fun s=>by simp) rfl (fun b=>rfl) rfl⟩
theorem Acts.eqv {dst:Option Nat} {dat:Dat} {e1 e1':Env} (h:Acts dst dat e e1) (h':Acts dst dat e' e1') (he:Eqv e e'):Eqv e1 e1' :=
 ⟨fun s=>by rw [h.slots,h'.slots,he.slots],fun s=>by rw [h.locs,h'.locs,he.locs],fun b=>by rw [h.boxes,h'.boxes,he.boxes],by rw [h.defers,h'.defers,he.defers]⟩
theorem Acts.agree {dst:Option Nat} {dat:Dat} {e1:Env} (h:Acts dst dat e e1) {L:List Nat} (h1:∀ d,dst=some d→d ∉ L) (h2:∀ s∈dat.2.1,s ∉ L):iH L e e1:=fun s hs=>by
 have n1:¬ dst=some s:=fun k=>h1 s k hs
 have n2:s ∉ dat.2.1:=fun k=>h2 s k hs
 exact ⟨by rw [h.slots,if_neg n1,if_neg n2],by rw [h.locs,if_neg n1]⟩
theorem zel:∀ (cs:List Cell) (o:Nat),(jF cs o).map Cell.d=cs.map Cell.d
 | [],0=>rfl
 | [],_ + 1=>rfl
 | _ :: _,0=>rfl
 | c :: cs,o + 1=>by simp only [jF,aO,zel cs o]
theorem On {op:AOp} {b:Nat} {f:Option (List Cell)→Option (List Cell)} (h:rQ op e=some (b,f)):(wd op=some b∨∀ o,(f o).map (·.map Cell.d)=o.map (·.map Cell.d))∧∀ b',wb op=some (some b')→b'=b:=by
 unfold rQ at h
 split at h
 ·split at h
  ·cases h
   refine ⟨.inr fun o=>?_,fun b' h=>by simp only [wb,aA,reduceCtorEq] at h⟩
   cases o with
   | none=>rfl
   | some cs=>simp only [bN,zel]
  ·cases h
 ·split at h
  ·cases h
   exact ⟨.inl rfl,fun b' h=>by simp only [wb,aA] at h; exact h.symm⟩
  ·cases h
 ·cases h
  exact ⟨.inl rfl,fun b' h=>by simp only [wb,aA] at h; exact h.symm⟩
 ·split at h
  ·cases h
   exact ⟨.inl rfl,fun b' h=>by simp only [wb,aA] at h; exact h.symm⟩
  ·cases h
 ·cases h
theorem Dw {o:AOper} {dat:Dat} {σ:Store} (h:mN o e σ=some dat):dat.2.2=none∨dat.2.2=rQ o.op e:=by
 unfold mN at h
 obtain ⟨w,_,h⟩:=dC h
 cases w with
 | false=>simp only [dH,aA] at h; subst h; exact .inl rfl
 | true =>
  simp only [dJ] at h
  obtain ⟨v,_,h⟩:=dC h
  cases h
  exact .inr rfl
theorem Acts.boxD1 {o:AOper} {dat:Dat} {e1:Env} {σ:Store} (h:Acts o.dst dat e e1) (hd:mN o e σ=some dat) {b:Nat} (hb:wd o.op≠some b):xH e e1 b:=by
 unfold xH
 rw [h.boxes]
 rcases Dw hd with hn | hn
 ·rw [hn]
 ·cases hx:dat.2.2 with
  | none=>rfl
  | some q =>
   obtain ⟨b',f⟩:=q
   rw [hx] at hn
   simp only
   by_cases hbb:b'=b
   ·subst hbb
    rw [if_pos rfl]
    rcases (On hn.symm).1 with h | h
    ·exact absurd h hb
    ·exact (h _).symm
   ·rw [if_neg hbb]
theorem Acts.boxA {o:AOper} {dat:Dat} {e1:Env} {σ:Store} {op:AOp} (h:Acts o.dst dat e e1) (hd:mN o e σ=some dat) (hc:zg2 (rb op) (wd o.op)=false):Uz op e e1:=by
 unfold Uz
 cases hr:rb op with
 | none=>trivial
 | some r =>
  rw [hr] at hc
  cases r with
  | none =>
   intro b
   refine h.boxD1 hd fun hw=>?_
   rw [hw] at hc
   cases hc
  | some b =>
   refine h.boxD1 hd fun hw=>?_
   rw [hw] at hc
   simp [zg2] at hc
theorem zn0 {op:AOp} {e e':Env} (h:∀ b,dE e.boxes b=dE e'.boxes b):Uz op e e':=by
 unfold Uz
 split
 ·trivial
 ·exact fun b=>by unfold xH; rw [h]
 ·unfold xH; rw [h]
theorem Acts.swap {dp di:Option Nat} {p i:Dat} {e1 e2 e1' e2':Env} (h1:Acts dp p e e1) (h2:Acts di i e1 e2) (k1:Acts di i e e1') (k2:Acts dp p e1' e2')
  (hd:∀ s,dp=some s→di≠some s) (hpi:∀ s,dp=some s→s ∉ i.2.1) (hip:∀ s,di=some s→s ∉ p.2.1) (hb:p.2.2=none∨i.2.2=none∨∃ bp fp bi fi,p.2.2=some (bp,fp)∧i.2.2=some (bi,fi)∧bp≠bi):Eqv e2 e2':=by
 refine ⟨fun s=>?_,fun s=>?_,fun b=>?_,by rw [h2.defers,h1.defers,k2.defers,k1.defers]⟩
 ·rw [h2.slots,h1.slots,k2.slots,k1.slots]
  by_cases a:dp=some s
  ·rw [if_pos a,if_neg (hd s a),if_neg (hpi s a),if_pos a]
  ·by_cases b:di=some s
   ·rw [if_pos b,if_neg a,if_neg (hip s b),if_pos b]
   ·rw [if_neg b,if_neg a,if_neg a,if_neg b]
    by_cases c:s∈i.2.1 <;> by_cases d:s∈p.2.1 <;> simp [c,d]
 ·rw [h2.locs,h1.locs,k2.locs,k1.locs]
  by_cases a:dp=some s
  ·rw [if_pos a,if_neg (hd s a),if_pos a]
  ·by_cases b:di=some s
   ·rw [if_pos b,if_neg a,if_pos b]
   ·rw [if_neg b,if_neg a,if_neg a,if_neg b]
 ·rw [h2.boxes,h1.boxes,k2.boxes,k1.boxes]
  rcases hb with hb | hb | ⟨bp,fp,bi,fi,h1,h2,hne⟩
  ·rw [hb]
  ·rw [hb]
  ·rw [h1,h2]
   simp only
   by_cases ha:bi=b
   ·subst ha
    simp only [if_true,if_neg hne]
   ·simp only [if_neg ha]
theorem pJ {l:List (Nat × (Nat × Nat))} {s:Nat}:mI l s=true↔dE l s=none∧∀ t b o,dE l t=some (b,o)→b≠s:=by
 unfold mI
 cases h:dE l s with
 | some q=>simp [dK]
 | none =>
  rw [fR,bM]
  constructor
  ·intro hall
   refine ⟨rfl,fun t b o ht=>?_⟩
   have hk:∃ q∈l,q.1=t:=by
    clear hall h
    induction l with
    | nil=>simp [jV] at ht
    | cons p l ih =>
     obtain ⟨k,v⟩:=p
     rw [fD] at ht
     by_cases hkt:k=t
     ·exact ⟨(k,v),by simp,hkt⟩
     ·rw [if_neg hkt] at ht
      obtain ⟨q,hq,hqt⟩:=ih ht
      exact ⟨q,by simp [hq],hqt⟩
   obtain ⟨q,hq,rfl⟩:=hk
   have:=hall q hq
   rw [ht,dK] at this
   simpa using this
  ·rintro ⟨_,h2⟩ q _
   cases hq:dE l q.1 with
   | none=>rfl
   | some r =>
    obtain ⟨b,o⟩:=r
    rw [dK]
    have:=h2 _ b o hq
    simpa using this
mutual
theorem D.same_eq:∀ {a b:D},D.same a b=true→a=b
 | .undef,b,h=>by cases b <;> simp_all [D.same]
 | .bool x,b,h=>by cases b <;> simp_all [D.same]
 | .int k n,b,h=>by
  cases b <;> simp only [D.same,aE,aC,beq_iff_eq] at h
  have hk:∀ {k k':IntKind},kN k k'=true→k=k':=by
   intro k k' h
   cases k <;> cases k' <;> simp_all [kN]
  rw [hk h.1,h.2]
 | .str x,b,h=>by cases b <;> simp_all [D.same]
 | .nils,b,h=>by cases b <;> simp_all [D.same]
 | .list k x,b,h=>by
  cases b <;> simp only [D.same,aE,aC,beq_iff_eq] at h
  rename_i k' y
  obtain ⟨⟨⟨h1,h2⟩,h3⟩,h4⟩:=h
  have:k=k':=by cases k; cases k'; simp_all
  rw [this,xF h4]
 | .agg x,b,h=>by
  cases b <;> simp only [D.same,aE] at h
  rw [xF h]
 | .tup x,b,h=>by
  cases b <;> simp only [D.same,aE] at h
  rw [xF h]
 | .nilp,b,h=>by cases b <;> simp_all [D.same]
 | .ptr x y,b,h=>by cases b <;> simp_all [D.same]
 | .eptr x,b,h=>by
  cases b <;> simp only [D.same,aE] at h
  rw [D.same_eq h]
 | .fn g x y,b,h=>by
  cases b <;> simp only [D.same,aE,aC,cE] at h
  obtain ⟨⟨rfl,h1⟩,h2⟩:=h
  rw [xF h1,xF h2]
 | .nilfn,b,h=>by cases b <;> simp_all [D.same]
 | .iface t x,b,h=>by
  cases b <;> simp only [D.same,aE,aC,beq_iff_eq] at h
  rw [h.1,D.same_eq h.2]
 | .niliface,b,h=>by cases b <;> simp_all [D.same]
 | .junk,b,h=>by cases b <;> simp_all [D.same]
 | .arr k x y z,b,h=>by
  cases b <;> simp only [D.same,aE,aC,beq_iff_eq] at h
  rename_i k' x' y' z'
  obtain ⟨⟨⟨⟨⟨h1,h2⟩,h3⟩,rfl⟩,rfl⟩,rfl⟩:=h
  have:k=k':=by cases k; cases k'; simp_all
  rw [this]
 | .empt,b,h=>by cases b <;> simp_all [D.same]
 | .map x,b,h=>by cases b <;> simp_all [D.same]
 | .nilmap,b,h=>by cases b <;> simp_all [D.same]
 | .yld x,b,h=>by cases b <;> simp_all [D.same]
theorem xF:∀ {a b:List D},uD a b=true→a=b
 | [],b,h=>by cases b <;> simp_all [uD]
 | x :: a,b,h=>by
  cases b with
  | nil=>simp [uD] at h
  | cons y b =>
   simp only [uD,aC] at h
   rw [D.same_eq h.1,xF h.2]
end
theorem zeg:∀ {a b:List Cell},yI a b=true→a=b
 | [],b,h=>by cases b <;> simp_all [yI]
 | x :: a,b,h=>by
  cases b with
  | nil=>simp [yI] at h
  | cons y b =>
   simp only [yI,aC,beq_iff_eq] at h
   obtain ⟨⟨h1,h2⟩,h3⟩:=h
   obtain ⟨o,d⟩:=x
   obtain ⟨o',d'⟩:=y
   simp only at h1 h2
   rw [h1,D.same_eq h2,zeg h3]
theorem zeh:∀ {a b:List (D × D × Nat)},yJ a b=true→a=b
 | [],b,h=>by cases b <;> simp_all [yJ]
 | (x,y,z) :: a,b,h=>by
  cases b with
  | nil=>simp [yJ] at h
  | cons q b =>
   obtain ⟨x',y',z'⟩:=q
   simp only [yJ,aC,beq_iff_eq] at h
   obtain ⟨⟨⟨h1,h2⟩,rfl⟩,h3⟩:=h
   rw [D.same_eq h1,D.same_eq h2,zeh h3]
theorem zyw {a b:Option (List Cell)} (h:zas a b=true):a=b:=by
 cases a <;> cases b <;> simp only [zas,aE] at h
 rw [zeg h]
theorem zyv {es:List (D × D × Nat)} {c:Nat} {b:Option Oth} (h:xQ (some (.map es c)) b=true):some (.map es c)=b:=by
 cases b with
 | none=>simp [xQ] at h
 | some b =>
  cases b <;> simp only [xQ,aE,aC,beq_iff_eq] at h
  rw [zeh h.1,h.2]
def tG:AOpd→Option Nat
 | .tmp s=>some s
 | .mv s=>some s
 | .const _=>none
def tC:AOp→Option Nat
 | .load _ _ x=>tG x
 | .loadP _ x=>tG x
 | .loadG _ x=>tG x
 | .lookup _ _ _ x _=>tG x
 | .lenM x=>tG x
 | _=>none
def Tu (p i:AOper):Bool:=match tC p.op,kP i.op with
 | some s,some ws=>ws.contains s && !(p.dst == some s)
 | _,_=>false
theorem zax {b:Option (List Nat)} {σ σ':Store} (h:∀ s,(∀ ws,b=some ws→s∈ws→dE e.slots s=dE e'.slots s)):vZ b e σ σ'=vZ b e' σ σ':=by
 cases b with
 | none=>rfl
 | some ws =>
  unfold vZ
  simp only [dK]
  have:∀ s∈ws,lI e σ σ' s=lI e' σ σ' s:=fun s hs=>by
   unfold lI
   rw [h s ws rfl hs]
  rw [Bool.eq_iff_iff,bM,bM]
  exact ⟨fun k s hs=>(this s hs) ▸ k s hs,fun k s hs=>(this s hs).symm ▸ k s hs⟩
theorem zpb {s:Nat} {σ σ':Store} (h:(dE e.slots s).map Cell.d=(dE e'.slots s).map Cell.d):lI e σ σ' s=lI e' σ σ' s:=by
 unfold lI
 cases h1:dE e.slots s with
 | none =>
  rw [h1] at h
  cases h2:dE e'.slots s with
  | none=>rfl
  | some c=>rw [h2] at h; cases h
 | some c =>
  rw [h1] at h
  cases h2:dE e'.slots s with
  | none=>rw [h2] at h; cases h
  | some c' =>
   rw [h2] at h
   simp only [bN,aA] at h
   simp only [dK,h]
theorem Qz {x:AOpd} {s id off:Nat} {σ σ':Store} {cs:List Cell} (hx:tG x=some s) (hp:iW e x=some (.ptr id off)) (h:lI e σ σ' s=true) (hc:dE σ.objs id=some cs):dE σ'.objs id=some cs:=by
 have key:dE e.slots s=dE e.slots s→(dG (dE e.slots s) fun c=>sB c.d)=some (.ptr id off)→dE σ'.objs id=some cs:=by
  intro _ hp
  obtain ⟨c,h1,h2⟩:=dC hp
  unfold lI at h
  rw [h1] at h
  simp only [dK] at h
  cases hd:c.d <;> rw [hd] at h2 <;> simp only [sB,reduceCtorEq,aA,Ptr.ptr.injEq] at h2
  obtain ⟨rfl,rfl⟩:=h2
  rw [hd] at h
  simp only [hc,dK] at h
  exact (zyw h).symm
 cases x <;> simp only [tG,reduceCtorEq,aA] at hx <;> subst hx <;> simp only [iW] at hp
 all_goals
  cases hl:dE e.locs _ with
  | none=>rw [hl] at hp; exact key rfl hp
  | some q=>rw [hl] at hp; simp only [dK,reduceCtorEq,aA] at hp
theorem zei {x:AOpd} {s:Nat} {σ σ':Store} {c:Cell} {es:List (D × D × Nat)} (hx:tG x=some s) (hp:opd e x=some c) (h:lI e σ σ' s=true) (hc:tZ σ.oth c.d=some es):tZ σ'.oth c.d=some es:=by
 have key:∀ c0:Cell,dE e.slots s=some c0→c0.d=c.d→tZ σ'.oth c.d=some es:=by
  intro c0 h1 h2
  unfold lI at h
  rw [h1] at h
  simp only [dK] at h
  rw [h2] at h
  cases hd:c.d <;> rw [hd] at hc h <;> simp only [tZ,reduceCtorEq] at hc ⊢
  ·obtain ⟨y,h3,hc⟩:=dC hc
   cases y <;> simp only [reduceCtorEq] at hc
   simp only [h3,dK] at h
   rw [← zyv h]
   exact hc
  ·exact hc
 cases x <;> simp only [tG,reduceCtorEq,aA] at hx <;> subst hx <;> simp only [opd] at hp
 ·obtain ⟨c0,h1,h2⟩:=dC hp
  cases h2
  exact key c0 h1 rfl
 ·exact key c hp rfl
theorem zs0 {op:AOp} (hl:kE op=true) (hn:sQ op=true) {σ σ':Store} {s:Nat} (hs:tC op=some s) (h:lI e σ σ' s=true) {v:Val} (hv:kU op e σ=some v):kU op e σ'=some v:=by
 cases op <;> simp only [sQ,aE] at hn
 case load k mv x =>
  simp only [tC] at hs
  simp only [kU,dO] at hv ⊢
  obtain ⟨p,h1,hv⟩:=dC hv
  rw [h1]
  simp only [dG,dK]
  cases p with
  | loc b off=>exact hv
  | eptr d=>exact hv
  | ptr id off =>
   obtain ⟨cs,h2,hv⟩:=dC hv
   simp only [Qz hs h1 h h2,dK]
   exact hv
 case loadP k x =>
  simp only [tC] at hs
  simp only [kU,dO] at hv ⊢
  obtain ⟨p,h1,hv⟩:=dC hv
  rw [h1]
  simp only [dG,dK]
  cases p with
  | loc b off=>cases hv
  | eptr d=>cases hv
  | ptr id off =>
   obtain ⟨cs,h2,hv⟩:=dC hv
   simp only [Qz hs h1 h h2,dK]
   exact hv
 case loadG k x =>
  simp only [tC] at hs
  simp only [kU,dO] at hv ⊢
  obtain ⟨p,h1,hv⟩:=dC hv
  rw [h1]
  simp only [dG,dK]
  cases p with
  | loc b off=>cases hv
  | eptr d=>exact hv
  | ptr id off =>
   obtain ⟨cs,h2,hv⟩:=dC hv
   simp only [Qz hs h1 h h2,dK]
   exact hv
 case lookup ks z ok x y =>
  simp only [tC] at hs
  simp only [kU,dO] at hv ⊢
  obtain ⟨c,h1,hv⟩:=dC hv
  rw [h1]
  simp only [dG,dK]
  obtain ⟨k,h2,hv⟩:=dC hv
  obtain ⟨es,h3,hv⟩:=dC hv
  rw [h2,zei hs h1 h h3]
  exact hv
 case lenM x =>
  simp only [tC] at hs
  simp only [kU,dO] at hv ⊢
  obtain ⟨c,h1,hv⟩:=dC hv
  rw [h1]
  simp only [dG,dK]
  obtain ⟨es,h3,hv⟩:=dC hv
  rw [zei hs h1 h h3]
  exact hv
theorem zt6 {o:AOper} (hl:kE o.op=true) (hn:sQ o.op=true) {σ σ':Store} {s:Nat} (hs:tC o.op=some s) (h:lI e σ σ' s=true) {dat:Dat} (hd:mN o e σ=some dat):mN o e σ'=some dat:=by
 unfold mN at hd ⊢
 obtain ⟨w,h1,hd⟩:=dC hd
 rw [h1]
 simp only [dG,dK]
 cases w with
 | false=>exact hd
 | true =>
  simp only [dJ] at hd ⊢
  obtain ⟨v,h2,hd⟩:=dC hd
  rw [zs0 hl hn hs h h2]
  exact hd
theorem zv9 {op:AOp} (hl:kE op=true) (ha:pZ op=none) {σ:Store} {b off:Nat} (hv:kU op e σ=some (.l b off)):∃ t o,dE e.locs t=some (b,o):=by
 have addr_loc:∀ {x:AOpd} {b off:Nat},iW e x=some (.loc b off)→∃ t,dE e.locs t=some (b,off):=by
  intro x b off h
  have key:∀ t,(eZ (dE e.locs t) (dG (dE e.slots t) fun c=>sB c.d) fun p=>some (.loc p.1 p.2))=some (Ptr.loc b off)→dE e.locs t=some (b,off):=by
   intro t h
   cases hl:dE e.locs t with
   | some p =>
    obtain ⟨x,y⟩:=p
    rw [hl] at h
    simp only [dK,aA,Ptr.loc.injEq] at h
    rw [h.1,h.2]
   | none =>
    rw [hl,fR] at h
    obtain ⟨c,h1,h⟩:=dC h
    cases hd:c.d <;> rw [hd] at h <;> simp only [sB,reduceCtorEq,aA] at h
  cases x with
  | tmp t=>exact ⟨t,key t h⟩
  | mv t=>exact ⟨t,key t h⟩
  | const d=>cases d <;> simp [iW,sB] at h
 cases op <;> simp only [kE,aE] at hl <;> simp only [pZ,reduceCtorEq] at ha <;> simp only [kU,dO] at hv
 case nilCheck x =>
  obtain ⟨p,h1,hv⟩:=dC hv
  cases p <;> simp only [aA,Val.l.injEq,reduceCtorEq] at hv
  obtain ⟨rfl,rfl⟩:=hv
  exact ⟨_,_,(addr_loc h1).choose_spec⟩
 case fieldAddr o k x =>
  obtain ⟨p,h1,hv⟩:=dC hv
  cases p with
  | loc b' o' =>
   simp only [aA,Val.l.injEq] at hv
   obtain ⟨rfl,rfl⟩:=hv
   exact ⟨_,_,(addr_loc h1).choose_spec⟩
  | ptr id o'=>simp at hv
  | eptr d =>
   obtain ⟨cs,_,hv⟩:=dC hv
   obtain ⟨d',_,hv⟩:=dC hv
   cases hv
 case indexAddrP n sz x i =>
  obtain ⟨p,h1,hv⟩:=dC hv
  obtain ⟨ic,_,hv⟩:=dC hv
  obtain ⟨m,_,hv⟩:=dC hv
  obtain ⟨_,hv⟩:=dN hv
  cases p with
  | loc b' o' =>
   simp only [aA,Val.l.injEq] at hv
   obtain ⟨rfl,rfl⟩:=hv
   exact ⟨_,_,(addr_loc h1).choose_spec⟩
  | ptr id o'=>simp at hv
  | eptr d=>cases hv
 all_goals
  exfalso
  revert hv
  simp only [dG,eZ,ifB]
  repeat' split
  all_goals simp
def Ip (l m:List Nat):Bool:=l.all fun x=>!m.contains x
def zag (op:AOp):Bool:=kE op || rX op || (match op with | .call _ _=>true | .callv _ _=>true | .callW _ _ _=>true | .callvW _ _ _=>true | .panic _=>true | _=>false)
def zrq (o:AOper):Bool:=match pZ o.op with
 | some s=>o.dst == some s && o.guard.isNone
 | none=>true
def Ie (p i:AOper):Bool :=
 kE p.op && (zag i.op && (kE i.op || !sQ p.op || Tu p i) && Ip p.dst.toList (rG i) && Ip i.dst.toList (rG p) && Ip p.dst.toList i.dst.toList && Ip (rF p.op) (rG i) && Ip (rF i.op) (rG p) &&
 Ip p.dst.toList (rF i.op) && Ip i.dst.toList (rF p.op) && !zg2 (rb p.op) (wd i.op) && !zg2 (rb i.op) (wd p.op) && !Gk (wb p.op) (wb i.op) && zrq p && zrq i && ((pZ i.op).isNone || (pZ p.op).isSome))
theorem xZ {l m:List Nat} (h:Ip l m=true):∀ s∈l,s ∉ m:=fun s hs=>by
 simpa using bM.1 h s hs
theorem Om {op:AOp} (h:wb op=none):rQ op e=none:=by
 cases op <;> simp only [wb,reduceCtorEq] at h <;> try rfl
 case loadL k mv x=>cases mv <;> simp only [reduceCtorEq] at h; rfl
theorem Acts.box_none {o:AOper} {dat:Dat} {σ:Store} (hd:mN o e σ=some dat) (hm:wb o.op=none):dat.2.2=none:=by
 rcases Dw hd with h | h
 ·exact h
 ·rw [h,Om hm]
theorem uT {o:AOper} {dat:Dat} {σ:Store} (hd:mN o e σ=some dat):∀ s∈dat.2.1,s∈rF o.op:=by
 unfold mN at hd
 obtain ⟨w,_,h⟩:=dC hd
 cases w with
 | false=>simp only [dH,aA] at h; subst h; intro s hs; cases hs
 | true =>
  simp only [dJ] at h
  obtain ⟨v,_,h⟩:=dC h
  cases h
  exact fun s hs=>hs
theorem xY {o:AOper} {dat:Dat} {σ:Store} (hd:mN o e σ=some dat) (ho:zrq o=true) {s:Nat} (ha:pZ o.op=some s):o.dst=some s∧mI e.locs s=true∧dat.1=.l s 0:=by
 unfold zrq at ho
 rw [ha] at ho
 simp only [aC,beq_iff_eq,Option.isNone_iff_eq_none] at ho
 unfold mN at hd
 rw [ho.2] at hd
 simp only [qL,dG,dK,dJ] at hd
 cases hop:o.op <;> rw [hop] at ha hd <;> simp only [pZ,reduceCtorEq,aA] at ha <;> subst ha
 ·simp only [kU] at hd
  cases hf:mI e.locs _ with
  | false=>rw [hf] at hd; cases hd
  | true =>
   rw [hf] at hd
   simp only [dJ,dK,aA] at hd
   subst hd
   exact ⟨ho.1,rfl,rfl⟩
 ·rename_i s x
  simp only [kU] at hd
  cases hx:opd e x with
  | none=>rw [hx] at hd; cases hd
  | some c =>
   rw [hx] at hd
   simp only [dG,dK] at hd
   cases hf:mI e.locs s with
   | false=>rw [hf] at hd; cases hd
   | true =>
    rw [hf,bX] at hd
    cases hok:c.d.ok with
    | false=>rw [hok] at hd; cases hd
    | true =>
     rw [hok] at hd
     simp only [dJ,dK,aA] at hd
     subst hd
     exact ⟨ho.1,rfl,rfl⟩
theorem Az {op:AOp} (h:iH (looks op) e e'):qA op e=qA op e':=by
 cases op <;> simp only [looks] at h <;> simp only [qA]
 case call f as=>rw [nW h]
 case callv x as=>rw [dP h.left,nW h.right]
 case callW ws f as=>rw [nW h]
 case callvW ws x as=>rw [dP h.left,nW h.right]
theorem Ls {op:AOp} (h:iH (looks op) e e'):xA op e=xA op e':=by
 cases op <;> simp only [looks] at h <;> simp only [xA]
 case panic x=>rw [dP h]
inductive OutEqv:OpsOut→OpsOut→Prop where
 | normal {e e':Env} {σ:Store} (h:Eqv e e'):OutEqv (.normal e σ) (.normal e' σ)
 | panic {d:D} {e e':Env} {σ:Store} (h:e.defers=e'.defers):OutEqv (.panic d e σ) (.panic d e' σ)
theorem OutEqv.refl (o:OpsOut):OutEqv o o:=by
 cases o
 ·exact .normal (Eqv.refl _)
 ·exact .panic rfl
theorem OutEqv.trans {o o' o'':OpsOut} (h:OutEqv o o') (k:OutEqv o' o''):OutEqv o o'':=by
 cases h with
 | normal h=>cases k with | normal k=>exact .normal (h.trans k)
 | panic h=>cases k with | panic k=>exact .panic (h.trans k)
theorem Eqv.agree {e e':Env} (h:Eqv e e') (L:List Nat):iH L e e':=fun s _=>⟨h.slots s,h.locs s⟩
theorem Eqv.boxA {e e':Env} (h:Eqv e e') (op:AOp):Uz op e e':=zn0 h.boxes
theorem Eqv.lfr {e e':Env} (h:Eqv e e') (s:Nat):mI e.locs s=mI e'.locs s:=by
 have:mI e.locs s=true↔mI e'.locs s=true:=by simp only [pJ,h.locs]
 cases h1:mI e.locs s <;> cases h2:mI e'.locs s <;> simp_all
def zok:AOp→Bool
 | .store _ _ _=>true
 | _=>false
def uU (op:AOp):Bool:=zag op || zok op
theorem Hk {e e':Env} (h:Eqv e e') (d:Option Nat) (c:Cell):Eqv (e.put d c) (e'.put d c):=by
 cases d with
 | none=>exact h
 | some s=>exact ⟨fun t=>by simp only [Env.put,dY,h.slots],fun t=>by simp only [Env.put,eK,h.locs],h.boxes,h.defers⟩
theorem zv0 {e e':Env} (h:Eqv e e') {dst:Option Nat} {k:Nat} {x y:AOpd} {σ:Store} {e1:Env} {σ1:Store} (hs:dX dst (.store k x y) e σ=some (e1,σ1)):∃ e1',dX dst (.store k x y) e' σ=some (e1',σ1)∧Eqv e1 e1':=by
 have hd:Eqv (y.drop e) (y.drop e'):=by
  obtain ⟨k1,k2,k3⟩:=sZ (e:=e) y
  obtain ⟨q1,q2,q3⟩:=sZ (e:=e') y
  exact ⟨fun s=>by rw [tA,tA,h.slots],fun s=>by rw [k1,q1,h.locs],fun s=>by rw [k2,q2,h.boxes],by rw [k3,q3,h.defers]⟩
 simp only [dX] at hs ⊢
 rw [← kQ (h.agree _),← dP (h.agree _)]
 obtain ⟨p,h1,hs⟩:=dC hs
 obtain ⟨c,h2,hs⟩:=dC hs
 rw [h1,h2]
 simp only [dG,dK]
 cases p with
 | loc b off =>
  simp only at hs ⊢
  obtain ⟨cs,h3,hs⟩:=dC hs
  obtain ⟨h4,hs⟩:=dN hs
  cases hs
  rw [← h.boxes,h3]
  simp only [dK,h4,dJ]
  have hE:Eqv {y.drop e with boxes:=dZ e.boxes b (putCells cs off (gG c))} {y.drop e' with boxes:=dZ e'.boxes b (putCells cs off (gG c))} :=
   ⟨hd.slots,hd.locs,fun s=>by simp only [dY,h.boxes],hd.defers⟩
  exact ⟨_,rfl,Hk hE _ _⟩
 | ptr id off =>
  simp only at hs ⊢
  obtain ⟨cs,h3,hs⟩:=dC hs
  obtain ⟨h4,hs⟩:=dN hs
  cases hs
  rw [h3]
  simp only [dK,h4,dJ]
  exact ⟨_,rfl,Hk hd _ _⟩
 | eptr d=>cases hs
theorem zy5 {e e':Env} (h:Eqv e e') {o:AOper} (ho:uU o.op=true) {σ:Store} {st:Step} (hs:jP o e σ=some st) :
  (∃ e1 e1' σ1,st=.next e1 σ1∧jP o e' σ=some (.next e1' σ1)∧Eqv e1 e1')∨((∀ e1 σ1,st≠.next e1 σ1)∧jP o e' σ=some st):=by
 by_cases hl:kE o.op=true
 ·obtain ⟨dat,e1,h1,rfl,h2⟩:=Xs hl hs
  rw [zN σ hl (h.agree _) (h.boxA _) (fun _ b=>h.boxes b) (fun s _=>h.lfr s)] at h1
  obtain ⟨e1',k1,k2⟩:=Ik hl σ h1
  exact .inl ⟨e1,e1',σ,rfl,k1,h2.eqv k2 h⟩
 ·unfold jP at hs ⊢
  obtain ⟨w,hw,hs⟩:=dC hs
  rw [← oY (o:=o) (h.agree _),hw]
  simp only [dG,dK]
  cases w with
  | false =>
   simp only [dH,aA] at hs ⊢
   subst hs
   exact .inl ⟨_,_,_,rfl,rfl,Hk h _ _⟩
  | true =>
   simp only [dJ] at hs ⊢
   by_cases hm:rX o.op=true
   ·rw [Vy hm] at hs ⊢
    simp only at hs ⊢
    rw [Iq hm] at hs ⊢
    obtain ⟨⟨e1,σ1⟩,h1,hs⟩:=dC hs
    cases hs
    unfold eI at h1 ⊢
    rw [← Fb σ hm (h.agree _)]
    obtain ⟨r,h2,h1⟩:=dC h1
    cases h1
    rw [h2]
    exact .inl ⟨_,_,_,rfl,rfl,Hk h _ _⟩
   have hm':rX o.op=false:=by simpa using hm
   cases hk:o.op <;> rw [hk] at ho hl hs hm' <;> simp only [uU,zag,kE,zok,hm',Bool.or_self,aE,not_true_eq_false] at ho hl <;> simp only [AOp.kind] at hs ⊢ <;> simp only [rX,Bool.true_eq_false] at hm'
   ·exfalso
    rename_i k mv x
    cases mv <;> simp at ho hl
   ·obtain ⟨⟨e1,σ1⟩,h1,hs⟩:=dC hs
    cases hs
    obtain ⟨e1',k1,k2⟩:=zv0 h h1
    rw [k1]
    exact .inl ⟨e1,e1',σ1,rfl,rfl,k2⟩
   all_goals first
    | (obtain ⟨⟨f,as⟩,h1,hs⟩:=dC hs
       cases hs
       rw [← Az (h.agree _),h1]
       exact .inr ⟨(fun _ _ h=>by cases h),rfl⟩)
    | (obtain ⟨d,h1,hs⟩:=dC hs
       cases hs
       rw [← Ls (h.agree _),h1]
       exact .inr ⟨(fun _ _ h=>by cases h),rfl⟩)
theorem Lc {C:dQ}:∀ {l:List AOper} (_:∀ o∈l,uU o.op=true) {e e':Env} (_:Eqv e e') {σ:Store} {out:OpsOut},gJ C l e σ=some out→∃ out',gJ C l e' σ=some out'∧OutEqv out out'
 | [],_,e,e',he,σ,out,h=>by
  simp only [gJ,aA] at h
  subst h
  exact ⟨_,rfl,.normal he⟩
 | o :: l,hl,e,e',he,σ,out,h=>by
  simp only [gJ] at h ⊢
  obtain ⟨st,h1,h⟩:=dC h
  have ih:=@Lc C l fun o ho=>hl o (by simp [ho])
  rcases zy5 he (hl o (by simp)) h1 with ⟨e1,e1',σ1,rfl,k1,k2⟩ | ⟨k0,k1⟩
  ·rw [k1]
   simp only at h
   obtain ⟨h3,h⟩:=dN h
   rw [zax (e':=e') (fun s _ _ _=>he.slots s)] at h3
   simp only [dG,dK,h3,dJ]
   exact ih k2 h
  ·rw [k1]
   simp only [dG,dK]
   cases st with
   | next e1 σ1=>exact absurd rfl (k0 e1 σ1)
   | call f as =>
    simp only at h ⊢
    obtain ⟨⟨r,σ1⟩,h2,h⟩:=dC h
    rw [h2]
    obtain ⟨h3,h⟩:=dN h
    rw [zax (e':=e') (fun s _ _ _=>he.slots s)] at h3
    simp only [dK,h3,dJ]
    cases r with
    | ret c=>exact ih (Hk he _ _) h
    | panic d =>
     simp only [aA] at h
     subst h
     exact ⟨_,rfl,.panic he.defers⟩
   | panic d =>
    simp only [aA] at h
    subst h
    exact ⟨_,rfl,.panic he.defers⟩
def Ao (C:dQ) (i:AOper) (l:List AOper) (e:Env) (σ:Store):Option OpsOut:=dG (jP i e σ) fun s=>match s with
 | .next e' σ'=>gJ C l e' σ'
 | .call f as=>dG (C f as σ) fun r=>match r.1 with
  | .ret c=>gJ C l (e.put i.dst c) r.2
  | .panic d=>some (.panic d e r.2)
 | .panic d=>some (.panic d e σ)
def zfn (C:dQ) (i:AOper) (e:Env) (σ σ1:Store):Prop:=(∃ e',jP i e σ=some (.next e' σ1))∨∃ f as r,jP i e σ=some (.call f as)∧C f as σ=some (r,σ1)
theorem Uu {o:AOper} (h:kE o.op=true):kP o.op=none:=by
 cases ho:o.op <;> rw [ho] at h <;> simp only [kE,aE] at h <;> rfl
theorem zyj {C:dQ} {p i:AOper} (ha:Ie p i=true) {l:List AOper} (hl:∀ o∈l,uU o.op=true) {σ:Store} {out:OpsOut} {pd:Dat} {e1:Env} (q1:mN p e σ=some pd) (q2:Acts p.dst pd e e1) (h:Ao C i l e1 σ=some out)
  (hW:sQ p.op=true→kE i.op=false→∀ σ1,zfn C i e1 σ σ1→∃ s,tC p.op=some s∧lI e σ σ1 s=true) :
  ∃ out',Ao C i (p :: l) e σ=some out'∧OutEqv out out':=by
 simp only [Ie,aC,Bool.not_eq_true'] at ha
 obtain ⟨hlp,⟨⟨⟨⟨⟨⟨⟨⟨⟨⟨⟨⟨⟨⟨hpi,a0⟩,a1⟩,a2⟩,a3⟩,a4⟩,a5⟩,a6⟩,a7⟩,b1⟩,b2⟩,b3⟩,b4⟩,b5⟩,b6⟩⟩:=ha
 have a0':=Bool.or_eq_true_iff.1 a0
 have b6':=Bool.or_eq_true_iff.1 b6
 simp only [Ao,gJ] at h ⊢
 obtain ⟨st2,h2,h⟩:=dC h
 have toL:∀ {d:Option Nat} {L:List Nat},Ip d.toList L=true→∀ s,d=some s→s ∉ L:=fun hh s hs=>xZ hh s (by simp [hs])
 have ag:iH (rG i) e e1:=q2.agree (toL a1) (fun s hs=>xZ a4 s (uT q1 s hs))
 have mvp:Sl p.op=true→wb i.op=none:=fun hm=>by
  cases hp:p.op <;> rw [hp] at hm <;> simp only [Sl,aE] at hm
  subst hm
  rw [hp] at b3
  cases hw:wb i.op with
  | none=>rfl
  | some r=>rw [hw] at b3; cases r <;> simp [wb,Gk] at b3
 have mvi:Sl i.op=true→wb p.op=none:=fun hm=>by
  cases hi:i.op <;> rw [hi] at hm <;> simp only [Sl,aE] at hm
  subst hm
  rw [hi] at b3
  cases hw:wb p.op with
  | none=>rfl
  | some r=>rw [hw] at b3; cases r <;> simp [wb,Gk] at b3
 by_cases hli:kE i.op=true
 ·obtain ⟨idt,e2,r1,rfl,r2⟩:=Xs hli h2
  have r1':mN i e σ=some idt:=by
   rw [← r1]
   refine zN σ hli ag (q2.boxA q1 b2) (fun hm b=>?_) (fun s' hs'=>?_)
   ·rw [q2.boxes,Acts.box_none q1 (mvi hm)]
   ·
    have hp:(pZ p.op).isSome=true:=b6'.resolve_left (by rw [hs']; simp)
    obtain ⟨s,hs⟩:=aT.1 hp
    obtain ⟨k1,k2,k3⟩:=xY q1 b4 hs
    obtain ⟨g1,g2,g3⟩:=xY r1 b5 hs'
    rw [g2]
    have hne:s≠s':=fun hh=>toL a3 s k1 (by rw [g1,hh]; simp)
    obtain ⟨m1,m2⟩:=pJ.1 g2
    obtain ⟨n1,n2⟩:=pJ.1 k2
    refine pJ.2 ⟨?_,fun t b o ht=>?_⟩
    ·rw [q2.locs,if_neg (fun hh=>hne (by rw [k1] at hh; exact Option.some.inj hh))] at m1
     exact m1
    ·by_cases hts:t=s
     ·rw [hts,n1] at ht
      cases ht
     ·refine m2 t b o ?_
      rw [q2.locs,k1,if_neg (fun hh=>hts (Option.some.inj hh).symm)]
      exact ht
  obtain ⟨e1',s1,s2⟩:=Ik hli σ r1'
  have q1':mN p e1' σ=some pd:=by
   rw [← q1]
   refine (zN σ hlp (s2.agree (toL a2) (fun s hs=>xZ a5 s (uT r1' s hs))) (s2.boxA r1' b1) (fun hm b=>?_) (fun s hs=>?_)).symm
   ·rw [s2.boxes,Acts.box_none r1' (mvp hm)]
   ·obtain ⟨k1,k2,k3⟩:=xY q1 b4 hs
    rw [k2]
    symm
    obtain ⟨n1,n2⟩:=pJ.1 k2
    have hd:i.dst≠some s:=fun hh=>toL a3 s k1 (by rw [hh]; simp)
    refine pJ.2 ⟨by rw [s2.locs,if_neg hd]; exact n1,fun t b o ht=>?_⟩
    rw [s2.locs] at ht
    split at ht
    ·
     cases hia:pZ i.op with
     | some s' =>
      obtain ⟨g1,g2,g3⟩:=xY r1' b5 hia
      rw [g3] at ht
      simp only [Val.loc?,aA,Prod.mk.injEq] at ht
      intro hh
      apply hd
      rw [g1,ht.1,hh]
     | none =>
      cases hv:idt.1 with
      | c c=>rw [hv] at ht; cases ht
      | l b' o' =>
       rw [hv] at ht
       simp only [Val.loc?,aA,Prod.mk.injEq] at ht
       obtain ⟨rfl,rfl⟩:=ht
       have hvv:∃ v,kU i.op e σ=some v∧v=idt.1:=by
        unfold mN at r1'
        obtain ⟨w,_,r1'⟩:=dC r1'
        cases w with
        | false=>simp only [dH,aA] at r1'; subst r1'; cases hv
        | true =>
         simp only [dJ] at r1'
         obtain ⟨v,hv',r1'⟩:=dC r1'
         cases r1'
         exact ⟨v,hv',rfl⟩
       obtain ⟨v,hv1,hv2⟩:=hvv
       rw [hv2,hv] at hv1
       obtain ⟨t',o2,hl'⟩:=zv9 hli hia hv1
       exact n2 t' _ _ hl'
    ·exact n2 t b o ht
  obtain ⟨e2',t1,t2⟩:=Ik hlp σ q1'
  have hE:Eqv e2 e2':=q2.swap r2 s2 t2 (fun s hs k=>toL a3 s hs (by simp [k])) (fun s hs k=>toL a6 s hs (uT r1' s k)) (fun s hs k=>toL a7 s hs (uT q1 s k)) (by
   rcases Dw q1 with hp | hp
   ·exact .inl hp
   ·rcases Dw r1' with hi | hi
    ·exact .inr (.inl hi)
    ·cases hpb:rQ p.op e with
     | none=>exact .inl (hp.trans hpb)
     | some x =>
      cases hib:rQ i.op e with
      | none=>exact .inr (.inl (hi.trans hib))
      | some y =>
       obtain ⟨bp,fp⟩:=x
       obtain ⟨bi,fi⟩:=y
       refine .inr (.inr ⟨bp,fp,bi,fi,hp.trans hpb,hi.trans hib,?_⟩)
       have s1:=(On hpb).2
       have s2:=(On hib).2
       have n1:wb p.op≠none:=fun h=>by rw [Om h] at hpb; cases hpb
       have n2:wb i.op≠none:=fun h=>by rw [Om h] at hib; cases hib
       cases hwp:wb p.op with
       | none=>exact absurd hwp n1
       | some x =>
        cases hwi:wb i.op with
        | none=>exact absurd hwi n2
        | some y =>
         rw [hwp,hwi] at b3
         cases x with
         | none=>cases y <;> simp [Gk] at b3
         | some x =>
          cases y with
          | none=>simp [Gk] at b3
          | some y =>
           have:=s1 x hwp
           have:=s2 y hwi
           subst_vars
           simpa [Gk] using b3)
  rw [s1]
  have hso:∀ ee σa σb,vZ (kP p.op) ee σa σb=true:=fun ee σa σb=>by rw [Uu hlp]; rfl
  simp only [dG,dK,t1,hso,dJ]
  exact Lc hl hE h
 ·
  have hli':kE i.op=false:=by simpa using hli
  have h2s:=h2
  unfold jP at h2 ⊢
  obtain ⟨w,hw,h2⟩:=dC h2
  rw [oY ag,hw]
  simp only [dG,dK]
  have after:∀ (c:Cell) (σ1:Store) (out:OpsOut),(sQ p.op=true→σ1=σ∨∃ s,tC p.op=some s∧lI e σ σ1 s=true)→gJ C l (e1.put i.dst c) σ1=some out→∃ out',(eZ (jP p (e.put i.dst c) σ1) none fun s=>match s with
    | .next e' σ'=>ifB (vZ (kP p.op) (e.put i.dst c) σ1 σ') (gJ C l e' σ') none
    | .call f as=>dG (C f as σ1) fun r=>ifB (vZ (kP p.op) (e.put i.dst c) σ1 r.2) (match r.1 with
     | .ret c'=>gJ C l ((e.put i.dst c).put p.dst c') r.2
     | .panic d=>some (.panic d (e.put i.dst c) r.2)) none
    | .panic d=>some (.panic d (e.put i.dst c) σ1))=some out'∧OutEqv out out':=by
   intro c σ1 out hst hrun
   have s2:Acts i.dst (.c c,[],none) e (e.put i.dst c):=kL (v:=.c c) [] none (fun s=>by simp) rfl (fun b=>rfl) rfl
   have r2:Acts i.dst (.c c,[],none) e1 (e1.put i.dst c):=kL (v:=.c c) [] none (fun s=>by simp) rfl (fun b=>rfl) rfl
   have q1σ:mN p e σ1=some pd:=by
    cases hn:sQ p.op with
    | false=>rw [← zqi hlp hn e σ σ1]; exact q1
    | true =>
     rcases hst hn with rfl | ⟨s,hs1,hw1⟩
     ·exact q1
     ·exact zt6 hlp hn hs1 hw1 q1
   have q1':mN p (e.put i.dst c) σ1=some pd:=by
    rw [← q1σ]
    refine (zN σ1 hlp (s2.agree (toL a2) (fun s hs=>by cases hs)) (zn0 fun b=>by rw [s2.boxes]) (fun _ b=>by rw [s2.boxes]) (fun s hs=>?_)).symm
    obtain ⟨k1,k2,k3⟩:=xY q1 b4 hs
    rw [k2]
    symm
    obtain ⟨n1,n2⟩:=pJ.1 k2
    have hd:i.dst≠some s:=fun hh=>toL a3 s k1 (by rw [hh]; simp)
    refine pJ.2 ⟨by rw [s2.locs,if_neg hd]; exact n1,fun t b o ht=>?_⟩
    rw [s2.locs] at ht
    split at ht
    ·cases ht
    ·exact n2 t b o ht
   obtain ⟨e2',t1,t2⟩:=Ik hlp σ1 q1'
   have hE:=q2.swap r2 s2 t2 (fun s hs k=>toL a3 s hs (by simp [k])) (fun s hs k=>by cases k) (fun s hs k=>toL a7 s hs (uT q1 s k)) (.inr (.inl rfl))
   rw [t1]
   have hso:∀ ee σa σb,vZ (kP p.op) ee σa σb=true:=fun ee σa σb=>by rw [Uu hlp]; rfl
   simp only [dK,hso,dJ]
   exact Lc hl hE hrun
  cases w with
  | false =>
   simp only [dH,aA] at h2 ⊢
   subst h2
   simp only at h
   exact after _ σ out (fun _=>.inl rfl) h
  | true =>
   simp only [dJ] at h2 ⊢
   have hdf:e1.defers=e.defers:=q2.defers
   have ldw:sQ p.op=true→Tu p i=true:=fun hn=>by
    rcases a0' with hx | hx
    ·rcases Bool.or_eq_true_iff.1 hx with hx | hx
     ·exact absurd hx hli
     ·rw [hn] at hx; cases hx
    ·exact hx
   by_cases hm:rX i.op=true
   ·rw [Vy hm] at h2 ⊢
    simp only at h2 ⊢
    rw [Iq hm] at h2 ⊢
    obtain ⟨⟨e2,σ2⟩,h3,h2⟩:=dC h2
    cases h2
    unfold eI at h3 ⊢
    rw [Fb (e':=e1) σ hm (iH.right ag)]
    obtain ⟨r,h4,h3⟩:=dC h3
    cases h3
    rw [h4]
    refine after _ _ out (fun hn=>?_) h
    exact .inr (hW hn hli' _ (.inl ⟨_,h2s⟩))
   have hm':rX i.op=false:=by simpa using hm
   cases hk:i.op.kind with
   | op =>
    exfalso
    cases hi:i.op <;> rw [hi] at hpi hli' hm' hk <;> simp only [AOp.kind,reduceCtorEq] at hk <;> simp only [zag,hli',hm',Bool.or_self,aE] at hpi
   | call =>
    rw [hk] at h2
    simp only at h2 ⊢
    obtain ⟨⟨f,as⟩,h3,h2⟩:=dC h2
    cases h2
    rw [Az (e':=e1) (iH.right ag),h3]
    simp only [dG,dK] at h ⊢
    obtain ⟨⟨r,σ1⟩,h4,h⟩:=dC h
    rw [h4]
    simp only [dK] at h ⊢
    cases r with
    | ret c=>exact after c σ1 out (fun hn=>.inr (hW hn hli' _ (.inr ⟨_,_,_,h2s,h4⟩))) h
    | panic d =>
     simp only [aA] at h
     subst h
     exact ⟨_,rfl,.panic hdf⟩
   | panic =>
    rw [hk] at h2
    simp only at h2 ⊢
    obtain ⟨d,h3,h2⟩:=dC h2
    cases h2
    rw [Ls (e':=e1) (iH.right ag),h3]
    simp only [aA] at h
    subst h
    exact ⟨_,rfl,.panic hdf⟩
theorem zp2 {i:AOper} {σ:Store} {f:FuncId} {as:List D} (h:iH (rG i) e e') (hs:jP i e σ=some (.call f as)):jP i e' σ=some (.call f as):=by
 unfold jP at hs ⊢
 rw [← oY h]
 obtain ⟨w,h1,hs⟩:=dC hs
 rw [h1]
 simp only [dG,dK]
 cases w with
 | false=>simp only [dH,aA,reduceCtorEq] at hs
 | true =>
  simp only [dJ] at hs ⊢
  cases hk:i.op.kind with
  | op =>
   rw [hk] at hs
   obtain ⟨r,_,hs⟩:=dC hs
   cases hs
  | panic =>
   rw [hk] at hs
   obtain ⟨r,_,hs⟩:=dC hs
   cases hs
  | call =>
   rw [hk] at hs
   simp only at hs ⊢
   rw [← Az (iH.right h)]
   exact hs
theorem zrp {i:AOper} (hm:rX i.op=true) {σ σ1:Store} {e1:Env} (h:iH (rG i) e e') (hs:jP i e σ=some (.next e1 σ1)):∃ e2,jP i e' σ=some (.next e2 σ1):=by
 unfold jP at hs ⊢
 rw [← oY h]
 obtain ⟨w,h1,hs⟩:=dC hs
 rw [h1]
 simp only [dG,dK]
 cases w with
 | false =>
  simp only [dH,aA,Step.next.injEq] at hs ⊢
  exact ⟨_,rfl,hs.2⟩
 | true =>
  simp only [dJ,Vy hm] at hs ⊢
  rw [Iq hm] at hs ⊢
  obtain ⟨r,h2,hs⟩:=dC hs
  cases hs
  unfold eI at h2 ⊢
  rw [← Fb σ hm (iH.right h)]
  obtain ⟨q,h3,h2⟩:=dC h2
  cases h2
  rw [h3]
  exact ⟨_,rfl⟩
theorem zvt {C:dQ} {i:AOper} (hs:(kP i.op).isSome=true) {σ σ1:Store} (h:iH (rG i) e e') (hr:zfn C i e σ σ1):zfn C i e' σ σ1:=by
 rcases hr with ⟨e2,h1⟩ | ⟨f,as,r,h1,h2⟩
 ·have hk:rX i.op=true∨i.op.kind=.call:=by
   cases ho:i.op <;> rw [ho] at hs <;> simp only [kP,Option.isSome_none,aE] at hs
   ·exact .inr rfl
   ·exact .inr rfl
   ·exact .inl rfl
  rcases hk with hm | hk
  ·exact .inl (zrp hm h h1)
  ·
   unfold jP at h1
   obtain ⟨w,g1,h1⟩:=dC h1
   cases w with
   | true =>
    simp only [dJ,hk] at h1
    obtain ⟨r,_,h1⟩:=dC h1
    cases h1
   | false =>
    simp only [dH,aA,Step.next.injEq] at h1
    refine .inl ⟨e'.put i.dst ⟨false,.undef⟩,?_⟩
    unfold jP
    rw [← oY h,g1]
    simp only [dG,dK,dH,h1.2]
 ·exact .inr ⟨f,as,r,zp2 h h1,h2⟩
def zwp:List AOper→Prop
 | []=>True
 | p :: l=>(∀ s,tC p.op=some s→∀ a∈l,a.dst≠some s)∧zwp l
theorem zkh {C:dQ} {i:AOper}:∀ {A B:List AOper} (_:∀ p∈A,Ie p i=true) (_:∀ o∈A ++ B,uU o.op=true) (_:zwp A) {e:Env} {σ:Store} {out:OpsOut},gJ C (A ++ i :: B) e σ=some out →
  ∃ out',Ao C i (A ++ B) e σ=some out'∧OutEqv out out'∧∀ σ1,zfn C i e σ σ1→∀ ws,kP i.op=some ws→∀ s∈ws,(∀ a∈A,a.dst≠some s)→lI e σ σ1 s=true
 | [],B,_,_,_,e,σ,out,h=>by
  simp only [bG,gJ] at h
  refine ⟨out,?_,OutEqv.refl out,?_⟩
  ·simp only [bG,Ao]
   obtain ⟨st,h1,h⟩:=dC h
   rw [h1]
   simp only [dG,dK]
   cases st with
   | next e' σ'=>exact (dN h).2
   | panic d=>exact h
   | call f as =>
    simp only at h ⊢
    obtain ⟨r,h2,h⟩:=dC h
    rw [h2]
    exact (dN h).2
  ·intro σ1 hres ws hws s hsw _
   obtain ⟨st,h1,h⟩:=dC h
   have key:vZ (kP i.op) e σ σ1=true:=by
    rcases hres with ⟨e2,hs⟩ | ⟨f,as,r,hs,hc⟩
    ·rw [hs] at h1
     cases h1
     exact (dN h).1
    ·rw [hs] at h1
     cases h1
     simp only at h
     obtain ⟨r',h2,h⟩:=dC h
     rw [hc] at h2
     cases h2
     exact (dN h).1
   rw [hws] at key
   unfold vZ at key
   simp only [dK] at key
   exact bM.1 key s hsw
 | p :: A,B,ha,hl,ho,e,σ,out,h=>by
  have hp:=ha p (by simp)
  have hp':=hp
  simp only [Ie,aC,Bool.not_eq_true'] at hp'
  obtain ⟨hlp,⟨⟨⟨⟨⟨⟨⟨⟨⟨⟨⟨⟨⟨⟨hpi,a0⟩,a1⟩,a2⟩,a3⟩,a4⟩,a5⟩,a6⟩,a7⟩,b1⟩,b2⟩,b3⟩,b4⟩,b5⟩,b6⟩⟩:=hp'
  simp only [aW] at h ⊢
  simp only [gJ] at h
  obtain ⟨st,h1,h⟩:=dC h
  obtain ⟨pd,e1,q1,rfl,q2⟩:=Xs hlp h1
  simp only at h
  obtain ⟨_,h⟩:=dN h
  obtain ⟨out1,k1,k2,k3⟩:=zkh (fun q hq=>ha q (by simp [hq])) (fun o ho=>hl o (by simp at ho ⊢; exact .inr ho)) ho.2 h
  have slotd:∀ s,p.dst≠some s→(dE e1.slots s).map Cell.d=(dE e.slots s).map Cell.d:=by
   intro s hs
   rw [q2.slots,if_neg hs]
   split
   ·cases dE e.slots s <;> rfl
   ·rfl
  have ag:iH (rG i) e e1:=q2.agree (fun s hs=>xZ a1 s (by simp [hs])) (fun s hs=>xZ a4 s (uT q1 s hs))
  obtain ⟨out2,g1,g2⟩:=zyj hp (fun o ho=>hl o (by simp at ho ⊢; exact .inr ho)) q1 q2 k1 (fun hn hli σ1 hres=>by
   have hw:Tu p i=true:=by
    rcases Bool.or_eq_true_iff.1 a0 with hx | hx
    ·rcases Bool.or_eq_true_iff.1 hx with hx | hx
     ·rw [hli] at hx; cases hx
     ·rw [hn] at hx; cases hx
    ·exact hx
   unfold Tu at hw
   cases hl1:tC p.op with
   | none=>rw [hl1] at hw; cases hw
   | some s =>
    cases hs1:kP i.op with
    | none=>rw [hl1,hs1] at hw; cases hw
    | some ws =>
     rw [hl1,hs1] at hw
     simp only [aC,Bool.not_eq_true',beq_eq_false_iff_ne] at hw
     refine ⟨s,rfl,?_⟩
     rw [← zpb (slotd s hw.2)]
     exact k3 σ1 hres ws hs1 s (by simpa using hw.1) (ho.1 s hl1))
  refine ⟨out2,g1,k2.trans g2,fun σ1 hres ws hws s hsw hall=>?_⟩
  rw [← zpb (slotd s (hall p (by simp)))]
  exact k3 σ1 (zvt (by rw [hws]; rfl) ag hres) ws hws s hsw (fun a ha=>hall a (by simp [ha]))
end
end Go.Mx

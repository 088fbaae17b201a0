/-
 Operations that may change places: the machine's side of a region whose order is drawn. Nothing here speaks of a world.
-/
import Derived.Test.YtieacpoabejcoaaGreatDoorMySim
set_option linter.unusedSimpArgs false
set_option linter.unusedVariables false
set_option linter.unusedSectionVars false
namespace Go.Mx
open Go
structure Eqv (e e':Env):Prop where
 slots:∀ s,aget e.slots s=aget e'.slots s
 locs:∀ s,aget e.locs s=aget e'.locs s
 boxes:∀ s,aget e.boxes s=aget e'.boxes s
 defers:e.defers=e'.defers
theorem Eqv.refl (e:Env):Eqv e e:=⟨fun _=>rfl,fun _=>rfl,fun _=>rfl,rfl⟩
theorem Eqv.symm {e e':Env} (h:Eqv e e'):Eqv e' e:=⟨fun s=>(h.slots s).symm,fun s=>(h.locs s).symm,fun s=>(h.boxes s).symm,h.defers.symm⟩
theorem Eqv.trans {e e' e'':Env} (h:Eqv e e') (k:Eqv e' e''):Eqv e e'':=⟨fun s=>(h.slots s).trans (k.slots s),fun s=>(h.locs s).trans (k.locs s),fun s=>(h.boxes s).trans (k.boxes s),h.defers.trans k.defers⟩
def zai:AOpd→List Nat
 | .tmp s=>[s]
 | .mv s=>[s]
 | .const _=>[]
def omvs:AOpd→List Nat
 | .mv s=>[s]
 | _=>[]
def osl:List AOpd→List Nat
 | []=>[]
 | x :: l=>zai x ++ osl l
def opsl:List (Nat × Nat × AOpd)→List Nat
 | []=>[]
 | (_,_,x) :: l=>zai x ++ opsl l
def oopt:Option AOpd→List Nat
 | some x=>zai x
 | none=>[]
def isMem:AOp→Bool
 | .galloc _ _=>true
 | .gbox _ _=>true
 | .storeP _ _ _=>true
 | .storeD _ _ _ _ _=>true
 | .makeA _ _ _ _ _=>true
 | .buildA _ _=>true
 | .appendA _ _ _ _=>true
 | .appendW _ _ _ _ _=>true
 | .copyA _ _ _=>true
 | .clearA _ _ _=>true
 | .makeMap=>true
 | .update _ _ _ _=>true
 | .delete _ _ _=>true
 | .entry _ _ _ _=>true
 | .entryStore _ _ _=>true
 | _=>false
def light:AOp→Bool
 | .loadO _ _=>false
 | .storeP _ _ _=>false
 | .storeD _ _ _ _ _=>false
 | .makeA _ _ _ _ _=>false
 | .buildA _ _=>false
 | .appendA _ _ _ _=>false
 | .appendW _ _ _ _ _=>false
 | .copyA _ _ _=>false
 | .clearA _ _ _=>false
 | .makeMap=>false
 | .cloneM _=>false
 | .growZ _ _ _ _ _=>false
 | .capZ _=>false
 | .assertP _ _=>false
 | .update _ _ _ _=>false
 | .delete _ _ _=>false
 | .entry _ _ _ _=>false
 | .entryStore _ _ _=>false
 | .alloc _=>false
 | .box _=>false
 | .galloc _ _=>false
 | .gbox _ _=>false
 | .rangeS _=>false
 | .rangeM _=>false
 | .entryM _=>false
 | .strToBytes _ _=>false
 | .nextS _=>false
 | .store _ _ _=>false
 | .loadA _ _=>false
 | .storeA _ _ _=>false
 | .deferv _ _=>false
 | .call _ _=>false
 | .callv _ _=>false
 | .callW _ _ _=>false
 | .callvW _ _ _=>false
 | .panic _=>false
 | .load _ mv _=>!mv
 | _=>true
def ze4:AOp→Bool
 | .loadP _ _=>true
 | .loadG _ _=>true
 | .load _ _ _=>true
 | .lookup _ _ _ _ _=>true
 | .lenM _=>true
 | _=>false
def looks:AOp→List Nat
 | .mov x=>zai x
 | .pick c a b=>zai c ++ (zai a ++ zai b)
 | .build _ ps=>opsl ps
 | .buildSlice _ ps=>osl ps
 | .loadL _ _ x=>zai x
 | .load _ _ x=>zai x
 | .nilCheck x=>zai x
 | .bin _ x y=>zai x ++ zai y
 | .binB _ x y=>zai x ++ zai y
 | .un _ x=>zai x
 | .toInt _ x=>zai x
 | .toStr x=>zai x
 | .runeStr x=>zai x
 | .bytesToStr x=>zai x
 | .mkIface _ x=>zai x
 | .mkFunc _ a b=>osl a ++ osl b
 | .pcall _ as=>osl as
 | .slice _ x lo hi=>zai x ++ (oopt lo ++ oopt hi)
 | .sliceT _ x lo=>zai x ++ oopt lo
 | .loadO _ x=>zai x
 | .sliceS x lo hi=>zai x ++ (oopt lo ++ oopt hi)
 | .fieldAddr _ _ x=>zai x
 | .field _ _ x=>zai x
 | .indexAddr _ x i=>zai x ++ zai i
 | .index x i=>zai x ++ zai i
 | .extract x _=>zai x
 | .len x=>zai x
 | .lenS x=>zai x
 | .append _ _ x y=>zai x ++ zai y
 | .appendS _ _ x y=>zai x ++ zai y
 | .isNil _ x=>zai x
 | .isNilP _ x=>zai x
 | .assertT _ _ x=>zai x
 | .mm _ x y=>zai x ++ zai y
 | .isNilS _ x=>zai x
 | .isNilM _ x=>zai x
 | .lookup _ _ _ x i=>zai x ++ zai i
 | .lenM x=>zai x
 | .slice3 _ x lo hi mx=>zai x ++ (oopt lo ++ (zai hi ++ zai mx))
 | .eqA _ _ x y=>zai x ++ zai y
 | .indexA _ _ x i=>zai x ++ zai i
 | .indexAddrP _ _ x i=>zai x ++ zai i
 | .storeP _ x y=>zai x ++ zai y
 | .storeD _ s _ x y=>s :: (zai x ++ zai y)
 | .makeA _ _ _ x y=>zai x ++ zai y
 | .buildA _ ps=>osl ps
 | .appendA _ _ x y=>zai x ++ zai y
 | .appendW _ _ _ x y=>zai x ++ zai y
 | .copyA _ x y=>zai x ++ zai y
 | .clearA _ _ x=>zai x
 | .update _ x i y=>zai x ++ (zai i ++ zai y)
 | .delete _ x i=>zai x ++ zai i
 | .entry _ _ x i=>zai x ++ zai i
 | .entryStore x s y=>zai x ++ (zai s ++ zai y)
 | .galloc _ _=>[]
 | .gbox _ x=>zai x
 | .allocN _ _=>[]
 | .boxN _ x=>zai x
 | .loadB _ _ x=>zai x
 | .loadE _ x=>zai x
 | .loadP _ x=>zai x
 | .loadG _ x=>zai x
 | .storeB _ _ x y=>zai x ++ zai y
 | .callW _ _ as=>osl as
 | .callvW _ x as=>zai x ++ osl as
 | .call _ as=>osl as
 | .callv x as=>zai x ++ osl as
 | .panic x=>zai x
 | _=>[]
def mvBox:AOp→Bool
 | .loadL _ mv _=>mv
 | _=>false
def ze0:AOp→List Nat
 | .sliceT _ x _=>omvs x
 | .mov x=>omvs x
 | .append _ _ x _=>omvs x
 | .appendS _ _ x _=>omvs x
 | .storeB _ _ _ y=>omvs y
 | _=>[]
def wb:AOp→Option (Option Nat)
 | .loadL _ true _=>some none
 | .storeB b _ _ _=>some (some b)
 | .allocN s _=>some (some s)
 | .boxN s _=>some (some s)
 | _=>none
def wd:AOp→Option Nat
 | .storeB b _ _ _=>some b
 | .allocN s _=>some s
 | .boxN s _=>some s
 | _=>none
def rb:AOp→Option (Option Nat)
 | .loadL _ _ _=>some none
 | .load _ _ _=>some none
 | .loadB b _ _=>some (some b)
 | .storeB b _ _ _=>some (some b)
 | _=>none
def zej:AOp→Option Nat
 | .allocN s _=>some s
 | .boxN s _=>some s
 | _=>none
def clash:Option (Option Nat)→Option Nat→Bool
 | some none,some _=>true
 | some (some a),some b=>a == b
 | _,_=>false
def zkv:Option (Option Nat)→Option (Option Nat)→Bool
 | none,_=>false
 | _,none=>false
 | some (some a),some (some b)=>a == b
 | _,_=>true
def ze2 (o:AOper):List Nat:=(match o.guard with | some (s,_)=>[s] | none=>[]) ++ looks o.op
def unown (c:Cell):Cell:=⟨false,c.d⟩
abbrev BF:=Option (Nat × (Option (List Cell)→Option (List Cell)))
def dbox (op:AOp) (e:Env):BF:=match op with
 | .loadL _ true x=>match addr e x with
  | some (.loc b off)=>some (b,fun o=>o.map fun cs=>zay cs off)
  | _=>none
 | .storeB b _ x y=>match addr e x,opd e y with
  | some (.loc _ off),some c=>some (b,fun o=>o.map fun cs=>zan cs off (za7 c))
  | _,_=>none
 | .allocN s z=>some (s,fun _=>some (z.map Cell.of))
 | .boxN s x=>match opd e x with
  | some c=>some (s,fun _=>some (c.d.cells.map Cell.of))
  | none=>none
 | _=>none
def valOf (C:CallF) (op:AOp) (e:Env) (σ:Store):Option Val:=match op with
 | .buildSlice sz parts=>bindO (opds e parts) fun ds=>ifB (zau sz.sz ds && decide (ds.length * sz.sz≤16777216)) (some (.c ⟨true,.list sz ds⟩)) none
 | .append sz by_ x y=>bindO (opd e x) fun c=>bindO (opd e y) fun d=>bindO (asList d.d) fun ys=>bindO (zbb sz by_ c ys) fun r=>some (.c r)
 | .appendS k by_ x y=>bindO (opd e x) fun c=>bindO (opd e y) fun d=>bindO d.d.str? fun s=>bindO (zbb k by_ c (zez s)) fun r=>some (.c r)
 | .sliceT sz x lo=>bindO (opd e x) fun c=>bindO (optLo e lo) fun l=>bindO (za2 sz c.d l none) fun d=>ifB (znx c.d) (some (.c ⟨c.own,d⟩)) none
 | .slice3 sz x lo hi max=>bindO (opd e x) fun c=>bindO (optLo e lo) fun l=>bindO (opd e hi) fun h=>bindO h.d.nat? fun h=>bindO (opd e max) fun m=>bindO m.d.nat? fun m=>bindO (zle sz c.d l h m) fun d=>some (.c ⟨true,d⟩)
 | .allocN s _=>ifB (lfree e.locs s) (some (.l s 0)) none
 | .boxN s x=>bindO (opd e x) fun c=>ifB (lfree e.locs s && c.d.ok) (some (.l s 0)) none
 | .pcall f as=>bindO (opds e as) fun ds=>pureC C f ds
 | .storeB b k x y=>bindO (addr e x) fun p=>bindO (opd e y) fun c=>match p with
  | .loc b' off=>ifB (b' == b) (bindO (aget e.boxes b) fun cs=>ifB (fits c k off cs) (some (.c ⟨false,.undef⟩)) none) none
  | _=>none
 | op=>evalV op e σ
def dropE (op:AOp) (e:Env):Env:=match op with
 | .append _ _ x _=>x.drop e
 | .sliceT _ x _=>x.drop e
 | .appendS _ _ x _=>x.drop e
 | .allocN s z=>{e with boxes:=aset e.boxes s (z.map Cell.of)}
 | .boxN s x=>match opd e x with
  | some c=>{e with boxes:=aset e.boxes s (c.d.cells.map Cell.of)}
  | none=>e
 | .storeB b _ x y=>match addr e x,opd e y,aget e.boxes b with
  | some (.loc _ off),some c,some cs=>{y.drop e with boxes:=aset e.boxes b (zan cs off (za7 c))}
  | _,_,_=>e
 | op=>zbd op e
def Agree (L:List Nat) (e e':Env):Prop:=∀ s∈L,aget e.slots s=aget e'.slots s∧aget e.locs s=aget e'.locs s
theorem Agree.left {L M:List Nat} {e e':Env} (h:Agree (L ++ M) e e'):Agree L e e':=fun s hs=>h s (List.mem_append.2 (.inl hs))
theorem Agree.right {L M:List Nat} {e e':Env} (h:Agree (L ++ M) e e'):Agree M e e':=fun s hs=>h s (List.mem_append.2 (.inr hs))
def BoxD1 (e e':Env) (b:Nat):Prop:=(aget e.boxes b).map (·.map Cell.d)=(aget e'.boxes b).map (·.map Cell.d)
def BoxD (e e':Env):Prop:=∀ b,BoxD1 e e' b
def BoxA (op:AOp) (e e':Env):Prop:=match rb op with
 | none=>True
 | some none=>BoxD e e'
 | some (some b)=>BoxD1 e e' b
section
variable {e e':Env} {C:CallF}
theorem zaf {x:AOpd} (h:Agree (zai x) e e'):opd e x=opd e' x:=by
 cases x with
 | tmp s=>simp only [opd,(h s (by simp [zai])).1]
 | mv s=>simp only [opd,(h s (by simp [zai])).1]
 | const d=>rfl
theorem zbq {x:AOpd} (h:Agree (zai x) e e'):addr e x=addr e' x:=by
 cases x with
 | tmp s=>simp only [addr,(h s (by simp [zai])).1,(h s (by simp [zai])).2]
 | mv s=>simp only [addr,(h s (by simp [zai])).1,(h s (by simp [zai])).2]
 | const d=>rfl
theorem zcu:∀ {l:List AOpd},Agree (osl l) e e'→opds e l=opds e' l
 | [],_=>rfl
 | x :: l,h=>by simp only [opds,zaf (Agree.left h),zcu (Agree.right h)]
theorem zmr:∀ {l:List (Nat × Nat × AOpd)},Agree (opsl l) e e'→zcz e l=zcz e' l
 | [],_=>rfl
 | (a,b,x) :: l,h=>by simp only [zcz,zaf (Agree.left h),zmr (Agree.right h)]
theorem zho {x:Option AOpd} (h:Agree (oopt x) e e'):optLo e x=optLo e' x:=by
 cases x with
 | none=>rfl
 | some x=>simp only [optLo,zaf (show Agree (zai x) e e' from h)]
theorem zpe {x:Option AOpd} (h:Agree (oopt x) e e'):optHi e x=optHi e' x:=by
 cases x with
 | none=>rfl
 | some x=>simp only [optHi,zaf (show Agree (zai x) e e' from h)]
theorem ztl:∀ (cs cs':List Cell) (o n:Nat),cs.map Cell.d=cs'.map Cell.d→takeC cs o n=takeC cs' o n
 | [],[],o,n,_=>rfl
 | [],_ :: _,_,_,h=>by simp at h
 | _ :: _,[],_,_,h=>by simp at h
 | c :: cs,c' :: cs',0,0,_=>rfl
 | c :: cs,c' :: cs',0,n + 1,h=>by
  simp only [List.map_cons,List.cons.injEq] at h
  simp only [takeC,ztl cs cs' 0 n h.2,h.1]
 | c :: cs,c' :: cs',o + 1,n,h=>by
  simp only [List.map_cons,List.cons.injEq] at h
  cases n <;> simp only [takeC,ztl cs cs' o _ h.2]
theorem zpi {cs cs':List Cell} (h:cs.map Cell.d=cs'.map Cell.d) (k:Option Nat) (off:Nat):(zar cs k off).map Cell.d=(zar cs' k off).map Cell.d:=by
 cases k with
 | none =>
  simp only [zar,zh0]
  rw [← List.getElem?_map,← List.getElem?_map,h]
 | some n=>simp only [zar,ztl cs cs' off n h]
theorem zsg {k:Option Nat} {b off:Nat} (h:BoxD1 e e' b):(bindO (aget e.boxes b) fun cs=>bindO (zar cs k off) fun c=>some (Val.c ⟨false,c.d⟩))=bindO (aget e'.boxes b) fun cs=>bindO (zar cs k off) fun c=>some (Val.c ⟨false,c.d⟩):=by
 have hb:=h
 unfold BoxD1 at hb
 cases h1:aget e.boxes b with
 | none =>
  rw [h1] at hb
  cases h2:aget e'.boxes b with
  | none=>rfl
  | some cs'=>rw [h2] at hb; cases hb
 | some cs =>
  rw [h1] at hb
  cases h2:aget e'.boxes b with
  | none=>rw [h2] at hb; cases hb
  | some cs' =>
   rw [h2] at hb
   simp only [Option.map_some,Option.some.injEq] at hb
   have:=zpi hb k off
   simp only [bindO,zab]
   cases h3:zar cs k off with
   | none =>
    rw [h3] at this
    cases h4:zar cs' k off with
    | none=>rfl
    | some c=>rw [h4] at this; cases this
   | some c =>
    rw [h3] at this
    cases h4:zar cs' k off with
    | none=>rw [h4] at this; cases this
    | some c' =>
     rw [h4] at this
     simp only [Option.map_some,Option.some.injEq] at this
     simp only [zab,this]
theorem zo8b {c:Cell} {k off:Nat} {cs cs':List Cell} (h:cs.map Cell.d=cs'.map Cell.d):fits c k off cs=fits c k off cs':=by
 have:=congrArg List.length h
 simp only [List.length_map] at this
 simp only [fits,this]
theorem za4b {op:AOp} (σ:Store) (hl:light op=true) (h:Agree (looks op) e e') (hb:BoxA op e e') (hm:mvBox op=true→∀ b,aget e.boxes b=aget e'.boxes b) (hf:∀ s,zej op=some s→lfree e.locs s=lfree e'.locs s):valOf C op e σ=valOf C op e' σ:=by
 cases op <;> simp only [light,Bool.false_eq_true] at hl <;> simp only [looks] at h <;> simp only [valOf,evalV]
 case pcall f as=>rw [zcu h]
 case mov x=>rw [zaf h]
 case pick c a b=>rw [zaf h.left,zaf h.right.left,zaf h.right.right]
 case build z ps=>rw [zmr h]
 case buildSlice sz ps=>rw [zcu h]
 case loadL k mv x =>
  rw [zbq h]
  congr 1
  funext p
  cases p with
  | loc b off =>
   cases mv with
   | false=>simp only [Bool.false_and]; exact zsg (hb b)
   | true=>simp only [hm rfl b]
  | ptr id off=>rfl
  | eptr d=>rfl
 case load k mv x =>
  simp only [Bool.not_eq_true'] at hl
  subst hl
  rw [zbq h]
  congr 1
  funext p
  cases p with
  | loc b off=>simp only [Bool.false_and]; exact zsg (hb b)
  | ptr id off=>rfl
  | eptr d=>rfl
 case nilCheck x=>rw [zbq h]
 case loadB b k x =>
  rw [zbq h]
  congr 1
  funext p
  cases p with
  | loc b' off =>
   simp only
   congr 1
   exact zsg hb
  | ptr id off=>rfl
  | eptr d=>rfl
 case loadE k x=>rw [zbq h]
 case loadP k x=>rw [zbq h]
 case loadG k x=>rw [zbq h]
 case allocN s z=>rw [hf s rfl]
 case boxN s x=>rw [zaf h,hf s rfl]
 case storeB b k x y =>
  rw [zbq h.left,zaf h.right]
  congr 1
  funext p
  congr 1
  funext c
  cases p with
  | loc b' off =>
   simp only
   congr 1
   have hb':BoxD1 e e' b:=hb
   unfold BoxD1 at hb'
   cases h1:aget e.boxes b with
   | none =>
    rw [h1] at hb'
    cases h2:aget e'.boxes b with
    | none=>rfl
    | some cs'=>rw [h2] at hb'; cases hb'
   | some cs =>
    rw [h1] at hb'
    cases h2:aget e'.boxes b with
    | none=>rw [h2] at hb'; cases hb'
    | some cs' =>
     rw [h2] at hb'
     simp only [Option.map_some,Option.some.injEq] at hb'
     simp only [bindO,zab,zo8b hb']
  | ptr id off=>rfl
  | eptr d=>rfl
 case bin op x y=>rw [zaf h.left,zaf h.right]
 case binB op x y=>rw [zaf h.left,zaf h.right]
 case un op x=>rw [zaf h]
 case toInt k x=>rw [zaf h]
 case toStr x=>rw [zaf h]
 case runeStr x=>rw [zaf h]
 case bytesToStr x=>rw [zaf h]
 case mkIface t x=>rw [zaf h]
 case mkFunc f a b=>rw [zcu h.left,zcu h.right]
 case slice sz x lo hi=>rw [zaf h.left,zho h.right.left,zpe h.right.right]
 case sliceS x lo hi=>rw [zaf h.left,zho h.right.left,zpe h.right.right]
 case fieldAddr off k x=>rw [zbq h]
 case field off k x=>rw [zaf h]
 case indexAddr sz x i=>rw [zaf h.left,zaf h.right]
 case index x i=>rw [zaf h.left,zaf h.right]
 case extract x i=>rw [zaf h]
 case len x=>rw [zaf h]
 case lenS x=>rw [zaf h]
 case append sz by_ x y=>rw [zaf h.left,zaf h.right]
 case appendS k by_ x y=>rw [zaf h.left,zaf h.right]
 case isNil op x=>rw [zaf h]
 case isNilP op x=>rw [zaf h]
 case assertT t z x=>rw [zaf h]
 case mm mx x y=>rw [zaf h.left,zaf h.right]
 case isNilS op x=>rw [zaf h]
 case isNilM op x=>rw [zaf h]
 case lookup ks z ok x i=>rw [zaf h.left,zaf h.right]
 case lenM x=>rw [zaf h]
 case sliceT sz x lo=>rw [zaf h.left,zho h.right]
 case slice3 sz x lo hi mx=>rw [zaf h.left,zho h.right.left,zaf h.right.right.left,zaf h.right.right.right]
 case eqA op ks x y=>rw [zaf h.left,zaf h.right]
 case indexA n sz x i=>rw [zaf h.left,zaf h.right]
 case indexAddrP n sz x i=>rw [zbq h.left,zaf h.right]
theorem zki {op:AOp} (σ:Store) (hl:isMem op=true) (h:Agree (looks op) e e'):memOp op e σ=memOp op e' σ:=by
 cases op <;> simp only [isMem,Bool.false_eq_true] at hl <;> simp only [looks] at h <;> simp only [memOp]
 case gbox t x=>rw [zaf h]
 case storeP k x y=>rw [zbq h.left,zaf h.right]
 case storeD q s k x y=>rw [zbq (fun t ht=>h t (by simp [ht])),zaf (fun t ht=>h t (by simp [ht])),(h s (by simp)).1]
 case makeA k by_ z x y=>rw [zaf h.left,zaf h.right]
 case buildA k ps=>rw [zcu h]
 case appendA k by_ x y=>rw [zaf h.left,zaf h.right]
 case appendW ws k by_ x y=>rw [zaf h.left,zaf h.right]
 case copyA sz x y=>rw [zaf h.left,zaf h.right]
 case clearA sz z x=>rw [zaf h]
 case update ks x i y=>rw [zaf h.left,zaf h.right.left,zaf h.right.right]
 case delete ks x i=>rw [zaf h.left,zaf h.right]
 case entry ks z x i=>rw [zaf h.left,zaf h.right]
 case entryStore x s y=>rw [zaf h.left,zaf h.right.left,zaf h.right.right]
theorem zlw {op:AOp} (hl:isMem op=true) (dst:Option Nat) (e:Env) (σ:Store):zag dst op e σ=memE dst op e σ:=by
 cases op <;> simp only [isMem,Bool.false_eq_true] at hl <;> rfl
theorem zp4 {op:AOp} (hl:isMem op=true):op.kind=.op:=by
 cases op <;> simp only [isMem,Bool.false_eq_true] at hl <;> rfl
theorem zc4b {op:AOp} (hl:light op=true) (h:Agree (looks op) e e'):dbox op e=dbox op e':=by
 cases op <;> simp only [light,Bool.false_eq_true] at hl <;> simp only [looks] at h <;> try rfl
 case loadL k mv x=>cases mv <;> simp only [dbox,zbq h]
 case storeB b k x y=>simp only [dbox,zbq h.left,zaf h.right]
 case boxN s x=>simp only [dbox,zaf h]
theorem zpr {op:AOp} (hl:light op=true) (hn:ze4 op=false) (e:Env) (σ σ':Store):valOf C op e σ=valOf C op e σ':=by
 cases op <;> simp only [light,Bool.false_eq_true] at hl <;> simp only [ze4,Bool.true_eq_false] at hn <;> rfl
theorem zv6 {op:AOp} (hl:light op=true) (hk:op.kind=.op) (dst:Option Nat) (e:Env) (σ:Store):zag dst op e σ=bindO (valOf C op e σ) fun v=>some ((dropE op e).putV dst v,σ):=by
 cases op <;> simp only [light,Bool.false_eq_true] at hl <;> try rfl
 case pcall f as=>cases hk
 case load k mv x =>
  simp only [Bool.not_eq_true'] at hl
  subst hl
  rfl
 case buildSlice sz ps =>
  simp only [zag,valOf]
  cases opds e ps with
  | none=>rfl
  | some ds =>
   simp only [bindO,zab]
   cases (zau sz.sz ds && decide (ds.length * sz.sz≤16777216)) <;> cases dst <;> rfl
 case append sz by_ x y =>
  simp only [zag,valOf]
  cases opd e x with
  | none=>rfl
  | some c =>
   simp only [bindO,zab]
   cases opd e y with
   | none=>rfl
   | some d =>
    simp only [zab]
    cases asList d.d with
    | none=>rfl
    | some ys =>
     simp only [zab]
     cases zbb sz by_ c ys with
     | none=>rfl
     | some r=>cases dst <;> rfl
 case appendS k by_ x y =>
  simp only [zag,valOf]
  cases opd e x with
  | none=>rfl
  | some c =>
   simp only [bindO,zab]
   cases opd e y with
   | none=>rfl
   | some d =>
    simp only [zab]
    cases d.d.str? with
    | none=>rfl
    | some str =>
     simp only [zab]
     cases zbb k by_ c (zez str) with
     | none=>rfl
     | some r=>cases dst <;> rfl
 case sliceT sz x lo =>
  simp only [zag,valOf]
  cases opd e x with
  | none=>rfl
  | some c =>
  simp only [bindO,zab]
  cases optLo e lo with
  | none=>rfl
  | some l =>
  simp only [zab]
  cases za2 sz c.d l none with
  | none=>rfl
  | some d =>
  simp only [zab]
  cases znx c.d <;> cases dst <;> rfl
 case slice3 sz x lo hi mx =>
  simp only [zag,valOf]
  cases opd e x with
  | none=>rfl
  | some c =>
  simp only [bindO,zab]
  cases optLo e lo with
  | none=>rfl
  | some l =>
  simp only [zab]
  cases opd e hi with
  | none=>rfl
  | some h =>
  simp only [zab]
  cases h.d.nat? with
  | none=>rfl
  | some hn =>
  simp only [zab]
  cases opd e mx with
  | none=>rfl
  | some m =>
  simp only [zab]
  cases m.d.nat? with
  | none=>rfl
  | some mn =>
  simp only [zab]
  cases zle sz c.d l hn mn with
  | none=>rfl
  | some d=>cases dst <;> rfl
 case allocN s z =>
  simp only [zag,valOf]
  cases lfree e.locs s <;> rfl
 case boxN s x =>
  simp only [zag,valOf,dropE]
  cases opd e x with
  | none=>rfl
  | some c =>
   simp only [bindO,zab]
   cases lfree e.locs s && c.d.ok <;> rfl
 case storeB b k x y =>
  simp only [zag,valOf,dropE]
  cases addr e x with
  | none=>rfl
  | some p =>
   simp only [bindO,zab]
   cases opd e y with
   | none=>rfl
   | some c =>
    simp only [zab]
    cases p with
    | loc b' off =>
     simp only
     cases b' == b with
     | false=>rfl
     | true =>
      simp only [zac]
      cases aget e.boxes b with
      | none=>rfl
      | some cs =>
       simp only [zab]
       cases fits c k off cs <;> cases dst <;> rfl
    | ptr id off=>rfl
    | eptr d=>rfl
/-! ### What an operation changes, slot by slot -/
def Val.cell?:Val→Option Cell
 | .c x=>some x
 | .l _ _=>none
def Val.loc?:Val→Option (Nat × Nat)
 | .c _=>none
 | .l b off=>some (b,off)
abbrev Dat:=Val × List Nat × BF
structure Acts (dst:Option Nat) (dat:Dat) (e e1:Env):Prop where
 slots:∀ s,aget e1.slots s=if dst=some s then dat.1.cell? else if s∈dat.2.1 then (aget e.slots s).map unown else aget e.slots s
 locs:∀ s,aget e1.locs s=if dst=some s then dat.1.loc? else aget e.locs s
 boxes:∀ b,aget e1.boxes b=match dat.2.2 with
  | some (b',f)=>if b'=b then f (aget e.boxes b) else aget e.boxes b
  | none=>aget e.boxes b
 defers:e1.defers=e.defers
theorem zev (x:AOpd) (s:Nat):aget (x.drop e).slots s=if s∈omvs x then (aget e.slots s).map unown else aget e.slots s:=by
 cases x with
 | mv t =>
  simp only [AOpd.drop,omvs,List.mem_singleton]
  cases ht:aget e.slots t with
  | none =>
   simp only [za0]
   split
   ·rename_i h; subst h; rw [ht]; rfl
   ·rfl
  | some c =>
   simp only [zab,zak]
   by_cases h:t=s
   ·subst h; rw [if_pos rfl,if_pos rfl,ht]; rfl
   ·rw [if_neg h,if_neg (fun k=>h k.symm)]
 | tmp t=>simp [AOpd.drop,omvs]
 | const d=>simp [AOpd.drop,omvs]
theorem zeu (x:AOpd):(x.drop e).locs=e.locs∧(x.drop e).boxes=e.boxes∧(x.drop e).defers=e.defers:=by
 cases x with
 | mv t =>
  simp only [AOpd.drop]
  cases aget e.slots t <;> exact ⟨rfl,rfl,rfl⟩
 | _=>exact ⟨rfl,rfl,rfl⟩
theorem zbt {dst:Option Nat} {v:Val} {e0:Env} (D:List Nat) (B:BF) (h1:∀ s,aget e0.slots s=if s∈D then (aget e.slots s).map unown else aget e.slots s) (h2:e0.locs=e.locs)
  (h3:∀ b,aget e0.boxes b=match B with | some (b',f)=>if b'=b then f (aget e.boxes b) else aget e.boxes b | none=>aget e.boxes b) (h4:e0.defers=e.defers):Acts dst (v,D,B) e (e0.putV dst v):=by
 cases dst with
 | none =>
  have:e0.putV none v=e0:=by cases v <;> rfl
  rw [this]
  exact ⟨fun s=>by simp [h1 s],fun s=>by simp [h2],h3,h4⟩
 | some d =>
  cases v with
  | c c =>
   refine ⟨fun s=>?_,fun s=>?_,h3,h4⟩
   ·simp only [Env.putV,Env.put,zak,Option.some.injEq]
    split
    ·rfl
    ·exact h1 s
   ·simp only [Env.putV,Env.put,zam,Option.some.injEq,h2]
    rfl
  | l b off =>
   refine ⟨fun s=>?_,fun s=>?_,h3,h4⟩
   ·simp only [Env.putV,zam,Option.some.injEq]
    split
    ·rfl
    ·exact h1 s
   ·simp only [Env.putV,zak,Option.some.injEq,h2]
    rfl
theorem zq3 {op:AOp} (hl:light op=true) (dst:Option Nat) (v:Val) {σ:Store} (hv:valOf C op e σ=some v):Acts dst (v,ze0 op,dbox op e) e ((dropE op e).putV dst v):=by
 have plain:dropE op e=e→ze0 op=[]→dbox op e=none→Acts dst (v,ze0 op,dbox op e) e ((dropE op e).putV dst v):=by
  intro h1 h2 h3
  rw [h1,h2,h3]
  exact zbt [] none (fun s=>by simp) rfl (fun b=>rfl) rfl
 cases op <;> simp only [light,Bool.false_eq_true] at hl <;> try exact plain rfl rfl rfl
 case load k mv x =>
  simp only [Bool.not_eq_true'] at hl
  subst hl
  exact plain rfl rfl rfl
 case mov x =>
  obtain ⟨k1,k2,k3⟩:=zeu (e:=e) x
  exact zbt (omvs x) none (zev x) k1 (fun b=>by rw [show dropE (.mov x) e=x.drop e from rfl,k2]) k3
 case append sz by_ x y =>
  obtain ⟨k1,k2,k3⟩:=zeu (e:=e) x
  exact zbt (omvs x) none (zev x) k1 (fun b=>by rw [show dropE (.append sz by_ x y) e=x.drop e from rfl,k2]) k3
 case sliceT sz x lo =>
  obtain ⟨k1,k2,k3⟩:=zeu (e:=e) x
  exact zbt (omvs x) none (zev x) k1 (fun b=>by rw [show dropE (.sliceT sz x lo) e=x.drop e from rfl,k2]) k3
 case appendS k by_ x y =>
  obtain ⟨k1,k2,k3⟩:=zeu (e:=e) x
  exact zbt (omvs x) none (zev x) k1 (fun b=>by rw [show dropE (.appendS k by_ x y) e=x.drop e from rfl,k2]) k3
 case loadL k mv x =>
  cases mv with
  | false=>exact plain rfl rfl rfl
  | true =>
   simp only [dropE,zbd,ze0,dbox]
   cases ha:addr e x with
   | none=>exact zbt [] none (fun s=>by simp [za0]) rfl (fun b=>rfl) rfl
   | some p =>
    simp only [zab]
    cases p with
    | loc b off =>
     simp only
     cases hb:aget e.boxes b with
     | none =>
      refine zbt [] _ (fun s=>by simp [za0]) rfl (fun b'=>?_) rfl
      simp only [za0]
      split
      ·rename_i h; subst h; rw [hb]; rfl
      ·rfl
     | some cs =>
      refine zbt [] _ (fun s=>by simp [zab]) rfl (fun b'=>?_) rfl
      simp only [zab,zak]
      split
      ·rename_i h; subst h; rw [hb]; rfl
      ·rfl
    | ptr id off=>exact zbt [] none (fun s=>by simp) rfl (fun b=>rfl) rfl
    | eptr d=>exact zbt [] none (fun s=>by simp) rfl (fun b=>rfl) rfl
 case allocN s z =>
  refine zbt [] (some (s,fun _=>some (z.map Cell.of))) (fun t=>by simp [dropE]) rfl (fun b=>?_) rfl
  simp only [dropE,zak]
 case boxN s x =>
  simp only [valOf] at hv
  obtain ⟨c,h1,hv⟩:=zaa hv
  simp only [dropE,dbox,ze0,h1]
  refine zbt [] (some (s,fun _=>some (c.d.cells.map Cell.of))) (fun t=>by simp) rfl (fun b=>?_) rfl
  simp only [zak]
 case storeB b k x y =>
  simp only [valOf] at hv
  obtain ⟨p,h1,hv⟩:=zaa hv
  obtain ⟨c,h2,hv⟩:=zaa hv
  cases p with
  | loc b' off =>
   obtain ⟨h3,hv⟩:=zae hv
   obtain ⟨cs,h4,hv⟩:=zaa hv
   simp only [dropE,dbox,ze0,h1,h2,h4]
   obtain ⟨k1,k2,k3⟩:=zeu (e:=e) y
   refine zbt (omvs y) (some (b,fun o=>o.map fun cs=>zan cs off (za7 c))) (zev y) k1 (fun b2=>?_) k3
   simp only [zak]
   split
   ·rename_i h; subst h; rw [h4]; rfl
   ·rfl
  | ptr id off=>cases hv
  | eptr d=>cases hv
def datO (C:CallF) (o:AOper) (e:Env) (σ:Store):Option Dat:=bindO (zb4 o.guard e) fun w=>ifB w (bindO (valOf C o.op e σ) fun v=>some (v,ze0 o.op,dbox o.op e)) (some (.c ⟨false,.undef⟩,[],none))
theorem zd3 {o:AOper} (h:Agree (ze2 o) e e'):zb4 o.guard e=zb4 o.guard e':=by
 unfold ze2 at h
 cases hg:o.guard with
 | none=>rfl
 | some p =>
  obtain ⟨s,b⟩:=p
  rw [hg] at h
  simp only [zb4,(h s (by simp)).1]
theorem ziq {o:AOper} (σ:Store) (hl:light o.op=true) (h:Agree (ze2 o) e e') (hb:BoxA o.op e e') (hm:mvBox o.op=true→∀ b,aget e.boxes b=aget e'.boxes b) (hf:∀ s,zej o.op=some s→lfree e.locs s=lfree e'.locs s):datO C o e σ=datO C o e' σ:=by
 have h2:Agree (looks o.op) e e':=Agree.right h
 simp only [datO,zd3 h,za4b σ hl h2 hb hm hf,zc4b hl h2]
theorem zc3b {o:AOper} (hl:light o.op=true) (hn:ze4 o.op=false) (e:Env) (σ σ':Store):datO C o e σ=datO C o e σ':=by
 simp only [datO,zpr hl hn e σ σ']
theorem zdjb {op:AOp} (hl:light op=true):op.kind=.op∨∃ f as,op=.pcall f as:=by
 cases op <;> simp only [light,Bool.false_eq_true] at hl <;> first | exact .inl rfl | exact .inr ⟨_,_,rfl⟩
theorem zr7 {o:AOper} (hl:light o.op=true) (e:Env) (σ:Store):stepOp C o e σ=bindO (zb4 o.guard e) fun w=>ifB w (bindO (valOf C o.op e σ) fun v=>some (.next ((dropE o.op e).putV o.dst v) σ)) (some (.next (e.put o.dst ⟨false,.undef⟩) σ)):=by
 unfold stepOp
 rcases zdjb hl with hk | ⟨f,as,hp⟩
 ·rw [hk]
  simp only [zv6 (C:=C) hl hk]
  cases zb4 o.guard e with
  | none=>rfl
  | some w =>
   cases w with
   | false=>rfl
   | true =>
    simp only [bindO,zab,zac]
    cases valOf C o.op e σ <;> rfl
 ·rw [hp]
  simp only [AOp.kind,zc8,valOf,dropE,zbd]
  cases zb4 o.guard e with
  | none=>rfl
  | some w =>
   cases w with
   | false=>rfl
   | true =>
    simp only [bindO,zab,zac]
    cases opds e as <;> rfl
theorem zqo {o:AOper} (hl:light o.op=true) {σ:Store} {st:Step} (h:stepOp C o e σ=some st):∃ dat e1,datO C o e σ=some dat∧st=.next e1 σ∧Acts o.dst dat e e1:=by
 rw [zr7 hl] at h
 obtain ⟨w,hw,h⟩:=zaa h
 simp only [datO,hw,bindO,zab]
 cases w with
 | true =>
  simp only [zac] at h ⊢
  obtain ⟨v,hv,h⟩:=zaa h
  cases h
  exact ⟨_,_,by rw [hv]; rfl,rfl,zq3 hl _ v hv⟩
 | false =>
  simp only [zad,Option.some.injEq] at h ⊢
  subst h
  exact ⟨_,_,rfl,rfl,zbt (v:=.c ⟨false,.undef⟩) [] none (fun s=>by simp) rfl (fun b=>rfl) rfl⟩
theorem zlu {o:AOper} (hl:light o.op=true) (σ:Store) {dat:Dat} (h:datO C o e σ=some dat):∃ e1,stepOp C o e σ=some (.next e1 σ)∧Acts o.dst dat e e1:=by
 unfold datO at h
 obtain ⟨w,hw,h⟩:=zaa h
 simp only [zr7 hl,hw,bindO,zab]
 cases w with
 | true =>
  simp only [zac] at h ⊢
  obtain ⟨v,hv,h⟩:=zaa h
  cases h
  rw [hv]
  exact ⟨_,rfl,zq3 hl _ v hv⟩
 | false =>
  simp only [zad,Option.some.injEq] at h ⊢
  subst h
  exact ⟨_,rfl,zbt (v:=.c ⟨false,.undef⟩) [] none (fun s=>by simp) rfl (fun b=>rfl) rfl⟩
theorem Acts.eqv {dst:Option Nat} {dat:Dat} {e1 e1':Env} (h:Acts dst dat e e1) (h':Acts dst dat e' e1') (he:Eqv e e'):Eqv e1 e1' :=
 ⟨fun s=>by rw [h.slots,h'.slots,he.slots],fun s=>by rw [h.locs,h'.locs,he.locs],fun b=>by rw [h.boxes,h'.boxes,he.boxes],by rw [h.defers,h'.defers,he.defers]⟩
theorem Acts.agree {dst:Option Nat} {dat:Dat} {e1:Env} (h:Acts dst dat e e1) {L:List Nat} (h1:∀ d,dst=some d→d ∉ L) (h2:∀ s∈dat.2.1,s ∉ L):Agree L e e1:=fun s hs=>by
 have n1:¬ dst=some s:=fun k=>h1 s k hs
 have n2:s ∉ dat.2.1:=fun k=>h2 s k hs
 exact ⟨by rw [h.slots,if_neg n1,if_neg n2],by rw [h.locs,if_neg n1]⟩
theorem zol:∀ (cs:List Cell) (o:Nat),(zay cs o).map Cell.d=cs.map Cell.d
 | [],0=>rfl
 | [],_ + 1=>rfl
 | _ :: _,0=>rfl
 | c :: cs,o + 1=>by simp only [zay,List.map_cons,zol cs o]
theorem zne {op:AOp} {b:Nat} {f:Option (List Cell)→Option (List Cell)} (h:dbox op e=some (b,f)):(wd op=some b∨∀ o,(f o).map (·.map Cell.d)=o.map (·.map Cell.d))∧∀ b',wb op=some (some b')→b'=b:=by
 unfold dbox at h
 split at h
 ·split at h
  ·cases h
   refine ⟨.inr fun o=>?_,fun b' h=>by simp only [wb,Option.some.injEq,reduceCtorEq] at h⟩
   cases o with
   | none=>rfl
   | some cs=>simp only [Option.map_some,zol]
  ·cases h
 ·split at h
  ·cases h
   exact ⟨.inl rfl,fun b' h=>by simp only [wb,Option.some.injEq] at h; exact h.symm⟩
  ·cases h
 ·cases h
  exact ⟨.inl rfl,fun b' h=>by simp only [wb,Option.some.injEq] at h; exact h.symm⟩
 ·split at h
  ·cases h
   exact ⟨.inl rfl,fun b' h=>by simp only [wb,Option.some.injEq] at h; exact h.symm⟩
  ·cases h
 ·cases h
theorem zj0 {o:AOper} {dat:Dat} {σ:Store} (h:datO C o e σ=some dat):dat.2.2=none∨dat.2.2=dbox o.op e:=by
 unfold datO at h
 obtain ⟨w,_,h⟩:=zaa h
 cases w with
 | false=>simp only [zad,Option.some.injEq] at h; subst h; exact .inl rfl
 | true =>
  simp only [zac] at h
  obtain ⟨v,_,h⟩:=zaa h
  cases h
  exact .inr rfl
theorem Acts.boxD1 {o:AOper} {dat:Dat} {e1:Env} {σ:Store} (h:Acts o.dst dat e e1) (hd:datO C o e σ=some dat) {b:Nat} (hb:wd o.op≠some b):BoxD1 e e1 b:=by
 unfold BoxD1
 rw [h.boxes]
 rcases zj0 hd with hn | hn
 ·rw [hn]
 ·cases hx:dat.2.2 with
  | none=>rfl
  | some q =>
   obtain ⟨b',f⟩:=q
   rw [hx] at hn
   simp only
   by_cases hbb:b'=b
   ·subst hbb
    rw [if_pos rfl]
    rcases (zne hn.symm).1 with h | h
    ·exact absurd h hb
    ·exact (h _).symm
   ·rw [if_neg hbb]
theorem Acts.boxA {o:AOper} {dat:Dat} {e1:Env} {σ:Store} {op:AOp} (h:Acts o.dst dat e e1) (hd:datO C o e σ=some dat) (hc:clash (rb op) (wd o.op)=false):BoxA op e e1:=by
 unfold BoxA
 cases hr:rb op with
 | none=>trivial
 | some r =>
  rw [hr] at hc
  cases r with
  | none =>
   intro b
   refine h.boxD1 hd fun hw=>?_
   rw [hw] at hc
   cases hc
  | some b =>
   refine h.boxD1 hd fun hw=>?_
   rw [hw] at hc
   simp [clash] at hc
theorem zbeb {op:AOp} {e e':Env} (h:∀ b,aget e.boxes b=aget e'.boxes b):BoxA op e e':=by
 unfold BoxA
 split
 ·trivial
 ·exact fun b=>by unfold BoxD1; rw [h]
 ·unfold BoxD1; rw [h]
theorem Acts.swap {dp di:Option Nat} {p i:Dat} {e1 e2 e1' e2':Env} (h1:Acts dp p e e1) (h2:Acts di i e1 e2) (k1:Acts di i e e1') (k2:Acts dp p e1' e2')
  (hd:∀ s,dp=some s→di≠some s) (hpi:∀ s,dp=some s→s ∉ i.2.1) (hip:∀ s,di=some s→s ∉ p.2.1) (hb:p.2.2=none∨i.2.2=none∨∃ bp fp bi fi,p.2.2=some (bp,fp)∧i.2.2=some (bi,fi)∧bp≠bi):Eqv e2 e2':=by
 refine ⟨fun s=>?_,fun s=>?_,fun b=>?_,by rw [h2.defers,h1.defers,k2.defers,k1.defers]⟩
 ·rw [h2.slots,h1.slots,k2.slots,k1.slots]
  by_cases a:dp=some s
  ·rw [if_pos a,if_neg (hd s a),if_neg (hpi s a),if_pos a]
  ·by_cases b:di=some s
   ·rw [if_pos b,if_neg a,if_neg (hip s b),if_pos b]
   ·rw [if_neg b,if_neg a,if_neg a,if_neg b]
    by_cases c:s∈i.2.1 <;> by_cases d:s∈p.2.1 <;> simp [c,d]
 ·rw [h2.locs,h1.locs,k2.locs,k1.locs]
  by_cases a:dp=some s
  ·rw [if_pos a,if_neg (hd s a),if_pos a]
  ·by_cases b:di=some s
   ·rw [if_pos b,if_neg a,if_pos b]
   ·rw [if_neg b,if_neg a,if_neg a,if_neg b]
 ·rw [h2.boxes,h1.boxes,k2.boxes,k1.boxes]
  rcases hb with hb | hb | ⟨bp,fp,bi,fi,h1,h2,hne⟩
  ·rw [hb]
  ·rw [hb]
  ·rw [h1,h2]
   simp only
   by_cases ha:bi=b
   ·subst ha
    simp only [if_true,if_neg hne]
   ·simp only [if_neg ha]
theorem zea {l:List (Nat × (Nat × Nat))} {s:Nat}:lfree l s=true↔aget l s=none∧∀ t b o,aget l t=some (b,o)→b≠s:=by
 unfold lfree
 cases h:aget l s with
 | some q=>simp [zab]
 | none =>
  rw [za0,List.all_eq_true]
  constructor
  ·intro hall
   refine ⟨rfl,fun t b o ht=>?_⟩
   have hk:∃ q∈l,q.1=t:=by
    clear hall h
    induction l with
    | nil=>simp [zbu] at ht
    | cons p l ih =>
     obtain ⟨k,v⟩:=p
     rw [zat] at ht
     by_cases hkt:k=t
     ·exact ⟨(k,v),by simp,hkt⟩
     ·rw [if_neg hkt] at ht
      obtain ⟨q,hq,hqt⟩:=ih ht
      exact ⟨q,by simp [hq],hqt⟩
   obtain ⟨q,hq,rfl⟩:=hk
   have:=hall q hq
   rw [ht,zab] at this
   simpa using this
  ·rintro ⟨_,h2⟩ q _
   cases hq:aget l q.1 with
   | none=>rfl
   | some r =>
    obtain ⟨b,o⟩:=r
    rw [zab]
    have:=h2 _ b o hq
    simpa using this
mutual
theorem D.same_eq:∀ {a b:D},D.same a b=true→a=b
 | .undef,b,h=>by cases b <;> simp_all [D.same]
 | .bool x,b,h=>by cases b <;> simp_all [D.same]
 | .int k n,b,h=>by
  cases b <;> simp only [D.same,Bool.false_eq_true,Bool.and_eq_true,beq_iff_eq] at h
  have hk:∀ {k k':IntKind},za1 k k'=true→k=k':=by
   intro k k' h
   cases k <;> cases k' <;> simp_all [za1]
  rw [hk h.1,h.2]
 | .str x,b,h=>by cases b <;> simp_all [D.same]
 | .nils,b,h=>by cases b <;> simp_all [D.same]
 | .list k x,b,h=>by
  cases b <;> simp only [D.same,Bool.false_eq_true,Bool.and_eq_true,beq_iff_eq] at h
  rename_i k' y
  obtain ⟨⟨⟨h1,h2⟩,h3⟩,h4⟩:=h
  have:k=k':=by cases k; cases k'; simp_all
  rw [this,zga h4]
 | .agg x,b,h=>by
  cases b <;> simp only [D.same,Bool.false_eq_true] at h
  rw [zga h]
 | .tup x,b,h=>by
  cases b <;> simp only [D.same,Bool.false_eq_true] at h
  rw [zga h]
 | .nilp,b,h=>by cases b <;> simp_all [D.same]
 | .ptr x y,b,h=>by cases b <;> simp_all [D.same]
 | .eptr x,b,h=>by
  cases b <;> simp only [D.same,Bool.false_eq_true] at h
  rw [D.same_eq h]
 | .fn g x y,b,h=>by
  cases b <;> simp only [D.same,Bool.false_eq_true,Bool.and_eq_true,decide_eq_true_eq] at h
  obtain ⟨⟨rfl,h1⟩,h2⟩:=h
  rw [zga h1,zga h2]
 | .nilfn,b,h=>by cases b <;> simp_all [D.same]
 | .iface t x,b,h=>by
  cases b <;> simp only [D.same,Bool.false_eq_true,Bool.and_eq_true,beq_iff_eq] at h
  rw [h.1,D.same_eq h.2]
 | .niliface,b,h=>by cases b <;> simp_all [D.same]
 | .junk,b,h=>by cases b <;> simp_all [D.same]
 | .arr k x y z,b,h=>by
  cases b <;> simp only [D.same,Bool.false_eq_true,Bool.and_eq_true,beq_iff_eq] at h
  rename_i k' x' y' z'
  obtain ⟨⟨⟨⟨⟨h1,h2⟩,h3⟩,rfl⟩,rfl⟩,rfl⟩:=h
  have:k=k':=by cases k; cases k'; simp_all
  rw [this]
 | .empt,b,h=>by cases b <;> simp_all [D.same]
 | .map x,b,h=>by cases b <;> simp_all [D.same]
 | .nilmap,b,h=>by cases b <;> simp_all [D.same]
 | .yld x,b,h=>by cases b <;> simp_all [D.same]
theorem zga:∀ {a b:List D},sameL a b=true→a=b
 | [],b,h=>by cases b <;> simp_all [sameL]
 | x :: a,b,h=>by
  cases b with
  | nil=>simp [sameL] at h
  | cons y b =>
   simp only [sameL,Bool.and_eq_true] at h
   rw [D.same_eq h.1,zga h.2]
end
theorem zj8:∀ {a b:List Cell},zf1 a b=true→a=b
 | [],b,h=>by cases b <;> simp_all [zf1]
 | x :: a,b,h=>by
  cases b with
  | nil=>simp [zf1] at h
  | cons y b =>
   simp only [zf1,Bool.and_eq_true,beq_iff_eq] at h
   obtain ⟨⟨h1,h2⟩,h3⟩:=h
   obtain ⟨o,d⟩:=x
   obtain ⟨o',d'⟩:=y
   simp only at h1 h2
   rw [h1,D.same_eq h2,zj8 h3]
theorem zof:∀ {a b:List (D × D × Nat)},zgv a b=true→a=b
 | [],b,h=>by cases b <;> simp_all [zgv]
 | (x,y,z) :: a,b,h=>by
  cases b with
  | nil=>simp [zgv] at h
  | cons q b =>
   obtain ⟨x',y',z'⟩:=q
   simp only [zgv,Bool.and_eq_true,beq_iff_eq] at h
   obtain ⟨⟨⟨h1,h2⟩,rfl⟩,h3⟩:=h
   rw [D.same_eq h1,D.same_eq h2,zof h3]
theorem zlkb {a b:Option (List Cell)} (h:sameO a b=true):a=b:=by
 cases a <;> cases b <;> simp only [sameO,Bool.false_eq_true] at h
 rw [zj8 h]
theorem zljb {es:List (D × D × Nat)} {c:Nat} {b:Option Oth} (h:sameM (some (.map es c)) b=true):some (.map es c)=b:=by
 cases b with
 | none=>simp [sameM] at h
 | some b =>
  cases b <;> simp only [sameM,Bool.false_eq_true,Bool.and_eq_true,beq_iff_eq] at h
  rw [zof h.1,h.2]
def zfs:AOpd→Option Nat
 | .tmp s=>some s
 | .mv s=>some s
 | .const _=>none
def lslot:AOp→Option Nat
 | .load _ _ x=>zfs x
 | .loadP _ x=>zfs x
 | .loadG _ x=>zfs x
 | .lookup _ _ _ x _=>zfs x
 | .lenM x=>zfs x
 | _=>none
def zto (p i:AOper):Bool:=match lslot p.op,stableOf i.op with
 | some s,some ws=>ws.contains s && !(p.dst == some s)
 | _,_=>false
theorem zr2 {b:Option (List Nat)} {σ σ':Store} (h:∀ s,(∀ ws,b=some ws→s∈ws→aget e.slots s=aget e'.slots s)):stOK b e σ σ'=stOK b e' σ σ':=by
 cases b with
 | none=>rfl
 | some ws =>
  unfold stOK
  simp only [zab]
  have:∀ s∈ws,sameW e σ σ' s=sameW e' σ σ' s:=fun s hs=>by
   unfold sameW
   rw [h s ws rfl hs]
  rw [Bool.eq_iff_iff,List.all_eq_true,List.all_eq_true]
  exact ⟨fun k s hs=>(this s hs) ▸ k s hs,fun k s hs=>(this s hs).symm ▸ k s hs⟩
theorem zceb {s:Nat} {σ σ':Store} (h:(aget e.slots s).map Cell.d=(aget e'.slots s).map Cell.d):sameW e σ σ' s=sameW e' σ σ' s:=by
 unfold sameW
 cases h1:aget e.slots s with
 | none =>
  rw [h1] at h
  cases h2:aget e'.slots s with
  | none=>rfl
  | some c=>rw [h2] at h; cases h
 | some c =>
  rw [h1] at h
  cases h2:aget e'.slots s with
  | none=>rw [h2] at h; cases h
  | some c' =>
   rw [h2] at h
   simp only [Option.map_some,Option.some.injEq] at h
   simp only [zab,h]
theorem zog {x:AOpd} {s id off:Nat} {σ σ':Store} {cs:List Cell} (hx:zfs x=some s) (hp:addr e x=some (.ptr id off)) (h:sameW e σ σ' s=true) (hc:aget σ.objs id=some cs):aget σ'.objs id=some cs:=by
 have key:aget e.slots s=aget e.slots s→(bindO (aget e.slots s) fun c=>ptrOf c.d)=some (.ptr id off)→aget σ'.objs id=some cs:=by
  intro _ hp
  obtain ⟨c,h1,h2⟩:=zaa hp
  unfold sameW at h
  rw [h1] at h
  simp only [zab] at h
  cases hd:c.d <;> rw [hd] at h2 <;> simp only [ptrOf,reduceCtorEq,Option.some.injEq,Ptr.ptr.injEq] at h2
  obtain ⟨rfl,rfl⟩:=h2
  rw [hd] at h
  simp only [hc,zab] at h
  exact (zlkb h).symm
 cases x <;> simp only [zfs,reduceCtorEq,Option.some.injEq] at hx <;> subst hx <;> simp only [addr] at hp
 all_goals
  cases hl:aget e.locs _ with
  | none=>rw [hl] at hp; exact key rfl hp
  | some q=>rw [hl] at hp; simp only [zab,reduceCtorEq,Option.some.injEq] at hp
theorem zuf {x:AOpd} {s:Nat} {σ σ':Store} {c:Cell} {es:List (D × D × Nat)} (hx:zfs x=some s) (hp:opd e x=some c) (h:sameW e σ σ' s=true) (hc:mapOf σ.oth c.d=some es):mapOf σ'.oth c.d=some es:=by
 have key:∀ c0:Cell,aget e.slots s=some c0→c0.d=c.d→mapOf σ'.oth c.d=some es:=by
  intro c0 h1 h2
  unfold sameW at h
  rw [h1] at h
  simp only [zab] at h
  rw [h2] at h
  cases hd:c.d <;> rw [hd] at hc h <;> simp only [mapOf,reduceCtorEq] at hc ⊢
  ·obtain ⟨y,h3,hc⟩:=zaa hc
   cases y <;> simp only [reduceCtorEq] at hc
   simp only [h3,zab] at h
   rw [← zljb h]
   exact hc
  ·exact hc
 cases x <;> simp only [zfs,reduceCtorEq,Option.some.injEq] at hx <;> subst hx <;> simp only [opd] at hp
 ·obtain ⟨c0,h1,h2⟩:=zaa hp
  cases h2
  exact key c0 h1 rfl
 ·exact key c hp rfl
theorem ze0b {op:AOp} (hl:light op=true) (hn:ze4 op=true) {σ σ':Store} {s:Nat} (hs:lslot op=some s) (h:sameW e σ σ' s=true) {v:Val} (hv:valOf C op e σ=some v):valOf C op e σ'=some v:=by
 cases op <;> simp only [ze4,Bool.false_eq_true] at hn
 case load k mv x =>
  simp only [lslot] at hs
  simp only [valOf,evalV] at hv ⊢
  obtain ⟨p,h1,hv⟩:=zaa hv
  rw [h1]
  simp only [bindO,zab]
  cases p with
  | loc b off=>exact hv
  | eptr d=>exact hv
  | ptr id off =>
   obtain ⟨cs,h2,hv⟩:=zaa hv
   simp only [zog hs h1 h h2,zab]
   exact hv
 case loadP k x =>
  simp only [lslot] at hs
  simp only [valOf,evalV] at hv ⊢
  obtain ⟨p,h1,hv⟩:=zaa hv
  rw [h1]
  simp only [bindO,zab]
  cases p with
  | loc b off=>cases hv
  | eptr d=>cases hv
  | ptr id off =>
   obtain ⟨cs,h2,hv⟩:=zaa hv
   simp only [zog hs h1 h h2,zab]
   exact hv
 case loadG k x =>
  simp only [lslot] at hs
  simp only [valOf,evalV] at hv ⊢
  obtain ⟨p,h1,hv⟩:=zaa hv
  rw [h1]
  simp only [bindO,zab]
  cases p with
  | loc b off=>cases hv
  | eptr d=>exact hv
  | ptr id off =>
   obtain ⟨cs,h2,hv⟩:=zaa hv
   simp only [zog hs h1 h h2,zab]
   exact hv
 case lookup ks z ok x y =>
  simp only [lslot] at hs
  simp only [valOf,evalV] at hv ⊢
  obtain ⟨c,h1,hv⟩:=zaa hv
  rw [h1]
  simp only [bindO,zab]
  obtain ⟨k,h2,hv⟩:=zaa hv
  obtain ⟨es,h3,hv⟩:=zaa hv
  rw [h2,zuf hs h1 h h3]
  exact hv
 case lenM x =>
  simp only [lslot] at hs
  simp only [valOf,evalV] at hv ⊢
  obtain ⟨c,h1,hv⟩:=zaa hv
  rw [h1]
  simp only [bindO,zab]
  obtain ⟨es,h3,hv⟩:=zaa hv
  rw [zuf hs h1 h h3]
  exact hv
theorem zftb {o:AOper} (hl:light o.op=true) (hn:ze4 o.op=true) {σ σ':Store} {s:Nat} (hs:lslot o.op=some s) (h:sameW e σ σ' s=true) {dat:Dat} (hd:datO C o e σ=some dat):datO C o e σ'=some dat:=by
 unfold datO at hd ⊢
 obtain ⟨w,h1,hd⟩:=zaa hd
 rw [h1]
 simp only [bindO,zab]
 cases w with
 | false=>exact hd
 | true =>
  simp only [zac] at hd ⊢
  obtain ⟨v,h2,hd⟩:=zaa hd
  rw [ze0b hl hn hs h h2]
  exact hd
theorem zidb {op:AOp} (hl:light op=true) (ha:zej op=none) {σ:Store} {b off:Nat} (hv:valOf C op e σ=some (.l b off)):∃ t o,aget e.locs t=some (b,o):=by
 have addr_loc:∀ {x:AOpd} {b off:Nat},addr e x=some (.loc b off)→∃ t,aget e.locs t=some (b,off):=by
  intro x b off h
  have key:∀ t,(caseO (aget e.locs t) (bindO (aget e.slots t) fun c=>ptrOf c.d) fun p=>some (.loc p.1 p.2))=some (Ptr.loc b off)→aget e.locs t=some (b,off):=by
   intro t h
   cases hl:aget e.locs t with
   | some p =>
    obtain ⟨x,y⟩:=p
    rw [hl] at h
    simp only [zab,Option.some.injEq,Ptr.loc.injEq] at h
    rw [h.1,h.2]
   | none =>
    rw [hl,za0] at h
    obtain ⟨c,h1,h⟩:=zaa h
    cases hd:c.d <;> rw [hd] at h <;> simp only [ptrOf,reduceCtorEq,Option.some.injEq] at h
  cases x with
  | tmp t=>exact ⟨t,key t h⟩
  | mv t=>exact ⟨t,key t h⟩
  | const d=>cases d <;> simp [addr,ptrOf] at h
 cases op <;> simp only [light,Bool.false_eq_true] at hl <;> simp only [zej,reduceCtorEq] at ha <;> simp only [valOf,evalV] at hv
 case pcall f as =>
  obtain ⟨ds,_,hv⟩:=zaa hv
  unfold pureC at hv
  obtain ⟨_,hv⟩:=zae hv
  obtain ⟨r,_,hv⟩:=zaa hv
  split at hv
  ·obtain ⟨_,hv⟩:=zae hv
   cases hv
  ·cases hv
 case nilCheck x =>
  obtain ⟨p,h1,hv⟩:=zaa hv
  cases p <;> simp only [Option.some.injEq,Val.l.injEq,reduceCtorEq] at hv
  obtain ⟨rfl,rfl⟩:=hv
  exact ⟨_,_,(addr_loc h1).choose_spec⟩
 case fieldAddr o k x =>
  obtain ⟨p,h1,hv⟩:=zaa hv
  cases p with
  | loc b' o' =>
   simp only [Option.some.injEq,Val.l.injEq] at hv
   obtain ⟨rfl,rfl⟩:=hv
   exact ⟨_,_,(addr_loc h1).choose_spec⟩
  | ptr id o'=>simp at hv
  | eptr d =>
   obtain ⟨cs,_,hv⟩:=zaa hv
   obtain ⟨d',_,hv⟩:=zaa hv
   cases hv
 case indexAddrP n sz x i =>
  obtain ⟨p,h1,hv⟩:=zaa hv
  obtain ⟨ic,_,hv⟩:=zaa hv
  obtain ⟨m,_,hv⟩:=zaa hv
  obtain ⟨_,hv⟩:=zae hv
  cases p with
  | loc b' o' =>
   simp only [Option.some.injEq,Val.l.injEq] at hv
   obtain ⟨rfl,rfl⟩:=hv
   exact ⟨_,_,(addr_loc h1).choose_spec⟩
  | ptr id o'=>simp at hv
  | eptr d=>cases hv
 all_goals
  exfalso
  revert hv
  simp only [bindO,caseO,ifB]
  repeat' split
  all_goals simp
def disj (l m:List Nat):Bool:=l.all fun x=>!m.contains x
def isLo:AOp→Bool
 | .loadO _ _=>true
 | _=>false
def zrp (op:AOp):Bool:=light op || isMem op || (match op with | .loadO _ _=>true | .call _ _=>true | .callv _ _=>true | .callW _ _ _=>true | .callvW _ _ _=>true | .panic _=>true | _=>false)
def okAl (o:AOper):Bool:=match zej o.op with
 | some s=>o.dst == some s && o.guard.isNone
 | none=>true
def zqv (p i:AOper):Bool :=
 light p.op && (zrp i.op && (light i.op || !ze4 p.op || (isLo i.op || zto p i)) && disj p.dst.toList (ze2 i) && disj i.dst.toList (ze2 p) && disj p.dst.toList i.dst.toList && disj (ze0 p.op) (ze2 i) && disj (ze0 i.op) (ze2 p) &&
 disj p.dst.toList (ze0 i.op) && disj i.dst.toList (ze0 p.op) && !clash (rb p.op) (wd i.op) && !clash (rb i.op) (wd p.op) && !zkv (wb p.op) (wb i.op) && okAl p && okAl i && ((zej i.op).isNone || (zej p.op).isSome))
def zvi (p i:AOper):Bool:=match p.op,i.op with
 | .storeD true s _ _ _,.storeD false s' _ _ _=>s == s' && p.guard.isNone && i.guard.isNone && p.dst.isNone && i.dst.isNone
 | _,_=>false
def apart (p i:AOper):Bool:=zqv p i || zvi p i
theorem zhu {l m:List Nat} (h:disj l m=true):∀ s∈l,s ∉ m:=fun s hs=>by
 simpa using List.all_eq_true.1 h s hs
theorem znd {op:AOp} (h:wb op=none):dbox op e=none:=by
 cases op <;> simp only [wb,reduceCtorEq] at h <;> try rfl
 case loadL k mv x=>cases mv <;> simp only [reduceCtorEq] at h; rfl
theorem Acts.box_none {o:AOper} {dat:Dat} {σ:Store} (hd:datO C o e σ=some dat) (hm:wb o.op=none):dat.2.2=none:=by
 rcases zj0 hd with h | h
 ·exact h
 ·rw [h,znd hm]
theorem zge {o:AOper} {dat:Dat} {σ:Store} (hd:datO C o e σ=some dat):∀ s∈dat.2.1,s∈ze0 o.op:=by
 unfold datO at hd
 obtain ⟨w,_,h⟩:=zaa hd
 cases w with
 | false=>simp only [zad,Option.some.injEq] at h; subst h; intro s hs; cases hs
 | true =>
  simp only [zac] at h
  obtain ⟨v,_,h⟩:=zaa h
  cases h
  exact fun s hs=>hs
theorem zht {o:AOper} {dat:Dat} {σ:Store} (hd:datO C o e σ=some dat) (ho:okAl o=true) {s:Nat} (ha:zej o.op=some s):o.dst=some s∧lfree e.locs s=true∧dat.1=.l s 0:=by
 unfold okAl at ho
 rw [ha] at ho
 simp only [Bool.and_eq_true,beq_iff_eq,Option.isNone_iff_eq_none] at ho
 unfold datO at hd
 rw [ho.2] at hd
 simp only [zb4,bindO,zab,zac] at hd
 cases hop:o.op <;> rw [hop] at ha hd <;> simp only [zej,reduceCtorEq,Option.some.injEq] at ha <;> subst ha
 ·simp only [valOf] at hd
  cases hf:lfree e.locs _ with
  | false=>rw [hf] at hd; cases hd
  | true =>
   rw [hf] at hd
   simp only [zac,zab,Option.some.injEq] at hd
   subst hd
   exact ⟨ho.1,rfl,rfl⟩
 ·rename_i s x
  simp only [valOf] at hd
  cases hx:opd e x with
  | none=>rw [hx] at hd; cases hd
  | some c =>
   rw [hx] at hd
   simp only [bindO,zab] at hd
   cases hf:lfree e.locs s with
   | false=>rw [hf] at hd; cases hd
   | true =>
    rw [hf,Bool.true_and] at hd
    cases hok:c.d.ok with
    | false=>rw [hok] at hd; cases hd
    | true =>
     rw [hok] at hd
     simp only [zac,zab,Option.some.injEq] at hd
     subst hd
     exact ⟨ho.1,rfl,rfl⟩
theorem zji {op:AOp} (h:Agree (looks op) e e'):zc8 op e=zc8 op e':=by
 cases op <;> simp only [looks] at h <;> simp only [zc8]
 case pcall f as=>rw [zcu h]
 case call f as=>rw [zcu h]
 case callv x as=>rw [zaf h.left,zcu h.right]
 case callW ws f as=>rw [zcu h]
 case callvW ws x as=>rw [zaf h.left,zcu h.right]
theorem zmq {op:AOp} (h:Agree (looks op) e e'):zhb op e=zhb op e':=by
 cases op <;> simp only [looks] at h <;> simp only [zhb]
 case panic x=>rw [zaf h]
inductive OutEqv:OpsOut→OpsOut→Prop where
 | normal {e e':Env} {σ:Store} (h:Eqv e e'):OutEqv (.normal e σ) (.normal e' σ)
 | panic {d:D} {e e':Env} {σ:Store} (h:e.defers=e'.defers):OutEqv (.panic d e σ) (.panic d e' σ)
theorem OutEqv.refl (o:OpsOut):OutEqv o o:=by
 cases o
 ·exact .normal (Eqv.refl _)
 ·exact .panic rfl
theorem OutEqv.trans {o o' o'':OpsOut} (h:OutEqv o o') (k:OutEqv o' o''):OutEqv o o'':=by
 cases h with
 | normal h=>cases k with | normal k=>exact .normal (h.trans k)
 | panic h=>cases k with | panic k=>exact .panic (h.trans k)
theorem Eqv.agree {e e':Env} (h:Eqv e e') (L:List Nat):Agree L e e':=fun s _=>⟨h.slots s,h.locs s⟩
theorem Eqv.boxA {e e':Env} (h:Eqv e e') (op:AOp):BoxA op e e':=zbeb h.boxes
theorem Eqv.lfr {e e':Env} (h:Eqv e e') (s:Nat):lfree e.locs s=lfree e'.locs s:=by
 have:lfree e.locs s=true↔lfree e'.locs s=true:=by simp only [zea,h.locs]
 cases h1:lfree e.locs s <;> cases h2:lfree e'.locs s <;> simp_all
def zbsb:AOp→Bool
 | .store _ _ _=>true
 | _=>false
def zgf (op:AOp):Bool:=zrp op || zbsb op
theorem zi7 {e e':Env} (h:Eqv e e') (d:Option Nat) (c:Cell):Eqv (e.put d c) (e'.put d c):=by
 cases d with
 | none=>exact h
 | some s=>exact ⟨fun t=>by simp only [Env.put,zak,h.slots],fun t=>by simp only [Env.put,zam,h.locs],h.boxes,h.defers⟩
theorem zh2b {e e':Env} (h:Eqv e e') {dst:Option Nat} {k:Nat} {x y:AOpd} {σ:Store} {e1:Env} {σ1:Store} (hs:zag dst (.store k x y) e σ=some (e1,σ1)):∃ e1',zag dst (.store k x y) e' σ=some (e1',σ1)∧Eqv e1 e1':=by
 have hd:Eqv (y.drop e) (y.drop e'):=by
  obtain ⟨k1,k2,k3⟩:=zeu (e:=e) y
  obtain ⟨q1,q2,q3⟩:=zeu (e:=e') y
  exact ⟨fun s=>by rw [zev,zev,h.slots],fun s=>by rw [k1,q1,h.locs],fun s=>by rw [k2,q2,h.boxes],by rw [k3,q3,h.defers]⟩
 simp only [zag] at hs ⊢
 rw [← zbq (h.agree _),← zaf (h.agree _)]
 obtain ⟨p,h1,hs⟩:=zaa hs
 obtain ⟨c,h2,hs⟩:=zaa hs
 rw [h1,h2]
 simp only [bindO,zab]
 cases p with
 | loc b off =>
  simp only at hs ⊢
  obtain ⟨cs,h3,hs⟩:=zaa hs
  obtain ⟨h4,hs⟩:=zae hs
  cases hs
  rw [← h.boxes,h3]
  simp only [zab,h4,zac]
  have hE:Eqv {y.drop e with boxes:=aset e.boxes b (zan cs off (za7 c))} {y.drop e' with boxes:=aset e'.boxes b (zan cs off (za7 c))} :=
   ⟨hd.slots,hd.locs,fun s=>by simp only [zak,h.boxes],hd.defers⟩
  exact ⟨_,rfl,zi7 hE _ _⟩
 | ptr id off =>
  simp only at hs ⊢
  obtain ⟨cs,h3,hs⟩:=zaa hs
  obtain ⟨h4,hs⟩:=zae hs
  cases hs
  rw [h3]
  simp only [zab,h4,zac]
  exact ⟨_,rfl,zi7 hd _ _⟩
 | eptr d=>cases hs
theorem zpq {k:Option Nat} {x:AOpd} (σ:Store) (h:Agree (zai x) e e'):takeO k x e σ=takeO k x e' σ:=by
 unfold takeO
 rw [zbq h]
theorem zlvb {k:Option Nat} {x:AOpd} {σ:Store} {r:Cell × Store} (h:takeO k x e σ=some r):∃ id off cs,addr e x=some (.ptr id off)∧aget σ.objs id=some cs∧zar cs k off=some r.1∧r.2={σ with objs:=aset σ.objs id (zay cs off)}:=by
 unfold takeO at h
 obtain ⟨p,h1,h⟩:=zaa h
 cases p with
 | loc b off=>cases h
 | eptr d=>cases h
 | ptr id off =>
  simp only at h
  obtain ⟨cs,h2,h⟩:=zaa h
  obtain ⟨c,h3,h⟩:=zaa h
  cases h
  exact ⟨id,off,cs,h1,h2,h3,rfl⟩
theorem zsy {k:Option Nat} {id off off' id':Nat} {σ:Store} {cs:List Cell} (hcs:aget σ.objs id=some cs):(bindO (aget (aset σ.objs id (zay cs off)) id') fun cs=>bindO (zar cs k off') fun c=>some (Val.c ⟨false,c.d⟩))=bindO (aget σ.objs id') fun cs=>bindO (zar cs k off') fun c=>some (Val.c ⟨false,c.d⟩):=by
 rw [zak]
 by_cases hid:id=id'
 ·subst hid
  rw [if_pos rfl,hcs]
  have hd:=zpi (zol cs off) k off'
  simp only [bindO,zab]
  cases h3:zar (zay cs off) k off' with
  | none =>
   rw [h3] at hd
   cases h4:zar cs k off' with
   | none=>rfl
   | some c=>rw [h4] at hd; cases hd
  | some c =>
   rw [h3] at hd
   cases h4:zar cs k off' with
   | none=>rw [h4] at hd; cases hd
   | some c' =>
    rw [h4] at hd
    simp only [Option.map_some,Option.some.injEq] at hd
    simp only [zab,hd]
 ·rw [if_neg hid]
theorem zlyb {op:AOp} (hl:light op=true) {id off:Nat} {σ:Store} {cs:List Cell} (hcs:aget σ.objs id=some cs):valOf C op e {σ with objs:=aset σ.objs id (zay cs off)}=valOf C op e σ:=by
 cases hn:ze4 op with
 | false=>exact zpr hl hn e _ _
 | true =>
  cases op <;> simp only [ze4,Bool.false_eq_true] at hn
  case load k mv x =>
   simp only [light,Bool.not_eq_true'] at hl
   subst hl
   simp only [valOf,evalV,Bool.false_and]
   cases addr e x with
   | none=>rfl
   | some p =>
    cases p with
    | ptr id' off'=>exact zsy hcs
    | loc b o=>rfl
    | eptr d=>rfl
  case loadG k x =>
   simp only [valOf,evalV]
   cases addr e x with
   | none=>rfl
   | some p =>
    cases p with
    | ptr id' off'=>exact zsy hcs
    | loc b o=>rfl
    | eptr d=>rfl
  case loadP k x =>
   simp only [valOf,evalV]
   cases addr e x with
   | none=>rfl
   | some p =>
    cases p with
    | ptr id' off'=>exact zsy hcs
    | loc b o=>rfl
    | eptr d=>rfl
  case lookup=>rfl
  case lenM=>rfl
theorem zmhb {o:AOper} (hl:light o.op=true) {id off:Nat} {σ:Store} {cs:List Cell} (hcs:aget σ.objs id=some cs):datO C o e {σ with objs:=aset σ.objs id (zay cs off)}=datO C o e σ:=by
 simp only [datO,zlyb hl hcs]
theorem zbrb {op:AOp} (h:isLo op=true):∃ k x,op=.loadO k x:=by
 cases op <;> simp only [isLo,Bool.false_eq_true] at h
 exact ⟨_,_,rfl⟩
theorem zlsb {e e':Env} (h:Eqv e e') {o:AOper} (ho:zgf o.op=true) {σ:Store} {st:Step} (hs:stepOp C o e σ=some st) :
  (∃ e1 e1' σ1,st=.next e1 σ1∧stepOp C o e' σ=some (.next e1' σ1)∧Eqv e1 e1')∨((∀ e1 σ1,st≠.next e1 σ1)∧stepOp C o e' σ=some st):=by
 by_cases hl:light o.op=true
 ·obtain ⟨dat,e1,h1,rfl,h2⟩:=zqo hl hs
  rw [ziq σ hl (h.agree _) (h.boxA _) (fun _ b=>h.boxes b) (fun s _=>h.lfr s)] at h1
  obtain ⟨e1',k1,k2⟩:=zlu hl σ h1
  exact .inl ⟨e1,e1',σ,rfl,k1,h2.eqv k2 h⟩
 ·unfold stepOp at hs ⊢
  obtain ⟨w,hw,hs⟩:=zaa hs
  rw [← zd3 (o:=o) (h.agree _),hw]
  simp only [bindO,zab]
  cases w with
  | false =>
   simp only [zad,Option.some.injEq] at hs ⊢
   subst hs
   exact .inl ⟨_,_,_,rfl,rfl,zi7 h _ _⟩
  | true =>
   simp only [zac] at hs ⊢
   by_cases hm:isMem o.op=true
   ·rw [zp4 hm] at hs ⊢
    simp only at hs ⊢
    rw [zlw hm] at hs ⊢
    obtain ⟨⟨e1,σ1⟩,h1,hs⟩:=zaa hs
    cases hs
    unfold memE at h1 ⊢
    rw [← zki σ hm (h.agree _)]
    obtain ⟨r,h2,h1⟩:=zaa h1
    cases h1
    rw [h2]
    exact .inl ⟨_,_,_,rfl,rfl,zi7 h _ _⟩
   have hm':isMem o.op=false:=by simpa using hm
   by_cases hq:isLo o.op=true
   ·obtain ⟨k,x,hox⟩:=zbrb hq
    rw [hox] at hs ⊢
    simp only [AOp.kind,zag] at hs ⊢
    rw [← zpq σ (h.agree _)]
    obtain ⟨⟨e1,σ1⟩,h1,hs⟩:=zaa hs
    cases hs
    obtain ⟨r,h2,h1⟩:=zaa h1
    cases h1
    rw [h2]
    exact .inl ⟨_,_,_,rfl,rfl,zi7 h _ _⟩
   cases hk:o.op <;> rw [hk] at ho hl hs hm' hq <;> simp only [zgf,zrp,light,zbsb,hm',Bool.or_self,Bool.false_eq_true,not_true_eq_false] at ho hl <;> simp only [AOp.kind] at hs ⊢ <;> simp only [isMem,Bool.true_eq_false] at hm' <;> simp only [isLo,Bool.false_eq_true,not_false_eq_true,not_true_eq_false] at hq
   ·exfalso
    rename_i k mv x
    cases mv <;> simp at ho hl
   ·obtain ⟨⟨e1,σ1⟩,h1,hs⟩:=zaa hs
    cases hs
    obtain ⟨e1',k1,k2⟩:=zh2b h h1
    rw [k1]
    exact .inl ⟨e1,e1',σ1,rfl,rfl,k2⟩
   all_goals first
    | (obtain ⟨⟨f,as⟩,h1,hs⟩:=zaa hs
       cases hs
       rw [← zji (h.agree _),h1]
       exact .inr ⟨(fun _ _ h=>by cases h),rfl⟩)
    | (obtain ⟨d,h1,hs⟩:=zaa hs
       cases hs
       rw [← zmq (h.agree _),h1]
       exact .inr ⟨(fun _ _ h=>by cases h),rfl⟩)
theorem zmj {C:CallF}:∀ {l:List AOper} (_:∀ o∈l,zgf o.op=true) {e e':Env} (_:Eqv e e') {σ:Store} {out:OpsOut},runOps C l e σ=some out→∃ out',runOps C l e' σ=some out'∧OutEqv out out'
 | [],_,e,e',he,σ,out,h=>by
  simp only [runOps,Option.some.injEq] at h
  subst h
  exact ⟨_,rfl,.normal he⟩
 | o :: l,hl,e,e',he,σ,out,h=>by
  simp only [runOps] at h ⊢
  obtain ⟨st,h1,h⟩:=zaa h
  have ih:=@zmj C l fun o ho=>hl o (by simp [ho])
  rcases zlsb he (hl o (by simp)) h1 with ⟨e1,e1',σ1,rfl,k1,k2⟩ | ⟨k0,k1⟩
  ·rw [k1]
   simp only at h
   obtain ⟨h3,h⟩:=zae h
   rw [zr2 (e':=e') (fun s _ _ _=>he.slots s)] at h3
   simp only [bindO,zab,h3,zac]
   exact ih k2 h
  ·rw [k1]
   simp only [bindO,zab]
   cases st with
   | next e1 σ1=>exact absurd rfl (k0 e1 σ1)
   | call f as =>
    simp only at h ⊢
    obtain ⟨⟨r,σ1⟩,h2,h⟩:=zaa h
    rw [h2]
    obtain ⟨h3,h⟩:=zae h
    rw [zr2 (e':=e') (fun s _ _ _=>he.slots s)] at h3
    simp only [zab,h3,zac]
    cases r with
    | ret c=>exact ih (zi7 he _ _) h
    | panic d =>
     simp only [Option.some.injEq] at h
     subst h
     exact ⟨_,rfl,.panic he.defers⟩
   | panic d =>
    simp only [Option.some.injEq] at h
    subst h
    exact ⟨_,rfl,.panic he.defers⟩
def zfc (C:CallF) (i:AOper) (l:List AOper) (e:Env) (σ:Store):Option OpsOut:=bindO (stepOp C i e σ) fun s=>match s with
 | .next e' σ'=>runOps C l e' σ'
 | .call f as=>bindO (C f as σ) fun r=>match r.1 with
  | .ret c=>runOps C l (e.put i.dst c) r.2
  | .panic d=>some (.panic d e r.2)
 | .panic d=>some (.panic d e σ)
def ResOf (C:CallF) (i:AOper) (e:Env) (σ σ1:Store):Prop:=(∃ e',stepOp C i e σ=some (.next e' σ1))∨∃ f as r,stepOp C i e σ=some (.call f as)∧C f as σ=some (r,σ1)
theorem zpm {o:AOper} (h:light o.op=true):stableOf o.op=none:=by
 cases ho:o.op <;> rw [ho] at h <;> simp only [light,Bool.false_eq_true] at h <;> rfl
theorem zk8b {C:CallF} {p i:AOper} (ha:zqv p i=true) {l:List AOper} (hl:∀ o∈l,zgf o.op=true) {σ:Store} {out:OpsOut} {pd:Dat} {e1:Env} (q1:datO C p e σ=some pd) (q2:Acts p.dst pd e e1) (h:zfc C i l e1 σ=some out)
  (hW:ze4 p.op=true→light i.op=false→isLo i.op=false→∀ σ1,ResOf C i e1 σ σ1→∃ s,lslot p.op=some s∧sameW e σ σ1 s=true) :
  ∃ out',zfc C i (p :: l) e σ=some out'∧OutEqv out out':=by
 simp only [zqv,Bool.and_eq_true,Bool.not_eq_true'] at ha
 obtain ⟨hlp,⟨⟨⟨⟨⟨⟨⟨⟨⟨⟨⟨⟨⟨⟨hpi,a0⟩,a1⟩,a2⟩,a3⟩,a4⟩,a5⟩,a6⟩,a7⟩,b1⟩,b2⟩,b3⟩,b4⟩,b5⟩,b6⟩⟩:=ha
 have a0':=Bool.or_eq_true_iff.1 a0
 have b6':=Bool.or_eq_true_iff.1 b6
 simp only [zfc,runOps] at h ⊢
 obtain ⟨st2,h2,h⟩:=zaa h
 have toL:∀ {d:Option Nat} {L:List Nat},disj d.toList L=true→∀ s,d=some s→s ∉ L:=fun hh s hs=>zhu hh s (by simp [hs])
 have ag:Agree (ze2 i) e e1:=q2.agree (toL a1) (fun s hs=>zhu a4 s (zge q1 s hs))
 have mvp:mvBox p.op=true→wb i.op=none:=fun hm=>by
  cases hp:p.op <;> rw [hp] at hm <;> simp only [mvBox,Bool.false_eq_true] at hm
  subst hm
  rw [hp] at b3
  cases hw:wb i.op with
  | none=>rfl
  | some r=>rw [hw] at b3; cases r <;> simp [wb,zkv] at b3
 have mvi:mvBox i.op=true→wb p.op=none:=fun hm=>by
  cases hi:i.op <;> rw [hi] at hm <;> simp only [mvBox,Bool.false_eq_true] at hm
  subst hm
  rw [hi] at b3
  cases hw:wb p.op with
  | none=>rfl
  | some r=>rw [hw] at b3; cases r <;> simp [wb,zkv] at b3
 by_cases hli:light i.op=true
 ·obtain ⟨idt,e2,r1,rfl,r2⟩:=zqo hli h2
  have r1':datO C i e σ=some idt:=by
   rw [← r1]
   refine ziq σ hli ag (q2.boxA q1 b2) (fun hm b=>?_) (fun s' hs'=>?_)
   ·rw [q2.boxes,Acts.box_none q1 (mvi hm)]
   · -- both make boxes
    have hp:(zej p.op).isSome=true:=b6'.resolve_left (by rw [hs']; simp)
    obtain ⟨s,hs⟩:=Option.isSome_iff_exists.1 hp
    obtain ⟨k1,k2,k3⟩:=zht q1 b4 hs
    obtain ⟨g1,g2,g3⟩:=zht r1 b5 hs'
    rw [g2]
    have hne:s≠s':=fun hh=>toL a3 s k1 (by rw [g1,hh]; simp)
    obtain ⟨m1,m2⟩:=zea.1 g2
    obtain ⟨n1,n2⟩:=zea.1 k2
    refine zea.2 ⟨?_,fun t b o ht=>?_⟩
    ·rw [q2.locs,if_neg (fun hh=>hne (by rw [k1] at hh; exact Option.some.inj hh))] at m1
     exact m1
    ·by_cases hts:t=s
     ·rw [hts,n1] at ht
      cases ht
     ·refine m2 t b o ?_
      rw [q2.locs,k1,if_neg (fun hh=>hts (Option.some.inj hh).symm)]
      exact ht
  obtain ⟨e1',s1,s2⟩:=zlu hli σ r1'
  have q1':datO C p e1' σ=some pd:=by
   rw [← q1]
   refine (ziq σ hlp (s2.agree (toL a2) (fun s hs=>zhu a5 s (zge r1' s hs))) (s2.boxA r1' b1) (fun hm b=>?_) (fun s hs=>?_)).symm
   ·rw [s2.boxes,Acts.box_none r1' (mvp hm)]
   ·obtain ⟨k1,k2,k3⟩:=zht q1 b4 hs
    rw [k2]
    symm
    obtain ⟨n1,n2⟩:=zea.1 k2
    have hd:i.dst≠some s:=fun hh=>toL a3 s k1 (by rw [hh]; simp)
    refine zea.2 ⟨by rw [s2.locs,if_neg hd]; exact n1,fun t b o ht=>?_⟩
    rw [s2.locs] at ht
    split at ht
    · -- what i yields
     cases hia:zej i.op with
     | some s' =>
      obtain ⟨g1,g2,g3⟩:=zht r1' b5 hia
      rw [g3] at ht
      simp only [Val.loc?,Option.some.injEq,Prod.mk.injEq] at ht
      intro hh
      apply hd
      rw [g1,ht.1,hh]
     | none =>
      cases hv:idt.1 with
      | c c=>rw [hv] at ht; cases ht
      | l b' o' =>
       rw [hv] at ht
       simp only [Val.loc?,Option.some.injEq,Prod.mk.injEq] at ht
       obtain ⟨rfl,rfl⟩:=ht
       have hvv:∃ v,valOf C i.op e σ=some v∧v=idt.1:=by
        unfold datO at r1'
        obtain ⟨w,_,r1'⟩:=zaa r1'
        cases w with
        | false=>simp only [zad,Option.some.injEq] at r1'; subst r1'; cases hv
        | true =>
         simp only [zac] at r1'
         obtain ⟨v,hv',r1'⟩:=zaa r1'
         cases r1'
         exact ⟨v,hv',rfl⟩
       obtain ⟨v,hv1,hv2⟩:=hvv
       rw [hv2,hv] at hv1
       obtain ⟨t',o2,hl'⟩:=zidb hli hia hv1
       exact n2 t' _ _ hl'
    ·exact n2 t b o ht
  obtain ⟨e2',t1,t2⟩:=zlu hlp σ q1'
  have hE:Eqv e2 e2':=q2.swap r2 s2 t2 (fun s hs k=>toL a3 s hs (by simp [k])) (fun s hs k=>toL a6 s hs (zge r1' s k)) (fun s hs k=>toL a7 s hs (zge q1 s k)) (by
   rcases zj0 q1 with hp | hp
   ·exact .inl hp
   ·rcases zj0 r1' with hi | hi
    ·exact .inr (.inl hi)
    ·cases hpb:dbox p.op e with
     | none=>exact .inl (hp.trans hpb)
     | some x =>
      cases hib:dbox i.op e with
      | none=>exact .inr (.inl (hi.trans hib))
      | some y =>
       obtain ⟨bp,fp⟩:=x
       obtain ⟨bi,fi⟩:=y
       refine .inr (.inr ⟨bp,fp,bi,fi,hp.trans hpb,hi.trans hib,?_⟩)
       have s1:=(zne hpb).2
       have s2:=(zne hib).2
       have n1:wb p.op≠none:=fun h=>by rw [znd h] at hpb; cases hpb
       have n2:wb i.op≠none:=fun h=>by rw [znd h] at hib; cases hib
       cases hwp:wb p.op with
       | none=>exact absurd hwp n1
       | some x =>
        cases hwi:wb i.op with
        | none=>exact absurd hwi n2
        | some y =>
         rw [hwp,hwi] at b3
         cases x with
         | none=>cases y <;> simp [zkv] at b3
         | some x =>
          cases y with
          | none=>simp [zkv] at b3
          | some y =>
           have:=s1 x hwp
           have:=s2 y hwi
           subst_vars
           simpa [zkv] using b3)
  rw [s1]
  have hso:∀ ee σa σb,stOK (stableOf p.op) ee σa σb=true:=fun ee σa σb=>by rw [zpm hlp]; rfl
  simp only [bindO,zab,t1,hso,zac]
  exact zmj hl hE h
 · -- a call,a panic,an operation on the store
  have hli':light i.op=false:=by simpa using hli
  have h2s:=h2
  unfold stepOp at h2 ⊢
  obtain ⟨w,hw,h2⟩:=zaa h2
  rw [zd3 ag,hw]
  simp only [bindO,zab]
  have qs:∀ σ1,(ze4 p.op=true→σ1=σ∨∃ s,lslot p.op=some s∧sameW e σ σ1 s=true)→datO C p e σ1=some pd:=by
   intro σ1 hst
   cases hn:ze4 p.op with
   | false=>rw [← zc3b hlp hn e σ σ1]; exact q1
   | true =>
    rcases hst hn with rfl | ⟨s,hs1,hw1⟩
    ·exact q1
    ·exact zftb hlp hn hs1 hw1 q1
  have after:∀ (c:Cell) (σ1:Store) (out:OpsOut),datO C p e σ1=some pd→runOps C l (e1.put i.dst c) σ1=some out→∃ out',(caseO (stepOp C p (e.put i.dst c) σ1) none fun s=>match s with
    | .next e' σ'=>ifB (stOK (stableOf p.op) (e.put i.dst c) σ1 σ') (runOps C l e' σ') none
    | .call f as=>bindO (C f as σ1) fun r=>ifB (stOK (stableOf p.op) (e.put i.dst c) σ1 r.2) (match r.1 with
     | .ret c'=>runOps C l ((e.put i.dst c).put p.dst c') r.2
     | .panic d=>some (.panic d (e.put i.dst c) r.2)) none
    | .panic d=>some (.panic d (e.put i.dst c) σ1))=some out'∧OutEqv out out':=by
   intro c σ1 out q1σ hrun
   have s2:Acts i.dst (.c c,[],none) e (e.put i.dst c):=zbt (v:=.c c) [] none (fun s=>by simp) rfl (fun b=>rfl) rfl
   have r2:Acts i.dst (.c c,[],none) e1 (e1.put i.dst c):=zbt (v:=.c c) [] none (fun s=>by simp) rfl (fun b=>rfl) rfl
   have q1':datO C p (e.put i.dst c) σ1=some pd:=by
    rw [← q1σ]
    refine (ziq σ1 hlp (s2.agree (toL a2) (fun s hs=>by cases hs)) (zbeb fun b=>by rw [s2.boxes]) (fun _ b=>by rw [s2.boxes]) (fun s hs=>?_)).symm
    obtain ⟨k1,k2,k3⟩:=zht q1 b4 hs
    rw [k2]
    symm
    obtain ⟨n1,n2⟩:=zea.1 k2
    have hd:i.dst≠some s:=fun hh=>toL a3 s k1 (by rw [hh]; simp)
    refine zea.2 ⟨by rw [s2.locs,if_neg hd]; exact n1,fun t b o ht=>?_⟩
    rw [s2.locs] at ht
    split at ht
    ·cases ht
    ·exact n2 t b o ht
   obtain ⟨e2',t1,t2⟩:=zlu hlp σ1 q1'
   have hE:=q2.swap r2 s2 t2 (fun s hs k=>toL a3 s hs (by simp [k])) (fun s hs k=>by cases k) (fun s hs k=>toL a7 s hs (zge q1 s k)) (.inr (.inl rfl))
   rw [t1]
   have hso:∀ ee σa σb,stOK (stableOf p.op) ee σa σb=true:=fun ee σa σb=>by rw [zpm hlp]; rfl
   simp only [zab,hso,zac]
   exact zmj hl hE hrun
  cases w with
  | false =>
   simp only [zad,Option.some.injEq] at h2 ⊢
   subst h2
   simp only at h
   exact after _ σ out q1 h
  | true =>
   simp only [zac] at h2 ⊢
   have hdf:e1.defers=e.defers:=q2.defers
   by_cases hq:isLo i.op=true
   ·obtain ⟨k,x,hix⟩:=zbrb hq
    have agx:Agree (zai x) e e1:=by
     have:=Agree.right ag
     rw [hix] at this
     exact this
    rw [hix] at h2 ⊢
    simp only [AOp.kind,zag] at h2 ⊢
    rw [zpq σ agx]
    obtain ⟨⟨e2,σ2⟩,h3,h2⟩:=zaa h2
    cases h2
    obtain ⟨r,h4,h3⟩:=zaa h3
    cases h3
    rw [h4]
    obtain ⟨id,off,cs,_,g2,_,g4⟩:=zlvb h4
    refine after _ _ out ?_ h
    rw [g4,zmhb hlp g2]
    exact q1
   have hq':isLo i.op=false:=by simpa using hq
   by_cases hm:isMem i.op=true
   ·rw [zp4 hm] at h2 ⊢
    simp only at h2 ⊢
    rw [zlw hm] at h2 ⊢
    obtain ⟨⟨e2,σ2⟩,h3,h2⟩:=zaa h2
    cases h2
    unfold memE at h3 ⊢
    rw [zki (e':=e1) σ hm (Agree.right ag)]
    obtain ⟨r,h4,h3⟩:=zaa h3
    cases h3
    rw [h4]
    refine after _ _ out (qs _ fun hn=>?_) h
    exact .inr (hW hn hli' hq' _ (.inl ⟨_,h2s⟩))
   have hm':isMem i.op=false:=by simpa using hm
   cases hk:i.op.kind with
   | op =>
    exfalso
    cases hi:i.op <;> rw [hi] at hpi hli' hm' hk hq' <;> simp only [AOp.kind,reduceCtorEq] at hk <;> simp only [isLo,Bool.true_eq_false] at hq' <;> simp only [zrp,hli',hm',Bool.or_self,Bool.false_eq_true] at hpi
   | pure =>
    exfalso
    cases hi:i.op <;> rw [hi] at hli' hk <;> simp only [AOp.kind,reduceCtorEq] at hk
    simp only [light,Bool.true_eq_false] at hli'
   | call =>
    rw [hk] at h2
    simp only at h2 ⊢
    obtain ⟨⟨f,as⟩,h3,h2⟩:=zaa h2
    cases h2
    rw [zji (e':=e1) (Agree.right ag),h3]
    simp only [bindO,zab] at h ⊢
    obtain ⟨⟨r,σ1⟩,h4,h⟩:=zaa h
    rw [h4]
    simp only [zab] at h ⊢
    cases r with
    | ret c=>exact after c σ1 out (qs _ fun hn=>.inr (hW hn hli' hq' _ (.inr ⟨_,_,_,h2s,h4⟩))) h
    | panic d =>
     simp only [Option.some.injEq] at h
     subst h
     exact ⟨_,rfl,.panic hdf⟩
   | panic =>
    rw [hk] at h2
    simp only at h2 ⊢
    obtain ⟨d,h3,h2⟩:=zaa h2
    cases h2
    rw [zmq (e':=e1) (Agree.right ag),h3]
    simp only [Option.some.injEq] at h
    subst h
    exact ⟨_,rfl,.panic hdf⟩
theorem zcub {i:AOper} {σ:Store} {f:FuncId} {as:List D} (h:Agree (ze2 i) e e') (hs:stepOp C i e σ=some (.call f as)):stepOp C i e' σ=some (.call f as):=by
 unfold stepOp at hs ⊢
 rw [← zd3 h]
 obtain ⟨w,h1,hs⟩:=zaa hs
 rw [h1]
 simp only [bindO,zab]
 cases w with
 | false=>simp only [zad,Option.some.injEq,reduceCtorEq] at hs
 | true =>
  simp only [zac] at hs ⊢
  cases hk:i.op.kind with
  | op =>
   rw [hk] at hs
   obtain ⟨r,_,hs⟩:=zaa hs
   cases hs
  | panic =>
   rw [hk] at hs
   obtain ⟨r,_,hs⟩:=zaa hs
   cases hs
  | pure =>
   rw [hk] at hs
   obtain ⟨r,_,hs⟩:=zaa hs
   obtain ⟨v,_,hs⟩:=zaa hs
   cases hs
  | call =>
   rw [hk] at hs
   simp only at hs ⊢
   rw [← zji (Agree.right h)]
   exact hs
theorem zdub {i:AOper} (hm:isMem i.op=true) {σ σ1:Store} {e1:Env} (h:Agree (ze2 i) e e') (hs:stepOp C i e σ=some (.next e1 σ1)):∃ e2,stepOp C i e' σ=some (.next e2 σ1):=by
 unfold stepOp at hs ⊢
 rw [← zd3 h]
 obtain ⟨w,h1,hs⟩:=zaa hs
 rw [h1]
 simp only [bindO,zab]
 cases w with
 | false =>
  simp only [zad,Option.some.injEq,Step.next.injEq] at hs ⊢
  exact ⟨_,rfl,hs.2⟩
 | true =>
  simp only [zac,zp4 hm] at hs ⊢
  rw [zlw hm] at hs ⊢
  obtain ⟨r,h2,hs⟩:=zaa hs
  cases hs
  unfold memE at h2 ⊢
  rw [← zki σ hm (Agree.right h)]
  obtain ⟨q,h3,h2⟩:=zaa h2
  cases h2
  rw [h3]
  exact ⟨_,rfl⟩
theorem zhvb {C:CallF} {i:AOper} (hs:(stableOf i.op).isSome=true) {σ σ1:Store} (h:Agree (ze2 i) e e') (hr:ResOf C i e σ σ1):ResOf C i e' σ σ1:=by
 rcases hr with ⟨e2,h1⟩ | ⟨f,as,r,h1,h2⟩
 ·have hk:isMem i.op=true∨i.op.kind=.call:=by
   cases ho:i.op <;> rw [ho] at hs <;> simp only [stableOf,Option.isSome_none,Bool.false_eq_true] at hs
   ·exact .inr rfl
   ·exact .inr rfl
   ·exact .inl rfl
  rcases hk with hm | hk
  ·exact .inl (zdub hm h h1)
  · -- not wanted
   unfold stepOp at h1
   obtain ⟨w,g1,h1⟩:=zaa h1
   cases w with
   | true =>
    simp only [zac,hk] at h1
    obtain ⟨r,_,h1⟩:=zaa h1
    cases h1
   | false =>
    simp only [zad,Option.some.injEq,Step.next.injEq] at h1
    refine .inl ⟨e'.put i.dst ⟨false,.undef⟩,?_⟩
    unfold stepOp
    rw [← zd3 h,g1]
    simp only [bindO,zab,zad,h1.2]
 ·exact .inr ⟨f,as,r,zcub h h1,h2⟩
def Once:List AOper→Prop
 | []=>True
 | p :: l=>(∀ s,lslot p.op=some s→∀ a∈l,a.dst≠some s)∧Once l
theorem zdo {α:Type} (k:Nat) (v:α) (r:List (Nat × α)) (s:Nat) (x:α):aset ((k,v) :: r) s x=if k=s then (k,x) :: r else if s≤k then (s,x) :: (k,v) :: r else (k,v) :: aset r s x:=by
 simp only [aset]
 by_cases h:k=s
 ·have:(k == s)=true:=by simpa using h
  rw [this,if_pos h]
  rfl
 ·have:(k == s)=false:=by simpa using h
  rw [this,if_neg h,zad]
  by_cases h2:s≤k
  ·rw [Nat.ble_eq_true_of_le h2,if_pos h2]
   rfl
  ·have:Nat.ble s k=false:=by
    cases hb:Nat.ble s k with
    | false=>rfl
    | true=>exact absurd (Nat.le_of_ble_eq_true hb) h2
   rw [this,if_neg h2]
   rfl
theorem zfcb {α:Type} {a b:Nat} {x y:α} (l:List (Nat × α)) (h:a≠b):aset (aset l a x) b y=aset (aset l b y) a x:=by
 have h':b≠a:=h.symm
 induction l with
 | nil =>
  have e:∀ s (z:α),aset [] s z=[(s,z)]:=fun _ _=>rfl
  simp only [e,zdo,if_neg h,if_neg h']
  by_cases h1:a≤b
  ·have h2:¬ b≤a:=by omega
   simp only [if_pos h1,if_neg h2]
  ·have h2:b≤a:=by omega
   simp only [if_neg h1,if_pos h2]
 | cons p r ih =>
  obtain ⟨k,v⟩:=p
  by_cases ka:k=a
  ·subst ka
   by_cases h1:b≤k
   ·have h2:¬ k≤b:=by omega
    simp only [zdo,if_true,if_neg h,if_neg h',if_pos h1,if_neg h2]
   ·simp only [zdo,if_true,if_neg h,if_neg h1]
  ·by_cases kb:k=b
   ·subst kb
    by_cases h1:a≤k
    ·have h2:¬ k≤a:=by omega
     simp only [zdo,if_true,if_neg h,if_neg h',if_pos h1,if_neg h2]
    ·simp only [zdo,if_true,if_neg h',if_neg h1]
   ·by_cases h1:a≤k <;> by_cases h2:b≤k
    ·by_cases h3:a≤b
     ·have h4:¬ b≤a:=by omega
      simp only [zdo,if_neg ka,if_neg kb,if_neg h,if_neg h',if_pos h1,if_pos h2,if_pos h3,if_neg h4]
     ·have h4:b≤a:=by omega
      simp only [zdo,if_neg ka,if_neg kb,if_neg h,if_neg h',if_pos h1,if_pos h2,if_neg h3,if_pos h4]
    ·have h4:¬ b≤a:=by omega
     simp only [zdo,if_neg ka,if_neg kb,if_neg h,if_neg h',if_pos h1,if_neg h2,if_neg h4]
    ·have h4:¬ a≤b:=by omega
     simp only [zdo,if_neg ka,if_neg kb,if_neg h,if_neg h',if_neg h1,if_pos h2,if_neg h4]
    ·simp only [zdo,if_neg ka,if_neg kb,if_neg h1,if_neg h2,ih]
theorem zk9b {C:CallF} {p i:AOper} (hp:zvi p i=true) {A B:List AOper} {e:Env} {σ:Store} {out:OpsOut} (h:runOps C (p :: A ++ i :: B) e σ=some out)
  (ih:∀ e1 σ1 out1,runOps C (A ++ i :: B) e1 σ1=some out1→∃ out',zfc C i (A ++ B) e1 σ1=some out'∧OutEqv out1 out'∧∀ σ2,ResOf C i e1 σ1 σ2→∀ ws,stableOf i.op=some ws→∀ s∈ws,(∀ a∈A,a.dst≠some s)→sameW e1 σ1 σ2 s=true) :
  ∃ out',zfc C i (p :: A ++ B) e σ=some out'∧OutEqv out out'∧∀ σ1,ResOf C i e σ σ1→∀ ws,stableOf i.op=some ws→∀ s∈ws,(∀ a∈p :: A,a.dst≠some s)→sameW e σ σ1 s=true:=by
 obtain ⟨pd,po,pg⟩:=p
 obtain ⟨idd,io,ig⟩:=i
 unfold zvi at hp
 split at hp
 ·rename_i s k x y s' k' x' y' h1 h2
  simp only at h1 h2
  subst h1 h2
  simp only [Bool.and_eq_true,beq_iff_eq,Option.isNone_iff_eq_none] at hp
  obtain ⟨⟨⟨⟨rfl,rfl⟩,rfl⟩,rfl⟩,rfl⟩:=hp
  simp only [List.cons_append,runOps] at h
  obtain ⟨st,g1,h⟩:=zaa h
  simp only [stepOp,zb4,AOp.kind,bindO,zab,zac,zag,memE,memOp] at g1
  obtain ⟨⟨e1,σ1⟩,g2,g1⟩:=zaa g1
  cases g1
  obtain ⟨⟨d1,σ1'⟩,g3,g2⟩:=zaa g2
  cases g2
  obtain ⟨pp,g4,g3⟩:=zaa g3
  obtain ⟨cp,g5,g3⟩:=zaa g3
  obtain ⟨z,g8,g3⟩:=zaa g3
  obtain ⟨iz,g9,g3⟩:=zaa g3
  cases pp with
  | loc b off=>cases g3
  | eptr d=>cases g3
  | ptr id off =>
   simp only at g3
   obtain ⟨g10,g3⟩:=zae g3
   obtain ⟨cs,g6,g3⟩:=zaa g3
   obtain ⟨g7,g3⟩:=zae g3
   cases g3
   simp only [stableOf,stOK,za0,zac,Env.put] at h
   obtain ⟨out1,k1,k2,_⟩:=ih _ _ _ h
   simp only [zfc] at k1
   obtain ⟨st2,m1,k1⟩:=zaa k1
   simp only [stepOp,zb4,AOp.kind,bindO,zab,zac,zag,memE,memOp] at m1
   obtain ⟨⟨e2,σ2⟩,m2,m1⟩:=zaa m1
   cases m1
   obtain ⟨⟨d2,σ2'⟩,m3,m2⟩:=zaa m2
   cases m2
   obtain ⟨pi',m4,m3⟩:=zaa m3
   obtain ⟨ci,m5,m3⟩:=zaa m3
   obtain ⟨z2,m6,m3⟩:=zaa m3
   rw [g8] at m6
   cases m6
   obtain ⟨iz2,m10,m3⟩:=zaa m3
   rw [g9] at m10
   cases m10
   cases pi' with
   | loc b off=>cases m3
   | eptr d=>cases m3
   | ptr id2 off2 =>
    simp only at m3
    obtain ⟨m7,m3⟩:=zae m3
    obtain ⟨cs2,m8,m3⟩:=zaa m3
    obtain ⟨m9,m3⟩:=zae m3
    cases m3
    have hne:id≠id2:=by
     have e1:iz=id:=by simpa using g10
     have e2:iz≠id2:=by simpa using m7
     exact fun h=>e2 (e1.trans h)
    simp only [zak,if_neg hne] at m8
    refine ⟨out1,?_,k2,fun σ3 _ ws hws=>by cases hws⟩
    simp only [List.cons_append,zfc,runOps,stepOp,zb4,AOp.kind,bindO,zab,zac,zag,memE,memOp,m4,m5,g8,g9,g10,m7,zad,m8,m9,Env.put,g4,g5,zak,if_neg (Ne.symm hne),g6,g7,stableOf,stOK,za0]
    rw [zfcb _ (Ne.symm hne)]
    exact k1
 ·cases hp
theorem zqf {C:CallF} {i:AOper}:∀ {A B:List AOper} (_:∀ p∈A,apart p i=true) (_:∀ o∈A ++ B,zgf o.op=true) (_:Once A) {e:Env} {σ:Store} {out:OpsOut},runOps C (A ++ i :: B) e σ=some out →
  ∃ out',zfc C i (A ++ B) e σ=some out'∧OutEqv out out'∧∀ σ1,ResOf C i e σ σ1→∀ ws,stableOf i.op=some ws→∀ s∈ws,(∀ a∈A,a.dst≠some s)→sameW e σ σ1 s=true
 | [],B,_,_,_,e,σ,out,h=>by
  simp only [List.nil_append,runOps] at h
  refine ⟨out,?_,OutEqv.refl out,?_⟩
  ·simp only [List.nil_append,zfc]
   obtain ⟨st,h1,h⟩:=zaa h
   rw [h1]
   simp only [bindO,zab]
   cases st with
   | next e' σ'=>exact (zae h).2
   | panic d=>exact h
   | call f as =>
    simp only at h ⊢
    obtain ⟨r,h2,h⟩:=zaa h
    rw [h2]
    exact (zae h).2
  ·intro σ1 hres ws hws s hsw _
   obtain ⟨st,h1,h⟩:=zaa h
   have key:stOK (stableOf i.op) e σ σ1=true:=by
    rcases hres with ⟨e2,hs⟩ | ⟨f,as,r,hs,hc⟩
    ·rw [hs] at h1
     cases h1
     exact (zae h).1
    ·rw [hs] at h1
     cases h1
     simp only at h
     obtain ⟨r',h2,h⟩:=zaa h
     rw [hc] at h2
     cases h2
     exact (zae h).1
   rw [hws] at key
   unfold stOK at key
   simp only [zab] at key
   exact List.all_eq_true.1 key s hsw
 | p :: A,B,ha,hl,ho,e,σ,out,h=>by
  rcases Bool.or_eq_true_iff.1 (ha p (by simp)) with hp | hp2
  case inr=>exact zk9b hp2 h (fun e1 σ1 out1 h1=>zqf (fun q hq=>ha q (by simp [hq])) (fun o ho=>hl o (by simp at ho ⊢; exact .inr ho)) ho.2 h1)
  have hp':=hp
  simp only [zqv,Bool.and_eq_true,Bool.not_eq_true'] at hp'
  obtain ⟨hlp,⟨⟨⟨⟨⟨⟨⟨⟨⟨⟨⟨⟨⟨⟨hpi,a0⟩,a1⟩,a2⟩,a3⟩,a4⟩,a5⟩,a6⟩,a7⟩,b1⟩,b2⟩,b3⟩,b4⟩,b5⟩,b6⟩⟩:=hp'
  simp only [List.cons_append] at h ⊢
  simp only [runOps] at h
  obtain ⟨st,h1,h⟩:=zaa h
  obtain ⟨pd,e1,q1,rfl,q2⟩:=zqo hlp h1
  simp only at h
  obtain ⟨_,h⟩:=zae h
  obtain ⟨out1,k1,k2,k3⟩:=zqf (fun q hq=>ha q (by simp [hq])) (fun o ho=>hl o (by simp at ho ⊢; exact .inr ho)) ho.2 h
  have slotd:∀ s,p.dst≠some s→(aget e1.slots s).map Cell.d=(aget e.slots s).map Cell.d:=by
   intro s hs
   rw [q2.slots,if_neg hs]
   split
   ·cases aget e.slots s <;> rfl
   ·rfl
  have ag:Agree (ze2 i) e e1:=q2.agree (fun s hs=>zhu a1 s (by simp [hs])) (fun s hs=>zhu a4 s (zge q1 s hs))
  obtain ⟨out2,g1,g2⟩:=zk8b hp (fun o ho=>hl o (by simp at ho ⊢; exact .inr ho)) q1 q2 k1 (fun hn hli hlo σ1 hres=>by
   have hw:zto p i=true:=by
    rcases Bool.or_eq_true_iff.1 a0 with hx | hx
    ·rcases Bool.or_eq_true_iff.1 hx with hx | hx
     ·rw [hli] at hx; cases hx
     ·rw [hn] at hx; cases hx
    ·rw [hlo,Bool.false_or] at hx
     exact hx
   unfold zto at hw
   cases hl1:lslot p.op with
   | none=>rw [hl1] at hw; cases hw
   | some s =>
    cases hs1:stableOf i.op with
    | none=>rw [hl1,hs1] at hw; cases hw
    | some ws =>
     rw [hl1,hs1] at hw
     simp only [Bool.and_eq_true,Bool.not_eq_true',beq_eq_false_iff_ne] at hw
     refine ⟨s,rfl,?_⟩
     rw [← zceb (slotd s hw.2)]
     exact k3 σ1 hres ws hs1 s (by simpa using hw.1) (ho.1 s hl1))
  refine ⟨out2,g1,k2.trans g2,fun σ1 hres ws hws s hsw hall=>?_⟩
  rw [← zceb (slotd s (hall p (by simp)))]
  exact k3 σ1 (zhvb (by rw [hws]; rfl) ag hres) ws hws s hsw (fun a ha=>hall a (by simp [ha]))
end
end Go.Mx

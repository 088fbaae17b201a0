/-
 What the operations of the small machine do,the model's operations do: one by one.
-/
import Derived.Test.YtldfbnbckiifeaaGreatDoorMySim
set_option linter.unusedSimpArgs false
set_option linter.unusedVariables false
set_option linter.unusedSectionVars false
namespace Go.Mx
open Go
/-! ### The fit of an operation: what the generator printed is what the program has -/
def zji (b:Bool):Value→Bool
 | .bool b'=>b == b'
 | _=>false
def zqw (k:IntKind) (n:Int):Value→Bool
 | .int k' n'=>kN k k' && n == n'
 | _=>false
def zq3 (s:List UInt8):Value→Bool
 | .string b=>s == b.data.toList
 | _=>false
def Jg:Value→Bool
 | .slice a n c=>a.isNone && n == 0 && c == 0
 | _=>false
def Vx:Value→Bool
 | .pointer a=>a.isNone
 | _=>false
def zco:Value→Bool
 | .nilFunc=>true
 | _=>false
def Vw:Value→Bool
 | .map none=>true
 | _=>false
def Jf:Value→Bool
 | .nilIface=>true
 | _=>false
def zqv (f:FuncId):Value→Bool
 | .func (.func f') a b=>f == f' && a.size == 0 && b.size == 0
 | _=>false
def zg0:Value→Option (List Value)
 | .agg vs=>some vs.toList
 | _=>none
mutual
def gV:D→Value→Bool
 | .bool b,v=>zji b v
 | .int k n,v=>zqw k n v
 | .str s,v=>zq3 s v
 | .nils,v=>Jg v
 | .nilp,v=>Vx v
 | .nilfn,v=>zco v
 | .niliface,v=>Jf v
 | .nilmap,v=>Vw v
 | .fn (.func f) a b,v=>zqv f v && a.isEmpty && b.isEmpty
 | .agg cs,v=>eZ (zg0 v) false fun vs=>mJ cs vs
 | _,_=>false
def mJ:List D→List Value→Bool
 | [],vs=>vs.isEmpty
 | d :: ds,vs=>eZ vs.head? false fun v=>d.one && gV d v && mJ ds vs.tail
end
def dL:Operand→AOpd→Bool
 | .tmp t,.tmp s=>t == s
 | .tmp t,.mv s=>t == s
 | .const v,.const d=>gV d v
 | .func f,.const (.fn (.func f') [] [])=>f == f'
 | _,_=>false
def oO:List Operand→List AOpd→Bool
 | [],[]=>true
 | x :: l,y :: r=>dL x y && oO l r
 | _,_=>false
theorem Gf {k k':IntKind} (h:kN k k'=true):k=k':=by
 cases k <;> cases k' <;> first | rfl | cases h
theorem Rep.oneCell {ι:Imm} {j:Lay} {d:D} {v:Value} (h:Rep ι j d v) (ho:d.one=true):v.oneCell'=true∧v.cells=#[v]:=by
 cases d <;> simp only [D.one,aE] at ho <;> simp only [Rep] at h <;> first
  | (subst h; exact ⟨rfl,rfl⟩)
  | (obtain ⟨_,_,rfl,_⟩:=h; exact ⟨rfl,rfl⟩)
  | (obtain ⟨_,_,rfl⟩:=h; exact ⟨rfl,rfl⟩)
  | (obtain ⟨_,_,_,rfl,_⟩:=h; exact ⟨rfl,rfl⟩)
  | (obtain ⟨_,rfl,_⟩:=h; exact ⟨rfl,rfl⟩)
  | (obtain ⟨_,rfl⟩:=h; exact ⟨rfl,rfl⟩)
  | (obtain ⟨_,_,_,_,_,_,rfl,_⟩:=h; exact ⟨rfl,rfl⟩)
theorem zut {b:Bool} {v:Value} (h:zji b v=true):v=.bool b:=by
 cases v <;> simp only [zji,aE] at h
 rw [eq_of_beq h]
theorem zxq {k:IntKind} {n:Int} {v:Value} (h:zqw k n v=true):v=.int k n:=by
 cases v <;> simp only [zqw,aE,aC] at h
 rw [Gf h.1,eq_of_beq h.2]
theorem zxr {s:List UInt8} {v:Value} (h:zq3 s v=true):v=.string ⟨⟨s⟩⟩:=by
 cases v <;> simp only [zq3,aE] at h
 rw [eq_of_beq h]
theorem zex {v:Value} (h:Jg v=true):v=.slice none 0 0:=by
 cases v <;> simp only [Jg,aE,aC,Option.isNone_iff_eq_none,beq_iff_eq] at h
 obtain ⟨⟨rfl,rfl⟩,rfl⟩:=h
 rfl
theorem zl5 {v:Value} (h:Vx v=true):v=.pointer none:=by
 cases v <;> simp only [Vx,aE,Option.isNone_iff_eq_none] at h
 rw [h]
theorem zqx {v:Value} (h:zco v=true):v=.nilFunc:=by
 cases v <;> simp only [zco,aE] at h
 rfl
theorem zl3 {v:Value} (h:Vw v=true):v=.map none:=by
 unfold Vw at h
 split at h
 ·rfl
 ·cases h
theorem zew {v:Value} (h:Jf v=true):v=.nilIface:=by
 cases v <;> simp only [Jf,aE] at h
 rfl
theorem zcqb {f:FuncId} {v:Value} (h:zqv f v=true):v=.func (.func f) ⟨[]⟩ ⟨[]⟩:=by
 cases v with
 | func g a b =>
  cases g <;> simp only [zqv,aE,aC,beq_iff_eq] at h
  obtain ⟨⟨rfl,h1⟩,h2⟩:=h
  obtain ⟨a⟩:=a
  obtain ⟨b⟩:=b
  simp only [List.size_toArray,aR] at h1 h2
  subst h1 h2
  rfl
 | _=>simp only [zqv,aE] at h
theorem zwu {v:Value} {vs:List Value} (h:zg0 v=some vs):v=.agg ⟨vs⟩:=by
 cases v <;> simp only [zg0,reduceCtorEq,aA] at h
 subst h
 rfl
section
variable (ι:Imm) (j:Lay)
mutual
theorem tQ:∀ (d:D) (v:Value),gV d v=true→Rep ι j d v
 | .bool b,v,h=>by simp only [gV] at h; simp only [Rep]; exact zut h
 | .int k n,v,h=>by simp only [gV] at h; simp only [Rep]; exact zxq h
 | .str s,v,h=>by simp only [gV] at h; simp only [Rep]; exact zxr h
 | .nils,v,h=>by simp only [gV] at h; simp only [Rep]; exact zex h
 | .nilp,v,h=>by simp only [gV] at h; simp only [Rep]; exact zl5 h
 | .nilfn,v,h=>by simp only [gV] at h; simp only [Rep]; exact zqx h
 | .niliface,v,h=>by simp only [gV] at h; simp only [Rep]; exact zew h
 | .nilmap,v,h=>by simp only [gV] at h; simp only [Rep]; exact zl3 h
 | .fn (.func f) a b,v,h=>by
  simp only [gV,aC,List.isEmpty_iff] at h
  obtain ⟨⟨h,rfl⟩,rfl⟩:=h
  simp only [Rep]
  exact ⟨[],[],zcqb h,by simp only [dM],by simp only [dM]⟩
 | .agg cs,v,h=>by
  simp only [gV] at h
  cases hv:zg0 v with
  | none=>rw [hv] at h; cases h
  | some vs =>
   rw [hv,dK] at h
   simp only [Rep]
   obtain ⟨h1,h2⟩:=nD cs vs h
   exact ⟨vs,zwu hv,h1,h2⟩
 | .undef,v,h=>by simp only [gV,aE] at h
 | .list _ _,v,h=>by simp only [gV,aE] at h
 | .tup _,v,h=>by simp only [gV,aE] at h
 | .ptr _ _,v,h=>by simp only [gV,aE] at h
 | .eptr _,v,h=>by simp only [gV,aE] at h
 | .iface _ _,v,h=>by simp only [gV,aE] at h
 | .fn (.method _) _ _,v,h=>by simp only [gV,aE] at h
 | .fn (.methodOf _ _) _ _,v,h=>by simp only [gV,aE] at h
 | .fn (.via _ _ _ _) _ _,v,h=>by simp only [gV,aE] at h
 | .fn (.yield _) _ _,v,h=>by simp only [gV,aE] at h
theorem nD:∀ (ds:List D) (vs:List Value),mJ ds vs=true→dM ι j ds vs∧∀ x∈vs,x.oneCell'=true
 | [],vs,h=>by
  simp only [mJ,List.isEmpty_iff] at h
  subst h
  exact ⟨by simp only [dM],by simp⟩
 | d :: ds,vs,h=>by
  simp only [mJ] at h
  cases vs with
  | nil=>cases h
  | cons v vs =>
   simp only [List.head?_cons,dK,List.tail_cons,aC] at h
   obtain ⟨⟨h0,h1⟩,h2⟩:=h
   obtain ⟨k1,k2⟩:=nD ds vs h2
   have hr:=tQ d v h1
   refine ⟨by simp only [dM]; exact ⟨v,vs,rfl,hr,k1⟩,?_⟩
   intro x hx
   rcases aS.1 hx with rfl | hx
   ·exact (hr.oneCell h0).1
   ·exact k2 x hx
end
end
theorem dM.length {ι:Imm} {j:Lay}:∀ {ds:List D} {vs:List Value},dM ι j ds vs→vs.length=ds.length
 | [],vs,h=>by simp only [dM] at h; subst h; rfl
 | d :: ds,vs,h=>by
  simp only [dM] at h
  obtain ⟨x,r,rfl,_,h⟩:=h
  simp [dM.length h]
theorem dM.at {ι:Imm} {j:Lay}:∀ {ds:List D} {vs:List Value},dM ι j ds vs→∀ (i:Nat) (d:D),ds[i]?=some d→∃ v,vs[i]?=some v∧Rep ι j d v
 | [],_,_,i,d,hi=>by simp at hi
 | d :: ds,vs,h,i,d',hi=>by
  simp only [dM] at h
  obtain ⟨x,r,rfl,h1,h2⟩:=h
  cases i with
  | zero=>simp at hi; subst hi; exact ⟨x,rfl,h1⟩
  | succ i=>simp at hi; simpa using dM.at h2 i d' hi
theorem dM.of {ι:Imm} {j:Lay}:∀ {ds:List D} {vs:List Value},vs.length=ds.length→(∀ (i:Nat) (d:D),ds[i]?=some d→∃ v,vs[i]?=some v∧Rep ι j d v)→dM ι j ds vs
 | [],vs,h,_=>by simp only [dM]; exact bL (by simpa using h)
 | d :: ds,[],h,_=>by simp at h
 | d :: ds,v :: vs,h,k=>by
  simp only [dM]
  obtain ⟨x,hx,hr⟩:=k 0 d rfl
  simp at hx
  subst hx
  exact ⟨v,vs,rfl,hr,dM.of (by simpa using h) fun i d' hi=>by simpa using k (i + 1) d' (by simpa using hi)⟩
theorem dM.append {ι:Imm} {j:Lay}:∀ {a:List D} {va:List Value} {b:List D} {vb:List Value},dM ι j a va→dM ι j b vb→dM ι j (a ++ b) (va ++ vb)
 | [],va,b,vb,h,k=>by simp only [dM] at h; subst h; simpa using k
 | d :: a,va,b,vb,h,k=>by
  simp only [dM] at h
  obtain ⟨x,r,rfl,h1,h2⟩:=h
  simp only [aW,dM]
  exact ⟨x,r ++ vb,rfl,h1,dM.append h2 k⟩
theorem Rep.cellsRel {ι:Imm} {j:Lay} {d:D} {v:Value} (h:Rep ι j d v) (hok:d.ok=true):dM ι j d.cells v.cells.toList∧∀ x∈v.cells.toList,x.oneCell'=true:=by
 cases hd:d.one with
 | true =>
  obtain ⟨h1,h2⟩:=h.oneCell hd
  have:d.cells=[d]:=by cases d <;> simp only [D.one,aE] at hd <;> rfl
  rw [this,h2]
  exact ⟨by simp only [dM]; exact ⟨v,[],rfl,h,rfl⟩,by simpa using h1⟩
 | false =>
  cases d <;> simp only [D.one,D.ok,aE,Bool.true_eq_false] at hd hok
  simp only [Rep] at h
  obtain ⟨vs,rfl,h1,h2⟩:=h
  exact ⟨h1,h2⟩
theorem Rep.cellsSize {ι:Imm} {j:Lay} {d:D} {v:Value} (h:Rep ι j d v) (hok:d.ok=true):v.cells.size=d.cells.length:=by
 have:=dM.length (h.cellsRel hok).1
 simpa using this
/-! ### Operands -/
section
variable [LoopKit] {ι:Imm} {j:Lay} {own:Own} {lb:Lay} {N:Nat} {e:Env} {a:Go.Act} {w:World}
theorem dT (hL:LSim ι j own lb N e a w) {x:Operand} {y:AOpd} (hk:dL x y=true) {c:Cell} (h:opd e y=some c):Rep ι j c.d (a.eval x):=by
 cases y with
 | tmp s =>
  cases x <;> simp only [dL,aE] at hk
  rw [eq_of_beq hk]
  simp only [opd] at h
  obtain ⟨c',h1,h2⟩:=dC h
  cases h2
  exact (hL.slots s c' h1).1
 | mv s =>
  cases x <;> simp only [dL,aE] at hk
  rw [eq_of_beq hk]
  exact (hL.slots s c h).1
 | const d =>
  simp only [opd] at h
  cases h
  cases x with
  | tmp t=>simp only [dL,aE] at hk
  | global g=>simp only [dL,aE] at hk
  | const v=>simp only [dL] at hk; exact tQ ι j d v hk
  | func f =>
   cases d <;> simp only [dL,aE] at hk
   rename_i g a' b'
   cases g <;> cases a' <;> cases b' <;> simp only [dL,aE] at hk
   simp only [Rep,Act.eval]
   exact ⟨[],[],by rw [eq_of_beq hk],rfl,rfl⟩
theorem pS (hL:LSim ι j own lb N e a w):∀ {xs:List Operand} {ys:List AOpd} (_:oO xs ys=true) {ds:List D},lZ e ys=some ds→dM ι j ds (xs.map a.eval)
 | [],[],_,ds,h=>by simp only [lZ] at h; cases h; simp only [dM,aZ]
 | [],_ :: _,hk,_,_=>by simp only [oO,aE] at hk
 | _ :: _,[],hk,_,_=>by simp only [oO,aE] at hk
 | x :: xs,y :: ys,hk,ds,h=>by
  simp only [oO,aC] at hk
  simp only [lZ] at h
  obtain ⟨c,h1,h⟩:=dC h
  obtain ⟨ds',h2,h⟩:=dC h
  cases h
  simp only [dM,aO]
  exact ⟨_,_,rfl,dT hL hk.1 h1,pS hL hk.2 h2⟩
def Xz (ι:Imm) (j lb:Lay):Ptr→Value→Prop
 | .loc b off,v=>∃ B,lb b=some B∧v=.pointer (some ⟨B,off,none⟩)
 | .ptr id off,v=>∃ B,j id=some B∧v=.pointer (some ⟨B,off,none⟩)
 | .eptr d,v=>∃ b o x,v=.pointer (some ⟨b,o,none⟩)∧At ι b o x∧Rep ι j d x
theorem zed {d:D} {p:Ptr} (h:sB d=some p) {v:Value} (hr:Rep ι j d v):Xz ι j lb p v:=by
 cases d <;> simp only [sB,reduceCtorEq,aA] at h <;> subst h <;> simpa only [Rep,Xz] using hr
theorem nK (hL:LSim ι j own lb N e a w) {x:Operand} {y:AOpd} (hk:dL x y=true) {p:Ptr} (h:iW e y=some p):Xz ι j lb p (a.eval x):=by
 have slot:∀ s,eZ (dE e.locs s) (dG (dE e.slots s) fun c=>sB c.d) (fun p=>some (.loc p.1 p.2))=some p→Xz ι j lb p (a.tmps.getD s Go.undef):=by
  intro s h
  cases hl:dE e.locs s with
  | some q =>
   obtain ⟨b,off⟩:=q
   rw [hl] at h
   cases h
   exact hL.locs s b off hl
  | none =>
   rw [hl] at h
   obtain ⟨c,h1,h2⟩:=dC h
   exact zed h2 (hL.slots s c h1).1
 cases y with
 | tmp s =>
  cases x <;> simp only [dL,aE] at hk
  rw [eq_of_beq hk]
  exact slot s h
 | mv s =>
  cases x <;> simp only [dL,aE] at hk
  rw [eq_of_beq hk]
  exact slot s h
 | const d =>
  simp only [iW] at h
  exact zed h (dT hL hk (c:=⟨false,d⟩) rfl)
end
/-! ### The types' tables -/
def zpr (P:Program) (t:TypeId):Option Bool :=
 match P.underlying t with
 | some (.struct _)=>some true
 | some (.array _ _)=>some true
 | some _=>some false
 | none=>none
def fP (P:Program) (t:TypeId):Option Nat:=(P.info? t).map (·.size)
def okK (P:Program) (t:TypeId):Option Nat→Bool
 | none=>zpr P t == some false && fP P t == some 1
 | some n=>zpr P t == some true && fP P t == some n
def mQ (P:Program) (t:TypeId):Option (List Value):=(P.info? t).bind fun i=>i.zero.map fun z=>z.cells.toList
def uV (P:Program) (t:TypeId):Option (List Field) :=
 match P.underlying t with
 | some (.struct fs)=>some fs.toList
 | _=>none
def jI (P:Program) (t:TypeId):Option TypeId :=
 match P.underlying t with
 | some (.slice e)=>some e
 | _=>none
section
variable {P:Program} {w:World}
theorem vW {t:TypeId} {b:Bool} (h:zpr P t=some b):(isAgg t).run P w=.ok b w:=by
 unfold zpr at h
 cases hu:P.underlying t with
 | none=>rw [hu] at h; cases h
 | some d =>
  rw [hu] at h
  simp only [isAgg,Sem.run_bind,run_underlying hu,Result.andThen_ok]
  cases d <;> simp only [aA] at h <;> subst h <;> rfl
theorem jL {t:TypeId} {n:Nat} (h:fP P t=some n):(sizeOf t).run P w=.ok n w:=by
 unfold fP at h
 cases hi:P.info? t with
 | none=>rw [hi] at h; cases h
 | some i =>
  rw [hi] at h
  simp at h
  simp [sizeOf,typeInfo,hi,h]
theorem zmw {t:TypeId} {z:List Value} (h:mQ P t=some z):∃ v,(zeroValue t).run P w=.ok v w∧v.cells.toList=z:=by
 unfold mQ at h
 cases hi:P.info? t with
 | none=>rw [hi] at h; cases h
 | some i =>
  rw [hi] at h
  cases hz:i.zero with
  | none=>rw [Option.bind_some,hz] at h; cases h
  | some v =>
   rw [Option.bind_some,hz] at h
   simp at h
   exact ⟨v,by simp [zeroValue,typeInfo,hi,hz],h⟩
theorem Ir {t:TypeId} {fs:List Field} (h:uV P t=some fs):P.underlying t=some (.struct ⟨fs⟩):=by
 unfold uV at h
 split at h
 ·rename_i fs' hu
  cases h
  exact hu
 ·cases h
theorem kY {t e:TypeId} (h:jI P t=some e):P.underlying t=some (.slice e):=by
 unfold jI at h
 split at h
 ·rename_i e' hu
  cases h
  exact hu
 ·cases h
/-! ### Reading -/
theorem qH {t:TypeId} {k:Option Nat} (hk:okK P t k=true) (b o:Nat) {v:Value}
  (hc:∀ i x,v.cells[i]?=some x→w.cell? ⟨b,o + i,none⟩=some x)
  (hv:match k with | none=>v.cells=#[v] | some n=>∃ vs,v=.agg ⟨vs⟩∧vs.length=n) :
  (loadVar t ⟨b,o,none⟩).run P w=.ok v w:=by
 cases k with
 | none =>
  simp only [okK,aC,beq_iff_eq] at hk
  have h0:=hc 0 v (by rw [hv]; rfl)
  simp only [Nat.add_zero] at h0
  simp only [loadVar,Sem.run_bind,vW hk.1,Result.andThen_ok,aE,if_false,run_load,h0]
 | some n =>
  simp only [okK,aC,beq_iff_eq] at hk
  obtain ⟨vs,rfl,hl⟩:=hv
  have hr:=run_loadCells_list (P:=P) w ⟨b,o,none⟩ vs (fun i x hx=>by rw [Addr.add_lit]; exact hc i x (by simpa [Value.cells] using hx))
  simp only [loadVar,Sem.run_bind,vW hk.1,Result.andThen_ok,if_true,jL hk.2,← hl,hr]
  rfl
theorem Xu:∀ (cs:List Cell) (o n:Nat) (l:List D),lJ cs o n=some l→l=((cs.drop o).take n).map (·.d)∧l.length=n
 | cs,0,0,l,h=>by simp only [lJ,aA] at h; subst h; simp
 | [],0,n + 1,l,h=>by simp [lJ] at h
 | [],o + 1,n,l,h=>by simp [lJ] at h
 | c :: cs,0,n + 1,l,h=>by
  simp only [lJ] at h
  obtain ⟨l',h1,h2⟩:=dC h
  cases h2
  obtain ⟨k1,k2⟩:=Xu cs 0 n l' h1
  simp only [List.drop_zero] at k1
  exact ⟨by simp [k1],by simp [k2]⟩
 | c :: cs,o + 1,n,l,h=>by
  have h':lJ cs o n=some l:=by cases n <;> simpa only [lJ] using h
  simpa using Xu cs o n l h'
variable [LoopKit] {ι:Imm} {j:Lay} {own:Own}
theorem nP {B:Nat} {mk:Nat→Tag} {cs:List Cell} (hb:lO ι j own w B mk cs) {t:TypeId} {k:Option Nat} (hk:okK P t k=true) {off:Nat} {c:Cell} (h:fN cs k off=some c) :
  ∃ v,(loadVar t ⟨B,off,none⟩).run P w=.ok v w∧Rep ι j c.d v∧(k=none→cs[off]?=some c∧v.oneCell'=true∧lP ι j own w (mk off) c v)∧(k≠none→c.own=false):=by
 obtain ⟨vs,T,h1,h2,h3⟩:=hb
 have hcell:∀ i x,vs[i]?=some x→w.cell? ⟨B,i,none⟩=some x:=fun i x hx=>by
  rw [cell_of_row w B i _ _ _ h1]; simpa using hx
 cases k with
 | none =>
  simp only [fN,yB] at h
  obtain ⟨v,hv,ho,hr⟩:=h3 off c h
  have hc1:v.cells=#[v]:=by cases v <;> simp [Value.oneCell'] at ho <;> rfl
  refine ⟨v,qH hk B off (v:=v) (fun i x hx=>?_) hc1,hr.1,fun _=>⟨h,ho,hr⟩,fun hne=>absurd rfl hne⟩
  rw [hc1] at hx
  cases i with
  | zero=>simp at hx; subst hx; exact hcell off v hv
  | succ i=>simp at hx
 | some n =>
  simp only [fN] at h
  obtain ⟨l,hl,he⟩:=dC h
  cases he
  obtain ⟨hl1,hl2⟩:=Xu cs off n l hl
  have hlen:((vs.drop off).take n).length=n:=by
   have:(((cs.drop off).take n).map (·.d)).length=n:=by rw [← hl1]; exact hl2
   simp only [aJ,bI,List.length_drop] at this ⊢
   omega
  refine ⟨.agg ⟨(vs.drop off).take n⟩,qH hk B off (fun i x hx=>?_) ⟨_,rfl,hlen⟩,?_,fun hne=>(by cases hne),fun _=>rfl⟩
  ·simp only [Value.cells,List.getElem?_toArray,List.getElem?_take,List.getElem?_drop] at hx
   split at hx
   ·exact hcell (off + i) x hx
   ·cases hx
  ·simp only [Rep]
   refine ⟨_,rfl,dM.of (by rw [hlen,hl2]) (fun i d hi=>?_),fun x hx=>?_⟩
   ·rw [hl1,List.getElem?_map] at hi
    cases hq:((cs.drop off).take n)[i]? with
    | none=>rw [hq] at hi; cases hi
    | some c =>
     rw [hq] at hi
     simp at hi
     subst hi
     simp only [List.getElem?_take,List.getElem?_drop] at hq ⊢
     split at hq
     ·rename_i hin
      obtain ⟨v,hv,_,hr⟩:=h3 (off + i) c hq
      exact ⟨v,by rw [if_pos hin]; exact hv,hr.1⟩
     ·cases hq
   ·obtain ⟨i,hi⟩:=List.getElem?_of_mem hx
    simp only [List.getElem?_take,List.getElem?_drop] at hi
    split at hi
    ·have hlt:off + i < cs.length:=by
      rename_i hin
      have:(((cs.drop off).take n).map (·.d)).length=n:=by rw [← hl1]; exact hl2
      simp only [aJ,bI,List.length_drop] at this
      omega
     obtain ⟨v,hv,ho,_⟩:=h3 (off + i) _ (List.getElem?_eq_getElem hlt)
     rw [hv] at hi
     cases hi
     exact ho
    ·cases hi
end
/-! ### The fit of the operations that yield a value -/
def xE (a b:BinOp):Bool:=decide (a=b)
def zgdb (a b:UnOp):Bool:=decide (a=b)
def wW (P:Program) (fs:List Field):List (Nat × Operand)→List (Nat × Nat × AOpd)→Bool
 | [],[]=>true
 | (i,x) :: l,(off,n,y) :: r=>(match fs[i]? with
  | some f=>f.offset == off && fP P f.type == some n
  | none=>false) && dL x y && wW P fs l r
 | _,_=>false
def uB:Option Operand→Option AOpd→Bool
 | none,none=>true
 | some x,some y=>dL x y
 | _,_=>false
def rT (P:Program) (t:TypeId):Bool:=match P.underlying t with | some .string=>true | _=>false
def Yj (P:Program) (t:TypeId):Bool:=match P.underlying t with | some .bool=>true | _=>false
def Bl (P:Program) (t:TypeId):Option IntKind:=match P.underlying t with | some (.int k)=>some k | _=>none
def pF (P:Program) (t:TypeId):Option Bool:=match P.underlying t with | some (.interface _)=>some true | some _=>some false | none=>none
def zyl (P:Program) (t:TypeId):Bool:=match P.underlying t with | some (.pointer _)=>true | _=>false
def tD (P:Program) (t:TypeId):Option (TypeId × TypeId):=match P.underlying t with | some (.map k e)=>some (k,e) | _=>none
def fF (P:Program) (t:TypeId):Bool:=(tD P t).isSome
def sR (P:Program) (ks:Bool) (t:TypeId):Bool:=match P.underlying t with | some (.int _)=>!ks | some .string=>ks | _=>false
def zar:Fn→Fn→Bool
 | .func f,.func g=>f == g
 | _,_=>false
def Yw (P:Program) (t:TypeId):Nat→Bool
 | 0=>(match P.underlying t with | some (.int _)=>true | _=>false)
 | 1=>rT P t
 | 2=>Yj P t
 | _=>false
def Hi (P:Program):List Nat→Nat→List Field→Bool
 | [],_,[]=>true
 | k :: ks,i,f :: r=>f.name != "_" && f.offset == i && okK P f.type none && Yw P f.type k && Hi P ks (i + 1) r
 | _,_,_=>false
def zki (P:Program) (t:TypeId) (ks:List Nat):Bool:=match P.underlying t with
 | some (.struct fs)=>!P.stoodInHeld t && !P.eqGuardType P.depth t && Hi P ks 0 fs.toList
 | _=>false
def okV (P:Program):Op→AOp→Bool
 | .move x,.mov y=>dL x y
 | .assign x,.mov y=>dL x y
 | .pick c a b,.pick c' a' b'=>dL c c' && dL a a' && dL b b'
 | .build t ps,.build z qs=>(match mQ P t,uV P t with
  | some zs,some fs=>mJ z zs && wW P fs ps.toList qs && fs.all (fun f=>(fP P f.type).isSome)
  | _,_=>false)
 | .load t x,.load k _ y=>dL x y && okK P t k
 | .load t x,.loadL k _ y=>dL x y && okK P t k
 | .load t x,.loadB _ k y=>dL x y && okK P t k
 | .load t x,.loadE k y=>dL x y && okK P t k
 | .load t x,.loadP k y=>dL x y && okK P t k
 | .load t x,.loadG k y=>dL x y && okK P t k
 | .nilCheck x,.nilCheck y=>dL x y
 | .binOp op _ x y _,.bin op' x' y'=>xE op op' && dL x x' && dL y y'
 | .binOp op t x y _,.binB op' x' y'=>xE op op' && dL x x' && dL y y' && Yj P t
 | .binOp op t x (.const .nilIface) _,.isNil op' y=>xE op op' && dL x y && pF P t == some true
 | .binOp op t x (.const (.pointer none)) _,.isNilP op' y=>xE op op' && dL x y && zyl P t
 | .typeAssert x _ t true,.assertT t' z y=>t == t' && dL x y && pF P t == some false && (match (P.info? t).bind (·.zero) with | some zv=>gV z zv | none=>false)
 | .unOp op _ x,.un op' y=>zgdb op op' && dL x y
 | .convert s t x,.toInt k y=>dL x y && Bl P t == some k && (P.underlying s).isSome
 | .convert s t x,.toStr y=>dL x y && rT P t && (P.underlying s).isSome
 | .convert s t x,.runeStr y=>dL x y && rT P t && (match P.underlying s with | some (.int _)=>true | _=>false)
 | .convert s t x,.bytesToStr y=>dL x y && rT P t && (match jI P s with | some e=>Bl P e == some .u8 | none=>false)
 | .makeInterface t x,.mkIface t' y=>t == t' && dL x y && pF P t == some false
 | .makeFunc f as bs,.mkFunc f' as' bs'=>zar f f' && oO as.toList as' && oO bs.toList bs'
 | .slice t x lo hi none,.slice sz x' lo' hi'=>dL x x' && uB lo lo' && uB hi hi' && (match jI P t with | some e=>fP P e == some sz | none=>false)
 | .binOp op t x (.const (.slice none 0 0)) _,.isNilS op' y=>xE op op' && dL x y && (jI P t).isSome
 | .binOp op t x (.const (.map none)) _,.isNilM op' y=>xE op op' && dL x y && fF P t
 | .lookup t x i ok,.lookup ks z ok' x' i'=>dL x x' && dL i i' && ok == ok' && (match tD P t with | some (kt,el)=>sR P ks kt && (match (P.info? el).bind (·.zero) with | some zv=>gV z zv | none=>false) | none=>false)
 | .call {callee:=.builtin .len,args:=⟨[x]⟩,argTypes:=⟨[t]⟩},.lenM y=>dL x y && fF P t
 | .call {callee:=.builtin .min,args:=⟨[x,y]⟩,..},.mm false x' y'=>dL x x' && dL y y'
 | .call {callee:=.builtin .max,args:=⟨[x,y]⟩,..},.mm true x' y'=>dL x x' && dL y y'
 | .slice t x lo hi none,.sliceS x' lo' hi'=>dL x x' && uB lo lo' && uB hi hi' && rT P t
 | .fieldAddr t x i,.fieldAddr off k y=>dL x y && (match uV P t with
  | some fs=>(match fs[i]? with | some f=>f.offset == off && okK P f.type k && fP P f.type != some 0 | none=>false)
  | none=>false)
 | .field t x i,.field off k y=>dL x y && (match uV P t with
  | some fs=>(match fs[i]? with | some f=>f.offset == off && okK P f.type k | none=>false)
  | none=>false)
 | .indexAddr t x i,.indexAddr sz x' i'=>dL x x' && dL i i' && (match jI P t with | some e=>fP P e == some sz | none=>false)
 | .index t x i,.index x' i'=>dL x x' && dL i i' && rT P t
 | .extract x i,.extract y i'=>dL x y && i == i'
 | .call {callee:=.builtin .len,args:=⟨[x]⟩,argTypes:=⟨[t]⟩},.len y=>dL x y && (jI P t).isSome
 | .call {callee:=.builtin .len,args:=⟨[x]⟩,argTypes:=⟨[t]⟩},.lenS y=>dL x y && rT P t
 | .binOp op t x y _,.eqA op' ks x' y'=>xE op op' && dL x x' && dL y y' && zki P t ks
 | _,_=>false
def eG (ι:Imm) (j lb:Lay):Val→Value→Prop
 | .c c,x=>Rep ι j c.d x
 | .l b off,x=>∃ B,lb b=some B∧x=.pointer (some ⟨B,off,none⟩)
section
variable [LoopKit] {P:Program} {ι:Imm} {j:Lay} {own:Own} {lb:Lay} {N:Nat} {e:Env} {a:Go.Act} {w:World} {σ:Store}
theorem zk8 (hL:LSim ι j own lb N e a w) {o:Oper} {x:Operand} {y:AOpd} (ho:o.op=.move x∨o.op=.assign x) (hk:dL x y=true) {v:Val} (h:dO (.mov y) e σ=some v) :
  ∃ u,(execOp a.eval o).run P w=.ok (.value u) w∧eG ι j lb v u:=by
 simp only [dO] at h
 obtain ⟨c,h1,h2⟩:=dC h
 cases h2
 refine ⟨a.eval x,?_,dT hL hk h1⟩
 rcases ho with ho | ho <;> simp only [execOp,ho,Sem.run_pure]
theorem zze (hL:LSim ι j own lb N e a w) {o:Oper} {x y z:Operand} {x' y' z':AOpd} (ho:o.op=.pick x y z) (hk:dL x x'=true) (hk1:dL y y'=true) (hk2:dL z z'=true) {v:Val}
  (h:dO (.pick x' y' z') e σ=some v):∃ u,(execOp a.eval o).run P w=.ok (.value u) w∧eG ι j lb v u:=by
 simp only [dO] at h
 obtain ⟨c,h1,h⟩:=dC h
 obtain ⟨t,h2,h⟩:=dC h
 obtain ⟨c',h3,h⟩:=dC h
 cases h
 have hr:=dT hL hk h1
 have hb:a.eval x=.bool t:=by
  cases hd:c.d <;> rw [hd] at h2 <;> simp only [D.bool?,reduceCtorEq,aA] at h2
  subst h2
  rw [hd] at hr
  simpa only [Rep] using hr
 refine ⟨if t then a.eval y else a.eval z,?_,?_⟩
 ·simp only [execOp,ho,hb,asBool,Sem.run_bind,Sem.run_pure,Result.andThen_ok]
 ·cases t with
  | true=>rw [dJ] at h3; exact dT (c:=c') hL hk1 h3
  | false=>rw [dH] at h3; exact dT (c:=c') hL hk2 h3
theorem uP (hG:GSim ι j own σ w) (hL:LSim ι j own lb N e a w) {o:Oper} {t:TypeId} {x:Operand} {y:AOpd} {k:Option Nat} {mv:Bool} (ho:o.op=.load t x) (hk:dL x y=true) (hk1:okK P t k=true) {v:Val}
  (h:dO (.load k mv y) e σ=some v):∃ u,(execOp a.eval o).run P w=.ok (.value u) w∧eG ι j lb v u:=by
 have fin:∀ {b off:Nat} {u:Value},a.eval x=.pointer (some ⟨b,off,none⟩)→(loadVar t ⟨b,off,none⟩).run P w=.ok u w→(execOp a.eval o).run P w=.ok (.value u) w:=by
  intro b off u h1 h2
  simp only [execOp,ho,h1,Instr.loadAt,Instr.sureAddr,Sem.run_bind,Sem.run_pure,Result.andThen_ok,h2]
 simp only [dO] at h
 obtain ⟨p,hp,h⟩:=dC h
 have hr:=nK hL hk hp
 cases p with
 | loc b off =>
  obtain ⟨B,hB,hx⟩:=hr
  obtain ⟨cs,h1,h⟩:=dC h
  obtain ⟨c,h2,h⟩:=dC h
  cases h
  obtain ⟨B',hB',_,hbox⟩:=hL.boxes b cs h1
  rw [hB] at hB'
  cases hB'
  obtain ⟨u,hu,hru,_⟩:=nP hbox hk1 h2
  exact ⟨u,fin hx hu,hru⟩
 | ptr id off =>
  obtain ⟨B,hB,hx⟩:=hr
  obtain ⟨cs,h1,h⟩:=dC h
  obtain ⟨c,h2,h⟩:=dC h
  cases h
  obtain ⟨B',hB',_,hbox⟩:=hG.objs id cs h1
  rw [hB] at hB'
  cases hB'
  obtain ⟨u,hu,hru,_⟩:=nP hbox hk1 h2
  exact ⟨u,fin hx hu,hru⟩
 | eptr d =>
  obtain ⟨b,off,u,hx,hat,hd⟩:=hr
  have hc:∀ i x,u.cells[i]?=some x→w.cell? ⟨b,off + i,none⟩=some x:=fun i x hi=>hG.holds _ _ _ (hat i x hi)
  cases k with
  | none =>
   obtain ⟨h1,h⟩:=dN h
   cases h
   exact ⟨u,fin hx (qH hk1 b off hc (hd.oneCell h1).2),hd⟩
  | some n =>
   obtain ⟨cs,h1,h⟩:=dC h
   obtain ⟨h2,h⟩:=dN h
   cases h
   simp only [beq_iff_eq] at h2
   refine ⟨u,fin hx (qH hk1 b off hc ?_),hd⟩
   cases d <;> simp only [D.agg?,reduceCtorEq,aA] at h1
   subst h1
   simp only [Rep] at hd
   obtain ⟨vs,rfl,hl,_⟩:=hd
   exact ⟨vs,rfl,by rw [hl.length]; exact h2⟩
theorem zk9 (hL:LSim ι j own lb N e a w) {o:Oper} {x:Operand} {y:AOpd} (ho:o.op=.nilCheck x) (hk:dL x y=true) {v:Val} (h:dO (.nilCheck y) e σ=some v) :
  ∃ u,(execOp a.eval o).run P w=.ok (.value u) w∧eG ι j lb v u:=by
 simp only [dO] at h
 obtain ⟨p,hp,h⟩:=dC h
 have hr:=nK hL hk hp
 cases p with
 | loc b off =>
  cases h
  obtain ⟨B,hB,hx⟩:=hr
  exact ⟨.pointer (some ⟨B,off,none⟩),by simp only [execOp,ho,hx,Sem.run_pure],B,hB,rfl⟩
 | ptr id off =>
  cases h
  obtain ⟨B,hB,hx⟩:=hr
  exact ⟨.pointer (some ⟨B,off,none⟩),by simp only [execOp,ho,hx,Sem.run_pure],by simp only [eG,Rep]; exact ⟨B,hB,rfl⟩⟩
 | eptr d =>
  cases h
  obtain ⟨b,off,u,hx,hat,hd⟩:=hr
  exact ⟨.pointer (some ⟨b,off,none⟩),by simp only [execOp,ho,hx,Sem.run_pure],by simp only [eG,Rep]; exact ⟨b,off,u,rfl,hat,hd⟩⟩
theorem zls (op:BinOp) (t:TypeId) (x y:Operand) (k k':IntKind) (m n:Int):eqGuard op t x y (.int k m) (.int k' n)=pure ():=by
 unfold eqGuard; cases op <;> rfl
theorem zlt (op:BinOp) (t:TypeId) (x y:Operand) (m n:ByteArray):eqGuard op t x y (.string m) (.string n)=pure ():=by
 unfold eqGuard; cases op <;> rfl
theorem zi1 (op:BinOp) (t:TypeId) (x y:Operand) (m n:Bool):eqGuard op t x y (.bool m) (.bool n)=pure ():=by
 unfold eqGuard; cases op <;> rfl
def vOf:D→Value
 | .int k n=>.int k n
 | .bool b=>.bool b
 | .str s=>.string ⟨⟨s⟩⟩
 | _=>Go.undef
theorem zpv {op:BinOp} {k:IntKind} {m n:Int} {d:D} (h:nA op k m n=some d) (t:TypeId):(binOp op t (.int k m) (.int k n)).run P w=.ok (vOf d) w∧Rep ι j d (vOf d):=by
 cases op
 case quo =>
  simp only [nA] at h
  obtain ⟨h1,h⟩:=dN' h
  have h1':n≠0:=by intro e; subst e; simp at h1
  cases h
  exact ⟨by simp [binOp,Op.intDiv,h1',vOf],by simp only [Rep,vOf]⟩
 case rem =>
  simp only [nA] at h
  obtain ⟨h1,h⟩:=dN' h
  have h1':n≠0:=by intro e; subst e; simp at h1
  cases h
  exact ⟨by simp [binOp,Op.intDiv,h1',vOf],by simp only [Rep,vOf]⟩
 all_goals simp only [nA,reduceCtorEq,aA] at h
 all_goals subst h
 all_goals exact ⟨by simp [binOp,Op.intArith,Op.intCmp,vOf],by simp only [Rep,vOf]⟩
theorem zpw {op:BinOp} {m n:List UInt8} {d:D} (h:rD op m n=some d) (t:TypeId):(binOp op t (.string ⟨⟨m⟩⟩) (.string ⟨⟨n⟩⟩)).run P w=.ok (vOf d) w∧Rep ι j d (vOf d):=by
 cases op
 case add =>
  simp only [rD] at h
  obtain ⟨h1,h⟩:=dN h
  cases h
  simp only [cE] at h1
  have h2:¬ (((⟨⟨m⟩⟩:ByteArray).size + (⟨⟨n⟩⟩:ByteArray).size:Nat):Int) > IntKind.i64.max:=by
   show ¬ ((m.length + n.length:Nat):Int) > 9223372036854775807
   omega
  have h3:(⟨⟨m⟩⟩ ++ ⟨⟨n⟩⟩:ByteArray)=⟨⟨m ++ n⟩⟩:=by
   apply ByteArray.ext
   apply Array.ext'
   simp
  refine ⟨?_,by simp only [Rep,vOf]⟩
  simp only [binOp,Op.stringOp]
  rw [if_neg h2,h3]
  rfl
 all_goals simp only [rD,reduceCtorEq,aA] at h
 all_goals subst h
 all_goals exact ⟨by simp [binOp,Op.stringOp,vOf],by simp only [Rep,vOf]⟩
theorem zeeb (hL:LSim ι j own lb N e a w) {o:Oper} {op:BinOp} {t u:TypeId} {x y:Operand} {x' y':AOpd} (ho:o.op=.binOp op t x y u) (hk:dL x x'=true) (hk1:dL y y'=true) {v:Val}
  (h:dO (.bin op x' y') e σ=some v):∃ u,(execOp a.eval o).run P w=.ok (.value u) w∧eG ι j lb v u:=by
 simp only [dO] at h
 obtain ⟨c,h1,h⟩:=dC h
 obtain ⟨c',h2,h⟩:=dC h
 obtain ⟨d,h3,h⟩:=dC h
 cases h
 have r1:=dT hL hk h1
 have r2:=dT hL hk1 h2
 revert h3 r1 r2
 generalize c.d=d1
 generalize c'.d=d2
 intro h3 r1 r2
 unfold zii at h3
 split at h3
 ·obtain ⟨hkk,h4⟩:=dN h3
  have hkk:=Gf hkk
  subst hkk
  simp only [Rep] at r1 r2
  obtain ⟨hz,hr⟩:=zpv (P:=P) (w:=w) (ι:=ι) (j:=j) h4 t
  exact ⟨vOf d,by simp only [execOp,ho,r1,r2,zls,Sem.run_bind,Sem.run_pure,Result.andThen_ok,hz],hr⟩
 ·simp only [Rep] at r1 r2
  obtain ⟨hz,hr⟩:=zpw (P:=P) (w:=w) (ι:=ι) (j:=j) h3 t
  exact ⟨vOf d,by simp only [execOp,ho,r1,r2,zlt,Sem.run_bind,Sem.run_pure,Result.andThen_ok,hz],hr⟩
 ·cases h3
theorem Hn {t:TypeId} (ht:P.underlying t=some .bool) (p q:Bool):(Op.equal t (.bool p) (.bool q)).run P w=.ok (p == q) w:=by
 show (Op.equalIn (9999 + 1) t (.bool p) (.bool q)).run P w=_
 rw [Op.equalIn]
 simp only [Sem.run_bind,run_underlying ht,Result.andThen_ok]
 rfl
theorem zlh {op:BinOp} {p q:Bool} {d:D} (h:Ah op p q=some d) {t:TypeId} (ht:P.underlying t=some .bool):(binOp op t (.bool p) (.bool q)).run P w=.ok (vOf d) w∧Rep ι j d (vOf d):=by
 cases op <;> simp only [Ah,reduceCtorEq,aA] at h
 ·subst h
  have:binOp .eql t (.bool p) (.bool q)=(do pure (.bool (← Op.equal t (.bool p) (.bool q)))):=rfl
  exact ⟨by rw [this]; simp only [Sem.run_bind,Hn ht,Result.andThen_ok,Sem.run_pure,vOf],by simp only [Rep,vOf]⟩
 ·subst h
  have:binOp .neq t (.bool p) (.bool q)=(do pure (.bool (!(← Op.equal t (.bool p) (.bool q))))):=rfl
  exact ⟨by rw [this]; simp only [Sem.run_bind,Hn ht,Result.andThen_ok,Sem.run_pure,vOf],by simp only [Rep,vOf]⟩
theorem zzb (hL:LSim ι j own lb N e a w) {o:Oper} {op:BinOp} {t u:TypeId} {x y:Operand} {x' y':AOpd} (ho:o.op=.binOp op t x y u) (hk:dL x x'=true) (hk1:dL y y'=true) (ht:Yj P t=true) {v:Val}
  (h:dO (.binB op x' y') e σ=some v):∃ u,(execOp a.eval o).run P w=.ok (.value u) w∧eG ι j lb v u:=by
 have ht:P.underlying t=some .bool:=by
  unfold Yj at ht
  split at ht
  ·assumption
  ·cases ht
 simp only [dO] at h
 obtain ⟨c,h1,h⟩:=dC h
 obtain ⟨c',h2,h⟩:=dC h
 obtain ⟨d,h3,h⟩:=dC h
 cases h
 have r1:=dT hL hk h1
 have r2:=dT hL hk1 h2
 revert h3 r1 r2
 generalize c.d=d1
 generalize c'.d=d2
 intro h3 r1 r2
 unfold zg1 at h3
 split at h3
 ·rename_i p q
  simp only [Rep] at r1 r2
  obtain ⟨hz,hr⟩:=zlh (P:=P) (w:=w) (ι:=ι) (j:=j) h3 ht
  exact ⟨vOf d,by simp only [execOp,ho,r1,r2,zi1,Sem.run_bind,Sem.run_pure,Result.andThen_ok,hz],hr⟩
 ·cases h3
theorem zecb {op:UnOp} {d1 d:D} (h:unD op d1=some d) {u:Value} (hr:Rep ι j d1 u):(Op.unary op u).run P w=.ok (vOf d) w∧Rep ι j d (vOf d):=by
 unfold unD at h
 split at h
 ·rename_i b
  cases h
  simp only [Rep] at hr
  subst hr
  exact ⟨rfl,by simp only [Rep,vOf]⟩
 ·rename_i k n
  cases h
  simp only [Rep] at hr
  subst hr
  exact ⟨rfl,by simp only [Rep,vOf]⟩
 ·cases h
theorem zgsb (hL:LSim ι j own lb N e a w) {o:Oper} {op:UnOp} {t:TypeId} {x:Operand} {x':AOpd} (ho:o.op=.unOp op t x) (hk:dL x x'=true) {v:Val}
  (h:dO (.un op x') e σ=some v):∃ u,(execOp a.eval o).run P w=.ok (.value u) w∧eG ι j lb v u:=by
 simp only [dO] at h
 obtain ⟨c,h1,h⟩:=dC h
 obtain ⟨d,h3,h⟩:=dC h
 cases h
 obtain ⟨hz,hr⟩:=zecb (P:=P) (w:=w) h3 (dT hL hk h1)
 exact ⟨vOf d,by simp only [execOp,ho,hz,Sem.run_bind,Sem.run_pure,Result.andThen_ok],hr⟩
end
end Go.Mx

/-
 What the operations of the small machine do,the model's operations do: one by one.
-/
import Derived.Test.YtldfbnbckiifeaaGreatDoorMySim
set_option linter.unusedSimpArgs false
set_option linter.unusedVariables false
set_option linter.unusedSectionVars false
namespace Go.Mx
open Go
/-! ### The fit of an operation: what the generator printed is what the program has -/
def zgt (b:Bool):Value→Bool
 | .bool b'=>b == b'
 | _=>false
def zns (k:IntKind) (n:Int):Value→Bool
 | .int k' n'=>gQ k k' && n == n'
 | _=>false
def znz (s:List UInt8):Value→Bool
 | .string b=>s == b.data.toList
 | _=>false
def Fz:Value→Bool
 | .slice a n c=>a.isNone && n == 0 && c == 0
 | _=>false
def Rx:Value→Bool
 | .pointer a=>a.isNone
 | _=>false
def zab:Value→Bool
 | .nilFunc=>true
 | _=>false
def Rw:Value→Bool
 | .map none=>true
 | _=>false
def Fv:Value→Bool
 | .nilIface=>true
 | _=>false
def znr (f:FuncId):Value→Bool
 | .func (.func f') a b=>f == f' && a.size == 0 && b.size == 0
 | _=>false
def zej:Value→Option (List Value)
 | .agg vs=>some vs.toList
 | _=>none
mutual
def dM:D→Value→Bool
 | .bool b,v=>zgt b v
 | .int k n,v=>zns k n v
 | .str s,v=>znz s v
 | .nils,v=>Fz v
 | .nilp,v=>Rx v
 | .nilfn,v=>zab v
 | .niliface,v=>Fv v
 | .nilmap,v=>Rw v
 | .fn (.func f) a b,v=>znr f v && a.isEmpty && b.isEmpty
 | .agg cs,v=>bT (zej v) false fun vs=>jM cs vs
 | _,_=>false
def jM:List D→List Value→Bool
 | [],vs=>vs.isEmpty
 | d :: ds,vs=>bT vs.head? false fun v=>d.one && dM d v && jM ds vs.tail
end
def aH:Operand→AOpd→Bool
 | .tmp t,.tmp s=>t == s
 | .tmp t,.mv s=>t == s
 | .const v,.const d=>dM d v
 | .func f,.const (.fn (.func f') [] [])=>f == f'
 | _,_=>false
def lQ:List Operand→List AOpd→Bool
 | [],[]=>true
 | x :: l,y :: r=>aH x y && lQ l r
 | _,_=>false
theorem Bz {k k':IntKind} (h:gQ k k'=true):k=k':=by
 cases k <;> cases k' <;> first | rfl | cases h
theorem Rep.oneCell {ι:Imm} {j:Lay} {d:D} {v:Value} (h:Rep ι j d v) (ho:d.one=true):v.oneCell'=true∧v.cells=#[v]:=by
 cases d <;> simp only [D.one,Bool.false_eq_true] at ho <;> simp only [Rep] at h <;> first
  | (subst h; exact ⟨rfl,rfl⟩)
  | (obtain ⟨_,_,rfl,_⟩:=h; exact ⟨rfl,rfl⟩)
  | (obtain ⟨_,_,rfl⟩:=h; exact ⟨rfl,rfl⟩)
  | (obtain ⟨_,_,_,rfl,_⟩:=h; exact ⟨rfl,rfl⟩)
  | (obtain ⟨_,rfl,_⟩:=h; exact ⟨rfl,rfl⟩)
  | (obtain ⟨_,rfl⟩:=h; exact ⟨rfl,rfl⟩)
  | (obtain ⟨_,_,_,_,_,_,rfl,_⟩:=h; exact ⟨rfl,rfl⟩)
theorem zrl {b:Bool} {v:Value} (h:zgt b v=true):v=.bool b:=by
 cases v <;> simp only [zgt,Bool.false_eq_true] at h
 rw [eq_of_beq h]
theorem zue {k:IntKind} {n:Int} {v:Value} (h:zns k n v=true):v=.int k n:=by
 cases v <;> simp only [zns,Bool.false_eq_true,Bool.and_eq_true] at h
 rw [Bz h.1,eq_of_beq h.2]
theorem zuf {s:List UInt8} {v:Value} (h:znz s v=true):v=.string ⟨⟨s⟩⟩:=by
 cases v <;> simp only [znz,Bool.false_eq_true] at h
 rw [eq_of_beq h]
theorem zcg {v:Value} (h:Fz v=true):v=.slice none 0 0:=by
 cases v <;> simp only [Fz,Bool.false_eq_true,Bool.and_eq_true,Option.isNone_iff_eq_none,beq_iff_eq] at h
 obtain ⟨⟨rfl,rfl⟩,rfl⟩:=h
 rfl
theorem zjh {v:Value} (h:Rx v=true):v=.pointer none:=by
 cases v <;> simp only [Rx,Bool.false_eq_true,Option.isNone_iff_eq_none] at h
 rw [h]
theorem znt {v:Value} (h:zab v=true):v=.nilFunc:=by
 cases v <;> simp only [zab,Bool.false_eq_true] at h
 rfl
theorem zjf {v:Value} (h:Rw v=true):v=.map none:=by
 unfold Rw at h
 split at h
 ·rfl
 ·cases h
theorem zcf {v:Value} (h:Fv v=true):v=.nilIface:=by
 cases v <;> simp only [Fv,Bool.false_eq_true] at h
 rfl
theorem zy4 {f:FuncId} {v:Value} (h:znr f v=true):v=.func (.func f) ⟨[]⟩ ⟨[]⟩:=by
 cases v with
 | func g a b =>
  cases g <;> simp only [znr,Bool.false_eq_true,Bool.and_eq_true,beq_iff_eq] at h
  obtain ⟨⟨rfl,h1⟩,h2⟩:=h
  obtain ⟨a⟩:=a
  obtain ⟨b⟩:=b
  simp only [List.size_toArray,List.length_eq_zero_iff] at h1 h2
  subst h1 h2
  rfl
 | _=>simp only [znr,Bool.false_eq_true] at h
theorem zth {v:Value} {vs:List Value} (h:zej v=some vs):v=.agg ⟨vs⟩:=by
 cases v <;> simp only [zej,reduceCtorEq,Option.some.injEq] at h
 subst h
 rfl
section
variable (ι:Imm) (j:Lay)
mutual
theorem qW:∀ (d:D) (v:Value),dM d v=true→Rep ι j d v
 | .bool b,v,h=>by simp only [dM] at h; simp only [Rep]; exact zrl h
 | .int k n,v,h=>by simp only [dM] at h; simp only [Rep]; exact zue h
 | .str s,v,h=>by simp only [dM] at h; simp only [Rep]; exact zuf h
 | .nils,v,h=>by simp only [dM] at h; simp only [Rep]; exact zcg h
 | .nilp,v,h=>by simp only [dM] at h; simp only [Rep]; exact zjh h
 | .nilfn,v,h=>by simp only [dM] at h; simp only [Rep]; exact znt h
 | .niliface,v,h=>by simp only [dM] at h; simp only [Rep]; exact zcf h
 | .nilmap,v,h=>by simp only [dM] at h; simp only [Rep]; exact zjf h
 | .fn (.func f) a b,v,h=>by
  simp only [dM,Bool.and_eq_true,List.isEmpty_iff] at h
  obtain ⟨⟨h,rfl⟩,rfl⟩:=h
  simp only [Rep]
  exact ⟨[],[],zy4 h,by simp only [aI],by simp only [aI]⟩
 | .agg cs,v,h=>by
  simp only [dM] at h
  cases hv:zej v with
  | none=>rw [hv] at h; cases h
  | some vs =>
   rw [hv,aF] at h
   simp only [Rep]
   obtain ⟨h1,h2⟩:=kL cs vs h
   exact ⟨vs,zth hv,h1,h2⟩
 | .undef,v,h=>by simp only [dM,Bool.false_eq_true] at h
 | .list _ _,v,h=>by simp only [dM,Bool.false_eq_true] at h
 | .tup _,v,h=>by simp only [dM,Bool.false_eq_true] at h
 | .ptr _ _,v,h=>by simp only [dM,Bool.false_eq_true] at h
 | .eptr _,v,h=>by simp only [dM,Bool.false_eq_true] at h
 | .iface _ _,v,h=>by simp only [dM,Bool.false_eq_true] at h
 | .fn (.method _) _ _,v,h=>by simp only [dM,Bool.false_eq_true] at h
 | .fn (.methodOf _ _) _ _,v,h=>by simp only [dM,Bool.false_eq_true] at h
 | .fn (.via _ _ _ _) _ _,v,h=>by simp only [dM,Bool.false_eq_true] at h
 | .fn (.yield _) _ _,v,h=>by simp only [dM,Bool.false_eq_true] at h
theorem kL:∀ (ds:List D) (vs:List Value),jM ds vs=true→aI ι j ds vs∧∀ x∈vs,x.oneCell'=true
 | [],vs,h=>by
  simp only [jM,List.isEmpty_iff] at h
  subst h
  exact ⟨by simp only [aI],by simp⟩
 | d :: ds,vs,h=>by
  simp only [jM] at h
  cases vs with
  | nil=>cases h
  | cons v vs =>
   simp only [List.head?_cons,aF,List.tail_cons,Bool.and_eq_true] at h
   obtain ⟨⟨h0,h1⟩,h2⟩:=h
   obtain ⟨k1,k2⟩:=kL ds vs h2
   have hr:=qW d v h1
   refine ⟨by simp only [aI]; exact ⟨v,vs,rfl,hr,k1⟩,?_⟩
   intro x hx
   rcases List.mem_cons.1 hx with rfl | hx
   ·exact (hr.oneCell h0).1
   ·exact k2 x hx
end
end
theorem aI.length {ι:Imm} {j:Lay}:∀ {ds:List D} {vs:List Value},aI ι j ds vs→vs.length=ds.length
 | [],vs,h=>by simp only [aI] at h; subst h; rfl
 | d :: ds,vs,h=>by
  simp only [aI] at h
  obtain ⟨x,r,rfl,_,h⟩:=h
  simp [aI.length h]
theorem aI.at {ι:Imm} {j:Lay}:∀ {ds:List D} {vs:List Value},aI ι j ds vs→∀ (i:Nat) (d:D),ds[i]?=some d→∃ v,vs[i]?=some v∧Rep ι j d v
 | [],_,_,i,d,hi=>by simp at hi
 | d :: ds,vs,h,i,d',hi=>by
  simp only [aI] at h
  obtain ⟨x,r,rfl,h1,h2⟩:=h
  cases i with
  | zero=>simp at hi; subst hi; exact ⟨x,rfl,h1⟩
  | succ i=>simp at hi; simpa using aI.at h2 i d' hi
theorem aI.of {ι:Imm} {j:Lay}:∀ {ds:List D} {vs:List Value},vs.length=ds.length→(∀ (i:Nat) (d:D),ds[i]?=some d→∃ v,vs[i]?=some v∧Rep ι j d v)→aI ι j ds vs
 | [],vs,h,_=>by simp only [aI]; exact List.eq_nil_of_length_eq_zero (by simpa using h)
 | d :: ds,[],h,_=>by simp at h
 | d :: ds,v :: vs,h,k=>by
  simp only [aI]
  obtain ⟨x,hx,hr⟩:=k 0 d rfl
  simp at hx
  subst hx
  exact ⟨v,vs,rfl,hr,aI.of (by simpa using h) fun i d' hi=>by simpa using k (i + 1) d' (by simpa using hi)⟩
theorem aI.append {ι:Imm} {j:Lay}:∀ {a:List D} {va:List Value} {b:List D} {vb:List Value},aI ι j a va→aI ι j b vb→aI ι j (a ++ b) (va ++ vb)
 | [],va,b,vb,h,k=>by simp only [aI] at h; subst h; simpa using k
 | d :: a,va,b,vb,h,k=>by
  simp only [aI] at h
  obtain ⟨x,r,rfl,h1,h2⟩:=h
  simp only [List.cons_append,aI]
  exact ⟨x,r ++ vb,rfl,h1,aI.append h2 k⟩
theorem Rep.cellsRel {ι:Imm} {j:Lay} {d:D} {v:Value} (h:Rep ι j d v) (hok:d.ok=true):aI ι j d.cells v.cells.toList∧∀ x∈v.cells.toList,x.oneCell'=true:=by
 cases hd:d.one with
 | true =>
  obtain ⟨h1,h2⟩:=h.oneCell hd
  have:d.cells=[d]:=by cases d <;> simp only [D.one,Bool.false_eq_true] at hd <;> rfl
  rw [this,h2]
  exact ⟨by simp only [aI]; exact ⟨v,[],rfl,h,rfl⟩,by simpa using h1⟩
 | false =>
  cases d <;> simp only [D.one,D.ok,Bool.false_eq_true,Bool.true_eq_false] at hd hok
  simp only [Rep] at h
  obtain ⟨vs,rfl,h1,h2⟩:=h
  exact ⟨h1,h2⟩
theorem Rep.cellsSize {ι:Imm} {j:Lay} {d:D} {v:Value} (h:Rep ι j d v) (hok:d.ok=true):v.cells.size=d.cells.length:=by
 have:=aI.length (h.cellsRel hok).1
 simpa using this
/-! ### Operands -/
section
variable [LoopKit] {ι:Imm} {j:Lay} {own:Own} {lb:Lay} {N:Nat} {e:Env} {a:Go.Act} {w:World}
theorem aP (hL:LSim ι j own lb N e a w) {x:Operand} {y:AOpd} (hk:aH x y=true) {c:Cell} (h:opd e y=some c):Rep ι j c.d (a.eval x):=by
 cases y with
 | tmp s =>
  cases x <;> simp only [aH,Bool.false_eq_true] at hk
  rw [eq_of_beq hk]
  simp only [opd] at h
  obtain ⟨c',h1,h2⟩:=aA h
  cases h2
  exact (hL.slots s c' h1).1
 | mv s =>
  cases x <;> simp only [aH,Bool.false_eq_true] at hk
  rw [eq_of_beq hk]
  exact (hL.slots s c h).1
 | const d =>
  simp only [opd] at h
  cases h
  cases x with
  | tmp t=>simp only [aH,Bool.false_eq_true] at hk
  | global g=>simp only [aH,Bool.false_eq_true] at hk
  | const v=>simp only [aH] at hk; exact qW ι j d v hk
  | func f =>
   cases d <;> simp only [aH,Bool.false_eq_true] at hk
   rename_i g a' b'
   cases g <;> cases a' <;> cases b' <;> simp only [aH,Bool.false_eq_true] at hk
   simp only [Rep,Act.eval]
   exact ⟨[],[],by rw [eq_of_beq hk],rfl,rfl⟩
theorem mR (hL:LSim ι j own lb N e a w):∀ {xs:List Operand} {ys:List AOpd} (_:lQ xs ys=true) {ds:List D},jC e ys=some ds→aI ι j ds (xs.map a.eval)
 | [],[],_,ds,h=>by simp only [jC] at h; cases h; simp only [aI,List.map_nil]
 | [],_ :: _,hk,_,_=>by simp only [lQ,Bool.false_eq_true] at hk
 | _ :: _,[],hk,_,_=>by simp only [lQ,Bool.false_eq_true] at hk
 | x :: xs,y :: ys,hk,ds,h=>by
  simp only [lQ,Bool.and_eq_true] at hk
  simp only [jC] at h
  obtain ⟨c,h1,h⟩:=aA h
  obtain ⟨ds',h2,h⟩:=aA h
  cases h
  simp only [aI,List.map_cons]
  exact ⟨_,_,rfl,aP hL hk.1 h1,mR hL hk.2 h2⟩
def Uo (ι:Imm) (j lb:Lay):Ptr→Value→Prop
 | .loc b off,v=>∃ B,lb b=some B∧v=.pointer (some ⟨B,off,none⟩)
 | .ptr id off,v=>∃ B,j id=some B∧v=.pointer (some ⟨B,off,none⟩)
 | .eptr d,v=>∃ b o x,v=.pointer (some ⟨b,o,none⟩)∧At ι b o x∧Rep ι j d x
theorem zbv {d:D} {p:Ptr} (h:pK d=some p) {v:Value} (hr:Rep ι j d v):Uo ι j lb p v:=by
 cases d <;> simp only [pK,reduceCtorEq,Option.some.injEq] at h <;> subst h <;> simpa only [Rep,Uo] using hr
theorem kR (hL:LSim ι j own lb N e a w) {x:Operand} {y:AOpd} (hk:aH x y=true) {p:Ptr} (h:eI e y=some p):Uo ι j lb p (a.eval x):=by
 have slot:∀ s,bT (aB e.locs s) (aC (aB e.slots s) fun c=>pK c.d) (fun p=>some (.loc p.1 p.2))=some p→Uo ι j lb p (a.tmps.getD s Go.undef):=by
  intro s h
  cases hl:aB e.locs s with
  | some q =>
   obtain ⟨b,off⟩:=q
   rw [hl] at h
   cases h
   exact hL.locs s b off hl
  | none =>
   rw [hl] at h
   obtain ⟨c,h1,h2⟩:=aA h
   exact zbv h2 (hL.slots s c h1).1
 cases y with
 | tmp s =>
  cases x <;> simp only [aH,Bool.false_eq_true] at hk
  rw [eq_of_beq hk]
  exact slot s h
 | mv s =>
  cases x <;> simp only [aH,Bool.false_eq_true] at hk
  rw [eq_of_beq hk]
  exact slot s h
 | const d =>
  simp only [eI] at h
  exact zbv h (aP hL hk (c:=⟨false,d⟩) rfl)
end
/-! ### The types' tables -/
def zmq (P:Program) (t:TypeId):Option Bool :=
 match P.underlying t with
 | some (.struct _)=>some true
 | some (.array _ _)=>some true
 | some _=>some false
 | none=>none
def cB (P:Program) (t:TypeId):Option Nat:=(P.info? t).map (·.size)
def okK (P:Program) (t:TypeId):Option Nat→Bool
 | none=>zmq P t == some false && cB P t == some 1
 | some n=>zmq P t == some true && cB P t == some n
def jR (P:Program) (t:TypeId):Option (List Value):=(P.info? t).bind fun i=>i.zero.map fun z=>z.cells.toList
def sB (P:Program) (t:TypeId):Option (List Field) :=
 match P.underlying t with
 | some (.struct fs)=>some fs.toList
 | _=>none
def eX (P:Program) (t:TypeId):Option TypeId :=
 match P.underlying t with
 | some (.slice e)=>some e
 | _=>none
section
variable {P:Program} {w:World}
theorem tH {t:TypeId} {b:Bool} (h:zmq P t=some b):(isAgg t).run P w=.ok b w:=by
 unfold zmq at h
 cases hu:P.underlying t with
 | none=>rw [hu] at h; cases h
 | some d =>
  rw [hu] at h
  simp only [isAgg,Sem.run_bind,run_underlying hu,Result.andThen_ok]
  cases d <;> simp only [Option.some.injEq] at h <;> subst h <;> rfl
theorem eZ {t:TypeId} {n:Nat} (h:cB P t=some n):(sizeOf t).run P w=.ok n w:=by
 unfold cB at h
 cases hi:P.info? t with
 | none=>rw [hi] at h; cases h
 | some i =>
  rw [hi] at h
  simp at h
  simp [sizeOf,typeInfo,hi,h]
theorem zj7 {t:TypeId} {z:List Value} (h:jR P t=some z):∃ v,(zeroValue t).run P w=.ok v w∧v.cells.toList=z:=by
 unfold jR at h
 cases hi:P.info? t with
 | none=>rw [hi] at h; cases h
 | some i =>
  rw [hi] at h
  cases hz:i.zero with
  | none=>rw [Option.bind_some,hz] at h; cases h
  | some v =>
   rw [Option.bind_some,hz] at h
   simp at h
   exact ⟨v,by simp [zeroValue,typeInfo,hi,hz],h⟩
theorem Fe {t:TypeId} {fs:List Field} (h:sB P t=some fs):P.underlying t=some (.struct ⟨fs⟩):=by
 unfold sB at h
 split at h
 ·rename_i fs' hu
  cases h
  exact hu
 ·cases h
theorem iD {t e:TypeId} (h:eX P t=some e):P.underlying t=some (.slice e):=by
 unfold eX at h
 split at h
 ·rename_i e' hu
  cases h
  exact hu
 ·cases h
/-! ### Reading -/
theorem nF {t:TypeId} {k:Option Nat} (hk:okK P t k=true) (b o:Nat) {v:Value}
  (hc:∀ i x,v.cells[i]?=some x→w.cell? ⟨b,o + i,none⟩=some x)
  (hv:match k with | none=>v.cells=#[v] | some n=>∃ vs,v=.agg ⟨vs⟩∧vs.length=n) :
  (loadVar t ⟨b,o,none⟩).run P w=.ok v w:=by
 cases k with
 | none =>
  simp only [okK,Bool.and_eq_true,beq_iff_eq] at hk
  have h0:=hc 0 v (by rw [hv]; rfl)
  simp only [Nat.add_zero] at h0
  simp only [loadVar,Sem.run_bind,tH hk.1,Result.andThen_ok,Bool.false_eq_true,if_false,run_load,h0]
 | some n =>
  simp only [okK,Bool.and_eq_true,beq_iff_eq] at hk
  obtain ⟨vs,rfl,hl⟩:=hv
  have hr:=run_loadCells_list (P:=P) w ⟨b,o,none⟩ vs (fun i x hx=>by rw [Addr.add_lit]; exact hc i x (by simpa [Value.cells] using hx))
  simp only [loadVar,Sem.run_bind,tH hk.1,Result.andThen_ok,if_true,eZ hk.2,← hl,hr]
  rfl
theorem Uj:∀ (cs:List Cell) (o n:Nat) (l:List D),iM cs o n=some l→l=((cs.drop o).take n).map (·.d)∧l.length=n
 | cs,0,0,l,h=>by simp only [iM,Option.some.injEq] at h; subst h; simp
 | [],0,n + 1,l,h=>by simp [iM] at h
 | [],o + 1,n,l,h=>by simp [iM] at h
 | c :: cs,0,n + 1,l,h=>by
  simp only [iM] at h
  obtain ⟨l',h1,h2⟩:=aA h
  cases h2
  obtain ⟨k1,k2⟩:=Uj cs 0 n l' h1
  simp only [List.drop_zero] at k1
  exact ⟨by simp [k1],by simp [k2]⟩
 | c :: cs,o + 1,n,l,h=>by
  have h':iM cs o n=some l:=by cases n <;> simpa only [iM] using h
  simpa using Uj cs o n l h'
variable [LoopKit] {ι:Imm} {j:Lay} {own:Own}
theorem kU {B:Nat} {mk:Nat→Tag} {cs:List Cell} (hb:iS ι j own w B mk cs) {t:TypeId} {k:Option Nat} (hk:okK P t k=true) {off:Nat} {c:Cell} (h:cA cs k off=some c) :
  ∃ v,(loadVar t ⟨B,off,none⟩).run P w=.ok v w∧Rep ι j c.d v∧(k=none→cs[off]?=some c∧v.oneCell'=true∧iT ι j own w (mk off) c v)∧(k≠none→c.own=false):=by
 obtain ⟨vs,T,h1,h2,h3⟩:=hb
 have hcell:∀ i x,vs[i]?=some x→w.cell? ⟨B,i,none⟩=some x:=fun i x hx=>by
  rw [cell_of_row w B i _ _ _ h1]; simpa using hx
 cases k with
 | none =>
  simp only [cA,vI] at h
  obtain ⟨v,hv,ho,hr⟩:=h3 off c h
  have hc1:v.cells=#[v]:=by cases v <;> simp [Value.oneCell'] at ho <;> rfl
  refine ⟨v,nF hk B off (v:=v) (fun i x hx=>?_) hc1,hr.1,fun _=>⟨h,ho,hr⟩,fun hne=>absurd rfl hne⟩
  rw [hc1] at hx
  cases i with
  | zero=>simp at hx; subst hx; exact hcell off v hv
  | succ i=>simp at hx
 | some n =>
  simp only [cA] at h
  obtain ⟨l,hl,he⟩:=aA h
  cases he
  obtain ⟨hl1,hl2⟩:=Uj cs off n l hl
  have hlen:((vs.drop off).take n).length=n:=by
   have:(((cs.drop off).take n).map (·.d)).length=n:=by rw [← hl1]; exact hl2
   simp only [List.length_map,List.length_take,List.length_drop] at this ⊢
   omega
  refine ⟨.agg ⟨(vs.drop off).take n⟩,nF hk B off (fun i x hx=>?_) ⟨_,rfl,hlen⟩,?_,fun hne=>(by cases hne),fun _=>rfl⟩
  ·simp only [Value.cells,List.getElem?_toArray,List.getElem?_take,List.getElem?_drop] at hx
   split at hx
   ·exact hcell (off + i) x hx
   ·cases hx
  ·simp only [Rep]
   refine ⟨_,rfl,aI.of (by rw [hlen,hl2]) (fun i d hi=>?_),fun x hx=>?_⟩
   ·rw [hl1,List.getElem?_map] at hi
    cases hq:((cs.drop off).take n)[i]? with
    | none=>rw [hq] at hi; cases hi
    | some c =>
     rw [hq] at hi
     simp at hi
     subst hi
     simp only [List.getElem?_take,List.getElem?_drop] at hq ⊢
     split at hq
     ·rename_i hin
      obtain ⟨v,hv,_,hr⟩:=h3 (off + i) c hq
      exact ⟨v,by rw [if_pos hin]; exact hv,hr.1⟩
     ·cases hq
   ·obtain ⟨i,hi⟩:=List.getElem?_of_mem hx
    simp only [List.getElem?_take,List.getElem?_drop] at hi
    split at hi
    ·have hlt:off + i < cs.length:=by
      rename_i hin
      have:(((cs.drop off).take n).map (·.d)).length=n:=by rw [← hl1]; exact hl2
      simp only [List.length_map,List.length_take,List.length_drop] at this
      omega
     obtain ⟨v,hv,ho,_⟩:=h3 (off + i) _ (List.getElem?_eq_getElem hlt)
     rw [hv] at hi
     cases hi
     exact ho
    ·cases hi
end
/-! ### The fit of the operations that yield a value -/
def uN (a b:BinOp):Bool:=decide (a=b)
def zchb (a b:UnOp):Bool:=decide (a=b)
def uG (P:Program) (fs:List Field):List (Nat × Operand)→List (Nat × Nat × AOpd)→Bool
 | [],[]=>true
 | (i,x) :: l,(off,n,y) :: r=>(match fs[i]? with
  | some f=>f.offset == off && cB P f.type == some n
  | none=>false) && aH x y && uG P fs l r
 | _,_=>false
def rF:Option Operand→Option AOpd→Bool
 | none,none=>true
 | some x,some y=>aH x y
 | _,_=>false
def pE (P:Program) (t:TypeId):Bool:=match P.underlying t with | some .string=>true | _=>false
def Va (P:Program) (t:TypeId):Bool:=match P.underlying t with | some .bool=>true | _=>false
def yP (P:Program) (t:TypeId):Option IntKind:=match P.underlying t with | some (.int k)=>some k | _=>none
def mH (P:Program) (t:TypeId):Option Bool:=match P.underlying t with | some (.interface _)=>some true | some _=>some false | none=>none
def zu9 (P:Program) (t:TypeId):Bool:=match P.underlying t with | some (.pointer _)=>true | _=>false
def qK (P:Program) (t:TypeId):Option (TypeId × TypeId):=match P.underlying t with | some (.map k e)=>some (k,e) | _=>none
def cJ (P:Program) (t:TypeId):Bool:=(qK P t).isSome
def pX (P:Program) (ks:Bool) (t:TypeId):Bool:=match P.underlying t with | some (.int _)=>!ks | some .string=>ks | _=>false
def Xr:Fn→Fn→Bool
 | .func f,.func g=>f == g
 | _,_=>false
def Vm (P:Program) (t:TypeId):Nat→Bool
 | 0=>(match P.underlying t with | some (.int _)=>true | _=>false)
 | 1=>pE P t
 | 2=>Va P t
 | _=>false
def Du (P:Program):List Nat→Nat→List Field→Bool
 | [],_,[]=>true
 | k :: ks,i,f :: r=>f.name != "_" && f.offset == i && okK P f.type none && Vm P f.type k && Du P ks (i + 1) r
 | _,_,_=>false
def zhv (P:Program) (t:TypeId) (ks:List Nat):Bool:=match P.underlying t with
 | some (.struct fs)=>!P.stoodInHeld t && !P.eqGuardType P.depth t && Du P ks 0 fs.toList
 | _=>false
def okV (P:Program):Op→AOp→Bool
 | .move x,.mov y=>aH x y
 | .assign x,.mov y=>aH x y
 | .pick c a b,.pick c' a' b'=>aH c c' && aH a a' && aH b b'
 | .build t ps,.build z qs=>(match jR P t,sB P t with
  | some zs,some fs=>jM z zs && uG P fs ps.toList qs && fs.all (fun f=>(cB P f.type).isSome)
  | _,_=>false)
 | .load t x,.load k _ y=>aH x y && okK P t k
 | .load t x,.loadL k _ y=>aH x y && okK P t k
 | .load t x,.loadB _ k y=>aH x y && okK P t k
 | .load t x,.loadE k y=>aH x y && okK P t k
 | .load t x,.loadP k y=>aH x y && okK P t k
 | .load t x,.loadG k y=>aH x y && okK P t k
 | .nilCheck x,.nilCheck y=>aH x y
 | .binOp op _ x y _,.bin op' x' y'=>uN op op' && aH x x' && aH y y'
 | .binOp op t x y _,.binB op' x' y'=>uN op op' && aH x x' && aH y y' && Va P t
 | .binOp op t x (.const .nilIface) _,.isNil op' y=>uN op op' && aH x y && mH P t == some true
 | .binOp op t x (.const (.pointer none)) _,.isNilP op' y=>uN op op' && aH x y && zu9 P t
 | .typeAssert x _ t true,.assertT t' z y=>t == t' && aH x y && mH P t == some false && (match (P.info? t).bind (·.zero) with | some zv=>dM z zv | none=>false)
 | .unOp op _ x,.un op' y=>zchb op op' && aH x y
 | .convert s t x,.toInt k y=>aH x y && yP P t == some k && (P.underlying s).isSome
 | .convert s t x,.toStr y=>aH x y && pE P t && (P.underlying s).isSome
 | .convert s t x,.runeStr y=>aH x y && pE P t && (match P.underlying s with | some (.int _)=>true | _=>false)
 | .convert s t x,.bytesToStr y=>aH x y && pE P t && (match eX P s with | some e=>yP P e == some .u8 | none=>false)
 | .makeInterface t x,.mkIface t' y=>t == t' && aH x y && mH P t == some false
 | .makeFunc f as bs,.mkFunc f' as' bs'=>Xr f f' && lQ as.toList as' && lQ bs.toList bs'
 | .slice t x lo hi none,.slice sz x' lo' hi'=>aH x x' && rF lo lo' && rF hi hi' && (match eX P t with | some e=>cB P e == some sz | none=>false)
 | .binOp op t x (.const (.slice none 0 0)) _,.isNilS op' y=>uN op op' && aH x y && (eX P t).isSome
 | .binOp op t x (.const (.map none)) _,.isNilM op' y=>uN op op' && aH x y && cJ P t
 | .lookup t x i ok,.lookup ks z ok' x' i'=>aH x x' && aH i i' && ok == ok' && (match qK P t with | some (kt,el)=>pX P ks kt && (match (P.info? el).bind (·.zero) with | some zv=>dM z zv | none=>false) | none=>false)
 | .call {callee:=.builtin .len,args:=⟨[x]⟩,argTypes:=⟨[t]⟩},.lenM y=>aH x y && cJ P t
 | .call {callee:=.builtin .min,args:=⟨[x,y]⟩,..},.mm false x' y'=>aH x x' && aH y y'
 | .call {callee:=.builtin .max,args:=⟨[x,y]⟩,..},.mm true x' y'=>aH x x' && aH y y'
 | .slice t x lo hi none,.sliceS x' lo' hi'=>aH x x' && rF lo lo' && rF hi hi' && pE P t
 | .fieldAddr t x i,.fieldAddr off k y=>aH x y && (match sB P t with
  | some fs=>(match fs[i]? with | some f=>f.offset == off && okK P f.type k && cB P f.type != some 0 | none=>false)
  | none=>false)
 | .field t x i,.field off k y=>aH x y && (match sB P t with
  | some fs=>(match fs[i]? with | some f=>f.offset == off && okK P f.type k | none=>false)
  | none=>false)
 | .indexAddr t x i,.indexAddr sz x' i'=>aH x x' && aH i i' && (match eX P t with | some e=>cB P e == some sz | none=>false)
 | .index t x i,.index x' i'=>aH x x' && aH i i' && pE P t
 | .extract x i,.extract y i'=>aH x y && i == i'
 | .call {callee:=.builtin .len,args:=⟨[x]⟩,argTypes:=⟨[t]⟩},.len y=>aH x y && (eX P t).isSome
 | .call {callee:=.builtin .len,args:=⟨[x]⟩,argTypes:=⟨[t]⟩},.lenS y=>aH x y && pE P t
 | .binOp op t x y _,.eqA op' ks x' y'=>uN op op' && aH x x' && aH y y' && zhv P t ks
 | _,_=>false
def aZ (ι:Imm) (j lb:Lay):Val→Value→Prop
 | .c c,x=>Rep ι j c.d x
 | .l b off,x=>∃ B,lb b=some B∧x=.pointer (some ⟨B,off,none⟩)
section
variable [LoopKit] {P:Program} {ι:Imm} {j:Lay} {own:Own} {lb:Lay} {N:Nat} {e:Env} {a:Go.Act} {w:World} {σ:Store}
theorem zik (hL:LSim ι j own lb N e a w) {o:Oper} {x:Operand} {y:AOpd} (ho:o.op=.move x∨o.op=.assign x) (hk:aH x y=true) {v:Val} (h:aK (.mov y) e σ=some v) :
  ∃ u,(execOp a.eval o).run P w=.ok (.value u) w∧aZ ι j lb v u:=by
 simp only [aK] at h
 obtain ⟨c,h1,h2⟩:=aA h
 cases h2
 refine ⟨a.eval x,?_,aP hL hk h1⟩
 rcases ho with ho | ho <;> simp only [execOp,ho,Sem.run_pure]
theorem zv4 (hL:LSim ι j own lb N e a w) {o:Oper} {x y z:Operand} {x' y' z':AOpd} (ho:o.op=.pick x y z) (hk:aH x x'=true) (hk1:aH y y'=true) (hk2:aH z z'=true) {v:Val}
  (h:aK (.pick x' y' z') e σ=some v):∃ u,(execOp a.eval o).run P w=.ok (.value u) w∧aZ ι j lb v u:=by
 simp only [aK] at h
 obtain ⟨c,h1,h⟩:=aA h
 obtain ⟨t,h2,h⟩:=aA h
 obtain ⟨c',h3,h⟩:=aA h
 cases h
 have hr:=aP hL hk h1
 have hb:a.eval x=.bool t:=by
  cases hd:c.d <;> rw [hd] at h2 <;> simp only [D.bool?,reduceCtorEq,Option.some.injEq] at h2
  subst h2
  rw [hd] at hr
  simpa only [Rep] using hr
 refine ⟨if t then a.eval y else a.eval z,?_,?_⟩
 ·simp only [execOp,ho,hb,asBool,Sem.run_bind,Sem.run_pure,Result.andThen_ok]
 ·cases t with
  | true=>rw [aE] at h3; exact aP (c:=c') hL hk1 h3
  | false=>rw [aG] at h3; exact aP (c:=c') hL hk2 h3
theorem rT (hG:GSim ι j own σ w) (hL:LSim ι j own lb N e a w) {o:Oper} {t:TypeId} {x:Operand} {y:AOpd} {k:Option Nat} {mv:Bool} (ho:o.op=.load t x) (hk:aH x y=true) (hk1:okK P t k=true) {v:Val}
  (h:aK (.load k mv y) e σ=some v):∃ u,(execOp a.eval o).run P w=.ok (.value u) w∧aZ ι j lb v u:=by
 have fin:∀ {b off:Nat} {u:Value},a.eval x=.pointer (some ⟨b,off,none⟩)→(loadVar t ⟨b,off,none⟩).run P w=.ok u w→(execOp a.eval o).run P w=.ok (.value u) w:=by
  intro b off u h1 h2
  simp only [execOp,ho,h1,Instr.loadAt,Instr.sureAddr,Sem.run_bind,Sem.run_pure,Result.andThen_ok,h2]
 simp only [aK] at h
 obtain ⟨p,hp,h⟩:=aA h
 have hr:=kR hL hk hp
 cases p with
 | loc b off =>
  obtain ⟨B,hB,hx⟩:=hr
  obtain ⟨cs,h1,h⟩:=aA h
  obtain ⟨c,h2,h⟩:=aA h
  cases h
  obtain ⟨B',hB',_,hbox⟩:=hL.boxes b cs h1
  rw [hB] at hB'
  cases hB'
  obtain ⟨u,hu,hru,_⟩:=kU hbox hk1 h2
  exact ⟨u,fin hx hu,hru⟩
 | ptr id off =>
  obtain ⟨B,hB,hx⟩:=hr
  obtain ⟨cs,h1,h⟩:=aA h
  obtain ⟨c,h2,h⟩:=aA h
  cases h
  obtain ⟨B',hB',_,hbox⟩:=hG.objs id cs h1
  rw [hB] at hB'
  cases hB'
  obtain ⟨u,hu,hru,_⟩:=kU hbox hk1 h2
  exact ⟨u,fin hx hu,hru⟩
 | eptr d =>
  obtain ⟨b,off,u,hx,hat,hd⟩:=hr
  have hc:∀ i x,u.cells[i]?=some x→w.cell? ⟨b,off + i,none⟩=some x:=fun i x hi=>hG.holds _ _ _ (hat i x hi)
  cases k with
  | none =>
   obtain ⟨h1,h⟩:=aJ h
   cases h
   exact ⟨u,fin hx (nF hk1 b off hc (hd.oneCell h1).2),hd⟩
  | some n =>
   obtain ⟨cs,h1,h⟩:=aA h
   obtain ⟨h2,h⟩:=aJ h
   cases h
   simp only [beq_iff_eq] at h2
   refine ⟨u,fin hx (nF hk1 b off hc ?_),hd⟩
   cases d <;> simp only [D.agg?,reduceCtorEq,Option.some.injEq] at h1
   subst h1
   simp only [Rep] at hd
   obtain ⟨vs,rfl,hl,_⟩:=hd
   exact ⟨vs,rfl,by rw [hl.length]; exact h2⟩
theorem zil (hL:LSim ι j own lb N e a w) {o:Oper} {x:Operand} {y:AOpd} (ho:o.op=.nilCheck x) (hk:aH x y=true) {v:Val} (h:aK (.nilCheck y) e σ=some v) :
  ∃ u,(execOp a.eval o).run P w=.ok (.value u) w∧aZ ι j lb v u:=by
 simp only [aK] at h
 obtain ⟨p,hp,h⟩:=aA h
 have hr:=kR hL hk hp
 cases p with
 | loc b off =>
  cases h
  obtain ⟨B,hB,hx⟩:=hr
  exact ⟨.pointer (some ⟨B,off,none⟩),by simp only [execOp,ho,hx,Sem.run_pure],B,hB,rfl⟩
 | ptr id off =>
  cases h
  obtain ⟨B,hB,hx⟩:=hr
  exact ⟨.pointer (some ⟨B,off,none⟩),by simp only [execOp,ho,hx,Sem.run_pure],by simp only [aZ,Rep]; exact ⟨B,hB,rfl⟩⟩
 | eptr d =>
  cases h
  obtain ⟨b,off,u,hx,hat,hd⟩:=hr
  exact ⟨.pointer (some ⟨b,off,none⟩),by simp only [execOp,ho,hx,Sem.run_pure],by simp only [aZ,Rep]; exact ⟨b,off,u,rfl,hat,hd⟩⟩
theorem zi3 (op:BinOp) (t:TypeId) (x y:Operand) (k k':IntKind) (m n:Int):eqGuard op t x y (.int k m) (.int k' n)=pure ():=by
 unfold eqGuard; cases op <;> rfl
theorem zi4 (op:BinOp) (t:TypeId) (x y:Operand) (m n:ByteArray):eqGuard op t x y (.string m) (.string n)=pure ():=by
 unfold eqGuard; cases op <;> rfl
theorem zgh (op:BinOp) (t:TypeId) (x y:Operand) (m n:Bool):eqGuard op t x y (.bool m) (.bool n)=pure ():=by
 unfold eqGuard; cases op <;> rfl
def vOf:D→Value
 | .int k n=>.int k n
 | .bool b=>.bool b
 | .str s=>.string ⟨⟨s⟩⟩
 | _=>Go.undef
theorem zmu {op:BinOp} {k:IntKind} {m n:Int} {d:D} (h:kE op k m n=some d) (t:TypeId):(binOp op t (.int k m) (.int k n)).run P w=.ok (vOf d) w∧Rep ι j d (vOf d):=by
 cases op
 case quo =>
  simp only [kE] at h
  obtain ⟨h1,h⟩:=aJ' h
  have h1':n≠0:=by intro e; subst e; simp at h1
  cases h
  exact ⟨by simp [binOp,Op.intDiv,h1',vOf],by simp only [Rep,vOf]⟩
 case rem =>
  simp only [kE] at h
  obtain ⟨h1,h⟩:=aJ' h
  have h1':n≠0:=by intro e; subst e; simp at h1
  cases h
  exact ⟨by simp [binOp,Op.intDiv,h1',vOf],by simp only [Rep,vOf]⟩
 all_goals simp only [kE,reduceCtorEq,Option.some.injEq] at h
 all_goals subst h
 all_goals exact ⟨by simp [binOp,Op.intArith,Op.intCmp,vOf],by simp only [Rep,vOf]⟩
theorem zmv {op:BinOp} {m n:List UInt8} {d:D} (h:oJ op m n=some d) (t:TypeId):(binOp op t (.string ⟨⟨m⟩⟩) (.string ⟨⟨n⟩⟩)).run P w=.ok (vOf d) w∧Rep ι j d (vOf d):=by
 cases op
 case add =>
  simp only [oJ] at h
  obtain ⟨h1,h⟩:=aJ h
  cases h
  simp only [decide_eq_true_eq] at h1
  have h2:¬ (((⟨⟨m⟩⟩:ByteArray).size + (⟨⟨n⟩⟩:ByteArray).size:Nat):Int) > IntKind.i64.max:=by
   show ¬ ((m.length + n.length:Nat):Int) > 9223372036854775807
   omega
  have h3:(⟨⟨m⟩⟩ ++ ⟨⟨n⟩⟩:ByteArray)=⟨⟨m ++ n⟩⟩:=by
   apply ByteArray.ext
   apply Array.ext'
   simp
  refine ⟨?_,by simp only [Rep,vOf]⟩
  simp only [binOp,Op.stringOp]
  rw [if_neg h2,h3]
  rfl
 all_goals simp only [oJ,reduceCtorEq,Option.some.injEq] at h
 all_goals subst h
 all_goals exact ⟨by simp [binOp,Op.stringOp,vOf],by simp only [Rep,vOf]⟩
theorem zanb (hL:LSim ι j own lb N e a w) {o:Oper} {op:BinOp} {t u:TypeId} {x y:Operand} {x' y':AOpd} (ho:o.op=.binOp op t x y u) (hk:aH x x'=true) (hk1:aH y y'=true) {v:Val}
  (h:aK (.bin op x' y') e σ=some v):∃ u,(execOp a.eval o).run P w=.ok (.value u) w∧aZ ι j lb v u:=by
 simp only [aK] at h
 obtain ⟨c,h1,h⟩:=aA h
 obtain ⟨c',h2,h⟩:=aA h
 obtain ⟨d,h3,h⟩:=aA h
 cases h
 have r1:=aP hL hk h1
 have r2:=aP hL hk1 h2
 revert h3 r1 r2
 generalize c.d=d1
 generalize c'.d=d2
 intro h3 r1 r2
 unfold zf1 at h3
 split at h3
 ·obtain ⟨hkk,h4⟩:=aJ h3
  have hkk:=Bz hkk
  subst hkk
  simp only [Rep] at r1 r2
  obtain ⟨hz,hr⟩:=zmu (P:=P) (w:=w) (ι:=ι) (j:=j) h4 t
  exact ⟨vOf d,by simp only [execOp,ho,r1,r2,zi3,Sem.run_bind,Sem.run_pure,Result.andThen_ok,hz],hr⟩
 ·simp only [Rep] at r1 r2
  obtain ⟨hz,hr⟩:=zmv (P:=P) (w:=w) (ι:=ι) (j:=j) h3 t
  exact ⟨vOf d,by simp only [execOp,ho,r1,r2,zi4,Sem.run_bind,Sem.run_pure,Result.andThen_ok,hz],hr⟩
 ·cases h3
theorem Dz {t:TypeId} (ht:P.underlying t=some .bool) (p q:Bool):(Op.equal t (.bool p) (.bool q)).run P w=.ok (p == q) w:=by
 show (Op.equalIn (9999 + 1) t (.bool p) (.bool q)).run P w=_
 rw [Op.equalIn]
 simp only [Sem.run_bind,run_underlying ht,Result.andThen_ok]
 rfl
theorem zis {op:BinOp} {p q:Bool} {d:D} (h:xN op p q=some d) {t:TypeId} (ht:P.underlying t=some .bool):(binOp op t (.bool p) (.bool q)).run P w=.ok (vOf d) w∧Rep ι j d (vOf d):=by
 cases op <;> simp only [xN,reduceCtorEq,Option.some.injEq] at h
 ·subst h
  have:binOp .eql t (.bool p) (.bool q)=(do pure (.bool (← Op.equal t (.bool p) (.bool q)))):=rfl
  exact ⟨by rw [this]; simp only [Sem.run_bind,Dz ht,Result.andThen_ok,Sem.run_pure,vOf],by simp only [Rep,vOf]⟩
 ·subst h
  have:binOp .neq t (.bool p) (.bool q)=(do pure (.bool (!(← Op.equal t (.bool p) (.bool q))))):=rfl
  exact ⟨by rw [this]; simp only [Sem.run_bind,Dz ht,Result.andThen_ok,Sem.run_pure,vOf],by simp only [Rep,vOf]⟩
theorem zv1 (hL:LSim ι j own lb N e a w) {o:Oper} {op:BinOp} {t u:TypeId} {x y:Operand} {x' y':AOpd} (ho:o.op=.binOp op t x y u) (hk:aH x x'=true) (hk1:aH y y'=true) (ht:Va P t=true) {v:Val}
  (h:aK (.binB op x' y') e σ=some v):∃ u,(execOp a.eval o).run P w=.ok (.value u) w∧aZ ι j lb v u:=by
 have ht:P.underlying t=some .bool:=by
  unfold Va at ht
  split at ht
  ·assumption
  ·cases ht
 simp only [aK] at h
 obtain ⟨c,h1,h⟩:=aA h
 obtain ⟨c',h2,h⟩:=aA h
 obtain ⟨d,h3,h⟩:=aA h
 cases h
 have r1:=aP hL hk h1
 have r2:=aP hL hk1 h2
 revert h3 r1 r2
 generalize c.d=d1
 generalize c'.d=d2
 intro h3 r1 r2
 unfold zek at h3
 split at h3
 ·rename_i p q
  simp only [Rep] at r1 r2
  obtain ⟨hz,hr⟩:=zis (P:=P) (w:=w) (ι:=ι) (j:=j) h3 ht
  exact ⟨vOf d,by simp only [execOp,ho,r1,r2,zgh,Sem.run_bind,Sem.run_pure,Result.andThen_ok,hz],hr⟩
 ·cases h3
theorem zalb {op:UnOp} {d1 d:D} (h:unD op d1=some d) {u:Value} (hr:Rep ι j d1 u):(Op.unary op u).run P w=.ok (vOf d) w∧Rep ι j d (vOf d):=by
 unfold unD at h
 split at h
 ·rename_i b
  cases h
  simp only [Rep] at hr
  subst hr
  exact ⟨rfl,by simp only [Rep,vOf]⟩
 ·rename_i k n
  cases h
  simp only [Rep] at hr
  subst hr
  exact ⟨rfl,by simp only [Rep,vOf]⟩
 ·cases h
theorem zcvb (hL:LSim ι j own lb N e a w) {o:Oper} {op:UnOp} {t:TypeId} {x:Operand} {x':AOpd} (ho:o.op=.unOp op t x) (hk:aH x x'=true) {v:Val}
  (h:aK (.un op x') e σ=some v):∃ u,(execOp a.eval o).run P w=.ok (.value u) w∧aZ ι j lb v u:=by
 simp only [aK] at h
 obtain ⟨c,h1,h⟩:=aA h
 obtain ⟨d,h3,h⟩:=aA h
 cases h
 obtain ⟨hz,hr⟩:=zalb (P:=P) (w:=w) h3 (aP hL hk h1)
 exact ⟨vOf d,by simp only [execOp,ho,hz,Sem.run_bind,Sem.run_pure,Result.andThen_ok],hr⟩
end
end Go.Mx

/-
 What the operations of the small machine do,the model's operations do: one by one.
-/
import Derived.Test.YtieacpoabejcoaaGreatDoorMySim
set_option linter.unusedSimpArgs false
set_option linter.unusedVariables false
set_option linter.unusedSectionVars false
namespace Go.Mx
open Go
/-! ### The fit of an operation: what the generator printed is what the program has -/
def zwi (b:Bool):Value→Bool
 | .bool b'=>b == b'
 | _=>false
def isInt (k:IntKind) (n:Int):Value→Bool
 | .int k' n'=>za1 k k' && n == n'
 | _=>false
def isStr (s:List UInt8):Value→Bool
 | .string b=>s == b.data.toList
 | _=>false
def zl3:Value→Bool
 | .slice a n c=>a.isNone && n == 0 && c == 0
 | _=>false
def zp2:Value→Bool
 | .pointer a=>a.isNone
 | _=>false
def zsp:Value→Bool
 | .nilFunc=>true
 | _=>false
def zp1:Value→Bool
 | .map none=>true
 | _=>false
def zl2:Value→Bool
 | .nilIface=>true
 | _=>false
def isFn (f:FuncId):Value→Bool
 | .func (.func f') a b=>f == f' && a.size == 0 && b.size == 0
 | _=>false
def aggOf:Value→Option (List Value)
 | .agg vs=>some vs.toList
 | _=>none
mutual
def za8:D→Value→Bool
 | .bool b,v=>zwi b v
 | .int k n,v=>isInt k n v
 | .str s,v=>isStr s v
 | .nils,v=>zl3 v
 | .nilp,v=>zp2 v
 | .nilfn,v=>zsp v
 | .niliface,v=>zl2 v
 | .nilmap,v=>zp1 v
 | .fn (.func f) a b,v=>isFn f v && a.isEmpty && b.isEmpty
 | .agg cs,v=>caseO (aggOf v) false fun vs=>zcb cs vs
 | _,_=>false
def zcb:List D→List Value→Bool
 | [],vs=>vs.isEmpty
 | d :: ds,vs=>caseO vs.head? false fun v=>d.one && za8 d v && zcb ds vs.tail
end
def okOpd:Operand→AOpd→Bool
 | .tmp t,.tmp s=>t == s
 | .tmp t,.mv s=>t == s
 | .const v,.const d=>za8 d v
 | .func f,.const (.fn (.func f') [] [])=>f == f'
 | _,_=>false
def zdn:List Operand→List AOpd→Bool
 | [],[]=>true
 | x :: l,y :: r=>okOpd x y && zdn l r
 | _,_=>false
theorem zkr {k k':IntKind} (h:za1 k k'=true):k=k':=by
 cases k <;> cases k' <;> first | rfl | cases h
theorem Rep.oneCell {ι:Imm} {j:Lay} {d:D} {v:Value} (h:Rep ι j d v) (ho:d.one=true):v.oneCell'=true∧v.cells=#[v]:=by
 cases d <;> simp only [D.one,Bool.false_eq_true] at ho <;> simp only [Rep] at h <;> first
  | (subst h; exact ⟨rfl,rfl⟩)
  | (obtain ⟨_,_,rfl,_⟩:=h; exact ⟨rfl,rfl⟩)
  | (obtain ⟨_,_,rfl⟩:=h; exact ⟨rfl,rfl⟩)
  | (obtain ⟨_,_,_,rfl,_⟩:=h; exact ⟨rfl,rfl⟩)
  | (obtain ⟨_,rfl,_⟩:=h; exact ⟨rfl,rfl⟩)
  | (obtain ⟨_,rfl⟩:=h; exact ⟨rfl,rfl⟩)
  | (obtain ⟨_,_,_,_,_,_,rfl,_⟩:=h; exact ⟨rfl,rfl⟩)
theorem zf7b {b:Bool} {v:Value} (h:zwi b v=true):v=.bool b:=by
 cases v <;> simp only [zwi,Bool.false_eq_true] at h
 rw [eq_of_beq h]
theorem zjbb {k:IntKind} {n:Int} {v:Value} (h:isInt k n v=true):v=.int k n:=by
 cases v <;> simp only [isInt,Bool.false_eq_true,Bool.and_eq_true] at h
 rw [zkr h.1,eq_of_beq h.2]
theorem zjcb {s:List UInt8} {v:Value} (h:isStr s v=true):v=.string ⟨⟨s⟩⟩:=by
 cases v <;> simp only [isStr,Bool.false_eq_true] at h
 rw [eq_of_beq h]
theorem zut {v:Value} (h:zl3 v=true):v=.slice none 0 0:=by
 cases v <;> simp only [zl3,Bool.false_eq_true,Bool.and_eq_true,Option.isNone_iff_eq_none,beq_iff_eq] at h
 obtain ⟨⟨rfl,rfl⟩,rfl⟩:=h
 rfl
theorem zzr {v:Value} (h:zp2 v=true):v=.pointer none:=by
 cases v <;> simp only [zp2,Bool.false_eq_true,Option.isNone_iff_eq_none] at h
 rw [h]
theorem zddb {v:Value} (h:zsp v=true):v=.nilFunc:=by
 cases v <;> simp only [zsp,Bool.false_eq_true] at h
 rfl
theorem zzp {v:Value} (h:zp1 v=true):v=.map none:=by
 unfold zp1 at h
 split at h
 ·rfl
 ·cases h
theorem zus {v:Value} (h:zl2 v=true):v=.nilIface:=by
 cases v <;> simp only [zl2,Bool.false_eq_true] at h
 rfl
theorem zmub {f:FuncId} {v:Value} (h:isFn f v=true):v=.func (.func f) ⟨[]⟩ ⟨[]⟩:=by
 cases v with
 | func g a b =>
  cases g <;> simp only [isFn,Bool.false_eq_true,Bool.and_eq_true,beq_iff_eq] at h
  obtain ⟨⟨rfl,h1⟩,h2⟩:=h
  obtain ⟨a⟩:=a
  obtain ⟨b⟩:=b
  simp only [List.size_toArray,List.length_eq_zero_iff] at h1 h2
  subst h1 h2
  rfl
 | _=>simp only [isFn,Bool.false_eq_true] at h
theorem ziob {v:Value} {vs:List Value} (h:aggOf v=some vs):v=.agg ⟨vs⟩:=by
 cases v <;> simp only [aggOf,reduceCtorEq,Option.some.injEq] at h
 subst h
 rfl
section
variable (ι:Imm) (j:Lay)
mutual
theorem zfz:∀ (d:D) (v:Value),za8 d v=true→Rep ι j d v
 | .bool b,v,h=>by simp only [za8] at h; simp only [Rep]; exact zf7b h
 | .int k n,v,h=>by simp only [za8] at h; simp only [Rep]; exact zjbb h
 | .str s,v,h=>by simp only [za8] at h; simp only [Rep]; exact zjcb h
 | .nils,v,h=>by simp only [za8] at h; simp only [Rep]; exact zut h
 | .nilp,v,h=>by simp only [za8] at h; simp only [Rep]; exact zzr h
 | .nilfn,v,h=>by simp only [za8] at h; simp only [Rep]; exact zddb h
 | .niliface,v,h=>by simp only [za8] at h; simp only [Rep]; exact zus h
 | .nilmap,v,h=>by simp only [za8] at h; simp only [Rep]; exact zzp h
 | .fn (.func f) a b,v,h=>by
  simp only [za8,Bool.and_eq_true,List.isEmpty_iff] at h
  obtain ⟨⟨h,rfl⟩,rfl⟩:=h
  simp only [Rep]
  exact ⟨[],[],zmub h,by simp only [RepL],by simp only [RepL]⟩
 | .agg cs,v,h=>by
  simp only [za8] at h
  cases hv:aggOf v with
  | none=>rw [hv] at h; cases h
  | some vs =>
   rw [hv,zab] at h
   simp only [Rep]
   obtain ⟨h1,h2⟩:=zct cs vs h
   exact ⟨vs,ziob hv,h1,h2⟩
 | .undef,v,h=>by simp only [za8,Bool.false_eq_true] at h
 | .list _ _,v,h=>by simp only [za8,Bool.false_eq_true] at h
 | .tup _,v,h=>by simp only [za8,Bool.false_eq_true] at h
 | .ptr _ _,v,h=>by simp only [za8,Bool.false_eq_true] at h
 | .eptr _,v,h=>by simp only [za8,Bool.false_eq_true] at h
 | .iface _ _,v,h=>by simp only [za8,Bool.false_eq_true] at h
 | .fn (.method _) _ _,v,h=>by simp only [za8,Bool.false_eq_true] at h
 | .fn (.methodOf _ _) _ _,v,h=>by simp only [za8,Bool.false_eq_true] at h
 | .fn (.via _ _ _ _) _ _,v,h=>by simp only [za8,Bool.false_eq_true] at h
 | .fn (.yield _) _ _,v,h=>by simp only [za8,Bool.false_eq_true] at h
theorem zct:∀ (ds:List D) (vs:List Value),zcb ds vs=true→RepL ι j ds vs∧∀ x∈vs,x.oneCell'=true
 | [],vs,h=>by
  simp only [zcb,List.isEmpty_iff] at h
  subst h
  exact ⟨by simp only [RepL],by simp⟩
 | d :: ds,vs,h=>by
  simp only [zcb] at h
  cases vs with
  | nil=>cases h
  | cons v vs =>
   simp only [List.head?_cons,zab,List.tail_cons,Bool.and_eq_true] at h
   obtain ⟨⟨h0,h1⟩,h2⟩:=h
   obtain ⟨k1,k2⟩:=zct ds vs h2
   have hr:=zfz d v h1
   refine ⟨by simp only [RepL]; exact ⟨v,vs,rfl,hr,k1⟩,?_⟩
   intro x hx
   rcases List.mem_cons.1 hx with rfl | hx
   ·exact (hr.oneCell h0).1
   ·exact k2 x hx
end
end
theorem RepL.length {ι:Imm} {j:Lay}:∀ {ds:List D} {vs:List Value},RepL ι j ds vs→vs.length=ds.length
 | [],vs,h=>by simp only [RepL] at h; subst h; rfl
 | d :: ds,vs,h=>by
  simp only [RepL] at h
  obtain ⟨x,r,rfl,_,h⟩:=h
  simp [RepL.length h]
theorem RepL.at {ι:Imm} {j:Lay}:∀ {ds:List D} {vs:List Value},RepL ι j ds vs→∀ (i:Nat) (d:D),ds[i]?=some d→∃ v,vs[i]?=some v∧Rep ι j d v
 | [],_,_,i,d,hi=>by simp at hi
 | d :: ds,vs,h,i,d',hi=>by
  simp only [RepL] at h
  obtain ⟨x,r,rfl,h1,h2⟩:=h
  cases i with
  | zero=>simp at hi; subst hi; exact ⟨x,rfl,h1⟩
  | succ i=>simp at hi; simpa using RepL.at h2 i d' hi
theorem RepL.of {ι:Imm} {j:Lay}:∀ {ds:List D} {vs:List Value},vs.length=ds.length→(∀ (i:Nat) (d:D),ds[i]?=some d→∃ v,vs[i]?=some v∧Rep ι j d v)→RepL ι j ds vs
 | [],vs,h,_=>by simp only [RepL]; exact List.eq_nil_of_length_eq_zero (by simpa using h)
 | d :: ds,[],h,_=>by simp at h
 | d :: ds,v :: vs,h,k=>by
  simp only [RepL]
  obtain ⟨x,hx,hr⟩:=k 0 d rfl
  simp at hx
  subst hx
  exact ⟨v,vs,rfl,hr,RepL.of (by simpa using h) fun i d' hi=>by simpa using k (i + 1) d' (by simpa using hi)⟩
theorem RepL.append {ι:Imm} {j:Lay}:∀ {a:List D} {va:List Value} {b:List D} {vb:List Value},RepL ι j a va→RepL ι j b vb→RepL ι j (a ++ b) (va ++ vb)
 | [],va,b,vb,h,k=>by simp only [RepL] at h; subst h; simpa using k
 | d :: a,va,b,vb,h,k=>by
  simp only [RepL] at h
  obtain ⟨x,r,rfl,h1,h2⟩:=h
  simp only [List.cons_append,RepL]
  exact ⟨x,r ++ vb,rfl,h1,RepL.append h2 k⟩
theorem Rep.cellsRel {ι:Imm} {j:Lay} {d:D} {v:Value} (h:Rep ι j d v) (hok:d.ok=true):RepL ι j d.cells v.cells.toList∧∀ x∈v.cells.toList,x.oneCell'=true:=by
 cases hd:d.one with
 | true =>
  obtain ⟨h1,h2⟩:=h.oneCell hd
  have:d.cells=[d]:=by cases d <;> simp only [D.one,Bool.false_eq_true] at hd <;> rfl
  rw [this,h2]
  exact ⟨by simp only [RepL]; exact ⟨v,[],rfl,h,rfl⟩,by simpa using h1⟩
 | false =>
  cases d <;> simp only [D.one,D.ok,Bool.false_eq_true,Bool.true_eq_false] at hd hok
  simp only [Rep] at h
  obtain ⟨vs,rfl,h1,h2⟩:=h
  exact ⟨h1,h2⟩
theorem Rep.cellsSize {ι:Imm} {j:Lay} {d:D} {v:Value} (h:Rep ι j d v) (hok:d.ok=true):v.cells.size=d.cells.length:=by
 have:=RepL.length (h.cellsRel hok).1
 simpa using this
/-! ### Operands -/
section
variable [LoopKit] {ι:Imm} {j:Lay} {own:Own} {lb:Lay} {N:Nat} {e:Env} {a:Go.Act} {w:World}
theorem zah (hL:LSim ι j own lb N e a w) {x:Operand} {y:AOpd} (hk:okOpd x y=true) {c:Cell} (h:opd e y=some c):Rep ι j c.d (a.eval x):=by
 cases y with
 | tmp s =>
  cases x <;> simp only [okOpd,Bool.false_eq_true] at hk
  rw [eq_of_beq hk]
  simp only [opd] at h
  obtain ⟨c',h1,h2⟩:=zaa h
  cases h2
  exact (hL.slots s c' h1).1
 | mv s =>
  cases x <;> simp only [okOpd,Bool.false_eq_true] at hk
  rw [eq_of_beq hk]
  exact (hL.slots s c h).1
 | const d =>
  simp only [opd] at h
  cases h
  cases x with
  | tmp t=>simp only [okOpd,Bool.false_eq_true] at hk
  | global g=>simp only [okOpd,Bool.false_eq_true] at hk
  | const v=>simp only [okOpd] at hk; exact zfz ι j d v hk
  | func f =>
   cases d <;> simp only [okOpd,Bool.false_eq_true] at hk
   rename_i g a' b'
   cases g <;> cases a' <;> cases b' <;> simp only [okOpd,Bool.false_eq_true] at hk
   simp only [Rep,Act.eval]
   exact ⟨[],[],by rw [eq_of_beq hk],rfl,rfl⟩
theorem zdw (hL:LSim ι j own lb N e a w):∀ {xs:List Operand} {ys:List AOpd} (_:zdn xs ys=true) {ds:List D},opds e ys=some ds→RepL ι j ds (xs.map a.eval)
 | [],[],_,ds,h=>by simp only [opds] at h; cases h; simp only [RepL,List.map_nil]
 | [],_ :: _,hk,_,_=>by simp only [zdn,Bool.false_eq_true] at hk
 | _ :: _,[],hk,_,_=>by simp only [zdn,Bool.false_eq_true] at hk
 | x :: xs,y :: ys,hk,ds,h=>by
  simp only [zdn,Bool.and_eq_true] at hk
  simp only [opds] at h
  obtain ⟨c,h1,h⟩:=zaa h
  obtain ⟨ds',h2,h⟩:=zaa h
  cases h
  simp only [RepL,List.map_cons]
  exact ⟨_,_,rfl,zah hL hk.1 h1,zdw hL hk.2 h2⟩
def zqt (ι:Imm) (j lb:Lay):Ptr→Value→Prop
 | .loc b off,v=>∃ B,lb b=some B∧v=.pointer (some ⟨B,off,none⟩)
 | .ptr id off,v=>∃ B,j id=some B∧v=.pointer (some ⟨B,off,none⟩)
 | .eptr d,v=>∃ b o x,v=.pointer (some ⟨b,o,none⟩)∧At ι b o x∧Rep ι j d x
theorem zuc {d:D} {p:Ptr} (h:ptrOf d=some p) {v:Value} (hr:Rep ι j d v):zqt ι j lb p v:=by
 cases d <;> simp only [ptrOf,reduceCtorEq,Option.some.injEq] at h <;> subst h <;> simpa only [Rep,zqt] using hr
theorem zca (hL:LSim ι j own lb N e a w) {x:Operand} {y:AOpd} (hk:okOpd x y=true) {p:Ptr} (h:addr e y=some p):zqt ι j lb p (a.eval x):=by
 have slot:∀ s,caseO (aget e.locs s) (bindO (aget e.slots s) fun c=>ptrOf c.d) (fun p=>some (.loc p.1 p.2))=some p→zqt ι j lb p (a.tmps.getD s Go.undef):=by
  intro s h
  cases hl:aget e.locs s with
  | some q =>
   obtain ⟨b,off⟩:=q
   rw [hl] at h
   cases h
   exact hL.locs s b off hl
  | none =>
   rw [hl] at h
   obtain ⟨c,h1,h2⟩:=zaa h
   exact zuc h2 (hL.slots s c h1).1
 cases y with
 | tmp s =>
  cases x <;> simp only [okOpd,Bool.false_eq_true] at hk
  rw [eq_of_beq hk]
  exact slot s h
 | mv s =>
  cases x <;> simp only [okOpd,Bool.false_eq_true] at hk
  rw [eq_of_beq hk]
  exact slot s h
 | const d =>
  simp only [addr] at h
  exact zuc h (zah hL hk (c:=⟨false,d⟩) rfl)
end
/-! ### The types' tables -/
def aggB (P:Program) (t:TypeId):Option Bool :=
 match P.underlying t with
 | some (.struct _)=>some true
 | some (.array _ _)=>some true
 | some _=>some false
 | none=>none
def sizeB (P:Program) (t:TypeId):Option Nat:=(P.info? t).map (·.size)
def okK (P:Program) (t:TypeId):Option Nat→Bool
 | none=>aggB P t == some false && sizeB P t == some 1
 | some n=>aggB P t == some true && sizeB P t == some n
def zeroB (P:Program) (t:TypeId):Option (List Value):=(P.info? t).bind fun i=>i.zero.map fun z=>z.cells.toList
def zgg (P:Program) (t:TypeId):Option (List Field) :=
 match P.underlying t with
 | some (.struct fs)=>some fs.toList
 | _=>none
def elemB (P:Program) (t:TypeId):Option TypeId :=
 match P.underlying t with
 | some (.slice e)=>some e
 | _=>none
section
variable {P:Program} {w:World}
theorem zgu {t:TypeId} {b:Bool} (h:aggB P t=some b):(isAgg t).run P w=.ok b w:=by
 unfold aggB at h
 cases hu:P.underlying t with
 | none=>rw [hu] at h; cases h
 | some d =>
  rw [hu] at h
  simp only [isAgg,Sem.run_bind,run_underlying hu,Result.andThen_ok]
  cases d <;> simp only [Option.some.injEq] at h <;> subst h <;> rfl
theorem za9 {t:TypeId} {n:Nat} (h:sizeB P t=some n):(sizeOf t).run P w=.ok n w:=by
 unfold sizeB at h
 cases hi:P.info? t with
 | none=>rw [hi] at h; cases h
 | some i =>
  rw [hi] at h
  simp at h
  simp [sizeOf,typeInfo,hi,h]
theorem zaab {t:TypeId} {z:List Value} (h:zeroB P t=some z):∃ v,(zeroValue t).run P w=.ok v w∧v.cells.toList=z:=by
 unfold zeroB at h
 cases hi:P.info? t with
 | none=>rw [hi] at h; cases h
 | some i =>
  rw [hi] at h
  cases hz:i.zero with
  | none=>rw [Option.bind_some,hz] at h; cases h
  | some v =>
   rw [Option.bind_some,hz] at h
   simp at h
   exact ⟨v,by simp [zeroValue,typeInfo,hi,hz],h⟩
theorem zlx {t:TypeId} {fs:List Field} (h:zgg P t=some fs):P.underlying t=some (.struct ⟨fs⟩):=by
 unfold zgg at h
 split at h
 ·rename_i fs' hu
  cases h
  exact hu
 ·cases h
theorem zb0 {t e:TypeId} (h:elemB P t=some e):P.underlying t=some (.slice e):=by
 unfold elemB at h
 split at h
 ·rename_i e' hu
  cases h
  exact hu
 ·cases h
/-! ### Reading -/
theorem zeo {t:TypeId} {k:Option Nat} (hk:okK P t k=true) (b o:Nat) {v:Value}
  (hc:∀ i x,v.cells[i]?=some x→w.cell? ⟨b,o + i,none⟩=some x)
  (hv:match k with | none=>v.cells=#[v] | some n=>∃ vs,v=.agg ⟨vs⟩∧vs.length=n) :
  (loadVar t ⟨b,o,none⟩).run P w=.ok v w:=by
 cases k with
 | none =>
  simp only [okK,Bool.and_eq_true,beq_iff_eq] at hk
  have h0:=hc 0 v (by rw [hv]; rfl)
  simp only [Nat.add_zero] at h0
  simp only [loadVar,Sem.run_bind,zgu hk.1,Result.andThen_ok,Bool.false_eq_true,if_false,run_load,h0]
 | some n =>
  simp only [okK,Bool.and_eq_true,beq_iff_eq] at hk
  obtain ⟨vs,rfl,hl⟩:=hv
  have hr:=run_loadCells_list (P:=P) w ⟨b,o,none⟩ vs (fun i x hx=>by rw [Addr.add_lit]; exact hc i x (by simpa [Value.cells] using hx))
  simp only [loadVar,Sem.run_bind,zgu hk.1,Result.andThen_ok,if_true,za9 hk.2,← hl,hr]
  rfl
theorem zqq:∀ (cs:List Cell) (o n:Nat) (l:List D),takeC cs o n=some l→l=((cs.drop o).take n).map (·.d)∧l.length=n
 | cs,0,0,l,h=>by simp only [takeC,Option.some.injEq] at h; subst h; simp
 | [],0,n + 1,l,h=>by simp [takeC] at h
 | [],o + 1,n,l,h=>by simp [takeC] at h
 | c :: cs,0,n + 1,l,h=>by
  simp only [takeC] at h
  obtain ⟨l',h1,h2⟩:=zaa h
  cases h2
  obtain ⟨k1,k2⟩:=zqq cs 0 n l' h1
  simp only [List.drop_zero] at k1
  exact ⟨by simp [k1],by simp [k2]⟩
 | c :: cs,o + 1,n,l,h=>by
  have h':takeC cs o n=some l:=by cases n <;> simpa only [takeC] using h
  simpa using zqq cs o n l h'
variable [LoopKit] {ι:Imm} {j:Lay} {own:Own}
theorem zdj {B:Nat} {mk:Nat→Tag} {cs:List Cell} (hb:zcl ι j own w B mk cs) {t:TypeId} {k:Option Nat} (hk:okK P t k=true) {off:Nat} {c:Cell} (h:zar cs k off=some c) :
  ∃ v,(loadVar t ⟨B,off,none⟩).run P w=.ok v w∧Rep ι j c.d v∧(k=none→cs[off]?=some c∧v.oneCell'=true∧zcw ι j own w (mk off) c v)∧(k≠none→c.own=false):=by
 obtain ⟨vs,T,h1,h2,h3⟩:=hb
 have hcell:∀ i x,vs[i]?=some x→w.cell? ⟨B,i,none⟩=some x:=fun i x hx=>by
  rw [cell_of_row w B i _ _ _ h1]; simpa using hx
 cases k with
 | none =>
  simp only [zar,zh0] at h
  obtain ⟨v,hv,ho,hr⟩:=h3 off c h
  have hc1:v.cells=#[v]:=by cases v <;> simp [Value.oneCell'] at ho <;> rfl
  refine ⟨v,zeo hk B off (v:=v) (fun i x hx=>?_) hc1,hr.1,fun _=>⟨h,ho,hr⟩,fun hne=>absurd rfl hne⟩
  rw [hc1] at hx
  cases i with
  | zero=>simp at hx; subst hx; exact hcell off v hv
  | succ i=>simp at hx
 | some n =>
  simp only [zar] at h
  obtain ⟨l,hl,he⟩:=zaa h
  cases he
  obtain ⟨hl1,hl2⟩:=zqq cs off n l hl
  have hlen:((vs.drop off).take n).length=n:=by
   have:(((cs.drop off).take n).map (·.d)).length=n:=by rw [← hl1]; exact hl2
   simp only [List.length_map,List.length_take,List.length_drop] at this ⊢
   omega
  refine ⟨.agg ⟨(vs.drop off).take n⟩,zeo hk B off (fun i x hx=>?_) ⟨_,rfl,hlen⟩,?_,fun hne=>(by cases hne),fun _=>rfl⟩
  ·simp only [Value.cells,List.getElem?_toArray,List.getElem?_take,List.getElem?_drop] at hx
   split at hx
   ·exact hcell (off + i) x hx
   ·cases hx
  ·simp only [Rep]
   refine ⟨_,rfl,RepL.of (by rw [hlen,hl2]) (fun i d hi=>?_),fun x hx=>?_⟩
   ·rw [hl1,List.getElem?_map] at hi
    cases hq:((cs.drop off).take n)[i]? with
    | none=>rw [hq] at hi; cases hi
    | some c =>
     rw [hq] at hi
     simp at hi
     subst hi
     simp only [List.getElem?_take,List.getElem?_drop] at hq ⊢
     split at hq
     ·rename_i hin
      obtain ⟨v,hv,_,hr⟩:=h3 (off + i) c hq
      exact ⟨v,by rw [if_pos hin]; exact hv,hr.1⟩
     ·cases hq
   ·obtain ⟨i,hi⟩:=List.getElem?_of_mem hx
    simp only [List.getElem?_take,List.getElem?_drop] at hi
    split at hi
    ·have hlt:off + i < cs.length:=by
      rename_i hin
      have:(((cs.drop off).take n).map (·.d)).length=n:=by rw [← hl1]; exact hl2
      simp only [List.length_map,List.length_take,List.length_drop] at this
      omega
     obtain ⟨v,hv,ho,_⟩:=h3 (off + i) _ (List.getElem?_eq_getElem hlt)
     rw [hv] at hi
     cases hi
     exact ho
    ·cases hi
end
/-! ### The fit of the operations that yield a value -/
def zhg (a b:BinOp):Bool:=decide (a=b)
def zp5b (a b:UnOp):Bool:=decide (a=b)
def zg8 (P:Program) (fs:List Field):List (Nat × Operand)→List (Nat × Nat × AOpd)→Bool
 | [],[]=>true
 | (i,x) :: l,(off,n,y) :: r=>(match fs[i]? with
  | some f=>f.offset == off && sizeB P f.type == some n
  | none=>false) && okOpd x y && zg8 P fs l r
 | _,_=>false
def zf9 (sz:Nat):List (Nat × Operand)→List (Nat × Nat × AOpd)→Bool
 | [],[]=>true
 | (i,x) :: l,(off,n,y) :: r=>off == i * sz && n == sz && okOpd x y && zf9 sz l r
 | _,_=>false
def arrTB (P:Program) (t:TypeId):Option (Nat × TypeId):=match P.underlying t with
 | some (.array n el)=>some (n,el)
 | _=>none
def okOpt:Option Operand→Option AOpd→Bool
 | none,none=>true
 | some x,some y=>okOpd x y
 | _,_=>false
def strB (P:Program) (t:TypeId):Bool:=match P.underlying t with | some .string=>true | _=>false
def boolB (P:Program) (t:TypeId):Bool:=match P.underlying t with | some .bool=>true | _=>false
def intB (P:Program) (t:TypeId):Option IntKind:=match P.underlying t with | some (.int k)=>some k | _=>none
def zd7 (P:Program) (t:TypeId):Option Bool:=match P.underlying t with | some (.interface _)=>some true | some _=>some false | none=>none
def ptrB (P:Program) (t:TypeId):Bool:=match P.underlying t with | some (.pointer _)=>true | _=>false
def mapTB (P:Program) (t:TypeId):Option (TypeId × TypeId):=match P.underlying t with | some (.map k e)=>some (k,e) | _=>none
def mapB (P:Program) (t:TypeId):Bool:=(mapTB P t).isSome
def keyB (P:Program) (ks:Bool) (t:TypeId):Bool:=match P.underlying t with | some (.int _)=>!ks | some .string=>ks | _=>false
def zry:Fn→Fn→Bool
 | .func f,.func g=>f == g
 | _,_=>false
def kindB (P:Program) (t:TypeId):Nat→Bool
 | 0=>(match P.underlying t with | some (.int _)=>true | _=>false)
 | 1=>strB P t
 | 2=>boolB P t
 | _=>false
def zk8 (P:Program):List Nat→Nat→List Field→Bool
 | [],_,[]=>true
 | k :: ks,i,f :: r=>f.name != "_" && f.offset == i && okK P f.type none && kindB P f.type k && zk8 P ks (i + 1) r
 | _,_,_=>false
def zrq (P:Program) (t:TypeId) (ks:List Nat):Bool:=match P.underlying t with
 | some (.struct fs)=>!P.stoodInHeld t && !P.eqGuardType P.depth t && zk8 P ks 0 fs.toList
 | _=>false
def okV (P:Program):Op→AOp→Bool
 | .move x,.mov y=>okOpd x y
 | .assign x,.mov y=>okOpd x y
 | .pick c a b,.pick c' a' b'=>okOpd c c' && okOpd a a' && okOpd b b'
 | .build t ps,.build z qs=>(match zeroB P t,zgg P t with
  | some zs,some fs=>zcb z zs && zg8 P fs ps.toList qs && fs.all (fun f=>(sizeB P f.type).isSome)
  | some zs,none=>zcb z zs && (match arrTB P t with
   | some (_,el)=>(match sizeB P el with
    | some sz=>zf9 sz ps.toList qs
    | none=>false)
   | none=>false)
  | _,_=>false)
 | .indexAddr t x i,.indexAddrP n sz x' i'=>okOpd x x' && okOpd i i' && (match arrTB P t with | some (m,el)=>m == n && sizeB P el == some sz | none=>false)
 | .load t x,.load k _ y=>okOpd x y && okK P t k
 | .load t x,.loadL k _ y=>okOpd x y && okK P t k
 | .load t x,.loadB _ k y=>okOpd x y && okK P t k
 | .load t x,.loadE k y=>okOpd x y && okK P t k
 | .load t x,.loadP k y=>okOpd x y && okK P t k
 | .load t x,.loadG k y=>okOpd x y && okK P t k
 | .nilCheck x,.nilCheck y=>okOpd x y
 | .assign x,.nilCheck y=>okOpd x y
 | .binOp op _ x y _,.bin op' x' y'=>zhg op op' && okOpd x x' && okOpd y y'
 | .binOp op t x y _,.binB op' x' y'=>zhg op op' && okOpd x x' && okOpd y y' && boolB P t
 | .binOp op t x (.const .nilIface) _,.isNil op' y=>zhg op op' && okOpd x y && zd7 P t == some true
 | .binOp op t x (.const (.pointer none)) _,.isNilP op' y=>zhg op op' && okOpd x y && ptrB P t
 | .typeAssert x _ t true,.assertT t' z y=>t == t' && okOpd x y && zd7 P t == some false && (match (P.info? t).bind (·.zero) with | some zv=>za8 z zv | none=>false)
 | .unOp op _ x,.un op' y=>zp5b op op' && okOpd x y
 | .convert s t x,.toInt k y=>okOpd x y && intB P t == some k && (P.underlying s).isSome
 | .convert s t x,.toStr y=>okOpd x y && strB P t && (P.underlying s).isSome
 | .convert s t x,.runeStr y=>okOpd x y && strB P t && (match P.underlying s with | some (.int _)=>true | _=>false)
 | .convert s t x,.bytesToStr y=>okOpd x y && strB P t && (match elemB P s with | some e=>intB P e == some .u8 | none=>false)
 | .makeInterface t x,.mkIface t' y=>t == t' && okOpd x y && zd7 P t == some false
 | .makeFunc f as bs,.mkFunc f' as' bs'=>zry f f' && zdn as.toList as' && zdn bs.toList bs'
 | .slice t x lo hi none,.slice sz x' lo' hi'=>okOpd x x' && okOpt lo lo' && okOpt hi hi' && (match elemB P t with | some e=>sizeB P e == some sz | none=>false)
 | .binOp op t x (.const (.slice none 0 0)) _,.isNilS op' y=>zhg op op' && okOpd x y && (elemB P t).isSome
 | .binOp op t x (.const (.map none)) _,.isNilM op' y=>zhg op op' && okOpd x y && mapB P t
 | .lookup t x i ok,.lookup ks z ok' x' i'=>okOpd x x' && okOpd i i' && ok == ok' && (match mapTB P t with | some (kt,el)=>keyB P ks kt && (match (P.info? el).bind (·.zero) with | some zv=>za8 z zv | none=>false) | none=>false)
 | .call {callee:=.builtin .len,args:=⟨[x]⟩,argTypes:=⟨[t]⟩},.lenM y=>okOpd x y && mapB P t
 | .call {callee:=.builtin .min,args:=⟨[x,y]⟩,..},.mm false x' y'=>okOpd x x' && okOpd y y'
 | .call {callee:=.builtin .max,args:=⟨[x,y]⟩,..},.mm true x' y'=>okOpd x x' && okOpd y y'
 | .slice t x lo hi none,.sliceS x' lo' hi'=>okOpd x x' && okOpt lo lo' && okOpt hi hi' && strB P t
 | .fieldAddr t x i,.fieldAddr off k y=>okOpd x y && (match zgg P t with
  | some fs=>(match fs[i]? with | some f=>f.offset == off && okK P f.type k && sizeB P f.type != some 0 | none=>false)
  | none=>false)
 | .field t x i,.field off k y=>okOpd x y && (match zgg P t with
  | some fs=>(match fs[i]? with | some f=>f.offset == off && okK P f.type k | none=>false)
  | none=>false)
 | .indexAddr t x i,.indexAddr sz x' i'=>okOpd x x' && okOpd i i' && (match elemB P t with | some e=>sizeB P e == some sz | none=>false)
 | .index t x i,.index x' i'=>okOpd x x' && okOpd i i' && strB P t
 | .extract x i,.extract y i'=>okOpd x y && i == i'
 | .call {callee:=.builtin .len,args:=⟨[x]⟩,argTypes:=⟨[t]⟩},.len y=>okOpd x y && (elemB P t).isSome
 | .call {callee:=.builtin .len,args:=⟨[x]⟩,argTypes:=⟨[t]⟩},.lenS y=>okOpd x y && strB P t
 | .binOp op t x y _,.eqA op' ks x' y'=>zhg op op' && okOpd x x' && okOpd y y' && zrq P t ks
 | _,_=>false
def zal (ι:Imm) (j lb:Lay):Val→Value→Prop
 | .c c,x=>Rep ι j c.d x
 | .l b off,x=>∃ B,lb b=some B∧x=.pointer (some ⟨B,off,none⟩)
section
variable [LoopKit] {P:Program} {ι:Imm} {j:Lay} {own:Own} {lb:Lay} {N:Nat} {e:Env} {a:Go.Act} {w:World} {σ:Store}
theorem zyn (hL:LSim ι j own lb N e a w) {o:Oper} {x:Operand} {y:AOpd} (ho:o.op=.move x∨o.op=.assign x) (hk:okOpd x y=true) {v:Val} (h:evalV (.mov y) e σ=some v) :
  ∃ u,(execOp a.eval o).run P w=.ok (.value u) w∧zal ι j lb v u:=by
 simp only [evalV] at h
 obtain ⟨c,h1,h2⟩:=zaa h
 cases h2
 refine ⟨a.eval x,?_,zah hL hk h1⟩
 rcases ho with ho | ho <;> simp only [execOp,ho,Sem.run_pure]
theorem zl2b (hL:LSim ι j own lb N e a w) {o:Oper} {x y z:Operand} {x' y' z':AOpd} (ho:o.op=.pick x y z) (hk:okOpd x x'=true) (hk1:okOpd y y'=true) (hk2:okOpd z z'=true) {v:Val}
  (h:evalV (.pick x' y' z') e σ=some v):∃ u,(execOp a.eval o).run P w=.ok (.value u) w∧zal ι j lb v u:=by
 simp only [evalV] at h
 obtain ⟨c,h1,h⟩:=zaa h
 obtain ⟨t,h2,h⟩:=zaa h
 obtain ⟨c',h3,h⟩:=zaa h
 cases h
 have hr:=zah hL hk h1
 have hb:a.eval x=.bool t:=by
  cases hd:c.d <;> rw [hd] at h2 <;> simp only [D.bool?,reduceCtorEq,Option.some.injEq] at h2
  subst h2
  rw [hd] at hr
  simpa only [Rep] using hr
 refine ⟨if t then a.eval y else a.eval z,?_,?_⟩
 ·simp only [execOp,ho,hb,asBool,Sem.run_bind,Sem.run_pure,Result.andThen_ok]
 ·cases t with
  | true=>rw [zac] at h3; exact zah (c:=c') hL hk1 h3
  | false=>rw [zad] at h3; exact zah (c:=c') hL hk2 h3
theorem zgb (hG:GSim ι j own σ w) (hL:LSim ι j own lb N e a w) {o:Oper} {t:TypeId} {x:Operand} {y:AOpd} {k:Option Nat} {mv:Bool} (ho:o.op=.load t x) (hk:okOpd x y=true) (hk1:okK P t k=true) {v:Val}
  (h:evalV (.load k mv y) e σ=some v):∃ u,(execOp a.eval o).run P w=.ok (.value u) w∧zal ι j lb v u:=by
 have fin:∀ {b off:Nat} {u:Value},a.eval x=.pointer (some ⟨b,off,none⟩)→(loadVar t ⟨b,off,none⟩).run P w=.ok u w→(execOp a.eval o).run P w=.ok (.value u) w:=by
  intro b off u h1 h2
  simp only [execOp,ho,h1,Instr.loadAt,Instr.sureAddr,Sem.run_bind,Sem.run_pure,Result.andThen_ok,h2]
 simp only [evalV] at h
 obtain ⟨p,hp,h⟩:=zaa h
 have hr:=zca hL hk hp
 cases p with
 | loc b off =>
  obtain ⟨B,hB,hx⟩:=hr
  obtain ⟨cs,h1,h⟩:=zaa h
  obtain ⟨c,h2,h⟩:=zaa h
  cases h
  obtain ⟨B',hB',_,hbox⟩:=hL.boxes b cs h1
  rw [hB] at hB'
  cases hB'
  obtain ⟨u,hu,hru,_⟩:=zdj hbox hk1 h2
  exact ⟨u,fin hx hu,hru⟩
 | ptr id off =>
  obtain ⟨B,hB,hx⟩:=hr
  obtain ⟨cs,h1,h⟩:=zaa h
  obtain ⟨c,h2,h⟩:=zaa h
  cases h
  obtain ⟨B',hB',_,hbox⟩:=hG.objs id cs h1
  rw [hB] at hB'
  cases hB'
  obtain ⟨u,hu,hru,_⟩:=zdj hbox hk1 h2
  exact ⟨u,fin hx hu,hru⟩
 | eptr d =>
  obtain ⟨b,off,u,hx,hat,hd⟩:=hr
  have hc:∀ i x,u.cells[i]?=some x→w.cell? ⟨b,off + i,none⟩=some x:=fun i x hi=>hG.holds _ _ _ (hat i x hi)
  cases k with
  | none =>
   obtain ⟨h1,h⟩:=zae h
   cases h
   exact ⟨u,fin hx (zeo hk1 b off hc (hd.oneCell h1).2),hd⟩
  | some n =>
   obtain ⟨cs,h1,h⟩:=zaa h
   obtain ⟨h2,h⟩:=zae h
   cases h
   simp only [beq_iff_eq] at h2
   refine ⟨u,fin hx (zeo hk1 b off hc ?_),hd⟩
   cases d <;> simp only [D.agg?,reduceCtorEq,Option.some.injEq] at h1
   subst h1
   simp only [Rep] at hd
   obtain ⟨vs,rfl,hl,_⟩:=hd
   exact ⟨vs,rfl,by rw [hl.length]; exact h2⟩
theorem zyo (hL:LSim ι j own lb N e a w) {o:Oper} {x:Operand} {y:AOpd} (ho:o.op=.nilCheck x) (hk:okOpd x y=true) {v:Val} (h:evalV (.nilCheck y) e σ=some v) :
  ∃ u,(execOp a.eval o).run P w=.ok (.value u) w∧zal ι j lb v u:=by
 simp only [evalV] at h
 obtain ⟨p,hp,h⟩:=zaa h
 have hr:=zca hL hk hp
 cases p with
 | loc b off =>
  cases h
  obtain ⟨B,hB,hx⟩:=hr
  exact ⟨.pointer (some ⟨B,off,none⟩),by simp only [execOp,ho,hx,Sem.run_pure],B,hB,rfl⟩
 | ptr id off =>
  cases h
  obtain ⟨B,hB,hx⟩:=hr
  exact ⟨.pointer (some ⟨B,off,none⟩),by simp only [execOp,ho,hx,Sem.run_pure],by simp only [zal,Rep]; exact ⟨B,hB,rfl⟩⟩
 | eptr d =>
  cases h
  obtain ⟨b,off,u,hx,hat,hd⟩:=hr
  exact ⟨.pointer (some ⟨b,off,none⟩),by simp only [execOp,ho,hx,Sem.run_pure],by simp only [zal,Rep]; exact ⟨b,off,u,rfl,hat,hd⟩⟩
theorem za6b (hL:LSim ι j own lb N e a w) {o:Oper} {x:Operand} {y:AOpd} (ho:o.op=.assign x) (hk:okOpd x y=true) {v:Val} (h:evalV (.nilCheck y) e σ=some v) :
  ∃ u,(execOp a.eval o).run P w=.ok (.value u) w∧zal ι j lb v u:=by
 simp only [evalV] at h
 obtain ⟨p,hp,h⟩:=zaa h
 have hr:=zca hL hk hp
 cases p with
 | loc b off =>
  cases h
  obtain ⟨B,hB,hx⟩:=hr
  exact ⟨.pointer (some ⟨B,off,none⟩),by simp only [execOp,ho,hx,Sem.run_pure],B,hB,rfl⟩
 | ptr id off =>
  cases h
  obtain ⟨B,hB,hx⟩:=hr
  exact ⟨.pointer (some ⟨B,off,none⟩),by simp only [execOp,ho,hx,Sem.run_pure],by simp only [zal,Rep]; exact ⟨B,hB,rfl⟩⟩
 | eptr d =>
  cases h
  obtain ⟨b,off,u,hx,hat,hd⟩:=hr
  exact ⟨.pointer (some ⟨b,off,none⟩),by simp only [execOp,ho,hx,Sem.run_pure],by simp only [zal,Rep]; exact ⟨b,off,u,rfl,hat,hd⟩⟩
theorem zzg (op:BinOp) (t:TypeId) (x y:Operand) (k k':IntKind) (m n:Int):eqGuard op t x y (.int k m) (.int k' n)=pure ():=by
 unfold eqGuard; cases op <;> rfl
theorem zzh (op:BinOp) (t:TypeId) (x y:Operand) (m n:ByteArray):eqGuard op t x y (.string m) (.string n)=pure ():=by
 unfold eqGuard; cases op <;> rfl
theorem zv3 (op:BinOp) (t:TypeId) (x y:Operand) (m n:Bool):eqGuard op t x y (.bool m) (.bool n)=pure ():=by
 unfold eqGuard; cases op <;> rfl
def vOf:D→Value
 | .int k n=>.int k n
 | .bool b=>.bool b
 | .str s=>.string ⟨⟨s⟩⟩
 | _=>Go.undef
theorem zcqb {op:BinOp} {k:IntKind} {m n:Int} {d:D} (h:zbg op k m n=some d) (t:TypeId):(binOp op t (.int k m) (.int k n)).run P w=.ok (vOf d) w∧Rep ι j d (vOf d):=by
 cases op
 case quo =>
  simp only [zbg] at h
  obtain ⟨h1,h⟩:=zae' h
  have h1':n≠0:=by intro e; subst e; simp at h1
  cases h
  exact ⟨by simp [binOp,Op.intDiv,h1',vOf],by simp only [Rep,vOf]⟩
 case rem =>
  simp only [zbg] at h
  obtain ⟨h1,h⟩:=zae' h
  have h1':n≠0:=by intro e; subst e; simp at h1
  cases h
  exact ⟨by simp [binOp,Op.intDiv,h1',vOf],by simp only [Rep,vOf]⟩
 all_goals simp only [zbg,reduceCtorEq,Option.some.injEq] at h
 all_goals subst h
 all_goals exact ⟨by simp [binOp,Op.intArith,Op.intCmp,vOf],by simp only [Rep,vOf]⟩
theorem zcrb {op:BinOp} {m n:List UInt8} {d:D} (h:zcj op m n=some d) (t:TypeId):(binOp op t (.string ⟨⟨m⟩⟩) (.string ⟨⟨n⟩⟩)).run P w=.ok (vOf d) w∧Rep ι j d (vOf d):=by
 cases op
 case add =>
  simp only [zcj] at h
  obtain ⟨h1,h⟩:=zae h
  cases h
  simp only [decide_eq_true_eq] at h1
  have h2:¬ (((⟨⟨m⟩⟩:ByteArray).size + (⟨⟨n⟩⟩:ByteArray).size:Nat):Int) > IntKind.i64.max:=by
   show ¬ ((m.length + n.length:Nat):Int) > 9223372036854775807
   omega
  have h3:(⟨⟨m⟩⟩ ++ ⟨⟨n⟩⟩:ByteArray)=⟨⟨m ++ n⟩⟩:=by
   apply ByteArray.ext
   apply Array.ext'
   simp
  refine ⟨?_,by simp only [Rep,vOf]⟩
  simp only [binOp,Op.stringOp]
  rw [if_neg h2,h3]
  rfl
 all_goals simp only [zcj,reduceCtorEq,Option.some.injEq] at h
 all_goals subst h
 all_goals exact ⟨by simp [binOp,Op.stringOp,vOf],by simp only [Rep,vOf]⟩
theorem zoqb (hL:LSim ι j own lb N e a w) {o:Oper} {op:BinOp} {t u:TypeId} {x y:Operand} {x' y':AOpd} (ho:o.op=.binOp op t x y u) (hk:okOpd x x'=true) (hk1:okOpd y y'=true) {v:Val}
  (h:evalV (.bin op x' y') e σ=some v):∃ u,(execOp a.eval o).run P w=.ok (.value u) w∧zal ι j lb v u:=by
 simp only [evalV] at h
 obtain ⟨c,h1,h⟩:=zaa h
 obtain ⟨c',h2,h⟩:=zaa h
 obtain ⟨d,h3,h⟩:=zaa h
 cases h
 have r1:=zah hL hk h1
 have r2:=zah hL hk1 h2
 revert h3 r1 r2
 generalize c.d=d1
 generalize c'.d=d2
 intro h3 r1 r2
 unfold binD at h3
 split at h3
 ·obtain ⟨hkk,h4⟩:=zae h3
  have hkk:=zkr hkk
  subst hkk
  simp only [Rep] at r1 r2
  obtain ⟨hz,hr⟩:=zcqb (P:=P) (w:=w) (ι:=ι) (j:=j) h4 t
  exact ⟨vOf d,by simp only [execOp,ho,r1,r2,zzg,Sem.run_bind,Sem.run_pure,Result.andThen_ok,hz],hr⟩
 ·simp only [Rep] at r1 r2
  obtain ⟨hz,hr⟩:=zcrb (P:=P) (w:=w) (ι:=ι) (j:=j) h3 t
  exact ⟨vOf d,by simp only [execOp,ho,r1,r2,zzh,Sem.run_bind,Sem.run_pure,Result.andThen_ok,hz],hr⟩
 ·cases h3
theorem zlc {t:TypeId} (ht:P.underlying t=some .bool) (p q:Bool):(Op.equal t (.bool p) (.bool q)).run P w=.ok (p == q) w:=by
 show (Op.equalIn (9999 + 1) t (.bool p) (.bool q)).run P w=_
 rw [Op.equalIn]
 simp only [Sem.run_bind,run_underlying ht,Result.andThen_ok]
 rfl
theorem zyu {op:BinOp} {p q:Bool} {d:D} (h:zfa op p q=some d) {t:TypeId} (ht:P.underlying t=some .bool):(binOp op t (.bool p) (.bool q)).run P w=.ok (vOf d) w∧Rep ι j d (vOf d):=by
 cases op <;> simp only [zfa,reduceCtorEq,Option.some.injEq] at h
 ·subst h
  have:binOp .eql t (.bool p) (.bool q)=(do pure (.bool (← Op.equal t (.bool p) (.bool q)))):=rfl
  exact ⟨by rw [this]; simp only [Sem.run_bind,zlc ht,Result.andThen_ok,Sem.run_pure,vOf],by simp only [Rep,vOf]⟩
 ·subst h
  have:binOp .neq t (.bool p) (.bool q)=(do pure (.bool (!(← Op.equal t (.bool p) (.bool q))))):=rfl
  exact ⟨by rw [this]; simp only [Sem.run_bind,zlc ht,Result.andThen_ok,Sem.run_pure,vOf],by simp only [Rep,vOf]⟩
theorem zlzb (hL:LSim ι j own lb N e a w) {o:Oper} {op:BinOp} {t u:TypeId} {x y:Operand} {x' y':AOpd} (ho:o.op=.binOp op t x y u) (hk:okOpd x x'=true) (hk1:okOpd y y'=true) (ht:boolB P t=true) {v:Val}
  (h:evalV (.binB op x' y') e σ=some v):∃ u,(execOp a.eval o).run P w=.ok (.value u) w∧zal ι j lb v u:=by
 have ht:P.underlying t=some .bool:=by
  unfold boolB at ht
  split at ht
  ·assumption
  ·cases ht
 simp only [evalV] at h
 obtain ⟨c,h1,h⟩:=zaa h
 obtain ⟨c',h2,h⟩:=zaa h
 obtain ⟨d,h3,h⟩:=zaa h
 cases h
 have r1:=zah hL hk h1
 have r2:=zah hL hk1 h2
 revert h3 r1 r2
 generalize c.d=d1
 generalize c'.d=d2
 intro h3 r1 r2
 unfold binBD at h3
 split at h3
 ·rename_i p q
  simp only [Rep] at r1 r2
  obtain ⟨hz,hr⟩:=zyu (P:=P) (w:=w) (ι:=ι) (j:=j) h3 ht
  exact ⟨vOf d,by simp only [execOp,ho,r1,r2,zv3,Sem.run_bind,Sem.run_pure,Result.andThen_ok,hz],hr⟩
 ·cases h3
theorem zopb {op:UnOp} {d1 d:D} (h:unD op d1=some d) {u:Value} (hr:Rep ι j d1 u):(Op.unary op u).run P w=.ok (vOf d) w∧Rep ι j d (vOf d):=by
 unfold unD at h
 split at h
 ·rename_i b
  cases h
  simp only [Rep] at hr
  subst hr
  exact ⟨rfl,by simp only [Rep,vOf]⟩
 ·rename_i k n
  cases h
  simp only [Rep] at hr
  subst hr
  exact ⟨rfl,by simp only [Rep,vOf]⟩
 ·cases h
theorem zqab (hL:LSim ι j own lb N e a w) {o:Oper} {op:UnOp} {t:TypeId} {x:Operand} {x':AOpd} (ho:o.op=.unOp op t x) (hk:okOpd x x'=true) {v:Val}
  (h:evalV (.un op x') e σ=some v):∃ u,(execOp a.eval o).run P w=.ok (.value u) w∧zal ι j lb v u:=by
 simp only [evalV] at h
 obtain ⟨c,h1,h⟩:=zaa h
 obtain ⟨d,h3,h⟩:=zaa h
 cases h
 obtain ⟨hz,hr⟩:=zopb (P:=P) (w:=w) h3 (zah hL hk h1)
 exact ⟨vOf d,by simp only [execOp,ho,hz,Sem.run_bind,Sem.run_pure,Result.andThen_ok],hr⟩
end
end Go.Mx

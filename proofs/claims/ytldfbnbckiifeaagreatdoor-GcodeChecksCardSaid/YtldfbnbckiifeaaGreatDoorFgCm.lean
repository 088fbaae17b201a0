/-
 One instruction,as the program's keeps takes it: all of it.
-/
import Derived.Test.YtldfbnbckiifeaaGreatDoorFgCja
import Derived.Test.YtldfbnbckiifeaaGreatDoorFgCjb
import Derived.Test.YtldfbnbckiifeaaGreatDoorFgCjc
import Derived.Test.YtldfbnbckiifeaaGreatDoorFgCjd
import Derived.Test.YtldfbnbckiifeaaGreatDoorFgCje
import Derived.Test.YtldfbnbckiifeaaGreatDoorFgCe
import Derived.Shelf.Sort.Plain
import Derived.Shelf.Slices.CompactS
import Derived.Ground.NamesProg
import Derived.Test.YtldfbnbckiifeaaGreatDoorProg
import Derived.Test.YtldfbnbckiifeaaGreatDoorMySym
set_option maxHeartbeats 4000000
set_option linter.unusedSimpArgs false
set_option linter.unusedVariables false
set_option linter.unusedSectionVars false
namespace Go.Fu
open Go Go.Mx
set_option maxRecDepth 10000
set_option maxHeartbeats 8000000
def kst2 (i:In) (e2 d:Int) (k:Nat) (ds1:List Int):Option (List Int) :=
 ifB (!(i.op == [85,78,87,73,78,68]) && (!(i.op == [74,85,77,80]) && (!(i.op == [70,65,73,76]) || decide (ds1.getD (k + 1) 0 < 0)))) (tellM (k + 1) (IntKind.i64.wrap (d + e2)) ds1) (some ds1)
theorem zn3b (s:Bool) (i:In) (e1 e2 d:Int) (k:Nat) (ds:List Int):kst s i e1 e2 d k ds=bindO (kst1 s i e1 d ds) (kst2 i e2 d k):=by
 unfold kst kst1 kst2
 cases (!s || (decide (d < 0) || (decide (d < e1) || (i.op == [85,78,87,73,78,68] && (d != 0))))) <;> rfl
def Ege (fs:List Fd) (ns:List Tx) (b:List In) (k:Nat):Env:={slots:=[(0,⟨false,dFs fs⟩),(1,⟨false,dSs ns⟩),(7,⟨false,.int .i64 b.length⟩),(8,⟨false,.ptr 2 0⟩),(10,⟨false,tellF⟩),(72,⟨false,dIs b⟩),(73,⟨false,.int .i64 b.length⟩),(74,⟨false,.int .i64 k⟩),(234,⟨false,.bool false⟩)],locs:=[],boxes:=[],defers:=[]}
theorem gB5x {S:Specs} {N n:Nat} (h1:has S n_9=false) (fs:List Fd) (ns:List Tx) (b:List In) (k p m:Nat) (e1 e2 d:Int) (i:In) (σ:Store) (ds:List Int) (hp:aget σ.objs p=some (inC i)) (h:KS σ m ds) (hk:k < b.length) (hl:b.length < 1000000000) (hm:m=b.length + 1) :
  (kst2 i e2 d k ds=none∧∃ σ',exec (T S (N + 1)) n none gB6 (Egd fs ns b k p e1 e2 d) σ=some (.ret,Ef6,σ')) ∨
  (∃ ds2 σ',kst2 i e2 d k ds=some ds2∧exec (T S (N + 1)) n none gB6 (Egd fs ns b k p e1 e2 d) σ=some (.normal,Ege fs ns b k,σ')∧KS σ' m ds2):=by
 have ht:=zd2 (S:=S) h1 N σ m (k + 1) (IntKind.i64.wrap (d + e2)) ds h (by omega)
 have hfn:D.fn? tellF=some (n_9,[],[.ptr 2 0]):=rfl
 have w:=zag (i:=k) (by omega)
 have hb:=h.b
 have ha:=h.a
 have hds:=h.l
 have x1:=zf9 0 m (k + 1) (by omega)
 have n1:=zeg ds (k + 1) (by omega)
 obtain ⟨op,x,y,nm⟩:=i
 simp only [inC] at hp
 unfold kst2
 simp only
 have both:∀ (g:op=[70,65,73,76]→ds.getD (k + 1) 0 < 0) (eU:(op == [85,78,87,73,78,68])=false) (eJ:(op == [74,85,77,80])=false),
   (tellM (k + 1) (IntKind.i64.wrap (d + e2)) ds=none∧∃ σ',exec (T S (N + 1)) n none gB6 (Egd fs ns b k p e1 e2 d) σ=some (.ret,Ef6,σ')) ∨
   (∃ ds2 σ',tellM (k + 1) (IntKind.i64.wrap (d + e2)) ds=some ds2∧exec (T S (N + 1)) n none gB6 (Egd fs ns b k p e1 e2 d) σ=some (.normal,Ege fs ns b k,σ')∧KS σ' m ds2):=fun g eU eJ=>by
  cases eF:op == [70,65,73,76] with
  | true =>
   have g1:¬ 0≤ds.getD (k + 1) 0:=by have:=g (by simpa using eF); omega
   cases hq:tellM (k + 1) (IntKind.i64.wrap (d + e2)) ds with
   | none =>
    rw [hq] at ht
    simp only at ht
    exact Or.inl ⟨rfl,σ,by simp only [seqL,seqR,blkB,gB,gB1,gB2,gB3,gB4,gB5,gB6,a_2,Egd,Ef6,sA,seval,kn,hp,hb,ha,natI,x1,n1,w,g1,eU,eJ,eF,hfn,ht]⟩
   | some ds2 =>
    rw [hq] at ht
    obtain ⟨σ',ht,k1,k2,k3⟩:=ht
    exact Or.inr ⟨ds2,σ',rfl,by simp only [seqL,seqR,blkB,gB,gB1,gB2,gB3,gB4,gB5,gB6,a_2,Egd,Ege,sA,seval,kn,hp,hb,ha,natI,x1,n1,w,g1,eU,eJ,eF,hfn,ht],k1⟩
  | false =>
   cases hq:tellM (k + 1) (IntKind.i64.wrap (d + e2)) ds with
   | none =>
    rw [hq] at ht
    simp only at ht
    exact Or.inl ⟨rfl,σ,by simp only [seqL,seqR,blkB,gB,gB1,gB2,gB3,gB4,gB5,gB6,a_2,Egd,Ef6,sA,seval,kn,hp,hb,ha,natI,x1,n1,w,eU,eJ,eF,hfn,ht]⟩
   | some ds2 =>
    rw [hq] at ht
    obtain ⟨σ',ht,k1,k2,k3⟩:=ht
    exact Or.inr ⟨ds2,σ',rfl,by simp only [seqL,seqR,blkB,gB,gB1,gB2,gB3,gB4,gB5,gB6,a_2,Egd,Ege,sA,seval,kn,hp,hb,ha,natI,x1,n1,w,eU,eJ,eF,hfn,ht],k1⟩
 cases eU:op == [85,78,87,73,78,68] with
 | true =>
  exact Or.inr ⟨ds,σ,by simp only [Bool.not_true,Bool.false_and,zab],by simp only [seqL,seqR,blkB,gB,gB1,gB2,gB3,gB4,gB5,gB6,a_2,Egd,Ege,sA,seval,kn,hp,eU],h⟩
 | false =>
  cases eJ:op == [74,85,77,80] with
  | true =>
   exact Or.inr ⟨ds,σ,by simp only [Bool.not_true,Bool.false_and,Bool.and_false,zab],by simp only [seqL,seqR,blkB,gB,gB1,gB2,gB3,gB4,gB5,gB6,a_2,Egd,Ege,sA,seval,kn,hp,eU,eJ],h⟩
  | false =>
   by_cases g:op=[70,65,73,76]∧¬ ds.getD (k + 1) 0 < 0
   ·have eF:(op == [70,65,73,76])=true:=by rw [g.1]; rfl
    have g1:0≤ds.getD (k + 1) 0:=by omega
    have g2:=g.2
    exact Or.inr ⟨ds,σ,by simp only [eF,g2,decide_false,Bool.not_true,Bool.not_false,Bool.or_false,Bool.and_false,zab],by simp only [seqL,seqR,blkB,gB,gB1,gB2,gB3,gB4,gB5,gB6,a_2,Egd,Ege,sA,seval,kn,hp,hb,ha,natI,x1,n1,w,g1,eU,eJ,eF],h⟩
   ·have hcond:(!(op == [70,65,73,76]) || decide (ds.getD (k + 1) 0 < 0))=true:=by
     cases eF:op == [70,65,73,76] with
     | false=>rfl
     | true =>
      have hlt:ds.getD (k + 1) 0 < 0:=Classical.byContradiction fun hn=>g ⟨by simpa using eF,hn⟩
      rw [decide_eq_true hlt]
      rfl
    simp only [hcond,Bool.not_false,Bool.and_self,zac]
    exact both (fun ho=>Classical.byContradiction fun hn=>g ⟨ho,hn⟩) eU eJ
theorem gW1 {C:CallF} {n:Nat} (X:ACode) (fs:List Fd) (ns:List Tx) (b:List In) (k:Nat) (σ:Store) (hk:k < b.length) :
  exec C n none (.seq (seqL a_2) (.seq (seqL (seqR a_2)) (.seq (.block 3 X) (seqR (seqR (seqR a_2)))))) (Eg fs ns b k) σ=thenX (zfe 3 (exec C n none X (Egt fs ns b k) σ)) (exec C n none (seqR (seqR (seqR a_2)))):=by
 have hlt:((k:Int) < (b.length:Int)):=by omega
 simp only [seqL,seqR,a_2,Eg,Egt,sA,seval,kn,hlt]
theorem gW2 {C:CallF} {n:Nat} (fs:List Fd) (ns:List Tx) (b:List In) (k:Nat) (σ:Store) (hk:k < b.length) (hl:b.length < 1000000000) :
  exec C n none (seqR (seqR (seqR a_2))) (Ege fs ns b k) σ=some (.normal,Eg fs ns b (k + 1),σ):=by
 have w:=zag (i:=k) (by omega)
 simp only [seqL,seqR,a_2,Eg,Ege,sA,seval,kn,w]
theorem znwb:a_2=.seq (seqL a_2) (.seq (seqL (seqR a_2)) (.seq (.block 3 gB) (seqR (seqR (seqR a_2))))):=rfl
theorem znrb {C:CallF} {n:Nat} (fs:List Fd) (ns:List Tx) (b:List In) (σ:Store):exec C n none a_2 (Eg fs ns b b.length) σ=some (.exit 2,{Eg fs ns b b.length with slots:=[(0,⟨false,dFs fs⟩),(1,⟨false,dSs ns⟩),(7,⟨false,.int .i64 b.length⟩),(8,⟨false,.ptr 2 0⟩),(10,⟨false,tellF⟩),(72,⟨false,dIs b⟩),(73,⟨false,.int .i64 b.length⟩),(74,⟨false,.int .i64 b.length⟩),(75,⟨false,.bool false⟩)]},σ):=by
 have hlt:¬ ((b.length:Int) < (b.length:Int)):=by omega
 simp only [a_2,Eg,sA,seval,kn,hlt]
theorem znab {op:Tx} {x y:Int} {nm:Tx} (h:(effM ⟨op,x,y,nm⟩).2.2=false):cntM op=false:=by
 cases hc:cntM op with
 | false=>rfl
 | true =>
  simp only [cntM,Bool.or_eq_true,beq_iff_eq] at hc
  rcases hc with (((((rfl | rfl) | rfl) | rfl) | rfl) | rfl) | rfl <;> cases h
theorem zzw {fs:List Fd} {ns:List Tx} {i:In} {k l:Int} (eG:(i.op == [80,85,83,72,71])=false) (eP:(i.op == [80,65,67,75])=false) (eT:(i.op == [84,69,83,84])=false) (eI:(i.op == [84,69,83,84,73])=false) (eJ:(i.op == [74,85,77,80])=false):zfl fs ns i k l=ifB (cntM i.op) (rngM i.n) (effM i).2.2:=by
 unfold zfl cntM
 rw [eG,eP,eT,eI,eJ]
 cases i.op == [80,85,83,72,65] <;> cases i.op == [83,76,73,68,69] <;> cases i.op == [80,79,80] <;> cases i.op == [85,80,68,65,84,69] <;> cases i.op == [65,76,76,79,67] <;> cases i.op == [83,80,76,73,84] <;> rfl
def SGk:Specs:=[(n_20,zbcb),(n_16,zk1)]
theorem zclb {N n:Nat} (fs:List Fd) (ns:List Tx) (b:List In) (k m:Nat) (ds:List Int) (σ:Store) (hf:fs.length < 100000000) (hN:fs.length < N + 1) (hn:ns.length < 1000000000) (hk:k < b.length) (hl:b.length < 1000000000) (hm:m=b.length + 1) (h:KS σ m ds) :
  (∃ ds' e' σ',kstM fs ns b k ds=some ds'∧exec (T SGk (N + 3)) n none a_2 (Eg fs ns b k) σ=some (.normal,e',σ')∧e'=Eg fs ns b (k + 1)∧KS σ' m ds') ∨
  (kstM fs ns b k ds=none∧∃ σ',exec (T SGk (N + 3)) n none a_2 (Eg fs ns b k) σ=some (.ret,Ef6,σ')):=by
 have hx:=idx_I b k hk
 rw [← zaq b k i0 hk] at hx
 unfold kstM
 rw [zn3b]
 generalize b.getD k i0=i at hx ⊢
 have hp3:=h.n
 have hsg:=SG_KS (i:=i) h
 have hob:=zmyb (i:=i) (σ:=σ)
 have hG:∀ σ,T SGk (N + 2 + 1) n_20 [dI i] σ=some (.ret ⟨false,.bool (goesI i.op)⟩,σ):=fun σ=>zeyb (S:=SGk) rfl i _ σ
 have hC:∀ σ,T SGk (N + 2 + 1) n_16 [dSs ns,.str i.name] σ=some (.ret ⟨false,.bool (ns.any (· == i.name))⟩,σ):=fun σ=>zmr (S:=SGk) rfl ns i.name hn _ σ
 have hB:GB4 SGk (N + 2) n fs ns b k σ.next m (effM i).1 (effM i).2.1 (ds.getD k 0) (effM i).2.2 (cntM i.op) (fs.any (packQ i)) (zfl fs ns i k b.length) i (SG i σ) ds:=by
  have hlt:b.length < m:=by omega
  cases eG:i.op == [80,85,83,72,71] with
  | true =>
   have ho:i.op=[80,85,83,72,71]:=by simpa using eG
   refine gB4_G (S:=SGk) (N:=N + 2) rfl fs ns b k _ m _ _ _ _ _ _ _ _ i _ ds hp3 hob hsg hlt hG hC ho ?_ ?_ ?_
   ·simp only [zfl,eG,zac]
   ·obtain ⟨op,x,y,nm⟩:=i; simp only at ho; subst ho; rfl
   ·rw [ho]; rfl
  | false =>
  cases eP:i.op == [80,65,67,75] with
  | true =>
   have ho:i.op=[80,65,67,75]:=by simpa using eP
   refine gB4_P (S:=SGk) (N:=N + 2) rfl fs ns b k _ m _ _ _ _ _ _ _ _ i _ ds hp3 hob hsg hlt hG hC ho ?_ ?_ ?_
   ·rw [zdfb eP]
    obtain ⟨op,x,y,nm⟩:=i; simp only at ho; subst ho; rfl
   ·obtain ⟨op,x,y,nm⟩:=i; simp only at ho; subst ho; rfl
   ·rw [ho]; rfl
  | false =>
  cases eT:i.op == [84,69,83,84] with
  | true =>
   have ho:i.op=[84,69,83,84]:=by simpa using eT
   refine gB4_T (S:=SGk) (N:=N + 2) rfl fs ns b k _ m _ _ _ _ _ _ _ _ i _ ds hp3 hob hsg hlt hG hC ho ?_ ?_ ?_
   ·rw [zdeb eP]
    obtain ⟨op,x,y,nm⟩:=i; simp only at ho; subst ho; rfl
   ·obtain ⟨op,x,y,nm⟩:=i; simp only at ho; subst ho; rfl
   ·rw [ho]; rfl
  | false =>
  cases eI:i.op == [84,69,83,84,73] with
  | true =>
   have ho:i.op=[84,69,83,84,73]:=by simpa using eI
   refine gB4_I (S:=SGk) (N:=N + 2) rfl fs ns b k _ m _ _ _ _ _ _ _ _ i _ ds hp3 hob hsg hlt hG hC ho ?_ ?_ ?_
   ·obtain ⟨op,x,y,nm⟩:=i; simp only at ho; subst ho; rfl
   ·obtain ⟨op,x,y,nm⟩:=i; simp only at ho; subst ho; rfl
   ·rw [ho]; rfl
  | false =>
  cases eJ:i.op == [74,85,77,80] with
  | true =>
   have ho:i.op=[74,85,77,80]:=by simpa using eJ
   refine gB4_J (S:=SGk) (N:=N + 2) rfl fs ns b k _ m _ _ _ _ _ _ _ _ i _ ds hp3 hob hsg hlt hG hC ho ?_ ?_ ?_
   ·obtain ⟨op,x,y,nm⟩:=i; simp only at ho; subst ho; rfl
   ·obtain ⟨op,x,y,nm⟩:=i; simp only at ho; subst ho; rfl
   ·rw [ho]; rfl
  | false =>
  have hso:=zzw (fs:=fs) (ns:=ns) (k:=(k:Int)) (l:=(b.length:Int)) eG eP eT eI eJ
  cases eU:i.op == [85,78,87,73,78,68] with
  | true =>
   have ho:i.op=[85,78,87,73,78,68]:=by simpa using eU
   refine gB4_U (S:=SGk) (N:=N + 2) rfl fs ns b k _ m _ _ _ _ _ _ _ _ i _ ds hp3 hob hsg hlt hG hC ho ?_ ?_ ?_
   ·obtain ⟨op,x,y,nm⟩:=i; simp only at ho; subst ho; rfl
   ·obtain ⟨op,x,y,nm⟩:=i; simp only at ho; subst ho; rfl
   ·rw [ho]; rfl
  | false =>
  cases hi:(effM i).2.2 with
  | false =>
   have hcn:cntM i.op=false:=by obtain ⟨op,x,y,nm⟩:=i; exact znab hi
   rw [hi] at hso
   exact gB4_F (S:=SGk) (N:=N + 2) rfl fs ns b k _ m _ _ _ _ _ _ _ _ i _ ds hp3 hob hsg hlt hG hC eG eP eT eI eJ eU hso rfl hcn
  | true =>
   rw [hi] at hso
   cases hcn:cntM i.op with
   | false =>
    rw [hcn] at hso
    exact gB4_N (S:=SGk) (N:=N + 2) rfl fs ns b k _ m _ _ _ _ _ _ _ _ i _ ds hp3 hob hsg hlt hG hC eG eP eT eI eJ eU hso rfl rfl
   | true =>
    rw [hcn] at hso
    exact gB4_C (S:=SGk) (N:=N + 2) rfl fs ns b k _ m _ _ _ _ _ _ _ _ i _ ds hp3 hob hsg hlt hG hC eG eP eT eI eJ eU hso rfl rfl
 have hrun:exec (T SGk (N + 3)) n none a_2 (Eg fs ns b k) σ=thenX (zfe 3 (thenX (exec (T SGk (N + 3)) n none (seqL gB5) (Egc fs ns b k σ.next (effM i).1 (effM i).2.1 (ds.getD k 0) (effM i).2.2 (cntM i.op) (fs.any (packQ i))) (SG i σ)) (exec (T SGk (N + 3)) n none gB6))) (exec (T SGk (N + 3)) n none (seqR (seqR (seqR a_2)))):=by
  rw [znwb,gW1 (C:=T SGk (N + 3)) (n:=n) gB fs ns b k σ hk,gB_eq,gA1 (S:=SGk) (N:=N + 2) rfl gB3 fs ns b k m ds i σ hk (by omega) hx h,znsb,gA4 (C:=T SGk (N + 3)) (n:=n) gB4 fs ns b k σ.next _ _ _ _ i (SG i σ) hob,zntb,gA5 (S:=SGk) (N:=N) rfl rfl rfl gB5 fs hf hN ns b k σ.next _ _ _ _ _ i (SG i σ) hob,znub,zvh]
  rfl
 rw [hrun]
 rcases hB with ⟨hk1,σ',he⟩ | ⟨ds1,σ',hk1,he,q1,q2,q3⟩
 ·refine Or.inr ⟨by rw [hk1]; rfl,σ',?_⟩
  rw [he]
  rfl
 ·rw [hk1,he]
  rcases gB5x (S:=SGk) (N:=N + 2) (n:=n) rfl fs ns b k σ.next m (effM i).1 (effM i).2.1 (ds.getD k 0) i σ' ds1 q2 q1 hk hl hm with ⟨hk2,σ2,he2⟩ | ⟨ds2,σ2,hk2,he2,q4⟩
  ·refine Or.inr ⟨hk2,σ2,?_⟩
   show thenX (zfe 3 (exec (T SGk (N + 3)) n none gB6 _ σ')) _=_
   rw [he2]
   rfl
  ·refine Or.inl ⟨ds2,_,σ2,hk2,?_,rfl,q4⟩
   show thenX (zfe 3 (exec (T SGk (N + 3)) n none gB6 _ σ')) _=_
   rw [he2]
   exact gW2 (C:=T SGk (N + 3)) (n:=n) fs ns b k σ2 hk hl
end Go.Fu
namespace Go.Fu
open Go Go.Mx
set_option maxRecDepth 10000
set_option maxHeartbeats 8000000
theorem zl5b (i m:Nat) (h:i < m):(List.replicate i (-1:Int) ++ List.replicate (m - i) 0).set i (-1)=List.replicate (i + 1) (-1) ++ List.replicate (m - (i + 1)) 0:=by
 obtain ⟨r,hr⟩:∃ r,m - i=r + 1:=⟨m - i - 1,by omega⟩
 rw [hr,List.set_append_right _ _ (by simp),List.length_replicate,Nat.sub_self,List.replicate_succ,List.set_cons_zero,List.replicate_succ',List.append_assoc,show m - (i + 1)=r by omega]
 rfl
theorem zwy:∀ m:Nat,rowOf [.int .i64 0] m=cZ (List.replicate m 0)
 | 0=>rfl
 | m + 1=>by rw [rowOf,zwy m,List.replicate_succ]; rfl
section
variable {C:CallF} {n:Nat}
def E0g (fs:List Fd) (ns:List Tx) (c:Cd) (m i:Nat):Env:={slots:=[(0,⟨false,dFs fs⟩),(1,⟨false,dSs ns⟩),(7,⟨false,.int .i64 c.body.length⟩),(8,⟨false,.ptr 2 0⟩),(58,⟨false,.int .i64 m⟩),(59,⟨false,.int .i64 i⟩)],locs:=[(5,(5,0))],boxes:=[(5,[⟨false,.str c.name⟩,⟨false,.int .i64 c.arity⟩,⟨false,dIs c.body⟩])],defers:=[]}
theorem zk0b (fs:List Fd) (ns:List Tx) (c:Cd) (m i:Nat) (σ:Store) (ds:List Int) (h:KS σ m ds) (hi:i < m) (hm:m < 1000000000):∃ σ',exec C n none a_82 (E0g fs ns c m i) σ=some (.normal,E0g fs ns c m (i + 1),σ')∧KS σ' m (ds.set i (-1)):=by
 have hlt:((i:Int) < (m:Int)):=by omega
 have w:=zag (i:=i) (by omega)
 have hb:=h.b
 have ha:=h.a
 have hl:=h.l
 have x1:=zf9 0 m i hi
 have f1:i + 1≤(cZ ds).length:=by rw [zeq]; omega
 have p1:=zfk ds i (-1) (by omega)
 refine ⟨{σ with objs:=aset σ.objs 0 (cZ (ds.set i (-1)))},?_,⟨agA 0 _ _,?_,h.n,by simp; omega⟩⟩
 ·simp only [a_82,E0g,sA,seval,kn,memE,memOp,hlt,hb,ha,natI,x1,f1,p1,w]
 ·have:=agB 0 2 (cZ (ds.set i (-1))) rfl σ.objs
  rw [hb] at this
  exact this
theorem znqb (fs:List Fd) (ns:List Tx) (c:Cd) (m:Nat) (σ:Store):exec C n none a_82 (E0g fs ns c m m) σ=some (.exit 0,{E0g fs ns c m m with slots:=[(0,⟨false,dFs fs⟩),(1,⟨false,dSs ns⟩),(7,⟨false,.int .i64 c.body.length⟩),(8,⟨false,.ptr 2 0⟩),(58,⟨false,.int .i64 m⟩),(59,⟨false,.int .i64 m⟩),(60,⟨false,.bool false⟩)]},σ):=by
 have hlt:¬ ((m:Int) < (m:Int)):=by omega
 simp only [a_82,E0g,sA,seval,kn,hlt]
end
def SG0 (m:Nat):Store:={objs:=[(2,[⟨false,.arr k_int 0 0 m⟩]),(0,cZ (List.replicate m 0))],tys:=[(2,⟨t_262,0⟩),(0,⟨k_int.el,k_int.sz⟩)],oth:=[],next:=3}
theorem zvt (fs:List Fd) (ns:List Tx) (c:Cd) (hf:fs.length < 100000000) (hn:ns.length < 1000000000) (hb:c.body.length < 300000000) (m:Nat) (hm:m=c.body.length + 1) :
  ∃ σ1 σ2 x,loopN (exec (T SGk (fs.length + 3)) 1000000000 none a_82) 1000000000 (E0g fs ns c m 0) (SG0 m)=some (.exit 0,{E0g fs ns c m m with slots:=[(0,⟨false,dFs fs⟩),(1,⟨false,dSs ns⟩),(7,⟨false,.int .i64 c.body.length⟩),(8,⟨false,.ptr 2 0⟩),(58,⟨false,.int .i64 m⟩),(59,⟨false,.int .i64 m⟩),(60,⟨false,.bool false⟩)]},σ1) ∧
  T SGk (fs.length + 3) n_9 [.int .i64 0,.int .i64 c.arity,.ptr 2 0] σ1=some (.ret ⟨false,.bool true⟩,σ2) ∧
  loopN (exec (T SGk (fs.length + 3)) 1000000000 none a_2) 1000000000 (Eg fs ns c.body 0) σ2=some x ∧
  (match runM (kstM fs ns c.body) c.body.length 0 (c.arity :: List.replicate c.body.length (-1)) with
   | true=>∃ σ',x=(.exit 2,{Eg fs ns c.body c.body.length with slots:=[(0,⟨false,dFs fs⟩),(1,⟨false,dSs ns⟩),(7,⟨false,.int .i64 c.body.length⟩),(8,⟨false,.ptr 2 0⟩),(10,⟨false,tellF⟩),(72,⟨false,dIs c.body⟩),(73,⟨false,.int .i64 c.body.length⟩),(74,⟨false,.int .i64 c.body.length⟩),(75,⟨false,.bool false⟩)]},σ')
   | false=>∃ σ',x=(.ret,Ef6,σ')):=by
 have h0:KS (SG0 m) m (List.replicate m 0):=⟨rfl,rfl,Nat.le_refl _,by simp⟩
 obtain ⟨r,hr,σ1,rfl,hk1⟩:=zdd (body:=exec (T SGk (fs.length + 3)) 1000000000 none a_82)
  (fun i e σ=>e=E0g fs ns c m i∧KS σ m (List.replicate i (-1) ++ List.replicate (m - i) 0))
  (fun r=>∃ σ1,r=(.exit 0,{E0g fs ns c m m with slots:=[(0,⟨false,dFs fs⟩),(1,⟨false,dSs ns⟩),(7,⟨false,.int .i64 c.body.length⟩),(8,⟨false,.ptr 2 0⟩),(58,⟨false,.int .i64 m⟩),(59,⟨false,.int .i64 m⟩),(60,⟨false,.bool false⟩)]},σ1)∧KS σ1 m (List.replicate m (-1))) m
  (fun i e σ hi ⟨he,hk⟩=>by
   subst he
   obtain ⟨σ',h1,h2⟩:=zk0b (C:=T SGk (fs.length + 3)) (n:=1000000000) fs ns c m i σ _ hk hi (by omega)
   rw [zl5b i m hi] at h2
   exact ⟨_,σ',h1,rfl,h2⟩)
  (fun e σ ⟨he,hk⟩=>by
   subst he
   rw [Nat.sub_self,List.replicate_zero,List.append_nil] at hk
   exact ⟨_,znqb fs ns c m σ,fun _ _ h=>(by cases h),σ,rfl,hk⟩) 0 1000000000 (E0g fs ns c m 0) (SG0 m) (by omega) (by omega)
  ⟨rfl,by simpa using h0⟩
 have ht:=zd2 (S:=SGk) rfl (fs.length + 2) σ1 m 0 c.arity (List.replicate m (-1)) hk1 (by omega)
 have hset:(List.replicate m (-1:Int)).set 0 c.arity=c.arity :: List.replicate c.body.length (-1):=by
  rw [hm,List.replicate_succ,List.set_cons_zero]
 have htl:tellM 0 c.arity (List.replicate m (-1))=some (c.arity :: List.replicate c.body.length (-1)):=by
  unfold tellM
  have hg:(List.replicate m (-1:Int)).getD 0 0=-1:=by rw [hm,List.replicate_succ]; rfl
  rw [hg,hset]
  rfl
 rw [htl] at ht
 obtain ⟨σ2,ht,hk2,_,_⟩:=ht
 obtain ⟨x,hx,hR⟩:=zpq (body:=exec (T SGk (fs.length + 3)) 1000000000 none a_2) (kstM fs ns c.body)
  (fun k ds e σ=>e=Eg fs ns c.body k∧KS σ m ds) c.body.length
  (fun b x=>match b with
   | true=>∃ σ',x=(.exit 2,{Eg fs ns c.body c.body.length with slots:=[(0,⟨false,dFs fs⟩),(1,⟨false,dSs ns⟩),(7,⟨false,.int .i64 c.body.length⟩),(8,⟨false,.ptr 2 0⟩),(10,⟨false,tellF⟩),(72,⟨false,dIs c.body⟩),(73,⟨false,.int .i64 c.body.length⟩),(74,⟨false,.int .i64 c.body.length⟩),(75,⟨false,.bool false⟩)]},σ')
   | false=>∃ σ',x=(.ret,Ef6,σ'))
  (fun k ds e σ hk ⟨he,hks⟩=>by
   subst he
   rcases zclb (N:=fs.length) (n:=1000000000) fs ns c.body k m ds σ hf (by omega) hn hk (by omega) hm hks with ⟨ds',e',σ',h1,h2,h3,h4⟩ | ⟨h1,σ',h2⟩
   ·exact Or.inl ⟨ds',e',σ',h1,h2,h3,h4⟩
   ·exact Or.inr ⟨h1,_,h2,fun _ _ h=>(by cases h),σ',rfl⟩)
  (fun ds e σ ⟨he,hks⟩=>by
   subst he
   exact ⟨_,znrb fs ns c.body σ,fun _ _ h=>(by cases h),_,rfl⟩) c.body.length 0 (c.arity :: List.replicate c.body.length (-1)) (Eg fs ns c.body 0) σ2 1000000000 (by omega) (by omega) ⟨rfl,hk2⟩
 exact ⟨σ1,σ2,x,hr,ht,hx,hR⟩
theorem zys (fs:List Fd) (ns:List Tx) (c:Cd) (hf:fs.length < 100000000) (hn:ns.length < 1000000000) (hb:c.body.length < 300000000):OkP n_87 [dFs fs,dSs ns,dD c] ⟨false,.bool (zb6 fs ns c)⟩:=by
 have hnp:zal [dFs fs,dSs ns,dD c]=true:=by simp [zal,zde,zau,zmb]
 have mk:∀ {d:Bool} {m:Nat} {σ':Store},finX Ra (fun _ _ _=>none) a_28 0 (exec (T SGk (fs.length + 3)) m none a_28.body (zbb [dFs fs,dSs ns,dD c]) σ0)=some (.ret ⟨false,.bool d⟩,σ')→OkP n_87 [dFs fs,dSs ns,dD c] ⟨false,.bool d⟩:=fun hr=>zas (af:=a_28) (zav SGk (fs.length + 3)) rfl rfl hnp rfl hr
 unfold zb6 kinM
 by_cases g1:c.arity < 0
 ·refine mk (m:=1) (σ':=σ0) ?_
  simp only [a_28,dD,sA,seval,kn,len_I,g1]
 by_cases g2:c.arity > 6000
 ·refine mk (m:=1) (σ':=σ0) ?_
  simp only [a_28,dD,sA,seval,kn,len_I,g1,g2]
 by_cases g3:c.body=[]
 ·refine mk (m:=1) (σ':=σ0) ?_
  have g4:(((c.body.length:Nat):Int) == 0)=true:=by rw [g3]; rfl
  simp only [a_28,dD,sA,seval,kn,len_I,g1,g2,g4]
 have hne0:c.body.length≠0:=fun h=>g3 (List.length_eq_zero_iff.1 h)
 have g4:(((c.body.length:Nat):Int) == 0)=false:=beq_false_of_ne (by omega)
 have hpos:c.body.length - 1 < c.body.length:=by omega
 have w1:IntKind.i64.wrap ((c.body.length:Int) - 1)=((c.body.length - 1:Nat):Int):=by rw [zbr (by omega) (by omega)]; omega
 have w2:=zag (i:=c.body.length) (by omega)
 have hx:=idx_I c.body _ hpos
 rw [← zaq c.body _ i0 hpos] at hx
 obtain ⟨m,hm⟩:∃ m,m=c.body.length + 1:=⟨_,rfl⟩
 obtain ⟨σ1,σ2,x,h0,ht,h1,h2⟩:=zvt fs ns c hf hn hb m hm
 rw [← hm] at w2
 generalize c.body.getD (c.body.length - 1) i0=la at hx ⊢
 obtain ⟨op,lx,ly,ln⟩:=la
 simp only [dI] at hx
 have hp0:∀ (a b c d:D),Mx.part none [a,b,c,d] 0=some a:=fun _ _ _ _=>rfl
 have hσ:σ0.next=0:=rfl
 have hfn:D.fn? (.fn (.func n_9) [] [.ptr 2 0])=some (n_9,[],[.ptr 2 0]):=rfl
 have b1:m * 8≤bound:=show m * 8≤1099511627776 by omega
 have b2:m≤bound:=show m≤1099511627776 by omega
 have hrow:zbe σ0 k_int (rowOf [.int .i64 0] m)={objs:=[(0,cZ (List.replicate m 0))],tys:=[(0,⟨k_int.el,k_int.sz⟩)],oth:=[],next:=2}:=by rw [zwy]; rfl
 simp only [E0g,zeroI,SG0,kk] at h0
 simp only [Eg,zeroI,tellF] at h1 h2
 have fin:∀ (hu:((!(op == [85,78,87,73,78,68]) && !(op == [70,65,73,76]))=false)),OkP n_87 [dFs fs,dSs ns,dD c] ⟨false,.bool (runM (kstM fs ns c.body) c.body.length 0 (c.arity :: List.replicate c.body.length (-1)))⟩:=fun hu=>by
  generalize runM (kstM fs ns c.body) c.body.length 0 (c.arity :: List.replicate c.body.length (-1))=bb at h2 ⊢
  cases bb with
  | true =>
   obtain ⟨σ',rfl⟩:=h2
   refine mk (m:=1000000000) (σ':=σ') ?_
   cases e1:op == [85,78,87,73,78,68] with
   | true=>simp only [a_28,dD,sA,seval,kn,memE,memOp,len_I,g1,g2,g4,w1,w2,natI,hx,hp0,e1,b1,b2,hσ,hrow,h0,hfn,ht,h1]
   | false =>
    have e2:(op == [70,65,73,76])=true:=by rw [e1] at hu; simpa using hu
    simp only [a_28,dD,sA,seval,kn,memE,memOp,len_I,g1,g2,g4,w1,w2,natI,hx,hp0,e1,e2,b1,b2,hσ,hrow,h0,hfn,ht,h1]
  | false =>
   obtain ⟨σ',rfl⟩:=h2
   refine mk (m:=1000000000) (σ':=σ') ?_
   cases e1:op == [85,78,87,73,78,68] with
   | true=>simp only [a_28,dD,Ef6,sA,seval,kn,memE,memOp,len_I,g1,g2,g4,w1,w2,natI,hx,hp0,e1,b1,b2,hσ,hrow,h0,hfn,ht,h1]
   | false =>
    have e2:(op == [70,65,73,76])=true:=by rw [e1] at hu; simpa using hu
    simp only [a_28,dD,Ef6,sA,seval,kn,memE,memOp,len_I,g1,g2,g4,w1,w2,natI,hx,hp0,e1,e2,b1,b2,hσ,hrow,h0,hfn,ht,h1]
 simp only [g1,g2,g4,decide_false,Bool.false_or]
 cases e1:op == [85,78,87,73,78,68] with
 | true =>
  simp only [Bool.not_true,Bool.false_and,zab]
  exact fin (by rw [e1]; rfl)
 | false =>
  cases e2:op == [70,65,73,76] with
  | true =>
   simp only [Bool.not_true,Bool.and_false,zab]
   exact fin (by rw [e1,e2]; rfl)
  | false =>
   simp only [Bool.not_false,Bool.and_self,zac]
   refine mk (m:=1) (σ':=σ0) ?_
   simp only [a_28,dD,sA,seval,kn,len_I,g1,g2,g4,w1,natI,hx,hp0,e1,e2]
def ztt:List D→Cell→Prop:=fun ds c=>∀ fs ns x,ds=[dFs fs,dSs ns,dD x]→c=⟨false,.bool (zb6 fs ns x)⟩
theorem zx6 {S:Specs} (hS:aget S n_87=some ztt) (fs:List Fd) (ns:List Tx) (x:Cd) (hf:fs.length < 100000000) (hn:ns.length < 1000000000) (hb:x.body.length < 300000000) (n:Nat) (σ:Store):T S (n + 1) n_87 [dFs fs,dSs ns,dD x] σ=some (.ret ⟨false,.bool (zb6 fs ns x)⟩,σ):=by
 obtain ⟨c,h1,h2⟩:=T_orc (S:=S) hS rfl (c:=⟨false,.bool (zb6 fs ns x)⟩) (fun a b c' h=>by
  simp only [List.cons.injEq,and_true] at h
  rw [zk6 h.1,zba h.2.1,zqr h.2.2]) (zys fs ns x hf hn hb)
 rw [h2,h1 fs ns x rfl]
end Go.Fu
namespace Go.Proofs
open Go.Shelf
def Tryz.lays190_ren:Go.Shelf.Ren:=⟨fun | 190=>120 | 125=>149 | 258=>148 | 128=>173 | 129=>160 | 302=>164 | 303=>165 | 304=>166 | 305=>167 | 306=>168 | 307=>169 | 308=>170 | 309=>171 | 310=>172 | 333=>179 | 329=>180 | 330=>181 | 334=>182 | 335=>183 | 336=>184 | 344=>186 | n=>n,fun | 31=>39 | 9=>9 | 3=>3 | 46=>191 | 0=>0 | 51=>200 | 53=>183 | 4=>4 | 183=>205 | 182=>204 | 131=>196 | 5=>5 | 218=>220 | 222=>224 | 228=>232 | 229=>233 | n=>n,fun | n=>n⟩
theorem Tryz.lays190:Go.Proofs.Lays.n190 Tryz.prog Tryz.lays190_ren:={
 mixed:=by kernel_rfl
 f125:=Tryz.func149.trans (congrArg some (by kernel_rfl))
 f128:=Tryz.func173.trans (congrArg some (by kernel_rfl))
 f129:=Tryz.func160.trans (congrArg some (by kernel_rfl))
 f190:=Tryz.func120.trans (congrArg some (by kernel_rfl))
 f258:=Tryz.func148.trans (congrArg some (by kernel_rfl))
 f302:=Tryz.func164.trans (congrArg some (by kernel_rfl))
 f303:=Tryz.func165.trans (congrArg some (by kernel_rfl))
 f304:=Tryz.func166.trans (congrArg some (by kernel_rfl))
 f305:=Tryz.func167.trans (congrArg some (by kernel_rfl))
 f306:=Tryz.func168.trans (congrArg some (by kernel_rfl))
 f307:=Tryz.func169.trans (congrArg some (by kernel_rfl))
 f308:=Tryz.func170.trans (congrArg some (by kernel_rfl))
 f309:=Tryz.func171.trans (congrArg some (by kernel_rfl))
 f310:=Tryz.func172.trans (congrArg some (by kernel_rfl))
 f329:=Tryz.func180.trans (congrArg some (by kernel_rfl))
 f330:=Tryz.func181.trans (congrArg some (by kernel_rfl))
 f333:=Tryz.func179.trans (congrArg some (by kernel_rfl))
 f334:=Tryz.func182.trans (congrArg some (by kernel_rfl))
 f335:=Tryz.func183.trans (congrArg some (by kernel_rfl))
 f336:=Tryz.func184.trans (congrArg some (by kernel_rfl))
 f344:=Tryz.func186.trans (congrArg some (by kernel_rfl))
 t0:=Tryz.underlying0
 a0:=Tryz.isAgg0
 z0:=Tryz.sizeOf0
 v0:=Tryz.zeroValue0
 t3:=Tryz.underlying3
 a3:=Tryz.isAgg3
 z3:=Tryz.sizeOf3
 v3:=Tryz.zeroValue3
 t4:=Tryz.underlying4
 a4:=Tryz.isAgg4
 z4:=Tryz.sizeOf4
 v4:=Tryz.zeroValue4
 t5:=Tryz.underlying5
 a5:=Tryz.isAgg5
 z5:=Tryz.sizeOf5
 v5:=Tryz.zeroValue5
 t9:=Tryz.underlying9
 a9:=Tryz.isAgg9
 z9:=Tryz.sizeOf9
 v9:=Tryz.zeroValue9
 t31:=Tryz.underlying39
 a31:=Tryz.isAgg39
 z31:=Tryz.sizeOf39
 v31:=Tryz.zeroValue39
 t46:=Tryz.underlying191
 a46:=Tryz.isAgg191
 z46:=Tryz.sizeOf191
 v46:=Tryz.zeroValue191
 t51:=Tryz.underlying200
 a51:=Tryz.isAgg200
 z51:=Tryz.sizeOf200
 v51:=Tryz.zeroValue200
 t53:=Tryz.underlying183
 a53:=Tryz.isAgg183
 z53:=Tryz.sizeOf183
 v53:=Tryz.zeroValue183
 t131:=Tryz.underlying196
 a131:=Tryz.isAgg196
 z131:=Tryz.sizeOf196
 v131:=Tryz.zeroValue196
 t182:=Tryz.underlying204
 a182:=Tryz.isAgg204
 z182:=Tryz.sizeOf204
 v182:=Tryz.zeroValue204
 t183:=Tryz.underlying205
 a183:=Tryz.isAgg205
 z183:=Tryz.sizeOf205
 v183:=Tryz.zeroValue205
 t218:=Tryz.underlying220
 a218:=Tryz.isAgg220
 z218:=Tryz.sizeOf220
 v218:=Tryz.zeroValue220
 t222:=Tryz.underlying224
 a222:=Tryz.isAgg224
 z222:=Tryz.sizeOf224
 v222:=Tryz.zeroValue224
 t228:=Tryz.underlying232
 a228:=Tryz.isAgg232
 z228:=Tryz.sizeOf232
 v228:=Tryz.zeroValue232
 t229:=Tryz.underlying233
 a229:=Tryz.isAgg233
 z229:=Tryz.sizeOf233
 v229:=Tryz.zeroValue233}
open Go.Sort Go.RowKit in
theorem Tryz.slices_Sort_string (blk off cap:Nat) (ss:List (List UInt8)) (w:World) (hH:Holds encStr w blk off ss.toArray) (hblk:blk < w.heap.size) (hsz:ss.length < 4611686018427387904) :
  Calls Tryz.prog 120 #[.slice (some ⟨blk,off,none⟩) ss.length cap] w fun e w' =>
   e=.returned (.tuple #[])∧∃ n os,w'=grow (putRow encStr (Sort.ahead w n) blk off (ss.mergeSort fun x y=>decide (x≤y)).toArray) os:=Any.slices_Sort_string Tryz.lays190 blk off cap ss w hH hblk hsz
def Tryz.lays194_ren:Go.Shelf.Ren:=⟨fun | 194=>77 | n=>n,fun | 31=>39 | 9=>9 | 3=>3 | 4=>4 | 0=>0 | n=>n,fun | n=>n⟩
theorem Tryz.lays194:Go.Proofs.Lays.n194 Tryz.prog Tryz.lays194_ren:={
 mixed:=by kernel_rfl
 f194:=Tryz.func77.trans (congrArg some (by kernel_rfl))
 t0:=Tryz.underlying0
 a0:=Tryz.isAgg0
 z0:=Tryz.sizeOf0
 v0:=Tryz.zeroValue0
 t3:=Tryz.underlying3
 a3:=Tryz.isAgg3
 z3:=Tryz.sizeOf3
 v3:=Tryz.zeroValue3
 t4:=Tryz.underlying4
 a4:=Tryz.isAgg4
 z4:=Tryz.sizeOf4
 v4:=Tryz.zeroValue4
 t9:=Tryz.underlying9
 a9:=Tryz.isAgg9
 z9:=Tryz.sizeOf9
 v9:=Tryz.zeroValue9
 t31:=Tryz.underlying39
 a31:=Tryz.isAgg39
 z31:=Tryz.sizeOf39
 v31:=Tryz.zeroValue39}
open Go.RowKit Go.Lib Go.Sort in
theorem Tryz.slices_Compact_string (blk off cap:Nat) (zs:List (List UInt8)) (w:World) (hH:Holds encStr w blk off zs.toArray) (hsz:zs.length≤9223372036854775807) (hcap:zs.length≤cap) :
  Calls Tryz.prog 77 #[.slice (some ⟨blk,off,none⟩) zs.length cap] w fun e w'=>e=.returned (.slice (some ⟨blk,off,none⟩) (Lib.compact zs).length cap)∧∃ q,w'=putRow encStr (Sort.ahead w q) blk off (Lib.compact zs ++ List.replicate (zs.length - (Lib.compact zs).length) []).toArray:=Any.slices_Compact_string Tryz.lays194 blk off cap zs w hH hsz hcap
end Go.Proofs
namespace Go.Fu
open Go Go.Mx
open Go.Proofs (encStr)
set_option maxHeartbeats 2000000
def strsC:List Cell→Option (List (List UInt8))
 | []=>some []
 | c :: r=>match c.d with
  | .str s=>bindO (strsC r) fun l=>some (s :: l)
  | _=>none
def cStr (l:List (List UInt8)):List Cell:=l.map fun s=>⟨false,.str s⟩
theorem zmp:∀ l,strsC (cStr l)=some l
 | []=>rfl
 | s :: l=>by
  have h:=zmp l
  unfold cStr at h ⊢
  simp only [List.map_cons,strsC,h,bindO,zad]
theorem zog:∀ {cs:List Cell} {l},strsC cs=some l→l.length=cs.length
 | [],l,h=>by cases h; rfl
 | c :: r,l,h=>by
  unfold strsC at h
  split at h
  ·obtain ⟨l',h1,h2⟩:=zaa h
   cases h2
   simp [zog h1]
  ·cases h
theorem zxl:∀ {cs:List Cell} {l},strsC cs=some l→∀ (i:Nat) (s:List UInt8),l[i]?=some s→∃ c,cs[i]?=some c∧c.d=.str s
 | [],l,h,i,s,hi=>by cases h; simp at hi
 | c :: r,l,h,i,s,hi=>by
  unfold strsC at h
  split at h
  ·rename_i s' hd
   obtain ⟨l',h1,h2⟩:=zaa h
   cases h2
   cases i with
   | zero =>
    simp only [List.getElem?_cons_zero,Option.some.injEq] at hi
    subst hi
    exact ⟨c,rfl,hd⟩
   | succ i =>
    simp only [List.getElem?_cons_succ] at hi ⊢
    exact zxl h1 i s hi
  ·cases h
def sortS (l:List (List UInt8)):List (List UInt8):=l.mergeSort fun x y=>decide (x≤y)
def xSort (ds:List D) (σ:Store):Option (Out × Store):=match ds with
 | [.arr k id 0 n]=>bindO (aget σ.objs id) fun cs=>ifB (k.sz == 1 && (cs.length == n && (decide (0 < n) && decide (n≤bound)))) (bindO (strsC cs) fun l=>some (.ret ⟨false,.tup []⟩,{σ with objs:=aset σ.objs id (cStr (sortS l))})) none
 | _=>none
def zj4 (ds:List D) (σ:Store):Option (Out × Store):=match ds with
 | [.arr k id 0 n]=>bindO (aget σ.objs id) fun cs=>ifB (k.sz == 1 && (cs.length == n && (decide (0 < n) && decide (n≤bound)))) (bindO (strsC cs) fun l=>some (.ret ⟨false,.arr k id 0 (Lib.compact l).length⟩,{σ with objs:=aset σ.objs id (cStr (Lib.compact l ++ List.replicate (l.length - (Lib.compact l).length) []))})) none
 | _=>none
theorem zzn {w:World} {b:Nat} {vs:List Value} {T:TypeId} (h:w.heap[b]?=some (.cells ⟨vs⟩ T (0,0))) (d:Array (List UInt8)):(Sort.putRow encStr w b 0 d).heap[b]?=some (.cells ⟨(Sort.putCells encStr 0 d ⟨vs⟩).toList⟩ T (0,0)):=by
 simp only [Sort.putRow,Sort.mapBlock,Array.getElem?_modify,if_true,h,Option.map_some]
 rfl
theorem zwx {w:World} {b:Nat} (d:Array (List UInt8)) {x:Nat} (hx:x≠b):(Sort.putRow encStr w b 0 d).heap[x]?=w.heap[x]?:=by
 simp only [Sort.putRow,Sort.mapBlock,Array.getElem?_modify,if_neg (Ne.symm hx)]
theorem zgo {vs:List Value} (d:List (List UInt8)) (hd:d.length≤vs.length) (i:Nat) (s:List UInt8) (hi:d[i]?=some s):(Sort.putCells encStr 0 d.toArray ⟨vs⟩).toList[i]?=some (.string ⟨s.toArray⟩):=by
 obtain ⟨hlt,he⟩:=List.getElem?_eq_some_iff.1 hi
 subst he
 simp only [Sort.putCells,Array.toList_mapIdx,List.getElem?_mapIdx]
 rw [List.getElem?_eq_getElem (by omega)]
 simp [hlt,encStr]
theorem zwz {ι:Imm} {j:Lay} {own:Own} {σ:Store} {w:World} (hG:GSim ι j own σ w) {id b:Nat} {cs:List Cell} (hcs:aget σ.objs id=some cs) (hjb:j id=some b) (hown:own b=some (.obj id)) {vs:List Value} {T:TypeId} (hheap:w.heap[b]?=some (.cells ⟨vs⟩ T (0,0))) (hlen:cs.length≤vs.length)
  (zs:List (List UInt8)) (hz:zs.length=cs.length) (n:Nat) (os:Array Obj) :
  GSim ι j own {σ with objs:=aset σ.objs id (cStr zs)} (Sort.grow (Sort.putRow encStr (Sort.ahead w n) b 0 zs.toArray) os)∧Evo ι j own w ι j own (Sort.grow (Sort.putRow encStr (Sort.ahead w n) b 0 zs.toArray) os) (fun t=>t=.obj id):=by
 have hh:(Sort.ahead w n).heap[b]?=some (.cells ⟨vs⟩ T (0,0)):=hheap
 have h1:=zzn hh zs.toArray
 obtain ⟨w1,hw1⟩:∃ w1,w1=Sort.putRow encStr (Sort.ahead w n) b 0 zs.toArray:=⟨_,rfl⟩
 have hoth:∀ x,x≠b→w1.heap[x]?=w.heap[x]?:=fun x hx=>by rw [hw1]; exact zwx _ hx
 have hsz:w1.heap.size=w.heap.size:=by rw [hw1,Sort.size_putRow]; rfl
 have hf:w1.os=w.os∧w1.tape=w.tape∧w1.output=w.output:=by rw [hw1]; exact ⟨rfl,rfl,rfl⟩
 rw [← hw1] at h1 ⊢
 have hvl:(Sort.putCells encStr 0 zs.toArray ⟨vs⟩).toList.length=vs.length:=by simp [Sort.putCells]
 obtain ⟨g1,e1⟩:=hG.setObj (cs':=cStr zs) (w':=w1) hcs hjb hown hf.1 hf.2.1 hf.2.2 (by omega) hoth hheap h1 (by rw [hvl]; simp [cStr]; omega) (by rw [hvl]; rfl) (fun i c hi=>by
  simp only [cStr,List.getElem?_map,Option.map_eq_some_iff] at hi
  obtain ⟨s,hs,rfl⟩:=hi
  exact ⟨_,zgo zs (by omega) i s hs,rfl,by simp only [Rep],fun h=>by cases h⟩)
 have hx:RowKit.Below w1.heap.size w1 (Sort.grow w1 os):=⟨rfl,rfl,rfl,by simp [Sort.grow],fun x hx=>by
  show (w1.heap ++ os)[x]?=w1.heap[x]?
  rw [Array.getElem?_append_left hx]⟩
 have hE:Evo ι j own w1 ι j own (Sort.grow w1 os) (fun _=>False):=⟨hx.os,hx.tape,hx.output,hx.size,fun _ _ _ h=>h,fun _ _ h=>h,fun b hb _=>⟨hx.block b hb,rfl,fun _=>rfl⟩⟩
 refine ⟨g1.evo hE (fun b o v h=>?_) g1.noimm (fun b t h=>Nat.lt_of_lt_of_le (g1.ownlt b t h) hx.size) g1.jlt (fun _ _ _=>⟨fun h=>h,fun _ _ _ _ h=>h⟩) (fun _ _ _ h=>h),?_⟩
 ·rw [World.cell?_of_block (w:=w1) (w':=Sort.grow w1 os) (a:=⟨b,o,none⟩) (hx.block b (zfz g1 h))]
  exact g1.holds b o v h
 ·refine ⟨hx.os.trans e1.os,hx.tape.trans e1.tape,hx.output.trans e1.output,Nat.le_trans e1.size hx.size,fun _ _ _ h=>h,fun _ _ h=>h,fun x hxl hxt=>⟨?_,rfl,fun _=>rfl⟩⟩
  rw [hx.block x (by omega)]
  exact (e1.block x hxl hxt).1
theorem ztn {ι:Imm} {j:Lay} {own:Own} {w:World} {id b:Nat} {cs:List Cell} {l:List (List UInt8)} {vs:List Value} {T:TypeId} (hl:strsC cs=some l) (hheap:w.heap[b]?=some (.cells ⟨vs⟩ T (0,0))) (hcell:∀ (i:Nat) (c:Cell),cs[i]?=some c→∃ v,vs[i]?=some v∧v.oneCell'=true∧zcx ι j own w (.ocell id i) c v):Sort.Holds encStr w b 0 l.toArray:=by
 intro i hi
 have hi':i < l.length:=by simpa using hi
 obtain ⟨c,h1,h2⟩:=zxl hl i l[i] (List.getElem?_eq_getElem hi')
 obtain ⟨v,h3,_,h4,_⟩:=hcell i c h1
 rw [h2] at h4
 simp only [Rep] at h4
 subst h4
 refine ⟨?_,Lib.frozen_of_heap hheap _⟩
 rw [cell_of_row w b _ _ _ _ hheap]
 simp [h3,hi',encStr]
theorem zu5 {ι:Imm} {j:Lay} {k:RowK} {id n b:Nat} {v:Value} (hk:k.sz=1) (hn:0 < n) (hjb:j id=some b) (h:Rep ι j (.arr k id 0 n) v):∃ c,j (id + 1)=some c∧n≤c∧c≤maxLen∧v=.slice (some ⟨b,0,none⟩) n c:=by
 simp only [Rep] at h
 obtain ⟨b',c,a,h1,h2,⟨h3,h4⟩,rfl,h6⟩:=h
 rw [hjb] at h1
 cases h1
 refine ⟨c,h2,by omega,h4,?_⟩
 rcases h6 with h6 | h6
 ·omega
 ·rw [h6]
  simp
theorem zjxb {ds:List D} {σ σ':Store} {out:Out} (h:xSort ds σ=some (out,σ')):zc9 Go.Proofs.Tryz.prog κ 120 ds σ out σ':=by
 refine (zcq (show isY 120=false from rfl)).2 ⟨⟨_,_,Go.Proofs.Tryz.func120,by kernel_rfl,rfl⟩,fun ι j own w vs hS hB hG hr=>?_⟩
 unfold xSort at h
 split at h
 ·rename_i k id n
  obtain ⟨cs,h1,ha⟩:=zaa h
  obtain ⟨h2,hb⟩:=zah ha
  obtain ⟨l,h3,hc⟩:=zaa hb
  cases hc
  simp only [Bool.and_eq_true,beq_iff_eq,decide_eq_true_eq] at h2
  obtain ⟨hk,hn,hpos,hbd⟩:=h2
  simp only [bound] at hbd
  obtain ⟨v,rfl,hv⟩:=repL1 hr
  obtain ⟨b,hjb,hown,row,T,hheap,hlen,hcell⟩:=hG.objs id cs h1
  obtain ⟨c,hc1,hc2,hc3,rfl⟩:=zu5 hk hpos hjb hv
  have hll:=zog h3
  have hH:=ztn h3 hheap hcell
  have hblk:b < w.heap.size:=(Array.getElem?_eq_some_iff.1 hheap).1
  have hcal:=Go.Proofs.Tryz.slices_Sort_string b 0 c l w hH hblk (by omega)
  rw [show l.length=n by omega] at hcal
  refine hcal.mono ?_
  rintro e w' ⟨rfl,q,os,rfl⟩
  obtain ⟨g1,g2⟩:=zwz hG h1 hjb hown hheap hlen (sortS l) (by simp [sortS,hll]) q os
  exact ⟨ι,j,own,g1,g2.weaken (fun _ _=>trivial),hS,by simp [Rep,RepL],fun h=>by cases h⟩
 ·cases h
theorem zb5b:∀ l:List (List UInt8),(Lib.compact l).length≤l.length:=by
 intro l
 unfold Lib.compact Lib.compactUpTo
 rw [List.length_map]
 exact Nat.le_trans (List.length_filter_le _ _) (by simp)
theorem zamb {ds:List D} {σ σ':Store} {out:Out} (h:zj4 ds σ=some (out,σ')):zc9 Go.Proofs.Tryz.prog κ 77 ds σ out σ':=by
 refine (zcq (show isY 77=false from rfl)).2 ⟨⟨_,_,Go.Proofs.Tryz.func77,by kernel_rfl,rfl⟩,fun ι j own w vs hS hB hG hr=>?_⟩
 unfold zj4 at h
 split at h
 ·rename_i k id n
  obtain ⟨cs,h1,ha⟩:=zaa h
  obtain ⟨h2,hb⟩:=zah ha
  obtain ⟨l,h3,hc⟩:=zaa hb
  cases hc
  simp only [Bool.and_eq_true,beq_iff_eq,decide_eq_true_eq] at h2
  obtain ⟨hk,hn,hpos,hbd⟩:=h2
  simp only [bound] at hbd
  obtain ⟨v,rfl,hv⟩:=repL1 hr
  obtain ⟨b,hjb,hown,row,T,hheap,hlen,hcell⟩:=hG.objs id cs h1
  obtain ⟨c,hc1,hc2,hc3,rfl⟩:=zu5 hk hpos hjb hv
  have hll:=zog h3
  have hH:=ztn h3 hheap hcell
  have hcal:=Go.Proofs.Tryz.slices_Compact_string b 0 c l w hH (by omega) (by omega)
  rw [show l.length=n by omega] at hcal
  refine hcal.mono ?_
  rintro e w' ⟨rfl,q,rfl⟩
  have hle:=zb5b l
  obtain ⟨g1,g2⟩:=zwz hG h1 hjb hown hheap hlen (Lib.compact l ++ List.replicate (l.length - (Lib.compact l).length) []) (by simp; omega) q #[]
  have hgr:∀ w:World,Sort.grow w #[]=w:=fun w=>by simp [Sort.grow]
  rw [hgr] at g1 g2
  rw [show l.length=n by omega] at g1 g2 ⊢
  refine ⟨ι,j,own,g1,g2.weaken (fun _ _=>trivial),hS,?_,fun h=>by cases h⟩
  simp only [Rep]
  exact ⟨b,c,⟨b,0,none⟩,hjb,hc1,⟨by omega,hc3⟩,rfl,.inr (by simp)⟩
 ·cases h
end Go.Fu

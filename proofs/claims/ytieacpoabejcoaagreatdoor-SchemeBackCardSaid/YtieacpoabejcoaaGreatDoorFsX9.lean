/-
 Predicates sorted in place,run: all of it.
-/
import Derived.Test.YtieacpoabejcoaaGreatDoorFsX12
import Derived.Test.YtieacpoabejcoaaGreatDoorFsX8
set_option maxHeartbeats 4000000
set_option linter.unusedSimpArgs false
set_option linter.unusedVariables false
set_option linter.unusedSectionVars false
namespace Go.Fu
open Go Go.Mx
set_option maxRecDepth 10000
theorem zb1b {C:CallF} {n:Nat} (id len i:Nat) (x:Pr) (B:List Pr) (hl:len < 1000):∀ (rp m:List Pr) (f:Nat) (σ:Store),WF σ→id < σ.next→(rp.reverse ++ x :: (m ++ B)).length=len→rp.length < f→aget σ.objs id=some (cellsOf ((rp.reverse ++ x :: (m ++ B)).map dP))→(∀ y∈rp,CmpC C x y) →
  ∃ j σ',loopN (exec C n none a_58) f (EIs id len i rp.length) σ=some (.exit 2,EIe id len i j,σ')∧SameB id σ σ'∧aget σ'.objs id=some (cellsOf (((insP x rp).reverse ++ m ++ B).map dP))
 | [],m,f,σ,hw,hid,hlen,hf,ha,hc=>by
  obtain ⟨g,rfl⟩:∃ g,f=g + 1:=⟨f - 1,by simp only [List.length_nil] at hf; omega⟩
  refine ⟨0,σ,za6 (zjub id len i σ),SameB.refl hw,?_⟩
  rw [ha]
  simp [insP]
 | y :: q,m,f,σ,hw,hid,hlen,hf,ha,hc=>by
  obtain ⟨g,rfl⟩:∃ g,f=g + 1:=⟨f - 1,by simp only [List.length_cons] at hf; omega⟩
  have e1:(y :: q).reverse ++ x :: (m ++ B)=q.reverse ++ y :: x :: (m ++ B):=by simp
  rw [e1] at hlen ha
  have hql:q.reverse.length=q.length:=List.length_reverse
  have hcy:=hc y (by simp)
  have hlp:(y :: q).length=q.reverse.length + 1:=by rw [hql]; rfl
  rw [hlp]
  by_cases hp:byC x y < 0
  ·have hstep:=zjtb (C:=C) (n:=n) id len i q.reverse (m ++ B) x y σ hlen hl ha hcy hp
   rw [zb2 hstep,hql]
   obtain ⟨j,σ',h1,h2,h3⟩:=zb1b (C:=C) (n:=n) id len i x B hl q (y :: m) g _ (zom hw id _ hid) hid (by
    simp only [List.length_append,List.length_cons,List.length_reverse] at hlen ⊢; omega) (by simp only [List.length_cons] at hf; omega) (by rw [zc2,if_pos rfl]) (fun z hz=>hc z (List.mem_cons_of_mem _ hz))
   refine ⟨j,σ',h1,(zod hw _ hid).trans h2,?_⟩
   have hlt:ltP x y=true:=by unfold ltP; exact decide_eq_true hp
   rw [h3]
   simp [insP,hlt]
  ·refine ⟨_,σ,za6 (zjsb (C:=C) (n:=n) id len i q.reverse (m ++ B) x y σ hlen hl ha hcy hp),SameB.refl hw,?_⟩
   have hlt:ltP x y=false:=by unfold ltP; exact decide_eq_false hp
   rw [ha]
   simp [insP,hlt]
section
variable {C:CallF} {n:Nat}
def EOs (id len i:Nat):Env:={slots:=[(0,⟨false,.arr k_1 id 0 len⟩),(1,⟨false,.int .i64 0⟩),(2,⟨false,.int .i64 len⟩),(3,⟨false,.fn (.func n_14) [] []⟩),(8,⟨false,.int .i64 i⟩)],locs:=[],boxes:=[],defers:=[]}
theorem zlpb (l:List Pr) (i:Nat) (h:i < l.length):srt (l.take (i + 1))=insP l[i] (srt (l.take i)):=by
 rw [← zba l i h]
 unfold srt
 rw [List.foldl_append]
 rfl
theorem zow (l:List Pr):(srt l).length=l.length:=by
 have:=(zj9 l [] List.Pairwise.nil).2.length_eq
 simpa [srt] using this
theorem zj3b (id i:Nat) (l:List Pr) (σ:Store) (hw:WF σ) (hid:id < σ.next) (hi:i < l.length) (hl:l.length < 1000) (hn:l.length < n) (ha:aget σ.objs id=some (cellsOf (((srt (l.take i)).reverse ++ l.drop i).map dP))) (hc:∀ p∈l,∀ q∈l,CmpC C p q) :
  ∃ σ',exec C n none a_59 (EOs id l.length i) σ=some (.normal,EOs id l.length (i + 1),σ')∧SameB id σ σ'∧aget σ'.objs id=some (cellsOf (((srt (l.take (i + 1))).reverse ++ l.drop (i + 1)).map dP)):=by
 have hdr:l.drop i=l[i] :: l.drop (i + 1):=List.drop_eq_getElem_cons hi
 have hsl:(srt (l.take i)).length=i:=by rw [zow,List.length_take]; omega
 rw [hdr] at ha
 obtain ⟨j,σ',h1,h2,h3⟩:=zb1b (C:=C) (n:=n) id l.length i l[i] (l.drop (i + 1)) hl (srt (l.take i)) [] n σ hw hid (by
  simp only [List.nil_append,List.length_append,List.length_reverse,List.length_cons,List.length_drop,hsl]; omega) (by omega) ha (fun y hy=>hc _ (List.getElem_mem hi) y (by
   have hm:=((zj9 (l.take i) [] List.Pairwise.nil).2.mem_iff (a:=y)).1 hy
   exact List.mem_of_mem_take (by simpa using hm)))
 refine ⟨σ',?_,h2,?_⟩
 ·have w1:=zaj (i:=i) (by omega)
  have h4:((i:Int) < (l.length:Int)):=by omega
  rw [hsl] at h1
  simp only [EIs,EIe] at h1
  simp only [a_59,EOs,sA,Nat.reduceAdd,Nat.reduceSub,Nat.reduceMul,Nat.reduceBEq,Nat.reduceLeDiff,Int.reduceBEq,Int.reduceBNe,Int.reduceLE,Int.reduceLT,Int.reduceGE,Int.reduceGT,Int.reduceNeg,kn,zeroI,lit1,lit2,lit3,lit4,lit5,lit6,lit7,lit8,fnq,h1,h4,w1]
 ·rw [h3,zlpb l i hi,List.append_nil]
theorem zm9b (id len i:Nat) (h:¬ (i < len)) (σ:Store):exec C n none a_59 (EOs id len i) σ=some (.exit 0,{EOs id len i with slots:=[(0,⟨false,.arr k_1 id 0 len⟩),(1,⟨false,.int .i64 0⟩),(2,⟨false,.int .i64 len⟩),(3,⟨false,.fn (.func n_14) [] []⟩),(8,⟨false,.int .i64 i⟩),(14,⟨false,.bool false⟩)]},σ):=by
 have hi:¬ ((i:Int) < (len:Int)):=by omega
 simp only [a_59,EOs,sA,Nat.reduceAdd,Nat.reduceSub,Nat.reduceMul,Nat.reduceBEq,Nat.reduceLeDiff,Int.reduceBEq,Int.reduceBNe,Int.reduceLE,Int.reduceLT,Int.reduceGE,Int.reduceGT,Int.reduceNeg,kn,zeroI,lit1,lit2,lit3,lit4,lit5,lit6,lit7,lit8,fnq,hi]
end
def SortR (id:Nat) (l:List Pr) (σ σ':Store):Prop:=SameB id σ σ'∧aget σ'.objs id=some (cellsOf ((srt l).reverse.map dP))
theorem zf9b (m:Nat) (l:List Pr) (hl:l.length < 1000) (hne:l≠[]) (hm:l.length + 4≤m) (id:Nat) (σ:Store) (hw:WF σ) (hid:id < σ.next) (ha:aget σ.objs id=some (cellsOf (l.map dP))) (hc:∀ p∈l,∀ q∈l,CmpC (T m) p q) :
  ∃ σ',T (m + 1) n_123 [.arr k_1 id 0 l.length,.int .i64 0,.int .i64 l.length,.fn (.func n_14) [] []] σ=some (.ret ⟨false,.tup []⟩,σ')∧SortR id l σ σ':=by
 have hpos:0 < l.length:=by cases l with
  | nil=>exact absurd rfl hne
  | cons a b=>simp
 obtain ⟨⟨x,e,σ3⟩,hloop,hx1,hx2,hx3,ho3⟩:=zcp (body:=exec (T m) m none a_59) (fun i e σ'=>e=EOs id l.length i∧SameB id σ σ'∧aget σ'.objs id=some (cellsOf (((srt (l.take i)).reverse ++ l.drop i).map dP)))
  (fun x=>x.1=.exit 0∧x.2.1={EOs id l.length l.length with slots:=[(0,⟨false,.arr k_1 id 0 l.length⟩),(1,⟨false,.int .i64 0⟩),(2,⟨false,.int .i64 l.length⟩),(3,⟨false,.fn (.func n_14) [] []⟩),(8,⟨false,.int .i64 l.length⟩),(14,⟨false,.bool false⟩)]}∧SameB id σ x.2.2∧aget x.2.2.objs id=some (cellsOf ((srt l).reverse.map dP))) l.length
  (fun i e σ' hi hp=>by
   obtain ⟨rfl,hx,g⟩:=hp
   obtain ⟨σ'',h1,h2,h3⟩:=zj3b (C:=T m) (n:=m) id i l σ' hx.wf (by rw [hx.next]; exact hid) hi hl (by omega) g hc
   exact ⟨_,σ'',h1,rfl,hx.trans h2,h3⟩)
  (fun e σ' hp=>by
   obtain ⟨rfl,hx,g⟩:=hp
   rw [List.take_length,List.drop_length,List.append_nil] at g
   exact ⟨_,zm9b id l.length l.length (by omega) σ',fun _ _ h=>(by cases h),rfl,rfl,hx,g⟩) 1 m (EOs id l.length 1) σ (by omega) (by omega) ⟨rfl,SameB.refl hw,by
    rw [ha]
    cases l with
    | nil=>exact absurd rfl hne
    | cons a b=>rfl⟩
 simp only at hx1 hx2 hx3 ho3
 subst hx1 hx2
 refine ⟨σ3,?_,hx3,ho3⟩
 have w1:IntKind.i64.wrap (0 + 1)=1:=by decide
 have c1:((1:Nat):Int)=1:=rfl
 simp only [EOs,c1] at hloop
 rw [T_fun (af:=a_89) rfl rfl]
 simp only [a_89,sA,Nat.reduceAdd,Nat.reduceSub,Nat.reduceMul,Nat.reduceBEq,Nat.reduceLeDiff,Int.reduceBEq,Int.reduceBNe,Int.reduceLE,Int.reduceLT,Int.reduceGE,Int.reduceGT,Int.reduceNeg,kn,zeroI,lit1,lit2,lit3,lit4,lit5,lit6,lit7,lit8,fnq,w1,hloop]
theorem zf8b (m:Nat) (f:D) (σ:Store):T (m + 2) n_123 [.nils,.int .i64 0,.int .i64 0,f] σ=some (.ret ⟨false,.tup []⟩,σ):=by
 have w1:IntKind.i64.wrap (0 + 1)=1:=by decide
 have hl:loopN (exec (T (m + 1)) (m + 1) none a_59) (m + 1) {slots:=[(0,⟨false,.nils⟩),(1,⟨false,.int .i64 0⟩),(2,⟨false,.int .i64 0⟩),(3,⟨false,f⟩),(8,⟨false,.int .i64 1⟩)],locs:=[],boxes:=[],defers:=[]} σ=some (.exit 0,{slots:=[(0,⟨false,.nils⟩),(1,⟨false,.int .i64 0⟩),(2,⟨false,.int .i64 0⟩),(3,⟨false,f⟩),(8,⟨false,.int .i64 1⟩),(14,⟨false,.bool false⟩)],locs:=[],boxes:=[],defers:=[]},σ):=za6 (by
  simp only [a_59,sA,Nat.reduceAdd,Nat.reduceSub,Nat.reduceMul,Nat.reduceBEq,Nat.reduceLeDiff,Int.reduceBEq,Int.reduceBNe,Int.reduceLE,Int.reduceLT,Int.reduceGE,Int.reduceGT,Int.reduceNeg,kn,zeroI,lit1,lit2,lit3,lit4,lit5,lit6,lit7,lit8,fnq])
 rw [T_fun (af:=a_89) rfl rfl]
 simp only [a_89,sA,Nat.reduceAdd,Nat.reduceSub,Nat.reduceMul,Nat.reduceBEq,Nat.reduceLeDiff,Int.reduceBEq,Int.reduceBNe,Int.reduceLE,Int.reduceLT,Int.reduceGE,Int.reduceGT,Int.reduceNeg,kn,zeroI,lit1,lit2,lit3,lit4,lit5,lit6,lit7,lit8,fnq,w1,hl]
theorem zr3 (m:Nat) (d:D) (k:Nat) (hk:k < 20) (f:D) (σ σ':Store) (h:T (m + 3) n_123 [d,.int .i64 0,.int .i64 k,f] σ=some (.ret ⟨false,.tup []⟩,σ')):T (m + 4) n_196 [d,.int .i64 k,f] σ=some (.ret ⟨false,.tup []⟩,σ'):=by
 have h1:¬ ((20:Int)≤(k:Int)):=by omega
 have h2:¬ ((20:Int) < (k:Int)):=by omega
 have hl0:loopN (exec (T (m + 3)) (m + 3) none a_185) (m + 3) {slots:=[(0,⟨false,d⟩),(1,⟨false,.int .i64 k⟩),(2,⟨false,f⟩),(6,⟨false,.int .i64 20⟩),(7,⟨false,.int .i64 0⟩),(8,⟨false,.int .i64 20⟩)],locs:=[],boxes:=[],defers:=[]} σ=some (.exit 0,{slots:=[(0,⟨false,d⟩),(1,⟨false,.int .i64 k⟩),(2,⟨false,f⟩),(6,⟨false,.int .i64 20⟩),(7,⟨false,.int .i64 0⟩),(8,⟨false,.int .i64 20⟩),(13,⟨false,.bool false⟩)],locs:=[],boxes:=[],defers:=[]},σ):=za6 (by
  simp only [a_185,sA,Nat.reduceAdd,Nat.reduceSub,Nat.reduceMul,Nat.reduceBEq,Nat.reduceLeDiff,Int.reduceBEq,Int.reduceBNe,Int.reduceLE,Int.reduceLT,Int.reduceGE,Int.reduceGT,Int.reduceNeg,kn,zeroI,lit1,lit2,lit3,lit4,lit5,lit6,lit7,lit8,fnq,h1])
 have hl2:loopN (exec (T (m + 3)) (m + 3) none a_186) (m + 3) {slots:=[(0,⟨false,d⟩),(1,⟨false,.int .i64 k⟩),(2,⟨false,f⟩),(6,⟨false,.int .i64 20⟩)],locs:=[],boxes:=[],defers:=[]} σ'=some (.exit 2,{slots:=[(0,⟨false,d⟩),(1,⟨false,.int .i64 k⟩),(2,⟨false,f⟩),(6,⟨false,.int .i64 20⟩),(30,⟨false,.bool false⟩)],locs:=[],boxes:=[],defers:=[]},σ'):=za6 (by
  simp only [a_186,sA,Nat.reduceAdd,Nat.reduceSub,Nat.reduceMul,Nat.reduceBEq,Nat.reduceLeDiff,Int.reduceBEq,Int.reduceBNe,Int.reduceLE,Int.reduceLT,Int.reduceGE,Int.reduceGT,Int.reduceNeg,kn,zeroI,lit1,lit2,lit3,lit4,lit5,lit6,lit7,lit8,fnq,h2])
 rw [T_fun (af:=a_156) rfl rfl]
 simp only [a_156,sA,Nat.reduceAdd,Nat.reduceSub,Nat.reduceMul,Nat.reduceBEq,Nat.reduceLeDiff,Int.reduceBEq,Int.reduceBNe,Int.reduceLE,Int.reduceLT,Int.reduceGE,Int.reduceGT,Int.reduceNeg,kn,zeroI,lit1,lit2,lit3,lit4,lit5,lit6,lit7,lit8,fnq,hl0,h,hl2]
theorem zcfb (m:Nat) (d:D) (k:Nat) (f:D) (hf:f=.fn (.func n_14) [] []) (σ σ':Store) (hd:lenOf d=some k) (h:T m n_196 [d,.int .i64 k,f] σ=some (.ret ⟨false,.tup []⟩,σ')):T (m + 1) n_122 [d,f] σ=some (.ret ⟨false,.tup []⟩,σ'):=by
 rw [T_fun (af:=a_155) rfl rfl]
 simp only [a_155,sA,Nat.reduceAdd,Nat.reduceSub,Nat.reduceMul,Nat.reduceBEq,Nat.reduceLeDiff,Int.reduceBEq,Int.reduceBNe,Int.reduceLE,Int.reduceLT,Int.reduceGE,Int.reduceGT,Int.reduceNeg,kn,zeroI,lit1,lit2,lit3,lit4,lit5,lit6,lit7,lit8,fnq,hd,h]
end Go.Fu
namespace Go.Fu
open Go Go.Mx
set_option maxRecDepth 10000
theorem zx6 (A:List Pr) (i:Nat) (h:i < A.length):A.take i ++ A[i] :: A.drop (i + 1)=A:=by
 rw [← List.drop_eq_getElem_cons h,List.take_append_drop]
theorem zye {A:List Pr} {i:Nat} (h:i < A.length):(A.take i).length=i:=by rw [List.length_take]; omega
theorem zhi (A:List Pr) (i:Nat) (h:i < A.length):takeC (cellsOf (A.map dP)) (i * 5) 5=some (cP A[i]):=by
 have:=zi8 A[i] (A.drop (i + 1)) (A.take i)
 rwa [zx6 A i h,zye h] at this
theorem zoeb (A:List Pr) (i:Nat) (h:i < A.length) (x:Pr):zan (cellsOf (A.map dP)) (i * 5) ((cP x).map Cell.of)=cellsOf ((A.set i x).map dP):=by
 have h1:=zrs x A[i] (A.drop (i + 1)) (A.take i)
 rw [zx6 A i h,zye h] at h1
 rw [h1,List.set_eq_take_append_cons_drop,if_pos h]
theorem zud:∀ (cs:List Cell) (o:Nat) (new:List Cell),(zan cs o new).take o=cs.take o
 | cs,0,new=>rfl
 | [],o + 1,new=>by cases new <;> rfl
 | c :: cs,o + 1,[]=>rfl
 | c :: cs,o + 1,x :: new=>by
  have:=zud cs o (x :: new)
  show (c :: zan cs o (x :: new)).take (o + 1)=_
  rw [List.take_succ_cons,List.take_succ_cons,this]
def eqP (p q:Pr):Bool:=byC p q == 0
theorem zcwb (p q:Pr) (hp:okP p) (hq:okP q):Evly fun n=>∀ σ,T n n_74 [.agg (cP p),.agg (cP q)] σ=some (.ret ⟨false,.bool (eqP p q)⟩,σ):=(zsh p q hp hq).step 0 fun m _ h σ=>by
 have h1:=h σ
 simp only [dP,cT] at h1
 rw [T_fun (af:=a_144) rfl rfl]
 simp only [a_144,cP,cT,sA,seval,kn,zeroI,lit1,lit2,lit3,lit4,lit5,lit6,lit7,lit8,fnq,h1,eqP]
def cpG (p:Pr):List Pr→List Pr
 | []=>[]
 | x :: r=>if eqP x p then cpG x r else x :: cpG x r
def cpt:List Pr→List Pr
 | []=>[]
 | x :: r=>x :: cpG x r
theorem zvy (x:Pr):∀ (r:List Pr) (p:Pr),cpG p (r ++ [x])=cpG p r ++ (if eqP x ((p :: r).getLast (by simp)) then [] else [x])
 | [],p=>by
  simp only [List.nil_append,cpG,List.getLast_singleton]
  first | rfl | (split <;> rfl)
 | y :: r,p=>by
  have ih:=zvy x r y
  have hl:(p :: y :: r).getLast (by simp)=(y :: r).getLast (by simp):=List.getLast_cons (by simp)
  simp only [List.cons_append,cpG,ih,hl]
  split <;> rfl
theorem zpx (L:List Pr) (i:Nat) (h0:0 < i) (h:i < L.length):cpt (L.take (i + 1))=cpt (L.take i) ++ (if eqP L[i] L[i - 1] then [] else [L[i]]):=by
 rw [← zba L i h]
 obtain ⟨j,rfl⟩:∃ j,i=j + 1:=⟨i - 1,by omega⟩
 have hj:j < L.length:=by omega
 cases hT:L.take (j + 1) with
 | nil =>
  have:(L.take (j + 1)).length=j + 1:=by rw [List.length_take]; omega
  rw [hT] at this; simp at this
 | cons p r =>
  have hlast:(p :: r).getLast (by simp)=L[j]:=by
   have h1:(L.take (j + 1)).getLast?=some L[j]:=by
    rw [← zba L j hj,List.getLast?_concat]
   rw [hT,List.getLast?_eq_some_getLast (by simp)] at h1
   exact Option.some.inj h1
  simp only [List.cons_append,cpt,zvy,hlast,Nat.add_sub_cancel]
def EqC (C:CallF) (p q:Pr):Prop:=∀ σ,C n_74 [.agg (cP p),.agg (cP q)] σ=some (.ret ⟨false,.bool (eqP p q)⟩,σ)
section
variable {C:CallF} {n:Nat}
def fnC:D:=.fn (.func n_74) [] []
def EC0 (id len K k k2:Nat):Env:={slots:=[(0,⟨false,.arr k_1 id 0 len⟩),(1,⟨false,fnC⟩),(5,⟨false,.int .i64 k⟩),(6,⟨false,.arr k_1 id K (len - K)⟩),(7,⟨false,.int .i64 k2⟩)],locs:=[],boxes:=[],defers:=[]}
theorem zjlb (id len K k k2:Nat) (A:List Pr) (x y:Pr) (σ:Store) (hA:A.length=len) (hl:len < 1000) (h0:0 < k2) (h:K + k2 < len) (ha:aget σ.objs id=some (cellsOf (A.map dP))) (t1:takeC (cellsOf (A.map dP)) ((K + k2) * 5) 5=some (cP x)) (t2:takeC (cellsOf (A.map dP)) ((K + (k2 - 1)) * 5) 5=some (cP y)) (hc:EqC C x y) (hp:eqP x y=true) :
  exec C n none a_41 (EC0 id len K k k2) σ=some (.normal,EC0 id len K k (k2 + 1),σ):=by
 have hi:((k2:Int) < ((len - K:Nat):Int)):=by omega
 have w1:=zaj (i:=k2) (by omega)
 have w2:IntKind.i64.wrap ((k2:Int) - 1)=((k2 - 1:Nat):Int):=by rw [zb3 (by omega) (by omega)]; omega
 have l1:k2 < len - K:=by omega
 have l2:k2 - 1 < len - K:=by omega
 have hcc:=hc σ
 rw [hp] at hcc
 simp only [a_41,EC0,fnC,sA,seval,kn,zeroI,lit1,lit2,lit3,lit4,lit5,lit6,lit7,lit8,fnq,memE,memOp,zbw,hi,w1,w2,l1,l2,ha,t1,t2,hcc]
theorem zjkb (id len K k k2:Nat) (A:List Pr) (x y:Pr) (σ:Store) (hA:A.length=len) (hl:len < 1000) (h0:0 < k2) (h:K + k2 < len) (hk:k < len) (ha:aget σ.objs id=some (cellsOf (A.map dP))) (t1:takeC (cellsOf (A.map dP)) ((K + k2) * 5) 5=some (cP x)) (t2:takeC (cellsOf (A.map dP)) ((K + (k2 - 1)) * 5) 5=some (cP y)) (hc:EqC C x y) (hp:eqP x y=false) :
  exec C n none a_41 (EC0 id len K k k2) σ=some (.normal,EC0 id len K (k + 1) (k2 + 1),setO σ id (cellsOf ((A.set k x).map dP))):=by
 have hi:((k2:Int) < ((len - K:Nat):Int)):=by omega
 have w1:=zaj (i:=k2) (by omega)
 have w3:=zaj (i:=k) (by omega)
 have w2:IntKind.i64.wrap ((k2:Int) - 1)=((k2 - 1:Nat):Int):=by rw [zb3 (by omega) (by omega)]; omega
 have l1:k2 < len - K:=by omega
 have l2:k2 - 1 < len - K:=by omega
 have p1:=zoeb A k (by omega) x
 have c1:=zfp A
 have d1:k * 5 + 5≤(cellsOf (A.map dP)).length:=by omega
 have hcc:=hc σ
 rw [hp] at hcc
 have o1:(D.agg (cP x)).ok=true:=ok_dP _
 have e1:(D.agg (cP x)).cells=cP x:=rfl
 have n1:(D.agg (cP x)).one=false:=rfl
 simp only [a_41,EC0,fnC,sA,seval,kn,zeroI,lit1,lit2,lit3,lit4,lit5,lit6,lit7,lit8,fnq,memE,memOp,zbw,hi,hk,w1,w2,w3,l1,l2,ha,t1,t2,hcc,p1,d1,o1,e1,n1,zqy,setO]
theorem zmwb (id len K k k2:Nat) (h:¬ (k2 < len - K)) (σ:Store):exec C n none a_41 (EC0 id len K k k2) σ=some (.exit 2,{EC0 id len K k k2 with slots:=[(0,⟨false,.arr k_1 id 0 len⟩),(1,⟨false,fnC⟩),(5,⟨false,.int .i64 k⟩),(6,⟨false,.arr k_1 id K (len - K)⟩),(7,⟨false,.int .i64 k2⟩),(35,⟨false,.bool false⟩)]},σ):=by
 have hi:¬ ((k2:Int) < ((len - K:Nat):Int)):=by omega
 simp only [a_41,EC0,fnC,sA,seval,kn,zeroI,lit1,lit2,lit3,lit4,lit5,lit6,lit7,lit8,fnq,hi]
end
end Go.Fu
namespace Go.Fu
open Go Go.Mx
set_option maxRecDepth 10000
structure CInv (L:List Pr) (id K:Nat) (σ:Store) (k2:Nat) (e:Env) (σ':Store):Prop where
 ex:∃ (k:Nat) (A:List Pr),e=EC0 id L.length K k k2∧k≤K + k2 - 1∧A.length=L.length∧A.take k=cpt (L.take (K + k2))∧A.drop (K + k2 - 1)=L.drop (K + k2 - 1)∧aget σ'.objs id=some (cellsOf (A.map dP))
 same:SameB id σ σ'
theorem zv2 {A L:List Pr} {a i:Nat} (h:A.drop a=L.drop a) (hi:a≤i) (hA:i < A.length) (hL:i < L.length):A[i]=L[i]:=by
 have h1:(A.drop a)[i - a]?=A[i]?:=by rw [List.getElem?_drop]; congr 1; omega
 have h2:(L.drop a)[i - a]?=L[i]?:=by rw [List.getElem?_drop]; congr 1; omega
 rw [h,h2,List.getElem?_eq_getElem hL,List.getElem?_eq_getElem hA] at h1
 exact (Option.some.inj h1).symm
theorem zfpb {C:CallF} {n:Nat} (L:List Pr) (id K:Nat) (σ:Store) (hK:0 < K) (hid:id < σ.next) (hl:L.length < 1000) (hc:∀ p∈L,∀ q∈L,EqC C p q) (k2:Nat) (e:Env) (σ':Store) (h0:0 < k2) (hj:K + k2 < L.length) (h:CInv L id K σ k2 e σ') :
  ∃ e' σ'',exec C n none a_41 e σ'=some (.normal,e',σ'')∧CInv L id K σ (k2 + 1) e' σ'':=by
 obtain ⟨k,A,rfl,hk,hA,ht,hd,ha⟩:=h.ex
 have g1:A[K + k2]'(by omega)=L[K + k2]:=zv2 hd (by omega) _ _
 have g2:A[K + (k2 - 1)]'(by omega)=L[K + (k2 - 1)]'(by omega):=zv2 hd (by omega) _ _
 have t1:=zhi A (K + k2) (by omega)
 have t2:=zhi A (K + (k2 - 1)) (by omega)
 rw [g1] at t1
 rw [g2] at t2
 have hcc:=hc L[K + k2] (List.getElem_mem hj) (L[K + (k2 - 1)]'(by omega)) (List.getElem_mem _)
 have hcp:=zpx L (K + k2) (by omega) hj
 have hix:L[K + k2 - 1]'(by omega)=L[K + (k2 - 1)]'(by omega):=by congr 1; omega
 rw [hix] at hcp
 have hdrop:A.drop (K + k2)=L.drop (K + k2):=by
  have e1:A.drop (K + k2)=(A.drop (K + k2 - 1)).drop 1:=by rw [List.drop_drop]; congr 1; omega
  have e2:L.drop (K + k2)=(L.drop (K + k2 - 1)).drop 1:=by rw [List.drop_drop]; congr 1; omega
  rw [e1,e2,hd]
 cases hp:eqP L[K + k2] (L[K + (k2 - 1)]'(by omega)) with
 | true =>
  rw [hp,if_pos rfl,List.append_nil] at hcp
  refine ⟨_,σ',zjlb (C:=C) (n:=n) id L.length K k k2 A _ _ σ' hA hl h0 hj ha t1 t2 hcc hp,⟨⟨k,A,rfl,by omega,hA,?_,?_,ha⟩,h.same⟩⟩
  ·rw [ht]; exact hcp.symm
  ·exact hdrop
 | false =>
  rw [hp,if_neg (by simp)] at hcp
  have hkl:k < L.length:=by omega
  refine ⟨_,_,zjkb (C:=C) (n:=n) id L.length K k k2 A _ _ σ' hA hl h0 hj hkl ha t1 t2 hcc hp,⟨⟨k + 1,A.set k L[K + k2],rfl,by omega,by simp [hA],?_,?_,?_⟩,h.same.trans (zod h.same.wf _ (by rw [h.same.next]; exact hid))⟩⟩
  ·have hS:k < (A.set k L[K + k2]).length:=by simp; omega
   rw [← zba _ _ hS,List.getElem_set_self,List.take_set_of_le (Nat.le_refl _),ht]
   exact hcp.symm
  ·show (A.set k L[K + k2]).drop (K + k2)=L.drop (K + k2)
   rw [← hdrop,List.drop_set_of_lt (by omega)]
  ·rw [zc2,if_pos rfl]
def CmpR (L:List Pr) (id:Nat) (σ σ':Store):Prop:=SameB id σ σ'∧∃ rest,aget σ'.objs id=some (cellsOf ((cpt L).map dP) ++ rest)
theorem zi3b (L:List Pr):(∀ j,0 < j→∀ h:j < L.length,eqP L[j] (L[j - 1]'(by omega))=false)∨∃ K,0 < K∧∃ h:K < L.length,eqP L[K] (L[K - 1]'(by omega))=true∧∀ j,0 < j→∀ hj:j < K,eqP (L[j]'(by omega)) (L[j - 1]'(by omega))=false:=by
 have key:∀ n,(∀ j,0 < j→j < n→∀ h:j < L.length,eqP L[j] (L[j - 1]'(by omega))=false)∨∃ K,0 < K∧∃ h:K < L.length,eqP L[K] (L[K - 1]'(by omega))=true∧∀ j,0 < j→∀ hj:j < K,eqP (L[j]'(by omega)) (L[j - 1]'(by omega))=false:=by
  intro n
  induction n with
  | zero=>exact .inl fun j _ h=>by omega
  | succ n ih =>
   rcases ih with ih | ih
   ·by_cases hn:0 < n∧n < L.length
    ·cases hp:eqP (L[n]'hn.2) (L[n - 1]'(by omega)) with
     | true=>exact .inr ⟨n,hn.1,hn.2,hp,fun j h0 hj=>ih j h0 hj (by omega)⟩
     | false =>
      refine .inl fun j h0 hj h=>?_
      by_cases he:j=n
      ·subst he; exact hp
      ·exact ih j h0 (by omega) h
    ·exact .inl fun j h0 hj h=>ih j h0 (by omega) h
   ·exact .inr ih
 rcases key L.length with h | h
 ·exact .inl fun j h0 hj=>h j h0 hj hj
 ·exact .inr h
theorem zlt (L:List Pr):∀ i,i≤L.length→(∀ j,0 < j→∀ hj:j < i,∀ h:j < L.length,eqP L[j] (L[j - 1]'(by omega))=false)→cpt (L.take i)=L.take i
 | 0,_,_=>rfl
 | 1,h,_=>by
  cases L with
  | nil=>simp at h
  | cons a b=>rfl
 | i + 2,h,hj=>by
  have ih:=zlt L (i + 1) (by omega) fun j h0 hji hjl=>hj j h0 (by omega) hjl
  have hlt:i + 1 < L.length:=by omega
  have:=hj (i + 1) (by omega) (by omega) hlt
  simp only [Nat.add_sub_cancel] at this
  rw [zpx L (i + 1) (by omega) hlt,ih]
  simp only [Nat.add_sub_cancel]
  rw [this,if_neg (by simp),zba L (i + 1) hlt]
section
variable {C:CallF} {n:Nat}
def EC1 (id len k:Nat):Env:={slots:=[(0,⟨false,.arr k_1 id 0 len⟩),(1,⟨false,fnC⟩),(5,⟨false,.int .i64 k⟩)],locs:=[],boxes:=[],defers:=[]}
theorem zwr (L:List Pr) (id k:Nat) (σ:Store) (hl:L.length < 1000) (h0:0 < k) (hk:k < L.length) (ha:aget σ.objs id=some (cellsOf (L.map dP))) (hc:EqC C L[k] (L[k - 1]'(by omega))) (hp:eqP L[k] (L[k - 1]'(by omega))=false) :
  exec C n none a_42 (EC1 id L.length k) σ=some (.normal,EC1 id L.length (k + 1),σ):=by
 have hi:((k:Int) < (L.length:Int)):=by omega
 have w1:=zaj (i:=k) (by omega)
 have w2:IntKind.i64.wrap ((k:Int) - 1)=((k - 1:Nat):Int):=by rw [zb3 (by omega) (by omega)]; omega
 have l2:k - 1 < L.length:=by omega
 have t1:=zhi L k hk
 have t2:=zhi L (k - 1) l2
 have hcc:=hc σ
 rw [hp] at hcc
 simp only [a_42,EC1,fnC,sA,seval,kn,zeroI,lit1,lit2,lit3,lit4,lit5,lit6,lit7,lit8,fnq,memE,memOp,zbw,hi,w1,w2,hk,l2,ha,t1,t2,hcc]
theorem zmxb (id len:Nat) (σ:Store):exec C n none a_42 (EC1 id len len) σ=some (.exit 0,{EC1 id len len with slots:=[(0,⟨false,.arr k_1 id 0 len⟩),(1,⟨false,fnC⟩),(5,⟨false,.int .i64 len⟩),(15,⟨false,.bool false⟩)]},σ):=by
 have hi:¬ ((len:Int) < (len:Int)):=by omega
 simp only [a_42,EC1,fnC,sA,seval,kn,zeroI,lit1,lit2,lit3,lit4,lit5,lit6,lit7,lit8,fnq,hi]
theorem zjmb (L:List Pr) (id K:Nat) (σ:Store) (hw:WF σ) (hid:id < σ.next) (hl:L.length < 1000) (hn:L.length < n) (h0:0 < K) (hk:K < L.length) (ha:aget σ.objs id=some (cellsOf (L.map dP))) (hc:∀ p∈L,∀ q∈L,EqC C p q) (hp:eqP L[K] (L[K - 1]'(by omega))=true)
  (hb:∀ j,0 < j→∀ hj:j < K,eqP (L[j]'(by omega)) (L[j - 1]'(by omega))=false) :
  ∃ σ',exec C n none a_42 (EC1 id L.length K) σ=some (.ret,{slots:=[(4,⟨false,.arr k_1 id 0 (cpt L).length⟩)],locs:=[],boxes:=[],defers:=[]},σ')∧CmpR L id σ σ':=by
 have hcK:cpt (L.take (K + 1))=L.take K:=by
  rw [zpx L K h0 hk,hp,if_pos rfl,List.append_nil]
  exact zlt L K (by omega) fun j h0 hj h=>hb j h0 hj
 obtain ⟨⟨x,e,σ1⟩,hloop,hx1,k,A,hx2,hk2,hA,ht,ha1,hsame⟩:=zcp (body:=exec C n none a_41) (CInv L id K σ)
  (fun x=>x.1=.exit 2∧∃ (k:Nat) (A:List Pr),x.2.1={EC0 id L.length K k (L.length - K) with slots:=[(0,⟨false,.arr k_1 id 0 L.length⟩),(1,⟨false,fnC⟩),(5,⟨false,.int .i64 k⟩),(6,⟨false,.arr k_1 id K (L.length - K)⟩),(7,⟨false,.int .i64 (L.length - K:Nat)⟩),(35,⟨false,.bool false⟩)]}∧k≤L.length∧A.length=L.length∧A.take k=cpt L∧aget x.2.2.objs id=some (cellsOf (A.map dP))∧SameB id σ x.2.2) (L.length - K)
  (fun k2 e σ' hj h=>by
   by_cases hz:k2=0
   ·obtain ⟨k,A,rfl,hk,hA,ht,hd,ha⟩:=h.ex
    subst hz
    exfalso
    simp only [Nat.add_zero] at ht hk
    have h1:=congrArg List.length ht
    rw [zlt L K (by omega) fun j h0 hj h=>hb j h0 hj,List.length_take,List.length_take] at h1
    omega
   ·exact zfpb L id K σ h0 hid hl hc k2 e σ' (by omega) (by omega) h)
  (fun e σ' h=>by
   obtain ⟨k,A,rfl,hk,hA,ht,hd,ha⟩:=h.ex
   rw [show K + (L.length - K)=L.length by omega,List.take_length] at ht
   exact ⟨_,zmwb id L.length K k (L.length - K) (by omega) σ',fun _ _ h=>(by cases h),rfl,k,A,rfl,by omega,hA,ht,ha,h.same⟩) 1 n (EC0 id L.length K K 1) σ (by omega) (by omega)
  ⟨⟨K,L,rfl,by omega,rfl,hcK.symm,rfl,ha⟩,SameB.refl hw⟩
 simp only at hx1 hx2 ha1 hsame
 subst hx1 hx2
 have hkl:(cpt L).length=k:=by rw [← ht,List.length_take]; omega
 rw [hkl]
 have hlen:=zfp A
 have hsl:za2 5 (.arr k_1 id 0 L.length) K none=some (.arr k_1 id K (L.length - K)):=by
  have d1:decide (K≤L.length)=true:=decide_eq_true (by omega)
  rw [zgw]
  simp only [Option.getD_none,d1,decide_eq_true (Nat.le_refl L.length),k_61,beq_self_eq_true,Bool.and_self,zac,Nat.zero_add]
 have hsl1:za2 5 (.arr k_1 id 0 L.length) k none=some (.arr k_1 id k (L.length - k)):=by
  have d1:decide (k≤L.length)=true:=decide_eq_true hk2
  rw [zgw]
  simp only [Option.getD_none,d1,decide_eq_true (Nat.le_refl L.length),k_61,beq_self_eq_true,Bool.and_self,zac,Nat.zero_add]
 have hsl2:za2 5 (.arr k_1 id 0 L.length) 0 (some k)=some (.arr k_1 id 0 k):=by
  have d1:decide (k≤L.length)=true:=decide_eq_true hk2
  rw [zgw]
  simp only [Option.getD_some,d1,decide_eq_true (Nat.zero_le k),k_61,beq_self_eq_true,Bool.and_self,zac,Nat.sub_zero,Nat.add_zero]
 have hcl:∃ cs,zg2 σ1 5 [.str [],.int .i64 0,.int .i64 0,.str [],.nils] (.arr k_1 id k (L.length - k))=some (setO σ1 id cs)∧cs.take (k * 5)=cellsOf ((cpt L).map dP):=by
  have d1:decide ((k + (L.length - k)) * 5≤(cellsOf (A.map dP)).length)=true:=decide_eq_true (by omega)
  refine ⟨zan (cellsOf (A.map dP)) (k * 5) (rowOf [.str [],.int .i64 0,.int .i64 0,.str [],.nils] (L.length - k)),?_,?_⟩
  ·simp only [zg2,ha1,bindO,zab,k_61,beq_self_eq_true,List.length_cons,List.length_nil,Nat.zero_add,Nat.reduceAdd,Bool.and_self,Bool.true_and,d1,zac]
   rfl
  ·rw [zud]
   have hsp:A.map dP=(cpt L).map dP ++ (A.drop k).map dP:=by rw [← ht,← List.map_append,List.take_append_drop]
   rw [hsp,zek,List.take_left']
   rw [zfp,hkl]
 obtain ⟨cs,hcl,hcs⟩:=hcl
 refine ⟨setO σ1 id cs,?_,hsame.trans (zod hsame.wf cs (by rw [hsame.next]; exact hid)),cs.drop (k * 5),?_⟩
 ·have hi:((K:Int) < (L.length:Int)):=by omega
  have w2:IntKind.i64.wrap ((K:Int) - 1)=((K - 1:Nat):Int):=by rw [zb3 (by omega) (by omega)]; omega
  have l2:K - 1 < L.length:=by omega
  have t1:=zhi L K hk
  have t2:=zhi L (K - 1) l2
  have hcc:=hc L[K] (List.getElem_mem hk) L[K - 1] (List.getElem_mem l2) σ
  rw [hp] at hcc
  have c1:((1:Nat):Int)=1:=rfl
  simp only [EC0,fnC,c1] at hloop
  simp only [a_42,EC1,fnC,sA,seval,kn,zeroI,lit1,lit2,lit3,lit4,lit5,lit6,lit7,lit8,fnq,memE,memOp,zbw,hi,w2,hk,l2,ha,t1,t2,hcc,hsl,hsl1,hsl2,hloop,hcl]
 ·rw [zc2,if_pos rfl,← hcs,List.take_append_drop]
end
end Go.Fu
namespace Go.Fu
open Go Go.Mx
set_option maxRecDepth 10000
theorem zbgb (L:List Pr) (h:∀ j,0 < j→∀ h:j < L.length,eqP L[j] (L[j - 1]'(by omega))=false):cpt L=L:=by
 have:=zlt L L.length (Nat.le_refl _) fun j h0 _ hj=>h j h0 hj
 rwa [List.take_length] at this
theorem zzd (m:Nat) (L:List Pr) (hl:L.length < 1000) (hne:L≠[]) (hm:L.length + 4≤m) (id:Nat) (σ:Store) (hw:WF σ) (hid:id < σ.next) (ha:aget σ.objs id=some (cellsOf (L.map dP))) (hc:∀ p∈L,∀ q∈L,EqC (T m) p q) :
  ∃ σ',T (m + 1) n_75 [.arr k_1 id 0 L.length,fnC] σ=some (.ret ⟨false,.arr k_1 id 0 (cpt L).length⟩,σ')∧CmpR L id σ σ':=by
 have hpos:0 < L.length:=by cases L with
  | nil=>exact absurd rfl hne
  | cons a b=>simp
 rw [T_fun (af:=a_55) rfl rfl]
 by_cases h2:L.length < 2
 ·have hcp:cpt L=L:=zbgb L fun j h0 h=>by omega
  rw [hcp]
  refine ⟨σ,?_,SameB.refl hw,[],by rw [hcp,List.append_nil]; exact ha⟩
  have h3:((L.length:Int) < 2):=by omega
  simp only [a_55,fnC,sA,seval,kn,zeroI,lit1,lit2,lit3,lit4,lit5,lit6,lit7,lit8,fnq,h3]
 ·have h3:¬ ((L.length:Int) < 2):=by omega
  rcases zi3b L with h | ⟨K,h0,hK,hp,hb⟩
  ·have hcp:=zbgb L h
   rw [hcp]
   refine ⟨σ,?_,SameB.refl hw,[],by rw [hcp,List.append_nil]; exact ha⟩
   obtain ⟨⟨x,e,σ1⟩,hloop,hx1,hx2,hx3⟩:=zcp (body:=exec (T m) m none a_42) (fun k e σ'=>e=EC1 id L.length (k + 1)∧σ'=σ)
    (fun x=>x.1=.exit 0∧x.2.1={EC1 id L.length L.length with slots:=[(0,⟨false,.arr k_1 id 0 L.length⟩),(1,⟨false,fnC⟩),(5,⟨false,.int .i64 L.length⟩),(15,⟨false,.bool false⟩)]}∧x.2.2=σ) (L.length - 1)
    (fun k e σ'' hk hp=>by
     obtain ⟨rfl,rfl⟩:=hp
     have hk':k + 1 < L.length:=by omega
     exact ⟨_,_,zwr L id (k + 1) σ'' hl (by omega) hk' ha (hc _ (List.getElem_mem hk') _ (List.getElem_mem _)) (h (k + 1) (by omega) hk'),rfl,rfl⟩)
    (fun e σ'' hp=>by
     obtain ⟨rfl,rfl⟩:=hp
     rw [show L.length - 1 + 1=L.length by omega]
     exact ⟨_,zmxb id L.length σ'',fun _ _ h=>(by cases h),rfl,rfl,rfl⟩) 0 m (EC1 id L.length 1) σ (by omega) (by omega) ⟨rfl,rfl⟩
   simp only at hx1 hx2 hx3
   subst hx1 hx2 hx3
   have c1:((1:Nat):Int)=1:=rfl
   simp only [EC1,fnC,c1] at hloop
   simp only [a_55,fnC,sA,seval,kn,zeroI,lit1,lit2,lit3,lit4,lit5,lit6,lit7,lit8,fnq,h3,hloop]
  ·obtain ⟨σ',hst,hR⟩:=zjmb (C:=T m) (n:=m) L id K σ hw hid hl (by omega) h0 hK ha hc hp hb
   refine ⟨σ',?_,hR⟩
   obtain ⟨⟨x,e,σ1⟩,hloop,hx1,hx2,hx3⟩:=zcp (body:=exec (T m) m none a_42) (fun k e σ'=>e=EC1 id L.length (k + 1)∧σ'=σ)
    (fun x=>x.1=.ret∧x.2.1={slots:=[(4,⟨false,.arr k_1 id 0 (cpt L).length⟩)],locs:=[],boxes:=[],defers:=[]}∧x.2.2=σ') (K - 1)
    (fun k e σ'' hk hp=>by
     obtain ⟨rfl,rfl⟩:=hp
     have hk':k + 1 < L.length:=by omega
     exact ⟨_,_,zwr L id (k + 1) σ'' hl (by omega) hk' ha (hc _ (List.getElem_mem hk') _ (List.getElem_mem _)) (hb (k + 1) (by omega) (by omega)),rfl,rfl⟩)
    (fun e σ'' hp=>by
     obtain ⟨rfl,rfl⟩:=hp
     rw [show K - 1 + 1=K by omega]
     exact ⟨_,hst,fun _ _ h=>(by cases h),rfl,rfl,rfl⟩) 0 m (EC1 id L.length 1) σ (by omega) (by omega) ⟨rfl,rfl⟩
   simp only at hx1 hx2 hx3
   subst hx1 hx2 hx3
   have c1:((1:Nat):Int)=1:=rfl
   simp only [EC1,fnC,c1] at hloop
   simp only [a_55,fnC,sA,seval,kn,zeroI,lit1,lit2,lit3,lit4,lit5,lit6,lit7,lit8,fnq,h3,hloop]
theorem zzc (m:Nat) (σ:Store):T (m + 1) n_75 [.nils,fnC] σ=some (.ret ⟨false,.nils⟩,σ):=by
 rw [T_fun (af:=a_55) rfl rfl]
 simp only [a_55,fnC,sA,seval,kn,zeroI,lit1,lit2,lit3,lit4,lit5,lit6,lit7,lit8,fnq]
def srtP (l:List Pr):List Pr:=cpt (srt l).reverse
def PrIn (σ:Store) (lo:Nat) (r:D) (l:List Pr):Prop:=(l=[]∧r=.nils)∨∃ id,r=.arr k_1 id 0 l.length∧aget σ.objs id=some (cellsOf (l.map dP))∧lo≤id∧id < σ.next∧l≠[]
theorem zxp {P:Nat→Pr→Pr→Prop} (l:List Pr) (h:∀ p∈l,∀ q∈l,Evly fun n=>P n p q):Evly fun n=>∀ p∈l,∀ q∈l,P n p q:=by
 have h1:Evly fun n=>∀ i,i < l.length→∀ hi:i < l.length,∀ j,j < l.length→∀ hj:j < l.length,P n l[i] l[j] :=
  Evly.below _ fun i hi=>(Evly.below (p:=fun j n=>∀ hj:j < l.length,P n l[i] l[j]) _ fun j hj=>(h l[i] (List.getElem_mem hi) l[j] (List.getElem_mem hj)).mono fun n h _=>h).mono fun n h _ j hj=>h j hj
 refine h1.mono fun n h p hp q hq=>?_
 obtain ⟨i,hi,rfl⟩:=List.getElem_of_mem hp
 obtain ⟨j,hj,rfl⟩:=List.getElem_of_mem hq
 exact h i hi hi j hj hj
theorem zhzb (l:List Pr) (hl:l.length < 20) (hok:∀ p∈l,okP p):Evly fun n=>∀ σ lo r,WF σ→PrIn σ lo r l→∃ σ',T n n_122 [r,.fn (.func n_14) [] []] σ=some (.ret ⟨false,.tup []⟩,σ')∧((l=[]∧σ'=σ)∨∃ id,r=.arr k_1 id 0 l.length∧lo≤id∧id < σ.next∧SortR id l σ σ'):=by
 obtain ⟨N,hN⟩:=zxp (P:=fun n p q=>CmpC (T n) p q) l fun p hp q hq=>(zsh p q (hok p hp) (hok q hq)).mono fun n h σ=>h σ
 refine ⟨N + l.length + 20,fun n hn σ lo r hw hr=>?_⟩
 obtain ⟨m,rfl⟩:∃ m,n=m + 5:=⟨n - 5,by omega⟩
 rcases hr with ⟨rfl,rfl⟩ | ⟨id,rfl,ha,hlo,hid,hne⟩
 ·refine ⟨σ,?_,.inl ⟨rfl,rfl⟩⟩
  have h1:=zf8b (m + 1) (.fn (.func n_14) [] []) σ
  have h2:=zr3 m .nils 0 (by omega) _ σ σ (by simpa using h1)
  exact zcfb (m + 4) .nils 0 _ rfl σ σ rfl h2
 ·obtain ⟨σ',h1,hR⟩:=zf9b (m + 2) l (by omega) hne (by omega) id σ hw hid ha (fun p hp q hq=>hN (m + 2) (by omega) p hp q hq)
  refine ⟨σ',?_,.inr ⟨id,rfl,hlo,hid,hR⟩⟩
  exact zcfb (m + 4) _ l.length _ rfl σ σ' rfl (zr3 m _ l.length hl _ σ σ' h1)
end Go.Fu
namespace Go.Fu
open Go Go.Mx
set_option maxRecDepth 10000
def ltr (n:Nat):List UInt8:=[UInt8.ofNat (97 + n)]
theorem zmlb:∀ n,n < 26→(Utf8.encode (IntKind.i32.wrap ((97 + n:Nat):Int))).data.toList=[UInt8.ofNat (97 + n)]:=by decide +kernel
theorem zdnb (n:Nat) (hn:n < 26):Evly fun m=>∀ σ,T m n_116 [.int .i64 (n:Int)] σ=some (.ret ⟨false,.str (ltr n)⟩,σ):=any _ fun m σ=>by
 have h1:((n:Int)).tmod 26=(n:Int):=by
  rw [Int.tmod_eq_emod_of_nonneg (by omega)]
  omega
 have h2:IntKind.i64.wrap (97 + (n:Int))=((97 + n:Nat):Int):=by rw [zb3 (by omega) (by omega)]; omega
 have h3:((n:Int) < 26):=by omega
 rw [T_fun (af:=a_130) rfl rfl]
 simp only [a_130,sA,seval,kn,zeroI,lit1,lit2,lit3,lit4,lit5,lit6,lit7,lit8,fnq,h1,h2,h3,ltr,zmlb n hn]
structure Nx (tl:List (List UInt8)) (k k':Nat):Prop where
 le:k≤k'
 taken:∀ i,k≤i→i < k'→tl.contains (ltr i)=true
 free:tl.contains (ltr k')=false
theorem zpab (tl:List (List UInt8)) (s:List UInt8) (hl:tl.length < 1048576):Evly fun n=>∀ σ tk,ListD tl tk→T n n_9 [tk,.str s] σ=some (.ret ⟨false,.bool (tl.contains s)⟩,σ):=by
 have h0:Evly fun n=>∀ σ,T n n_9 [.list k_0 [],.str s] σ=some (.ret ⟨false,.bool false⟩,σ):=⟨4,fun n hn σ=>by
  obtain ⟨m,rfl⟩:∃ m,n=m + 4:=⟨n - 4,by omega⟩
  have hi:T (m + 3) n_66 [.list k_0 [],.str s] σ=some (.ret ⟨false,.int .i64 (-1)⟩,σ):=by
   have hl:loopN (exec (T (m + 2)) (m + 2) none a_10) (m + 2) {slots:=[(0,⟨false,.list k_0 []⟩),(1,⟨false,.str s⟩),(7,⟨false,.int .i64 0⟩),(8,⟨false,.int .i64 0⟩)],locs:=[],boxes:=[],defers:=[]} σ=some (.exit 0,{slots:=[(0,⟨false,.list k_0 []⟩),(1,⟨false,.str s⟩),(7,⟨false,.int .i64 0⟩),(8,⟨false,.int .i64 0⟩),(9,⟨false,.bool false⟩)],locs:=[],boxes:=[],defers:=[]},σ):=za6 (by
    simp only [a_10,sA,seval,kn,zeroI,lit1,lit2,lit3,lit4,lit5,lit6,lit7,lit8,fnq])
   rw [T_fun (af:=a_28) rfl rfl]
   simp only [a_28,sA,seval,kn,zeroI,lit1,lit2,lit3,lit4,lit5,lit6,lit7,lit8,fnq,hl]
  rw [T_fun (af:=a_69) rfl rfl]
  simp only [a_69,sA,seval,kn,zeroI,lit1,lit2,lit3,lit4,lit5,lit6,lit7,lit8,fnq,hi]⟩
 refine ((zor tl s hl).and h0).mono fun n h σ tk hk=>?_
 rcases hk with rfl | ⟨rfl,rfl⟩
 ·exact h.1 σ
 ·exact h.2 σ
section
variable {C:CallF} {n:Nat}
def ENx (cap:Nat):Env:={slots:=[(0,⟨false,.ptr cap 0⟩)],locs:=[],boxes:=[],defers:=[]}
def ENy (cap:Nat) (s:List UInt8):Env:={slots:=[(0,⟨false,.ptr cap 0⟩),(2,⟨false,.str s⟩),(21,⟨false,.bool false⟩)],locs:=[],boxes:=[],defers:=[]}
def IsN (cap:Nat) (e:Env):Prop:=e=ENx cap∨∃ s,e=ENy cap s
theorem zj1b (e:Env) (cap lid:Nat) (vs ns:List (List UInt8)) (tk:D) (k:Nat) (σ:Store) (he:IsN cap e) (hne:cap≠lid) (hk:k < 26) (h1:aget σ.objs cap=some [⟨false,.ptr lid 0⟩]) (h2:aget σ.objs lid=some (leO vs tk ns k))
  (hl:∀ σ,C n_116 [.int .i64 (k:Int)] σ=some (.ret ⟨false,.str (ltr k)⟩,σ)) (hc:∀ σ,C n_9 [tk,.str (ltr k)] σ=some (.ret ⟨false,.bool true⟩,σ)) :
  exec C n none a_54 e σ=some (.normal,ENy cap (ltr k),setO σ lid (leO vs tk ns (k + 1:Nat))):=by
 have w1:=zaj (i:=k) (by omega)
 have h3:aget (aset σ.objs lid (leO vs tk ns (k + 1:Nat))) cap=some [⟨false,.ptr lid 0⟩]:=by rw [zak,if_neg hne]; exact h1
 simp only [leO] at h2 h3
 rcases he with rfl | ⟨s,rfl⟩
 ·simp only [a_54,ENx,ENy,sA,seval,kn,zeroI,lit1,lit2,lit3,lit4,lit5,lit6,lit7,lit8,fnq,memE,memOp,h1,h2,h3,hl,hc,w1,setO,leO,zds]
 ·simp only [a_54,ENx,ENy,sA,seval,kn,zeroI,lit1,lit2,lit3,lit4,lit5,lit6,lit7,lit8,fnq,memE,memOp,h1,h2,h3,hl,hc,w1,setO,leO,zds]
theorem zj2b (e:Env) (cap lid:Nat) (vs ns:List (List UInt8)) (tk:D) (k:Nat) (σ:Store) (he:IsN cap e) (hne:cap≠lid) (hk:k < 26) (h1:aget σ.objs cap=some [⟨false,.ptr lid 0⟩]) (h2:aget σ.objs lid=some (leO vs tk ns k))
  (hl:∀ σ,C n_116 [.int .i64 (k:Int)] σ=some (.ret ⟨false,.str (ltr k)⟩,σ)) (hc:∀ σ,C n_9 [tk,.str (ltr k)] σ=some (.ret ⟨false,.bool false⟩,σ)) :
  exec C n none a_54 e σ=some (.ret,{slots:=[(1,⟨false,.str (ltr k)⟩)],locs:=[],boxes:=[],defers:=[]},setO σ lid (leO vs tk ns (k + 1:Nat))):=by
 have w1:=zaj (i:=k) (by omega)
 have h3:aget (aset σ.objs lid (leO vs tk ns (k + 1:Nat))) cap=some [⟨false,.ptr lid 0⟩]:=by rw [zak,if_neg hne]; exact h1
 simp only [leO] at h2 h3
 rcases he with rfl | ⟨s,rfl⟩
 ·simp only [a_54,ENx,ENy,sA,seval,kn,zeroI,lit1,lit2,lit3,lit4,lit5,lit6,lit7,lit8,fnq,memE,memOp,h1,h2,h3,hl,hc,w1,setO,leO,zds]
 ·simp only [a_54,ENx,ENy,sA,seval,kn,zeroI,lit1,lit2,lit3,lit4,lit5,lit6,lit7,lit8,fnq,memE,memOp,h1,h2,h3,hl,hc,w1,setO,leO,zds]
end
theorem zkub (tl:List (List UInt8)) (htl:tl.length < 1048576) (k k':Nat) (hN:Nx tl k k') (hk:k' < 26):Evly fun n=>∀ σ cap lid vs ns tk,WF σ→ListD tl tk→cap≠lid→lid < σ.next→aget σ.objs cap=some [⟨false,.ptr lid 0⟩]→aget σ.objs lid=some (leO vs tk ns k) →
  ∃ σ',T n n_38 [.ptr cap 0] σ=some (.ret ⟨false,.str (ltr k')⟩,σ')∧ExtB lid σ σ'∧aget σ'.objs lid=some (leO vs tk ns (k' + 1:Nat)):=by
 have hl:Evly fun n=>∀ i:Nat,i < 26→∀ σ,T n n_116 [.int .i64 (i:Int)] σ=some (.ret ⟨false,.str (ltr i)⟩,σ):=Evly.below _ fun i hi=>zdnb i hi
 have hc:Evly fun n=>∀ i:Nat,i < 26→∀ σ tk,ListD tl tk→T n n_9 [tk,.str (ltr i)] σ=some (.ret ⟨false,.bool (tl.contains (ltr i))⟩,σ):=Evly.below _ fun i _=>zpab tl (ltr i) htl
 refine (hl.and hc).step 40 fun m hm h σ cap lid vs ns tk hw htk hne hlid h1 h2=>?_
 obtain ⟨⟨x,e,σ3⟩,hloop,hx1,hx2,hx3,ho3⟩:=zcp (body:=exec (T m) m none a_54) (fun j e σ'=>IsN cap e∧ExtB lid σ σ'∧aget σ'.objs cap=some [⟨false,.ptr lid 0⟩]∧aget σ'.objs lid=some (leO vs tk ns (k + j:Nat)))
  (fun x=>x.1=.ret∧x.2.1={slots:=[(1,⟨false,.str (ltr k')⟩)],locs:=[],boxes:=[],defers:=[]}∧ExtB lid σ x.2.2∧aget x.2.2.objs lid=some (leO vs tk ns (k' + 1:Nat))) (k' - k)
  (fun j e σ' hj hp=>by
   obtain ⟨he,hx,g1,g2⟩:=hp
   have ht:=hN.taken (k + j) (by omega) (by omega)
   exact ⟨_,_,zj1b e cap lid vs ns tk (k + j) σ' he hne (by omega) g1 g2 (fun σ=>h.1 (k + j) (by omega) σ) (fun σ=>by have:=h.2 (k + j) (by omega) σ tk htk; rw [ht] at this; exact this),.inr ⟨_,rfl⟩,hx.trans (zpy hx.wf lid _ (Nat.lt_of_lt_of_le hlid hx.next)),by rw [zc2,if_neg hne]; exact g1,by rw [zc2,if_pos rfl]; rfl⟩)
  (fun e σ' hp=>by
   obtain ⟨he,hx,g1,g2⟩:=hp
   have hle:=hN.le
   rw [show k + (k' - k)=k' by omega] at g2
   exact ⟨_,zj2b e cap lid vs ns tk k' σ' he hne hk g1 g2 (fun σ=>h.1 k' hk σ) (fun σ=>by have:=h.2 k' hk σ tk htk; rw [hN.free] at this; exact this),fun _ _ h=>(by cases h),rfl,rfl,hx.trans (zpy hx.wf lid _ (Nat.lt_of_lt_of_le hlid hx.next)),by rw [zc2,if_pos rfl]⟩) 0 m (ENx cap) σ (by omega) (by omega) ⟨.inl rfl,(Ext.refl hw).toB lid,h1,h2⟩
 simp only at hx1 hx2 hx3 ho3
 subst hx1 hx2
 refine ⟨σ3,?_,hx3,ho3⟩
 simp only [ENx] at hloop
 rw [T_fun (af:=a_150) rfl rfl]
 simp only [a_150,sA,seval,kn,zeroI,lit1,lit2,lit3,lit4,lit5,lit6,lit7,lit8,fnq,hloop]
end Go.Fu

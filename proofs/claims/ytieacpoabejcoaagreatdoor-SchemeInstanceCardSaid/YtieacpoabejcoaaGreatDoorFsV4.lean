/-
 Worlds: classes,made of numbers.
-/
import Derived.Test.YtieacpoabejcoaaGreatDoorFsV1
import Derived.Test.YtieacpoabejcoaaGreatDoorFsF1
set_option maxHeartbeats 4000000
set_option linter.unusedSimpArgs false
set_option linter.unusedVariables false
set_option linter.unusedSectionVars false
namespace Go.Fu
open Go Go.Mx
set_option maxRecDepth 10000
set_option maxHeartbeats 4000000
theorem tdivB (n m:Nat) (h:n < 9223372036854775808):IntKind.i64.wrap (((n:Int)).tdiv (m:Int))=((n / m:Nat):Int):=by
 have h1:n / m≤n:=Nat.div_le_self n m
 have h2:((n:Int)).tdiv (m:Int)=((n / m:Nat):Int):=by
  rw [Int.tdiv_eq_ediv_of_nonneg (by omega)]
  rfl
 generalize n / m=q at h1 h2 ⊢
 rw [h2]
 exact wrap64 (by omega) (by omega)
theorem app_Me (l:List (Tx × Int)) (a:Tx × Int) (hl:l.length < 100000):appendD k_16 152 ⟨ow l.length,dMs l⟩ [dMe a]=some ⟨true,dMs (l ++ [a])⟩:=by
 have e:=append_one (r:=k_16) (by_:=152) (es:=l.map dMe) (o:=ow l.length) (y:=dMe a) (by cases l with
  | nil=>intro h; exact absurd rfl h
  | cons x r=>intro _; rfl) rfl rfl (by simp [bound]; omega) (by simp [bound]; omega)
 simpa [dMs] using e
theorem app_Ss (l:List Tx) (a:Tx) (hl:l.length < 100000):appendD k_0 16 ⟨ow l.length,dSs l⟩ [.str a]=some ⟨true,dSs (l ++ [a])⟩:=append_S l a (ow l.length) (by cases l with
 | nil=>intro h; exact absurd rfl h
 | cons x r=>intro _; rfl) (by omega)
theorem app_Cs (l:List Cs) (a:Cs) (hl:l.length < 100000):appendD k_35 112 ⟨ow l.length,dCl l⟩ [dCs a]=some ⟨true,dCl (l ++ [a])⟩:=by
 have e:=append_one (r:=k_35) (by_:=112) (es:=l.map dCs) (o:=ow l.length) (y:=dCs a) (by cases l with
  | nil=>intro h; exact absurd rfl h
  | cons x r=>intro _; rfl) (ok_dCs a) rfl (by simp [bound]; omega) (by simp [bound]; omega)
 simpa [dCl] using e
def bC9 (nm:Tx) (a:Int) (sups:List Tx) (mets:List (Tx × Int)):List Cell:=[⟨false,.str nm⟩,⟨false,.int .i64 a⟩,⟨false,.str [97]⟩,⟨false,.nils⟩,⟨ow sups.length,dSs sups⟩,⟨ow mets.length,dMs mets⟩]
def b4n:List Cell:=[⟨false,.nils⟩,⟨false,.nils⟩,⟨false,.nils⟩,⟨false,.nils⟩]
def bP5 (cs:List Cs):List Cell:=[⟨false,.nils⟩,⟨ow cs.length,dCl cs⟩,⟨false,.nils⟩,⟨false,.nils⟩]
def EM0 (d:D) (n i k:Nat) (cs:List Cs) (nm:Tx) (a:Int) (sups:List Tx) (j:Nat):Env:={slots:=[(0,⟨false,d⟩),(3,⟨false,dSs nmL5⟩),(4,⟨false,dSs nms3⟩),(6,⟨false,.int .i64 n⟩),(7,⟨false,.int .i64 i⟩),(8,⟨false,.int .i64 k⟩),(10,⟨false,.int .i64 j⟩)],locs:=[(2,2,0),(5,5,0),(9,9,0)],boxes:=[(2,b4n),(5,bP5 cs),(9,bC9 nm a sups [])],defers:=[]}
theorem nm5 (a:Nat) (h:a < 5):∃ s,indexD 1 (dSs nmL5) a=some (.eptr (.str s)):=⟨_,idx_S nmL5 a h⟩
theorem nm5' (a:Nat) (h:a < 5):∃ s,indexD 1 (dSs nmL5) a=some (.eptr (.str s))∧s.length=1:=by
 refine ⟨_,idx_S nmL5 a h,?_⟩
 have:∀ s∈nmL5,s.length=1:=by simp [nmL5]
 exact this _ (List.getElem_mem h)
section
variable {C:CallF} {N:Nat} {σ:Store}
theorem m0_step (d:D) (n i k:Nat) (hk:k < 9223372036854775808) (hi:i < 5) (cs:List Cs) (nm:Tx) (a:Int) (sups:List Tx) (hs:sups.length < 1000) (j:Nat) (hj:j < k % 3):∃ sups',sups'.length≤sups.length + 1∧exec C N none a_45 (EM0 d n i k cs nm a sups j) σ=some (.normal,EM0 d n i k cs nm a sups' (j + 1),σ):=by
 have hj3:k % 3 < 3:=Nat.mod_lt _ (by omega)
 have q0:((k:Int)).tmod 3=((k % 3:Nat):Int):=tmodN k 3
 have hlt:((j:Int) < ((k % 3:Nat):Int)):=by omega
 have q1:IntKind.i64.wrap (5 * (j:Int))=((5 * j:Nat):Int):=by rw [wrap64 (by omega) (by omega)]; omega
 have q2:IntKind.i64.wrap (3 + ((5 * j:Nat):Int))=((3 + 5 * j:Nat):Int):=by rw [wrap64 (by omega) (by omega)]; omega
 have q3:IntKind.i64.wrap ((k:Int).tdiv ((3 + 5 * j:Nat):Int))=((k / (3 + 5 * j):Nat):Int):=tdivB _ _ hk
 have q4:IntKind.i64.wrap ((i:Int) + 1)=((i + 1:Nat):Int):=wrap64_succ (by omega)
 have q5:(((k / (3 + 5 * j):Nat):Int)).tmod ((i + 1:Nat):Int)=((k / (3 + 5 * j) % (i + 1):Nat):Int):=tmodN _ _
 have z1:(((3 + 5 * j:Nat):Int) == 0)=false:=by simp; omega
 have z2:(((i + 1:Nat):Int) == 0)=false:=by simp; omega
 have q6:((k:Int)).tmod 7=((k % 7:Nat):Int):=tmodN k 7
 have q7:IntKind.i64.wrap (3 + (j:Int))=((3 + j:Nat):Int):=by rw [wrap64 (by omega) (by omega)]; omega
 have q8:IntKind.i64.wrap ((k:Int).tdiv ((3 + j:Nat):Int))=((k / (3 + j):Nat):Int):=tdivB _ _ hk
 have q9:(((k / (3 + j):Nat):Int)).tmod 5=((k / (3 + j) % 5:Nat):Int):=tmodN _ 5
 have z3:(((3 + j:Nat):Int) == 0)=false:=by simp; omega
 have w1:=wrap64_succ (i:=j) (by omega)
 have w0:=ow_snoc sups
 have e1:=one_dSs sups
 have r5:k / (3 + 5 * j) % (i + 1) < 5:=Nat.lt_of_lt_of_le (Nat.mod_lt _ (by omega)) (by omega)
 have r6:k / (3 + j) % 5 < 5:=Nat.mod_lt _ (by omega)
 cases h6:k % 7 == 6 with
 | true =>
  obtain ⟨s,hx⟩:=nm5 _ r6
  have h7:(((k % 7:Nat):Int) == 6)=true:=by simp at h6 ⊢; omega
  have ha:=app_Ss sups s (by omega)
  have e2:(dSs (sups ++ [s])).ok=true:=ok_dlist
  have e3:(dSs (sups ++ [s])).cells=[dSs (sups ++ [s])]:=cells_dlist
  have e4:(dSs (sups ++ [s])).one=true:=one_dSs _
  refine ⟨sups ++ [s],by simp,?_⟩
  cases h8:decide (((k / (3 + j) % 5:Nat):Int) < (i:Int)) <;> simp only [decide_eq_true_eq,decide_eq_false_iff_not] at h8 <;>
   simp only [a_45,EM0,bC9,b4n,bP5,sA,seval,kn,natI,q0,hlt,q1,q2,q3,q4,q5,z1,z2,q6,h7,q7,q8,q9,z3,h8,hx,e1,e2,e3,e4,ha,w0,w1]
 | false =>
  have h7:(((k % 7:Nat):Int) == 6)=false:=by simp at h6 ⊢; omega
  by_cases h8:(((k / (3 + 5 * j) % (i + 1):Nat):Int) < (i:Int))
  ·obtain ⟨s,hx⟩:=nm5 _ r5
   have ha:=app_Ss sups s (by omega)
   have e2:(dSs (sups ++ [s])).ok=true:=ok_dlist
   have e3:(dSs (sups ++ [s])).cells=[dSs (sups ++ [s])]:=cells_dlist
   have e4:(dSs (sups ++ [s])).one=true:=one_dSs _
   exact ⟨sups ++ [s],by simp,by simp only [a_45,EM0,bC9,b4n,bP5,sA,seval,kn,natI,q0,hlt,q1,q2,q3,q4,q5,z1,z2,q6,h7,h8,hx,e1,e2,e3,e4,ha,w0,w1]⟩
  ·exact ⟨sups,by omega,by simp only [a_45,EM0,bC9,b4n,bP5,sA,seval,kn,natI,q0,hlt,q1,q2,q3,q4,q5,z1,z2,q6,h7,h8,w1]⟩
theorem m0_end (d:D) (n i k:Nat) (cs:List Cs) (nm:Tx) (a:Int) (sups:List Tx):exec C N none a_45 (EM0 d n i k cs nm a sups (k % 3)) σ=some (.exit 2,{slots:=[(0,⟨false,d⟩),(3,⟨false,dSs nmL5⟩),(4,⟨false,dSs nms3⟩),(6,⟨false,.int .i64 n⟩),(7,⟨false,.int .i64 i⟩),(8,⟨false,.int .i64 k⟩),(10,⟨false,.int .i64 (k % 3:Nat)⟩),(42,⟨false,.bool false⟩)],locs:=[(2,2,0),(5,5,0),(9,9,0)],boxes:=[(2,b4n),(5,bP5 cs),(9,bC9 nm a sups [])],defers:=[]},σ):=by
 have q0:((k:Int)).tmod 3=((k % 3:Nat):Int):=tmodN k 3
 have hlt:¬ (((k % 3:Nat):Int) < ((k % 3:Nat):Int)):=by omega
 simp only [a_45,EM0,sA,seval,kn,q0,hlt]
def EM1 (d:D) (n i k:Nat) (cs:List Cs) (nm:Tx) (a:Int) (sups:List Tx) (mets:List (Tx × Int)) (j:Nat):Env:={slots:=[(0,⟨false,d⟩),(3,⟨false,dSs nmL5⟩),(4,⟨false,dSs nms3⟩),(6,⟨false,.int .i64 n⟩),(7,⟨false,.int .i64 i⟩),(8,⟨false,.int .i64 k⟩),(12,⟨false,.int .i64 j⟩)],locs:=[(2,2,0),(5,5,0),(9,9,0)],boxes:=[(2,b4n),(5,bP5 cs),(9,bC9 nm a sups mets)],defers:=[]}
theorem m1_step (d:D) (n i k:Nat) (hk:k < 9223372036854775808) (hi:i < 5) (cs:List Cs) (nm:Tx) (a:Int) (sups:List Tx) (mets:List (Tx × Int)) (hs:mets.length < 1000) (j:Nat) (hj:j < k / 9 % 3):∃ mets',mets'.length≤mets.length + 1∧exec C N none a_83 (EM1 d n i k cs nm a sups mets j) σ=some (.normal,EM1 d n i k cs nm a sups mets' (j + 1),σ):=by
 have hj3:k / 9 % 3 < 3:=Nat.mod_lt _ (by omega)
 have q0:IntKind.i64.wrap ((k:Int).tdiv 9)=((k / 9:Nat):Int):=tdivB _ 9 hk
 have q1:(((k / 9:Nat):Int)).tmod 3=((k / 9 % 3:Nat):Int):=tmodN _ 3
 have hlt:((j:Int) < ((k / 9 % 3:Nat):Int)):=by omega
 have q2:IntKind.i64.wrap ((i:Int) * 2)=((i * 2:Nat):Int):=by rw [wrap64 (by omega) (by omega)]; omega
 have q3:IntKind.i64.wrap (((i * 2:Nat):Int) + (j:Int))=((i * 2 + j:Nat):Int):=by rw [wrap64 (by omega) (by omega)]; omega
 have q4:(((i * 2 + j:Nat):Int)).tmod 5=(((i * 2 + j) % 5:Nat):Int):=tmodN _ 5
 have q5:IntKind.i64.wrap (10 * (i:Int))=((10 * i:Nat):Int):=by rw [wrap64 (by omega) (by omega)]; omega
 have q6:IntKind.i64.wrap (((10 * i:Nat):Int) + 2)=((10 * i + 2:Nat):Int):=by rw [wrap64 (by omega) (by omega)]; omega
 have q7:IntKind.i64.wrap (((10 * i + 2:Nat):Int) + (j:Int))=((10 * i + 2 + j:Nat):Int):=by rw [wrap64 (by omega) (by omega)]; omega
 have w1:=wrap64_succ (i:=j) (by omega)
 have e1:=one_dMs mets
 have r5:(i * 2 + j) % 5 < 5:=Nat.mod_lt _ (by omega)
 obtain ⟨s,hx,hsl⟩:=nm5' _ r5
 have hsb:1 + s.length≤281474976710656:=by omega
 have ha:=app_Me mets (109 :: s,((10 * i + 2 + j:Nat):Int)) (by omega)
 have w0:=ow_snoc mets (109 :: s,((10 * i + 2 + j:Nat):Int))
 refine ⟨mets ++ [(109 :: s,((10 * i + 2 + j:Nat):Int))],by simp,?_⟩
 have e2:(dMs (mets ++ [(109 :: s,((10 * i + 2 + j:Nat):Int))])).ok=true:=ok_dlist
 have e3:(dMs (mets ++ [(109 :: s,((10 * i + 2 + j:Nat):Int))])).cells=[dMs (mets ++ [(109 :: s,((10 * i + 2 + j:Nat):Int))])]:=cells_dlist
 have e4:(dMs (mets ++ [(109 :: s,((10 * i + 2 + j:Nat):Int))])).one=true:=one_dMs _
 generalize mets ++ [(109 :: s,((10 * i + 2 + j:Nat):Int))]=M at *
 simp only [dMe] at ha
 simp only [a_83,EM1,bC9,b4n,bP5,sA,seval,kn,natI,q0,q1,hlt,q2,q3,q4,q5,q6,q7,hx,hsb,e1,e2,e3,e4,ha,w0,w1]
theorem m1_end (d:D) (n i k:Nat) (hk:k < 9223372036854775808) (cs:List Cs) (nm:Tx) (a:Int) (sups:List Tx) (mets:List (Tx × Int)):exec C N none a_83 (EM1 d n i k cs nm a sups mets (k / 9 % 3)) σ=some (.exit 4,{slots:=[(0,⟨false,d⟩),(3,⟨false,dSs nmL5⟩),(4,⟨false,dSs nms3⟩),(6,⟨false,.int .i64 n⟩),(7,⟨false,.int .i64 i⟩),(8,⟨false,.int .i64 k⟩),(12,⟨false,.int .i64 (k / 9 % 3:Nat)⟩),(82,⟨false,.bool false⟩)],locs:=[(2,2,0),(5,5,0),(9,9,0)],boxes:=[(2,b4n),(5,bP5 cs),(9,bC9 nm a sups mets)],defers:=[]},σ):=by
 have q0:IntKind.i64.wrap ((k:Int).tdiv 9)=((k / 9:Nat):Int):=tdivB _ 9 hk
 have q1:(((k / 9:Nat):Int)).tmod 3=((k / 9 % 3:Nat):Int):=tmodN _ 3
 have hlt:¬ (((k / 9 % 3:Nat):Int) < ((k / 9 % 3:Nat):Int)):=by omega
 simp only [a_83,EM1,sA,seval,kn,q0,q1,hlt]
theorem m0_loop (d:D) (n i k:Nat) (hk:k < 9223372036854775808) (hi:i < 5) (cs:List Cs) (nm:Tx) (a:Int):∀ (r f j:Nat) (sups:List Tx),j + r=k % 3→r < f→sups.length≤j→∃ sups',sups'.length≤k % 3∧loopN (exec C N none a_45) f (EM0 d n i k cs nm a sups j) σ=some (.exit 2,{slots:=[(0,⟨false,d⟩),(3,⟨false,dSs nmL5⟩),(4,⟨false,dSs nms3⟩),(6,⟨false,.int .i64 n⟩),(7,⟨false,.int .i64 i⟩),(8,⟨false,.int .i64 k⟩),(10,⟨false,.int .i64 (k % 3:Nat)⟩),(42,⟨false,.bool false⟩)],locs:=[(2,2,0),(5,5,0),(9,9,0)],boxes:=[(2,b4n),(5,bP5 cs),(9,bC9 nm a sups' [])],defers:=[]},σ)
 | _,0,_,_,_,hk,_=>absurd hk (by omega)
 | 0,f + 1,j,sups,hj,_,hs=>by
  have:j=k % 3:=by omega
  subst this
  exact ⟨sups,hs,loopN_stop (m0_end d n i k cs nm a sups)⟩
 | r + 1,f + 1,j,sups,hj,hf,hs=>by
  have:k % 3 < 3:=Nat.mod_lt _ (by omega)
  obtain ⟨s1,l1,h1⟩:=m0_step (C:=C) (N:=N) (σ:=σ) d n i k hk hi cs nm a sups (by omega) j (by omega)
  obtain ⟨s2,l2,h2⟩:=m0_loop d n i k hk hi cs nm a r f (j + 1) s1 (by omega) (by omega) (by omega)
  exact ⟨s2,l2,loopN_next h1 h2⟩
theorem m1_loop (d:D) (n i k:Nat) (hk:k < 9223372036854775808) (hi:i < 5) (cs:List Cs) (nm:Tx) (a:Int) (sups:List Tx):∀ (r f j:Nat) (mets:List (Tx × Int)),j + r=k / 9 % 3→r < f→mets.length≤j→∃ mets',mets'.length≤k / 9 % 3∧loopN (exec C N none a_83) f (EM1 d n i k cs nm a sups mets j) σ=some (.exit 4,{slots:=[(0,⟨false,d⟩),(3,⟨false,dSs nmL5⟩),(4,⟨false,dSs nms3⟩),(6,⟨false,.int .i64 n⟩),(7,⟨false,.int .i64 i⟩),(8,⟨false,.int .i64 k⟩),(12,⟨false,.int .i64 (k / 9 % 3:Nat)⟩),(82,⟨false,.bool false⟩)],locs:=[(2,2,0),(5,5,0),(9,9,0)],boxes:=[(2,b4n),(5,bP5 cs),(9,bC9 nm a sups mets')],defers:=[]},σ)
 | _,0,_,_,_,hk,_=>absurd hk (by omega)
 | 0,f + 1,j,mets,hj,_,hs=>by
  have:j=k / 9 % 3:=by omega
  subst this
  exact ⟨mets,hs,loopN_stop (m1_end d n i k hk cs nm a sups mets)⟩
 | r + 1,f + 1,j,mets,hj,hf,hs=>by
  have:k / 9 % 3 < 3:=Nat.mod_lt _ (by omega)
  obtain ⟨s1,l1,h1⟩:=m1_step (C:=C) (N:=N) (σ:=σ) d n i k hk hi cs nm a sups mets (by omega) j (by omega)
  obtain ⟨s2,l2,h2⟩:=m1_loop d n i k hk hi cs nm a sups r f (j + 1) s1 (by omega) (by omega) (by omega)
  exact ⟨s2,l2,loopN_next h1 h2⟩
end
end Go.Fu
namespace Go.Fu
open Go Go.Mx
set_option maxRecDepth 10000
set_option maxHeartbeats 4000000
def GoodC (c:Cs):Prop:=c.sups.length≤2∧c.mets.length≤2
section
variable {C:CallF} {N:Nat} {σ:Store}
def EM2 (d:D) (n:Nat) (cs:List Cs) (i:Nat):Env:={slots:=[(0,⟨false,d⟩),(3,⟨false,dSs nmL5⟩),(4,⟨false,dSs nms3⟩),(6,⟨false,.int .i64 n⟩),(7,⟨false,.int .i64 i⟩)],locs:=[(2,2,0),(5,5,0)],boxes:=[(2,b4n),(5,bP5 cs)],defers:=[]}
theorem m2_step (hN:10≤N) (d:D) (n:Nat) (cs:List Cs) (hcs:cs.length < 100) (i:Nat) (hi:i < n % 6) (k:Nat) (hk:k < 9223372036854775808) (hp:C n_103 [d,.int .i64 ((i + 1:Nat):Int)] σ=some (.ret ⟨false,.int .i64 k⟩,σ)):∃ c,GoodC c∧exec C N none a_84 (EM2 d n cs i) σ=some (.normal,EM2 d n (cs ++ [c]) (i + 1),σ):=by
 have hn6:n % 6 < 6:=Nat.mod_lt _ (by omega)
 have hi5:i < 5:=by omega
 have q0:((n:Int)).tmod 6=((n % 6:Nat):Int):=tmodN n 6
 have hlt:((i:Int) < ((n % 6:Nat):Int)):=by omega
 have w1:=wrap64_succ (i:=i) (by omega)
 have q5:IntKind.i64.wrap (10 * (i:Int))=((10 * i:Nat):Int):=by rw [wrap64 (by omega) (by omega)]; omega
 have q6:IntKind.i64.wrap (((10 * i:Nat):Int) + 1)=((10 * i + 1:Nat):Int):=by rw [wrap64 (by omega) (by omega)]; omega
 obtain ⟨s,hx,hsl⟩:=nm5' i hi5
 obtain ⟨sups,hsu,r0⟩:=m0_loop (C:=C) (N:=N) (σ:=σ) d n i k hk hi5 cs s ((10 * i + 1:Nat):Int) (k % 3) N 0 [] (by omega) (by have:k % 3 < 3:=Nat.mod_lt _ (by omega); omega) (by simp)
 obtain ⟨mets,hme,r1⟩:=m1_loop (C:=C) (N:=N) (σ:=σ) d n i k hk hi5 cs s ((10 * i + 1:Nat):Int) sups (k / 9 % 3) N 0 [] (by omega) (by have:k / 9 % 3 < 3:=Nat.mod_lt _ (by omega); omega) (by simp)
 have hk3:k % 3 < 3:=Nat.mod_lt _ (by omega)
 have hk9:k / 9 % 3 < 3:=Nat.mod_lt _ (by omega)
 refine ⟨⟨s,((10 * i + 1:Nat):Int),sups,mets⟩,⟨by show sups.length≤2; omega,by show mets.length≤2; omega⟩,?_⟩
 have ha:=app_Cs cs ⟨s,((10 * i + 1:Nat):Int),sups,mets⟩ (by omega)
 have how:=ow_snoc cs ⟨s,((10 * i + 1:Nat):Int),sups,mets⟩
 have e1:=one_dSs sups
 have e2:=one_dMs mets
 have e3:=one_dCl cs
 have f1:(dCl (cs ++ [⟨s,((10 * i + 1:Nat):Int),sups,mets⟩])).ok=true:=ok_dlist
 have f2:(dCl (cs ++ [⟨s,((10 * i + 1:Nat):Int),sups,mets⟩])).cells=[dCl (cs ++ [⟨s,((10 * i + 1:Nat):Int),sups,mets⟩])]:=cells_dlist
 have f3:(dCl (cs ++ [⟨s,((10 * i + 1:Nat):Int),sups,mets⟩])).one=true:=one_dCl _
 generalize cs ++ [(⟨s,((10 * i + 1:Nat):Int),sups,mets⟩:Cs)]=L at *
 have z1:dSs []=.nils:=rfl
 have z2:dMs []=.nils:=rfl
 simp only [EM0,bC9,b4n,bP5,List.length_nil,ow_zero,z1,z2,zeroI] at r0
 simp only [EM1,bC9,b4n,bP5,List.length_nil,ow_zero,z1,z2,zeroI] at r1
 simp only [dCs,cCs] at ha
 simp only [a_84,EM2,bC9,b4n,bP5,sA,seval,kn,natI,q0,hlt,w1,hp,hx,q5,q6,r0,r1,e1,e2,e3,f1,f2,f3,ha,how]
theorem m2_end (d:D) (n:Nat) (cs:List Cs):exec C N none a_84 (EM2 d n cs (n % 6)) σ=some (.exit 0,{slots:=[(0,⟨false,d⟩),(3,⟨false,dSs nmL5⟩),(4,⟨false,dSs nms3⟩),(6,⟨false,.int .i64 n⟩),(7,⟨false,.int .i64 (n % 6:Nat)⟩),(24,⟨false,.bool false⟩)],locs:=[(2,2,0),(5,5,0)],boxes:=[(2,b4n),(5,bP5 cs)],defers:=[]},σ):=by
 have q0:((n:Int)).tmod 6=((n % 6:Nat):Int):=tmodN n 6
 have hlt:¬ (((n % 6:Nat):Int) < ((n % 6:Nat):Int)):=by omega
 simp only [a_84,EM2,sA,seval,kn,q0,hlt]
theorem m2_loop (hN:10≤N) (d:D) (n:Nat) (hp:∀ a:Nat,∃ k:Nat,k < 9223372036854775808∧C n_103 [d,.int .i64 a] σ=some (.ret ⟨false,.int .i64 k⟩,σ)):∀ (r f i:Nat) (cs:List Cs),i + r=n % 6→r < f→cs.length=i→(∀ c∈cs,GoodC c)→∃ cs',cs'.length=n % 6∧(∀ c∈cs',GoodC c)∧loopN (exec C N none a_84) f (EM2 d n cs i) σ=some (.exit 0,{slots:=[(0,⟨false,d⟩),(3,⟨false,dSs nmL5⟩),(4,⟨false,dSs nms3⟩),(6,⟨false,.int .i64 n⟩),(7,⟨false,.int .i64 (n % 6:Nat)⟩),(24,⟨false,.bool false⟩)],locs:=[(2,2,0),(5,5,0)],boxes:=[(2,b4n),(5,bP5 cs')],defers:=[]},σ)
 | _,0,_,_,_,hk,_,_=>absurd hk (by omega)
 | 0,f + 1,i,cs,hi,_,hl,hg=>by
  have:i=n % 6:=by omega
  subst this
  exact ⟨cs,hl,hg,loopN_stop (m2_end d n cs)⟩
 | r + 1,f + 1,i,cs,hi,hf,hl,hg=>by
  have hn6:n % 6 < 6:=Nat.mod_lt _ (by omega)
  obtain ⟨k,hk,h0⟩:=hp (i + 1)
  obtain ⟨c,hc,h1⟩:=m2_step hN d n cs (by omega) i (by omega) k hk h0
  obtain ⟨cs2,l2,g2,h2⟩:=m2_loop hN d n hp r f (i + 1) (cs ++ [c]) (by omega) (by omega) (by simp; omega) (fun y hy=>by
   rcases List.mem_append.1 hy with hy | hy
   ·exact hg y hy
   ·rw [List.mem_singleton.1 hy]; exact hc)
  exact ⟨cs2,l2,g2,loopN_next h1 h2⟩
end
theorem whole11_run:Evly fun n=>∀ (cs:List Cs) σ,T n n_254 [dPg cs []] σ=some (.ret ⟨false,dPg cs []⟩,σ):=(any (fun _=>True) fun _=>trivial).step 10 fun m hm _ cs σ=>by
 have e1:=one_dCl cs
 have e2:(dCl cs).ok=true:=ok_dlist
 have e3:(dCl cs).cells=[dCl cs]:=cells_dlist
 have hl:loopN (exec (T m) m none a_190) m {slots:=[(4,⟨false,.int .i64 0⟩)],locs:=[(1,1,0),(2,2,0),(3,3,0)],boxes:=[(1,[⟨false,.nils⟩,⟨false,dCl cs⟩,⟨false,.nils⟩,⟨false,.nils⟩]),(2,b4n),(3,[⟨false,.nils⟩,⟨false,dCl cs⟩,⟨false,.nils⟩,⟨false,.nils⟩])],defers:=[]} σ=some (.exit 0,{slots:=[(4,⟨false,.int .i64 0⟩),(20,⟨false,.bool false⟩)],locs:=[(1,1,0),(2,2,0),(3,3,0)],boxes:=[(1,[⟨false,.nils⟩,⟨false,dCl cs⟩,⟨false,.nils⟩,⟨false,.nils⟩]),(2,b4n),(3,[⟨false,.nils⟩,⟨false,dCl cs⟩,⟨false,.nils⟩,⟨false,.nils⟩])],defers:=[]},σ):=by
  obtain ⟨k,rfl⟩:∃ k,m=k + 1:=⟨m - 1,by omega⟩
  have hlt:¬ ((0:Int) < ((0:Nat):Int)):=by omega
  refine loopN_stop ?_
  simp only [a_190,sA,seval,kn,lenOf,hlt]
 have z:dIl []=.nils:=rfl
 simp only [b4n] at hl
 simp only [dPg,z]
 rw [T_fun (af:=a_159) rfl rfl]
 simp only [a_159,sA,seval,kn,e1,e2,e3,hl]
theorem made11_run:Evly fun n=>∀ (d:D) (xs:List Int) σ,Row d xs→Smalls' xs→xs.length≤6→∃ cs,cs.length < 6∧(∀ c∈cs,GoodC c)∧T n n_253 [d] σ=some (.ret ⟨false,dPg cs []⟩,σ) :=
 ((pick11_run.and names11_run).and whole11_run).step 20 fun m hm h d xs σ hR hS hl=>by
 have hpk:=fun a=>h.1.1 d xs a σ hR hS
 obtain ⟨n,hn,hp0⟩:=hpk 0
 obtain ⟨cs,hcl,hcg,hloop⟩:=m2_loop (C:=T m) (N:=m) (σ:=σ) (by omega) d n hpk (n % 6) m 0 [] (by omega) (by have:n % 6 < 6:=Nat.mod_lt _ (by omega); omega) rfl (by simp)
 have hn6:n % 6 < 6:=Nat.mod_lt _ (by omega)
 refine ⟨cs,by omega,hcg,?_⟩
 have hnm:=h.1.2 σ
 have hw:=h.2 cs σ
 have hlen:=row_len hR
 have e1:=one_dCl cs
 have o1:=one_dSs nmL5
 have o2:=one_dSs nms3
 have hlt:¬ ((6:Int) < (xs.length:Int)):=by omega
 have q0:IntKind.i64.wrap ((n:Int).tdiv 6)=((n / 6:Nat):Int):=tdivB _ 6 hn
 have q1:(((n / 6:Nat):Int)).tmod 3=((n / 6 % 3:Nat):Int):=tmodN _ 3
 have h3:loopN (exec (T m) m none a_189) m {slots:=[(0,⟨false,d⟩),(3,⟨false,dSs nmL5⟩),(4,⟨false,dSs nms3⟩),(6,⟨false,.int .i64 n⟩),(13,⟨false,.int .i64 6⟩)],locs:=[(2,2,0),(5,5,0)],boxes:=[(2,b4n),(5,bP5 cs)],defers:=[]} σ=some (.exit 6,{slots:=[(0,⟨false,d⟩),(3,⟨false,dSs nmL5⟩),(4,⟨false,dSs nms3⟩),(6,⟨false,.int .i64 n⟩),(13,⟨false,.int .i64 6⟩),(118,⟨false,.bool false⟩)],locs:=[(2,2,0),(5,5,0)],boxes:=[(2,b4n),(5,bP5 cs)],defers:=[]},σ):=by
  obtain ⟨k,rfl⟩:∃ k,m=k + 1:=⟨m - 1,by omega⟩
  refine loopN_stop ?_
  simp only [a_189,sA,seval,kn,hlen,hlt]
 have z:dIl []=.nils:=rfl
 have z2:dCl []=.nils:=rfl
 simp only [zeroI] at hp0
 simp only [EM2,bP5,b4n,List.length_nil,ow_zero,z2,zeroI] at hloop
 simp only [bP5,b4n] at h3
 simp only [dPg,z] at hw ⊢
 rw [T_fun (af:=a_119) rfl rfl]
 by_cases hg:((n / 6 % 3:Nat):Int) > 0
 ·simp only [a_119,sA,seval,kn,o1,o2,hnm,hp0,hloop,h3,q0,q1,hg,e1,hw]
 ·simp only [a_119,sA,seval,kn,o1,o2,hnm,hp0,hloop,h3,q0,q1,hg,e1]
end Go.Fu
namespace Go.Fu
open Go Go.Mx
set_option maxRecDepth 10000
set_option maxHeartbeats 4000000
theorem pickat_run:Evly fun n=>∀ (d:D) (xs:List Int) (a:Nat) σ,Row d xs→Smalls' xs→∃ v:Nat,v < 100000∧T n n_11 [d,.int .i64 a] σ=some (.ret ⟨false,.int .i64 v⟩,σ):=aroundL.step 0 fun n _ har d xs a σ h hs=>by
 have hlen:=row_len h
 rw [T_fun (af:=a_48) rfl rfl]
 by_cases ha:a < xs.length
 ·have hx:=row_get h a ha
  have h1:=har xs[a] 100000 100000 σ (hs _ (List.getElem_mem ha)) rfl (by omega) (by omega)
  have hg:¬ ((a:Int) ≥ (xs.length:Int)):=by omega
  exact ⟨aro xs[a] 100000,aro_lt _ (by omega),by simp only [a_48,sA,seval,kn,natI,hlen,hx,hg,h1]⟩
 ·have hg:((a:Int) ≥ (xs.length:Int)):=by omega
  exact ⟨0,by omega,by simp only [a_48,sA,seval,kn,natI,hlen,hg,zeroI]⟩
theorem vars12_run:Evly fun n=>∀ (s:Tx) σ,∃ o vs,vs.length≤2∧T n n_184 [.str s] σ=some (.ret ⟨o,dSs vs⟩,σ):=any _ fun n s σ=>by
 rw [T_fun (af:=a_87) rfl rfl]
 cases h1:s == [76] with
 | true =>
  have e:dSs [[97]]=.list k_0 [.str [97]]:=rfl
  exact ⟨true,[[97]],by simp,by rw [e]; simp only [a_87,sA,seval,kn,h1]⟩
 | false =>
  cases h2:s == [80] with
  | true =>
   have e:dSs [[97],[98]]=.list k_0 [.str [97],.str [98]]:=rfl
   exact ⟨true,[[97],[98]],by simp,by rw [e]; simp only [a_87,sA,seval,kn,h1,h2]⟩
  | false =>
   have e:dSs []=.nils:=rfl
   exact ⟨false,[],by simp,by rw [e]; simp only [a_87,sA,seval,kn,h1,h2]⟩
def cons4:List Tx:=[[73,110,116],[66,111,111,108],[76],[80]]
theorem nm4 (a:Nat) (h:a < 4):∃ s,indexD 1 (dSs cons4) a=some (.eptr (.str s)):=⟨_,idx_S cons4 a h⟩
def bI9 (s:Tx) (a:Int) (t:Tx) (ov:Bool) (vs:List Tx) (ps:List Pr):List Cell:=[⟨false,.str s⟩,⟨false,.int .i64 a⟩,⟨false,.str t⟩,⟨ov,dSs vs⟩,⟨ow ps.length,dPs ps⟩,⟨false,.nils⟩]
def bP6 (cs:List Cs) (is:List In):List Cell:=[⟨false,.nils⟩,⟨false,dCl cs⟩,⟨ow is.length,dIl is⟩,⟨false,.nils⟩]
def EW0 (d:D) (cs:List Cs) (is:List In) (i k j:Nat) (s:Tx) (a:Int) (t:Tx) (ov:Bool) (vs:List Tx) (ps:List Pr) (m:Nat):Env:={slots:=[(0,⟨false,d⟩),(3,⟨false,dSs nmL5⟩),(5,⟨true,dSs cons4⟩),(7,⟨false,.int .i64 i⟩),(8,⟨false,.int .i64 k⟩),(10,⟨false,.int .i64 j⟩),(11,⟨false,.int .i64 m⟩)],locs:=[(2,2,0),(6,6,0),(9,9,0)],boxes:=[(2,b4n),(6,bP6 cs is),(9,bI9 s a t ov vs ps)],defers:=[]}
theorem app_Ps (l:List Pr) (a:Pr) (hl:l.length < 100000):appendD k_3 72 ⟨ow l.length,dPs l⟩ [dP a]=some ⟨true,dPs (l ++ [a])⟩:=append_P l a (ow l.length) (by cases l with
 | nil=>intro h; exact absurd rfl h
 | cons x r=>intro _; rfl) (by omega)
section
variable {C:CallF} {N:Nat} {σ:Store}
theorem w0_step (d:D) (cs:List Cs) (is:List In) (i k j:Nat) (hk:k < 100000) (s:Tx) (a:Int) (t:Tx) (ov:Bool) (vs:List Tx) (hj:j < vs.length) (ps:List Pr) (hps:ps.length < 1000) (m:Nat) (hm:m < k % 3):∃ p,exec C N none a_88 (EW0 d cs is i k j s a t ov vs ps m) σ=some (.normal,EW0 d cs is i k j s a t ov vs (ps ++ [p]) (m + 1),σ):=by
 have hm3:k % 3 < 3:=Nat.mod_lt _ (by omega)
 have q0:((k:Int)).tmod 3=((k % 3:Nat):Int):=tmodN k 3
 have hlt:((m:Int) < ((k % 3:Nat):Int)):=by omega
 have q1:IntKind.i64.wrap ((k:Int).tdiv 3)=((k / 3:Nat):Int):=tdivN _ 3 (by omega)
 have q2:IntKind.i64.wrap (((k / 3:Nat):Int) + (m:Int))=((k / 3 + m:Nat):Int):=by rw [wrap64 (by omega) (by omega)]; omega
 have q3:(((k / 3 + m:Nat):Int)).tmod 5=(((k / 3 + m) % 5:Nat):Int):=tmodN _ 5
 have r5:(k / 3 + m) % 5 < 5:=Nat.mod_lt _ (by omega)
 obtain ⟨c,hx,_⟩:=nm5' _ r5
 have hv:indexD 1 (dSs vs) j=_:=idx_S vs j hj
 have w1:=wrap64_succ (i:=m) (by omega)
 have ha:appendD k_3 72 ⟨ow ps.length,dPs ps⟩ [.agg [.str c,.int .i64 2,.int .i64 0,.str vs[j],.nils]]=some ⟨true,dPs (ps ++ [⟨c,.var vs[j]⟩])⟩:=app_Ps ps ⟨c,.var vs[j]⟩ (by omega)
 have how:=ow_snoc ps ⟨c,.var vs[j]⟩
 refine ⟨⟨c,.var vs[j]⟩,?_⟩
 have e1:=one_dSs vs
 have e2:=one_dPs ps
 have f1:(dPs (ps ++ [⟨c,.var vs[j]⟩])).ok=true:=ok_dlist
 have f2:(dPs (ps ++ [⟨c,.var vs[j]⟩])).cells=[dPs (ps ++ [⟨c,.var vs[j]⟩])]:=cells_dlist
 have f3:(dPs (ps ++ [⟨c,.var vs[j]⟩])).one=true:=one_dPs _
 generalize ps ++ [(⟨c,.var vs[j]⟩:Pr)]=L at *
 simp only [a_88,EW0,bI9,bP6,b4n,sA,seval,kn,natI,q0,hlt,q1,q2,q3,hx,hv,e1,e2,f1,f2,f3,ha,how,w1]
theorem w0_end (d:D) (cs:List Cs) (is:List In) (i k j:Nat) (s:Tx) (a:Int) (t:Tx) (ov:Bool) (vs:List Tx) (ps:List Pr):exec C N none a_88 (EW0 d cs is i k j s a t ov vs ps (k % 3)) σ=some (.exit 4,{slots:=[(0,⟨false,d⟩),(3,⟨false,dSs nmL5⟩),(5,⟨true,dSs cons4⟩),(7,⟨false,.int .i64 i⟩),(8,⟨false,.int .i64 k⟩),(10,⟨false,.int .i64 j⟩),(11,⟨false,.int .i64 (k % 3:Nat)⟩),(70,⟨false,.bool false⟩)],locs:=[(2,2,0),(6,6,0),(9,9,0)],boxes:=[(2,b4n),(6,bP6 cs is),(9,bI9 s a t ov vs ps)],defers:=[]},σ):=by
 have q0:((k:Int)).tmod 3=((k % 3:Nat):Int):=tmodN k 3
 have hlt:¬ (((k % 3:Nat):Int) < ((k % 3:Nat):Int)):=by omega
 simp only [a_88,EW0,sA,seval,kn,q0,hlt]
theorem w0_loop (d:D) (cs:List Cs) (is:List In) (i k j:Nat) (hk:k < 100000) (s:Tx) (a:Int) (t:Tx) (ov:Bool) (vs:List Tx) (hj:j < vs.length):∀ (r f m:Nat) (ps:List Pr),m + r=k % 3→r < f→ps.length < 900 + m→∃ ps',ps'.length≤ps.length + r∧loopN (exec C N none a_88) f (EW0 d cs is i k j s a t ov vs ps m) σ=some (.exit 4,{slots:=[(0,⟨false,d⟩),(3,⟨false,dSs nmL5⟩),(5,⟨true,dSs cons4⟩),(7,⟨false,.int .i64 i⟩),(8,⟨false,.int .i64 k⟩),(10,⟨false,.int .i64 j⟩),(11,⟨false,.int .i64 (k % 3:Nat)⟩),(70,⟨false,.bool false⟩)],locs:=[(2,2,0),(6,6,0),(9,9,0)],boxes:=[(2,b4n),(6,bP6 cs is),(9,bI9 s a t ov vs ps')],defers:=[]},σ)
 | _,0,_,_,_,hk,_=>absurd hk (by omega)
 | 0,f + 1,m,ps,hm,_,_=>by
  have:m=k % 3:=by omega
  subst this
  exact ⟨ps,by omega,loopN_stop (w0_end d cs is i k j s a t ov vs ps)⟩
 | r + 1,f + 1,m,ps,hm,hf,hps=>by
  have:k % 3 < 3:=Nat.mod_lt _ (by omega)
  obtain ⟨p,h1⟩:=w0_step (C:=C) (N:=N) (σ:=σ) d cs is i k j hk s a t ov vs hj ps (by omega) m (by omega)
  obtain ⟨s2,l2,h2⟩:=w0_loop d cs is i k j hk s a t ov vs hj r f (m + 1) (ps ++ [p]) (by omega) (by omega) (by simp; omega)
  exact ⟨s2,by simp at l2; omega,loopN_next h1 h2⟩
def EW1 (d:D) (cs:List Cs) (is:List In) (i k j:Nat) (s:Tx) (a:Int) (t:Tx) (ov:Bool) (vs:List Tx) (ps:List Pr):Env:={slots:=[(0,⟨false,d⟩),(3,⟨false,dSs nmL5⟩),(5,⟨true,dSs cons4⟩),(7,⟨false,.int .i64 i⟩),(8,⟨false,.int .i64 k⟩),(10,⟨false,.int .i64 j⟩)],locs:=[(2,2,0),(6,6,0),(9,9,0)],boxes:=[(2,b4n),(6,bP6 cs is),(9,bI9 s a t ov vs ps)],defers:=[]}
theorem w1_step (hN:10≤N) (d:D) (cs:List Cs) (is:List In) (i k j:Nat) (hk:k < 100000) (s:Tx) (a:Int) (t:Tx) (ov:Bool) (vs:List Tx) (hvl:vs.length≤2) (hj:j < vs.length) (ps:List Pr) (hps:ps.length < 900):∃ ps',ps'.length≤ps.length + 2∧exec C N none a_89 (EW1 d cs is i k j s a t ov vs ps) σ=some (.normal,EW1 d cs is i (k / 15) (j + 1) s a t ov vs ps',σ):=by
 have hm3:k % 3 < 3:=Nat.mod_lt _ (by omega)
 obtain ⟨ps',hl,r0⟩:=w0_loop (C:=C) (N:=N) (σ:=σ) d cs is i k j hk s a t ov vs hj (k % 3) N 0 ps (by omega) (by omega) (by omega)
 refine ⟨ps',by omega,?_⟩
 have hlt:((j:Int) < (vs.length:Int)):=by omega
 have hlv:lenOf (dSs vs)=some vs.length:=by simp only [dSs,lenOf_dlist,List.length_map]
 have w1:=wrap64_succ (i:=j) (by omega)
 have q1:IntKind.i64.wrap ((k:Int).tdiv 15)=((k / 15:Nat):Int):=tdivN _ 15 (by omega)
 simp only [EW0,zeroI] at r0
 simp only [bI9] at r0
 simp only [a_89,EW1,bI9,sA,seval,kn,hlv,hlt,r0,q1,w1]
theorem w1_end (d:D) (cs:List Cs) (is:List In) (i k:Nat) (s:Tx) (a:Int) (t:Tx) (ov:Bool) (vs:List Tx) (ps:List Pr):exec C N none a_89 (EW1 d cs is i k vs.length s a t ov vs ps) σ=some (.exit 2,{slots:=[(0,⟨false,d⟩),(3,⟨false,dSs nmL5⟩),(5,⟨true,dSs cons4⟩),(7,⟨false,.int .i64 i⟩),(8,⟨false,.int .i64 k⟩),(10,⟨false,.int .i64 vs.length⟩),(64,⟨false,.bool false⟩)],locs:=[(2,2,0),(6,6,0),(9,9,0)],boxes:=[(2,b4n),(6,bP6 cs is),(9,bI9 s a t ov vs ps)],defers:=[]},σ):=by
 have hlt:¬ ((vs.length:Int) < (vs.length:Int)):=by omega
 have hlv:lenOf (dSs vs)=some vs.length:=by simp only [dSs,lenOf_dlist,List.length_map]
 simp only [a_89,EW1,bI9,sA,seval,kn,hlv,hlt]
theorem w1_loop (hN:10≤N) (d:D) (cs:List Cs) (is:List In) (i:Nat) (s:Tx) (a:Int) (t:Tx) (ov:Bool) (vs:List Tx) (hvl:vs.length≤2):∀ (r f j k:Nat) (ps:List Pr),j + r=vs.length→r < f→k < 100000→ps.length≤2 * j→∃ ps' k',ps'.length < 900∧loopN (exec C N none a_89) f (EW1 d cs is i k j s a t ov vs ps) σ=some (.exit 2,{slots:=[(0,⟨false,d⟩),(3,⟨false,dSs nmL5⟩),(5,⟨true,dSs cons4⟩),(7,⟨false,.int .i64 i⟩),(8,⟨false,.int .i64 (k':Nat)⟩),(10,⟨false,.int .i64 vs.length⟩),(64,⟨false,.bool false⟩)],locs:=[(2,2,0),(6,6,0),(9,9,0)],boxes:=[(2,b4n),(6,bP6 cs is),(9,bI9 s a t ov vs ps')],defers:=[]},σ)
 | _,0,_,_,_,_,hf,_,_=>absurd hf (by omega)
 | 0,f + 1,j,k,ps,hj,_,_,hp=>by
  have:j=vs.length:=by omega
  subst this
  exact ⟨ps,k,by omega,loopN_stop (w1_end d cs is i k s a t ov vs ps)⟩
 | r + 1,f + 1,j,k,ps,hj,hf,hk,hp=>by
  obtain ⟨ps1,l1,h1⟩:=w1_step (C:=C) (N:=N) (σ:=σ) hN d cs is i k j hk s a t ov vs hvl (by omega) ps (by omega)
  obtain ⟨ps2,k2,l2,h2⟩:=w1_loop hN d cs is i s a t ov vs hvl r f (j + 1) (k / 15) ps1 (by omega) (by omega) (by have:=Nat.div_le_self k 15; omega) (by omega)
  exact ⟨ps2,k2,l2,loopN_next h1 h2⟩
end
end Go.Fu

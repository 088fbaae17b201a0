/-
 Worlds: instances,made of numbers: all of them.
-/
import Derived.Test.YtieacpoabejcoaaGreatDoorFsV4
import Derived.Test.YtieacpoabejcoaaGreatDoorFsJ1
import Derived.Test.YtieacpoabejcoaaGreatDoorFsD2
set_option maxHeartbeats 4000000
set_option linter.unusedSimpArgs false
set_option linter.unusedVariables false
set_option linter.unusedSectionVars false
namespace Go.Fu
open Go Go.Mx
set_option maxRecDepth 10000
set_option maxHeartbeats 4000000
theorem ok_dIn (y:In):(dIn y).ok=true:=by
 have e1:=one_dSs y.vars
 have e2:=one_dPs y.preds
 simp only [dIn,cIn,D.ok,List.all_cons,e1,e2,List.all_nil,Bool.and_true]
 try rfl
theorem app_In (l:List In) (a:In) (hl:l.length < 100000):appendD k_12 112 ⟨ow l.length,dIl l⟩ [dIn a]=some ⟨true,dIl (l ++ [a])⟩:=by
 have e:=append_one (r:=k_12) (by_:=112) (es:=l.map dIn) (o:=ow l.length) (y:=dIn a) (by cases l with
  | nil=>intro h; exact absurd rfl h
  | cons x r=>intro _; rfl) (ok_dIn a) rfl (by simp [bound]; omega) (by simp [bound]; omega)
 simpa [dIl] using e
section
variable {C:CallF} {N:Nat} {σ:Store}
def EW2 (d:D) (cs:List Cs) (is:List In) (i:Nat) (s:Tx) (a:Int) (t:Tx) (ov:Bool) (vs:List Tx) (ps:List Pr) (o:Bool) (all:List Tx) (j:Nat):Env:={slots:=[(0,⟨false,d⟩),(3,⟨false,dSs nmL5⟩),(5,⟨true,dSs cons4⟩),(7,⟨false,.int .i64 i⟩),(12,⟨o,dSs all⟩),(13,⟨false,.int .i64 j⟩)],locs:=[(2,2,0),(6,6,0),(9,9,0)],boxes:=[(2,b4n),(6,bP6 cs is),(9,bI9 s a t ov vs ps)],defers:=[]}
theorem w2_step (d:D) (cs:List Cs) (is:List In) (hl:is.length < 1000) (i:Nat) (s:Tx) (a:Int) (t:Tx) (ov:Bool) (vs:List Tx) (ps:List Pr) (o:Bool) (all:List Tx) (ha:all.length < 1000) (j:Nat) (hj:j < all.length) (k:Int) (b:Bool) (hc:C n_68 [dPg cs is,.str all[j],.str t] σ=some (.ret ⟨false,.tup [.int .i64 k,.bool b]⟩,σ)):∃ is',is'.length≤is.length + 1∧exec C N none a_60 (EW2 d cs is i s a t ov vs ps o all j) σ=some (.normal,EW2 d cs is' i s a t ov vs ps o all (j + 1),σ):=by
 have hlt:((j:Int) < (all.length:Int)):=by omega
 have hla:lenOf (dSs all)=some all.length:=by simp only [dSs,lenOf_dlist,List.length_map]
 have hx:indexD 1 (dSs all) j=_:=idx_S all j hj
 have w1:=wrap64_succ (i:=j) (by omega)
 have e1:=one_dSs vs
 have e2:=one_dPs ps
 have e3:=one_dCl cs
 have e4:=one_dIl is
 cases b with
 | true =>
  refine ⟨is,by omega,?_⟩
  simp only [dPg] at hc
  simp only [a_60,EW2,bI9,bP6,b4n,sA,seval,kn,natI,hla,hlt,hx,w1,e1,e2,e3,e4,hc]
 | false =>
  have hap:=app_In is ⟨all[j],IntKind.i64.wrap (a + IntKind.i64.wrap (20 * (j:Int))),t,vs,ps⟩ (by omega)
  have how:=ow_snoc is ⟨all[j],IntKind.i64.wrap (a + IntKind.i64.wrap (20 * (j:Int))),t,vs,ps⟩
  refine ⟨is ++ [⟨all[j],IntKind.i64.wrap (a + IntKind.i64.wrap (20 * (j:Int))),t,vs,ps⟩],by simp,?_⟩
  have f1:(dIl (is ++ [⟨all[j],IntKind.i64.wrap (a + IntKind.i64.wrap (20 * (j:Int))),t,vs,ps⟩])).ok=true:=ok_dlist
  have f2:(dIl (is ++ [⟨all[j],IntKind.i64.wrap (a + IntKind.i64.wrap (20 * (j:Int))),t,vs,ps⟩])).cells=[dIl (is ++ [⟨all[j],IntKind.i64.wrap (a + IntKind.i64.wrap (20 * (j:Int))),t,vs,ps⟩])]:=cells_dlist
  have f3:(dIl (is ++ [⟨all[j],IntKind.i64.wrap (a + IntKind.i64.wrap (20 * (j:Int))),t,vs,ps⟩])).one=true:=one_dIl _
  generalize is ++ [(⟨all[j],IntKind.i64.wrap (a + IntKind.i64.wrap (20 * (j:Int))),t,vs,ps⟩:In)]=L at *
  simp only [dIn,cIn] at hap
  simp only [dPg] at hc
  simp only [a_60,EW2,bI9,bP6,b4n,sA,seval,kn,natI,hla,hlt,hx,w1,e1,e2,e3,e4,hc,hap,how,f1,f2,f3]
theorem w2_end (d:D) (cs:List Cs) (is:List In) (i:Nat) (s:Tx) (a:Int) (t:Tx) (ov:Bool) (vs:List Tx) (ps:List Pr) (o:Bool) (all:List Tx):exec C N none a_60 (EW2 d cs is i s a t ov vs ps o all all.length) σ=some (.exit 6,{slots:=[(0,⟨false,d⟩),(3,⟨false,dSs nmL5⟩),(5,⟨true,dSs cons4⟩),(7,⟨false,.int .i64 i⟩),(12,⟨o,dSs all⟩),(13,⟨false,.int .i64 all.length⟩),(102,⟨false,.bool false⟩)],locs:=[(2,2,0),(6,6,0),(9,9,0)],boxes:=[(2,b4n),(6,bP6 cs is),(9,bI9 s a t ov vs ps)],defers:=[]},σ):=by
 have hlt:¬ ((all.length:Int) < (all.length:Int)):=by omega
 have hla:lenOf (dSs all)=some all.length:=by simp only [dSs,lenOf_dlist,List.length_map]
 simp only [a_60,EW2,sA,seval,kn,hla,hlt]
theorem w2_loop (d:D) (cs:List Cs) (hI:∀ (is:List In) (s t:Tx),is.length < 1000→∃ (k:Int) (b:Bool),C n_68 [dPg cs is,.str s,.str t] σ=some (.ret ⟨false,.tup [.int .i64 k,.bool b]⟩,σ)) (i:Nat) (s:Tx) (a:Int) (t:Tx) (ov:Bool) (vs:List Tx) (ps:List Pr) (o:Bool) (all:List Tx) (ha:all.length < 10):∀ (r f j:Nat) (is:List In),j + r=all.length→r < f→is.length < 900 + j→∃ is',is'.length≤is.length + r∧loopN (exec C N none a_60) f (EW2 d cs is i s a t ov vs ps o all j) σ=some (.exit 6,{slots:=[(0,⟨false,d⟩),(3,⟨false,dSs nmL5⟩),(5,⟨true,dSs cons4⟩),(7,⟨false,.int .i64 i⟩),(12,⟨o,dSs all⟩),(13,⟨false,.int .i64 all.length⟩),(102,⟨false,.bool false⟩)],locs:=[(2,2,0),(6,6,0),(9,9,0)],boxes:=[(2,b4n),(6,bP6 cs is'),(9,bI9 s a t ov vs ps)],defers:=[]},σ)
 | _,0,_,_,_,hf,_=>absurd hf (by omega)
 | 0,f + 1,j,is,hj,_,_=>by
  have:j=all.length:=by omega
  subst this
  exact ⟨is,by omega,loopN_stop (w2_end d cs is i s a t ov vs ps o all)⟩
 | r + 1,f + 1,j,is,hj,hf,hl=>by
  obtain ⟨k,b,h0⟩:=hI is (all[j]'(by omega)) t (by omega)
  obtain ⟨is1,l1,h1⟩:=w2_step (N:=N) d cs is (by omega) i s a t ov vs ps o all (by omega) j (by omega) k b h0
  obtain ⟨is2,l2,h2⟩:=w2_loop d cs hI i s a t ov vs ps o all ha r f (j + 1) is1 (by omega) (by omega) (by omega)
  exact ⟨is2,by omega,loopN_next h1 h2⟩
def EW3 (d:D) (cs:List Cs) (is:List In) (i:Nat):Env:={slots:=[(0,⟨false,d⟩),(3,⟨false,dSs nmL5⟩),(5,⟨true,dSs cons4⟩),(7,⟨false,.int .i64 i⟩)],locs:=[(2,2,0),(6,6,0)],boxes:=[(2,b4n),(6,bP6 cs is)],defers:=[]}
theorem w3_step (hN:10≤N) (d:D) (len:Nat) (hd:lenOf d=some len) (cs:List Cs) (hcs:cs.length < 6) (hI:∀ (is:List In) (s t:Tx),is.length < 1000→∃ (k:Int) (b:Bool),C n_68 [dPg cs is,.str s,.str t] σ=some (.ret ⟨false,.tup [.int .i64 k,.bool b]⟩,σ))
  (hA:∀ (is:List In) (s:Tx),∃ o l,Nm cs l∧C n_135 [dPg cs is,.str s] σ=some (.ret ⟨o,dSs l⟩,σ)) (hV:∀ s:Tx,∃ o vs,vs.length≤2∧C n_184 [.str s] σ=some (.ret ⟨o,dSs vs⟩,σ)) (hP:∀ a:Nat,∃ v:Nat,v < 100000∧C n_11 [d,.int .i64 a] σ=some (.ret ⟨false,.int .i64 v⟩,σ))
  (is:List In) (hl:is.length < 500) (i:Nat) (hi:i < 16) (hil:i < len):∃ is',is'.length≤is.length + 5∧exec C N none a_61 (EW3 d cs is i) σ=some (.normal,EW3 d cs is' (i + 1),σ):=by
 have h16:((i:Int) < 16):=by omega
 have hlt:((i:Int) < (len:Int)):=by omega
 obtain ⟨k,hk,p1⟩:=hP i
 have q0:((k:Int)).tmod 5=((k % 5:Nat):Int):=tmodN k 5
 have q1:IntKind.i64.wrap ((k:Int).tdiv 5)=((k / 5:Nat):Int):=tdivN _ 5 (by omega)
 have q2:(((k / 5:Nat):Int)).tmod 4=((k / 5 % 4:Nat):Int):=tmodN _ 4
 have q3:IntKind.i64.wrap (100 + (i:Int))=((100 + i:Nat):Int):=by rw [wrap64 (by omega) (by omega)]; omega
 have q4:IntKind.i64.wrap ((k:Int).tdiv 20)=((k / 20:Nat):Int):=tdivN _ 20 (by omega)
 have w1:=wrap64_succ (i:=i) (by omega)
 obtain ⟨s,hx,_⟩:=nm5' (k % 5) (Nat.mod_lt _ (by omega))
 obtain ⟨t,ht⟩:=nm4 (k / 5 % 4) (Nat.mod_lt _ (by omega))
 obtain ⟨ov,vs,hvl,v1⟩:=hV t
 obtain ⟨ps,k',hps,r1⟩:=w1_loop (C:=C) (N:=N) (σ:=σ) hN d cs is i s ((100 + i:Nat):Int) t ov vs hvl vs.length N 0 (k / 20) [] (by omega) (by omega) (by have:=Nat.div_le_self k 20; omega) (by simp)
 obtain ⟨o,all,hall,a1⟩:=hA is s
 have hal:=hall.len
 obtain ⟨is',hl',r2⟩:=w2_loop (C:=C) (N:=N) (σ:=σ) d cs hI i s ((100 + i:Nat):Int) t ov vs ps o all (by omega) all.length N 0 is (by omega) (by omega) (by omega)
 refine ⟨is',by omega,?_⟩
 have e1:=one_dSs vs
 have e3:=one_dCl cs
 have e4:=one_dIl is
 have f1:(dSs vs).ok=true:=ok_dlist
 have f2:(dSs vs).cells=[dSs vs]:=cells_dlist
 have z1:dPs []=.nils:=rfl
 simp only [EW1,bI9,b4n,bP6,List.length_nil,ow_zero,z1,zeroI] at r1
 simp only [EW2,bI9,b4n,bP6,zeroI] at r2
 simp only [dPg] at a1
 simp only [a_61,EW3,bP6,b4n,sA,seval,kn,natI,hd,h16,hlt,p1,q0,q1,q2,q3,q4,hx,ht,v1,r1,a1,r2,e1,e3,e4,f1,f2,w1]
theorem w3_end (d:D) (len:Nat) (hd:lenOf d=some len) (cs:List Cs) (is:List In) (i:Nat) (h:¬ (i < 16∧i < len)):exec C N none a_61 (EW3 d cs is i) σ=some (.exit 0,{slots:=[(0,⟨false,d⟩),(3,⟨false,dSs nmL5⟩),(5,⟨true,dSs cons4⟩),(7,⟨false,.int .i64 i⟩),(34,⟨false,.bool false⟩)],locs:=[(2,2,0),(6,6,0)],boxes:=[(2,b4n),(6,bP6 cs is)],defers:=[]},σ):=by
 by_cases h1:((i:Int) < 16)
 ·have h2:¬ ((i:Int) < (len:Int)):=by omega
  simp only [a_61,EW3,sA,seval,kn,hd,h1,h2]
 ·simp only [a_61,EW3,sA,seval,kn,hd,h1]
theorem w3_loop (hN:10≤N) (d:D) (len:Nat) (hd:lenOf d=some len) (cs:List Cs) (hcs:cs.length < 6) (hI:∀ (is:List In) (s t:Tx),is.length < 1000→∃ (k:Int) (b:Bool),C n_68 [dPg cs is,.str s,.str t] σ=some (.ret ⟨false,.tup [.int .i64 k,.bool b]⟩,σ))
  (hA:∀ (is:List In) (s:Tx),∃ o l,Nm cs l∧C n_135 [dPg cs is,.str s] σ=some (.ret ⟨o,dSs l⟩,σ)) (hV:∀ s:Tx,∃ o vs,vs.length≤2∧C n_184 [.str s] σ=some (.ret ⟨o,dSs vs⟩,σ)) (hP:∀ a:Nat,∃ v:Nat,v < 100000∧C n_11 [d,.int .i64 a] σ=some (.ret ⟨false,.int .i64 v⟩,σ)):∀ (r f i:Nat) (is:List In),i + r=16→r < f→is.length≤5 * i→∃ is' i',is'.length < 500∧loopN (exec C N none a_61) f (EW3 d cs is i) σ=some (.exit 0,{slots:=[(0,⟨false,d⟩),(3,⟨false,dSs nmL5⟩),(5,⟨true,dSs cons4⟩),(7,⟨false,.int .i64 (i':Nat)⟩),(34,⟨false,.bool false⟩)],locs:=[(2,2,0),(6,6,0)],boxes:=[(2,b4n),(6,bP6 cs is')],defers:=[]},σ)
 | _,0,_,_,_,hf,_=>absurd hf (by omega)
 | 0,f + 1,i,is,hi,_,hl=>⟨is,i,by omega,loopN_stop (w3_end d len hd cs is i (by omega))⟩
 | r + 1,f + 1,i,is,hi,hf,hl=>by
  by_cases h:i < len
  ·obtain ⟨is1,l1,h1⟩:=w3_step hN d len hd cs hcs hI hA hV hP is (by omega) i (by omega) h
   obtain ⟨is2,i2,l2,h2⟩:=w3_loop hN d len hd cs hcs hI hA hV hP r f (i + 1) is1 (by omega) (by omega) (by omega)
   exact ⟨is2,i2,l2,loopN_next h1 h2⟩
  ·exact ⟨is,i,by omega,loopN_stop (w3_end d len hd cs is i (by omega))⟩
end
theorem world12_run (d:D) (xs:List Int) (hR:Row d xs) (hS:Smalls' xs):Evly fun n=>∀ σ,∃ cs is,cs.length < 6∧(∀ c∈cs,GoodC c)∧is.length < 500∧T n n_255 [d] σ=some (.ret ⟨false,dPg cs is⟩,σ):=by
 obtain ⟨d',hR',o',hints⟩:=ints_run d xs 6 hR (by omega)
 have hS':Smalls' (xs.take 6):=fun x hx=>hS x (List.mem_of_mem_take hx)
 refine ((((hints.and made11_run).and inst11_run).and (vars12_run.and pickat_run)).and (names11_run.and Above11)).step 100 fun m hm h σ=>?_
 obtain ⟨⟨⟨⟨g1,g2⟩,g3⟩,g4,g5⟩,g6,g7⟩:=h
 obtain ⟨cs,hcs,hg,m1⟩:=g2 d' (xs.take 6) σ hR' hS' (by rw [List.length_take]; omega)
 have i1:=g1 σ
 have n1:=g6 σ
 have hlen:=row_len hR
 obtain ⟨is,i2,hl,r3⟩:=w3_loop (C:=T m) (N:=m) (σ:=σ) (by omega) d xs.length hlen cs hcs (fun is s t hi=>g3 cs is s t σ hi) (fun is s=>g7 cs (by omega) (fun c hc=>by have:=(hg c hc).1; omega) is s σ) (fun s=>g4 s σ) (fun a=>g5 d xs a σ hR hS) 10 m 6 [] (by omega) (by omega) (by simp)
 refine ⟨cs,is,hcs,hg,hl,?_⟩
 have e3:=one_dCl cs
 have e4:=one_dIl is
 have f1:(dCl cs).ok=true:=ok_dlist
 have f2:(dCl cs).cells=[dCl cs]:=cells_dlist
 have o1:=one_dSs nmL5
 have o2:=one_dSs nms3
 have z:dIl []=.nils:=rfl
 have c4:D.list k_0 [.str [73,110,116],.str [66,111,111,108],.str [76],.str [80]]=dSs cons4:=rfl
 have hpt:Mx.part none [.nils,dCl cs,.nils,.nils] 1=some (dCl cs):=rfl
 have s6:((6:Nat):Int)=6:=rfl
 simp only [s6] at i1
 simp only [EW3,b4n,bP6,List.length_nil,ow_zero,z,s6] at r3
 simp only [dPg,z] at m1 ⊢
 rw [T_fun (af:=a_162) rfl rfl]
 simp only [a_162,sA,seval,kn,o1,o2,n1,c4,i1,m1,hpt,f1,f2,e3,e4,r3]
end Go.Fu
namespace Go.Fu
open Go Go.Mx
set_option maxRecDepth 10000
set_option maxHeartbeats 4000000
def Bys (d:D) (bys:List Tp):Prop:=∀ k (h:k < bys.length),indexD 4 d k=some (.eptr (dT bys[k]))
theorem bys_list (l:List Tp):Bys (.list k_1 (l.map dT)) l:=fun k h=>by
 have hn:nth (l.map dT) k=some (dT l[k]):=by rw [nth_map,nth_get _ _ h]; rfl
 rw [idxL,hn]
 rfl
theorem substG (names:List (List UInt8)) (bys:List Tp) (hl:names.length < 1048576) (hb:bys.length=names.length) (db:D) (hd:Bys db bys):∀ t:Tp,Evly fun n=>∀ σ,T n n_19 [dT t,dSs names,db] σ=some (.ret ⟨false,dT (subT names bys t)⟩,σ)
 | .hole x=>(own_run (.hole x)).step 0 fun m _ hown σ=>by
  have h1:=hown σ
  simp only [dT] at h1
  rw [T_fun (af:=a_10) rfl rfl]
  simp only [a_10,sA,seval,kn,subT,dT,h1]
 | .con s=>(own_run (.con s)).step 0 fun m _ hown σ=>by
  have h1:=hown σ
  simp only [dT] at h1
  rw [T_fun (af:=a_10) rfl rfl]
  simp only [a_10,sA,seval,kn,subT,dT,h1]
 | .app f a=>((substG names bys hl hb db hd f).and ((substG names bys hl hb db hd a).and apply_run)).step 0 fun m _ h σ=>by
  have h1:=h.1 σ
  have h2:=h.2.1 σ
  have h3:=h.2.2 (subT names bys f) (subT names bys a) σ
  rw [T_fun (af:=a_10) rfl rfl]
  simp only [subT,dT] at h3 ⊢
  rw [dT_eq f] at h1 ⊢
  rw [dT_eq a] at h2 ⊢
  rw [dT_eq (subT names bys f)] at h1 h3 ⊢
  rw [dT_eq (subT names bys a)] at h2 h3 ⊢
  simp only [cT] at h1 h2 h3 ⊢
  simp only [a_10,sA,seval,kn,h1,h2,h3]
 | .var s=>by
  cases hp:posS s names with
  | none =>
   refine ((own_run (.var s)).and (index_run names s hl)).step 0 fun m _ h σ=>?_
   have h1:=h.1 σ
   have h2:=h.2 σ
   simp only [dT,posI,hp] at h1 h2
   rw [T_fun (af:=a_10) rfl rfl]
   simp only [a_10,sA,seval,kn,subT,dT,h1,h2,hp]
  | some k =>
   have hk:=posS_lt hp
   have hkb:k < bys.length:=by omega
   refine ((own_run bys[k]).and (index_run names s hl)).step 0 fun m _ h σ=>?_
   have h1:=h.1 σ
   have h2:=h.2 σ
   have h0:(0:Int)≤(k:Int):=by omega
   have hx:=hd k hkb
   have hg:bys.getD k (.var s)=bys[k]:=by simp [hkb]
   simp only [posI,hp] at h2
   rw [T_fun (af:=a_10) rfl rfl]
   simp only [subT,hp,hg]
   rw [dT_eq bys[k]] at h1 hx ⊢
   simp only [cT] at h1 hx ⊢
   simp only [a_10,sA,seval,kn,subT,dT,h1,h2,h0,hx]
section
variable {C:CallF} {n:Nat} {σ:Store}
def EpG (vs ks:D) (ps:List Pr) (t:Tp) (names:List (List UInt8)) (bys:List Tp) (db:D) (i:Nat):Env:={slots:=[(1,⟨false,dSs names⟩),(2,⟨false,db⟩),(8,⟨ow i,dlist k_3 (((ps.map (putP names bys)).take i).map dP)⟩),(12,⟨false,dlist k_3 (ps.map dP)⟩),(13,⟨false,.int .i64 ps.length⟩),(14,⟨false,.int .i64 i⟩)],locs:=[(3,3,0),(7,7,0)],boxes:=[(3,⟨false,vs⟩ :: ⟨false,ks⟩ :: ⟨false,dlist k_3 (ps.map dP)⟩ :: bT t),(7,[⟨false,.int .i64 0⟩,⟨false,.int .i64 0⟩,⟨false,.str []⟩,⟨false,.nils⟩])],defers:=[]}
theorem lpG_step (vs ks:D) (ps:List Pr) (t:Tp) (names:List (List UInt8)) (bys:List Tp) (db:D) (i:Nat) (h:i < ps.length) (hl:ps.length < 1048576)
  (hc:C n_19 [dT ps[i].ty,dSs names,db] σ=some (.ret ⟨false,dT (subT names bys ps[i].ty)⟩,σ)):exec C n none b_scheme_put_l0 (EpG vs ks ps t names bys db i) σ=some (.normal,EpG vs ks ps t names bys db (i + 1),σ):=by
 have hi:((i:Int) < (ps.length:Int)):=by omega
 have hx:=idx_P ps i h
 have ha:=put_append ps names bys i h hl
 rw [dT_eq,dT_eq] at hc
 simp only [putP,dP,cT] at hc hx ha
 simp only [b_scheme_put_l0,EpG,putP,bT,sA,seval,kn,hi,hx,hc,ha,wrap64_succ (i:=i) (by omega),ow_succ]
theorem lpG_end (vs ks:D) (ps:List Pr) (t:Tp) (names:List (List UInt8)) (bys:List Tp) (db:D):exec C n none b_scheme_put_l0 (EpG vs ks ps t names bys db ps.length) σ=some (.exit 0,{EpG vs ks ps t names bys db ps.length with slots:=[(1,⟨false,dSs names⟩),(2,⟨false,db⟩),(8,⟨ow ps.length,dlist k_3 ((ps.map (putP names bys)).map dP)⟩),(12,⟨false,dlist k_3 (ps.map dP)⟩),(13,⟨false,.int .i64 ps.length⟩),(14,⟨false,.int .i64 ps.length⟩),(15,⟨false,.bool false⟩)]},σ):=by
 have hi:¬ ((ps.length:Int) < (ps.length:Int)):=by omega
 have ht:(ps.map (putP names bys)).take ps.length=ps.map (putP names bys):=List.take_of_length_le (by simp)
 simp only [b_scheme_put_l0,EpG,bT,sA,seval,kn,hi,ht]
end
theorem putG (vs ks:D) (ps:List Pr) (t:Tp) (names:List (List UInt8)) (bys:List Tp) (hp:ps.length < 1048576) (hl:names.length < 1048576) (hb:bys.length=names.length) (db:D) (hd:Bys db bys) :
  Evly fun n=>∀ σ,T n n_29 [.agg (vs :: ks :: dPs ps :: cT t),dSs names,db] σ=some (.ret ⟨false,.tup [dPs (ps.map (putP names bys)),dT (subT names bys t)]⟩,σ):=by
 have hk:Evly fun n=>∀ i,i < ps.length→∀ (h:i < ps.length) σ,T n n_19 [dT ps[i].ty,dSs names,db] σ=some (.ret ⟨false,dT (subT names bys ps[i].ty)⟩,σ) :=
  Evly.below _ fun i hi=>(substG names bys hl hb db hd ps[i].ty).mono fun n h _ σ=>h σ
 refine (hk.and (substG names bys hl hb db hd t)).step (ps.length + 2) fun m hm hrun σ=>?_
 rw [T_fun (af:=b_scheme_put) rfl rfl]
 have hloop:=loopN_run (body:=exec (T m) m none b_scheme_put_l0) (EpG vs ks ps t names bys db) (fun _=>σ) ps.length (r:=_) (fun _ _ h=>by cases h) (fun i hi=>lpG_step vs ks ps t names bys db i hi hp (hrun.1 i hi hi σ)) (lpG_end vs ks ps t names bys db) 0 m (by omega) (by omega)
 simp only [EpG,bT,zeroI,List.take_zero,List.map_nil,dlist_nil,ow_zero] at hloop
 have h2:=hrun.2 σ
 rw [dT_eq,dT_eq (subT names bys t)] at h2
 rw [dT_eq (subT names bys t)]
 simp only [cT] at h2
 simp only [b_scheme_put,sA,seval,kn,dPs,cT,List.length_map,hloop,h2]
def apN (c:UInt8) (n:Nat):List Tx:=(List.range n).map fun i=>[c,UInt8.ofNat (48 + i)]
def apT (c:UInt8) (n:Nat):List Tp:=(apN c n).map .var
theorem apN_len (c:UInt8) (n:Nat):(apN c n).length=n:=by simp [apN]
theorem apT_len (c:UInt8) (n:Nat):(apT c n).length=n:=by simp [apT,apN]
section
variable {C:CallF} {N:Nat} {σ:Store}
def Eap (c:UInt8) (n i:Nat):Env:={slots:=[(0,⟨false,.str [c]⟩),(4,⟨ow i,dSs ((apN c n).take i)⟩),(5,⟨ow i,dTs ((apT c n).take i)⟩),(7,⟨false,.int .i64 n⟩),(8,⟨false,.int .i64 i⟩)],locs:=[],boxes:=[],defers:=[]}
theorem ap_step (c:UInt8) (n i:Nat) (hi:i < n) (hn:n < 6) (hI:∀ (x:Nat),x < 6→C n_36 [.int .i64 (x:Int)] σ=some (.ret ⟨false,.str [UInt8.ofNat (48 + x)]⟩,σ)) (hV:∀ s,C n_56 [.str s] σ=some (.ret ⟨false,dT (.var s)⟩,σ)):exec C N none a_92 (Eap c n i) σ=some (.normal,Eap c n (i + 1),σ):=by
 have hlt:((i:Int) < (n:Int)):=by omega
 have w1:=wrap64_succ (i:=i) (by omega)
 have h1:=hI i (by omega)
 have hl1:i < (apN c n).length:=by rw [apN_len]; exact hi
 have hl2:i < (apT c n).length:=by rw [apT_len]; exact hi
 have g1:(apN c n)[i]=[c,UInt8.ofNat (48 + i)]:=by simp [apN]
 have g2:(apT c n)[i]=.var [c,UInt8.ofNat (48 + i)]:=by simp [apT,apN]
 have h2:=hV [c,UInt8.ofNat (48 + i)]
 have ha1:=append_S ((apN c n).take i) (apN c n)[i] (ow i) ow_ne (by simp; omega)
 have ha2:=append_T ((apT c n).take i) (apT c n)[i] (ow i) ow_ne (by simp; omega)
 rw [take_snoc _ _ hl1,g1] at ha1
 rw [take_snoc _ _ hl2,g2] at ha2
 have hx:indexD 1 (dSs ((apN c n).take (i + 1))) i=some (.eptr (.str [c,UInt8.ofNat (48 + i)])):=by
  have h3:i < ((apN c n).take (i + 1)).length:=by rw [List.length_take,apN_len]; omega
  have h4:=idx_S ((apN c n).take (i + 1)) i h3
  have h5:((apN c n).take (i + 1))[i]=[c,UInt8.ofNat (48 + i)]:=by rw [List.getElem_take]; exact g1
  rw [h5] at h4
  exact h4
 generalize hA:(apN c n).take (i + 1)=A at *
 generalize hB:(apT c n).take (i + 1)=B at *
 have e1:dSs A=dlist k_0 (A.map D.str):=rfl
 have e2:dTs B=dlist k_1 (B.map dT):=rfl
 have e3:dSs ((apN c n).take i)=dlist k_0 (((apN c n).take i).map D.str):=rfl
 have e4:dTs ((apT c n).take i)=dlist k_1 (((apT c n).take i).map dT):=rfl
 rw [← e1,← e3] at ha1
 rw [← e2,← e4] at ha2
 simp only [dT] at h2 ha2
 simp only [a_92,Eap,hA,hB,sA,seval,kn,zeroI,lit1,lit2,lit3,lit4,lit5,lit6,lit7,lit8,natI,hlt,h1,h2,hx,ha1,ha2,w1,ow_succ]
theorem ap_end (c:UInt8) (n:Nat):exec C N none a_92 (Eap c n n) σ=some (.exit 0,{slots:=[(0,⟨false,.str [c]⟩),(4,⟨ow n,dSs (apN c n)⟩),(5,⟨ow n,dTs (apT c n)⟩),(7,⟨false,.int .i64 n⟩),(8,⟨false,.int .i64 n⟩),(9,⟨false,.bool false⟩)],locs:=[],boxes:=[],defers:=[]},σ):=by
 have hlt:¬ ((n:Int) < (n:Int)):=by omega
 have e1:(apN c n).take n=apN c n:=List.take_of_length_le (by rw [apN_len]; omega)
 have e2:(apT c n).take n=apT c n:=List.take_of_length_le (by rw [apT_len]; omega)
 simp only [a_92,Eap,sA,seval,kn,zeroI,lit1,lit2,lit3,lit4,lit5,lit6,lit7,lit8,hlt,e1,e2]
end
theorem var_run:Evly fun n=>∀ (s:List UInt8) σ,T n n_56 [.str s] σ=some (.ret ⟨false,dT (.var s)⟩,σ):=any _ fun n s σ=>by
 rw [T_fun (af:=a_175) rfl rfl]
 simp only [a_175,sA,seval,kn,dT]
theorem apart_run:Evly fun n=>∀ (c:UInt8) (k:Nat) σ,k < 6→T n n_202 [.str [c],.int .i64 k] σ=some (.ret ⟨false,.tup [dSs (apN c k),dTs (apT c k)]⟩,σ):=(itoa_run.and var_run).step 10 fun m hm h c k σ hk=>by
 have l0:=loopN_run (body:=exec (T m) m none a_92) (Eap c k) (fun _=>σ) k (r:=_) (fun _ _ h=>by cases h) (fun j hj=>ap_step c k j hj hk (fun x hx=>h.1 x σ hx) (fun s=>h.2 s σ)) (ap_end c k) 0 m (by omega) (by omega)
 have z1:dSs []=.nils:=rfl
 have z2:dTs []=.nils:=rfl
 have o1:=one_dSs (apN c k)
 have o2:(dTs (apT c k)).one=true:=one_dlist
 simp only [Eap,List.take_zero,z1,z2,ow_zero,zeroI] at l0
 rw [T_fun (af:=a_165) rfl rfl]
 simp only [a_165,sA,seval,kn,zeroI,lit1,lit2,lit3,lit4,lit5,lit6,lit7,lit8,l0,o1,o2]
end Go.Fu
namespace Go.Fu
open Go Go.Mx
set_option maxRecDepth 10000
set_option maxHeartbeats 4000000
theorem frz_dl {n:Nat} {k:RowK} {os:Objs} (l:List D):freezeD (n + 1) (dlist k l) os=some (dlist k l,os):=by
 cases l <;> rfl
theorem frz_dT {n:Nat} (t:Tp) (os:Objs):freezeD (n + 2) (dT t) os=some (dT t,os):=by
 have h3:=frz_dl (n:=n) (k:=k_1) (os:=os) (t.args.map dT)
 have e1:∀ x,freezeD (n + 1) (.int .i64 x) os=some (.int .i64 x,os):=fun _=>rfl
 have e2:∀ x,freezeD (n + 1) (.str x) os=some (.str x,os):=fun _=>rfl
 have e:∀ ds,freezeD (n + 2) (.agg ds) os=bindO (freezeL (freezeD (n + 1)) ds os) fun r=>some (.agg r.1,r.2):=fun _=>rfl
 rw [dT_eq]
 simp only [cT,e,freezeL,h3,e1,e2,bindO,caseO_some]
def fillM (us:List Tp):List (Option Tp)→List Tp
 | []=>[]
 | o :: r=>(o.getD (us.headD (.hole 0))) :: fillM us.tail r
theorem fill_len:∀ (us:List Tp) (l:List (Option Tp)),(fillM us l).length=l.length
 | _,[]=>rfl
 | us,o :: r=>by simp [fillM,fill_len us.tail r]
def fillO (us:List Tp) (l:List (Option Tp)) (i:Nat):List (Option Tp):=((fillM us l).take i).map some ++ l.drop i
theorem fillM_get:∀ (us:List Tp) (l:List (Option Tp)) (i:Nat) (h:i < l.length) (h2:i < us.length),(fillM us l)[i]'(by rw [fill_len]; exact h)=l[i].getD us[i]
 | a :: us,o :: l,0,_,_=>rfl
 | a :: us,o :: l,i + 1,h,h2=>by
  simp only [fillM,List.tail_cons,List.getElem_cons_succ]
  exact fillM_get us l i (by simpa using h) (by simpa using h2)
 | [],_,_,_,h2=>absurd h2 (by simp)
 | _ :: _,[],_,h,_=>absurd h (by simp)
theorem fillO_len (us:List Tp) (l:List (Option Tp)) (i:Nat) (h:i≤l.length):(fillO us l i).length=l.length:=by
 simp only [fillO,List.length_append,List.length_map,List.length_take,List.length_drop,fill_len]
 omega
theorem fillO_zero (us:List Tp) (l:List (Option Tp)):fillO us l 0=l:=by simp [fillO]
theorem fillO_all (us:List Tp) (l:List (Option Tp)):fillO us l l.length=(fillM us l).map some:=by
 simp only [fillO,List.drop_length,List.append_nil]
 rw [List.take_of_length_le (by rw [fill_len]; omega)]
theorem fillO_get (us:List Tp) (l:List (Option Tp)) (i:Nat) (h:i < l.length):(fillO us l i)[i]'(by rw [fillO_len _ _ _ (by omega)]; exact h)=l[i]:=by
 have h1:(((fillM us l).take i).map some).length=i:=by rw [List.length_map,List.length_take,fill_len]; omega
 simp only [fillO]
 rw [List.getElem_append_right (by omega)]
 simp only [h1,Nat.sub_self,List.getElem_drop,Nat.add_zero]
theorem fillO_succ (us:List Tp) (l:List (Option Tp)) (i:Nat) (h:i < l.length) (ha:l.length=us.length):(l[i]=none→fillO us l (i + 1)=(fillO us l i).set i (some (us[i]'(by omega))))∧(l[i]≠none→fillO us l (i + 1)=fillO us l i):=by
 have h1:(((fillM us l).take i).map some).length=i:=by rw [List.length_map,List.length_take,fill_len]; omega
 have hf:i < (fillM us l).length:=by rw [fill_len]; exact h
 have hg:=fillM_get us l i h (by omega)
 have ht:(fillM us l).take (i + 1)=(fillM us l).take i ++ [(fillM us l)[i]]:=(take_snoc _ _ hf).symm
 have hd:l.drop i=l[i] :: l.drop (i + 1):=List.drop_eq_getElem_cons h
 constructor
 ·intro e
  rw [e] at hg hd
  simp only [fillO,ht,List.map_append,List.map_cons,List.map_nil,hg,hd,Option.getD_none,List.append_assoc,List.singleton_append]
  rw [List.set_append_right _ _ (by omega),h1,Nat.sub_self]
  rfl
 ·intro e
  have e2:some (fillM us l)[i]=l[i]:=by
   rw [hg]
   cases hl:l[i] with
   | none=>exact absurd hl e
   | some x=>rfl
  simp only [fillO,ht,List.map_append,List.map_cons,List.map_nil,List.append_assoc,List.singleton_append,e2]
  rw [← hd]
section
variable {C:CallF} {N:Nat}
def Egl (a c id:Nat) (n8:List Tp) (n7:List Tx) (d11:D) (t:Tp) (n i:Nat):Env:={slots:=[(3,⟨false,.ptr a 0⟩),(7,⟨false,dSs n7⟩),(8,⟨false,dTs n8⟩),(11,⟨false,d11⟩),(13,⟨false,.ptr c 0⟩),(15,⟨false,.arr k_1 id 0 n⟩),(58,⟨false,.arr k_1 id 0 n⟩),(59,⟨false,.int .i64 n⟩),(60,⟨false,.int .i64 i⟩)],locs:=[(12,12,0)],boxes:=[(12,bT t)],defers:=[]}
theorem gl_step (a c id:Nat) (n8:List Tp) (n7:List Tx) (d11:D) (t:Tp) (l:List (Option Tp)) (hl:l.length=n8.length) (hn:l.length < 1000) (i:Nat) (h:i < l.length) (σ:Store) (ho:aget σ.objs id=some (oC (fillO n8 l i))) :
  ∃ σ',exec C N none a_62 (Egl a c id n8 n7 d11 t l.length i) σ=some (.normal,Egl a c id n8 n7 d11 t l.length (i + 1),σ')∧MF id (fillO n8 l (i + 1)) σ σ':=by
 have hlt:((i:Int) < (l.length:Int)):=by omega
 have w1:=wrap64_succ (i:=i) (by omega)
 have hfl:=fillO_len n8 l i (by omega)
 have hi2:i < (fillO n8 l i).length:=by omega
 have hix:=idxO id l.length i h
 have hg:=fillO_get n8 l i h
 have hn0:=oC_nth (fillO n8 l i) i hi2
 have ht0:=oC_take (fillO n8 l i) i hi2
 have hs:=fillO_succ n8 l i h hl
 rw [hg] at hn0 ht0
 have hz:id + 0=id:=rfl
 cases hli:l[i] with
 | none =>
  have hx:=idx_T n8 i (by omega)
  have hpu:=oC_put (fillO n8 l i) i hi2 (n8[i]'(by omega))
  have hlen:i * 4 + 4≤(oC (fillO n8 l i)).length:=by rw [oC_len]; omega
  have e:=hs.1 hli
  rw [hli] at hn0 ht0
  refine ⟨{σ with objs:=aset σ.objs id (oC (fillO n8 l (i + 1)))},?_,⟨agA _ _ _,fun j hj=>agB _ _ (Ne.symm hj),rfl,rfl,rfl⟩⟩
  rw [e]
  generalize oC ((fillO n8 l i).set i (some (n8[i]'(by omega))))=cs' at *
  generalize oC (fillO n8 l i)=cs at *
  generalize n8[i]'(by omega)=u at *
  have hE:dTs n8=dlist k_1 (n8.map dT):=rfl
  rw [dT_eq u] at hx
  simp only [cO,oF,cT,List.map_cons,List.map_nil,Cell.of] at hn0 ht0 hx hpu
  simp only [a_62,Egl,hE,sA,seval,kn,zeroI,lit1,lit2,lit3,lit4,lit5,lit6,lit7,lit8,natI,hlt,hix,ho,hn0,ht0,hx,hpu,hlen,w1]
 | some x =>
  have e:=hs.2 (by rw [hli]; exact fun h=>by cases h)
  rw [hli] at hn0 ht0
  rw [e]
  refine ⟨σ,?_,MF.refl ho⟩
  have hf:(x.form == 0)=false:=by cases x <;> rfl
  generalize oC (fillO n8 l i)=cs at *
  simp only [cO,oF,cT] at hn0 ht0
  simp only [a_62,Egl,sA,seval,kn,zeroI,lit1,lit2,lit3,lit4,lit5,lit6,lit7,lit8,natI,hlt,hix,ho,hn0,ht0,hf,w1]
theorem gl_end (a c id:Nat) (n8:List Tp) (n7:List Tx) (d11:D) (t:Tp) (n:Nat) (σ:Store):exec C N none a_62 (Egl a c id n8 n7 d11 t n n) σ=some (.exit 0,{slots:=[(3,⟨false,.ptr a 0⟩),(7,⟨false,dSs n7⟩),(8,⟨false,dTs n8⟩),(11,⟨false,d11⟩),(13,⟨false,.ptr c 0⟩),(15,⟨false,.arr k_1 id 0 n⟩),(58,⟨false,.arr k_1 id 0 n⟩),(59,⟨false,.int .i64 n⟩),(60,⟨false,.int .i64 n⟩),(61,⟨false,.bool false⟩)],locs:=[(12,12,0)],boxes:=[(12,bT t)],defers:=[]},σ):=by
 have hlt:¬ ((n:Int) < (n:Int)):=by omega
 simp only [a_62,Egl,sA,seval,kn,zeroI,lit1,lit2,lit3,lit4,lit5,lit6,lit7,lit8,hlt]
theorem gl_loop (a c id:Nat) (n8:List Tp) (n7:List Tx) (d11:D) (t:Tp) (l:List (Option Tp)) (hl:l.length=n8.length) (hn:l.length < 1000):∀ (r f i:Nat) (σ:Store),i + r=l.length→r < f→aget σ.objs id=some (oC (fillO n8 l i))→∃ σ',loopN (exec C N none a_62) f (Egl a c id n8 n7 d11 t l.length i) σ=some (.exit 0,{slots:=[(3,⟨false,.ptr a 0⟩),(7,⟨false,dSs n7⟩),(8,⟨false,dTs n8⟩),(11,⟨false,d11⟩),(13,⟨false,.ptr c 0⟩),(15,⟨false,.arr k_1 id 0 l.length⟩),(58,⟨false,.arr k_1 id 0 l.length⟩),(59,⟨false,.int .i64 l.length⟩),(60,⟨false,.int .i64 l.length⟩),(61,⟨false,.bool false⟩)],locs:=[(12,12,0)],boxes:=[(12,bT t)],defers:=[]},σ')∧MF id ((fillM n8 l).map some) σ σ'
 | _,0,_,_,_,hf,_=>absurd hf (by omega)
 | 0,f + 1,i,σ,hi,_,ho=>by
  have:i=l.length:=by omega
  subst this
  rw [fillO_all] at ho
  exact ⟨σ,loopN_stop (gl_end a c id n8 n7 d11 t l.length σ),MF.refl ho⟩
 | r + 1,f + 1,i,σ,hi,hf,ho=>by
  obtain ⟨σ1,h1,m1⟩:=gl_step (C:=C) (N:=N) a c id n8 n7 d11 t l hl hn i (by omega) σ ho
  obtain ⟨σ2,h2,m2⟩:=gl_loop a c id n8 n7 d11 t l hl hn r f (i + 1) σ1 (by omega) (by omega) m1.obj
  exact ⟨σ2,loopN_next h1 h2,m1.trans m2⟩
end
end Go.Fu
namespace Go.Fu
open Go Go.Mx
set_option maxRecDepth 10000
set_option maxHeartbeats 4000000
theorem Bel.g {m:Nat} {a b:Store} (h:Bel m a b) (hn:a.next≤m):G m a b:=⟨Nat.le_trans hn h.le,fun j hj _=>h.objs j hj,h.tys,h.oth⟩
def dSc (vs:List Tx) (kd:D) (ps:List Pr) (t:Tp):D:=.agg (dSs vs :: kd :: dPs ps :: cT t)
def apV (c:UInt8) (vs:List Tx) (t:Tp):Tp:=subT vs (apT c vs.length) t
def apP (c:UInt8) (vs:List Tx) (ps:List Pr):List Pr:=ps.map (putP vs (apT c vs.length))
def genM (vs ws:List Tx) (t u:Tp):Bool × List (Option Tp):=matchM (apN 64 vs.length) (apV 64 vs t) (apV 37 ws u) (List.replicate vs.length none)
def genP (vs ws:List Tx) (ps:List Pr) (t u:Tp):List Pr:=(apP 64 vs ps).map (putP (apN 64 vs.length) (fillM (apT 64 vs.length) (genM vs ws t u).2))
def fnG1 (a c:Nat):D:=.fn (.func n_138) [] [.ptr a 0,.ptr c 0]
theorem General_run {R:Nat→Store→Prop} {Pb:Bool→Prop} (vs ws:List Tx) (kd kd':D) (hk:kd.one=true) (hk':kd'.one=true) (ps qs:List Pr) (t u:Tp) (hv:vs.length < 6) (hw:ws.length < 6) (hps:ps.length < 1000) (hqs:qs.length < 1000)
  (hC:Evly fun n=>∀ p σ0,R p σ0→∀ a c σ,a < σ.next→c < σ.next→aget σ.objs a=some [⟨false,.ptr p 0⟩]→aget σ.objs c=some [⟨false,dPs (apP 37 ws qs)⟩]→G σ0.next σ0 σ→∃ b σ',Pb b∧T n n_204 [dPs (genP vs ws ps t u),fnG1 a c] σ=some (.ret ⟨false,.bool b⟩,σ')∧G σ.next σ σ') :
  Evly fun n=>∀ p σ,R p σ→∃ σ',G σ.next σ σ'∧(((genM vs ws t u).1=false∧T n n_137 [.ptr p 0,dSc vs kd ps t,dSc ws kd' qs u] σ=some (.ret ⟨false,.bool false⟩,σ'))∨((genM vs ws t u).1=true∧∃ b,Pb b∧T n n_137 [.ptr p 0,dSc vs kd ps t,dSc ws kd' qs u] σ=some (.ret ⟨false,.bool !b⟩,σ'))):=by
 have hlen:(genM vs ws t u).2.length=vs.length:=by unfold genM; rw [matchM_len]; simp
 have hfl:(fillM (apT 64 vs.length) (genM vs ws t u).2).length=(apN 64 vs.length).length:=by rw [fill_len,hlen,apN_len]
 have hput1:=put_run (dSs vs) kd ps t vs (apT 64 vs.length) (by omega) (by omega) (apT_len _ _)
 have hput2:=put_run (dSs ws) kd' qs u ws (apT 37 ws.length) (by omega) (by omega) (apT_len _ _)
 have hput3:=putG .nils .nils (apP 64 vs ps) (apV 64 vs t) (apN 64 vs.length) (fillM (apT 64 vs.length) (genM vs ws t u).2) (by simp [apP]; omega) (by rw [apN_len]; omega) hfl _ (bys_list _)
 have hmatch:=Match_run (apN 64 vs.length) (by rw [apN_len]; omega) (apV 64 vs t) (apV 37 ws u)
 refine ((((apart_run.and hput1).and (hput2.and hput3)).and hmatch).and hC).step 100 fun m hm h p σ hR=>?_
 obtain ⟨⟨⟨⟨g1,g2⟩,g3,g4⟩,g5⟩,g6⟩:=h
 have oP:∀ l:List Pr,(dPs l).one=true:=one_dPs
 have oK:∀ l:List Pr,(dPs l).ok=true:=fun _=>ok_dlist
 have oL:∀ l:List Pr,(dPs l).cells=[dPs l]:=fun _=>cells_dlist
 have oT:∀ l:List Tp,(dTs l).one=true:=fun _=>one_dlist
 have oS:∀ l:List Tx,(dSs l).one=true:=one_dSs
 generalize hs1:({objs:=(σ.next,[⟨false,.ptr p 0⟩]) :: σ.objs,tys:=(σ.next,⟨t_109,0⟩) :: σ.tys,oth:=σ.oth,next:=σ.next + 1}:Store)=σ1
 have n1:σ1.next=σ.next + 1:=by rw [← hs1]
 generalize hs2:({objs:=(σ1.next,[⟨false,dPs (apP 37 ws qs)⟩]) :: σ1.objs,tys:=(σ1.next,⟨t_268,0⟩) :: σ1.tys,oth:=σ1.oth,next:=σ1.next + 1}:Store)=σ2
 have n2:σ2.next=σ.next + 2:=by rw [← hs2]; show σ1.next + 1=_; omega
 have oa:aget σ2.objs σ.next=some [⟨false,.ptr p 0⟩]:=by
  rw [← hs2]
  refine (agC _ _ (by omega)).trans ?_
  rw [← hs1]
  exact agS _ _ _
 have oc:aget σ2.objs (σ.next + 1)=some [⟨false,dPs (apP 37 ws qs)⟩]:=by
  rw [← hs2,← n1]
  exact agS _ _ _
 have hG2:G σ.next σ σ2:=by
  refine ⟨by omega,fun j hj _=>?_,fun j hj=>?_,fun j hj=>?_⟩
  ·rw [← hs2]
   refine (agC _ _ (by omega)).trans ?_
   rw [← hs1]
   exact agC _ _ (by omega)
  ·rw [← hs2]
   refine (agC _ _ (by omega)).trans ?_
   rw [← hs1]
   exact agC _ _ (by omega)
  ·rw [← hs2]
   show aget σ1.oth j=_
   rw [← hs1]
 have a1:=g1 64 vs.length σ1 hv
 have a2:=g1 37 ws.length σ1 hw
 have p1:=g2 σ1
 have p2:=g3 σ1
 obtain ⟨σ3,hb3,hmt⟩:=g5 σ2
 have hlv:lenOf (dSs vs)=some vs.length:=by simp only [dSs,lenOf_dlist,List.length_map]
 have hlw:lenOf (dSs ws)=some ws.length:=by simp only [dSs,lenOf_dlist,List.length_map]
 have e1:subT vs (apT 64 vs.length) t=apV 64 vs t:=rfl
 have e2:subT ws (apT 37 ws.length) u=apV 37 ws u:=rfl
 have e3:ps.map (putP vs (apT 64 vs.length))=apP 64 vs ps:=rfl
 have e4:qs.map (putP ws (apT 37 ws.length))=apP 37 ws qs:=rfl
 have hrep:(apN 64 vs.length).length=vs.length:=apN_len _ _
 rw [hrep] at hmt
 change ((genM vs ws t u).1=false∧_)∨((genM vs ws t u).1=true∧_∧aget σ3.objs σ2.next=some (oC (genM vs ws t u).2)) at hmt
 rw [e1,e3] at p1
 rw [e2,e4] at p2
 rcases hmt with ⟨m1,m2⟩ | ⟨m1,m2,m3⟩
 ·refine ⟨σ3,hG2.trans ((hb3.g (Nat.le_refl _)).less (by omega)),.inl ⟨m1,?_⟩⟩
  generalize apP 64 vs ps=P1 at *
  generalize apP 37 ws qs=Q1 at *
  generalize hT1:apV 64 vs t=t1 at *
  generalize hU1:apV 37 ws u=u1 at *
  rw [dT_eq t1] at p1 m2
  rw [dT_eq u1] at p2 m2
  simp only [cT] at p1 p2 m2
  simp only [dSc,cT]
  rw [T_fun (af:=a_91) rfl rfl]
  simp only [a_91,sA,seval,kn,zeroI,lit1,lit2,lit3,lit4,lit5,lit6,lit7,lit8,memE,memOp,hs1,hs2,hk,hk',oP,oK,oL,oT,oS,hlv,hlw,a1,a2,p1,p2,m2]
 ·have hn8:(genM vs ws t u).2.length=(apT 64 vs.length).length:=by rw [hlen,apT_len]
  obtain ⟨σ4,l4,f4⟩:=gl_loop (C:=T m) (N:=m) σ.next σ1.next σ2.next (apT 64 vs.length) (apN 64 vs.length) (dPs (apP 64 vs ps)) (apV 64 vs t) (genM vs ws t u).2 hn8 (by omega) (genM vs ws t u).2.length m 0 σ3 (by omega) (by omega) (by rw [fillO_zero]; exact m3)
  have o4:=f4.obj
  have hoc:oC ((fillM (apT 64 vs.length) (genM vs ws t u).2).map some)=cellsOf ((fillM (apT 64 vs.length) (genM vs ws t u).2).map dT):=by
   unfold oC
   rw [List.map_map]
   congr 1
   refine List.map_congr_left fun x _=>?_
   show dO (some x)=dT x
   rw [dT_eq]
   rfl
  rw [hoc] at o4
  have hfz:=freezeD_row (k:=k_1) (id:=σ2.next) (n:=39) (ds:=(fillM (apT 64 vs.length) (genM vs ws t u).2).map dT) (os:=σ4.objs) (os':=adel1 σ4.objs σ2.next) o4 rfl rfl (fun d hd=>by
   obtain ⟨x,_,rfl⟩:=List.mem_map.1 hd
   exact ⟨cells_dT x,by rw [dT_eq]; rfl⟩) (fun d hd=>by
   obtain ⟨x,_,rfl⟩:=List.mem_map.1 hd
   exact frz_dT x _)
  rw [List.length_map,fill_len,hlen] at hfz
  generalize hs5:({objs:=adel1 σ4.objs σ2.next,tys:=σ4.tys,oth:=σ4.oth,next:=σ4.next}:Store)=σ5
  have b5:Bel σ2.next σ2 σ5:=by
   refine hb3.trans ⟨?_,fun j hj=>?_,fun j hj=>?_,fun j hj=>?_⟩
   ·rw [← hs5]
    show σ2.next≤σ4.next
    rw [f4.next]
    exact hb3.le
   ·rw [← hs5]
    show aget (adel1 σ4.objs σ2.next) j=_
    rw [adel_other _ (by omega),f4.objs j (by omega)]
   ·rw [← hs5]
    show aget σ4.tys j=_
    rw [f4.tys]
   ·rw [← hs5]
    show aget σ4.oth j=_
    rw [f4.oth]
  have p3:=g4 σ5
  obtain ⟨b,σ6,hb,c6,k6⟩:=g6 p σ hR σ.next σ1.next σ5 (by have:=b5.le; omega) (by have:=b5.le; omega) ((b5.objs _ (by omega)).trans oa) ((b5.objs _ (by omega)).trans (by rw [n1]; exact oc)) (hG2.trans ((b5.g (Nat.le_refl _)).less (by omega)))
  refine ⟨σ6,(hG2.trans ((b5.g (Nat.le_refl _)).less (by omega))).trans (k6.less (by have:=b5.le; omega)),.inr ⟨m1,b,hb,?_⟩⟩
  have hkp:∀ id n,Cell.keeps ⟨false,.arr k_1 id 0 n⟩=false:=fun _ _=>rfl
  change T m n_29 [.agg (.nils :: .nils :: dPs (apP 64 vs ps) :: cT (apV 64 vs t)),dSs (apN 64 vs.length),.list k_1 ((fillM (apT 64 vs.length) (genM vs ws t u).2).map dT)] σ5=some (.ret ⟨false,.tup [dPs (genP vs ws ps t u),dT (subT (apN 64 vs.length) (fillM (apT 64 vs.length) (genM vs ws t u).2) (apV 64 vs t))]⟩,σ5) at p3
  simp only [hlen] at l4
  generalize (fillM (apT 64 vs.length) (genM vs ws t u).2).map dT=D1 at *
  generalize subT (apN 64 vs.length) (fillM (apT 64 vs.length) (genM vs ws t u).2) (apV 64 vs t)=t3 at *
  generalize genP vs ws ps t u=P3 at *
  generalize apP 64 vs ps=P1 at *
  generalize apP 37 ws qs=Q1 at *
  generalize apV 64 vs t=t1 at *
  generalize apV 37 ws u=u1 at *
  rw [dT_eq t1] at p1 m2
  rw [dT_eq u1] at p2 m2
  rw [dT_eq t3] at p3
  simp only [Egl,bT,zeroI] at l4
  simp only [cT] at p1 p2 m2 p3
  simp only [fnG1] at c6
  simp only [dSc,cT]
  rw [T_fun (af:=a_91) rfl rfl]
  simp only [a_91,sA,seval,kn,zeroI,lit1,lit2,lit3,lit4,lit5,lit6,lit7,lit8,memE,memOp,hs1,hs2,hk,hk',oP,oK,oL,oT,oS,hlv,hlw,a1,a2,p1,p2,m2,l4,exec_frz,freezes,freeze1,hfz,hkp,hs5,p3,c6]
end Go.Fu
namespace Go.Fu
open Go Go.Mx
set_option maxRecDepth 10000
section
variable {C:CallF} {n:Nat} {σ:Store}
def xRn (vs:List (List UInt8)) (kd:D) (ps:List Pr) (t:Tp):List Cell:=⟨false,dSs vs⟩ :: ⟨false,kd⟩ :: ⟨false,dPs ps⟩ :: bT t
end
end Go.Fu

/-
 One instruction,as the program's keeps takes it: may it stand there (FgCje).
-/
import Derived.Test.YtldfbnbckiifeaaGreatDoorFgCj
set_option maxHeartbeats 4000000
set_option linter.unusedSimpArgs false
set_option linter.unusedVariables false
set_option linter.unusedSectionVars false
namespace Go.Fu
open Go Go.Mx
set_option maxRecDepth 10000
set_option maxHeartbeats 8000000
theorem gB4_P {S:Specs} {N n:Nat} (h1:has S n_9=false) (fs:List Fd) (ns:List Tx) (b:List In) (k p m:Nat) (e1 e2 d:Int) (is cn co ct s:Bool) (i:In) (σ:Store) (ds:List Int) (hp3:3≤p) (hp:aget σ.objs p=some (inC i)) (h:KS σ m ds) (hm:b.length < m)
  (hG:∀ σ,T S (N + 1) n_20 [dI i] σ=some (.ret ⟨false,.bool (goesI i.op)⟩,σ)) (hC:∀ σ,T S (N + 1) n_16 [dSs ns,.str i.name] σ=some (.ret ⟨false,.bool ct⟩,σ))
  (ho:i.op=[80,65,67,75]) (hs:s=(co && rngM i.n)) (hi:is=true) (hn:cn=true):GB4 S N n fs ns b k p m e1 e2 d is cn co s i σ ds:=by
 have htl:=fun (q:Nat) (hq:q < m)=>zd2 (S:=S) h1 N σ m q d ds h hq
 have hfn:D.fn? tellF=some (n_9,[],[.ptr 2 0]):=rfl
 obtain ⟨op,x,y,nm⟩:=i
 simp only [dI,inC] at hp hG hC
 simp only at *
 unfold GB4
 simp only [inC]
 unfold kst1
 have eG:(op == [80,85,83,72,71])=false:=by rw [ho]; rfl
 have eP:(op == [80,65,67,75])=true:=by rw [ho]; rfl
 have eT:(op == [84,69,83,84])=false:=by rw [ho]; rfl
 have eI:(op == [84,69,83,84,73])=false:=by rw [ho]; rfl
 have eJ:(op == [74,85,77,80])=false:=by rw [ho]; rfl
 have eU:(op == [85,78,87,73,78,68])=false:=by rw [ho]; rfl
 have hgo:goesI op=false:=by simp only [goesI,eT,eI,eJ,Bool.true_or,Bool.or_true,Bool.or_false,Bool.false_or]
 subst hi hn
 by_cases g2:d < 0
 ·exact Or.inl ⟨by simp only [zac,zab,Bool.not_true,Bool.not_false,Bool.or_false,Bool.false_or,Bool.true_or,Bool.or_true,Bool.and_true,Bool.true_and,Bool.false_and,Bool.and_false,decide_true,decide_false,Int.toNat_natCast,g2],σ,by simp only [seqL,seqR,blkB,gB,gB1,gB2,gB3,gB4,gB5,a_2,Egc,Egd,Ef6,sA,seval,kn,natI,hp,hC,hG,eG,eP,eT,eI,eJ,eU,hgo,g2]⟩
 by_cases r1:x < 0
 ·have z:rngM x=false:=by
   have:¬ 0≤x:=by omega
   simp only [rngM,this,decide_false,Bool.false_and]
  exact Or.inl ⟨by simp only [zac,zab,Bool.not_true,Bool.not_false,Bool.or_false,Bool.false_or,Bool.true_or,Bool.or_true,Bool.and_true,Bool.true_and,Bool.false_and,Bool.and_false,decide_true,decide_false,Int.toNat_natCast,hs,z],σ,by simp only [seqL,seqR,blkB,gB,gB1,gB2,gB3,gB4,gB5,a_2,Egc,Egd,Ef6,sA,seval,kn,natI,hp,hC,hG,eG,eP,eT,eI,eJ,eU,hgo,g2,r1]⟩
 by_cases r2:6000 < x
 ·have z:rngM x=false:=by
   have:¬ x≤6000:=by omega
   simp only [rngM,this,decide_false,Bool.and_false]
  exact Or.inl ⟨by simp only [zac,zab,Bool.not_true,Bool.not_false,Bool.or_false,Bool.false_or,Bool.true_or,Bool.or_true,Bool.and_true,Bool.true_and,Bool.false_and,Bool.and_false,decide_true,decide_false,Int.toNat_natCast,hs,z],σ,by simp only [seqL,seqR,blkB,gB,gB1,gB2,gB3,gB4,gB5,a_2,Egc,Egd,Ef6,sA,seval,kn,natI,hp,hC,hG,eG,eP,eT,eI,eJ,eU,hgo,g2,r1,r2]⟩
 have z:rngM x=true:=by
  have z1:0≤x:=by omega
  have z2:x≤6000:=by omega
  simp only [rngM,z1,z2,decide_true,Bool.and_self]
 by_cases g3:d < e1
 ·exact Or.inl ⟨by simp only [zac,zab,Bool.not_true,Bool.not_false,Bool.or_false,Bool.false_or,Bool.true_or,Bool.or_true,Bool.and_true,Bool.true_and,Bool.false_and,Bool.and_false,decide_true,decide_false,Int.toNat_natCast,g2,g3],σ,by simp only [seqL,seqR,blkB,gB,gB1,gB2,gB3,gB4,gB5,a_2,Egc,Egd,Ef6,sA,seval,kn,natI,hp,hC,hG,eG,eP,eT,eI,eJ,eU,hgo,g2,r1,r2,g3]⟩
 cases co with
 | false=>exact Or.inl ⟨by simp only [zac,zab,Bool.not_true,Bool.not_false,Bool.or_false,Bool.false_or,Bool.true_or,Bool.or_true,Bool.and_true,Bool.true_and,Bool.false_and,Bool.and_false,decide_true,decide_false,Int.toNat_natCast,hs],σ,by simp only [seqL,seqR,blkB,gB,gB1,gB2,gB3,gB4,gB5,a_2,Egc,Egd,Ef6,sA,seval,kn,natI,hp,hC,hG,eG,eP,eT,eI,eJ,eU,hgo,g2,r1,r2,g3]⟩
 | true=>exact Or.inr ⟨ds,σ,by simp only [zac,zab,Bool.not_true,Bool.not_false,Bool.or_false,Bool.false_or,Bool.true_or,Bool.or_true,Bool.and_true,Bool.true_and,Bool.false_and,Bool.and_false,decide_true,decide_false,Int.toNat_natCast,hs,z,g2,g3,eU,hgo],by simp only [seqL,seqR,blkB,gB,gB1,gB2,gB3,gB4,gB5,a_2,Egc,Egd,Ef6,sA,seval,kn,natI,hp,hC,hG,eG,eP,eT,eI,eJ,eU,hgo,g2,r1,r2,g3],h,hp,rfl⟩
theorem gB4_C {S:Specs} {N n:Nat} (h1:has S n_9=false) (fs:List Fd) (ns:List Tx) (b:List In) (k p m:Nat) (e1 e2 d:Int) (is cn co ct s:Bool) (i:In) (σ:Store) (ds:List Int) (hp3:3≤p) (hp:aget σ.objs p=some (inC i)) (h:KS σ m ds) (hm:b.length < m)
  (hG:∀ σ,T S (N + 1) n_20 [dI i] σ=some (.ret ⟨false,.bool (goesI i.op)⟩,σ)) (hC:∀ σ,T S (N + 1) n_16 [dSs ns,.str i.name] σ=some (.ret ⟨false,.bool ct⟩,σ))
  (eG:(i.op == [80,85,83,72,71])=false) (eP:(i.op == [80,65,67,75])=false) (eT:(i.op == [84,69,83,84])=false) (eI:(i.op == [84,69,83,84,73])=false) (eJ:(i.op == [74,85,77,80])=false) (eU:(i.op == [85,78,87,73,78,68])=false) (hs:s=ifB cn (rngM i.n) is) (hi:is=true) (hn:cn=true):GB4 S N n fs ns b k p m e1 e2 d is cn co s i σ ds:=by
 have htl:=fun (q:Nat) (hq:q < m)=>zd2 (S:=S) h1 N σ m q d ds h hq
 have hfn:D.fn? tellF=some (n_9,[],[.ptr 2 0]):=rfl
 obtain ⟨op,x,y,nm⟩:=i
 simp only [dI,inC] at hp hG hC
 simp only at *
 unfold GB4
 simp only [inC]
 unfold kst1
 have hgo:goesI op=false:=by simp only [goesI,eT,eI,eJ,Bool.or_false]
 subst hi hn
 by_cases g2:d < 0
 ·exact Or.inl ⟨by simp only [zac,zab,Bool.not_true,Bool.not_false,Bool.or_false,Bool.false_or,Bool.true_or,Bool.or_true,Bool.and_true,Bool.true_and,Bool.false_and,Bool.and_false,decide_true,decide_false,Int.toNat_natCast,g2],σ,by simp only [seqL,seqR,blkB,gB,gB1,gB2,gB3,gB4,gB5,a_2,Egc,Egd,Ef6,sA,seval,kn,natI,hp,hC,hG,eG,eP,eT,eI,eJ,eU,hgo,g2]⟩
 by_cases r1:x < 0
 ·have z:rngM x=false:=by
   have:¬ 0≤x:=by omega
   simp only [rngM,this,decide_false,Bool.false_and]
  exact Or.inl ⟨by simp only [zac,zab,Bool.not_true,Bool.not_false,Bool.or_false,Bool.false_or,Bool.true_or,Bool.or_true,Bool.and_true,Bool.true_and,Bool.false_and,Bool.and_false,decide_true,decide_false,Int.toNat_natCast,hs,z],σ,by simp only [seqL,seqR,blkB,gB,gB1,gB2,gB3,gB4,gB5,a_2,Egc,Egd,Ef6,sA,seval,kn,natI,hp,hC,hG,eG,eP,eT,eI,eJ,eU,hgo,g2,r1]⟩
 by_cases r2:6000 < x
 ·have z:rngM x=false:=by
   have:¬ x≤6000:=by omega
   simp only [rngM,this,decide_false,Bool.and_false]
  exact Or.inl ⟨by simp only [zac,zab,Bool.not_true,Bool.not_false,Bool.or_false,Bool.false_or,Bool.true_or,Bool.or_true,Bool.and_true,Bool.true_and,Bool.false_and,Bool.and_false,decide_true,decide_false,Int.toNat_natCast,hs,z],σ,by simp only [seqL,seqR,blkB,gB,gB1,gB2,gB3,gB4,gB5,a_2,Egc,Egd,Ef6,sA,seval,kn,natI,hp,hC,hG,eG,eP,eT,eI,eJ,eU,hgo,g2,r1,r2]⟩
 have z:rngM x=true:=by
  have z1:0≤x:=by omega
  have z2:x≤6000:=by omega
  simp only [rngM,z1,z2,decide_true,Bool.and_self]
 by_cases g3:d < e1
 ·exact Or.inl ⟨by simp only [zac,zab,Bool.not_true,Bool.not_false,Bool.or_false,Bool.false_or,Bool.true_or,Bool.or_true,Bool.and_true,Bool.true_and,Bool.false_and,Bool.and_false,decide_true,decide_false,Int.toNat_natCast,g2,g3],σ,by simp only [seqL,seqR,blkB,gB,gB1,gB2,gB3,gB4,gB5,a_2,Egc,Egd,Ef6,sA,seval,kn,natI,hp,hC,hG,eG,eP,eT,eI,eJ,eU,hgo,g2,r1,r2,g3]⟩
 exact Or.inr ⟨ds,σ,by simp only [zac,zab,Bool.not_true,Bool.not_false,Bool.or_false,Bool.false_or,Bool.true_or,Bool.or_true,Bool.and_true,Bool.true_and,Bool.false_and,Bool.and_false,decide_true,decide_false,Int.toNat_natCast,hs,z,g2,g3,eU,hgo],by simp only [seqL,seqR,blkB,gB,gB1,gB2,gB3,gB4,gB5,a_2,Egc,Egd,Ef6,sA,seval,kn,natI,hp,hC,hG,eG,eP,eT,eI,eJ,eU,hgo,g2,r1,r2,g3],h,hp,rfl⟩
end Go.Fu

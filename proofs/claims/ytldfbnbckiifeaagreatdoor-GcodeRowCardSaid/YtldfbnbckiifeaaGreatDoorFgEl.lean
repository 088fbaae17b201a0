/-
 The program's printer: its loops.
-/
import Derived.Test.YtldfbnbckiifeaaGreatDoorFgBr
import Derived.Test.YtldfbnbckiifeaaGreatDoorFgCodeC
set_option maxHeartbeats 4000000
set_option linter.unusedSimpArgs false
set_option linter.unusedVariables false
set_option linter.unusedSectionVars false
namespace Go.Fu
open Go Go.Mx
set_option maxRecDepth 10000
set_option maxHeartbeats 4000000
def SGp:Specs:=[(n_120,zqv)]
section
variable {n N:Nat}
def Egl (cs:List Cd) (k:Nat) (b:List In) (i:Nat):Env:={slots:=[(3,⟨false,.ptr 0 0⟩),(8,⟨false,dDs cs⟩),(9,⟨false,.int .i64 cs.length⟩),(10,⟨false,.int .i64 k⟩),(24,⟨false,dIs b⟩),(25,⟨false,.int .i64 b.length⟩),(26,⟨false,.int .i64 i⟩)],locs:=[],boxes:=[],defers:=[]}
set_option maxHeartbeats 4000000 in
theorem zmsb (cs:List Cd) (k:Nat) (b:List In) (acc:Tx) (i:Nat) (hi:i < b.length) (hl:b.length < 1000000000) {B:Nat} (hg:GI B b[i]) (hB:B≤900000) (ha:acc.length≤1099510627776) :
  exec (T SGp (N + 2)) n none a_29 (Egl cs k b i) (BS acc)=some (.normal,Egl cs k b (i + 1),BS (acc ++ lineM b[i] ++ [10])):=by
 have hlt:((i:Int) < (b.length:Int)):=by omega
 have hy:=idx_I b i hi
 have w:=zak (i:=i) (by omega)
 have hlen:=zu5 hg
 generalize b[i]=ins at hy hg hlen ⊢
 obtain ⟨op,x,y,nm⟩:=ins
 obtain ⟨g1,g2,g3,g4⟩:=hg
 simp only at g1 g2 g3 g4
 have ln:=zff x
 have lm:=zff y
 have c1:=zxx (S:=SGp) rfl (N + 1) x g2
 have c2:=zxx (S:=SGp) rfl (N + 1) y g3
 have ck:=zvu (S:=SGp) rfl op (N + 1)
 have W:∀ a s:Tx,s≠[]→a.length + s.length≤1099511627776→T SGp (N + 2) n_52 [.ptr 0 0,.str s] (BS a)=some (.ret ⟨false,.tup [.int .i64 s.length,.niliface]⟩,BS (a ++ s)):=fun a s h1 h2=>zi6b rfl rfl N a s h1 h2
 have Y:∀ a:Tx,a.length + 1≤1099511627776→T SGp (N + 2) n_196 [.ptr 0 0,.int .u8 10] (BS a)=some (.ret ⟨false,.niliface⟩,BS (a ++ [10])):=fun a h=>zqdb rfl rfl N a h
 have d1:1 + op.length≤281474976710656:=by omega
 have d2:1 + nm.length≤281474976710656:=by omega
 have d3:1 + (itoaN x).length≤281474976710656:=by omega
 have d4:1 + (itoaN y).length≤281474976710656:=by omega
 have W1:=W acc (32 :: op) (by simp) (by simp; omega)
 simp only [dI] at hy
 cases e1:op == [80,85,83,72,71] with
 | true =>
  have e:op=[80,85,83,72,71]:=by simpa using e1
  have e2:(op == [80,65,67,75])=false:=by rw [e]; rfl
  have e4:(op == [84,69,83,84,73])=false:=by rw [e]; rfl
  have ek:isK op=false:=by rw [e]; decide
  rw [ek] at ck
  have W2:=W (acc ++ 32 :: op) (32 :: nm) (by simp) (by simp; omega)
  have Y2:=Y (acc ++ 32 :: op ++ 32 :: nm) (by simp; omega)
  have eq:acc ++ lineM ⟨op,x,y,nm⟩ ++ [10]=acc ++ 32 :: op ++ 32 :: nm ++ [10]:=by rw [zphb op x y nm e]; simp
  rw [eq]
  clear eq e hlen
  generalize BS (acc ++ 32 :: op ++ 32 :: nm ++ [10])=Z at *
  simp only [a_29,Egl,sA,seval,kn,hlt,hy,w,d1,d2,d3,d4,e1,e2,e4,ck,W1,W2,Y2]
 | false =>
  cases e2:op == [80,65,67,75] with
  | true =>
   have e:op=[80,65,67,75]:=by simpa using e2
   have ek:isK op=true:=by rw [e]; decide
   rw [ek] at ck
   have W2:=W (acc ++ 32 :: op) (32 :: nm) (by simp) (by simp; omega)
   have W3:=W (acc ++ 32 :: op ++ 32 :: nm) (32 :: itoaN y) (by simp) (by simp; omega)
   have W4:=W (acc ++ 32 :: op ++ 32 :: nm ++ 32 :: itoaN y) (32 :: itoaN x) (by simp) (by simp; omega)
   have Y2:=Y (acc ++ 32 :: op ++ 32 :: nm ++ 32 :: itoaN y ++ 32 :: itoaN x) (by simp; omega)
   have eq:acc ++ lineM ⟨op,x,y,nm⟩ ++ [10]=acc ++ 32 :: op ++ 32 :: nm ++ 32 :: itoaN y ++ 32 :: itoaN x ++ [10]:=by rw [zpjb op x y nm e]; simp
   rw [eq]
   clear eq e hlen
   simp only [a_29,Egl,sA,seval,kn,hlt,hy,w,d1,d2,d3,d4,e1,e2,ck,c1,c2,W1,W2,W3,W4,Y2]
  | false =>
   cases e3:op == [84,69,83,84] with
   | true =>
    have e:op=[84,69,83,84]:=by simpa using e3
    have e4:(op == [84,69,83,84,73])=false:=by rw [e]; rfl
    have ek:isK op=true:=by rw [e]; decide
    rw [ek] at ck
    have W2:=W (acc ++ 32 :: op) (32 :: nm) (by simp) (by simp; omega)
    have W3:=W (acc ++ 32 :: op ++ 32 :: nm) (32 :: itoaN x) (by simp) (by simp; omega)
    have Y2:=Y (acc ++ 32 :: op ++ 32 :: nm ++ 32 :: itoaN x) (by simp; omega)
    have eq:acc ++ lineM ⟨op,x,y,nm⟩ ++ [10]=acc ++ 32 :: op ++ 32 :: nm ++ 32 :: itoaN x ++ [10]:=by rw [zpkb op x y nm e]; simp
    rw [eq]
    clear eq e hlen
    simp only [a_29,Egl,sA,seval,kn,hlt,hy,w,d1,d2,d3,d4,e1,e2,e3,e4,ck,c1,c2,W1,W2,W3,Y2]
   | false =>
    cases e4:op == [84,69,83,84,73] with
    | true =>
     have e:op=[84,69,83,84,73]:=by simpa using e4
     have ek:isK op=true:=by rw [e]; decide
     rw [ek] at ck
     have W2:=W (acc ++ 32 :: op) (32 :: itoaN y) (by simp) (by simp; omega)
     have W3:=W (acc ++ 32 :: op ++ 32 :: itoaN y) (32 :: itoaN x) (by simp) (by simp; omega)
     have Y2:=Y (acc ++ 32 :: op ++ 32 :: itoaN y ++ 32 :: itoaN x) (by simp; omega)
     have eq:acc ++ lineM ⟨op,x,y,nm⟩ ++ [10]=acc ++ 32 :: op ++ 32 :: itoaN y ++ 32 :: itoaN x ++ [10]:=by rw [zpib op x y nm e]; simp
     rw [eq]
     clear eq e hlen
     simp only [a_29,Egl,sA,seval,kn,hlt,hy,w,d1,d2,d3,d4,e1,e2,e3,e4,ck,c1,c2,W1,W2,W3,Y2]
    | false =>
     have hN:isN op=false:=by simp only [isN,e1,e2,e3,Bool.or_self]
     have hM:isM op=false:=by simp only [isM,e2,e4,Bool.or_self]
     cases ek:isK op with
     | true =>
      rw [ek] at ck
      have W2:=W (acc ++ 32 :: op) (32 :: itoaN x) (by simp) (by simp; omega)
      have Y2:=Y (acc ++ 32 :: op ++ 32 :: itoaN x) (by simp; omega)
      have eq:acc ++ lineM ⟨op,x,y,nm⟩ ++ [10]=acc ++ 32 :: op ++ 32 :: itoaN x ++ [10]:=by simp [lineM,hN,hM,ek,ifB]
      rw [eq]
      clear eq hlen
      simp only [a_29,Egl,sA,seval,kn,hlt,hy,w,d1,d2,d3,d4,e1,e2,e3,e4,ck,c1,c2,W1,W2,Y2]
     | false =>
      rw [ek] at ck
      have Y2:=Y (acc ++ 32 :: op) (by simp; omega)
      have eq:acc ++ lineM ⟨op,x,y,nm⟩ ++ [10]=acc ++ 32 :: op ++ [10]:=by simp [lineM,hN,hM,ek,ifB]
      rw [eq]
      clear eq hlen
      simp only [a_29,Egl,sA,seval,kn,hlt,hy,w,d1,d2,d3,d4,e1,e2,e3,e4,ck,c1,c2,W1,Y2]
theorem zpab (cs:List Cd) (k:Nat) (b:List In) (σ:Store) {C:CallF}:exec C n none a_29 (Egl cs k b b.length) σ=some (.exit 2,{Egl cs k b b.length with slots:=[(3,⟨false,.ptr 0 0⟩),(8,⟨false,dDs cs⟩),(9,⟨false,.int .i64 cs.length⟩),(10,⟨false,.int .i64 k⟩),(24,⟨false,dIs b⟩),(25,⟨false,.int .i64 b.length⟩),(26,⟨false,.int .i64 b.length⟩),(27,⟨false,.bool false⟩)]},σ):=by
 have hlt:¬ ((b.length:Int) < (b.length:Int)):=by omega
 simp only [a_29,Egl,sA,seval,kn,hlt]
def Egk (cs:List Cd) (k:Nat):Env:={slots:=[(3,⟨false,.ptr 0 0⟩),(8,⟨false,dDs cs⟩),(9,⟨false,.int .i64 cs.length⟩),(10,⟨false,.int .i64 k⟩)],locs:=[],boxes:=[],defers:=[]}
set_option maxHeartbeats 4000000 in
theorem zmrb {C:CallF} (cs:List Cd) (c:Cd) (acc acc':Tx) (k:Nat) (hk:k < cs.length) (hl:cs.length < 1000000000) (hx:zbj 3 (dDs cs) k=some (.eptr (dD c))) (hb:c.name.length≤1000000)
  (h1:∀ σ,C n_21 [.int .i64 c.arity] σ=some (.ret ⟨false,.str (itoaN c.arity)⟩,σ))
  (h3:C n_52 [.ptr 0 0,.str (headC c)] (BS acc)=some (.ret ⟨false,.tup [.int .i64 (headC c).length,.niliface]⟩,BS (acc ++ headC c)))
  (h2:loopN (exec C n none a_29) n (Egl cs k c.body 0) (BS (acc ++ headC c))=some (.exit 2,{Egl cs k c.body c.body.length with slots:=[(3,⟨false,.ptr 0 0⟩),(8,⟨false,dDs cs⟩),(9,⟨false,.int .i64 cs.length⟩),(10,⟨false,.int .i64 k⟩),(24,⟨false,dIs c.body⟩),(25,⟨false,.int .i64 c.body.length⟩),(26,⟨false,.int .i64 c.body.length⟩),(27,⟨false,.bool false⟩)]},BS acc')) :
  exec C n none a_72 (Egk cs k) (BS acc)=some (.normal,Egk cs (k + 1),BS acc'):=by
 have hlt:((k:Int) < (cs.length:Int)):=by omega
 have w:=zak (i:=k) (by omega)
 have ln:=zff c.arity
 have b2:c.name.length≤281474976710655:=by omega
 have b3:(c.name ++ [47]).length + (itoaN c.arity).length≤281474976710656:=by simp; omega
 have b4:(c.name ++ [47] ++ itoaN c.arity).length≤281474976710655:=by simp; omega
 simp only [headC] at h3 h2
 generalize BS acc=Z1 at h3 ⊢
 generalize BS (acc ++ (c.name ++ [47] ++ itoaN c.arity ++ [10]))=Z2 at h3 h2
 generalize BS acc'=Z3 at h2 ⊢
 simp only [dD] at hx
 simp only [Egl,zeroI] at h2
 simp only [a_72,Egk,sA,seval,kn,memE,memOp,hx,len_I,hlt,zcp,h1,h3,h2,b2,b3,b4,w]
theorem zo9b {C:CallF} (cs:List Cd) (σ:Store):exec C n none a_72 (Egk cs cs.length) σ=some (.exit 0,{Egk cs cs.length with slots:=[(3,⟨false,.ptr 0 0⟩),(8,⟨false,dDs cs⟩),(9,⟨false,.int .i64 cs.length⟩),(10,⟨false,.int .i64 cs.length⟩),(11,⟨false,.bool false⟩)]},σ):=by
 have hlt:¬ ((cs.length:Int) < (cs.length:Int)):=by omega
 simp only [a_72,Egk,sA,seval,kn,hlt]
end
end Go.Fu
namespace Go.Fu
open Go Go.Mx
set_option maxRecDepth 10000
set_option maxHeartbeats 4000000
theorem zacb {B:Nat} (cs:List Cd) (hne:cs≠[]) (hc:CO B cs) (hB:B≤900000) (hw:wt cs < 900000000) (hlen:(zbh cs).length≤1099510000000):OkP n_38 [dDs cs] ⟨false,.str (zbh cs)⟩:=by
 have hl:=zi7b cs
 have hpre:∀ k,(zbh (cs.take k)).length≤(zbh cs).length:=fun k=>by
  have e:zbh cs=zbh (cs.take k) ++ zbh (cs.drop k):=by
   rw [zbh,zbh,zbh,← List.flatMap_append,List.take_append_drop]
  rw [e,List.length_append]
  omega
 have hwm:∀ (l:List Cd) (c:Cd),c∈l→c.body.length≤wt l:=by
  intro l
  induction l with
  | nil=>intro c h; cases h
  | cons x r ih =>
   intro c h
   rcases List.mem_cons.1 h with rfl | h
   ·simp only [wt]; omega
   ·have:=ih c h; simp only [wt]; omega
 have hrun:=zcj (body:=exec (T SGp 2) 1000000000 none a_72) (fun k=>Egk cs k) (fun k=>BS (zbh (cs.take k))) cs.length (r:=_) (fun _ _ h=>by cases h) (fun k hk=>by
  have hx:=idx_D cs k hk
  have hm:=List.getElem_mem hk
  obtain ⟨c1,c2,c3⟩:=hc _ hm
  have hwc:=hwm _ _ hm
  have h1:=hpre k
  have h2:=hpre (k + 1)
  rw [zqp cs k hk,List.length_append,List.length_append] at h2
  have hin:=zcj (body:=exec (T SGp 2) 1000000000 none a_29) (fun i=>Egl cs k cs[k].body i) (fun i=>BS (zbh (cs.take k) ++ headC cs[k] ++ bodyM (cs[k].body.take i))) cs[k].body.length (r:=_) (fun _ _ h=>by cases h) (fun i hi=>by
   have hg:=c3 _ (List.getElem_mem hi)
   have hbt:(bodyM (cs[k].body.take (i + 1))).length≤(bodyM cs[k].body).length:=by
    have e:bodyM cs[k].body=bodyM (cs[k].body.take (i + 1)) ++ bodyM (cs[k].body.drop (i + 1)):=by
     rw [bodyM,bodyM,bodyM,← List.flatMap_append,List.take_append_drop]
    rw [e,List.length_append]
    omega
   rw [zr9 _ i hi,List.length_append,List.length_append] at hbt
   have hs:=zmsb (n:=1000000000) (N:=0) cs k cs[k].body (zbh (cs.take k) ++ headC cs[k] ++ bodyM (cs[k].body.take i)) i hi (by omega) hg hB (by rw [List.length_append,List.length_append]; omega)
   rw [zr9 _ i hi]
   simp only [List.append_assoc] at hs ⊢
   exact hs) (zpab cs k cs[k].body _) 0 1000000000 (by omega) (by omega)
  rw [List.take_length] at hin
  have e0:zbh (cs.take k) ++ headC cs[k] ++ bodyM (cs[k].body.take 0)=zbh (cs.take k) ++ headC cs[k]:=by simp [bodyM]
  simp only [e0] at hin
  have:=zmrb (C:=T SGp 2) (n:=1000000000) cs cs[k] (zbh (cs.take k)) (zbh (cs.take k) ++ headC cs[k] ++ bodyM cs[k].body) k hk (by omega) hx (by omega) (fun σ=>zxx (S:=SGp) rfl 1 _ c2 σ) (zi6b (S:=SGp) rfl rfl 0 _ _ (by simp [headC]) (by omega)) hin
  rw [zqp cs k hk,← List.append_assoc]
  exact this) (zo9b cs (BS (zbh (cs.take cs.length)))) 0 1000000000 (by omega) (by omega)
 rw [List.take_length] at hrun
 have hnn:zbh cs≠[]:=by
  cases cs with
  | nil=>exact absurd rfl hne
  | cons c r=>simp [zbh,headC]
 obtain ⟨σ',hst⟩:=zp7b (S:=SGp) rfl 1 (zbh cs) hnn
 refine zbv (af:=a_133) (n:=1000000000) (σ':=σ') (zb5 SGp 2) rfl rfl (by simp [zam,zvc]) rfl ?_
 have e0:zbh (cs.take 0)=[]:=rfl
 have e1:BS []={objs:=[(0,[⟨false,.nilp⟩,⟨false,.nils⟩])],tys:=[(0,⟨t_11,0⟩)],oth:=[],next:=1}:=rfl
 generalize zbh cs=pm at *
 simp only [Egk,zeroI,e0,e1] at hrun
 generalize BS pm=Z at *
 simp only [a_133,sA,seval,kn,memE,memOp,σ0,len_D,hrun,hst]
end Go.Fu
namespace Go.Fu
open Go Go.Mx
set_option maxRecDepth 10000
def Sub (a b:List Tx):Prop:=∀ s,a.any (· == s)=true→b.any (· == s)=true
theorem Sub.app {a b:List Tx} (h:Sub a b) (c:List Tx):Sub (a ++ c) (b ++ c):=fun s hs=>by
 rw [List.any_append,Bool.or_eq_true] at hs ⊢
 exact hs.imp (h s) id
theorem Good.mono {a:List Tx} {c:Co} (hg:Good a c):∀ {b:List Tx},Sub a b→Good b c:=by
 induction hg with
 | int h=>intro b _; exact .int h
 | con h=>intro b _; exact .con h
 | var h=>intro b hs; exact .var (hs _ h)
 | fail=>intro b _; exact .fail
 | app _ _ i1 i2=>intro b hs; exact .app (i1 hs) (i2 hs)
 | prim h _ _ i1 i2=>intro b hs; exact .prim h (i1 hs) (i2 hs)
 | lt h _ _ i1 i2=>intro b hs; exact .lt h (fun p hp=>i1 p hp (hs.app _)) (i2 (hs.app _))
 | cas _ h _ i1 i2=>intro b hs; exact .cas (i1 hs) h fun a ha=>i2 a ha (hs.app _)
theorem Sub.rev (l:List Tx):Sub l l.reverse:=fun s hs=>by rw [List.any_reverse]; exact hs
theorem zjgb (m:Nat) (h:m < 4):zc5 (FL.map Fd.name ++ (all4.take (m + 1)).reverse)=false:=by
 have:m=0∨m=1∨m=2∨m=3:=by omega
 rcases this with rfl | rfl | rfl | rfl <;> decide
theorem zlwb (m:Nat) (h:m < 4):(all4.take (m + 1)).Nodup:=by
 have:m=0∨m=1∨m=2∨m=3:=by omega
 rcases this with rfl | rfl | rfl | rfl <;> decide
theorem zmab {us:List Su} (h:zon us):CompOK us:=⟨h.1,by have:=h.2.1; omega,h.2.2⟩
theorem zjrb {us:List Su} (h:zon us) {m:Nat} (hm:m < 4) (hn:us.map Su.name=all4.take (m + 1)):CompOK us.reverse:=by
 obtain ⟨hg,h4,hp⟩:=h
 refine ⟨⟨by rw [List.length_reverse]; omega,by rw [List.map_reverse,hn]; exact zjgb m hm,fun u hu=>hg.ps u (List.mem_reverse.1 hu),fun u hu=>⟨?_,(hg.body u (List.mem_reverse.1 hu)).2⟩⟩,by rw [List.length_reverse]; omega,fun u hu=>hp u (List.mem_reverse.1 hu)⟩
 rw [List.map_reverse]
 exact (hg.body u (List.mem_reverse.1 hu)).1.mono ((Sub.rev _).app _)
theorem zm0 {us:List Su} {c:Cd}:c∈compS us↔(∃ f∈FL,c=zbk f)∨∃ u∈us,∃ v∈flatS u,c=codeS v:=by
 simp only [compS,List.mem_append,List.mem_map,List.mem_flatMap]
 constructor
 ·rintro (⟨f,h1,h2⟩ | ⟨u,h1,v,h2,h3⟩)
  ·exact .inl ⟨f,h1,h2.symm⟩
  ·exact .inr ⟨u,h1,v,h2,h3.symm⟩
 ·rintro (⟨f,h1,h2⟩ | ⟨u,h1,v,h2,h3⟩)
  ·exact .inl ⟨f,h1,h2.symm⟩
  ·exact .inr ⟨u,h1,v,h2,h3.symm⟩
theorem zg6b {α β:Type} (f:α→List β):∀ l:List α,(l.reverse.flatMap f).length=(l.flatMap f).length
 | []=>rfl
 | x :: r=>by
  rw [List.reverse_cons,List.flatMap_append,List.length_append,zg6b f r,List.flatMap_cons,List.flatMap_nil,List.append_nil,List.flatMap_cons,List.length_append]
  omega
theorem zxd (us:List Su):(compS us.reverse).length=(compS us).length:=by
 simp only [compS,List.length_append,zg6b]
theorem zxe (us:List Su) (c:Cd):c∈compS us.reverse↔c∈compS us:=by
 simp only [zm0,List.mem_reverse]
theorem zkub {us:List Su}:(us.map Su.name).Nodup→∀ u∈us,∀ v∈us,u.name=v.name→u=v:=by
 induction us with
 | nil=>intro _ u hu; cases hu
 | cons x r ih =>
  intro hn u hu v hv h
  rw [List.map_cons,List.nodup_cons] at hn
  rcases List.mem_cons.1 hu with e1 | h1 <;> rcases List.mem_cons.1 hv with e2 | h2
  ·rw [e1,e2]
  ·exact absurd (List.mem_map.2 ⟨v,h2,by rw [← h,e1]⟩) hn.1
  ·exact absurd (List.mem_map.2 ⟨u,h1,by rw [h,e2]⟩) hn.1
  ·exact ih hn.2 u h1 v h2 h
theorem zg3b:∀ f∈FL,∀ g∈FL,f.name=g.name→f=g:=by
 intro f hf g hg h
 simp only [FL,List.mem_cons,List.not_mem_nil,or_false] at hf hg
 rcases hf with rfl | rfl | rfl | rfl | rfl <;> rcases hg with rfl | rfl | rfl | rfl | rfl <;> first | rfl | exact absurd h (by decide)
theorem zjzb:∀ f∈FL,(∀ b∈f.name,b≠37)∧f.name ∉ all4:=by
 intro f hf
 simp only [FL,List.mem_cons,List.not_mem_nil,or_false] at hf
 rcases hf with rfl | rfl | rfl | rfl | rfl <;> exact ⟨by decide,by decide⟩
theorem ztm:∀ s∈all4,∀ b∈s,b≠37:=by decide
theorem zjqb {us:List Su} (h:zon us) {m:Nat} (hm:m < 4) (hn:us.map Su.name=all4.take (m + 1)):∀ c∈compS us,∀ d∈compS us,c.name=d.name→c=d:=by
 have hall:∀ u∈us,u.name∈all4:=fun u hu=>List.mem_of_mem_take (by rw [← hn]; exact List.mem_map.2 ⟨u,hu,rfl⟩:u.name∈all4.take (m + 1))
 have mixed:∀ f∈FL,∀ u∈us,∀ v∈flatS u,f.name=v.name→False:=fun f hf u hu v hv e=>by
  obtain ⟨p,hp,e2⟩:=zgq _ u v hv
  obtain ⟨f1,f2⟩:=zjzb f hf
  have hu4:=hall u hu
  have:f.name=u.name:=cut37 f1 (ztm _ hu4) (.inl rfl:Px []) hp (by rw [List.append_nil,e,e2])
  rw [this] at f2
  exact f2 hu4
 intro c hc d hd e
 rcases zm0.1 hc with ⟨f,hf,rfl⟩ | ⟨u,hu,v,hv,rfl⟩ <;> rcases zm0.1 hd with ⟨g,hg,rfl⟩ | ⟨u',hu',v',hv',rfl⟩
 ·rw [zg3b f hf g hg e]
 ·exact (mixed f hf u' hu' v' hv' e).elim
 ·exact (mixed g hg u hu v hv e.symm).elim
 ·have e:v.name=v'.name:=e
  obtain ⟨p,hp,e1⟩:=zgq _ u v hv
  obtain ⟨q,hq,e2⟩:=zgq _ u' v' hv'
  have hnm:u.name=u'.name:=cut37 (ztm _ (hall u hu)) (ztm _ (hall u' hu')) hp hq (by rw [← e1,← e2,e])
  obtain rfl:=zkub (by rw [hn]; exact zlwb m hm) u hu u' hu' hnm
  have:=(h.2.2 u hu).2
  rw [zu1 _ u (by omega) v hv v' hv' e]
theorem zl9b {us:List Su} (h:CompOK us):∀ c∈compS us,CO 200 [c]∧c.body.length < 9000000:=by
 intro c hc
 rcases zm0.1 hc with ⟨f,hf,rfl⟩ | ⟨u,hu,v,hv,rfl⟩
 ·simp only [FL,List.mem_cons,List.not_mem_nil,or_false] at hf
  have s2:Small 2:=⟨by decide,by decide⟩
  rcases hf with rfl | rfl | rfl | rfl | rfl
  all_goals
   refine ⟨fun c hc=>?_,by simp [zbk]⟩
   rw [List.mem_singleton.1 hc]
   refine ⟨by simp [zbk],by first | exact zS | exact oneS | exact s2,fun i hi=>?_⟩
   simp only [zbk,List.mem_cons,List.not_mem_nil,or_false] at hi
   rcases hi with rfl | rfl | rfl | rfl
   ·exact gi4 (by decide) (by first | exact zS | exact oneS | exact s2) (by first | exact zS | exact oneS | exact s2) (by simp)
   ·exact gi4 (by decide) zS zS (by simp)
   ·exact gi4 (by decide) zS zS (by simp)
   ·exact gi4 (by decide) zS zS (by simp)
 ·have hf:=(zq8 h u hu).2.1 v hv
  obtain ⟨h1,h2,h3⟩:=hf
  have hg:=zcdb h1 h3
  refine ⟨fun c hc=>?_,by have:=hg.2; omega⟩
  rw [List.mem_singleton.1 hc]
  exact ⟨h2,zhv (by omega),hg.1⟩
theorem zxc {us:List Su} (h:CompOK us):(compS us).length≤7205:=by
 have hlen:∀ l:List Su,(∀ u∈l,u∈us)→(l.flatMap fun u=>(flatS u).map codeS).length≤1200 * l.length:=by
  intro l
  induction l with
  | nil=>intro _; simp
  | cons x r ih =>
   intro hl
   have h1:=ih fun u hu=>hl u (List.mem_cons_of_mem _ hu)
   have h2:=(zq8 h x (hl x (List.mem_cons_self ..))).2.2
   rw [List.flatMap_cons,List.length_append,List.length_map,List.length_cons]
   omega
 have h1:=hlen us fun _ h=>h
 have h2:=h.few
 have hF:FL.length=5:=rfl
 rw [compS,List.length_append,List.length_map,hF]
 omega
theorem zmub {us:List Su} (h:CompOK us) (c:Cd) (hc:c∈compS us):OkP n_38 [dDs [c]] ⟨false,.str (zbh [c])⟩:=by
 obtain ⟨h1,h2⟩:=zl9b h c hc
 have hw:wt [c]=c.body.length + 1 + 0:=rfl
 have hl:=zs3 [c] h1
 exact zacb [c] (by simp) h1 (by omega) (by omega) (by omega)
theorem zxp (s:Tx):∀ l:List Cd,(∃ c∈l,c.name=s)→∃ (j:Nat) (h:j < l.length),l[j].name=s∧∀ (i:Nat) (hi:i < j),(l[i]'(by omega)).name≠s
 | [],h=>by obtain ⟨c,h,_⟩:=h; cases h
 | x :: r,h=>by
  by_cases hx:x.name=s
  ·exact ⟨0,by simp,hx,fun i hi=>by omega⟩
  ·obtain ⟨j,hj,h1,h2⟩:=zxp s r (by
    obtain ⟨c,hc,e⟩:=h
    rcases List.mem_cons.1 hc with rfl | hc
    ·exact absurd e hx
    ·exact ⟨c,hc,e⟩)
   refine ⟨j + 1,by simpa using hj,by simpa using h1,fun i hi=>?_⟩
   cases i with
   | zero=>exact hx
   | succ i=>simpa using h2 i (by omega)
end Go.Fu
namespace Go.Fu
open Go Go.Mx
set_option maxRecDepth 10000
set_option maxHeartbeats 4000000
def Erw0 (b:Int) (us:List Su) (acc:List Su) (o:Bool) (i:Int):Env:={slots:=[(1,⟨false,.int .i64 b⟩),(5,⟨false,dUs us⟩),(6,⟨o,dUs acc⟩),(7,⟨false,.int .i64 i⟩)],locs:=[],boxes:=[],defers:=[]}
def Erw1 (n:Nat) (a b:List Cd) (i:Nat):Env:={slots:=[(1,⟨false,.int .i64 n⟩),(8,⟨false,dDs a⟩),(10,⟨false,dDs b⟩),(12,⟨false,.int .i64 i⟩)],locs:=[],boxes:=[],defers:=[]}
section
variable {C:CallF} {n:Nat} {σ:Store}
theorem zk8b (b:Int) (us acc:List Su) (o:Bool) (i:Nat) (ho:acc≠[]→o=true) (hi:i < us.length) (hu:us.length < 1000) (hl:acc.length < 1000):exec C n none a_85 (Erw0 b us acc o i) σ=some (.normal,Erw0 b us (acc ++ [us[i]]) true ((i:Int) - 1),σ):=by
 have hge:((i:Int) ≥ 0):=by omega
 have w:IntKind.i64.wrap ((i:Int) - 1)=(i:Int) - 1:=zc1 (by omega) (by omega)
 have hx:=idx_U us i hi
 have hap:=appU acc [us[i]] o ho (by simp; omega)
 generalize us[i]=u at hx hap
 have hon:=oneD u.body
 have hoS:=zba u.ps
 simp only [List.map_cons,List.map_nil] at hap
 rw [zj9] at hx hap
 simp only [a_85,Erw0,sA,seval,kn,hge,natI,hx,hon,hoS,hap,w]
theorem zn6b (b:Int) (us acc:List Su) (o:Bool):exec C n none a_85 (Erw0 b us acc o (-1)) σ=some (.exit 0,{Erw0 b us acc o (-1) with slots:=[(1,⟨false,.int .i64 b⟩),(5,⟨false,dUs us⟩),(6,⟨o,dUs acc⟩),(7,⟨false,.int .i64 (-1)⟩),(19,⟨false,.bool false⟩)]},σ):=by
 have hge:¬ ((-1:Int) ≥ 0):=by omega
 simp only [a_85,Erw0,sA,seval,kn,hge]
theorem idx_D1' (l:List Cd) (i:Nat) (h:i < l.length):zbj 3 (dDs l) i=some (.eptr (dD l[i])):=zdv rfl _ _ _ h
theorem zsh (l:List Cd) (i:Nat) (h:i < l.length):zbj 3 (dDs l) i=some (.eptr (.agg [.str l[i].name,.int .i64 l[i].arity,dIs l[i].body])):=idx_D1' l i h
theorem zk9b (k:Nat) (a b:List Cd) (i:Nat) (hk:k < a.length) (hi:i < b.length) (hb:b.length < 100000) (hq:b[i].name≠a[k].name):exec C n none a_86 (Erw1 k a b i) σ=some (.normal,Erw1 k a b (i + 1),σ):=by
 have hlt:((i:Int) < (b.length:Int)):=by omega
 have w:=zak (i:=i) (by omega)
 have hx:=zsh b i hi
 have hy:=zsh a k hk
 have hlb:=len_D b
 have hp:∀ (s:Tx) (k:Int) (d:D),Mx.part none [.str s,.int .i64 k,d] 0=some (.str s):=fun _ _ _=>rfl
 have hq:(b[i].name == a[k].name)=false:=beq_false_of_ne hq
 generalize b[i]=c at *
 generalize a[k]=d at *
 simp only [a_86,Erw1,sA,seval,kn,memE,memOp,hlb,hlt,natI,hx,hy,hp,hq,w]
theorem zimb (l:List Cd) (i:Nat) (h:i < l.length):zew 3 (dDs l) i (some (i + 1))=some (dDs [l[i]]):=by
 have hne:l≠[]:=fun e=>by subst e; simp at h
 have hd:dDs l=.list k_15 (l.map dD):=by
  cases l with
  | nil=>exact absurd rfl hne
  | cons a b=>rfl
 have h1:decide (i≤i + 1)=true:=by simp
 have h2:decide (i + 1≤(l.map dD).length)=true:=by simp; omega
 have h3:(k_15.sz == 3)=true:=rfl
 have h4:((l.map dD).drop i).take (i + 1 - i)=[dD l[i]]:=by
  rw [Nat.add_sub_cancel_left,← List.map_drop,List.drop_eq_getElem_cons h]
  rfl
 rw [hd]
 simp only [zew,Option.getD_some,h1,h2,h3,Bool.and_self,zab,h4]
 rfl
theorem zn7b (k:Nat) (a b:List Cd) (i:Nat) (hk:k < a.length) (hi:i < b.length) (hb:b.length < 100000) (ha:a.length < 100000) (s:Tx) (hq:b[i].name=a[k].name) (h1:C n_38 [dDs [b[i]]] σ=some (.ret ⟨false,.str s⟩,σ)) (h2:C n_38 [dDs [a[k]]] σ=some (.ret ⟨false,.str s⟩,σ)) (h3:C n_69 [] σ=some (.ret ⟨false,.bool true⟩,σ)):∃ e',exec C n none a_86 (Erw1 k a b i) σ=some (.ret,e',σ)∧e'={slots:=[(4,⟨false,.bool true⟩)],locs:=[],boxes:=[],defers:=[]}:=by
 have hlt:((i:Int) < (b.length:Int)):=by omega
 have w:=zak (i:=i) (by omega)
 have w2:=zak (i:=k) (by omega)
 have hx:=zsh b i hi
 have hy:=zsh a k hk
 have sx:=zimb b i hi
 have sy:=zimb a k hk
 have hlb:=len_D b
 have hp:∀ (s:Tx) (k:Int) (d:D),Mx.part none [.str s,.int .i64 k,d] 0=some (.str s):=fun _ _ _=>rfl
 have hq:(b[i].name == a[k].name)=true:=by rw [hq]; exact beq_self_eq_true _
 generalize b[i]=c at *
 generalize a[k]=d at *
 refine ⟨_,?_,rfl⟩
 simp only [a_86,Erw1,sA,seval,kn,memE,memOp,hlb,hlt,natI,hx,hy,hp,hq,w,w2,sx,sy,h1,h2,h3]
end
def spMw (us:List Su) (d:D):List D→Cell→Prop:=fun ds c=>ds=[d]→c=⟨false,dUs us⟩
def spGp:List D→Cell→Prop:=fun ds c=>∀ us,ds=[dFs FL,dUs us]→c=⟨false,.tup [dDs (compS us),.int .i64 0]⟩
def spPw:List D→Cell→Prop:=fun ds c=>∀ cs,ds=[dDs cs]→c=⟨false,.str (zbh cs)⟩
def spLw:List D→Cell→Prop:=fun _ c=>c=⟨false,.bool true⟩
def SRw (us:List Su) (d:D):Specs:=[(n_27,zhg),(n_193,spMw us d),(n_45,spGp),(n_38,spPw),(n_69,spLw)]
theorem dD_inj' {a b:Cd} (h:dD a=dD b):a=b:=by
 obtain ⟨s,k,l⟩:=a
 obtain ⟨s2,k2,l2⟩:=b
 simp only [dD,D.agg.injEq,List.cons.injEq,D.str.injEq,D.int.injEq,true_and,and_true] at h
 obtain ⟨rfl,rfl,h⟩:=h
 rw [zgj zozb (zea h)]
theorem zcab {us:List Su} {d:D} {vs:List Su} (h:CompOK vs) (σ:Store):T (SRw us d) 9000 n_45 [dFs FL,dUs vs] σ=some (.ret ⟨false,.tup [dDs (compS vs),.int .i64 0]⟩,σ):=by
 obtain ⟨c,h1,h2⟩:=T_orc (S:=SRw us d) (f:=n_45) (s:=spGp) rfl rfl (fun ws e=>by
  simp only [List.cons.injEq,and_true,true_and] at e
  rw [zclb e]) (zv1 h)
 rw [h2 8999,h1 vs rfl]
theorem zl4b {us:List Su} {d:D} {vs:List Su} (h:CompOK vs) (c:Cd) (hc:c∈compS vs) (σ:Store):T (SRw us d) 9000 n_38 [dDs [c]] σ=some (.ret ⟨false,.str (zbh [c])⟩,σ):=by
 obtain ⟨x,h1,h2⟩:=T_orc (S:=SRw us d) (f:=n_38) (s:=spPw) rfl rfl (fun cs e=>by
  simp only [List.cons.injEq,and_true] at e
  rw [zgj dD_inj' (zea e)]) (zmub h c hc)
 rw [h2 8999,h1 [c] rfl]
theorem zm5b (d:D) (xs:List Int) (n:Int) (hR:zwt k_int d xs) (hS:∀ x∈xs,Small x):∃ S:Specs,∃ σ',T S 9001 n_286 [d,.int .i64 n] σ0=some (.ret ⟨false,.bool true⟩,σ'):=by
 obtain ⟨us,hM,hok,m,hm,hn⟩:=zndb hR hS
 have hc1:=zmab hok
 have hc2:=zjrb hok hm hn
 have hl4:=hok.2.1
 have hone:=zjqb hok hm hn
 have hlen1:=zxc hc1
 have hlen2:=zxc hc2
 have hrl:=zxd us
 have hrm:=zxe us
 refine ⟨SRw us d,σ0,?_⟩
 have k1:=zlj (S:=SRw us d) rfl 8999 σ0
 obtain ⟨_,q1,k2⟩:=T_orc (S:=SRw us d) (f:=n_193) (s:=spMw us d) rfl rfl (fun _=>rfl) hM
 cases q1 rfl
 have k2:=k2 8999 σ0
 have k3:=zcab (us:=us) (d:=d) hc1 σ0
 have k4:=zcab (us:=us) (d:=d) hc2 σ0
 obtain ⟨_,q1,k7⟩:=T_orc (S:=SRw us d) (f:=n_69) (s:=spLw) rfl rfl rfl zkib
 cases q1
 have k7:=k7 8999 σ0
 have hp1:=fun c hc=>zl4b (us:=us) (d:=d) hc1 c hc σ0
 have hup:us.length=m + 1:=by
  have:=congrArg List.length hn
  simp [all4] at this
  omega
 have e9:((us.length:Int) - 1 - ((us.length:Nat):Int))=-1:=by omega
 have hstop:=zn6b (C:=T (SRw us d) 9000) (n:=9000) (σ:=σ0) n us (us.reverse.take us.length) (ow us.length)
 rw [← e9] at hstop
 have hrev:=zcj (body:=exec (T (SRw us d) 9000) 9000 none a_85) (fun k=>Erw0 n us (us.reverse.take k) (ow k) ((us.length:Int) - 1 - k)) (fun _=>σ0) us.length (r:=_) (fun _ _ h=>by cases h) (fun k hk=>by
  have e1:((us.length:Int) - 1 - k)=((us.length - 1 - k:Nat):Int):=by omega
  have e2:((us.length:Int) - 1 - (k + 1:Nat))=((us.length - 1 - k:Nat):Int) - 1:=by omega
  have e3:us.reverse[k]'(by rw [List.length_reverse]; exact hk)=us[us.length - 1 - k]'(by omega):=List.getElem_reverse ..
  rw [e1,e2,← zb3 us.reverse k (by rw [List.length_reverse]; exact hk),e3]
  exact zk8b n us (us.reverse.take k) (ow k) (us.length - 1 - k) (fun hne=>by
   cases k with
   | zero=>exact absurd rfl hne
   | succ k=>rfl) (by omega) (by omega) (by rw [List.length_take,List.length_reverse]; omega)) hstop 0 9000 (by omega) (by omega)
 have hlr:us.reverse.take us.length=us.reverse:=by rw [← List.length_reverse,List.take_length]
 have ow0:ow 0=false:=rfl
 have own:ow us.length=true:=by rw [hup]; rfl
 have hnil:dUs []=.nils:=rfl
 have hsub:IntKind.i64.wrap ((us.length:Int) - 1)=(us.length:Int) - 1:=zc1 (by omega) (by omega)
 have hz:(us.length:Int) - 1 - ((0:Nat):Int)=(us.length:Int) - 1:=by omega
 have hla:=len_D (compS us)
 have hlb:=len_D (compS us.reverse)
 rw [hrl] at hlb
 have hlu:=len_U us
 have hbne:(((compS us).length:Int) != ((compS us).length:Int))=false:=by simp
 have hbeq:(((compS us).length:Int) == ((compS us).length:Int))=true:=by simp
 simp only [Erw0,List.take_zero,ow0,own,hlr,hnil,hz,e9] at hrev
 rw [T_fun (af:=a_84) rfl rfl rfl]
 by_cases hn0:n < 0
 ·simp only [a_84,sA,seval,kn,k1,k2,k3,k4,k7,hlu,hsub,hrev,hla,hlb,hbne,hbeq,hn0]
 ·by_cases hn1:((compS us).length:Int)≤n
  ·have hn1':n ≥ ((compS us).length:Int):=hn1
   simp only [a_84,sA,seval,kn,k1,k2,k3,k4,k7,hlu,hsub,hrev,hla,hlb,hbne,hbeq,hn0,hn1']
  ·have hn1':¬ (n ≥ ((compS us).length:Int)):=hn1
   obtain ⟨k,rfl⟩:∃ k:Nat,n=k:=⟨n.toNat,by omega⟩
   have hk:k < (compS us).length:=by omega
   have hmk:=List.getElem_mem hk
   obtain ⟨j,hj,hj1,hj2⟩:=zxp (compS us)[k].name (compS us.reverse) ⟨_,(hrm _).2 hmk,rfl⟩
   have hmj:=(hrm _).1 (List.getElem_mem hj)
   have he:(compS us.reverse)[j]=(compS us)[k]:=hone _ hmj _ hmk hj1
   obtain ⟨e',hh,rfl⟩:=zn7b (C:=T (SRw us d) 9000) (n:=9000) (σ:=σ0) k (compS us) (compS us.reverse) j hk hj (by omega) (by omega) (zbh [(compS us)[k]]) hj1 (by rw [he]; exact hp1 _ hmk) (hp1 _ hmk) k7
   have hfind:=zcj (body:=exec (T (SRw us d) 9000) 9000 none a_86) (fun i=>Erw1 k (compS us) (compS us.reverse) i) (fun _=>σ0) j (r:=_) (fun _ _ h=>by cases h) (fun i hi=>zk9b k (compS us) (compS us.reverse) i hk (by omega) (by omega) (hj2 i hi)) hh 0 9000 (by omega) (by omega)
   simp only [Erw1,zeroI] at hfind
   simp only [a_84,sA,seval,kn,k1,k2,k3,k4,k7,hlu,hsub,hrev,hla,hlb,hbne,hbeq,hn0,hn1',hfind]
end Go.Fu

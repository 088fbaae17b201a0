/-
 The library's contracts,laid over this program,in the machine's words.
-/
import Derived.Test.YtldfbnbckiifeaaGreatDoorFgIds
import Derived.Test.YtldfbnbckiifeaaGreatDoorFgRun
import Derived.Test.YtldfbnbckiifeaaGreatDoorMyFrame
import Derived.Test.YtldfbnbckiifeaaGreatDoorMyCore
set_option linter.unusedSimpArgs false
set_option linter.unusedVariables false
set_option linter.unusedSectionVars false
namespace Go.Fu
open Go Go.Mx
theorem gTab:Go.Proofs.Tryz.prog.globalNamed "internal/strconv.uint64pow10"=some 0:=by kernel_rfl
def κ:Ctx where
 n:=0 + 1
 K:=fun w=>Lib.TabIs Go.Proofs.Tryz.prog w "internal/strconv.uint64pow10" .u64 Lib.pow10Tab
 stable:=fun w w' h k=>by
  unfold Lib.TabIs World.var? at k ⊢
  rw [gTab] at k ⊢
  simp only [Option.bind_some] at k ⊢
  rw [h 0 (by omega)]
  exact k
theorem zayb:∀ (k n:Nat) (acc:List UInt8),n < 10 ^ k→digF k n acc=if k=0 then acc else Lib.decDigits n ++ acc
 | 0,n,acc,_=>rfl
 | k + 1,n,acc,h=>by
  rw [if_neg (by omega)]
  unfold digF
  by_cases h10:n < 10
  ·simp only [h10,decide_true,zac]
   rw [Lib.decDigits,dif_pos h10]
   rfl
  ·simp only [h10,decide_false,zab]
   have hk:n / 10 < 10 ^ k:=by
    rw [Nat.div_lt_iff_lt_mul (by omega)]
    rw [Nat.pow_succ] at h
    exact h
   have hk0:k≠0:=by
    intro e
    subst e
    simp at hk
    omega
   rw [zayb k (n / 10) _ hk,if_neg hk0,Lib.decDigits.eq_def n,dif_neg h10]
   simp
theorem zazb {n:Nat} (h:n < 10 ^ 20):digN n=Lib.decDigits n:=by
 unfold digN
 rw [zayb 20 n [] h]
 simp
theorem zieb {n:Int} (h:inI64 n=true):itoaN n=Lib.itoa n:=by
 simp only [inI64,Bool.and_eq_true,decide_eq_true_eq] at h
 cases n with
 | ofNat m =>
  have h2:(m:Int)≤9223372036854775807:=h.2
  simp only [itoaN,Lib.itoa]
  rw [if_neg (by simp),zazb (by omega)]
  rfl
 | negSucc m =>
  have h1:-9223372036854775808≤Int.negSucc m:=h.1
  simp only [itoaN,Lib.itoa]
  rw [if_pos (Int.negSucc_lt_zero m),zazb (by omega)]
  rfl
theorem repL1 {ι:Imm} {j:Lay} {d:D} {vs:List Value} (h:RepL ι j [d] vs):∃ v,vs=[v]∧Rep ι j d v:=by
 simp only [RepL] at h
 obtain ⟨x,r,rfl,h1,rfl⟩:=h
 exact ⟨x,rfl,h1⟩
theorem zjwb {ds:List D} {d:D} (h:xItoa ds=some d) (σ:Store):zc9 Go.Proofs.Tryz.prog κ 30 ds σ (.ret ⟨false,d⟩) σ:=by
 unfold xItoa at h
 split at h
 ·rename_i n
  obtain ⟨h1,h⟩:=zah h
  cases h
  refine zgpb rfl ⟨_,_,Go.Proofs.Tryz.func30,by kernel_rfl,rfl⟩ (fun ι j own w vs hB hG hr=>?_)
  obtain ⟨v,rfl,hv⟩:=repL1 hr
  simp only [Rep] at hv
  subst hv
  have hb:=h1
  simp only [inI64,Bool.and_eq_true,decide_eq_true_eq] at hb
  refine (Go.Proofs.Tryz.strconv_Itoa n hb.1 hb.2 w hB.K).mono ?_
  rintro e w' ⟨rfl,k,os,rfl⟩
  refine ⟨_,rfl,?_,by simp only [Rep]; rw [zieb h1]⟩
  have hd:RowKit.Below w.heap.size w (w.drewN k):=⟨rfl,rfl,rfl,Nat.le_refl _,fun _ _=>rfl⟩
  refine hd.trans ⟨rfl,rfl,rfl,by simp [Sort.grow],fun i hi=>?_⟩
  show (w.heap ++ os)[i]?=w.heap[i]?
  rw [Array.getElem?_append_left hi]
 ·cases h
theorem zw3 {w:World} {b:Nat} {vs:List Value} {T:TypeId} (h:w.heap[b]?=some (.cells ⟨vs⟩ T (0,0))) (v:Value):(w.setCell ⟨b,0,none⟩ v).heap[b]?=some (.cells ⟨vs.set 0 v⟩ T (0,0)):=by
 have hlt:=(Array.getElem?_eq_some_iff.1 h).1
 have hv:=(Array.getElem?_eq_some_iff.1 h).2
 simp only [World.setCell,Array.getElem?_modify,if_true,h,Option.map_some]
 simp
theorem zjvb {ds:List D} {σ σ':Store} {out:Out} (h:xCopy ds σ=some (out,σ')):zc9 Go.Proofs.Tryz.prog κ 66 ds σ out σ':=by
 refine (zcq (show isY 66=false from rfl)).2 ⟨⟨_,_,Go.Proofs.Tryz.func66,by kernel_rfl,rfl⟩,fun ι j own w vs hS hB hG hr=>?_⟩
 unfold xCopy at h
 split at h
 ·rename_i id
  obtain ⟨t,h1,ha⟩:=zaa h
  obtain ⟨h2,hb⟩:=zah ha
  obtain ⟨cs,h3,hc⟩:=zaa hb
  clear h ha hb
  have ht:t.t=t_27:=by simpa using h2
  obtain ⟨v,rfl,hv⟩:=repL1 hr
  simp only [Rep] at hv
  obtain ⟨b,hjb,rfl⟩:=hv
  obtain ⟨b',hjb',hown,row,T,hheap,hlen,hcell⟩:=hG.objs id cs h3
  rw [hjb] at hjb'
  cases hjb'
  obtain ⟨row',hrow',_⟩:=hG.tys id t cs h1 h3 b hjb
  rw [ht,hheap] at hrow'
  cases hrow'
  split at hc
  ·rename_i c0 c1
   obtain ⟨v0,hv0,_,hr0,_⟩:=hcell 0 c0 rfl
   have hc0:w.cell? ⟨b,0,none⟩=some v0:=by
    rw [cell_of_row w b 0 _ _ _ hheap]
    simpa using hv0
   split at hc
   ·rename_i hd
    cases hc
    rw [hd] at hr0
    simp only [Rep] at hr0
    subst hr0
    have hl:2≤row.length:=by simpa using hlen
    have hsh:w.shape? b=some (t_27,row.length):=by simp [World.shape?,hheap]
    have hfz:w.frozen? ⟨b,0,none⟩=false:=Lib.frozen_of_heap hheap 0
    refine (zb8b b w hc0 hl hsh hfz).mono ?_
    rintro e w' ⟨rfl,rfl⟩
    have hnew:=zw3 hheap (.pointer (some ⟨b,0,none⟩))
    have hrest:∀ k,k≠b→(w.setCell ⟨b,0,none⟩ (.pointer (some ⟨b,0,none⟩))).heap[k]?=w.heap[k]?:=fun k hk=>RowKit.Below.heap_setCell w ⟨b,0,none⟩ _ k hk
    have hcl:∀ (i:Nat) (c:Cell),[(⟨false,.ptr id 0⟩:Cell),c1][i]?=some c→∃ v,(row.set 0 (.pointer (some ⟨b,0,none⟩)))[i]?=some v∧v.oneCell'=true∧zcx ι j own (w.setCell ⟨b,0,none⟩ (.pointer (some ⟨b,0,none⟩))) (.ocell id i) c v:=by
     intro i c hi
     match i with
     | 0 =>
      simp only [List.getElem?_cons_zero,Option.some.injEq] at hi
      subst hi
      refine ⟨_,List.getElem?_set_self (by omega),rfl,?_,fun h=>by cases h⟩
      simp only [Rep]
      exact ⟨b,hjb,rfl⟩
     | 1 =>
      obtain ⟨v1,q1,q2,q3,q4⟩:=hcell 1 c1 rfl
      simp only [List.getElem?_cons_succ,List.getElem?_cons_zero,Option.some.injEq] at hi
      subst hi
      exact ⟨v1,by rw [List.getElem?_set_ne (by omega)]; exact q1,q2,q3,fun ho=>zdt (B:=b) (by rw [hown]; intro h; cases h) hrest (q4 ho)⟩
     | n + 2=>simp at hi
    obtain ⟨g1,g2⟩:=hG.setObj (w':=w.setCell ⟨b,0,none⟩ (.pointer (some ⟨b,0,none⟩))) h3 hjb hown rfl rfl rfl (by simp [World.setCell]) hrest hheap hnew (by simpa using hl) (by simp) hcl
    exact ⟨ι,j,own,g1,g2.weaken (fun _ _=>trivial),hS,by simp [Rep,RepL],fun h=>by cases h⟩
   ·rename_i id' hd
    obtain ⟨h4,hc⟩:=zah hc
    cases hc
    have hid:id'=id:=by simpa using h4
    subst hid
    rw [hd] at hr0
    simp only [Rep] at hr0
    obtain ⟨b2,hjb2,rfl⟩:=hr0
    rw [hjb] at hjb2
    cases hjb2
    refine (ze7b b w hc0).mono ?_
    rintro e w' ⟨rfl,rfl⟩
    exact ⟨ι,j,own,hG,Evo.refl _ _ _ _ _,hS,by simp [Rep,RepL],fun h=>by cases h⟩
   ·cases hc
  ·cases hc
 ·cases h
theorem zyp {w:World} {g n:Nat} {cur:Array Value} {T:TypeId} (h:w.heap[g]?=some (.cells cur T (0,0))):∃ fr,(w.freeze ⟨g,0,none⟩ n).heap[g]?=some (.cells cur T fr):=by
 unfold World.freeze
 split
 ·exact ⟨_,h⟩
 ·simp only [Array.getElem?_modify,if_true,h,Option.map_some]
  exact ⟨_,rfl⟩
theorem zvp {w:World} {g n b:Nat} (hb:b≠g):(w.freeze ⟨g,0,none⟩ n).heap[b]?=w.heap[b]?:=by
 unfold World.freeze
 split
 ·rfl
 ·simp only [Array.getElem?_modify]
  rw [if_neg (fun e=>hb e.symm)]
theorem zvo {w:World} {g n:Nat}:(w.freeze ⟨g,0,none⟩ n).os=w.os∧(w.freeze ⟨g,0,none⟩ n).tape=w.tape∧(w.freeze ⟨g,0,none⟩ n).output=w.output∧(w.freeze ⟨g,0,none⟩ n).heap.size=w.heap.size:=by
 unfold World.freeze
 split
 ·exact ⟨rfl,rfl,rfl,rfl⟩
 ·exact ⟨rfl,rfl,rfl,by simp⟩
theorem zchb {ι:Imm} {j:Lay} {own:Own} {σ:Store} {w w':World} {g id:Nat} {c0 c1:Cell} {cur:Array Value} {T:TypeId} {fr:Nat × Nat} (hG:GSim ι j own σ w) (hg:w.heap[g]?=some (.cells cur T (0,0))) (hown:own g=some (.ocell id 1))
  (hcs:aget σ.objs id=some [c0,c1]) (h1:w'.heap[g]?=some (.cells cur T fr)) (hoth:∀ b,b≠g→w'.heap[b]?=w.heap[b]?) (hos:w'.os=w.os) (ht:w'.tape=w.tape) (hout:w'.output=w.output) (hsz:w'.heap.size=w.heap.size) :
  ∃ own',GSim ι j own' {σ with objs:=aset σ.objs id [c0,⟨false,c1.d⟩]} w'∧Evo ι j own w ι j own' w' (fun _=>True)∧(zeo own→zeo own'):=by
 classical
 let own':Own:=fun b=>if b=g then none else own b
 have hsub:∀ b t,own' b=some t→own b=some t∧b≠g:=by
  intro b t h
  by_cases hb:b=g
  ·simp only [own',if_pos hb] at h; cases h
  ·simp only [own',if_neg hb] at h; exact ⟨h,hb⟩
 have hkeep:∀ b t,own b=some t→t≠.ocell id 1→own' b=some t∧b≠g:=by
  intro b t h hne
  have hb:b≠g:=fun e=>by subst e; rw [hown] at h; cases h; exact hne rfl
  exact ⟨by simp only [own',if_neg hb]; exact h,hb⟩
 have hown':∀ {t:Tag} {d:D} {v:Value},t≠.ocell id 1→Owned ι own w t d v→Owned ι own' w' t d v:=by
  intro t d v hne k
  unfold Owned at k ⊢
  cases hp:prin d v with
  | none=>trivial
  | some p =>
   rw [hp] at k
   rcases k with k | ⟨b,cap,cur',T',k1,k2,k3,k4⟩
   ·exact .inl k
   ·obtain ⟨q1,q2⟩:=hkeep b t k2 hne
    exact .inr ⟨b,cap,cur',T',k1,q1,(hoth b q2).trans k3,k4⟩
 refine ⟨own',⟨fun b o v h=>?_,fun b t h hu=>hG.noimm b t (hsub b t h).1 hu,fun id' cs h=>?_,fun id' t cs k1 k2 b hb=>?_,fun id' x h=>?_,hG.jlt,fun b t h=>by rw [hsz]; exact hG.ownlt b t (hsub b t h).1⟩,
  ⟨hos,ht,hout,Nat.le_of_eq hsz.symm,fun _ _ _ h=>h,fun _ _ h=>h,fun b hb hn=>?_⟩,fun hS b t h=>hS b t (hsub b t h).1⟩
 ·by_cases hb:b=g
  ·subst hb
   have:=hG.holds b o v h
   rw [cell_of_row w b o cur T (0,0) hg] at this
   rw [cell_of_row w' b o cur T fr h1]
   exact this
  ·rw [World.cell?_of_block (w:=w) (w':=w') (a:=⟨b,o,none⟩) (hoth b hb)]
   exact hG.holds b o v h
 ·have hex:∃ cs0,aget σ.objs id'=some cs0∧cs0.length=cs.length∧∀ (i:Nat) (c:Cell),cs[i]?=some c→∃ c0,cs0[i]?=some c0∧c0.d=c.d∧(c.own=true→c0.own=true∧Tag.ocell id' i≠.ocell id 1):=by
   simp only [zar] at h
   by_cases hid:id=id'
   ·subst hid
    rw [if_pos rfl] at h
    cases h
    refine ⟨_,hcs,rfl,fun i c hi=>?_⟩
    match i with
    | 0 =>
     simp only [List.getElem?_cons_zero,Option.some.injEq] at hi
     subst hi
     exact ⟨c0,rfl,rfl,fun ho=>⟨ho,by simp⟩⟩
    | 1 =>
     simp only [List.getElem?_cons_succ,List.getElem?_cons_zero,Option.some.injEq] at hi
     subst hi
     exact ⟨c1,rfl,rfl,fun ho=>by cases ho⟩
    | n + 2=>simp at hi
   ·rw [if_neg hid] at h
    exact ⟨cs,h,rfl,fun i c hi=>⟨c,hi,rfl,fun ho=>⟨ho,fun e=>by cases e; exact hid rfl⟩⟩⟩
  obtain ⟨cs0,e1,e2,e3⟩:=hex
  obtain ⟨b,q1,q2,vs,T',r1,r2,r3⟩:=hG.objs id' cs0 e1
  obtain ⟨k1,k2⟩:=hkeep b _ q2 (by simp)
  refine ⟨b,q1,k1,vs,T',(hoth b k2).trans r1,by omega,fun i c hi=>?_⟩
  obtain ⟨c0',f1,f2,f3⟩:=e3 i c hi
  obtain ⟨v,s1,s2,s3,s4⟩:=r3 i c0' f1
  exact ⟨v,s1,s2,f2 ▸ s3,fun ho=>f2 ▸ hown' (f3 ho).2 (s4 (f3 ho).1)⟩
 ·have hex:∃ cs0,aget σ.objs id'=some cs0:=by
   simp only [zar] at k2
   split at k2
   ·rename_i hh; subst hh; exact ⟨_,hcs⟩
   ·exact ⟨cs,k2⟩
  obtain ⟨cs0,e1⟩:=hex
  have hty:=hG.tys id' t cs0 k1 e1 b hb
  obtain ⟨B2,q1,q2,_⟩:=hG.objs id' cs0 e1
  rw [hb] at q1
  cases q1
  exact hty.keep (hoth b (hkeep b _ q2 (by simp)).2) (fun _ _ h=>h)
 ·obtain ⟨b,q1,q2,q3⟩:=hG.oth id' x h
  obtain ⟨k1,k2⟩:=hkeep b _ q2 (by simp)
  exact ⟨b,q1,k1,q3.keep (hoth b k2) (fun _ _ _ h=>h) (fun _ _ h=>h)⟩
 ·have hbg:b≠g:=fun e=>by subst e; exact hn _ hown trivial
  exact ⟨hoth b hbg,by simp only [own',if_neg hbg],fun _=>rfl⟩
theorem zeib {ds:List D} {σ σ':Store} {out:Out} (h:zsu ds σ=some (out,σ')):zc9 Go.Proofs.Tryz.prog κ 33 ds σ out σ':=by
 refine (zcq (show isY 33=false from rfl)).2 ⟨⟨_,_,Go.Proofs.Tryz.func33,by kernel_rfl,rfl⟩,fun ι j own w vs hS hB hG hr=>?_⟩
 unfold zsu at h
 split at h
 ·rename_i id
  obtain ⟨t,h1,ha⟩:=zaa h
  obtain ⟨h2,hb⟩:=zah ha
  obtain ⟨cs,h3,hc⟩:=zaa hb
  clear h ha hb
  have ht:t.t=t_27:=by simpa using h2
  obtain ⟨v,rfl,hv⟩:=repL1 hr
  simp only [Rep] at hv
  obtain ⟨b,hjb,rfl⟩:=hv
  obtain ⟨b',hjb',hown,row,T,hheap,hlen,hcell⟩:=hG.objs id cs h3
  rw [hjb] at hjb'
  cases hjb'
  obtain ⟨row',hrow',_⟩:=hG.tys id t cs h1 h3 b hjb
  rw [ht,hheap] at hrow'
  cases hrow'
  split at hc
  ·rename_i c0 c1
   split at hc
   ·rename_i k es hd
    obtain ⟨h4,hc⟩:=zah hc
    obtain ⟨s,h5,hc⟩:=zaa hc
    cases hc
    simp only [Bool.and_eq_true,Bool.not_eq_true',List.isEmpty_eq_false_iff] at h4
    obtain ⟨⟨ho,hk⟩,hne⟩:=h4
    obtain ⟨hk1,hk2⟩:k.el=5∧k.sz=1:=by simpa [zs8,k_40] using hk
    obtain ⟨b1,b2⟩:=zkr h5
    obtain ⟨v0,q0,_⟩:=hcell 0 c0 rfl
    obtain ⟨v1,q1,_,q3,q4⟩:=hcell 1 c1 rfl
    have hO:=q4 ho
    rw [hd] at hO q3
    simp only [Rep] at q3
    obtain ⟨ad,cap,hv1,hle,hmax,hrow⟩:=q3
    obtain ⟨g0,o0,hg0,hrr⟩:=hrow.resolve_left hne
    simp only [Owned] at hO
    obtain ⟨g,cap',cur,T',e1,e2,e3,⟨e4,e5⟩,e6⟩:=hO.resolve_left (fun ⟨_,_,h⟩=>hne (h hk1))
    rw [hv1,hg0] at e1
    simp only [Value.slice.injEq,Option.some.injEq,Addr.mk.injEq,and_true,true_and] at e1
    obtain ⟨⟨rfl,rfl⟩,rfl⟩:=e1
    rw [hk1] at e4
    subst e4
    rw [hk2] at e5 hrr
    obtain ⟨rest,hrow2⟩:∃ rest,row=v0 :: v1 :: rest:=by
     have hl:2≤row.length:=by simpa using hlen
     match row,hl with
     | x :: y :: r,_ =>
      simp at q0 q1
      exact ⟨r,by rw [q0,q1]⟩
    have hs0:s≠[]:=by
     intro e
     subst e
     exact hne (List.eq_nil_of_length_eq_zero b1.symm)
    have hbk:w.heap[b]?=some (.cells ⟨v0 :: .slice (some ⟨g0,0,none⟩) s.length cap :: rest⟩ t_27 (0,0)):=by
     rw [hheap,hrow2,hv1,hg0,b1]
    refine (zaab b g0 cap v0 rest cur s w hs0 hbk e3 (by omega) hmax e5 (fun jx x hx=>?_)).mono ?_
    ·obtain ⟨u,r1,_,r3⟩:=hrr.at jx _ (b2 jx x hx)
     simp only [Rep] at r3
     subst r3
     have:=hG.holds _ _ _ (r1 0 (.int .u8 x.toNat) rfl)
     simpa using this
    ·rintro e w' ⟨rfl,rfl⟩
     obtain ⟨fr,hfr⟩:=zyp (w:=w.drew) (g:=g0) (n:=s.length) (show w.drew.heap[g0]?=some (.cells cur 5 (0,0)) from e3)
     obtain ⟨f1,f2,f3,f4⟩:=zvo (w:=w.drew) (g:=g0) (n:=s.length)
     obtain ⟨own',g1,g2,g3⟩:=zchb hG e3 e2 h3 hfr (fun b hb=>zvp (w:=w.drew) hb) f1 f2 f3 f4
     rw [hd] at g1
     refine ⟨ι,j,own',?_,g2,g3 hS,by simp only [Rep],fun h=>by cases h⟩
     rw [hd]
     exact g1
   ·cases hc
  ·cases hc
 ·cases h
end Go.Fu
namespace Go.Mx
open Go
abbrev XRes:=Option (AExit × Env × Store)
def thenX (x:XRes) (f:Env→Store→XRes):XRes:=match x with
 | some (.normal,e,σ)=>f e σ
 | r=>r
def zfe (id:Nat) (x:XRes):XRes:=match x with
 | some (.exit id',e,σ)=>ifB (id' == id) (some (.normal,e,σ)) (some (.exit id',e,σ))
 | r=>r
def zil (x:XRes):XRes:=match x with
 | some (.goto _,_,_)=>none
 | r=>r
def opsX (perm:Option (List Nat)) (clr:List Nat) (x:Option OpsOut):XRes:=match x with
 | some (.normal e σ)=>some (.normal,zjr e clr,σ)
 | some (.panic d e σ)=>some (.panic d,caseO perm e (fun _=>e.bare),σ)
 | none=>none
def callX (C:CallF) (rest:List AOper) (dst:Option Nat) (st:Option (List Nat)) (e:Env) (σ0:Store) (r:Option (Out × Store)):Option OpsOut:=match r with
 | some (.ret c,σ)=>ifB (stOK st e σ0 σ) (zbg C rest (e.put dst c) σ) none
 | some (.panic d,σ)=>ifB (stOK st e σ0 σ) (some (.panic d e σ)) none
 | none=>none
def stepX (C:CallF) (rest:List AOper) (dst:Option Nat) (st:Option (List Nat)) (e:Env) (σ:Store) (s:Option Step):Option OpsOut:=match s with
 | some (.next e' σ')=>ifB (stOK st e σ σ') (zbg C rest e' σ') none
 | some (.call f az)=>callX C rest dst st e σ (C f az σ)
 | some (.panic d)=>some (.panic d e σ)
 | none=>none
@[congr] theorem zo6b {x y:XRes} (f:Env→Store→XRes) (h:x=y):thenX x f=thenX y f:=by rw [h]
@[congr] theorem zm1b {x y:XRes} (id:Nat) (h:x=y):zfe id x=zfe id y:=by rw [h]
@[congr] theorem zorb {x y:XRes} (h:x=y):zil x=zil y:=by rw [h]
@[congr] theorem zo8b {x y:Option OpsOut} (p:Option (List Nat)) (l:List Nat) (h:x=y):opsX p l x=opsX p l y:=by rw [h]
@[congr] theorem zo3b {x y:Option (Out × Store)} (C:CallF) (rest:List AOper) (dst:Option Nat) (st:Option (List Nat)) (e:Env) (σ0:Store) (h:x=y):callX C rest dst st e σ0 x=callX C rest dst st e σ0 y:=by rw [h]
@[congr] theorem zo5b {x y:Option Step} (C:CallF) (rest:List AOper) (dst:Option Nat) (st:Option (List Nat)) (e:Env) (σ:Store) (h:x=y):stepX C rest dst st e σ x=stepX C rest dst st e σ y:=by rw [h]
section
variable {C:CallF} {n:Nat} {e:Env} {σ:Store}
theorem zxq {f:Env→Store→XRes}:thenX (some (.normal,e,σ)) f=f e σ:=rfl
theorem zd4b {id:Nat} {f:Env→Store→XRes}:thenX (some (.exit id,e,σ)) f=some (.exit id,e,σ):=rfl
theorem zg5b {f:Env→Store→XRes}:thenX (some (.ret,e,σ)) f=some (.ret,e,σ):=rfl
theorem zabb {d:D} {f:Env→Store→XRes}:thenX (some (.panic d,e,σ)) f=some (.panic d,e,σ):=rfl
theorem zt0 {id:Nat}:zfe id (some (.normal,e,σ))=some (.normal,e,σ):=rfl
theorem zx2 {id id':Nat}:zfe id (some (.exit id',e,σ))=ifB (id' == id) (some (.normal,e,σ)) (some (.exit id',e,σ)):=rfl
theorem zbob {id:Nat}:zfe id (some (.ret,e,σ))=some (.ret,e,σ):=rfl
theorem zu7 {id:Nat} {d:D}:zfe id (some (.panic d,e,σ))=some (.panic d,e,σ):=rfl
theorem zzm {p:Option (List Nat)} {l:List Nat}:opsX p l (some (.normal e σ))=some (.normal,zjr e l,σ):=rfl
theorem zrb {l:List Nat} {d:D}:opsX none l (some (.panic d e σ))=some (.panic d,e,σ):=rfl
theorem zrc {p:List Nat} {l:List Nat} {d:D}:opsX (some p) l (some (.panic d e σ))=some (.panic d,e.bare,σ):=rfl
theorem zeub {rest:List AOper} {dst:Option Nat} {c:Cell} {σ0:Store}:callX C rest dst none e σ0 (some (.ret c,σ))=zbg C rest (e.put dst c) σ:=rfl
theorem zbqb {rest:List AOper} {dst:Option Nat} {c:Cell} {σ0:Store} {ws:List Nat}:callX C rest dst (some ws) e σ0 (some (.ret c,σ))=ifB (ws.all (sameW e σ0 σ)) (zbg C rest (e.put dst c) σ) none:=rfl
theorem zx3 {rest:List AOper} {dst:Option Nat} {d:D} {σ0:Store}:callX C rest dst none e σ0 (some (.panic d,σ))=some (.panic d e σ):=rfl
theorem zdvb {rest:List AOper} {dst:Option Nat} {e':Env} {σ':Store}:stepX C rest dst none e σ (some (.next e' σ'))=zbg C rest e' σ':=rfl
theorem zdub {rest:List AOper} {dst:Option Nat} {st:Option (List Nat)} {f:FuncId} {az:List D}:stepX C rest dst st e σ (some (.call f az))=callX C rest dst st e σ (C f az σ):=rfl
theorem zzx {rest:List AOper} {dst:Option Nat} {st:Option (List Nat)} {d:D}:stepX C rest dst st e σ (some (.panic d))=some (.panic d e σ):=rfl
theorem zuq (k:IntKind):zb9 k k=true:=by cases k <;> rfl
mutual
theorem D.same_refl:∀ d:D,D.same d d=true
 | .undef=>rfl
 | .bool b=>by simp [D.same]
 | .int k n=>by simp [D.same,zuq]
 | .str s=>by simp [D.same]
 | .nils=>rfl
 | .list k es=>by simp [D.same,zgg es]
 | .agg es=>by simp [D.same,zgg es]
 | .tup es=>by simp [D.same,zgg es]
 | .nilp=>rfl
 | .ptr a b=>by simp [D.same]
 | .eptr d=>by simp [D.same,D.same_refl d]
 | .fn f a b=>by simp [D.same,zgg a,zgg b]
 | .nilfn=>rfl
 | .iface t d=>by simp [D.same,D.same_refl d]
 | .niliface=>rfl
 | .junk=>rfl
 | .arr k a b c=>by simp [D.same]
 | .empt=>rfl
 | .map a=>by simp [D.same]
 | .nilmap=>rfl
 | .yld a=>by simp [D.same]
theorem zgg:∀ l:List D,sameL l l=true
 | []=>rfl
 | d :: l=>by simp [sameL,D.same_refl d,zgg l]
end
theorem zpa:∀ l:List Cell,zij l l=true
 | []=>rfl
 | c :: l=>by simp [zij,D.same_refl,zpa l]
theorem zpb:∀ l:List (D × D × Nat),zik l l=true
 | []=>rfl
 | (a,b,c) :: l=>by simp [zik,D.same_refl,zpb l]
theorem zrm (x:List Cell):sameO (some x) (some x)=true:=zpa x
theorem zdob (x:Oth):sameM (some x) (some x)=true:=by
 cases x with
 | it s n=>simp [sameM]
 | map es c=>simp [sameM,zpb]
 | loop r=>simp [sameM]
 | dfr=>simp [sameM]
theorem zdpb (e:Env) (σ:Store) (s:Nat):sameW e σ σ s=true:=by
 unfold sameW
 cases aget e.slots s with
 | none=>rfl
 | some c =>
  simp only [zad]
  cases c.d <;> try rfl
  ·rename_i id off
   show (caseO (aget σ.objs id) true fun cs=>sameO (some cs) (aget σ.objs id))=true
   cases h:aget σ.objs id with
   | none=>rfl
   | some x=>exact zrm x
  ·rename_i id
   show (caseO (aget σ.oth id) true fun x=>sameM (some x) (aget σ.oth id))=true
   cases h:aget σ.oth id with
   | none=>rfl
   | some x=>exact zdob x
theorem zcc {C:CallF} {e:Env} {σ:Store} {rest:List AOper} {dst:Option Nat} {c:Cell} {ws:List Nat}:callX C rest dst (some ws) e σ (some (.ret c,σ))=zbg C rest (e.put dst c) σ:=by
 show ifB (ws.all (sameW e σ σ)) _ none=_
 have:ws.all (sameW e σ σ)=true:=List.all_eq_true.2 fun s _=>zdpb e σ s
 rw [this]
 rfl
theorem zdmb:zbg C [] e σ=some (.normal e σ):=rfl
theorem zzr {o:AOper} {rest:List AOper}:zbg C (o :: rest) e σ=stepX C rest o.dst (zca o.op) e σ (zb0 o e σ):=by
 simp only [zbg,bindO,caseO,stepX]
 cases zb0 o e σ with
 | none=>rfl
 | some s =>
  cases s with
  | next e' σ'=>rfl
  | panic d=>rfl
  | call f az =>
   simp only [callX]
   cases C f az σ with
   | none=>rfl
   | some r=>obtain ⟨o,s⟩:=r; cases o <;> rfl
theorem zffb {ro:Option Nat}:exec C n ro .skip e σ=some (.normal,e,σ):=rfl
theorem zfdb {ro:Option Nat} {id:Nat}:exec C n ro (.exit id) e σ=some (.exit id,e,σ):=rfl
theorem zh4b {ro:Option Nat}:exec C n ro .ret e σ=some (.ret,e,σ):=rfl
theorem zccb {ro:Option Nat} {b:ACode}:exec C n ro (.scope b) e σ=zil (exec C n ro b e σ):=by
 rw [exec]
 unfold zil
 rfl
theorem zur:zil (some (.normal,e,σ))=some (.normal,e,σ):=rfl
theorem zzt {id:Nat}:zil (some (.exit id,e,σ))=some (.exit id,e,σ):=rfl
theorem zdqb:zil (some (.ret,e,σ))=some (.ret,e,σ):=rfl
theorem zw2 {d:D}:zil (some (.panic d,e,σ))=some (.panic d,e,σ):=rfl
theorem zyk {ro:Option Nat} {ops:List AOper} {p:Option (List Nat)} {clr:List Nat}:exec C n ro (.region ops p clr) e σ=opsX p clr (zbg C ops e σ):=by
 rw [exec]
 unfold opsX
 cases zbg C ops e σ with
 | none=>rfl
 | some r=>cases r <;> rfl
theorem zvh {ro:Option Nat} {a b:ACode}:exec C n ro (.seq a b) e σ=thenX (exec C n ro a e σ) (exec C n ro b):=by
 rw [exec]
 unfold thenX
 cases exec C n ro a e σ with
 | none=>rfl
 | some r=>obtain ⟨x,e',σ'⟩:=r; cases x <;> rfl
theorem zfcb {ro:Option Nat} {c:AOpd} {t f:ACode}:exec C n ro (.cond c t f) e σ=bindO (opd e c) fun c=>bindO c.d.bool? fun b=>ifB b (exec C n ro t e σ) (exec C n ro f e σ):=by rw [exec]
theorem zcbb {ro:Option Nat} {id:Nat} {b:ACode}:exec C n ro (.block id b) e σ=zfe id (exec C n ro b e σ):=by
 rw [exec]
 unfold zfe
 cases exec C n ro b e σ with
 | none=>rfl
 | some r=>obtain ⟨x,e',σ'⟩:=r; cases x <;> rfl
theorem zfeb {ro:Option Nat} {b:ACode}:exec C n ro (.loop b) e σ=loopN (exec C n ro b) n e σ:=by rw [exec]
end
def zrg (l:Nat) (e:Env) (x:Option (Out × Store)):XRes:=match x with
 | some (.ret _,σ)=>endLoop l e σ
 | _=>none
@[congr] theorem zonb (l:Nat) (e:Env) {x y:Option (Out × Store)} (h:x=y):zrg l e x=zrg l e y:=by rw [h]
theorem zrh {l:Nat} {e:Env} {c:Cell} {σ:Store}:zrg l e (some (.ret c,σ))=endLoop l e σ:=rfl
theorem zoz {C:CallF} {n:Nat} {e:Env} {σ:Store} {ro:Option Nat} {g:AOpd} {ps:List Nat} {a b:ACode}:exec C n ro (.rangeF g ps a b) e σ=bindO (opd e g) fun c=>bindO c.d.fnF? fun f =>
  bindO (enterLoop ro ⟨snap e.slots,ps,a,b,.ready⟩ e σ) fun x=>zrg x.1 x.2.1 (C f.1 (f.2.1 ++ [.yld x.1] ++ f.2.2) x.2.2):=by
 rw [exec]
 simp only [bindO]
 congr 1
 funext c
 congr 1
 funext f
 congr 1
 funext x
 cases C f.1 (f.2.1 ++ [.yld x.1] ++ f.2.2) x.2.2 with
 | none=>rfl
 | some r=>obtain ⟨o,s⟩:=r; cases o <;> rfl
def finX (R:RecF) (C:CallF) (af:AFun) (m:Nat) (x:XRes):Option (Out × Store):=match x with
 | some r=>zfh R C false af m r
 | none=>none
@[congr] theorem zo7b (R:RecF) (C:CallF) (af:AFun) (m:Nat) {x y:XRes} (h:x=y):finX R C af m x=finX R C af m y:=by rw [h]
def resX (af:AFun) (m:Nat) (e:Env) (r:Option (Option D × Store)):Option (Out × Store):=match r with
 | some (none,σ)=>bindO (zdi e σ af.res) fun c=>some (.ret c,ifB af.gc (σ.trunc m) σ)
 | _=>none
def resP (af:AFun) (m:Nat) (e:Env) (r:Option (Option D × Store)):Option (Out × Store):=match r with
 | some (none,σ)=>bindO (zdi e σ af.res) fun c=>some (.ret c,ifB af.gc (σ.trunc m) σ)
 | some (some d,σ)=>some (.panic d,ifB af.gc (σ.trunc m) σ)
 | none=>none
@[congr] theorem zpab (af:AFun) (m:Nat) (e:Env) {x y:Option (Option D × Store)} (h:x=y):resX af m e x=resX af m e y:=by rw [h]
@[congr] theorem zo9b (af:AFun) (m:Nat) (e:Env) {x y:Option (Option D × Store)} (h:x=y):resP af m e x=resP af m e y:=by rw [h]
section
variable {R:RecF} {C:CallF} {af:AFun} {m:Nat} {e:Env} {σ:Store}
theorem zh5b:finX R C af m (some (.ret,e,σ))=resX af m e (zbm R C none e.defers σ):=by
 simp only [finX,zfh,Bool.false_and,zab,resX,bindO]
 cases zbm R C none e.defers σ with
 | none=>rfl
 | some r=>obtain ⟨x,s⟩:=r; cases x <;> rfl
theorem zym:finX R C af m (some (.normal,e,σ))=resX af m e (zbm R C none e.defers σ):=by
 simp only [finX,zfh,Bool.false_and,zab,resX,bindO]
 cases zbm R C none e.defers σ with
 | none=>rfl
 | some r=>obtain ⟨x,s⟩:=r; cases x <;> rfl
theorem zceb {d:D}:finX R C af m (some (.panic d,e,σ))=resP af m e (zbm R C (some d) e.defers σ):=by
 simp only [finX,zfh,Bool.false_and,zab,resP,bindO]
 cases zbm R C (some d) e.defers σ with
 | none=>rfl
 | some r=>obtain ⟨x,s⟩:=r; cases x <;> rfl
theorem zuo {d:Option D}:zbm R C d [] σ=some (d,σ):=rfl
theorem zgsb:resX af m e (some (none,σ))=bindO (zdi e σ af.res) fun c=>some (.ret c,ifB af.gc (σ.trunc m) σ):=rfl
theorem zgqb:resP af m e (some (none,σ))=bindO (zdi e σ af.res) fun c=>some (.ret c,ifB af.gc (σ.trunc m) σ):=rfl
theorem zgrb {d:D}:resP af m e (some (some d,σ))=some (.panic d,ifB af.gc (σ.trunc m) σ):=rfl
end
section
variable {Γ:FuncId→Option AFun} {R:RecF} {X:CallF}
theorem zi9b {n:Nat} {f:FuncId} {af:AFun} {ds:List D} {σ:Store} (h:Γ f=some af) (hl:ds.length=af.nargs):runQ Γ R X (n + 1) false f ds σ=finX R (runQ Γ R X n true) af σ.next (exec (runQ Γ R X n false) n none af.body (zbb ds) σ):=by
 rw [runQ,h]
 simp only [hl,beq_self_eq_true,zac]
 unfold finX
 cases exec (runQ Γ R X n false) n none af.body (zbb ds) σ <;> rfl
theorem zw0 {n:Nat} {f:FuncId} {ds:List D} {σ:Store} (h:Γ f=none) (hY:isY f=false):runQ Γ R X (n + 1) false f ds σ=X f ds σ:=by
 rw [runQ,h]
 simp only [zab,hY]
theorem zjab {n:Nat} {f:FuncId} {ds:List D} {σ:Store} (h:Γ f=none) (hY:isY f=true):runQ Γ R X (n + 1) false f ds σ=runY (runQ Γ R X n false) n (f - zbl) ds σ:=by
 rw [runQ,h]
 simp only [zab,zac,hY]
end
section
variable {b:Bool} {k:IntKind} {n:Int} {s:List UInt8} {ds a cs:List D} {f:FuncId} {t:TypeId} {d:D} {r:RowK}
theorem bool?_bool:(D.bool b).bool?=some b:=rfl
theorem bool?_undef:(D.undef).bool?=none:=rfl
theorem int?_int:(D.int k n).int?=some (k,n):=rfl
theorem str?_str:(D.str s).str?=some s:=rfl
theorem tup?_tup:(D.tup ds).tup?=some ds:=rfl
theorem fn?_fn (h:isY f=false):(D.fn (.func f) a cs).fn?=some (f,a,cs):=by simp only [D.fn?,h,zab]
theorem fnF?_fn (h:isY f=false):(D.fn (.func f) a cs).fnF?=some (f,a,cs):=by simp only [D.fnF?,h,zab]
theorem fn?_yld {id:Nat}:(D.yld id).fn?=some (zbl + id,[],[]):=rfl
theorem agg?_agg:(D.agg cs).agg?=some cs:=rfl
theorem row?_list:(D.list r cs).row?=some (r,cs):=rfl
theorem isNil?_iface:(D.iface t d).isNil?=some false:=rfl
theorem isNil?_nil:(D.niliface).isNil?=some true:=rfl
theorem ze0b:(D.agg cs).cells=cs:=rfl
theorem ze2b:(D.int k n).cells=[D.int k n]:=rfl
theorem zb0b:(D.bool b).cells=[D.bool b]:=rfl
theorem ze5b:(D.str s).cells=[D.str s]:=rfl
theorem zb4b:(D.nils).cells=[D.nils]:=rfl
theorem zb2b:(D.list r cs).cells=[D.list r cs]:=rfl
theorem zb3b:(D.nilp).cells=[D.nilp]:=rfl
theorem ze4b {i o:Nat}:(D.ptr i o).cells=[D.ptr i o]:=rfl
theorem zx9:(D.iface t d).cells=[D.iface t d]:=rfl
theorem zhxb {g:Fn}:(D.fn g a cs).cells=[D.fn g a cs]:=rfl
theorem zya:(D.nilfn).cells=[D.nilfn]:=rfl
theorem zry:(D.niliface).cells=[D.niliface]:=rfl
theorem zlub:(D.agg cs).one=false:=rfl
theorem zlwb:(D.int k n).one=true:=rfl
theorem zixb:(D.bool b).one=true:=rfl
theorem zlzb:(D.str s).one=true:=rfl
theorem zi1b:(D.nils).one=true:=rfl
theorem zizb:(D.list r cs).one=true:=rfl
theorem zi0b:(D.nilp).one=true:=rfl
theorem zlyb {i o:Nat}:(D.ptr i o).one=true:=rfl
theorem zgdb:(D.iface t d).one=true:=rfl
theorem zwr:(D.niliface).one=true:=rfl
theorem zojb {g:Fn}:(D.fn g a cs).one=true:=rfl
theorem zgeb:(D.nilfn).one=true:=rfl
theorem zodb:(D.agg cs).ok=true:=rfl
theorem zofb:(D.int k n).ok=true:=rfl
theorem zlpb:(D.bool b).ok=true:=rfl
theorem zoib:(D.str s).ok=true:=rfl
theorem zltb:(D.nils).ok=true:=rfl
theorem zlrb:(D.list r cs).ok=true:=rfl
theorem zlsb:(D.nilp).ok=true:=rfl
theorem zohb {i o:Nat}:(D.ptr i o).ok=true:=rfl
theorem zivb:(D.iface t d).ok=true:=rfl
theorem zy7:(D.niliface).ok=true:=rfl
theorem ok_fn {g:Fn}:(D.fn g a cs).ok=true:=rfl
theorem ziwb:(D.nilfn).ok=true:=rfl
theorem ze1b {i o l:Nat}:(D.arr r i o l).cells=[D.arr r i o l]:=rfl
theorem zb1b:D.empt.cells=[D.empt]:=rfl
theorem ze3b {i:Nat}:(D.map i).cells=[D.map i]:=rfl
theorem zva:D.nilmap.cells=[D.nilmap]:=rfl
theorem zlvb {i o l:Nat}:(D.arr r i o l).one=true:=rfl
theorem ziyb:D.empt.one=true:=rfl
theorem zlxb {i:Nat}:(D.map i).one=true:=rfl
theorem zdcb:D.nilmap.one=true:=rfl
theorem zoeb {i o l:Nat}:(D.arr r i o l).ok=true:=rfl
theorem zlqb:D.empt.ok=true:=rfl
theorem zogb {i:Nat}:(D.map i).ok=true:=rfl
theorem zgab:D.nilmap.ok=true:=rfl
theorem zf2b {i o l:Nat}:lenOf (.arr r i o l)=some l:=rfl
theorem zcvb:lenOf .empt=some 0:=rfl
theorem zxz:zbp .empt=some []:=rfl
theorem zyy:(D.nils).isNilS?=some true:=rfl
theorem zctb {i o l:Nat}:(D.arr r i o l).isNilS?=some false:=rfl
theorem zvx:(dlist r cs).isNilS?=some cs.isEmpty:=by cases cs <;> rfl
theorem zcqb:D.nilmap.isNilM?=some true:=rfl
theorem zcpb {i:Nat}:(D.map i).isNilM?=some false:=rfl
theorem zy3 {os:List (Nat × List Cell)}:zbq os .nils=some []:=rfl
theorem zy1 {os:List (Nat × List Cell)}:zbq os .empt=some []:=rfl
theorem zy2 {os:List (Nat × List Cell)}:zbq os (.list r cs)=some cs:=rfl
theorem zeu {os:List (Nat × List Cell)}:zbq os (dlist r cs)=some cs:=by cases cs <;> rfl
theorem zcrb:D.nilp.isNilP?=some true:=rfl
theorem zcsb {i o:Nat}:(D.ptr i o).isNilP?=some false:=rfl
theorem zyw:(D.eptr d).isNilP?=some false:=rfl
theorem zcj:(dlist r cs).one=true:=by cases cs <;> rfl
theorem zgu:(dlist r cs).ok=true:=by cases cs <;> rfl
theorem zel:(dlist r cs).cells=[dlist r cs]:=by cases cs <;> rfl
theorem zs5:dlist r []=.nils:=rfl
theorem zcxb:lenOf .nils=some 0:=rfl
theorem zcwb:lenOf (.list r cs)=some cs.length:=rfl
theorem zy0:lenOf (dlist r cs)=some cs.length:=by cases cs <;> rfl
theorem zx0:zbp .nils=some []:=rfl
theorem zct:zbp (.list r cs)=some cs:=rfl
theorem zdx:zbp (dlist r cs)=some cs:=by cases cs <;> rfl
theorem nat?_nat {i:Nat}:D.nat? (.int k (i:Int))=some i:=by
 simp [D.nat?,zac]
theorem nat?_zero:D.nat? (.int k 0)=some 0:=rfl
theorem zgob {i o:Nat}:ptrOf (.ptr i o)=some (.ptr i o):=rfl
theorem zdhb:ptrOf (.eptr d)=some (.eptr d):=rfl
theorem zdib:ptrOf .nilp=none:=rfl
end
section
variable {o o' b:Bool} {k:IntKind} {n:Int} {s:List UInt8} {ds:List D} {kr:RowK} {r:List Cell} {dr:List D}
theorem zvk:zbz []=false:=rfl
theorem zvj:zbz (⟨o,.int k n⟩ :: r)=zbz r:=rfl
theorem zt2:zbz (⟨o,.bool b⟩ :: r)=zbz r:=rfl
theorem zvl:zbz (⟨o,.str s⟩ :: r)=zbz r:=rfl
theorem zt5:zbz (⟨o,.nils⟩ :: r)=zbz r:=rfl
theorem zt4:zbz (⟨o,.list kr ds⟩ :: r)=o:=rfl
theorem zt3:zbz [⟨o,dlist kr ds⟩]=(!ds.isEmpty && o):=by cases ds <;> rfl
theorem zd8b:zb7 []=[]:=rfl
theorem zd7b:zb7 (⟨o,.int k n⟩ :: r)=⟨o,.int k n⟩ :: zb7 r:=rfl
theorem zacb:zb7 (⟨o,.bool b⟩ :: r)=⟨o,.bool b⟩ :: zb7 r:=rfl
theorem zd9b:zb7 (⟨o,.str s⟩ :: r)=⟨o,.str s⟩ :: zb7 r:=rfl
theorem zaeb:zb7 (⟨o,.nils⟩ :: r)=⟨o,.nils⟩ :: zb7 r:=rfl
theorem zadb:zb7 [⟨o,dlist kr ds⟩]=[⟨ds.isEmpty && o,dlist kr ds⟩]:=by cases ds <;> rfl
theorem zijb:layA o []=[]:=rfl
theorem ziib:layA o (.int k n :: dr)=⟨false,.int k n⟩ :: layA o dr:=rfl
theorem zfxb:layA o (.bool b :: dr)=⟨false,.bool b⟩ :: layA o dr:=rfl
theorem zikb:layA o (.str s :: dr)=⟨false,.str s⟩ :: layA o dr:=rfl
theorem zf0b:layA o (.nils :: dr)=⟨false,.nils⟩ :: layA o dr:=rfl
theorem zfzb:layA o (.list kr ds :: dr)=⟨o,.list kr ds⟩ :: dr.map Cell.of:=rfl
theorem zfyb:layA o [dlist kr ds]=[⟨!ds.isEmpty && o,dlist kr ds⟩]:=by cases ds <;> rfl
end
theorem zoq {α β:Type} (f:α→β):∀ (l:List α) (i:Nat),nth (l.map f) i=(nth l i).map f
 | [],_=>rfl
 | _ :: _,0=>rfl
 | _ :: l,i + 1=>zoq f l i
theorem zop {α:Type}:∀ (l:List α) (i:Nat) (h:i < l.length),nth l i=some (l[i])
 | x :: l,0,_=>rfl
 | _ :: l,i + 1,h=>zop l i (by simpa using h)
theorem zov {sz:Nat}:∀ {ds:List D},(∀ d∈ds,d.ok=true∧d.cells.length=sz)→za3 sz ds=true
 | [],_=>rfl
 | d :: r,h=>by
  obtain ⟨h1,h2⟩:=h d (List.mem_cons_self ..)
  simp only [za3,h1,h2,beq_self_eq_true,Bool.true_and]
  exact zov fun x hx=>h x (List.mem_cons_of_mem _ hx)
theorem zbjb {r:RowK} {by_:Nat} {es:List D} {o:Bool} {y:D} (ho:es≠[]→o=true) (hy1:y.ok=true) (hy2:y.cells.length=r.sz) (h1:(es.length + 1) * by_≤bound) (h2:es.length + 1≤bound) :
  za5 r by_ ⟨o,dlist r es⟩ [y]=some ⟨true,dlist r (es ++ [y])⟩:=by
 have hm:zef r ⟨o,dlist r es⟩=true:=by
  cases es with
  | nil=>rfl
  | cons x l=>simp [zef,dlist,ho (by simp),RowK.same]
 have hj:zet r (dlist r es) [y]=dlist r (es ++ [y]):=by
  cases es <;> rfl
 simp only [za5,zdx,zct,hm,hj,za3,hy1,hy2,bindO,zad,List.length_cons,List.length_nil,Nat.zero_add,decide_eq_true h1,decide_eq_true h2,beq_self_eq_true,Bool.and_self,zac]
theorem zh2 {r:RowK} {by_:Nat} {es ys:List D} {o:Bool} (ho:es≠[]→o=true) (hy:∀ d∈ys,d.ok=true∧d.cells.length=r.sz) (h1:(es.length + ys.length) * by_≤bound) (h2:es.length + ys.length≤bound) :
  za5 r by_ ⟨o,dlist r es⟩ ys=some ⟨true,dlist r (es ++ ys)⟩:=by
 have hm:zef r ⟨o,dlist r es⟩=true:=by
  cases es with
  | nil=>rfl
  | cons x l=>simp [zef,dlist,ho (by simp),RowK.same]
 have hj:zet r (dlist r es) ys=dlist r (es ++ ys):=by
  cases es <;> rfl
 simp only [za5,zdx,hm,hj,zov hy,bindO,zad,decide_eq_true h1,decide_eq_true h2,Bool.and_self,zac]
def Evly (p:Nat→Prop):Prop:=∃ n0,∀ n,n0≤n→p n
theorem Evly.all {p:Nat→Prop} (h:∀ n,p n):Evly p:=⟨0,fun n _=>h n⟩
theorem Evly.and {p q:Nat→Prop} (h:Evly p) (k:Evly q):Evly fun n=>p n∧q n:=by
 obtain ⟨a,ha⟩:=h
 obtain ⟨b,hb⟩:=k
 exact ⟨max a b,fun n hn=>⟨ha n (by omega),hb n (by omega)⟩⟩
theorem Evly.mono {p q:Nat→Prop} (h:Evly p) (k:∀ n,p n→q n):Evly q:=by
 obtain ⟨a,ha⟩:=h
 exact ⟨a,fun n hn=>k n (ha n hn)⟩
theorem Evly.step {p q:Nat→Prop} (h:Evly p) (k:Nat) (s:∀ n,k≤n→p n→q (n + 1)):Evly q:=by
 obtain ⟨a,ha⟩:=h
 refine ⟨max a k + 1,fun n hn=>?_⟩
 obtain ⟨m,rfl⟩:∃ m,n=m + 1:=⟨n - 1,by omega⟩
 exact s m (by omega) (ha m (by omega))
theorem Evly.list {α:Type} (l:List α) {p:α→Nat→Prop} (h:∀ x∈l,Evly (p x)):Evly fun n=>∀ x∈l,p x n:=by
 induction l with
 | nil=>exact .all fun n x hx=>by cases hx
 | cons a l ih =>
  refine ((h a (List.mem_cons_self ..)).and (ih fun x hx=>h x (List.mem_cons_of_mem _ hx))).mono fun n hn x hx=>?_
  rcases List.mem_cons.1 hx with e | k
  ·rw [e]; exact hn.1
  ·exact hn.2 x k
theorem Evly.below {p:Nat→Nat→Prop}:∀ (k:Nat),(∀ i,i < k→Evly (p i))→Evly fun n=>∀ i,i < k→p i n
 | 0,_=>.all fun n i hi=>by omega
 | k + 1,h=>((Evly.below k fun i hi=>h i (by omega)).and (h k (by omega))).mono fun n hn i hi=>by
  by_cases hik:i=k
  ·rw [hik]; exact hn.2
  ·exact hn.1 i (by omega)
theorem za6 {body:Env→Store→XRes} (E:Nat→Env) (S:Nat→Store) (k:Nat) {r:AExit × Env × Store} (hr:∀ e σ,r≠(.normal,e,σ)) (hstep:∀ i,i < k→body (E i) (S i)=some (.normal,E (i + 1),S (i + 1))) (hend:body (E k) (S k)=some r) :
  ∀ (j n:Nat),j≤k→k < n + j→loopN body n (E j) (S j)=some r
 | j,0,h1,h2=>by omega
 | j,n + 1,h1,h2=>by
  rw [loopN]
  by_cases hj:j=k
  ·rw [hj,hend]
   obtain ⟨x,e,σ⟩:=r
   cases x with
   | normal=>exact absurd rfl (hr e σ)
   | _=>rfl
  ·rw [hstep j (by omega)]
   exact za6 E S k hr hstep hend (j + 1) n (by omega) (by omega)
theorem zfn {body:Env→Store→XRes} (E:Nat→Env) (S:Nat→Store) (k:Nat) (p:Nat→Bool) {r:AExit × Env × Store} (stop:Nat→AExit × Env × Store) (hr:∀ e σ,r≠(.normal,e,σ)) (hs:∀ i e σ,stop i≠(.normal,e,σ))
  (hstep:∀ i,i < k→p i=true→body (E i) (S i)=some (.normal,E (i + 1),S (i + 1))) (hstop:∀ i,i < k→p i=false→body (E i) (S i)=some (stop i)) (hend:body (E k) (S k)=some r) :
  ∀ (n j:Nat),j≤k→k < n + j→(∃ i,j≤i∧i < k∧p i=false∧(∀ i',j≤i'→i' < i→p i'=true)∧loopN body n (E j) (S j)=some (stop i))∨((∀ i,j≤i→i < k→p i=true)∧loopN body n (E j) (S j)=some r)
 | 0,j,h1,h2=>by omega
 | n + 1,j,h1,h2=>by
  rw [loopN]
  by_cases hj:j=k
  ·refine .inr ⟨fun i h3 h4=>by omega,?_⟩
   rw [hj,hend]
   obtain ⟨x,e,σ⟩:=r
   cases x with
   | normal=>exact absurd rfl (hr e σ)
   | _=>rfl
  ·cases hp:p j with
   | false =>
    refine .inl ⟨j,by omega,by omega,hp,fun i' h3 h4=>by omega,?_⟩
    rw [hstop j (by omega) hp]
    cases hst:stop j with
    | mk x y =>
    obtain ⟨e,σ⟩:=y
    cases x with
    | normal=>exact absurd hst (hs j e σ)
    | _=>rfl
   | true =>
    rw [hstep j (by omega) hp]
    rcases zfn E S k p stop hr hs hstep hstop hend n (j + 1) (by omega) (by omega) with ⟨i,h3,h4,h5,h6,h7⟩ | ⟨h3,h4⟩
    ·refine .inl ⟨i,by omega,h4,h5,fun i' h8 h9=>?_,h7⟩
     by_cases hij:i'=j
     ·rw [hij]; exact hp
     ·exact h6 i' (by omega) h9
    ·refine .inr ⟨fun i h5 h6=>?_,h4⟩
     by_cases hij:i=j
     ·rw [hij]; exact hp
     ·exact h3 i (by omega) h6
end Go.Mx

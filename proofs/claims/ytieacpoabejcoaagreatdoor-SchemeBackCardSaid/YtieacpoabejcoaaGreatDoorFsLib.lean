/-
 The library's contracts,laid over this program,in the machine's words.
-/
import Derived.Test.YtieacpoabejcoaaGreatDoorFsIds
import Derived.Test.YtieacpoabejcoaaGreatDoorFsCopy
import Derived.Test.YtieacpoabejcoaaGreatDoorFsString
import Derived.Test.YtieacpoabejcoaaGreatDoorFsRun
import Derived.Test.YtieacpoabejcoaaGreatDoorMyFrame
set_option maxHeartbeats 4000000
set_option linter.unusedSimpArgs false
set_option linter.unusedVariables false
set_option linter.unusedSectionVars false
namespace Go.Fu
open Go Go.Mx
theorem gTab:Go.Proofs.Tryz.prog.globalNamed "internal/strconv.uint64pow10"=some 0:=by kernel_rfl
def κ:Ctx where
 n:=0 + 1
 K:=fun w=>Lib.TabIs Go.Proofs.Tryz.prog w "internal/strconv.uint64pow10" .u64 Lib.pow10Tab
 stable:=fun w w' h k=>by
  unfold Lib.TabIs World.var? at k ⊢
  rw [gTab] at k ⊢
  simp only [Option.bind_some] at k ⊢
  rw [h 0 (by omega)]
  exact k
theorem zbib:∀ (k n:Nat) (acc:List UInt8),n < 10 ^ k→digF k n acc=if k=0 then acc else Lib.decDigits n ++ acc
 | 0,n,acc,_=>rfl
 | k + 1,n,acc,h=>by
  rw [if_neg (by omega)]
  unfold digF
  by_cases h10:n < 10
  ·simp only [h10,decide_true,zac]
   rw [Lib.decDigits,dif_pos h10]
   rfl
  ·simp only [h10,decide_false,zad]
   have hk:n / 10 < 10 ^ k:=by
    rw [Nat.div_lt_iff_lt_mul (by omega)]
    rw [Nat.pow_succ] at h
    exact h
   have hk0:k≠0:=by
    intro e
    subst e
    simp at hk
    omega
   rw [zbib k (n / 10) _ hk,if_neg hk0,Lib.decDigits.eq_def n,dif_neg h10]
   simp
theorem zbjb {n:Nat} (h:n < 10 ^ 20):digN n=Lib.decDigits n:=by
 unfold digN
 rw [zbib 20 n [] h]
 simp
theorem zjdb {n:Int} (h:inI64 n=true):itoaN n=Lib.itoa n:=by
 simp only [inI64,Bool.and_eq_true,decide_eq_true_eq] at h
 cases n with
 | ofNat m =>
  have h2:(m:Int)≤9223372036854775807:=h.2
  simp only [itoaN,Lib.itoa]
  rw [if_neg (by simp),zbjb (by omega)]
  rfl
 | negSucc m =>
  have h1:-9223372036854775808≤Int.negSucc m:=h.1
  simp only [itoaN,Lib.itoa]
  rw [if_pos (Int.negSucc_lt_zero m),zbjb (by omega)]
  rfl
theorem repL1 {ι:Imm} {j:Lay} {d:D} {vs:List Value} (h:RepL ι j [d] vs):∃ v,vs=[v]∧Rep ι j d v:=by
 simp only [RepL] at h
 obtain ⟨x,r,rfl,h1,rfl⟩:=h
 exact ⟨x,rfl,h1⟩
theorem repL2 {ι:Imm} {j:Lay} {d d':D} {vs:List Value} (h:RepL ι j [d,d'] vs):∃ v v',vs=[v,v']∧Rep ι j d v∧Rep ι j d' v':=by
 simp only [RepL] at h
 obtain ⟨x,r,rfl,h1,y,r',rfl,h2,rfl⟩:=h
 exact ⟨x,y,rfl,h1,h2⟩
theorem zl6b {ds:List D} {d:D} (h:xItoa ds=some d) (σ:Store):zdk Go.Proofs.Tryz.prog κ 33 ds σ (.ret ⟨false,d⟩) σ:=by
 unfold xItoa at h
 split at h
 ·rename_i n
  obtain ⟨h1,h⟩:=zae h
  cases h
  refine zhob rfl ⟨_,_,Go.Proofs.Tryz.func33,by kernel_rfl,rfl⟩ (fun ι j own w vs hB hG hr=>?_)
  obtain ⟨v,rfl,hv⟩:=repL1 hr
  simp only [Rep] at hv
  subst hv
  have hb:=h1
  simp only [inI64,Bool.and_eq_true,decide_eq_true_eq] at hb
  refine (Go.Proofs.Tryz.strconv_Itoa n hb.1 hb.2 w hB.K).mono ?_
  rintro e w' ⟨rfl,k,os,rfl⟩
  refine ⟨_,rfl,?_,by simp only [Rep]; rw [zjdb h1]⟩
  have hd:RowKit.Below w.heap.size w (w.drewN k):=⟨rfl,rfl,rfl,Nat.le_refl _,fun _ _=>rfl⟩
  refine hd.trans ⟨rfl,rfl,rfl,by simp [Sort.grow],fun i hi=>?_⟩
  show (w.heap ++ os)[i]?=w.heap[i]?
  rw [Array.getElem?_append_left hi]
 ·cases h
theorem zxy {w:World} {b:Nat} {vs:List Value} {T:TypeId} (h:w.heap[b]?=some (.cells ⟨vs⟩ T (0,0))) (v:Value):(w.setCell ⟨b,0,none⟩ v).heap[b]?=some (.cells ⟨vs.set 0 v⟩ T (0,0)):=by
 have hlt:=(Array.getElem?_eq_some_iff.1 h).1
 have hv:=(Array.getElem?_eq_some_iff.1 h).2
 simp only [World.setCell,Array.getElem?_modify,if_true,h,Option.map_some]
 simp
theorem zl4b {ds:List D} {σ σ':Store} {out:Out} (h:xCopy ds σ=some (out,σ')):zdk Go.Proofs.Tryz.prog κ 160 ds σ out σ':=by
 refine (zcd (show isY 160=false from rfl)).2 ⟨⟨_,_,Go.Proofs.Tryz.func160,by kernel_rfl,rfl⟩,fun ι j own w vs hS hB hG hr=>?_⟩
 unfold xCopy at h
 split at h
 ·rename_i id
  obtain ⟨t,h1,ha⟩:=zaa h
  obtain ⟨h2,hb⟩:=zae ha
  obtain ⟨cs,h3,hc⟩:=zaa hb
  clear h ha hb
  have ht:t.t=t_12:=by simpa using h2
  obtain ⟨v,rfl,hv⟩:=repL1 hr
  simp only [Rep] at hv
  obtain ⟨b,hjb,rfl⟩:=hv
  obtain ⟨b',hjb',hown,row,T,hheap,hlen,hcell⟩:=hG.objs id cs h3
  rw [hjb] at hjb'
  cases hjb'
  obtain ⟨row',hrow',_⟩:=hG.tys id t cs h1 h3 b hjb
  rw [ht,hheap] at hrow'
  cases hrow'
  split at hc
  ·rename_i c0 c1
   obtain ⟨v0,hv0,_,hr0,_⟩:=hcell 0 c0 rfl
   have hc0:w.cell? ⟨b,0,none⟩=some v0:=by
    rw [cell_of_row w b 0 _ _ _ hheap]
    simpa using hv0
   split at hc
   ·rename_i hd
    cases hc
    rw [hd] at hr0
    simp only [Rep] at hr0
    subst hr0
    have hl:2≤row.length:=by simpa using hlen
    have hsh:w.shape? b=some (t_12,row.length):=by simp [World.shape?,hheap]
    have hfz:w.frozen? ⟨b,0,none⟩=false:=Lib.frozen_of_heap hheap 0
    refine (zq1 b w hc0 hl hsh hfz).mono ?_
    rintro e w' ⟨rfl,rfl⟩
    have hnew:=zxy hheap (.pointer (some ⟨b,0,none⟩))
    have hrest:∀ k,k≠b→(w.setCell ⟨b,0,none⟩ (.pointer (some ⟨b,0,none⟩))).heap[k]?=w.heap[k]?:=fun k hk=>RowKit.Below.heap_setCell w ⟨b,0,none⟩ _ k hk
    have hcl:∀ (i:Nat) (c:Cell),[(⟨false,.ptr id 0⟩:Cell),c1][i]?=some c→∃ v,(row.set 0 (.pointer (some ⟨b,0,none⟩)))[i]?=some v∧v.oneCell'=true∧zcw ι j own (w.setCell ⟨b,0,none⟩ (.pointer (some ⟨b,0,none⟩))) (.ocell id i) c v:=by
     intro i c hi
     match i with
     | 0 =>
      simp only [List.getElem?_cons_zero,Option.some.injEq] at hi
      subst hi
      refine ⟨_,List.getElem?_set_self (by omega),rfl,?_,fun h=>by cases h⟩
      simp only [Rep]
      exact ⟨b,hjb,rfl⟩
     | 1 =>
      obtain ⟨v1,q1,q2,q3,q4⟩:=hcell 1 c1 rfl
      simp only [List.getElem?_cons_succ,List.getElem?_cons_zero,Option.some.injEq] at hi
      subst hi
      exact ⟨v1,by rw [List.getElem?_set_ne (by omega)]; exact q1,q2,q3,fun ho=>zdq (B:=b) (by rw [hown]; intro h; cases h) hrest (q4 ho)⟩
     | n + 2=>simp at hi
    obtain ⟨g1,g2⟩:=hG.setObj (w':=w.setCell ⟨b,0,none⟩ (.pointer (some ⟨b,0,none⟩))) h3 hjb hown rfl rfl rfl (by simp [World.setCell]) hrest hheap hnew (by simpa using hl) (by simp) hcl
    exact ⟨ι,j,own,g1,g2.weaken (fun _ _=>trivial),hS,by simp [Rep,RepL],fun h=>by cases h⟩
   ·rename_i id' hd
    obtain ⟨h4,hc⟩:=zae hc
    cases hc
    have hid:id'=id:=by simpa using h4
    subst hid
    rw [hd] at hr0
    simp only [Rep] at hr0
    obtain ⟨b2,hjb2,rfl⟩:=hr0
    rw [hjb] at hjb2
    cases hjb2
    refine (zfrb b w hc0).mono ?_
    rintro e w' ⟨rfl,rfl⟩
    exact ⟨ι,j,own,hG,Evo.refl _ _ _ _ _,hS,by simp [Rep,RepL],fun h=>by cases h⟩
   ·cases hc
  ·cases hc
 ·cases h
theorem zzn {w:World} {g n:Nat} {cur:Array Value} {T:TypeId} (h:w.heap[g]?=some (.cells cur T (0,0))):∃ fr,(w.freeze ⟨g,0,none⟩ n).heap[g]?=some (.cells cur T fr):=by
 unfold World.freeze
 split
 ·exact ⟨_,h⟩
 ·simp only [Array.getElem?_modify,if_true,h,Option.map_some]
  exact ⟨_,rfl⟩
theorem zwf {w:World} {g n b:Nat} (hb:b≠g):(w.freeze ⟨g,0,none⟩ n).heap[b]?=w.heap[b]?:=by
 unfold World.freeze
 split
 ·rfl
 ·simp only [Array.getElem?_modify]
  rw [if_neg (fun e=>hb e.symm)]
theorem zwe {w:World} {g n:Nat}:(w.freeze ⟨g,0,none⟩ n).os=w.os∧(w.freeze ⟨g,0,none⟩ n).tape=w.tape∧(w.freeze ⟨g,0,none⟩ n).output=w.output∧(w.freeze ⟨g,0,none⟩ n).heap.size=w.heap.size:=by
 unfold World.freeze
 split
 ·exact ⟨rfl,rfl,rfl,rfl⟩
 ·exact ⟨rfl,rfl,rfl,by simp⟩
theorem zdbb {ι:Imm} {j:Lay} {own:Own} {σ:Store} {w w':World} {g id:Nat} {c0 c1:Cell} {cur:Array Value} {T:TypeId} {fr:Nat × Nat} (hG:GSim ι j own σ w) (hg:w.heap[g]?=some (.cells cur T (0,0))) (hown:own g=some (.ocell id 1))
  (hcs:aget σ.objs id=some [c0,c1]) (h1:w'.heap[g]?=some (.cells cur T fr)) (hoth:∀ b,b≠g→w'.heap[b]?=w.heap[b]?) (hos:w'.os=w.os) (ht:w'.tape=w.tape) (hout:w'.output=w.output) (hsz:w'.heap.size=w.heap.size) :
  ∃ own',GSim ι j own' {σ with objs:=aset σ.objs id [c0,⟨false,c1.d⟩]} w'∧Evo ι j own w ι j own' w' (fun _=>True)∧(zdv own→zdv own'):=by
 classical
 let own':Own:=fun b=>if b=g then none else own b
 have hsub:∀ b t,own' b=some t→own b=some t∧b≠g:=by
  intro b t h
  by_cases hb:b=g
  ·simp only [own',if_pos hb] at h; cases h
  ·simp only [own',if_neg hb] at h; exact ⟨h,hb⟩
 have hkeep:∀ b t,own b=some t→t≠.ocell id 1→own' b=some t∧b≠g:=by
  intro b t h hne
  have hb:b≠g:=fun e=>by subst e; rw [hown] at h; cases h; exact hne rfl
  exact ⟨by simp only [own',if_neg hb]; exact h,hb⟩
 have hown':∀ {t:Tag} {d:D} {v:Value},t≠.ocell id 1→Owned ι own w t d v→Owned ι own' w' t d v:=by
  intro t d v hne k
  unfold Owned at k ⊢
  cases hp:prin d v with
  | none=>trivial
  | some p =>
   rw [hp] at k
   rcases k with k | ⟨b,g0,cap,cur',T',k1,k2,k3,k4⟩
   ·exact .inl k
   ·obtain ⟨q1,q2⟩:=hkeep b t k2 hne
    exact .inr ⟨b,g0,cap,cur',T',k1,q1,(hoth b q2).trans k3,k4⟩
 refine ⟨own',⟨fun b o v h=>?_,fun b t h hu=>hG.noimm b t (hsub b t h).1 hu,fun id' cs h=>?_,fun id' t cs k1 k2 b hb=>?_,fun id' x h=>?_,hG.jlt,fun b t h=>by rw [hsz]; exact hG.ownlt b t (hsub b t h).1⟩,
  ⟨hos,ht,hout,Nat.le_of_eq hsz.symm,fun _ _ _ h=>h,fun _ _ h=>h,fun b hb hn=>?_⟩,fun hS b t h=>hS b t (hsub b t h).1⟩
 ·by_cases hb:b=g
  ·subst hb
   have:=hG.holds b o v h
   rw [cell_of_row w b o cur T (0,0) hg] at this
   rw [cell_of_row w' b o cur T fr h1]
   exact this
  ·rw [World.cell?_of_block (w:=w) (w':=w') (a:=⟨b,o,none⟩) (hoth b hb)]
   exact hG.holds b o v h
 ·have hex:∃ cs0,aget σ.objs id'=some cs0∧cs0.length=cs.length∧∀ (i:Nat) (c:Cell),cs[i]?=some c→∃ c0,cs0[i]?=some c0∧c0.d=c.d∧(c.own=true→c0.own=true∧Tag.ocell id' i≠.ocell id 1):=by
   simp only [zak] at h
   by_cases hid:id=id'
   ·subst hid
    rw [if_pos rfl] at h
    cases h
    refine ⟨_,hcs,rfl,fun i c hi=>?_⟩
    match i with
    | 0 =>
     simp only [List.getElem?_cons_zero,Option.some.injEq] at hi
     subst hi
     exact ⟨c0,rfl,rfl,fun ho=>⟨ho,by simp⟩⟩
    | 1 =>
     simp only [List.getElem?_cons_succ,List.getElem?_cons_zero,Option.some.injEq] at hi
     subst hi
     exact ⟨c1,rfl,rfl,fun ho=>by cases ho⟩
    | n + 2=>simp at hi
   ·rw [if_neg hid] at h
    exact ⟨cs,h,rfl,fun i c hi=>⟨c,hi,rfl,fun ho=>⟨ho,fun e=>by cases e; exact hid rfl⟩⟩⟩
  obtain ⟨cs0,e1,e2,e3⟩:=hex
  obtain ⟨b,q1,q2,vs,T',r1,r2,r3⟩:=hG.objs id' cs0 e1
  obtain ⟨k1,k2⟩:=hkeep b _ q2 (by simp)
  refine ⟨b,q1,k1,vs,T',(hoth b k2).trans r1,by omega,fun i c hi=>?_⟩
  obtain ⟨c0',f1,f2,f3⟩:=e3 i c hi
  obtain ⟨v,s1,s2,s3,s4⟩:=r3 i c0' f1
  exact ⟨v,s1,s2,f2 ▸ s3,fun ho=>f2 ▸ hown' (f3 ho).2 (s4 (f3 ho).1)⟩
 ·have hex:∃ cs0,aget σ.objs id'=some cs0:=by
   simp only [zak] at k2
   split at k2
   ·rename_i hh; subst hh; exact ⟨_,hcs⟩
   ·exact ⟨cs,k2⟩
  obtain ⟨cs0,e1⟩:=hex
  have hty:=hG.tys id' t cs0 k1 e1 b hb
  obtain ⟨B2,q1,q2,_⟩:=hG.objs id' cs0 e1
  rw [hb] at q1
  cases q1
  exact hty.keep (hoth b (hkeep b _ q2 (by simp)).2) (fun _ _ h=>h)
 ·obtain ⟨b,q1,q2,q3⟩:=hG.oth id' x h
  obtain ⟨k1,k2⟩:=hkeep b _ q2 (by simp)
  exact ⟨b,q1,k1,q3.keep (hoth b k2) (fun _ _ _ h=>h) (fun _ _ h=>h)⟩
 ·have hbg:b≠g:=fun e=>by subst e; exact hn _ hown trivial
  exact ⟨hoth b hbg,by simp only [own',if_neg hbg],fun _=>rfl⟩
theorem ze8b {ds:List D} {σ σ':Store} {out:Out} (h:ztp ds σ=some (out,σ')):zdk Go.Proofs.Tryz.prog κ 132 ds σ out σ':=by
 refine (zcd (show isY 132=false from rfl)).2 ⟨⟨_,_,Go.Proofs.Tryz.func132,by kernel_rfl,rfl⟩,fun ι j own w vs hS hB hG hr=>?_⟩
 unfold ztp at h
 split at h
 ·rename_i id
  obtain ⟨t,h1,ha⟩:=zaa h
  obtain ⟨h2,hb⟩:=zae ha
  obtain ⟨cs,h3,hc⟩:=zaa hb
  clear h ha hb
  have ht:t.t=t_12:=by simpa using h2
  obtain ⟨v,rfl,hv⟩:=repL1 hr
  simp only [Rep] at hv
  obtain ⟨b,hjb,rfl⟩:=hv
  obtain ⟨b',hjb',hown,row,T,hheap,hlen,hcell⟩:=hG.objs id cs h3
  rw [hjb] at hjb'
  cases hjb'
  obtain ⟨row',hrow',_⟩:=hG.tys id t cs h1 h3 b hjb
  rw [ht,hheap] at hrow'
  cases hrow'
  split at hc
  ·rename_i c0 c1
   split at hc
   ·rename_i k es hd
    obtain ⟨h4,hc⟩:=zae hc
    obtain ⟨s,h5,hc⟩:=zaa hc
    cases hc
    simp only [Bool.and_eq_true,Bool.not_eq_true',List.isEmpty_eq_false_iff] at h4
    obtain ⟨⟨ho,hk⟩,hne⟩:=h4
    obtain ⟨hk1,hk2⟩:k.el=5∧k.sz=1:=by simpa [zty,k_37] using hk
    obtain ⟨b1,b2⟩:=zkc h5
    obtain ⟨v0,q0,_⟩:=hcell 0 c0 rfl
    obtain ⟨v1,q1,_,q3,q4⟩:=hcell 1 c1 rfl
    have hO:=q4 ho
    rw [hd] at hO q3
    simp only [Rep] at q3
    obtain ⟨ad,cap,hv1,hle,hmax,hrow⟩:=q3
    obtain ⟨g0,o0,hg0,hrr⟩:=hrow.resolve_left hne
    simp only [Owned] at hO
    obtain ⟨g,gz,cap',cur,T',e1,e2,e3,⟨e4,e5,e7⟩,e6⟩:=hO.resolve_left (fun ⟨_,_,h⟩=>hne (h hk1))
    have hz:=e7 hk1
    subst hz
    rw [Nat.zero_add] at e5
    rw [hv1,hg0] at e1
    simp only [Value.slice.injEq,Option.some.injEq,Addr.mk.injEq,and_true,true_and] at e1
    obtain ⟨⟨rfl,rfl⟩,rfl⟩:=e1
    rw [hk1] at e4
    subst e4
    rw [hk2] at e5 hrr
    obtain ⟨rest,hrow2⟩:∃ rest,row=v0 :: v1 :: rest:=by
     have hl:2≤row.length:=by simpa using hlen
     match row,hl with
     | x :: y :: r,_ =>
      simp at q0 q1
      exact ⟨r,by rw [q0,q1]⟩
    have hs0:s≠[]:=by
     intro e
     subst e
     exact hne (List.eq_nil_of_length_eq_zero b1.symm)
    have hbk:w.heap[b]?=some (.cells ⟨v0 :: .slice (some ⟨g0,0,none⟩) s.length cap :: rest⟩ t_12 (0,0)):=by
     rw [hheap,hrow2,hv1,hg0,b1]
    refine (zaub b g0 cap v0 rest cur s w hs0 hbk e3 (by omega) hmax e5 (fun jx x hx=>?_)).mono ?_
    ·obtain ⟨u,r1,_,r3⟩:=hrr.at jx _ (b2 jx x hx)
     simp only [Rep] at r3
     subst r3
     have:=hG.holds _ _ _ (r1 0 (.int .u8 x.toNat) rfl)
     simpa using this
    ·rintro e w' ⟨rfl,rfl⟩
     obtain ⟨fr,hfr⟩:=zzn (w:=w.drew) (g:=g0) (n:=s.length) (show w.drew.heap[g0]?=some (.cells cur 5 (0,0)) from e3)
     obtain ⟨f1,f2,f3,f4⟩:=zwe (w:=w.drew) (g:=g0) (n:=s.length)
     obtain ⟨own',g1,g2,g3⟩:=zdbb hG e3 e2 h3 hfr (fun b hb=>zwf (w:=w.drew) hb) f1 f2 f3 f4
     rw [hd] at g1
     refine ⟨ι,j,own',?_,g2,g3 hS,by simp only [Rep],fun h=>by cases h⟩
     rw [hd]
     exact g1
   ·cases hc
  ·cases hc
 ·cases h
end Go.Fu

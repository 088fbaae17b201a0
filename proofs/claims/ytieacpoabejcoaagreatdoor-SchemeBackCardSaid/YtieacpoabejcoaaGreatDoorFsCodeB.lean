/-
 A fresh builder's Grow,walked: the whole method.
-/
import Derived.Test.YtieacpoabejcoaaGreatDoorFsGrow
import Derived.Test.YtieacpoabejcoaaGreatDoorFsLib
import Derived.Test.YtieacpoabejcoaaGreatDoorFsOk
set_option maxHeartbeats 4000000
set_option linter.unusedSimpArgs false
set_option linter.unusedVariables false
set_option linter.unusedSectionVars false
namespace Go.Fu
open Go Go.RowKit Go.Proofs
set_option maxHeartbeats 2000000 in
set_option maxRecDepth 1000000 in
theorem ze9b (b n:Nat) (rest:List Value) (w:World) (hbk:w.heap[b]?=some (.cells ⟨.pointer none :: .slice none 0 0 :: rest⟩ t_12 (0,0))) (h0:0 < n) (hn:n≤1099511627776) :
  Calls Go.Proofs.Tryz.prog 130 #[.pointer (some ⟨b,0,none⟩),.int .i64 n] w fun e w'=>e=.returned (.tuple #[])∧Grown b rest (w.setCell ⟨b,0,none⟩ (.pointer (some ⟨b,0,none⟩))).drew w':=by
 have hbk1:(w.setCell ⟨b,0,none⟩ (.pointer (some ⟨b,0,none⟩))).heap[b]?=some (.cells ⟨.pointer (some ⟨b,0,none⟩) :: .slice none 0 0 :: rest⟩ t_12 (0,0)):=by
  simp [World.setCell,Array.getElem?_modify,hbk]
 have c1:(w.setCell ⟨b,0,none⟩ (.pointer (some ⟨b,0,none⟩))).cell? ⟨b,1,none⟩=some (.slice none 0 0):=by rw [Lib.cell_of_heap hbk1]; rfl
 have mixed:Go.Proofs.Tryz.prog.follows .mixedOrders=true:=by kernel_rfl
 have e240:∀ args w,(callFunc 160 args).run Go.Proofs.Tryz.prog w=.ok (.enter 160 args) w:=enters_of Go.Proofs.Tryz.func160 (by kernel_rfl) rfl
 have e241:∀ args w,(callFunc 161 args).run Go.Proofs.Tryz.prog w=.ok (.enter 161 args) w:=enters_of Go.Proofs.Tryz.func161 (by kernel_rfl) rfl
 go_enter Go.Proofs.Tryz.func130,Go.Proofs.Tryz.ntmps130
 have c1':(w.setCell ⟨b,0,none⟩ (.pointer (some ⟨b,0,none⟩))).drew.cell? ⟨b,1,none⟩=some (.slice none 0 0):=c1
 have f1:¬ ((n:Int) < 0):=by omega
 have f2:(0:Int) < (n:Int):=by omega
 go_wp2_with (go_at_fn 160; refine (zq1 b w (by rw [Lib.cell_of_heap hbk]; rfl) (n:=rest.length + 2) (by omega) (by simp [World.shape?,hbk]) (Lib.frozen_of_heap hbk 0)).mono ?_; rintro e w' ⟨rfl,rfl⟩)
 go_region_o
 all_goals go_wp2_with (go_at_fn 161; refine (zf4b b n rest (w.setCell ⟨b,0,none⟩ (.pointer (some ⟨b,0,none⟩))).drew hbk1 hn).mono ?_; rintro e w' ⟨rfl,h1⟩)
 all_goals first
  | (go_end0; exact ⟨rfl,h1⟩)
  | (exfalso; omega)
  | (go_end0; exfalso; simp_all; omega)
end Go.Fu
namespace Go.Fu
open Go Go.Mx
theorem zf5b {ι:Imm} {j:Lay} {own:Own} {σ:Store} {w w1 w':World} {b id:Nat} {cs0:List Cell} {cur:List Value} {rest:List Value} {T:TypeId} (hG:GSim ι j own σ w) (hcs:aget σ.objs id=some cs0) (hjb:j id=some b) (hown:own b=some (.obj id))
  (hlen:cur.length=rest.length + 2) (hT:T=t_12) (h0:w.heap[b]?=some (.cells ⟨cur⟩ T (0,0))) (hos:w1.os=w.os) (ht:w1.tape=w.tape) (hout:w1.output=w.output) (hsz:w1.heap.size=w.heap.size) (hw1:∀ k,k≠b→w1.heap[k]?=w.heap[k]?) (hg:Grown b rest w1 w') :
  ∃ own',GSim ι j own' {σ with objs:=aset σ.objs id [⟨false,.ptr id 0⟩,⟨true,.list k_37 []⟩]} w'∧Evo ι j own w ι j own' w' (fun _=>True)∧(zdv own→zdv own'):=by
 subst hT
 obtain ⟨g1,g2,g3,g4,g5,cs,g6,g7,g8⟩:=hg
 rw [hsz] at g4 g5 g7 g8
 have hblt:b < w.heap.size:=(Array.getElem?_eq_some_iff.1 h0).1
 let own':Own:=fun x=>if x=w.heap.size then some (.ocell id 1) else own x
 have hnew:own' w.heap.size=some (.ocell id 1):=if_pos rfl
 have hold:∀ x,x < w.heap.size→own' x=own x:=fun x hx=>if_neg (by omega)
 have hoth:∀ x,x < w.heap.size→x≠b→w'.heap[x]?=w.heap[x]?:=fun x hx hne=>(g5 x hx hne).trans (hw1 x hne)
 have hE:Evo ι j own w ι j own' w' (fun t=>t=.obj id):=⟨g1.trans hos,g2.trans ht,g3.trans hout,Nat.le_of_lt g4,fun _ _ _ h=>h,fun _ _ h=>h,fun x hx hn=>⟨hoth x hx (fun e=>hn _ (e ▸ hown) rfl),hold x hx,fun _=>rfl⟩⟩
 have hnoimm:∀ o,ι w.heap.size o=none:=fun o=>by
  cases hi:ι w.heap.size o with
  | none=>rfl
  | some v=>have:=ze3 hG hi; omega
 refine ⟨own',⟨fun x o v h=>?_,fun x t h hu o=>?_,fun id' cs2 h=>?_,fun id' t cs2 k1 k2 x hx=>?_,fun id' y h=>?_,hG.jlt,fun x t h=>?_⟩,hE.weaken fun _ _=>trivial,fun hS x t h=>?_⟩
 ·have hne:x≠b:=fun e=>by
   rw [e,hG.noimm b _ hown rfl o] at h
   cases h
  rw [World.cell?_of_block (w:=w) (w':=w') (a:=⟨x,o,none⟩) (hoth x (ze3 hG h) hne)]
  exact hG.holds x o v h
 ·by_cases hx:x=w.heap.size
  ·subst hx
   exact hnoimm o
  ·simp only [own',if_neg hx] at h
   exact hG.noimm x t h hu o
 ·simp only [zak] at h
  by_cases hid:id=id'
  ·subst hid
   rw [if_pos rfl] at h
   cases h
   refine ⟨b,hjb,(hold b hblt).trans hown,_,_,g8,by simp,fun i c hi=>?_⟩
   match i with
   | 0 =>
    simp only [List.getElem?_cons_zero,Option.some.injEq] at hi
    subst hi
    refine ⟨_,rfl,rfl,?_,fun h=>by cases h⟩
    simp only [Rep]
    exact ⟨b,hjb,rfl⟩
   | 1 =>
    simp only [List.getElem?_cons_succ,List.getElem?_cons_zero,Option.some.injEq] at hi
    subst hi
    refine ⟨_,rfl,rfl,?_,fun _=>?_⟩
    ·simp only [Rep]
     exact ⟨_,_,rfl,Nat.zero_le _,g6,.inl trivial⟩
    ·simp only [zed,zfv]
     exact .inr ⟨w.heap.size,0,cs.size,cs,_,rfl,hnew,g7,⟨rfl,by simp [k_37],fun _=>rfl⟩,fun o _=>hnoimm o⟩
   | n + 2=>simp at hi
  ·rw [if_neg hid] at h
   obtain ⟨B2,q1,q2,q3⟩:=hG.objs id' cs2 h
   exact ⟨B2,q1,(hold B2 (hG.ownlt _ _ q2)).trans q2,hE.boxRel q2 (fun h=>by cases h; exact hid rfl) (fun _ _ _ _ h=>by cases h) q3⟩
 ·have hex:∃ c0,aget σ.objs id'=some c0:=by
   simp only [zak] at k2
   split at k2
   ·rename_i hh; subst hh; exact ⟨cs0,hcs⟩
   ·exact ⟨cs2,k2⟩
  obtain ⟨c0,hc0⟩:=hex
  have hty:=hG.tys id' t c0 k1 hc0 x hx
  by_cases hxB:x=b
  ·subst hxB
   obtain ⟨row,hrow,hsz2⟩:=hty
   have hrc:=hrow
   rw [h0] at hrc
   simp only [Option.some.injEq,Obj.cells.injEq] at hrc
   obtain ⟨rfl,hrc,_⟩:=hrc
   refine ⟨_,hrc ▸ g8,fun hp=>?_⟩
   obtain ⟨c,e1,e2,e3⟩:=hsz2 hp
   refine ⟨c,e1,?_,e3⟩
   rw [← e2]
   show (rest.length + 2)=cur.length
   rw [hlen]
  ·obtain ⟨B2,q1,q2,_⟩:=hG.objs id' c0 hc0
   rw [hx] at q1
   cases q1
   exact hty.keep (hoth x (hG.ownlt _ _ q2) hxB) (fun _ _ h=>h)
 ·obtain ⟨B2,q1,q2,q3⟩:=hG.oth id' y h
  have hbB:B2≠b:=fun e=>by
   subst e
   exact q3.notCells h0
  exact ⟨B2,q1,(hold B2 (hG.ownlt _ _ q2)).trans q2,q3.keep (hoth B2 (hG.ownlt _ _ q2) hbB) (fun _ _ _ h=>h) (fun _ _ h=>h)⟩
 ·by_cases hx:x=w.heap.size
  ·subst hx; exact g4
  ·simp only [own',if_neg hx] at h
   exact Nat.lt_trans (hG.ownlt x t h) g4
 ·by_cases hx:x=w.heap.size
  ·simp only [own',if_pos hx,Option.some.injEq] at h
   subst h
   rfl
  ·simp only [own',if_neg hx] at h
   exact hS x t h
theorem zl5b {ds:List D} {σ σ':Store} {out:Out} (h:xGrow ds σ=some (out,σ')):zdk Go.Proofs.Tryz.prog κ 130 ds σ out σ':=by
 refine (zcd (show isY 130=false from rfl)).2 ⟨⟨_,_,Go.Proofs.Tryz.func130,by kernel_rfl,rfl⟩,fun ι j own w vs hS hB hG hr=>?_⟩
 unfold xGrow at h
 split at h
 ·rename_i id n
  obtain ⟨t,h1,hb⟩:=zaa h
  obtain ⟨h2,hc⟩:=zae hb
  obtain ⟨cs,h3,hd⟩:=zaa hc
  clear h hb hc
  simp only [Bool.and_eq_true,beq_iff_eq,decide_eq_true_eq] at h2
  obtain ⟨⟨ht,hn0⟩,hn⟩:=h2
  obtain ⟨v,v',rfl,hv,hv'⟩:=repL2 hr
  simp only [Rep] at hv
  obtain ⟨b,hjb,rfl⟩:=hv
  obtain ⟨b',hjb',hown,row,T,hheap,hlen,hcell⟩:=hG.objs id cs h3
  rw [hjb] at hjb'
  cases hjb'
  obtain ⟨row',hrow',_⟩:=hG.tys id t cs h1 h3 b hjb
  rw [ht,hheap] at hrow'
  cases hrow'
  simp only [Rep] at hv'
  subst hv'
  split at hd
  ·rename_i c0 c1
   split at hd
   ·rename_i hd0 hd1
    cases hd
    obtain ⟨v0,q0,_,r0,_⟩:=hcell 0 c0 rfl
    obtain ⟨v1,q1,_,r1,_⟩:=hcell 1 c1 rfl
    rw [hd0] at r0
    rw [hd1] at r1
    simp only [Rep] at r0 r1
    subst r0 r1
    obtain ⟨rest,hrow2⟩:∃ rest,row=.pointer none :: .slice none 0 0 :: rest:=by
     have hl:2≤row.length:=by simpa using hlen
     match row,hl with
     | x :: y :: r,_ =>
      simp at q0 q1
      exact ⟨r,by rw [q0,q1]⟩
    rw [hrow2] at hheap
    refine (ze9b b n rest w hheap hn0 hn).mono ?_
    rintro e w' ⟨rfl,hg⟩
    obtain ⟨own',k1,k2,k3⟩:=zf5b (w1:=(w.setCell ⟨b,0,none⟩ (.pointer (some ⟨b,0,none⟩))).drew) hG h3 hjb hown (by simp) rfl hheap rfl rfl rfl (by simp [World.setCell,World.drew]) (fun k hk=>RowKit.Below.heap_setCell w ⟨b,0,none⟩ _ k hk) hg
    exact ⟨ι,j,own',k1,k2,k3 hS,by simp [Rep,RepL],fun h=>by cases h⟩
   ·cases hd
  ·cases hd
 ·cases h
theorem zps:zcm Go.Proofs.Tryz.prog κ Xa:=by
 intro f ds σ out σ' h
 unfold Xa at h
 by_cases h1:f=n_23
 ·subst h1
  simp only [beq_self_eq_true,zac] at h
  obtain ⟨d,h2,h⟩:=zaa h
  cases h
  exact zl6b h2 σ
 have e1:(f == n_23)=false:=by simpa using h1
 rw [e1,zad] at h
 by_cases h2:f=n_104
 ·subst h2
  simp only [beq_self_eq_true,zac] at h
  exact zl4b h
 have e2:(f == n_104)=false:=by simpa using h2
 rw [e2,zad] at h
 by_cases h3:f=n_124
 ·subst h3
  simp only [beq_self_eq_true,zac] at h
  exact ze8b h
 have e3:(f == n_124)=false:=by simpa using h3
 rw [e3,zad] at h
 by_cases h4:f=n_180
 ·subst h4
  simp only [beq_self_eq_true,zac] at h
  exact zl5b h
 have e4:(f == n_180)=false:=by simpa using h4
 rw [e4,zad] at h
 cases h
end Go.Fu
namespace Go.Fu
open Go Go.Mx
def zde:ACode:=(.seq (.region [mo 15 (.bin .lss (.tmp 14) (.tmp 13))] none []) (.seq (.cond (.tmp 15) .skip (.exit 0)) (.seq (.block 1 (.seq (.region [mo 16 (.indexAddr 5 (.tmp 12) (.tmp 14)),mo 17 (.load (some 5) false (.tmp 16)),
 mo 10 (.alloc [.str [],.int .i64 0,.int .i64 0,.str [],.nils]),⟨none,.store 5 (.tmp 10) (.mv 17),none⟩] none [15,16,17]) (.region [mw 18 8,mo 19 (.fieldAddr 0 none (.tmp 10)),mo 20 (.loadB 10 none (.tmp 19)),mo 21 (.fieldAddr 1 (some 4) (.tmp 10)),mo 22 (.loadB 10 (some 4) (.tmp 21)),
 mt 23 1,mt 24 2,mo 25 (.call n_26 [.tmp 22,.tmp 23,.tmp 24]),mo 26 (.build [.str [],.int .i64 0,.int .i64 0,.str [],.nils] [(0,1,(.tmp 20)),(1,4,(.tmp 25))]),mo 27 (.buildSlice k_1 [.tmp 26]),mo 28 (.append k_1 72 (.mv 18) (.tmp 27)),
 mw 8 28] (some [0,1,2,3,4,5,6,7,8,9,10,11]) [10,18,19,20,21,22,23,24,25,26,27,28]))) (.region [mo 29 (.bin .add (.tmp 14) (.const (.int .i64 1))),mw 14 29] none [29]))))
def zjh:AFun:={nargs:=3,ntmps:=36,res:=[.tmp 6,.cell 7 (some 4)],gc:=false,body:=(.seq (.region [mo 3 (.box (.tmp 0)),mo 6 (.mov (.const .nils)),mo 7 (.alloc [.int .i64 0,.int .i64 0,.str [],.nils])] none [0,6]) (.seq (.region [mo 8 (.mov (.const .nils))] none [])
 (.seq (.seq (.region [mo 11 (.fieldAddr 2 none (.tmp 3)),mo 12 (.load none false (.tmp 11)),mo 13 (.len (.tmp 12)),mo 14 (.mov (.const (.int .i64 0)))] none [11]) (.block 0 (.loop zde))) (.seq (.region [mw 30 8,mo 31 (.fieldAddr 3 (some 4) (.tmp 3)),
 mo 32 (.load (some 4) false (.tmp 31)),mw 33 1,mw 34 2,mo 35 (.call n_26 [.tmp 32,.tmp 33,.tmp 34]),mw 6 30,⟨none,.store 4 (.tmp 7) (.mv 35),none⟩] none [1,2,3,8,12,13,14,15,30,31,32,33,34,35]) .ret))))}
theorem zs8:okFun Go.Proofs.Tryz.prog Go.Proofs.Tryz.f37 zjh=true:=by kernel_rfl
end Go.Fu
namespace Go.Fu
open Go Go.Mx
def zcn:ACode:=(.seq (.seq (.region [mt 10 5,mt 11 1,mo 12 (.len (.tmp 11)),mo 13 (.bin .lss (.tmp 10) (.tmp 12))] none [10,11,12]) (.cond (.tmp 13) .skip (.exit 0))) (.seq (.block 1 (.seq (.region [mt 16 1,mt 17 5,mo 18 (.indexAddr 1 (.tmp 16) (.tmp 17)),
 mo 19 (.loadG none (.tmp 18)),mo 20 (.fieldAddr 1 none (.tmp 2)),mo 21 (.loadB 2 none (.tmp 20)),mo 22 (.bin .eql (.tmp 19) (.tmp 21))] (some [0,1,2,3,4,5,6]) [13,16,17,18,19,20,21]) (.cond (.tmp 22) (.seq (.region [mw 23 1,mw 4 23] none [1,2,5,22,23]) .ret) .skip))) (.region [
 mt 14 5,mo 15 (.bin .add (.tmp 14) (.const (.int .i64 1))),mw 5 15] none [14,15,22])))
def zb7:ACode:=(.seq (.seq (.region [mt 29 6,mo 30 (.fieldAddr 3 none (.tmp 2)),mo 31 (.load none false (.tmp 30)),mo 32 (.len (.tmp 31)),mo 33 (.bin .lss (.tmp 29) (.tmp 32))] none [29,30,31,32]) (.cond (.tmp 33) .skip (.exit 2))) (.seq (.block 3 (.region [
 mo 36 (.fieldAddr 3 none (.tmp 2)),mo 37 (.load none false (.tmp 36)),mt 38 6,mo 39 (.indexAddr 4 (.tmp 37) (.tmp 38)),mo 40 (.load (some 4) false (.tmp 39)),mt 41 1,mo 42 (.call n_102 [.tmp 40,.tmp 41]),mw 1 42] none [33,36,37,38,39,40,41,42])) (.region [mt 34 6,
 mo 35 (.bin .add (.tmp 34) (.const (.int .i64 1))),mw 6 35] none [34,35])))
def zcx:ACode:=(.seq (.region [mo 24 (.bin .lss (.tmp 23) (.tmp 22))] none []) (.seq (.cond (.tmp 24) .skip (.exit 0)) (.seq (.block 1 (.seq (.region [mo 25 (.indexAddr 5 (.tmp 21) (.tmp 23)),mo 26 (.load (some 5) false (.tmp 25)),
 mo 5 (.alloc [.str [],.int .i64 0,.int .i64 0,.str [],.nils]),⟨none,.store 5 (.tmp 5) (.mv 26),none⟩] none [24,25,26]) (.region [mt 27 3,mo 28 (.fieldAddr 1 (some 4) (.tmp 5)),mo 29 (.load (some 4) false (.tmp 28)),
 mo 30 (.call n_65 [.tmp 27,.tmp 29])] none [5,27,28,29,30]))) (.region [mo 31 (.bin .add (.tmp 23) (.const (.int .i64 1))),mw 23 31] none [31]))))
def zcy:ACode:=(.seq (.region [mo 41 (.bin .lss (.tmp 40) (.tmp 39))] none []) (.seq (.cond (.tmp 41) .skip (.exit 2)) (.seq (.block 3 (.seq (.region [mt 42 40,mo 43 (.indexAddr 1 (.tmp 38) (.tmp 40)),mo 44 (.load none false (.tmp 43)),mw 8 42,mw 9 44] none [41,42,43,44])
 (.seq (.region [mw 45 7,mo 46 (.fieldAddr 0 none (.tmp 6)),mo 47 (.load none false (.tmp 46)),mt 48 8,mo 49 (.indexAddr 1 (.tmp 47) (.tmp 48)),mo 50 (.load none false (.tmp 49)),mo 51 (.call n_32 [.tmp 50]),mo 52 (.buildSlice k_2 [.tmp 51]),
 mo 53 (.append k_2 56 (.mv 45) (.tmp 52)),mw 7 53] none [8,45,46,47,48,49,50,51,52,53]) (.seq (.region [mo 54 (.fieldAddr 1 none (.tmp 1)),mo 55 (.load none false (.tmp 54)),mo 56 (.len (.tmp 55)),mo 57 (.fieldAddr 0 none (.tmp 1)),mo 58 (.load none false (.tmp 57)),
 mo 59 (.len (.tmp 58)),mo 60 (.bin .eql (.tmp 56) (.tmp 59))] none [54,55,56,57,58,59]) (.cond (.tmp 60) (.region [mo 61 (.fieldAddr 1 none (.tmp 6)),mo 62 (.loadL none true (.tmp 61)),mo 63 (.fieldAddr 1 none (.tmp 1)),mo 64 (.loadB 1 none (.tmp 63)),mo 65 (.fieldAddr 0 none (.tmp 1)),
 mo 66 (.loadB 1 none (.tmp 65)),mt 67 9,mo 68 (.call n_66 [.tmp 66,.tmp 67]),mo 69 (.indexAddr 1 (.tmp 64) (.tmp 68)),mo 70 (.loadG (some 1) (.tmp 69)),mo 71 (.call n_222 [.tmp 70]),mo 72 (.buildSlice k_5 [.tmp 71]),
 mo 73 (.append k_5 24 (.mv 62) (.tmp 72)),mo 74 (.fieldAddr 1 none (.tmp 6)),⟨none,.storeB 6 1 (.tmp 74) (.mv 73),none⟩] (some [0,1,2,3,4,5,6,7,8,9,10,11,12,13,14]) [9,60,61,62,63,64,65,66,67,68,69,70,71,72,73,74]) .skip))))) (.region [
 mo 75 (.bin .add (.tmp 40) (.const (.int .i64 1))),mw 40 75] none [9,60,75]))))
def zbl:ACode:=(.seq (.region [mo 16 (.bin .lss (.tmp 15) (.tmp 14))] none []) (.seq (.cond (.tmp 16) .skip (.exit 0)) (.seq (.block 1 (.seq (.region [mo 17 (.indexAddr 1 (.tmp 13) (.tmp 15)),mo 18 (.load none false (.tmp 17)),mw 9 18] none [16,17,18]) (.region [
 mo 19 (.fieldAddr 0 none (.tmp 7)),mo 20 (.loadP none (.tmp 19)),mt 21 9,mo 22 (.callW [19] n_23 [.tmp 21]),mo 23 (.bin .add (.const (.str [116])) (.tmp 22)),mo 24 (.buildSlice k_0 [.tmp 23]),mo 25 (.appendA k_0 16 (.mv 20) (.tmp 24)),mo 26 (.fieldAddr 0 none (.tmp 7)),
 ⟨none,.storeP 1 (.tmp 26) (.tmp 25),none⟩] (some [0,1,2,3,4,5,6,7,8]) [9,19,20,21,22,23,24,25,26]))) (.region [mo 27 (.bin .add (.tmp 15) (.const (.int .i64 1))),mw 15 27] none [27]))))
def zbm:ACode:=(.seq (.region [mo 32 (.bin .lss (.tmp 31) (.tmp 30))] none []) (.seq (.cond (.tmp 32) .skip (.exit 2)) (.seq (.block 3 (.seq (.region [mo 33 (.indexAddr 5 (.tmp 29) (.tmp 31)),mo 34 (.load (some 5) false (.tmp 33)),
 mo 12 (.alloc [.str [],.int .i64 0,.int .i64 0,.str [],.nils]),⟨none,.store 5 (.tmp 12) (.mv 34),none⟩] none [32,33,34]) (.region [mo 35 (.fieldAddr 2 none (.tmp 7)),mo 36 (.loadP none (.tmp 35)),mo 37 (.fieldAddr 0 none (.tmp 12)),mo 38 (.loadB 12 none (.tmp 37)),mt 39 10,
 mo 40 (.fieldAddr 1 (some 4) (.tmp 12)),mo 41 (.loadB 12 (some 4) (.tmp 40)),mo 42 (.callvW [35] (.tmp 39) [.tmp 41]),mo 43 (.build [.str [],.int .i64 0,.int .i64 0,.str [],.nils] [(0,1,(.tmp 38)),(1,4,(.tmp 42))]),mo 44 (.buildSlice k_1 [.tmp 43]),
 mo 45 (.appendA k_1 72 (.mv 36) (.tmp 44)),mo 46 (.fieldAddr 2 none (.tmp 7)),⟨none,.storeP 1 (.tmp 46) (.tmp 45),none⟩] (some [0,1,2,3,4,5,6,7,8,9,10,11,12]) [12,35,36,37,38,39,40,41,42,43,44,45,46]))) (.region [mo 47 (.bin .add (.tmp 31) (.const (.int .i64 1))),
 mw 31 47] none [47]))))
def zbc:ACode:=(.seq (.region [mo 12 (.bin .lss (.tmp 11) (.tmp 10))] none []) (.seq (.cond (.tmp 12) .skip (.exit 0)) (.seq (.block 1 (.region [mw 13 4,mt 14 3,mo 15 (.callv (.tmp 14) []),mo 16 (.buildSlice k_0 [.tmp 15]),
 mo 17 (.append k_0 16 (.mv 13) (.tmp 16)),mw 4 17] none [12,13,14,15,16,17])) (.region [mo 18 (.bin .add (.tmp 11) (.const (.int .i64 1))),mw 11 18] none [18]))))
def za5:ACode:=(.seq (.region [mo 10 (.bin .lss (.tmp 9) (.tmp 8))] none []) (.seq (.cond (.tmp 10) .skip (.exit 0)) (.seq (.block 1 (.seq (.region [mo 11 (.indexAddr 1 (.tmp 7) (.tmp 9)),mo 12 (.load none false (.tmp 11)),mw 5 12] none [10,11,12]) (.seq (.region [
 mt 13 0,mo 14 (.nilCheck (.tmp 13)),mo 15 (.fieldAddr 0 none (.tmp 14)),mo 16 (.load none false (.tmp 15)),mt 17 5,mo 18 (.call n_9 [.tmp 16,.tmp 17]),mw 19 18,⟨some 20,.mov (.tmp 0),(some (19,true))⟩,⟨some 21,.nilCheck (.tmp 20),(some (19,true))⟩,
 ⟨some 22,.fieldAddr 2 none (.tmp 21),(some (19,true))⟩,⟨some 23,.load none false (.tmp 22),(some (19,true))⟩,⟨some 24,.mov (.tmp 5),(some (19,true))⟩,⟨some 25,.call n_9 [.tmp 23,.tmp 24],(some (19,true))⟩,⟨some 26,.un .not (.tmp 25),(some (19,true))⟩,
 mo 27 (.pick (.tmp 19) (.tmp 26) (.const (.bool false)))] none [13,14,15,16,17,18,19,20,21,22,23,24,25,26]) (.cond (.tmp 27) (.region [mt 28 0,mt 29 0,mo 30 (.nilCheck (.tmp 29)),mo 31 (.fieldAddr 2 none (.tmp 30)),mo 32 (.load none true (.tmp 31)),mt 33 5,
 mo 34 (.buildSlice k_0 [.tmp 33]),mo 35 (.append k_0 16 (.mv 32) (.tmp 34)),mo 36 (.nilCheck (.tmp 28)),mo 37 (.fieldAddr 2 none (.tmp 36)),⟨none,.store 1 (.tmp 37) (.mv 35),none⟩] none [5,27,28,29,30,31,32,33,34,35,36,37]) .skip)))) (.region [
 mo 38 (.bin .add (.tmp 9) (.const (.int .i64 1))),mw 9 38] none [5,27,38]))))
def zco:ACode:=(.seq (.region [mo 13 (.bin .lss (.tmp 12) (.tmp 11))] none []) (.seq (.cond (.tmp 13) .skip (.exit 0)) (.seq (.block 1 (.seq (.region [mo 14 (.indexAddr 5 (.tmp 10) (.tmp 12)),mo 15 (.load (some 5) false (.tmp 14)),
 mo 5 (.alloc [.str [],.int .i64 0,.int .i64 0,.str [],.nils]),⟨none,.store 5 (.tmp 5) (.mv 15),none⟩] none [13,14,15]) (.region [mw 16 3,mo 17 (.fieldAddr 1 (some 4) (.tmp 5)),mo 18 (.load (some 4) false (.tmp 17)),mo 19 (.call n_24 [.tmp 18]),
 mo 20 (.appendA k_0 16 (.mv 16) (.tmp 19)),mw 3 20] none [5,16,17,18,19,20]))) (.region [mo 21 (.bin .add (.tmp 12) (.const (.int .i64 1))),mw 12 21] none [21]))))
def za4:ACode:=(.seq (.region [mo 32 (.bin .lss (.tmp 31) (.tmp 30))] none []) (.seq (.cond (.tmp 32) .skip (.exit 0)) (.seq (.block 1 (.seq (.region [mt 33 31,mo 34 (.indexAddr 4 (.tmp 29) (.tmp 31)),mo 35 (.load (some 4) false (.tmp 34)),
 mo 9 (.alloc [.int .i64 0,.int .i64 0,.str [],.nils]),mw 8 33,⟨none,.store 4 (.tmp 9) (.mv 35),none⟩] none [32,33,34,35]) (.region [mo 36 (.fieldAddr 3 none (.tmp 3)),mo 37 (.loadB 3 none (.tmp 36)),mt 38 8,mo 39 (.loadB 9 (some 4) (.tmp 9)),mt 40 1,mt 41 2,
 mo 42 (.call n_31 [.tmp 39,.tmp 40,.tmp 41]),mo 43 (.indexAddr 4 (.tmp 37) (.tmp 38)),⟨none,.storeP 4 (.tmp 43) (.tmp 42),none⟩] (some [0,1,2,3,4,5,6,7,8]) [8,9,36,37,38,39,40,41,42,43]))) (.region [mo 44 (.bin .add (.tmp 31) (.const (.int .i64 1))),
 mw 31 44] none [44]))))
def zcc:ACode:=(.seq (.region [mo 25 (.bin .lss (.tmp 24) (.tmp 23))] none []) (.seq (.cond (.tmp 25) .skip (.exit 2)) (.seq (.block 3 (.seq (.region [mo 26 (.indexAddr 1 (.tmp 22) (.tmp 24)),mo 27 (.load none false (.tmp 26)),mw 7 27] none [25,26,27]) (.seq (.region [mt 28 3,
 mt 29 7,mo 30 (.call n_9 [.tmp 28,.tmp 29]),mo 31 (.un .not (.tmp 30)),mw 32 31,⟨some 33,.fieldAddr 0 none (.tmp 1),(some (32,true))⟩,⟨some 34,.load none false (.tmp 33),(some (32,true))⟩,⟨some 35,.bin .neq (.tmp 34) (.const (.int .i64 5)),(some (32,true))⟩,
 ⟨some 36,.mov (.mv 35),(some (32,true))⟩,⟨some 37,.mov (.tmp 7),(some (36,false))⟩,⟨some 38,.fieldAddr 2 none (.tmp 1),(some (36,false))⟩,⟨some 39,.load none false (.tmp 38),(some (36,false))⟩,⟨some 40,.bin .neq (.tmp 37) (.tmp 39),(some (36,false))⟩,
 ⟨some 41,.pick (.tmp 36) (.const (.bool true)) (.tmp 40),(some (32,true))⟩,mo 42 (.pick (.tmp 32) (.tmp 41) (.const (.bool false)))] none [28,29,30,31,32,33,34,35,36,37,38,39,40,41]) (.cond (.tmp 42) (.region [mw 43 3,mt 44 7,mo 45 (.buildA k_0 [.tmp 44]),
 mo 46 (.appendA k_0 16 (.mv 43) (.tmp 45)),mw 3 46] none [7,42,43,44,45,46]) .skip)))) (.region [mo 47 (.bin .add (.tmp 24) (.const (.int .i64 1))),mw 24 47] none [7,42,47]))))
def zb1:ACode:=(.seq (.region [mo 18 (.bin .lss (.tmp 17) (.tmp 16))] none []) (.seq (.cond (.tmp 18) .skip (.exit 0)) (.seq (.block 1 (.seq (.region [mo 19 (.indexAddr 4 (.tmp 15) (.tmp 17)),mo 20 (.load (some 4) false (.tmp 19)),
 mo 5 (.alloc [.int .i64 0,.int .i64 0,.str [],.nils]),⟨none,.store 4 (.tmp 5) (.mv 20),none⟩] none [18,19,20]) (.seq (.region [mo 21 (.load (some 4) false (.tmp 5)),mo 22 (.call n_24 [.tmp 21]),mo 23 (.len (.tmp 22)),mo 24 (.mov (.const (.int .i64 0)))] none [5,21])
 (.frz [.slot 22] (.block 2 (.loop zcc)))))) (.region [mo 48 (.bin .add (.tmp 17) (.const (.int .i64 1))),mw 17 48] none [22,23,24,25,48]))))
def zhj:AFun:={nargs:=1,ntmps:=5,res:=[.tmp 2],gc:=false,body:=(.seq (.region [mo 1 (.box (.tmp 0)),mo 2 (.mov (.const .nils))] none [0,2]) (.seq (.region [mo 3 (.load (some 4) false (.tmp 1)),mo 4 (.call n_102 [.tmp 3,(.const .nils)]),mw 2 4] none [1,3,4])
 (.frz [.slot 2] .ret)))}
def zb5:AFun:={nargs:=2,ntmps:=44,res:=[.tmp 4],gc:=false,body:=(.seq (.region [mo 2 (.box (.tmp 0)),mo 4 (.mov (.const .nils))] none [0,4]) (.seq (.seq (.region [mo 7 (.fieldAddr 0 none (.tmp 2)),mo 8 (.load none false (.tmp 7)),
 mo 9 (.bin .eql (.tmp 8) (.const (.int .i64 1)))] none [7,8]) (.cond (.tmp 9) (.seq (.seq (.region [mo 5 (.mov (.const (.int .i64 0)))] none [9]) (.block 0 (.loop zcn))) (.seq (.region [mw 24 1,mo 25 (.fieldAddr 1 none (.tmp 2)),mo 26 (.load none false (.tmp 25)),
 mo 27 (.buildSlice k_int [.tmp 26]),mo 28 (.appendA k_int 8 (.mv 24) (.tmp 27)),mw 4 28] none [1,2,5,13,24,25,26,27,28]) .ret)) .skip)) (.seq (.seq (.region [mo 6 (.mov (.const (.int .i64 0)))] none [9]) (.block 2 (.loop zb7))) (.seq (.region [mw 43 1,
 mw 4 43] none [1,2,6,33,43]) .ret))))}
def zfo:AFun:={nargs:=1,ntmps:=96,res:=[.cell 2 (some 7)],gc:=true,body:=(.seq (.region [mo 1 (.box (.tmp 0)),mo 2 (.alloc [.nils,.nils,.nils,.int .i64 0,.int .i64 0,.str [],.nils])] none [0]) (.seq (.region [mo 10 (.fieldAddr 0 none (.tmp 1)),
 mo 11 (.loadB 1 none (.tmp 10)),mo 12 (.loadB 1 (some 7) (.tmp 1)),mo 13 (.call n_177 [.tmp 12]),mo 14 (.build [.nils,.nils,.nils,.int .i64 0] [(0,1,(.tmp 11)),(1,1,(.tmp 13))]),mo 15 (.boxN 15 (.tmp 14)),
 mo 3 (.nilCheck (.tmp 15))] (some [0,1,2,3,4,5,6]) [10,11,12,13,14]) (.frz [.promote 15] (.seq (.region [mt 16 3,mo 17 (.fieldAddr 3 (some 4) (.tmp 1)),mo 18 (.load (some 4) false (.tmp 17)),mo 19 (.call n_65 [.tmp 16,.tmp 18])] none [16,17,18,19]) (.seq (.seq
 (.region [mo 20 (.fieldAddr 2 none (.tmp 1)),mo 21 (.load none false (.tmp 20)),mo 22 (.len (.tmp 21)),mo 23 (.mov (.const (.int .i64 0)))] none [20]) (.block 0 (.loop zcx))) (.seq (.region [mt 32 3,mo 33 (.call n_176 [.tmp 32]),
 mo 34 (.build [.nils,.nils,.nils,.int .i64 0,.int .i64 0,.str [],.nils] [(0,1,(.tmp 33))]),mo 6 (.alloc [.nils,.nils,.nils,.int .i64 0,.int .i64 0,.str [],.nils]),⟨none,.store 7 (.tmp 6) (.mv 34),none⟩] none [21,22,23,24,32,33,34]) (.seq (.region [
 mo 7 (.mov (.const .nils))] none []) (.seq (.seq (.region [mt 35 3,mo 36 (.nilCheck (.tmp 35)),mo 37 (.fieldAddr 2 none (.tmp 36)),mo 38 (.load none false (.tmp 37)),mo 39 (.len (.tmp 38)),mo 40 (.mov (.const (.int .i64 0)))] none [35,36,37]) (.block 2 (.loop zcy))) (.seq
 (.region [mo 77 (.loadB 1 (some 7) (.tmp 1)),mt 78 3,mo 79 (.nilCheck (.tmp 78)),mo 80 (.fieldAddr 2 none (.tmp 79)),mo 81 (.loadP none (.tmp 80)),mt 82 7,mo 83 (.call n_50 [.tmp 77,.tmp 81,.tmp 82]),mw 76 83,mo 84 (.extract (.tmp 76) 0),mo 85 (.extract (.tmp 76) 1),
 mo 86 (.fieldAddr 2 none (.tmp 6)),⟨none,.storeB 6 1 (.tmp 86) (.mv 84),none⟩,mo 87 (.fieldAddr 3 (some 4) (.tmp 6)),⟨none,.storeB 6 4 (.tmp 87) (.mv 85),none⟩] (some [0,1,2,3,4,5,6,7,8,9,10,11,12,13]) [1,3,7,38,39,40,41,76,77,78,79,80,81,82,83,84,85,86,87])
 (.seq (.region [mo 88 (.fieldAddr 2 none (.tmp 6)),mo 89 (.load none false (.tmp 88)),mo 90 (.call n_122 [.tmp 89,(.const (.fn (.func n_14) [] []))])] none [88,89,90]) (.seq (.region [mo 91 (.fieldAddr 2 none (.tmp 6)),mo 92 (.load none false (.tmp 91)),
 mo 93 (.call n_75 [.tmp 92,(.const (.fn (.func n_74) [] []))]),mo 94 (.fieldAddr 2 none (.tmp 6)),⟨none,.store 1 (.tmp 94) (.mv 93),none⟩] none [91,92,93,94]) (.frz [.box 6] (.seq (.region [mo 95 (.load (some 7) true (.tmp 6)),
 ⟨none,.store 7 (.tmp 2) (.mv 95),none⟩] none [6,95]) .ret)))))))))))))}
def zeh:AFun:={nargs:=3,ntmps:=53,res:=[.cell 6 (some 7)],gc:=true,body:=(.seq (.region [mo 3 (.gbox t_204 (.tmp 0)),mo 5 (.box (.tmp 2)),mo 6 (.alloc [.nils,.nils,.nils,.int .i64 0,.int .i64 0,.str [],.nils])] none [0,2]) (.seq (.region [
 mo 7 (.galloc t_52 [.nils,.nils,.nils,.int .i64 0,.int .i64 0,.str [],.nils])] none []) (.seq (.seq (.region [mo 13 (.load none false (.tmp 3)),mo 14 (.len (.tmp 13)),mo 15 (.mov (.const (.int .i64 0)))] none []) (.block 0 (.loop zbl))) (.frz [.obj 7] (.seq
 (.region [mo 28 (.mkFunc (.func n_48) [] [.tmp 3,.tmp 7]),mw 10 28] none [3,13,14,15,16,28]) (.seq (.seq (.region [mt 29 1,mo 30 (.len (.tmp 29)),mo 31 (.mov (.const (.int .i64 0)))] none [1]) (.block 2 (.loop zbm))) (.seq (.region [mt 48 10,
 mo 49 (.load (some 4) false (.tmp 5)),mo 50 (.callv (.tmp 48) [.tmp 49]),mo 51 (.fieldAddr 3 (some 4) (.tmp 7)),⟨none,.store 4 (.tmp 51) (.mv 50),none⟩] none [5,10,29,30,31,32,48,49,50,51]) (.frz [.obj 7] (.seq (.region [mo 52 (.load (some 7) true (.tmp 7)),
 ⟨none,.store 7 (.tmp 6) (.mv 52),none⟩] none [7,52]) .ret)))))))))}
def zcq:AFun:={nargs:=1,ntmps:=20,res:=[.tmp 2],gc:=true,body:=(.seq (.region [mo 1 (.gbox t_128 (.tmp 0)),mo 2 (.mov (.const .nils))] none [0,2]) (.seq (.region [mo 5 (.mkFunc (.func n_38) [] [.tmp 1]),
 mw 3 5] none [5]) (.seq (.region [mo 4 (.mov (.const .nils))] none []) (.seq (.seq (.region [mo 6 (.load none false (.tmp 1)),mo 7 (.nilCheck (.tmp 6)),mo 8 (.fieldAddr 2 none (.tmp 7)),mo 9 (.load none false (.tmp 8)),mo 10 (.len (.tmp 9)),
 mo 11 (.mov (.const (.int .i64 0)))] none [1,6,7,8,9]) (.block 0 (.loop zbc))) (.seq (.region [mw 19 4,mw 2 19] none [3,4,10,11,12,19]) .ret)))))}
def zc3:AFun:={nargs:=2,ntmps:=39,res:=[],gc:=true,body:=(.seq (.region [mo 3 (.box (.tmp 1))] none [1]) (.seq (.region [mo 6 (.load (some 4) false (.tmp 3)),mo 7 (.call n_24 [.tmp 6]),mo 8 (.len (.tmp 7)),
 mo 9 (.mov (.const (.int .i64 0)))] none [3,6]) (.frz [.slot 7] (.block 0 (.loop za5)))))}
def zfd:AFun:={nargs:=1,ntmps:=25,res:=[.tmp 2],gc:=true,body:=(.seq (.region [mo 1 (.gbox t_52 (.tmp 0)),mo 2 (.mov (.const .nils))] none [0,2]) (.seq (.region [mo 6 (.fieldAddr 3 (some 4) (.tmp 1)),mo 7 (.load (some 4) false (.tmp 6)),
 mo 8 (.call n_24 [.tmp 7]),mw 3 8] none [6,7,8]) (.seq (.seq (.region [mo 9 (.fieldAddr 2 none (.tmp 1)),mo 10 (.load none false (.tmp 9)),mo 11 (.len (.tmp 10)),mo 12 (.mov (.const (.int .i64 0)))] none [9]) (.block 0 (.loop zco))) (.seq (.region [mw 22 3,
 mo 23 (.mkFunc (.func n_16) [] [.tmp 1]),mo 24 (.call n_76 [.tmp 22,.tmp 23]),mw 2 24] none [1,3,10,11,12,13,22,23,24]) (.frz [.slot 2] .ret)))))}
def zbn:AFun:={nargs:=3,ntmps:=46,res:=[.cell 6 (some 4)],gc:=true,body:=(.seq (.region [mo 3 (.box (.tmp 0)),mo 6 (.alloc [.int .i64 0,.int .i64 0,.str [],.nils])] none [0]) (.seq (.seq (.region [mo 10 (.fieldAddr 0 none (.tmp 3)),
 mo 11 (.load none false (.tmp 10)),mo 12 (.bin .eql (.tmp 11) (.const (.int .i64 1)))] none [10,11]) (.cond (.tmp 12) (.seq (.region [mt 13 1,mo 14 (.fieldAddr 1 none (.tmp 3)),mo 15 (.load none false (.tmp 14)),mo 16 (.call n_121 [.tmp 13,.tmp 15]),
 mw 7 16] none [12,13,14,15,16]) (.seq (.region [mt 17 7,mo 18 (.bin .geq (.tmp 17) (.const (.int .i64 0)))] none [17]) (.cond (.tmp 18) (.seq (.region [mw 19 2,mw 20 7,mo 21 (.indexAddr 1 (.tmp 19) (.tmp 20)),mo 22 (.load none false (.tmp 21)),mo 23 (.call n_32 [.tmp 22]),
 ⟨none,.store 4 (.tmp 6) (.mv 23),none⟩] none [1,2,3,7,18,19,20,21,22,23]) .ret) .skip))) .skip)) (.seq (.region [mo 24 (.fieldAddr 3 none (.tmp 3)),mo 25 (.load none false (.tmp 24)),mo 26 (.call n_21 [.tmp 25]),mo 27 (.fieldAddr 3 none (.tmp 3)),
 ⟨none,.store 1 (.tmp 27) (.mv 26),none⟩] none [7,12,18,24,25,26,27]) (.seq (.seq (.region [mo 28 (.fieldAddr 3 none (.tmp 3)),mo 29 (.load none false (.tmp 28)),mo 30 (.len (.tmp 29)),mo 31 (.mov (.const (.int .i64 0)))] none [28]) (.block 0 (.loop za4)))
 (.frz [.box 3] (.seq (.region [mo 45 (.load (some 4) true (.tmp 3)),⟨none,.store 4 (.tmp 6) (.mv 45),none⟩] none [1,2,3,29,30,31,32,45]) .ret))))))}
def zcf:AFun:={nargs:=1,ntmps:=8,res:=[.tmp 2],gc:=false,body:=(.seq (.region [mo 2 (.mov (.const .nils))] none [2]) (.seq (.seq (.region [mt 3 0,mo 4 (.isNilS .eql (.tmp 3))] none [3]) (.cond (.tmp 4) (.seq (.region [mo 2 (.mov (.const .nils))] none [0,4])
 .ret) .skip)) (.seq (.region [mo 5 (.buildA k_2 []),mw 6 0,mo 7 (.appendA k_2 56 (.mv 5) (.tmp 6)),mw 2 7] none [0,4,5,6,7]) .ret)))}
def zci:AFun:={nargs:=1,ntmps:=50,res:=[.tmp 2],gc:=false,body:=(.seq (.region [mo 1 (.box (.tmp 0)),mo 2 (.mov (.const .nils))] none [0,2]) (.seq (.seq (.region [mo 8 (.fieldAddr 0 none (.tmp 1)),mo 9 (.load none false (.tmp 8)),
 mo 10 (.bin .eql (.tmp 9) (.const (.int .i64 2)))] none [8,9]) (.cond (.tmp 10) (.seq (.region [mo 11 (.fieldAddr 2 none (.tmp 1)),mo 12 (.load none false (.tmp 11)),mo 13 (.buildA k_0 [.tmp 12]),mw 2 13] none [1,10,11,12,13]) .ret) .skip)) (.seq (.region [
 mo 3 (.mov (.const .nils))] none [10]) (.seq (.seq (.region [mo 14 (.fieldAddr 3 none (.tmp 1)),mo 15 (.load none false (.tmp 14)),mo 16 (.len (.tmp 15)),mo 17 (.mov (.const (.int .i64 0)))] none [14]) (.block 0 (.loop zb1))) (.seq (.region [mw 49 3,
 mw 2 49] none [1,3,15,16,17,18,49]) .ret)))))}
theorem zmz:okFun Go.Proofs.Tryz.prog Go.Proofs.Tryz.f10 zeh=true:=by kernel_rfl
theorem zmc:okFun Go.Proofs.Tryz.prog Go.Proofs.Tryz.f35 zbn=true:=by kernel_rfl
theorem zk7:okFun Go.Proofs.Tryz.prog Go.Proofs.Tryz.f38 zcf=true:=by kernel_rfl
theorem zo2:okFun Go.Proofs.Tryz.prog Go.Proofs.Tryz.f68 zfd=true:=by kernel_rfl
theorem zjv:okFun Go.Proofs.Tryz.prog Go.Proofs.Tryz.f69 zc3=true:=by kernel_rfl
theorem zh4:okFun Go.Proofs.Tryz.prog Go.Proofs.Tryz.f70 zcq=true:=by kernel_rfl
theorem zs9:okFun Go.Proofs.Tryz.prog Go.Proofs.Tryz.f113 zci=true:=by kernel_rfl
theorem zqe:okFun Go.Proofs.Tryz.prog Go.Proofs.Tryz.f25 zfo=true:=by kernel_rfl
theorem zu5:okFun Go.Proofs.Tryz.prog Go.Proofs.Tryz.f36 zb5=true:=by kernel_rfl
theorem zu4:okFun Go.Proofs.Tryz.prog Go.Proofs.Tryz.f11 zhj=true:=by kernel_rfl
end Go.Fu

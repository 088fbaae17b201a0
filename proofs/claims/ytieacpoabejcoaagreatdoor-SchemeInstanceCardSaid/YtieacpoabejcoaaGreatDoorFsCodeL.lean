/-
 A fresh builder's Grow,walked: the whole method.
-/
import Derived.Test.YtieacpoabejcoaaGreatDoorFsGrow
import Derived.Test.YtieacpoabejcoaaGreatDoorFsLib
import Derived.Test.YtieacpoabejcoaaGreatDoorFsOk
set_option maxHeartbeats 4000000
set_option linter.unusedSimpArgs false
set_option linter.unusedVariables false
set_option linter.unusedSectionVars false
namespace Go.Fu
open Go Go.RowKit Go.Proofs
set_option maxHeartbeats 2000000 in
set_option maxRecDepth 1000000 in
theorem Grow_walk (b n:Nat) (rest:List Value) (w:World) (hbk:w.heap[b]?=some (.cells ⟨.pointer none :: .slice none 0 0 :: rest⟩ t_14 (0,0))) (h0:0 < n) (hn:n≤1099511627776) :
  Calls Go.Proofs.Tryz.prog 130 #[.pointer (some ⟨b,0,none⟩),.int .i64 n] w fun e w'=>e=.returned (.tuple #[])∧Grown b rest (w.setCell ⟨b,0,none⟩ (.pointer (some ⟨b,0,none⟩))).drew w':=by
 have hbk1:(w.setCell ⟨b,0,none⟩ (.pointer (some ⟨b,0,none⟩))).heap[b]?=some (.cells ⟨.pointer (some ⟨b,0,none⟩) :: .slice none 0 0 :: rest⟩ t_14 (0,0)):=by
  simp [World.setCell,Array.getElem?_modify,hbk]
 have c1:(w.setCell ⟨b,0,none⟩ (.pointer (some ⟨b,0,none⟩))).cell? ⟨b,1,none⟩=some (.slice none 0 0):=by rw [Lib.cell_of_heap hbk1]; rfl
 have mixed:Go.Proofs.Tryz.prog.follows .mixedOrders=true:=by kernel_rfl
 have e240:∀ args w,(callFunc 160 args).run Go.Proofs.Tryz.prog w=.ok (.enter 160 args) w:=enters_of Go.Proofs.Tryz.func160 (by kernel_rfl) rfl
 have e241:∀ args w,(callFunc 161 args).run Go.Proofs.Tryz.prog w=.ok (.enter 161 args) w:=enters_of Go.Proofs.Tryz.func161 (by kernel_rfl) rfl
 go_enter Go.Proofs.Tryz.func130,Go.Proofs.Tryz.ntmps130
 have c1':(w.setCell ⟨b,0,none⟩ (.pointer (some ⟨b,0,none⟩))).drew.cell? ⟨b,1,none⟩=some (.slice none 0 0):=c1
 have f1:¬ ((n:Int) < 0):=by omega
 have f2:(0:Int) < (n:Int):=by omega
 go_wp2_with (go_at_fn 160; refine (copy_fresh b w (by rw [Lib.cell_of_heap hbk]; rfl) (n:=rest.length + 2) (by omega) (by simp [World.shape?,hbk]) (Lib.frozen_of_heap hbk 0)).mono ?_; rintro e w' ⟨rfl,rfl⟩)
 go_region_o
 all_goals go_wp2_with (go_at_fn 161; refine (grow_walk b n rest (w.setCell ⟨b,0,none⟩ (.pointer (some ⟨b,0,none⟩))).drew hbk1 hn).mono ?_; rintro e w' ⟨rfl,h1⟩)
 all_goals first
  | (go_end0; exact ⟨rfl,h1⟩)
  | (exfalso; omega)
  | (go_end0; exfalso; simp_all; omega)
end Go.Fu
namespace Go.Fu
open Go Go.Mx
theorem grown_sim {ι:Imm} {j:Lay} {own:Own} {σ:Store} {w w1 w':World} {b id:Nat} {cs0:List Cell} {cur:List Value} {rest:List Value} {T:TypeId} (hG:GSim ι j own σ w) (hcs:aget σ.objs id=some cs0) (hjb:j id=some b) (hown:own b=some (.obj id))
  (hlen:cur.length=rest.length + 2) (hT:T=t_14) (h0:w.heap[b]?=some (.cells ⟨cur⟩ T (0,0))) (hos:w1.os=w.os) (ht:w1.tape=w.tape) (hout:w1.output=w.output) (hsz:w1.heap.size=w.heap.size) (hw1:∀ k,k≠b→w1.heap[k]?=w.heap[k]?) (hg:Grown b rest w1 w') :
  ∃ own',GSim ι j own' {σ with objs:=aset σ.objs id [⟨false,.ptr id 0⟩,⟨true,.list k_28 []⟩]} w'∧Evo ι j own w ι j own' w' (fun _=>True)∧(Shared own→Shared own'):=by
 subst hT
 obtain ⟨g1,g2,g3,g4,g5,cs,g6,g7,g8⟩:=hg
 rw [hsz] at g4 g5 g7 g8
 have hblt:b < w.heap.size:=(Array.getElem?_eq_some_iff.1 h0).1
 let own':Own:=fun x=>if x=w.heap.size then some (.ocell id 1) else own x
 have hnew:own' w.heap.size=some (.ocell id 1):=if_pos rfl
 have hold:∀ x,x < w.heap.size→own' x=own x:=fun x hx=>if_neg (by omega)
 have hoth:∀ x,x < w.heap.size→x≠b→w'.heap[x]?=w.heap[x]?:=fun x hx hne=>(g5 x hx hne).trans (hw1 x hne)
 have hE:Evo ι j own w ι j own' w' (fun t=>t=.obj id):=⟨g1.trans hos,g2.trans ht,g3.trans hout,Nat.le_of_lt g4,fun _ _ _ h=>h,fun _ _ h=>h,fun x hx hn=>⟨hoth x hx (fun e=>hn _ (e ▸ hown) rfl),hold x hx,fun _=>rfl⟩⟩
 have hnoimm:∀ o,ι w.heap.size o=none:=fun o=>by
  cases hi:ι w.heap.size o with
  | none=>rfl
  | some v=>have:=imm_lt hG hi; omega
 refine ⟨own',⟨fun x o v h=>?_,fun x t h hu o=>?_,fun id' cs2 h=>?_,fun id' t cs2 k1 k2 x hx=>?_,fun id' y h=>?_,hG.jlt,fun x t h=>?_⟩,hE.weaken fun _ _=>trivial,fun hS x t h=>?_⟩
 ·have hne:x≠b:=fun e=>by
   rw [e,hG.noimm b _ hown rfl o] at h
   cases h
  rw [World.cell?_of_block (w:=w) (w':=w') (a:=⟨x,o,none⟩) (hoth x (imm_lt hG h) hne)]
  exact hG.holds x o v h
 ·by_cases hx:x=w.heap.size
  ·subst hx
   exact hnoimm o
  ·simp only [own',if_neg hx] at h
   exact hG.noimm x t h hu o
 ·simp only [aget_aset] at h
  by_cases hid:id=id'
  ·subst hid
   rw [if_pos rfl] at h
   cases h
   refine ⟨b,hjb,(hold b hblt).trans hown,_,_,g8,by simp,fun i c hi=>?_⟩
   match i with
   | 0 =>
    simp only [List.getElem?_cons_zero,Option.some.injEq] at hi
    subst hi
    refine ⟨_,rfl,rfl,?_,fun h=>by cases h⟩
    simp only [Rep]
    exact ⟨b,hjb,rfl⟩
   | 1 =>
    simp only [List.getElem?_cons_succ,List.getElem?_cons_zero,Option.some.injEq] at hi
    subst hi
    refine ⟨_,rfl,rfl,?_,fun _=>?_⟩
    ·simp only [Rep]
     exact ⟨_,_,rfl,Nat.zero_le _,g6,.inl trivial⟩
    ·simp only [owned_list,OwnedL]
     exact .inr ⟨w.heap.size,0,cs.size,cs,_,rfl,hnew,g7,⟨rfl,by simp [k_28],fun _=>rfl⟩,fun o _=>hnoimm o⟩
   | n + 2=>simp at hi
  ·rw [if_neg hid] at h
   obtain ⟨B2,q1,q2,q3⟩:=hG.objs id' cs2 h
   exact ⟨B2,q1,(hold B2 (hG.ownlt _ _ q2)).trans q2,hE.boxRel q2 (fun h=>by cases h; exact hid rfl) (fun _ _ _ _ h=>by cases h) q3⟩
 ·have hex:∃ c0,aget σ.objs id'=some c0:=by
   simp only [aget_aset] at k2
   split at k2
   ·rename_i hh; subst hh; exact ⟨cs0,hcs⟩
   ·exact ⟨cs2,k2⟩
  obtain ⟨c0,hc0⟩:=hex
  have hty:=hG.tys id' t c0 k1 hc0 x hx
  by_cases hxB:x=b
  ·subst hxB
   obtain ⟨row,hrow,hsz2⟩:=hty
   have hrc:=hrow
   rw [h0] at hrc
   simp only [Option.some.injEq,Obj.cells.injEq] at hrc
   obtain ⟨rfl,hrc,_⟩:=hrc
   refine ⟨_,hrc ▸ g8,fun hp=>?_⟩
   obtain ⟨c,e1,e2,e3⟩:=hsz2 hp
   refine ⟨c,e1,?_,e3⟩
   rw [← e2]
   show (rest.length + 2)=cur.length
   rw [hlen]
  ·obtain ⟨B2,q1,q2,_⟩:=hG.objs id' c0 hc0
   rw [hx] at q1
   cases q1
   exact hty.keep (hoth x (hG.ownlt _ _ q2) hxB) (fun _ _ h=>h)
 ·obtain ⟨B2,q1,q2,q3⟩:=hG.oth id' y h
  have hbB:B2≠b:=fun e=>by
   subst e
   exact q3.notCells h0
  exact ⟨B2,q1,(hold B2 (hG.ownlt _ _ q2)).trans q2,q3.keep (hoth B2 (hG.ownlt _ _ q2) hbB) (fun _ _ _ h=>h) (fun _ _ h=>h)⟩
 ·by_cases hx:x=w.heap.size
  ·subst hx; exact g4
  ·simp only [own',if_neg hx] at h
   exact Nat.lt_trans (hG.ownlt x t h) g4
 ·by_cases hx:x=w.heap.size
  ·simp only [own',if_pos hx,Option.some.injEq] at h
   subst h
   rfl
  ·simp only [own',if_neg hx] at h
   exact hS x t h
theorem xGrow_ok {ds:List D} {σ σ':Store} {out:Out} (h:xGrow ds σ=some (out,σ')):CallOK Go.Proofs.Tryz.prog κ 130 ds σ out σ':=by
 refine (callOK_fn (show isY 130=false from rfl)).2 ⟨⟨_,_,Go.Proofs.Tryz.func130,by kernel_rfl,rfl⟩,fun ι j own w vs hS hB hG hr=>?_⟩
 unfold xGrow at h
 split at h
 ·rename_i id n
  obtain ⟨t,h1,hb⟩:=bindO_some h
  obtain ⟨h2,hc⟩:=ifB_some hb
  obtain ⟨cs,h3,hd⟩:=bindO_some hc
  clear h hb hc
  simp only [Bool.and_eq_true,beq_iff_eq,decide_eq_true_eq] at h2
  obtain ⟨⟨ht,hn0⟩,hn⟩:=h2
  obtain ⟨v,v',rfl,hv,hv'⟩:=repL2 hr
  simp only [Rep] at hv
  obtain ⟨b,hjb,rfl⟩:=hv
  obtain ⟨b',hjb',hown,row,T,hheap,hlen,hcell⟩:=hG.objs id cs h3
  rw [hjb] at hjb'
  cases hjb'
  obtain ⟨row',hrow',_⟩:=hG.tys id t cs h1 h3 b hjb
  rw [ht,hheap] at hrow'
  cases hrow'
  simp only [Rep] at hv'
  subst hv'
  split at hd
  ·rename_i c0 c1
   split at hd
   ·rename_i hd0 hd1
    cases hd
    obtain ⟨v0,q0,_,r0,_⟩:=hcell 0 c0 rfl
    obtain ⟨v1,q1,_,r1,_⟩:=hcell 1 c1 rfl
    rw [hd0] at r0
    rw [hd1] at r1
    simp only [Rep] at r0 r1
    subst r0 r1
    obtain ⟨rest,hrow2⟩:∃ rest,row=.pointer none :: .slice none 0 0 :: rest:=by
     have hl:2≤row.length:=by simpa using hlen
     match row,hl with
     | x :: y :: r,_ =>
      simp at q0 q1
      exact ⟨r,by rw [q0,q1]⟩
    rw [hrow2] at hheap
    refine (Grow_walk b n rest w hheap hn0 hn).mono ?_
    rintro e w' ⟨rfl,hg⟩
    obtain ⟨own',k1,k2,k3⟩:=grown_sim (w1:=(w.setCell ⟨b,0,none⟩ (.pointer (some ⟨b,0,none⟩))).drew) hG h3 hjb hown (by simp) rfl hheap rfl rfl rfl (by simp [World.setCell,World.drew]) (fun k hk=>RowKit.Below.heap_setCell w ⟨b,0,none⟩ _ k hk) hg
    exact ⟨ι,j,own',k1,k2,k3 hS,by simp [Rep,RepL],fun h=>by cases h⟩
   ·cases hd
  ·cases hd
 ·cases h
theorem Xa_sound:CSound Go.Proofs.Tryz.prog κ Xa:=by
 intro f ds σ out σ' h
 unfold Xa at h
 by_cases h1:f=n_36
 ·subst h1
  simp only [beq_self_eq_true,ifB_true] at h
  obtain ⟨d,h2,h⟩:=bindO_some h
  cases h
  exact xItoa_ok h2 σ
 have e1:(f == n_36)=false:=by simpa using h1
 rw [e1,ifB_false] at h
 by_cases h2:f=n_105
 ·subst h2
  simp only [beq_self_eq_true,ifB_true] at h
  exact xCopy_ok h
 have e2:(f == n_105)=false:=by simpa using h2
 rw [e2,ifB_false] at h
 by_cases h3:f=n_142
 ·subst h3
  simp only [beq_self_eq_true,ifB_true] at h
  exact xString_ok h
 have e3:(f == n_142)=false:=by simpa using h3
 rw [e3,ifB_false] at h
 by_cases h4:f=n_186
 ·subst h4
  simp only [beq_self_eq_true,ifB_true] at h
  exact xGrow_ok h
 have e4:(f == n_186)=false:=by simpa using h4
 rw [e4,ifB_false] at h
 cases h
end Go.Fu
namespace Go.Fu
open Go Go.Mx
def b_l13_may_l0:ACode:=(.seq (.seq (.region [mt 16 7,mo 17 (.fieldAddr 2 none (.tmp 3)),mo 18 (.load none false (.tmp 17)),mo 19 (.len (.tmp 18)),mo 20 (.bin .lss (.tmp 16) (.tmp 19))] none [16,17,18,19]) (.cond (.tmp 20) .skip (.exit 0))) (.seq (.block 1 (.seq (.region [mw 23 5,
 mo 24 (.fieldAddr 2 none (.tmp 3)),mo 25 (.load none false (.tmp 24)),mt 26 7,mo 27 (.indexAddr 5 (.tmp 25) (.tmp 26)),mo 28 (.fieldAddr 1 (some 4) (.tmp 27)),mo 29 (.load (some 4) false (.tmp 28)),mo 30 (.call n_22 [.tmp 29]),mo 31 (.appendA k_0 16 (.mv 23) (.tmp 30)),
 mw 5 31] none [20,23,24,25,26,27,28,29,30,31]) (.seq (.region [mt 33 0,mo 34 (.fieldAddr 2 none (.tmp 3)),mo 35 (.load none false (.tmp 34)),mt 36 7,mo 37 (.indexAddr 5 (.tmp 35) (.tmp 36)),mo 38 (.fieldAddr 0 none (.tmp 37)),mo 39 (.load none false (.tmp 38)),
 mo 40 (.call n_181 [.tmp 33,.tmp 39]),mw 32 40,mo 41 (.extract (.tmp 32) 0),mo 42 (.extract (.tmp 32) 1),mo 8 (.alloc [.str [],.int .i64 0,.str [],.nils,.nils,.nils]),⟨none,.store 6 (.tmp 8) (.mv 41),none⟩,mw 9 42] none [8,32,33,34,35,36,37,38,39,40,41,42])
 (.region [mt 43 6,mw 44 43,⟨some 45,.mov (.tmp 9),(some (44,true))⟩,mo 46 (.pick (.tmp 44) (.tmp 45) (.const (.bool false))),mw 6 46] none [9,43,44,45,46])))) (.region [mt 21 7,mo 22 (.bin .add (.tmp 21) (.const (.int .i64 1))),mw 7 22] none [21,22])))
def b_l13_may_l1:ACode:=(.seq (.seq (.region [mt 47 10,mt 48 5,mo 49 (.len (.tmp 48)),mo 50 (.bin .lss (.tmp 47) (.tmp 49))] none [47,48,49]) (.cond (.tmp 50) .skip (.exit 2))) (.seq (.block 3 (.region [mt 53 6,mw 54 53,⟨some 55,.fieldAddr 0 none (.tmp 3),(some (54,true))⟩,
 ⟨some 56,.loadB 3 none (.tmp 55),(some (54,true))⟩,⟨some 57,.mov (.tmp 5),(some (54,true))⟩,⟨some 58,.mov (.tmp 10),(some (54,true))⟩,⟨some 59,.indexAddr 1 (.tmp 57) (.tmp 58),(some (54,true))⟩,⟨some 60,.loadG none (.tmp 59),(some (54,true))⟩,
 ⟨some 61,.call n_17 [.tmp 56,.tmp 60],(some (54,true))⟩,mo 62 (.pick (.tmp 54) (.tmp 61) (.const (.bool false))),mw 6 62] (some [0,1,2,3,4,5,6,7,8,9,10]) [50,53,54,55,56,57,58,59,60,61,62])) (.region [mt 51 10,mo 52 (.bin .add (.tmp 51) (.const (.int .i64 1))),
 mw 10 52] none [51,52])))
def b_r01_Has_l0:ACode:=(.seq (.seq (.region [mt 6 5,mt 7 0,mo 8 (.len (.tmp 7)),mo 9 (.bin .lss (.tmp 6) (.tmp 8))] none [6,7,8]) (.cond (.tmp 9) .skip (.exit 0))) (.seq (.block 1 (.seq (.region [mt 12 0,mt 13 5,mo 14 (.indexAddr 1 (.tmp 12) (.tmp 13)),
 mo 15 (.load none false (.tmp 14)),mt 16 1,mo 17 (.bin .eql (.tmp 15) (.tmp 16))] none [9,12,13,14,15,16]) (.cond (.tmp 17) (.seq (.region [mo 4 (.mov (.const (.bool true)))] none [0,1,5,17]) .ret) .skip))) (.region [mt 10 5,mo 11 (.bin .add (.tmp 10) (.const (.int .i64 1))),
 mw 5 11] none [10,11,17])))
def b_r04_free_l0:ACode:=(.seq (.seq (.region [mt 39 8,mo 40 (.fieldAddr 3 none (.tmp 3)),mo 41 (.load none false (.tmp 40)),mo 42 (.len (.tmp 41)),mo 43 (.bin .lss (.tmp 39) (.tmp 42))] none [39,40,41,42]) (.cond (.tmp 43) .skip (.exit 0))) (.seq (.block 1 (.region [
 mo 46 (.fieldAddr 3 none (.tmp 3)),mo 47 (.load none false (.tmp 46)),mt 48 8,mo 49 (.indexAddr 4 (.tmp 47) (.tmp 48)),mo 50 (.load (some 4) false (.tmp 49)),mt 51 1,mt 52 2,mo 53 (.call n_55 [.tmp 50,.tmp 51,.tmp 52]),mw 2 53] none [43,46,47,48,49,50,51,52,53])) (.region [
 mt 44 8,mo 45 (.bin .add (.tmp 44) (.const (.int .i64 1))),mw 8 45] none [44,45])))
def b_scheme_put_l0:ACode:=(.seq (.region [mo 15 (.bin .lss (.tmp 14) (.tmp 13))] none []) (.seq (.cond (.tmp 15) .skip (.exit 0)) (.seq (.block 1 (.seq (.region [mo 16 (.indexAddr 5 (.tmp 12) (.tmp 14)),mo 17 (.load (some 5) false (.tmp 16)),
 mo 10 (.alloc [.str [],.int .i64 0,.int .i64 0,.str [],.nils]),⟨none,.store 5 (.tmp 10) (.mv 17),none⟩] none [15,16,17]) (.region [mw 18 8,mo 19 (.fieldAddr 0 none (.tmp 10)),mo 20 (.loadB 10 none (.tmp 19)),mo 21 (.fieldAddr 1 (some 4) (.tmp 10)),mo 22 (.loadB 10 (some 4) (.tmp 21)),
 mt 23 1,mt 24 2,mo 25 (.call n_19 [.tmp 22,.tmp 23,.tmp 24]),mo 26 (.build [.str [],.int .i64 0,.int .i64 0,.str [],.nils] [(0,1,(.tmp 20)),(1,4,(.tmp 25))]),mo 27 (.buildSlice k_3 [.tmp 26]),mo 28 (.append k_3 72 (.mv 18) (.tmp 27)),
 mw 8 28] (some [0,1,2,3,4,5,6,7,8,9,10,11]) [10,18,19,20,21,22,23,24,25,26,27,28]))) (.region [mo 29 (.bin .add (.tmp 14) (.const (.int .i64 1))),mw 14 29] none [29]))))
def b_l13_may:AFun:={nargs:=2,ntmps:=64,res:=[.tmp 4],gc:=false,body:=(.seq (.region [mo 3 (.box (.tmp 1)),mo 4 (.mov (.const (.bool false)))] none [1,4]) (.seq (.region [mo 11 (.fieldAddr 3 (some 4) (.tmp 3)),mo 12 (.load (some 4) false (.tmp 11)),
 mo 13 (.call n_22 [.tmp 12]),mw 5 13] none [11,12,13]) (.seq (.region [mo 14 (.load (some 7) false (.tmp 3)),mo 15 (.call n_249 [.tmp 14]),mw 6 15] none [14,15]) (.seq (.seq (.region [mo 7 (.mov (.const (.int .i64 0)))] none []) (.block 0 (.loop b_l13_may_l0))) (.seq (.seq
 (.region [mo 10 (.mov (.const (.int .i64 0)))] none [0,7,20]) (.block 2 (.loop b_l13_may_l1))) (.seq (.region [mw 63 6,mw 4 63] none [3,5,6,10,50,63]) .ret))))))}
def b_r01_Has:AFun:={nargs:=2,ntmps:=18,res:=[.tmp 4],gc:=false,body:=(.seq (.region [mo 4 (.mov (.const (.bool false)))] none [4]) (.seq (.seq (.region [mo 5 (.mov (.const (.int .i64 0)))] none []) (.block 0 (.loop b_r01_Has_l0))) (.seq (.region [
 mo 4 (.mov (.const (.bool false)))] none [0,1,5,9]) .ret)))}
def b_r04_Free:AFun:={nargs:=1,ntmps:=5,res:=[.tmp 2],gc:=false,body:=(.seq (.region [mo 1 (.box (.tmp 0)),mo 2 (.mov (.const .nils))] none [0,2]) (.seq (.region [mo 3 (.load (some 4) false (.tmp 1)),mo 4 (.call n_55 [.tmp 3,(.const .nils),(.const .nils)]),
 mw 2 4] none [1,3,4]) .ret))}
def b_r04_free:AFun:={nargs:=3,ntmps:=55,res:=[.tmp 6],gc:=false,body:=(.seq (.region [mo 3 (.box (.tmp 0)),mo 6 (.mov (.const .nils))] none [0,6]) (.seq (.seq (.region [mo 9 (.fieldAddr 0 none (.tmp 3)),mo 10 (.load none false (.tmp 9)),
 mo 11 (.bin .eql (.tmp 10) (.const (.int .i64 2)))] none [9,10]) (.cond (.tmp 11) (.seq (.seq (.region [mt 12 1,mo 13 (.fieldAddr 2 none (.tmp 3)),mo 14 (.load none false (.tmp 13)),mo 15 (.call n_17 [.tmp 12,.tmp 14]),mw 16 15,⟨some 17,.mov (.tmp 2),(some (16,false))⟩,
 ⟨some 18,.fieldAddr 2 none (.tmp 3),(some (16,false))⟩,⟨some 19,.load none false (.tmp 18),(some (16,false))⟩,⟨some 20,.call n_17 [.tmp 17,.tmp 19],(some (16,false))⟩,mo 21 (.pick (.tmp 16) (.const (.bool true)) (.tmp 20))] none [1,11,12,13,14,15,16,17,18,19,20])
 (.cond (.tmp 21) (.seq (.region [mw 22 2,mw 6 22] none [2,3,21,22]) .ret) .skip)) (.seq (.region [mw 23 2,mo 24 (.fieldAddr 2 none (.tmp 3)),mo 25 (.load none false (.tmp 24)),mo 26 (.buildSlice k_0 [.tmp 25]),mo 27 (.appendA k_0 16 (.mv 23) (.tmp 26)),
 mw 6 27] none [2,3,21,23,24,25,26,27]) .ret)) .skip)) (.seq (.seq (.region [mo 28 (.fieldAddr 0 none (.tmp 3)),mo 29 (.load none false (.tmp 28)),mo 30 (.bin .eql (.tmp 29) (.const (.int .i64 5)))] none [11,28,29]) (.cond (.tmp 30) (.seq (.region [mo 7 (.mov (.const .nils))] none [30])
 (.seq (.region [mw 31 7,mt 32 1,mo 33 (.appendA k_0 16 (.mv 31) (.tmp 32)),mw 7 33] none [1,31,32,33]) (.region [mw 34 7,mo 35 (.fieldAddr 2 none (.tmp 3)),mo 36 (.load none false (.tmp 35)),mo 37 (.buildSlice k_0 [.tmp 36]),mo 38 (.appendA k_0 16 (.mv 34) (.tmp 37)),
 mw 1 38] none [7,34,35,36,37,38]))) .skip)) (.seq (.seq (.region [mo 8 (.mov (.const (.int .i64 0)))] none [30]) (.block 0 (.loop b_r04_free_l0))) (.seq (.region [mw 54 2,mw 6 54] none [1,2,3,8,43,54]) .ret)))))}
def b_scheme_put:AFun:={nargs:=3,ntmps:=36,res:=[.tmp 6,.cell 7 (some 4)],gc:=false,body:=(.seq (.region [mo 3 (.box (.tmp 0)),mo 6 (.mov (.const .nils)),mo 7 (.alloc [.int .i64 0,.int .i64 0,.str [],.nils])] none [0,6]) (.seq (.region [mo 8 (.mov (.const .nils))] none [])
 (.seq (.seq (.region [mo 11 (.fieldAddr 2 none (.tmp 3)),mo 12 (.load none false (.tmp 11)),mo 13 (.len (.tmp 12)),mo 14 (.mov (.const (.int .i64 0)))] none [11]) (.block 0 (.loop b_scheme_put_l0))) (.seq (.region [mw 30 8,mo 31 (.fieldAddr 3 (some 4) (.tmp 3)),
 mo 32 (.load (some 4) false (.tmp 31)),mw 33 1,mw 34 2,mo 35 (.call n_19 [.tmp 32,.tmp 33,.tmp 34]),mw 6 30,⟨none,.store 4 (.tmp 7) (.mv 35),none⟩] none [1,2,3,8,12,13,14,15,30,31,32,33,34,35]) .ret))))}
theorem okb_scheme_put:okFun Go.Proofs.Tryz.prog Go.Proofs.Tryz.f37 b_scheme_put=true:=by kernel_rfl
theorem okb_r01_Has:okFun Go.Proofs.Tryz.prog Go.Proofs.Tryz.f67 b_r01_Has=true:=by kernel_rfl
theorem okb_r04_free:okFun Go.Proofs.Tryz.prog Go.Proofs.Tryz.f110 b_r04_free=true:=by kernel_rfl
theorem okb_r04_Free:okFun Go.Proofs.Tryz.prog Go.Proofs.Tryz.f64 b_r04_Free=true:=by kernel_rfl
theorem okb_l13_may:okFun Go.Proofs.Tryz.prog Go.Proofs.Tryz.f24 b_l13_may=true:=by kernel_rfl
end Go.Fu

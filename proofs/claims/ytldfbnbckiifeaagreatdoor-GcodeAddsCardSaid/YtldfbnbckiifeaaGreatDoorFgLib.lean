/-
 The table of the functions that the machine runs,and their fit.
-/
import Derived.Test.YtldfbnbckiifeaaGreatDoorFgOk
import Derived.Test.YtldfbnbckiifeaaGreatDoorFgIds
import Derived.Test.YtldfbnbckiifeaaGreatDoorMyFrame
set_option maxHeartbeats 4000000
set_option linter.unusedSimpArgs false
set_option linter.unusedVariables false
set_option linter.unusedSectionVars false
namespace Go.Fu
open Go Go.Mx
set_option maxRecDepth 100000
instance:LoopKit:=⟨fun N c c2=>dG Go.Proofs.Tryz.prog N true c c2=true⟩
instance:KitOf Go.Proofs.Tryz.prog inferInstance:=⟨fun _ _ _=>Iff.rfl⟩
def Γa:FuncId→Option AFun:=fun f=>match f with
 | 6=>some Yu
 | 10=>some zd3
 | 11=>some Yv
 | 13=>some zdb
 | 15=>some zww
 | 17=>some zwh
 | 19=>some zwl
 | 20=>some zd4
 | 25=>some zd5
 | 26=>some Zb
 | 27=>some sQ
 | 28=>some Za
 | 29=>some zeg
 | 31=>some zds
 | 32=>some zef
 | 39=>some zwv
 | 40=>some zwi
 | 41=>some zwj
 | 42=>some Ut
 | 43=>some zwk
 | 44=>some zws
 | 45=>some Yq
 | 46=>some Us
 | 47=>some zw6
 | 48=>some zdv
 | 49=>some zwo
 | 50=>some zdo
 | 51=>some zwm
 | 64=>some Ji
 | 65=>some zd6
 | 70=>some Zf
 | 71=>some zwt
 | 72=>some zwp
 | 74=>some zwr
 | 75=>some zec
 | 76=>some zed
 | 77=>some zw4
 | 78=>some zw3
 | 79=>some Zd
 | 80=>some zw7
 | 81=>some zdw
 | 82=>some zd9
 | 83=>some zdx
 | 84=>some tP
 | 85=>some zdr
 | 86=>some zdt
 | 87=>some zdy
 | 88=>some Re
 | 89=>some zdc
 | 90=>some zd8
 | 91=>some zdz
 | 92=>some zd0
 | 93=>some zd1
 | 94=>some Ys
 | 95=>some Ek
 | 96=>some Yt
 | 97=>some rJ
 | 98=>some zw5
 | 99=>some zdq
 | 100=>some zdn
 | 101=>some zwq
 | 102=>some Zg
 | 103=>some zdl
 | 104=>some zdd
 | 105=>some vX
 | 119=>some zd7
 | 120=>some zw8
 | 121=>some zee
 | 122=>some zeb
 | 123=>some zea
 | 124=>some Yo
 | 125=>some Yp
 | 126=>some Uu
 | 127=>some zdp
 | 128=>some zc7
 | 129=>some zc8
 | 130=>some zdu
 | 131=>some zw1
 | 132=>some zw2
 | 133=>some zw0
 | 134=>some zd2
 | 135=>some zdm
 | 136=>some zdg
 | 137=>some Yj
 | 138=>some zdj
 | 139=>some zdk
 | 140=>some vW
 | 141=>some zwn
 | 147=>some zwz
 | 148=>some zxa
 | 149=>some zwx
 | 150=>some Jh
 | 151=>some zc9
 | 153=>some zdh
 | 154=>some zde
 | 156=>some zdf
 | 158=>some zdi
 | 160=>some zwy
 | 164=>some zw9
 | 174=>some zda
 | 176=>some zmp
 | 185=>some zeh
 | 187=>some zei
 | _=>none
theorem Γa_holds:Holds Go.Proofs.Tryz.prog Γa:=by
 intro f af h
 unfold Γa at h
 split at h
 ·cases h; exact ⟨rfl,_,Go.Proofs.Tryz.func6,Tq⟩
 ·cases h; exact ⟨rfl,_,Go.Proofs.Tryz.func10,zcq⟩
 ·cases h; exact ⟨rfl,_,Go.Proofs.Tryz.func11,zjw⟩
 ·cases h; exact ⟨rfl,_,Go.Proofs.Tryz.func13,zal⟩
 ·cases h; exact ⟨rfl,_,Go.Proofs.Tryz.func15,zhk⟩
 ·cases h; exact ⟨rfl,_,Go.Proofs.Tryz.func17,zak⟩
 ·cases h; exact ⟨rfl,_,Go.Proofs.Tryz.func19,Tc⟩
 ·cases h; exact ⟨rfl,_,Go.Proofs.Tryz.func20,zjx⟩
 ·cases h; exact ⟨rfl,_,Go.Proofs.Tryz.func25,zjz⟩
 ·cases h; exact ⟨rfl,_,Go.Proofs.Tryz.func26,zj2⟩
 ·cases h; exact ⟨rfl,_,Go.Proofs.Tryz.func27,zjy⟩
 ·cases h; exact ⟨rfl,_,Go.Proofs.Tryz.func28,zj0⟩
 ·cases h; exact ⟨rfl,_,Go.Proofs.Tryz.func29,tB⟩
 ·cases h; exact ⟨rfl,_,Go.Proofs.Tryz.func31,Pn⟩
 ·cases h; exact ⟨rfl,_,Go.Proofs.Tryz.func32,uJ⟩
 ·cases h; exact ⟨rfl,_,Go.Proofs.Tryz.func39,It⟩
 ·cases h; exact ⟨rfl,_,Go.Proofs.Tryz.func40,Sv⟩
 ·cases h; exact ⟨rfl,_,Go.Proofs.Tryz.func41,Sz⟩
 ·cases h; exact ⟨rfl,_,Go.Proofs.Tryz.func42,wZ⟩
 ·cases h; exact ⟨rfl,_,Go.Proofs.Tryz.func43,Ta⟩
 ·cases h; exact ⟨rfl,_,Go.Proofs.Tryz.func44,zam⟩
 ·cases h; exact ⟨rfl,_,Go.Proofs.Tryz.func45,zan⟩
 ·cases h; exact ⟨rfl,_,Go.Proofs.Tryz.func46,uH⟩
 ·cases h; exact ⟨rfl,_,Go.Proofs.Tryz.func47,vK⟩
 ·cases h; exact ⟨rfl,_,Go.Proofs.Tryz.func48,zao⟩
 ·cases h; exact ⟨rfl,_,Go.Proofs.Tryz.func49,Ly⟩
 ·cases h; exact ⟨rfl,_,Go.Proofs.Tryz.func50,zcm⟩
 ·cases h; exact ⟨rfl,_,Go.Proofs.Tryz.func51,zck⟩
 ·cases h; exact ⟨rfl,_,Go.Proofs.Tryz.func64,zj1⟩
 ·cases h; exact ⟨rfl,_,Go.Proofs.Tryz.func65,zhl⟩
 ·cases h; exact ⟨rfl,_,Go.Proofs.Tryz.func70,Bo⟩
 ·cases h; exact ⟨rfl,_,Go.Proofs.Tryz.func71,Tf⟩
 ·cases h; exact ⟨rfl,_,Go.Proofs.Tryz.func72,Td⟩
 ·cases h; exact ⟨rfl,_,Go.Proofs.Tryz.func74,zco⟩
 ·cases h; exact ⟨rfl,_,Go.Proofs.Tryz.func75,zO⟩
 ·cases h; exact ⟨rfl,_,Go.Proofs.Tryz.func76,zP⟩
 ·cases h; exact ⟨rfl,_,Go.Proofs.Tryz.func77,yV⟩
 ·cases h; exact ⟨rfl,_,Go.Proofs.Tryz.func78,Bn⟩
 ·cases h; exact ⟨rfl,_,Go.Proofs.Tryz.func79,xA⟩
 ·cases h; exact ⟨rfl,_,Go.Proofs.Tryz.func80,yW⟩
 ·cases h; exact ⟨rfl,_,Go.Proofs.Tryz.func81,Ti⟩
 ·cases h; exact ⟨rfl,_,Go.Proofs.Tryz.func82,uI⟩
 ·cases h; exact ⟨rfl,_,Go.Proofs.Tryz.func83,Me⟩
 ·cases h; exact ⟨rfl,_,Go.Proofs.Tryz.func84,zcl⟩
 ·cases h; exact ⟨rfl,_,Go.Proofs.Tryz.func85,Hf⟩
 ·cases h; exact ⟨rfl,_,Go.Proofs.Tryz.func86,Md⟩
 ·cases h; exact ⟨rfl,_,Go.Proofs.Tryz.func87,Tj⟩
 ·cases h; exact ⟨rfl,_,Go.Proofs.Tryz.func88,Ha⟩
 ·cases h; exact ⟨rfl,_,Go.Proofs.Tryz.func89,Pm⟩
 ·cases h; exact ⟨rfl,_,Go.Proofs.Tryz.func90,wJ⟩
 ·cases h; exact ⟨rfl,_,Go.Proofs.Tryz.func91,My⟩
 ·cases h; exact ⟨rfl,_,Go.Proofs.Tryz.func92,Tm⟩
 ·cases h; exact ⟨rfl,_,Go.Proofs.Tryz.func93,Tn⟩
 ·cases h; exact ⟨rfl,_,Go.Proofs.Tryz.func94,Na⟩
 ·cases h; exact ⟨rfl,_,Go.Proofs.Tryz.func95,To⟩
 ·cases h; exact ⟨rfl,_,Go.Proofs.Tryz.func96,Nb⟩
 ·cases h; exact ⟨rfl,_,Go.Proofs.Tryz.func97,Ww⟩
 ·cases h; exact ⟨rfl,_,Go.Proofs.Tryz.func98,zM⟩
 ·cases h; exact ⟨rfl,_,Go.Proofs.Tryz.func99,He⟩
 ·cases h; exact ⟨rfl,_,Go.Proofs.Tryz.func100,Mc⟩
 ·cases h; exact ⟨rfl,_,Go.Proofs.Tryz.func101,Gz⟩
 ·cases h; exact ⟨rfl,_,Go.Proofs.Tryz.func102,yX⟩
 ·cases h; exact ⟨rfl,_,Go.Proofs.Tryz.func103,Ir⟩
 ·cases h; exact ⟨rfl,_,Go.Proofs.Tryz.func104,Wu⟩
 ·cases h; exact ⟨rfl,_,Go.Proofs.Tryz.func105,Iq⟩
 ·cases h; exact ⟨rfl,_,Go.Proofs.Tryz.func119,yU⟩
 ·cases h; exact ⟨rfl,_,Go.Proofs.Tryz.func120,Dp⟩
 ·cases h; exact ⟨rfl,_,Go.Proofs.Tryz.func121,xC⟩
 ·cases h; exact ⟨rfl,_,Go.Proofs.Tryz.func122,xB⟩
 ·cases h; exact ⟨rfl,_,Go.Proofs.Tryz.func123,zN⟩
 ·cases h; exact ⟨rfl,_,Go.Proofs.Tryz.func124,zhj⟩
 ·cases h; exact ⟨rfl,_,Go.Proofs.Tryz.func125,Po⟩
 ·cases h; exact ⟨rfl,_,Go.Proofs.Tryz.func126,Do⟩
 ·cases h; exact ⟨rfl,_,Go.Proofs.Tryz.func127,zcn⟩
 ·cases h; exact ⟨rfl,_,Go.Proofs.Tryz.func128,zjr⟩
 ·cases h; exact ⟨rfl,_,Go.Proofs.Tryz.func129,zjs⟩
 ·cases h; exact ⟨rfl,_,Go.Proofs.Tryz.func130,zcp⟩
 ·cases h; exact ⟨rfl,_,Go.Proofs.Tryz.func131,Dn⟩
 ·cases h; exact ⟨rfl,_,Go.Proofs.Tryz.func132,Hg⟩
 ·cases h; exact ⟨rfl,_,Go.Proofs.Tryz.func133,Iu⟩
 ·cases h; exact ⟨rfl,_,Go.Proofs.Tryz.func134,Pq⟩
 ·cases h; exact ⟨rfl,_,Go.Proofs.Tryz.func135,Dm⟩
 ·cases h; exact ⟨rfl,_,Go.Proofs.Tryz.func136,Lx⟩
 ·cases h; exact ⟨rfl,_,Go.Proofs.Tryz.func137,Gx⟩
 ·cases h; exact ⟨rfl,_,Go.Proofs.Tryz.func138,Dk⟩
 ·cases h; exact ⟨rfl,_,Go.Proofs.Tryz.func139,Dl⟩
 ·cases h; exact ⟨rfl,_,Go.Proofs.Tryz.func140,Dj⟩
 ·cases h; exact ⟨rfl,_,Go.Proofs.Tryz.func141,Ip⟩
 ·cases h; exact ⟨rfl,_,Go.Proofs.Tryz.func147,wI⟩
 ·cases h; exact ⟨rfl,_,Go.Proofs.Tryz.func148,sN⟩
 ·cases h; exact ⟨rfl,_,Go.Proofs.Tryz.func149,Tt⟩
 ·cases h; exact ⟨rfl,_,Go.Proofs.Tryz.func150,Wv⟩
 ·cases h; exact ⟨rfl,_,Go.Proofs.Tryz.func151,zjt⟩
 ·cases h; exact ⟨rfl,_,Go.Proofs.Tryz.func153,Gy⟩
 ·cases h; exact ⟨rfl,_,Go.Proofs.Tryz.func154,Bl⟩
 ·cases h; exact ⟨rfl,_,Go.Proofs.Tryz.func156,Bm⟩
 ·cases h; exact ⟨rfl,_,Go.Proofs.Tryz.func158,zL⟩
 ·cases h; exact ⟨rfl,_,Go.Proofs.Tryz.func160,Nc⟩
 ·cases h; exact ⟨rfl,_,Go.Proofs.Tryz.func164,pM⟩
 ·cases h; exact ⟨rfl,_,Go.Proofs.Tryz.func174,zju⟩
 ·cases h; exact ⟨rfl,_,Go.Proofs.Tryz.func176,Di⟩
 ·cases h; exact ⟨rfl,_,Go.Proofs.Tryz.func185,zap⟩
 ·cases h; exact ⟨rfl,_,Go.Proofs.Tryz.func187,zhm⟩
 ·cases h
def Ra:mN:=fun _ _ _ _=>none
theorem pN {κ2:Ctx}:xZ Go.Proofs.Tryz.prog κ2 Ra:=fun _ _ _ _ _ _ h=>by cases h
def zrx (n:Nat) (f:FuncId):Bool:=match kM Γa Ra Xa n false f [] {objs:=[],tys:=[],oth:=[],next:=0} with
 | some (.ret ⟨false,.bool true⟩,_)=>true
 | _=>false
end Go.Fu
namespace Go.Fu
open Go Go.Mx
theorem zt8:Go.Proofs.Tryz.prog.globalNamed "internal/strconv.uint64pow10"=some 0:=by kernel_rfl
def κ:Ctx where
 n:=0 + 1
 K:=fun w=>Lib.TabIs Go.Proofs.Tryz.prog w "internal/strconv.uint64pow10" .u64 Lib.pow10Tab
 stable:=fun w w' h k=>by
  unfold Lib.TabIs World.var? at k ⊢
  rw [zt8] at k ⊢
  simp only [Option.bind_some] at k ⊢
  rw [h 0 (by omega)]
  exact k
theorem zlp:∀ (k n:Nat) (acc:List UInt8),n < 10 ^ k→Rk k n acc=if k=0 then acc else Lib.decDigits n ++ acc
 | 0,n,acc,_=>rfl
 | k + 1,n,acc,h=>by
  rw [if_neg (by omega)]
  unfold Rk
  by_cases h10:n < 10
  ·simp only [h10,decide_true,aE]
   rw [Lib.decDigits,dif_pos h10]
   rfl
  ·simp only [h10,decide_false,aG]
   have hk:n / 10 < 10 ^ k:=by
    rw [Nat.div_lt_iff_lt_mul (by omega)]
    rw [Nat.pow_succ] at h
    exact h
   have hk0:k≠0:=by
    intro e
    subst e
    simp at hk
    omega
   rw [zlp k (n / 10) _ hk,if_neg hk0,Lib.decDigits.eq_def n,dif_neg h10]
   simp
theorem zlq {n:Nat} (h:n < 10 ^ 20):Zr n=Lib.decDigits n:=by
 unfold Zr
 rw [zlp 20 n [] h]
 simp
theorem zug {n:Int} (h:Ad n=true):cE n=Lib.itoa n:=by
 simp only [Ad,Bool.and_eq_true,decide_eq_true_eq] at h
 cases n with
 | ofNat m =>
  have h2:(m:Int)≤9223372036854775807:=h.2
  simp only [cE,Lib.itoa]
  rw [if_neg (by simp),zlq (by omega)]
  rfl
 | negSucc m =>
  have h1:-9223372036854775808≤Int.negSucc m:=h.1
  simp only [cE,Lib.itoa]
  rw [if_pos (Int.negSucc_lt_zero m),zlq (by omega)]
  rfl
theorem Xj {ι:Imm} {j:Lay} {d:D} {vs:List Value} (h:aI ι j [d] vs):∃ v,vs=[v]∧Rep ι j d v:=by
 simp only [aI] at h
 obtain ⟨x,r,rfl,h1,rfl⟩:=h
 exact ⟨x,rfl,h1⟩
theorem zv8 {ds:List D} {d:D} (h:Hz ds=some d) (σ:Store):kA Go.Proofs.Tryz.prog κ 30 ds σ (.ret ⟨false,d⟩) σ:=by
 unfold Hz at h
 split at h
 ·rename_i n
  obtain ⟨h1,h⟩:=aJ h
  cases h
  refine zsf rfl ⟨_,_,Go.Proofs.Tryz.func30,by kernel_rfl,rfl⟩ (fun ι j own w vs hB hG hr=>?_)
  obtain ⟨v,rfl,hv⟩:=Xj hr
  simp only [Rep] at hv
  subst hv
  have hb:=h1
  simp only [Ad,Bool.and_eq_true,decide_eq_true_eq] at hb
  refine (Go.Proofs.Tryz.strconv_Itoa n hb.1 hb.2 w hB.K).mono ?_
  rintro e w' ⟨rfl,k,os,rfl⟩
  refine ⟨_,rfl,?_,by simp only [Rep]; rw [zug h1]⟩
  have hd:RowKit.Below w.heap.size w (w.drewN k):=⟨rfl,rfl,rfl,Nat.le_refl _,fun _ _=>rfl⟩
  refine hd.trans ⟨rfl,rfl,rfl,by simp [Sort.grow],fun i hi=>?_⟩
  show (w.heap ++ os)[i]?=w.heap[i]?
  rw [Array.getElem?_append_left hi]
 ·cases h
theorem zh5 {w:World} {b:Nat} {vs:List Value} {T:TypeId} (h:w.heap[b]?=some (.cells ⟨vs⟩ T (0,0))) (v:Value):(w.setCell ⟨b,0,none⟩ v).heap[b]?=some (.cells ⟨vs.set 0 v⟩ T (0,0)):=by
 have hlt:=(Array.getElem?_eq_some_iff.1 h).1
 have hv:=(Array.getElem?_eq_some_iff.1 h).2
 simp only [World.setCell,Array.getElem?_modify,if_true,h,Option.map_some]
 simp
theorem zv7 {ds:List D} {σ σ':Store} {out:Out} (h:zfo ds σ=some (out,σ')):kA Go.Proofs.Tryz.prog κ 66 ds σ out σ':=by
 refine (iK (show isY 66=false from rfl)).2 ⟨⟨_,_,Go.Proofs.Tryz.func66,by kernel_rfl,rfl⟩,fun ι j own w vs hS hB hG hr=>?_⟩
 unfold zfo at h
 split at h
 ·rename_i id
  obtain ⟨t,h1,ha⟩:=aA h
  obtain ⟨h2,hb⟩:=aJ ha
  obtain ⟨cs,h3,hc⟩:=aA hb
  clear h ha hb
  have ht:t.t=oH:=by simpa using h2
  obtain ⟨v,rfl,hv⟩:=Xj hr
  simp only [Rep] at hv
  obtain ⟨b,hjb,rfl⟩:=hv
  obtain ⟨b',hjb',hown,row,T,hheap,hlen,hcell⟩:=hG.objs id cs h3
  rw [hjb] at hjb'
  cases hjb'
  obtain ⟨row',hrow',_⟩:=hG.tys id t cs h1 h3 b hjb
  rw [ht,hheap] at hrow'
  cases hrow'
  split at hc
  ·rename_i c0 c1
   obtain ⟨v0,hv0,_,hr0,_⟩:=hcell 0 c0 rfl
   have hc0:w.cell? ⟨b,0,none⟩=some v0:=by
    rw [cell_of_row w b 0 _ _ _ hheap]
    simpa using hv0
   split at hc
   ·rename_i hd
    cases hc
    rw [hd] at hr0
    simp only [Rep] at hr0
    subst hr0
    have hl:2≤row.length:=by simpa using hlen
    have hsh:w.shape? b=some (oH,row.length):=by simp [World.shape?,hheap]
    have hfz:w.frozen? ⟨b,0,none⟩=false:=Lib.frozen_of_heap hheap 0
    refine (znd b w hc0 hl hsh hfz).mono ?_
    rintro e w' ⟨rfl,rfl⟩
    have hnew:=zh5 hheap (.pointer (some ⟨b,0,none⟩))
    have hrest:∀ k,k≠b→(w.setCell ⟨b,0,none⟩ (.pointer (some ⟨b,0,none⟩))).heap[k]?=w.heap[k]?:=fun k hk=>RowKit.Below.heap_setCell w ⟨b,0,none⟩ _ k hk
    have hcl:∀ (i:Nat) (c:Cell),[(⟨false,.ptr id 0⟩:Cell),c1][i]?=some c→∃ v,(row.set 0 (.pointer (some ⟨b,0,none⟩)))[i]?=some v∧v.oneCell'=true∧iT ι j own (w.setCell ⟨b,0,none⟩ (.pointer (some ⟨b,0,none⟩))) (.ocell id i) c v:=by
     intro i c hi
     match i with
     | 0 =>
      simp only [List.getElem?_cons_zero,Option.some.injEq] at hi
      subst hi
      refine ⟨_,List.getElem?_set_self (by omega),rfl,?_,fun h=>by cases h⟩
      simp only [Rep]
      exact ⟨b,hjb,rfl⟩
     | 1 =>
      obtain ⟨v1,q1,q2,q3,q4⟩:=hcell 1 c1 rfl
      simp only [List.getElem?_cons_succ,List.getElem?_cons_zero,Option.some.injEq] at hi
      subst hi
      exact ⟨v1,by rw [List.getElem?_set_ne (by omega)]; exact q1,q2,q3,fun ho=>lI (B:=b) (by rw [hown]; intro h; cases h) hrest (q4 ho)⟩
     | n + 2=>simp at hi
    obtain ⟨g1,g2⟩:=hG.setObj (w':=w.setCell ⟨b,0,none⟩ (.pointer (some ⟨b,0,none⟩))) h3 hjb hown rfl rfl rfl (by simp [World.setCell]) hrest hheap hnew (by simpa using hl) (by simp) hcl
    exact ⟨ι,j,own,g1,g2.weaken (fun _ _=>trivial),hS,by simp [Rep,aI],fun h=>by cases h⟩
   ·rename_i id' hd
    obtain ⟨h4,hc⟩:=aJ hc
    cases hc
    have hid:id'=id:=by simpa using h4
    subst hid
    rw [hd] at hr0
    simp only [Rep] at hr0
    obtain ⟨b2,hjb2,rfl⟩:=hr0
    rw [hjb] at hjb2
    cases hjb2
    refine (zqw b w hc0).mono ?_
    rintro e w' ⟨rfl,rfl⟩
    exact ⟨ι,j,own,hG,Evo.refl _ _ _ _ _,hS,by simp [Rep,aI],fun h=>by cases h⟩
   ·cases hc
  ·cases hc
 ·cases h
theorem zja {w:World} {g n:Nat} {cur:Array Value} {T:TypeId} (h:w.heap[g]?=some (.cells cur T (0,0))):∃ fr,(w.freeze ⟨g,0,none⟩ n).heap[g]?=some (.cells cur T fr):=by
 unfold World.freeze
 split
 ·exact ⟨_,h⟩
 ·simp only [Array.getElem?_modify,if_true,h,Option.map_some]
  exact ⟨_,rfl⟩
theorem zgq {w:World} {g n b:Nat} (hb:b≠g):(w.freeze ⟨g,0,none⟩ n).heap[b]?=w.heap[b]?:=by
 unfold World.freeze
 split
 ·rfl
 ·simp only [Array.getElem?_modify]
  rw [if_neg (fun e=>hb e.symm)]
theorem zgp {w:World} {g n:Nat}:(w.freeze ⟨g,0,none⟩ n).os=w.os∧(w.freeze ⟨g,0,none⟩ n).tape=w.tape∧(w.freeze ⟨g,0,none⟩ n).output=w.output∧(w.freeze ⟨g,0,none⟩ n).heap.size=w.heap.size:=by
 unfold World.freeze
 split
 ·exact ⟨rfl,rfl,rfl,rfl⟩
 ·exact ⟨rfl,rfl,rfl,by simp⟩
theorem znl {ι:Imm} {j:Lay} {own:Own} {σ:Store} {w w':World} {g id:Nat} {c0 c1:Cell} {cur:Array Value} {T:TypeId} {fr:Nat × Nat} (hG:GSim ι j own σ w) (hg:w.heap[g]?=some (.cells cur T (0,0))) (hown:own g=some (.ocell id 1))
  (hcs:aB σ.objs id=some [c0,c1]) (h1:w'.heap[g]?=some (.cells cur T fr)) (hoth:∀ b,b≠g→w'.heap[b]?=w.heap[b]?) (hos:w'.os=w.os) (ht:w'.tape=w.tape) (hout:w'.output=w.output) (hsz:w'.heap.size=w.heap.size) :
  ∃ own',GSim ι j own' {σ with objs:=aU σ.objs id [c0,⟨false,c1.d⟩]} w'∧Evo ι j own w ι j own' w' (fun _=>True)∧(mW own→mW own'):=by
 classical
 let own':Own:=fun b=>if b=g then none else own b
 have hsub:∀ b t,own' b=some t→own b=some t∧b≠g:=by
  intro b t h
  by_cases hb:b=g
  ·simp only [own',if_pos hb] at h; cases h
  ·simp only [own',if_neg hb] at h; exact ⟨h,hb⟩
 have hkeep:∀ b t,own b=some t→t≠.ocell id 1→own' b=some t∧b≠g:=by
  intro b t h hne
  have hb:b≠g:=fun e=>by subst e; rw [hown] at h; cases h; exact hne rfl
  exact ⟨by simp only [own',if_neg hb]; exact h,hb⟩
 have hown':∀ {t:Tag} {d:D} {v:Value},t≠.ocell id 1→eA ι own w t d v→eA ι own' w' t d v:=by
  intro t d v hne k
  unfold eA at k ⊢
  cases hp:tC d v with
  | none=>trivial
  | some p =>
   rw [hp] at k
   rcases k with k | ⟨b,cap,cur',T',k1,k2,k3,k4⟩
   ·exact .inl k
   ·obtain ⟨q1,q2⟩:=hkeep b t k2 hne
    exact .inr ⟨b,cap,cur',T',k1,q1,(hoth b q2).trans k3,k4⟩
 refine ⟨own',⟨fun b o v h=>?_,fun b t h hu=>hG.noimm b t (hsub b t h).1 hu,fun id' cs h=>?_,fun id' t cs k1 k2 b hb=>?_,fun id' x h=>?_,hG.jlt,fun b t h=>by rw [hsz]; exact hG.ownlt b t (hsub b t h).1⟩,
  ⟨hos,ht,hout,Nat.le_of_eq hsz.symm,fun _ _ _ h=>h,fun _ _ h=>h,fun b hb hn=>?_⟩,fun hS b t h=>hS b t (hsub b t h).1⟩
 ·by_cases hb:b=g
  ·subst hb
   have:=hG.holds b o v h
   rw [cell_of_row w b o cur T (0,0) hg] at this
   rw [cell_of_row w' b o cur T fr h1]
   exact this
  ·rw [World.cell?_of_block (w:=w) (w':=w') (a:=⟨b,o,none⟩) (hoth b hb)]
   exact hG.holds b o v h
 ·have hex:∃ cs0,aB σ.objs id'=some cs0∧cs0.length=cs.length∧∀ (i:Nat) (c:Cell),cs[i]?=some c→∃ c0,cs0[i]?=some c0∧c0.d=c.d∧(c.own=true→c0.own=true∧Tag.ocell id' i≠.ocell id 1):=by
   simp only [aT] at h
   by_cases hid:id=id'
   ·subst hid
    rw [if_pos rfl] at h
    cases h
    refine ⟨_,hcs,rfl,fun i c hi=>?_⟩
    match i with
    | 0 =>
     simp only [List.getElem?_cons_zero,Option.some.injEq] at hi
     subst hi
     exact ⟨c0,rfl,rfl,fun ho=>⟨ho,by simp⟩⟩
    | 1 =>
     simp only [List.getElem?_cons_succ,List.getElem?_cons_zero,Option.some.injEq] at hi
     subst hi
     exact ⟨c1,rfl,rfl,fun ho=>by cases ho⟩
    | n + 2=>simp at hi
   ·rw [if_neg hid] at h
    exact ⟨cs,h,rfl,fun i c hi=>⟨c,hi,rfl,fun ho=>⟨ho,fun e=>by cases e; exact hid rfl⟩⟩⟩
  obtain ⟨cs0,e1,e2,e3⟩:=hex
  obtain ⟨b,q1,q2,vs,T',r1,r2,r3⟩:=hG.objs id' cs0 e1
  obtain ⟨k1,k2⟩:=hkeep b _ q2 (by simp)
  refine ⟨b,q1,k1,vs,T',(hoth b k2).trans r1,by omega,fun i c hi=>?_⟩
  obtain ⟨c0',f1,f2,f3⟩:=e3 i c hi
  obtain ⟨v,s1,s2,s3,s4⟩:=r3 i c0' f1
  exact ⟨v,s1,s2,f2 ▸ s3,fun ho=>f2 ▸ hown' (f3 ho).2 (s4 (f3 ho).1)⟩
 ·have hex:∃ cs0,aB σ.objs id'=some cs0:=by
   simp only [aT] at k2
   split at k2
   ·rename_i hh; subst hh; exact ⟨_,hcs⟩
   ·exact ⟨cs,k2⟩
  obtain ⟨cs0,e1⟩:=hex
  have hty:=hG.tys id' t cs0 k1 e1 b hb
  obtain ⟨B2,q1,q2,_⟩:=hG.objs id' cs0 e1
  rw [hb] at q1
  cases q1
  exact hty.keep (hoth b (hkeep b _ q2 (by simp)).2) (fun _ _ h=>h)
 ·obtain ⟨b,q1,q2,q3⟩:=hG.oth id' x h
  obtain ⟨k1,k2⟩:=hkeep b _ q2 (by simp)
  exact ⟨b,q1,k1,q3.keep (hoth b k2) (fun _ _ _ h=>h) (fun _ _ h=>h)⟩
 ·have hbg:b≠g:=fun e=>by subst e; exact hn _ hown trivial
  exact ⟨hoth b hbg,by simp only [own',if_neg hbg],fun _=>rfl⟩
theorem zp1 {ds:List D} {σ σ':Store} {out:Out} (h:Ef ds σ=some (out,σ')):kA Go.Proofs.Tryz.prog κ 33 ds σ out σ':=by
 refine (iK (show isY 33=false from rfl)).2 ⟨⟨_,_,Go.Proofs.Tryz.func33,by kernel_rfl,rfl⟩,fun ι j own w vs hS hB hG hr=>?_⟩
 unfold Ef at h
 split at h
 ·rename_i id
  obtain ⟨t,h1,ha⟩:=aA h
  obtain ⟨h2,hb⟩:=aJ ha
  obtain ⟨cs,h3,hc⟩:=aA hb
  clear h ha hb
  have ht:t.t=oH:=by simpa using h2
  obtain ⟨v,rfl,hv⟩:=Xj hr
  simp only [Rep] at hv
  obtain ⟨b,hjb,rfl⟩:=hv
  obtain ⟨b',hjb',hown,row,T,hheap,hlen,hcell⟩:=hG.objs id cs h3
  rw [hjb] at hjb'
  cases hjb'
  obtain ⟨row',hrow',_⟩:=hG.tys id t cs h1 h3 b hjb
  rw [ht,hheap] at hrow'
  cases hrow'
  split at hc
  ·rename_i c0 c1
   split at hc
   ·rename_i k es hd
    obtain ⟨h4,hc⟩:=aJ hc
    obtain ⟨s,h5,hc⟩:=aA hc
    cases hc
    simp only [Bool.and_eq_true,Bool.not_eq_true',List.isEmpty_eq_false_iff] at h4
    obtain ⟨⟨ho,hk⟩,hne⟩:=h4
    obtain ⟨hk1,hk2⟩:k.el=5∧k.sz=1:=by simpa [Kt,pB] using hk
    obtain ⟨b1,b2⟩:=Az h5
    obtain ⟨v0,q0,_⟩:=hcell 0 c0 rfl
    obtain ⟨v1,q1,_,q3,q4⟩:=hcell 1 c1 rfl
    have hO:=q4 ho
    rw [hd] at hO q3
    simp only [Rep] at q3
    obtain ⟨ad,cap,hv1,hle,hmax,hrow⟩:=q3
    obtain ⟨g0,o0,hg0,hrr⟩:=hrow.resolve_left hne
    simp only [eA] at hO
    obtain ⟨g,cap',cur,T',e1,e2,e3,⟨e4,e5⟩,e6⟩:=hO.resolve_left (fun ⟨_,_,h⟩=>hne (h hk1))
    rw [hv1,hg0] at e1
    simp only [Value.slice.injEq,Option.some.injEq,Addr.mk.injEq,and_true,true_and] at e1
    obtain ⟨⟨rfl,rfl⟩,rfl⟩:=e1
    rw [hk1] at e4
    subst e4
    rw [hk2] at e5 hrr
    obtain ⟨rest,hrow2⟩:∃ rest,row=v0 :: v1 :: rest:=by
     have hl:2≤row.length:=by simpa using hlen
     match row,hl with
     | x :: y :: r,_ =>
      simp at q0 q1
      exact ⟨r,by rw [q0,q1]⟩
    have hs0:s≠[]:=by
     intro e
     subst e
     exact hne (List.eq_nil_of_length_eq_zero b1.symm)
    have hbk:w.heap[b]?=some (.cells ⟨v0 :: .slice (some ⟨g0,0,none⟩) s.length cap :: rest⟩ oH (0,0)):=by
     rw [hheap,hrow2,hv1,hg0,b1]
    refine (zkq b g0 cap v0 rest cur s w hs0 hbk e3 (by omega) hmax e5 (fun jx x hx=>?_)).mono ?_
    ·obtain ⟨u,r1,_,r3⟩:=hrr.at jx _ (b2 jx x hx)
     simp only [Rep] at r3
     subst r3
     have:=hG.holds _ _ _ (r1 0 (.int .u8 x.toNat) rfl)
     simpa using this
    ·rintro e w' ⟨rfl,rfl⟩
     obtain ⟨fr,hfr⟩:=zja (w:=w.drew) (g:=g0) (n:=s.length) (show w.drew.heap[g0]?=some (.cells cur 5 (0,0)) from e3)
     obtain ⟨f1,f2,f3,f4⟩:=zgp (w:=w.drew) (g:=g0) (n:=s.length)
     obtain ⟨own',g1,g2,g3⟩:=znl hG e3 e2 h3 hfr (fun b hb=>zgq (w:=w.drew) hb) f1 f2 f3 f4
     rw [hd] at g1
     refine ⟨ι,j,own',?_,g2,g3 hS,by simp only [Rep],fun h=>by cases h⟩
     rw [hd]
     exact g1
   ·cases hc
  ·cases hc
 ·cases h
end Go.Fu

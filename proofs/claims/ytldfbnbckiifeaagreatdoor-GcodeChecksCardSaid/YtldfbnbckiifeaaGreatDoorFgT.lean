/-
 The equations of the machine and of its small definitions,in one bundle.
-/
import Derived.Test.YtldfbnbckiifeaaGreatDoorMySym
import Derived.Test.YtldfbnbckiifeaaGreatDoorMyFrame
import Derived.Test.YtldfbnbckiifeaaGreatDoorFgIds
import Derived.Test.YtldfbnbckiifeaaGreatDoorFgRun
set_option maxHeartbeats 4000000
set_option linter.unusedSimpArgs false
set_option linter.unusedVariables false
set_option linter.unusedSectionVars false
set_option linter.defProp false
namespace Go.Mx
open Go
theorem szB:(∀ b:Bool,(false && b)=false)∧(∀ b:Bool,(true && b)=b)∧(∀ b:Bool,(b && true)=b)∧(∀ b:Bool,(b && false)=false)∧(∀ b:Bool,(b || true)=true)∧(∀ b:Bool,(true || b)=true)∧(∀ b:Bool,(b || false)=b)∧(∀ b:Bool,(false || b)=b)∧(∀ b:Bool,(true == b)=b)∧(∀ b:Bool,(false == b)=!b)∧((!true)=false)∧((!false)=true) :=
 ⟨Bool.false_and,Bool.true_and,Bool.and_true,Bool.and_false,Bool.or_true,Bool.true_or,Bool.or_false,Bool.false_or,Bool.true_beq,Bool.false_beq,Bool.not_true,Bool.not_false⟩
theorem szL:(∀ {α β:Type} {f:α→β} {a:α} {l:List α},(a :: l).map f=f a :: l.map f)∧(∀ {α β:Type} {f:α→β},([]:List α).map f=[])∧(∀ {α:Type} {a:α} {l:List α},(a :: l).length=l.length + 1)∧(∀ {α:Type},([]:List α).length=0)∧(∀ {α:Type} (l:List α),l ++ []=l)∧(∀ {α:Type} (l:List α),[] ++ l=l)∧(∀ {α:Type} {a:α} {l m:List α},(a :: l) ++ m=a :: (l ++ m))∧(∀ {α:Type},([]:List α).isEmpty=true)∧(∀ {α:Type} {a:α} {l:List α},(a :: l).isEmpty=false)∧(∀ {α:Type} {p:α→Bool},([]:List α).all p=true)∧(∀ {α:Type} {p:α→Bool} {a:α} {l:List α},(a :: l).all p=(p a && l.all p))∧(∀ {α:Type} (a b:α),(some a).getD b=a)∧(∀ {α:Type} (b:α),(none:Option α).getD b=b) :=
 ⟨List.map_cons,List.map_nil,List.length_cons,List.length_nil,List.append_nil,List.nil_append,List.cons_append,List.isEmpty_nil,List.isEmpty_cons,List.all_nil,List.all_cons,fun a b=>Option.getD_some,fun b=>Option.getD_none⟩
theorem szQ:(∀ n:Nat,0 + n=n)∧(∀ n:Nat,n + 0=n)∧(∀ {α:Type} [BEq α] [ReflBEq α] {a:α},(a == a)=true)∧(∀ [h:Decidable True],@decide True h=true)∧(∀ [h:Decidable False],@decide False h=false)∧(∀ n:Nat,n≤n) :=
 ⟨Nat.zero_add,Nat.add_zero,beq_self_eq_true _,fun {_}=>decide_true _,fun {_}=>decide_false _,Nat.le_refl⟩
theorem szC:(∀ {α β:Type} (n:β) (f:α→β),caseO none n f=n)∧(∀ {α β:Type} (a:α) (n:β) (f:α→β),caseO (some a) n f=f a)∧(∀ {β:Type} (x y:β),ifB true x y=x)∧(∀ {β:Type} (x y:β),ifB false x y=y)∧(∀ {α β:Type} (x:Option α) (f:α→Option β),bindO x f=caseO x none f) :=
 ⟨zao,zad,zac,zab,fun _ _=>rfl⟩
def sA0:=And.intro (And.intro (And.intro (And.intro (And.intro szQ (And.intro szB szL)) (And.intro szC (And.intro @zjr.eq_1 @mem.eq_1))) (And.intro (And.intro @mem.eq_2 (And.intro @zbb.eq_1 @zf0.eq_1)) (And.intro @zf0.eq_2 (And.intro @ze1.eq_1 @ze1.eq_2)))) (And.intro (And.intro (And.intro @addr.eq_1 (And.intro @addr.eq_2 @addr.eq_3)) (And.intro @opd.eq_1 (And.intro @opd.eq_2 @opd.eq_3))) (And.intro (And.intro @opds.eq_1 (And.intro @opds.eq_2 @lkill.eq_1)) (And.intro @lkill.eq_2 (And.intro @lfree.eq_1 @za8.eq_1))))) (And.intro (And.intro (And.intro (And.intro @za8.eq_2 (And.intro @Env.put.eq_1 @Env.put.eq_2)) (And.intro @Env.putV.eq_1 (And.intro @Env.putV.eq_2 @Env.putV.eq_3))) (And.intro (And.intro @Env.box.eq_1 (And.intro @Env.bare.eq_1 @zcn.eq_1)) (And.intro @zcn.eq_2 (And.intro @zcn.eq_3 @zcn.eq_4)))) (And.intro (And.intro (And.intro @zch.eq_1 (And.intro @zch.eq_2 @binD.eq_1)) (And.intro @binD.eq_2 (And.intro @binD.eq_3 @binBD.eq_1))) (And.intro (And.intro @binBD.eq_2 (And.intro @zjh.eq_1 @zjh.eq_2)) (And.intro @zjh.eq_3 (And.intro @zda.eq_1 @zda.eq_2)))))
def sA1:=And.intro (And.intro (And.intro (And.intro (And.intro @zda.eq_3 (And.intro @zda.eq_4 @zda.eq_5)) (And.intro @zda.eq_6 (And.intro @zda.eq_7 @zda.eq_8))) (And.intro (And.intro @zda.eq_9 (And.intro @zda.eq_10 @zda.eq_11)) (And.intro @zda.eq_12 (And.intro @zfd.eq_1 @zfd.eq_2)))) (And.intro (And.intro (And.intro @zfd.eq_3 (And.intro @zfd.eq_4 @zfd.eq_5)) (And.intro @zfd.eq_6 (And.intro @zfd.eq_7 @zfd.eq_8))) (And.intro (And.intro @unD.eq_1 (And.intro @unD.eq_2 @unD.eq_3)) (And.intro @mmD.eq_1 (And.intro @mmD.eq_2 @AOpd.drop.eq_1))))) (And.intro (And.intro (And.intro (And.intro @AOpd.drop.eq_2 (And.intro @Cell.of.eq_1 @zca.eq_1)) (And.intro @zca.eq_2 (And.intro @zca.eq_3 @zca.eq_4))) (And.intro (And.intro @zb9.eq_1 (And.intro @zb9.eq_2 @zb9.eq_3)) (And.intro @zb9.eq_4 (And.intro @zb9.eq_5 @zb9.eq_6)))) (And.intro (And.intro (And.intro @zb9.eq_7 (And.intro @zb9.eq_8 @zb9.eq_9)) (And.intro @zhl.eq_1 (And.intro @zhl.eq_2 @zhl.eq_3))) (And.intro (And.intro @eqlB.eq_1 (And.intro @eqlB.eq_2 @eqlB.eq_3)) (And.intro @zom.eq_1 (And.intro @zom.eq_2 @takeC.eq_1)))))
def sA2:=And.intro (And.intro (And.intro (And.intro (And.intro @takeC.eq_2 (And.intro @takeC.eq_3 @takeC.eq_4)) (And.intro @zbw.eq_1 (And.intro @zbw.eq_2 @zbw.eq_3))) (And.intro (And.intro @fits.eq_1 (And.intro @zbh.eq_1 @putCells.eq_1)) (And.intro @putCells.eq_2 (And.intro @putCells.eq_3 @putCells.eq_4)))) (And.intro (And.intro (And.intro @putD.eq_1 (And.intro @putD.eq_2 @putD.eq_3)) (And.intro @putD.eq_4 (And.intro @fillD.eq_1 @fillD.eq_2))) (And.intro (And.intro @zfq.eq_1 (And.intro @zfq.eq_2 @optLo.eq_1)) (And.intro @optLo.eq_2 (And.intro @optHi.eq_1 @optHi.eq_2))))) (And.intro (And.intro (And.intro (And.intro @za3.eq_1 (And.intro @za3.eq_2 @zbm.eq_1)) (And.intro @zbm.eq_2 (And.intro @zdi.eq_1 @zdi.eq_2))) (And.intro (And.intro @zfa.eq_1 (And.intro @zfa.eq_2 @zfa.eq_3)) (And.intro @zd1.eq_1 (And.intro @zd1.eq_2 @zxq)))) (And.intro (And.intro (And.intro @zd4b (And.intro @zg5b @zabb)) (And.intro @zt0 (And.intro @zx2 @zbob))) (And.intro (And.intro @zu7 (And.intro @zzm @zrb)) (And.intro @zrc (And.intro @zeub @zx3)))))
def sA3:=And.intro (And.intro (And.intro (And.intro (And.intro @zdvb (And.intro @zdub @zzx)) (And.intro @zcc (And.intro @zdmb @zzr))) (And.intro (And.intro @zffb (And.intro @zfdb @zh4b)) (And.intro @zccb (And.intro @zur @zzt)))) (And.intro (And.intro (And.intro @zdqb (And.intro @zw2 @zyk)) (And.intro @zvh (And.intro @zfcb @zcbb))) (And.intro (And.intro @zfeb (And.intro @zrh @zoz)) (And.intro @zh5b (And.intro @zym @zceb))))) (And.intro (And.intro (And.intro (And.intro @zuo (And.intro @zgsb @zgqb)) (And.intro @zgrb (And.intro @bool?_bool @bool?_undef))) (And.intro (And.intro @int?_int (And.intro @str?_str @tup?_tup)) (And.intro @fn?_fn (And.intro @fnF?_fn @fn?_yld)))) (And.intro (And.intro (And.intro @agg?_agg (And.intro @row?_list @isNil?_iface)) (And.intro @isNil?_nil (And.intro @ze0b @ze2b))) (And.intro (And.intro @zb0b (And.intro @ze5b @zb4b)) (And.intro @zb2b (And.intro @zb3b @ze4b)))))
def sA4:=And.intro (And.intro (And.intro (And.intro (And.intro @zx9 (And.intro @zhxb @zya)) (And.intro @zry (And.intro @zlub @zlwb))) (And.intro (And.intro @zixb (And.intro @zlzb @zi1b)) (And.intro @zizb (And.intro @zi0b @zlyb)))) (And.intro (And.intro (And.intro @zgdb (And.intro @zwr @zojb)) (And.intro @zgeb (And.intro @zodb @zofb))) (And.intro (And.intro @zlpb (And.intro @zoib @zltb)) (And.intro @zlrb (And.intro @zlsb @zohb))))) (And.intro (And.intro (And.intro (And.intro @zivb (And.intro @zy7 @ok_fn)) (And.intro @ziwb (And.intro @ze1b @zb1b))) (And.intro (And.intro @ze3b (And.intro @zva @zlvb)) (And.intro @ziyb (And.intro @zlxb @zdcb)))) (And.intro (And.intro (And.intro @zoeb (And.intro @zlqb @zogb)) (And.intro @zgab (And.intro @zf2b @zcvb))) (And.intro (And.intro @zxz (And.intro @zyy @zctb)) (And.intro @zvx (And.intro @zcqb @zcpb)))))
def sA5:=And.intro (And.intro (And.intro (And.intro (And.intro @zy3 (And.intro @zy1 @zy2)) (And.intro @zeu (And.intro @zcrb @zcsb))) (And.intro (And.intro @zyw (And.intro @zcj @zgu)) (And.intro @zel (And.intro @zs5 @zcxb)))) (And.intro (And.intro (And.intro @zcwb (And.intro @zy0 @zx0)) (And.intro @zct (And.intro @zdx @nat?_nat))) (And.intro (And.intro @nat?_zero (And.intro @zgob @zdhb)) (And.intro @zdib (And.intro @zvk @zvj))))) (And.intro (And.intro (And.intro (And.intro @zt2 (And.intro @zvl @zt5)) (And.intro @zt4 (And.intro @zt3 @zd8b))) (And.intro (And.intro @zd7b (And.intro @zacb @zd9b)) (And.intro @zaeb (And.intro @zadb @zijb)))) (And.intro (And.intro (And.intro @ziib (And.intro @zfxb @zikb)) (And.intro @zf0b (And.intro @zfzb @zfyb))) (And.intro (And.intro @zb0.eq_1 (And.intro @zan.eq_1 @zan.eq_2)) (And.intro @zan.eq_3 (And.intro @zan.eq_4 @zan.eq_5)))))
def sA6:=And.intro (And.intro (And.intro (And.intro (And.intro @zan.eq_6 (And.intro @zan.eq_7 @zan.eq_8)) (And.intro @zan.eq_9 (And.intro @zan.eq_10 @zan.eq_11))) (And.intro (And.intro @zan.eq_12 (And.intro @zan.eq_13 @zan.eq_14)) (And.intro @zan.eq_15 (And.intro @zan.eq_16 @zan.eq_17)))) (And.intro (And.intro (And.intro @zan.eq_18 (And.intro @zan.eq_19 @zan.eq_20)) (And.intro @zan.eq_21 (And.intro @zan.eq_22 @zan.eq_23))) (And.intro (And.intro @zan.eq_24 (And.intro @zan.eq_25 @zan.eq_26)) (And.intro @zan.eq_27 (And.intro @zan.eq_28 @zan.eq_29))))) (And.intro (And.intro (And.intro (And.intro @zan.eq_30 (And.intro @zan.eq_31 @zan.eq_32)) (And.intro @zan.eq_33 (And.intro @zan.eq_34 @zan.eq_35))) (And.intro (And.intro @zer.eq_1 (And.intro @zer.eq_2 @zer.eq_3)) (And.intro @zer.eq_4 (And.intro @zer.eq_5 @zhw.eq_1)))) (And.intro (And.intro (And.intro @zhw.eq_2 (And.intro @evalV.eq_1 @evalV.eq_2)) (And.intro @evalV.eq_3 (And.intro @evalV.eq_4 @evalV.eq_5))) (And.intro (And.intro @evalV.eq_6 (And.intro @evalV.eq_7 @evalV.eq_8)) (And.intro @evalV.eq_9 (And.intro @evalV.eq_10 @evalV.eq_11)))))
def sA7:=And.intro (And.intro (And.intro (And.intro (And.intro @evalV.eq_12 (And.intro @evalV.eq_13 @evalV.eq_14)) (And.intro @evalV.eq_15 (And.intro @evalV.eq_16 @evalV.eq_17))) (And.intro (And.intro @evalV.eq_18 (And.intro @evalV.eq_19 @evalV.eq_20)) (And.intro @evalV.eq_21 (And.intro @evalV.eq_22 @evalV.eq_23)))) (And.intro (And.intro (And.intro @evalV.eq_24 (And.intro @evalV.eq_25 @evalV.eq_26)) (And.intro @evalV.eq_27 (And.intro @evalV.eq_28 @evalV.eq_29))) (And.intro (And.intro @evalV.eq_30 (And.intro @evalV.eq_31 @evalV.eq_32)) (And.intro @evalV.eq_33 (And.intro @evalV.eq_34 @evalV.eq_35))))) (And.intro (And.intro (And.intro (And.intro @evalV.eq_36 (And.intro @evalV.eq_37 @evalV.eq_38)) (And.intro @evalV.eq_39 (And.intro @evalV.eq_40 @AOp.kind.eq_1))) (And.intro (And.intro @AOp.kind.eq_2 (And.intro @AOp.kind.eq_3 @AOp.kind.eq_4)) (And.intro @AOp.kind.eq_5 (And.intro @AOp.kind.eq_6 @aget.eq_1)))) (And.intro (And.intro (And.intro @aget.eq_2 (And.intro @aset.eq_1 @aset.eq_2)) (And.intro @adel.eq_1 (And.intro @adel.eq_2 @adel1.eq_1))) (And.intro (And.intro @adel1.eq_2 (And.intro @nth.eq_1 @nth.eq_2)) (And.intro @nth.eq_3 (And.intro @mt.eq_1 @mw.eq_1)))))
def sA8:=And.intro (And.intro @mo.eq_1 @Nat.ble.eq_1) (And.intro @Nat.ble.eq_2 @Nat.ble.eq_3)
def sA:=And.intro (And.intro (And.intro sA0 sA1) (And.intro sA2 sA3)) (And.intro (And.intro sA4 sA5) (And.intro sA6 (And.intro sA7 sA8)))
end Go.Mx
namespace Go.Mx
open Go
section
variable [LoopKit] {P:Program} {κ:Ctx} {Post:FuncId→List D→Cell→Prop}
def Pure (P:Program) (κ:Ctx) (f:FuncId) (ds:List D) (c:Cell):Prop:=∀ σ,zc9 P κ f ds σ (.ret c) σ
def Has (P:Program) (κ:Ctx) (Post:FuncId→List D→Cell→Prop) (f:FuncId) (ds:List D):Prop:=∃ c,Post f ds c∧Pure P κ f ds c
open Classical in
noncomputable def orc (P:Program) (κ:Ctx) (Post:FuncId→List D→Cell→Prop):CallF:=fun f ds σ=>if h:Has P κ Post f ds then some (.ret (Classical.choose h),σ) else none
theorem zggb:zc1 P κ (orc P κ Post):=by
 intro f ds σ out σ' h
 unfold orc at h
 split at h
 ·rename_i hs
  cases h
  exact (Classical.choose_spec hs).2 σ
 ·cases h
theorem zl1b {f:FuncId} {ds:List D} (h:Has P κ Post f ds):∃ c,Post f ds c∧∀ σ,orc P κ Post f ds σ=some (.ret c,σ):=by
 refine ⟨Classical.choose h,(Classical.choose_spec h).1,fun σ=>?_⟩
 unfold orc
 rw [dif_pos h]
theorem Pure.weak {f:FuncId} {ds:List D} {o:Bool} {d:D} (hY:isY f=false) (h:Pure P κ f ds ⟨o,d⟩):Pure P κ f ds ⟨false,d⟩:=by
 intro σ
 have h1:=(zcq hY).1 (h σ)
 refine (zcq hY).2 ⟨h1.1,fun ι j own w vs hS hB hG hr=>(h1.2 ι j own w vs hS hB hG hr).mono ?_⟩
 rintro e w' ⟨ι',j',own',k1,k2,k3,k4⟩
 refine ⟨ι',j',own',k1,k2,k3,?_⟩
 cases e with
 | returned v=>exact ⟨k4.1,fun h=>by cases h⟩
 | panicked c=>exact k4
 | outgrown=>exact k4
theorem zsb:zjf P κ (fun _ _ _=>none):=fun _ _ _ _ _ h=>by cases h
theorem zgn [K:KitOf P ‹LoopKit›] {C:CallF} {R:RecF} (hC:zc1 P κ C) (hR:zjo P κ R) {n f:Nat} {fn:Func} {af:AFun} {ds:List D} {σ':Store} {c:Cell} (hY:isY f=false) (hfn:P.funcs[f]?=some fn) (hok:okFun P fn af=true) (hlen:ds.length=af.nargs)
  (hd:zal ds=true) (hc:noPtr c.d=true) (h:(match exec C n none af.body (zbb ds) σ0 with
     | some r=>zfh R (fun _ _ _=>none) false af 0 r
     | none=>none)=some (.ret c,σ')):Pure P κ f ds c :=
 fun σ=>zqu hY (zkab hC zsb hR hY hfn hok hlen h) hd hc σ
abbrev Specs:=List (FuncId × (List D→Cell→Prop))
def zu1 (S:Specs) (f:FuncId) (ds:List D) (c:Cell):Prop:=∃ s,aget S f=some s∧s ds c
def has (S:Specs) (f:FuncId):Bool:=caseO (aget S f) false fun _=>true
noncomputable def runS (P:Program) (κ:Ctx) (Γ:FuncId→Option AFun) (R:RecF) (X:CallF) (S:Specs) (n:Nat):CallF :=
 runQ (fun f=>ifB (has S f) none (Γ f)) R (fun f ds σ=>ifB (has S f) (orc P κ (zu1 S) f ds σ) (X f ds σ)) n false
noncomputable def runSD (P:Program) (κ:Ctx) (Γ:FuncId→Option AFun) (R:RecF) (X:CallF) (S:Specs) (n:Nat):CallF :=
 runQ (fun f=>ifB (has S f) none (Γ f)) R (fun f ds σ=>ifB (has S f) (orc P κ (zu1 S) f ds σ) (X f ds σ)) n true
theorem zml [K:KitOf P ‹LoopKit›] {Γ:FuncId→Option AFun} {R:RecF} {X:CallF} {S:Specs} (hΓ:Holds P Γ) (hR:zjo P κ R) (hX:zc1 P κ X) (n:Nat):zc1 P κ (runS P κ Γ R X S n)∧zjf P κ (runSD P κ Γ R X S n):=by
 refine zn6 (fun f af h=>?_) hR (fun f ds σ out σ' h=>?_) n
 ·cases hs:has S f with
  | true=>rw [hs] at h; cases h
  | false=>rw [hs] at h; exact hΓ f af h
 ·cases hs:has S f with
  | true=>rw [hs] at h; exact zggb _ _ _ _ _ h
  | false=>rw [hs] at h; exact hX _ _ _ _ _ h
theorem zp5 {Γ:FuncId→Option AFun} {R:RecF} {X:CallF} {S:Specs} {n:Nat} {f:FuncId} {af:AFun} {ds:List D} {σ:Store} (hs:has S f=false) (h:Γ f=some af) (hl:ds.length=af.nargs) :
  runS P κ Γ R X S (n + 1) f ds σ=finX R (runSD P κ Γ R X S n) af σ.next (exec (runS P κ Γ R X S n) n none af.body (zbb ds) σ):=zi9b (by rw [hs]; exact h) hl
theorem zjbb {Γ:FuncId→Option AFun} {R:RecF} {X:CallF} {S:Specs} {n:Nat} {f:FuncId} {ds:List D} {σ:Store} (hs:has S f=false) (h:Γ f=none) (hY:isY f=false):runS P κ Γ R X S (n + 1) f ds σ=X f ds σ:=by
 refine (zw0 (by rw [hs]; exact h) hY).trans ?_
 rw [hs]
 rfl
theorem zw1 {Γ:FuncId→Option AFun} {R:RecF} {X:CallF} {S:Specs} {f:FuncId} {s:List D→Cell→Prop} {ds:List D} {c:Cell} (hf:aget S f=some s) (hY:isY f=false) (hs:s ds c) (hp:Pure P κ f ds c):∃ c',s ds c'∧∀ n σ,runS P κ Γ R X S (n + 1) f ds σ=some (.ret c',σ):=by
 have hh:has S f=true:=by unfold has; rw [hf]; rfl
 obtain ⟨c',⟨s',h1,h2⟩,h3⟩:=zl1b (P:=P) (κ:=κ) (Post:=zu1 S) (f:=f) (ds:=ds) ⟨c,⟨s,hf,hs⟩,hp⟩
 rw [hf] at h1
 cases h1
 refine ⟨c',h2,fun n σ=>?_⟩
 refine (zw0 (by rw [hh]; rfl) hY).trans ?_
 rw [hh]
 exact h3 σ
end
end Go.Mx
namespace Go.Fu
open Go Go.Mx
set_option maxRecDepth 10000
abbrev Tx:=List UInt8
def dSs (l:List Tx):D:=dlist k_0 (l.map D.str)
structure Hd where
 form:Int
 num:Int
 name:Tx
 vars:List Tx
inductive Co where
 | mk (f n:Int) (s:Tx) (ks:List Co) (bs:List (Tx × Co)) (al:List (Hd × Co))
namespace Co
def f:Co→Int
 | .mk f _ _ _ _ _=>f
def n:Co→Int
 | .mk _ n _ _ _ _=>n
def s:Co→Tx
 | .mk _ _ s _ _ _=>s
def ks:Co→List Co
 | .mk _ _ _ ks _ _=>ks
def bs:Co→List (Tx × Co)
 | .mk _ _ _ _ bs _=>bs
def al:Co→List (Hd × Co)
 | .mk _ _ _ _ _ al=>al
end Co
mutual
def dCo:Co→D
 | .mk f n s ks bs al=>.agg [.int .i64 f,.int .i64 n,.str s,.int .i64 0,.int .i64 0,.str [],.nils,dlist k_8 (dKs ks),dlist k_24 (dBs bs),dlist k_23 (dAs al)]
def dKs:List Co→List D
 | []=>[]
 | c :: r=>dCo c :: dKs r
def dBs:List (Tx × Co)→List D
 | []=>[]
 | (s,c) :: r=>.agg (.str s :: .int .i64 0 :: .int .i64 0 :: .str [] :: .nils :: (dCo c).cells) :: dBs r
def dAs:List (Hd × Co)→List D
 | []=>[]
 | (h,c) :: r=>.agg (.int .i64 h.form :: .int .i64 h.num :: .str h.name :: dSs h.vars :: (dCo c).cells) :: dAs r
end
def dB (b:Tx × Co):D:=.agg (.str b.1 :: .int .i64 0 :: .int .i64 0 :: .str [] :: .nils :: (dCo b.2).cells)
def dA (a:Hd × Co):D:=.agg (.int .i64 a.1.form :: .int .i64 a.1.num :: .str a.1.name :: dSs a.1.vars :: (dCo a.2).cells)
theorem zavb:∀ l:List Co,dKs l=l.map dCo
 | []=>by simp [dKs]
 | c :: r=>by simp [dKs,zavb r]
theorem zasb:∀ l:List (Tx × Co),dBs l=l.map dB
 | []=>by simp [dBs]
 | (s,c) :: r=>by simp [dBs,zasb r,dB]
theorem zk5:∀ l:List (Hd × Co),dAs l=l.map dA
 | []=>by simp [dAs]
 | (s,c) :: r=>by simp [dAs,zk5 r,dA]
def cCo (c:Co):List D:=[.int .i64 c.f,.int .i64 c.n,.str c.s,.int .i64 0,.int .i64 0,.str [],.nils,dlist k_8 (c.ks.map dCo),dlist k_24 (c.bs.map dB),dlist k_23 (c.al.map dA)]
theorem zaf (c:Co):dCo c=.agg (cCo c):=by
 cases c
 simp only [dCo,cCo,Co.f,Co.n,Co.s,Co.ks,Co.bs,Co.al,zavb,zasb,zk5]
theorem zd9 (c:Co):(dCo c).cells=cCo c:=by rw [zaf]; rfl
theorem zkb (c:Co):(dCo c).cells.length=10:=by rw [zd9]; rfl
theorem agg?_dCo (c:Co):(dCo c).agg?=some (cCo c):=by rw [zaf]; rfl
theorem zq8 (c:Co):(dCo c).ok=true:=by
 rw [zaf]
 simp only [cCo,D.ok,List.all_cons,D.one,zcj,List.all_nil,Bool.and_self]
theorem dB_eq (b:Tx × Co):dB b=.agg (.str b.1 :: .int .i64 0 :: .int .i64 0 :: .str [] :: .nils :: cCo b.2):=by rw [dB,zd9]
theorem dA_eq (a:Hd × Co):dA a=.agg (.int .i64 a.1.form :: .int .i64 a.1.num :: .str a.1.name :: dSs a.1.vars :: cCo a.2):=by rw [dA,zd9]
theorem ok_dB (b:Tx × Co):(dB b).ok=true:=by
 rw [dB_eq]
 simp only [cCo,D.ok,List.all_cons,D.one,zcj,List.all_nil,Bool.and_self]
theorem ok_dA (b:Hd × Co):(dA b).ok=true:=by
 rw [dA_eq]
 simp only [cCo,dSs,D.ok,List.all_cons,D.one,zcj,List.all_nil,Bool.and_self]
theorem zhvb (b:Tx × Co):(dB b).cells.length=15:=by rw [dB_eq]; rfl
theorem zhub (b:Hd × Co):(dA b).cells.length=14:=by rw [dA_eq]; rfl
theorem ze2 {k:RowK}:∀ {a b:List D},dlist k a=dlist k b→a=b
 | [],[],_=>rfl
 | [],_ :: _,h=>by cases h
 | _ :: _,[],h=>by cases h
 | x :: a,y :: b,h=>by
  simp only [dlist,D.list.injEq,true_and] at h
  exact h
theorem zhq {α:Type} {g:α→D} (hg:∀ {a b},g a=g b→a=b):∀ {l m:List α},l.map g=m.map g→l=m
 | [],[],_=>rfl
 | [],_ :: _,h=>by simp at h
 | _ :: _,[],h=>by simp at h
 | x :: l,y :: m,h=>by
  simp only [List.map_cons,List.cons.injEq] at h
  rw [hg h.1,zhq hg h.2]
theorem zmeb {a b:Tx} (h:D.str a=D.str b):a=b:=by cases h; rfl
theorem zba {a b:List Tx} (h:dSs a=dSs b):a=b:=zhq zmeb (ze2 h)
mutual
theorem zcs:∀ {a b:Co},dCo a=dCo b→a=b
 | .mk f n s ks bs al,.mk f2 n2 s2 ks2 bs2 al2,h=>by
  simp only [dCo,D.agg.injEq,List.cons.injEq,D.int.injEq,D.str.injEq,and_true,true_and] at h
  obtain ⟨rfl,rfl,rfl,h1,h2,h3⟩:=h
  rw [zaub (ze2 h1),zarb (ze2 h2),zr0 (ze2 h3)]
theorem zaub:∀ {a b:List Co},dKs a=dKs b→a=b
 | [],[],_=>rfl
 | [],_ :: _,h=>by simp [dKs] at h
 | _ :: _,[],h=>by simp [dKs] at h
 | x :: l,y :: m,h=>by
  simp only [dKs,List.cons.injEq] at h
  rw [zcs h.1,zaub h.2]
theorem zarb:∀ {a b:List (Tx × Co)},dBs a=dBs b→a=b
 | [],[],_=>rfl
 | [],_ :: _,h=>by simp [dBs] at h
 | _ :: _,[],h=>by simp [dBs] at h
 | (s,x) :: l,(t,y) :: m,h=>by
  simp only [dBs,List.cons.injEq,D.agg.injEq,D.str.injEq,true_and] at h
  have hx:dCo x=dCo y:=by rw [zaf,zaf,← zd9 x,← zd9 y,h.1.2]
  rw [zcs hx,zarb h.2,h.1.1]
theorem zr0:∀ {a b:List (Hd × Co)},dAs a=dAs b→a=b
 | [],[],_=>rfl
 | [],_ :: _,h=>by simp [dAs] at h
 | _ :: _,[],h=>by simp [dAs] at h
 | (s,x) :: l,(t,y) :: m,h=>by
  simp only [dAs,List.cons.injEq,D.agg.injEq,D.str.injEq,D.int.injEq,true_and] at h
  obtain ⟨⟨h1,h2,h3,h4,h5⟩,h6⟩:=h
  have hx:dCo x=dCo y:=by rw [zaf,zaf,← zd9 x,← zd9 y,h5]
  have hs:s=t:=by
   cases s; cases t
   simp only at h1 h2 h3 h4
   rw [h1,h2,h3,zba h4]
  rw [zcs hx,zr0 h6,hs]
end
structure In where
 op:Tx
 n:Int
 m:Int
 name:Tx
def dI (i:In):D:=.agg [.str i.op,.int .i64 i.n,.int .i64 i.m,.str i.name]
theorem zqs {a b:In} (h:dI a=dI b):a=b:=by
 cases a; cases b
 simpa [dI] using h
def dIs (l:List In):D:=dlist k_1 (l.map dI)
theorem zr1 {a b:List In} (h:dIs a=dIs b):a=b:=zhq zqs (ze2 h)
structure Cd where
 name:Tx
 arity:Int
 body:List In
def dD (c:Cd):D:=.agg [.str c.name,.int .i64 c.arity,dIs c.body]
def dDs (l:List Cd):D:=dlist k_5 (l.map dD)
structure Su where
 name:Tx
 ps:List Tx
 body:Co
def dU (s:Su):D:=.agg (.str s.name :: dSs s.ps :: cCo s.body)
def dUs (l:List Su):D:=dlist k_13 (l.map dU)
theorem ze9b {a b:Su} (h:dU a=dU b):a=b:=by
 obtain ⟨n,p,c⟩:=a
 obtain ⟨n2,p2,c2⟩:=b
 simp only [dU,D.agg.injEq,List.cons.injEq,D.str.injEq] at h
 obtain ⟨rfl,h2,h3⟩:=h
 have hx:dCo c=dCo c2:=by rw [zaf,zaf,h3]
 rw [zba h2,zcs hx]
theorem zawb {a b:List Su} (h:dUs a=dUs b):a=b:=zhq ze9b (ze2 h)
structure Fd where
 name:Tx
 tag:Int
 many:Int
 arity:Int
def dF (f:Fd):D:=.agg [.str f.name,.int .i64 f.tag,.int .i64 f.many,.int .i64 f.arity,.int .i64 0,.int .i64 0,.str [],.nils]
def dFs (l:List Fd):D:=dlist k_130 (l.map dF)
theorem zds {k:RowK}:∀ l:List D,noPtr (dlist k l)=zal l
 | []=>rfl
 | x :: l=>rfl
theorem zc8 {α:Type} {g:α→D} (h:∀ a,noPtr (g a)=true):∀ l:List α,zal (l.map g)=true
 | []=>rfl
 | x :: l=>by simp [zal,h x,zc8 h l]
theorem zau (l:List Tx):noPtr (dSs l)=true:=by rw [dSs,zds]; exact zc8 (fun _=>rfl) l
mutual
theorem za4:∀ c:Co,noPtr (dCo c)=true
 | .mk f n s ks bs al=>by simp [dCo,noPtr,zal,zds,zth ks,ztg bs,znq al]
theorem zth:∀ l:List Co,zal (dKs l)=true
 | []=>by simp [dKs,zal]
 | c :: r=>by simp [dKs,zal,za4 c,zth r]
theorem ztg:∀ l:List (Tx × Co),zal (dBs l)=true
 | []=>by simp [dBs,zal]
 | (s,c) :: r=>by
  have h:=za4 c
  rw [zaf] at h
  simp only [noPtr] at h
  simp [dBs,zal,noPtr,ztg r,zd9,h]
theorem znq:∀ l:List (Hd × Co),zal (dAs l)=true
 | []=>by simp [dAs,zal]
 | (s,c) :: r=>by
  have h:=za4 c
  rw [zaf] at h
  simp only [noPtr] at h
  simp [dAs,zal,noPtr,znq r,zd9,h,zau]
end
theorem zf6b (c:Co):zal (cCo c)=true:=by
 have h:=za4 c
 rw [zaf] at h
 simpa only [noPtr] using h
theorem zdq (l:List In):noPtr (dIs l)=true:=by rw [dIs,zds]; exact zc8 (fun _=>rfl) l
theorem zmb (c:Cd):noPtr (dD c)=true:=by simp [dD,noPtr,zal,zdq]
theorem ze3 (l:List Cd):noPtr (dDs l)=true:=by rw [dDs,zds]; exact zc8 zmb l
theorem zv9 (s:Su):noPtr (dU s)=true:=by simp [dU,noPtr,zal,zau,zf6b]
theorem zdr (l:List Su):noPtr (dUs l)=true:=by rw [dUs,zds]; exact zc8 zv9 l
theorem zde (l:List Fd):noPtr (dFs l)=true:=by rw [dFs,zds]; exact zc8 (fun _=>rfl) l
end Go.Fu
namespace Go.Fu
open Go Go.Mx
set_option maxRecDepth 1000000
theorem zln:zc1 Go.Proofs.Tryz.prog κ Xa:=by
 intro f ds σ out σ' h
 unfold Xa at h
 by_cases h1:f=n_92
 ·subst h1
  simp only [beq_self_eq_true,zac] at h
  obtain ⟨d,h2,h⟩:=zaa h
  cases h
  exact zjwb h2 σ
 have e1:(f == n_92)=false:=by simpa using h1
 rw [e1,zab] at h
 by_cases h2:f=n_93
 ·subst h2
  simp only [beq_self_eq_true,zac] at h
  exact zjvb h
 have e2:(f == n_93)=false:=by simpa using h2
 rw [e2,zab] at h
 by_cases h3:f=n_158
 ·subst h3
  simp only [beq_self_eq_true,zac] at h
  exact zeib h
 have e3:(f == n_158)=false:=by simpa using h3
 rw [e3,zab] at h
 cases h
abbrev OkP (f:FuncId) (ds:List D) (c:Cell):Prop:=Pure Go.Proofs.Tryz.prog κ f ds c
noncomputable def T (S:Specs) (n:Nat):CallF:=runS Go.Proofs.Tryz.prog κ Γa Ra Xa S n
noncomputable def TD (S:Specs) (n:Nat):CallF:=runSD Go.Proofs.Tryz.prog κ Γa Ra Xa S n
theorem zav (S:Specs) (n:Nat):zc1 Go.Proofs.Tryz.prog κ (T S n):=(zml Γa_holds ze5 zln n).1
theorem T_fun {S:Specs} {n:Nat} {f:FuncId} {af:AFun} {ds:List D} {σ:Store} (hs:has S f=false) (h:Γa f=some af) (hl:ds.length=af.nargs):T S (n + 1) f ds σ=finX Ra (TD S n) af σ.next (exec (T S n) n none af.body (zbb ds) σ):=zp5 hs h hl
theorem T_orc {S:Specs} {f:FuncId} {s:List D→Cell→Prop} {ds:List D} {c:Cell} (hf:aget S f=some s) (hY:isY f=false) (hs:s ds c) (hp:OkP f ds c):∃ c',s ds c'∧∀ n σ,T S (n + 1) f ds σ=some (.ret c',σ):=zw1 hf hY hs hp
theorem zas {C:CallF} {n:Nat} {f:FuncId} {af:AFun} {ds:List D} {c:Cell} {σ':Store} (hC:zc1 Go.Proofs.Tryz.prog κ C) (h:Γa f=some af) (hl:ds.length=af.nargs) (hd:zal ds=true) (hc:noPtr c.d=true)
  (hr:finX Ra (fun _ _ _=>none) af 0 (exec C n none af.body (zbb ds) σ0)=some (.ret c,σ')):OkP f ds c:=by
 obtain ⟨hY,fn,hfn,hok⟩:=Γa_holds f af h
 refine zgn hC ze5 hY hfn hok hl hd hc (n:=n) (σ':=σ') ?_
 unfold finX at hr
 exact hr
theorem OkP.weak {f:FuncId} {ds:List D} {o:Bool} {d:D} (hY:isY f=false) (h:OkP f ds ⟨o,d⟩):OkP f ds ⟨false,d⟩:=Pure.weak hY h
theorem zczb:zf5b 60 n_132=true:=by kernel_rfl
theorem zitb:OkP n_132 [] ⟨false,.bool true⟩:=by
 intro σ
 have h:=zczb
 unfold zf5b at h
 split at h
 ·rename_i s hx
  exact zqu rfl ((zn6 Γa_holds ze5 zln 60).1 _ [] σ0 _ _ hx) rfl rfl σ
 ·cases h
theorem zbr {n:Int} (h1:-9223372036854775808≤n) (h2:n≤9223372036854775807):IntKind.i64.wrap n=n:=by
 simp [IntKind.wrap,IntKind.bits,IntKind.signed]
 omega
theorem zag {i:Nat} (h:i < 1099511627776):IntKind.i64.wrap ((i:Int) + 1)=((i + 1:Nat):Int):=by
 rw [zbr (by omega) (by omega)]
 rfl
def Small (x:Int):Prop:=-9223372036854775808≤x∧x≤9223372036854775807
theorem zgh (x:Int):Small (IntKind.i64.wrap x):=by
 simp [Small,IntKind.wrap,IntKind.bits,IntKind.signed]
 omega
theorem nat1 {k:IntKind}:D.nat? (.int k 1)=some 1:=rfl
theorem nat2 {k:IntKind}:D.nat? (.int k 2)=some 2:=rfl
theorem nat3 {k:IntKind}:D.nat? (.int k 3)=some 3:=rfl
theorem nat4 {k:IntKind}:D.nat? (.int k 4)=some 4:=rfl
theorem nat5 {k:IntKind}:D.nat? (.int k 5)=some 5:=rfl
theorem nat6 {k:IntKind}:D.nat? (.int k 6)=some 6:=rfl
theorem nat7 {k:IntKind}:D.nat? (.int k 7)=some 7:=rfl
theorem nat8 {k:IntKind}:D.nat? (.int k 8)=some 8:=rfl
theorem nat0 {k:IntKind}:D.nat? (.int k 0)=some 0:=rfl
theorem natI (n:Nat) {k:IntKind}:D.nat? (.int k (n:Int))=some n:=by
 simp only [D.nat?]
 have:(0:Int)≤(n:Int):=by omega
 rw [decide_eq_true this]
 rfl
theorem idxL {sz n:Nat} {k:RowK} {es:List D}:za7 sz (.list k es) n=ifB (k.sz == sz) (bindO (nth es n) fun d=>some (.eptr d)) none:=rfl
theorem zeroI:((0:Nat):Int)=0:=rfl
theorem oneI:((1:Nat):Int)=1:=rfl
theorem za9 {α:Type} (l:List α) (i:Nat) (h:i < l.length):l.take i ++ [l[i]]=l.take (i + 1):=by
 rw [List.take_add_one,List.getElem?_eq_getElem h]
 simp
def ow:Nat→Bool
 | 0=>false
 | _ + 1=>true
theorem ow_ne {α:Type} {l:List α} {i:Nat}:l.take i≠[]→ow i=true:=by
 cases i with
 | zero=>intro h; simp at h
 | succ i=>intro _; rfl
theorem zco {i:Nat}:ow (i + 1)=true:=rfl
theorem zfo:ow 0=false:=rfl
theorem zga {α:Type} {k:RowK} {sz:Nat} (hs:k.sz=sz) (f:α→D) (l:List α) (i:Nat) (h:i < l.length):za7 sz (dlist k (l.map f)) i=some (.eptr (f l[i])):=by
 have hn:nth (l.map f) i=some (f l[i]):=by rw [zoq,zop _ _ h]; rfl
 cases l with
 | nil=>simp at h
 | cons x r =>
  simp only [List.map_cons,dlist,za7,hs,beq_self_eq_true,zac] at hn ⊢
  rw [hn]
  rfl
theorem idx_S (l:List Tx) (i:Nat) (h:i < l.length):za7 1 (dSs l) i=some (.eptr (.str l[i])):=zga rfl _ _ _ h
theorem zgc {α:Type} {k:RowK} (f:α→D) (l:List α):lenOf (dlist k (l.map f))=some l.length:=by
 cases l with
 | nil=>rfl
 | cons x r=>simp [dlist,lenOf]
theorem len_S (l:List Tx):lenOf (dSs l)=some l.length:=zgc _ l
theorem ze7 {α:Type} {k:RowK} {by_:Nat} {f:α→D} (hok:∀ a,(f a).ok=true) (hsz:∀ a,(f a).cells.length=k.sz) (hb:by_≤1024) (l:List α) (v:α) (o:Bool) (ho:l≠[]→o=true) (hl:l.length < 1000000000):za5 k by_ ⟨o,dlist k (l.map f)⟩ [f v]=some ⟨true,dlist k ((l ++ [v]).map f)⟩:=by
 have h1:(l.length + 1) * by_≤1000000000 * 1024:=Nat.mul_le_mul (by omega) hb
 rw [zbjb (fun h=>ho (by simpa using h)) (hok _) (hsz _) (by simp [bound]; omega) (by simp [bound]; omega)]
 simp
theorem ze6 (l:List Tx) (v:Tx) (o:Bool) (ho:l≠[]→o=true) (hl:l.length < 1000000000):za5 k_0 16 ⟨o,dSs l⟩ [.str v]=some ⟨true,dSs (l ++ [v])⟩:=ze7 (fun _=>rfl) (fun _=>rfl) (by omega) l v o ho hl
theorem zc5b {body:Env→Store→XRes} {n:Nat} {e:Env} {σ:Store} {e':Env} {σ':Store} (h:body e σ=some (.normal,e',σ')):loopN body (n + 1) e σ=loopN body n e' σ':=by rw [loopN,h]
theorem zc4b {body:Env→Store→XRes} {n:Nat} {e:Env} {σ:Store} {e':Env} {σ':Store} {i:Nat} (h:body e σ=some (.exit i,e',σ')):loopN body (n + 1) e σ=some (.exit i,e',σ'):=by rw [loopN,h]
theorem kk:k_55.sz=1∧k_55.ag=false∧k_55.same k_55=true∧k_23.sz=14∧k_23.ag=true∧k_23.same k_23=true∧k_24.sz=15∧k_24.ag=true∧k_24.same k_24=true∧k_5.sz=3∧k_5.ag=true∧k_5.same k_5=true∧k_8.sz=10∧k_8.ag=true∧k_8.same k_8=true∧k_130.sz=8∧k_130.ag=true∧k_130.same k_130=true∧k_1.sz=4∧k_1.ag=true∧k_1.same k_1=true∧k_13.sz=12∧k_13.ag=true∧k_13.same k_13=true∧k_185.sz=4∧k_185.ag=true∧k_185.same k_185=true∧zqy.sz=1∧zqy.ag=false∧zqy.same zqy=true∧k_int.sz=1∧k_int.ag=false∧k_int.same k_int=true∧k_0.sz=1∧k_0.ag=false∧k_0.same k_0=true∧k_40.sz=1∧k_40.ag=false∧k_40.same k_40=true:=⟨rfl,rfl,rfl,rfl,rfl,rfl,rfl,rfl,rfl,rfl,rfl,rfl,rfl,rfl,rfl,rfl,rfl,rfl,rfl,rfl,rfl,rfl,rfl,rfl,rfl,rfl,rfl,rfl,rfl,rfl,rfl,rfl,rfl,rfl,rfl,rfl,rfl,rfl,rfl⟩
set_option linter.defProp false in
def kn:=And.intro kk (And.intro @nat1 (And.intro @nat2 (And.intro @nat3 (And.intro @nat4 (And.intro @nat5 (And.intro @nat6 (And.intro @nat7 (And.intro @nat8 (And.intro @rg.eq_1 (And.intro @sq.eq_1 (And.intro @ml.eq_1 (And.intro @mf.eq_1 (And.intro @ci.eq_1 @idxL)))))))))))))
end Go.Fu

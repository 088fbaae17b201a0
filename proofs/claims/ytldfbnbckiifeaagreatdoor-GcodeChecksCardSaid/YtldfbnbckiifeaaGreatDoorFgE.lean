/-
 Small functions of the document's answer: names in lists,instructions,environments.
-/
import Derived.Test.YtldfbnbckiifeaaGreatDoorFgT
set_option maxHeartbeats 4000000
set_option linter.unusedSimpArgs false
set_option linter.unusedVariables false
set_option linter.unusedSectionVars false
namespace Go.Fu
open Go Go.Mx
set_option maxRecDepth 10000
theorem ze8 {body:Env→Store→XRes} (E:Nat→Env) (σ:Store) (k:Nat) (q:Nat→Bool) {stop r:AExit × Env × Store} (hr:∀ e σ,r≠(.normal,e,σ)) (hs:∀ e σ,stop≠(.normal,e,σ))
  (hstep:∀ i,i < k→q i=false→body (E i) σ=some (.normal,E (i + 1),σ)) (hstop:∀ i,i < k→q i=true→body (E i) σ=some stop) (hend:body (E k) σ=some r) (n:Nat) (hn:k < n):loopN body n (E 0) σ=some (ifB ((List.range k).any q) stop r):=by
 rcases zfn (body:=body) E (fun _=>σ) k (fun i=>!q i) (r:=r) (fun _=>stop) hr (fun _=>hs) (fun i hi hq=>hstep i hi (by simpa using hq)) (fun i hi hq=>hstop i hi (by simpa using hq)) hend n 0 (Nat.zero_le _) (by omega) with ⟨i,_,hi,hq,_,h⟩ | ⟨hq,h⟩
 ·have:(List.range k).any q=true:=List.any_eq_true.2 ⟨i,List.mem_range.2 hi,by simpa using hq⟩
  rw [h,this]
  rfl
 ·have:(List.range k).any q=false:=by
   rw [List.any_eq_false]
   intro i hi
   have:=hq i (Nat.zero_le _) (List.mem_range.1 hi)
   simpa using this
  rw [h,this]
  rfl
theorem zaq {α:Type} (l:List α) (i:Nat) (d:α) (h:i < l.length):l.getD i d=l[i]:=by simp [List.getD_eq_getElem?_getD,List.getElem?_eq_getElem h]
theorem zh9 {α:Type} (l:List α) (d:α) (q:α→Bool):((List.range l.length).any fun i=>q (l.getD i d))=l.any q:=by
 rw [Bool.eq_iff_iff,List.any_eq_true,List.any_eq_true]
 constructor
 ·rintro ⟨i,hi,h⟩
  have hi:=List.mem_range.1 hi
  rw [zaq _ _ _ hi] at h
  exact ⟨_,List.getElem_mem hi,h⟩
 ·rintro ⟨x,hx,h⟩
  obtain ⟨i,hi,rfl⟩:=List.getElem_of_mem hx
  exact ⟨i,List.mem_range.2 hi,by rw [zaq _ _ _ hi]; exact h⟩
section
variable {C:CallF} {n:Nat} {σ:Store}
def Ein (l:List Tx) (s:Tx) (i:Nat):Env:={slots:=[(0,⟨false,dSs l⟩),(1,⟨false,.str s⟩),(5,⟨false,.int .i64 i⟩)],locs:=[],boxes:=[],defers:=[]}
theorem zk4b (l:List Tx) (s:Tx) (i:Nat) (h:i < l.length) (hl:l.length < 1000000000) (hq:(l.getD i [] == s)=false):exec C n none a_65 (Ein l s i) σ=some (.normal,Ein l s (i + 1),σ):=by
 rw [zaq _ _ _ h] at hq
 have hi:((i:Int) < (l.length:Int)):=by omega
 simp only [a_65,Ein,sA,seval,kn,len_S,hi,natI,idx_S l i h,hq,zag (i:=i) (by omega)]
theorem zk5b (l:List Tx) (s:Tx) (i:Nat) (h:i < l.length) (hq:(l.getD i [] == s)=true):exec C n none a_65 (Ein l s i) σ=some (.ret,{slots:=[(4,⟨false,.bool true⟩)],locs:=[],boxes:=[],defers:=[]},σ):=by
 rw [zaq _ _ _ h] at hq
 have hi:((i:Int) < (l.length:Int)):=by omega
 simp only [a_65,Ein,sA,seval,kn,len_S,hi,natI,idx_S l i h,hq]
theorem znxb (l:List Tx) (s:Tx):exec C n none a_65 (Ein l s l.length) σ=some (.exit 0,{Ein l s l.length with slots:=[(0,⟨false,dSs l⟩),(1,⟨false,.str s⟩),(5,⟨false,.int .i64 l.length⟩),(9,⟨false,.bool false⟩)]},σ):=by
 have hi:¬ ((l.length:Int) < (l.length:Int)):=by omega
 simp only [a_65,Ein,sA,seval,kn,len_S,hi]
end
theorem zk3b (l:List Tx) (s:Tx) (hl:l.length < 1000000000):OkP n_18 [dSs l,.str s] ⟨false,.bool (l.any (· == s))⟩:=by
 refine zas (af:=a_141) (n:=l.length + 1) (σ':=σ0) (zav [] 0) rfl rfl (by simp [zal,zau,noPtr]) rfl ?_
 have h:=ze8 (body:=exec (T [] 0) (l.length + 1) none a_65) (Ein l s) σ0 l.length (fun i=>l.getD i [] == s) (fun _ _ h=>by cases h) (fun _ _ h=>by cases h) (fun i hi hq=>zk4b l s i hi hl hq) (fun i hi hq=>zk5b l s i hi hq) (znxb l s) (l.length + 1) (by omega)
 rw [zh9 l [] (· == s)] at h
 simp only [Ein,zeroI] at h
 cases hb:l.any (· == s) with
 | true =>
  rw [hb] at h
  simp only [a_141,sA,seval,kn,h]
 | false =>
  rw [hb] at h
  simp only [a_141,sA,seval,kn,h]
def sp_in:List D→Cell→Prop:=fun ds c=>∀ l s,ds=[dSs l,.str s]→c=⟨false,.bool (l.any (· == s))⟩
theorem zji {S:Specs} (hS:aget S n_18=some sp_in) (l:List Tx) (s:Tx) (hl:l.length < 1000000000) (n:Nat) (σ:Store):T S (n + 1) n_18 [dSs l,.str s] σ=some (.ret ⟨false,.bool (l.any (· == s))⟩,σ):=by
 obtain ⟨c,h1,h2⟩:=T_orc (S:=S) hS rfl (c:=⟨false,.bool (l.any (· == s))⟩) (fun l' s' e=>by
  simp only [List.cons.injEq,D.str.injEq,and_true] at e
  obtain ⟨e1,rfl⟩:=e
  rw [zba e1]) (zk3b l s hl)
 rw [h2,h1 l s rfl]
end Go.Fu
namespace Go.Fu
open Go Go.Mx
set_option maxRecDepth 10000
def effM (i:In):Int × Int × Bool :=
 ifB (i.op == [80,85,83,72,71]) (0,1,true) <|
 ifB (i.op == [80,85,83,72,73]) (0,1,true) <|
 ifB (i.op == [70,65,73,76]) (0,1,true) <|
 ifB (i.op == [80,85,83,72,65]) (IntKind.i64.wrap (i.n + 1),1,true) <|
 ifB (i.op == [77,75,65,80]) (2,-1,true) <|
 ifB (i.op == [65,68,68]) (2,-1,true) <|
 ifB (i.op == [83,85,66]) (2,-1,true) <|
 ifB (i.op == [77,85,76]) (2,-1,true) <|
 ifB (i.op == [68,73,86]) (2,-1,true) <|
 ifB (i.op == [69,81]) (2,-1,true) <|
 ifB (i.op == [76,84]) (2,-1,true) <|
 ifB (i.op == [80,65,67,75]) (i.n,IntKind.i64.wrap (1 - i.n),true) <|
 ifB (i.op == [83,76,73,68,69]) (IntKind.i64.wrap (i.n + 1),IntKind.i64.wrap (0 - i.n),true) <|
 ifB (i.op == [80,79,80]) (i.n,IntKind.i64.wrap (0 - i.n),true) <|
 ifB (i.op == [85,80,68,65,84,69]) (IntKind.i64.wrap (i.n + 1),-1,true) <|
 ifB (i.op == [65,76,76,79,67]) (0,i.n,true) <|
 ifB (i.op == [69,86,65,76]) (1,0,true) <|
 ifB (i.op == [84,69,83,84]) (1,0,true) <|
 ifB (i.op == [84,69,83,84,73]) (1,0,true) <|
 ifB (i.op == [83,80,76,73,84]) (1,IntKind.i64.wrap (i.n - 1),true) <|
 ifB (i.op == [74,85,77,80]) (0,0,true) <|
 ifB (i.op == [85,78,87,73,78,68]) (0,0,true) <|
 (0,0,false)
set_option maxHeartbeats 4000000 in
theorem zye (i:In):OkP n_77 [dI i] ⟨false,.tup [.int .i64 (effM i).1,.int .i64 (effM i).2.1,.bool (effM i).2.2]⟩:=by
 refine zas (af:=a_10) (n:=1) (σ':=σ0) (zav [] 1) rfl rfl rfl rfl ?_
 obtain ⟨op,n,m,nm⟩:=i
 cases e0:op == [80,85,83,72,71] with
 | true=>simp only [effM,e0,zac,zab,a_10,dI,sA,seval,kn]
 | false =>
  cases e1:op == [80,85,83,72,73] with
  | true=>simp only [effM,e0,e1,zac,zab,a_10,dI,sA,seval,kn]
  | false =>
   cases e2:op == [70,65,73,76] with
   | true=>simp only [effM,e0,e1,e2,zac,zab,a_10,dI,sA,seval,kn]
   | false =>
    cases e3:op == [80,85,83,72,65] with
    | true=>simp only [effM,e0,e1,e2,e3,zac,zab,a_10,dI,sA,seval,kn]
    | false =>
     cases e4:op == [77,75,65,80] with
     | true=>simp only [effM,e0,e1,e2,e3,e4,zac,zab,a_10,dI,sA,seval,kn]
     | false =>
      cases e5:op == [65,68,68] with
      | true=>simp only [effM,e0,e1,e2,e3,e4,e5,zac,zab,a_10,dI,sA,seval,kn]
      | false =>
       cases e6:op == [83,85,66] with
       | true=>simp only [effM,e0,e1,e2,e3,e4,e5,e6,zac,zab,a_10,dI,sA,seval,kn]
       | false =>
        cases e7:op == [77,85,76] with
        | true=>simp only [effM,e0,e1,e2,e3,e4,e5,e6,e7,zac,zab,a_10,dI,sA,seval,kn]
        | false =>
         cases e8:op == [68,73,86] with
         | true=>simp only [effM,e0,e1,e2,e3,e4,e5,e6,e7,e8,zac,zab,a_10,dI,sA,seval,kn]
         | false =>
          cases e9:op == [69,81] with
          | true=>simp only [effM,e0,e1,e2,e3,e4,e5,e6,e7,e8,e9,zac,zab,a_10,dI,sA,seval,kn]
          | false =>
           cases e10:op == [76,84] with
           | true=>simp only [effM,e0,e1,e2,e3,e4,e5,e6,e7,e8,e9,e10,zac,zab,a_10,dI,sA,seval,kn]
           | false =>
            cases e11:op == [80,65,67,75] with
            | true=>simp only [effM,e0,e1,e2,e3,e4,e5,e6,e7,e8,e9,e10,e11,zac,zab,a_10,dI,sA,seval,kn]
            | false =>
             cases e12:op == [83,76,73,68,69] with
             | true=>simp only [effM,e0,e1,e2,e3,e4,e5,e6,e7,e8,e9,e10,e11,e12,zac,zab,a_10,dI,sA,seval,kn]
             | false =>
              cases e13:op == [80,79,80] with
              | true=>simp only [effM,e0,e1,e2,e3,e4,e5,e6,e7,e8,e9,e10,e11,e12,e13,zac,zab,a_10,dI,sA,seval,kn]
              | false =>
               cases e14:op == [85,80,68,65,84,69] with
               | true=>simp only [effM,e0,e1,e2,e3,e4,e5,e6,e7,e8,e9,e10,e11,e12,e13,e14,zac,zab,a_10,dI,sA,seval,kn]
               | false =>
                cases e15:op == [65,76,76,79,67] with
                | true=>simp only [effM,e0,e1,e2,e3,e4,e5,e6,e7,e8,e9,e10,e11,e12,e13,e14,e15,zac,zab,a_10,dI,sA,seval,kn]
                | false =>
                 cases e16:op == [69,86,65,76] with
                 | true=>simp only [effM,e0,e1,e2,e3,e4,e5,e6,e7,e8,e9,e10,e11,e12,e13,e14,e15,e16,zac,zab,a_10,dI,sA,seval,kn]
                 | false =>
                  cases e17:op == [84,69,83,84] with
                  | true=>simp only [effM,e0,e1,e2,e3,e4,e5,e6,e7,e8,e9,e10,e11,e12,e13,e14,e15,e16,e17,zac,zab,a_10,dI,sA,seval,kn]
                  | false =>
                   cases e18:op == [84,69,83,84,73] with
                   | true=>simp only [effM,e0,e1,e2,e3,e4,e5,e6,e7,e8,e9,e10,e11,e12,e13,e14,e15,e16,e17,e18,zac,zab,a_10,dI,sA,seval,kn]
                   | false =>
                    cases e19:op == [83,80,76,73,84] with
                    | true=>simp only [effM,e0,e1,e2,e3,e4,e5,e6,e7,e8,e9,e10,e11,e12,e13,e14,e15,e16,e17,e18,e19,zac,zab,a_10,dI,sA,seval,kn]
                    | false =>
                     cases e20:op == [74,85,77,80] with
                     | true=>simp only [effM,e0,e1,e2,e3,e4,e5,e6,e7,e8,e9,e10,e11,e12,e13,e14,e15,e16,e17,e18,e19,e20,zac,zab,a_10,dI,sA,seval,kn]
                     | false =>
                      cases e21:op == [85,78,87,73,78,68] with
                      | true=>simp only [effM,e0,e1,e2,e3,e4,e5,e6,e7,e8,e9,e10,e11,e12,e13,e14,e15,e16,e17,e18,e19,e20,e21,zac,zab,a_10,dI,sA,seval,kn]
                      | false =>
                       simp only [effM,e0,e1,e2,e3,e4,e5,e6,e7,e8,e9,e10,e11,e12,e13,e14,e15,e16,e17,e18,e19,e20,e21,zac,zab,a_10,dI,sA,seval,kn]
def zoe:List D→Cell→Prop:=fun ds c=>∀ i,ds=[dI i]→c=⟨false,.tup [.int .i64 (effM i).1,.int .i64 (effM i).2.1,.bool (effM i).2.2]⟩
theorem zow {S:Specs} (hS:aget S n_77=some zoe) (i:In) (n:Nat) (σ:Store):T S (n + 1) n_77 [dI i] σ=some (.ret ⟨false,.tup [.int .i64 (effM i).1,.int .i64 (effM i).2.1,.bool (effM i).2.2]⟩,σ):=by
 obtain ⟨c,h1,h2⟩:=T_orc (S:=S) hS rfl (c:=⟨false,.tup [.int .i64 (effM i).1,.int .i64 (effM i).2.1,.bool (effM i).2.2]⟩) (fun i' e=>by
  simp only [List.cons.injEq,and_true] at e
  rw [zqs e]) (zye i)
 rw [h2,h1 i rfl]
end Go.Fu
namespace Go.Fu
open Go Go.Mx
set_option maxRecDepth 10000
theorem zlo (l:List Tx):zbp (dSs l)=some (l.map D.str):=zdx
theorem zhpb (l:List In):zbp (dIs l)=some (l.map dI):=zdx
theorem appS (a b:List Tx) (o:Bool) (ho:a≠[]→o=true) (hl:a.length + b.length < 1000000000):za5 k_0 16 ⟨o,dSs a⟩ (b.map D.str)=some ⟨true,dSs (a ++ b)⟩:=by
 rw [dSs,zh2 (fun h=>ho (by simpa using h)) (fun d hd=>by obtain ⟨x,_,rfl⟩:=List.mem_map.1 hd; exact ⟨rfl,rfl⟩) (by simp [bound]; omega) (by simp [bound]; omega)]
 rw [dSs,List.map_append]
theorem appS0 (b:List Tx) (o:Bool) (hl:b.length < 1000000000):za5 k_0 16 ⟨o,.nils⟩ (b.map D.str)=some ⟨true,dSs b⟩:=by
 have:=appS [] b o (fun h=>absurd rfl h) (by simpa using hl)
 simpa [dSs,dlist] using this
theorem ok_dI (i:In):(dI i).ok=true:=rfl
theorem appI (a b:List In) (o:Bool) (ho:a≠[]→o=true) (hl:a.length + b.length < 1000000000):za5 k_1 48 ⟨o,dIs a⟩ (b.map dI)=some ⟨true,dIs (a ++ b)⟩:=by
 rw [dIs,zh2 (fun h=>ho (by simpa using h)) (fun d hd=>by obtain ⟨x,_,rfl⟩:=List.mem_map.1 hd; exact ⟨rfl,rfl⟩) (by simp [bound]; omega) (by simp [bound]; omega)]
 rw [dIs,List.map_append]
theorem appI0 (b:List In) (o:Bool) (hl:b.length < 1000000000):za5 k_1 48 ⟨o,.nils⟩ (b.map dI)=some ⟨true,dIs b⟩:=by
 have:=appI [] b o (fun h=>absurd rfl h) (by simpa using hl)
 simpa [dIs,dlist] using this
theorem appI1 (a:List In) (x:In) (o:Bool) (ho:a≠[]→o=true) (hl:a.length < 1000000000):za5 k_1 48 ⟨o,dIs a⟩ [dI x]=some ⟨true,dIs (a ++ [x])⟩:=ze7 ok_dI (fun _=>rfl) (by omega) a x o ho hl
theorem zs0 (a b:List Tx) (hl:a.length + b.length < 1000000000):OkP n_3 [dSs a,dSs b] ⟨false,dSs (a ++ b)⟩:=by
 refine OkP.weak (o:=true) rfl (zas (af:=a_109) (n:=1) (σ':=σ0) (zav [] 0) rfl rfl (by simp [zal,zau]) (zau _) ?_)
 simp only [a_109,sA,seval,kn,zlo,appS0 a false (by omega),appS a b true (fun _=>rfl) hl]
def zh1:List D→Cell→Prop:=fun ds c=>∀ a b,ds=[dSs a,dSs b]→c=⟨false,dSs (a ++ b)⟩
theorem zfw {S:Specs} (hS:aget S n_3=some zh1) (a b:List Tx) (hl:a.length + b.length < 1000000000) (n:Nat) (σ:Store):T S (n + 1) n_3 [dSs a,dSs b] σ=some (.ret ⟨false,dSs (a ++ b)⟩,σ):=by
 obtain ⟨c,h1,h2⟩:=T_orc (S:=S) hS rfl (c:=⟨false,dSs (a ++ b)⟩) (fun a' b' e=>by
  simp only [List.cons.injEq,and_true] at e
  rw [zba e.1,zba e.2]) (zs0 a b hl)
 rw [h2,h1 a b rfl]
def op1 (s:Tx) (n:Int):In:=⟨s,n,0,[]⟩
theorem zl0b (s:Tx) (x:Int):OkP n_7 [.str s,.int .i64 x] ⟨false,dIs [op1 s x]⟩:=by
 refine OkP.weak (o:=true) rfl (zas (af:=a_118) (n:=1) (σ':=σ0) (zav [] 0) rfl rfl rfl rfl ?_)
 simp only [a_118,sA,seval,kn]
 rfl
def sp_op:List D→Cell→Prop:=fun ds c=>∀ s x,ds=[.str s,.int .i64 x]→c=⟨false,dIs [op1 s x]⟩
theorem zc4 {S:Specs} (hS:aget S n_7=some sp_op) (s:Tx) (x:Int) (n:Nat) (σ:Store):T S (n + 1) n_7 [.str s,.int .i64 x] σ=some (.ret ⟨false,dIs [op1 s x]⟩,σ):=by
 obtain ⟨c,h1,h2⟩:=T_orc (S:=S) hS rfl (c:=⟨false,dIs [op1 s x]⟩) (fun a' b' e=>by
  simp only [List.cons.injEq,D.str.injEq,D.int.injEq,true_and,and_true] at e
  rw [e.1,e.2]) (zl0b s x)
 rw [h2,h1 s x rfl]
def goesI (s:Tx):Bool:=((s == [84,69,83,84]) || (s == [84,69,83,84,73])) || (s == [74,85,77,80])
def shI (k:Nat) (i:In):In:=ifB (goesI i.op) {i with n:=IntKind.i64.wrap (i.n + k)} i
def joinM (a b:List In):List In:=a ++ b.map (shI a.length)
theorem zbc (a b:List In):(joinM a b).length=a.length + b.length:=by simp [joinM]
section
variable {C:CallF} {n:Nat} {σ:Store}
def Ejoin (a b:List In) (o:Bool) (i:Nat):Env:={slots:=[(0,⟨false,dIs a⟩),(1,⟨false,dIs b⟩),(5,⟨o,dIs (a ++ (b.take i).map (shI a.length))⟩),(6,⟨false,.int .i64 i⟩)],locs:=[],boxes:=[],defers:=[]}
theorem len_I (l:List In):lenOf (dIs l)=some l.length:=zgc _ l
theorem idx_I (l:List In) (i:Nat) (h:i < l.length):za7 4 (dIs l) i=some (.eptr (dI l[i])):=zga rfl _ _ _ h
theorem zfub (a b:List In) (i:Nat) (h:i < b.length) (hl:a.length + b.length < 1000000000):exec C n none a_53 (Ejoin a b true i) σ=some (.normal,Ejoin a b true (i + 1),σ):=by
 have hi:((i:Int) < (b.length:Int)):=by omega
 have w:=zag (i:=i) (by omega)
 have ha:=appI1 (a ++ (b.take i).map (shI a.length)) (shI a.length b[i]) true (fun _=>rfl) (by simp; omega)
 have e:a ++ (b.take i).map (shI a.length) ++ [shI a.length b[i]]=a ++ (b.take (i + 1)).map (shI a.length):=by rw [List.append_assoc,← za9 b i h,List.map_append]; rfl
 rw [e] at ha
 have hx:=idx_I b i h
 cases hb:b[i] with
 | mk op nn mm nm =>
 rw [hb] at ha hx
 simp only [shI,goesI] at ha
 simp only [dI] at hx ha
 cases h1:op == [84,69,83,84] with
 | true =>
  simp only [h1,Bool.true_or,zac] at ha
  simp only [a_53,Ejoin,sA,seval,kn,len_I,hi,natI,hx,h1,ha,w]
 | false =>
  cases h2:op == [84,69,83,84,73] with
  | true =>
   simp only [h1,h2,Bool.false_or,Bool.true_or,zac] at ha
   simp only [a_53,Ejoin,sA,seval,kn,len_I,hi,natI,hx,h1,h2,ha,w]
  | false =>
   cases h3:op == [74,85,77,80] with
   | true =>
    simp only [h1,h2,h3,Bool.false_or,zac] at ha
    simp only [a_53,Ejoin,sA,seval,kn,len_I,hi,natI,hx,h1,h2,h3,ha,w]
   | false =>
    simp only [h1,h2,h3,Bool.false_or,zab] at ha
    simp only [a_53,Ejoin,sA,seval,kn,len_I,hi,natI,hx,h1,h2,h3,ha,w]
theorem zifb (a b:List In):exec C n none a_53 (Ejoin a b true b.length) σ=some (.exit 0,{Ejoin a b true b.length with slots:=[(0,⟨false,dIs a⟩),(1,⟨false,dIs b⟩),(5,⟨true,dIs (joinM a b)⟩),(6,⟨false,.int .i64 b.length⟩),(13,⟨false,.bool false⟩)]},σ):=by
 have hi:¬ ((b.length:Int) < (b.length:Int)):=by omega
 simp only [a_53,Ejoin,sA,seval,kn,len_I,hi,List.take_length,joinM]
end
theorem zftb (a b:List In) (hl:a.length + b.length < 1000000000):OkP n_6 [dIs a,dIs b] ⟨false,dIs (joinM a b)⟩:=by
 refine OkP.weak (o:=true) rfl (zas (af:=a_175) (n:=b.length + 1) (σ':=σ0) (zav [] 0) rfl rfl (by simp [zal,zdq]) (zdq _) ?_)
 have h:=za6 (body:=exec (T [] 0) (b.length + 1) none a_53) (Ejoin a b true) (fun _=>σ0) b.length (r:=_) (fun _ _ h=>by cases h) (fun i hi=>zfub a b i hi hl) (zifb a b) 0 (b.length + 1) (by omega) (by omega)
 simp only [Ejoin,zeroI,List.take_zero,List.map_nil,List.append_nil] at h
 simp only [a_175,sA,seval,kn,zhpb,appI0 a false (by omega),h]
def zsq:List D→Cell→Prop:=fun ds c=>∀ a b,ds=[dIs a,dIs b]→c=⟨false,dIs (joinM a b)⟩
theorem zb2 {S:Specs} (hS:aget S n_6=some zsq) (a b:List In) (hl:a.length + b.length < 1000000000) (n:Nat) (σ:Store):T S (n + 1) n_6 [dIs a,dIs b] σ=some (.ret ⟨false,dIs (joinM a b)⟩,σ):=by
 obtain ⟨c,h1,h2⟩:=T_orc (S:=S) hS rfl (c:=⟨false,dIs (joinM a b)⟩) (fun a' b' e=>by
  simp only [List.cons.injEq,and_true] at e
  rw [zr1 e.1,zr1 e.2]) (zftb a b hl)
 rw [h2,h1 a b rfl]
end Go.Fu
namespace Go.Fu
open Go Go.Mx
set_option maxRecDepth 10000
mutual
def Co.size:Co→Nat
 | .mk _ _ _ ks bs al=>1 + szK ks + szB bs + szA al
def szK:List Co→Nat
 | []=>0
 | c :: r=>c.size + szK r
def szB:List (Tx × Co)→Nat
 | []=>0
 | (_,c) :: r=>1 + c.size + szB r
def szA:List (Hd × Co)→Nat
 | []=>0
 | (h,c) :: r=>1 + h.vars.length + c.size + szA r
end
theorem za2 (c:Co):c.size=1 + szK c.ks + szB c.bs + szA c.al:=by
 cases c
 simp only [Co.size,Co.ks,Co.bs,Co.al]
theorem zck (c:Co):1≤c.size:=by rw [za2]; omega
theorem zft:∀ l:List Co,l.length≤szK l
 | []=>by simp [szK]
 | c :: r=>by
  have:=zft r
  have:=zck c
  simp only [szK,List.length_cons]
  omega
theorem zbv:∀ l:List (Tx × Co),l.length≤szB l
 | []=>by simp [szB]
 | (s,c) :: r=>by
  have:=zbv r
  simp only [szB,List.length_cons]
  omega
theorem zc6:∀ l:List (Hd × Co),l.length≤szA l
 | []=>by simp [szA]
 | (s,c) :: r=>by
  have:=zc6 r
  simp only [szA,List.length_cons]
  omega
theorem zg8:∀ (l:List Co) (x:Co),x∈l→x.size≤szK l
 | c :: r,x,h=>by
  simp only [szK]
  rcases List.mem_cons.1 h with rfl | h
  ·omega
  ·have:=zg8 r x h; omega
theorem zgi:∀ (l:List (Tx × Co)) (x:Tx × Co),x∈l→x.2.size + 1≤szB l
 | (s,c) :: r,x,h=>by
  simp only [szB]
  rcases List.mem_cons.1 h with rfl | h
  ·simp only; omega
  ·have:=zgi r x h; omega
theorem ze0:∀ (l:List (Hd × Co)) (x:Hd × Co),x∈l→x.2.size + x.1.vars.length + 1≤szA l
 | (s,c) :: r,x,h=>by
  simp only [szA]
  rcases List.mem_cons.1 h with rfl | h
  ·simp only; omega
  ·have:=ze0 r x h; omega
theorem zei (a b:List Co):szK (a ++ b)=szK a + szK b:=by
 induction a with
 | nil=>simp [szK]
 | cons x r ih=>simp only [List.cons_append,szK,ih]; omega
theorem zjd (a b:List (Tx × Co)):szB (a ++ b)=szB a + szB b:=by
 induction a with
 | nil=>simp [szB]
 | cons x r ih=>obtain ⟨s,c⟩:=x; simp only [List.cons_append,szB,ih]; omega
theorem zjc (a b:List (Hd × Co)):szA (a ++ b)=szA a + szA b:=by
 induction a with
 | nil=>simp [szA]
 | cons x r ih=>obtain ⟨s,c⟩:=x; simp only [List.cons_append,szA,ih]; omega
def cB (b:Tx × Co):List D:=.str b.1 :: .int .i64 0 :: .int .i64 0 :: .str [] :: .nils :: cCo b.2
def cA (a:Hd × Co):List D:=.int .i64 a.1.form :: .int .i64 a.1.num :: .str a.1.name :: dSs a.1.vars :: cCo a.2
theorem agg?_dB (b:Tx × Co):(dB b).agg?=some (cB b):=by rw [dB_eq]; rfl
theorem agg?_dA (b:Hd × Co):(dA b).agg?=some (cA b):=by rw [dA_eq]; rfl
theorem zvd (c:Co):D.agg (cCo c)=dCo c:=(zaf c).symm
theorem partB (b:Tx × Co):Mx.part none (cB b) 0=some (.str b.1)∧Mx.part (some 10) (cB b) 5=some (dCo b.2):=by
 refine ⟨rfl,?_⟩
 rw [← zvd]
 rfl
theorem partA (a:Hd × Co):Mx.part none (cA a) 0=some (.int .i64 a.1.form)∧Mx.part none (cA a) 1=some (.int .i64 a.1.num)∧Mx.part none (cA a) 2=some (.str a.1.name)∧Mx.part none (cA a) 3=some (dSs a.1.vars)∧Mx.part (some 10) (cA a) 4=some (dCo a.2):=by
 refine ⟨rfl,rfl,rfl,rfl,?_⟩
 rw [← zvd]
 rfl
theorem zgb (c:Co):(cCo c).length=10:=rfl
theorem zn7b (c:Tx × Co):(cB c).length=15:=rfl
theorem zew (l:List Tx):(dSs l).one=true:=zcj
def dCs (l:List Co):D:=dlist k_8 (l.map dCo)
def dBl (l:List (Tx × Co)):D:=dlist k_24 (l.map dB)
def dAl (l:List (Hd × Co)):D:=dlist k_23 (l.map dA)
theorem len_C (l:List Co):lenOf (dCs l)=some l.length:=zgc _ l
theorem len_B (l:List (Tx × Co)):lenOf (dBl l)=some l.length:=zgc _ l
theorem len_A (l:List (Hd × Co)):lenOf (dAl l)=some l.length:=zgc _ l
theorem idx_C (l:List Co) (i:Nat) (h:i < l.length):za7 10 (dCs l) i=some (.eptr (dCo l[i])):=zga rfl _ _ _ h
theorem idx_B (l:List (Tx × Co)) (i:Nat) (h:i < l.length):za7 15 (dBl l) i=some (.eptr (dB l[i])):=zga rfl _ _ _ h
theorem idx_A (l:List (Hd × Co)) (i:Nat) (h:i < l.length):za7 14 (dAl l) i=some (.eptr (dA l[i])):=zga rfl _ _ _ h
theorem zbk (l:List Co):(dCs l).one=true:=zcj
theorem zbj (l:List (Tx × Co)):(dBl l).one=true:=zcj
theorem zbi (l:List (Hd × Co)):(dAl l).one=true:=zcj
theorem zhob (l:List Co):zbp (dCs l)=some (l.map dCo):=zdx
theorem appC1 (a:List Co) (x:Co) (o:Bool) (ho:a≠[]→o=true) (hl:a.length < 1000000000):za5 k_8 160 ⟨o,dCs a⟩ [dCo x]=some ⟨true,dCs (a ++ [x])⟩:=ze7 zq8 zkb (by omega) a x o ho hl
theorem appC (a b:List Co) (o:Bool) (ho:a≠[]→o=true) (hl:a.length + b.length < 1000000000):za5 k_8 160 ⟨o,dCs a⟩ (b.map dCo)=some ⟨true,dCs (a ++ b)⟩:=by
 rw [dCs,zh2 (fun h=>ho (by simpa using h)) (fun d hd=>by obtain ⟨x,_,rfl⟩:=List.mem_map.1 hd; exact ⟨zq8 x,zkb x⟩) (by simp [bound]; omega) (by simp [bound]; omega)]
 rw [dCs,List.map_append]
theorem zaj (c:Co):cCo c=[.int .i64 c.f,.int .i64 c.n,.str c.s,.int .i64 0,.int .i64 0,.str [],.nils,dCs c.ks,dBl c.bs,dAl c.al]:=rfl
def bC (c:Co):List Cell:=[⟨false,.int .i64 c.f⟩,⟨false,.int .i64 c.n⟩,⟨false,.str c.s⟩,⟨false,.int .i64 0⟩,⟨false,.int .i64 0⟩,⟨false,.str []⟩,⟨false,.nils⟩,⟨false,dCs c.ks⟩,⟨false,dBl c.bs⟩,⟨false,dAl c.al⟩]
section
variable {C:CallF} {n:Nat} {σ:Store}
def Ebin (c:Co) (i:Nat):Env:={slots:=[(3,⟨ow i,dSs ((c.bs.take i).map Prod.fst)⟩),(4,⟨false,.int .i64 i⟩)],locs:=[(1,1,0)],boxes:=[(1,bC c)],defers:=[]}
theorem zbnb (c:Co) (i:Nat) (h:i < c.bs.length) (hl:c.size < 100000000):exec C n none a_108 (Ebin c i) σ=some (.normal,Ebin c (i + 1),σ):=by
 have hb:=zbv c.bs
 have hsz:=za2 c
 have hi:((i:Int) < (c.bs.length:Int)):=by omega
 have ha:=ze6 ((c.bs.take i).map Prod.fst) c.bs[i].1 (ow i) (fun h=>ow_ne (fun e=>h (by rw [e]; rfl))) (by simp; omega)
 have e:(c.bs.take i).map Prod.fst ++ [c.bs[i].1]=(c.bs.take (i + 1)).map Prod.fst:=by rw [← za9 c.bs i h,List.map_append]; rfl
 rw [e] at ha
 have hp:=partB c.bs[i]
 simp only [a_108,Ebin,bC,sA,seval,kn,len_B,hi,natI,idx_B _ i h,agg?_dB,hp,ha,zag (i:=i) (by omega),zco]
theorem zesb (c:Co):exec C n none a_108 (Ebin c c.bs.length) σ=some (.exit 0,{Ebin c c.bs.length with slots:=[(3,⟨ow c.bs.length,dSs (c.bs.map Prod.fst)⟩),(4,⟨false,.int .i64 c.bs.length⟩),(9,⟨false,.bool false⟩)]},σ):=by
 have hi:¬ ((c.bs.length:Int) < (c.bs.length:Int)):=by omega
 simp only [a_108,Ebin,bC,sA,seval,kn,len_B,hi,List.take_length]
end
theorem zbmb (c:Co) (hl:c.size < 100000000):OkP n_25 [dCo c] ⟨false,dSs (c.bs.map Prod.fst)⟩:=by
 refine OkP.weak (o:=ow c.bs.length) rfl (zas (af:=a_171) (n:=c.bs.length + 1) (σ':=σ0) (zav [] 0) rfl rfl (by simp [zal,za4]) (zau _) ?_)
 have h:=za6 (body:=exec (T [] 0) (c.bs.length + 1) none a_108) (Ebin c) (fun _=>σ0) c.bs.length (r:=_) (fun _ _ h=>by cases h) (fun i hi=>zbnb c i hi hl) (zesb c) 0 (c.bs.length + 1) (by omega) (by omega)
 simp only [Ebin,bC,zeroI,List.take_zero,List.map_nil,dSs,zs5,zfo] at h
 simp only [a_171,sA,seval,kn,zaf,zaj,zbk,zbj,zbi,h,dSs]
def zgv:List D→Cell→Prop:=fun ds c=>∀ a,ds=[dCo a]→c=⟨false,dSs (a.bs.map Prod.fst)⟩
theorem zi0 {S:Specs} (hS:aget S n_25=some zgv) (a:Co) (hl:a.size < 100000000) (n:Nat) (σ:Store):T S (n + 1) n_25 [dCo a] σ=some (.ret ⟨false,dSs (a.bs.map Prod.fst)⟩,σ):=by
 obtain ⟨c,h1,h2⟩:=T_orc (S:=S) hS rfl (c:=⟨false,dSs (a.bs.map Prod.fst)⟩) (fun a' e=>by
  simp only [List.cons.injEq,and_true] at e
  rw [zcs e]) (zbmb a hl)
 rw [h2,h1 a rfl]
end Go.Fu
namespace Go.Fu
open Go Go.Mx
set_option maxRecDepth 10000
def zae (c:Co):List Co:=c.bs.map Prod.snd ++ c.ks ++ c.al.map Prod.snd
theorem zv6 (l:List (Tx × Co)) (i:Nat) (h:i < l.length):(l.take i).map Prod.snd ++ [l[i].2]=(l.take (i + 1)).map Prod.snd:=by rw [← za9 l i h,List.map_append]; rfl
theorem zv5 (l:List (Hd × Co)) (i:Nat) (h:i < l.length):(l.take i).map Prod.snd ++ [l[i].2]=(l.take (i + 1)).map Prod.snd:=by rw [← za9 l i h,List.map_append]; rfl
section
variable {C:CallF} {n:Nat} {σ:Store}
def Epa (c:Co) (i:Nat):Env:={slots:=[(3,⟨ow i,dCs ((c.bs.take i).map Prod.snd)⟩),(4,⟨false,.int .i64 i⟩)],locs:=[(1,1,0)],boxes:=[(1,bC c)],defers:=[]}
theorem zl2b (c:Co) (i:Nat) (h:i < c.bs.length) (hl:c.size < 100000000):exec C n none a_120 (Epa c i) σ=some (.normal,Epa c (i + 1),σ):=by
 have hb:=zbv c.bs
 have hsz:=za2 c
 have hi:((i:Int) < (c.bs.length:Int)):=by omega
 have ha:=appC1 ((c.bs.take i).map Prod.snd) c.bs[i].2 (ow i) (fun h=>ow_ne (fun e=>h (by rw [e]; rfl))) (by simp; omega)
 rw [zv6 c.bs i h] at ha
 have hp:=partB c.bs[i]
 simp only [a_120,Epa,bC,sA,seval,kn,len_B,hi,natI,idx_B _ i h,agg?_dB,hp,agg?_dCo,zgb,zq8,zkb,ha,zag (i:=i) (by omega),zco]
theorem zokb (c:Co):exec C n none a_120 (Epa c c.bs.length) σ=some (.exit 0,{Epa c c.bs.length with slots:=[(3,⟨ow c.bs.length,dCs (c.bs.map Prod.snd)⟩),(4,⟨false,.int .i64 c.bs.length⟩),(10,⟨false,.bool false⟩)]},σ):=by
 have hi:¬ ((c.bs.length:Int) < (c.bs.length:Int)):=by omega
 simp only [a_120,Epa,bC,sA,seval,kn,len_B,hi,List.take_length]
def Epb (c:Co) (i:Nat):Env:={slots:=[(3,⟨true,dCs (c.bs.map Prod.snd ++ c.ks ++ (c.al.take i).map Prod.snd)⟩),(5,⟨false,.int .i64 i⟩)],locs:=[(1,1,0)],boxes:=[(1,bC c)],defers:=[]}
theorem zl4b (c:Co) (i:Nat) (h:i < c.al.length) (hl:c.size < 100000000):exec C n none a_121 (Epb c i) σ=some (.normal,Epb c (i + 1),σ):=by
 have hb:=zbv c.bs
 have hk:=zft c.ks
 have ha:=zc6 c.al
 have hsz:=za2 c
 have hi:((i:Int) < (c.al.length:Int)):=by omega
 have ha:=appC1 (c.bs.map Prod.snd ++ c.ks ++ (c.al.take i).map Prod.snd) c.al[i].2 true (fun _=>rfl) (by simp; omega)
 rw [List.append_assoc (c.bs.map Prod.snd ++ c.ks),zv5 c.al i h] at ha
 have hp:=partA c.al[i]
 simp only [a_121,Epb,bC,sA,seval,kn,len_A,hi,natI,idx_A _ i h,agg?_dA,hp,agg?_dCo,zgb,zq8,zkb,ha,zag (i:=i) (by omega)]
theorem zomb (c:Co):exec C n none a_121 (Epb c c.al.length) σ=some (.exit 2,{Epb c c.al.length with slots:=[(3,⟨true,dCs (zae c)⟩),(5,⟨false,.int .i64 c.al.length⟩),(30,⟨false,.bool false⟩)]},σ):=by
 have hi:¬ ((c.al.length:Int) < (c.al.length:Int)):=by omega
 simp only [a_121,Epb,bC,sA,seval,kn,len_A,hi,List.take_length,zae]
end
theorem zf8b (l:List Co):noPtr (dCs l)=true:=by rw [dCs,zds]; exact zc8 za4 l
theorem zdgb (c:Co) (hl:c.size < 100000000):OkP n_36 [dCo c] ⟨false,dCs (zae c)⟩:=by
 have hb:=zbv c.bs
 have hk:=zft c.ks
 have ha:=zc6 c.al
 have hsz:=za2 c
 refine OkP.weak (o:=true) rfl (zas (af:=a_179) (n:=c.size + 1) (σ':=σ0) (zav [] 0) rfl rfl (by simp [zal,za4]) (zf8b _) ?_)
 have h1:=za6 (body:=exec (T [] 0) (c.size + 1) none a_120) (Epa c) (fun _=>σ0) c.bs.length (r:=_) (fun _ _ h=>by cases h) (fun i hi=>zl2b c i hi hl) (zokb c) 0 (c.size + 1) (by omega) (by omega)
 have h2:=za6 (body:=exec (T [] 0) (c.size + 1) none a_121) (Epb c) (fun _=>σ0) c.al.length (r:=_) (fun _ _ h=>by cases h) (fun i hi=>zl4b c i hi hl) (zomb c) 0 (c.size + 1) (by omega) (by omega)
 have h3:=appC (c.bs.map Prod.snd) c.ks (ow c.bs.length) (fun h=>by
  cases hb:c.bs with
  | nil=>rw [hb] at h; exact absurd rfl h
  | cons x r=>rfl) (by simp; omega)
 have e0:dCs []=.nils:=rfl
 simp only [Epa,bC,zeroI,List.take_zero,List.map_nil,e0,zfo] at h1
 simp only [Epb,bC,zeroI,List.take_zero,List.map_nil,List.append_nil] at h2
 simp only [a_179,sA,seval,kn,zaf,zaj,zbk,zbj,zbi,h1,zhob,h3,h2]
def zj2:List D→Cell→Prop:=fun ds c=>∀ a,ds=[dCo a]→c=⟨false,dCs (zae a)⟩
theorem zi2 {S:Specs} (hS:aget S n_36=some zj2) (a:Co) (hl:a.size < 100000000) (n:Nat) (σ:Store):T S (n + 1) n_36 [dCo a] σ=some (.ret ⟨false,dCs (zae a)⟩,σ):=by
 obtain ⟨c,h1,h2⟩:=T_orc (S:=S) hS rfl (c:=⟨false,dCs (zae a)⟩) (fun a' e=>by
  simp only [List.cons.injEq,and_true] at e
  rw [zcs e]) (zdgb a hl)
 rw [h2,h1 a rfl]
def zay (c:Co) (i:Nat):List Tx:=if c.bs.length + c.ks.length≤i then (c.al.map fun a=>a.1.vars).getD (i - (c.bs.length + c.ks.length)) [] else c.bs.map Prod.fst
theorem ze9 (c:Co):(zae c).length=c.bs.length + c.ks.length + c.al.length:=by simp [zae]; omega
theorem zckb (c:Co) (i:Nat) (h:i < (zae c).length) (hl:c.size < 100000000):OkP n_35 [dCo c,.int .i64 i] ⟨false,dSs (zay c i)⟩:=by
 have hb:=zbv c.bs
 have hk:=zft c.ks
 have ha:=zc6 c.al
 have hsz:=za2 c
 rw [ze9] at h
 refine zas (af:=a_140) (n:=1) (σ':=σ0) (zav [(n_25,zgv)] 1) rfl rfl (by simp [zal,za4,noPtr]) (zau _) ?_
 have hc:=zi0 (S:=[(n_25,zgv)]) rfl c hl 0 σ0
 have w1:IntKind.i64.wrap ((c.bs.length:Int) + (c.ks.length:Int))=((c.bs.length + c.ks.length:Nat):Int):=by rw [zbr (by omega) (by omega)]; omega
 simp only [zaf,zaj] at hc
 by_cases hge:c.bs.length + c.ks.length≤i
 ·have c1:((i:Int) ≥ ((c.bs.length + c.ks.length:Nat):Int)):=by omega
  have w2:IntKind.i64.wrap ((i:Int) - ((c.bs.length + c.ks.length:Nat):Int))=((i - (c.bs.length + c.ks.length):Nat):Int):=by rw [zbr (by omega) (by omega)]; omega
  have hx:=idx_A c.al (i - (c.bs.length + c.ks.length)) (by omega)
  have hg:zay c i=c.al[i - (c.bs.length + c.ks.length)].1.vars:=by
   rw [zay,if_pos hge,zaq _ _ _ (by simp; omega)]
   simp
  have hp:=partA c.al[i - (c.bs.length + c.ks.length)]
  simp only [a_140,sA,seval,kn,zaf,zaj,zbk,zbj,zbi,len_B,len_C,w1,c1,w2,natI,hx,agg?_dA,hp,zew,hg]
 ·have c1:¬ ((i:Int) ≥ ((c.bs.length + c.ks.length:Nat):Int)):=by omega
  have hg:zay c i=c.bs.map Prod.fst:=by rw [zay,if_neg hge]
  simp only [a_140,sA,seval,kn,zaf,zaj,zbk,zbj,zbi,len_B,len_C,w1,c1,hc,hg]
def zqc:List D→Cell→Prop:=fun ds c=>∀ a (i:Nat),ds=[dCo a,.int .i64 i]→c=⟨false,dSs (zay a i)⟩
theorem zqn {S:Specs} (hS:aget S n_35=some zqc) (a:Co) (i:Nat) (h:i < (zae a).length) (hl:a.size < 100000000) (n:Nat) (σ:Store):T S (n + 1) n_35 [dCo a,.int .i64 i] σ=some (.ret ⟨false,dSs (zay a i)⟩,σ):=by
 obtain ⟨c,h1,h2⟩:=T_orc (S:=S) hS rfl (c:=⟨false,dSs (zay a i)⟩) (fun a' i' e=>by
  simp only [List.cons.injEq,D.int.injEq,true_and,and_true] at e
  rw [zcs e.1,show i=i' by omega]) (zckb a i h hl)
 rw [h2,h1 a i rfl]
end Go.Fu

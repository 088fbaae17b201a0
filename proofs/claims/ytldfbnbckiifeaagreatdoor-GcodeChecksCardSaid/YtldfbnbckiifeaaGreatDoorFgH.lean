/-
 Names padded,turned round,found,twice; the prims' instructions.
-/
import Derived.Test.YtldfbnbckiifeaaGreatDoorFgE
set_option maxHeartbeats 4000000
set_option linter.unusedSimpArgs false
set_option linter.unusedVariables false
set_option linter.unusedSectionVars false
namespace Go.Fu
open Go Go.Mx
set_option maxRecDepth 10000
theorem zy4 {body:Env→Store→XRes} (E:Nat→Env) (σ:Store) (k:Nat) (q:Nat→Bool) (stop:Nat→AExit × Env × Store) {r:AExit × Env × Store} (hr:∀ e σ,r≠(.normal,e,σ)) (hs:∀ i e σ,stop i≠(.normal,e,σ))
  (hstep:∀ i,i < k→q i=false→body (E i) σ=some (.normal,E (i + 1),σ)) (hstop:∀ i,i < k→q i=true→body (E i) σ=some (stop i)) (hend:body (E k) σ=some r) (n:Nat) (hn:k < n):loopN body n (E 0) σ=some (caseO ((List.range k).find? q) r stop):=by
 rcases zfn (body:=body) E (fun _=>σ) k (fun i=>!q i) (r:=r) stop hr hs (fun i hi hq=>hstep i hi (by simpa using hq)) (fun i hi hq=>hstop i hi (by simpa using hq)) hend n 0 (Nat.zero_le _) (by omega) with ⟨i,_,hi,hq,hall,h⟩ | ⟨hq,h⟩
 ·have:(List.range k).find? q=some i:=List.find?_range_eq_some.2 ⟨by simpa using hq,List.mem_range.2 hi,fun j hj=>hall j (Nat.zero_le _) hj⟩
  rw [h,this]
  rfl
 ·have:(List.range k).find? q=none:=List.find?_range_eq_none.2 fun i hi=>hq i (Nat.zero_le _) hi
  rw [h,this]
  rfl
def lieM (env:List Tx) (s:Tx):Int:=caseO ((List.range env.length).find? fun j=>env.getD (env.length - 1 - j) [] == s) (-1) fun j=>((env.length - 1 - j:Nat):Int)
section
variable {C:CallF} {n:Nat} {σ:Store}
def Elie (l:List Tx) (s:Tx) (j:Nat):Env:={slots:=[(0,⟨false,dSs l⟩),(1,⟨false,.str s⟩),(5,⟨false,.int .i64 ((l.length:Int) - 1 - j)⟩)],locs:=[],boxes:=[],defers:=[]}
theorem zirb (l:List Tx) (s:Tx) (j:Nat) (h:j < l.length) (hl:l.length < 1000000000) (hq:(l.getD (l.length - 1 - j) [] == s)=false):exec C n none a_67 (Elie l s j) σ=some (.normal,Elie l s (j + 1),σ):=by
 have hlt:l.length - 1 - j < l.length:=by omega
 rw [zaq _ _ _ hlt] at hq
 have e:((l.length:Int) - 1 - (j:Int))=((l.length - 1 - j:Nat):Int):=by omega
 have hge:(((l.length - 1 - j:Nat):Int) ≥ 0):=by omega
 have w:IntKind.i64.wrap (((l.length - 1 - j:Nat):Int) - 1)=(l.length:Int) - 1 - ((j + 1:Nat):Int):=by rw [zbr (by omega) (by omega)]; omega
 simp only [a_67,Elie,e,sA,seval,kn,hge,natI,idx_S l _ hlt,hq,w]
def zon (l:List Tx) (σ:Store) (j:Nat):AExit × Env × Store:=(.ret,{slots:=[(4,⟨false,.int .i64 ((l.length - 1 - j:Nat):Int)⟩)],locs:=[],boxes:=[],defers:=[]},σ)
theorem zisb (l:List Tx) (s:Tx) (j:Nat) (h:j < l.length) (hq:(l.getD (l.length - 1 - j) [] == s)=true):exec C n none a_67 (Elie l s j) σ=some (zon l σ j):=by
 have hlt:l.length - 1 - j < l.length:=by omega
 rw [zaq _ _ _ hlt] at hq
 have e:((l.length:Int) - 1 - (j:Int))=((l.length - 1 - j:Nat):Int):=by omega
 have hge:(((l.length - 1 - j:Nat):Int) ≥ 0):=by omega
 simp only [a_67,Elie,e,sA,seval,kn,hge,natI,idx_S l _ hlt,hq,zon]
theorem zlib (l:List Tx) (s:Tx):exec C n none a_67 (Elie l s l.length) σ=some (.exit 0,{Elie l s l.length with slots:=[(0,⟨false,dSs l⟩),(1,⟨false,.str s⟩),(5,⟨false,.int .i64 (-1)⟩),(10,⟨false,.bool false⟩)]},σ):=by
 have e:((l.length:Int) - 1 - (l.length:Int))=-1:=by omega
 simp only [a_67,Elie,e,sA,seval,kn]
end
theorem ziqb (l:List Tx) (s:Tx) (hl:l.length < 1000000000):OkP n_153 [dSs l,.str s] ⟨false,.int .i64 (lieM l s)⟩:=by
 refine zas (af:=a_142) (n:=l.length + 1) (σ':=σ0) (zav [] 0) rfl rfl (by simp [zal,zau,noPtr]) rfl ?_
 have h:=zy4 (body:=exec (T [] 0) (l.length + 1) none a_67) (Elie l s) σ0 l.length (fun j=>l.getD (l.length - 1 - j) [] == s) (zon l σ0) (fun _ _ h=>by cases h) (fun _ _ _ h=>by cases h) (fun i hi hq=>zirb l s i hi hl hq) (fun i hi hq=>zisb l s i hi hq) (zlib l s) (l.length + 1) (by omega)
 have w:IntKind.i64.wrap ((l.length:Int) - 1)=(l.length:Int) - 1:=zbr (by omega) (by omega)
 have e0:(l.length:Int) - 1 - ((0:Nat):Int)=(l.length:Int) - 1:=by omega
 simp only [Elie,e0] at h
 unfold lieM
 cases hf:(List.range l.length).find? fun j=>l.getD (l.length - 1 - j) [] == s with
 | none =>
  rw [hf] at h
  simp only [zao] at h
  simp only [a_142,sA,seval,kn,len_S,w,h]
 | some j =>
  rw [hf] at h
  simp only [zad,zon] at h
  simp only [a_142,sA,seval,kn,len_S,w,h]
def zgxb:List D→Cell→Prop:=fun ds c=>∀ l s,ds=[dSs l,.str s]→c=⟨false,.int .i64 (lieM l s)⟩
theorem zhsb {S:Specs} (hS:aget S n_153=some zgxb) (l:List Tx) (s:Tx) (hl:l.length < 1000000000) (n:Nat) (σ:Store):T S (n + 1) n_153 [dSs l,.str s] σ=some (.ret ⟨false,.int .i64 (lieM l s)⟩,σ):=by
 obtain ⟨c,h1,h2⟩:=T_orc (S:=S) hS rfl (c:=⟨false,.int .i64 (lieM l s)⟩) (fun l' s' e=>by
  simp only [List.cons.injEq,D.str.injEq,and_true] at e
  obtain ⟨e1,rfl⟩:=e
  rw [zba e1]) (ziqb l s hl)
 rw [h2,h1 l s rfl]
theorem zcyb (l:List Tx) (s:Tx):-1≤lieM l s∧lieM l s < l.length:=by
 unfold lieM
 cases hf:(List.range l.length).find? fun j=>l.getD (l.length - 1 - j) [] == s with
 | none=>simp only [zao]; omega
 | some j =>
  have:=List.mem_range.1 (List.mem_of_find?_eq_some hf)
  simp only [zad]
  omega
def padM (l:List Tx) (d:Nat):List Tx:=l ++ List.replicate (d - l.length) []
section
variable {C:CallF} {n:Nat} {σ:Store}
def Epad (l:List Tx) (d:Nat) (i:Nat):Env:={slots:=[(1,⟨false,.int .i64 d⟩),(5,⟨true,dSs (l ++ List.replicate i [])⟩)],locs:=[],boxes:=[],defers:=[]}
theorem zi4b (l:List Tx) (d i:Nat) (h:i < d - l.length) (hl:l.length + d < 1000000000):exec C n none a_119 (Epad l d i) σ=some (.normal,Epad l d (i + 1),σ):=by
 have hi:(((l ++ List.replicate i ([]:Tx)).length:Int) < (d:Int)):=by simp; omega
 have ha:=ze6 (l ++ List.replicate i []) [] true (fun _=>rfl) (by simp; omega)
 have e:l ++ List.replicate i ([]:Tx) ++ [[]]=l ++ List.replicate (i + 1) []:=by rw [List.append_assoc,List.replicate_succ']
 rw [e] at ha
 simp only [a_119,Epad,sA,seval,kn,len_S,hi,ha]
theorem zl3b (l:List Tx) (d:Nat):exec C n none a_119 (Epad l d (d - l.length)) σ=some (.exit 0,{Epad l d (d - l.length) with slots:=[(1,⟨false,.int .i64 d⟩),(5,⟨true,dSs (padM l d)⟩),(11,⟨false,.bool false⟩)]},σ):=by
 have hi:¬ (((l ++ List.replicate (d - l.length) ([]:Tx)).length:Int) < (d:Int)):=by simp; omega
 simp only [a_119,Epad,sA,seval,kn,len_S,hi,padM]
end
theorem zi3b (l:List Tx) (d:Nat) (hl:l.length + d < 1000000000):OkP n_90 [dSs l,.int .i64 d] ⟨false,dSs (padM l d)⟩:=by
 refine OkP.weak (o:=true) rfl (zas (af:=a_178) (n:=d + 1) (σ':=σ0) (zav [] 0) rfl rfl (by simp [zal,zau,noPtr]) (zau _) ?_)
 have h:=za6 (body:=exec (T [] 0) (d + 1) none a_119) (Epad l d) (fun _=>σ0) (d - l.length) (r:=_) (fun _ _ h=>by cases h) (fun i hi=>zi4b l d i hi hl) (zl3b l d) 0 (d + 1) (by omega) (by omega)
 simp only [Epad,List.replicate_zero,List.append_nil] at h
 simp only [a_178,sA,seval,kn,zlo,appS0 l false (by omega),h]
def zxe:List D→Cell→Prop:=fun ds c=>∀ l (d:Nat),ds=[dSs l,.int .i64 d]→c=⟨false,dSs (padM l d)⟩
theorem zu8 {S:Specs} (hS:aget S n_90=some zxe) (l:List Tx) (d:Nat) (hl:l.length + d < 1000000000) (n:Nat) (σ:Store):T S (n + 1) n_90 [dSs l,.int .i64 d] σ=some (.ret ⟨false,dSs (padM l d)⟩,σ):=by
 obtain ⟨c,h1,h2⟩:=T_orc (S:=S) hS rfl (c:=⟨false,dSs (padM l d)⟩) (fun l' d' e=>by
  simp only [List.cons.injEq,D.int.injEq,true_and,and_true] at e
  rw [zba e.1,show d=d' by omega]) (zi3b l d hl)
 rw [h2,h1 l d rfl]
section
variable {C:CallF} {n:Nat} {σ:Store}
def Eback (l:List Tx) (j:Nat):Env:={slots:=[(0,⟨false,dSs l⟩),(3,⟨ow j,dSs (l.reverse.take j)⟩),(4,⟨false,.int .i64 ((l.length:Int) - 1 - j)⟩)],locs:=[],boxes:=[],defers:=[]}
theorem zerb (l:List Tx) (j:Nat) (h:j < l.length) (hl:l.length < 1000000000):exec C n none a_107 (Eback l j) σ=some (.normal,Eback l (j + 1),σ):=by
 have hlt:l.length - 1 - j < l.length:=by omega
 have e:((l.length:Int) - 1 - (j:Int))=((l.length - 1 - j:Nat):Int):=by omega
 have hge:(((l.length - 1 - j:Nat):Int) ≥ 0):=by omega
 have w:IntKind.i64.wrap (((l.length - 1 - j:Nat):Int) - 1)=(l.length:Int) - 1 - ((j + 1:Nat):Int):=by rw [zbr (by omega) (by omega)]; omega
 have ha:=ze6 (l.reverse.take j) l[l.length - 1 - j] (ow j) ow_ne (by simp; omega)
 have e2:l.reverse.take j ++ [l[l.length - 1 - j]]=l.reverse.take (j + 1):=by rw [← za9 l.reverse j (by simpa using h),List.getElem_reverse]
 rw [e2] at ha
 simp only [a_107,Eback,e,sA,seval,kn,hge,natI,idx_S l _ hlt,ha,w,zco]
theorem zhqb (l:List Tx):exec C n none a_107 (Eback l l.length) σ=some (.exit 0,{Eback l l.length with slots:=[(0,⟨false,dSs l⟩),(3,⟨ow l.length,dSs l.reverse⟩),(4,⟨false,.int .i64 (-1)⟩),(9,⟨false,.bool false⟩)]},σ):=by
 have e:((l.length:Int) - 1 - (l.length:Int))=-1:=by omega
 have e2:l.reverse.take l.length=l.reverse:=by rw [List.take_of_length_le (by simp)]
 simp only [a_107,Eback,e,sA,seval,kn,e2]
end
theorem zeqb (l:List Tx) (hl:l.length < 1000000000):OkP n_75 [dSs l] ⟨false,dSs l.reverse⟩:=by
 refine OkP.weak (o:=ow l.length) rfl (zas (af:=a_170) (n:=l.length + 1) (σ':=σ0) (zav [] 0) rfl rfl (by simp [zal,zau]) (zau _) ?_)
 have h:=za6 (body:=exec (T [] 0) (l.length + 1) none a_107) (Eback l) (fun _=>σ0) l.length (r:=_) (fun _ _ h=>by cases h) (fun i hi=>zerb l i hi hl) (zhqb l) 0 (l.length + 1) (by omega) (by omega)
 have w:IntKind.i64.wrap ((l.length:Int) - 1)=(l.length:Int) - 1:=zbr (by omega) (by omega)
 have e0:(l.length:Int) - 1 - ((0:Nat):Int)=(l.length:Int) - 1:=by omega
 have e1:dSs []=.nils:=rfl
 simp only [Eback,e0,List.take_zero,e1,zfo] at h
 simp only [a_170,sA,seval,kn,len_S,w,h]
def zso:List D→Cell→Prop:=fun ds c=>∀ l,ds=[dSs l]→c=⟨false,dSs l.reverse⟩
theorem zd7 {S:Specs} (hS:aget S n_75=some zso) (l:List Tx) (hl:l.length < 1000000000) (n:Nat) (σ:Store):T S (n + 1) n_75 [dSs l] σ=some (.ret ⟨false,dSs l.reverse⟩,σ):=by
 obtain ⟨c,h1,h2⟩:=T_orc (S:=S) hS rfl (c:=⟨false,dSs l.reverse⟩) (fun l' e=>by
  simp only [List.cons.injEq,and_true] at e
  rw [zba e]) (zeqb l hl)
 rw [h2,h1 l rfl]
def primM (s:Tx):Tx:=ifB (s == [97,100,100]) [65,68,68] (ifB (s == [115,117,98]) [83,85,66] (ifB (s == [109,117,108]) [77,85,76] (ifB (s == [100,105,118]) [68,73,86] (ifB (s == [101,113]) [69,81] (ifB (s == [108,116]) [76,84] [])))))
theorem zgnb (s:Tx):OkP n_91 [.str s] ⟨false,.str (primM s)⟩:=by
 refine zas (af:=a_39) (n:=1) (σ':=σ0) (zav [] 0) rfl rfl rfl rfl ?_
 unfold primM
 cases h1:s == [97,100,100] with
 | true=>simp only [a_39,sA,seval,kn,h1]
 | false =>
  cases h2:s == [115,117,98] with
  | true=>simp only [a_39,sA,seval,kn,h1,h2]
  | false =>
   cases h3:s == [109,117,108] with
   | true=>simp only [a_39,sA,seval,kn,h1,h2,h3]
   | false =>
    cases h4:s == [100,105,118] with
    | true=>simp only [a_39,sA,seval,kn,h1,h2,h3,h4]
    | false =>
     cases h5:s == [101,113] with
     | true=>simp only [a_39,sA,seval,kn,h1,h2,h3,h4,h5]
     | false =>
      cases h6:s == [108,116] with
      | true=>simp only [a_39,sA,seval,kn,h1,h2,h3,h4,h5,h6]
      | false=>simp only [a_39,sA,seval,kn,h1,h2,h3,h4,h5,h6]
def zsr:List D→Cell→Prop:=fun ds c=>∀ s,ds=[.str s]→c=⟨false,.str (primM s)⟩
theorem zs2 {S:Specs} (hS:aget S n_91=some zsr) (s:Tx) (n:Nat) (σ:Store):T S (n + 1) n_91 [.str s] σ=some (.ret ⟨false,.str (primM s)⟩,σ):=by
 obtain ⟨c,h1,h2⟩:=T_orc (S:=S) hS rfl (c:=⟨false,.str (primM s)⟩) (fun s' e=>by
  simp only [List.cons.injEq,D.str.injEq,and_true] at e
  rw [e]) (zgnb s)
 rw [h2,h1 s rfl]
end Go.Fu
namespace Go.Fu
open Go Go.Mx
set_option maxRecDepth 10000
def zce (l:List Tx):Bool:=(List.range l.length).any fun i=>(List.range i).any fun k=>l.getD i [] == l.getD k []
section
variable {C:CallF} {n:Nat} {σ:Store}
def Etw (l:List Tx) (i k:Nat):Env:={slots:=[(0,⟨false,dSs l⟩),(3,⟨false,.int .i64 i⟩),(4,⟨false,.int .i64 k⟩)],locs:=[],boxes:=[],defers:=[]}
def zoi:Env:={slots:=[(2,⟨false,.bool true⟩)],locs:=[],boxes:=[],defers:=[]}
theorem zmlb (l:List Tx) (i k:Nat) (h:i < l.length) (hk:k < i) (hl:l.length < 1000000000) (hq:(l.getD i [] == l.getD k [])=false):exec C n none a_54 (Etw l i k) σ=some (.normal,Etw l i (k + 1),σ):=by
 rw [zaq _ _ _ h,zaq _ _ _ (by omega)] at hq
 have hi:((k:Int) < (i:Int)):=by omega
 simp only [a_54,Etw,sA,seval,kn,hi,natI,idx_S l i h,idx_S l k (by omega),hq,zag (i:=k) (by omega)]
theorem zmmb (l:List Tx) (i k:Nat) (h:i < l.length) (hk:k < i) (hq:(l.getD i [] == l.getD k [])=true):exec C n none a_54 (Etw l i k) σ=some (.ret,zoi,σ):=by
 rw [zaq _ _ _ h,zaq _ _ _ (by omega)] at hq
 have hi:((k:Int) < (i:Int)):=by omega
 simp only [a_54,Etw,zoi,sA,seval,kn,hi,natI,idx_S l i h,idx_S l k (by omega),hq]
theorem zowb (l:List Tx) (i:Nat):exec C n none a_54 (Etw l i i) σ=some (.exit 2,{Etw l i i with slots:=[(0,⟨false,dSs l⟩),(3,⟨false,.int .i64 i⟩),(4,⟨false,.int .i64 i⟩),(13,⟨false,.bool false⟩)]},σ):=by
 have hi:¬ ((i:Int) < (i:Int)):=by omega
 simp only [a_54,Etw,sA,seval,kn,hi]
def Etx (l:List Tx) (i:Nat):Env:={slots:=[(0,⟨false,dSs l⟩),(3,⟨false,.int .i64 i⟩)],locs:=[],boxes:=[],defers:=[]}
theorem tx_in (l:List Tx) (i:Nat) (h:i < l.length) (hl:l.length < 1000000000) (hn:l.length < n):loopN (exec C n none a_54) n (Etw l i 0) σ=some (ifB ((List.range i).any fun k=>l.getD i [] == l.getD k []) (.ret,zoi,σ) (.exit 2,{Etw l i i with slots:=[(0,⟨false,dSs l⟩),(3,⟨false,.int .i64 i⟩),(4,⟨false,.int .i64 i⟩),(13,⟨false,.bool false⟩)]},σ)) :=
 ze8 (body:=exec C n none a_54) (Etw l i) σ i (fun k=>l.getD i [] == l.getD k []) (fun _ _ h=>by cases h) (fun _ _ h=>by cases h) (fun k hk hq=>zmlb l i k h hk hl hq) (fun k hk hq=>zmmb l i k h hk hq) (zowb l i) n (by omega)
theorem zmnb (l:List Tx) (i:Nat) (h:i < l.length) (hl:l.length < 1000000000) (hn:l.length < n) (hq:((List.range i).any fun k=>l.getD i [] == l.getD k [])=false):exec C n none a_70 (Etx l i) σ=some (.normal,Etx l (i + 1),σ):=by
 have hi:((i:Int) < (l.length:Int)):=by omega
 have hx:=tx_in (C:=C) (σ:=σ) l i h hl hn
 rw [hq] at hx
 simp only [zab,Etw,zeroI] at hx
 simp only [a_70,Etx,sA,seval,kn,len_S,hi,hx,zag (i:=i) (by omega)]
theorem zmob (l:List Tx) (i:Nat) (h:i < l.length) (hl:l.length < 1000000000) (hn:l.length < n) (hq:((List.range i).any fun k=>l.getD i [] == l.getD k [])=true):exec C n none a_70 (Etx l i) σ=some (.ret,zoi,σ):=by
 have hi:((i:Int) < (l.length:Int)):=by omega
 have hx:=tx_in (C:=C) (σ:=σ) l i h hl hn
 rw [hq] at hx
 simp only [zac,Etw,zeroI] at hx
 simp only [a_70,Etx,sA,seval,kn,len_S,hi,hx]
theorem zoxb (l:List Tx):exec C n none a_70 (Etx l l.length) σ=some (.exit 0,{Etx l l.length with slots:=[(0,⟨false,dSs l⟩),(3,⟨false,.int .i64 l.length⟩),(8,⟨false,.bool false⟩)]},σ):=by
 have hi:¬ ((l.length:Int) < (l.length:Int)):=by omega
 simp only [a_70,Etx,sA,seval,kn,len_S,hi]
end
theorem zd6b (l:List Tx) (hl:l.length < 1000000000):OkP n_26 [dSs l] ⟨false,.bool (zce l)⟩:=by
 refine zas (af:=a_143) (n:=l.length + 1) (σ':=σ0) (zav [] 0) rfl rfl (by simp [zal,zau]) rfl ?_
 have h:=ze8 (body:=exec (T [] 0) (l.length + 1) none a_70) (Etx l) σ0 l.length (fun i=>(List.range i).any fun k=>l.getD i [] == l.getD k []) (fun _ _ h=>by cases h) (fun _ _ h=>by cases h) (fun i hi hq=>zmnb l i hi hl (by omega) hq) (fun i hi hq=>zmob l i hi hl (by omega) hq) (zoxb l) (l.length + 1) (by omega)
 have ht:((List.range l.length).any fun i=>(List.range i).any fun k=>l.getD i [] == l.getD k [])=zce l:=rfl
 rw [ht] at h
 simp only [Etx,zeroI,zoi] at h
 cases hb:zce l with
 | true =>
  rw [hb] at h
  simp only [a_143,sA,seval,kn,h]
 | false =>
  rw [hb] at h
  simp only [a_143,sA,seval,kn,h]
def zmo:List D→Cell→Prop:=fun ds c=>∀ l,ds=[dSs l]→c=⟨false,.bool (zce l)⟩
theorem zhc {S:Specs} (hS:aget S n_26=some zmo) (l:List Tx) (hl:l.length < 1000000000) (n:Nat) (σ:Store):T S (n + 1) n_26 [dSs l] σ=some (.ret ⟨false,.bool (zce l)⟩,σ):=by
 obtain ⟨c,h1,h2⟩:=T_orc (S:=S) hS rfl (c:=⟨false,.bool (zce l)⟩) (fun l' e=>by
  simp only [List.cons.injEq,and_true] at e
  rw [zba e]) (zd6b l hl)
 rw [h2,h1 l rfl]
def FL:List Fd:=[⟨[70,97,108,115,101],0,2,0⟩,⟨[84,114,117,101],1,2,0⟩,⟨[78,105,108],0,2,0⟩,⟨[67,111,110,115],1,2,2⟩,⟨[79,110,101],0,1,1⟩]
theorem zndb {a b:Fd} (h:dF a=dF b):a=b:=by
 cases a; cases b
 simpa [dF] using h
theorem zk6 {a b:List Fd} (h:dFs a=dFs b):a=b:=zhq zndb (ze2 h)
theorem len_F (l:List Fd):lenOf (dFs l)=some l.length:=zgc _ l
theorem idx_F (l:List Fd) (i:Nat) (h:i < l.length):za7 8 (dFs l) i=some (.eptr (dF l[i])):=zga rfl _ _ _ h
def fits1 (s:Tx) (m:Int) (f:Fd):Bool:=(f.name == s) && (decide (m < 0) || (f.arity == m))
def zc2 (l:List Fd) (s:Tx) (m:Int):Bool:=l.any (fits1 s m)
section
variable {C:CallF} {n:Nat} {σ:Store}
def Efd (l:List Fd) (s:Tx) (m:Int) (i:Nat):Env:={slots:=[(0,⟨false,dFs l⟩),(1,⟨false,.str s⟩),(2,⟨false,.int .i64 m⟩),(7,⟨false,.int .i64 i⟩)],locs:=[],boxes:=[],defers:=[]}
def f0:Fd:=⟨[],0,0,0⟩
theorem zkob (l:List Fd) (s:Tx) (m:Int) (i:Nat) (h:i < l.length) (hl:l.length < 1000000000) (hq:fits1 s m (l.getD i f0)=false):exec C n none a_38 (Efd l s m i) σ=some (.normal,Efd l s m (i + 1),σ):=by
 rw [zaq _ _ _ h] at hq
 have hi:((i:Int) < (l.length:Int)):=by omega
 have hx:=idx_F l i h
 have w:=zag (i:=i) (by omega)
 cases hf:l[i] with
 | mk nm tg mn ar =>
 rw [hf] at hq hx
 simp only [fits1] at hq
 simp only [dF] at hx
 cases h1:nm == s with
 | false=>simp only [a_38,Efd,sA,seval,kn,Mx.part,len_F,hi,natI,hx,h1,w]
 | true =>
  simp only [h1,Bool.true_and,Bool.or_eq_false_iff,decide_eq_false_iff_not] at hq
  simp only [a_38,Efd,sA,seval,kn,Mx.part,len_F,hi,natI,hx,h1,hq.1,hq.2,w]
theorem zkpb (l:List Fd) (s:Tx) (m:Int) (i:Nat) (h:i < l.length) (hq:fits1 s m (l.getD i f0)=true):exec C n none a_38 (Efd l s m i) σ=some (.ret,{slots:=[(6,⟨false,.bool true⟩)],locs:=[],boxes:=[],defers:=[]},σ):=by
 rw [zaq _ _ _ h] at hq
 have hi:((i:Int) < (l.length:Int)):=by omega
 have hx:=idx_F l i h
 cases hf:l[i] with
 | mk nm tg mn ar =>
 rw [hf] at hq hx
 simp only [fits1,Bool.and_eq_true] at hq
 simp only [dF] at hx
 by_cases h2:m < 0
 ·simp only [a_38,Efd,sA,seval,kn,Mx.part,len_F,hi,natI,hx,hq.1,h2]
 ·have h3:=hq.2
  simp only [h2,decide_false,Bool.false_or] at h3
  simp only [a_38,Efd,sA,seval,kn,Mx.part,len_F,hi,natI,hx,hq.1,h2,h3]
theorem znjb (l:List Fd) (s:Tx) (m:Int):exec C n none a_38 (Efd l s m l.length) σ=some (.exit 0,{Efd l s m l.length with slots:=[(0,⟨false,dFs l⟩),(1,⟨false,.str s⟩),(2,⟨false,.int .i64 m⟩),(7,⟨false,.int .i64 l.length⟩),(11,⟨false,.bool false⟩)]},σ):=by
 have hi:¬ ((l.length:Int) < (l.length:Int)):=by omega
 simp only [a_38,Efd,sA,seval,kn,len_F,hi]
end
theorem zcdb (l:List Fd) (s:Tx) (m:Int) (hl:l.length < 1000000000):OkP n_46 [dFs l,.str s,.int .i64 m] ⟨false,.bool (zc2 l s m)⟩:=by
 refine zas (af:=a_139) (n:=l.length + 1) (σ':=σ0) (zav [] 0) rfl rfl (by simp [zal,zde,noPtr]) rfl ?_
 have h:=ze8 (body:=exec (T [] 0) (l.length + 1) none a_38) (Efd l s m) σ0 l.length (fun i=>fits1 s m (l.getD i f0)) (fun _ _ h=>by cases h) (fun _ _ h=>by cases h) (fun i hi hq=>zkob l s m i hi hl hq) (fun i hi hq=>zkpb l s m i hi hq) (znjb l s m) (l.length + 1) (by omega)
 rw [zh9 l f0 (fits1 s m)] at h
 have ht:l.any (fits1 s m)=zc2 l s m:=rfl
 rw [ht] at h
 simp only [Efd,zeroI] at h
 cases hb:zc2 l s m with
 | true =>
  rw [hb] at h
  simp only [a_139,sA,seval,kn,h]
 | false =>
  rw [hb] at h
  simp only [a_139,sA,seval,kn,h]
def zqb:List D→Cell→Prop:=fun ds c=>∀ l s m,ds=[dFs l,.str s,.int .i64 m]→c=⟨false,.bool (zc2 l s m)⟩
theorem zlt {S:Specs} (hS:aget S n_46=some zqb) (l:List Fd) (s:Tx) (m:Int) (hl:l.length < 1000000000) (n:Nat) (σ:Store):T S (n + 1) n_46 [dFs l,.str s,.int .i64 m] σ=some (.ret ⟨false,.bool (zc2 l s m)⟩,σ):=by
 obtain ⟨c,h1,h2⟩:=T_orc (S:=S) hS rfl (c:=⟨false,.bool (zc2 l s m)⟩) (fun l' s' m' e=>by
  simp only [List.cons.injEq,D.str.injEq,D.int.injEq,true_and,and_true] at e
  rw [zk6 e.1,e.2.1,e.2.2]) (zcdb l s m hl)
 rw [h2,h1 l s m rfl]
end Go.Fu
namespace Go.Fu
open Go Go.Mx
set_option maxRecDepth 10000
def HdOk (h:Hd):Prop:=Small h.num∧zce h.vars=false∧((h.form=1∧zc2 FL h.name h.vars.length=true)∨(h.form=2∧h.vars=[])∨(h.form=3∧h.vars=[]))
inductive Good:List Tx→Co→Prop
 | int {ns n}:Small n→Good ns (.mk 3 n [] [] [] [])
 | con {ns s}:zc2 FL s (-1)=true→Good ns (.mk 2 0 s [] [] [])
 | var {ns s}:ns.any (· == s)=true→Good ns (.mk 1 0 s [] [] [])
 | fail {ns}:Good ns (.mk 11 0 [] [] [] [])
 | app {ns a b}:Good ns a→Good ns b→Good ns (.mk 4 0 [] [a,b] [] [])
 | prim {ns s a b}:(primM s == [])=false→Good ns a→Good ns b→Good ns (.mk 10 0 s [a,b] [] [])
 | lt {ns b bs}:zce (bs.map Prod.fst)=false→(∀ p∈bs,Good (ns ++ bs.map Prod.fst) p.2)→Good (ns ++ bs.map Prod.fst) b→Good ns (.mk 8 0 [] [b] bs [])
 | cas {ns x al}:Good ns x→(∀ a∈al,HdOk a.1)→(∀ a∈al,Good (ns ++ a.1.vars) a.2)→Good ns (.mk 9 0 [] [x] [] al)
section
variable {f n:Int} {s:Tx} {ks:List Co} {bs:List (Tx × Co)} {al:List (Hd × Co)}
theorem co:(Co.mk f n s ks bs al).f=f∧(Co.mk f n s ks bs al).n=n∧(Co.mk f n s ks bs al).s=s∧(Co.mk f n s ks bs al).ks=ks∧(Co.mk f n s ks bs al).bs=bs∧(Co.mk f n s ks bs al).al=al:=⟨rfl,rfl,rfl,rfl,rfl,rfl⟩
end
theorem zfp (c:Co) (x:Co) (h:x∈zae c):x.size < c.size:=by
 have hs:=za2 c
 simp only [zae,List.mem_append,List.mem_map] at h
 rcases h with (⟨p,hp,rfl⟩ | h) | ⟨p,hp,rfl⟩
 ·have:=zgi c.bs p hp; omega
 ·have:=zg8 c.ks x h; omega
 ·have:=ze0 c.al p hp; omega
theorem zni {ns:List Tx} {c:Co} (h:Good ns c) (i:Nat) (hi:i < (zae c).length):Good (ns ++ zay c i) (zae c)[i]:=by
 cases h with
 | int _=>simp [zae,co] at hi
 | con _=>simp [zae,co] at hi
 | var _=>simp [zae,co] at hi
 | fail=>simp [zae,co] at hi
 | @app _ a b ha hb =>
  have hg:zay (.mk 4 0 [] [a,b] [] []) i=[]:=by
   simp only [zae,co,List.map_nil,List.nil_append,List.append_nil,List.length_cons,List.length_nil] at hi
   unfold zay
   split
   ·simp [co] at *
    try omega
   ·rfl
  rw [hg,List.append_nil]
  simp only [zae,co,List.map_nil,List.nil_append,List.append_nil,List.length_cons,List.length_nil] at hi ⊢
  match i,hi with
  | 0,_=>exact ha
  | 1,_=>exact hb
 | @prim _ s a b _ ha hb =>
  have hg:zay (.mk 10 0 s [a,b] [] []) i=[]:=by
   simp only [zae,co,List.map_nil,List.nil_append,List.append_nil,List.length_cons,List.length_nil] at hi
   unfold zay
   split
   ·simp [co] at *
    try omega
   ·rfl
  rw [hg,List.append_nil]
  simp only [zae,co,List.map_nil,List.nil_append,List.append_nil,List.length_cons,List.length_nil] at hi ⊢
  match i,hi with
  | 0,_=>exact ha
  | 1,_=>exact hb
 | @lt _ b bs h1 h2 h3 =>
  have hg:zay (.mk 8 0 [] [b] bs []) i=bs.map Prod.fst:=by
   simp only [zae,co,List.map_nil,List.append_nil,List.length_append,List.length_map,List.length_cons,List.length_nil] at hi
   unfold zay
   rw [if_neg (by simp only [co,List.length_cons,List.length_nil]; omega)]
   rfl
  rw [hg]
  simp only [zae,co,List.map_nil,List.append_nil] at hi ⊢
  by_cases hlt:i < bs.length
  ·rw [List.getElem_append_left (by simpa using hlt)]
   rw [List.getElem_map]
   exact h2 _ (List.getElem_mem hlt)
  ·rw [List.getElem_append_right (by simpa using hlt)]
   simpa using h3
 | @cas _ x al h1 h2 h3 =>
  simp only [zae,co,List.map_nil,List.nil_append] at hi ⊢
  match i,hi with
  | 0,_ =>
   have hg:zay (.mk 9 0 [] [x] [] al) 0=[]:=by
    unfold zay
    rw [if_neg (by simp [co])]
    rfl
   rw [hg,List.append_nil]
   exact h1
  | i + 1,hi =>
   simp only [List.cons_append,List.nil_append,List.length_cons,List.length_map] at hi
   have hlt:i < al.length:=by omega
   have hg:zay (.mk 9 0 [] [x] [] al) (i + 1)=al[i].1.vars:=by
    unfold zay
    rw [if_pos (by simp [co])]
    simp only [co,List.length_nil,List.length_cons]
    rw [zaq _ _ _ (by simp; omega)]
    simp
   rw [hg]
   simp only [List.cons_append,List.nil_append,List.getElem_cons_succ,List.getElem_map]
   exact h3 _ (List.getElem_mem hlt)
/-! ### Forms -/
def SPr:Specs:=[(n_91,zsr)]
section
variable {C:CallF} {n:Nat} {σ:Store}
def Esh (c:Co) (i:Nat):Env:={slots:=[(4,⟨false,.int .i64 i⟩)],locs:=[(1,1,0)],boxes:=[(1,bC c)],defers:=[]}
theorem zmcb (c:Co) (i:Nat) (h:i < c.al.length) (hl:c.size < 100000000) (hh:HdOk c.al[i].1):exec C n none a_68 (Esh c i) σ=some (.normal,Esh c (i + 1),σ):=by
 have ha:=zc6 c.al
 have hsz:=za2 c
 have hi:((i:Int) < (c.al.length:Int)):=by omega
 have hx:=idx_A c.al i h
 have w:=zag (i:=i) (by omega)
 have hd:=dA_eq c.al[i]
 simp only [zaj] at hd
 rw [hd] at hx
 obtain ⟨_,_,hf | ⟨hf,hv⟩ | ⟨hf,hv⟩⟩:=hh
 ·simp only [a_68,Esh,bC,sA,seval,kn,len_A,hi,natI,hx,zew,zbk,zbj,zbi,hf.1,w]
 ·simp only [a_68,Esh,bC,sA,seval,kn,len_A,hi,natI,hx,zew,zbk,zbj,zbi,hf,hv,len_S,List.length_nil,zeroI,w]
 ·simp only [a_68,Esh,bC,sA,seval,kn,len_A,hi,natI,hx,zew,zbk,zbj,zbi,hf,hv,len_S,List.length_nil,zeroI,w]
theorem zotb (c:Co):exec C n none a_68 (Esh c c.al.length) σ=some (.exit 1,{Esh c c.al.length with slots:=[(4,⟨false,.int .i64 c.al.length⟩),(90,⟨false,.bool false⟩)]},σ):=by
 have hi:¬ ((c.al.length:Int) < (c.al.length:Int)):=by omega
 simp only [a_68,Esh,bC,sA,seval,kn,len_A,hi]
end
set_option maxHeartbeats 4000000 in
theorem zdrb {ns:List Tx} {c:Co} (h:Good ns c) (hl:c.size < 100000000):OkP n_197 [dCo c] ⟨false,.bool true⟩:=by
 refine zas (af:=a_34) (n:=c.size + 1) (σ':=σ0) (zav SPr 1) rfl rfl (by simp [zal,za4]) rfl ?_
 have hp:=zs2 (S:=SPr) rfl c.s 0 σ0
 have ha:=zc6 c.al
 have hsz:=za2 c
 have h2:((2:Nat):Int)=2:=rfl
 have hloop:(∀ a∈c.al,HdOk a.1)→_:=fun hh=>za6 (body:=exec (T SPr 1) (c.size + 1) none a_68) (Esh c) (fun _=>σ0) c.al.length (r:=_) (fun _ _ h=>by cases h) (fun i hi=>zmcb c i hi hl (hh _ (List.getElem_mem hi))) (zotb c) 0 (c.size + 1) (by omega) (by omega)
 simp only [Esh,bC,zeroI] at hloop
 have e0:dCs []=.nils:=rfl
 have e1:dBl []=.nils:=rfl
 have e2:dAl []=.nils:=rfl
 cases h with
 | int _=>simp only [co] at hp; simp only [a_34,sA,seval,kn,zaf,zaj,zbk,zbj,zbi,co,hp,len_C,len_B,len_A,List.length_nil,zeroI]
 | con _=>simp only [co] at hp; simp only [a_34,sA,seval,kn,zaf,zaj,zbk,zbj,zbi,co,hp,len_C,len_B,len_A,List.length_nil,zeroI]
 | var _=>simp only [co] at hp; simp only [a_34,sA,seval,kn,zaf,zaj,zbk,zbj,zbi,co,hp,len_C,len_B,len_A,List.length_nil,zeroI]
 | fail=>simp only [co] at hp; simp only [a_34,sA,seval,kn,zaf,zaj,zbk,zbj,zbi,co,hp,len_C,len_B,len_A,List.length_nil,zeroI]
 | app _ _=>simp only [co] at hp; simp only [a_34,sA,seval,kn,zaf,zaj,zbk,zbj,zbi,co,hp,len_C,len_B,len_A,List.length_nil,List.length_cons,zeroI,h2,Nat.zero_add]
 | prim h1 _ _ =>
  simp only [co] at hp
  simp only [a_34,sA,seval,kn,zaf,zaj,zbk,zbj,zbi,co,hp,len_C,len_B,len_A,List.length_nil,List.length_cons,zeroI,h2,h1,Nat.zero_add]
 | lt _ _ _=>simp only [co] at hp; simp only [a_34,sA,seval,kn,zaf,zaj,zbk,zbj,zbi,co,hp,len_C,len_B,len_A,List.length_nil,List.length_cons,zeroI,oneI,Nat.zero_add]
 | cas _ h2 _ =>
  have hw:=hloop h2
  simp only [co] at hp hw
  simp only [a_34,sA,seval,kn,zaf,zaj,zbk,zbj,zbi,co,hp,hw,len_C,len_B,len_A,List.length_nil,List.length_cons,zeroI,oneI,Nat.zero_add]
def zor:List D→Cell→Prop:=fun _ c=>c=⟨false,.bool true⟩
def zj1:List D→Cell→Prop:=fun _ c=>c=⟨false,.bool false⟩
theorem zm7 {S:Specs} {f:FuncId} (hS:aget S f=some zor) (hY:isY f=false) {ds:List D} (h:OkP f ds ⟨false,.bool true⟩) (n:Nat) (σ:Store):T S (n + 1) f ds σ=some (.ret ⟨false,.bool true⟩,σ):=by
 obtain ⟨c,h1,h2⟩:=T_orc (S:=S) hS hY (c:=⟨false,.bool true⟩) rfl h
 rw [h2,h1]
theorem zi1 {S:Specs} {f:FuncId} (hS:aget S f=some zj1) (hY:isY f=false) {ds:List D} (h:OkP f ds ⟨false,.bool false⟩) (n:Nat) (σ:Store):T S (n + 1) f ds σ=some (.ret ⟨false,.bool false⟩,σ):=by
 obtain ⟨c,h1,h2⟩:=T_orc (S:=S) hS hY (c:=⟨false,.bool false⟩) rfl h
 rw [h2,h1]
def SSh:Specs:=[(n_197,zor),(n_78,zor),(n_36,zj2)]
section
variable {C:CallF} {n:Nat} {σ:Store}
def Eshs (l:List Co) (i:Nat):Env:={slots:=[(3,⟨false,.bool true⟩),(4,⟨false,dCs l⟩),(5,⟨false,.int .i64 i⟩)],locs:=[],boxes:=[],defers:=[]}
theorem zjhb (l:List Co) (i:Nat) (h:i < l.length) (hl:l.length < 100000000) (hc:C n_78 [dCo l[i]] σ=some (.ret ⟨false,.bool true⟩,σ)):exec C n none a_123 (Eshs l i) σ=some (.normal,Eshs l (i + 1),σ):=by
 have hi:((i:Int) < (l.length:Int)):=by omega
 have hx:=idx_C l i h
 have hd:=zaf l[i]
 rw [hd] at hc hx
 simp only [a_123,Eshs,sA,seval,kn,len_C,hi,natI,hx,zgb,hc,zag (i:=i) (by omega)]
theorem zmdb (l:List Co):exec C n none a_123 (Eshs l l.length) σ=some (.exit 0,{Eshs l l.length with slots:=[(3,⟨false,.bool true⟩),(4,⟨false,dCs l⟩),(5,⟨false,.int .i64 l.length⟩),(16,⟨false,.bool false⟩)]},σ):=by
 have hi:¬ ((l.length:Int) < (l.length:Int)):=by omega
 simp only [a_123,Eshs,sA,seval,kn,len_C,hi]
end
theorem zzu:∀ (k:Nat) (c:Co) (ns:List Tx),c.size=k→Good ns c→c.size < 100000000→OkP n_78 [dCo c] ⟨false,.bool true⟩:=by
 intro k
 induction k using Nat.strongRecOn with
 | ind k ih =>
  intro c ns hk h hl
  have hlen:=ze9 c
  have hsz:=za2 c
  have hb:=zbv c.bs
  have hks:=zft c.ks
  have ha:=zc6 c.al
  refine zas (af:=a_180) (n:=c.size + 1) (σ':=σ0) (zav SSh 1) rfl rfl (by simp [zal,za4]) rfl ?_
  have h1:=zm7 (S:=SSh) rfl rfl (zdrb h hl) 0 σ0
  have h2:=zi2 (S:=SSh) rfl c hl 0 σ0
  have hrec:∀ i (hi:i < (zae c).length),T SSh 1 n_78 [dCo (zae c)[i]] σ0=some (.ret ⟨false,.bool true⟩,σ0):=fun i hi=>by
   have hlt:=zfp c _ (List.getElem_mem hi)
   exact zm7 (S:=SSh) rfl rfl (ih _ (by omega) (zae c)[i] _ rfl (zni h i hi) (by omega)) 0 σ0
  have hloop:=za6 (body:=exec (T SSh 1) (c.size + 1) none a_123) (Eshs (zae c)) (fun _=>σ0) (zae c).length (r:=_) (fun _ _ h=>by cases h) (fun i hi=>zjhb (zae c) i hi (by omega) (hrec i hi)) (zmdb (zae c)) 0 (c.size + 1) (by omega) (by omega)
  simp only [Eshs,zeroI] at hloop
  simp only [zaf c,zaj] at h1 h2
  simp only [a_180,sA,seval,kn,zaf c,zaj,zbk,zbj,zbi,h1,h2,hloop]
end Go.Fu

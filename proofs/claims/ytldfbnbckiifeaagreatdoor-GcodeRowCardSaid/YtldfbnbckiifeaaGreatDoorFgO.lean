/-
 Small functions of the document's answer: names in lists,instructions,environments.
-/
import Derived.Test.YtldfbnbckiifeaaGreatDoorFgT
set_option maxHeartbeats 4000000
set_option linter.unusedSimpArgs false
set_option linter.unusedVariables false
set_option linter.unusedSectionVars false
namespace Go.Fu
open Go Go.Mx
set_option maxRecDepth 10000
theorem za5 {α:Type} (l:List α) (i:Nat) (d:α) (h:i < l.length):l.getD i d=l[i]:=by simp [List.getD_eq_getElem?_getD,List.getElem?_eq_getElem h]
section
variable {C:CallF} {n:Nat} {σ:Store}
end
end Go.Fu
namespace Go.Fu
open Go Go.Mx
set_option maxRecDepth 10000
theorem zw0 (l:List Tx):zbw (dSs l)=some (l.map D.str):=zf3
theorem appS (a b:List Tx) (o:Bool) (ho:a≠[]→o=true) (hl:a.length + b.length < 1000000000):za4 k_0 16 ⟨o,dSs a⟩ (b.map D.str)=some ⟨true,dSs (a ++ b)⟩:=by
 rw [dSs,zqe (fun h=>ho (by simpa using h)) (fun d hd=>by obtain ⟨x,_,rfl⟩:=List.mem_map.1 hd; exact ⟨rfl,rfl⟩) (by simp [bound]; omega) (by simp [bound]; omega)]
 rw [dSs,List.map_append]
theorem appS0 (b:List Tx) (o:Bool) (hl:b.length < 1000000000):za4 k_0 16 ⟨o,.nils⟩ (b.map D.str)=some ⟨true,dSs b⟩:=by
 have:=appS [] b o (fun h=>absurd rfl h) (by simpa using hl)
 simpa [dSs,dlist] using this
theorem zgcb (a b:List Tx) (hl:a.length + b.length < 1000000000):OkP n_16 [dSs a,dSs b] ⟨false,dSs (a ++ b)⟩:=by
 refine OkP.weak (o:=true) rfl (zbv (af:=a_90) (n:=1) (σ':=σ0) (zb5 [] 0) rfl rfl (by simp [zam,za6]) (za6 _) ?_)
 simp only [a_90,sA,seval,kn,zw0,appS0 a false (by omega),appS a b true (fun _=>rfl) hl]
def op1 (s:Tx) (n:Int):In:=⟨s,n,0,[]⟩
section
variable {C:CallF} {n:Nat} {σ:Store}
theorem len_I (l:List In):lenOf (dIs l)=some l.length:=zdw _ l
theorem idx_I (l:List In) (i:Nat) (h:i < l.length):zbj 4 (dIs l) i=some (.eptr (dI l[i])):=zdv rfl _ _ _ h
end
end Go.Fu
namespace Go.Fu
open Go Go.Mx
set_option maxRecDepth 10000
mutual
def Co.size:Co→Nat
 | .mk _ _ _ ks bs al=>1 + szK ks + szB bs + szA al
def szK:List Co→Nat
 | []=>0
 | c :: r=>c.size + szK r
def szB:List (Tx × Co)→Nat
 | []=>0
 | (_,c) :: r=>1 + c.size + szB r
def szA:List (Hd × Co)→Nat
 | []=>0
 | (h,c) :: r=>1 + h.vars.length + c.size + szA r
end
theorem zci (c:Co):c.size=1 + szK c.ks + szB c.bs + szA c.al:=by
 cases c
 simp only [Co.size,Co.ks,Co.bs,Co.al]
theorem zcw (c:Co):1≤c.size:=by rw [zci]; omega
theorem zum:∀ l:List Co,l.length≤szK l
 | []=>by simp [szK]
 | c :: r=>by
  have:=zum r
  have:=zcw c
  simp only [szK,List.length_cons]
  omega
theorem zek:∀ l:List (Tx × Co),l.length≤szB l
 | []=>by simp [szB]
 | (s,c) :: r=>by
  have:=zek r
  simp only [szB,List.length_cons]
  omega
theorem zfc:∀ l:List (Hd × Co),l.length≤szA l
 | []=>by simp [szA]
 | (s,c) :: r=>by
  have:=zfc r
  simp only [szA,List.length_cons]
  omega
theorem zie:∀ (l:List Co) (x:Co),x∈l→x.size≤szK l
 | c :: r,x,h=>by
  simp only [szK]
  rcases List.mem_cons.1 h with rfl | h
  ·omega
  ·have:=zie r x h; omega
theorem zfd:∀ (l:List (Tx × Co)) (x:Tx × Co),x∈l→x.2.size + 1≤szB l
 | (s,c) :: r,x,h=>by
  simp only [szB]
  rcases List.mem_cons.1 h with rfl | h
  ·simp only; omega
  ·have:=zfd r x h; omega
theorem zdz:∀ (l:List (Hd × Co)) (x:Hd × Co),x∈l→x.2.size + x.1.vars.length + 1≤szA l
 | (s,c) :: r,x,h=>by
  simp only [szA]
  rcases List.mem_cons.1 h with rfl | h
  ·simp only; omega
  ·have:=zdz r x h; omega
theorem zn3 (a b:List Co):szK (a ++ b)=szK a + szK b:=by
 induction a with
 | nil=>simp [szK]
 | cons x r ih=>simp only [List.cons_append,szK,ih]; omega
theorem zflb (a b:List (Tx × Co)):szB (a ++ b)=szB a + szB b:=by
 induction a with
 | nil=>simp [szB]
 | cons x r ih=>obtain ⟨s,c⟩:=x; simp only [List.cons_append,szB,ih]; omega
theorem zfkb (a b:List (Hd × Co)):szA (a ++ b)=szA a + szA b:=by
 induction a with
 | nil=>simp [szA]
 | cons x r ih=>obtain ⟨s,c⟩:=x; simp only [List.cons_append,szA,ih]; omega
theorem zjr (c:Co):(cCo c).length=10:=rfl
theorem zba (l:List Tx):(dSs l).one=true:=zaz
def dCs (l:List Co):D:=dlist k_2 (l.map dCo)
def dBl (l:List (Tx × Co)):D:=dlist k_3 (l.map dB)
def dAl (l:List (Hd × Co)):D:=dlist k_4 (l.map dA)
theorem len_C (l:List Co):lenOf (dCs l)=some l.length:=zdw _ l
theorem znqb (l:List Co):(dCs l).one=true:=zaz
theorem znpb (l:List (Tx × Co)):(dBl l).one=true:=zaz
theorem znob (l:List (Hd × Co)):(dAl l).one=true:=zaz
theorem zdh (c:Co):cCo c=[.int .i64 c.f,.int .i64 c.n,.str c.s,.int .i64 0,.int .i64 0,.str [],.nils,dCs c.ks,dBl c.bs,dAl c.al]:=rfl
section
variable {C:CallF} {n:Nat} {σ:Store}
end
end Go.Fu
namespace Go.Fu
open Go Go.Mx
set_option maxRecDepth 10000
def zby (c:Co):List Co:=c.bs.map Prod.snd ++ c.ks ++ c.al.map Prod.snd
section
variable {C:CallF} {n:Nat} {σ:Store}
end
theorem zmcb {a b:List Co} (h:dCs a=dCs b):a=b:=zgj zg4 (zea h)
def zkd (c:Co) (i:Nat):List Tx:=if c.bs.length + c.ks.length≤i then (c.al.map fun a=>a.1.vars).getD (i - (c.bs.length + c.ks.length)) [] else c.bs.map Prod.fst
theorem zeyb (c:Co):(zby c).length=c.bs.length + c.ks.length + c.al.length:=by simp [zby]; omega
end Go.Fu
namespace Go.Fu
open Go Go.Mx
set_option maxRecDepth 10000
section
variable {C:CallF} {n:Nat} {σ:Store}
end
section
variable {C:CallF} {n:Nat} {σ:Store}
end
section
variable {C:CallF} {n:Nat} {σ:Store}
def Eback (l:List Tx) (j:Nat):Env:={slots:=[(0,⟨false,dSs l⟩),(3,⟨ow j,dSs (l.reverse.take j)⟩),(4,⟨false,.int .i64 ((l.length:Int) - 1 - j)⟩)],locs:=[],boxes:=[],defers:=[]}
theorem zgbb (l:List Tx) (j:Nat) (h:j < l.length) (hl:l.length < 1000000000):exec C n none a_89 (Eback l j) σ=some (.normal,Eback l (j + 1),σ):=by
 have hlt:l.length - 1 - j < l.length:=by omega
 have e:((l.length:Int) - 1 - (j:Int))=((l.length - 1 - j:Nat):Int):=by omega
 have hge:(((l.length - 1 - j:Nat):Int) ≥ 0):=by omega
 have w:IntKind.i64.wrap (((l.length - 1 - j:Nat):Int) - 1)=(l.length:Int) - 1 - ((j + 1:Nat):Int):=by rw [zc1 (by omega) (by omega)]; omega
 have ha:=zhx (l.reverse.take j) l[l.length - 1 - j] (ow j) ow_ne (by simp; omega)
 have e2:l.reverse.take j ++ [l[l.length - 1 - j]]=l.reverse.take (j + 1):=by rw [← zb3 l.reverse j (by simpa using h),List.getElem_reverse]
 rw [e2] at ha
 simp only [a_89,Eback,e,sA,seval,kn,hge,natI,idx_S l _ hlt,ha,w,zdx]
theorem zjjb (l:List Tx):exec C n none a_89 (Eback l l.length) σ=some (.exit 0,{Eback l l.length with slots:=[(0,⟨false,dSs l⟩),(3,⟨ow l.length,dSs l.reverse⟩),(4,⟨false,.int .i64 (-1)⟩),(9,⟨false,.bool false⟩)]},σ):=by
 have e:((l.length:Int) - 1 - (l.length:Int))=-1:=by omega
 have e2:l.reverse.take l.length=l.reverse:=by rw [List.take_of_length_le (by simp)]
 simp only [a_89,Eback,e,sA,seval,kn,e2]
end
theorem zgab (l:List Tx) (hl:l.length < 1000000000):OkP n_204 [dSs l] ⟨false,dSs l.reverse⟩:=by
 refine OkP.weak (o:=ow l.length) rfl (zbv (af:=a_162) (n:=l.length + 1) (σ':=σ0) (zb5 [] 0) rfl rfl (by simp [zam,za6]) (za6 _) ?_)
 have h:=zcj (body:=exec (T [] 0) (l.length + 1) none a_89) (Eback l) (fun _=>σ0) l.length (r:=_) (fun _ _ h=>by cases h) (fun i hi=>zgbb l i hi hl) (zjjb l) 0 (l.length + 1) (by omega) (by omega)
 have w:IntKind.i64.wrap ((l.length:Int) - 1)=(l.length:Int) - 1:=zc1 (by omega) (by omega)
 have e0:(l.length:Int) - 1 - ((0:Nat):Int)=(l.length:Int) - 1:=by omega
 have e1:dSs []=.nils:=rfl
 simp only [Eback,e0,List.take_zero,e1,zjs] at h
 simp only [a_162,sA,seval,kn,len_S,w,h]
def zn8b:List D→Cell→Prop:=fun ds c=>∀ l,ds=[dSs l]→c=⟨false,dSs l.reverse⟩
theorem zf5 {S:Specs} (hS:aget S n_204=some zn8b) (l:List Tx) (hl:l.length < 1000000000) (n:Nat) (σ:Store):T S (n + 1) n_204 [dSs l] σ=some (.ret ⟨false,dSs l.reverse⟩,σ):=by
 obtain ⟨c,h1,h2⟩:=T_orc (S:=S) hS rfl (c:=⟨false,dSs l.reverse⟩) (fun l' e=>by
  simp only [List.cons.injEq,and_true] at e
  rw [zcy e]) (zgab l hl)
 rw [h2,h1 l rfl]
def primM (s:Tx):Tx:=ifB (s == [97,100,100]) [65,68,68] (ifB (s == [115,117,98]) [83,85,66] (ifB (s == [109,117,108]) [77,85,76] (ifB (s == [100,105,118]) [68,73,86] (ifB (s == [101,113]) [69,81] (ifB (s == [108,116]) [76,84] [])))))
end Go.Fu
namespace Go.Fu
open Go Go.Mx
set_option maxRecDepth 10000
def zc5 (l:List Tx):Bool:=(List.range l.length).any fun i=>(List.range i).any fun k=>l.getD i [] == l.getD k []
section
variable {C:CallF} {n:Nat} {σ:Store}
end
def FL:List Fd:=[⟨[70,97,108,115,101],0,2,0⟩,⟨[84,114,117,101],1,2,0⟩,⟨[78,105,108],0,2,0⟩,⟨[67,111,110,115],1,2,2⟩,⟨[79,110,101],0,1,1⟩]
theorem zgub {a b:Fd} (h:dF a=dF b):a=b:=by
 cases a; cases b
 simpa [dF] using h
theorem zmdb {a b:List Fd} (h:dFs a=dFs b):a=b:=zgj zgub (zea h)
theorem len_F (l:List Fd):lenOf (dFs l)=some l.length:=zdw _ l
theorem idx_F (l:List Fd) (i:Nat) (h:i < l.length):zbj 8 (dFs l) i=some (.eptr (dF l[i])):=zdv rfl _ _ _ h
def fits1 (s:Tx) (m:Int) (f:Fd):Bool:=(f.name == s) && (decide (m < 0) || (f.arity == m))
def zho (l:List Fd) (s:Tx) (m:Int):Bool:=l.any (fits1 s m)
section
variable {C:CallF} {n:Nat} {σ:Store}
def f0:Fd:=⟨[],0,0,0⟩
end
end Go.Fu
namespace Go.Fu
open Go Go.Mx
set_option maxRecDepth 10000
def HdOk (h:Hd):Prop:=Small h.num∧zc5 h.vars=false∧((h.form=1∧zho FL h.name h.vars.length=true)∨(h.form=2∧h.vars=[])∨(h.form=3∧h.vars=[]))
inductive Good:List Tx→Co→Prop
 | int {ns n}:Small n→Good ns (.mk 3 n [] [] [] [])
 | con {ns s}:zho FL s (-1)=true→Good ns (.mk 2 0 s [] [] [])
 | var {ns s}:ns.any (· == s)=true→Good ns (.mk 1 0 s [] [] [])
 | fail {ns}:Good ns (.mk 11 0 [] [] [] [])
 | app {ns a b}:Good ns a→Good ns b→Good ns (.mk 4 0 [] [a,b] [] [])
 | prim {ns s a b}:(primM s == [])=false→Good ns a→Good ns b→Good ns (.mk 10 0 s [a,b] [] [])
 | lt {ns b bs}:zc5 (bs.map Prod.fst)=false→(∀ p∈bs,Good (ns ++ bs.map Prod.fst) p.2)→Good (ns ++ bs.map Prod.fst) b→Good ns (.mk 8 0 [] [b] bs [])
 | cas {ns x al}:Good ns x→(∀ a∈al,HdOk a.1)→(∀ a∈al,Good (ns ++ a.1.vars) a.2)→Good ns (.mk 9 0 [] [x] [] al)
section
variable {f n:Int} {s:Tx} {ks:List Co} {bs:List (Tx × Co)} {al:List (Hd × Co)}
theorem co:(Co.mk f n s ks bs al).f=f∧(Co.mk f n s ks bs al).n=n∧(Co.mk f n s ks bs al).s=s∧(Co.mk f n s ks bs al).ks=ks∧(Co.mk f n s ks bs al).bs=bs∧(Co.mk f n s ks bs al).al=al:=⟨rfl,rfl,rfl,rfl,rfl,rfl⟩
end
/-! ### Forms -/
section
variable {C:CallF} {n:Nat} {σ:Store}
end
section
variable {C:CallF} {n:Nat} {σ:Store}
end
end Go.Fu
namespace Go.Fu
open Go Go.Mx
set_option maxRecDepth 10000
section
variable {C:CallF} {n:Nat} {σ:Store}
end
theorem zd8b {ns:List Tx} {c:Co} (h:Good ns c):zc5 (c.bs.map Prod.fst)=false:=by
 cases h <;> first | rfl | assumption
theorem znb {ns:List Tx} {c:Co} (h:Good ns c):∀ a∈c.al,HdOk a.1:=by
 cases h <;> first | (intro a ha; cases ha; done) | assumption
section
variable {C:CallF} {n:Nat} {σ:Store}
end
theorem zhcb {ns:List Tx} {c:Co} (h:Good ns c):(c.f=1∧ns.any (· == c.s)=true)∨(c.f=2∧zho FL c.s (-1)=true)∨((c.f == 1)=false∧(c.f == 2)=false):=by
 cases h with
 | int _=>exact .inr (.inr ⟨rfl,rfl⟩)
 | con h=>exact .inr (.inl ⟨rfl,h⟩)
 | var h=>exact .inl ⟨rfl,h⟩
 | fail=>exact .inr (.inr ⟨rfl,rfl⟩)
 | app _ _=>exact .inr (.inr ⟨rfl,rfl⟩)
 | prim _ _ _=>exact .inr (.inr ⟨rfl,rfl⟩)
 | lt _ _ _=>exact .inr (.inr ⟨rfl,rfl⟩)
 | cas _ _ _=>exact .inr (.inr ⟨rfl,rfl⟩)
end Go.Fu
namespace Go.Fu
open Go Go.Mx
set_option maxRecDepth 10000
def cU (u:Su):List D:=.str u.name :: dSs u.ps :: cCo u.body
theorem dU_eq (u:Su):dU u=.agg (cU u):=rfl
theorem ok_dU (u:Su):(dU u).ok=true:=by
 rw [dU_eq]
 simp only [cU,zdh,D.ok,List.all_cons,D.one,zba,znqb,znpb,znob,List.all_nil,Bool.and_self]
theorem zj6 (u:Su):(dU u).cells.length=12:=rfl
theorem len_U (l:List Su):lenOf (dUs l)=some l.length:=zdw _ l
theorem idx_U (l:List Su) (i:Nat) (h:i < l.length):zbj 12 (dUs l) i=some (.eptr (dU l[i])):=zdv rfl _ _ _ h
theorem zjib (l:List Su):zbw (dUs l)=some (l.map dU):=zf3
section
variable {C:CallF} {n:Nat} {σ:Store}
end
structure GoodP (us:List Su):Prop where
 few:us.length < 1000
 once:zc5 (FL.map Fd.name ++ us.map Su.name)=false
 ps:∀ u∈us,zc5 u.ps=false∧u.ps.length < 1000
 body:∀ u∈us,Good (us.map Su.name ++ u.ps) u.body∧u.body.size < 10000000
section
variable {C:CallF} {n:Nat} {σ:Store}
end
end Go.Fu
namespace Go.Fu
open Go Go.Mx
set_option maxRecDepth 10000
section
variable {C:CallF} {n:Nat} {σ:Store}
def chr (d:Nat):UInt8:=UInt8.ofNat (48 + d)
theorem zq3:∀ (k a:Nat) (s:Tx),(digF k a s).length≤s.length + k
 | 0,a,s=>by simp [digF]
 | k + 1,a,s=>by
  unfold digF
  by_cases h:a < 10
  ·rw [decide_eq_true h]
   simp only [zab,List.length_cons]
   omega
  ·rw [decide_eq_false h]
   simp only [zad]
   have:=zq3 k (a / 10) (UInt8.ofNat (48 + a % 10) :: s)
   simp only [List.length_cons] at this
   omega
end
end Go.Fu
namespace Go.Fu
open Go Go.Mx
set_option maxRecDepth 10000
def varC (s:Tx):Co:=.mk 1 0 s [] [] []
def appC' (a b:Co):Co:=.mk 4 0 [] [a,b] [] []
def zdi (c:Co):List Tx→Co
 | []=>c
 | s :: l=>zdi (appC' c (varC s)) l
theorem zabb (c:Co) (l:List Tx) (s:Tx):zdi c (l ++ [s])=appC' (zdi c l) (varC s):=by
 induction l generalizing c with
 | nil=>rfl
 | cons x r ih=>simp only [List.cons_append,zdi,ih]
theorem zza (s:Tx):(varC s).size=1:=by simp [varC,Co.size,szK,szB,szA]
theorem zldb (a b:Co):(appC' a b).size=1 + a.size + b.size:=by simp [appC',Co.size,szK,szB,szA]; omega
theorem za9b (c:Co) (l:List Tx):(zdi c l).size=c.size + 2 * l.length:=by
 induction l generalizing c with
 | nil=>simp [zdi]
 | cons x r ih=>simp only [zdi,ih,zldb,zza,List.length_cons]; omega
section
variable {C:CallF} {n:Nat} {σ:Store}
end
end Go.Fu
namespace Go.Fu
open Go Go.Mx
set_option maxRecDepth 10000
def hasN (l:List Tx) (s:Tx):Bool:=l.any (· == s)
def c0:Co:=.mk 0 0 [] [] [] []
def newF (c:Co) (g s h:List Tx):Bool:=(((c.f == 1) && !hasN g c.s) && hasN s c.s) && !hasN h c.s
def freeM:Nat→Co→List Tx→List Tx→List Tx→List Tx
 | 0,_,_,_,h=>h
 | k + 1,c,g,s,h=>ifB (newF c g s h) (h ++ [c.s]) ((List.range (zby c).length).foldl (fun h i=>freeM k ((zby c).getD i c0) (g ++ zkd c i) s h) h)
theorem zhq {α β:Type} {f g:β→α→β}:∀ (l:List α) (b:β),(∀ a∈l,∀ b,f b a=g b a)→l.foldl f b=l.foldl g b
 | [],_,_=>rfl
 | a :: l,b,h=>by
  simp only [List.foldl_cons]
  rw [h a (List.mem_cons_self ..) b]
  exact zhq l _ fun x hx=>h x (List.mem_cons_of_mem _ hx)
theorem zo3:∀ (m:Nat) (c:Co) (g s h:List Tx),(freeM m c g s h).length≤h.length + c.size
 | 0,c,g,s,h=>by simp [freeM]
 | m + 1,c,g,s,h=>by
  simp only [freeM]
  have hp:=zcw c
  cases newF c g s h with
  | true=>simp only [zab,List.length_append,List.length_cons,List.length_nil]; omega
  | false =>
   simp only [zad]
   have hf:∀ (n:Nat) (h:List Tx),n≤(zby c).length→((List.range n).foldl (fun h i=>freeM m ((zby c).getD i c0) (g ++ zkd c i) s h) h).length≤h.length + szK ((zby c).take n):=by
    intro n
    induction n with
    | zero=>intro h _; simp
    | succ n ihn =>
     intro h hn
     rw [List.range_succ,List.foldl_append]
     simp only [List.foldl_cons,List.foldl_nil]
     have h1:=zo3 m ((zby c).getD n c0) (g ++ zkd c n) s ((List.range n).foldl (fun h i=>freeM m ((zby c).getD i c0) (g ++ zkd c i) s h) h)
     have h2:=ihn h (by omega)
     rw [← zb3 (zby c) n (by omega),zn3]
     rw [za5 _ _ _ (show n < (zby c).length by omega)] at h1 ⊢
     simp only [szK,Nat.add_zero]
     omega
   have:=hf (zby c).length h (Nat.le_refl _)
   rw [List.take_length] at this
   have hs:szK (zby c)≤c.size:=by
    have hsz:=zci c
    have hbs:∀ l:List (Tx × Co),szK (l.map Prod.snd)≤szB l:=by
     intro l
     induction l with
     | nil=>simp [szK,szB]
     | cons x r ih=>obtain ⟨t,d⟩:=x; simp only [List.map_cons,szK,szB]; omega
    have has:∀ l:List (Hd × Co),szK (l.map Prod.snd)≤szA l:=by
     intro l
     induction l with
     | nil=>simp [szK,szA]
     | cons x r ih=>obtain ⟨t,d⟩:=x; simp only [List.map_cons,szK,szA]; omega
    rw [zby,zn3,zn3]
    have:=hbs c.bs
    have:=has c.al
    omega
   omega
section
variable {C:CallF} {n:Nat} {σ:Store}
end
end Go.Fu
namespace Go.Fu
open Go Go.Mx
set_option maxRecDepth 10000
def mapB (F:Co→List Su→Co × List Su):List (Tx × Co)→List Su→List (Tx × Co) × List Su
 | [],m=>([],m)
 | p :: r,m=>((p.1,(F p.2 m).1) :: (mapB F r (F p.2 m).2).1,(mapB F r (F p.2 m).2).2)
def mapK (F:Co→List Su→Co × List Su):List Co→List Su→List Co × List Su
 | [],m=>([],m)
 | p :: r,m=>((F p m).1 :: (mapK F r (F p m).2).1,(mapK F r (F p m).2).2)
def mapA (F:Hd→Co→List Su→Co × List Su):List (Hd × Co)→List Su→List (Hd × Co) × List Su
 | [],m=>([],m)
 | p :: r,m=>((p.1,(F p.1 p.2 m).1) :: (mapA F r (F p.1 p.2 m).2).1,(mapA F r (F p.1 p.2 m).2).2)
theorem zng {F G:Co→List Su→Co × List Su}:∀ (l:List (Tx × Co)) (m:List Su),(∀ p∈l,∀ m,F p.2 m=G p.2 m)→mapB F l m=mapB G l m
 | [],m,_=>rfl
 | p :: l,m,h=>by
  simp only [mapB]
  rw [h p (List.mem_cons_self ..) m,zng l _ fun q hq=>h q (List.mem_cons_of_mem _ hq)]
theorem znh {F G:Co→List Su→Co × List Su}:∀ (l:List Co) (m:List Su),(∀ p∈l,∀ m,F p m=G p m)→mapK F l m=mapK G l m
 | [],m,_=>rfl
 | p :: l,m,h=>by
  simp only [mapK]
  rw [h p (List.mem_cons_self ..) m,znh l _ fun q hq=>h q (List.mem_cons_of_mem _ hq)]
theorem znf {F G:Hd→Co→List Su→Co × List Su}:∀ (l:List (Hd × Co)) (m:List Su),(∀ p∈l,∀ m,F p.1 p.2 m=G p.1 p.2 m)→mapA F l m=mapA G l m
 | [],m,_=>rfl
 | p :: l,m,h=>by
  simp only [mapA]
  rw [h p (List.mem_cons_self ..) m,znf l _ fun q hq=>h q (List.mem_cons_of_mem _ hq)]
theorem zx7 (F:Co→List Su→Co × List Su):∀ (l:List (Tx × Co)) (m:List Su),(mapB F l m).1.length=l.length
 | [],m=>rfl
 | p :: l,m=>by simp only [mapB,List.length_cons,zx7 F l]
theorem zya (F:Co→List Su→Co × List Su):∀ (l:List Co) (m:List Su),(mapK F l m).1.length=l.length
 | [],m=>rfl
 | p :: l,m=>by simp only [mapK,List.length_cons,zya F l]
theorem zx2 (F:Hd→Co→List Su→Co × List Su):∀ (l:List (Hd × Co)) (m:List Su),(mapA F l m).1.length=l.length
 | [],m=>rfl
 | p :: l,m=>by simp only [mapA,List.length_cons,zx2 F l]
theorem zo9 (F:Co→List Su→Co × List Su):∀ (l:List (Tx × Co)) (m:List Su),(∀ p∈l,∀ m,(F p.2 m).2.length≤m.length + p.2.size)→(mapB F l m).2.length≤m.length + szB l
 | [],m,_=>by simp [mapB]
 | (s,c) :: l,m,h=>by
  have h1:=h (s,c) (List.mem_cons_self ..) m
  have h2:=zo9 F l (F c m).2 fun q hq=>h q (List.mem_cons_of_mem _ hq)
  simp only [mapB,szB] at h1 h2 ⊢
  omega
theorem zpa (F:Co→List Su→Co × List Su):∀ (l:List Co) (m:List Su),(∀ p∈l,∀ m,(F p m).2.length≤m.length + p.size)→(mapK F l m).2.length≤m.length + szK l
 | [],m,_=>by simp [mapK]
 | c :: l,m,h=>by
  have h1:=h c (List.mem_cons_self ..) m
  have h2:=zpa F l (F c m).2 fun q hq=>h q (List.mem_cons_of_mem _ hq)
  simp only [mapK,szK] at h1 h2 ⊢
  omega
theorem zu9 (F:Hd→Co→List Su→Co × List Su):∀ (l:List (Hd × Co)) (m:List Su),(∀ p∈l,∀ m,(F p.1 p.2 m).2.length≤m.length + p.2.size)→(mapA F l m).2.length≤m.length + szA l
 | [],m,_=>by simp [mapA]
 | (s,c) :: l,m,h=>by
  have h1:=h (s,c) (List.mem_cons_self ..) m
  have h2:=zu9 F l (F s c m).2 fun q hq=>h q (List.mem_cons_of_mem _ hq)
  simp only [mapA,szA] at h1 h2 ⊢
  omega
def zdd (c:Co) (lz:Bool):Bool:=lz && (((c.f == 9) || (c.f == 10)) || (c.f == 11))
def liftN (t:Tx) (m:List Su):Tx:=(t ++ [37]) ++ itoaN ((m.length:Int) + 1)
def liftM (c:Co) (ar:List Tx) (t:Tx) (m:List Su):Co × List Su:=(zdi (varC (liftN t m)) (freeM c.size c [] ar []),m ++ [⟨liftN t m,freeM c.size c [] ar [],c⟩])
def flatM:Nat→Co→Bool→List Tx→Tx→List Su→Co × List Su
 | 0,c,_,_,_,m=>(c,m)
 | k + 1,c,lz,ar,t,m=>ifB (zdd c lz) (liftM c ar t m) (
     (.mk c.f c.n c.s (mapK (fun x m=>flatM k x (lz || (c.f == 4)) (ar ++ c.bs.map Prod.fst) t m) c.ks (mapB (fun x m=>flatM k x true (ar ++ c.bs.map Prod.fst) t m) c.bs m).2).1 (mapB (fun x m=>flatM k x true (ar ++ c.bs.map Prod.fst) t m) c.bs m).1
      (mapA (fun h x m=>flatM k x false (ar ++ h.vars) t m) c.al (mapK (fun x m=>flatM k x (lz || (c.f == 4)) (ar ++ c.bs.map Prod.fst) t m) c.ks (mapB (fun x m=>flatM k x true (ar ++ c.bs.map Prod.fst) t m) c.bs m).2).2).1),
     (mapA (fun h x m=>flatM k x false (ar ++ h.vars) t m) c.al (mapK (fun x m=>flatM k x (lz || (c.f == 4)) (ar ++ c.bs.map Prod.fst) t m) c.ks (mapB (fun x m=>flatM k x true (ar ++ c.bs.map Prod.fst) t m) c.bs m).2).2).2)
theorem zm6:∀ (n:Nat) (c:Co),c.size=n→∀ (k k':Nat) (lz:Bool) (ar:List Tx) (t:Tx) (m:List Su),c.size≤k→c.size≤k'→flatM k c lz ar t m=flatM k' c lz ar t m:=by
 intro n
 induction n using Nat.strongRecOn with
 | ind n ih =>
  intro c hn k k' lz ar t m hk hk'
  have hp:=zcw c
  have hsz:=zci c
  obtain ⟨k,rfl⟩:∃ j,k=j + 1:=⟨k - 1,by omega⟩
  obtain ⟨k',rfl⟩:∃ j,k'=j + 1:=⟨k' - 1,by omega⟩
  have hB:∀ m,mapB (fun x m=>flatM k x true (ar ++ c.bs.map Prod.fst) t m) c.bs m=mapB (fun x m=>flatM k' x true (ar ++ c.bs.map Prod.fst) t m) c.bs m:=fun m=>zng _ _ fun p hp m=>by
   have:=zfd c.bs p hp
   exact ih _ (by omega) _ rfl _ _ _ _ _ _ (by omega) (by omega)
  have hK:∀ m,mapK (fun x m=>flatM k x (lz || (c.f == 4)) (ar ++ c.bs.map Prod.fst) t m) c.ks m=mapK (fun x m=>flatM k' x (lz || (c.f == 4)) (ar ++ c.bs.map Prod.fst) t m) c.ks m:=fun m=>znh _ _ fun p hp m=>by
   have:=zie c.ks p hp
   exact ih _ (by omega) _ rfl _ _ _ _ _ _ (by omega) (by omega)
  have hA:∀ m,mapA (fun h x m=>flatM k x false (ar ++ h.vars) t m) c.al m=mapA (fun h x m=>flatM k' x false (ar ++ h.vars) t m) c.al m:=fun m=>znf _ _ fun p hp m=>by
   have:=zdz c.al p hp
   exact ih _ (by omega) _ rfl _ _ _ _ _ _ (by omega) (by omega)
  simp only [flatM,hB,hK,hA]
theorem zhp:∀ (k:Nat) (c:Co) (lz:Bool) (ar:List Tx) (t:Tx) (m:List Su),(flatM k c lz ar t m).2.length≤m.length + c.size
 | 0,c,lz,ar,t,m=>by simp [flatM]
 | k + 1,c,lz,ar,t,m=>by
  have hp:=zcw c
  have hsz:=zci c
  simp only [flatM]
  cases zdd c lz with
  | true=>simp only [zab,liftM,List.length_append,List.length_cons,List.length_nil]; omega
  | false =>
   simp only [zad]
   have h1:=zo9 (fun x m=>flatM k x true (ar ++ c.bs.map Prod.fst) t m) c.bs m fun p _ m=>zhp k p.2 _ _ _ m
   have h2:=zpa (fun x m=>flatM k x (lz || (c.f == 4)) (ar ++ c.bs.map Prod.fst) t m) c.ks (mapB (fun x m=>flatM k x true (ar ++ c.bs.map Prod.fst) t m) c.bs m).2 fun p _ m=>zhp k p _ _ _ m
   have h3:=zu9 (fun h x m=>flatM k x false (ar ++ h.vars) t m) c.al (mapK (fun x m=>flatM k x (lz || (c.f == 4)) (ar ++ c.bs.map Prod.fst) t m) c.ks (mapB (fun x m=>flatM k x true (ar ++ c.bs.map Prod.fst) t m) c.bs m).2).2 fun p _ m=>zhp k p.2 _ _ _ m
   omega
def flM (c:Co) (lz:Bool) (ar:List Tx) (t:Tx) (m:List Su):Co × List Su:=flatM c.size c lz ar t m
def fB (c:Co) (ar:List Tx) (t:Tx) (m:List Su) (i:Nat):List (Tx × Co) × List Su:=mapB (fun x m=>flM x true (ar ++ c.bs.map Prod.fst) t m) (c.bs.take i) m
def fK (c:Co) (lz:Bool) (ar:List Tx) (t:Tx) (m:List Su) (i:Nat):List Co × List Su:=mapK (fun x m=>flM x (lz || (c.f == 4)) (ar ++ c.bs.map Prod.fst) t m) (c.ks.take i) m
def fA (c:Co) (ar:List Tx) (t:Tx) (m:List Su) (i:Nat):List (Hd × Co) × List Su:=mapA (fun h x m=>flM x false (ar ++ h.vars) t m) (c.al.take i) m
theorem zin (c:Co) (lz:Bool) (ar:List Tx) (t:Tx) (m:List Su) (h:zdd c lz=false):flM c lz ar t m=(.mk c.f c.n c.s (fK c lz ar t (fB c ar t m c.bs.length).2 c.ks.length).1 (fB c ar t m c.bs.length).1 (fA c ar t (fK c lz ar t (fB c ar t m c.bs.length).2 c.ks.length).2 c.al.length).1,
  (fA c ar t (fK c lz ar t (fB c ar t m c.bs.length).2 c.ks.length).2 c.al.length).2):=by
 have hp:=zcw c
 have hsz:=zci c
 obtain ⟨k,hk⟩:∃ j,c.size=j + 1:=⟨c.size - 1,by omega⟩
 have hB:∀ m,mapB (fun x m=>flatM k x true (ar ++ c.bs.map Prod.fst) t m) c.bs m=mapB (fun x m=>flM x true (ar ++ c.bs.map Prod.fst) t m) c.bs m:=fun m=>zng _ _ fun p hp m=>by
  have:=zfd c.bs p hp
  exact zm6 _ _ rfl _ _ _ _ _ _ (by omega) (Nat.le_refl _)
 have hK:∀ m,mapK (fun x m=>flatM k x (lz || (c.f == 4)) (ar ++ c.bs.map Prod.fst) t m) c.ks m=mapK (fun x m=>flM x (lz || (c.f == 4)) (ar ++ c.bs.map Prod.fst) t m) c.ks m:=fun m=>znh _ _ fun p hp m=>by
  have:=zie c.ks p hp
  exact zm6 _ _ rfl _ _ _ _ _ _ (by omega) (Nat.le_refl _)
 have hA:∀ m,mapA (fun h x m=>flatM k x false (ar ++ h.vars) t m) c.al m=mapA (fun h x m=>flM x false (ar ++ h.vars) t m) c.al m:=fun m=>znf _ _ fun p hp m=>by
  have:=zdz c.al p hp
  exact zm6 _ _ rfl _ _ _ _ _ _ (by omega) (Nat.le_refl _)
 rw [flM,hk,flatM,h]
 simp only [zad,hB,hK,hA,fB,fK,fA,List.take_length]
theorem zka (c:Co) (lz:Bool) (ar:List Tx) (t:Tx) (m:List Su) (h:zdd c lz=true):flM c lz ar t m=liftM c ar t m:=by
 have hp:=zcw c
 obtain ⟨k,hk⟩:∃ j,c.size=j + 1:=⟨c.size - 1,by omega⟩
 rw [flM,hk,flatM,h]
 rfl
theorem zkb (c:Co) (lz:Bool) (ar:List Tx) (t:Tx) (m:List Su):(flM c lz ar t m).2.length≤m.length + c.size:=zhp _ _ _ _ _ _
end Go.Fu
namespace Go.Fu
open Go Go.Mx
set_option maxRecDepth 10000
theorem appB1 (a:List (Tx × Co)) (x:Tx × Co) (o:Bool) (ho:a≠[]→o=true) (hl:a.length < 1000000000):za4 k_3 232 ⟨o,dBl a⟩ [dB x]=some ⟨true,dBl (a ++ [x])⟩:=zge ok_dB zgy (by omega) a x o ho hl
theorem appA1 (a:List (Hd × Co)) (x:Hd × Co) (o:Bool) (ho:a≠[]→o=true) (hl:a.length < 1000000000):za4 k_4 216 ⟨o,dAl a⟩ [dA x]=some ⟨true,dAl (a ++ [x])⟩:=zge ok_dA zh0 (by omega) a x o ho hl
theorem appU1 (a:List Su) (x:Su) (o:Bool) (ho:a≠[]→o=true) (hl:a.length < 1000000000):za4 k_5 200 ⟨o,dUs a⟩ [dU x]=some ⟨true,dUs (a ++ [x])⟩:=zge ok_dU zj6 (by omega) a x o ho hl
theorem appU (a b:List Su) (o:Bool) (ho:a≠[]→o=true) (hl:a.length + b.length < 1000000000):za4 k_5 200 ⟨o,dUs a⟩ (b.map dU)=some ⟨true,dUs (a ++ b)⟩:=by
 rw [dUs,zqe (fun h=>ho (by simpa using h)) (fun d hd=>by obtain ⟨x,_,rfl⟩:=List.mem_map.1 hd; exact ⟨ok_dU x,zj6 x⟩) (by simp [bound]; omega) (by simp [bound]; omega)]
 rw [dUs,List.map_append]
theorem okl:(∀ l,(dSs l).ok=true)∧(∀ l,(dCs l).ok=true)∧(∀ l,(dBl l).ok=true)∧(∀ l,(dAl l).ok=true)∧(∀ l,(dUs l).ok=true)∧(∀ l,(dIs l).ok=true):=⟨fun _=>zbo,fun _=>zbo,fun _=>zbo,fun _=>zbo,fun _=>zbo,fun _=>zbo⟩
theorem celll:(∀ l,(dSs l).cells=[dSs l])∧(∀ l,(dCs l).cells=[dCs l])∧(∀ l,(dBl l).cells=[dBl l])∧(∀ l,(dAl l).cells=[dAl l])∧(∀ l,(dUs l).cells=[dUs l])∧(∀ l,(dIs l).cells=[dIs l]):=⟨fun _=>zax,fun _=>zax,fun _=>zax,fun _=>zax,fun _=>zax,fun _=>zax⟩
theorem onel:(∀ l,(dSs l).one=true)∧(∀ l,(dCs l).one=true)∧(∀ l,(dBl l).one=true)∧(∀ l,(dAl l).one=true)∧(∀ l,(dUs l).one=true)∧(∀ l,(dIs l).one=true):=⟨fun _=>zaz,fun _=>zaz,fun _=>zaz,fun _=>zaz,fun _=>zaz,fun _=>zaz⟩
theorem zff (x:Int):(itoaN x).length≤21:=by
 cases x with
 | ofNat a =>
  have:=zq3 20 a []
  simp only [itoaN,digN,List.length_nil] at this ⊢
  omega
 | negSucc a =>
  have:=zq3 20 (a + 1) []
  simp only [itoaN,digN,List.length_nil,List.length_cons] at this ⊢
  omega
theorem zzi:∀ (l:List (Tx × Co)) (x:Tx × Co),x∈l→x.2.size + l.length≤szB l:=by
 intro l
 induction l with
 | nil=>intro x hx; cases hx
 | cons y r ihl =>
  intro x hx
  obtain ⟨s,c'⟩:=y
  simp only [szB,List.length_cons]
  rcases List.mem_cons.1 hx with rfl | hx
  ·have:=zek r; simp only; omega
  ·have:=ihl x hx; omega
section
variable {C:CallF} {n:Nat} {σ:Store}
def z10:List Cell:=[⟨false,.int .i64 0⟩,⟨false,.int .i64 0⟩,⟨false,.str []⟩,⟨false,.int .i64 0⟩,⟨false,.int .i64 0⟩,⟨false,.str []⟩,⟨false,.nils⟩,⟨false,.nils⟩,⟨false,.nils⟩,⟨false,.nils⟩]
end
end Go.Fu

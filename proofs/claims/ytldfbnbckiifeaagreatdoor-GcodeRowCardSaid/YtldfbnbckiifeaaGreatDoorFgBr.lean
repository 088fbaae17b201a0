/-
 Code is small.
-/
import Derived.Test.YtldfbnbckiifeaaGreatDoorFgY
import Derived.Test.YtldfbnbckiifeaaGreatDoorFgEg
import Derived.Test.YtldfbnbckiifeaaGreatDoorFgBm
import Derived.Test.YtldfbnbckiifeaaGreatDoorFgCq
import Derived.Test.YtldfbnbckiifeaaGreatDoorFgBh
import Derived.Test.YtldfbnbckiifeaaGreatDoorFgCodeC
set_option maxHeartbeats 4000000
set_option linter.unusedSimpArgs false
set_option linter.unusedVariables false
set_option linter.unusedSectionVars false
namespace Go.Fu
open Go Go.Mx
set_option maxRecDepth 10000
theorem sm_w (x:Int):Small (w64 x):=ztc x
theorem zhv {k:Nat} (h:k≤2000000000):Small (k:Int):=⟨by omega,by omega⟩
theorem gi4 {B:Nat} {o:Tx} {n m:Int} {s:Tx} (ho:o.length≤6) (hn:Small n) (hm:Small m) (hs:s.length≤B):GI B ⟨o,n,m,s⟩:=⟨ho,hn,hm,hs⟩
theorem zr8 {B:Nat} {lz:Co→List In→List In} (k:Nat):∀ (l:List (Tx × Co)) (i m:Nat) (L:List In),GC B m L→(∀ b∈l,∀ (L:List In) (m:Nat),GC B m L→GC B (m + 3 * b.2.size) (lz b.2 L))→GC B (m + 3 * szB l) (bndS lz k l i L)
 | [],i,m,L,h,_=>gc_le h (by omega)
 | b :: r,i,m,L,h,hl=>by
  have h1:=zbx (hl b (List.mem_cons_self ..) L m h) (gi_op (B:=B) (s:=zdy) (x:=wsub k i) (by decide) (ztc _))
  have h2:=zr8 k r (i + 1) _ _ h1 fun b hb=>hl b (List.mem_cons_of_mem _ hb)
  exact gc_le h2 (by simp only [szB]; omega)
theorem lz_gc {B:Nat}:∀ (n:Nat) (c:Co) (z:Bool) (M:At) (d:Int) (L:List In) (m:Nat),c.size < 100000000→Fl B z c→(z=true∨c.f=1∨c.f=2∨c.f=3∨c.f=4)→GC B m L→GC B (m + 3 * c.size) (lzS n c M d L):=by
 intro n
 induction n with
 | zero=>intro c z M d L m _ _ _ h; exact gc_le h (by omega)
 | succ n ih =>
  intro c z M d L m hsz hf hz h
  have hp:=zcw c
  cases hf with
  | @leaf _ f k s h1 h2 h3 =>
   rcases h1 with rfl | rfl | rfl
   ·show GC B _ (caseO (M s) (L ++ [⟨zkr,0,0,s⟩]) fun a=>L ++ [op1 zs9 (w64 (w64 (d - 1) - a))])
    cases M s with
    | none=>exact gc_le (zbx h (gi4 (by decide) zS zS h3)) (by omega)
    | some a=>exact gc_le (zbx h (gi_op (by decide) (sm_w _))) (by omega)
   ·exact gc_le (zbx h (gi4 (by decide) zS zS h3)) (by omega)
   ·exact gc_le (zbx h (gi_op (by decide) h2)) (by omega)
  | @app _ s a b h1 ha hb =>
   have he:(Co.mk 4 0 s [a,b] [] []).size=1 + (a.size + (b.size + 0)) + 0 + 0:=by simp only [Co.size,szK,szB,szA]
   have q1:=ih b true M d L m (by omega) hb (.inl rfl) h
   have q2:=ih a true M (w64 (d + 1)) _ _ (by omega) ha (.inl rfl) q1
   exact gc_le (zbx q2 (gi_op (s:=sMKAP) (x:=0) (by decide) zS)) (by omega)
  | @lt _ s b bs h1 h2 h3 h4 =>
   have he:(Co.mk 8 0 s [b] bs []).size=1 + (b.size + 0) + szB bs + 0:=by simp only [Co.size,szK,szA]
   have hz':z=true:=by
    rcases hz with h | h | h | h | h
    ·exact h
    all_goals simp [Co.f] at h
   subst hz'
   have hbl:=zek bs
   have hsm:Small (bs.length:Int):=zhv (by omega)
   have q0:=zbx h (gi_op (B:=B) (s:=zfr) (x:=bs.length) (by decide) hsm)
   have q1:=zr8 (B:=B) (lz:=fun c L=>lzS n c (za2 M (nms (Co.mk 8 0 s [b] bs [])) d 0) (w64 (d + bs.length)) L) bs.length bs 0 _ _ q0 fun x hx L m hm=>by
    have:=zfd bs x hx
    exact ih x.2 true _ _ L m (by omega) (h3 x hx) (.inl rfl) hm
   have q2:=ih b true (za2 M (nms (Co.mk 8 0 s [b] bs [])) d 0) (w64 (d + bs.length)) _ _ (by omega) h4 (.inl rfl) q1
   exact gc_le (zbx q2 (gi_op (s:=zgc) (x:=bs.length) (by decide) hsm)) (by omega)
  | fail=>rcases hz with h | h | h | h | h <;> simp [Co.f] at h
  | prim _ _ _=>rcases hz with h | h | h | h | h <;> simp [Co.f] at h
  | cas _ _ _ _=>rcases hz with h | h | h | h | h <;> simp [Co.f] at h
theorem zc1b {p:In→Prop} {f:In→In} (hf:∀ x,p x→p (f x)):∀ (l:List In) (k:Nat),(∀ x∈l,p x)→∀ x∈l.modify k f,p x
 | [],k,h,x,hx=>by simp at hx
 | y :: r,0,h,x,hx=>by
  simp only [List.modify_zero_cons,List.mem_cons] at hx
  rcases hx with rfl | hx
  ·exact hf _ (h y (List.mem_cons_self ..))
  ·exact h x (List.mem_cons_of_mem _ hx)
 | y :: r,k + 1,h,x,hx=>by
  simp only [List.modify_succ_cons,List.mem_cons] at hx
  rcases hx with rfl | hx
  ·exact h _ (List.mem_cons_self ..)
  ·exact zc1b hf r k (fun x hx=>h x (List.mem_cons_of_mem _ hx)) x hx
theorem zilb {B m k:Nat} {v:Int} {L:List In} (h:GC B m L) (hv:Small v):GC B m (setAt L k v) :=
 ⟨zc1b (fun _ ⟨a,_,b,c⟩=>⟨a,hv,b,c⟩) L k h.1,by rw [zix]; exact h.2⟩
theorem zcwb {B m:Nat} (hm:m≤2000000000):∀ (l:List Nat) (L:List In),GC B m L→GC B m (landS l L)
 | [],L,h=>h
 | e :: r,L,h=>zcwb hm r _ (zilb h (zhv (by have:=h.2; omega)))
theorem zoub {B m:Nat} {st:Bool} {h:Hd} {L:List In} (hv:h.vars.length≤2000000000) (hL:GC B m L):GC B (m + 2) (behS st h L):=by
 unfold behS
 cases st with
 | false=>exact gc_le hL (by omega)
 | true =>
  rw [zab]
  cases h.form == 1 with
  | true=>exact zbx (zbx hL (gi_op (by decide) (zhv hv))) (gi4 (by decide) zS zS (by simp))
  | false=>exact gc_le (zbx hL (gi4 (by decide) zS zS (by simp))) (by omega)
theorem zmvb {B m:Nat} {h:Hd} {L:List In} (hv:h.vars.length≤2000000000) (hn:Small h.num) (hs:h.name.length≤B) (hL:GC B m L):GC B (m + 2) (L ++ headS h):=by
 have e:∀ a b:In,L ++ [a,b]=L ++ [a] ++ [b]:=by simp
 unfold headS
 cases h.form == 1 with
 | true=>rw [zab,e]; exact zbx (zbx hL (gi4 (by decide) zS zS hs)) (gi_op (by decide) (zhv hv))
 | false =>
  rw [zad]
  cases h.form == 2 with
  | true=>rw [zab,e]; exact zbx (zbx hL (gi4 (by decide) zS hn (by simp))) (gi_op (by decide) oneS)
  | false=>exact gc_le (zbx hL (gi_op (by decide) oneS)) (by omega)
theorem zw7 {B:Nat} (st:Bool) (body:Co→At→Int→List In→List In) (M:At) (d:Int):∀ (l:List (Hd × Co)) (s:List In × List Nat) (m:Nat),m + 8 * szA l≤1000000000→GC B m s.1→(∀ a∈l,Small a.1.num∧a.1.name.length≤B)→(∀ a∈l,∀ (M:At) (d:Int) (L:List In) (m:Nat),Small d→m + 8 * a.2.size≤1000000000→GC B m L→GC B (m + 8 * a.2.size + 3) (body a.2 M d L))→GC B (m + 8 * szA l) (casS st body M d l s).1.1
 | [],s,m,_,h,_,_=>gc_le h (by omega)
 | a :: r,s,m,hm,h,hh,hb=>by
  simp only [szA] at hm ⊢
  have hs:=hh a (List.mem_cons_self ..)
  have h1:GC B (m + 8 * (1 + a.1.vars.length + a.2.size)) (altS st body M d a s).1:=by
   have q1:=zmvb (h:=a.1) (by omega) hs.1 hs.2 h
   have q2:=hb a (List.mem_cons_self ..) (za2 M a.1.vars.reverse d 0) (w64 (d + a.1.vars.length)) _ _ (sm_w _) (by omega) q1
   have q3:=zoub (st:=st) (h:=a.1) (by omega) q2
   unfold altS
   cases (a.1.form == 1 || a.1.form == 2) with
   | true=>exact gc_le (zilb q3 (zhv (by have:=q3.2; omega))) (by omega)
   | false=>exact gc_le q3 (by omega)
  unfold casS
  cases a.1.form == 3 with
  | true=>exact gc_le h1 (by omega)
  | false=>exact gc_le (zw7 st body M d r _ _ (by omega) h1 (fun a h=>hh a (List.mem_cons_of_mem _ h)) fun a h=>hb a (List.mem_cons_of_mem _ h)) (by omega)
theorem zgyb {B m:Nat} {st b:Bool} {L:List In} (h:GC B m L):GC B (m + 2) (endS st b L):=by
 unfold endS
 cases b with
 | false=>exact gc_le h (by omega)
 | true =>
  cases st with
  | true=>exact zbx (zbx h (gi_op (by decide) oneS)) (gi_op (by decide) zS)
  | false=>exact gc_le (zbx h (gi_op (s:=sFAIL) (x:=0) (by decide) zS)) (by omega)
theorem st_gc {B:Nat}:∀ (n:Nat) (c:Co) (M:At) (d:Int) (L:List In) (m:Nat),m + 8 * c.size≤1000000000→c.size < 100000000→Fl B false c→GC B m L→GC B (m + 8 * c.size) (stS n c M d L):=by
 intro n
 induction n with
 | zero=>intro c M d L m _ _ _ h; exact gc_le h (by omega)
 | succ n ih =>
  intro c M d L m hm hsz hf h
  have hp:=zcw c
  have hf0:=hf
  have plain:(false=true∨c.f=1∨c.f=2∨c.f=3∨c.f=4)→GC B (m + 8 * c.size) (lzS c.size c M d L ++ [op1 sEVAL 0]):=fun hz =>
   gc_le (zbx (lz_gc c.size c false M d L m hsz hf0 hz h) (gi_op (s:=sEVAL) (x:=0) (by decide) zS)) (by omega)
  cases hf with
  | @leaf _ f k s h1 h2 h3 =>
   rcases h1 with rfl | rfl | rfl
   ·exact plain (.inr (.inl rfl))
   ·exact plain (.inr (.inr (.inl rfl)))
   ·exact plain (.inr (.inr (.inr (.inl rfl))))
  | @app _ s a b h1 ha hb=>exact plain (.inr (.inr (.inr (.inr rfl))))
  | @lt _ s b bs h1 h2 h3 h4 =>
   have he:(Co.mk 8 0 s [b] bs []).size=1 + (b.size + 0) + szB bs + 0:=by simp only [Co.size,szK,szA]
   have hbl:=zek bs
   have hsm:Small (bs.length:Int):=zhv (by omega)
   have q0:=zbx h (gi_op (B:=B) (s:=zfr) (x:=bs.length) (by decide) hsm)
   have q1:=zr8 (B:=B) (lz:=fun c L=>lzS c.size c (za2 M (nms (Co.mk 8 0 s [b] bs [])) d 0) (w64 (d + bs.length)) L) bs.length bs 0 _ _ q0 fun x hx L m hm=>by
    have:=zfd bs x hx
    exact lz_gc _ x.2 true _ _ L m (by omega) (h3 x hx) (.inl rfl) hm
   have q2:=ih b (za2 M (nms (Co.mk 8 0 s [b] bs [])) d 0) (w64 (d + bs.length)) _ _ (by omega) (by omega) h4 q1
   exact gc_le (zbx q2 (gi_op (s:=zgc) (x:=bs.length) (by decide) hsm)) (by omega)
  | @fail k s=>exact gc_le (zbx h (gi_op (s:=sFAIL) (x:=0) (by decide) zS)) (by omega)
  | @prim s a b h1 ha hb =>
   have he:(Co.mk 10 0 s [a,b] [] []).size=1 + (a.size + (b.size + 0)) + 0 + 0:=by simp only [Co.size,szK,szB,szA]
   have q1:=ih a M d L m (by omega) (by omega) ha h
   have q2:=ih b M (w64 (d + 1)) _ _ (by omega) (by omega) hb q1
   exact gc_le (zbx q2 (gi_op (s:=primM s) (x:=0) (zicb s) zS)) (by omega)
  | @cas s x al h1 h2 h3 h4 =>
   have he:(Co.mk 9 0 s [x] [] al).size=1 + (x.size + 0) + 0 + szA al:=by simp only [Co.size,szK,szB]
   have q1:=ih x M d L m (by omega) (by omega) h3 h
   have q2:=zw7 (B:=B) true (stS n) M d al (stS n x M d L,[]) _ (by omega) q1 (fun a ha=>⟨(h2 a ha).1,(h2 a ha).2.1⟩) fun a ha M d L m _ hm hL=>by
    have:=zdz al a ha
    exact gc_le (ih a.2 M d L m hm (by omega) (h4 a ha) hL) (by omega)
   exact gc_le (zcwb (by omega) _ _ (zgyb q2)) (by omega)
theorem ziub {B m:Nat} {d:Int} {L:List In} (hd:Small d) (h:GC B m L):GC B (m + 3) (tlE d L):=zbx (zbx (zbx h (gi_op (by decide) hd)) (gi_op (by decide) hd)) (gi_op (by decide) zS)
theorem tl_gc {B:Nat}:∀ (n:Nat) (c:Co) (M:At) (d:Int) (L:List In) (m:Nat),Small d→m + 8 * c.size≤1000000000→c.size < 100000000→Fl B false c→GC B m L→GC B (m + 8 * c.size + 3) (tlS n c M d L):=by
 intro n
 induction n with
 | zero=>intro c M d L m _ _ _ _ h; exact gc_le h (by omega)
 | succ n ih =>
  intro c M d L m hd hm hsz hf h
  have hp:=zcw c
  have hf0:=hf
  have plain:(false=true∨c.f=1∨c.f=2∨c.f=3∨c.f=4)→GC B (m + 8 * c.size + 3) (tlE d (lzS c.size c M d L)):=fun hz =>
   gc_le (ziub hd (lz_gc c.size c false M d L m hsz hf0 hz h)) (by omega)
  cases hf with
  | @leaf _ f k s h1 h2 h3 =>
   rcases h1 with rfl | rfl | rfl
   ·exact plain (.inr (.inl rfl))
   ·exact plain (.inr (.inr (.inl rfl)))
   ·exact plain (.inr (.inr (.inr (.inl rfl))))
  | @app _ s a b h1 ha hb=>exact plain (.inr (.inr (.inr (.inr rfl))))
  | @lt _ s b bs h1 h2 h3 h4 =>
   have he:(Co.mk 8 0 s [b] bs []).size=1 + (b.size + 0) + szB bs + 0:=by simp only [Co.size,szK,szA]
   have hbl:=zek bs
   have hsm:Small (bs.length:Int):=zhv (by omega)
   have q0:=zbx h (gi_op (B:=B) (s:=zfr) (x:=bs.length) (by decide) hsm)
   have q1:=zr8 (B:=B) (lz:=fun c L=>lzS c.size c (za2 M (nms (Co.mk 8 0 s [b] bs [])) d 0) (w64 (d + bs.length)) L) bs.length bs 0 _ _ q0 fun x hx L m hm=>by
    have:=zfd bs x hx
    exact lz_gc _ x.2 true _ _ L m (by omega) (h3 x hx) (.inl rfl) hm
   have q2:=ih b (za2 M (nms (Co.mk 8 0 s [b] bs [])) d 0) (w64 (d + bs.length)) _ _ (sm_w _) (by omega) (by omega) h4 q1
   exact gc_le q2 (by omega)
  | @fail k s=>exact gc_le (zbx h (gi_op (s:=sFAIL) (x:=0) (by decide) zS)) (by omega)
  | @prim s a b h1 ha hb=>exact ziub hd (st_gc (n + 1) _ M d L m hm hsz hf0 h)
  | @cas s x al h1 h2 h3 h4 =>
   have he:(Co.mk 9 0 s [x] [] al).size=1 + (x.size + 0) + 0 + szA al:=by simp only [Co.size,szK,szB]
   have q1:=st_gc n x M d L m (by omega) (by omega) h3 h
   have q2:=zw7 (B:=B) false (tlS n) M d al (stS n x M d L,[]) _ (by omega) q1 (fun a ha=>⟨(h2 a ha).1,(h2 a ha).2.1⟩) fun a ha M d L m hd hm hL=>by
    have:=zdz al a ha
    exact ih a.2 M d L m hd hm (by omega) (h4 a ha) hL
   exact gc_le (zgyb q2) (by omega)
theorem zcdb {B:Nat} {u:Su} (h:Fl B false u.body) (hs:u.ps.length + u.body.size < 1000000):GC B (8 * u.body.size + 3) (codeS u).body :=
 gc_le (tl_gc u.body.size u.body _ _ [] 0 (zhv (by omega)) (by omega) (by omega) h ⟨fun i hi=>(by cases hi),by simp⟩) (by omega)
end Go.Fu
namespace Go.Fu
open Go Go.Mx
set_option maxRecDepth 10000
set_option maxHeartbeats 4000000
def Ecf3 (us:List Su) (acc:List Cd) (i:Nat):Env:={slots:=[(7,⟨true,dDs acc⟩),(62,⟨false,dUs us⟩),(63,⟨false,.int .i64 us.length⟩),(64,⟨false,.int .i64 i⟩)],locs:=[],boxes:=[],defers:=[]}
def Ecf2 (us:List Su) (i:Nat) (vs:List Su) (acc:List Cd) (j:Nat):Env:={slots:=[(7,⟨true,dDs acc⟩),(62,⟨false,dUs us⟩),(63,⟨false,.int .i64 us.length⟩),(64,⟨false,.int .i64 i⟩),(69,⟨false,dUs vs⟩),(70,⟨false,.int .i64 vs.length⟩),(71,⟨false,.int .i64 j⟩)],locs:=[],boxes:=[],defers:=[]}
section
variable {C:CallF} {n:Nat} {σ:Store}
theorem zo2b (us:List Su) (acc:List Cd) (o:Bool):exec C n none zda (Ecf1 us acc o 5) σ=some (.exit 0,{Ecf1 us acc o 5 with slots:=[(1,⟨false,dUs us⟩),(7,⟨o,dDs acc⟩),(23,⟨false,dFs FL⟩),(24,⟨false,.int .i64 5⟩),(25,⟨false,.int .i64 (5:Nat)⟩),(26,⟨false,.bool false⟩)]},σ):=by
 have hlt:¬ (((5:Nat):Int) < 5):=by omega
 simp only [zda,Ecf1,sA,Nat.reduceAdd,Nat.reduceSub,Nat.reduceMul,Nat.reduceBEq,Nat.reduceLeDiff,Int.reduceBEq,Int.reduceBNe,Int.reduceLE,Int.reduceLT,Int.reduceGE,Int.reduceGT,Int.reduceNeg,kn,hlt]
theorem zmkb (us:List Su) (i:Nat) (vs:List Su) (acc:List Cd) (j:Nat) (hj:j < vs.length) (hv:vs.length < 100000000) (hl:acc.length < 100000000) (c:Cd) (hc:C n_58 [dU vs[j]] σ=some (.ret ⟨false,dD c⟩,σ)):exec C n none zcs (Ecf2 us i vs acc j) σ=some (.normal,Ecf2 us i vs (acc ++ [c]) (j + 1),σ):=by
 have hlt:((j:Int) < (vs.length:Int)):=by omega
 have w:=zak (i:=j) (by omega)
 have hx:=idx_U vs j hj
 generalize vs[j]=u at hx hc
 have hon:=oneD u.body
 have hoS:=zba u.ps
 have hap:=appD1 acc c true (fun _=>rfl) (by omega)
 have hdd:dD c=.agg [.str c.name,.int .i64 c.arity,dIs c.body]:=rfl
 have hoI:(dIs c.body).one=true:=zaz
 have okI:(dIs c.body).ok=true:=zbo
 have ceI:(dIs c.body).cells=[dIs c.body]:=zax
 rw [hdd] at hap hc
 rw [zj9] at hx hc
 simp only [zcs,Ecf2,sA,Nat.reduceAdd,Nat.reduceSub,Nat.reduceMul,Nat.reduceBEq,Nat.reduceLeDiff,Int.reduceBEq,Int.reduceBNe,Int.reduceLE,Int.reduceLT,Int.reduceGE,Int.reduceGT,Int.reduceNeg,kn,memE,mB,hlt,natI,hx,hon,hoS,hc,hap,hoI,okI,ceI,w]
theorem zo3b (us:List Su) (i:Nat) (vs:List Su) (acc:List Cd):exec C n none zcs (Ecf2 us i vs acc vs.length) σ=some (.exit 6,{Ecf2 us i vs acc vs.length with slots:=[(7,⟨true,dDs acc⟩),(62,⟨false,dUs us⟩),(63,⟨false,.int .i64 us.length⟩),(64,⟨false,.int .i64 i⟩),(69,⟨false,dUs vs⟩),(70,⟨false,.int .i64 vs.length⟩),(71,⟨false,.int .i64 vs.length⟩),(72,⟨false,.bool false⟩)]},σ):=by
 have hlt:¬ ((vs.length:Int) < (vs.length:Int)):=by omega
 simp only [zcs,Ecf2,sA,Nat.reduceAdd,Nat.reduceSub,Nat.reduceMul,Nat.reduceBEq,Nat.reduceLeDiff,Int.reduceBEq,Int.reduceBNe,Int.reduceLE,Int.reduceLT,Int.reduceGE,Int.reduceGT,Int.reduceNeg,kn,hlt]
theorem zmlb (us:List Su) (i:Nat) (vs:List Su) (acc acc':List Cd) (hi:i < us.length) (hu:us.length < 100000000) (hc:C n_26 [dU us[i]] σ=some (.ret ⟨false,dUs vs⟩,σ))
  (hl:loopN (exec C n none zcs) n (Ecf2 us i vs acc 0) σ=some (.exit 6,{Ecf2 us i vs acc' vs.length with slots:=[(7,⟨true,dDs acc'⟩),(62,⟨false,dUs us⟩),(63,⟨false,.int .i64 us.length⟩),(64,⟨false,.int .i64 i⟩),(69,⟨false,dUs vs⟩),(70,⟨false,.int .i64 vs.length⟩),(71,⟨false,.int .i64 vs.length⟩),(72,⟨false,.bool false⟩)]},σ)) :
  exec C n none zdb (Ecf3 us acc i) σ=some (.normal,Ecf3 us acc' (i + 1),σ):=by
 have hlt:((i:Int) < (us.length:Int)):=by omega
 have w:=zak (i:=i) (by omega)
 have hx:=idx_U us i hi
 generalize us[i]=u at hx hc
 have hon:=oneD u.body
 have hoS:=zba u.ps
 have hlv:=len_U vs
 rw [zj9] at hx hc
 simp only [Ecf2,zeroI] at hl
 simp only [zdb,Ecf3,sA,Nat.reduceAdd,Nat.reduceSub,Nat.reduceMul,Nat.reduceBEq,Nat.reduceLeDiff,Int.reduceBEq,Int.reduceBNe,Int.reduceLE,Int.reduceLT,Int.reduceGE,Int.reduceGT,Int.reduceNeg,kn,memE,mB,hlt,natI,hx,hon,hoS,hc,hlv,hl,w]
theorem zo4b (us:List Su) (acc:List Cd):exec C n none zdb (Ecf3 us acc us.length) σ=some (.exit 4,{Ecf3 us acc us.length with slots:=[(7,⟨true,dDs acc⟩),(62,⟨false,dUs us⟩),(63,⟨false,.int .i64 us.length⟩),(64,⟨false,.int .i64 us.length⟩),(65,⟨false,.bool false⟩)]},σ):=by
 have hlt:¬ ((us.length:Int) < (us.length:Int)):=by omega
 simp only [zdb,Ecf3,sA,Nat.reduceAdd,Nat.reduceSub,Nat.reduceMul,Nat.reduceBEq,Nat.reduceLeDiff,Int.reduceBEq,Int.reduceBNe,Int.reduceLE,Int.reduceLT,Int.reduceGE,Int.reduceGT,Int.reduceNeg,kn,hlt]
end
structure CompOK (us:List Su):Prop where
 good:GoodP us
 few:us.length≤6
 pre:∀ u∈us,PreU 5 200 u∧u.body.size≤1200
theorem zq8 {us:List Su} (h:CompOK us) (u:Su) (hu:u∈us):OkP n_26 [dU u] ⟨false,dUs (flatS u)⟩∧(∀ v∈flatS u,FlU 200 v)∧(flatS u).length≤1200:=by
 obtain ⟨h1,h2⟩:=h.pre u hu
 obtain ⟨h3,h4,h5,_⟩:=zj3b (B:=5) (B':=200) (by omega) (by omega) u.body.size u (Nat.le_refl _) h1
 exact ⟨h3,h4,by unfold flatS; omega⟩
theorem zjpb {u:Su} (h:FlU 200 u):OkP n_58 [dU u] ⟨false,dD (codeS u)⟩∧(codeS u).body.length < 9000000:=by
 obtain ⟨h1,h2,h3⟩:=h
 have h4:=(zcdb h1 h3).2
 exact ⟨zgsb u h1 (by omega) (by omega) (by omega),by omega⟩
theorem zjsb {us:List Su} (h:CompOK us):∃ σ',finX Ra (fun _ _ _=>none) zdt 0 (exec (W (SGC us) 2) 100000 none zdt.body (zb1 [dFs FL,dUs us]) σ0)=some (.ret ⟨false,.tup [dDs (compS us),.int .i64 0]⟩,σ'):=by
 have hfew:=h.few
 obtain ⟨cw,hw1,hw2⟩:=W_orc (S:=SGC us) (s:=spGw us) rfl rfl (ds:=[dFs FL,dUs us]) (c:=⟨false,.int .i64 0⟩) (fun _=>rfl) (zaeb us h.good)
 rw [hw1 rfl] at hw2
 have hF:FL.length=5:=rfl
 obtain ⟨r,hr,σ1,hr1⟩:=zg9 (body:=exec (W (SGC us) 2) 100000 none zda)
  (fun i e _=>i≤5∧e=Ecf1 us ((FL.take i).map zbk) (ow i) i)
  (fun r=>∃ σ1,r=(.exit 0,{Ecf1 us (FL.map zbk) true 5 with slots:=[(1,⟨false,dUs us⟩),(7,⟨true,dDs (FL.map zbk)⟩),(23,⟨false,dFs FL⟩),(24,⟨false,.int .i64 5⟩),(25,⟨false,.int .i64 (5:Nat)⟩),(26,⟨false,.bool false⟩)]},σ1)) 5
  (fun i e σ hi ⟨_,he⟩=>by
   subst he
   obtain ⟨σ',hs⟩:=zmjb us ((FL.take i).map zbk) (ow i) (fun hne=>by
    cases i with
    | zero=>exact absurd rfl hne
    | succ i=>rfl) i (by omega) (by rw [List.length_map,List.length_take]; omega) σ 1 100000 (by omega)
   refine ⟨_,_,hs,by omega,?_⟩
   rw [← zb3 FL i (by omega),List.map_append]
   rfl)
  (fun e σ ⟨_,he⟩=>by
   subst he
   exact ⟨_,zo2b us _ _,fun _ _ h=>(by cases h),σ,rfl⟩) 0 100000 (Ecf1 us [] false 0) σ0 (by omega) (by omega) ⟨by omega,rfl⟩
 subst hr1
 have hfo:=zq8 h
 have hlen:∀ l:List Su,(∀ u∈l,u∈us)→(l.flatMap fun u=>(flatS u).map codeS).length≤1200 * l.length:=by
  intro l
  induction l with
  | nil=>intro _; simp
  | cons x r ih =>
   intro hl
   have h1:=ih fun u hu=>hl u (List.mem_cons_of_mem _ hu)
   have h2:=(hfo x (hl x (List.mem_cons_self ..))).2.2
   rw [List.flatMap_cons,List.length_append,List.length_map,List.length_cons]
   omega
 have hrun:=zcj (body:=exec (W (SGC us) 2) 100000 none zdb) (fun i=>Ecf3 us (FL.map zbk ++ (us.take i).flatMap fun u=>(flatS u).map codeS) i) (fun _=>σ1) us.length (r:=_) (fun _ _ h=>by cases h) (fun i hi=>by
  have hm:=List.getElem_mem hi
  obtain ⟨f1,f2,f3⟩:=hfo _ hm
  obtain ⟨cf,hf1,hf2⟩:=W_orc (S:=SGC us) (s:=spGf) rfl rfl (ds:=[dU us[i]]) (c:=⟨false,dUs (flatS us[i])⟩) (fun u hu=>by
   simp only [List.cons.injEq,and_true] at hu
   rw [zou hu]) f1
  rw [hf1 _ rfl] at hf2
  have hll:=hlen (us.take i) fun u hu=>List.mem_of_mem_take hu
  rw [List.length_take] at hll
  have hin:=zcj (body:=exec (W (SGC us) 2) 100000 none zcs) (fun j=>Ecf2 us i (flatS us[i]) (FL.map zbk ++ ((us.take i).flatMap fun u=>(flatS u).map codeS) ++ ((flatS us[i]).take j).map codeS) j) (fun _=>σ1) (flatS us[i]).length (r:=_) (fun _ _ h=>by cases h) (fun j hj=>by
   have hmj:=List.getElem_mem hj
   obtain ⟨g1,_⟩:=zjpb (f2 _ hmj)
   obtain ⟨cc,hc1,hc2⟩:=W_orc (S:=SGC us) (s:=spGc) rfl rfl (ds:=[dU (flatS us[i])[j]]) (c:=⟨false,dD (codeS (flatS us[i])[j])⟩) (fun u hu=>by
    simp only [List.cons.injEq,and_true] at hu
    rw [zou hu]) g1
   rw [hc1 _ rfl] at hc2
   have hs:=zmkb (C:=W (SGC us) 2) (n:=100000) (σ:=σ1) us i (flatS us[i]) (FL.map zbk ++ ((us.take i).flatMap fun u=>(flatS u).map codeS) ++ ((flatS us[i]).take j).map codeS) j hj (by omega) (by
    rw [List.length_append,List.length_append,List.length_map,List.length_map,List.length_take]
    omega) (codeS (flatS us[i])[j]) (hc2 1 σ1)
   rw [← zb3 (flatS us[i]) j hj,List.map_append,← List.append_assoc]
   exact hs) (zo3b us i (flatS us[i]) _) 0 100000 (by omega) (by omega)
  rw [List.take_length] at hin
  have e0:FL.map zbk ++ ((us.take i).flatMap fun u=>(flatS u).map codeS) ++ ((flatS us[i]).take 0).map codeS=FL.map zbk ++ ((us.take i).flatMap fun u=>(flatS u).map codeS):=by simp
  simp only [e0] at hin
  have hs:=zmlb (C:=W (SGC us) 2) (n:=100000) (σ:=σ1) us i (flatS us[i]) _ _ hi (by omega) (hf2 1 σ1) hin
  rw [← zb3 us i hi,List.flatMap_append,← List.append_assoc,List.flatMap_cons,List.flatMap_nil,List.append_nil]
  exact hs) (zo4b us _) 0 100000 (by omega) (by omega)
 rw [List.take_length] at hrun
 have e0:(FL.map zbk ++ (us.take 0).flatMap fun u=>(flatS u).map codeS)=FL.map zbk:=by simp
 simp only [e0] at hrun
 have hcomp:(FL.map zbk ++ us.flatMap fun u=>(flatS u).map codeS)=compS us:=rfl
 rw [hcomp] at hrun
 have hw:=hw2 1 σ0
 have hlF:lenOf (dFs FL)=some 5:=rfl
 have hlU:=len_U us
 have h5:((5:Nat):Int)=5:=rfl
 have hnil:dDs []=.nils:=rfl
 have ow0:ow 0=false:=rfl
 have okD:(dDs (compS us)).ok=true:=zbo
 have onD:(dDs (compS us)).one=true:=zaz
 generalize compS us=cs at *
 generalize FL.map zbk=fc at *
 refine ⟨σ1,?_⟩
 simp only [Ecf1,Ecf3,zeroI,h5,hnil,ow0] at hr hrun
 simp only [zdt,sA,Nat.reduceAdd,Nat.reduceSub,Nat.reduceMul,Nat.reduceBEq,Nat.reduceLeDiff,Int.reduceBEq,Int.reduceBNe,Int.reduceLE,Int.reduceLT,Int.reduceGE,Int.reduceGT,Int.reduceNeg,kn,memE,mB,hw,hlF,hlU,h5,hr,hrun,okD,onD]
theorem zv1 {us:List Su} (h:CompOK us):OkP n_45 [dFs FL,dUs us] ⟨false,.tup [dDs (compS us),.int .i64 0]⟩:=by
 obtain ⟨σ',hr⟩:=zjsb h
 exact zf2 (af:=zdt) (n:=100000) (σ':=σ') (ze2 (SGC us) 2) rfl rfl (by simp [zam,zhc]; rfl) (by simp [noPtr,zam,zvc]) hr
end Go.Fu
namespace Go.Fu
open Go Go.Mx
set_option maxRecDepth 10000
theorem zx6 {P:List Su→Prop} (F:Co→List Su→Co × List Su):∀ (l:List (Tx × Co)) (m:List Su),(∀ p∈l,∀ m,P m→P (F p.2 m).2)→P m→P (mapB F l m).2
 | [],m,_,h=>h
 | p :: l,m,hF,h=>zx6 F l _ (fun q hq=>hF q (List.mem_cons_of_mem _ hq)) (hF p (List.mem_cons_self ..) m h)
theorem zx9 {P:List Su→Prop} (F:Co→List Su→Co × List Su):∀ (l:List Co) (m:List Su),(∀ p∈l,∀ m,P m→P (F p m).2)→P m→P (mapK F l m).2
 | [],m,_,h=>h
 | p :: l,m,hF,h=>zx9 F l _ (fun q hq=>hF q (List.mem_cons_of_mem _ hq)) (hF p (List.mem_cons_self ..) m h)
theorem zx1 {P:List Su→Prop} (F:Hd→Co→List Su→Co × List Su):∀ (l:List (Hd × Co)) (m:List Su),(∀ p∈l,∀ m,P m→P (F p.1 p.2 m).2)→P m→P (mapA F l m).2
 | [],m,_,h=>h
 | p :: l,m,hF,h=>zx1 F l _ (fun q hq=>hF q (List.mem_cons_of_mem _ hq)) (hF p (List.mem_cons_self ..) m h)
def Nm (N:Nat) (t:Tx) (m:List Su):Prop:=(∀ (i:Nat) (h:i < m.length),m[i].name=t ++ [37] ++ itoaN ((i:Int) + 1))∧∀ u∈m,u.body.size≤N
theorem zm8b {N:Nat} {c:Co} {ar:List Tx} {t:Tx} {m:List Su} (hc:c.size≤N) (h:Nm N t m):Nm N t (liftM c ar t m).2:=by
 refine ⟨fun i hi=>?_,fun u hu=>?_⟩
 ·simp only [liftM] at hi ⊢
  rw [List.length_append,List.length_singleton] at hi
  by_cases h1:i < m.length
  ·rw [List.getElem_append_left h1]
   exact h.1 i h1
  ·have e:i=m.length:=by omega
   subst e
   simp [liftN]
 ·simp only [liftM] at hu
  rcases List.mem_append.1 hu with hu | hu
  ·exact h.2 u hu
  ·rw [List.mem_singleton.1 hu]
   exact hc
theorem zm7 {N:Nat} {t:Tx}:∀ (k:Nat) (c:Co) (lz:Bool) (ar:List Tx) (m:List Su),c.size≤N→Nm N t m→Nm N t (flatM k c lz ar t m).2
 | 0,c,lz,ar,m,_,h=>h
 | k + 1,c,lz,ar,m,hc,h=>by
  have hse:=zci c
  simp only [flatM]
  cases zdd c lz with
  | true=>exact zm8b hc h
  | false =>
   rw [zad]
   refine zx1 _ _ _ (fun p hp m hm=>?_) (zx9 _ _ _ (fun p hp m hm=>?_) (zx6 _ _ _ (fun p hp m hm=>?_) h))
   ·have:=zdz c.al p hp
    exact zm7 k p.2 _ _ m (by omega) hm
   ·have:=zie c.ks p hp
    exact zm7 k p _ _ m (by omega) hm
   ·have:=zfd c.bs p hp
    exact zm7 k p.2 _ _ m (by omega) hm
def fdig (v:Nat) (b:UInt8):Nat:=v * 10 + (b.toNat - 48)
theorem ztt (a:Nat) (h:a < 10):(chr a).toNat=48 + a:=by
 have:a=0∨a=1∨a=2∨a=3∨a=4∨a=5∨a=6∨a=7∨a=8∨a=9:=by omega
 rcases this with rfl | rfl | rfl | rfl | rfl | rfl | rfl | rfl | rfl | rfl <;> rfl
theorem zq4:∀ (k a:Nat) (s:Tx),1≤k→a < 10 ^ k→(digF k a s).foldl fdig 0=s.foldl fdig a
 | 0,a,s,h,_=>by omega
 | k + 1,a,s,h,ha=>by
  unfold digF
  by_cases h1:a < 10
  ·rw [decide_eq_true h1,zab,List.foldl_cons,fdig,show UInt8.ofNat (48 + a)=chr a from rfl,ztt a h1]
   congr 1
   omega
  ·have hk:1≤k:=by
    cases k with
    | zero=>simp at ha; omega
    | succ k=>omega
   rw [decide_eq_false h1,zad,zq4 k (a / 10) _ hk (by rw [Nat.pow_succ] at ha; omega),List.foldl_cons,fdig]
   have:=ztt (a % 10) (by omega)
   have e:UInt8.ofNat (48 + a % 10)=chr (a % 10):=rfl
   first | rw [this] | rw [e,this]
   congr 1
   omega
theorem zcob:∀ (k a:Nat) (s:Tx),(∀ b∈s,b≠37)→∀ b∈digF k a s,b≠37
 | 0,a,s,h=>fun b hb=>h b hb
 | k + 1,a,s,h=>by
  have hc:∀ d,d < 10→chr d≠37:=fun d hd e=>by
   have:=ztt d hd
   rw [e] at this
   have e2:(37:UInt8).toNat=37:=rfl
   omega
  unfold digF
  by_cases h1:a < 10
  ·rw [decide_eq_true h1,zab]
   intro b hb
   rcases List.mem_cons.1 hb with rfl | hb
   ·exact hc a h1
   ·exact h b hb
  ·rw [decide_eq_false h1,zad]
   exact zcob k (a / 10) _ fun b hb=>by
    rcases List.mem_cons.1 hb with rfl | hb
    ·exact hc (a % 10) (by omega)
    ·exact h b hb
theorem zm0b {i j:Nat} (hi:i < 1000000000) (hj:j < 1000000000) (h:itoaN ((i:Int) + 1)=itoaN ((j:Int) + 1)):i=j:=by
 have ei:itoaN ((i:Int) + 1)=digF 20 (i + 1) []:=rfl
 have ej:itoaN ((j:Int) + 1)=digF 20 (j + 1) []:=rfl
 rw [ei,ej] at h
 have h1:=zq4 20 (i + 1) [] (by omega) (by have:10 ^ 20=100000000000000000000:=(by decide);omega)
 have h2:=zq4 20 (j + 1) [] (by omega) (by have:10 ^ 20=100000000000000000000:=(by decide);omega)
 rw [h,h2] at h1
 simp only [List.foldl_nil] at h1
 omega
theorem zcvb (i:Nat):∀ b∈itoaN ((i:Int) + 1),b≠37:=zcob 20 (i + 1) [] fun b hb=>by cases hb
def Px (p:Tx):Prop:=p=[]∨∃ q,p=37 :: q
theorem cut37:∀ {a b p q:Tx},(∀ x∈a,x≠37)→(∀ x∈b,x≠37)→Px p→Px q→a ++ p=b ++ q→a=b
 | [],[],_,_,_,_,_,_,_=>rfl
 | [],y :: b,p,q,_,hb,hp,_,h=>by
  rcases hp with rfl | ⟨r,rfl⟩
  ·simp at h
  ·simp only [List.nil_append,List.cons_append,List.cons.injEq] at h
   exact absurd h.1.symm (hb y (List.mem_cons_self ..))
 | x :: a,[],p,q,ha,_,_,hq,h=>by
  rcases hq with rfl | ⟨r,rfl⟩
  ·simp at h
  ·simp only [List.nil_append,List.cons_append,List.cons.injEq] at h
   exact absurd h.1 (ha x (List.mem_cons_self ..))
 | x :: a,y :: b,p,q,ha,hb,hp,hq,h=>by
  simp only [List.cons_append,List.cons.injEq] at h
  rw [h.1,cut37 (fun x hx=>ha x (List.mem_cons_of_mem _ hx)) (fun x hx=>hb x (List.mem_cons_of_mem _ hx)) hp hq h.2]
theorem zg5b (u:Su):Nm u.body.size u.name (flM u.body false u.ps u.name []).2:=zm7 _ _ _ _ _ (Nat.le_refl _) ⟨fun i h=>by simp at h,fun u hu=>by cases hu⟩
theorem zgq:∀ (k:Nat) (u:Su),∀ v∈flatU k u,∃ p,Px p∧v.name=u.name ++ p
 | 0,u,v,h=>⟨[],.inl rfl,by rw [List.mem_singleton.1 h,List.append_nil]⟩
 | k + 1,u,v,h=>by
  rcases List.mem_cons.1 h with rfl | h
  ·exact ⟨[],.inl rfl,by rw [List.append_nil]⟩
  ·obtain ⟨x,hx,hv⟩:=List.mem_flatMap.1 h
   obtain ⟨i,hi,rfl⟩:=List.mem_iff_getElem.1 hx
   obtain ⟨p,_,hn⟩:=zgq k _ v hv
   rw [(zg5b u).1 i hi] at hn
   exact ⟨37 :: (itoaN ((i:Int) + 1) ++ p),.inr ⟨_,rfl⟩,by rw [hn]; simp⟩
theorem zu1:∀ (k:Nat) (u:Su),u.body.size < 1000000000→∀ v∈flatU k u,∀ w∈flatU k u,v.name=w.name→v=w
 | 0,u,_,v,hv,w,hw,_=>by rw [List.mem_singleton.1 hv,List.mem_singleton.1 hw]
 | k + 1,u,hs,v,hv,w,hw,h=>by
  have hN:=zg5b u
  have hlen:(flM u.body false u.ps u.name []).2.length≤u.body.size:=by
   have:=zhp u.body.size u.body false u.ps u.name []
   simpa [flM] using this
  have below:∀ w,w∈(flM u.body false u.ps u.name []).2.flatMap (flatU k)→∃ (i:Nat) (hi:i < (flM u.body false u.ps u.name []).2.length) (p:Tx),Px p∧w∈flatU k (flM u.body false u.ps u.name []).2[i]∧w.name=u.name ++ (37 :: (itoaN ((i:Int) + 1) ++ p)):=fun w hw=>by
   obtain ⟨x,hx,hv⟩:=List.mem_flatMap.1 hw
   obtain ⟨i,hi,rfl⟩:=List.mem_iff_getElem.1 hx
   obtain ⟨p,hp,hn⟩:=zgq k _ w hv
   rw [hN.1 i hi] at hn
   exact ⟨i,hi,p,hp,hv,by rw [hn]; simp⟩
  have own:∀ x p:Tx,x=x ++ (37 :: p)→False:=fun x p h=>by
   have:=congrArg List.length h
   simp at this
  rcases List.mem_cons.1 hv with rfl | hv <;> rcases List.mem_cons.1 hw with rfl | hw
  ·rfl
  ·obtain ⟨i,_,p,_,_,e⟩:=below w hw
   exact (own _ _ (h.trans e)).elim
  ·obtain ⟨i,_,p,_,_,e⟩:=below v hv
   exact (own _ _ (h.symm.trans e)).elim
  ·obtain ⟨i,hi,p,hp,h1,e1⟩:=below v hv
   obtain ⟨j,hj,q,hq,h2,e2⟩:=below w hw
   rw [e1,e2] at h
   have h3:=List.append_cancel_left h
   simp only [List.cons.injEq,true_and] at h3
   obtain rfl:=zm0b (by omega) (by omega) (cut37 (zcvb i) (zcvb j) hp hq h3)
   have hm:=hN.2 _ (List.getElem_mem hi)
   exact zu1 k _ (by omega) v h1 w h2 (e1.trans (h.trans e2.symm))
end Go.Fu
namespace Go.Fu
open Go Go.Mx
set_option maxRecDepth 10000
set_option maxHeartbeats 4000000
section
variable {C:CallF} {n:Nat} {σ:Store}
end
theorem zuw {B:Nat}:∀ l:List In,(∀ i∈l,GI B i)→(bodyM l).length≤l.length * (B + 61)
 | [],_=>by simp [bodyM]
 | i :: r,h=>by
  have h1:=zu5 (h i (by simp))
  have h2:=zuw r fun x hx=>h x (List.mem_cons_of_mem _ hx)
  simp only [bodyM,List.flatMap_cons,List.length_append,List.length_cons,List.length_nil,Nat.succ_mul] at h2 ⊢
  omega
theorem zs3 {B:Nat}:∀ cs:List Cd,CO B cs→(zbh cs).length≤wt cs * (B + 61)
 | [],_=>by simp [zbh]
 | c :: r,h=>by
  have h1:=h c (by simp)
  have h2:=zs3 r fun x hx=>h x (List.mem_cons_of_mem _ hx)
  have h3:=zuw c.body h1.2.2
  have h4:=zff c.arity
  have h5:=h1.1
  simp only [zbh,List.flatMap_cons,List.length_append,headC,List.length_cons,List.length_nil,wt,Nat.add_mul,Nat.one_mul] at h2 ⊢
  omega
end Go.Fu
namespace Go.Fu
open Go Go.Mx
set_option maxRecDepth 10000
set_option maxHeartbeats 4000000
theorem zv6 (s:Tx):OkP n_120 [.str s] ⟨false,.bool (isK s)⟩:=by
 refine zbv (af:=a_150) (n:=1) (σ':=σ0) (zb5 [(n_14,zfx)] 1) rfl rfl rfl rfl ?_
 have h1:=zvt (S:=[(n_14,zfx)]) rfl nums s (by decide) 0 σ0
 simp only [dSs,nums,dlist,List.map_cons,List.map_nil] at h1
 simp only [isK]
 simp only [nums]
 generalize ([[80,85,83,72,73],[80,85,83,72,65],[80,65,67,75],[83,76,73,68,69],[80,79,80],[85,80,68,65,84,69],[65,76,76,79,67],[84,69,83,84],[84,69,83,84,73],[83,80,76,73,84],[74,85,77,80]]:List Tx).any (· == s)=b at h1 ⊢
 simp only [a_150,sA,Nat.reduceAdd,Nat.reduceSub,Nat.reduceMul,Nat.reduceBEq,Nat.reduceLeDiff,Int.reduceBEq,Int.reduceBNe,Int.reduceLE,Int.reduceLT,Int.reduceGE,Int.reduceGT,Int.reduceNeg,kn,h1]
def zqv:List D→Cell→Prop:=fun ds c=>∀ s,ds=[.str s]→c=⟨false,.bool (isK s)⟩
theorem zvu {S:Specs} (hS:aget S n_120=some zqv) (s:Tx) (n:Nat) (σ:Store):T S (n + 1) n_120 [.str s] σ=some (.ret ⟨false,.bool (isK s)⟩,σ):=by
 obtain ⟨c,h1,h2⟩:=T_orc (S:=S) hS rfl (c:=⟨false,.bool (isK s)⟩) (fun s' e=>by
  simp only [List.cons.injEq,D.str.injEq,and_true] at e
  rw [e]) (zv6 s)
 rw [h2,h1 s rfl]
theorem zn7:∀ a b:List UInt8,za8 (a ++ b)=za8 a ++ za8 b
 | [],b=>rfl
 | x :: a,b=>by simp only [List.cons_append,za8,zn7 a b]
theorem zfh:∀ a:List UInt8,(za8 a).length=a.length
 | []=>rfl
 | x :: a=>by simp only [za8,List.length_cons,zfh a]
theorem zux:∀ a:List UInt8,zgf (za8 a)=some a
 | []=>rfl
 | x :: a=>by
  have hx:x.toNat < 256:=x.toNat_lt
  have h1:decide (0≤((x.toNat:Nat):Int))=true:=decide_eq_true (by omega)
  have h2:decide (((x.toNat:Nat):Int) < 256)=true:=decide_eq_true (by omega)
  simp only [za8,zgf,h1,h2,Bool.and_self,zab,zux a,bindO,zac,Int.toNat_natCast,UInt8.ofNat_toNat]
theorem zop:∀ s:List UInt8,zap k_12.sz (za8 s)=true
 | []=>rfl
 | x :: s=>by simp only [za8,zap,zop s]; rfl
def bdC (a:Tx):Cell:=match a with
 | []=>⟨false,.nils⟩
 | _ :: _=>⟨true,.list k_12 (za8 a)⟩
def bdP (a:Tx):D:=match a with
 | []=>.nilp
 | _ :: _=>.ptr 0 0
theorem zuu (a s:Tx) (hs:s≠[]) (h:a.length + s.length≤1099511627776):za4 k_12 1 (bdC a) (za8 s)=some ⟨true,.list k_12 (za8 (a ++ s))⟩:=by
 cases a with
 | nil =>
  have e1:decide ((([]:List D).length + (za8 s).length) * 1≤bound)=true:=decide_eq_true (by rw [zfh]; simpa [bound] using h)
  have e2:decide (([]:List D).length + (za8 s).length≤bound)=true:=decide_eq_true (by rw [zfh]; simpa [bound] using h)
  cases s with
  | nil=>exact absurd rfl hs
  | cons x r =>
   simp only [za4,bdC,zbw,bindO,zac,zdr,zop,e1,e2,Bool.and_self,zab,zd4,List.nil_append]
   rfl
 | cons x r =>
  have hm:zdr k_12 ⟨true,.list k_12 (za8 (x :: r))⟩=true:=rfl
  have e1:decide (((za8 (x :: r)).length + (za8 s).length) * 1≤bound)=true:=decide_eq_true (by rw [zfh,zfh]; simpa [bound] using h)
  have e2:decide ((za8 (x :: r)).length + (za8 s).length≤bound)=true:=decide_eq_true (by rw [zfh,zfh]; simpa [bound] using h)
  simp only [za4,bdC,zbw,bindO,zac,hm,zop,e1,e2,Bool.and_self,zab,zd4,zn7]
def BS (a:Tx):Store:={objs:=[(0,[⟨false,bdP a⟩,bdC a])],tys:=[(0,⟨t_11,0⟩)],oth:=[],next:=1}
theorem tb:(t_11 == t_11)=true:=by simp
def BSc (a:Tx):Store:={objs:=[(0,[⟨false,.ptr 0 0⟩,bdC a])],tys:=[(0,⟨t_11,0⟩)],oth:=[],next:=1}
theorem zghb {S:Specs} (hs:has S n_36=false) (n:Nat) (a:Tx):T S (n + 1) n_36 [.ptr 0 0] (BS a)=some (.ret ⟨false,.tup []⟩,BSc a):=by
 rw [T_lib hs rfl rfl]
 have h:Xa n_36 [.ptr 0 0] (BS a)=xCopy [.ptr 0 0] (BS a):=rfl
 rw [h]
 cases a with
 | nil=>rfl
 | cons x r=>rfl
theorem zgdb (a s:Tx) (hs:s≠[]):BS (a ++ s)={objs:=[(0,[⟨false,.ptr 0 0⟩,⟨true,.list k_12 (za8 (a ++ s))⟩])],tys:=[(0,⟨t_11,0⟩)],oth:=[],next:=1}:=by
 have hn:a ++ s≠[]:=by simp [hs]
 generalize a ++ s=b at hn
 cases b with
 | nil=>exact absurd rfl hn
 | cons x r=>rfl
theorem zi6b {S:Specs} (h1:has S n_36=false) (h2:has S n_52=false) (n:Nat) (a s:Tx) (hs:s≠[]) (h:a.length + s.length≤1099511627776) :
  T S (n + 2) n_52 [.ptr 0 0,.str s] (BS a)=some (.ret ⟨false,.tup [.int .i64 s.length,.niliface]⟩,BS (a ++ s)):=by
 have hc:=zghb h1 n a
 have ha:=zuu a s hs h
 rw [zgdb a s hs]
 rw [T_fun (af:=a_173) h2 rfl rfl]
 simp only [BSc] at hc
 generalize bdC a=b at hc ha
 obtain ⟨bo,bd⟩:=b
 simp only [a_173,sA,Nat.reduceAdd,Nat.reduceSub,Nat.reduceMul,Nat.reduceBEq,Nat.reduceLeDiff,Int.reduceBEq,Int.reduceBNe,Int.reduceLE,Int.reduceLT,Int.reduceGE,Int.reduceGT,Int.reduceNeg,kn,memE,memOp,hc,ha]
theorem zqdb {S:Specs} (h1:has S n_36=false) (h2:has S n_196=false) (n:Nat) (a:Tx) (h:a.length + 1≤1099511627776) :
  T S (n + 2) n_196 [.ptr 0 0,.int .u8 10] (BS a)=some (.ret ⟨false,.niliface⟩,BS (a ++ [10])):=by
 have hc:=zghb h1 n a
 have ha:=zuu a [10] (by simp) h
 rw [zgdb a [10] (by simp)]
 rw [T_fun (af:=a_172) h2 rfl rfl]
 simp only [BSc] at hc
 generalize bdC a=b at hc ha
 obtain ⟨bo,bd⟩:=b
 have hb:za8 [10]=[.int .u8 10]:=rfl
 rw [hb] at ha
 simp only [a_172,sA,Nat.reduceAdd,Nat.reduceSub,Nat.reduceMul,Nat.reduceBEq,Nat.reduceLeDiff,Int.reduceBEq,Int.reduceBNe,Int.reduceLE,Int.reduceLT,Int.reduceGE,Int.reduceGT,Int.reduceNeg,kn,memE,memOp,hc,ha]
theorem zp7b {S:Specs} (h1:has S n_61=false) (n:Nat) (a:Tx) (hne:a≠[]):∃ σ',T S (n + 1) n_61 [.ptr 0 0] (BS a)=some (.ret ⟨false,.str a⟩,σ'):=by
 rw [T_lib h1 rfl rfl]
 have h:Xa n_61 [.ptr 0 0] (BS a)=zmt [.ptr 0 0] (BS a):=rfl
 rw [h]
 cases a with
 | nil=>exact absurd rfl hne
 | cons x r =>
  have hb:zo5 k_12=true:=rfl
  have he:(za8 (x :: r)).isEmpty=false:=rfl
  have h2:=zux (x :: r)
  refine ⟨{objs:=[(0,[⟨false,.ptr 0 0⟩,⟨false,.list k_12 (za8 (x :: r))⟩])],tys:=[(0,⟨t_11,0⟩)],oth:=[],next:=1},?_⟩
  simp only [zmt,BS,aget,beq_self_eq_true,zab,bindO,zac,tb,bdC,bdP,hb,he,Bool.not_false,Bool.and_self,h2]
  rfl
theorem zxx {S:Specs} (h1:has S n_21=false) (n:Nat) (x:Int) (hx:Small x) (σ:Store):T S (n + 1) n_21 [.int .i64 x] σ=some (.ret ⟨false,.str (itoaN x)⟩,σ):=by
 rw [T_lib h1 rfl rfl]
 have h2:inI64 x=true:=by simp [inI64,hx.1,hx.2]
 have h:Xa n_21 [.int .i64 x] σ=bindO (xItoa [.int .i64 x]) fun d=>some (.ret ⟨false,d⟩,σ):=rfl
 rw [h]
 simp only [xItoa,h2,zab,bindO,zac]
end Go.Fu

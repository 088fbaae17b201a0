/-
 Names of combinators and fields; rows of which nothing is told.
-/
import Derived.Test.YtldfbnbckiifeaaGreatDoorFgDu
import Derived.Test.YtldfbnbckiifeaaGreatDoorFgCq
set_option maxHeartbeats 4000000
set_option linter.unusedSimpArgs false
set_option linter.unusedVariables false
set_option linter.unusedSectionVars false
namespace Go.Fu
open Go Go.Mx
set_option maxRecDepth 100000
set_option maxHeartbeats 4000000
def zxy (n:Nat):Bool:=match kM Γa Ra Xa n false sZ [.nils] {objs:=[],tys:=[],oth:=[],next:=0} with
 | some (.ret ⟨false,.bool false⟩,_)=>true
 | _=>false
theorem zpo:zxy 30=true:=by kernel_rfl
theorem znp:OkP sZ [dSs []] ⟨false,.bool (iP [])⟩:=by
 intro σ
 have h:=zpo
 unfold zxy at h
 split at h
 ·rename_i s hx
  exact Fo rfl ((Ak Γa_holds pN Ei 30).1 _ [.nils] σ0 _ _ hx) rfl rfl σ
 ·cases h
theorem zno (l:List Tx) (hl:l.length < 1000000000):OkP sZ [dSs l] ⟨false,.bool (iP l)⟩:=by
 by_cases h:l=[]
 ·subst h; exact znp
 ·exact zjd l hl h
def zxr:List D→Cell→Prop:=fun ds c=>∀ l,ds=[dSs l]→c=⟨false,.bool (iP l)⟩
theorem zmo {S:aV} (hS:aB S sZ=some zxr) (l:List Tx) (hl:l.length < 1000000000) (n:Nat) (σ:Store):W S (n + 1) sZ [dSs l] σ=some (.ret ⟨false,.bool (iP l)⟩,σ):=by
 obtain ⟨c,h1,h2⟩:=nP (S:=S) hS rfl (c:=⟨false,.bool (iP l)⟩) (fun l' e=>by
  simp only [List.cons.injEq,and_true] at e
  rw [iH e]) (zno l hl)
 rw [h2,h1 l rfl]
theorem Cm (b:Su):dU b=.agg [.str b.name,dSs b.ps,.int .i64 b.body.f,.int .i64 b.body.n,.str b.body.s,.int .i64 0,.int .i64 0,.str [],.nils,kD b.body,bD b.body,aD b.body]:=rfl
def sF:D:=.fn (.func Bi) [] []
def xI:List D→Cell→Prop:=fun ds c=>∀ b:Su,ds=[dU b]→c=⟨false,.str b.name⟩
theorem zhc (b:Su):OkP Bi [dU b] ⟨false,.str b.name⟩:=by
 have hn:aX [dU b]=true:=by simp [aX,Gv]
 have hon:=fF b.body
 have hoS:=dN b.ps
 refine eD (af:=zdt) (n:=1) (σ':=σ0) (eR [] 1) rfl rfl hn rfl ?_
 simp only [zdt,Cm,sA,seval,kn,hon,hoS]
theorem zf6 {S:aV} (hS:aB S Bi=some xI) (b:Su) (n:Nat) (σ:Store):T S (n + 1) Bi [dU b] σ=some (.ret ⟨false,.str b.name⟩,σ):=by
 obtain ⟨c,h1,h2⟩:=kZ (S:=S) hS rfl (c:=⟨false,.str b.name⟩) (fun a h=>by
  simp only [List.cons.injEq,and_true] at h
  rw [Jt h]) (zhc b)
 rw [h2,h1 b rfl]
section
variable {C:aM} {n:Nat} {σ:Store}
def rV (bs:List Su) (i:Nat):Env:={slots:=[(1,⟨false,sF⟩),(5,⟨ow i,dSs ((bs.take i).map Su.name)⟩),(8,⟨false,dUs bs⟩),(9,⟨false,.int .i64 bs.length⟩),(10,⟨false,.int .i64 i⟩)],locs:=[],boxes:=[],defers:=[]}
theorem zjp (bs:List Su) (i:Nat) (h:i < bs.length) (hl:bs.length < 1000000000) (h1:∀ b σ,C Bi [dU b] σ=some (.ret ⟨false,.str b.name⟩,σ)):exec C n none Yn (rV bs i) σ=some (.normal,rV bs (i + 1),σ):=by
 have hlt:((i:Int) < (bs.length:Int)):=by omega
 have w:=aR (i:=i) (by omega)
 have hx:=zen bs i h
 have ha:=tQ ((bs.take i).map Su.name) bs[i].name (ow i) (fun hne=>by
  cases i with
  | zero=>exact absurd rfl hne
  | succ i=>rfl) (by simp; omega)
 have e2:(bs.take i).map Su.name ++ [bs[i].name]=(bs.take (i + 1)).map Su.name:=by rw [← fL bs i h,List.map_append]; rfl
 rw [e2] at ha
 have h2:=h1 bs[i] σ
 have hfn:D.fn? sF=some (Bi,[],[]):=rfl
 generalize bs[i]=b at hx ha h2
 have hon:=fF b.body
 have hoS:=dN b.ps
 rw [Cm] at hx h2
 simp only [Yn,rV,Gg,sA,seval,kn,hlt,cL,hx,hon,hoS,hfn,h2,ha,w,kP]
theorem zoa (bs:List Su):exec C n none Yn (rV bs bs.length) σ=some (.exit 0,{rV bs bs.length with slots:=[(1,⟨false,sF⟩),(5,⟨ow bs.length,dSs ((bs.take bs.length).map Su.name)⟩),(8,⟨false,dUs bs⟩),(9,⟨false,.int .i64 bs.length⟩),(10,⟨false,.int .i64 bs.length⟩),(11,⟨false,.bool false⟩)]},σ):=by
 have hlt:¬ ((bs.length:Int) < (bs.length:Int)):=by omega
 simp only [Yn,rV,sA,seval,kn,hlt]
end
theorem zhh (bs:List Su) (hl:bs.length < 300000000):OkP Wa [dUs bs,sF] ⟨false,dSs (bs.map Su.name)⟩:=by
 refine OkP.weak (o:=ow bs.length) rfl (eD (af:=zdr) (n:=1000000000) (σ':=σ0) (eR [(Bi,xI)] 1) rfl rfl (by simp [aX,sG,sF,bS]) (cQ _) ?_)
 have h0:=gI (body:=exec (T [(Bi,xI)] 1) 1000000000 none Yn) (fun i=>rV bs i) (fun _=>σ0) bs.length (r:=_) (fun _ _ h=>by cases h) (fun i hi=>zjp bs i hi (by omega) (fun x σ=>zf6 (S:=[(Bi,xI)]) rfl x 0 σ)) (zoa bs) 0 1000000000 (by omega) (by omega)
 rw [List.take_length] at h0
 have e0:(bs.take 0).map Su.name=[]:=rfl
 have e1:dSs []=.nils:=rfl
 have hln:=Gg bs
 simp only [rV,bV,e0,e1,xR] at h0
 simp only [zdr,sA,seval,kn,hln,h0]
def Xw:List D→Cell→Prop:=fun ds c=>∀ bs:List Su,ds=[dUs bs,sF]→c=⟨false,dSs (bs.map Su.name)⟩
theorem zp5 {S:aV} (hS:aB S Wa=some Xw) (bs:List Su) (hl:bs.length < 300000000) (n:Nat) (σ:Store):W S (n + 1) Wa [dUs bs,sF] σ=some (.ret ⟨false,dSs (bs.map Su.name)⟩,σ):=by
 obtain ⟨c,h1,h2⟩:=nP (S:=S) hS rfl (c:=⟨false,dSs (bs.map Su.name)⟩) (fun a h=>by
  simp only [List.cons.injEq,and_true] at h
  rw [zln h]) (zhh bs hl)
 rw [h2,h1 bs rfl]
theorem zlk (b:Fd):dF b=.agg [.str b.name,.int .i64 b.tag,.int .i64 b.many,.int .i64 b.arity,.int .i64 0,.int .i64 0,.str [],.nils]:=rfl
def sE:D:=.fn (.func Bh) [] []
def xH:List D→Cell→Prop:=fun ds c=>∀ b:Fd,ds=[dF b]→c=⟨false,.str b.name⟩
theorem zhb (b:Fd):OkP Bh [dF b] ⟨false,.str b.name⟩:=by
 have hn:aX [dF b]=true:=rfl
 refine eD (af:=zdn) (n:=1) (σ':=σ0) (eR [] 1) rfl rfl hn rfl ?_
 simp only [zdn,zlk,sA,seval,kn,bZ]
theorem zf5 {S:aV} (hS:aB S Bh=some xH) (b:Fd) (n:Nat) (σ:Store):T S (n + 1) Bh [dF b] σ=some (.ret ⟨false,.str b.name⟩,σ):=by
 obtain ⟨c,h1,h2⟩:=kZ (S:=S) hS rfl (c:=⟨false,.str b.name⟩) (fun a h=>by
  simp only [List.cons.injEq,and_true] at h
  rw [zqx h]) (zhb b)
 rw [h2,h1 b rfl]
section
variable {C:aM} {n:Nat} {σ:Store}
def rU (bs:List Fd) (i:Nat):Env:={slots:=[(1,⟨false,sE⟩),(5,⟨ow i,dSs ((bs.take i).map Fd.name)⟩),(8,⟨false,dFs bs⟩),(9,⟨false,.int .i64 bs.length⟩),(10,⟨false,.int .i64 i⟩)],locs:=[],boxes:=[],defers:=[]}
theorem zjo (bs:List Fd) (i:Nat) (h:i < bs.length) (hl:bs.length < 1000000000) (h1:∀ b σ,C Bh [dF b] σ=some (.ret ⟨false,.str b.name⟩,σ)):exec C n none Ym (rU bs i) σ=some (.normal,rU bs (i + 1),σ):=by
 have hlt:((i:Int) < (bs.length:Int)):=by omega
 have w:=aR (i:=i) (by omega)
 have hx:=Oi bs i h
 have ha:=tQ ((bs.take i).map Fd.name) bs[i].name (ow i) (fun hne=>by
  cases i with
  | zero=>exact absurd rfl hne
  | succ i=>rfl) (by simp; omega)
 have e2:(bs.take i).map Fd.name ++ [bs[i].name]=(bs.take (i + 1)).map Fd.name:=by rw [← fL bs i h,List.map_append]; rfl
 rw [e2] at ha
 have h2:=h1 bs[i] σ
 have hfn:D.fn? sE=some (Bh,[],[]):=rfl
 generalize bs[i]=b at hx ha h2
 rw [zlk] at hx h2
 simp only [Ym,rU,rB,sA,seval,kn,hlt,cL,hx,hfn,h2,ha,w,kP]
theorem zn9 (bs:List Fd):exec C n none Ym (rU bs bs.length) σ=some (.exit 0,{rU bs bs.length with slots:=[(1,⟨false,sE⟩),(5,⟨ow bs.length,dSs ((bs.take bs.length).map Fd.name)⟩),(8,⟨false,dFs bs⟩),(9,⟨false,.int .i64 bs.length⟩),(10,⟨false,.int .i64 bs.length⟩),(11,⟨false,.bool false⟩)]},σ):=by
 have hlt:¬ ((bs.length:Int) < (bs.length:Int)):=by omega
 simp only [Ym,rU,sA,seval,kn,hlt]
end
theorem zhg (bs:List Fd) (hl:bs.length < 300000000):OkP Vz [dFs bs,sE] ⟨false,dSs (bs.map Fd.name)⟩:=by
 refine OkP.weak (o:=ow bs.length) rfl (eD (af:=zdq) (n:=1000000000) (σ':=σ0) (eR [(Bh,xH)] 1) rfl rfl (by simp [aX,Lp,sE,bS]) (cQ _) ?_)
 have h0:=gI (body:=exec (T [(Bh,xH)] 1) 1000000000 none Ym) (fun i=>rU bs i) (fun _=>σ0) bs.length (r:=_) (fun _ _ h=>by cases h) (fun i hi=>zjo bs i hi (by omega) (fun x σ=>zf5 (S:=[(Bh,xH)]) rfl x 0 σ)) (zn9 bs) 0 1000000000 (by omega) (by omega)
 rw [List.take_length] at h0
 have e0:(bs.take 0).map Fd.name=[]:=rfl
 have e1:dSs []=.nils:=rfl
 have hln:=rB bs
 simp only [rU,bV,e0,e1,xR] at h0
 simp only [zdq,sA,seval,kn,hln,h0]
def Xv:List D→Cell→Prop:=fun ds c=>∀ bs:List Fd,ds=[dFs bs,sE]→c=⟨false,dSs (bs.map Fd.name)⟩
theorem zp4 {S:aV} (hS:aB S Vz=some Xv) (bs:List Fd) (hl:bs.length < 300000000) (n:Nat) (σ:Store):W S (n + 1) Vz [dFs bs,sE] σ=some (.ret ⟨false,dSs (bs.map Fd.name)⟩,σ):=by
 obtain ⟨c,h1,h2⟩:=nP (S:=S) hS rfl (c:=⟨false,dSs (bs.map Fd.name)⟩) (fun a h=>by
  simp only [List.cons.injEq,and_true] at h
  rw [zyi h]) (zhg bs hl)
 rw [h2,h1 bs rfl]
section
variable {C:aM} {n:Nat}
def mC (l:List (Su)) (g:D) (i:Nat):Env:={slots:=[(0,⟨false,dUs l⟩),(1,⟨false,g⟩),(7,⟨false,.int .i64 l.length⟩),(8,⟨false,.int .i64 i⟩)],locs:=[],boxes:=[],defers:=[]}
theorem zb8 (l:List (Su)) (g:D) (fid:Nat) (ca:List D) (hg:D.fn? g=some (fid,[],ca)) (i:Nat) (h:i < l.length) (hl:l.length < 1000000000) (σ σ':Store) (h1:C fid (dU l[i] :: ca) σ=some (.ret ⟨false,.bool false⟩,σ')):exec C n none Ze (mC l g i) σ=some (.normal,mC l g (i + 1),σ'):=by
 have hlt:((i:Int) < (l.length:Int)):=by omega
 have w:=aR (i:=i) (by omega)
 have hx:=zen l i h
 have hln:=Gg l
 generalize l[i]=x at hx h1
 have hon:=fF x.body
 have hoS:=dN x.ps
 rw [Cm] at hx h1
 simp only [Ze,mC,sA,seval,kn,hln,hlt,cL,hx,hon,hoS,hg,h1,w]
theorem zgb (l:List (Su)) (g:D) (σ:Store):exec C n none Ze (mC l g l.length) σ=some (.exit 0,{mC l g l.length with slots:=[(0,⟨false,dUs l⟩),(1,⟨false,g⟩),(7,⟨false,.int .i64 l.length⟩),(8,⟨false,.int .i64 l.length⟩),(9,⟨false,.bool false⟩)]},σ):=by
 have hlt:¬ ((l.length:Int) < (l.length:Int)):=by omega
 have hln:=Gg l
 simp only [Ze,mC,sA,seval,kn,hln,hlt]
end
theorem Ie {S:aV} (l:List (Su)) (g:D) (fid:Nat) (ca:List D) (hg:D.fn? g=some (fid,[],ca)) (hl:l.length < 1000000000) (J:Store→Prop) (na:Nat) (hc:∀ x∈l,∀ σ,J σ→∃ σ',J σ'∧∀ n,na≤n→W S n fid (dU x :: ca) σ=some (.ret ⟨false,.bool false⟩,σ')):∀ (rest done:List (Su)) (σ:Store),l=done ++ rest→J σ →
  ∃ σ',J σ'∧∀ N n,na≤N→rest.length < n→dL (exec (W S N) N none Ze) n (mC l g done.length) σ=some (.exit 0,{mC l g l.length with slots:=[(0,⟨false,dUs l⟩),(1,⟨false,g⟩),(7,⟨false,.int .i64 l.length⟩),(8,⟨false,.int .i64 l.length⟩),(9,⟨false,.bool false⟩)]},σ')
 | [],done,σ,hd,hJ=>by
  refine ⟨σ,hJ,fun N n _ hn=>?_⟩
  obtain ⟨n,rfl⟩:∃ k,n=k + 1:=⟨n - 1,by omega⟩
  have e:done.length=l.length:=by rw [hd]; simp
  rw [e]
  exact gX (zgb l g σ)
 | x :: rest,done,σ,hd,hJ=>by
  have hi:done.length < l.length:=by rw [hd]; simp
  have hs:l[done.length]=x:=by
   have:∀ (l:List (Su)) (hl:l=done ++ x :: rest) (hi:done.length < l.length),l[done.length]=x:=fun l hl hi=>by subst hl; simp
   exact this _ hd hi
  obtain ⟨σ1,j1,w1⟩:=hc x (by rw [hd]; simp) σ hJ
  obtain ⟨σ2,j2,w2⟩:=Ie l g fid ca hg hl J na hc rest (done ++ [x]) σ1 (by rw [hd]; simp) j1
  simp only [List.length_append,List.length_cons,List.length_nil,Nat.zero_add] at w2
  refine ⟨σ2,j2,fun N n hN hn=>?_⟩
  obtain ⟨n,rfl⟩:∃ k,n=k + 1:=⟨n - 1,by omega⟩
  rw [dW (zb8 l g fid ca hg done.length hi hl σ σ1 (by rw [hs]; exact w1 N hN))]
  exact w2 N n hN (by simp at hn; omega)
theorem zbe {S:aV} (hs1:has S zoh=false) (hs2:has S ze8=false) (l:List (Su)) (g:D) (fid:Nat) (ca:List D) (hg:D.fn? g=some (fid,[],ca)) (hl:l.length < 1000000000) (J:Store→Prop) (na:Nat) (hc:∀ x∈l,∀ σ,J σ→∃ σ',J σ'∧∀ n,na≤n→W S n fid (dU x :: ca) σ=some (.ret ⟨false,.bool false⟩,σ')) (σ:Store) (hJ:J σ) :
  ∃ σ',J σ'∧∀ n,na + l.length + 3≤n→W S n ze8 [dUs l,g] σ=some (.ret ⟨false,.bool false⟩,σ'):=by
 obtain ⟨σ',j,w⟩:=Ie l g fid ca hg hl J na hc l [] σ rfl hJ
 refine ⟨σ',j,fun n hn=>?_⟩
 obtain ⟨n,rfl⟩:∃ k,n=k + 2:=⟨n - 2,by omega⟩
 have w:=w n n (by omega) (by omega)
 have hln:=Gg l
 simp only [mC,List.length_nil,bV] at w
 have h1:W S (n + 1) zoh [dUs l,g] σ=some (.ret ⟨false,.int .i64 (-1)⟩,σ'):=by
  rw [bC (af:=zeb) hs1 rfl rfl]
  simp only [zeb,sA,seval,kn,hln,w]
 have hge:¬ ((-1:Int) ≥ 0):=by omega
 rw [bC (af:=zd9) hs2 rfl rfl]
 simp only [zd9,sA,seval,kn,h1,hge]
def dAs' (l:List (Hd × Co)):D:=bE k_4 (l.map dA)
theorem zy1 (l:List (Hd × Co)) (i:Nat) (h:i < l.length):dC 14 (dAs' l) i=some (.eptr (dA l[i])):=jU rfl dA _ i h
theorem zae (l:List (Hd × Co)):lenOf (dAs' l)=some l.length:=jN _ l
section
variable {C:aM} {n:Nat}
def qD (l:List (Hd × Co)) (g:D) (i:Nat):Env:={slots:=[(0,⟨false,dAs' l⟩),(1,⟨false,g⟩),(7,⟨false,.int .i64 l.length⟩),(8,⟨false,.int .i64 i⟩)],locs:=[],boxes:=[],defers:=[]}
theorem zix (l:List (Hd × Co)) (g:D) (fid:Nat) (ca:List D) (hg:D.fn? g=some (fid,[],ca)) (i:Nat) (h:i < l.length) (hl:l.length < 1000000000) (σ σ':Store) (h1:C fid (dA l[i] :: ca) σ=some (.ret ⟨false,.bool false⟩,σ')):exec C n none Zc (qD l g i) σ=some (.normal,qD l g (i + 1),σ'):=by
 have hlt:((i:Int) < (l.length:Int)):=by omega
 have w:=aR (i:=i) (by omega)
 have hx:=zy1 l i h
 have hln:=zae l
 generalize l[i]=x at hx h1
 have hon:=fF x.2
 have hoS:=dN x.1.vars
 rw [mE] at hx h1
 simp only [Zc,qD,sA,seval,kn,hln,hlt,cL,hx,hon,hoS,hg,h1,w]
theorem zm9 (l:List (Hd × Co)) (g:D) (σ:Store):exec C n none Zc (qD l g l.length) σ=some (.exit 0,{qD l g l.length with slots:=[(0,⟨false,dAs' l⟩),(1,⟨false,g⟩),(7,⟨false,.int .i64 l.length⟩),(8,⟨false,.int .i64 l.length⟩),(9,⟨false,.bool false⟩)]},σ):=by
 have hlt:¬ ((l.length:Int) < (l.length:Int)):=by omega
 have hln:=zae l
 simp only [Zc,qD,sA,seval,kn,hln,hlt]
end
theorem Py {S:aV} (l:List (Hd × Co)) (g:D) (fid:Nat) (ca:List D) (hg:D.fn? g=some (fid,[],ca)) (hl:l.length < 1000000000) (J:Store→Prop) (na:Nat) (hc:∀ x∈l,∀ σ,J σ→∃ σ',J σ'∧∀ n,na≤n→W S n fid (dA x :: ca) σ=some (.ret ⟨false,.bool false⟩,σ')):∀ (rest done:List (Hd × Co)) (σ:Store),l=done ++ rest→J σ →
  ∃ σ',J σ'∧∀ N n,na≤N→rest.length < n→dL (exec (W S N) N none Zc) n (qD l g done.length) σ=some (.exit 0,{qD l g l.length with slots:=[(0,⟨false,dAs' l⟩),(1,⟨false,g⟩),(7,⟨false,.int .i64 l.length⟩),(8,⟨false,.int .i64 l.length⟩),(9,⟨false,.bool false⟩)]},σ')
 | [],done,σ,hd,hJ=>by
  refine ⟨σ,hJ,fun N n _ hn=>?_⟩
  obtain ⟨n,rfl⟩:∃ k,n=k + 1:=⟨n - 1,by omega⟩
  have e:done.length=l.length:=by rw [hd]; simp
  rw [e]
  exact gX (zm9 l g σ)
 | x :: rest,done,σ,hd,hJ=>by
  have hi:done.length < l.length:=by rw [hd]; simp
  have hs:l[done.length]=x:=by
   have:∀ (l:List (Hd × Co)) (hl:l=done ++ x :: rest) (hi:done.length < l.length),l[done.length]=x:=fun l hl hi=>by subst hl; simp
   exact this _ hd hi
  obtain ⟨σ1,j1,w1⟩:=hc x (by rw [hd]; simp) σ hJ
  obtain ⟨σ2,j2,w2⟩:=Py l g fid ca hg hl J na hc rest (done ++ [x]) σ1 (by rw [hd]; simp) j1
  simp only [List.length_append,List.length_cons,List.length_nil,Nat.zero_add] at w2
  refine ⟨σ2,j2,fun N n hN hn=>?_⟩
  obtain ⟨n,rfl⟩:∃ k,n=k + 1:=⟨n - 1,by omega⟩
  rw [dW (zix l g fid ca hg done.length hi hl σ σ1 (by rw [hs]; exact w1 N hN))]
  exact w2 N n hN (by simp at hn; omega)
theorem Zn {S:aV} (hs1:has S zof=false) (hs2:has S Ox=false) (l:List (Hd × Co)) (g:D) (fid:Nat) (ca:List D) (hg:D.fn? g=some (fid,[],ca)) (hl:l.length < 1000000000) (J:Store→Prop) (na:Nat) (hc:∀ x∈l,∀ σ,J σ→∃ σ',J σ'∧∀ n,na≤n→W S n fid (dA x :: ca) σ=some (.ret ⟨false,.bool false⟩,σ')) (σ:Store) (hJ:J σ) :
  ∃ σ',J σ'∧∀ n,na + l.length + 3≤n→W S n Ox [dAs' l,g] σ=some (.ret ⟨false,.bool false⟩,σ'):=by
 obtain ⟨σ',j,w⟩:=Py l g fid ca hg hl J na hc l [] σ rfl hJ
 refine ⟨σ',j,fun n hn=>?_⟩
 obtain ⟨n,rfl⟩:∃ k,n=k + 2:=⟨n - 2,by omega⟩
 have w:=w n n (by omega) (by omega)
 have hln:=zae l
 simp only [qD,List.length_nil,bV] at w
 have h1:W S (n + 1) zof [dAs' l,g] σ=some (.ret ⟨false,.int .i64 (-1)⟩,σ'):=by
  rw [bC (af:=zea) hs1 rfl rfl]
  simp only [zea,sA,seval,kn,hln,w]
 have hge:¬ ((-1:Int) ≥ 0):=by omega
 rw [bC (af:=zd8) hs2 rfl rfl]
 simp only [zd8,sA,seval,kn,h1,hge]
def f00:Fd:=⟨[],0,0,0⟩
section
variable {C:aM} {n:Nat} {σ:Store}
def lE (l:List Fd) (g:D) (i:Nat):Env:={slots:=[(0,⟨false,dFs l⟩),(1,⟨false,g⟩),(7,⟨false,.int .i64 l.length⟩),(8,⟨false,.int .i64 i⟩)],locs:=[],boxes:=[],defers:=[]}
theorem zc2 (l:List Fd) (g:D) (fid:Nat) (ca:List D) (q:Fd→Bool) (hg:D.fn? g=some (fid,[],ca)) (i:Nat) (h:i < l.length) (hl:l.length < 1000000000) (h1:C fid (dF (l.getD i f00) :: ca) σ=some (.ret ⟨false,.bool (q (l.getD i f00))⟩,σ)) (hq:q (l.getD i f00)=false):exec C n none Jj (lE l g i) σ=some (.normal,lE l g (i + 1),σ):=by
 have hlt:((i:Int) < (l.length:Int)):=by omega
 have w:=aR (i:=i) (by omega)
 have hx:=Oi l i h
 rw [← cO l i f00 h] at hx
 rw [hq] at h1
 generalize l.getD i f00=f at hx h1
 simp only [dF] at hx h1
 simp only [Jj,lE,sA,seval,kn,rB,hlt,cL,hx,hg,h1,w]
theorem zc3 (l:List Fd) (g:D) (fid:Nat) (ca:List D) (q:Fd→Bool) (hg:D.fn? g=some (fid,[],ca)) (i:Nat) (h:i < l.length) (h1:C fid (dF (l.getD i f00) :: ca) σ=some (.ret ⟨false,.bool (q (l.getD i f00))⟩,σ)) (hq:q (l.getD i f00)=true):exec C n none Jj (lE l g i) σ=some (.ret,{slots:=[(4,⟨false,.int .i64 i⟩)],locs:=[],boxes:=[],defers:=[]},σ):=by
 have hlt:((i:Int) < (l.length:Int)):=by omega
 have hx:=Oi l i h
 rw [← cO l i f00 h] at hx
 rw [hq] at h1
 generalize l.getD i f00=f at hx h1
 simp only [dF] at hx h1
 simp only [Jj,lE,sA,seval,kn,rB,hlt,cL,hx,hg,h1]
theorem zio (l:List Fd) (g:D):exec C n none Jj (lE l g l.length) σ=some (.exit 0,{lE l g l.length with slots:=[(0,⟨false,dFs l⟩),(1,⟨false,g⟩),(7,⟨false,.int .i64 l.length⟩),(8,⟨false,.int .i64 l.length⟩),(9,⟨false,.bool false⟩)]},σ):=by
 have hlt:¬ ((l.length:Int) < (l.length:Int)):=by omega
 simp only [Jj,lE,sA,seval,kn,rB,hlt]
end
theorem zge {S:aV} (hs1:has S zog=false) (hs2:has S Wm=false) (N:Nat) (l:List Fd) (g:D) (fid:Nat) (ca:List D) (q:Fd→Bool) (hg:D.fn? g=some (fid,[],ca)) (hl:l.length < 1000000000) (hN:l.length < N) (σ:Store)
  (hc:∀ i,i < l.length→W S N fid (dF (l.getD i f00) :: ca) σ=some (.ret ⟨false,.bool (q (l.getD i f00))⟩,σ)):W S (N + 2) Wm [dFs l,g] σ=some (.ret ⟨false,.bool (l.any q)⟩,σ):=by
 have hr:=Bd (body:=exec (W S N) N none Jj) (lE l g) (fun _=>σ) l.length (fun i=>!(q (l.getD i f00))) (r:=_) (fun i=>(.ret,{slots:=[(4,⟨false,.int .i64 i⟩)],locs:=[],boxes:=[],defers:=[]},σ)) (fun _ _ h=>by cases h) (fun _ _ _ h=>by cases h) (fun i hi hq=>zc2 l g fid ca q hg i hi hl (hc i hi) (by simpa using hq)) (fun i hi hq=>zc3 l g fid ca q hg i hi (hc i hi) (by simpa using hq)) (zio l g) N 0 (Nat.zero_le _) (by omega)
 simp only [lE,bV] at hr
 have hv:∃ v:Int,W S (N + 1) zog [dFs l,g] σ=some (.ret ⟨false,.int .i64 v⟩,σ)∧(v ≥ 0↔l.any q=true):=by
  rcases hr with ⟨i,_,hi,hq,_,h⟩ | ⟨hq,h⟩
  ·refine ⟨i,?_,fun _=>?_,fun _=>by omega⟩
   ·rw [bC (af:=Zd) hs1 rfl rfl]
    simp only [Zd,sA,seval,kn,rB,h]
   ·rw [cO _ _ _ hi] at hq
    exact List.any_eq_true.2 ⟨_,List.getElem_mem hi,by simpa using hq⟩
  ·refine ⟨-1,?_,fun h=>by omega,fun ha=>?_⟩
   ·rw [bC (af:=Zd) hs1 rfl rfl]
    simp only [Zd,sA,seval,kn,rB,h]
   ·obtain ⟨x,hx,hxs⟩:=List.any_eq_true.1 ha
    obtain ⟨i,hi,rfl⟩:=List.getElem_of_mem hx
    have:=hq i (Nat.zero_le _) hi
    rw [cO _ _ _ hi,hxs] at this
    cases this
 obtain ⟨v,h1,h2⟩:=hv
 rw [bC (af:=Us) hs2 rfl rfl]
 cases hb:l.any q with
 | true =>
  have hv:v ≥ 0:=h2.2 hb
  simp only [Us,sA,seval,kn,h1,hv]
 | false =>
  have hv:¬ v ≥ 0:=fun h=>by rw [h2.1 h] at hb; cases hb
  simp only [Us,sA,seval,kn,h1,hv]
end Go.Fu

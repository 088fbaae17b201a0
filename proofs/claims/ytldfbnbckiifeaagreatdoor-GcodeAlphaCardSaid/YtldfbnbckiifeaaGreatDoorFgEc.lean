/-
 Names of combinators and fields; rows of which nothing is told.
-/
import Derived.Test.YtldfbnbckiifeaaGreatDoorFgDu
import Derived.Test.YtldfbnbckiifeaaGreatDoorFgCq
set_option maxHeartbeats 4000000
set_option linter.unusedSimpArgs false
set_option linter.unusedVariables false
set_option linter.unusedSectionVars false
namespace Go.Fu
open Go Go.Mx
set_option maxRecDepth 100000
set_option maxHeartbeats 4000000
def zbfb (n:Nat):Bool:=match nE Γa Ra Xa n false vR [.nils] {objs:=[],tys:=[],oth:=[],next:=0} with
 | some (.ret ⟨false,.bool false⟩,_)=>true
 | _=>false
theorem zsv:zbfb 30=true:=by kernel_rfl
theorem zqt:OkP vR [dSs []] ⟨false,.bool (lC [])⟩:=by
 intro σ
 have h:=zsv
 unfold zbfb at h
 split at h
 ·rename_i s hx
  exact Ja rfl ((Eh Γa_holds sE Hz 30).1 _ [.nils] σ0 _ _ hx) rfl rfl σ
 ·cases h
theorem zqs (l:List Tx) (hl:l.length < 1000000000):OkP vR [dSs l] ⟨false,.bool (lC l)⟩:=by
 by_cases h:l=[]
 ·subst h; exact zqt
 ·exact zl1 l hl h
def za8b:List D→Cell→Prop:=fun ds c=>∀ l,ds=[dSs l]→c=⟨false,.bool (lC l)⟩
theorem zpp {S:eD} (hS:dE S vR=some za8b) (l:List Tx) (hl:l.length < 1000000000) (n:Nat) (σ:Store):W S (n + 1) vR [dSs l] σ=some (.ret ⟨false,.bool (lC l)⟩,σ):=by
 obtain ⟨c,h1,h2⟩:=qS (S:=S) hS rfl (c:=⟨false,.bool (lC l)⟩) (fun l' e=>by
  simp only [aL,and_true] at e
  rw [jT e]) (zqs l hl)
 rw [h2,h1 l rfl]
theorem Gm (b:Su):dU b=.agg [.str b.name,dSs b.ps,.int .i64 b.body.f,.int .i64 b.body.n,.str b.body.s,.int .i64 0,.int .i64 0,.str [],.nils,kD b.body,bD b.body,aD b.body]:=rfl
def uZ:D:=.fn (.func Fg) [] []
def Ad:List D→Cell→Prop:=fun ds c=>∀ b:Su,ds=[dU b]→c=⟨false,.str b.name⟩
theorem zjy (b:Su):OkP Fg [dU b] ⟨false,.str b.name⟩:=by
 have hn:eB [dU b]=true:=by simp [eB,Jw]
 have hon:=jO b.body
 have hoS:=gW b.ps
 refine hU (af:=zf9) (n:=1) (σ':=σ0) (iT [] 1) rfl rfl hn rfl ?_
 simp only [zf9,Gm,sA,seval,kn,hon,hoS]
theorem zin {S:eD} (hS:dE S Fg=some Ad) (b:Su) (n:Nat) (σ:Store):T S (n + 1) Fg [dU b] σ=some (.ret ⟨false,.str b.name⟩,σ):=by
 obtain ⟨c,h1,h2⟩:=mX (S:=S) hS rfl (c:=⟨false,.str b.name⟩) (fun a h=>by
  simp only [aL,and_true] at h
  rw [Ol h]) (zjy b)
 rw [h2,h1 b rfl]
section
variable {C:dQ} {n:Nat} {σ:Store}
def uR (bs:List Su) (i:Nat):Env:={slots:=[(1,⟨false,uZ⟩),(5,⟨ow i,dSs ((bs.take i).map Su.name)⟩),(8,⟨false,dUs bs⟩),(9,⟨false,.int .i64 bs.length⟩),(10,⟨false,.int .i64 i⟩)],locs:=[],boxes:=[],defers:=[]}
theorem zmd (bs:List Su) (i:Nat) (h:i < bs.length) (hl:bs.length < 1000000000) (h1:∀ b σ,C Fg [dU b] σ=some (.ret ⟨false,.str b.name⟩,σ)):exec C n none zbd (uR bs i) σ=some (.normal,uR bs (i + 1),σ):=by
 have hlt:((i:Int) < (bs.length:Int)):=by omega
 have w:=dV (i:=i) (by omega)
 have hx:=Je bs i h
 have ha:=uG ((bs.take i).map Su.name) bs[i].name (ow i) (fun hne=>by
  cases i with
  | zero=>exact absurd rfl hne
  | succ i=>rfl) (by simp; omega)
 have e2:(bs.take i).map Su.name ++ [bs[i].name]=(bs.take (i + 1)).map Su.name:=by rw [← hZ bs i h,aU]; rfl
 rw [e2] at ha
 have h2:=h1 bs[i] σ
 have hfn:D.fn? uZ=some (Fg,[],[]):=rfl
 generalize bs[i]=b at hx ha h2
 have hon:=jO b.body
 have hoS:=gW b.ps
 rw [Gm] at hx h2
 simp only [zbd,uR,zQ,sA,seval,kn,hlt,fL,hx,hon,hoS,hfn,h2,ha,w,kK]
theorem zrf (bs:List Su):exec C n none zbd (uR bs bs.length) σ=some (.exit 0,{uR bs bs.length with slots:=[(1,⟨false,uZ⟩),(5,⟨ow bs.length,dSs ((bs.take bs.length).map Su.name)⟩),(8,⟨false,dUs bs⟩),(9,⟨false,.int .i64 bs.length⟩),(10,⟨false,.int .i64 bs.length⟩),(11,⟨false,.bool false⟩)]},σ):=by
 have hlt:¬ ((bs.length:Int) < (bs.length:Int)):=by omega
 simp only [zbd,uR,sA,seval,kn,hlt]
end
theorem zj3 (bs:List Su) (hl:bs.length < 300000000):OkP Zi [dUs bs,uZ] ⟨false,dSs (bs.map Su.name)⟩:=by
 refine OkP.weak (o:=ow bs.length) rfl (hU (af:=zf8) (n:=1000000000) (σ':=σ0) (iT [(Fg,Ad)] 1) rfl rfl (by simp [eB,qN,uZ,eT]) (fQ _) ?_)
 have h0:=iL (body:=exec (T [(Fg,Ad)] 1) 1000000000 none zbd) (fun i=>uR bs i) (fun _=>σ0) bs.length (r:=_) (fun _ _ h=>by cases h) (fun i hi=>zmd bs i hi (by omega) (fun x σ=>zin (S:=[(Fg,Ad)]) rfl x 0 σ)) (zrf bs) 0 1000000000 (by omega) (by omega)
 rw [aV] at h0
 have e0:(bs.take 0).map Su.name=[]:=rfl
 have e1:dSs []=.nils:=rfl
 have hln:=zQ bs
 simp only [uR,eR,e0,e1,oJ] at h0
 simp only [zf8,sA,seval,kn,hln,h0]
def zaw:List D→Cell→Prop:=fun ds c=>∀ bs:List Su,ds=[dUs bs,uZ]→c=⟨false,dSs (bs.map Su.name)⟩
theorem ztd {S:eD} (hS:dE S Zi=some zaw) (bs:List Su) (hl:bs.length < 300000000) (n:Nat) (σ:Store):W S (n + 1) Zi [dUs bs,uZ] σ=some (.ret ⟨false,dSs (bs.map Su.name)⟩,σ):=by
 obtain ⟨c,h1,h2⟩:=qS (S:=S) hS rfl (c:=⟨false,dSs (bs.map Su.name)⟩) (fun a h=>by
  simp only [aL,and_true] at h
  rw [zcd h]) (zj3 bs hl)
 rw [h2,h1 bs rfl]
theorem zn9 (b:Fd):dF b=.agg [.str b.name,.int .i64 b.tag,.int .i64 b.many,.int .i64 b.arity,.int .i64 0,.int .i64 0,.str [],.nils]:=rfl
def uY:D:=.fn (.func Ff) [] []
def Ac:List D→Cell→Prop:=fun ds c=>∀ b:Fd,ds=[dF b]→c=⟨false,.str b.name⟩
theorem zjx (b:Fd):OkP Ff [dF b] ⟨false,.str b.name⟩:=by
 have hn:eB [dF b]=true:=rfl
 refine hU (af:=zf4) (n:=1) (σ':=σ0) (iT [] 1) rfl rfl hn rfl ?_
 simp only [zf4,zn9,sA,seval,kn,fM]
theorem zim {S:eD} (hS:dE S Ff=some Ac) (b:Fd) (n:Nat) (σ:Store):T S (n + 1) Ff [dF b] σ=some (.ret ⟨false,.str b.name⟩,σ):=by
 obtain ⟨c,h1,h2⟩:=mX (S:=S) hS rfl (c:=⟨false,.str b.name⟩) (fun a h=>by
  simp only [aL,and_true] at h
  rw [zt5 h]) (zjx b)
 rw [h2,h1 b rfl]
section
variable {C:dQ} {n:Nat} {σ:Store}
def uQ (bs:List Fd) (i:Nat):Env:={slots:=[(1,⟨false,uY⟩),(5,⟨ow i,dSs ((bs.take i).map Fd.name)⟩),(8,⟨false,dFs bs⟩),(9,⟨false,.int .i64 bs.length⟩),(10,⟨false,.int .i64 i⟩)],locs:=[],boxes:=[],defers:=[]}
theorem zmc (bs:List Fd) (i:Nat) (h:i < bs.length) (hl:bs.length < 1000000000) (h1:∀ b σ,C Ff [dF b] σ=some (.ret ⟨false,.str b.name⟩,σ)):exec C n none zbc (uQ bs i) σ=some (.normal,uQ bs (i + 1),σ):=by
 have hlt:((i:Int) < (bs.length:Int)):=by omega
 have w:=dV (i:=i) (by omega)
 have hx:=Rx bs i h
 have ha:=uG ((bs.take i).map Fd.name) bs[i].name (ow i) (fun hne=>by
  cases i with
  | zero=>exact absurd rfl hne
  | succ i=>rfl) (by simp; omega)
 have e2:(bs.take i).map Fd.name ++ [bs[i].name]=(bs.take (i + 1)).map Fd.name:=by rw [← hZ bs i h,aU]; rfl
 rw [e2] at ha
 have h2:=h1 bs[i] σ
 have hfn:D.fn? uY=some (Ff,[],[]):=rfl
 generalize bs[i]=b at hx ha h2
 rw [zn9] at hx h2
 simp only [zbc,uQ,tY,sA,seval,kn,hlt,fL,hx,hfn,h2,ha,w,kK]
theorem zre (bs:List Fd):exec C n none zbc (uQ bs bs.length) σ=some (.exit 0,{uQ bs bs.length with slots:=[(1,⟨false,uY⟩),(5,⟨ow bs.length,dSs ((bs.take bs.length).map Fd.name)⟩),(8,⟨false,dFs bs⟩),(9,⟨false,.int .i64 bs.length⟩),(10,⟨false,.int .i64 bs.length⟩),(11,⟨false,.bool false⟩)]},σ):=by
 have hlt:¬ ((bs.length:Int) < (bs.length:Int)):=by omega
 simp only [zbc,uQ,sA,seval,kn,hlt]
end
theorem zj2 (bs:List Fd) (hl:bs.length < 300000000):OkP Zh [dFs bs,uY] ⟨false,dSs (bs.map Fd.name)⟩:=by
 refine OkP.weak (o:=ow bs.length) rfl (hU (af:=zf7) (n:=1000000000) (σ':=σ0) (iT [(Ff,Ac)] 1) rfl rfl (by simp [eB,Qb,uY,eT]) (fQ _) ?_)
 have h0:=iL (body:=exec (T [(Ff,Ac)] 1) 1000000000 none zbc) (fun i=>uQ bs i) (fun _=>σ0) bs.length (r:=_) (fun _ _ h=>by cases h) (fun i hi=>zmc bs i hi (by omega) (fun x σ=>zim (S:=[(Ff,Ac)]) rfl x 0 σ)) (zre bs) 0 1000000000 (by omega) (by omega)
 rw [aV] at h0
 have e0:(bs.take 0).map Fd.name=[]:=rfl
 have e1:dSs []=.nils:=rfl
 have hln:=tY bs
 simp only [uQ,eR,e0,e1,oJ] at h0
 simp only [zf7,sA,seval,kn,hln,h0]
def zav:List D→Cell→Prop:=fun ds c=>∀ bs:List Fd,ds=[dFs bs,uY]→c=⟨false,dSs (bs.map Fd.name)⟩
theorem ztc {S:eD} (hS:dE S Zh=some zav) (bs:List Fd) (hl:bs.length < 300000000) (n:Nat) (σ:Store):W S (n + 1) Zh [dFs bs,uY] σ=some (.ret ⟨false,dSs (bs.map Fd.name)⟩,σ):=by
 obtain ⟨c,h1,h2⟩:=qS (S:=S) hS rfl (c:=⟨false,dSs (bs.map Fd.name)⟩) (fun a h=>by
  simp only [aL,and_true] at h
  rw [zb2b h]) (zj2 bs hl)
 rw [h2,h1 bs rfl]
section
variable {C:dQ} {n:Nat}
def pA (l:List (Su)) (g:D) (i:Nat):Env:={slots:=[(0,⟨false,dUs l⟩),(1,⟨false,g⟩),(7,⟨false,.int .i64 l.length⟩),(8,⟨false,.int .i64 i⟩)],locs:=[],boxes:=[],defers:=[]}
theorem zeo (l:List (Su)) (g:D) (fid:Nat) (ca:List D) (hg:D.fn? g=some (fid,[],ca)) (i:Nat) (h:i < l.length) (hl:l.length < 1000000000) (σ σ':Store) (h1:C fid (dU l[i] :: ca) σ=some (.ret ⟨false,.bool false⟩,σ')):exec C n none zb1 (pA l g i) σ=some (.normal,pA l g (i + 1),σ'):=by
 have hlt:((i:Int) < (l.length:Int)):=by omega
 have w:=dV (i:=i) (by omega)
 have hx:=Je l i h
 have hln:=zQ l
 generalize l[i]=x at hx h1
 have hon:=jO x.body
 have hoS:=gW x.ps
 rw [Gm] at hx h1
 simp only [zb1,pA,sA,seval,kn,hln,hlt,fL,hx,hon,hoS,hg,h1,w]
theorem ziu (l:List (Su)) (g:D) (σ:Store):exec C n none zb1 (pA l g l.length) σ=some (.exit 0,{pA l g l.length with slots:=[(0,⟨false,dUs l⟩),(1,⟨false,g⟩),(7,⟨false,.int .i64 l.length⟩),(8,⟨false,.int .i64 l.length⟩),(9,⟨false,.bool false⟩)]},σ):=by
 have hlt:¬ ((l.length:Int) < (l.length:Int)):=by omega
 have hln:=zQ l
 simp only [zb1,pA,sA,seval,kn,hln,hlt]
end
theorem Lp {S:eD} (l:List (Su)) (g:D) (fid:Nat) (ca:List D) (hg:D.fn? g=some (fid,[],ca)) (hl:l.length < 1000000000) (J:Store→Prop) (na:Nat) (hc:∀ x∈l,∀ σ,J σ→∃ σ',J σ'∧∀ n,na≤n→W S n fid (dU x :: ca) σ=some (.ret ⟨false,.bool false⟩,σ')):∀ (rest done:List (Su)) (σ:Store),l=done ++ rest→J σ →
  ∃ σ',J σ'∧∀ N n,na≤N→rest.length < n→gU (exec (W S N) N none zb1) n (pA l g done.length) σ=some (.exit 0,{pA l g l.length with slots:=[(0,⟨false,dUs l⟩),(1,⟨false,g⟩),(7,⟨false,.int .i64 l.length⟩),(8,⟨false,.int .i64 l.length⟩),(9,⟨false,.bool false⟩)]},σ')
 | [],done,σ,hd,hJ=>by
  refine ⟨σ,hJ,fun N n _ hn=>?_⟩
  obtain ⟨n,rfl⟩:∃ k,n=k + 1:=⟨n - 1,by omega⟩
  have e:done.length=l.length:=by rw [hd]; simp
  rw [e]
  exact kT (ziu l g σ)
 | x :: rest,done,σ,hd,hJ=>by
  have hi:done.length < l.length:=by rw [hd]; simp
  have hs:l[done.length]=x:=by
   have:∀ (l:List (Su)) (hl:l=done ++ x :: rest) (hi:done.length < l.length),l[done.length]=x:=fun l hl hi=>by subst hl; simp
   exact this _ hd hi
  obtain ⟨σ1,j1,w1⟩:=hc x (by rw [hd]; simp) σ hJ
  obtain ⟨σ2,j2,w2⟩:=Lp l g fid ca hg hl J na hc rest (done ++ [x]) σ1 (by rw [hd]; simp) j1
  simp only [aF,aG,aH,aN] at w2
  refine ⟨σ2,j2,fun N n hN hn=>?_⟩
  obtain ⟨n,rfl⟩:∃ k,n=k + 1:=⟨n - 1,by omega⟩
  rw [iJ (zeo l g fid ca hg done.length hi hl σ σ1 (by rw [hs]; exact w1 N hN))]
  exact w2 N n hN (by simp at hn; omega)
theorem zdr {S:eD} (hs1:has S zrm=false) (hs2:has S zhr=false) (l:List (Su)) (g:D) (fid:Nat) (ca:List D) (hg:D.fn? g=some (fid,[],ca)) (hl:l.length < 1000000000) (J:Store→Prop) (na:Nat) (hc:∀ x∈l,∀ σ,J σ→∃ σ',J σ'∧∀ n,na≤n→W S n fid (dU x :: ca) σ=some (.ret ⟨false,.bool false⟩,σ')) (σ:Store) (hJ:J σ) :
  ∃ σ',J σ'∧∀ n,na + l.length + 3≤n→W S n zhr [dUs l,g] σ=some (.ret ⟨false,.bool false⟩,σ'):=by
 obtain ⟨σ',j,w⟩:=Lp l g fid ca hg hl J na hc l [] σ rfl hJ
 refine ⟨σ',j,fun n hn=>?_⟩
 obtain ⟨n,rfl⟩:∃ k,n=k + 2:=⟨n - 2,by omega⟩
 have w:=w n n (by omega) (by omega)
 have hln:=zQ l
 simp only [pA,aH,eR] at w
 have h1:W S (n + 1) zrm [dUs l,g] σ=some (.ret ⟨false,.int .i64 (-1)⟩,σ'):=by
  rw [eH (af:=zgu) hs1 rfl rfl]
  simp only [zgu,sA,seval,kn,hln,w]
 have hge:¬ ((-1:Int) ≥ 0):=by omega
 rw [eH (af:=zgs) hs2 rfl rfl]
 simp only [zgs,sA,seval,kn,h1,hge]
def dAs' (l:List (Hd × Co)):D:=eJ k_4 (l.map dA)
theorem zckb (l:List (Hd × Co)) (i:Nat) (h:i < l.length):iD 14 (dAs' l) i=some (.eptr (dA l[i])):=mL rfl dA _ i h
theorem zcp (l:List (Hd × Co)):lenOf (dAs' l)=some l.length:=mM _ l
section
variable {C:dQ} {n:Nat}
def sX (l:List (Hd × Co)) (g:D) (i:Nat):Env:={slots:=[(0,⟨false,dAs' l⟩),(1,⟨false,g⟩),(7,⟨false,.int .i64 l.length⟩),(8,⟨false,.int .i64 i⟩)],locs:=[],boxes:=[],defers:=[]}
theorem zlm (l:List (Hd × Co)) (g:D) (fid:Nat) (ca:List D) (hg:D.fn? g=some (fid,[],ca)) (i:Nat) (h:i < l.length) (hl:l.length < 1000000000) (σ σ':Store) (h1:C fid (dA l[i] :: ca) σ=some (.ret ⟨false,.bool false⟩,σ')):exec C n none zbz (sX l g i) σ=some (.normal,sX l g (i + 1),σ'):=by
 have hlt:((i:Int) < (l.length:Int)):=by omega
 have w:=dV (i:=i) (by omega)
 have hx:=zckb l i h
 have hln:=zcp l
 generalize l[i]=x at hx h1
 have hon:=jO x.2
 have hoS:=gW x.1.vars
 rw [pD] at hx h1
 simp only [zbz,sX,sA,seval,kn,hln,hlt,fL,hx,hon,hoS,hg,h1,w]
theorem zqd (l:List (Hd × Co)) (g:D) (σ:Store):exec C n none zbz (sX l g l.length) σ=some (.exit 0,{sX l g l.length with slots:=[(0,⟨false,dAs' l⟩),(1,⟨false,g⟩),(7,⟨false,.int .i64 l.length⟩),(8,⟨false,.int .i64 l.length⟩),(9,⟨false,.bool false⟩)]},σ):=by
 have hlt:¬ ((l.length:Int) < (l.length:Int)):=by omega
 have hln:=zcp l
 simp only [zbz,sX,sA,seval,kn,hln,hlt]
end
theorem Uf {S:eD} (l:List (Hd × Co)) (g:D) (fid:Nat) (ca:List D) (hg:D.fn? g=some (fid,[],ca)) (hl:l.length < 1000000000) (J:Store→Prop) (na:Nat) (hc:∀ x∈l,∀ σ,J σ→∃ σ',J σ'∧∀ n,na≤n→W S n fid (dA x :: ca) σ=some (.ret ⟨false,.bool false⟩,σ')):∀ (rest done:List (Hd × Co)) (σ:Store),l=done ++ rest→J σ →
  ∃ σ',J σ'∧∀ N n,na≤N→rest.length < n→gU (exec (W S N) N none zbz) n (sX l g done.length) σ=some (.exit 0,{sX l g l.length with slots:=[(0,⟨false,dAs' l⟩),(1,⟨false,g⟩),(7,⟨false,.int .i64 l.length⟩),(8,⟨false,.int .i64 l.length⟩),(9,⟨false,.bool false⟩)]},σ')
 | [],done,σ,hd,hJ=>by
  refine ⟨σ,hJ,fun N n _ hn=>?_⟩
  obtain ⟨n,rfl⟩:∃ k,n=k + 1:=⟨n - 1,by omega⟩
  have e:done.length=l.length:=by rw [hd]; simp
  rw [e]
  exact kT (zqd l g σ)
 | x :: rest,done,σ,hd,hJ=>by
  have hi:done.length < l.length:=by rw [hd]; simp
  have hs:l[done.length]=x:=by
   have:∀ (l:List (Hd × Co)) (hl:l=done ++ x :: rest) (hi:done.length < l.length),l[done.length]=x:=fun l hl hi=>by subst hl; simp
   exact this _ hd hi
  obtain ⟨σ1,j1,w1⟩:=hc x (by rw [hd]; simp) σ hJ
  obtain ⟨σ2,j2,w2⟩:=Uf l g fid ca hg hl J na hc rest (done ++ [x]) σ1 (by rw [hd]; simp) j1
  simp only [aF,aG,aH,aN] at w2
  refine ⟨σ2,j2,fun N n hN hn=>?_⟩
  obtain ⟨n,rfl⟩:∃ k,n=k + 1:=⟨n - 1,by omega⟩
  rw [iJ (zlm l g fid ca hg done.length hi hl σ σ1 (by rw [hs]; exact w1 N hN))]
  exact w2 N n hN (by simp at hn; omega)
theorem zb9 {S:eD} (hs1:has S zrk=false) (hs2:has S Tf=false) (l:List (Hd × Co)) (g:D) (fid:Nat) (ca:List D) (hg:D.fn? g=some (fid,[],ca)) (hl:l.length < 1000000000) (J:Store→Prop) (na:Nat) (hc:∀ x∈l,∀ σ,J σ→∃ σ',J σ'∧∀ n,na≤n→W S n fid (dA x :: ca) σ=some (.ret ⟨false,.bool false⟩,σ')) (σ:Store) (hJ:J σ) :
  ∃ σ',J σ'∧∀ n,na + l.length + 3≤n→W S n Tf [dAs' l,g] σ=some (.ret ⟨false,.bool false⟩,σ'):=by
 obtain ⟨σ',j,w⟩:=Uf l g fid ca hg hl J na hc l [] σ rfl hJ
 refine ⟨σ',j,fun n hn=>?_⟩
 obtain ⟨n,rfl⟩:∃ k,n=k + 2:=⟨n - 2,by omega⟩
 have w:=w n n (by omega) (by omega)
 have hln:=zcp l
 simp only [sX,aH,eR] at w
 have h1:W S (n + 1) zrk [dAs' l,g] σ=some (.ret ⟨false,.int .i64 (-1)⟩,σ'):=by
  rw [eH (af:=zgt) hs1 rfl rfl]
  simp only [zgt,sA,seval,kn,hln,w]
 have hge:¬ ((-1:Int) ≥ 0):=by omega
 rw [eH (af:=zgr) hs2 rfl rfl]
 simp only [zgr,sA,seval,kn,h1,hge]
def f00:Fd:=⟨[],0,0,0⟩
section
variable {C:dQ} {n:Nat} {σ:Store}
def nX (l:List Fd) (g:D) (i:Nat):Env:={slots:=[(0,⟨false,dFs l⟩),(1,⟨false,g⟩),(7,⟨false,.int .i64 l.length⟩),(8,⟨false,.int .i64 i⟩)],locs:=[],boxes:=[],defers:=[]}
theorem zfk (l:List Fd) (g:D) (fid:Nat) (ca:List D) (q:Fd→Bool) (hg:D.fn? g=some (fid,[],ca)) (i:Nat) (h:i < l.length) (hl:l.length < 1000000000) (h1:C fid (dF (l.getD i f00) :: ca) σ=some (.ret ⟨false,.bool (q (l.getD i f00))⟩,σ)) (hq:q (l.getD i f00)=false):exec C n none Nz (nX l g i) σ=some (.normal,nX l g (i + 1),σ):=by
 have hlt:((i:Int) < (l.length:Int)):=by omega
 have w:=dV (i:=i) (by omega)
 have hx:=Rx l i h
 rw [← eY l i f00 h] at hx
 rw [hq] at h1
 generalize l.getD i f00=f at hx h1
 simp only [dF] at hx h1
 simp only [Nz,nX,sA,seval,kn,tY,hlt,fL,hx,hg,h1,w]
theorem zfl (l:List Fd) (g:D) (fid:Nat) (ca:List D) (q:Fd→Bool) (hg:D.fn? g=some (fid,[],ca)) (i:Nat) (h:i < l.length) (h1:C fid (dF (l.getD i f00) :: ca) σ=some (.ret ⟨false,.bool (q (l.getD i f00))⟩,σ)) (hq:q (l.getD i f00)=true):exec C n none Nz (nX l g i) σ=some (.ret,{slots:=[(4,⟨false,.int .i64 i⟩)],locs:=[],boxes:=[],defers:=[]},σ):=by
 have hlt:((i:Int) < (l.length:Int)):=by omega
 have hx:=Rx l i h
 rw [← eY l i f00 h] at hx
 rw [hq] at h1
 generalize l.getD i f00=f at hx h1
 simp only [dF] at hx h1
 simp only [Nz,nX,sA,seval,kn,tY,hlt,fL,hx,hg,h1]
theorem zld (l:List Fd) (g:D):exec C n none Nz (nX l g l.length) σ=some (.exit 0,{nX l g l.length with slots:=[(0,⟨false,dFs l⟩),(1,⟨false,g⟩),(7,⟨false,.int .i64 l.length⟩),(8,⟨false,.int .i64 l.length⟩),(9,⟨false,.bool false⟩)]},σ):=by
 have hlt:¬ ((l.length:Int) < (l.length:Int)):=by omega
 simp only [Nz,nX,sA,seval,kn,tY,hlt]
end
theorem zix {S:eD} (hs1:has S zrl=false) (hs2:has S Zr=false) (N:Nat) (l:List Fd) (g:D) (fid:Nat) (ca:List D) (q:Fd→Bool) (hg:D.fn? g=some (fid,[],ca)) (hl:l.length < 1000000000) (hN:l.length < N) (σ:Store)
  (hc:∀ i,i < l.length→W S N fid (dF (l.getD i f00) :: ca) σ=some (.ret ⟨false,.bool (q (l.getD i f00))⟩,σ)):W S (N + 2) Zr [dFs l,g] σ=some (.ret ⟨false,.bool (l.any q)⟩,σ):=by
 have hr:=xN (body:=exec (W S N) N none Nz) (nX l g) (fun _=>σ) l.length (fun i=>!(q (l.getD i f00))) (r:=_) (fun i=>(.ret,{slots:=[(4,⟨false,.int .i64 i⟩)],locs:=[],boxes:=[],defers:=[]},σ)) (fun _ _ h=>by cases h) (fun _ _ _ h=>by cases h) (fun i hi hq=>zfk l g fid ca q hg i hi hl (hc i hi) (by simpa using hq)) (fun i hi hq=>zfl l g fid ca q hg i hi (hc i hi) (by simpa using hq)) (zld l g) N 0 (Nat.zero_le _) (by omega)
 simp only [nX,eR] at hr
 have hv:∃ v:Int,W S (N + 1) zrl [dFs l,g] σ=some (.ret ⟨false,.int .i64 v⟩,σ)∧(v ≥ 0↔l.any q=true):=by
  rcases hr with ⟨i,_,hi,hq,_,h⟩ | ⟨hq,h⟩
  ·refine ⟨i,?_,fun _=>?_,fun _=>by omega⟩
   ·rw [eH (af:=zb0) hs1 rfl rfl]
    simp only [zb0,sA,seval,kn,tY,h]
   ·rw [eY _ _ _ hi] at hq
    exact List.any_eq_true.2 ⟨_,aX hi,by simpa using hq⟩
  ·refine ⟨-1,?_,fun h=>by omega,fun ha=>?_⟩
   ·rw [eH (af:=zb0) hs1 rfl rfl]
    simp only [zb0,sA,seval,kn,tY,h]
   ·obtain ⟨x,hx,hxs⟩:=List.any_eq_true.1 ha
    obtain ⟨i,hi,rfl⟩:=List.getElem_of_mem hx
    have:=hq i (Nat.zero_le _) hi
    rw [eY _ _ _ hi,hxs] at this
    cases this
 obtain ⟨v,h1,h2⟩:=hv
 rw [eH (af:=Yd) hs2 rfl rfl]
 cases hb:l.any q with
 | true =>
  have hv:v ≥ 0:=h2.2 hb
  simp only [Yd,sA,seval,kn,h1,hv]
 | false =>
  have hv:¬ v ≥ 0:=fun h=>by rw [h2.1 h] at hb; cases hb
  simp only [Yd,sA,seval,kn,h1,hv]
end Go.Fu

/-
 Names of combinators and fields; rows of which nothing is told.
-/
import Derived.Test.YtldfbnbckiifeaaGreatDoorFgDu
import Derived.Test.YtldfbnbckiifeaaGreatDoorFgCq
set_option maxHeartbeats 4000000
set_option linter.unusedSimpArgs false
set_option linter.unusedVariables false
set_option linter.unusedSectionVars false
namespace Go.Fu
open Go Go.Mx
set_option maxRecDepth 100000
set_option maxHeartbeats 4000000
def twNil (n:Nat):Bool:=match runQ Γa Ra Xa n false n_24 [.nils] {objs:=[],tys:=[],oth:=[],next:=0} with
 | some (.ret ⟨false,.bool false⟩,_)=>true
 | _=>false
theorem zfob:twNil 30=true:=by kernel_rfl
theorem zebb:OkP n_24 [dSs []] ⟨false,.bool (zc5 [])⟩:=by
 intro σ
 have h:=zfob
 unfold twNil at h
 split at h
 ·rename_i s hx
  exact zm9 rfl ((zle Γa_holds zf1 zmu 30).1 _ [.nils] σ0 _ _ hx) rfl rfl σ
 ·cases h
theorem zeab (l:List Tx) (hl:l.length < 1000000000):OkP n_24 [dSs l] ⟨false,.bool (zc5 l)⟩:=by
 by_cases h:l=[]
 ·subst h; exact zebb
 ·exact zadb l hl h
def sp_tw:List D→Cell→Prop:=fun ds c=>∀ l,ds=[dSs l]→c=⟨false,.bool (zc5 l)⟩
theorem W_tw {S:Specs} (hS:aget S n_24=some sp_tw) (l:List Tx) (hl:l.length < 1000000000) (n:Nat) (σ:Store):W S (n + 1) n_24 [dSs l] σ=some (.ret ⟨false,.bool (zc5 l)⟩,σ):=by
 obtain ⟨c,h1,h2⟩:=W_orc (S:=S) hS rfl (c:=⟨false,.bool (zc5 l)⟩) (fun l' e=>by
  simp only [List.cons.injEq,and_true] at e
  rw [zcy e]) (zeab l hl)
 rw [h2,h1 l rfl]
theorem zl2 (b:Su):dU b=.agg [.str b.name,dSs b.ps,.int .i64 b.body.f,.int .i64 b.body.n,.str b.body.s,.int .i64 0,.int .i64 0,.str [],.nils,kD b.body,bD b.body,aD b.body]:=rfl
def zhb:D:=.fn (.func n_40) [] []
def zjl:List D→Cell→Prop:=fun ds c=>∀ b:Su,ds=[dU b]→c=⟨false,.str b.name⟩
theorem zyf (b:Su):OkP n_40 [dU b] ⟨false,.str b.name⟩:=by
 have hn:zam [dU b]=true:=by simp [zam,znj]
 have hon:=oneD b.body
 have hoS:=zba b.ps
 refine zbv (af:=a_151) (n:=1) (σ':=σ0) (zb5 [] 1) rfl rfl hn rfl ?_
 simp only [a_151,zl2,sA,seval,kn,hon,hoS]
theorem zw5 {S:Specs} (hS:aget S n_40=some zjl) (b:Su) (n:Nat) (σ:Store):T S (n + 1) n_40 [dU b] σ=some (.ret ⟨false,.str b.name⟩,σ):=by
 obtain ⟨c,h1,h2⟩:=T_orc (S:=S) hS rfl (c:=⟨false,.str b.name⟩) (fun a h=>by
  simp only [List.cons.injEq,and_true] at h
  rw [zou h]) (zyf b)
 rw [h2,h1 b rfl]
section
variable {C:CallF} {n:Nat} {σ:Store}
def zg2 (bs:List Su) (i:Nat):Env:={slots:=[(1,⟨false,zhb⟩),(5,⟨ow i,dSs ((bs.take i).map Su.name)⟩),(8,⟨false,dUs bs⟩),(9,⟨false,.int .i64 bs.length⟩),(10,⟨false,.int .i64 i⟩)],locs:=[],boxes:=[],defers:=[]}
theorem zapb (bs:List Su) (i:Nat) (h:i < bs.length) (hl:bs.length < 1000000000) (h1:∀ b σ,C n_40 [dU b] σ=some (.ret ⟨false,.str b.name⟩,σ)):exec C n none a_77 (zg2 bs i) σ=some (.normal,zg2 bs (i + 1),σ):=by
 have hlt:((i:Int) < (bs.length:Int)):=by omega
 have w:=zak (i:=i) (by omega)
 have hx:=idx_U bs i h
 have ha:=zhx ((bs.take i).map Su.name) bs[i].name (ow i) (fun hne=>by
  cases i with
  | zero=>exact absurd rfl hne
  | succ i=>rfl) (by simp; omega)
 have e2:(bs.take i).map Su.name ++ [bs[i].name]=(bs.take (i + 1)).map Su.name:=by rw [← zb3 bs i h,List.map_append]; rfl
 rw [e2] at ha
 have h2:=h1 bs[i] σ
 have hfn:D.fn? zhb=some (n_40,[],[]):=rfl
 generalize bs[i]=b at hx ha h2
 have hon:=oneD b.body
 have hoS:=zba b.ps
 rw [zl2] at hx h2
 simp only [a_77,zg2,len_U,sA,seval,kn,hlt,natI,hx,hon,hoS,hfn,h2,ha,w,zdx]
theorem zetb (bs:List Su):exec C n none a_77 (zg2 bs bs.length) σ=some (.exit 0,{zg2 bs bs.length with slots:=[(1,⟨false,zhb⟩),(5,⟨ow bs.length,dSs ((bs.take bs.length).map Su.name)⟩),(8,⟨false,dUs bs⟩),(9,⟨false,.int .i64 bs.length⟩),(10,⟨false,.int .i64 bs.length⟩),(11,⟨false,.bool false⟩)]},σ):=by
 have hlt:¬ ((bs.length:Int) < (bs.length:Int)):=by omega
 simp only [a_77,zg2,sA,seval,kn,hlt]
end
theorem zyi (bs:List Su) (hl:bs.length < 300000000):OkP n_119 [dUs bs,zhb] ⟨false,dSs (bs.map Su.name)⟩:=by
 refine OkP.weak (o:=ow bs.length) rfl (zbv (af:=a_149) (n:=1000000000) (σ':=σ0) (zb5 [(n_40,zjl)] 1) rfl rfl (by simp [zam,zhc,zhb,noPtr]) (za6 _) ?_)
 have h0:=zcj (body:=exec (T [(n_40,zjl)] 1) 1000000000 none a_77) (fun i=>zg2 bs i) (fun _=>σ0) bs.length (r:=_) (fun _ _ h=>by cases h) (fun i hi=>zapb bs i hi (by omega) (fun x σ=>zw5 (S:=[(n_40,zjl)]) rfl x 0 σ)) (zetb bs) 0 1000000000 (by omega) (by omega)
 rw [List.take_length] at h0
 have e0:(bs.take 0).map Su.name=[]:=rfl
 have e1:dSs []=.nils:=rfl
 have hln:=len_U bs
 simp only [zg2,zeroI,e0,e1,zjs] at h0
 simp only [a_149,sA,seval,kn,hln,h0]
def ztf:List D→Cell→Prop:=fun ds c=>∀ bs:List Su,ds=[dUs bs,zhb]→c=⟨false,dSs (bs.map Su.name)⟩
theorem zf3b {S:Specs} (hS:aget S n_119=some ztf) (bs:List Su) (hl:bs.length < 300000000) (n:Nat) (σ:Store):W S (n + 1) n_119 [dUs bs,zhb] σ=some (.ret ⟨false,dSs (bs.map Su.name)⟩,σ):=by
 obtain ⟨c,h1,h2⟩:=W_orc (S:=S) hS rfl (c:=⟨false,dSs (bs.map Su.name)⟩) (fun a h=>by
  simp only [List.cons.injEq,and_true] at h
  rw [zclb h]) (zyi bs hl)
 rw [h2,h1 bs rfl]
theorem zcib (b:Fd):dF b=.agg [.str b.name,.int .i64 b.tag,.int .i64 b.many,.int .i64 b.arity,.int .i64 0,.int .i64 0,.str [],.nils]:=rfl
def zha:D:=.fn (.func n_39) [] []
def zjk:List D→Cell→Prop:=fun ds c=>∀ b:Fd,ds=[dF b]→c=⟨false,.str b.name⟩
theorem zye (b:Fd):OkP n_39 [dF b] ⟨false,.str b.name⟩:=by
 have hn:zam [dF b]=true:=rfl
 refine zbv (af:=a_145) (n:=1) (σ':=σ0) (zb5 [] 1) rfl rfl hn rfl ?_
 simp only [a_145,zcib,sA,seval,kn,zaz]
theorem zw4 {S:Specs} (hS:aget S n_39=some zjk) (b:Fd) (n:Nat) (σ:Store):T S (n + 1) n_39 [dF b] σ=some (.ret ⟨false,.str b.name⟩,σ):=by
 obtain ⟨c,h1,h2⟩:=T_orc (S:=S) hS rfl (c:=⟨false,.str b.name⟩) (fun a h=>by
  simp only [List.cons.injEq,and_true] at h
  rw [zgub h]) (zye b)
 rw [h2,h1 b rfl]
section
variable {C:CallF} {n:Nat} {σ:Store}
def zg1 (bs:List Fd) (i:Nat):Env:={slots:=[(1,⟨false,zha⟩),(5,⟨ow i,dSs ((bs.take i).map Fd.name)⟩),(8,⟨false,dFs bs⟩),(9,⟨false,.int .i64 bs.length⟩),(10,⟨false,.int .i64 i⟩)],locs:=[],boxes:=[],defers:=[]}
theorem zaob (bs:List Fd) (i:Nat) (h:i < bs.length) (hl:bs.length < 1000000000) (h1:∀ b σ,C n_39 [dF b] σ=some (.ret ⟨false,.str b.name⟩,σ)):exec C n none a_76 (zg1 bs i) σ=some (.normal,zg1 bs (i + 1),σ):=by
 have hlt:((i:Int) < (bs.length:Int)):=by omega
 have w:=zak (i:=i) (by omega)
 have hx:=idx_F bs i h
 have ha:=zhx ((bs.take i).map Fd.name) bs[i].name (ow i) (fun hne=>by
  cases i with
  | zero=>exact absurd rfl hne
  | succ i=>rfl) (by simp; omega)
 have e2:(bs.take i).map Fd.name ++ [bs[i].name]=(bs.take (i + 1)).map Fd.name:=by rw [← zb3 bs i h,List.map_append]; rfl
 rw [e2] at ha
 have h2:=h1 bs[i] σ
 have hfn:D.fn? zha=some (n_39,[],[]):=rfl
 generalize bs[i]=b at hx ha h2
 rw [zcib] at hx h2
 simp only [a_76,zg1,len_F,sA,seval,kn,hlt,natI,hx,hfn,h2,ha,w,zdx]
theorem zesb (bs:List Fd):exec C n none a_76 (zg1 bs bs.length) σ=some (.exit 0,{zg1 bs bs.length with slots:=[(1,⟨false,zha⟩),(5,⟨ow bs.length,dSs ((bs.take bs.length).map Fd.name)⟩),(8,⟨false,dFs bs⟩),(9,⟨false,.int .i64 bs.length⟩),(10,⟨false,.int .i64 bs.length⟩),(11,⟨false,.bool false⟩)]},σ):=by
 have hlt:¬ ((bs.length:Int) < (bs.length:Int)):=by omega
 simp only [a_76,zg1,sA,seval,kn,hlt]
end
theorem zyh (bs:List Fd) (hl:bs.length < 300000000):OkP n_118 [dFs bs,zha] ⟨false,dSs (bs.map Fd.name)⟩:=by
 refine OkP.weak (o:=ow bs.length) rfl (zbv (af:=a_148) (n:=1000000000) (σ':=σ0) (zb5 [(n_39,zjk)] 1) rfl rfl (by simp [zam,zpd,zha,noPtr]) (za6 _) ?_)
 have h0:=zcj (body:=exec (T [(n_39,zjk)] 1) 1000000000 none a_76) (fun i=>zg1 bs i) (fun _=>σ0) bs.length (r:=_) (fun _ _ h=>by cases h) (fun i hi=>zaob bs i hi (by omega) (fun x σ=>zw4 (S:=[(n_39,zjk)]) rfl x 0 σ)) (zesb bs) 0 1000000000 (by omega) (by omega)
 rw [List.take_length] at h0
 have e0:(bs.take 0).map Fd.name=[]:=rfl
 have e1:dSs []=.nils:=rfl
 have hln:=len_F bs
 simp only [zg1,zeroI,e0,e1,zjs] at h0
 simp only [a_148,sA,seval,kn,hln,h0]
def zte:List D→Cell→Prop:=fun ds c=>∀ bs:List Fd,ds=[dFs bs,zha]→c=⟨false,dSs (bs.map Fd.name)⟩
theorem zf2b {S:Specs} (hS:aget S n_118=some zte) (bs:List Fd) (hl:bs.length < 300000000) (n:Nat) (σ:Store):W S (n + 1) n_118 [dFs bs,zha] σ=some (.ret ⟨false,dSs (bs.map Fd.name)⟩,σ):=by
 obtain ⟨c,h1,h2⟩:=W_orc (S:=S) hS rfl (c:=⟨false,dSs (bs.map Fd.name)⟩) (fun a h=>by
  simp only [List.cons.injEq,and_true] at h
  rw [zmdb h]) (zyh bs hl)
 rw [h2,h1 bs rfl]
section
variable {C:CallF} {n:Nat}
def zen (l:List (Su)) (g:D) (i:Nat):Env:={slots:=[(0,⟨false,dUs l⟩),(1,⟨false,g⟩),(7,⟨false,.int .i64 l.length⟩),(8,⟨false,.int .i64 i⟩)],locs:=[],boxes:=[],defers:=[]}
theorem zvv (l:List (Su)) (g:D) (fid:Nat) (ca:List D) (hg:D.fn? g=some (fid,[],ca)) (i:Nat) (h:i < l.length) (hl:l.length < 1000000000) (σ σ':Store) (h1:C fid (dU l[i] :: ca) σ=some (.ret ⟨false,.bool false⟩,σ')):exec C n none a_94 (zen l g i) σ=some (.normal,zen l g (i + 1),σ'):=by
 have hlt:((i:Int) < (l.length:Int)):=by omega
 have w:=zak (i:=i) (by omega)
 have hx:=idx_U l i h
 have hln:=len_U l
 generalize l[i]=x at hx h1
 have hon:=oneD x.body
 have hoS:=zba x.ps
 rw [zl2] at hx h1
 simp only [a_94,zen,sA,seval,kn,hln,hlt,natI,hx,hon,hoS,hg,h1,w]
theorem zxa (l:List (Su)) (g:D) (σ:Store):exec C n none a_94 (zen l g l.length) σ=some (.exit 0,{zen l g l.length with slots:=[(0,⟨false,dUs l⟩),(1,⟨false,g⟩),(7,⟨false,.int .i64 l.length⟩),(8,⟨false,.int .i64 l.length⟩),(9,⟨false,.bool false⟩)]},σ):=by
 have hlt:¬ ((l.length:Int) < (l.length:Int)):=by omega
 have hln:=len_U l
 simp only [a_94,zen,sA,seval,kn,hln,hlt]
end
theorem zn8 {S:Specs} (l:List (Su)) (g:D) (fid:Nat) (ca:List D) (hg:D.fn? g=some (fid,[],ca)) (hl:l.length < 1000000000) (J:Store→Prop) (na:Nat) (hc:∀ x∈l,∀ σ,J σ→∃ σ',J σ'∧∀ n,na≤n→W S n fid (dU x :: ca) σ=some (.ret ⟨false,.bool false⟩,σ')):∀ (rest done:List (Su)) (σ:Store),l=done ++ rest→J σ →
  ∃ σ',J σ'∧∀ N n,na≤N→rest.length < n→loopN (exec (W S N) N none a_94) n (zen l g done.length) σ=some (.exit 0,{zen l g l.length with slots:=[(0,⟨false,dUs l⟩),(1,⟨false,g⟩),(7,⟨false,.int .i64 l.length⟩),(8,⟨false,.int .i64 l.length⟩),(9,⟨false,.bool false⟩)]},σ')
 | [],done,σ,hd,hJ=>by
  refine ⟨σ,hJ,fun N n _ hn=>?_⟩
  obtain ⟨n,rfl⟩:∃ k,n=k + 1:=⟨n - 1,by omega⟩
  have e:done.length=l.length:=by rw [hd]; simp
  rw [e]
  exact zcr (zxa l g σ)
 | x :: rest,done,σ,hd,hJ=>by
  have hi:done.length < l.length:=by rw [hd]; simp
  have hs:l[done.length]=x:=by
   have:∀ (l:List (Su)) (hl:l=done ++ x :: rest) (hi:done.length < l.length),l[done.length]=x:=fun l hl hi=>by subst hl; simp
   exact this _ hd hi
  obtain ⟨σ1,j1,w1⟩:=hc x (by rw [hd]; simp) σ hJ
  obtain ⟨σ2,j2,w2⟩:=zn8 l g fid ca hg hl J na hc rest (done ++ [x]) σ1 (by rw [hd]; simp) j1
  simp only [List.length_append,List.length_cons,List.length_nil,Nat.zero_add] at w2
  refine ⟨σ2,j2,fun N n hN hn=>?_⟩
  obtain ⟨n,rfl⟩:∃ k,n=k + 1:=⟨n - 1,by omega⟩
  rw [zbn (zvv l g fid ca hg done.length hi hl σ σ1 (by rw [hs]; exact w1 N hN))]
  exact w2 N n hN (by simp at hn; omega)
theorem zu0 {S:Specs} (hs1:has S n_208=false) (hs2:has S n_194=false) (l:List (Su)) (g:D) (fid:Nat) (ca:List D) (hg:D.fn? g=some (fid,[],ca)) (hl:l.length < 1000000000) (J:Store→Prop) (na:Nat) (hc:∀ x∈l,∀ σ,J σ→∃ σ',J σ'∧∀ n,na≤n→W S n fid (dU x :: ca) σ=some (.ret ⟨false,.bool false⟩,σ')) (σ:Store) (hJ:J σ) :
  ∃ σ',J σ'∧∀ n,na + l.length + 3≤n→W S n n_194 [dUs l,g] σ=some (.ret ⟨false,.bool false⟩,σ'):=by
 obtain ⟨σ',j,w⟩:=zn8 l g fid ca hg hl J na hc l [] σ rfl hJ
 refine ⟨σ',j,fun n hn=>?_⟩
 obtain ⟨n,rfl⟩:∃ k,n=k + 2:=⟨n - 2,by omega⟩
 have w:=w n n (by omega) (by omega)
 have hln:=len_U l
 simp only [zen,List.length_nil,zeroI] at w
 have h1:W S (n + 1) n_208 [dUs l,g] σ=some (.ret ⟨false,.int .i64 (-1)⟩,σ'):=by
  rw [W_fun (af:=a_168) hs1 rfl rfl]
  simp only [a_168,sA,seval,kn,hln,w]
 have hge:¬ ((-1:Int) ≥ 0):=by omega
 rw [W_fun (af:=a_166) hs2 rfl rfl]
 simp only [a_166,sA,seval,kn,h1,hge]
def dAs' (l:List (Hd × Co)):D:=dlist k_4 (l.map dA)
theorem zmwb (l:List (Hd × Co)) (i:Nat) (h:i < l.length):zbj 14 (dAs' l) i=some (.eptr (dA l[i])):=zdv rfl dA _ i h
theorem zt4 (l:List (Hd × Co)):lenOf (dAs' l)=some l.length:=zdw _ l
section
variable {C:CallF} {n:Nat}
def zgd (l:List (Hd × Co)) (g:D) (i:Nat):Env:={slots:=[(0,⟨false,dAs' l⟩),(1,⟨false,g⟩),(7,⟨false,.int .i64 l.length⟩),(8,⟨false,.int .i64 i⟩)],locs:=[],boxes:=[],defers:=[]}
theorem zzx (l:List (Hd × Co)) (g:D) (fid:Nat) (ca:List D) (hg:D.fn? g=some (fid,[],ca)) (i:Nat) (h:i < l.length) (hl:l.length < 1000000000) (σ σ':Store) (h1:C fid (dA l[i] :: ca) σ=some (.ret ⟨false,.bool false⟩,σ')):exec C n none a_92 (zgd l g i) σ=some (.normal,zgd l g (i + 1),σ'):=by
 have hlt:((i:Int) < (l.length:Int)):=by omega
 have w:=zak (i:=i) (by omega)
 have hx:=zmwb l i h
 have hln:=zt4 l
 generalize l[i]=x at hx h1
 have hon:=oneD x.2
 have hoS:=zba x.1.vars
 rw [zep] at hx h1
 simp only [a_92,zgd,sA,seval,kn,hln,hlt,natI,hx,hon,hoS,hg,h1,w]
theorem zdwb (l:List (Hd × Co)) (g:D) (σ:Store):exec C n none a_92 (zgd l g l.length) σ=some (.exit 0,{zgd l g l.length with slots:=[(0,⟨false,dAs' l⟩),(1,⟨false,g⟩),(7,⟨false,.int .i64 l.length⟩),(8,⟨false,.int .i64 l.length⟩),(9,⟨false,.bool false⟩)]},σ):=by
 have hlt:¬ ((l.length:Int) < (l.length:Int)):=by omega
 have hln:=zt4 l
 simp only [a_92,zgd,sA,seval,kn,hln,hlt]
end
theorem zqf {S:Specs} (l:List (Hd × Co)) (g:D) (fid:Nat) (ca:List D) (hg:D.fn? g=some (fid,[],ca)) (hl:l.length < 1000000000) (J:Store→Prop) (na:Nat) (hc:∀ x∈l,∀ σ,J σ→∃ σ',J σ'∧∀ n,na≤n→W S n fid (dA x :: ca) σ=some (.ret ⟨false,.bool false⟩,σ')):∀ (rest done:List (Hd × Co)) (σ:Store),l=done ++ rest→J σ →
  ∃ σ',J σ'∧∀ N n,na≤N→rest.length < n→loopN (exec (W S N) N none a_92) n (zgd l g done.length) σ=some (.exit 0,{zgd l g l.length with slots:=[(0,⟨false,dAs' l⟩),(1,⟨false,g⟩),(7,⟨false,.int .i64 l.length⟩),(8,⟨false,.int .i64 l.length⟩),(9,⟨false,.bool false⟩)]},σ')
 | [],done,σ,hd,hJ=>by
  refine ⟨σ,hJ,fun N n _ hn=>?_⟩
  obtain ⟨n,rfl⟩:∃ k,n=k + 1:=⟨n - 1,by omega⟩
  have e:done.length=l.length:=by rw [hd]; simp
  rw [e]
  exact zcr (zdwb l g σ)
 | x :: rest,done,σ,hd,hJ=>by
  have hi:done.length < l.length:=by rw [hd]; simp
  have hs:l[done.length]=x:=by
   have:∀ (l:List (Hd × Co)) (hl:l=done ++ x :: rest) (hi:done.length < l.length),l[done.length]=x:=fun l hl hi=>by subst hl; simp
   exact this _ hd hi
  obtain ⟨σ1,j1,w1⟩:=hc x (by rw [hd]; simp) σ hJ
  obtain ⟨σ2,j2,w2⟩:=zqf l g fid ca hg hl J na hc rest (done ++ [x]) σ1 (by rw [hd]; simp) j1
  simp only [List.length_append,List.length_cons,List.length_nil,Nat.zero_add] at w2
  refine ⟨σ2,j2,fun N n hN hn=>?_⟩
  obtain ⟨n,rfl⟩:∃ k,n=k + 1:=⟨n - 1,by omega⟩
  rw [zbn (zzx l g fid ca hg done.length hi hl σ σ1 (by rw [hs]; exact w1 N hN))]
  exact w2 N n hN (by simp at hn; omega)
theorem zts {S:Specs} (hs1:has S n_206=false) (hs2:has S n_107=false) (l:List (Hd × Co)) (g:D) (fid:Nat) (ca:List D) (hg:D.fn? g=some (fid,[],ca)) (hl:l.length < 1000000000) (J:Store→Prop) (na:Nat) (hc:∀ x∈l,∀ σ,J σ→∃ σ',J σ'∧∀ n,na≤n→W S n fid (dA x :: ca) σ=some (.ret ⟨false,.bool false⟩,σ')) (σ:Store) (hJ:J σ) :
  ∃ σ',J σ'∧∀ n,na + l.length + 3≤n→W S n n_107 [dAs' l,g] σ=some (.ret ⟨false,.bool false⟩,σ'):=by
 obtain ⟨σ',j,w⟩:=zqf l g fid ca hg hl J na hc l [] σ rfl hJ
 refine ⟨σ',j,fun n hn=>?_⟩
 obtain ⟨n,rfl⟩:∃ k,n=k + 2:=⟨n - 2,by omega⟩
 have w:=w n n (by omega) (by omega)
 have hln:=zt4 l
 simp only [zgd,List.length_nil,zeroI] at w
 have h1:W S (n + 1) n_206 [dAs' l,g] σ=some (.ret ⟨false,.int .i64 (-1)⟩,σ'):=by
  rw [W_fun (af:=a_167) hs1 rfl rfl]
  simp only [a_167,sA,seval,kn,hln,w]
 have hge:¬ ((-1:Int) ≥ 0):=by omega
 rw [W_fun (af:=a_165) hs2 rfl rfl]
 simp only [a_165,sA,seval,kn,h1,hge]
def f00:Fd:=⟨[],0,0,0⟩
section
variable {C:CallF} {n:Nat} {σ:Store}
def zd7 (l:List Fd) (g:D) (i:Nat):Env:={slots:=[(0,⟨false,dFs l⟩),(1,⟨false,g⟩),(7,⟨false,.int .i64 l.length⟩),(8,⟨false,.int .i64 i⟩)],locs:=[],boxes:=[],defers:=[]}
theorem zwp (l:List Fd) (g:D) (fid:Nat) (ca:List D) (q:Fd→Bool) (hg:D.fn? g=some (fid,[],ca)) (i:Nat) (h:i < l.length) (hl:l.length < 1000000000) (h1:C fid (dF (l.getD i f00) :: ca) σ=some (.ret ⟨false,.bool (q (l.getD i f00))⟩,σ)) (hq:q (l.getD i f00)=false):exec C n none a_55 (zd7 l g i) σ=some (.normal,zd7 l g (i + 1),σ):=by
 have hlt:((i:Int) < (l.length:Int)):=by omega
 have w:=zak (i:=i) (by omega)
 have hx:=idx_F l i h
 rw [← za5 l i f00 h] at hx
 rw [hq] at h1
 generalize l.getD i f00=f at hx h1
 simp only [dF] at hx h1
 simp only [a_55,zd7,sA,seval,kn,len_F,hlt,natI,hx,hg,h1,w]
theorem zwq (l:List Fd) (g:D) (fid:Nat) (ca:List D) (q:Fd→Bool) (hg:D.fn? g=some (fid,[],ca)) (i:Nat) (h:i < l.length) (h1:C fid (dF (l.getD i f00) :: ca) σ=some (.ret ⟨false,.bool (q (l.getD i f00))⟩,σ)) (hq:q (l.getD i f00)=true):exec C n none a_55 (zd7 l g i) σ=some (.ret,{slots:=[(4,⟨false,.int .i64 i⟩)],locs:=[],boxes:=[],defers:=[]},σ):=by
 have hlt:((i:Int) < (l.length:Int)):=by omega
 have hx:=idx_F l i h
 rw [← za5 l i f00 h] at hx
 rw [hq] at h1
 generalize l.getD i f00=f at hx h1
 simp only [dF] at hx h1
 simp only [a_55,zd7,sA,seval,kn,len_F,hlt,natI,hx,hg,h1]
theorem zzp (l:List Fd) (g:D):exec C n none a_55 (zd7 l g l.length) σ=some (.exit 0,{zd7 l g l.length with slots:=[(0,⟨false,dFs l⟩),(1,⟨false,g⟩),(7,⟨false,.int .i64 l.length⟩),(8,⟨false,.int .i64 l.length⟩),(9,⟨false,.bool false⟩)]},σ):=by
 have hlt:¬ ((l.length:Int) < (l.length:Int)):=by omega
 simp only [a_55,zd7,sA,seval,kn,len_F,hlt]
end
theorem zxg {S:Specs} (hs1:has S n_207=false) (hs2:has S n_126=false) (N:Nat) (l:List Fd) (g:D) (fid:Nat) (ca:List D) (q:Fd→Bool) (hg:D.fn? g=some (fid,[],ca)) (hl:l.length < 1000000000) (hN:l.length < N) (σ:Store)
  (hc:∀ i,i < l.length→W S N fid (dF (l.getD i f00) :: ca) σ=some (.ret ⟨false,.bool (q (l.getD i f00))⟩,σ)):W S (N + 2) n_126 [dFs l,g] σ=some (.ret ⟨false,.bool (l.any q)⟩,σ):=by
 have hr:=zll (body:=exec (W S N) N none a_55) (zd7 l g) (fun _=>σ) l.length (fun i=>!(q (l.getD i f00))) (r:=_) (fun i=>(.ret,{slots:=[(4,⟨false,.int .i64 i⟩)],locs:=[],boxes:=[],defers:=[]},σ)) (fun _ _ h=>by cases h) (fun _ _ _ h=>by cases h) (fun i hi hq=>zwp l g fid ca q hg i hi hl (hc i hi) (by simpa using hq)) (fun i hi hq=>zwq l g fid ca q hg i hi (hc i hi) (by simpa using hq)) (zzp l g) N 0 (Nat.zero_le _) (by omega)
 simp only [zd7,zeroI] at hr
 have hv:∃ v:Int,W S (N + 1) n_207 [dFs l,g] σ=some (.ret ⟨false,.int .i64 v⟩,σ)∧(v ≥ 0↔l.any q=true):=by
  rcases hr with ⟨i,_,hi,hq,_,h⟩ | ⟨hq,h⟩
  ·refine ⟨i,?_,fun _=>?_,fun _=>by omega⟩
   ·rw [W_fun (af:=a_93) hs1 rfl rfl]
    simp only [a_93,sA,seval,kn,len_F,h]
   ·rw [za5 _ _ _ hi] at hq
    exact List.any_eq_true.2 ⟨_,List.getElem_mem hi,by simpa using hq⟩
  ·refine ⟨-1,?_,fun h=>by omega,fun ha=>?_⟩
   ·rw [W_fun (af:=a_93) hs1 rfl rfl]
    simp only [a_93,sA,seval,kn,len_F,h]
   ·obtain ⟨x,hx,hxs⟩:=List.any_eq_true.1 ha
    obtain ⟨i,hi,rfl⟩:=List.getElem_of_mem hx
    have:=hq i (Nat.zero_le _) hi
    rw [za5 _ _ _ hi,hxs] at this
    cases this
 obtain ⟨v,h1,h2⟩:=hv
 rw [W_fun (af:=a_111) hs2 rfl rfl]
 cases hb:l.any q with
 | true =>
  have hv:v ≥ 0:=h2.2 hb
  simp only [a_111,sA,seval,kn,h1,hv]
 | false =>
  have hv:¬ v ≥ 0:=fun h=>by rw [h2.1 h] at hb; cases hb
  simp only [a_111,sA,seval,kn,h1,hv]
end Go.Fu

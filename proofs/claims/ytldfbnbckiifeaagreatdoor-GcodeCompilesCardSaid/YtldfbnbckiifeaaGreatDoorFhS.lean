/- A part of the proof. -/
import Derived.Test.YtldfbnbckiifeaaGreatDoorFgBj
set_option maxHeartbeats 4000000
set_option linter.all false
namespace Go.Fu
open Go Go.Mx
set_option maxRecDepth 10000
theorem zif{d:D}{xs:List Int}(hR:IR d xs):∀deep,deep<1000->Qm d deep
 |0,h=>fun i ns hp=>zhe hR 0 i ns hp (.inl rfl) h
 |D+1,h=>fun i ns hp=>by
  have ih:=zif hR D (by omega);have h8:lJ xs i%8<2\/lJ xs i%8=2\/lJ xs i%8=3\/lJ xs i%8=4\/lJ xs i%8=5\/(lJ xs i%8=6\/lJ xs i%8=7):=by omega
  rcases h8 with q|q|q|q|q|q
  ·exact zhe hR (D+1) i ns hp (.inr q) h
  ·exact zgxb hR D i ih ns hp q (by omega)
  ·exact zgzb hR D i ih ns hp q (by omega)
  ·exact zj2b hR D i ih ns hp q (by omega)
  ·exact zgyb hR D i ns hp q (by omega)
  ·exact zj1b hR D i ih ns hp q (by omega)
def jW:List Tx:=[[102],[103],[104],[120]]
def qG:List Tx:=[[120],[121],[122]]
def Tf:D:=.list dY [.str [102],.str [103],.str [104],.str [120]]
def Ym:D:=.list dY [.str [120],.str [121],.str [122]]
theorem zt1(m:Nat)(h:m<4):xJ 1 Tf 0 (some (m+1))=some (dG (jW.take (m+1))):=by
 have:m=0\/m=1\/m=2\/m=3:=by omega
 rcases this with rfl|rfl|rfl|rfl<;>rfl
theorem zv6(k:Nat)(h:k<4):xJ 1 Ym 0 (some k)=some (lS (qG.take k)):=by
 have:k=0\/k=1\/k=2\/k=3:=by omega
 rcases this with rfl|rfl|rfl|rfl<;>rfl
theorem zy7(k:Nat)(h:k<4):iQ (qG.take k)=false:=by
 have:k=0\/k=1\/k=2\/k=3:=by omega
 rcases this with rfl|rfl|rfl|rfl<;>decide
theorem zxl(m:Nat)(h:m<4):iQ (FL.map Fd.name++jW.take (m+1))=false:=by
 have:m=0\/m=1\/m=2\/m=3:=by omega
 rcases this with rfl|rfl|rfl|rfl<;>decide
section
variable{C:eV}{n:Nat}{O:Store}
def Ai(d:D)(m:Nat)(us:List Su)(j i:Nat):Env:={slots:=[(0,⟨false,d⟩),(3,⟨true,Tf⟩),(4,⟨true,Ym⟩),(5,⟨false,.int .i64 (m+1:Nat)⟩),(6,⟨false,.int .i64 j⟩),(7,⟨ow i,eG us⟩),(8,⟨false,.int .i64 i⟩)],dR:=[],boxes:=[],defers:=[]}
theorem zfqb(d:D)(m:Nat)(us:List Su)(j i v j':Nat)(c:Co)(hi:i<m+1)(hm:m<4)(hj:j<1000000)(yS:us.length<100)(hne:us≠[]->ow i=true)
  (h1:C wO [d,.int .i64 j] O=some (.ret ⟨false,.int .i64 v⟩,O))
  (h2:C mJ [dG (jW.take (m+1)),lS (qG.take (v%4))] O=some (.ret ⟨false,dG (jW.take (m+1)++qG.take (v%4))⟩,O))
  (h3:C qF [d,.int .i64 (j+1:Nat),dG (jW.take (m+1)++qG.take (v%4)),.int .i64 4] O=some (.ret ⟨false,.fN [dM c,.int .i64 j']⟩,O)) :
  exec C n none Xl (Ai d m us j i) O=some (.normal,Ai d m (us++[⟨jW.getD i [],qG.take (v%4),c⟩]) j' (i+1),O):=by
 have hlt:((i:Int)<((m+1:Nat):Int)):=by omega
 have t4:((v:Int)).tmod 4=((v%4:Nat):Int):=rP v 4;have hv4:v%4<4:=Nat.mod_lt _ (by decide);have wj:=iE (i:=j) (by omega);have wi:=iE (i:=i) (by omega);have hs1:=zt1 m hm;have hs2:=zv6 (v%4) hv4;have ho:i<jW.length:=by simp[jW];omega
 have hx:=sZ jW i ho;rw[<-iU jW i [] ho]at hx;have ap:lM dY 16 ⟨false,.dN⟩ ((qG.take (v%4)).map D.str)=some ⟨true,dG (qG.take (v%4))⟩:=Kx _ false (by simp[qG];omega);have ha:=oh us ⟨jW.getD i [],qG.take (v%4),c⟩ (ow i) hne (by omega);have iV:nK (lS (qG.take (v%4)))=some ((qG.take (v%4)).map D.str):=rfl;rw[sY,cU]at ha;generalize jW.getD i []=s at hx ha;have hx:kU 1 Tf i=some (.gC (.str s)):=hx;generalize qG.take (v%4)=o3 at *
 simp only[eO,eX]at h3 ha;simp only[Xl,Ai,sA,seval,kn,hlt,hs1,hs2,h1,h2,t4,wj,h3,hx,ha,iV,ap,wi,Tt,Aw,zJ,rA]
theorem zi2b(d:D)(m:Nat)(us:List Su)(j:Nat):exec C n none Xl (Ai d m us j (m+1)) O=some (.exit 0,{Ai d m us j (m+1)with slots:=[(0,⟨false,d⟩),(3,⟨true,Tf⟩),(4,⟨true,Ym⟩),(5,⟨false,.int .i64 (m+1:Nat)⟩),(6,⟨false,.int .i64 j⟩),(7,⟨true,eG us⟩),(8,⟨false,.int .i64 (m+1:Nat)⟩),(26,⟨false,.bool false⟩)]},O):=by
 have hlt:¬(((m+1:Nat):Int)<((m+1:Nat):Int)):=by omega
 simp only[Xl,Ai,sA,seval,kn,hlt,rA]
end
def Jd(d:D)(xs:List Int):fC:=[(wO,PM d xs),(mJ,FB),(qF,UU d 4)]
def jb(us:List Su):Prop:=FH us/\us.length<=4/\∀u∈us,Ci 5 200 u/\u.body.size<=1200
end Go.Fu
namespace Go.Fu.X
open Go Go.Mx Go.Fu
set_option maxRecDepth 10000
set_option maxHeartbeats 4000000
def Ze(s:Su):Su:=⟨[78,105,108],s.ps,s.body⟩
def Uy(s:Su):Su:=⟨s.name,s.ps++[[113],[113]],s.body⟩
def Uz(s:Su):Su:=⟨s.name,s.ps,.mk 4 0 [] [s.body,.mk 1 0 [110,111,110,101] [] [] []] [] []⟩
def Zf(s:Su):Su:=⟨s.name,s.ps,.mk 4 0 [] [s.body,.mk 2 0 [78,111,110,101] [] [] []] [] []⟩
def Zg(s:Su):Su:=⟨s.name,s.ps,.mk 5 0 [120] [s.body] [] []⟩
def Zh(s:Su):Su:=⟨s.name,s.ps,.mk 9 0 [] [s.body] [] [(⟨1,0,[67,111,110,115],[[117]]⟩,s.body)]⟩
def Va(s:Su):Su:=⟨s.name,s.ps,.mk 8 0 [] [s.body] [([97],s.body),([97],s.body)] []⟩
def Zi(s:Su):Su:=⟨s.name,s.ps,.mk 10 0 [109,111,100] [s.body,s.body] [] []⟩
def Zj(s:Su):Su:=⟨s.name,s.ps,.mk 9 0 [] [s.body] [] [(⟨2,0,[],[[117]]⟩,s.body)]⟩
def yT(n:Int)(s:Su):Su:=dK (n==0) (Ze s) (dK (n==1) (Uy s) (dK (n==2) (Uz s) (dK (n==3) (Zf s) (dK (n==4) (Zg s) (dK (n==5) (Zh s) (dK (n==6) (Va s) (dK (n==7) (Zi s) (dK (n==8) (Zj s) s))))))))
def UF(us:List Su)(d:D):List D->Cell->Prop:=fun ds c=>ds=[d]->c=⟨false,eG us⟩
theorem zc4b{d:D}(hd:iF d=true)(is:List Su)(s:Su)(hM:eW Xy [d] ⟨false,eG (is++[s])⟩)(h4:is.length<1000)(hps:s.ps.length<1000000)(n:Int):eW TL [d,.int .i64 n] ⟨false,eG (is++[yT n s])⟩:=by
 have mk:∀{v:Su}{o:Bool}{O'},nA Ra (fun _ _ _=>none) wF 0 (exec (T [(Xy,UF (is++[s]) d)] 1) 1 none wF.body (mX [d,.int .i64 n]) cH)=some (.ret ⟨o,eG (is++[v])⟩,O')->eW TL [d,.int .i64 n] ⟨false,eG (is++[v])⟩:=fun{v o O'} hr =>
  eW.weak (o:=o) rfl (jH (af:=wF) (n:=1) (O':=O') (jG [(Xy,UF (is++[s]) d)] 1) rfl rfl (by simp[fO,iF,hd]) (uD _) hr)
 obtain⟨_,q1,k1⟩:=lD (S:=[(Xy,UF (is++[s]) d)]) (f:=Xy) (s:=UF (is++[s]) d) rfl rfl (fun _=>rfl) hM;cases q1 rfl;have k1:=k1 0 cH;have hln:lenOf (eG (is++[s]))=some (is.length+1):=by rw[nY];simp
 have w:IntKind.i64.wrap (((is.length+1:Nat):Int)-1)=(is.length:Int):=by rw[lV (by omega) (by omega)];omega
 have hx:=zL (is++[s]) is.length (by simp);have e0:(is++[s])[is.length]'(by simp)=s:=by simp
 rw[e0]at hx;have hsl:xJ 12 (eG (is++[s])) 0 (some is.length)=some (.list jA (is.map dU)):=by
  have hd:eG (is++[s])=.list jA ((is++[s]).map dU):=by
   cases is with
   |nil=>rfl
   |cons a b=>rfl
  have h2:decide (is.length<=((is++[s]).map dU).length)=true:=by simp
  have h3:(jA.sz==12)=true:=rfl;have h4:((is++[s]).map dU).take is.length=is.map dU:=by rw[aU,List.take_append_of_le_length (by simp),<-List.map_take,aV]
  rw[hd];simp only[xJ,Option.getD_some,h2,h3,List.drop_zero,Nat.sub_zero,h4];rfl
 have iV:nK (.list jA (is.map dU))=some (is.map dU):=rfl;have yD:=zjv is false (by omega);have hap:∀v,lM jA 200 ⟨true,eG is⟩ [dU v]=some ⟨true,eG (is++[v])⟩:=fun v=>oh is v true (fun _=>rfl) (by omega);have hap1:lM dY 16 ⟨false,.dN⟩ (s.ps.map D.str)=some ⟨true,dG s.ps⟩:=Kx s.ps false (by omega);have hap2:lM dY 16 ⟨true,dG s.ps⟩ [.str [113],.str [113]]=some ⟨true,dG (s.ps++[[113],[113]])⟩:=UM s.ps [[113],[113]] true (fun _=>rfl) (by simp;omega);have hasS:nK (dG s.ps)=some (s.ps.map D.str):=CO s.ps;have hp:=W9 s;rw[sY]at hx;unfold yT;generalize eG (is++[s])=DU at *
 simp only[cU,eX,eO]at hx hp;have eD:∀a b:Co,iI [a,b]=.list gV [dM a,dM b]:=fun _ _=>rfl;have VH:∀a:Co,iI [a]=.list gV [dM a]:=fun _=>rfl;have eN:iI []=.dN/\lZ []=.dN/\pV []=.dN:=⟨rfl,rfl,rfl⟩;have eA:∀a:Hd×Co,pV [a]=.list jC [dA a]:=fun _=>rfl;have eB:∀a b:Tx×Co,lZ [a,b]=.list iS [dB a,dB b]:=fun _ _=>rfl;have eS:dG [[117]]=.list dY [.str [117]]:=rfl;cases n0:n==0 with
 |true =>
  simp only[dQ];refine mk (o:=true) (O':=cH) ?_;have ha:=hap (Ze s);simp only[Ze,sY,cU,eX]at ha;simp only[Ze];generalize eG (is++[(⟨[78,105,108],s.ps,s.body⟩:Su)])=DR at *
  simp only[wF,sA,seval,kn,k1,hln,w,hx,n0,hsl,iV,yD,ha]
 |false =>
  cases n1:n==1 with
  |true =>
   simp only[dQ,dX];refine mk (o:=true) (O':=cH) ?_;have ha:=hap (Uy s);simp only[Uy,sY,cU,eX]at ha;simp only[Uy];generalize eG (is++[(⟨s.name,s.ps++[[113],[113]],s.body⟩:Su)])=DR at *
   simp only[wF,sA,seval,kn,k1,hln,w,hx,Tt,Aw,zJ,n0,n1,hasS,hap1,hap2,hsl,iV,yD,ha]
  |false =>
   cases n2:n==2 with
   |true =>
    simp only[dQ,dX];refine mk (o:=true) (O':=cH) ?_;have ha:=hap (Uz s);simp only[Uz,sY,cU,eX,co,eD,eN,eO]at ha;simp only[Uz];generalize eG (is++[(⟨s.name,s.ps,.mk 4 0 [] [s.body,.mk 1 0 [110,111,110,101] [] [] []] [] []⟩:Su)])=DR at *
    simp only[wF,sA,seval,kn,k1,hln,w,hx,n0,n1,n2,hsl,iV,yD,ha]
   |false =>
    cases n3:n==3 with
    |true =>
     simp only[dQ,dX];refine mk (o:=true) (O':=cH) ?_;have ha:=hap (Zf s);simp only[Zf,sY,cU,eX,co,eD,eN,eO]at ha;simp only[Zf];generalize eG (is++[(⟨s.name,s.ps,.mk 4 0 [] [s.body,.mk 2 0 [78,111,110,101] [] [] []] [] []⟩:Su)])=DR at *
     simp only[wF,sA,seval,kn,k1,hln,w,hx,n0,n1,n2,n3,hsl,iV,yD,ha]
    |false =>
     cases n4:n==4 with
     |true =>
      simp only[dQ,dX];refine mk (o:=true) (O':=cH) ?_;have ha:=hap (Zg s);simp only[Zg,sY,cU,eX,co,VH,eN,eO]at ha;simp only[Zg];generalize eG (is++[(⟨s.name,s.ps,.mk 5 0 [120] [s.body] [] []⟩:Su)])=DR at *
      simp only[wF,sA,seval,kn,k1,hln,w,hx,n0,n1,n2,n3,n4,hsl,iV,yD,ha]
     |false =>
      cases n5:n==5 with
      |true =>
       simp only[dQ,dX];refine mk (o:=true) (O':=cH) ?_;have ha:=hap (Zh s);simp only[Zh,sY,cU,eX,co,VH,eA,eN,eO,xM,eS]at ha;simp only[Zh];generalize eG (is++[(⟨s.name,s.ps,.mk 9 0 [] [s.body] [] [(⟨1,0,[67,111,110,115],[[117]]⟩,s.body)]⟩:Su)])=DR at *
       simp only[wF,sA,seval,kn,k1,hln,w,hx,n0,n1,n2,n3,n4,n5,hsl,iV,yD,ha]
      |false =>
       cases n6:n==6 with
       |true =>
        simp only[dQ,dX];refine mk (o:=true) (O':=cH) ?_;have ha:=hap (Va s);simp only[Va,sY,cU,eX,co,VH,eB,eN,eO,zK]at ha;simp only[Va];generalize eG (is++[(⟨s.name,s.ps,.mk 8 0 [] [s.body] [([97],s.body),([97],s.body)] []⟩:Su)])=DR at *
        simp only[wF,sA,seval,kn,k1,hln,w,hx,n0,n1,n2,n3,n4,n5,n6,hsl,iV,yD,ha]
       |false =>
        cases n7:n==7 with
        |true =>
         simp only[dQ,dX];refine mk (o:=true) (O':=cH) ?_;have ha:=hap (Zi s);simp only[Zi,sY,cU,eX,co,eD,eN,eO]at ha;simp only[Zi];generalize eG (is++[(⟨s.name,s.ps,.mk 10 0 [109,111,100] [s.body,s.body] [] []⟩:Su)])=DR at *
         simp only[wF,sA,seval,kn,k1,hln,w,hx,n0,n1,n2,n3,n4,n5,n6,n7,hsl,iV,yD,ha]
        |false =>
         cases n8:n==8 with
         |true =>
          simp only[dQ,dX];refine mk (o:=true) (O':=cH) ?_;have ha:=hap (Zj s);simp only[Zj,sY,cU,eX,co,VH,eA,eN,eO,xM,eS]at ha;simp only[Zj];generalize eG (is++[(⟨s.name,s.ps,.mk 9 0 [] [s.body] [] [(⟨2,0,[],[[117]]⟩,s.body)]⟩:Su)])=DR at *
          simp only[wF,sA,seval,kn,k1,hln,w,hx,n0,n1,n2,n3,n4,n5,n6,n7,n8,hsl,iV,yD,ha]
         |false =>
          simp only[dX];refine mk (o:=true) (O':=cH) ?_;have ha:=hap s;simp only[sY,cU,eX]at ha;generalize eG (is++[s])=DR at *
          simp only[wF,sA,seval,kn,k1,hln,w,hx,n0,n1,n2,n3,n4,n5,n6,n7,n8,hsl,iV,yD,ha]
theorem We{R:Co->List Tx->Bool}{us:List Su}{u:Su}(hu:u∈us)(h:mN R u.body.size u.body u.ps=false):qR R us=false:=by
 cases e:qR R us with
 |false=>rfl
 |true =>have:=bM.1 e u hu;rw[h]at this;cases this
theorem p8{R:Co->List Tx->Bool}{c:Co}{g:List Tx}(h:R c (pI c g)=false):∀{k:Nat},1<=k->mN R k c g=false
 |0,hk=>by omega
 |k+1,_=>by
  simp only[mN,h];rfl
theorem zcz{R:Co->List Tx->Bool}{s:Tx}{a b:Co}{g:List Tx}(h:R b (pI b g)=false):mN R (Co.mk 4 0 s [a,b] [] []).size (Co.mk 4 0 s [a,b] [] []) g=false:=by
 have hp:=lT a;have hq:=lT b;have e:(Co.mk 4 0 s [a,b] [] []).size=(a.size+b.size-1+1)+1:=by simp only[Co.size,fV,gG,gP];omega
 rw[e];have hg:pI (Co.mk 4 0 s [a,b] [] []) g=g:=rfl;have h1:mN R (a.size+b.size-1+1) b g=false:=p8 h (by omega);generalize a.size+b.size-1+1=k at h1 ⊢;simp only[mN,hg];have:(Co.mk 4 0 s [a,b] [] []).ks.all (fun b=>mN R k b g)=false:=by
  show(mN R k a g&&(mN R k b g&&true))=false;rw[h1];cases mN R k a g<;>rfl
 rw[this];cases R (Co.mk 4 0 s [a,b] [] []) g<;>cases(Co.mk 4 0 s [a,b] [] []).bs.all (fun b=>mN R k b.2 g)<;>rfl
theorem mg{us:List Su}(h:qR (fun c _=>nC c) us=false):mM us≠0:=by unfold mM;rw[h,dX];decide
theorem mh{us:List Su}(h:((iQ (FL.map Fd.name++us.map Su.name)||us.any fun u=>iQ u.ps)||!qR (fun c _=>qB c) us)=true):mM us≠0:=by unfold mM;rw[h,dQ];cases qR (fun c _=>nC c) us<;>decide
theorem mq{us:List Su}(h:qR (wA (us.map Su.name)) us=false):mM us≠0:=by
 unfold mM;rw[h,dX];cases qR (fun c _=>nC c) us with
 |false =>rw[dX];decide
 |true =>rw[dQ];cases((iQ (FL.map Fd.name++us.map Su.name)||us.any fun u=>iQ u.ps)||!qR (fun c _=>qB c) us)<;>decide
theorem zzx(l:List Tx)(x:Tx):iQ (l++[x,x])=true:=by
 unfold iQ;have hl:(l++[x,x]).length=l.length+2:=by simp
 rw[hl];refine List.any_eq_true.2 ⟨l.length+1,List.mem_range.2 (by omega),List.any_eq_true.2 ⟨l.length,List.mem_range.2 (by omega),?_⟩⟩;rw[iU _ _ _ (by rw[hl];omega),iU _ _ _ (by rw[hl];omega),bT (by omega),bT (by omega)];simp
theorem zgz{l:List Tx}{s:Tx}(h:∀x∈l,x.length=1)(hs:s.length=4):l.any (·==s)=false:=by
 cases e:l.any (·==s)with
 |false=>rfl
 |true =>obtain⟨x,hx,e2⟩:=List.any_eq_true.1 e;have:=h x hx;rw[eq_of_beq e2]at this;omega
theorem zyx(m:Nat)(h:m<4):iQ (FL.map Fd.name++(jW.take m++[[78,105,108]]))=true:=by
 have:m=0\/m=1\/m=2\/m=3:=by omega
 rcases this with rfl|rfl|rfl|rfl<;>decide
theorem zq1(is:List Su)(s:Su)(m:Nat)(hm:m<4)(hn:is.map Su.name=jW.take m)(hnm:s.name.length=1)(hps:∀x∈s.ps,x.length=1)(n:Int)(h0:0<=n)(h8:n<=8):mM (is++[yT n s])≠0:=by
 have hmem:∀v:Su,v∈is++[v]:=fun v=>by simp
 have hall:∀x∈is.map Su.name++[s.name],x.length=1:=fun x hx=>by
  rcases bJ.1 hx with h|h
  ·rw[hn]at h;have:=bH h;simp only[jW,aS,aK,or_false]at this;rcases this with rfl|rfl|rfl|rfl<;>rfl
  ·rw[bP.1 h];exact hnm
 have hcase:n=0\/n=1\/n=2\/n=3\/n=4\/n=5\/n=6\/n=7\/n=8:=by omega
 rcases hcase with rfl|rfl|rfl|rfl|rfl|rfl|rfl|rfl|rfl
 ·show mM (is++[Ze s])≠0;have e:(is++[Ze s]).map Su.name=jW.take m++[[78,105,108]]:=by rw[aU,hn];rfl
  refine mh ?_;rw[e,zyx m hm];rfl
 ·show mM (is++[Uy s])≠0;have e:((is++[Uy s]).any fun u=>iQ u.ps)=true:=List.any_eq_true.2 ⟨Uy s,hmem _,zzx _ _⟩;refine mh ?_;rw[e,Bool.or_true];rfl
 ·show mM (is++[Uz s])≠0;refine mq (We (hmem (Uz s)) (zcz ?_));have e:(is++[Uz s]).map Su.name=is.map Su.name++[s.name]:=by rw[aU];rfl
  rw[e];have h1:=zgz (s:=[110,111,110,101]) hall rfl;have h2:=zgz (s:=[110,111,110,101]) hps rfl;show wA _ (.mk 1 0 [110,111,110,101] [] [] []) s.ps=false;unfold wA;rw[show(Co.mk 1 0 [110,111,110,101] [] [] []).s=[110,111,110,101]from rfl,h1,h2];rfl
 ·show mM (is++[Zf s])≠0;refine mq (We (hmem (Zf s)) (zcz ?_));rfl
 ·show mM (is++[Zg s])≠0;exact mg (We (hmem (Zg s)) (p8 rfl (lT _)))
 ·show mM (is++[Zh s])≠0;exact mq (We (hmem (Zh s)) (p8 rfl (lT _)))
 ·show mM (is++[Va s])≠0;have e:qR (fun c _=>qB c) (is++[Va s])=false:=We (hmem (Va s)) (p8 rfl (lT _));refine mh ?_;rw[e,cC,Bool.or_true]
 ·show mM (is++[Zi s])≠0;exact mg (We (hmem (Zi s)) (p8 rfl (lT _)))
 ·show mM (is++[Zj s])≠0;exact mg (We (hmem (Zj s)) (p8 rfl (lT _)))
theorem zzn{n:Int}(h:n<0\/8<n)(s:Su):yT n s=s:=by have e:∀k:Int,0<=k->k<=8->(n==k)=false:=fun k h1 h2=>beq_false_of_ne (by omega);unfold yT;rw[e 0 (by omega) (by omega),e 1 (by omega) (by omega),e 2 (by omega) (by omega),e 3 (by omega) (by omega),e 4 (by omega) (by omega),e 5 (by omega) (by omega),e 6 (by omega) (by omega),e 7 (by omega) (by omega),e 8 (by omega) (by omega)];rfl
theorem zev{d:D}{xs:List Int}(hR:IR d xs):∃(m:Nat)(us:List Su)(j:Nat),m<4/\(∀O,T (Jd d xs) 1 wO [d,.int .i64 0] O=some (.ret ⟨false,.int .i64 (lJ xs 0:Nat)⟩,O))/\m=lJ xs 0%4 /\
  jI (exec (T (Jd d xs) 1) 6 none Xl) 6 (Ai d m [] 1 0) cH=some (.exit 0,{Ai d m us j (m+1)with slots:=[(0,⟨false,d⟩),(3,⟨true,Tf⟩),(4,⟨true,Ym⟩),(5,⟨false,.int .i64 (m+1:Nat)⟩),(6,⟨false,.int .i64 j⟩),(7,⟨true,eG us⟩),(8,⟨false,.int .i64 (m+1:Nat)⟩),(26,⟨false,.bool false⟩)]},cH)/\jb us/\us.map Su.name=jW.take (m+1)/\∀u∈us,Pl u.body/\∀s∈u.ps,Nv s/\s.length=1:=by
 have hp0:∀O,T (Jd d xs) 1 wO [d,.int .i64 0] O=some (.ret ⟨false,.int .i64 (lJ xs 0:Nat)⟩,O):=fun O=>Gp (S:=Jd d xs) rfl hR 0 (by omega) 0 O;obtain⟨m,hm⟩:∃m,m=lJ xs 0%4:=⟨_,rfl⟩;have xx:m<4:=by rw[hm];exact Nat.mod_lt _ (by decide)
 have hN:nW 4=681:=rfl;have hT4:sS 4=1106:=rfl;have hal:(jW.take (m+1)).length=m+1:=by simp[jW];omega
 obtain⟨r,hr,us,j,rfl,q1,q2⟩:=Vu (body:=exec (T (Jd d xs) 1) 6 none Xl)
  (fun i e O=>O=cH/\∃us j,e=Ai d m us j i/\us.map Su.name=jW.take i/\j<=1+i*682/\∀u∈us,∃k,k<4/\u.ps=qG.take k/\u.name.length=1/\Good (jW.take (m+1)++u.ps) u.body/\pD u.body/\u.body.size<=1106/\kO u.body<=5)
  (fun r=>∃us j,r=(.exit 0,{Ai d m us j (m+1)with slots:=[(0,⟨false,d⟩),(3,⟨true,Tf⟩),(4,⟨true,Ym⟩),(5,⟨false,.int .i64 (m+1:Nat)⟩),(6,⟨false,.int .i64 j⟩),(7,⟨true,eG us⟩),(8,⟨false,.int .i64 (m+1:Nat)⟩),(26,⟨false,.bool false⟩)]},cH)/\us.map Su.name=jW.take (m+1)/\∀u∈us,∃k,k<4/\u.ps=qG.take k/\u.name.length=1/\Good (jW.take (m+1)++u.ps) u.body/\pD u.body/\u.body.size<=1106/\kO u.body<=5) (m+1)
  (fun i e O hi ⟨hO,us,j,he,p1,p2,p3⟩=>by
   subst hO he;have h1:=Gp (S:=Jd d xs) rfl hR j (by omega) 0 cH;generalize lJ xs j=v at h1;have hv4:v%4<4:=Nat.mod_lt _ (by decide);have hol:(qG.take (v%4)).length<=3:=by simp[qG];omega
   have h2:=zbo (S:=Jd d xs) rfl (jW.take (m+1)) (qG.take (v%4)) (by omega) 0 cH;have KJ:us.length=(jW.take i).length:=by rw[<-p1,aJ]
   have kE:(jW.take i).length<=4:=by simp[jW];omega
   have VL:i<jW.length:=by simp[jW];omega
   obtain⟨c,j',⟨a1,a2,a3,a4,a5⟩,h3⟩:=Jw (S:=Jd d xs) rfl (zif hR 4 (by omega)) (j+1) (jW.take (m+1)++qG.take (v%4)) ⟨fun h=>by
     have:=congrArg List.length h;rw[aF,hal]at this;simp at this,by rw[aF,hal];omega,fun s hs=>by
     rcases bJ.1 hs with h|h
     ·have:=bH h;simp only[jW,aS,aK,or_false]at this;rcases this with rfl|rfl|rfl|rfl<;>rfl
     ·have:=bH h;simp only[qG,aS,aK,or_false]at this;rcases this with rfl|rfl|rfl<;>rfl,by omega⟩
   have hng:(jW.getD i []).length=1:=(by rw[iU jW i [] VL];have:=aX VL;generalize jW[i]=s at this;simp only[jW,aS,aK,or_false]at this;rcases this with rfl|rfl|rfl|rfl<;>rfl);refine⟨_,_,zfqb d m us j i v j' c hi xx (by omega) (by omega) (fun h=>?_) h1 h2 (h3 0 cH),rfl,_,_,rfl,?_,by omega,fun u hu=>?_⟩
   ·cases i with
    |zero=>exact absurd (aR.1 (by rw[KJ];rfl)) h
    |succ i=>rfl
   ·rw[aU,p1,<-mC jW i VL,<-iU jW i [] VL];rfl
   ·rcases bJ.1 hu with h|h
    ·exact p3 u h
    ·rw[bP.1 h];exact⟨v%4,hv4,rfl,hng,a1,a2,by simp only;omega,by simp only;omega⟩)
  (fun e O ⟨hO,us,j,he,p1,p2,p3⟩=>by
   subst hO he;exact⟨_,zi2b d m us j,fun _ _ h=>(by cases h),us,j,rfl,p1,p3⟩) 0 6 (Ai d m [] 1 0) cH (by omega) (by omega)
  ⟨rfl,_,_,rfl,rfl,by omega,(fun a h=>by cases h)⟩
 have yS:us.length=m+1:=by rw[<-hal,<-q1,aJ]
 refine⟨m,us,j,xx,hp0,hm,hr,⟨⟨by omega,by rw[q1];exact zxl m xx,fun u hu=>?_,fun u hu=>?_⟩,by omega,fun u hu=>?_⟩,q1,fun u hu=>?_⟩
 ·obtain⟨k,hk,e,_⟩:=q2 u hu;rw[e];exact⟨zy7 k hk,by simp[qG];omega⟩
 ·obtain⟨k,hk,e,h1,h2,h3,h4,h5⟩:=q2 u hu;rw[q1];exact⟨h2,by omega⟩
 ·obtain⟨k,hk,e,h1,h2,h3,h4,h5⟩:=q2 u hu;have hpl:u.ps.length<=3:=by rw[e];simp[qG];omega
  exact⟨⟨h3.1,by omega,by omega,by omega⟩,by omega⟩
 ·obtain⟨k,hk,e,h1,h2,h3,h4,h5⟩:=q2 u hu;refine⟨h3.2,fun s hs=>?_⟩;rw[e]at hs;have:=bH hs;simp only[qG,aS,aK,or_false]at this;rcases this with rfl|rfl|rfl<;>exact⟨rfl,rfl⟩
theorem zi3b{d:D}{xs:List Int}(hR:ja uT d xs)(hS:∀x∈xs,Small x):∃us,eW Xy [d] ⟨false,eG us⟩/\jb us/\∃m,m<4/\us.map Su.name=jW.take (m+1)/\∀u∈us,Pl u.body/\∀s∈u.ps,Nv s/\s.length=1:=by
 have zkx:∀ys:List Int,(∀x∈ys,Small x)->IR (.list uT (ys.map fun x=>.int .i64 x)) ys:=fun ys hs=>by
  refine⟨by simp[lenOf],fun i h=>?_,by rw[iF];exact wX (fun _=>rfl) ys,hs⟩;have hn:pX (ys.map fun x=>D.int .i64 x) i=some (.int .i64 ys[i]):=by rw[ED,EC _ _ h];rfl
  have hk:(uT.sz==1)=true:=rfl;rw[zkw,hk,hn];rfl
 have e0:ow 0=false:=rfl;have e1:eG []=.dN:=rfl;have hI:IR d xs:=by
  rcases hR with rfl|⟨rfl,rfl⟩
  ·exact zkx xs hS
  ·exact⟨rfl,fun i h=>by simp at h,rfl,hS⟩
 by_cases hl:xs.length<=80
 ·obtain⟨m,us,j,hm,hp,hpm,hr,hok,hnm⟩:=zev hI;refine⟨us,eW.weak (o:=true) rfl (jH (af:=L9) (n:=6) (O':=cH) (jG (Jd d xs) 1) rfl rfl (by simp[fO,hI.np]) (uD _) ?_),hok,m,hm,hnm⟩;have hg:¬((80:Int)<(xs.length:Int)):=by omega
  have t4:((lJ xs 0:Nat):Int).tmod 4=(m:Int):=by rw[hpm];exact rP _ 4
  have wm:=iE (i:=m) (by omega);have hp:=hp cH;generalize lJ xs 0=v at hp t4;simp only[Ai,iG,uj,e0,e1,Tf,Ym]at hr;simp only[L9,sA,seval,kn,hI.len,hg,hp,t4,wm,hr]
 ·rcases hR with rfl|⟨rfl,rfl⟩
  ·have hI2:=zkx (xs.take 80) fun x hx=>hS x (bH hx);obtain⟨m,us,j,hm,hp,hpm,hr,hok,hnm⟩:=zev hI2;refine⟨us,eW.weak (o:=true) rfl (jH (af:=L9) (n:=6) (O':=cH) (jG (Jd (.list uT ((xs.take 80).map fun x=>.int .i64 x)) (xs.take 80)) 1) rfl rfl (by simp only[fO,hI.np];rfl) (uD _) ?_),hok,m,hm,hnm⟩;have hg:((80:Int)<(xs.length:Int)):=by omega
   have t4:((lJ (xs.take 80) 0:Nat):Int).tmod 4=(m:Int):=by rw[hpm];exact rP _ 4
   have wm:=iE (i:=m) (by omega);have hsl:xJ 1 (.list uT (xs.map fun x=>.int .i64 x)) 0 (some 80)=some (.list uT ((xs.take 80).map fun x=>.int .i64 x)):=by
    have h1:decide (0<=80)=true:=rfl;have h2:decide (80<=(xs.map fun x=>D.int .i64 x).length)=true:=by simp;omega
    have h3:(uT.sz==1)=true:=rfl;simp only[xJ,Option.getD_some,h2,h3,List.drop_zero,Nat.sub_zero,List.map_take];rfl
   have hp:=hp cH;have hlen:=hI.len;generalize lJ (xs.take 80) 0=v at hp t4;generalize D.list uT ((xs.take 80).map fun x=>D.int .i64 x)=d2 at *
   generalize D.list uT (xs.map fun x=>D.int .i64 x)=d1 at *
   have n80:∀{k:IntKind},D.nat? (.int k 80)=some 80:=rfl;simp only[Ai,iG,uj,e0,e1,Tf,Ym]at hr;simp only[L9,sA,seval,kn,hlen,hg,hsl,n80,hp,t4,wm,hr]
  ·exact absurd (Nat.zero_le 80) hl
end Go.Fu.X
namespace Go.Fu
open Go Go.Mx
set_option maxRecDepth 10000
set_option maxHeartbeats 4000000
section
variable{C:eV}{n:Nat}{O:Store}
theorem zoqb{op:BinOp}{ks:List Nat}{x y:dS}{e:Env}:eQ (.Yy op ks x y) e O=dH (eE e x) fun a=>dH (eE e y) fun b=>dH a.d.sE fun aas=>dH b.d.sE fun bs=>dK (zH ks aas&&zH ks bs) (dH (zX op (Qz aas bs)) fun d=>some (.c ⟨false,d⟩)) none:=rfl
theorem zgnb(i:In):zH [1,0,0,1] [.str i.op,.int .i64 i.n,.int .i64 i.m,.str i.name]=true/\Qz [.str i.op,.int .i64 i.n,.int .i64 i.m,.str i.name] [.str i.op,.int .i64 i.n,.int .i64 i.m,.str i.name]=true:=⟨rfl,by simp[Qz,UA]⟩
def Rr(cs:List Cd)(i k:Nat):Env:={slots:=[(0,⟨false,kF cs⟩),(1,⟨false,kF cs⟩),(5,⟨false,.int .i64 i⟩),(6,⟨false,.int .i64 k⟩)],dR:=[],boxes:=[],defers:=[]}
def Ru(cs:List Cd)(i:Nat):Env:={slots:=[(0,⟨false,kF cs⟩),(1,⟨false,kF cs⟩),(5,⟨false,.int .i64 i⟩)],dR:=[],boxes:=[],defers:=[]}
theorem jq(l:List Cd)(i:Nat)(h:i<l.length):kU 3 (kF l) i=some (.gC (.agg [.str l[i].name,.int .i64 l[i].arity,eM l[i].body])):=uJ rfl _ _ _ h
theorem kg(l:List Cd):lenOf (kF l)=some l.length:=uK _ l
theorem zirb(l:List In)(i:Nat)(h:i<l.length):kU 4 (eM l) i=some (.gC (.agg [.str l[i].op,.int .i64 l[i].n,.int .i64 l[i].m,.str l[i].name])):=uJ rfl _ _ _ h
theorem ko(l:List In):lenOf (eM l)=some l.length:=uK _ l
theorem ku(l:List In):(eM l).one=true:=rX
theorem zmlb(s:Tx)(k:Int)(d:D):Mx.part none [.str s,.int .i64 k,d] 0=some (.str s):=rfl
theorem zmmb(s:Tx)(k:Int)(d:D):Mx.part none [.str s,.int .i64 k,d] 1=some (.int .i64 k):=rfl
theorem qj(s:Tx)(k:Int)(d:D):Mx.part none [.str s,.int .i64 k,d] 2=some d:=rfl
theorem zczb(cs:List Cd)(i k:Nat)(hi:i<cs.length)(hk:k<cs[i].body.length)(hb:cs[i].body.length<1000000000):exec C n none M0 (Rr cs i k) O=some (.normal,Rr cs i (k+1),O):=by
 have hx:=jq cs i hi;generalize cs[i]=c at hx hk hb;have hlt:((k:Int)<(c.body.length:Int)):=by omega
 have w:=iE (i:=k) (by omega);have hy:=zirb c.body k hk;have hl:=ko c.body;generalize c.body[k]=x at hy;obtain⟨s1,s2⟩:=zgnb x;simp only[M0,Rr,sA,seval,kn,ku,hx,qj,hl,hlt,hy,s1,s2,w]
theorem zgqb(cs:List Cd)(i:Nat)(hi:i<cs.length):exec C n none M0 (Rr cs i cs[i].body.length) O=some (.exit 2,{Rr cs i cs[i].body.length with slots:=[(0,⟨false,kF cs⟩),(1,⟨false,kF cs⟩),(5,⟨false,.int .i64 i⟩),(6,⟨false,.int .i64 cs[i].body.length⟩),(64,⟨false,.bool false⟩)]},O):=by
 have hx:=jq cs i hi;generalize cs[i]=c at hx;have hlt:¬((c.body.length:Int)<(c.body.length:Int)):=by omega
 have hl:=ko c.body;simp only[M0,Rr,sA,seval,kn,ku,hx,qj,hl,hlt]
theorem zc0b(cs:List Cd)(i:Nat)(hi:i<cs.length)(hc:cs.length<100000000)(hb:cs[i].body.length<100000000)(hn:cs[i].body.length<n):exec C n none M3 (Ru cs i) O=some (.normal,Ru cs (i+1),O):=by
 have hloop:=nI (body:=exec C n none M0) (fun k=>Rr cs i k) (fun _=>O) cs[i].body.length (r:=_) (fun _ _ h=>by cases h) (fun k hk=>zczb cs i k hi hk (by omega)) (zgqb cs i hi) 0 n (by omega) (by omega);have hlt:((i:Int)<(cs.length:Int)):=by omega
 have w:=iE (i:=i) (by omega);have hx:=jq cs i hi;have hlc:=kg cs;generalize cs[i]=c at hx hloop;have hl:=ko c.body;have b1:(!(c.name==c.name))=false:=by simp
 have b2:(c.arity != c.arity)=false:=by simp
 have b3:((c.body.length:Int) != (c.body.length:Int))=false:=by simp
 simp only[Rr,iG]at hloop;simp only[M3,Ru,sA,seval,kn,ku,hlc,hlt,hx,zmlb,zmmb,qj,hl,b2,b3,hloop,w]
theorem zgrb(cs:List Cd):exec C n none M3 (Ru cs cs.length) O=some (.exit 0,{Ru cs cs.length with slots:=[(0,⟨false,kF cs⟩),(1,⟨false,kF cs⟩),(5,⟨false,.int .i64 cs.length⟩),(15,⟨false,.bool false⟩)]},O):=by
 have hlt:¬((cs.length:Int)<(cs.length:Int)):=by omega
 have hlc:=kg cs;simp only[M3,Ru,sA,seval,kn,hlc,hlt]
end
theorem zxh(cs:List Cd)(hc:cs.length<100000000)(hb:∀c∈cs,c.body.length<100000000):eW qa [kF cs,kF cs] ⟨false,.bool true⟩:=by
 refine jH (af:=QZ) (n:=100000001) (O':=cH) (jG [] 1) rfl rfl (by simp[fO,YM]) rfl ?_;have hloop:=nI (body:=exec (T [] 1) 100000001 none M3) (fun i=>Ru cs i) (fun _=>cH) cs.length (r:=_) (fun _ _ h=>by cases h) (fun i hi=>zc0b cs i hi hc (hb _ (aX hi)) (by have:=hb _ (aX hi);omega)) (zgrb cs) 0 100000001 (by omega) (by omega);have hlc:=kg cs;have b3:((cs.length:Int) != (cs.length:Int))=false:=by simp
 simp only[Ru,iG]at hloop;simp only[QZ,sA,seval,kn,hlc,b3,hloop]
end Go.Fu
namespace Go.Fu.X
open Go Go.Mx Go.Fu
set_option maxRecDepth 10000
inductive XR:Nat->Co->Nat->List Tx->List In->Prop
 |zh9 {c env}:(c.f=1\/c.f=2\/c.f=3\/c.f=4)->XR 0 c 0 env (fM (kC c env) [eJ Hr 0])
 |zkb {n s env}:XR 0 (.mk 11 n s [] [] []) 0 env [eJ mO 0]
 |zk1 {s b bs env is}:XR 0 b 0 (env++bs.map Prod.fst) is->XR 0 (.mk 8 0 s [b] bs []) 0 env (fM (fM (lF (.mk 8 0 s [b] bs []) env bs.length) is) [eJ lU bs.length])
 |zkc {s a b env is js}:XR 0 a 0 env is->XR 0 b 0 (pQ env (env.length+1)) js->XR 0 (.mk 10 0 s [a,b] [] []) 0 env (fM (fM is js) [eJ (rF s) 0])
 |zk0 {s x al env is js}:XR 0 x 0 env is->XR 2 (.mk 9 0 s [x] [] al) 0 env js->XR 0 (.mk 9 0 s [x] [] al) 0 env (fM is js)
 |zkn {c env}:(c.f=1\/c.f=2\/c.f=3\/c.f=4)->XR 4 c 0 env (kC c env)
 |zko {c env is}:c.f=10->XR 0 c 0 env is->XR 4 c 0 env is
 |zie {c env is}:(c.f=1\/c.f=2\/c.f=3\/c.f=4\/c.f=10)->XR 4 c 0 env is->XR 1 c 0 env (fM (fM (fM is [eJ nJ env.length]) [eJ kT env.length]) [eJ yX 0])
 |zkf {n s env}:XR 1 (.mk 11 n s [] [] []) 0 env [eJ mO 0]
 |zk9 {s b bs env is}:XR 1 b 0 (env++bs.map Prod.fst) is->XR 1 (.mk 8 0 s [b] bs []) 0 env (fM (lF (.mk 8 0 s [b] bs []) env bs.length) is)
 |zk8 {s x al env is js}:XR 0 x 0 env is->XR 3 (.mk 9 0 s [x] [] al) 0 env js->XR 1 (.mk 9 0 s [x] [] al) 0 env (fM is js)
 |zjx {c i env}:c.al.length<=i->XR 2 c i env [eJ kT 1,eJ mO 0]
 |zjy {c i env}:c.al.length<=i->XR 3 c i env [eJ mO 0]
 |cT3 {c i env a is}:c.al[i]?=some a->(a.1.form != 3)=false->XR 1 a.2 0 (fZ a env).2 is->XR 3 c i env (fM (fM (fZ a env).1 is) [])
 |cT {c i env a is js}:c.al[i]?=some a->(a.1.form != 3)=true->XR 1 a.2 0 (fZ a env).2 is->XR 3 c (i+1) env js->XR 3 c i env (fM (qH (fM (fZ a env).1 is).length (fM (fZ a env).1 is)) js)
 |cS1 {c i env a is js}:c.al[i]?=some a->a.1.form=1->XR 0 a.2 0 (fZ a env).2 is->XR 2 c (i+1) env js->∀{L2 L3:List In},L2=fM (fM (fZ a env).1 is) [eJ lU a.1.vars.length]->L3=L2++[⟨kX,(L2.length+1+js.length:Nat),0,[]⟩]->XR 2 c i env (fM (qH L3.length L3) js)
 |cS3 {c i env a is}:c.al[i]?=some a->(a.1.form==1)=false->(a.1.form != 3)=false->XR 0 a.2 0 (fZ a env).2 is->∀{L L3:List In},L=fM (fZ a env).1 is->L3=L++[⟨kX,(L.length+1:Nat),0,[]⟩]->XR 2 c i env (fM L3 [])
 |cS2 {c i env a is js}:c.al[i]?=some a->(a.1.form==1)=false->(a.1.form != 3)=true->XR 0 a.2 0 (fZ a env).2 is->XR 2 c (i+1) env js->∀{L L3:List In},L=fM (fZ a env).1 is->L3=L++[⟨kX,(L.length+1+js.length:Nat),0,[]⟩]->XR 2 c i env (fM (qH L3.length L3) js)
def ck(t:Bool):Nat:=dK t 3 2
def Dt(B:Nat)(c:Co)(env:List Tx):Prop:=∃is,eW wN [dM c,dG env] ⟨false,eM is⟩/\GC B (8*c.size) is/\XR 0 c 0 env is
def Oa(B:Nat)(c:Co)(env:List Tx):Prop:=∃is,eW Ab [dM c,dG env] ⟨false,eM is⟩/\GC B (8*c.size+3) is/\XR 1 c 0 env is
def OkZ(B:Nat)(c:Co)(env:List Tx):Prop:=∃is,eW V3 [dM c,dG env] ⟨false,eM is⟩/\GC B (8*c.size) is/\XR 4 c 0 env is
def Nz(B:Nat)(c:Co)(i:Nat)(env:List Tx)(t:Bool):Prop:=∃is,eW Dk [dM c,.int .i64 i,dG env,.bool t] ⟨false,eM is⟩/\GC B (2+8*gP (c.al.drop i)) is/\XR (ck t) c i env is
def UX(B:Nat):List D->Cell->Prop:=fun ds c=>∀co env,ds=[dM co,dG env]->∃is,c=⟨false,eM is⟩/\GC B (8*co.size) is/\XR 0 co 0 env is
def JR(B:Nat):List D->Cell->Prop:=fun ds c=>∀co env,ds=[dM co,dG env]->∃is,c=⟨false,eM is⟩/\GC B (8*co.size+3) is/\XR 1 co 0 env is
def UW(B:Nat):List D->Cell->Prop:=fun ds c=>∀co (i:Nat) env t,ds=[dM co,.int .i64 i,dG env,.bool t]->∃is,c=⟨false,eM is⟩/\GC B (2+8*gP (co.al.drop i)) is/\XR (ck t) co i env is
theorem F5{B:Nat}{S:fC}(hS:dC S wN=some (UX B))(a:Co)(env:List Tx)(hp:Dt B a env):∃is,(GC B (8*a.size) is/\XR 0 a 0 env is)/\∀n O,T S (n+1) wN [dM a,dG env] O=some (.ret ⟨false,eM is⟩,O):=by
 obtain⟨js,h1,h2⟩:=hp
 obtain⟨c,h3,h4⟩:=lD (S:=S) hS rfl (c:=⟨false,eM js⟩) (fun a' b' e=>by
  simp only[aL,and_true]at e;obtain rfl:=qO e.1;obtain rfl:=lN e.2;exact⟨js,rfl,h2⟩) h1
 obtain⟨is,rfl,h5⟩:=h3 a env rfl;exact⟨is,h5,h4⟩
theorem zhi{B:Nat}{S:fC}(hS:dC S Ab=some (JR B))(a:Co)(env:List Tx)(hp:Oa B a env):∃is,(GC B (8*a.size+3) is/\XR 1 a 0 env is)/\∀n O,T S (n+1) Ab [dM a,dG env] O=some (.ret ⟨false,eM is⟩,O):=by
 obtain⟨js,h1,h2⟩:=hp
 obtain⟨c,h3,h4⟩:=lD (S:=S) hS rfl (c:=⟨false,eM js⟩) (fun a' b' e=>by
  simp only[aL,and_true]at e;obtain rfl:=qO e.1;obtain rfl:=lN e.2;exact⟨js,rfl,h2⟩) h1
 obtain⟨is,rfl,h5⟩:=h3 a env rfl;exact⟨is,h5,h4⟩
theorem zhh{B:Nat}{S:fC}(hS:dC S Dk=some (UW B))(a:Co)(i:Nat)(env:List Tx)(t:Bool)(hp:Nz B a i env t) :
  ∃is,(GC B (2+8*gP (a.al.drop i)) is/\XR (ck t) a i env is)/\∀n O,T S (n+1) Dk [dM a,.int .i64 i,dG env,.bool t] O=some (.ret ⟨false,eM is⟩,O):=by
 obtain⟨js,h1,h2⟩:=hp
 obtain⟨c,h3,h4⟩:=lD (S:=S) hS rfl (c:=⟨false,eM js⟩) (fun a' i' b' t' e=>by
  simp only[aL,D.int.injEq,D.bool.injEq,true_and,and_true]at e;obtain rfl:=qO e.1;obtain rfl:i=i':=by omega
  obtain rfl:=lN e.2.2.1;obtain rfl:=e.2.2.2;exact⟨js,rfl,h2⟩) h1
 obtain⟨is,rfl,h5⟩:=h3 a i env t rfl;exact⟨is,h5,h4⟩
def pT(B:Nat):fC:=[(nN,UB),(nG,ib),(Xz,ma),(Ya,ig),(vN,gu),(Ip,lv),(wN,UX B),(Ab,JR B),(Dk,UW B)]
theorem zxd{B:Nat}(c:Co)(env:List Tx)(hf:Fl B false c)(hl:env.length+c.size<10000000)(hk:∀x∈c.ks,∀e:List Tx,e.length+x.size<10000000->Fl B false x->Dt B x e)(hc:c.f=9->Nz B c 0 env false) :
  Dt B c env:=by
 have mk:∀{is:List In}{o:Bool},nA Ra (fun _ _ _=>none) Hz 0 (exec (T (pT B) 1) 1 none Hz.body (mX [dM c,dG env]) cH)=some (.ret ⟨o,eM is⟩,cH)->eW wN [dM c,dG env] ⟨false,eM is⟩:=fun{is o} hr =>
  eW.weak (o:=o) rfl (jH (af:=Hz) (n:=1) (O':=cH) (jG (pT B) 1) rfl rfl (by simp[fO,mL,jY]) (Gs _) hr)
 have hsz:=jD c;have plain:(c.f=1\/c.f=2\/c.f=3\/c.f=4)->Dt B c env:=fun hform=>by
  have h1:=q9 (S:=pT B) rfl c env (dw c false env hf (.inr hform) hl) 0 cH;obtain⟨g1,g2⟩:=Vt c false env hf (.inr hform) (by omega);have h2:=vF (S:=pT B) rfl Hr 0 0 cH;have h3:=uB (S:=pT B) rfl (kC c env) [eJ Hr 0] (by simp;omega) 0 cH;refine⟨fM (kC c env) [eJ Hr 0],mk (o:=false) ?_,uR (sH ⟨g1,g2⟩ (Hk (by decide) zS)) (by have:=lT c;omega),.zh9 hform⟩;simp only[Hr]at h2 h3 ⊢;simp only[eO,eX]at h1;have e:(c.f==8)=false/\(c.f==10)=false/\(c.f==11)=false/\(c.f==9)=false:=by rcases hform with h|h|h|h<;>rw[h]<;>exact⟨rfl,rfl,rfl,rfl⟩
  simp only[Hz,sA,seval,kn,eO,eX,e,h1,h2,h3]
 cases hf with
 |leaf h=>exact plain (by rcases h with h|h|h<;>subst h<;>simp[co])
 |app=>exact plain (by simp[co])
 |@fail n s =>have h2:=vF (S:=pT B) rfl mO 0 0 cH;refine⟨[eJ mO 0],mk (o:=false) ?_,uR (Hk (by decide) zS) (by have:=lT (.mk 11 n s [] [] []);omega),.zkb⟩;simp only[mO]at h2 ⊢;simp only[Hz,sA,seval,kn,eO,eX,co,h2]
 |@lt _ s b bs _ _ hbs hb =>
  have hsa:(Co.mk 8 0 s [b] bs []).size=1+b.size+gG bs:=by simp only[Co.size,fV,gP];omega
  have hbl:=mY bs;have hen:dW (.mk 8 0 s [b] bs [])=bs.map Prod.fst:=rfl;have h1:=YX (S:=pT B) rfl (.mk 8 0 s [b] bs []) env (zh2 _ env hbs (by omega)) 0 cH;rw[hen]at h1;obtain⟨is,⟨gi,xi⟩,h2⟩:=F5 (S:=pT B) rfl b (env++bs.map Prod.fst) (hk b (by simp[co]) _ (by simp;omega) hb);have h2:=h2 0 cH;have g1:=MU (B:=B) (.mk 8 0 s [b] bs []) env hbs (by omega) bs.length (aM _);simp only[co,aV]at g1;have KD:=gi.2;have h3:=uB (S:=pT B) rfl (lF (.mk 8 0 s [b] bs []) env bs.length) is (by omega) 0 cH;have h4:=vF (S:=pT B) rfl lU bs.length 0 cH;have h5:=uB (S:=pT B) rfl (fM (lF (.mk 8 0 s [b] bs []) env bs.length) is) [eJ lU bs.length] (by rw[kP];simp;omega) 0 cH;have hx0:kU 10 (iI [b]) 0=some (.gC (dM b)):=rfl;refine⟨fM (fM (lF (.mk 8 0 s [b] bs []) env bs.length) is) [eJ lU bs.length],mk (o:=false) ?_,uR (sH (sH g1 gi) (Hk (by decide) (Bd (by omega)))) (by omega),.zk1 xi⟩;simp only[lU]at h4 h5 ⊢;simp only[eO,eX,co]at h1 h2 hx0;simp only[Hz,sA,seval,kn,eO,eX,co,tO,hx0,h1,h2,h3,h4,h5]
 |@rH s a b _ ha hb =>
  have hsa:(Co.mk 10 0 s [a,b] [] []).size=1+a.size+b.size:=by simp only[Co.size,fV,gG,gP];omega
  obtain⟨is,⟨gi,xi⟩,h1⟩:=F5 (S:=pT B) rfl a env (hk a (by simp[co]) _ (by omega) ha);have h1:=h1 0 cH;have h2:=zd9 (S:=pT B) rfl env (env.length+1) (by omega) 0 cH;have hpl:(pQ env (env.length+1)).length=env.length+1:=by simp[pQ]
  obtain⟨js,⟨gj,xj⟩,h3⟩:=F5 (S:=pT B) rfl b (pQ env (env.length+1)) (hk b (by simp[co]) _ (by omega) hb);have h3:=h3 0 cH;have KD:=gi.2;have VI:=gj.2;have h4:=uB (S:=pT B) rfl is js (by omega) 0 cH;have h5:=zcu (S:=pT B) rfl s 0 cH;have h6:=vF (S:=pT B) rfl (rF s) 0 0 cH;have h7:=uB (S:=pT B) rfl (fM is js) [eJ (rF s) 0] (by rw[kP];simp;omega) 0 cH;have w:=iE (i:=env.length) (by omega);have hx1:kU 10 (iI [a,b]) 1=some (.gC (dM b)):=rfl;have hx0:kU 10 (iI [a,b]) 0=some (.gC (dM a)):=rfl;refine⟨fM (fM is js) [eJ (rF s) 0],mk (o:=false) ?_,uR (sH (sH gi gj) (Hk (zzc s) zS)) (by omega),.zkc xi xj⟩;simp only[eO,eX]at h1 h3 hx1 hx0;simp only[Hz,sA,seval,kn,eO,eX,co,lE,w,hx1,hx0,h1,h2,h3,h4,h5,h6,h7]
 |@qX s x al _ _ hx hxs =>
  have hsa:(Co.mk 9 0 s [x] [] al).size=1+x.size+gP al:=by simp only[Co.size,fV,gG];omega
  obtain⟨is,⟨gi,xi⟩,h1⟩:=F5 (S:=pT B) rfl x env (hk x (by simp[co]) _ (by omega) hx);have h1:=h1 0 cH;obtain⟨js,⟨gj,xj⟩,h2⟩:=zhh (S:=pT B) rfl (.mk 9 0 s [x] [] al) 0 env false (hc rfl);have h2:=h2 0 cH;have KD:=gi.2;have VI:=gj.2;simp only[co,List.drop_zero]at VI gj;have h3:=uB (S:=pT B) rfl is js (by omega) 0 cH;have hx0:kU 10 (iI [x]) 0=some (.gC (dM x)):=rfl;refine⟨fM is js,mk (o:=false) ?_,uR (sH gi gj) (by omega),.zk0 xi xj⟩;simp only[eO,eX,co,iG]at h1 h2 hx0;simp only[Hz,sA,seval,kn,eO,eX,co,hx0,h1,h2,h3]
theorem zz9{B:Nat}(c:Co)(env:List Tx)(hf:Fl B false c)(hform:c.f=1\/c.f=2\/c.f=3\/c.f=4\/c.f=10)(hl:env.length+c.size<10000000)(hs:Dt B c env):OkZ B c env:=by
 have mk:∀{is:List In}{o:Bool},nA Ra (fun _ _ _=>none) Xk 0 (exec (T (pT B) 1) 1 none Xk.body (mX [dM c,dG env]) cH)=some (.ret ⟨o,eM is⟩,cH)->eW V3 [dM c,dG env] ⟨false,eM is⟩:=fun{is o} hr =>
  eW.weak (o:=o) rfl (jH (af:=Xk) (n:=1) (O':=cH) (jG (pT B) 1) rfl rfl (by simp[fO,mL,jY]) (Gs _) hr)
 by_cases h10:c.f=10
 ·obtain⟨is,⟨gi,xi⟩,h1⟩:=F5 (S:=pT B) rfl c env hs;have h1:=h1 0 cH;refine⟨is,mk (o:=false) ?_,gi,.zko h10 xi⟩;simp only[eO,eX,h10]at h1;simp only[Xk,sA,seval,kn,eO,eX,h10,h1]
 ·have hform:c.f=1\/c.f=2\/c.f=3\/c.f=4:=by omega
  have h1:=q9 (S:=pT B) rfl c env (dw c false env hf (.inr hform) hl) 0 cH;obtain⟨g1,g2⟩:=Vt c false env hf (.inr hform) (by omega);refine⟨kC c env,mk (o:=false) ?_,uR ⟨g1,g2⟩ (by omega),.zkn hform⟩;have e:(c.f==10)=false:=by simpa using h10
  simp only[eO,eX]at h1;simp only[Xk,sA,seval,kn,eO,eX,e,h1]
def zlc(B:Nat):List D->Cell->Prop:=fun ds c=>∀co env,ds=[dM co,dG env]->∃is,c=⟨false,eM is⟩/\GC B (8*co.size) is/\XR 4 co 0 env is
theorem zhib{B:Nat}{S:fC}(hS:dC S V3=some (zlc B))(a:Co)(env:List Tx)(hp:OkZ B a env):∃is,(GC B (8*a.size) is/\XR 4 a 0 env is)/\∀n O,T S (n+1) V3 [dM a,dG env] O=some (.ret ⟨false,eM is⟩,O):=by
 obtain⟨js,h1,h2⟩:=hp
 obtain⟨c,h3,h4⟩:=lD (S:=S) hS rfl (c:=⟨false,eM js⟩) (fun a' b' e=>by
  simp only[aL,and_true]at e;obtain rfl:=qO e.1;obtain rfl:=lN e.2;exact⟨js,rfl,h2⟩) h1
 obtain⟨is,rfl,h5⟩:=h3 a env rfl;exact⟨is,h5,h4⟩
def vO(B:Nat):fC:=(V3,zlc B)::pT B
theorem zdpb{B:Nat}(c:Co)(env:List Tx)(hf:Fl B false c)(hl:env.length+c.size<10000000)(hs:Dt B c env)(hk:∀x∈c.ks,∀e:List Tx,e.length+x.size<10000000->Fl B false x->Dt B x e/\Oa B x e)
  (hc:c.f=9->Nz B c 0 env true):Oa B c env:=by
 have mk:∀{is:List In}{o:Bool},nA Ra (fun _ _ _=>none) Lq 0 (exec (T (vO B) 1) 1 none Lq.body (mX [dM c,dG env]) cH)=some (.ret ⟨o,eM is⟩,cH)->eW Ab [dM c,dG env] ⟨false,eM is⟩:=fun{is o} hr =>
  eW.weak (o:=o) rfl (jH (af:=Lq) (n:=1) (O':=cH) (jG (vO B) 1) rfl rfl (by simp[fO,mL,jY]) (Gs _) hr)
 have hsz:=jD c;have plain:(c.f=1\/c.f=2\/c.f=3\/c.f=4\/c.f=10)->Oa B c env:=fun hform=>by
  obtain⟨is,⟨gi,xi⟩,h1⟩:=zhib (S:=vO B) rfl c env (zz9 c env hf hform hl hs);have h1:=h1 0 cH;have KD:=gi.2;have h2:=vF (S:=vO B) rfl nJ env.length 0 cH;have h3:=uB (S:=vO B) rfl is [eJ nJ env.length] (by simp;omega) 0 cH;have h4:=vF (S:=vO B) rfl kT env.length 0 cH;have h5:=uB (S:=vO B) rfl (fM is [eJ nJ env.length]) [eJ kT env.length] (by rw[kP];simp;omega) 0 cH;have h6:=vF (S:=vO B) rfl yX 0 0 cH;have h7:=uB (S:=vO B) rfl (fM (fM is [eJ nJ env.length]) [eJ kT env.length]) [eJ yX 0] (by rw[kP,kP];simp;omega) 0 cH;have hsm:Small (env.length:Int):=Bd (by omega);refine⟨fM (fM (fM is [eJ nJ env.length]) [eJ kT env.length]) [eJ yX 0],mk (o:=false) ?_,uR (sH (sH (sH gi (Hk (by decide) hsm)) (Hk (by decide) hsm)) (Hk (by decide) zS)) (by omega),.zie hform xi⟩;have e:(c.f==8)=false/\(c.f==11)=false/\(c.f==9)=false:=by rcases hform with h|h|h|h|h<;>rw[h]<;>exact⟨rfl,rfl,rfl⟩
  simp only[nJ,kT,yX]at h2 h3 h4 h5 h6 h7 ⊢;simp only[eO,eX]at h1;simp only[Lq,sA,seval,kn,eO,eX,e,lE,h1,h2,h3,h4,h5,h6,h7]
 cases hf with
 |leaf h=>exact plain (by rcases h with h|h|h<;>subst h<;>simp[co])
 |app=>exact plain (by simp[co])
 |rH=>exact plain (by simp[co])
 |@fail n s =>have h2:=vF (S:=vO B) rfl mO 0 0 cH;refine⟨[eJ mO 0],mk (o:=false) ?_,uR (Hk (by decide) zS) (by omega),.zkf⟩;simp only[mO]at h2 ⊢;simp only[Lq,sA,seval,kn,eO,eX,co,h2]
 |@lt _ s b bs _ _ hbs hb =>
  have hsa:(Co.mk 8 0 s [b] bs []).size=1+b.size+gG bs:=by simp only[Co.size,fV,gP];omega
  have hbl:=mY bs;have hen:dW (.mk 8 0 s [b] bs [])=bs.map Prod.fst:=rfl;have h1:=YX (S:=vO B) rfl (.mk 8 0 s [b] bs []) env (zh2 _ env hbs (by omega)) 0 cH;rw[hen]at h1;obtain⟨is,⟨gi,xi⟩,h2⟩:=zhi (S:=vO B) rfl b (env++bs.map Prod.fst) (hk b (by simp[co]) _ (by simp;omega) hb).2;have h2:=h2 0 cH;have g1:=MU (B:=B) (.mk 8 0 s [b] bs []) env hbs (by omega) bs.length (aM _);simp only[co,aV]at g1;have KD:=gi.2;have h3:=uB (S:=vO B) rfl (lF (.mk 8 0 s [b] bs []) env bs.length) is (by omega) 0 cH;have hx0:kU 10 (iI [b]) 0=some (.gC (dM b)):=rfl;refine⟨fM (lF (.mk 8 0 s [b] bs []) env bs.length) is,mk (o:=false) ?_,uR (sH g1 gi) (by omega),.zk9 xi⟩;simp only[eO,eX,co]at h1 h2 hx0;simp only[Lq,sA,seval,kn,eO,eX,co,hx0,h1,h2,h3]
 |@qX s x al _ _ hx hxs =>
  have hsa:(Co.mk 9 0 s [x] [] al).size=1+x.size+gP al:=by simp only[Co.size,fV,gG];omega
  obtain⟨is,⟨gi,xi⟩,h1⟩:=F5 (S:=vO B) rfl x env (hk x (by simp[co]) _ (by omega) hx).1;have h1:=h1 0 cH;obtain⟨js,⟨gj,xj⟩,h2⟩:=zhh (S:=vO B) rfl (.mk 9 0 s [x] [] al) 0 env true (hc rfl);have h2:=h2 0 cH;have KD:=gi.2;have VI:=gj.2;simp only[co,List.drop_zero]at VI gj;have h3:=uB (S:=vO B) rfl is js (by omega) 0 cH;have hx0:kU 10 (iI [x]) 0=some (.gC (dM x)):=rfl;refine⟨fM is js,mk (o:=false) ?_,uR (sH gi gj) (by omega),.zk8 xi xj⟩;simp only[eO,eX,co,iG]at h1 h2 hx0;simp only[Lq,sA,seval,kn,eO,eX,co,hx0,h1,h2,h3]
end Go.Fu.X

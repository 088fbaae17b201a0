/- A part of the proof. -/
import Derived.Test.YtldfbnbckiifeaaGreatDoorFgBn
set_option maxHeartbeats 4000000
set_option linter.all false
namespace Go.Fu
open Go Go.Mx
set_option maxRecDepth 10000
section
variable{C:eV}{n:Nat}{O:Store}
end
section
variable{C:eV}{n:Nat}{O:Store}
end
theorem tb:(yL==yL)=true:=by simp
section
variable{n N:Nat}
end
theorem zdvb:∀s∈jW,Yh s:=by intro s hs;simp only[jW,aS,aK,or_false]at hs;rcases hs with rfl|rfl|rfl|rfl<;>(intro b hb;rw[bP.1 hb];decide)
theorem zbxb{us:List Su}(h:jb us){m:Nat}(hn:us.map Su.name=jW.take (m+1))(hp:∀u∈us,Pl u.body/\∀s∈u.ps,Nv s):∀u∈us,rU u:=fun u hu =>
 ⟨zdvb _ (bH (by rw[<-hn];exact bF.2 ⟨u,hu,rfl⟩:u.name∈jW.take (m+1))),(hp u hu).1,(h.2.2 u hu).1.1.wf,fun s hs=>((hp u hu).2 s hs).q⟩
end Go.Fu
namespace Go.Fu.X
open Go Go.Mx Go.Fu
set_option maxRecDepth 10000
set_option maxHeartbeats 4000000
theorem zc3b(n:Int)(s:Su):(yT n s).ps.length<=s.ps.length+2/\(yT n s).body.size<=3*s.body.size+10:=by
 unfold yT;cases n==0<;>simp only[dQ,dX]
 ·cases n==1<;>simp only[dQ,dX]
  ·cases n==2<;>simp only[dQ,dX]
   ·cases n==3<;>simp only[dQ,dX]
    ·cases n==4<;>simp only[dQ,dX]
     ·cases n==5<;>simp only[dQ,dX]
      ·cases n==6<;>simp only[dQ,dX]
       ·cases n==7<;>simp only[dQ,dX]
        ·cases n==8<;>simp only[dQ,dX]
         ·exact⟨by omega,by omega⟩
         ·simp only[Zj,Co.size,fV,gG,gP,aG,aH];omega
        ·simp only[Zi,Co.size,fV,gG,gP];omega
       ·simp only[Va,Co.size,fV,gG,gP];omega
      ·simp only[Zh,Co.size,fV,gG,gP,aG,aH];omega
     ·simp only[Zg,Co.size,fV,gG,gP];omega
    ·simp only[Zf,Co.size,fV,gG,gP];omega
   ·simp only[Uz,Co.size,fV,gG,gP];omega
  ·simp only[Uy,aF,aG,aH];omega
 ·simp only[Ze];omega
def Y8(ds0:List D)(c0:Cell):List D->Cell->Prop:=fun ds c=>ds=ds0->c=c0
theorem DT{S:fC}{f:FuncId}{ds:List D}{c:Cell}(hS:dC S f=some (Y8 ds c))(hY:jK f=false)(h:eW f ds c)(n:Nat)(O:Store):T S (n+1) f ds O=some (.ret c,O):=by obtain⟨x,h1,h2⟩:=lD (S:=S) hS hY (c:=c) (fun _=>rfl) h;rw[h2,h1 rfl]
theorem law_compiles(d:D)(xs:List Int)(n:Int)(hR:ja uT d xs)(hS:∀x∈xs,Small x):∃S:fC,∃O',T S 9001 zl1b [d,.int .i64 n] cH=some (.ret ⟨false,.bool true⟩,O'):=by
 have Ux:iF d=true:=by
  rcases hR with rfl|⟨rfl,rfl⟩
  ·rw[iF];exact wX (fun _=>rfl) xs
  ·rfl
 obtain⟨us,hM,hok,m,hm,hn,hpl⟩:=zi3b hR hS;have yS:us.length=m+1:=by
  have:=congrArg List.length hn;simp[jW]at this;omega
 have hne:us≠[]:=fun e=>by rw[e]at yS;simp at yS
 obtain⟨is,s,rfl⟩:∃is s,us=is++[s]:=⟨us.dropLast,us.getLast hne,(List.dropLast_concat_getLast hne).symm⟩;have hil:is.length=m:=by simpa using yS
 have zht:is.map Su.name=jW.take m/\s.name.length=1:=by
  have AJ:m<jW.length:=by simp[jW];omega
  rw[aU,<-mC jW m AJ]at hn;have h1:=List.append_inj' hn rfl;refine⟨h1.1,?_⟩;have h2:s.name=jW[m]:=by simpa using h1.2
  rw[h2];have:=aX AJ;generalize jW[m]=t at this;simp only[jW,aS,aK,or_false]at this;rcases this with rfl|rfl|rfl|rfl<;>rfl
 have hsm:s∈is++[s]:=by simp
 have hpre:=hok.2.2;have hsz:∀v∈is++[s],v.ps.length<=100000/\v.body.size<=1200:=fun v hv=>⟨(hpre v hv).1.2.2.1,(hpre v hv).2⟩;have hSp:=zc4b Ux is s hM (by omega) (by have:=(hsz s hsm).1;omega) n;have both:∃(cs:List Cd)(e:Int),eW Tn [gJ FL,eG (is++[yT n s])] ⟨false,.fN [kF cs,.int .i64 e]⟩/\eW IE [gJ FL,eG (is++[yT n s])] ⟨false,.fN [kF cs,.int .i64 e]⟩/\cs.length<100000000/\∀c∈cs,c.body.length<100000000:=by
  by_cases hr:0<=n/\n<=8
  ·have hw:=zq1 is s m hm zht.1 zht.2 (fun x hx=>((hpl s hsm).2 x hx).2) n hr.1 hr.2;have hlen:(is++[yT n s]).length<1000:=by rw[aF];simp;omega
   have hsz2:∀u∈is++[yT n s],u.ps.length+u.body.size<=50000000:=fun u hu=>by
    rcases bJ.1 hu with h|h
    ·have:=hsz u (bJ.2 (.inl h));omega
    ·rw[bP.1 h];have h1:=zc3b n s;have h2:=hsz s hsm;omega
   exact⟨[],mM (is++[yT n s]),zr0 hlen hsz2 hw,zs1 hlen hsz2 hw,by simp,fun c hc=>by cases hc⟩
  ·rw[zzn (by omega) s];have hpu:∀u∈is++[s],rU u:=zbxb hok hn fun u hu=>⟨(hpl u hu).1,fun x hx=>((hpl u hu).2 x hx).1⟩;have hc1:F4 (is++[s]):=⟨hok.1,by have:=hok.2.1;omega,hpre,hpu⟩;exact⟨xK (is++[s]),0,zol hc1,zpd (B:=5) (B':=200) (by omega) (by omega) _ hok.1 (by have:=hok.2.1;omega) hpre hpu,by have:=zz7 hc1;omega,fun c hc=>by have:=zdmb hc1 c hc;omega⟩
 obtain⟨cs,e,hg,hr,hcl,hcb⟩:=both;have hsame:=zxh cs hcl hcb;generalize is++[yT n s]=vs at hSp hg hr;obtain⟨S,eS⟩:∃S:fC,S=[(Aa,y7),(TL,Y8 [d,.int .i64 n] ⟨false,eG vs⟩),(Tn,Y8 [gJ FL,eG vs] ⟨false,.fN [kF cs,.int .i64 e]⟩),(IE,Y8 [gJ FL,eG vs] ⟨false,.fN [kF cs,.int .i64 e]⟩),(qa,Y8 [kF cs,kF cs] ⟨false,.bool true⟩),(TJ,Y8 [] ⟨false,.bool true⟩)]:=⟨_,rfl⟩;refine⟨S,cH,?_⟩;have k1:=WL (S:=S) (by rw[eS];rfl) 8999 cH;have k2:=DT (S:=S) (by rw[eS];rfl) rfl hSp 8999 cH;have k3:=DT (S:=S) (by rw[eS];rfl) rfl hg 8999 cH;have k4:=DT (S:=S) (by rw[eS];rfl) rfl hr 8999 cH;have k5:=DT (S:=S) (by rw[eS];rfl) rfl hsame 8999 cH;have k6:=DT (S:=S) (by rw[eS];rfl) rfl zbwb 8999 cH;have he:(e==e)=true:=by simp
 rw[zkgb (af:=QV) (by rw[eS];rfl) rfl rfl];simp only[QV,sA,seval,kn,k1,k2,k3,k4,k5,k6]
end Go.Fu.X

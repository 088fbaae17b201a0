/-
 Whole bodies,whole calls: if the machine runs to an end,the program's function ends so,in every world.
-/
import Derived.DefersIn
import Derived.LoopNIn
import Derived.Scope
import Derived.Test.YtieacpoabejcoaaGreatDoorMyFrz
import Derived.Test.YtieacpoabejcoaaGreatDoorMyRange
import Derived.RangeFuncRecord
import Derived.Defers
set_option linter.unusedSimpArgs false
set_option linter.unusedVariables false
set_option linter.unusedSectionVars false
namespace Go.Mx
open Go
def zg7 (o:Oper):Bool:=match o.op with
 | .defer _=>false
 | _=>true
def za3 (P:Program) (N:Nat) (rd:Bool):Code→ACode→Bool
 | .skip,.skip=>true
 | .region _ ops false,.region l none _=>(!rd || ops.toList.all zg7) && (zk1 N ops && okOps P N ops ops.toList l)
 | .region _ ops true,.region l (some p) _=>(!rd || ops.toList.all zg7) && (P.follows .mixedOrders && zcab P N ops l p)
 | .seq a b,.seq a' b'=>za3 P N rd a a' && za3 P N rd b b'
 | .cond c t f,.cond c' t' f'=>okOpd c c' && za3 P N rd t t' && za3 P N rd f f'
 | .block i b,.block i' b'=>i == i' && za3 P N rd b b'
 | .block i (.loop (.seq (.region _ ops false) (.seq (.cond (.tmp c) .skip (.exit i')) b))),.rangeM it nx more out _ _ b'=>i == i' && i == out && c == more && (!rd || ops.toList.all zg7) && zrg P N ops it nx more && za3 P N rd b b'
 | .loop b,.loop b'=>za3 P N rd b b'
 | .exit i,.exit i'=>i == i'
 | .ret,.ret=>true
 | .scope b,.scope b'=>za3 P N rd b b'
 | .label l,.label l'=>l == l'
 | .goto l,.goto l'=>l == l'
 | .scope b,.scopeJ l b' r'=>za3 P N rd b b' && (match findLabel b l with | some r=>za3 P N rd r r' | none=>false)
 | .rangeFunc g ps a b,.rangeF g' ps' a' b'=>okOpd g g' && decide (ps.toList=ps') && ps'.all (fun p=>decide (p < N)) && za3 P N true a a' && za3 P N true b b'
 | _,.stuck=>true
 | c,.frz _ b'=>za3 P N rd c b'
 | _,_=>false
class KitOf (P:Program) (K:LoopKit):Prop where
 iff:∀ N c c',K.ok N c c'↔za3 P N true c c'=true
def okRes (P:Program):List ResultVar→List ARes→Bool
 | [],[]=>true
 | .tmp t :: l,.tmp s :: r=>t == s && okRes P l r
 | .cell t ty :: l,.cell s k :: r=>t == s && okK P ty k && okRes P l r
 | .cell t ty :: l,.cellA s k :: r=>t == s && okK P ty (some k) && okRes P l r
 | _,_=>false
def okFun (P:Program) (fn:Func) (af:AFun):Bool:=match fn.body with
 | some c=>!(fn.name == "runtime.NumGoroutine") && decide (af.nargs≤fn.ntmps) && za3 P fn.ntmps false c af.body && okRes P fn.results.toList af.res
 | none=>false
section
variable [LoopKit] {P:Program} {N:Nat} {e:Env} {a:Go.Act} {w:World} {σ:Store} {ι ι0:Imm} {j j0:Lay} {own own0:Own} {w0:World} {lb:Lay} {κ:Ctx}
def Post (ι0:Imm) (j0:Lay) (own0:Own) (w0:World) (N:Nat) (Q:Exit→Go.Act→World→Prop):AExit × Env × Store→Prop
 | (.normal,e,σ)=>∀ a w,St ι0 j0 own0 w0 N e σ a w→Q .normal a w
 | (.exit id,e,σ)=>∀ a w,St ι0 j0 own0 w0 N e σ a w→Q (.exit id) a w
 | (.ret,e,σ)=>∀ a w,St ι0 j0 own0 w0 N e σ a w→Q .ret a w
 | (.panic d,e,σ)=>∀ a w chain,StP ι0 j0 own0 w0 N d chain e σ a w→Q (.panic chain) a w
 | (.goto l,e,σ)=>∀ a w,St ι0 j0 own0 w0 N e σ a w→Q (.goto l) a w
theorem St.clear (h:St ι0 j0 own0 w0 N e σ a w) (clr:List Nat):St ι0 j0 own0 w0 N (clearEnv e clr) σ a w:=by
 obtain ⟨ι,j,own,lb,h1,h2,h3⟩:=h
 exact ⟨ι,j,own,lb,h1,h2.sub (fun s c h=>⟨c,zbf _ _ _ _ h,rfl,fun h=>h⟩) (fun s p h=>zbf _ _ _ _ h) (fun s cs h=>⟨cs,zbf _ _ _ _ h,zbk.refl cs⟩) rfl,h3⟩
theorem Post.noGoto {Q:Exit→Go.Act→World→Prop} {r:AExit × Env × Store} (hn:∀ l,r.1≠.goto l) (h:Post ι0 j0 own0 w0 N Q r):Post ι0 j0 own0 w0 N (Exit.noGoto Q) r:=by
 obtain ⟨x,e1,σ1⟩:=r
 cases x with
 | goto l=>exact absurd rfl (hn l)
 | _=>exact h
def jmp (l:Nat) (J:Go.Act→World→Prop) (Q:Exit→Go.Act→World→Prop):Exit→Go.Act→World→Prop
 | .goto l',a,w=>l'=l∧J a w
 | e,a,w=>Q e a w
def jumps (F:Fence) (n:Nat) (P:Program) (l:Nat) (rest:Code) (Q:Exit→Go.Act→World→Prop):Nat→Go.Act→World→Prop
 | 0,_,_=>False
 | m + 1,a,w=>rest.wpIn F n P (jmp l (jumps F n P l rest Q m) Q) a w
theorem zqr {F:Fence} {n:Nat} {Q:Exit→Go.Act→World→Prop} {c rest:Code} {l:Nat} (hf:findLabel c l=some rest) (m:Nat) (first:c.wpIn F n P (jmp l (jumps F n P l rest Q m) Q) a w):(Code.scope c).wpIn F n P Q a w:=by
 intro b k cs hro hb hr
 have hg:gotoIn l (.inScope c :: k)=some (.code rest :: .inScope c :: k):=by simp [gotoIn,hf]
 have h0:(lone (b.atR a (.code (.scope c) :: k)) cs w).fenced P F:=fenced_calm hb hr rfl
 have s1:step P (lone (b.atR a (.code (.scope c) :: k)) cs w)=.next (lone (b.atR a (.code c :: .inScope c :: k)) cs w) :=
  step_lone_go (by simp [stepG,stepG.exec,Frame.atR])
 have s2:∀ a₁ w₁,StepsIn (Machine.fenced P F) P (lone (b.atR a₁ (.inScope c :: k)) cs w₁) (lone (b.atR a₁ k) cs w₁):=fun a₁ w₁ =>
  .one (fenced_calm (fr:=b.atR a₁ (.inScope c :: k)) hb hr rfl) (step_lone_go (by simp [stepG,stepG.exec,Frame.atR]))
 have ways:∀ {e:Exit} {a₁:Go.Act} {w₁:World} {mm:Machine},(∀ l',e≠.goto l')→ArrivesIn (Machine.fenced P F) P mm b (.inScope c :: k) cs e a₁ w₁→ArrivesIn (Machine.fenced P F) P mm b k cs e a₁ w₁:=by
  intro e a₁ w₁ mm hn harr
  cases e with
  | normal=>exact StepsIn.trans harr (s2 a₁ w₁)
  | exit id=>exact ⟨fun k' hk=>harr.1 k' (by simpa [exitTo] using hk),fun hr1 hk=>harr.2 hr1 (by simpa [exitTo] using hk)⟩
  | goto l'=>exact absurd rfl (hn l')
  | ret=>exact harr
  | panic ch=>exact harr
  | outgrown=>exact harr
 have key:∀ (m:Nat) (a:Go.Act) (w:World),jumps F n P l rest Q m a w→∃ e a' w',Q e a' w'∧ArrivesIn (Machine.fenced P F) P (lone (b.atR a (.code rest :: .inScope c :: k)) cs w) b k cs e a' w':=by
  intro m
  induction m with
  | zero=>intro a w h; exact h.elim
  | succ m ih =>
   intro a w h
   obtain ⟨e,a₁,w₁,hq,harr⟩:=h b (.inScope c :: k) cs hro hb hr
   cases e with
   | goto l' =>
    obtain ⟨rfl,hJ⟩:=hq
    obtain ⟨e₂,a₂,w₂,hq₂,harr₂⟩:=ih a₁ w₁ hJ
    exact ⟨e₂,a₂,w₂,hq₂,.of_steps (harr.1 _ hg) harr₂⟩
   | normal=>exact ⟨_,a₁,w₁,hq,ways (by simp) harr⟩
   | exit id=>exact ⟨_,a₁,w₁,hq,ways (by simp) harr⟩
   | ret=>exact ⟨_,a₁,w₁,hq,ways (by simp) harr⟩
   | panic ch=>exact ⟨_,a₁,w₁,hq,ways (by simp) harr⟩
   | outgrown=>exact ⟨_,a₁,w₁,hq,ways (by simp) harr⟩
 obtain ⟨e,a₁,w₁,hq,harr⟩:=first b (.inScope c :: k) cs hro hb hr
 cases e with
 | goto l' =>
  obtain ⟨rfl,hJ⟩:=hq
  obtain ⟨e₂,a₂,w₂,hq₂,harr₂⟩:=key m a₁ w₁ hJ
  exact ⟨e₂,a₂,w₂,hq₂,.of_steps (.head h0 s1 (harr.1 _ hg)) harr₂⟩
 | normal=>exact ⟨_,a₁,w₁,hq,.of_steps (.one h0 s1) (ways (by simp) harr)⟩
 | exit id=>exact ⟨_,a₁,w₁,hq,.of_steps (.one h0 s1) (ways (by simp) harr)⟩
 | ret=>exact ⟨_,a₁,w₁,hq,.of_steps (.one h0 s1) (ways (by simp) harr)⟩
 | panic ch=>exact ⟨_,a₁,w₁,hq,.of_steps (.one h0 s1) (ways (by simp) harr)⟩
 | outgrown=>exact ⟨_,a₁,w₁,hq,.of_steps (.one h0 s1) (ways (by simp) harr)⟩
theorem Post.mono {Q Q':Exit→Go.Act→World→Prop} {r:AExit × Env × Store} (hq:∀ e a w,Q e a w→Q' e a w) (h:Post ι0 j0 own0 w0 N Q r):Post ι0 j0 own0 w0 N Q' r:=by
 obtain ⟨x,e1,σ1⟩:=r
 cases x with
 | normal=>exact fun a w hs=>hq _ _ _ (h a w hs)
 | exit id=>exact fun a w hs=>hq _ _ _ (h a w hs)
 | ret=>exact fun a w hs=>hq _ _ _ (h a w hs)
 | panic d=>exact fun a w ch hs=>hq _ _ _ (h a w ch hs)
 | goto l=>exact fun a w hs=>hq _ _ _ (h a w hs)
theorem zm1 {F:Fence} {n:Nat} {Q:Exit→Go.Act→World→Prop} {c:Code} (h:c.wpIn F n P (Exit.noGoto Q) a w):(Code.scope c).wpIn F n P Q a w:=by
 intro b k cs hro hb hr
 have h0:(lone (b.atR a (.code (.scope c) :: k)) cs w).fenced P F:=fenced_calm hb hr rfl
 have s1:step P (lone (b.atR a (.code (.scope c) :: k)) cs w)=.next (lone (b.atR a (.code c :: .inScope c :: k)) cs w) :=
  step_lone_go (by simp [stepG,stepG.exec,Frame.atR])
 obtain ⟨e,a₁,w₁,hq,harr⟩:=h b (.inScope c :: k) cs hro hb hr
 have s2:step P (lone (b.atR a₁ (.inScope c :: k)) cs w₁)=.next (lone (b.atR a₁ k) cs w₁) :=
  step_lone_go (by simp [stepG,stepG.exec,Frame.atR])
 cases e with
 | normal=>exact ⟨.normal,a₁,w₁,hq,.head h0 s1 (StepsIn.trans harr (.one (fenced_calm (fr:=b.atR a₁ (.inScope c :: k)) hb hr rfl) s2))⟩
 | exit id =>
  refine ⟨.exit id,a₁,w₁,hq,fun k' hk=>.head h0 s1 (harr.1 k' (by simpa [exitTo] using hk)),fun hr1 hk=>?_⟩
  obtain ⟨k₁,h1,h2⟩:=harr.2 hr1 (by simpa [exitTo] using hk)
  exact ⟨k₁,h1,.head h0 s1 h2⟩
 | goto l=>exact hq.elim
 | ret=>exact ⟨_,a₁,w₁,hq,.of_steps (.one h0 s1) harr⟩
 | panic ch=>exact ⟨_,a₁,w₁,hq,.of_steps (.one h0 s1) harr⟩
 | outgrown=>exact ⟨_,a₁,w₁,hq,.of_steps (.one h0 s1) harr⟩
theorem zjc {l:List Oper} (h:l.all zg7=true):∀ o∈l,∀ c,o.op≠.defer c:=by
 intro o ho c hc
 have:=List.all_eq_true.1 h o ho
 unfold zg7 at this
 rw [hc] at this
 cases this
theorem zbv [K:KitOf P ‹LoopKit›] {C:CallF} (hC:zcm P κ C) (hB:Base κ own0 w0) (n:Nat) {ro rr:Option Nat} {rd:Bool} (hro:RoAt j0 ro rr) (hrd:rr=none∨rd=true):∀ (c':ACode) (c:Code),za3 P N rd c c'=true→∀ {e σ a w r Q},exec C n ro c' e σ=some r→St ι0 j0 own0 w0 N e σ a w→Post ι0 j0 own0 w0 N Q r→c.wpIn (FW rr) 0 P Q a w
 | .skip,c,hk,e,σ,a,w,r,Q,h,hSt,hQ=>by
  cases c <;> simp only [za3,Bool.false_eq_true] at hk
  simp only [exec,Option.some.injEq] at h
  subst h
  exact wpIn_skip (hQ a w hSt)
 | .ret,c,hk,e,σ,a,w,r,Q,h,hSt,hQ=>by
  cases c <;> simp only [za3,Bool.false_eq_true] at hk
  simp only [exec,Option.some.injEq] at h
  subst h
  exact wpIn_ret (hQ a w hSt)
 | .exit id,c,hk,e,σ,a,w,r,Q,h,hSt,hQ=>by
  cases c <;> simp only [za3,Bool.false_eq_true,beq_iff_eq] at hk
  subst hk
  simp only [exec,Option.some.injEq] at h
  subst h
  exact wpIn_exit (hQ a w hSt)
 | .seq x' y',c,hk,e,σ,a,w,r,Q,h,hSt,hQ=>by
  cases c <;> simp only [za3,Bool.false_eq_true,Bool.and_eq_true] at hk
  rename_i x y
  simp only [exec] at h
  cases hx:exec C n ro x' e σ with
  | none=>rw [hx] at h; cases h
  | some r1 =>
   obtain ⟨ex,e1,σ1⟩:=r1
   rw [hx] at h
   refine wpIn_seq (zbv hC hB n hro hrd x' x hk.1 hx hSt ?_)
   cases ex with
   | normal=>exact fun a1 w1 h1=>zbv hC hB n hro hrd y' y hk.2 h h1 hQ
   | exit id=>simp only [Option.some.injEq] at h; subst h; exact hQ
   | ret=>simp only [Option.some.injEq] at h; subst h; exact hQ
   | panic d=>simp only [Option.some.injEq] at h; subst h; exact hQ
   | goto l=>simp only [Option.some.injEq] at h; subst h; exact hQ
 | .cond c0 t' f',c,hk,e,σ,a,w,r,Q,h,hSt,hQ=>by
  cases c <;> simp only [za3,Bool.false_eq_true,Bool.and_eq_true] at hk
  rename_i x t f
  simp only [exec] at h
  obtain ⟨cl,h1,h⟩:=zaa h
  obtain ⟨b,h2,h⟩:=zaa h
  have hx:a.eval x=.bool b:=by
   obtain ⟨ι,j,own,lb,g1,g2,g3⟩:=hSt
   have hr:=zah g2 hk.1.1 h1
   cases hd:cl.d <;> rw [hd] at h2 hr <;> simp only [D.bool?,reduceCtorEq,Option.some.injEq] at h2
   subst h2
   simpa only [Rep] using hr
  refine wpIn_cond hx ?_
  cases b with
  | true=>exact zbv hC hB n hro hrd t' t hk.1.2 h hSt hQ
  | false=>exact zbv hC hB n hro hrd f' f hk.2 h hSt hQ
 | .block id b',c,hk,e,σ,a,w,r,Q,h,hSt,hQ=>by
  cases c <;> simp only [za3,Bool.false_eq_true,Bool.and_eq_true,beq_iff_eq] at hk
  rename_i id2 b
  obtain ⟨rfl,hk⟩:=hk
  simp only [exec] at h
  cases hx:exec C n ro b' e σ with
  | none=>rw [hx] at h; cases h
  | some r1 =>
   obtain ⟨ex,e1,σ1⟩:=r1
   rw [hx] at h
   refine wpIn_block (zbv hC hB n hro hrd b' b hk hx hSt ?_)
   cases ex with
   | normal=>simp only [Option.some.injEq] at h; subst h; exact hQ
   | exit id' =>
    simp only at h
    by_cases hid:id'=id2
    ·subst hid
     simp only [beq_self_eq_true,zac,Option.some.injEq] at h
     subst h
     intro a1 w1 h1
     simp only [Exit.inBlock,if_true]
     exact hQ a1 w1 h1
    ·have:(id' == id2)=false:=by simpa using hid
     simp only [this,zad,Option.some.injEq] at h
     subst h
     intro a1 w1 h1
     simp only [Exit.inBlock,if_neg hid]
     exact hQ a1 w1 h1
   | ret=>simp only [Option.some.injEq] at h; subst h; exact hQ
   | panic d=>simp only [Option.some.injEq] at h; subst h; exact hQ
   | goto l=>simp only [Option.some.injEq] at h; subst h; exact hQ
 | .frz ts b',c,hk,e,σ,a,w,r,Q,h,hSt,hQ=>by
  have hk':za3 P N rd c b'=true:=by cases c <;> simpa only [za3] using hk
  simp only [exec] at h
  obtain ⟨⟨e1,σ1⟩,h1,h⟩:=zaa h
  obtain ⟨ι,j,own,lb,g1,g2,g3⟩:=hSt
  obtain ⟨ι1,j1,own1,k1,k2,k3⟩:=zmo h1 g1 g2
  exact zbv hC hB n hro hrd b' c hk' h ⟨ι1,j1,own1,lb,k1,k2,g3.trans k3⟩ hQ
 | .stuck,c,hk,e,σ,a,w,r,Q,h,hSt,hQ=>by
  simp only [exec,reduceCtorEq] at h
 | .scope b',c,hk,e,σ,a,w,r,Q,h,hSt,hQ=>by
  cases c <;> simp only [za3,Bool.false_eq_true] at hk
  simp only [exec] at h
  cases hx:exec C n ro b' e σ with
  | none=>rw [hx] at h; cases h
  | some r1 =>
   obtain ⟨ex,e1,σ1⟩:=r1
   rw [hx] at h
   refine zm1 (zbv hC hB n hro hrd b' _ hk hx hSt ?_)
   cases ex with
   | goto l=>simp only [reduceCtorEq] at h
   | _=>simp only [Option.some.injEq] at h; subst h; exact hQ.noGoto (by simp)
 | .label l,c,hk,e,σ,a,w,r,Q,h,hSt,hQ=>by
  cases c <;> simp only [za3,Bool.false_eq_true] at hk
  simp only [exec,Option.some.injEq] at h
  subst h
  exact wpIn_label (hQ a w hSt)
 | .goto l,c,hk,e,σ,a,w,r,Q,h,hSt,hQ=>by
  cases c <;> simp only [za3,Bool.false_eq_true,beq_iff_eq] at hk
  subst hk
  simp only [exec,Option.some.injEq] at h
  subst h
  exact wpIn_goto (hQ a w hSt)
 | .scopeJ l b' r',c,hk,e,σ,a,w,r,Q,h,hSt,hQ=>by
  cases c <;> simp only [za3,Bool.false_eq_true,Bool.and_eq_true] at hk
  rename_i b
  obtain ⟨hk1,hk2⟩:=hk
  split at hk2
  ·rename_i rest hf
   simp only [exec] at h
   have key:∀ (m:Nat) {e1:Env} {σ1:Store} {ex:AExit},jumpN l (exec C n ro r') m (some (ex,e1,σ1))=some r→Post ι0 j0 own0 w0 N (jmp l (jumps (FW rr) 0 P l rest Q m) Q) (ex,e1,σ1):=by
    intro m
    induction m with
    | zero =>
     intro e1 σ1 ex h
     cases ex with
     | goto l'=>simp only [jumpN,reduceCtorEq] at h
     | _=>simp only [jumpN,Option.some.injEq] at h; subst h; exact hQ
    | succ m ih =>
     intro e1 σ1 ex h
     cases ex with
     | goto l' =>
      simp only [jumpN] at h
      obtain ⟨h1,h⟩:=zae h
      refine fun a1 w1 hs=>⟨by simpa using h1,?_⟩
      cases hx:exec C n ro r' e1 σ1 with
      | none=>rw [hx] at h; cases m <;> simp only [jumpN,reduceCtorEq] at h
      | some r1 =>
       obtain ⟨ex2,e2,σ2⟩:=r1
       rw [hx] at h
       exact zbv hC hB n hro hrd r' rest hk2 hx hs (ih h)
     | _=>simp only [jumpN,Option.some.injEq] at h; subst h; exact hQ
   cases hx:exec C n ro b' e σ with
   | none=>rw [hx] at h; cases n <;> simp only [jumpN,reduceCtorEq] at h
   | some r1 =>
    obtain ⟨ex,e1,σ1⟩:=r1
    rw [hx] at h
    exact zqr hf n (zbv hC hB n hro hrd b' b hk1 hx hSt (key n h))
  ·cases hk2
 | .loop b',c,hk,e,σ,a,w,r,Q,h,hSt,hQ=>by
  cases c <;> simp only [za3,Bool.false_eq_true] at hk
  rename_i b
  simp only [exec] at h
  have key:∀ (m:Nat) {e σ a w},loopN (exec C n ro b') m e σ=some r→St ι0 j0 own0 w0 N e σ a w→Code.roundsIn (FW rr) 0 P b Q m a w:=by
   intro m
   induction m with
   | zero=>intro e σ a w h _; cases h
   | succ m ih =>
    intro e σ a w h hSt
    simp only [loopN] at h
    cases hx:exec C n ro b' e σ with
    | none=>rw [hx] at h; cases h
    | some r1 =>
     obtain ⟨ex,e1,σ1⟩:=r1
     rw [hx] at h
     rw [roundsIn_succ]
     refine zbv hC hB n hro hrd b' b hk hx hSt ?_
     cases ex with
     | normal=>exact fun a1 w1 h1=>ih h h1
     | exit id=>simp only [Option.some.injEq] at h; subst h; exact hQ
     | ret=>simp only [Option.some.injEq] at h; subst h; exact hQ
     | panic d=>simp only [Option.some.injEq] at h; subst h; exact hQ
     | goto l=>simp only [Option.some.injEq] at h; subst h; exact hQ
  exact wpIn_loop_rounds n (key n h hSt)
 | .rangeM it nx more out drop clr b',c,hk,e,σ,a,w,r,Q,h,hSt,hQ=>by
  obtain ⟨i,rid,ops,b,rfl,hkk⟩:∃ i rid ops b,c=.block i (.loop (.seq (.region rid ops false) (.seq (.cond (.tmp more) .skip (.exit i)) b)))∧(i=out∧(rd=false∨ops.toList.all zg7=true)∧zrg P N ops it nx more=true∧za3 P N rd b b'=true):=by
   unfold za3 at hk
   split at hk
   all_goals first | (rename_i heq; cases heq; done) | (cases hk; done) | skip
   rename_i heq
   cases heq
   rename_i rid ops c0 i' b
   simp only [Bool.and_eq_true,beq_iff_eq,Bool.or_eq_true,Bool.not_eq_true'] at hk
   obtain ⟨⟨⟨⟨⟨rfl,rfl⟩,rfl⟩,k1⟩,k2⟩,k3⟩:=hk
   exact ⟨_,rid,ops,b,rfl,rfl,k1,k2,k3⟩
  obtain ⟨rfl,hk1,hk2,hk3⟩:=hkk
  have hdf:rr=none∨∀ o∈ops.toList,∀ c,o.op≠.defer c:=by
   rcases hrd with h | h
   ·exact .inl h
   ·exact .inr (zjc (hk1.resolve_left (by rw [h]; simp)))
  simp only [exec] at h
  refine wpIn_block (wpIn_loop_rounds n ?_)
  generalize idsAt e drop=drop at h
  have key:∀ (m:Nat) {e σ a w r},rangeN (exec C n ro b') it nx more i drop clr m e σ=some r→St ι0 j0 own0 w0 N e σ a w→Post ι0 j0 own0 w0 N Q r→Code.roundsIn (FW rr) 0 P (.seq (.region rid ops false) (.seq (.cond (.tmp more) .skip (.exit i)) b)) (Exit.inBlock i Q) m a w:=by
   intro m
   induction m with
   | zero=>intro e σ a w r h _ _; cases h
   | succ m ih =>
    intro e σ a w r h hSt hQ
    simp only [rangeN] at h
    obtain ⟨p,h1,h⟩:=zaa h
    obtain ⟨q,h2,h⟩:=zaa h
    obtain ⟨h3,h⟩:=zae h
    simp only [Bool.and_eq_true,Nat.ble_eq] at h3
    rw [roundsIn_succ]
    have hev:∀ {t:List D} {t1:Bool} {σ1:Store} {a1:Go.Act} {w1:World},St ι0 j0 own0 w0 N (setM1 e nx more t t1) σ1 a1 w1→a1.eval (.tmp more)=.bool t1:=by
     rintro t t1 σ1 a1 w1 ⟨ι,j,own,lb,g1,g2,g3⟩
     have:=(g2.slots more ⟨false,.bool t1⟩ (by simp only [setM1,Env.put,zak,if_true])).1
     have h':a1.tmps.getD more Go.undef=.bool t1:=by simpa only [Rep] using this
     exact h'
    refine wpIn_seq (zetb hC hB hk2 hdf hSt h1 h2 h3.1 h3.2 ?_ ?_)
    ·intro hnil a1 w1 hS
     rw [hnil] at h
     simp only [Option.some.injEq] at h
     subst h
     refine wpIn_seq (wpIn_cond (hev hS) (wpIn_exit ?_))
     simp only [Exit.then,Exit.inBlock,if_true]
     exact hQ a1 w1 (hS.fin drop clr)
    ·intro x hx a1 w1 hS
     have hgo:goM i drop clr (rangeN (exec C n ro b') it nx more i drop clr m) (exec C n ro b' (setM1 e nx more [.bool true,x.1,x.2.1] true) (stepM q x.2.2 σ))=some r:=by
      cases hl:leftM q.seen q.es with
      | nil=>rw [hl] at hx; cases hx
      | cons y rest =>
       rw [hl] at h hx
       simp only at h
       obtain ⟨a',h4,h⟩:=zaa h
       obtain ⟨h5,h⟩:=zae h
       cases h
       rcases List.mem_cons.1 hx with rfl | hx
       ·exact h4
       ·exact zbcb h5 x hx
     refine wpIn_seq (wpIn_cond (hev hS) (wpIn_skip ?_))
     cases hx2:exec C n ro b' (setM1 e nx more [.bool true,x.1,x.2.1] true) (stepM q x.2.2 σ) with
     | none=>rw [hx2] at hgo; cases hgo
     | some r1 =>
      obtain ⟨ex,e1,σ1⟩:=r1
      rw [hx2] at hgo
      refine zbv hC hB n hro hrd b' b hk3 hx2 hS ?_
      cases ex with
      | normal =>
       simp only [goM] at hgo
       exact fun a2 w2 h2=>ih hgo h2 hQ
      | exit k =>
       simp only [goM,Option.some.injEq] at hgo
       subst hgo
       intro a2 w2 h2
       by_cases hid:k=i
       ·subst hid
        simp only [beq_self_eq_true,zac,finM] at hQ
        simp only [Exit.then,Exit.inBlock,if_true]
        exact hQ a2 w2 (h2.fin drop clr)
       ·have:(k == i)=false:=by simpa using hid
        simp only [this,zad,finM] at hQ
        simp only [Exit.then,Exit.inBlock,if_neg hid]
        exact hQ a2 w2 (h2.fin drop clr)
      | ret =>
       simp only [goM,Option.some.injEq] at hgo
       subst hgo
       exact fun a2 w2 h2=>hQ a2 w2 (h2.fin drop clr)
      | panic d =>
       simp only [goM,Option.some.injEq] at hgo
       subst hgo
       exact fun a2 w2 ch h2=>hQ a2 w2 ch (h2.fin drop clr)
      | goto l =>
       simp only [goM,Option.some.injEq] at hgo
       subst hgo
       exact fun a2 w2 h2=>hQ a2 w2 (h2.fin drop clr)
  exact key n h hSt hQ
 | .rangeF g' ps' a' b',c,hk,e,σ,a,w,r,Q,h,hSt,hQ=>by
  cases c <;> simp only [za3,Bool.false_eq_true,Bool.and_eq_true,decide_eq_true_eq] at hk
  rename_i g ps as bd
  obtain ⟨⟨⟨⟨hg,hps⟩,hpN⟩,hka⟩,hkb⟩:=hk
  simp only [exec] at h
  obtain ⟨c,h1,h⟩:=zaa h
  obtain ⟨⟨f,x,y⟩,h2,h⟩:=zaa h
  obtain ⟨⟨lid,e1,σ1⟩,h3,h⟩:=zaa h
  obtain ⟨⟨out,σ2⟩,h4,h⟩:=zaa h
  simp only at h h4
  obtain ⟨ι,j,own,lb,g1,g2,g3⟩:=hSt
  obtain ⟨hY,vf,vc,hv,r1,r2⟩:=zf1b h2 (zah g2 hg h1)
  refine wpIn_rangeFunc fun fn _=>?_
  rw [zvg]
  obtain ⟨l,mark,w1,j1,own1,k1,k2,k3,k4,k5⟩:=zzf (P:=P) g1 g2 (hro.mono g3.lay) (ps:=ps) (by rw [← hps]) (fun p hp=>by simpa using List.all_eq_true.1 hpN p hp) ((K.iff _ _ _).2 hka) ((K.iff _ _ _).2 hkb) h3 fn
  obtain ⟨hbody,hcall⟩:=(zcd hY).1 (hC f _ σ1 out σ2 h4)
  have hE1:=g3.trans (k4.weaken (fun _ h=>h.elim))
  refine ⟨l,mark,w1,{target:=.fn (.func f) ⟨vc⟩,args:=⟨vf⟩ ++ #[.func (.yield l) #[] #[]]},w1,f,⟨vf ++ [.func (.yield l) ⟨[]⟩ ⟨[]⟩] ++ vc⟩,w1,k1,?_,fun f' _=>FW_fn rr f',?_,fun h=>zlk rr h,zlr.2 ?_⟩
  ·have hc:∀ v,a.eval (.const v)=v:=fun v=>rfl
   simp [resolve,hv,Deferred.ofValue,Sem.run_bind,Sem.run_pure,Result.andThen_ok,hc]
  ·obtain ⟨fn',c',q1,q2,q3⟩:=hbody
   have harr:(⟨vf⟩:Array Value) ++ #[.func (.yield l) #[] #[]] ++ ⟨vc⟩=⟨vf ++ [.func (.yield l) ⟨[]⟩ ⟨[]⟩] ++ vc⟩:=by
    apply Array.ext'
    simp
   simp only [invoke]
   rw [harr]
   exact MuLone.run_callFunc_enter q1 q2 q3 _ w1
  ·refine (hcall _ j1 (shared own1) w1 _ (zc1 own1) (hB.evo hE1).shared k2.toShared (((k4.repL r1).append (vb:=[.func (.yield l) ⟨[]⟩ ⟨[]⟩]) ?_).append (k4.repL r2))).mono ?_
   ·simp only [RepL,Rep]
    exact ⟨_,_,rfl,⟨l,k5,rfl⟩,rfl⟩
   ·rintro en w3 ⟨ι2,j2,own2,q1,q2,q3,q4⟩
    cases out with
    | panic d=>simp only at h; cases h
    | ret c2 =>
     cases en with
     | panicked chain=>exact q4.elim
     | outgrown=>exact q4.elim
     | returned v =>
      simp only at h
      obtain ⟨own3,s1,s2,s3,_⟩:=zgd k2 k3 q1 q2 q3 0 false c2.d v (fun h=>by cases h)
      unfold endLoop at h
      obtain ⟨r2',h5,h⟩:=zaa h
      have hj2:j2 lid=some l:=s3.lay _ _ k5
      obtain ⟨L,t1,t2,t3,t4⟩:=zij s1 h5 hj2 (st:=.over) (s:=.exhausted) (p:=(match r2'.st with | .done (.exit i)=>some (.exit i) | .done .ret=>some .ret | _=>none)) trivial
      have hfin:∀ (hb:L.state≠.busy),L.pending=(match r2'.st with | .done (.exit i)=>some (.exit i) | .done .ret=>some .ret | _=>none)→∃ w4,(Instr.endLoop l).run P w3=.ok (match r2'.st with | .done (.exit i)=>some (.exit i) | .done .ret=>some .ret | _=>none) w4 ∧
        St ι0 j0 own0 w0 N e1 {σ2 with oth:=adel1 σ2.oth lid} {a with defers:=mark ++ a.defers} w4:=by
       intro hb hp
       have hrun:=run_endLoop (P:=P) t1 hb
       rw [hp] at hrun
       refine ⟨_,hrun,ι2,j2,own3,lb,?_,?_,(hE1.trans s3).trans (t4.weaken fun _ _=>trivial)⟩
       ·have t3':=t3.sub (σ':={σ2 with oth:=adel1 σ2.oth lid}) (fun id cs h=>⟨cs,h,zbk.refl cs⟩) (Nat.le_refl _) (fun id t h=>h) (fun id x h=>by
         simp only [zam] at h
         by_cases hid:lid=id
         ·rw [if_pos hid] at h; cases h
         ·rw [if_neg hid] at h
          simp only [zgm,zak,if_neg hid]
          exact h)
        rw [hp] at *
        exact t3'
       ·rw [hp] at *
        exact s2.evoO t4
      cases hst:r2'.st with
      | busy=>rw [hst] at h; simp only at h; cases h
      | over=>rw [hst] at h; simp only at h; cases h
      | ready =>
       rw [hst] at h t2 hfin
       simp only [Option.some.injEq] at h
       subst h
       obtain ⟨w4,e1',e2'⟩:=hfin (by rw [t2.1]; simp) t2.2
       exact ⟨none,w4,e1',hQ _ _ e2'⟩
      | done x =>
       rw [hst] at h t2 hfin
       obtain ⟨u1,c4,u2,u3⟩:=t2
       cases x with
       | exit i =>
        simp only [Option.some.injEq] at h
        subst h
        obtain ⟨w4,e1',e2'⟩:=hfin (by rw [u1]; simp) (by rw [u2,u3])
        exact ⟨_,w4,e1',wpIn_exit (hQ _ _ e2')⟩
       | ret =>
        simp only [Option.some.injEq] at h
        subst h
        obtain ⟨w4,e1',e2'⟩:=hfin (by rw [u1]; simp) (by rw [u2,u3])
        exact ⟨_,w4,e1',wpIn_ret (hQ _ _ e2')⟩
 | .region l perm clr,c,hk,e,σ,a,w,r,Q,h,hSt,hQ=>by
  simp only [exec] at h
  cases ho:runOps C l e σ with
  | none=>rw [ho] at h; cases h
  | some out =>
   rw [ho] at h
   have hpost:perm=none→zbbb ι0 j0 own0 w0 N Q out:=by
    rintro rfl
    cases out with
    | normal e1 σ1 =>
     simp only [Option.some.injEq] at h
     subst h
     exact fun a1 w1 h1=>hQ a1 w1 (h1.clear clr)
    | panic d e1 σ1 =>
     simp only [Option.some.injEq] at h
     subst h
     exact hQ
   have hpostD:∀ p,perm=some p→zja ι0 j0 own0 w0 N Q out:=by
    rintro p rfl
    cases out with
    | normal e1 σ1 =>
     simp only [Option.some.injEq] at h
     subst h
     exact fun a1 w1 h1=>hQ a1 w1 (h1.clear clr)
    | panic d e1 σ1 =>
     simp only [Option.some.injEq] at h
     subst h
     exact hQ
   cases c with
   | region id ops d =>
    cases d with
    | false =>
     cases perm with
     | none =>
      simp only [za3,Bool.and_eq_true,Bool.or_eq_true,Bool.not_eq_true'] at hk
      have hdf:rr=none∨∀ o∈ops.toList,∀ c,o.op≠.defer c:=by
       rcases hrd with h | h
       ·exact .inl h
       ·exact .inr (zjc (hk.1.resolve_left (by rw [h]; simp)))
      exact wpIn_region_list (zgy hC hB hk.2.1 _ _ hk.2.2 hdf ho hSt (hpost rfl))
     | some p=>simp [za3] at hk
    | true =>
     cases perm with
     | none=>simp [za3] at hk
     | some p =>
      simp only [za3,zcab,Bool.and_eq_true,beq_iff_eq] at hk
      obtain ⟨hk0,hk⟩:=hk
      simp only [Bool.or_eq_true,Bool.not_eq_true'] at hk0
      have hdf:rr=none∨∀ o∈ops.toList,∀ c,o.op≠.defer c:=by
       rcases hrd with h | h
       ·exact .inl h
       ·exact .inr (zjc (hk0.resolve_left (by rw [h]; simp)))
      obtain ⟨hm,⟨⟨⟨⟨⟨⟨⟨k1,k2⟩,k3⟩,k3b⟩,k4⟩,k5⟩,k6⟩,k7⟩⟩:=hk
      refine wpIn_region_any hm ?_
      have hmap1:(p.zip l).map (·.1)=p:=by
       rw [show ((p.zip l).map (·.1))=(p.zip l).map Prod.fst from rfl,List.map_fst_zip (by omega)]
      have hmap2:(p.zip l).map (·.2)=l:=by
       rw [show ((p.zip l).map (·.2))=(p.zip l).map Prod.snd from rfl,List.map_snd_zip (by omega)]
      have hlen:(p.zip l).length=ops.size:=by rw [List.length_zip]; omega
      have hall:∀ k,k < ops.size→k∈p:=fun k hk=>by
       simpa using List.all_eq_true.1 k3b k (List.mem_range.2 hk)
      have:=zbab hC hB hdf k4 k5 (p.zip l) (Array.replicate ops.size false) (Q:=Q) k6 k7 (by rw [hmap1]; exact zpd k3) (by simp) (fun k hk=>by
       rw [hmap1]
       refine ⟨fun _=>hall k hk,fun _=>?_⟩
       simp [hk]) (fun k hk hn=>absurd (by rw [hmap1]; exact hall k hk) hn) (by rw [hmap2]; exact ho) hSt.draw (hpostD p rfl)
      rw [hlen] at this
      exact this
   | _=>simp [za3] at hk
end
end Go.Mx
namespace Go.Mx
open Go
def zce (P:Program) (fn:Func) (tmps:Array Value) (R:Ending→World→Prop):List Deferred→FrameMode→World→Prop
 | [],u,w=>Leaves P fn tmps R [] u w
 | d :: ds,u,w=>u≠.run∧((∃ r w',d.target=.collected r∧(Instr.takeDeferred r).run P w=.ok [] w'∧zce P fn tmps R ds u w') ∨
     (∃ fv cap f args,d.target=.fn fv cap∧(invoke d.target d.args).run P w=.ok (.enter f args) w ∧
     CallsD P f args u w fun
      | .returned _,u',w'=>zce P fn tmps R ds (settle u') w'
      | .panicked chain,u',w'=>zce P fn tmps R ds (raised u' chain) w'
      | .outgrown,_,w'=>R .outgrown w'))
section
variable {P:Program}
theorem zie {fn:Func} {tmps:Array Value} {R:Ending→World→Prop}:∀ (ds:List Deferred) (u:FrameMode) (w:World) (fr:Frame)
  (cs:List Frame),fr.mode=u→fr.defers=ds→fr.tmps=tmps→P.funcs[fr.fn]?=some fn→fr.kind=.normal→zce P fn tmps R ds u w →
  ∃ e w' fr',R e w'∧Comes P (lone fr cs w) (lone fr' cs w') e∧fr'.fn=fr.fn∧fr'.leaving P w' e:=by
 intro ds
 induction ds with
 | nil=>exact fun u w fr cs hu hd ht hf hk h=>leaves_steps [] u w fr cs hu hd ht hf hk h
 | cons d ds ih =>
  intro u w fr cs hu hd ht hf hk h
  obtain ⟨hrun,h⟩:=h
  rcases h with ⟨r,w',htar,htake,hrest⟩ | ⟨fv,cap,f,args,htar,hinv,hcall⟩
  ·have h1:=step_collected (cs:=cs) (hu ▸ hrun) hd htar htake
   obtain ⟨e',w'',fr',hR',hs',hfn',hl'⟩:=ih u w' {fr with defers:=[] ++ ds} cs hu rfl ht hf hk hrest
   exact ⟨e',w'',fr',hR',Comes.of_steps (.one h1) hs',hfn',hl'⟩
  ·have h1:=step_defer (cs:=cs) (hu ▸ hrun) hd htar hinv
   obtain ⟨e,u',w',frX,hR,hsteps,hkX,hgo⟩:=hcall {fr with defers:=ds} cs hu
   cases e with
   | returned v =>
    have h2:=step_going_returned (c:={{fr with defers:=ds} with mode:=u'}) (cs:=cs) hkX hgo
    obtain ⟨e',w'',fr',hR',hs',hfn',hl'⟩:=ih (settle u') w' {{{fr with defers:=ds} with mode:=u'} with mode:=settle u'} cs rfl rfl ht hf hk hR
    exact ⟨e',w'',fr',hR',Comes.of_steps (.head h1 (Steps.trans hsteps (.one h2))) hs',hfn',hl'⟩
   | panicked chain =>
    have h2:=step_going_panicked (c:={{fr with defers:=ds} with mode:=u'}) (cs:=cs) hgo
    obtain ⟨e',w'',fr',hR',hs',hfn',hl'⟩:=ih (raised u' chain) w' {{{fr with defers:=ds} with mode:=u'} with mode:=raised u' chain} cs rfl rfl ht hf hk hR
    exact ⟨e',w'',fr',hR',Comes.of_steps (.head h1 (Steps.trans hsteps (.one h2))) hs',hfn',hl'⟩
   | outgrown=>exact ⟨.outgrown,w',fr,hR,Outgrown.of_steps (.one h1) hsteps,rfl,trivial⟩
def zm5 (P:Program) (fn:Func) (R:Ending→World→Prop):Exit→Go.Act→World→Prop
 | .normal,a,w | .ret,a,w=>zce P fn a.tmps R a.defers .returning w
 | .panic chain,a,w=>zce P fn a.tmps R a.defers (.panicking chain) w
 | .outgrown,_,w=>R .outgrown w
 | _,_,_=>False
theorem zil {f:FuncId} {fn:Func} {c:Code} {args:Array Value} {w:World} {R:Ending→World→Prop}
  (hf:P.funcs[f]?=some fn) (hb:fn.body=some c)
  (h:c.wp P (zm5 P fn R) {tmps:=args ++ Array.replicate (fn.ntmps - args.size) Go.undef,defers:=[]} w):Calls P f args w R:=by
 intro cs
 let b:Frame:={(default:Frame) with fn:=f,kind:=.normal}
 have henter:Frame.enter P f args .normal =
   b.at {tmps:=args ++ Array.replicate (fn.ntmps - args.size) Go.undef,defers:=[]} [.code c]:=by
  simp [Frame.enter,Frame.at,hf,hb,b]
 obtain ⟨e,a',w',hq,harr⟩:=h b [] cs
 rw [← henter] at harr
 cases e with
 | normal =>
  obtain ⟨e',w'',fr',hR,hs,hfn,hl⟩:=zie a'.defers .returning w' {b.at a' [] with mode:=.returning} cs rfl rfl rfl hf rfl hq
  exact ⟨e',w'',fr',hR,Comes.of_steps (Steps.trans harr (.one step_end)) hs,hfn,hl⟩
 | ret =>
  obtain ⟨todo,hs₀⟩:=harr
  obtain ⟨e',w'',fr',hR,hs,hfn,hl⟩:=zie a'.defers .returning w' {b.at a' todo with mode:=.returning} cs rfl rfl rfl hf rfl hq
  exact ⟨e',w'',fr',hR,Comes.of_steps hs₀ hs,hfn,hl⟩
 | panic chain =>
  obtain ⟨todo,hs₀⟩:=harr
  obtain ⟨e',w'',fr',hR,hs,hfn,hl⟩:=zie a'.defers (.panicking chain) w' {b.at a' todo with mode:=.panicking chain} cs rfl rfl rfl hf rfl hq
  exact ⟨e',w'',fr',hR,Comes.of_steps hs₀ hs,hfn,hl⟩
 | exit id=>exact hq.elim
 | goto l=>exact hq.elim
 | outgrown=>exact ⟨.outgrown,w',b,hq,harr.resolve_left (by simp [b]),rfl,trivial⟩
theorem znv {fn:Func} {tmps:Array Value} {R:Ending→World→Prop} {fv:Fn} {cap dargs:Array Value} {ds:List Deferred} {u:FrameMode} {w:World} {f:FuncId} {args:Array Value} (hu:u≠.run)
  (hi:(invoke (.fn fv cap) dargs).run P w=.ok (.enter f args) w) (hc:CallsD P f args u w fun
      | .returned _,u',w'=>zce P fn tmps R ds (settle u') w'
      | .panicked chain,u',w'=>zce P fn tmps R ds (raised u' chain) w'
      | .outgrown,_,w'=>R .outgrown w'):zce P fn tmps R ({target:=.fn fv cap,args:=dargs} :: ds) u w :=
 ⟨hu,.inr ⟨fv,cap,f,args,rfl,hi,hc⟩⟩
end
end Go.Mx

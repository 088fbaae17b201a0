/-
  Calls that leave the store: what is known of them is asked of an oracle; one function's body at the empty store tells of its call at every store.
-/
import Derived.Test.YtldfbnbckiifeaaGreatDoorFgIds
import Derived.Test.YtldfbnbckiifeaaGreatDoorMyDe
import Derived.Test.YtldfbnbckiifeaaGreatDoorFgLib
set_option linter.unusedSimpArgs false
set_option linter.unusedVariables false
set_option linter.unusedSectionVars false
set_option linter.defProp false
namespace Go.Mx
open Go
section
variable [LoopKit] {P : Program} {κ : Ctx} {Post : FuncId → List D → Cell → Prop}
def Pure (P : Program) (κ : Ctx) (f : FuncId) (ds : List D) (c : Cell) : Prop := ∀ σ, zdp P κ f ds σ (.ret c) σ
def Has (P : Program) (κ : Ctx) (Post : FuncId → List D → Cell → Prop) (f : FuncId) (ds : List D) : Prop := ∃ c, Post f ds c ∧ Pure P κ f ds c
open Classical in
noncomputable def orc (P : Program) (κ : Ctx) (Post : FuncId → List D → Cell → Prop) : CallF := fun f ds σ => if h : Has P κ Post f ds then some (.ret (Classical.choose h), σ) else none
theorem zegb : zc4 P κ (orc P κ Post) := by
  intro f ds σ out σ' h
  unfold orc at h
  split at h
  · rename_i hs
    cases h
    exact (Classical.choose_spec hs).2 σ
  · cases h
theorem zjhb {f : FuncId} {ds : List D} (h : Has P κ Post f ds) : ∃ c, Post f ds c ∧ ∀ σ, orc P κ Post f ds σ = some (.ret c, σ) := by
  refine ⟨Classical.choose h, (Classical.choose_spec h).1, fun σ => ?_⟩
  unfold orc
  rw [dif_pos h]
theorem Pure.weak {f : FuncId} {ds : List D} {o : Bool} {d : D} (hY : isY f = false) (h : Pure P κ f ds ⟨o, d⟩) : Pure P κ f ds ⟨false, d⟩ := by
  intro σ
  have h1 := (zcz hY).1 (h σ)
  refine (zcz hY).2 ⟨h1.1, fun ι j own w vs hS hB hG hr => (h1.2 ι j own w vs hS hB hG hr).mono ?_⟩
  rintro e w' ⟨ι', j', own', k1, k2, k3, k4⟩
  refine ⟨ι', j', own', k1, k2, k3, ?_⟩
  cases e with
  | returned v => exact ⟨k4.1, fun h => by cases h⟩
  | panicked c => exact k4
  | outgrown => exact k4
theorem zrg : ziz P κ (fun _ _ _ => none) := fun _ _ _ _ _ h => by cases h
theorem zkh [K : KitOf P ‹LoopKit›] {C : CallF} {R : RecF} (hC : zc4 P κ C) (hR : zi8 P κ R) {n f : Nat} {fn : Func} {af : AFun} {ds : List D} {σ' : Store} {c : Cell} (hY : isY f = false) (hfn : P.funcs[f]? = some fn) (hok : okFun P fn af = true) (hlen : ds.length = af.nargs)
    (hd : zan ds = true) (hc : noPtr c.d = true) (h : (match exec C n none af.body (zbp ds) σ0 with
         | some r => ze1 R (fun _ _ _ => none) false af 0 r
         | none => none) = some (.ret c, σ')) : Pure P κ f ds c :=
  fun σ => zp1 hY (zhwb hC zrg hR hY hfn hok hlen h) hd hc σ
abbrev Specs := List (FuncId × (List D → Cell → Prop))
def zt1 (S : Specs) (f : FuncId) (ds : List D) (c : Cell) : Prop := ∃ s, aget S f = some s ∧ s ds c
def has (S : Specs) (f : FuncId) : Bool := caseO (aget S f) false fun _ => true
noncomputable def runS (P : Program) (κ : Ctx) (Γ : FuncId → Option AFun) (R : RecF) (X : CallF) (S : Specs) (n : Nat) : CallF :=
  runQ (fun f => ifB (has S f) none (Γ f)) R (fun f ds σ => ifB (has S f) (orc P κ (zt1 S) f ds σ) (X f ds σ)) n false
noncomputable def runSD (P : Program) (κ : Ctx) (Γ : FuncId → Option AFun) (R : RecF) (X : CallF) (S : Specs) (n : Nat) : CallF :=
  runQ (fun f => ifB (has S f) none (Γ f)) R (fun f ds σ => ifB (has S f) (orc P κ (zt1 S) f ds σ) (X f ds σ)) n true
theorem zqp [K : KitOf P ‹LoopKit›] {Γ : FuncId → Option AFun} {R : RecF} {X : CallF} {S : Specs} (hΓ : Holds P Γ) (hR : zi8 P κ R) (hX : zc4 P κ X) (n : Nat) : zc4 P κ (runS P κ Γ R X S n) ∧ ziz P κ (runSD P κ Γ R X S n) := by
  refine znk (fun f af h => ?_) hR (fun f ds σ out σ' h => ?_) n
  · cases hs : has S f with
    | true => rw [hs] at h; cases h
    | false => rw [hs] at h; exact hΓ f af h
  · cases hs : has S f with
    | true => rw [hs] at h; exact zegb _ _ _ _ _ h
    | false => rw [hs] at h; exact hX _ _ _ _ _ h
theorem zvt {Γ : FuncId → Option AFun} {R : RecF} {X : CallF} {S : Specs} {n : Nat} {f : FuncId} {af : AFun} {ds : List D} {σ : Store} (hs : has S f = false) (h : Γ f = some af) (hl : ds.length = af.nargs) :
    runS P κ Γ R X S (n + 1) f ds σ = finX R (runSD P κ Γ R X S n) af σ.next (exec (runS P κ Γ R X S n) n none af.body (zbp ds) σ) := zg5b (by rw [hs]; exact h) hl
theorem zg6b {Γ : FuncId → Option AFun} {R : RecF} {X : CallF} {S : Specs} {n : Nat} {f : FuncId} {ds : List D} {σ : Store} (hs : has S f = false) (h : Γ f = none) (hY : isY f = false) : runS P κ Γ R X S (n + 1) f ds σ = X f ds σ := by
  refine (zvs (by rw [hs]; exact h) hY).trans ?_
  rw [hs]
  rfl
theorem zvu {Γ : FuncId → Option AFun} {R : RecF} {X : CallF} {S : Specs} {f : FuncId} {s : List D → Cell → Prop} {ds : List D} {c : Cell} (hf : aget S f = some s) (hY : isY f = false) (hs : s ds c) (hp : Pure P κ f ds c) : ∃ c', s ds c' ∧ ∀ n σ, runS P κ Γ R X S (n + 1) f ds σ = some (.ret c', σ) := by
  have hh : has S f = true := by unfold has; rw [hf]; rfl
  obtain ⟨c', ⟨s', h1, h2⟩, h3⟩ := zjhb (P := P) (κ := κ) (Post := zt1 S) (f := f) (ds := ds) ⟨c, ⟨s, hf, hs⟩, hp⟩
  rw [hf] at h1
  cases h1
  refine ⟨c', h2, fun n σ => ?_⟩
  refine (zvs (by rw [hh]; rfl) hY).trans ?_
  rw [hh]
  exact h3 σ
end
end Go.Mx
namespace Go.Fu
open Go Go.Mx
set_option maxRecDepth 10000
abbrev Tx := List UInt8
def dSs (l : List Tx) : D := dlist k_1 (l.map D.str)
structure Hd where
  form : Int
  num : Int
  name : Tx
  vars : List Tx
inductive Co where
  | mk (f n : Int) (s : Tx) (ks : List Co) (bs : List (Tx × Co)) (al : List (Hd × Co))
namespace Co
def f : Co → Int
  | .mk f _ _ _ _ _ => f
def n : Co → Int
  | .mk _ n _ _ _ _ => n
def s : Co → Tx
  | .mk _ _ s _ _ _ => s
def ks : Co → List Co
  | .mk _ _ _ ks _ _ => ks
def bs : Co → List (Tx × Co)
  | .mk _ _ _ _ bs _ => bs
def al : Co → List (Hd × Co)
  | .mk _ _ _ _ _ al => al
end Co
mutual
def dCo : Co → D
  | .mk f n s ks bs al => .agg [.int .i64 f, .int .i64 n, .str s, .int .i64 0, .int .i64 0, .str [], .nils, dlist k_6 (dKs ks), dlist k_20 (dBs bs), dlist k_19 (dAs al)]
def dKs : List Co → List D
  | [] => []
  | c :: r => dCo c :: dKs r
def dBs : List (Tx × Co) → List D
  | [] => []
  | (s, c) :: r => .agg (.str s :: .int .i64 0 :: .int .i64 0 :: .str [] :: .nils :: (dCo c).cells) :: dBs r
def dAs : List (Hd × Co) → List D
  | [] => []
  | (h, c) :: r => .agg (.int .i64 h.form :: .int .i64 h.num :: .str h.name :: dSs h.vars :: (dCo c).cells) :: dAs r
end
def dB (b : Tx × Co) : D := .agg (.str b.1 :: .int .i64 0 :: .int .i64 0 :: .str [] :: .nils :: (dCo b.2).cells)
def dA (a : Hd × Co) : D := .agg (.int .i64 a.1.form :: .int .i64 a.1.num :: .str a.1.name :: dSs a.1.vars :: (dCo a.2).cells)
theorem zy0 : ∀ l : List Co, dKs l = l.map dCo
  | [] => by simp [dKs]
  | c :: r => by simp [dKs, zy0 r]
theorem zyw : ∀ l : List (Tx × Co), dBs l = l.map dB
  | [] => by simp [dBs]
  | (s, c) :: r => by simp [dBs, zyw r, dB]
theorem zkp : ∀ l : List (Hd × Co), dAs l = l.map dA
  | [] => by simp [dAs]
  | (s, c) :: r => by simp [dAs, zkp r, dA]
def cCo (c : Co) : List D := [.int .i64 c.f, .int .i64 c.n, .str c.s, .int .i64 0, .int .i64 0, .str [], .nils, dlist k_6 (c.ks.map dCo), dlist k_20 (c.bs.map dB), dlist k_19 (c.al.map dA)]
theorem zae (c : Co) : dCo c = .agg (cCo c) := by
  cases c
  simp only [dCo, cCo, Co.f, Co.n, Co.s, Co.ks, Co.bs, Co.al, zy0, zyw, zkp]
theorem zd2 (c : Co) : (dCo c).cells = cCo c := by rw [zae]; rfl
theorem zjs (c : Co) : (dCo c).cells.length = 10 := by rw [zd2]; rfl
theorem agg?_dCo (c : Co) : (dCo c).agg? = some (cCo c) := by rw [zae]; rfl
theorem zqf (c : Co) : (dCo c).ok = true := by
  rw [zae]
  simp only [cCo, D.ok, List.all_cons, D.one, zcg, List.all_nil, Bool.and_self]
theorem dB_eq (b : Tx × Co) : dB b = .agg (.str b.1 :: .int .i64 0 :: .int .i64 0 :: .str [] :: .nils :: cCo b.2) := by rw [dB, zd2]
theorem dA_eq (a : Hd × Co) : dA a = .agg (.int .i64 a.1.form :: .int .i64 a.1.num :: .str a.1.name :: dSs a.1.vars :: cCo a.2) := by rw [dA, zd2]
theorem ok_dB (b : Tx × Co) : (dB b).ok = true := by
  rw [dB_eq]
  simp only [cCo, D.ok, List.all_cons, D.one, zcg, List.all_nil, Bool.and_self]
theorem ok_dA (b : Hd × Co) : (dA b).ok = true := by
  rw [dA_eq]
  simp only [cCo, dSs, D.ok, List.all_cons, D.one, zcg, List.all_nil, Bool.and_self]
theorem zfub (b : Tx × Co) : (dB b).cells.length = 15 := by rw [dB_eq]; rfl
theorem zftb (b : Hd × Co) : (dA b).cells.length = 14 := by rw [dA_eq]; rfl
theorem zfd {k : RowK} : ∀ {a b : List D}, dlist k a = dlist k b → a = b
  | [], [], _ => rfl
  | [], _ :: _, h => by cases h
  | _ :: _, [], h => by cases h
  | x :: a, y :: b, h => by
    simp only [dlist, D.list.injEq, true_and] at h
    exact h
theorem zi4 {α : Type} {g : α → D} (hg : ∀ {a b}, g a = g b → a = b) : ∀ {l m : List α}, l.map g = m.map g → l = m
  | [], [], _ => rfl
  | [], _ :: _, h => by simp at h
  | _ :: _, [], h => by simp at h
  | x :: l, y :: m, h => by
    simp only [List.map_cons, List.cons.injEq] at h
    rw [hg h.1, zi4 hg h.2]
theorem zjtb {a b : Tx} (h : D.str a = D.str b) : a = b := by cases h; rfl
theorem zbn {a b : List Tx} (h : dSs a = dSs b) : a = b := zi4 zjtb (zfd h)
mutual
theorem zcn : ∀ {a b : Co}, dCo a = dCo b → a = b
  | .mk f n s ks bs al, .mk f2 n2 s2 ks2 bs2 al2, h => by
    simp only [dCo, D.agg.injEq, List.cons.injEq, D.int.injEq, D.str.injEq, and_true, true_and] at h
    obtain ⟨rfl, rfl, rfl, h1, h2, h3⟩ := h
    rw [zyz (zfd h1), zyv (zfd h2), zq6 (zfd h3)]
theorem zyz : ∀ {a b : List Co}, dKs a = dKs b → a = b
  | [], [], _ => rfl
  | [], _ :: _, h => by simp [dKs] at h
  | _ :: _, [], h => by simp [dKs] at h
  | x :: l, y :: m, h => by
    simp only [dKs, List.cons.injEq] at h
    rw [zcn h.1, zyz h.2]
theorem zyv : ∀ {a b : List (Tx × Co)}, dBs a = dBs b → a = b
  | [], [], _ => rfl
  | [], _ :: _, h => by simp [dBs] at h
  | _ :: _, [], h => by simp [dBs] at h
  | (s, x) :: l, (t, y) :: m, h => by
    simp only [dBs, List.cons.injEq, D.agg.injEq, D.str.injEq, true_and] at h
    have hx : dCo x = dCo y := by rw [zae, zae, ← zd2 x, ← zd2 y, h.1.2]
    rw [zcn hx, zyv h.2, h.1.1]
theorem zq6 : ∀ {a b : List (Hd × Co)}, dAs a = dAs b → a = b
  | [], [], _ => rfl
  | [], _ :: _, h => by simp [dAs] at h
  | _ :: _, [], h => by simp [dAs] at h
  | (s, x) :: l, (t, y) :: m, h => by
    simp only [dAs, List.cons.injEq, D.agg.injEq, D.str.injEq, D.int.injEq, true_and] at h
    obtain ⟨⟨h1, h2, h3, h4, h5⟩, h6⟩ := h
    have hx : dCo x = dCo y := by rw [zae, zae, ← zd2 x, ← zd2 y, h5]
    have hs : s = t := by
      cases s; cases t
      simp only at h1 h2 h3 h4
      rw [h1, h2, h3, zbn h4]
    rw [zcn hx, zq6 h6, hs]
end
structure In where
  op : Tx
  n : Int
  m : Int
  name : Tx
def dI (i : In) : D := .agg [.str i.op, .int .i64 i.n, .int .i64 i.m, .str i.name]
theorem zc4b {a b : In} (h : dI a = dI b) : a = b := by
  cases a; cases b
  simpa [dI] using h
def dIs (l : List In) : D := dlist k_0 (l.map dI)
theorem zyy {a b : List In} (h : dIs a = dIs b) : a = b := zi4 zc4b (zfd h)
structure Cd where
  name : Tx
  arity : Int
  body : List In
def dD (c : Cd) : D := .agg [.str c.name, .int .i64 c.arity, dIs c.body]
def dDs (l : List Cd) : D := dlist k_3 (l.map dD)
structure Su where
  name : Tx
  ps : List Tx
  body : Co
def dU (s : Su) : D := .agg (.str s.name :: dSs s.ps :: cCo s.body)
def dUs (l : List Su) : D := dlist k_9 (l.map dU)
theorem zc5b {a b : Su} (h : dU a = dU b) : a = b := by
  obtain ⟨n, p, c⟩ := a
  obtain ⟨n2, p2, c2⟩ := b
  simp only [dU, D.agg.injEq, List.cons.injEq, D.str.injEq] at h
  obtain ⟨rfl, h2, h3⟩ := h
  have hx : dCo c = dCo c2 := by rw [zae, zae, h3]
  rw [zbn h2, zcn hx]
theorem zy1 {a b : List Su} (h : dUs a = dUs b) : a = b := zi4 zc5b (zfd h)
structure Fd where
  name : Tx
  tag : Int
  many : Int
  arity : Int
def dF (f : Fd) : D := .agg [.str f.name, .int .i64 f.tag, .int .i64 f.many, .int .i64 f.arity, .int .i64 0, .int .i64 0, .str [], .nils]
def dFs (l : List Fd) : D := dlist k_104 (l.map dF)
theorem zdk {k : RowK} : ∀ l : List D, noPtr (dlist k l) = zan l
  | [] => rfl
  | x :: l => rfl
theorem zc3 {α : Type} {g : α → D} (h : ∀ a, noPtr (g a) = true) : ∀ l : List α, zan (l.map g) = true
  | [] => rfl
  | x :: l => by simp [zan, h x, zc3 h l]
theorem zas (l : List Tx) : noPtr (dSs l) = true := by rw [dSs, zdk]; exact zc3 (fun _ => rfl) l
mutual
theorem za5 : ∀ c : Co, noPtr (dCo c) = true
  | .mk f n s ks bs al => by simp [dCo, noPtr, zan, zdk, zsp ks, zso bs, zm7 al]
theorem zsp : ∀ l : List Co, zan (dKs l) = true
  | [] => by simp [dKs, zan]
  | c :: r => by simp [dKs, zan, za5 c, zsp r]
theorem zso : ∀ l : List (Tx × Co), zan (dBs l) = true
  | [] => by simp [dBs, zan]
  | (s, c) :: r => by
    have h := za5 c
    rw [zae] at h
    simp only [noPtr] at h
    simp [dBs, zan, noPtr, zso r, zd2, h]
theorem zm7 : ∀ l : List (Hd × Co), zan (dAs l) = true
  | [] => by simp [dAs, zan]
  | (s, c) :: r => by
    have h := za5 c
    rw [zae] at h
    simp only [noPtr] at h
    simp [dAs, zan, noPtr, zm7 r, zd2, h, zas]
end
theorem zd6b (c : Co) : zan (cCo c) = true := by
  have h := za5 c
  rw [zae] at h
  simpa only [noPtr] using h
theorem zdi (l : List In) : noPtr (dIs l) = true := by rw [dIs, zdk]; exact zc3 (fun _ => rfl) l
theorem zgpb (c : Cd) : noPtr (dD c) = true := by simp [dD, noPtr, zan, zdi]
theorem zfi (l : List Cd) : noPtr (dDs l) = true := by rw [dDs, zdk]; exact zc3 zgpb l
theorem zu4 (s : Su) : noPtr (dU s) = true := by simp [dU, noPtr, zan, zas, zd6b]
theorem zdj (l : List Su) : noPtr (dUs l) = true := by rw [dUs, zdk]; exact zc3 zu4 l
theorem zgf (l : List Fd) : noPtr (dFs l) = true := by rw [dFs, zdk]; exact zc3 (fun _ => rfl) l
end Go.Fu
namespace Go.Fu
open Go Go.Mx
set_option maxRecDepth 1000000
theorem zou : zc4 Go.Proofs.Tryz.prog κ Xa := by
  intro f ds σ out σ' h
  unfold Xa at h
  by_cases h1 : f = n_32
  · subst h1
    simp only [beq_self_eq_true, zad] at h
    obtain ⟨d, h2, h⟩ := zaa h
    cases h
    exact zhmb h2 σ
  have e1 : (f == n_32) = false := by simpa using h1
  rw [e1, zaf] at h
  by_cases h2 : f = n_26
  · subst h2
    simp only [beq_self_eq_true, zad] at h
    exact zhlb h
  have e2 : (f == n_26) = false := by simpa using h2
  rw [e2, zaf] at h
  by_cases h3 : f = n_64
  · subst h3
    simp only [beq_self_eq_true, zad] at h
    exact zcdb h
  have e3 : (f == n_64) = false := by simpa using h3
  rw [e3, zaf] at h
  cases h
abbrev OkP (f : FuncId) (ds : List D) (c : Cell) : Prop := Pure Go.Proofs.Tryz.prog κ f ds c
noncomputable def T (S : Specs) (n : Nat) : CallF := runS Go.Proofs.Tryz.prog κ Γa Ra Xa S n
noncomputable def TD (S : Specs) (n : Nat) : CallF := runSD Go.Proofs.Tryz.prog κ Γa Ra Xa S n
theorem zar (S : Specs) (n : Nat) : zc4 Go.Proofs.Tryz.prog κ (T S n) := (zqp Γa_holds zgz zou n).1
theorem T_fun {S : Specs} {n : Nat} {f : FuncId} {af : AFun} {ds : List D} {σ : Store} (hs : has S f = false) (h : Γa f = some af) (hl : ds.length = af.nargs) : T S (n + 1) f ds σ = finX Ra (TD S n) af σ.next (exec (T S n) n none af.body (zbp ds) σ) := zvt hs h hl
theorem T_lib {S : Specs} {n : Nat} {f : FuncId} {ds : List D} {σ : Store} (hs : has S f = false) (h : Γa f = none) (hY : isY f = false) : T S (n + 1) f ds σ = Xa f ds σ := zg6b hs h hY
theorem T_orc {S : Specs} {f : FuncId} {s : List D → Cell → Prop} {ds : List D} {c : Cell} (hf : aget S f = some s) (hY : isY f = false) (hs : s ds c) (hp : OkP f ds c) : ∃ c', s ds c' ∧ ∀ n σ, T S (n + 1) f ds σ = some (.ret c', σ) := zvu hf hY hs hp
theorem zap {C : CallF} {n : Nat} {f : FuncId} {af : AFun} {ds : List D} {c : Cell} {σ' : Store} (hC : zc4 Go.Proofs.Tryz.prog κ C) (h : Γa f = some af) (hl : ds.length = af.nargs) (hd : zan ds = true) (hc : noPtr c.d = true)
    (hr : finX Ra (fun _ _ _ => none) af 0 (exec C n none af.body (zbp ds) σ0) = some (.ret c, σ')) : OkP f ds c := by
  obtain ⟨hY, fn, hfn, hok⟩ := Γa_holds f af h
  refine zkh hC zgz hY hfn hok hl hd hc (n := n) (σ' := σ') ?_
  unfold finX at hr
  exact hr
theorem OkP.weak {f : FuncId} {ds : List D} {o : Bool} {d : D} (hY : isY f = false) (h : OkP f ds ⟨o, d⟩) : OkP f ds ⟨false, d⟩ := Pure.weak hY h
theorem zaxb : zd5b 60 n_118 = true := by kernel_rfl
theorem zgob : OkP n_118 [] ⟨false, .bool true⟩ := by
  intro σ
  have h := zaxb
  unfold zd5b at h
  split at h
  · rename_i s hx
    exact zp1 rfl ((znk Γa_holds zgz zou 60).1 _ [] σ0 _ _ hx) rfl rfl σ
  · cases h
theorem zbu {n : Int} (h1 : -9223372036854775808 ≤ n) (h2 : n ≤ 9223372036854775807) : IntKind.i64.wrap n = n := by
  simp [IntKind.wrap, IntKind.bits, IntKind.signed]
  omega
theorem zaj {i : Nat} (h : i < 1099511627776) : IntKind.i64.wrap ((i : Int) + 1) = ((i + 1 : Nat) : Int) := by
  rw [zbu (by omega) (by omega)]
  rfl
def Small (x : Int) : Prop := -9223372036854775808 ≤ x ∧ x ≤ 9223372036854775807
theorem zft (x : Int) : Small (IntKind.i64.wrap x) := by
  simp [Small, IntKind.wrap, IntKind.bits, IntKind.signed]
  omega
theorem nat1 {k : IntKind} : D.nat? (.int k 1) = some 1 := rfl
theorem nat2 {k : IntKind} : D.nat? (.int k 2) = some 2 := rfl
theorem nat3 {k : IntKind} : D.nat? (.int k 3) = some 3 := rfl
theorem nat4 {k : IntKind} : D.nat? (.int k 4) = some 4 := rfl
theorem nat5 {k : IntKind} : D.nat? (.int k 5) = some 5 := rfl
theorem nat6 {k : IntKind} : D.nat? (.int k 6) = some 6 := rfl
theorem nat7 {k : IntKind} : D.nat? (.int k 7) = some 7 := rfl
theorem nat8 {k : IntKind} : D.nat? (.int k 8) = some 8 := rfl
theorem nat0 {k : IntKind} : D.nat? (.int k 0) = some 0 := rfl
theorem natI (n : Nat) {k : IntKind} : D.nat? (.int k (n : Int)) = some n := by
  simp only [D.nat?]
  have : (0 : Int) ≤ (n : Int) := by omega
  rw [decide_eq_true this]
  rfl
theorem idxL {sz n : Nat} {k : RowK} {es : List D} : za7 sz (.list k es) n = ifB (k.sz == sz) (bindO (nth es n) fun d => some (.eptr d)) none := rfl
theorem zeroI : ((0 : Nat) : Int) = 0 := rfl
theorem oneI : ((1 : Nat) : Int) = 1 := rfl
theorem zba {α : Type} (l : List α) (i : Nat) (h : i < l.length) : l.take i ++ [l[i]] = l.take (i + 1) := by
  rw [List.take_add_one, List.getElem?_eq_getElem h]
  simp
def ow : Nat → Bool
  | 0 => false
  | _ + 1 => true
theorem ow_ne {α : Type} {l : List α} {i : Nat} : l.take i ≠ [] → ow i = true := by
  cases i with
  | zero => intro h; simp at h
  | succ i => intro _; rfl
theorem zcr {i : Nat} : ow (i + 1) = true := rfl
theorem zgi : ow 0 = false := rfl
theorem zfn {α : Type} {k : RowK} {sz : Nat} (hs : k.sz = sz) (f : α → D) (l : List α) (i : Nat) (h : i < l.length) : za7 sz (dlist k (l.map f)) i = some (.eptr (f l[i])) := by
  have hn : nth (l.map f) i = some (f l[i]) := by rw [zri, zrh _ _ h]; rfl
  cases l with
  | nil => simp at h
  | cons x r =>
    simp only [List.map_cons, dlist, za7, hs, beq_self_eq_true, zad] at hn ⊢
    rw [hn]
    rfl
theorem idx_S (l : List Tx) (i : Nat) (h : i < l.length) : za7 1 (dSs l) i = some (.eptr (.str l[i])) := zfn rfl _ _ _ h
theorem zfp {α : Type} {k : RowK} (f : α → D) (l : List α) : lenOf (dlist k (l.map f)) = some l.length := by
  cases l with
  | nil => rfl
  | cons x r => simp [dlist, lenOf]
theorem len_S (l : List Tx) : lenOf (dSs l) = some l.length := zfp _ l
theorem zet {α : Type} {k : RowK} {by_ : Nat} {f : α → D} (hok : ∀ a, (f a).ok = true) (hsz : ∀ a, (f a).cells.length = k.sz) (hb : by_ ≤ 1024) (l : List α) (v : α) (o : Bool) (ho : l ≠ [] → o = true) (hl : l.length < 1000000000) : za1 k by_ ⟨o, dlist k (l.map f)⟩ [f v] = some ⟨true, dlist k ((l ++ [v]).map f)⟩ := by
  have h1 : (l.length + 1) * by_ ≤ 1000000000 * 1024 := Nat.mul_le_mul (by omega) hb
  rw [zzn (fun h => ho (by simpa using h)) (hok _) (hsz _) (by simp [bound]; omega) (by simp [bound]; omega)]
  simp
theorem zf3 (l : List Tx) (v : Tx) (o : Bool) (ho : l ≠ [] → o = true) (hl : l.length < 1000000000) : za1 k_1 16 ⟨o, dSs l⟩ [.str v] = some ⟨true, dSs (l ++ [v])⟩ := zet (fun _ => rfl) (fun _ => rfl) (by omega) l v o ho hl
theorem za3b {body : Env → Store → XRes} {n : Nat} {e : Env} {σ : Store} {e' : Env} {σ' : Store} (h : body e σ = some (.normal, e', σ')) : loopN body (n + 1) e σ = loopN body n e' σ' := by rw [loopN, h]
theorem za2b {body : Env → Store → XRes} {n : Nat} {e : Env} {σ : Store} {e' : Env} {σ' : Store} {i : Nat} (h : body e σ = some (.exit i, e', σ')) : loopN body (n + 1) e σ = some (.exit i, e', σ') := by rw [loopN, h]
theorem kk : k_47.sz = 1 ∧ k_47.ag = false ∧ k_47.same k_47 = true ∧ k_19.sz = 14 ∧ k_19.ag = true ∧ k_19.same k_19 = true ∧ k_20.sz = 15 ∧ k_20.ag = true ∧ k_20.same k_20 = true ∧ k_3.sz = 3 ∧ k_3.ag = true ∧ k_3.same k_3 = true ∧ k_6.sz = 10 ∧ k_6.ag = true ∧ k_6.same k_6 = true ∧ k_104.sz = 8 ∧ k_104.ag = true ∧ k_104.same k_104 = true ∧ k_0.sz = 4 ∧ k_0.ag = true ∧ k_0.same k_0 = true ∧ k_9.sz = 12 ∧ k_9.ag = true ∧ k_9.same k_9 = true ∧ k_147.sz = 4 ∧ k_147.ag = true ∧ k_147.same k_147 = true ∧ zp5.sz = 1 ∧ zp5.ag = false ∧ zp5.same zp5 = true ∧ k_int.sz = 1 ∧ k_int.ag = false ∧ k_int.same k_int = true ∧ k_1.sz = 1 ∧ k_1.ag = false ∧ k_1.same k_1 = true ∧ k_12.sz = 1 ∧ k_12.ag = false ∧ k_12.same k_12 = true := ⟨rfl, rfl, rfl, rfl, rfl, rfl, rfl, rfl, rfl, rfl, rfl, rfl, rfl, rfl, rfl, rfl, rfl, rfl, rfl, rfl, rfl, rfl, rfl, rfl, rfl, rfl, rfl, rfl, rfl, rfl, rfl, rfl, rfl, rfl, rfl, rfl, rfl, rfl, rfl⟩
set_option linter.defProp false in
def kn := And.intro kk (And.intro @nat1 (And.intro @nat2 (And.intro @nat3 (And.intro @nat4 (And.intro @nat5 (And.intro @nat6 (And.intro @nat7 (And.intro @nat8 (And.intro @rg.eq_1 (And.intro @sq.eq_1 (And.intro @ml.eq_1 (And.intro @mf.eq_1 (And.intro @ci.eq_1 @idxL)))))))))))))
end Go.Fu

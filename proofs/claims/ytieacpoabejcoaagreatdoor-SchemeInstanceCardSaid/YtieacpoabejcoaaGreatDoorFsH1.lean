/-
 Whether two types are the same; a type given nothing.
-/
import Derived.Test.YtieacpoabejcoaaGreatDoorFsD2
set_option maxHeartbeats 4000000
set_option linter.unusedSimpArgs false
set_option linter.unusedVariables false
set_option linter.unusedSectionVars false
namespace Go.Fu
open Go Go.Mx
set_option maxRecDepth 10000
set_option maxHeartbeats 4000000
def eqT:Tp→Tp→Bool
 | .hole x,.hole y=>x == y
 | .var s,.var t=>s == t
 | .con s,.con t=>s == t
 | .app f a,.app g b=>eqT f g && eqT a b
 | _,_=>false
theorem eqT_iff:∀ {a b:Tp},eqT a b=true↔a=b
 | .hole x,b=>by cases b <;> simp [eqT]
 | .var x,b=>by cases b <;> simp [eqT]
 | .con x,b=>by cases b <;> simp [eqT]
 | .app f a,b=>by
  cases b with
  | app g c=>simp only [eqT,Bool.and_eq_true,eqT_iff (a:=f),eqT_iff (a:=a),Tp.app.injEq]
  | _=>simp [eqT]
theorem eqT_refl (a:Tp):eqT a a=true:=eqT_iff.2 rfl
theorem place_run (s:List UInt8):Evly fun n=>∀ σ,T n n_210 [.nils,.str s] σ=some (.ret ⟨false,.int .i64 (-1)⟩,σ) :=
 (Evly.all (p:=fun _=>True) fun _=>trivial).step 2 fun m hm _ σ=>by
 obtain ⟨k,rfl⟩:∃ k,m=k + 1:=⟨m - 1,by omega⟩
 rw [T_fun (af:=a_178) rfl rfl]
 have hl:loopN (exec (T (k + 1)) (k + 1) none a_192) (k + 1) {slots:=[(0,⟨false,.nils⟩),(1,⟨false,.str s⟩),(8,⟨false,.int .i64 0⟩),(9,⟨false,.int .i64 0⟩)],locs:=[],boxes:=[],defers:=[]} σ=some (.exit 0,{slots:=[(0,⟨false,.nils⟩),(1,⟨false,.str s⟩),(8,⟨false,.int .i64 0⟩),(9,⟨false,.int .i64 0⟩),(10,⟨false,.bool false⟩)],locs:=[],boxes:=[],defers:=[]},σ):=loopN_one (by
  have h0:¬ ((0:Int) < 0):=by omega
  simp only [a_192,sA,seval,kn,h0])
 simp only [a_178,sA,seval,kn,zeroI,hl]
section
variable {C:CallF} {n:Nat} {σ:Store}
def Esm (a b:Tp) (i:Nat):Env:={slots:=[(2,⟨false,.nils⟩),(3,⟨false,.nils⟩),(97,⟨false,.int .i64 a.args.length⟩),(98,⟨false,.int .i64 i⟩)],locs:=[(4,4,0),(5,5,0)],boxes:=[(4,bT a),(5,bT b)],defers:=[]}
theorem lsm_step (a b:Tp) (i:Nat) (h:i < a.args.length) (h':i < b.args.length) (hc:C n_71 [dT a.args[i],dT b.args[i],.nils,.nils] σ=some (.ret ⟨false,.bool true⟩,σ)):exec C n none a_52 (Esm a b i) σ=some (.normal,Esm a b (i + 1),σ):=by
 have hi:((i:Int) < (a.args.length:Int)):=by omega
 have hx:=idx_T a.args i h
 have hy:=idx_T b.args i h'
 rw [dT_eq a.args[i]] at hc hx
 rw [dT_eq b.args[i]] at hc hy
 simp only [cT] at hc hx hy
 simp only [a_52,Esm,bT,sA,seval,kn,natI,hi,hx,hy,hc,wrap64_succ (i:=i) (by have:=args_len a; omega)]
theorem lsm_stop (a b:Tp) (i:Nat) (h:i < a.args.length) (h':i < b.args.length) (hc:C n_71 [dT a.args[i],dT b.args[i],.nils,.nils] σ=some (.ret ⟨false,.bool false⟩,σ)):exec C n none a_52 (Esm a b i) σ=some (.ret,{slots:=[(8,⟨false,.bool false⟩)],locs:=[],boxes:=[],defers:=[]},σ):=by
 have hi:((i:Int) < (a.args.length:Int)):=by omega
 have hx:=idx_T a.args i h
 have hy:=idx_T b.args i h'
 rw [dT_eq a.args[i]] at hc hx
 rw [dT_eq b.args[i]] at hc hy
 simp only [cT] at hc hx hy
 simp only [a_52,Esm,bT,sA,seval,kn,natI,hi,hx,hy,hc]
theorem lsm_end (a b:Tp):exec C n none a_52 (Esm a b a.args.length) σ=some (.exit 1,{Esm a b a.args.length with slots:=[(2,⟨false,.nils⟩),(3,⟨false,.nils⟩),(97,⟨false,.int .i64 a.args.length⟩),(98,⟨false,.int .i64 a.args.length⟩),(99,⟨false,.bool false⟩)]},σ):=by
 have hi:¬ ((a.args.length:Int) < (a.args.length:Int)):=by omega
 simp only [a_52,Esm,sA,seval,kn,hi]
end
def sameA (a b:Tp) (i:Nat):Bool:=match a.args[i]?,b.args[i]? with
 | some x,some y=>eqT x y
 | _,_=>true
theorem sameA_get {a b:Tp} {i:Nat} (h:i < a.args.length) (h':i < b.args.length):sameA a b i=eqT a.args[i] b.args[i]:=by simp [sameA,h,h']
theorem form_len {a b:Tp} (h:a.form=b.form):a.args.length=b.args.length:=by cases a <;> cases b <;> simp_all [Tp.form,Tp.args]
theorem same_run:∀ a b:Tp,Evly fun n=>∀ σ,T n n_71 [dT a,dT b,.nils,.nils] σ=some (.ret ⟨false,.bool (eqT a b)⟩,σ):=by
 intro a b
 have hk:Evly fun n=>∀ i (h:i < a.args.length) (h':i < b.args.length) σ,T n n_71 [dT a.args[i],dT b.args[i],.nils,.nils] σ=some (.ret ⟨false,.bool (eqT a.args[i] b.args[i])⟩,σ):=by
  cases a with
  | app f x =>
   cases b with
   | app g y =>
    refine ((same_run f g).and (same_run x y)).mono fun n h i hi hi' σ=>?_
    match i,hi with
    | 0,_=>exact h.1 σ
    | 1,_=>exact h.2 σ
   | hole n=>exact .all fun n i hi hi'=>absurd hi' (by simp [Tp.args])
   | var n=>exact .all fun n i hi hi'=>absurd hi' (by simp [Tp.args])
   | con n=>exact .all fun n i hi hi'=>absurd hi' (by simp [Tp.args])
  | hole n=>exact .all fun n i hi=>absurd hi (by simp [Tp.args])
  | var n=>exact .all fun n i hi=>absurd hi (by simp [Tp.args])
  | con n=>exact .all fun n i hi=>absurd hi (by simp [Tp.args])
 refine (hk.and ((place_run a.name).and (place_run b.name))).step 4 fun m hm hrun σ=>?_
 obtain ⟨hrun,p1,p2⟩:=hrun
 have p1:=p1 σ
 have p2:=p2 σ
 rw [T_fun (af:=a_33) rfl rfl]
 cases e1:a.form != b.form with
 | true =>
  have hr:eqT a b=false:=by cases a <;> cases b <;> simp_all [Tp.form,eqT]
  simp only [a_33,sA,seval,kn,dT_eq a,dT_eq b,cT,e1,hr]
 | false =>
 cases e2:a.num != b.num with
 | true =>
  have hr:eqT a b=false:=by cases a <;> cases b <;> simp_all [Tp.form,Tp.num,eqT]
  simp only [a_33,sA,seval,kn,dT_eq a,dT_eq b,cT,e1,e2,hr]
 | false =>
 have hl:=form_len (a:=a) (b:=b) (by simpa using e1)
 have e3:((a.args.length:Int) != (b.args.length:Int))=false:=by rw [hl]; simp
 have e5:(a.form == 5)=false:=by cases a <;> rfl
 cases ev:a.form == 2 with
 | true =>
  have hr:eqT a b=(a.name == b.name):=by cases a <;> cases b <;> simp_all [Tp.form,Tp.num,Tp.name,eqT]
  simp only [a_33,sA,seval,kn,dT_eq a,dT_eq b,cT,List.length_map,e1,e2,e3,e5,ev,p1,p2,hr]
 | false =>
 cases e4:a.name == b.name with
 | false =>
  have hr:eqT a b=false:=by cases a <;> cases b <;> simp_all [Tp.form,Tp.num,Tp.name,eqT]
  simp only [a_33,sA,seval,kn,dT_eq a,dT_eq b,cT,List.length_map,e1,e2,e3,e5,ev,e4,hr]
 | true =>
 have hloop:=loopN_until (body:=exec (T m) m none a_52) (Esm a b) (fun _=>σ) a.args.length (sameA a b) (stop:=fun i=>(.ret,{slots:=[(8,⟨false,.bool false⟩)],locs:=[],boxes:=[],defers:=[]},σ)) (fun _ _ h=>by cases h) (fun _ _ _ h=>by cases h)
  (fun i hi hp=>lsm_step a b i hi (by omega) (by
   have:=hrun i hi (by omega) σ
   rw [sameA_get hi (by omega)] at hp
   rwa [hp] at this)) (fun i hi hp=>lsm_stop a b i hi (by omega) (by
   have:=hrun i hi (by omega) σ
   rw [sameA_get hi (by omega)] at hp
   rwa [hp] at this)) (lsm_end a b) m 0 (by omega) (by have:=args_len a; omega)
 simp only [Esm,bT,zeroI] at hloop
 rcases hloop with ⟨i,_,hi,hp,hb,hrest⟩ | ⟨hp,hrest⟩
 ·have hr:eqT a b=false:=by
   rw [sameA_get hi (by omega)] at hp
   cases h:eqT a b with
   | false=>rfl
   | true =>
    have:=eqT_iff.1 h
    subst this
    rw [eqT_refl] at hp
    cases hp
  simp only [a_33,sA,seval,kn,dT_eq a,dT_eq b,cT,List.length_map,e1,e2,e3,e5,ev,e4,hrest,hr]
 ·have hr:eqT a b=true:=by
   have ha:∀ i (h:i < a.args.length),eqT a.args[i] (b.args[i]'(by omega))=true:=fun i h=>by
    have:=hp i (Nat.zero_le _) h
    rwa [sameA_get h (by omega)] at this
   cases a with
   | app f x =>
    cases b with
    | app g y =>
     have h0:=ha 0 (by simp [Tp.args])
     have h1:=ha 1 (by simp [Tp.args])
     simp only [Tp.args,List.getElem_cons_zero,List.getElem_cons_succ] at h0 h1
     simp only [eqT,h0,h1,Bool.and_self]
    | _=>simp [Tp.form] at e1
   | hole x=>cases b <;> simp_all [Tp.form,Tp.num,Tp.name,eqT]
   | var x=>simp [Tp.form] at ev
   | con x=>cases b <;> simp_all [Tp.form,Tp.num,Tp.name,eqT]
  simp only [a_33,sA,seval,kn,dT_eq a,dT_eq b,cT,List.length_map,e1,e2,e3,e5,ev,e4,hrest,hr]
theorem tSame_run (a b:Tp):Evly fun n=>∀ σ,T n n_70 [dT a,dT b] σ=some (.ret ⟨false,.bool (eqT a b)⟩,σ):=(same_run a b).step 0 fun m _ h σ=>by
 have h1:=h σ
 rw [dT_eq a,dT_eq b] at h1
 rw [T_fun (af:=a_174) rfl rfl]
 simp only [cT] at h1
 simp only [a_174,sA,seval,kn,dT_eq a,dT_eq b,cT,h1]
theorem app0_run (a:Tp):Evly fun n=>∀ σ,T n n_208 [dT a,.nils] σ=some (.ret ⟨false,dT a⟩,σ):=(own_run a).step 2 fun m hm h σ=>by
 obtain ⟨k,rfl⟩:∃ k,m=k + 1:=⟨m - 1,by omega⟩
 have h1:=h σ
 have hl:loopN (exec (T (k + 1)) (k + 1) none a_191) (k + 1) {slots:=[(10,⟨false,.nils⟩),(11,⟨false,.int .i64 0⟩),(12,⟨false,.int .i64 0⟩)],locs:=[(4,4,0),(5,5,0)],boxes:=[(4,[⟨false,.int .i64 0⟩,⟨false,.int .i64 0⟩,⟨false,.str []⟩,⟨false,.nils⟩]),(5,bT a)],defers:=[]} σ=some (.exit 0,{slots:=[(10,⟨false,.nils⟩),(11,⟨false,.int .i64 0⟩),(12,⟨false,.int .i64 0⟩),(13,⟨false,.bool false⟩)],locs:=[(4,4,0),(5,5,0)],boxes:=[(4,[⟨false,.int .i64 0⟩,⟨false,.int .i64 0⟩,⟨false,.str []⟩,⟨false,.nils⟩]),(5,bT a)],defers:=[]},σ):=loopN_one (by
  have h0:¬ ((0:Int) < 0):=by omega
  simp only [a_191,sA,seval,kn,h0])
 rw [dT_eq a] at h1
 rw [T_fun (af:=a_173) rfl rfl]
 simp only [bT] at hl
 simp only [cT] at h1
 simp only [a_173,sA,seval,kn,dT_eq a,cT,h1,zeroI,hl]
end Go.Fu

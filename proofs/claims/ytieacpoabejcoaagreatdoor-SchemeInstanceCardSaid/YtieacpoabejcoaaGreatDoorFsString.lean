/-
 The program's functions as the machine's code (printed by gen2.py).
-/
import Derived.Test.YtieacpoabejcoaaGreatDoorFsCode3
import Derived.Recover
import Derived.Test.YtieacpoabejcoaaGreatDoorMyFrame
import Derived.Test.YtieacpoabejcoaaGreatDoorProg
import Derived.WalkKit
import Derived.Lib.Builder
import Derived.Laws.Externs
import Derived.Lib.MakeNoZero
import Derived.Laws.IdiomCopy
import Derived.Shelf.Strings.Builder1
set_option maxHeartbeats 4000000
set_option linter.unusedSimpArgs false
set_option linter.unusedVariables false
set_option linter.unusedSectionVars false
namespace Go.Fu
open Go Go.Mx
def a_123:AFun:={nargs:=1,ntmps:=8,res:=[.tmp 2],gc:=false,body:=(.seq (.region [mo 2 (.mov (.const .nils))] none [2]) (.seq (.seq (.region [mt 3 0,mo 4 (.isNilS .eql (.tmp 3))] none [3]) (.cond (.tmp 4) (.seq (.region [mo 2 (.mov (.const .nils))] none [0,4])
 .ret) .skip)) (.seq (.region [mo 5 (.buildSlice k_int []),mw 6 0,mo 7 (.append k_int 8 (.mv 5) (.tmp 6)),mw 2 7] none [0,4,5,6,7]) .ret)))}
end Go.Fu
namespace Go.Mx
open Go
theorem Evo.toShared {ι0 ι:Imm} {j0 j:Lay} {own0 own:Own} {w0 w:World} (hE:Evo ι0 j0 own0 w0 ι j own w (fun _=>True)):Evo ι0 j0 own0 w0 ι j (shared own) w (fun _=>True):=by
 refine ⟨hE.os,hE.tape,hE.output,hE.size,hE.imm,hE.lay,fun b hb ht=>?_⟩
 have hn:own0 b=none:=by
  cases h:own0 b with
  | none=>rfl
  | some t=>exact absurd trivial (ht t h)
 obtain ⟨k1,k2,k3⟩:=hE.block b hb ht
 refine ⟨k1,?_,k3⟩
 unfold shared
 rw [k2,hn]
end Go.Mx
namespace Go.Fu
open Go Go.Mx
def digF:Nat→Nat→List UInt8→List UInt8
 | 0,_,acc=>acc
 | k + 1,n,acc=>ifB (decide (n < 10)) (UInt8.ofNat (48 + n) :: acc) (digF k (n / 10) (UInt8.ofNat (48 + n % 10) :: acc))
def digN (n:Nat):List UInt8:=digF 20 n []
def itoaN (n:Int):List UInt8:=match n with
 | .ofNat m=>digN m
 | .negSucc m=>45 :: digN (m + 1)
def inI64 (n:Int):Bool:=decide (-9223372036854775808≤n) && decide (n≤9223372036854775807)
def xItoa:List D→Option D
 | [.int .i64 n]=>ifB (inI64 n) (some (.str (itoaN n))) none
 | _=>none
def xCopy (ds:List D) (σ:Store):Option (Out × Store):=match ds with
 | [.ptr id 0]=>bindO (aget σ.tys id) fun t=>ifB (t.t == t_14) (bindO (aget σ.objs id) fun cs=>match cs with
  | [c0,c1]=>(match c0.d with
   | .nilp=>some (.ret ⟨false,.tup []⟩,{σ with objs:=aset σ.objs id [⟨false,.ptr id 0⟩,c1]})
   | .ptr id' 0=>ifB (id' == id) (some (.ret ⟨false,.tup []⟩,σ)) none
   | _=>none)
  | _=>none) none
 | _=>none
def isByteRow (k:RowK):Bool:=k.el == k_28.el && k.sz == 1
def xString (ds:List D) (σ:Store):Option (Out × Store):=match ds with
 | [.ptr id 0]=>bindO (aget σ.tys id) fun t=>ifB (t.t == t_14) (bindO (aget σ.objs id) fun cs=>match cs with
  | [c0,c1]=>(match c1.d with
   | .list k es=>ifB (c1.own && isByteRow k && !es.isEmpty) (bindO (bytesOf es) fun s=>some (.ret ⟨false,.str s⟩,{σ with objs:=aset σ.objs id [c0,⟨false,c1.d⟩]})) none
   | _=>none)
  | _=>none) none
 | _=>none
def xGrow (ds:List D) (σ:Store):Option (Out × Store):=match ds with
 | [.ptr id 0,.int .i64 (.ofNat n)]=>bindO (aget σ.tys id) fun t=>ifB (t.t == t_14 && decide (0 < n) && decide (n≤1099511627776)) (bindO (aget σ.objs id) fun cs=>match cs with
  | [c0,c1]=>(match c0.d,c1.d with
   | .nilp,.nils=>some (.ret ⟨false,.tup []⟩,{σ with objs:=aset σ.objs id [⟨false,.ptr id 0⟩,⟨true,.list k_28 []⟩]})
   | _,_=>none)
  | _=>none) none
 | _=>none
def Xa:CallF:=fun f ds σ=>ifB (f == n_36) (bindO (xItoa ds) fun d=>some (.ret ⟨false,d⟩,σ)) (ifB (f == n_105) (xCopy ds σ) (ifB (f == n_142) (xString ds σ) (ifB (f == n_186) (xGrow ds σ) none)))
end Go.Fu
namespace Go.Fu
open Go Go.RowKit
theorem lies_self {P:Program} {T:TypeId} {n:Nat} (hd:(P.depth == 0)=false) (hc:P.cellsOf T=2) (hs:sameLayout P P.depth T T=true) (hn:2≤n):liesAt P P.depth T (n / P.cellsOf T) 0 T 1=true:=by
 have h0:P.depth≠0:=by simpa using hd
 obtain ⟨d,hd⟩:∃ d,P.depth=d + 1:=⟨P.depth - 1,by omega⟩
 have hk:1≤n / 2:=by omega
 rw [hd] at hs ⊢
 unfold liesAt
 rw [hd]
 unfold rowAt
 simp only [hc,hs,Nat.zero_div,Nat.zero_mod]
 simp [hk]
set_option maxHeartbeats 1000000 in
set_option maxRecDepth 100000 in
theorem copy_used (b:Nat) (w:World) (h0:w.cell? ⟨b,0,none⟩=some (.pointer (some ⟨b,0,none⟩))) :
  Calls Go.Proofs.Tryz.prog n_105 #[.pointer (some ⟨b,0,none⟩)] w fun e w'=>e=.returned (.tuple #[])∧w'=w:=by
 obtain ⟨j,hj,_⟩:=Option.map_eq_some_iff.1 (show (Go.Proofs.Tryz.prog.info? t_14).map (·.size)=some 2 by kernel_rfl)
 go_enter Go.Proofs.Tryz.func160,Go.Proofs.Tryz.ntmps160
 go_wp2
 rw [Lib.run_neq_ptr_same w _ Go.Proofs.Tryz.underlying187 hj]
 go_wp2
 go_end0
 exact ⟨rfl,rfl⟩
set_option maxHeartbeats 1000000 in
set_option maxRecDepth 100000 in
theorem copy_fresh (b:Nat) (w:World) (h0:w.cell? ⟨b,0,none⟩=some (.pointer none)) {n:Nat} (hn:2≤n) (hsh:w.shape? b=some (t_14,n)) (hfz:w.frozen? ⟨b,0,none⟩=false) :
  Calls Go.Proofs.Tryz.prog n_105 #[.pointer (some ⟨b,0,none⟩)] w fun e w'=>e=.returned (.tuple #[])∧w'=w.setCell ⟨b,0,none⟩ (.pointer (some ⟨b,0,none⟩)):=by
 obtain ⟨j,hj,hjs⟩:=Option.map_eq_some_iff.1 (show (Go.Proofs.Tryz.prog.info? t_14).map (·.size)=some 2 by kernel_rfl)
 go_enter Go.Proofs.Tryz.func160,Go.Proofs.Tryz.ntmps160
 go_wp2
 rw [Lib.run_to_unsafe w ⟨b,0,none⟩ Go.Proofs.Tryz.underlying187 Go.Proofs.Tryz.underlying250 hj (by rw [hjs]; decide) hsh (by show 0 < n; omega)]
 simp only [Result.andThen]
 rw [Oper.upon_value]
 go_wp2
 rw [run_callFunc_extern Go.Proofs.Tryz.func179 (by kernel_rfl) (by kernel_rfl) (by kernel_rfl) (e:=Extern.AbiNoEscape.same) (by kernel_rfl)]
 rw [Lib.run_noEscape]
 simp only [Result.andThen]
 rw [Oper.upon_value]
 go_wp2
 rw [Lib.run_from_unsafe w ⟨b,0,none⟩ Go.Proofs.Tryz.underlying250 Go.Proofs.Tryz.underlying187 hj hsh (lies_self (by kernel_rfl) (by kernel_rfl) (by kernel_rfl) hn)]
 simp only [Result.andThen]
 rw [Oper.upon_value]
 go_wp2
 go_end0
 exact ⟨rfl,rfl⟩
end Go.Fu
namespace Go.Fu
open Go Go.RowKit
set_option maxHeartbeats 2000000 in
set_option maxRecDepth 100000 in
theorem string_walk (b g cap:Nat) (p:Value) (rest:List Value) (cur:Array Value) (l:List UInt8) (w:World) (h0:l≠[]) (hbk:w.heap[b]?=some (.cells ⟨p :: .slice (some ⟨g,0,none⟩) l.length cap :: rest⟩ t_14 (0,0))) (hg:w.heap[g]?=some (.cells cur 5 (0,0)))
  (hnc:l.length≤cap) (hcm:cap≤maxLen) (hcs:cur.size=cap * 1) (hcells:∀ (j:Nat) (x:UInt8),l[j]?=some x→w.cell? ⟨g,j,none⟩=some (.int .u8 x.toNat)) :
  Calls Go.Proofs.Tryz.prog n_142 #[.pointer (some ⟨b,0,none⟩)] w fun e w'=>e=.returned (.string ⟨l.toArray⟩)∧w'=w.drew.freeze ⟨g,0,none⟩ l.length:=by
 have hl0:l.length≠0:=by simpa using h0
 have c1:w.drew.cell? ⟨b,1,none⟩=some (.slice (some ⟨g,0,none⟩) l.length cap):=by
  have:w.drew.heap[b]?=some (.cells ⟨p :: .slice (some ⟨g,0,none⟩) l.length cap :: rest⟩ t_14 (0,0)):=hbk
  rw [Lib.cell_of_heap this]; rfl
 have hSD:(Builtin.unsafeSliceData_ #[170] 228 #[.slice (some ⟨g,0,none⟩) l.length cap]).run Go.Proofs.Tryz.prog w.drew=.ok (.pointer (some ⟨g,0,none⟩)) w.drew :=
  Lib.run_unsafeSliceData_row _ _ _ _ _ _ (by omega)
 have hUS:(Builtin.unsafeString_ #[228,3] 9 #[.pointer (some ⟨g,0,none⟩),.int .i64 l.length]).run Go.Proofs.Tryz.prog w.drew=.ok (.string ⟨l.toArray⟩) (w.drew.freeze ⟨g,0,none⟩ l.length):=by
  refine Lib.run_unsafeString_row w.drew 228 3 9 5 Go.Proofs.Tryz.underlying228 (by kernel_rfl) g cur.size (by have hg':w.drew.heap[g]?=some (.cells cur 5 (0,0)):=hg; simp [World.shape?,hg']) l h0 (by omega) (by unfold maxLen at hcm; omega) ?_
  intro j x hx
  have:=hcells j x hx
  simpa [Addr.add_lit] using this
 clear hcells
 go_enter Go.Proofs.Tryz.func132,Go.Proofs.Tryz.ntmps132
 go_wp2
 go_region
 all_goals (go_wp2; go_ret; exact ⟨rfl,rfl⟩)
end Go.Fu

/- a part -/
import Derived.Test.YtjpkkkphhaajgaaGreatDoorQdTakes
import Derived.Test.YtjpkkkphhaajgaaGreatDoorQdP21
import Derived.Test.YtjpkkkphhaajgaaGreatDoorQdP22
import Derived.RangeFuncBound
set_option linter.all false
namespace Go.Proofs.YtjpkkkphhaajgaaGreatDoor.words
open Go RowKit Shelf ChangeShapes WideShapes told
attribute [local go_sem] Oper.semAt_some
theorem own_kept {W W':World}{base:Nat}{e:TypeId}{size:Nat}{v:Value}{n:Nat}{xs:List Value}{row:Option Nat}(h:W.ownsRow base e size v n xs)(hg:W.grownBy W' row)(hr:∀r,row=some r→∃o:Obj,W.heap[r]?=some o∧o.isCells=false):W'.ownsRow base e size v n xs:=by
 refine h.kept hg ?_;rcases h.2 with⟨rfl,_⟩ | ⟨g,cap,cur,rfl,_,hgb,_⟩
 ·exact .inl rfl
 ·refine .inr fun e'=>?_
  obtain⟨o,ho,hc⟩:=hr g (by simpa [Value.ownBlock] using e'.symm);rw[hgb]at ho;cases ho;cases hc
theorem blk_kept {W W':World}{g:Nat}{t:TypeId}{cs:Array Value}{row:Option Nat}(h:Blk W g t cs)(hg:W.grownBy W' row)(hr:∀r,row=some r→∃o:Obj,W.heap[r]?=some o∧o.isCells=false):Blk W' g t cs :=
 h.grown hg fun e=>by
  obtain⟨o,ho,hc⟩:=hr g e.symm;rw[show W.heap[g]?=_ from h]at ho;cases ho;cases hc
def YRow (xs:List Int)(pre:List Int)(x:Int)(W0 W:World):Prop:=xs[pre.length]?=some x∧W0=W
theorem values_any (A:Option Addr)(n c:Nat)(w:World):Calls Tryz.prog 100 #[.slice A n c] w fun e w'=>e = .returned (.func (.func 146) #[] #[.pointer (some ⟨w.heap.size,0,none⟩)])∧w.alloc (.cells #[.slice A n c] 31)=w':=by
 go_enter Tryz.func100,Tryz.ntmps100
 go_wp2
 go_ret;exact⟨rfl,rfl⟩
set_option maxRecDepth 100000 in
set_option maxHeartbeats 4000000 in
theorem values1_in (m:Nat)(hm:1≤m)(l gb n₁ n c:Nat)(S:Nat→Prop)(A:Option Addr)(xs:List Int)(hn:n≤1000000)(hgb:¬ S gb)(hS:∀i,i<n₁→¬ S i)(J Jx:List Int→World→Prop)
 (hY:∀pre x W0 W1,J pre W0→YRow xs pre x W0 W1→pre.length<n→YieldAt Fence.wide (m-1) Tryz.prog l #[.int .i64 x] W1 fun e W' =>
  (e = .returned (.bool true)∧J (pre ++ [x]) W'∧Tch W1 W' S)∨(e = .returned (.bool false)∧Jx (pre ++ [x]) W'))
 (W:World) (hn₁:n₁≤W.heap.size) (hb:Blk W gb 31 #[.slice A n c]) (hr:Reads W n₁ 1 A n (nums xs)) (h0:J [] W) :
 CallsIn Fence.wide m Tryz.prog 146 #[.func (.yield l) #[] #[],.pointer (some ⟨gb,0,none⟩)] W fun e W'=>(∃v,e = .returned v) ∧
  ((∃ys,(ys:List Int).length=n∧J ys W')∨(∃pre,True∧Jx pre W')):=by
 obtain⟨b0,b1⟩:=hb.one;refine callsIn_of_wp Tryz.func146 rfl trivial ?_ rfl;simp only[Tryz.ntmps146,List.size_toArray,List.length_cons,List.length_nil,Nat.reduceAdd,Nat.reduceSub,Array.replicate_succ,Array.replicate_zero,List.push_toArray,List.append_toArray,List.nil_append,List.cons_append];have HR:=Hd hr;clear hr hb
 gi_wp2
 gi_loopw [4,7] (fun _ iv wr => ∃ (G:List Int) (j:Nat),iv = .int .i64 j∧G.length=j∧j≤n∧J G wr∧Tch W wr S)
  (fun _ iv _=>n-(intOf iv).toNat)
 case atStart=>exact⟨[],0,rfl,rfl,by omega,h0,Tch.refl _ _⟩
 case round =>
  clear h0;obtain⟨G,j,rfl,hG,hj,hJG,hB⟩:=hrel;by_cases hlt:j<n
  ·obtain⟨ad,x,rfl,_,hx,hc⟩:=(hB.reads HR.out hn₁ hS).num hlt
   obtain⟨fn,tmps,assign,body,hy,hR⟩:=hY G x wr wr hJG ⟨by rw[hG];exact hx,rfl⟩ (by omega);have hy':(Instr.yield l #[.int .i64 x]).run Tryz.prog wr = .ok (.round l fn tmps assign body) wr:=hy;have HB:=Hd hB;have HG:=Hd hG;have hltI:(j:Int)<(n:Int):=by omega
   clear hB hy hG hx hJG
   gi_wp2
   refine hR.mono ?_;rintro e W3 (⟨rfl,hJ3,hk3⟩ | ⟨rfl,hJx3⟩)
   ·have hB3:Tch W W3 S:=HB.out.trans hk3 fun _ _ h=>h
    gi_wp2
    go_roundw
    case rel=>exact⟨G ++ [x],j+1,by go_num,by simp[HG.out],by omega,hJ3,hB3⟩
    case measure=>simp[intOf];omega
   ·gi_wp2
    refine bodyPost_ret (results_none rfl _ _ _) rfl ?_;exact⟨⟨_,rfl⟩,.inr ⟨_,trivial,hJx3⟩⟩
  ·obtain rfl:j=n:=by omega
   gi_wp2
   go_end0
   exact⟨⟨_,rfl⟩,.inl ⟨G,hG,hJG⟩⟩
theorem values1_told (m:Nat)(hm:1≤m)(gb n₁ n c:Nat)(S:Nat→Prop)(A:Option Addr)(xs:List Int)(hn:n≤1000000)(hgb:¬ S gb)(hS:∀i,i<n₁→¬ S i)(w:World)(hn₁:n₁≤w.heap.size)
 (hb:Blk w gb 31 #[.slice A n c]) (hr:Reads w n₁ 1 A n (nums xs)) :
 SeqTold m Tryz.prog 146 #[.pointer (some ⟨gb,0,none⟩)] (fun x => #[.int .i64 x]) (YRow xs) (fun a b=>Tch a b S) (fun ys=>ys.length=n) (fun _=>True) n w:=fun l J Jx W hW hJ _ hY h0 =>
 values1_in m hm l gb n₁ n c S A xs hn hgb hS J Jx hY W (Nat.le_trans hn₁ hW.size) (hb.under hW) (hr.below (hW.mono hn₁)) h0
end Go.Proofs.YtjpkkkphhaajgaaGreatDoor.words

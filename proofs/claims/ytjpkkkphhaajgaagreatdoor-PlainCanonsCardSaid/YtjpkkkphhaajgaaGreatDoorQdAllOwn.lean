/- a part -/
import Derived.Test.YtjpkkkphhaajgaaGreatDoorQdShapeAll
import Derived.Test.YtjpkkkphhaajgaaGreatDoorQdReads
set_option linter.all false
namespace Go.Proofs.YtjpkkkphhaajgaaGreatDoor.shp
open Go RowKit Shelf ChangeShapes WideShapes ChangeAt words told
attribute [local go_sem] Oper.semAt_some
set_option maxRecDepth 100000 in
set_option maxHeartbeats 4000000 in
theorem all_inO (n:Nat)(hn:1≤n)(l gb m c N:Nat)(S:Nat→Prop)(A:Option Addr)(xs:List Int)(hsz:Szs xs)(hN:prodI xs=N)(hm:xs.length=m)(hmc:m≤c)(hgb:¬ S gb)(J Jx:List (Nat × Nat)→World→Prop)
 (hY:∀pre x W0 W1,J pre W0→YShape xs m pre x W0 W1→pre.length<N→YieldAt Fence.wide (n-1) Tryz.prog l (encT m x) W1 fun e W' =>
  (e = .returned (.bool true)∧J (pre ++ [x]) W'∧Tch W1 W' S)∨(e = .returned (.bool false)∧Jx (pre ++ [x]) W'))
 (W:World) (hJ:AbidesFrom W.heap.size J) (hb:Blk W gb 115 #[.slice A m c]) (hr:∀W',Tch W W' S→Reads W' W'.heap.size 1 A m (nums xs)) (h0:J [] W) :
 CallsIn Fence.wide n Tryz.prog 150 #[.func (.yield l) #[] #[],.pointer (some ⟨gb,0,none⟩)] W fun e W'=>(∃v,e = .returned v) ∧
  ((∃ys,(ys:List (Nat × Nat)).length=N∧J ys W')∨(∃pre,True∧Jx pre W')):=by
 have f1:=wide_fn 121;have f2:=wide_fn 151;obtain⟨b0,b1⟩:=hb.one;have hP:=szs_prod hsz;rw[hN]at hP;have hci:=count_any A m c xs W (hr W (Tch.refl _ _)) hsz;rw[hN]at hci;have hstep:Hid (∀ys W1 W2,J ys W1→Below W1.heap.size W1 W2→J ys W2):=fun ys W1 W2 h hbl=>hJ ys W1 W2 none h (only_of_below hbl none) (fun r e=>by cases e)
 refine callsIn_of_wp Tryz.func150 rfl trivial ?_ rfl;simp only[Tryz.ntmps150,List.size_toArray,List.length_cons,List.length_nil,Nat.reduceAdd,Nat.reduceSub,Array.replicate_succ,Array.replicate_zero,List.push_toArray,List.append_toArray,List.nil_append,List.cons_append]
 gi_wp2_with (gi_at_call 121;refine (callsIn_wide.2 hci).mono ?_;rintro e w1 ⟨rfl,hb1⟩)
 have hB0:Tch W w1 S:=Tch.of_below hb1 S;have hJ0:=hstep.out _ _ _ h0 hb1;clear hci hb1;have HN:=Hd hN;clear hN
 gi_loopw [8] (fun iv wr => ∃ (G:List (Nat × Nat)) (j:Nat),iv = .int .i64 j∧G.length=j∧j≤N∧J G wr∧Tch W wr S)
  (fun iv _=>N-(intOf iv).toNat)
 case atStart=>exact⟨[],0,rfl,rfl,by omega,hJ0,hB0⟩
 case round =>
  clear hJ0 hB0;obtain⟨G,j,rfl,hG,hj,hJG,hB⟩:=hrel;by_cases hlt:j<N
  ·have hc0:wr.cell? ⟨gb,0,none⟩=some (.slice A m c):=(hB.blk hb hgb).one.1
   have ht:Calls Tryz.prog 151 #[.agg #[.slice A m c],.int .i64 j] wr fun e w2 => ∃g,e = .returned (.tuple #[.slice (some ⟨g,0,none⟩) m m,.int .i64 0])∧w2.ownsRow wr.heap.size 3 1 (.slice (some ⟨g,0,none⟩) m m) m (nums (tupI xs j))∧Below wr.heap.size wr w2 :=
    (tuple_any A m c xs j wr hmc (hr wr hB) hsz).mono fun e w2 ⟨hb2,h2⟩=>by
     rcases h2 with⟨h,_⟩ | ⟨_,g,h,ho⟩
     ·exact absurd ⟨by omega,by rw[HN.out];omega⟩ h
     ·rw[hm]at h ho;exact⟨g,h,ho,hb2⟩
   have HB:=Hd hB;have HG:=Hd hG;clear hB hG
   gi_wp2_with (gi_at_call 151;refine (callsIn_wide.2 ht).mono ?_;rintro e w2 ⟨g,rfl,hown,hb2⟩)
   obtain⟨fn,tmps,assign,body,hy,hR⟩:=hY G (j,g) wr w2 hJG ⟨HG.out.symm,by rw[HN.out];omega,hb2,hown⟩ (by rw[HG.out];omega);have hy':(Instr.yield l #[.int .i64 j,.slice (some ⟨g,0,none⟩) m m]).run Tryz.prog w2 = .ok (.round l fn tmps assign body) w2:=hy;have hbx:Hid (∀w,Tch W w S→w.cell? ⟨gb,0,none⟩=some (.slice A m c)):=fun w hw=>(hw.blk hb hgb).one.1
   clear hy
   gi_wp2
   rw[hy']
   gi_wp2
   refine hR.mono ?_;rintro e W3 (⟨rfl,hJ3,hk3⟩ | ⟨rfl,hJx3⟩)
   ·have hB3:Tch W W3 S:=(HB.out.trans (Tch.of_below hb2 S) fun _ _ h=>h).trans hk3 fun _ _ h=>h
    gi_wp2
    go_roundw
    case rel=>exact⟨G ++ [(j,g)],j+1,by go_num,by simp[HG.out],by omega,hJ3,hB3⟩
    case measure=>simp[intOf];omega
   ·gi_wp2
    refine bodyPost_ret (results_none rfl _ _ _) rfl ?_;exact⟨⟨_,rfl⟩,.inr ⟨_,trivial,hJx3⟩⟩
  ·obtain rfl:j=N:=by omega
   gi_wp2
   go_end0
   exact⟨⟨_,rfl⟩,.inl ⟨G,hG,hJG⟩⟩
theorem all_toldO (n:Nat)(hn:1≤n)(gb m c N:Nat)(S:Nat→Prop)(A:Option Addr)(xs:List Int)(hsz:Szs xs)(hN:prodI xs=N)(hm:xs.length=m)(hmc:m≤c)(hgb:¬ S gb)(w:World)
 (hb:Blk w gb 115 #[.slice A m c]) (hr:w.ownsRow 0 3 1 (.slice A m c) m (nums xs)) (hS:∀q,(Value.slice A m c).ownBlock=some q→¬ S q) :
 SeqTold n Tryz.prog 150 #[.pointer (some ⟨gb,0,none⟩)] (encT m) (YShape xs m) (fun a b=>Tch a b S) (fun ys=>ys.length=N) (fun _=>True) N w:=fun l J Jx W hW hJ _ hY h0 =>
 all_inO n hn l gb m c N S A xs hsz hN hm hmc hgb J Jx hY W hJ (hb.under hW) (fun W' ht=>Reads.of_own (ht.own (own_under hr hW) hS)) h0
end Go.Proofs.YtjpkkkphhaajgaaGreatDoor.shp

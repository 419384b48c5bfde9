/- a part -/
import Derived.Test.YtjpkkkphhaajgaaGreatDoorQdTakes
import Derived.Test.YtjpkkkphhaajgaaGreatDoorQdP01
import Derived.Shelf.Bits.Mul64
import Derived.Shelf.Small.Bits
import Derived.Laws.CopyOwn
import Derived.Deep.RegionHeld3
import Derived.Deep.DeepCutAuto
set_option linter.all false
namespace Go.Proofs
open Go.Shelf
def Tryz.lays212_ren:Go.Shelf.Ren:=⟨fun | 212=>164 | 263=>183 | 264=>184 | n=>n,fun | 46=>203 | 51=>257 | 146=>280 | 53=>135 | 148=>282 | n=>n,fun | n=>n⟩
theorem Tryz.lays212:Go.Proofs.Lays.n212 Tryz.prog Tryz.lays212_ren:={
 mixed:=by kernel_rfl
 f212:=Tryz.func164.trans (congrArg some (by kernel_rfl))
 f263:=Tryz.func183.trans (congrArg some (by kernel_rfl))
 f264:=Tryz.func184.trans (congrArg some (by kernel_rfl))
 t46:=Tryz.underlying203
 a46:=Tryz.isAgg203
 z46:=Tryz.sizeOf203
 v46:=Tryz.zeroValue203
 t51:=Tryz.underlying257
 a51:=Tryz.isAgg257
 z51:=Tryz.sizeOf257
 v51:=Tryz.zeroValue257
 t53:=Tryz.underlying135
 a53:=Tryz.isAgg135
 z53:=Tryz.sizeOf135
 v53:=Tryz.zeroValue135
 t146:=Tryz.underlying280
 a146:=Tryz.isAgg280
 z146:=Tryz.sizeOf280
 v146:=Tryz.zeroValue280
 t148:=Tryz.underlying282
 a148:=Tryz.isAgg282
 z148:=Tryz.sizeOf282
 v148:=Tryz.zeroValue282 }
end Go.Proofs
namespace Go.Proofs.YtjpkkkphhaajgaaGreatDoor.words
open Go RowKit
theorem info64_:(Tryz.prog.info? 2).map (fun i=>(i.zero,i.size,i.bytes))=some (some (.int .i64 0),1,8):=by kernel_rfl
theorem size64:(Tryz.prog.info? 2).map (·.size)=some 1:=by kernel_rfl
def repL (c:Int)(k N:Nat):List Value:=nums (List.replicate k c++List.replicate (N-k) 0)
theorem repL_len (c:Int){k N:Nat}(h:k≤N):(repL c k N).length=N:=by unfold repL nums;simp;omega
theorem repL_splice (c:Int){k m N:Nat}(h:k+m≤N):splice (repL c k N) k (nums (List.replicate m c))=repL c (k+m) N:=by
 unfold splice repL nums;rw[List.length_map,List.length_replicate,← List.map_take,← List.map_drop,← List.map_append,← List.map_append]
 congr 1
 rw[List.take_append_of_le_length (by simp),List.take_of_length_le (by simp),List.drop_append,List.drop_of_length_le (by simp),List.nil_append,List.drop_replicate,← List.append_assoc,List.replicate_append_replicate,List.length_replicate]
 congr 2
 omega
theorem wrap_small (x:Int)(h0:0≤x)(h1:x≤1000000000):IntKind.i64.wrap x=x:=by simp[IntKind.wrap,IntKind.bits,IntKind.signed];omega
set_option maxRecDepth 100000 in
set_option maxHeartbeats 4000000 in
theorem repeat_any (ad:Addr)(cp:Nat)(c:Int)(N:Nat)(w:World)(h1:1≤N)(hN:N≤1000000)(hc:w.cell? ad=some (.int .i64 c))(hlt:ad.block<w.heap.size) :
 Calls Tryz.prog 120 #[.slice (some ad) 1 cp,.int .i64 N] w fun e w'=>e = .returned (.slice (some ⟨w.heap.size,0,none⟩) N N)∧w'.ownsRow w.heap.size 2 1 (.slice (some ⟨w.heap.size,0,none⟩) N N) N (nums (List.replicate N c))∧Below w.heap.size w w':=by
 obtain⟨i0,hi0,hz0,hz1,hz2⟩:=info_parts info64_;have hmul:=Any.bits_Mul Tryz.lays212 1 N (by omega) (by omega) w;rw[Nat.one_mul,Nat.div_eq_of_lt (by omega),Nat.mod_eq_of_lt (by omega),show ((0:Nat):Int)=0 from rfl]at hmul
 change Calls Tryz.prog 164 #[.int .u64 1,.int .u64 N] w _ at hmul
 have hmk:=fun W=>run_make_rowN (P:=Tryz.prog) 46 2 i0 _ Tryz.underlying46 hi0 hz0 .i64 .i64 N N (Nat.le_refl _) (by rw[hz2];omega) (by omega) W
 have hnn:decide ((N:Int)<0)=false:=decide_eq_false (by omega)
 go_enter Tryz.func120,Tryz.ntmps120
 go_wp2_with fail;refine hmul.mono ?_;rintro e w1 ⟨rfl,hw⟩;obtain rfl:=hw.symm;clear hw;have hb0:=bone w (.cells (madeCells #[.int .i64 0] N) 2)
 have hg0:(w.alloc (.cells (madeCells #[.int .i64 0] N) 2)).heap[w.heap.size]?=some (.cells (repL c 0 N).toArray 2 (0,0)):=by
  have e:madeCells #[.int .i64 0] N=(repL c 0 N).toArray:=by
   rw[← Array.toList_inj,toList_madeCells_one];unfold repL nums;simp
  rw[e];exact heap_alloc_new _ _
 have hc1:∀j v,([.int .i64 c]:List Value)[j]?=some v→(w.alloc (.cells (madeCells #[.int .i64 0] N) 2)).cell? (ad.add j)=some v:=by
  intro j v hj
  match j,hj with
  |0,hj=>simp at hj;subst hj;rw[show ad.add 0=ad by simp[Addr.add]];exact (World.cell?_alloc_lt w _ _ hlt).trans hc
  |j+1,hj=>simp at hj
 have hr0:repL c 0 N=repL c 0 N:=rfl;have HL0:Hid ((repL c 0 N).length=N):=repL_len c (Nat.zero_le _)
 have HSP:Hid (splice (repL c 0 N) 0 [.int .i64 c]=repL c 1 N):=by
  have:=repL_splice c (k:=0) (m:=1) (N:=N) (by omega);unfold Hid;simpa [nums] using this
 clear hmul
 go_wp2_with (first
  |(refine wpList_copy_splice rfl (.tmp 31) (.tmp 32) 46 46 rfl 2 Tryz.underlying46 size64 (some ⟨w.heap.size,0,none⟩) (some ad) N N 1 cp rfl rfl w.heap.size 0 (repL c 0 N) 2 hg0 [.int .i64 c] (by show 1=min 1 N;omega) (fun _=>⟨rfl,ad,rfl,hc1⟩) (by rw[HL0.out];simp;omega) (by simp[Value.oneCell']) w.heap.size w hb0 (Nat.le_refl _) ?_;intro w2 hg2 hb2;rw[HSP.out]at hg2;clear hg0 hc1)
  |fail)
 go_loopw [8] (fun kv wr => ∃k:Nat,kv = .int .i64 k∧1≤k∧k≤N∧Hid (wr.heap[w.heap.size]?=some (.cells (repL c k N).toArray 2 (0,0)))∧Below w.heap.size w wr) (fun kv _=>N-(intOf kv).toNat)
 case atStart=>exact⟨1,by first | rfl | simp[goInt],Nat.le_refl _,h1,hg2,hb2⟩
 case round =>
  clear hg2 hb2 hb0;obtain⟨k,rfl,hk1,hkN,hg,hb⟩:=hrel;by_cases hlt':k<N
  ·have hltI:decide ((k:Int)<(N:Int))=true:=decide_eq_true (by omega)
   have hkI:(k:Int)≤(N:Int):=by omega
   have hk0:(0:Int)≤(k:Int):=by omega
   obtain⟨q,hq⟩:∃q,min k (N-k)=q:=⟨_,rfl⟩;have HL:Hid ((repL c k N).length=N):=repL_len c hkN;have HS:Hid (splice (repL c k N) k (nums (List.replicate q c))=repL c (k+q) N):=repL_splice c (by omega);have hgd:wr.drew.heap[w.heap.size]?=some (.cells (repL c k N).toArray 2 (0,0)):=hg;have hbd:Below w.heap.size w wr.drew:=below_drewN hb 1
   have hsrc:∀j v,(nums (List.replicate q c))[j]?=some v→wr.drew.cell? ((⟨w.heap.size,0,none⟩:Addr).add j)=some v:=by
    intro j v hj;have hjl:j<q:=by have:=(List.getElem?_eq_some_iff.1 hj).1;simpa [nums] using this
    have h2:(repL c k N)[j]?=some v:=by
     unfold repL nums at *;rw[List.map_append,List.getElem?_append_left (by simp;omega)];rw[List.map_replicate]at hj ⊢;rw[List.getElem?_replicate]at hj ⊢;rw[if_pos (by omega)];rw[if_pos hjl]at hj;exact hj
    have ha:(⟨w.heap.size,0,none⟩:Addr).add j=⟨w.heap.size,j,none⟩:=by unfold Addr.add;split<;>simp_all
    rw[ha];simp only[World.cell?,hgd]
    simpa using h2
   have hnm:(nums (List.replicate q c)).length=q:=by simp[nums]
   have HNM:=Hd hnm
   have h1c:∀v∈nums (List.replicate q c),v.oneCell'=true:=by
    intro v hv;unfold nums at hv;obtain⟨x,-,rfl⟩:=List.mem_map.1 hv;rfl
   have HNK:Hid (q=min k (N-k)):=hq.symm;clear hg hb hq hnm;go_upto_region 9 with fail;have hrun:=run_copy_row (P:=Tryz.prog) wr.drew 46 46 3 2 w.heap.size k (N-k) (N-k) ⟨w.heap.size,0,none⟩ k N (repL c k N).toArray 2 (nums (List.replicate q c)) Tryz.underlying46 size64 hgd (by rw[HNM.out,HNK.out]) hsrc (by have h1:=HL.out;have h2:=HNM.out;have h3:=HNK.out;unfold Hid at *;simp only[List.size_toArray];omega) h1c;rw[List.append_assoc,show ((repL c k N).toArray.toList.take k++(nums (List.replicate q c)++(repL c k N).toArray.toList.drop (k+(nums (List.replicate q c)).length)))=repL c (k+q) N from HS.out,HNM.out]at hrun;have hg3:Hid ((wr.drew.setRow w.heap.size (repL c (k+q) N).toArray).heap[w.heap.size]?=some (.cells (repL c (k+q) N).toArray 2 (0,0))):=setRow_heap _ _ _ _ _ _ hgd;have hb3:Hid (Below w.heap.size w (wr.drew.setRow w.heap.size (repL c (k+q) N).toArray)):=below_setRow hbd (Nat.le_refl _) _;obtain⟨w3,hw3⟩:∃w3,wr.drew.setRow w.heap.size (repL c (k+q) N).toArray=w3:=⟨_,rfl⟩;rw[hw3]at hrun hg3 hb3;have hkq:(k:Int)+(q:Int)≤N:=by have:=HNK.out;omega
   have hq1:1≤q:=by have:=HNK.out;omega
   obtain⟨kq,hkqe⟩:∃kq:Nat,k+q=kq:=⟨_,rfl⟩;have hkqI:(k:Int)+(q:Int)=(kq:Int):=by omega
   have hwr:IntKind.i64.wrap ((k:Int)+(q:Int))=(kq:Int):=by rw[hkqI];exact wrap_small _ (by omega) (by omega)
   have hwr2:wrap64 ((k:Int)+(q:Int))=(kq:Int):=by rw[hkqI];unfold wrap64;omega
   rw[hkqe]at hg3;have hk2:k<kq∧kq≤N:=by omega
   clear hkqe hkqI hkq HNK HS;have hgi:goInt q = .int .i64 (q:Int):=by first | rfl | simp[goInt]
   rw[hgi]at hrun;clear hgd hbd hsrc h1c hw3 hgi
   go_region_held3 (fun _=>True) (trivial) (fail)
   all_goals
    go_wp2_with fail;go_roundw
    case rel=>exact⟨kq,rfl,by omega,hk2.2,hg3,hb3.out⟩
    case measure=>simp[intOf];omega
  ·obtain rfl:k=N:=by omega
   have hltI:decide ((k:Int)<(k:Int))=false:=decide_eq_false (by omega);have HG:=Hd hg;have HB:=Hd hb;clear hg hb;go_wp2_with fail;go_ret;refine⟨rfl,⟨by simp[nums],.inr ⟨w.heap.size,k,(repL c k k).toArray,rfl,Nat.le_refl _,HG.out,Nat.le_refl _,by unfold maxLen;omega,by have:=repL_len c (Nat.le_refl k);simpa using this,?_⟩⟩,HB.out⟩;unfold repL nums;simp
end Go.Proofs.YtjpkkkphhaajgaaGreatDoor.words

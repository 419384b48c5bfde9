/- a part -/
import Derived.Test.YtjpkkkphhaajgaaGreatDoorQdP16
import Derived.Lib.SlicesCompact
import Derived.Shelf.Spec.SlicesGrow
set_option linter.all false
namespace Go.Proofs.YtjpkkkphhaajgaaGreatDoor.wcp
open Go Go.Lib words scn
def dupL (l:List Int):List Int:=l.flatMap fun v => [v,v]
theorem dup_cons (a:Int)(l:List Int):dupL (a::l)=a::a::dupL l:=rfl
theorem dup_mem {l:List Int}{v:Int}:v∈dupL l↔v∈l:=by
 unfold dupL;rw[List.mem_flatMap];constructor
 ·rintro ⟨a,ha,hv⟩
  simp at hv;rw[hv];exact ha
 ·intro h;exact⟨v,h,by simp⟩
theorem dup_perm (l:List Int):(dupL l).Perm (l++l):=by
 induction l with
 |nil=>exact List.Perm.refl _
 | cons a l ih =>
   rw[dup_cons,List.cons_append];refine List.Perm.cons _ ?_;exact (ih.cons a).trans List.perm_middle.symm
theorem dup_le {l:List Int}(h:l.Pairwise (fun a b=>a<b)):(dupL l).Pairwise (fun a b=>a≤b):=by
 induction l with
 |nil=>exact List.Pairwise.nil
 | cons a l ih =>
   obtain⟨h1,h2⟩:=List.pairwise_cons.1 h;rw[dup_cons];have:∀b∈dupL l,a≤b:=fun b hb=>Int.le_of_lt (h1 b (dup_mem.1 hb))
   refine List.pairwise_cons.2 ⟨fun b hb=>?_,List.pairwise_cons.2 ⟨this,ih h2⟩⟩;rcases List.mem_cons.1 hb with rfl | hb
   ·exact Int.le_refl _
   ·exact this b hb
theorem rise_dup {l:List Int}(h:l.Pairwise (fun a b=>a<b)):rise (l++l)=dupL l :=
 ((rise_perm (l++l)).trans (dup_perm l).symm).eq_of_pairwise (le:=fun a b=>a≤b) (fun a b _ _ h1 h2=>Int.le_antisymm h1 h2) (rise_le _) (dup_le h)
theorem dup_at (l:List Int):∀i:Nat,(dupL l)[2*i]?=l[i]?∧(dupL l)[2*i+1]?=l[i]?:=by
 induction l with
 |nil=>intro i;simp[dupL]
 | cons a l ih =>
   intro i;rw[dup_cons]
   cases i with
   |zero=>exact⟨rfl,rfl⟩
   |succ i=>exact ih i
theorem arr_at {l:List Int}{j:Nat}{x:Int}(h:l[j]?=some x):l.toArray[j]! = x:=by
 obtain⟨h1,h2⟩:=List.getElem?_eq_some_iff.1 h;rw[getElem!_pos _ j (by simpa using h1)]
 simpa using h2
theorem compact_dup {l:List Int}(h:l.Pairwise (fun a b=>a<b)):Lib.compact (dupL l)=l:=by
 have hlen:(dupL l).length=2*l.length:=by rw[(dup_perm l).length_eq,List.length_append];omega
 have:∀i,i≤l.length→compactUpTo (dupL l).toArray (2*i)=l.take i:=by
  intro i
  induction i with
  |zero=>intro _;rfl
  | succ i ih =>
    intro hi;have hx:l[i]?=some (l[i]'(by omega)):=List.getElem?_eq_getElem _;obtain⟨x,hx⟩:∃x,l[i]?=some x:=⟨_,hx⟩;have d0:=arr_at ((dup_at l i).1.trans hx);have d1:=arr_at ((dup_at l i).2.trans hx);have k1:keeps (dupL l).toArray (2*i+1)=false:=keeps_neg (by omega) (by rw[d1,show 2*i+1-1=2*i by omega,d0])
    have k0:keeps (dupL l).toArray (2*i)=true:=by
     cases i with
     |zero=>exact keeps_lt_one _ _ (by omega)
     | succ i =>
       obtain⟨y,hy⟩:∃y,l[i]?=some y:=⟨_,List.getElem?_eq_getElem (by omega)⟩;have d2:=arr_at ((dup_at l i).2.trans hy);refine keeps_pos ?_;rw[d0,show 2*(i+1)-1=2*i+1 by omega,d2];obtain⟨h1,e1⟩:=List.getElem?_eq_some_iff.1 hy;obtain⟨h2,e2⟩:=List.getElem?_eq_some_iff.1 hx;have:=List.pairwise_iff_getElem.1 h i (i+1) h1 h2 (by omega);omega
    rw[show 2*(i+1)=2*i+1+1 by omega,compactUpTo_succ,compactUpTo_succ,ih (by omega),k0,k1,d0,List.take_add_one,hx];simp
 unfold Lib.compact;rw[hlen,this l.length (Nat.le_refl _),List.take_length]
end Go.Proofs.YtjpkkkphhaajgaaGreatDoor.wcp
namespace Go.Proofs
open Shelf
def Tryz.growI_ren:Go.Shelf.Ren:=⟨fun | 4=>149 | n=>n,fun | 22=>31 | 25=>3 | 3=>3 | 4=>4 | 9=>9 | 20=>20 | 0=>0 | n=>n,fun | n=>n⟩
theorem Tryz.growI:Go.Proofs.Lays8.n4 Tryz.prog Tryz.growI_ren:={
 mixed:=by kernel_rfl
 f4:=⟨Tryz.f149.name,by decide,Tryz.func149.trans (congrArg some (by kernel_rfl))⟩
 t0:=Tryz.underlying0
 a0:=Tryz.isAgg0
 z0:=Tryz.sizeOf0
 v0:=Tryz.zeroValue0
 t3:=Tryz.underlying3
 a3:=Tryz.isAgg3
 z3:=Tryz.sizeOf3
 v3:=Tryz.zeroValue3
 t4:=Tryz.underlying4
 a4:=Tryz.isAgg4
 z4:=Tryz.sizeOf4
 v4:=Tryz.zeroValue4
 t9:=Tryz.underlying9
 a9:=Tryz.isAgg9
 z9:=Tryz.sizeOf9
 v9:=Tryz.zeroValue9
 t20:=Tryz.underlying20
 a20:=Tryz.isAgg20
 z20:=Tryz.sizeOf20
 v20:=Tryz.zeroValue20
 t22:=Tryz.underlying31
 a22:=Tryz.isAgg31
 z22:=Tryz.sizeOf31
 v22:=Tryz.zeroValue31 }
end Go.Proofs
namespace Go.Proofs.YtjpkkkphhaajgaaGreatDoor.words
open Go RowKit ChangeShapes WideShapes
theorem infoI3:(Tryz.prog.info? 3).map (fun i=>(i.zero,i.size,i.bytes))=some (some (.int .i64 0),1,8):=by kernel_rfl
theorem growI_any (n:Nat)(w:World)(hn:n≤1000000):Calls Tryz.prog 149 #[.slice none 0 0,.int .i64 n] w fun e w' => ∃A c,e = .returned (.slice A 0 c)∧w'.ownsRow w.heap.size 3 1 (.slice A 0 c) 0 []∧Below w.heap.size w w':=by
 by_cases h0:n=0
 ·subst h0
  refine (Any8.slices_Grow_room Tryz.growI none 0 0 0 w (Nat.le_refl _) (by omega) (by omega) (by omega)).mono ?_;rintro e w' ⟨rfl,rfl⟩;exact⟨none,0,rfl,World.ownsRow_nil _ _ _ _,Below.refl _ _⟩
 ·obtain⟨i0,hi0,hz0,hz1,hz2⟩:=info_parts infoI3
  refine (Any8.slices_Grow_grow Tryz.growI i0 _ hi0 hz0 (by rw[hz1];omega) none 0 0 n [] w (Nat.le_refl _) (by omega) (by rw[hz2];omega) (by omega) (by simp) (fun _=>rfl) (fun a h=>by cases h)).mono ?_;rintro e w' ⟨rfl,rfl⟩;have g1:=grownCap_ge w (0+n) 0 3;have g2:=grownCap_le_maxLen w (0+n) 0 3 (by unfold maxLen;omega);refine⟨_,_,rfl,⟨rfl,.inr ⟨w.heap.size,_,_,rfl,Nat.le_refl _,heap_alloc_new w.drew _,Nat.zero_le _,g2,?_,rfl⟩⟩,bnew (show Below w.heap.size w w.drew from (Below.refl _ _).drew) _⟩;rw[Nat.zero_add]at g1;have hc:(grownCap w (0+n) 0 (Tryz.growI_ren.t 25))=grownCap w (0+n) 0 3:=rfl;rw[hc];obtain⟨q,hq⟩:∃q,grownCap w (0+n) 0 3=q:=⟨_,rfl⟩;rw[hq];rw[Nat.zero_add]at hq;rw[hq]at g1;simp[Builtin.zeroCells,Value.cells];omega
set_option maxRecDepth 100000 in
set_option maxHeartbeats 4000000 in
theorem concat2_any (g n m c1 c2:Nat)(A C:Option Addr)(xs ys:List Int)(w:World)(hn:n≤1000)(hm:m≤1000)(hb:Blk w g 31 #[.slice A n c1,.slice C m c2])(hx:Reads w w.heap.size 1 A n (nums xs))(hy:Reads w w.heap.size 1 C m (nums ys)) :
 Calls Tryz.prog 104 #[.slice (some ⟨g,0,none⟩) 2 2] w fun e w' => ∃A' c',e = .returned (.slice A' (n+m) c')∧w'.ownsRow w.heap.size 3 1 (.slice A' (n+m) c') (n+m) (nums (xs++ys))∧Below w.heap.size w w':=by
 obtain⟨i0,hi0,hz0,hz1,hz2⟩:=info_parts infoI3;have hlx:=nums_len hx;have hly:=nums_len hy;obtain⟨d0,d1⟩:=hb.two;have hgr:=growI_any (n+m) w (by omega);rw[show ((n+m:Nat):Int)=(n:Int)+(m:Int) by omega]at hgr;have HB:=Hd hb;have HX:=Hd hx;have HY:=Hd hy;have HLX:=Hd hlx;have HLY:=Hd hly;clear hb hx hy hlx hly
 go_enter Tryz.func104,Tryz.ntmps104
 go_wp2_with fail
 go_loopw [3,5,11] (fun sv _ jv wr => ∃j:Nat,jv = .int .i64 j∧w=wr∧((j=0∧sv = .int .i64 0)∨(j=1∧sv = .int .i64 n)∨(j=2∧sv = .int .i64 ((n:Int)+m)))) (fun _ _ jv _=>2-(intOf jv).toNat)
 case atStart=>exact⟨0,rfl,rfl,.inl ⟨rfl,rfl⟩⟩
 case round =>
  obtain⟨j,rfl,rfl,hj⟩:=hrel;rcases hj with⟨rfl,rfl⟩ | ⟨rfl,rfl⟩ | ⟨rfl,rfl⟩
  ·go_wp2_with fail
   go_roundw
   case rel=>exact⟨1,by go_num,by first | rfl | trivial,.inr (.inl ⟨rfl,by go_num⟩)⟩
   case measure=>simp[intOf]
  ·go_wp2_with fail
   go_roundw
   case rel=>exact⟨2,by go_num,by first | rfl | trivial,.inr (.inr ⟨rfl,by go_num⟩)⟩
   case measure=>simp[intOf]
  ·clear d0 d1
   go_wp2_with fail;refine hgr.mono ?_;rintro e w1 ⟨A1,k1,rfl,ho1,hb1⟩;clear hgr;have HO1:=Hd ho1;have HB1:=Hd hb1;clear ho1 hb1;go_wp2_with fail
   go_loopw [6,8,27] (fun sv _ jv wr => ∃ (j q:Nat) (A2:Option Addr) (k2:Nat) (zs:List Int),jv = .int .i64 j∧sv = .slice A2 q k2∧((j=0∧q=0∧zs = [])∨(j=1∧q=n∧zs=xs)∨(j=2∧q=n+m∧zs=xs++ys))∧wr.ownsRow w.heap.size 3 1 (.slice A2 q k2) q (nums zs)∧Below w.heap.size w wr) (fun _ _ jv _=>2-(intOf jv).toNat)
   case atStart=>exact⟨0,0,A1,k1,[],rfl,rfl,.inl ⟨rfl,rfl,rfl⟩,HO1.out,HB1.out⟩
   case round =>
    obtain⟨j,q,A2,k2,zs,rfl,rfl,hj,ho,hB⟩:=hrel;have hrx:=HX.out.below hB;have hry:=HY.out.below hB;obtain⟨d0,d1⟩:=(HB.out.under hB).two;have HBW:=Hd hB;have HO:=Hd ho;clear hB;rcases hj with⟨rfl,rfl,rfl⟩ | ⟨rfl,rfl,rfl⟩ | ⟨rfl,rfl,rfl⟩
    ·have hszw:w.heap.size≤wr.heap.size:=HBW.out.size
     go_wp2_with (first
      |(at_builtin;go_loud (refine wpList_append_any _ rfl (.tmp 31) (.tmp 32) _ rfl w.heap.size 3 i0 _ 1 8 Tryz.underlying31 hi0 hz0 hz1 hz2 rfl (by omega) _ 0 _ rfl ho w.heap.size A n c1 (nums xs) rfl hrx nums_one (by simp only[maxLen];omega) (by omega) hszw ?_;intro v2 w2 hown2 hg2 hat2;clear hat2;obtain⟨A3,k3,rfl⟩:=own_shape hown2;have HO2:=Hd hown2;have HB2:=Hd (HBW.out.grown hg2 hszw (fun k hk=>(own_in HO.out hk).1));clear hown2 hg2 ho d0 d1))
      |fail)
     go_roundw
     case rel=>exact⟨1,n,A3,k3,xs,by go_num,rfl,.inr (.inl ⟨rfl,rfl,rfl⟩),by have:=HO2.out;rw[Nat.zero_add]at this;exact this,HB2.out⟩
     case measure=>simp[intOf]
    ·have hszw:w.heap.size≤wr.heap.size:=HBW.out.size
     go_wp2_with (first
      |(at_builtin;go_loud (refine wpList_append_any _ rfl (.tmp 31) (.tmp 32) _ rfl w.heap.size 3 i0 _ 1 8 Tryz.underlying31 hi0 hz0 hz1 hz2 rfl (by omega) _ q _ rfl ho w.heap.size C m c2 (nums ys) rfl hry nums_one (by simp only[maxLen];omega) (by omega) hszw ?_;intro v2 w2 hown2 hg2 hat2;clear hat2;obtain⟨A3,k3,rfl⟩:=own_shape hown2;have HO2:=Hd hown2;have HB2:=Hd (HBW.out.grown hg2 hszw (fun k hk=>(own_in HO.out hk).1));clear hown2 hg2 ho d0 d1))
      |fail)
     go_roundw
     case rel=>exact⟨2,q+m,A3,k3,zs++ys,by go_num,rfl,.inr (.inr ⟨rfl,rfl,rfl⟩),by have:=HO2.out;unfold nums at this ⊢;simpa using this,HB2.out⟩
     case measure=>simp[intOf]
    ·go_wp2_with fail
     go_ret;exact⟨A2,k2,rfl,HO.out,HBW.out⟩
end Go.Proofs.YtjpkkkphhaajgaaGreatDoor.words

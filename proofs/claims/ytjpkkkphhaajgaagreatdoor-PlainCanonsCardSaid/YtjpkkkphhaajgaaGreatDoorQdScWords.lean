/- a part -/
import Derived.Test.YtjpkkkphhaajgaaGreatDoorQdP05
import Derived.Deep.RegionLaw
import Derived.StillTailTactics
set_option linter.all false
namespace Go.Proofs.YtjpkkkphhaajgaaGreatDoor.scn
open Go RowKit ChangeShapes WideShapes ChangeAt words
def wv (x:Wd):List Value := [strV x.1,.int .i64 (x.2:Nat)]
theorem infoW:(Tryz.prog.info? 175).map (fun i=>(i.zero,i.size,i.bytes))=some (some (.agg #[.string ⟨#[]⟩,.int .i64 0]),2,24):=by kernel_rfl
theorem wv_len (l:List Wd):(l.flatMap wv).length=l.length*2:=flat_len wv 2 (fun _=>rfl) l
theorem reads_two {w:World}{t:TypeId}{b:Nat}{x y:Value}(h:w.heap[b]?=some (.cells #[x,y] t (0,0))):Reads w w.heap.size 2 (some ⟨b,0,none⟩) 1 [x,y]:=by
 refine⟨rfl,fun _=>⟨_,rfl,Blk.lt h,fun j u hu=>?_⟩⟩;have e:(Addr.add ⟨b,0,none⟩ j)=⟨b,j,none⟩:=by unfold Addr.add;split<;>simp_all
 rw[e,Blk.cell h j]
 match j,hu with
 |0,hu=>exact hu
 |1,hu=>exact hu
 |j+2,hu=>simp at hu
theorem last_set (l:List Wd)(v v':List UInt8)(s:Nat):((l ++ [(v,s)]).flatMap wv).set (l.length*2) (strV v')=(l ++ [(v',s)]).flatMap wv:=by
 rw[List.flatMap_append,List.flatMap_append,List.set_append_right _ _ (by rw[wv_len];exact Nat.le_refl _),wv_len,Nat.sub_self];rfl
theorem last_at (l:List Wd)(v:List UInt8)(s:Nat):((l ++ [(v,s)]).flatMap wv)[l.length*2]?=some (strV v):=by
 rw[List.flatMap_append,List.getElem?_append_right (by rw[wv_len];exact Nat.le_refl _),wv_len,Nat.sub_self];rfl
theorem own_trunc2 {w:World}{base s n c m:Nat}{e:TypeId}{A:Option Addr}{xs:List Value}(h:w.ownsRow base e s (.slice A n c) n xs)(hm:m≤n):w.ownsRow base e s (.slice A m c) m (xs.take (m*s)):=by
 obtain⟨hl,h2⟩:=h;have hms:m*s≤n*s:=Nat.mul_le_mul_right _ hm;refine⟨by rw[List.length_take,hl,Nat.min_eq_left hms],?_⟩;rcases h2 with⟨h0,hn⟩ | ⟨g',cap',cur,hv,hg,hh,hn,hcap,hsz,htake⟩
 ·injection h0 with h1 h2 h3
  subst h1;subst h3;obtain rfl:m=0:=by omega
  exact .inl ⟨rfl,rfl⟩
 ·injection hv with h1 _ h3
  subst h1;subst h3;refine .inr ⟨g',c,cur,rfl,hg,hh,by omega,hcap,hsz,?_⟩;rw[← htake,List.take_take,Nat.min_eq_left hms]
def Row (w0:World)(l:List Wd)(A:Option Addr)(c:Nat)(w:World):Prop:=w.ownsRow w0.heap.size 175 2 (.slice A l.length c) l.length (l.flatMap wv)
def WordsOf (bs:List UInt8)(w:World)(e:Ending)(w':World):Prop :=
 ∃l bad A c,e = .returned (.tuple #[.slice A l.length c,.int .i64 bad])∧Told bs l bad∧Row w l A c w'∧Below w.heap.size w w'
theorem conv_one {w:World}{B n c r:Nat}{bs:List UInt8}(ho:w.ownsRow B 5 1 (.slice (some ⟨r,0,none⟩) n c) n (bv bs)){i:Nat}(hi:i<bs.length)(hn:bs.length=n):∀k w',Below w.heap.size w w'→(convert 22 9 (.slice (some ⟨r,i,none⟩) 1 k)).run Tryz.prog w' = .ok (strV [bs.getD i 0]) w':=fun k w' hw =>
 run_convert_bytes_back (P:=Tryz.prog) w' 22 9 5 ⟨r,i,none⟩ k [bs.getD i 0] Tryz.underlying22 Tryz.underlying5 Tryz.underlying9 (fun q hq=>by
  obtain rfl:q=0:=by simp at hq;omega
  have e:(Addr.add ⟨r,i,none⟩ 0)=⟨r,i,none⟩:=rfl;rw[e,((own_under ho hw).cellAt i (by omega)).trans (bv_get hi)]
  rfl)
theorem add_one (v:List UInt8)(b:UInt8)(hv:v.length≤1000000):∀w:World,(Op.stringOp .add ⟨v.toArray⟩ ⟨[b].toArray⟩).run Tryz.prog w = .ok (strV (v ++ [b])) w:=fun w=>by
 rw[run_string_add_sum w _ _ (by simp[ByteArray.size];omega),ByteArray.mk_append_mk]
set_option maxHeartbeats 8000000 in
set_option maxRecDepth 100000 in
theorem words_any (r n cap B:Nat)(bs:List UInt8)(w:World)(hl:bs.length=n)(hn:n≤1000)(ho:w.ownsRow B 5 1 (.slice (some ⟨r,0,none⟩) n cap) n (bv bs)) :
 Calls Tryz.prog 86 #[.slice (some ⟨r,0,none⟩) n cap] w fun e w'=>WordsOf bs w e w':=by
 obtain⟨i0,hi0,hz0,hz1,hz2⟩:=info_parts infoW;have HN:=Hd hl;have HO:=Hd ho;have hcap:=own_cap ho;have hrl:=(own_in ho (q:=r) rfl).2;clear ho hl
 go_enter Tryz.func86,Tryz.ntmps86
 go_wp2_with fail
 go_loopw [4,5,10] (fun lv ov jv wr => ∃ (j:Nat) (l:List Wd) (A:Option Addr) (c:Nat) (op:Bool),jv = .int .i64 j∧lv = .slice A l.length c∧ov = .bool op∧j≤n∧l.length≤j∧Far bs j l op∧Row w l A c wr∧Below w.heap.size w wr) (fun _ _ jv _=>n-(intOf jv).toNat)
 case atStart=>exact⟨0,[],none,0,false,rfl,rfl,rfl,Nat.zero_le _,Nat.zero_le _,far_zero bs,World.ownsRow_nil _ _ _ _,Below.refl _ _⟩
 case round =>
  obtain⟨j,l,A,c,op,rfl,rfl,rfl,hj,hlj,hF,hR,hB⟩:=hrel;have HF:=Hd hF;have HR:=Hd hR;clear hF hR;by_cases hlt:j<n
  ·have hcj:=((own_under HO.out hB).cellAt j (by omega)).trans (bv_get (by rw[HN.out];exact hlt))
   obtain⟨x,hx⟩:∃x,at_ bs j=x:=⟨_,rfl⟩;have hx256:x<256:=by rw[← hx];exact UInt8.toNat_lt _
   rw[hx]at hcj;have HX:=Hd hx;clear hx
   cases hb:isB x with
   | true =>
     have hbF:Hid (Far bs (j+1) l false):=HF.out.between (by rw[HN.out];exact hlt) (by rw[HX.out];exact hb)
     have hfour:x=32∨x=9∨x=10∨x=13:=by
      simp only[isB,Bool.or_eq_true,beq_iff_eq]at hb;omega
     clear hb;rcases hfour with rfl | rfl | rfl | rfl
     all_goals
      go_wp2_with fail;go_roundw
      case rel=>exact⟨j+1,l,A,c,false,by go_num,rfl,rfl,by omega,by omega,hbF.out,HR.out,hB⟩
      case measure=>simp[intOf];omega
   | false =>
     have hbs:¬ x=32∧¬ x=9∧¬ x=10∧¬ x=13:=by
      simp only[isB,Bool.or_eq_false_iff,beq_eq_false_iff_ne]at hb;omega
     have e1:((x:Int)==32)=false:=by simp;omega
     have e2:((x:Int)==9)=false:=by simp;omega
     have e3:((x:Int)==10)=false:=by simp;omega
     have e4:((x:Int)==13)=false:=by simp;omega
     cases hin:isIn x with
     | false =>
       have hw:=Hd (Far.wrong (l:=l) (by rw[HN.out];exact hlt) (by rw[HX.out];exact hb) (by rw[HX.out];exact hin))
       have hor:x<33∨126<x:=by
        simp only[isIn,Bool.and_eq_false_iff,decide_eq_false_iff_not]at hin;omega
       clear hb hbs hin
       cases op with
       | false =>
         have hT:=Hd (hw.out.1 HF.out);by_cases h33:x<33
         ·have b1:decide (x<33)=true:=decide_eq_true h33
          have b1I:(x:Int)<33:=by omega
          clear hor hw;go_wp2_with fail;go_ret2;exact⟨l,j,A,c,rfl,hT.out,HR.out,hB⟩
         ·have b1:decide (x<33)=false:=decide_eq_false h33
          have b2:decide (126<x)=true:=decide_eq_true (by omega);have b1I:¬ (x:Int)<33:=by omega
          have b2I:(126:Int)<(x:Int):=by omega
          have b3I:¬ (x:Int)≤126:=by omega
          clear hor hw;go_wp2_with fail;go_ret2
          exact⟨l,j,A,c,rfl,hT.out,HR.out,hB⟩
       | true =>
         obtain⟨l0,y,hl0,hT⟩:=hw.out.2 HF.out
         have hRow:Hid (Row w l0 A c wr):=by
          have h:=HR.out;unfold Row at h;rw[hl0,List.length_append]at h;have:=own_trunc2 h (m:=l0.length) (by simp);rw[List.flatMap_append,List.take_append_of_le_length (by rw[wv_len];exact Nat.le_refl _),List.take_of_length_le (by rw[wv_len];exact Nat.le_refl _)]at this;exact this
         have hlc:=own_cap HR.out;have hll:l.length=l0.length+1:=by rw[hl0];simp
         rw[hll]at hlj hlc ⊢;obtain⟨k,hk⟩:∃k,l0.length=k:=⟨_,rfl⟩;rw[hk]at hlj hlc ⊢;obtain⟨k1,hk1⟩:∃k1,k+1=k1:=⟨_,rfl⟩;rw[hk1]at hlj hlc ⊢;have kI:(k1:Int)-1=(k:Int):=by omega
         have kw:IntKind.i64.wrap (k:Int)=(k:Int):=by rw[IntKind.wrap_i64];omega
         have k0:(0:Int)≤(k:Int):=Int.natCast_nonneg _;have kc:(k:Int)≤(c:Int):=by omega
         have HT:=Hd hT;have HK:=Hd hk;clear hT hl0 hll hk hk1 hw;by_cases h33:x<33
         ·have b1:decide (x<33)=true:=decide_eq_true h33
          have b1I:(x:Int)<33:=by omega
          clear hor;go_wp2_with fail;go_ret2;exact⟨l0,j,A,c,by rw[HK.out];rfl,HT.out,hRow.out,hB⟩
         ·have b1:decide (x<33)=false:=decide_eq_false h33
          have b2:decide (126<x)=true:=decide_eq_true (by omega);have b1I:¬ (x:Int)<33:=by omega
          have b2I:(126:Int)<(x:Int):=by omega
          have b3I:¬ (x:Int)≤126:=by omega
          clear hor;go_wp2_with fail;go_ret2
          exact⟨l0,j,A,c,by rw[HK.out];rfl,HT.out,hRow.out,hB⟩
     | true =>
       have hor:33≤x∧x≤126:=by
        simp only[isIn,Bool.and_eq_true,decide_eq_true_eq]at hin;exact hin
       have b1:decide (x<33)=false:=decide_eq_false (by omega);have b2:decide (126<x)=false:=decide_eq_false (by omega);have b1I:(33:Int)≤(x:Int):=by omega
       have b2I:(x:Int)≤126:=by omega
       have b1D:decide ((x:Int)<33)=false:=decide_eq_false (by omega);have b2D:decide ((126:Int)<(x:Int))=false:=decide_eq_false (by omega);have hcv:=conv_one HO.out (i:=j) (by rw[HN.out];exact hlt) HN.out
       cases op with
       | true =>
         obtain⟨l0,v,s,hl0,hvl,hF2⟩:=HF.out.goes (by rw[HN.out];exact hlt) (by rw[HX.out];exact hin);subst hl0;have hR2:=HR.out;unfold Row at hR2;obtain⟨k,hk⟩:∃k,l0.length=k:=⟨_,rfl⟩;obtain⟨k1,hk1⟩:∃k1,k+1=k1:=⟨_,rfl⟩;have hll:(l0 ++ [(v,s)]).length=k1:=by simp[hk,← hk1]
         rw[hll]at hR2 hlj ⊢;have HK1:=Hd hk1;obtain⟨q,rfl,hq1,hq2⟩:=own_some hR2 (by omega);have g0:wr.cell? ⟨q,k*2,none⟩=some (strV v):=(hR2.cellAt (k*2) (by omega)).trans (by rw[← hk];exact last_at l0 v s);have g1:=hR2.frozenAt (k*2);have hst:=(hR2.stored (k*2) (strV (v ++ [bs.getD j 0]))).1;rw[show ((l0 ++ [(v,s)]).flatMap wv).set (k*2) (strV (v ++ [bs.getD j 0]))=(l0 ++ [(v ++ [bs.getD j 0],s)]).flatMap wv by rw[← hk];exact last_set l0 v _ s]at hst;have hst2:∀m,((wr.drewN m).setCell ⟨q,k*2,none⟩ (strV (v ++ [bs.getD j 0]))).ownsRow w.heap.size 175 2 (.slice (some ⟨q,0,none⟩) k1 c) k1 ((l0 ++ [(v ++ [bs.getD j 0],s)]).flatMap wv):=fun m=>hst
         have HST:=Hd hst2;have HF2:=Hd hF2;have hadd:=add_one v (bs.getD j 0) (by rw[HN.out]at hvl;omega);have hcv1:=fun z=>hcv z wr hB
         have hcv2:=fun z=>hcv z wr.drew hB.drew
         have HK:=Hd hk;obtain⟨b,hbe⟩:∃b,bs.getD j 0=b:=⟨_,rfl⟩;have HBE:=Hd hbe;rw[hbe]at hadd hcv1 hcv2;have kI:(k1:Int)-1=(k:Int):=by omega
         have kw:IntKind.i64.wrap (k:Int)=(k:Int):=by rw[IntKind.wrap_i64];omega
         have k0:(0:Int)≤(k:Int):=Int.natCast_nonneg _;have kk:(k:Int)<(k1:Int):=by omega
         have j0:(0:Int)≤(j:Int):=Int.natCast_nonneg _;obtain⟨j1,hj1⟩:∃j1,j+1=j1:=⟨_,rfl⟩;have J1:(j:Int)+1=(j1:Int):=by omega
         have Jw:IntKind.i64.wrap (j1:Int)=(j1:Int):=by rw[IntKind.wrap_i64];omega
         have jj1:(j:Int)≤(j1:Int):=by omega
         have jj:(j1:Int)≤(cap:Int):=by omega
         have js:j1-j=1:=by omega
         have HJ:=Hd hj1;have jc:¬ cap=j:=by omega
         clear hst hst2 hF2 hk hk1 hll hR2 hb hbs hin hbe hcv hj1;have HT2:Hid (Tch wr (wr.drew.setCell ⟨q,k*2,none⟩ (strV (v ++ [b]))) fun z=>z=q):=(Tch.refl wr (fun z=>z=q)).drew.put (p:=⟨q,k*2,none⟩) _ rfl
         go_upto_region 15 with (fail)
         go_still_tail 16,(by kernel_rfl)
         go_wp2_with fail;go_roundw
         case rel =>
          have hbel:Below w.heap.size w (wr.drew.setCell ⟨q,k*2,none⟩ (strV (v ++ [b]))):=hB.trans (HT2.out.below hB.size fun z hz e=>by omega);refine⟨j+1,l0 ++ [(v ++ [b],s)],some ⟨q,0,none⟩,c,true,by go_num,?_,rfl,by omega,by have:=HK.out;have:=HK1.out;simp;omega,by rw[← HBE.out];exact HF2.out,?_,hbel⟩
          ·simp[HK.out,HK1.out]
          ·have:=HST.out 1
           rw[HBE.out]at this;unfold Row;rw[show (l0 ++ [(v ++ [b],s)]).length=k1 by simp[HK.out,HK1.out]];exact this
         case measure=>simp[intOf];omega
       | false =>
         have hF2:=HF.out.begins (by rw[HN.out];exact hlt) (by rw[HX.out];exact hin);obtain⟨k,hk⟩:∃k,l.length=k:=⟨_,rfl⟩;have hR2:=HR.out;unfold Row at hR2;rw[hk]at hR2 hlj ⊢;have ho1:=own_under hR2 (bone wr (.cells #[.string ⟨#[]⟩,.int .i64 (j:Int)] 175));have hr1:Reads (wr.alloc (.cells #[.string ⟨#[]⟩,.int .i64 (j:Int)] 175)) (wr.alloc (.cells #[.string ⟨#[]⟩,.int .i64 (j:Int)] 175)).heap.size 2 (some ⟨wr.heap.size,0,none⟩) 1 [.string ⟨#[]⟩,.int .i64 (j:Int)]:=reads_two (t:=175) (heap_alloc_new wr _);have hone:∀u∈([.string ⟨#[]⟩,.int .i64 (j:Int)]:List Value),u.oneCell'=true:=fun u hu=>by simp at hu;rcases hu with rfl | rfl<;>rfl
         have hsz:=hB.size;have hs2:w.heap.size≤(wr.alloc (.cells #[.string ⟨#[]⟩,.int .i64 (j:Int)] 175)).heap.size:=by simp;omega
         have HK:=Hd hk;have HF2:=Hd hF2;have HR2:=Hd hR2;obtain⟨b,hbe⟩:∃b,bs.getD j 0=b:=⟨_,rfl⟩;have HBE:=Hd hbe;have HCV:=Hd hcv;have k0:(0:Int)≤(k:Int):=Int.natCast_nonneg _;have j0:(0:Int)≤(j:Int):=Int.natCast_nonneg _;obtain⟨j1,hj1⟩:∃j1,j+1=j1:=⟨_,rfl⟩;have J1:(j:Int)+1=(j1:Int):=by omega
         have Jw:IntKind.i64.wrap (j1:Int)=(j1:Int):=by rw[IntKind.wrap_i64];omega
         have jj1:(j:Int)≤(j1:Int):=by omega
         have jj:(j1:Int)≤(cap:Int):=by omega
         have js:j1-j=1:=by omega
         have HJ:=Hd hj1;have jc:¬ cap=j:=by omega
         clear hF2 hk hR2 hb hbs hin hbe hcv hj1
         go_upto_region 15 with (first
          |(at_builtin;refine wpList_append_any _ rfl (.tmp 45) (.tmp 48) _ rfl w.heap.size 175 i0 _ 2 24 Tryz.underlying168 hi0 hz0 hz1 hz2 rfl (by omega) (.slice A k c) k _ rfl ho1 (wr.alloc (.cells #[.string ⟨#[]⟩,.int .i64 (j:Int)] 175)).heap.size (some ⟨wr.heap.size,0,none⟩) 1 1 [.string ⟨#[]⟩,.int .i64 (j:Int)] rfl hr1 hone (by simp only[maxLen];omega) (by omega) hs2 ?_;intro v5 w5 hown5 hg5 hat;clear hat;obtain⟨A5,c5,rfl⟩:=own_shape hown5;have HO5:=Hd hown5;have HG5:=Hd hg5;clear hown5 hg5 ho1 hr1)
          |fail)
         have hB5:Below w.heap.size w w5:=(hB.alloc hB.size _).grown HG5.out (by simp;omega) (fun q hq=>(own_in HR2.out hq).1);obtain⟨k1,hk1⟩:∃k1,k+1=k1:=⟨_,rfl⟩;have hR5:=HO5.out;rw[hk1]at hR5 ⊢;have kI:(k1:Int)-1=(k:Int):=by omega
         have kw:IntKind.i64.wrap (k:Int)=(k:Int):=by rw[IntKind.wrap_i64];omega
         have kk:(k:Int)<(k1:Int):=by omega
         have HK1:=Hd hk1;rw[show l.flatMap wv ++ [.string ⟨#[]⟩,.int .i64 (j:Int)]=(l ++ [(([]:List UInt8),j)]).flatMap wv by rw[List.flatMap_append];rfl]at hR5;obtain⟨q,rfl,hq1,hq2⟩:=own_some hR5 (by omega);have g0:w5.cell? ⟨q,k*2,none⟩=some (.string ⟨#[]⟩):=(hR5.cellAt (k*2) (by omega)).trans (by rw[← HK.out];exact last_at l [] j);have g1:=hR5.frozenAt (k*2);have hst:=(hR5.stored (k*2) (strV [b])).1;rw[show ((l ++ [(([]:List UInt8),j)]).flatMap wv).set (k*2) (strV [b])=(l ++ [([b],j)]).flatMap wv by rw[← HK.out];exact last_set l [] _ j]at hst;have hst2:((w5.drew).setCell ⟨q,k*2,none⟩ (strV [b])).ownsRow w.heap.size 175 2 (.slice (some ⟨q,0,none⟩) k1 c5) k1 ((l ++ [([b],j)]).flatMap wv):=hst;have HST:=Hd hst2;have hadd:∀W:World,(Op.stringOp .add ⟨#[]⟩ ⟨[b].toArray⟩).run Tryz.prog W = .ok (strV [b]) W:=add_one [] b (by simp);have hcv1:=fun z=>HCV.out z w5 hB5
         have hcv2:=fun z=>HCV.out z w5.drew hB5.drew
         rw[HBE.out]at hcv1 hcv2;have HT2:Hid (Tch w5 (w5.drew.setCell ⟨q,k*2,none⟩ (strV [b])) fun z=>z=q):=(Tch.refl w5 (fun z=>z=q)).drew.put (p:=⟨q,k*2,none⟩) _ rfl;clear hst hst2 hR5 hk1
         go_still_tail 16,(by kernel_rfl)
         go_wp2_with fail;go_roundw
         case rel =>
          have hbel:Below w.heap.size w (w5.drew.setCell ⟨q,k*2,none⟩ (strV [b])):=hB5.trans (HT2.out.below hB5.size fun z hz e=>by omega);refine⟨j+1,l ++ [([b],j)],some ⟨q,0,none⟩,c5,true,by go_num,?_,rfl,by omega,by have:=HK.out;have:=HK1.out;simp;omega,by rw[← HBE.out];exact HF2.out,?_,hbel⟩
          ·simp[HK.out,HK1.out]
          ·unfold Row
           rw[show (l ++ [([b],j)]).length=k1 by simp[HK.out,HK1.out]];exact HST.out
         case measure=>simp[intOf];omega
  ·obtain rfl:n=j:=by omega
   have hT:Hid (Told bs l (-1)):=(show Far bs bs.length l op by rw[HN.out];exact HF.out).ends;go_wp2_with fail;go_ret2;exact⟨l,-1,A,c,rfl,hT.out,HR.out,hB⟩
end Go.Proofs.YtjpkkkphhaajgaaGreatDoor.scn

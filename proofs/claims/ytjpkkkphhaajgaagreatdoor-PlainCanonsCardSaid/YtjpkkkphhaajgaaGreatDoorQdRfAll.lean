/- a part -/
import Derived.Test.YtjpkkkphhaajgaaGreatDoorQdP18
import Derived.Test.YtjpkkkphhaajgaaGreatDoorQdShapeRef
set_option linter.all false
namespace Go.Proofs.YtjpkkkphhaajgaaGreatDoor.wcp
open Go RowKit ChangeShapes WideShapes ChangeAt Maps words scn
open shp (Szs prodI InT idxI tupI allI)
theorem Blk.tri {w:World}{g:Nat}{t:TypeId}{a b c:Value}(h:Blk w g t #[a,b,c]):w.cell? ⟨g,0,none⟩=some a∧w.cell? ⟨g,1,none⟩=some b∧w.cell? ⟨g,2,none⟩=some c ∧
 w.frozen? ⟨g,0,none⟩=false∧w.frozen? ⟨g,1,none⟩=false∧w.frozen? ⟨g,2,none⟩=false:=⟨h.cell 0,h.cell 1,h.cell 2,h.frozen 0,h.frozen 1,h.frozen 2⟩
theorem blk4 {w:World}{g:Nat}{t:TypeId}{a b c d:Value}(h:Blk w g t #[a,b,c,d]):w.cell? ⟨g,0,none⟩=some a∧w.cell? ⟨g,1,none⟩=some b∧w.cell? ⟨g,2,none⟩=some c∧w.cell? ⟨g,3,none⟩=some d:=⟨h.cell 0,h.cell 1,h.cell 2,h.cell 3⟩
def RFn (w:World)(B:Nat)(v1 v2 v3:Value)(g:CF):Prop:=RowI w B v1 g.scope∧RowI w B v2 g.sizes∧Row64 w B v3 g.C
def RAllR (w:World)(zs:List Int)(K:Int)(f:Raw)(e:Ending)(w':World):Prop :=
 ∃v1 v2 v3,e = .returned (.agg #[v1,v2,v3])∧RFn w' w.heap.size v1 v2 v3 (turnF zs K f)∧Below w.heap.size w w'
def picks (ss t:List Int)(v:Int)(i:Nat):List Int:=(((ss.zip t).take i).filter fun p=>decide (p.1=v)).map (·.2)
theorem picks_step {ss t:List Int}{v u x:Int}{i:Nat}(h1:ss[i]?=some u)(h2:t[i]?=some x):picks ss t v (i+1)=if u=v then picks ss t v i ++ [x] else picks ss t v i:=by
 unfold picks;have hz:(ss.zip t)[i]?=some (u,x):=List.getElem?_zip_eq_some.2 ⟨h1,h2⟩;rw[List.take_add_one,hz,Option.toList_some,List.filter_append,List.map_append];by_cases e:u=v
 ·rw[if_pos e,List.filter_cons_of_pos (by simp[e])];rfl
 ·rw[if_neg e,List.filter_cons_of_neg (by simp[e])];simp
theorem picks_len (ss t:List Int)(v:Int)(i:Nat):(picks ss t v i).length≤i:=by
 unfold picks;rw[List.length_map];exact Nat.le_trans (List.length_filter_le _ _) (by rw[List.length_take];omega)
theorem picks_all {ss t:List Int}{v:Int}(hn:ss.Nodup)(hl:t.length=ss.length)(hv:v∈ss):picks ss t v ss.length = [t.getD (ss.idxOf v) 0]:=by
 unfold picks;rw[List.take_of_length_le (by rw[List.length_zip];omega)]
 induction ss generalizing t with
 |nil=>cases hv
 | cons a ss ih =>
   obtain⟨h1,h2⟩:=List.nodup_cons.1 hn
   cases t with
   |nil=>simp at hl
   | cons x t =>
     rw[List.zip_cons_cons];by_cases e:a=v
     ·subst e
      rw[List.filter_cons_of_pos (by simp)]
      have hno:(ss.zip t).filter (fun p=>decide (p.1=a)) = []:=by
       rw[List.filter_eq_nil_iff];intro p hp;have:=(List.of_mem_zip hp).1;simp only[decide_eq_true_eq];intro e2;exact h1 (e2 ▸ this)
      rw[hno,List.idxOf_cons_self];rfl
     ·rw[List.filter_cons_of_neg (by simp[e]),ih h2 (by simpa using hl) (by rcases List.mem_cons.1 hv with h | h;exact absurd h.symm e;exact h)]
      have e2:(a==v)=false:=by simpa using e
      simp[List.idxOf_cons,e2]
def ownU (sc ss t:List Int)(p:Nat):List Int:=(sc.take p).map fun v=>t.getD (ss.idxOf v) 0
theorem ownU_step {sc ss t:List Int}{v:Int}{p:Nat}(hn:ss.Nodup)(hl:t.length=ss.length)(h:sc[p]?=some v)(hv:v∈ss):ownU sc ss t (p+1)=ownU sc ss t p++picks ss t v ss.length:=by
 unfold ownU;rw[List.take_add_one,h,Option.toList_some,List.map_append,picks_all hn hl hv];rfl
theorem ownU_all (sc ss t:List Int):ownU sc ss t sc.length=ownT sc ss t:=by unfold ownU ownT;rw[List.take_length]
theorem szOf_step {zs ss:List Int}{v y:Int}{j:Nat}(h:ss[j]?=some v)(hy:zs[v.toNat]?=some y):szOf zs (ss.take (j+1))=szOf zs (ss.take j) ++ [y]:=by
 unfold szOf;rw[List.take_add_one,h,Option.toList_some,List.map_append];simp[List.getD_eq_getElem?_getD,hy]
theorem wp_last {P:Program}{c:Code}{Q:Exit→Act→World→Prop}{a:Act}{w:World}(h:∀K:Act→World→Prop,(∀a w,Q .normal a w→K a w)→c.wp P (Exit.then K Q) a w):c.wp P Q a w :=
 Code.wp_mono (fun e a w h=>by cases e<;>exact h) (h (Q .normal) fun _ _ h=>h)
theorem rowsI_tch {w w':World}{base:Nat}{A:Option Addr}{c:Nat}{L:List (List Int)}{S:Nat→Prop}(h:shp.RowsI w base A c L)(ht:Tch w w' S)(hS:∀q,S q→q<base):shp.RowsI w' base A c L:=by
 obtain⟨vs,h1,h2,h3⟩:=h;refine⟨vs,ht.own h1 fun q hq hs=>by have:=(own_in h1 hq).1;have:=hS q hs;omega,h2,fun i t hi=>?_⟩;obtain⟨A',c',h4,h5⟩:=h3 i t hi;exact⟨A',c',h4,ht.own h5 fun q hq hs=>by have:=(own_in h5 hq).1;have:=hS q hs;omega⟩
theorem nums_snoc (l:List Int)(v:Int):nums (l ++ [v])=nums l++nums [v]:=by unfold nums;rw[List.map_append]
set_option maxRecDepth 100000 in
set_option maxHeartbeats 16000000 in
theorem rall_any {w:World}{v1 v2 v4:Value}{o K:Int}{f:Raw}(h:QFn w v1 v2 o v4 f){zs:List Int}(ZA:Option Addr)(zn zc:Nat)(hz:Reads w w.heap.size 1 ZA zn (nums zs))(hok:okF f K)(hfit:FitF zs f)(hgr:great f.sizes=false)(hz64:zs.length≤64) :
 Calls Tryz.prog 50 #[.agg #[v1,v2,.int .i64 o,v4],.slice ZA zn zc,.int .i64 K] w fun e w'=>RAllR w zs K f e w':=by
 obtain⟨i0,hi0,hz0,hz1,hz2⟩:=info_parts infoInt8;obtain⟨i6,h60,h61,h62,h63⟩:=info_parts info64;have h0:=h;obtain⟨rfl,⟨⟨A1,c1,rfl⟩,hs1⟩,⟨⟨AZ,cZ,rfl⟩,-⟩,LL,hLL,⟨AL,cL,rfl⟩,-,-⟩:=h0;have hzl:=nums_len hz;have hs6:f.scope.length≤6:=hok.2.2.2.2.2.2.2;have hsb:∀v∈f.scope,0≤v∧v<64:=fun v hv=>by have:=hfit.1 v hv;omega
 have hrs:=riseU_rise hfit.2.1 hsb;obtain⟨ss,hss⟩:∃ss,rise f.scope=ss:=⟨_,rfl⟩;have hssl:ss.length=f.scope.length:=by rw[← hss];exact rise_len _
 have hssn:ss.Nodup:=by rw[← hss];exact rise_nodup hfit.2.1
 have hssm:∀v,v∈ss↔v∈f.scope:=fun v=>by rw[← hss];exact rise_mem
 have hgood:Szs (szOf zs ss):=by
  refine⟨by unfold szOf;rw[List.length_map];omega,fun k hk=>?_⟩;unfold szOf at hk;obtain⟨v,hv,rfl⟩:=List.mem_map.1 hk;refine hok.2.1 _ ?_;rw[hfit.2.2];exact List.mem_map.2 ⟨v,(hssm v).1 hv,rfl⟩
 obtain⟨ns,hns⟩:∃ns,f.scope.length=ns:=⟨_,rfl⟩;rw[hss]at hrs;obtain⟨w1,hw1⟩:∃w1,w.alloc (.cells #[.slice A1 f.scope.length c1,.slice AZ f.sizes.length cZ,.int .i64 f.other,.slice AL LL.length cL] 70)=w1:=⟨_,rfl⟩;obtain⟨w2,hw2⟩:∃w2,w1.alloc (.cells #[.slice none 0 0,.slice none 0 0,.slice none 0 0] 52)=w2:=⟨_,rfl⟩;have hb1:Below w.heap.size w w1:=by rw[← hw1];exact bone w _
 have hb2:Below w1.heap.size w1 w2:=by rw[← hw2];exact bone w1 _
 have hB2:=bto hb1 hb2;have hpb:Blk w2 w.heap.size 70 #[.slice A1 f.scope.length c1,.slice AZ f.sizes.length cZ,.int .i64 f.other,.slice AL LL.length cL]:=by rw[← hw2,← hw1];exact (Blk.new _ _ _).alloc _
 have hrb:Blk w2 w1.heap.size 52 #[.slice none 0 0,.slice none 0 0,.slice none 0 0]:=by rw[← hw2];exact Blk.new _ _ _
 have hris:=rising_any A1 f.scope.length c1 f.scope w2 (by omega) (Reads.of_own (own_under hs1 hB2));unfold RisingR at hris;rw[hrs]at hris;have hbb1:w1.heap.size=w.heap.size+1:=by rw[← hw1];simp
 rw[hbb1]at hrb;have HQ:=Hd h;have HZ:=Hd hz;have HZL:=Hd hzl;have HFIT:=Hd hfit;have HGOOD:=Hd hgood;have HSS:=Hd hss;have HSSL:=Hd hssl;have HSSN:=Hd hssn;have HSSM:=Hd hssm;have HB2:=Hd hB2;have HPB:=Hd hpb;have HRB:=Hd hrb;have HNS:=Hd hns;have HB1L:Hid (w.heap.size+1<w2.heap.size):=Blk.lt hrb;rw[hns]at hs6 hssl hris hpb hw1;rw[hssl]at hris;have HSSN2:=Hd hssl;obtain⟨x0,x1,x2,x3,-⟩:=Blk.four (t:=70) hpb;clear hssl;clear h hs1 hz hzl hsb hrs hfit hgood hss hssn hssm hb1 hb2 hB2 hpb hrb hok hgr
 go_enter Tryz.func50,Tryz.ntmps50
 go_upto_region 1 with fail
 try rw[hw1,hw2]
 clear hw1 hw2 hbb1;go_wp2_with fail;refine hris.mono ?_;rintro e w3 ⟨AR,cR,rfl,hoR,hb3⟩;clear hris x1 x2 x3;have HB23:=Hd hb3;have hgw:w2.heap.size≤w3.heap.size:=hb3.size;obtain⟨w4,hw4⟩:∃w4,w3.alloc (.cells #[.slice AR ns cR,.slice none 0 0,.slice none 0 0] 52)=w4:=⟨_,rfl⟩;have hb4:Below w3.heap.size w3 w4:=by rw[← hw4];exact bone w3 _
 have hfb:Blk w4 w3.heap.size 52 #[.slice AR ns cR,.slice none 0 0,.slice none 0 0]:=by rw[← hw4];exact Blk.new _ _ _
 have HRB4:Hid (∀q,(Value.slice AR ns cR).ownBlock=some q→w2.heap.size≤q∧q<w3.heap.size):=fun q hq=>own_in hoR hq
 have HOR:=Hd (own_under hoR hb4);have HPB4:=Hd ((HPB.out.under hb3).under hb4);have HRBB:=Hd ((HRB.out.under hb3).under hb4);have HB4:=Hd (bto HB2.out (bto hb3 hb4));have hG:Hid (w.heap.size+1<w3.heap.size):=Nat.lt_of_lt_of_le HB1L.out hgw;obtain⟨gb,hgb⟩:∃gb,w3.heap.size=gb:=⟨_,rfl⟩;have HGB:=Hd hgb;rw[hgb]at hfb;have hgl4:gb<w4.heap.size:=hfb.lt;obtain⟨z0,z1,z2,-⟩:=Blk.tri (t:=52) hfb;have HFB:=Hd hfb;have HGL:=Hd hgl4;have hGG:Hid (w.heap.size+1<gb):=by rw[← HGB.out];exact hG.out
 have HW4:=Hd hw4;clear hoR hb3 hb4 hfb hgw hgl4 hG x0 hw4 hgb z0 z1 z2;go_wp2_with fail;rw[HGB.out,HW4.out];clear HW4
 go_loopw [9,24] (fun _ jv wr => ∃ (j:Nat) (A:Option Addr) (c:Nat),jv = .int .i64 j∧j≤ns∧Hid (Blk wr gb 52 #[.slice AR ns cR,.slice A j c,.slice none 0 0])∧Hid (wr.ownsRow w4.heap.size 3 1 (.slice A j c) j (nums (szOf zs (ss.take j))))∧Hid (Tch w4 wr (fun k=>k=gb))) (fun _ jv _=>ns-(intOf jv).toNat)
 case atStart=>exact⟨0,none,0,rfl,Nat.zero_le _,HFB.out,World.ownsRow_nil _ _ _ _,Tch.refl _ _⟩
 case round =>
  obtain⟨j,A,c,rfl,hj,HX,HO,HT⟩:=hrel;have HBW:Hid (Below w.heap.size w wr):=HB4.out.trans (HT.out.below HB4.out.size fun i hi e=>by have:=hGG.out;omega);by_cases hlt:j<ns
  ·have hro:=HT.out.own HOR.out fun q hq e=>by have h1:=(HRB4.out q hq).2;have h2:=HGB.out;omega
   obtain⟨v,hv⟩:∃v,ss[j]?=some v:=⟨_,List.getElem?_eq_getElem (by have:=HSSN2.out;omega)⟩;obtain⟨q,rfl,-,-⟩:=own_some hro (by omega);have hc:=(hro.cellAt j (by omega)).trans (show (nums ss)[j]?=some (.int .i64 v) by unfold nums;rw[List.getElem?_map,hv];rfl);obtain⟨hv0,hv1⟩:=HFIT.out.1 v ((HSSM.out v).1 (List.mem_of_getElem? hv));obtain⟨m,rfl⟩:∃m:Nat,v=(m:Int):=⟨v.toNat,by omega⟩;have hzn:=HZL.out;have hml:m<zn:=by omega
   obtain⟨ad2,y,hA2,hbl2,hy,hc2⟩:=(HZ.out.below HBW.out).num hml;subst hA2;have HV:=Hd hv;have HY:=Hd hy;obtain⟨y0,y1,y2,yf0,yf1,yf2⟩:=Blk.tri (t:=52) HX.out;have hA6:=(HO.out.alloc (.cells #[.int .i64 y] 3)).drew;have hr6:Reads (wr.alloc (.cells #[.int .i64 y] 3)).drew (wr.alloc (.cells #[.int .i64 y] 3)).heap.size 1 (some ⟨wr.heap.size,0,none⟩) 1 (nums [y]):=reads_block (t:=3) (heap_alloc_new _ _) rfl;have Y1:=(Blk.tri (t:=52) (HX.out.alloc (.cells #[.int .i64 y] 3))).2.1;have HC2:(wr.alloc (.cells #[.int .i64 y] 3)).cell? (ad2.add m)=some (.int .i64 y):=(World.cell?_alloc_lt wr _ _ (by rw[block_of_add];have:=HBW.out.size;omega)).trans hc2;have hxl:w4.heap.size≤wr.heap.size:=HT.out.size;have m0:(0:Int)≤(m:Int):=Int.natCast_nonneg _;have m1:(m:Int)<(zn:Int):=by omega
   have j0:(0:Int)≤(j:Int):=Int.natCast_nonneg _;have j1:(j:Int)<(ns:Int):=by omega
   clear hv hy hro hv0 hv1 hzn hml hbl2;go_upto_region 5 with fail
   go_region_law (refine step_append_any _ rfl (.tmp 29) (.tmp 34) 31 rfl w4.heap.size 3 i0 _ 1 8 Tryz.underlying31 hi0 hz0 hz1 hz2 rfl (by omega) (.slice A j c) j _ rfl hA6 (wr.alloc (.cells #[.int .i64 y] 3)).heap.size (some ⟨wr.heap.size,0,none⟩) 1 1 (nums [y]) rfl hr6 nums_one (by simp only[maxLen];omega) (by omega) (by simp;omega) ?_;intro v6 w6 hown6 hg6 hat6;obtain⟨A6,c6,rfl⟩:=own_shape hown6;have hx6:=(HX.out.alloc (.cells #[.int .i64 y] 3)).drew.grown hg6 (fun e=>by have:=(own_in hA6 e.symm).1;have:=HGL.out;omega);have d61:=(Blk.tri (t:=52) hx6).2.1;have d6f:=hx6.frozen 1;have HX6:=Hd hx6;have HO6:=Hd hown6;have HG6:=Hd hg6;clear hx6 hown6 hg6 hat6)
   all_goals
    go_wp2_with fail;go_roundw
    case measure=>simp[intOf];omega
    case rel =>
     have hnw:nums (szOf zs (ss.take j))++nums [y]=nums (szOf zs (ss.take (j+1))):=by
      rw[szOf_step HV.out HY.out];unfold nums;rw[List.map_append]
     refine⟨j+1,A6,c6,by go_num,by omega,HX6.out.set_ 1 _,?_,?_⟩
     ·rw[Hid,← hnw]
      exact own_off HO6.out (Tch.put (S:=fun k=>k=gb) (Tch.refl w6 _) (p:=⟨gb,1,none⟩) _ rfl) (off_below fun k hk=>by have:=HGL.out;omega)
     ·exact (((HT.out.trans (Tch.of_below (bone wr (.cells #[.int .i64 y] 3)) (fun _=>False)) fun _ _ h=>h.elim).drew).trans (Tch.of_grown HG6.out (S:=fun k=>some k=(Value.slice A j c).ownBlock) fun q _ hq=>hq) fun k hk e=>by have:=(own_in HO.out e.symm).1;have:=HGL.out;omega).put (p:=⟨gb,1,none⟩) _ rfl
  ·obtain rfl:j=ns:=by omega
   obtain⟨w5,rfl⟩:∃w5,w5=wr:=⟨_,rfl⟩;have hzz:szOf zs (ss.take j)=szOf zs ss:=by rw[List.take_of_length_le (by have:=HSSN2.out;omega)]
   have ho:=HO.out;rw[hzz]at ho;have hcap:=own_cap ho;have hall:=shp.ref_all (szOf zs ss) A j c w5 hcap (Reads.of_own ho) HGOOD.out;obtain⟨y0,y1,y2,-⟩:=Blk.tri (t:=52) HX.out;obtain⟨zz,hzzd⟩:∃zz,szOf zs ss=zz:=⟨_,rfl⟩;rw[hzzd]at hall ho;have HZZ:=Hd hzzd;have HO5:=Hd ho;have HL5:=Hd HT.out.size;clear hzz ho hcap hzzd HO hlt;go_wp2_with fail;refine hall.mono ?_;rintro e w6 ⟨AA,cA,rfl,hrows,hb6⟩;obtain⟨L,hL⟩:∃L,allI zz=L:=⟨_,rfl⟩;rw[hL]at hrows;rw[hL];obtain⟨N,hN⟩:∃N,L.length=N:=⟨_,rfl⟩;have HN:=Hd hN;have HL:=Hd hL;have HROWS:=Hd hrows;have HB6:=Hd hb6;have HX6:=Hd (HX.out.under hb6);have HBW6:=Hd (bto HBW.out hb6);have HO6:=Hd (own_under HO5.out hb6);have HOR6:=Hd (own_under (HT.out.own HOR.out fun q hq e=>by have h1:=(HRB4.out q hq).2;have h2:=HGB.out;omega) hb6);have HPB6:=Hd ((HT.out.blk HPB4.out (show ¬ w.heap.size=gb by have:=hGG.out;omega)).under hb6);have HRB6:=Hd ((HT.out.blk HRBB.out (show ¬ w.heap.size+1=gb by have:=hGG.out;omega)).under hb6)
   have hN4:N≤1100000000:=by
    have h1:=shp.all_len (xs:=zz) fun x hx=>by have:=HGOOD.out.2;rw[HZZ.out]at this;exact (this x hx).1
    have h2:=shp.szs_prod HGOOD.out;rw[HZZ.out]at h2;rw[HL.out,HN.out]at h1;omega
   have HGW:Hid (gb<w6.heap.size∧gb<w5.heap.size):=by have h1:=HGL.out;have h2:=HL5.out;have h3:=HB6.out.size;exact⟨by omega,by omega⟩
   obtain⟨cf,hcf⟩:∃cf:List Int→Int,cf=fun t=>(tpOf f K f.lines).get (ownT f.scope ss t):=⟨_,rfl⟩
   have HCF:=Hd hcf;rw[hN];clear hall hrows hb6 hL hN hcf y0 y1 y2 HX HBW;go_wp2_with fail
   go_loopw [42] (fun jv wr => ∃ (k:Nat) (A3:Option Addr) (c3:Nat),jv = .int .i64 k∧k≤N∧Hid (Blk wr gb 52 #[.slice AR j cR,.slice A j c,.slice A3 k c3])∧Hid (wr.ownsRow w6.heap.size 2 1 (.slice A3 k c3) k (nums ((L.take k).map cf)))∧Hid (Tch w6 wr (fun q=>q=gb))) (fun jv _=>N-(intOf jv).toNat)
   case atStart=>exact⟨0,none,0,rfl,Nat.zero_le _,HX6.out,World.ownsRow_nil _ _ _ _,Tch.refl _ _⟩
   case round =>
    obtain⟨k,A3,c3,rfl,hk,HX,HO,HT6⟩:=hrel;obtain⟨wj,rfl⟩:∃wj,wj=wr:=⟨_,rfl⟩;have HBW:Hid (Below w.heap.size w wj):=HBW6.out.trans (HT6.out.below HBW6.out.size fun i hi e=>by have:=hGG.out;omega);have hwj:w6.heap.size≤wj.heap.size:=HT6.out.size;by_cases hlk:k<N
    ·obtain⟨t,ht⟩:∃t,L[k]?=some t:=⟨_,List.getElem?_eq_getElem (by rw[HN.out];exact hlk)⟩
     have hrj:=rowsI_tch HROWS.out HT6.out fun q e=>by have:=HGW.out.2;omega
     obtain⟨gA,At,ct,rfl,hct,-,htc,hot,-⟩:=hrj.at_ ht
     have htl:t.length=j:=by
      have h1:t∈allI zz:=by rw[HL.out];exact List.mem_of_getElem? ht
      have h2:=shp.all_lens t h1;rw[← HZZ.out]at h2;have h3:=HSSN2.out;unfold szOf at h2;rw[List.length_map]at h2;omega
     rw[htl]at hct htc hot;have hpb:=HT6.out.blk HPB6.out (show ¬ w.heap.size=gb by have:=hGG.out;omega);obtain⟨x0,x1,x2,x3,-⟩:=Blk.four (t:=70) hpb;have HPBJ:=Hd hpb;have HOT:=Hd hot;have HTT:=Hd ht;have HTL:=Hd htl;have k0:(0:Int)≤(k:Int):=Int.natCast_nonneg _;have k1:(k:Int)<(N:Int):=by omega
     clear hrj ht htl hot hpb x1 x2 x3;go_wp2_with fail;clear x0 hct
     have HW2:Hid (w2.heap.size≤wj.heap.size):=by
      have h1:=HB23.out.size;have h2:=HGB.out;have h3:=HGW.out.1;show w2.heap.size≤wj.heap.size;omega
     have HORJ:=Hd (HT6.out.own HOR6.out fun q hq e=>by have h1:=(HRB4.out q hq).2;have h2:=HGB.out;omega);have HSC:=Hd (own_under HQ.out.2.1.2 HBW.out)
     go_loopw [12,49] (fun ov iv wr => ∃ (p m co:Nat) (Ao:Option Addr) (O:List Int),iv = .int .i64 p∧p≤j∧ov = .slice Ao m co∧Hid (O=ownU f.scope ss t p)∧Hid (wr.ownsRow wj.heap.size 2 1 (.slice Ao m co) m (nums O))∧Hid (Below wj.heap.size wj wr)) (fun _ iv _=>j-(intOf iv).toNat)
     case atStart=>exact⟨0,0,0,none,[],rfl,Nat.zero_le _,rfl,rfl,World.ownsRow_nil _ _ _ _,Below.refl _ _⟩
     case round =>
      obtain⟨p,m,co,Ao,O,rfl,hp,rfl,HOW,HOO,HBB⟩:=hrel;by_cases hlp:p<j
      ·have hsc:=own_under HSC.out HBB.out
       rw[HNS.out]at hsc;obtain⟨v,hv⟩:∃v,f.scope[p]?=some v:=⟨_,List.getElem?_eq_getElem (by have:=HNS.out;omega)⟩;obtain⟨qs,rfl,-,-⟩:=own_some hsc (by omega);have hcv:=(hsc.cellAt p (by omega)).trans (show (nums f.scope)[p]?=some (.int .i64 v) by unfold nums;rw[List.getElem?_map,hv];rfl);have hxb:=HX.out.under HBB.out;obtain⟨y0,y1,y2,-⟩:=Blk.tri (t:=52) hxb;have HMV:Hid (v∈ss):=(HSSM.out v).2 (List.mem_of_getElem? hv);have HV:=Hd hv;have p0:(0:Int)≤(p:Int):=Int.natCast_nonneg _;have p1:(p:Int)<(j:Int):=by omega
       clear hsc hv hxb y1 y2;go_wp2_with fail;clear hcv y0
       go_loopw [12,56] (fun ov iv wr => ∃ (i m co:Nat) (Ao:Option Addr) (O:List Int),iv = .int .i64 i∧i≤j∧ov = .slice Ao m co∧Hid (O=ownU f.scope ss t p++picks ss t v i)∧Hid (wr.ownsRow wj.heap.size 2 1 (.slice Ao m co) m (nums O))∧Hid (Below wj.heap.size wj wr)) (fun _ iv _=>j-(intOf iv).toNat)
       case atStart=>exact⟨0,m,co,Ao,O,rfl,Nat.zero_le _,rfl,by rw[Hid,HOW.out];simp[picks],HOO,HBB⟩
       case round =>
        obtain⟨i,m2,co2,Ao2,O2,rfl,hi,rfl,HOW2,HOO2,HBB2⟩:=hrel;by_cases hli:i<j
        ·have hor:=own_under HORJ.out HBB2.out
         obtain⟨qr,rfl,-,-⟩:=own_some hor (by omega);obtain⟨u,hu⟩:∃u,ss[i]?=some u:=⟨_,List.getElem?_eq_getElem (by have:=HSSN2.out;omega)⟩;obtain⟨x,hx⟩:∃x,t[i]?=some x:=⟨_,List.getElem?_eq_getElem (by have:=HTL.out;omega)⟩;have hcu:=(hor.cellAt i (by omega)).trans (show (nums ss)[i]?=some (.int .i64 u) by unfold nums;rw[List.getElem?_map,hu];rfl);have hot:=own_under HOT.out HBB2.out;obtain⟨qt,rfl,-,-⟩:=own_some hot (by omega);have hcx:=(hot.cellAt i (by omega)).trans (show (nums t)[i]?=some (.int .i64 x) by unfold nums;rw[List.getElem?_map,hx];rfl);have HST:=Hd (picks_step (v:=v) hu hx);have i0':(0:Int)≤(i:Int):=Int.natCast_nonneg _;have i1':(i:Int)<(j:Int):=by omega
         have hm2:m2≤1000:=by
          have h1:=nums_own_len HOO2.out;have h2:=congrArg List.length HOW2.out;have h3:=picks_len ss t v i;rw[List.length_append]at h2;unfold ownU at h2;rw[List.length_map,List.length_take]at h2;omega
         clear hor hu hx hot;by_cases huv:u=v
         ·subst huv
          have HST2:Hid (picks ss t u (i+1)=picks ss t u i ++ [x]):=by rw[Hid,HST.out,if_pos rfl]
          have HB3:=Hd (bnew HBB2.out (.cells #[.int .i64 x] 2));have ho3:=own_under HOO2.out (bone wr (.cells #[.int .i64 x] 2));have hr1:Reads (wr.alloc (.cells #[.int .i64 x] 2)) (wr.alloc (.cells #[.int .i64 x] 2)).heap.size 1 (some ⟨wr.heap.size,0,none⟩) 1 (nums [x]):=reads_block (t:=2) (heap_alloc_new _ _) rfl;have hsz:wj.heap.size≤(wr.alloc (.cells #[.int .i64 x] 2)).heap.size:=HB3.out.size;clear HST
          go_wp2_with (first
           |(at_builtin;refine wpList_append_any _ rfl (.tmp 64) (.tmp 69) _ rfl wj.heap.size 2 i6 _ 1 8 Tryz.underlying46 h60 h61 h62 h63 rfl (by omega) (.slice Ao2 m2 co2) m2 _ rfl ho3 _ _ 1 1 (nums [x]) rfl hr1 nums_one (by simp only[maxLen];omega) (by omega) hsz ?_;intro v6 w7 hown6 hg6 hat6;clear hat6;obtain⟨A6,c6,rfl⟩:=own_shape hown6;have HO7:=Hd hown6;have HG7:=Hd (HB3.out.grown hg6 hsz (fun g hg=>(own_in ho3 hg).1));clear hown6 hg6 ho3 hr1)
           |fail)
          all_goals
           go_roundw
           case measure=>simp[intOf];omega
           case rel=>exact⟨i+1,m2+1,c6,A6,O2 ++ [x],by go_num,by omega,rfl,by rw[Hid,HST2.out,HOW2.out,List.append_assoc],by rw[Hid,nums_snoc];exact HO7.out,HG7⟩
         ·have hne:(u==v)=false:=by simpa using huv
          have HST2:Hid (picks ss t v (i+1)=picks ss t v i):=by rw[Hid,HST.out,if_neg huv]
          clear HST huv;go_wp2_with fail;go_roundw
          case measure=>simp[intOf];omega
          case rel=>exact⟨i+1,m2,co2,Ao2,O2,by go_num,by omega,rfl,by rw[Hid,HST2.out,HOW2.out],HOO2,HBB2⟩
        ·obtain rfl:i=j:=by omega
         go_wp2_with fail;go_roundw
         case measure=>simp[intOf];omega
         case rel=>exact⟨p+1,m2,co2,Ao2,O2,by go_num,by omega,rfl,by rw[Hid,HOW2.out,ownU_step HSSN.out (HTL.out.trans HSSN2.out.symm) HV.out HMV.out,HSSN2.out],HOO2,HBB2⟩
      ·obtain rfl:p=j:=by omega
       obtain⟨wk,rfl⟩:∃wk,wk=wr:=⟨_,rfl⟩;have hml:=nums_own_len HOO.out;have hO:O=ownT f.scope ss t:=by rw[HOW.out,← HNS.out];exact ownU_all _ _ _
       have hm6:m≤6:=by
        have h1:=congrArg List.length hO;unfold ownT at h1;rw[List.length_map,HNS.out]at h1;omega
       have hq:=HQ.out.below (bto HBW.out HBB.out);have hcost:=qcost_any (w:=wk.drew) (show QFn wk _ _ _ _ f from hq) Ao m co O (show Reads wk.drew wk.drew.heap.size 1 Ao m (nums O) from Reads.of_own HOO.out) (by omega) K;have hval:min (lastC f.other f.lines O) K=cf t:=by rw[HCF.out];show _=(tpOf f K f.lines).get (ownT f.scope ss t);rw[get_last,hO]
       rw[hval]at hcost;have hpb:=HPBJ.out.under HBB.out;rw[HNS.out]at hpb hcost;obtain⟨x0,x1,x2,x3,-⟩:=Blk.four (t:=70) hpb;have hxk:=HX.out.under HBB.out;obtain⟨-,-,y2,-,-,-⟩:=Blk.tri (t:=52) hxk;obtain⟨cv,hcv⟩:∃cv,cf t=cv:=⟨_,rfl⟩;rw[hcv]at hcost;have HCV:=Hd hcv;have HXK:=Hd hxk;have HPK:=Hd hpb;have HOK:=Hd (own_under HO.out HBB.out);have hsz6:w6.heap.size≤wk.heap.size:=by have:=HBB.out.size;omega
       clear hml hO hq hval hpb hxk hcv;go_upto_region 21 with fail;obtain⟨Ck,hCk⟩:∃Ck,(L.take k).map cf=Ck:=⟨_,rfl⟩;have HCK:=Hd hCk;rw[hCk]at HOK;clear hCk;refine wp_last fun Kl hKl=>?_
       go_cut [] from 73 to 81 (fun wq => ∃ (A9:Option Addr) (c9:Nat),Hid (Blk wq gb 52 #[.slice AR p cR,.slice A p c,.slice A9 (k+1) c9])∧Hid (wq.ownsRow w6.heap.size 2 1 (.slice A9 (k+1) c9) (k+1) (nums Ck++nums [cv]))∧Hid (Tch wk wq (fun q=>q=gb∨some q=(Value.slice A3 k c3).ownBlock)))
       case first =>
        have yd:wk.drew.cell? ⟨gb,2,none⟩=some (.slice A3 k c3):=y2;clear y2;refine wp_region_held_drew (S:=fun W=>W.cell? ⟨w.heap.size,0,none⟩=some (.slice A1 p c1)∧W.cell? ⟨w.heap.size,1,none⟩=some (.slice AZ f.sizes.length cZ)∧W.cell? ⟨w.heap.size,2,none⟩=some (.int .i64 f.other)∧W.cell? ⟨w.heap.size,3,none⟩=some (.slice AL LL.length cL)) (by kernel_rfl) ⟨x0,x1,x2,x3⟩ (fun hHeld=>?_);clear x0 x1 x2 x3;refine takes [0,2,3,4] hHeld (by kernel_rfl) (fun _ _ _ _ _ h=>h) ?_
        iterate 4
         conv=>whnf
         refine⟨?_,.inl ⟨by kernel_rfl,fun w hSw=>?_⟩,?_⟩
         rotate_left
         ·(try dsimp only at hSw);go_simp;try with_reducible rfl
         try simp only[Act.put,ya,yb,yc]
        refine Yt.nil ?_;refine wpAnyH_ready (rs := [1,5]) (by kernel_rfl) (by simp) ?_;refine AllReadyH.cons rfl (fun Kc hKc=>?_) (AllReadyH.cons rfl (fun Kc hKc=>?_) AllReadyH.nil)
        ·skip
         go_simp;refine hKc.out _ _ hHeld (fun hH1=>?_);clear hKc Kc
         try simp only[Act.put,ya,yb,yc]
         refine wpAnyH_ready (rs := [5]) (by kernel_rfl) (by simp) ?_;refine AllReadyH.cons rfl (fun Kc hKc=>?_) AllReadyH.nil;go_simp
         with_reducible refine hcost.mono ?_
         rintro e w8 ⟨rfl,hb8⟩;dsimp only;have hb8':Below wk.heap.size wk w8:=⟨hb8.os,hb8.tape,hb8.output,hb8.size,hb8.block⟩;have HX8:=Hd (HXK.out.under hb8');have HP8:=Hd (HPK.out.under hb8');have HO8:=Hd (own_under HOK.out hb8');have HB8:=Hd hb8';have z2:w8.cell? ⟨gb,2,none⟩=some (.slice A3 k c3):=HX8.out.cell 2;refine hKc.out _ _ (blk4 HP8.out) (fun hH5=>?_);clear hKc Kc hb8 hb8' yd
         try simp only[Act.put,ya,yb,yc]
         refine wpAnyH_ready (rs := [6]) (by kernel_rfl) (by simp) ?_;refine AllReadyH.cons rfl (fun Kc hKc=>?_) AllReadyH.nil;go_simp;obtain⟨wa,hwa⟩:∃wa,w8.alloc (.cells #[.int .i64 cv] 2)=wa:=⟨_,rfl⟩;have hba:Below w8.heap.size w8 wa:=by rw[← hwa];exact bone w8 _
         have hr9:Reads wa wa.heap.size 1 (some ⟨w8.heap.size,0,none⟩) 1 (nums [cv]):=by rw[← hwa];exact reads_block (t:=2) (heap_alloc_new _ _) rfl
         rw[hwa];have HXA:=Hd (HX8.out.under hba);have HPA:=Hd (HP8.out.under hba);have HOA:=Hd (own_under HO8.out hba);have HBA:=Hd (bto HB8.out hba);have za:wa.cell? ⟨gb,2,none⟩=some (.slice A3 k c3):=HXA.out.cell 2;have HR9:=Hd hr9;refine hKc.out _ _ (blk4 HPA.out) (fun hH6=>?_);clear hKc Kc hwa hba hr9 z2
         try simp only[Act.put,ya,yb,yc]
         refine wpAnyH_ready (rs := [7]) (by kernel_rfl) (by simp) ?_;refine AllReadyH.cons rfl (fun Kc hKc=>?_) AllReadyH.nil;have hA9:=HOA.out;have hsa:w6.heap.size≤wa.heap.size:=Nat.le_trans hsz6 HBA.out.size;refine step_append_any _ rfl (.tmp 74) (.tmp 79) 46 rfl w6.heap.size 2 i6 _ 1 8 Tryz.underlying46 h60 h61 h62 h63 rfl (by omega) (.slice A3 k c3) k _ rfl hA9 wa.heap.size (some ⟨w8.heap.size,0,none⟩) 1 1 (nums [cv]) rfl HR9.out nums_one (by simp only[maxLen];omega) (by omega) hsa ?_;intro v9 w9 hown9 hg9 hat9;clear hat9;obtain⟨A9,c9,rfl⟩:=own_shape hown9;have hx9:=HXA.out.grown hg9 (fun e=>by have:=(own_in hA9 e.symm).1;have:=HGW.out.1;omega);have hp9:=HPA.out.grown hg9 (fun e=>by have h1:=(own_in hA9 e.symm).1;have h2:=HGW.out.1;have h3:=hGG.out;omega);have d92:w9.cell? ⟨gb,2,none⟩=some (.slice A3 k c3):=hx9.cell 2;have d9f:=hx9.frozen 2;have HX9:=Hd hx9;have HP9:=Hd hp9;have HO9:=Hd hown9;have HG9:=Hd hg9;refine hKc.out _ _ (blk4 hp9) (fun hH7=>?_);clear hKc Kc hA9 hsa hown9 hg9 hx9 hp9 za;refine takes [8] hH7 (by kernel_rfl) (fun _ _ _ _ _ h=>h) ?_
         iterate 1
          conv=>whnf
          refine⟨?_,.inl ⟨by kernel_rfl,fun w hSw=>?_⟩,?_⟩
          rotate_left
          ·(try dsimp only at hSw);go_simp;try with_reducible rfl
          try simp only[Act.put,ya,yb,yc]
         refine Yt.nil ?_;refine wpAnyH_ready (rs := [9]) (by kernel_rfl) (by simp) ?_;refine AllReadyH.cons rfl (fun Kc hKc=>?_) AllReadyH.nil;go_simp;refine hKc.out _ _ (blk4 ((Tch.put (S:=fun q=>q=gb) (Tch.refl w9 _) (p:=⟨gb,2,none⟩) (.slice A9 (k+1) c9) rfl).blk HP9.out (show ¬ w.heap.size=gb by have:=hGG.out;omega))) (fun _=>?_);clear hKc Kc;refine wpAnyH_done (by kernel_rfl) ?_ _;go_simp
         try go_wp2_with fail
         go_meet
         case rel=>exact⟨A9,c9,HX9.out.set_ 2 _,own_off HO9.out (Tch.put (S:=fun q=>q=gb) (Tch.refl w9 _) (p:=⟨gb,2,none⟩) (.slice A9 (k+1) c9) rfl) (off_below fun q hq=>by have:=HGW.out.1;omega),(((Tch.of_below HBA.out (fun q=>q=gb∨some q=(Value.slice A3 k c3).ownBlock))).trans (Tch.of_grown HG9.out (S:=fun q=>q=gb∨some q=(Value.slice A3 k c3).ownBlock) fun q _ hq => .inr hq) fun q hq e=>e).put (p:=⟨gb,2,none⟩) (.slice A9 (k+1) c9) (.inl rfl)⟩
        ·skip
         go_simp
         with_reducible refine hcost.mono ?_
         rintro e w8 ⟨rfl,hb8⟩;dsimp only;have hb8':Below wk.heap.size wk w8:=⟨hb8.os,hb8.tape,hb8.output,hb8.size,hb8.block⟩;have HX8:=Hd (HXK.out.under hb8');have HP8:=Hd (HPK.out.under hb8');have HO8:=Hd (own_under HOK.out hb8');have HB8:=Hd hb8';have z2:w8.cell? ⟨gb,2,none⟩=some (.slice A3 k c3):=HX8.out.cell 2;refine hKc.out _ _ (blk4 HP8.out) (fun hH5=>?_);clear hKc Kc hb8 hb8' yd
         try simp only[Act.put,ya,yb,yc]
         refine wpAnyH_ready (rs := [1,6]) (by kernel_rfl) (by simp) ?_;refine AllReadyH.cons rfl (fun Kc hKc=>?_) (AllReadyH.cons rfl (fun Kc hKc=>?_) AllReadyH.nil)
         ·skip
          go_simp;refine hKc.out _ _ hH5 (fun hH1=>?_);clear hKc Kc
          try simp only[Act.put,ya,yb,yc]
          refine wpAnyH_ready (rs := [6]) (by kernel_rfl) (by simp) ?_;refine AllReadyH.cons rfl (fun Kc hKc=>?_) AllReadyH.nil;go_simp;obtain⟨wa,hwa⟩:∃wa,w8.alloc (.cells #[.int .i64 cv] 2)=wa:=⟨_,rfl⟩;have hba:Below w8.heap.size w8 wa:=by rw[← hwa];exact bone w8 _
          have hr9:Reads wa wa.heap.size 1 (some ⟨w8.heap.size,0,none⟩) 1 (nums [cv]):=by rw[← hwa];exact reads_block (t:=2) (heap_alloc_new _ _) rfl
          rw[hwa];have HXA:=Hd (HX8.out.under hba);have HPA:=Hd (HP8.out.under hba);have HOA:=Hd (own_under HO8.out hba);have HBA:=Hd (bto HB8.out hba);have za:wa.cell? ⟨gb,2,none⟩=some (.slice A3 k c3):=HXA.out.cell 2;have HR9:=Hd hr9;refine hKc.out _ _ (blk4 HPA.out) (fun hH6=>?_);clear hKc Kc hwa hba hr9 z2
          try simp only[Act.put,ya,yb,yc]
          refine wpAnyH_ready (rs := [7]) (by kernel_rfl) (by simp) ?_;refine AllReadyH.cons rfl (fun Kc hKc=>?_) AllReadyH.nil;have hA9:=HOA.out;have hsa:w6.heap.size≤wa.heap.size:=Nat.le_trans hsz6 HBA.out.size;refine step_append_any _ rfl (.tmp 74) (.tmp 79) 46 rfl w6.heap.size 2 i6 _ 1 8 Tryz.underlying46 h60 h61 h62 h63 rfl (by omega) (.slice A3 k c3) k _ rfl hA9 wa.heap.size (some ⟨w8.heap.size,0,none⟩) 1 1 (nums [cv]) rfl HR9.out nums_one (by simp only[maxLen];omega) (by omega) hsa ?_;intro v9 w9 hown9 hg9 hat9;clear hat9;obtain⟨A9,c9,rfl⟩:=own_shape hown9;have hx9:=HXA.out.grown hg9 (fun e=>by have:=(own_in hA9 e.symm).1;have:=HGW.out.1;omega);have hp9:=HPA.out.grown hg9 (fun e=>by have h1:=(own_in hA9 e.symm).1;have h2:=HGW.out.1;have h3:=hGG.out;omega);have d92:w9.cell? ⟨gb,2,none⟩=some (.slice A3 k c3):=hx9.cell 2;have d9f:=hx9.frozen 2;have HX9:=Hd hx9;have HP9:=Hd hp9;have HO9:=Hd hown9;have HG9:=Hd hg9;refine hKc.out _ _ (blk4 hp9) (fun hH7=>?_);clear hKc Kc hA9 hsa hown9 hg9 hx9 hp9 za;refine takes [8] hH7 (by kernel_rfl) (fun _ _ _ _ _ h=>h) ?_
          iterate 1
           conv=>whnf
           refine⟨?_,.inl ⟨by kernel_rfl,fun w hSw=>?_⟩,?_⟩
           rotate_left
           ·(try dsimp only at hSw);go_simp;try with_reducible rfl
           try simp only[Act.put,ya,yb,yc]
          refine Yt.nil ?_;refine wpAnyH_ready (rs := [9]) (by kernel_rfl) (by simp) ?_;refine AllReadyH.cons rfl (fun Kc hKc=>?_) AllReadyH.nil;go_simp;refine hKc.out _ _ (blk4 ((Tch.put (S:=fun q=>q=gb) (Tch.refl w9 _) (p:=⟨gb,2,none⟩) (.slice A9 (k+1) c9) rfl).blk HP9.out (show ¬ w.heap.size=gb by have:=hGG.out;omega))) (fun _=>?_);clear hKc Kc;refine wpAnyH_done (by kernel_rfl) ?_ _;go_simp
          try go_wp2_with fail
          go_meet
          case rel=>exact⟨A9,c9,HX9.out.set_ 2 _,own_off HO9.out (Tch.put (S:=fun q=>q=gb) (Tch.refl w9 _) (p:=⟨gb,2,none⟩) (.slice A9 (k+1) c9) rfl) (off_below fun q hq=>by have:=HGW.out.1;omega),(((Tch.of_below HBA.out (fun q=>q=gb∨some q=(Value.slice A3 k c3).ownBlock))).trans (Tch.of_grown HG9.out (S:=fun q=>q=gb∨some q=(Value.slice A3 k c3).ownBlock) fun q _ hq => .inr hq) fun q hq e=>e).put (p:=⟨gb,2,none⟩) (.slice A9 (k+1) c9) (.inl rfl)⟩
         ·skip
          go_simp;obtain⟨wa,hwa⟩:∃wa,w8.alloc (.cells #[.int .i64 cv] 2)=wa:=⟨_,rfl⟩;have hba:Below w8.heap.size w8 wa:=by rw[← hwa];exact bone w8 _
          have hr9:Reads wa wa.heap.size 1 (some ⟨w8.heap.size,0,none⟩) 1 (nums [cv]):=by rw[← hwa];exact reads_block (t:=2) (heap_alloc_new _ _) rfl
          rw[hwa];have HXA:=Hd (HX8.out.under hba);have HPA:=Hd (HP8.out.under hba);have HOA:=Hd (own_under HO8.out hba);have HBA:=Hd (bto HB8.out hba);have za:wa.cell? ⟨gb,2,none⟩=some (.slice A3 k c3):=HXA.out.cell 2;have HR9:=Hd hr9;refine hKc.out _ _ (blk4 HPA.out) (fun hH6=>?_);clear hKc Kc hwa hba hr9 z2
          try simp only[Act.put,ya,yb,yc]
          refine wpAnyH_ready (rs := [1]) (by kernel_rfl) (by simp) ?_;refine AllReadyH.cons rfl (fun Kc hKc=>?_) AllReadyH.nil;go_simp;refine hKc.out _ _ hH6 (fun hH1=>?_);clear hKc Kc
          try simp only[Act.put,ya,yb,yc]
          refine wpAnyH_ready (rs := [7]) (by kernel_rfl) (by simp) ?_;refine AllReadyH.cons rfl (fun Kc hKc=>?_) AllReadyH.nil;have hA9:=HOA.out;have hsa:w6.heap.size≤wa.heap.size:=Nat.le_trans hsz6 HBA.out.size;refine step_append_any _ rfl (.tmp 74) (.tmp 79) 46 rfl w6.heap.size 2 i6 _ 1 8 Tryz.underlying46 h60 h61 h62 h63 rfl (by omega) (.slice A3 k c3) k _ rfl hA9 wa.heap.size (some ⟨w8.heap.size,0,none⟩) 1 1 (nums [cv]) rfl HR9.out nums_one (by simp only[maxLen];omega) (by omega) hsa ?_;intro v9 w9 hown9 hg9 hat9;clear hat9;obtain⟨A9,c9,rfl⟩:=own_shape hown9;have hx9:=HXA.out.grown hg9 (fun e=>by have:=(own_in hA9 e.symm).1;have:=HGW.out.1;omega);have hp9:=HPA.out.grown hg9 (fun e=>by have h1:=(own_in hA9 e.symm).1;have h2:=HGW.out.1;have h3:=hGG.out;omega);have d92:w9.cell? ⟨gb,2,none⟩=some (.slice A3 k c3):=hx9.cell 2;have d9f:=hx9.frozen 2;have HX9:=Hd hx9;have HP9:=Hd hp9;have HO9:=Hd hown9;have HG9:=Hd hg9;refine hKc.out _ _ (blk4 hp9) (fun hH7=>?_);clear hKc Kc hA9 hsa hown9 hg9 hx9 hp9 za;refine takes [8] hH7 (by kernel_rfl) (fun _ _ _ _ _ h=>h) ?_
          iterate 1
           conv=>whnf
           refine⟨?_,.inl ⟨by kernel_rfl,fun w hSw=>?_⟩,?_⟩
           rotate_left
           ·(try dsimp only at hSw);go_simp;try with_reducible rfl
           try simp only[Act.put,ya,yb,yc]
          refine Yt.nil ?_;refine wpAnyH_ready (rs := [9]) (by kernel_rfl) (by simp) ?_;refine AllReadyH.cons rfl (fun Kc hKc=>?_) AllReadyH.nil;go_simp;refine hKc.out _ _ (blk4 ((Tch.put (S:=fun q=>q=gb) (Tch.refl w9 _) (p:=⟨gb,2,none⟩) (.slice A9 (k+1) c9) rfl).blk HP9.out (show ¬ w.heap.size=gb by have:=hGG.out;omega))) (fun _=>?_);clear hKc Kc;refine wpAnyH_done (by kernel_rfl) ?_ _;go_simp
          try go_wp2_with fail
          go_meet
          case rel=>exact⟨A9,c9,HX9.out.set_ 2 _,own_off HO9.out (Tch.put (S:=fun q=>q=gb) (Tch.refl w9 _) (p:=⟨gb,2,none⟩) (.slice A9 (k+1) c9) rfl) (off_below fun q hq=>by have:=HGW.out.1;omega),(((Tch.of_below HBA.out (fun q=>q=gb∨some q=(Value.slice A3 k c3).ownBlock))).trans (Tch.of_grown HG9.out (S:=fun q=>q=gb∨some q=(Value.slice A3 k c3).ownBlock) fun q _ hq => .inr hq) fun q hq e=>e).put (p:=⟨gb,2,none⟩) (.slice A9 (k+1) c9) (.inl rfl)⟩
       case rest =>
        obtain⟨A9,c9,HX9,HO9,HT9⟩:=hcut;clear x0 x1 x2 x3 y2 hcost;refine hKl _ _ ?_;go_wp2_with fail;go_roundw
        case measure=>simp[intOf];omega
        case rel =>
         have hnw:nums Ck++nums [cv]=nums ((L.take (k+1)).map cf):=by
          rw[List.take_add_one,HTT.out,Option.toList_some,List.map_append,HCK.out];show _=nums (Ck ++ [cf t]);rw[HCV.out,nums_snoc]
         refine⟨k+1,A9,c9,by go_num,by omega,HX9,by rw[Hid,← hnw];exact HO9.out,?_⟩
         exact (HT6.out.trans (Tch.of_below HBB.out fun _=>False) fun _ _ h=>h.elim).trans HT9.out fun q hq e=>by
          rcases e with e | e
          ·exact e
          ·have:=(own_in HO.out e.symm).1;omega
    ·obtain rfl:k=N:=by omega
     have hrb:Blk wj (w.heap.size+1) 52 #[.slice none 0 0,.slice none 0 0,.slice none 0 0]:=HT6.out.blk HRB6.out (show ¬ w.heap.size+1=gb by have:=hGG.out;omega);obtain⟨r0,r1,r2,rf0,rf1,rf2⟩:=Blk.tri (t:=52) hrb;obtain⟨y0,y1,y2,-⟩:=Blk.tri (t:=52) HX.out;go_wp2_with fail;obtain⟨wz,hwz⟩:∃wz,((wj.setCell ⟨w.heap.size+1,0,none⟩ (.slice AR j cR)).setCell ⟨w.heap.size+1,1,none⟩ (.slice A j c)).setCell ⟨w.heap.size+1,2,none⟩ (.slice A3 k c3)=wz:=⟨_,rfl⟩;have T0:Tch wj wz (fun q=>q=w.heap.size+1):=by rw[← hwz];exact Tch.put (S:=fun q=>q=w.heap.size+1) (Tch.put (S:=fun q=>q=w.heap.size+1) (Tch.put (S:=fun q=>q=w.heap.size+1) (Tch.refl wj _) (p:=⟨w.heap.size+1,0,none⟩) _ rfl) (p:=⟨w.heap.size+1,1,none⟩) _ rfl) (p:=⟨w.heap.size+1,2,none⟩) _ rfl
     have hz:Blk wz (w.heap.size+1) 52 #[.slice AR j cR,.slice A j c,.slice A3 k c3]:=by rw[← hwz];exact ((hrb.set_ 0 _).set_ 1 _).set_ 2 _
     have hbz:Below w.heap.size w wz:=by rw[← hwz];exact ((HBW.out.setCell (p:=⟨w.heap.size+1,0,none⟩) (Nat.le_succ _) _).setCell (p:=⟨w.heap.size+1,1,none⟩) (Nat.le_succ _) _).setCell (p:=⟨w.heap.size+1,2,none⟩) (Nat.le_succ _) _
     have hoR:=T0.own (HT6.out.own HOR6.out fun q hq e=>by have h1:=(HRB4.out q hq).2;have h2:=HGB.out;omega) fun q hq e=>by have h1:=(HRB4.out q hq).1;have h2:=HB1L.out;omega
     have hoA:=T0.own (HT6.out.own HO6.out fun q hq e=>by have h1:=(own_in HO6.out hq).1;have h2:=HGL.out;omega) fun q hq e=>by have h1:=(own_in HO6.out hq).1;have h2:=HGL.out;have h3:=hGG.out;omega
     have hoC:=T0.own HO.out fun q hq e=>by have h1:=(own_in HO.out hq).1;have h2:=HGW.out.1;have h3:=hGG.out;omega
     obtain⟨z0,z1,z2,-⟩:=Blk.tri (t:=52) hz;rw[hwz];clear hwz r0 r1 r2 rf0 rf1 rf2 y0 y1 y2 hrb;have hsl:(rise f.scope).length=j:=by rw[rise_len,HNS.out]
     have hzl:(szOf zs (rise f.scope)).length=j:=by unfold szOf;rw[List.length_map,hsl]
     have hC:(turnF zs K f).C=L.map cf:=by
      show (allI (szOf zs (rise f.scope))).map (fun t=>(tpOf f K f.lines).get (ownT f.scope (rise f.scope) t))=_;rw[HSS.out,HZZ.out,HL.out,HCF.out]
     have hCl:(turnF zs K f).C.length=k:=by rw[hC,List.length_map,HN.out]
     rw[List.take_of_length_le (by rw[HN.out];exact Nat.le_refl _)]at hoC
     have R1:RowI wz w.heap.size (.slice AR j cR) (turnF zs K f).scope:=by
      show RowI wz w.heap.size _ (rise f.scope);refine⟨⟨AR,cR,by rw[hsl]⟩,?_⟩;rw[hsl,HSS.out];exact own_base hoR (by have:=HB1L.out;omega)
     have R2:RowI wz w.heap.size (.slice A j c) (turnF zs K f).sizes:=by
      show RowI wz w.heap.size _ (szOf zs (rise f.scope));refine⟨⟨A,c,by rw[hzl]⟩,?_⟩;rw[hzl,HSS.out,HZZ.out];exact own_base hoA (by have h2:=HGL.out;have h3:=hGG.out;omega)
     have R3:Row64 wz w.heap.size (.slice A3 k c3) (turnF zs K f).C:=by
      refine⟨⟨A3,c3,by rw[hCl]⟩,?_⟩;rw[hCl,hC];exact own_base hoC (by have h2:=HGW.out.1;have h3:=hGG.out;omega)
     clear hoR hoA hoC T0 hsl hzl hC hCl;refine bodyPost_ret (results_cell_row rfl _ wz (w.heap.size+1) 52 #[.slice AR j cR,.slice A j c,.slice A3 k c3] (0,0) _ rfl hz Tryz.underlying52 rfl (by kernel_rfl)) rfl ?_;exact⟨_,_,_,rfl,⟨R1,R2,R3⟩,hbz⟩
end Go.Proofs.YtjpkkkphhaajgaaGreatDoor.wcp

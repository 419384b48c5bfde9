/- a part -/
import Derived.Test.YtjpkkkphhaajgaaGreatDoorQdP41
import Derived.Test.YtjpkkkphhaajgaaGreatDoorQdTpOf
set_option linter.all false
namespace Go.Proofs.YtjpkkkphhaajgaaGreatDoor.wcp
open Go RowKit Shelf ChangeShapes WideShapes ChangeAt Maps words scn told
open shp (Szs prodI InT idxI tupI allI)
attribute [local go_sem] Oper.semAt_some
theorem partT_self {x sc:List Int}(hn:sc.Nodup)(hl:x.length=sc.length):partT x sc sc=x:=by
 unfold partT
 apply List.ext_getElem?
 intro i;rw[List.getElem?_map];by_cases hi:i<sc.length
 ·have hs:sc[i]?=some (sc[i]'hi):=List.getElem?_eq_getElem hi
  rw[hs,Option.map_some,idx_at hn hs,List.getD,List.getElem?_eq_getElem (by omega),Option.getD_some]
 ·rw[List.getElem?_eq_none (by omega),List.getElem?_eq_none (by omega)];rfl
set_option maxRecDepth 100000 in
set_option maxHeartbeats 16000000 in
theorem join_any {w:World}{ga gb:Nat}{Fa Ra Fb Rb:Nat→Prop}{zs:List Int}{k:Int}{fa fb:List Int→Int}(ha:TabV w ga Fa Ra zs k (tabF zs fa))(hb:TabV w gb Fb Rb zs k (tabF zs fb))(hz:Szs zs)(hp:prodI zs≤4096)(hk:inB 0 k=true)(hfa:∀t,InS zs t→inB (fa t) k=true)(hfb:∀t,InS zs t→inB (fb t) k=true)(X Y:Option Addr)(m cx cy:Nat)(sc:List Int)(hx:Reads w w.heap.size 1 X m (nums sc))(hy:Reads w w.heap.size 1 Y m (nums sc))(hi:IsRise sc)(hl:sc.length=zs.length) :
 Calls Tryz.prog 39 #[.pointer (some ⟨ga,0,none⟩),.slice X m cx,.pointer (some ⟨gb,0,none⟩),.slice Y m cy] w fun e w' => ∃g2 A c,e = .returned (.tuple #[.pointer (some ⟨g2,0,none⟩),.slice A m c,.int .i64 0])∧TabV w' g2 (fun q=>w.heap.size≤q) (fun q=>w.heap.size≤q) zs k (tabF zs fun t=>min (fa t+fb t) k)∧Below w.heap.size w w':=by
 have hm:=nums_len hx;have hm6:m≤6:=by have:=hz.1;omega
 have hnd:sc.Nodup:=hi.2.imp fun h=>by omega
 obtain⟨w1,hw1⟩:∃w1,(((w.alloc (.cells #[.pointer (some ⟨ga,0,none⟩)] 53)).alloc (.cells #[.slice X m cx] 31)).alloc (.cells #[.pointer (some ⟨gb,0,none⟩)] 53)).alloc (.cells #[.slice Y m cy] 31)=w1:=⟨_,rfl⟩;have hB1:Below w.heap.size w w1:=by rw[← hw1];exact bnew (bnew (bnew (bone w _) _) _) _
 have hb4:Blk w1 w.heap.size 53 #[.pointer (some ⟨ga,0,none⟩)]:=by rw[← hw1];exact (((Blk.new w _ _).alloc _).alloc _).alloc _
 have hb5:Blk w1 (w.heap.size+1) 31 #[.slice X m cx]:=by
  rw[← hw1];have:=Blk.new (w.alloc (.cells #[.pointer (some ⟨ga,0,none⟩)] 53)) 31 #[.slice X m cx];rw[show (w.alloc (.cells #[.pointer (some ⟨ga,0,none⟩)] 53)).heap.size=w.heap.size+1 by simp]at this;exact (this.alloc _).alloc _
 have hb6:Blk w1 (w.heap.size+2) 53 #[.pointer (some ⟨gb,0,none⟩)]:=by
  rw[← hw1];have:=Blk.new ((w.alloc (.cells #[.pointer (some ⟨ga,0,none⟩)] 53)).alloc (.cells #[.slice X m cx] 31)) 53 #[.pointer (some ⟨gb,0,none⟩)];rw[show ((w.alloc (.cells #[.pointer (some ⟨ga,0,none⟩)] 53)).alloc (.cells #[.slice X m cx] 31)).heap.size=w.heap.size+2 by simp]at this;exact this.alloc _
 have hb7:Blk w1 (w.heap.size+3) 31 #[.slice Y m cy]:=by
  rw[← hw1];have:=Blk.new (((w.alloc (.cells #[.pointer (some ⟨ga,0,none⟩)] 53)).alloc (.cells #[.slice X m cx] 31)).alloc (.cells #[.pointer (some ⟨gb,0,none⟩)] 53)) 31 #[.slice Y m cy];rw[show (((w.alloc (.cells #[.pointer (some ⟨ga,0,none⟩)] 53)).alloc (.cells #[.slice X m cx] 31)).alloc (.cells #[.pointer (some ⟨gb,0,none⟩)] 53)).heap.size=w.heap.size+3 by simp]at this;exact this
 have HX:Hid (∀W,Below w1.heap.size w1 W→W.cell? ⟨w.heap.size,0,none⟩=some (.pointer (some ⟨ga,0,none⟩))∧W.cell? ⟨w.heap.size+1,0,none⟩=some (.slice X m cx)∧W.cell? ⟨w.heap.size+2,0,none⟩=some (.pointer (some ⟨gb,0,none⟩))∧W.cell? ⟨w.heap.size+3,0,none⟩=some (.slice Y m cy) ∧
  TabV W ga Fa Ra zs k (tabF zs fa)∧TabV W gb Fb Rb zs k (tabF zs fb)∧Reads W W.heap.size 1 X m (nums sc)∧Reads W W.heap.size 1 Y m (nums sc)):=fun W hW =>
  ⟨(hb4.under hW).one.1,(hb5.under hW).one.1,(hb6.under hW).one.1,(hb7.under hW).one.1,ha.under (bto hB1 hW),hb.under (bto hB1 hW),(hx.below (bto hB1 hW)).more (bto hB1 hW).size,(hy.below (bto hB1 hW)).more (bto hB1 hW).size⟩
 obtain⟨c4,c5,c6,c7,ta,tb,rx,ry⟩:=HX.out w1 (Below.refl _ _);have hr1:=rises_any ta X m cx sc rx hi hl (by omega);have HZ:=Hd hz;have HP4:=Hd hp;have HK0:=Hd hk;have HFA:=Hd hfa;have HFB:=Hd hfb;have HI:=Hd hi;have HND:=Hd hnd;have HB1:=Hd hB1;have HM:=Hd hm;have HBS:Hid (w1.heap.size=w.heap.size+4):=by rw[Hid,← hw1];simp
 clear ha hb hz hp hk hfa hfb hi hnd hB1 hb4 hb5 hb6 hb7 hx hy ta tb rx ry hm;refine (callsIn_wide (n:=4)).1 ?_;refine callsIn_of_wp_marks Tryz.func39 rfl trivial ?_ rfl;simp only[Tryz.ntmps39,List.size_toArray,List.length_cons,List.length_nil,Nat.reduceAdd,Nat.reduceSub,Array.replicate_succ,Array.replicate_zero,List.push_toArray,List.append_toArray,List.nil_append,List.cons_append];refine wpIn_wide.2 ?_;refine Code.wp_mono NoPanic.imp ?_;go_wp2_with fail
 try rw[hw1]
 refine hr1.mono ?_;rintro e w2 ⟨rfl,hB2⟩;clear hr1 c4 c5 c6 c7 hw1;obtain⟨c4,c5,c6,c7,ta,tb,rx,ry⟩:=HX.out w2 hB2;have hr2:=rises_any tb Y m cy sc ry HI.out hl (by omega);have HB2:=Hd hB2;clear hB2 ta tb rx ry;go_wp2_with fail;refine hr2.mono ?_;rintro e w3 ⟨rfl,hB3⟩;clear hr2 c4 c5 c6 c7;have HB3:=Hd (bto HB2.out hB3);clear hB3;obtain⟨c4,c5,c6,c7,ta,tb,rx,ry⟩:=HX.out w3 HB3.out;obtain⟨w4,hw4⟩:∃w4,w3.alloc (.cells #[.slice X m cx,.slice Y m cy] 31)=w4:=⟨_,rfl⟩;have hB4:Below w3.heap.size w3 w4:=by rw[← hw4];exact bone w3 _
 have hbl:Blk w4 w3.heap.size 31 #[.slice X m cx,.slice Y m cy]:=by rw[← hw4];exact Blk.new _ _ _
 obtain⟨-,-,-,-,-,-,rx4,ry4⟩:=HX.out w4 (bto HB3.out hB4);have hco:=concat2_any w3.heap.size m m cx cy X Y sc sc w4 (by omega) (by omega) hbl rx4 ry4;have HB4:=Hd (bto HB3.out hB4);clear hB4 hbl rx4 ry4 ta tb rx ry;go_wp2_with fail
 try rw[hw4]
 refine hco.mono ?_;rintro e w5 ⟨A5,k5,rfl,ho5,hB5⟩;clear hco hw4 c4 c5 c6 c7;have hva:=values_any A5 (m+m) k5 w5;obtain⟨w6,hw6⟩:∃w6,w5.alloc (.cells #[.slice A5 (m+m) k5] 31)=w6:=⟨_,rfl⟩;have hB6:Below w5.heap.size w5 w6:=by rw[← hw6];exact bone w5 _
 have hbv:Blk w6 w5.heap.size 31 #[.slice A5 (m+m) k5]:=by rw[← hw6];exact Blk.new _ _ _
 have hso:=sortedV_any w5.heap.size (m+m) k5 A5 (sc++sc) w6 (by omega) hbv (Reads.of_own (own_under ho5 hB6));rw[hw6]at hva;rw[riseI_rise,rise_dup HI.out.2]at hso;have HB6:=Hd (bto (bto HB4.out hB5) hB6);clear hw6 hB5 hB6 hbv ho5;go_wp2_with fail;refine hva.mono ?_;rintro e w7 ⟨rfl,rfl⟩;clear hva;go_wp2_with fail;refine hso.mono ?_;rintro e w7 ⟨A7,k7,rfl,ho7,hB7⟩;clear hso;have hcp:=compactI_any ho7 (by omega);rw[compact_dup HI.out.2,HM.out]at hcp;have HB7:=Hd (bto HB6.out hB7);have HO7:=Hd ho7;have HS67:=Hd hB7.size;clear ho7 hB7;go_wp2_with fail;refine hcp.mono ?_;rintro e w8 ⟨rfl,ho8,hT8⟩;clear hcp;have hB8:Below w1.heap.size w1 w8:=HB7.out.trans (hT8.below HB7.out.size fun i hi h=>by have z1:=(own_in HO7.out h).1;have z2:=HB6.out.size;omega);obtain⟨w9,hw9⟩:∃w9,(w8.alloc (.cells #[.slice none 0 0] 31)).setCell ⟨w8.heap.size,0,none⟩ (.slice A7 m k7)=w9:=⟨_,rfl⟩;have hB9:Below w8.heap.size w8 w9:=by rw[← hw9];exact (bone w8 _).setCell (p:=⟨w8.heap.size,0,none⟩) (Nat.le_refl _) _
 have hbv:Blk w9 w8.heap.size 31 #[.slice A7 m k7]:=by rw[← hw9];exact (Blk.new _ _ _).set_ 0 _
 have HB9:=Hd (bto hB8 hB9);obtain⟨c4,c5,c6,c7,ta,tb,rx,ry⟩:=HX.out w9 HB9.out;obtain⟨cv,-⟩:=hbv.one;have hov:=own_under ho8 hB9;have hsz:=sizes_any ta tb A7 X Y m k7 cx cy sc (Reads.of_own hov) rx ry HND.out hl hm6;have HOV:=Hd hov;have HBV:=Hd hbv;have HS8:=Hd (And.intro (show w1.heap.size≤w6.heap.size from HB6.out.size) (And.intro HS67.out (And.intro hT8.size hB9.size)));clear hT8 hB8 ho8 hB9 hbv hov ta tb rx ry;go_wp2_with fail
 try rw[hw9]
 clear hw9;go_wp2_with fail;refine hsz.mono ?_;rintro e w10 ⟨gz,rfl,hoz,hB10⟩;clear hsz c4 c5 c6 c7 cv;have HOZ:=Hd hoz;have HB10:=Hd (bto HB9.out hB10);have HB910:=Hd hB10;clear hoz hB10;obtain⟨c4,c5,c6,c7,ta,tb,-,-⟩:=HX.out w10 HB10.out;obtain⟨-,SA,sa,CA,ca,hba,hsa,-,-,-⟩:=ta;obtain⟨-,SB,sb,CB,cb,hbb,hsb,-,-,-⟩:=tb;obtain⟨p0,p1,p2⟩:=Blk.three (t:=117) hba;obtain⟨q0,q1,q2⟩:=Blk.three (t:=117) hbb;have hne:(k != k)=false:=by simp
 clear hba hsa hbb hsb;go_upto_region 9 with fail
 go_quiet (fail)
 obtain⟨wd,hwd⟩:∃wd,w10.drewN nq=wd:=⟨_,rfl⟩;rw[hwd];have hBd:Below w10.heap.size w10 wd:=by rw[← hwd];exact below_drewN (Below.refl _ _) nq
 have HBD:=Hd (bto HB10.out hBd);have HOD:=Hd (own_under HOZ.out hBd);have HBDD:=Hd hBd;clear hwd hBd p0 p1 p2 q0 q1 q2 c4 c5 c6 c7;obtain⟨c4,c5,c6,c7,ta,tb,-,-⟩:=HX.out wd HBD.out;obtain⟨-,SA,sa,CA,ca,hba,-,-,-,-⟩:=ta;obtain⟨p0,p1,p2⟩:=Blk.three (t:=117) hba;have hnw:=tabnew_any (some ⟨gz,0,none⟩) m m zs k 0 wd (Reads.of_own HOD.out) HZ.out HP4.out HK0.out;clear hba tb;go_wp2_with fail;refine hnw.mono ?_;rintro e w11 ⟨g2,rfl,ht11,hb11⟩;clear hnw c4 c5 c6 c7 p0 p1 p2;obtain⟨w12,hw12⟩:∃w12,(w11.alloc (.cells #[.pointer none] 53)).setCell ⟨w11.heap.size,0,none⟩ (.pointer (some ⟨g2,0,none⟩))=w12:=⟨_,rfl⟩;have hB12:Below w11.heap.size w11 w12:=by rw[← hw12];exact (bone w11 _).setCell (p:=⟨w11.heap.size,0,none⟩) (Nat.le_refl _) _
 have hbx:Blk w12 w11.heap.size 53 #[.pointer (some ⟨g2,0,none⟩)]:=by rw[← hw12];exact (Blk.new _ _ _).set_ 0 _
 have ht12:=ht11.under hB12;obtain⟨hg6,SB,sb,CB,cb,hbt,hso6,hsr6,hco6,hcr6⟩:=ht12;obtain⟨p0,p1,p2⟩:=Blk.three (t:=117) hbt;obtain⟨px,-⟩:=hbx.one;have hall:=shp.all_any SB zs.length sb w12;have HB11:=Hd hb11;have HB12:=Hd hB12;have HBX:=Hd hbx;have HBT:=Hd hbt;have HS6:=Hd hso6;have HSR:=Hd hsr6;have HC6:=Hd hco6;have HCR:=Hd hcr6;have HG6:=Hd hg6;clear ht11 hb11 hB12 hbx hbt hso6 hsr6 hco6 hcr6 hg6;go_wp2_with fail
 try rw[hw12]
 clear hw12;go_wp2_with fail;refine hall.mono ?_;rintro e w13 ⟨rfl,hw13⟩;clear hall;have HW13:=Hd hw13;clear hw13;go_wp2_with fail;have hB13:Below w12.heap.size w12 w13:=by rw[← HW13.out];exact bone w12 _
 have hgx:Blk w13 w12.heap.size 115 #[.slice SB zs.length sb]:=by rw[← HW13.out];exact Blk.new _ _ _
 have hs13:=own_under HS6.out hB13;have hc13:=own_under HC6.out hB13;have hbt13:=HBT.out.under hB13;have hbx13:=HBX.out.under hB13;have hBd13:Below wd.heap.size wd w13:=bto (bto HB11.out HB12.out) hB13;have hB9_13:Below w9.heap.size w9 w13:=bto (bto HB910.out HBDD.out) hBd13;have hB1_13:Below w1.heap.size w1 w13:=bto HB9.out hB9_13;have hP:=shp.szs_prod HZ.out;obtain⟨N,hN⟩:∃N:Nat,prodI zs=N:=⟨(prodI zs).toNat,by omega⟩;have hNl:(New zs 0).length=N:=by unfold New;rw[List.length_replicate,hN];omega
 rw[hNl]at hc13 hbt13
 have hqx:∃qb,CB=some ⟨qb,0,none⟩:=by
  rcases hc13.2 with⟨e0,e1⟩ | ⟨qb,cap,cur,e0,_⟩
  ·exfalso;simp_all<;>omega
  ·injection e0 with e0 e1;exact⟨qb,e0⟩
 obtain⟨qb,rfl⟩:=hqx;have hCl:wd.heap.size≤qb:=HCR.out qb rfl;have hql:qb<w12.heap.size:=(own_in HC6.out rfl).2;have hzl:zs.length=m:=by rw[← hl];exact HM.out
 rw[hzl]at hgx hs13;rw[hzl]at hbt13
 have hSl:∀q,(Value.slice SB m sb).ownBlock=some q→q≠qb:=fun q hq e=>by
  subst e;obtain⟨cs,hcs⟩:=own_is hs13 hq;exact own_blk_ne hc13 (show Blk w13 _ 3 cs from hcs) (by decide) rfl
 obtain⟨S,hS⟩:∃S:Nat→Prop,∀i,S i↔(w13.heap.size≤i∨i=qb):=⟨fun i=>w13.heap.size≤i∨i=qb,fun i=>Iff.rfl⟩;have hFl:(tabF zs fun t=>min (fa t+fb t) k).length=N:=by have:=tabF_len HZ.out fun t=>min (fa t+fb t) k;omega
 have hs13w:w13.heap.size=w12.heap.size+1:=by rw[← HW13.out];simp
 have hmsb:m≤sb:=own_cap hs13;have HS:=Hd hS;have HFL:=Hd hFl;have HNE:Hid (qb≠w11.heap.size∧qb≠g2):=⟨fun e=>own_blk_ne hc13 hbx13 (by decide) (by rw[← e];rfl),fun e=>own_blk_ne hc13 hbt13 (by decide) (by rw[← e];rfl)⟩
 have HRW:Hid (∀q,(Value.slice SB m sb).ownBlock=some q→¬ S q):=fun q hq h=>by
  rcases (hS q).1 h with h | h
  ·have:=(own_in hs13 hq).2;omega
  ·exact hSl q hq h
 have hcF:w13.ownsRow 0 2 1 (.slice (some ⟨qb,0,none⟩) N cb) N (nums ((tabF zs fun t=>min (fa t+fb t) k).take 0++List.replicate (N-0) 0)):=by
  have:New zs 0=(tabF zs fun t=>min (fa t+fb t) k).take 0++List.replicate (N-0) 0:=by rw[List.take_zero,List.nil_append,Nat.sub_zero];unfold New;rw[hN];rfl
  rwa [this]at hc13
 refine (wpIn_wide (n:=4)).1 ?_
 refine' range_told (by omega) (gf:=150) (lb := #[.pointer (some ⟨w12.heap.size,0,none⟩)]) rfl (enters_of Tryz.func150 (by kernel_rfl) rfl)
  (shp.all_toldO (4-1) (by omega) w12.heap.size m sb N S SB zs HZ.out hN hzl hmsb (fun h=>by rcases (hS _).1 h with h | h<;>omega) w13 hgx hs13 HRW.out)
  shp.tchK_t (shp.tchK_b fun i hi=>(hS i).2 (.inl hi)) (Below.refl _ _) (fun _=>rfl)
  (fun pre W=>Tch w13 W S∧W.ownsRow 0 2 1 (.slice (some ⟨qb,0,none⟩) N cb) N (nums ((tabF zs fun t=>min (fa t+fb t) k).take pre.length++List.replicate (N-pre.length) 0))) (fun _ _ _=>False) ?hI (fun _ _ _ _ _ hs _ _=>hs) (fun _ _ _ _ h=>h.2.2.1)
  (fun pre x W=>(Tch w13 W S∧W.ownsRow 0 2 1 (.slice (some ⟨qb,0,none⟩) N cb) N (nums ((tabF zs fun t=>min (fa t+fb t) k).take pre.length++List.replicate (N-pre.length) 0)))∧x.1=pre.length∧(x.1:Int)<N∧W.ownsRow w13.heap.size 3 1 (.slice (some ⟨x.2,0,none⟩) m m) m (nums (tupI zs x.1))) ?hZ ?hIZ ⟨Tch.refl _ _,hcF⟩
  _ ?assign ?body ?done ?stop
 case hI =>
  rintro pre W W' row ⟨h1,h2⟩ hg hrow;exact⟨h1.trans (Tch.of_grown hg fun i _ e=>(hS i).2 (.inl (hrow i e.symm).1)) fun _ _ h=>h,own_kept h2 hg fun r e=>(hrow r e).2⟩
 case hZ =>
  rintro pre x _ W W' row ⟨⟨h1,h2⟩,h3,h4,h5⟩ hg hrow;exact⟨⟨h1.trans (Tch.of_grown hg fun i _ e=>(hS i).2 (.inl (hrow i e.symm).1)) fun _ _ h=>h,own_kept h2 hg fun r e=>(hrow r e).2⟩,h3,h4,own_kept h5 hg fun r e=>(hrow r e).2⟩
 case hIZ =>
  rintro pre x W0 W1 ⟨h1,h2⟩ ⟨h3,h4,h5,h6⟩ hle;rw[hN]at h4;exact⟨⟨h1.trans (Tch.of_below h5 S) fun _ _ h=>h,own_under h2 h5⟩,h3,h4,own_base h6 hle⟩
 case assign =>
  intro l x W K hK;dsimp only[shp.encT]
  gi_wp2
  exact hK
 case body =>
  rintro l pre ⟨i,q⟩ W hl' ⟨⟨hT,hCo⟩,hi,hiN,hox⟩ hlen;dsimp only at hi hiN hox ⊢;subst hi;obtain⟨kk,hkk⟩:∃kk,pre.length=kk:=⟨_,rfl⟩;rw[hkk]at hCo hiN hox hlen ⊢;obtain⟨x,hx⟩:∃x,tupI zs (kk:Int)=x:=⟨_,rfl⟩;have hxT:=shp.tup_in HZ.out (kk:Int);have hxat:=shp.all_at HZ.out kk (by rw[hN];exact hiN);have hxl:x.length=m:=by rw[← hx,shp.tup_len,hzl]
  rw[hx]at hox hxT hxat;have hxI:=int_ins hxT;have hqw:=(own_in hox rfl).1
  have hBW9:Below w9.heap.size w9 W:=hB9_13.trans (hT.below hB9_13.size fun i hi h=>by
   have z1:=hB9_13.size;have z2:=(bto HB910.out HBDD.out).size
   rcases (hS i).1 h with h | h<;>omega)
  have hBW:=bto HB9.out hBW9
  have hbxW:=hT.blk hbx13 (fun h=>by
   rcases (hS _).1 h with h | h
   ·have:=hbx13.lt;omega
   ·exact own_blk_ne hc13 hbx13 (by decide) (by rw[h];rfl))
  have hbtW:=hT.blk hbt13 (fun h=>by
   rcases (hS _).1 h with h | h
   ·have:=hbt13.lt;omega
   ·exact own_blk_ne hc13 hbt13 (by decide) (by rw[h];rfl))
  have HY:Hid (∀W',Below W.heap.size W W'→(W'.cell? ⟨w.heap.size,0,none⟩=some (.pointer (some ⟨ga,0,none⟩))∧W'.cell? ⟨w.heap.size+1,0,none⟩=some (.slice X m cx)∧W'.cell? ⟨w.heap.size+2,0,none⟩=some (.pointer (some ⟨gb,0,none⟩))∧W'.cell? ⟨w.heap.size+3,0,none⟩=some (.slice Y m cy)∧W'.cell? ⟨w8.heap.size,0,none⟩=some (.slice A7 m k7)) ∧
   (TabV W' ga Fa Ra zs k (tabF zs fa)∧TabV W' gb Fb Rb zs k (tabF zs fb)∧Reads W' W'.heap.size 1 X m (nums sc)∧Reads W' W'.heap.size 1 Y m (nums sc)∧Reads W' W'.heap.size 1 A7 m (nums sc)) ∧
   (W'.cell? ⟨w11.heap.size,0,none⟩=some (.pointer (some ⟨g2,0,none⟩))∧W'.cell? ⟨g2,1,none⟩=some (.int .i64 k)∧W'.cell? ⟨g2,2,none⟩=some (.slice (some ⟨qb,0,none⟩) N cb)) ∧
   W'.ownsRow 0 2 1 (.slice (some ⟨qb,0,none⟩) N cb) N (nums ((tabF zs fun t=>min (fa t+fb t) k).take kk++List.replicate (N-kk) 0))∧W'.ownsRow w13.heap.size 3 1 (.slice (some ⟨q,0,none⟩) m m) m (nums x)):=fun W' hW'=>by
   obtain⟨e4,e5,e6,e7,ea,eb,er,ey⟩:=HX.out W' (bto hBW hW');obtain⟨f0,f1,f2⟩:=Blk.three (t:=117) (hbtW.under hW');exact⟨⟨e4,e5,e6,e7,((HBV.out.under hBW9).under hW').one.1⟩,⟨ea,eb,er,ey,Reads.of_own (own_under (own_under HOV.out hBW9) hW')⟩,⟨(hbxW.under hW').one.1,f1,f2⟩,own_under hCo hW',own_under hox hW'⟩
  have HT:=Hd hT;have HCO:=Hd hCo;have HXT:=Hd hxT;have HXA:=Hd hxat;have HKK:=Hd hkk;have HXI:=Hd hxI;have HXL:=Hd hxl;have HSCL:Hid (x.length=sc.length):=by rw[Hid,hxl,← HM.out]
  clear hT hCo hox hxT hxat hx hkk hxl hxI hbxW hbtW hB9_13 hB1_13;have hbd:Below W.heap.size W W.drew:=(Below.refl _ _).drew;obtain⟨⟨e4,e5,e6,e7,ev⟩,⟨ea,eb,er,ey,evr⟩,-,-,eX⟩:=HY.out _ hbd
  gi_upto_region 17 with fail
  refine wpIn_region_round (by kernel_rfl) (by kernel_rfl) (by rintro ⟨a,w',h⟩;exact h) ?_;have hHeld:W.drew.cell? ⟨w.heap.size,0,none⟩=some (.pointer (some ⟨ga,0,none⟩))∧W.drew.cell? ⟨w.heap.size+1,0,none⟩=some (.slice X m cx)∧W.drew.cell? ⟨w8.heap.size,0,none⟩=some (.slice A7 m k7):=⟨e4,e5,ev⟩;refine wpAny_of_held (S:=(fun W'=>W'.cell? ⟨w.heap.size,0,none⟩=some (.pointer (some ⟨ga,0,none⟩))∧W'.cell? ⟨w.heap.size+1,0,none⟩=some (.slice X m cx)∧W'.cell? ⟨w8.heap.size,0,none⟩=some (.slice A7 m k7))) _ _ _ _ ?_;refine takes [0,1,2,3] hHeld (by kernel_rfl) (fun _ _ _ _ _ h=>h) ?_
  iterate 4
   conv=>whnf
   refine⟨?_,.inl ⟨by kernel_rfl,fun w hSw=>?_⟩,?_⟩
   rotate_left
   ·(try dsimp only at hSw);go_simp;try with_reducible rfl
   try simp only[Act.put,ya,yb,yc]
  refine Yt.nil ?_;have hpt:=part_any (some ⟨q,0,none⟩) A7 X m m m k7 m cx x sc sc W.drew (Reads.of_own eX) evr er HND.out (fun _ h=>h) HSCL.out (by omega) (by omega);rw[partT_self HND.out HSCL.out]at hpt;refine wpAnyH_ready (rs := [4]) (by kernel_rfl) (by simp) ?_;refine AllReadyH.cons rfl (fun K hK=>?_) AllReadyH.nil;go_simp;refine hpt.mono ?_;rintro e wa ⟨gp,rfl,hop,hba⟩;dsimp only;have HBA:=Hd (bto hbd hba);clear e4 e5 e6 e7 ev ea eb er ey evr eX hpt;obtain⟨⟨e4,e5,e6,e7,ev⟩,⟨ea,-⟩,-⟩:=HY.out _ HBA.out;refine hK.out _ _ ⟨e4,e5,ev⟩ (fun hHelda=>?_);have hget:=tabget_any ea HZ.out (tabF_len HZ.out fa) (some ⟨gp,0,none⟩) m m x (Reads.of_own hop) HXT.out;rw[at_tabF HZ.out HXI.out]at hget;clear hK K hHeld ea hop hba;refine wpAnyH_ready (rs := [5]) (by kernel_rfl) (by simp) ?_;refine AllReadyH.cons rfl (fun K hK=>?_) AllReadyH.nil;go_simp;refine hget.mono ?_;rintro e wb ⟨rfl,hbb⟩;dsimp only;have HBB:=Hd (bto HBA.out hbb);clear e4 e5 e6 e7 ev hget;obtain⟨⟨e4,e5,e6,e7,ev⟩,-⟩:=HY.out _ HBB.out;refine hK.out _ _ ⟨e4,e5,ev⟩ (fun hHeldb=>?_);clear hK K hHelda hbb e4 e5 e6 e7 ev;refine takes [6,7,8,9,10] hHeldb (by kernel_rfl) (fun _ _ _ _ _ h=>h) ?_
  iterate 5
   conv=>whnf
   refine⟨?_,.inl ⟨by kernel_rfl,fun w hSw=>?_⟩,?_⟩
   rotate_left
   ·(try dsimp only at hSw);go_simp;try with_reducible rfl
   try simp only[Act.put,ya,yb,yc]
  refine Yt.nil ?_;refine wpAnyH_done (by kernel_rfl) ?_ _;go_simp;clear hHeldb;have hbd2:=HBB.out.drew;obtain⟨⟨e4,e5,e6,e7,ev⟩,⟨ea,eb,er,ey,evr⟩,-,-,eX⟩:=HY.out _ hbd2
  gi_upto_region 18 with fail
  refine wpIn_region_round (by kernel_rfl) (by kernel_rfl) (by rintro ⟨a,w',h⟩;exact h) ?_;have hHeld:wb.drew.cell? ⟨w.heap.size+2,0,none⟩=some (.pointer (some ⟨gb,0,none⟩))∧wb.drew.cell? ⟨w.heap.size+3,0,none⟩=some (.slice Y m cy)∧wb.drew.cell? ⟨w8.heap.size,0,none⟩=some (.slice A7 m k7):=⟨e6,e7,ev⟩;refine wpAny_of_held (S:=(fun W'=>W'.cell? ⟨w.heap.size+2,0,none⟩=some (.pointer (some ⟨gb,0,none⟩))∧W'.cell? ⟨w.heap.size+3,0,none⟩=some (.slice Y m cy)∧W'.cell? ⟨w8.heap.size,0,none⟩=some (.slice A7 m k7))) _ _ _ _ ?_;refine takes [0,1,2,3] hHeld (by kernel_rfl) (fun _ _ _ _ _ h=>h) ?_
  iterate 4
   conv=>whnf
   refine⟨?_,.inl ⟨by kernel_rfl,fun w hSw=>?_⟩,?_⟩
   rotate_left
   ·(try dsimp only at hSw);go_simp;try with_reducible rfl
   try simp only[Act.put,ya,yb,yc]
  refine Yt.nil ?_;have hpt:=part_any (some ⟨q,0,none⟩) A7 Y m m m k7 m cy x sc sc wb.drew (Reads.of_own eX) evr ey HND.out (fun _ h=>h) HSCL.out (by omega) (by omega);rw[partT_self HND.out HSCL.out]at hpt;refine wpAnyH_ready (rs := [4]) (by kernel_rfl) (by simp) ?_;refine AllReadyH.cons rfl (fun K hK=>?_) AllReadyH.nil;go_simp;refine hpt.mono ?_;rintro e wc ⟨gp2,rfl,hop,hbc⟩;dsimp only;have HBC:=Hd (bto hbd2 hbc);clear e4 e5 e6 e7 ev ea eb er ey evr eX hpt;obtain⟨⟨e4,e5,e6,e7,ev⟩,⟨-,eb,-⟩,-⟩:=HY.out _ HBC.out;refine hK.out _ _ ⟨e6,e7,ev⟩ (fun hHeldc=>?_);have hget:=tabget_any eb HZ.out (tabF_len HZ.out fb) (some ⟨gp2,0,none⟩) m m x (Reads.of_own hop) HXT.out;rw[at_tabF HZ.out HXI.out]at hget;clear hK K hHeld eb hop hbc;refine wpAnyH_ready (rs := [5]) (by kernel_rfl) (by simp) ?_;refine AllReadyH.cons rfl (fun K hK=>?_) AllReadyH.nil;go_simp;refine hget.mono ?_;rintro e we ⟨rfl,hbe⟩;dsimp only;have HBE:=Hd (bto HBC.out hbe);clear e4 e5 e6 e7 ev hget;obtain⟨⟨e4,e5,e6,e7,ev⟩,-⟩:=HY.out _ HBE.out;refine hK.out _ _ ⟨e6,e7,ev⟩ (fun hHelde=>?_);clear hK K hHeldc hbe e4 e5 e6 e7 ev;refine takes [6,7,8,9,10] hHelde (by kernel_rfl) (fun _ _ _ _ _ h=>h) ?_
  iterate 5
   conv=>whnf
   refine⟨?_,.inl ⟨by kernel_rfl,fun w hSw=>?_⟩,?_⟩
   rotate_left
   ·(try dsimp only at hSw);go_simp;try with_reducible rfl
   try simp only[Act.put,ya,yb,yc]
  refine Yt.nil ?_;refine wpAnyH_done (by kernel_rfl) ?_ _;go_simp;clear hHelde;have hbd3:=HBE.out.drew;obtain⟨-,-,⟨ex,ek,ec⟩,eC,-⟩:=HY.out _ hbd3;have hadd:=add_ok (fa x) (fb x) k we.drew (HFA.out x HXI.out) (HFB.out x HXI.out)
  gi_upto_region 19 with fail
  refine wpIn_region_round (by kernel_rfl) (by kernel_rfl) (by rintro ⟨a,w',h⟩;exact h) ?_;obtain⟨wh,hwh⟩:∃wh,we.drew=wh:=⟨_,rfl⟩;rw[hwh]at hbd3 ex ek ec eC hadd ⊢;clear hwh;have hHeld:wh.cell? ⟨w11.heap.size,0,none⟩=some (.pointer (some ⟨g2,0,none⟩))∧wh.cell? ⟨g2,1,none⟩=some (.int .i64 k)∧wh.cell? ⟨g2,2,none⟩=some (.slice (some ⟨qb,0,none⟩) N cb):=⟨ex,ek,ec⟩;refine wpAny_of_held (S:=(fun W'=>W'.cell? ⟨w11.heap.size,0,none⟩=some (.pointer (some ⟨g2,0,none⟩))∧W'.cell? ⟨g2,1,none⟩=some (.int .i64 k)∧W'.cell? ⟨g2,2,none⟩=some (.slice (some ⟨qb,0,none⟩) N cb))) _ _ _ _ ?_;refine takes [0,1,2,3,4,5,6,7,8,9,10] hHeld (by kernel_rfl) (fun _ _ _ _ _ h=>h) ?_
  iterate 11
   conv=>whnf
   refine⟨?_,.inl ⟨by kernel_rfl,fun w hSw=>?_⟩,?_⟩
   rotate_left
   ·(try dsimp only at hSw);go_simp;try with_reducible rfl
   try simp only[Act.put,ya,yb,yc]
  refine Yt.nil ?_;refine wpAnyH_ready (rs := [11]) (by kernel_rfl) (by simp) ?_;refine AllReadyH.cons rfl (fun K hK=>?_) AllReadyH.nil;go_simp;refine hadd.mono ?_;rintro e wf ⟨rfl,rfl⟩;dsimp only;refine hK.out _ _ hHeld (fun hHeldf=>?_);clear hK K hadd;have hf9:=eC.frozenAt kk;obtain⟨u,hu⟩:∃u,(nums ((tabF zs fun t=>min (fa t+fb t) k).take kk++List.replicate (N-kk) 0))[kk]?=some u:=⟨_,List.getElem?_eq_getElem (by have:=HFL.out;simp[nums];omega)⟩;have hc9:=(eC.cellAt kk (by omega)).trans hu;have i0:(0:Int)≤(kk:Int):=by omega
  refine takes [12,13,14,15] hHeldf (by kernel_rfl) (fun _ _ _ _ _ h=>h) ?_
  iterate 4
   conv=>whnf
   refine⟨?_,.inl ⟨by kernel_rfl,fun w hSw=>?_⟩,?_⟩
   rotate_left
   ·(try dsimp only at hSw);go_simp;try with_reducible rfl
   try simp only[Act.put,ya,yb,yc]
  refine Yt.nil ?_;refine wpAnyH_ready (rs := [16]) (by kernel_rfl) (by simp) ?_;refine AllReadyH.cons rfl (fun K hK=>?_) AllReadyH.nil;go_simp;have HS12:=(eC.stored kk (.int .i64 (min (fa x+fb x) k))).1;refine hK.out _ _ ⟨?_,?_,?_⟩ (fun _=>?_)
  ·rw[World.cell?_setCell_far _ _ _ _ HNE.out.1];exact hHeldf.1
  ·rw[World.cell?_setCell_far _ _ _ _ HNE.out.2];exact hHeldf.2.1
  ·rw[World.cell?_setCell_far _ _ _ _ HNE.out.2];exact hHeldf.2.2
  clear hK K;refine wpAnyH_done (by kernel_rfl) ?_ _;have T1:Tch W (wh.setCell ⟨qb,kk,none⟩ (.int .i64 (min (fa x+fb x) k))) (fun i=>i=qb):=(Tch.of_below hbd3 _).put (p:=⟨qb,kk,none⟩) _ rfl;have T2:Tch W (wh.setCell ⟨qb,kk,none⟩ (.int .i64 (min (fa x+fb x) k))) S:=(Tch.of_below hbd3 _).put (p:=⟨qb,kk,none⟩) _ ((HS.out qb).2 (.inr rfl));refine⟨from_cells _ T1 fun i h _=>?_,T2,HT.out.trans T2 fun _ _ h=>h,?_⟩
  ·subst h
   obtain⟨cs,hc⟩:=own_is HCO.out (q:=i) rfl;exact⟨cs,_,hc⟩
  ·have hxk:(tabF zs fun t=>min (fa t+fb t) k)[kk]?=some (min (fa x+fb x) k):=by unfold tabF;rw[List.getElem?_map,HXA.out];rfl
   have hsp:=set_part hxk;rw[HFL.out]at hsp;rw[hsp]at HS12;rw[List.length_append,HKK.out];exact HS12
 case done =>
  rintro D ys W hD hlen ⟨hT,hCo⟩ hDK;rw[hlen,List.take_of_length_le (by rw[HFL.out];exact Nat.le_refl _),Nat.sub_self,List.replicate_zero,List.append_nil]at hCo
  have hbxW:=hT.blk hbx13 (fun h=>by
   rcases (HS.out _).1 h with h | h
   ·have:=hbx13.lt;omega
   ·exact own_blk_ne hc13 hbx13 (by decide) (by rw[h];rfl))
  have hbtW:=hT.blk hbt13 (fun h=>by
   rcases (HS.out _).1 h with h | h
   ·have:=hbt13.lt;omega
   ·exact own_blk_ne hc13 hbt13 (by decide) (by rw[h];rfl))
  have hsW:=hT.own hs13 HRW.out;obtain⟨ex,-⟩:=hbxW.one
  have hBW9:Below w9.heap.size w9 W:=hB9_13.trans (hT.below hB9_13.size fun i hi h=>by
   have z1:=hB9_13.size;have z2:=(bto HB910.out HBDD.out).size
   rcases (HS.out i).1 h with h | h<;>omega)
  have hvW:=HBV.out.under hBW9;obtain⟨ev,-⟩:=hvW.one;have hz0:w.heap.size≤wd.heap.size:=by have z1:=(bto HB1.out HBD.out).size;omega
  have HBW:=Hd (bto (bto HB1.out HB9.out) hBW9);have HCO:=Hd hCo;have HBT7:=Hd hbtW;have HSW:=Hd hsW;have HDK:=Hd hDK;have HDL:Hid (w13.heap.size≤D):=hD;have HZ0:Hid (w.heap.size≤wd.heap.size∧w.heap.size≤w13.heap.size):=⟨hz0,by have:=hBd13.size;omega⟩;have HQL:=Hd hCl;clear hT hCo hbxW hbtW hsW hDK hvW hBW9 hB9_13 hB1_13;go_upto_region 20 with fail
  go_quiet (fail)
  go_wp2_with fail;obtain⟨Wq,hWq⟩:∃Wq,W.drewN nq=Wq:=⟨_,rfl⟩;have hbq:Below W.heap.size W Wq:=by rw[← hWq];exact below_drewN (Below.refl _ _) nq
  have hDq:Wq.heap[D]?=some (.deferred (some [])):=by rw[← hWq];exact HDK.out
  rw[hWq];clear hWq;have HBQ:=Hd hbq;have HDQ:=Hd hDq;refine⟨by simp,.inl ⟨_,_,rfl,run_takeDeferred HDQ.out,?_⟩⟩;have hfin:Tch Wq (Wq.putObj D (.deferred none)) (fun i=>i=D):=Tch.of_grown (grownBy_putObj' Wq D _) fun i _ e=>by injection e
  have hcl:∀ {i:Nat} {t:TypeId} {cs:Array Value},Blk Wq i t cs→i≠D:=fun h e=>by
   subst e;rw[show Wq.heap[_]?=_ from h]at hDq;cases hDq
  have hbt2:=HBT7.out.under hbq;have hsw2:=own_under HSW.out hbq;have hco2:=own_under HCO.out hbq;have hbw2:=bto HBW.out hbq;refine⟨_,results_tmp3 rfl _ _ _,g2,A7,k7,rfl,⟨by have:=HG6.out;have:=HZ0.out;omega,SB,sb,some ⟨qb,0,none⟩,cb,?_,?_,?_,?_,?_⟩,?_⟩
  ·rw[hzl,HFL.out];exact hfin.blk hbt2 (hcl hbt2)
  ·rw[hzl];exact hfin.own hsw2 fun q hq e=>by
    obtain⟨cs,hcs⟩:=own_is hsw2 hq;exact hcl hcs e
  ·intro q hq;have:=HSR.out q hq;have:=HZ0.out;omega
  ·rw[HFL.out];exact hfin.own hco2 fun q hq e=>by
    obtain⟨cs,hcs⟩:=own_is hco2 hq;exact hcl hcs e
  ·intro q hq;cases hq;have:=HQL.out;have:=HZ0.out;show w.heap.size≤qb;omega
  ·exact hbw2.trans (hfin.below hbw2.size fun i hi h=>by have z2:=HDL.out;have z3:=HZ0.out;omega)
 case stop =>
  rintro D c pre W _ _ h _;exact h.elim
end Go.Proofs.YtjpkkkphhaajgaaGreatDoor.wcp
namespace Go.Proofs.YtjpkkkphhaajgaaGreatDoor.wcp
open Go RowKit Shelf ChangeShapes WideShapes ChangeAt Maps words scn
open shp (Szs prodI InT idxI tupI allI)
theorem infoFnC:(Tryz.prog.info? 88).map (fun i=>(i.zero,i.size,i.bytes))=some (some (.agg #[.slice none 0 0,.pointer none]),2,32):=by kernel_rfl
structure JoinW (w:World) (f:Fil) (j:Nat) (P:List GT) (L:Option Addr) (lc:Nat) (wr:World):Prop where
 map:P.map (·.2)=joined f.sizes f.k (f.funs.take j)
 row:wr.ownsRow w.heap.size 88 2 (.slice L P.length lc) P.length (gcells P)
 fs:∀p∈P,GV wr w.heap.size f.k p
 below:Below w.heap.size w wr
theorem JoinW.good {w wr:World}{f:Fil}{j:Nat}{P:List GT}{L:Option Addr}{lc:Nat}(h:JoinW w f j P L lc wr)(hf:GoodFs f.sizes f.k f.funs):∀p∈P,GoodC f.sizes f.k p.2:=fun p hp =>
 joined_good (fun x hx=>hf x (List.mem_of_mem_take hx)) p.2 (by rw[← h.map];exact List.mem_map_of_mem hp)
theorem JoinW.len {w wr:World}{f:Fil}{j:Nat}{P:List GT}{L:Option Addr}{lc:Nat}(h:JoinW w f j P L lc wr):P.length≤f.funs.length:=by
 have h1:=congrArg List.length h.map;have h2:=joined_len f.sizes f.k (f.funs.take j);rw[List.length_map]at h1;rw[List.length_take]at h2;omega
theorem good_sc {zs:List Int}{K:Int}{g:CF}(h:GoodC zs K g):g.scope.length=g.sizes.length∧g.scope.length≤6:=by
 have:g.sizes.length=g.scope.length:=by rw[h.sizes,szOf_len]
 have:=h.szs.1;omega
theorem good_C {zs:List Int}{K:Int}{g:CF}(h:GoodC zs K g):g.C.length≤4096:=by
 obtain⟨f,e,-⟩:=h.tab;have:=tabF_len h.szs f;have:=h.prod;rw[e];omega
theorem good_rise {zs:List Int}{K:Int}{g:CF}(h:GoodC zs K g)(hz:zs.length≤64):IsRise g.scope:=⟨fun v hv=>by have:=h.vars v hv;omega,h.rise⟩
theorem JoinW.push {w wr w1 w2:World}{f:Fil}{j:Nat}{P:List GT}{L L' A:Option Addr}{lc lc' c g2:Nat}{x:Raw}(h:JoinW w f j P L lc wr)(hx:f.funs[j]?=some x)(hb1:Below wr.heap.size wr w1)(hb2:Below w.heap.size w w2)(hg:w1.grownBy w2 (Value.slice L P.length lc).ownBlock)
 (hnew:∀q∈P,q.2.scope≠(turnF f.sizes f.k x).scope) (hgv:GV w1 w.heap.size f.k (.agg #[.slice A x.scope.length c,.pointer (some ⟨g2,0,none⟩)],turnF f.sizes f.k x))
 (ho:w2.ownsRow w.heap.size 88 2 (.slice L' (P.length+1) lc') (P.length+1) (gcells P ++ [.slice A x.scope.length c,.pointer (some ⟨g2,0,none⟩)])) :
 JoinW w f (j+1) (P ++ [(.agg #[.slice A x.scope.length c,.pointer (some ⟨g2,0,none⟩)],turnF f.sizes f.k x)]) L' lc' w2:=by
 have hl:(P ++ [((.agg #[.slice A x.scope.length c,.pointer (some ⟨g2,0,none⟩)],turnF f.sizes f.k x):GT)]).length=P.length+1:=by simp
 have hT:Tch w1 w2 (fun q=>some q=(Value.slice L P.length lc).ownBlock):=Tch.of_grown hg fun q _ e=>e
 have hno:NoFn w1 (fun q=>some q=(Value.slice L P.length lc).ownBlock):=fun q e=>by
  obtain⟨cs,hc⟩:=own_is (own_under h.row hb1) e.symm;exact⟨_,cs,hc,by decide,by decide,by decide⟩
 refine⟨?_,by rw[hl,gc_snoc];exact ho,fun p hp=>?_,hb2⟩
 ·rw[List.map_append,h.map,joined_take hx,addC_new]
  ·rfl
  ·intro q hq
   rw[← h.map]at hq;obtain⟨p,hp,rfl⟩:=List.mem_map.1 hq;exact hnew p hp
 ·rcases List.mem_append.1 hp with hp | hp
  ·exact ((h.fs p hp).under hb1).off hT hno
  ·rw[List.mem_singleton.1 hp];exact hgv.off hT hno
theorem JoinW.join {w wr w1:World}{f:Fil}{j i g3:Nat}{P:List GT}{q lc:Nat}{x:Raw}{p:GT}{a b:Value}(h:JoinW w f j P (some ⟨q,0,none⟩) lc wr)(hx:f.funs[j]?=some x)(hb1:Below wr.heap.size wr w1)(hp:P[i]?=some p)(hab:p.1 = .agg #[a,b])
 (hs:p.2.scope=(turnF f.sizes f.k x).scope) (hfirst:∀ (k:Nat) y,k<i→P[k]?=some y→y.2.scope≠(turnF f.sizes f.k x).scope) (hq:w.heap.size≤q)
 (ht:TabV w1 g3 (fun q=>w.heap.size≤q) (fun q=>w.heap.size≤q) p.2.sizes f.k (sumL f.k p.2.C (turnF f.sizes f.k x).C)) :
 JoinW w f (j+1) (P.set i (.agg #[a,.pointer (some ⟨g3,0,none⟩)],⟨p.2.scope,p.2.sizes,sumL f.k p.2.C (turnF f.sizes f.k x).C⟩)) (some ⟨q,0,none⟩) lc (w1.setCell ⟨q,i*2+1,none⟩ (.pointer (some ⟨g3,0,none⟩))):=by
 have h2:∀p∈P,∃a b,p.1 = .agg #[a,b]:=fun p hp=>(h.fs p hp).two
 obtain⟨pv,pf⟩:=p;dsimp only at hab hs ht;subst hab;have hrow1:=own_under h.row hb1;have hT:Tch w1 (w1.setCell ⟨q,i*2+1,none⟩ (.pointer (some ⟨g3,0,none⟩))) (fun k=>k=q):=Tch.set_ (S:=fun k=>k=q) w1 (p:=⟨q,i*2+1,none⟩) _ rfl
 have hno:NoFn w1 (fun k=>k=q):=fun k e=>by
  obtain⟨cs,hc⟩:=own_is hrow1 (q:=q) rfl;subst e;exact⟨_,cs,hc,by decide,by decide,by decide⟩
 refine⟨?_,?_,fun y hy=>?_,(h.below.trans (hb1.mono h.below.size)).setCell (p:=⟨q,i*2+1,none⟩) hq _⟩
 ·rw[List.map_set,h.map,joined_take hx,addC_at (i:=i) (h:=pf)]
  ·rw[← h.map,List.getElem?_map,hp];rfl
  ·exact hs
  ·intro k y hk hy
   rw[← h.map,List.getElem?_map]at hy;obtain⟨z,hz,rfl⟩:=Option.map_eq_some_iff.1 hy;exact hfirst k z hk hz
 ·rw[List.length_set]
  have:=(hrow1.stored (i*2+1) (.pointer (some ⟨g3,0,none⟩))).1
  rwa [gc_set h2 (f':=⟨pf.scope,pf.sizes,sumL f.k pf.C (turnF f.sizes f.k x).C⟩) hp]at this
 ·rcases List.mem_or_eq_of_mem_set hy with hy | rfl
  ·exact ((h.fs y hy).under hb1).off hT hno
  ·obtain⟨A,c,g0,e0,r0,-⟩:=(h.fs _ (List.mem_of_getElem? hp)).under hb1
   injection e0 with e0
   obtain⟨rfl,-⟩:a = .slice A pf.scope.length c∧b = .pointer (some ⟨g0,0,none⟩):=by simpa using e0
   refine⟨A,c,g3,rfl,hT.own r0 fun k hk hs=>?_,ht.off hT hno⟩;obtain⟨cs,hcs⟩:=own_is r0 hk;obtain⟨cs2,hc2⟩:=own_is hrow1 (q:=q) rfl;rw[hs]at hcs;exact Blk.ne_ hcs hc2 (by decide) rfl
end Go.Proofs.YtjpkkkphhaajgaaGreatDoor.wcp
namespace Go.Proofs.YtjpkkkphhaajgaaGreatDoor.wcp
open Go RowKit Shelf ChangeShapes WideShapes ChangeAt Maps words scn
structure OutW (w5:World) (g2:Nat) (f:Fil) (A4:Option Addr) (c4:Nat) (l:List CF) (j:Nat) (V2:List FT) (F2:Option Addr) (f2c:Nat) (wr:World):Prop where
 map:V2.map (·.2.2.2)=(l.take j).map rawC
 blk:Blk wr g2 34 #[strV f.name,.int .i64 f.k,.slice A4 f.sizes.length c4,.slice F2 V2.length f2c]
 row:wr.ownsRow (g2+1) 37 2 (.slice F2 V2.length f2c) V2.length (fcells V2)
 fs:∀p∈V2,FunV wr (fun k=>p.2.1≤k∧k<p.2.2.1) p.1 p.2.2.2 f.k
 tch:Tch w5 wr (fun q=>q=g2)
theorem OutW.push {w5 wr w8 w9:World}{g2:Nat}{f:Fil}{A4:Option Addr}{c4:Nat}{l:List CF}{j:Nat}{V2:List FT}{F2 A10:Option Addr}{f2c c10 lo tg:Nat}{v1:Value}{y:CF}(h:OutW w5 g2 f A4 c4 l j V2 F2 f2c wr)(hy:l[j]?=some y)(hg5:w5.heap.size=g2+1)(hb1:Below wr.heap.size wr w8)
 (hfv:FunV w8 (fun k=>lo≤k∧k<w8.heap.size) (.agg #[v1,.pointer (some ⟨tg,0,none⟩)]) (rawC y) f.k) (hg:w8.grownBy w9 (Value.slice F2 V2.length f2c).ownBlock) (ho:w9.ownsRow (g2+1) 37 2 (.slice A10 (V2.length+1) c10) (V2.length+1) (fcells V2 ++ [v1,.pointer (some ⟨tg,0,none⟩)])) :
 OutW w5 g2 f A4 c4 l (j+1) (V2 ++ [((.agg #[v1,.pointer (some ⟨tg,0,none⟩)],lo,w8.heap.size,rawC y):FT)]) A10 c10 (w9.setCell ⟨g2,3,none⟩ (.slice A10 (V2.length+1) c10)):=by
 have hA:=own_under h.row hb1;have hGA:=h.blk.under hb1;have hgw9:=hGA.grown hg (fun e=>by obtain⟨cs,hb⟩:=own_is hA e.symm;exact Blk.ne_ hGA hb (by decide) rfl);have hl2:(V2 ++ [((.agg #[v1,.pointer (some ⟨tg,0,none⟩)],lo,w8.heap.size,rawC y):FT)]).length=V2.length+1:=by simp
 have Ta:Tch wr w8 (fun _=>False):=Tch.of_below hb1 _;have Tb:=Tch.of_grown hg (S:=fun q=>some q=(Value.slice F2 V2.length f2c).ownBlock) fun q _ hq=>hq
 have Tc:Tch w9 (w9.setCell ⟨g2,3,none⟩ (.slice A10 (V2.length+1) c10)) (fun q=>q=g2):=Tch.put (S:=fun q=>q=g2) (Tch.refl w9 _) (p:=⟨g2,3,none⟩) _ rfl
 have hS1:∀q,some q=(Value.slice F2 V2.length f2c).ownBlock→∃t cs,Blk w8 q t cs∧t≠103∧t≠3:=fun q hq=>by
  obtain⟨cs,hb⟩:=own_is hA hq.symm;exact⟨_,cs,hb,by decide,by decide⟩
 have hS2:∀q,q=g2→∃t cs,Blk w9 q t cs∧t≠103∧t≠3:=fun q hq=>by subst hq;exact⟨_,_,hgw9,by decide,by decide⟩
 have hfin:∀ {F:Nat→Prop} {v:Value} {x:Raw},FunV w8 F v x f.k→FunV (w9.setCell ⟨g2,3,none⟩ (.slice A10 (V2.length+1) c10)) F v x f.k:=fun h=>(h.off Tb hS1).off Tc hS2
 refine⟨?_,?_,?_,fun p hp=>?_,?_⟩
 ·rw[List.map_append,h.map,List.take_add_one,hy]
  simp
 ·rw[hl2];exact hgw9.set_ 3 _
 ·rw[hl2,show fcells (V2 ++ [((.agg #[v1,.pointer (some ⟨tg,0,none⟩)],lo,w8.heap.size,rawC y):FT)])=fcells V2 ++ [v1,.pointer (some ⟨tg,0,none⟩)] by simp[fcells]]
  exact own_off ho Tc (off_below fun q hq=>by omega)
 ·rcases List.mem_append.1 hp with hp | hp
  ·exact hfin ((h.fs p hp).off Ta fun q h=>h.elim)
  ·rw[List.mem_singleton.1 hp]
   exact hfin hfv
 ·have z1:=h.tch.size
  exact ((h.tch.trans Ta fun _ _ h=>h.elim).trans Tb fun q hq h=>by have:=(own_in hA h.symm).1;omega).trans Tc fun _ _ h=>h
theorem funv_made {w:World}{B tg:Nat}{A:Option Addr}{c:Nat}{y:CF}{k:Int}(hr:w.ownsRow B 3 1 (.slice A y.scope.length c) y.scope.length (nums y.scope))(ht:TpV w tg (fun q=>B≤q) (linesC y).length (tpOf (rawC y) k (linesC y))) :
 FunV w (fun q=>B≤q∧q<w.heap.size) (.agg #[.slice A y.scope.length c,.pointer (some ⟨tg,0,none⟩)]) (rawC y) k :=
 ⟨_,tg,rfl,⟨⟨A,c,rfl⟩,own_base hr (Nat.zero_le _)⟩,fun q hq=>own_in hr hq,ht.lim⟩
end Go.Proofs.YtjpkkkphhaajgaaGreatDoor.wcp
namespace Go.Proofs.YtjpkkkphhaajgaaGreatDoor.wcp
open Go RowKit Shelf ChangeShapes WideShapes ChangeAt Maps words scn
open shp (Szs prodI InT idxI tupI allI)
def CanonR (w:World)(f:Fil)(e:Ending)(w':World):Prop :=
 ∃g2 SA sc FA fc V,e = .returned (.tuple #[.pointer (some ⟨g2,0,none⟩),.int .i64 0])∧w.heap.size≤g2∧FilW w' g2 (canonF f) SA sc FA fc V∧Below w.heap.size w w'
set_option maxRecDepth 100000 in
set_option maxHeartbeats 16000000 in
theorem canon_any {w:World}{g:Nat}{f:Fil}{SA:Option Addr}{sc:Nat}{FA:Option Addr}{fc:Nat}{V:List FT}(h:FilW w g f SA sc FA fc V)(hok:OkFile f)(hlin:linesOf f.funs≤16384) :
 Calls Tryz.prog 10 #[.pointer (some ⟨g,0,none⟩)] w fun e w'=>CanonR w f e w':=by
 have hrt:=fright_any h hok hlin;obtain⟨iF,f0,f1,f2,f3⟩:=info_parts infoFnC;obtain⟨iW,e0,e1,e2,e3⟩:=info_parts infoFn;have hVl:V.length=f.funs.length:=by have:=congrArg List.length h.1;simpa using this
 have hV2:V.length≤256:=by have:=hok.n;omega
 have hgood:GoodFs f.sizes f.k f.funs:=hok.fs
 have h2:∀p∈V,∃a b,p.1 = .agg #[a,b]:=fun p hp=>by
  obtain⟨v1,tg,e,_⟩:=h.2.2.2.2 p hp;exact⟨_,_,e⟩
 have hk0:inB 0 f.k=true:=by unfold inB;rw[decide_eq_true_eq];have:=hok.k1;have:=hok.k2;omega
 obtain⟨n,hn⟩:∃n,V.length=n:=⟨_,rfl⟩;have HH:=Hd h;have HOK:=Hd hok;have HGOOD:=Hd hgood;have H2:=Hd h2;have HK0:=Hd hk0;have HN:=Hd hn;have HVL:=Hd hVl;have hLIN:=Hd hlin;rw[hn]at hV2;clear h hok hgood h2 hk0 hn hVl hlin
 go_enter Tryz.func10,Tryz.ntmps10
 go_wp2_with fail;refine hrt.mono ?_;rintro e w1 ⟨rfl,hb1⟩;clear hrt;have HB1:=Hd hb1;obtain⟨-,hgb,-⟩:=HH.out.below hb1;obtain⟨q0,q1,q2,q3,-⟩:=Blk.four (t:=34) hgb;rw[HN.out]at q3;clear hgb hb1;go_wp2_with fail
 go_loopw [5,7,8,9,10,25] (fun lv _ _ _ _ jv wr => ∃ (j:Nat) (P:List GT) (L:Option Addr) (lc:Nat),jv = .int .i64 j∧j≤n∧lv = .slice L P.length lc∧JoinW w f j P L lc wr) (fun _ _ _ _ _ jv _=>n-(intOf jv).toNat)
 case atStart=>exact⟨0,[],none,0,rfl,Nat.zero_le _,rfl,⟨rfl,World.ownsRow_nil _ _ _ _,(fun p hp=>by cases hp),HB1.out⟩⟩
 case round =>
  clear q0 q1 q2 q3;obtain⟨j,P,L,lc,rfl,hj,rfl,hJ⟩:=hrel;by_cases hlt:j<n
  ·have hw:=HH.out.below hJ.below
   obtain⟨hV,hgb,hs,hrow,hfv⟩:=hw;obtain⟨p,hp⟩:∃p,V[j]?=some p:=⟨_,List.getElem?_eq_getElem (by rw[HN.out];exact hlt)⟩;have hpm:=List.mem_of_getElem? hp;have hfp:=hfv p hpm;have hpx:p.2.2.2∈f.funs:=by rw[← hV];exact List.mem_map_of_mem hpm
   have hxj:f.funs[j]?=some p.2.2.2:=by rw[← hV,List.getElem?_map,hp];rfl
   obtain⟨o1,o2,o3⟩:=HGOOD.out _ hpx;obtain⟨a,b,hab⟩:=H2.out p hpm;obtain⟨pv,lo,hi,x⟩:=p;dsimp only at hab hfp hpx hxj o1 o2 o3;subst hab;obtain⟨c0,c1⟩:=fc_at H2.out hp;rw[HN.out]at hrow;obtain⟨fq,rfl,_,_⟩:=own_some hrow (by omega);have d0:=(hrow.cellAt (j*2) (by omega)).trans c0;have d1:=(hrow.cellAt (j*2+1) (by omega)).trans c1;obtain⟨w2,hw2⟩:∃w2,wr.alloc (.cells #[a,b] 37)=w2:=⟨_,rfl⟩;have hB2:Below wr.heap.size wr w2:=by rw[← hw2];exact bone wr _
   have hbx:Blk w2 wr.heap.size 37 #[a,b]:=by rw[← hw2];exact Blk.new _ _ _
   have tg:=turn_good o1 o2 o3;have hz6:Szs x.sizes:=⟨o1.1,o1.2.1⟩;have hpr:prodI x.sizes≤4096:=by have:=great_prod hz6.2;rw[o3]at this;have:=of_decide_eq_false this.symm;omega
   have htu:=turned_any (hfp.off (S:=fun _=>False) (Tch.of_below hB2 _) fun _ h=>h.elim) f.sizes (ok_val o1) o2.2.1 (fit_sz o2) hpr tg.prod o1.2.2.2.2.2.2.1 HK0.out (fun t _=>get_inB o1 t);have i0:(0:Int)≤(j:Int):=Int.natCast_nonneg _;have i1:(j:Int)<(n:Int):=by omega
   obtain⟨x0,x1⟩:=hbx.two;obtain⟨m,hm⟩:∃m,x.scope.length=m:=⟨_,rfl⟩;have hm6:m≤6:=by rw[← hm];exact o1.2.2.2.2.2.2.2
   rw[hm]at htu;have hfp0:=hfp;obtain⟨v1,tgq,e1,⟨⟨C1,k1,e2⟩,_⟩,_⟩:=hfp0;injection e1 with e1
   obtain⟨rfl,rfl⟩:a=v1∧b = .pointer (some ⟨tgq,0,none⟩):=by simpa using e1
   subst e2;rw[hm]at htu d0 x0
   try rw[hm]at hw2
   have HJ:=Hd hJ;have HXJ:=Hd hxj;have HB2:=Hd hB2;have HTG:=Hd tg;have HM:=Hd hm;clear hV hgb hs hrow hfv hp hpm hpx hfp c0 c1 hJ hxj hB2 hbx tg o1 o2 o3 hz6 hpr hm e1
   try rw[HM.out]
   go_wp2_with fail
   try rw[hw2]
   clear hw2;go_wp2_with fail;refine htu.mono ?_;rintro e w3 ⟨A,c,g3,rfl,ho3,ht3,hB3⟩;clear htu d0 d1 x0 x1;obtain⟨w4,hw4⟩:∃w4,(w3.alloc (.cells #[.slice none 0 0] 31)).setCell ⟨w3.heap.size,0,none⟩ (.slice A m c)=w4:=⟨_,rfl⟩;have hB4:Below w3.heap.size w3 w4:=by rw[← hw4];exact (bone w3 _).setCell (p:=⟨w3.heap.size,0,none⟩) (Nat.le_refl _) _
   have hbs:Blk w4 w3.heap.size 31 #[.slice A m c]:=by rw[← hw4];exact (Blk.new _ _ _).set_ 0 _
   have hBr4:Below wr.heap.size wr w4:=bto (bto HB2.out hB3) hB4;have ho4:=own_under ho3 hB4;have ht4:=ht3.under hB4;have hix:=indexC_any (own_under HJ.out.row hBr4) (fun p hp=>⟨(HJ.out.fs p hp).under hBr4,by have:=(good_sc (HJ.out.good HGOOD.out p hp)).2;omega⟩) (by have:=HJ.out.len;have:=HVL.out;have:=HN.out;omega) w3.heap.size m c A (rise x.scope) hbs (Reads.of_own ho4) (by omega);obtain⟨s0,s0f⟩:=hbs.one;have HBR4:=Hd hBr4;have HBS:=Hd hbs;have HO4:=Hd ho4;have HT4:=Hd ht4;have HS2:=Hd (show w.heap.size≤w2.heap.size from (bto HJ.out.below HB2.out).size);clear hB3 hB4 hbs hBr4 ho3 ht3 ho4 ht4;go_wp2_with fail
   try rw[hw4]
   clear hw4;go_wp2_with fail;refine hix.mono ?_;rintro e w5 ⟨hF,hB5⟩;clear hix s0 s0f;obtain⟨s0,s0f⟩:=(HBS.out.under hB5).one;have HB5:=Hd (bto HBR4.out hB5);have HB45:=Hd hB5;clear hB5;have hP256:P.length≤256:=by have:=HJ.out.len;have:=HVL.out;have:=HN.out;omega
   rcases hF with⟨rfl,hnew⟩ | ⟨i,p,rfl,hp,hps,hfirst⟩
   ·have HNEW:=Hd hnew
    obtain⟨w6,hw6⟩:∃w6,w5.alloc (.cells #[.slice A m c,.pointer (some ⟨g3,0,none⟩)] 88)=w6:=⟨_,rfl⟩;have hB6:Below w5.heap.size w5 w6:=by rw[← hw6];exact bone w5 _
    have hr6:Reads w6 w6.heap.size 2 (some ⟨w5.heap.size,0,none⟩) 1 [.slice A m c,.pointer (some ⟨g3,0,none⟩)]:=reads_two (by rw[← hw6];exact heap_alloc_new _ _);have HB6:=Hd (bto HB5.out hB6);have HB56:=Hd hB6;have ho6:=own_under HJ.out.row HB6.out;have hs6:w.heap.size≤w6.heap.size:=(bto HJ.out.below HB6.out).size;have hone:∀u ∈ [Value.slice A m c,.pointer (some ⟨g3,0,none⟩)],u.oneCell'=true:=by simp[Value.oneCell']
    clear hnew hB6
    go_wp2_with (first
     |(at_builtin;go_loud (refine wpList_append_any _ rfl (.tmp 39) (.tmp 43) _ rfl w.heap.size 88 iF _ 2 32 Tryz.underlying83 f0 f1 f2 f3 rfl (by omega) (.slice L P.length lc) P.length _ rfl ho6 w6.heap.size (some ⟨w5.heap.size,0,none⟩) 1 1 [.slice A m c,.pointer (some ⟨g3,0,none⟩)] rfl hr6 hone (by simp only[maxLen];omega) (by omega) hs6 ?_;intro v7 w7 hown7 hg7 hat7;clear hat7;obtain⟨A7,c7,rfl⟩:=own_shape hown7;have HO7:=Hd hown7;have HG7:=Hd hg7;clear hown7 hg7 ho6 hr6 hone))
     |fail)
    go_roundw
    case measure=>simp[intOf];omega
    case rel =>
     have hm:=HM.out;subst hm
     have hgv:GV w6 w.heap.size f.k (.agg #[.slice A x.scope.length c,.pointer (some ⟨g3,0,none⟩)],turnF f.sizes f.k x):=by
      refine⟨A,c,g3,?_,?_,?_⟩
      ·show _=Value.agg #[.slice A (rise x.scope).length c,_];rw[rise_len]
      ·show World.ownsRow _ _ _ _ (.slice A (rise x.scope).length c) (rise x.scope).length _;rw[rise_len];exact own_base (own_under (own_under HO4.out HB45.out) HB56.out) HS2.out
      ·exact ((HT4.out.under HB45.out).under HB56.out).mono (fun q h=>Nat.le_trans HS2.out h) fun q h=>Nat.le_trans HS2.out h
     have hb7:Below w.heap.size w w7:=(bto HJ.out.below HB6.out).grown HG7.out hs6 fun k hk=>(own_in HJ.out.row hk).1
     exact⟨j+1,_,A7,c7,by go_num,hlt,by simp,HJ.out.push HXJ.out HB6.out hb7 HG7.out HNEW.out hgv HO7.out⟩
   ·obtain⟨q,rfl,hq0,hql⟩:=own_some HJ.out.row (by have:=(List.getElem?_eq_some_iff.1 hp).1;omega)
    have h2P:∀p∈P,∃a b,p.1 = .agg #[a,b]:=fun p hp=>(HJ.out.fs p hp).two
    have hpm:=List.mem_of_getElem? hp;have hgp:=HJ.out.good HGOOD.out p hpm;obtain⟨Ap,cp,gp,ep,rp,tp⟩:=(HJ.out.fs p hpm).under (bto HBR4.out HB45.out);obtain⟨pv,pf⟩:=p;dsimp only at ep rp tp hps hgp;subst ep;obtain⟨c0,c1⟩:=gc_at h2P hp;have hil:=(List.getElem?_eq_some_iff.1 hp).1;have hrow5:=own_under HJ.out.row HB5.out;have d1:=(hrow5.cellAt (i*2+1) (by omega)).trans c1;have df:=hrow5.frozenAt (i*2+1);obtain⟨fa,ea,hfa⟩:=hgp.tab;obtain⟨fb,eb,hfb⟩:=HTG.out.tab;have hss:szOf f.sizes (rise x.scope)=pf.sizes:=by rw[hgp.sizes,hps]
    have eb':(turnF f.sizes f.k x).C=tabF pf.sizes fb:=by rw[eb];show tabF (szOf f.sizes (rise x.scope)) fb=_;rw[hss]
    have hpl:pf.scope.length=m:=by rw[hps,rise_len];exact HM.out
    have hjn:=fun W (hW:Below w5.heap.size w5 W)=>join_any (ha:=by have:=tp.under hW;rwa [ea]at this) (hb:=by have:=(HT4.out.under HB45.out).under hW;rwa [hss,eb']at this) hgp.szs hgp.prod HK0.out hfa (fun t ht=>hfb t (by show InS (szOf f.sizes (rise x.scope)) t;rw[hss];exact ht)) A A m c c (rise x.scope) (Reads.of_own (own_under (own_under HO4.out HB45.out) hW)) (Reads.of_own (own_under (own_under HO4.out HB45.out) hW)) (by rw[← hps];exact good_rise hgp HOK.out.s2) (by rw[← hps];exact (good_sc hgp).1)
    have HJN:=Hd hjn;have HP:=Hd hp;have HPS:=Hd hps;have HFI:=Hd hfirst;have HEA:=Hd (And.intro ea eb');have i0':(0:Int)≤(i:Int):=Int.natCast_nonneg _;have i1':(i:Int)<(P.length:Int):=by omega
    have hnn:¬ ((i:Int)<0):=by omega
    have hnd:decide ((i:Int)<0)=false:=decide_eq_false hnn;have HQW:Hid (q≠w3.heap.size):=by have z:=hql;have z2:=HBS.out.lt;have z3:=HB2.out.size;intro e;subst e;exact Blk.ne_ (HBS.out.under HB45.out) (show Blk w5 _ 88 _ from (own_is hrow5 (q:=w3.heap.size) rfl).choose_spec) (by decide) rfl
    have HS25:Hid (w.heap.size≤w5.heap.size):=by have:=(bto HJ.out.below HB5.out).size;exact this
    have HROW5:=Hd hrow5;have HQ0:=Hd hq0;clear hp hps hfirst hpm hgp rp tp c0 c1 h2P hrow5 ea hfa eb hfb eb' hjn hq0;go_upto_region 12 with fail;have hbd5:Below w5.heap.size w5 w5.drew:=(Below.refl _ _).drew;have hjn:=HJN.out _ hbd5;have s0d:w5.drew.cell? ⟨w3.heap.size,0,none⟩=some (.slice A m c):=s0;have d1d:w5.drew.cell? ⟨q,i*2+1,none⟩=some (.pointer (some ⟨gp,0,none⟩)):=d1;refine wp_region_held_drew (S:=(fun W=>W.cell? ⟨w3.heap.size,0,none⟩=some (.slice A m c))) (by kernel_rfl) s0d (fun hHeld=>?_);refine takes [0,1,2,3,4,5,7,8,9] hHeld (by kernel_rfl) (fun _ _ _ _ _ h=>h) ?_
    iterate 9
     conv=>whnf
     refine⟨?_,.inl ⟨by kernel_rfl,fun w hSw=>?_⟩,?_⟩
     rotate_left
     ·(try dsimp only at hSw);go_simp;try with_reducible rfl
     try simp only[Act.put,ya,yb,yc]
    refine Yt.nil ?_;refine wpAnyH_ready (rs := [6]) (by kernel_rfl) (by simp) ?_;refine AllReadyH.cons rfl (fun K hK=>?_) AllReadyH.nil;go_simp;refine hK.out _ _ hHeld (fun hHeld6=>?_);clear hK K hHeld;refine wpAnyH_ready (rs := [10]) (by kernel_rfl) (by simp) ?_;refine AllReadyH.cons rfl (fun K hK=>?_) AllReadyH.nil;go_simp;refine hjn.mono ?_;rintro e w8 ⟨g8,A8,c8,rfl,ht8,hb8⟩;dsimp only;have HB8:=Hd (bto hbd5 hb8);have HT8:=Hd ht8;have s8:=((HBS.out.under HB45.out).under HB8.out).one.1;have hrow8:=own_under HROW5.out HB8.out;have d8:w8.cell? ⟨q,i*2+1,none⟩=some (.pointer (some ⟨gp,0,none⟩)):=(HB8.out.cell (p:=⟨q,i*2+1,none⟩) (own_in HROW5.out rfl).2).trans d1;have f8:=hrow8.frozenAt (i*2+1);refine hK.out _ _ s8 (fun hHeld8=>?_);clear hK K hHeld6 hjn ht8 hb8;refine takes [11,12,13,14,15,16] hHeld8 (by kernel_rfl) (fun _ _ _ _ _ h=>h) ?_
    iterate 6
     conv=>whnf
     refine⟨?_,.inl ⟨by kernel_rfl,fun w hSw=>?_⟩,?_⟩
     rotate_left
     ·(try dsimp only at hSw);go_simp;try with_reducible rfl
     try simp only[Act.put,ya,yb,yc]
    refine Yt.nil ?_;refine wpAnyH_ready (rs := [17]) (by kernel_rfl) (by simp) ?_;refine AllReadyH.cons rfl (fun K hK=>?_) AllReadyH.nil;go_simp;refine hK.out _ _ ?_ (fun hHeld9=>?_)
    ·rw[World.cell?_setCell_far _ _ _ _ HQW.out];exact s8
    clear hK K;refine wpAnyH_done (by kernel_rfl) ?_ _;go_simp;go_wp2_with fail;go_roundw
    case measure=>simp[intOf];omega
    case rel =>
     have ht8':=HT8.out;rw[← sum_tab,← HEA.out.1,← HEA.out.2]at ht8';have h5:=HB5.out.trans (HB8.out.mono HB5.out.size);exact⟨j+1,_,some ⟨q,0,none⟩,lc,by go_num,hlt,by rw[List.length_set],HJ.out.join HXJ.out h5 HP.out rfl HPS.out HFI.out HQ0.out (ht8'.mono (fun k h=>Nat.le_trans HS25.out h) fun k h=>Nat.le_trans HS25.out h)⟩
  ·obtain rfl:n=j:=by omega
   have htk:f.funs.take n=f.funs:=List.take_of_length_le (by have:=HVL.out;have:=HN.out;omega);have hP256:P.length≤256:=by have:=hJ.len;have:=HVL.out;have:=HN.out;omega
   have hmap:=hJ.map;rw[htk]at hmap;have hgd:=hJ.good HGOOD.out;have hdl:=deleteN_any hJ.row (fun p hp=>⟨hJ.fs p hp,good_C (hgd p hp)⟩) hP256;have HJ:=Hd hJ;have HMAP:=Hd hmap;have HGD:=Hd hgd;clear hJ hmap hgd htk;go_wp2_with fail;refine hdl.mono ?_;rintro e w2 ⟨rfl,ho2,hT2⟩;clear hdl
   have hkp:∀p∈keepN P,p∈P∧isNothing p.2=false:=fun p hp=>by
    have:=List.mem_filter.1 hp;exact⟨this.1,by simpa using this.2⟩
   have hkl:(keepN P).length≤256:=Nat.le_trans (List.length_filter_le _ _) hP256
   have hno2:NoFn wr (OnlyOwn (.slice L P.length lc)):=fun q e=>by
    obtain⟨cs,hc⟩:=own_is HJ.out.row e;exact⟨_,cs,hc,by decide,by decide,by decide⟩
   have hb2:Below w.heap.size w w2:=HJ.out.below.trans (hT2.below HJ.out.below.size fun q hq e=>by have:=(own_in HJ.out.row e).1;omega);have hfs2:∀p∈keepN P,GV w2 w.heap.size f.k p:=fun p hp=>(HJ.out.fs p (hkp p hp).1).off hT2 hno2
   have hkm:(keepN P).map (·.2)=(joined f.sizes f.k f.funs).filter fun g => !isNothing g:=by
    rw[← HMAP.out];unfold keepN;rw[List.filter_map];rfl
   have hon:OnceC ((keepN P).map (·.2)):=by rw[hkm];exact (joined_once _ _ _).filter _
   have hso:=sortC_any ho2 (fun p hp=>⟨hfs2 p hp,by have:=(good_sc (HGD.out p (hkp p hp).1)).2;omega⟩) hkl hon;have HO2:=Hd ho2;have HB2:=Hd hb2;have HFS2:=Hd hfs2;have HKM:=Hd hkm;have HKP:=Hd hkp;clear ho2 hT2 hno2 hb2 hfs2 hkm hon hkp;go_wp2_with fail;refine hso.mono ?_;rintro e w3 ⟨rfl,Q,hQl,hQs,hQm,ho3,hT3⟩;clear hso
   have hno3:NoFn w2 (OnlyOwn (.slice L (keepN P).length lc)):=fun q e=>by
    obtain⟨cs,hc⟩:=own_is HO2.out e;exact⟨_,cs,hc,by decide,by decide,by decide⟩
   have hfs3:∀p∈Q,GV w3 w.heap.size f.k p∧GoodC f.sizes f.k p.2:=fun p hp=>⟨(HFS2.out p (hQs p hp)).off hT3 hno3,HGD.out p (HKP.out p (hQs p hp)).1⟩
   have hb3:Below w.heap.size w w3:=HB2.out.trans (hT3.below HB2.out.size fun q hq e=>by have:=(own_in HO2.out e).1;omega);have hQm':Q.map (·.2)=canonL f.sizes f.k f.funs:=by rw[hQm,HKM.out];rfl
   obtain⟨nq,hnq⟩:∃nq,(keepN P).length=nq:=⟨_,rfl⟩;rw[hnq]at ho3 hQl hkl ⊢;have HO3:=Hd ho3;have HFS3:=Hd hfs3;have HB3:=Hd hb3;have HQM:=Hd hQm';have HQL:=Hd hQl;clear ho3 hT3 hno3 hfs3 hb3 hQm' hQm hQs hQl hnq;have hfw:=HH.out.below (HB3.out.drew);obtain⟨q0,q1,q2,q3,-⟩:=Blk.four (t:=34) hfw.2.1;have hcl:=clone_any SA f.sizes.length sc f.sizes w3.drew (by have:=HOK.out.s2;omega) (Reads.of_own hfw.2.2.1);obtain⟨w3d,hw3d⟩:∃w3d,w3.drew=w3d:=⟨_,rfl⟩;have hb33:Below w3.heap.size w3 w3d:=by rw[← hw3d];exact (Below.refl _ _).drew
   have hd:=HB3.out.drew;clear hfw;rw[hw3d]at q0 q1 q2 q3 hcl hd;have HD:=Hd hd;have HB33:=Hd hb33;clear hd hb33;go_upto_region 17 with fail;refine wp_region_held_drew (S:=(fun W=>W.cell? ⟨g,0,none⟩=some (strV f.name)∧W.cell? ⟨g,1,none⟩=some (.int .i64 f.k)∧W.cell? ⟨g,2,none⟩=some (.slice SA f.sizes.length sc))) (by kernel_rfl) (by rw[hw3d];exact⟨q0,q1,q2⟩) (fun hHeld=>?_);rw[hw3d]at hHeld ⊢;clear hw3d;refine takes [0,1,2,3,4,5,6,7,8,9,10,11] hHeld (by kernel_rfl) (fun _ _ _ _ _ h=>h) ?_
   iterate 12
    conv=>whnf
    refine⟨?_,.inl ⟨by kernel_rfl,fun w hSw=>?_⟩,?_⟩
    rotate_left
    ·(try dsimp only at hSw);go_simp;try with_reducible rfl
    try simp only[Act.put,ya,yb,yc]
   refine Yt.nil ?_;refine wpAnyH_ready (rs := [12]) (by kernel_rfl) (by simp) ?_;refine AllReadyH.cons rfl (fun K hK=>?_) AllReadyH.nil;go_simp;refine hcl.mono ?_;rintro e w4 ⟨A4,c4,rfl,ho4,hb4⟩;dsimp only;have HB34:=Hd (bto HB33.out hb4);have HD4:=Hd (bto HD.out hb4);obtain⟨q0,q1,q2,q3,-⟩:=Blk.four (t:=34) (HH.out.below HD4.out).2.1;refine hK.out _ _ ⟨q0,q1,q2⟩ (fun hHeld4=>?_);clear hK K hHeld hcl hb4;refine takes [13] hHeld4 (by kernel_rfl) (fun _ _ _ _ _ h=>h) ?_
   iterate 1
    conv=>whnf
    refine⟨?_,.inl ⟨by kernel_rfl,fun w hSw=>?_⟩,?_⟩
    rotate_left
    ·(try dsimp only at hSw);go_simp;try with_reducible rfl
    try simp only[Act.put,ya,yb,yc]
   refine Yt.nil ?_;refine wpAnyH_ready (rs := [14]) (by kernel_rfl) (by simp) ?_;refine AllReadyH.cons rfl (fun K hK=>?_) AllReadyH.nil;go_simp;obtain⟨w5,hw5⟩:∃w5,w4.alloc (.cells #[strV f.name,.int .i64 f.k,.slice A4 f.sizes.length c4,.slice none 0 0] 34)=w5:=⟨_,rfl⟩;have hB5:Below w4.heap.size w4 w5:=by rw[← hw5];exact bone w4 _
   have hbg:Blk w5 w4.heap.size 34 #[strV f.name,.int .i64 f.k,.slice A4 f.sizes.length c4,.slice none 0 0]:=by rw[← hw5];exact Blk.new _ _ _
   have hg5:w5.heap.size=w4.heap.size+1:=by rw[← hw5];simp
   rw[hw5];obtain⟨g2,hg2⟩:∃g2,w4.heap.size=g2:=⟨_,rfl⟩;have hB5':=hB5;rw[hg2]at hbg hg5 ⊢;have HD5:=Hd (bto HD4.out hB5);have HB35:=Hd (bto HB34.out hB5);obtain⟨q0,q1,q2,q3,-⟩:=Blk.four (t:=34) (HH.out.below HD5.out).2.1;refine hK.out _ _ ⟨q0,q1,q2⟩ (fun hHeld5=>?_);have HO4N:Hid (∀q,(Value.slice A4 f.sizes.length c4).ownBlock=some q→q<g2):=fun q hq=>by have:=(own_in ho4 hq).2;omega
   have HO4:=Hd (own_under ho4 hB5);have HBG:=Hd hbg;have HG5:=Hd hg5;have HGZ:Hid (w3.heap.size≤g2∧w.heap.size≤g2):=⟨by rw[← hg2];exact HB34.out.size,by rw[← hg2];exact HD4.out.size⟩;clear hK K hHeld4 hB5 hB5' hbg hg5 hw5 hg2 ho4;refine takes [15] hHeld5 (by kernel_rfl) (fun _ _ _ _ _ h=>h) ?_
   iterate 1
    conv=>whnf
    refine⟨?_,.inl ⟨by kernel_rfl,fun w hSw=>?_⟩,?_⟩
    rotate_left
    ·(try dsimp only at hSw);go_simp;try with_reducible rfl
    try simp only[Act.put,ya,yb,yc]
   refine Yt.nil ?_;refine wpAnyH_done (by kernel_rfl) ?_ _;go_simp;clear hHeld5 q0 q1 q2 q3;go_wp2_with fail
   go_loopw [14,85] (fun _ jv wr => ∃ (j:Nat) (V2:List FT) (F2:Option Addr) (f2c:Nat),jv = .int .i64 j∧j≤nq∧V2.length=j∧OutW w5 g2 f A4 c4 (canonL f.sizes f.k f.funs) j V2 F2 f2c wr) (fun _ jv _=>nq-(intOf jv).toNat)
   case atStart=>exact⟨0,[],none,0,rfl,Nat.zero_le _,rfl,⟨rfl,HBG.out,World.ownsRow_nil _ _ _ _,(fun p hp=>by cases hp),Tch.refl _ _⟩⟩
   case round =>
    obtain⟨j,V2,F2,f2c,rfl,hj,hV2j,hO⟩:=hrel;have hno5:NoFn w5 (fun q=>q=g2):=fun q e=>by subst e;exact⟨_,_,HBG.out,by decide,by decide,by decide⟩
    by_cases hlt:j<nq
    ·obtain⟨p,hp⟩:∃p,Q[j]?=some p:=⟨_,List.getElem?_eq_getElem (by rw[HQL.out];exact hlt)⟩
     have hpm:=List.mem_of_getElem? hp;have hcj:(canonL f.sizes f.k f.funs)[j]?=some p.2:=by rw[← HQM.out,List.getElem?_map,hp];rfl
     obtain⟨hgv3,hgc⟩:=HFS3.out p hpm;have hgv:=(hgv3.under HB35.out).off hO.tch hno5;have h2Q:∀p∈Q,∃a b,p.1 = .agg #[a,b]:=fun p hp=>(HFS3.out p hp).1.two
     have hrow:=hO.tch.own (own_under HO3.out HB35.out) fun q hq e=>by have z:=(own_in HO3.out hq).2;have:=HGZ.out;omega
     obtain⟨lq,rfl,-,-⟩:=own_some hrow (by omega);obtain⟨Ay,cy,gy,ey,ry,ty⟩:=hgv;obtain⟨pv,y⟩:=p;dsimp only at ey ry ty hcj hgc;subst ey;obtain⟨c0,c1⟩:=gc_at h2Q hp;have d0:=(hrow.cellAt (j*2) (by omega)).trans c0;have d1:=(hrow.cellAt (j*2+1) (by omega)).trans c1;obtain⟨w6,hw6⟩:∃w6,wr.alloc (.cells #[.slice Ay y.scope.length cy,.pointer (some ⟨gy,0,none⟩)] 88)=w6:=⟨_,rfl⟩;have hB6:Below wr.heap.size wr w6:=by rw[← hw6];exact bone wr _
     have hbx:Blk w6 wr.heap.size 88 #[.slice Ay y.scope.length cy,.pointer (some ⟨gy,0,none⟩)]:=by rw[← hw6];exact Blk.new _ _ _
     have i0:(0:Int)≤(j:Int):=Int.natCast_nonneg _;have i1:(j:Int)<(nq:Int):=by omega
     have hgl:g2<wr.heap.size:=hO.blk.lt;have HO:=Hd hO;have HCJ:=Hd hcj;have HGC:=Hd hgc;have HRY:=Hd ry;have HTY:=Hd ty;have HB6:=Hd hB6;have HBX:=Hd hbx;have HV2J:=Hd hV2j;have HGL:=Hd hgl;clear hp hpm hgv3 hgc h2Q hrow c0 c1 hcj hO ry ty hB6 hbx hno5 hgl hV2j;have hw6b:=HB6.out;obtain⟨w6d,hw6d⟩:∃w6d,w6.drew=w6d:=⟨_,rfl⟩;have hb6d:Below wr.heap.size wr w6d:=by rw[← hw6d];exact hw6b.drew
     have hbxd:Blk w6d wr.heap.size 88 #[.slice Ay y.scope.length cy,.pointer (some ⟨gy,0,none⟩)]:=by rw[← hw6d];exact HBX.out
     have hSd:w6d.cell? ⟨wr.heap.size,0,none⟩=some (.slice Ay y.scope.length cy)∧w6d.cell? ⟨wr.heap.size,1,none⟩=some (.pointer (some ⟨gy,0,none⟩)):=hbxd.two;have HB6D:=Hd hb6d;have HBXD:=Hd hbxd;have HNG:Hid (g2≠wr.heap.size):=by have:=HGL.out;intro e;omega
     clear hb6d hbxd hw6b;go_upto_region 21 with fail
     try rw[hw6]
     clear hw6;go_upto_region 21 with fail;refine wp_region_held_drew (S:=(fun W=>W.cell? ⟨wr.heap.size,0,none⟩=some (.slice Ay y.scope.length cy)∧W.cell? ⟨wr.heap.size,1,none⟩=some (.pointer (some ⟨gy,0,none⟩)))) (by kernel_rfl) (by rw[hw6d];exact hSd) (fun hHeld=>?_);rw[hw6d]at hHeld ⊢;clear hw6d;refine takes [0,1,2,3,5,6,7,8] hHeld (by kernel_rfl) (fun _ _ _ _ _ h=>h) ?_
     iterate 8
      conv=>whnf
      refine⟨?_,.inl ⟨by kernel_rfl,fun w hSw=>?_⟩,?_⟩
      rotate_left
      ·(try dsimp only at hSw);go_simp;try with_reducible rfl
      try simp only[Act.put,ya,yb,yc]
     refine Yt.nil ?_;refine wpAnyH_ready (rs := [4,9]) (by kernel_rfl) (by simp) ?_;refine AllReadyH.cons rfl (fun Kc hKc=>?_) (AllReadyH.cons rfl (fun Kc hKc=>?_) AllReadyH.nil)
     ·skip
      obtain⟨nq1,nq2,nq3,nq4,-⟩:=Blk.four (t:=34) (HO.out.blk.under HB6D.out);go_simp;refine hKc.out _ _ hHeld (fun hHq5=>?_);clear hKc Kc nq1 nq2 nq3 nq4
      try simp only[Act.put,ya,yb,yc]
      refine wpAnyH_ready (rs := [9]) (by kernel_rfl) (by simp) ?_;refine AllReadyH.cons rfl (fun Kc hKc=>?_) AllReadyH.nil;go_simp;refine (tof_any HGC.out (HTY.out.under HB6D.out)).mono ?_;rintro e wq6 ⟨tgq7,rfl,htwq6,hbwq6⟩;dsimp only;have HBwq6:=Hd (bto HB6D.out hbwq6);have HTwq6:=Hd (htwq6.mono (F':=fun q=>w.heap.size≤q) fun q h=>by have z1:=HGZ.out.2;have z2:=HGL.out;have z3:=(HB6D.out).size;have z4:w6d.heap.size≤q:=h;omega);have HLwq6:=Hd hbwq6;refine hKc.out _ _ (HBXD.out.under HLwq6.out).two (fun hHq8=>?_);clear hKc Kc htwq6 hbwq6;refine takes [10] hHq8 (by kernel_rfl) (fun _ _ _ _ _ h=>h) ?_
      iterate 1
       conv=>whnf
       refine⟨?_,.inl ⟨by kernel_rfl,fun w hSw=>?_⟩,?_⟩
       rotate_left
       ·(try dsimp only at hSw);go_simp;try with_reducible rfl
       try simp only[Act.put,ya,yb,yc]
      refine Yt.nil ?_;refine wpAnyH_ready (rs := [11]) (by kernel_rfl) (by simp) ?_;refine AllReadyH.cons rfl (fun Kc hKc=>?_) AllReadyH.nil;go_simp;obtain⟨wq10,hwq10⟩:∃x,wq6.alloc (.cells #[.slice Ay y.scope.length cy,.pointer (some ⟨tgq7,0,none⟩)] 37)=x:=⟨_,rfl⟩;have hbwq10:Below wq6.heap.size wq6 wq10:=by rw[← hwq10];exact bone _ _
      have hrwq10:Reads wq10 wq10.heap.size 2 (some ⟨wq6.heap.size,0,none⟩) 1 [.slice Ay y.scope.length cy,.pointer (some ⟨tgq7,0,none⟩)]:=reads_two (by rw[← hwq10];exact heap_alloc_new _ _);rw[hwq10];have HBwq10:=Hd (bto HBwq6.out hbwq10);have HTwq10:=Hd (HTwq6.out.under hbwq10);have HRwq10:=Hd hrwq10;have HLwq10:=Hd hbwq10;refine hKc.out _ _ ((HBXD.out.under HLwq6.out).under HLwq10.out).two (fun hHq11=>?_);clear hKc Kc hbwq10 hrwq10 hwq10
      try simp only[Act.put,ya,yb,yc]
      refine wpAnyH_ready (rs := [12]) (by kernel_rfl) (by simp) ?_;refine AllReadyH.cons rfl (fun Kc hKc=>?_) AllReadyH.nil;have hawq12:=own_under HO.out.row HBwq10.out;have hzwq12:g2+1≤wq10.heap.size:=by have z1:=(HBwq10.out).size;have z2:=HGL.out;omega
      have honewq12:∀u ∈ [Value.slice Ay y.scope.length cy,.pointer (some ⟨tgq7,0,none⟩)],u.oneCell'=true:=by simp[Value.oneCell']
      have hvlwq12:V2.length≤256:=by have:=HV2J.out;omega
      refine step_append_any _ rfl (.tmp 93) (.tmp 100) 32 rfl (g2+1) 37 iW _ 2 32 Tryz.underlying32 e0 e1 e2 e3 rfl (by omega) (.slice F2 V2.length f2c) V2.length _ rfl hawq12 wq10.heap.size (some ⟨wq6.heap.size,0,none⟩) 1 1 [.slice Ay y.scope.length cy,.pointer (some ⟨tgq7,0,none⟩)] rfl HRwq10.out honewq12 (by simp only[maxLen];omega) (by omega) hzwq12 ?_;intro vq13 wq12 howq12 hgwq12 hatwq12;clear hatwq12;obtain⟨Aq14,cq15,rfl⟩:=own_shape howq12;have hgwwq12:=(HO.out.blk.under HBwq10.out).grown hgwq12 (fun e=>by obtain⟨cs,hb⟩:=own_is hawq12 e.symm;exact Blk.ne_ (HO.out.blk.under HBwq10.out) hb (by decide) rfl);have hbwwq12:=((HBXD.out.under HLwq6.out).under HLwq10.out).grown hgwq12 (fun e=>by obtain⟨cs,hb⟩:=own_is hawq12 e.symm;exact Blk.ne_ ((HBXD.out.under HLwq6.out).under HLwq10.out) hb (by decide) rfl);have HGGwq12:=Hd hgwq12;have HOOwq12:=Hd howq12;obtain⟨xwq12,ywq12⟩:=hbwwq12.two;have mwq12:=(Blk.four (t:=34) hgwwq12).2.2.2.1;have fwq12:=hgwwq12.frozen 3;refine hKc.out _ _ ⟨xwq12,ywq12⟩ (fun hHq16=>?_);clear hKc Kc hawq12 hzwq12 honewq12 hgwq12 howq12 hgwwq12 hbwwq12;refine takes [13,14] hHq16 (by kernel_rfl) (fun _ _ _ _ _ h=>h) ?_
      iterate 2
       conv=>whnf
       refine⟨?_,.inl ⟨by kernel_rfl,fun w hSw=>?_⟩,?_⟩
       rotate_left
       ·(try dsimp only at hSw);go_simp;try with_reducible rfl
       try simp only[Act.put,ya,yb,yc]
      refine Yt.nil ?_;refine wpAnyH_ready (rs := [15]) (by kernel_rfl) (by simp) ?_;refine AllReadyH.cons rfl (fun Kc hKc=>?_) AllReadyH.nil;go_simp;refine hKc.out _ _ ⟨?_,?_⟩ (fun hHq17=>?_)
      ·rw[World.cell?_setCell_far _ _ _ _ HNG.out];exact xwq12
      ·rw[World.cell?_setCell_far _ _ _ _ HNG.out];exact ywq12
      clear hKc Kc;refine wpAnyH_done (by kernel_rfl) ?_ _;go_simp
      try go_wp2_with fail
      go_roundw
      case measure=>simp[intOf];omega
      case rel=>exact⟨j+1,_,Aq14,cq15,by go_num,by omega,by rw[List.length_append,HV2J.out];rfl,HO.out.push HCJ.out HG5.out HBwq10.out (funv_made (own_under HRY.out HBwq10.out) HTwq10.out) HGGwq12.out HOOwq12.out⟩
     ·skip
      go_simp;refine (tof_any HGC.out (HTY.out.under HB6D.out)).mono ?_;rintro e wq19 ⟨tgq20,rfl,htwq19,hbwq19⟩;dsimp only;have HBwq19:=Hd (bto HB6D.out hbwq19);have HTwq19:=Hd (htwq19.mono (F':=fun q=>w.heap.size≤q) fun q h=>by have z1:=HGZ.out.2;have z2:=HGL.out;have z3:=(HB6D.out).size;have z4:w6d.heap.size≤q:=h;omega);have HLwq19:=Hd hbwq19;refine hKc.out _ _ (HBXD.out.under HLwq19.out).two (fun hHq21=>?_);clear hKc Kc htwq19 hbwq19;refine takes [10] hHq21 (by kernel_rfl) (fun _ _ _ _ _ h=>h) ?_
      iterate 1
       conv=>whnf
       refine⟨?_,.inl ⟨by kernel_rfl,fun w hSw=>?_⟩,?_⟩
       rotate_left
       ·(try dsimp only at hSw);go_simp;try with_reducible rfl
       try simp only[Act.put,ya,yb,yc]
      refine Yt.nil ?_;refine wpAnyH_ready (rs := [4,11]) (by kernel_rfl) (by simp) ?_;refine AllReadyH.cons rfl (fun Kc hKc=>?_) (AllReadyH.cons rfl (fun Kc hKc=>?_) AllReadyH.nil)
      ·skip
       obtain⟨nq23,nq24,nq25,nq26,-⟩:=Blk.four (t:=34) (HO.out.blk.under HBwq19.out);go_simp;refine hKc.out _ _ hHq21 (fun hHq27=>?_);clear hKc Kc nq23 nq24 nq25 nq26
       try simp only[Act.put,ya,yb,yc]
       refine wpAnyH_ready (rs := [11]) (by kernel_rfl) (by simp) ?_;refine AllReadyH.cons rfl (fun Kc hKc=>?_) AllReadyH.nil;go_simp;obtain⟨wq28,hwq28⟩:∃x,wq19.alloc (.cells #[.slice Ay y.scope.length cy,.pointer (some ⟨tgq20,0,none⟩)] 37)=x:=⟨_,rfl⟩;have hbwq28:Below wq19.heap.size wq19 wq28:=by rw[← hwq28];exact bone _ _
       have hrwq28:Reads wq28 wq28.heap.size 2 (some ⟨wq19.heap.size,0,none⟩) 1 [.slice Ay y.scope.length cy,.pointer (some ⟨tgq20,0,none⟩)]:=reads_two (by rw[← hwq28];exact heap_alloc_new _ _);rw[hwq28];have HBwq28:=Hd (bto HBwq19.out hbwq28);have HTwq28:=Hd (HTwq19.out.under hbwq28);have HRwq28:=Hd hrwq28;have HLwq28:=Hd hbwq28;refine hKc.out _ _ ((HBXD.out.under HLwq19.out).under HLwq28.out).two (fun hHq29=>?_);clear hKc Kc hbwq28 hrwq28 hwq28
       try simp only[Act.put,ya,yb,yc]
       refine wpAnyH_ready (rs := [12]) (by kernel_rfl) (by simp) ?_;refine AllReadyH.cons rfl (fun Kc hKc=>?_) AllReadyH.nil;have hawq30:=own_under HO.out.row HBwq28.out;have hzwq30:g2+1≤wq28.heap.size:=by have z1:=(HBwq28.out).size;have z2:=HGL.out;omega
       have honewq30:∀u ∈ [Value.slice Ay y.scope.length cy,.pointer (some ⟨tgq20,0,none⟩)],u.oneCell'=true:=by simp[Value.oneCell']
       have hvlwq30:V2.length≤256:=by have:=HV2J.out;omega
       refine step_append_any _ rfl (.tmp 93) (.tmp 100) 32 rfl (g2+1) 37 iW _ 2 32 Tryz.underlying32 e0 e1 e2 e3 rfl (by omega) (.slice F2 V2.length f2c) V2.length _ rfl hawq30 wq28.heap.size (some ⟨wq19.heap.size,0,none⟩) 1 1 [.slice Ay y.scope.length cy,.pointer (some ⟨tgq20,0,none⟩)] rfl HRwq28.out honewq30 (by simp only[maxLen];omega) (by omega) hzwq30 ?_;intro vq31 wq30 howq30 hgwq30 hatwq30;clear hatwq30;obtain⟨Aq32,cq33,rfl⟩:=own_shape howq30;have hgwwq30:=(HO.out.blk.under HBwq28.out).grown hgwq30 (fun e=>by obtain⟨cs,hb⟩:=own_is hawq30 e.symm;exact Blk.ne_ (HO.out.blk.under HBwq28.out) hb (by decide) rfl);have hbwwq30:=((HBXD.out.under HLwq19.out).under HLwq28.out).grown hgwq30 (fun e=>by obtain⟨cs,hb⟩:=own_is hawq30 e.symm;exact Blk.ne_ ((HBXD.out.under HLwq19.out).under HLwq28.out) hb (by decide) rfl);have HGGwq30:=Hd hgwq30;have HOOwq30:=Hd howq30;obtain⟨xwq30,ywq30⟩:=hbwwq30.two;have mwq30:=(Blk.four (t:=34) hgwwq30).2.2.2.1;have fwq30:=hgwwq30.frozen 3;refine hKc.out _ _ ⟨xwq30,ywq30⟩ (fun hHq34=>?_);clear hKc Kc hawq30 hzwq30 honewq30 hgwq30 howq30 hgwwq30 hbwwq30;refine takes [13,14] hHq34 (by kernel_rfl) (fun _ _ _ _ _ h=>h) ?_
       iterate 2
        conv=>whnf
        refine⟨?_,.inl ⟨by kernel_rfl,fun w hSw=>?_⟩,?_⟩
        rotate_left
        ·(try dsimp only at hSw);go_simp;try with_reducible rfl
        try simp only[Act.put,ya,yb,yc]
       refine Yt.nil ?_;refine wpAnyH_ready (rs := [15]) (by kernel_rfl) (by simp) ?_;refine AllReadyH.cons rfl (fun Kc hKc=>?_) AllReadyH.nil;go_simp;refine hKc.out _ _ ⟨?_,?_⟩ (fun hHq35=>?_)
       ·rw[World.cell?_setCell_far _ _ _ _ HNG.out];exact xwq30
       ·rw[World.cell?_setCell_far _ _ _ _ HNG.out];exact ywq30
       clear hKc Kc;refine wpAnyH_done (by kernel_rfl) ?_ _;go_simp
       try go_wp2_with fail
       go_roundw
       case measure=>simp[intOf];omega
       case rel=>exact⟨j+1,_,Aq32,cq33,by go_num,by omega,by rw[List.length_append,HV2J.out];rfl,HO.out.push HCJ.out HG5.out HBwq28.out (funv_made (own_under HRY.out HBwq28.out) HTwq28.out) HGGwq30.out HOOwq30.out⟩
      ·skip
       go_simp;obtain⟨wq37,hwq37⟩:∃x,wq19.alloc (.cells #[.slice Ay y.scope.length cy,.pointer (some ⟨tgq20,0,none⟩)] 37)=x:=⟨_,rfl⟩;have hbwq37:Below wq19.heap.size wq19 wq37:=by rw[← hwq37];exact bone _ _
       have hrwq37:Reads wq37 wq37.heap.size 2 (some ⟨wq19.heap.size,0,none⟩) 1 [.slice Ay y.scope.length cy,.pointer (some ⟨tgq20,0,none⟩)]:=reads_two (by rw[← hwq37];exact heap_alloc_new _ _);rw[hwq37];have HBwq37:=Hd (bto HBwq19.out hbwq37);have HTwq37:=Hd (HTwq19.out.under hbwq37);have HRwq37:=Hd hrwq37;have HLwq37:=Hd hbwq37;refine hKc.out _ _ ((HBXD.out.under HLwq19.out).under HLwq37.out).two (fun hHq38=>?_);clear hKc Kc hbwq37 hrwq37 hwq37
       try simp only[Act.put,ya,yb,yc]
       refine wpAnyH_ready (rs := [4]) (by kernel_rfl) (by simp) ?_;refine AllReadyH.cons rfl (fun Kc hKc=>?_) AllReadyH.nil;obtain⟨nq39,nq40,nq41,nq42,-⟩:=Blk.four (t:=34) (HO.out.blk.under HBwq37.out);go_simp;refine hKc.out _ _ hHq38 (fun hHq43=>?_);clear hKc Kc nq39 nq40 nq41 nq42
       try simp only[Act.put,ya,yb,yc]
       refine wpAnyH_ready (rs := [12]) (by kernel_rfl) (by simp) ?_;refine AllReadyH.cons rfl (fun Kc hKc=>?_) AllReadyH.nil;have hawq44:=own_under HO.out.row HBwq37.out;have hzwq44:g2+1≤wq37.heap.size:=by have z1:=(HBwq37.out).size;have z2:=HGL.out;omega
       have honewq44:∀u ∈ [Value.slice Ay y.scope.length cy,.pointer (some ⟨tgq20,0,none⟩)],u.oneCell'=true:=by simp[Value.oneCell']
       have hvlwq44:V2.length≤256:=by have:=HV2J.out;omega
       refine step_append_any _ rfl (.tmp 93) (.tmp 100) 32 rfl (g2+1) 37 iW _ 2 32 Tryz.underlying32 e0 e1 e2 e3 rfl (by omega) (.slice F2 V2.length f2c) V2.length _ rfl hawq44 wq37.heap.size (some ⟨wq19.heap.size,0,none⟩) 1 1 [.slice Ay y.scope.length cy,.pointer (some ⟨tgq20,0,none⟩)] rfl HRwq37.out honewq44 (by simp only[maxLen];omega) (by omega) hzwq44 ?_;intro vq45 wq44 howq44 hgwq44 hatwq44;clear hatwq44;obtain⟨Aq46,cq47,rfl⟩:=own_shape howq44;have hgwwq44:=(HO.out.blk.under HBwq37.out).grown hgwq44 (fun e=>by obtain⟨cs,hb⟩:=own_is hawq44 e.symm;exact Blk.ne_ (HO.out.blk.under HBwq37.out) hb (by decide) rfl);have hbwwq44:=((HBXD.out.under HLwq19.out).under HLwq37.out).grown hgwq44 (fun e=>by obtain⟨cs,hb⟩:=own_is hawq44 e.symm;exact Blk.ne_ ((HBXD.out.under HLwq19.out).under HLwq37.out) hb (by decide) rfl);have HGGwq44:=Hd hgwq44;have HOOwq44:=Hd howq44;obtain⟨xwq44,ywq44⟩:=hbwwq44.two;have mwq44:=(Blk.four (t:=34) hgwwq44).2.2.2.1;have fwq44:=hgwwq44.frozen 3;refine hKc.out _ _ ⟨xwq44,ywq44⟩ (fun hHq48=>?_);clear hKc Kc hawq44 hzwq44 honewq44 hgwq44 howq44 hgwwq44 hbwwq44;refine takes [13,14] hHq48 (by kernel_rfl) (fun _ _ _ _ _ h=>h) ?_
       iterate 2
        conv=>whnf
        refine⟨?_,.inl ⟨by kernel_rfl,fun w hSw=>?_⟩,?_⟩
        rotate_left
        ·(try dsimp only at hSw);go_simp;try with_reducible rfl
        try simp only[Act.put,ya,yb,yc]
       refine Yt.nil ?_;refine wpAnyH_ready (rs := [15]) (by kernel_rfl) (by simp) ?_;refine AllReadyH.cons rfl (fun Kc hKc=>?_) AllReadyH.nil;go_simp;refine hKc.out _ _ ⟨?_,?_⟩ (fun hHq49=>?_)
       ·rw[World.cell?_setCell_far _ _ _ _ HNG.out];exact xwq44
       ·rw[World.cell?_setCell_far _ _ _ _ HNG.out];exact ywq44
       clear hKc Kc;refine wpAnyH_done (by kernel_rfl) ?_ _;go_simp
       try go_wp2_with fail
       go_roundw
       case measure=>simp[intOf];omega
       case rel=>exact⟨j+1,_,Aq46,cq47,by go_num,by omega,by rw[List.length_append,HV2J.out];rfl,HO.out.push HCJ.out HG5.out HBwq37.out (funv_made (own_under HRY.out HBwq37.out) HTwq37.out) HGGwq44.out HOOwq44.out⟩
    ·obtain rfl:j=nq:=by omega
     have hfun:V2.map (·.2.2.2)=(canonF f).funs:=by
      have hl:(canonL f.sizes f.k f.funs).length=j:=by rw[← HQM.out,List.length_map];exact HQL.out
      rw[hO.map,List.take_of_length_le (by rw[hl];exact Nat.le_refl _)];rfl
     have hsz:=hO.tch.own HO4.out fun q hq e=>by have z:=(own_in HO4.out hq);have z2:=HO4N.out q hq;omega
     have hbw:Below w.heap.size w wr:=HD5.out.trans (hO.tch.below HD5.out.size fun q hq e=>by have:=HGZ.out.2;omega);have HO:=Hd hO;have HFUN:=Hd hfun;have HSZ:=Hd hsz;have HBW:=Hd hbw;clear hO hfun hsz hbw hno5;go_wp2_with fail;go_ret2;exact⟨g2,A4,c4,F2,f2c,V2,rfl,HGZ.out.2,⟨HFUN.out,HO.out.blk,own_base HSZ.out (Nat.zero_le _),own_base HO.out.row (Nat.zero_le _),HO.out.fs⟩,HBW.out⟩
end Go.Proofs.YtjpkkkphhaajgaaGreatDoor.wcp

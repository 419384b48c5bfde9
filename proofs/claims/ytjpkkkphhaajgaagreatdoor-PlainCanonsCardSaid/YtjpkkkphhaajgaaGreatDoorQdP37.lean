/- a part -/
import Derived.Test.YtjpkkkphhaajgaaGreatDoorQdTpTable
import Derived.Test.YtjpkkkphhaajgaaGreatDoorQdTurnPlain
import Derived.Test.YtjpkkkphhaajgaaGreatDoorQdP35
import Derived.Test.YtjpkkkphhaajgaaGreatDoorQdAllOwn
import Derived.Test.YtjpkkkphhaajgaaGreatDoorQdTabEnt
set_option linter.all false
namespace Go.Proofs.YtjpkkkphhaajgaaGreatDoor.wcp
open Go RowKit Shelf ChangeShapes WideShapes ChangeAt Maps words scn told
open shp (Szs prodI InT idxI tupI allI)
attribute [local go_sem] Oper.semAt_some
def turnZ (zs od:List Int):List Int:=od.map fun p=>zs.getD p.toNat 0
theorem turnZ_szs {zs od:List Int}(h:Szs zs)(ho:IsOrd od)(hl:od.length=zs.length):Szs (turnZ zs od):=by
 refine⟨by unfold turnZ;rw[List.length_map,hl];exact h.1,fun k hk=>?_⟩;obtain⟨p,hp,rfl⟩:=List.mem_map.1 hk;have hp2:=ho.2 p hp;rw[List.getD,List.getElem?_eq_getElem (show p.toNat<zs.length by omega),Option.getD_some];exact h.2 _ (List.getElem_mem _)
set_option maxRecDepth 100000 in
set_option maxHeartbeats 16000000 in
theorem turn_any {w:World}{g:Nat}{F R:Nat→Prop}{zs:List Int}{k:Int}{f:List Int→Int}(h:TabV w g F R zs k (tabF zs f))(hz:Szs zs)(A:Option Addr)(m cap:Nat)(od:List Int)(hr:Reads w w.heap.size 1 A m (nums od))(ho:IsOrd od)(hl:od.length=zs.length)(hp:prodI (turnZ zs od)≤4096)(hk:inB 0 k=true)(hf:∀t,InS zs t→inB (f t) k=true) :
 Calls Tryz.prog 102 #[.pointer (some ⟨g,0,none⟩),.slice A m cap] w fun e w' => ∃g2,e = .returned (.tuple #[.pointer (some ⟨g2,0,none⟩),.int .i64 0])∧TabV w' g2 (fun q=>w.heap.size≤q) (fun q=>w.heap.size≤q) (turnZ zs od) k (tabF (turnZ zs od) fun x=>f (backT od x))∧Below w.heap.size w w':=by
 have hm:=nums_len hr;have hm6:m≤6:=by have:=hz.1;omega
 obtain⟨w1,hw1⟩:∃w1,(w.alloc (.cells #[.pointer (some ⟨g,0,none⟩)] 53)).alloc (.cells #[.slice A m cap] 31)=w1:=⟨_,rfl⟩;have hB1:Below w.heap.size w w1:=by rw[← hw1];exact bnew (bone w _) _
 have hb2:Blk w1 w.heap.size 53 #[.pointer (some ⟨g,0,none⟩)]:=by rw[← hw1];exact (Blk.new w _ _).alloc _
 have hb3:Blk w1 (w.heap.size+1) 31 #[.slice A m cap]:=by
  rw[← hw1];have:=Blk.new (w.alloc (.cells #[.pointer (some ⟨g,0,none⟩)] 53)) 31 #[.slice A m cap]
  rwa [show (w.alloc (.cells #[.pointer (some ⟨g,0,none⟩)] 53)).heap.size=w.heap.size+1 by simp]at this
 have hva:=values_any A m cap w1;obtain⟨w2,hw2⟩:∃w2,w1.alloc (.cells #[.slice A m cap] 31)=w2:=⟨_,rfl⟩;have hB2:Below w1.heap.size w1 w2:=by rw[← hw2];exact bone w1 _
 have hbv:Blk w2 w1.heap.size 31 #[.slice A m cap]:=by rw[← hw2];exact Blk.new _ _ _
 have hso:=sortedV_any w1.heap.size m cap A od w2 (by omega) hbv ((hr.below (bto hB1 hB2)).more (bto hB1 hB2).size);rw[ord_rise ho,hm]at hso;obtain⟨c2,-⟩:=hb2.one;obtain⟨c3,-⟩:=hb3.one;rw[hw2]at hva;have H:=Hd h;have HZ:=Hd hz;have HIO:=Hd ho;have HP4:=Hd hp;have HK0:=Hd hk;have HF:=Hd hf;have HR:=Hd hr;have HB1:=Hd hB1;have HB2:=Hd hB2;have HBK2:=Hd hb2;have HBK3:=Hd hb3;clear h hr hB1 hB2 hb2 hb3 hbv hw2 hz ho hp hk hf;refine (callsIn_wide (n:=4)).1 ?_;refine callsIn_of_wp_marks Tryz.func102 rfl trivial ?_ rfl;simp only[Tryz.ntmps102,List.size_toArray,List.length_cons,List.length_nil,Nat.reduceAdd,Nat.reduceSub,Array.replicate_succ,Array.replicate_zero,List.push_toArray,List.append_toArray,List.nil_append,List.cons_append];refine wpIn_wide.2 ?_;refine Code.wp_mono NoPanic.imp ?_;go_wp2_with fail;refine hva.mono ?_;rintro e w3 ⟨rfl,rfl⟩;clear hva;go_wp2_with fail;refine hso.mono ?_;rintro e w3 ⟨A3,cc3,rfl,ho3,hB3⟩;have HO3:=Hd ho3;have HB3:=Hd (bto HB2.out hB3);clear hso ho3 hB3;go_wp2_with fail;have HB03:=Hd (bto HB1.out HB3.out)
 go_loopw [7,8,26] (fun _ _ jv wr => ∃j:Nat,jv = .int .i64 j∧j≤m∧w3=wr) (fun _ _ jv _=>m-(intOf jv).toNat)
 case atStart=>exact⟨0,rfl,Nat.zero_le _,rfl⟩
 case round =>
  obtain⟨j,rfl,hj,rfl⟩:=hrel;by_cases hlt:j<m
  ·have hltI:decide ((j:Int)<(m:Int))=true:=decide_eq_true (by omega)
   obtain⟨ad,x,rfl,_,hx,hc⟩:=(Reads.of_own HO3.out).num hlt
   obtain rfl:x=(j:Int):=by
    rw[List.getElem?_map,List.getElem?_range hlt]at hx
    simpa using hx.symm
   have hne:((j:Int) != (j:Int))=false:=by simp
   have i0:(0:Int)≤(j:Int):=by omega
   have i1:(j:Int)<(m:Int):=by omega
   clear hx;go_wp2_with fail;go_roundw
   case rel=>exact⟨j+1,by go_num,hlt,by first | rfl | trivial⟩
   case measure=>simp[intOf];omega
  ·obtain rfl:m=j:=by omega
   have hltI:decide ((m:Int)<(m:Int))=false:=decide_eq_false (by omega);clear c2 c3;obtain⟨hg,SA,sc,CA,cc,hb,h1,h2,h3,h4⟩:=H.out.under HB03.out;obtain⟨q0,q1,q2⟩:=Blk.three (t:=117) hb;obtain⟨c2,-⟩:=(HBK2.out.under HB3.out).one;obtain⟨c3,-⟩:=(HBK3.out.under HB3.out).one;have har:=shp.arity_any SA zs.length sc w3.drew (by omega);rw[← hl,hm]at har;have HTB:=Hd hb;have HTS:=Hd h1;clear hb h1 h2 h3 h4;go_upto_region 10 with fail
   go_cut [42] from 35 to 42 (fun v wq=>v = .bool false∧Hid (Below w3.heap.size w3 wq))
   case first =>
    have hne:((m:Int) != (m:Int))=false:=by simp
    have hcl:Hid (∀W,Below w3.heap.size w3 W→(W.cell? ⟨w.heap.size,0,none⟩=some (.pointer (some ⟨g,0,none⟩))∧W.cell? ⟨w.heap.size+1,0,none⟩=some (.slice A m cap)∧W.cell? ⟨g,0,none⟩=some (.slice SA zs.length sc))):=fun W hW=>⟨((HBK2.out.under HB3.out).under hW).one.1,((HBK3.out.under HB3.out).under hW).one.1,(Blk.three (t:=117) (HTB.out.under hW)).1⟩
    rw[← hl,hm]at q0 hcl
    go_region_held3 (fun W=>W.cell? ⟨w.heap.size,0,none⟩=some (.pointer (some ⟨g,0,none⟩))∧W.cell? ⟨w.heap.size+1,0,none⟩=some (.slice A m cap)∧W.cell? ⟨g,0,none⟩=some (.slice SA m sc)) (first | exact⟨c2,c3,q0⟩ | exact hcl.out _ HB5.out) (first
     |(go_at_call 147;refine har.mono ?_;rintro e w5 ⟨rfl,hb5⟩;have HB5:=Hd (show Below w3.heap.size w3 w5 from⟨hb5.os,hb5.tape,hb5.output,hb5.size,hb5.block⟩);clear har hb5))
    all_goals
     go_wp2_with fail
     go_meet
     case rel=>exact⟨rfl,HB5.out⟩
   case rest =>
    obtain⟨rfl,hbc⟩:=hcut;clear har q0 q1 q2 c2 c3;have HX:Hid (∀W,Below w3.heap.size w3 W→(W.cell? ⟨w.heap.size,0,none⟩=some (.pointer (some ⟨g,0,none⟩))∧W.cell? ⟨w.heap.size+1,0,none⟩=some (.slice A m cap)∧Blk W g 117 #[.slice SA zs.length sc,.int .i64 k,.slice CA (tabF zs f).length cc]∧W.ownsRow 0 3 1 (.slice SA zs.length sc) zs.length (nums zs)∧Reads W W.heap.size 1 A m (nums od)∧TabV W g F R zs k (tabF zs f))):=fun W hW=>⟨((HBK2.out.under HB3.out).under hW).one.1,((HBK3.out.under HB3.out).under hW).one.1,HTB.out.under hW,own_under HTS.out hW,(HR.out.below (bto HB03.out hW)).more (bto HB03.out hW).size,H.out.under (bto HB03.out hW)⟩
    have HBC:=Hd (bto HB03.out hbc.out);obtain⟨x2,x3,xb,-⟩:=HX.out wc hbc.out;obtain⟨i0,hi0,hz0,hz1,hz2⟩:=info_parts infoI;have hmk:=fun W=>run_make_rowN (P:=Tryz.prog) 31 3 i0 _ Tryz.underlying31 hi0 hz0 .i64 .i64 m m (Nat.le_refl _) (by rw[hz2];omega) (by omega) W
    have htz:(turnZ zs od).length=m:=by unfold turnZ;rw[List.length_map];exact hm
    have hown:(wc.alloc (.cells (madeCells #[.int .i64 0] m) 3)).ownsRow wc.heap.size 3 1 (.slice (some ⟨wc.heap.size,0,none⟩) m m) m (nums ((turnZ zs od).take 0++List.replicate ((turnZ zs od).length-0) 0)):=by
     rw[List.take_zero,List.nil_append,Nat.sub_zero,htz,← nums_rep];exact World.ownsRow_lit wc _ m (Nat.le_refl _) (by unfold maxLen;omega) (by simp[madeCells])
    have hb4:=bone wc (.cells (madeCells #[.int .i64 0] m) 3);have HTZ:=Hd htz;obtain⟨y2,y3,yb,-⟩:=HX.out _ (bto hbc.out hb4);clear htz xb yb;go_upto_region 14 with fail
    go_loopw [10,11,48] (fun _ _ iv wr => ∃j:Nat,iv = .int .i64 j∧j≤m∧wr.ownsRow wc.heap.size 3 1 (.slice (some ⟨wc.heap.size,0,none⟩) m m) m (nums ((turnZ zs od).take j++List.replicate ((turnZ zs od).length-j) 0))∧Below wc.heap.size wc wr) (fun _ _ iv _=>m-(intOf iv).toNat)
    case atStart=>exact⟨0,rfl,Nat.zero_le _,hown,hb4⟩
    case round =>
     clear hown hb4 y2 y3 x2 x3;obtain⟨j,rfl,hj,ho,hb⟩:=hrel;obtain⟨y2,y3,yb,ys,yr,-⟩:=HX.out _ (bto hbc.out hb);by_cases hlt:j<m
     ·obtain⟨ad,p,rfl,_,hx,hc⟩:=yr.num hlt
      obtain⟨u,hu⟩:∃u,(nums ((turnZ zs od).take j++List.replicate ((turnZ zs od).length-j) 0))[j]?=some u:=⟨_,List.getElem?_eq_getElem (by have:=HTZ.out;simp[nums];omega)⟩;have hf:=ho.frozenAt j;have hcj:=(ho.cellAt j (by omega)).trans hu
      have hpz:(turnZ zs od)[j]?=some (shp.sizeAt zs p):=by
       unfold turnZ;rw[List.getElem?_map,hx];simp only[Option.map_some,shp.sizeAt,if_pos (HIO.out.2 p (List.mem_of_getElem? hx)).1]
      obtain⟨q0,q1,q2⟩:=Blk.three (t:=117) yb;have hsz:=shp.size_any SA zs.length sc zs p wr (by omega) (Reads.of_own ys);have HSP:=Hd (set_part hpz);have HO:=Hd ho;have HB:=Hd hb;have i0:(0:Int)≤(j:Int):=by omega
      have i1:(j:Int)<(m:Int):=by omega
      clear hx hu hpz ho hb ys yr yb;go_wp2_with fail;refine hsz.mono ?_;rintro e w5 ⟨rfl,hb5⟩;clear hsz;have ho5:=own_under HO.out hb5;have hf5:=ho5.frozenAt j;have hcj5:=((bcell hb5).1 wc.heap.size j (own_in HO.out rfl).2).trans hcj;have HO5:=Hd ho5;have HB5:=Hd hb5;clear ho5 hb5 hf hcj y2 y3 q0 q1 q2 hc;go_wp2_with fail;go_roundw
      case measure=>simp[intOf];omega
      case rel=>exact⟨j+1,by go_num,by omega,by rw[← HSP.out];exact (HO5.out.stored j _).1,(bto HB.out HB5.out).setCell (p:=⟨wc.heap.size,j,none⟩) (Nat.le_refl _) _⟩
     ·obtain rfl:m=j:=by omega
      rw[← HTZ.out,List.take_of_length_le (Nat.le_refl _),Nat.sub_self,List.replicate_zero,List.append_nil,HTZ.out]at ho;obtain⟨q0,q1,q2⟩:=Blk.three (t:=117) yb;have hnew:=tabnew_any (some ⟨wc.heap.size,0,none⟩) m m (turnZ zs od) k 0 wr (Reads.of_own ho) (turnZ_szs HZ.out HIO.out hl) HP4.out HK0.out;have HO:=Hd ho;have HB:=Hd hb;clear ho hb ys yr yb;go_wp2_with fail;refine hnew.mono ?_;rintro e w5 ⟨g2,rfl,ht5,hb5⟩;clear hnew;obtain⟨w6,hw6⟩:∃w6,(w5.alloc (.cells #[.pointer none] 53)).setCell ⟨w5.heap.size,0,none⟩ (.pointer (some ⟨g2,0,none⟩))=w6:=⟨_,rfl⟩;have hB6:Below w5.heap.size w5 w6:=by rw[← hw6];exact (bone w5 _).setCell (p:=⟨w5.heap.size,0,none⟩) (Nat.le_refl _) _
      have hbx:Blk w6 w5.heap.size 53 #[.pointer (some ⟨g2,0,none⟩)]:=by rw[← hw6];exact (Blk.new _ _ _).set_ 0 _
      have ht6:=ht5.under hB6;obtain⟨hg6,SB,sb,CB,cb,hbt,hso6,hsr6,hco6,hcr6⟩:=ht6;obtain⟨p0,p1,p2⟩:=Blk.three (t:=117) hbt;obtain⟨px,-⟩:=hbx.one;have hall:=shp.all_any SB (turnZ zs od).length sb w6;have HT5:=Hd ht5;have HB5:=Hd hb5;have HB6:=Hd hB6;have HBX:=Hd hbx;have HBT:=Hd hbt;have HS6:=Hd hso6;have HSR:=Hd hsr6;have HC6:=Hd hco6;have HCR:=Hd hcr6;clear ht5 hb5 hB6 hbx hbt hso6 hsr6 hco6 hcr6;go_wp2_with fail;refine hall.mono ?_;rintro e w7 ⟨rfl,hw7⟩;clear hall;have HW7:=Hd hw7;clear hw7;go_wp2_with fail;have hB7:Below w6.heap.size w6 w7:=by rw[← HW7.out];exact bone w6 _
      have hgx:Blk w7 w6.heap.size 115 #[.slice SB (turnZ zs od).length sb]:=by rw[← HW7.out];exact Blk.new _ _ _
      have hs7:=own_under HS6.out hB7;have hc7:=own_under HC6.out hB7;have hbt7:=HBT.out.under hB7;have hbx7:=HBX.out.under hB7;have hB37:Below w3.heap.size w3 w7:=bto (bto (bto (bto hbc.out HB.out) HB5.out) HB6.out) hB7;have hP:=shp.szs_prod (turnZ_szs HZ.out HIO.out hl);obtain⟨N,hN⟩:∃N:Nat,prodI (turnZ zs od)=N:=⟨(prodI (turnZ zs od)).toNat,by omega⟩;have hNl:(New (turnZ zs od) 0).length=N:=by unfold New;rw[List.length_replicate,hN];omega
      rw[hNl]at hc7 hbt7
      have hqx:∃qb,CB=some ⟨qb,0,none⟩:=by
       rcases hc7.2 with⟨e0,e1⟩ | ⟨qb,cap,cur,e0,_⟩
       ·exfalso;simp_all<;>omega
       ·injection e0 with e0 e1;exact⟨qb,e0⟩
      obtain⟨qb,rfl⟩:=hqx;have hCl:wr.heap.size≤qb:=HCR.out qb rfl;have hql:qb<w6.heap.size:=(own_in HC6.out rfl).2;have hF:=HTZ.out;rw[hF]at hgx hs7;rw[hF]at hbt7
      have hSl:∀q,(Value.slice SB m sb).ownBlock=some q→q≠qb:=fun q hq e=>by
       subst e;obtain⟨cs,hcs⟩:=own_is hs7 hq;exact own_blk_ne hc7 (show Blk w7 _ 3 cs from hcs) (by decide) rfl
      obtain⟨S,hS⟩:∃S:Nat→Prop,∀i,S i↔(w7.heap.size≤i∨i=qb):=⟨fun i=>w7.heap.size≤i∨i=qb,fun i=>Iff.rfl⟩;have hFl:(tabF (turnZ zs od) fun x=>f (backT od x)).length=N:=by have:=tabF_len (turnZ_szs HZ.out HIO.out hl) fun x=>f (backT od x);omega
      have hs7w:w7.heap.size=w6.heap.size+1:=by rw[← HW7.out];simp
      have hmsb:m≤sb:=own_cap hs7;have HS:=Hd hS;have HFL:=Hd hFl
      have HNE:Hid (qb≠w.heap.size∧qb≠w5.heap.size∧qb≠g2):=⟨by
       have z2:=(bto hbc.out HB.out).size;have z3:=HBK2.out.lt;have z4:=(HBK2.out.under HB3.out).lt;omega,fun e=>own_blk_ne hc7 hbx7 (by decide) (by rw[← e];rfl),fun e=>own_blk_ne hc7 hbt7 (by decide) (by rw[← e];rfl)⟩
      have HRW:Hid (∀q,(Value.slice SB m sb).ownBlock=some q→¬ S q):=fun q hq h=>by
       rcases (hS q).1 h with h | h
       ·have:=(own_in hs7 hq).2;omega
       ·exact hSl q hq h
      have hcF:w7.ownsRow 0 2 1 (.slice (some ⟨qb,0,none⟩) N cb) N (nums ((tabF (turnZ zs od) fun x=>f (backT od x)).take 0++List.replicate (N-0) 0)):=by
       have:New (turnZ zs od) 0=(tabF (turnZ zs od) fun x=>f (backT od x)).take 0++List.replicate (N-0) 0:=by rw[List.take_zero,List.nil_append,Nat.sub_zero];unfold New;rw[hN];rfl
       rwa [this]at hc7
      refine (wpIn_wide (n:=4)).1 ?_
      refine' range_told (by omega) (gf:=150) (lb := #[.pointer (some ⟨w6.heap.size,0,none⟩)]) rfl (enters_of Tryz.func150 (by kernel_rfl) rfl)
       (shp.all_toldO (4-1) (by omega) w6.heap.size m sb N S SB (turnZ zs od) (turnZ_szs HZ.out HIO.out hl) hN hF hmsb (fun h=>by rcases (hS _).1 h with h | h<;>omega) w7 hgx hs7 HRW.out)
       shp.tchK_t (shp.tchK_b fun i hi=>(hS i).2 (.inl hi)) (Below.refl _ _) (fun _=>rfl)
       (fun pre W=>Tch w7 W S∧W.ownsRow 0 2 1 (.slice (some ⟨qb,0,none⟩) N cb) N (nums ((tabF (turnZ zs od) fun x=>f (backT od x)).take pre.length++List.replicate (N-pre.length) 0))) (fun _ _ _=>False) ?hI (fun _ _ _ _ _ hs _ _=>hs) (fun _ _ _ _ h=>h.2.2.1)
       (fun pre x W=>(Tch w7 W S∧W.ownsRow 0 2 1 (.slice (some ⟨qb,0,none⟩) N cb) N (nums ((tabF (turnZ zs od) fun x=>f (backT od x)).take pre.length++List.replicate (N-pre.length) 0)))∧x.1=pre.length∧(x.1:Int)<N∧W.ownsRow w7.heap.size 3 1 (.slice (some ⟨x.2,0,none⟩) m m) m (nums (tupI (turnZ zs od) x.1))) ?hZ ?hIZ ⟨Tch.refl _ _,hcF⟩
       _ ?assign ?body ?done ?stop
      case hI =>
       rintro pre W W' row ⟨h1,h2⟩ hg hrow;exact⟨h1.trans (Tch.of_grown hg fun i _ e=>(hS i).2 (.inl (hrow i e.symm).1)) fun _ _ h=>h,own_kept h2 hg fun r e=>(hrow r e).2⟩
      case hZ =>
       rintro pre x _ W W' row ⟨⟨h1,h2⟩,h3,h4,h5⟩ hg hrow;exact⟨⟨h1.trans (Tch.of_grown hg fun i _ e=>(hS i).2 (.inl (hrow i e.symm).1)) fun _ _ h=>h,own_kept h2 hg fun r e=>(hrow r e).2⟩,h3,h4,own_kept h5 hg fun r e=>(hrow r e).2⟩
      case hIZ =>
       rintro pre x W0 W1 ⟨h1,h2⟩ ⟨h3,h4,h5,h6⟩ hle;rw[hN]at h4;exact⟨⟨h1.trans (Tch.of_below h5 S) fun _ _ h=>h,own_under h2 h5⟩,h3,h4,own_base h6 hle⟩
      case assign =>
       intro l x W K hK;dsimp only[shp.encT]
       gi_wp2
       exact hK
      case body =>
       rintro l pre ⟨i,q⟩ W hl' ⟨⟨hT,hCo⟩,hi,hiN,hox⟩ hlen;dsimp only at hi hiN hox ⊢;subst hi;obtain⟨kk,hkk⟩:∃kk,pre.length=kk:=⟨_,rfl⟩;rw[hkk]at hCo hiN hox hlen ⊢;obtain⟨x,hx⟩:∃x,tupI (turnZ zs od) (kk:Int)=x:=⟨_,rfl⟩;have hxT:=shp.tup_in (turnZ_szs HZ.out HIO.out hl) (kk:Int);have hxat:=shp.all_at (turnZ_szs HZ.out HIO.out hl) kk (by rw[hN];exact hiN);have hxl:x.length=m:=by rw[← hx,shp.tup_len,hF]
       rw[hx]at hox hxT hxat;have hxI:=int_ins hxT;have hbI:InS zs (backT od x):=backT_in HIO.out hl.symm hxI;have hqw:=(own_in hox rfl).1
       have hBW:Below w3.heap.size w3 W:=hB37.trans (hT.below hB37.size fun i hi h=>by
        have z1:=hB37.size;have z2:=(bto hbc.out HB.out).size
        rcases (hS i).1 h with h | h<;>omega)
       have hbxW:=hT.blk hbx7 (fun h=>by
        rcases (hS _).1 h with h | h
        ·have:=hbx7.lt;omega
        ·exact own_blk_ne hc7 hbx7 (by decide) (by rw[h];rfl))
       have hbtW:=hT.blk hbt7 (fun h=>by
        rcases (hS _).1 h with h | h
        ·have:=hbt7.lt;omega
        ·exact own_blk_ne hc7 hbt7 (by decide) (by rw[h];rfl))
       have HY:Hid (∀W',Below W.heap.size W W'→W'.cell? ⟨w.heap.size,0,none⟩=some (.pointer (some ⟨g,0,none⟩))∧W'.cell? ⟨w.heap.size+1,0,none⟩=some (.slice A m cap)∧Reads W' W'.heap.size 1 A m (nums od)∧TabV W' g F R zs k (tabF zs f)∧W'.cell? ⟨w5.heap.size,0,none⟩=some (.pointer (some ⟨g2,0,none⟩))∧W'.cell? ⟨g2,2,none⟩=some (.slice (some ⟨qb,0,none⟩) N cb) ∧
        W'.ownsRow 0 2 1 (.slice (some ⟨qb,0,none⟩) N cb) N (nums ((tabF (turnZ zs od) fun x=>f (backT od x)).take kk++List.replicate (N-kk) 0))∧W'.ownsRow w7.heap.size 3 1 (.slice (some ⟨q,0,none⟩) m m) m (nums x)):=fun W' hW'=>by
        obtain⟨e2,e3,-,-,er,et⟩:=HX.out W' (bto hBW hW');obtain⟨f0,f1,f2⟩:=Blk.three (t:=117) (hbtW.under hW');exact⟨e2,e3,er,et,(hbxW.under hW').one.1,f2,own_under hCo hW',own_under hox hW'⟩
       have hb8:=bone W (.cells (madeCells #[.int .i64 0] m) 3)
       have hown8:(W.alloc (.cells (madeCells #[.int .i64 0] m) 3)).ownsRow W.heap.size 3 1 (.slice (some ⟨W.heap.size,0,none⟩) m m) m (nums (layT (List.replicate m 0) ((od.zip x).take 0))):=by
        rw[List.take_zero];show World.ownsRow _ _ _ _ _ _ (nums (List.replicate m 0));rw[← nums_rep];exact World.ownsRow_lit W _ m (Nat.le_refl _) (by unfold maxLen;omega) (by simp[madeCells])
       obtain⟨e2,e3,-⟩:=HY.out _ hb8;have HT:=Hd hT;have HCO:=Hd hCo;have HOX:=Hd hox;have HXT:=Hd hxT;have HXA:=Hd hxat;have HXX:=Hd hx;have HKK:=Hd hkk;have HBI:=Hd hbI;have HXL:=Hd hxl;clear hT hCo hox hxT hxat hx hkk hbI hxl hxI hbxW hbtW
       gi_wp2_with fail
       gi_loopw [17,18,84] (fun _ _ iv wr' => ∃j:Nat,iv = .int .i64 j∧j≤m∧wr'.ownsRow W.heap.size 3 1 (.slice (some ⟨W.heap.size,0,none⟩) m m) m (nums (layT (List.replicate m 0) ((od.zip x).take j)))∧Below W.heap.size W wr') (fun _ _ iv _=>m-(intOf iv).toNat)
       case atStart=>exact⟨0,rfl,Nat.zero_le _,hown8,hb8⟩
       case round =>
        clear hown8 hb8 e2 e3;obtain⟨j,rfl,hj',ho,hb⟩:=hrel;obtain⟨e2,e3,er,et,ex,ec,eC,eX⟩:=HY.out _ hb;by_cases hlt:j<m
        ·obtain⟨ad,p,rfl,_,hp,hc⟩:=er.num hlt
         obtain⟨v,hv⟩:∃v,x[j]?=some v:=⟨_,List.getElem?_eq_getElem (by rw[HXL.out];exact hlt)⟩;have hc2:=(eX.cellAt j (by omega)).trans (show (nums x)[j]?=some (.int .i64 v) by rw[nums,List.getElem?_map,hv];rfl);obtain⟨p0',p1'⟩:=HIO.out.2 p (List.mem_of_getElem? hp);obtain⟨pn,rfl⟩:∃pn:Nat,p=(pn:Int):=⟨p.toNat,by omega⟩;have i0:(0:Int)≤(pn:Int):=by omega
         have i1:(pn:Int)<(m:Int):=by omega
         have i2:(0:Int)≤(j:Int):=by omega
         have i3:(j:Int)<(m:Int):=by omega
         have hpn:pn<m:=by omega
         have hf:=ho.frozenAt pn;obtain⟨u,hu⟩:∃u,(nums (layT (List.replicate m 0) ((od.zip x).take j)))[pn]?=some u:=⟨_,List.getElem?_eq_getElem (by rw[nums,List.length_map,layT_len,List.length_replicate];exact hpn)⟩;have hcj:=(ho.cellAt pn (by omega)).trans hu
         have hst:(nums (layT (List.replicate m 0) ((od.zip x).take j))).set pn (.int .i64 v)=nums (layT (List.replicate m 0) ((od.zip x).take (j+1))):=by
          have hz:(od.zip x)[j]?=some ((pn:Int),v):=List.getElem?_zip_eq_some.2 ⟨hp,hv⟩;rw[List.take_add_one,hz,Option.toList_some,layT_snoc];unfold nums;rw[List.map_set];rfl
         have HST:=Hd hst;have HO:=Hd ho;have HB':=Hd hb;clear hu hst ho hb er et ex ec eC eX hp hv p0' p1'
         gi_wp2_with fail
         go_roundw
         case measure=>simp[intOf];omega
         case rel=>exact⟨j+1,by go_num,by omega,by rw[← HST.out];exact (HO.out.stored pn _).1,HB'.out.setCell (p:=⟨W.heap.size,pn,none⟩) (Nat.le_refl _) _⟩
        ·obtain rfl:m=j:=by omega
         rw[List.take_of_length_le (by rw[List.length_zip,HXL.out];omega)]at ho;have hbk:layT (List.replicate m 0) (od.zip x)=backT od x:=by unfold backT;rw[hm]
         rw[hbk]at ho;have hbd:=hb.drew;obtain⟨e2,e3,er,et,ex,ec,eC,eX⟩:=HY.out _ hbd;have hget:=tabget_any et HZ.out (tabF_len HZ.out f) (some ⟨W.heap.size,0,none⟩) m m (backT od x) (Reads.of_own ho.drew) (ins_int HBI.out);rw[at_tabF HZ.out HBI.out]at hget;have HB':=Hd hb;clear hb ho er et eX
         gi_upto_region 28 with fail
         refine wpIn_region_round (by kernel_rfl) (by kernel_rfl) (by rintro ⟨a,w',h⟩;exact h) ?_;have hHeld:wr.drew.cell? ⟨w.heap.size,0,none⟩=some (.pointer (some ⟨g,0,none⟩))∧wr.drew.cell? ⟨w5.heap.size,0,none⟩=some (.pointer (some ⟨g2,0,none⟩))∧wr.drew.cell? ⟨g2,2,none⟩=some (.slice (some ⟨qb,0,none⟩) N cb):=⟨e2,ex,ec⟩;refine wpAny_of_held (S:=(fun W'=>W'.cell? ⟨w.heap.size,0,none⟩=some (.pointer (some ⟨g,0,none⟩))∧W'.cell? ⟨w5.heap.size,0,none⟩=some (.pointer (some ⟨g2,0,none⟩))∧W'.cell? ⟨g2,2,none⟩=some (.slice (some ⟨qb,0,none⟩) N cb))) _ _ _ _ ?_;refine takes [0,1,2,3,4,5,6] hHeld (by kernel_rfl) (fun _ _ _ _ _ h=>h) ?_
         iterate 7
          conv=>whnf
          refine⟨?_,.inl ⟨by kernel_rfl,fun w hSw=>?_⟩,?_⟩
          rotate_left
          ·(try dsimp only at hSw);go_simp;try with_reducible rfl
          try simp only[Act.put,ya,yb,yc]
         refine Yt.nil ?_;refine wpAnyH_ready (rs := [7]) (by kernel_rfl) (by simp) ?_;refine AllReadyH.cons rfl (fun K hK=>?_) AllReadyH.nil;go_simp;refine hget.mono ?_;rintro e w9 ⟨rfl,hb9⟩;dsimp only;have HB9:=Hd (bto hbd hb9);obtain⟨e2',-,-,-,ex',ec',eC',-⟩:=HY.out _ HB9.out;have hHeld':w9.cell? ⟨w.heap.size,0,none⟩=some (.pointer (some ⟨g,0,none⟩))∧w9.cell? ⟨w5.heap.size,0,none⟩=some (.pointer (some ⟨g2,0,none⟩))∧w9.cell? ⟨g2,2,none⟩=some (.slice (some ⟨qb,0,none⟩) N cb):=⟨e2',ex',ec'⟩;have hf9:=eC'.frozenAt kk;obtain⟨u,hu⟩:∃u,(nums ((tabF (turnZ zs od) fun x=>f (backT od x)).take kk++List.replicate (N-kk) 0))[kk]?=some u:=⟨_,List.getElem?_eq_getElem (by simp[nums];omega)⟩;have hc9:=(eC'.cellAt kk (by omega)).trans hu;refine hK.out _ _ hHeld' (fun hHeld9=>?_);clear hK K hHeld hget hb9 e2 ex ec
         try simp only[Act.put,ya,yb,yc]
         refine takes [8,9,10,11] hHeld9 (by kernel_rfl) (fun _ _ _ _ _ h=>h) ?_
         iterate 4
          conv=>whnf
          refine⟨?_,.inl ⟨by kernel_rfl,fun w hSw=>?_⟩,?_⟩
          rotate_left
          ·(try dsimp only at hSw);go_simp;try with_reducible rfl
          try simp only[Act.put,ya,yb,yc]
         refine Yt.nil ?_;refine wpAnyH_ready (rs := [12]) (by kernel_rfl) (by simp) ?_;refine AllReadyH.cons rfl (fun K hK=>?_) AllReadyH.nil;go_simp;have HS12:=(eC'.stored kk (.int .i64 (f (backT od x)))).1;refine hK.out _ _ ⟨?_,?_,?_⟩ (fun _=>?_)
         ·rw[World.cell?_setCell_far _ _ _ _ HNE.out.1];exact hHeld9.1
         ·rw[World.cell?_setCell_far _ _ _ _ HNE.out.2.1];exact hHeld9.2.1
         ·rw[World.cell?_setCell_far _ _ _ _ HNE.out.2.2];exact hHeld9.2.2
         clear hK K;refine wpAnyH_done (by kernel_rfl) ?_ _;have T1:Tch W (w9.setCell ⟨qb,kk,none⟩ (.int .i64 (f (backT od x)))) (fun i=>i=qb):=(Tch.of_below HB9.out _).put (p:=⟨qb,kk,none⟩) _ rfl;have T2:Tch W (w9.setCell ⟨qb,kk,none⟩ (.int .i64 (f (backT od x)))) S:=(Tch.of_below HB9.out _).put (p:=⟨qb,kk,none⟩) _ ((HS.out qb).2 (.inr rfl));refine⟨from_cells _ T1 fun i h _=>?_,T2,HT.out.trans T2 fun _ _ h=>h,?_⟩
         ·subst h
          obtain⟨cs,hc⟩:=own_is HCO.out (q:=i) rfl;exact⟨cs,_,hc⟩
         ·have hxk:(tabF (turnZ zs od) fun x=>f (backT od x))[kk]?=some (f (backT od x)):=by unfold tabF;rw[List.getElem?_map,HXA.out];rfl
          have hsp:=set_part hxk;rw[HFL.out]at hsp;rw[hsp]at HS12;rw[List.length_append,HKK.out];exact HS12
      case done =>
       rintro D ys W hD hlen ⟨hT,hCo⟩ hDK;rw[hlen,List.take_of_length_le (by rw[HFL.out];exact Nat.le_refl _),Nat.sub_self,List.replicate_zero,List.append_nil]at hCo
       have hbxW:=hT.blk hbx7 (fun h=>by
        rcases (HS.out _).1 h with h | h
        ·have:=hbx7.lt;omega
        ·exact own_blk_ne hc7 hbx7 (by decide) (by rw[h];rfl))
       have hbtW:=hT.blk hbt7 (fun h=>by
        rcases (HS.out _).1 h with h | h
        ·have:=hbt7.lt;omega
        ·exact own_blk_ne hc7 hbt7 (by decide) (by rw[h];rfl))
       have hsW:=hT.own hs7 HRW.out;obtain⟨ex,-⟩:=hbxW.one
       have hBW:Below w.heap.size w W:=(bto HB03.out hB37).trans (hT.below (bto HB03.out hB37).size fun i hi h=>by
        have z1:=hB37.size;have z2:=(bto hbc.out HB.out).size;have z3:=HB03.out.size
        rcases (HS.out i).1 h with h | h<;>omega)
       have HCO:=Hd hCo;have HBT7:=Hd hbtW;have HSW:=Hd hsW;have HBW:=Hd hBW;have HDK:=Hd hDK;have HDL:Hid (w7.heap.size≤D):=hD;have HG6:=Hd hg6;have HQL:=Hd hCl;clear hT hCo hbxW hbtW hsW hBW hDK;go_wp2_with fail;refine⟨by simp,.inl ⟨_,_,rfl,run_takeDeferred HDK.out,?_⟩⟩;have hfin:Tch W (W.putObj D (.deferred none)) (fun i=>i=D):=Tch.of_grown (grownBy_putObj' W D _) fun i _ e=>by injection e
       have hz:w.heap.size≤wr.heap.size:=by have z2:=(bto hbc.out HB.out).size;have z3:=HB03.out.size;omega
       have hcl:∀ {i:Nat} {t:TypeId} {cs:Array Value},Blk W i t cs→i≠D:=fun h e=>by
        subst e;rw[show W.heap[_]?=_ from h]at HDK;cases HDK.out
       refine⟨_,results_tmp2 rfl _ _ _,g2,rfl,⟨by have:=HG6.out;omega,SB,sb,some ⟨qb,0,none⟩,cb,?_,?_,?_,?_,?_⟩,?_⟩
       ·rw[HTZ.out,HFL.out];exact hfin.blk HBT7.out (hcl HBT7.out)
       ·rw[HTZ.out];exact hfin.own HSW.out fun q hq e=>by
         obtain⟨cs,hcs⟩:=own_is HSW.out hq;exact hcl hcs e
       ·intro q hq;have:=HSR.out q hq;omega
       ·rw[HFL.out];exact hfin.own HCO.out fun q hq e=>by
         obtain⟨cs,hcs⟩:=own_is HCO.out hq;exact hcl hcs e
       ·intro q hq;cases hq;have:=HQL.out;show w.heap.size≤qb;omega
       ·exact HBW.out.trans (hfin.below HBW.out.size fun i hi h=>by have z1:=(bto HB03.out hB37).size;have z2:=HDL.out;have z3:w.heap.size≤w7.heap.size:=z1;omega)
      case stop =>
       rintro D c pre W _ _ h _;exact h.elim
end Go.Proofs.YtjpkkkphhaajgaaGreatDoor.wcp
namespace Go.Proofs.YtjpkkkphhaajgaaGreatDoor.wcp
open Go words scn
open shp (Szs prodI InT idxI tupI allI)
theorem riseI_rise (l:List Int):riseI l=rise l:=by
 unfold riseI rise
 congr 1
def odOf (sc:List Int):List Int:=(rise sc).map fun v=>(sc.idxOf v:Int)
theorem idx_mem {l:List Int}{v:Int}(h:v∈l):l[l.idxOf v]?=some v:=by
 induction l with
 |nil=>cases h
 | cons a l ih =>
   rw[List.idxOf_cons];by_cases e:a=v
   ·subst e;simp
   ·have hb:(a==v)=false:=by simp[e]
    rw[hb];rcases List.mem_cons.1 h with h | h
    ·exact absurd h.symm e
    ·simpa using ih h
theorem idx_at {l:List Int}(hn:l.Nodup){i:Nat}{v:Int}(h:l[i]?=some v):l.idxOf v=i:=nodup_idx hn (idx_mem (List.mem_of_getElem? h)) h
theorem odOf_len (sc:List Int):(odOf sc).length=sc.length:=by unfold odOf;rw[List.length_map,rise_len]
theorem odOf_ord {sc:List Int}(h:sc.Nodup):IsOrd (odOf sc):=by
 refine⟨?_,fun p hp=>?_⟩
 ·unfold odOf
  rw[List.Nodup,List.pairwise_map];refine List.Pairwise.imp_of_mem ?_ (rise_nodup h);intro a b ha hb hne e;have e':sc.idxOf a=sc.idxOf b:=by omega
  have h1:=idx_mem (rise_mem.1 ha);have h2:=idx_mem (rise_mem.1 hb);rw[e',h2]at h1;exact hne (Option.some.inj h1).symm
 ·unfold odOf at hp
  obtain⟨v,hv,rfl⟩:=List.mem_map.1 hp;have:=(List.getElem?_eq_some_iff.1 (idx_mem (rise_mem.1 hv))).1;rw[odOf_len];omega
theorem turnZ_szOf {zs sc:List Int}(h:sc.Nodup):turnZ (szOf zs sc) (odOf sc)=szOf zs (rise sc):=by
 unfold turnZ odOf szOf;rw[List.map_map];refine List.map_congr_left fun v hv=>?_
 have h1:=idx_mem (rise_mem.1 hv);simp only[Function.comp,Int.toNat_natCast,List.getD,List.getElem?_map,h1,Option.map_some,Option.getD_some]
theorem backT_ownT {sc t:List Int}(h:sc.Nodup)(ht:t.length=sc.length):backT (odOf sc) t=ownT sc (rise sc) t:=by
 have ho:=odOf_ord h;have hl:=odOf_len sc
 apply List.ext_getElem?
 intro q;by_cases hq:q<sc.length
 ·obtain⟨i,hi⟩:=ord_onto ho (q:=q) (by omega)
  have hi':=hi;unfold odOf at hi';rw[List.getElem?_map]at hi';obtain⟨v,hv,e⟩:=Option.map_eq_some_iff.1 hi';have e':sc.idxOf v=q:=by omega
  have hsv:sc[q]?=some v:=by rw[← e'];exact idx_mem (rise_mem.1 (List.mem_of_getElem? hv))
  have hil:i<t.length:=by have:=(List.getElem?_eq_some_iff.1 hi).1;omega
  have hb:=backT_at ho (x:=t) (by omega) hi (List.getElem?_eq_getElem hil);rw[Int.toNat_natCast]at hb;rw[hb];unfold ownT;rw[List.getElem?_map,hsv,Option.map_some,idx_at (rise_nodup h) hv,List.getD,List.getElem?_eq_getElem hil,Option.getD_some]
 ·rw[List.getElem?_eq_none (by rw[backT_len];omega),List.getElem?_eq_none (by unfold ownT;rw[List.length_map];omega)]
end Go.Proofs.YtjpkkkphhaajgaaGreatDoor.wcp
namespace Go.Proofs.YtjpkkkphhaajgaaGreatDoor.wcp
open Go RowKit Shelf ChangeShapes WideShapes ChangeAt Maps words scn told
open shp (Szs prodI InT idxI tupI allI)
attribute [local go_sem] Oper.semAt_some
set_option maxRecDepth 100000 in
set_option maxHeartbeats 16000000 in
theorem turned_any {w:World}{F:Nat→Prop}{v:Value}{x:Raw}{K:Int}(h:FunV w F v x K)(zs:List Int)(hv:okV (tpOf x K x.lines))(hn:x.scope.Nodup)(hz:x.sizes=szOf zs x.scope)(hp:prodI x.sizes≤4096)(hp2:prodI (szOf zs (rise x.scope))≤4096)(hll:x.lines.length≤100000)(hk:inB 0 K=true)(hf:∀t,InS x.sizes t→inB ((tpOf x K x.lines).get t) K=true) :
 Calls Tryz.prog 36 #[v] w fun e w' => ∃A c g2,e = .returned (.tuple #[.slice A x.scope.length c,.pointer (some ⟨g2,0,none⟩)])∧w'.ownsRow w.heap.size 3 1 (.slice A x.scope.length c) x.scope.length (nums (rise x.scope)) ∧
  TabV w' g2 (fun q=>w.heap.size≤q) (fun q=>w.heap.size≤q) (szOf zs (rise x.scope)) K (turnF zs K x).C∧Below w.heap.size w w':=by
 obtain⟨v1,tg,rfl,⟨⟨A,cap,rfl⟩,hrow⟩,hF1,hT⟩:=h;have hs:=tpOf_same x K x.lines;have hsz:Szs x.sizes:=by have:=hv.ok.szs;rwa [hs.1]at this
 have hxl:x.sizes.length=x.scope.length:=by rw[hz];unfold szOf;rw[List.length_map]
 obtain⟨m,hm⟩:∃m,x.scope.length=m:=⟨_,rfl⟩;have hm6:m≤6:=by have:=hsz.1;omega
 rw[hm]at hrow ⊢;obtain⟨w1,hw1⟩:∃w1,w.alloc (.cells #[.slice A m cap,.pointer (some ⟨tg,0,none⟩)] 37)=w1:=⟨_,rfl⟩;have hB1:Below w.heap.size w w1:=by rw[← hw1];exact bone w _
 have hbx:Blk w1 w.heap.size 37 #[.slice A m cap,.pointer (some ⟨tg,0,none⟩)]:=by rw[← hw1];exact Blk.new _ _ _
 have hT1:TpV w1 tg F x.lines.length (tpOf x K x.lines):=hT.keep (Tch.of_below hB1 fun _=>False) fun _ _ h=>h
 have htab:=ttable_any hT1 hv (by rw[hs.1];exact hp) hll;rw[hs.1,hs.2.1]at htab;obtain⟨d0,d1⟩:=hbx.two;have HROW:=Hd hrow;have HB1:=Hd hB1;have HBX:=Hd hbx;have HZ:=Hd hz;have HN:=Hd hn;have HK:=Hd hk;have HSZ:=Hd hsz;have HP2:=Hd hp2;have HF:=Hd hf;have HM:=Hd hm;have HXL:=Hd hxl;clear hT hT1 hrow hF1 hB1 hbx hz hn hk hsz hp2 hf hs hv hp hll hxl hm
 go_enter Tryz.func36,Tryz.ntmps36
 go_wp2_with fail;refine htab.mono ?_;rintro e w2 ⟨g1,rfl,ht2,hB2⟩;clear htab;have hva:=values_any A m cap w2;obtain⟨w3,hw3⟩:∃w3,w2.alloc (.cells #[.slice A m cap] 31)=w3:=⟨_,rfl⟩;have hB3:Below w2.heap.size w2 w3:=by rw[← hw3];exact bone w2 _
 have hbv:Blk w3 w2.heap.size 31 #[.slice A m cap]:=by rw[← hw3];exact Blk.new _ _ _
 have hrw3:=own_under (own_under (own_under HROW.out HB1.out) hB2) hB3;have hso:=sortedV_any w2.heap.size m cap A x.scope w3 (by omega) hbv (Reads.of_own hrw3);rw[riseI_rise]at hso;obtain⟨d0,d1⟩:=(HBX.out.under hB2).two;rw[hw3]at hva;have HT2:=Hd ht2;have HB12:=Hd hB2;have HB2:=Hd (bto HB1.out hB2);have HB3:=Hd hB3;clear ht2 hB2 hB3 hbv hrw3 hw3;go_wp2_with fail;refine hva.mono ?_;rintro e w4 ⟨rfl,rfl⟩;clear hva;go_wp2_with fail;refine hso.mono ?_;rintro e w4 ⟨A4,c4,rfl,ho4,hB4⟩;clear hso;have HB24:=Hd (bto HB3.out hB4);have HO4:=Hd ho4;have HB4:=Hd hB4;clear ho4 hB4;obtain⟨i0,hi0,hz0,hz1,hz2⟩:=info_parts infoI;have hmk:=fun W=>run_make_rowN (P:=Tryz.prog) 31 3 i0 _ Tryz.underlying31 hi0 hz0 .i64 .i64 m m (Nat.le_refl _) (by rw[hz2];omega) (by omega) W
 have hol:(odOf x.scope).length=m:=by rw[odOf_len];exact HM.out
 have hown:(w4.alloc (.cells (madeCells #[.int .i64 0] m) 3)).ownsRow w4.heap.size 3 1 (.slice (some ⟨w4.heap.size,0,none⟩) m m) m (nums ((odOf x.scope).take 0++List.replicate ((odOf x.scope).length-0) 0)):=by
  rw[List.take_zero,List.nil_append,Nat.sub_zero,hol,← nums_rep];exact World.ownsRow_lit w4 _ m (Nat.le_refl _) (by unfold maxLen;omega) (by simp[madeCells])
 have hb5:=bone w4 (.cells (madeCells #[.int .i64 0] m) 3);have HOL:=Hd hol;clear hol d0 d1;go_wp2_with fail
 go_loopw [8,9,27] (fun _ _ iv wr => ∃j:Nat,iv = .int .i64 j∧j≤m∧wr.ownsRow w4.heap.size 3 1 (.slice (some ⟨w4.heap.size,0,none⟩) m m) m (nums ((odOf x.scope).take j++List.replicate ((odOf x.scope).length-j) 0))∧Below w4.heap.size w4 wr) (fun _ _ iv _=>m-(intOf iv).toNat)
 case atStart=>exact⟨0,rfl,Nat.zero_le _,hown,hb5⟩
 case round =>
  clear hown hb5;obtain⟨j,rfl,hj,ho,hb⟩:=hrel;have hbr:Below w.heap.size w wr:=bto (bto HB2.out HB24.out) hb;by_cases hlt:j<m
  ·obtain⟨ad,p,rfl,_,hx,hc⟩:=(Reads.of_own (own_under HO4.out hb)).num hlt
   obtain⟨u,hu⟩:∃u,(nums ((odOf x.scope).take j++List.replicate ((odOf x.scope).length-j) 0))[j]?=some u:=⟨_,List.getElem?_eq_getElem (by have:=HOL.out;simp[nums];omega)⟩;have hcj:=(ho.cellAt j (by omega)).trans hu;have hps:p∈x.scope:=rise_mem.1 (List.mem_of_getElem? hx);have hod:(odOf x.scope)[j]?=some (x.scope.idxOf p:Int):=by unfold odOf;rw[List.getElem?_map,hx];rfl
   have hix:=indexI_any A m cap x.scope p wr (by omega) (Reads.of_own (own_under HROW.out hbr));obtain⟨d0,d1⟩:=(((HBX.out.under HB12.out).under HB24.out).under hb).two;have HSP:=Hd (set_part hod);have HO:=Hd ho;have HB:=Hd hb;have HPS:=Hd hps;have i0':(0:Int)≤(j:Int):=by omega
   have i1':(j:Int)<(m:Int):=by omega
   clear hx hu hod ho hb hps hbr;go_wp2_with fail;refine hix.mono ?_;rintro e w6 ⟨⟨r,rfl,hr⟩,hb6⟩
   have hr':r=(x.scope.idxOf p:Int):=by
    rcases hr with⟨q,rfl,hq,-⟩ | ⟨-,hq⟩
    ·rw[idx_at HN.out hq]
    ·exact absurd HPS.out hq
   subst hr';have ho6:=own_under HO.out hb6;have hf6:=ho6.frozenAt j;have hcj6:=((bcell hb6).1 w4.heap.size j (own_in HO.out rfl).2).trans hcj;have HO6:=Hd ho6;have HB6:=Hd hb6;clear hix ho6 hb6 hcj d0 d1 hc hr;go_wp2_with fail;go_roundw
   case measure=>simp[intOf];omega
   case rel=>exact⟨j+1,by go_num,by omega,by rw[← HSP.out];exact (HO6.out.stored j _).1,(bto HB.out HB6.out).setCell (p:=⟨w4.heap.size,j,none⟩) (Nat.le_refl _) _⟩
  ·obtain rfl:m=j:=by omega
   rw[← HOL.out,List.take_of_length_le (Nat.le_refl _),Nat.sub_self,List.replicate_zero,List.append_nil,HOL.out]at ho;have htr:=(HT2.out.under (HB24.out.trans (hb.mono HB24.out.size)));have htz:turnZ x.sizes (odOf x.scope)=szOf zs (rise x.scope):=by rw[HZ.out];exact turnZ_szOf HN.out
   have htu:=turn_any htr HSZ.out (some ⟨w4.heap.size,0,none⟩) m m (odOf x.scope) (Reads.of_own ho) (odOf_ord HN.out) (by rw[HOL.out,HXL.out,HM.out]) (by rw[htz];exact HP2.out) HK.out HF.out;rw[htz]at htu;have HB:=Hd hb;clear ho hb htr;go_wp2_with fail;refine htu.mono ?_;rintro e w7 ⟨g2,rfl,ht7,hB7⟩;clear htu;go_wp2_with fail;go_ret2;have hw4:w.heap.size≤w4.heap.size:=(bto HB2.out HB24.out).size;have hwr:w.heap.size≤wr.heap.size:=(bto (bto HB2.out HB24.out) HB.out).size;refine⟨A4,c4,g2,rfl,own_base (own_under (own_under HO4.out HB.out) hB7) (by have:=HB2.out.size;have:=HB3.out.size;omega),?_,bto (bto (bto HB2.out HB24.out) HB.out) hB7⟩;have:=ht7.mono (F':=fun q=>w.heap.size≤q) (R':=fun q=>w.heap.size≤q) (fun q h=>by omega) (fun q h=>by omega)
   rwa [tabF_congr (g:=fun t=>(tpOf x K x.lines).get (ownT x.scope (rise x.scope) t)) (fun z hz'=>by rw[← htz]at hz';exact ((turnZ_szs HSZ.out (odOf_ord HN.out) (by rw[HOL.out,HXL.out,HM.out])).2 z hz').1) (fun t ht=>by rw[backT_ownT HN.out (by rw[ht.1];unfold szOf;rw[List.length_map,rise_len])])]at this
end Go.Proofs.YtjpkkkphhaajgaaGreatDoor.wcp
namespace Go.Proofs.YtjpkkkphhaajgaaGreatDoor.wcp
open Go RowKit ChangeShapes WideShapes ChangeAt Maps words scn
set_option maxRecDepth 100000 in
set_option maxHeartbeats 16000000 in
theorem sizes_any {w:World}{ga gb:Nat}{Fa Ra Fb Rb:Nat→Prop}{zs:List Int}{ka kb:Int}{Ca Cb:List Int}(ha:TabV w ga Fa Ra zs ka Ca)(hb:TabV w gb Fb Rb zs kb Cb)(V X Y:Option Addr)(m cv cx cy:Nat)(sc:List Int)(hv:Reads w w.heap.size 1 V m (nums sc))(hx:Reads w w.heap.size 1 X m (nums sc))(hy:Reads w w.heap.size 1 Y m (nums sc))(hnd:sc.Nodup)(hl:sc.length=zs.length)(hm6:m≤6) :
 Calls Tryz.prog 105 #[.slice V m cv,.pointer (some ⟨ga,0,none⟩),.slice X m cx,.pointer (some ⟨gb,0,none⟩),.slice Y m cy] w fun e w' => ∃g,e = .returned (.tuple #[.slice (some ⟨g,0,none⟩) m m,.bool true])∧w'.ownsRow w.heap.size 3 1 (.slice (some ⟨g,0,none⟩) m m) m (nums zs)∧Below w.heap.size w w':=by
 have hnl:=nums_len hv;obtain⟨-,SA,sa,CA,ca,hba,hsa,-,-,-⟩:=ha;obtain⟨-,SB,sb,CB,cb,hbb,hsb,-,-,-⟩:=hb
 have hY:Hid (∀W,Below w.heap.size w W→W.cell? ⟨ga,0,none⟩=some (.slice SA zs.length sa)∧W.cell? ⟨gb,0,none⟩=some (.slice SB zs.length sb)∧(∀i:Int,Calls Tryz.prog 148 #[.agg #[.slice SA zs.length sa],.int .i64 i] W fun e w'=>e = .returned (.int .i64 (shp.sizeAt zs i))∧Below W.heap.size W w') ∧
  (∀i:Int,Calls Tryz.prog 148 #[.agg #[.slice SB zs.length sb],.int .i64 i] W fun e w'=>e = .returned (.int .i64 (shp.sizeAt zs i))∧Below W.heap.size W w')):=fun W hW =>
  ⟨(Blk.three (t:=117) (hba.under hW)).1,(Blk.three (t:=117) (hbb.under hW)).1,fun i=>shp.size_any SA zs.length sa zs i W (by omega) (Reads.of_own (own_under hsa hW)),fun i=>shp.size_any SB zs.length sb zs i W (by omega) (Reads.of_own (own_under hsb hW))⟩
 obtain⟨i0,hi0,hz0,hz1,hz2⟩:=info_parts infoI;have hmk:=fun W=>run_make_rowN (P:=Tryz.prog) 31 3 i0 _ Tryz.underlying31 hi0 hz0 .i64 .i64 m m (Nat.le_refl _) (by rw[hz2];omega) (by omega) W
 have hown:(w.alloc (.cells (madeCells #[.int .i64 0] m) 3)).ownsRow w.heap.size 3 1 (.slice (some ⟨w.heap.size,0,none⟩) m m) m (nums (zs.take 0++List.replicate (zs.length-0) 0)):=by
  rw[List.take_zero,List.nil_append,Nat.sub_zero,← hl,hnl,← nums_rep];exact World.ownsRow_lit w _ m (Nat.le_refl _) (by unfold maxLen;omega) (by simp[madeCells])
 have hb5:=bone w (.cells (madeCells #[.int .i64 0] m) 3);have HNE:Hid (w.heap.size≠ga∧w.heap.size≠gb):=⟨by have:=hba.lt;omega,by have:=hbb.lt;omega⟩;have HV:=Hd hv;have HX:=Hd hx;have HYY:=Hd hy;have HN:=Hd hnd;have HL:=Hd hl;clear hv hx hy hnd hba hbb hsa hsb hl
 go_enter Tryz.func105,Tryz.ntmps105
 go_wp2_with fail
 go_loopw [13,14,22] (fun _ _ iv wr => ∃j:Nat,iv = .int .i64 j∧j≤m∧wr.ownsRow w.heap.size 3 1 (.slice (some ⟨w.heap.size,0,none⟩) m m) m (nums (zs.take j++List.replicate (zs.length-j) 0))∧Below w.heap.size w wr) (fun _ _ iv _=>m-(intOf iv).toNat)
 case atStart=>exact⟨0,rfl,Nat.zero_le _,hown,hb5⟩
 case round =>
  clear hown hb5;obtain⟨j,rfl,hj,ho,hb⟩:=hrel;by_cases hlt:j<m
  ·obtain⟨ad,p,rfl,_,hpx,hc⟩:=(HV.out.below hb).num hlt
   have hps:p∈sc:=List.mem_of_getElem? hpx
   have HIX:Hid (∀W,Below w.heap.size w W→Calls Tryz.prog 101 #[.slice X m cx,.int .i64 p] W fun e w'=>e = .returned (.int .i64 j)∧Below W.heap.size W w'):=fun W hW=>(indexI_any X m cx sc p W (by omega) ((HX.out.below hW).more hW.size)).mono fun e w' ⟨⟨r,h1,h2⟩,h3⟩=>by
    rcases h2 with⟨q,rfl,hq,-⟩ | ⟨-,hq⟩
    ·rw[nodup_idx HN.out hq hpx]at h1;exact⟨h1,h3⟩
    ·exact absurd hps hq
   have HIY:Hid (∀W,Below w.heap.size w W→Calls Tryz.prog 101 #[.slice Y m cy,.int .i64 p] W fun e w'=>e = .returned (.int .i64 j)∧Below W.heap.size W w'):=fun W hW=>(indexI_any Y m cy sc p W (by omega) ((HYY.out.below hW).more hW.size)).mono fun e w' ⟨⟨r,h1,h2⟩,h3⟩=>by
    rcases h2 with⟨q,rfl,hq,-⟩ | ⟨-,hq⟩
    ·rw[nodup_idx HN.out hq hpx]at h1;exact⟨h1,h3⟩
    ·exact absurd hps hq
   have hix:=HIX.out wr hb;have HO:=Hd ho;have HB:=Hd hb;have HPX:=Hd hpx
   have HPZ:Hid (zs[j]?=some (shp.sizeAt zs (j:Int))):=by
    have hjz:j<zs.length:=by have:=HL.out;omega
    simp[Hid,shp.sizeAt,List.getD,List.getElem?_eq_getElem hjz]
   clear ho hb hpx hps;go_wp2_with fail;refine hix.mono ?_;rintro e w5 ⟨rfl,hb5⟩;have HB5:=Hd (bto HB.out hb5);have hiy:=HIY.out w5 HB5.out;have HO5:=Hd (own_under HO.out hb5);clear hix hb5 hc;go_wp2_with fail;refine hiy.mono ?_;rintro e w6 ⟨rfl,hb6⟩;have HB6:=Hd (bto HB5.out hb6);have HO6:=Hd (own_under HO5.out hb6);clear hiy hb6;obtain⟨x0,x1,hA0,hB0⟩:=hY.out w6.drew (HB6.out.drew);have hg1:decide ((0:Int)≤(j:Int))=true:=decide_eq_true (by omega);have HA0:=Hd (hA0 j);clear hA0 hB0;go_upto_region 6 with fail;have hne:(shp.sizeAt zs (j:Int) != shp.sizeAt zs (j:Int))=false:=by simp
   have HB6d:=Hd HB6.out.drew
   go_cut [53] from 33 to 53 (fun v wq=>v = .bool false∧Hid (Below w6.heap.size w6 wq))
   case first =>
    have HC6:Hid (Below w6.heap.size w6 w6.drew):=(Below.refl _ _).drew;refine wp_region_held_drew (S:=(fun W=>W.cell? ⟨ga,0,none⟩=some (.slice SA zs.length sa)∧W.cell? ⟨gb,0,none⟩=some (.slice SB zs.length sb))) (by kernel_rfl) ⟨x0,x1⟩ (fun hHeld=>?_);refine takes [0,1,2,3,4,5,6,7,8,9,10,11,13,14,15,16,17] hHeld (by kernel_rfl) (fun _ _ _ _ _ h=>h) ?_
    iterate 17
     conv=>whnf
     refine⟨?_,.inl ⟨by kernel_rfl,fun w hSw=>?_⟩,?_⟩
     rotate_left
     ·(try dsimp only at hSw);go_simp;try with_reducible rfl
     try simp only[Act.put,ya,yb,yc]
    refine Yt.nil ?_;refine wpAnyH_ready (rs := [12]) (by kernel_rfl) (by simp) ?_;refine AllReadyH.cons rfl (fun K hK=>?_) AllReadyH.nil;go_simp;refine ((hY.out _ HB6d.out).2.2.1 j).mono ?_;rintro e wa ⟨rfl,hbwa⟩;dsimp only;have HBwa:=Hd (bto HB6d.out hbwa);have HCwa:=Hd (bto HC6.out hbwa);refine hK.out _ _ ⟨(hY.out _ HBwa.out).1,(hY.out _ HBwa.out).2.1⟩ (fun hHeldwa=>?_);clear hK K hbwa
    try simp only[Act.put,ya,yb,yc]
    refine wpAnyH_ready (rs := [18]) (by kernel_rfl) (by simp) ?_;refine AllReadyH.cons rfl (fun K hK=>?_) AllReadyH.nil;go_simp;refine ((hY.out _ HBwa.out).2.2.2 j).mono ?_;rintro e wb ⟨rfl,hbwb⟩;dsimp only;have HBwb:=Hd (bto HBwa.out hbwb);have HCwb:=Hd (bto HCwa.out hbwb);refine hK.out _ _ ⟨(hY.out _ HBwb.out).1,(hY.out _ HBwb.out).2.1⟩ (fun hHeldwb=>?_);clear hK K hbwb
    try simp only[Act.put,ya,yb,yc]
    refine takes [19,20] hHeldwb (by kernel_rfl) (fun _ _ _ _ _ h=>h) ?_
    iterate 2
     conv=>whnf
     refine⟨?_,.inl ⟨by kernel_rfl,fun w hSw=>?_⟩,?_⟩
     rotate_left
     ·(try dsimp only at hSw);go_simp;try with_reducible rfl
     try simp only[Act.put,ya,yb,yc]
    refine Yt.nil ?_;refine wpAnyH_done (by kernel_rfl) ?_ _
    try go_simp
    try go_wp2_with fail
    go_meet
    case rel=>exact⟨rfl,HCwb.out⟩
   case rest =>
    obtain⟨rfl,hcb⟩:=hcut;have HBc:=Hd (bto HB6.out hcb.out);have HBcd:=Hd HBc.out.drew;clear x0 x1;have HOC:=Hd (own_under HO6.out hcb.out);obtain⟨x0,x1,-⟩:=hY.out wc.drew HBcd.out;have HCd:Hid (Below wc.heap.size wc wc.drew):=(Below.refl _ _).drew;have hsv:max (shp.sizeAt zs (j:Int)) (shp.sizeAt zs (j:Int))=shp.sizeAt zs (j:Int):=by omega
    have i0:(0:Int)≤(j:Int):=by omega
    have i1:(j:Int)<(m:Int):=by omega
    clear hcb;go_upto_region 8 with fail;refine wp_region_held_drew (S:=(fun W=>W.cell? ⟨ga,0,none⟩=some (.slice SA zs.length sa)∧W.cell? ⟨gb,0,none⟩=some (.slice SB zs.length sb))) (by kernel_rfl) ⟨x0,x1⟩ (fun hHeld=>?_);refine takes [0,1,2,3,4,5,6,8,9,10,11,12] hHeld (by kernel_rfl) (fun _ _ _ _ _ h=>h) ?_
    iterate 12
     conv=>whnf
     refine⟨?_,.inl ⟨by kernel_rfl,fun w hSw=>?_⟩,?_⟩
     rotate_left
     ·(try dsimp only at hSw);go_simp;try with_reducible rfl
     try simp only[Act.put,ya,yb,yc]
    refine Yt.nil ?_;refine wpAnyH_ready (rs := [7]) (by kernel_rfl) (by simp) ?_;refine AllReadyH.cons rfl (fun K hK=>?_) AllReadyH.nil;go_simp;refine ((hY.out _ HBcd.out).2.2.1 j).mono ?_;rintro e wa ⟨rfl,hbwa⟩;dsimp only;have HBwa:=Hd (bto HBcd.out hbwa);have HCwa:=Hd (bto HCd.out hbwa);refine hK.out _ _ ⟨(hY.out _ HBwa.out).1,(hY.out _ HBwa.out).2.1⟩ (fun hHeldwa=>?_);clear hK K hbwa
    try simp only[Act.put,ya,yb,yc]
    refine wpAnyH_ready (rs := [13]) (by kernel_rfl) (by simp) ?_;refine AllReadyH.cons rfl (fun K hK=>?_) AllReadyH.nil;go_simp;refine ((hY.out _ HBwa.out).2.2.2 j).mono ?_;rintro e wb ⟨rfl,hbwb⟩;dsimp only;have HBwb:=Hd (bto HBwa.out hbwb);have HCwb:=Hd (bto HCwa.out hbwb);refine hK.out _ _ ⟨(hY.out _ HBwb.out).1,(hY.out _ HBwb.out).2.1⟩ (fun hHeldwb=>?_);clear hK K hbwb
    try simp only[Act.put,ya,yb,yc]
    refine takes [14,15] hHeldwb (by kernel_rfl) (fun _ _ _ _ _ h=>h) ?_
    iterate 2
     conv=>whnf
     refine⟨?_,.inl ⟨by kernel_rfl,fun w hSw=>?_⟩,?_⟩
     rotate_left
     ·(try dsimp only at hSw);go_simp;try with_reducible rfl
     try simp only[Act.put,ya,yb,yc]
    refine Yt.nil ?_;have HOB:=Hd (own_under HOC.out HCwb.out);obtain⟨u,hu⟩:∃u,(nums (zs.take j++List.replicate (zs.length-j) 0))[j]?=some u:=⟨_,List.getElem?_eq_getElem (by have:=HL.out;simp[nums];omega)⟩;have hf9:=HOB.out.frozenAt j;have hc9:=(HOB.out.cellAt j (by omega)).trans hu;refine wpAnyH_ready (rs := [16]) (by kernel_rfl) (by simp) ?_;refine AllReadyH.cons rfl (fun K hK=>?_) AllReadyH.nil;go_simp;refine hK.out _ _ ⟨?_,?_⟩ (fun _=>?_)
    ·rw[World.cell?_setCell_far _ _ _ _ HNE.out.1];exact hHeldwb.1
    ·rw[World.cell?_setCell_far _ _ _ _ HNE.out.2];exact hHeldwb.2
    clear hK K;refine wpAnyH_done (by kernel_rfl) ?_ _;have HBF:=Hd ((HBc.out.trans (HCwb.out.mono HBc.out.size)).setCell (p:=⟨w.heap.size,j,none⟩) (Nat.le_refl _) (.int .i64 (shp.sizeAt zs (j:Int))));have hst:=(HOB.out.stored j (.int .i64 (shp.sizeAt zs (j:Int)))).1;rw[set_part HPZ.out]at hst;have HOF:=Hd hst;clear hst hu hf9 hc9;go_wp2_with fail;go_roundw
    case measure=>simp[intOf];omega
    case rel=>exact⟨j+1,by go_num,by omega,HOF.out,HBF.out⟩
  ·obtain rfl:m=j:=by omega
   rw[List.take_of_length_le (by have:=HL.out;omega),show zs.length-m=0 by have:=HL.out;omega,List.replicate_zero,List.append_nil]at ho;go_wp2_with fail;go_ret2;exact⟨_,rfl,ho,hb⟩
def partT (x vars sc:List Int):List Int:=sc.map fun v=>x.getD (vars.idxOf v) 0
theorem partT_len (x vars sc:List Int):(partT x vars sc).length=sc.length:=by unfold partT;rw[List.length_map]
set_option maxRecDepth 100000 in
set_option maxHeartbeats 8000000 in
theorem part_any (X V S:Option Addr)(nx cx nv cv m cap:Nat)(x vars sc:List Int)(w:World)(hx:Reads w w.heap.size 1 X nx (nums x))(hv:Reads w w.heap.size 1 V nv (nums vars))(hs:Reads w w.heap.size 1 S m (nums sc))(hnd:vars.Nodup)(hsub:∀v∈sc,v∈vars)(hxl:x.length=vars.length)(hm6:m≤4096)(hnv:nv≤4096) :
 Calls Tryz.prog 108 #[.slice X nx cx,.slice V nv cv,.slice S m cap] w fun e w' => ∃g,e = .returned (.slice (some ⟨g,0,none⟩) m m)∧w'.ownsRow w.heap.size 3 1 (.slice (some ⟨g,0,none⟩) m m) m (nums (partT x vars sc))∧Below w.heap.size w w':=by
 have hsm:=nums_len hs;have hvn:=nums_len hv;have hxn:=nums_len hx;obtain⟨i0,hi0,hz0,hz1,hz2⟩:=info_parts infoI;have hmk:=fun W=>run_make_rowN (P:=Tryz.prog) 31 3 i0 _ Tryz.underlying31 hi0 hz0 .i64 .i64 m m (Nat.le_refl _) (by rw[hz2];omega) (by omega) W
 have hol:(partT x vars sc).length=m:=by rw[partT_len];exact hsm
 have hown:(w.alloc (.cells (madeCells #[.int .i64 0] m) 3)).ownsRow w.heap.size 3 1 (.slice (some ⟨w.heap.size,0,none⟩) m m) m (nums ((partT x vars sc).take 0++List.replicate ((partT x vars sc).length-0) 0)):=by
  rw[List.take_zero,List.nil_append,Nat.sub_zero,hol,← nums_rep];exact World.ownsRow_lit w _ m (Nat.le_refl _) (by unfold maxLen;omega) (by simp[madeCells])
 have hb5:=bone w (.cells (madeCells #[.int .i64 0] m) 3);have HOL:=Hd hol;have HX:=Hd hx;have HV:=Hd hv;have HS:=Hd hs;have HN:=Hd hnd;have HSUB:=Hd hsub;clear hol hx hv hs hnd hsub
 go_enter Tryz.func108,Tryz.ntmps108
 go_wp2_with fail
 go_loopw [8,9,15] (fun _ _ iv wr => ∃j:Nat,iv = .int .i64 j∧j≤m∧wr.ownsRow w.heap.size 3 1 (.slice (some ⟨w.heap.size,0,none⟩) m m) m (nums ((partT x vars sc).take j++List.replicate ((partT x vars sc).length-j) 0))∧Below w.heap.size w wr) (fun _ _ iv _=>m-(intOf iv).toNat)
 case atStart=>exact⟨0,rfl,Nat.zero_le _,hown,hb5⟩
 case round =>
  clear hown hb5;obtain⟨j,rfl,hj,ho,hb⟩:=hrel;by_cases hlt:j<m
  ·obtain⟨ad,p,rfl,_,hpx,hc⟩:=(HS.out.below hb).num hlt
   obtain⟨u,hu⟩:∃u,(nums ((partT x vars sc).take j++List.replicate ((partT x vars sc).length-j) 0))[j]?=some u:=⟨_,List.getElem?_eq_getElem (by have:=HOL.out;simp[nums];omega)⟩;have hcj:=(ho.cellAt j (by omega)).trans hu;have hps:p∈vars:=HSUB.out p (List.mem_of_getElem? hpx);have hid:=idx_mem hps;obtain⟨q,hq⟩:∃q,vars.idxOf p=q:=⟨_,rfl⟩;rw[hq]at hid;have hql:q<nx:=by have:=(List.getElem?_eq_some_iff.1 hid).1;omega
   obtain⟨ad2,y,rfl,_,hy,hcx⟩:=(HX.out.below hb).num hql;have hod:(partT x vars sc)[j]?=some y:=by unfold partT;rw[List.getElem?_map,hpx,Option.map_some,hq,List.getD,hy];rfl
   have hix:=indexI_any V nv cv vars p wr (by omega) ((HV.out.below hb).more hb.size);have hf:=ho.frozenAt j;have HSP:=Hd (set_part hod);have HO:=Hd ho;have HB:=Hd hb;have HID:=Hd hid;have HPS:=Hd hps;have i0':(0:Int)≤(j:Int):=by omega
   have i1':(j:Int)<(m:Int):=by omega
   have i2':(0:Int)≤(q:Int):=by omega
   have i3':(q:Int)<(nx:Int):=by omega
   clear hpx hu hod ho hb hps hid hq hy hf;go_wp2_with fail;refine hix.mono ?_;rintro e w6 ⟨⟨r,rfl,hr⟩,hb6⟩
   have hr':r=(q:Int):=by
    rcases hr with⟨q',rfl,hq,-⟩ | ⟨-,hq⟩
    ·rw[nodup_idx HN.out hq HID.out]
    ·exact absurd HPS.out hq
   subst hr';have ho6:=own_under HO.out hb6;have hf6:=ho6.frozenAt j;have hcj6:=((bcell hb6).1 w.heap.size j (own_in HO.out rfl).2).trans hcj;have hcx6:w6.cell? (ad2.add q)=some (.int .i64 y):=(hb6.cell (World.block_lt_of_cell? wr _ hcx)).trans hcx;have HO6:=Hd ho6;have HB6:=Hd hb6;clear hix ho6 hb6 hcj hc hr hcx;go_wp2_with fail;go_roundw
   case measure=>simp[intOf];omega
   case rel=>exact⟨j+1,by go_num,by omega,by rw[← HSP.out];exact (HO6.out.stored j _).1,(bto HB.out HB6.out).setCell (p:=⟨w.heap.size,j,none⟩) (Nat.le_refl _) _⟩
  ·obtain rfl:m=j:=by omega
   rw[← HOL.out,List.take_of_length_le (Nat.le_refl _),Nat.sub_self,List.replicate_zero,List.append_nil,HOL.out]at ho;go_wp2_with fail;go_ret;exact⟨_,rfl,ho,hb⟩
end Go.Proofs.YtjpkkkphhaajgaaGreatDoor.wcp
namespace Go.Proofs.YtjpkkkphhaajgaaGreatDoor.wcp
open Go RowKit ChangeShapes WideShapes ChangeAt Maps words scn
open shp (Szs prodI InT idxI tupI allI)
abbrev GT:=Value × CF
def gcells (V:List GT):List Value:=V.flatMap fun p=>match p.1 with | .agg cs=>cs.toList | _ => []
def NoFn (w:World)(S:Nat→Prop):Prop := ∀q,S q→∃t cs,Blk w q t cs∧t≠117∧t≠3∧t≠2
theorem TabV.off {w w':World}{g:Nat}{F R S:Nat→Prop}{zs:List Int}{k:Int}{C:List Int}(h:TabV w g F R zs k C)(ht:Tch w w' S)(hS:NoFn w S):TabV w' g F R zs k C:=by
 obtain⟨hg,SA,sc,CA,cc,hb,h1,h2,h3,h4⟩:=h
 have hoff:∀t,(t=117∨t=3∨t=2)→∀k cs,Blk w k t cs→¬ S k:=fun t ht k cs hb hs=>by
  obtain⟨t',cs',h1,h2,h3,h4⟩:=hS k hs;rcases ht with rfl | rfl | rfl
  ·exact Blk.ne_ h1 hb h2 rfl
  ·exact Blk.ne_ h1 hb h3 rfl
  ·exact Blk.ne_ h1 hb h4 rfl
 refine⟨hg,SA,sc,CA,cc,ht.blk hb (hoff _ (.inl rfl) _ _ hb),ht.own h1 fun q hq hs=>?_,h2,ht.own h3 fun q hq hs=>?_,h4⟩
 ·obtain⟨cs,hb'⟩:=own_is h1 hq
  exact hoff _ (.inr (.inl rfl)) _ cs hb' hs
 ·obtain⟨cs,hb'⟩:=own_is h3 hq
  exact hoff _ (.inr (.inr rfl)) _ cs hb' hs
def GV (w:World)(B:Nat)(K:Int)(p:GT):Prop :=
 ∃A c g,p.1 = .agg #[.slice A p.2.scope.length c,.pointer (some ⟨g,0,none⟩)]∧w.ownsRow B 3 1 (.slice A p.2.scope.length c) p.2.scope.length (nums p.2.scope)∧TabV w g (fun q=>B≤q) (fun q=>B≤q) p.2.sizes K p.2.C
theorem GV.off {w w':World}{B:Nat}{K:Int}{p:GT}{S:Nat→Prop}(h:GV w B K p)(ht:Tch w w' S)(hS:NoFn w S):GV w' B K p:=by
 obtain⟨A,c,g,h1,h2,h3⟩:=h;refine⟨A,c,g,h1,ht.own h2 fun q hq hs=>?_,h3.off ht hS⟩;obtain⟨cs,hb⟩:=own_is h2 hq;obtain⟨t',cs',h4,h5,h6,h7⟩:=hS q hs;exact Blk.ne_ h4 hb h6 rfl
theorem GV.under {w w':World}{B:Nat}{K:Int}{p:GT}(h:GV w B K p)(hb:Below w.heap.size w w'):GV w' B K p :=
 h.off (Tch.of_below hb fun _=>False) fun _ h=>h.elim
theorem GV.base {w:World}{B B':Nat}{K:Int}{p:GT}(h:GV w B K p)(hB:B'≤B):GV w B' K p:=by
 obtain⟨A,c,g,h1,h2,h3⟩:=h;exact⟨A,c,g,h1,own_base h2 hB,h3.mono (fun q h=>Nat.le_trans hB h) fun q h=>Nat.le_trans hB h⟩
theorem GV.two {w:World}{B:Nat}{K:Int}{p:GT}(h:GV w B K p):∃a b,p.1 = .agg #[a,b]:=by
 obtain⟨A,c,g,h1,-⟩:=h;exact⟨_,_,h1⟩
theorem gc_at {V:List GT}(h2:∀p∈V,∃a b,p.1 = .agg #[a,b]):∀ {i:Nat} {a b:Value} {f:CF},V[i]?=some (.agg #[a,b],f)→(gcells V)[i*2]?=some a∧(gcells V)[i*2+1]?=some b:=by
 induction V with
 |nil=>intro i a b f h;simp at h
 | cons q V ih =>
   intro i a b f h;obtain⟨a',b',hq⟩:=h2 q (by simp);obtain⟨qv,qf⟩:=q;dsimp only at hq;subst hq
   cases i with
   | zero =>
     simp at h;obtain⟨⟨rfl,rfl⟩,_⟩:=h
     exact⟨rfl,rfl⟩
   | succ i =>
     have:=ih (fun p hp=>h2 p (by simp[hp])) (i:=i) (by simpa using h);rw[show (i+1)*2=i*2+1+1 by omega];exact this
theorem gc_len {V:List GT}(h2:∀p∈V,∃a b,p.1 = .agg #[a,b]):(gcells V).length=V.length*2:=by
 induction V with
 |nil=>rfl
 | cons q V ih =>
   obtain⟨a',b',hq⟩:=h2 q (by simp);obtain⟨qv,qf⟩:=q;dsimp only at hq;subst hq;have:=ih fun p hp=>h2 p (by simp[hp])
   have e:gcells ((.agg #[a',b'],qf)::V)=a'::b'::gcells V:=rfl;rw[e,List.length_cons,List.length_cons,this,List.length_cons];omega
theorem gc_snoc (V:List GT)(a b:Value)(f:CF):gcells (V ++ [(.agg #[a,b],f)])=gcells V ++ [a,b]:=by simp[gcells]
theorem gc_set {V:List GT}(h2:∀p∈V,∃a b,p.1 = .agg #[a,b]):∀ {i:Nat} {a b b':Value} {f f':CF},V[i]?=some (.agg #[a,b],f)→(gcells V).set (i*2+1) b'=gcells (V.set i (.agg #[a,b'],f')):=by
 induction V with
 |nil=>intro i a b b' f f' h;simp at h
 | cons q V ih =>
   intro i a b b' f f' h;obtain⟨a0,b0,hq⟩:=h2 q (by simp);obtain⟨qv,qf⟩:=q;dsimp only at hq;subst hq
   cases i with
   | zero =>
     simp at h;obtain⟨⟨rfl,rfl⟩,_⟩:=h
     rfl
   | succ i =>
     have:=ih (fun p hp=>h2 p (by simp[hp])) (i:=i) (f':=f') (b':=b') (by simpa using h);rw[show (i+1)*2+1=i*2+1+1+1 by omega];show a0::b0::(gcells V).set (i*2+1) b'=a0::b0::gcells (V.set i _);rw[this]
theorem addC_new {k:Int}{l:List CF}{g:CF}(h:∀x∈l,x.scope≠g.scope):addC k l g=l ++ [g]:=by
 induction l with
 |nil=>rfl
 | cons a l ih =>
   unfold addC;rw[if_neg (h a (by simp)),ih fun x hx=>h x (by simp[hx])];rfl
theorem addC_at {k:Int}:∀ {l:List CF} {g h:CF} {i:Nat},l[i]?=some h→h.scope=g.scope→(∀j x,j<i→l[j]?=some x→x.scope≠g.scope)→addC k l g=l.set i ⟨h.scope,h.sizes,sumL k h.C g.C⟩:=by
 intro l
 induction l with
 |nil=>intro g h i hi;simp at hi
 | cons a l ih =>
   intro g h i hi he hj
   cases i with
   | zero =>
     obtain rfl:a=h:=by simpa using hi
     unfold addC
     rw[if_pos he];rfl
   | succ i =>
     unfold addC;rw[if_neg (hj 0 a (by omega) rfl),ih (by simpa using hi) he fun j x hji hx=>hj (j+1) x (by omega) (by simpa using hx)];rfl
structure GoodC (zs:List Int) (K:Int) (g:CF):Prop where
 rise:g.scope.Pairwise (fun a b=>a<b)
 vars:∀v∈g.scope,0≤v∧v<zs.length
 sizes:g.sizes=szOf zs g.scope
 szs:Szs g.sizes
 prod:prodI g.sizes≤4096
 tab:∃f,g.C=tabF g.sizes f∧∀t,InS g.sizes t→inB (f t) K=true
theorem sum_tab {zs:List Int}{k:Int}(f h:List Int→Int):sumL k (tabF zs f) (tabF zs h)=tabF zs fun t=>min (f t+h t) k:=by
 unfold sumL tabF;rw[List.zipWith_map,List.zipWith_self]
theorem addC_good {zs:List Int}{K:Int}{l:List CF}{g:CF}(h:∀x∈l,GoodC zs K x)(hg:GoodC zs K g):∀x∈addC K l g,GoodC zs K x:=by
 induction l with
 | nil =>
   intro x hx;unfold addC at hx
   rw[List.mem_singleton.1 hx];exact hg
 | cons a l ih =>
   intro x hx;unfold addC at hx;by_cases e:a.scope=g.scope
   ·rw[if_pos e]at hx
    rcases List.mem_cons.1 hx with rfl | hx
    ·have ha:=h a (by simp)
     obtain⟨f,e1,h1⟩:=ha.tab;obtain⟨f2,e2,h2⟩:=hg.tab;have hss:g.sizes=a.sizes:=by rw[hg.sizes,ha.sizes,e]
     refine⟨ha.rise,ha.vars,ha.sizes,ha.szs,ha.prod,fun t=>min (f t+f2 t) K,?_,fun t ht=>?_⟩
     ·show sumL K a.C g.C=_
      rw[e1,e2,hss,sum_tab]
     ·have i1:=h1 t ht
      have i2:=h2 t (by rw[hss];exact ht);unfold inB at i1 i2 ⊢;rw[decide_eq_true_eq]at i1 i2 ⊢;dsimp only;omega
    ·exact h x (by simp[hx])
   ·rw[if_neg e]at hx
    rcases List.mem_cons.1 hx with rfl | hx
    ·exact h _ (by simp)
    ·exact ih (fun x hx=>h x (by simp[hx])) x hx
end Go.Proofs.YtjpkkkphhaajgaaGreatDoor.wcp
namespace Go.Proofs.YtjpkkkphhaajgaaGreatDoor.wcp
open Go RowKit ChangeShapes WideShapes ChangeAt Maps words scn
theorem canon1_any {w:World}{B:Nat}{K:Int}{p:GT}(h:GV w B K p)(gb m c:Nat)(A:Option Addr)(sc:List Int)(hb:Blk w gb 31 #[.slice A m c])(hr:Reads w w.heap.size 1 A m (nums sc))(hm:m≤64)(hp:p.2.scope.length≤64) :
 Calls Tryz.prog 38 #[p.1,.pointer (some ⟨gb,0,none⟩)] w fun e w'=>e = .returned (.bool (decide (p.2.scope=sc)))∧Below w.heap.size w w':=by
 obtain⟨A1,c1,g,h1,h2,h3⟩:=h;rw[h1];clear h3 h1;obtain⟨w1,hw1⟩:∃w1,w.alloc (.cells #[.slice A1 p.2.scope.length c1,.pointer (some ⟨g,0,none⟩)] 88)=w1:=⟨_,rfl⟩;have hb1:Below w.heap.size w w1:=by rw[← hw1];exact bone w _
 have hx:Blk w1 w.heap.size 88 #[.slice A1 p.2.scope.length c1,.pointer (some ⟨g,0,none⟩)]:=by rw[← hw1];exact Blk.new _ _ _
 obtain⟨d0,d1⟩:=hx.two;obtain⟨e0,-⟩:=(hb.under hb1).one;have he:=equalI_any A1 A p.2.scope.length m c1 c p.2.scope sc w1 (by omega) (by omega) (Reads.of_own (own_under h2 hb1)) ((hr.below hb1).more hb1.size);obtain⟨n,hn⟩:∃n,p.2.scope.length=n:=⟨_,rfl⟩;rw[hn]at hw1 d0 he;rw[hn];have HB:=Hd hb1;clear h2 hb hr hb1 hx
 go_enter Tryz.func38,Tryz.ntmps38
 go_wp2_with fail;refine he.mono ?_;rintro e w2 ⟨rfl,hb2⟩;clear he;go_wp2_with fail;go_ret;exact⟨rfl,bto HB.out hb2⟩
def FirstS (V:List GT)(sc:List Int)(e:Ending):Prop :=
 (e = .returned (.int .i64 (-1))∧∀p∈V,p.2.scope≠sc)∨∃ (i:Nat) (p:GT),e = .returned (.int .i64 i)∧V[i]?=some p∧p.2.scope=sc∧∀ (j:Nat) x,j<i→V[j]?=some x→x.2.scope≠sc
set_option maxRecDepth 100000 in
set_option maxHeartbeats 8000000 in
theorem indexC_any {w:World}{B B':Nat}{K:Int}{V:List GT}{L:Option Addr}{lc:Nat}(hrow:w.ownsRow B' 88 2 (.slice L V.length lc) V.length (gcells V))(hv:∀p∈V,GV w B K p∧p.2.scope.length≤64)(hV:V.length≤256)(gb m c:Nat)(A:Option Addr)(sc:List Int)(hb:Blk w gb 31 #[.slice A m c])(hr:Reads w w.heap.size 1 A m (nums sc))(hm:m≤64) :
 Calls Tryz.prog 37 #[.slice L V.length lc,.func (.func 38) #[] #[.pointer (some ⟨gb,0,none⟩)]] w fun e w'=>FirstS V sc e∧Below w.heap.size w w':=by
 have H2:Hid (∀p∈V,∃a b,p.1 = .agg #[a,b]):=fun p hp=>(hv p hp).1.two
 have HV:=Hd hv;have HROW:=Hd hrow;have HB:=Hd hb;have HR:=Hd hr;clear hv hrow hb hr
 go_enter Tryz.func37,Tryz.ntmps37
 go_wp2_with fail
 go_loopw [5,8] (fun _ jv wr => ∃j:Nat,jv = .int .i64 j∧j≤V.length∧Hid (∀ (i:Nat) x,i<j→V[i]?=some x→x.2.scope≠sc)∧Below w.heap.size w wr) (fun _ jv _=>V.length-(intOf jv).toNat)
 case atStart=>exact⟨0,rfl,Nat.zero_le _,(fun i x hi=>by omega),Below.refl _ _⟩
 case round =>
  obtain⟨j,rfl,hj,HN,hb⟩:=hrel;by_cases hlt:j<V.length
  ·have hrow:=own_under HROW.out hb
   obtain⟨p,hp⟩:∃p,V[j]?=some p:=⟨_,List.getElem?_eq_getElem hlt⟩;have hpm:=List.mem_of_getElem? hp;have hfp:=(HV.out p hpm).1.under hb;have hp64:=(HV.out p hpm).2;obtain⟨a,b,hab⟩:=H2.out p hpm;have hun:=canon1_any hfp gb m c A sc (HB.out.under hb) ((HR.out.below hb).more hb.size) hm hp64;obtain⟨pv,pf⟩:=p;dsimp only at hab hfp hun hp64;subst hab;obtain⟨c0,c1⟩:=gc_at H2.out hp;obtain⟨fq,rfl,_,_⟩:=own_some hrow (by omega);have d0:=(hrow.cellAt (j*2) (by omega)).trans c0;have d1:=(hrow.cellAt (j*2+1) (by omega)).trans c1;have i0:(0:Int)≤(j:Int):=Int.natCast_nonneg _;have i1:(j:Int)<(V.length:Int):=by omega
   have HBW:=Hd hb;have HP:=Hd hp;obtain⟨v1,k1,tg,e1,-⟩:=hfp;injection e1 with e1
   obtain⟨rfl,rfl⟩:a = .slice v1 pf.scope.length k1∧b = .pointer (some ⟨tg,0,none⟩):=by simpa using e1
   clear hrow hp hpm c0 c1 hb e1
   cases hdc:decide (pf.scope=sc) with
   | false =>
     rw[hdc]at hun;have HD:=Hd hdc;clear hdc;go_wp2_with fail;refine hun.mono ?_;rintro e w2 ⟨rfl,hb2⟩;clear hun;have HB2:=Hd (bto HBW.out hb2);clear hb2 d0 d1;go_wp2_with fail;go_roundw
     case measure=>simp[intOf];omega
     case rel =>
      refine⟨j+1,by go_num,by omega,fun i x hi hx=>?_,HB2.out⟩;by_cases hij:i=j
      ·subst hij
       rw[HP.out]at hx;obtain rfl:=Option.some.inj hx;exact of_decide_eq_false HD.out
      ·exact HN.out i x (by omega) hx
   | true =>
     rw[hdc]at hun;have HD:=Hd hdc;clear hdc;go_wp2_with fail;refine hun.mono ?_;rintro e w2 ⟨rfl,hb2⟩;clear hun;have HB2:=Hd (bto HBW.out hb2);clear hb2 d0 d1;go_wp2_with fail;go_ret;exact⟨.inr ⟨j,_,rfl,HP.out,of_decide_eq_true HD.out,HN.out⟩,HB2.out⟩
  ·obtain rfl:j=V.length:=by omega
   have HBW:=Hd hb;clear hb;go_wp2_with fail;go_ret;refine⟨.inl ⟨rfl,fun p hp=>?_⟩,HBW.out⟩;obtain⟨i,hi⟩:=List.getElem?_of_mem hp;exact HN.out i p (List.getElem?_eq_some_iff.1 hi).1 hi
end Go.Proofs.YtjpkkkphhaajgaaGreatDoor.wcp

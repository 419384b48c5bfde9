/- a part -/
import Derived.Test.YtjpkkkphhaajgaaGreatDoorQdP26
import Derived.Test.YtjpkkkphhaajgaaGreatDoorQdP30
set_option linter.all false
namespace Go.Proofs.YtjpkkkphhaajgaaGreatDoor.wcp
open Go RowKit ChangeShapes WideShapes ChangeAt Maps words scn
open shp (Szs prodI InT idxI tupI allI)
theorem okT.szs {T:TpH}(h:okT T):Szs T.sizes:=⟨h.1,h.2.1⟩
theorem off_put {w:World}{F:Nat→Prop}{t:TypeId}{B:Nat}(hne:2≠t):Off w B (fun q=>F q∧∃cs,Blk w q 2 cs) t:=fun q hq => .inr fun cs hb=>by
 obtain⟨cs',hb'⟩:=hq.2;exact Blk.ne_ hb' hb hne rfl
theorem fold_get {T:TpH}{L:List (List Int)}(hL:DomT T L){t:List Int}(ht:Tpl_ T.sizes.length t):foldF (fun _=>T.other) (linesT T L) t=T.get t:=by
 rw[foldF_at (h:=fun t=>(T.f t).getD 0) fun l hl=>by
  unfold linesT at hl;obtain⟨u,-,rfl⟩:=List.mem_map.1 hl
  rfl]
 have hm:t∈(linesT T L).map (·.1)↔(T.f t).isSome=true:=by
  unfold linesT;rw[List.map_map];have:(fun (t:List Int)=>t)=((fun (x:List Int × Int)=>x.1) ∘ fun t=>(t,(T.f t).getD 0)):=rfl;rw[← this,List.map_id',hL.mem t];exact⟨fun h=>h.2,fun h=>⟨ht,h⟩⟩
 unfold TpH.get;by_cases h:(T.f t).isSome=true
 ·rw[if_pos (hm.2 h)]
  obtain⟨c,hc⟩:=Option.isSome_iff_exists.1 h;rw[hc];rfl
 ·rw[if_neg fun h'=>h (hm.1 h')]
  cases hc:T.f t with
  |none=>rfl
  |some c=>rw[hc]at h;exact absurd rfl h
set_option maxRecDepth 100000 in
set_option maxHeartbeats 8000000 in
theorem ttable_any {w:World}{g n:Nat}{F:Nat→Prop}{T:TpH}(hT:TpV w g F n T)(hv:okV T)(hp:prodI T.sizes≤4096)(hn:n≤100000) :
 Calls Tryz.prog 19 #[.pointer (some ⟨g,0,none⟩)] w fun e w' => ∃g2,e = .returned (.tuple #[.pointer (some ⟨g2,0,none⟩),.int .i64 0])∧TabV w' g2 (fun q=>w.heap.size≤q) (fun q=>w.heap.size≤q) T.sizes T.k (tabF T.sizes T.get)∧Below w.heap.size w w':=by
 have hz:=hv.ok.szs;have HT:=Hd hT;obtain⟨hg,A,c,mb,D,hb,ho,-⟩:=hT;obtain⟨q0,q1,q2,q3,-⟩:=Blk.four (t:=103) hb;have hnw:=tabnew_any A T.sizes.length c T.sizes T.k T.other w.drew (Reads.of_own ho) hz hp hv.ok.2.2;clear hb ho
 go_enter Tryz.func19,Tryz.ntmps19
 go_upto_region 3 with fail
 go_cut [4,5] (fun u v wq => ∃g2,u = .pointer (some ⟨g2,0,none⟩)∧v = .int .i64 0∧TabV wq g2 (fun q=>w.heap.size≤q) (fun q=>w.heap.size≤q) T.sizes T.k (New T.sizes T.other)∧Below w.heap.size w wq)
 case first =>
  go_region_held3 (fun W=>W.cell? ⟨g,0,none⟩=some (.slice A T.sizes.length c)∧W.cell? ⟨g,1,none⟩=some (.int .i64 T.k)∧W.cell? ⟨g,2,none⟩=some (.int .i64 T.other)) (first | exact⟨q0,q1,q2⟩ | exact HS) (first
   |(go_at_call 54;refine hnw.mono ?_;rintro e w1 ⟨g2,rfl,hTab,hB1⟩;have hB1':Below w.heap.size w w1:=⟨hB1.os,hB1.tape,hB1.output,hB1.size,hB1.block⟩;have HS:w1.cell? ⟨g,0,none⟩=some (.slice A T.sizes.length c)∧w1.cell? ⟨g,1,none⟩=some (.int .i64 T.k)∧w1.cell? ⟨g,2,none⟩=some (.int .i64 T.other):=(by
    obtain⟨hg,A',c',mb',D',hb',ho',-⟩:=HT.out;have hlt:=hb'.lt
    exact⟨(hB1'.cell (p:=⟨g,0,none⟩) hlt).trans q0,(hB1'.cell (p:=⟨g,1,none⟩) hlt).trans q1,(hB1'.cell (p:=⟨g,2,none⟩) hlt).trans q2⟩);have HTAB:=Hd hTab;have HB1:=Hd hB1';clear hnw hTab hB1 hB1'))
  all_goals
   go_wp2_with fail
   go_meet
   case rel=>exact⟨g2,rfl,rfl,HTAB.out,HB1.out⟩
 case rest =>
  obtain⟨g2,rfl,rfl,hTab,hB1⟩:=hcut;have hTc:=TpV.keep HT.out (Tch.of_below hB1 fun _=>False) fun _ _ h=>h
  have hli:=tlines_any hTc hv.ok.1 hn;have HTAB:=Hd hTab;have HB1:=Hd hB1;clear hTab hB1 hTc q0 q1 q2 q3 hnw;go_wp2_with fail;refine hli.mono ?_;rintro e w2 ⟨v,L,rfl,hL,⟨R,hR,⟨AL,cL,rfl⟩,hRo,hRt⟩,hLn,hB2⟩;have HL:=Hd hL;have HR:=Hd hR;have HRO:=Hd (show TLRow w2 wc.heap.size (.slice AL R.length cL) R from⟨⟨AL,cL,rfl⟩,hRo,hRt⟩);have hRl:R.length=L.length:=by have:=congrArg List.length hR;simpa [linesT] using this
  have hR1:R.length≤100000:=by omega
  have HT2:=Hd (HTAB.out.under hB2);have HB2:=Hd (bto HB1.out hB2)
  have hin:Hid (∀p∈R,InS T.sizes p.2.1∧inB p.2.2 T.k=true):=by
   intro p hp;have h1:p.2∈linesT T L:=by rw[← hR];exact List.mem_map.2 ⟨p,hp,rfl⟩
   obtain⟨u,hu,e⟩:=List.mem_map.1 h1;obtain⟨cv,hcv⟩:=Option.isSome_iff_exists.1 ((hL.mem u).1 hu).2;have:=hv.dom u cv hcv;rw[← e];simp only[hcv,Option.getD_some];exact this
  clear hli hL hR hRo hRt hRl hB2;go_wp2_with fail
  go_loopw [7,32] (fun _ jv wr => ∃ (i:Nat),jv = .int .i64 i∧i≤R.length∧Hid (TabV wr g2 (fun q=>w.heap.size≤q) (fun q=>w.heap.size≤q) T.sizes T.k (tabF T.sizes (foldF (fun _=>T.other) ((R.map (·.2)).take i))))∧Hid (TLRow wr wc.heap.size (.slice AL R.length cL) R)∧Hid (Below w.heap.size w wr)) (fun _ jv _=>R.length-(intOf jv).toNat)
  case atStart=>exact⟨0,rfl,Nat.zero_le _,by rw[Hid,List.take_zero];have:=HT2.out;rw[new_tabF hz]at this;exact this,HRO.out,HB2.out⟩
  case round =>
   obtain⟨i,rfl,hi,hTab,hrow,hbr⟩:=hrel;by_cases hlt:i<R.length
   ·have hltI:decide ((i:Int)<(R.length:Int))=true:=decide_eq_true (by omega)
    obtain⟨p,hp⟩:∃p,R[i]?=some p:=⟨_,List.getElem?_eq_getElem hlt⟩;have hpm:=List.mem_of_getElem? hp;obtain⟨hpi,hpc⟩:=hin.out p hpm;obtain⟨e1,e2⟩:=lc_at hp;obtain⟨gl,e0,hgl,hgl2⟩:=own_some hrow.out.2.1 (by omega);subst e0;have c0:=(hrow.out.2.1.cellAt (i*2) (by omega)).trans e1;have c1:=(hrow.out.2.1.cellAt (i*2+1) (by omega)).trans e2;obtain⟨⟨At,ct,hpt⟩,hpo⟩:=hrow.out.2.2 p hpm;rw[hpt]at c0 hpo;obtain⟨wx,hwx⟩:∃wx,wr.alloc (.cells #[.slice At p.2.1.length ct,.int .i64 p.2.2] 111)=wx:=⟨_,rfl⟩;have hBx:Below wr.heap.size wr wx:=by rw[← hwx];exact bone wr _
    have hLx:Blk wx wr.heap.size 111 #[.slice At p.2.1.length ct,.int .i64 p.2.2]:=by rw[← hwx];exact Blk.new _ _ _
    obtain⟨x0,x1⟩:=Blk.two (t:=111) hLx;have hput:=tabput_any (hTab.out.under hBx) hz (tabF_len hz _) At p.2.1.length ct p.2.1 p.2.2 (Reads.of_own (own_under hpo hBx)) (ins_int hpi) hpc;rw[set_tabF hz hpi]at hput;have HP:=Hd hp;have HBX:=Hd hBx;have i0:(0:Int)≤(i:Int):=by omega
    have i1:(i:Int)<(R.length:Int):=by omega
    clear hp hpm hpi hpc e1 e2 hpo hBx hLx hpt;go_wp2_with fail;refine hput.mono ?_;rintro e w5 ⟨rfl,hT5,ht5⟩;clear hput;have HT5:=Hd hT5;have HTC:=Hd ht5;clear hT5 ht5;go_wp2_with fail;go_roundw
    case measure=>simp[intOf];omega
    case rel =>
     refine⟨i+1,by go_num,hlt,?_,(hrow.out.under HBX.out).tch HTC.out (off_put (by decide)) (off_put (by decide)),?_⟩
     ·rw[Hid,List.take_add_one,List.getElem?_map,HP.out]
      have:=HT5.out;rw[← foldF_snoc]at this;exact this
     ·exact hbr.out.trans (((Tch.of_below HBX.out _).trans HTC.out fun q hq h=>h).below hbr.out.size fun q hq h=>by have:=h.1;omega)
   ·obtain rfl:i=R.length:=by omega
    have hltI:decide ((R.length:Int)<(R.length:Int))=false:=decide_eq_false (by omega);go_wp2_with fail;go_ret2;refine⟨g2,rfl,?_,hbr.out⟩;have h1:=hTab.out;rw[HR.out,List.take_of_length_le (by have:=congrArg List.length HR.out;simp at this;omega),tabF_congr (fun z hz'=>(hz.2 z hz').1) fun t ht=>fold_get HL.out (ht.tpl hv.ok.1 hv.ok.2.1)]at h1;exact h1
end Go.Proofs.YtjpkkkphhaajgaaGreatDoor.wcp

/- a part -/
import Derived.Test.YtjpkkkphhaajgaaGreatDoorQdP11
import Derived.Test.YtjpkkkphhaajgaaGreatDoorQdRepeat64
set_option linter.all false
namespace Go.Proofs.YtjpkkkphhaajgaaGreatDoor.wcp
open Go RowKit ChangeShapes WideShapes ChangeAt Maps words scn
open shp (Szs prodI InT idxI tupI allI)
def TabV (w:World)(g:Nat)(F R:Nat→Prop)(zs:List Int)(k:Int)(C:List Int):Prop :=
 F g∧∃SA sc CA cc,Blk w g 117 #[.slice SA zs.length sc,.int .i64 k,.slice CA C.length cc] ∧
  w.ownsRow 0 3 1 (.slice SA zs.length sc) zs.length (nums zs)∧(∀q,(Value.slice SA zs.length sc).ownBlock=some q→R q) ∧
  w.ownsRow 0 2 1 (.slice CA C.length cc) C.length (nums C)∧∀q,(Value.slice CA C.length cc).ownBlock=some q→F q
theorem TabV.keep {w w':World}{g:Nat}{F R S:Nat→Prop}{zs:List Int}{k:Int}{C:List Int}(h:TabV w g F R zs k C)(ht:Tch w w' S)(hs:∀q,F q→¬ S q)(hr:∀q,R q→¬ S q):TabV w' g F R zs k C:=by
 obtain⟨hg,SA,sc,CA,cc,hb,h1,h2,h3,h4⟩:=h;exact⟨hg,SA,sc,CA,cc,ht.blk hb (hs _ hg),ht.own h1 fun q hq=>hr q (h2 q hq),h2,ht.own h3 fun q hq=>hs q (h4 q hq),h4⟩
theorem TabV.under {w w':World}{g:Nat}{F R:Nat→Prop}{zs:List Int}{k:Int}{C:List Int}(h:TabV w g F R zs k C)(hb:Below w.heap.size w w'):TabV w' g F R zs k C :=
 h.keep (Tch.of_below hb fun _=>False) (fun _ _ h=>h) fun _ _ h=>h
theorem TabV.mono {w:World}{g:Nat}{F F' R R':Nat→Prop}{zs:List Int}{k:Int}{C:List Int}(h:TabV w g F R zs k C)(hf:∀q,F q→F' q)(hr:∀q,R q→R' q):TabV w g F' R' zs k C:=by
 obtain⟨hg,SA,sc,CA,cc,hb,h1,h2,h3,h4⟩:=h;exact⟨hf _ hg,SA,sc,CA,cc,hb,h1,fun q hq=>hr q (h2 q hq),h3,fun q hq=>hf q (h4 q hq)⟩
theorem TabV.lim {w:World}{g:Nat}{F R:Nat→Prop}{zs:List Int}{k:Int}{C:List Int}(h:TabV w g F R zs k C):TabV w g (fun q=>F q∧q<w.heap.size) (fun q=>R q∧q<w.heap.size) zs k C:=by
 obtain⟨hg,SA,sc,CA,cc,hb,h1,h2,h3,h4⟩:=h;exact⟨⟨hg,hb.lt⟩,SA,sc,CA,cc,hb,h1,fun q hq=>⟨h2 q hq,(own_in h1 hq).2⟩,h3,fun q hq=>⟨h4 q hq,(own_in h3 hq).2⟩⟩
theorem tab_made {w:World}{B B1 B2 n N:Nat}{A1:Option Addr}{c1:Nat}{CA:Option Addr}{cc:Nat}{zs:List Int}{k:Int}{C:List Int}(h1:w.ownsRow B1 3 1 (.slice A1 n c1) n (nums zs))(h2:w.ownsRow B2 2 1 (.slice CA N cc) N (nums C))(hn:zs.length=n)(hN:C.length=N)(hB:B≤w.heap.size)(hB1:B≤B1)(hB2:B≤B2) :
 TabV (w.alloc (.cells #[.slice A1 n c1,.int .i64 k,.slice CA N cc] 117)) w.heap.size (fun q=>B≤q) (fun q=>B≤q) zs k C:=by
 subst hn;subst hN;exact⟨hB,A1,c1,CA,cc,Blk.new _ _ _,own_base (h1.alloc _) (Nat.zero_le _),fun q hq=>by have:=(own_in h1 hq).1;omega,own_base (h2.alloc _) (Nat.zero_le _),fun q hq=>by have:=(own_in h2 hq).1;omega⟩
def New (zs:List Int)(c:Int):List Int:=List.replicate (prodI zs).toNat c
set_option maxRecDepth 100000 in
set_option maxHeartbeats 4000000 in
theorem tabnew_any (A:Option Addr)(n cap:Nat)(zs:List Int)(k fill:Int)(w:World)(hr:Reads w w.heap.size 1 A n (nums zs))(hz:Szs zs)(hp:prodI zs≤4096)(hf:inB fill k=true) :
 Calls Tryz.prog 54 #[.slice A n cap,.int .i64 k,.int .i64 fill] w fun e w' => ∃g,e = .returned (.tuple #[.pointer (some ⟨g,0,none⟩),.int .i64 0])∧TabV w' g (fun q=>w.heap.size≤q) (fun q=>w.heap.size≤q) zs k (New zs fill)∧Below w.heap.size w w':=by
 have hlen:=nums_len hr;have hn6:n≤6:=by have:=hz.1;omega
 have hP:=shp.szs_prod hz;obtain⟨N,hN⟩:∃N:Nat,prodI zs=N:=⟨(prodI zs).toNat,by omega⟩;have hnw:=shp.new_yes A n cap zs w (by omega) hr hz hp;have hin:=fun W=>in_any fill k W
 rw[hf]at hin;obtain⟨iT,hT0,hT1,hT2,hT3⟩:=info_parts info64_;have HZ:=Hd hz;have HN:=Hd hN;have HL:=Hd hlen;have HP:=Hd hp;clear hr hz hlen hp hN hf
 go_enter Tryz.func54,Tryz.ntmps54
 go_wp2_with fail;refine hnw.mono ?_;rintro e w1 ⟨A1,c1,rfl,ho1,hc1,hB1⟩;obtain⟨wa,hwa⟩:∃wa,(w1.alloc (.cells #[.slice none 0 0] 115)).setCell ⟨w1.heap.size,0,none⟩ (.slice A1 n c1)=wa:=⟨_,rfl⟩;have hi:=hin wa;clear hnw;go_wp2_with fail;refine hi.mono ?_;rintro e w2 ⟨rfl,rfl⟩;clear hi hin
 have hBa:Below w1.heap.size w1 wa:=by
  rw[← hwa];exact (bone w1 (.cells #[.slice none 0 0] 115)).setCell (p:=⟨w1.heap.size,0,none⟩) (Nat.le_refl _) _
 have hbx:Blk wa w1.heap.size 115 #[.slice A1 n c1]:=by
  rw[← hwa];exact (Blk.new w1 115 #[.slice none 0 0]).set_ 0 _
 obtain⟨d0,d1⟩:=hbx.one;have HBX:=Hd hbx;have HO1:=Hd ho1;have HB1:=Hd hB1;have HBA:=Hd hBa;have HWA:=Hd hwa
 have hC:Hid (∀W,Below wa.heap.size wa W→Calls Tryz.prog 121 #[.agg #[.slice A1 n c1]] W fun e w'=>e = .returned (.int .i64 N)∧Below W.heap.size W w'):=by
  intro W hW;have:=shp.count_any A1 n c1 zs W (Reads.of_own (own_under HO1.out (bto HBA.out hW))) HZ.out;rw[HN.out]at this;exact this
 have hR:Hid (∀ (W:World) (ad:Addr),W.cell? ad=some (.int .i64 fill)→ad.block<W.heap.size→Calls Tryz.prog 120 #[.slice (some ad) 1 1,.int .i64 N] W fun e w'=>e = .returned (.slice (some ⟨W.heap.size,0,none⟩) N N)∧w'.ownsRow W.heap.size 2 1 (.slice (some ⟨W.heap.size,0,none⟩) N N) N (nums (List.replicate N fill))∧Below W.heap.size W w'):=by
  intro W ad h1 h2;have:=HN.out;exact repeat_any ad 1 fill N W (by omega) (by have:=HP.out;omega) h1 h2
 have hc1:=hC.out wa.drew (below_drewN (Below.refl _ _) 1);have hc2:=hC.out (wa.alloc (.cells #[.int .i64 fill] 2)).drew (below_drewN (bone wa _) 1);have hr2:=fun W (hW:Below (wa.alloc (.cells #[.int .i64 fill] 2)).drew.heap.size (wa.alloc (.cells #[.int .i64 fill] 2)).drew W)=>hR.out W ⟨wa.heap.size,0,none⟩ ((hW.cell (p:=⟨wa.heap.size,0,none⟩) (by simp)).trans (World.cell?_alloc_new wa _ _ _)) (by have:=hW.size;simp at this ⊢;omega)
 have hr1:=fun W=>hR.out (W.alloc (.cells #[.int .i64 fill] 2)) ⟨W.heap.size,0,none⟩ (World.cell?_alloc_new W _ _ _) (by simp)
 have HR1:=Hd hr1;have HR2:=Hd hr2;have HSF:Hid (∀W,Below wa.heap.size wa W→W.cell? ⟨w1.heap.size,0,none⟩=some (.slice A1 n c1)):=fun W hW=>(hW.cell (p:=⟨w1.heap.size,0,none⟩) HBX.out.lt).trans d0
 have dA:(wa.alloc (.cells #[.int .i64 fill] 2)).drew.cell? ⟨w1.heap.size,0,none⟩=some (.slice A1 n c1):=HSF.out (wa.alloc (.cells #[.int .i64 fill] 2)) (bone _ _);clear ho1 hB1 hBa hbx hwa hr1 hr2;go_upto_region 6 with fail
 go_region_held3 (fun W=>W.cell? ⟨w1.heap.size,0,none⟩=some (.slice A1 n c1)) (first | exact d0 | exact dA | exact HSF.out _ HB4.out | exact HSF.out _ (bnew HB4.out _) | exact HSF.out _ HB3.out | exact HSF.out _ HB3w.out) (first
  |(go_at_call 121;refine hc1.mono ?_;rintro e w3 ⟨rfl,hb3⟩;have hrp:=HR1.out w3;have HB3w:=Hd (show Below wa.heap.size wa w3 from⟨hb3.os,hb3.tape,hb3.output,hb3.size,hb3.block⟩);have HB3:=Hd (show Below wa.heap.size wa (w3.alloc (.cells #[.int .i64 fill] 2)) from bnew (show Below wa.heap.size wa w3 from⟨hb3.os,hb3.tape,hb3.output,hb3.size,hb3.block⟩) _);clear hc1 hc2 hb3)
  |(go_at_call 121;refine hc2.mono ?_;rintro e w3 ⟨rfl,hb3⟩;have hrp:=HR2.out w3 hb3;have HB3:=Hd (show Below wa.heap.size wa w3 from bto (below_drewN (bone wa _) 1) hb3);have HB3w:=HB3;clear hc1 hc2 hb3)
  |(go_at_call 120;refine hrp.mono ?_;rintro e w4 ⟨rfl,ho4,hb4⟩;have HB4:=Hd (bto HB3.out hb4);have HO4:=Hd ho4;clear hrp ho4 hb4))
 all_goals
  have HO14:=Hd (own_under HO1.out (bto HBA.out HB4.out));go_wp2_with fail;go_ret2;have hNN:(New zs fill).length=N:=by unfold New;rw[List.length_replicate,HN.out];omega
  have hB14:=bto HB1.out (bto HBA.out HB4.out);have hsz:=hB14.size;have hs1:=HB1.out.size;have hsa:=HBA.out.size;have hsw:=HB3w.out.size;have hRR:New zs fill=List.replicate N fill:=by unfold New;rw[HN.out];rfl
  have hO4:=HO4.out;rw[← hRR]at hO4
  try rw[World.size_alloc]at hO4
  have hs4:w.heap.size≤w3.heap.size:=by omega
  have hs5:w.heap.size≤w3.heap.size+1:=by omega
  first
  |refine⟨_,rfl,tab_made HO14.out hO4 HL.out hNN hsz (Nat.le_refl _) hs4,bnew hB14 _⟩
  |refine⟨_,rfl,tab_made HO14.out hO4 HL.out hNN hsz (Nat.le_refl _) hs5,bnew hB14 _⟩
theorem own_set {w:World}{base:Nat}{e:TypeId}{n c g j:Nat}{ys:List Int}(h:w.ownsRow base e 1 (.slice (some ⟨g,0,none⟩) n c) n (nums ys))(v:Int) :
 (w.setCell ⟨g,j,none⟩ (.int .i64 v)).ownsRow base e 1 (.slice (some ⟨g,0,none⟩) n c) n (nums (ys.set j v)):=by
 have:=(h.stored j (.int .i64 v)).1;unfold nums at this ⊢
 rwa [List.map_set]
theorem Blk.three {w:World}{g:Nat}{t:TypeId}{a b c:Value}(h:Blk w g t #[a,b,c]):w.cell? ⟨g,0,none⟩=some a∧w.cell? ⟨g,1,none⟩=some b∧w.cell? ⟨g,2,none⟩=some c:=⟨h.cell 0,h.cell 1,h.cell 2⟩
theorem ins_int {zs t:List Int}(h:InS zs t):InT zs t:=by
 refine⟨h.1,fun p hp=>?_⟩;obtain⟨i,hi⟩:=List.getElem?_of_mem hp;obtain⟨h1,h2⟩:=List.getElem?_zip_eq_some.1 hi;exact h.2 i p.1 p.2 h1 h2
theorem int_ins {zs t:List Int}(h:InT zs t):InS zs t :=
 ⟨h.1,fun i v z hv hz=>h.2 (v,z) (List.mem_iff_getElem?.2 ⟨i,List.getElem?_zip_eq_some.2 ⟨hv,hz⟩⟩)⟩
def at_C (zs C t:List Int):Int:=C.getD (idxI zs t).toNat 0
theorem at_any {w:World}{g:Nat}{F R:Nat→Prop}{zs:List Int}{k:Int}{C:List Int}(h:TabV w g F R zs k C)(hz:Szs zs)(A:Option Addr)(n cap:Nat)(t:List Int)(hr:Reads w w.heap.size 1 A n (nums t))(ht:InT zs t) :
 Calls Tryz.prog 126 #[.pointer (some ⟨g,0,none⟩),.slice A n cap] w fun e w'=>e = .returned (.tuple #[.int .i64 (idxI zs t),.int .i64 0])∧Below w.heap.size w w':=by
 obtain⟨hg,SA,sc,CA,cc,hb,h1,h2,h3,h4⟩:=h;have hl:=nums_len hr;have hn:n=zs.length:=by rw[← hl];exact ht.1
 subst hn;have hix:=shp.index_any SA A zs.length sc cap zs t w (by have:=hz.1;omega) (Reads.of_own h1) hr hz;rw[show shp.idxV zs t=idxI zs t from if_pos ht,show shp.idxE zs t=0 from if_pos ht]at hix;obtain⟨q0,q1,q2⟩:=Blk.three (t:=117) hb;clear hb h1 h2 h3 h4 hr
 go_enter Tryz.func126,Tryz.ntmps126
 go_wp2_with fail;refine hix.mono ?_;rintro e w1 ⟨rfl,hb1⟩;clear hix;go_wp2_with fail;go_ret2;exact⟨rfl,hb1⟩
theorem tabget_any {w:World}{g:Nat}{F R:Nat→Prop}{zs:List Int}{k:Int}{C:List Int}(h:TabV w g F R zs k C)(hz:Szs zs)(hC:(C.length:Int)=prodI zs)(A:Option Addr)(n cap:Nat)(t:List Int)(hr:Reads w w.heap.size 1 A n (nums t))(ht:InT zs t) :
 Calls Tryz.prog 107 #[.pointer (some ⟨g,0,none⟩),.slice A n cap] w fun e w'=>e = .returned (.tuple #[.int .i64 (at_C zs C t),.int .i64 0])∧Below w.heap.size w w':=by
 have hat:=at_any h hz A n cap t hr ht;obtain⟨i0,i1⟩:=shp.idx_bd hz ht.2 ht.1;obtain⟨i,hi⟩:∃i:Nat,idxI zs t=i:=⟨(idxI zs t).toNat,by omega⟩;have hat_:at_C zs C t=C.getD i 0:=by unfold at_C;rw[hi];rfl
 rw[hi]at hat i0 i1;rw[hat_];obtain⟨x,hx⟩:∃x,C.getD i 0=x:=⟨_,rfl⟩;rw[hx];have HX:=Hd hx;clear hx;have hiC:i<C.length:=by omega
 have HH:=Hd h;clear h hr hi hat_
 go_enter Tryz.func107,Tryz.ntmps107
 go_wp2_with fail;refine hat.mono ?_;rintro e w1 ⟨rfl,hb1⟩;obtain⟨hg,SA,sc,CA,cc,hb,h1,h2,h3,h4⟩:=HH.out.under hb1;obtain⟨q0,q1,q2⟩:=Blk.three (t:=117) hb;obtain⟨ad,v,rfl,_,hv,hcl⟩:=(Reads.of_own h3).num hiC;obtain rfl:v=x:=by rw[← HX.out];simp[List.getD,hv]
 have HB:=Hd hb1;clear hat hb1 hb h1 h2 h3 h4 hv;go_wp2_with fail;go_ret2;exact⟨rfl,HB.out⟩
theorem tabput_any {w:World}{g:Nat}{F R:Nat→Prop}{zs:List Int}{k:Int}{C:List Int}(h:TabV w g F R zs k C)(hz:Szs zs)(hC:(C.length:Int)=prodI zs)(A:Option Addr)(n cap:Nat)(t:List Int)(c:Int)(hr:Reads w w.heap.size 1 A n (nums t))(ht:InT zs t)(hc:inB c k=true) :
 Calls Tryz.prog 56 #[.pointer (some ⟨g,0,none⟩),.slice A n cap,.int .i64 c] w fun e w'=>e = .returned (.int .i64 0)∧TabV w' g F R zs k (C.set (idxI zs t).toNat c)∧Tch w w' (fun q=>F q∧∃cs,Blk w q 2 cs):=by
 have hat:=at_any h hz A n cap t hr ht;obtain⟨i0,i1⟩:=shp.idx_bd hz ht.2 ht.1;obtain⟨i,hi⟩:∃i:Nat,idxI zs t=i:=⟨(idxI zs t).toNat,by omega⟩;rw[hi]at hat i0 i1 ⊢;rw[show ((i:Int)).toNat=i from rfl];have hiC:i<C.length:=by omega
 have HH:=Hd h;have hcI:=fun W=>in_any c k W
 rw[hc]at hcI;clear h hr hi
 go_enter Tryz.func56,Tryz.ntmps56
 go_wp2_with fail;refine hat.mono ?_;rintro e w1 ⟨rfl,hb1⟩;obtain⟨hg,SA,sc,CA,cc,hb,h1,h2,h3,h4⟩:=HH.out.under hb1;obtain⟨q0,q1,q2⟩:=Blk.three (t:=117) hb;obtain⟨ad,v,e0,_,hv,hcl⟩:=(Reads.of_own h3).num hiC;obtain⟨b,rfl,hb0,hbl⟩:=own_some h3 (by omega);obtain rfl:=Option.some.inj e0;have hfr:=h3.frozenAt i;obtain⟨u,hu⟩:∃u,(nums C)[i]?=some u:=⟨_,List.getElem?_eq_getElem (by simp[nums];omega)⟩;have hcj:=(h3.cellAt i (by omega)).trans hu;clear hu hcl;have hci:=hcI w1;have HB:=Hd hb1;have HT:=Hd (show TabV w1 g F R zs k C from⟨hg,SA,sc,_,cc,hb,h1,h2,h3,h4⟩);have HBK:=Hd hb;have H1:=Hd h1;have H2:=Hd h2;have H3:=Hd h3;have H4:=Hd h4;clear hat hb1 hb h1 h2 h3 h4 hv hcI e0;go_wp2_with fail;refine hci.mono ?_;rintro e w2 ⟨rfl,rfl⟩;clear hci;go_wp2_with fail;go_ret;have T1:Tch w1 (w1.setCell ⟨b,i,none⟩ (.int .i64 c)) (fun q=>F q∧∃cs,Blk w1 q 2 cs):=Tch.set_ w1 (p:=⟨b,i,none⟩) _ ⟨H4.out b rfl,own_is H3.out rfl⟩;have hlc:(C.set i c).length=C.length:=List.length_set;refine⟨rfl,⟨hg,SA,sc,some ⟨b,0,none⟩,cc,by rw[hlc];exact T1.blk HBK.out fun h=>by obtain⟨cs,hcs⟩:=h.2;exact Blk.ne_ HBK.out hcs (by decide) rfl,T1.own H1.out fun q hq h=>?_,H2.out,?_,by rw[List.length_set];exact H4.out⟩,(Tch.of_below HB.out _).trans T1 fun q hq h=>⟨h.1,?_⟩⟩
 ·obtain⟨cs,hcs⟩:=h.2;exact own_blk_ne H1.out hcs (by decide) hq
 ·rw[List.length_set]
  exact own_set H3.out c
 ·obtain⟨cs,hcs⟩:=h.2
  exact⟨cs,(HB.out.block q hq).symm.trans hcs⟩
end Go.Proofs.YtjpkkkphhaajgaaGreatDoor.wcp
namespace Go.Proofs.YtjpkkkphhaajgaaGreatDoor.wcp
open Go words scn
open shp (Szs prodI InT idxI tupI allI)
def tabF (zs:List Int)(f:List Int→Int):List Int:=(allI zs).map f
theorem mem_pre {R:List (List Int)}{v:Nat}{t:List Int}:t∈shp.preI R v↔∃ (u:Nat) (r:List Int),u<v∧r∈R∧t=(u:Int)::r:=by
 unfold shp.preI;rw[List.mem_flatMap];constructor
 ·rintro ⟨u,hu,ht⟩
  obtain⟨r,hr,rfl⟩:=List.mem_map.1 ht;exact⟨u,r,List.mem_range.1 hu,hr,rfl⟩
 ·rintro ⟨u,r,hu,hr,rfl⟩
  exact⟨u,List.mem_range.2 hu,List.mem_map.2 ⟨r,hr,rfl⟩⟩
theorem ins_cons {x v:Int}{zs t:List Int}:InS (x::zs) (v::t)↔(0≤v∧v<x)∧InS zs t:=by
 unfold InS;constructor
 ·rintro ⟨h1,h2⟩
  exact⟨h2 0 v x rfl rfl,by simpa using h1,fun i a b ha hb=>h2 (i+1) a b (by simpa using ha) (by simpa using hb)⟩
 ·rintro ⟨h0,h1,h2⟩
  refine⟨by simpa using h1,fun i a b ha hb=>?_⟩
  cases i with
  | zero =>
    obtain rfl:v=a:=by simpa using ha
    obtain rfl:x=b:=by simpa using hb
    exact h0
  |succ i=>exact h2 i a b (by simpa using ha) (by simpa using hb)
theorem mem_all:∀ {zs t:List Int},(∀z∈zs,1≤z)→(t∈allI zs↔InS zs t):=by
 intro zs
 induction zs with
 | nil =>
   intro t _;unfold shp.allI InS
   cases t with
   |nil=>simp
   |cons v t=>simp
 | cons x zs ih =>
   intro t hz;rw[shp.all_cons,mem_pre];have hx:=hz x (by simp);have ih':=fun t=>ih (t:=t) fun z h=>hz z (by simp[h])
   constructor
   ·rintro ⟨u,r,hu,hr,rfl⟩
    exact ins_cons.2 ⟨by omega,(ih' r).1 hr⟩
   ·intro h
    cases t with
    |nil=>exact absurd h.1 (by simp)
    | cons v t =>
      obtain⟨h1,h2⟩:=ins_cons.1 h;exact⟨v.toNat,t,by omega,(ih' t).2 h2,by rw[Int.toNat_of_nonneg h1.1]⟩
theorem tabF_len {zs:List Int}(h:Szs zs)(f:List Int→Int):((tabF zs f).length:Int)=prodI zs:=by
 unfold tabF;rw[List.length_map];exact shp.all_len fun x hx=>(h.2 x hx).1
theorem all_place {zs t:List Int}(h:Szs zs)(ht:InS zs t):(allI zs)[(idxI zs t).toNat]?=some t:=by
 obtain⟨i,hi⟩:=List.getElem?_of_mem ((mem_all fun z hz=>(h.2 z hz).1).2 ht);have hl:=(List.getElem?_eq_some_iff.1 hi).1
 have hp:(i:Int)<prodI zs:=by
  have:=shp.all_len (xs:=zs) fun x hx=>(h.2 x hx).1
  omega
 have:=shp.all_at h i hp;rw[hi]at this;injection this with this
 have h2:=shp.idx_full h (i:=(i:Int)) (by omega) hp;rw[← this]at h2;rw[h2];exact hi
theorem all_nodup {zs:List Int}(h:Szs zs):(allI zs).Nodup:=by
 rw[List.Nodup,List.pairwise_iff_getElem];intro i j hi hj hij e;have hp:=shp.all_len (xs:=zs) fun x hx=>(h.2 x hx).1
 have h1:=shp.all_at h i (by omega);have h2:=shp.all_at h j (by omega);rw[List.getElem?_eq_getElem hi]at h1;rw[List.getElem?_eq_getElem hj]at h2;injection h1 with h1
 injection h2 with h2
 have h3:=shp.idx_full h (i:=(i:Int)) (by omega) (by omega);have h4:=shp.idx_full h (i:=(j:Int)) (by omega) (by omega);rw[← h1,e,h2,h4]at h3;omega
theorem nodup_idx {α:Type}{l:List α}(h:l.Nodup){i j:Nat}{x:α}(h1:l[i]?=some x)(h2:l[j]?=some x):i=j:=by
 obtain⟨hi,e1⟩:=List.getElem?_eq_some_iff.1 h1;obtain⟨hj,e2⟩:=List.getElem?_eq_some_iff.1 h2;rw[List.Nodup,List.pairwise_iff_getElem]at h;rcases Nat.lt_trichotomy i j with h' | h' | h'
 ·exact absurd (e1.trans e2.symm) (h i j hi hj h')
 ·exact h'
 ·exact absurd (e2.trans e1.symm) (h j i hj hi h')
theorem at_tabF {zs t:List Int}(h:Szs zs)(ht:InS zs t)(f:List Int→Int):at_C zs (tabF zs f) t=f t:=by
 unfold at_C tabF;simp only[List.getD,List.getElem?_map,all_place h ht,Option.map_some,Option.getD_some]
def updF (f:List Int→Int)(t:List Int)(c:Int):List Int→Int:=fun u=>if u=t then c else f u
theorem set_tabF {zs t:List Int}(h:Szs zs)(ht:InS zs t)(f:List Int→Int)(c:Int):(tabF zs f).set (idxI zs t).toNat c=tabF zs (updF f t c):=by
 apply List.ext_getElem?
 intro i;rw[List.getElem?_set];have hpl:=all_place h ht;have hlt:=(List.getElem?_eq_some_iff.1 hpl).1;unfold tabF;by_cases hi:(idxI zs t).toNat=i
 ·subst hi
  rw[if_pos rfl,if_pos (by rw[List.length_map];exact hlt),List.getElem?_map,hpl];simp[updF]
 ·rw[if_neg hi,List.getElem?_map,List.getElem?_map]
  cases hu:(allI zs)[i]? with
  |none=>rfl
  | some u =>
    have:u≠t:=by
     rintro rfl;exact hi (nodup_idx (all_nodup h) hpl hu)
    simp[updF,this]
theorem tabF_congr {zs:List Int}{f g:List Int→Int}(hz:∀z∈zs,1≤z)(h:∀t,InS zs t→f t=g t):tabF zs f=tabF zs g:=by
 unfold tabF;exact List.map_congr_left fun t ht=>h t ((mem_all hz).1 ht)
theorem new_tabF {zs:List Int}(h:Szs zs)(c:Int):New zs c=tabF zs fun _=>c:=by
 unfold New tabF;rw[List.map_const',show (allI zs).length=(prodI zs).toNat by have:=shp.all_len (xs:=zs) fun x hx=>(h.2 x hx).1;omega]
def foldF (f:List Int→Int)(ls:List (List Int × Int)):List Int→Int:=ls.foldl (fun f l=>updF f l.1 l.2) f
theorem foldF_snoc (f:List Int→Int)(ls:List (List Int × Int))(l:List Int × Int):foldF f (ls ++ [l])=updF (foldF f ls) l.1 l.2:=by unfold foldF;rw[List.foldl_append];rfl
theorem foldF_at {f:List Int→Int}:∀ {ls:List (List Int × Int)} {h:List Int→Int} {t:List Int},(∀l∈ls,l.2=h l.1)→foldF f ls t=if t∈ls.map (·.1) then h t else f t:=by
 intro ls
 induction ls generalizing f with
 |nil=>intro h t _;simp[foldF]
 | cons l ls ih =>
   intro h t hl;have:=ih (f:=updF f l.1 l.2) (h:=h) (t:=t) fun x hx=>hl x (by simp[hx])
   show foldF (updF f l.1 l.2) ls t=_;rw[this];by_cases h1:t∈ls.map (·.1)
   ·rw[if_pos h1,if_pos (by rw[List.map_cons];exact List.mem_cons_of_mem _ h1)]
   ·rw[if_neg h1]
    unfold updF;by_cases h2:t=l.1
    ·subst h2
     rw[if_pos rfl,if_pos (by simp)];exact hl l (by simp)
    ·rw[if_neg h2,if_neg (by rw[List.map_cons];exact fun h=>by rcases List.mem_cons.1 h with h | h;exact h2 h;exact h1 h)]
structure okV (T:TpH):Prop where
 ok:okT T
 dom:∀t c,T.f t=some c→InS T.sizes t∧inB c T.k=true
end Go.Proofs.YtjpkkkphhaajgaaGreatDoor.wcp
namespace Go.Proofs.YtjpkkkphhaajgaaGreatDoor.wcp
open Go RowKit ChangeShapes WideShapes ChangeAt Maps words scn
def IsRise (l:List Int):Prop:=(∀v∈l,0≤v∧v≤1000000)∧l.Pairwise (· < ·)
set_option maxRecDepth 100000 in
set_option maxHeartbeats 8000000 in
theorem rises_any {w:World}{g:Nat}{F R:Nat→Prop}{zs:List Int}{k:Int}{C:List Int}(h:TabV w g F R zs k C)(A:Option Addr)(n cap:Nat)(l:List Int)(hr:Reads w w.heap.size 1 A n (nums l))(hi:IsRise l)(hl:l.length=zs.length)(hn:n≤4096) :
 Calls Tryz.prog 103 #[.pointer (some ⟨g,0,none⟩),.slice A n cap] w fun e w'=>e = .returned (.bool true)∧Below w.heap.size w w':=by
 obtain⟨-,SA,sc,CA,cc,hb,-,-,-,-⟩:=h;have hnl:=nums_len hr;obtain⟨q0,q1,q2⟩:=Blk.three (t:=117) hb;have har:=shp.arity_any SA zs.length sc w (by omega);rw[← hl,hnl]at har;rw[← hl,hnl]at q0;have hne:((n:Int) != (n:Int))=false:=by simp
 have HR:=Hd hr;have HI:=Hd hi;clear hb hr hi q1 q2
 go_enter Tryz.func103,Tryz.ntmps103
 go_wp2_with fail;refine har.mono ?_;rintro e w1 ⟨rfl,hb1⟩;clear har;have HB1:=Hd hb1;have HR1:=Hd (HR.out.below hb1);clear hb1;go_wp2_with fail
 go_loopw [5,6,17] (fun _ _ iv wr => ∃j:Nat,iv = .int .i64 j∧j≤n∧w1=wr) (fun _ _ iv _=>n-(intOf iv).toNat)
 case atStart=>exact⟨0,rfl,Nat.zero_le _,rfl⟩
 case round =>
  obtain⟨j,rfl,hj,rfl⟩:=hrel;by_cases hlt:j<n
  ·obtain⟨ad,v,rfl,_,hx,hc⟩:=HR1.out.num hlt
   obtain⟨v0,v1⟩:=HI.out.1 v (List.mem_of_getElem? hx);have hv0:decide (v<0)=false:=decide_eq_false (by omega);have i0:(0:Int)≤(j:Int):=by omega
   have i1:(j:Int)<(n:Int):=by omega
   by_cases h0:j=0
   ·have hgt:decide ((0:Int)<(j:Int))=false:=decide_eq_false (by omega)
    have hgt2:decide (0<j)=false:=decide_eq_false (by omega);have hgt3:¬ 0<j:=by omega
    have H0:=Hd h0;clear hx h0;go_wp2_with fail;go_roundw
    case rel=>exact⟨j+1,by go_num,hlt,by first | rfl | trivial⟩
    case measure=>simp[intOf];omega
   ·obtain⟨i,hij⟩:∃i,j=i+1:=⟨j-1,by omega⟩
    obtain⟨ad',u,had,_,hu,hcu⟩:=HR1.out.num (show i<n by omega);obtain rfl:=Option.some.inj had
    have huv:u<v:=by
     obtain⟨h1,e1⟩:=List.getElem?_eq_some_iff.1 hu;obtain⟨h2,e2⟩:=List.getElem?_eq_some_iff.1 hx;rw[← e1,← e2];exact List.pairwise_iff_getElem.1 HI.out.2 i j h1 h2 (by omega)
    have hge:decide (v≤u)=false:=decide_eq_false (by omega);have hgt:decide ((0:Int)<(j:Int))=true:=decide_eq_true (by omega);have hsub:IntKind.i64.wrap ((j:Int)-1)=(i:Int):=by rw[IntWalk.i64_in _ (by omega)];omega
    have hgt2:decide (0<j)=true:=decide_eq_true (by omega);have hgt3:0<j:=by omega
    obtain rfl:i=j-1:=by omega
    have i2:(0:Int)≤(j:Int)-1:=by omega
    have i3:(j:Int)-1<(n:Int):=by omega
    have i4:(1:Int)≤(j:Int):=by omega
    have i5:1≤j:=by omega
    have hwr:IntKind.i64.wrap ((j:Int)-1)=(j:Int)-1:=IntWalk.i64_in _ (by omega);have HIJ:=Hd hij;clear hx hu had hij h0;go_wp2_with fail;go_roundw
    case rel=>exact⟨j+1,by go_num,hlt,by first | rfl | trivial⟩
    case measure=>simp[intOf];omega
  ·obtain rfl:n=j:=by omega
   go_wp2_with fail;go_ret;exact⟨rfl,HB1.out⟩
end Go.Proofs.YtjpkkkphhaajgaaGreatDoor.wcp
